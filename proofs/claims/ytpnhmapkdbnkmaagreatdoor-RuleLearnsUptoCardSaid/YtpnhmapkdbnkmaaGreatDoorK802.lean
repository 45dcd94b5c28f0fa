/- Parts of these proofs, one behind the other: WideB, LogA, LogB. No condition. -/
import Derived.Test.YtpnhmapkdbnkmaaGreatDoorK801
import Derived.Test.YtpnhmapkdbnkmaaGreatDoorShelf
import Derived.Laws.Externs
import Derived.Test.YtpnhmapkdbnkmaaGreatDoorProg
import Derived.Lib.Hide
import Derived.Deep.QuietTactic
/- Of two numbers of nine words the greater one; a number by itself. No condition. -/
namespace Go.Proofs.YtpnhmapkdbnkmaaGreatDoor
open Go Go.RowKit Go.Great
set_option maxHeartbeats 1000000 in
set_option maxRecDepth 100000 in
theorem wless_c (l m : List Nat) (w : World) (hl : WdB l) (hm : WdB m) : Calls Tryz.prog 152 #[.agg (wv l), .agg (wv m)] w (Ret w (.bool (decide (vW l < vW m)))) := by
  have hsz : (Value.agg (wv l)).cells = wv l := rfl
  have hsz2 : (Value.agg (wv m)).cells = wv m := rfl
  have HL := Lib.hid hl; have HM := Lib.hid hm
  clear hl hm
  go_enter Tryz.func152, Tryz.ntmps152
  go_wp2
  have hW0 : Wx (w.alloc (.cells (wv l) 252)) w.heap.size l := heap_alloc_new w _
  have hW1 : Wx ((w.alloc (.cells (wv l) 252)).alloc (.cells (wv m) 252)) w.heap.size l := hW0.below (Bal (Below.refl _ _) _)
  have hW2 : Wx ((w.alloc (.cells (wv l) 252)).alloc (.cells (wv m) 252)) (w.heap.size + 1) m := heap_alloc2_new w (.cells (wv l) 252) (.cells (wv m) 252)
  have hB : Below w.heap.size w ((w.alloc (.cells (wv l) 252)).alloc (.cells (wv m) 252)) := Bel
  go_loopw [5] (fun s wr => ∃ k : Nat, k ≤ 9 ∧ s = .int .i64 ((k : Int) - 1) ∧ Hid (l.drop k = m.drop k) ∧ Hid (Wx wr w.heap.size l) ∧ Hid (Wx wr (w.heap.size + 1) m) ∧ Below w.heap.size w wr) (fun s _ => (intOf s + 1).toNat)
  case atStart => exact ⟨9, by omega, rfl, by show _ = _; rw [List.drop_of_length_le (by rw [HL.out.1]; omega), List.drop_of_length_le (by rw [HM.out.1]; omega)], hW1, hW2, hB⟩
  case round =>
    clear hW0 hW1 hW2 hB
    obtain ⟨k, hk, rfl, HE, HA, HB, hb⟩ := hrel
    cases k with
    | zero =>
      have he := HE.out
      simp only [List.drop_zero] at he
      have HV : Hid (decide (vW l < vW m) = false) := by show decide _ = _; rw [he]; simp
      clear he
      go_wp2
      go_ret
      exact ⟨by rw [HV.out]; rfl, Bel⟩
    | succ k =>
      have hk1 : k < l.length := by rw [HL.out.1]; omega
      have hk2 : k < m.length := by rw [HM.out.1]; omega
      have cA := HA.out.cell k hk1
      have cB := HB.out.cell k hk2
      have e0 : ((k + 1 : Nat) : Int) - 1 = k := by omega
      rw [e0]
      have i1 : (k : Int) < 9 := by omega
      have hz := HL.out.1
      have w1 : IntKind.i64.wrap (k : Int) = k := IntWalk.i64_in _ (by omega)
      obtain ⟨x, hx⟩ : ∃ x, l[k] = x := ⟨_, rfl⟩
      obtain ⟨y, hy⟩ : ∃ y, m[k] = y := ⟨_, rfl⟩
      rw [hx] at cA
      rw [hy] at cB
      obtain ⟨bz, hbz⟩ : ∃ bz, ((x : Int) != y) = bz := ⟨_, rfl⟩
      have HBZ := Lib.hid hbz
      have HN : Hid (bz = false → l.drop k = m.drop k) := fun h => by
        rw [h] at hbz
        rw [List.drop_eq_getElem_cons hk1, List.drop_eq_getElem_cons hk2, HE.out, hx, hy]
        congr 1
        have h' : (x : Int) = y := by simpa using hbz
        omega
      have HT : Hid (bz = true → decide (vW l < vW m) = decide (x < y)) := fun h => by
        rw [h] at hbz
        have hne : (x : Int) ≠ y := by simpa using hbz
        rcases Nat.lt_or_ge x y with h1 | h1
        · have := vW_less HL.out HM.out k hk1 hk2 HE.out (by rw [hx, hy]; exact h1)
          rw [decide_eq_true this, decide_eq_true (by omega)]
        · have := vW_less HM.out HL.out k hk2 hk1 HE.out.symm (by rw [hx, hy]; omega)
          rw [decide_eq_false (by omega), decide_eq_false (by omega)]
      clear hx hy hz
      go_wp2_with fail
      refine region_qall (by kernel_rfl) (by kernel_rfl) (fun W => ∃ n, W = World.drewN _ n) ⟨1, rfl⟩ ?_
      repeat (quiet_step (fail))
      refine wpQuiet_nil ?_
      intro _ hw'
      obtain ⟨nq, rfl⟩ := hw'
      go_wp2_with fail
      · have hb' : bz = true := by assumption
        refine region_qall (by kernel_rfl) (by kernel_rfl) (fun W => ∃ n, W = World.drewN _ n) ⟨1, rfl⟩ ?_
        repeat (quiet_step (fail))
        refine wpQuiet_nil ?_
        intro _ hw'
        obtain ⟨nq2, rfl⟩ := hw'
        go_wp2_with fail
        go_ret
        exact ⟨by rw [HT.out hb']; rfl, Bel⟩
      · have hb' : bz = false := by assumption
        exact ⟨⟨k, by omega, rfl, HN.out hb', HA.out, HB.out, Bel⟩, by simp [intOf]⟩
/-- What is the same but for some of q, and less than q, is the same. -/
theorem unwrap {a b n q : Int} (h0 : 0 ≤ a) (h1 : a < n) (h2 : 0 ≤ b) (h3 : b < n) (h : a + q * n = b) : a = b := by
  have e : q = 0 := by
    rcases Int.lt_trichotomy q 0 with h4 | h4 | h4
    · exfalso
      have h5 : q * n ≤ -1 * n := Int.mul_le_mul_of_nonneg_right (by omega) (by omega)
      omega
    · exact h4
    · exfalso
      have h5 : 1 * n ≤ q * n := Int.mul_le_mul_of_nonneg_right (by omega) (by omega)
      omega
  subst e
  omega
theorem add64_c (x y : Nat) (w : World) : (callFunc 200 #[.int .u64 x, .int .u64 y, .int .u64 0]).run Tryz.prog w = .ok (.value (.tuple #[.int .u64 (((x + y) % 18446744073709551616 : Nat) : Int), .int .u64 (((x + y) / 18446744073709551616 : Nat) : Int)])) w := by
  rw [run_callFunc_extern Tryz.func200 (by kernel_rfl) (by kernel_rfl) (by kernel_rfl) (e := add64Entry) (by kernel_rfl), run_add64 x y 0 (by omega) (by omega) (by omega) (by omega)]
  simp only [Result.andThen]
  congr 5 <;> omega
set_option maxHeartbeats 2000000 in
set_option maxRecDepth 100000 in
theorem square_c (l : List Nat) (w : World) (hl : WdB l) : Calls Tryz.prog 153 #[.agg (wv l)] w fun e w' => ∃ m, e = .returned (.agg (wv m)) ∧ Below w.heap.size w w' ∧ WdB m ∧ (vW l * vW l < 18446744073709551616 ^ 9 → vW m = vW l * vW l) := by
  have hsz : (Value.agg (wv l)).cells = wv l := rfl
  have hW0 : Wx (w.alloc (.cells (wv l) 252)) w.heap.size l := heap_alloc_new w _
  have hW1 : Wx ((w.alloc (.cells (wv l) 252)).alloc (.cells (wv [0, 0, 0, 0, 0, 0, 0, 0, 0]) 252)) w.heap.size l := hW0.below (Bal (Below.refl _ _) _)
  go_enter Tryz.func153, Tryz.ntmps153
  go_wp2_with (refine wpList_load_row rfl 252 (.tmp 1) rfl w.heap.size rfl 252 (wv l) (0, 0) _ hW1 Tryz.underlying252 rfl (by rw [wv_size, hl.1]; exact info_wide) ?_)
  have hW2 : Wx ((w.alloc (.cells (wv l) 252)).alloc (.cells (wv [0, 0, 0, 0, 0, 0, 0, 0, 0]) 252)) (w.heap.size + 1) [0, 0, 0, 0, 0, 0, 0, 0, 0] := heap_alloc2_new w (.cells (wv l) 252) (.cells (wv [0, 0, 0, 0, 0, 0, 0, 0, 0]) 252)
  have hB : Below w.heap.size w ((w.alloc (.cells (wv l) 252)).alloc (.cells (wv [0, 0, 0, 0, 0, 0, 0, 0, 0]) 252)) := Bel
  go_loopw [11] (fun s wr => ∃ (i : Nat) (m : List Nat), i ≤ 9 ∧ s = .int .i64 i ∧ Hid (Wx wr w.heap.size l) ∧ Hid (Wx wr (w.heap.size + 1) m) ∧ Hid (WdB m ∧ ∃ q : Int, vW m + q * 18446744073709551616 ^ 9 = vW (l.take i) * vW l) ∧ Below w.heap.size w wr) (fun s _ => 9 - (intOf s).toNat)
  case atStart => exact ⟨0, _, by omega, rfl, hW1, hW2, ⟨⟨rfl, by simp⟩, 0, by simp [vW, valB]⟩, hB⟩
  case round =>
    clear hW0 hW1 hW2 hB
    obtain ⟨i, m, hi, rfl, HA, HB, HM, hb⟩ := hrel
    by_cases hlt : i < 9
    · have hkl : i < l.length := by rw [hl.1]; exact hlt
      have hidx : ∀ W, (Instr.index 252 (.agg (wv l)) (.int .i64 i)).run Tryz.prog W = .ok (.int .u64 (l[i] : Nat)) W := index_wv l i hkl hlt
      obtain ⟨x, hx⟩ : ∃ x, l[i] = x := ⟨_, rfl⟩
      have hxl := hl.at i hkl
      rw [hx] at hidx hxl
      have hx := Lib.hid hx
      have h9 : (9 : Int) - i = ((9 - i : Nat) : Int) := by omega
      have hlt9 : (i : Int) < 9 := by omega
      obtain ⟨V0, hV0⟩ : ∃ V0, vW m = V0 := ⟨_, rfl⟩
      have hV0 := Lib.hid hV0
      have HQ : Hid (∃ q : Int, V0 + q * 18446744073709551616 ^ 9 = vW (l.take i) * vW l) := by rw [← hV0.out]; exact HM.out.2
      go_wp2
      go_loopw [5, 17] (fun c s wr => ∃ (k c' : Nat) (m : List Nat), i + k ≤ 9 ∧ s = .int .i64 k ∧ c = .int .u64 (c' : Int) ∧ c' < 18446744073709551616 ∧ Hid (Wx wr w.heap.size l) ∧ Hid (Wx wr (w.heap.size + 1) m) ∧ Hid (WdB m ∧ vW m + c' * 18446744073709551616 ^ (i + k) = V0 + x * vW (l.take k) * 18446744073709551616 ^ i) ∧ Below w.heap.size w wr) (fun _ s _ => 9 - (intOf s).toNat)
      case atStart => exact ⟨0, 0, m, by omega, rfl, rfl, by omega, HA, HB, ⟨HM.out.1, by rw [hV0.out]; simp [vW, valB]⟩, hb⟩
      case round =>
        clear HA HB HM hb hV0
        obtain ⟨k, c', m, hk, rfl, rfl, hc, HA, HB, HM, hb⟩ := hrel
        by_cases hkt : i + k < 9
        · have hk1 : k < l.length := by rw [hl.1]; omega
          have hk2 : i + k < m.length := by rw [HM.out.1.1]; omega
          have cA := HA.out.cell k hk1
          have cB := HB.out.cell (i + k) hk2
          have fB := HB.out.free (i + k)
          obtain ⟨y, hy⟩ : ∃ y, l[k] = y := ⟨_, rfl⟩
          have hyl := hl.at k hk1
          rw [hy] at cA hyl
          have hy := Lib.hid hy
          obtain ⟨o, ho⟩ : ∃ o, m[i + k] = o := ⟨_, rfl⟩
          have hol := HM.out.1.at (i + k) hk2
          rw [ho] at cB hol
          have ho := Lib.hid ho
          obtain ⟨s1, s2, s3⟩ := sq_step x y c' o hxl hyl hc hol
          have hmul := fun W => Tryz.bits_Mul64 x y hxl hyl W
          have hhi : x * y / 18446744073709551616 < 18446744073709551616 := by omega
          have hlo : x * y % 18446744073709551616 < 18446744073709551616 := Nat.mod_lt _ (by omega)
          generalize x * y / 18446744073709551616 = hi0 at *
          generalize x * y % 18446744073709551616 = lo0 at *
          have a1 := fun W => add64_c lo0 c' W
          have hu1 : (lo0 + c') % 18446744073709551616 < 18446744073709551616 := Nat.mod_lt _ (by omega)
          have hc1 : (lo0 + c') / 18446744073709551616 ≤ 1 := by omega
          generalize (lo0 + c') % 18446744073709551616 = u1 at *
          generalize (lo0 + c') / 18446744073709551616 = c1 at *
          have a2 := fun W => add64_c o u1 W
          have hu2 : (o + u1) % 18446744073709551616 < 18446744073709551616 := Nat.mod_lt _ (by omega)
          have hc2 : (o + u1) / 18446744073709551616 ≤ 1 := by omega
          generalize (o + u1) % 18446744073709551616 = u2 at *
          generalize (o + u1) / 18446744073709551616 = c2 at *
          have S1 := Lib.hid s1
          clear s1
          have w1e : IntKind.u64.wrap ((hi0 : Int) + c1) = (hi0 : Int) + c1 := by rw [IntKind.wrap_u64]; omega
          have w2e : IntKind.u64.wrap ((hi0 : Int) + c1 + c2) = (hi0 : Int) + c1 + c2 := by rw [IntKind.wrap_u64]; omega
          go_wp2_with (go_at_call 199; refine (hmul _).mono ?_; rintro e w2 ⟨rfl, rfl⟩)
          go_roundw
          case rel =>
            have hWp := HB.out.put (i + k) u2
            refine ⟨k + 1, hi0 + c1 + c2, _, by omega, by go_num, by push_cast; rfl, s2, HA.out.other _ (by show w.heap.size ≠ w.heap.size + 1; omega) _, hWp, ⟨WdB.set HM.out.1 _ hu2, ?_⟩, Bsc hb (by show w.heap.size ≤ w.heap.size + 1; omega) _⟩
            have hv := HM.out.2
            rw [vW_set _ hk2, ho.out, vW_take k hk1, hy.out, ← Nat.add_assoc, Int.pow_succ, Int.pow_add]
            rw [Int.pow_add] at hv
            have e1 : (u2 : Int) + ((hi0 + c1 + c2 : Nat) : Int) * 18446744073709551616 = o + x * y + c' := by
              have h := S1.out
              have hp : (x : Int) * y = ((x * y : Nat) : Int) := (Int.natCast_mul x y).symm
              rw [hp]
              generalize x * y = p at *
              omega
            generalize ((hi0 + c1 + c2 : Nat) : Int) = z at *
            generalize (18446744073709551616 : Int) ^ i = p at *
            generalize (18446744073709551616 : Int) ^ k = r at *
            have e2 : (u2 : Int) = o + x * y + c' - z * 18446744073709551616 := by omega
            have e3 : vW m = V0 + x * vW (l.take k) * p - c' * (p * r) := by omega
            rw [e2, e3]
            grind
          case measure => simp [intOf]; omega
        · have hk9 : i + k = 9 := by omega
          go_wp2
          refine ⟨⟨i + 1, m, by omega, by go_num, HA, HB, ⟨HM.out.1, ?_⟩, hb⟩, by simp [intOf]; omega⟩
          obtain ⟨q, hq⟩ := HQ.out
          have hv := HM.out.2
          rw [hk9] at hv
          have e1 : vW l = vW (l.take k) + 18446744073709551616 ^ k * valB 18446744073709551616 ((l.drop k).map fun x : Nat => (x : Int)) := by
            have h1 : vW (l.take k ++ l.drop k) = vW (l.take k) + 18446744073709551616 ^ k * valB 18446744073709551616 ((l.drop k).map fun x : Nat => (x : Int)) := by
              unfold vW
              rw [List.map_append, valB_append, List.length_map, List.length_take, Nat.min_eq_left (by rw [hl.1]; omega)]
            rwa [List.take_append_drop] at h1
          have e9 : (18446744073709551616 : Int) ^ 9 = 18446744073709551616 ^ i * 18446744073709551616 ^ k := by rw [← Int.pow_add, hk9]
          rw [vW_take i hkl, hx.out]
          generalize valB 18446744073709551616 ((l.drop k).map fun x : Nat => (x : Int)) = R at *
          refine ⟨q + x * R + c', ?_⟩
          rw [e9] at hq hv ⊢
          generalize (18446744073709551616 : Int) ^ i = p at *
          generalize (18446744073709551616 : Int) ^ k = r at *
          generalize vW (l.take i) = a at *
          generalize vW (l.take k) = b at *
          generalize vW m = v at *
          rw [e1] at hq ⊢
          grind
    · obtain rfl : i = 9 := by omega
      obtain ⟨hmd, q, hv⟩ := HM.out
      have HWW := HB.out
      go_wp2_with (first
        | (refine wpList_load_row rfl 252 (.tmp 2) rfl (w.heap.size + 1) rfl 252 (wv m) (0, 0) _ HWW Tryz.underlying252 rfl (by rw [wv_size, hmd.1]; exact info_wide) ?_)
        | (refine wpList_store_rowTo rfl 252 (.tmp 2) (.tmp 56) rfl rfl (w.heap.size + 1) (wv m) rfl rfl 252 (wv m) HWW (by rw [wv_size, hmd.1]; exact info_wide) rfl (wv_one m) ?_))
      refine bodyPost_ret (results_cell_row rfl _ _ (w.heap.size + 1) 252 (wv m) (0, 0) _ rfl HWW.row Tryz.underlying252 rfl (by rw [wv_size, hmd.1]; exact info_wide)) rfl ?_
      refine ⟨m, rfl, Bsr hb _ (by omega) _, hmd, fun hlt2 => ?_⟩
      rw [List.take_of_length_le (by rw [hl.1]; omega)] at hv
      have h0 := hmd.pos
      have h1 := hmd.lt
      have h2 := Int.mul_nonneg hl.pos hl.pos
      exact unwrap h0 h1 h2 hlt2 hv
end Go.Proofs.YtpnhmapkdbnkmaaGreatDoor
/- The reference of layer 3: numbers as long as they are. No condition. -/
namespace Go.Proofs.YtpnhmapkdbnkmaaGreatDoor
open Go.RowKit
theorem info_int : (Tryz.prog.info? 3).map (fun i => (i.zero, i.size, i.bytes)) = some (some (.int .i64 0), 1, 8) := by kernel_rfl
abbrev eI : Enc Int := eInt .i64
/-! ### rows of one-celled elements -/
section
variable {α : Type} {E : Enc α} {base : Nat} {e : TypeId} {w : World} {g N cap : Nat} {xs : List α} {f : α → Value}
theorem flat_one (hE : ∀ x, E.e x = [f x]) (xs : List α) : xs.flatMap E.e = xs.map f := by
  induction xs with
  | nil => rfl
  | cons x xs ih => simp [hE, ih]
theorem Own.cell1 (hE : ∀ x, E.e x = [f x]) (h : Own E base e w (.slice (some ⟨g, 0, none⟩) N cap) xs) (j : Nat) (hj : j < xs.length) :
    g < w.heap.size ∧ w.cell? ⟨g, j, none⟩ = some (f xs[j]) ∧ w.frozen? ⟨g, j, none⟩ = false := by
  obtain ⟨A, c, h1, _, _, h4⟩ := h.slv
  obtain ⟨b, o, hA, h5⟩ := h4.at1 hE (Below.refl _ _) j hj
  subst hA
  injection h1 with h1 h1' _
  injection h1 with h1
  injection h1 with h1 h2
  subst h1 h2 h1'
  rw [Nat.zero_add] at h5
  exact ⟨World.block_lt_of_cell? w _ h5, h5, World.ownsRow.frozenAt h j⟩
theorem Own.put1 (hE : ∀ x, E.e x = [f x]) (h : Own E base e w (.slice (some ⟨g, 0, none⟩) N cap) xs) (hN : xs.length = N) (j : Nat) (v : α) :
    Own E base e (w.setCell ⟨g, j, none⟩ (f v)) (.slice (some ⟨g, 0, none⟩) N cap) (xs.set j v) ∧ base ≤ g := by
  subst hN
  have h1 := World.ownsRow.stored h j (f v)
  refine ⟨?_, h.ge g rfl⟩
  unfold Own
  rw [List.length_set, flat_one hE, List.map_set, ← flat_one hE]
  exact h1.1
end
/-- What 'of' hands back: the digits. -/
structure Norm (l : List Int) : Prop where
  dig : DigB 10000 l
  top : TopB l
theorem top_snoc (l : List Int) (x : Int) (h : x ≠ 0) : TopB (l ++ [x]) := fun _ => by simpa using h
theorem tmod_pos (n : Int) (h : 0 ≤ n) : n.tmod 10000 = n % 10000 := Int.tmod_eq_emod_of_nonneg h
theorem tdiv_pos (n : Int) (h : 0 ≤ n) : n.tdiv 10000 = n / 10000 := Int.tdiv_eq_ediv_of_nonneg h
theorem two_len {k : Nat} {m n : Int} (h : 2 ^ k * m ≤ n) (hm : 0 < m) (hn : n ≤ 9223372036854775807) : k ≤ 62 := by
  rcases Nat.lt_or_ge 62 k with hk | hk
  · exfalso
    obtain ⟨d, rfl⟩ : ∃ d, k = 63 + d := ⟨k - 63, by omega⟩
    have h1 : (0 : Int) < 2 ^ d := Int.pow_pos (by omega)
    have h2 : (1 : Int) ≤ 2 ^ d * m := by have := Int.mul_pos h1 hm; omega
    rw [Int.pow_add, Int.mul_assoc] at h
    generalize (2 : Int) ^ d * m = q at *
    omega
  · exact hk
set_option maxHeartbeats 1000000 in
set_option maxRecDepth 100000 in
theorem of_c (n : Int) (w : World) (h0 : 0 ≤ n) (h1 : n ≤ 9223372036854775807) :
    Calls Tryz.prog 219 #[.int .i64 n] w fun e w' => ∃ v l, e = .returned v ∧ Own eI w.heap.size 3 w' v l ∧ Below w.heap.size w w' ∧ Norm l ∧ valB 10000 l = n ∧ l.length ≤ 64 := by
  go_enter Tryz.func219, Tryz.ntmps219
  go_wp2
  go_loopw [0, 3] (fun s v wr => ∃ (m : Int) (l : List Int), s = .int .i64 m ∧ 0 ≤ m ∧ m ≤ 9223372036854775807 ∧ Hid (DigB 10000 l ∧ (m = 0 → TopB l) ∧ valB 10000 l + 10000 ^ l.length * m = n) ∧ l.length ≤ 64 ∧ Hid (m = 0 ∨ 2 ^ l.length * m ≤ n) ∧ Own eI w.heap.size 3 wr v l ∧ Below w.heap.size w wr) (fun s _ _ => (intOf s).toNat)
  case atStart => exact ⟨n, [], rfl, h0, h1, ⟨fun x hx => by simp at hx, fun _ h => absurd rfl h, by simp [valB]⟩, by simp, .inr (by simp), Own.nil _, Bel⟩
  case round =>
    obtain ⟨m, l, rfl, m0, m1, HH, hl, H2, HO, hb⟩ := hrel
    by_cases hz : 0 < m
    · have e1 := tmod_pos m m0
      have e2 := tdiv_pos m m0
      go_wp2_with (at_builtin; refine app (E := eI) _ _ 282 3 (.int .i64 0) 8 rfl rfl Tryz.underlying282 info_int rfl (by decide) (by decide) _ l [m % 10000] ⟨_, 0, none⟩ 1 1 rfl rfl rfl (HO.alloc _) (SlA.new _ _ _ _ _ rfl _ rfl) Bel (by simp; omega) ?_; intro v1 w3 HO3 hb3 _ _)
      obtain ⟨hd, ht, hv⟩ := HH.out
      have h2 : 2 ^ l.length * m ≤ n := by rcases H2.out with h | h; · omega
                                           · exact h
      refine ⟨⟨m / 10000, l ++ [m % 10000], rfl, by omega, by omega, ⟨?_, ?_, ?_⟩, ?_, ?_, HO3, hb3⟩, by simp [intOf]; omega⟩
      · intro x hx
        rcases List.mem_append.1 hx with hx | hx
        · exact hd x hx
        · obtain rfl := List.mem_singleton.1 hx; omega
      · intro h; exact top_snoc _ _ (by omega)
      · rw [valB_append, List.length_append]
        simp only [valB, List.length_cons, List.length_nil, Nat.zero_add]
        rw [Int.pow_succ, ← hv, ← Int.mul_ediv_add_emod m 10000]
        grind
      · have := two_len h2 hz h1
        simp; omega
      · right
        rw [List.length_append, List.length_cons, List.length_nil, Nat.zero_add, Int.pow_succ]
        have h3 : (2 : Int) ^ l.length * (2 * (m / 10000)) ≤ 2 ^ l.length * m := Int.mul_le_mul_of_nonneg_left (by omega) (Int.le_of_lt (Int.pow_pos (by omega)))
        grind
    · go_wp2
      go_ret
      obtain ⟨hd, ht, hv⟩ := HH.out
      obtain rfl : m = 0 := by omega
      exact ⟨_, rfl, l, HO, hb, ⟨hd, ht rfl⟩, by simpa using hv, hl⟩

/-! ### a product -/
/-- What the row holds when i digits, and k of the next one's, are through. -/
structure TR (xs ys out : List Int) (N i k : Nat) : Prop where
  len : out.length = N
  bnd : ∀ x ∈ out, 0 ≤ x ∧ x ≤ ((i * ys.length + k : Nat) : Int) * 200000
  val : valB 10000 out = valB 10000 (xs.take i) * valB 10000 ys + xs[i]?.getD 0 * 10000 ^ i * valB 10000 (ys.take k)
theorem TR.start (xs ys : List Int) (N : Nat) : TR xs ys (List.replicate N 0) N 0 0 :=
  ⟨by simp, fun x hx => by rw [List.eq_of_mem_replicate hx]; omega, by rw [valB_rep]; simp [valB]⟩
theorem TR.next {xs ys out : List Int} {N i : Nat} (h : TR xs ys out N i ys.length) (hi : i < xs.length) : TR xs ys out N (i + 1) 0 := by
  refine ⟨h.len, fun x hx => ?_, ?_⟩
  · have := h.bnd x hx; rw [Nat.add_mul, Nat.one_mul]; exact this
  · rw [h.val, valB_take _ _ i hi, List.take_length, List.getElem?_eq_getElem hi]
    simp [valB]
    grind
theorem TR.bd {xs ys out : List Int} {N i k : Nat} (h : TR xs ys out N i k) (hi : i < xs.length) (hk : k < ys.length) (hxl : xs.length ≤ 60) (hyl : ys.length ≤ 60) : ∀ x ∈ out, 0 ≤ x ∧ x ≤ 720000000 := fun x hx => by
  have h1 := h.bnd x hx
  have h2 : i * ys.length + k ≤ 59 * 60 + 60 := Nat.add_le_add (Nat.mul_le_mul (by omega) hyl) (by omega)
  generalize i * ys.length + k = q at *
  omega
theorem dig_mul {xs ys : List Int} (hx : DigB 10000 xs) (hy : DigB 10000 ys) {i k : Nat} (hi : i < xs.length) (hk : k < ys.length) : 0 ≤ xs[i] * ys[k] ∧ xs[i] * ys[k] ≤ 99980001 := by
  have h1 := hx.at i hi
  have h2 := hy.at k hk
  have h3 : xs[i] * ys[k] ≤ 9999 * 9999 := Int.mul_le_mul (by omega) (by omega) h2.1 (by omega)
  exact ⟨Int.mul_nonneg h1.1 h2.1, h3⟩
theorem TR.step {xs ys out : List Int} {N i k : Nat} (h : TR xs ys out N i k) (hi : i < xs.length) (hk : k < ys.length) (hxl : xs.length ≤ 60) (hyl : ys.length ≤ 60) (hx : DigB 10000 xs) (hy : DigB 10000 ys)
    (q1 : i + k < out.length) (q2 : i + k + 1 < out.length) (a b : Int) (ha : a = out[i + k] + xs[i] * ys[k]) (hb : b = out[i + k + 1] + a / 10000) :
    TR xs ys (((out.set (i + k) a).set (i + k + 1) b).set (i + k) (a % 10000)) N i (k + 1) ∧ 0 ≤ a ∧ a ≤ 900000000 ∧ 0 ≤ b ∧ b ≤ 900000000 := by
  have hm := dig_mul hx hy hi hk
  have h0 := h.bd hi hk hxl hyl
  have h1 := h0 _ (List.getElem_mem q1)
  have h2 := h0 _ (List.getElem_mem q2)
  have g1 := h.bnd _ (List.getElem_mem q1)
  have g2 := h.bnd _ (List.getElem_mem q2)
  have hv := h.val
  have e0 : ((out.set (i + k) a).set (i + k + 1) b).set (i + k) (a % 10000) = (out.set (i + k + 1) b).set (i + k) (a % 10000) := by
    rw [List.set_comm a b (by omega), List.set_set]
  obtain ⟨p, hp⟩ : ∃ p, xs[i] * ys[k] = p := ⟨_, rfl⟩
  rw [hp] at ha hm
  refine ⟨⟨by simp [h.len], fun x hx' => ?_, ?_⟩, by omega, by omega, by omega, by omega⟩
  · have hq : ((i * ys.length + (k + 1) : Nat) : Int) = ((i * ys.length + k : Nat) : Int) + 1 := by push_cast; omega
    rw [hq]
    have hb3 := h.bnd
    generalize ((i * ys.length + k : Nat) : Int) = Q at *
    rw [e0] at hx'
    rcases List.mem_or_eq_of_mem_set hx' with hx' | rfl
    · rcases List.mem_or_eq_of_mem_set hx' with hx' | rfl
      · have := hb3 x hx'; omega
      · omega
    · omega
  · rw [e0, valB_set _ _ _ (by simpa using q1), valB_set _ _ _ q2, hv, valB_take _ _ k hk, List.getElem?_eq_getElem hi, List.getElem_set_ne (by omega)]
    simp only [Option.getD_some]
    rw [Int.pow_succ, Int.pow_add]
    have e1 := Int.mul_ediv_add_emod a 10000
    generalize a % 10000 = r at *
    generalize a / 10000 = q at *
    subst hb
    have e3 : p = 10000 * q + r - out[i + k] := by omega
    have e4 : xs[i] * 10000 ^ i * (valB 10000 (List.take k ys) + ys[k] * 10000 ^ k) = xs[i] * 10000 ^ i * valB 10000 (List.take k ys) + p * (10000 ^ i * 10000 ^ k) := by rw [← hp]; grind
    rw [e4, e3]
    grind
/-- What the row holds when the digits ahead of j are done. -/
structure CR (V : Int) (out : List Int) (N j : Nat) : Prop where
  len : out.length = N
  lo : ∀ q (h : q < out.length), q < j → 0 ≤ out[q] ∧ out[q] < 10000
  at_ : ∀ q (h : q < out.length), q = j → 0 ≤ out[q] ∧ out[q] ≤ 800000000
  hi : ∀ q (h : q < out.length), j < q → 0 ≤ out[q] ∧ out[q] ≤ 720000000
  val : valB 10000 out = V
theorem TR.done {xs ys out : List Int} {N : Nat} (h : TR xs ys out N xs.length 0) (hxl : xs.length ≤ 60) (hyl : ys.length ≤ 60) : CR (valB 10000 xs * valB 10000 ys) out N 0 := by
  have hb : ∀ q (h : q < out.length), 0 ≤ out[q] ∧ out[q] ≤ 720000000 := fun q hq => by
    have h1 := h.bnd _ (List.getElem_mem hq)
    have h2 : xs.length * ys.length + 0 ≤ 60 * 60 := Nat.mul_le_mul hxl hyl
    generalize xs.length * ys.length + 0 = Q at *
    omega
  refine ⟨h.len, fun q _ h => by omega, fun q hq _ => by have := hb q hq; omega, fun q hq _ => hb q hq, ?_⟩
  rw [h.val, List.take_length]
  simp [valB]
theorem CR.step {V : Int} {out : List Int} {N j : Nat} (h : CR V out N j) (q1 : j < out.length) (q2 : j + 1 < out.length) : CR V ((out.set (j + 1) (out[j + 1] + out[j] / 10000)).set j (out[j] % 10000)) N (j + 1) := by
  have h1 := h.at_ j q1 rfl
  have h2 := h.hi (j + 1) q2 (by omega)
  refine ⟨by simp [h.len], fun q hq hj => ?_, fun q hq hj => ?_, fun q hq hj => ?_, ?_⟩
  · simp only [List.length_set] at hq
    rw [List.getElem_set]
    split
    · omega
    · rw [List.getElem_set_ne (by omega)]; exact h.lo q hq (by omega)
  · subst hj
    rw [List.getElem_set_ne (by omega), List.getElem_set_self]; omega
  · simp only [List.length_set] at hq
    rw [List.getElem_set_ne (by omega), List.getElem_set_ne (by omega)]; exact h.hi q hq (by omega)
  · rw [valB_set _ _ _ (by simpa using q1), valB_set _ _ _ q2, h.val, List.getElem_set_ne (by omega), Int.pow_succ]
    have e1 := Int.mul_ediv_add_emod out[j] 10000
    generalize out[j] % 10000 = r at *
    generalize out[j] / 10000 = q at *
    rw [← e1]
    grind
theorem CR.done {xs ys out : List Int} {N j : Nat} (h : CR (valB 10000 xs * valB 10000 ys) out N j) (hj : j + 1 = N) (hN : N = xs.length + ys.length + 1) (hx : DigB 10000 xs) (hy : DigB 10000 ys) : DigB 10000 out := by
  have hlen := h.len
  have e1 : out = out.take j ++ [out[j]] := by rw [← List.take_succ_eq_append_getElem (by omega), List.take_of_length_le (by omega)]
  have hd : DigB 10000 (out.take j) := fun x hx => by
    obtain ⟨q, hq, rfl⟩ := List.getElem_of_mem hx
    simp only [List.length_take] at hq
    rw [List.getElem_take]
    exact h.lo q (by omega) (by omega)
  have hl := h.at_ j (by omega) rfl
  have h1 := valB_lt (by omega) hx
  have h2 := valB_lt (by omega) hy
  have h3 : valB 10000 xs * valB 10000 ys < 10000 ^ xs.length * 10000 ^ ys.length := Int.mul_lt_mul' (Int.le_of_lt h1) h2 (valB_nonneg (by omega) fun x h => (hy x h).1) (Int.pow_pos (by omega))
  have h4 := h.val
  rw [e1, valB_append, List.length_take, Nat.min_eq_left (by omega)] at h4
  have h5 := valB_nonneg (B := 10000) (by omega) fun x h => (hd x h).1
  have h6 : out[j] = 0 := by
    rcases Int.lt_or_le 0 out[j] with h0 | h0
    · exfalso
      rw [← Int.pow_add, show xs.length + ys.length = j by omega] at h3
      have h7 : (10000 : Int) ^ j * 1 ≤ 10000 ^ j * out[j] := Int.mul_le_mul_of_nonneg_left (by omega) (Int.le_of_lt (Int.pow_pos (by omega)))
      simp only [valB, Int.mul_zero, Int.add_zero] at h4
      omega
    · omega
  rw [e1, h6]
  intro x hx
  rcases List.mem_append.1 hx with hx | hx
  · exact hd x hx
  · obtain rfl := List.mem_singleton.1 hx; omega
theorem SlA.cut {α : Type} {E : Enc α} {w : World} {A : Option Addr} {xs : List α} (h : SlA E w A xs) (k : Nat) : SlA E w A (xs.take k) := fun j x hx => by
  rw [List.getElem?_take] at hx
  split at hx
  · exact h j x hx
  · cases hx
theorem val_cut {B : Int} {l : List Int} {n : Nat} (hn : n + 1 = l.length) (h : l[n] = 0) : valB B (l.take n) = valB B l := by
  have h1 := valB_take B l n (by omega)
  rw [h, List.take_of_length_le (by omega)] at h1
  simp at h1; exact h1.symm
theorem top_of {l : List Int} {n : Nat} (hn : n + 1 = l.length) (h : l[n] ≠ 0) : TopB l := fun hne => by
  rw [List.getLast_eq_getElem]
  have : l.length - 1 = n := by omega
  simpa [this] using h
set_option maxHeartbeats 2000000 in
set_option maxRecDepth 100000 in
theorem times_c (A B : Option Addr) (c d : Nat) (xs ys : List Int) (w : World) (hs : SlA eI w A xs) (ht : SlA eI w B ys) (hx : Norm xs) (hy : Norm ys) (hxl : xs.length ≤ 60) (hyl : ys.length ≤ 60) :
    Calls Tryz.prog 172 #[.slice A xs.length c, .slice B ys.length d] w fun e w' => ∃ C k l, e = .returned (.slice C l.length k) ∧ SlA eI w' C l ∧ Below w.heap.size w w' ∧ Norm l ∧ valB 10000 l = valB 10000 xs * valB 10000 ys := by
  obtain ⟨i0, hi, hz0, hz1, hz2⟩ := info_parts info_int
  have HX := Lib.hid hx; have HY := Lib.hid hy
  clear hx hy
  go_enter Tryz.func172, Tryz.ntmps172
  go_wp2_with (at_make; go_loud (refine wpList_make_full _ rfl _ _ 282 rfl w.heap.size 3 i0 (.int .i64 0) 1 Tryz.underlying282 hi hz0 hz1 .i64 .i64 _ _ (xs.length + ys.length + 1) rfl rfl (by push_cast; rfl) (by push_cast; rfl) (by rw [hz2]; omega) (by simp only [maxLen]; omega) (Nat.le_refl _) ?_; intro w1 HO1 hg1))
  obtain ⟨N, hN⟩ : ∃ N : Nat, N = xs.length + ys.length + 1 := ⟨_, rfl⟩
  rw [← hN] at HO1 ⊢
  have hN1 : xs.length + ys.length < N := by omega
  have hN2 : N < 200 := by omega
  have HN := Lib.hid hN
  clear hN
  have hb1 : Below w.heap.size w w1 := Bgr (Below.refl _ _) hg1 (by simp)
  have hO : Own eI w.heap.size 3 w1 (.slice (some ⟨w.heap.size, 0, none⟩) N N) (List.replicate N 0) := by
    unfold Own
    rw [List.length_replicate, flat_one (f := Value.int .i64) (fun _ => rfl), List.map_replicate, ← toList_madeCells_one]
    rw [Nat.mul_one] at HO1
    exact HO1
  clear HO1 hg1
  go_loopw [18] (fun s wr => ∃ (i : Nat) (out : List Int), i ≤ xs.length ∧ s = .int .i64 i ∧ Hid (TR xs ys out N i 0) ∧ Hid (Own eI w.heap.size 3 wr (.slice (some ⟨w.heap.size, 0, none⟩) N N) out) ∧ Below w.heap.size w wr) (fun s _ => xs.length - (intOf s).toNat)
  case atStart => exact ⟨0, _, by omega, rfl, TR.start xs ys N, hO, hb1⟩
  case round =>
    obtain ⟨i, out, hi, rfl, HT, HO, hb⟩ := hrel
    by_cases hlt : i < xs.length
    · go_wp2
      go_loopw [23] (fun s wr => ∃ (k : Nat) (out : List Int), k ≤ ys.length ∧ s = .int .i64 k ∧ Hid (TR xs ys out N i k) ∧ Hid (Own eI w.heap.size 3 wr (.slice (some ⟨w.heap.size, 0, none⟩) N N) out) ∧ Below w.heap.size w wr) (fun s _ => ys.length - (intOf s).toNat)
      case atStart => exact ⟨0, out, by omega, rfl, HT, HO, hb⟩
      case round =>
        obtain ⟨k, out, hk, rfl, HT, HO, hb⟩ := hrel
        by_cases hkt : k < ys.length
        · have q1 : i + k < out.length := by rw [HT.out.len]; omega
          have q2 : i + k + 1 < out.length := by rw [HT.out.len]; omega
          obtain ⟨hst, a0, a1, b0, b1⟩ := HT.out.step hlt hkt hxl hyl HX.out.dig HY.out.dig q1 q2 _ _ rfl rfl
          have hm := dig_mul HX.out.dig HY.out.dig hlt hkt
          have hoc := HT.out.bd hlt hkt hxl hyl _ (List.getElem_mem q1)
          obtain ⟨hgs, p1, f1⟩ := HO.out.cell1 (fun _ => rfl) (i + k) q1
          obtain ⟨bA, oA, rfl, cA⟩ := hs.at1 (fun _ => rfl) hb i hlt
          obtain ⟨bB, oB, rfl, cB⟩ := ht.at1 (fun _ => rfl) hb k hkt
          have w1e : IntKind.i64.wrap (xs[i] * ys[k]) = xs[i] * ys[k] := IntWalk.i64_in _ (by omega)
          have w2e : IntKind.i64.wrap (out[i + k] + xs[i] * ys[k]) = out[i + k] + xs[i] * ys[k] := IntWalk.i64_in _ (by omega)
          have w3e : IntKind.i64.wrap ((i : Int) + k) = (i : Int) + k := IntWalk.i64_in _ (by omega)
          have i1 : (0 : Int) ≤ (i : Int) + k := by omega
          have i2 : (i : Int) + k < N := by omega
          have i3 : ((i : Int) + k).toNat = i + k := by omega
          go_wp2_with fail
          refine region_qtail 17 (by kernel_rfl) (by kernel_rfl) (fun W => ∃ n, W = World.drewN _ n) ⟨1, rfl⟩ ?_
          simp only [List.take_succ_cons, List.take_zero, List.drop_succ_cons, List.drop_zero]
          repeat (quiet_step (fail))
          refine wpQuiet_nil ?_
          intro _ hw'
          obtain ⟨nq, rfl⟩ := hw'
          go_wp2_with fail
          obtain ⟨hO2, hge⟩ := (HO.out.below (w' := wr.drewN nq) Bel).put1 (f := Value.int .i64) (fun _ => rfl) HT.out.len (i + k) (out[i + k] + xs[i] * ys[k])
          have hb2 : Below w.heap.size w ((wr.drewN nq).setCell ⟨w.heap.size, i + k, none⟩ (.int .i64 (out[i + k] + xs[i] * ys[k]))) := Bsc (Bdn hb nq) hge _
          generalize (wr.drewN nq).setCell ⟨w.heap.size, i + k, none⟩ (.int .i64 (out[i + k] + xs[i] * ys[k])) = w2 at *
          clear p1 f1 hgs cA cB
          obtain ⟨hgs, p1, f1⟩ := hO2.cell1 (fun _ => rfl) (i + k) (by simpa using q1)
          obtain ⟨_, p2, f2⟩ := hO2.cell1 (fun _ => rfl) (i + k + 1) (by simpa using q2)
          rw [List.getElem_set_self] at p1
          rw [List.getElem_set_ne (by omega)] at p2
          have hO2' := Lib.hid hO2
          clear hO2
          have hq2 := Lib.hid q2
          generalize hal : out[i + k] + xs[i] * ys[k] = a at *
          have hal := Lib.hid hal
          generalize hcl : out[i + k + 1] = o1 at *
          have hcl := Lib.hid hcl
          have w4e : IntKind.i64.wrap (a.tdiv 10000) = a / 10000 := by rw [tdiv_pos a a0]; exact IntWalk.i64_in _ (by omega)
          have w5e : IntKind.i64.wrap (o1 + a / 10000) = o1 + a / 10000 := IntWalk.i64_in _ (by omega)
          have w6e : IntKind.i64.wrap ((i : Int) + k + 1) = (i : Int) + k + 1 := IntWalk.i64_in _ (by omega)
          have i4 : (0 : Int) ≤ (i : Int) + k + 1 := by omega
          have i5 : (i : Int) + k + 1 < N := by omega
          have i6 : ((i : Int) + k + 1).toNat = i + k + 1 := by omega
          refine region_qtail 16 (by kernel_rfl) (by kernel_rfl) (fun W => ∃ n, W = World.drewN _ n) ⟨1, rfl⟩ ?_
          simp only [List.take_succ_cons, List.take_zero, List.drop_succ_cons, List.drop_zero]
          repeat (quiet_step (fail))
          refine wpQuiet_nil ?_
          intro _ hw'
          obtain ⟨nq2, rfl⟩ := hw'
          go_wp2_with fail
          obtain ⟨hO3, _⟩ := (hO2'.out.below (w' := w2.drewN nq2) Bel).put1 (f := Value.int .i64) (fun _ => rfl) (by simpa using HT.out.len) (i + k + 1) (o1 + a / 10000)
          obtain ⟨hO4, _⟩ := hO3.put1 (f := Value.int .i64) (fun _ => rfl) (by simpa using HT.out.len) (i + k) (a % 10000)
          refine ⟨⟨k + 1, _, by omega, by go_num, ?_, hO4, Bsc (Bsc (Bdn hb2 nq2) hge _) hge _⟩, by simp [intOf]; omega⟩
          exact hst
        · obtain rfl : k = ys.length := by omega
          go_wp2
          exact ⟨⟨i + 1, out, by omega, by go_num, HT.out.next hlt, HO, hb⟩, by simp [intOf]; omega⟩
    · obtain rfl : i = xs.length := by omega
      have hC := HT.out.done hxl hyl
      go_wp2
      clear HT
      have HC := Lib.hid hC
      clear hC
      go_loopw [8] (fun s wr => ∃ (j : Nat) (out : List Int), j + 1 ≤ N ∧ s = .int .i64 j ∧ Hid (CR (valB 10000 xs * valB 10000 ys) out N j) ∧ Hid (Own eI w.heap.size 3 wr (.slice (some ⟨w.heap.size, 0, none⟩) N N) out) ∧ Below w.heap.size w wr) (fun s _ => N - (intOf s).toNat)
      case atStart => exact ⟨0, out, by omega, rfl, HC, HO, hb⟩
      case round =>
        clear HO HC hb
        obtain ⟨j, out, hj, rfl, HC, HO, hb⟩ := hrel
        by_cases hjt : j + 1 < N
        · have q1 : j < out.length := by rw [HC.out.len]; omega
          have q2 : j + 1 < out.length := by rw [HC.out.len]; omega
          have hst := Lib.hid (HC.out.step q1 q2)
          have a0 := HC.out.at_ j q1 rfl
          have a1 := HC.out.hi (j + 1) q2 (by omega)
          obtain ⟨hgs, p1, f1⟩ := HO.out.cell1 (fun _ => rfl) j q1
          obtain ⟨_, p2, f2⟩ := HO.out.cell1 (fun _ => rfl) (j + 1) q2
          have hq1 := Lib.hid q1; have hq2 := Lib.hid q2
          generalize hal : out[j] = a at *
          have hal := Lib.hid hal
          generalize hcl : out[j + 1] = o1 at *
          have hcl := Lib.hid hcl
          have w4e : IntKind.i64.wrap (a.tdiv 10000) = a / 10000 := by rw [tdiv_pos a a0.1]; exact IntWalk.i64_in _ (by omega)
          have w5e : IntKind.i64.wrap (o1 + a / 10000) = o1 + a / 10000 := IntWalk.i64_in _ (by omega)
          have w6e : IntKind.i64.wrap ((j : Int) + 1) = (j : Int) + 1 := IntWalk.i64_in _ (by omega)
          have w7e : a.tmod 10000 = a % 10000 := tmod_pos a a0.1
          have i4 : (0 : Int) ≤ (j : Int) + 1 := by omega
          have i5 : (j : Int) + 1 < N := by omega
          have i6 : ((j : Int) + 1).toNat = j + 1 := by omega
          have i7 : (j : Int) < N := by omega
          go_wp2_with fail
          refine region_qtail 12 (by kernel_rfl) (by kernel_rfl) (fun W => ∃ n, W = World.drewN _ n) ⟨1, rfl⟩ ?_
          simp only [List.take_succ_cons, List.take_zero, List.drop_succ_cons, List.drop_zero]
          repeat (quiet_step (fail))
          refine wpQuiet_nil ?_
          intro _ hw'
          obtain ⟨nq2, rfl⟩ := hw'
          go_wp2_with fail
          obtain ⟨hO3, hge⟩ := (HO.out.below (w' := wr.drewN nq2) Bel).put1 (f := Value.int .i64) (fun _ => rfl) HC.out.len (j + 1) (o1 + a / 10000)
          obtain ⟨hO4, _⟩ := hO3.put1 (f := Value.int .i64) (fun _ => rfl) (by simpa using HC.out.len) j (a % 10000)
          refine ⟨⟨j + 1, _, by omega, by go_num, ?_, hO4, Bsc (Bsc (Bdn hb nq2) hge _) hge _⟩, by simp [intOf]; omega⟩
          exact hst
        · have hdg := HC.out.done (by omega) HN.out HX.out.dig HY.out.dig
          have hsl : SlA eI wr (some ⟨w.heap.size, 0, none⟩) out := by
            obtain ⟨A', c', h1, _, _, h4⟩ := HO.out.slv
            injection h1 with h1 _ _
            rw [h1]; exact h4
          have HD := Lib.hid hdg
          have HV := Lib.hid HC.out.val
          have hln := HC.out.len
          clear HC hdg
          go_wp2
          go_loopw [5] (fun s wr => ∃ (n : Nat) (l : List Int), s = .slice (some ⟨w.heap.size, 0, none⟩) n N ∧ Hid (l.length = n) ∧ n ≤ N ∧ SlA eI wr (some ⟨w.heap.size, 0, none⟩) l ∧ Hid (DigB 10000 l ∧ valB 10000 l = valB 10000 xs * valB 10000 ys) ∧ Below w.heap.size w wr) (fun s _ => match s with | .slice _ n _ => n | _ => 0)
          case atStart => exact ⟨N, out, rfl, hln, by omega, hsl, ⟨HD.out, HV.out⟩, hb⟩
          case round =>
            clear hsl HO hb HD HV hln
            obtain ⟨n, l, rfl, hl, hn, hsl, HD, hb⟩ := hrel
            cases n with
            | zero =>
              have hl0 := hl.out
              obtain rfl : l = [] := List.eq_nil_of_length_eq_zero hl0
              go_wp2
              go_ret
              exact ⟨_, _, [], rfl, hsl, hb, ⟨HD.out.1, fun h => absurd rfl h⟩, HD.out.2⟩
            | succ n =>
              have hl0 := Lib.hid hl.out
              obtain ⟨b, o, hA, c1⟩ := hsl.at1 (f1 := Value.int .i64) (fun _ => rfl) (Below.refl _ _) n (by rw [hl.out]; omega)
              injection hA with hA
              injection hA with hA1 hA2 _
              subst hA1 hA2
              rw [Nat.zero_add] at c1
              generalize hx : l[n]'(by rw [hl.out]; omega) = x at *
              have hx := Lib.hid hx
              by_cases h0 : x = 0
              · subst h0
                go_wp2
                exact ⟨⟨n, l.take n, rfl, show (l.take n).length = n by rw [List.length_take, hl.out]; omega, by omega, SlA.cut hsl n, ⟨fun x hx => HD.out.1 x (List.mem_of_mem_take hx), by rw [val_cut (by rw [hl.out]) hx.out]; exact HD.out.2⟩, hb⟩, by simp⟩
              · have h00 : (x == 0) = false := by simpa using h0
                go_wp2
                go_ret
                exact ⟨_, _, l, by rw [hl.out]; rfl, hsl, hb, ⟨HD.out.1, top_of (by rw [hl.out]) (by rw [hx.out]; exact h0)⟩, HD.out.2⟩
end Go.Proofs.YtpnhmapkdbnkmaaGreatDoor
/- The reference of layer 3: which number is greater, the sixteenth power, the ratio, what something costs. No condition. -/
namespace Go.Proofs.YtpnhmapkdbnkmaaGreatDoor
open Go.RowKit
theorem pow_cap {n : Int} (h0 : 0 ≤ n) (h1 : n ≤ 2147483648) (k : Nat) (hk : k ≤ 16) : n ^ k < 10000 ^ 40 := by
  obtain ⟨m, rfl⟩ := Int.eq_ofNat_of_zero_le h0
  have h2 : m ^ k ≤ 2147483648 ^ k := Nat.pow_le_pow_left (by omega) k
  have h3 : 2147483648 ^ k ≤ 2147483648 ^ 16 := Nat.pow_le_pow_right (by omega) hk
  have h4 : 2147483648 ^ 16 < 10000 ^ 40 := by decide
  have h5 : ((m ^ k : Nat) : Int) < ((10000 ^ 40 : Nat) : Int) := Int.ofNat_lt.2 (Nat.lt_of_le_of_lt (Nat.le_trans h2 h3) h4)
  rw [Int.natCast_pow, Int.natCast_pow] at h5
  exact h5
theorem norm_len {l : List Int} (hn : Norm l) {n : Int} (h0 : 0 ≤ n) (h1 : n ≤ 2147483648) {k : Nat} (hk : k ≤ 16) (h : valB 10000 l = n ^ k) : l.length ≤ 40 :=
  top_len (by omega) hn.dig hn.top (by rw [h]; exact pow_cap h0 h1 k hk)
set_option maxHeartbeats 1000000 in
set_option maxRecDepth 100000 in
theorem more_c (A B : Option Addr) (c d : Nat) (xs ys : List Int) (w : World) (hs : SlA eI w A xs) (ht : SlA eI w B ys) (hx : Norm xs) (hy : Norm ys) (hxl : xs.length ≤ 60) :
    Calls Tryz.prog 171 #[.slice A xs.length c, .slice B ys.length d] w (Ret w (.bool (decide (valB 10000 ys < valB 10000 xs)))) := by
  rcases Nat.lt_trichotomy xs.length ys.length with hlt | heq | hlt
  · have h := top_less (B := 10000) (by omega) hx.dig hy.dig hy.top hlt
    have HE : Hid (decide (valB 10000 ys < valB 10000 xs) = decide (ys.length < xs.length)) := by show decide _ = decide _; rw [decide_eq_false (by omega), decide_eq_false (by omega)]
    clear h
    have hne : ((xs.length : Int) != ys.length) = true := by simp; omega
    go_enter Tryz.func171, Tryz.ntmps171
    go_wp2
    go_ret
    exact ⟨by rw [HE.out]; rfl, Bel⟩
  · have hln := Lib.hid heq
    have HX := Lib.hid hx; have HY := Lib.hid hy
    have hne : ((xs.length : Int) != ys.length) = false := by simp; omega
    clear hx hy heq
    go_enter Tryz.func171, Tryz.ntmps171
    go_wp2
    go_loopw [5] (fun s wr => ∃ k : Nat, k ≤ xs.length ∧ s = .int .i64 ((k : Int) - 1) ∧ Hid (xs.drop k = ys.drop k) ∧ Below w.heap.size w wr) (fun s _ => (intOf s + 1).toNat)
    case atStart => exact ⟨xs.length, by omega, rfl, by show _ = _; rw [List.drop_length, hln.out, List.drop_length], Bel⟩
    case round =>
      obtain ⟨k, hk, rfl, HE, hb⟩ := hrel
      cases k with
      | zero =>
        have he := HE.out
        simp only [List.drop_zero] at he
        have HV : Hid (decide (valB 10000 ys < valB 10000 xs) = false) := by show decide _ = _; rw [he]; simp
        clear he
        go_wp2
        go_ret
        exact ⟨by rw [HV.out]; rfl, Bel⟩
      | succ k =>
        have hk' : k < ys.length := by rw [← hln.out]; omega
        obtain ⟨bA, oA, rfl, cA⟩ := hs.at1 (f1 := Value.int .i64) (fun _ => rfl) hb k hk
        obtain ⟨bB, oB, rfl, cB⟩ := ht.at1 (f1 := Value.int .i64) (fun _ => rfl) hb k hk'
        have e0 : ((k + 1 : Nat) : Int) - 1 = k := by omega
        rw [e0]
        have i1 : (k : Int) < xs.length := by omega
        have i2 : (k : Int) < ys.length := by omega
        have w1 : IntKind.i64.wrap (k : Int) = k := IntWalk.i64_in _ (by omega)
        obtain ⟨bz, hbz⟩ : ∃ bz, (xs[k] != ys[k]) = bz := ⟨_, rfl⟩
        have HB := Lib.hid hbz
        have HN : Hid (bz = false → xs.drop k = ys.drop k) := fun h => by
          rw [h] at hbz
          rw [List.drop_eq_getElem_cons (by omega), List.drop_eq_getElem_cons hk', HE.out]
          congr 1
          simpa using hbz
        have HT : Hid (bz = true → decide (valB 10000 ys < valB 10000 xs) = decide (ys[k] < xs[k])) := fun h => by
          rw [h] at hbz
          have hne : xs[k] ≠ ys[k] := by simpa using hbz
          rcases Int.lt_or_le ys[k] xs[k] with h1 | h1
          · have := valB_less (B := 10000) (by omega) HY.out.dig HX.out.dig hln.out.symm k hk' hk HE.out.symm h1
            rw [decide_eq_true this, decide_eq_true h1]
          · have := valB_less (B := 10000) (by omega) HX.out.dig HY.out.dig hln.out k hk hk' HE.out (by omega)
            rw [decide_eq_false (by omega), decide_eq_false (by omega)]
        go_wp2_with fail
        refine region_qall (by kernel_rfl) (by kernel_rfl) (fun W => ∃ n, W = World.drewN _ n) ⟨1, rfl⟩ ?_
        repeat (quiet_step (fail))
        refine wpQuiet_nil ?_
        intro _ hw'
        obtain ⟨nq, rfl⟩ := hw'
        go_wp2_with fail
        · have hb' : bz = true := by assumption
          refine region_qall (by kernel_rfl) (by kernel_rfl) (fun W => ∃ n, W = World.drewN _ n) ⟨1, rfl⟩ ?_
          repeat (quiet_step (fail))
          refine wpQuiet_nil ?_
          intro _ hw'
          obtain ⟨nq2, rfl⟩ := hw'
          go_wp2_with fail
          go_ret
          exact ⟨by rw [HT.out hb']; rfl, Bel⟩
        · have hb' : bz = false := by assumption
          exact ⟨⟨k, by omega, rfl, HN.out hb', Bel⟩, by simp [intOf]⟩
  · have h := top_less (B := 10000) (by omega) hy.dig hx.dig hx.top hlt
    have HE : Hid (decide (valB 10000 ys < valB 10000 xs) = true) := by show decide _ = _; rw [decide_eq_true (by omega)]
    clear h
    have hne : ((xs.length : Int) != ys.length) = true := by simp; omega
    go_enter Tryz.func171, Tryz.ntmps171
    go_wp2
    go_ret
    exact ⟨by rw [HE.out]; rfl, Bel⟩
set_option maxHeartbeats 1000000 in
set_option maxRecDepth 100000 in
theorem sixteenth_c (n : Int) (w : World) (h0 : 0 ≤ n) (h1 : n ≤ 2147483648) :
    Calls Tryz.prog 170 #[.int .i64 n] w fun e w' => ∃ C k l, e = .returned (.slice C l.length k) ∧ SlA eI w' C l ∧ Below w.heap.size w w' ∧ Norm l ∧ valB 10000 l = n ^ 16 := by
  go_enter Tryz.func170, Tryz.ntmps170
  go_wp2_with (go_at_call 219; refine (of_c n _ h0 (by omega)).mono ?_; rintro e w1 ⟨v, l, rfl, HO, hb1, hN, hv, _⟩)
  obtain ⟨A, c, rfl, _, _, hS⟩ := HO.slv
  have HV := Lib.hid hv
  have HN := Lib.hid hN
  clear hv hN HO
  go_loopw [3, 4] (fun v s wr => ∃ (i : Nat) (A : Option Addr) (c : Nat) (l : List Int), i ≤ 4 ∧ s = .int .i64 i ∧ v = .slice A l.length c ∧ SlA eI wr A l ∧ Hid (Norm l) ∧ Hid (valB 10000 l = n ^ 2 ^ i) ∧ Below w.heap.size w wr) (fun _ s _ => 4 - (intOf s).toNat)
  case atStart => exact ⟨0, A, c, l, by omega, rfl, rfl, hS, HN, by show _ = _; rw [HV.out, Nat.pow_zero]; exact (Int.pow_one n).symm, hb1⟩
  case round =>
    clear hb1 hS HV HN
    obtain ⟨i, A, c, l, hi, rfl, rfl, hS, HN, HV, hb⟩ := hrel
    by_cases hlt : i < 4
    · have hll : l.length ≤ 60 := by
        have := norm_len HN.out h0 h1 (k := 2 ^ i) (by have := Nat.pow_le_pow_right (n := 2) (by omega) (show i ≤ 4 by omega); omega) HV.out
        omega
      go_wp2_with (go_at_call 172; refine (times_c A A c c l l _ hS hS HN.out HN.out hll hll).mono ?_; rintro e w2 ⟨C, k, m, rfl, hS2, hb2, hN2, hv2⟩)
      exact ⟨⟨i + 1, C, k, m, by omega, by go_num, rfl, hS2, hN2, by show _ = _; rw [hv2, HV.out, ← Int.pow_add, Nat.pow_succ, Nat.mul_two], Bst hb hb2⟩, by simp [intOf]; omega⟩
    · obtain rfl : i = 4 := by omega
      go_wp2
      go_ret
      exact ⟨_, _, l, rfl, hS, hb, HN.out, HV.out⟩
theorem pow_mono {a b : Int} (h0 : 0 ≤ b) (h : b ≤ a) : b ^ 16 ≤ a ^ 16 := by
  obtain ⟨m, rfl⟩ := Int.eq_ofNat_of_zero_le (show 0 ≤ a by omega)
  obtain ⟨n, rfl⟩ := Int.eq_ofNat_of_zero_le h0
  have h1 : ((n ^ 16 : Nat) : Int) ≤ ((m ^ 16 : Nat) : Int) := Int.ofNat_le.2 (Nat.pow_le_pow_left (by omega) 16)
  rw [Int.natCast_pow, Int.natCast_pow] at h1
  exact h1
theorem pow_most (m n k : Nat) (h : m * n ≤ k) : (2 ^ m) ^ n ≤ 2 ^ k := by rw [← Nat.pow_mul]; exact Nat.pow_le_pow_right (by omega) h
theorem two_cap {k : Nat} {a b : Int} (hb : 1 ≤ b) (ha : 0 ≤ a) (ha2 : a ≤ 2147483648) (h : 2 ^ k * b ^ 16 ≤ a ^ 16) : k < 1000 := by
  rcases Nat.lt_or_ge k 1000 with h1 | h1
  · exact h1
  · exfalso
    have h2 := pow_cap ha ha2 16 (by omega)
    have h3 : (1 : Int) ≤ b ^ 16 := by have : (0 : Int) < b ^ 16 := Int.pow_pos (by omega); omega
    have h4 : (2 : Int) ^ k * 1 ≤ 2 ^ k * b ^ 16 := Int.mul_le_mul_of_nonneg_left h3 (Int.le_of_lt (Int.pow_pos (by omega)))
    have h5 : (10000 : Nat) ^ 40 ≤ (2 ^ 14) ^ 40 := Nat.pow_le_pow_left (by omega) 40
    have h6 : (2 ^ 14) ^ 40 ≤ 2 ^ k := pow_most 14 40 k (by omega)
    have h7 : ((10000 ^ 40 : Nat) : Int) ≤ ((2 ^ k : Nat) : Int) := Int.ofNat_le.2 (Nat.le_trans h5 h6)
    rw [Int.natCast_pow, Int.natCast_pow] at h7
    have h8 : (10000 : Int) ^ 40 ≤ 2 ^ k := h7
    rw [Int.mul_one] at h4
    exact absurd (Int.lt_of_le_of_lt (Int.le_trans h4 h) h2) (by omega)
theorem ratio_int {k : Nat} {a b : Int} (hb : 1 ≤ b) (ha : 0 ≤ a) (h1 : 2 ^ k * b ^ 16 ≤ a ^ 16) (h2 : a ^ 16 < 2 ^ (k + 1) * b ^ 16) : ratioN a.toNat b.toNat = k := by
  obtain ⟨m, rfl⟩ := Int.eq_ofNat_of_zero_le ha
  obtain ⟨n, rfl⟩ := Int.eq_ofNat_of_zero_le (show 0 ≤ b by omega)
  refine ratio_of (by omega) ?_ ?_
  · simp only [Int.toNat_natCast]
    have : ((2 ^ k * n ^ 16 : Nat) : Int) ≤ ((m ^ 16 : Nat) : Int) := by push_cast; exact h1
    exact Int.ofNat_le.1 this
  · simp only [Int.toNat_natCast]
    have : ((m ^ 16 : Nat) : Int) < ((2 ^ (k + 1) * n ^ 16 : Nat) : Int) := by push_cast; exact h2
    exact Int.ofNat_lt.1 this
theorem norm_two : Norm [2] := ⟨fun x hx => by obtain rfl := List.mem_singleton.1 hx; omega, fun _ => by simp⟩
/-- What 'Ratio' hands back. -/
def ratV (a b : Int) : Value := if b < 1 ∨ a < b ∨ 2147483648 < a then .tuple #[.int .i64 0, .int .i64 2] else .tuple #[.int .i64 (ratioN a.toNat b.toNat), .int .i64 0]
set_option maxHeartbeats 1000000 in
set_option maxRecDepth 100000 in
theorem r3ratio_c (a b : Int) (w : World) : Calls Tryz.prog 110 #[.int .i64 a, .int .i64 b] w (Ret w (ratV a b)) := by
  by_cases hbad : b < 1 ∨ a < b ∨ 2147483648 < a
  · have HV : Hid (ratV a b = .tuple #[.int .i64 0, .int .i64 2]) := by show ratV a b = _; unfold ratV; rw [if_pos hbad]
    by_cases h1 : b < 1 <;> by_cases h2 : a < b <;> by_cases h3 : 2147483648 < a <;> try (exfalso; omega)
    all_goals
      clear hbad
      go_enter Tryz.func110, Tryz.ntmps110
      go_wp2
      go_ret2
      exact ⟨by rw [HV.out]; rfl, Bel⟩
  · have h1 : ¬ b < 1 := fun h => hbad (.inl h)
    have h2 : ¬ a < b := fun h => hbad (.inr (.inl h))
    have h3 : ¬ 2147483648 < a := fun h => hbad (.inr (.inr h))
    have HV : Hid (ratV a b = .tuple #[.int .i64 (ratioN a.toNat b.toNat), .int .i64 0]) := by show ratV a b = _; unfold ratV; rw [if_neg hbad]
    clear hbad
    go_enter Tryz.func110, Tryz.ntmps110
    go_wp2_with fail
    refine (sixteenth_c a _ (by omega) (by omega)).mono ?_
    rintro e w1 ⟨A, c, x, rfl, hX, hb1, hN1, hv1⟩
    go_wp2_with fail
    refine (sixteenth_c b _ (by omega) (by omega)).mono ?_
    rintro e w2 ⟨B, d, y, rfl, hY, hb2, hN2, hv2⟩
    have hX2 := hX.below hb2
    have HN1 := Lib.hid hN1; have HV1 := Lib.hid hv1; have HN2 := Lib.hid hN2; have HV2 := Lib.hid hv2
    clear hX hN1 hN2 hv1 hv2
    have hb12 : Below w.heap.size w w2 := Bst hb1 hb2
    go_wp2_with fail
    go_loopw [7, 8] (fun v s wr => ∃ (k : Nat) (B : Option Addr) (d : Nat) (y : List Int), s = .int .i64 ((k : Int) - 1) ∧ v = .slice B y.length d ∧ SlA eI wr B y ∧ Hid (Norm y) ∧ Hid (valB 10000 y = 2 ^ k * b ^ 16) ∧ Hid (k = 0 ∨ 2 ^ (k - 1) * b ^ 16 ≤ a ^ 16) ∧ Below w2.heap.size w2 wr) (fun _ s _ => 2000 - (intOf s + 1).toNat)
    case atStart => exact ⟨0, B, d, y, rfl, rfl, hY, HN2, by show _ = _; rw [HV2.out]; simp, .inl rfl, Bel⟩
    case round =>
      clear hY HN2 HV2
      obtain ⟨k, B, d, y, rfl, rfl, hY, HN2, HV2, HK, hbr⟩ := hrel
      have hba : b ^ 16 ≤ a ^ 16 := pow_mono (by omega) (by omega)
      have hca := pow_cap (show 0 ≤ a by omega) (by omega) 16 (by omega)
      have hy2 : valB 10000 y ≤ 2 * a ^ 16 := by
        rw [HV2.out]
        rcases HK.out with rfl | h
        · have : (0 : Int) ≤ a ^ 16 := Int.pow_nonneg (by omega)
          rw [Int.pow_zero, Int.one_mul]; omega
        · rcases Nat.eq_zero_or_pos k with rfl | hp
          · have : (0 : Int) ≤ a ^ 16 := Int.pow_nonneg (by omega)
            rw [Int.pow_zero, Int.one_mul]; omega
          · obtain ⟨j, rfl⟩ : ∃ j, k = j + 1 := ⟨k - 1, by omega⟩
            rw [Nat.add_sub_cancel] at h
            rw [Int.pow_succ]
            have : (2 : Int) ^ j * 2 * b ^ 16 = 2 * (2 ^ j * b ^ 16) := by grind
            omega
      have hyl : y.length ≤ 41 := top_len (by omega) HN2.out.dig HN2.out.top (by
        have e : (10000 : Int) ^ 41 = 10000 ^ 40 * 10000 := Int.pow_succ ..
        rw [e]
        generalize (10000 : Int) ^ 40 = q at *
        omega)
      have hxl := norm_len HN1.out (show 0 ≤ a by omega) (by omega) (by omega) HV1.out
      cases hq : decide (valB 10000 x < valB 10000 y)
      · have HQ := Lib.hid hq
        have hle : 2 ^ k * b ^ 16 ≤ a ^ 16 := by
          have := of_decide_eq_false hq
          rw [HV1.out, HV2.out] at this
          omega
        have hk := two_cap (show 1 ≤ b by omega) (show 0 ≤ a by omega) (by omega) hle
        have HL := Lib.hid hle
        have HBA := Lib.hid hba
        clear hq hle hba hca hy2
        go_wp2_with (first
          | (go_at_call 171; refine (more_c B A d c y x _ (hY.below Bel) (hX2.below Bel) HN2.out HN1.out (by omega)).mono ?_; rintro e w3 ⟨rfl, hb3⟩; rw [HQ.out])
          | (go_at_call 172; refine (times_c B (some ⟨_, 0, none⟩) d 1 y [2] _ (hY.below Bel) (SlA.new _ _ _ _ _ rfl _ rfl) HN2.out norm_two (by omega) (by simp)).mono ?_; rintro e w4 ⟨C, e4, z, rfl, hZ, hb4, hN4, hv4⟩))
        refine ⟨⟨k + 1, C, e4, z, by congr 1; push_cast; omega, rfl, hZ, hN4, ?_, .inr (by rw [Nat.add_sub_cancel]; exact HL.out), Bel⟩, by simp [intOf]; omega⟩
        show _ = _
        rw [hv4, HV2.out, Int.pow_succ]
        simp only [valB]
        grind
      · have HQ := Lib.hid hq
        have hgt : a ^ 16 < 2 ^ k * b ^ 16 := by
          have := of_decide_eq_true hq
          rwa [HV1.out, HV2.out] at this
        have hk0 : k ≠ 0 := by rintro rfl; rw [Int.pow_zero, Int.one_mul] at hgt; omega
        obtain ⟨j, rfl⟩ : ∃ j, k = j + 1 := ⟨k - 1, by omega⟩
        have hr : ratioN a.toNat b.toNat = j := ratio_int (by omega) (by omega) (by rcases HK.out with h | h; · omega
                                                                                    · exact h) hgt
        have HR := Lib.hid hr
        clear hq hgt hba hca hy2 hr
        go_wp2_with (go_at_call 171; refine (more_c B A d c y x _ (hY.below Bel) (hX2.below Bel) HN2.out HN1.out (by omega)).mono ?_; rintro e w3 ⟨rfl, hb3⟩; rw [HQ.out])
        go_ret2
        exact ⟨by rw [HV.out, HR.out]; rfl, Bst hb12 (Bst hbr hb3)⟩
/-- What 'Cost' hands back. -/
def cstV (total kinds n : Int) : Value := if total < 0 ∨ 1073741824 < total ∨ kinds < 1 ∨ 4096 < kinds ∨ n < 0 ∨ total < n then .tuple #[.int .i64 0, .int .i64 2] else .tuple #[.int .i64 (costN total.toNat kinds.toNat n.toNat), .int .i64 0]
set_option maxHeartbeats 1000000 in
set_option maxRecDepth 100000 in
theorem r3cost_c (t k n : Int) (w : World) (ht : -9223372036854775808 ≤ t ∧ t ≤ 9223372036854775807) (hk : -9223372036854775808 ≤ k ∧ k ≤ 9223372036854775807) (hn : -9223372036854775808 ≤ n ∧ n ≤ 9223372036854775807) :
    Calls Tryz.prog 65 #[.int .i64 t, .int .i64 k, .int .i64 n] w (Ret w (cstV t k n)) := by
  by_cases hbad : t < 0 ∨ 1073741824 < t ∨ k < 1 ∨ 4096 < k ∨ n < 0 ∨ t < n
  · have HV : Hid (cstV t k n = .tuple #[.int .i64 0, .int .i64 2]) := by show cstV t k n = _; unfold cstV; rw [if_pos hbad]
    have HB := Lib.hid hbad
    clear hbad
    go_enter Tryz.func65, Tryz.ntmps65
    go_wp2_with (go_at_call 110; exfalso; have := HB.out; omega)
    all_goals (go_ret2; exact ⟨by rw [HV.out]; rfl, Bel⟩)
  · have h1 : ¬ t < 0 := fun h => hbad (by omega)
    have h2 : ¬ 1073741824 < t := fun h => hbad (by omega)
    have h3 : ¬ k < 1 := fun h => hbad (by omega)
    have h4 : ¬ 4096 < k := fun h => hbad (by omega)
    have h5 : ¬ n < 0 := fun h => hbad (by omega)
    have h6 : ¬ t < n := fun h => hbad (by omega)
    obtain ⟨r, hr⟩ : ∃ r : Nat, ratioN (t.toNat + k.toNat) (n.toNat + 1) = r := ⟨_, rfl⟩
    have HV : Hid (cstV t k n = .tuple #[.int .i64 ((min (max r 1) 255 : Nat) : Int), .int .i64 0]) := by show cstV t k n = _; unfold cstV costN; rw [if_neg hbad, hr]
    have HR : Hid (ratV (t + k) (n + 1) = .tuple #[.int .i64 r, .int .i64 0]) := by
      show ratV (t + k) (n + 1) = _
      unfold ratV
      rw [if_neg (by omega), show (t + k).toNat = t.toNat + k.toNat by omega, show (n + 1).toNat = n.toNat + 1 by omega, hr]
    clear hr
    clear hbad
    go_enter Tryz.func65, Tryz.ntmps65
    go_wp2_with (go_at_call 110; refine (r3ratio_c (t + k) (n + 1) _).mono ?_; rintro e w3 ⟨rfl, hb3⟩; rw [HR.out])
    all_goals
      go_ret2
      refine ⟨?_, Bel⟩
      first
        | (have e : ((min (max r 1) 255 : Nat) : Int) = r := by omega
           rw [HV.out, e]; rfl)
        | (have e : ((min (max r 1) 255 : Nat) : Int) = 1 := by omega
           rw [HV.out, e]; rfl)
        | (have e : ((min (max r 1) 255 : Nat) : Int) = 255 := by omega
           rw [HV.out, e]; rfl)
        | (have e : ((min (max r 1) 255 : Nat) : Int) = max 1 (min 255 (r : Int)) := by omega
           rw [HV.out, e]; rfl)
end Go.Proofs.YtpnhmapkdbnkmaaGreatDoor
