/- Of two numbers of nine words the greater one; a number by itself. No condition. -/
import Derived.Test.YtpccanadijefnaaDoorWide
import Derived.Test.YtpccanadijefnaaDoorShelf
import Derived.Laws.Externs
namespace Go.Proofs.YtpccanadijefnaaDoor
open Go Go.RowKit Go.Great
set_option maxHeartbeats 1000000 in
set_option maxRecDepth 100000 in
theorem wless_c (l m : List Nat) (w : World) (hl : WdB l) (hm : WdB m) : Calls Tryd.prog 142 #[.agg (wv l), .agg (wv m)] w (Ret w (.bool (decide (vW l < vW m)))) := by
  have hsz : (Value.agg (wv l)).cells = wv l := rfl
  have hsz2 : (Value.agg (wv m)).cells = wv m := rfl
  have HL := Lib.hid hl; have HM := Lib.hid hm
  clear hl hm
  go_enter Tryd.func142, Tryd.ntmps142
  go_wp2
  have hW0 : Wx (w.alloc (.cells (wv l) 188)) w.heap.size l := heap_alloc_new w _
  have hW1 : Wx ((w.alloc (.cells (wv l) 188)).alloc (.cells (wv m) 188)) w.heap.size l := hW0.below (Bal (Below.refl _ _) _)
  have hW2 : Wx ((w.alloc (.cells (wv l) 188)).alloc (.cells (wv m) 188)) (w.heap.size + 1) m := heap_alloc2_new w (.cells (wv l) 188) (.cells (wv m) 188)
  have hB : Below w.heap.size w ((w.alloc (.cells (wv l) 188)).alloc (.cells (wv m) 188)) := Bel
  go_loopw [5] (fun s wr => ∃ k : Nat, k ≤ 9 ∧ s = .int .i64 ((k : Int) - 1) ∧ Hid (l.drop k = m.drop k) ∧ Hid (Wx wr w.heap.size l) ∧ Hid (Wx wr (w.heap.size + 1) m) ∧ Below w.heap.size w wr) (fun s _ => (intOf s + 1).toNat)
  case atStart => exact ⟨9, by omega, rfl, by show _ = _; rw [List.drop_of_length_le (by rw [HL.out.1]; omega), List.drop_of_length_le (by rw [HM.out.1]; omega)], hW1, hW2, hB⟩
  case round =>
    clear hW0 hW1 hW2 hB
    obtain ⟨k, hk, rfl, HE, HA, HB, hb⟩ := hrel
    cases k with
    | zero =>
      have he := HE.out
      simp only [List.drop_zero] at he
      have HV : Hid (decide (vW l < vW m) = false) := by show decide _ = _; rw [he]; simp
      clear he
      go_wp2
      go_ret
      exact ⟨by rw [HV.out]; rfl, Bel⟩
    | succ k =>
      have hk1 : k < l.length := by rw [HL.out.1]; omega
      have hk2 : k < m.length := by rw [HM.out.1]; omega
      have cA := HA.out.cell k hk1
      have cB := HB.out.cell k hk2
      have e0 : ((k + 1 : Nat) : Int) - 1 = k := by omega
      rw [e0]
      have i1 : (k : Int) < 9 := by omega
      have hz := HL.out.1
      have w1 : IntKind.i64.wrap (k : Int) = k := IntWalk.i64_in _ (by omega)
      obtain ⟨x, hx⟩ : ∃ x, l[k] = x := ⟨_, rfl⟩
      obtain ⟨y, hy⟩ : ∃ y, m[k] = y := ⟨_, rfl⟩
      rw [hx] at cA
      rw [hy] at cB
      obtain ⟨bz, hbz⟩ : ∃ bz, ((x : Int) != y) = bz := ⟨_, rfl⟩
      have HBZ := Lib.hid hbz
      have HN : Hid (bz = false → l.drop k = m.drop k) := fun h => by
        rw [h] at hbz
        rw [List.drop_eq_getElem_cons hk1, List.drop_eq_getElem_cons hk2, HE.out, hx, hy]
        congr 1
        have h' : (x : Int) = y := by simpa using hbz
        omega
      have HT : Hid (bz = true → decide (vW l < vW m) = decide (x < y)) := fun h => by
        rw [h] at hbz
        have hne : (x : Int) ≠ y := by simpa using hbz
        rcases Nat.lt_or_ge x y with h1 | h1
        · have := vW_less HL.out HM.out k hk1 hk2 HE.out (by rw [hx, hy]; exact h1)
          rw [decide_eq_true this, decide_eq_true (by omega)]
        · have := vW_less HM.out HL.out k hk2 hk1 HE.out.symm (by rw [hx, hy]; omega)
          rw [decide_eq_false (by omega), decide_eq_false (by omega)]
      clear hx hy hz
      go_wp2_with fail
      refine region_qall (by kernel_rfl) (by kernel_rfl) (fun W => ∃ n, W = World.drewN _ n) ⟨1, rfl⟩ ?_
      repeat (quiet_step (fail))
      refine wpQuiet_nil ?_
      intro _ hw'
      obtain ⟨nq, rfl⟩ := hw'
      go_wp2_with fail
      · have hb' : bz = true := by assumption
        refine region_qall (by kernel_rfl) (by kernel_rfl) (fun W => ∃ n, W = World.drewN _ n) ⟨1, rfl⟩ ?_
        repeat (quiet_step (fail))
        refine wpQuiet_nil ?_
        intro _ hw'
        obtain ⟨nq2, rfl⟩ := hw'
        go_wp2_with fail
        go_ret
        exact ⟨by rw [HT.out hb']; rfl, Bel⟩
      · have hb' : bz = false := by assumption
        exact ⟨⟨k, by omega, rfl, HN.out hb', HA.out, HB.out, Bel⟩, by simp [intOf]⟩
/-- What is the same but for some of q, and less than q, is the same. -/
theorem unwrap {a b n q : Int} (h0 : 0 ≤ a) (h1 : a < n) (h2 : 0 ≤ b) (h3 : b < n) (h : a + q * n = b) : a = b := by
  have e : q = 0 := by
    rcases Int.lt_trichotomy q 0 with h4 | h4 | h4
    · exfalso
      have h5 : q * n ≤ -1 * n := Int.mul_le_mul_of_nonneg_right (by omega) (by omega)
      omega
    · exact h4
    · exfalso
      have h5 : 1 * n ≤ q * n := Int.mul_le_mul_of_nonneg_right (by omega) (by omega)
      omega
  subst e
  omega
theorem add64_c (x y : Nat) (w : World) : (callFunc 190 #[.int .u64 x, .int .u64 y, .int .u64 0]).run Tryd.prog w = .ok (.value (.tuple #[.int .u64 (((x + y) % 18446744073709551616 : Nat) : Int), .int .u64 (((x + y) / 18446744073709551616 : Nat) : Int)])) w := by
  rw [run_callFunc_extern Tryd.func190 (by kernel_rfl) (by kernel_rfl) (by kernel_rfl) (e := add64Entry) (by kernel_rfl), run_add64 x y 0 (by omega) (by omega) (by omega) (by omega)]
  simp only [Result.andThen]
  congr 5 <;> omega
set_option maxHeartbeats 2000000 in
set_option maxRecDepth 100000 in
theorem square_c (l : List Nat) (w : World) (hl : WdB l) : Calls Tryd.prog 143 #[.agg (wv l)] w fun e w' => ∃ m, e = .returned (.agg (wv m)) ∧ Below w.heap.size w w' ∧ WdB m ∧ (vW l * vW l < 18446744073709551616 ^ 9 → vW m = vW l * vW l) := by
  have hsz : (Value.agg (wv l)).cells = wv l := rfl
  have hW0 : Wx (w.alloc (.cells (wv l) 188)) w.heap.size l := heap_alloc_new w _
  have hW1 : Wx ((w.alloc (.cells (wv l) 188)).alloc (.cells (wv [0, 0, 0, 0, 0, 0, 0, 0, 0]) 188)) w.heap.size l := hW0.below (Bal (Below.refl _ _) _)
  go_enter Tryd.func143, Tryd.ntmps143
  go_wp2_with (refine wpList_load_row rfl 188 (.tmp 1) rfl w.heap.size rfl 188 (wv l) (0, 0) _ hW1 Tryd.underlying188 rfl (by rw [wv_size, hl.1]; exact info_wide) ?_)
  have hW2 : Wx ((w.alloc (.cells (wv l) 188)).alloc (.cells (wv [0, 0, 0, 0, 0, 0, 0, 0, 0]) 188)) (w.heap.size + 1) [0, 0, 0, 0, 0, 0, 0, 0, 0] := heap_alloc2_new w (.cells (wv l) 188) (.cells (wv [0, 0, 0, 0, 0, 0, 0, 0, 0]) 188)
  have hB : Below w.heap.size w ((w.alloc (.cells (wv l) 188)).alloc (.cells (wv [0, 0, 0, 0, 0, 0, 0, 0, 0]) 188)) := Bel
  go_loopw [11] (fun s wr => ∃ (i : Nat) (m : List Nat), i ≤ 9 ∧ s = .int .i64 i ∧ Hid (Wx wr w.heap.size l) ∧ Hid (Wx wr (w.heap.size + 1) m) ∧ Hid (WdB m ∧ ∃ q : Int, vW m + q * 18446744073709551616 ^ 9 = vW (l.take i) * vW l) ∧ Below w.heap.size w wr) (fun s _ => 9 - (intOf s).toNat)
  case atStart => exact ⟨0, _, by omega, rfl, hW1, hW2, ⟨⟨rfl, by simp⟩, 0, by simp [vW, valB]⟩, hB⟩
  case round =>
    clear hW0 hW1 hW2 hB
    obtain ⟨i, m, hi, rfl, HA, HB, HM, hb⟩ := hrel
    by_cases hlt : i < 9
    · have hkl : i < l.length := by rw [hl.1]; exact hlt
      have hidx : ∀ W, (Instr.index 188 (.agg (wv l)) (.int .i64 i)).run Tryd.prog W = .ok (.int .u64 (l[i] : Nat)) W := index_wv l i hkl hlt
      obtain ⟨x, hx⟩ : ∃ x, l[i] = x := ⟨_, rfl⟩
      have hxl := hl.at i hkl
      rw [hx] at hidx hxl
      have hx := Lib.hid hx
      have h9 : (9 : Int) - i = ((9 - i : Nat) : Int) := by omega
      have hlt9 : (i : Int) < 9 := by omega
      obtain ⟨V0, hV0⟩ : ∃ V0, vW m = V0 := ⟨_, rfl⟩
      have hV0 := Lib.hid hV0
      have HQ : Hid (∃ q : Int, V0 + q * 18446744073709551616 ^ 9 = vW (l.take i) * vW l) := by rw [← hV0.out]; exact HM.out.2
      go_wp2
      go_loopw [5, 17] (fun c s wr => ∃ (k c' : Nat) (m : List Nat), i + k ≤ 9 ∧ s = .int .i64 k ∧ c = .int .u64 (c' : Int) ∧ c' < 18446744073709551616 ∧ Hid (Wx wr w.heap.size l) ∧ Hid (Wx wr (w.heap.size + 1) m) ∧ Hid (WdB m ∧ vW m + c' * 18446744073709551616 ^ (i + k) = V0 + x * vW (l.take k) * 18446744073709551616 ^ i) ∧ Below w.heap.size w wr) (fun _ s _ => 9 - (intOf s).toNat)
      case atStart => exact ⟨0, 0, m, by omega, rfl, rfl, by omega, HA, HB, ⟨HM.out.1, by rw [hV0.out]; simp [vW, valB]⟩, hb⟩
      case round =>
        clear HA HB HM hb hV0
        obtain ⟨k, c', m, hk, rfl, rfl, hc, HA, HB, HM, hb⟩ := hrel
        by_cases hkt : i + k < 9
        · have hk1 : k < l.length := by rw [hl.1]; omega
          have hk2 : i + k < m.length := by rw [HM.out.1.1]; omega
          have cA := HA.out.cell k hk1
          have cB := HB.out.cell (i + k) hk2
          have fB := HB.out.free (i + k)
          obtain ⟨y, hy⟩ : ∃ y, l[k] = y := ⟨_, rfl⟩
          have hyl := hl.at k hk1
          rw [hy] at cA hyl
          have hy := Lib.hid hy
          obtain ⟨o, ho⟩ : ∃ o, m[i + k] = o := ⟨_, rfl⟩
          have hol := HM.out.1.at (i + k) hk2
          rw [ho] at cB hol
          have ho := Lib.hid ho
          obtain ⟨s1, s2, s3⟩ := sq_step x y c' o hxl hyl hc hol
          have hmul := fun W => Tryd.bits_Mul64 x y hxl hyl W
          have hhi : x * y / 18446744073709551616 < 18446744073709551616 := by omega
          have hlo : x * y % 18446744073709551616 < 18446744073709551616 := Nat.mod_lt _ (by omega)
          generalize x * y / 18446744073709551616 = hi0 at *
          generalize x * y % 18446744073709551616 = lo0 at *
          have a1 := fun W => add64_c lo0 c' W
          have hu1 : (lo0 + c') % 18446744073709551616 < 18446744073709551616 := Nat.mod_lt _ (by omega)
          have hc1 : (lo0 + c') / 18446744073709551616 ≤ 1 := by omega
          generalize (lo0 + c') % 18446744073709551616 = u1 at *
          generalize (lo0 + c') / 18446744073709551616 = c1 at *
          have a2 := fun W => add64_c o u1 W
          have hu2 : (o + u1) % 18446744073709551616 < 18446744073709551616 := Nat.mod_lt _ (by omega)
          have hc2 : (o + u1) / 18446744073709551616 ≤ 1 := by omega
          generalize (o + u1) % 18446744073709551616 = u2 at *
          generalize (o + u1) / 18446744073709551616 = c2 at *
          have S1 := Lib.hid s1
          clear s1
          have w1e : IntKind.u64.wrap ((hi0 : Int) + c1) = (hi0 : Int) + c1 := by rw [IntKind.wrap_u64]; omega
          have w2e : IntKind.u64.wrap ((hi0 : Int) + c1 + c2) = (hi0 : Int) + c1 + c2 := by rw [IntKind.wrap_u64]; omega
          go_wp2_with (go_at_call 189; refine (hmul _).mono ?_; rintro e w2 ⟨rfl, rfl⟩)
          go_roundw
          case rel =>
            have hWp := HB.out.put (i + k) u2
            refine ⟨k + 1, hi0 + c1 + c2, _, by omega, by go_num, by push_cast; rfl, s2, HA.out.other _ (by show w.heap.size ≠ w.heap.size + 1; omega) _, hWp, ⟨WdB.set HM.out.1 _ hu2, ?_⟩, Bsc hb (by show w.heap.size ≤ w.heap.size + 1; omega) _⟩
            have hv := HM.out.2
            rw [vW_set _ hk2, ho.out, vW_take k hk1, hy.out, ← Nat.add_assoc, Int.pow_succ, Int.pow_add]
            rw [Int.pow_add] at hv
            have e1 : (u2 : Int) + ((hi0 + c1 + c2 : Nat) : Int) * 18446744073709551616 = o + x * y + c' := by
              have h := S1.out
              have hp : (x : Int) * y = ((x * y : Nat) : Int) := (Int.natCast_mul x y).symm
              rw [hp]
              generalize x * y = p at *
              omega
            generalize ((hi0 + c1 + c2 : Nat) : Int) = z at *
            generalize (18446744073709551616 : Int) ^ i = p at *
            generalize (18446744073709551616 : Int) ^ k = r at *
            have e2 : (u2 : Int) = o + x * y + c' - z * 18446744073709551616 := by omega
            have e3 : vW m = V0 + x * vW (l.take k) * p - c' * (p * r) := by omega
            rw [e2, e3]
            grind
          case measure => simp [intOf]; omega
        · have hk9 : i + k = 9 := by omega
          go_wp2
          refine ⟨⟨i + 1, m, by omega, by go_num, HA, HB, ⟨HM.out.1, ?_⟩, hb⟩, by simp [intOf]; omega⟩
          obtain ⟨q, hq⟩ := HQ.out
          have hv := HM.out.2
          rw [hk9] at hv
          have e1 : vW l = vW (l.take k) + 18446744073709551616 ^ k * valB 18446744073709551616 ((l.drop k).map fun x : Nat => (x : Int)) := by
            have h1 : vW (l.take k ++ l.drop k) = vW (l.take k) + 18446744073709551616 ^ k * valB 18446744073709551616 ((l.drop k).map fun x : Nat => (x : Int)) := by
              unfold vW
              rw [List.map_append, valB_append, List.length_map, List.length_take, Nat.min_eq_left (by rw [hl.1]; omega)]
            rwa [List.take_append_drop] at h1
          have e9 : (18446744073709551616 : Int) ^ 9 = 18446744073709551616 ^ i * 18446744073709551616 ^ k := by rw [← Int.pow_add, hk9]
          rw [vW_take i hkl, hx.out]
          generalize valB 18446744073709551616 ((l.drop k).map fun x : Nat => (x : Int)) = R at *
          refine ⟨q + x * R + c', ?_⟩
          rw [e9] at hq hv ⊢
          generalize (18446744073709551616 : Int) ^ i = p at *
          generalize (18446744073709551616 : Int) ^ k = r at *
          generalize vW (l.take i) = a at *
          generalize vW (l.take k) = b at *
          generalize vW m = v at *
          rw [e1] at hq ⊢
          grind
    · obtain rfl : i = 9 := by omega
      obtain ⟨hmd, q, hv⟩ := HM.out
      have HWW := HB.out
      go_wp2_with (first
        | (refine wpList_load_row rfl 188 (.tmp 2) rfl (w.heap.size + 1) rfl 188 (wv m) (0, 0) _ HWW Tryd.underlying188 rfl (by rw [wv_size, hmd.1]; exact info_wide) ?_)
        | (refine wpList_store_rowTo rfl 188 (.tmp 2) (.tmp 56) rfl rfl (w.heap.size + 1) (wv m) rfl rfl 188 (wv m) HWW (by rw [wv_size, hmd.1]; exact info_wide) rfl (wv_one m) ?_))
      refine bodyPost_ret (results_cell_row rfl _ _ (w.heap.size + 1) 188 (wv m) (0, 0) _ rfl HWW.row Tryd.underlying188 rfl (by rw [wv_size, hmd.1]; exact info_wide)) rfl ?_
      refine ⟨m, rfl, Bsr hb _ (by omega) _, hmd, fun hlt2 => ?_⟩
      rw [List.take_of_length_le (by rw [hl.1]; omega)] at hv
      have h0 := hmd.pos
      have h1 := hmd.lt
      have h2 := Int.mul_nonneg hl.pos hl.pos
      exact unwrap h0 h1 h2 hlt2 hv
end Go.Proofs.YtpccanadijefnaaDoor
