/- The program's ratio and what something costs. No condition. -/
import Derived.Test.YtpccanadijefnaaDoorWideB
import Derived.Test.YtpccanadijefnaaDoorLogB
import Derived.Test.YtpccanadijefnaaDoorMix
namespace Go.Proofs.YtpccanadijefnaaDoor
open Go Go.RowKit Go.Great
def z9 : List Nat := [0, 0, 0, 0, 0, 0, 0, 0, 0]
def w9 (a : Nat) : List Nat := [a, 0, 0, 0, 0, 0, 0, 0, 0]
theorem w9_wd {a : Nat} (h : a < 18446744073709551616) : WdB (w9 a) := ⟨rfl, fun x hx => by simp [w9] at hx; omega⟩
theorem w9_v (a : Nat) : vW (w9 a) = a := by simp [vW, w9, valB]
theorem Wx.al {w : World} {b : Nat} {l : List Nat} (h : Wx w b l) (o : Obj) : Wx (w.alloc o) b l := h.below (Bal (Below.refl _ _) _)
theorem Wx.rw' {w : World} {b g : Nat} {l : List Nat} (h : Wx w b l) (hg : b ≠ g) (cs : Array Value) : Wx (w.setRow g cs) b l := (setRow_other w g b cs hg).trans h
theorem Wx.new (w : World) (l : List Nat) : Wx (w.alloc (.cells (wv l) 188)) w.heap.size l := heap_alloc_new w _
theorem Bel2 {a w : World} (h : Below a.heap.size a w := by repeat (first | assumption | exact Below.refl _ _ | refine Bal ?_ _ | refine Bsr ?_ _ (by first | exact Nat.le_refl _ | omega) _ | refine Bdn ?_ _ | refine Below.drew ?_ | refine Bst ?_ (by assumption))) : Below a.heap.size a w := h
theorem take_row {P : Program} {ops : Array Oper} {w0 : World} {o : Oper} {a : Act} {K : Act → Prop} (hgd : o.guard = none) (ty : TypeId) (x : Operand) (ho : o.op = .load ty x) (g : Nat) (hx : a.eval x = .pointer (some ⟨g, 0, none⟩))
    (t : TypeId) (cs : Array Value) (fr : Nat × Nat) (d : TypeDesc) (hg : w0.heap[g]? = some (.cells cs t fr)) (hu : P.underlying ty = some d) (hd : (match d with | .struct _ | .array _ _ => true | _ => false) = true) (hi : (P.info? ty).map (·.size) = some cs.size)
    (h : K (a.put o.dst (.agg cs))) : takeQ P ops w0 o a K := by
  unfold takeQ
  rw [if_pos (by unfold Region.wanted; rw [hgd])]
  refine ⟨.agg cs, fun X => ?_, h⟩
  have hg' : (World.ext w0 X).heap[g]? = some (.cells cs t fr) := (X.h.block g (Array.getElem?_eq_some_iff.1 hg).1).trans hg
  unfold execOp
  simp only [ho, hx, Instr.loadAt, Instr.sureAddr, Sem.run_bind, Sem.run_pure, Result.andThen_ok, run_loadVar_row _ g t ty cs fr d hg' hu hd hi]
/-- What holds at a bit's begin. -/
structure RI (x y i k : Nat) (lx ly : List Nat) : Prop where
  dx : WdB lx
  dy : WdB ly
  vx : vW lx = (x : Int) ^ 2 ^ i
  vy : vW ly = (y : Int) ^ 2 ^ i * 2 ^ k
  le : vW ly ≤ vW lx
  lt : vW lx < 2 * vW ly
theorem cap9 : (10000 : Int) ^ 40 * 4 < 18446744073709551616 ^ 9 := by decide
theorem RI.sq {x y i k : Nat} {lx ly : List Nat} (h : RI x y i k lx ly) (hi : i < 4) (hx : x ≤ 2147483648) :
    vW lx * vW lx = (x : Int) ^ 2 ^ (i + 1) ∧ vW ly * vW ly = (y : Int) ^ 2 ^ (i + 1) * 2 ^ (k * 2) ∧ vW ly * vW ly ≤ vW lx * vW lx ∧ vW lx * vW lx < 4 * (vW ly * vW ly) ∧ vW lx * vW lx < 10000 ^ 40 ∧ 0 ≤ vW ly * vW ly := by
  have h0 := h.dy.pos
  have h1 : vW lx * vW lx = (x : Int) ^ 2 ^ (i + 1) := by rw [h.vx, ← Int.pow_add, Nat.pow_succ, Nat.mul_two]
  refine ⟨h1, ?_, Int.mul_le_mul h.le h.le h0 (by have := h.le; omega), ?_, ?_, Int.mul_nonneg h0 h0⟩
  · rw [h.vy, Nat.pow_succ, Nat.mul_two, Nat.mul_two, Int.pow_add, Int.pow_add]; grind
  · have h2 : vW lx * vW lx < (2 * vW ly) * (2 * vW ly) := Int.mul_lt_mul' (Int.le_of_lt h.lt) h.lt (by have := h.le; omega) (by have := h.lt; have := h.le; omega)
    have e : (2 * vW ly) * (2 * vW ly) = 4 * (vW ly * vW ly) := by grind
    omega
  · rw [h1]
    exact pow_cap (by omega) (by omega) _ (by have := Nat.pow_le_pow_right (n := 2) (by omega) (show i + 1 ≤ 4 by omega); omega)
theorem RI.kcap {x y i k : Nat} {lx ly : List Nat} (h : RI x y i k lx ly) (hi : i ≤ 4) (hx : x ≤ 2147483648) (hy : 1 ≤ y) : k < 1000 := by
  rcases Nat.lt_or_ge k 1000 with h1 | h1
  · exact h1
  · exfalso
    have h2 : (x : Int) ^ 2 ^ i < 10000 ^ 40 := pow_cap (by omega) (by omega) _ (by have := Nat.pow_le_pow_right (n := 2) (by omega) hi; omega)
    have h3 : (1 : Int) ≤ (y : Int) ^ 2 ^ i := by have : (0 : Int) < (y : Int) ^ 2 ^ i := Int.pow_pos (by omega); omega
    have h4 : 1 * (2 : Int) ^ k ≤ (y : Int) ^ 2 ^ i * 2 ^ k := Int.mul_le_mul_of_nonneg_right h3 (Int.le_of_lt (Int.pow_pos (by omega)))
    have h5 : (10000 : Nat) ^ 40 ≤ (2 ^ 14) ^ 40 := Nat.pow_le_pow_left (by omega) 40
    have h6 := pow_most 14 40 k (by omega)
    have h7 : ((10000 ^ 40 : Nat) : Int) ≤ ((2 ^ k : Nat) : Int) := Int.ofNat_le.2 (Nat.le_trans h5 h6)
    rw [Int.natCast_pow, Int.natCast_pow] at h7
    have h8 : (10000 : Int) ^ 40 ≤ 2 ^ k := h7
    have h9 := h.le
    rw [h.vx, h.vy] at h9
    rw [Int.one_mul] at h4
    exact absurd (Int.lt_of_le_of_lt (Int.le_trans h4 h9) h2) (by omega)
theorem RI.first {x y k : Nat} {m : List Nat} (hx : x < 18446744073709551616) (hm : WdB m) (hv : vW m = (y : Int) * 2 ^ k) (hle : vW m ≤ x) (hlt : (x : Int) < 2 * vW m) : RI x y 0 k (w9 x) m :=
  ⟨w9_wd hx, hm, by rw [w9_v, Nat.pow_zero]; exact (Int.pow_one _).symm, by rw [hv, Nat.pow_zero, Int.pow_one], by rw [w9_v]; exact hle, by rw [w9_v]; exact hlt⟩
theorem RI.next0 {x y i k : Nat} {lx ly lx2 ly2 : List Nat} (h : RI x y i k lx ly) (hi : i < 4) (hx : x ≤ 2147483648) (dx : WdB lx2) (dy : WdB ly2) (vx : vW lx2 = vW lx * vW lx) (vy : vW ly2 = vW ly * vW ly) (hq : vW lx * vW lx < 2 * (vW ly * vW ly)) : RI x y (i + 1) (k * 2) lx2 ly2 := by
  obtain ⟨h1, h2, h3, _⟩ := h.sq hi hx
  exact ⟨dx, dy, by rw [vx, h1], by rw [vy, h2], by rw [vx, vy]; exact h3, by rw [vx, vy]; exact hq⟩
theorem RI.next1 {x y i k : Nat} {lx ly lx2 ly2 m2 : List Nat} (h : RI x y i k lx ly) (hi : i < 4) (hx : x ≤ 2147483648) (dx : WdB lx2) (dy : WdB m2) (vx : vW lx2 = vW lx * vW lx) (vy : vW ly2 = vW ly * vW ly) (vm : vW m2 = 2 * vW ly2) (hq : ¬ vW lx * vW lx < 2 * (vW ly * vW ly)) : RI x y (i + 1) (k * 2 + 1) lx2 m2 := by
  obtain ⟨h1, h2, h3, h4, _⟩ := h.sq hi hx
  refine ⟨dx, dy, by rw [vx, h1], ?_, by rw [vx, vm, vy]; omega, by rw [vx, vm, vy]; omega⟩
  rw [vm, vy, h2, Int.pow_succ]
  grind
theorem RI.done {x y k : Nat} {lx ly : List Nat} (h : RI x y 4 k lx ly) (hy : 1 ≤ y) : ratioN x y = k := by
  have h1 := h.le
  have h2 := h.lt
  rw [h.vx, h.vy] at h1 h2
  have e : (2 : Nat) ^ 4 = 16 := rfl
  rw [e] at h1 h2
  have e2 : (2 : Int) ^ (k + 1) * (y : Int) ^ 16 = 2 * ((y : Int) ^ 16 * 2 ^ k) := by
    have e3 : (2 : Int) ^ (k + 1) = 2 ^ k * 2 := Int.pow_succ ..
    rw [e3]
    generalize (y : Int) ^ 16 = q at *
    grind
  have := ratio_int (k := k) (a := x) (b := y) (by omega) (by omega) (by rw [Int.mul_comm]; exact h1) (by rw [e2]; exact h2)
  simpa using this
set_option maxHeartbeats 2000000 in
set_option maxRecDepth 100000 in
theorem ratio_c (a b : Int) (w : World) (ha : -9223372036854775808 ≤ a ∧ a ≤ 9223372036854775807) (hb : -9223372036854775808 ≤ b ∧ b ≤ 9223372036854775807) : Calls Tryd.prog 111 #[.int .i64 a, .int .i64 b] w (Ret w (ratV a b)) := by
  by_cases hbad : b < 1 ∨ a < b ∨ 2147483648 < a
  · have HV : Hid (ratV a b = .tuple #[.int .i64 0, .int .i64 2]) := by show ratV a b = _; unfold ratV; rw [if_pos hbad]
    by_cases h1 : b < 1 <;> by_cases h2 : a < b <;> by_cases h3 : 2147483648 < a <;> try (exfalso; omega)
    all_goals
      clear hbad
      go_enter Tryd.func111, Tryd.ntmps111
      go_wp2
      go_step3
      go_wp2
      rw [Exit.noGoto_ret]
      go_ret2
      exact ⟨by rw [HV.out]; rfl, Bel⟩
  · have h1 : ¬ b < 1 := fun h => hbad (.inl h)
    have h2 : ¬ a < b := fun h => hbad (.inr (.inl h))
    have h3 : ¬ 2147483648 < a := fun h => hbad (.inr (.inr h))
    have HV : Hid (ratV a b = .tuple #[.int .i64 (ratioN a.toNat b.toNat), .int .i64 0]) := by show ratV a b = _; unfold ratV; rw [if_neg hbad]
    clear hbad ha hb
    obtain ⟨x, rfl⟩ := Int.eq_ofNat_of_zero_le (show 0 ≤ a by omega)
    obtain ⟨y, rfl⟩ := Int.eq_ofNat_of_zero_le (show 0 ≤ b by omega)
    simp only [Int.toNat_natCast] at HV
    have c1 : IntKind.u64.wrap (x : Int) = x := by rw [IntKind.wrap_u64]; omega
    have c2 : IntKind.u64.wrap (y : Int) = y := by rw [IntKind.wrap_u64]; omega
    have d1 : decide ((y : Int) < 1) = false := decide_eq_false h1
    have d2 : decide (x < y) = false := decide_eq_false (by omega)
    have d3 : decide (2147483648 < (x : Int)) = false := decide_eq_false h3
    have hX0 : Wx ((w.alloc (.cells (wv (w9 x)) 188)).alloc (.cells (wv (w9 y)) 188)) w.heap.size (w9 x) := (Wx.new w (w9 x)).al _
    have hY0 : Wx ((w.alloc (.cells (wv (w9 x)) 188)).alloc (.cells (wv (w9 y)) 188)) (w.heap.size + 1) (w9 y) := heap_alloc2_new w _ _
    have hB : Below w.heap.size w ((w.alloc (.cells (wv (w9 x)) 188)).alloc (.cells (wv (w9 y)) 188)) := Bel
    go_enter Tryd.func111, Tryd.ntmps111
    go_wp2
    go_step3
    go_wp2
    go_step3
    go_wp2
    go_loopw [8] (fun s wr => ∃ (k : Nat) (m : List Nat), s = .int .i64 k ∧ k < 64 ∧ Hid (Wx wr w.heap.size (w9 x)) ∧ Hid (Wx wr (w.heap.size + 1) m) ∧ Hid (WdB m ∧ vW m = y * 2 ^ k ∧ vW m ≤ x) ∧ Below w.heap.size w wr) (fun s _ => 100 - (intOf s).toNat)
    case atStart => exact ⟨0, w9 y, rfl, by omega, hX0, hY0, ⟨w9_wd (by omega), by rw [w9_v]; simp, by rw [w9_v]; omega⟩, hB⟩
    case round =>
      clear hX0 hY0 hB
      obtain ⟨k, m, rfl, hk, HX, HY, HM, hb⟩ := hrel
      have hxd : WdB (w9 x) := w9_wd (by omega)
      have hmd := Lib.hid HM.out.1
      have hv1 := HM.out.2.1
      have hv2 := HM.out.2.2
      have hbig : vW m * 2 < 18446744073709551616 ^ 9 := by
        have : (4294967296 : Int) < 18446744073709551616 ^ 9 := by decide
        omega
      have HV1 := Lib.hid hv1; have HV2 := Lib.hid hv2; have HBG := Lib.hid hbig
      clear hv1 hv2 hbig
      have HX1 := HX.out
      have HY1 := HY.out
      cases hq : decide ((x : Int) < 2 * vW m)
      · have HQ : Hid (∀ m2, (vW m * 2 < 18446744073709551616 ^ 9 → vW m2 = 2 * vW m) → decide (vW (w9 x) < vW m2) = false) := fun m2 h => by rw [h HBG.out, w9_v]; exact hq
        have HQ2 := Lib.hid (of_decide_eq_false hq)
        clear hq
        go_wp2_with (first
          | (refine wpList_load_row rfl 188 (.tmp 7) rfl (w.heap.size + 1) rfl 188 (wv m) (0, 0) _ HY1 Tryd.underlying188 rfl (by rw [wv_size, hmd.out.1]; exact info_wide) ?_)
          | (go_at_call 141; refine (double_c m _ hmd.out).mono ?_; rintro e w2 ⟨m2, rfl, hb2, hd2, hv2⟩; have HX2 := HX1.below hb2; have HY2 := HY1.below hb2; have HD2 := Lib.hid hd2; have HE2 := Lib.hid hv2; clear hd2 hv2 HX1 HY1)
          | (refine wpList_store_rowTo rfl 188 (.tmp 9) (.tmp 29) rfl rfl w2.heap.size (wv m2) rfl rfl 188 (wv z9) (Wx.new w2 z9) (by rw [wv_size, HD2.out.1]; exact info_wide) (by rw [wv_size, wv_size, HD2.out.1]; rfl) (wv_one _) ?_; have HX3 := (HX2.al (.cells (wv z9) 188)).rw' (g := w2.heap.size) (by have := HX2.lt; omega) (wv m2); have HY3 := (HY2.al (.cells (wv z9) 188)).rw' (g := w2.heap.size) (by have := HY2.lt; omega) (wv m2); have HZ3 := (Wx.new w2 z9).row (m := m2))
          | (refine wpList_load_row rfl 188 (.tmp 6) rfl w.heap.size rfl 188 (wv (w9 x)) (0, 0) _ HX3 Tryd.underlying188 rfl info_wide ?_)
          | (refine wpList_load_row rfl 188 (.tmp 9) rfl w2.heap.size rfl 188 (wv m2) (0, 0) _ HZ3 Tryd.underlying188 rfl (by rw [wv_size, HD2.out.1]; exact info_wide) ?_)
          | (go_at_call 142; refine (wless_c (w9 x) m2 _ hxd HD2.out).mono ?_; rintro e w4 ⟨rfl, hb4⟩; rw [HQ.out m2 HE2.out]; have HX4 := HX3.below hb4; have HY4 := HY3.below hb4; have HZ4 := HZ3.below hb4; clear HX3 HY3 HZ3)
          | (refine wpList_load_row rfl 188 (.tmp 9) rfl w2.heap.size rfl 188 (wv m2) (0, 0) _ HZ4 Tryd.underlying188 rfl (by rw [wv_size, HD2.out.1]; exact info_wide) ?_)
          | (refine wpList_store_rowTo rfl 188 (.tmp 7) (.tmp 33) rfl rfl (w.heap.size + 1) (wv m2) rfl rfl 188 (wv m) HY4 (by rw [wv_size, HD2.out.1]; exact info_wide) (by rw [wv_size, wv_size, HD2.out.1, hmd.out.1]) (wv_one _) ?_))
        have hs2 : w.heap.size < w2.heap.size := HX2.lt
        have hvm := HE2.out HBG.out
        have hle : vW m2 ≤ x := by have := HQ2.out; omega
        have hvk : vW m2 = y * 2 ^ (k + 1) := by rw [hvm, HV1.out, Int.pow_succ]; grind
        refine ⟨⟨k + 1, m2, by go_num, ?_, HX4.rw' (by omega) _, HY4.row, ⟨HD2.out, hvk, hle⟩, Bel2⟩, by simp [intOf]; omega⟩
        have := two_len (k := k + 1) (m := y) (n := x) (by rw [Int.mul_comm, ← hvk]; exact hle) (by omega) (by omega)
        omega
      · have HQ : Hid (∀ m2, (vW m * 2 < 18446744073709551616 ^ 9 → vW m2 = 2 * vW m) → decide (vW (w9 x) < vW m2) = true) := fun m2 h => by rw [h HBG.out, w9_v]; exact hq
        have HQ2 := Lib.hid (of_decide_eq_true hq)
        clear hq
        go_wp2_with (first
          | (refine wpList_load_row rfl 188 (.tmp 7) rfl (w.heap.size + 1) rfl 188 (wv m) (0, 0) _ HY1 Tryd.underlying188 rfl (by rw [wv_size, hmd.out.1]; exact info_wide) ?_)
          | (go_at_call 141; refine (double_c m _ hmd.out).mono ?_; rintro e w2 ⟨m2, rfl, hb2, hd2, hv2⟩; have HX2 := HX1.below hb2; have HY2 := HY1.below hb2; have HD2 := Lib.hid hd2; have HE2 := Lib.hid hv2; clear hd2 hv2 HX1 HY1)
          | (refine wpList_store_rowTo rfl 188 (.tmp 9) (.tmp 29) rfl rfl w2.heap.size (wv m2) rfl rfl 188 (wv z9) (Wx.new w2 z9) (by rw [wv_size, HD2.out.1]; exact info_wide) (by rw [wv_size, wv_size, HD2.out.1]; rfl) (wv_one _) ?_; have HX3 := (HX2.al (.cells (wv z9) 188)).rw' (g := w2.heap.size) (by have := HX2.lt; omega) (wv m2); have HY3 := (HY2.al (.cells (wv z9) 188)).rw' (g := w2.heap.size) (by have := HY2.lt; omega) (wv m2); have HZ3 := (Wx.new w2 z9).row (m := m2))
          | (refine wpList_load_row rfl 188 (.tmp 6) rfl w.heap.size rfl 188 (wv (w9 x)) (0, 0) _ HX3 Tryd.underlying188 rfl info_wide ?_)
          | (refine wpList_load_row rfl 188 (.tmp 9) rfl w2.heap.size rfl 188 (wv m2) (0, 0) _ HZ3 Tryd.underlying188 rfl (by rw [wv_size, HD2.out.1]; exact info_wide) ?_)
          | (go_at_call 142; refine (wless_c (w9 x) m2 _ hxd HD2.out).mono ?_; rintro e w4 ⟨rfl, hb4⟩; rw [HQ.out m2 HE2.out]; have HX4 := HX3.below hb4; have HY4 := HY3.below hb4; clear HX3 HY3 HZ3))
        have hs2 : w.heap.size < w2.heap.size := HX2.lt
        have hRI : RI x y 0 k (w9 x) m := RI.first (by omega) hmd.out HV1.out HV2.out HQ2.out
        have hb4' : Below w.heap.size w w4 := Bel2
        clear HX HY HM HD2 HE2 hb2 HX2 HY2 hb4 HQ hb
        go_loopw [8, 36] (fun s c wr => ∃ (i k : Nat) (lx ly : List Nat), c = .int .i64 i ∧ i ≤ 4 ∧ s = .int .i64 k ∧ k < 1000 ∧ Hid (Wx wr w.heap.size lx) ∧ Hid (Wx wr (w.heap.size + 1) ly) ∧ Hid (RI x y i k lx ly) ∧ Below w.heap.size w wr) (fun _ c _ => 4 - (intOf c).toNat)
        case atStart => exact ⟨0, k, w9 x, m, rfl, by omega, rfl, by omega, HX4, HY4, hRI, hb4'⟩
        case round =>
          clear HX4 HY4 hRI hb4' HQ2 hmd HV1 HV2 HBG hxd
          obtain ⟨i, k, lx, ly, rfl, hi, rfl, hk, HX, HY, HR, hbr⟩ := hrel
          by_cases hlt : i < 4
          · obtain ⟨g1, g2, g3, g4, g5, g6⟩ := HR.out.sq hlt (by omega)
            have g7 := cap9
            have hbx : vW lx * vW lx < 18446744073709551616 ^ 9 := by
              generalize (10000 : Int) ^ 40 = q at *
              generalize (18446744073709551616 : Int) ^ 9 = r at *
              omega
            have hby : vW ly * vW ly < 18446744073709551616 ^ 9 := Int.lt_of_le_of_lt g3 hbx
            have hb2y : (vW ly * vW ly) * 2 < 18446744073709551616 ^ 9 := by
              generalize (10000 : Int) ^ 40 = q at *
              generalize (18446744073709551616 : Int) ^ 9 = r at *
              omega
            have HBX := Lib.hid hbx; have HBY := Lib.hid hby; have HB2 := Lib.hid hb2y
            clear g1 g2 g3 g4 g5 g6 g7 hbx hby hb2y
            go_wp2_with fail
            refine region_mix 4 [(0, true), (2, true), (1, false), (3, false)] (by kernel_rfl) (by kernel_rfl) (fun c a d v w h => by cases d <;> exact h) ?_
            intro W hW
            have HX1 := HX.out.below hW
            have HY1 := HY.out.below hW
            refine mix_q rfl (fun K hK => ?_)
            refine take_row rfl 188 (.tmp 6) rfl w.heap.size rfl 188 (wv lx) (0, 0) _ HX1 Tryd.underlying188 rfl (by rw [wv_size, HR.out.dx.1]; exact info_wide) ?_
            go_simp
            refine hK _ ?_
            clear hK K
            refine mix_q rfl (fun K hK => ?_)
            refine take_row rfl 188 (.tmp 7) rfl (w.heap.size + 1) rfl 188 (wv ly) (0, 0) _ HY1 Tryd.underlying188 rfl (by rw [wv_size, HR.out.dy.1]; exact info_wide) ?_
            go_simp
            refine hK _ ?_
            clear hK K
            refine mix_t rfl (fun K hK => ?_)
            go_simp
            go_at_call 143
            refine (square_c lx _ HR.out.dx).mono ?_
            rintro e w3 ⟨lx2, rfl, hb3, hd3, hv3⟩
            go_simp
            refine hK _ _ (.of Bel) ?_
            clear hK K
            refine mix_t rfl (fun K hK => ?_)
            go_simp
            go_at_call 143
            refine (square_c ly _ HR.out.dy).mono ?_
            rintro e w5 ⟨ly2, rfl, hb5, hd5, hv5⟩
            go_simp
            refine hK _ _ (.of Bel) ?_
            clear hK K
            refine mix_nil ?_
            simp only [List.drop_succ_cons, List.drop_zero]
            have HX5 := (HX1.below hb3).below hb5
            have HY5 := (HY1.below hb3).below hb5
            have HD3 := Lib.hid hd3; have HD5 := Lib.hid hd5; have HV3 := Lib.hid (hv3 HBX.out); have HV5 := Lib.hid (hv5 HBY.out)
            clear hd3 hd5 hv3 hv5 HX1 HY1
            have hbm : Below w.heap.size w w5 := Bst hbr (Bst hW (Bst hb3 hb5))
            clear hbr hW hb3 hb5
            cases hq : decide (vW lx * vW lx < 2 * (vW ly * vW ly))
            · have HQ : Hid (∀ m2, (vW ly2 * 2 < 18446744073709551616 ^ 9 → vW m2 = 2 * vW ly2) → decide (vW lx2 < vW m2) = false) := fun m2 h => by rw [h (by rw [HV5.out]; exact HB2.out), HV3.out, HV5.out]; exact hq
              have HQ2 := Lib.hid (of_decide_eq_false hq)
              clear hq
              go_wp2_with (first
                | (refine wpList_store_rowTo rfl 188 (.tmp 6) (.tmp 39) rfl rfl w.heap.size (wv lx2) rfl rfl 188 (wv lx) HX5 (by rw [wv_size, HD3.out.1]; exact info_wide) (by rw [wv_size, wv_size, HD3.out.1, HR.out.dx.1]) (wv_one _) ?_; have HX6 := HX5.row (m := lx2); have HY6 := HY5.rw' (g := w.heap.size) (by omega) (wv lx2))
                | (refine wpList_store_rowTo rfl 188 (.tmp 7) (.tmp 41) rfl rfl (w.heap.size + 1) (wv ly2) rfl rfl 188 (wv ly) HY6 (by rw [wv_size, HD5.out.1]; exact info_wide) (by rw [wv_size, wv_size, HD5.out.1, HR.out.dy.1]) (wv_one _) ?_; have HY7 := HY6.row (m := ly2); have HX7 := HX6.rw' (g := w.heap.size + 1) (by omega) (wv ly2); have hb7 : Below w.heap.size w ((w5.setRow w.heap.size (wv lx2)).setRow (w.heap.size + 1) (wv ly2)) := Bel2)
                | (refine wpList_load_row rfl 188 (.tmp 7) rfl (w.heap.size + 1) rfl 188 (wv ly2) (0, 0) _ HY7 Tryd.underlying188 rfl (by rw [wv_size, HD5.out.1]; exact info_wide) ?_)
                | (go_at_call 141; refine (double_c ly2 _ HD5.out).mono ?_; rintro e w8 ⟨m8, rfl, hb8, hd8, hv8⟩; have HX8 := HX7.below hb8; have HY8 := HY7.below hb8; have HD8 := Lib.hid hd8; have HV8 := Lib.hid hv8; have hbw8 : Below w.heap.size w w8 := Bst hb7 hb8; clear hd8 hv8 HX7 HY7)
                | (refine wpList_store_rowTo rfl 188 (.tmp 10) (.tmp 45) rfl rfl w8.heap.size (wv m8) rfl rfl 188 (wv z9) (Wx.new w8 z9) (by rw [wv_size, HD8.out.1]; exact info_wide) (by rw [wv_size, wv_size, HD8.out.1]; rfl) (wv_one _) ?_; have HX9 := (HX8.al (.cells (wv z9) 188)).rw' (g := w8.heap.size) (by have := HX8.lt; omega) (wv m8); have HY9 := (HY8.al (.cells (wv z9) 188)).rw' (g := w8.heap.size) (by have := HY8.lt; omega) (wv m8); have HZ9 := (Wx.new w8 z9).row (m := m8))
                | (refine wpList_load_row rfl 188 (.tmp 6) rfl w.heap.size rfl 188 (wv lx2) (0, 0) _ HX9 Tryd.underlying188 rfl (by rw [wv_size, HD3.out.1]; exact info_wide) ?_)
                | (refine wpList_load_row rfl 188 (.tmp 10) rfl w8.heap.size rfl 188 (wv m8) (0, 0) _ HZ9 Tryd.underlying188 rfl (by rw [wv_size, HD8.out.1]; exact info_wide) ?_)
                | (go_at_call 142; refine (wless_c lx2 m8 _ HD3.out HD8.out).mono ?_; rintro e w10 ⟨rfl, hb10⟩; rw [HQ.out m8 HV8.out]; have HX10 := HX9.below hb10; have HY10 := HY9.below hb10; have HZ10 := HZ9.below hb10; clear HX9 HY9 HZ9)
                | (refine wpList_load_row rfl 188 (.tmp 10) rfl w8.heap.size rfl 188 (wv m8) (0, 0) _ HZ10 Tryd.underlying188 rfl (by rw [wv_size, HD8.out.1]; exact info_wide) ?_)
                | (refine wpList_store_rowTo rfl 188 (.tmp 7) (.tmp 50) rfl rfl (w.heap.size + 1) (wv m8) rfl rfl 188 (wv ly2) HY10 (by rw [wv_size, HD8.out.1]; exact info_wide) (by rw [wv_size, wv_size, HD8.out.1, HD5.out.1]) (wv_one _) ?_))
              have hs8 : w.heap.size < w8.heap.size := HX8.lt
              have hvm := HV8.out (by rw [HV5.out]; exact HB2.out)
              have hR2 := HR.out.next1 hlt (by omega) HD3.out HD8.out HV3.out HV5.out hvm (Int.not_lt.2 HQ2.out)
              refine ⟨⟨i + 1, k * 2 + 1, lx2, m8, by go_num, by omega, by go_num, hR2.kcap (by omega) (by omega) (by omega), HX10.rw' (by omega) _, HY10.row, hR2, Bel2⟩, by simp [intOf]; omega⟩
            · have HQ : Hid (∀ m2, (vW ly2 * 2 < 18446744073709551616 ^ 9 → vW m2 = 2 * vW ly2) → decide (vW lx2 < vW m2) = true) := fun m2 h => by rw [h (by rw [HV5.out]; exact HB2.out), HV3.out, HV5.out]; exact hq
              have HQ2 := Lib.hid (of_decide_eq_true hq)
              clear hq
              go_wp2_with (first
                | (refine wpList_store_rowTo rfl 188 (.tmp 6) (.tmp 39) rfl rfl w.heap.size (wv lx2) rfl rfl 188 (wv lx) HX5 (by rw [wv_size, HD3.out.1]; exact info_wide) (by rw [wv_size, wv_size, HD3.out.1, HR.out.dx.1]) (wv_one _) ?_; have HX6 := HX5.row (m := lx2); have HY6 := HY5.rw' (g := w.heap.size) (by omega) (wv lx2))
                | (refine wpList_store_rowTo rfl 188 (.tmp 7) (.tmp 41) rfl rfl (w.heap.size + 1) (wv ly2) rfl rfl 188 (wv ly) HY6 (by rw [wv_size, HD5.out.1]; exact info_wide) (by rw [wv_size, wv_size, HD5.out.1, HR.out.dy.1]) (wv_one _) ?_; have HY7 := HY6.row (m := ly2); have HX7 := HX6.rw' (g := w.heap.size + 1) (by omega) (wv ly2); have hb7 : Below w.heap.size w ((w5.setRow w.heap.size (wv lx2)).setRow (w.heap.size + 1) (wv ly2)) := Bel2)
                | (refine wpList_load_row rfl 188 (.tmp 7) rfl (w.heap.size + 1) rfl 188 (wv ly2) (0, 0) _ HY7 Tryd.underlying188 rfl (by rw [wv_size, HD5.out.1]; exact info_wide) ?_)
                | (go_at_call 141; refine (double_c ly2 _ HD5.out).mono ?_; rintro e w8 ⟨m8, rfl, hb8, hd8, hv8⟩; have HX8 := HX7.below hb8; have HY8 := HY7.below hb8; have HD8 := Lib.hid hd8; have HV8 := Lib.hid hv8; have hbw8 : Below w.heap.size w w8 := Bst hb7 hb8; clear hd8 hv8 HX7 HY7)
                | (refine wpList_store_rowTo rfl 188 (.tmp 10) (.tmp 45) rfl rfl w8.heap.size (wv m8) rfl rfl 188 (wv z9) (Wx.new w8 z9) (by rw [wv_size, HD8.out.1]; exact info_wide) (by rw [wv_size, wv_size, HD8.out.1]; rfl) (wv_one _) ?_; have HX9 := (HX8.al (.cells (wv z9) 188)).rw' (g := w8.heap.size) (by have := HX8.lt; omega) (wv m8); have HY9 := (HY8.al (.cells (wv z9) 188)).rw' (g := w8.heap.size) (by have := HY8.lt; omega) (wv m8); have HZ9 := (Wx.new w8 z9).row (m := m8))
                | (refine wpList_load_row rfl 188 (.tmp 6) rfl w.heap.size rfl 188 (wv lx2) (0, 0) _ HX9 Tryd.underlying188 rfl (by rw [wv_size, HD3.out.1]; exact info_wide) ?_)
                | (refine wpList_load_row rfl 188 (.tmp 10) rfl w8.heap.size rfl 188 (wv m8) (0, 0) _ HZ9 Tryd.underlying188 rfl (by rw [wv_size, HD8.out.1]; exact info_wide) ?_)
                | (go_at_call 142; refine (wless_c lx2 m8 _ HD3.out HD8.out).mono ?_; rintro e w10 ⟨rfl, hb10⟩; rw [HQ.out m8 HV8.out]; have HX10 := HX9.below hb10; have HY10 := HY9.below hb10; have HZ10 := HZ9.below hb10; clear HX9 HY9 HZ9))
              have hs8 : w.heap.size < w8.heap.size := HX8.lt
              have hR2 := HR.out.next0 hlt (by omega) HD3.out HD5.out HV3.out HV5.out HQ2.out
              refine ⟨⟨i + 1, k * 2, lx2, ly2, by go_num, by omega, by go_num, hR2.kcap (by omega) (by omega) (by omega), HX10, HY10, hR2, Bel2⟩, by simp [intOf]; omega⟩
          · obtain rfl : i = 4 := by omega
            have HRD := Lib.hid (HR.out.done (by omega))
            go_wp2
            rw [Exit.noGoto_ret]
            go_ret2
            exact ⟨by rw [HV.out, HRD.out]; rfl, Bel⟩
set_option maxHeartbeats 1000000 in
set_option maxRecDepth 100000 in
theorem cost_c (t k n : Int) (w : World) (ht : -9223372036854775808 ≤ t ∧ t ≤ 9223372036854775807) (hk : -9223372036854775808 ≤ k ∧ k ≤ 9223372036854775807) (hn : -9223372036854775808 ≤ n ∧ n ≤ 9223372036854775807) :
    Calls Tryd.prog 68 #[.int .i64 t, .int .i64 k, .int .i64 n] w (Ret w (cstV t k n)) := by
  by_cases hbad : t < 0 ∨ 1073741824 < t ∨ k < 1 ∨ 4096 < k ∨ n < 0 ∨ t < n
  · have HV : Hid (cstV t k n = .tuple #[.int .i64 0, .int .i64 2]) := by show cstV t k n = _; unfold cstV; rw [if_pos hbad]
    have HB := Lib.hid hbad
    clear hbad
    go_enter Tryd.func68, Tryd.ntmps68
    go_wp2_with (go_at_call 111; exfalso; have := HB.out; omega)
    all_goals (go_ret2; exact ⟨by rw [HV.out]; rfl, Bel⟩)
  · have h1 : ¬ t < 0 := fun h => hbad (by omega)
    have h2 : ¬ 1073741824 < t := fun h => hbad (by omega)
    have h3 : ¬ k < 1 := fun h => hbad (by omega)
    have h4 : ¬ 4096 < k := fun h => hbad (by omega)
    have h5 : ¬ n < 0 := fun h => hbad (by omega)
    have h6 : ¬ t < n := fun h => hbad (by omega)
    obtain ⟨r, hr⟩ : ∃ r : Nat, ratioN (t.toNat + k.toNat) (n.toNat + 1) = r := ⟨_, rfl⟩
    have HV : Hid (cstV t k n = .tuple #[.int .i64 ((min (max r 1) 255 : Nat) : Int), .int .i64 0]) := by show cstV t k n = _; unfold cstV costN; rw [if_neg hbad, hr]
    have HR : Hid (ratV (t + k) (n + 1) = .tuple #[.int .i64 r, .int .i64 0]) := by
      show ratV (t + k) (n + 1) = _
      unfold ratV
      rw [if_neg (by omega), show (t + k).toNat = t.toNat + k.toNat by omega, show (n + 1).toNat = n.toNat + 1 by omega, hr]
    clear hr
    clear hbad
    go_enter Tryd.func68, Tryd.ntmps68
    go_wp2_with (go_at_call 111; refine (ratio_c (t + k) (n + 1) _ (by omega) (by omega)).mono ?_; rintro e w3 ⟨rfl, hb3⟩; rw [HR.out])
    all_goals
      go_ret2
      refine ⟨?_, Bel⟩
      have e : ((min (max r 1) 255 : Nat) : Int) = min (max (r : Int) 1) 255 := by omega
      rw [HV.out, e]; rfl
end Go.Proofs.YtpccanadijefnaaDoor
