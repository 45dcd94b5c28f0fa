/- The reference of layer 3: which number is greater, the sixteenth power, the ratio, what something costs. No condition. -/
import Derived.Test.YtpccanadijefnaaDoorLogA
import Derived.Deep.QuietTactic
namespace Go.Proofs.YtpccanadijefnaaDoor
open Go.RowKit
theorem pow_cap {n : Int} (h0 : 0 ≤ n) (h1 : n ≤ 2147483648) (k : Nat) (hk : k ≤ 16) : n ^ k < 10000 ^ 40 := by
  obtain ⟨m, rfl⟩ := Int.eq_ofNat_of_zero_le h0
  have h2 : m ^ k ≤ 2147483648 ^ k := Nat.pow_le_pow_left (by omega) k
  have h3 : 2147483648 ^ k ≤ 2147483648 ^ 16 := Nat.pow_le_pow_right (by omega) hk
  have h4 : 2147483648 ^ 16 < 10000 ^ 40 := by decide
  have h5 : ((m ^ k : Nat) : Int) < ((10000 ^ 40 : Nat) : Int) := Int.ofNat_lt.2 (Nat.lt_of_le_of_lt (Nat.le_trans h2 h3) h4)
  rw [Int.natCast_pow, Int.natCast_pow] at h5
  exact h5
theorem norm_len {l : List Int} (hn : Norm l) {n : Int} (h0 : 0 ≤ n) (h1 : n ≤ 2147483648) {k : Nat} (hk : k ≤ 16) (h : valB 10000 l = n ^ k) : l.length ≤ 40 :=
  top_len (by omega) hn.dig hn.top (by rw [h]; exact pow_cap h0 h1 k hk)
set_option maxHeartbeats 1000000 in
set_option maxRecDepth 100000 in
theorem more_c (A B : Option Addr) (c d : Nat) (xs ys : List Int) (w : World) (hs : SlA eI w A xs) (ht : SlA eI w B ys) (hx : Norm xs) (hy : Norm ys) (hxl : xs.length ≤ 60) :
    Calls Tryd.prog 145 #[.slice A xs.length c, .slice B ys.length d] w (Ret w (.bool (decide (valB 10000 ys < valB 10000 xs)))) := by
  rcases Nat.lt_trichotomy xs.length ys.length with hlt | heq | hlt
  · have h := top_less (B := 10000) (by omega) hx.dig hy.dig hy.top hlt
    have HE : Hid (decide (valB 10000 ys < valB 10000 xs) = decide (ys.length < xs.length)) := by show decide _ = decide _; rw [decide_eq_false (by omega), decide_eq_false (by omega)]
    clear h
    have hne : ((xs.length : Int) != ys.length) = true := by simp; omega
    go_enter Tryd.func145, Tryd.ntmps145
    go_wp2
    go_ret
    exact ⟨by rw [HE.out]; rfl, Bel⟩
  · have hln := Lib.hid heq
    have HX := Lib.hid hx; have HY := Lib.hid hy
    have hne : ((xs.length : Int) != ys.length) = false := by simp; omega
    clear hx hy heq
    go_enter Tryd.func145, Tryd.ntmps145
    go_wp2
    go_loopw [5] (fun s wr => ∃ k : Nat, k ≤ xs.length ∧ s = .int .i64 ((k : Int) - 1) ∧ Hid (xs.drop k = ys.drop k) ∧ Below w.heap.size w wr) (fun s _ => (intOf s + 1).toNat)
    case atStart => exact ⟨xs.length, by omega, rfl, by show _ = _; rw [List.drop_length, hln.out, List.drop_length], Bel⟩
    case round =>
      obtain ⟨k, hk, rfl, HE, hb⟩ := hrel
      cases k with
      | zero =>
        have he := HE.out
        simp only [List.drop_zero] at he
        have HV : Hid (decide (valB 10000 ys < valB 10000 xs) = false) := by show decide _ = _; rw [he]; simp
        clear he
        go_wp2
        go_ret
        exact ⟨by rw [HV.out]; rfl, Bel⟩
      | succ k =>
        have hk' : k < ys.length := by rw [← hln.out]; omega
        obtain ⟨bA, oA, rfl, cA⟩ := hs.at1 (f1 := Value.int .i64) (fun _ => rfl) hb k hk
        obtain ⟨bB, oB, rfl, cB⟩ := ht.at1 (f1 := Value.int .i64) (fun _ => rfl) hb k hk'
        have e0 : ((k + 1 : Nat) : Int) - 1 = k := by omega
        rw [e0]
        have i1 : (k : Int) < xs.length := by omega
        have i2 : (k : Int) < ys.length := by omega
        have w1 : IntKind.i64.wrap (k : Int) = k := IntWalk.i64_in _ (by omega)
        obtain ⟨bz, hbz⟩ : ∃ bz, (xs[k] != ys[k]) = bz := ⟨_, rfl⟩
        have HB := Lib.hid hbz
        have HN : Hid (bz = false → xs.drop k = ys.drop k) := fun h => by
          rw [h] at hbz
          rw [List.drop_eq_getElem_cons (by omega), List.drop_eq_getElem_cons hk', HE.out]
          congr 1
          simpa using hbz
        have HT : Hid (bz = true → decide (valB 10000 ys < valB 10000 xs) = decide (ys[k] < xs[k])) := fun h => by
          rw [h] at hbz
          have hne : xs[k] ≠ ys[k] := by simpa using hbz
          rcases Int.lt_or_le ys[k] xs[k] with h1 | h1
          · have := valB_less (B := 10000) (by omega) HY.out.dig HX.out.dig hln.out.symm k hk' hk HE.out.symm h1
            rw [decide_eq_true this, decide_eq_true h1]
          · have := valB_less (B := 10000) (by omega) HX.out.dig HY.out.dig hln.out k hk hk' HE.out (by omega)
            rw [decide_eq_false (by omega), decide_eq_false (by omega)]
        go_wp2_with fail
        refine region_qall (by kernel_rfl) (by kernel_rfl) (fun W => ∃ n, W = World.drewN _ n) ⟨1, rfl⟩ ?_
        repeat (quiet_step (fail))
        refine wpQuiet_nil ?_
        intro _ hw'
        obtain ⟨nq, rfl⟩ := hw'
        go_wp2_with fail
        · have hb' : bz = true := by assumption
          refine region_qall (by kernel_rfl) (by kernel_rfl) (fun W => ∃ n, W = World.drewN _ n) ⟨1, rfl⟩ ?_
          repeat (quiet_step (fail))
          refine wpQuiet_nil ?_
          intro _ hw'
          obtain ⟨nq2, rfl⟩ := hw'
          go_wp2_with fail
          go_ret
          exact ⟨by rw [HT.out hb']; rfl, Bel⟩
        · have hb' : bz = false := by assumption
          exact ⟨⟨k, by omega, rfl, HN.out hb', Bel⟩, by simp [intOf]⟩
  · have h := top_less (B := 10000) (by omega) hy.dig hx.dig hx.top hlt
    have HE : Hid (decide (valB 10000 ys < valB 10000 xs) = true) := by show decide _ = _; rw [decide_eq_true (by omega)]
    clear h
    have hne : ((xs.length : Int) != ys.length) = true := by simp; omega
    go_enter Tryd.func145, Tryd.ntmps145
    go_wp2
    go_ret
    exact ⟨by rw [HE.out]; rfl, Bel⟩
set_option maxHeartbeats 1000000 in
set_option maxRecDepth 100000 in
theorem sixteenth_c (n : Int) (w : World) (h0 : 0 ≤ n) (h1 : n ≤ 2147483648) :
    Calls Tryd.prog 144 #[.int .i64 n] w fun e w' => ∃ C k l, e = .returned (.slice C l.length k) ∧ SlA eI w' C l ∧ Below w.heap.size w w' ∧ Norm l ∧ valB 10000 l = n ^ 16 := by
  go_enter Tryd.func144, Tryd.ntmps144
  go_wp2_with (go_at_call 191; refine (of_c n _ h0 (by omega)).mono ?_; rintro e w1 ⟨v, l, rfl, HO, hb1, hN, hv, _⟩)
  obtain ⟨A, c, rfl, _, _, hS⟩ := HO.slv
  have HV := Lib.hid hv
  have HN := Lib.hid hN
  clear hv hN HO
  go_loopw [3, 4] (fun v s wr => ∃ (i : Nat) (A : Option Addr) (c : Nat) (l : List Int), i ≤ 4 ∧ s = .int .i64 i ∧ v = .slice A l.length c ∧ SlA eI wr A l ∧ Hid (Norm l) ∧ Hid (valB 10000 l = n ^ 2 ^ i) ∧ Below w.heap.size w wr) (fun _ s _ => 4 - (intOf s).toNat)
  case atStart => exact ⟨0, A, c, l, by omega, rfl, rfl, hS, HN, by show _ = _; rw [HV.out, Nat.pow_zero]; exact (Int.pow_one n).symm, hb1⟩
  case round =>
    clear hb1 hS HV HN
    obtain ⟨i, A, c, l, hi, rfl, rfl, hS, HN, HV, hb⟩ := hrel
    by_cases hlt : i < 4
    · have hll : l.length ≤ 60 := by
        have := norm_len HN.out h0 h1 (k := 2 ^ i) (by have := Nat.pow_le_pow_right (n := 2) (by omega) (show i ≤ 4 by omega); omega) HV.out
        omega
      go_wp2_with (go_at_call 146; refine (times_c A A c c l l _ hS hS HN.out HN.out hll hll).mono ?_; rintro e w2 ⟨C, k, m, rfl, hS2, hb2, hN2, hv2⟩)
      exact ⟨⟨i + 1, C, k, m, by omega, by go_num, rfl, hS2, hN2, by show _ = _; rw [hv2, HV.out, ← Int.pow_add, Nat.pow_succ, Nat.mul_two], Bst hb hb2⟩, by simp [intOf]; omega⟩
    · obtain rfl : i = 4 := by omega
      go_wp2
      go_ret
      exact ⟨_, _, l, rfl, hS, hb, HN.out, HV.out⟩
theorem pow_mono {a b : Int} (h0 : 0 ≤ b) (h : b ≤ a) : b ^ 16 ≤ a ^ 16 := by
  obtain ⟨m, rfl⟩ := Int.eq_ofNat_of_zero_le (show 0 ≤ a by omega)
  obtain ⟨n, rfl⟩ := Int.eq_ofNat_of_zero_le h0
  have h1 : ((n ^ 16 : Nat) : Int) ≤ ((m ^ 16 : Nat) : Int) := Int.ofNat_le.2 (Nat.pow_le_pow_left (by omega) 16)
  rw [Int.natCast_pow, Int.natCast_pow] at h1
  exact h1
theorem pow_most (m n k : Nat) (h : m * n ≤ k) : (2 ^ m) ^ n ≤ 2 ^ k := by rw [← Nat.pow_mul]; exact Nat.pow_le_pow_right (by omega) h
theorem two_cap {k : Nat} {a b : Int} (hb : 1 ≤ b) (ha : 0 ≤ a) (ha2 : a ≤ 2147483648) (h : 2 ^ k * b ^ 16 ≤ a ^ 16) : k < 1000 := by
  rcases Nat.lt_or_ge k 1000 with h1 | h1
  · exact h1
  · exfalso
    have h2 := pow_cap ha ha2 16 (by omega)
    have h3 : (1 : Int) ≤ b ^ 16 := by have : (0 : Int) < b ^ 16 := Int.pow_pos (by omega); omega
    have h4 : (2 : Int) ^ k * 1 ≤ 2 ^ k * b ^ 16 := Int.mul_le_mul_of_nonneg_left h3 (Int.le_of_lt (Int.pow_pos (by omega)))
    have h5 : (10000 : Nat) ^ 40 ≤ (2 ^ 14) ^ 40 := Nat.pow_le_pow_left (by omega) 40
    have h6 : (2 ^ 14) ^ 40 ≤ 2 ^ k := pow_most 14 40 k (by omega)
    have h7 : ((10000 ^ 40 : Nat) : Int) ≤ ((2 ^ k : Nat) : Int) := Int.ofNat_le.2 (Nat.le_trans h5 h6)
    rw [Int.natCast_pow, Int.natCast_pow] at h7
    have h8 : (10000 : Int) ^ 40 ≤ 2 ^ k := h7
    rw [Int.mul_one] at h4
    exact absurd (Int.lt_of_le_of_lt (Int.le_trans h4 h) h2) (by omega)
theorem ratio_int {k : Nat} {a b : Int} (hb : 1 ≤ b) (ha : 0 ≤ a) (h1 : 2 ^ k * b ^ 16 ≤ a ^ 16) (h2 : a ^ 16 < 2 ^ (k + 1) * b ^ 16) : ratioN a.toNat b.toNat = k := by
  obtain ⟨m, rfl⟩ := Int.eq_ofNat_of_zero_le ha
  obtain ⟨n, rfl⟩ := Int.eq_ofNat_of_zero_le (show 0 ≤ b by omega)
  refine ratio_of (by omega) ?_ ?_
  · simp only [Int.toNat_natCast]
    have : ((2 ^ k * n ^ 16 : Nat) : Int) ≤ ((m ^ 16 : Nat) : Int) := by push_cast; exact h1
    exact Int.ofNat_le.1 this
  · simp only [Int.toNat_natCast]
    have : ((m ^ 16 : Nat) : Int) < ((2 ^ (k + 1) * n ^ 16 : Nat) : Int) := by push_cast; exact h2
    exact Int.ofNat_lt.1 this
theorem norm_two : Norm [2] := ⟨fun x hx => by obtain rfl := List.mem_singleton.1 hx; omega, fun _ => by simp⟩
/-- What 'Ratio' hands back. -/
def ratV (a b : Int) : Value := if b < 1 ∨ a < b ∨ 2147483648 < a then .tuple #[.int .i64 0, .int .i64 2] else .tuple #[.int .i64 (ratioN a.toNat b.toNat), .int .i64 0]
set_option maxHeartbeats 1000000 in
set_option maxRecDepth 100000 in
theorem r3ratio_c (a b : Int) (w : World) : Calls Tryd.prog 112 #[.int .i64 a, .int .i64 b] w (Ret w (ratV a b)) := by
  by_cases hbad : b < 1 ∨ a < b ∨ 2147483648 < a
  · have HV : Hid (ratV a b = .tuple #[.int .i64 0, .int .i64 2]) := by show ratV a b = _; unfold ratV; rw [if_pos hbad]
    by_cases h1 : b < 1 <;> by_cases h2 : a < b <;> by_cases h3 : 2147483648 < a <;> try (exfalso; omega)
    all_goals
      clear hbad
      go_enter Tryd.func112, Tryd.ntmps112
      go_wp2
      go_ret2
      exact ⟨by rw [HV.out]; rfl, Bel⟩
  · have h1 : ¬ b < 1 := fun h => hbad (.inl h)
    have h2 : ¬ a < b := fun h => hbad (.inr (.inl h))
    have h3 : ¬ 2147483648 < a := fun h => hbad (.inr (.inr h))
    have HV : Hid (ratV a b = .tuple #[.int .i64 (ratioN a.toNat b.toNat), .int .i64 0]) := by show ratV a b = _; unfold ratV; rw [if_neg hbad]
    clear hbad
    go_enter Tryd.func112, Tryd.ntmps112
    go_wp2_with fail
    refine (sixteenth_c a _ (by omega) (by omega)).mono ?_
    rintro e w1 ⟨A, c, x, rfl, hX, hb1, hN1, hv1⟩
    go_wp2_with fail
    refine (sixteenth_c b _ (by omega) (by omega)).mono ?_
    rintro e w2 ⟨B, d, y, rfl, hY, hb2, hN2, hv2⟩
    have hX2 := hX.below hb2
    have HN1 := Lib.hid hN1; have HV1 := Lib.hid hv1; have HN2 := Lib.hid hN2; have HV2 := Lib.hid hv2
    clear hX hN1 hN2 hv1 hv2
    have hb12 : Below w.heap.size w w2 := Bst hb1 hb2
    go_wp2_with fail
    go_loopw [7, 8] (fun v s wr => ∃ (k : Nat) (B : Option Addr) (d : Nat) (y : List Int), s = .int .i64 ((k : Int) - 1) ∧ v = .slice B y.length d ∧ SlA eI wr B y ∧ Hid (Norm y) ∧ Hid (valB 10000 y = 2 ^ k * b ^ 16) ∧ Hid (k = 0 ∨ 2 ^ (k - 1) * b ^ 16 ≤ a ^ 16) ∧ Below w2.heap.size w2 wr) (fun _ s _ => 2000 - (intOf s + 1).toNat)
    case atStart => exact ⟨0, B, d, y, rfl, rfl, hY, HN2, by show _ = _; rw [HV2.out]; simp, .inl rfl, Bel⟩
    case round =>
      clear hY HN2 HV2
      obtain ⟨k, B, d, y, rfl, rfl, hY, HN2, HV2, HK, hbr⟩ := hrel
      have hba : b ^ 16 ≤ a ^ 16 := pow_mono (by omega) (by omega)
      have hca := pow_cap (show 0 ≤ a by omega) (by omega) 16 (by omega)
      have hy2 : valB 10000 y ≤ 2 * a ^ 16 := by
        rw [HV2.out]
        rcases HK.out with rfl | h
        · have : (0 : Int) ≤ a ^ 16 := Int.pow_nonneg (by omega)
          rw [Int.pow_zero, Int.one_mul]; omega
        · rcases Nat.eq_zero_or_pos k with rfl | hp
          · have : (0 : Int) ≤ a ^ 16 := Int.pow_nonneg (by omega)
            rw [Int.pow_zero, Int.one_mul]; omega
          · obtain ⟨j, rfl⟩ : ∃ j, k = j + 1 := ⟨k - 1, by omega⟩
            rw [Nat.add_sub_cancel] at h
            rw [Int.pow_succ]
            have : (2 : Int) ^ j * 2 * b ^ 16 = 2 * (2 ^ j * b ^ 16) := by grind
            omega
      have hyl : y.length ≤ 41 := top_len (by omega) HN2.out.dig HN2.out.top (by
        have e : (10000 : Int) ^ 41 = 10000 ^ 40 * 10000 := Int.pow_succ ..
        rw [e]
        generalize (10000 : Int) ^ 40 = q at *
        omega)
      have hxl := norm_len HN1.out (show 0 ≤ a by omega) (by omega) (by omega) HV1.out
      cases hq : decide (valB 10000 x < valB 10000 y)
      · have HQ := Lib.hid hq
        have hle : 2 ^ k * b ^ 16 ≤ a ^ 16 := by
          have := of_decide_eq_false hq
          rw [HV1.out, HV2.out] at this
          omega
        have hk := two_cap (show 1 ≤ b by omega) (show 0 ≤ a by omega) (by omega) hle
        have HL := Lib.hid hle
        have HBA := Lib.hid hba
        clear hq hle hba hca hy2
        go_wp2_with (first
          | (go_at_call 145; refine (more_c B A d c y x _ (hY.below Bel) (hX2.below Bel) HN2.out HN1.out (by omega)).mono ?_; rintro e w3 ⟨rfl, hb3⟩; rw [HQ.out])
          | (go_at_call 146; refine (times_c B (some ⟨_, 0, none⟩) d 1 y [2] _ (hY.below Bel) (SlA.new _ _ _ _ _ rfl _ rfl) HN2.out norm_two (by omega) (by simp)).mono ?_; rintro e w4 ⟨C, e4, z, rfl, hZ, hb4, hN4, hv4⟩))
        refine ⟨⟨k + 1, C, e4, z, by congr 1; push_cast; omega, rfl, hZ, hN4, ?_, .inr (by rw [Nat.add_sub_cancel]; exact HL.out), Bel⟩, by simp [intOf]; omega⟩
        show _ = _
        rw [hv4, HV2.out, Int.pow_succ]
        simp only [valB]
        grind
      · have HQ := Lib.hid hq
        have hgt : a ^ 16 < 2 ^ k * b ^ 16 := by
          have := of_decide_eq_true hq
          rwa [HV1.out, HV2.out] at this
        have hk0 : k ≠ 0 := by rintro rfl; rw [Int.pow_zero, Int.one_mul] at hgt; omega
        obtain ⟨j, rfl⟩ : ∃ j, k = j + 1 := ⟨k - 1, by omega⟩
        have hr : ratioN a.toNat b.toNat = j := ratio_int (by omega) (by omega) (by rcases HK.out with h | h; · omega
                                                                                    · exact h) hgt
        have HR := Lib.hid hr
        clear hq hgt hba hca hy2 hr
        go_wp2_with (go_at_call 145; refine (more_c B A d c y x _ (hY.below Bel) (hX2.below Bel) HN2.out HN1.out (by omega)).mono ?_; rintro e w3 ⟨rfl, hb3⟩; rw [HQ.out])
        go_ret2
        exact ⟨by rw [HV.out, HR.out]; rfl, Bst hb12 (Bst hbr hb3)⟩
/-- What 'Cost' hands back. -/
def cstV (total kinds n : Int) : Value := if total < 0 ∨ 1073741824 < total ∨ kinds < 1 ∨ 4096 < kinds ∨ n < 0 ∨ total < n then .tuple #[.int .i64 0, .int .i64 2] else .tuple #[.int .i64 (costN total.toNat kinds.toNat n.toNat), .int .i64 0]
set_option maxHeartbeats 1000000 in
set_option maxRecDepth 100000 in
theorem r3cost_c (t k n : Int) (w : World) (ht : -9223372036854775808 ≤ t ∧ t ≤ 9223372036854775807) (hk : -9223372036854775808 ≤ k ∧ k ≤ 9223372036854775807) (hn : -9223372036854775808 ≤ n ∧ n ≤ 9223372036854775807) :
    Calls Tryd.prog 69 #[.int .i64 t, .int .i64 k, .int .i64 n] w (Ret w (cstV t k n)) := by
  by_cases hbad : t < 0 ∨ 1073741824 < t ∨ k < 1 ∨ 4096 < k ∨ n < 0 ∨ t < n
  · have HV : Hid (cstV t k n = .tuple #[.int .i64 0, .int .i64 2]) := by show cstV t k n = _; unfold cstV; rw [if_pos hbad]
    have HB := Lib.hid hbad
    clear hbad
    go_enter Tryd.func69, Tryd.ntmps69
    go_wp2_with (go_at_call 112; exfalso; have := HB.out; omega)
    all_goals (go_ret2; exact ⟨by rw [HV.out]; rfl, Bel⟩)
  · have h1 : ¬ t < 0 := fun h => hbad (by omega)
    have h2 : ¬ 1073741824 < t := fun h => hbad (by omega)
    have h3 : ¬ k < 1 := fun h => hbad (by omega)
    have h4 : ¬ 4096 < k := fun h => hbad (by omega)
    have h5 : ¬ n < 0 := fun h => hbad (by omega)
    have h6 : ¬ t < n := fun h => hbad (by omega)
    obtain ⟨r, hr⟩ : ∃ r : Nat, ratioN (t.toNat + k.toNat) (n.toNat + 1) = r := ⟨_, rfl⟩
    have HV : Hid (cstV t k n = .tuple #[.int .i64 ((min (max r 1) 255 : Nat) : Int), .int .i64 0]) := by show cstV t k n = _; unfold cstV costN; rw [if_neg hbad, hr]
    have HR : Hid (ratV (t + k) (n + 1) = .tuple #[.int .i64 r, .int .i64 0]) := by
      show ratV (t + k) (n + 1) = _
      unfold ratV
      rw [if_neg (by omega), show (t + k).toNat = t.toNat + k.toNat by omega, show (n + 1).toNat = n.toNat + 1 by omega, hr]
    clear hr
    clear hbad
    go_enter Tryd.func69, Tryd.ntmps69
    go_wp2_with (go_at_call 112; refine (r3ratio_c (t + k) (n + 1) _).mono ?_; rintro e w3 ⟨rfl, hb3⟩; rw [HR.out])
    all_goals
      go_ret2
      refine ⟨?_, Bel⟩
      first
        | (have e : ((min (max r 1) 255 : Nat) : Int) = r := by omega
           rw [HV.out, e]; rfl)
        | (have e : ((min (max r 1) 255 : Nat) : Int) = 1 := by omega
           rw [HV.out, e]; rfl)
        | (have e : ((min (max r 1) 255 : Nat) : Int) = 255 := by omega
           rw [HV.out, e]; rfl)
end Go.Proofs.YtpccanadijefnaaDoor
