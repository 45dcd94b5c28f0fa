/- Whether a block may be: the program's answer and the reference's are one function of the block. No condition. -/
import Derived.Test.YtpccanadijefnaaDoorDec
import Derived.Test.YtpccanadijefnaaDoorStr
import Derived.Test.YtpccanadijefnaaDoorShelf
namespace Go.Proofs.YtpccanadijefnaaDoor
open Go.RowKit
theorem r1dec_some (s : ByteArray) (w : World) (hs : s.size ≤ 17592186044416) (l : List Int) (h : decS s = some l) :
    Calls Tryd.prog 95 #[.string s] w fun e w' => ∃ A c, e = .returned (.tuple #[.slice A l.length c, .int .i64 0]) ∧ SlA (eInt .i32) w' A l ∧ l.length ≤ c ∧ c ≤ 9223372036854775807 ∧ Below w.heap.size w w' :=
  (r1dec_c s w hs).mono fun e w' ⟨hb, hd⟩ => by
    rw [h] at hd
    obtain ⟨v, rfl, A, c, rfl, h1, h2, h3⟩ := hd
    exact ⟨A, c, rfl, h3, h1, h2, hb⟩
theorem r1dec_none (s : ByteArray) (w : World) (hs : s.size ≤ 17592186044416) (h : decS s = none) :
    Calls Tryd.prog 95 #[.string s] w (Ret w (.tuple #[.slice none 0 0, .int .i64 3])) :=
  (r1dec_c s w hs).mono fun e w' ⟨hb, hd⟩ => by
    rw [h] at hd
    exact ⟨hd, hb⟩

/-- Whether a block may be. -/
def lenS (s : ByteArray) : Nat := ((decS s).getD []).length
def okS (s : ByteArray) : Int := if (decS s).isNone = true then 3 else 0
def bchk (b : T3) : Int :=
  if okS b.f ≠ 0 ∨ okS b.t ≠ 0 then 3 else if 3 < lenS b.f ∨ 3 < lenS b.t then 5 else if (b.f.toList == b.t.toList) = true then 7 else if b.n < 1 ∨ 1073741824 < b.n then 2 else 0
theorem r1dec_len (s : ByteArray) (w : World) (hs : s.size ≤ 17592186044416) :
    Calls Tryd.prog 95 #[.string s] w fun e w' => ∃ A c, e = .returned (.tuple #[.slice A (lenS s) c, .int .i64 (okS s)]) ∧ Below w.heap.size w w' := by
  cases h : decS s with
  | none => exact (r1dec_none s w hs h).mono fun e w' ⟨he, hb⟩ => ⟨none, 0, by rw [he]; unfold lenS okS; rw [h]; rfl, hb⟩
  | some l => exact (r1dec_some s w hs l h).mono fun e w' ⟨A, c, he, _, _, _, hb⟩ => ⟨A, c, by rw [he]; unfold lenS okS; rw [h]; rfl, hb⟩
set_option maxHeartbeats 1000000 in
set_option maxRecDepth 100000 in
theorem r5chk_c (b : T3) (w : World) (h1 : b.f.size ≤ 17592186044416) (h2 : b.t.size ≤ 17592186044416) :
    Calls Tryd.prog 74 #[.agg #[.string b.f, .string b.t, .int .i64 b.n]] w (Ret w (.int .i64 (bchk b))) := by
  go_enter Tryd.func74, Tryd.ntmps74
  go_wp2_with fail
  refine (r1dec_len b.f _ h1).mono ?_
  rintro e w1 ⟨A1, k1, rfl, hb1⟩
  obtain ⟨hc1, hz1⟩ := bcell hb1
  go_wp2_with fail
  refine (r1dec_len b.t _ h2).mono ?_
  rintro e w2 ⟨A2, k2, rfl, hb2⟩
  obtain ⟨hc2, hz2⟩ := bcell hb2
  have hs1 : w.heap.size < w1.heap.size := Nat.lt_of_lt_of_le (by simp) hb1.size
  go_wp2
  all_goals (go_ret; refine ⟨ret_int ?_, Bel⟩; unfold bchk; repeat' split)
  all_goals first | rfl | (exfalso; simp_all; done) | (exfalso; simp_all; omega)
theorem valid_dec : ∀ (n : Nat) (l : List UInt8), l.length ≤ n → Lib.validD l = (decL l).isSome
  | 0, l, h => by obtain rfl : l = [] := List.eq_nil_of_length_eq_zero (by omega); rfl
  | n + 1, l, h => by
    by_cases hl : l = []
    · subst hl; rfl
    · rw [Lib.validD_step l hl, decL_step l hl]
      by_cases hb : badL l
      · rw [if_pos hb]; rw [if_pos (show _ ∧ _ from hb)]; rfl
      · rw [if_neg hb]; rw [if_neg (show ¬ (_ ∧ _) from hb)]
        have := Lib.decodeL_width l
        have hp := List.length_pos_iff.2 hl
        rw [valid_dec n _ (by simp; omega), Option.isSome_map]
theorem valid_ok (s : ByteArray) : Lib.validD s.data.toList = decide (okS s = 0) := by
  rw [valid_dec _ _ (Nat.le_refl _)]
  unfold okS decS
  cases decL s.data.toList <;> rfl
theorem count_dec (s : ByteArray) : ∀ (fuel pos : Nat) (l : List Int), decL (s.data.toList.drop pos) = some l → s.size ≤ pos + fuel → Lib.runeCountFrom s fuel pos = l.length
  | 0, pos, l, h, hf => by
    rw [List.drop_of_length_le (by rw [sz_list]; omega), decL_nil] at h
    injection h with h; subst h; rfl
  | fuel + 1, pos, l, h, hf => by
    unfold Lib.runeCountFrom
    by_cases hp : pos < s.size
    · rw [if_pos hp]
      have hne : s.data.toList.drop pos ≠ [] := by intro e; have := congrArg List.length e; rw [List.length_drop, sz_list] at this; simp at this; omega
      rw [decL_step _ hne] at h
      by_cases hb : badL (s.data.toList.drop pos)
      · rw [if_pos hb] at h; cases h
      · rw [if_neg hb, List.drop_drop, Lib.decodeL_drop] at h
        obtain ⟨l', h1, rfl⟩ := Option.map_eq_some_iff.1 h
        have hw := Lib.width_pos s pos
        rw [count_dec s fuel _ l' h1 (by omega), List.length_cons]; omega
    · rw [if_neg hp]
      rw [List.drop_of_length_le (by rw [sz_list]; omega), decL_nil] at h
      injection h with h; subst h; rfl
theorem count_len (s : ByteArray) (h : okS s = 0) : Lib.runeCount s = lenS s := by
  unfold okS at h
  cases hd : decS s with
  | none => rw [hd] at h; simp at h
  | some l =>
    unfold lenS
    rw [hd]
    exact count_dec s s.size 0 l hd (by omega)
/-- The library's two tables lie as its text lays them. -/
def U (w : World) : Prop := Lib.Utf8Tabs 0 1 w
theorem U.to {w w' : World} (h : U w) (hb : Below w.heap.size w w') : U w' := Utf8Tabs_below h hb
theorem cnt_c (s : ByteArray) (w : World) (hs : s.size < 9223372036854775807) (hok : okS s = 0) :
    Calls Tryd.prog 115 #[.string s] w (Ret w (.int .i64 (lenS s))) :=
  (Tryd.utf8_RuneCountInString s w hs).mono fun e w' ⟨he, pos, hw⟩ => by
    subst hw
    exact ⟨by rw [he, count_len s hok], (Below.refl _ _).alloc (Nat.le_refl _) _⟩
set_option maxHeartbeats 1000000 in
set_option maxRecDepth 100000 in
theorem bchk_c (b : T3) (w : World) (hU : U w) (h1 : b.f.size ≤ 17592186044416) (h2 : b.t.size ≤ 17592186044416) :
    Calls Tryd.prog 73 #[.agg #[.string b.f, .string b.t, .int .i64 b.n]] w (Ret w (.int .i64 (bchk b))) := by
  have v1 := valid_ok b.f
  have v2 := valid_ok b.t
  have HU := Lib.hid hU
  clear hU
  by_cases q1 : okS b.f = 0
  · rw [decide_eq_true q1] at v1
    have HV1 := Lib.hid v1; have HQ1 := Lib.hid q1
    clear v1 q1
    by_cases q2 : okS b.t = 0
    · rw [decide_eq_true q2] at v2
      have HV2 := Lib.hid v2; have HQ2 := Lib.hid q2
      clear v2 q2
      go_enter Tryd.func73, Tryd.ntmps73
      go_wp2_with fail
      refine (Tryd.utf8_ValidString b.f _ (by omega) (HU.out.to Bel)).mono ?_
      rintro e w1 ⟨rfl, hb1⟩
      rw [HV1.out]
      obtain ⟨hc1, hz1⟩ := bcell hb1
      have hs1 : w.heap.size < w1.heap.size := Nat.lt_of_lt_of_le (by simp) hb1.size
      go_wp2_with fail
      refine (Tryd.utf8_ValidString b.t _ (by omega) (HU.out.to Bel)).mono ?_
      rintro e w2 ⟨rfl, hb2⟩
      rw [HV2.out]
      obtain ⟨hc2, hz2⟩ := bcell hb2
      have hs2 : w.heap.size < w2.heap.size := Nat.lt_of_lt_of_le hs1 hb2.size
      go_wp2_with fail
      refine region_seq [(0, true), (1, true), (3, true), (4, true), (2, false), (5, false), (6, true), (7, true), (8, true)] (by kernel_rfl) (by kernel_rfl) (fun c a d v w h => by cases d <;> exact h) ?_
      intro W hW
      obtain ⟨hcW, hzW⟩ := bcell hW
      have hsW : w.heap.size < W.heap.size := Nat.lt_of_lt_of_le hs2 hW.size
      repeat (first
        | (refine seq_q rfl (fun K hK => ?_); unfold takeQ; go_simp; refine hK _ ?_; clear hK K)
        | (refine seq_t rfl (fun K hK => ?_); go_simp; go_at_call 115; refine (cnt_c _ _ (by omega) (by first | exact HQ1.out | exact HQ2.out)).mono ?_; rintro e w3 ⟨rfl, hb3⟩; obtain ⟨hc3, hz3⟩ := bcell hb3; have hs3 : w.heap.size < w3.heap.size := Nat.lt_of_lt_of_le (by first | exact hs3 | exact hsW) hb3.size; go_simp; refine hK _ _ (.of Bel) ?_; clear hK K))
      refine seq_nil ?_
      go_wp2
      all_goals (go_ret; refine ⟨ret_int ?_, Bel⟩; unfold bchk; rw [if_neg (fun h => h.elim (fun h => h HQ1.out) (fun h => h HQ2.out))]; repeat' split)
      all_goals first | rfl | (exfalso; simp_all; done) | (exfalso; simp_all; omega)
    · rw [decide_eq_false q2] at v2
      have HV2 := Lib.hid v2
      have HB : Hid (bchk b = 3) := by unfold bchk; rw [if_pos (.inr q2)]; rfl
      clear v2 q2
      go_enter Tryd.func73, Tryd.ntmps73
      go_wp2_with fail
      refine (Tryd.utf8_ValidString b.f _ (by omega) (HU.out.to Bel)).mono ?_
      rintro e w1 ⟨rfl, hb1⟩
      rw [HV1.out]
      obtain ⟨hc1, hz1⟩ := bcell hb1
      have hs1 : w.heap.size < w1.heap.size := Nat.lt_of_lt_of_le (by simp) hb1.size
      go_wp2_with fail
      refine (Tryd.utf8_ValidString b.t _ (by omega) (HU.out.to Bel)).mono ?_
      rintro e w2 ⟨rfl, hb2⟩
      rw [HV2.out]
      go_wp2
      go_ret
      exact ⟨by rw [HB.out]; rfl, Bel⟩
  · rw [decide_eq_false q1] at v1
    have HV1 := Lib.hid v1
    have HB : Hid (bchk b = 3) := by unfold bchk; rw [if_pos (.inl q1)]; rfl
    clear v1 q1 v2
    go_enter Tryd.func73, Tryd.ntmps73
    go_wp2_with fail
    refine (Tryd.utf8_ValidString b.f _ (by omega) (HU.out.to Bel)).mono ?_
    rintro e w1 ⟨rfl, hb1⟩
    rw [HV1.out]
    go_wp2
    go_ret
    exact ⟨by rw [HB.out]; rfl, Bel⟩
end Go.Proofs.YtpccanadijefnaaDoor
