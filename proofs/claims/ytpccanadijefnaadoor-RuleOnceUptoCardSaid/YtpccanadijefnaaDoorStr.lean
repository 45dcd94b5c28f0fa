/- What the comparisons of texts, blocks and rules compute. No condition. -/
import Derived.Test.YtpccanadijefnaaDoorBase
import Derived.Test.YtpccanadijefnaaDoorReg
import Derived.Test.YtpccanadijefnaaDoorProg
import Derived.Lib.Hide
import Derived.Sort.Grow
namespace Go.Proofs.YtpccanadijefnaaDoor
open Go.RowKit
def cmpS (a b : ByteArray) : Int := if Op.bytesLess a.toList b.toList = true then -1 else if (a.toList == b.toList) = true then 0 else 1
def orL : List Int → Int
  | [] => 0
  | x :: xs => if x = 0 then orL xs else x
theorem orL_drop (xs : List Int) (k : Nat) (h : k < xs.length) : orL (xs.drop k) = if xs[k] = 0 then orL (xs.drop (k + 1)) else xs[k] := by
  rw [List.drop_eq_getElem_cons h]; rfl
/-- Which of two comes first: by From, then by To. -/
def cmpT (a b : T3) : Int := orL [cmpS a.f b.f, cmpS a.t b.t]
def ltT (a b : T3) : Bool := decide (cmpT a b < 0)

/-- Draws and new blocks alone. -/
def Grw (w w' : World) : Prop := ∃ q os, w' = Go.Sort.grow (w.drewN q) os
theorem Grw.refl (w : World) : Grw w w := ⟨0, #[], by simp; rfl⟩
theorem Gal {a W : World} (h : Grw a W) (o : Obj) : Grw a (W.alloc o) := by
  obtain ⟨q, os, rfl⟩ := h
  exact ⟨q, os ++ #[o], by rw [Go.Sort.alloc_eq_grow, Go.Sort.grow_grow]⟩
theorem Gdn {a W : World} (h : Grw a W) (n : Nat) : Grw a (W.drewN n) := by
  obtain ⟨q, os, rfl⟩ := h
  exact ⟨q + n, os, by simp [Go.Sort.grow, World.drewN, Nat.add_assoc]⟩
theorem Gst {a W w2 : World} (h : Grw a W) (k : Grw W w2) : Grw a w2 := by
  obtain ⟨q, os, rfl⟩ := k
  have h1 := Gdn h q
  obtain ⟨q', os', h1⟩ := h1
  exact ⟨q', os' ++ os, by rw [h1, Go.Sort.grow_grow]⟩
theorem Grw.below {a w : World} (h : Grw a w) : Below a.heap.size a w := by
  obtain ⟨q, os, rfl⟩ := h
  exact ⟨rfl, rfl, rfl, by simp [Go.Sort.grow, World.drewN], fun i hi => by simp [Go.Sort.grow, World.drewN, Array.getElem?_append, hi]⟩
theorem Gel {a w : World} (h : Grw a w := by repeat (first | assumption | exact Grw.refl _ | refine Gal ?_ _ | refine Gdn ?_ _ | refine Gst ?_ (by assumption))) : Grw a w := h
def RetG (w : World) (v : Value) (e : Ending) (w' : World) : Prop := e = .returned v ∧ Grw w w'
theorem RetG.ret {P : Program} {f : Nat} {args : Array Value} {w : World} {v : Value} (h : Calls P f args w (RetG w v)) : Calls P f args w (Ret w v) := h.mono fun _ _ ⟨h1, h2⟩ => ⟨h1, h2.below⟩

set_option maxHeartbeats 400000 in
theorem nan_c (s : ByteArray) (w : World) : Calls Tryd.prog 148 #[.string s] w fun e w' => e = .returned (.bool false) ∧ w' = w := by
  go_enter Tryd.func148, Tryd.ntmps148
  go_wp2
  go_ret
  exact ⟨rfl, rfl⟩
set_option maxHeartbeats 400000 in
theorem cmpS_c (s t : ByteArray) (w : World) : Calls Tryd.prog 116 #[.string s, .string t] w fun e w' => e = .returned (.int .i64 (cmpS s t)) ∧ w' = w := by
  cases h1 : Op.bytesLess s.toList t.toList <;> cases h2 : s.toList == t.toList
  all_goals
    go_enter Tryd.func116, Tryd.ntmps116
    go_wp2_with (go_at_call 148; refine (nan_c _ _).mono ?_; rintro e w' ⟨rfl, rfl⟩)
    go_ret
    exact ⟨ret_int (by unfold cmpS; rw [h1, h2]; rfl), rfl⟩
set_option maxHeartbeats 400000 in
theorem or_c (A : Option Addr) (c : Nat) (xs : List Int) (w : World) (hs : SlA (eInt .i64) w A xs) (hm : xs.length ≤ 9223372036854775807) :
    Calls Tryd.prog 92 #[.slice A xs.length c] w fun e w' => e = .returned (.int .i64 (orL xs)) ∧ w' = w := by
  go_enter Tryd.func92, Tryd.ntmps92
  go_wp2
  go_loop [5, 8] (fun _ i => ∃ k : Nat, k ≤ xs.length ∧ i = .int .i64 k ∧ Hid (orL (xs.drop k) = orL xs)) (fun _ i => xs.length - (intOf i).toNat)
  case atStart => exact ⟨0, by omega, rfl, rfl⟩
  case round =>
    obtain ⟨k, hk, rfl, HO⟩ := hrel
    by_cases hlt : k < xs.length
    · obtain ⟨b, o, rfl, c1⟩ := hs.at1 (fun _ => rfl) (Below.refl _ _) k hlt
      have hd := Lib.hid (orL_drop xs k hlt)
      by_cases hz : xs[k] = 0
      · have hz1 : (xs[k] != 0) = false := by simp [hz]
        have Hz := Lib.hid hz
        clear hz
        go_wp2
        go_round
        case rel => exact ⟨k + 1, by omega, by go_num, by have h1 := hd.out; rw [if_pos Hz.out] at h1; exact h1.symm.trans HO.out⟩
        case measure => simp [intOf]; omega
      · have hz1 : (xs[k] != 0) = true := by simp [hz]
        go_wp2
        go_ret
        exact ⟨ret_int (by have h1 := hd.out; rw [if_neg hz] at h1; exact h1.symm.trans HO.out), rfl⟩
    · go_wp2
      go_ret
      exact ⟨ret_int (by have h1 := HO.out; rw [List.drop_of_length_le (by omega)] at h1; exact h1), rfl⟩
set_option maxHeartbeats 400000 in
theorem bless_g (a b : T3) (w : World) : Calls Tryd.prog 83 #[.agg #[.string a.f, .string a.t, .int .i64 a.n], .agg #[.string b.f, .string b.t, .int .i64 b.n]] w (RetG w (.bool (ltT a b))) := by
  go_enter Tryd.func83, Tryd.ntmps83
  go_wp2
  refine region_qtail 10 (by kernel_rfl) (by kernel_rfl) (fun W => ∃ n, W = World.drewN _ n) ⟨1, rfl⟩ ?_
  simp only [List.take_succ_cons, List.take_zero, List.drop_succ_cons, List.drop_zero]
  repeat (quiet_step ((go_at_call 116; exact Calls.quiet_of_same (cmpS_c _ _ _))))
  refine wpQuiet_nil ?_
  intro _ hw'
  obtain ⟨nq, rfl⟩ := hw'
  go_wp2_with (go_at_call 92; refine (or_c _ _ [cmpS a.f b.f, cmpS a.t b.t] _ (SlA.new _ _ _ _ _ (by simp) _ rfl) (by simp)).mono ?_; rintro e w' ⟨rfl, rfl⟩)
  go_ret
  exact ⟨by rfl, Gel⟩
theorem bless_c (a b : T3) (w : World) : Calls Tryd.prog 83 #[.agg #[.string a.f, .string a.t, .int .i64 a.n], .agg #[.string b.f, .string b.t, .int .i64 b.n]] w (Ret w (.bool (ltT a b))) := RetG.ret (bless_g a b w)
set_option maxHeartbeats 400000 in
theorem rcomp_g (a b : T3) (w : World) : Calls Tryd.prog 75 #[.agg #[.string a.f, .string a.t, .int .i64 a.n], .agg #[.string b.f, .string b.t, .int .i64 b.n]] w (RetG w (.int .i64 (cmpT a b))) := by
  go_enter Tryd.func75, Tryd.ntmps75
  go_wp2
  refine region_qtail 10 (by kernel_rfl) (by kernel_rfl) (fun W => ∃ n, W = World.drewN _ n) ⟨1, rfl⟩ ?_
  simp only [List.take_succ_cons, List.take_zero, List.drop_succ_cons, List.drop_zero]
  repeat (quiet_step ((go_at_call 116; exact Calls.quiet_of_same (cmpS_c _ _ _))))
  refine wpQuiet_nil ?_
  intro _ hw'
  obtain ⟨nq, rfl⟩ := hw'
  go_wp2_with (go_at_call 92; refine (or_c _ _ [cmpS a.f b.f, cmpS a.t b.t] _ (SlA.new _ _ _ _ _ (by simp) _ rfl) (by simp)).mono ?_; rintro e w' ⟨rfl, rfl⟩)
  go_ret
  exact ⟨by rfl, Gel⟩
theorem rcomp_c (a b : T3) (w : World) : Calls Tryd.prog 75 #[.agg #[.string a.f, .string a.t, .int .i64 a.n], .agg #[.string b.f, .string b.t, .int .i64 b.n]] w (Ret w (.int .i64 (cmpT a b))) := RetG.ret (rcomp_g a b w)
set_option maxHeartbeats 400000 in
theorem rless_c (a b : T3) (w : World) : Calls Tryd.prog 30 #[.agg #[.string a.f, .string a.t, .int .i64 a.n], .agg #[.string b.f, .string b.t, .int .i64 b.n]] w (Ret w (.bool (ltT a b))) := by
  go_enter Tryd.func30, Tryd.ntmps30
  go_wp2_with (go_at_call 75; refine (rcomp_c a b _).mono ?_; rintro e w' ⟨rfl, hb⟩)
  go_ret
  exact ⟨by rfl, Bst (by repeat (first | exact Below.refl _ _ | refine Bal ?_ _ | refine Bdn ?_ _)) hb⟩
set_option maxHeartbeats 400000 in
theorem ccomp_g (a b : T3) (w : World) : Calls Tryd.prog 79 #[.agg #[.string a.f, .string a.t, .int .i64 a.n], .agg #[.string b.f, .string b.t, .int .i64 b.n]] w (RetG w (.int .i64 (if ltT a b = true then -1 else if ltT b a = true then 1 else 0))) := by
  cases h1 : ltT a b <;> cases h2 : ltT b a
  all_goals
    have H1 := Lib.hid h1; have H2 := Lib.hid h2
    clear h1 h2
    go_enter Tryd.func79, Tryd.ntmps79
    go_wp2_with fail
    refine (bless_g a b _).mono ?_
    rintro e w1 ⟨rfl, hb1⟩
    rw [H1.out]
    have hc := bcell hb1.below
    obtain ⟨hc, hf⟩ := hc
    go_wp2_with fail
    try (refine (bless_g b a _).mono ?_; rintro e w2 ⟨rfl, hb2⟩; rw [H2.out]; go_wp2)
    go_ret
    exact ⟨rfl, Gel⟩
theorem ccomp_c (a b : T3) (w : World) : Calls Tryd.prog 79 #[.agg #[.string a.f, .string a.t, .int .i64 a.n], .agg #[.string b.f, .string b.t, .int .i64 b.n]] w (Ret w (.int .i64 (if ltT a b = true then -1 else if ltT b a = true then 1 else 0))) := RetG.ret (ccomp_g a b w)
end Go.Proofs.YtpccanadijefnaaDoor
