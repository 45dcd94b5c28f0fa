/- Parts of these proofs, one behind the other: Dec, Str, Blk, Cnt, Cnt2, Map, Sort, Ord. No condition. -/
import Derived.Test.YtmpoihejacklnaaDoorK803
import Derived.Lib.IndexBytes
import Derived.Test.YtmpoihejacklnaaDoorK801
import Derived.Test.YtmpoihejacklnaaDoorProg
import Derived.Lib.Hide
import Derived.Sort.Grow
import Derived.Test.YtmpoihejacklnaaDoorShelf
import Derived.Maps.OwnSet
import Derived.Maps.OwnOps
import Derived.DeepKeys4
import Derived.WideMake
import Derived.Deep.Heap
import Derived.Shelf.SlSortCmp.NoneTotal
import Derived.Shelf.SlSortCmp.WholeK
import Derived.Sort.Statements
import Derived.Shelf.SlSortCmp.Insertion
/- What a text decodes to, and that the reference's Decode says so. No condition. -/
namespace Go.Proofs.YtmpoihejacklnaaDoor
open Go.RowKit
def decN : Nat → List UInt8 → Option (List Int)
  | 0, _ => some []
  | n + 1, l => if l = [] then some [] else if badL l then none else (decN n (l.drop (Lib.decodeL l).2)).map (((Lib.decodeL l).1 : Int) :: ·)
theorem decN_more : ∀ (n m : Nat) (l : List UInt8), l.length ≤ n → l.length ≤ m → decN n l = decN m l
  | 0, 0, _, _, _ => rfl
  | 0, m + 1, l, h, _ => by obtain rfl : l = [] := List.eq_nil_of_length_eq_zero (by omega); simp [decN]
  | n + 1, 0, l, _, h => by obtain rfl : l = [] := List.eq_nil_of_length_eq_zero (by omega); simp [decN]
  | n + 1, m + 1, l, h1, h2 => by
    unfold decN
    by_cases hl : l = []
    · rw [if_pos hl, if_pos hl]
    · rw [if_neg hl, if_neg hl]
      have := Lib.decodeL_width l
      have hp : 0 < l.length := List.length_pos_iff.2 hl
      rw [decN_more n m _ (by simp; omega) (by simp; omega)]
/-- A text's runes; none: bytes that are no text. -/
def decL (l : List UInt8) : Option (List Int) := decN l.length l
theorem decL_nil : decL [] = some [] := rfl
theorem decL_step (l : List UInt8) (hl : l ≠ []) : decL l = if badL l then none else (decL (l.drop (Lib.decodeL l).2)).map (((Lib.decodeL l).1 : Int) :: ·) := by
  unfold decL
  obtain ⟨n, hn⟩ : ∃ n, l.length = n + 1 := ⟨l.length - 1, by have := List.length_pos_iff.2 hl; omega⟩
  rw [hn]
  conv => lhs; unfold decN
  rw [if_neg hl]
  have := Lib.decodeL_width l
  rw [decN_more n (l.drop (Lib.decodeL l).2).length _ (by simp; omega) (Nat.le_refl _)]
def decS (s : ByteArray) : Option (List Int) := decL s.data.toList
theorem info_i32 : (Tryd.prog.info? 21).map (fun i => (i.zero, i.size, i.bytes)) = some (some (.int .i32 0), 1, 4) := by kernel_rfl
theorem sz_list (s : ByteArray) : s.data.toList.length = s.size := by rw [← ByteArray.size_data]; simp

/-- What Decode hands back: the runes, or the error. -/
def DecPost (w : World) (d : Option (List Int)) (e : Ending) (w' : World) : Prop :=
  Below w.heap.size w w' ∧ match d with
    | some l => ∃ v, e = .returned (.tuple #[v, .int .i64 0]) ∧ SlV (eInt .i32) w' v l
    | none => e = .returned (.tuple #[.slice none 0 0, .int .i64 3])
/-- The same, the row the call's own. -/
def DecPostO (w : World) (d : Option (List Int)) (e : Ending) (w' : World) : Prop :=
  Below w.heap.size w w' ∧ match d with
    | some l => ∃ v, e = .returned (.tuple #[v, .int .i64 0]) ∧ Own (eInt .i32) w.heap.size 21 w' v l
    | none => e = .returned (.tuple #[.slice none 0 0, .int .i64 3])
set_option maxHeartbeats 1000000 in
set_option maxRecDepth 100000 in
theorem r1dec_own (s : ByteArray) (w : World) (hs : s.size ≤ 17592186044416) :
    Calls Tryd.prog 55 #[.string s] w (DecPostO w (decS s)) := by
  go_enter Tryd.func55, Tryd.ntmps55
  go_wp2
  go_loopw [0, 4, 5, 6] (fun s0 v _ _ wr => ∃ (t : ByteArray) (xs : List Int), s0 = .string t ∧ t.size + xs.length ≤ s.size ∧ Hid (decS s = (decS t).map (xs ++ ·)) ∧ Own (eInt .i32) w.heap.size 21 wr v xs ∧ Below w.heap.size w wr)
    (fun s0 _ _ _ _ => match s0 with | .string t => t.size | _ => 0)
  case atStart => exact ⟨s, [], rfl, by simp, by simp [Hid], Own.nil _, Bel⟩
  case round =>
    obtain ⟨t, xs, rfl, hlen, HD, HO, hb⟩ := hrel
    by_cases hz : 0 < t.size
    · have hne : t.data.toList ≠ [] := by intro h; have := sz_list t; rw [h] at this; simp at this; omega
      have hst := decL_step _ hne
      by_cases hbad : badL t.data.toList
      · have hf : firstL t.data.toList = (0, 0) := by unfold firstL; rw [if_pos (.inr hbad)]
        have HE : Hid (decS s = none) := by
          have := HD.out
          unfold decS at this
          rw [hst, if_pos hbad] at this
          exact this
        have HF := Lib.hid hf
        clear hst hf
        go_wp2_with (go_at_call 82; refine (r1first_c t _ (by omega) hne).mono ?_; rintro e w2 ⟨rfl, hb2⟩; rw [HF.out])
        go_ret2
        refine ⟨Bel, ?_⟩
        rw [HE.out]
        rfl
      · obtain ⟨hR, h1, h4⟩ := isR_dec _ hbad
        have hle := Lib.decodeL_le _ hne
        rw [sz_list] at hle
        have hf : firstL t.data.toList = (((Lib.decodeL t.data.toList).1 : Int), ((Lib.decodeL t.data.toList).2 : Int)) := by unfold firstL; rw [if_neg (fun h => h.elim hne hbad)]
        rw [if_neg hbad] at hst
        generalize hr : ((Lib.decodeL t.data.toList).1 : Int) = r at *
        generalize hn : (Lib.decodeL t.data.toList).2 = n at *
        have hn0 : ((n : Int) == 0) = false := by simp; omega
        have HF := Lib.hid hf
        have HS := Lib.hid hst
        clear hst hf hr hn
        go_wp2_with (first
          | (go_at_call 82; refine (r1first_c t _ (by omega) hne).mono ?_; rintro e w2 ⟨rfl, hb2⟩; rw [HF.out]; have HO2 := HO.below hb2)
          | (at_builtin; refine app (E := eInt .i32) _ _ 50 21 (.int .i32 0) 4 rfl rfl Tryd.underlying50 info_i32 rfl (by decide) (by decide) _ xs [r] ⟨_, 0, none⟩ 1 1 rfl rfl rfl (HO2.alloc _) (SlA.new _ _ _ _ _ rfl _ rfl) Bel (by simp; omega) ?_; intro v1 w3 HO3 hb3 _ _))
        go_roundw
        case rel =>
          refine ⟨_, xs ++ [r], rfl, by simp [ByteArray.size_extract]; omega, ?_, HO3, hb3⟩
          have h1 := HD.out
          have h2 : decS (t.extract n t.size) = decL (t.data.toList.drop n) := by unfold decS; rw [Lib.extract_to_end]
          show decS s = _
          rw [h1, h2]
          unfold decS
          rw [HS.out]
          cases decL (t.data.toList.drop n) <;> simp
        case measure => simp [ByteArray.size_extract]; omega
    · have h0 : t.data.toList = [] := List.eq_nil_of_length_eq_zero (by rw [sz_list]; omega)
      have HE : Hid (decS s = some xs) := by
        have := HD.out
        unfold decS at this
        rw [h0, decL_nil] at this
        unfold decS; simpa [Hid] using this
      go_wp2
      go_ret2
      refine ⟨Bel, ?_⟩
      rw [HE.out]
      exact ⟨_, rfl, HO⟩
theorem r1dec_c (s : ByteArray) (w : World) (hs : s.size ≤ 17592186044416) :
    Calls Tryd.prog 55 #[.string s] w (DecPost w (decS s)) :=
  (r1dec_own s w hs).mono fun e w' ⟨h1, h2⟩ => ⟨h1, by
    cases hd : decS s with
    | none => rw [hd] at h2; exact h2
    | some l => rw [hd] at h2; obtain ⟨v, h3, h4⟩ := h2; exact ⟨v, h3, h4.slv⟩⟩
end Go.Proofs.YtmpoihejacklnaaDoor
/- What the comparisons of texts, blocks and rules compute. No condition. -/
namespace Go.Proofs.YtmpoihejacklnaaDoor
open Go.RowKit
def cmpS (a b : ByteArray) : Int := if Op.bytesLess a.toList b.toList = true then -1 else if (a.toList == b.toList) = true then 0 else 1
def orL : List Int → Int
  | [] => 0
  | x :: xs => if x = 0 then orL xs else x
theorem orL_drop (xs : List Int) (k : Nat) (h : k < xs.length) : orL (xs.drop k) = if xs[k] = 0 then orL (xs.drop (k + 1)) else xs[k] := by
  rw [List.drop_eq_getElem_cons h]; rfl
/-- Which of two comes first: by From, then by To. -/
def cmpT (a b : T3) : Int := orL [cmpS a.f b.f, cmpS a.t b.t]
def ltT (a b : T3) : Bool := decide (cmpT a b < 0)

/-- Draws and new blocks alone. -/
def Grw (w w' : World) : Prop := ∃ q os, w' = Go.Sort.grow (w.drewN q) os
theorem Grw.refl (w : World) : Grw w w := ⟨0, #[], by simp; rfl⟩
theorem Gal {a W : World} (h : Grw a W) (o : Obj) : Grw a (W.alloc o) := by
  obtain ⟨q, os, rfl⟩ := h
  exact ⟨q, os ++ #[o], by rw [Go.Sort.alloc_eq_grow, Go.Sort.grow_grow]⟩
theorem Gdn {a W : World} (h : Grw a W) (n : Nat) : Grw a (W.drewN n) := by
  obtain ⟨q, os, rfl⟩ := h
  exact ⟨q + n, os, by simp [Go.Sort.grow, World.drewN, Nat.add_assoc]⟩
theorem Gst {a W w2 : World} (h : Grw a W) (k : Grw W w2) : Grw a w2 := by
  obtain ⟨q, os, rfl⟩ := k
  have h1 := Gdn h q
  obtain ⟨q', os', h1⟩ := h1
  exact ⟨q', os' ++ os, by rw [h1, Go.Sort.grow_grow]⟩
theorem Grw.below {a w : World} (h : Grw a w) : Below a.heap.size a w := by
  obtain ⟨q, os, rfl⟩ := h
  exact ⟨rfl, rfl, rfl, by simp [Go.Sort.grow, World.drewN], fun i hi => by simp [Go.Sort.grow, World.drewN, Array.getElem?_append, hi]⟩
theorem Gel {a w : World} (h : Grw a w := by repeat (first | assumption | exact Grw.refl _ | refine Gal ?_ _ | refine Gdn ?_ _ | refine Gst ?_ (by assumption))) : Grw a w := h
def RetG (w : World) (v : Value) (e : Ending) (w' : World) : Prop := e = .returned v ∧ Grw w w'
theorem RetG.ret {P : Program} {f : Nat} {args : Array Value} {w : World} {v : Value} (h : Calls P f args w (RetG w v)) : Calls P f args w (Ret w v) := h.mono fun _ _ ⟨h1, h2⟩ => ⟨h1, h2.below⟩

set_option maxHeartbeats 400000 in
theorem nan_c (s : ByteArray) (w : World) : Calls Tryd.prog 93 #[.string s] w fun e w' => e = .returned (.bool false) ∧ w' = w := by
  go_enter Tryd.func93, Tryd.ntmps93
  go_wp2
  go_ret
  exact ⟨rfl, rfl⟩
set_option maxHeartbeats 400000 in
theorem cmpS_c (s t : ByteArray) (w : World) : Calls Tryd.prog 66 #[.string s, .string t] w fun e w' => e = .returned (.int .i64 (cmpS s t)) ∧ w' = w := by
  cases h1 : Op.bytesLess s.toList t.toList <;> cases h2 : s.toList == t.toList
  all_goals
    go_enter Tryd.func66, Tryd.ntmps66
    go_wp2_with (go_at_call 93; refine (nan_c _ _).mono ?_; rintro e w' ⟨rfl, rfl⟩)
    go_ret
    exact ⟨ret_int (by unfold cmpS; rw [h1, h2]; rfl), rfl⟩
set_option maxHeartbeats 400000 in
theorem or_c (A : Option Addr) (c : Nat) (xs : List Int) (w : World) (hs : SlA (eInt .i64) w A xs) (hm : xs.length ≤ 9223372036854775807) :
    Calls Tryd.prog 44 #[.slice A xs.length c] w fun e w' => e = .returned (.int .i64 (orL xs)) ∧ w' = w := by
  go_enter Tryd.func44, Tryd.ntmps44
  go_wp2
  go_loop [5, 8] (fun _ i => ∃ k : Nat, k ≤ xs.length ∧ i = .int .i64 k ∧ Hid (orL (xs.drop k) = orL xs)) (fun _ i => xs.length - (intOf i).toNat)
  case atStart => exact ⟨0, by omega, rfl, rfl⟩
  case round =>
    obtain ⟨k, hk, rfl, HO⟩ := hrel
    by_cases hlt : k < xs.length
    · obtain ⟨b, o, rfl, c1⟩ := hs.at1 (fun _ => rfl) (Below.refl _ _) k hlt
      have hd := Lib.hid (orL_drop xs k hlt)
      by_cases hz : xs[k] = 0
      · have hz1 : (xs[k] != 0) = false := by simp [hz]
        have Hz := Lib.hid hz
        clear hz
        go_wp2
        go_round
        case rel => exact ⟨k + 1, by omega, by go_num, by have h1 := hd.out; rw [if_pos Hz.out] at h1; exact h1.symm.trans HO.out⟩
        case measure => simp [intOf]; omega
      · have hz1 : (xs[k] != 0) = true := by simp [hz]
        go_wp2
        go_ret
        exact ⟨ret_int (by have h1 := hd.out; rw [if_neg hz] at h1; exact h1.symm.trans HO.out), rfl⟩
    · go_wp2
      go_ret
      exact ⟨ret_int (by have h1 := HO.out; rw [List.drop_of_length_le (by omega)] at h1; exact h1), rfl⟩
set_option maxHeartbeats 400000 in
theorem rcomp_g (a b : T3) (w : World) : Calls Tryd.prog 39 #[.agg #[.string a.f, .string a.t, .int .i64 a.n], .agg #[.string b.f, .string b.t, .int .i64 b.n]] w (RetG w (.int .i64 (cmpT a b))) := by
  go_enter Tryd.func39, Tryd.ntmps39
  go_wp2
  refine region_qtail 10 (by kernel_rfl) (by kernel_rfl) (fun W => ∃ n, W = World.drewN _ n) ⟨1, rfl⟩ ?_
  simp only [List.take_succ_cons, List.take_zero, List.drop_succ_cons, List.drop_zero]
  repeat (quiet_step ((go_at_call 66; exact Calls.quiet_of_same (cmpS_c _ _ _))))
  refine wpQuiet_nil ?_
  intro _ hw'
  obtain ⟨nq, rfl⟩ := hw'
  go_wp2_with (go_at_call 44; refine (or_c _ _ [cmpS a.f b.f, cmpS a.t b.t] _ (SlA.new _ _ _ _ _ (by simp) _ rfl) (by simp)).mono ?_; rintro e w' ⟨rfl, rfl⟩)
  go_ret
  exact ⟨by rfl, Gel⟩
theorem rcomp_c (a b : T3) (w : World) : Calls Tryd.prog 39 #[.agg #[.string a.f, .string a.t, .int .i64 a.n], .agg #[.string b.f, .string b.t, .int .i64 b.n]] w (Ret w (.int .i64 (cmpT a b))) := RetG.ret (rcomp_g a b w)
set_option maxHeartbeats 400000 in
theorem rless_c (a b : T3) (w : World) : Calls Tryd.prog 48 #[.agg #[.string a.f, .string a.t, .int .i64 a.n], .agg #[.string b.f, .string b.t, .int .i64 b.n]] w (Ret w (.bool (ltT a b))) := by
  go_enter Tryd.func48, Tryd.ntmps48
  go_wp2_with (go_at_call 39; refine (rcomp_c a b _).mono ?_; rintro e w' ⟨rfl, hb⟩)
  go_ret
  exact ⟨by rfl, Bst (by repeat (first | exact Below.refl _ _ | refine Bal ?_ _ | refine Bdn ?_ _)) hb⟩
end Go.Proofs.YtmpoihejacklnaaDoor
/- Whether a block may be: the program's answer and the reference's are one function of the block. No condition. -/
namespace Go.Proofs.YtmpoihejacklnaaDoor
open Go.RowKit
theorem r1dec_some (s : ByteArray) (w : World) (hs : s.size ≤ 17592186044416) (l : List Int) (h : decS s = some l) :
    Calls Tryd.prog 55 #[.string s] w fun e w' => ∃ A c, e = .returned (.tuple #[.slice A l.length c, .int .i64 0]) ∧ SlA (eInt .i32) w' A l ∧ l.length ≤ c ∧ c ≤ 9223372036854775807 ∧ Below w.heap.size w w' :=
  (r1dec_c s w hs).mono fun e w' ⟨hb, hd⟩ => by
    rw [h] at hd
    obtain ⟨v, rfl, A, c, rfl, h1, h2, h3⟩ := hd
    exact ⟨A, c, rfl, h3, h1, h2, hb⟩
theorem r1dec_none (s : ByteArray) (w : World) (hs : s.size ≤ 17592186044416) (h : decS s = none) :
    Calls Tryd.prog 55 #[.string s] w (Ret w (.tuple #[.slice none 0 0, .int .i64 3])) :=
  (r1dec_c s w hs).mono fun e w' ⟨hb, hd⟩ => by
    rw [h] at hd
    exact ⟨hd, hb⟩

/-- Whether a block may be. -/
def lenS (s : ByteArray) : Nat := ((decS s).getD []).length
def okS (s : ByteArray) : Int := if (decS s).isNone = true then 3 else 0
def bchk (b : T3) : Int :=
  if okS b.f ≠ 0 ∨ okS b.t ≠ 0 then 3 else if 3 < lenS b.f ∨ 3 < lenS b.t then 5 else if (b.f.toList == b.t.toList) = true then 7 else if b.n < 1 ∨ 1073741824 < b.n then 2 else 0
theorem r1dec_len (s : ByteArray) (w : World) (hs : s.size ≤ 17592186044416) :
    Calls Tryd.prog 55 #[.string s] w fun e w' => ∃ A c, e = .returned (.tuple #[.slice A (lenS s) c, .int .i64 (okS s)]) ∧ Below w.heap.size w w' := by
  cases h : decS s with
  | none => exact (r1dec_none s w hs h).mono fun e w' ⟨he, hb⟩ => ⟨none, 0, by rw [he]; unfold lenS okS; rw [h]; rfl, hb⟩
  | some l => exact (r1dec_some s w hs l h).mono fun e w' ⟨A, c, he, _, _, _, hb⟩ => ⟨A, c, by rw [he]; unfold lenS okS; rw [h]; rfl, hb⟩
set_option maxHeartbeats 1000000 in
set_option maxRecDepth 100000 in
theorem r5chk_c (b : T3) (w : World) (h1 : b.f.size ≤ 17592186044416) (h2 : b.t.size ≤ 17592186044416) :
    Calls Tryd.prog 127 #[.agg #[.string b.f, .string b.t, .int .i64 b.n]] w (Ret w (.int .i64 (bchk b))) := by
  go_enter Tryd.func127, Tryd.ntmps127
  go_wp2_with fail
  refine (r1dec_len b.f _ h1).mono ?_
  rintro e w1 ⟨A1, k1, rfl, hb1⟩
  obtain ⟨hc1, hz1⟩ := bcell hb1
  go_wp2_with fail
  refine (r1dec_len b.t _ h2).mono ?_
  rintro e w2 ⟨A2, k2, rfl, hb2⟩
  obtain ⟨hc2, hz2⟩ := bcell hb2
  have hs1 : w.heap.size < w1.heap.size := Nat.lt_of_lt_of_le (by simp) hb1.size
  go_wp2
  all_goals (go_ret; refine ⟨ret_int ?_, Bel⟩; unfold bchk; repeat' split)
  all_goals first | rfl | (exfalso; simp_all; done) | (exfalso; simp_all; omega)
theorem valid_dec : ∀ (n : Nat) (l : List UInt8), l.length ≤ n → Lib.validD l = (decL l).isSome
  | 0, l, h => by obtain rfl : l = [] := List.eq_nil_of_length_eq_zero (by omega); rfl
  | n + 1, l, h => by
    by_cases hl : l = []
    · subst hl; rfl
    · rw [Lib.validD_step l hl, decL_step l hl]
      by_cases hb : badL l
      · rw [if_pos hb]; rw [if_pos (show _ ∧ _ from hb)]; rfl
      · rw [if_neg hb]; rw [if_neg (show ¬ (_ ∧ _) from hb)]
        have := Lib.decodeL_width l
        have hp := List.length_pos_iff.2 hl
        rw [valid_dec n _ (by simp; omega), Option.isSome_map]
theorem valid_ok (s : ByteArray) : Lib.validD s.data.toList = decide (okS s = 0) := by
  rw [valid_dec _ _ (Nat.le_refl _)]
  unfold okS decS
  cases decL s.data.toList <;> rfl
theorem count_dec (s : ByteArray) : ∀ (fuel pos : Nat) (l : List Int), decL (s.data.toList.drop pos) = some l → s.size ≤ pos + fuel → Lib.runeCountFrom s fuel pos = l.length
  | 0, pos, l, h, hf => by
    rw [List.drop_of_length_le (by rw [sz_list]; omega), decL_nil] at h
    injection h with h; subst h; rfl
  | fuel + 1, pos, l, h, hf => by
    unfold Lib.runeCountFrom
    by_cases hp : pos < s.size
    · rw [if_pos hp]
      have hne : s.data.toList.drop pos ≠ [] := by intro e; have := congrArg List.length e; rw [List.length_drop, sz_list] at this; simp at this; omega
      rw [decL_step _ hne] at h
      by_cases hb : badL (s.data.toList.drop pos)
      · rw [if_pos hb] at h; cases h
      · rw [if_neg hb, List.drop_drop, Lib.decodeL_drop] at h
        obtain ⟨l', h1, rfl⟩ := Option.map_eq_some_iff.1 h
        have hw := Lib.width_pos s pos
        rw [count_dec s fuel _ l' h1 (by omega), List.length_cons]; omega
    · rw [if_neg hp]
      rw [List.drop_of_length_le (by rw [sz_list]; omega), decL_nil] at h
      injection h with h; subst h; rfl
theorem count_len (s : ByteArray) (h : okS s = 0) : Lib.runeCount s = lenS s := by
  unfold okS at h
  cases hd : decS s with
  | none => rw [hd] at h; simp at h
  | some l =>
    unfold lenS
    rw [hd]
    exact count_dec s s.size 0 l hd (by omega)
/-- The library's two tables lie as its text lays them. -/
def U (w : World) : Prop := Lib.Utf8Tabs 0 1 w
theorem U.to {w w' : World} (h : U w) (hb : Below w.heap.size w w') : U w' := Utf8Tabs_below h hb
theorem cnt_c (s : ByteArray) (w : World) (hs : s.size < 9223372036854775807) (hok : okS s = 0) :
    Calls Tryd.prog 50 #[.string s] w (Ret w (.int .i64 (lenS s))) :=
  (Tryd.utf8_RuneCountInString s w hs).mono fun e w' ⟨he, pos, hw⟩ => by
    subst hw
    exact ⟨by rw [he, count_len s hok], (Below.refl _ _).alloc (Nat.le_refl _) _⟩
set_option maxHeartbeats 1000000 in
set_option maxRecDepth 100000 in
theorem bchk_c (b : T3) (w : World) (hU : U w) (h1 : b.f.size ≤ 17592186044416) (h2 : b.t.size ≤ 17592186044416) :
    Calls Tryd.prog 94 #[.agg #[.string b.f, .string b.t, .int .i64 b.n]] w (Ret w (.int .i64 (bchk b))) := by
  have v1 := valid_ok b.f
  have v2 := valid_ok b.t
  have HU := Lib.hid hU
  clear hU
  by_cases q1 : okS b.f = 0
  · rw [decide_eq_true q1] at v1
    have HV1 := Lib.hid v1; have HQ1 := Lib.hid q1
    clear v1 q1
    by_cases q2 : okS b.t = 0
    · rw [decide_eq_true q2] at v2
      have HV2 := Lib.hid v2; have HQ2 := Lib.hid q2
      clear v2 q2
      go_enter Tryd.func94, Tryd.ntmps94
      go_wp2_with fail
      refine (Tryd.utf8_ValidString b.f _ (by omega) (HU.out.to Bel)).mono ?_
      rintro e w1 ⟨rfl, hb1⟩
      rw [HV1.out]
      obtain ⟨hc1, hz1⟩ := bcell hb1
      have hs1 : w.heap.size < w1.heap.size := Nat.lt_of_lt_of_le (by simp) hb1.size
      go_wp2_with fail
      refine (Tryd.utf8_ValidString b.t _ (by omega) (HU.out.to Bel)).mono ?_
      rintro e w2 ⟨rfl, hb2⟩
      rw [HV2.out]
      obtain ⟨hc2, hz2⟩ := bcell hb2
      have hs2 : w.heap.size < w2.heap.size := Nat.lt_of_lt_of_le hs1 hb2.size
      go_wp2_with fail
      refine region_seq [(0, true), (1, true), (3, true), (4, true), (2, false), (5, false), (6, true), (7, true), (8, true)] (by kernel_rfl) (by kernel_rfl) (fun c a d v w h => by cases d <;> exact h) ?_
      intro W hW
      obtain ⟨hcW, hzW⟩ := bcell hW
      have hsW : w.heap.size < W.heap.size := Nat.lt_of_lt_of_le hs2 hW.size
      repeat (first
        | (refine seq_q rfl (fun K hK => ?_); unfold takeQ; go_simp; refine hK _ ?_; clear hK K)
        | (refine seq_t rfl (fun K hK => ?_); go_simp; go_at_call 50; refine (cnt_c _ _ (by omega) (by first | exact HQ1.out | exact HQ2.out)).mono ?_; rintro e w3 ⟨rfl, hb3⟩; obtain ⟨hc3, hz3⟩ := bcell hb3; have hs3 : w.heap.size < w3.heap.size := Nat.lt_of_lt_of_le (by first | exact hs3 | exact hsW) hb3.size; go_simp; refine hK _ _ (.of Bel) ?_; clear hK K))
      refine seq_nil ?_
      go_wp2
      all_goals (go_ret; refine ⟨ret_int ?_, Bel⟩; unfold bchk; rw [if_neg (fun h => h.elim (fun h => h HQ1.out) (fun h => h HQ2.out))]; repeat' split)
      all_goals first | rfl | (exfalso; simp_all; done) | (exfalso; simp_all; omega)
    · rw [decide_eq_false q2] at v2
      have HV2 := Lib.hid v2
      have HB : Hid (bchk b = 3) := by unfold bchk; rw [if_pos (.inr q2)]; rfl
      clear v2 q2
      go_enter Tryd.func94, Tryd.ntmps94
      go_wp2_with fail
      refine (Tryd.utf8_ValidString b.f _ (by omega) (HU.out.to Bel)).mono ?_
      rintro e w1 ⟨rfl, hb1⟩
      rw [HV1.out]
      obtain ⟨hc1, hz1⟩ := bcell hb1
      have hs1 : w.heap.size < w1.heap.size := Nat.lt_of_lt_of_le (by simp) hb1.size
      go_wp2_with fail
      refine (Tryd.utf8_ValidString b.t _ (by omega) (HU.out.to Bel)).mono ?_
      rintro e w2 ⟨rfl, hb2⟩
      rw [HV2.out]
      go_wp2
      go_ret
      exact ⟨by rw [HB.out]; rfl, Bel⟩
  · rw [decide_eq_false q1] at v1
    have HV1 := Lib.hid v1
    have HB : Hid (bchk b = 3) := by unfold bchk; rw [if_pos (.inl q1)]; rfl
    clear v1 q1 v2
    go_enter Tryd.func94, Tryd.ntmps94
    go_wp2_with fail
    refine (Tryd.utf8_ValidString b.f _ (by omega) (HU.out.to Bel)).mono ?_
    rintro e w1 ⟨rfl, hb1⟩
    rw [HV1.out]
    go_wp2
    go_ret
    exact ⟨by rw [HB.out]; rfl, Bel⟩
end Go.Proofs.YtmpoihejacklnaaDoor
/- Tables of blocks: whether one may be, how many there are; program and reference alike. No condition. -/
namespace Go.Proofs.YtmpoihejacklnaaDoor
open Go.RowKit
def eachT : List T3 → Int
  | [] => 0
  | b :: l => if bchk b = 0 then eachT l else bchk b
theorem each_drop (xs : List T3) (k : Nat) (h : k < xs.length) : eachT (xs.drop k) = if bchk xs[k] = 0 then eachT (xs.drop (k + 1)) else bchk xs[k] := by
  rw [List.drop_eq_getElem_cons h]; rfl
/-- The texts are as long as the second form lets them be. -/
def Small (l : List T3) : Prop := l.length ≤ 1048576 ∧ ∀ b ∈ l, b.f.size ≤ 1048576 ∧ b.t.size ≤ 1048576
theorem Small.at {l : List T3} (h : Small l) (k : Nat) (hk : k < l.length) : l[k].f.size ≤ 1048576 ∧ l[k].t.size ≤ 1048576 := h.2 _ (List.getElem_mem hk)
def sumT (l : List T3) : Int := (l.map (·.n)).sum
theorem sum_take (l : List T3) (k : Nat) (h : k < l.length) : sumT (l.take (k + 1)) = sumT (l.take k) + l[k].n := by
  unfold sumT; rw [List.take_succ_eq_append_getElem h, List.map_append, List.sum_append]; simp
theorem sum_nonneg (l : List T3) (h : ∀ b ∈ l, 0 ≤ b.n) : 0 ≤ sumT l := by
  unfold sumT
  induction l with
  | nil => simp
  | cons b l ih =>
    have h1 := h b (by simp)
    have h2 := ih fun x hx => h x (by simp [hx])
    simp only [List.map_cons, List.sum_cons]; omega
theorem sum_take_le (l : List T3) (k : Nat) (h : ∀ b ∈ l, 0 ≤ b.n) : sumT (l.take k) ≤ sumT l := by
  have h1 : sumT l = sumT (l.take k) + sumT (l.drop k) := by unfold sumT; rw [← List.sum_append, ← List.map_append, List.take_append_drop]
  have h2 := sum_nonneg (l.drop k) fun b hb => h b (List.mem_of_mem_drop hb)
  omega
theorem sum_le (l : List T3) (M : Int) (h : ∀ b ∈ l, b.n ≤ M) : sumT l ≤ l.length * M := by
  unfold sumT
  induction l with
  | nil => simp
  | cons b l ih =>
    have h1 := h b (by simp)
    have h2 := ih fun x hx => h x (by simp [hx])
    simp only [List.map_cons, List.sum_cons, List.length_cons]
    have : ((l.length + 1 : Nat) : Int) * M = l.length * M + M := by push_cast; rw [Int.add_mul]; omega
    omega
/-- What 'sum' hands back. -/
def sumV (l : List T3) : Value := if sumT l ≤ 1073741824 then .tuple #[.int .i64 (sumT l), .bool true] else .tuple #[.int .i64 0, .bool false]
/-- Rising. -/
def riseT : List T3 → Bool
  | a :: b :: l => ltT a b && riseT (b :: l)
  | _ => true
theorem rise_iff : ∀ (l : List T3), riseT l = true ↔ ∀ i (h : i + 1 < l.length), ltT l[i] l[i + 1] = true
  | [] => by simp [riseT]
  | [a] => by simp [riseT]
  | a :: b :: l => by
    simp only [riseT, Bool.and_eq_true]
    rw [rise_iff (b :: l)]
    constructor
    · rintro ⟨h1, h2⟩ i hi
      cases i with
      | zero => exact h1
      | succ i => exact h2 i (by simpa using hi)
    · intro h
      exact ⟨h 0 (by simp), fun i hi => h (i + 1) (by simpa using hi)⟩
/-- Whether a table may be. -/
def tchk (l : List T3) : Int := if eachT l ≠ 0 then eachT l else if riseT l = false then 7 else if 1073741824 < sumT l ∨ 4096 < l.length then 6 else 0
theorem bchk_n (b : T3) (h : bchk b = 0) : 1 ≤ b.n ∧ b.n ≤ 1073741824 := by
  unfold bchk at h
  repeat' split at h
  all_goals first | omega | (rename_i h1; omega)
theorem each_all : ∀ (l : List T3), eachT l = 0 ↔ ∀ b ∈ l, bchk b = 0
  | [] => by simp [eachT]
  | b :: l => by
    unfold eachT
    by_cases h : bchk b = 0
    · rw [if_pos h, each_all l]; simp [h]
    · rw [if_neg h]; simp [h]
end Go.Proofs.YtmpoihejacklnaaDoor
/- count.Check and count.Total, and the reference's: one function of the table. No condition. -/
namespace Go.Proofs.YtmpoihejacklnaaDoor
open Go.RowKit
theorem cmp3 (a b : T3) : ∃ z : Int, Hid ((if ltT a b = true then (-1 : Int) else if ltT b a = true then 1 else 0) = z) ∧ ((ltT a b = true ∧ z = -1) ∨ (ltT a b = false ∧ (z = 0 ∨ z = 1))) := by
  cases h : ltT a b
  · cases h2 : ltT b a
    · exact ⟨0, rfl, .inr ⟨rfl, .inl rfl⟩⟩
    · exact ⟨1, rfl, .inr ⟨rfl, .inr rfl⟩⟩
  · exact ⟨-1, rfl, .inl ⟨rfl, rfl⟩⟩
def upTo (xs : List T3) (k : Nat) : Prop := ∀ i (h : i + 1 < xs.length), i + 1 < k → ltT xs[i] xs[i + 1] = true
theorem upTo_all {xs : List T3} (h : upTo xs xs.length) : riseT xs = true := (rise_iff xs).2 fun i hi => h i hi hi
theorem upTo_succ {xs : List T3} {j : Nat} (hj : j + 1 < xs.length) (h : upTo xs (j + 1)) (hl : ltT xs[j] xs[j + 1] = true) : upTo xs (j + 1 + 1) := fun i hi h1 => by
  by_cases e : i = j
  · subst e; exact hl
  · exact h i hi (by omega)
theorem rise_no {xs : List T3} {j : Nat} (hj : j + 1 < xs.length) (h : ltT xs[j] xs[j + 1] = false) : riseT xs = false := by
  cases hr : riseT xs
  · rfl
  · have := (rise_iff xs).1 hr j hj
    rw [h] at this; cases this
end Go.Proofs.YtmpoihejacklnaaDoor
/- Maps that the call owns, read as the list of their keys and values. No condition. -/
namespace Go.Proofs.YtmpoihejacklnaaDoor
open Go Go.RowKit
open Go.Maps (Keyed)
open Go.ChangeMaps (setBlock heap_setBlock_same heap_setBlock_other)

/-- Block b is a map: its keys and values, in the order in which they came. -/
def Mp (w : World) (b : Nat) (l : List (Value × Value)) : Prop := ∃ es clock, w.heap[b]? = some (.map es clock) ∧ es.toList.map (fun e => (e.key, e.val)) = l
theorem Mp.made (w : World) : Mp (w.alloc (.map #[] 0)) w.heap.size [] := ⟨#[], 0, (MapKept.heap_alloc w _).1, rfl⟩
section
variable {w w' : World} {b : Nat} {l : List (Value × Value)}
theorem Mp.lt (h : Mp w b l) : b < w.heap.size := by
  obtain ⟨es, clock, hb, _⟩ := h
  exact (Array.getElem?_eq_some_iff.1 hb).1
theorem Mp.kept {row : Option Nat} (h : Mp w b l) (hg : w.grownBy w' row) (hne : some b ≠ row) : Mp w' b l := by
  have hlt := h.lt
  obtain ⟨es, clock, hb, hl⟩ := h
  exact ⟨es, clock, (hg.block b hlt hne).trans hb, hl⟩
theorem Mp.below (h : Mp w b l) (hb : Below w.heap.size w w') : Mp w' b l :=
  h.kept (row := none) ⟨hb.os, hb.tape, hb.output, hb.size, fun i hi _ => hb.block i hi⟩ (by simp)
theorem Mp.setCell (h : Mp w b l) (p : Addr) (hp : p.block ≠ b) (u : Value) : Mp (w.setCell p u) b l := by
  obtain ⟨es, clock, hb, hl⟩ := h
  refine ⟨es, clock, ?_, hl⟩
  rw [← hb]
  exact Deep.blk_setCell_other w p u b (fun e => hp e.symm)
end
theorem Mp.find {P : Program} {k : TypeId} {w : World} {l : List (Value × Value)} (K : Keyed P k) {es : Array MapEntry} (hl : es.toList.map (fun e => (e.key, e.val)) = l)
    (hk : ∀ p ∈ l, ∃ q, keyOf P k p.1 = some q) {x : Value} {lx : Lit} (hx : keyOf P k x = some lx) :
    ((Instr.findKey k x es.toList).run P w = .ok none w ∧ ∀ p ∈ l, p.1 ≠ x) ∨ ∃ (j : Nat) (v : Value), (Instr.findKey k x es.toList).run P w = .ok (some (j, v)) w ∧ l[j]? = some (x, v) := by
  subst hl
  rcases K.find w hx es.toList (fun e he => hk (e.key, e.val) (List.mem_map.2 ⟨e, he, rfl⟩)) with ⟨h1, h2⟩ | ⟨j, e, h1, h2, h3⟩
  · refine .inl ⟨h1, fun p hp => ?_⟩
    obtain ⟨e, he, rfl⟩ := List.mem_map.1 hp
    exact h2 e he
  · exact .inr ⟨j, e.val, h1, by rw [List.getElem?_map, h2]; simp [h3]⟩
/-- No key twice. -/
def Apart (l : List (Value × Value)) : Prop := l.Pairwise (fun p q => p.1 ≠ q.1)
theorem Apart.one {l : List (Value × Value)} (h : Apart l) {x v v' : Value} {i j : Nat} (hi : l[i]? = some (x, v)) (hj : l[j]? = some (x, v')) : i = j ∧ v = v' := by
  obtain ⟨h1, e1⟩ := List.getElem?_eq_some_iff.1 hi
  obtain ⟨h2, e2⟩ := List.getElem?_eq_some_iff.1 hj
  have h' := List.pairwise_iff_getElem.1 h
  rcases Nat.lt_trichotomy i j with hlt | rfl | hlt
  · exact absurd (by rw [e1, e2]) (h' i j h1 h2 hlt)
  · rw [e1] at e2; exact ⟨rfl, by injection e2⟩
  · exact absurd (by rw [e1, e2]) (h' j i h2 h1 hlt)
/-- What a look-up finds. -/
def Finds (l : List (Value × Value)) (x z : Value) (r : Value × Bool) : Prop := ((∀ p ∈ l, p.1 ≠ x) ∧ r = (z, false)) ∨ ∃ (j : Nat) (v : Value), l[j]? = some (x, v) ∧ r = (v, true)
theorem wpList_lookup_mp {P : Program} {w : World} {ops : Array Oper} {rest : List Oper} {o : Oper} {a : Act} {Q : Exit → Act → World → Prop}
    (hg : o.guard = none) (m x : Operand) (t : TypeId) (hop : o.op = Op.lookup t m x true)
    (k e : TypeId) (K : Keyed P k) (ht : P.underlying t = some (.map k e)) (z : Value) (hz : (zeroValue e).run P w = .ok z w) (b : Nat) (l : List (Value × Value)) (hm : a.eval m = .map (some b)) (H : Mp w b l) (hA : Apart l)
    (hk : ∀ p ∈ l, ∃ q, keyOf P k p.1 = some q) (key : Value) (lx : Lit) (hx : a.eval x = key) (hkey : keyOf P k key = some lx) (r : Value × Bool) (hr : Finds l key z r)
    (hK : wpList P ops Q rest (a.put o.dst (.tuple #[r.1, .bool r.2])) w) : wpList P ops Q (o :: rest) a w := by
  refine wpList_plain hg fun K' hK' => ?_
  obtain ⟨es, clock, hb, hl⟩ := H
  have hrun : (Instr.lookup t (.map (some b)) key true).run P w = .ok (.tuple #[r.1, .bool r.2]) w := by
    rcases Mp.find (w := w) K hl hk hkey with ⟨h1, h2⟩ | ⟨j, v, h1, h2⟩
    · have : r = (z, false) := by
        rcases hr with ⟨_, h⟩ | ⟨j, v, h, _⟩
        · exact h
        · exact absurd rfl (h2 _ (List.mem_of_getElem? h))
      subst this
      simp [Instr.lookup, run_underlying ht, MapKept.run_getObj_map hb, K.check w _ hkey, h1, hz, Result.andThen]
    · have : r = (v, true) := by
        rcases hr with ⟨h, _⟩ | ⟨j', v', h, rfl⟩
        · exact absurd rfl (h _ (List.mem_of_getElem? h2))
        · rw [(hA.one h h2).2]
      subst this
      simp [Instr.lookup, run_underlying ht, MapKept.run_getObj_map hb, K.check w _ hkey, h1, Result.andThen]
  unfold Oper.wp
  simp [execOp, hop, hm, hx, hrun, Result.andThen]
  exact hK' _ _ hK
/-- A store at a new key. -/
theorem wpList_mapUpdate_mp {P : Program} {w : World} {ops : Array Oper} {rest : List Oper} {o : Oper} {a : Act} {Q : Exit → Act → World → Prop}
    (hg : o.guard = none) (m x v : Operand) (t : TypeId) (hop : o.op = Op.mapUpdate t m x v)
    (k e : TypeId) (K : Keyed P k) (ht : P.underlying t = some (.map k e)) (b : Nat) (l : List (Value × Value)) (hm : a.eval m = .map (some b)) (H : Mp w b l)
    (hk : ∀ p ∈ l, ∃ q, keyOf P k p.1 = some q) (key val : Value) (lx : Lit) (hx : a.eval x = key) (hv : a.eval v = val) (hkey : keyOf P k key = some lx) (hno : ∀ p ∈ l, p.1 ≠ key)
    (hK : ∀ w', Mp w' b (l ++ [(key, val)]) → w.grownBy w' (some b) → wpList P ops Q rest (a.put o.dst undef) w') : wpList P ops Q (o :: rest) a w := by
  refine wpList_plain hg fun K' hK' => ?_
  obtain ⟨es, clock, hb, hl⟩ := H
  have hrun : (Instr.mapUpdate t (.map (some b)) key val).run P w = .ok () (setBlock w b (.map (es.push ⟨key, val, clock⟩) (clock + 1))) := by
    rcases Mp.find (w := w) K hl hk hkey with ⟨h1, h2⟩ | ⟨j, v, h1, h2⟩
    · simp [Instr.mapUpdate, run_underlying ht, MapKept.run_getObj_map hb, K.check w false hkey, h1, MapKept.run_setObj_map _ hb, Result.andThen, setBlock]
    · exact absurd rfl (hno _ (List.mem_of_getElem? h2))
  unfold Oper.wp
  simp [execOp, hop, hm, hx, hv, hrun, Result.andThen]
  exact hK' _ _ (hK _ ⟨_, _, heap_setBlock_same hb _, by simp [hl]⟩ ⟨rfl, rfl, rfl, by simp [setBlock], fun i _ hi => heap_setBlock_other hb _ (fun e => hi (by rw [e]))⟩)
/-- Keys of two texts: count's sides. -/
def kv (b : T3) : Value := .agg #[.string b.f, .string b.t]
theorem keyOf_two {P : Program} {k s : TypeId} {f g : Field} (hs : P.underlying s = some .string) (hk : P.underlying k = some (.struct #[f, g])) (hkt : P.keyType k = true) (hc : P.cellsOf k = 2) (hcs : P.cellsOf s = 1)
    (hf : (f.name != "_" && g.name != "_" && f.type == s && g.type == s && f.offset == 0 && g.offset == 1) = true) (hn : (P.types.size == 0) = false) {x y : ByteArray} (hx : x.size ≤ maxLen) (hy : y.size ≤ maxLen) : ∃ q, keyOf P k (.agg #[.string x, .string y]) = some q := by
  obtain ⟨m, hm⟩ : ∃ m, P.types.size = m + 1 := Nat.exists_eq_succ_of_ne_zero (by simpa using hn)
  simp only [Bool.and_eq_true, beq_iff_eq, bne_iff_ne, ne_eq] at hf
  obtain ⟨⟨⟨⟨⟨f1, f2⟩, f3⟩, f4⟩, f5⟩, f6⟩ := hf
  simp [keyOf, hk, hkt, hc, Value.formed, Value.cells, hm, Program.keyLits, hs, f1, f2, f3, f4, f5, f6, hcs, hx, hy]
end Go.Proofs.YtmpoihejacklnaaDoor
/- slices.SortFunc at rows that the call owns, by a comparison that is a whole weak order: a sorted rearrangement. No condition. -/
namespace Go.Proofs.YtmpoihejacklnaaDoor
open Go Go.RowKit Go.Shelf
open Go.Sort (SWO HoldsK PermIn SortedIn flatK grow)
theorem flatK_list {α : Type} [Inhabited α] (E : Enc α) (xs : List α) (t : Nat) (ht : t < xs.length * E.k) : (flatK E.e E.k xs.toArray)[t]! = (xs.flatMap E.e)[t]! := by
  have hk : 0 < E.k := by rcases Nat.eq_zero_or_pos E.k with h | h; · rw [h] at ht; simp at ht
                          · exact h
  rw [Go.Sort.get_flatK _ _ _ _ (by simpa using ht)]
  have hq : t / E.k < xs.length := Nat.div_lt_of_lt_mul (by rw [Nat.mul_comm]; exact ht)
  have hr : t % E.k < (E.e xs[t / E.k]).length := by rw [E.len]; exact Nat.mod_lt _ hk
  have h1 := flat_get E xs (t / E.k) _ (t % E.k) _ (List.getElem?_eq_getElem hq) (List.getElem?_eq_getElem hr)
  have hjj : t / E.k * E.k + t % E.k = t := by rw [Nat.mul_comm]; exact Nat.div_add_mod t E.k
  rw [hjj] at h1
  rw [getElem!_pos xs.toArray _ (by simpa using hq)]
  simp only [List.getElem_toArray]
  rw [getElem!_pos (E.e xs[t / E.k]) (t % E.k) hr]
  obtain ⟨h2, h3⟩ := List.getElem?_eq_some_iff.1 h1
  rw [getElem!_pos (xs.flatMap E.e) t h2, h3]
theorem own_holds {α : Type} [Inhabited α] {E : Enc α} {base : Nat} {e : TypeId} {w : World} {g cap : Nat} {xs : List α} (H : Own E base e w (.slice (some ⟨g, 0, none⟩) xs.length cap) xs) : HoldsK E.e E.k w g 0 xs.toArray := by
  intro j hj
  have hj' : j < xs.length * E.k := by simpa using hj
  have hfl : (xs.flatMap E.e).length = xs.length * E.k := H.1
  have h1 := World.ownsRow.cellAt H j hj'
  rw [Nat.zero_add, h1]
  refine ⟨?_, World.ownsRow.frozenAt H j⟩
  rw [flatK_list E xs j hj', List.getElem?_eq_getElem (by omega), getElem!_pos _ _ (by omega)]
  rfl
theorem sorted_grown {α : Type} [Inhabited α] (E : Enc α) (w : World) (g n : Nat) (d : Array α) (os : Array Obj) : w.grownBy (sortWorldK E.e E.k w g 0 n d os) (some g) := by
  refine ⟨rfl, rfl, rfl, ?_, fun k hk hne => ?_⟩
  · simp [sortWorldK, grow, Go.Sort.putRowK, Go.Sort.ahead]
  · have hgk : k ≠ g := fun e => hne (by rw [e])
    have h1 : k < (Go.Sort.putRowK E.e E.k (Go.Sort.ahead w n) g 0 d).heap.size := by simpa [Go.Sort.putRowK, Go.Sort.ahead] using hk
    show ((Go.Sort.putRowK E.e E.k (Go.Sort.ahead w n) g 0 d).heap ++ os)[k]? = _
    rw [Array.getElem?_append, if_pos h1]
    simp [Go.Sort.putRowK, Go.Sort.putRow, Go.Sort.mapBlock, Array.getElem?_modify, Go.Sort.ahead, Ne.symm hgk]
theorem sort_c {P : Program} {ρ : Ren} {α : Type} [Inhabited α] {E : Enc α} {base : Nat} {e : TypeId} (L : SlLaysF0.n6 P ρ) (aE : ∀ w, (isAgg (ρ.t 24)).run P w = .ok true w) (zE : ∀ w, (Go.sizeOf (ρ.t 24)).run P w = .ok E.k w)
    (cf : α → α → Int) (hO : SWO (ltOf cf)) (F : Nat) (eg : ∀ args w, (callFunc F args).run P w = .ok (.enter F args) w) (hcmp : ∀ x y W, Calls P F #[.agg (E.e x).toArray, .agg (E.e y).toArray] W (RetG W (.int .i64 (cf x y))))
    (w : World) (v : Value) (xs : List α) (hown : Own E base e w v xs) (hm : xs.length < 4611686018427387904) :
    Calls P (ρ.f 6) #[v, .func (.func F) #[] #[]] w fun e' w' => e' = .returned (.tuple #[]) ∧ ∃ ys, ys.Perm xs ∧ ys.Pairwise (fun x y => ltOf cf y x = false) ∧ SlV E w' v ys ∧ w.grownBy w' v.ownBlock := by
  have hh := hown
  rcases hown.2 with ⟨rfl, h0⟩ | ⟨g, cap, cur, rfl, hb, hg, h1, h2, _⟩
  · obtain rfl : xs = [] := List.eq_nil_of_length_eq_zero h0
    refine (AnyF.slices_SortFunc_none L none 0 _ w).mono ?_
    rintro e' w' ⟨rfl, rfl⟩
    exact ⟨rfl, [], List.Perm.refl _, List.Pairwise.nil, SlV.nil, ⟨rfl, rfl, rfl, Nat.le_refl _, fun _ _ _ => rfl⟩⟩
  · have hlt : g < w.heap.size := (Array.getElem?_eq_some_iff.1 hg).1
    refine (AnyQ.slices_SortFunc L E.k aE zE E.e E.len E.one cf hO F #[] g 0 cap xs.toArray w eg (fun m os dk _ x y => ?_) (own_holds hh) hlt (by simpa using hm)).mono ?_
    · refine (hcmp x y _).mono ?_
      rintro e' w' ⟨h1, h2⟩
      exact ⟨h1, h2⟩
    · rintro e' w' ⟨rfl, d', n, os, hp, hs, rfl⟩
      have hps : d'.size = xs.length := by simpa using hp.1
      refine ⟨rfl, d'.toList, ?_, ?_, ?_, sorted_grown E w g n d' os⟩
      · have h3 := hp.2.2
        rwa [Array.extract_eq_self_of_le (by rw [hp.1]; exact Nat.le_refl _), Array.extract_eq_self_of_le (Nat.le_refl _)] at h3
      · rw [List.pairwise_iff_getElem]
        intro i j hi hj hij
        have h4 := hs i j (Nat.zero_le _) hij (by simpa [hps] using hj)
        rw [getElem!_pos d' j (by simpa using hj), getElem!_pos d' i (by simpa using hi)] at h4
        simpa using h4
      · refine ⟨_, cap, by simp [hps], by simpa [hps] using h1, by simpa [maxLen] using h2, fun j x hx => ⟨g, 0, rfl, ?_, fun i u hu => ?_⟩⟩
        · exact Nat.lt_of_lt_of_le hlt (sorted_grown E w g n d' os).size
        · have hH := holdsK_sortWorldK E.e E.k w g 0 n xs.toArray d' os hlt (own_holds hh) (by simpa using hp.1)
          have hj : j < d'.toList.length := (List.getElem?_eq_some_iff.1 hx).1
          have hi : i < E.k := by rw [← E.len x]; exact (List.getElem?_eq_some_iff.1 hu).1
          have hji : j * E.k + i < d'.toList.length * E.k := by
            have : (j + 1) * E.k ≤ d'.toList.length * E.k := Nat.mul_le_mul_right _ hj
            rw [Nat.add_mul, Nat.one_mul] at this; omega
          have h5 := (hH (j * E.k + i) (by simpa using hji)).1
          have h6 := flat_get E d'.toList j x i u hx hu
          obtain ⟨h7, h8⟩ := List.getElem?_eq_some_iff.1 h6
          have h9 := flatK_list E d'.toList (j * E.k + i) hji
          simp only [Array.toArray_toList] at h9
          rw [h9, getElem!_pos (d'.toList.flatMap E.e) _ h7, h8] at h5
          rw [Nat.zero_add] at h5 ⊢
          exact h5
end Go.Proofs.YtmpoihejacklnaaDoor
/- The order of blocks and rules is whole: plain. No condition. -/
namespace Go.Proofs.YtmpoihejacklnaaDoor
open Go Go.RowKit
theorem bl_eq : ∀ (x y : List UInt8), Op.bytesLess x y = decide (x < y)
  | [], [] => by simp [Op.bytesLess]
  | _ :: _, [] => by simp [Op.bytesLess]
  | [], _ :: _ => by simp [Op.bytesLess]
  | x :: xs, y :: ys => by
    simp only [Op.bytesLess, bl_eq xs ys, List.cons_lt_cons_iff]
    by_cases h : x < y <;> by_cases h2 : x = y <;> simp [h, h2]
/-- Of texts, which comes first. -/
def lts (a b : ByteArray) : Bool := Op.bytesLess a.toList b.toList
theorem lts_iff (a b : ByteArray) : lts a b = true ↔ a.toList < b.toList := by unfold lts; rw [bl_eq]; simp
theorem lts_irrefl (a : ByteArray) : lts a a = false := by
  cases h : lts a a
  · rfl
  · exact absurd ((lts_iff a a).1 h) (List.lt_irrefl _)
theorem lts_trans {a b c : ByteArray} (h : lts a b = true) (k : lts b c = true) : lts a c = true := (lts_iff a c).2 (List.lt_trans ((lts_iff a b).1 h) ((lts_iff b c).1 k))
theorem ba_ext {a b : ByteArray} (h : a.toList = b.toList) : a = b := by
  rw [ByteArray.toList_eq, ByteArray.toList_eq] at h
  cases a; cases b
  simpa using h
theorem lts_tri {a b : ByteArray} (h : lts a b = false) (k : lts b a = false) : a = b := by
  have h1 : ¬ a.toList < b.toList := fun e => by rw [(lts_iff a b).2 e] at h; cases h
  have h2 : ¬ b.toList < a.toList := fun e => by rw [(lts_iff b a).2 e] at k; cases k
  exact ba_ext (List.le_antisymm h2 h1)
theorem ltT_two (a b : T3) : ltT a b = (lts a.f b.f || (decide (a.f = b.f) && lts a.t b.t)) := by
  unfold ltT cmpT cmpS lts
  have e : (a.f.toList == b.f.toList) = decide (a.f = b.f) := by
    by_cases h : a.f = b.f
    · simp [h]
    · simp only [h, decide_false, beq_eq_false_iff_ne, ne_eq]; exact fun e => h (ba_ext e)
  rw [← e]
  cases h1 : Op.bytesLess a.f.toList b.f.toList <;> cases h2 : a.f.toList == b.f.toList <;> cases h3 : Op.bytesLess a.t.toList b.t.toList <;> cases h4 : a.t.toList == b.t.toList <;> simp [orL]
theorem ltT_irrefl (a : T3) : ltT a a = false := by rw [ltT_two]; simp [lts_irrefl]
theorem ltT_trans {a b c : T3} (h : ltT a b = true) (k : ltT b c = true) : ltT a c = true := by
  rw [ltT_two] at *
  simp only [Bool.or_eq_true, Bool.and_eq_true, decide_eq_true_eq] at *
  rcases h with h | ⟨h, h'⟩ <;> rcases k with k | ⟨k, k'⟩
  · exact .inl (lts_trans h k)
  · rw [← k]; exact .inl h
  · rw [h]; exact .inl k
  · exact .inr ⟨h.trans k, lts_trans h' k'⟩
theorem ltT_tri {a b : T3} (h : ltT a b = false) (k : ltT b a = false) : a.f = b.f ∧ a.t = b.t := by
  rw [ltT_two] at *
  simp only [Bool.or_eq_false_iff, Bool.and_eq_false_iff, decide_eq_false_iff_not] at *
  have e := lts_tri h.1 k.1
  refine ⟨e, ?_⟩
  rcases h.2 with h2 | h2
  · exact absurd e h2
  · rcases k.2 with k2 | k2
    · exact absurd e.symm k2
    · exact lts_tri h2 k2
theorem ltT_asymm {a b : T3} (h : ltT a b = true) : ltT b a = false := by
  cases k : ltT b a
  · rfl
  · have := ltT_trans h k
    rw [ltT_irrefl] at this; cases this
theorem ltT_same {a b a' b' : T3} (h1 : a.f = a'.f) (h2 : a.t = a'.t) (h3 : b.f = b'.f) (h4 : b.t = b'.t) : ltT a b = ltT a' b' := by rw [ltT_two, ltT_two, h1, h2, h3, h4]
theorem swoT : Go.Sort.SWO ltT where
  irrefl := ltT_irrefl
  trans := fun _ _ _ h k => ltT_trans h k
  ntrans := fun x y z h k => by
    cases e : ltT x z
    · rfl
    · cases hyx : ltT y x
      · have e2 := ltT_tri h hyx
        rw [ltT_same e2.1 e2.2 rfl rfl, k] at e
        cases e
      · have e3 := ltT_trans hyx e
        rw [k] at e3; cases e3
end Go.Proofs.YtmpoihejacklnaaDoor
