/- errataref05.rows: the rows of steps that are no matches. No condition. -/
import Derived.Test.YtpnhmapkdbnkmaaDoorR4r
import Derived.Test.YtpnhmapkdbnkmaaDoorFil
import Derived.Test.YtpnhmapkdbnkmaaDoorR4s
namespace Go.Proofs.YtpnhmapkdbnkmaaDoor
open Go Go.RowKit
/-- A slice's words. -/
abbrev Sl3 := Option Addr × Nat × Nat
def vSl (x : Sl3) : Value := .slice x.1 x.2.1 x.2.2
def eSlc : Enc Sl3 := ⟨1, fun x => [vSl x], fun _ => rfl, fun x v hv => by simp at hv; subst hv; rfl⟩
/-- Rows of steps, each in a block of its own. -/
structure RowsI (base : Nat) (w : World) (vs : List Sl3) (R : List (List St)) : Prop where
  len : vs.length = R.length
  own : ∀ (i : Nat) (x : Sl3) (r : List St), vs[i]? = some x → R[i]? = some r → Own eSt base 136 w (vSl x) r
  apart : ∀ (i j : Nat) (x y : Sl3), i ≠ j → vs[i]? = some x → vs[j]? = some y → ApartV (vSl x) (vSl y)
theorem RowsI.nil (base : Nat) (w : World) : RowsI base w [] [] := ⟨rfl, fun i x r h => by simp at h, fun i j x y _ h => by simp at h⟩
theorem RowsI.move {base : Nat} {w w' : World} {vs : List Sl3} {R : List (List St)} (h : RowsI base w vs R) (hk : ∀ x r, x ∈ vs → Own eSt base 136 w (vSl x) r → Own eSt base 136 w' (vSl x) r) : RowsI base w' vs R :=
  ⟨h.len, fun i x r hx hr => hk x r (List.mem_of_getElem? hx) (h.own i x r hx hr), h.apart⟩
theorem RowsI.below {base : Nat} {w w' : World} {vs : List Sl3} {R : List (List St)} (h : RowsI base w vs R) (hb : Below w.heap.size w w') : RowsI base w' vs R := h.move fun _ _ _ h => h.below hb
theorem ApartV.of_none {v : Value} (u : Value) (h : v.ownBlock = Option.none) : ApartV u v := fun g _ e => by rw [h] at e; cases e
theorem RowsI.push {base : Nat} {w : World} {vs : List Sl3} {R : List (List St)} (h : RowsI base w vs R) : RowsI base w (vs ++ [(none, 0, 0)]) (R ++ [[]]) := by
  have hl := h.len
  refine ⟨by simp [hl], fun i x r hx hr => ?_, fun i j x y hij hx hy => ?_⟩
  · rcases Nat.lt_or_ge i vs.length with hi | hi
    · rw [List.getElem?_append_left hi] at hx
      rw [List.getElem?_append_left (by omega)] at hr
      exact h.own i x r hx hr
    · rw [List.getElem?_append_right hi] at hx
      rw [List.getElem?_append_right (by omega)] at hr
      have e : i - vs.length = 0 := by
        have := (List.getElem?_eq_some_iff.1 hx).1
        simp at this; omega
      rw [e] at hx
      rw [show i - R.length = 0 by omega] at hr
      simp at hx hr
      subst hx
      subst hr
      exact Own.nil _
  · rcases Nat.lt_or_ge i vs.length with hi | hi
    · rcases Nat.lt_or_ge j vs.length with hj | hj
      · rw [List.getElem?_append_left hi] at hx
        rw [List.getElem?_append_left hj] at hy
        exact h.apart i j x y hij hx hy
      · rw [List.getElem?_append_right hj] at hy
        have e : j - vs.length = 0 := by
          have := (List.getElem?_eq_some_iff.1 hy).1
          simp at this; omega
        rw [e] at hy
        simp at hy
        subst hy
        exact ApartV.of_none _ rfl
    · rw [List.getElem?_append_right hi] at hx
      have e : i - vs.length = 0 := by
        have := (List.getElem?_eq_some_iff.1 hx).1
        simp at this; omega
      rw [e] at hx
      simp at hx
      subst hx
      exact ApartV.none _
theorem RowsI.put {base : Nat} {w w' : World} {vs : List Sl3} {R : List (List St)} (h : RowsI base w vs R) (m : Nat) (x y : Sl3) (z' : List St) (hx : vs[m]? = some x) (hy : Own eSt base 136 w' (vSl y) z') (hg : w.grownBy w' (vSl x).ownBlock) (hm : Moved w (vSl x) (vSl y)) : RowsI base w' (vs.set m y) (R.set m z') := by
  have hl := h.len
  have hml := (List.getElem?_eq_some_iff.1 hx).1
  have key : ∀ (i : Nat) (u : Sl3), i ≠ m → vs[i]? = some u → (∀ r, R[i]? = some r → Own eSt base 136 w' (vSl u) r) ∧ ApartV (vSl u) (vSl y) := fun i u hi hu => by
    have hil := (List.getElem?_eq_some_iff.1 hu).1
    have hr : R[i]? = some R[i] := List.getElem?_eq_getElem (by omega)
    obtain ⟨k1, k2⟩ := keepO (h.own i u _ hu hr) (h.apart i m u x hi hu hx) hg hm
    exact ⟨fun r hr' => by rw [hr] at hr'; injection hr' with e; rw [← e]; exact k1, k2⟩
  refine ⟨by simp [hl], fun i u r hu hr => ?_, fun i j u v hij hu hv => ?_⟩
  · by_cases e : i = m
    · subst e
      rw [List.getElem?_set_self hml] at hu
      rw [List.getElem?_set_self (by omega)] at hr
      injection hu with hu
      injection hr with hr
      rw [← hu, ← hr]
      exact hy
    · rw [List.getElem?_set_ne (by omega)] at hu hr
      exact (key i u e hu).1 r hr
  · by_cases e : i = m
    · subst e
      rw [List.getElem?_set_self hml] at hu
      rw [List.getElem?_set_ne hij] at hv
      injection hu with hu
      rw [← hu]
      exact (key j v (Ne.symm hij) hv).2.symm
    · rw [List.getElem?_set_ne (by omega)] at hu
      by_cases e2 : j = m
      · subst e2
        rw [List.getElem?_set_self hml] at hv
        injection hv with hv
        rw [← hv]
        exact (key i u e hu).2
      · rw [List.getElem?_set_ne (by omega)] at hv
        exact h.apart i j u v hij hu hv
theorem info_rowStep : (Tryd.prog.info? 70).map (fun i => (i.zero, i.size, i.bytes)) = some (some (.slice none 0 0), 1, 24) := by kernel_rfl
theorem rowsL_snoc0 {l : List St} {s : St} (h : s.k = 0) : rowsL (l ++ [s]) = rowsL l := by
  unfold rowsL
  rw [rowsS_snoc]
  unfold rowAdd
  rw [if_pos h]
theorem rowsL_snoc1 {l : List St} {s : St} (h : s.k ≠ 0) (hf : (rowsS l).2 = true) : rowsL (l ++ [s]) = rowsL l ++ [[s]] := by
  unfold rowsL
  rw [rowsS_snoc]
  unfold rowAdd
  rw [if_neg h, if_pos hf]
theorem rowsL_snoc2 {l : List St} {s : St} {m : Nat} {z : List St} (h : s.k ≠ 0) (hf : (rowsS l).2 = false) (hm : m + 1 = (rowsL l).length) (hz : (rowsL l)[m]? = some z) : rowsL (l ++ [s]) = (rowsL l).set m (z ++ [s]) := by
  have hlast : (rowsL l).getLast?.getD [] = z := by
    rw [List.getLast?_eq_getElem?, ← hm, Nat.add_sub_cancel, hz]; rfl
  unfold rowsL at *
  rw [rowsS_snoc]
  unfold rowAdd
  rw [if_neg h, if_neg (by simp [hf])]
  simp only
  rw [hlast]
  refine List.ext_getElem? fun p => ?_
  rcases Nat.lt_or_ge p m with hp | hp
  · rw [List.getElem?_append_left (by simp; omega), List.getElem?_dropLast, if_pos (by omega), List.getElem?_set_ne (by omega)]
  · rcases Nat.lt_or_ge m p with hp2 | hp2
    · rw [List.getElem?_eq_none (by simp; omega), List.getElem?_eq_none (by simp; omega)]
    · obtain rfl : p = m := by omega
      rw [List.getElem?_append_right (by simp; omega), List.getElem?_set_self (by omega)]
      simp [← hm]
theorem rowsS_at {l : List St} {k : Nat} (hk : k ≤ l.length) : (rowsS (l.take k)).2 = if h : 0 < k then decide ((l[k - 1]'(by omega)).k = 0) else true := by
  by_cases h : 0 < k
  · rw [dif_pos h]
    obtain ⟨k, rfl⟩ : ∃ k', k = k' + 1 := ⟨k - 1, by omega⟩
    rw [List.take_succ_eq_append_getElem (by omega), rowsS_flag]
    rfl
  · rw [dif_neg h]
    obtain rfl : k = 0 := by omega
    rfl
def R5Post (w : World) (l : List St) (e : Ending) (w' : World) : Prop :=
  ∃ A c vs, e = .returned (.slice A (rowsL l).length c) ∧ SlA eSlc w' A vs ∧ vs.length = (rowsL l).length ∧ (∀ (i : Nat) (x : Sl3) (r : List St), vs[i]? = some x → (rowsL l)[i]? = some r → x.2.1 = r.length ∧ SlA eSt w' x.1 r) ∧ Below w.heap.size w w'
end Go.Proofs.YtpnhmapkdbnkmaaDoor
