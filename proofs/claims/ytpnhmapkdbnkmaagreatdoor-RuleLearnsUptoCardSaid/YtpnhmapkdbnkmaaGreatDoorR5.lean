/- errataref05.rows: the rows of steps that are no matches. No condition. -/
import Derived.Test.YtpnhmapkdbnkmaaGreatDoorR4r
import Derived.Test.YtpnhmapkdbnkmaaGreatDoorFil
import Derived.Test.YtpnhmapkdbnkmaaGreatDoorR4s
namespace Go.Proofs.YtpnhmapkdbnkmaaGreatDoor
open Go Go.RowKit
/-- A slice's words. -/
abbrev Sl3 := Option Addr × Nat × Nat
def vSl (x : Sl3) : Value := .slice x.1 x.2.1 x.2.2
def eSlc : Enc Sl3 := ⟨1, fun x => [vSl x], fun _ => rfl, fun x v hv => by simp at hv; subst hv; rfl⟩
/-- Rows of steps, each in a block of its own. -/
structure RowsI (base : Nat) (w : World) (vs : List Sl3) (R : List (List St)) : Prop where
  len : vs.length = R.length
  own : ∀ (i : Nat) (x : Sl3) (r : List St), vs[i]? = some x → R[i]? = some r → Own eSt base 265 w (vSl x) r
  apart : ∀ (i j : Nat) (x y : Sl3), i ≠ j → vs[i]? = some x → vs[j]? = some y → ApartV (vSl x) (vSl y)
theorem RowsI.nil (base : Nat) (w : World) : RowsI base w [] [] := ⟨rfl, fun i x r h => by simp at h, fun i j x y _ h => by simp at h⟩
theorem RowsI.move {base : Nat} {w w' : World} {vs : List Sl3} {R : List (List St)} (h : RowsI base w vs R) (hk : ∀ x r, x ∈ vs → Own eSt base 265 w (vSl x) r → Own eSt base 265 w' (vSl x) r) : RowsI base w' vs R :=
  ⟨h.len, fun i x r hx hr => hk x r (List.mem_of_getElem? hx) (h.own i x r hx hr), h.apart⟩
theorem RowsI.below {base : Nat} {w w' : World} {vs : List Sl3} {R : List (List St)} (h : RowsI base w vs R) (hb : Below w.heap.size w w') : RowsI base w' vs R := h.move fun _ _ _ h => h.below hb
theorem ApartV.of_none {v : Value} (u : Value) (h : v.ownBlock = Option.none) : ApartV u v := fun g _ e => by rw [h] at e; cases e
theorem RowsI.push {base : Nat} {w : World} {vs : List Sl3} {R : List (List St)} (h : RowsI base w vs R) : RowsI base w (vs ++ [(none, 0, 0)]) (R ++ [[]]) := by
  have hl := h.len
  refine ⟨by simp [hl], fun i x r hx hr => ?_, fun i j x y hij hx hy => ?_⟩
  · rcases Nat.lt_or_ge i vs.length with hi | hi
    · rw [List.getElem?_append_left hi] at hx
      rw [List.getElem?_append_left (by omega)] at hr
      exact h.own i x r hx hr
    · rw [List.getElem?_append_right hi] at hx
      rw [List.getElem?_append_right (by omega)] at hr
      have e : i - vs.length = 0 := by
        have := (List.getElem?_eq_some_iff.1 hx).1
        simp at this; omega
      rw [e] at hx
      rw [show i - R.length = 0 by omega] at hr
      simp at hx hr
      subst hx
      subst hr
      exact Own.nil _
  · rcases Nat.lt_or_ge i vs.length with hi | hi
    · rcases Nat.lt_or_ge j vs.length with hj | hj
      · rw [List.getElem?_append_left hi] at hx
        rw [List.getElem?_append_left hj] at hy
        exact h.apart i j x y hij hx hy
      · rw [List.getElem?_append_right hj] at hy
        have e : j - vs.length = 0 := by
          have := (List.getElem?_eq_some_iff.1 hy).1
          simp at this; omega
        rw [e] at hy
        simp at hy
        subst hy
        exact ApartV.of_none _ rfl
    · rw [List.getElem?_append_right hi] at hx
      have e : i - vs.length = 0 := by
        have := (List.getElem?_eq_some_iff.1 hx).1
        simp at this; omega
      rw [e] at hx
      simp at hx
      subst hx
      exact ApartV.none _
theorem RowsI.put {base : Nat} {w w' : World} {vs : List Sl3} {R : List (List St)} (h : RowsI base w vs R) (m : Nat) (x y : Sl3) (z' : List St) (hx : vs[m]? = some x) (hy : Own eSt base 265 w' (vSl y) z') (hg : w.grownBy w' (vSl x).ownBlock) (hm : Moved w (vSl x) (vSl y)) : RowsI base w' (vs.set m y) (R.set m z') := by
  have hl := h.len
  have hml := (List.getElem?_eq_some_iff.1 hx).1
  have key : ∀ (i : Nat) (u : Sl3), i ≠ m → vs[i]? = some u → (∀ r, R[i]? = some r → Own eSt base 265 w' (vSl u) r) ∧ ApartV (vSl u) (vSl y) := fun i u hi hu => by
    have hil := (List.getElem?_eq_some_iff.1 hu).1
    have hr : R[i]? = some R[i] := List.getElem?_eq_getElem (by omega)
    obtain ⟨k1, k2⟩ := keepO (h.own i u _ hu hr) (h.apart i m u x hi hu hx) hg hm
    exact ⟨fun r hr' => by rw [hr] at hr'; injection hr' with e; rw [← e]; exact k1, k2⟩
  refine ⟨by simp [hl], fun i u r hu hr => ?_, fun i j u v hij hu hv => ?_⟩
  · by_cases e : i = m
    · subst e
      rw [List.getElem?_set_self hml] at hu
      rw [List.getElem?_set_self (by omega)] at hr
      injection hu with hu
      injection hr with hr
      rw [← hu, ← hr]
      exact hy
    · rw [List.getElem?_set_ne (by omega)] at hu hr
      exact (key i u e hu).1 r hr
  · by_cases e : i = m
    · subst e
      rw [List.getElem?_set_self hml] at hu
      rw [List.getElem?_set_ne hij] at hv
      injection hu with hu
      rw [← hu]
      exact (key j v (Ne.symm hij) hv).2.symm
    · rw [List.getElem?_set_ne (by omega)] at hu
      by_cases e2 : j = m
      · subst e2
        rw [List.getElem?_set_self hml] at hv
        injection hv with hv
        rw [← hv]
        exact (key i u e hu).2
      · rw [List.getElem?_set_ne (by omega)] at hv
        exact h.apart i j u v hij hu hv
theorem info_rowStep : (Tryz.prog.info? 185).map (fun i => (i.zero, i.size, i.bytes)) = some (some (.slice none 0 0), 1, 24) := by kernel_rfl
theorem rowsL_snoc0 {l : List St} {s : St} (h : s.k = 0) : rowsL (l ++ [s]) = rowsL l := by
  unfold rowsL
  rw [rowsS_snoc]
  unfold rowAdd
  rw [if_pos h]
theorem rowsL_snoc1 {l : List St} {s : St} (h : s.k ≠ 0) (hf : (rowsS l).2 = true) : rowsL (l ++ [s]) = rowsL l ++ [[s]] := by
  unfold rowsL
  rw [rowsS_snoc]
  unfold rowAdd
  rw [if_neg h, if_pos hf]
theorem rowsL_snoc2 {l : List St} {s : St} {m : Nat} {z : List St} (h : s.k ≠ 0) (hf : (rowsS l).2 = false) (hm : m + 1 = (rowsL l).length) (hz : (rowsL l)[m]? = some z) : rowsL (l ++ [s]) = (rowsL l).set m (z ++ [s]) := by
  have hlast : (rowsL l).getLast?.getD [] = z := by
    rw [List.getLast?_eq_getElem?, ← hm, Nat.add_sub_cancel, hz]; rfl
  unfold rowsL at *
  rw [rowsS_snoc]
  unfold rowAdd
  rw [if_neg h, if_neg (by simp [hf])]
  simp only
  rw [hlast]
  refine List.ext_getElem? fun p => ?_
  rcases Nat.lt_or_ge p m with hp | hp
  · rw [List.getElem?_append_left (by simp; omega), List.getElem?_dropLast, if_pos (by omega), List.getElem?_set_ne (by omega)]
  · rcases Nat.lt_or_ge m p with hp2 | hp2
    · rw [List.getElem?_eq_none (by simp; omega), List.getElem?_eq_none (by simp; omega)]
    · obtain rfl : p = m := by omega
      rw [List.getElem?_append_right (by simp; omega), List.getElem?_set_self (by omega)]
      simp [← hm]
theorem rowsS_at {l : List St} {k : Nat} (hk : k ≤ l.length) : (rowsS (l.take k)).2 = if h : 0 < k then decide ((l[k - 1]'(by omega)).k = 0) else true := by
  by_cases h : 0 < k
  · rw [dif_pos h]
    obtain ⟨k, rfl⟩ : ∃ k', k = k' + 1 := ⟨k - 1, by omega⟩
    rw [List.take_succ_eq_append_getElem (by omega), rowsS_flag]
    rfl
  · rw [dif_neg h]
    obtain rfl : k = 0 := by omega
    rfl
def R5Post (w : World) (l : List St) (e : Ending) (w' : World) : Prop :=
  ∃ A c vs, e = .returned (.slice A (rowsL l).length c) ∧ SlA eSlc w' A vs ∧ vs.length = (rowsL l).length ∧ (∀ (i : Nat) (x : Sl3) (r : List St), vs[i]? = some x → (rowsL l)[i]? = some r → x.2.1 = r.length ∧ SlA eSt w' x.1 r) ∧ Below w.heap.size w w'
set_option maxRecDepth 100000 in
set_option maxHeartbeats 4000000 in
theorem r5rows_c (A : Option Addr) (c : Nat) (l : List St) (w : World) (hs : SlA eSt w A l) (hl : l.length ≤ 1048576) :
    Calls Tryz.prog 167 #[.slice A l.length c] w (R5Post w l) := by
  go_enter Tryz.func167, Tryz.ntmps167
  go_wp2
  go_loopw [3, 9] (fun so sk wr => ∃ (k : Nat) (vs : List Sl3), sk = .int .i64 k ∧ k ≤ l.length ∧ Own eSlc w.heap.size 185 wr so vs ∧ Hid (RowsI w.heap.size wr vs (rowsL (l.take k))) ∧ Below w.heap.size w wr) (fun _ sk _ => l.length - (intOf sk).toNat)
  case atStart => exact ⟨0, [], rfl, by omega, Own.nil _, RowsI.nil _ _, Bel⟩
  case round =>
    obtain ⟨k, vs, rfl, hk, HO, HR, hb⟩ := hrel
    rename World => wo
    by_cases hlt : k < l.length
    · obtain ⟨b, o, rfl, _, p1, p2, p3⟩ := hs.n3 (fun _ => rfl) hb k hlt
      have hlt' : (k : Int) < l.length := by omega
      have hvl := HR.out.len
      have hrl := (rowsL_ok (l.take k)).2.1
      rw [List.length_take] at hrl
      have hvb : vs.length ≤ k := by omega
      have HVL := Lib.hid hvl
      clear hvl hrl
      have htk := take_snoc hlt
      by_cases h0 : l[k].k = 0
      · have HS := Lib.hid (rowsL_snoc0 (l := l.take k) h0)
        have HTK := Lib.hid htk
        have h0' : ((l[k].k : Int) == 0) = true := by simpa using h0
        rw [h0] at p1
        clear htk h0 h0'
        go_wp2
        exact ⟨⟨k + 1, vs, by go_num, by omega, HO.alloc _, by show RowsI _ _ _ _; rw [HTK.out, HS.out]; exact HR.out.below Bel, Bel⟩, by simp [intOf]; omega⟩
      · have hfl := rowsS_at (l := l) (k := k) (by omega)
        have hw1 : Below wo.heap.size wo (wo.alloc (.cells #[.int .i64 l[k].k, .int .i32 l[k].a, .int .i32 l[k].b] 265)) := Bel
        have bx0 : (wo.alloc (.cells #[.int .i64 l[k].k, .int .i32 l[k].a, .int .i32 l[k].b] 265)).cell? ⟨wo.heap.size, 0, none⟩ = some (.int .i64 l[k].k) := by simp [go_sem]
        have bx1 : (wo.alloc (.cells #[.int .i64 l[k].k, .int .i32 l[k].a, .int .i32 l[k].b] 265)).cell? ⟨wo.heap.size, 1, none⟩ = some (.int .i32 l[k].a) := by simp [go_sem]
        have bx2 : (wo.alloc (.cells #[.int .i64 l[k].k, .int .i32 l[k].a, .int .i32 l[k].b] 265)).cell? ⟨wo.heap.size, 2, none⟩ = some (.int .i32 l[k].b) := by simp [go_sem]
        have hsn1 := fun hf => rowsL_snoc1 (l := l.take k) (s := l[k]) h0 hf
        have hsn2 := fun (m : Nat) (z : List St) hf hm hz => rowsL_snoc2 (l := l.take k) (s := l[k]) (m := m) (z := z) h0 hf hm hz
        rw [← htk] at hsn1 hsn2
        have h0' : ((l[k].k : Int) == 0) = false := by simpa using h0
        obtain ⟨s, hse⟩ : ∃ s, l[k] = s := ⟨_, rfl⟩
        rw [hse] at p1 p2 p3 hw1 bx0 bx1 bx2 hsn1 hsn2 h0'
        clear hse h0 htk
        obtain ⟨kk, aa, bb⟩ := s
        simp only at p1 p2 p3 hw1 bx0 bx1 bx2 hsn1 hsn2 h0'
        rcases Nat.eq_zero_or_pos k with hk0 | hk0
        · rw [dif_neg (by omega)] at hfl
          have hN := hsn1 hfl
          have hkz : ((k : Int) == 0) = true := by simp; omega
          clear hsn1 hsn2 hfl hk0
          have hOa := (HO.alloc (.cells #[.int .i64 kk, .int .i32 aa, .int .i32 bb] 265)).alloc (.cells #[.slice none 0 0] 185)
          have hu3 := HO.put
          go_wp2_with (at_builtin; refine app (E := eSlc) (w0 := w) _ _ 278 185 (.slice none 0 0) 24 rfl rfl Tryz.underlying278 info_rowStep rfl (by decide) (by decide) _ vs [(none, 0, 0)] _ 1 _ rfl rfl rfl hOa (SlA.new eSlc _ [(none, 0, 0)] 185 _ (by simp) _ rfl) Bel (by first | (simp; done) | (simp; omega)) ?_; intro v6 w6 HO1 hbc hg6 hm6; obtain ⟨g, cap, rfl, hgb, hgl, hgc, hgm, _⟩ := HO1.form (by simp); have hl1 : (vs ++ [((none, 0, 0) : Sl3)]).length = vs.length + 1 := (by simp); rw [hl1])
          have hne : some wo.heap.size ≠ u3.ownBlock := fun e => by
            rcases hu3 with h | ⟨gb, h, hlt⟩
            · rw [h] at e; cases e
            · rw [h] at e; injection e with e; omega
          replace bx0 := (hg6.cell_far ⟨wo.heap.size, 0, none⟩ (by simp; omega) hne).trans (bkc (Bal (Below.refl _ _) _) bx0)
          replace bx1 := (hg6.cell_far ⟨wo.heap.size, 1, none⟩ (by simp; omega) hne).trans (bkc (Bal (Below.refl _ _) _) bx1)
          replace bx2 := (hg6.cell_far ⟨wo.heap.size, 2, none⟩ (by simp; omega) hne).trans (bkc (Bal (Below.refl _ _) _) bx2)
          have HR1 : RowsI w.heap.size w6 (vs ++ [(none, 0, 0)]) (rowsL (l.take k) ++ [[]]) := ((HR.out.below (Bal (Bal (Below.refl _ _) (.cells #[.int .i64 kk, .int .i32 aa, .int .i32 bb] 265)) (.cells #[.slice none 0 0] 185))).move fun u r _ hu => hu.kept hg6 (by
            rcases hu.blk with h | ⟨gb, h, _⟩
            · exact .inl h
            · exact .inr (fun e => hu.apart hOa (by decide) h (by rw [h] at e; exact e.symm)))).push
          have HX1 : Own eSt w.heap.size 265 w6 (vSl (none, 0, 0)) [] := Own.nil _
          have hxb : ∀ gb, (vSl (none, 0, 0)).ownBlock = some gb → gb ≠ wo.heap.size := fun gb h => by cases h
          have hxm : (vs ++ [((none, 0, 0) : Sl3)])[vs.length]'(by simp) = (none, 0, 0) := by simp
          have hvm : (vs ++ [((none, 0, 0) : Sl3)])[vs.length]? = some (none, 0, 0) := by simp
          have HNEW : Hid (rowsL (l.take (k + 1)) = (rowsL (l.take k) ++ [[]]).set vs.length ([] ++ [(⟨kk, aa, bb⟩ : St)])) := by
            show _ = _
            rw [hN, HVL.out, List.set_append_right _ _ (Nat.le_refl _), Nat.sub_self]
            rfl
          go_wp2_with fail
          have hgx : ∀ gb, (vSl (none, 0, 0)).ownBlock = some gb → gb ≠ g := fun gb h e => HX1.apart HO1 (by decide) h (by rw [e]; rfl)
          have cO := (HO1.cell1 (f := vSl) (fun _ => rfl) vs.length (by omega)).2.1
          have cF := (HO1.cell1 (f := vSl) (fun _ => rfl) vs.length (by omega)).2.2
          rw [hxm] at cO
          obtain ⟨S, hSe⟩ : ∃ S, S = (vSl (none, 0, 0)).ownBlock.toList := ⟨_, rfl⟩
          have hS : ∀ k, (vSl (none, 0, 0)).ownBlock = some k → k ∈ S := fun k h => by rw [hSe, h]; simp
          have hgS : g ∉ S := fun h => by rw [hSe] at h; exact hgx g (Option.mem_toList.1 h) rfl
          have hBS : wo.heap.size ∉ S := fun h => by rw [hSe] at h; exact hxb _ (Option.mem_toList.1 h) rfl
          have hmW : (vs.length : Int) < ((vs ++ [((none, 0, 0) : Sl3)]).length : Int) := by simp; omega
          have hmW2 : (vs.length : Int) < (vs.length : Int) + 1 := by omega
          refine region_mixS S 9 [(0, true), (1, true), (2, true), (3, true), (4, true), (5, true), (6, true), (7, false), (8, false)] (by kernel_rfl) (by kernel_rfl) ?_
          intro W hW
          have hbW : Below w.heap.size w W := Bst hbc hW
          have xO : ∀ X : LaterS W S, (World.extS W S X).cell? ⟨g, vs.length, none⟩ = some (vSl (none, 0, 0)) := fun X => X.h.cell (bkc hW cO) hgS
          have xb0 : ∀ X : LaterS W S, (World.extS W S X).cell? ⟨wo.heap.size, 0, none⟩ = some (.int .i64 kk) := fun X => X.h.cell (bkc hW bx0) hBS
          have xb1 : ∀ X : LaterS W S, (World.extS W S X).cell? ⟨wo.heap.size, 1, none⟩ = some (.int .i32 aa) := fun X => X.h.cell (bkc hW bx1) hBS
          have xb2 : ∀ X : LaterS W S, (World.extS W S X).cell? ⟨wo.heap.size, 2, none⟩ = some (.int .i32 bb) := fun X => X.h.cell (bkc hW bx2) hBS
          have hXW := HX1.below hW
          have hOW := HO1.below hW
          have hRW := HR1.below hW
          have cW := bkc hW cO
          have hgW : g < W.heap.size := Nat.lt_of_lt_of_le hgl hW.size
          have fW : W.frozen? ⟨g, vs.length, none⟩ = false := by rw [hW.frozen (p := ⟨g, vs.length, none⟩) hgl]; exact cF
          repeat (refine sS_q rfl (fun K hK => ?_); unfold takeS; go_simp; refine hK _ ?_; clear hK K)
          refine sS_t rfl (fun K hK => ?_); go_simp; refine hK _ _ (.of ((Kb.below ((Below.refl _ _).alloc (Nat.le_refl _) _)).weak (by simp))) ?_; clear hK K
          refine sS_t rfl (fun K hK => ?_); rw [if_pos (wanted_free rfl _)]; refine app_op (E := eSt) (w0 := w) _ _ 185 265 (.agg #[.int .i64 0, .int .i32 0, .int .i32 0]) 16 rfl rfl Tryz.underlying185 info_step rfl (by decide) (by decide) (vSl (none, 0, 0)) ([] : List St) [⟨kk, aa, bb⟩] ⟨_, 0, none⟩ 1 1 rfl rfl rfl (hXW.alloc _) (SlA.new eSt _ [⟨kk, aa, bb⟩] _ _ (by simp) _ rfl) (hbW.alloc hbW.size _) (by first | (simp; done) | (simp; omega)) ?_
          intro v5 w5 HO5 hb5 hg5 hmv5
          obtain ⟨g5, cap5, rfl, hgb5, hgl5, _, _, _⟩ := HO5.form (by simp)
          have k5 : Kb W w5 S := ((Kb.below ((Below.refl W.heap.size W).alloc (Nat.le_refl _) _)).trans (Kb.row hg5 hS)).weak (by simp)
          have c5 := k5.cell cW hgS
          have f5 : w5.frozen? ⟨g, vs.length, none⟩ = false := (frozen_kb k5 hgW hgS).trans fW
          refine hK _ _ (.of k5) ?_; clear hK K
          repeat (refine sS_q rfl (fun K hK => ?_); unfold takeS; go_simp; refine hK _ ?_; clear hK K)
          refine sS_nil ?_
          go_wp2
          rw [noP_normal]
          go_wp2
          have hP := RowsI.put (hRW.below (Bal (Below.refl _ _) (.cells #[.int .i64 kk, .int .i32 aa, .int .i32 bb] 265))) vs.length (none, 0, 0) (some ⟨g5, 0, none⟩, (([] : List St) ++ [(⟨kk, aa, bb⟩ : St)]).length, cap5) (([] : List St) ++ [(⟨kk, aa, bb⟩ : St)]) hvm HO5 hg5 hmv5
          have hOo := hOW.kb k5 (by simp [Value.ownBlock]; exact hgS)
          have hput := (hOo.put1 (f := vSl) (fun _ => rfl) rfl vs.length (some ⟨g5, 0, none⟩, (([] : List St) ++ [(⟨kk, aa, bb⟩ : St)]).length, cap5)).1
          refine ⟨⟨k + 1, (vs ++ [((none, 0, 0) : Sl3)]).set vs.length (some ⟨g5, 0, none⟩, (([] : List St) ++ [(⟨kk, aa, bb⟩ : St)]).length, cap5), by go_num, by omega, ?_, ?_, Bsc hb5 (by simp; omega) _⟩, by simp [intOf]; omega⟩
          · first | exact hput | (rw [hl1] at hput; exact hput) | (simpa [vSl] using hput)
          · show RowsI _ _ _ _
            rw [HNEW.out]
            exact hP.move fun u r _ hu => hu.kept (grownBy_cell w5 g vs.length _) (by
              rcases hu.blk with h | ⟨gb, h, _⟩
              · exact .inl h
              · exact .inr (fun e => hu.apart hOo (by decide) h (by rw [h] at e; injection e with e; subst e; rfl)))
        · rw [dif_pos hk0] at hfl
          have hkz : ((k : Int) == 0) = false := by simp; omega
          have hwk : IntKind.i64.wrap ((k : Int) - 1) = ((k - 1 : Nat) : Int) := by rw [IntWalk.i64_in _ (by omega)]; omega
          have hkl : ((k - 1 : Nat) : Int) < l.length := by omega
          obtain ⟨b2, o2, e2, _, q1, _, _⟩ := hs.n3 (fun _ => rfl) hb (k - 1) (by omega)
          injection e2 with e2
          injection e2 with e3 e4
          subst e3
          subst e4
          by_cases hz : l[k - 1].k = 0
          · rw [hz] at q1
            have hN := hsn1 (by rw [hfl]; simpa using hz)
            replace q1 := bkc hw1 q1
            clear hsn1 hsn2 hfl hz
            have hOa := (HO.alloc (.cells #[.int .i64 kk, .int .i32 aa, .int .i32 bb] 265)).alloc (.cells #[.slice none 0 0] 185)
            have hu3 := HO.put
            go_wp2_with (at_builtin; refine app (E := eSlc) (w0 := w) _ _ 278 185 (.slice none 0 0) 24 rfl rfl Tryz.underlying278 info_rowStep rfl (by decide) (by decide) _ vs [(none, 0, 0)] _ 1 _ rfl rfl rfl hOa (SlA.new eSlc _ [(none, 0, 0)] 185 _ (by simp) _ rfl) Bel (by first | (simp; done) | (simp; omega)) ?_; intro v6 w6 HO1 hbc hg6 hm6; obtain ⟨g, cap, rfl, hgb, hgl, hgc, hgm, _⟩ := HO1.form (by simp); have hl1 : (vs ++ [((none, 0, 0) : Sl3)]).length = vs.length + 1 := (by simp); rw [hl1])
            have hne : some wo.heap.size ≠ u3.ownBlock := fun e => by
              rcases hu3 with h | ⟨gb, h, hlt⟩
              · rw [h] at e; cases e
              · rw [h] at e; injection e with e; omega
            replace bx0 := (hg6.cell_far ⟨wo.heap.size, 0, none⟩ (by simp; omega) hne).trans (bkc (Bal (Below.refl _ _) _) bx0)
            replace bx1 := (hg6.cell_far ⟨wo.heap.size, 1, none⟩ (by simp; omega) hne).trans (bkc (Bal (Below.refl _ _) _) bx1)
            replace bx2 := (hg6.cell_far ⟨wo.heap.size, 2, none⟩ (by simp; omega) hne).trans (bkc (Bal (Below.refl _ _) _) bx2)
            have HR1 : RowsI w.heap.size w6 (vs ++ [(none, 0, 0)]) (rowsL (l.take k) ++ [[]]) := ((HR.out.below (Bal (Bal (Below.refl _ _) (.cells #[.int .i64 kk, .int .i32 aa, .int .i32 bb] 265)) (.cells #[.slice none 0 0] 185))).move fun u r _ hu => hu.kept hg6 (by
              rcases hu.blk with h | ⟨gb, h, _⟩
              · exact .inl h
              · exact .inr (fun e => hu.apart hOa (by decide) h (by rw [h] at e; exact e.symm)))).push
            have HX1 : Own eSt w.heap.size 265 w6 (vSl (none, 0, 0)) [] := Own.nil _
            have hxb : ∀ gb, (vSl (none, 0, 0)).ownBlock = some gb → gb ≠ wo.heap.size := fun gb h => by cases h
            have hxm : (vs ++ [((none, 0, 0) : Sl3)])[vs.length]'(by simp) = (none, 0, 0) := by simp
            have hvm : (vs ++ [((none, 0, 0) : Sl3)])[vs.length]? = some (none, 0, 0) := by simp
            have HNEW : Hid (rowsL (l.take (k + 1)) = (rowsL (l.take k) ++ [[]]).set vs.length ([] ++ [(⟨kk, aa, bb⟩ : St)])) := by
              show _ = _
              rw [hN, HVL.out, List.set_append_right _ _ (Nat.le_refl _), Nat.sub_self]
              rfl
            go_wp2_with fail
            have hgx : ∀ gb, (vSl (none, 0, 0)).ownBlock = some gb → gb ≠ g := fun gb h e => HX1.apart HO1 (by decide) h (by rw [e]; rfl)
            have cO := (HO1.cell1 (f := vSl) (fun _ => rfl) vs.length (by omega)).2.1
            have cF := (HO1.cell1 (f := vSl) (fun _ => rfl) vs.length (by omega)).2.2
            rw [hxm] at cO
            obtain ⟨S, hSe⟩ : ∃ S, S = (vSl (none, 0, 0)).ownBlock.toList := ⟨_, rfl⟩
            have hS : ∀ k, (vSl (none, 0, 0)).ownBlock = some k → k ∈ S := fun k h => by rw [hSe, h]; simp
            have hgS : g ∉ S := fun h => by rw [hSe] at h; exact hgx g (Option.mem_toList.1 h) rfl
            have hBS : wo.heap.size ∉ S := fun h => by rw [hSe] at h; exact hxb _ (Option.mem_toList.1 h) rfl
            have hmW : (vs.length : Int) < ((vs ++ [((none, 0, 0) : Sl3)]).length : Int) := by simp; omega
            have hmW2 : (vs.length : Int) < (vs.length : Int) + 1 := by omega
            refine region_mixS S 9 [(0, true), (1, true), (2, true), (3, true), (4, true), (5, true), (6, true), (7, false), (8, false)] (by kernel_rfl) (by kernel_rfl) ?_
            intro W hW
            have hbW : Below w.heap.size w W := Bst hbc hW
            have xO : ∀ X : LaterS W S, (World.extS W S X).cell? ⟨g, vs.length, none⟩ = some (vSl (none, 0, 0)) := fun X => X.h.cell (bkc hW cO) hgS
            have xb0 : ∀ X : LaterS W S, (World.extS W S X).cell? ⟨wo.heap.size, 0, none⟩ = some (.int .i64 kk) := fun X => X.h.cell (bkc hW bx0) hBS
            have xb1 : ∀ X : LaterS W S, (World.extS W S X).cell? ⟨wo.heap.size, 1, none⟩ = some (.int .i32 aa) := fun X => X.h.cell (bkc hW bx1) hBS
            have xb2 : ∀ X : LaterS W S, (World.extS W S X).cell? ⟨wo.heap.size, 2, none⟩ = some (.int .i32 bb) := fun X => X.h.cell (bkc hW bx2) hBS
            have hXW := HX1.below hW
            have hOW := HO1.below hW
            have hRW := HR1.below hW
            have cW := bkc hW cO
            have hgW : g < W.heap.size := Nat.lt_of_lt_of_le hgl hW.size
            have fW : W.frozen? ⟨g, vs.length, none⟩ = false := by rw [hW.frozen (p := ⟨g, vs.length, none⟩) hgl]; exact cF
            repeat (refine sS_q rfl (fun K hK => ?_); unfold takeS; go_simp; refine hK _ ?_; clear hK K)
            refine sS_t rfl (fun K hK => ?_); go_simp; refine hK _ _ (.of ((Kb.below ((Below.refl _ _).alloc (Nat.le_refl _) _)).weak (by simp))) ?_; clear hK K
            refine sS_t rfl (fun K hK => ?_); rw [if_pos (wanted_free rfl _)]; refine app_op (E := eSt) (w0 := w) _ _ 185 265 (.agg #[.int .i64 0, .int .i32 0, .int .i32 0]) 16 rfl rfl Tryz.underlying185 info_step rfl (by decide) (by decide) (vSl (none, 0, 0)) ([] : List St) [⟨kk, aa, bb⟩] ⟨_, 0, none⟩ 1 1 rfl rfl rfl (hXW.alloc _) (SlA.new eSt _ [⟨kk, aa, bb⟩] _ _ (by simp) _ rfl) (hbW.alloc hbW.size _) (by first | (simp; done) | (simp; omega)) ?_
            intro v5 w5 HO5 hb5 hg5 hmv5
            obtain ⟨g5, cap5, rfl, hgb5, hgl5, _, _, _⟩ := HO5.form (by simp)
            have k5 : Kb W w5 S := ((Kb.below ((Below.refl W.heap.size W).alloc (Nat.le_refl _) _)).trans (Kb.row hg5 hS)).weak (by simp)
            have c5 := k5.cell cW hgS
            have f5 : w5.frozen? ⟨g, vs.length, none⟩ = false := (frozen_kb k5 hgW hgS).trans fW
            refine hK _ _ (.of k5) ?_; clear hK K
            repeat (refine sS_q rfl (fun K hK => ?_); unfold takeS; go_simp; refine hK _ ?_; clear hK K)
            refine sS_nil ?_
            go_wp2
            rw [noP_normal]
            go_wp2
            have hP := RowsI.put (hRW.below (Bal (Below.refl _ _) (.cells #[.int .i64 kk, .int .i32 aa, .int .i32 bb] 265))) vs.length (none, 0, 0) (some ⟨g5, 0, none⟩, (([] : List St) ++ [(⟨kk, aa, bb⟩ : St)]).length, cap5) (([] : List St) ++ [(⟨kk, aa, bb⟩ : St)]) hvm HO5 hg5 hmv5
            have hOo := hOW.kb k5 (by simp [Value.ownBlock]; exact hgS)
            have hput := (hOo.put1 (f := vSl) (fun _ => rfl) rfl vs.length (some ⟨g5, 0, none⟩, (([] : List St) ++ [(⟨kk, aa, bb⟩ : St)]).length, cap5)).1
            refine ⟨⟨k + 1, (vs ++ [((none, 0, 0) : Sl3)]).set vs.length (some ⟨g5, 0, none⟩, (([] : List St) ++ [(⟨kk, aa, bb⟩ : St)]).length, cap5), by go_num, by omega, ?_, ?_, Bsc hb5 (by simp; omega) _⟩, by simp [intOf]; omega⟩
            · first | exact hput | (rw [hl1] at hput; exact hput) | (simpa [vSl] using hput)
            · show RowsI _ _ _ _
              rw [HNEW.out]
              exact hP.move fun u r _ hu => hu.kept (grownBy_cell w5 g vs.length _) (by
                rcases hu.blk with h | ⟨gb, h, _⟩
                · exact .inl h
                · exact .inr (fun e => hu.apart hOo (by decide) h (by rw [h] at e; injection e with e; subst e; rfl)))
          · have hff : (rowsS (l.take k)).2 = false := by rw [hfl]; simpa using hz
            have hzk : ((l[k - 1].k : Int) == 0) = false := by simpa using hz
            have hne0 := (rowsL_ok (l.take k)).1 hff
            have hpos : 0 < vs.length := by rw [HVL.out]; exact List.length_pos_iff.2 hne0
            obtain ⟨m, hm⟩ : ∃ m, vs.length = m + 1 := ⟨vs.length - 1, by omega⟩
            obtain ⟨x, hvm⟩ : ∃ x, vs[m]? = some x := ⟨_, List.getElem?_eq_getElem (by omega)⟩
            obtain ⟨z, hzm⟩ : ∃ z, (rowsL (l.take k))[m]? = some z := ⟨_, List.getElem?_eq_getElem (by have := HVL.out; omega)⟩
            have hzl := ((rowsL_ok (l.take k)).2.2 z (List.mem_of_getElem? hzm)).2.1
            rw [List.length_take] at hzl
            have HNEW := Lib.hid (hsn2 m z hff (by have := HVL.out; omega) hzm)
            have HX := HR.out.own m x z hvm hzm
            have hxb : ∀ gb, (vSl x).ownBlock = some gb → gb ≠ wo.heap.size := fun gb h e => by
              rcases HX.blk with h2 | ⟨g2, h2, hlt2⟩
              · rw [h2] at h; cases h
              · rw [h2] at h; injection h with h; omega
            have HX1 := HX.below hw1
            have HR1 := HR.out.below hw1
            have HO1 := HO.below hw1
            have hbc : Below w.heap.size w (wo.alloc (.cells #[.int .i64 kk, .int .i32 aa, .int .i32 bb] 265)) := Bst hb hw1
            have hml : m < vs.length := by omega
            have hxm : vs[m]'hml = x := by rw [List.getElem?_eq_getElem hml] at hvm; injection hvm
            obtain ⟨g, cap, rfl, hgb, hgl, hgc, hgm, _⟩ := HO1.form (by omega)
            have hwm : IntKind.i64.wrap ((vs.length : Int) - 1) = (m : Int) := by rw [IntWalk.i64_in _ (by omega)]; omega
            replace q1 := bkc hw1 q1
            clear hsn1 hsn2 hfl hz hne0 hff hzm hm
            go_wp2_with fail
            have hgx : ∀ gb, (vSl x).ownBlock = some gb → gb ≠ g := fun gb h e => HX1.apart HO1 (by decide) h (by rw [e]; rfl)
            have cO := (HO1.cell1 (f := vSl) (fun _ => rfl) m (by omega)).2.1
            have cF := (HO1.cell1 (f := vSl) (fun _ => rfl) m (by omega)).2.2
            rw [hxm] at cO
            obtain ⟨S, hSe⟩ : ∃ S, S = (vSl x).ownBlock.toList := ⟨_, rfl⟩
            have hS : ∀ k, (vSl x).ownBlock = some k → k ∈ S := fun k h => by rw [hSe, h]; simp
            have hgS : g ∉ S := fun h => by rw [hSe] at h; exact hgx g (Option.mem_toList.1 h) rfl
            have hBS : wo.heap.size ∉ S := fun h => by rw [hSe] at h; exact hxb _ (Option.mem_toList.1 h) rfl
            have hmW : (m : Int) < (vs.length : Int) := by omega
            have hmW2 : (vs.length : Int) < (vs.length : Int) + 1 := by omega
            refine region_mixS S 9 [(0, true), (1, true), (2, true), (3, true), (4, true), (5, true), (6, true), (7, false), (8, false)] (by kernel_rfl) (by kernel_rfl) ?_
            intro W hW
            have hbW : Below w.heap.size w W := Bst hbc hW
            have xO : ∀ X : LaterS W S, (World.extS W S X).cell? ⟨g, m, none⟩ = some (vSl x) := fun X => X.h.cell (bkc hW cO) hgS
            have xb0 : ∀ X : LaterS W S, (World.extS W S X).cell? ⟨wo.heap.size, 0, none⟩ = some (.int .i64 kk) := fun X => X.h.cell (bkc hW bx0) hBS
            have xb1 : ∀ X : LaterS W S, (World.extS W S X).cell? ⟨wo.heap.size, 1, none⟩ = some (.int .i32 aa) := fun X => X.h.cell (bkc hW bx1) hBS
            have xb2 : ∀ X : LaterS W S, (World.extS W S X).cell? ⟨wo.heap.size, 2, none⟩ = some (.int .i32 bb) := fun X => X.h.cell (bkc hW bx2) hBS
            have hXW := HX1.below hW
            have hOW := HO1.below hW
            have hRW := HR1.below hW
            have cW := bkc hW cO
            have hgW : g < W.heap.size := Nat.lt_of_lt_of_le hgl hW.size
            have fW : W.frozen? ⟨g, m, none⟩ = false := by rw [hW.frozen (p := ⟨g, m, none⟩) hgl]; exact cF
            repeat (refine sS_q rfl (fun K hK => ?_); unfold takeS; go_simp; refine hK _ ?_; clear hK K)
            refine sS_t rfl (fun K hK => ?_); go_simp; refine hK _ _ (.of ((Kb.below ((Below.refl _ _).alloc (Nat.le_refl _) _)).weak (by simp))) ?_; clear hK K
            refine sS_t rfl (fun K hK => ?_); rw [if_pos (wanted_free rfl _)]; refine app_op (E := eSt) (w0 := w) _ _ 185 265 (.agg #[.int .i64 0, .int .i32 0, .int .i32 0]) 16 rfl rfl Tryz.underlying185 info_step rfl (by decide) (by decide) (vSl x) z [⟨kk, aa, bb⟩] ⟨_, 0, none⟩ 1 1 rfl rfl rfl (hXW.alloc _) (SlA.new eSt _ [⟨kk, aa, bb⟩] _ _ (by simp) _ rfl) (hbW.alloc hbW.size _) (by first | (simp; done) | (simp; omega)) ?_
            intro v5 w5 HO5 hb5 hg5 hmv5
            obtain ⟨g5, cap5, rfl, hgb5, hgl5, _, _, _⟩ := HO5.form (by simp)
            have k5 : Kb W w5 S := ((Kb.below ((Below.refl W.heap.size W).alloc (Nat.le_refl _) _)).trans (Kb.row hg5 hS)).weak (by simp)
            have c5 := k5.cell cW hgS
            have f5 : w5.frozen? ⟨g, m, none⟩ = false := (frozen_kb k5 hgW hgS).trans fW
            refine hK _ _ (.of k5) ?_; clear hK K
            repeat (refine sS_q rfl (fun K hK => ?_); unfold takeS; go_simp; refine hK _ ?_; clear hK K)
            refine sS_nil ?_
            go_wp2
            rw [noP_normal]
            go_wp2
            have hP := RowsI.put (hRW.below (Bal (Below.refl _ _) (.cells #[.int .i64 kk, .int .i32 aa, .int .i32 bb] 265))) m x (some ⟨g5, 0, none⟩, (z ++ [(⟨kk, aa, bb⟩ : St)]).length, cap5) (z ++ [(⟨kk, aa, bb⟩ : St)]) hvm HO5 hg5 hmv5
            have hOo := hOW.kb k5 (by simp [Value.ownBlock]; exact hgS)
            have hput := (hOo.put1 (f := vSl) (fun _ => rfl) rfl m (some ⟨g5, 0, none⟩, (z ++ [(⟨kk, aa, bb⟩ : St)]).length, cap5)).1
            refine ⟨⟨k + 1, vs.set m (some ⟨g5, 0, none⟩, (z ++ [(⟨kk, aa, bb⟩ : St)]).length, cap5), by go_num, by omega, ?_, ?_, Bsc hb5 (by simp; omega) _⟩, by simp [intOf]; omega⟩
            · first | exact hput | (rw [hl1] at hput; exact hput) | (simpa [vSl] using hput)
            · show RowsI _ _ _ _
              rw [HNEW.out]
              exact hP.move fun u r _ hu => hu.kept (grownBy_cell w5 g m _) (by
                rcases hu.blk with h | ⟨gb, h, _⟩
                · exact .inl h
                · exact .inr (fun e => hu.apart hOo (by decide) h (by rw [h] at e; injection e with e; subst e; rfl)))
    · obtain rfl : k = l.length := by omega
      have hlt' : ¬ (l.length : Int) < l.length := by omega
      have hR := HR.out
      rw [List.take_length] at hR
      obtain ⟨A5, c5, rfl, hc5, hd5, hA5⟩ := HO.slv
      go_wp2
      go_ret
      refine ⟨A5, c5, vs, by rw [← hR.len]; rfl, hA5, hR.len, fun i x r hx hr => ?_, hb⟩
      have h := (hR.own i x r hx hr).slv
      obtain ⟨A6, c6, e6, _, _, h6⟩ := h
      unfold vSl at e6
      injection e6 with e1 e2 e3
      rw [e1]
      exact ⟨e2, h6⟩
end Go.Proofs.YtpnhmapkdbnkmaaGreatDoor
