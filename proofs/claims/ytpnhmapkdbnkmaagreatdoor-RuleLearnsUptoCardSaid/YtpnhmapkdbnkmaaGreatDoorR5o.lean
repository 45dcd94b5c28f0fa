/- errataref05.Of, Pair: the blocks of two tokens. No condition. -/
import Derived.Test.YtpnhmapkdbnkmaaGreatDoorR5
import Derived.Test.YtpnhmapkdbnkmaaGreatDoorK805
namespace Go.Proofs.YtpnhmapkdbnkmaaGreatDoor
open Go Go.RowKit
set_option maxRecDepth 100000 in
theorem size_c (s : ByteArray) (l : List Int) (w : World) (hz : s.size ≤ 17592186044416) (h : decS s = some l) : Calls Tryz.prog 169 #[.string s] w (Ret w (.int .i64 l.length)) := by
  have HD := Lib.hid h
  clear h
  go_enter Tryz.func169, Tryz.ntmps169
  go_wp2_with (go_at_call 140; refine (r1dec_some s _ hz l HD.out).mono ?_; rintro e w2 ⟨A2, c2, rfl, hA2, hc2, hd2, hb2⟩)
  go_ret
  exact ⟨rfl, hb2⟩
theorem left_isR {r : List St} (h : ∀ s ∈ r, MayS s) : ∀ x ∈ leftR r, IsR x := fun x hx => by
  obtain ⟨s, hs, rfl⟩ := List.mem_map.1 hx
  exact (h s (List.mem_filter.1 hs).1).1
theorem right_isR {r : List St} (h : ∀ s ∈ r, MayS s) : ∀ x ∈ rightR r, IsR x := fun x hx => by
  obtain ⟨s, hs, rfl⟩ := List.mem_map.1 hx
  exact (h s (List.mem_filter.1 hs).1).2.1
def OfPost (w : World) (l : List St) (e : Ending) (w' : World) : Prop := ∃ v, e = .returned (.tuple #[v, .int .i64 0]) ∧ SlV eT3 w' v (blksL l) ∧ Below w.heap.size w w'
set_option maxRecDepth 100000 in
set_option maxHeartbeats 3000000 in
theorem r5of_c (A : Option Addr) (c : Nat) (l : List St) (w : World) (hs : SlA eSt w A l) (hr : ∀ s ∈ l, MayS s) (hl : l.length ≤ 128) :
    Calls Tryz.prog 106 #[.slice A l.length c] w (OfPost w l) := by
  have HR := Lib.hid hr
  clear hr
  go_enter Tryz.func106, Tryz.ntmps106
  go_wp2_with fail
  refine (r4chk_c A c l _ hs HR.out (by omega)).mono ?_
  rintro e w2 ⟨rfl, hb2⟩
  go_wp2_with fail
  refine (r5rows_c A c l _ (hs.below hb2) (by omega)).mono ?_
  rintro e w3 ⟨B, cb, vs, rfl, hB, hvl, hrows, hb3⟩
  have hb03 : Below w.heap.size w w3 := Bst hb2 hb3
  obtain ⟨R, hRe⟩ : ∃ R, rowsL l = R := ⟨_, rfl⟩
  have hok := rowsL_ok l
  rw [hRe] at hvl hrows hok ⊢
  have HRE := Lib.hid hRe
  have HOK := Lib.hid hok
  have HROW := Lib.hid hrows
  have hRl := hok.2.1
  have HVL := Lib.hid hvl
  clear hRe hok hrows
  go_wp2_with fail
  go_loopw [5, 19] (fun so sk wr => ∃ k : Nat, sk = .int .i64 k ∧ k ≤ R.length ∧ Own eT3 w3.heap.size 71 wr so (blksR (R.take k)) ∧ Below w3.heap.size w3 wr) (fun _ sk _ => R.length - (intOf sk).toNat)
  case atStart => exact ⟨0, rfl, by omega, Own.nil _, Below.refl _ _⟩
  case round =>
    obtain ⟨k, rfl, hk, HO, hb⟩ := hrel
    rename World => wo
    by_cases hlt : k < R.length
    · have hlt' : (k : Int) < R.length := by omega
      have hkv : k < vs.length := by omega
      obtain ⟨bv, ov, rfl, q1⟩ := hB.at1 (fun _ => rfl) hb k hkv
      obtain ⟨e1, e2⟩ := HROW.out k vs[k] R[k] (List.getElem?_eq_getElem hkv) (List.getElem?_eq_getElem hlt)
      have hbs : blksR (R.take (k + 1)) = blksR (R.take k) ++ if blkOk R[k] = true then [blkOf R[k]] else [] := by rw [List.take_succ_eq_append_getElem hlt, blksR_app, blksR_one]
      have hbl := Nat.le_trans (blksR_len (R.take k)) (by rw [List.length_take]; exact Nat.min_le_left _ _ : _ ≤ k)
      have hro := HOK.out.2.2 R[k] (List.getElem_mem hlt)
      obtain ⟨x, hx⟩ : ∃ x, vs[k] = x := ⟨_, rfl⟩
      obtain ⟨r, hre⟩ : ∃ r, R[k] = r := ⟨_, rfl⟩
      rw [hx] at q1 e1 e2
      rw [hre] at e1 e2 hbs hro
      clear hx hre
      obtain ⟨xa, xn, xc⟩ := x
      simp only at e1 e2
      subst e1
      have hrm : ∀ s ∈ r, MayS s := fun s hs => HR.out s (hro.2.2 s hs).1
      have hrl := hro.2.1
      have q2 : wo.cell? ⟨bv, ov + k, none⟩ = some (.slice xa r.length xc) := q1
      obtain ⟨sa, hsa⟩ : ∃ s, txt (leftR r) = s := ⟨_, rfl⟩
      obtain ⟨sb, hsb⟩ : ∃ s, txt (rightR r) = s := ⟨_, rfl⟩
      have da : decS sa = some (leftR r) := by rw [← hsa]; exact txt_dec (left_isR hrm)
      have db : decS sb = some (rightR r) := by rw [← hsb]; exact txt_dec (right_isR hrm)
      have za : sa.size ≤ 17592186044416 := by have h1 := txt_size (leftR r); have h2 := leftR_len r; rw [hsa] at h1; omega
      have zb : sb.size ≤ 17592186044416 := by have h1 := txt_size (rightR r); have h2 := rightR_len r; rw [hsb] at h1; omega
      have hread := r4read_c xa xc r wo (e2.below hb) hrm (by omega)
      rw [hsa, hsb] at hread
      have hok : blkOk r = (decide ((leftR r).length ≤ 3) && (decide ((rightR r).length ≤ 3) && !decide (sa = sb))) := by rw [← hsa, ← hsb]; rfl
      have hof : blkOf r = ⟨sa, sb, 1⟩ := by rw [← hsa, ← hsb]; rfl
      rw [hok, hof] at hbs
      have DA := Lib.hid da
      have DB := Lib.hid db
      have HBS := Lib.hid hbs
      clear q1 hrm da db hok hof hbs hsa hsb hro e2
      go_wp2_with fail
      refine hread.mono ?_
      rintro e w4 ⟨rfl, hb4⟩
      go_wp2_with fail
      refine (size_c sa _ _ za DA.out).mono ?_
      rintro e w5 ⟨rfl, hb5⟩
      by_cases h1 : (leftR r).length ≤ 3
      · have h1' : ((leftR r).length : Int) ≤ 3 := by omega
        go_wp2_with fail
        refine (size_c sb _ _ zb DB.out).mono ?_
        rintro e w6 ⟨rfl, hb6⟩
        by_cases h2 : (rightR r).length ≤ 3
        · have h2' : ((rightR r).length : Int) ≤ 3 := by omega
          by_cases h3 : sa = sb
          · subst h3
            go_wp2
            exact ⟨⟨k + 1, by go_num, by omega, by rw [HBS.out, if_neg (by simp []), List.append_nil]; exact HO.below Bel, Bel⟩, by simp [intOf]; omega⟩
          · have h3' : (sa.toList == sb.toList) = false := by
              rw [beq_eq_false_iff_ne]
              intro h
              rw [ByteArray.toList_eq, ByteArray.toList_eq] at h
              exact h3 (ba_ext' h)
            go_wp2_with (at_builtin; refine app (E := eT3) (w0 := w3) _ _ 72 71 (.agg #[.string .empty, .string .empty, .int .i64 0]) 40 rfl rfl Tryz.underlying72 info_blk rfl (by decide) (by decide) _ (blksR (R.take k)) [⟨sa, sb, 1⟩] _ 1 _ rfl rfl rfl (HO.below Bel) (SlA.new eT3 _ [⟨sa, sb, 1⟩] _ _ rfl _ rfl) Bel (by first | (simp; done) | (simp; omega)) ?_; intro v7 w7 HO7 hb7 _ _)
            exact ⟨⟨k + 1, by go_num, by omega, by rw [HBS.out, if_pos (by simp [h1, h2, h3])]; exact HO7, hb7⟩, by simp [intOf]; omega⟩
        · have h2' : ¬ ((rightR r).length : Int) ≤ 3 := by omega
          go_wp2
          exact ⟨⟨k + 1, by go_num, by omega, by rw [HBS.out, if_neg (by simp [h2]), List.append_nil]; exact HO.below Bel, Bel⟩, by simp [intOf]; omega⟩
      · have h1' : ¬ ((leftR r).length : Int) ≤ 3 := by omega
        go_wp2
        exact ⟨⟨k + 1, by go_num, by omega, by rw [HBS.out, if_neg (by simp [h1]), List.append_nil]; exact HO.below Bel, Bel⟩, by simp [intOf]; omega⟩
    · obtain rfl : k = R.length := by omega
      have hlt' : ¬ (R.length : Int) < R.length := by omega
      rw [List.take_length] at HO
      go_wp2
      go_ret2
      refine ⟨_, rfl, ?_, Bst hb03 hb⟩
      have h := HO.slv
      unfold blksL
      rw [HRE.out]
      exact h
def PairPost (w : World) (p : P2) (e : Ending) (w' : World) : Prop :=
  Below w.heap.size w w' ∧ (pairE p = 0 → ∃ v, e = .returned (.tuple #[v, .int .i64 0]) ∧ SlV eT3 w' v (pairB p)) ∧ (pairE p ≠ 0 → e = .returned (.tuple #[.slice none 0 0, .int .i64 (pairE p)]))
theorem pair_may {p : P2} (h : pairE p = 0) : (∀ s ∈ stepsL (pairA p) (pairT p), MayS s) ∧ (stepsL (pairA p) (pairT p)).length ≤ 128 := by
  obtain ⟨da, db, ha, hb, _, _⟩ := pair_decs h
  refine ⟨stepsL_may (decS_isR da) (decS_isR db), ?_⟩
  have := stepsL_len (pairA p) (pairT p)
  omega
set_option maxRecDepth 100000 in
set_option maxHeartbeats 1000000 in
theorem r5pair_c (p : P2) (w : World) (hz : p.n.size ≤ 17592186044416) (hz2 : p.t.size ≤ 17592186044416) : Calls Tryz.prog 62 #[.string p.n, .string p.t] w (PairPost w p) := by
  by_cases h0 : pairE p = 0
  · have H0 := Lib.hid h0
    have HM := Lib.hid (pair_may h0)
    clear h0
    go_enter Tryz.func62, Tryz.ntmps62
    go_wp2_with fail
    refine (r4steps_c p _ hz hz2).mono ?_
    rintro e w2 ⟨hb2, h3, _⟩
    obtain ⟨v, rfl, A, c, rfl, _, _, hA⟩ := h3 H0.out
    clear h3
    go_wp2_with fail
    refine (r5of_c A c _ _ hA HM.out.1 HM.out.2).mono ?_
    rintro e w3 ⟨v3, rfl, hV, hb3⟩
    go_wp2_with fail
    go_ret2
    exact ⟨Bst hb2 hb3, fun _ => ⟨v3, rfl, hV⟩, fun h => absurd H0.out h⟩
  · have H0 := Lib.hid h0
    obtain ⟨z, hz3⟩ : ∃ z, pairE p = z := ⟨_, rfl⟩
    have hz0 : z ≠ 0 := hz3 ▸ h0
    clear h0
    have HZ := Lib.hid hz3
    clear hz3
    go_enter Tryz.func62, Tryz.ntmps62
    go_wp2_with fail
    refine (r4steps_c p _ hz hz2).mono ?_
    rintro e w2 ⟨hb2, _, h3⟩
    obtain rfl := h3 H0.out
    clear h3
    rw [HZ.out]
    go_wp2_with fail
    go_ret2
    refine ⟨hb2, fun h => absurd h H0.out, fun _ => ?_⟩
    rw [HZ.out]; rfl
end Go.Proofs.YtpnhmapkdbnkmaaGreatDoor
