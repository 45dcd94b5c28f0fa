/- 'PriceBehind' of the package erratalaw12 answers true, whatever rules, tokens and words it is given, where what it reads is of bulk at most 1048576 and the tables of unicode/utf8 hold what their text lays. -/
import Derived.Test.YtmpoihejacklnaaDoorK806
import Derived.Test.YtmpoihejacklnaaDoorW12c
namespace Go.Proofs.YtmpoihejacklnaaDoor.priceBehind
open Go Go.ChangeShapes Go.WideShapes Go.ChangeAt Go.RowKit Go.Deep Go.ChangeMaps
set_option maxHeartbeats 1000000 in
set_option maxRecDepth 100000 in
theorem contract (H : Type) (enc : TypeId × Value → H) (W : World) (base : Nat) (args : Array Value) (ds gs : List (DataW H)) (before : List MemPlace)
    (hval : ∀ (j : Nat) t v, Tryd.f3.params[j]? = some t → args[j]? = some v → Value.okWide Tryd.prog W .any base t v)
    (hW : DataW.Whole enc Tryd.prog Tryd.f3.params.toList Rows.priceBehindSpec.vars false W args.toList ds gs before) (hL : laidMetH Tryd.prog Rows.priceBehindUptoRow.laid W) (hk : Rows.uptoSmall H (ds ++ gs) = true) :
    Calls Tryd.prog 3 args W fun e W' => ∃ v, e = .returned v ∧ Rows.priceBehindSpec.post enc Tryd.prog Tryd.f3 false true false false W args v W' := by
  have hW' := hW
  obtain ⟨p, q, hA0, hV, rfl, hfz, hnd⟩ := hW
  have hA : DataW.TrodAll enc Tryd.prog W 0 (fun _ => true) true Tryd.f3.params.toList args.toList ds p := hA0
  rw [Tryd.params3] at hA hval
  obtain ⟨v0, d0, hargs, rfl, h0⟩ := trodAll_one hA
  obtain rfl : args = #[v0] := hargs
  obtain ⟨rfl, rfl⟩ := trodVars_none hV
  obtain ⟨m0, m1, m2, m3, m4, y0, y1, y2, y3, y4, nf, rfl, rfl, rfl, u0, u1, u2, u3, u4⟩ := open_agg5 Tryd.underlying24 (by kernel_rfl) (by kernel_rfl) (hval 0 24 v0 rfl rfl) h0
  have u0' : DataW.trod enc Tryd.prog W 0 (fun _ => true) true nf 22 [m0] = some y0 := u0
  have u1' : DataW.trod enc Tryd.prog W 0 (fun _ => true) true nf 9 [m1] = some y1 := u1
  have u2' : DataW.trod enc Tryd.prog W 0 (fun _ => true) true nf 9 [m2] = some y2 := u2
  have u3' : DataW.trod enc Tryd.prog W 0 (fun _ => true) true nf 9 [m3] = some y3 := u3
  have u4' : DataW.trod enc Tryd.prog W 0 (fun _ => true) true nf 9 [m4] = some y4 := u4
  obtain ⟨sa0, sl0, sc0, hsl0⟩ := Joins.slice_form Tryd.underlying22 u0'
  obtain rfl : m0 = .slice sa0 sl0 sc0 := by simpa using hsl0
  obtain ⟨A0, c0, xs0, spare0, hv0, hAc0, hxc0, hcm0, hs0, hwf0, hd0⟩ := open_t3 Tryd.underlying22 Tryd.underlying49 Tryd.underlying9 Tryd.underlying3 (by kernel_rfl) (by kernel_rfl) (by kernel_rfl) (by kernel_rfl) (rfl : (Value.slice sa0 sl0 sc0).cells = #[.slice sa0 sl0 sc0]) (⟨nf, by simpa [Value.cells] using u0'⟩ : DataW.Trod enc Tryd.prog W 0 (fun _ => true) true 22 (.slice sa0 sl0 sc0) y0.1 y0.2)
  injection hv0 with qa0 qb0 qc0
  obtain rfl : A0 = sa0 := qa0.symm
  obtain rfl : c0 = sc0 := qc0.symm
  subst qb0
  obtain ⟨s1, g1, d1, _⟩ := DataW.trod_string Tryd.underlying9 u1'
  simp only [List.cons.injEq, and_true] at g1
  subst g1
  obtain ⟨s2, g2, d2, _⟩ := DataW.trod_string Tryd.underlying9 u2'
  simp only [List.cons.injEq, and_true] at g2
  subst g2
  obtain ⟨s3, g3, d3, _⟩ := DataW.trod_string Tryd.underlying9 u3'
  simp only [List.cons.injEq, and_true] at g3
  subst g3
  obtain ⟨s4, g4, d4, _⟩ := DataW.trod_string Tryd.underlying9 u4'
  simp only [List.cons.injEq, and_true] at g4
  subst g4
  clear hA0
  have hb : Rows.uptoBulkAll [.agg [y0.1, y1.1, y2.1, y3.1, y4.1]] ≤ 1048576 := by simpa [Rows.uptoSmall] using hk
  have hsm0 := small_of hd0 (show Rows.uptoBulk y0.1 ≤ 1048576 by have e := hb; simp only [Rows.uptoBulkAll, Rows.uptoBulk] at e; omega)
  have hsz1 : s1.size ≤ 1048576 := by
    have e := hb
    simp only [Rows.uptoBulkAll, Rows.uptoBulk, d1, Array.length_toList] at e
    have e1 : s1.size = s1.data.size := rfl
    omega
  have hsz2 : s2.size ≤ 1048576 := by
    have e := hb
    simp only [Rows.uptoBulkAll, Rows.uptoBulk, d2, Array.length_toList] at e
    have e1 : s2.size = s2.data.size := rfl
    omega
  have hsz3 : s3.size ≤ 1048576 := by
    have e := hb
    simp only [Rows.uptoBulkAll, Rows.uptoBulk, d3, Array.length_toList] at e
    have e1 : s3.size = s3.data.size := rfl
    omega
  have hsz4 : s4.size ≤ 1048576 := by
    have e := hb
    simp only [Rows.uptoBulkAll, Rows.uptoBulk, d4, Array.length_toList] at e
    have e1 : s4.size = s4.data.size := rfl
    omega
  have walk : Calls Tryd.prog 3 #[.agg #[.slice A0 xs0.length c0, .string s1, .string s2, .string s3, .string s4]] W (Ret W (.bool true)) := by
    exact behinds_c A0 c0 xs0 s1 s2 s3 s4 W (tabs_of hL) hs0 hsm0 hsz1 hsz2 hsz3 hsz4
  have ht : ∀ t ∈ Tryd.f3.params.toList, Tryd.prog.readableRec t = true ∧ t < Tryd.prog.types.size := by
    rw [Tryd.params3]
    intro t ht
    simp only [List.mem_cons, List.not_mem_nil, or_false] at ht
    rcases ht with rfl <;> exact ⟨by kernel_rfl, of_decide_eq_true (by kernel_rfl)⟩
  refine walk.mono fun e W' ⟨he, hbel⟩ => ?_
  subst he
  exact ⟨_, rfl, post_true hW' rfl rfl rfl rfl rfl Tryd.underlying4 laidOut ht hbel⟩
theorem witness (os : Os) {H : Type} (enc : TypeId × Value → H) :
    (Rows.OpenSpec.upto Rows.priceBehindSpec).preRow enc Tryd.prog Tryd.f3 Rows.priceBehindUptoRow.domain false Rows.priceBehindUptoRow.laid ((laidWorld os).forCall (fun _ _ => 0) ⟨#[], #[.agg #[.slice none 0 0, .string .empty, .string .empty, .string .empty, .string .empty]], []⟩).memory #[.agg #[.slice none 0 0, .string .empty, .string .empty, .string .empty, .string .empty]] := by
  have hw : (DataW.whole enc Tryd.prog ((laidWorld os).forCall (fun _ _ => 0) ⟨#[], #[.agg #[.slice none 0 0, .string .empty, .string .empty, .string .empty, .string .empty]], []⟩).memory Tryd.f3.params.toList Rows.priceBehindSpec.vars false (#[.agg #[.slice none 0 0, .string .empty, .string .empty, .string .empty, .string .empty]] : Array Value).toList 8).map (fun x => (x.1, x.2.1)) =
      some ([.agg [.nil, .lit (.string []), .lit (.string []), .lit (.string []), .lit (.string [])]], []) := by kernel_rfl
  obtain ⟨⟨x1, x2, x3⟩, hx, hx1⟩ := Option.map_eq_some_iff.1 hw
  simp only [Prod.mk.injEq] at hx1
  obtain ⟨rfl, rfl⟩ := hx1
  exact OpenSpec.preRow_of_cond 8 hx (by kernel_rfl) (fun k hk => by cases hk; kernel_rfl) (by kernel_rfl) (laid_met os _)
set_option maxRecDepth 100000 in
theorem lifted (os : Os) (started : os.Started) (H : Type) (enc : TypeId × Value → H) (F : Stop.Interp) :
    ReturnsInHanded {} Tryd.checked os 3 .any ((Rows.OpenSpec.upto Rows.priceBehindSpec).preRow enc Tryd.prog Tryd.f3 Rows.priceBehindUptoRow.domain false Rows.priceBehindUptoRow.laid) (((Rows.OpenSpec.upto Rows.priceBehindSpec).at F).post enc Tryd.prog Tryd.f3 false true false false) := by
  refine returnsInHanded_of_row (C := Tryd.checked) (s := Rows.OpenSpec.upto Rows.priceBehindSpec) own started (by kernel_rfl) Tryd.func3
    (witness_row_atRef (enc := enc) (C := Tryd.checked) false (laidWorld os) #[.agg #[.slice none 0 0, .string .empty, .string .empty, .string .empty, .string .empty]] rfl (by kernel_rfl) (by kernel_rfl) (by kernel_rfl) (witness os enc)) ?_
  intro W base args ds gs before hval hW _ hcond _ hL _ _
  exact contract H enc W base args ds gs before hval hW hL (hcond _ rfl)
end Go.Proofs.YtmpoihejacklnaaDoor.priceBehind
