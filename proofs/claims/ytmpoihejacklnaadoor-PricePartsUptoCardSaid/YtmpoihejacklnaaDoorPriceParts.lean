/- 'PriceParts' of the package erratalaw12 answers true, whatever rules, token, word and parts it is given, where what it reads is of bulk at most 1048576 and the tables of unicode/utf8 hold what their text lays. -/
import Derived.Test.YtmpoihejacklnaaDoorK806
import Derived.Test.YtmpoihejacklnaaDoorW12e
namespace Go.Proofs.YtmpoihejacklnaaDoor.priceParts
open Go Go.ChangeShapes Go.WideShapes Go.ChangeAt Go.RowKit Go.Deep Go.ChangeMaps
set_option maxHeartbeats 1000000 in
set_option maxRecDepth 100000 in
theorem contract (H : Type) (enc : TypeId × Value → H) (W : World) (base : Nat) (args : Array Value) (ds gs : List (DataW H)) (before : List MemPlace)
    (hval : ∀ (j : Nat) t v, Tryd.f6.params[j]? = some t → args[j]? = some v → Value.okWide Tryd.prog W .any base t v)
    (hW : DataW.Whole enc Tryd.prog Tryd.f6.params.toList Rows.pricePartsSpec.vars false W args.toList ds gs before) (hL : laidMetH Tryd.prog Rows.pricePartsUptoRow.laid W) (hk : Rows.uptoSmall H (ds ++ gs) = true) :
    Calls Tryd.prog 6 args W fun e W' => ∃ v, e = .returned v ∧ Rows.pricePartsSpec.post enc Tryd.prog Tryd.f6 false true false false W args v W' := by
  have hW' := hW
  obtain ⟨p, q, hA0, hV, rfl, hfz, hnd⟩ := hW
  have hA : DataW.TrodAll enc Tryd.prog W 0 (fun _ => true) true Tryd.f6.params.toList args.toList ds p := hA0
  rw [Tryd.params6] at hA hval
  obtain ⟨v0, d0, hargs, rfl, h0⟩ := trodAll_one hA
  obtain rfl : args = #[v0] := hargs
  obtain ⟨rfl, rfl⟩ := trodVars_none hV
  obtain ⟨m0, m1, m2, m3, y0, y1, y2, y3, nf, rfl, rfl, rfl, u0, u1, u2, u3⟩ := Joins.open_agg4 Tryd.underlying40 (by kernel_rfl) (by kernel_rfl) (hval 0 40 v0 rfl rfl) h0
  have u0' : DataW.trod enc Tryd.prog W 0 (fun _ => true) true nf 22 [m0] = some y0 := u0
  have u1' : DataW.trod enc Tryd.prog W 0 (fun _ => true) true nf 9 [m1] = some y1 := u1
  have u2' : DataW.trod enc Tryd.prog W 0 (fun _ => true) true nf 9 [m2] = some y2 := u2
  have u3' : DataW.trod enc Tryd.prog W 0 (fun _ => true) true nf 22 [m3] = some y3 := u3
  obtain ⟨sa0, sl0, sc0, hsl0⟩ := Joins.slice_form Tryd.underlying22 u0'
  obtain rfl : m0 = .slice sa0 sl0 sc0 := by simpa using hsl0
  obtain ⟨A0, c0, xs0, spare0, hv0, hAc0, hxc0, hcm0, hs0, hwf0, hd0⟩ := open_t3 Tryd.underlying22 Tryd.underlying49 Tryd.underlying9 Tryd.underlying3 (by kernel_rfl) (by kernel_rfl) (by kernel_rfl) (by kernel_rfl) (rfl : (Value.slice sa0 sl0 sc0).cells = #[.slice sa0 sl0 sc0]) (⟨nf, by simpa [Value.cells] using u0'⟩ : DataW.Trod enc Tryd.prog W 0 (fun _ => true) true 22 (.slice sa0 sl0 sc0) y0.1 y0.2)
  injection hv0 with qa0 qb0 qc0
  obtain rfl : A0 = sa0 := qa0.symm
  obtain rfl : c0 = sc0 := qc0.symm
  subst qb0
  obtain ⟨s1, g1, d1, _⟩ := DataW.trod_string Tryd.underlying9 u1'
  simp only [List.cons.injEq, and_true] at g1
  subst g1
  obtain ⟨s2, g2, d2, _⟩ := DataW.trod_string Tryd.underlying9 u2'
  simp only [List.cons.injEq, and_true] at g2
  subst g2
  obtain ⟨sa3, sl3, sc3, hsl3⟩ := Joins.slice_form Tryd.underlying22 u3'
  obtain rfl : m3 = .slice sa3 sl3 sc3 := by simpa using hsl3
  obtain ⟨A3, c3, xs3, spare3, hv3, hAc3, hxc3, hcm3, hs3, hwf3, hd3⟩ := open_t3 Tryd.underlying22 Tryd.underlying49 Tryd.underlying9 Tryd.underlying3 (by kernel_rfl) (by kernel_rfl) (by kernel_rfl) (by kernel_rfl) (rfl : (Value.slice sa3 sl3 sc3).cells = #[.slice sa3 sl3 sc3]) (⟨nf, by simpa [Value.cells] using u3'⟩ : DataW.Trod enc Tryd.prog W 0 (fun _ => true) true 22 (.slice sa3 sl3 sc3) y3.1 y3.2)
  injection hv3 with qa3 qb3 qc3
  obtain rfl : A3 = sa3 := qa3.symm
  obtain rfl : c3 = sc3 := qc3.symm
  subst qb3
  clear hA0
  have hb : Rows.uptoBulkAll [.agg [y0.1, y1.1, y2.1, y3.1]] ≤ 1048576 := by simpa [Rows.uptoSmall] using hk
  have hsm0 := small_of hd0 (show Rows.uptoBulk y0.1 ≤ 1048576 by have e := hb; simp only [Rows.uptoBulkAll, Rows.uptoBulk] at e; omega)
  have hsz1 : s1.size ≤ 1048576 := by
    have e := hb
    simp only [Rows.uptoBulkAll, Rows.uptoBulk, d1, Array.length_toList] at e
    have e1 : s1.size = s1.data.size := rfl
    omega
  have hsz2 : s2.size ≤ 1048576 := by
    have e := hb
    simp only [Rows.uptoBulkAll, Rows.uptoBulk, d2, Array.length_toList] at e
    have e1 : s2.size = s2.data.size := rfl
    omega
  have hsm3 := small_of hd3 (show Rows.uptoBulk y3.1 ≤ 1048576 by have e := hb; simp only [Rows.uptoBulkAll, Rows.uptoBulk] at e; omega)
  have walk : Calls Tryd.prog 6 #[.agg #[.slice A0 xs0.length c0, .string s1, .string s2, .slice A3 xs3.length c3]] W (Ret W (.bool true)) := by
    exact partss_c A0 A3 c0 c3 xs0 xs3 s1 s2 W (tabs_of hL) hs0 hsm0 hs3 hsm3 (fun x hx => by have := hwf3 x hx; simpa [Lit.wf, show IntKind.i64.min = -9223372036854775808 from rfl, show IntKind.i64.max = 9223372036854775807 from rfl] using this) hsz1 hsz2
  have ht : ∀ t ∈ Tryd.f6.params.toList, Tryd.prog.readableRec t = true ∧ t < Tryd.prog.types.size := by
    rw [Tryd.params6]
    intro t ht
    simp only [List.mem_cons, List.not_mem_nil, or_false] at ht
    rcases ht with rfl <;> exact ⟨by kernel_rfl, of_decide_eq_true (by kernel_rfl)⟩
  refine walk.mono fun e W' ⟨he, hbel⟩ => ?_
  subst he
  exact ⟨_, rfl, post_true hW' rfl rfl rfl rfl rfl Tryd.underlying4 laidOut ht hbel⟩
theorem witness (os : Os) {H : Type} (enc : TypeId × Value → H) :
    (Rows.OpenSpec.upto Rows.pricePartsSpec).preRow enc Tryd.prog Tryd.f6 Rows.pricePartsUptoRow.domain false Rows.pricePartsUptoRow.laid ((laidWorld os).forCall (fun _ _ => 0) ⟨#[], #[.agg #[.slice none 0 0, .string .empty, .string .empty, .slice none 0 0]], []⟩).memory #[.agg #[.slice none 0 0, .string .empty, .string .empty, .slice none 0 0]] := by
  have hw : (DataW.whole enc Tryd.prog ((laidWorld os).forCall (fun _ _ => 0) ⟨#[], #[.agg #[.slice none 0 0, .string .empty, .string .empty, .slice none 0 0]], []⟩).memory Tryd.f6.params.toList Rows.pricePartsSpec.vars false (#[.agg #[.slice none 0 0, .string .empty, .string .empty, .slice none 0 0]] : Array Value).toList 8).map (fun x => (x.1, x.2.1)) =
      some ([.agg [.nil, .lit (.string []), .lit (.string []), .nil]], []) := by kernel_rfl
  obtain ⟨⟨x1, x2, x3⟩, hx, hx1⟩ := Option.map_eq_some_iff.1 hw
  simp only [Prod.mk.injEq] at hx1
  obtain ⟨rfl, rfl⟩ := hx1
  exact OpenSpec.preRow_of_cond 8 hx (by kernel_rfl) (fun k hk => by cases hk; kernel_rfl) (by kernel_rfl) (laid_met os _)
set_option maxRecDepth 100000 in
theorem lifted (os : Os) (started : os.Started) (H : Type) (enc : TypeId × Value → H) (F : Stop.Interp) :
    ReturnsInHanded {} Tryd.checked os 6 .any ((Rows.OpenSpec.upto Rows.pricePartsSpec).preRow enc Tryd.prog Tryd.f6 Rows.pricePartsUptoRow.domain false Rows.pricePartsUptoRow.laid) (((Rows.OpenSpec.upto Rows.pricePartsSpec).at F).post enc Tryd.prog Tryd.f6 false true false false) := by
  refine returnsInHanded_of_row (C := Tryd.checked) (s := Rows.OpenSpec.upto Rows.pricePartsSpec) own started (by kernel_rfl) Tryd.func6
    (witness_row_atRef (enc := enc) (C := Tryd.checked) false (laidWorld os) #[.agg #[.slice none 0 0, .string .empty, .string .empty, .slice none 0 0]] rfl (by kernel_rfl) (by kernel_rfl) (by kernel_rfl) (witness os enc)) ?_
  intro W base args ds gs before hval hW _ hcond _ hL _ _
  exact contract H enc W base args ds gs before hval hW hL (hcond _ rfl)
end Go.Proofs.YtmpoihejacklnaaDoor.priceParts
