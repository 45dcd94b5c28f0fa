/- 'MatchMoves' of the package erratalaw08 answers true, whatever rules and texts it is given, where what it reads is of bulk at most 1048576 and the tables of unicode/utf8 hold what their text lays. -/
import Derived.Test.YtpccanadijefnaaDoorK806
import Derived.Test.YtpccanadijefnaaDoorMv8
namespace Go.Proofs.YtpccanadijefnaaDoor.matchMoves
open Go Go.ChangeShapes Go.WideShapes Go.ChangeAt Go.RowKit Go.Deep Go.ChangeMaps
set_option maxHeartbeats 1000000 in
set_option maxRecDepth 100000 in
theorem contract (H : Type) (enc : TypeId × Value → H) (W : World) (base : Nat) (args : Array Value) (ds gs : List (DataW H)) (before : List MemPlace)
    (hval : ∀ (j : Nat) t v, Tryd.f11.params[j]? = some t → args[j]? = some v → Value.okWide Tryd.prog W .any base t v)
    (hW : DataW.Whole enc Tryd.prog Tryd.f11.params.toList Rows.matchMovesSpec.vars false W args.toList ds gs before) (hL : laidMetH Tryd.prog Rows.matchMovesUptoRow.laid W) (hk : Rows.uptoSmall H (ds ++ gs) = true) :
    Calls Tryd.prog 11 args W fun e W' => ∃ v, e = .returned v ∧ Rows.matchMovesSpec.post enc Tryd.prog Tryd.f11 false true false false W args v W' := by
  have hW' := hW
  obtain ⟨p, q, hA0, hV, rfl, hfz, hnd⟩ := hW
  have hA : DataW.TrodAll enc Tryd.prog W 0 (fun _ => true) true Tryd.f11.params.toList args.toList ds p := hA0
  rw [Tryd.params11] at hA hval
  obtain ⟨v0, d0, hargs, rfl, h0⟩ := trodAll_one hA
  obtain rfl : args = #[v0] := hargs
  obtain ⟨rfl, rfl⟩ := trodVars_none hV
  obtain ⟨m0, m1, m2, m3, y0, y1, y2, y3, n, rfl, rfl, rfl, u0, u1, u2, u3⟩ := Joins.open_agg4 Tryd.underlying55 (by kernel_rfl) (by kernel_rfl) (hval 0 55 v0 rfl rfl) h0
  have u0' : DataW.trod enc Tryd.prog W 0 (fun _ => true) true n 26 [m0] = some y0 := u0
  have u1' : DataW.trod enc Tryd.prog W 0 (fun _ => true) true n 9 [m1] = some y1 := u1
  have u2' : DataW.trod enc Tryd.prog W 0 (fun _ => true) true n 9 [m2] = some y2 := u2
  have u3' : DataW.trod enc Tryd.prog W 0 (fun _ => true) true n 9 [m3] = some y3 := u3
  obtain ⟨sa, sl, sc, hsl⟩ := Joins.slice_form Tryd.underlying26 u0'
  obtain rfl : m0 = .slice sa sl sc := by simpa using hsl
  obtain ⟨A0, c0, xs0, spare0, hv0, hAc0, hxc0, hcm0, hs0, hwf0, hd0⟩ := open_t3 Tryd.underlying26 Tryd.underlying33 Tryd.underlying9 Tryd.underlying3 (by kernel_rfl) (by kernel_rfl) (by kernel_rfl) (by kernel_rfl) (rfl : (Value.slice sa sl sc).cells = #[.slice sa sl sc]) (⟨n, by simpa [Value.cells] using u0'⟩ : DataW.Trod enc Tryd.prog W 0 (fun _ => true) true 26 (.slice sa sl sc) y0.1 y0.2)
  injection hv0 with q0 q1 q2
  obtain rfl : A0 = sa := q0.symm
  obtain rfl : c0 = sc := q2.symm
  subst q1
  obtain ⟨s1, g1, d1, _⟩ := DataW.trod_string Tryd.underlying9 u1'
  obtain ⟨s2, g2, d2, _⟩ := DataW.trod_string Tryd.underlying9 u2'
  obtain ⟨s3, g3, d3, _⟩ := DataW.trod_string Tryd.underlying9 u3'
  simp only [List.cons.injEq, and_true] at g1 g2 g3
  subst g1; subst g2; subst g3
  clear hA0
  have hb : Rows.uptoBulkAll [.agg [y0.1, y1.1, y2.1, y3.1]] ≤ 1048576 := by simpa [Rows.uptoSmall] using hk
  have hb4 : Rows.uptoBulk y0.1 ≤ 1048576 ∧ s1.size ≤ 1048576 ∧ s2.size ≤ 1048576 ∧ s3.size ≤ 1048576 := by
    have e := hb
    rw [d1, d2, d3] at e
    simp only [Rows.uptoBulkAll, Rows.uptoBulk, Array.length_toList] at e
    have e1 : s1.size = s1.data.size := rfl
    have e2 : s2.size = s2.data.size := rfl
    have e3 : s3.size = s3.data.size := rfl
    omega
  have hsm0 := small_of hd0 hb4.1
  have walk : Calls Tryd.prog 11 #[.agg #[.slice A0 xs0.length c0, .string s1, .string s2, .string s3]] W (Ret W (.bool true)) := by
    exact lmoves8_c A0 c0 xs0 s1 s2 s3 W (tabs_of hL) hs0 hsm0 hb4.2.1 hb4.2.2.1 hb4.2.2.2
  have ht : ∀ t ∈ Tryd.f11.params.toList, Tryd.prog.readableRec t = true ∧ t < Tryd.prog.types.size := by
    rw [Tryd.params11]
    intro t ht
    simp only [List.mem_cons, List.not_mem_nil, or_false] at ht
    rcases ht with rfl <;> exact ⟨by kernel_rfl, of_decide_eq_true (by kernel_rfl)⟩
  refine walk.mono fun e W' ⟨he, hbel⟩ => ?_
  subst he
  exact ⟨_, rfl, post_true hW' rfl rfl rfl rfl rfl Tryd.underlying4 laidOut ht hbel⟩
theorem witness (os : Os) {H : Type} (enc : TypeId × Value → H) :
    (Rows.OpenSpec.upto Rows.matchMovesSpec).preRow enc Tryd.prog Tryd.f11 Rows.matchMovesUptoRow.domain false Rows.matchMovesUptoRow.laid ((laidWorld os).forCall (fun _ _ => 0) ⟨#[], #[.agg #[.slice none 0 0, .string .empty, .string .empty, .string .empty]], []⟩).memory #[.agg #[.slice none 0 0, .string .empty, .string .empty, .string .empty]] := by
  have hw : (DataW.whole enc Tryd.prog ((laidWorld os).forCall (fun _ _ => 0) ⟨#[], #[.agg #[.slice none 0 0, .string .empty, .string .empty, .string .empty]], []⟩).memory Tryd.f11.params.toList Rows.matchMovesSpec.vars false (#[.agg #[.slice none 0 0, .string .empty, .string .empty, .string .empty]] : Array Value).toList 8).map (fun x => (x.1, x.2.1)) =
      some ([.agg [.nil, .lit (.string []), .lit (.string []), .lit (.string [])]], []) := by kernel_rfl
  obtain ⟨⟨x1, x2, x3⟩, hx, hx1⟩ := Option.map_eq_some_iff.1 hw
  simp only [Prod.mk.injEq] at hx1
  obtain ⟨rfl, rfl⟩ := hx1
  exact OpenSpec.preRow_of_cond 8 hx (by kernel_rfl) (fun k hk => by cases hk; kernel_rfl) (by kernel_rfl) (laid_met os _)
set_option maxRecDepth 100000 in
theorem lifted (os : Os) (started : os.Started) (H : Type) (enc : TypeId × Value → H) (F : Stop.Interp) :
    ReturnsInHanded {} Tryd.checked os 11 .any ((Rows.OpenSpec.upto Rows.matchMovesSpec).preRow enc Tryd.prog Tryd.f11 Rows.matchMovesUptoRow.domain false Rows.matchMovesUptoRow.laid) (((Rows.OpenSpec.upto Rows.matchMovesSpec).at F).post enc Tryd.prog Tryd.f11 false true false false) := by
  refine returnsInHanded_of_row (C := Tryd.checked) (s := Rows.OpenSpec.upto Rows.matchMovesSpec) own started (by kernel_rfl) Tryd.func11
    (witness_row_atRef (enc := enc) (C := Tryd.checked) false (laidWorld os) #[.agg #[.slice none 0 0, .string .empty, .string .empty, .string .empty]] rfl (by kernel_rfl) (by kernel_rfl) (by kernel_rfl) (witness os enc)) ?_
  intro W base args ds gs before hval hW _ hcond _ hL _ _
  exact contract H enc W base args ds gs before hval hW hL (hcond _ rfl)
end Go.Proofs.YtpccanadijefnaaDoor.matchMoves
