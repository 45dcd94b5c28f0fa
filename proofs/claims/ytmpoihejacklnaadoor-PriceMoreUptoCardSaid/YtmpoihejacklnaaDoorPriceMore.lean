/- 'PriceMore' of the package erratalaw12 answers true, whatever rules, rule, token and word it is given, where what it reads is of bulk at most 1048576 and the tables of unicode/utf8 hold what their text lays. -/
import Derived.Test.YtmpoihejacklnaaDoorK806
import Derived.Test.YtmpoihejacklnaaDoorW12f
namespace Go.Proofs.YtmpoihejacklnaaDoor.priceMore
open Go Go.ChangeShapes Go.WideShapes Go.ChangeAt Go.RowKit Go.Deep Go.ChangeMaps
set_option maxHeartbeats 1000000 in
set_option maxRecDepth 100000 in
theorem contract (H : Type) (enc : TypeId × Value → H) (W : World) (base : Nat) (args : Array Value) (ds gs : List (DataW H)) (before : List MemPlace)
    (hval : ∀ (j : Nat) t v, Tryd.f9.params[j]? = some t → args[j]? = some v → Value.okWide Tryd.prog W .any base t v)
    (hW : DataW.Whole enc Tryd.prog Tryd.f9.params.toList Rows.priceMoreSpec.vars false W args.toList ds gs before) (hL : laidMetH Tryd.prog Rows.priceMoreUptoRow.laid W) (hk : Rows.uptoSmall H (ds ++ gs) = true) :
    Calls Tryd.prog 9 args W fun e W' => ∃ v, e = .returned v ∧ Rows.priceMoreSpec.post enc Tryd.prog Tryd.f9 false true false false W args v W' := by
  have hW' := hW
  obtain ⟨p, q, hA0, hV, rfl, hfz, hnd⟩ := hW
  have hA : DataW.TrodAll enc Tryd.prog W 0 (fun _ => true) true Tryd.f9.params.toList args.toList ds p := hA0
  rw [Tryd.params9] at hA hval
  obtain ⟨v0, d0, hargs, rfl, h0⟩ := trodAll_one hA
  obtain rfl : args = #[v0] := hargs
  obtain ⟨rfl, rfl⟩ := trodVars_none hV
  obtain ⟨m0, m1, m2, m3, m4, m5, y0, y1, y2, y3, nf, rfl, rfl, rfl, u0, u1, u2, u3⟩ := open_more Tryd.underlying54 (by kernel_rfl) (by kernel_rfl) (by kernel_rfl) (by kernel_rfl) (by kernel_rfl) (by kernel_rfl) (hval 0 54 v0 rfl rfl) h0
  have u0' : DataW.trod enc Tryd.prog W 0 (fun _ => true) true nf 22 [m0] = some y0 := u0
  have u1' : DataW.trod enc Tryd.prog W 0 (fun _ => true) true nf 49 [m1, m2, m3] = some y1 := u1
  have u2' : DataW.trod enc Tryd.prog W 0 (fun _ => true) true nf 9 [m4] = some y2 := u2
  have u3' : DataW.trod enc Tryd.prog W 0 (fun _ => true) true nf 9 [m5] = some y3 := u3
  obtain ⟨sa0, sl0, sc0, hsl0⟩ := Joins.slice_form Tryd.underlying22 u0'
  obtain rfl : m0 = .slice sa0 sl0 sc0 := by simpa using hsl0
  obtain ⟨A0, c0, xs0, spare0, hv0, hAc0, hxc0, hcm0, hs0, hwf0, hd0⟩ := open_t3 Tryd.underlying22 Tryd.underlying49 Tryd.underlying9 Tryd.underlying3 (by kernel_rfl) (by kernel_rfl) (by kernel_rfl) (by kernel_rfl) (rfl : (Value.slice sa0 sl0 sc0).cells = #[.slice sa0 sl0 sc0]) (⟨nf, by simpa [Value.cells] using u0'⟩ : DataW.Trod enc Tryd.prog W 0 (fun _ => true) true 22 (.slice sa0 sl0 sc0) y0.1 y0.2)
  injection hv0 with qa0 qb0 qc0
  obtain rfl : A0 = sa0 := qa0.symm
  obtain rfl : c0 = sc0 := qc0.symm
  subst qb0
  obtain ⟨r1, e1a, e1b, e1c, d1, hr1⟩ := trod_r3 Tryd.underlying49 Tryd.underlying9 Tryd.underlying3 (by kernel_rfl) (by kernel_rfl) (by kernel_rfl) u1'
  subst e1a e1b e1c
  obtain ⟨s2, g2, d2, _⟩ := DataW.trod_string Tryd.underlying9 u2'
  simp only [List.cons.injEq, and_true] at g2
  subst g2
  obtain ⟨s3, g3, d3, _⟩ := DataW.trod_string Tryd.underlying9 u3'
  simp only [List.cons.injEq, and_true] at g3
  subst g3
  clear hA0
  have hb : Rows.uptoBulkAll [.agg [y0.1, y1.1, y2.1, y3.1]] ≤ 1048576 := by simpa [Rows.uptoSmall] using hk
  have hsm0 := small_of hd0 (show Rows.uptoBulk y0.1 ≤ 1048576 by have e := hb; simp only [Rows.uptoBulkAll, Rows.uptoBulk] at e; omega)
  have hrz1 := small_r3 (x := r1) (H := H) (by rw [← d1]; have e := hb; simp only [Rows.uptoBulkAll, Rows.uptoBulk] at e; omega)
  have hsz2 : s2.size ≤ 1048576 := by
    have e := hb
    simp only [Rows.uptoBulkAll, Rows.uptoBulk, d2, Array.length_toList] at e
    have e1 : s2.size = s2.data.size := rfl
    omega
  have hsz3 : s3.size ≤ 1048576 := by
    have e := hb
    simp only [Rows.uptoBulkAll, Rows.uptoBulk, d3, Array.length_toList] at e
    have e1 : s3.size = s3.data.size := rfl
    omega
  have walk : Calls Tryd.prog 9 #[.agg #[.slice A0 xs0.length c0, .string r1.f, .string r1.t, .int .i64 r1.n, .string s2, .string s3]] W (Ret W (.bool true)) := by
    have hml : xs0.length + 1 ≤ 1048576 := by
      have e := hb
      simp only [Rows.uptoBulkAll, Rows.uptoBulk] at e
      rcases hd0 with ⟨_, rfl⟩ | hq
      · simp
      · rw [hq] at e
        simp only [Rows.uptoBulk] at e
        have h1 := bulk_len (xs0.map (t3D (H := H)))
        rw [List.length_map] at h1
        omega
    exact mores_c A0 c0 xs0 r1 s2 s3 W (tabs_of hL) hAc0 hs0 hsm0 hml hrz1.1 hrz1.2 hsz2 hsz3
  have ht : ∀ t ∈ Tryd.f9.params.toList, Tryd.prog.readableRec t = true ∧ t < Tryd.prog.types.size := by
    rw [Tryd.params9]
    intro t ht
    simp only [List.mem_cons, List.not_mem_nil, or_false] at ht
    rcases ht with rfl <;> exact ⟨by kernel_rfl, of_decide_eq_true (by kernel_rfl)⟩
  refine walk.mono fun e W' ⟨he, hbel⟩ => ?_
  subst he
  exact ⟨_, rfl, post_true hW' rfl rfl rfl rfl rfl Tryd.underlying4 laidOut ht hbel⟩
theorem witness (os : Os) {H : Type} (enc : TypeId × Value → H) :
    (Rows.OpenSpec.upto Rows.priceMoreSpec).preRow enc Tryd.prog Tryd.f9 Rows.priceMoreUptoRow.domain false Rows.priceMoreUptoRow.laid ((laidWorld os).forCall (fun _ _ => 0) ⟨#[], #[.agg #[.slice none 0 0, .string .empty, .string .empty, .int .i64 0, .string .empty, .string .empty]], []⟩).memory #[.agg #[.slice none 0 0, .string .empty, .string .empty, .int .i64 0, .string .empty, .string .empty]] := by
  have hw : (DataW.whole enc Tryd.prog ((laidWorld os).forCall (fun _ _ => 0) ⟨#[], #[.agg #[.slice none 0 0, .string .empty, .string .empty, .int .i64 0, .string .empty, .string .empty]], []⟩).memory Tryd.f9.params.toList Rows.priceMoreSpec.vars false (#[.agg #[.slice none 0 0, .string .empty, .string .empty, .int .i64 0, .string .empty, .string .empty]] : Array Value).toList 8).map (fun x => (x.1, x.2.1)) =
      some ([.agg [.nil, .agg [.lit (.string []), .lit (.string []), .lit (.int .i64 0)], .lit (.string []), .lit (.string [])]], []) := by kernel_rfl
  obtain ⟨⟨x1, x2, x3⟩, hx, hx1⟩ := Option.map_eq_some_iff.1 hw
  simp only [Prod.mk.injEq] at hx1
  obtain ⟨rfl, rfl⟩ := hx1
  exact OpenSpec.preRow_of_cond 8 hx (by kernel_rfl) (fun k hk => by cases hk; kernel_rfl) (by kernel_rfl) (laid_met os _)
set_option maxRecDepth 100000 in
theorem lifted (os : Os) (started : os.Started) (H : Type) (enc : TypeId × Value → H) (F : Stop.Interp) :
    ReturnsInHanded {} Tryd.checked os 9 .any ((Rows.OpenSpec.upto Rows.priceMoreSpec).preRow enc Tryd.prog Tryd.f9 Rows.priceMoreUptoRow.domain false Rows.priceMoreUptoRow.laid) (((Rows.OpenSpec.upto Rows.priceMoreSpec).at F).post enc Tryd.prog Tryd.f9 false true false false) := by
  refine returnsInHanded_of_row (C := Tryd.checked) (s := Rows.OpenSpec.upto Rows.priceMoreSpec) own started (by kernel_rfl) Tryd.func9
    (witness_row_atRef (enc := enc) (C := Tryd.checked) false (laidWorld os) #[.agg #[.slice none 0 0, .string .empty, .string .empty, .int .i64 0, .string .empty, .string .empty]] rfl (by kernel_rfl) (by kernel_rfl) (by kernel_rfl) (witness os enc)) ?_
  intro W base args ds gs before hval hW _ hcond _ hL _ _
  exact contract H enc W base args ds gs before hval hW hL (hcond _ rfl)
end Go.Proofs.YtmpoihejacklnaaDoor.priceMore
