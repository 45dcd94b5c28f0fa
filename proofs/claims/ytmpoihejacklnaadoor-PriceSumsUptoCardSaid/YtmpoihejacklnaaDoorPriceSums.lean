/- 'PriceSums' of the package erratalaw12 answers true, whatever rules, token and word it is given, where what it reads is of bulk at most 1048576 and the tables of unicode/utf8 hold what their text lays. -/
import Derived.Test.YtmpoihejacklnaaDoorK806
import Derived.Test.YtmpoihejacklnaaDoorW12d
namespace Go.Proofs.YtmpoihejacklnaaDoor.priceSums
open Go Go.ChangeShapes Go.WideShapes Go.ChangeAt Go.RowKit Go.Deep Go.ChangeMaps
set_option maxHeartbeats 1000000 in
set_option maxRecDepth 100000 in
theorem contract (H : Type) (enc : TypeId × Value → H) (W : World) (base : Nat) (args : Array Value) (ds gs : List (DataW H)) (before : List MemPlace)
    (hval : ∀ (j : Nat) t v, Tryd.f8.params[j]? = some t → args[j]? = some v → Value.okWide Tryd.prog W .any base t v)
    (hW : DataW.Whole enc Tryd.prog Tryd.f8.params.toList Rows.priceSumsSpec.vars false W args.toList ds gs before) (hL : laidMetH Tryd.prog Rows.priceSumsUptoRow.laid W) (hk : Rows.uptoSmall H (ds ++ gs) = true) :
    Calls Tryd.prog 8 args W fun e W' => ∃ v, e = .returned v ∧ Rows.priceSumsSpec.post enc Tryd.prog Tryd.f8 false true false false W args v W' := by
  have hW' := hW
  obtain ⟨p, q, hA0, hV, rfl, hfz, hnd⟩ := hW
  have hA : DataW.TrodAll enc Tryd.prog W 0 (fun _ => true) true Tryd.f8.params.toList args.toList ds p := hA0
  rw [Tryd.params8] at hA hval
  obtain ⟨v0, v1, v2, d0, d1, d2, p0, p1, p2, hargs, rfl, rfl, h0, h1, h2⟩ := trodAll_three hA
  obtain rfl : args = #[v0, v1, v2] := by cases args; simp_all
  obtain ⟨rfl, rfl⟩ := trodVars_none hV
  have hcl0 : v0.cells = #[v0] := by
    obtain ⟨a, l, c, rfl⟩ := okWide_slice Tryd.underlying22 (hval 0 22 v0 rfl rfl)
    rfl
  obtain ⟨A0, c0, xs0, spare0, rfl, hAc0, hxc0, hcm0, hs0, hwf0, hd0⟩ := open_t3 Tryd.underlying22 Tryd.underlying49 Tryd.underlying9 Tryd.underlying3 (by kernel_rfl) (by kernel_rfl) (by kernel_rfl) (by kernel_rfl) hcl0 h0
  obtain ⟨s1, rfl, rfl, rfl, hz1⟩ := open_string Tryd.underlying9 (hval 1 9 v1 rfl rfl) h1
  obtain ⟨s2, rfl, rfl, rfl, hz2⟩ := open_string Tryd.underlying9 (hval 2 9 v2 rfl rfl) h2
  clear hA0
  have hb : Rows.uptoBulkAll [d0, .lit (.string s1.data.toList), .lit (.string s2.data.toList)] ≤ 1048576 := by simpa [Rows.uptoSmall] using hk
  have hsm0 := small_of hd0 (Nat.le_trans (bulk_mem (by simp)) hb)
  have hsz1 : s1.size ≤ 1048576 := by
    have h1 := Nat.le_trans (bulk_mem (d := .lit (.string s1.data.toList)) (by simp)) hb
    simp only [Rows.uptoBulk, Array.length_toList] at h1
    have e1 : s1.size = s1.data.size := rfl
    omega
  have hsz2 : s2.size ≤ 1048576 := by
    have h1 := Nat.le_trans (bulk_mem (d := .lit (.string s2.data.toList)) (by simp)) hb
    simp only [Rows.uptoBulk, Array.length_toList] at h1
    have e1 : s2.size = s2.data.size := rfl
    omega
  have walk : Calls Tryd.prog 8 #[.slice A0 xs0.length c0, .string s1, .string s2] W (Ret W (.bool true)) := by
    exact sumss_c A0 c0 xs0 s1 s2 W (tabs_of hL) hs0 hsm0 hsz1 hsz2
  have ht : ∀ t ∈ Tryd.f8.params.toList, Tryd.prog.readableRec t = true ∧ t < Tryd.prog.types.size := by
    rw [Tryd.params8]
    intro t ht
    simp only [List.mem_cons, List.not_mem_nil, or_false] at ht
    rcases ht with rfl | rfl | rfl <;> exact ⟨by kernel_rfl, of_decide_eq_true (by kernel_rfl)⟩
  refine walk.mono fun e W' ⟨he, hbel⟩ => ?_
  subst he
  exact ⟨_, rfl, post_true hW' rfl rfl rfl rfl rfl Tryd.underlying4 laidOut ht hbel⟩
theorem witness (os : Os) {H : Type} (enc : TypeId × Value → H) :
    (Rows.OpenSpec.upto Rows.priceSumsSpec).preRow enc Tryd.prog Tryd.f8 Rows.priceSumsUptoRow.domain false Rows.priceSumsUptoRow.laid ((laidWorld os).forCall (fun _ _ => 0) ⟨#[], #[.slice none 0 0, .string .empty, .string .empty], []⟩).memory #[.slice none 0 0, .string .empty, .string .empty] := by
  have hw : (DataW.whole enc Tryd.prog ((laidWorld os).forCall (fun _ _ => 0) ⟨#[], #[.slice none 0 0, .string .empty, .string .empty], []⟩).memory Tryd.f8.params.toList Rows.priceSumsSpec.vars false (#[.slice none 0 0, .string .empty, .string .empty] : Array Value).toList 8).map (fun x => (x.1, x.2.1)) =
      some ([.nil, .lit (.string []), .lit (.string [])], []) := by kernel_rfl
  obtain ⟨⟨x1, x2, x3⟩, hx, hx1⟩ := Option.map_eq_some_iff.1 hw
  simp only [Prod.mk.injEq] at hx1
  obtain ⟨rfl, rfl⟩ := hx1
  exact OpenSpec.preRow_of_cond 8 hx (by kernel_rfl) (fun k hk => by cases hk; kernel_rfl) (by kernel_rfl) (laid_met os _)
set_option maxRecDepth 100000 in
theorem lifted (os : Os) (started : os.Started) (H : Type) (enc : TypeId × Value → H) (F : Stop.Interp) :
    ReturnsInHanded {} Tryd.checked os 8 .any ((Rows.OpenSpec.upto Rows.priceSumsSpec).preRow enc Tryd.prog Tryd.f8 Rows.priceSumsUptoRow.domain false Rows.priceSumsUptoRow.laid) (((Rows.OpenSpec.upto Rows.priceSumsSpec).at F).post enc Tryd.prog Tryd.f8 false true false false) := by
  refine returnsInHanded_of_row (C := Tryd.checked) (s := Rows.OpenSpec.upto Rows.priceSumsSpec) own started (by kernel_rfl) Tryd.func8
    (witness_row_atRef (enc := enc) (C := Tryd.checked) false (laidWorld os) #[.slice none 0 0, .string .empty, .string .empty] rfl (by kernel_rfl) (by kernel_rfl) (by kernel_rfl) (witness os enc)) ?_
  intro W base args ds gs before hval hW _ hcond _ hL _ _
  exact contract H enc W base args ds gs before hval hW hL (hcond _ rfl)
end Go.Proofs.YtmpoihejacklnaaDoor.priceSums
