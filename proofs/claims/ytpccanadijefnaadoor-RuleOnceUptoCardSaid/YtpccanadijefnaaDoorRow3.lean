/- A struct of three one-celled fields as an argument. No condition. -/
import Derived.Test.YtpccanadijefnaaDoorRow
import Derived.Lib.SmallJoins
import Derived.ChangeMaps5
namespace Go.Proofs.YtpccanadijefnaaDoor
open Go Go.ChangeShapes Go.WideShapes Go.ChangeAt Go.RowKit Go.Deep Go.Lib Go.ChangeMaps Go.Joins
section
variable {H : Type} {enc : TypeId × Value → H}
theorem open_r3 {P : Program} {W : World} {base : Nat} {sp : Nat → Bool} {held : Bool} {r : Reach} {b0 : Nat} {t s i : TypeId} {f0 f1 f2 : Field} (ht : P.underlying t = some (.struct #[f0, f1, f2])) (hs : P.underlying s = some .string) (hi : P.underlying i = some (.int .i64))
    (hf : (f0.type == s && f1.type == s && f2.type == i) = true) (hone : oneCellFields P #[f0, f1, f2] = true) (hC : P.cellsOf t = 3)
    {v : Value} {d : DataW H} {ps : List MemPlace} (hval : Value.okWide P W r b0 t v) (h : DataW.Trod enc P W base sp held t v d ps) :
    ∃ x : T3, v = .agg #[.string x.f, .string x.t, .int .i64 x.n] ∧ d = t3D x ∧ ps = [] ∧ (Lit.int .i64 x.n).wf = true := by
  simp only [Bool.and_eq_true, beq_iff_eq] at hf
  obtain ⟨⟨e0, e1⟩, e2⟩ := hf
  obtain ⟨v0, v1, v2, y0, y1, y2, n, rfl, rfl, rfl, u0, u1, u2⟩ := open_agg3 ht hone hC hval h
  rw [e0] at u0
  rw [e1] at u1
  rw [e2] at u2
  obtain ⟨s0, g0, d0, _⟩ := DataW.trod_string hs u0
  obtain ⟨s1, g1, d1, _⟩ := DataW.trod_string hs u1
  obtain ⟨p, g2, d2, hw⟩ := DataW.trod_int hi u2
  simp only [List.cons.injEq, and_true] at g0 g1 g2
  subst g0; subst g1; subst g2
  refine ⟨⟨s0, s1, p⟩, rfl, ?_, ?_, hw⟩
  · rw [d0, d1, d2]; rfl
  · rw [d0, d1, d2]; rfl
theorem small_r3 {x : T3} (hb : Rows.uptoBulk (t3D (H := H) x) ≤ 1048576) : x.f.size ≤ 1048576 ∧ x.t.size ≤ 1048576 := by
  simp only [t3D, Rows.uptoBulk, Rows.uptoBulkAll, Array.length_toList] at hb
  have e1 : x.f.size = x.f.data.size := rfl
  have e2 : x.t.size = x.t.data.size := rfl
  omega
end
end Go.Proofs.YtpccanadijefnaaDoor
