/- Elements laid anew in owned rows of three-celled elements; 'clear' of a row's end. No condition. -/
import Derived.Test.YtpccanadijefnaaDoorOwnSet
import Derived.Lib.SliceRun
import Derived.Laws.IdiomCopy
namespace Go.Proofs.YtpccanadijefnaaDoor
open Go Go.RowKit
/-- An element laid over another one. -/
theorem Own.put3 {base : Nat} {e : TypeId} {w : World} {g cap : Nat} {xs : List T3} (h : Own eT3 base e w (.slice (some ⟨g, 0, none⟩) xs.length cap) xs) (j : Nat) (hj : j < xs.length) (y : T3) :
    Own eT3 base e (((w.setCell ⟨g, j * 3, none⟩ (.string y.f)).setCell ⟨g, j * 3 + 1, none⟩ (.string y.t)).setCell ⟨g, j * 3 + 2, none⟩ (.int .i64 y.n)) (.slice (some ⟨g, 0, none⟩) xs.length cap) (xs.set j y) ∧
      w.grownBy (((w.setCell ⟨g, j * 3, none⟩ (.string y.f)).setCell ⟨g, j * 3 + 1, none⟩ (.string y.t)).setCell ⟨g, j * 3 + 2, none⟩ (.int .i64 y.n)) (some g) := by
  have h1 := h.cellset j hj 0 (by decide) (.string y.f) ⟨y.f, xs[j].t, xs[j].n⟩ rfl
  have e1 : (xs.set j ⟨y.f, xs[j].t, xs[j].n⟩).length = xs.length := by simp
  have h2' := h1.1
  rw [← e1] at h2'
  have h2 := h2'.cellset j (by simpa using hj) 1 (by decide) (.string y.t) ⟨y.f, y.t, xs[j].n⟩ (by simp [eT3])
  have h3' := h2.1
  rw [List.set_set, e1] at h3'
  have e2 : (xs.set j ⟨y.f, y.t, xs[j].n⟩).length = xs.length := by simp
  rw [← e2] at h3'
  have h3 := h3'.cellset j (by simpa using hj) 2 (by decide) (.int .i64 y.n) y (by simp [eT3])
  have h4 := h3.1
  rw [List.set_set, e2] at h4
  exact ⟨h4, (h1.2.trans h2.2).trans h3.2⟩
/-- 'clear' of some cells that are there. -/
theorem run_clear3 {P : Program} (w : World) (t e ty : TypeId) (z : Value) (ht : P.underlying t = some (.slice e)) (hv : ∀ w, (zeroValue e).run P w = .ok z w) (h1 : ∀ v ∈ z.cells, v.oneCell' = true) (b o n c : Nat)
    (hc : ∀ j, j < n * z.cells.size → (w.cell? ⟨b, o + j, none⟩).isSome = true) (hf : ∀ j, j < n * z.cells.size → w.frozen? ⟨b, o + j, none⟩ = false) :
    ∃ vs : List Value, vs.length = n * z.cells.size ∧ (Builtin.clear_ #[t] ty #[.slice (some ⟨b, o, none⟩) n c]).run P w = .ok (.tuple #[]) (w.setCells b o vs) := by
  have hl : (Builtin.zeroCells z.cells n).toList.length = n * z.cells.size := by simp [Builtin.zeroCells]
  rcases Nat.eq_zero_or_pos n with rfl | hn
  · refine ⟨[], by simp, ?_⟩
    simp [Builtin.clear_, run_underlying ht, World.setCells]
  · have hst := run_storeCells_cells (P := P) b o (Builtin.zeroCells z.cells n).toList 0 w (by rw [hl]; simpa using hc) (by rw [hl]; simpa using hf) (by
      intro v hv'
      have : v ∈ z.cells := by
        simp only [Builtin.zeroCells, Array.toList_map, List.mem_map, Array.mem_toList_iff, Array.mem_range] at hv'
        obtain ⟨i, hi, rfl⟩ := hv'
        have hz : 0 < z.cells.size := by
          rcases Nat.eq_zero_or_pos z.cells.size with h0 | h0
          · rw [h0] at hi; simp at hi
          · exact h0
        rw [getElem!_pos z.cells _ (Nat.mod_lt _ hz)]
        exact Array.getElem_mem _
      exact h1 v this)
    simp only [Nat.add_zero] at hst
    obtain ⟨m, rfl⟩ : ∃ m, n = m + 1 := ⟨n - 1, by omega⟩
    exact ⟨_, hl, by simp [Builtin.clear_, run_underlying ht, hv, hst]⟩
theorem grown_setCells (b : Nat) : ∀ (vs : List Value) (o : Nat) (w : World), w.grownBy (w.setCells b o vs) (some b)
  | [], _, w => ⟨rfl, rfl, rfl, Nat.le_refl _, fun _ _ _ => rfl⟩
  | v :: r, o, w => World.grownBy.trans (b := w.setCell ⟨b, o, none⟩ v) ⟨rfl, rfl, rfl, by simp, fun i hi hne => Deep.blk_setCell_other w ⟨b, o, none⟩ v i (fun e => hne (by rw [e]))⟩ (grown_setCells b r (o + 1) _)
/-- The row's first elements are as they were. -/
theorem SlA.cleared {α : Type} {E : Enc α} {w : World} {g k : Nat} {xs : List α} (h : SlA E w (some ⟨g, 0, none⟩) xs) (hk : xs.length * E.k ≤ k) (vs : List Value) : SlA E (w.setCells g k vs) (some ⟨g, 0, none⟩) xs := fun j x hx => by
  obtain ⟨b, o, hA, hlt, hc⟩ := h j x hx
  injection hA with hA
  injection hA with h1 h2
  subst h1 h2
  refine ⟨_, _, rfl, Nat.lt_of_lt_of_le hlt (grown_setCells _ vs k w).size, fun i u hu => ?_⟩
  rw [World.cell?_setCells_out]
  · exact hc i u hu
  · intro _ _
    left
    have hi : i < E.k := by rw [← E.len x]; exact (List.getElem?_eq_some_iff.1 hu).1
    have hj := (List.getElem?_eq_some_iff.1 hx).1
    have : (j + 1) * E.k ≤ xs.length * E.k := Nat.mul_le_mul_right _ hj
    rw [Nat.add_mul] at this
    show 0 + j * E.k + i < k
    omega
end Go.Proofs.YtpccanadijefnaaDoor
