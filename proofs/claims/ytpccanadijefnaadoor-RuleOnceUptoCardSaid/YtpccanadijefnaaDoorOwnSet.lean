/- Cells laid anew in rows that the call owns. No condition. -/
import Derived.Test.YtpccanadijefnaaDoorBase
import Derived.Deep.Heap
namespace Go.Proofs.YtpccanadijefnaaDoor
open Go Go.RowKit
theorem flat_cell {α : Type} (E : Enc α) (i : Nat) (u : Value) (hi : i < E.k) : ∀ (xs : List α) (j : Nat) (y : α) (hj : j < xs.length), E.e y = (E.e xs[j]).set i u → (xs.flatMap E.e).set (j * E.k + i) u = (xs.set j y).flatMap E.e
  | x :: xs, 0, y, _, hy => by
    simp only [List.flatMap_cons, List.set_cons_zero, Nat.zero_mul, Nat.zero_add]
    rw [List.set_append_left _ _ (by rw [E.len]; exact hi), hy]; rfl
  | x :: xs, j + 1, y, hj, hy => by
    have ih := flat_cell E i u hi xs j y (by simpa using hj) hy
    simp only [List.flatMap_cons, List.set_cons_succ]
    rw [← ih, List.set_append_right _ _ (by rw [E.len, Nat.add_mul]; omega), E.len]
    congr 2
    rw [Nat.add_mul]; omega
theorem Own.cellset {α : Type} {E : Enc α} {base : Nat} {e : TypeId} {w : World} {g cap : Nat} {xs : List α} (h : Own E base e w (.slice (some ⟨g, 0, none⟩) xs.length cap) xs) (j : Nat) (hj : j < xs.length) (i : Nat) (hi : i < E.k) (u : Value) (y : α) (hy : E.e y = (E.e xs[j]).set i u) :
    Own E base e (w.setCell ⟨g, j * E.k + i, none⟩ u) (.slice (some ⟨g, 0, none⟩) xs.length cap) (xs.set j y) ∧ w.grownBy (w.setCell ⟨g, j * E.k + i, none⟩ u) (some g) := by
  have h1 := World.ownsRow.stored h (j * E.k + i) u
  refine ⟨?_, h1.2⟩
  unfold Own
  rw [List.length_set, ← flat_cell E i u hi xs j y hj hy]
  exact h1.1
/-- An element's cells, in a row that the call owns. -/
theorem Own.at {α : Type} {E : Enc α} {base : Nat} {e : TypeId} {w : World} {g cap n : Nat} {xs : List α} (h : Own E base e w (.slice (some ⟨g, 0, none⟩) n cap) xs) (j : Nat) (hj : j < xs.length) (i : Nat) (u : Value) (hu : (E.e xs[j])[i]? = some u) : w.cell? ⟨g, j * E.k + i, none⟩ = some u := by
  have h1 := World.ownsRow.cells h (g := g) rfl (j * E.k + i) u (flat_get E xs j _ i u (List.getElem?_eq_getElem hj) hu)
  have ha : (⟨g, 0, none⟩ : Addr).add (j * E.k + i) = ⟨g, j * E.k + i, none⟩ := by unfold Addr.add; split <;> simp_all
  rwa [ha] at h1
theorem Own.form {α : Type} {E : Enc α} {base : Nat} {e : TypeId} {w : World} {v : Value} {xs : List α} (h : Own E base e w v xs) (hn : 0 < xs.length) : ∃ g cap, v = .slice (some ⟨g, 0, none⟩) xs.length cap ∧ base ≤ g ∧ g < w.heap.size ∧ xs.length ≤ cap ∧ cap ≤ maxLen ∧ ∃ cur, w.heap[g]? = some (.cells cur e (0, 0)) := by
  rcases h.2 with ⟨_, h0⟩ | ⟨g, cap, cur, hv, hb, hg, h1, h2, _⟩
  · omega
  · exact ⟨g, cap, hv, hb, (Array.getElem?_eq_some_iff.1 hg).1, h1, h2, cur, hg⟩
/-- An owned row's elements, one by one, laid over by other ones. -/
theorem Own.put {α : Type} {E : Enc α} {base : Nat} {e : TypeId} {w : World} {v : Value} {xs : List α} (h : Own E base e w v xs) : v.ownBlock = none ∨ ∃ g, v.ownBlock = some g ∧ g < w.heap.size := by
  rcases h.2 with ⟨rfl, _⟩ | ⟨g, cap, cur, rfl, hb, hg, h1, h2, _⟩
  · exact .inl rfl
  · exact .inr ⟨g, rfl, (Array.getElem?_eq_some_iff.1 hg).1⟩
end Go.Proofs.YtpccanadijefnaaDoor
