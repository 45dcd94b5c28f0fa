/- slices.SortFunc at rows that the call owns: what is sorted is owned. No condition. -/
import Derived.Test.YtpccanadijefnaaDoorSort
import Derived.Test.YtpccanadijefnaaDoorOwnSet
namespace Go.Proofs.YtpccanadijefnaaDoor
open Go Go.RowKit Go.Shelf
open Go.Sort (SWO HoldsK PermIn SortedIn flatK grow)
theorem sorted_block {α : Type} [Inhabited α] (enc : α → List Value) (k : Nat) (w : World) (g off n : Nat) (d : Array α) (os : Array Obj) (cur : Array Value) (e : TypeId) (fr : Nat × Nat) (h : w.heap[g]? = some (.cells cur e fr)) :
    (sortWorldK enc k w g off n d os).heap[g]? = some (.cells (Go.Sort.putCells id off (flatK enc k d) cur) e fr) := by
  obtain ⟨hlt, hh⟩ := Array.getElem?_eq_some_iff.1 h
  show ((Go.Sort.putRowK enc k (Go.Sort.ahead w n) g off d).heap ++ os)[g]? = _
  rw [Array.getElem?_append, if_pos (by simpa [Go.Sort.putRowK, Go.Sort.putRow, Go.Sort.mapBlock, Go.Sort.ahead] using hlt)]
  simp [Go.Sort.putRowK, Go.Sort.putRow, Go.Sort.mapBlock, Array.getElem?_modify, Go.Sort.ahead, h, Go.Sort.onCells]
/-- A row's block, and its cells: the row is owned. -/
theorem own_of {α : Type} {E : Enc α} {base : Nat} {e : TypeId} {w : World} {g cap : Nat} {ys : List α} {cur : Array Value} (hb : base ≤ g) (hg : w.heap[g]? = some (.cells cur e (0, 0))) (h1 : ys.length ≤ cap) (h2 : cap ≤ maxLen) (hs : cur.size = cap * E.k)
    (hc : ∀ j, j < ys.length * E.k → w.cell? ⟨g, j, none⟩ = (ys.flatMap E.e)[j]?) : Own E base e w (.slice (some ⟨g, 0, none⟩) ys.length cap) ys := by
  have hfl : (ys.flatMap E.e).length = ys.length * E.k := by
    induction ys with
    | nil => simp
    | cons y l ih => 
      have : ∀ l : List α, (l.flatMap E.e).length = l.length * E.k := fun l => by
        induction l with
        | nil => simp
        | cons y l ih => simp only [List.flatMap_cons, List.length_append, E.len, ih, List.length_cons, Nat.add_mul]; omega
      exact this _
  refine ⟨hfl, .inr ⟨g, cap, cur, rfl, hb, hg, h1, h2, hs, ?_⟩⟩
  have hle : ys.length * E.k ≤ cur.size := by rw [hs]; exact Nat.mul_le_mul_right _ h1
  refine List.ext_getElem? fun j => ?_
  rw [List.getElem?_take]
  by_cases hj : j < ys.length * E.k
  · rw [if_pos hj, ← hc j hj]
    unfold World.cell?
    simp only [hg]
    simp
  · rw [if_neg hj, List.getElem?_eq_none (by omega)]
theorem sort_own {P : Program} {ρ : Ren} {α : Type} [Inhabited α] {E : Enc α} {base : Nat} {e : TypeId} (L : SlLaysF0.n6 P ρ) (aE : ∀ w, (isAgg (ρ.t 24)).run P w = .ok true w) (zE : ∀ w, (Go.sizeOf (ρ.t 24)).run P w = .ok E.k w)
    (cf : α → α → Int) (hO : SWO (ltOf cf)) (F : Nat) (eg : ∀ args w, (callFunc F args).run P w = .ok (.enter F args) w) (hcmp : ∀ x y W, Calls P F #[.agg (E.e x).toArray, .agg (E.e y).toArray] W (RetG W (.int .i64 (cf x y))))
    (w : World) (v : Value) (xs : List α) (hown : Own E base e w v xs) (hm : xs.length < 4611686018427387904) :
    Calls P (ρ.f 6) #[v, .func (.func F) #[] #[]] w fun e' w' => e' = .returned (.tuple #[]) ∧ ∃ ys, ys.Perm xs ∧ ys.Pairwise (fun x y => ltOf cf y x = false) ∧ Own E base e w' v ys ∧ w.grownBy w' v.ownBlock := by
  have hh := hown
  rcases hown.2 with ⟨rfl, h0⟩ | ⟨g, cap, cur, rfl, hb, hg, h1, h2, hcs, _⟩
  · obtain rfl : xs = [] := List.eq_nil_of_length_eq_zero h0
    refine (AnyF.slices_SortFunc_none L none 0 _ w).mono ?_
    rintro e' w' ⟨rfl, rfl⟩
    exact ⟨rfl, [], List.Perm.refl _, List.Pairwise.nil, Own.nil _, ⟨rfl, rfl, rfl, Nat.le_refl _, fun _ _ _ => rfl⟩⟩
  · have hlt : g < w.heap.size := (Array.getElem?_eq_some_iff.1 hg).1
    refine (AnyQ.slices_SortFunc L E.k aE zE E.e E.len E.one cf hO F #[] g 0 cap xs.toArray w eg (fun m os dk _ x y => ?_) (own_holds hh) hlt (by simpa using hm)).mono ?_
    · refine (hcmp x y _).mono ?_
      rintro e' w' ⟨h1, h2⟩
      exact ⟨h1, h2⟩
    · rintro e' w' ⟨rfl, d', n, os, hp, hs, rfl⟩
      have hps : d'.size = xs.length := by simpa using hp.1
      refine ⟨rfl, d'.toList, ?_, ?_, ?_, sorted_grown E w g n d' os⟩
      · have h3 := hp.2.2
        rwa [Array.extract_eq_self_of_le (by rw [hp.1]; exact Nat.le_refl _), Array.extract_eq_self_of_le (Nat.le_refl _)] at h3
      · rw [List.pairwise_iff_getElem]
        intro i j hi hj hij
        have h4 := hs i j (Nat.zero_le _) hij (by simpa [hps] using hj)
        rw [getElem!_pos d' j (by simpa using hj), getElem!_pos d' i (by simpa using hi)] at h4
        simpa using h4
      · have hbk := sorted_block E.e E.k w g 0 n d' os cur e (0, 0) hg
        have hlen : d'.toList.length = xs.length := by simpa using hps
        have ho := own_of (E := E) (ys := d'.toList) (cap := cap) hb hbk (by omega) h2 (by simpa [Go.Sort.putCells] using hcs) (fun j hj => by
          have hH := holdsK_sortWorldK E.e E.k w g 0 n xs.toArray d' os hlt (own_holds hh) (by simpa using hp.1)
          have h5 := (hH j (by simpa using hj)).1
          have h9 := flatK_list E d'.toList j hj
          simp only [Array.toArray_toList] at h9
          have h7 : j < (d'.toList.flatMap E.e).length := by
            have hfl : ∀ l : List α, (l.flatMap E.e).length = l.length * E.k := fun l => by
              induction l with
              | nil => simp
              | cons y l ih => simp only [List.flatMap_cons, List.length_append, E.len, ih, List.length_cons, Nat.add_mul]; omega
            rw [hfl]; exact hj
          rw [h9, getElem!_pos (d'.toList.flatMap E.e) _ h7, Nat.zero_add] at h5
          rw [List.getElem?_eq_getElem h7]
          exact h5)
        rwa [hlen] at ho
end Go.Proofs.YtpccanadijefnaaDoor
