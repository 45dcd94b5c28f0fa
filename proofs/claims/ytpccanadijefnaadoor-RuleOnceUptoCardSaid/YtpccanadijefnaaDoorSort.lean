/- slices.SortFunc at rows that the call owns, by a comparison that is a whole weak order: a sorted rearrangement. No condition. -/
import Derived.Test.YtpccanadijefnaaDoorStr
import Derived.Shelf.SlSortCmp.NoneTotal
import Derived.Shelf.SlSortCmp.WholeK
namespace Go.Proofs.YtpccanadijefnaaDoor
open Go Go.RowKit Go.Shelf
open Go.Sort (SWO HoldsK PermIn SortedIn flatK grow)
theorem flatK_list {α : Type} [Inhabited α] (E : Enc α) (xs : List α) (t : Nat) (ht : t < xs.length * E.k) : (flatK E.e E.k xs.toArray)[t]! = (xs.flatMap E.e)[t]! := by
  have hk : 0 < E.k := by rcases Nat.eq_zero_or_pos E.k with h | h; · rw [h] at ht; simp at ht
                          · exact h
  rw [Go.Sort.get_flatK _ _ _ _ (by simpa using ht)]
  have hq : t / E.k < xs.length := Nat.div_lt_of_lt_mul (by rw [Nat.mul_comm]; exact ht)
  have hr : t % E.k < (E.e xs[t / E.k]).length := by rw [E.len]; exact Nat.mod_lt _ hk
  have h1 := flat_get E xs (t / E.k) _ (t % E.k) _ (List.getElem?_eq_getElem hq) (List.getElem?_eq_getElem hr)
  have hjj : t / E.k * E.k + t % E.k = t := by rw [Nat.mul_comm]; exact Nat.div_add_mod t E.k
  rw [hjj] at h1
  rw [getElem!_pos xs.toArray _ (by simpa using hq)]
  simp only [List.getElem_toArray]
  rw [getElem!_pos (E.e xs[t / E.k]) (t % E.k) hr]
  obtain ⟨h2, h3⟩ := List.getElem?_eq_some_iff.1 h1
  rw [getElem!_pos (xs.flatMap E.e) t h2, h3]
theorem own_holds {α : Type} [Inhabited α] {E : Enc α} {base : Nat} {e : TypeId} {w : World} {g cap : Nat} {xs : List α} (H : Own E base e w (.slice (some ⟨g, 0, none⟩) xs.length cap) xs) : HoldsK E.e E.k w g 0 xs.toArray := by
  intro j hj
  have hj' : j < xs.length * E.k := by simpa using hj
  have hfl : (xs.flatMap E.e).length = xs.length * E.k := H.1
  have h1 := World.ownsRow.cellAt H j hj'
  rw [Nat.zero_add, h1]
  refine ⟨?_, World.ownsRow.frozenAt H j⟩
  rw [flatK_list E xs j hj', List.getElem?_eq_getElem (by omega), getElem!_pos _ _ (by omega)]
  rfl
theorem sorted_grown {α : Type} [Inhabited α] (E : Enc α) (w : World) (g n : Nat) (d : Array α) (os : Array Obj) : w.grownBy (sortWorldK E.e E.k w g 0 n d os) (some g) := by
  refine ⟨rfl, rfl, rfl, ?_, fun k hk hne => ?_⟩
  · simp [sortWorldK, grow, Go.Sort.putRowK, Go.Sort.ahead]
  · have hgk : k ≠ g := fun e => hne (by rw [e])
    have h1 : k < (Go.Sort.putRowK E.e E.k (Go.Sort.ahead w n) g 0 d).heap.size := by simpa [Go.Sort.putRowK, Go.Sort.ahead] using hk
    show ((Go.Sort.putRowK E.e E.k (Go.Sort.ahead w n) g 0 d).heap ++ os)[k]? = _
    rw [Array.getElem?_append, if_pos h1]
    simp [Go.Sort.putRowK, Go.Sort.putRow, Go.Sort.mapBlock, Array.getElem?_modify, Go.Sort.ahead, Ne.symm hgk]
theorem sort_c {P : Program} {ρ : Ren} {α : Type} [Inhabited α] {E : Enc α} {base : Nat} {e : TypeId} (L : SlLaysF0.n6 P ρ) (aE : ∀ w, (isAgg (ρ.t 24)).run P w = .ok true w) (zE : ∀ w, (Go.sizeOf (ρ.t 24)).run P w = .ok E.k w)
    (cf : α → α → Int) (hO : SWO (ltOf cf)) (F : Nat) (eg : ∀ args w, (callFunc F args).run P w = .ok (.enter F args) w) (hcmp : ∀ x y W, Calls P F #[.agg (E.e x).toArray, .agg (E.e y).toArray] W (RetG W (.int .i64 (cf x y))))
    (w : World) (v : Value) (xs : List α) (hown : Own E base e w v xs) (hm : xs.length < 4611686018427387904) :
    Calls P (ρ.f 6) #[v, .func (.func F) #[] #[]] w fun e' w' => e' = .returned (.tuple #[]) ∧ ∃ ys, ys.Perm xs ∧ ys.Pairwise (fun x y => ltOf cf y x = false) ∧ SlV E w' v ys ∧ w.grownBy w' v.ownBlock := by
  have hh := hown
  rcases hown.2 with ⟨rfl, h0⟩ | ⟨g, cap, cur, rfl, hb, hg, h1, h2, _⟩
  · obtain rfl : xs = [] := List.eq_nil_of_length_eq_zero h0
    refine (AnyF.slices_SortFunc_none L none 0 _ w).mono ?_
    rintro e' w' ⟨rfl, rfl⟩
    exact ⟨rfl, [], List.Perm.refl _, List.Pairwise.nil, SlV.nil, ⟨rfl, rfl, rfl, Nat.le_refl _, fun _ _ _ => rfl⟩⟩
  · have hlt : g < w.heap.size := (Array.getElem?_eq_some_iff.1 hg).1
    refine (AnyQ.slices_SortFunc L E.k aE zE E.e E.len E.one cf hO F #[] g 0 cap xs.toArray w eg (fun m os dk _ x y => ?_) (own_holds hh) hlt (by simpa using hm)).mono ?_
    · refine (hcmp x y _).mono ?_
      rintro e' w' ⟨h1, h2⟩
      exact ⟨h1, h2⟩
    · rintro e' w' ⟨rfl, d', n, os, hp, hs, rfl⟩
      have hps : d'.size = xs.length := by simpa using hp.1
      refine ⟨rfl, d'.toList, ?_, ?_, ?_, sorted_grown E w g n d' os⟩
      · have h3 := hp.2.2
        rwa [Array.extract_eq_self_of_le (by rw [hp.1]; exact Nat.le_refl _), Array.extract_eq_self_of_le (Nat.le_refl _)] at h3
      · rw [List.pairwise_iff_getElem]
        intro i j hi hj hij
        have h4 := hs i j (Nat.zero_le _) hij (by simpa [hps] using hj)
        rw [getElem!_pos d' j (by simpa using hj), getElem!_pos d' i (by simpa using hi)] at h4
        simpa using h4
      · refine ⟨_, cap, by simp [hps], by simpa [hps] using h1, by simpa [maxLen] using h2, fun j x hx => ⟨g, 0, rfl, ?_, fun i u hu => ?_⟩⟩
        · exact Nat.lt_of_lt_of_le hlt (sorted_grown E w g n d' os).size
        · have hH := holdsK_sortWorldK E.e E.k w g 0 n xs.toArray d' os hlt (own_holds hh) (by simpa using hp.1)
          have hj : j < d'.toList.length := (List.getElem?_eq_some_iff.1 hx).1
          have hi : i < E.k := by rw [← E.len x]; exact (List.getElem?_eq_some_iff.1 hu).1
          have hji : j * E.k + i < d'.toList.length * E.k := by
            have : (j + 1) * E.k ≤ d'.toList.length * E.k := Nat.mul_le_mul_right _ hj
            rw [Nat.add_mul, Nat.one_mul] at this; omega
          have h5 := (hH (j * E.k + i) (by simpa using hji)).1
          have h6 := flat_get E d'.toList j x i u hx hu
          obtain ⟨h7, h8⟩ := List.getElem?_eq_some_iff.1 h6
          have h9 := flatK_list E d'.toList (j * E.k + i) hji
          simp only [Array.toArray_toList] at h9
          rw [h9, getElem!_pos (d'.toList.flatMap E.e) _ h7, h8] at h5
          rw [Nat.zero_add] at h5 ⊢
          exact h5
end Go.Proofs.YtpccanadijefnaaDoor
