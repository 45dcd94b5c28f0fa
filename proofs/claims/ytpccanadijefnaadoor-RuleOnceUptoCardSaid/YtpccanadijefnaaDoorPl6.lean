/- What a table of blocks is, in plain words: sides that rise, each with all that the list has of it. No condition. -/
import Derived.Test.YtpccanadijefnaaDoorTab2
namespace Go.Proofs.YtpccanadijefnaaDoor
open Go Go.RowKit
theorem sum_perm {l m : List Int} (h : l.Perm m) : l.sum = m.sum := by
  induction h with
  | nil => rfl
  | cons x _ ih => simp [ih]
  | swap x y l => simp only [List.sum_cons]; omega
  | trans _ _ h1 h2 => exact h1.trans h2
/-- How much of a list is of the sides f, t. -/
noncomputable def tot (l : List T3) (f t : ByteArray) : Int := (l.map fun x => if x.f = f ∧ x.t = t then x.n else 0).sum
theorem tot_nil (f t : ByteArray) : tot [] f t = 0 := rfl
theorem tot_cons (x : T3) (l : List T3) (f t : ByteArray) : tot (x :: l) f t = (if x.f = f ∧ x.t = t then x.n else 0) + tot l f t := by simp [tot]
theorem tot_append (l m : List T3) (f t : ByteArray) : tot (l ++ m) f t = tot l f t + tot m f t := by simp [tot]
theorem tot_perm {l m : List T3} (h : l.Perm m) (f t : ByteArray) : tot l f t = tot m f t := sum_perm (h.map _)
theorem tot_none {l : List T3} {f t : ByteArray} (h : (f, t) ∉ keysT l) : tot l f t = 0 := by
  induction l with
  | nil => rfl
  | cons x l ih =>
    simp only [keysT, List.map_cons, List.mem_cons, not_or] at h
    rw [tot_cons, if_neg (fun e => h.1 (by rw [e.1, e.2])), ih h.2]; rfl
theorem mem_keys {l : List T3} {x : T3} (h : x ∈ l) : (x.f, x.t) ∈ keysT l := List.mem_map.2 ⟨x, h, rfl⟩
theorem tot_mem {l : List T3} (hA : ApS l) {x : T3} (h : x ∈ l) : tot l x.f x.t = x.n := by
  induction l with
  | nil => cases h
  | cons y l ih =>
    obtain ⟨h1, h2⟩ := List.pairwise_cons.1 hA
    rw [tot_cons]
    rcases List.mem_cons.1 h with rfl | h
    · rw [if_pos ⟨rfl, rfl⟩, tot_none]
      · omega
      · intro hk
        obtain ⟨z, hz, e⟩ := List.mem_map.1 hk
        injection e with e1 e2
        exact h1 z hz ⟨e1.symm, e2.symm⟩
    · rw [if_neg (fun e : y.f = x.f ∧ y.t = x.t => h1 x h e), ih h2 h]; omega
theorem tot_addL (l : List T3) (x : T3) (f t : ByteArray) : tot (addL l x) f t = tot l f t + if x.f = f ∧ x.t = t then x.n else 0 := by
  induction l with
  | nil => simp [addL, tot_cons, tot_nil]
  | cons y l ih =>
    unfold addL
    split
    · rename_i h
      rw [tot_cons, tot_cons]
      show (if y.f = f ∧ y.t = t then y.n + x.n else 0) + _ = _
      obtain ⟨e1, e2⟩ := h
      rw [← e1, ← e2]
      split <;> omega
    · rw [tot_cons, tot_cons, ih]; omega
theorem keys_addL (l : List T3) (x : T3) (k : ByteArray × ByteArray) : k ∈ keysT (addL l x) ↔ k ∈ keysT l ∨ k = (x.f, x.t) := by
  induction l with
  | nil => simp [addL, keysT]
  | cons y l ih =>
    unfold addL
    split
    · rename_i h
      simp only [keysT, List.map_cons, List.mem_cons]
      rw [← h.1, ← h.2]
      constructor
      · exact .inl
      · rintro (h | h)
        · exact h
        · exact .inl h
    · simp only [keysT, List.map_cons, List.mem_cons] at ih ⊢
      rw [ih]; simp only [or_assoc]
theorem gath_tot (l : List T3) (f t : ByteArray) : tot (gathL l) f t = tot l f t := by
  have : ∀ (l a : List T3), tot (l.foldl addL a) f t = tot a f t + tot l f t := fun l => by
    induction l with
    | nil => simp [tot_nil]
    | cons x l ih => exact fun a => by simp only [List.foldl_cons]; rw [ih, tot_addL, tot_cons]; omega
  have h := this l []
  simpa [gathL, tot_nil] using h
theorem gath_keys (l : List T3) (k : ByteArray × ByteArray) : k ∈ keysT (gathL l) ↔ k ∈ keysT l := by
  have : ∀ (l a : List T3), (k ∈ keysT (l.foldl addL a) ↔ k ∈ keysT a ∨ k ∈ keysT l) := by
    intro l
    induction l with
    | nil => simp [keysT]
    | cons x l ih =>
      intro a
      simp only [List.foldl_cons]
      rw [ih, keys_addL]
      simp [keysT, or_assoc]
  have h := this l []
  simpa [gathL, keysT] using h
/-- ys is the table of l. -/
structure Tab (l ys : List T3) : Prop where
  rise : ys.Pairwise fun x y => ltT x y = true
  keys : ∀ k, k ∈ keysT ys ↔ k ∈ keysT l
  tot : ∀ f t, tot ys f t = tot l f t
theorem rise_aps {ys : List T3} (h : ys.Pairwise fun x y => ltT x y = true) : ApS ys := h.imp fun {a b} h e => by
  rw [ltT_same e.1 e.2 rfl rfl, ltT_irrefl] at h; cases h
theorem TabOf.tab {l ys : List T3} (h : TabOf l ys) : Tab l ys := by
  have hA : ApS ys := by rw [aps_iff]; exact ((h.1.map _).nodup_iff).2 ((aps_iff _).1 (gath_aps l))
  refine ⟨?_, fun k => ?_, fun f t => by rw [tot_perm h.1, gath_tot]⟩
  · have h2 := List.Pairwise.and h.2 hA
    refine h2.imp fun {a b} h => ?_
    cases e : ltT a b
    · exact absurd (ltT_tri e h.1) h.2
    · rfl
  · exact (List.Perm.map (fun x : T3 => (x.f, x.t)) h.1).mem_iff.trans (gath_keys l k)
theorem rise_eq : ∀ {xs ys : List T3}, (xs.Pairwise fun x y => ltT x y = true) → (ys.Pairwise fun x y => ltT x y = true) → (∀ b, b ∈ xs ↔ b ∈ ys) → xs = ys
  | [], [], _, _, _ => rfl
  | [], y :: ys, _, _, h => absurd ((h y).2 (by simp)) (by simp)
  | x :: xs, [], _, _, h => absurd ((h x).1 (by simp)) (by simp)
  | x :: xs, y :: ys, hx, hy, h => by
    obtain ⟨x1, x2⟩ := List.pairwise_cons.1 hx
    obtain ⟨y1, y2⟩ := List.pairwise_cons.1 hy
    have e : x = y := by
      rcases List.mem_cons.1 ((h x).1 (by simp)) with e | hm
      · exact e
      · rcases List.mem_cons.1 ((h y).2 (by simp)) with e | hm'
        · exact e.symm
        · have := ltT_asymm (y1 x hm)
          rw [x1 y hm'] at this; cases this
    subst e
    congr 1
    refine rise_eq x2 y2 fun b => ⟨fun hb => ?_, fun hb => ?_⟩
    · rcases List.mem_cons.1 ((h b).1 (by simp [hb])) with e | hm
      · have := x1 b hb; rw [e, ltT_irrefl] at this; cases this
      · exact hm
    · rcases List.mem_cons.1 ((h b).2 (by simp [hb])) with e | hm
      · have := y1 b hb; rw [e, ltT_irrefl] at this; cases this
      · exact hm
theorem Tab.mem {l ys : List T3} (h : Tab l ys) (b : T3) : b ∈ ys ↔ (b.f, b.t) ∈ keysT l ∧ b.n = Go.Proofs.YtpccanadijefnaaDoor.tot l b.f b.t := by
  have hA := rise_aps h.rise
  rw [← h.keys, ← h.tot]
  constructor
  · exact fun hb => ⟨mem_keys hb, (tot_mem hA hb).symm⟩
  · rintro ⟨hk, hn⟩
    obtain ⟨x, hx, e⟩ := List.mem_map.1 hk
    injection e with e1 e2
    have h3 := tot_mem hA hx
    rw [e1, e2, ← hn] at h3
    have : b = x := by cases b; cases x; simp_all
    rw [this]; exact hx
theorem Tab.uniq {l m ys zs : List T3} (h : Tab l ys) (k : Tab m zs) (hk : ∀ q, q ∈ keysT l ↔ q ∈ keysT m) (ht : ∀ f t, Go.Proofs.YtpccanadijefnaaDoor.tot l f t = Go.Proofs.YtpccanadijefnaaDoor.tot m f t) : ys = zs :=
  rise_eq h.rise k.rise fun b => by rw [h.mem, k.mem, hk, ht]
theorem Tab.self {ys : List T3} (h : ys.Pairwise fun x y => ltT x y = true) : Tab ys ys := ⟨h, fun _ => Iff.rfl, fun _ _ => rfl⟩
theorem TabOf.sum {l ys : List T3} (h : TabOf l ys) : sumT ys = sumT l := (sum_perm (h.1.map _)).trans (gath_sum l)
theorem TabOf.len {l ys : List T3} (h : TabOf l ys) : ys.length = (gathL l).length := h.1.length_eq
theorem rise_of {ys : List T3} (h : ys.Pairwise fun x y => ltT x y = true) : riseT ys = true := (rise_iff ys).2 fun i hi => List.pairwise_iff_getElem.1 h i (i + 1) (by omega) hi (by omega)
theorem of_rise {ys : List T3} (h : riseT ys = true) : ys.Pairwise fun x y => ltT x y = true := by
  have h' := (rise_iff ys).1 h
  rw [List.pairwise_iff_getElem]
  intro i j hi hj hij
  obtain ⟨d, rfl⟩ : ∃ d, j = i + 1 + d := ⟨j - i - 1, by omega⟩
  clear hij
  induction d with
  | zero => exact h' i hj
  | succ d ih => exact ltT_trans (ih (by omega)) (h' (i + 1 + d) hj)
theorem bchk_with {b x : T3} (h1 : b.f = x.f) (h2 : b.t = x.t) (hx : bchk x = 0) (hn : 1 ≤ b.n) (hm : b.n ≤ 1073741824) : bchk b = 0 := by
  unfold bchk at *
  rw [h1, h2]
  have h3 : ¬ (b.n < 1 ∨ 1073741824 < b.n) := by omega
  rw [if_neg h3]
  repeat' split at hx
  all_goals first | (exfalso; omega) | skip
  all_goals simp_all
theorem addL_one (l : List T3) (x : T3) (h : ∀ b ∈ l, 1 ≤ b.n) (hx : 1 ≤ x.n) : ∀ b ∈ addL l x, 1 ≤ b.n := by
  induction l with
  | nil => simpa [addL] using hx
  | cons y l ih =>
    have hy := h y (by simp)
    have ih := ih fun b hb => h b (by simp [hb])
    unfold addL
    split
    · intro b hb
      rcases List.mem_cons.1 hb with rfl | hb
      · show 1 ≤ y.n + x.n; omega
      · exact h b (by simp [hb])
    · intro b hb
      rcases List.mem_cons.1 hb with rfl | hb
      · exact hy
      · exact ih b hb
theorem gath_one (l : List T3) (h : ∀ b ∈ l, 1 ≤ b.n) : ∀ b ∈ gathL l, 1 ≤ b.n := by
  have : ∀ (l a : List T3), (∀ b ∈ l, 1 ≤ b.n) → (∀ b ∈ a, 1 ≤ b.n) → ∀ b ∈ l.foldl addL a, 1 ≤ b.n := fun l => by
    induction l with
    | nil => exact fun a _ h => h
    | cons x l ih => exact fun a h1 h2 => ih _ (fun b hb => h1 b (by simp [hb])) (addL_one a x h2 (h1 x (by simp)))
  exact this l [] h (by simp)
theorem tabE_zero {l : List T3} : tabE l = 0 ↔ eachT l = 0 ∧ sumT l ≤ 1073741824 ∧ (gathL l).length ≤ 4096 := by
  unfold tabE
  by_cases h : eachT l = 0
  · simp only [h, ne_eq, not_true_eq_false, if_false, true_and]
    repeat' split
    all_goals omega
  · simp [h]
/-- A table may be. -/
theorem TabOf.ok {l ys : List T3} (h : TabOf l ys) (he : tabE l = 0) : tchk ys = 0 := by
  obtain ⟨h1, h2, h3⟩ := tabE_zero.1 he
  have h1' := (each_all l).1 h1
  have ht := h.tab
  have hs := h.sum
  have hone : ∀ b ∈ ys, 1 ≤ b.n := fun b hb => gath_one l (fun x hx => (bchk_n x (h1' x hx)).1) b (h.1.mem_iff.1 hb)
  have hle := mem_sum ys fun b hb => by have := hone b hb; omega
  have he' : eachT ys = 0 := (each_all ys).2 fun b hb => by
    have hk := (ht.keys (b.f, b.t)).1 (mem_keys hb)
    obtain ⟨x, hx, e⟩ := List.mem_map.1 hk
    injection e with e1 e2
    exact bchk_with e1.symm e2.symm (h1' x hx) (hone b hb) (by have := hle b hb; omega)
  unfold tchk
  rw [if_neg (by simp [he']), if_neg (by rw [rise_of ht.rise]; simp), if_neg (by rw [h.len]; omega)]
theorem tabE_perm {l m : List T3} (h : l.Perm m) : tabE l = 0 ↔ tabE m = 0 := by
  have h1 : eachT l = 0 ↔ eachT m = 0 := by
    rw [each_all, each_all]
    exact ⟨fun k b hb => k b (h.mem_iff.2 hb), fun k b hb => k b (h.mem_iff.1 hb)⟩
  have h2 : sumT l = sumT m := sum_perm (h.map _)
  have h3 : (keysT (gathL l)).length = (keysT (gathL m)).length := by
    refine List.Perm.length_eq ?_
    refine (List.perm_ext_iff_of_nodup ((aps_iff _).1 (gath_aps l)) ((aps_iff _).1 (gath_aps m))).2 fun k => ?_
    rw [gath_keys, gath_keys]
    exact (h.map fun x : T3 => (x.f, x.t)).mem_iff
  simp only [keysT, List.length_map] at h3
  rw [tabE_zero, tabE_zero, h1, h2, h3]
theorem TabOf.perm {l m ys zs : List T3} (h : TabOf l ys) (k : TabOf m zs) (hp : l.Perm m) : ys = zs :=
  h.tab.uniq k.tab (fun _ => (hp.map fun x : T3 => (x.f, x.t)).mem_iff) fun f t => tot_perm hp f t
end Go.Proofs.YtpccanadijefnaaDoor
