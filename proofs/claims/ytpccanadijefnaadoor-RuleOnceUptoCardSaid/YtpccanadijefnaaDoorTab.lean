/- count.Table: what it gathers, and in which order. No condition. -/
import Derived.Test.YtpccanadijefnaaDoorCnt2
import Derived.Test.YtpccanadijefnaaDoorMap
import Derived.Test.YtpccanadijefnaaDoorSort
import Derived.Test.YtpccanadijefnaaDoorOrd
namespace Go.Proofs.YtpccanadijefnaaDoor
open Go Go.RowKit Go.Shelf
open Go.Sort (SWO)
/-- Of the same sides. -/
def SameS (a b : T3) : Prop := a.f = b.f ∧ a.t = b.t
noncomputable instance (a b : T3) : Decidable (SameS a b) := Classical.propDecidable _
theorem kv_inj {a b : T3} : kv a = kv b ↔ SameS a b := by
  unfold kv SameS
  constructor
  · intro h; injection h with h; simp at h; exact h
  · rintro ⟨h1, h2⟩; rw [h1, h2]
/-- A block put to those that are gathered. -/
noncomputable def addL : List T3 → T3 → List T3
  | [], x => [x]
  | y :: ys, x => if SameS y x then ⟨y.f, y.t, y.n + x.n⟩ :: ys else y :: addL ys x
noncomputable def gathL (l : List T3) : List T3 := l.foldl addL []
/-- No sides twice. -/
def ApS (l : List T3) : Prop := l.Pairwise (fun a b => ¬ SameS a b)
theorem addL_none : ∀ (l : List T3) (x : T3), (∀ y ∈ l, ¬ SameS y x) → addL l x = l ++ [x]
  | [], _, _ => rfl
  | y :: ys, x, h => by
    unfold addL
    rw [if_neg (h y (by simp)), addL_none ys x fun z hz => h z (by simp [hz])]; rfl
theorem addL_some : ∀ (l : List T3) (x : T3) (j : Nat) (hj : j < l.length), ApS l → SameS l[j] x → addL l x = l.set j ⟨l[j].f, l[j].t, l[j].n + x.n⟩
  | y :: ys, x, 0, _, _, h => by
    unfold addL
    rw [if_pos (show SameS y x from h)]; rfl
  | y :: ys, x, j + 1, hj, hA, h => by
    have hj' : j < ys.length := by simpa using hj
    have h' : ¬ SameS y x := fun h1 => by
      have := (List.pairwise_cons.1 hA).1 ys[j] (List.getElem_mem _)
      exact this ⟨h1.1.trans h.1.symm, h1.2.trans h.2.symm⟩
    unfold addL
    rw [if_neg h', addL_some ys x j (by simpa using hj) (List.pairwise_cons.1 hA).2 h]; rfl
/-- What the sides are. -/
def keysT (l : List T3) : List (ByteArray × ByteArray) := l.map fun x => (x.f, x.t)
theorem keys_set (l : List T3) (j : Nat) (hj : j < l.length) (n : Int) : keysT (l.set j ⟨l[j].f, l[j].t, n⟩) = keysT l := by
  unfold keysT
  rw [List.map_set]
  exact List.ext_getElem (by simp) fun i h1 h2 => by
    rw [List.getElem_set]
    split
    · subst_vars; simp
    · rfl
theorem aps_iff (l : List T3) : ApS l ↔ (keysT l).Nodup := by
  unfold ApS keysT List.Nodup
  rw [List.pairwise_map]
  constructor <;> exact fun h => h.imp fun {a b} h => by simpa [SameS] using h
theorem addL_cases (l : List T3) (x : T3) (hA : ApS l) : (∃ j, ∃ hj : j < l.length, SameS l[j] x ∧ addL l x = l.set j ⟨l[j].f, l[j].t, l[j].n + x.n⟩) ∨ ((∀ y ∈ l, ¬ SameS y x) ∧ addL l x = l ++ [x]) := by
  by_cases h : ∃ y ∈ l, SameS y x
  · obtain ⟨y, hy, hs⟩ := h
    obtain ⟨j, hj, rfl⟩ := List.getElem_of_mem hy
    exact .inl ⟨j, hj, hs, addL_some l x j hj hA hs⟩
  · have h' : ∀ y ∈ l, ¬ SameS y x := fun y hy hs => h ⟨y, hy, hs⟩
    exact .inr ⟨h', addL_none l x h'⟩
theorem addL_aps (l : List T3) (x : T3) (hA : ApS l) : ApS (addL l x) := by
  rcases addL_cases l x hA with ⟨j, hj, _, h⟩ | ⟨hn, h⟩
  · rw [h, aps_iff, keys_set, ← aps_iff]; exact hA
  · rw [h]
    exact List.pairwise_append.2 ⟨hA, List.pairwise_singleton _ _, fun a ha b hb => by obtain rfl := List.mem_singleton.1 hb; exact hn a ha⟩
theorem gath_take (l : List T3) (k : Nat) (h : k < l.length) : gathL (l.take (k + 1)) = addL (gathL (l.take k)) l[k] := by
  unfold gathL; rw [List.take_succ_eq_append_getElem h, List.foldl_append]; rfl
theorem foldl_aps (l : List T3) : ∀ a, ApS a → ApS (l.foldl addL a) := by
  induction l with
  | nil => exact fun a h => h
  | cons x l ih => exact fun a h => ih _ (addL_aps a x h)
theorem gath_aps (l : List T3) : ApS (gathL l) := foldl_aps l [] List.Pairwise.nil
theorem addL_len (l : List T3) (x : T3) : (addL l x).length ≤ l.length + 1 := by
  induction l with
  | nil => simp [addL]
  | cons y l ih => unfold addL; split <;> simp; omega
theorem addL_sum (l : List T3) (x : T3) : sumT (addL l x) = sumT l + x.n := by
  induction l with
  | nil => simp [addL, sumT]
  | cons y l ih =>
    unfold addL
    unfold sumT at ih ⊢
    split
    · simp; omega
    · simp at ih ⊢; omega
theorem addL_pos (l : List T3) (x : T3) (h : ∀ b ∈ l, 0 ≤ b.n) (hx : 0 ≤ x.n) : ∀ b ∈ addL l x, 0 ≤ b.n := by
  induction l with
  | nil => simpa [addL] using hx
  | cons y l ih =>
    have hy := h y (by simp)
    have ih := ih fun b hb => h b (by simp [hb])
    unfold addL
    split
    · intro b hb
      rcases List.mem_cons.1 hb with rfl | hb
      · show 0 ≤ y.n + x.n; omega
      · exact h b (by simp [hb])
    · intro b hb
      rcases List.mem_cons.1 hb with rfl | hb
      · exact hy
      · exact ih b hb
theorem mem_sum (l : List T3) (h : ∀ b ∈ l, 0 ≤ b.n) : ∀ b ∈ l, b.n ≤ sumT l := by
  induction l with
  | nil => simp
  | cons y l ih =>
    have hy := h y (by simp)
    have hs := sum_nonneg l fun b hb => h b (by simp [hb])
    have ih := ih fun b hb => h b (by simp [hb])
    intro b hb
    unfold sumT at *
    simp only [List.map_cons, List.sum_cons]
    rcases List.mem_cons.1 hb with rfl | hb
    · omega
    · have := ih b hb; omega
/-- The map's keys and places. -/
def mpL (l : List T3) : List (Value × Value) := l.mapIdx fun j x => (kv x, .int .i64 j)
theorem mpL_get (l : List T3) (j : Nat) : (mpL l)[j]? = l[j]?.map fun x => (kv x, Value.int .i64 j) := by unfold mpL; simp [List.getElem?_mapIdx]
theorem mpL_keys {l m : List T3} (h : keysT l = keysT m) : mpL l = mpL m := by
  unfold keysT at h
  refine List.ext_getElem? fun j => ?_
  rw [mpL_get, mpL_get]
  have h1 : (l.map fun x => (x.f, x.t))[j]? = (m.map fun x => (x.f, x.t))[j]? := by rw [h]
  simp only [List.getElem?_map] at h1
  cases hl : l[j]? <;> cases hm : m[j]? <;> rw [hl, hm] at h1 <;> simp at h1
  all_goals simp [kv, h1]
theorem mpL_snoc (l : List T3) (x : T3) : mpL (l ++ [x]) = mpL l ++ [(kv x, .int .i64 l.length)] := by unfold mpL; simp [List.mapIdx_append]
theorem mpL_mem {l : List T3} {p : Value × Value} (h : p ∈ mpL l) : ∃ x ∈ l, p.1 = kv x := by
  obtain ⟨j, hj⟩ := List.mem_iff_getElem?.1 h
  rw [mpL_get] at hj
  obtain ⟨x, hx, rfl⟩ := Option.map_eq_some_iff.1 hj
  exact ⟨x, List.mem_of_getElem? hx, rfl⟩
theorem mpL_apart {l : List T3} (h : ApS l) : Apart (mpL l) := by
  unfold Apart
  rw [List.pairwise_iff_getElem]
  intro i j hi hj hij
  have e1 := List.getElem?_eq_getElem hi
  have e2 := List.getElem?_eq_getElem hj
  rw [mpL_get] at e1 e2
  obtain ⟨x, hx, e1⟩ := Option.map_eq_some_iff.1 e1
  obtain ⟨y, hy, e2⟩ := Option.map_eq_some_iff.1 e2
  rw [← e1, ← e2]
  obtain ⟨hi', rfl⟩ := List.getElem?_eq_some_iff.1 hx
  obtain ⟨hj', rfl⟩ := List.getElem?_eq_some_iff.1 hy
  intro hk
  exact List.pairwise_iff_getElem.1 h i j hi' hj' hij (kv_inj.1 hk)
theorem mpL_finds {l : List T3} {x : T3} {j : Nat} (hj : j < l.length) (h : SameS l[j] x) : Finds (mpL l) (kv x) (.int .i64 0) (.int .i64 j, true) :=
  .inr ⟨j, .int .i64 j, by rw [mpL_get, List.getElem?_eq_getElem hj]; simp [kv_inj.2 h], rfl⟩
theorem mpL_misses {l : List T3} {x : T3} (h : ∀ y ∈ l, ¬ SameS y x) : (∀ p ∈ mpL l, p.1 ≠ kv x) ∧ Finds (mpL l) (kv x) (.int .i64 0) (.int .i64 0, false) := by
  have h1 : ∀ p ∈ mpL l, p.1 ≠ kv x := fun p hp => by
    obtain ⟨y, hy, e⟩ := mpL_mem hp
    rw [e]; exact fun e => h y hy (kv_inj.1 e)
  exact ⟨h1, .inl ⟨h1, rfl⟩⟩
theorem mpL_key {l : List T3} (h : ∀ b ∈ l, b.f.size ≤ maxLen ∧ b.t.size ≤ maxLen) : ∀ p ∈ mpL l, ∃ q, keyOf Tryd.prog 111 p.1 = some q := fun p hp => by
  obtain ⟨y, hy, e⟩ := mpL_mem hp
  rw [e]; exact kv_key (h y hy).1 (h y hy).2
/-- A count laid anew in a row that the call owns. -/
theorem flat_set (l : List T3) (j : Nat) (hj : j < l.length) (n : Int) : (l.flatMap eT3.e).set (j * 3 + 2) (.int .i64 n) = (l.set j ⟨l[j].f, l[j].t, n⟩).flatMap eT3.e := by
  induction l generalizing j with
  | nil => simp at hj
  | cons y l ih =>
    cases j with
    | zero => simp [eT3]
    | succ j =>
      have := ih j (by simpa using hj)
      simp only [List.flatMap_cons, List.set_cons_succ, List.getElem_cons_succ]
      rw [← this, List.set_append_right _ _ (by simp [eT3]; omega)]
      congr 2
      simp [eT3]; omega
theorem Own.count {base : Nat} {e : TypeId} {w : World} {g cap : Nat} {l : List T3} (h : Own eT3 base e w (.slice (some ⟨g, 0, none⟩) l.length cap) l) (j : Nat) (hj : j < l.length) (n : Int) :
    Own eT3 base e (w.setCell ⟨g, j * 3 + 2, none⟩ (.int .i64 n)) (.slice (some ⟨g, 0, none⟩) l.length cap) (l.set j ⟨l[j].f, l[j].t, n⟩) ∧ w.grownBy (w.setCell ⟨g, j * 3 + 2, none⟩ (.int .i64 n)) (some g) := by
  have h1 := World.ownsRow.stored h (j * 3 + 2) (.int .i64 n)
  refine ⟨?_, h1.2⟩
  unfold Own
  rw [List.length_set, ← flat_set l j hj n]
  exact h1.1
theorem addL_mem {l : List T3} {x b : T3} (h : b ∈ addL l x) : (∃ y ∈ l, y.f = b.f ∧ y.t = b.t) ∨ (x.f = b.f ∧ x.t = b.t) := by
  induction l with
  | nil => simp [addL] at h; subst h; exact .inr ⟨rfl, rfl⟩
  | cons y l ih =>
    unfold addL at h
    split at h
    · rcases List.mem_cons.1 h with rfl | h
      · exact .inl ⟨y, by simp, rfl, rfl⟩
      · exact .inl ⟨b, by simp [h], rfl, rfl⟩
    · rcases List.mem_cons.1 h with rfl | h
      · exact .inl ⟨b, by simp, rfl, rfl⟩
      · rcases ih h with ⟨z, hz, e⟩ | e
        · exact .inl ⟨z, by simp [hz], e⟩
        · exact .inr e
theorem addL_sizes {l : List T3} {x : T3} {M : Nat} (h : ∀ b ∈ l, b.f.size ≤ M ∧ b.t.size ≤ M) (hx : x.f.size ≤ M ∧ x.t.size ≤ M) : ∀ b ∈ addL l x, b.f.size ≤ M ∧ b.t.size ≤ M := fun b hb => by
  rcases addL_mem hb with ⟨y, hy, e1, e2⟩ | ⟨e1, e2⟩
  · rw [← e1, ← e2]; exact h y hy
  · rw [← e1, ← e2]; exact hx
end Go.Proofs.YtpccanadijefnaaDoor
