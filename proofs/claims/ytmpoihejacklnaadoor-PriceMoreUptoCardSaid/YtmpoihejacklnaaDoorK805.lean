/- Parts of these proofs, one behind the other: Tab, Tab2, Pl6, Law6, Cnt3. No condition. -/
import Derived.Test.YtmpoihejacklnaaDoorK804
import Derived.Deep.AppendLies
import Derived.Laws.StructEq
/- count.Table: what it gathers, and in which order. No condition. -/
namespace Go.Proofs.YtmpoihejacklnaaDoor
open Go Go.RowKit Go.Shelf
open Go.Sort (SWO)
/-- Of the same sides. -/
def SameS (a b : T3) : Prop := a.f = b.f ∧ a.t = b.t
noncomputable instance (a b : T3) : Decidable (SameS a b) := Classical.propDecidable _
theorem kv_inj {a b : T3} : kv a = kv b ↔ SameS a b := by
  unfold kv SameS
  constructor
  · intro h; injection h with h; simp at h; exact h
  · rintro ⟨h1, h2⟩; rw [h1, h2]
/-- A block put to those that are gathered. -/
noncomputable def addL : List T3 → T3 → List T3
  | [], x => [x]
  | y :: ys, x => if SameS y x then ⟨y.f, y.t, y.n + x.n⟩ :: ys else y :: addL ys x
noncomputable def gathL (l : List T3) : List T3 := l.foldl addL []
/-- No sides twice. -/
def ApS (l : List T3) : Prop := l.Pairwise (fun a b => ¬ SameS a b)
theorem addL_none : ∀ (l : List T3) (x : T3), (∀ y ∈ l, ¬ SameS y x) → addL l x = l ++ [x]
  | [], _, _ => rfl
  | y :: ys, x, h => by
    unfold addL
    rw [if_neg (h y (by simp)), addL_none ys x fun z hz => h z (by simp [hz])]; rfl
theorem addL_some : ∀ (l : List T3) (x : T3) (j : Nat) (hj : j < l.length), ApS l → SameS l[j] x → addL l x = l.set j ⟨l[j].f, l[j].t, l[j].n + x.n⟩
  | y :: ys, x, 0, _, _, h => by
    unfold addL
    rw [if_pos (show SameS y x from h)]; rfl
  | y :: ys, x, j + 1, hj, hA, h => by
    have hj' : j < ys.length := by simpa using hj
    have h' : ¬ SameS y x := fun h1 => by
      have := (List.pairwise_cons.1 hA).1 ys[j] (List.getElem_mem _)
      exact this ⟨h1.1.trans h.1.symm, h1.2.trans h.2.symm⟩
    unfold addL
    rw [if_neg h', addL_some ys x j (by simpa using hj) (List.pairwise_cons.1 hA).2 h]; rfl
/-- What the sides are. -/
def keysT (l : List T3) : List (ByteArray × ByteArray) := l.map fun x => (x.f, x.t)
theorem keys_set (l : List T3) (j : Nat) (hj : j < l.length) (n : Int) : keysT (l.set j ⟨l[j].f, l[j].t, n⟩) = keysT l := by
  unfold keysT
  rw [List.map_set]
  exact List.ext_getElem (by simp) fun i h1 h2 => by
    rw [List.getElem_set]
    split
    · subst_vars; simp
    · rfl
theorem aps_iff (l : List T3) : ApS l ↔ (keysT l).Nodup := by
  unfold ApS keysT List.Nodup
  rw [List.pairwise_map]
  constructor <;> exact fun h => h.imp fun {a b} h => by simpa [SameS] using h
theorem addL_cases (l : List T3) (x : T3) (hA : ApS l) : (∃ j, ∃ hj : j < l.length, SameS l[j] x ∧ addL l x = l.set j ⟨l[j].f, l[j].t, l[j].n + x.n⟩) ∨ ((∀ y ∈ l, ¬ SameS y x) ∧ addL l x = l ++ [x]) := by
  by_cases h : ∃ y ∈ l, SameS y x
  · obtain ⟨y, hy, hs⟩ := h
    obtain ⟨j, hj, rfl⟩ := List.getElem_of_mem hy
    exact .inl ⟨j, hj, hs, addL_some l x j hj hA hs⟩
  · have h' : ∀ y ∈ l, ¬ SameS y x := fun y hy hs => h ⟨y, hy, hs⟩
    exact .inr ⟨h', addL_none l x h'⟩
theorem addL_aps (l : List T3) (x : T3) (hA : ApS l) : ApS (addL l x) := by
  rcases addL_cases l x hA with ⟨j, hj, _, h⟩ | ⟨hn, h⟩
  · rw [h, aps_iff, keys_set, ← aps_iff]; exact hA
  · rw [h]
    exact List.pairwise_append.2 ⟨hA, List.pairwise_singleton _ _, fun a ha b hb => by obtain rfl := List.mem_singleton.1 hb; exact hn a ha⟩
theorem gath_take (l : List T3) (k : Nat) (h : k < l.length) : gathL (l.take (k + 1)) = addL (gathL (l.take k)) l[k] := by
  unfold gathL; rw [List.take_succ_eq_append_getElem h, List.foldl_append]; rfl
theorem foldl_aps (l : List T3) : ∀ a, ApS a → ApS (l.foldl addL a) := by
  induction l with
  | nil => exact fun a h => h
  | cons x l ih => exact fun a h => ih _ (addL_aps a x h)
theorem gath_aps (l : List T3) : ApS (gathL l) := foldl_aps l [] List.Pairwise.nil
theorem addL_len (l : List T3) (x : T3) : (addL l x).length ≤ l.length + 1 := by
  induction l with
  | nil => simp [addL]
  | cons y l ih => unfold addL; split <;> simp; omega
theorem addL_sum (l : List T3) (x : T3) : sumT (addL l x) = sumT l + x.n := by
  induction l with
  | nil => simp [addL, sumT]
  | cons y l ih =>
    unfold addL
    unfold sumT at ih ⊢
    split
    · simp; omega
    · simp at ih ⊢; omega
theorem addL_pos (l : List T3) (x : T3) (h : ∀ b ∈ l, 0 ≤ b.n) (hx : 0 ≤ x.n) : ∀ b ∈ addL l x, 0 ≤ b.n := by
  induction l with
  | nil => simpa [addL] using hx
  | cons y l ih =>
    have hy := h y (by simp)
    have ih := ih fun b hb => h b (by simp [hb])
    unfold addL
    split
    · intro b hb
      rcases List.mem_cons.1 hb with rfl | hb
      · show 0 ≤ y.n + x.n; omega
      · exact h b (by simp [hb])
    · intro b hb
      rcases List.mem_cons.1 hb with rfl | hb
      · exact hy
      · exact ih b hb
theorem mem_sum (l : List T3) (h : ∀ b ∈ l, 0 ≤ b.n) : ∀ b ∈ l, b.n ≤ sumT l := by
  induction l with
  | nil => simp
  | cons y l ih =>
    have hy := h y (by simp)
    have hs := sum_nonneg l fun b hb => h b (by simp [hb])
    have ih := ih fun b hb => h b (by simp [hb])
    intro b hb
    unfold sumT at *
    simp only [List.map_cons, List.sum_cons]
    rcases List.mem_cons.1 hb with rfl | hb
    · omega
    · have := ih b hb; omega
/-- The map's keys and places. -/
def mpL (l : List T3) : List (Value × Value) := l.mapIdx fun j x => (kv x, .int .i64 j)
theorem mpL_get (l : List T3) (j : Nat) : (mpL l)[j]? = l[j]?.map fun x => (kv x, Value.int .i64 j) := by unfold mpL; simp [List.getElem?_mapIdx]
theorem mpL_keys {l m : List T3} (h : keysT l = keysT m) : mpL l = mpL m := by
  unfold keysT at h
  refine List.ext_getElem? fun j => ?_
  rw [mpL_get, mpL_get]
  have h1 : (l.map fun x => (x.f, x.t))[j]? = (m.map fun x => (x.f, x.t))[j]? := by rw [h]
  simp only [List.getElem?_map] at h1
  cases hl : l[j]? <;> cases hm : m[j]? <;> rw [hl, hm] at h1 <;> simp at h1
  all_goals simp [kv, h1]
theorem mpL_snoc (l : List T3) (x : T3) : mpL (l ++ [x]) = mpL l ++ [(kv x, .int .i64 l.length)] := by unfold mpL; simp [List.mapIdx_append]
theorem mpL_mem {l : List T3} {p : Value × Value} (h : p ∈ mpL l) : ∃ x ∈ l, p.1 = kv x := by
  obtain ⟨j, hj⟩ := List.mem_iff_getElem?.1 h
  rw [mpL_get] at hj
  obtain ⟨x, hx, rfl⟩ := Option.map_eq_some_iff.1 hj
  exact ⟨x, List.mem_of_getElem? hx, rfl⟩
theorem mpL_apart {l : List T3} (h : ApS l) : Apart (mpL l) := by
  unfold Apart
  rw [List.pairwise_iff_getElem]
  intro i j hi hj hij
  have e1 := List.getElem?_eq_getElem hi
  have e2 := List.getElem?_eq_getElem hj
  rw [mpL_get] at e1 e2
  obtain ⟨x, hx, e1⟩ := Option.map_eq_some_iff.1 e1
  obtain ⟨y, hy, e2⟩ := Option.map_eq_some_iff.1 e2
  rw [← e1, ← e2]
  obtain ⟨hi', rfl⟩ := List.getElem?_eq_some_iff.1 hx
  obtain ⟨hj', rfl⟩ := List.getElem?_eq_some_iff.1 hy
  intro hk
  exact List.pairwise_iff_getElem.1 h i j hi' hj' hij (kv_inj.1 hk)
theorem mpL_finds {l : List T3} {x : T3} {j : Nat} (hj : j < l.length) (h : SameS l[j] x) : Finds (mpL l) (kv x) (.int .i64 0) (.int .i64 j, true) :=
  .inr ⟨j, .int .i64 j, by rw [mpL_get, List.getElem?_eq_getElem hj]; simp [kv_inj.2 h], rfl⟩
theorem mpL_misses {l : List T3} {x : T3} (h : ∀ y ∈ l, ¬ SameS y x) : (∀ p ∈ mpL l, p.1 ≠ kv x) ∧ Finds (mpL l) (kv x) (.int .i64 0) (.int .i64 0, false) := by
  have h1 : ∀ p ∈ mpL l, p.1 ≠ kv x := fun p hp => by
    obtain ⟨y, hy, e⟩ := mpL_mem hp
    rw [e]; exact fun e => h y hy (kv_inj.1 e)
  exact ⟨h1, .inl ⟨h1, rfl⟩⟩
/-- A count laid anew in a row that the call owns. -/
theorem flat_set (l : List T3) (j : Nat) (hj : j < l.length) (n : Int) : (l.flatMap eT3.e).set (j * 3 + 2) (.int .i64 n) = (l.set j ⟨l[j].f, l[j].t, n⟩).flatMap eT3.e := by
  induction l generalizing j with
  | nil => simp at hj
  | cons y l ih =>
    cases j with
    | zero => simp [eT3]
    | succ j =>
      have := ih j (by simpa using hj)
      simp only [List.flatMap_cons, List.set_cons_succ, List.getElem_cons_succ]
      rw [← this, List.set_append_right _ _ (by simp [eT3]; omega)]
      congr 2
      simp [eT3]; omega
theorem Own.count {base : Nat} {e : TypeId} {w : World} {g cap : Nat} {l : List T3} (h : Own eT3 base e w (.slice (some ⟨g, 0, none⟩) l.length cap) l) (j : Nat) (hj : j < l.length) (n : Int) :
    Own eT3 base e (w.setCell ⟨g, j * 3 + 2, none⟩ (.int .i64 n)) (.slice (some ⟨g, 0, none⟩) l.length cap) (l.set j ⟨l[j].f, l[j].t, n⟩) ∧ w.grownBy (w.setCell ⟨g, j * 3 + 2, none⟩ (.int .i64 n)) (some g) := by
  have h1 := World.ownsRow.stored h (j * 3 + 2) (.int .i64 n)
  refine ⟨?_, h1.2⟩
  unfold Own
  rw [List.length_set, ← flat_set l j hj n]
  exact h1.1
theorem addL_mem {l : List T3} {x b : T3} (h : b ∈ addL l x) : (∃ y ∈ l, y.f = b.f ∧ y.t = b.t) ∨ (x.f = b.f ∧ x.t = b.t) := by
  induction l with
  | nil => simp [addL] at h; subst h; exact .inr ⟨rfl, rfl⟩
  | cons y l ih =>
    unfold addL at h
    split at h
    · rcases List.mem_cons.1 h with rfl | h
      · exact .inl ⟨y, by simp, rfl, rfl⟩
      · exact .inl ⟨b, by simp [h], rfl, rfl⟩
    · rcases List.mem_cons.1 h with rfl | h
      · exact .inl ⟨b, by simp, rfl, rfl⟩
      · rcases ih h with ⟨z, hz, e⟩ | e
        · exact .inl ⟨z, by simp [hz], e⟩
        · exact .inr e
theorem addL_sizes {l : List T3} {x : T3} {M : Nat} (h : ∀ b ∈ l, b.f.size ≤ M ∧ b.t.size ≤ M) (hx : x.f.size ≤ M ∧ x.t.size ≤ M) : ∀ b ∈ addL l x, b.f.size ≤ M ∧ b.t.size ≤ M := fun b hb => by
  rcases addL_mem hb with ⟨y, hy, e1, e2⟩ | ⟨e1, e2⟩
  · rw [← e1, ← e2]; exact h y hy
  · rw [← e1, ← e2]; exact hx
end Go.Proofs.YtmpoihejacklnaaDoor
/- count.Table walked. No condition. -/
namespace Go.Proofs.YtmpoihejacklnaaDoor
open Go Go.RowKit Go.Shelf
noncomputable def tabE (l : List T3) : Int := if eachT l ≠ 0 then eachT l else if 1073741824 < sumT l then 6 else if 4096 < (gathL l).length then 6 else 0
/-- A table of a list. -/
def TabOf (l ys : List T3) : Prop := ys.Perm (gathL l) ∧ ys.Pairwise fun x y => ltT y x = false
def TabPost (w : World) (l : List T3) (e : Ending) (w' : World) : Prop :=
  ∃ ys r, e = .returned (.tuple #[r, .int .i64 (tabE l)]) ∧ SlV eT3 w' r ys ∧ Below w.heap.size w w' ∧ (tabE l = 0 → TabOf l ys) ∧ (tabE l ≠ 0 → ys = [])
theorem info_blk : (Tryd.prog.info? 164).map (fun i => (i.zero, i.size, i.bytes)) = some (some (.agg #[.string .empty, .string .empty, .int .i64 0]), 3, 40) := by kernel_rfl
theorem gath_sizes {M : Nat} (l : List T3) (h : ∀ b ∈ l, b.f.size ≤ M ∧ b.t.size ≤ M) : ∀ b ∈ gathL l, b.f.size ≤ M ∧ b.t.size ≤ M := by
  have : ∀ (l a : List T3), (∀ b ∈ l, b.f.size ≤ M ∧ b.t.size ≤ M) → (∀ b ∈ a, b.f.size ≤ M ∧ b.t.size ≤ M) → ∀ b ∈ l.foldl addL a, b.f.size ≤ M ∧ b.t.size ≤ M := fun l => by
    induction l with
    | nil => exact fun a _ h => h
    | cons x l ih => exact fun a h1 h2 => ih _ (fun b hb => h1 b (by simp [hb])) (addL_sizes h2 (h1 x (by simp)))
  exact this l [] h (by simp)
theorem gath_len (l : List T3) : (gathL l).length ≤ l.length := by
  have : ∀ (l a : List T3), (l.foldl addL a).length ≤ a.length + l.length := fun l => by
    induction l with
    | nil => simp
    | cons x l ih => exact fun a => by have h1 := ih (addL a x); have h2 := addL_len a x; simp only [List.foldl_cons, List.length_cons]; omega
  have h := this l []
  simpa [gathL] using h
theorem gath_sum (l : List T3) : sumT (gathL l) = sumT l := by
  have : ∀ (l a : List T3), sumT (l.foldl addL a) = sumT a + sumT l := fun l => by
    induction l with
    | nil => simp [sumT]
    | cons x l ih => exact fun a => by simp only [List.foldl_cons]; rw [ih, addL_sum]; simp [sumT]; omega
  have h := this l []
  simpa [gathL, sumT] using h
theorem gath_pos (l : List T3) (h : ∀ b ∈ l, 0 ≤ b.n) : ∀ b ∈ gathL l, 0 ≤ b.n := by
  have : ∀ (l a : List T3), (∀ b ∈ l, 0 ≤ b.n) → (∀ b ∈ a, 0 ≤ b.n) → ∀ b ∈ l.foldl addL a, 0 ≤ b.n := fun l => by
    induction l with
    | nil => exact fun a _ h => h
    | cons x l ih => exact fun a h1 h2 => ih _ (fun b hb => h1 b (by simp [hb])) (addL_pos a x h2 (h1 x (by simp)))
  exact this l [] h (by simp)
theorem Own.cells3 {base : Nat} {e : TypeId} {w : World} {g cap : Nat} {l : List T3} (h : Own eT3 base e w (.slice (some ⟨g, 0, none⟩) l.length cap) l) (j : Nat) (hj : j < l.length) :
    g < w.heap.size ∧ w.cell? ⟨g, j * 3, none⟩ = some (.string l[j].f) ∧ w.cell? ⟨g, j * 3 + 1, none⟩ = some (.string l[j].t) ∧ w.cell? ⟨g, j * 3 + 2, none⟩ = some (.int .i64 l[j].n) := by
  obtain ⟨A, c, h1, _, _, h4⟩ := h.slv
  obtain ⟨b, o, hA, h5, h6, h7, h8⟩ := h4.n3 (fun _ => rfl) (Below.refl _ _) j hj
  subst hA
  injection h1 with h1 _ _
  injection h1 with h1
  injection h1 with h1 h2
  subst h1 h2
  simp only [Nat.zero_add] at h6 h7 h8
  exact ⟨h5, h6, h7, h8⟩
theorem cmpS_neg (a b : ByteArray) : cmpS a b = if Op.bytesLess a.toList b.toList = true then -1 else if (a.toList == b.toList) = true then 0 else 1 := rfl
def cmpB (a b : T3) : Int := if ltT a b = true then -1 else if ltT b a = true then 1 else 0
theorem lt_cmpB (a b : T3) : ltOf cmpB a b = ltT a b := by
  unfold ltOf cmpB
  cases h : ltT a b
  · cases h2 : ltT b a <;> simp
  · simp
instance : Inhabited T3 := ⟨⟨.empty, .empty, 0⟩⟩
def TabRel (w0 : World) (B : Nat) (ys : List T3) (v : Value) (wr : World) : Prop :=
  Own eT3 w0.heap.size 164 wr v ys ∧ Mp wr B (mpL ys) ∧ v.ownBlock ≠ some B ∧ Below w0.heap.size w0 wr
end Go.Proofs.YtmpoihejacklnaaDoor
/- What a table of blocks is, in plain words: sides that rise, each with all that the list has of it. No condition. -/
namespace Go.Proofs.YtmpoihejacklnaaDoor
open Go Go.RowKit
theorem sum_perm {l m : List Int} (h : l.Perm m) : l.sum = m.sum := by
  induction h with
  | nil => rfl
  | cons x _ ih => simp [ih]
  | swap x y l => simp only [List.sum_cons]; omega
  | trans _ _ h1 h2 => exact h1.trans h2
/-- How much of a list is of the sides f, t. -/
noncomputable def tot (l : List T3) (f t : ByteArray) : Int := (l.map fun x => if x.f = f ∧ x.t = t then x.n else 0).sum
theorem tot_nil (f t : ByteArray) : tot [] f t = 0 := rfl
theorem tot_cons (x : T3) (l : List T3) (f t : ByteArray) : tot (x :: l) f t = (if x.f = f ∧ x.t = t then x.n else 0) + tot l f t := by simp [tot]
theorem tot_append (l m : List T3) (f t : ByteArray) : tot (l ++ m) f t = tot l f t + tot m f t := by simp [tot]
theorem tot_perm {l m : List T3} (h : l.Perm m) (f t : ByteArray) : tot l f t = tot m f t := sum_perm (h.map _)
theorem tot_none {l : List T3} {f t : ByteArray} (h : (f, t) ∉ keysT l) : tot l f t = 0 := by
  induction l with
  | nil => rfl
  | cons x l ih =>
    simp only [keysT, List.map_cons, List.mem_cons, not_or] at h
    rw [tot_cons, if_neg (fun e => h.1 (by rw [e.1, e.2])), ih h.2]; rfl
theorem mem_keys {l : List T3} {x : T3} (h : x ∈ l) : (x.f, x.t) ∈ keysT l := List.mem_map.2 ⟨x, h, rfl⟩
theorem tot_mem {l : List T3} (hA : ApS l) {x : T3} (h : x ∈ l) : tot l x.f x.t = x.n := by
  induction l with
  | nil => cases h
  | cons y l ih =>
    obtain ⟨h1, h2⟩ := List.pairwise_cons.1 hA
    rw [tot_cons]
    rcases List.mem_cons.1 h with rfl | h
    · rw [if_pos ⟨rfl, rfl⟩, tot_none]
      · omega
      · intro hk
        obtain ⟨z, hz, e⟩ := List.mem_map.1 hk
        injection e with e1 e2
        exact h1 z hz ⟨e1.symm, e2.symm⟩
    · rw [if_neg (fun e : y.f = x.f ∧ y.t = x.t => h1 x h e), ih h2 h]; omega
theorem tot_addL (l : List T3) (x : T3) (f t : ByteArray) : tot (addL l x) f t = tot l f t + if x.f = f ∧ x.t = t then x.n else 0 := by
  induction l with
  | nil => simp [addL, tot_cons, tot_nil]
  | cons y l ih =>
    unfold addL
    split
    · rename_i h
      rw [tot_cons, tot_cons]
      show (if y.f = f ∧ y.t = t then y.n + x.n else 0) + _ = _
      obtain ⟨e1, e2⟩ := h
      rw [← e1, ← e2]
      split <;> omega
    · rw [tot_cons, tot_cons, ih]; omega
theorem keys_addL (l : List T3) (x : T3) (k : ByteArray × ByteArray) : k ∈ keysT (addL l x) ↔ k ∈ keysT l ∨ k = (x.f, x.t) := by
  induction l with
  | nil => simp [addL, keysT]
  | cons y l ih =>
    unfold addL
    split
    · rename_i h
      simp only [keysT, List.map_cons, List.mem_cons]
      rw [← h.1, ← h.2]
      constructor
      · exact .inl
      · rintro (h | h)
        · exact h
        · exact .inl h
    · simp only [keysT, List.map_cons, List.mem_cons] at ih ⊢
      rw [ih]; simp only [or_assoc]
theorem gath_tot (l : List T3) (f t : ByteArray) : tot (gathL l) f t = tot l f t := by
  have : ∀ (l a : List T3), tot (l.foldl addL a) f t = tot a f t + tot l f t := fun l => by
    induction l with
    | nil => simp [tot_nil]
    | cons x l ih => exact fun a => by simp only [List.foldl_cons]; rw [ih, tot_addL, tot_cons]; omega
  have h := this l []
  simpa [gathL, tot_nil] using h
theorem gath_keys (l : List T3) (k : ByteArray × ByteArray) : k ∈ keysT (gathL l) ↔ k ∈ keysT l := by
  have : ∀ (l a : List T3), (k ∈ keysT (l.foldl addL a) ↔ k ∈ keysT a ∨ k ∈ keysT l) := by
    intro l
    induction l with
    | nil => simp [keysT]
    | cons x l ih =>
      intro a
      simp only [List.foldl_cons]
      rw [ih, keys_addL]
      simp [keysT, or_assoc]
  have h := this l []
  simpa [gathL, keysT] using h
/-- ys is the table of l. -/
structure Tab (l ys : List T3) : Prop where
  rise : ys.Pairwise fun x y => ltT x y = true
  keys : ∀ k, k ∈ keysT ys ↔ k ∈ keysT l
  tot : ∀ f t, tot ys f t = tot l f t
theorem rise_aps {ys : List T3} (h : ys.Pairwise fun x y => ltT x y = true) : ApS ys := h.imp fun {a b} h e => by
  rw [ltT_same e.1 e.2 rfl rfl, ltT_irrefl] at h; cases h
theorem TabOf.tab {l ys : List T3} (h : TabOf l ys) : Tab l ys := by
  have hA : ApS ys := by rw [aps_iff]; exact ((h.1.map _).nodup_iff).2 ((aps_iff _).1 (gath_aps l))
  refine ⟨?_, fun k => ?_, fun f t => by rw [tot_perm h.1, gath_tot]⟩
  · have h2 := List.Pairwise.and h.2 hA
    refine h2.imp fun {a b} h => ?_
    cases e : ltT a b
    · exact absurd (ltT_tri e h.1) h.2
    · rfl
  · exact (List.Perm.map (fun x : T3 => (x.f, x.t)) h.1).mem_iff.trans (gath_keys l k)
theorem rise_eq : ∀ {xs ys : List T3}, (xs.Pairwise fun x y => ltT x y = true) → (ys.Pairwise fun x y => ltT x y = true) → (∀ b, b ∈ xs ↔ b ∈ ys) → xs = ys
  | [], [], _, _, _ => rfl
  | [], y :: ys, _, _, h => absurd ((h y).2 (by simp)) (by simp)
  | x :: xs, [], _, _, h => absurd ((h x).1 (by simp)) (by simp)
  | x :: xs, y :: ys, hx, hy, h => by
    obtain ⟨x1, x2⟩ := List.pairwise_cons.1 hx
    obtain ⟨y1, y2⟩ := List.pairwise_cons.1 hy
    have e : x = y := by
      rcases List.mem_cons.1 ((h x).1 (by simp)) with e | hm
      · exact e
      · rcases List.mem_cons.1 ((h y).2 (by simp)) with e | hm'
        · exact e.symm
        · have := ltT_asymm (y1 x hm)
          rw [x1 y hm'] at this; cases this
    subst e
    congr 1
    refine rise_eq x2 y2 fun b => ⟨fun hb => ?_, fun hb => ?_⟩
    · rcases List.mem_cons.1 ((h b).1 (by simp [hb])) with e | hm
      · have := x1 b hb; rw [e, ltT_irrefl] at this; cases this
      · exact hm
    · rcases List.mem_cons.1 ((h b).2 (by simp [hb])) with e | hm
      · have := y1 b hb; rw [e, ltT_irrefl] at this; cases this
      · exact hm
theorem Tab.mem {l ys : List T3} (h : Tab l ys) (b : T3) : b ∈ ys ↔ (b.f, b.t) ∈ keysT l ∧ b.n = Go.Proofs.YtmpoihejacklnaaDoor.tot l b.f b.t := by
  have hA := rise_aps h.rise
  rw [← h.keys, ← h.tot]
  constructor
  · exact fun hb => ⟨mem_keys hb, (tot_mem hA hb).symm⟩
  · rintro ⟨hk, hn⟩
    obtain ⟨x, hx, e⟩ := List.mem_map.1 hk
    injection e with e1 e2
    have h3 := tot_mem hA hx
    rw [e1, e2, ← hn] at h3
    have : b = x := by cases b; cases x; simp_all
    rw [this]; exact hx
theorem Tab.uniq {l m ys zs : List T3} (h : Tab l ys) (k : Tab m zs) (hk : ∀ q, q ∈ keysT l ↔ q ∈ keysT m) (ht : ∀ f t, Go.Proofs.YtmpoihejacklnaaDoor.tot l f t = Go.Proofs.YtmpoihejacklnaaDoor.tot m f t) : ys = zs :=
  rise_eq h.rise k.rise fun b => by rw [h.mem, k.mem, hk, ht]
theorem Tab.self {ys : List T3} (h : ys.Pairwise fun x y => ltT x y = true) : Tab ys ys := ⟨h, fun _ => Iff.rfl, fun _ _ => rfl⟩
theorem TabOf.sum {l ys : List T3} (h : TabOf l ys) : sumT ys = sumT l := (sum_perm (h.1.map _)).trans (gath_sum l)
theorem TabOf.len {l ys : List T3} (h : TabOf l ys) : ys.length = (gathL l).length := h.1.length_eq
theorem rise_of {ys : List T3} (h : ys.Pairwise fun x y => ltT x y = true) : riseT ys = true := (rise_iff ys).2 fun i hi => List.pairwise_iff_getElem.1 h i (i + 1) (by omega) hi (by omega)
theorem of_rise {ys : List T3} (h : riseT ys = true) : ys.Pairwise fun x y => ltT x y = true := by
  have h' := (rise_iff ys).1 h
  rw [List.pairwise_iff_getElem]
  intro i j hi hj hij
  obtain ⟨d, rfl⟩ : ∃ d, j = i + 1 + d := ⟨j - i - 1, by omega⟩
  clear hij
  induction d with
  | zero => exact h' i hj
  | succ d ih => exact ltT_trans (ih (by omega)) (h' (i + 1 + d) hj)
theorem bchk_with {b x : T3} (h1 : b.f = x.f) (h2 : b.t = x.t) (hx : bchk x = 0) (hn : 1 ≤ b.n) (hm : b.n ≤ 1073741824) : bchk b = 0 := by
  unfold bchk at *
  rw [h1, h2]
  have h3 : ¬ (b.n < 1 ∨ 1073741824 < b.n) := by omega
  rw [if_neg h3]
  repeat' split at hx
  all_goals first | (exfalso; omega) | skip
  all_goals simp_all
theorem addL_one (l : List T3) (x : T3) (h : ∀ b ∈ l, 1 ≤ b.n) (hx : 1 ≤ x.n) : ∀ b ∈ addL l x, 1 ≤ b.n := by
  induction l with
  | nil => simpa [addL] using hx
  | cons y l ih =>
    have hy := h y (by simp)
    have ih := ih fun b hb => h b (by simp [hb])
    unfold addL
    split
    · intro b hb
      rcases List.mem_cons.1 hb with rfl | hb
      · show 1 ≤ y.n + x.n; omega
      · exact h b (by simp [hb])
    · intro b hb
      rcases List.mem_cons.1 hb with rfl | hb
      · exact hy
      · exact ih b hb
theorem gath_one (l : List T3) (h : ∀ b ∈ l, 1 ≤ b.n) : ∀ b ∈ gathL l, 1 ≤ b.n := by
  have : ∀ (l a : List T3), (∀ b ∈ l, 1 ≤ b.n) → (∀ b ∈ a, 1 ≤ b.n) → ∀ b ∈ l.foldl addL a, 1 ≤ b.n := fun l => by
    induction l with
    | nil => exact fun a _ h => h
    | cons x l ih => exact fun a h1 h2 => ih _ (fun b hb => h1 b (by simp [hb])) (addL_one a x h2 (h1 x (by simp)))
  exact this l [] h (by simp)
theorem tabE_zero {l : List T3} : tabE l = 0 ↔ eachT l = 0 ∧ sumT l ≤ 1073741824 ∧ (gathL l).length ≤ 4096 := by
  unfold tabE
  by_cases h : eachT l = 0
  · simp only [h, ne_eq, not_true_eq_false, if_false, true_and]
    repeat' split
    all_goals omega
  · simp [h]
/-- A table may be. -/
theorem TabOf.ok {l ys : List T3} (h : TabOf l ys) (he : tabE l = 0) : tchk ys = 0 := by
  obtain ⟨h1, h2, h3⟩ := tabE_zero.1 he
  have h1' := (each_all l).1 h1
  have ht := h.tab
  have hs := h.sum
  have hone : ∀ b ∈ ys, 1 ≤ b.n := fun b hb => gath_one l (fun x hx => (bchk_n x (h1' x hx)).1) b (h.1.mem_iff.1 hb)
  have hle := mem_sum ys fun b hb => by have := hone b hb; omega
  have he' : eachT ys = 0 := (each_all ys).2 fun b hb => by
    have hk := (ht.keys (b.f, b.t)).1 (mem_keys hb)
    obtain ⟨x, hx, e⟩ := List.mem_map.1 hk
    injection e with e1 e2
    exact bchk_with e1.symm e2.symm (h1' x hx) (hone b hb) (by have := hle b hb; omega)
  unfold tchk
  rw [if_neg (by simp [he']), if_neg (by rw [rise_of ht.rise]; simp), if_neg (by rw [h.len]; omega)]
theorem tabE_perm {l m : List T3} (h : l.Perm m) : tabE l = 0 ↔ tabE m = 0 := by
  have h1 : eachT l = 0 ↔ eachT m = 0 := by
    rw [each_all, each_all]
    exact ⟨fun k b hb => k b (h.mem_iff.2 hb), fun k b hb => k b (h.mem_iff.1 hb)⟩
  have h2 : sumT l = sumT m := sum_perm (h.map _)
  have h3 : (keysT (gathL l)).length = (keysT (gathL m)).length := by
    refine List.Perm.length_eq ?_
    refine (List.perm_ext_iff_of_nodup ((aps_iff _).1 (gath_aps l)) ((aps_iff _).1 (gath_aps m))).2 fun k => ?_
    rw [gath_keys, gath_keys]
    exact (h.map fun x : T3 => (x.f, x.t)).mem_iff
  simp only [keysT, List.length_map] at h3
  rw [tabE_zero, tabE_zero, h1, h2, h3]
theorem TabOf.perm {l m ys zs : List T3} (h : TabOf l ys) (k : TabOf m zs) (hp : l.Perm m) : ys = zs :=
  h.tab.uniq k.tab (fun _ => (hp.map fun x : T3 => (x.f, x.t)).mem_iff) fun f t => tot_perm hp f t
end Go.Proofs.YtmpoihejacklnaaDoor
/- Whether two tables are the same; what is too great; how many there are. No condition. -/
namespace Go.Proofs.YtmpoihejacklnaaDoor
open Go Go.RowKit
noncomputable instance : DecidableEq T3 := fun _ _ => Classical.propDecidable _
noncomputable def sameT (xs ys : List T3) : Bool := decide (xs = ys)
theorem t3_ne {a b : T3} : a ≠ b ↔ ¬ (a.f = b.f ∧ a.t = b.t ∧ a.n = b.n) := by cases a; cases b; simp
theorem blk_equal (a b : T3) (w : World) : (Op.equalIn 10000 164 (.agg #[.string a.f, .string a.t, .int .i64 a.n]) (.agg #[.string b.f, .string b.t, .int .i64 b.n])).run Tryd.prog w = .ok (decide (a = b)) w := by
  rw [run_equalIn_agg w 9999 _ _ _ (by kernel_rfl) (by kernel_rfl)]
  have hs : ∀ x y : ByteArray, x.toList = y.toList ↔ x = y := fun x y => ⟨ba_ext, fun h => by rw [h]⟩
  have he : (decide (a = b)) = (decide (a.f = b.f) && (decide (a.t = b.t) && decide (a.n = b.n))) := by cases a; cases b; simp
  rw [he]
  simp [go_sem, Op.eqFields, Program.fieldsOf, Tryd.underlying164, Tryd.underlying9, Tryd.underlying3, hs]
  by_cases h1 : a.f = b.f <;> by_cases h2 : a.t = b.t <;> by_cases h3 : a.n = b.n <;> simp [h1, h2, h3]
/-- The texts' bytes. -/
def szT (l : List T3) : Nat := (l.map fun b => b.f.size + b.t.size).sum
theorem sz_take (l : List T3) (k : Nat) (h : k < l.length) : szT (l.take (k + 1)) = szT (l.take k) + (l[k].f.size + l[k].t.size) := by
  unfold szT; rw [List.take_succ_eq_append_getElem h, List.map_append, List.sum_append]; simp
def greatT (l : List T3) : Bool := decide (500 < l.length ∨ 8000 < szT l)
/-- What 'Total' hands back. -/
def totV (l : List T3) : Value := .tuple #[.int .i64 (if tchk l = 0 then sumT l else 0), .int .i64 (tchk l)]
theorem tchk_zero {l : List T3} (h : tchk l = 0) : eachT l = 0 ∧ riseT l = true ∧ sumT l ≤ 1073741824 ∧ l.length ≤ 4096 := by
  unfold tchk at h
  by_cases h1 : eachT l = 0
  · rw [if_neg (by simp [h1])] at h
    cases h2 : riseT l
    · rw [if_pos h2] at h; cases h
    · rw [if_neg (by simp [h2])] at h
      split at h
      · cases h
      · exact ⟨h1, rfl, by omega, by omega⟩
  · rw [if_pos h1] at h; exact absurd h h1
def bA : T3 := ⟨⟨#[114, 110]⟩, ⟨#[109]⟩, 1⟩
def bB : T3 := ⟨⟨#[108]⟩, ⟨#[105]⟩, 1⟩
theorem bchk_A : bchk bA = 0 := by
  have h1 : okS bA.f = 0 := by decide
  have h2 : okS bA.t = 0 := by decide
  have h3 : lenS bA.f = 2 := by decide
  have h4 : lenS bA.t = 1 := by decide
  have h5 : (bA.f.toList == bA.t.toList) = false := by rw [ByteArray.toList_eq, ByteArray.toList_eq]; decide
  unfold bchk
  rw [h1, h2, h3, h4, h5]
  decide
theorem bchk_B : bchk bB = 0 := by
  have h1 : okS bB.f = 0 := by decide
  have h2 : okS bB.t = 0 := by decide
  have h3 : lenS bB.f = 1 := by decide
  have h4 : lenS bB.t = 1 := by decide
  have h5 : (bB.f.toList == bB.t.toList) = false := by rw [ByteArray.toList_eq, ByteArray.toList_eq]; decide
  unfold bchk
  rw [h1, h2, h3, h4, h5]
  decide
theorem AB_lt (n : Int) : ltT bB ⟨bA.f, bA.t, n⟩ = true := by
  rw [ltT_two]
  have h : lts bB.f bA.f = true := by unfold lts; rw [ByteArray.toList_eq, ByteArray.toList_eq]; decide
  show (lts bB.f bA.f || _) = true
  rw [h]; rfl
theorem AB_not : ¬ SameS bA bB ∧ ¬ SameS bB bA := by
  unfold SameS bA bB
  constructor
  · rintro ⟨h, _⟩; injection h with h; simp at h
  · rintro ⟨h, _⟩; injection h with h; simp at h
theorem alive_gath : gathL [bA, bB, bA] = [⟨bA.f, bA.t, 2⟩, bB] := by
  show addL (addL (addL [] bA) bB) bA = _
  have h1 : addL [] bA = [bA] := rfl
  have h2 : addL [bA] bB = [bA, bB] := by unfold addL; rw [if_neg AB_not.1]; rfl
  have h3 : addL [bA, bB] bA = [⟨bA.f, bA.t, 2⟩, bB] := by unfold addL; rw [if_pos ⟨rfl, rfl⟩]; rfl
  rw [h1, h2, h3]
theorem alive_E : tabE [bA, bB, bA] = 0 := by
  rw [tabE_zero]
  refine ⟨(each_all _).2 fun b hb => ?_, by decide, by rw [alive_gath]; decide⟩
  simp only [List.mem_cons, List.not_mem_nil, or_false] at hb
  rcases hb with h | h | h <;> rw [h]
  · exact bchk_A
  · exact bchk_B
  · exact bchk_A
theorem alive_tab {ys : List T3} (h : TabOf [bA, bB, bA] ys) : ys = [bB, ⟨bA.f, bA.t, 2⟩] := by
  have hr : ltT bB ⟨bA.f, bA.t, 2⟩ = true := AB_lt 2
  refine rise_eq h.tab.rise (by simpa using hr) fun b => ?_
  rw [h.1.mem_iff, alive_gath]
  simp only [List.mem_cons, List.not_mem_nil, or_false]
  exact Or.comm
end Go.Proofs.YtmpoihejacklnaaDoor
/- The reference of layer 6: order, Check, Sum. No condition. -/
namespace Go.Proofs.YtmpoihejacklnaaDoor
open Go.RowKit
theorem ltT_eq (a b : T3) : ltT a b = (Op.bytesLess a.f.toList b.f.toList || (a.f.toList == b.f.toList && Op.bytesLess a.t.toList b.t.toList)) := by
  unfold ltT cmpT cmpS
  cases h1 : Op.bytesLess a.f.toList b.f.toList <;> cases h2 : a.f.toList == b.f.toList <;> cases h3 : Op.bytesLess a.t.toList b.t.toList <;> cases h4 : a.t.toList == b.t.toList <;> simp [orL]
set_option maxHeartbeats 1000000 in
set_option maxRecDepth 100000 in
theorem r7less_c (a b : T3) (w : World) : Calls Tryd.prog 81 #[.agg #[.string a.f, .string a.t, .int .i64 a.n], .agg #[.string b.f, .string b.t, .int .i64 b.n]] w (Ret w (.bool (ltT a b))) := by
  rw [ltT_eq]
  cases h1 : Op.bytesLess a.f.toList b.f.toList <;> cases h2 : a.f.toList == b.f.toList <;> cases h3 : Op.bytesLess a.t.toList b.t.toList
  all_goals
    go_enter Tryd.func81, Tryd.ntmps81
    go_wp2
    go_ret
    exact ⟨rfl, Bel⟩
end Go.Proofs.YtmpoihejacklnaaDoor
