/- Two tables gone through side by side: plain. No condition. -/
import Derived.Test.YtpccanadijefnaaDoorLaw6
namespace Go.Proofs.YtpccanadijefnaaDoor
open Go Go.RowKit
def mergeL : List T3 → List T3 → List T3
  | [], b => b
  | x :: a, [] => x :: a
  | x :: a, y :: b => if ltT x y = true then x :: mergeL a (y :: b) else if ltT y x = true then y :: mergeL (x :: a) b else ⟨x.f, x.t, x.n + y.n⟩ :: mergeL a b
termination_by a b => a.length + b.length
theorem mergeL_nil (a : List T3) : mergeL a [] = a := by cases a <;> simp [mergeL]
theorem mergeL_tot : ∀ (a b : List T3) (f t : ByteArray), tot (mergeL a b) f t = tot a f t + tot b f t
  | [], b, f, t => by simp [mergeL, tot_nil]
  | x :: a, [], f, t => by simp [mergeL, tot_nil]
  | x :: a, y :: b, f, t => by
    unfold mergeL
    split
    · rw [tot_cons, mergeL_tot a (y :: b), tot_cons x a]; omega
    · split
      · rw [tot_cons, mergeL_tot (x :: a) b, tot_cons y b]; omega
      · rename_i h1 h2
        have e := ltT_tri (by simpa using h1) (by simpa using h2)
        rw [tot_cons, mergeL_tot a b, tot_cons x a, tot_cons y b]
        show (if x.f = f ∧ x.t = t then x.n + y.n else 0) + _ = _
        rw [← e.1, ← e.2]
        split <;> omega
termination_by a b => a.length + b.length
theorem mergeL_keys : ∀ (a b : List T3) (k : ByteArray × ByteArray), k ∈ keysT (mergeL a b) ↔ k ∈ keysT a ∨ k ∈ keysT b
  | [], b, k => by simp [mergeL, keysT]
  | x :: a, [], k => by simp [mergeL, keysT]
  | x :: a, y :: b, k => by
    have c : ∀ (z : T3) (l : List T3), k ∈ keysT (z :: l) ↔ k = (z.f, z.t) ∨ k ∈ keysT l := fun z l => by simp [keysT]
    unfold mergeL
    split
    · rw [c, mergeL_keys a (y :: b), c x a, or_assoc]
    · split
      · rw [c, mergeL_keys (x :: a) b, c y b]
        constructor
        · rintro (h | h | h)
          · exact .inr (.inl h)
          · exact .inl h
          · exact .inr (.inr h)
        · rintro (h | h | h)
          · exact .inr (.inl h)
          · exact .inl h
          · exact .inr (.inr h)
      · rename_i h1 h2
        have e := ltT_tri (by simpa using h1) (by simpa using h2)
        rw [c, mergeL_keys a b, c x a, c y b, ← e.1, ← e.2]
        constructor
        · rintro (h | h | h)
          · exact .inl (.inl h)
          · exact .inl (.inr h)
          · exact .inr (.inr h)
        · rintro ((h | h) | (h | h))
          · exact .inl h
          · exact .inr (.inl h)
          · exact .inl h
          · exact .inr (.inr h)
termination_by a b => a.length + b.length
/-- Ahead of all. -/
theorem ahead_of_keys {z : T3} {l m : List T3} (hk : ∀ k, k ∈ keysT l → k ∈ keysT m) (h : ∀ y ∈ m, ltT z y = true) : ∀ y ∈ l, ltT z y = true := fun y hy => by
  obtain ⟨u, hu, e⟩ := List.mem_map.1 (hk _ (mem_keys hy))
  injection e with e1 e2
  rw [← ltT_same (a := z) rfl rfl e1 e2]; exact h u hu
theorem mergeL_rise : ∀ (a b : List T3), (a.Pairwise fun x y => ltT x y = true) → (b.Pairwise fun x y => ltT x y = true) → (mergeL a b).Pairwise fun x y => ltT x y = true
  | [], b, _, hb => by simpa [mergeL] using hb
  | x :: a, [], ha, _ => by simpa [mergeL] using ha
  | x :: a, y :: b, ha, hb => by
    obtain ⟨a1, a2⟩ := List.pairwise_cons.1 ha
    obtain ⟨b1, b2⟩ := List.pairwise_cons.1 hb
    have keysub : ∀ (p q : List T3) (k : ByteArray × ByteArray), k ∈ keysT (mergeL p q) → k ∈ keysT (p ++ q) := fun p q k h => by
      rw [mergeL_keys] at h; simpa [keysT] using h
    unfold mergeL
    split
    · rename_i h
      refine List.pairwise_cons.2 ⟨ahead_of_keys (keysub a (y :: b)) fun z hz => ?_, mergeL_rise a (y :: b) a2 hb⟩
      rcases List.mem_append.1 hz with hz | hz
      · exact a1 z hz
      · rcases List.mem_cons.1 hz with rfl | hz
        · exact h
        · exact ltT_trans h (b1 z hz)
    · split
      · rename_i _ h
        refine List.pairwise_cons.2 ⟨ahead_of_keys (keysub (x :: a) b) fun z hz => ?_, mergeL_rise (x :: a) b ha b2⟩
        rcases List.mem_append.1 hz with hz | hz
        · rcases List.mem_cons.1 hz with rfl | hz
          · exact h
          · exact ltT_trans h (a1 z hz)
        · exact b1 z hz
      · rename_i h1 h2
        have e := ltT_tri (by simpa using h1) (by simpa using h2)
        refine List.pairwise_cons.2 ⟨ahead_of_keys (keysub a b) fun z hz => ?_, mergeL_rise a b a2 b2⟩
        rcases List.mem_append.1 hz with hz | hz
        · exact (ltT_same (a := ⟨x.f, x.t, x.n + y.n⟩) (a' := x) rfl rfl rfl rfl).trans (a1 z hz)
        · exact (ltT_same (a := ⟨x.f, x.t, x.n + y.n⟩) (a' := y) e.1 e.2 rfl rfl).trans (b1 z hz)
termination_by a b => a.length + b.length
theorem mergeL_sum : ∀ (a b : List T3), sumT (mergeL a b) = sumT a + sumT b
  | [], b => by simp [mergeL, sumT]
  | x :: a, [] => by simp [mergeL, sumT]
  | x :: a, y :: b => by
    have c : ∀ (z : T3) (l : List T3), sumT (z :: l) = z.n + sumT l := fun z l => by simp [sumT]
    unfold mergeL
    split
    · rw [c, mergeL_sum a (y :: b), c x a]; omega
    · split
      · rw [c, mergeL_sum (x :: a) b, c y b]; omega
      · rw [c, mergeL_sum a b, c x a, c y b]
        show x.n + y.n + _ = _
        omega
termination_by a b => a.length + b.length
/-- Merged, two tables are the table of both. -/
theorem mergeL_tab {a b l m : List T3} (ha : Tab l a) (hb : Tab m b) : Tab (l ++ m) (mergeL a b) :=
  ⟨mergeL_rise a b ha.rise hb.rise, fun k => by rw [mergeL_keys, ha.keys, hb.keys]; simp [keysT], fun f t => by rw [mergeL_tot, ha.tot, hb.tot, tot_append]⟩
end Go.Proofs.YtpccanadijefnaaDoor
