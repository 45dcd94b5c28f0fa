/- The order of blocks and rules is whole: plain. No condition. -/
import Derived.Test.YtpccanadijefnaaDoorStr
import Derived.Sort.Statements
import Derived.Shelf.SlSortCmp.Insertion
namespace Go.Proofs.YtpccanadijefnaaDoor
open Go Go.RowKit
theorem bl_eq : ∀ (x y : List UInt8), Op.bytesLess x y = decide (x < y)
  | [], [] => by simp [Op.bytesLess]
  | _ :: _, [] => by simp [Op.bytesLess]
  | [], _ :: _ => by simp [Op.bytesLess]
  | x :: xs, y :: ys => by
    simp only [Op.bytesLess, bl_eq xs ys, List.cons_lt_cons_iff]
    by_cases h : x < y <;> by_cases h2 : x = y <;> simp [h, h2]
/-- Of texts, which comes first. -/
def lts (a b : ByteArray) : Bool := Op.bytesLess a.toList b.toList
theorem lts_iff (a b : ByteArray) : lts a b = true ↔ a.toList < b.toList := by unfold lts; rw [bl_eq]; simp
theorem lts_irrefl (a : ByteArray) : lts a a = false := by
  cases h : lts a a
  · rfl
  · exact absurd ((lts_iff a a).1 h) (List.lt_irrefl _)
theorem lts_trans {a b c : ByteArray} (h : lts a b = true) (k : lts b c = true) : lts a c = true := (lts_iff a c).2 (List.lt_trans ((lts_iff a b).1 h) ((lts_iff b c).1 k))
theorem ba_ext {a b : ByteArray} (h : a.toList = b.toList) : a = b := by
  rw [ByteArray.toList_eq, ByteArray.toList_eq] at h
  cases a; cases b
  simpa using h
theorem lts_tri {a b : ByteArray} (h : lts a b = false) (k : lts b a = false) : a = b := by
  have h1 : ¬ a.toList < b.toList := fun e => by rw [(lts_iff a b).2 e] at h; cases h
  have h2 : ¬ b.toList < a.toList := fun e => by rw [(lts_iff b a).2 e] at k; cases k
  exact ba_ext (List.le_antisymm h2 h1)
theorem ltT_two (a b : T3) : ltT a b = (lts a.f b.f || (decide (a.f = b.f) && lts a.t b.t)) := by
  unfold ltT cmpT cmpS lts
  have e : (a.f.toList == b.f.toList) = decide (a.f = b.f) := by
    by_cases h : a.f = b.f
    · simp [h]
    · simp only [h, decide_false, beq_eq_false_iff_ne, ne_eq]; exact fun e => h (ba_ext e)
  rw [← e]
  cases h1 : Op.bytesLess a.f.toList b.f.toList <;> cases h2 : a.f.toList == b.f.toList <;> cases h3 : Op.bytesLess a.t.toList b.t.toList <;> cases h4 : a.t.toList == b.t.toList <;> simp [orL]
theorem ltT_irrefl (a : T3) : ltT a a = false := by rw [ltT_two]; simp [lts_irrefl]
theorem ltT_trans {a b c : T3} (h : ltT a b = true) (k : ltT b c = true) : ltT a c = true := by
  rw [ltT_two] at *
  simp only [Bool.or_eq_true, Bool.and_eq_true, decide_eq_true_eq] at *
  rcases h with h | ⟨h, h'⟩ <;> rcases k with k | ⟨k, k'⟩
  · exact .inl (lts_trans h k)
  · rw [← k]; exact .inl h
  · rw [h]; exact .inl k
  · exact .inr ⟨h.trans k, lts_trans h' k'⟩
theorem ltT_tri {a b : T3} (h : ltT a b = false) (k : ltT b a = false) : a.f = b.f ∧ a.t = b.t := by
  rw [ltT_two] at *
  simp only [Bool.or_eq_false_iff, Bool.and_eq_false_iff, decide_eq_false_iff_not] at *
  have e := lts_tri h.1 k.1
  refine ⟨e, ?_⟩
  rcases h.2 with h2 | h2
  · exact absurd e h2
  · rcases k.2 with k2 | k2
    · exact absurd e.symm k2
    · exact lts_tri h2 k2
theorem ltT_asymm {a b : T3} (h : ltT a b = true) : ltT b a = false := by
  cases k : ltT b a
  · rfl
  · have := ltT_trans h k
    rw [ltT_irrefl] at this; cases this
theorem ltT_same {a b a' b' : T3} (h1 : a.f = a'.f) (h2 : a.t = a'.t) (h3 : b.f = b'.f) (h4 : b.t = b'.t) : ltT a b = ltT a' b' := by rw [ltT_two, ltT_two, h1, h2, h3, h4]
theorem swoT : Go.Sort.SWO ltT where
  irrefl := ltT_irrefl
  trans := fun _ _ _ h k => ltT_trans h k
  ntrans := fun x y z h k => by
    cases e : ltT x z
    · rfl
    · cases hyx : ltT y x
      · have e2 := ltT_tri h hyx
        rw [ltT_same e2.1 e2.2 rfl rfl, k] at e
        cases e
      · have e3 := ltT_trans hyx e
        rw [k] at e3; cases e3
end Go.Proofs.YtpccanadijefnaaDoor
