/- errataref04.table: of all beginnings of two rows how far they are apart. No condition. -/
import Derived.Test.YtpnhmapkdbnkmaaDoorAlg
import Derived.Test.YtpnhmapkdbnkmaaDoorK802
import Derived.Test.YtpnhmapkdbnkmaaDoorK813
namespace Go.Proofs.YtpnhmapkdbnkmaaDoor
open Go Go.RowKit
/-- Rows of rows: a row's place, or none yet. -/
def eRow (n : Nat) : Enc (Option Nat) := ⟨1, fun g => [match g with | none => .slice none 0 0 | some g => .slice (some ⟨g, 0, none⟩) n n], fun _ => rfl, fun g v hv => by simp at hv; subst hv; cases g <;> rfl⟩
/-- A row of numbers lies at a place. -/
def RowAt (w : World) (g : Nat) (l : List Int) : Prop := g < w.heap.size ∧ ∀ (c : Nat) (x : Int), l[c]? = some x → w.cell? ⟨g, c, none⟩ = some (.int .i64 x)
theorem RowAt.below {w w' : World} {n g : Nat} {l : List Int} (h : RowAt w g l) (hb : Below n w w') (hn : w.heap.size ≤ w'.heap.size) (hg : g < n) : RowAt w' g l :=
  ⟨Nat.lt_of_lt_of_le h.1 hn, fun c x hx => by rw [← h.2 c x hx]; exact World.cell?_of_block (a := ⟨g, c, none⟩) (hb.block g hg)⟩
theorem RowAt.grown {w w' : World} {g : Nat} {row : Option Nat} {l : List Int} (h : RowAt w g l) (hg : w.grownBy w' row) (hne : some g ≠ row) : RowAt w' g l :=
  ⟨Nat.lt_of_lt_of_le h.1 hg.size, fun c x hx => by rw [← h.2 c x hx]; exact hg.cell_far ⟨g, c, none⟩ h.1 hne⟩
theorem RowAt.kb {w w' : World} {g : Nat} {S : List Nat} {l : List Int} (h : RowAt w g l) (hk : Kb w w' S) (hn : g ∉ S) : RowAt w' g l :=
  ⟨Nat.lt_of_lt_of_le h.1 hk.size, fun c x hx => by rw [← h.2 c x hx]; exact World.cell?_of_block (a := ⟨g, c, none⟩) (hk.block g h.1 hn)⟩
theorem RowAt.of {base : Nat} {t : TypeId} {w : World} {g n m : Nat} {l : List Int} (h : Own eI base t w (.slice (some ⟨g, 0, none⟩) n m) l) (hlt : g < w.heap.size) : RowAt w g l :=
  ⟨hlt, fun c x hx => by
    obtain ⟨hc, rfl⟩ := List.getElem?_eq_some_iff.1 hx
    exact (h.cell1 (fun _ => rfl) c hc).2.1⟩
/-- A table lies at a place: m rows of n numbers each. -/
def TblAt (w : World) (gd n m : Nat) (V : Nat → List Int) : Prop := ∀ r, r < m → ∃ g, w.cell? ⟨gd, r, none⟩ = some (.slice (some ⟨g, 0, none⟩) n n) ∧ RowAt w g (V r)
def ddRow (a b : List Int) (i : Nat) : List Int := (List.range (b.length + 1)).map fun j => ((dd a b i j : Nat) : Int)
def ddTo (a b : List Int) (i k : Nat) : List Int := (List.range (b.length + 1)).map fun j => if j < k then ((dd a b i j : Nat) : Int) else 0
theorem ddTo_len (a b : List Int) (i k : Nat) : (ddTo a b i k).length = b.length + 1 := by simp [ddTo]
theorem ddTo_all (a b : List Int) (i k : Nat) (hk : b.length < k) : ddTo a b i k = ddRow a b i := by
  unfold ddTo ddRow
  exact List.map_congr_left fun j hj => by rw [if_pos (by have := List.mem_range.1 hj; omega)]
theorem ddTo_zero (a b : List Int) (i : Nat) : ddTo a b i 0 = List.replicate (b.length + 1) 0 := by
  unfold ddTo
  refine List.ext_getElem? fun q => ?_
  by_cases hq : q < b.length + 1
  · rw [List.getElem?_map, List.getElem?_range hq, Option.map_some, if_neg (by omega), List.getElem?_replicate, if_pos hq]
  · rw [List.getElem?_eq_none (by simp; omega), List.getElem?_eq_none (by simp; omega)]
theorem ddTo_at {a b : List Int} {i k j : Nat} (hj : j < k) (hk : j ≤ b.length) : (ddTo a b i k)[j]? = some ((dd a b i j : Nat) : Int) := by
  unfold ddTo
  rw [List.getElem?_map, List.getElem?_range (by omega), Option.map_some, if_pos hj]
theorem ddRow_at {a b : List Int} {i j : Nat} (hk : j ≤ b.length) : (ddRow a b i)[j]? = some ((dd a b i j : Nat) : Int) := by
  unfold ddRow
  rw [List.getElem?_map, List.getElem?_range (by omega), Option.map_some]
theorem ddTo_set {a b : List Int} {i j : Nat} (_ : j ≤ b.length) : (ddTo a b i j).set j ((dd a b i j : Nat) : Int) = ddTo a b i (j + 1) := by
  refine List.ext_getElem? fun q => ?_
  by_cases hq : q < b.length + 1
  · rw [List.getElem?_set]
    unfold ddTo
    rw [List.getElem?_map, List.getElem?_map, List.getElem?_range hq]
    by_cases e : j = q
    · subst e
      rw [if_pos rfl, if_pos (by simpa using hq), Option.map_some, if_pos (by omega)]
    · rw [if_neg e, Option.map_some, Option.map_some]
      by_cases h1 : q < j
      · rw [if_pos h1, if_pos (by omega)]
      · rw [if_neg h1, if_neg (by omega)]
  · rw [List.getElem?_eq_none (by rw [List.length_set, ddTo_len]; omega), List.getElem?_eq_none (by rw [ddTo_len]; omega)]
theorem info_rowInt : (Tryd.prog.info? 85).map (fun i => (i.zero, i.size, i.bytes)) = some (some (.slice none 0 0), 1, 24) := by kernel_rfl
theorem own_made (base : Nat) (t : TypeId) (w : World) (g n : Nat) (h : w.ownsRow base t 1 (.slice (some ⟨g, 0, none⟩) n n) n (madeCells (Value.int .i64 0).cells (n * 1)).toList) : Own eI base t w (.slice (some ⟨g, 0, none⟩) n n) (List.replicate n 0) := by
  unfold Own
  rw [List.length_replicate, flat_one (f := Value.int .i64) (fun _ => rfl), List.map_replicate, ← toList_madeCells_one]
  rw [Nat.mul_one] at h
  exact h
theorem own_rows (base : Nat) (t : TypeId) (w : World) (g n k : Nat) (h : w.ownsRow base t 1 (.slice (some ⟨g, 0, none⟩) n n) n (madeCells (Value.slice none 0 0).cells (n * 1)).toList) : Own (eRow k) base t w (.slice (some ⟨g, 0, none⟩) n n) (List.replicate n none) := by
  unfold Own
  rw [List.length_replicate, flat_one (E := eRow k) (f := fun g => match g with | none => .slice none 0 0 | some g => .slice (some ⟨g, 0, none⟩) k k) (fun _ => rfl), List.map_replicate, ← toList_madeCells_one]
  rw [Nat.mul_one] at h
  exact h
theorem min3 {x : Int} {d2 d3 D : Nat} (h : (D : Int) = min x (min ((d2 : Int) + 1) ((d3 : Int) + 1))) : (if (d3 : Int) + 1 < if (d2 : Int) + 1 < x then (d2 : Int) + 1 else x then (d3 : Int) + 1 else if (d2 : Int) + 1 < x then (d2 : Int) + 1 else x) = (D : Int) := by
  rw [h]
  by_cases h1 : (d2 : Int) + 1 < x
  · rw [if_pos h1]
    by_cases h2 : (d3 : Int) + 1 < (d2 : Int) + 1
    · rw [if_pos h2]; omega
    · rw [if_neg h2]; omega
  · rw [if_neg h1]
    by_cases h2 : (d3 : Int) + 1 < x
    · rw [if_pos h2]; omega
    · rw [if_neg h2]; omega
end Go.Proofs.YtpnhmapkdbnkmaaDoor
