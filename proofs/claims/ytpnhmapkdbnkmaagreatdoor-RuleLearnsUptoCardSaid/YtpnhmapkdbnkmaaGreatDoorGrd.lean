/- align's grid in plain Lean: its two rows, place by place. No condition. -/
import Derived.Test.YtpnhmapkdbnkmaaGreatDoorAlg
namespace Go.Proofs.YtpnhmapkdbnkmaaGreatDoor
open Go Go.RowKit
theorem place_div {i j n : Nat} (hj : j ≤ n) : (i * (n + 1) + j) / (n + 1) = i := by
  rw [Nat.add_comm, Nat.add_mul_div_right _ _ (by omega), Nat.div_eq_of_lt (by omega), Nat.zero_add]
theorem place_mod {i j n : Nat} (hj : j ≤ n) : (i * (n + 1) + j) % (n + 1) = j := by
  rw [Nat.add_comm, Nat.add_mul_mod_self_right, Nat.mod_eq_of_lt (by omega)]
def fewL (a b : List Int) (m : Nat) : List Int := (List.range ((a.length + 1) * (b.length + 1))).map fun p => if p < m then ((dd a b (p / (b.length + 1)) (p % (b.length + 1)) : Nat) : Int) else 0
def kindL (a b : List Int) (m : Nat) : List Int := (List.range ((a.length + 1) * (b.length + 1))).map fun p => if 0 < p ∧ p < m then ((kd a b (p / (b.length + 1)) (p % (b.length + 1)) : Nat) : Int) else 0
theorem fewL_len (a b : List Int) (m : Nat) : (fewL a b m).length = (a.length + 1) * (b.length + 1) := by simp [fewL]
theorem kindL_len (a b : List Int) (m : Nat) : (kindL a b m).length = (a.length + 1) * (b.length + 1) := by simp [kindL]
theorem place_small {a b : List Int} {i j : Nat} (hi : i ≤ a.length) (hj : j ≤ b.length) : i * (b.length + 1) + j < (a.length + 1) * (b.length + 1) := by
  have h1 : i * (b.length + 1) ≤ a.length * (b.length + 1) := Nat.mul_le_mul_right _ hi
  rw [Nat.succ_mul]; omega
theorem fewL_at {a b : List Int} {m i j : Nat} (hi : i ≤ a.length) (hj : j ≤ b.length) (h : i * (b.length + 1) + j < m) : (fewL a b m)[i * (b.length + 1) + j]? = some ((dd a b i j : Nat) : Int) := by
  unfold fewL
  rw [List.getElem?_map, List.getElem?_range (place_small hi hj), Option.map_some, if_pos h, place_div hj, place_mod hj]
theorem kindL_at {a b : List Int} {m i j : Nat} (hi : i ≤ a.length) (hj : j ≤ b.length) (h : i * (b.length + 1) + j < m) (h0 : 0 < i + j) : (kindL a b m)[i * (b.length + 1) + j]? = some ((kd a b i j : Nat) : Int) := by
  unfold kindL
  have hp : 0 < i * (b.length + 1) + j := by
    rcases Nat.eq_zero_or_pos i with hi0 | hi0
    · subst hi0; omega
    · have : 0 < i * (b.length + 1) := Nat.mul_pos hi0 (by omega)
      omega
  rw [List.getElem?_map, List.getElem?_range (place_small hi hj), Option.map_some, if_pos ⟨hp, h⟩, place_div hj, place_mod hj]
theorem fewL_set {a b : List Int} {m i j : Nat} (hi : i ≤ a.length) (hj : j ≤ b.length) (h : i * (b.length + 1) + j = m) : (fewL a b m).set m ((dd a b i j : Nat) : Int) = fewL a b (m + 1) := by
  refine List.ext_getElem? fun q => ?_
  have hm : m < (a.length + 1) * (b.length + 1) := h ▸ place_small hi hj
  by_cases hq : q < (a.length + 1) * (b.length + 1)
  · rw [List.getElem?_set]
    unfold fewL
    rw [List.getElem?_map, List.getElem?_map, List.getElem?_range hq]
    by_cases e : m = q
    · subst e
      rw [if_pos rfl, if_pos (by simpa using hm), Option.map_some, if_pos (by omega), ← h, place_div hj, place_mod hj]
    · rw [if_neg e, Option.map_some, Option.map_some]
      by_cases h1 : q < m
      · rw [if_pos h1, if_pos (by omega)]
      · rw [if_neg h1, if_neg (by omega)]
  · rw [List.getElem?_eq_none (by rw [List.length_set, fewL_len]; omega), List.getElem?_eq_none (by rw [fewL_len]; omega)]
theorem kindL_set {a b : List Int} {m i j : Nat} (hi : i ≤ a.length) (hj : j ≤ b.length) (h : i * (b.length + 1) + j = m) (h0 : 0 < i + j) : (kindL a b m).set m ((kd a b i j : Nat) : Int) = kindL a b (m + 1) := by
  refine List.ext_getElem? fun q => ?_
  have hm : m < (a.length + 1) * (b.length + 1) := h ▸ place_small hi hj
  have hp : 0 < m := by
    rcases Nat.eq_zero_or_pos i with hi0 | hi0
    · subst hi0; omega
    · have : 0 < i * (b.length + 1) := Nat.mul_pos hi0 (by omega)
      omega
  by_cases hq : q < (a.length + 1) * (b.length + 1)
  · rw [List.getElem?_set]
    unfold kindL
    rw [List.getElem?_map, List.getElem?_map, List.getElem?_range hq]
    by_cases e : m = q
    · subst e
      rw [if_pos rfl, if_pos (by simpa using hm), Option.map_some, if_pos (by omega), ← h, place_div hj, place_mod hj]
    · rw [if_neg e, Option.map_some, Option.map_some]
      by_cases h1 : 0 < q ∧ q < m
      · rw [if_pos h1, if_pos (by omega)]
      · rw [if_neg h1, if_neg (by omega)]
  · rw [List.getElem?_eq_none (by rw [List.length_set, kindL_len]; omega), List.getElem?_eq_none (by rw [kindL_len]; omega)]
theorem fewL_zero (a b : List Int) : fewL a b 0 = List.replicate ((a.length + 1) * (b.length + 1)) 0 := by
  unfold fewL
  refine List.ext_getElem? fun q => ?_
  by_cases hq : q < (a.length + 1) * (b.length + 1)
  · rw [List.getElem?_map, List.getElem?_range hq, Option.map_some, if_neg (by omega), List.getElem?_replicate, if_pos hq]
  · rw [List.getElem?_eq_none (by simp; omega), List.getElem?_eq_none (by simp; omega)]
theorem kindL_zero (a b : List Int) : kindL a b 0 = List.replicate ((a.length + 1) * (b.length + 1)) 0 := by
  unfold kindL
  refine List.ext_getElem? fun q => ?_
  by_cases hq : q < (a.length + 1) * (b.length + 1)
  · rw [List.getElem?_map, List.getElem?_range hq, Option.map_some, if_neg (by omega), List.getElem?_replicate, if_pos hq]
  · rw [List.getElem?_eq_none (by simp; omega), List.getElem?_eq_none (by simp; omega)]
theorem fewL_one (a b : List Int) : fewL a b 1 = fewL a b 0 := by
  have h := fewL_set (a := a) (b := b) (m := 0) (i := 0) (j := 0) (by omega) (by omega) (by simp)
  rw [← h, dd_zero, fewL_zero]
  refine List.ext_getElem? fun q => ?_
  rw [List.getElem?_set]
  by_cases e : 0 = q
  · subst e
    have : 0 < (a.length + 1) * (b.length + 1) := Nat.mul_pos (by omega) (by omega)
    rw [if_pos rfl, if_pos (by simp), List.getElem?_replicate, if_pos this]; rfl
  · rw [if_neg e]
theorem kindL_one (a b : List Int) : kindL a b 1 = kindL a b 0 := by
  unfold kindL
  refine List.map_congr_left fun p _ => ?_
  rw [if_neg (by omega), if_neg (by omega)]
end Go.Proofs.YtpnhmapkdbnkmaaGreatDoor
