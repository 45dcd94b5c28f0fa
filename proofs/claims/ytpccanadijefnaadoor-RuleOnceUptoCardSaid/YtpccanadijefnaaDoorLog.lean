/- Numbers as rows of digits, and how often a sixteenth of a doubling fits between two: plain. No condition. -/
import Derived.Test.YtpccanadijefnaaDoorBase
namespace Go.Proofs.YtpccanadijefnaaDoor
/-- How often a sixteenth of a doubling fits. -/
def ratioN (a b : Nat) : Nat := Nat.log2 (a ^ 16 / b ^ 16)
theorem ratio_of {a b k : Nat} (hb : 0 < b) (h1 : 2 ^ k * b ^ 16 ≤ a ^ 16) (h2 : a ^ 16 < 2 ^ (k + 1) * b ^ 16) : ratioN a b = k := by
  unfold ratioN
  have hp : 0 < b ^ 16 := Nat.pow_pos hb
  have e1 : 2 ^ k ≤ a ^ 16 / b ^ 16 := (Nat.le_div_iff_mul_le hp).2 h1
  have e2 : a ^ 16 / b ^ 16 < 2 ^ (k + 1) := (Nat.div_lt_iff_lt_mul hp).2 h2
  have h0 : 0 < 2 ^ k := Nat.pow_pos (by omega)
  exact (Nat.log2_eq_iff (by omega)).2 ⟨e1, e2⟩
/-- The number of a row of digits, the lowest first. -/
def valB (B : Int) : List Int → Int
  | [] => 0
  | x :: r => x + B * valB B r
theorem valB_set (B : Int) : ∀ (l : List Int) (j : Nat) (h : j < l.length) (v : Int), valB B (l.set j v) = valB B l + (v - l[j]) * B ^ j
  | x :: r, 0, _, v => by simp [valB]; omega
  | x :: r, j + 1, h, v => by
    have ih := valB_set B r j (by simpa using h) v
    simp only [List.set_cons_succ, valB, List.getElem_cons_succ, ih]
    grind
theorem valB_append (B : Int) : ∀ (l m : List Int), valB B (l ++ m) = valB B l + B ^ l.length * valB B m
  | [], m => by simp [valB]
  | x :: l, m => by
    simp only [List.cons_append, valB, valB_append B l m, List.length_cons]
    grind
theorem valB_take (B : Int) (l : List Int) (k : Nat) (h : k < l.length) : valB B (l.take (k + 1)) = valB B (l.take k) + l[k] * B ^ k := by
  rw [List.take_succ_eq_append_getElem h, valB_append]
  simp [valB, Nat.min_eq_left (Nat.le_of_lt h)]
  grind
theorem valB_rep (B : Int) (n : Nat) : valB B (List.replicate n 0) = 0 := by
  induction n with
  | zero => rfl
  | succ n ih => simp [List.replicate_succ, valB, ih]
/-- Digits of a base. -/
def DigB (B : Int) (l : List Int) : Prop := ∀ x ∈ l, 0 ≤ x ∧ x < B
theorem DigB.at {B : Int} {l : List Int} (h : DigB B l) (k : Nat) (hk : k < l.length) : 0 ≤ l[k] ∧ l[k] < B := h _ (List.getElem_mem hk)
theorem DigB.set {B : Int} {l : List Int} (h : DigB B l) (k : Nat) {v : Int} (h0 : 0 ≤ v) (h1 : v < B) : DigB B (l.set k v) := fun x hx => by
  rcases List.mem_or_eq_of_mem_set hx with hx | rfl
  · exact h x hx
  · exact ⟨h0, h1⟩
theorem valB_nonneg {B : Int} (hB : 0 ≤ B) : ∀ {l : List Int}, (∀ x ∈ l, 0 ≤ x) → 0 ≤ valB B l
  | [], _ => by simp [valB]
  | x :: r, h => by
    have h1 := h x (by simp)
    have h2 := valB_nonneg hB (l := r) fun y hy => h y (by simp [hy])
    have h3 := Int.mul_nonneg hB h2
    simp only [valB]; omega
theorem valB_lt {B : Int} (hB : 0 < B) : ∀ {l : List Int}, DigB B l → valB B l < B ^ l.length
  | [], _ => by simp [valB]
  | x :: r, h => by
    have h1 := h x (by simp)
    have h2 := valB_lt hB (l := r) fun y hy => h y (by simp [hy])
    have h3 : B * (valB B r + 1) ≤ B * B ^ r.length := Int.mul_le_mul_of_nonneg_left (by omega) (by omega)
    simp only [valB, List.length_cons]
    have h4 : B ^ (r.length + 1) = B * B ^ r.length := by rw [Int.pow_succ, Int.mul_comm]
    have h5 : B * (valB B r + 1) = B * valB B r + B := by grind
    omega
/-- The higher digit decides. -/
theorem valB_less {B : Int} (hB : 0 < B) {l m : List Int} (hl : DigB B l) (hm : DigB B m) (hlen : l.length = m.length) (k : Nat) (hk : k < l.length) (hk' : k < m.length) (hs : l.drop (k + 1) = m.drop (k + 1)) (h : l[k] < m[k]) : valB B l < valB B m := by
  have e1 : l = l.take (k + 1) ++ l.drop (k + 1) := (List.take_append_drop _ _).symm
  have e2 : m = m.take (k + 1) ++ m.drop (k + 1) := (List.take_append_drop _ _).symm
  rw [e1, e2, valB_append, valB_append, hs, List.length_take, List.length_take, Nat.min_eq_left (by omega), Nat.min_eq_left (by omega), valB_take B l k hk, valB_take B m k hk']
  have h1 := valB_lt hB (l := l.take k) fun x hx => hl x (List.mem_of_mem_take hx)
  rw [List.length_take, Nat.min_eq_left (by omega)] at h1
  have h2 := valB_nonneg (B := B) (by omega) (l := m.take k) fun x hx => (hm x (List.mem_of_mem_take hx)).1
  have h3 : (l[k] + 1) * B ^ k ≤ m[k] * B ^ k := Int.mul_le_mul_of_nonneg_right (by omega) (Int.le_of_lt (Int.pow_pos hB))
  have h4 : (l[k] + 1) * B ^ k = l[k] * B ^ k + B ^ k := by grind
  omega
/-- No digit too many. -/
def TopB (l : List Int) : Prop := ∀ h : l ≠ [], l.getLast h ≠ 0
theorem top_len {B : Int} (hB : 1 < B) {l : List Int} (hd : DigB B l) (ht : TopB l) {m : Nat} (h : valB B l < B ^ m) : l.length ≤ m := by
  rcases Nat.lt_or_ge m l.length with hlt | hge
  · exfalso
    have hne : l ≠ [] := by intro e; subst e; simp at hlt
    have e1 : l = l.dropLast ++ [l.getLast hne] := (List.dropLast_concat_getLast hne).symm
    have h1 := ht hne
    have h2 := hd _ (List.getLast_mem hne)
    have h3 := valB_nonneg (B := B) (by omega) (l := l.dropLast) fun x hx => (hd x ((List.dropLast_sublist l).subset hx)).1
    rw [e1, valB_append, List.length_dropLast] at h
    have h4 : B ^ m ≤ B ^ (l.length - 1) := by
      obtain ⟨d, hd'⟩ : ∃ d, l.length - 1 = m + d := ⟨l.length - 1 - m, by omega⟩
      have h6 : 0 < B ^ d := Int.pow_pos (by omega)
      have h7 : B ^ m * 1 ≤ B ^ m * B ^ d := Int.mul_le_mul_of_nonneg_left (by omega) (Int.le_of_lt (Int.pow_pos (by omega)))
      rw [hd', Int.pow_add]; omega
    have h5 : B ^ (l.length - 1) * 1 ≤ B ^ (l.length - 1) * l.getLast hne := Int.mul_le_mul_of_nonneg_left (by omega) (Int.le_of_lt (Int.pow_pos (by omega)))
    simp only [valB, Int.mul_zero, Int.add_zero, Int.mul_one] at h h5
    omega
  · exact hge
/-- Fewer digits, smaller. -/
theorem top_less {B : Int} (hB : 1 < B) {l m : List Int} (hl : DigB B l) (hm : DigB B m) (ht : TopB m) (h : l.length < m.length) : valB B l < valB B m := by
  rcases Int.lt_or_le (valB B l) (valB B m) with h1 | h1
  · exact h1
  · exfalso
    have h2 := valB_lt (by omega) hl
    have h3 := top_len hB hm ht (m := l.length) (by omega)
    omega
theorem valB_inj {B : Int} (hB : 0 < B) : ∀ {l m : List Int}, DigB B l → DigB B m → l.length = m.length → valB B l = valB B m → l = m
  | [], [], _, _, _, _ => rfl
  | x :: l, y :: m, hl, hm, hlen, h => by
    have h1 := hl x (by simp)
    have h2 := hm y (by simp)
    simp only [valB] at h
    have e : x = y := by
      have h3 : (x + B * valB B l) % B = x % B := Int.add_mul_emod_self_left ..
      have h4 : (y + B * valB B m) % B = y % B := Int.add_mul_emod_self_left ..
      rw [h, h4, Int.emod_eq_of_lt h2.1 h2.2, Int.emod_eq_of_lt h1.1 h1.2] at h3
      exact h3.symm
    subst e
    have h5 : B * valB B l = B * valB B m := by omega
    have h6 := Int.eq_of_mul_eq_mul_left (by omega) h5
    rw [valB_inj hB (fun z hz => hl z (by simp [hz])) (fun z hz => hm z (by simp [hz])) (by simpa using hlen) h6]
/-! ### the answer -/
theorem ratio_le (a : Nat) {b c : Nat} (hb : 0 < b) (h : b ≤ c) : ratioN a c ≤ ratioN a b := by
  unfold ratioN
  have h1 : b ^ 16 ≤ c ^ 16 := Nat.pow_le_pow_left h 16
  have h2 : a ^ 16 / c ^ 16 ≤ a ^ 16 / b ^ 16 := Nat.div_le_div_left h1 (Nat.pow_pos hb)
  rcases Nat.eq_zero_or_pos (a ^ 16 / c ^ 16) with h0 | h0
  · rw [h0]; exact Nat.zero_le _
  · exact (Nat.le_log2 (by omega)).2 (Nat.le_trans (Nat.log2_self_le (by omega)) h2)
theorem pow_less (m n : Nat) (h : m * 16 < n) : (2 ^ m) ^ 16 < 2 ^ n := by rw [← Nat.pow_mul]; exact Nat.pow_lt_pow_right (by omega) h
theorem ratio_bound {a b : Nat} (hb : 0 < b) (hba : b ≤ a) (ha : a ≤ 2147483648) : ratioN a b ≤ 496 := by
  unfold ratioN
  have h1 : a ^ 16 ≤ (2 ^ 31) ^ 16 := Nat.pow_le_pow_left ha 16
  have h2 : a ^ 16 / b ^ 16 ≤ a ^ 16 := Nat.div_le_self _ _
  have h3 : b ^ 16 ≤ a ^ 16 := Nat.pow_le_pow_left hba 16
  have h4 : 1 ≤ a ^ 16 / b ^ 16 := (Nat.le_div_iff_mul_le (Nat.pow_pos hb)).2 (by rw [Nat.one_mul]; exact h3)
  generalize a ^ 16 / b ^ 16 = q at *
  have : Nat.log2 q < 497 := (Nat.log2_lt (by omega)).2 (Nat.lt_of_le_of_lt (Nat.le_trans h2 h1) (pow_less 31 497 (by omega)))
  omega
/-- What something costs. -/
def costN (total kinds n : Nat) : Nat := min (max (ratioN (total + kinds) (n + 1)) 1) 255
/-! ### words -/
def vW (l : List Nat) : Int := valB 18446744073709551616 (l.map fun x : Nat => (x : Int))
/-- A word's product by a word, and what is carried. -/
theorem sq_step (x y c o : Nat) (hx : x < 18446744073709551616) (hy : y < 18446744073709551616) (hc : c < 18446744073709551616) (ho : o < 18446744073709551616) :
    (o + (x * y % 18446744073709551616 + c) % 18446744073709551616) % 18446744073709551616 + (x * y / 18446744073709551616 + (x * y % 18446744073709551616 + c) / 18446744073709551616 + (o + (x * y % 18446744073709551616 + c) % 18446744073709551616) / 18446744073709551616) * 18446744073709551616 = o + x * y + c ∧
    x * y / 18446744073709551616 + (x * y % 18446744073709551616 + c) / 18446744073709551616 + (o + (x * y % 18446744073709551616 + c) % 18446744073709551616) / 18446744073709551616 < 18446744073709551616 ∧
    x * y / 18446744073709551616 + (x * y % 18446744073709551616 + c) / 18446744073709551616 < 18446744073709551616 := by
  have h1 : x * y ≤ 18446744073709551615 * 18446744073709551615 := Nat.mul_le_mul (by omega) (by omega)
  generalize x * y = p at *
  omega
theorem vW_set {l : List Nat} (j : Nat) (h : j < l.length) (v : Nat) : vW (l.set j v) = vW l + ((v : Int) - l[j]) * 18446744073709551616 ^ j := by
  unfold vW
  rw [List.map_set, valB_set _ _ j (by simpa using h)]
  simp
theorem vW_take {l : List Nat} (k : Nat) (h : k < l.length) : vW (l.take (k + 1)) = vW (l.take k) + (l[k] : Int) * 18446744073709551616 ^ k := by
  unfold vW
  rw [List.map_take, List.map_take, valB_take _ _ k (by simpa using h)]
  simp
def WdB (l : List Nat) : Prop := l.length = 9 ∧ ∀ x ∈ l, x < 18446744073709551616
theorem WdB.dig {l : List Nat} (h : WdB l) : DigB 18446744073709551616 (l.map fun x : Nat => (x : Int)) := fun x hx => by
  obtain ⟨y, hy, rfl⟩ := List.mem_map.1 hx
  have := h.2 y hy
  constructor <;> omega
theorem WdB.lt {l : List Nat} (h : WdB l) : vW l < 18446744073709551616 ^ 9 := by
  have := valB_lt (by omega) h.dig
  rw [List.length_map, h.1] at this
  exact this
theorem WdB.pos {l : List Nat} (_ : WdB l) : 0 ≤ vW l := valB_nonneg (by omega) fun x hx => by
  obtain ⟨y, _, rfl⟩ := List.mem_map.1 hx
  omega
theorem WdB.set {l : List Nat} (h : WdB l) (j : Nat) {v : Nat} (hv : v < 18446744073709551616) : WdB (l.set j v) := ⟨by rw [List.length_set]; exact h.1, fun x hx => by
  rcases List.mem_or_eq_of_mem_set hx with hx | rfl
  · exact h.2 x hx
  · exact hv⟩
theorem WdB.at {l : List Nat} (h : WdB l) (k : Nat) (hk : k < l.length) : l[k] < 18446744073709551616 := h.2 _ (List.getElem_mem hk)
/-- Of two the greater one: the highest word that isn't the same decides. -/
theorem vW_less {l m : List Nat} (hl : WdB l) (hm : WdB m) (k : Nat) (hk : k < l.length) (hk' : k < m.length) (hs : l.drop (k + 1) = m.drop (k + 1)) (h : l[k] < m[k]) : vW l < vW m := by
  unfold vW
  refine valB_less (by omega) hl.dig hm.dig (by simp [hl.1, hm.1]) k (by simpa using hk) (by simpa using hk') ?_ (by simpa using h)
  rw [← List.map_drop, ← List.map_drop, hs]
end Go.Proofs.YtpccanadijefnaaDoor
