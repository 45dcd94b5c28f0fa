/- Parts of these proofs, one behind the other: WideB, LogA, LogB. No condition. -/
import Derived.Test.YtmpoihejacklnaaDoorK801
import Derived.Test.YtmpoihejacklnaaDoorShelf
import Derived.Laws.Externs
import Derived.Test.YtmpoihejacklnaaDoorProg
import Derived.Lib.Hide
import Derived.Deep.QuietTactic
/- Of two numbers of nine words the greater one; a number by itself. No condition. -/
namespace Go.Proofs.YtmpoihejacklnaaDoor
open Go Go.RowKit Go.Great
/-- What is the same but for some of q, and less than q, is the same. -/
theorem unwrap {a b n q : Int} (h0 : 0 ≤ a) (h1 : a < n) (h2 : 0 ≤ b) (h3 : b < n) (h : a + q * n = b) : a = b := by
  have e : q = 0 := by
    rcases Int.lt_trichotomy q 0 with h4 | h4 | h4
    · exfalso
      have h5 : q * n ≤ -1 * n := Int.mul_le_mul_of_nonneg_right (by omega) (by omega)
      omega
    · exact h4
    · exfalso
      have h5 : 1 * n ≤ q * n := Int.mul_le_mul_of_nonneg_right (by omega) (by omega)
      omega
  subst e
  omega
end Go.Proofs.YtmpoihejacklnaaDoor
/- The reference of layer 3: numbers as long as they are. No condition. -/
namespace Go.Proofs.YtmpoihejacklnaaDoor
open Go.RowKit
theorem info_int : (Tryd.prog.info? 3).map (fun i => (i.zero, i.size, i.bytes)) = some (some (.int .i64 0), 1, 8) := by kernel_rfl
abbrev eI : Enc Int := eInt .i64
/-! ### rows of one-celled elements -/
section
variable {α : Type} {E : Enc α} {base : Nat} {e : TypeId} {w : World} {g N cap : Nat} {xs : List α} {f : α → Value}
theorem flat_one (hE : ∀ x, E.e x = [f x]) (xs : List α) : xs.flatMap E.e = xs.map f := by
  induction xs with
  | nil => rfl
  | cons x xs ih => simp [hE, ih]
theorem Own.cell1 (hE : ∀ x, E.e x = [f x]) (h : Own E base e w (.slice (some ⟨g, 0, none⟩) N cap) xs) (j : Nat) (hj : j < xs.length) :
    g < w.heap.size ∧ w.cell? ⟨g, j, none⟩ = some (f xs[j]) ∧ w.frozen? ⟨g, j, none⟩ = false := by
  obtain ⟨A, c, h1, _, _, h4⟩ := h.slv
  obtain ⟨b, o, hA, h5⟩ := h4.at1 hE (Below.refl _ _) j hj
  subst hA
  injection h1 with h1 h1' _
  injection h1 with h1
  injection h1 with h1 h2
  subst h1 h2 h1'
  rw [Nat.zero_add] at h5
  exact ⟨World.block_lt_of_cell? w _ h5, h5, World.ownsRow.frozenAt h j⟩
theorem Own.put1 (hE : ∀ x, E.e x = [f x]) (h : Own E base e w (.slice (some ⟨g, 0, none⟩) N cap) xs) (hN : xs.length = N) (j : Nat) (v : α) :
    Own E base e (w.setCell ⟨g, j, none⟩ (f v)) (.slice (some ⟨g, 0, none⟩) N cap) (xs.set j v) ∧ base ≤ g := by
  subst hN
  have h1 := World.ownsRow.stored h j (f v)
  refine ⟨?_, h.ge g rfl⟩
  unfold Own
  rw [List.length_set, flat_one hE, List.map_set, ← flat_one hE]
  exact h1.1
end
/-- What 'of' hands back: the digits. -/
structure Norm (l : List Int) : Prop where
  dig : DigB 10000 l
  top : TopB l
theorem top_snoc (l : List Int) (x : Int) (h : x ≠ 0) : TopB (l ++ [x]) := fun _ => by simpa using h
theorem tmod_pos (n : Int) (h : 0 ≤ n) : n.tmod 10000 = n % 10000 := Int.tmod_eq_emod_of_nonneg h
theorem tdiv_pos (n : Int) (h : 0 ≤ n) : n.tdiv 10000 = n / 10000 := Int.tdiv_eq_ediv_of_nonneg h
theorem two_len {k : Nat} {m n : Int} (h : 2 ^ k * m ≤ n) (hm : 0 < m) (hn : n ≤ 9223372036854775807) : k ≤ 62 := by
  rcases Nat.lt_or_ge 62 k with hk | hk
  · exfalso
    obtain ⟨d, rfl⟩ : ∃ d, k = 63 + d := ⟨k - 63, by omega⟩
    have h1 : (0 : Int) < 2 ^ d := Int.pow_pos (by omega)
    have h2 : (1 : Int) ≤ 2 ^ d * m := by have := Int.mul_pos h1 hm; omega
    rw [Int.pow_add, Int.mul_assoc] at h
    generalize (2 : Int) ^ d * m = q at *
    omega
  · exact hk
/-! ### a product -/
/-- What the row holds when i digits, and k of the next one's, are through. -/
structure TR (xs ys out : List Int) (N i k : Nat) : Prop where
  len : out.length = N
  bnd : ∀ x ∈ out, 0 ≤ x ∧ x ≤ ((i * ys.length + k : Nat) : Int) * 200000
  val : valB 10000 out = valB 10000 (xs.take i) * valB 10000 ys + xs[i]?.getD 0 * 10000 ^ i * valB 10000 (ys.take k)
theorem TR.start (xs ys : List Int) (N : Nat) : TR xs ys (List.replicate N 0) N 0 0 :=
  ⟨by simp, fun x hx => by rw [List.eq_of_mem_replicate hx]; omega, by rw [valB_rep]; simp [valB]⟩
theorem TR.next {xs ys out : List Int} {N i : Nat} (h : TR xs ys out N i ys.length) (hi : i < xs.length) : TR xs ys out N (i + 1) 0 := by
  refine ⟨h.len, fun x hx => ?_, ?_⟩
  · have := h.bnd x hx; rw [Nat.add_mul, Nat.one_mul]; exact this
  · rw [h.val, valB_take _ _ i hi, List.take_length, List.getElem?_eq_getElem hi]
    simp [valB]
    grind
theorem TR.bd {xs ys out : List Int} {N i k : Nat} (h : TR xs ys out N i k) (hi : i < xs.length) (hk : k < ys.length) (hxl : xs.length ≤ 60) (hyl : ys.length ≤ 60) : ∀ x ∈ out, 0 ≤ x ∧ x ≤ 720000000 := fun x hx => by
  have h1 := h.bnd x hx
  have h2 : i * ys.length + k ≤ 59 * 60 + 60 := Nat.add_le_add (Nat.mul_le_mul (by omega) hyl) (by omega)
  generalize i * ys.length + k = q at *
  omega
theorem dig_mul {xs ys : List Int} (hx : DigB 10000 xs) (hy : DigB 10000 ys) {i k : Nat} (hi : i < xs.length) (hk : k < ys.length) : 0 ≤ xs[i] * ys[k] ∧ xs[i] * ys[k] ≤ 99980001 := by
  have h1 := hx.at i hi
  have h2 := hy.at k hk
  have h3 : xs[i] * ys[k] ≤ 9999 * 9999 := Int.mul_le_mul (by omega) (by omega) h2.1 (by omega)
  exact ⟨Int.mul_nonneg h1.1 h2.1, h3⟩
theorem TR.step {xs ys out : List Int} {N i k : Nat} (h : TR xs ys out N i k) (hi : i < xs.length) (hk : k < ys.length) (hxl : xs.length ≤ 60) (hyl : ys.length ≤ 60) (hx : DigB 10000 xs) (hy : DigB 10000 ys)
    (q1 : i + k < out.length) (q2 : i + k + 1 < out.length) (a b : Int) (ha : a = out[i + k] + xs[i] * ys[k]) (hb : b = out[i + k + 1] + a / 10000) :
    TR xs ys (((out.set (i + k) a).set (i + k + 1) b).set (i + k) (a % 10000)) N i (k + 1) ∧ 0 ≤ a ∧ a ≤ 900000000 ∧ 0 ≤ b ∧ b ≤ 900000000 := by
  have hm := dig_mul hx hy hi hk
  have h0 := h.bd hi hk hxl hyl
  have h1 := h0 _ (List.getElem_mem q1)
  have h2 := h0 _ (List.getElem_mem q2)
  have g1 := h.bnd _ (List.getElem_mem q1)
  have g2 := h.bnd _ (List.getElem_mem q2)
  have hv := h.val
  have e0 : ((out.set (i + k) a).set (i + k + 1) b).set (i + k) (a % 10000) = (out.set (i + k + 1) b).set (i + k) (a % 10000) := by
    rw [List.set_comm a b (by omega), List.set_set]
  obtain ⟨p, hp⟩ : ∃ p, xs[i] * ys[k] = p := ⟨_, rfl⟩
  rw [hp] at ha hm
  refine ⟨⟨by simp [h.len], fun x hx' => ?_, ?_⟩, by omega, by omega, by omega, by omega⟩
  · have hq : ((i * ys.length + (k + 1) : Nat) : Int) = ((i * ys.length + k : Nat) : Int) + 1 := by push_cast; omega
    rw [hq]
    have hb3 := h.bnd
    generalize ((i * ys.length + k : Nat) : Int) = Q at *
    rw [e0] at hx'
    rcases List.mem_or_eq_of_mem_set hx' with hx' | rfl
    · rcases List.mem_or_eq_of_mem_set hx' with hx' | rfl
      · have := hb3 x hx'; omega
      · omega
    · omega
  · rw [e0, valB_set _ _ _ (by simpa using q1), valB_set _ _ _ q2, hv, valB_take _ _ k hk, List.getElem?_eq_getElem hi, List.getElem_set_ne (by omega)]
    simp only [Option.getD_some]
    rw [Int.pow_succ, Int.pow_add]
    have e1 := Int.mul_ediv_add_emod a 10000
    generalize a % 10000 = r at *
    generalize a / 10000 = q at *
    subst hb
    have e3 : p = 10000 * q + r - out[i + k] := by omega
    have e4 : xs[i] * 10000 ^ i * (valB 10000 (List.take k ys) + ys[k] * 10000 ^ k) = xs[i] * 10000 ^ i * valB 10000 (List.take k ys) + p * (10000 ^ i * 10000 ^ k) := by rw [← hp]; grind
    rw [e4, e3]
    grind
/-- What the row holds when the digits ahead of j are done. -/
structure CR (V : Int) (out : List Int) (N j : Nat) : Prop where
  len : out.length = N
  lo : ∀ q (h : q < out.length), q < j → 0 ≤ out[q] ∧ out[q] < 10000
  at_ : ∀ q (h : q < out.length), q = j → 0 ≤ out[q] ∧ out[q] ≤ 800000000
  hi : ∀ q (h : q < out.length), j < q → 0 ≤ out[q] ∧ out[q] ≤ 720000000
  val : valB 10000 out = V
theorem TR.done {xs ys out : List Int} {N : Nat} (h : TR xs ys out N xs.length 0) (hxl : xs.length ≤ 60) (hyl : ys.length ≤ 60) : CR (valB 10000 xs * valB 10000 ys) out N 0 := by
  have hb : ∀ q (h : q < out.length), 0 ≤ out[q] ∧ out[q] ≤ 720000000 := fun q hq => by
    have h1 := h.bnd _ (List.getElem_mem hq)
    have h2 : xs.length * ys.length + 0 ≤ 60 * 60 := Nat.mul_le_mul hxl hyl
    generalize xs.length * ys.length + 0 = Q at *
    omega
  refine ⟨h.len, fun q _ h => by omega, fun q hq _ => by have := hb q hq; omega, fun q hq _ => hb q hq, ?_⟩
  rw [h.val, List.take_length]
  simp [valB]
theorem CR.step {V : Int} {out : List Int} {N j : Nat} (h : CR V out N j) (q1 : j < out.length) (q2 : j + 1 < out.length) : CR V ((out.set (j + 1) (out[j + 1] + out[j] / 10000)).set j (out[j] % 10000)) N (j + 1) := by
  have h1 := h.at_ j q1 rfl
  have h2 := h.hi (j + 1) q2 (by omega)
  refine ⟨by simp [h.len], fun q hq hj => ?_, fun q hq hj => ?_, fun q hq hj => ?_, ?_⟩
  · simp only [List.length_set] at hq
    rw [List.getElem_set]
    split
    · omega
    · rw [List.getElem_set_ne (by omega)]; exact h.lo q hq (by omega)
  · subst hj
    rw [List.getElem_set_ne (by omega), List.getElem_set_self]; omega
  · simp only [List.length_set] at hq
    rw [List.getElem_set_ne (by omega), List.getElem_set_ne (by omega)]; exact h.hi q hq (by omega)
  · rw [valB_set _ _ _ (by simpa using q1), valB_set _ _ _ q2, h.val, List.getElem_set_ne (by omega), Int.pow_succ]
    have e1 := Int.mul_ediv_add_emod out[j] 10000
    generalize out[j] % 10000 = r at *
    generalize out[j] / 10000 = q at *
    rw [← e1]
    grind
theorem CR.done {xs ys out : List Int} {N j : Nat} (h : CR (valB 10000 xs * valB 10000 ys) out N j) (hj : j + 1 = N) (hN : N = xs.length + ys.length + 1) (hx : DigB 10000 xs) (hy : DigB 10000 ys) : DigB 10000 out := by
  have hlen := h.len
  have e1 : out = out.take j ++ [out[j]] := by rw [← List.take_succ_eq_append_getElem (by omega), List.take_of_length_le (by omega)]
  have hd : DigB 10000 (out.take j) := fun x hx => by
    obtain ⟨q, hq, rfl⟩ := List.getElem_of_mem hx
    simp only [List.length_take] at hq
    rw [List.getElem_take]
    exact h.lo q (by omega) (by omega)
  have hl := h.at_ j (by omega) rfl
  have h1 := valB_lt (by omega) hx
  have h2 := valB_lt (by omega) hy
  have h3 : valB 10000 xs * valB 10000 ys < 10000 ^ xs.length * 10000 ^ ys.length := Int.mul_lt_mul' (Int.le_of_lt h1) h2 (valB_nonneg (by omega) fun x h => (hy x h).1) (Int.pow_pos (by omega))
  have h4 := h.val
  rw [e1, valB_append, List.length_take, Nat.min_eq_left (by omega)] at h4
  have h5 := valB_nonneg (B := 10000) (by omega) fun x h => (hd x h).1
  have h6 : out[j] = 0 := by
    rcases Int.lt_or_le 0 out[j] with h0 | h0
    · exfalso
      rw [← Int.pow_add, show xs.length + ys.length = j by omega] at h3
      have h7 : (10000 : Int) ^ j * 1 ≤ 10000 ^ j * out[j] := Int.mul_le_mul_of_nonneg_left (by omega) (Int.le_of_lt (Int.pow_pos (by omega)))
      simp only [valB, Int.mul_zero, Int.add_zero] at h4
      omega
    · omega
  rw [e1, h6]
  intro x hx
  rcases List.mem_append.1 hx with hx | hx
  · exact hd x hx
  · obtain rfl := List.mem_singleton.1 hx; omega
theorem SlA.cut {α : Type} {E : Enc α} {w : World} {A : Option Addr} {xs : List α} (h : SlA E w A xs) (k : Nat) : SlA E w A (xs.take k) := fun j x hx => by
  rw [List.getElem?_take] at hx
  split at hx
  · exact h j x hx
  · cases hx
theorem val_cut {B : Int} {l : List Int} {n : Nat} (hn : n + 1 = l.length) (h : l[n] = 0) : valB B (l.take n) = valB B l := by
  have h1 := valB_take B l n (by omega)
  rw [h, List.take_of_length_le (by omega)] at h1
  simp at h1; exact h1.symm
theorem top_of {l : List Int} {n : Nat} (hn : n + 1 = l.length) (h : l[n] ≠ 0) : TopB l := fun hne => by
  rw [List.getLast_eq_getElem]
  have : l.length - 1 = n := by omega
  simpa [this] using h
end Go.Proofs.YtmpoihejacklnaaDoor
/- The reference of layer 3: which number is greater, the sixteenth power, the ratio, what something costs. No condition. -/
namespace Go.Proofs.YtmpoihejacklnaaDoor
open Go.RowKit
theorem pow_cap {n : Int} (h0 : 0 ≤ n) (h1 : n ≤ 2147483648) (k : Nat) (hk : k ≤ 16) : n ^ k < 10000 ^ 40 := by
  obtain ⟨m, rfl⟩ := Int.eq_ofNat_of_zero_le h0
  have h2 : m ^ k ≤ 2147483648 ^ k := Nat.pow_le_pow_left (by omega) k
  have h3 : 2147483648 ^ k ≤ 2147483648 ^ 16 := Nat.pow_le_pow_right (by omega) hk
  have h4 : 2147483648 ^ 16 < 10000 ^ 40 := by decide
  have h5 : ((m ^ k : Nat) : Int) < ((10000 ^ 40 : Nat) : Int) := Int.ofNat_lt.2 (Nat.lt_of_le_of_lt (Nat.le_trans h2 h3) h4)
  rw [Int.natCast_pow, Int.natCast_pow] at h5
  exact h5
theorem norm_len {l : List Int} (hn : Norm l) {n : Int} (h0 : 0 ≤ n) (h1 : n ≤ 2147483648) {k : Nat} (hk : k ≤ 16) (h : valB 10000 l = n ^ k) : l.length ≤ 40 :=
  top_len (by omega) hn.dig hn.top (by rw [h]; exact pow_cap h0 h1 k hk)
theorem pow_mono {a b : Int} (h0 : 0 ≤ b) (h : b ≤ a) : b ^ 16 ≤ a ^ 16 := by
  obtain ⟨m, rfl⟩ := Int.eq_ofNat_of_zero_le (show 0 ≤ a by omega)
  obtain ⟨n, rfl⟩ := Int.eq_ofNat_of_zero_le h0
  have h1 : ((n ^ 16 : Nat) : Int) ≤ ((m ^ 16 : Nat) : Int) := Int.ofNat_le.2 (Nat.pow_le_pow_left (by omega) 16)
  rw [Int.natCast_pow, Int.natCast_pow] at h1
  exact h1
theorem pow_most (m n k : Nat) (h : m * n ≤ k) : (2 ^ m) ^ n ≤ 2 ^ k := by rw [← Nat.pow_mul]; exact Nat.pow_le_pow_right (by omega) h
theorem two_cap {k : Nat} {a b : Int} (hb : 1 ≤ b) (ha : 0 ≤ a) (ha2 : a ≤ 2147483648) (h : 2 ^ k * b ^ 16 ≤ a ^ 16) : k < 1000 := by
  rcases Nat.lt_or_ge k 1000 with h1 | h1
  · exact h1
  · exfalso
    have h2 := pow_cap ha ha2 16 (by omega)
    have h3 : (1 : Int) ≤ b ^ 16 := by have : (0 : Int) < b ^ 16 := Int.pow_pos (by omega); omega
    have h4 : (2 : Int) ^ k * 1 ≤ 2 ^ k * b ^ 16 := Int.mul_le_mul_of_nonneg_left h3 (Int.le_of_lt (Int.pow_pos (by omega)))
    have h5 : (10000 : Nat) ^ 40 ≤ (2 ^ 14) ^ 40 := Nat.pow_le_pow_left (by omega) 40
    have h6 : (2 ^ 14) ^ 40 ≤ 2 ^ k := pow_most 14 40 k (by omega)
    have h7 : ((10000 ^ 40 : Nat) : Int) ≤ ((2 ^ k : Nat) : Int) := Int.ofNat_le.2 (Nat.le_trans h5 h6)
    rw [Int.natCast_pow, Int.natCast_pow] at h7
    have h8 : (10000 : Int) ^ 40 ≤ 2 ^ k := h7
    rw [Int.mul_one] at h4
    exact absurd (Int.lt_of_le_of_lt (Int.le_trans h4 h) h2) (by omega)
theorem ratio_int {k : Nat} {a b : Int} (hb : 1 ≤ b) (ha : 0 ≤ a) (h1 : 2 ^ k * b ^ 16 ≤ a ^ 16) (h2 : a ^ 16 < 2 ^ (k + 1) * b ^ 16) : ratioN a.toNat b.toNat = k := by
  obtain ⟨m, rfl⟩ := Int.eq_ofNat_of_zero_le ha
  obtain ⟨n, rfl⟩ := Int.eq_ofNat_of_zero_le (show 0 ≤ b by omega)
  refine ratio_of (by omega) ?_ ?_
  · simp only [Int.toNat_natCast]
    have : ((2 ^ k * n ^ 16 : Nat) : Int) ≤ ((m ^ 16 : Nat) : Int) := by push_cast; exact h1
    exact Int.ofNat_le.1 this
  · simp only [Int.toNat_natCast]
    have : ((m ^ 16 : Nat) : Int) < ((2 ^ (k + 1) * n ^ 16 : Nat) : Int) := by push_cast; exact h2
    exact Int.ofNat_lt.1 this
theorem norm_two : Norm [2] := ⟨fun x hx => by obtain rfl := List.mem_singleton.1 hx; omega, fun _ => by simp⟩
/-- What 'Ratio' hands back. -/
def ratV (a b : Int) : Value := if b < 1 ∨ a < b ∨ 2147483648 < a then .tuple #[.int .i64 0, .int .i64 2] else .tuple #[.int .i64 (ratioN a.toNat b.toNat), .int .i64 0]
/-- What 'Cost' hands back. -/
def cstV (total kinds n : Int) : Value := if total < 0 ∨ 1073741824 < total ∨ kinds < 1 ∨ 4096 < kinds ∨ n < 0 ∨ total < n then .tuple #[.int .i64 0, .int .i64 2] else .tuple #[.int .i64 (costN total.toNat kinds.toNat n.toNat), .int .i64 0]
end Go.Proofs.YtmpoihejacklnaaDoor
