/- The reference of layer 3: numbers as long as they are. No condition. -/
import Derived.Test.YtpccanadijefnaaDoorReg
import Derived.Test.YtpccanadijefnaaDoorLog
import Derived.Test.YtpccanadijefnaaDoorProg
import Derived.Lib.Hide
namespace Go.Proofs.YtpccanadijefnaaDoor
open Go.RowKit
theorem info_int : (Tryd.prog.info? 3).map (fun i => (i.zero, i.size, i.bytes)) = some (some (.int .i64 0), 1, 8) := by kernel_rfl
abbrev eI : Enc Int := eInt .i64
/-! ### rows of one-celled elements -/
section
variable {α : Type} {E : Enc α} {base : Nat} {e : TypeId} {w : World} {g N cap : Nat} {xs : List α} {f : α → Value}
theorem flat_one (hE : ∀ x, E.e x = [f x]) (xs : List α) : xs.flatMap E.e = xs.map f := by
  induction xs with
  | nil => rfl
  | cons x xs ih => simp [hE, ih]
theorem Own.cell1 (hE : ∀ x, E.e x = [f x]) (h : Own E base e w (.slice (some ⟨g, 0, none⟩) N cap) xs) (j : Nat) (hj : j < xs.length) :
    g < w.heap.size ∧ w.cell? ⟨g, j, none⟩ = some (f xs[j]) ∧ w.frozen? ⟨g, j, none⟩ = false := by
  obtain ⟨A, c, h1, _, _, h4⟩ := h.slv
  obtain ⟨b, o, hA, h5⟩ := h4.at1 hE (Below.refl _ _) j hj
  subst hA
  injection h1 with h1 h1' _
  injection h1 with h1
  injection h1 with h1 h2
  subst h1 h2 h1'
  rw [Nat.zero_add] at h5
  exact ⟨World.block_lt_of_cell? w _ h5, h5, World.ownsRow.frozenAt h j⟩
theorem Own.put1 (hE : ∀ x, E.e x = [f x]) (h : Own E base e w (.slice (some ⟨g, 0, none⟩) N cap) xs) (hN : xs.length = N) (j : Nat) (v : α) :
    Own E base e (w.setCell ⟨g, j, none⟩ (f v)) (.slice (some ⟨g, 0, none⟩) N cap) (xs.set j v) ∧ base ≤ g := by
  subst hN
  have h1 := World.ownsRow.stored h j (f v)
  refine ⟨?_, h.ge g rfl⟩
  unfold Own
  rw [List.length_set, flat_one hE, List.map_set, ← flat_one hE]
  exact h1.1
end
/-- What 'of' hands back: the digits. -/
structure Norm (l : List Int) : Prop where
  dig : DigB 10000 l
  top : TopB l
theorem top_snoc (l : List Int) (x : Int) (h : x ≠ 0) : TopB (l ++ [x]) := fun _ => by simpa using h
theorem tmod_pos (n : Int) (h : 0 ≤ n) : n.tmod 10000 = n % 10000 := Int.tmod_eq_emod_of_nonneg h
theorem tdiv_pos (n : Int) (h : 0 ≤ n) : n.tdiv 10000 = n / 10000 := Int.tdiv_eq_ediv_of_nonneg h
theorem two_len {k : Nat} {m n : Int} (h : 2 ^ k * m ≤ n) (hm : 0 < m) (hn : n ≤ 9223372036854775807) : k ≤ 62 := by
  rcases Nat.lt_or_ge 62 k with hk | hk
  · exfalso
    obtain ⟨d, rfl⟩ : ∃ d, k = 63 + d := ⟨k - 63, by omega⟩
    have h1 : (0 : Int) < 2 ^ d := Int.pow_pos (by omega)
    have h2 : (1 : Int) ≤ 2 ^ d * m := by have := Int.mul_pos h1 hm; omega
    rw [Int.pow_add, Int.mul_assoc] at h
    generalize (2 : Int) ^ d * m = q at *
    omega
  · exact hk
set_option maxHeartbeats 1000000 in
set_option maxRecDepth 100000 in
theorem of_c (n : Int) (w : World) (h0 : 0 ≤ n) (h1 : n ≤ 9223372036854775807) :
    Calls Tryd.prog 191 #[.int .i64 n] w fun e w' => ∃ v l, e = .returned v ∧ Own eI w.heap.size 3 w' v l ∧ Below w.heap.size w w' ∧ Norm l ∧ valB 10000 l = n ∧ l.length ≤ 64 := by
  go_enter Tryd.func191, Tryd.ntmps191
  go_wp2
  go_loopw [0, 3] (fun s v wr => ∃ (m : Int) (l : List Int), s = .int .i64 m ∧ 0 ≤ m ∧ m ≤ 9223372036854775807 ∧ Hid (DigB 10000 l ∧ (m = 0 → TopB l) ∧ valB 10000 l + 10000 ^ l.length * m = n) ∧ l.length ≤ 64 ∧ Hid (m = 0 ∨ 2 ^ l.length * m ≤ n) ∧ Own eI w.heap.size 3 wr v l ∧ Below w.heap.size w wr) (fun s _ _ => (intOf s).toNat)
  case atStart => exact ⟨n, [], rfl, h0, h1, ⟨fun x hx => by simp at hx, fun _ h => absurd rfl h, by simp [valB]⟩, by simp, .inr (by simp), Own.nil _, Bel⟩
  case round =>
    obtain ⟨m, l, rfl, m0, m1, HH, hl, H2, HO, hb⟩ := hrel
    by_cases hz : 0 < m
    · have e1 := tmod_pos m m0
      have e2 := tdiv_pos m m0
      go_wp2_with (at_builtin; refine app (E := eI) _ _ 191 3 (.int .i64 0) 8 rfl rfl Tryd.underlying191 info_int rfl (by decide) (by decide) _ l [m % 10000] ⟨_, 0, none⟩ 1 1 rfl rfl rfl (HO.alloc _) (SlA.new _ _ _ _ _ rfl _ rfl) Bel (by simp; omega) ?_; intro v1 w3 HO3 hb3 _ _)
      obtain ⟨hd, ht, hv⟩ := HH.out
      have h2 : 2 ^ l.length * m ≤ n := by rcases H2.out with h | h; · omega
                                           · exact h
      refine ⟨⟨m / 10000, l ++ [m % 10000], rfl, by omega, by omega, ⟨?_, ?_, ?_⟩, ?_, ?_, HO3, hb3⟩, by simp [intOf]; omega⟩
      · intro x hx
        rcases List.mem_append.1 hx with hx | hx
        · exact hd x hx
        · obtain rfl := List.mem_singleton.1 hx; omega
      · intro h; exact top_snoc _ _ (by omega)
      · rw [valB_append, List.length_append]
        simp only [valB, List.length_cons, List.length_nil, Nat.zero_add]
        rw [Int.pow_succ, ← hv, ← Int.mul_ediv_add_emod m 10000]
        grind
      · have := two_len h2 hz h1
        simp; omega
      · right
        rw [List.length_append, List.length_cons, List.length_nil, Nat.zero_add, Int.pow_succ]
        have h3 : (2 : Int) ^ l.length * (2 * (m / 10000)) ≤ 2 ^ l.length * m := Int.mul_le_mul_of_nonneg_left (by omega) (Int.le_of_lt (Int.pow_pos (by omega)))
        grind
    · go_wp2
      go_ret
      obtain ⟨hd, ht, hv⟩ := HH.out
      obtain rfl : m = 0 := by omega
      exact ⟨_, rfl, l, HO, hb, ⟨hd, ht rfl⟩, by simpa using hv, hl⟩

/-! ### a product -/
/-- What the row holds when i digits, and k of the next one's, are through. -/
structure TR (xs ys out : List Int) (N i k : Nat) : Prop where
  len : out.length = N
  bnd : ∀ x ∈ out, 0 ≤ x ∧ x ≤ ((i * ys.length + k : Nat) : Int) * 200000
  val : valB 10000 out = valB 10000 (xs.take i) * valB 10000 ys + xs[i]?.getD 0 * 10000 ^ i * valB 10000 (ys.take k)
theorem TR.start (xs ys : List Int) (N : Nat) : TR xs ys (List.replicate N 0) N 0 0 :=
  ⟨by simp, fun x hx => by rw [List.eq_of_mem_replicate hx]; omega, by rw [valB_rep]; simp [valB]⟩
theorem TR.next {xs ys out : List Int} {N i : Nat} (h : TR xs ys out N i ys.length) (hi : i < xs.length) : TR xs ys out N (i + 1) 0 := by
  refine ⟨h.len, fun x hx => ?_, ?_⟩
  · have := h.bnd x hx; rw [Nat.add_mul, Nat.one_mul]; exact this
  · rw [h.val, valB_take _ _ i hi, List.take_length, List.getElem?_eq_getElem hi]
    simp [valB]
    grind
theorem TR.bd {xs ys out : List Int} {N i k : Nat} (h : TR xs ys out N i k) (hi : i < xs.length) (hk : k < ys.length) (hxl : xs.length ≤ 60) (hyl : ys.length ≤ 60) : ∀ x ∈ out, 0 ≤ x ∧ x ≤ 720000000 := fun x hx => by
  have h1 := h.bnd x hx
  have h2 : i * ys.length + k ≤ 59 * 60 + 60 := Nat.add_le_add (Nat.mul_le_mul (by omega) hyl) (by omega)
  generalize i * ys.length + k = q at *
  omega
theorem dig_mul {xs ys : List Int} (hx : DigB 10000 xs) (hy : DigB 10000 ys) {i k : Nat} (hi : i < xs.length) (hk : k < ys.length) : 0 ≤ xs[i] * ys[k] ∧ xs[i] * ys[k] ≤ 99980001 := by
  have h1 := hx.at i hi
  have h2 := hy.at k hk
  have h3 : xs[i] * ys[k] ≤ 9999 * 9999 := Int.mul_le_mul (by omega) (by omega) h2.1 (by omega)
  exact ⟨Int.mul_nonneg h1.1 h2.1, h3⟩
theorem TR.step {xs ys out : List Int} {N i k : Nat} (h : TR xs ys out N i k) (hi : i < xs.length) (hk : k < ys.length) (hxl : xs.length ≤ 60) (hyl : ys.length ≤ 60) (hx : DigB 10000 xs) (hy : DigB 10000 ys)
    (q1 : i + k < out.length) (q2 : i + k + 1 < out.length) (a b : Int) (ha : a = out[i + k] + xs[i] * ys[k]) (hb : b = out[i + k + 1] + a / 10000) :
    TR xs ys (((out.set (i + k) a).set (i + k + 1) b).set (i + k) (a % 10000)) N i (k + 1) ∧ 0 ≤ a ∧ a ≤ 900000000 ∧ 0 ≤ b ∧ b ≤ 900000000 := by
  have hm := dig_mul hx hy hi hk
  have h0 := h.bd hi hk hxl hyl
  have h1 := h0 _ (List.getElem_mem q1)
  have h2 := h0 _ (List.getElem_mem q2)
  have g1 := h.bnd _ (List.getElem_mem q1)
  have g2 := h.bnd _ (List.getElem_mem q2)
  have hv := h.val
  have e0 : ((out.set (i + k) a).set (i + k + 1) b).set (i + k) (a % 10000) = (out.set (i + k + 1) b).set (i + k) (a % 10000) := by
    rw [List.set_comm a b (by omega), List.set_set]
  obtain ⟨p, hp⟩ : ∃ p, xs[i] * ys[k] = p := ⟨_, rfl⟩
  rw [hp] at ha hm
  refine ⟨⟨by simp [h.len], fun x hx' => ?_, ?_⟩, by omega, by omega, by omega, by omega⟩
  · have hq : ((i * ys.length + (k + 1) : Nat) : Int) = ((i * ys.length + k : Nat) : Int) + 1 := by push_cast; omega
    rw [hq]
    have hb3 := h.bnd
    generalize ((i * ys.length + k : Nat) : Int) = Q at *
    rw [e0] at hx'
    rcases List.mem_or_eq_of_mem_set hx' with hx' | rfl
    · rcases List.mem_or_eq_of_mem_set hx' with hx' | rfl
      · have := hb3 x hx'; omega
      · omega
    · omega
  · rw [e0, valB_set _ _ _ (by simpa using q1), valB_set _ _ _ q2, hv, valB_take _ _ k hk, List.getElem?_eq_getElem hi, List.getElem_set_ne (by omega)]
    simp only [Option.getD_some]
    rw [Int.pow_succ, Int.pow_add]
    have e1 := Int.mul_ediv_add_emod a 10000
    generalize a % 10000 = r at *
    generalize a / 10000 = q at *
    subst hb
    have e3 : p = 10000 * q + r - out[i + k] := by omega
    have e4 : xs[i] * 10000 ^ i * (valB 10000 (List.take k ys) + ys[k] * 10000 ^ k) = xs[i] * 10000 ^ i * valB 10000 (List.take k ys) + p * (10000 ^ i * 10000 ^ k) := by rw [← hp]; grind
    rw [e4, e3]
    grind
/-- What the row holds when the digits ahead of j are done. -/
structure CR (V : Int) (out : List Int) (N j : Nat) : Prop where
  len : out.length = N
  lo : ∀ q (h : q < out.length), q < j → 0 ≤ out[q] ∧ out[q] < 10000
  at_ : ∀ q (h : q < out.length), q = j → 0 ≤ out[q] ∧ out[q] ≤ 800000000
  hi : ∀ q (h : q < out.length), j < q → 0 ≤ out[q] ∧ out[q] ≤ 720000000
  val : valB 10000 out = V
theorem TR.done {xs ys out : List Int} {N : Nat} (h : TR xs ys out N xs.length 0) (hxl : xs.length ≤ 60) (hyl : ys.length ≤ 60) : CR (valB 10000 xs * valB 10000 ys) out N 0 := by
  have hb : ∀ q (h : q < out.length), 0 ≤ out[q] ∧ out[q] ≤ 720000000 := fun q hq => by
    have h1 := h.bnd _ (List.getElem_mem hq)
    have h2 : xs.length * ys.length + 0 ≤ 60 * 60 := Nat.mul_le_mul hxl hyl
    generalize xs.length * ys.length + 0 = Q at *
    omega
  refine ⟨h.len, fun q _ h => by omega, fun q hq _ => by have := hb q hq; omega, fun q hq _ => hb q hq, ?_⟩
  rw [h.val, List.take_length]
  simp [valB]
theorem CR.step {V : Int} {out : List Int} {N j : Nat} (h : CR V out N j) (q1 : j < out.length) (q2 : j + 1 < out.length) : CR V ((out.set (j + 1) (out[j + 1] + out[j] / 10000)).set j (out[j] % 10000)) N (j + 1) := by
  have h1 := h.at_ j q1 rfl
  have h2 := h.hi (j + 1) q2 (by omega)
  refine ⟨by simp [h.len], fun q hq hj => ?_, fun q hq hj => ?_, fun q hq hj => ?_, ?_⟩
  · simp only [List.length_set] at hq
    rw [List.getElem_set]
    split
    · omega
    · rw [List.getElem_set_ne (by omega)]; exact h.lo q hq (by omega)
  · subst hj
    rw [List.getElem_set_ne (by omega), List.getElem_set_self]; omega
  · simp only [List.length_set] at hq
    rw [List.getElem_set_ne (by omega), List.getElem_set_ne (by omega)]; exact h.hi q hq (by omega)
  · rw [valB_set _ _ _ (by simpa using q1), valB_set _ _ _ q2, h.val, List.getElem_set_ne (by omega), Int.pow_succ]
    have e1 := Int.mul_ediv_add_emod out[j] 10000
    generalize out[j] % 10000 = r at *
    generalize out[j] / 10000 = q at *
    rw [← e1]
    grind
theorem CR.done {xs ys out : List Int} {N j : Nat} (h : CR (valB 10000 xs * valB 10000 ys) out N j) (hj : j + 1 = N) (hN : N = xs.length + ys.length + 1) (hx : DigB 10000 xs) (hy : DigB 10000 ys) : DigB 10000 out := by
  have hlen := h.len
  have e1 : out = out.take j ++ [out[j]] := by rw [← List.take_succ_eq_append_getElem (by omega), List.take_of_length_le (by omega)]
  have hd : DigB 10000 (out.take j) := fun x hx => by
    obtain ⟨q, hq, rfl⟩ := List.getElem_of_mem hx
    simp only [List.length_take] at hq
    rw [List.getElem_take]
    exact h.lo q (by omega) (by omega)
  have hl := h.at_ j (by omega) rfl
  have h1 := valB_lt (by omega) hx
  have h2 := valB_lt (by omega) hy
  have h3 : valB 10000 xs * valB 10000 ys < 10000 ^ xs.length * 10000 ^ ys.length := Int.mul_lt_mul' (Int.le_of_lt h1) h2 (valB_nonneg (by omega) fun x h => (hy x h).1) (Int.pow_pos (by omega))
  have h4 := h.val
  rw [e1, valB_append, List.length_take, Nat.min_eq_left (by omega)] at h4
  have h5 := valB_nonneg (B := 10000) (by omega) fun x h => (hd x h).1
  have h6 : out[j] = 0 := by
    rcases Int.lt_or_le 0 out[j] with h0 | h0
    · exfalso
      rw [← Int.pow_add, show xs.length + ys.length = j by omega] at h3
      have h7 : (10000 : Int) ^ j * 1 ≤ 10000 ^ j * out[j] := Int.mul_le_mul_of_nonneg_left (by omega) (Int.le_of_lt (Int.pow_pos (by omega)))
      simp only [valB, Int.mul_zero, Int.add_zero] at h4
      omega
    · omega
  rw [e1, h6]
  intro x hx
  rcases List.mem_append.1 hx with hx | hx
  · exact hd x hx
  · obtain rfl := List.mem_singleton.1 hx; omega
theorem SlA.cut {α : Type} {E : Enc α} {w : World} {A : Option Addr} {xs : List α} (h : SlA E w A xs) (k : Nat) : SlA E w A (xs.take k) := fun j x hx => by
  rw [List.getElem?_take] at hx
  split at hx
  · exact h j x hx
  · cases hx
theorem val_cut {B : Int} {l : List Int} {n : Nat} (hn : n + 1 = l.length) (h : l[n] = 0) : valB B (l.take n) = valB B l := by
  have h1 := valB_take B l n (by omega)
  rw [h, List.take_of_length_le (by omega)] at h1
  simp at h1; exact h1.symm
theorem top_of {l : List Int} {n : Nat} (hn : n + 1 = l.length) (h : l[n] ≠ 0) : TopB l := fun hne => by
  rw [List.getLast_eq_getElem]
  have : l.length - 1 = n := by omega
  simpa [this] using h
set_option maxHeartbeats 2000000 in
set_option maxRecDepth 100000 in
theorem times_c (A B : Option Addr) (c d : Nat) (xs ys : List Int) (w : World) (hs : SlA eI w A xs) (ht : SlA eI w B ys) (hx : Norm xs) (hy : Norm ys) (hxl : xs.length ≤ 60) (hyl : ys.length ≤ 60) :
    Calls Tryd.prog 146 #[.slice A xs.length c, .slice B ys.length d] w fun e w' => ∃ C k l, e = .returned (.slice C l.length k) ∧ SlA eI w' C l ∧ Below w.heap.size w w' ∧ Norm l ∧ valB 10000 l = valB 10000 xs * valB 10000 ys := by
  obtain ⟨i0, hi, hz0, hz1, hz2⟩ := info_parts info_int
  have HX := Lib.hid hx; have HY := Lib.hid hy
  clear hx hy
  go_enter Tryd.func146, Tryd.ntmps146
  go_wp2_with (at_make; go_loud (refine wpList_make_full _ rfl _ _ 191 rfl w.heap.size 3 i0 (.int .i64 0) 1 Tryd.underlying191 hi hz0 hz1 .i64 .i64 _ _ (xs.length + ys.length + 1) rfl rfl (by push_cast; rfl) (by push_cast; rfl) (by rw [hz2]; omega) (by simp only [maxLen]; omega) (Nat.le_refl _) ?_; intro w1 HO1 hg1))
  obtain ⟨N, hN⟩ : ∃ N : Nat, N = xs.length + ys.length + 1 := ⟨_, rfl⟩
  rw [← hN] at HO1 ⊢
  have hN1 : xs.length + ys.length < N := by omega
  have hN2 : N < 200 := by omega
  have HN := Lib.hid hN
  clear hN
  have hb1 : Below w.heap.size w w1 := Bgr (Below.refl _ _) hg1 (by simp)
  have hO : Own eI w.heap.size 3 w1 (.slice (some ⟨w.heap.size, 0, none⟩) N N) (List.replicate N 0) := by
    unfold Own
    rw [List.length_replicate, flat_one (f := Value.int .i64) (fun _ => rfl), List.map_replicate, ← toList_madeCells_one]
    rw [Nat.mul_one] at HO1
    exact HO1
  clear HO1 hg1
  go_loopw [18] (fun s wr => ∃ (i : Nat) (out : List Int), i ≤ xs.length ∧ s = .int .i64 i ∧ Hid (TR xs ys out N i 0) ∧ Hid (Own eI w.heap.size 3 wr (.slice (some ⟨w.heap.size, 0, none⟩) N N) out) ∧ Below w.heap.size w wr) (fun s _ => xs.length - (intOf s).toNat)
  case atStart => exact ⟨0, _, by omega, rfl, TR.start xs ys N, hO, hb1⟩
  case round =>
    obtain ⟨i, out, hi, rfl, HT, HO, hb⟩ := hrel
    by_cases hlt : i < xs.length
    · go_wp2
      go_loopw [23] (fun s wr => ∃ (k : Nat) (out : List Int), k ≤ ys.length ∧ s = .int .i64 k ∧ Hid (TR xs ys out N i k) ∧ Hid (Own eI w.heap.size 3 wr (.slice (some ⟨w.heap.size, 0, none⟩) N N) out) ∧ Below w.heap.size w wr) (fun s _ => ys.length - (intOf s).toNat)
      case atStart => exact ⟨0, out, by omega, rfl, HT, HO, hb⟩
      case round =>
        obtain ⟨k, out, hk, rfl, HT, HO, hb⟩ := hrel
        by_cases hkt : k < ys.length
        · have q1 : i + k < out.length := by rw [HT.out.len]; omega
          have q2 : i + k + 1 < out.length := by rw [HT.out.len]; omega
          obtain ⟨hst, a0, a1, b0, b1⟩ := HT.out.step hlt hkt hxl hyl HX.out.dig HY.out.dig q1 q2 _ _ rfl rfl
          have hm := dig_mul HX.out.dig HY.out.dig hlt hkt
          have hoc := HT.out.bd hlt hkt hxl hyl _ (List.getElem_mem q1)
          obtain ⟨hgs, p1, f1⟩ := HO.out.cell1 (fun _ => rfl) (i + k) q1
          obtain ⟨bA, oA, rfl, cA⟩ := hs.at1 (fun _ => rfl) hb i hlt
          obtain ⟨bB, oB, rfl, cB⟩ := ht.at1 (fun _ => rfl) hb k hkt
          have w1e : IntKind.i64.wrap (xs[i] * ys[k]) = xs[i] * ys[k] := IntWalk.i64_in _ (by omega)
          have w2e : IntKind.i64.wrap (out[i + k] + xs[i] * ys[k]) = out[i + k] + xs[i] * ys[k] := IntWalk.i64_in _ (by omega)
          have w3e : IntKind.i64.wrap ((i : Int) + k) = (i : Int) + k := IntWalk.i64_in _ (by omega)
          have i1 : (0 : Int) ≤ (i : Int) + k := by omega
          have i2 : (i : Int) + k < N := by omega
          have i3 : ((i : Int) + k).toNat = i + k := by omega
          go_wp2_with fail
          refine region_qtail 17 (by kernel_rfl) (by kernel_rfl) (fun W => ∃ n, W = World.drewN _ n) ⟨1, rfl⟩ ?_
          simp only [List.take_succ_cons, List.take_zero, List.drop_succ_cons, List.drop_zero]
          repeat (quiet_step (fail))
          refine wpQuiet_nil ?_
          intro _ hw'
          obtain ⟨nq, rfl⟩ := hw'
          go_wp2_with fail
          obtain ⟨hO2, hge⟩ := (HO.out.below (w' := wr.drewN nq) Bel).put1 (f := Value.int .i64) (fun _ => rfl) HT.out.len (i + k) (out[i + k] + xs[i] * ys[k])
          have hb2 : Below w.heap.size w ((wr.drewN nq).setCell ⟨w.heap.size, i + k, none⟩ (.int .i64 (out[i + k] + xs[i] * ys[k]))) := Bsc (Bdn hb nq) hge _
          generalize (wr.drewN nq).setCell ⟨w.heap.size, i + k, none⟩ (.int .i64 (out[i + k] + xs[i] * ys[k])) = w2 at *
          clear p1 f1 hgs cA cB
          obtain ⟨hgs, p1, f1⟩ := hO2.cell1 (fun _ => rfl) (i + k) (by simpa using q1)
          obtain ⟨_, p2, f2⟩ := hO2.cell1 (fun _ => rfl) (i + k + 1) (by simpa using q2)
          rw [List.getElem_set_self] at p1
          rw [List.getElem_set_ne (by omega)] at p2
          have hO2' := Lib.hid hO2
          clear hO2
          have hq2 := Lib.hid q2
          generalize hal : out[i + k] + xs[i] * ys[k] = a at *
          have hal := Lib.hid hal
          generalize hcl : out[i + k + 1] = o1 at *
          have hcl := Lib.hid hcl
          have w4e : IntKind.i64.wrap (a.tdiv 10000) = a / 10000 := by rw [tdiv_pos a a0]; exact IntWalk.i64_in _ (by omega)
          have w5e : IntKind.i64.wrap (o1 + a / 10000) = o1 + a / 10000 := IntWalk.i64_in _ (by omega)
          have w6e : IntKind.i64.wrap ((i : Int) + k + 1) = (i : Int) + k + 1 := IntWalk.i64_in _ (by omega)
          have i4 : (0 : Int) ≤ (i : Int) + k + 1 := by omega
          have i5 : (i : Int) + k + 1 < N := by omega
          have i6 : ((i : Int) + k + 1).toNat = i + k + 1 := by omega
          refine region_qtail 16 (by kernel_rfl) (by kernel_rfl) (fun W => ∃ n, W = World.drewN _ n) ⟨1, rfl⟩ ?_
          simp only [List.take_succ_cons, List.take_zero, List.drop_succ_cons, List.drop_zero]
          repeat (quiet_step (fail))
          refine wpQuiet_nil ?_
          intro _ hw'
          obtain ⟨nq2, rfl⟩ := hw'
          go_wp2_with fail
          obtain ⟨hO3, _⟩ := (hO2'.out.below (w' := w2.drewN nq2) Bel).put1 (f := Value.int .i64) (fun _ => rfl) (by simpa using HT.out.len) (i + k + 1) (o1 + a / 10000)
          obtain ⟨hO4, _⟩ := hO3.put1 (f := Value.int .i64) (fun _ => rfl) (by simpa using HT.out.len) (i + k) (a % 10000)
          refine ⟨⟨k + 1, _, by omega, by go_num, ?_, hO4, Bsc (Bsc (Bdn hb2 nq2) hge _) hge _⟩, by simp [intOf]; omega⟩
          exact hst
        · obtain rfl : k = ys.length := by omega
          go_wp2
          exact ⟨⟨i + 1, out, by omega, by go_num, HT.out.next hlt, HO, hb⟩, by simp [intOf]; omega⟩
    · obtain rfl : i = xs.length := by omega
      have hC := HT.out.done hxl hyl
      go_wp2
      clear HT
      have HC := Lib.hid hC
      clear hC
      go_loopw [8] (fun s wr => ∃ (j : Nat) (out : List Int), j + 1 ≤ N ∧ s = .int .i64 j ∧ Hid (CR (valB 10000 xs * valB 10000 ys) out N j) ∧ Hid (Own eI w.heap.size 3 wr (.slice (some ⟨w.heap.size, 0, none⟩) N N) out) ∧ Below w.heap.size w wr) (fun s _ => N - (intOf s).toNat)
      case atStart => exact ⟨0, out, by omega, rfl, HC, HO, hb⟩
      case round =>
        clear HO HC hb
        obtain ⟨j, out, hj, rfl, HC, HO, hb⟩ := hrel
        by_cases hjt : j + 1 < N
        · have q1 : j < out.length := by rw [HC.out.len]; omega
          have q2 : j + 1 < out.length := by rw [HC.out.len]; omega
          have hst := Lib.hid (HC.out.step q1 q2)
          have a0 := HC.out.at_ j q1 rfl
          have a1 := HC.out.hi (j + 1) q2 (by omega)
          obtain ⟨hgs, p1, f1⟩ := HO.out.cell1 (fun _ => rfl) j q1
          obtain ⟨_, p2, f2⟩ := HO.out.cell1 (fun _ => rfl) (j + 1) q2
          have hq1 := Lib.hid q1; have hq2 := Lib.hid q2
          generalize hal : out[j] = a at *
          have hal := Lib.hid hal
          generalize hcl : out[j + 1] = o1 at *
          have hcl := Lib.hid hcl
          have w4e : IntKind.i64.wrap (a.tdiv 10000) = a / 10000 := by rw [tdiv_pos a a0.1]; exact IntWalk.i64_in _ (by omega)
          have w5e : IntKind.i64.wrap (o1 + a / 10000) = o1 + a / 10000 := IntWalk.i64_in _ (by omega)
          have w6e : IntKind.i64.wrap ((j : Int) + 1) = (j : Int) + 1 := IntWalk.i64_in _ (by omega)
          have w7e : a.tmod 10000 = a % 10000 := tmod_pos a a0.1
          have i4 : (0 : Int) ≤ (j : Int) + 1 := by omega
          have i5 : (j : Int) + 1 < N := by omega
          have i6 : ((j : Int) + 1).toNat = j + 1 := by omega
          have i7 : (j : Int) < N := by omega
          go_wp2_with fail
          refine region_qtail 12 (by kernel_rfl) (by kernel_rfl) (fun W => ∃ n, W = World.drewN _ n) ⟨1, rfl⟩ ?_
          simp only [List.take_succ_cons, List.take_zero, List.drop_succ_cons, List.drop_zero]
          repeat (quiet_step (fail))
          refine wpQuiet_nil ?_
          intro _ hw'
          obtain ⟨nq2, rfl⟩ := hw'
          go_wp2_with fail
          obtain ⟨hO3, hge⟩ := (HO.out.below (w' := wr.drewN nq2) Bel).put1 (f := Value.int .i64) (fun _ => rfl) HC.out.len (j + 1) (o1 + a / 10000)
          obtain ⟨hO4, _⟩ := hO3.put1 (f := Value.int .i64) (fun _ => rfl) (by simpa using HC.out.len) j (a % 10000)
          refine ⟨⟨j + 1, _, by omega, by go_num, ?_, hO4, Bsc (Bsc (Bdn hb nq2) hge _) hge _⟩, by simp [intOf]; omega⟩
          exact hst
        · have hdg := HC.out.done (by omega) HN.out HX.out.dig HY.out.dig
          have hsl : SlA eI wr (some ⟨w.heap.size, 0, none⟩) out := by
            obtain ⟨A', c', h1, _, _, h4⟩ := HO.out.slv
            injection h1 with h1 _ _
            rw [h1]; exact h4
          have HD := Lib.hid hdg
          have HV := Lib.hid HC.out.val
          have hln := HC.out.len
          clear HC hdg
          go_wp2
          go_loopw [5] (fun s wr => ∃ (n : Nat) (l : List Int), s = .slice (some ⟨w.heap.size, 0, none⟩) n N ∧ Hid (l.length = n) ∧ n ≤ N ∧ SlA eI wr (some ⟨w.heap.size, 0, none⟩) l ∧ Hid (DigB 10000 l ∧ valB 10000 l = valB 10000 xs * valB 10000 ys) ∧ Below w.heap.size w wr) (fun s _ => match s with | .slice _ n _ => n | _ => 0)
          case atStart => exact ⟨N, out, rfl, hln, by omega, hsl, ⟨HD.out, HV.out⟩, hb⟩
          case round =>
            clear hsl HO hb HD HV hln
            obtain ⟨n, l, rfl, hl, hn, hsl, HD, hb⟩ := hrel
            cases n with
            | zero =>
              have hl0 := hl.out
              obtain rfl : l = [] := List.eq_nil_of_length_eq_zero hl0
              go_wp2
              go_ret
              exact ⟨_, _, [], rfl, hsl, hb, ⟨HD.out.1, fun h => absurd rfl h⟩, HD.out.2⟩
            | succ n =>
              have hl0 := Lib.hid hl.out
              obtain ⟨b, o, hA, c1⟩ := hsl.at1 (f1 := Value.int .i64) (fun _ => rfl) (Below.refl _ _) n (by rw [hl.out]; omega)
              injection hA with hA
              injection hA with hA1 hA2 _
              subst hA1 hA2
              rw [Nat.zero_add] at c1
              generalize hx : l[n]'(by rw [hl.out]; omega) = x at *
              have hx := Lib.hid hx
              by_cases h0 : x = 0
              · subst h0
                go_wp2
                exact ⟨⟨n, l.take n, rfl, show (l.take n).length = n by rw [List.length_take, hl.out]; omega, by omega, SlA.cut hsl n, ⟨fun x hx => HD.out.1 x (List.mem_of_mem_take hx), by rw [val_cut (by rw [hl.out]) hx.out]; exact HD.out.2⟩, hb⟩, by simp⟩
              · have h00 : (x == 0) = false := by simpa using h0
                go_wp2
                go_ret
                exact ⟨_, _, l, by rw [hl.out]; rfl, hsl, hb, ⟨HD.out.1, top_of (by rw [hl.out]) (by rw [hx.out]; exact h0)⟩, HD.out.2⟩
end Go.Proofs.YtpccanadijefnaaDoor
