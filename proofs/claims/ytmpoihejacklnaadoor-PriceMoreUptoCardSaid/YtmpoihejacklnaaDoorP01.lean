/- Parts of these proofs, one behind the other: CpR, Alg, Prc, Tk1, Prl, Prz, Pgr. No condition. -/
import Derived.Test.YtmpoihejacklnaaDoorK810
import Derived.Test.YtmpoihejacklnaaDoorK812
import Derived.Test.YtmpoihejacklnaaDoorK811
import Derived.Test.YtmpoihejacklnaaDoorK814
import Derived.Test.YtmpoihejacklnaaDoorK816
/- runes.Compare. No condition. -/
namespace Go.Proofs.YtmpoihejacklnaaDoor
open Go Go.RowKit
set_option maxHeartbeats 400000 in
theorem cmp32_c (x y : Int) (w : World) : Calls Tryd.prog 104 #[.int .i32 x, .int .i32 y] w fun e w' => e = .returned (.int .i64 (cmpI x y)) ∧ w' = w := by
  by_cases h1 : x < y
  · go_enter Tryd.func104, Tryd.ntmps104
    go_wp2
    go_ret
    exact ⟨ret_int (by unfold cmpI; rw [if_pos h1]), rfl⟩
  · by_cases h2 : x = y
    · subst h2
      go_enter Tryd.func104, Tryd.ntmps104
      go_wp2
      go_ret
      exact ⟨ret_int (by unfold cmpI; simp), rfl⟩
    · go_enter Tryd.func104, Tryd.ntmps104
      go_wp2
      go_ret
      exact ⟨ret_int (by unfold cmpI; rw [if_neg (by omega), if_neg h2]), rfl⟩
theorem cmpI_zero {x y : Int} : cmpI x y = 0 ↔ x = y := by
  unfold cmpI
  by_cases h1 : x < y
  · rw [if_pos h1]; omega
  · by_cases h2 : x = y
    · rw [if_neg h1, if_pos h2]; simp [h2]
    · rw [if_neg h1, if_neg h2]; omega
set_option maxRecDepth 100000 in
set_option maxHeartbeats 1000000 in
theorem cmpf_c (A B : Option Addr) (c d : Nat) (xs ys : List Int) (w : World) (hs : SlA (eInt .i32) w A xs) (ht : SlA (eInt .i32) w B ys) (hl : xs.length ≤ 4294967296) (hm : ys.length ≤ 4294967296) :
    Calls Tryd.prog 103 #[.slice A xs.length c, .slice B ys.length d, .func (.func 104) #[] #[]] w fun e w' => ∃ z : Int, e = .returned (.int .i64 z) ∧ (z = 0 ↔ xs = ys) ∧ w' = w := by
  go_enter Tryd.func103, Tryd.ntmps103
  go_wp2
  go_loopw [13] (fun s wr => ∃ i : Nat, s = .int .i64 i ∧ i ≤ xs.length ∧ i ≤ ys.length ∧ Hid (xs.take i = ys.take i) ∧ wr = w) (fun s _ => xs.length - (intOf s).toNat)
  case atStart => exact ⟨0, rfl, by omega, by omega, by show _ = _; simp, rfl⟩
  case round =>
    obtain ⟨i, rfl, hi, hj, HT, rfl⟩ := hrel
    by_cases h1 : i < xs.length
    · have h1' : (i : Int) < xs.length := by omega
      obtain ⟨b, o, rfl, x0⟩ := hs.at1 (fun _ => rfl) (Below.refl _ _) i h1
      by_cases h2 : i < ys.length
      · have h2' : ¬ (ys.length : Int) ≤ i := by omega
        have h2'' : (i : Int) < ys.length := by omega
        obtain ⟨b', o', rfl, y0⟩ := ht.at1 (fun _ => rfl) (Below.refl _ _) i h2
        obtain ⟨x, hx⟩ : ∃ x, xs[i] = x := ⟨_, rfl⟩
        obtain ⟨y, hy⟩ : ∃ y, ys[i] = y := ⟨_, rfl⟩
        rw [hx] at x0
        rw [hy] at y0
        by_cases h3 : x = y
        · have HN : Hid (xs.take (i + 1) = ys.take (i + 1)) := take_more HT.out h1 h2 (by rw [hx, hy, h3])
          have HZ := Lib.hid (cmpI_zero.2 h3)
          clear hx hy h3
          go_wp2_with (go_at_call 104; refine (cmp32_c x y _).mono ?_; rintro e w5 ⟨rfl, rfl⟩; rw [HZ.out])
          exact ⟨⟨i + 1, by go_num, by omega, by omega, HN, trivial⟩, by simp [intOf]; omega⟩
        · have HNE : Hid (xs ≠ ys) := fun e => h3 (by rw [← hx, ← hy]; simp [e])
          obtain ⟨z, hz⟩ : ∃ z, cmpI x y = z := ⟨_, rfl⟩
          have hz0 : z ≠ 0 := fun e => h3 (cmpI_zero.1 (hz.trans e))
          clear hx hy h3
          go_wp2_with (go_at_call 104; refine (cmp32_c x y _).mono ?_; rintro e w5 ⟨rfl, rfl⟩; rw [hz])
          go_ret
          exact ⟨z, rfl, ⟨fun h => absurd h hz0, fun h => absurd h HNE.out⟩, rfl⟩
      · have h2' : (ys.length : Int) ≤ i := by omega
        have HNE : Hid (xs ≠ ys) := fun e => by subst e; omega
        go_wp2
        go_ret
        exact ⟨1, rfl, ⟨fun h => absurd h (by decide), fun h => absurd h HNE.out⟩, rfl⟩
    · have h1' : ¬ (i : Int) < xs.length := by omega
      by_cases h2 : xs.length < ys.length
      · have h2' : (xs.length : Int) < ys.length := by omega
        have HNE : Hid (xs ≠ ys) := fun e => by subst e; omega
        go_wp2
        go_ret
        exact ⟨-1, rfl, ⟨fun h => absurd h (by decide), fun h => absurd h HNE.out⟩, rfl⟩
      · have h2' : ¬ (xs.length : Int) < ys.length := by omega
        have HE : Hid (xs = ys) := by
          show _ = _
          have h := HT.out
          rwa [List.take_of_length_le (by omega), List.take_of_length_le (by omega)] at h
        go_wp2
        go_ret
        exact ⟨0, rfl, ⟨fun _ => HE.out, fun _ => rfl⟩, rfl⟩
theorem rcmp_c (A B : Option Addr) (c d : Nat) (xs ys : List Int) (w : World) (hs : SlA (eInt .i32) w A xs) (ht : SlA (eInt .i32) w B ys) (hl : xs.length ≤ 4294967296) (hm : ys.length ≤ 4294967296) :
    Calls Tryd.prog 83 #[.slice A xs.length c, .slice B ys.length d] w fun e w' => ∃ z : Int, e = .returned (.int .i64 z) ∧ (z = 0 ↔ xs = ys) ∧ w' = w := by
  go_enter Tryd.func83, Tryd.ntmps83
  go_wp2_with fail
  refine (cmpf_c A B c d xs ys _ hs ht hl hm).mono ?_
  rintro e w5 ⟨z, rfl, hz, rfl⟩
  have HZ := Lib.hid hz
  clear hz
  go_wp2
  go_ret
  exact ⟨z, rfl, HZ.out, rfl⟩
end Go.Proofs.YtmpoihejacklnaaDoor
/- Alignments in plain Lean: how far two rows of runes are apart, the steps, the rows of steps that are no matches. No condition. -/
namespace Go.Proofs.YtmpoihejacklnaaDoor
open Go Go.RowKit
/-- A step. -/
structure St where
  k : Int
  a : Int
  b : Int
deriving DecidableEq
def eSt : Enc St := ⟨3, fun s => [.int .i64 s.k, .int .i32 s.a, .int .i32 s.b], fun _ => rfl, fun _ v hv => by simp at hv; rcases hv with rfl | rfl | rfl <;> rfl⟩
def nth (l : List Int) (i : Nat) : Int := l[i]?.getD 0
theorem nth_at {l : List Int} {i : Nat} (h : i < l.length) : nth l i = l[i] := by unfold nth; rw [List.getElem?_eq_getElem h]; rfl
def n01 (a b : List Int) (i j : Nat) : Nat := if nth a i = nth b j then 0 else 1
theorem n01_le (a b : List Int) (i j : Nat) : n01 a b i j ≤ 1 := by unfold n01; split <;> omega
theorem n01_eq {a b : List Int} {i j : Nat} : n01 a b i j = 0 ↔ nth a i = nth b j := by unfold n01; split <;> simp_all
theorem snoc_ind {α : Type} {p : List α → Prop} (h0 : p []) (h1 : ∀ l x, p l → p (l ++ [x])) (l : List α) : p l := by
  have h : ∀ m : List α, p m.reverse := fun m => by
    induction m with
    | nil => exact h0
    | cons x m ih => rw [List.reverse_cons]; exact h1 _ _ ih
  have := h l.reverse
  rwa [List.reverse_reverse] at this
/-- How many steps two beginnings are apart. -/
def dd (a b : List Int) : Nat → Nat → Nat
  | 0, j => j
  | i + 1, 0 => i + 1
  | i + 1, j + 1 => min (dd a b i j + n01 a b i j) (min (dd a b i (j + 1) + 1) (dd a b (i + 1) j + 1))
termination_by i j => i + j
theorem dd_zero (a b : List Int) (j : Nat) : dd a b 0 j = j := by rw [dd]
theorem dd_left (a b : List Int) (i : Nat) : dd a b i 0 = i := by cases i <;> rw [dd]
theorem dd_both (a b : List Int) (i j : Nat) : dd a b (i + 1) (j + 1) = min (dd a b i j + n01 a b i j) (min (dd a b i (j + 1) + 1) (dd a b (i + 1) j + 1)) := by rw [dd]
theorem dd_le (a b : List Int) : ∀ (n i j : Nat), i + j ≤ n → dd a b i j ≤ i + j
  | n, 0, j, _ => by rw [dd_zero]; omega
  | n, i + 1, 0, _ => by rw [dd_left]; omega
  | 0, i + 1, j + 1, h => by omega
  | n + 1, i + 1, j + 1, h => by
    rw [dd_both]
    have := dd_le a b n i (j + 1) (by omega)
    omega
/-- The last step's kind. -/
def kd (a b : List Int) (i j : Nat) : Nat :=
  if 0 < i ∧ 0 < j ∧ dd a b i j = dd a b (i - 1) (j - 1) + n01 a b (i - 1) (j - 1) then n01 a b (i - 1) (j - 1)
  else if 0 < i ∧ dd a b i j = dd a b (i - 1) j + 1 then 2 else 3
theorem kd_le (a b : List Int) (i j : Nat) : kd a b i j ≤ 3 := by
  have := n01_le a b (i - 1) (j - 1)
  unfold kd
  split
  · omega
  · split <;> omega
theorem kd_two {a b : List Int} {i j : Nat} (h : kd a b i j = 2) : 0 < i := by
  have := n01_le a b (i - 1) (j - 1)
  unfold kd at h
  split at h
  · omega
  · split at h
    · rename_i h2; exact h2.1
    · omega
theorem kd_low {a b : List Int} {i j : Nat} (h : kd a b i j < 2) : 0 < i ∧ 0 < j := by
  unfold kd at h
  split at h
  · rename_i h1; exact ⟨h1.1, h1.2.1⟩
  · split at h <;> omega
theorem kd_three {a b : List Int} {i j : Nat} (hij : 0 < i + j) (h : kd a b i j = 3) : 0 < j := by
  rcases Nat.eq_zero_or_pos j with h0 | h0
  · subst h0
    obtain ⟨i, rfl⟩ : ∃ i', i = i' + 1 := ⟨i - 1, by omega⟩
    unfold kd at h
    rw [if_neg (by omega), if_pos ⟨by omega, by rw [dd_left, dd_left]; omega⟩] at h
    omega
  · exact h0
theorem kd_eq {a b : List Int} {i j : Nat} : (kd a b i j = 0 → nth a (i - 1) = nth b (j - 1)) ∧ (kd a b i j = 1 → nth a (i - 1) ≠ nth b (j - 1)) := by
  unfold kd
  constructor
  · intro h
    split at h
    · exact n01_eq.1 h
    · split at h <;> omega
  · intro h
    split at h
    · exact fun e => by have := n01_eq.2 e; omega
    · split at h <;> omega
/-- The steps from the end on. -/
def backN (a b : List Int) : Nat → Nat → Nat → List St
  | 0, _, _ => []
  | n + 1, i, j =>
    if i + j = 0 then []
    else if kd a b i j < 2 then ⟨kd a b i j, nth a (i - 1), nth b (j - 1)⟩ :: backN a b n (i - 1) (j - 1)
    else if kd a b i j = 2 then ⟨2, nth a (i - 1), 0⟩ :: backN a b n (i - 1) j
    else ⟨3, 0, nth b (j - 1)⟩ :: backN a b n i (j - 1)
theorem backN_more (a b : List Int) : ∀ (n m i j : Nat), i + j ≤ n → i + j ≤ m → backN a b n i j = backN a b m i j
  | 0, 0, _, _, _, _ => rfl
  | 0, m + 1, i, j, h, _ => by simp [backN, show i = 0 by omega, show j = 0 by omega]
  | n + 1, 0, i, j, _, h => by simp [backN, show i = 0 by omega, show j = 0 by omega]
  | n + 1, m + 1, i, j, h1, h2 => by
    unfold backN
    split
    · rfl
    · rename_i h0
      split
      · rename_i h; have := kd_low h; rw [backN_more a b n m (i - 1) (j - 1) (by omega) (by omega)]
      · split
        · rename_i h; have := kd_two h; rw [backN_more a b n m (i - 1) j (by omega) (by omega)]
        · rename_i h3 h4
          have h5 := kd_le a b i j
          have := kd_three (a := a) (b := b) (i := i) (j := j) (by omega) (by omega)
          rw [backN_more a b n m i (j - 1) (by omega) (by omega)]
def backL (a b : List Int) (i j : Nat) : List St := backN a b (i + j) i j
theorem backL_nil (a b : List Int) : backL a b 0 0 = [] := rfl
theorem backL_low {a b : List Int} {i j : Nat} (h : kd a b i j < 2) : backL a b i j = ⟨kd a b i j, nth a (i - 1), nth b (j - 1)⟩ :: backL a b (i - 1) (j - 1) := by
  obtain ⟨h1, h2⟩ := kd_low h
  unfold backL
  obtain ⟨n, hn⟩ : ∃ n, i + j = n + 1 := ⟨i + j - 1, by omega⟩
  rw [hn]
  conv => lhs; unfold backN
  rw [if_neg (by omega), if_pos h, backN_more a b n (i - 1 + (j - 1)) _ _ (by omega) (by omega)]
theorem backL_two {a b : List Int} {i j : Nat} (h : kd a b i j = 2) : backL a b i j = ⟨2, nth a (i - 1), 0⟩ :: backL a b (i - 1) j := by
  have h1 := kd_two h
  unfold backL
  obtain ⟨n, hn⟩ : ∃ n, i + j = n + 1 := ⟨i + j - 1, by omega⟩
  rw [hn]
  conv => lhs; unfold backN
  rw [if_neg (by omega), if_neg (by omega), if_pos h, backN_more a b n (i - 1 + j) _ _ (by omega) (by omega)]
theorem backL_three {a b : List Int} {i j : Nat} (hij : 0 < i + j) (h : kd a b i j = 3) : backL a b i j = ⟨3, 0, nth b (j - 1)⟩ :: backL a b i (j - 1) := by
  have h1 := kd_three hij h
  unfold backL
  obtain ⟨n, hn⟩ : ∃ n, i + j = n + 1 := ⟨i + j - 1, by omega⟩
  rw [hn]
  conv => lhs; unfold backN
  rw [if_neg (by omega), if_neg (by omega), if_neg (by omega), backN_more a b n (i + (j - 1)) _ _ (by omega) (by omega)]
theorem backN_len (a b : List Int) : ∀ (n i j : Nat), (backN a b n i j).length ≤ n
  | 0, _, _ => by simp [backN]
  | n + 1, i, j => by
    unfold backN
    have h1 := backN_len a b n (i - 1) (j - 1)
    have h2 := backN_len a b n (i - 1) j
    have h3 := backN_len a b n i (j - 1)
    split
    · simp
    · split
      · simp only [List.length_cons]; omega
      · split <;> simp only [List.length_cons] <;> omega
theorem backL_len (a b : List Int) (i j : Nat) : (backL a b i j).length ≤ i + j := backN_len a b _ i j
/-- May a step be? -/
def MayS (s : St) : Prop := IsR s.a ∧ IsR s.b ∧ ((s.k = 0 ∧ s.a = s.b) ∨ (s.k = 1 ∧ s.a ≠ s.b) ∨ (s.k = 2 ∧ s.b = 0) ∨ (s.k = 3 ∧ s.a = 0))
theorem nth_isR {l : List Int} (h : ∀ r ∈ l, IsR r) (i : Nat) : IsR (nth l i) := by
  unfold nth
  cases hi : l[i]? with
  | none => exact by unfold IsR; decide
  | some x => exact h x (List.mem_of_getElem? hi)
theorem backN_may {a b : List Int} (ha : ∀ r ∈ a, IsR r) (hb : ∀ r ∈ b, IsR r) : ∀ (n i j : Nat), ∀ s ∈ backN a b n i j, MayS s
  | 0, _, _, s, hs => by cases hs
  | n + 1, i, j, s, hs => by
    have h0 : IsR 0 := by unfold IsR; decide
    unfold backN at hs
    split at hs
    · cases hs
    · split at hs
      · rename_i hk
        rcases List.mem_cons.1 hs with rfl | hs
        · refine ⟨nth_isR ha _, nth_isR hb _, ?_⟩
          have hq := @kd_eq a b i j
          rcases Nat.lt_or_ge (kd a b i j) 1 with h1 | h1
          · exact .inl ⟨by show ((kd a b i j : Nat) : Int) = 0; omega, hq.1 (by omega)⟩
          · exact .inr (.inl ⟨by show ((kd a b i j : Nat) : Int) = 1; omega, hq.2 (by omega)⟩)
        · exact backN_may ha hb n _ _ s hs
      · split at hs
        · rcases List.mem_cons.1 hs with rfl | hs
          · exact ⟨nth_isR ha _, h0, .inr (.inr (.inl ⟨rfl, rfl⟩))⟩
          · exact backN_may ha hb n _ _ s hs
        · rcases List.mem_cons.1 hs with rfl | hs
          · exact ⟨h0, nth_isR hb _, .inr (.inr (.inr ⟨rfl, rfl⟩))⟩
          · exact backN_may ha hb n _ _ s hs
/-- The steps. -/
def stepsL (a b : List Int) : List St := (backL a b a.length b.length).reverse
theorem stepsL_len (a b : List Int) : (stepsL a b).length ≤ a.length + b.length := by unfold stepsL; rw [List.length_reverse]; exact backL_len _ _ _ _
theorem stepsL_may {a b : List Int} (ha : ∀ r ∈ a, IsR r) (hb : ∀ r ∈ b, IsR r) : ∀ s ∈ stepsL a b, MayS s := fun s hs => by
  unfold stepsL at hs
  exact backN_may ha hb _ _ _ s (List.mem_reverse.1 hs)
/-! ### what steps are of -/
def leftR (l : List St) : List Int := (l.filter fun s => decide (s.k ≠ 3)).map (·.a)
def rightR (l : List St) : List Int := (l.filter fun s => decide (s.k ≠ 2)).map (·.b)
theorem leftR_cons (s : St) (l : List St) : leftR (s :: l) = (if s.k = 3 then [] else [s.a]) ++ leftR l := by
  unfold leftR
  by_cases h : s.k = 3 <;> simp [h]
theorem rightR_cons (s : St) (l : List St) : rightR (s :: l) = (if s.k = 2 then [] else [s.b]) ++ rightR l := by
  unfold rightR
  by_cases h : s.k = 2 <;> simp [h]
theorem leftR_snoc (s : St) (l : List St) : leftR (l ++ [s]) = leftR l ++ if s.k = 3 then [] else [s.a] := by
  unfold leftR
  rw [List.filter_append, List.map_append]
  by_cases h : s.k = 3 <;> simp [h]
theorem rightR_snoc (s : St) (l : List St) : rightR (l ++ [s]) = rightR l ++ if s.k = 2 then [] else [s.b] := by
  unfold rightR
  rw [List.filter_append, List.map_append]
  by_cases h : s.k = 2 <;> simp [h]
theorem leftR_len (l : List St) : (leftR l).length ≤ l.length := by unfold leftR; rw [List.length_map]; exact List.length_filter_le _ _
theorem rightR_len (l : List St) : (rightR l).length ≤ l.length := by unfold rightR; rw [List.length_map]; exact List.length_filter_le _ _
/-! ### the rows of steps that are no matches -/
def rowAdd (R : List (List St) × Bool) (s : St) : List (List St) × Bool :=
  if s.k = 0 then (R.1, true) else if R.2 = true then (R.1 ++ [[s]], false) else (R.1.dropLast ++ [R.1.getLast?.getD [] ++ [s]], false)
def rowsS (l : List St) : List (List St) × Bool := l.foldl rowAdd ([], true)
def rowsL (l : List St) : List (List St) := (rowsS l).1
theorem rowsS_snoc (l : List St) (s : St) : rowsS (l ++ [s]) = rowAdd (rowsS l) s := by unfold rowsS; rw [List.foldl_append]; rfl
theorem rowsS_flag (l : List St) (s : St) : (rowsS (l ++ [s])).2 = decide (s.k = 0) := by
  rw [rowsS_snoc]
  unfold rowAdd
  by_cases h : s.k = 0
  · rw [if_pos h]; simp [h]
  · rw [if_neg h]; split <;> simp [h]
theorem rowsS_run {l : List St} (h : (rowsS l).2 = true) (s : St) : ∀ m : List St, s.k ≠ 0 → (∀ x ∈ m, x.k ≠ 0) → rowsS (l ++ s :: m) = ((rowsS l).1 ++ [s :: m], false) := by
  refine snoc_ind (fun hs _ => ?_) (fun m x ih hs hm => ?_)
  · rw [rowsS_snoc]
    unfold rowAdd
    rw [if_neg hs, if_pos h]
  · have h1 := ih hs fun y hy => hm y (by simp [hy])
    have h2 : l ++ s :: (m ++ [x]) = (l ++ s :: m) ++ [x] := by simp
    rw [h2, rowsS_snoc, h1]
    unfold rowAdd
    rw [if_neg (hm x (by simp))]
    simp
theorem rowsL_ok (l : List St) : ((rowsS l).2 = false → rowsL l ≠ []) ∧ (rowsL l).length ≤ l.length ∧ ∀ r ∈ rowsL l, r ≠ [] ∧ r.length ≤ l.length ∧ ∀ s ∈ r, s ∈ l ∧ s.k ≠ 0 := by
  refine snoc_ind (p := fun l => ((rowsS l).2 = false → rowsL l ≠ []) ∧ (rowsL l).length ≤ l.length ∧ ∀ r ∈ rowsL l, r ≠ [] ∧ r.length ≤ l.length ∧ ∀ s ∈ r, s ∈ l ∧ s.k ≠ 0) ⟨by simp [rowsS], by simp [rowsL, rowsS], by simp [rowsL, rowsS]⟩ (fun l x ih => ?_) l
  · obtain ⟨ih1, ih2, ih3⟩ := ih
    unfold rowsL at *
    rw [rowsS_snoc]
    unfold rowAdd
    by_cases hx : x.k = 0
    · rw [if_pos hx]
      refine ⟨by simp, by simp; omega, fun r hr => ?_⟩
      obtain ⟨h1, h2, h3⟩ := ih3 r hr
      exact ⟨h1, by simp; omega, fun s hs => ⟨by simp [(h3 s hs).1], (h3 s hs).2⟩⟩
    · rw [if_neg hx]
      split
      · refine ⟨by simp, by simp; omega, fun r hr => ?_⟩
        rcases List.mem_append.1 hr with hr | hr
        · obtain ⟨h1, h2, h3⟩ := ih3 r hr
          exact ⟨h1, by simp; omega, fun s hs => ⟨by simp [(h3 s hs).1], (h3 s hs).2⟩⟩
        · obtain rfl : r = [x] := by simpa using hr
          exact ⟨by simp, by simp, fun s hs => by obtain rfl : s = x := (by simpa using hs); exact ⟨by simp, hx⟩⟩
      · rename_i hf
        have hne := ih1 (by simpa using hf)
        obtain ⟨q, z, hz⟩ : ∃ q z, (rowsS l).1 = q ++ [z] := ⟨_, _, (List.dropLast_concat_getLast hne).symm⟩
        rw [hz] at ih2 ih3 ⊢
        simp only [List.dropLast_concat, List.getLast?_append, List.getLast?_singleton, Option.some_or, Option.getD_some]
        refine ⟨by simp, by simp at ih2 ⊢; omega, fun r hr => ?_⟩
        rcases List.mem_append.1 hr with hr | hr
        · obtain ⟨h1, h2, h3⟩ := ih3 r (by simp [hr])
          exact ⟨h1, by simp; omega, fun s hs => ⟨by simp [(h3 s hs).1], (h3 s hs).2⟩⟩
        · obtain rfl : r = z ++ [x] := by simpa using hr
          obtain ⟨h1, h2, h3⟩ := ih3 z (by simp)
          refine ⟨by simp, by simp; omega, fun s hs => ?_⟩
          rcases List.mem_append.1 hs with hs | hs
          · exact ⟨by simp [(h3 s hs).1], (h3 s hs).2⟩
          · obtain rfl : s = x := by simpa using hs
            exact ⟨by simp, hx⟩
end Go.Proofs.YtmpoihejacklnaaDoor
/- Prices in plain Lean: what it costs to have read a token for a word, by parts; ways. No condition. -/
namespace Go.Proofs.YtmpoihejacklnaaDoor
open Go Go.RowKit
/-- A rule in plain: its sides' runes, its cost. -/
structure Ru where
  f : List Int
  t : List Int
  c : Nat
/-- A part that goes at a place. -/
structure Pt where
  f : Nat
  t : Nat
  c : Nat
  k : Int
def ruAt (R : List Ru) (k : Nat) : Ru := R[k]?.getD ⟨[], [], 0⟩
def rulesP (R : List Ru) (T W : List Int) (i j : Nat) : List Nat := (List.range R.length).filter fun k => decide (Stands (ruAt R k).f T i) && decide (Stands (ruAt R k).t W j)
def ptOf (R : List Ru) (k : Nat) : Pt := ⟨(ruAt R k).f.length, (ruAt R k).t.length, (ruAt R k).c, k⟩
def partsP (R : List Ru) (T W : List Int) (i j : Nat) : List Pt :=
  (if i < T.length ∧ j < W.length ∧ nth T i = nth W j then [⟨1, 1, 0, -1⟩] else []) ++ (rulesP R T W i j).map (ptOf R) ++
  (if i < T.length ∧ j < W.length ∧ nth T i ≠ nth W j then [⟨1, 1, 255, -1⟩] else []) ++ (if i < T.length then [⟨1, 0, 255, -1⟩] else []) ++ (if j < W.length then [⟨0, 1, 255, -1⟩] else [])
/-- Rules that may be. -/
def RuOk (R : List Ru) : Prop := ∀ r ∈ R, 1 ≤ r.f.length + r.t.length ∧ 1 ≤ r.c ∧ r.c ≤ 255
theorem ruAt_mem {R : List Ru} {k : Nat} (hk : k < R.length) : ruAt R k ∈ R := by
  unfold ruAt
  rw [List.getElem?_eq_getElem hk]
  exact List.getElem_mem hk
theorem parts_mem {R : List Ru} {T W : List Int} {i j : Nat} {p : Pt} : p ∈ partsP R T W i j ↔
    ((i < T.length ∧ j < W.length ∧ nth T i = nth W j ∧ p = ⟨1, 1, 0, -1⟩) ∨ (∃ k, k < R.length ∧ Stands (ruAt R k).f T i ∧ Stands (ruAt R k).t W j ∧ p = ptOf R k) ∨
     (i < T.length ∧ j < W.length ∧ nth T i ≠ nth W j ∧ p = ⟨1, 1, 255, -1⟩) ∨ (i < T.length ∧ p = ⟨1, 0, 255, -1⟩) ∨ (j < W.length ∧ p = ⟨0, 1, 255, -1⟩)) := by
  unfold partsP rulesP
  simp only [List.mem_append, List.mem_map, List.mem_filter, List.mem_range, Bool.and_eq_true, decide_eq_true_eq]
  constructor
  · rintro ((((h | ⟨k, ⟨h1, h2, h3⟩, h4⟩) | h) | h) | h)
    · split at h
      · rename_i hc; exact .inl ⟨hc.1, hc.2.1, hc.2.2, by simpa using h⟩
      · cases h
    · exact .inr (.inl ⟨k, h1, h2, h3, h4.symm⟩)
    · split at h
      · rename_i hc; exact .inr (.inr (.inl ⟨hc.1, hc.2.1, hc.2.2, by simpa using h⟩))
      · cases h
    · split at h
      · rename_i hc; exact .inr (.inr (.inr (.inl ⟨hc, by simpa using h⟩)))
      · cases h
    · split at h
      · rename_i hc; exact .inr (.inr (.inr (.inr ⟨hc, by simpa using h⟩)))
      · cases h
  · rintro (⟨h1, h2, h3, rfl⟩ | ⟨k, h1, h2, h3, rfl⟩ | ⟨h1, h2, h3, rfl⟩ | ⟨h1, rfl⟩ | ⟨h1, rfl⟩)
    · rw [if_pos ⟨h1, h2, h3⟩]; simp
    · exact .inl (.inl (.inl (.inr ⟨k, ⟨h1, h2, h3⟩, rfl⟩)))
    · rw [if_pos (c := i < T.length ∧ j < W.length ∧ nth T i ≠ nth W j) ⟨h1, h2, h3⟩]; simp
    · rw [if_pos (c := i < T.length) h1]; simp
    · rw [if_pos (c := j < W.length) h1]; simp
/-- A part goes on, and stays within. -/
theorem parts_ok {R : List Ru} (hR : RuOk R) {T W : List Int} {i j : Nat} (hi : i ≤ T.length) (hj : j ≤ W.length) {p : Pt} (h : p ∈ partsP R T W i j) : 1 ≤ p.f + p.t ∧ i + p.f ≤ T.length ∧ j + p.t ≤ W.length ∧ p.c ≤ 255 := by
  rcases parts_mem.1 h with ⟨h1, h2, _, rfl⟩ | ⟨k, h1, h2, h3, rfl⟩ | ⟨h1, h2, _, rfl⟩ | ⟨h1, rfl⟩ | ⟨h1, rfl⟩
  · refine ⟨?_, ?_, ?_, ?_⟩ <;> simp only <;> omega
  · obtain ⟨k1, k2, k3⟩ := hR _ (ruAt_mem h1)
    exact ⟨k1, h2.1, h3.1, k3⟩
  · refine ⟨?_, ?_, ?_, ?_⟩ <;> simp only <;> omega
  · refine ⟨?_, ?_, ?_, ?_⟩ <;> simp only <;> omega
  · refine ⟨?_, ?_, ?_, ?_⟩ <;> simp only <;> omega
/-- The least of some, from one on. -/
def leastF (f : Pt → Nat) (m : Nat) (l : List Pt) : Nat := l.foldl (fun m p => min m (f p)) m
theorem leastF_le (f : Pt → Nat) : ∀ (l : List Pt) (m : Nat), leastF f m l ≤ m ∧ ∀ p ∈ l, leastF f m l ≤ f p
  | [], m => ⟨Nat.le_refl _, fun _ h => by cases h⟩
  | q :: l, m => by
    obtain ⟨h1, h2⟩ := leastF_le f l (min m (f q))
    have e : leastF f m (q :: l) = leastF f (min m (f q)) l := rfl
    rw [e]
    refine ⟨by omega, fun p hp => ?_⟩
    rcases List.mem_cons.1 hp with rfl | hp
    · omega
    · exact h2 p hp
theorem leastF_in (f : Pt → Nat) : ∀ (l : List Pt) (m : Nat), leastF f m l = m ∨ ∃ p ∈ l, leastF f m l = f p
  | [], m => .inl rfl
  | q :: l, m => by
    have e : leastF f m (q :: l) = leastF f (min m (f q)) l := rfl
    rw [e]
    rcases leastF_in f l (min m (f q)) with h | ⟨p, hp, h⟩
    · rcases Nat.le_total m (f q) with h1 | h1
      · left; omega
      · exact .inr ⟨q, by simp, by omega⟩
    · exact .inr ⟨p, by simp [hp], h⟩
theorem leastF_congr {f g : Pt → Nat} : ∀ (l : List Pt) (m : Nat), (∀ p ∈ l, f p = g p) → leastF f m l = leastF g m l
  | [], _, _ => rfl
  | q :: l, m, h => by
    show leastF f (min m (f q)) l = leastF g (min m (g q)) l
    rw [h q (by simp)]
    exact leastF_congr l _ fun p hp => h p (by simp [hp])
/-- The price from two places on. -/
def ccN (R : List Ru) (T W : List Int) : Nat → Nat → Nat → Nat
  | 0, _, _ => 0
  | n + 1, i, j => if T.length ≤ i ∧ W.length ≤ j then 0 else leastF (fun p => p.c + ccN R T W n (i + p.f) (j + p.t)) 1073741824 (partsP R T W i j)
def cc (R : List Ru) (T W : List Int) (i j : Nat) : Nat := ccN R T W (T.length - i + (W.length - j)) i j
theorem ccN_more {R : List Ru} (hR : RuOk R) (T W : List Int) : ∀ (n m i j : Nat), i ≤ T.length → j ≤ W.length → T.length - i + (W.length - j) ≤ n → T.length - i + (W.length - j) ≤ m → ccN R T W n i j = ccN R T W m i j
  | 0, 0, _, _, _, _, _, _ => rfl
  | 0, m + 1, i, j, _, _, h, _ => by unfold ccN; rw [if_pos (by omega)]
  | n + 1, 0, i, j, _, _, _, h => by unfold ccN; rw [if_pos (by omega)]
  | n + 1, m + 1, i, j, hi, hj, h1, h2 => by
    unfold ccN
    split
    · rfl
    · refine leastF_congr _ _ fun p hp => ?_
      obtain ⟨k1, k2, k3, _⟩ := parts_ok hR hi hj hp
      rw [ccN_more hR T W n m _ _ k2 k3 (by omega) (by omega)]
theorem cc_end (R : List Ru) (T W : List Int) : cc R T W T.length W.length = 0 := by unfold cc; simp [ccN]
theorem cc_step {R : List Ru} (hR : RuOk R) {T W : List Int} {i j : Nat} (hi : i ≤ T.length) (hj : j ≤ W.length) (h : i < T.length ∨ j < W.length) : cc R T W i j = leastF (fun p => p.c + cc R T W (i + p.f) (j + p.t)) 1073741824 (partsP R T W i j) := by
  unfold cc
  obtain ⟨n, hn⟩ : ∃ n, T.length - i + (W.length - j) = n + 1 := ⟨T.length - i + (W.length - j) - 1, by omega⟩
  rw [hn]
  conv => lhs; unfold ccN
  rw [if_neg (by omega)]
  refine leastF_congr _ _ fun p hp => ?_
  obtain ⟨k1, k2, k3, _⟩ := parts_ok hR hi hj hp
  show p.c + _ = p.c + _
  rw [ccN_more hR T W n _ _ _ k2 k3 (by omega) (Nat.le_refl _)]
theorem cc_bound {R : List Ru} (hR : RuOk R) (T W : List Int) : ∀ (n i j : Nat), i ≤ T.length → j ≤ W.length → T.length - i + (W.length - j) ≤ n → cc R T W i j ≤ 255 * n
  | n, i, j, hi, hj, hn => by
    by_cases h0 : i < T.length ∨ j < W.length
    · obtain ⟨n, rfl⟩ : ∃ n', n = n' + 1 := ⟨n - 1, by omega⟩
      rw [cc_step hR hi hj h0]
      rcases h0 with h0 | h0
      · have hp : (⟨1, 0, 255, -1⟩ : Pt) ∈ partsP R T W i j := parts_mem.2 (.inr (.inr (.inr (.inl ⟨h0, rfl⟩))))
        refine Nat.le_trans ((leastF_le _ _ _).2 _ hp) ?_
        have := cc_bound hR T W n (i + 1) j (by omega) hj (by omega)
        simp only [Nat.add_zero]
        omega
      · have hp : (⟨0, 1, 255, -1⟩ : Pt) ∈ partsP R T W i j := parts_mem.2 (.inr (.inr (.inr (.inr ⟨h0, rfl⟩))))
        refine Nat.le_trans ((leastF_le _ _ _).2 _ hp) ?_
        have := cc_bound hR T W n i (j + 1) hi (by omega) (by omega)
        simp only [Nat.add_zero]
        omega
    · obtain rfl : i = T.length := by omega
      obtain rfl : j = W.length := by omega
      rw [cc_end]; omega
/-- The price is of a part, where the rows have not ended and are short. -/
theorem cc_part {R : List Ru} (hR : RuOk R) {T W : List Int} {i j : Nat} (hi : i ≤ T.length) (hj : j ≤ W.length) (h : i < T.length ∨ j < W.length) (hT : T.length ≤ 64) (hW : W.length ≤ 64) :
    ∃ p ∈ partsP R T W i j, cc R T W i j = p.c + cc R T W (i + p.f) (j + p.t) := by
  rcases leastF_in (fun p => p.c + cc R T W (i + p.f) (j + p.t)) (partsP R T W i j) 1073741824 with h1 | ⟨p, hp, h1⟩
  · have h2 := cc_bound hR T W _ i j hi hj (Nat.le_refl _)
    rw [cc_step hR hi hj h, h1] at h2
    omega
  · exact ⟨p, hp, by rw [cc_step hR hi hj h]; exact h1⟩
theorem cc_le {R : List Ru} (hR : RuOk R) {T W : List Int} {i j : Nat} (hi : i ≤ T.length) (hj : j ≤ W.length) (h : i < T.length ∨ j < W.length) {p : Pt} (hp : p ∈ partsP R T W i j) : cc R T W i j ≤ p.c + cc R T W (i + p.f) (j + p.t) := by
  rw [cc_step hR hi hj h]
  exact (leastF_le _ _ _).2 p hp
/-! ### ways -/
/-- A way to have read one row for another one, and what it costs. -/
inductive Way (R : List Ru) : List Int → List Int → Nat → Prop
  | nil : Way R [] [] 0
  | same (r : Int) {t w : List Int} {c : Nat} (h : Way R t w c) : Way R (r :: t) (r :: w) c
  | rule (x : Ru) (hx : x ∈ R) {t w : List Int} {c : Nat} (h : Way R t w c) : Way R (x.f ++ t) (x.t ++ w) (x.c + c)
  | chg (r s : Int) (hr : r ≠ s) {t w : List Int} {c : Nat} (h : Way R t w c) : Way R (r :: t) (s :: w) (255 + c)
  | del (r : Int) {t w : List Int} {c : Nat} (h : Way R t w c) : Way R (r :: t) w (255 + c)
  | ins (r : Int) {t w : List Int} {c : Nat} (h : Way R t w c) : Way R t (r :: w) (255 + c)
theorem Way.app {R : List Ru} {t w u v : List Int} {c d : Nat} (h : Way R t w c) (k : Way R u v d) : Way R (t ++ u) (w ++ v) (c + d) := by
  induction h with
  | nil => simpa using k
  | same r _ ih => exact .same r ih
  | rule x hx _ ih => rw [List.append_assoc, List.append_assoc, Nat.add_assoc]; exact .rule x hx ih
  | chg r s hr _ ih => rw [Nat.add_assoc]; exact .chg r s hr ih
  | del r _ ih => rw [Nat.add_assoc]; exact .del r ih
  | ins r _ ih => rw [Nat.add_assoc]; exact .ins r ih
theorem Way.more {R S : List Ru} (hS : ∀ x ∈ R, ∃ y ∈ S, y.f = x.f ∧ y.t = x.t ∧ y.c ≤ x.c) {t w : List Int} {c : Nat} (h : Way R t w c) : ∃ d, d ≤ c ∧ Way S t w d := by
  induction h with
  | nil => exact ⟨0, Nat.le_refl _, .nil⟩
  | same r _ ih => obtain ⟨d, h1, h2⟩ := ih; exact ⟨d, h1, .same r h2⟩
  | rule x hx _ ih =>
    obtain ⟨d, h1, h2⟩ := ih
    obtain ⟨y, hy, e1, e2, e3⟩ := hS x hx
    exact ⟨y.c + d, by omega, by rw [← e1, ← e2]; exact .rule y hy h2⟩
  | chg r s hr _ ih => obtain ⟨d, h1, h2⟩ := ih; exact ⟨255 + d, by omega, .chg r s hr h2⟩
  | del r _ ih => obtain ⟨d, h1, h2⟩ := ih; exact ⟨255 + d, by omega, .del r h2⟩
  | ins r _ ih => obtain ⟨d, h1, h2⟩ := ih; exact ⟨255 + d, by omega, .ins r h2⟩
theorem Way.refl (R : List Ru) : ∀ t, Way R t t 0
  | [] => .nil
  | r :: t => .same r (Way.refl R t)
/-- What costs nothing is the same. -/
theorem Way.zero {R : List Ru} (hR : RuOk R) {t w : List Int} {c : Nat} (h : Way R t w c) : c = 0 → t = w := by
  induction h with
  | nil => intro; rfl
  | same r _ ih => intro h; rw [ih h]
  | rule x hx _ ih => intro h; have := (hR x hx).2.1; omega
  | chg r s hr _ ih => intro h; omega
  | del r _ ih => intro h; omega
  | ins r _ ih => intro h; omega
theorem drop_nth {l : List Int} {i : Nat} (h : i < l.length) : l.drop i = nth l i :: l.drop (i + 1) := by
  rw [List.drop_eq_getElem_cons h, nth_at h]
theorem stands_drop {f l : List Int} {i : Nat} (h : Stands f l i) : l.drop i = f ++ l.drop (i + f.length) := by
  have h1 := List.take_append_drop f.length (l.drop i)
  rw [h.2, List.drop_drop] at h1
  exact h1.symm
/-- The price is a way's. -/
theorem cc_way {R : List Ru} (hR : RuOk R) {T W : List Int} (hT : T.length ≤ 64) (hW : W.length ≤ 64) : ∀ (n i j : Nat), i ≤ T.length → j ≤ W.length → T.length - i + (W.length - j) ≤ n → Way R (T.drop i) (W.drop j) (cc R T W i j)
  | n, i, j, hi, hj, hn => by
    by_cases h0 : i < T.length ∨ j < W.length
    · obtain ⟨n, rfl⟩ : ∃ n', n = n' + 1 := ⟨n - 1, by omega⟩
      obtain ⟨p, hp, he⟩ := cc_part hR hi hj h0 hT hW
      obtain ⟨k1, k2, k3, _⟩ := parts_ok hR hi hj hp
      have ih := cc_way hR hT hW n (i + p.f) (j + p.t) k2 k3 (by omega)
      rw [he]
      rcases parts_mem.1 hp with ⟨h1, h2, h3, rfl⟩ | ⟨k, h1, h2, h3, rfl⟩ | ⟨h1, h2, h3, rfl⟩ | ⟨h1, rfl⟩ | ⟨h1, rfl⟩
      · rw [drop_nth h1, drop_nth h2, h3, Nat.zero_add]; exact .same _ ih
      · rw [stands_drop h2, stands_drop h3]; exact .rule _ (ruAt_mem h1) ih
      · rw [drop_nth h1, drop_nth h2]; exact .chg _ _ h3 ih
      · rw [drop_nth h1]; exact .del _ ih
      · rw [drop_nth h1]; exact .ins _ ih
    · obtain rfl : i = T.length := by omega
      obtain rfl : j = W.length := by omega
      rw [cc_end, List.drop_length, List.drop_length]; exact .nil
/-- No way costs less. -/
theorem way_cc {R : List Ru} (hR : RuOk R) {T W : List Int} {t w : List Int} {c : Nat} (h : Way R t w c) : ∀ i j, i ≤ T.length → j ≤ W.length → T.drop i = t → W.drop j = w → cc R T W i j ≤ c := by
  have len : ∀ (l : List Int) (i : Nat) (x : Int) (y : List Int), l.drop i = x :: y → i < l.length ∧ nth l i = x ∧ l.drop (i + 1) = y := fun l i x y h => by
    have h1 : i < l.length := by
      rcases Nat.lt_or_ge i l.length with h1 | h1
      · exact h1
      · rw [List.drop_eq_nil_of_le h1] at h; cases h
    rw [drop_nth h1] at h
    injection h with h2 h3
    exact ⟨h1, h2, h3⟩
  have pre : ∀ (l : List Int) (i : Nat) (x y : List Int), i ≤ l.length → l.drop i = x ++ y → Stands x l i ∧ l.drop (i + x.length) = y := fun l i x y hi h => by
    have h1 : (l.drop i).length = x.length + y.length := by rw [h, List.length_append]
    rw [List.length_drop] at h1
    refine ⟨⟨by omega, by rw [h, List.take_left']; rfl⟩, ?_⟩
    rw [← List.drop_drop, h, List.drop_left']; rfl
  induction h with
  | nil =>
    intro i j hi hj h1 h2
    have e1 : i = T.length := by have := congrArg List.length h1; rw [List.length_drop] at this; simp at this; omega
    have e2 : j = W.length := by have := congrArg List.length h2; rw [List.length_drop] at this; simp at this; omega
    rw [e1, e2, cc_end]
    exact Nat.le_refl _
  | same r _ ih =>
    intro i j hi hj h1 h2
    obtain ⟨a1, a2, a3⟩ := len _ _ _ _ h1
    obtain ⟨b1, b2, b3⟩ := len _ _ _ _ h2
    have h3 := cc_le hR hi hj (.inl a1) (parts_mem.2 (.inl ⟨a1, b1, a2.trans b2.symm, rfl⟩))
    have h4 := ih (i + 1) (j + 1) a1 b1 a3 b3
    simp only at h3
    omega
  | rule x hx _ ih =>
    intro i j hi hj h1 h2
    obtain ⟨a1, a2⟩ := pre _ _ _ _ hi h1
    obtain ⟨b1, b2⟩ := pre _ _ _ _ hj h2
    obtain ⟨k, hk, rfl⟩ := List.mem_iff_getElem.1 hx
    have e : ruAt R k = R[k] := by unfold ruAt; rw [List.getElem?_eq_getElem hk]; rfl
    have hl := (hR _ hx).1
    have ha := a1.1
    have hb := b1.1
    have h3 := cc_le hR hi hj (by omega) (parts_mem.2 (.inr (.inl ⟨k, hk, by rw [e]; exact a1, by rw [e]; exact b1, rfl⟩)))
    have h4 := ih (i + R[k].f.length) (j + R[k].t.length) ha hb a2 b2
    simp only [ptOf, e] at h3
    omega
  | chg r s hr _ ih =>
    intro i j hi hj h1 h2
    obtain ⟨a1, a2, a3⟩ := len _ _ _ _ h1
    obtain ⟨b1, b2, b3⟩ := len _ _ _ _ h2
    have h3 := cc_le hR hi hj (.inl a1) (parts_mem.2 (.inr (.inr (.inl ⟨a1, b1, by rw [a2, b2]; exact hr, rfl⟩))))
    have h4 := ih (i + 1) (j + 1) a1 b1 a3 b3
    simp only at h3
    omega
  | del r _ ih =>
    intro i j hi hj h1 h2
    obtain ⟨a1, a2, a3⟩ := len _ _ _ _ h1
    have h3 := cc_le hR hi hj (.inl a1) (parts_mem.2 (.inr (.inr (.inr (.inl ⟨a1, rfl⟩)))))
    have h4 := ih (i + 1) j a1 hj a3 h2
    simp only [Nat.add_zero] at h3
    omega
  | ins r _ ih =>
    intro i j hi hj h1 h2
    obtain ⟨b1, b2, b3⟩ := len _ _ _ _ h2
    have h3 := cc_le hR hi hj (.inr b1) (parts_mem.2 (.inr (.inr (.inr (.inr ⟨b1, rfl⟩)))))
    have h4 := ih i (j + 1) hi b1 h1 b3
    simp only [Nat.add_zero] at h3
    omega
/-- The price of a token and a word. -/
def price (R : List Ru) (T W : List Int) : Nat := cc R T W 0 0
theorem price_way {R : List Ru} (hR : RuOk R) {T W : List Int} (hT : T.length ≤ 64) (hW : W.length ≤ 64) : Way R T W (price R T W) := cc_way hR hT hW _ 0 0 (by omega) (by omega) (Nat.le_refl _)
theorem way_price {R : List Ru} (hR : RuOk R) {T W : List Int} {c : Nat} (h : Way R T W c) : price R T W ≤ c := way_cc hR h 0 0 (by omega) (by omega) rfl rfl
/-- Two one behind the other cost no more than both. -/
theorem price_both {R : List Ru} (hR : RuOk R) {T W U V : List Int} (h1 : T.length ≤ 64) (h2 : W.length ≤ 64) (h3 : U.length ≤ 64) (h4 : V.length ≤ 64) : price R (T ++ U) (W ++ V) ≤ price R T W + price R U V :=
  way_price hR ((price_way hR h1 h2).app (price_way hR h3 h4))
theorem price_ahead {R : List Ru} (hR : RuOk R) {T W : List Int} (U : List Int) (h1 : T.length ≤ 64) (h2 : W.length ≤ 64) : price R (U ++ T) (U ++ W) ≤ price R T W := by
  have := way_price hR ((Way.refl R U).app (price_way hR h1 h2))
  omega
theorem price_same {R : List Ru} (hR : RuOk R) (T : List Int) : price R T T = 0 := by have := way_price hR (Way.refl R T); omega
theorem price_zero {R : List Ru} (hR : RuOk R) {T W : List Int} (hT : T.length ≤ 64) (hW : W.length ≤ 64) : price R T W = 0 ↔ T = W := by
  constructor
  · intro h; exact (price_way hR hT hW).zero hR h
  · rintro rfl; exact price_same hR T
theorem price_more {R S : List Ru} (hR : RuOk R) (hS : RuOk S) (h : ∀ x ∈ R, ∃ y ∈ S, y.f = x.f ∧ y.t = x.t ∧ y.c ≤ x.c) {T W : List Int} (hT : T.length ≤ 64) (hW : W.length ≤ 64) : price S T W ≤ price R T W := by
  obtain ⟨d, h1, h2⟩ := (price_way hR hT hW).more h
  exact Nat.le_trans (way_price hS h2) h1
theorem price_rule {R : List Ru} (hR : RuOk R) {x : Ru} (hx : x ∈ R) : price R x.f x.t ≤ x.c := by
  have h : Way R (x.f ++ []) (x.t ++ []) (x.c + 0) := .rule x hx .nil
  rw [List.append_nil, List.append_nil, Nat.add_zero] at h
  exact way_price hR h
/-! ### without rules: how far both are apart -/
theorem dd_diag (a b : List Int) (i j : Nat) : dd a b (i + 1) (j + 1) ≤ dd a b i j + n01 a b i j := by rw [dd_both]; omega
theorem dd_del (a b : List Int) (i : Nat) : ∀ j, dd a b (i + 1) j ≤ dd a b i j + 1
  | 0 => by rw [dd_left, dd_left]; omega
  | j + 1 => by rw [dd_both]; omega
theorem dd_ins (a b : List Int) : ∀ i j, dd a b i (j + 1) ≤ dd a b i j + 1
  | 0, j => by rw [dd_zero, dd_zero]; omega
  | i + 1, j => by rw [dd_both]; omega
theorem take_nth {l : List Int} {i : Nat} (h : i < l.length) : l.take (i + 1) = l.take i ++ [nth l i] := by rw [List.take_succ_eq_append_getElem h, nth_at h]
theorem way_dd (R : List Ru) (T W : List Int) : ∀ (n i j : Nat), i + j ≤ n → i ≤ T.length → j ≤ W.length → Way R (T.take i) (W.take j) (255 * dd T W i j)
  | n, 0, 0, _, _, _ => by rw [dd_zero]; simpa using Way.nil
  | 0, 0, j + 1, h, _, _ => by omega
  | 0, i + 1, j, h, _, _ => by omega
  | n + 1, 0, j + 1, h, hi, hj => by
    have ih := way_dd R T W n 0 j (by omega) hi (by omega)
    have := ih.app (Way.ins (nth W j) Way.nil)
    rw [dd_zero] at this ⊢
    rw [take_nth (by omega)]
    simpa [Nat.mul_add] using this
  | n + 1, i + 1, 0, h, hi, hj => by
    have ih := way_dd R T W n i 0 (by omega) (by omega) hj
    have := ih.app (Way.del (nth T i) Way.nil)
    rw [dd_left] at this ⊢
    rw [take_nth (by omega)]
    simpa [Nat.mul_add] using this
  | n + 1, i + 1, j + 1, h, hi, hj => by
    have hd := dd_both T W i j
    have h1 := way_dd R T W n i j (by omega) (by omega) (by omega)
    have h2 := way_dd R T W n i (j + 1) (by omega) (by omega) hj
    have h3 := way_dd R T W n (i + 1) j (by omega) hi (by omega)
    rcases Nat.le_total (dd T W i j + n01 T W i j) (min (dd T W i (j + 1) + 1) (dd T W (i + 1) j + 1)) with hl | hl
    · rw [Nat.min_eq_left hl] at hd
      rw [hd, take_nth (l := T) (by omega), take_nth (l := W) (by omega)]
      by_cases hq : nth T i = nth W j
      · have e : n01 T W i j = 0 := n01_eq.2 hq
        have := h1.app (Way.same (nth T i) Way.nil)
        rw [e, ← hq]
        simpa using this
      · have e : n01 T W i j = 1 := by have := n01_le T W i j; have h0 : n01 T W i j ≠ 0 := fun h => hq (n01_eq.1 h); omega
        have := h1.app (Way.chg (nth T i) (nth W j) hq Way.nil)
        rw [e]
        simpa [Nat.mul_add] using this
    · rw [Nat.min_eq_right hl] at hd
      rcases Nat.le_total (dd T W i (j + 1) + 1) (dd T W (i + 1) j + 1) with hm | hm
      · rw [Nat.min_eq_left hm] at hd
        have := h2.app (Way.del (nth T i) Way.nil)
        rw [hd, take_nth (l := T) (by omega)]
        simpa [Nat.mul_add] using this
      · rw [Nat.min_eq_right hm] at hd
        have := h3.app (Way.ins (nth W j) Way.nil)
        rw [hd, take_nth (l := W) (by omega)]
        simpa [Nat.mul_add] using this
/-- A way without rules, from its end. -/
inductive Yaw : List Int → List Int → Nat → Prop
  | nil : Yaw [] [] 0
  | same (r : Int) {t w : List Int} {c : Nat} (h : Yaw t w c) : Yaw (t ++ [r]) (w ++ [r]) c
  | chg (r s : Int) {t w : List Int} {c : Nat} (h : Yaw t w c) : Yaw (t ++ [r]) (w ++ [s]) (255 + c)
  | del (r : Int) {t w : List Int} {c : Nat} (h : Yaw t w c) : Yaw (t ++ [r]) w (255 + c)
  | ins (r : Int) {t w : List Int} {c : Nat} (h : Yaw t w c) : Yaw t (w ++ [r]) (255 + c)
theorem Yaw.cons {x y : List Int} {d : Nat} (h0 : Yaw x y d) {t w : List Int} {c : Nat} (h : Yaw t w c) : Yaw (x ++ t) (y ++ w) (d + c) := by
  have hd : ∀ c, d + (255 + c) = 255 + (d + c) := fun c => by omega
  induction h with
  | nil => simpa using h0
  | same r _ ih => rw [← List.append_assoc, ← List.append_assoc]; exact .same r ih
  | chg r s _ ih => rw [← List.append_assoc, ← List.append_assoc, hd]; exact .chg r s ih
  | del r _ ih => rw [← List.append_assoc, hd]; exact .del r ih
  | ins r _ ih => rw [← List.append_assoc, hd]; exact .ins r ih
theorem Way.yaw {t w : List Int} {c : Nat} (h : Way [] t w c) : Yaw t w c := by
  induction h with
  | nil => exact .nil
  | same r _ ih => have := (Yaw.same r .nil).cons ih; simpa using this
  | rule x hx _ ih => cases hx
  | chg r s hr _ ih => have := (Yaw.chg r s .nil).cons ih; simpa using this
  | del r _ ih => have := (Yaw.del r .nil).cons ih; simpa using this
  | ins r _ ih => have := (Yaw.ins r .nil).cons ih; simpa using this
theorem snoc_take {l t : List Int} {r : Int} {i : Nat} (hi : i ≤ l.length) (h : t ++ [r] = l.take i) : ∃ k, i = k + 1 ∧ k < l.length ∧ t = l.take k ∧ r = nth l k := by
  have h1 := congrArg List.length h
  rw [List.length_append, List.length_take] at h1
  simp only [List.length_cons, List.length_nil] at h1
  obtain ⟨k, rfl⟩ : ∃ k, i = k + 1 := ⟨i - 1, by omega⟩
  rw [take_nth (by omega)] at h
  obtain ⟨h2, h3⟩ := List.append_inj' h rfl
  exact ⟨k, rfl, by omega, h2, by simpa using h3⟩
theorem yaw_dd {T W t w : List Int} {c : Nat} (h : Yaw t w c) : ∀ i j, i ≤ T.length → j ≤ W.length → t = T.take i → w = W.take j → 255 * dd T W i j ≤ c := by
  induction h with
  | nil =>
    intro i j hi hj h1 h2
    have e1 : i = 0 := by have := congrArg List.length h1; rw [List.length_take] at this; simp at this; omega
    have e2 : j = 0 := by have := congrArg List.length h2; rw [List.length_take] at this; simp at this; omega
    rw [e1, e2, dd_zero]; omega
  | same r _ ih =>
    intro i j hi hj h1 h2
    obtain ⟨i, rfl, hi', ht, hr⟩ := snoc_take hi h1
    obtain ⟨j, rfl, hj', hw, hs⟩ := snoc_take hj h2
    have h3 := ih i j (by omega) (by omega) ht hw
    have h4 := dd_diag T W i j
    have h5 : n01 T W i j = 0 := n01_eq.2 (hr.symm.trans hs)
    omega
  | chg r s _ ih =>
    intro i j hi hj h1 h2
    obtain ⟨i, rfl, hi', ht, hr⟩ := snoc_take hi h1
    obtain ⟨j, rfl, hj', hw, hs⟩ := snoc_take hj h2
    have h3 := ih i j (by omega) (by omega) ht hw
    have h4 := dd_diag T W i j
    have h5 := n01_le T W i j
    omega
  | del r _ ih =>
    intro i j hi hj h1 h2
    obtain ⟨i, rfl, hi', ht, hr⟩ := snoc_take hi h1
    have h3 := ih i j (by omega) hj ht h2
    have h4 := dd_del T W i j
    omega
  | ins r _ ih =>
    intro i j hi hj h1 h2
    obtain ⟨j, rfl, hj', hw, hs⟩ := snoc_take hj h2
    have h3 := ih i j hi (by omega) h1 hw
    have h4 := dd_ins T W i j
    omega
theorem price_none {T W : List Int} (hT : T.length ≤ 64) (hW : W.length ≤ 64) : price [] T W = 255 * dd T W T.length W.length := by
  have hR : RuOk [] := fun _ h => by cases h
  refine Nat.le_antisymm ?_ ?_
  · have := way_dd [] T W _ T.length W.length (Nat.le_refl _) (Nat.le_refl _) (Nat.le_refl _)
    rw [List.take_length, List.take_length] at this
    exact way_price hR this
  · exact yaw_dd (price_way hR hT hW).yaw _ _ (Nat.le_refl _) (Nat.le_refl _) (List.take_length).symm (List.take_length).symm
end Go.Proofs.YtmpoihejacklnaaDoor
/- runes.Token, errataref01.Token: a token's runes. No condition. -/
namespace Go.Proofs.YtmpoihejacklnaaDoor
open Go Go.RowKit
/-- A token's error. -/
def tkE (s : ByteArray) : Int := match decS s with
  | none => 3
  | some l => if l.length = 0 then 4 else if 64 < l.length then 5 else 0
theorem tkE_ok {s : ByteArray} (h : tkE s = 0) : ∃ l, decS s = some l ∧ 0 < l.length ∧ l.length ≤ 64 := by
  unfold tkE at h
  cases hd : decS s with
  | none => rw [hd] at h; exact absurd h (by decide)
  | some l =>
    rw [hd] at h
    by_cases h0 : l.length = 0
    · simp only [if_pos h0] at h; exact absurd h (by decide)
    · by_cases h1 : 64 < l.length
      · simp only [if_neg h0, if_pos h1] at h; exact absurd h (by decide)
      · exact ⟨l, rfl, by omega, by omega⟩
theorem tkE_small (s : ByteArray) : 0 ≤ tkE s ∧ tkE s ≤ 10 := by
  unfold tkE
  cases decS s with
  | none => decide
  | some l =>
    simp only
    split
    · decide
    · split <;> decide
def TkPost (w : World) (s : ByteArray) (e : Ending) (w' : World) : Prop :=
  Below w.heap.size w w' ∧ (tkE s = 0 → ∃ v l, decS s = some l ∧ 0 < l.length ∧ l.length ≤ 64 ∧ e = .returned (.tuple #[v, .int .i64 0]) ∧ Own (eInt .i32) w.heap.size 21 w' v l) ∧
    (tkE s ≠ 0 → e = .returned (.tuple #[.slice none 0 0, .int .i64 (tkE s)]))
set_option maxRecDepth 100000 in
set_option maxHeartbeats 1000000 in
theorem tk_c (s : ByteArray) (w : World) (hU : U w) (hz : s.size ≤ 17592186044416) : Calls Tryd.prog 49 #[.string s] w (TkPost w s) := by
  cases hd : decS s with
  | none =>
    have HE : Hid (tkE s = 3) := by show _ = _; unfold tkE; rw [hd]
    have HD := Lib.hid hd
    clear hd
    go_enter Tryd.func49, Tryd.ntmps49
    go_wp2_with (go_at_call 22; refine (dec_own s _ hU hz).mono ?_; rintro e w2 ⟨hb2, h2⟩; rw [HD.out] at h2; obtain rfl := h2)
    go_ret2
    exact ⟨hb2, fun h => absurd (HE.out.symm.trans h) (by decide), fun _ => by rw [HE.out]; rfl⟩
  | some l =>
    have HD := Lib.hid hd
    clear hd
    have hll := decS_len HD.out
    by_cases h0 : l.length = 0
    · have HE : Hid (tkE s = 4) := by show _ = _; unfold tkE; simp only [HD.out]; rw [if_pos h0]
      obtain rfl : l = [] := List.eq_nil_of_length_eq_zero h0
      go_enter Tryd.func49, Tryd.ntmps49
      go_wp2_with (go_at_call 22; refine (dec_own s _ hU hz).mono ?_; rintro e w2 ⟨hb2, h2⟩; rw [HD.out] at h2; obtain ⟨v2, rfl, hO2⟩ := h2; obtain ⟨A2, c2, rfl, _, _, _⟩ := hO2.slv)
      go_ret2
      exact ⟨hb2, fun h => absurd (HE.out.symm.trans h) (by decide), fun _ => by rw [HE.out]; rfl⟩
    · by_cases h1 : 64 < l.length
      · have HE : Hid (tkE s = 5) := by show _ = _; unfold tkE; simp only [HD.out]; rw [if_neg h0, if_pos h1]
        have h1' : (64 : Int) < l.length := by omega
        have h0' : ¬ (l.length : Int) = 0 := by omega
        go_enter Tryd.func49, Tryd.ntmps49
        go_wp2_with (go_at_call 22; refine (dec_own s _ hU hz).mono ?_; rintro e w2 ⟨hb2, h2⟩; rw [HD.out] at h2; obtain ⟨v2, rfl, hO2⟩ := h2; obtain ⟨A2, c2, rfl, _, _, _⟩ := hO2.slv)
        go_ret2
        exact ⟨hb2, fun h => absurd (HE.out.symm.trans h) (by decide), fun _ => by rw [HE.out]; rfl⟩
      · have HE : Hid (tkE s = 0) := by show _ = _; unfold tkE; simp only [HD.out]; rw [if_neg h0, if_neg h1]
        have h1' : ¬ (64 : Int) < l.length := by omega
        have h0' : ¬ (l.length : Int) = 0 := by omega
        go_enter Tryd.func49, Tryd.ntmps49
        go_wp2_with (go_at_call 22; refine (dec_own s _ hU hz).mono ?_; rintro e w2 ⟨hb2, h2⟩; rw [HD.out] at h2; obtain ⟨v2, rfl, hO2⟩ := h2; have HO2 := hO2; obtain ⟨A2, c2, rfl, _, _, _⟩ := hO2.slv)
        go_ret2
        exact ⟨hb2, fun _ => ⟨_, l, HD.out, by omega, by omega, rfl, HO2⟩, fun h => absurd HE.out h⟩
def RtkPost (w : World) (s : ByteArray) (e : Ending) (w' : World) : Prop :=
  Below w.heap.size w w' ∧ (tkE s = 0 → ∃ v l, decS s = some l ∧ 0 < l.length ∧ l.length ≤ 64 ∧ e = .returned (.tuple #[v, .int .i64 0]) ∧ SlV (eInt .i32) w' v l) ∧
    (tkE s ≠ 0 → e = .returned (.tuple #[.slice none 0 0, .int .i64 (tkE s)]))
set_option maxRecDepth 100000 in
set_option maxHeartbeats 1000000 in
theorem r1tk_c (s : ByteArray) (w : World) (hz : s.size ≤ 17592186044416) : Calls Tryd.prog 54 #[.string s] w (RtkPost w s) := by
  cases hd : decS s with
  | none =>
    have HE : Hid (tkE s = 3) := by show _ = _; unfold tkE; rw [hd]
    have HD := Lib.hid hd
    clear hd
    go_enter Tryd.func54, Tryd.ntmps54
    go_wp2_with (go_at_call 55; refine (r1dec_none s _ hz HD.out).mono ?_; rintro e w2 ⟨rfl, hb2⟩)
    go_ret2
    exact ⟨hb2, fun h => absurd (HE.out.symm.trans h) (by decide), fun _ => by rw [HE.out]; rfl⟩
  | some l =>
    have HD := Lib.hid hd
    clear hd
    have hll := decS_len HD.out
    by_cases h0 : l.length = 0
    · have HE : Hid (tkE s = 4) := by show _ = _; unfold tkE; simp only [HD.out]; rw [if_pos h0]
      have h0' : (l.length : Int) = 0 := by omega
      go_enter Tryd.func54, Tryd.ntmps54
      go_wp2_with (go_at_call 55; refine (r1dec_some s _ hz l HD.out).mono ?_; rintro e w2 ⟨A2, c2, rfl, _, _, _, hb2⟩)
      go_ret2
      exact ⟨hb2, fun h => absurd (HE.out.symm.trans h) (by decide), fun _ => by rw [HE.out]; rfl⟩
    · by_cases h1 : 64 < l.length
      · have HE : Hid (tkE s = 5) := by show _ = _; unfold tkE; simp only [HD.out]; rw [if_neg h0, if_pos h1]
        have h1' : (64 : Int) < l.length := by omega
        have h0' : ¬ (l.length : Int) = 0 := by omega
        go_enter Tryd.func54, Tryd.ntmps54
        go_wp2_with (go_at_call 55; refine (r1dec_some s _ hz l HD.out).mono ?_; rintro e w2 ⟨A2, c2, rfl, _, _, _, hb2⟩)
        go_ret2
        exact ⟨hb2, fun h => absurd (HE.out.symm.trans h) (by decide), fun _ => by rw [HE.out]; rfl⟩
      · have HE : Hid (tkE s = 0) := by show _ = _; unfold tkE; simp only [HD.out]; rw [if_neg h0, if_neg h1]
        have h1' : ¬ (64 : Int) < l.length := by omega
        have h0' : ¬ (l.length : Int) = 0 := by omega
        go_enter Tryd.func54, Tryd.ntmps54
        go_wp2_with (go_at_call 55; refine (r1dec_some s _ hz l HD.out).mono ?_; rintro e w2 ⟨A2, c2, rfl, hA2, hc2, hd2, hb2⟩)
        go_ret2
        exact ⟨hb2, fun _ => ⟨_, l, HD.out, by omega, by omega, rfl, ⟨_, _, rfl, hc2, hd2, hA2⟩⟩, fun h => absurd HE.out h⟩
end Go.Proofs.YtmpoihejacklnaaDoor
/- The blocks of pairs in plain Lean: what two tokens teach, the first error. No condition. -/
namespace Go.Proofs.YtmpoihejacklnaaDoor
open Go Go.RowKit
/-- Two strings. -/
structure P2 where
  n : ByteArray
  t : ByteArray
def eP2 : Enc P2 := ⟨2, fun p => [.string p.n, .string p.t], fun _ => rfl, fun _ v hv => by simp at hv; rcases hv with rfl | rfl <;> rfl⟩
def blkOk (r : List St) : Bool := decide ((leftR r).length ≤ 3) && (decide ((rightR r).length ≤ 3) && !decide (txt (leftR r) = txt (rightR r)))
def blkOf (r : List St) : T3 := ⟨txt (leftR r), txt (rightR r), 1⟩
def blksR (rs : List (List St)) : List T3 := (rs.filter blkOk).map blkOf
def blksL (l : List St) : List T3 := blksR (rowsL l)
theorem blksR_app (a b : List (List St)) : blksR (a ++ b) = blksR a ++ blksR b := by unfold blksR; rw [List.filter_append, List.map_append]
theorem blksR_one (r : List St) : blksR [r] = if blkOk r = true then [blkOf r] else [] := by
  unfold blksR
  by_cases h : blkOk r = true
  · rw [if_pos h, List.filter_cons_of_pos h]; rfl
  · rw [if_neg h, List.filter_cons_of_neg h]; rfl
theorem blksR_len (rs : List (List St)) : (blksR rs).length ≤ rs.length := by unfold blksR; rw [List.length_map]; exact List.length_filter_le _ _
def pairE (p : P2) : Int := if tkE p.n = 0 then tkE p.t else tkE p.n
def pairB (p : P2) : List T3 := blksL (stepsL ((decS p.n).getD []) ((decS p.t).getD []))
def pairsE : List P2 → Int
  | [] => 0
  | p :: l => if pairE p = 0 then pairsE l else pairE p
def pairsB (l : List P2) : List T3 := l.flatMap pairB
theorem pairsB_snoc (l : List P2) (p : P2) : pairsB (l ++ [p]) = pairsB l ++ pairB p := by unfold pairsB; rw [List.flatMap_append]; simp
theorem pairsE_zero (l : List P2) : pairsE l = 0 ↔ ∀ p ∈ l, pairE p = 0 := by
  induction l with
  | nil => simp [pairsE]
  | cons p l ih =>
    unfold pairsE
    by_cases h : pairE p = 0
    · rw [if_pos h, ih]; simp [h]
    · rw [if_neg h]; simp [h]
theorem pairE_ok {p : P2} (h : pairE p = 0) : tkE p.n = 0 ∧ tkE p.t = 0 := by
  unfold pairE at h
  by_cases h0 : tkE p.n = 0
  · rw [if_pos h0] at h; exact ⟨h0, h⟩
  · rw [if_neg h0] at h; exact absurd h h0
theorem pairE_small (p : P2) : 0 ≤ pairE p ∧ pairE p ≤ 10 := by unfold pairE; split <;> exact tkE_small _
theorem pairsE_small (l : List P2) : 0 ≤ pairsE l ∧ pairsE l ≤ 10 := by
  induction l with
  | nil => decide
  | cons p l ih =>
    unfold pairsE
    split
    · exact ih
    · exact pairE_small p
theorem txt_size (l : List Int) : (txt l).size ≤ l.length * 4 := by
  have := (encT_len l).2
  show (encT l).toArray.size ≤ _
  simpa using this
theorem pairB_small {p : P2} (h : pairE p = 0) : (pairB p).length ≤ 128 ∧ ∀ b ∈ pairB p, b.f.size ≤ 512 ∧ b.t.size ≤ 512 := by
  obtain ⟨h1, h2⟩ := pairE_ok h
  obtain ⟨a, ha, _, ha2⟩ := tkE_ok h1
  obtain ⟨c, hc, _, hc2⟩ := tkE_ok h2
  unfold pairB
  rw [ha, hc]
  simp only [Option.getD_some]
  have hl := stepsL_len a c
  obtain ⟨_, k2, k3⟩ := rowsL_ok (stepsL a c)
  refine ⟨Nat.le_trans (blksR_len _) (by omega), fun b hb => ?_⟩
  obtain ⟨r, hr, rfl⟩ := List.mem_map.1 hb
  obtain ⟨_, hr2, _⟩ := k3 r (List.mem_filter.1 hr).1
  have e1 := leftR_len r
  have e2 := rightR_len r
  have e3 := txt_size (leftR r)
  have e4 := txt_size (rightR r)
  exact ⟨by show (txt (leftR r)).size ≤ 512; omega, by show (txt (rightR r)).size ≤ 512; omega⟩
theorem pairsB_len : ∀ {l : List P2}, (∀ p ∈ l, pairE p = 0) → (pairsB l).length ≤ l.length * 128
  | [], _ => by simp [pairsB]
  | p :: l, h => by
    have h1 := pairsB_len (l := l) fun q hq => h q (by simp [hq])
    have h2 := (pairB_small (h p (by simp))).1
    unfold pairsB at *
    rw [List.flatMap_cons, List.length_append, List.length_cons, Nat.add_mul]
    omega
theorem pairsB_small {l : List P2} (h : pairsE l = 0) (hl : l.length ≤ 100) : Small (pairsB l) := by
  have h1 := (pairsE_zero l).1 h
  have h2 := pairsB_len h1
  refine ⟨by omega, fun b hb => ?_⟩
  obtain ⟨p, hp, hb⟩ := List.mem_flatMap.1 hb
  obtain ⟨k1, k2⟩ := (pairB_small (h1 p hp)).2 b hb
  omega
/-! ### a pair that is the same teaches nothing -/
theorem dd_same (a : List Int) : ∀ i, dd a a i i = 0
  | 0 => dd_zero a a 0
  | i + 1 => by
    have h1 := dd_same a i
    have h2 : n01 a a i i = 0 := n01_eq.2 rfl
    rw [dd_both, h1, h2]; omega
theorem kd_same (a : List Int) (i : Nat) (hi : 0 < i) : kd a a i i = 0 := by
  have h2 : n01 a a (i - 1) (i - 1) = 0 := n01_eq.2 rfl
  unfold kd
  rw [if_pos ⟨hi, hi, by rw [dd_same, dd_same, h2]⟩, h2]
theorem back_same (a : List Int) : ∀ i, ∀ s ∈ backL a a i i, s.k = 0
  | 0, s, hs => by rw [backL_nil] at hs; cases hs
  | i + 1, s, hs => by
    have hk := kd_same a (i + 1) (by omega)
    rw [backL_low (by omega), Nat.add_sub_cancel] at hs
    rcases List.mem_cons.1 hs with rfl | hs
    · show ((kd a a (i + 1) (i + 1) : Nat) : Int) = 0
      omega
    · exact back_same a i s hs
theorem rows_same (l : List St) : (∀ s ∈ l, s.k = 0) → rowsS l = ([], true) := by
  refine snoc_ind (p := fun l => (∀ s ∈ l, s.k = 0) → rowsS l = ([], true)) (fun _ => rfl) (fun l x ih h => ?_) l
  rw [rowsS_snoc, ih fun s hs => h s (by simp [hs])]
  unfold rowAdd
  rw [if_pos (h x (by simp))]
theorem pairB_same (t : ByteArray) : pairB ⟨t, t⟩ = [] := by
  show blksR (rowsS (stepsL ((decS t).getD []) ((decS t).getD []))).1 = []
  have h := rows_same (stepsL ((decS t).getD []) ((decS t).getD [])) fun s hs => back_same _ _ s (List.mem_reverse.1 hs)
  rw [h]
  rfl
end Go.Proofs.YtmpoihejacklnaaDoor
/- Prices over rules as they are written: parts as rules, the parts of a price in order, what parts are of. No condition. -/
namespace Go.Proofs.YtmpoihejacklnaaDoor
open Go Go.RowKit
def rus (xs : List T3) : List Ru := xs.map fun b => ⟨(decS b.f).getD [], (decS b.t).getD [], b.n.toNat⟩
def tosL (xs : List T3) : List (List Int) := xs.map fun b => (decS b.t).getD []
theorem rus_len (xs : List T3) : (rus xs).length = xs.length := by unfold rus; simp
theorem rus_at {xs : List T3} {k : Nat} (h : k < xs.length) : ruAt (rus xs) k = ⟨(decS xs[k].f).getD [], (decS xs[k].t).getD [], xs[k].n.toNat⟩ := by
  unfold ruAt rus
  rw [List.getElem?_map, List.getElem?_eq_getElem h]; rfl
theorem rchk_all {b : T3} (h : rchk b = 0) : decS b.f = some ((decS b.f).getD []) ∧ ((decS b.f).getD []).length ≤ 3 ∧ decS b.t = some ((decS b.t).getD []) ∧ ((decS b.t).getD []).length ≤ 3 ∧ b.f ≠ b.t ∧ 1 ≤ b.n ∧ b.n ≤ 255 := by
  unfold rchk at h
  by_cases h1 : bchk ⟨b.f, b.t, 1⟩ = 0
  · rw [if_neg (by simpa using h1)] at h
    by_cases hc : b.n < 1 ∨ 255 < b.n
    · rw [if_pos hc] at h; exact absurd h (by decide)
    · unfold bchk at h1
      by_cases h2 : okS b.f ≠ 0 ∨ okS b.t ≠ 0
      · rw [if_pos h2] at h1; exact absurd h1 (by decide)
      · rw [if_neg h2] at h1
        by_cases h3 : 3 < lenS b.f ∨ 3 < lenS b.t
        · rw [if_pos h3] at h1; exact absurd h1 (by decide)
        · rw [if_neg h3] at h1
          by_cases h4 : (b.f.toList == b.t.toList) = true
          · rw [if_pos h4] at h1; exact absurd h1 (by decide)
          · simp only [not_or, Classical.not_not] at h2
            obtain ⟨h5, h6⟩ := h2
            unfold okS at h5 h6
            unfold lenS at h3
            refine ⟨?_, by omega, ?_, by omega, fun e => h4 (by rw [e]; simp), by omega, by omega⟩
            · cases hd : decS b.f with
              | none => rw [hd] at h5; simp at h5
              | some l => rfl
            · cases hd : decS b.t with
              | none => rw [hd] at h6; simp at h6
              | some l => rfl
  · rw [if_pos h1] at h; exact absurd h h1
theorem rus_ok {xs : List T3} (h : isE xs = 0) : RuOk (rus xs) := fun r hr => by
  obtain ⟨b, hb, rfl⟩ := List.mem_map.1 hr
  obtain ⟨h1, h2, h3, h4, h5, h6, h7⟩ := rchk_all ((isE_ok h).2 b hb)
  refine ⟨?_, by show 1 ≤ b.n.toNat; omega, by show b.n.toNat ≤ 255; omega⟩
  show 1 ≤ ((decS b.f).getD []).length + ((decS b.t).getD []).length
  rcases Nat.eq_zero_or_pos (((decS b.f).getD []).length + ((decS b.t).getD []).length) with h0 | h0
  · have e1 : (decS b.f).getD [] = [] := List.eq_nil_of_length_eq_zero (by omega)
    have e2 : (decS b.t).getD [] = [] := List.eq_nil_of_length_eq_zero (by omega)
    rw [e1] at h1
    rw [e2] at h3
    exact absurd (decS_inj h1 h3) h5
  · exact h0
theorem rus_nil : rus [] = [] := rfl
/-- A part as a rule. -/
def tolP (xs : List T3) (T W : List Int) (i j : Nat) (p : Pt) : T3 :=
  if p.k < 0 then ⟨txt ((T.drop i).take p.f), txt ((W.drop j).take p.t), (p.c : Int)⟩ else xs[p.k.toNat]?.getD ⟨.empty, .empty, 0⟩
def hereL (xs : List T3) (T W : List Int) (i j : Nat) : List T3 := (partsP (rus xs) T W i j).map (tolP xs T W i j)
theorem tol_rule {xs : List T3} {T W : List Int} {i j k : Nat} (h : k < xs.length) : tolP xs T W i j (ptOf (rus xs) k) = xs[k] := by
  unfold tolP ptOf
  simp only
  rw [if_neg (by omega), Int.toNat_natCast, List.getElem?_eq_getElem h]; rfl
/-- What a part is of. -/
theorem tol_is {xs : List T3} (h : isE xs = 0) {T W : List Int} {i j : Nat} {p : Pt} (hp : p ∈ partsP (rus xs) T W i j) :
    (tolP xs T W i j p).f = txt ((T.drop i).take p.f) ∧ (tolP xs T W i j p).t = txt ((W.drop j).take p.t) ∧ (tolP xs T W i j p).n = p.c := by
  have hr : ∀ q : Pt, q.k < 0 → p = q → (tolP xs T W i j p).f = txt ((T.drop i).take p.f) ∧ (tolP xs T W i j p).t = txt ((W.drop j).take p.t) ∧ (tolP xs T W i j p).n = p.c := by
    rintro q hq rfl
    unfold tolP
    rw [if_pos hq]
    exact ⟨rfl, rfl, rfl⟩
  rcases parts_mem.1 hp with ⟨_, _, _, e⟩ | ⟨k, h1, h2, h3, rfl⟩ | ⟨_, _, _, e⟩ | ⟨_, e⟩ | ⟨_, e⟩
  · exact hr _ (by decide) e
  · have hk : k < xs.length := by rw [rus_len] at h1; exact h1
    rw [tol_rule hk]
    obtain ⟨k1, _, k3, _, _, k6, _⟩ := rchk_all ((isE_ok h).2 _ (List.getElem_mem hk))
    unfold ptOf
    rw [rus_at hk] at h2 h3 ⊢
    simp only at h2 h3 ⊢
    refine ⟨?_, ?_, by omega⟩
    · rw [h2.2]; exact (dec_txt k1).symm
    · rw [h3.2]; exact (dec_txt k3).symm
  · exact hr _ (by decide) e
  · exact hr _ (by decide) e
  · exact hr _ (by decide) e
theorem isR_part {T : List Int} (hT : ∀ r ∈ T, IsR r) (i n : Nat) : ∀ r ∈ (T.drop i).take n, IsR r := fun r h => hT r (List.mem_of_mem_drop (List.mem_of_mem_take h))
/-- How many runes a part has. -/
theorem tol_dec {xs : List T3} (h : isE xs = 0) {T W : List Int} (hT : ∀ r ∈ T, IsR r) (hW : ∀ r ∈ W, IsR r) {i j : Nat} (hi : i ≤ T.length) (hj : j ≤ W.length) {p : Pt} (hp : p ∈ partsP (rus xs) T W i j) :
    decS (tolP xs T W i j p).f = some ((T.drop i).take p.f) ∧ ((T.drop i).take p.f).length = p.f ∧ decS (tolP xs T W i j p).t = some ((W.drop j).take p.t) ∧ ((W.drop j).take p.t).length = p.t := by
  obtain ⟨h1, h2, _⟩ := tol_is h hp
  obtain ⟨_, h3, h4, _⟩ := parts_ok (rus_ok h) hi hj hp
  rw [h1, h2]
  refine ⟨txt_dec (isR_part hT i p.f), ?_, txt_dec (isR_part hW j p.t), ?_⟩
  · rw [List.length_take, List.length_drop]; omega
  · rw [List.length_take, List.length_drop]; omega
theorem leastF_take (f : Pt → Nat) (m : Nat) (l : List Pt) (p : Nat) (h : p < l.length) : leastF f m (l.take (p + 1)) = min (leastF f m (l.take p)) (f l[p]) := by
  unfold leastF
  rw [List.take_succ_eq_append_getElem h, List.foldl_append]; rfl
theorem leastF_top (f : Pt → Nat) (m : Nat) (l : List Pt) : leastF f m l ≤ m := (leastF_le f l m).1
/-! ### the first part that is as cheap as can be -/
def fstP (R : List Ru) (T W : List Int) (i j : Nat) : Option Pt := (partsP R T W i j).find? fun p => decide (p.c + cc R T W (i + p.f) (j + p.t) = cc R T W i j)
theorem fst_some {R : List Ru} (hR : RuOk R) {T W : List Int} {i j : Nat} (hi : i ≤ T.length) (hj : j ≤ W.length) (h : i < T.length ∨ j < W.length) (hT : T.length ≤ 64) (hW : W.length ≤ 64) :
    ∃ p, fstP R T W i j = some p ∧ p ∈ partsP R T W i j ∧ p.c + cc R T W (i + p.f) (j + p.t) = cc R T W i j := by
  obtain ⟨p, hp, he⟩ := cc_part hR hi hj h hT hW
  cases hf : fstP R T W i j with
  | none =>
    unfold fstP at hf
    rw [List.find?_eq_none] at hf
    exact absurd he.symm (by simpa using hf p hp)
  | some q =>
    refine ⟨q, rfl, ?_, ?_⟩
    · exact List.mem_of_find?_eq_some hf
    · have := List.find?_some hf
      simpa using this
def wayN (xs : List T3) (T W : List Int) : Nat → Nat → Nat → List T3
  | 0, _, _ => []
  | n + 1, i, j => if i < T.length ∨ j < W.length then match fstP (rus xs) T W i j with
    | none => []
    | some p => tolP xs T W i j p :: wayN xs T W n (i + p.f) (j + p.t) else []
def wayA (xs : List T3) (T W : List Int) (i j : Nat) : List T3 := wayN xs T W (T.length - i + (W.length - j)) i j
theorem wayN_more {xs : List T3} (h : isE xs = 0) {T W : List Int} (hT : T.length ≤ 64) (hW : W.length ≤ 64) : ∀ (n m i j : Nat), i ≤ T.length → j ≤ W.length → T.length - i + (W.length - j) ≤ n → T.length - i + (W.length - j) ≤ m → wayN xs T W n i j = wayN xs T W m i j
  | 0, m, i, j, hi, hj, hn, _ => by
    have h1 : ¬ (i < T.length ∨ j < W.length) := by omega
    cases m with
    | zero => rfl
    | succ m => unfold wayN; rw [if_neg h1]
  | n + 1, 0, i, j, hi, hj, _, hm => by
    have h1 : ¬ (i < T.length ∨ j < W.length) := by omega
    unfold wayN; rw [if_neg h1]
  | n + 1, m + 1, i, j, hi, hj, hn, hm => by
    by_cases h1 : i < T.length ∨ j < W.length
    · obtain ⟨p, hf, hp, _⟩ := fst_some (rus_ok h) hi hj h1 hT hW
      obtain ⟨k1, k2, k3, _⟩ := parts_ok (rus_ok h) hi hj hp
      unfold wayN
      rw [if_pos h1, if_pos h1, hf]
      simp only
      rw [wayN_more h hT hW n m (i + p.f) (j + p.t) k2 k3 (by omega) (by omega)]
    · unfold wayN; rw [if_neg h1, if_neg h1]
theorem wayA_end (xs : List T3) (T W : List Int) : wayA xs T W T.length W.length = [] := by unfold wayA; simp [wayN]
theorem wayA_step {xs : List T3} (h : isE xs = 0) {T W : List Int} (hT : T.length ≤ 64) (hW : W.length ≤ 64) {i j : Nat} (hi : i ≤ T.length) (hj : j ≤ W.length) (h1 : i < T.length ∨ j < W.length) {p : Pt} (hp : fstP (rus xs) T W i j = some p) :
    wayA xs T W i j = tolP xs T W i j p :: wayA xs T W (i + p.f) (j + p.t) := by
  obtain ⟨q, hf, hq, _⟩ := fst_some (rus_ok h) hi hj h1 hT hW
  rw [hp] at hf
  obtain rfl : p = q := by injection hf
  obtain ⟨k1, k2, k3, _⟩ := parts_ok (rus_ok h) hi hj hq
  unfold wayA
  obtain ⟨n, hn⟩ : ∃ n, T.length - i + (W.length - j) = n + 1 := ⟨T.length - i + (W.length - j) - 1, by omega⟩
  have e : wayN xs T W (n + 1) i j = if i < T.length ∨ j < W.length then match fstP (rus xs) T W i j with
    | none => []
    | some p => tolP xs T W i j p :: wayN xs T W n (i + p.f) (j + p.t) else [] := rfl
  rw [hn, e, if_pos h1, hp]
  simp only
  rw [wayN_more h hT hW n _ (i + p.f) (j + p.t) k2 k3 (by omega) (Nat.le_refl _)]
theorem wayA_len {xs : List T3} (h : isE xs = 0) {T W : List Int} (hT : T.length ≤ 64) (hW : W.length ≤ 64) : ∀ (n i j : Nat), i ≤ T.length → j ≤ W.length → T.length - i + (W.length - j) ≤ n → (wayA xs T W i j).length ≤ n
  | n, i, j, hi, hj, hn => by
    by_cases h1 : i < T.length ∨ j < W.length
    · obtain ⟨p, hf, hp, _⟩ := fst_some (rus_ok h) hi hj h1 hT hW
      obtain ⟨k1, k2, k3, _⟩ := parts_ok (rus_ok h) hi hj hp
      obtain ⟨n, rfl⟩ : ∃ n', n = n' + 1 := ⟨n - 1, by omega⟩
      rw [wayA_step h hT hW hi hj h1 hf, List.length_cons]
      have := wayA_len h hT hW n (i + p.f) (j + p.t) k2 k3 (by omega)
      omega
    · obtain rfl : i = T.length := by omega
      obtain rfl : j = W.length := by omega
      rw [wayA_end]; simp
/-! ### what parts are of, and cost -/
def sumFB (l : List T3) : List UInt8 := l.flatMap fun b => b.f.data.toList
def sumTB (l : List T3) : List UInt8 := l.flatMap fun b => b.t.data.toList
def bsum (b : List UInt8) : ByteArray := ⟨b.toArray⟩
def sumS (n x : Int) : Int := min (n + min (max x 0) 1099511627776) 1099511627776
def sumN (l : List T3) : Int := l.foldl (fun n b => sumS n b.n) 0
theorem sumFB_snoc (l : List T3) (b : T3) : sumFB (l ++ [b]) = sumFB l ++ b.f.data.toList := by unfold sumFB; rw [List.flatMap_append]; simp
theorem sumTB_snoc (l : List T3) (b : T3) : sumTB (l ++ [b]) = sumTB l ++ b.t.data.toList := by unfold sumTB; rw [List.flatMap_append]; simp
theorem sumN_snoc (l : List T3) (b : T3) : sumN (l ++ [b]) = sumS (sumN l) b.n := by unfold sumN; rw [List.foldl_append]; rfl
theorem sumS_in {n x : Int} (h : 0 ≤ n) : 0 ≤ sumS n x ∧ sumS n x ≤ 1099511627776 := by unfold sumS; omega
theorem sumN_in (l : List T3) : 0 ≤ sumN l ∧ sumN l ≤ 1099511627776 := by
  unfold sumN
  suffices h : ∀ (l : List T3) (n : Int), 0 ≤ n ∧ n ≤ 1099511627776 → 0 ≤ l.foldl (fun n b => sumS n b.n) n ∧ l.foldl (fun n b => sumS n b.n) n ≤ 1099511627776 from h l 0 (by omega)
  intro l
  induction l with
  | nil => intro n h; exact h
  | cons b l ih => intro n h; exact ih _ (sumS_in h.1)
/-- The parts of a price are of the token and the word, and cost the price. -/
theorem way_sum {xs : List T3} (h : isE xs = 0) {T W : List Int} (hT : T.length ≤ 64) (hW : W.length ≤ 64) : ∀ (n i j : Nat), i ≤ T.length → j ≤ W.length → T.length - i + (W.length - j) ≤ n →
    sumFB (wayA xs T W i j) = encT (T.drop i) ∧ sumTB (wayA xs T W i j) = encT (W.drop j) ∧ ∀ m : Int, 0 ≤ m → m + cc (rus xs) T W i j ≤ 1099511627776 → (wayA xs T W i j).foldl (fun n b => sumS n b.n) m = m + cc (rus xs) T W i j
  | n, i, j, hi, hj, hn => by
    by_cases h1 : i < T.length ∨ j < W.length
    · obtain ⟨p, hf, hp, he⟩ := fst_some (rus_ok h) hi hj h1 hT hW
      obtain ⟨k1, k2, k3, k4⟩ := parts_ok (rus_ok h) hi hj hp
      obtain ⟨q1, q2, q3⟩ := tol_is h hp
      obtain ⟨n, rfl⟩ : ∃ n', n = n' + 1 := ⟨n - 1, by omega⟩
      obtain ⟨i1, i2, i3⟩ := way_sum h hT hW n (i + p.f) (j + p.t) k2 k3 (by omega)
      rw [wayA_step h hT hW hi hj h1 hf]
      unfold sumFB at i1 ⊢
      unfold sumTB at i2 ⊢
      rw [List.flatMap_cons, List.flatMap_cons, i1, i2, q1, q2, txt_list, txt_list, ← encT_app, ← encT_app]
      refine ⟨?_, ?_, fun m hm hb => ?_⟩
      · rw [← List.drop_drop, List.take_append_drop]
      · rw [← List.drop_drop, List.take_append_drop]
      · rw [List.foldl_cons, q3]
        have e : sumS m (p.c : Int) = m + p.c := by unfold sumS; omega
        rw [e, i3 (m + p.c) (by omega) (by omega)]
        omega
    · obtain rfl : i = T.length := by omega
      obtain rfl : j = W.length := by omega
      rw [wayA_end, List.drop_length, List.drop_length, cc_end]
      exact ⟨rfl, rfl, fun m _ _ => by simp⟩
/-- Each part is a match, a change, or a rule. -/
def partOk (xs : List T3) (r : T3) : Prop := (r ∈ xs) ∨ (r.f = r.t ∧ lenS r.f = 1 ∧ r.n = 0) ∨ (r.f ≠ r.t ∧ lenS r.f ≤ 1 ∧ lenS r.t ≤ 1 ∧ r.n = 255)
theorem take_one {l : List Int} {i : Nat} (h : i < l.length) : (l.drop i).take 1 = [nth l i] := by rw [drop_nth h]; rfl
theorem tol_ok {xs : List T3} (h : isE xs = 0) {T W : List Int} (hT : ∀ r ∈ T, IsR r) (hW : ∀ r ∈ W, IsR r) {i j : Nat} (hi : i ≤ T.length) (hj : j ≤ W.length) {p : Pt} (hp : p ∈ partsP (rus xs) T W i j) : partOk xs (tolP xs T W i j p) := by
  obtain ⟨d1, d2, d3, d4⟩ := tol_dec h hT hW hi hj hp
  obtain ⟨q1, q2, q3⟩ := tol_is h hp
  have l1 : lenS (tolP xs T W i j p).f = p.f := by unfold lenS; rw [d1]; exact d2
  have l2 : lenS (tolP xs T W i j p).t = p.t := by unfold lenS; rw [d3]; exact d4
  have hne : (T.drop i).take p.f ≠ (W.drop j).take p.t → (tolP xs T W i j p).f ≠ (tolP xs T W i j p).t := fun hn e => hn (by rw [e, d3] at d1; injection d1 with d1; exact d1.symm)
  rcases parts_mem.1 hp with ⟨h1, h2, h3, rfl⟩ | ⟨k, h1, h2, h3, rfl⟩ | ⟨h1, h2, h3, rfl⟩ | ⟨h1, rfl⟩ | ⟨h1, rfl⟩
  · refine .inr (.inl ⟨?_, l1, q3⟩)
    rw [q1, q2]
    simp only
    rw [take_one h1, take_one h2, h3]
  · have hk : k < xs.length := by rw [rus_len] at h1; exact h1
    rw [tol_rule hk]
    exact .inl (List.getElem_mem hk)
  · refine .inr (.inr ⟨hne ?_, Nat.le_of_eq l1, Nat.le_of_eq l2, q3⟩)
    simp only
    rw [take_one h1, take_one h2]
    intro e; injection e with e; exact h3 e
  · refine .inr (.inr ⟨hne ?_, Nat.le_of_eq l1, by rw [l2]; simp, q3⟩)
    simp only
    rw [take_one h1]; simp
  · refine .inr (.inr ⟨hne ?_, by rw [l1]; simp, Nat.le_of_eq l2, q3⟩)
    simp only
    rw [take_one h1]; simp
theorem way_ok {xs : List T3} (h : isE xs = 0) {T W : List Int} (hTr : ∀ r ∈ T, IsR r) (hWr : ∀ r ∈ W, IsR r) (hT : T.length ≤ 64) (hW : W.length ≤ 64) : ∀ (n i j : Nat), i ≤ T.length → j ≤ W.length → T.length - i + (W.length - j) ≤ n → ∀ r ∈ wayA xs T W i j, partOk xs r
  | n, i, j, hi, hj, hn => by
    by_cases h1 : i < T.length ∨ j < W.length
    · obtain ⟨p, hf, hp, he⟩ := fst_some (rus_ok h) hi hj h1 hT hW
      obtain ⟨k1, k2, k3, k4⟩ := parts_ok (rus_ok h) hi hj hp
      obtain ⟨n, rfl⟩ : ∃ n', n = n' + 1 := ⟨n - 1, by omega⟩
      rw [wayA_step h hT hW hi hj h1 hf]
      intro r hr
      rcases List.mem_cons.1 hr with rfl | hr
      · exact tol_ok h hTr hWr hi hj hp
      · exact way_ok h hTr hWr hT hW n (i + p.f) (j + p.t) k2 k3 (by omega) r hr
    · obtain rfl : i = T.length := by omega
      obtain rfl : j = W.length := by omega
      rw [wayA_end]; intro r hr; cases hr
/-! ### the answers -/
def rnS (s : ByteArray) : List Int := (decS s).getD []
/-- The error of a price. -/
noncomputable def prcE (xs : List T3) (t w : ByteArray) : Int := if isE xs = 0 then pairE ⟨t, w⟩ else isE xs
noncomputable def prcV (xs : List T3) (t w : ByteArray) : Nat := if prcE xs t w = 0 then price (rus xs) (rnS t) (rnS w) else 0
noncomputable def wayL (xs : List T3) (t w : ByteArray) : List T3 := if prcE xs t w = 0 then wayA xs (rnS t) (rnS w) 0 0 else []
theorem prcE_ok {xs : List T3} {t w : ByteArray} (h : prcE xs t w = 0) : isE xs = 0 ∧ tkE t = 0 ∧ tkE w = 0 := by
  unfold prcE at h
  by_cases h0 : isE xs = 0
  · rw [if_pos h0] at h; exact ⟨h0, pairE_ok h⟩
  · rw [if_neg h0] at h; exact absurd h h0
theorem rn_ok {s : ByteArray} (h : tkE s = 0) : decS s = some (rnS s) ∧ 0 < (rnS s).length ∧ (rnS s).length ≤ 64 ∧ ∀ r ∈ rnS s, IsR r := by
  obtain ⟨l, h1, h2, h3⟩ := tkE_ok h
  unfold rnS
  rw [h1]
  exact ⟨rfl, h2, h3, decS_isR h1⟩
theorem prcV_le {xs : List T3} {t w : ByteArray} : prcV xs t w ≤ 32640 := by
  unfold prcV
  by_cases h : prcE xs t w = 0
  · rw [if_pos h]
    obtain ⟨h1, h2, h3⟩ := prcE_ok h
    obtain ⟨_, _, a3, _⟩ := rn_ok h2
    obtain ⟨_, _, b3, _⟩ := rn_ok h3
    have := cc_bound (rus_ok h1) (rnS t) (rnS w) 128 0 0 (by omega) (by omega) (by omega)
    exact this
  · rw [if_neg h]; omega
noncomputable def witE (xs : List T3) (t w : ByteArray) (b : Int) : Int := if prcE xs t w ≠ 0 then prcE xs t w else if b < 0 ∨ 4096 < b then 2 else if b < (prcV xs t w : Int) then 10 else 0
noncomputable def witV (xs : List T3) (t w : ByteArray) (b : Int) : Nat := if witE xs t w b = 0 then prcV xs t w else 0
end Go.Proofs.YtmpoihejacklnaaDoor
/- price's grid in memory: what the parts at a place are read from. No condition. -/
namespace Go.Proofs.YtmpoihejacklnaaDoor
open Go Go.RowKit
/-! ### blocks that stay -/
/-- The blocks of a kind stay. -/
def KwB (B : Nat → Prop) (W W' : World) : Prop := W.heap.size ≤ W'.heap.size ∧ ∀ k, B k → k < W.heap.size → W'.heap[k]? = W.heap[k]?
theorem KwB.refl (B : Nat → Prop) (W : World) : KwB B W W := ⟨Nat.le_refl _, fun _ _ _ => rfl⟩
theorem KwB.trans {B : Nat → Prop} {X Y Z : World} (h : KwB B X Y) (k : KwB B Y Z) : KwB B X Z := ⟨Nat.le_trans h.1 k.1, fun j hj hl => (k.2 j hj (Nat.lt_of_lt_of_le hl h.1)).trans (h.2 j hj hl)⟩
theorem KwB.weak {B C : Nat → Prop} {X Y : World} (h : KwB B X Y) (hC : ∀ k, C k → B k) : KwB C X Y := ⟨h.1, fun j hj hl => h.2 j (hC j hj) hl⟩
theorem KwB.below {B : Nat → Prop} {X Y : World} (h : Below X.heap.size X Y) : KwB B X Y := ⟨h.size, fun _ _ hl => h.block _ hl⟩
theorem KwB.kb {B : Nat → Prop} {X Y : World} {S : List Nat} (h : Kb X Y S) (hS : ∀ s ∈ S, ¬ B s) : KwB B X Y := ⟨h.size, fun j hj hl => h.block j hl fun hs => hS j hs hj⟩
theorem KwB.cell {B : Nat → Prop} {X Y : World} (h : KwB B X Y) {p : Addr} {v : Value} (hc : X.cell? p = some v) (hp : B p.block) : Y.cell? p = some v := by
  have hl := World.block_lt_of_cell? X p hc
  have e := h.2 p.block hp hl
  unfold World.cell? at hc ⊢
  rw [e]
  exact hc
/-- A row in such blocks. -/
def SlB {α : Type} (B : Nat → Prop) (E : Enc α) (W : World) (A : Option Addr) (xs : List α) : Prop := SlA E W A xs ∧ ∀ b o, A = some ⟨b, o, none⟩ → xs ≠ [] → B b
theorem SlB.kw {α : Type} {B : Nat → Prop} {E : Enc α} {W W' : World} {A : Option Addr} {xs : List α} (h : SlB B E W A xs) (hk : KwB B W W') : SlB B E W' A xs := by
  refine ⟨fun j x hx => ?_, h.2⟩
  obtain ⟨b, o, hA, hl, hc⟩ := h.1 j x hx
  have hb := h.2 b o hA fun e => by subst e; simp at hx
  exact ⟨b, o, hA, Nat.lt_of_lt_of_le hl hk.1, fun i u hu => hk.cell (hc i u hu) hb⟩
theorem SlB.weak {α : Type} {B C : Nat → Prop} {E : Enc α} {W : World} {A : Option Addr} {xs : List α} (h : SlB B E W A xs) (hC : ∀ k, k < W.heap.size → B k → C k) : SlB C E W A xs := by
  refine ⟨h.1, fun b o hA hx => hC _ ?_ (h.2 b o hA hx)⟩
  obtain ⟨x, l, rfl⟩ := List.exists_cons_of_ne_nil hx
  obtain ⟨b', o', hA', hl, _⟩ := h.1 0 x rfl
  rw [hA] at hA'
  injection hA' with hA'
  injection hA' with e
  subst e
  exact hl
theorem SlB.nil {α : Type} (B : Nat → Prop) (E : Enc α) (W : World) (A : Option Addr) : SlB B E W A [] := ⟨fun j x hx => by simp at hx, fun _ _ _ h => absurd rfl h⟩
/-- A row of rows. -/
def RwB {α : Type} (B : Nat → Prop) (E : Enc α) (W : World) (A : Option Addr) (ls : List (List α)) : Prop :=
  ∀ k l, ls[k]? = some l → ∃ b o Ak ck, A = some ⟨b, o, none⟩ ∧ B b ∧ W.cell? ⟨b, o + k, none⟩ = some (.slice Ak l.length ck) ∧ l.length ≤ ck ∧ ck ≤ 9223372036854775807 ∧ SlB B E W Ak l
theorem RwB.kw {α : Type} {B : Nat → Prop} {E : Enc α} {W W' : World} {A : Option Addr} {ls : List (List α)} (h : RwB B E W A ls) (hk : KwB B W W') : RwB B E W' A ls := fun k l hl => by
  obtain ⟨b, o, Ak, ck, h1, h2, h3, h4, h5, h6⟩ := h k l hl
  exact ⟨b, o, Ak, ck, h1, h2, hk.cell h3 h2, h4, h5, h6.kw hk⟩
theorem RwB.weak {α : Type} {B C : Nat → Prop} {E : Enc α} {W : World} {A : Option Addr} {ls : List (List α)} (h : RwB B E W A ls) (hC : ∀ k, k < W.heap.size → B k → C k) : RwB C E W A ls := fun k l hl => by
  obtain ⟨b, o, Ak, ck, h1, h2, h3, h4, h5, h6⟩ := h k l hl
  exact ⟨b, o, Ak, ck, h1, hC _ (World.block_lt_of_cell? _ _ h3) h2, h3, h4, h5, h6.weak hC⟩
theorem SlB.cell {B : Nat → Prop} {k : IntKind} {W : World} {A : Option Addr} {l : List Int} (h : SlB B (eInt k) W A l) (i : Nat) (hi : i < l.length) : ∃ b o, A = some ⟨b, o, none⟩ ∧ B b ∧ W.cell? ⟨b, o + i, none⟩ = some (.int k (nth l i)) := by
  obtain ⟨b, o, hA, hc⟩ := h.1.at1 (fun _ => rfl) (Below.refl _ _) i hi
  exact ⟨b, o, hA, h.2 b o hA (fun e => by subst e; simp at hi), by rw [nth_at hi]; exact hc⟩
theorem wpIn_cutN {F : Fence} {n : Nat} {P : Program} {c : Code} {a : Act} {w : World} {K : Act → World → Prop} {Q : Exit → Act → World → Prop} (R : Act → World → Prop) (h1 : ∀ a w, R a w → K a w) (h2 : c.wpIn F n P (Exit.then R fun _ _ _ => False) a w) : c.wpIn F n P (Exit.then K Q) a w :=
  wpIn_mono h2 fun e a w h => by
    cases e with
    | normal => exact h1 _ _ h
    | _ => exact h.elim
theorem wp_cutN {P : Program} {c : Code} {a : Act} {w : World} {K : Act → World → Prop} {Q : Exit → Act → World → Prop} (R : Act → World → Prop) (h1 : ∀ a w, R a w → K a w) (h2 : c.wp P (Exit.then R fun _ _ _ => False) a w) : c.wp P (Exit.then K Q) a w :=
  wp_mono h2 fun e a w h => by
    cases e with
    | normal => exact h1 _ _ h
    | _ => exact h.elim
theorem wp_cutG {P : Program} {c : Code} {a : Act} {w : World} {Q : Exit → Act → World → Prop} (R : Act → World → Prop) (h1 : ∀ a w, R a w → Q .normal a w) (h2 : c.wp P (Exit.then R fun _ _ _ => False) a w) : c.wp P Q a w :=
  wp_mono h2 fun e a w h => by
    cases e with
    | normal => exact h1 _ _ h
    | _ => exact h.elim
theorem SlA.one1 {k : IntKind} {W : World} {b o : Nat} {l : List Int} (h : SlA (eInt k) W (some ⟨b, o, none⟩) l) (i : Nat) (hi : i < l.length) : SlA (eInt k) W (some ⟨b, o + i, none⟩) [nth l i] := by
  have h2 := (h.drop i).take 1
  rw [take_one hi] at h2
  rw [show (eInt k).k = 1 from rfl, Nat.mul_one] at h2
  exact h2
/-! ### the grid, but for its prices -/
def sizL (xs : List T3) : List Int := xs.map fun b => (((decS b.f).getD []).length : Int)
def hitsK (xs : List T3) (T : List Int) (i : Nat) : List Nat := (List.range xs.length).filter fun k => decide (Stands (ruAt (rus xs) k).f T i)
def hitsI (xs : List T3) (T : List Int) (i : Nat) : List Int := (hitsK xs T i).map fun k : Nat => (k : Int)
def hitR (xs : List T3) (T : List Int) : List (List Int) := (List.range (T.length + 1)).map (hitsI xs T)
structure GridR (B : Nat → Prop) (W : World) (G : Nat) (xs : List T3) (T V : List Int) : Prop where
  g : B G
  l : ∃ A c, W.cell? ⟨G, 0, none⟩ = some (.slice A xs.length c) ∧ SlB B eT3 W A xs
  tos : ∃ A c, W.cell? ⟨G, 1, none⟩ = some (.slice A xs.length c) ∧ RwB B (eInt .i32) W A (tosL xs)
  size : ∃ A c, W.cell? ⟨G, 2, none⟩ = some (.slice A xs.length c) ∧ SlB B (eInt .i64) W A (sizL xs)
  t : ∃ A c, W.cell? ⟨G, 3, none⟩ = some (.slice A T.length c) ∧ T.length ≤ c ∧ c ≤ 9223372036854775807 ∧ SlB B (eInt .i32) W A T
  w : ∃ A c, W.cell? ⟨G, 4, none⟩ = some (.slice A V.length c) ∧ V.length ≤ c ∧ c ≤ 9223372036854775807 ∧ SlB B (eInt .i32) W A V
  hits : ∃ A c, W.cell? ⟨G, 5, none⟩ = some (.slice A (T.length + 1) c) ∧ RwB B (eInt .i64) W A (hitR xs T)
theorem GridR.kw {B : Nat → Prop} {W W' : World} {G : Nat} {xs : List T3} {T V : List Int} (h : GridR B W G xs T V) (hk : KwB B W W') : GridR B W' G xs T V := by
  obtain ⟨g, ⟨A0, c0, k0, l0⟩, ⟨A1, c1, k1, l1⟩, ⟨A2, c2, k2, l2⟩, ⟨A3, c3, k3, a3, b3, l3⟩, ⟨A4, c4, k4, a4, b4, l4⟩, ⟨A5, c5, k5, l5⟩⟩ := h
  exact ⟨g, ⟨A0, c0, hk.cell k0 g, l0.kw hk⟩, ⟨A1, c1, hk.cell k1 g, l1.kw hk⟩, ⟨A2, c2, hk.cell k2 g, l2.kw hk⟩, ⟨A3, c3, hk.cell k3 g, a3, b3, l3.kw hk⟩, ⟨A4, c4, hk.cell k4 g, a4, b4, l4.kw hk⟩, ⟨A5, c5, hk.cell k5 g, l5.kw hk⟩⟩
theorem GridR.weak {B C : Nat → Prop} {W : World} {G : Nat} {xs : List T3} {T V : List Int} (h : GridR B W G xs T V) (hC : ∀ k, k < W.heap.size → B k → C k) : GridR C W G xs T V := by
  obtain ⟨g, ⟨A0, c0, k0, l0⟩, ⟨A1, c1, k1, l1⟩, ⟨A2, c2, k2, l2⟩, ⟨A3, c3, k3, a3, b3, l3⟩, ⟨A4, c4, k4, a4, b4, l4⟩, ⟨A5, c5, k5, l5⟩⟩ := h
  exact ⟨hC _ (World.block_lt_of_cell? _ _ k0) g, ⟨A0, c0, k0, l0.weak hC⟩, ⟨A1, c1, k1, l1.weak hC⟩, ⟨A2, c2, k2, l2.weak hC⟩, ⟨A3, c3, k3, a3, b3, l3.weak hC⟩, ⟨A4, c4, k4, a4, b4, l4.weak hC⟩, ⟨A5, c5, k5, l5.weak hC⟩⟩
theorem sizL_at {xs : List T3} {k : Nat} (h : k < xs.length) : (sizL xs)[k]? = some ((ruAt (rus xs) k).f.length : Int) := by
  unfold sizL
  rw [List.getElem?_map, List.getElem?_eq_getElem h, rus_at h]; rfl
theorem tosL_at {xs : List T3} {k : Nat} (h : k < xs.length) : (tosL xs)[k]? = some (ruAt (rus xs) k).t := by
  unfold tosL
  rw [List.getElem?_map, List.getElem?_eq_getElem h, rus_at h]; rfl
theorem hitR_at {xs : List T3} {T : List Int} {i : Nat} (h : i ≤ T.length) : (hitR xs T)[i]? = some (hitsI xs T i) := by
  unfold hitR
  rw [List.getElem?_map, List.getElem?_range (by omega)]; rfl
theorem rulesP_hits (xs : List T3) (T V : List Int) (i j : Nat) : rulesP (rus xs) T V i j = (hitsK xs T i).filter fun k => decide (Stands (ruAt (rus xs) k).t V j) := by
  unfold rulesP hitsK
  rw [List.filter_filter, rus_len]
  exact List.filter_congr fun k _ => by rw [Bool.and_comm]
theorem ru_t_len {xs : List T3} (h : isE xs = 0) {k : Nat} (hk : k < xs.length) : (ruAt (rus xs) k).t.length ≤ 3 ∧ (ruAt (rus xs) k).f.length ≤ 3 := by
  obtain ⟨_, h2, _, h4, _⟩ := rchk_all ((isE_ok h).2 _ (List.getElem_mem hk))
  rw [rus_at hk]
  exact ⟨h4, h2⟩
/-! ### stands, behind, parts, told -/
set_option maxRecDepth 100000 in
set_option maxHeartbeats 1000000 in
theorem pstands_c {B : Nat → Prop} {G : Nat} {xs : List T3} {T V : List Int} (w : World) (hG : GridR B w G xs T V) (hV : V.length ≤ 64) (hI : isE xs = 0) (k j : Nat) (hk : k < xs.length) (hj : j ≤ V.length) :
    Calls Tryd.prog 57 #[.pointer (some ⟨G, 0, none⟩), .int .i64 k, .int .i64 j] w fun e w' => e = .returned (.bool (decide (Stands (ruAt (rus xs) k).t V j))) ∧ w' = w := by
  obtain ⟨A1, c1, k1, l1⟩ := hG.tos
  obtain ⟨A4, c4, k4, a4, b4, l4⟩ := hG.w
  obtain ⟨b, o, Ak, ck, rfl, _, q1, q2, q3, q4⟩ := l1 k _ (tosL_at hk)
  have hl3 := (ru_t_len hI hk).1
  have hk' : (k : Int) < xs.length := by omega
  generalize (ruAt (rus xs) k).t = f at *
  by_cases h1 : j + f.length ≤ V.length
  · have h1' : (j : Int) + f.length ≤ V.length := by omega
    have h2 : (j : Int) ≤ (j : Int) + f.length := by omega
    have h3 : (j : Int) + f.length ≤ c4 := by omega
    have Q4 := Lib.hid q4
    have L4 := Lib.hid l4
    clear q4 l4 l1
    go_enter Tryd.func57, Tryd.ntmps57
    go_wp2_with fail
    · have hf : f.length = 0 := by omega
      have hm0 : Hid (decide (Stands f V j) = decide (f = [])) := by
        show _ = _
        rw [List.eq_nil_of_length_eq_zero hf, Bool.eq_iff_iff]; simp [Stands]; omega
      have hcall := rcmp_c Ak A4 ck 0 f [] w Q4.out.1 SlA.nil (by omega) (by simp)
      rw [show ([] : List Int).length = f.length by simp [hf]] at hcall
      refine hcall.mono ?_
      rintro e w2 ⟨z, rfl, hz, rfl⟩
      have HZ : Hid ((z == 0) = decide (f = [])) := by show _ = _; rw [Bool.eq_iff_iff]; simp [hz]
      clear hz
      go_wp2
      go_ret
      exact ⟨by rw [hm0.out, ← HZ.out]; rfl, rfl⟩
    · obtain ⟨m, hmm⟩ : ∃ m, (V.drop j).take f.length = m := ⟨_, rfl⟩
      have hml : m.length = f.length := by rw [← hmm]; simp; omega
      have hm0 : Hid (decide (Stands f V j) = decide (f = m)) := by
        show _ = _
        rw [Bool.eq_iff_iff]
        simp only [decide_eq_true_eq]
        unfold Stands
        rw [hmm]
        exact ⟨fun h => h.2.symm, fun h => ⟨h1, h.symm⟩⟩
      have hcall := rcmp_c Ak (Option.map (fun x => x.add j) A4) ck (c4 - j) f m w Q4.out.1 (by rw [← hmm]; exact (L4.out.1.from j).take _) (by omega) (by omega)
      rw [hml] at hcall
      replace hml := Lib.hid hml
      refine hcall.mono ?_
      rintro e w2 ⟨z, rfl, hz, rfl⟩
      have HZ : Hid ((z == 0) = decide (f = m)) := by show _ = _; rw [Bool.eq_iff_iff]; simp [hz]
      clear hz
      go_wp2
      go_ret
      exact ⟨by rw [hm0.out, ← HZ.out]; rfl, rfl⟩
  · have h1' : ¬ (j : Int) + f.length ≤ V.length := by omega
    have HS : Hid (decide (Stands f V j) = false) := by
      show _ = _
      unfold Stands
      simp [h1]
    go_enter Tryd.func57, Tryd.ntmps57
    go_wp2
    go_ret
    exact ⟨by rw [HS.out]; rfl, rfl⟩
/-- What a part is, as a value. -/
def vPt (p : Pt) : Value := .agg #[.int .i64 p.f, .int .i64 p.t, .int .i64 p.c, .int .i64 p.k]
set_option maxRecDepth 100000 in
set_option maxHeartbeats 1000000 in
theorem behind_c (G cb rb : Nat) (n c m i j v : Nat) (p : Pt) (w : World) (h6 : w.cell? ⟨G, 6, none⟩ = some (.slice (some ⟨cb, 0, none⟩) (n + 1) c)) (hr : w.cell? ⟨cb, i + p.f, none⟩ = some (.slice (some ⟨rb, 0, none⟩) (m + 1) (m + 1))) (hv : w.cell? ⟨rb, j + p.t, none⟩ = some (.int .i64 v))
    (hi : i + p.f ≤ n) (hj : j + p.t ≤ m) (hn : n ≤ 64) (hm : m ≤ 64) (hc : p.c ≤ 255) (hvl : v ≤ 1073741824) :
    Calls Tryd.prog 30 #[.pointer (some ⟨G, 0, none⟩), .int .i64 i, .int .i64 j, vPt p] w fun e w' => e = .returned (.int .i64 (p.c + v : Nat)) ∧ Below w.heap.size w w' := by
  obtain ⟨f, t, k, q⟩ := p
  simp only at *
  unfold vPt
  obtain ⟨P, hP⟩ : ∃ P, i + f = P := ⟨_, rfl⟩
  obtain ⟨Q, hQ⟩ : ∃ Q, j + t = Q := ⟨_, rfl⟩
  obtain ⟨N, hN⟩ : ∃ N, n + 1 = N := ⟨_, rfl⟩
  obtain ⟨M, hM⟩ : ∃ M, m + 1 = M := ⟨_, rfl⟩
  have w1 : IntKind.i64.wrap ((i : Int) + f) = (P : Int) := by rw [IntWalk.i64_in _ (by omega)]; omega
  have w2 : IntKind.i64.wrap ((j : Int) + t) = (Q : Int) := by rw [IntWalk.i64_in _ (by omega)]; omega
  have w3 : IntKind.i64.wrap ((k : Int) + v) = (k : Int) + v := IntWalk.i64_in _ (by omega)
  have l1 : (P : Int) < N := by omega
  have l2 : (Q : Int) < M := by omega
  rw [hN] at h6
  rw [hP, hM] at hr
  rw [hQ] at hv
  clear hP hQ hN hM hi hj
  go_enter Tryd.func30, Tryd.ntmps30
  go_wp2_with fail
  have hbW : Below w.heap.size w (w.alloc (.cells #[.int .i64 f, .int .i64 t, .int .i64 k, .int .i64 q] 75)) := Bel
  have z0 : (w.alloc (.cells #[.int .i64 f, .int .i64 t, .int .i64 k, .int .i64 q] 75)).cell? ⟨w.heap.size, 0, none⟩ = some (.int .i64 f) := by simp [go_sem]
  have z1 : (w.alloc (.cells #[.int .i64 f, .int .i64 t, .int .i64 k, .int .i64 q] 75)).cell? ⟨w.heap.size, 1, none⟩ = some (.int .i64 t) := by simp [go_sem]
  have z2 : (w.alloc (.cells #[.int .i64 f, .int .i64 t, .int .i64 k, .int .i64 q] 75)).cell? ⟨w.heap.size, 2, none⟩ = some (.int .i64 k) := by simp [go_sem]
  generalize w.alloc (.cells #[.int .i64 f, .int .i64 t, .int .i64 k, .int .i64 q] 75) = W at hbW z0 z1 z2 ⊢
  have h6 := bkc hbW h6
  have hr := bkc hbW hr
  have hv := bkc hbW hv
  refine region_qtail 19 (by kernel_rfl) (by kernel_rfl) (fun W' => ∃ n, W' = World.drewN W n) ⟨1, rfl⟩ ?_
  simp only [List.take_succ_cons, List.take_zero, List.drop_succ_cons, List.drop_zero]
  repeat (quiet_step (fail))
  refine wpQuiet_nil ?_
  rintro _ ⟨nq, rfl⟩
  go_wp2
  go_ret
  exact ⟨rfl, Bdn hbW _⟩
end Go.Proofs.YtmpoihejacklnaaDoor
