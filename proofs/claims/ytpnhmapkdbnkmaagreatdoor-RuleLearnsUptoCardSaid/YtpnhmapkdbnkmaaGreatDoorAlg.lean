/- Alignments in plain Lean: how far two rows of runes are apart, the steps, the rows of steps that are no matches. No condition. -/
import Derived.Test.YtpnhmapkdbnkmaaGreatDoorK810
namespace Go.Proofs.YtpnhmapkdbnkmaaGreatDoor
open Go Go.RowKit
/-- A step. -/
structure St where
  k : Int
  a : Int
  b : Int
deriving DecidableEq
def eSt : Enc St := ⟨3, fun s => [.int .i64 s.k, .int .i32 s.a, .int .i32 s.b], fun _ => rfl, fun _ v hv => by simp at hv; rcases hv with rfl | rfl | rfl <;> rfl⟩
def nth (l : List Int) (i : Nat) : Int := l[i]?.getD 0
theorem nth_at {l : List Int} {i : Nat} (h : i < l.length) : nth l i = l[i] := by unfold nth; rw [List.getElem?_eq_getElem h]; rfl
def n01 (a b : List Int) (i j : Nat) : Nat := if nth a i = nth b j then 0 else 1
theorem n01_le (a b : List Int) (i j : Nat) : n01 a b i j ≤ 1 := by unfold n01; split <;> omega
theorem n01_eq {a b : List Int} {i j : Nat} : n01 a b i j = 0 ↔ nth a i = nth b j := by unfold n01; split <;> simp_all
theorem snoc_ind {α : Type} {p : List α → Prop} (h0 : p []) (h1 : ∀ l x, p l → p (l ++ [x])) (l : List α) : p l := by
  have h : ∀ m : List α, p m.reverse := fun m => by
    induction m with
    | nil => exact h0
    | cons x m ih => rw [List.reverse_cons]; exact h1 _ _ ih
  have := h l.reverse
  rwa [List.reverse_reverse] at this
/-- How many steps two beginnings are apart. -/
def dd (a b : List Int) : Nat → Nat → Nat
  | 0, j => j
  | i + 1, 0 => i + 1
  | i + 1, j + 1 => min (dd a b i j + n01 a b i j) (min (dd a b i (j + 1) + 1) (dd a b (i + 1) j + 1))
termination_by i j => i + j
theorem dd_zero (a b : List Int) (j : Nat) : dd a b 0 j = j := by rw [dd]
theorem dd_left (a b : List Int) (i : Nat) : dd a b i 0 = i := by cases i <;> rw [dd]
theorem dd_both (a b : List Int) (i j : Nat) : dd a b (i + 1) (j + 1) = min (dd a b i j + n01 a b i j) (min (dd a b i (j + 1) + 1) (dd a b (i + 1) j + 1)) := by rw [dd]
theorem dd_le (a b : List Int) : ∀ (n i j : Nat), i + j ≤ n → dd a b i j ≤ i + j
  | n, 0, j, _ => by rw [dd_zero]; omega
  | n, i + 1, 0, _ => by rw [dd_left]; omega
  | 0, i + 1, j + 1, h => by omega
  | n + 1, i + 1, j + 1, h => by
    rw [dd_both]
    have := dd_le a b n i (j + 1) (by omega)
    omega
/-- The last step's kind. -/
def kd (a b : List Int) (i j : Nat) : Nat :=
  if 0 < i ∧ 0 < j ∧ dd a b i j = dd a b (i - 1) (j - 1) + n01 a b (i - 1) (j - 1) then n01 a b (i - 1) (j - 1)
  else if 0 < i ∧ dd a b i j = dd a b (i - 1) j + 1 then 2 else 3
theorem kd_le (a b : List Int) (i j : Nat) : kd a b i j ≤ 3 := by
  have := n01_le a b (i - 1) (j - 1)
  unfold kd
  split
  · omega
  · split <;> omega
theorem kd_two {a b : List Int} {i j : Nat} (h : kd a b i j = 2) : 0 < i := by
  have := n01_le a b (i - 1) (j - 1)
  unfold kd at h
  split at h
  · omega
  · split at h
    · rename_i h2; exact h2.1
    · omega
theorem kd_low {a b : List Int} {i j : Nat} (h : kd a b i j < 2) : 0 < i ∧ 0 < j := by
  unfold kd at h
  split at h
  · rename_i h1; exact ⟨h1.1, h1.2.1⟩
  · split at h <;> omega
theorem kd_three {a b : List Int} {i j : Nat} (hij : 0 < i + j) (h : kd a b i j = 3) : 0 < j := by
  rcases Nat.eq_zero_or_pos j with h0 | h0
  · subst h0
    obtain ⟨i, rfl⟩ : ∃ i', i = i' + 1 := ⟨i - 1, by omega⟩
    unfold kd at h
    rw [if_neg (by omega), if_pos ⟨by omega, by rw [dd_left, dd_left]; omega⟩] at h
    omega
  · exact h0
theorem kd_eq {a b : List Int} {i j : Nat} : (kd a b i j = 0 → nth a (i - 1) = nth b (j - 1)) ∧ (kd a b i j = 1 → nth a (i - 1) ≠ nth b (j - 1)) := by
  unfold kd
  constructor
  · intro h
    split at h
    · exact n01_eq.1 h
    · split at h <;> omega
  · intro h
    split at h
    · exact fun e => by have := n01_eq.2 e; omega
    · split at h <;> omega
/-- The steps from the end on. -/
def backN (a b : List Int) : Nat → Nat → Nat → List St
  | 0, _, _ => []
  | n + 1, i, j =>
    if i + j = 0 then []
    else if kd a b i j < 2 then ⟨kd a b i j, nth a (i - 1), nth b (j - 1)⟩ :: backN a b n (i - 1) (j - 1)
    else if kd a b i j = 2 then ⟨2, nth a (i - 1), 0⟩ :: backN a b n (i - 1) j
    else ⟨3, 0, nth b (j - 1)⟩ :: backN a b n i (j - 1)
theorem backN_more (a b : List Int) : ∀ (n m i j : Nat), i + j ≤ n → i + j ≤ m → backN a b n i j = backN a b m i j
  | 0, 0, _, _, _, _ => rfl
  | 0, m + 1, i, j, h, _ => by simp [backN, show i = 0 by omega, show j = 0 by omega]
  | n + 1, 0, i, j, _, h => by simp [backN, show i = 0 by omega, show j = 0 by omega]
  | n + 1, m + 1, i, j, h1, h2 => by
    unfold backN
    split
    · rfl
    · rename_i h0
      split
      · rename_i h; have := kd_low h; rw [backN_more a b n m (i - 1) (j - 1) (by omega) (by omega)]
      · split
        · rename_i h; have := kd_two h; rw [backN_more a b n m (i - 1) j (by omega) (by omega)]
        · rename_i h3 h4
          have h5 := kd_le a b i j
          have := kd_three (a := a) (b := b) (i := i) (j := j) (by omega) (by omega)
          rw [backN_more a b n m i (j - 1) (by omega) (by omega)]
def backL (a b : List Int) (i j : Nat) : List St := backN a b (i + j) i j
theorem backL_nil (a b : List Int) : backL a b 0 0 = [] := rfl
theorem backL_low {a b : List Int} {i j : Nat} (h : kd a b i j < 2) : backL a b i j = ⟨kd a b i j, nth a (i - 1), nth b (j - 1)⟩ :: backL a b (i - 1) (j - 1) := by
  obtain ⟨h1, h2⟩ := kd_low h
  unfold backL
  obtain ⟨n, hn⟩ : ∃ n, i + j = n + 1 := ⟨i + j - 1, by omega⟩
  rw [hn]
  conv => lhs; unfold backN
  rw [if_neg (by omega), if_pos h, backN_more a b n (i - 1 + (j - 1)) _ _ (by omega) (by omega)]
theorem backL_two {a b : List Int} {i j : Nat} (h : kd a b i j = 2) : backL a b i j = ⟨2, nth a (i - 1), 0⟩ :: backL a b (i - 1) j := by
  have h1 := kd_two h
  unfold backL
  obtain ⟨n, hn⟩ : ∃ n, i + j = n + 1 := ⟨i + j - 1, by omega⟩
  rw [hn]
  conv => lhs; unfold backN
  rw [if_neg (by omega), if_neg (by omega), if_pos h, backN_more a b n (i - 1 + j) _ _ (by omega) (by omega)]
theorem backL_three {a b : List Int} {i j : Nat} (hij : 0 < i + j) (h : kd a b i j = 3) : backL a b i j = ⟨3, 0, nth b (j - 1)⟩ :: backL a b i (j - 1) := by
  have h1 := kd_three hij h
  unfold backL
  obtain ⟨n, hn⟩ : ∃ n, i + j = n + 1 := ⟨i + j - 1, by omega⟩
  rw [hn]
  conv => lhs; unfold backN
  rw [if_neg (by omega), if_neg (by omega), if_neg (by omega), backN_more a b n (i + (j - 1)) _ _ (by omega) (by omega)]
theorem backN_len (a b : List Int) : ∀ (n i j : Nat), (backN a b n i j).length ≤ n
  | 0, _, _ => by simp [backN]
  | n + 1, i, j => by
    unfold backN
    have h1 := backN_len a b n (i - 1) (j - 1)
    have h2 := backN_len a b n (i - 1) j
    have h3 := backN_len a b n i (j - 1)
    split
    · simp
    · split
      · simp only [List.length_cons]; omega
      · split <;> simp only [List.length_cons] <;> omega
theorem backL_len (a b : List Int) (i j : Nat) : (backL a b i j).length ≤ i + j := backN_len a b _ i j
/-- May a step be? -/
def MayS (s : St) : Prop := IsR s.a ∧ IsR s.b ∧ ((s.k = 0 ∧ s.a = s.b) ∨ (s.k = 1 ∧ s.a ≠ s.b) ∨ (s.k = 2 ∧ s.b = 0) ∨ (s.k = 3 ∧ s.a = 0))
theorem nth_isR {l : List Int} (h : ∀ r ∈ l, IsR r) (i : Nat) : IsR (nth l i) := by
  unfold nth
  cases hi : l[i]? with
  | none => exact by unfold IsR; decide
  | some x => exact h x (List.mem_of_getElem? hi)
theorem backN_may {a b : List Int} (ha : ∀ r ∈ a, IsR r) (hb : ∀ r ∈ b, IsR r) : ∀ (n i j : Nat), ∀ s ∈ backN a b n i j, MayS s
  | 0, _, _, s, hs => by cases hs
  | n + 1, i, j, s, hs => by
    have h0 : IsR 0 := by unfold IsR; decide
    unfold backN at hs
    split at hs
    · cases hs
    · split at hs
      · rename_i hk
        rcases List.mem_cons.1 hs with rfl | hs
        · refine ⟨nth_isR ha _, nth_isR hb _, ?_⟩
          have hq := @kd_eq a b i j
          rcases Nat.lt_or_ge (kd a b i j) 1 with h1 | h1
          · exact .inl ⟨by show ((kd a b i j : Nat) : Int) = 0; omega, hq.1 (by omega)⟩
          · exact .inr (.inl ⟨by show ((kd a b i j : Nat) : Int) = 1; omega, hq.2 (by omega)⟩)
        · exact backN_may ha hb n _ _ s hs
      · split at hs
        · rcases List.mem_cons.1 hs with rfl | hs
          · exact ⟨nth_isR ha _, h0, .inr (.inr (.inl ⟨rfl, rfl⟩))⟩
          · exact backN_may ha hb n _ _ s hs
        · rcases List.mem_cons.1 hs with rfl | hs
          · exact ⟨h0, nth_isR hb _, .inr (.inr (.inr ⟨rfl, rfl⟩))⟩
          · exact backN_may ha hb n _ _ s hs
/-- The steps. -/
def stepsL (a b : List Int) : List St := (backL a b a.length b.length).reverse
theorem stepsL_len (a b : List Int) : (stepsL a b).length ≤ a.length + b.length := by unfold stepsL; rw [List.length_reverse]; exact backL_len _ _ _ _
theorem stepsL_may {a b : List Int} (ha : ∀ r ∈ a, IsR r) (hb : ∀ r ∈ b, IsR r) : ∀ s ∈ stepsL a b, MayS s := fun s hs => by
  unfold stepsL at hs
  exact backN_may ha hb _ _ _ s (List.mem_reverse.1 hs)
/-! ### what steps are of -/
def leftR (l : List St) : List Int := (l.filter fun s => decide (s.k ≠ 3)).map (·.a)
def rightR (l : List St) : List Int := (l.filter fun s => decide (s.k ≠ 2)).map (·.b)
theorem leftR_cons (s : St) (l : List St) : leftR (s :: l) = (if s.k = 3 then [] else [s.a]) ++ leftR l := by
  unfold leftR
  by_cases h : s.k = 3 <;> simp [h]
theorem rightR_cons (s : St) (l : List St) : rightR (s :: l) = (if s.k = 2 then [] else [s.b]) ++ rightR l := by
  unfold rightR
  by_cases h : s.k = 2 <;> simp [h]
theorem leftR_snoc (s : St) (l : List St) : leftR (l ++ [s]) = leftR l ++ if s.k = 3 then [] else [s.a] := by
  unfold leftR
  rw [List.filter_append, List.map_append]
  by_cases h : s.k = 3 <;> simp [h]
theorem rightR_snoc (s : St) (l : List St) : rightR (l ++ [s]) = rightR l ++ if s.k = 2 then [] else [s.b] := by
  unfold rightR
  rw [List.filter_append, List.map_append]
  by_cases h : s.k = 2 <;> simp [h]
theorem leftR_len (l : List St) : (leftR l).length ≤ l.length := by unfold leftR; rw [List.length_map]; exact List.length_filter_le _ _
theorem rightR_len (l : List St) : (rightR l).length ≤ l.length := by unfold rightR; rw [List.length_map]; exact List.length_filter_le _ _
/-! ### the rows of steps that are no matches -/
def rowAdd (R : List (List St) × Bool) (s : St) : List (List St) × Bool :=
  if s.k = 0 then (R.1, true) else if R.2 = true then (R.1 ++ [[s]], false) else (R.1.dropLast ++ [R.1.getLast?.getD [] ++ [s]], false)
def rowsS (l : List St) : List (List St) × Bool := l.foldl rowAdd ([], true)
def rowsL (l : List St) : List (List St) := (rowsS l).1
theorem rowsS_snoc (l : List St) (s : St) : rowsS (l ++ [s]) = rowAdd (rowsS l) s := by unfold rowsS; rw [List.foldl_append]; rfl
theorem rowsS_flag (l : List St) (s : St) : (rowsS (l ++ [s])).2 = decide (s.k = 0) := by
  rw [rowsS_snoc]
  unfold rowAdd
  by_cases h : s.k = 0
  · rw [if_pos h]; simp [h]
  · rw [if_neg h]; split <;> simp [h]
theorem rowsS_run {l : List St} (h : (rowsS l).2 = true) (s : St) : ∀ m : List St, s.k ≠ 0 → (∀ x ∈ m, x.k ≠ 0) → rowsS (l ++ s :: m) = ((rowsS l).1 ++ [s :: m], false) := by
  refine snoc_ind (fun hs _ => ?_) (fun m x ih hs hm => ?_)
  · rw [rowsS_snoc]
    unfold rowAdd
    rw [if_neg hs, if_pos h]
  · have h1 := ih hs fun y hy => hm y (by simp [hy])
    have h2 : l ++ s :: (m ++ [x]) = (l ++ s :: m) ++ [x] := by simp
    rw [h2, rowsS_snoc, h1]
    unfold rowAdd
    rw [if_neg (hm x (by simp))]
    simp
theorem rowsL_ok (l : List St) : ((rowsS l).2 = false → rowsL l ≠ []) ∧ (rowsL l).length ≤ l.length ∧ ∀ r ∈ rowsL l, r ≠ [] ∧ r.length ≤ l.length ∧ ∀ s ∈ r, s ∈ l ∧ s.k ≠ 0 := by
  refine snoc_ind (p := fun l => ((rowsS l).2 = false → rowsL l ≠ []) ∧ (rowsL l).length ≤ l.length ∧ ∀ r ∈ rowsL l, r ≠ [] ∧ r.length ≤ l.length ∧ ∀ s ∈ r, s ∈ l ∧ s.k ≠ 0) ⟨by simp [rowsS], by simp [rowsL, rowsS], by simp [rowsL, rowsS]⟩ (fun l x ih => ?_) l
  · obtain ⟨ih1, ih2, ih3⟩ := ih
    unfold rowsL at *
    rw [rowsS_snoc]
    unfold rowAdd
    by_cases hx : x.k = 0
    · rw [if_pos hx]
      refine ⟨by simp, by simp; omega, fun r hr => ?_⟩
      obtain ⟨h1, h2, h3⟩ := ih3 r hr
      exact ⟨h1, by simp; omega, fun s hs => ⟨by simp [(h3 s hs).1], (h3 s hs).2⟩⟩
    · rw [if_neg hx]
      split
      · refine ⟨by simp, by simp; omega, fun r hr => ?_⟩
        rcases List.mem_append.1 hr with hr | hr
        · obtain ⟨h1, h2, h3⟩ := ih3 r hr
          exact ⟨h1, by simp; omega, fun s hs => ⟨by simp [(h3 s hs).1], (h3 s hs).2⟩⟩
        · obtain rfl : r = [x] := by simpa using hr
          exact ⟨by simp, by simp, fun s hs => by obtain rfl : s = x := (by simpa using hs); exact ⟨by simp, hx⟩⟩
      · rename_i hf
        have hne := ih1 (by simpa using hf)
        obtain ⟨q, z, hz⟩ : ∃ q z, (rowsS l).1 = q ++ [z] := ⟨_, _, (List.dropLast_concat_getLast hne).symm⟩
        rw [hz] at ih2 ih3 ⊢
        simp only [List.dropLast_concat, List.getLast?_append, List.getLast?_singleton, Option.some_or, Option.getD_some]
        refine ⟨by simp, by simp at ih2 ⊢; omega, fun r hr => ?_⟩
        rcases List.mem_append.1 hr with hr | hr
        · obtain ⟨h1, h2, h3⟩ := ih3 r (by simp [hr])
          exact ⟨h1, by simp; omega, fun s hs => ⟨by simp [(h3 s hs).1], (h3 s hs).2⟩⟩
        · obtain rfl : r = z ++ [x] := by simpa using hr
          obtain ⟨h1, h2, h3⟩ := ih3 z (by simp)
          refine ⟨by simp, by simp; omega, fun s hs => ?_⟩
          rcases List.mem_append.1 hs with hs | hs
          · exact ⟨by simp [(h3 s hs).1], (h3 s hs).2⟩
          · obtain rfl : s = x := by simpa using hs
            exact ⟨by simp, hx⟩
end Go.Proofs.YtpnhmapkdbnkmaaGreatDoor
