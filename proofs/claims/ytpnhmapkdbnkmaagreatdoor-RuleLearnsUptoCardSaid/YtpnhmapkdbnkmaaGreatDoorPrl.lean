/- The blocks of pairs in plain Lean: what two tokens teach, the first error. No condition. -/
import Derived.Test.YtpnhmapkdbnkmaaGreatDoorAlg
import Derived.Test.YtpnhmapkdbnkmaaGreatDoorTk1
namespace Go.Proofs.YtpnhmapkdbnkmaaGreatDoor
open Go Go.RowKit
/-- Two strings. -/
structure P2 where
  n : ByteArray
  t : ByteArray
def eP2 : Enc P2 := ⟨2, fun p => [.string p.n, .string p.t], fun _ => rfl, fun _ v hv => by simp at hv; rcases hv with rfl | rfl <;> rfl⟩
def blkOk (r : List St) : Bool := decide ((leftR r).length ≤ 3) && (decide ((rightR r).length ≤ 3) && !decide (txt (leftR r) = txt (rightR r)))
def blkOf (r : List St) : T3 := ⟨txt (leftR r), txt (rightR r), 1⟩
def blksR (rs : List (List St)) : List T3 := (rs.filter blkOk).map blkOf
def blksL (l : List St) : List T3 := blksR (rowsL l)
theorem blksR_app (a b : List (List St)) : blksR (a ++ b) = blksR a ++ blksR b := by unfold blksR; rw [List.filter_append, List.map_append]
theorem blksR_one (r : List St) : blksR [r] = if blkOk r = true then [blkOf r] else [] := by
  unfold blksR
  by_cases h : blkOk r = true
  · rw [if_pos h, List.filter_cons_of_pos h]; rfl
  · rw [if_neg h, List.filter_cons_of_neg h]; rfl
theorem blksR_len (rs : List (List St)) : (blksR rs).length ≤ rs.length := by unfold blksR; rw [List.length_map]; exact List.length_filter_le _ _
def pairE (p : P2) : Int := if tkE p.n = 0 then tkE p.t else tkE p.n
def pairB (p : P2) : List T3 := blksL (stepsL ((decS p.n).getD []) ((decS p.t).getD []))
def pairsE : List P2 → Int
  | [] => 0
  | p :: l => if pairE p = 0 then pairsE l else pairE p
def pairsB (l : List P2) : List T3 := l.flatMap pairB
theorem pairsB_snoc (l : List P2) (p : P2) : pairsB (l ++ [p]) = pairsB l ++ pairB p := by unfold pairsB; rw [List.flatMap_append]; simp
theorem pairsE_zero (l : List P2) : pairsE l = 0 ↔ ∀ p ∈ l, pairE p = 0 := by
  induction l with
  | nil => simp [pairsE]
  | cons p l ih =>
    unfold pairsE
    by_cases h : pairE p = 0
    · rw [if_pos h, ih]; simp [h]
    · rw [if_neg h]; simp [h]
theorem pairE_ok {p : P2} (h : pairE p = 0) : tkE p.n = 0 ∧ tkE p.t = 0 := by
  unfold pairE at h
  by_cases h0 : tkE p.n = 0
  · rw [if_pos h0] at h; exact ⟨h0, h⟩
  · rw [if_neg h0] at h; exact absurd h h0
theorem pairE_small (p : P2) : 0 ≤ pairE p ∧ pairE p ≤ 10 := by unfold pairE; split <;> exact tkE_small _
theorem pairsE_small (l : List P2) : 0 ≤ pairsE l ∧ pairsE l ≤ 10 := by
  induction l with
  | nil => decide
  | cons p l ih =>
    unfold pairsE
    split
    · exact ih
    · exact pairE_small p
theorem txt_size (l : List Int) : (txt l).size ≤ l.length * 4 := by
  have := (encT_len l).2
  show (encT l).toArray.size ≤ _
  simpa using this
theorem pairB_small {p : P2} (h : pairE p = 0) : (pairB p).length ≤ 128 ∧ ∀ b ∈ pairB p, b.f.size ≤ 512 ∧ b.t.size ≤ 512 := by
  obtain ⟨h1, h2⟩ := pairE_ok h
  obtain ⟨a, ha, _, ha2⟩ := tkE_ok h1
  obtain ⟨c, hc, _, hc2⟩ := tkE_ok h2
  unfold pairB
  rw [ha, hc]
  simp only [Option.getD_some]
  have hl := stepsL_len a c
  obtain ⟨_, k2, k3⟩ := rowsL_ok (stepsL a c)
  refine ⟨Nat.le_trans (blksR_len _) (by omega), fun b hb => ?_⟩
  obtain ⟨r, hr, rfl⟩ := List.mem_map.1 hb
  obtain ⟨_, hr2, _⟩ := k3 r (List.mem_filter.1 hr).1
  have e1 := leftR_len r
  have e2 := rightR_len r
  have e3 := txt_size (leftR r)
  have e4 := txt_size (rightR r)
  exact ⟨by show (txt (leftR r)).size ≤ 512; omega, by show (txt (rightR r)).size ≤ 512; omega⟩
theorem pairsB_len : ∀ {l : List P2}, (∀ p ∈ l, pairE p = 0) → (pairsB l).length ≤ l.length * 128
  | [], _ => by simp [pairsB]
  | p :: l, h => by
    have h1 := pairsB_len (l := l) fun q hq => h q (by simp [hq])
    have h2 := (pairB_small (h p (by simp))).1
    unfold pairsB at *
    rw [List.flatMap_cons, List.length_append, List.length_cons, Nat.add_mul]
    omega
theorem pairsB_small {l : List P2} (h : pairsE l = 0) (hl : l.length ≤ 100) : Small (pairsB l) := by
  have h1 := (pairsE_zero l).1 h
  have h2 := pairsB_len h1
  refine ⟨by omega, fun b hb => ?_⟩
  obtain ⟨p, hp, hb⟩ := List.mem_flatMap.1 hb
  obtain ⟨k1, k2⟩ := (pairB_small (h1 p hp)).2 b hb
  omega
/-! ### a pair that is the same teaches nothing -/
theorem dd_same (a : List Int) : ∀ i, dd a a i i = 0
  | 0 => dd_zero a a 0
  | i + 1 => by
    have h1 := dd_same a i
    have h2 : n01 a a i i = 0 := n01_eq.2 rfl
    rw [dd_both, h1, h2]; omega
theorem kd_same (a : List Int) (i : Nat) (hi : 0 < i) : kd a a i i = 0 := by
  have h2 : n01 a a (i - 1) (i - 1) = 0 := n01_eq.2 rfl
  unfold kd
  rw [if_pos ⟨hi, hi, by rw [dd_same, dd_same, h2]⟩, h2]
theorem back_same (a : List Int) : ∀ i, ∀ s ∈ backL a a i i, s.k = 0
  | 0, s, hs => by rw [backL_nil] at hs; cases hs
  | i + 1, s, hs => by
    have hk := kd_same a (i + 1) (by omega)
    rw [backL_low (by omega), Nat.add_sub_cancel] at hs
    rcases List.mem_cons.1 hs with rfl | hs
    · show ((kd a a (i + 1) (i + 1) : Nat) : Int) = 0
      omega
    · exact back_same a i s hs
theorem rows_same (l : List St) : (∀ s ∈ l, s.k = 0) → rowsS l = ([], true) := by
  refine snoc_ind (p := fun l => (∀ s ∈ l, s.k = 0) → rowsS l = ([], true)) (fun _ => rfl) (fun l x ih h => ?_) l
  rw [rowsS_snoc, ih fun s hs => h s (by simp [hs])]
  unfold rowAdd
  rw [if_pos (h x (by simp))]
theorem pairB_same (t : ByteArray) : pairB ⟨t, t⟩ = [] := by
  show blksR (rowsS (stepsL ((decS t).getD []) ((decS t).getD []))).1 = []
  have h := rows_same (stepsL ((decS t).getD []) ((decS t).getD [])) fun s hs => back_same _ _ s (List.mem_reverse.1 hs)
  rw [h]
  rfl
end Go.Proofs.YtpnhmapkdbnkmaaGreatDoor
