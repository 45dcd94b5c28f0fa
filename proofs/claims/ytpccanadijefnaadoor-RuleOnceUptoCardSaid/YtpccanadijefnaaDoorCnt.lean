/- Tables of blocks: whether one may be, how many there are; program and reference alike. No condition. -/
import Derived.Test.YtpccanadijefnaaDoorBlk
namespace Go.Proofs.YtpccanadijefnaaDoor
open Go.RowKit
def eachT : List T3 → Int
  | [] => 0
  | b :: l => if bchk b = 0 then eachT l else bchk b
theorem each_drop (xs : List T3) (k : Nat) (h : k < xs.length) : eachT (xs.drop k) = if bchk xs[k] = 0 then eachT (xs.drop (k + 1)) else bchk xs[k] := by
  rw [List.drop_eq_getElem_cons h]; rfl
/-- The texts are as long as the second form lets them be. -/
def Small (l : List T3) : Prop := l.length ≤ 1048576 ∧ ∀ b ∈ l, b.f.size ≤ 1048576 ∧ b.t.size ≤ 1048576
theorem Small.at {l : List T3} (h : Small l) (k : Nat) (hk : k < l.length) : l[k].f.size ≤ 1048576 ∧ l[k].t.size ≤ 1048576 := h.2 _ (List.getElem_mem hk)
set_option maxHeartbeats 1000000 in
set_option maxRecDepth 100000 in
theorem each_c (A : Option Addr) (c : Nat) (xs : List T3) (w : World) (hU : U w) (hs : SlA eT3 w A xs) (hm : Small xs) :
    Calls Tryd.prog 80 #[.slice A xs.length c] w (Ret w (.int .i64 (eachT xs))) := by
  have hl := hm.1
  have HU := Lib.hid hU
  clear hU
  go_enter Tryd.func80, Tryd.ntmps80
  go_wp2
  go_loopw [4, 5, 8] (fun _ _ i wr => ∃ k : Nat, k ≤ xs.length ∧ i = .int .i64 k ∧ Hid (eachT (xs.drop k) = eachT xs) ∧ Below w.heap.size w wr) (fun _ _ i _ => xs.length - (intOf i).toNat)
  case atStart => exact ⟨0, by omega, rfl, rfl, Bel⟩
  case round =>
    obtain ⟨k, hk, rfl, HE, hb⟩ := hrel
    by_cases hlt : k < xs.length
    · obtain ⟨b, o, rfl, c1, c2, c3⟩ := hs.at3 (fun _ => rfl) hb k hlt
      have hd := each_drop xs k hlt
      obtain ⟨z1, z2⟩ := hm.at k hlt
      by_cases hz : bchk xs[k] = 0
      · rw [if_pos hz] at hd
        have HD := Lib.hid hd; have HZ := Lib.hid hz
        clear hd hz
        go_wp2_with (go_at_call 73; refine (bchk_c xs[k] _ (HU.out.to Bel) (by omega) (by omega)).mono ?_; rintro e w2 ⟨rfl, hb2⟩; rw [HZ.out])
        go_roundw
        case rel => exact ⟨k + 1, by omega, by go_num, HD.out.symm.trans HE.out, Bel⟩
        case measure => simp [intOf]; omega
      · rw [if_neg hz] at hd
        have hn : (bchk xs[k] != 0) = true := by simp [hz]
        have HD := Lib.hid hd
        clear hd hz
        go_wp2_with (go_at_call 73; refine (bchk_c xs[k] _ (HU.out.to Bel) (by omega) (by omega)).mono ?_; rintro e w2 ⟨rfl, hb2⟩)
        go_ret
        exact ⟨ret_int (HD.out.symm.trans HE.out), Bel⟩
    · go_wp2
      go_ret
      exact ⟨ret_int (by have h := HE.out; rw [List.drop_of_length_le (by omega)] at h; exact h), Bel⟩
def sumT (l : List T3) : Int := (l.map (·.n)).sum
theorem sum_take (l : List T3) (k : Nat) (h : k < l.length) : sumT (l.take (k + 1)) = sumT (l.take k) + l[k].n := by
  unfold sumT; rw [List.take_succ_eq_append_getElem h, List.map_append, List.sum_append]; simp
theorem sum_nonneg (l : List T3) (h : ∀ b ∈ l, 0 ≤ b.n) : 0 ≤ sumT l := by
  unfold sumT
  induction l with
  | nil => simp
  | cons b l ih =>
    have h1 := h b (by simp)
    have h2 := ih fun x hx => h x (by simp [hx])
    simp only [List.map_cons, List.sum_cons]; omega
theorem sum_take_le (l : List T3) (k : Nat) (h : ∀ b ∈ l, 0 ≤ b.n) : sumT (l.take k) ≤ sumT l := by
  have h1 : sumT l = sumT (l.take k) + sumT (l.drop k) := by unfold sumT; rw [← List.sum_append, ← List.map_append, List.take_append_drop]
  have h2 := sum_nonneg (l.drop k) fun b hb => h b (List.mem_of_mem_drop hb)
  omega
theorem sum_le (l : List T3) (M : Int) (h : ∀ b ∈ l, b.n ≤ M) : sumT l ≤ l.length * M := by
  unfold sumT
  induction l with
  | nil => simp
  | cons b l ih =>
    have h1 := h b (by simp)
    have h2 := ih fun x hx => h x (by simp [hx])
    simp only [List.map_cons, List.sum_cons, List.length_cons]
    have : ((l.length + 1 : Nat) : Int) * M = l.length * M + M := by push_cast; rw [Int.add_mul]; omega
    omega
/-- What 'sum' hands back. -/
def sumV (l : List T3) : Value := if sumT l ≤ 1073741824 then .tuple #[.int .i64 (sumT l), .bool true] else .tuple #[.int .i64 0, .bool false]
set_option maxHeartbeats 1000000 in
set_option maxRecDepth 100000 in
theorem sum_c (A : Option Addr) (c : Nat) (xs : List T3) (w : World) (hs : SlA eT3 w A xs) (hl : xs.length ≤ 9223372036854775807) (hn : ∀ b ∈ xs, 0 ≤ b.n ∧ b.n ≤ 2147483648) :
    Calls Tryd.prog 81 #[.slice A xs.length c] w (Ret w (sumV xs)) := by
  have HN := Lib.hid hn
  clear hn
  go_enter Tryd.func81, Tryd.ntmps81
  go_wp2
  go_loopw [2, 5, 8] (fun s _ i wr => ∃ k : Nat, k ≤ xs.length ∧ i = .int .i64 k ∧ s = .int .i64 (sumT (xs.take k)) ∧ 0 ≤ sumT (xs.take k) ∧ sumT (xs.take k) ≤ 1073741824 ∧ Below w.heap.size w wr) (fun _ _ i _ => xs.length - (intOf i).toNat)
  case atStart => exact ⟨0, by omega, rfl, rfl, by simp [sumT], by simp [sumT], Bel⟩
  case round =>
    obtain ⟨k, hk, rfl, rfl, hs0, hs1, hb⟩ := hrel
    by_cases hlt : k < xs.length
    · obtain ⟨b, o, rfl, c1, c2, c3⟩ := hs.at3 (fun _ => rfl) hb k hlt
      have HD := Lib.hid (sum_take xs k hlt)
      obtain ⟨n0, n1⟩ := HN.out _ (List.getElem_mem hlt)
      by_cases hz : 1073741824 < sumT (xs.take k) + xs[k].n
      · have HV : Hid (sumV xs = .tuple #[.int .i64 0, .bool false]) := by
          have h1 := sum_take_le xs (k + 1) fun b hb => (HN.out b hb).1
          rw [HD.out] at h1
          unfold sumV; rw [if_neg (by omega)]; rfl
        go_wp2
        go_ret2
        exact ⟨by rw [HV.out]; rfl, Bel⟩
      · go_wp2
        go_roundw
        case rel => exact ⟨k + 1, by omega, by go_num, by rw [HD.out], by rw [HD.out]; omega, by rw [HD.out]; omega, Bel⟩
        case measure => simp [intOf]; omega
    · have ht : sumT (xs.take k) = sumT xs := by rw [List.take_of_length_le (by omega)]
      have HV : Hid (sumV xs = .tuple #[.int .i64 (sumT (xs.take k)), .bool true]) := by unfold sumV; rw [if_pos (by omega), ht]; rfl
      clear ht
      go_wp2
      go_ret2
      exact ⟨by rw [HV.out]; rfl, Bel⟩
/-- Rising. -/
def riseT : List T3 → Bool
  | a :: b :: l => ltT a b && riseT (b :: l)
  | _ => true
theorem rise_iff : ∀ (l : List T3), riseT l = true ↔ ∀ i (h : i + 1 < l.length), ltT l[i] l[i + 1] = true
  | [] => by simp [riseT]
  | [a] => by simp [riseT]
  | a :: b :: l => by
    simp only [riseT, Bool.and_eq_true]
    rw [rise_iff (b :: l)]
    constructor
    · rintro ⟨h1, h2⟩ i hi
      cases i with
      | zero => exact h1
      | succ i => exact h2 i (by simpa using hi)
    · intro h
      exact ⟨h 0 (by simp), fun i hi => h (i + 1) (by simpa using hi)⟩
/-- Whether a table may be. -/
def tchk (l : List T3) : Int := if eachT l ≠ 0 then eachT l else if riseT l = false then 7 else if 1073741824 < sumT l ∨ 4096 < l.length then 6 else 0
theorem bchk_n (b : T3) (h : bchk b = 0) : 1 ≤ b.n ∧ b.n ≤ 1073741824 := by
  unfold bchk at h
  repeat' split at h
  all_goals first | omega | (rename_i h1; omega)
theorem each_all : ∀ (l : List T3), eachT l = 0 ↔ ∀ b ∈ l, bchk b = 0
  | [] => by simp [eachT]
  | b :: l => by
    unfold eachT
    by_cases h : bchk b = 0
    · rw [if_pos h, each_all l]; simp [h]
    · rw [if_neg h]; simp [h]
end Go.Proofs.YtpccanadijefnaaDoor
