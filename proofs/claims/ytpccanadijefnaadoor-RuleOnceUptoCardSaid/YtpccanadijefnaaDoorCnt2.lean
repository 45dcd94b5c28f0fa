/- count.Check and count.Total, and the reference's: one function of the table. No condition. -/
import Derived.Test.YtpccanadijefnaaDoorCnt
namespace Go.Proofs.YtpccanadijefnaaDoor
open Go.RowKit
theorem cmp3 (a b : T3) : ∃ z : Int, Hid ((if ltT a b = true then (-1 : Int) else if ltT b a = true then 1 else 0) = z) ∧ ((ltT a b = true ∧ z = -1) ∨ (ltT a b = false ∧ (z = 0 ∨ z = 1))) := by
  cases h : ltT a b
  · cases h2 : ltT b a
    · exact ⟨0, rfl, .inr ⟨rfl, .inl rfl⟩⟩
    · exact ⟨1, rfl, .inr ⟨rfl, .inr rfl⟩⟩
  · exact ⟨-1, rfl, .inl ⟨rfl, rfl⟩⟩
def upTo (xs : List T3) (k : Nat) : Prop := ∀ i (h : i + 1 < xs.length), i + 1 < k → ltT xs[i] xs[i + 1] = true
theorem upTo_all {xs : List T3} (h : upTo xs xs.length) : riseT xs = true := (rise_iff xs).2 fun i hi => h i hi hi
theorem upTo_succ {xs : List T3} {j : Nat} (hj : j + 1 < xs.length) (h : upTo xs (j + 1)) (hl : ltT xs[j] xs[j + 1] = true) : upTo xs (j + 1 + 1) := fun i hi h1 => by
  by_cases e : i = j
  · subst e; exact hl
  · exact h i hi (by omega)
theorem rise_no {xs : List T3} {j : Nat} (hj : j + 1 < xs.length) (h : ltT xs[j] xs[j + 1] = false) : riseT xs = false := by
  cases hr : riseT xs
  · rfl
  · have := (rise_iff xs).1 hr j hj
    rw [h] at this; cases this
set_option maxHeartbeats 2000000 in
set_option maxRecDepth 100000 in
theorem tchk_c (A : Option Addr) (c : Nat) (xs : List T3) (w : World) (hU : U w) (hs : SlA eT3 w A xs) (hm : Small xs) :
    Calls Tryd.prog 40 #[.slice A xs.length c] w (Ret w (.int .i64 (tchk xs))) := by
  have hl := hm.1
  by_cases h0 : eachT xs = 0
  · have HE := Lib.hid h0
    have hn : ∀ b ∈ xs, 0 ≤ b.n ∧ b.n ≤ 2147483648 := fun b hb => by have := bchk_n b ((each_all xs).1 h0 b hb); omega
    have HN := Lib.hid hn
    clear h0 hn
    go_enter Tryd.func40, Tryd.ntmps40
    go_wp2_with (go_at_call 80; refine (each_c A c xs _ hU hs hm).mono ?_; rintro e w1 ⟨rfl, hb1⟩; rw [HE.out])
    go_loopw [4, 14] (fun _ i wr => ∃ k : Nat, k ≤ xs.length ∧ i = .int .i64 k ∧ Hid (upTo xs k) ∧ Below w.heap.size w wr) (fun _ i _ => xs.length - (intOf i).toNat)
    case atStart => exact ⟨0, by omega, rfl, fun i h h1 => by omega, Bel⟩
    case round =>
      obtain ⟨k, hk, rfl, HR, hb⟩ := hrel
      by_cases hlt : k < xs.length
      · rcases Nat.eq_zero_or_pos k with rfl | hp
        · go_wp2_with fail
          refine region_seq [(0, true), (1, true), (2, true), (3, true), (4, true), (5, true), (6, true), (7, true), (8, true), (9, true), (10, true), (11, true), (12, false), (13, true), (14, true)] (by kernel_rfl) (by kernel_rfl) (fun c a d v w h => by cases d <;> exact h) ?_
          intro W hW
          repeat (first
            | (refine seq_q rfl (fun K hK => ?_); unfold takeQ; go_simp; refine hK _ ?_; clear hK K)
            | (refine seq_t rfl (fun K hK => ?_); go_simp; refine hK _ _ (.of Bel) ?_; clear hK K))
          refine seq_nil ?_
          go_wp2
          go_roundw
          case rel => exact ⟨1, by omega, rfl, fun i h h1 => by omega, Bel⟩
          case measure => simp [intOf]; omega
        · obtain ⟨j, rfl⟩ : ∃ j, k = j + 1 := ⟨k - 1, by omega⟩
          obtain ⟨z, HC, hz⟩ := cmp3 xs[j] xs[j + 1]
          obtain ⟨b, o, rfl, hbs, c1, c2, c3⟩ := hs.n3 (fun _ => rfl) hb j (by omega)
          obtain ⟨b', o', h', _, d1, d2, d3⟩ := hs.n3 (fun _ => rfl) hb (j + 1) (by omega)
          obtain ⟨rfl, rfl⟩ : b = b' ∧ o = o' := by injection h' with h'; injection h' with h1 h2; exact ⟨h1, h2⟩
          clear h'
          have hjl : j < xs.length := by omega
          have hj1 : (j : Int) + 1 < xs.length := by omega
          have hj0 : 0 ≤ (j : Int) + 1 := by omega
          have ht1 : ((j : Int) + 1).toNat = j + 1 := by omega
          have hwj : IntKind.i64.wrap (j : Int) = j := IntWalk.i64_in _ (by omega)
          rcases hz with ⟨hy, rfl⟩ | ⟨hy, rfl | rfl⟩
          all_goals
            have HY := Lib.hid hy
            clear hy
            go_wp2_with fail
            refine region_seq [(0, true), (1, true), (2, true), (3, true), (4, true), (5, true), (6, true), (7, true), (8, true), (9, true), (10, true), (11, true), (12, false), (13, true), (14, true)] (by kernel_rfl) (by kernel_rfl) (fun c a d v w h => by cases d <;> exact h) ?_
            intro W hW
            obtain ⟨hcW, hzW⟩ := bcell hW
            repeat (first
              | (refine seq_q rfl (fun K hK => ?_); unfold takeQ; go_simp; refine hK _ ?_; clear hK K)
              | (refine seq_t rfl (fun K hK => ?_); go_simp; go_at_call 79; refine (ccomp_c xs[j] xs[j + 1] _).mono ?_; rintro e w3 ⟨rfl, hb3⟩; rw [HC.out]; go_simp; refine hK _ _ (.of Bel) ?_; clear hK K))
            refine seq_nil ?_
            go_wp2
          · exact ⟨⟨j + 1 + 1, by omega, by go_num, upTo_succ hlt HR.out HY.out, Bel⟩, by simp [intOf]; omega⟩
          all_goals
            have HV : Hid (tchk xs = 7) := by unfold tchk; rw [if_neg (fun h => h HE.out), if_pos (rise_no hlt HY.out)]; rfl
            go_ret
            exact ⟨by rw [HV.out]; rfl, Bel⟩
      · obtain rfl : k = xs.length := by omega
        have HR2 := Lib.hid (upTo_all HR.out)
        have HS : Hid (tchk xs = if 1073741824 < sumT xs ∨ 4096 < xs.length then 6 else 0) := by
          unfold tchk; rw [if_neg (fun h => h HE.out), if_neg (by rw [HR2.out]; simp)]; rfl
        by_cases hsum : sumT xs ≤ 1073741824
        · have HV : Hid (sumV xs = .tuple #[.int .i64 (sumT xs), .bool true]) := by unfold sumV; rw [if_pos hsum]; rfl
          go_wp2_with (go_at_call 81; refine (sum_c A c xs _ (hs.below hb) (by omega) HN.out).mono ?_; rintro e w2 ⟨rfl, hb2⟩; rw [HV.out])
          all_goals
            go_ret
            exact ⟨ret_int (by rw [HS.out]; split <;> first | rfl | omega), Bel⟩
        · have HV : Hid (sumV xs = .tuple #[.int .i64 0, .bool false]) := by unfold sumV; rw [if_neg hsum]; rfl
          go_wp2_with (go_at_call 81; refine (sum_c A c xs _ (hs.below hb) (by omega) HN.out).mono ?_; rintro e w2 ⟨rfl, hb2⟩; rw [HV.out])
          go_ret
          exact ⟨ret_int (by rw [HS.out, if_pos (by omega)]), Bel⟩
  · have hn : (eachT xs != 0) = true := by simp [h0]
    have HV : Hid (tchk xs = eachT xs) := by unfold tchk; rw [if_pos h0]; rfl
    clear h0
    go_enter Tryd.func40, Tryd.ntmps40
    go_wp2_with (go_at_call 80; refine (each_c A c xs _ hU hs hm).mono ?_; rintro e w1 ⟨rfl, hb1⟩)
    go_ret
    exact ⟨by rw [HV.out]; rfl, Bel⟩
end Go.Proofs.YtpccanadijefnaaDoor
