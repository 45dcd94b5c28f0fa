/- The reference of layer 6: order, Check, Sum. No condition. -/
import Derived.Test.YtpccanadijefnaaDoorCnt2
namespace Go.Proofs.YtpccanadijefnaaDoor
open Go.RowKit
theorem ltT_eq (a b : T3) : ltT a b = (Op.bytesLess a.f.toList b.f.toList || (a.f.toList == b.f.toList && Op.bytesLess a.t.toList b.t.toList)) := by
  unfold ltT cmpT cmpS
  cases h1 : Op.bytesLess a.f.toList b.f.toList <;> cases h2 : a.f.toList == b.f.toList <;> cases h3 : Op.bytesLess a.t.toList b.t.toList <;> cases h4 : a.t.toList == b.t.toList <;> simp [orL]
set_option maxHeartbeats 1000000 in
set_option maxRecDepth 100000 in
theorem r5less_c (a b : T3) (w : World) : Calls Tryd.prog 84 #[.agg #[.string a.f, .string a.t, .int .i64 a.n], .agg #[.string b.f, .string b.t, .int .i64 b.n]] w (Ret w (.bool (ltT a b))) := by
  rw [ltT_eq]
  cases h1 : Op.bytesLess a.f.toList b.f.toList <;> cases h2 : a.f.toList == b.f.toList <;> cases h3 : Op.bytesLess a.t.toList b.t.toList
  all_goals
    go_enter Tryd.func84, Tryd.ntmps84
    go_wp2
    go_ret
    exact ⟨rfl, Bel⟩
set_option maxHeartbeats 1000000 in
set_option maxRecDepth 100000 in
theorem r7less_c (a b : T3) (w : World) : Calls Tryd.prog 31 #[.agg #[.string a.f, .string a.t, .int .i64 a.n], .agg #[.string b.f, .string b.t, .int .i64 b.n]] w (Ret w (.bool (ltT a b))) := by
  rw [ltT_eq]
  cases h1 : Op.bytesLess a.f.toList b.f.toList <;> cases h2 : a.f.toList == b.f.toList <;> cases h3 : Op.bytesLess a.t.toList b.t.toList
  all_goals
    go_enter Tryd.func31, Tryd.ntmps31
    go_wp2
    go_ret
    exact ⟨rfl, Bel⟩
set_option maxHeartbeats 1000000 in
set_option maxRecDepth 100000 in
theorem r6sum_c (A : Option Addr) (c : Nat) (xs : List T3) (w : World) (hs : SlA eT3 w A xs) (hl : xs.length ≤ 4294967296) (hn : ∀ b ∈ xs, 0 ≤ b.n ∧ b.n ≤ 1073741824) :
    Calls Tryd.prog 70 #[.slice A xs.length c] w (Ret w (.int .i64 (sumT xs))) := by
  have hM := sum_le xs 1073741824 fun b hb => (hn b hb).2
  have HN := Lib.hid hn
  clear hn
  go_enter Tryd.func70, Tryd.ntmps70
  go_wp2
  go_loopw [3, 5, 8] (fun s _ i wr => ∃ k : Nat, k ≤ xs.length ∧ i = .int .i64 k ∧ s = .int .i64 (sumT (xs.take k)) ∧ 0 ≤ sumT (xs.take k) ∧ sumT (xs.take k) ≤ sumT xs ∧ Below w.heap.size w wr) (fun _ _ i _ => xs.length - (intOf i).toNat)
  case atStart => exact ⟨0, by omega, rfl, rfl, by simp [sumT], by have := sum_nonneg xs fun b hb => (HN.out b hb).1; simpa [sumT] using this, Bel⟩
  case round =>
    obtain ⟨k, hk, rfl, rfl, hs0, hs1, hb⟩ := hrel
    by_cases hlt : k < xs.length
    · obtain ⟨b, o, rfl, c1, c2, c3⟩ := hs.at3 (fun _ => rfl) hb k hlt
      have hd := sum_take xs k hlt
      have hle := sum_take_le xs (k + 1) fun b hb => (HN.out b hb).1
      obtain ⟨n0, n1⟩ := HN.out _ (List.getElem_mem hlt)
      rw [hd] at hle
      have HD := Lib.hid hd
      clear hd
      go_wp2
      go_roundw
      case rel => exact ⟨k + 1, by omega, by go_num, by rw [HD.out], by rw [HD.out]; omega, by rw [HD.out]; omega, Bel⟩
      case measure => simp [intOf]; omega
    · have HT : Hid (sumT (xs.take k) = sumT xs) := by rw [List.take_of_length_le (by omega)]; rfl
      go_wp2
      go_ret
      exact ⟨by rw [← HT.out]; rfl, Bel⟩
set_option maxHeartbeats 4000000 in
set_option maxRecDepth 100000 in
theorem r6chk_c (A : Option Addr) (c : Nat) (xs : List T3) (w : World) (hs : SlA eT3 w A xs) (hm : Small xs) :
    Calls Tryd.prog 45 #[.slice A xs.length c] w (Ret w (.int .i64 (tchk xs))) := by
  have hl := hm.1
  go_enter Tryd.func45, Tryd.ntmps45
  go_wp2
  go_loopw [5, 6, 12] (fun _ _ i wr => ∃ k : Nat, k ≤ xs.length ∧ i = .int .i64 k ∧ Hid (eachT (xs.drop k) = eachT xs) ∧ Below w.heap.size w wr) (fun _ _ i _ => xs.length - (intOf i).toNat)
  case atStart => exact ⟨0, by omega, rfl, rfl, Bel⟩
  case round =>
    obtain ⟨k, hk, rfl, HE, hb⟩ := hrel
    by_cases hlt : k < xs.length
    · obtain ⟨b, o, rfl, c1, c2, c3⟩ := hs.at3 (fun _ => rfl) hb k hlt
      have hd := each_drop xs k hlt
      obtain ⟨z1, z2⟩ := hm.at k hlt
      by_cases hz : bchk xs[k] = 0
      · rw [if_pos hz] at hd
        have HD := Lib.hid hd; have HZ := Lib.hid hz
        clear hd hz
        go_wp2_with (go_at_call 74; refine (r5chk_c xs[k] _ (by omega) (by omega)).mono ?_; rintro e w2 ⟨rfl, hb2⟩; rw [HZ.out])
        go_roundw
        case rel => exact ⟨k + 1, by omega, by go_num, HD.out.symm.trans HE.out, Bel⟩
        case measure => simp [intOf]; omega
      · rw [if_neg hz] at hd
        have hn : (bchk xs[k] != 0) = true := by simp [hz]
        have HV : Hid (tchk xs = bchk xs[k]) := by have h := hd.symm.trans HE.out; unfold tchk; rw [← h, if_pos hz]; rfl
        clear hd hz
        go_wp2_with (go_at_call 74; refine (r5chk_c xs[k] _ (by omega) (by omega)).mono ?_; rintro e w2 ⟨rfl, hb2⟩)
        go_ret
        exact ⟨by rw [HV.out]; rfl, Bel⟩
    · have he : eachT xs = 0 := by have h := HE.out; rw [List.drop_of_length_le (by omega)] at h; exact h.symm
      have HN := Lib.hid (fun b hb => bchk_n b ((each_all xs).1 he b hb) : ∀ b ∈ xs, 1 ≤ b.n ∧ b.n ≤ 1073741824)
      have HZ := Lib.hid he
      clear HE he
      go_wp2
      clear hlt hk
      go_loopw [7, 24] (fun _ i wr => ∃ k : Nat, k ≤ xs.length ∧ i = .int .i64 k ∧ Hid (upTo xs k) ∧ Below w.heap.size w wr) (fun _ i _ => xs.length - (intOf i).toNat)
      case atStart => exact ⟨0, by omega, rfl, fun i h h1 => by omega, Bel⟩
      case round =>
        obtain ⟨k, hk, rfl, HR, hb⟩ := hrel
        by_cases hlt : k < xs.length
        · rcases Nat.eq_zero_or_pos k with rfl | hp
          · go_wp2_with fail
            refine region_seq [(0, true), (1, true), (2, true), (3, true), (4, true), (5, true), (6, true), (7, true), (8, true), (9, true), (10, true), (11, true), (12, false), (13, true), (14, true)] (by kernel_rfl) (by kernel_rfl) (fun c a d v w h => by cases d <;> exact h) ?_
            intro W hW
            repeat (first
              | (refine seq_q rfl (fun K hK => ?_); unfold takeQ; go_simp; refine hK _ ?_; clear hK K)
              | (refine seq_t rfl (fun K hK => ?_); go_simp; refine hK _ _ (.of Bel) ?_; clear hK K))
            refine seq_nil ?_
            go_wp2
            go_roundw
            case rel => exact ⟨1, by omega, rfl, fun i h h1 => by omega, Bel⟩
            case measure => simp [intOf]; omega
          · obtain ⟨j, rfl⟩ : ∃ j, k = j + 1 := ⟨k - 1, by omega⟩
            obtain ⟨b, o, rfl, hbs, c1, c2, c3⟩ := hs.n3 (fun _ => rfl) hb j (by omega)
            obtain ⟨b', o', h', _, d1, d2, d3⟩ := hs.n3 (fun _ => rfl) hb (j + 1) (by omega)
            obtain ⟨rfl, rfl⟩ : b = b' ∧ o = o' := by injection h' with h'; injection h' with h1 h2; exact ⟨h1, h2⟩
            clear h'
            have hjl : j < xs.length := by omega
            have hj1 : (j : Int) + 1 < xs.length := by omega
            have hj0 : 0 ≤ (j : Int) + 1 := by omega
            have ht1 : ((j : Int) + 1).toNat = j + 1 := by omega
            have hwj : IntKind.i64.wrap (j : Int) = j := IntWalk.i64_in _ (by omega)
            cases hy : ltT xs[j] xs[j + 1]
            all_goals
              have HY := Lib.hid hy
              clear hy
              go_wp2_with fail
              refine region_seq [(0, true), (1, true), (2, true), (3, true), (4, true), (5, true), (6, true), (7, true), (8, true), (9, true), (10, true), (11, true), (12, false), (13, true), (14, true)] (by kernel_rfl) (by kernel_rfl) (fun c a d v w h => by cases d <;> exact h) ?_
              intro W hW
              obtain ⟨hcW, hzW⟩ := bcell hW
              repeat (first
                | (refine seq_q rfl (fun K hK => ?_); unfold takeQ; go_simp; refine hK _ ?_; clear hK K)
                | (refine seq_t rfl (fun K hK => ?_); go_simp; go_at_call 84; refine (r5less_c xs[j] xs[j + 1] _).mono ?_; rintro e w3 ⟨rfl, hb3⟩; rw [HY.out]; go_simp; refine hK _ _ (.of Bel) ?_; clear hK K))
              refine seq_nil ?_
              go_wp2
            · have HV : Hid (tchk xs = 7) := by unfold tchk; rw [if_neg (fun h => h HZ.out), if_pos (rise_no hlt HY.out)]; rfl
              go_ret
              exact ⟨by rw [HV.out]; rfl, Bel⟩
            · exact ⟨⟨j + 1 + 1, by omega, by go_num, upTo_succ hlt HR.out HY.out, Bel⟩, by simp [intOf]; omega⟩
        · obtain rfl : k = xs.length := by omega
          have HR2 := Lib.hid (upTo_all HR.out)
          have HS : Hid (tchk xs = if 1073741824 < sumT xs ∨ 4096 < xs.length then 6 else 0) := by
            unfold tchk; rw [if_neg (fun h => h HZ.out), if_neg (by rw [HR2.out]; simp)]; rfl
          clear HR HR2 hk hlt
          by_cases hm4 : 4096 < xs.length
          · go_wp2
            go_ret
            exact ⟨ret_int (by rw [HS.out, if_pos (.inr hm4)]), Bel⟩
          · have hM := sum_le xs 1073741824 fun b hb => (HN.out b hb).2
            have h0N := Lib.hid (fun b hb => by have := HN.out b hb; omega : ∀ b ∈ xs, 0 ≤ b.n)
            go_wp2
            go_loopw [3, 9, 48] (fun s _ i wr => ∃ k : Nat, k ≤ xs.length ∧ i = .int .i64 k ∧ s = .int .i64 (sumT (xs.take k)) ∧ 0 ≤ sumT (xs.take k) ∧ sumT (xs.take k) ≤ sumT xs ∧ Below w.heap.size w wr) (fun _ _ i _ => xs.length - (intOf i).toNat)
            case atStart => exact ⟨0, by omega, rfl, rfl, by simp [sumT], by have := sum_nonneg xs h0N.out; simpa [sumT] using this, Bel⟩
            case round =>
              obtain ⟨k, hk, rfl, rfl, hs0, hs1, hb⟩ := hrel
              by_cases hlt : k < xs.length
              · obtain ⟨b, o, rfl, c1, c2, c3⟩ := hs.at3 (fun _ => rfl) hb k hlt
                have hd := sum_take xs k hlt
                have hle := sum_take_le xs (k + 1) h0N.out
                obtain ⟨n0, n1⟩ := HN.out _ (List.getElem_mem hlt)
                rw [hd] at hle
                have HD := Lib.hid hd
                clear hd
                go_wp2
                go_roundw
                case rel => exact ⟨k + 1, by omega, by go_num, by rw [HD.out], by rw [HD.out]; omega, by rw [HD.out]; omega, Bel⟩
                case measure => simp [intOf]; omega
              · have HT : Hid (sumT (xs.take k) = sumT xs) := by rw [List.take_of_length_le (by omega)]; rfl
                go_wp2
                all_goals
                  rename_i hq
                  rw [HT.out] at hq
                  go_ret
                  exact ⟨ret_int (by rw [HS.out]; split <;> first | rfl | omega), Bel⟩
end Go.Proofs.YtpccanadijefnaaDoor
