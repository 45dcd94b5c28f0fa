/- CountOrders walked. No condition. -/
import Derived.Test.YtpccanadijefnaaDoorAlv6
import Derived.Test.YtpccanadijefnaaDoorApp
namespace Go.Proofs.YtpccanadijefnaaDoor
open Go Go.RowKit
theorem small_perm {l m : List T3} (h : l.Perm m) (hl : Small l) : Small m := ⟨by rw [← h.length_eq]; exact hl.1, fun b hb => hl.2 b (h.mem_iff.2 hb)⟩
theorem rot_perm (l : List T3) (k : Nat) : l.Perm (l.drop k ++ l.take k) := by
  conv => lhs; rw [← List.take_append_drop k l]
  exact List.perm_append_comm
theorem wanted_none {o : Oper} (h : o.guard = none) (f : Nat → Option Bool) : Region.wanted o f = true := by unfold Region.wanted; rw [h]
theorem tabE_nil : tabE [] = 0 := by rw [tabE_zero]; exact ⟨rfl, by decide, by simp [gathL]⟩
theorem tab_nil {ys : List T3} (h : TabOf [] ys) : ys = [] := by have := h.1; simpa [gathL] using this
set_option maxHeartbeats 800000 in
set_option maxRecDepth 100000 in
theorem orders_nil (n : Nat) (w : World) (hU : U w) (hn : n < 65536) :
    Calls Tryd.prog 6 #[.slice none 0 0, .int .u16 n] w (Ret w (.bool true)) := by
  have hsn : Small [] := ⟨by decide, fun b hb => by cases hb⟩
  have hg := fun W => great_c none 0 [] W SlA.nil hsn
  have ht1 := fun W hU => tab_c none 0 [] W hU SlA.nil hsn
  have ht2 := fun A c W hU => tab_c A c [] W hU SlA.nil hsn
  have htt := fun A c W hU => total_c A c [] W hU SlA.nil hsn
  have hss := fun A B c d W => same_c A B c d [] [] W SlA.nil SlA.nil (by decide) (by decide)
  have htk := fun A c W hU => tchk_c A c [] W hU SlA.nil hsn
  have e1 : greatT [] = false := by decide
  have e2 := tabE_nil
  have e3 : totV [] = .tuple #[.int .i64 0, .int .i64 0] := rfl
  have e4 : sameT [] [] = true := by unfold sameT; simp
  have e5 : tchk [] = 0 := by decide
  have e6 : ([] : List T3).length = 0 := rfl
  rw [e1] at hg
  rw [e6] at hg ht1 ht2 htt hss htk
  rw [e4] at hss
  rw [e5] at htk
  rw [e3] at htt
  clear e1 e3 e4 e5 e6
  have HT1 := Lib.hid ht1; have HT2 := Lib.hid ht2; have HG := Lib.hid hg; have HTT := Lib.hid htt; have HSS := Lib.hid hss; have HTK := Lib.hid htk
  clear ht1 ht2 hg htt hss htk
  go_enter Tryd.func6, Tryd.ntmps6
  go_wp2_with (first
    | (go_at_call 35; refine (alive_c _ (hU.to Bel)).mono ?_; rintro e w1 ⟨rfl, hb1⟩)
    | (go_at_call 36; refine (HG.out _).mono ?_; rintro e w2 ⟨rfl, hb2⟩)
    | (go_at_call 37; refine (HT1.out _ (hU.to Bel)).mono ?_; rintro e w3 ⟨ys, r, rfl, hys, hb3, hok, _⟩; obtain rfl := tab_nil (hok e2); rw [e2]))
  obtain ⟨A1, c1, rfl, _, _, _⟩ := hys
  have hb3' : Below w.heap.size w w3 := Bel
  refine region_seq [(1, true), (2, true), (3, true), (5, true), (6, true), (7, true), (0, false), (4, false), (8, false), (9, false), (10, true), (11, true), (12, true), (13, true), (14, true)] (by kernel_rfl) (by kernel_rfl) (fun c a d v w h => by cases d <;> exact h) ?_
  intro W hW
  repeat (refine seq_q rfl (fun K hK => ?_); unfold takeQ; go_simp; refine hK _ ?_; clear hK K)
  refine seq_t rfl (fun K hK => ?_)
  go_simp
  refine hK _ _ (.of Bel) ?_
  clear hK K
  refine seq_t rfl (fun K hK => ?_)
  rw [if_pos (wanted_none rfl _)]
  refine app_none (E := eT3) _ _ 22 25 rfl Tryd.underlying22 info_blk _ [] rfl rfl (Own.lit eT3 W.heap.size 25 W (Nat.le_refl _)) ?_
  refine hK _ _ (.of Bel) ?_
  clear hK K
  refine seq_t rfl (fun K hK => ?_)
  rw [if_pos (wanted_none rfl _)]
  refine app_none (E := eT3) _ _ 22 25 rfl Tryd.underlying22 info_blk _ [] rfl rfl (Own.lit eT3 W.heap.size 25 W (Nat.le_refl _)) ?_
  refine hK _ _ (.of Bel) ?_
  clear hK K
  refine seq_t rfl (fun K hK => ?_)
  go_simp
  go_at_call 37
  refine (HT2.out _ _ _ (hU.to (Bst hb3' Bel))).mono ?_
  rintro e w7 ⟨zs, r2, rfl, hzs, hb7, hok2, _⟩
  obtain rfl := tab_nil (hok2 e2)
  rw [e2]
  go_simp
  refine hK _ _ (.of Bel) ?_
  clear hK K
  repeat (refine seq_q rfl (fun K hK => ?_); unfold takeQ; go_simp; refine hK _ ?_; clear hK K)
  refine seq_nil ?_
  obtain ⟨A3, c3, rfl, _, _, _⟩ := hzs
  have hb7' : Below w.heap.size w w7 := Bst hb3' (Bst hW (Bst Bel hb7))
  have hU7 := hU.to hb7'
  go_wp2_with fail
  go_loopw [10, 54] (fun s i wr => i = .int .i64 0 ∧ s = .int .i64 0 ∧ Below w7.heap.size w7 wr) (fun _ i _ => 0)
  case atStart => exact ⟨rfl, rfl, Bel⟩
  case round =>
    obtain ⟨rfl, rfl, hbr⟩ := hrel
    go_wp2_with (first
      | (go_at_call 38; refine (HTT.out _ _ _ (hU7.to Bel)).mono ?_; rintro e w8 ⟨rfl, hb8⟩)
      | (go_at_call 39; refine (HSS.out _ _ _ _ _).mono ?_; rintro e w9 ⟨rfl, hb9⟩)
      | (go_at_call 40; refine (HTK.out _ _ _ (hU7.to Bel)).mono ?_; rintro e w10 ⟨rfl, hb10⟩))
    go_ret
    exact ⟨rfl, Bel⟩
set_option maxHeartbeats 800000 in
set_option maxRecDepth 100000 in
theorem orders_c (A : Option Addr) (c n : Nat) (xs : List T3) (w : World) (hU : U w) (hs : SlA eT3 w A xs) (hm : Small xs) (hne : A ≠ none) (hn : n < 65536) (hc : xs.length ≤ c) (hc2 : c ≤ 9223372036854775807) :
    Calls Tryd.prog 6 #[.slice A xs.length c, .int .u16 n] w (Ret w (.bool true)) := by
  have hl := hm.1
  have halv := fun W hU => alive_c W hU
  cases hg : greatT xs
  · have HG := Lib.hid hg
    clear hg
    go_enter Tryd.func6, Tryd.ntmps6
    go_wp2_with (first
      | (go_at_call 35; refine (alive_c _ (hU.to Bel)).mono ?_; rintro e w1 ⟨rfl, hb1⟩)
      | (go_at_call 36; refine (great_c A c xs _ (hs.below Bel) hm).mono ?_; rintro e w2 ⟨rfl, hb2⟩; rw [HG.out])
      | (go_at_call 37; refine (tab_c A c xs _ (hU.to Bel) (hs.below Bel) hm).mono ?_; rintro e w3 ⟨ys, r, rfl, hys, hb3, hok, hno⟩))
    obtain ⟨k, hk, hkl⟩ : ∃ k : Nat, (n : Int) % ((xs.length : Int) + 1) = k ∧ k ≤ xs.length := ⟨n % (xs.length + 1), by push_cast; rfl, by have := Nat.mod_lt n (show 0 < xs.length + 1 by omega); omega⟩
    simp only [hk]
    have hb3' : Below w.heap.size w w3 := Bel
    have hsW := hs.below hb3'
    have hk1 : (k : Int) ≤ xs.length := by omega
    have hk2 : (k : Int) ≤ c := by omega
    have hk0 : (0 : Int) ≤ k := by omega
    have hpm := rot_perm xs k
    have hsm := small_perm hpm hm
    have hlen := Lib.hid hpm.length_eq.symm
    clear hk
    cases A with
    | none =>
      exfalso
      exact hne rfl
    | some ad =>
      have hpart : SlA eT3 w3 (some (if c = k then ad else ad.add (k * 3))) (xs.drop k) := by
        split
        · rw [List.drop_of_length_le (by omega)]; exact SlA.nil
        · exact hsW.part k 3 rfl
      have htake : SlA eT3 w3 (some ad) (xs.take k) := hsW.take k
      have hdl : Hid (xs.length - k = (xs.drop k).length) := (List.length_drop).symm
      have htl : Hid (k = (xs.take k).length) := show k = (xs.take k).length by simp; omega
      by_cases hck : c = k
      all_goals
        first | rw [if_pos hck] at hpart | rw [if_neg hck] at hpart
        refine region_seq [(1, true), (2, true), (3, true), (5, true), (6, true), (7, true), (0, false), (4, false), (8, false), (9, false), (10, true), (11, true), (12, true), (13, true), (14, true)] (by kernel_rfl) (by kernel_rfl) (fun c a d v w h => by cases d <;> exact h) ?_
        intro W hW
        repeat (refine seq_q rfl (fun K hK => ?_); unfold takeQ; go_simp; refine hK _ ?_; clear hK K)
        refine seq_t rfl (fun K hK => ?_)
        go_simp
        refine hK _ _ (.of Bel) ?_
        clear hK K
        refine seq_t rfl (fun K hK => ?_)
        rw [if_pos (wanted_none rfl _)]
        refine app_op (E := eT3) (w0 := W) _ _ 22 25 (.agg #[.string .empty, .string .empty, .int .i64 0]) 40 rfl rfl Tryd.underlying22 info_blk rfl (by decide) (by decide) _ [] (xs.drop k) _ _ _ rfl rfl hdl.out (Own.lit eT3 W.heap.size 25 W (Nat.le_refl _)) (hpart.below Bel) Bel (by simp; omega) ?_
        intro v1 w5 HO5 hb5 hg5 hm5
        rw [List.nil_append] at HO5
        refine hK _ _ (.of hb5) ?_
        clear hK K
        refine seq_t rfl (fun K hK => ?_)
        rw [if_pos (wanted_none rfl _)]
        refine app_op (E := eT3) (w0 := W) _ _ 22 25 (.agg #[.string .empty, .string .empty, .int .i64 0]) 40 rfl rfl Tryd.underlying22 info_blk rfl (by decide) (by decide) _ (xs.drop k) (xs.take k) _ _ _ rfl rfl htl.out HO5 (htake.below Bel) Bel (by simp; omega) ?_
        intro v2 w6 HO6 hb6 hg6 hm6
        refine hK _ _ (.of hb6) ?_
        clear hK K
        obtain ⟨A2, c2, hv2, hc21, hc22, hS6⟩ := HO6.slv
        have ht := fun W hU hs => tab_c A2 c2 (xs.drop k ++ xs.take k) W hU hs hsm
        rw [hlen.out] at hv2 ht
        subst hv2
        refine seq_t rfl (fun K hK => ?_)
        go_simp
        go_at_call 37
        refine (ht _ (hU.to Bel) hS6).mono ?_
        clear ht
        rintro e w7 ⟨zs, r2, rfl, hzs, hb7, hok2, hno2⟩
        go_simp
        refine hK _ _ (.of Bel) ?_
        clear hK K
        repeat (refine seq_q rfl (fun K hK => ?_); unfold takeQ; go_simp; refine hK _ ?_; clear hK K)
        refine seq_nil ?_
        have hb37 : Below w3.heap.size w3 w7 := Bst (Bst hW hb6) hb7
        have hb7' : Below w.heap.size w w7 := Bst hb3' hb37
        clear HO5 hb5 hg5 hm5 HO6 hb6 hg6 hm6 hS6 hpart htake
        have hsE := hs.below hb7'
        clear hsW hs
        obtain ⟨A1, c1, rfl, hc11, hc12, hys1⟩ := hys.below hb37
        by_cases h0 : tabE xs = 0
        · have hz := tabE_zero.1 h0
          have e0 := (tabE_perm hpm).1 h0
          obtain rfl : zs = ys := ((hok h0).perm (hok2 e0) hpm).symm
          have hck2 := Lib.hid ((hok h0).ok h0)
          have hsum := Lib.hid ((hok h0).sum)
          have htot : Hid (totV zs = .tuple #[.int .i64 (sumT xs), .int .i64 0]) := by
            show totV zs = _
            unfold totV; rw [hck2.out, hsum.out]; rfl
          have hsame : Hid (sameT zs zs = true) := by show sameT zs zs = true; unfold sameT; simp
          have hn1 : ∀ b ∈ xs, 0 ≤ b.n ∧ b.n ≤ 1073741824 := fun b hb => by have := bchk_n b ((each_all xs).1 hz.1 b hb); omega
          have HN := Lib.hid hn1
          have hzl := (hok h0).len
          have hgl := gath_len xs
          have hsml : Small zs := ⟨by omega, fun b hb => by
            have hk := ((hok h0).tab.keys (b.f, b.t)).1 (mem_keys hb)
            obtain ⟨x, hx, e⟩ := List.mem_map.1 hk
            injection e with e1 e2
            rw [← e1, ← e2]; exact hm.2 x hx⟩
          have hzc : zs.length ≤ 4294967296 := by omega
          have HS := Lib.hid hz.2.1
          rw [h0, e0]
          clear h0 e0 hz hn1 hok hok2 hno hno2 hzl hgl
          obtain ⟨A3, c3, rfl, hc31, hc32, hzs1⟩ := hzs
          go_wp2_with fail
          go_loopw [10, 54] (fun s i wr => ∃ k : Nat, k ≤ xs.length ∧ i = .int .i64 k ∧ s = .int .i64 (sumT (xs.take k)) ∧ 0 ≤ sumT (xs.take k) ∧ sumT (xs.take k) ≤ 1073741824 ∧ Below w7.heap.size w7 wr) (fun _ i _ => xs.length - (intOf i).toNat)
          case atStart => exact ⟨0, by omega, rfl, by simp [sumT], by simp [sumT], by simp [sumT], Bel⟩
          case round =>
            obtain ⟨q, hq, rfl, rfl, hs0, hs1, hbr⟩ := hrel
            by_cases hlt : q < xs.length
            · obtain ⟨b, o, hA1, hbs, p1, p2, p3⟩ := hsE.n3 (fun _ => rfl) hbr q hlt
              injection hA1 with hA1
              subst hA1
              have HD := Lib.hid (sum_take xs q hlt)
              obtain ⟨n0, n1⟩ := HN.out _ (List.getElem_mem hlt)
              have hle := sum_take_le xs (q + 1) fun b hb => (HN.out b hb).1
              have hS := HS.out
              rw [HD.out] at hle
              go_wp2
              go_roundw
              case rel => exact ⟨q + 1, by omega, by go_num, by rw [HD.out], by rw [HD.out]; omega, by rw [HD.out]; omega, Bel⟩
              case measure => simp [intOf]; omega
            · have hkk : xs.take q = xs := List.take_of_length_le (by omega)
              rw [hkk] at hs0 hs1 ⊢
              clear hkk
              have hU7 := hU.to hb7'
              go_wp2_with (first
                | (go_at_call 38; refine (total_c A1 c1 zs _ (hU7.to Bel) (hys1.below Bel) hsml).mono ?_; rintro e w8 ⟨rfl, hb8⟩; rw [htot.out])
                | (go_at_call 39; refine (same_c A1 A3 c1 c3 zs zs _ (hys1.below Bel) (hzs1.below Bel) hzc hzc).mono ?_; rintro e w9 ⟨rfl, hb9⟩; rw [hsame.out])
                | (go_at_call 40; refine (tchk_c A1 c1 zs _ (hU7.to Bel) (hys1.below Bel) hsml).mono ?_; rintro e w10 ⟨rfl, hb10⟩; rw [hck2.out]))
              go_ret
              exact ⟨rfl, Bel⟩
        · have e0 : tabE (xs.drop k ++ xs.take k) ≠ 0 := fun h => h0 ((tabE_perm hpm).2 h)
          obtain rfl := hno h0
          have hb0 : (tabE xs != 0) = true := by simp [h0]
          have hb1 : (tabE (xs.drop k ++ xs.take k) != 0) = true := by simp [e0]
          clear hno hno2 hok hok2
          generalize tabE (xs.drop k ++ xs.take k) = E2 at *
          generalize tabE xs = E1 at *
          clear h0 e0
          go_wp2_with fail
          go_ret
          exact ⟨rfl, Bel⟩
  · go_enter Tryd.func6, Tryd.ntmps6
    go_wp2_with (first
      | (go_at_call 35; refine (alive_c _ (hU.to Bel)).mono ?_; rintro e w1 ⟨rfl, hb1⟩)
      | (go_at_call 36; refine (great_c A c xs _ (hs.below Bel) hm).mono ?_; rintro e w2 ⟨rfl, hb2⟩; rw [hg]))
    go_ret
    exact ⟨rfl, Bel⟩
end Go.Proofs.YtpccanadijefnaaDoor
