/- 'MatchPlaces' walked. No condition. -/
import Derived.Test.YtpccanadijefnaaDoorK816
namespace Go.Proofs.YtpccanadijefnaaDoor
open Go Go.RowKit
theorem hitsTo_more (fs : List (List Int)) (l : List Int) (i : Nat) : ∀ d, ∃ r, hitsTo fs l (i + d) = hitsTo fs l i ++ r
  | 0 => ⟨[], by simp⟩
  | d + 1 => by
    obtain ⟨r, h⟩ := hitsTo_more fs l i d
    exact ⟨r ++ rowTo fs l (i + d) fs.length, by rw [← Nat.add_assoc, hitsTo_succ, h, List.append_assoc]⟩
theorem rowTo_place (fs : List (List Int)) (l : List Int) (i : Nat) : rowTo fs l i fs.length = (placeL fs l i).map fun k => (i, k) := rfl
theorem hits_at_place (fs : List (List Int)) (l : List Int) (i j : Nat) (hi : i ≤ l.length) (hj : j < (placeL fs l i).length) : (hitsL fs l)[(hitsTo fs l i).length + j]? = some (i, (placeL fs l i)[j]) := by
  obtain ⟨r, h⟩ := hitsTo_more fs l (i + 1) (l.length - i)
  rw [show i + 1 + (l.length - i) = l.length + 1 by omega, hitsTo_all, hitsTo_succ, rowTo_place, List.append_assoc] at h
  rw [h, List.getElem?_append_right (by omega), Nat.add_sub_cancel_left, List.getElem?_append_left (by simpa using hj), List.getElem?_map, List.getElem?_eq_getElem hj]
  rfl
theorem atL_place (fs : List (List Int)) (l : List Int) (i : Nat) (hi : i ≤ l.length) : atL (hitsL fs l) i = (placeL fs l i).map fun k : Nat => (k : Int) := by
  rw [← placeL_eq fs l i hi, List.map_map]
  unfold atL
  have : (fun h : Nat × Nat => decide ((h.1 : Int) = (i : Int))) = fun h => decide (h.1 = i) := by funext h; rw [Bool.eq_iff_iff]; simp; omega
  rw [this]; rfl
theorem hitsTo_step (fs : List (List Int)) (l : List Int) (i : Nat) : (hitsTo fs l (i + 1)).length = (hitsTo fs l i).length + (placeL fs l i).length := by
  rw [hitsTo_succ, rowTo_place, List.length_append, List.length_map]
set_option maxHeartbeats 4000000 in
set_option maxRecDepth 100000 in
theorem lplaces8_c (A : Option Addr) (c : Nat) (xs : List T3) (s : ByteArray) (w : World) (hU : U w) (hs : SlA eT3 w A xs) (hm : Small xs) (hz : s.size ≤ 1048576) :
    Calls Tryd.prog 14 #[.slice A xs.length c, .string s] w (Ret w (.bool true)) := by
  have hl := hm.1
  by_cases h0 : isE xs = 0
  · cases hg : great8 xs s
    all_goals
      have HG := Lib.hid hg
      clear hg
      have H0 := Lib.hid h0
      have hfl := (froms_small h0).1
      clear h0
      go_enter Tryd.func14, Tryd.ntmps14
      go_wp2_with fail
      refine (alive8_c _ hU).mono ?_
      rintro e w1 ⟨rfl, hb1⟩
      go_wp2_with fail
      refine (new8_c A c xs _ (hU.to hb1) (hs.below hb1) hm).mono ?_
      rintro e w3 ⟨hb3, hn1, _⟩
      obtain ⟨M, rfl, hM⟩ := hn1 H0.out
      clear hn1
      go_wp2_with fail
      refine (great8_c A c xs s _ (hs.below Bel) hm (by omega)).mono ?_
      rintro e w4 ⟨rfl, hb4⟩
      rw [HG.out]
    · go_wp2_with fail
      have hM4 := hM.below hb4
      refine (mhits_c s M _ _ (hU.to Bel) hM4 (by omega)).mono ?_
      rintro e w5 ⟨hb5, h5, h5'⟩
      have hM5 := hM4.below hb5
      by_cases ht : tokE s = 0
      · obtain ⟨v5, l, hd, rfl, hO5⟩ := h5 ht
        have hlen := hits_len8 ht hd hfl
        have hll : l.length ≤ 64 := by
          obtain ⟨l', hd', hl'⟩ := tokE_ok ht
          rw [hd] at hd'
          injection hd' with e
          rw [e]; exact hl'
        have HT := Lib.hid ht
        have HD := Lib.hid hd
        obtain ⟨A5, c5, rfl, hc5, hd5, hA5⟩ := hO5.slv
        clear h5 h5' ht hd
        go_wp2_with fail
        refine (dec_own s _ (hU.to Bel) (by omega)).mono ?_
        rintro e w6 ⟨hb6, h6⟩
        rw [HD.out] at h6
        obtain ⟨v6, rfl, hO6⟩ := h6
        obtain ⟨A6, c6, rfl, _, _, _⟩ := hO6.slv
        have hM6 := hM5.below hb6
        have hA6 := hA5.below hb6
        have hb06 : Below w.heap.size w w6 := Bel
        go_wp2_with fail
        go_loopw [11, 51] (fun sk si wr => ∃ i : Nat, si = .int .i64 i ∧ i ≤ l.length + 1 ∧ sk = .int .i64 (hitsTo (froms xs) l i).length ∧ Below w6.heap.size w6 wr) (fun _ si _ => l.length + 1 - (intOf si).toNat)
        case atStart => exact ⟨0, rfl, by omega, rfl, Below.refl _ _⟩
        case round =>
          obtain ⟨i, rfl, hi, rfl, hb⟩ := hrel
          by_cases hil : i ≤ l.length
          · have hlt : (i : Int) < l.length + 1 := by omega
            have hat : atE s i = 0 := by
              unfold atE
              rw [if_neg (by simpa using HT.out), HD.out, if_neg (by simp; omega)]
            have HAT := Lib.hid hat
            have HPL := Lib.hid (atL_place (froms xs) l i hil)
            have HHP := Lib.hid (hits_at_place (froms xs) l i)
            have HST := Lib.hid (hitsTo_step (froms xs) l i)
            have hpl := atL_len (hitsL (froms xs) l) i
            clear hat
            go_wp2_with fail
            refine (mat8_c s M i _ _ (hU.to (Bst hb06 hb)) (hM6.below hb) (by omega)).mono ?_
            rintro e w7 ⟨hb7, h7, _⟩
            obtain ⟨v7, l7, hd7, rfl, hO7⟩ := h7 HAT.out
            obtain rfl : l = l7 := by rw [HD.out] at hd7; injection hd7
            clear h7 hd7
            rw [HPL.out] at hO7 hpl
            obtain ⟨P, hP⟩ : ∃ P, placeL (froms xs) l i = P := ⟨_, rfl⟩
            rw [hP] at hO7 hpl HHP HST
            obtain ⟨A7, c7, rfl, _, _, hA7⟩ := hO7.slv
            rw [List.length_map] at hpl ⊢
            clear hP
            obtain ⟨wo, hwo⟩ : ∃ wo, wo = wr := ⟨_, rfl⟩
            obtain ⟨H0', hH0⟩ : ∃ n, (hitsTo (froms xs) l i).length = n := ⟨_, rfl⟩
            rw [hH0] at HHP HST ⊢
            have HH0 := Lib.hid hH0
            clear hH0
            obtain ⟨hts, hht⟩ : ∃ hts, hitsL (froms xs) l = hts := ⟨_, rfl⟩
            have HHT := Lib.hid hht
            rw [hht] at HHP hA6 hlen hpl
            go_wp2_with fail
            go_loopw [11, 65] (fun sk sj wr => ∃ j kk : Nat, sj = .int .i64 j ∧ j ≤ P.length ∧ sk = .int .i64 kk ∧ Hid (kk = H0' + j) ∧ Below w7.heap.size w7 wr) (fun _ sj _ => P.length - (intOf sj).toNat)
            case atStart => exact ⟨0, H0', rfl, by omega, rfl, rfl, Below.refl _ _⟩
            case round =>
              obtain ⟨j, kk, rfl, hj, rfl, HKK, hb8⟩ := hrel
              by_cases hjl : j < P.length
              · have hat := HHP.out j hil hjl
                rw [← HKK.out] at hat
                obtain ⟨hkl, hke⟩ := List.getElem?_eq_some_iff.1 hat
                have hb68 : Below w6.heap.size w6 wr := hb.trans ((hb7.trans (hb8.mono hb7.size)).mono hb.size)
                obtain ⟨b1, o1, rfl, y1⟩ := hA7.at1 (fun _ => rfl) hb8 j (by simpa using hjl)
                obtain ⟨b2, o2, rfl, y2, y3⟩ := hA6.at2 (fun _ => rfl) hb68 kk hkl
                rw [hke] at y2 y3
                simp only [List.getElem_map] at y1 y2 y3
                obtain ⟨r, hr⟩ : ∃ r, P[j] = r := ⟨_, rfl⟩
                rw [hr] at y1 y3
                have hjP : (j : Int) < P.length := by omega
                have hkH : (kk : Int) < hts.length := by omega
                have hkG : ¬ (hts.length : Int) ≤ (kk : Int) := by omega
                have hq : ∀ W, (Op.equalIn 10000 68 (.agg #[.int .i64 i, .int .i64 r]) (.agg #[.int .i64 i, .int .i64 r])).run Tryd.prog W = .ok true W := fun W => (mhit_equal i r i r W).trans (by simp)
                clear hat hke hr
                go_wp2
                exact ⟨⟨j + 1, kk + 1, by go_num, by omega, by go_num, by show _ = _; have := HKK.out; omega, hb8⟩, by simp [intOf]; omega⟩
              · have hje : j = P.length := by omega
                have hjP : ¬ (j : Int) < P.length := by omega
                have HK2 : Hid (kk = (hitsTo (froms xs) l (i + 1)).length) := by show _ = _; rw [HST.out, HKK.out, hje]
                clear hje
                go_wp2
                refine ⟨⟨_, .int .i64 kk, .int .i64 i, _, .int .i64 0, _, .int .i64 (i + 1 : Nat), ⟨i + 1, rfl, by omega, by rw [← HK2.out], hb.trans ((hb7.trans (hb8.mono hb7.size)).mono hb.size)⟩, rfl, rfl, rfl, rfl, rfl, rfl, by go_num⟩, by simp [intOf]; omega⟩
          · have hie : i = l.length + 1 := by omega
            have hlt : ¬ (i : Int) < l.length + 1 := by omega
            have HK3 : Hid ((hitsTo (froms xs) l i).length = (hitsL (froms xs) l).length) := by show _ = _; rw [hie, hitsTo_all]
            have hat1 : atE s (l.length + 1 : Nat) = 2 := by
              unfold atE
              rw [if_neg (by simpa using HT.out), HD.out, if_pos (by simp; omega)]
            have hat2 : atE s (-1) = 2 := by
              unfold atE
              rw [if_neg (by simpa using HT.out), if_pos (by omega)]
            have HA1 := Lib.hid hat1
            have HA2 := Lib.hid hat2
            clear hat1 hat2 hie
            rw [HK3.out]
            go_wp2_with fail
            refine (mat8_c s M (l.length + 1 : Nat) _ _ (hU.to (Bst hb06 hb)) (hM6.below hb) (by omega)).mono ?_
            rintro e w7 ⟨hb7, _, h7⟩
            obtain rfl := h7 (by rw [HA1.out]; decide)
            rw [HA1.out]
            clear h7
            go_wp2_with fail
            refine (mat8_c s M (-1) _ _ (hU.to (Bst hb06 (Bst hb hb7))) ((hM6.below hb).below hb7) (by omega)).mono ?_
            rintro e w8 ⟨hb8, _, h8⟩
            obtain rfl := h8 (by rw [HA2.out]; decide)
            rw [HA2.out]
            clear h8
            go_wp2
            go_ret
            exact ⟨by simp, Bst hb06 (Bst hb (Bst hb7 hb8))⟩
      · obtain ⟨z, hz5⟩ : ∃ z, tokE s = z := ⟨_, rfl⟩
        obtain rfl := h5' ht
        rw [hz5] at ht ⊢
        clear h5 h5' hz5
        go_wp2_with fail
        refine (dec_own s _ (hU.to Bel) (by omega)).mono ?_
        rintro e w6 ⟨hb6, h6⟩
        cases hd : decS s with
        | none =>
          rw [hd] at h6
          obtain rfl := h6
          go_wp2
          go_ret
          exact ⟨rfl, Bel⟩
        | some l6 =>
          rw [hd] at h6
          obtain ⟨v6, rfl, hO6⟩ := h6
          go_wp2
          go_ret
          exact ⟨rfl, Bel⟩
    · go_wp2
      go_ret
      exact ⟨rfl, Bel⟩
  · obtain ⟨z, hz3⟩ : ∃ z, isE xs = z := ⟨_, rfl⟩
    have HZ := Lib.hid hz3
    have HN : Hid (isE xs ≠ 0) := h0
    rw [hz3] at h0
    clear hz3
    cases hg : great8 xs s
    all_goals
      have HG := Lib.hid hg
      clear hg
      go_enter Tryd.func14, Tryd.ntmps14
      go_wp2_with fail
      refine (alive8_c _ hU).mono ?_
      rintro e w1 ⟨rfl, hb1⟩
      go_wp2_with fail
      refine (new8_c A c xs _ (hU.to hb1) (hs.below hb1) hm).mono ?_
      rintro e w3 ⟨hb3, _, hn2⟩
      obtain rfl := hn2 HN.out
      rw [HZ.out]
      clear hn2
      go_wp2_with fail
      refine (great8_c A c xs s _ (hs.below Bel) hm (by omega)).mono ?_
      rintro e w4 ⟨rfl, hb4⟩
      rw [HG.out]
      go_wp2
      go_ret
      exact ⟨rfl, Bel⟩
end Go.Proofs.YtpccanadijefnaaDoor
