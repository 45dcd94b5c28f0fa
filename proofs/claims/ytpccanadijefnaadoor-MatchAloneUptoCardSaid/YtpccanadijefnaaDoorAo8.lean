/- 'MatchAlone' walked. No condition. -/
import Derived.Test.YtpccanadijefnaaDoorPc8
namespace Go.Proofs.YtpccanadijefnaaDoor
open Go Go.RowKit
theorem isE_one {x : T3} (h : rchk x = 0) : isE [x] = 0 := by
  have h1 : errR [x] = [] := by unfold errR; simp [h]
  unfold isE
  rw [if_neg (by rw [h1]; simp), if_neg (by simp [riseT]), if_neg (by simp)]
def aloneF (hts : List (Nat × Nat)) (i j : Nat) : List (Nat × Nat) := (hts.take j).filter fun h => decide (h.2 = i)
theorem aloneF_all (hts : List (Nat × Nat)) (i : Nat) : aloneF hts i hts.length = hts.filter fun h => decide (h.2 = i) := by unfold aloneF; rw [List.take_length]
theorem aloneF_step (hts : List (Nat × Nat)) (i j : Nat) (h : j < hts.length) : aloneF hts i (j + 1) = aloneF hts i j ++ if hts[j].2 = i then [hts[j]] else [] := by
  unfold aloneF
  rw [List.take_succ_eq_append_getElem h, List.filter_append]
  by_cases h1 : hts[j].2 = i <;> simp [h1]
theorem aloneF_more (hts : List (Nat × Nat)) (i j : Nat) (_hj : j ≤ hts.length) : ∃ r, hts.filter (fun h => decide (h.2 = i)) = aloneF hts i j ++ r := by
  refine ⟨(hts.drop j).filter fun h => decide (h.2 = i), ?_⟩
  unfold aloneF
  rw [← List.filter_append, List.take_append_drop]
/-- A hit of the rule i is the own one. -/
theorem alone_at {fs : List (List Int)} {l f : List Int} {i j : Nat} (hi : fs[i]? = some f) (hj : j < (hitsL fs l).length) (h : (hitsL fs l)[j].2 = i) : (hitsL [f] l)[(aloneF (hitsL fs l) i j).length]? = some ((hitsL fs l)[j].1, 0) := by
  obtain ⟨r, hr⟩ := aloneF_more (hitsL fs l) i (j + 1) hj
  rw [aloneF_step _ _ _ hj, if_pos h, List.append_assoc, hits_alone fs l i f hi] at hr
  have h1 : ((hitsL [f] l).map fun h => (h.1, i))[(aloneF (hitsL fs l) i j).length]? = some (hitsL fs l)[j] := by
    rw [hr, List.getElem?_append_right (by omega), Nat.sub_self]; rfl
  rw [List.getElem?_map] at h1
  obtain ⟨y, hy, hyy⟩ := Option.map_eq_some_iff.1 h1
  have h2 : y.2 = 0 := by
    obtain ⟨g, h3, _⟩ := hitsL_mem.1 (show (y.1, y.2) ∈ hitsL [f] l from List.mem_of_getElem? hy)
    have := at_lt h3
    simp at this; omega
  rw [hy, ← hyy, ← h2]
theorem alone_len {fs : List (List Int)} {l f : List Int} {i : Nat} (hi : fs[i]? = some f) : (aloneF (hitsL fs l) i (hitsL fs l).length).length = (hitsL [f] l).length := by
  rw [aloneF_all, hits_alone fs l i f hi, List.length_map]
theorem small_one {xs : List T3} (hm : Small xs) (i : Nat) (hi : i < xs.length) : Small [xs[i]] := ⟨by simp, fun b hb => by
  obtain rfl : b = xs[i] := by simpa using hb
  exact hm.at i hi⟩
theorem froms_one {xs : List T3} (i : Nat) (hi : i < xs.length) : ∃ f, (froms xs)[i]? = some f ∧ froms [xs[i]] = [f] := ⟨(decS xs[i].f).getD [], by simp [froms, hi], rfl⟩
set_option maxHeartbeats 4000000 in
set_option maxRecDepth 100000 in
theorem lalone8_c (A : Option Addr) (c : Nat) (xs : List T3) (s : ByteArray) (w : World) (hU : U w) (hs : SlA eT3 w A xs) (hm : Small xs) (hz : s.size ≤ 1048576) :
    Calls Tryd.prog 12 #[.slice A xs.length c, .string s] w (Ret w (.bool true)) := by
  have hl := hm.1
  by_cases h0 : isE xs = 0
  · have hg2 : great8 xs s = true ∨ (great8 xs s = false ∧ 20 < xs.length) ∨ (great8 xs s = false ∧ xs.length ≤ 20) := by
      cases great8 xs s
      · rcases Nat.lt_or_ge 20 xs.length with h | h
        · exact .inr (.inl ⟨rfl, h⟩)
        · exact .inr (.inr ⟨rfl, h⟩)
      · exact .inl rfl
    rcases hg2 with hg | ⟨hg, hxl⟩ | ⟨hg, hxl⟩
    all_goals
      have HG := Lib.hid hg
      clear hg
      have H0 := Lib.hid h0
      have hfl := (froms_small h0).1
      clear h0
      go_enter Tryd.func12, Tryd.ntmps12
      go_wp2_with fail
      refine (alive8_c _ hU).mono ?_
      rintro e w1 ⟨rfl, hb1⟩
      go_wp2_with fail
      refine (new8_c A c xs _ (hU.to hb1) (hs.below hb1) hm).mono ?_
      rintro e w3 ⟨hb3, hn1, _⟩
      obtain ⟨M, rfl, hM⟩ := hn1 H0.out
      clear hn1
      go_wp2_with fail
      refine (great8_c A c xs s _ (hs.below Bel) hm (by omega)).mono ?_
      rintro e w4 ⟨rfl, hb4⟩
      rw [HG.out]
    · go_wp2
      go_ret
      exact ⟨rfl, Bel⟩
    · have hx1 : (20 : Int) < xs.length := by omega
      go_wp2
      go_ret
      exact ⟨rfl, Bel⟩
    · have hx1 : ¬ (20 : Int) < xs.length := by omega
      go_wp2_with fail
      have hM4 := hM.below hb4
      refine (mhits_c s M _ _ (hU.to Bel) hM4 (by omega)).mono ?_
      rintro e w5 ⟨hb5, h5, h5'⟩
      by_cases ht : tokE s = 0
      · obtain ⟨v5, l, hd, rfl, hO5⟩ := h5 ht
        have hlen := hits_len8 ht hd hfl
        have HT := Lib.hid ht
        have HD := Lib.hid hd
        obtain ⟨A5, c5, rfl, hc5, hd5, hA5⟩ := hO5.slv
        have hb05 : Below w.heap.size w w5 := Bst hb1 (Bst hb3 (Bst hb4 hb5))
        clear h5 h5' ht hd
        obtain ⟨hts, hht⟩ : ∃ hts, hitsL (froms xs) l = hts := ⟨_, rfl⟩
        have HHT := Lib.hid hht
        rw [hht] at hA5 hlen ⊢
        clear hht
        go_wp2_with fail
        go_loopw [47] (fun si wr => ∃ i : Nat, si = .int .i64 i ∧ i ≤ xs.length ∧ Below w5.heap.size w5 wr) (fun si _ => xs.length - (intOf si).toNat)
        case atStart => exact ⟨0, rfl, by omega, Below.refl _ _⟩
        case round =>
          obtain ⟨i, rfl, hi, hb⟩ := hrel
          by_cases hlt : i < xs.length
          · have hbw : Below w.heap.size w wr := Bst hb05 hb
            obtain ⟨b, o, rfl, hbl, p1, p2, p3⟩ := hs.n3 (fun _ => rfl) hbw i hlt
            obtain ⟨f, hf1, hf2⟩ := froms_one i hlt
            have HF1 := Lib.hid hf1
            have HE1 := Lib.hid (isE_one ((isE_ok H0.out).2 _ (List.getElem_mem hlt)))
            have HSM := Lib.hid (small_one hm i hlt)
            have HF2 := Lib.hid hf2
            clear hf1 hf2
            go_wp2_with fail
            refine (new8_c _ _ [xs[i]] _ (hU.to Bel) (SlA.new _ _ _ _ _ (by simp) _ rfl) HSM.out).mono ?_
            rintro e w6 ⟨hb6, hn, _⟩
            obtain ⟨M2, rfl, hM2⟩ := hn HE1.out
            rw [HF2.out] at hM2
            clear hn
            have hb16 : Below wr.heap.size wr w6 := Bst Bel hb6
            clear hb6
            go_wp2_with fail
            refine (mhits_c s M2 _ _ (hU.to (Bst hbw hb16)) hM2 (by omega)).mono ?_
            rintro e w7 ⟨hb7, h7, _⟩
            obtain ⟨v7, l', hd', rfl, hO7⟩ := h7 HT.out
            obtain rfl : l = l' := by rw [HD.out] at hd'; injection hd'
            clear h7 hd'
            obtain ⟨own, hown⟩ : ∃ own, hitsL [f] l = own := ⟨_, rfl⟩
            have hol := hits_len8 (fs := [f]) HT.out HD.out (by simp)
            have HAT : Hid (∀ j (hj : j < hts.length), hts[j].2 = i → own[(aloneF hts i j).length]? = some (hts[j].1, 0)) := by
              show ∀ j (hj : j < hts.length), _
              rw [← HHT.out, ← hown]
              exact fun j hj h => alone_at HF1.out hj h
            have HAL : Hid ((aloneF hts i hts.length).length = own.length) := by
              show _ = _
              rw [← HHT.out, ← hown]; exact alone_len HF1.out
            have HAS := Lib.hid (aloneF_step hts i)
            rw [hown] at hO7 hol
            clear hown
            obtain ⟨A7, c7, rfl, _, _, hA7⟩ := hO7.slv
            have hb57 : Below w5.heap.size w5 w7 := Bst hb (Bst hb16 hb7)
            go_wp2_with fail
            go_loopw [15, 70] (fun sk sj wr => ∃ j k : Nat, sj = .int .i64 j ∧ j ≤ hts.length ∧ sk = .int .i64 k ∧ Hid (k = (aloneF hts i j).length) ∧ Below w7.heap.size w7 wr) (fun _ sj _ => hts.length - (intOf sj).toNat)
            case atStart => exact ⟨0, 0, rfl, by omega, rfl, rfl, Below.refl _ _⟩
            case round =>
              obtain ⟨j, k, rfl, hj, rfl, HK, hb8⟩ := hrel
              by_cases hjl : j < hts.length
              · obtain ⟨b2, o2, rfl, y2, y3⟩ := hA5.at2 (fun _ => rfl) (Bst hb57 hb8) j hjl
                have hjP : (j : Int) < hts.length := by omega
                by_cases hri : hts[j].2 = i
                · have hat := HAT.out j hjl hri
                  rw [← HK.out] at hat
                  obtain ⟨hkl, hke⟩ := List.getElem?_eq_some_iff.1 hat
                  have HK2 : Hid (k + 1 = (aloneF hts i (j + 1)).length) := by show _ = _; rw [HAS.out j hjl, if_pos hri, HK.out]; simp
                  obtain ⟨b3, o3, rfl, z2, z3⟩ := hA7.at2 (fun _ => rfl) (hb8.trans ((Bel : Below wr.heap.size wr (wr.alloc (.cells #[.int .i64 hts[j].1, .int .i64 hts[j].2] 68))).mono hb8.size)) k hkl
                  rw [hke] at z2 z3
                  rw [hri] at y3 z2 z3
                  dsimp only at z2 z3
                  obtain ⟨r, hr⟩ : ∃ r, hts[j].1 = r := ⟨_, rfl⟩
                  rw [hr] at y2 z2 z3
                  have hkH : (k : Int) < own.length := by omega
                  have hkG : ¬ (own.length : Int) ≤ (k : Int) := by omega
                  have hq : ∀ W, (Op.equalIn 10000 68 (.agg #[.int .i64 r, .int .i64 0]) (.agg #[.int .i64 r, .int .i64 0])).run Tryd.prog W = .ok true W := fun W => (mhit_equal r 0 r 0 W).trans (by simp)
                  clear hat hke hr hri
                  have hkD : decide ((own.length : Int) ≤ (k : Int)) = false := decide_eq_false hkG
                  go_wp2_with fail
                  go_quiet (fail)
                  go_wp2
                  exact ⟨⟨j + 1, k + 1, by go_num, by omega, by go_num, HK2, Bst hb8 Bel⟩, by simp [intOf]; omega⟩
                · have HK2 : Hid (k = (aloneF hts i (j + 1)).length) := by show _ = _; rw [HAS.out j hjl, if_neg hri, List.append_nil]; exact HK.out
                  obtain ⟨r, hr⟩ : ∃ r, hts[j].2 = r := ⟨_, rfl⟩
                  rw [hr] at y3 hri
                  clear hr
                  have hri2 : ((r : Int) == (i : Int)) = false := by rw [beq_eq_false_iff_ne]; omega
                  clear hri
                  go_wp2_with fail
                  exact ⟨⟨j + 1, k, by go_num, by omega, rfl, HK2, Bst hb8 Bel⟩, by simp [intOf]; omega⟩
              · have hje : j = hts.length := by omega
                have hjP : ¬ (j : Int) < hts.length := by omega
                have HKE : Hid (k = own.length) := by show _ = _; rw [HK.out, hje, HAL.out]
                clear hje
                rw [HKE.out]
                go_wp2_with fail
                exact ⟨⟨i + 1, by go_num, by omega, hb57.trans (hb8.mono hb57.size)⟩, by simp [intOf]; omega⟩
          · go_wp2
            go_ret
            exact ⟨rfl, Bst hb05 hb⟩
      · obtain ⟨z, hz5⟩ : ∃ z, tokE s = z := ⟨_, rfl⟩
        obtain rfl := h5' ht
        rw [hz5] at ht ⊢
        clear h5 h5' hz5
        go_wp2
        go_ret
        exact ⟨rfl, Bel⟩
  · obtain ⟨z, hz3⟩ : ∃ z, isE xs = z := ⟨_, rfl⟩
    have HZ := Lib.hid hz3
    have HN : Hid (isE xs ≠ 0) := h0
    rw [hz3] at h0
    clear hz3
    have hz0 : (z != 0) = true := by simpa using h0
    cases hg : great8 xs s
    all_goals
      have HG := Lib.hid hg
      clear hg
      rcases Nat.lt_or_ge 20 xs.length with hxl | hxl
      all_goals
        first | (have hx1 : (20 : Int) < xs.length := by omega) | (have hx1 : ¬ (20 : Int) < xs.length := by omega)
        go_enter Tryd.func12, Tryd.ntmps12
        go_wp2_with fail
        refine (alive8_c _ hU).mono ?_
        rintro e w1 ⟨rfl, hb1⟩
        go_wp2_with fail
        refine (new8_c A c xs _ (hU.to hb1) (hs.below hb1) hm).mono ?_
        rintro e w3 ⟨hb3, _, hn2⟩
        obtain rfl := hn2 HN.out
        rw [HZ.out]
        clear hn2
        go_wp2_with fail
        refine (great8_c A c xs s _ (hs.below Bel) hm (by omega)).mono ?_
        rintro e w4 ⟨rfl, hb4⟩
        rw [HG.out]
        go_wp2
        go_ret
        exact ⟨rfl, Bel⟩
end Go.Proofs.YtpccanadijefnaaDoor
