/- CountParts walked. No condition. -/
import Derived.Test.YtpccanadijefnaaDoorMrgW
namespace Go.Proofs.YtpccanadijefnaaDoor
open Go Go.RowKit
set_option maxHeartbeats 2000000 in
set_option maxRecDepth 100000 in
theorem parts_c (A B : Option Addr) (c d : Nat) (xs ys : List T3) (w : World) (hU : U w) (hs : SlA eT3 w A xs) (ht : SlA eT3 w B ys) (hm : Small xs) (hn : Small ys) :
    Calls Tryd.prog 8 #[.slice A xs.length c, .slice B ys.length d] w (Ret w (.bool true)) := by
  have hl := hm.1
  have hl2 := hn.1
  cases hg : greatT xs
  · have HG := Lib.hid hg
    cases hg2 : greatT ys
    · have HG2 := Lib.hid hg2
      have hl5 := great_len hg
      have hl6 := great_len hg2
      clear hg hg2
      by_cases h0 : tabE xs = 0
      · by_cases h1 : tabE ys = 0
        · have H0 := Lib.hid h0; have H1 := Lib.hid h1
          have hz := tabE_zero.1 h0
          have hz2 := tabE_zero.1 h1
          have HEA := Lib.hid (each_app hz.1 hz2.1)
          have hmn := small_app hm hn (by omega)
          clear h0 h1 hz hz2
          go_enter Tryd.func8, Tryd.ntmps8
          go_wp2_with fail
          refine (alive_c _ (hU.to Bel)).mono ?_
          rintro e w1 ⟨rfl, hb1⟩
          go_wp2_with fail
          refine (great_c A c xs _ (hs.below Bel) hm).mono ?_
          rintro e w2 ⟨rfl, hb2⟩
          rw [HG.out]
          go_wp2_with fail
          refine (great_c B d ys _ (ht.below Bel) hn).mono ?_
          rintro e w3 ⟨rfl, hb3⟩
          rw [HG2.out]
          go_wp2_with fail
          refine (tab_c A c xs _ (hU.to Bel) (hs.below Bel) hm).mono ?_
          rintro e w4 ⟨ta, r, rfl, hta, hb4, hok, hno⟩
          obtain ⟨A1, c1, rfl, hc11, hc12, hs1⟩ := hta
          obtain ⟨hm1, hle1⟩ := tab_small hok hno hm
          have HA := Lib.hid hok
          clear hok hno
          rw [H0.out]
          go_wp2_with fail
          refine (tab_c B d ys _ (hU.to Bel) (ht.below Bel) hn).mono ?_
          rintro e w5 ⟨tb, r, rfl, htb, hb5, hok, hno⟩
          obtain ⟨B1, d1, rfl, hd11, hd12, ht1⟩ := htb
          obtain ⟨hn1, hle2⟩ := tab_small hok hno hn
          have HB := Lib.hid hok
          clear hok hno
          rw [H1.out]
          have HTA := Lib.hid (HA.out H0.out)
          have HTB := Lib.hid (HB.out H1.out)
          have HKA := Lib.hid (HTA.out.ok H0.out)
          have HKB := Lib.hid (HTB.out.ok H1.out)
          have HE := Lib.hid (mrgE_of HTA.out.tab HTB.out.tab HKA.out HKB.out HEA.out)
          have HN0 := Lib.hid (mrgE_nil HKA.out)
          go_wp2_with fail
          refine (mrg_c A1 B1 c1 d1 ta tb _ (hU.to Bel) (hs1.below Bel) (ht1.below Bel) hm1 hn1 hc11 hc12 hd11 hd12).mono ?_
          rintro e w6 ⟨zs, r, rfl, hzs, hb6, hok, hno⟩
          obtain ⟨A6, c6, rfl, _, _, hs6⟩ := hzs
          have HOK := Lib.hid (And.intro hok hno)
          clear hok hno
          have hs1w6 := hs1.below (w' := w6) Bel
          have hb6w : Below w.heap.size w w6 := Bel
          go_wp2_with (first | (at_builtin; refine app_any (E := eT3) (w0 := w6) (.tmp 46) _ 22 25 (.agg #[.string .empty, .string .empty, .int .i64 0]) 40 rfl rfl Tryd.underlying22 info_blk rfl (by decide) (by decide) _ [] xs _ _ rfl rfl (Own.lit eT3 w6.heap.size 25 w6 (Nat.le_refl _)) ((hs.below hb6w).below Bel) Bel (by simp; omega) ?_; intro v7 w7 HO7 hb7; rw [List.nil_append] at HO7) | (at_builtin; refine app_any (E := eT3) (w0 := w6) (.tmp 48) _ 22 25 (.agg #[.string .empty, .string .empty, .int .i64 0]) 40 rfl rfl Tryd.underlying22 info_blk rfl (by decide) (by decide) _ xs ys _ _ rfl rfl HO7 ((ht.below hb6w).below hb7) hb7 (by omega) ?_; intro v8 w8 HO8 hb8))
          go_wp2_with fail
          obtain ⟨A8, c8, rfl, _, _, hs8⟩ := HO8.slv
          refine (tab_c A8 c8 (xs ++ ys) _ (hU.to (Bst hb6w hb8)) hs8 hmn).mono ?_
          rintro e w9 ⟨us, r, rfl, hus, hb9, hok, hno⟩
          obtain ⟨A9, c9, rfl, _, _, hs9⟩ := hus
          rw [← HE.out] at hok hno ⊢
          have HQ : Hid (zs = us ∧ zs.length ≤ 2000) := merge_eq HOK.out.1 HOK.out.2 (fun h => (hok h).uniq (mergeL_tab HTA.out.tab HTB.out.tab).of) hno (by omega)
          have hb69 : Below w6.heap.size w6 w9 := Bst hb8 hb9
          have hs16 : SlA eT3 w9 A1 ta := hs1w6.below hb69
          have hs69 := hs6.below hb69
          have hb9w : Below w.heap.size w w9 := Bst hb6w hb69
          clear hok hno hb7 hb8 hb9 HO7 HO8 hb6w hb69 hb6
          go_wp2_with fail
          refine (mrg_c A1 none c1 0 ta [] _ (hU.to Bel) (hs16.below Bel) SlA.nil hm1 ⟨by simp, fun b hb => by simp at hb⟩ hc11 hc12 (by simp) (by omega)).mono ?_
          rintro e wa ⟨ws, r, rfl, hws, hba, hok, hno⟩
          obtain ⟨Aa, ca, rfl, _, _, hsa⟩ := hws
          have HW : Hid (ws = ta) := (hok HN0.out).trans (mergeL_nil ta)
          rw [HN0.out]
          clear hok hno
          go_wp2_with fail
          refine (same_c A6 A9 c6 c9 zs us _ (hs69.below Bel) (hs9.below Bel) (by have := HQ.out.2; omega) (by have := HQ.out.2; rw [← HQ.out.1]; omega)).mono ?_
          rintro e wb ⟨rfl, hbb⟩
          rw [HQ.out.1, same_refl]
          go_wp2_with fail
          refine (same_c Aa A1 ca c1 ws ta _ (hsa.below Bel) (hs16.below Bel) (by rw [HW.out]; omega) (by omega)).mono ?_
          rintro e wc ⟨rfl, hbc⟩
          rw [HW.out, same_refl]
          go_wp2_with fail
          go_ret
          exact ⟨rfl, Bel⟩
        · have H0 := Lib.hid h0
          have hne : (tabE ys != 0) = true := by simp [h1]
          clear h0 h1
          go_enter Tryd.func8, Tryd.ntmps8
          go_wp2_with fail
          refine (alive_c _ (hU.to Bel)).mono ?_
          rintro e w1 ⟨rfl, hb1⟩
          go_wp2_with fail
          refine (great_c A c xs _ (hs.below Bel) hm).mono ?_
          rintro e w2 ⟨rfl, hb2⟩
          rw [HG.out]
          go_wp2_with fail
          refine (great_c B d ys _ (ht.below Bel) hn).mono ?_
          rintro e w3 ⟨rfl, hb3⟩
          rw [HG2.out]
          go_wp2_with fail
          refine (tab_c A c xs _ (hU.to Bel) (hs.below Bel) hm).mono ?_
          rintro e w4 ⟨ta, r, rfl, hta, hb4, hok, hno⟩
          obtain ⟨A1, c1, rfl, hc11, hc12, hs1⟩ := hta
          obtain ⟨hm1, hle1⟩ := tab_small hok hno hm
          have HA := Lib.hid hok
          clear hok hno
          rw [H0.out]
          go_wp2_with fail
          refine (tab_c B d ys _ (hU.to Bel) (ht.below Bel) hn).mono ?_
          rintro e w5 ⟨tb, r, rfl, htb, hb5, hok, hno⟩
          obtain ⟨B1, d1, rfl, hd11, hd12, ht1⟩ := htb
          obtain ⟨hn1, hle2⟩ := tab_small hok hno hn
          have HB := Lib.hid hok
          clear hok hno
          go_wp2_with fail
          go_ret
          exact ⟨rfl, Bel⟩
      · have hne : (tabE xs != 0) = true := by simp [h0]
        clear h0
        go_enter Tryd.func8, Tryd.ntmps8
        go_wp2_with fail
        refine (alive_c _ (hU.to Bel)).mono ?_
        rintro e w1 ⟨rfl, hb1⟩
        go_wp2_with fail
        refine (great_c A c xs _ (hs.below Bel) hm).mono ?_
        rintro e w2 ⟨rfl, hb2⟩
        rw [HG.out]
        go_wp2_with fail
        refine (great_c B d ys _ (ht.below Bel) hn).mono ?_
        rintro e w3 ⟨rfl, hb3⟩
        rw [HG2.out]
        go_wp2_with fail
        refine (tab_c A c xs _ (hU.to Bel) (hs.below Bel) hm).mono ?_
        rintro e w4 ⟨ta, r, rfl, hta, hb4, hok, hno⟩
        obtain ⟨A1, c1, rfl, hc11, hc12, hs1⟩ := hta
        obtain ⟨hm1, hle1⟩ := tab_small hok hno hm
        have HA := Lib.hid hok
        clear hok hno
        go_wp2_with fail
        refine (tab_c B d ys _ (hU.to Bel) (ht.below Bel) hn).mono ?_
        rintro e w5 ⟨tb, r, rfl, htb, hb5, hok, hno⟩
        obtain ⟨B1, d1, rfl, hd11, hd12, ht1⟩ := htb
        obtain ⟨hn1, hle2⟩ := tab_small hok hno hn
        have HB := Lib.hid hok
        clear hok hno
        go_wp2_with fail
        go_ret
        exact ⟨rfl, Bel⟩
    · have HG2 := Lib.hid hg2
      clear hg hg2
      go_enter Tryd.func8, Tryd.ntmps8
      go_wp2_with fail
      refine (alive_c _ (hU.to Bel)).mono ?_
      rintro e w1 ⟨rfl, hb1⟩
      go_wp2_with fail
      refine (great_c A c xs _ (hs.below Bel) hm).mono ?_
      rintro e w2 ⟨rfl, hb2⟩
      rw [HG.out]
      go_wp2_with fail
      refine (great_c B d ys _ (ht.below Bel) hn).mono ?_
      rintro e w3 ⟨rfl, hb3⟩
      rw [HG2.out]
      go_wp2_with fail
      go_ret
      exact ⟨rfl, Bel⟩
  · have HG := Lib.hid hg
    clear hg
    go_enter Tryd.func8, Tryd.ntmps8
    go_wp2_with fail
    refine (alive_c _ (hU.to Bel)).mono ?_
    rintro e w1 ⟨rfl, hb1⟩
    go_wp2_with fail
    refine (great_c A c xs _ (hs.below Bel) hm).mono ?_
    rintro e w2 ⟨rfl, hb2⟩
    rw [HG.out]
    go_wp2_with fail
    go_ret
    exact ⟨rfl, Bel⟩
end Go.Proofs.YtpccanadijefnaaDoor
