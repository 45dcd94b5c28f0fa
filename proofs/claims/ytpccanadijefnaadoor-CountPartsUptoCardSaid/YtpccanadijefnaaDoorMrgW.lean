/- CountMerges walked. No condition. -/
import Derived.Test.YtpccanadijefnaaDoorMrgA
namespace Go.Proofs.YtpccanadijefnaaDoor
open Go Go.RowKit
theorem merge_eq {l m zs us : List T3} {n : Nat} (h1 : mrgE l m = 0 → zs = mergeL l m) (h2 : mrgE l m ≠ 0 → zs = []) (k1 : mrgE l m = 0 → us = mergeL l m) (k2 : mrgE l m ≠ 0 → us = []) (h : l.length + m.length ≤ n) : Hid (zs = us ∧ zs.length ≤ n) := by
  show zs = us ∧ zs.length ≤ n
  by_cases h0 : mrgE l m = 0
  · rw [h1 h0, k1 h0]; exact ⟨rfl, Nat.le_trans (mergeL_len l m) h⟩
  · rw [h2 h0, k2 h0]; exact ⟨rfl, by simp⟩
theorem tab_small {l ys : List T3} (h : tabE l = 0 → TabOf l ys) (k : tabE l ≠ 0 → ys = []) (hm : Small l) : Small ys ∧ ys.length ≤ l.length := by
  by_cases h0 : tabE l = 0
  · exact ⟨(h h0).small hm, (h h0).le⟩
  · rw [k h0]; exact ⟨⟨by simp, fun b hb => by simp at hb⟩, by simp⟩
set_option maxHeartbeats 2000000 in
set_option maxRecDepth 100000 in
theorem merges_c (A B : Option Addr) (c d : Nat) (xs ys : List T3) (so : Bool) (w : World) (hU : U w) (hs : SlA eT3 w A xs) (ht : SlA eT3 w B ys) (hm : Small xs) (hn : Small ys) (hc : xs.length ≤ c) (hc2 : c ≤ 9223372036854775807) (hd : ys.length ≤ d) (hd2 : d ≤ 9223372036854775807) :
    Calls Tryd.prog 7 #[.slice A xs.length c, .slice B ys.length d, .bool so] w (Ret w (.bool true)) := by
  have hl := hm.1
  have hl2 := hn.1
  cases hg : greatT xs
  · have HG := Lib.hid hg
    cases hg2 : greatT ys
    · have HG2 := Lib.hid hg2
      have hl5 := great_len hg
      have hl6 := great_len hg2
      clear hg hg2
      cases so
      · have hmn := small_app hm hn (by omega)
        go_enter Tryd.func7, Tryd.ntmps7
        go_wp2_with fail
        refine (alive_c _ (hU.to Bel)).mono ?_
        rintro e w1 ⟨rfl, hb1⟩
        go_wp2_with fail
        refine (great_c A c xs _ (hs.below Bel) hm).mono ?_
        rintro e w2 ⟨rfl, hb2⟩
        rw [HG.out]
        go_wp2_with fail
        refine (great_c B d ys _ (ht.below Bel) hn).mono ?_
        rintro e w3 ⟨rfl, hb3⟩
        rw [HG2.out]
        go_wp2_with fail
        refine (mrg_c A B c d xs ys _ (hU.to Bel) (hs.below Bel) (ht.below Bel) hm hn hc hc2 hd hd2).mono ?_
        rintro e w6 ⟨zs, r, rfl, hzs, hb6, hok, hno⟩
        obtain ⟨A6, c6, rfl, _, _, hs6⟩ := hzs
        have HOK := Lib.hid (And.intro hok hno)
        clear hok hno
        go_wp2_with fail
        refine (r6mrg_c A B c d xs ys _ (hs.below Bel) (ht.below Bel) hm hn hmn).mono ?_
        rintro e w7 ⟨us, r, rfl, hus, hb7, hok, hno⟩
        obtain ⟨A7, c7, rfl, _, _, hs7⟩ := hus
        have HE : Hid (zs = us ∧ zs.length ≤ 2000) := merge_eq HOK.out.1 HOK.out.2 hok hno (by omega)
        clear hok hno
        go_wp2_with fail
        refine (same_c A6 A7 c6 c7 zs us _ (hs6.below Bel) (hs7.below Bel) (by have := HE.out.2; omega) (by have := HE.out.2; rw [← HE.out.1]; omega)).mono ?_
        rintro e w9 ⟨rfl, hb9⟩
        rw [HE.out.1, same_refl]
        go_wp2_with fail
        go_ret
        exact ⟨rfl, Bel⟩
      · skip
        go_enter Tryd.func7, Tryd.ntmps7
        go_wp2_with fail
        refine (alive_c _ (hU.to Bel)).mono ?_
        rintro e w1 ⟨rfl, hb1⟩
        go_wp2_with fail
        refine (great_c A c xs _ (hs.below Bel) hm).mono ?_
        rintro e w2 ⟨rfl, hb2⟩
        rw [HG.out]
        go_wp2_with fail
        refine (great_c B d ys _ (ht.below Bel) hn).mono ?_
        rintro e w3 ⟨rfl, hb3⟩
        rw [HG2.out]
        go_wp2_with fail
        refine (r6tab_c A c xs _ (hs.below Bel) hm).mono ?_
        rintro e w4 ⟨ta, r, rfl, hta, hb4, hok, hno⟩
        obtain ⟨A1, c1, rfl, hc11, hc12, hs1⟩ := hta
        obtain ⟨hm1, hle1⟩ := tab_small hok hno hm
        clear hok hno
        go_wp2_with fail
        refine (r6tab_c B d ys _ (ht.below Bel) hn).mono ?_
        rintro e w5 ⟨tb, r, rfl, htb, hb5, hok, hno⟩
        obtain ⟨B1, d1, rfl, hd11, hd12, ht1⟩ := htb
        obtain ⟨hn1, hle2⟩ := tab_small hok hno hn
        clear hok hno
        have hmn := small_app hm1 hn1 (by omega)
        go_wp2_with fail
        refine (mrg_c A1 B1 c1 d1 ta tb _ (hU.to Bel) (hs1.below Bel) (ht1.below Bel) hm1 hn1 hc11 hc12 hd11 hd12).mono ?_
        rintro e w6 ⟨zs, r, rfl, hzs, hb6, hok, hno⟩
        obtain ⟨A6, c6, rfl, _, _, hs6⟩ := hzs
        have HOK := Lib.hid (And.intro hok hno)
        clear hok hno
        go_wp2_with fail
        refine (r6mrg_c A1 B1 c1 d1 ta tb _ (hs1.below Bel) (ht1.below Bel) hm1 hn1 hmn).mono ?_
        rintro e w7 ⟨us, r, rfl, hus, hb7, hok, hno⟩
        obtain ⟨A7, c7, rfl, _, _, hs7⟩ := hus
        have HE : Hid (zs = us ∧ zs.length ≤ 2000) := merge_eq HOK.out.1 HOK.out.2 hok hno (by omega)
        clear hok hno
        go_wp2_with fail
        refine (same_c A6 A7 c6 c7 zs us _ (hs6.below Bel) (hs7.below Bel) (by have := HE.out.2; omega) (by have := HE.out.2; rw [← HE.out.1]; omega)).mono ?_
        rintro e w9 ⟨rfl, hb9⟩
        rw [HE.out.1, same_refl]
        go_wp2_with fail
        go_ret
        exact ⟨rfl, Bel⟩
    · have HG2 := Lib.hid hg2
      clear hg hg2
      go_enter Tryd.func7, Tryd.ntmps7
      go_wp2_with fail
      refine (alive_c _ (hU.to Bel)).mono ?_
      rintro e w1 ⟨rfl, hb1⟩
      go_wp2_with fail
      refine (great_c A c xs _ (hs.below Bel) hm).mono ?_
      rintro e w2 ⟨rfl, hb2⟩
      rw [HG.out]
      go_wp2_with fail
      refine (great_c B d ys _ (ht.below Bel) hn).mono ?_
      rintro e w3 ⟨rfl, hb3⟩
      rw [HG2.out]
      go_wp2_with fail
      go_ret
      exact ⟨rfl, Bel⟩
  · have HG := Lib.hid hg
    clear hg
    go_enter Tryd.func7, Tryd.ntmps7
    go_wp2_with fail
    refine (alive_c _ (hU.to Bel)).mono ?_
    rintro e w1 ⟨rfl, hb1⟩
    go_wp2_with fail
    refine (great_c A c xs _ (hs.below Bel) hm).mono ?_
    rintro e w2 ⟨rfl, hb2⟩
    rw [HG.out]
    go_wp2_with fail
    go_ret
    exact ⟨rfl, Bel⟩
end Go.Proofs.YtpccanadijefnaaDoor
