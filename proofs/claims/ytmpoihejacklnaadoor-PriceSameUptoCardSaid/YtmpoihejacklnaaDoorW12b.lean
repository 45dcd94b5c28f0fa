/- PriceSame walked. No condition. -/
import Derived.Test.YtmpoihejacklnaaDoorP09
import Derived.Test.YtmpoihejacklnaaDoorGrt12
namespace Go.Proofs.YtmpoihejacklnaaDoor
open Go Go.RowKit
theorem str_eq12 (a b : ByteArray) : (a.toList == b.toList) = decide (a = b) := by
  by_cases h : a = b
  · subst h; simp
  · rw [decide_eq_false h]
    refine beq_eq_false_iff_ne.2 fun e => h ?_
    have e2 := congrArg List.toByteArray e
    first | simpa using e2 | exact ba_ext' (by simpa [ByteArray.toList_eq] using e)
theorem small_nil : Small [] := ⟨by simp, fun b hb => by cases hb⟩
set_option maxHeartbeats 2000000 in
set_option maxRecDepth 100000 in
theorem sames_c (A : Option Addr) (c : Nat) (xs : List T3) (t v : ByteArray) (w : World) (hU : U w) (hs : SlA eT3 w A xs) (hm : Small xs) (hz : t.size ≤ 1048576) (hz2 : v.size ≤ 1048576) :
    Calls Tryd.prog 7 #[.slice A xs.length c, .string t, .string v] w (Ret w (.bool true)) := by
  have CN := fun W hW => pprice_c none 0 [] t v W (hU.to hW) SlA.nil small_nil (by omega) (by omega)
  rw [prcE_nil] at CN
  go_enter Tryd.func7, Tryd.ntmps7
  go_wp2_with fail
  refine (alive12_c w hU).mono ?_
  rintro e w2 ⟨rfl, hb02⟩
  go_wp2_with fail
  refine (great12_c A c xs t v w2 (hs.below hb02) hm (by omega) (by omega)).mono ?_
  rintro e w3 ⟨rfl, hb3⟩
  have hb03 := Bst hb02 hb3
  cases hg : great12 xs t v with
  | true =>
    go_wp2
    go_ret
    exact ⟨rfl, hb03⟩
  | false =>
    clear hg
    go_wp2_with fail
    refine (pprice_c A c xs t v w3 (hU.to hb03) (hs.below hb03) hm (by omega) (by omega)).mono ?_
    rintro e w4 ⟨rfl, hb4⟩
    have hb04 := Bst hb03 hb4
    go_wp2_with fail
    refine (CN w4 hb04).mono ?_
    rintro e w5 ⟨rfl, hb5⟩
    have hb05 := Bst hb04 hb5
    go_wp2_with fail
    refine (dist_c t v w5 (hU.to hb05) (by omega) (by omega)).mono ?_
    rintro e w6 ⟨rfl, hb6⟩
    have hb06 := Bst hb05 hb6
    by_cases h0 : prcE xs t v = 0
    · obtain ⟨k1, k2, k3, k4, k5, k6⟩ := same12 h0
      rw [prcE_nil] at k1
      have hd : disV t v = dd (rnS t) (rnS v) (rnS t).length (rnS v).length := by unfold disV; rw [if_pos k1]
      rw [← hd] at k2
      have hle := prcV_le (xs := []) (t := t) (w := v)
      have CT := fun W hW => pprice_c A c xs t t W (hU.to hW) (hs.below hW) hm (by omega) (by omega)
      rw [k5, k6] at CT
      rw [h0, k1]
      obtain ⟨n, hn⟩ : ∃ n, prcV xs t v = n := ⟨_, rfl⟩
      obtain ⟨m, hm'⟩ : ∃ n, prcV [] t v = n := ⟨_, rfl⟩
      obtain ⟨d, hd'⟩ : ∃ n, disV t v = n := ⟨_, rfl⟩
      rw [hn] at k3 k4 ⊢
      rw [hm'] at k2 k3 hle ⊢
      rw [hd'] at k2 ⊢
      clear hn hm' hd' hd CN h0
      have hw1 : IntKind.i64.wrap (255 * (d : Int)) = 255 * (d : Int) := IntWalk.i64_in _ (by omega)
      have hB1 : ((m : Int) == 255 * (d : Int)) = true := by rw [beq_iff_eq]; omega
      have hB2 : (n : Int) ≤ m := by omega
      by_cases he : t = v
      · have hB3 : ((n : Int) == 0) = true := by rw [beq_iff_eq]; have := k4.2 he; omega
        have hB5 : (t.toList == v.toList) = true := by rw [str_eq12, decide_eq_true he]
        clear k4 he k2 k3
        go_wp2_with fail
        refine (CT w6 hb06).mono ?_
        rintro e w7 ⟨rfl, hb7⟩
        go_wp2
        go_ret
        exact ⟨by first | rfl | simp [hB3, hB5], Bst hb06 hb7⟩
      · have hB3 : ((n : Int) == 0) = false := by rw [beq_eq_false_iff_ne]; intro h; exact he (k4.1 (by omega))
        have hB5 : (t.toList == v.toList) = false := by rw [str_eq12, decide_eq_false he]
        clear k4 k2 k3
        go_wp2_with fail
        refine (CT w6 hb06).mono ?_
        rintro e w7 ⟨rfl, hb7⟩
        go_wp2
        go_ret
        exact ⟨by first | rfl | simp [hB3, hB5], Bst hb06 hb7⟩
    · obtain ⟨z, hz3⟩ : ∃ z, prcE xs t v = z := ⟨_, rfl⟩
      have hz0 : z ≠ 0 := hz3 ▸ h0
      rw [hz3]
      clear h0 hz3
      go_wp2
      go_ret
      exact ⟨rfl, hb06⟩
end Go.Proofs.YtmpoihejacklnaaDoor
