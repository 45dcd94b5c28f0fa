/- PricePrices, PriceWithin walked. No condition. -/
import Derived.Test.YtmpoihejacklnaaDoorP09
import Derived.Test.YtmpoihejacklnaaDoorGrt12
import Derived.Test.YtmpoihejacklnaaDoorP03
namespace Go.Proofs.YtmpoihejacklnaaDoor
open Go Go.RowKit
set_option maxHeartbeats 2000000 in
set_option maxRecDepth 100000 in
theorem prices_c (A : Option Addr) (c : Nat) (xs : List T3) (t v : ByteArray) (b : Int) (w : World) (hU : U w) (hs : SlA eT3 w A xs) (hm : Small xs) (hz : t.size ≤ 1048576) (hz2 : v.size ≤ 1048576) :
    Calls Tryd.prog 4 #[.agg #[.slice A xs.length c, .string t, .string v, .int .i64 b]] w (Ret w (.bool true)) := by
  have hbx := Bx.new w 32 #[.slice A xs.length c, .string t, .string v, .int .i64 b]
  have hba : Below w.heap.size w (w.alloc (.cells #[.slice A xs.length c, .string t, .string v, .int .i64 b] 32)) := Bal (Below.refl _ _) _
  go_enter Tryd.func4, Tryd.ntmps4
  go_wp2_with fail
  generalize (w.alloc (.cells #[.slice A xs.length c, .string t, .string v, .int .i64 b] 32)) = w0 at hbx hba ⊢
  refine (alive12_c w0 (hU.to hba)).mono ?_
  rintro e w1 ⟨rfl, hb1⟩
  have hbx1 := hbx.below hb1
  have q0 := hbx1.cell 0
  have q1 := hbx1.cell 1
  have q2 := hbx1.cell 2
  have q3 := hbx1.cell 3
  simp at q0 q1 q2 q3
  have hb01 := Bst hba hb1
  go_wp2_with fail
  go_region
  have hbd : Below w1.heap.size w1 w1.drew := Below.drew (Below.refl _ _)
  have hb02 := Bst hb01 hbd
  generalize w1.drew = w2 at hb02 ⊢
  go_wp2_with fail
  refine (great12_c A c xs t v w2 (hs.below hb02) hm (by omega) (by omega)).mono ?_
  rintro e w3 ⟨rfl, hb3⟩
  have hb03 := Bst hb02 hb3
  cases hg : great12 xs t v with
  | true =>
    go_wp2
    go_ret
    exact ⟨rfl, hb03⟩
  | false =>
    clear hg
    go_wp2_with fail
    refine (pprice_c A c xs t v w3 (hU.to hb03) (hs.below hb03) hm (by omega) (by omega)).mono ?_
    rintro e w4 ⟨rfl, hb4⟩
    have hb04 := Bst hb03 hb4
    go_wp2_with fail
    refine (rprice_c A c xs t v w4 (hs.below hb04) hm (by omega) (by omega)).mono ?_
    rintro e w5 ⟨rfl, hb5⟩
    have hb05 := Bst hb04 hb5
    go_wp2_with fail
    refine (pwithin_c A c xs t v b w5 (hU.to hb05) (hs.below hb05) hm (by omega) (by omega)).mono ?_
    rintro e w6 ⟨rfl, hb6⟩
    have hb06 := Bst hb05 hb6
    go_wp2_with fail
    refine (rwithin_c A c xs t v b w6 (hs.below hb06) hm (by omega) (by omega)).mono ?_
    rintro e w7 ⟨rfl, hb7⟩
    have hb07 := Bst hb06 hb7
    go_wp2
    go_ret
    exact ⟨rfl, hb07⟩
set_option maxHeartbeats 2000000 in
set_option maxRecDepth 100000 in
theorem withins_c (A : Option Addr) (c : Nat) (xs : List T3) (t v : ByteArray) (b : Nat) (w : World) (hU : U w) (hs : SlA eT3 w A xs) (hm : Small xs) (hz : t.size ≤ 1048576) (hz2 : v.size ≤ 1048576) (hb : b ≤ 65535) :
    Calls Tryd.prog 5 #[.agg #[.slice A xs.length c, .string t, .string v, .int .u16 b]] w (Ret w (.bool true)) := by
  have hbx := Bx.new w 37 #[.slice A xs.length c, .string t, .string v, .int .u16 b]
  have hba : Below w.heap.size w (w.alloc (.cells #[.slice A xs.length c, .string t, .string v, .int .u16 b] 37)) := Bal (Below.refl _ _) _
  go_enter Tryd.func5, Tryd.ntmps5
  go_wp2_with fail
  generalize (w.alloc (.cells #[.slice A xs.length c, .string t, .string v, .int .u16 b] 37)) = w0 at hbx hba ⊢
  refine (alive12_c w0 (hU.to hba)).mono ?_
  rintro e w1 ⟨rfl, hb1⟩
  have hbx1 := hbx.below hb1
  have q0 := hbx1.cell 0
  have q1 := hbx1.cell 1
  have q2 := hbx1.cell 2
  have q3 := hbx1.cell 3
  simp at q0 q1 q2 q3
  have hb01 := Bst hba hb1
  go_wp2_with fail
  go_region
  have hbd : Below w1.heap.size w1 w1.drew := Below.drew (Below.refl _ _)
  have hb02 := Bst hb01 hbd
  generalize w1.drew = w2 at hb02 ⊢
  go_wp2_with fail
  refine (great12_c A c xs t v w2 (hs.below hb02) hm (by omega) (by omega)).mono ?_
  rintro e w3 ⟨rfl, hb3⟩
  have hb03 := Bst hb02 hb3
  cases hg : great12 xs t v with
  | true =>
    go_wp2
    go_ret
    exact ⟨rfl, hb03⟩
  | false =>
    clear hg
    by_cases h4 : (4096 : Int) < b
    · go_wp2
      go_ret
      exact ⟨rfl, hb03⟩
    · go_wp2_with fail
      refine (pprice_c A c xs t v w3 (hU.to hb03) (hs.below hb03) hm (by omega) (by omega)).mono ?_
      rintro e w4 ⟨rfl, hb4⟩
      have hb04 := Bst hb03 hb4
      have hcv : IntKind.i64.wrap (b : Int) = b := IntWalk.i64_in _ (by omega)
      go_wp2_with fail
      refine (pwithin_c A c xs t v b w4 (hU.to hb04) (hs.below hb04) hm (by omega) (by omega)).mono ?_
      rintro e w6 ⟨rfl, hb6⟩
      have hb06 := Bst hb04 hb6
      have hle := prcV_le (xs := xs) (t := t) (w := v)
      by_cases h0 : prcE xs t v = 0
      · by_cases h5 : (b : Int) < (prcV xs t v : Int)
        · have HE : witE xs t v b = 10 := by unfold witE; rw [if_neg (by simp [h0]), if_neg (by omega), if_pos h5]
          have HV : witV xs t v b = 0 := by unfold witV; rw [HE, if_neg (by decide)]
          rw [h0, HE, HV]
          go_wp2
          go_ret
          exact ⟨rfl, hb06⟩
        · have HE : witE xs t v b = 0 := by unfold witE; rw [if_neg (by simp [h0]), if_neg (by omega), if_neg h5]
          have HV : witV xs t v b = prcV xs t v := by unfold witV; rw [HE, if_pos rfl]
          rw [h0, HE, HV]
          go_wp2
          go_ret
          exact ⟨rfl, hb06⟩
      · have HE : witE xs t v b = prcE xs t v := by unfold witE; rw [if_pos h0]
        have HV : witV xs t v b = 0 := by unfold witV; rw [HE, if_neg h0]
        have h1 : (prcE xs t v == 0) = false := by rw [beq_eq_false_iff_ne]; exact h0
        rw [HE, HV]
        obtain ⟨z, hz3⟩ : ∃ z, prcE xs t v = z := ⟨_, rfl⟩
        have hz0 : z ≠ 0 := hz3 ▸ h0
        rw [hz3]
        clear h0 h1 HE HV hz3
        go_wp2
        go_ret
        exact ⟨rfl, hb06⟩
end Go.Proofs.YtmpoihejacklnaaDoor
