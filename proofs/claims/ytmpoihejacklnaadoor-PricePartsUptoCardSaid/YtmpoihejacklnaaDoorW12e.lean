/- PriceParts walked. No condition. -/
import Derived.Test.YtmpoihejacklnaaDoorP09
import Derived.Test.YtmpoihejacklnaaDoorGrt12
namespace Go.Proofs.YtmpoihejacklnaaDoor
open Go Go.RowKit
theorem sameT_self (l : List T3) : sameT l l = true := by unfold sameT; simp
set_option maxHeartbeats 4000000 in
set_option maxRecDepth 100000 in
theorem partss_c (A B : Option Addr) (c d : Nat) (xs ms : List T3) (t v : ByteArray) (w : World) (hU : U w) (hs : SlA eT3 w A xs) (hm : Small xs) (hs2 : SlA eT3 w B ms) (hm2 : Small ms) (hn : ∀ x ∈ ms, -9223372036854775808 ≤ x.n ∧ x.n ≤ 9223372036854775807) (hz : t.size ≤ 1048576) (hz2 : v.size ≤ 1048576) :
    Calls Tryd.prog 6 #[.agg #[.slice A xs.length c, .string t, .string v, .slice B ms.length d]] w (Ret w (.bool true)) := by
  have CG := fun W hW => great12_c B d ms ByteArray.empty ByteArray.empty W (hs2.below hW) hm2 (by decide) (by decide)
  have CS := fun W hW => psum_c B d ms W (hs2.below hW) hm2 hn
  have CR := fun W hW => rsum_c B d ms W (hs2.below hW) hm2 hn
  have hbx := Bx.new w 40 #[.slice A xs.length c, .string t, .string v, .slice B ms.length d]
  have hba : Below w.heap.size w (w.alloc (.cells #[.slice A xs.length c, .string t, .string v, .slice B ms.length d] 40)) := Bal (Below.refl _ _) _
  go_enter Tryd.func6, Tryd.ntmps6
  go_wp2_with fail
  generalize (w.alloc (.cells #[.slice A xs.length c, .string t, .string v, .slice B ms.length d] 40)) = w0 at hbx hba ⊢
  refine (alive12_c w0 (hU.to hba)).mono ?_
  rintro e w1 ⟨rfl, hb1⟩
  have hbx1 := hbx.below hb1
  have q0 := hbx1.cell 0
  have q1 := hbx1.cell 1
  have q2 := hbx1.cell 2
  have q3 := hbx1.cell 3
  simp at q0 q1 q2 q3
  have hb01 := Bst hba hb1
  go_wp2_with fail
  go_region
  have hbd : Below w1.heap.size w1 w1.drew := Below.drew (Below.refl _ _)
  have hb02 := Bst hb01 hbd
  generalize w1.drew = w2 at hb02 ⊢
  go_wp2_with fail
  refine (great12_c A c xs t v w2 (hs.below hb02) hm (by omega) (by omega)).mono ?_
  rintro e w3 ⟨rfl, hb3⟩
  have hb03 := Bst hb02 hb3
  cases hg : great12 xs t v with
  | true =>
    clear hg
    go_wp2
    go_ret
    exact ⟨rfl, hb03⟩
  | false =>
    clear hg
    go_wp2_with fail
    refine (CG w3 hb03).mono ?_
    rintro e w4 ⟨rfl, hb4⟩
    have hb04 := Bst hb03 hb4
    cases hg : great12 ms ByteArray.empty ByteArray.empty with
    | true =>
      clear hg
      go_wp2
      go_ret
      exact ⟨rfl, hb04⟩
    | false =>
      clear hg
      go_wp2_with fail
      refine (pparts_c A c xs t v w4 (hU.to hb04) (hs.below hb04) hm (by omega) (by omega)).mono ?_
      rintro e w5 ⟨vo, rfl, hO, hb5⟩
      obtain ⟨A5, c5, rfl, _, _, hA5⟩ := hO.slv
      have hb05 := Bst hb04 hb5
      clear hO
      go_wp2_with fail
      refine (rparts_c A c xs t v w5 (hs.below hb05) hm (by omega) (by omega)).mono ?_
      rintro e w6 ⟨vo6, rfl, hO6, hb6⟩
      obtain ⟨A6, c6, rfl, _, _, hA6⟩ := hO6.slv
      have hb06 := Bst hb05 hb6
      clear hO6
      have hwl : (wayL xs t v).length ≤ 128 := by
        by_cases h : prcE xs t v = 0
        · exact (sums12 h).2.2.2.2
        · rw [wayL_bad h]; simp
      go_wp2_with fail
      refine (CS w6 hb06).mono ?_
      rintro e w7 ⟨rfl, hb7⟩
      have hb07 := Bst hb06 hb7
      go_wp2_with fail
      refine (CR w7 hb07).mono ?_
      rintro e w8 ⟨rfl, hb8⟩
      have hb08 := Bst hb07 hb8
      have hb68 := Bst hb7 hb8
      go_wp2_with fail
      refine (rsame_c A5 A6 c5 c6 _ _ w8 ((hA5.below hb6).below hb68) (hA6.below hb68) (by omega) (by omega)).mono ?_
      rintro e w9 ⟨rfl, hb9⟩
      have hb09 := Bst hb08 hb9
      rw [sameT_self]
      go_wp2
      go_ret
      exact ⟨rfl, hb09⟩
end Go.Proofs.YtmpoihejacklnaaDoor
