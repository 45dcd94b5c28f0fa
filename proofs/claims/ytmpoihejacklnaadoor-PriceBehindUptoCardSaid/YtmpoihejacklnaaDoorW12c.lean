/- PriceBehind walked. No condition. -/
import Derived.Test.YtmpoihejacklnaaDoorP09
import Derived.Test.YtmpoihejacklnaaDoorGrt12
import Derived.Test.YtmpoihejacklnaaDoorP03
namespace Go.Proofs.YtmpoihejacklnaaDoor
open Go Go.RowKit
set_option maxHeartbeats 4000000 in
set_option maxRecDepth 100000 in
theorem behinds_c (A : Option Addr) (c : Nat) (xs : List T3) (t v u y : ByteArray) (w : World) (hU : U w) (hs : SlA eT3 w A xs) (hm : Small xs) (hz : t.size ≤ 1048576) (hz2 : v.size ≤ 1048576) (hz3 : u.size ≤ 1048576) (hz4 : y.size ≤ 1048576) :
    Calls Tryd.prog 3 #[.agg #[.slice A xs.length c, .string t, .string v, .string u, .string y]] w (Ret w (.bool true)) := by
  have z1 : (t ++ u).size ≤ 2097152 := by rw [ByteArray.size_append]; omega
  have z2 : (v ++ y).size ≤ 2097152 := by rw [ByteArray.size_append]; omega
  have z3 : (u ++ t).size ≤ 2097152 := by rw [ByteArray.size_append]; omega
  have z4 : (u ++ v).size ≤ 2097152 := by rw [ByteArray.size_append]; omega
  have y1 : t.size + u.size ≤ 140737488355328 := by omega
  have y2 : v.size + y.size ≤ 140737488355328 := by omega
  have y3 : u.size + t.size ≤ 140737488355328 := by omega
  have y4 : u.size + v.size ≤ 140737488355328 := by omega
  have hbx := Bx.new w 24 #[.slice A xs.length c, .string t, .string v, .string u, .string y]
  have hba : Below w.heap.size w (w.alloc (.cells #[.slice A xs.length c, .string t, .string v, .string u, .string y] 24)) := Bal (Below.refl _ _) _
  go_enter Tryd.func3, Tryd.ntmps3
  go_wp2_with fail
  generalize (w.alloc (.cells #[.slice A xs.length c, .string t, .string v, .string u, .string y] 24)) = w0 at hbx hba ⊢
  refine (alive12_c w0 (hU.to hba)).mono ?_
  rintro e w1 ⟨rfl, hb1⟩
  have hbx1 := hbx.below hb1
  have q0 := hbx1.cell 0
  have q1 := hbx1.cell 1
  have q2 := hbx1.cell 2
  have q3 := hbx1.cell 3
  have q4 := hbx1.cell 4
  simp at q0 q1 q2 q3 q4
  have hb01 := Bst hba hb1
  go_wp2_with fail
  go_region
  have hbd : Below w1.heap.size w1 w1.drew := Below.drew (Below.refl _ _)
  have hb02 := Bst hb01 hbd
  generalize w1.drew = w2 at hb02 ⊢
  go_wp2_with fail
  refine (great12_c A c xs (t ++ u) (v ++ y) w2 (hs.below hb02) hm (by omega) (by omega)).mono ?_
  rintro e w3 ⟨rfl, hb3⟩
  have hb03 := Bst hb02 hb3
  cases hg : great12 xs (t ++ u) (v ++ y) with
  | true =>
    go_wp2
    go_ret
    exact ⟨rfl, hb03⟩
  | false =>
    clear hg
    go_wp2_with fail
    refine (pprice_c A c xs t v w3 (hU.to hb03) (hs.below hb03) hm (by omega) (by omega)).mono ?_
    rintro e w4 ⟨rfl, hb4⟩
    have hb04 := Bst hb03 hb4
    go_wp2_with fail
    refine (pprice_c A c xs u y w4 (hU.to hb04) (hs.below hb04) hm (by omega) (by omega)).mono ?_
    rintro e w5 ⟨rfl, hb5⟩
    have hb05 := Bst hb04 hb5
    go_wp2_with fail
    refine (pprice_c A c xs (t ++ u) (v ++ y) w5 (hU.to hb05) (hs.below hb05) hm (by omega) (by omega)).mono ?_
    rintro e w6 ⟨rfl, hb6⟩
    have hb06 := Bst hb05 hb6
    go_wp2_with fail
    refine (pprice_c A c xs (u ++ t) (u ++ v) w6 (hU.to hb06) (hs.below hb06) hm (by omega) (by omega)).mono ?_
    rintro e w7 ⟨rfl, hb7⟩
    have hb07 := Bst hb06 hb7
    have l1 := prcV_le (xs := xs) (t := t) (w := v)
    have l2 := prcV_le (xs := xs) (t := u) (w := y)
    have hbh := fun h k => behind12 (xs := xs) (t := t) (w := v) (u := u) (v := y) h k
    obtain ⟨n1, hn1⟩ : ∃ n, prcV xs t v = n := ⟨_, rfl⟩
    obtain ⟨n2, hn2⟩ : ∃ n, prcV xs u y = n := ⟨_, rfl⟩
    obtain ⟨n3, hn3⟩ : ∃ n, prcV xs (t ++ u) (v ++ y) = n := ⟨_, rfl⟩
    obtain ⟨n4, hn4⟩ : ∃ n, prcV xs (u ++ t) (u ++ v) = n := ⟨_, rfl⟩
    obtain ⟨e1, he1⟩ : ∃ n, prcE xs t v = n := ⟨_, rfl⟩
    obtain ⟨e2, he2⟩ : ∃ n, prcE xs u y = n := ⟨_, rfl⟩
    obtain ⟨e3, he3⟩ : ∃ n, prcE xs (t ++ u) (v ++ y) = n := ⟨_, rfl⟩
    obtain ⟨e4, he4⟩ : ∃ n, prcE xs (u ++ t) (u ++ v) = n := ⟨_, rfl⟩
    rw [hn1] at l1 hbh ⊢
    rw [hn2] at l2 hbh ⊢
    rw [hn3] at hbh ⊢
    rw [hn4] at hbh ⊢
    rw [he1] at hbh ⊢
    rw [he2] at hbh ⊢
    rw [he3] at hbh ⊢
    rw [he4] at hbh ⊢
    clear hn1 hn2 hn3 hn4 he1 he2 he3 he4 hs hm hU
    have hw : IntKind.i64.wrap ((n1 : Int) + n2) = (n1 : Int) + n2 := IntWalk.i64_in _ (by omega)
    by_cases h1 : e1 = 0
    · by_cases h2 : e2 = 0
      · subst h1
        subst h2
        obtain ⟨k1, k2⟩ := hbh rfl rfl
        clear hbh
        by_cases h3 : e3 = 0
        · subst h3
          have k3 : (n3 : Int) ≤ (n1 : Int) + n2 := by have := k1 rfl; omega
          by_cases h4 : e4 = 0
          · subst h4
            have k4 : (n4 : Int) ≤ n1 := by have := k2 rfl; omega
            clear k1 k2
            go_wp2
            go_ret
            exact ⟨rfl, hb07⟩
          · clear k1 k2
            go_wp2
            go_ret
            exact ⟨rfl, hb07⟩
        · by_cases h4 : e4 = 0
          · subst h4
            have k4 : (n4 : Int) ≤ n1 := by have := k2 rfl; omega
            clear k1 k2
            go_wp2
            go_ret
            exact ⟨rfl, hb07⟩
          · clear k1 k2
            go_wp2
            go_ret
            exact ⟨rfl, hb07⟩
      · subst h1
        clear hbh
        go_wp2
        go_ret
        exact ⟨rfl, hb07⟩
    · clear hbh
      go_wp2
      go_ret
      exact ⟨rfl, hb07⟩
end Go.Proofs.YtmpoihejacklnaaDoor
