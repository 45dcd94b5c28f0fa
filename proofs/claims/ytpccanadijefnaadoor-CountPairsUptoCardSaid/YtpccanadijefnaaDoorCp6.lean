/- CountPairs walked. No condition. -/
import Derived.Test.YtpccanadijefnaaDoorPrs
import Derived.Test.YtpccanadijefnaaDoorRowP
namespace Go.Proofs.YtpccanadijefnaaDoor
open Go Go.RowKit
set_option maxRecDepth 100000 in
set_option maxHeartbeats 2000000 in
theorem cpairs_c (A : Option Addr) (c : Nat) (xs : List P2) (w : World) (hU : U w) (hs : SlA eP2 w A xs) (hm : SmallP xs) :
    Calls Tryd.prog 19 #[.slice A xs.length c] w (Ret w (.bool true)) := by
  have hl := hm.1
  have HM := Lib.hid hm.2
  clear hm
  go_enter Tryd.func19, Tryd.ntmps19
  go_wp2_with (go_at_call 35; refine (alive_c _ (hU.to Bel)).mono ?_; rintro e w1 ⟨rfl, hb1⟩)
  go_loopw [3, 14] (fun sn sk wr => ∃ k N : Nat, sk = .int .i64 k ∧ sn = .int .i64 N ∧ k ≤ xs.length ∧ N ≤ k * 2097152 ∧ Below w.heap.size w wr) (fun _ sk _ => xs.length - (intOf sk).toNat)
  case atStart => exact ⟨0, 0, rfl, rfl, by omega, by omega, hb1⟩
  case round =>
    obtain ⟨k, N, rfl, rfl, hk, hN, hb⟩ := hrel
    rename World => wo
    by_cases hlt : k < xs.length
    · have hlt' : (k : Int) < xs.length := by omega
      obtain ⟨b, o, rfl, p1, p2⟩ := hs.n2 hb k hlt
      obtain ⟨z1, z2⟩ := HM.out xs[k] (List.getElem_mem hlt)
      obtain ⟨p, hp⟩ : ∃ p, xs[k] = p := ⟨_, rfl⟩
      rw [hp] at p1 p2 z1 z2
      clear hp
      have hNb : N ≤ 2199023255552 := by omega
      go_wp2
      exact ⟨⟨k + 1, N + (p.n.size + p.t.size), by go_num, by go_num, by omega, by omega, Bel⟩, by simp [intOf]; omega⟩
    · obtain rfl : k = xs.length := by omega
      have hlt' : ¬ (xs.length : Int) < xs.length := by omega
      by_cases h1 : 100 < xs.length
      · have h1' : (100 : Int) < xs.length := by omega
        go_wp2
        go_ret
        exact ⟨rfl, hb⟩
      · have h1' : ¬ (100 : Int) < xs.length := by omega
        by_cases h2 : 3000 < N
        · have h2' : (3000 : Int) < N := by omega
          go_wp2
          go_ret
          exact ⟨rfl, hb⟩
        · have h2' : ¬ (3000 : Int) < N := by omega
          have hz : Hid (∀ p ∈ xs, p.n.size ≤ 17592186044416 ∧ p.t.size ≤ 17592186044416) := fun p hp => by have := HM.out p hp; omega
          obtain ⟨K, hK⟩ : ∃ K, prsE xs = K := ⟨_, rfl⟩
          have c1 := fun W hb => prs_c A c xs W (hU.to hb) (hs.below hb) hz.out (by omega)
          have c2 := fun W hb => r6prs_c A c xs W (hs.below hb) hz.out (by omega)
          unfold PrsPost at c1 c2
          rw [hK] at c1 c2
          have C1 := Lib.hid c1
          have C2 := Lib.hid c2
          have HK := Lib.hid hK
          clear c1 c2 hK hN
          go_wp2_with fail
          refine (C1.out _ hb).mono ?_
          rintro e w3 ⟨ys, r, rfl, ⟨A1, q1, rfl, _, _, hy1⟩, hb3, g1, g2⟩
          have hb03 := Bst hb hb3
          have G1 := Lib.hid (And.intro g1 g2)
          clear g1 g2
          go_wp2_with fail
          refine (C2.out _ hb03).mono ?_
          rintro e w4 ⟨zs, r, rfl, ⟨A2, q2, rfl, _, _, hy2⟩, hb4, g1, g2⟩
          have HE : ys = zs ∧ ys.length ≤ 4294967296 := by
            by_cases h0 : K = 0
            · refine ⟨(G1.out.1 h0).uniq (g1 h0), ?_⟩
              have hpe : pairsE xs = 0 := by
                have h5 := HK.out
                unfold prsE at h5
                by_cases h : pairsE xs = 0
                · exact h
                · rw [if_neg h] at h5; exact absurd (h5.trans h0) h
              have h5 := pairsB_len ((pairsE_zero _).1 hpe)
              have h6 := (G1.out.1 h0).le
              omega
            · rw [G1.out.2 h0, g2 h0]; exact ⟨rfl, by simp⟩
          obtain ⟨rfl, hyl⟩ := HE
          clear g1 g2 G1
          go_wp2_with fail
          refine (same_c A1 A2 q1 q2 ys ys _ (hy1.below hb4) hy2 hyl hyl).mono ?_
          rintro e w5 ⟨rfl, hb5⟩
          rw [same_refl]
          go_wp2
          go_ret
          exact ⟨rfl, Bst hb03 (Bst hb4 hb5)⟩
end Go.Proofs.YtpccanadijefnaaDoor
