/- rule.Learn, errataref07.Learn: the rules of pairs. RuleLearns walked. No condition. -/
import Derived.Test.YtpnhmapkdbnkmaaGreatDoorPrs
import Derived.Test.YtpnhmapkdbnkmaaGreatDoorMks7k
import Derived.Test.YtpnhmapkdbnkmaaGreatDoorRowP
namespace Go.Proofs.YtpnhmapkdbnkmaaGreatDoor
open Go Go.RowKit
theorem tab_smallP {l ys : List T3} (h : TabOf l ys) (hm : Small l) : Small ys := h.small hm
/-- The rules of pairs whose table is known, their error. -/
noncomputable def lrnE (xs : List P2) (ys : List T3) (n : Int) : Int := if prsE xs = 0 then makE ys n else prsE xs
noncomputable def lrnR (xs : List P2) (ys : List T3) (n : Int) : List T3 := if prsE xs = 0 then makR ys n else []
def LrnPost (w : World) (xs : List P2) (n : Int) (e : Ending) (w' : World) : Prop :=
  ∃ ys A c, (prsE xs = 0 → TabOf (pairsB xs) ys ∧ Small ys) ∧ (prsE xs ≠ 0 → ys = []) ∧ e = .returned (.tuple #[.slice A (lrnR xs ys n).length c, .int .i64 (lrnE xs ys n)]) ∧ SlA eT3 w' A (lrnR xs ys n) ∧ Below w.heap.size w w'
theorem prsE_zero {xs : List P2} (h : prsE xs = 0) : pairsE xs = 0 := by
  unfold prsE at h
  by_cases h0 : pairsE xs = 0
  · exact h0
  · rw [if_neg h0] at h; exact absurd h h0
set_option maxRecDepth 100000 in
set_option maxHeartbeats 1000000 in
theorem learn_c (A : Option Addr) (c : Nat) (xs : List P2) (n : Int) (w : World) (hU : U w) (hs : SlA eP2 w A xs) (hz : ∀ p ∈ xs, p.n.size ≤ 17592186044416 ∧ p.t.size ≤ 17592186044416) (hl : xs.length ≤ 100) (hn : -9223372036854775808 ≤ n ∧ n ≤ 9223372036854775807) :
    Calls Tryz.prog 11 #[.slice A xs.length c, .int .i64 n] w (LrnPost w xs n) := by
  have HZ := Lib.hid hz
  clear hz
  obtain ⟨K, hK⟩ : ∃ K, prsE xs = K := ⟨_, rfl⟩
  have c1 := prs_c A c xs w hU hs HZ.out hl
  unfold PrsPost at c1
  have hsm : K = 0 → Small (pairsB xs) := fun h => pairsB_small (prsE_zero (hK.trans h)) hl
  have HS := Lib.hid hsm
  have HK := Lib.hid hK
  rw [hK] at c1
  clear hK hsm
  have C1 := Lib.hid c1
  clear c1
  by_cases h0 : K = 0
  · subst h0
    go_enter Tryz.func11, Tryz.ntmps11
    go_wp2_with fail
    refine C1.out.mono ?_
    rintro e w2 ⟨ys, r, rfl, ⟨A1, q1, rfl, _, _, hy1⟩, hb2, g1, _⟩
    have HT := Lib.hid (g1 trivial)
    have hys := HT.out.small (HS.out trivial)
    clear g1
    go_wp2_with fail
    refine (make_c A1 q1 ys n _ (hU.to hb2) hy1 hys hn).mono ?_
    rintro e w3 ⟨A2, c2, rfl, hs2, hb3⟩
    go_wp2
    go_ret2
    refine ⟨ys, A2, c2, fun _ => ⟨HT.out, hys⟩, fun h => absurd HK.out h, ?_, ?_, Bst hb2 hb3⟩
    · unfold lrnR lrnE; rw [if_pos HK.out, if_pos HK.out]; rfl
    · unfold lrnR; rw [if_pos HK.out]; exact hs2
  · go_enter Tryz.func11, Tryz.ntmps11
    go_wp2_with fail
    refine C1.out.mono ?_
    rintro e w2 ⟨ys, r, rfl, ⟨A1, q1, rfl, _, _, hy1⟩, hb2, _, _⟩
    have hK0 : prsE xs ≠ 0 := fun h => h0 (HK.out.symm.trans h)
    have HK0 := Lib.hid hK0
    clear hK0
    go_wp2
    go_ret2
    refine ⟨[], none, 0, fun h => absurd h HK0.out, fun _ => rfl, ?_, ?_, hb2⟩
    · unfold lrnR lrnE; rw [if_neg HK0.out, if_neg HK0.out, HK.out]; rfl
    · unfold lrnR; rw [if_neg HK0.out]; exact SlA.nil
set_option maxRecDepth 100000 in
set_option maxHeartbeats 1000000 in
theorem r7learn_c (A : Option Addr) (c : Nat) (xs : List P2) (n : Int) (w : World) (hs : SlA eP2 w A xs) (hz : ∀ p ∈ xs, p.n.size ≤ 17592186044416 ∧ p.t.size ≤ 17592186044416) (hl : xs.length ≤ 100) (hn : -9223372036854775808 ≤ n ∧ n ≤ 9223372036854775807) :
    Calls Tryz.prog 12 #[.slice A xs.length c, .int .i64 n] w (LrnPost w xs n) := by
  have HZ := Lib.hid hz
  clear hz
  obtain ⟨K, hK⟩ : ∃ K, prsE xs = K := ⟨_, rfl⟩
  have c1 := r6prs_c A c xs w hs HZ.out hl
  unfold PrsPost at c1
  have hsm : K = 0 → Small (pairsB xs) := fun h => pairsB_small (prsE_zero (hK.trans h)) hl
  have HS := Lib.hid hsm
  have HK := Lib.hid hK
  rw [hK] at c1
  clear hK hsm
  have C1 := Lib.hid c1
  clear c1
  by_cases h0 : K = 0
  · subst h0
    go_enter Tryz.func12, Tryz.ntmps12
    go_wp2_with fail
    refine C1.out.mono ?_
    rintro e w2 ⟨ys, r, rfl, ⟨A1, q1, rfl, _, _, hy1⟩, hb2, g1, _⟩
    have HT := Lib.hid (g1 trivial)
    have hys := HT.out.small (HS.out trivial)
    clear g1
    go_wp2_with fail
    refine (r7make_c A1 q1 ys n _ hy1 hys hn).mono ?_
    rintro e w3 ⟨A2, c2, rfl, hs2, hb3⟩
    go_wp2
    go_ret2
    refine ⟨ys, A2, c2, fun _ => ⟨HT.out, hys⟩, fun h => absurd HK.out h, ?_, ?_, Bst hb2 hb3⟩
    · unfold lrnR lrnE; rw [if_pos HK.out, if_pos HK.out]; rfl
    · unfold lrnR; rw [if_pos HK.out]; exact hs2
  · go_enter Tryz.func12, Tryz.ntmps12
    go_wp2_with fail
    refine C1.out.mono ?_
    rintro e w2 ⟨ys, r, rfl, ⟨A1, q1, rfl, _, _, hy1⟩, hb2, _, _⟩
    have hK0 : prsE xs ≠ 0 := fun h => h0 (HK.out.symm.trans h)
    have HK0 := Lib.hid hK0
    clear hK0
    go_wp2
    go_ret2
    refine ⟨[], none, 0, fun h => absurd h HK0.out, fun _ => rfl, ?_, ?_, hb2⟩
    · unfold lrnR lrnE; rw [if_neg HK0.out, if_neg HK0.out, HK.out]; rfl
    · unfold lrnR; rw [if_neg HK0.out]; exact SlA.nil
set_option maxRecDepth 100000 in
set_option maxHeartbeats 2000000 in
theorem rlearns_c (A : Option Addr) (c : Nat) (xs : List P2) (n : Int) (w : World) (hU : U w) (hs : SlA eP2 w A xs) (hm : SmallP xs) (hn : -9223372036854775808 ≤ n ∧ n ≤ 9223372036854775807) :
    Calls Tryz.prog 3 #[.slice A xs.length c, .int .i64 n] w (Ret w (.bool true)) := by
  have hl := hm.1
  have HM := Lib.hid hm.2
  clear hm
  go_enter Tryz.func3, Tryz.ntmps3
  go_wp2_with (go_at_call 10; refine (alive7_c _ (hU.to Bel)).mono ?_; rintro e w1 ⟨rfl, hb1⟩)
  go_loopw [5, 16] (fun sn sk wr => ∃ k N : Nat, sk = .int .i64 k ∧ sn = .int .i64 N ∧ k ≤ xs.length ∧ N ≤ k * 2097152 ∧ Below w.heap.size w wr) (fun _ sk _ => xs.length - (intOf sk).toNat)
  case atStart => exact ⟨0, 0, rfl, rfl, by omega, by omega, hb1⟩
  case round =>
    obtain ⟨k, N, rfl, rfl, hk, hN, hb⟩ := hrel
    rename World => wo
    by_cases hlt : k < xs.length
    · have hlt' : (k : Int) < xs.length := by omega
      obtain ⟨b, o, rfl, p1, p2⟩ := hs.n2 hb k hlt
      obtain ⟨z1, z2⟩ := HM.out xs[k] (List.getElem_mem hlt)
      obtain ⟨p, hp⟩ : ∃ p, xs[k] = p := ⟨_, rfl⟩
      rw [hp] at p1 p2 z1 z2
      clear hp
      have hNb : N ≤ 2199023255552 := by omega
      go_wp2
      exact ⟨⟨k + 1, N + (p.n.size + p.t.size), by go_num, by go_num, by omega, by omega, Bel⟩, by simp [intOf]; omega⟩
    · obtain rfl : k = xs.length := by omega
      have hlt' : ¬ (xs.length : Int) < xs.length := by omega
      by_cases h1 : 60 < xs.length
      · have h1' : (60 : Int) < xs.length := by omega
        go_wp2
        go_ret
        exact ⟨rfl, hb⟩
      · have h1' : ¬ (60 : Int) < xs.length := by omega
        by_cases h2 : 2000 < N
        · have h2' : (2000 : Int) < N := by omega
          go_wp2
          go_ret
          exact ⟨rfl, hb⟩
        · have h2' : ¬ (2000 : Int) < N := by omega
          have hz : Hid (∀ p ∈ xs, p.n.size ≤ 17592186044416 ∧ p.t.size ≤ 17592186044416) := fun p hp => by have := HM.out p hp; omega
          have C1 := Lib.hid (fun W hb => learn_c A c xs n W (hU.to hb) (hs.below hb) hz.out (by omega) hn)
          have C2 := Lib.hid (fun W hb => r7learn_c A c xs n W (hs.below hb) hz.out (by omega) hn)
          clear hN
          go_wp2_with fail
          refine (C1.out _ hb).mono ?_
          rintro e w3 ⟨ys, A1, q1, g1, g2, rfl, hy1, hb3⟩
          have hb03 := Bst hb hb3
          have G1 := Lib.hid (And.intro g1 g2)
          clear g1 g2
          obtain ⟨R, hR⟩ : ∃ R, lrnR xs ys n = R := ⟨_, rfl⟩
          obtain ⟨E, hE⟩ : ∃ E, lrnE xs ys n = E := ⟨_, rfl⟩
          rw [hR] at hy1
          rw [hR, hE]
          have HR := Lib.hid hR
          have HE := Lib.hid hE
          clear hR hE
          go_wp2_with fail
          refine (C2.out _ hb03).mono ?_
          rintro e w4 ⟨zs, A2, q2, g1, g2, rfl, hy2, hb4⟩
          have hyz : ys = zs := by
            by_cases h0 : prsE xs = 0
            · exact (G1.out.1 h0).1.uniq (g1 h0).1
            · rw [G1.out.2 h0, g2 h0]
          have hRl : R.length ≤ 1048576 := by
            rw [← HR.out]
            unfold lrnR
            by_cases h0 : prsE xs = 0
            · rw [if_pos h0]
              have := makR_len ys n
              have := (G1.out.1 h0).2.1
              omega
            · rw [if_neg h0]; simp
          subst hyz
          rw [HR.out] at hy2
          rw [HR.out, HE.out]
          clear g1 g2 G1
          go_wp2_with fail
          refine (rsame_c A1 A2 q1 q2 R R _ (hy1.below hb4) hy2 (by omega) (by omega)).mono ?_
          rintro e w5 ⟨rfl, hb5⟩
          rw [same_refl]
          go_wp2
          go_ret
          exact ⟨rfl, Bst hb03 (Bst hb4 hb5)⟩
end Go.Proofs.YtpnhmapkdbnkmaaGreatDoor
