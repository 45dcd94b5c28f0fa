/- align.Steps walked. No condition. -/
import Derived.Test.YtpnhmapkdbnkmaaGreatDoorRev
namespace Go.Proofs.YtpnhmapkdbnkmaaGreatDoor
open Go Go.RowKit
theorem GridAt.below {w w' : World} {G : Nat} {a b : List Int} (h : GridAt w G a b) (hb : Below w.heap.size w w') : GridAt w' G a b := by
  obtain ⟨A, ca, B, cb, gf, gk, N, c0, c1, c2, c3, hN, hA, hB, hF, hK⟩ := h.c
  exact ⟨A, ca, B, cb, gf, gk, N, bkc hb c0, bkc hb c1, bkc hb c2, bkc hb c3, hN, hA.below hb, hB.below hb, fun i j hi hj => bkc hb (hF i j hi hj), fun i j hi hj hij => bkc hb (hK i j hi hj hij)⟩
set_option maxRecDepth 100000 in
set_option maxHeartbeats 2000000 in
theorem steps_c (p : P2) (w : World) (hU : U w) (hz : p.n.size ≤ 17592186044416) (hz2 : p.t.size ≤ 17592186044416) : Calls Tryz.prog 100 #[.string p.n, .string p.t] w (StepsPost w p) := by
  by_cases h0 : pairE p = 0
  · have H0 := Lib.hid h0
    obtain ⟨da, db, _, _, _, _⟩ := pair_decs h0
    have DA := Lib.hid da
    have DB := Lib.hid db
    clear h0 da db
    go_enter Tryz.func100, Tryz.ntmps100
    go_wp2_with fail
    refine (fill_c p _ hU hz hz2).mono ?_
    rintro e w2 ⟨hb2, h3, _⟩
    obtain ⟨G, a, b, ea, eb, ha1, ha2, hb1, hb4, rfl, hG⟩ := h3 H0.out
    have hae : pairA p = a := by have := DA.out; rw [ea] at this; injection this with this; exact this.symm
    have hbe : pairT p = b := by have := DB.out; rw [eb] at this; injection this with this; exact this.symm
    have HAE := Lib.hid hae
    have HBE := Lib.hid hbe
    clear h3 ea eb hae hbe
    go_wp2_with fail
    refine (back_c G _).mono ?_
    rintro e w3 ⟨rfl, h3⟩
    have hb3 : Below w2.heap.size w2 w3 := by rw [h3]; exact Bel
    have hc : w3.cell? ⟨w2.heap.size, 0, none⟩ = some (.pointer (some ⟨G, 0, none⟩)) := by rw [h3]; simp [go_sem]
    clear h3
    have hG3 := hG.below hb3
    go_wp2_with fail
    refine (scollect_c w2.heap.size G a b _ hG3 ha2 hb4 hc).mono ?_
    rintro e w4 ⟨v, rfl, hO, hb5⟩
    have hbl := backL_len a b a.length b.length
    go_wp2_with fail
    refine (srev_c w3.heap.size v _ _ hO (by omega)).mono ?_
    rintro e w5 ⟨rfl, hO5, hk5⟩
    have hb04 : Below w.heap.size w w4 := Bst (Bst hb2 hb3) hb5
    have hb05 : Below w.heap.size w w5 := hk5.to (fun s hs => by have := hO.ge s (Option.mem_toList.1 hs); have h1 := (Bst hb2 hb3).size; omega) hb04 (Nat.le_refl _)
    go_wp2_with fail
    go_ret2
    refine ⟨hb05, fun _ => ⟨v, rfl, ?_⟩, fun h => absurd H0.out h⟩
    rw [HAE.out, HBE.out]
    exact hO5.slv
  · have H0 := Lib.hid h0
    obtain ⟨z, hz3⟩ : ∃ z, pairE p = z := ⟨_, rfl⟩
    have hz0 : z ≠ 0 := hz3 ▸ h0
    clear h0
    have HZ := Lib.hid hz3
    clear hz3
    go_enter Tryz.func100, Tryz.ntmps100
    go_wp2_with fail
    refine (fill_c p _ hU hz hz2).mono ?_
    rintro e w2 ⟨hb2, _, h3⟩
    obtain rfl := h3 H0.out
    clear h3
    rw [HZ.out]
    go_wp2_with fail
    go_ret2
    refine ⟨hb2, fun h => absurd h H0.out, fun _ => ?_⟩
    rw [HZ.out]; rfl
end Go.Proofs.YtpnhmapkdbnkmaaGreatDoor
