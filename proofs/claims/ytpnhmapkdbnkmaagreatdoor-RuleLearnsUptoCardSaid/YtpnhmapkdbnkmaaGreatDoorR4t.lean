/- errataref04.tokens: two tokens' runes. No condition. -/
import Derived.Test.YtpnhmapkdbnkmaaGreatDoorPrl
namespace Go.Proofs.YtpnhmapkdbnkmaaGreatDoor
open Go Go.RowKit
/-- Two rows of runes, or the first error. -/
def R4tPost (w : World) (p : P2) (e : Ending) (w' : World) : Prop :=
  Below w.heap.size w w' ∧ ∃ A ca B cb a b, e = .returned (.tuple #[.slice A (a : List Int).length ca, .slice B (b : List Int).length cb, .int .i64 (pairE p)]) ∧ SlA (eInt .i32) w' A a ∧ SlA (eInt .i32) w' B b ∧ (pairE p = 0 → decS p.n = some a ∧ decS p.t = some b ∧ 0 < a.length ∧ a.length ≤ 64 ∧ 0 < b.length ∧ b.length ≤ 64 ∧ a.length ≤ ca ∧ b.length ≤ cb)
set_option maxRecDepth 100000 in
set_option maxHeartbeats 1000000 in
theorem r4tok_c (p : P2) (w : World) (hz : p.n.size ≤ 17592186044416) (hz2 : p.t.size ≤ 17592186044416) : Calls Tryz.prog 164 #[.string p.n, .string p.t] w (R4tPost w p) := by
  by_cases h1 : tkE p.n = 0
  · have HE : Hid (pairE p = tkE p.t) := by show _ = _; unfold pairE; rw [if_pos h1]
    have H1 := Lib.hid h1
    clear h1
    by_cases h2 : tkE p.t = 0
    · have H2 := Lib.hid h2
      clear h2
      go_enter Tryz.func164, Tryz.ntmps164
      go_wp2_with fail
      refine (r1tk_c p.n _ hz).mono ?_
      rintro e w2 ⟨hb2, h3, _⟩
      obtain ⟨v, a, ha, ha1, ha2, rfl, A, ca, rfl, hca, hda, hA⟩ := h3 H1.out
      clear h3
      have HA := Lib.hid ha
      clear ha
      go_wp2_with fail
      refine (r1tk_c p.t _ hz2).mono ?_
      rintro e w3 ⟨hb3, h3, _⟩
      obtain ⟨v, b, hB0, hb1, hb4, rfl, B, cb, rfl, hcb, hdb, hB⟩ := h3 H2.out
      clear h3
      have HB := Lib.hid hB0
      clear hB0
      go_wp2_with fail
      refine bodyPost_ret (results_tmp3 rfl _ _ _) rfl ?_
      refine ⟨Bst hb2 hb3, A, ca, B, cb, a, b, ?_, hA.below hb3, hB, fun _ => ⟨HA.out, HB.out, ha1, ha2, hb1, hb4, hca, hcb⟩⟩
      rw [HE.out, H2.out]; rfl
    · have H2 := Lib.hid h2
      clear h2
      have hin := tkE_small p.t
      have HIN := Lib.hid hin
      clear hin
      obtain ⟨z, hz3⟩ : ∃ z, tkE p.t = z := ⟨_, rfl⟩
      go_enter Tryz.func164, Tryz.ntmps164
      go_wp2_with fail
      refine (r1tk_c p.n _ hz).mono ?_
      rintro e w2 ⟨hb2, h3, _⟩
      obtain ⟨v, a, ha, ha1, ha2, rfl, A, ca, rfl, hca, hda, hA⟩ := h3 H1.out
      clear h3
      have HA := Lib.hid ha
      clear ha
      go_wp2_with fail
      refine (r1tk_c p.t _ hz2).mono ?_
      rintro e w3 ⟨hb3, _, h3⟩
      obtain rfl := h3 H2.out
      clear h3
      rw [hz3]
      go_wp2_with fail
      refine bodyPost_ret (results_tmp3 rfl _ _ _) rfl ?_
      refine ⟨Bst hb2 hb3, A, ca, none, 0, a, [], ?_, hA.below hb3, SlA.nil, fun h => absurd (HE.out.symm.trans h) H2.out⟩
      rw [HE.out, hz3]; rfl
  · have HE : Hid (pairE p = tkE p.n) := by show _ = _; unfold pairE; rw [if_neg h1]
    have H1 := Lib.hid h1
    obtain ⟨z, hz3⟩ : ∃ z, tkE p.n = z := ⟨_, rfl⟩
    have hz0 : z ≠ 0 := hz3 ▸ h1
    clear h1
    have HZ := Lib.hid hz3
    clear hz3
    go_enter Tryz.func164, Tryz.ntmps164
    go_wp2_with fail
    refine (r1tk_c p.n _ hz).mono ?_
    rintro e w2 ⟨hb2, _, h3⟩
    obtain rfl := h3 H1.out
    clear h3
    rw [HZ.out]
    go_wp2_with fail
    refine bodyPost_ret (results_tmp3 rfl _ _ _) rfl ?_
    refine ⟨hb2, none, 0, none, 0, [], [], ?_, SlA.nil, SlA.nil, fun h => absurd (HE.out.symm.trans h) H1.out⟩
    rw [HE.out, HZ.out]; rfl
end Go.Proofs.YtpnhmapkdbnkmaaGreatDoor
