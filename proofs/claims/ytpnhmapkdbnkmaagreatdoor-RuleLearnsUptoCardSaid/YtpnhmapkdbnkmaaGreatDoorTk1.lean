/- runes.Token, errataref01.Token: a token's runes. No condition. -/
import Derived.Test.YtpnhmapkdbnkmaaGreatDoorK810
namespace Go.Proofs.YtpnhmapkdbnkmaaGreatDoor
open Go Go.RowKit
/-- A token's error. -/
def tkE (s : ByteArray) : Int := match decS s with
  | none => 3
  | some l => if l.length = 0 then 4 else if 64 < l.length then 5 else 0
theorem tkE_ok {s : ByteArray} (h : tkE s = 0) : ∃ l, decS s = some l ∧ 0 < l.length ∧ l.length ≤ 64 := by
  unfold tkE at h
  cases hd : decS s with
  | none => rw [hd] at h; exact absurd h (by decide)
  | some l =>
    rw [hd] at h
    by_cases h0 : l.length = 0
    · simp only [if_pos h0] at h; exact absurd h (by decide)
    · by_cases h1 : 64 < l.length
      · simp only [if_neg h0, if_pos h1] at h; exact absurd h (by decide)
      · exact ⟨l, rfl, by omega, by omega⟩
theorem tkE_small (s : ByteArray) : 0 ≤ tkE s ∧ tkE s ≤ 10 := by
  unfold tkE
  cases decS s with
  | none => decide
  | some l =>
    simp only
    split
    · decide
    · split <;> decide
def TkPost (w : World) (s : ByteArray) (e : Ending) (w' : World) : Prop :=
  Below w.heap.size w w' ∧ (tkE s = 0 → ∃ v l, decS s = some l ∧ 0 < l.length ∧ l.length ≤ 64 ∧ e = .returned (.tuple #[v, .int .i64 0]) ∧ Own (eInt .i32) w.heap.size 21 w' v l) ∧
    (tkE s ≠ 0 → e = .returned (.tuple #[.slice none 0 0, .int .i64 (tkE s)]))
set_option maxRecDepth 100000 in
set_option maxHeartbeats 1000000 in
theorem tk_c (s : ByteArray) (w : World) (hU : U w) (hz : s.size ≤ 17592186044416) : Calls Tryz.prog 68 #[.string s] w (TkPost w s) := by
  cases hd : decS s with
  | none =>
    have HE : Hid (tkE s = 3) := by show _ = _; unfold tkE; rw [hd]
    have HD := Lib.hid hd
    clear hd
    go_enter Tryz.func68, Tryz.ntmps68
    go_wp2_with (go_at_call 71; refine (dec_own s _ hU hz).mono ?_; rintro e w2 ⟨hb2, h2⟩; rw [HD.out] at h2; obtain rfl := h2)
    go_ret2
    exact ⟨hb2, fun h => absurd (HE.out.symm.trans h) (by decide), fun _ => by rw [HE.out]; rfl⟩
  | some l =>
    have HD := Lib.hid hd
    clear hd
    have hll := decS_len HD.out
    by_cases h0 : l.length = 0
    · have HE : Hid (tkE s = 4) := by show _ = _; unfold tkE; simp only [HD.out]; rw [if_pos h0]
      obtain rfl : l = [] := List.eq_nil_of_length_eq_zero h0
      go_enter Tryz.func68, Tryz.ntmps68
      go_wp2_with (go_at_call 71; refine (dec_own s _ hU hz).mono ?_; rintro e w2 ⟨hb2, h2⟩; rw [HD.out] at h2; obtain ⟨v2, rfl, hO2⟩ := h2; obtain ⟨A2, c2, rfl, _, _, _⟩ := hO2.slv)
      go_ret2
      exact ⟨hb2, fun h => absurd (HE.out.symm.trans h) (by decide), fun _ => by rw [HE.out]; rfl⟩
    · by_cases h1 : 64 < l.length
      · have HE : Hid (tkE s = 5) := by show _ = _; unfold tkE; simp only [HD.out]; rw [if_neg h0, if_pos h1]
        have h1' : (64 : Int) < l.length := by omega
        have h0' : ¬ (l.length : Int) = 0 := by omega
        go_enter Tryz.func68, Tryz.ntmps68
        go_wp2_with (go_at_call 71; refine (dec_own s _ hU hz).mono ?_; rintro e w2 ⟨hb2, h2⟩; rw [HD.out] at h2; obtain ⟨v2, rfl, hO2⟩ := h2; obtain ⟨A2, c2, rfl, _, _, _⟩ := hO2.slv)
        go_ret2
        exact ⟨hb2, fun h => absurd (HE.out.symm.trans h) (by decide), fun _ => by rw [HE.out]; rfl⟩
      · have HE : Hid (tkE s = 0) := by show _ = _; unfold tkE; simp only [HD.out]; rw [if_neg h0, if_neg h1]
        have h1' : ¬ (64 : Int) < l.length := by omega
        have h0' : ¬ (l.length : Int) = 0 := by omega
        go_enter Tryz.func68, Tryz.ntmps68
        go_wp2_with (go_at_call 71; refine (dec_own s _ hU hz).mono ?_; rintro e w2 ⟨hb2, h2⟩; rw [HD.out] at h2; obtain ⟨v2, rfl, hO2⟩ := h2; have HO2 := hO2; obtain ⟨A2, c2, rfl, _, _, _⟩ := hO2.slv)
        go_ret2
        exact ⟨hb2, fun _ => ⟨_, l, HD.out, by omega, by omega, rfl, HO2⟩, fun h => absurd HE.out h⟩
def RtkPost (w : World) (s : ByteArray) (e : Ending) (w' : World) : Prop :=
  Below w.heap.size w w' ∧ (tkE s = 0 → ∃ v l, decS s = some l ∧ 0 < l.length ∧ l.length ≤ 64 ∧ e = .returned (.tuple #[v, .int .i64 0]) ∧ SlV (eInt .i32) w' v l) ∧
    (tkE s ≠ 0 → e = .returned (.tuple #[.slice none 0 0, .int .i64 (tkE s)]))
set_option maxRecDepth 100000 in
set_option maxHeartbeats 1000000 in
theorem r1tk_c (s : ByteArray) (w : World) (hz : s.size ≤ 17592186044416) : Calls Tryz.prog 84 #[.string s] w (RtkPost w s) := by
  cases hd : decS s with
  | none =>
    have HE : Hid (tkE s = 3) := by show _ = _; unfold tkE; rw [hd]
    have HD := Lib.hid hd
    clear hd
    go_enter Tryz.func84, Tryz.ntmps84
    go_wp2_with (go_at_call 140; refine (r1dec_none s _ hz HD.out).mono ?_; rintro e w2 ⟨rfl, hb2⟩)
    go_ret2
    exact ⟨hb2, fun h => absurd (HE.out.symm.trans h) (by decide), fun _ => by rw [HE.out]; rfl⟩
  | some l =>
    have HD := Lib.hid hd
    clear hd
    have hll := decS_len HD.out
    by_cases h0 : l.length = 0
    · have HE : Hid (tkE s = 4) := by show _ = _; unfold tkE; simp only [HD.out]; rw [if_pos h0]
      have h0' : (l.length : Int) = 0 := by omega
      go_enter Tryz.func84, Tryz.ntmps84
      go_wp2_with (go_at_call 140; refine (r1dec_some s _ hz l HD.out).mono ?_; rintro e w2 ⟨A2, c2, rfl, _, _, _, hb2⟩)
      go_ret2
      exact ⟨hb2, fun h => absurd (HE.out.symm.trans h) (by decide), fun _ => by rw [HE.out]; rfl⟩
    · by_cases h1 : 64 < l.length
      · have HE : Hid (tkE s = 5) := by show _ = _; unfold tkE; simp only [HD.out]; rw [if_neg h0, if_pos h1]
        have h1' : (64 : Int) < l.length := by omega
        have h0' : ¬ (l.length : Int) = 0 := by omega
        go_enter Tryz.func84, Tryz.ntmps84
        go_wp2_with (go_at_call 140; refine (r1dec_some s _ hz l HD.out).mono ?_; rintro e w2 ⟨A2, c2, rfl, _, _, _, hb2⟩)
        go_ret2
        exact ⟨hb2, fun h => absurd (HE.out.symm.trans h) (by decide), fun _ => by rw [HE.out]; rfl⟩
      · have HE : Hid (tkE s = 0) := by show _ = _; unfold tkE; simp only [HD.out]; rw [if_neg h0, if_neg h1]
        have h1' : ¬ (64 : Int) < l.length := by omega
        have h0' : ¬ (l.length : Int) = 0 := by omega
        go_enter Tryz.func84, Tryz.ntmps84
        go_wp2_with (go_at_call 140; refine (r1dec_some s _ hz l HD.out).mono ?_; rintro e w2 ⟨A2, c2, rfl, hA2, hc2, hd2, hb2⟩)
        go_ret2
        exact ⟨hb2, fun _ => ⟨_, l, HD.out, by omega, by omega, rfl, ⟨_, _, rfl, hc2, hd2, hA2⟩⟩, fun h => absurd HE.out h⟩
end Go.Proofs.YtpnhmapkdbnkmaaGreatDoor
