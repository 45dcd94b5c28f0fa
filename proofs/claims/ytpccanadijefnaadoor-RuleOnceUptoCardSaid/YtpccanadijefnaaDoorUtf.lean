/- Texts and their runes, in plain Lean: what decodes to what. No condition. -/
import Derived.Lib.MapLaws
import Derived.Lib.TrimUEq
import Derived.Lib.ValidLaws
import Derived.Lib.RuneCount
namespace Go.Proofs.YtpccanadijefnaaDoor
open Go Go.Lib

/-- A number that is a rune. -/
def IsR (r : Int) : Prop := 0 ≤ r ∧ r ≤ 1114111 ∧ ¬ (55296 ≤ r ∧ r ≤ 57343)
instance (r : Int) : Decidable (IsR r) := by unfold IsR; infer_instance

theorem u8_toNat (x : Int) (_ : 0 ≤ x) (h1 : x < 256) : (x.toNat.toUInt8).toNat = x.toNat := by
  simp [Nat.toUInt8, UInt8.toNat_ofNat']; omega

set_option maxHeartbeats 1000000 in
theorem dec_enc (r : Int) (h : IsR r) (t : List UInt8) : decodeL (encodeRune r ++ t) = (r.toNat, (encodeRune r).length) := by
  obtain ⟨h0, h1, h2⟩ := h
  rw [decodeL_N]
  unfold encodeRune encodeRuneZ
  by_cases c1 : r ≤ 127
  · rw [if_pos ⟨h0, c1⟩]
    simp only [List.map_cons, List.map_nil, List.cons_append, List.nil_append, List.length_cons, List.length_nil, List.getD_cons_zero, List.getD_cons_succ]
    rw [u8_toNat _ (by omega) (by omega)]
    unfold decodeN
    rw [if_pos (by omega)]
  rw [if_neg (by omega)]
  by_cases c2 : r ≤ 2047
  · rw [if_pos (by omega)]
    simp only [List.map_cons, List.map_nil, List.cons_append, List.nil_append, List.length_cons, List.length_nil, List.getD_cons_zero, List.getD_cons_succ]
    rw [u8_toNat _ (by omega) (by omega), u8_toNat _ (by omega) (by omega)]
    unfold decodeN
    rw [if_neg (by omega), if_pos (by omega), if_pos (by omega)]
    congr 1; omega
  rw [if_neg (by omega)]
  by_cases c3 : r ≤ 65535
  · rw [if_pos (by omega)]
    simp only [List.map_cons, List.map_nil, List.cons_append, List.nil_append, List.length_cons, List.length_nil, List.getD_cons_zero, List.getD_cons_succ]
    rw [u8_toNat _ (by omega) (by omega), u8_toNat _ (by omega) (by omega), u8_toNat _ (by omega) (by omega)]
    unfold decodeN
    rw [if_neg (by omega), if_neg (by omega), if_pos (by omega), if_pos (by omega)]
    congr 1; omega
  rw [if_neg (by omega), if_pos (by omega)]
  simp only [List.map_cons, List.map_nil, List.cons_append, List.nil_append, List.length_cons, List.length_nil, List.getD_cons_zero, List.getD_cons_succ]
  rw [u8_toNat _ (by omega) (by omega), u8_toNat _ (by omega) (by omega), u8_toNat _ (by omega) (by omega), u8_toNat _ (by omega) (by omega)]
  unfold decodeN
  rw [if_neg (by omega), if_neg (by omega), if_neg (by omega), if_pos (by omega), if_pos (by omega)]
  congr 1; omega
end Go.Proofs.YtpccanadijefnaaDoor
