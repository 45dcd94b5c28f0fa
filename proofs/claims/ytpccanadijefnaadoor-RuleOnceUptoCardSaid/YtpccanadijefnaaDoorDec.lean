/- What a text decodes to, and that the reference's Decode says so. No condition. -/
import Derived.Test.YtpccanadijefnaaDoorRef1
import Derived.Lib.IndexBytes
namespace Go.Proofs.YtpccanadijefnaaDoor
open Go.RowKit
def decN : Nat → List UInt8 → Option (List Int)
  | 0, _ => some []
  | n + 1, l => if l = [] then some [] else if badL l then none else (decN n (l.drop (Lib.decodeL l).2)).map (((Lib.decodeL l).1 : Int) :: ·)
theorem decN_more : ∀ (n m : Nat) (l : List UInt8), l.length ≤ n → l.length ≤ m → decN n l = decN m l
  | 0, 0, _, _, _ => rfl
  | 0, m + 1, l, h, _ => by obtain rfl : l = [] := List.eq_nil_of_length_eq_zero (by omega); simp [decN]
  | n + 1, 0, l, _, h => by obtain rfl : l = [] := List.eq_nil_of_length_eq_zero (by omega); simp [decN]
  | n + 1, m + 1, l, h1, h2 => by
    unfold decN
    by_cases hl : l = []
    · rw [if_pos hl, if_pos hl]
    · rw [if_neg hl, if_neg hl]
      have := Lib.decodeL_width l
      have hp : 0 < l.length := List.length_pos_iff.2 hl
      rw [decN_more n m _ (by simp; omega) (by simp; omega)]
/-- A text's runes; none: bytes that are no text. -/
def decL (l : List UInt8) : Option (List Int) := decN l.length l
theorem decL_nil : decL [] = some [] := rfl
theorem decL_step (l : List UInt8) (hl : l ≠ []) : decL l = if badL l then none else (decL (l.drop (Lib.decodeL l).2)).map (((Lib.decodeL l).1 : Int) :: ·) := by
  unfold decL
  obtain ⟨n, hn⟩ : ∃ n, l.length = n + 1 := ⟨l.length - 1, by have := List.length_pos_iff.2 hl; omega⟩
  rw [hn]
  conv => lhs; unfold decN
  rw [if_neg hl]
  have := Lib.decodeL_width l
  rw [decN_more n (l.drop (Lib.decodeL l).2).length _ (by simp; omega) (Nat.le_refl _)]
def decS (s : ByteArray) : Option (List Int) := decL s.data.toList
theorem info_i32 : (Tryd.prog.info? 21).map (fun i => (i.zero, i.size, i.bytes)) = some (some (.int .i32 0), 1, 4) := by kernel_rfl
theorem sz_list (s : ByteArray) : s.data.toList.length = s.size := by rw [← ByteArray.size_data]; simp

/-- What Decode hands back: the runes, or the error. -/
def DecPost (w : World) (d : Option (List Int)) (e : Ending) (w' : World) : Prop :=
  Below w.heap.size w w' ∧ match d with
    | some l => ∃ v, e = .returned (.tuple #[v, .int .i64 0]) ∧ SlV (eInt .i32) w' v l
    | none => e = .returned (.tuple #[.slice none 0 0, .int .i64 3])
set_option maxHeartbeats 1000000 in
set_option maxRecDepth 100000 in
theorem r1dec_c (s : ByteArray) (w : World) (hs : s.size ≤ 17592186044416) :
    Calls Tryd.prog 95 #[.string s] w (DecPost w (decS s)) := by
  go_enter Tryd.func95, Tryd.ntmps95
  go_wp2
  go_loopw [0, 4, 5, 6] (fun s0 v _ _ wr => ∃ (t : ByteArray) (xs : List Int), s0 = .string t ∧ t.size + xs.length ≤ s.size ∧ Hid (decS s = (decS t).map (xs ++ ·)) ∧ Own (eInt .i32) w.heap.size 21 wr v xs ∧ Below w.heap.size w wr)
    (fun s0 _ _ _ _ => match s0 with | .string t => t.size | _ => 0)
  case atStart => exact ⟨s, [], rfl, by simp, by simp [Hid], Own.nil _, Bel⟩
  case round =>
    obtain ⟨t, xs, rfl, hlen, HD, HO, hb⟩ := hrel
    by_cases hz : 0 < t.size
    · have hne : t.data.toList ≠ [] := by intro h; have := sz_list t; rw [h] at this; simp at this; omega
      have hst := decL_step _ hne
      by_cases hbad : badL t.data.toList
      · have hf : firstL t.data.toList = (0, 0) := by unfold firstL; rw [if_pos (.inr hbad)]
        have HE : Hid (decS s = none) := by
          have := HD.out
          unfold decS at this
          rw [hst, if_pos hbad] at this
          exact this
        have HF := Lib.hid hf
        clear hst hf
        go_wp2_with (go_at_call 124; refine (r1first_c t _ (by omega) hne).mono ?_; rintro e w2 ⟨rfl, hb2⟩; rw [HF.out])
        go_ret2
        refine ⟨Bel, ?_⟩
        rw [HE.out]
        rfl
      · obtain ⟨hR, h1, h4⟩ := isR_dec _ hbad
        have hle := Lib.decodeL_le _ hne
        rw [sz_list] at hle
        have hf : firstL t.data.toList = (((Lib.decodeL t.data.toList).1 : Int), ((Lib.decodeL t.data.toList).2 : Int)) := by unfold firstL; rw [if_neg (fun h => h.elim hne hbad)]
        rw [if_neg hbad] at hst
        generalize hr : ((Lib.decodeL t.data.toList).1 : Int) = r at *
        generalize hn : (Lib.decodeL t.data.toList).2 = n at *
        have hn0 : ((n : Int) == 0) = false := by simp; omega
        have HF := Lib.hid hf
        have HS := Lib.hid hst
        clear hst hf hr hn
        go_wp2_with (first
          | (go_at_call 124; refine (r1first_c t _ (by omega) hne).mono ?_; rintro e w2 ⟨rfl, hb2⟩; rw [HF.out]; have HO2 := HO.below hb2)
          | (at_builtin; refine app (E := eInt .i32) _ _ 63 21 (.int .i32 0) 4 rfl rfl Tryd.underlying63 info_i32 rfl (by decide) (by decide) _ xs [r] ⟨_, 0, none⟩ 1 1 rfl rfl rfl (HO2.alloc _) (SlA.new _ _ _ _ _ rfl _ rfl) Bel (by simp; omega) ?_; intro v1 w3 HO3 hb3 _ _))
        go_roundw
        case rel =>
          refine ⟨_, xs ++ [r], rfl, by simp [ByteArray.size_extract]; omega, ?_, HO3, hb3⟩
          have h1 := HD.out
          have h2 : decS (t.extract n t.size) = decL (t.data.toList.drop n) := by unfold decS; rw [Lib.extract_to_end]
          show decS s = _
          rw [h1, h2]
          unfold decS
          rw [HS.out]
          cases decL (t.data.toList.drop n) <;> simp
        case measure => simp [ByteArray.size_extract]; omega
    · have h0 : t.data.toList = [] := List.eq_nil_of_length_eq_zero (by rw [sz_list]; omega)
      have HE : Hid (decS s = some xs) := by
        have := HD.out
        unfold decS at this
        rw [h0, decL_nil] at this
        unfold decS; simpa [Hid] using this
      go_wp2
      go_ret2
      refine ⟨Bel, ?_⟩
      rw [HE.out]
      exact ⟨_, rfl, HO.slv⟩
end Go.Proofs.YtpccanadijefnaaDoor
