/- The reference of layer 1: which numbers are runes, their bytes, what a text decodes to. No condition. -/
import Derived.Test.YtpccanadijefnaaDoorBase
import Derived.Test.YtpccanadijefnaaDoorReg
import Derived.Test.YtpccanadijefnaaDoorUtf
import Derived.Test.YtpccanadijefnaaDoorProg
import Derived.Lib.Hide
import Derived.BigRegion
import Derived.Deep.RegionWith
namespace Go.Proofs.YtpccanadijefnaaDoor
open Go.RowKit
set_option maxHeartbeats 400000 in
theorem r1is_c (r : Int) (w : World) : Calls Tryd.prog 168 #[.int .i32 r] w fun e w' => e = .returned (.bool (decide (IsR r))) ∧ w' = w := by
  by_cases h0 : 0 ≤ r <;> by_cases h1 : r ≤ 1114111 <;> by_cases h2 : 55296 ≤ r <;> by_cases h3 : r ≤ 57343 <;> cases hd : decide (IsR r) <;>
    try (exfalso; simp only [decide_eq_true_eq, decide_eq_false_iff_not] at hd; unfold IsR at hd; omega)
  all_goals
    clear hd
    go_enter Tryd.func168, Tryd.ntmps168
    go_wp2
    go_ret
    exact ⟨rfl, rfl⟩
set_option maxHeartbeats 400000 in
theorem r1bytes_c (r : Int) (w : World) (h : IsR r) : Calls Tryd.prog 169 #[.int .i32 r] w fun e w' => ∃ v, e = .returned v ∧ SlV (eInt .u8) w' v (Lib.encodeRuneZ r) ∧ Below w.heap.size w w' := by
  obtain ⟨h0, h1, h2⟩ := h
  by_cases c1 : r < 128
  · go_enter Tryd.func169, Tryd.ntmps169
    go_wp2
    go_ret
    refine ⟨_, rfl, ?_, Bel⟩
    rw [Lib.encodeRuneZ_one h0 (by omega)]
    exact ⟨_, _, rfl, by simp, by omega, SlA.new _ _ _ _ _ rfl _ rfl⟩
  by_cases c2 : r < 2048
  · go_enter Tryd.func169, Tryd.ntmps169
    go_wp2
    go_ret
    refine ⟨_, rfl, ?_, Bel⟩
    rw [Lib.encodeRuneZ_two (by omega) (by omega)]
    exact ⟨_, _, rfl, by simp, by omega, SlA.new _ _ _ _ _ rfl _ rfl⟩
  by_cases c3 : r < 65536
  · go_enter Tryd.func169, Tryd.ntmps169
    go_wp2
    go_ret
    refine ⟨_, rfl, ?_, Bel⟩
    rw [show Lib.encodeRuneZ r = [224 + r / 4096, 128 + r / 64 % 64, 128 + r % 64] from by unfold Lib.encodeRuneZ; rw [if_neg (by omega), if_neg (by omega), if_pos (by omega)]]
    exact ⟨_, _, rfl, by simp, by omega, SlA.new _ _ _ _ _ rfl _ rfl⟩
  · go_enter Tryd.func169, Tryd.ntmps169
    go_wp2
    go_ret
    refine ⟨_, rfl, ?_, Bel⟩
    rw [show Lib.encodeRuneZ r = [240 + r / 262144, 128 + r / 4096 % 64, 128 + r / 64 % 64, 128 + r % 64] from by unfold Lib.encodeRuneZ; rw [if_neg (by omega), if_neg (by omega), if_neg (by omega), if_pos (by omega)]]
    exact ⟨_, _, rfl, by simp, by omega, SlA.new _ _ _ _ _ rfl _ rfl⟩

/-- The rune that some bytes begin with, and how many it has; 0: none. -/
def badL (l : List UInt8) : Prop := (Lib.decodeL l).1 = 65533 ∧ (Lib.decodeL l).2 = 1
instance (l : List UInt8) : Decidable (badL l) := by unfold badL; infer_instance
def firstL (l : List UInt8) : Int × Int := if l = [] ∨ badL l then (0, 0) else ((Lib.decodeL l).1, (Lib.decodeL l).2)
/-- What the bytes say with n of them. -/
def startL (l : List UInt8) (n : Nat) : Int := ((l.getD 0 0).toNat : Int) - if n = 2 then 192 else if n = 3 then 224 else if n = 4 then 240 else 0
def partL (l : List UInt8) (n j : Nat) : Int := ((l.take j).drop 1).foldl (fun r b => r * 64 + b.toNat - 128) (startL l n)
def candL (l : List UInt8) (n : Nat) : Int := partL l n n
def okL (l : List UInt8) (n : Nat) : Prop := IsR (candL l n) ∧ Lib.encodeRune (candL l n) = l.take n
theorem first_yes (l : List UInt8) (n : Nat) (hn : 1 ≤ n) (hl : n ≤ l.length) (h : okL l n) : firstL l = (candL l n, (n : Int)) := by
  obtain ⟨h1, h2⟩ := h
  have h3 := dec_enc _ h1 (l.drop n)
  rw [h2, List.take_append_drop, List.length_take, Nat.min_eq_left hl] at h3
  have hne : l ≠ [] := by intro e; subst e; simp at hl; omega
  have hb : ¬ badL l := by
    unfold badL; rw [h3]; rintro ⟨e1, e2⟩
    have e1 : (candL l n).toNat = 65533 := e1
    have e2 : n = 1 := e2
    have : candL l n = 65533 := by omega
    rw [this] at h2
    have := congrArg List.length h2
    rw [List.length_take, Nat.min_eq_left hl, e2] at this
    exact absurd this (by decide)
  unfold firstL
  rw [if_neg (fun h => h.elim hne hb), h3]
  obtain ⟨h0, _⟩ := h1
  simp; omega
theorem part_one (l : List UInt8) (n : Nat) : partL l n 1 = startL l n := by
  unfold partL
  have : (l.take 1).drop 1 = [] := by apply List.eq_nil_of_length_eq_zero; simp
  rw [this]; rfl
theorem part_step (l : List UInt8) (n j : Nat) (h1 : 1 ≤ j) (hj : j < l.length) : partL l n (j + 1) = partL l n j * 64 + (l[j].toNat : Int) - 128 := by
  unfold partL
  rw [List.take_succ_eq_append_getElem hj, List.drop_append_of_le_length (by simp; omega), List.foldl_append]; rfl
theorem part_bd (l : List UInt8) (n j : Nat) (h1 : 1 ≤ j) (hj : j ≤ l.length) (h3 : j ≤ 3) : -1052800 ≤ partL l n j ∧ partL l n j ≤ 1052800 := by
  have h0 : -240 ≤ startL l n ∧ startL l n ≤ 255 := by
    have := (l.getD 0 0).toNat_lt
    unfold startL; split <;> (try split) <;> (try split) <;> omega
  have e1 := part_one l n
  rcases (by omega : j = 1 ∨ j = 2 ∨ j = 3) with rfl | rfl | rfl
  · omega
  · have e2 := part_step l n 1 (by omega) (by omega)
    have := l[1].toNat_lt
    simp only [Nat.reduceAdd] at e2; omega
  · have e2 := part_step l n 1 (by omega) (by omega)
    have e3 := part_step l n 2 (by omega) (by omega)
    have := l[1].toNat_lt
    have := l[2].toNat_lt
    simp only [Nat.reduceAdd] at e2 e3; omega
theorem isR_dec (l : List UInt8) (hb : ¬ badL l) : IsR ((Lib.decodeL l).1 : Int) ∧ 1 ≤ (Lib.decodeL l).2 ∧ (Lib.decodeL l).2 ≤ 4 := by
  unfold badL at hb
  rw [Lib.decodeL_N] at hb ⊢
  have h0 := (l.getD 0 0).toNat_lt
  have hb1 := (l.getD 1 0).toNat_lt
  have hb2 := (l.getD 2 0).toNat_lt
  have hb3 := (l.getD 3 0).toNat_lt
  generalize (l.getD 0 0).toNat = b0 at *
  generalize (l.getD 1 0).toNat = b1 at *
  generalize (l.getD 2 0).toNat = b2 at *
  generalize (l.getD 3 0).toNat = b3 at *
  unfold IsR Lib.decodeN at *
  repeat' split
  all_goals simp_all
  all_goals omega
theorem cand_of_enc (l : List UInt8) (r : Int) (n : Nat) (hr : IsR r) (hl : n ≤ l.length) (he : Lib.encodeRune r = l.take n) (hn : (Lib.encodeRune r).length = n) : candL l n = r := by
  obtain ⟨h0, h1, h2⟩ := hr
  have hg : ∀ j, j < n → (l.getD j 0) = (Lib.encodeRune r).getD j 0 := fun j hj => by
    rw [he]; simp [List.getD_eq_getElem?_getD, hj]
  have hx : ∀ j (hj : j < n), l[j]'(by omega) = (Lib.encodeRune r).getD j 0 := fun j hj => by
    rw [← hg j hj]; simp [List.getD_eq_getElem?_getD, show j < l.length by omega]
  unfold candL
  clear he
  unfold Lib.encodeRune Lib.encodeRuneZ at *
  by_cases c1 : r ≤ 127
  · rw [if_pos ⟨h0, c1⟩] at hg hn
    obtain rfl : 1 = n := hn
    rw [part_one]; unfold startL; rw [hg 0 (by omega)]
    simp only [List.map_cons, List.getD_cons_zero]
    rw [u8_toNat _ h0 (by omega)]
    simp; omega
  rw [if_neg (by omega)] at hg hn hx
  by_cases c2 : r ≤ 2047
  · rw [if_pos (by omega)] at hg hn hx
    obtain rfl : 2 = n := hn
    rw [part_step _ _ 1 (by omega) (by omega), part_one, hx 1 (by omega)]; unfold startL; rw [hg 0 (by omega)]
    simp only [List.map_cons, List.getD_cons_zero, List.getD_cons_succ]
    rw [u8_toNat _ (by omega) (by omega), u8_toNat _ (by omega) (by omega)]
    simp; omega
  rw [if_neg (by omega)] at hg hn hx
  by_cases c3 : r ≤ 65535
  · rw [if_pos (by omega)] at hg hn hx
    obtain rfl : 3 = n := hn
    rw [part_step _ _ 2 (by omega) (by omega), part_step _ _ 1 (by omega) (by omega), part_one, hx 1 (by omega), hx 2 (by omega)]; unfold startL; rw [hg 0 (by omega)]
    simp only [List.map_cons, List.getD_cons_zero, List.getD_cons_succ]
    rw [u8_toNat _ (by omega) (by omega), u8_toNat _ (by omega) (by omega), u8_toNat _ (by omega) (by omega)]
    simp; omega
  rw [if_neg (by omega), if_pos (by omega)] at hg hn hx
  obtain rfl : 4 = n := hn
  rw [part_step _ _ 3 (by omega) (by omega), part_step _ _ 2 (by omega) (by omega), part_step _ _ 1 (by omega) (by omega), part_one, hx 1 (by omega), hx 2 (by omega), hx 3 (by omega)]; unfold startL; rw [hg 0 (by omega)]
  simp only [List.map_cons, List.getD_cons_zero, List.getD_cons_succ]
  rw [u8_toNat _ (by omega) (by omega), u8_toNat _ (by omega) (by omega), u8_toNat _ (by omega) (by omega), u8_toNat _ (by omega) (by omega)]
  simp; omega
theorem first_no (l : List UInt8) (h : ∀ m, 1 ≤ m → m ≤ 4 → m ≤ l.length → ¬ okL l m) : firstL l = (0, 0) := by
  unfold firstL
  by_cases hne : l = []
  · rw [if_pos (.inl hne)]
  by_cases hb : badL l
  · rw [if_pos (.inr hb)]
  exfalso
  obtain ⟨h1, h2, h3⟩ := isR_dec l hb
  have hle := Lib.decodeL_le l hne
  have he := Lib.encode_decode l hne hb
  have hc := cand_of_enc l _ _ h1 hle he (by rw [he, List.length_take, Nat.min_eq_left hle])
  exact h _ h2 h3 hle ⟨by rw [hc]; exact h1, by rw [hc]; exact he⟩
theorem strOf_enc (r : Int) : strOfNums (Lib.encodeRuneZ r) = ⟨(Lib.encodeRune r).toArray⟩ := rfl
/-- 'string(bytes)' of a row that reads as xs. -/
theorem conv_bytes {P : Program} {w : World} {src dst e : TypeId} {v : Value} {xs : List Int} (hs : P.underlying src = some (.slice e)) (he : P.underlying e = some (.int .u8)) (hd : P.underlying dst = some .string)
    (h : SlV (eInt .u8) w v xs) (hne : xs ≠ []) : (convert src dst v).run P w = .ok (.string (strOfNums xs)) w := by
  obtain ⟨A, c, rfl, _, _, hc⟩ := h
  cases xs with
  | nil => exact absurd rfl hne
  | cons x xs =>
    obtain ⟨b, o, rfl, _⟩ := hc 0 x rfl
    refine run_convert_bytes_arg w src e hs he b o _ c (x :: xs) rfl (fun i hi => ?_) dst hd
    obtain ⟨b', o', h', h1⟩ := SlA.at1 (fun _ => rfl) hc (Below.refl _ _) i hi
    obtain ⟨rfl, rfl⟩ : b = b' ∧ o = o' := by injection h' with h'; injection h' with h1 h2; exact ⟨h1, h2⟩
    rw [h1, List.getD_eq_getElem?_getD, List.getElem?_eq_getElem hi]; rfl
theorem beq_enc (s : ByteArray) (r : Int) (j : Nat) : ((strOfNums (Lib.encodeRuneZ r)).toList == (s.extract 0 j).toList) = decide (Lib.encodeRune r = s.data.toList.take j) := by
  rw [strOf_enc, ByteArray.toList_mk, ByteArray.toList_eq, ByteArray.data_extract, Array.toList_extract]
  rw [Bool.eq_iff_iff]; simp
theorem encZ_ne (r : Int) : Lib.encodeRuneZ r ≠ [] := by unfold Lib.encodeRuneZ; repeat' split
                                                         all_goals simp
set_option maxHeartbeats 4000000 in
set_option maxRecDepth 100000 in
theorem r1first_c (s : ByteArray) (w : World) (hs : s.size ≤ 9223372036854775807) (hne : s.data.toList ≠ []) :
    Calls Tryd.prog 124 #[.string s] w fun e w' => e = .returned (.tuple #[.int .i32 (firstL s.data.toList).1, .int .i64 (firstL s.data.toList).2]) ∧ Below w.heap.size w w' := by
  have hsz : s.data.toList.length = s.size := by rw [← ByteArray.size_data]; simp
  have hp : 0 < s.size := by rw [← hsz]; exact List.length_pos_iff.2 hne
  have HZ := Lib.hid hsz
  clear hsz
  go_enter Tryd.func124, Tryd.ntmps124
  go_wp2
  go_loopw [4, 5, 6] (fun n _ _ wr => ∃ k : Nat, 1 ≤ k ∧ k ≤ 5 ∧ n = .int .i64 k ∧ Hid (∀ m, 1 ≤ m → m < k → m ≤ s.data.toList.length → ¬ okL s.data.toList m) ∧ Below w.heap.size w wr) (fun n _ _ _ => 5 - (intOf n).toNat)
  case atStart => exact ⟨1, by omega, by omega, rfl, fun m h1 h2 => by omega, Bel⟩
  case round =>
    obtain ⟨k, hk1, hk5, rfl, HN, hb⟩ := hrel
    by_cases h4 : k ≤ 4 <;> by_cases hz : k ≤ s.size
    · have d1 : decide ((k : Int) ≤ 4) = true := by simp; omega
      have d2 : decide (k ≤ s.size) = true := by simp; omega
      have hs0 : startL s.data.toList k = ((s[0]'hp).toNat : Int) - if k = 2 then 192 else if k = 3 then 224 else if k = 4 then 240 else 0 := by
        unfold startL
        have : s.data.toList.getD 0 0 = s[0]'hp := by rw [List.getD_eq_getElem?_getD, List.getElem?_eq_getElem (by rw [HZ.out]; exact hp)]; rfl
        rw [this]
      have HS := Lib.hid hs0
      have hu := (s[0]'hp).toNat_lt
      clear hs0
      cases b2 : ((k : Int) == 2) <;> cases b3 : ((k : Int) == 3) <;> cases b4 : ((k : Int) == 4) <;> try (exfalso; simp at b2 b3 b4; omega)
      all_goals
        go_wp2
        go_loop [5, 6] (fun r i => ∃ j : Nat, 1 ≤ j ∧ j ≤ k ∧ i = .int .i64 j ∧ r = .int .i32 (partL s.data.toList k j)) (fun _ i => k - (intOf i).toNat)
        case atStart =>
          refine ⟨1, by omega, hk1, rfl, ?_⟩
          rw [part_one, HS.out]
          simp only [beq_iff_eq, beq_eq_false_iff_ne, ne_eq] at b2 b3 b4
          congr 1
          repeat' split
          all_goals omega
        case round =>
          obtain ⟨j, hj1, hj2, rfl, rfl⟩ := hrel
          by_cases hlt : j < k
          · have hjs : j < s.size := by omega
            have hbd := part_bd s.data.toList k j hj1 (by rw [HZ.out]; omega) (by omega)
            have hub := (s[j]'hjs).toNat_lt
            have hst := Lib.hid (part_step s.data.toList k j hj1 (by rw [HZ.out]; omega))
            obtain ⟨hb1, hb2⟩ := hbd
            go_wp2
            go_round
            case rel => exact ⟨j + 1, by omega, by omega, by go_num, by rw [hst.out]; first | rfl | simp⟩
            case measure => simp [intOf]; omega
          · obtain rfl : j = k := by omega
            cases hR : decide (IsR (partL s.data.toList j j))
            · go_wp2_with fail
              refine region_seq [(0, true), (1, false), (2, true), (3, true), (6, true), (7, true), (8, true), (4, false), (5, false), (9, true), (10, true)] (by kernel_rfl) (by kernel_rfl) (fun c a d v w h => by cases d <;> exact h) ?_
              intro W hW
              repeat (first
                | (refine seq_q rfl (fun K hK => ?_); unfold takeQ; go_simp; refine hK _ ?_; clear hK K)
                | (refine seq_t rfl (fun K hK => ?_); go_simp; go_at_call 168; refine (r1is_c _ _).mono ?_; rintro e w' ⟨rfl, rfl⟩; go_simp; refine hK _ _ (.of Bel) ?_; clear hK K)
                | (refine seq_t rfl (fun K hK => ?_); go_simp; refine hK _ _ (.of Bel) ?_; clear hK K))
              refine seq_nil ?_
              go_wp2
              exact ⟨⟨j + 1, by omega, by omega, by go_num, fun m h1 h2 h3 => by
                by_cases e : m = j
                · subst e; exact fun h => of_decide_eq_false hR h.1
                · exact HN.out m h1 (by omega) h3, Bel⟩, by simp [intOf]; omega⟩
            · have hRR := Lib.hid (of_decide_eq_true hR)
              go_wp2_with fail
              refine region_seq [(0, true), (1, false), (2, true), (3, true), (6, true), (7, true), (8, true), (4, false), (5, false), (9, true), (10, true)] (by kernel_rfl) (by kernel_rfl) (fun c a d v w h => by cases d <;> exact h) ?_
              intro W hW
              repeat (first
                | (refine seq_q rfl (fun K hK => ?_); unfold takeQ; go_simp; refine hK _ ?_; clear hK K)
                | (refine seq_t rfl (fun K hK => ?_); go_simp; go_at_call 168; refine (r1is_c _ _).mono ?_; rintro e w' ⟨rfl, rfl⟩; go_simp; refine hK _ _ (.of Bel) ?_; clear hK K)
                | (refine seq_t rfl (fun K hK => ?_); go_simp; go_at_call 169; refine (r1bytes_c _ _ hRR.out).mono ?_; rintro e w2 ⟨v, rfl, hv, hb2⟩; have hcv := conv_bytes (src := 140) (dst := 9) Tryd.underlying140 Tryd.underlying5 Tryd.underlying9 hv (encZ_ne _); go_simp; refine hK _ _ (.of Bel) ?_; clear hK K)
                | (refine seq_t rfl (fun K hK => ?_); go_simp; refine hK _ _ (.of Bel) ?_; clear hK K))
              refine seq_nil ?_
              go_wp2
              · rename_i hE
                rw [beq_enc] at hE
                have hf := first_yes s.data.toList j hj1 (by rw [HZ.out]; omega) ⟨hRR.out, of_decide_eq_true hE⟩
                go_ret2
                exact ⟨by rw [hf]; rfl, Bel⟩
              · rename_i hE
                rw [beq_enc] at hE
                exact ⟨⟨j + 1, by omega, by omega, by go_num, fun m h1 h2 h3 => by
                  by_cases e : m = j
                  · subst e; exact fun h => of_decide_eq_false hE h.2
                  · exact HN.out m h1 (by omega) h3, Bel⟩, by simp [intOf]; omega⟩
    all_goals
      have hf := Lib.hid (first_no s.data.toList (fun m h1 h2 h3 => HN.out m h1 (by rw [HZ.out] at h3; omega) h3))
      go_wp2
      go_ret2
      exact ⟨by rw [hf.out]; rfl, Bel⟩
end Go.Proofs.YtpccanadijefnaaDoor
