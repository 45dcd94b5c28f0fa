/- errataref04.Read. No condition. -/
import Derived.Test.YtpnhmapkdbnkmaaGreatDoorStp
namespace Go.Proofs.YtpnhmapkdbnkmaaGreatDoor
open Go Go.RowKit
set_option maxRecDepth 100000 in
set_option maxHeartbeats 4000000 in
theorem r4read_c (A : Option Addr) (c : Nat) (l : List St) (w : World) (hs : SlA eSt w A l) (hr : ∀ s ∈ l, MayS s) (hl : l.length ≤ 1048576) :
    Calls Tryz.prog 168 #[.slice A l.length c] w (Ret w (.tuple #[.string (txt (leftR l)), .string (txt (rightR l)), .int .i64 0])) := by
  have HR := Lib.hid hr
  clear hr
  go_enter Tryz.func168, Tryz.ntmps168
  go_wp2_with (go_at_call 166; refine (r4chk_c A c l _ hs HR.out hl).mono ?_; rintro e w2 ⟨rfl, hb2⟩)
  go_loopw [6, 7, 17] (fun sa sb sk wr => ∃ k : Nat, sk = .int .i64 k ∧ k ≤ l.length ∧ Own (eInt .i32) w.heap.size 21 wr sa (leftR (l.take k)) ∧ Own (eInt .i32) w.heap.size 21 wr sb (rightR (l.take k)) ∧ ApartV sa sb ∧ Below w.heap.size w wr) (fun _ _ sk _ => l.length - (intOf sk).toNat)
  case atStart => exact ⟨0, rfl, by omega, Own.nil _, Own.nil _, ApartV.none _, hb2⟩
  case round =>
    obtain ⟨k, rfl, hk, hOa, hOb, hap, hb⟩ := hrel
    by_cases hlt : k < l.length
    · obtain ⟨b, o, rfl, _, p1, p2, p3⟩ := hs.n3 (fun _ => rfl) hb k hlt
      have hlt' : (k : Int) < l.length := by omega
      have hRR := HR.out _ (List.getElem_mem hlt)
      have hL := leftR_snoc l[k] (l.take k)
      have hRt := rightR_snoc l[k] (l.take k)
      rw [← take_snoc hlt] at hL hRt
      have hla := Nat.le_trans (leftR_len (l.take k)) (by rw [List.length_take]; exact Nat.min_le_left _ _ : _ ≤ k)
      have hlb := Nat.le_trans (rightR_len (l.take k)) (by rw [List.length_take]; exact Nat.min_le_left _ _ : _ ≤ k)
      obtain ⟨s, hse⟩ : ∃ s, l[k] = s := ⟨_, rfl⟩
      rw [hse] at p1 p2 p3 hRR hL hRt
      clear hse
      obtain ⟨kk, aa, bb⟩ := s
      obtain ⟨hra, hrb, hkk⟩ := hRR
      simp only at p1 p2 p3 hra hrb hkk hL hRt
      clear hra hrb
      have hbox : ∀ v : Value, (v.ownBlock = none ∨ ∃ g, v.ownBlock = some g ∧ g < wr.heap.size) → v.ownBlock ≠ some wr.heap.size := fun v h e => by
        rcases h with h | ⟨g, h, hlt⟩
        · rw [h] at e; cases e
        · rw [h] at e; injection e with e; omega
      have hka := hbox _ hOa.blk
      clear hbox
      have two : ∀ q : Int, q = 0 ∨ q = 1 → kk = q → leftR (l.take (k + 1)) = leftR (l.take k) ++ [aa] ∧ rightR (l.take (k + 1)) = rightR (l.take k) ++ [bb] := fun q hq e => by
        rw [if_neg (by omega)] at hL
        rw [if_neg (by omega)] at hRt
        exact ⟨hL, hRt⟩
      rcases hkk with ⟨rfl, rfl⟩ | ⟨rfl, hne⟩ | ⟨rfl, rfl⟩ | ⟨rfl, rfl⟩
      · have HT := Lib.hid (two 0 (by omega) rfl)
        clear two hL hRt
        have hO1 := (hOa.alloc (.cells #[.int .i64 0, .int .i32 aa, .int .i32 aa] 265)).alloc (.cells #[.int .i32 aa] 21)
        have hO2 := (hOb.alloc (.cells #[.int .i64 0, .int .i32 aa, .int .i32 aa] 265)).alloc (.cells #[.int .i32 aa] 21)
        go_wp2_with (at_builtin; first | (refine app (E := eInt .i32) (w0 := w) _ _ 90 21 (.int .i32 0) 4 rfl rfl Tryz.underlying90 info_i32 rfl (by decide) (by decide) _ (leftR (l.take k)) [aa] _ 1 _ rfl rfl rfl (hO1) (SlA.new (eInt .i32) _ [aa] 21 _ (by simp) _ rfl) Bel (by first | (simp; done) | (simp; omega)) ?_; intro v6 w6 HO6 hb6 hg6 hm6; obtain ⟨HOb6, hap6⟩ := keepO hO2 hap.symm hg6 hm6; have hO3 := HOb6.alloc (.cells #[.int .i32 aa] 21); have hO4 := HO6.alloc (.cells #[.int .i32 aa] 21); have hh := fun i : Nat => hg6.cell_far ⟨wr.heap.size, i, none⟩ (by simp; omega) (fun e => hka e.symm); have q0 : w6.cell? ⟨wr.heap.size, 0, none⟩ = some (.int .i64 0) := (by rw [hh 0]; simp [go_sem]); have q2 : w6.cell? ⟨wr.heap.size, 2, none⟩ = some (.int .i32 aa) := (by rw [hh 2]; simp [go_sem])) | (refine app (E := eInt .i32) (w0 := w) _ _ 90 21 (.int .i32 0) 4 rfl rfl Tryz.underlying90 info_i32 rfl (by decide) (by decide) _ (rightR (l.take k)) [aa] _ 1 _ rfl rfl rfl (hO3) (SlA.new (eInt .i32) _ [aa] 21 _ (by simp) _ rfl) Bel (by first | (simp; done) | (simp; omega)) ?_; intro v7 w7 HO7 hb7 hg7 hm7))
        obtain ⟨HOa7, hap7⟩ := keepO hO4 hap6.symm hg7 hm7
        refine ⟨⟨k + 1, by go_num, by omega, ?_, ?_, hap7, hb7⟩, by simp [intOf]; omega⟩
        · rw [HT.out.1]; exact HOa7
        · rw [HT.out.2]; exact HO7
      · have HT := Lib.hid (two 1 (by omega) rfl)
        clear two hL hRt
        have hO1 := (hOa.alloc (.cells #[.int .i64 1, .int .i32 aa, .int .i32 bb] 265)).alloc (.cells #[.int .i32 aa] 21)
        have hO2 := (hOb.alloc (.cells #[.int .i64 1, .int .i32 aa, .int .i32 bb] 265)).alloc (.cells #[.int .i32 aa] 21)
        go_wp2_with (at_builtin; first | (refine app (E := eInt .i32) (w0 := w) _ _ 90 21 (.int .i32 0) 4 rfl rfl Tryz.underlying90 info_i32 rfl (by decide) (by decide) _ (leftR (l.take k)) [aa] _ 1 _ rfl rfl rfl (hO1) (SlA.new (eInt .i32) _ [aa] 21 _ (by simp) _ rfl) Bel (by first | (simp; done) | (simp; omega)) ?_; intro v6 w6 HO6 hb6 hg6 hm6; obtain ⟨HOb6, hap6⟩ := keepO hO2 hap.symm hg6 hm6; have hO3 := HOb6.alloc (.cells #[.int .i32 bb] 21); have hO4 := HO6.alloc (.cells #[.int .i32 bb] 21); have hh := fun i : Nat => hg6.cell_far ⟨wr.heap.size, i, none⟩ (by simp; omega) (fun e => hka e.symm); have q0 : w6.cell? ⟨wr.heap.size, 0, none⟩ = some (.int .i64 1) := (by rw [hh 0]; simp [go_sem]); have q2 : w6.cell? ⟨wr.heap.size, 2, none⟩ = some (.int .i32 bb) := (by rw [hh 2]; simp [go_sem])) | (refine app (E := eInt .i32) (w0 := w) _ _ 90 21 (.int .i32 0) 4 rfl rfl Tryz.underlying90 info_i32 rfl (by decide) (by decide) _ (rightR (l.take k)) [bb] _ 1 _ rfl rfl rfl (hO3) (SlA.new (eInt .i32) _ [bb] 21 _ (by simp) _ rfl) Bel (by first | (simp; done) | (simp; omega)) ?_; intro v7 w7 HO7 hb7 hg7 hm7))
        obtain ⟨HOa7, hap7⟩ := keepO hO4 hap6.symm hg7 hm7
        refine ⟨⟨k + 1, by go_num, by omega, ?_, ?_, hap7, hb7⟩, by simp [intOf]; omega⟩
        · rw [HT.out.1]; exact HOa7
        · rw [HT.out.2]; exact HO7
      · rw [if_neg (by decide)] at hL
        rw [if_pos rfl, List.append_nil] at hRt
        have HL := Lib.hid hL
        have HRt := Lib.hid hRt
        clear two hL hRt
        have hO1 := (hOa.alloc (.cells #[.int .i64 2, .int .i32 aa, .int .i32 0] 265)).alloc (.cells #[.int .i32 aa] 21)
        have hO2 := (hOb.alloc (.cells #[.int .i64 2, .int .i32 aa, .int .i32 0] 265)).alloc (.cells #[.int .i32 aa] 21)
        go_wp2_with (at_builtin; refine app (E := eInt .i32) (w0 := w) _ _ 90 21 (.int .i32 0) 4 rfl rfl Tryz.underlying90 info_i32 rfl (by decide) (by decide) _ (leftR (l.take k)) [aa] _ 1 _ rfl rfl rfl (hO1) (SlA.new (eInt .i32) _ [aa] 21 _ (by simp) _ rfl) Bel (by first | (simp; done) | (simp; omega)) ?_; intro v6 w6 HO6 hb6 hg6 hm6; obtain ⟨HOb6, hap6⟩ := keepO hO2 hap.symm hg6 hm6; have hh := fun i : Nat => hg6.cell_far ⟨wr.heap.size, i, none⟩ (by simp; omega) (fun e => hka e.symm); have q0 : w6.cell? ⟨wr.heap.size, 0, none⟩ = some (.int .i64 2) := (by rw [hh 0]; simp [go_sem]))
        refine ⟨⟨k + 1, by go_num, by omega, ?_, ?_, hap6.symm, hb6⟩, by simp [intOf]; omega⟩
        · rw [HL.out]; exact HO6
        · rw [HRt.out]; exact HOb6
      · rw [if_pos rfl, List.append_nil] at hL
        rw [if_neg (by decide)] at hRt
        have HL := Lib.hid hL
        have HRt := Lib.hid hRt
        clear two hL hRt
        have hO1 := (hOa.alloc (.cells #[.int .i64 3, .int .i32 0, .int .i32 bb] 265)).alloc (.cells #[.int .i32 bb] 21)
        have hO2 := (hOb.alloc (.cells #[.int .i64 3, .int .i32 0, .int .i32 bb] 265)).alloc (.cells #[.int .i32 bb] 21)
        go_wp2_with (at_builtin; refine app (E := eInt .i32) (w0 := w) _ _ 90 21 (.int .i32 0) 4 rfl rfl Tryz.underlying90 info_i32 rfl (by decide) (by decide) _ (rightR (l.take k)) [bb] _ 1 _ rfl rfl rfl (hO2) (SlA.new (eInt .i32) _ [bb] 21 _ (by simp) _ rfl) Bel (by first | (simp; done) | (simp; omega)) ?_; intro v6 w6 HO6 hb6 hg6 hm6)
        obtain ⟨HOa6, hap6⟩ := keepO hO1 hap hg6 hm6
        refine ⟨⟨k + 1, by go_num, by omega, ?_, ?_, hap6, hb6⟩, by simp [intOf]; omega⟩
        · rw [HL.out]; exact HOa6
        · rw [HRt.out]; exact HO6
    · obtain rfl : k = l.length := by omega
      have hlt' : ¬ (l.length : Int) < l.length := by omega
      rw [List.take_length] at hOa hOb
      obtain ⟨A5, c5, rfl, hc5, hd5, hA5⟩ := hOa.slv
      obtain ⟨A6, c6, rfl, hc6, hd6, hA6⟩ := hOb.slv
      have hl5 := Nat.le_trans (leftR_len l) hl
      have hl6 := Nat.le_trans (rightR_len l) hl
      have hr5 : ∀ r ∈ leftR l, IsR r := fun r h => by
        obtain ⟨s, hs, rfl⟩ := List.mem_map.1 h
        exact (HR.out s (List.mem_filter.1 hs).1).1
      have hr6 : ∀ r ∈ rightR l, IsR r := fun r h => by
        obtain ⟨s, hs, rfl⟩ := List.mem_map.1 h
        exact (HR.out s (List.mem_filter.1 hs).1).2.1
      have HR5 := Lib.hid hr5
      have HR6 := Lib.hid hr6
      clear hr5 hr6
      go_wp2_with fail
      refine (r1text_c A5 c5 (leftR l) _ hA5 HR5.out hl5).mono ?_
      rintro e w7 ⟨rfl, hb7⟩
      go_wp2_with fail
      refine (r1text_c A6 c6 (rightR l) _ (hA6.below hb7) HR6.out hl6).mono ?_
      rintro e w8 ⟨rfl, hb8⟩
      go_wp2
      refine bodyPost_ret (results_tmp3 rfl _ _ _) rfl ?_
      exact ⟨rfl, Bst hb (Bst hb7 hb8)⟩
end Go.Proofs.YtpnhmapkdbnkmaaGreatDoor
