/- Steps that may be: align.Check, errataref04.Check; what they are of: align.Read, errataref04.Read. No condition. -/
import Derived.Test.YtpnhmapkdbnkmaaGreatDoorAlg
import Derived.Test.YtpnhmapkdbnkmaaGreatDoorApm
namespace Go.Proofs.YtpnhmapkdbnkmaaGreatDoor
open Go Go.RowKit
/-- A step as a value. -/
def vS (s : St) : Value := .agg #[.int .i64 s.k, .int .i32 s.a, .int .i32 s.b]
set_option maxRecDepth 100000 in
theorem may_c (s : St) (w : World) (h : MayS s) : Calls Tryz.prog 207 #[.agg #[.int .i64 s.k, .int .i32 s.a, .int .i32 s.b]] w (Ret w (.bool true)) := by
  obtain ⟨⟨a1, a2, a3⟩, ⟨b1, b2, b3⟩, hk⟩ := h
  have va : Lib.validRune s.a = true := by simp [Lib.validRune]; omega
  have vb : Lib.validRune s.b = true := by simp [Lib.validRune]; omega
  obtain ⟨k, a, b⟩ := s
  simp only at *
  rcases hk with ⟨rfl, rfl⟩ | ⟨rfl, hne⟩ | ⟨rfl, rfl⟩ | ⟨rfl, rfl⟩
  all_goals
    go_enter Tryz.func207, Tryz.ntmps207
    go_wp2_with (go_at_call 239; refine (Tryz.utf8_ValidRune _ _).mono ?_; rintro e w2 ⟨rfl, rfl⟩; first | rw [va] | rw [vb])
    go_ret
    exact ⟨by first | rfl | simp [hne], Bel⟩
set_option maxRecDepth 100000 in
theorem nmay_c (s : St) (w : World) (h : MayS s) : Calls Tryz.prog 206 #[.agg #[.int .i64 s.k, .int .i32 s.a, .int .i32 s.b]] w (Ret w (.bool false)) := by
  have HM := Lib.hid h
  clear h
  go_enter Tryz.func206, Tryz.ntmps206
  go_wp2_with (go_at_call 207; refine (may_c s _ HM.out).mono ?_; rintro e w2 ⟨rfl, hb2⟩)
  go_ret
  exact ⟨rfl, Bel⟩
set_option maxRecDepth 100000 in
set_option maxHeartbeats 1000000 in
theorem sidx_c (A : Option Addr) (c : Nat) (l : List St) (w : World) (hs : SlA eSt w A l) (hr : ∀ s ∈ l, MayS s) (hl : l.length ≤ 1048576) :
    Calls Tryz.prog 238 #[.slice A l.length c, .func (.func 206) #[] #[]] w (Ret w (.int .i64 (-1))) := by
  have HR := Lib.hid hr
  clear hr
  go_enter Tryz.func238, Tryz.ntmps238
  go_wp2
  go_loopw [8] (fun sk wr => ∃ k : Nat, sk = .int .i64 k ∧ k ≤ l.length ∧ Below w.heap.size w wr) (fun sk _ => l.length - (intOf sk).toNat)
  case atStart => exact ⟨0, rfl, by omega, Bel⟩
  case round =>
    obtain ⟨k, rfl, hk, hb⟩ := hrel
    by_cases hlt : k < l.length
    · obtain ⟨b, o, rfl, _, p1, p2, p3⟩ := hs.n3 (fun _ => rfl) hb k hlt
      have hlt' : (k : Int) < l.length := by omega
      have hRR := Lib.hid (HR.out _ (List.getElem_mem hlt))
      obtain ⟨r, hrr⟩ : ∃ r, l[k] = r := ⟨_, rfl⟩
      rw [hrr] at p1 p2 p3 hRR
      clear hrr
      go_wp2_with (go_at_call 206; refine (nmay_c r _ hRR.out).mono ?_; rintro e w2 ⟨rfl, hb2⟩)
      exact ⟨⟨k + 1, by go_num, by omega, by first | exact hb.trans hb2 | exact Bel⟩, by simp [intOf]; omega⟩
    · have hlt' : ¬ (k : Int) < l.length := by omega
      go_wp2
      go_ret
      exact ⟨rfl, hb⟩
theorem scontains_c (A : Option Addr) (c : Nat) (l : List St) (w : World) (hs : SlA eSt w A l) (hr : ∀ s ∈ l, MayS s) (hl : l.length ≤ 1048576) :
    Calls Tryz.prog 205 #[.slice A l.length c, .func (.func 206) #[] #[]] w (Ret w (.bool false)) := by
  have HR := Lib.hid hr
  clear hr
  go_enter Tryz.func205, Tryz.ntmps205
  go_wp2_with (go_at_call 238; refine (sidx_c A c l _ hs HR.out hl).mono ?_; rintro e w2 ⟨rfl, hb2⟩)
  go_ret
  exact ⟨rfl, hb2⟩
theorem schk_c (A : Option Addr) (c : Nat) (l : List St) (w : World) (hs : SlA eSt w A l) (hr : ∀ s ∈ l, MayS s) (hl : l.length ≤ 1048576) :
    Calls Tryz.prog 159 #[.slice A l.length c] w (Ret w (.int .i64 0)) := by
  have HR := Lib.hid hr
  clear hr
  go_enter Tryz.func159, Tryz.ntmps159
  go_wp2_with (go_at_call 205; refine (scontains_c A c l _ hs HR.out hl).mono ?_; rintro e w2 ⟨rfl, hb2⟩)
  go_ret
  exact ⟨rfl, hb2⟩
set_option maxRecDepth 100000 in
set_option maxHeartbeats 2000000 in
theorem r4chk_c (A : Option Addr) (c : Nat) (l : List St) (w : World) (hs : SlA eSt w A l) (hr : ∀ s ∈ l, MayS s) (hl : l.length ≤ 1048576) :
    Calls Tryz.prog 166 #[.slice A l.length c] w (Ret w (.int .i64 0)) := by
  have HR := Lib.hid hr
  clear hr
  go_enter Tryz.func166, Tryz.ntmps166
  go_wp2
  go_loopw [8] (fun sk wr => ∃ k : Nat, sk = .int .i64 k ∧ k ≤ l.length ∧ Below w.heap.size w wr) (fun sk _ => l.length - (intOf sk).toNat)
  case atStart => exact ⟨0, rfl, by omega, Bel⟩
  case round =>
    obtain ⟨k, rfl, hk, hb⟩ := hrel
    by_cases hlt : k < l.length
    · obtain ⟨b, o, rfl, _, p1, p2, p3⟩ := hs.n3 (fun _ => rfl) hb k hlt
      have hlt' : (k : Int) < l.length := by omega
      have hRR := HR.out _ (List.getElem_mem hlt)
      obtain ⟨s, hse⟩ : ∃ s, l[k] = s := ⟨_, rfl⟩
      rw [hse] at p1 p2 p3 hRR
      clear hse
      obtain ⟨kk, aa, bb⟩ := s
      obtain ⟨hra, hrb, hkk⟩ := hRR
      simp only at p1 p2 p3 hra hrb hkk
      have da : decide (IsR aa) = true := by simpa using hra
      have db : decide (IsR bb) = true := by simpa using hrb
      rcases hkk with ⟨rfl, rfl⟩ | ⟨rfl, hne⟩ | ⟨rfl, rfl⟩ | ⟨rfl, rfl⟩
      all_goals
        try have hne' : (aa != bb) = true := by simpa using hne
        go_wp2_with (go_at_call 218; refine (r1is_c _ _).mono ?_; rintro e w' ⟨rfl, rfl⟩; first | rw [da] | rw [db])
        exact ⟨⟨k + 1, by go_num, by omega, Bel⟩, by simp [intOf]; omega⟩
    · have hlt' : ¬ (k : Int) < l.length := by omega
      go_wp2
      go_ret
      exact ⟨rfl, hb⟩
theorem take_snoc {l : List St} {k : Nat} (h : k < l.length) : l.take (k + 1) = l.take k ++ [l[k]] := List.take_succ_eq_append_getElem h
def encZ (l : List Int) : List Int := l.flatMap Lib.encodeRuneZ
theorem encZ_snoc (l : List Int) (r : Int) : encZ (l ++ [r]) = encZ l ++ Lib.encodeRuneZ r := by unfold encZ; rw [List.flatMap_append]; simp
theorem encZ_none {l : List Int} (h : encZ l = []) : l = [] := by
  cases l with
  | nil => rfl
  | cons r l =>
    unfold encZ at h
    rw [List.flatMap_cons, List.append_eq_nil_iff] at h
    have := (Lib.encodeRuneZ_length r).1
    rw [h.1] at this; simp at this
theorem encZ_small (l : List St) (hl : l.length ≤ 1048576) : (encZ (leftR l)).length ≤ 4194304 ∧ (encZ (rightR l)).length ≤ 4194304 := by
  have h1 := encZ_len (leftR l)
  have h2 := encZ_len (rightR l)
  have h3 := leftR_len l
  have h4 := rightR_len l
  unfold encZ
  omega
theorem conv_any {base : Nat} {w : World} {v : Value} {zs : List Int} (h : Own (eInt .u8) base 5 w v zs) (hn : zs = [] → v = .slice none 0 0) : (convert 160 9 v).run Tryz.prog w = .ok (.string (strOfNums zs)) w := by
  by_cases h0 : zs = []
  · rw [hn h0, h0]
    exact run_convert_bytes_nil (P := Tryz.prog) (w := w) 160 5 Tryz.underlying160 Tryz.underlying5 0 0 9 Tryz.underlying9
  · exact conv_bytes (src := 160) (dst := 9) Tryz.underlying160 Tryz.underlying5 Tryz.underlying9 h.slv h0
set_option maxRecDepth 100000 in
set_option maxHeartbeats 3000000 in
theorem sread_c (A : Option Addr) (c : Nat) (l : List St) (w : World) (hs : SlA eSt w A l) (hr : ∀ s ∈ l, MayS s) (hl : l.length ≤ 1048576) :
    Calls Tryz.prog 209 #[.slice A l.length c] w (Ret w (.tuple #[.string (txt (leftR l)), .string (txt (rightR l)), .int .i64 0])) := by
  have HR := Lib.hid hr
  clear hr
  go_enter Tryz.func209, Tryz.ntmps209
  go_wp2_with (go_at_call 159; refine (schk_c A c l _ hs HR.out hl).mono ?_; rintro e w2 ⟨rfl, hb2⟩)
  go_loopw [6, 7, 17] (fun sa sb sk wr => ∃ k : Nat, sk = .int .i64 k ∧ k ≤ l.length ∧ Own (eInt .u8) w.heap.size 5 wr sa (encZ (leftR (l.take k))) ∧ Own (eInt .u8) w.heap.size 5 wr sb (encZ (rightR (l.take k))) ∧ ApartV sa sb ∧ Hid ((encZ (leftR (l.take k)) = [] → sa = .slice none 0 0) ∧ (encZ (rightR (l.take k)) = [] → sb = .slice none 0 0)) ∧ Below w.heap.size w wr) (fun _ _ sk _ => l.length - (intOf sk).toNat)
  case atStart => exact ⟨0, rfl, by omega, Own.nil _, Own.nil _, ApartV.none _, ⟨fun _ => rfl, fun _ => rfl⟩, hb2⟩
  case round =>
    obtain ⟨k, rfl, hk, hOa, hOb, hap, HN, hb⟩ := hrel
    by_cases hlt : k < l.length
    · obtain ⟨b, o, rfl, _, p1, p2, p3⟩ := hs.n3 (fun _ => rfl) hb k hlt
      have hlt' : (k : Int) < l.length := by omega
      have hRR := HR.out _ (List.getElem_mem hlt)
      have hL := leftR_snoc l[k] (l.take k)
      have hRt := rightR_snoc l[k] (l.take k)
      rw [← take_snoc hlt] at hL hRt
      obtain ⟨hla, hlb⟩ := encZ_small (l.take k) (by rw [List.length_take]; omega)
      obtain ⟨s, hse⟩ : ∃ s, l[k] = s := ⟨_, rfl⟩
      rw [hse] at p1 p2 p3 hRR hL hRt
      clear hse
      obtain ⟨kk, aa, bb⟩ := s
      obtain ⟨hra, hrb, hkk⟩ := hRR
      simp only at p1 p2 p3 hra hrb hkk hL hRt
      have HRA := Lib.hid hra
      have HRB := Lib.hid hrb
      have HLA := Lib.hid hla
      have HLB := Lib.hid hlb
      clear hra hrb hla hlb
      have hbox : ∀ v : Value, (v.ownBlock = none ∨ ∃ g, v.ownBlock = some g ∧ g < wr.heap.size) → v.ownBlock ≠ some wr.heap.size := fun v h e => by
        rcases h with h | ⟨g, h, hlt⟩
        · rw [h] at e; cases e
        · rw [h] at e; injection e with e; omega
      have hka := hbox _ hOa.blk
      clear hbox
      have two : ∀ q : Int, q = 0 ∨ q = 1 → kk = q → leftR (l.take (k + 1)) = leftR (l.take k) ++ [aa] ∧ rightR (l.take (k + 1)) = rightR (l.take k) ++ [bb] := fun q hq e => by
        rw [if_neg (by omega)] at hL
        rw [if_neg (by omega)] at hRt
        exact ⟨hL, hRt⟩
      have ne : ∀ (x : List Int) (r : Int) {P : Prop}, encZ (x ++ [r]) = [] → P := fun x r P h => by
        have := encZ_none h
        simp at this
      rcases hkk with ⟨rfl, rfl⟩ | ⟨rfl, hne⟩ | ⟨rfl, rfl⟩ | ⟨rfl, rfl⟩
      · have HT := Lib.hid (two 0 (by omega) rfl)
        have NE := Lib.hid @ne
        clear two ne hL hRt
        go_wp2_with fail
        refine (append_m w _ _ aa _ (hOa.alloc _) Bel HRA.out HLA.out).mono ?_
        rintro e w6 ⟨v6, rfl, HO6, hb6, hf6, hk6⟩
        obtain ⟨HOb6, hap6⟩ := hk6 _ _ (hOb.alloc _) hap.symm
        have hh := fun i : Nat => World.cell?_of_block (a := ⟨wr.heap.size, i, none⟩) (hf6 wr.heap.size (by simp) hka)
        have q0 : w6.cell? ⟨wr.heap.size, 0, none⟩ = some (.int .i64 0) := by rw [hh 0]; simp [go_sem]
        have q2 : w6.cell? ⟨wr.heap.size, 2, none⟩ = some (.int .i32 aa) := by rw [hh 2]; simp [go_sem]
        go_wp2_with fail
        refine (append_m w _ _ aa _ HOb6 hb6 HRB.out HLB.out).mono ?_
        rintro e w7 ⟨v7, rfl, HO7, hb7, hf7, hk7⟩
        obtain ⟨HOa7, hap7⟩ := hk7 _ _ HO6 hap6.symm
        go_wp2_with fail
        refine ⟨⟨k + 1, by go_num, by omega, ?_, ?_, hap7, ⟨?_, ?_⟩, hb7⟩, by simp [intOf]; omega⟩
        · rw [HT.out.1, encZ_snoc]; exact HOa7
        · rw [HT.out.2, encZ_snoc]; exact HO7
        · rw [HT.out.1]; exact fun h => NE.out _ _ h
        · rw [HT.out.2]; exact fun h => NE.out _ _ h
      · have HT := Lib.hid (two 1 (by omega) rfl)
        have NE := Lib.hid @ne
        clear two ne hL hRt
        go_wp2_with fail
        refine (append_m w _ _ aa _ (hOa.alloc _) Bel HRA.out HLA.out).mono ?_
        rintro e w6 ⟨v6, rfl, HO6, hb6, hf6, hk6⟩
        obtain ⟨HOb6, hap6⟩ := hk6 _ _ (hOb.alloc _) hap.symm
        have hh := fun i : Nat => World.cell?_of_block (a := ⟨wr.heap.size, i, none⟩) (hf6 wr.heap.size (by simp) hka)
        have q0 : w6.cell? ⟨wr.heap.size, 0, none⟩ = some (.int .i64 1) := by rw [hh 0]; simp [go_sem]
        have q2 : w6.cell? ⟨wr.heap.size, 2, none⟩ = some (.int .i32 bb) := by rw [hh 2]; simp [go_sem]
        go_wp2_with fail
        refine (append_m w _ _ bb _ HOb6 hb6 HRB.out HLB.out).mono ?_
        rintro e w7 ⟨v7, rfl, HO7, hb7, hf7, hk7⟩
        obtain ⟨HOa7, hap7⟩ := hk7 _ _ HO6 hap6.symm
        go_wp2_with fail
        refine ⟨⟨k + 1, by go_num, by omega, ?_, ?_, hap7, ⟨?_, ?_⟩, hb7⟩, by simp [intOf]; omega⟩
        · rw [HT.out.1, encZ_snoc]; exact HOa7
        · rw [HT.out.2, encZ_snoc]; exact HO7
        · rw [HT.out.1]; exact fun h => NE.out _ _ h
        · rw [HT.out.2]; exact fun h => NE.out _ _ h
      · have NE := Lib.hid @ne
        rw [if_neg (by decide)] at hL
        rw [if_pos rfl, List.append_nil] at hRt
        have HL := Lib.hid hL
        have HRt := Lib.hid hRt
        clear two ne hL hRt
        go_wp2_with fail
        refine (append_m w _ _ aa _ (hOa.alloc _) Bel HRA.out HLA.out).mono ?_
        rintro e w6 ⟨v6, rfl, HO6, hb6, hf6, hk6⟩
        obtain ⟨HOb6, hap6⟩ := hk6 _ _ (hOb.alloc _) hap.symm
        have hh := fun i : Nat => World.cell?_of_block (a := ⟨wr.heap.size, i, none⟩) (hf6 wr.heap.size (by simp) hka)
        have q0 : w6.cell? ⟨wr.heap.size, 0, none⟩ = some (.int .i64 2) := by rw [hh 0]; simp [go_sem]
        go_wp2_with fail
        refine ⟨⟨k + 1, by go_num, by omega, ?_, ?_, hap6.symm, ⟨?_, ?_⟩, hb6⟩, by simp [intOf]; omega⟩
        · rw [HL.out, encZ_snoc]; exact HO6
        · rw [HRt.out]; exact HOb6
        · rw [HL.out]; exact fun h => NE.out _ _ h
        · rw [HRt.out]; exact HN.out.2
      · have NE := Lib.hid @ne
        rw [if_pos rfl, List.append_nil] at hL
        rw [if_neg (by decide)] at hRt
        have HL := Lib.hid hL
        have HRt := Lib.hid hRt
        clear two ne hL hRt
        go_wp2_with fail
        refine (append_m w _ _ bb _ (hOb.alloc _) Bel HRB.out HLB.out).mono ?_
        rintro e w6 ⟨v6, rfl, HO6, hb6, hf6, hk6⟩
        obtain ⟨HOa6, hap6⟩ := hk6 _ _ (hOa.alloc _) hap
        go_wp2_with fail
        refine ⟨⟨k + 1, by go_num, by omega, ?_, ?_, hap6, ⟨?_, ?_⟩, hb6⟩, by simp [intOf]; omega⟩
        · rw [HL.out]; exact HOa6
        · rw [HRt.out, encZ_snoc]; exact HO6
        · rw [HL.out]; exact HN.out.1
        · rw [HRt.out]; exact fun h => NE.out _ _ h
    · obtain rfl : k = l.length := by omega
      have hlt' : ¬ (l.length : Int) < l.length := by omega
      rw [List.take_length] at hOa hOb HN
      have t1 : strOfNums (encZ (leftR l)) = txt (leftR l) := txt_nums _
      have t2 : strOfNums (encZ (rightR l)) = txt (rightR l) := txt_nums _
      go_wp2_with fail
      refine region_seq [(0, true), (2, true), (1, true), (4, true), (3, false), (5, true), (6, true)] (by kernel_rfl) (by kernel_rfl) (fun c a d v w h => by cases d <;> exact h) ?_
      intro W hW
      have c1 : ∀ X : Later W, (convert 160 9 u6).run Tryz.prog (World.ext W X) = .ok (.string (txt (leftR l))) (World.ext W X) := fun X => by rw [← t1]; exact conv_any ((hOa.below hW).below X.h) HN.out.1
      have c2 : (convert 160 9 u7).run Tryz.prog W = .ok (.string (txt (rightR l))) W := by rw [← t2]; exact conv_any (hOb.below hW) HN.out.2
      repeat (first
        | (refine seq_q rfl (fun K hK => ?_); unfold takeQ; go_simp; refine hK _ ?_; clear hK K)
        | (refine seq_t rfl (fun K hK => ?_); go_simp; refine hK _ _ (.of Bel) ?_; clear hK K))
      refine seq_nil ?_
      go_wp2
      refine bodyPost_ret (results_tmp3 rfl _ _ _) rfl ?_
      exact ⟨rfl, Bel⟩
end Go.Proofs.YtpnhmapkdbnkmaaGreatDoor
