/- The reference's Is; 'RuleChecks' walked. No condition. -/
import Derived.Test.YtpccanadijefnaaDoorIs
import Derived.Test.YtpccanadijefnaaDoorAlv7
namespace Go.Proofs.YtpccanadijefnaaDoor
open Go Go.RowKit
set_option maxHeartbeats 1000000 in
set_option maxRecDepth 100000 in
theorem rgreat_c (A : Option Addr) (c : Nat) (xs : List T3) (w : World) (hs : SlA eT3 w A xs) (hm : Small xs) :
    Calls Tryd.prog 25 #[.slice A xs.length c] w (Ret w (.bool (greatT xs))) := by
  have hl := hm.1
  go_enter Tryd.func25, Tryd.ntmps25
  go_wp2
  go_loopw [3, 8] (fun s i wr => ∃ k : Nat, k ≤ xs.length ∧ i = .int .i64 k ∧ s = .int .i64 (szT (xs.take k)) ∧ szT (xs.take k) ≤ k * 2097152 ∧ Below w.heap.size w wr) (fun _ i _ => xs.length - (intOf i).toNat)
  case atStart => exact ⟨0, by omega, rfl, by simp [szT], by simp [szT], Bel⟩
  case round =>
    obtain ⟨k, hk, rfl, rfl, hs1, hb⟩ := hrel
    by_cases hlt : k < xs.length
    · obtain ⟨b, o, rfl, hbs, c1, c2, c3⟩ := hs.n3 (fun _ => rfl) hb k hlt
      obtain ⟨z1, z2⟩ := hm.at k hlt
      have HD := Lib.hid (sz_take xs k hlt)
      go_wp2
      go_roundw
      case rel => exact ⟨k + 1, by omega, by go_num, by rw [HD.out]; push_cast; rfl, by rw [HD.out]; omega, Bel⟩
      case measure => simp [intOf]; omega
    · have hkk : xs.take k = xs := List.take_of_length_le (by omega)
      rw [hkk] at hs1 ⊢
      clear hkk
      have HG : Hid (greatT xs = (decide (500 < xs.length) || decide (8000 < szT xs))) := by
        show greatT xs = _
        unfold greatT; simp
      by_cases h1 : 500 < xs.length
      · go_wp2
        go_ret
        exact ⟨by rw [HG.out]; simp [h1], Bel⟩
      · by_cases h2 : 8000 < szT xs
        · go_wp2
          go_ret
          exact ⟨by rw [HG.out]; simp [h1, h2] <;> omega, Bel⟩
        · go_wp2
          go_ret
          exact ⟨by rw [HG.out]; simp [h1, h2] <;> omega, Bel⟩
theorem errR_drop (xs : List T3) (k : Nat) (h : k < xs.length) : errR (xs.drop k) = (if rchk xs[k] ≠ 0 then [rchk xs[k]] else []) ++ errR (xs.drop (k + 1)) := by
  unfold errR
  rw [List.drop_eq_getElem_cons h, List.map_cons, List.filter_cons]
  by_cases hc : rchk xs[k] = 0 <;> simp [hc]
/-- The first error, or none. -/
def allR (xs : List T3) : Int := (errR xs).headD 0
theorem allR_zero (xs : List T3) : allR xs = 0 ↔ errR xs = [] := by
  unfold allR
  constructor
  · intro h
    cases he : errR xs with
    | nil => rfl
    | cons e r =>
      exfalso
      rw [he] at h
      have h1 : e ∈ errR xs := by rw [he]; simp
      have h2 := (List.mem_filter.1 h1).2
      simp at h2 h
      exact h2 h
  · intro h; rw [h]; rfl
theorem allR_drop (xs : List T3) (k : Nat) (h : k < xs.length) : allR (xs.drop k) = if rchk xs[k] = 0 then allR (xs.drop (k + 1)) else rchk xs[k] := by
  unfold allR
  rw [errR_drop xs k h]
  by_cases hc : rchk xs[k] = 0 <;> simp [hc]
set_option maxHeartbeats 1000000 in
set_option maxRecDepth 100000 in
theorem r7all_c (A : Option Addr) (c : Nat) (xs : List T3) (w : World) (hs : SlA eT3 w A xs) (hm : Small xs) :
    Calls Tryd.prog 72 #[.slice A xs.length c] w (Ret w (.int .i64 (allR xs))) := by
  have hl := hm.1
  go_enter Tryd.func72, Tryd.ntmps72
  go_wp2
  go_loopw [8] (fun i wr => ∃ k : Nat, k ≤ xs.length ∧ i = .int .i64 k ∧ Hid (allR (xs.drop k) = allR xs) ∧ Below w.heap.size w wr) (fun i _ => xs.length - (intOf i).toNat)
  case atStart => exact ⟨0, by omega, rfl, rfl, Bel⟩
  case round =>
    obtain ⟨k, hk, rfl, HE, hb⟩ := hrel
    by_cases hlt : k < xs.length
    · obtain ⟨b, o, rfl, hbs, c1, c2, c3⟩ := hs.n3 (fun _ => rfl) hb k hlt
      have hd := allR_drop xs k hlt
      obtain ⟨z1, z2⟩ := hm.at k hlt
      by_cases hz : rchk xs[k] = 0
      · rw [if_pos hz] at hd
        have HD := Lib.hid hd; have HZ := Lib.hid hz
        clear hd hz
        go_wp2_with (go_at_call 29; refine (r7chk_c xs[k] _ (by omega) (by omega)).mono ?_; rintro e w2 ⟨rfl, hb2⟩; rw [HZ.out])
        exact ⟨⟨k + 1, by omega, by go_num, HD.out.symm.trans HE.out, Bel⟩, by simp [intOf]; omega⟩
      · rw [if_neg hz] at hd
        have hn : (rchk xs[k] != 0) = true := by simp [hz]
        have HD := Lib.hid hd
        clear hd hz
        go_wp2_with (go_at_call 29; refine (r7chk_c xs[k] _ (by omega) (by omega)).mono ?_; rintro e w2 ⟨rfl, hb2⟩)
        go_ret
        exact ⟨ret_int (HD.out.symm.trans HE.out), Bel⟩
    · go_wp2
      go_ret
      exact ⟨ret_int (by have h := HE.out; rw [List.drop_of_length_le (by omega)] at h; exact h), Bel⟩
set_option maxHeartbeats 1000000 in
set_option maxRecDepth 100000 in
theorem r7is_c (A : Option Addr) (c : Nat) (xs : List T3) (w : World) (hs : SlA eT3 w A xs) (hm : Small xs) :
    Calls Tryd.prog 27 #[.slice A xs.length c] w (Ret w (.int .i64 (isE xs))) := by
  have hl := hm.1
  by_cases h0 : allR xs = 0
  · have HE := Lib.hid h0
    have HI : Hid (isE xs = if riseT xs = false then 7 else if 4096 < xs.length then 6 else 0) := by show isE xs = _; unfold isE; rw [if_neg (by simpa using (allR_zero xs).1 h0)]
    clear h0
    go_enter Tryd.func27, Tryd.ntmps27
    go_wp2_with (go_at_call 72; refine (r7all_c A c xs _ hs hm).mono ?_; rintro e w1 ⟨rfl, hb1⟩; rw [HE.out])
    go_loopw [12] (fun s wr => ∃ k : Nat, k ≤ xs.length ∧ s = .int .i64 k ∧ Hid (upTo xs k) ∧ Below w.heap.size w wr) (fun s _ => xs.length - (intOf s).toNat)
    case atStart => exact ⟨0, by omega, rfl, fun i h h1 => by omega, Bel⟩
    case round =>
      obtain ⟨k, hk, rfl, HUP, hbw⟩ := hrel
      by_cases hlt : k < xs.length
      · rcases Nat.eq_zero_or_pos k with rfl | hp
        · go_wp2_with fail
          refine region_seq [(0, true), (1, true), (2, true), (3, true), (4, true), (5, true), (6, true), (7, true), (8, true), (9, true), (10, true), (11, true), (12, false), (13, true), (14, true)] (by kernel_rfl) (by kernel_rfl) (fun c a d v w h => by cases d <;> exact h) ?_
          intro W2 hW2
          repeat (first
            | (refine seq_q rfl (fun K hK => ?_); unfold takeQ; go_simp; refine hK _ ?_; clear hK K)
            | (refine seq_t rfl (fun K hK => ?_); go_simp; refine hK _ _ (.of Bel) ?_; clear hK K))
          refine seq_nil ?_
          go_wp2
          exact ⟨⟨1, by omega, rfl, fun i h h1 => by omega, Bel⟩, by simp [intOf]; omega⟩
        · obtain ⟨j, rfl⟩ : ∃ j, k = j + 1 := ⟨k - 1, by omega⟩
          obtain ⟨b, o, rfl, hbs, c1, c2, c3⟩ := hs.n3 (fun _ => rfl) hbw j (by omega)
          obtain ⟨b', o', h', _, d1, d2, d3⟩ := hs.n3 (fun _ => rfl) hbw (j + 1) (by omega)
          obtain ⟨rfl, rfl⟩ : b = b' ∧ o = o' := by injection h' with h'; injection h' with h1 h2; exact ⟨h1, h2⟩
          clear h'
          have hjl : j < xs.length := by omega
          have hj1 : (j : Int) + 1 < xs.length := by omega
          have hj0 : 0 ≤ (j : Int) + 1 := by omega
          have ht1 : ((j : Int) + 1).toNat = j + 1 := by omega
          have hwj : IntKind.i64.wrap (j : Int) = j := IntWalk.i64_in _ (by omega)
          cases hy : ltT xs[j] xs[j + 1]
          all_goals
            have HY := Lib.hid hy
            clear hy
            go_wp2_with fail
            refine region_seq [(0, true), (1, true), (2, true), (3, true), (4, true), (5, true), (6, true), (7, true), (8, true), (9, true), (10, true), (11, true), (12, false), (13, true), (14, true)] (by kernel_rfl) (by kernel_rfl) (fun c a d v w h => by cases d <;> exact h) ?_
            intro W2 hW2
            obtain ⟨hcW, hzW⟩ := bcell hW2
            repeat (first
              | (refine seq_q rfl (fun K hK => ?_); unfold takeQ; go_simp; refine hK _ ?_; clear hK K)
              | (refine seq_t rfl (fun K hK => ?_); go_simp; go_at_call 31; refine (r7less_c xs[j] xs[j + 1] _).mono ?_; rintro e w3 ⟨rfl, hb3⟩; rw [HY.out]; go_simp; refine hK _ _ (.of Bel) ?_; clear hK K))
            refine seq_nil ?_
          · have HV : Hid (isE xs = 7) := by show isE xs = 7; rw [HI.out, if_pos (rise_no hlt HY.out)]
            go_wp2
            go_ret
            exact ⟨by rw [HV.out]; rfl, Bel⟩
          · go_wp2
            exact ⟨⟨j + 1 + 1, by omega, by go_num, upTo_succ hlt HUP.out HY.out, Bel⟩, by simp [intOf]; omega⟩
      · obtain rfl : k = xs.length := by omega
        have HR2 := Lib.hid (upTo_all HUP.out)
        have HS : Hid (isE xs = if 4096 < xs.length then 6 else 0) := by show isE xs = _; rw [HI.out, if_neg (by rw [HR2.out]; simp)]
        by_cases h4 : 4096 < xs.length
        · go_wp2
          go_ret
          exact ⟨ret_int (by rw [HS.out, if_pos h4]), Bel⟩
        · go_wp2
          go_ret
          exact ⟨ret_int (by rw [HS.out, if_neg h4]), Bel⟩
  · have HI : Hid (isE xs = allR xs) := by show isE xs = _; unfold isE; rw [if_pos (fun h => h0 ((allR_zero xs).2 h))]; rfl
    have hn : (allR xs != 0) = true := by simp [h0]
    clear h0
    go_enter Tryd.func27, Tryd.ntmps27
    go_wp2_with (go_at_call 72; refine (r7all_c A c xs _ hs hm).mono ?_; rintro e w1 ⟨rfl, hb1⟩)
    go_ret
    exact ⟨by rw [HI.out]; rfl, Bel⟩
theorem small_two {a b : T3} (ha : a.f.size ≤ 1048576 ∧ a.t.size ≤ 1048576) (hb : b.f.size ≤ 1048576 ∧ b.t.size ≤ 1048576) : Small [a, b] := ⟨by simp, fun x hx => by
  simp only [List.mem_cons, List.not_mem_nil, or_false] at hx
  rcases hx with rfl | rfl
  · exact ha
  · exact hb⟩
/-- A block that holds a three-celled value. -/
structure B3 (w : World) (b : Nat) (x : T3) : Prop where
  lt : b < w.heap.size
  c0 : w.cell? ⟨b, 0, none⟩ = some (.string x.f)
  c1 : w.cell? ⟨b, 1, none⟩ = some (.string x.t)
  c2 : w.cell? ⟨b, 2, none⟩ = some (.int .i64 x.n)
theorem B3.below {w w' : World} {b : Nat} {x : T3} (h : B3 w b x) (hb : Below w.heap.size w w') : B3 w' b x :=
  ⟨Nat.lt_of_lt_of_le h.lt hb.size, (hb.cell (p := ⟨b, 0, none⟩) h.lt).trans h.c0, (hb.cell (p := ⟨b, 1, none⟩) h.lt).trans h.c1, (hb.cell (p := ⟨b, 2, none⟩) h.lt).trans h.c2⟩
theorem B3.new (w : World) (x : T3) (t : TypeId) : B3 (w.alloc (.cells #[.string x.f, .string x.t, .int .i64 x.n] t)) w.heap.size x :=
  ⟨by simp, by simp [go_sem], by simp [go_sem], by simp [go_sem]⟩
theorem B3.alloc {w : World} {b : Nat} {x : T3} (h : B3 w b x) (o : Obj) : B3 (w.alloc o) b x := h.below (Bal (Below.refl _ _) _)
set_option maxHeartbeats 2000000 in
set_option maxRecDepth 100000 in
theorem checks_c (A : Option Addr) (c : Nat) (xs : List T3) (a b : T3) (w : World) (hU : U w) (hs : SlA eT3 w A xs) (hm : Small xs) (ha : a.f.size ≤ 1048576 ∧ a.t.size ≤ 1048576) (hb : b.f.size ≤ 1048576 ∧ b.t.size ≤ 1048576) :
    Calls Tryd.prog 4 #[.slice A xs.length c, .agg #[.string a.f, .string a.t, .int .i64 a.n], .agg #[.string b.f, .string b.t, .int .i64 b.n]] w (Ret w (.bool true)) := by
  obtain ⟨ha1, ha2⟩ := ha
  obtain ⟨hb1', hb2'⟩ := hb
  have hab : Small [a, b] := small_two ⟨ha1, ha2⟩ ⟨hb1', hb2'⟩
  have A0 := (B3.new w a 33).alloc (.cells #[.string b.f, .string b.t, .int .i64 b.n] 33)
  have B0 := B3.new (w.alloc (.cells #[.string a.f, .string a.t, .int .i64 a.n] 33)) b 33
  rw [World.size_alloc] at B0
  cases hg : greatT xs <;> cases hg2 : greatT [a, b]
  all_goals
    have HG := Lib.hid hg; have HG2 := Lib.hid hg2
    clear hg hg2
    go_enter Tryd.func4, Tryd.ntmps4
    go_wp2_with fail
    refine (alive7_c _ (hU.to Bel)).mono ?_
    rintro e w1 ⟨rfl, hb1⟩
    have A1 := A0.below hb1
    have B1 := B0.below hb1
    clear A0 B0
    go_wp2_with fail
    refine (rgreat_c A c xs _ (hs.below Bel) hm).mono ?_
    rintro e w2 ⟨rfl, hb2⟩
    rw [HG.out]
    have A2 := A1.below hb2
    have B2 := B1.below hb2
    clear A1 B1
    obtain ⟨_, a0, a1, a2⟩ := A2
    obtain ⟨_, b0, b1, b2⟩ := B2
    go_wp2_with fail
    try (refine (rgreat_c (some ⟨_, 0, none⟩) 2 [a, b] _ (SlA.new _ _ _ _ _ (by simp) _ rfl) hab).mono ?_; rintro e w3 ⟨rfl, hb3⟩; rw [HG2.out]; have A3 : B3 w3 w.heap.size a := (B3.alloc ⟨by omega, a0, a1, a2⟩ _).below hb3; have B3' : B3 w3 (w.heap.size + 1) b := (B3.alloc ⟨by omega, b0, b1, b2⟩ _).below hb3; clear a0 a1 a2 b0 b1 b2; go_wp2_with fail)
  all_goals try (go_ret; exact ⟨rfl, Bel⟩)
  refine region_seq [(0, true), (2, true), (1, false), (3, false), (4, true), (5, true), (6, true), (8, true), (7, false), (9, false), (10, true), (11, true), (12, true), (13, true), (14, true), (16, true), (17, true), (15, false), (18, false), (19, true), (20, true), (21, true)] (by kernel_rfl) (by kernel_rfl) (fun c a d v w h => by cases d <;> exact h) ?_
  intro W hW
  have hbw : Below w.heap.size w W := Bel
  obtain ⟨_, a0, a1, a2⟩ := A3.below hW
  obtain ⟨_, b0, b1, b2⟩ := B3'.below hW
  clear A3 B3' hb1 hb2 hb3 hW
  repeat (first
    | (refine seq_q rfl (fun K hK => ?_); unfold takeQ; go_simp; refine hK _ ?_; clear hK K)
    | (refine seq_t rfl (fun K hK => ?_); go_simp; go_at_call 26; refine (is_c A c xs _ (hU.to Bel) (hs.below Bel) hm).mono ?_; rintro e w4 ⟨rfl, hb4⟩; go_simp; refine hK _ _ (.of Bel) ?_; clear hK K)
    | (refine seq_t rfl (fun K hK => ?_); go_simp; go_at_call 27; refine (r7is_c A c xs _ (hs.below Bel) hm).mono ?_; rintro e w5 ⟨rfl, hb5⟩; go_simp; refine hK _ _ (.of Bel) ?_; clear hK K)
    | (refine seq_t rfl (fun K hK => ?_); go_simp; go_at_call 28; refine (rchk_c a _ (hU.to Bel) (by omega) (by omega)).mono ?_; rintro e w6 ⟨rfl, hb6⟩; go_simp; refine hK _ _ (.of Bel) ?_; clear hK K)
    | (refine seq_t rfl (fun K hK => ?_); go_simp; go_at_call 29; refine (r7chk_c a _ (by omega) (by omega)).mono ?_; rintro e w7 ⟨rfl, hb7⟩; go_simp; refine hK _ _ (.of Bel) ?_; clear hK K)
    | (refine seq_t rfl (fun K hK => ?_); go_simp; go_at_call 30; refine (rless_c a b _).mono ?_; rintro e w8 ⟨rfl, hb8⟩; go_simp; refine hK _ _ (.of Bel) ?_; clear hK K)
    | (refine seq_t rfl (fun K hK => ?_); go_simp; go_at_call 31; refine (r7less_c a b _).mono ?_; rintro e w9 ⟨rfl, hb9⟩; go_simp; refine hK _ _ (.of Bel) ?_; clear hK K))
  refine seq_nil ?_
  go_wp2
  go_ret
  exact ⟨by simp, Bel⟩
end Go.Proofs.YtpccanadijefnaaDoor
