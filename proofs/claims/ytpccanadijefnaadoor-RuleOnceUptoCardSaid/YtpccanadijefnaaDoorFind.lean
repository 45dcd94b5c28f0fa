/- slices.BinarySearchFunc over a table of blocks, and count.Find. No condition. -/
import Derived.Test.YtpccanadijefnaaDoorLaw6
namespace Go.Proofs.YtpccanadijefnaaDoor
open Go Go.RowKit
/-- What a search hands back. -/
def BsPost (w : World) (ys : List T3) (x : T3) (e : Ending) (w' : World) : Prop :=
  ∃ (i : Nat) (ok : Bool), e = .returned (.tuple #[.int .i64 i, .bool ok]) ∧ Below w.heap.size w w' ∧ (ok = true → ∃ h : i < ys.length, SameS ys[i] x) ∧ (ok = false → ∀ y ∈ ys, ¬ SameS y x)
theorem cmpB_zero {a b : T3} : cmpB a b = 0 ↔ SameS a b := by
  unfold cmpB
  constructor
  · intro h
    cases h1 : ltT a b
    · rw [h1] at h
      cases h2 : ltT b a
      · exact ltT_tri h1 h2
      · rw [h2] at h; simp at h
    · rw [h1] at h; simp at h
  · rintro ⟨h1, h2⟩
    rw [ltT_same h1 h2 rfl rfl, ltT_irrefl, ltT_same (b := a) rfl rfl h1 h2, ltT_irrefl]; simp
theorem cmpB_neg {a b : T3} : cmpB a b < 0 ↔ ltT a b = true := by
  unfold cmpB
  cases h1 : ltT a b
  · cases h2 : ltT b a <;> simp
  · simp
theorem cmpB_dec (a b : T3) : decide (cmpB a b < 0) = ltT a b := by
  cases h : ltT a b
  · simp only [decide_eq_false_iff_not]; exact fun h2 => by rw [cmpB_neg.1 h2] at h; cases h
  · simp only [decide_eq_true_eq]; exact cmpB_neg.2 h
set_option maxHeartbeats 1000000 in
set_option maxRecDepth 100000 in
theorem bs_c (A : Option Addr) (c : Nat) (ys : List T3) (x : T3) (w : World) (hs : SlA eT3 w A ys) (hl : ys.length ≤ 4294967296) (hr : ys.Pairwise fun a b => ltT a b = true) :
    Calls Tryd.prog 78 #[.slice A ys.length c, .agg #[.string x.f, .string x.t, .int .i64 x.n], .func (.func 79) #[] #[]] w (BsPost w ys x) := by
  have HR := Lib.hid hr
  clear hr
  go_enter Tryd.func78, Tryd.ntmps78
  go_wp2
  go_loopw [9, 10] (fun lo hi wr => ∃ i j : Nat, lo = .int .i64 i ∧ hi = .int .i64 j ∧ i ≤ j ∧ j ≤ ys.length ∧ Hid (∀ q (h : q < ys.length), q < i → ltT ys[q] x = true) ∧ Hid (∀ q (h : q < ys.length), j ≤ q → ltT ys[q] x = false) ∧ Below (w.alloc (.cells #[.string x.f, .string x.t, .int .i64 x.n] 25)).heap.size (w.alloc (.cells #[.string x.f, .string x.t, .int .i64 x.n] 25)) wr) (fun lo hi _ => (intOf hi).toNat - (intOf lo).toNat)
  case atStart => exact ⟨0, ys.length, rfl, rfl, by omega, by omega, fun q _ h => by omega, fun q h1 h2 => by omega, Bel⟩
  case round =>
    obtain ⟨i, j, rfl, rfl, hij, hj, HL, HH, hb⟩ := hrel
    by_cases hlt : i < j
    · obtain ⟨m, hm, hm1, hm2⟩ : ∃ m : Nat, ((i : Int) + j) / 2 = m ∧ i ≤ m ∧ m < j := ⟨(i + j) / 2, by push_cast; rfl, by omega, by omega⟩
      have hml : m < ys.length := by omega
      have hml1 : (m : Int) < ys.length := by omega
      have hml0 : (0 : Int) ≤ m := by omega
      have hb' : Below w.heap.size w wr := Bst (Bal (Below.refl _ _) _) hb
      obtain ⟨b, o, rfl, hbs, c1, c2, c3⟩ := hs.n3 (fun _ => rfl) hb' m hml
      have hc := hb.cell (p := ⟨w.heap.size, 0, none⟩) (by simp)
      have hc1 := hb.cell (p := ⟨w.heap.size, 1, none⟩) (by simp)
      have hc2 := hb.cell (p := ⟨w.heap.size, 2, none⟩) (by simp)
      have d1 : wr.cell? ⟨w.heap.size, 0, none⟩ = some (.string x.f) := hc.trans (by simp [go_sem])
      have d2 : wr.cell? ⟨w.heap.size, 1, none⟩ = some (.string x.t) := hc1.trans (by simp [go_sem])
      have d3 : wr.cell? ⟨w.heap.size, 2, none⟩ = some (.int .i64 x.n) := hc2.trans (by simp [go_sem])
      have hws : w.heap.size < wr.heap.size := by have := hb.size; simp at this; omega
      clear hc hc1 hc2
      cases hq : ltT ys[m] x
      all_goals
        obtain ⟨z, hz⟩ : ∃ z, cmpB ys[m] x = z := ⟨_, rfl⟩
        have hzn := cmpB_dec ys[m] x
        rw [hz] at hzn
        replace hz := Lib.hid hz
        rw [hq] at hzn
        have HQ := Lib.hid hq
        clear hq
        go_wp2_with fail
        try simp only [hm]
        refine region_seq [(0, true), (1, true), (2, true), (3, true), (4, true), (5, true), (6, false), (7, true)] (by kernel_rfl) (by kernel_rfl) (fun c a d v w h => by cases d <;> exact h) ?_
        intro W hW
        obtain ⟨hcW, hzW⟩ := bcell hW
        repeat (first
          | (refine seq_q rfl (fun K hK => ?_); unfold takeQ; go_simp; refine hK _ ?_; clear hK K)
          | (refine seq_t rfl (fun K hK => ?_); go_simp; go_at_call 79; refine (ccomp_c ys[m] x _).mono ?_; rintro e w3 ⟨rfl, hb3⟩; (try rw [show (if ltT ys[m] x = true then (-1 : Int) else if ltT x ys[m] = true then 1 else 0) = z from hz.out]); go_simp; refine hK _ _ (.of Bel) ?_; clear hK K))
        refine seq_nil ?_
        go_wp2
      · refine ⟨⟨i, m, rfl, rfl, hm1, by omega, HL, fun q h hmq => ?_, Bst (Bst hb hW) hb3⟩, by simp [intOf]; omega⟩
        cases e : ltT ys[q] x
        · rfl
        · rcases Nat.lt_or_ge m q with h1 | h1
          · have := ltT_trans (List.pairwise_iff_getElem.1 HR.out m q hml h h1) e
            rw [HQ.out] at this; cases this
          · obtain rfl : m = q := by omega
            rw [HQ.out] at e; cases e
      · refine ⟨⟨m + 1, j, by go_num, rfl, by omega, hj, fun q h hmq => ?_, HH, Bst (Bst hb hW) hb3⟩, by simp [intOf]; omega⟩
        rcases Nat.lt_or_ge q m with h1 | h1
        · exact ltT_trans (List.pairwise_iff_getElem.1 HR.out q m h hml h1) HQ.out
        · obtain rfl : m = q := by omega
          exact HQ.out
    · obtain rfl : i = j := by omega
      have hb' : Below w.heap.size w wr := Bst (Bal (Below.refl _ _) _) hb
      by_cases hin : i < ys.length
      · have hin1 : (i : Int) < ys.length := by omega
        obtain ⟨b, o, rfl, hbs, c1, c2, c3⟩ := hs.n3 (fun _ => rfl) hb' i hin
        have hc := hb.cell (p := ⟨w.heap.size, 0, none⟩) (by simp)
        have hc1 := hb.cell (p := ⟨w.heap.size, 1, none⟩) (by simp)
        have hc2 := hb.cell (p := ⟨w.heap.size, 2, none⟩) (by simp)
        have d1 : wr.cell? ⟨w.heap.size, 0, none⟩ = some (.string x.f) := hc.trans (by simp [go_sem])
        have d2 : wr.cell? ⟨w.heap.size, 1, none⟩ = some (.string x.t) := hc1.trans (by simp [go_sem])
        have d3 : wr.cell? ⟨w.heap.size, 2, none⟩ = some (.int .i64 x.n) := hc2.trans (by simp [go_sem])
        have hws : w.heap.size < wr.heap.size := by have := hb.size; simp at this; omega
        clear hc hc1 hc2
        obtain ⟨z, hz⟩ : ∃ z, cmpB ys[i] x = z := ⟨_, rfl⟩
        have hz0 := cmpB_zero (a := ys[i]) (b := x)
        rw [hz] at hz0
        replace hz := Lib.hid hz
        obtain ⟨bz, hbz⟩ : ∃ bz, (z == 0) = bz := ⟨_, rfl⟩
        have hfin : Hid ((bz = true → ∃ h : i < ys.length, SameS ys[i] x) ∧ (bz = false → ∀ y ∈ ys, ¬ SameS y x)) := by
          refine ⟨fun h => ⟨hin, hz0.1 (by subst hbz; simpa using h)⟩, fun h y hy hsm => ?_⟩
          obtain ⟨q, hq, rfl⟩ := List.getElem_of_mem hy
          have hzz : z ≠ 0 := by subst hbz; simpa using h
          rcases Nat.lt_trichotomy q i with h1 | rfl | h1
          · have := HL.out q hq h1
            rw [ltT_same hsm.1 hsm.2 rfl rfl, ltT_irrefl] at this; cases this
          · exact hzz (hz0.2 hsm)
          · have h2 := List.pairwise_iff_getElem.1 HR.out i q hin hq h1
            rw [ltT_same rfl rfl hsm.1 hsm.2, HH.out i hin (Nat.le_refl _)] at h2; cases h2
        clear hz0
        go_wp2_with fail
        refine region_seq [(0, true), (1, true), (2, true), (3, true), (4, true), (5, true), (6, true), (7, true), (8, true), (9, true), (10, true), (11, false), (12, true), (13, true), (14, true), (15, true)] (by kernel_rfl) (by kernel_rfl) (fun c a d v w h => by cases d <;> exact h) ?_
        intro W hW
        obtain ⟨hcW, hzW⟩ := bcell hW
        repeat (first
          | (refine seq_q rfl (fun K hK => ?_); unfold takeQ; go_simp; refine hK _ ?_; clear hK K)
          | (refine seq_t rfl (fun K hK => ?_); go_simp; go_at_call 79; refine (ccomp_c ys[i] x _).mono ?_; rintro e w3 ⟨rfl, hb3⟩; (try rw [show (if ltT ys[i] x = true then (-1 : Int) else if ltT x ys[i] = true then 1 else 0) = z from hz.out]); go_simp; refine hK _ _ (.of Bel) ?_; clear hK K))
        refine seq_nil ?_
        go_wp2
        go_ret2
        exact ⟨i, bz, rfl, Bst hb' (Bst hW hb3), hfin.out.1, hfin.out.2⟩
      · have hfin : Hid (∀ y ∈ ys, ¬ SameS y x) := fun y hy hsm => by
          obtain ⟨q, hq, rfl⟩ := List.getElem_of_mem hy
          have := HL.out q hq (by omega)
          rw [ltT_same hsm.1 hsm.2 rfl rfl, ltT_irrefl] at this; cases this
        have hin1 : ¬ ((i : Int) < ys.length) := by omega
        go_wp2_with fail
        refine region_seq [(0, true), (1, true), (2, true), (3, true), (4, true), (5, true), (6, true), (7, true), (8, true), (9, true), (10, true), (11, false), (12, true), (13, true), (14, true), (15, true)] (by kernel_rfl) (by kernel_rfl) (fun c a d v w h => by cases d <;> exact h) ?_
        intro W hW
        repeat (first
          | (refine seq_q rfl (fun K hK => ?_); unfold takeQ; go_simp; refine hK _ ?_; clear hK K)
          | (refine seq_t rfl (fun K hK => ?_); go_simp; refine hK _ _ (.of Bel) ?_; clear hK K))
        refine seq_nil ?_
        go_wp2
        go_ret2
        exact ⟨i, false, rfl, Bst hb' hW, fun h => (by cases h), fun _ => hfin.out⟩
theorem tot_at {ys : List T3} (hA : ApS ys) {i : Nat} (h : i < ys.length) {f t : ByteArray} (e1 : ys[i].f = f) (e2 : ys[i].t = t) : tot ys f t = ys[i].n := by
  rw [← e1, ← e2]; exact tot_mem hA (List.getElem_mem h)
theorem tot_not {ys : List T3} {f t : ByteArray} (h : ∀ y ∈ ys, ¬ (y.f = f ∧ y.t = t)) : tot ys f t = 0 := tot_none fun hk => by
  obtain ⟨y, hy, e⟩ := List.mem_map.1 hk
  injection e with e1 e2
  exact h y hy ⟨e1, e2⟩
/-- What 'Find' hands back. -/
noncomputable def findV (l : List T3) (f t : ByteArray) : Value := .tuple #[.int .i64 (if tchk l = 0 then tot l f t else 0), .int .i64 (tchk l)]
set_option maxHeartbeats 1000000 in
set_option maxRecDepth 100000 in
theorem find_c (A : Option Addr) (c : Nat) (xs : List T3) (f t : ByteArray) (w : World) (hU : U w) (hs : SlA eT3 w A xs) (hm : Small xs) :
    Calls Tryd.prog 34 #[.slice A xs.length c, .string f, .string t] w (Ret w (findV xs f t)) := by
  have hl := hm.1
  by_cases h0 : tchk xs = 0
  · have hz := tchk_zero h0
    have hr := of_rise hz.2.1
    have hA := rise_aps hr
    have HE := Lib.hid h0
    have HT : Hid (findV xs f t = .tuple #[.int .i64 (tot xs f t), .int .i64 0]) := by
      show findV xs f t = _
      unfold findV; rw [h0]; rfl
    clear h0 hz
    have HR := Lib.hid hr; have HA := Lib.hid hA
    clear hr hA
    go_enter Tryd.func34, Tryd.ntmps34
    go_wp2_with fail
    refine (tchk_c A c xs _ hU hs hm).mono ?_
    rintro e w1 ⟨rfl, hb1⟩
    rw [HE.out]
    go_wp2_with fail
    refine (bs_c A c xs ⟨f, t, 0⟩ _ (hs.below Bel) (by omega) HR.out).mono ?_
    rintro e w2 ⟨i, ok, rfl, hb2, hy, hn⟩
    cases ok with
    | false =>
      have HZ := Lib.hid (tot_not (ys := xs) (f := f) (t := t) (hn rfl))
      clear hy hn
      go_wp2
      go_ret2
      exact ⟨by rw [HT.out, HZ.out]; rfl, Bel⟩
    | true =>
      obtain ⟨hi, hsm⟩ := hy rfl
      have HZ := Lib.hid (tot_at HA.out hi hsm.1 hsm.2)
      have hb12 : Below w.heap.size w w2 := Bst hb1 hb2
      obtain ⟨b, o, rfl, hbs, p1, p2, p3⟩ := hs.n3 (fun _ => rfl) hb12 i hi
      have hi1 : (i : Int) < xs.length := by omega
      clear hy hn
      go_wp2
      go_ret2
      exact ⟨by rw [HT.out, HZ.out]; rfl, Bel⟩
  · have hn : (tchk xs != 0) = true := by simp [h0]
    have HT : Hid (findV xs f t = .tuple #[.int .i64 0, .int .i64 (tchk xs)]) := by
      show findV xs f t = _
      unfold findV; rw [if_neg h0]
    clear h0
    go_enter Tryd.func34, Tryd.ntmps34
    go_wp2_with (go_at_call 40; refine (tchk_c A c xs _ hU hs hm).mono ?_; rintro e w1 ⟨rfl, hb1⟩)
    go_ret2
    exact ⟨by rw [HT.out]; rfl, Bel⟩
end Go.Proofs.YtpccanadijefnaaDoor
