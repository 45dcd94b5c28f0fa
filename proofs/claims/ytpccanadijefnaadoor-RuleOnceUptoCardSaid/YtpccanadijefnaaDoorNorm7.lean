/- The reference's Normal, and its Find. No condition. -/
import Derived.Test.YtpccanadijefnaaDoorGath
import Derived.Test.YtpccanadijefnaaDoorNrm
namespace Go.Proofs.YtpccanadijefnaaDoor
open Go Go.RowKit
theorem run_min2 {P : Program} (a b : Int) (ats : Array TypeId) (ty : TypeId) (w : World) : (Builtin.min_ ats ty #[.int .i64 a, .int .i64 b]).run P w = .ok (.int .i64 (min a b)) w := by
  have e : (if b < a then b else a) = min a b := by omega
  simp [Builtin.min_, Builtin.min2, e]
set_option maxHeartbeats 3000000 in
set_option maxRecDepth 100000 in
theorem r7norm_c (A : Option Addr) (c : Nat) (xs : List T3) (w : World) (hs : SlA eT3 w A xs) (hm : Small xs) :
    Calls Tryd.prog 63 #[.slice A xs.length c] w (NrmPost w xs) := by
  have hl := hm.1
  by_cases h0 : allR xs = 0
  · have H0 := Lib.hid h0
    clear h0
    go_enter Tryd.func63, Tryd.ntmps63
    go_wp2_with (go_at_call 72; refine (r7all_c A c xs _ (hs.below Bel) hm).mono ?_; rintro e w0 ⟨rfl, hb0⟩; rw [H0.out])
    go_loopw [5, 16] (fun v s wr => ∃ (k : Nat) (ys : List T3), k ≤ xs.length ∧ s = .int .i64 k ∧ Own eT3 w.heap.size 33 wr v ys ∧ Hid (Nrm (xs.take k) ys) ∧ ys.length ≤ k ∧ Below w.heap.size w wr) (fun _ s _ => xs.length - (intOf s).toNat)
    case atStart => exact ⟨0, [], by omega, rfl, Own.nil _, Nrm.nil, by simp, Bel⟩
    case round =>
      obtain ⟨k, ys, hk, rfl, HO, HT, hyl, hb⟩ := hrel
      obtain ⟨wp, rfl⟩ : ∃ wp, wp = wr := ⟨_, rfl⟩
      by_cases hlt : k < xs.length
      · obtain ⟨b, o, rfl, hbs, p1, p2, p3⟩ := hs.n3 (fun _ => rfl) hb k hlt
        obtain ⟨x, hx⟩ : ∃ x, xs[k] = x := ⟨_, rfl⟩
        rw [hx] at p1 p2 p3
        have HTK : Hid (xs.take (k + 1) = xs.take k ++ [x]) := by show _ = _; rw [List.take_succ_eq_append_getElem hlt, hx]
        have hx := Lib.hid hx
        have hB := B3.new wp x 33
        have HO1 : Own eT3 w.heap.size 33 (wp.alloc (.cells #[.string x.f, .string x.t, .int .i64 x.n] 33)) _ ys := HO.alloc _
        have hb1 : Below w.heap.size w (wp.alloc (.cells #[.string x.f, .string x.t, .int .i64 x.n] 33)) := Bel
        have hwp : wp.heap.size < (wp.alloc (.cells #[.string x.f, .string x.t, .int .i64 x.n] 33)).heap.size := by simp
        rcases HO.2 with ⟨rfl, h0⟩ | ⟨g, cap, cur, rfl, hgb, hgg, hg1, hg2, _⟩
        · obtain rfl : ys = [] := List.eq_nil_of_length_eq_zero h0
          go_wp2
          generalize wp.alloc (.cells #[.string x.f, .string x.t, .int .i64 x.n] 33) = w1 at *
          go_loopw [8] (fun s wr => s = .int .i64 0 ∧ Below w1.heap.size w1 wr) (fun _ _ => 0)
          case atStart => exact ⟨rfl, Below.refl _ _⟩
          case round =>
            obtain ⟨rfl, hbq⟩ := hrel
            go_wp2_with fail
            refine region_seqP [(0, true), (1, true), (2, true), (3, true), (4, true), (5, true), (6, true), (7, true), (8, true), (9, true), (10, false), (11, true)] (by kernel_rfl) (by kernel_rfl) ?_
            intro W hW
            repeat (first
              | (refine seq_q rfl (fun K hK => ?_); unfold takeQ; go_simp; refine hK _ ?_; clear hK K)
              | (refine seq_t rfl (fun K hK => ?_); go_simp; refine hK _ _ (.of Bel) ?_; clear hK K))
            refine seq_nil ?_
            rw [noP_normal]
            have hbW : Below w1.heap.size w1 W := Bst hbq hW
            go_wp2_with fail
            refine region_seqP [(0, true), (1, true), (2, true), (3, true), (4, true), (5, true), (6, true), (7, true), (8, true), (9, true), (10, true), (11, true), (12, true), (13, true), (14, true), (15, true), (16, true), (17, true), (18, true), (19, true), (20, true), (21, true), (22, true), (23, true)] (by kernel_rfl) (by kernel_rfl) ?_
            intro W8 hW8
            repeat (refine seq_q rfl (fun K hK => ?_); unfold takeQ; go_simp; refine hK _ ?_; clear hK K)
            refine seq_nil ?_
            rw [noP_normal]
            go_wp2_with fail
            have hb3 : Below w1.heap.size w1 W8 := Bst hbW hW8
            obtain ⟨hBl, q0, q1, q2⟩ := hB.below hb3
            have hb3' : Below w.heap.size w W8 := Bst hb1 hb3
            have HTN : Hid (Nrm (xs.take (k + 1)) ([] ++ [x])) := by show Nrm _ _; rw [HTK.out]; simpa using nrm_ins HT.out 0 (by simp) x (fun i hi => by simp at hi) (fun hi => by simp at hi)
            have hlen : ([] ++ [x] : List T3).length ≤ k + 1 := by simp
            have hxl : x.f.size + x.t.size ≥ 0 := Nat.zero_le _
            refine region_tree (.q 1 (.q 2 (.q 3 (.q 5 (.q 8 (.q 9 (.q 10 (.two 0 (.two 4 (.t 6 (.t 7 (.t 11 (.q 12 .nil)))) 6 (.t 4 (.t 7 (.t 11 (.q 12 .nil))))) 6 (.t 0 (.t 4 (.t 7 (.t 11 (.q 12 .nil))))))))))))) (by kernel_rfl) (by kernel_rfl) ?_
            intro W10 hW10
            have hb10 : Below w.heap.size w W10 := Bst hb3' hW10
            obtain ⟨hBl', q0', q1', q2'⟩ := (B3.below ⟨hBl, q0, q1, q2⟩ hW10 : B3 W10 wp.heap.size x)
            clear hBl q0 q1 q2
            repeat (refine tr_q rfl (fun K hK => ?_); unfold takeQ; go_simp; refine hK _ ?_; clear hK K)
            refine tr_two rfl rfl (fun K hK => ?_) (fun K hK => ?_)
            · go_simp; refine hK _ _ (.of Bel) ?_; clear hK K
              refine tr_two rfl rfl (fun K hK => ?_) (fun K hK => ?_)
              · rw [if_pos (wanted_no rfl _)]; refine app_none (E := eT3) _ _ 26 33 rfl Tryd.underlying26 info_rule _ _ rfl rfl (Own.lit eT3 W10.heap.size 33 W10 (Nat.le_refl _)) ?_; refine hK _ _ (.of Bel) ?_; clear hK K
                refine tr_t rfl (fun K hK => ?_); go_simp; refine hK _ _ (.of Bel) ?_; clear hK K
                refine tr_t rfl (fun K hK => ?_); rw [if_pos (wanted_no rfl _)]; refine app_op (E := eT3) (w0 := W10) _ _ 26 33 (.agg #[.string .empty, .string .empty, .int .i64 0]) 40 rfl rfl Tryd.underlying26 info_rule rfl (by decide) (by decide) _ [] [x] _ _ _ rfl rfl rfl ((Own.lit eT3 W10.heap.size 33 W10 (Nat.le_refl _)).alloc _) (SlA.new eT3 _ [x] _ _ (by simp) _ rfl) Bel (by first | (simp; done) | (simp; omega)) ?_; intro v7 w7 HO7 hb7 _ _; refine hK _ _ (.of Bel) ?_; clear hK K
                refine tr_t rfl (fun K hK => ?_); rw [if_pos (wanted_no rfl _)]; refine app_none (E := eT3) _ _ 26 33 rfl Tryd.underlying26 info_rule _ _ rfl rfl HO7 ?_; refine hK _ _ (.of Bel) ?_; clear hK K
                repeat (refine tr_q rfl (fun K hK => ?_); unfold takeQ; go_simp; refine hK _ ?_; clear hK K)
                refine tr_nil ?_
                rw [noP_normal]
                go_wp2
                exact ⟨⟨k + 1, _, by omega, by go_num, HO7.lower (by have := hb10.size; omega), HTN, hlen, Bst hb10 hb7⟩, by simp [intOf]; omega⟩
              · go_simp; refine hK _ _ (.of Bel) ?_; clear hK K
                refine tr_t rfl (fun K hK => ?_); rw [if_pos (wanted_no rfl _)]; refine app_none (E := eT3) _ _ 26 33 rfl Tryd.underlying26 info_rule _ _ rfl rfl ((Own.lit eT3 W10.heap.size 33 W10 (Nat.le_refl _)).alloc _) ?_; refine hK _ _ (.of Bel) ?_; clear hK K
                refine tr_t rfl (fun K hK => ?_); rw [if_pos (wanted_no rfl _)]; refine app_op (E := eT3) (w0 := W10) _ _ 26 33 (.agg #[.string .empty, .string .empty, .int .i64 0]) 40 rfl rfl Tryd.underlying26 info_rule rfl (by decide) (by decide) _ [] [x] _ _ _ rfl rfl rfl ((Own.lit eT3 W10.heap.size 33 W10 (Nat.le_refl _)).alloc _) (SlA.new eT3 _ [x] _ _ (by simp) _ rfl) Bel (by first | (simp; done) | (simp; omega)) ?_; intro v7 w7 HO7 hb7 _ _; refine hK _ _ (.of Bel) ?_; clear hK K
                refine tr_t rfl (fun K hK => ?_); rw [if_pos (wanted_no rfl _)]; refine app_none (E := eT3) _ _ 26 33 rfl Tryd.underlying26 info_rule _ _ rfl rfl HO7 ?_; refine hK _ _ (.of Bel) ?_; clear hK K
                repeat (refine tr_q rfl (fun K hK => ?_); unfold takeQ; go_simp; refine hK _ ?_; clear hK K)
                refine tr_nil ?_
                rw [noP_normal]
                go_wp2
                exact ⟨⟨k + 1, _, by omega, by go_num, HO7.lower (by have := hb10.size; omega), HTN, hlen, Bst hb10 hb7⟩, by simp [intOf]; omega⟩
            · go_simp; refine hK _ _ (.of Bel) ?_; clear hK K
              refine tr_t rfl (fun K hK => ?_); go_simp; refine hK _ _ (.of Bel) ?_; clear hK K
              refine tr_t rfl (fun K hK => ?_); rw [if_pos (wanted_no rfl _)]; refine app_none (E := eT3) _ _ 26 33 rfl Tryd.underlying26 info_rule _ _ rfl rfl (Own.litN eT3 W10.heap.size 33 (W10.alloc (.cells #[.string x.f, .string x.t, .int .i64 x.n] 33)) _ (by simp) (by simp)) ?_; refine hK _ _ (.of Bel) ?_; clear hK K
              refine tr_t rfl (fun K hK => ?_); rw [if_pos (wanted_no rfl _)]; refine app_op (E := eT3) (w0 := W10) _ _ 26 33 (.agg #[.string .empty, .string .empty, .int .i64 0]) 40 rfl rfl Tryd.underlying26 info_rule rfl (by decide) (by decide) _ [] [x] _ _ _ rfl rfl rfl (Own.litN eT3 W10.heap.size 33 (W10.alloc (.cells #[.string x.f, .string x.t, .int .i64 x.n] 33)) _ (by simp) (by simp)) (SlA.below (SlA.new eT3 W10 [x] 33 _ rfl _ rfl) (Bal (Below.refl _ _) _)) Bel (by first | (simp; done) | (simp; omega)) ?_; intro v7 w7 HO7 hb7 _ _; refine hK _ _ (.of Bel) ?_; clear hK K
              refine tr_t rfl (fun K hK => ?_); rw [if_pos (wanted_no rfl _)]; refine app_none (E := eT3) _ _ 26 33 rfl Tryd.underlying26 info_rule _ _ rfl rfl HO7 ?_; refine hK _ _ (.of Bel) ?_; clear hK K
              repeat (refine tr_q rfl (fun K hK => ?_); unfold takeQ; go_simp; refine hK _ ?_; clear hK K)
              refine tr_nil ?_
              rw [noP_normal]
              go_wp2
              exact ⟨⟨k + 1, _, by omega, by go_num, HO7.lower (by have := hb10.size; omega), HTN, hlen, Bst hb10 hb7⟩, by simp [intOf]; omega⟩
        · have hmx : cap ≤ 9223372036854775807 := by simpa [maxLen] using hg2
          clear hgg hg2
          go_wp2
          generalize wp.alloc (.cells #[.string x.f, .string x.t, .int .i64 x.n] 33) = w1 at *
          go_loopw [8] (fun s wr => ∃ j : Nat, j ≤ ys.length ∧ s = .int .i64 j ∧ Hid (∀ i (hi : i < ys.length), i < j → ltT ys[i] x = true) ∧ Below w1.heap.size w1 wr) (fun s _ => ys.length - (intOf s).toNat)
          case atStart => exact ⟨0, by omega, rfl, fun i _ h => by omega, Below.refl _ _⟩
          case round =>
            obtain ⟨j, hj, rfl, HJ, hbq⟩ := hrel
            have HO2 := HO1.below hbq
            obtain ⟨hBl, q0, q1, q2⟩ := hB.below hbq
            have hb2 : Below w.heap.size w wr := Bst hb1 hbq
            by_cases hjl : j < ys.length
            · obtain ⟨hgs, d1, d2, d3⟩ := HO2.cells3 j hjl
              have hj1 : (j : Int) < ys.length := by omega
              cases hq : ltT ys[j] x
              all_goals
                have HQ := Lib.hid hq
                clear hq
                go_wp2_with fail
                refine region_seqP [(0, true), (1, true), (2, true), (3, true), (4, true), (5, true), (6, true), (7, true), (8, true), (9, true), (10, false), (11, true)] (by kernel_rfl) (by kernel_rfl) ?_
                intro W hW
                obtain ⟨hcW, hzW⟩ := bcell hW
                repeat (first
                  | (refine seq_q rfl (fun K hK => ?_); unfold takeQ; go_simp; refine hK _ ?_; clear hK K)
                  | (refine seq_t rfl (fun K hK => ?_); go_simp; go_at_call 31; refine (r7less_c ys[j] x _).mono ?_; rintro e w3 ⟨rfl, hb3⟩; rw [HQ.out]; go_simp; refine hK _ _ (.of Bel) ?_; clear hK K))
                refine seq_nil ?_
                rw [noP_normal]
                have hb13 : Below w1.heap.size w1 w3 := Bst hbq (Bst hW hb3)
              · go_wp2_with fail
                have b1d : ∃ b1, decide (ys[j].f = x.f) = b1 := ⟨_, rfl⟩
                obtain ⟨b1, hb1'⟩ := b1d
                obtain ⟨b2, hb2'⟩ : ∃ b2, decide (ys[j].t = x.t) = b2 := ⟨_, rfl⟩
                have e1 := str_eq ys[j].f x.f
                have e2 := str_eq ys[j].t x.t
                rw [hb1'] at e1
                rw [hb2'] at e2
                have hb3w0 : Below w.heap.size w w3 := Bst hb1 hb13
                have HO3 := HO1.below hb13
                have hB3 := hB.below hb13
                clear d1 d2 d3 q0 q1 q2 hB3
                have HSM : Hid ((b1 && b2) = true ↔ SameS ys[j] x) := by
                  show _ ↔ _
                  rw [← hb1', ← hb2']; simp [SameS]
                clear hb1' hb2'
                cases b1 <;> cases b2
                all_goals
                  refine region_seqP [(0, true), (1, true), (2, true), (3, true), (4, true), (5, true), (6, true), (7, true), (8, true), (9, true), (10, true), (11, true), (12, true), (13, true), (14, true), (15, true), (16, true), (17, true), (18, true), (19, true), (20, true), (21, true), (22, true), (23, true)] (by kernel_rfl) (by kernel_rfl) ?_
                  intro W8 hW8
                  replace HO3 := HO3.below hW8
                  obtain ⟨_, d1, d2, d3⟩ := HO3.cells3 j hjl
                  obtain ⟨_, q0, q1, q2⟩ := (hB.below hb13).below hW8
                  repeat (refine seq_q rfl (fun K hK => ?_); unfold takeQ; go_simp; refine hK _ ?_; clear hK K)
                  refine seq_nil ?_
                  rw [noP_normal]
                  have hb3w : Below w.heap.size w W8 := Bst hb3w0 hW8
                  have hB3 : B3 W8 wp.heap.size x := (hB.below hb13).below hW8
                  go_wp2_with fail
                case true.true =>
                  have hset := Lib.hid (nrm_set HT.out j hjl x (HSM.out.1 rfl))
                  have hgl := HO3.ge g rfl
                  have hfz := World.ownsRow.frozenAt HO3 (j * 3 + 2)
                  obtain ⟨_, q0, q1, q2⟩ := hB3
                  refine region_qtail 12 (by kernel_rfl) (by kernel_rfl) (fun W => ∃ n, W = World.drewN _ n) ⟨1, rfl⟩ ?_
                  simp only [List.take_succ_cons, List.take_zero, List.drop_succ_cons, List.drop_zero]
                  have hmn := run_min2 (P := Tryd.prog) ys[j].n x.n
                  repeat (quiet_step (fail))
                  refine wpQuiet_nil ?_
                  intro _ hw'
                  obtain ⟨nq, rfl⟩ := hw'
                  go_wp2
                  have hO9 := ((HO3.below (w' := W8.drewN nq) Bel).count j hjl (min ys[j].n x.n)).1
                  exact ⟨⟨k + 1, _, by omega, by go_num, hO9, show Nrm _ _ by rw [HTK.out]; exact hset.out, by simp; omega, Bsc (Bdn hb3w nq) hgl _⟩, by simp [intOf]; omega⟩
                all_goals
                  have HH : Hid (∀ hi : j < ys.length, ltT ys[j] x = false ∧ ¬ SameS ys[j] x) := fun hi => ⟨HQ.out, fun h => by have := HSM.out.2 h; simp at this⟩
                  have HTN : Hid (Nrm (xs.take (k + 1)) (ys.take j ++ [x] ++ ys.drop j)) := by show Nrm _ _; rw [HTK.out]; exact nrm_ins HT.out j hj x HJ.out HH.out
                  have hlen : (ys.take j ++ [x] ++ ys.drop j).length ≤ k + 1 := by simp; omega
                  have htl : Hid (j = (ys.take j).length) := show j = (ys.take j).length by simp; omega
                  have hdl : Hid (ys.length - j = (ys.drop j).length) := (List.length_drop).symm
                  have hjc : (j : Int) ≤ cap := by omega
                  have hjl2 : (j : Int) ≤ ys.length := by omega
                  have hj0 : (0 : Int) ≤ j := by omega
                  have hSo : SlA eT3 W8 (some ⟨g, 0, none⟩) ys := by
                    obtain ⟨A', c', hv', _, _, h⟩ := HO3.slv
                    injection hv' with hv' _ _
                    rw [hv']; exact h
                  have htake := hSo.take j
                  have hdrop : SlA eT3 W8 (some (if cap = j then ⟨g, 0, none⟩ else (⟨g, j * 3, none⟩ : Addr))) (ys.drop j) := by
                    split
                    · rw [List.drop_of_length_le (by omega)]; exact SlA.nil
                    · have h := hSo.part j 3 rfl; rwa [show (⟨g, 0, none⟩ : Addr).add (j * 3) = ⟨g, j * 3, none⟩ by simp [Addr.add]; intro h; exact h.symm] at h
                  clear hSo HO3
                  by_cases hcj : cap = j
                  all_goals
                    first | rw [if_pos hcj] at hdrop | rw [if_neg hcj] at hdrop
                    refine region_tree (.q 1 (.q 2 (.q 3 (.q 5 (.q 8 (.q 9 (.q 10 (.two 0 (.two 4 (.t 6 (.t 7 (.t 11 (.q 12 .nil)))) 6 (.t 4 (.t 7 (.t 11 (.q 12 .nil))))) 6 (.t 0 (.t 4 (.t 7 (.t 11 (.q 12 .nil))))))))))))) (by kernel_rfl) (by kernel_rfl) ?_
                    intro W10 hW10
                    have hb10 : Below w.heap.size w W10 := Bst hb3w hW10
                    obtain ⟨hBl', q0', q1', q2'⟩ := hB3.below hW10
                    replace htake := htake.below hW10
                    replace hdrop := hdrop.below hW10
                    repeat (refine tr_q rfl (fun K hK => ?_); unfold takeQ; go_simp; refine hK _ ?_; clear hK K)
                    refine tr_two rfl rfl (fun K hK => ?_) (fun K hK => ?_)
                    · go_simp; refine hK _ _ (.of Bel) ?_; clear hK K
                      refine tr_two rfl rfl (fun K hK => ?_) (fun K hK => ?_)
                      · rw [if_pos (wanted_no rfl _)]; refine app_op (E := eT3) (w0 := W10) _ _ 26 33 (.agg #[.string .empty, .string .empty, .int .i64 0]) 40 rfl rfl Tryd.underlying26 info_rule rfl (by decide) (by decide) _ [] (ys.take j) _ _ _ rfl rfl htl.out (Own.lit eT3 W10.heap.size 33 W10 (Nat.le_refl _)) (htake.below Bel) Bel (by first | (simp; done) | (simp; omega)) ?_; intro v5 w5 HO5 hb5 _ _; refine hK _ _ (.of Bel) ?_; clear hK K
                        rw [List.nil_append] at HO5
                        refine tr_t rfl (fun K hK => ?_); go_simp; refine hK _ _ (.of Bel) ?_; clear hK K
                        refine tr_t rfl (fun K hK => ?_); rw [if_pos (wanted_no rfl _)]; refine app_op (E := eT3) (w0 := W10) _ _ 26 33 (.agg #[.string .empty, .string .empty, .int .i64 0]) 40 rfl rfl Tryd.underlying26 info_rule rfl (by decide) (by decide) _ (ys.take j) [x] _ _ _ rfl rfl rfl (HO5.alloc _) (SlA.new eT3 _ [x] _ _ (by simp) _ rfl) Bel (by first | (simp; done) | (simp; omega)) ?_; intro v7 w7 HO7 hb7 _ _; refine hK _ _ (.of Bel) ?_; clear hK K
                        refine tr_t rfl (fun K hK => ?_); rw [if_pos (wanted_no rfl _)]; refine app_op (E := eT3) (w0 := W10) _ _ 26 33 (.agg #[.string .empty, .string .empty, .int .i64 0]) 40 rfl rfl Tryd.underlying26 info_rule rfl (by decide) (by decide) _ (ys.take j ++ [x]) (ys.drop j) _ _ _ rfl rfl hdl.out HO7 (hdrop.below Bel) Bel (by first | (simp; done) | (simp; omega)) ?_; intro v8 w8 HO8 hb8 _ _; refine hK _ _ (.of Bel) ?_; clear hK K
                        repeat (refine tr_q rfl (fun K hK => ?_); unfold takeQ; go_simp; refine hK _ ?_; clear hK K)
                        refine tr_nil ?_
                        rw [noP_normal]
                        go_wp2
                        exact ⟨⟨k + 1, _, by omega, by go_num, HO8.lower (by have := hb10.size; omega), HTN, hlen, Bst hb10 hb8⟩, by simp [intOf]; omega⟩
                      · go_simp; refine hK _ _ (.of Bel) ?_; clear hK K
                        refine tr_t rfl (fun K hK => ?_); rw [if_pos (wanted_no rfl _)]; refine app_op (E := eT3) (w0 := W10) _ _ 26 33 (.agg #[.string .empty, .string .empty, .int .i64 0]) 40 rfl rfl Tryd.underlying26 info_rule rfl (by decide) (by decide) _ [] (ys.take j) _ _ _ rfl rfl htl.out ((Own.lit eT3 W10.heap.size 33 W10 (Nat.le_refl _)).alloc _) (htake.below Bel) Bel (by first | (simp; done) | (simp; omega)) ?_; intro v5 w5 HO5 hb5 hg5 _; have hx5 : SlA eT3 w5 (some ⟨W10.heap.size + 1, 0, none⟩) [x] := SlA.kept (row := some W10.heap.size) (SlA.new eT3 (W10.alloc (.cells #[] 33)) [x] 33 _ (by simp) _ rfl) rfl hg5 (by simp); refine hK _ _ (.of Bel) ?_; clear hK K
                        rw [List.nil_append] at HO5
                        refine tr_t rfl (fun K hK => ?_); rw [if_pos (wanted_no rfl _)]; refine app_op (E := eT3) (w0 := W10) _ _ 26 33 (.agg #[.string .empty, .string .empty, .int .i64 0]) 40 rfl rfl Tryd.underlying26 info_rule rfl (by decide) (by decide) _ (ys.take j) [x] _ _ _ rfl rfl rfl HO5 hx5 Bel (by first | (simp; done) | (simp; omega)) ?_; intro v7 w7 HO7 hb7 _ _; refine hK _ _ (.of Bel) ?_; clear hK K
                        refine tr_t rfl (fun K hK => ?_); rw [if_pos (wanted_no rfl _)]; refine app_op (E := eT3) (w0 := W10) _ _ 26 33 (.agg #[.string .empty, .string .empty, .int .i64 0]) 40 rfl rfl Tryd.underlying26 info_rule rfl (by decide) (by decide) _ (ys.take j ++ [x]) (ys.drop j) _ _ _ rfl rfl hdl.out HO7 (hdrop.below Bel) Bel (by first | (simp; done) | (simp; omega)) ?_; intro v8 w8 HO8 hb8 _ _; refine hK _ _ (.of Bel) ?_; clear hK K
                        repeat (refine tr_q rfl (fun K hK => ?_); unfold takeQ; go_simp; refine hK _ ?_; clear hK K)
                        refine tr_nil ?_
                        rw [noP_normal]
                        go_wp2
                        exact ⟨⟨k + 1, _, by omega, by go_num, HO8.lower (by have := hb10.size; omega), HTN, hlen, Bst hb10 hb8⟩, by simp [intOf]; omega⟩
                    · go_simp; refine hK _ _ (.of Bel) ?_; clear hK K
                      refine tr_t rfl (fun K hK => ?_); go_simp; refine hK _ _ (.of Bel) ?_; clear hK K
                      refine tr_t rfl (fun K hK => ?_); rw [if_pos (wanted_no rfl _)]; refine app_op (E := eT3) (w0 := W10) _ _ 26 33 (.agg #[.string .empty, .string .empty, .int .i64 0]) 40 rfl rfl Tryd.underlying26 info_rule rfl (by decide) (by decide) _ [] (ys.take j) _ _ _ rfl rfl htl.out (Own.litN eT3 W10.heap.size 33 (W10.alloc (.cells #[.string x.f, .string x.t, .int .i64 x.n] 33)) _ (by simp) (by simp)) (htake.below Bel) Bel (by first | (simp; done) | (simp; omega)) ?_; intro v5 w5 HO5 hb5 hgw5 _; have hx5 : SlA eT3 w5 (some ⟨W10.heap.size, 0, none⟩) [x] := SlA.kept (row := some (W10.heap.size + 1)) ((SlA.new eT3 W10 [x] 33 _ rfl _ rfl).below (Bal (Below.refl _ _) _)) rfl hgw5 (by simp); refine hK _ _ (.of Bel) ?_; clear hK K
                      rw [List.nil_append] at HO5
                      refine tr_t rfl (fun K hK => ?_); rw [if_pos (wanted_no rfl _)]; refine app_op (E := eT3) (w0 := W10) _ _ 26 33 (.agg #[.string .empty, .string .empty, .int .i64 0]) 40 rfl rfl Tryd.underlying26 info_rule rfl (by decide) (by decide) _ (ys.take j) [x] _ _ _ rfl rfl rfl HO5 hx5 Bel (by first | (simp; done) | (simp; omega)) ?_; intro v7 w7 HO7 hb7 hgw7 _; refine hK _ _ (.of Bel) ?_; clear hK K
                      refine tr_t rfl (fun K hK => ?_); rw [if_pos (wanted_no rfl _)]; refine app_op (E := eT3) (w0 := W10) _ _ 26 33 (.agg #[.string .empty, .string .empty, .int .i64 0]) 40 rfl rfl Tryd.underlying26 info_rule rfl (by decide) (by decide) _ (ys.take j ++ [x]) (ys.drop j) _ _ _ rfl rfl hdl.out HO7 (hdrop.below Bel) Bel (by first | (simp; done) | (simp; omega)) ?_; intro v8 w8 HO8 hb8 hgw8 _; refine hK _ _ (.of Bel) ?_; clear hK K
                      repeat (refine tr_q rfl (fun K hK => ?_); unfold takeQ; go_simp; refine hK _ ?_; clear hK K)
                      refine tr_nil ?_
                      rw [noP_normal]
                      go_wp2
                      exact ⟨⟨k + 1, _, by omega, by go_num, HO8.lower (by have := hb10.size; omega), HTN, hlen, Bst hb10 hb8⟩, by simp [intOf]; omega⟩
              · go_wp2
                refine ⟨⟨j + 1, by omega, by go_num, fun i hi h => ?_, hb13⟩, by simp [intOf]; omega⟩
                rcases Nat.lt_or_ge i j with h1 | h1
                · exact HJ.out i hi h1
                · obtain rfl : i = j := by omega
                  exact HQ.out
            · have hj1 : ¬ (j : Int) < ys.length := by omega
              go_wp2_with fail
              refine region_seqP [(0, true), (1, true), (2, true), (3, true), (4, true), (5, true), (6, true), (7, true), (8, true), (9, true), (10, false), (11, true)] (by kernel_rfl) (by kernel_rfl) ?_
              intro W hW
              repeat (first
                | (refine seq_q rfl (fun K hK => ?_); unfold takeQ; go_simp; refine hK _ ?_; clear hK K)
                | (refine seq_t rfl (fun K hK => ?_); go_simp; refine hK _ _ (.of Bel) ?_; clear hK K))
              refine seq_nil ?_
              rw [noP_normal]
              have hbW : Below w1.heap.size w1 W := Bst hbq hW
              go_wp2_with fail
              refine region_seqP [(0, true), (1, true), (2, true), (3, true), (4, true), (5, true), (6, true), (7, true), (8, true), (9, true), (10, true), (11, true), (12, true), (13, true), (14, true), (15, true), (16, true), (17, true), (18, true), (19, true), (20, true), (21, true), (22, true), (23, true)] (by kernel_rfl) (by kernel_rfl) ?_
              intro W8 hW8
              have HO3 := (HO1.below hbW).below hW8
              have hB3 : B3 W8 wp.heap.size x := (hB.below hbW).below hW8
              repeat (refine seq_q rfl (fun K hK => ?_); unfold takeQ; go_simp; refine hK _ ?_; clear hK K)
              refine seq_nil ?_
              rw [noP_normal]
              have hb3w : Below w.heap.size w W8 := Bst hb1 (Bst hbW hW8)
              go_wp2_with fail
              have HH : Hid (∀ hi : j < ys.length, ltT ys[j] x = false ∧ ¬ SameS ys[j] x) := fun hi => absurd hi (by omega)
              have HTN : Hid (Nrm (xs.take (k + 1)) (ys.take j ++ [x] ++ ys.drop j)) := by show Nrm _ _; rw [HTK.out]; exact nrm_ins HT.out j hj x HJ.out HH.out
              have hlen : (ys.take j ++ [x] ++ ys.drop j).length ≤ k + 1 := by simp; omega
              have htl : Hid (j = (ys.take j).length) := show j = (ys.take j).length by simp; omega
              have hdl : Hid (ys.length - j = (ys.drop j).length) := (List.length_drop).symm
              have hjc : (j : Int) ≤ cap := by omega
              have hjl2 : (j : Int) ≤ ys.length := by omega
              have hj0 : (0 : Int) ≤ j := by omega
              have hSo : SlA eT3 W8 (some ⟨g, 0, none⟩) ys := by
                obtain ⟨A', c', hv', _, _, h⟩ := HO3.slv
                injection hv' with hv' _ _
                rw [hv']; exact h
              have htake := hSo.take j
              have hdrop : SlA eT3 W8 (some (if cap = j then ⟨g, 0, none⟩ else (⟨g, j * 3, none⟩ : Addr))) (ys.drop j) := by
                split
                · rw [List.drop_of_length_le (by omega)]; exact SlA.nil
                · have h := hSo.part j 3 rfl; rwa [show (⟨g, 0, none⟩ : Addr).add (j * 3) = ⟨g, j * 3, none⟩ by simp [Addr.add]; intro h; exact h.symm] at h
              clear hSo HO3
              by_cases hcj : cap = j
              all_goals
                first | rw [if_pos hcj] at hdrop | rw [if_neg hcj] at hdrop
                refine region_tree (.q 1 (.q 2 (.q 3 (.q 5 (.q 8 (.q 9 (.q 10 (.two 0 (.two 4 (.t 6 (.t 7 (.t 11 (.q 12 .nil)))) 6 (.t 4 (.t 7 (.t 11 (.q 12 .nil))))) 6 (.t 0 (.t 4 (.t 7 (.t 11 (.q 12 .nil))))))))))))) (by kernel_rfl) (by kernel_rfl) ?_
                intro W10 hW10
                have hb10 : Below w.heap.size w W10 := Bst hb3w hW10
                obtain ⟨hBl', q0', q1', q2'⟩ := hB3.below hW10
                replace htake := htake.below hW10
                replace hdrop := hdrop.below hW10
                repeat (refine tr_q rfl (fun K hK => ?_); unfold takeQ; go_simp; refine hK _ ?_; clear hK K)
                refine tr_two rfl rfl (fun K hK => ?_) (fun K hK => ?_)
                · go_simp; refine hK _ _ (.of Bel) ?_; clear hK K
                  refine tr_two rfl rfl (fun K hK => ?_) (fun K hK => ?_)
                  · rw [if_pos (wanted_no rfl _)]; refine app_op (E := eT3) (w0 := W10) _ _ 26 33 (.agg #[.string .empty, .string .empty, .int .i64 0]) 40 rfl rfl Tryd.underlying26 info_rule rfl (by decide) (by decide) _ [] (ys.take j) _ _ _ rfl rfl htl.out (Own.lit eT3 W10.heap.size 33 W10 (Nat.le_refl _)) (htake.below Bel) Bel (by first | (simp; done) | (simp; omega)) ?_; intro v5 w5 HO5 hb5 _ _; refine hK _ _ (.of Bel) ?_; clear hK K
                    rw [List.nil_append] at HO5
                    refine tr_t rfl (fun K hK => ?_); go_simp; refine hK _ _ (.of Bel) ?_; clear hK K
                    refine tr_t rfl (fun K hK => ?_); rw [if_pos (wanted_no rfl _)]; refine app_op (E := eT3) (w0 := W10) _ _ 26 33 (.agg #[.string .empty, .string .empty, .int .i64 0]) 40 rfl rfl Tryd.underlying26 info_rule rfl (by decide) (by decide) _ (ys.take j) [x] _ _ _ rfl rfl rfl (HO5.alloc _) (SlA.new eT3 _ [x] _ _ (by simp) _ rfl) Bel (by first | (simp; done) | (simp; omega)) ?_; intro v7 w7 HO7 hb7 _ _; refine hK _ _ (.of Bel) ?_; clear hK K
                    refine tr_t rfl (fun K hK => ?_); rw [if_pos (wanted_no rfl _)]; refine app_op (E := eT3) (w0 := W10) _ _ 26 33 (.agg #[.string .empty, .string .empty, .int .i64 0]) 40 rfl rfl Tryd.underlying26 info_rule rfl (by decide) (by decide) _ (ys.take j ++ [x]) (ys.drop j) _ _ _ rfl rfl hdl.out HO7 (hdrop.below Bel) Bel (by first | (simp; done) | (simp; omega)) ?_; intro v8 w8 HO8 hb8 _ _; refine hK _ _ (.of Bel) ?_; clear hK K
                    repeat (refine tr_q rfl (fun K hK => ?_); unfold takeQ; go_simp; refine hK _ ?_; clear hK K)
                    refine tr_nil ?_
                    rw [noP_normal]
                    go_wp2
                    exact ⟨⟨k + 1, _, by omega, by go_num, HO8.lower (by have := hb10.size; omega), HTN, hlen, Bst hb10 hb8⟩, by simp [intOf]; omega⟩
                  · go_simp; refine hK _ _ (.of Bel) ?_; clear hK K
                    refine tr_t rfl (fun K hK => ?_); rw [if_pos (wanted_no rfl _)]; refine app_op (E := eT3) (w0 := W10) _ _ 26 33 (.agg #[.string .empty, .string .empty, .int .i64 0]) 40 rfl rfl Tryd.underlying26 info_rule rfl (by decide) (by decide) _ [] (ys.take j) _ _ _ rfl rfl htl.out ((Own.lit eT3 W10.heap.size 33 W10 (Nat.le_refl _)).alloc _) (htake.below Bel) Bel (by first | (simp; done) | (simp; omega)) ?_; intro v5 w5 HO5 hb5 hg5 _; have hx5 : SlA eT3 w5 (some ⟨W10.heap.size + 1, 0, none⟩) [x] := SlA.kept (row := some W10.heap.size) (SlA.new eT3 (W10.alloc (.cells #[] 33)) [x] 33 _ (by simp) _ rfl) rfl hg5 (by simp); refine hK _ _ (.of Bel) ?_; clear hK K
                    rw [List.nil_append] at HO5
                    refine tr_t rfl (fun K hK => ?_); rw [if_pos (wanted_no rfl _)]; refine app_op (E := eT3) (w0 := W10) _ _ 26 33 (.agg #[.string .empty, .string .empty, .int .i64 0]) 40 rfl rfl Tryd.underlying26 info_rule rfl (by decide) (by decide) _ (ys.take j) [x] _ _ _ rfl rfl rfl HO5 hx5 Bel (by first | (simp; done) | (simp; omega)) ?_; intro v7 w7 HO7 hb7 _ _; refine hK _ _ (.of Bel) ?_; clear hK K
                    refine tr_t rfl (fun K hK => ?_); rw [if_pos (wanted_no rfl _)]; refine app_op (E := eT3) (w0 := W10) _ _ 26 33 (.agg #[.string .empty, .string .empty, .int .i64 0]) 40 rfl rfl Tryd.underlying26 info_rule rfl (by decide) (by decide) _ (ys.take j ++ [x]) (ys.drop j) _ _ _ rfl rfl hdl.out HO7 (hdrop.below Bel) Bel (by first | (simp; done) | (simp; omega)) ?_; intro v8 w8 HO8 hb8 _ _; refine hK _ _ (.of Bel) ?_; clear hK K
                    repeat (refine tr_q rfl (fun K hK => ?_); unfold takeQ; go_simp; refine hK _ ?_; clear hK K)
                    refine tr_nil ?_
                    rw [noP_normal]
                    go_wp2
                    exact ⟨⟨k + 1, _, by omega, by go_num, HO8.lower (by have := hb10.size; omega), HTN, hlen, Bst hb10 hb8⟩, by simp [intOf]; omega⟩
                · go_simp; refine hK _ _ (.of Bel) ?_; clear hK K
                  refine tr_t rfl (fun K hK => ?_); go_simp; refine hK _ _ (.of Bel) ?_; clear hK K
                  refine tr_t rfl (fun K hK => ?_); rw [if_pos (wanted_no rfl _)]; refine app_op (E := eT3) (w0 := W10) _ _ 26 33 (.agg #[.string .empty, .string .empty, .int .i64 0]) 40 rfl rfl Tryd.underlying26 info_rule rfl (by decide) (by decide) _ [] (ys.take j) _ _ _ rfl rfl htl.out (Own.litN eT3 W10.heap.size 33 (W10.alloc (.cells #[.string x.f, .string x.t, .int .i64 x.n] 33)) _ (by simp) (by simp)) (htake.below Bel) Bel (by first | (simp; done) | (simp; omega)) ?_; intro v5 w5 HO5 hb5 hgw5 _; have hx5 : SlA eT3 w5 (some ⟨W10.heap.size, 0, none⟩) [x] := SlA.kept (row := some (W10.heap.size + 1)) ((SlA.new eT3 W10 [x] 33 _ rfl _ rfl).below (Bal (Below.refl _ _) _)) rfl hgw5 (by simp); refine hK _ _ (.of Bel) ?_; clear hK K
                  rw [List.nil_append] at HO5
                  refine tr_t rfl (fun K hK => ?_); rw [if_pos (wanted_no rfl _)]; refine app_op (E := eT3) (w0 := W10) _ _ 26 33 (.agg #[.string .empty, .string .empty, .int .i64 0]) 40 rfl rfl Tryd.underlying26 info_rule rfl (by decide) (by decide) _ (ys.take j) [x] _ _ _ rfl rfl rfl HO5 hx5 Bel (by first | (simp; done) | (simp; omega)) ?_; intro v7 w7 HO7 hb7 hgw7 _; refine hK _ _ (.of Bel) ?_; clear hK K
                  refine tr_t rfl (fun K hK => ?_); rw [if_pos (wanted_no rfl _)]; refine app_op (E := eT3) (w0 := W10) _ _ 26 33 (.agg #[.string .empty, .string .empty, .int .i64 0]) 40 rfl rfl Tryd.underlying26 info_rule rfl (by decide) (by decide) _ (ys.take j ++ [x]) (ys.drop j) _ _ _ rfl rfl hdl.out HO7 (hdrop.below Bel) Bel (by first | (simp; done) | (simp; omega)) ?_; intro v8 w8 HO8 hb8 hgw8 _; refine hK _ _ (.of Bel) ?_; clear hK K
                  repeat (refine tr_q rfl (fun K hK => ?_); unfold takeQ; go_simp; refine hK _ ?_; clear hK K)
                  refine tr_nil ?_
                  rw [noP_normal]
                  go_wp2
                  exact ⟨⟨k + 1, _, by omega, by go_num, HO8.lower (by have := hb10.size; omega), HTN, hlen, Bst hb10 hb8⟩, by simp [intOf]; omega⟩
      · have hkk : xs.take k = xs := List.take_of_length_le (by omega)
        rw [hkk] at HT
        clear hkk
        obtain ⟨A', c', rfl, hAc, hcm, hsA⟩ := HO.slv
        by_cases h4 : 4096 < ys.length
        · go_wp2
          go_ret2
          exact ⟨none, 0, [], 6, rfl, SlA.nil, hb, by simp, .inr ⟨H0.out, ys, HT.out, by omega, .inl ⟨h4, rfl, rfl⟩⟩⟩
        · go_wp2
          go_ret2
          exact ⟨A', c', ys, 0, rfl, hsA, hb, by omega, .inr ⟨H0.out, ys, HT.out, by omega, .inr ⟨by omega, rfl, rfl⟩⟩⟩
  · have hn : (allR xs != 0) = true := by simp [h0]
    have H0 := Lib.hid h0
    clear h0
    go_enter Tryd.func63, Tryd.ntmps63
    go_wp2_with (go_at_call 72; refine (r7all_c A c xs _ (hs.below Bel) hm).mono ?_; rintro e w0 ⟨rfl, hb0⟩)
    go_ret2
    exact ⟨none, 0, [], allR xs, rfl, SlA.nil, Bel, by simp, .inl ⟨H0.out, rfl, rfl⟩⟩
theorem cost_take {xs : List T3} (k : Nat) (h : k < xs.length) (f t : ByteArray) : costOf (xs.drop k) f t = if xs[k].f = f ∧ xs[k].t = t then some xs[k].n else costOf (xs.drop (k + 1)) f t := by
  unfold costOf
  rw [List.drop_eq_getElem_cons h, List.find?_cons]
  by_cases hc : xs[k].f = f ∧ xs[k].t = t
  · rw [if_pos hc]; simp [hc]
  · rw [if_neg hc]; simp only [hc, decide_false]
set_option maxHeartbeats 1000000 in
set_option maxRecDepth 100000 in
theorem r7find_c (A : Option Addr) (c : Nat) (xs : List T3) (f t : ByteArray) (w : World) (hs : SlA eT3 w A xs) (hm : Small xs) :
    Calls Tryd.prog 64 #[.slice A xs.length c, .string f, .string t] w (Ret w (rfindV xs f t)) := by
  have hl := hm.1
  by_cases h0 : isE xs = 0
  · have HT0 : Hid (costOf xs f t = none → rfindV xs f t = .tuple #[.int .i64 0, .int .i64 10]) := fun h => by
      unfold rfindV; rw [if_neg (by simp [h0]), h]
    have HT1 : Hid (∀ n, costOf xs f t = some n → rfindV xs f t = .tuple #[.int .i64 n, .int .i64 0]) := fun n h => by
      unfold rfindV; rw [if_neg (by simp [h0]), h]
    have HE := Lib.hid h0
    clear h0
    go_enter Tryd.func64, Tryd.ntmps64
    go_wp2_with (go_at_call 27; refine (r7is_c A c xs _ hs hm).mono ?_; rintro e w1 ⟨rfl, hb1⟩; rw [HE.out])
    go_loopw [6, 7, 18] (fun _ _ i wr => ∃ k : Nat, k ≤ xs.length ∧ i = .int .i64 k ∧ Hid (costOf (xs.drop k) f t = costOf xs f t) ∧ Below w.heap.size w wr) (fun _ _ i _ => xs.length - (intOf i).toNat)
    case atStart => exact ⟨0, by omega, rfl, rfl, Bel⟩
    case round =>
      obtain ⟨k, hk, rfl, HC, hb⟩ := hrel
      by_cases hlt : k < xs.length
      · obtain ⟨b, o, rfl, c1, c2, c3⟩ := hs.at3 (fun _ => rfl) hb k hlt
        have HD := Lib.hid (cost_take k hlt f t)
        have e1 := str_eq xs[k].f f
        have e2 := str_eq xs[k].t t
        obtain ⟨b1, hb1'⟩ : ∃ b1, decide (xs[k].f = f) = b1 := ⟨_, rfl⟩
        obtain ⟨b2, hb2'⟩ : ∃ b2, decide (xs[k].t = t) = b2 := ⟨_, rfl⟩
        rw [hb1'] at e1
        rw [hb2'] at e2
        have HSM : Hid ((b1 && b2) = true ↔ (xs[k].f = f ∧ xs[k].t = t)) := by
          show _ ↔ _
          rw [← hb1', ← hb2']; simp
        clear hb1' hb2'
        cases b1 <;> cases b2
        case true.true =>
          have HV : Hid (costOf xs f t = some xs[k].n) := by
            show costOf xs f t = _
            rw [← HC.out, HD.out, if_pos (HSM.out.1 rfl)]
          go_wp2
          go_ret2
          exact ⟨by rw [HT1.out _ HV.out]; rfl, Bel⟩
        all_goals
          have HQ : Hid (¬ (xs[k].f = f ∧ xs[k].t = t)) := fun h => by have := HSM.out.2 h; simp at this
          go_wp2
          go_roundw
          case rel =>
            refine ⟨k + 1, by omega, by go_num, ?_, Bel⟩
            show costOf _ f t = _
            rw [← HC.out, HD.out, if_neg HQ.out]
          case measure => simp [intOf]; omega
      · have HV : Hid (costOf xs f t = none) := by
          have h := HC.out
          rw [List.drop_of_length_le (by omega)] at h; exact h.symm
        go_wp2
        go_ret2
        exact ⟨by rw [HT0.out HV.out]; rfl, Bel⟩
  · have hn : (isE xs != 0) = true := by simp [h0]
    have HT : Hid (rfindV xs f t = .tuple #[.int .i64 0, .int .i64 (isE xs)]) := by
      show rfindV xs f t = _
      unfold rfindV; rw [if_pos h0]
    clear h0
    go_enter Tryd.func64, Tryd.ntmps64
    go_wp2_with (go_at_call 27; refine (r7is_c A c xs _ hs hm).mono ?_; rintro e w1 ⟨rfl, hb1⟩)
    go_ret2
    exact ⟨by rw [HT.out]; rfl, Bel⟩
end Go.Proofs.YtpccanadijefnaaDoor
