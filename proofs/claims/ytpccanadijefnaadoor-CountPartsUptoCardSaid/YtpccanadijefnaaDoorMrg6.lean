/- count.Merge walked. No condition. -/
import Derived.Test.YtpccanadijefnaaDoorMrg
import Derived.Test.YtpccanadijefnaaDoorRegP
import Derived.Test.YtpccanadijefnaaDoorFnd6
import Derived.Test.YtpccanadijefnaaDoorApp
import Derived.Test.YtpccanadijefnaaDoorGath
import Derived.Test.YtpccanadijefnaaDoorChk7
namespace Go.Proofs.YtpccanadijefnaaDoor
open Go Go.RowKit
/-- As region_seqP, where what an older world holds still is (so that a store into what is newer may be among the forced operations). -/
theorem region_seqU {P : Program} {ops : Array Oper} {id : Nat} {Q : Exit → Act → World → Prop} {a : Act} {w u : World} (hu : Below u.heap.size u w) (L : List (Nat × Bool)) (hm : P.follows .mixedOrders = true) (hB : (Region.noSelect ops && decide (L.length = ops.size) && orderB ops L (Array.replicate ops.size false)) = true)
    (h : ∀ W, Below w.heap.size w W → wpSeq P ops u (noP Q) L a W) : (Code.region id ops true).wp P Q a w := by
  refine wp_mono (Q := noP Q) ?_ noP_le
  have h := h w.drew (Below.refl _ w).drew
  simp only [Bool.and_eq_true, decide_eq_true_eq] at hB
  obtain ⟨⟨hsel, hl⟩, hB⟩ := hB
  refine wp_region_held (S := Ext u) hm ?_
  have h' := wpAnyH_of_seq hsel (fun _ _ _ _ _ h => h.elim) L _ a _ (.of (Bst hu (Below.refl _ w).drew)) hB h
  rw [hl] at h'
  exact h'
noncomputable def mrgE (xs ys : List T3) : Int := if tchk xs ≠ 0 then tchk xs else if tchk ys ≠ 0 then tchk ys else if 1073741824 < sumT (mergeL xs ys) then 6 else if 4096 < (mergeL xs ys).length then 6 else 0
def MrgPost (w : World) (xs ys : List T3) (e : Ending) (w' : World) : Prop :=
  ∃ zs r, e = .returned (.tuple #[r, .int .i64 (mrgE xs ys)]) ∧ SlV eT3 w' r zs ∧ Below w.heap.size w w' ∧ (mrgE xs ys = 0 → zs = mergeL xs ys) ∧ (mrgE xs ys ≠ 0 → zs = [])
theorem cons_of {l : List T3} (h : 0 < l.length) : l = l[0] :: l.drop 1 := by cases l <;> simp at h ⊢
theorem mergeL_a {a b : List T3} (h : 0 < a.length) (hb : b.length = 0) : mergeL a b = a[0] :: mergeL (a.drop 1) b := by
  obtain rfl := List.eq_nil_of_length_eq_zero hb
  rw [mergeL_nil, mergeL_nil]; exact cons_of h
theorem mergeL_b {a b : List T3} (h : 0 < b.length) (ha : a.length = 0) : mergeL a b = b[0] :: mergeL a (b.drop 1) := by
  obtain rfl := List.eq_nil_of_length_eq_zero ha
  simp only [mergeL]; exact cons_of h
theorem mergeL_lt {a b : List T3} (ha : 0 < a.length) (hb : 0 < b.length) (h : ltT a[0] b[0] = true) : mergeL a b = a[0] :: mergeL (a.drop 1) b := by
  cases a <;> cases b <;> simp at ha hb h ⊢
  simp [mergeL, h]
theorem mergeL_gt {a b : List T3} (ha : 0 < a.length) (hb : 0 < b.length) (h : ltT a[0] b[0] = false) (h2 : ltT b[0] a[0] = true) : mergeL a b = b[0] :: mergeL a (b.drop 1) := by
  cases a <;> cases b <;> simp at ha hb h h2 ⊢
  simp [mergeL, h, h2]
theorem mergeL_eq {a b : List T3} (ha : 0 < a.length) (hb : 0 < b.length) (h : ltT a[0] b[0] = false) (h2 : ltT b[0] a[0] = false) : mergeL a b = ⟨a[0].f, a[0].t, a[0].n + b[0].n⟩ :: mergeL (a.drop 1) (b.drop 1) := by
  cases a <;> cases b <;> simp at ha hb h h2 ⊢
  simp [mergeL, h, h2]
theorem mergeL_n {M : Int} : ∀ (a b : List T3), (∀ x ∈ a, 0 ≤ x.n ∧ x.n ≤ M) → (∀ x ∈ b, 0 ≤ x.n ∧ x.n ≤ M) → ∀ x ∈ mergeL a b, 0 ≤ x.n ∧ x.n ≤ M + M
  | [], b, _, hb, x, hx => by rw [mergeL] at hx; have := hb x hx; omega
  | y :: a, [], ha, _, x, hx => by rw [mergeL_nil] at hx; have := ha x hx; omega
  | y :: a, z :: b, ha, hb, x, hx => by
    have hy := ha y (by simp); have hz := hb z (by simp)
    have ha' : ∀ x ∈ a, 0 ≤ x.n ∧ x.n ≤ M := fun x hx => ha x (by simp [hx])
    have hb' : ∀ x ∈ b, 0 ≤ x.n ∧ x.n ≤ M := fun x hx => hb x (by simp [hx])
    unfold mergeL at hx
    split at hx
    · rcases List.mem_cons.1 hx with rfl | hx
      · omega
      · exact mergeL_n a (z :: b) ha' hb x hx
    · split at hx
      · rcases List.mem_cons.1 hx with rfl | hx
        · omega
        · exact mergeL_n (y :: a) b ha hb' x hx
      · rcases List.mem_cons.1 hx with rfl | hx
        · show 0 ≤ y.n + z.n ∧ y.n + z.n ≤ _; omega
        · exact mergeL_n a b ha' hb' x hx
termination_by a b => a.length + b.length
theorem SlA.h3 {w w' : World} {b o : Nat} {xs : List T3} (h : SlA eT3 w (some ⟨b, o, none⟩) xs) (hb : Below w.heap.size w w') (hj : 0 < xs.length) :
    b < w'.heap.size ∧ w'.cell? ⟨b, o, none⟩ = some (.string xs[0].f) ∧ w'.cell? ⟨b, o + 1, none⟩ = some (.string xs[0].t) ∧ w'.cell? ⟨b, o + 2, none⟩ = some (.int .i64 xs[0].n) := by
  obtain ⟨b', o', hq, h1, h2, h3, h4⟩ := h.n3 (fun _ => rfl) hb 0 hj
  injection hq with hq
  injection hq with q1 q2
  subst q1 q2
  exact ⟨h1, by simpa using h2, by simpa using h3, by simpa using h4⟩
theorem build_two (A B : Option Addr) (a b c d : Nat) : Tryd.prog.built 113 [(0, .slice A a c), (1, .slice B b d)] = some #[.slice A a c, .slice B b d] := by kernel_rfl
theorem index_two (u v : Value) (k : Nat) (hk : k < 2) (W : World) : (Instr.index 113 (.agg #[u, v]) (.int .i64 k)).run Tryd.prog W = .ok (#[u, v][k]'hk) W := by
  have h1 : (isAgg 22).run Tryd.prog W = .ok false W := by kernel_rfl
  have h2 : (Go.sizeOf 22).run Tryd.prog W = .ok 1 W := by kernel_rfl
  rcases (by omega : k = 0 ∨ k = 1) with rfl | rfl
  all_goals simp [Instr.index, asIntOf, run_underlying Tryd.underlying113, h2, part, h1, Result.andThen]
@[go_sem] theorem index_two0 (u v : Value) (W : World) : (Instr.index 113 (.agg #[u, v]) (.int .i64 0)).run Tryd.prog W = .ok u W := index_two u v 0 (by omega) W
@[go_sem] theorem index_two1 (u v : Value) (W : World) : (Instr.index 113 (.agg #[u, v]) (.int .i64 1)).run Tryd.prog W = .ok v W := index_two u v 1 (by omega) W
theorem slice_drop (l : List T3) (A : Option Addr) (c : Nat) : Value.slice A (l.length - 1) c = .slice A (l.drop 1).length c := by rw [List.length_drop]
def lenOf : Value → Nat
  | .slice _ n _ => n
  | _ => 0
set_option maxHeartbeats 3000000 in
set_option maxRecDepth 100000 in
theorem mrg_c (A B : Option Addr) (c d : Nat) (xs ys : List T3) (w : World) (hU : U w) (hs : SlA eT3 w A xs) (ht : SlA eT3 w B ys) (hm : Small xs) (hn : Small ys) (hc : xs.length ≤ c) (hc2 : c ≤ 9223372036854775807) (hd : ys.length ≤ d) (hd2 : d ≤ 9223372036854775807) :
    Calls Tryd.prog 41 #[.slice A xs.length c, .slice B ys.length d] w (MrgPost w xs ys) := by
  have hl := hm.1
  have hl2 := hn.1
  have hi0 := @index_two0
  have hi1 := @index_two1
  go_enter Tryd.func41, Tryd.ntmps41
  go_wp2
  go_step3
  go_wp2_with (refine wpList_buildTo rfl 113 _ rfl _ rfl #[.slice A xs.length c, .slice B ys.length d] ?_ ?_; exact build_two A B xs.length ys.length c d)
  go_loopw [7, 8, 16] (fun _ _ i wr => ∃ k : Nat, k ≤ 2 ∧ i = .int .i64 k ∧ Hid (1 ≤ k → tchk xs = 0) ∧ Hid (2 ≤ k → tchk ys = 0) ∧ Below w.heap.size w wr) (fun _ _ i _ => 2 - (intOf i).toNat)
  case atStart => exact ⟨0, by omega, rfl, fun h => by omega, fun h => by omega, Bel⟩
  case round =>
    obtain ⟨k, hk, rfl, HX, HY, hb⟩ := hrel
    rcases (by omega : k = 0 ∨ k = 1 ∨ k = 2) with rfl | rfl | rfl
    · clear HX HY
      by_cases h0 : tchk xs = 0
      · have HE := Lib.hid h0
        clear h0
        go_wp2_with (go_at_call 40; refine (tchk_c A c xs _ (hU.to Bel) (hs.below Bel) hm).mono ?_; rintro e w1 ⟨rfl, hb1⟩; rw [HE.out])
        go_roundw
        case rel => exact ⟨1, by omega, by go_num, fun _ => HE.out, fun h => by omega, Bel⟩
        case measure => simp [intOf]
      · have hne : (tchk xs != 0) = true := by simp [h0]
        have HV : Hid (mrgE xs ys = tchk xs ∧ mrgE xs ys ≠ 0) := by
          have h : mrgE xs ys = tchk xs := by unfold mrgE; rw [if_pos h0]
          exact ⟨h, by rw [h]; exact h0⟩
        clear h0
        go_wp2_with (go_at_call 40; refine (tchk_c A c xs _ (hU.to Bel) (hs.below Bel) hm).mono ?_; rintro e w1 ⟨rfl, hb1⟩)
        rw [Exit.noGoto_ret]
        go_ret2
        exact ⟨[], _, by rw [HV.out.1]; rfl, SlV.nil, Bel, fun h => absurd h HV.out.2, fun _ => rfl⟩
    · have HX1 : Hid (tchk xs = 0) := HX.out (by omega)
      clear HX HY
      by_cases h0 : tchk ys = 0
      · have HE := Lib.hid h0
        clear h0
        go_wp2_with (go_at_call 40; refine (tchk_c B d ys _ (hU.to Bel) (ht.below Bel) hn).mono ?_; rintro e w1 ⟨rfl, hb1⟩; rw [HE.out])
        go_roundw
        case rel => exact ⟨2, by omega, by go_num, fun _ => HX1.out, fun _ => HE.out, Bel⟩
        case measure => simp [intOf]
      · have hne : (tchk ys != 0) = true := by simp [h0]
        have HV : Hid (mrgE xs ys = tchk ys ∧ mrgE xs ys ≠ 0) := by
          have h : mrgE xs ys = tchk ys := by unfold mrgE; rw [if_neg (by simp [HX1.out]), if_pos h0]
          exact ⟨h, by rw [h]; exact h0⟩
        clear h0
        go_wp2_with (go_at_call 40; refine (tchk_c B d ys _ (hU.to Bel) (ht.below Bel) hn).mono ?_; rintro e w1 ⟨rfl, hb1⟩)
        rw [Exit.noGoto_ret]
        go_ret2
        exact ⟨[], _, by rw [HV.out.1]; rfl, SlV.nil, Bel, fun h => absurd h HV.out.2, fun _ => rfl⟩
    · have HX1 : Hid (tchk xs = 0) := HX.out (by omega)
      have HY1 : Hid (tchk ys = 0) := HY.out (by omega)
      clear HX HY
      rw [show ((2 : Nat) : Int) = 2 from rfl]
      have hzxs := tchk_zero HX1.out
      have hxsn : ∀ b ∈ xs, 0 ≤ b.n ∧ b.n ≤ 1073741824 := fun b hb => by have := bchk_n b ((each_all xs).1 hzxs.1 b hb); omega
      have HXN := Lib.hid hxsn
      clear hzxs hxsn
      have hzys := tchk_zero HY1.out
      have hysn : ∀ b ∈ ys, 0 ≤ b.n ∧ b.n ≤ 1073741824 := fun b hb => by have := bchk_n b ((each_all ys).1 hzys.1 b hb); omega
      have HYN := Lib.hid hysn
      clear hzys hysn
      go_wp2
      go_step3
      go_wp2
      go_loopw [0, 1, 9] (fun va vb vo wr => ∃ (A1 B1 : Option Addr) (c1 d1 : Nat) (ps qs out : List T3), va = .slice A1 ps.length c1 ∧ vb = .slice B1 qs.length d1 ∧ ps.length ≤ c1 ∧ qs.length ≤ d1 ∧ c1 ≤ 9223372036854775807 ∧ d1 ≤ 9223372036854775807 ∧ SlA eT3 w A1 ps ∧ SlA eT3 w B1 qs ∧ Own eT3 w.heap.size 25 wr vo out ∧ Hid (out ++ mergeL ps qs = mergeL xs ys) ∧ Hid ((∀ b ∈ ps, 0 ≤ b.n ∧ b.n ≤ 1073741824) ∧ ∀ b ∈ qs, 0 ≤ b.n ∧ b.n ≤ 1073741824) ∧ Hid (out.length + ps.length + qs.length ≤ xs.length + ys.length) ∧ Below w.heap.size w wr) (fun va vb _ _ => lenOf va + lenOf vb)
      case atStart =>
        have hz := tchk_zero HX1.out
        have hz2 := tchk_zero HY1.out
        exact ⟨A, B, c, d, xs, ys, [], rfl, rfl, hc, hd, hc2, hd2, hs, ht, Own.nil _, by show _ = _; simp, ⟨fun b hb => by have := bchk_n b ((each_all xs).1 hz.1 b hb); omega, fun b hb => by have := bchk_n b ((each_all ys).1 hz2.1 b hb); omega⟩, by show _ ≤ _; simp, Bel⟩
      case round =>
        obtain ⟨A1, B1, c1, d1, ps, qs, out, rfl, rfl, hc1, hd1, hc12, hd12, hsA, hsB, HO, HM, HNN, HLL, hbr⟩ := hrel
        by_cases ha : 0 < ps.length
        · have hai : (0 : Int) < ps.length := by omega
          obtain ⟨ab, ao, rfl, _, _, _, _⟩ := hsA.n3 (fun _ => rfl) hbr 0 ha
          by_cases hb : 0 < qs.length
          · have hbi : (0 : Int) < qs.length := by omega
            have hbj : ((qs.length : Int) == 0) = false := by rw [beq_eq_false_iff_ne]; omega
            have haj : ((ps.length : Int) == 0) = false := by rw [beq_eq_false_iff_ne]; omega
            obtain ⟨bb, bo, rfl, _, _, _, _⟩ := hsB.n3 (fun _ => rfl) hbr 0 hb
            cases hq : ltT ps[0] qs[0]
            · have HQ := Lib.hid hq
              clear hq
              cases hq2 : ltT qs[0] ps[0]
              all_goals
                have HQ2 := Lib.hid hq2
                clear hq2
                go_wp2_with fail
                refine region_seqP [(0, true), (1, true), (2, true), (3, true), (4, true), (5, true), (6, true), (7, true), (8, true), (9, true), (10, true), (11, true), (12, true), (13, true), (14, false), (15, true), (16, true), (17, true)] (by kernel_rfl) (by kernel_rfl) ?_
                intro W0 hW0
                obtain ⟨_, p1, p2, p3⟩ := hsA.h3 (Bst hbr hW0) ha
                obtain ⟨_, q1, q2, q3⟩ := hsB.h3 (Bst hbr hW0) hb
                repeat (first
                  | (refine seq_q rfl (fun K hK => ?_); unfold takeQ; go_simp; refine hK _ ?_; clear hK K)
                  | (refine seq_t rfl (fun K hK => ?_); go_simp; go_at_call 83; refine (bless_c ps[0] qs[0] _).mono ?_; rintro e w3 ⟨rfl, hbw3⟩; rw [HQ.out]; go_simp; refine hK _ _ (.of Bel) ?_; clear hK K))
                refine seq_nil ?_
                rw [noP_normal]
                clear p1 p2 p3 q1 q2 q3
                have hb03 : Below wr.heap.size wr w3 := Bst hW0 hbw3
                go_wp2_with fail
                refine region_seqP [(0, true), (1, true), (2, true), (3, true), (4, true), (5, true), (6, true), (7, true), (8, true), (9, true), (10, false), (11, true), (12, true)] (by kernel_rfl) (by kernel_rfl) ?_
                intro W1 hW1
                obtain ⟨_, p1, p2, p3⟩ := hsA.h3 (Bst (Bst hbr hb03) hW1) ha
                obtain ⟨_, q1, q2, q3⟩ := hsB.h3 (Bst (Bst hbr hb03) hW1) hb
                repeat (first
                  | (refine seq_q rfl (fun K hK => ?_); unfold takeQ; go_simp; refine hK _ ?_; clear hK K)
                  | (refine seq_t rfl (fun K hK => ?_); go_simp; go_at_call 83; refine (bless_c qs[0] ps[0] _).mono ?_; rintro e w4 ⟨rfl, hbw4⟩; rw [HQ2.out]; go_simp; refine hK _ _ (.of Bel) ?_; clear hK K))
                refine seq_nil ?_
                rw [noP_normal]
                clear p1 p2 p3 q1 q2 q3
                have hb04 : Below wr.heap.size wr w4 := Bst (Bst hb03 hW1) hbw4
                have hbw : Below w.heap.size w w4 := Bst hbr hb04
                obtain ⟨_, p1, p2, p3⟩ := hsA.h3 hbw ha
                obtain ⟨_, q1, q2, q3⟩ := hsB.h3 hbw hb
                go_wp2_with fail
              · obtain ⟨hn1, hn2⟩ := HNN.out
                have hpn := hn1 _ (List.getElem_mem ha)
                have hqn := hn2 _ (List.getElem_mem hb)
                clear hn1 hn2
                have hw1 : IntKind.i64.wrap (ps[0].n + qs[0].n) = ps[0].n + qs[0].n := IntWalk.i64_in _ (by omega)
                have hlq : bb < w4.heap.size := (hsB.h3 hbw hb).1
                refine region_qtail 8 (by kernel_rfl) (by kernel_rfl) (fun W => ∃ n, W = World.drewN _ n) ⟨1, rfl⟩ ?_
                simp only [List.take_succ_cons, List.take_zero, List.drop_succ_cons, List.drop_zero]
                repeat (quiet_step (fail))
                refine wpQuiet_nil ?_
                intro _ hw'
                obtain ⟨nq, rfl⟩ := hw'
                go_wp2_with fail
                have hX : B3 (((w4.alloc (.cells #[.string ps[0].f, .string ps[0].t, .int .i64 ps[0].n] 25)).drewN nq).setCell ⟨w4.heap.size, 2, none⟩ (.int .i64 (ps[0].n + qs[0].n))) w4.heap.size ⟨ps[0].f, ps[0].t, ps[0].n + qs[0].n⟩ := ⟨by simp, by simp [go_sem], by simp [go_sem], by simp [go_sem]⟩
                have hbX : Below w4.heap.size w4 (((w4.alloc (.cells #[.string ps[0].f, .string ps[0].t, .int .i64 ps[0].n] 25)).drewN nq).setCell ⟨w4.heap.size, 2, none⟩ (.int .i64 (ps[0].n + qs[0].n))) := Bsc (Bdn (Bal (Below.refl _ _) _) nq) (by simp) _
                have t1 : (1 : Int) ≤ ps.length := by omega
                have t2 : (ps.length : Int) ≤ c1 := by omega
                have t3 : (1 : Int) ≤ c1 := by omega
                have s1 : (1 : Int) ≤ qs.length := by omega
                have s2 : (qs.length : Int) ≤ d1 := by omega
                have s3 : (1 : Int) ≤ d1 := by omega
                have hdr : SlA eT3 w (some (if c1 = 1 then ⟨ab, ao, none⟩ else (⟨ab, ao + 3, none⟩ : Addr))) (ps.drop 1) := by
                  split
                  · rw [List.drop_of_length_le (by omega)]; exact SlA.nil
                  · exact hsA.drop 1
                have hds : SlA eT3 w (some (if d1 = 1 then ⟨bb, bo, none⟩ else (⟨bb, bo + 3, none⟩ : Addr))) (qs.drop 1) := by
                  split
                  · rw [List.drop_of_length_le (by omega)]; exact SlA.nil
                  · exact hsB.drop 1
                have hllo := HLL.out
                have HMM := Lib.hid (mergeL_eq ha hb HQ.out HQ2.out)
                clear p1 p2 p3 q1 q2 q3 hw1
                by_cases hcc : c1 = 1 <;> by_cases hcd : d1 = 1
                all_goals
                  first | rw [if_pos hcc] at hdr | rw [if_neg hcc] at hdr
                  first | rw [if_pos hcd] at hds | rw [if_neg hcd] at hds
                  refine region_seqU (Bst hbw hbX) [(0, true), (4, true), (5, true), (6, true), (7, true), (1, false), (2, false), (3, false), (8, true), (9, true), (10, true)] (by kernel_rfl) (by kernel_rfl) ?_
                  intro W hW
                  have hbW : Below w.heap.size w W := Bst (Bst hbw hbX) hW
                  have HOW := HO.below (w' := W) (Bst (Bst hb04 hbX) hW)
                  obtain ⟨_, p1, p2, p3⟩ := hX.below hW
                  repeat (refine seq_q rfl (fun K hK => ?_); unfold takeQ; go_simp; refine hK _ ?_; clear hK K)
                  refine seq_t rfl (fun K hK => ?_); go_simp; refine hK _ _ (.of hbW) ?_; clear hK K
                  refine seq_t rfl (fun K hK => ?_); go_simp; refine hK _ _ (.of (Bal hbW _)) ?_; clear hK K
                  refine seq_t rfl (fun K hK => ?_); rw [if_pos (wanted_no rfl _)]; refine app_op (E := eT3) (w0 := w) _ _ 22 25 (.agg #[.string .empty, .string .empty, .int .i64 0]) 40 rfl rfl Tryd.underlying22 info_blk rfl (by decide) (by decide) _ out [⟨ps[0].f, ps[0].t, ps[0].n + qs[0].n⟩] _ _ _ rfl rfl rfl (HOW.alloc _) (SlA.new eT3 _ [⟨ps[0].f, ps[0].t, ps[0].n + qs[0].n⟩] _ _ (by simp) _ rfl) (Bal hbW _) (by first | (simp; done) | (simp; omega)) ?_; intro v5 w5 HO5 hb5 _ _; refine hK _ _ (.of hb5) ?_; clear hK K
                  repeat (refine seq_q rfl (fun K hK => ?_); unfold takeQ; go_simp; refine hK _ ?_; clear hK K)
                  refine seq_nil ?_
                  rw [noP_normal]
                  go_wp2
                  go_roundw
                  case rel => exact ⟨_, _, _, _, ps.drop 1, qs.drop 1, out ++ [⟨ps[0].f, ps[0].t, ps[0].n + qs[0].n⟩], slice_drop ps _ _, slice_drop qs _ _, by first | omega | (simp; omega), by first | omega | (simp; omega), by omega, by omega, hdr, hds, HO5, by show _ = _; rw [← HM.out, HMM.out, List.append_assoc]; rfl, ⟨fun b hb => HNN.out.1 b (List.mem_of_mem_drop hb), fun b hb => HNN.out.2 b (List.mem_of_mem_drop hb)⟩, by show _ ≤ _; simp; omega, hb5⟩
                  case measure => simp [lenOf]; omega
              · have t1 : (1 : Int) ≤ qs.length := by omega
                have t2 : (qs.length : Int) ≤ d1 := by omega
                have t3 : (1 : Int) ≤ d1 := by omega
                have hdr : SlA eT3 w (some (if d1 = 1 then ⟨bb, bo, none⟩ else (⟨bb, bo + 3, none⟩ : Addr))) (qs.drop 1) := by
                  split
                  · rw [List.drop_of_length_le (by omega)]; exact SlA.nil
                  · exact hsB.drop 1
                have hllo := HLL.out
                by_cases hcc : d1 = 1
                all_goals
                  first | rw [if_pos hcc] at hdr | rw [if_neg hcc] at hdr
                  refine region_seqU hbw [(0, true), (1, true), (2, true), (3, true), (6, true), (7, true), (4, false), (5, false), (8, true), (9, true)] (by kernel_rfl) (by kernel_rfl) ?_
                  intro W hW
                  have hbW : Below w.heap.size w W := Bst hbw hW
                  have HOW := HO.below (w' := W) (Bst hb04 hW)
                  obtain ⟨_, p1, p2, p3⟩ := hsB.h3 (Below.refl _ _) hb
                  repeat (refine seq_q rfl (fun K hK => ?_); unfold takeQ; go_simp; refine hK _ ?_; clear hK K)
                  refine seq_t rfl (fun K hK => ?_); go_simp; refine hK _ _ (.of (Bal hbW _)) ?_; clear hK K
                  refine seq_t rfl (fun K hK => ?_); rw [if_pos (wanted_no rfl _)]; refine app_op (E := eT3) (w0 := w) _ _ 22 25 (.agg #[.string .empty, .string .empty, .int .i64 0]) 40 rfl rfl Tryd.underlying22 info_blk rfl (by decide) (by decide) _ out [qs[0]] _ _ _ rfl rfl rfl (HOW.alloc _) (SlA.new eT3 _ [qs[0]] _ _ (by simp) _ rfl) (Bal hbW _) (by first | (simp; done) | (simp; omega)) ?_; intro v5 w5 HO5 hb5 _ _; refine hK _ _ (.of hb5) ?_; clear hK K
                  repeat (refine seq_q rfl (fun K hK => ?_); unfold takeQ; go_simp; refine hK _ ?_; clear hK K)
                  refine seq_nil ?_
                  rw [noP_normal]
                  go_wp2
                  go_roundw
                  case rel => exact ⟨_, _, _, _, ps, (qs.drop 1), out ++ [qs[0]], rfl, slice_drop qs _ _, by first | omega | (simp; omega), by first | omega | (simp; omega), by omega, by omega, hsA, hdr, HO5, by show _ = _; rw [← HM.out, mergeL_gt ha hb HQ.out HQ2.out, List.append_assoc]; rfl, ⟨fun b hb => HNN.out.1 b (id hb), fun b hb => HNN.out.2 b (List.mem_of_mem_drop hb)⟩, by show _ ≤ _; simp; omega, hb5⟩
                  case measure => simp [lenOf]; omega
            · have HQ := Lib.hid hq
              clear hq
              go_wp2_with fail
              refine region_seqP [(0, true), (1, true), (2, true), (3, true), (4, true), (5, true), (6, true), (7, true), (8, true), (9, true), (10, true), (11, true), (12, true), (13, true), (14, false), (15, true), (16, true), (17, true)] (by kernel_rfl) (by kernel_rfl) ?_
              intro W0 hW0
              obtain ⟨_, p1, p2, p3⟩ := hsA.h3 (Bst hbr hW0) ha
              obtain ⟨_, q1, q2, q3⟩ := hsB.h3 (Bst hbr hW0) hb
              repeat (first
                | (refine seq_q rfl (fun K hK => ?_); unfold takeQ; go_simp; refine hK _ ?_; clear hK K)
                | (refine seq_t rfl (fun K hK => ?_); go_simp; go_at_call 83; refine (bless_c ps[0] qs[0] _).mono ?_; rintro e w3 ⟨rfl, hbw3⟩; rw [HQ.out]; go_simp; refine hK _ _ (.of Bel) ?_; clear hK K))
              refine seq_nil ?_
              rw [noP_normal]
              clear p1 p2 p3 q1 q2 q3
              have hb03 : Below wr.heap.size wr w3 := Bst hW0 hbw3
              have hbw : Below w.heap.size w w3 := Bst hbr hb03
              go_wp2_with fail
              have t1 : (1 : Int) ≤ ps.length := by omega
              have t2 : (ps.length : Int) ≤ c1 := by omega
              have t3 : (1 : Int) ≤ c1 := by omega
              have hdr : SlA eT3 w (some (if c1 = 1 then ⟨ab, ao, none⟩ else (⟨ab, ao + 3, none⟩ : Addr))) (ps.drop 1) := by
                split
                · rw [List.drop_of_length_le (by omega)]; exact SlA.nil
                · exact hsA.drop 1
              have hllo := HLL.out
              by_cases hcc : c1 = 1
              all_goals
                first | rw [if_pos hcc] at hdr | rw [if_neg hcc] at hdr
                refine region_seqU hbw [(0, true), (1, true), (2, true), (3, true), (6, true), (7, true), (4, false), (5, false), (8, true), (9, true)] (by kernel_rfl) (by kernel_rfl) ?_
                intro W hW
                have hbW : Below w.heap.size w W := Bst hbw hW
                have HOW := HO.below (w' := W) (Bst hb03 hW)
                obtain ⟨_, p1, p2, p3⟩ := hsA.h3 (Below.refl _ _) ha
                repeat (refine seq_q rfl (fun K hK => ?_); unfold takeQ; go_simp; refine hK _ ?_; clear hK K)
                refine seq_t rfl (fun K hK => ?_); go_simp; refine hK _ _ (.of (Bal hbW _)) ?_; clear hK K
                refine seq_t rfl (fun K hK => ?_); rw [if_pos (wanted_no rfl _)]; refine app_op (E := eT3) (w0 := w) _ _ 22 25 (.agg #[.string .empty, .string .empty, .int .i64 0]) 40 rfl rfl Tryd.underlying22 info_blk rfl (by decide) (by decide) _ out [ps[0]] _ _ _ rfl rfl rfl (HOW.alloc _) (SlA.new eT3 _ [ps[0]] _ _ (by simp) _ rfl) (Bal hbW _) (by first | (simp; done) | (simp; omega)) ?_; intro v5 w5 HO5 hb5 _ _; refine hK _ _ (.of hb5) ?_; clear hK K
                repeat (refine seq_q rfl (fun K hK => ?_); unfold takeQ; go_simp; refine hK _ ?_; clear hK K)
                refine seq_nil ?_
                rw [noP_normal]
                go_wp2
                go_roundw
                case rel => exact ⟨_, _, _, _, (ps.drop 1), qs, out ++ [ps[0]], slice_drop ps _ _, rfl, by first | omega | (simp; omega), by first | omega | (simp; omega), by omega, by omega, hdr, hsB, HO5, by show _ = _; rw [← HM.out, mergeL_lt ha hb HQ.out, List.append_assoc]; rfl, ⟨fun b hb => HNN.out.1 b (List.mem_of_mem_drop hb), fun b hb => HNN.out.2 b (id hb)⟩, by show _ ≤ _; simp; omega, hb5⟩
                case measure => simp [lenOf]; omega
          · have hb0 : qs.length = 0 := by omega
            go_wp2_with fail
            refine region_seqP [(0, true), (1, true), (2, true), (3, true), (4, true), (5, true), (6, true), (7, true), (8, true), (9, true), (10, true), (11, true), (12, true), (13, true), (14, false), (15, true), (16, true), (17, true)] (by kernel_rfl) (by kernel_rfl) ?_
            intro W0 hW0
            repeat (first
              | (refine seq_q rfl (fun K hK => ?_); unfold takeQ; go_simp; refine hK _ ?_; clear hK K)
              | (refine seq_t rfl (fun K hK => ?_); go_simp; refine hK _ _ (.of Bel) ?_; clear hK K))
            refine seq_nil ?_
            rw [noP_normal]
            have hbw : Below w.heap.size w W0 := Bst hbr hW0
            go_wp2_with fail
            have t1 : (1 : Int) ≤ ps.length := by omega
            have t2 : (ps.length : Int) ≤ c1 := by omega
            have t3 : (1 : Int) ≤ c1 := by omega
            have hdr : SlA eT3 w (some (if c1 = 1 then ⟨ab, ao, none⟩ else (⟨ab, ao + 3, none⟩ : Addr))) (ps.drop 1) := by
              split
              · rw [List.drop_of_length_le (by omega)]; exact SlA.nil
              · exact hsA.drop 1
            have hllo := HLL.out
            by_cases hcc : c1 = 1
            all_goals
              first | rw [if_pos hcc] at hdr | rw [if_neg hcc] at hdr
              refine region_seqU hbw [(0, true), (1, true), (2, true), (3, true), (6, true), (7, true), (4, false), (5, false), (8, true), (9, true)] (by kernel_rfl) (by kernel_rfl) ?_
              intro W hW
              have hbW : Below w.heap.size w W := Bst hbw hW
              have HOW := HO.below (w' := W) (Bst hW0 hW)
              obtain ⟨_, p1, p2, p3⟩ := hsA.h3 (Below.refl _ _) ha
              repeat (refine seq_q rfl (fun K hK => ?_); unfold takeQ; go_simp; refine hK _ ?_; clear hK K)
              refine seq_t rfl (fun K hK => ?_); go_simp; refine hK _ _ (.of (Bal hbW _)) ?_; clear hK K
              refine seq_t rfl (fun K hK => ?_); rw [if_pos (wanted_no rfl _)]; refine app_op (E := eT3) (w0 := w) _ _ 22 25 (.agg #[.string .empty, .string .empty, .int .i64 0]) 40 rfl rfl Tryd.underlying22 info_blk rfl (by decide) (by decide) _ out [ps[0]] _ _ _ rfl rfl rfl (HOW.alloc _) (SlA.new eT3 _ [ps[0]] _ _ (by simp) _ rfl) (Bal hbW _) (by first | (simp; done) | (simp; omega)) ?_; intro v5 w5 HO5 hb5 _ _; refine hK _ _ (.of hb5) ?_; clear hK K
              repeat (refine seq_q rfl (fun K hK => ?_); unfold takeQ; go_simp; refine hK _ ?_; clear hK K)
              refine seq_nil ?_
              rw [noP_normal]
              go_wp2
              go_roundw
              case rel => exact ⟨_, _, _, _, (ps.drop 1), qs, out ++ [ps[0]], slice_drop ps _ _, by rw [hb0], by first | omega | (simp; omega), by first | omega | (simp; omega), by omega, by omega, hdr, hsB, HO5, by show _ = _; rw [← HM.out, mergeL_a ha hb0, List.append_assoc]; rfl, ⟨fun b hb => HNN.out.1 b (List.mem_of_mem_drop hb), fun b hb => HNN.out.2 b (id hb)⟩, by show _ ≤ _; simp; omega, hb5⟩
              case measure => simp [lenOf]; omega
        · have ha0 : ps.length = 0 := by omega
          by_cases hb : 0 < qs.length
          · have hbi : (0 : Int) < qs.length := by omega
            have hbj : ((qs.length : Int) == 0) = false := by rw [beq_eq_false_iff_ne]; omega
            obtain ⟨bb, bo, rfl, _, _, _, _⟩ := hsB.n3 (fun _ => rfl) hbr 0 hb
            go_wp2_with fail
            refine region_seqP [(0, true), (1, true), (2, true), (3, true), (4, true), (5, true), (6, true), (7, true), (8, true), (9, true), (10, true), (11, true), (12, true), (13, true), (14, false), (15, true), (16, true), (17, true)] (by kernel_rfl) (by kernel_rfl) ?_
            intro W0 hW0
            repeat (first
              | (refine seq_q rfl (fun K hK => ?_); unfold takeQ; go_simp; refine hK _ ?_; clear hK K)
              | (refine seq_t rfl (fun K hK => ?_); go_simp; refine hK _ _ (.of Bel) ?_; clear hK K))
            refine seq_nil ?_
            rw [noP_normal]
            go_wp2_with fail
            refine region_seqP [(0, true), (1, true), (2, true), (3, true), (4, true), (5, true), (6, true), (7, true), (8, true), (9, true), (10, false), (11, true), (12, true)] (by kernel_rfl) (by kernel_rfl) ?_
            intro W1 hW1
            repeat (first
              | (refine seq_q rfl (fun K hK => ?_); unfold takeQ; go_simp; refine hK _ ?_; clear hK K)
              | (refine seq_t rfl (fun K hK => ?_); go_simp; refine hK _ _ (.of Bel) ?_; clear hK K))
            refine seq_nil ?_
            rw [noP_normal]
            have hb04 : Below wr.heap.size wr W1 := Bst hW0 hW1
            have hbw : Below w.heap.size w W1 := Bst hbr hb04
            go_wp2_with fail
            have t1 : (1 : Int) ≤ qs.length := by omega
            have t2 : (qs.length : Int) ≤ d1 := by omega
            have t3 : (1 : Int) ≤ d1 := by omega
            have hdr : SlA eT3 w (some (if d1 = 1 then ⟨bb, bo, none⟩ else (⟨bb, bo + 3, none⟩ : Addr))) (qs.drop 1) := by
              split
              · rw [List.drop_of_length_le (by omega)]; exact SlA.nil
              · exact hsB.drop 1
            have hllo := HLL.out
            by_cases hcc : d1 = 1
            all_goals
              first | rw [if_pos hcc] at hdr | rw [if_neg hcc] at hdr
              refine region_seqU hbw [(0, true), (1, true), (2, true), (3, true), (6, true), (7, true), (4, false), (5, false), (8, true), (9, true)] (by kernel_rfl) (by kernel_rfl) ?_
              intro W hW
              have hbW : Below w.heap.size w W := Bst hbw hW
              have HOW := HO.below (w' := W) (Bst hb04 hW)
              obtain ⟨_, p1, p2, p3⟩ := hsB.h3 (Below.refl _ _) hb
              repeat (refine seq_q rfl (fun K hK => ?_); unfold takeQ; go_simp; refine hK _ ?_; clear hK K)
              refine seq_t rfl (fun K hK => ?_); go_simp; refine hK _ _ (.of (Bal hbW _)) ?_; clear hK K
              refine seq_t rfl (fun K hK => ?_); rw [if_pos (wanted_no rfl _)]; refine app_op (E := eT3) (w0 := w) _ _ 22 25 (.agg #[.string .empty, .string .empty, .int .i64 0]) 40 rfl rfl Tryd.underlying22 info_blk rfl (by decide) (by decide) _ out [qs[0]] _ _ _ rfl rfl rfl (HOW.alloc _) (SlA.new eT3 _ [qs[0]] _ _ (by simp) _ rfl) (Bal hbW _) (by first | (simp; done) | (simp; omega)) ?_; intro v5 w5 HO5 hb5 _ _; refine hK _ _ (.of hb5) ?_; clear hK K
              repeat (refine seq_q rfl (fun K hK => ?_); unfold takeQ; go_simp; refine hK _ ?_; clear hK K)
              refine seq_nil ?_
              rw [noP_normal]
              go_wp2
              go_roundw
              case rel => exact ⟨_, _, _, _, ps, (qs.drop 1), out ++ [qs[0]], by rw [ha0], slice_drop qs _ _, by first | omega | (simp; omega), by first | omega | (simp; omega), by omega, by omega, hsA, hdr, HO5, by show _ = _; rw [← HM.out, mergeL_b hb ha0, List.append_assoc]; rfl, ⟨fun b hb => HNN.out.1 b (id hb), fun b hb => HNN.out.2 b (List.mem_of_mem_drop hb)⟩, by show _ ≤ _; simp; omega, hb5⟩
              case measure => simp [lenOf]; omega
          · have hb0 : qs.length = 0 := by omega
            have hob := HM.out
            rw [List.eq_nil_of_length_eq_zero ha0, List.eq_nil_of_length_eq_zero hb0, show mergeL [] [] = [] from mergeL_nil [], List.append_nil] at hob
            have HON := Lib.hid (hob ▸ mergeL_n xs ys HXN.out HYN.out : ∀ x ∈ out, 0 ≤ x.n ∧ x.n ≤ 1073741824 + 1073741824)
            have HOB := Lib.hid hob
            have hllo := HLL.out
            obtain ⟨A5, c5, rfl, hc51, hc52, hs5⟩ := HO.slv
            clear hob
            have hmE : mrgE xs ys = if 1073741824 < sumT out then 6 else if 4096 < out.length then 6 else 0 := by
              unfold mrgE
              rw [if_neg (by simp [HX1.out]), if_neg (by simp [HY1.out]), ← HOB.out]
            have HME := Lib.hid hmE
            clear hmE
            by_cases hz1 : sumT out ≤ 1073741824
            · have HSV : Hid (sumV out = .tuple #[.int .i64 (sumT out), .bool true]) := by show sumV out = _; unfold sumV; rw [if_pos hz1]
              by_cases hz2 : 4096 < out.length
              · have hz2i : (4096 : Int) < out.length := by omega
                have HV : Hid (mrgE xs ys = 6) := by show mrgE xs ys = 6; rw [HME.out, if_neg (by omega), if_pos hz2]
                go_wp2_with (go_at_call 81; refine (sum_c A5 c5 out _ (hs5.below Bel) (by omega) HON.out).mono ?_; rintro e w5 ⟨rfl, hb5⟩; rw [HSV.out])
                first | (rw [Exit.noGoto_ret]; go_ret2) | go_ret2
                exact ⟨[], _, by rw [HV.out]; rfl, SlV.nil, Bel, fun h => absurd (HV.out.symm.trans h) (by decide), fun _ => rfl⟩
              · have hz2i : ¬ (4096 : Int) < out.length := by omega
                have HV : Hid (mrgE xs ys = 0) := by show mrgE xs ys = 0; rw [HME.out, if_neg (by omega), if_neg hz2]
                go_wp2_with (go_at_call 81; refine (sum_c A5 c5 out _ (hs5.below Bel) (by omega) HON.out).mono ?_; rintro e w5 ⟨rfl, hb5⟩; rw [HSV.out])
                first | (rw [Exit.noGoto_ret]; go_ret2) | go_ret2
                exact ⟨out, _, by rw [HV.out]; rfl, ⟨A5, c5, rfl, hc51, hc52, hs5.below Bel⟩, Bel, fun _ => HOB.out, fun h => absurd HV.out h⟩
            · have HSV : Hid (sumV out = .tuple #[.int .i64 0, .bool false]) := by show sumV out = _; unfold sumV; rw [if_neg hz1]
              have HV : Hid (mrgE xs ys = 6) := by show mrgE xs ys = 6; rw [HME.out, if_pos (by omega)]
              go_wp2_with (go_at_call 81; refine (sum_c A5 c5 out _ (hs5.below Bel) (by omega) HON.out).mono ?_; rintro e w5 ⟨rfl, hb5⟩; rw [HSV.out])
              first | (rw [Exit.noGoto_ret]; go_ret2) | go_ret2
              exact ⟨[], _, by rw [HV.out]; rfl, SlV.nil, Bel, fun h => absurd (HV.out.symm.trans h) (by decide), fun _ => rfl⟩
end Go.Proofs.YtpccanadijefnaaDoor
