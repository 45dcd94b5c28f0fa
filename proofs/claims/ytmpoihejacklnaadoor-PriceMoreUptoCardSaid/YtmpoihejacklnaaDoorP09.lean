/- Parts of these proofs, one behind the other: Ppt, Ppr, Law12, Al12, Sm12, Bld, Dis12, RowQ. No condition. -/
import Derived.Test.YtmpoihejacklnaaDoorP08
import Derived.Test.YtmpoihejacklnaaDoorP07
import Derived.Test.YtmpoihejacklnaaDoorP06
import Derived.Test.YtmpoihejacklnaaDoorP01
import Derived.KernelRfl
import Derived.Test.YtmpoihejacklnaaDoorP03
import Derived.Lib.Builder
import Derived.Lib.AppendStr
import Derived.Lib.UnsafeStr
import Derived.Laws.Externs
import Derived.Test.YtmpoihejacklnaaDoorK806
/- price.Parts: the parts of a price, in order. No condition. -/
namespace Go.Proofs.YtmpoihejacklnaaDoor
open Go Go.RowKit Go.Shelf
attribute [local go_sem] Oper.semAt_some
set_option maxRecDepth 100000 in
set_option maxHeartbeats 4000000 in
theorem pparts_ok (A : Option Addr) (c : Nat) (xs : List T3) (t v : ByteArray) (w : World) (hU : U w) (hs : SlA eT3 w A xs) (hm : Small xs) (hz : t.size ≤ 17592186044416) (hz2 : v.size ≤ 17592186044416) (h0 : prcE xs t v = 0) :
    Calls Tryd.prog 16 #[.slice A xs.length c, .string t, .string v] w (WayPost w xs t v) := by
  have HW := Lib.hid (wayL_ok h0)
  have H0 := Lib.hid h0
  obtain ⟨k1, k2, k3⟩ := prcE_ok h0
  obtain ⟨dt, a1, a2, a3⟩ := rn_ok k2
  obtain ⟨dv, b1, b2, b3⟩ := rn_ok k3
  have C := fun W hW => pfill_c A c xs t v W (hU.to hW) (hs.below hW) hm hz hz2 h0
  obtain ⟨T, hT⟩ : ∃ T, rnS t = T := ⟨_, rfl⟩
  obtain ⟨V, hV⟩ : ∃ V, rnS v = V := ⟨_, rfl⟩
  rw [hT] at a1 a2 a3 HW C
  rw [hV] at b1 b2 b3 HW C
  have HI := Lib.hid k1
  have HTR := Lib.hid a3
  have HVR := Lib.hid b3
  have hbo := Boxed.new w 22 (.slice none 0 0)
  have hba : Below w.heap.size w (w.alloc (.cells #[.slice none 0 0] 22)) := Bal (Below.refl _ _) _
  clear h0 k1 k2 k3 a3 b3 dt dv hT hV
  refine (callsIn_wide (n := 5)).1 ?_
  refine callsIn_of_wp_marks Tryd.func16 rfl trivial ?_ rfl
  simp only [Tryd.ntmps16, List.size_toArray, List.length_cons, List.length_nil, Nat.reduceAdd, Nat.reduceSub, Array.replicate_succ, Array.replicate_zero, List.push_toArray, List.append_toArray, List.nil_append, List.cons_append]
  gi_wp2_with fail
  refine scope_in ?_
  gi_wp2_with fail
  generalize (w.alloc (.cells #[.slice none 0 0] 22)) = w0 at hbo hba ⊢
  refine ⟨trivial, ?_⟩
  refine (callsIn_wide.2 (C _ hba)).mono ?_
  rintro e w3 ⟨G, cb, B, base, cs, rfl, hG, hbs, hc6, hM, hb3⟩
  have hl0 := hbo.lt
  have hbo3 := boxed_kb hbo (Kb.below hb3) (by simp)
  have hb03 := Bst hba hb3
  have hG3 : GridR (fun b => b < w3.heap.size ∧ b ≠ w.heap.size) w3 G xs T V := hG.weak fun b h1 h2 => ⟨h1, by
    rcases h2 with h | ⟨h, o, hA⟩
    · omega
    · have h3 := (hs.slb (B := fun b => b < w.heap.size) (Below.refl _ _) (fun _ h => h)).2 b o hA h
      omega⟩
  have hR3 := hM.read hG3.g hc6 (B := fun b => b < w3.heap.size ∧ b ≠ w.heap.size) (fun b h1 h2 => ⟨h2, by omega⟩)
  have hGl := hG3.g.1
  gi_wp2
  rename_i K hK
  obtain ⟨M, hMe⟩ : ∃ n, w3.heap.size = n := ⟨_, rfl⟩
  have bg0 := ((Boxed.new w3 58 (.pointer (some ⟨G, 0, none⟩))).alloc (.cells #[.int .i64 0] 3)).alloc (.cells #[.int .i64 0] 3)
  have bi0 := (Boxed.new (w3.alloc (.cells #[.pointer (some ⟨G, 0, none⟩)] 58)) 3 (.int .i64 0)).alloc (.cells #[.int .i64 0] 3)
  have bj0 := Boxed.new ((w3.alloc (.cells #[.pointer (some ⟨G, 0, none⟩)] 58)).alloc (.cells #[.int .i64 0] 3)) 3 (.int .i64 0)
  have hb34 : Below w3.heap.size w3 (((w3.alloc (.cells #[.pointer (some ⟨G, 0, none⟩)] 58)).alloc (.cells #[.int .i64 0] 3)).alloc (.cells #[.int .i64 0] 3)) := Bal (Bal (Bal (Below.refl _ _) _) _) _
  simp only [World.size_alloc] at bi0 bj0
  generalize (((w3.alloc (.cells #[.pointer (some ⟨G, 0, none⟩)] 58)).alloc (.cells #[.int .i64 0] 3)).alloc (.cells #[.int .i64 0] 3)) = w4 at bg0 bi0 bj0 hb34 ⊢
  have hQ0 : InQ w w3 (fun b => b < w3.heap.size ∧ b ≠ w.heap.size) w3.heap.size (w3.heap.size + 1) (w3.heap.size + 1 + 1) w.heap.size G 0 0 (.slice none 0 0) [] [] w4 := ⟨Marks.nil _ _, bg0, bi0, bj0, boxed_kb hbo3 (Kb.below hb34) (by simp), Own.nil _, KwB.below hb34, Bst hb03 hb34⟩
  have hMw := hbo3.lt
  rw [hMe] at hQ0 hG3 hR3 hGl hMw ⊢
  rw [show M + 1 + 1 = M + 2 from rfl] at hQ0 ⊢
  clear hG hM hc6 hb3 hbo hba hbo3 hbs bg0 bi0 bj0 hb34 hb03
  refine wpIn_label (hK _ _ ?_)
  clear hK K
  have HM := Lib.hid hMe
  clear hMe
  gi_wp2_with fail
  refine wpIn_loop (fun a wr => ∃ (L : List Value) (i j : Nat) (vo : Value) (done : List T3) (Ds : List Nat), (i ≤ T.length ∧ j ≤ V.length ∧ InQ w w3 (fun b => b < M ∧ b ≠ w.heap.size) M (M + 1) (M + 2) w.heap.size G i j vo done Ds wr ∧ Hid (done ++ wayA xs T V i j = wayA xs T V 0 0)) ∧ FrEq a { tmps := #[.slice A xs.length c, .string t, .string v, undef, undef, undef, .pointer (some ⟨w.heap.size, 0, none⟩), .int .i64 0, .pointer (some ⟨M, 0, none⟩), .pointer (some ⟨M + 1, 0, none⟩), .pointer (some ⟨M + 2, 0, none⟩), (uAt L 0), .tuple #[.pointer (some ⟨G, 0, none⟩), .int .i64 0], .slice A xs.length c, .string t, .string v, .tuple #[.pointer (some ⟨G, 0, none⟩), .int .i64 0], .pointer (some ⟨G, 0, none⟩), .int .i64 0, .int .i64 0, .bool false, undef, (uAt L 1), (uAt L 2), (uAt L 3), (uAt L 4), (uAt L 5), (uAt L 6), (uAt L 7), (uAt L 8), (uAt L 9), (uAt L 10), (uAt L 11), (uAt L 12), (uAt L 13), (uAt L 14), (uAt L 15), (uAt L 16), (uAt L 17), (uAt L 18), (uAt L 19), (uAt L 20), (uAt L 21), (uAt L 22), (uAt L 23), (uAt L 24), (uAt L 25), (uAt L 26), (uAt L 27), (uAt L 28), (uAt L 29), (uAt L 30), (uAt L 31), (uAt L 32), (uAt L 33), (uAt L 34), (uAt L 35), (uAt L 36), (uAt L 37), (uAt L 38), (uAt L 39), (uAt L 40), (uAt L 41), (uAt L 42), (uAt L 43), (uAt L 44), (uAt L 45), (uAt L 46), (uAt L 47), (uAt L 48), (uAt L 49), (uAt L 50), (uAt L 51), (uAt L 52), (uAt L 53), undef], defers := dsOf Ds }) (fun a W => (T.length - (boxN (a.tmps.getD 9 undef) W).toNat) + (V.length - (boxN (a.tmps.getD 10 undef) W).toNat)) ?start ?round
  case start => exact ⟨[_, _, _, _, _, _, _, _, _, _, _, _, _, _, _, _, _, _, _, _, _, _, _, _, _, _, _, _, _, _, _, _, _, _, _, _, _, _, _, _, _, _, _, _, _, _, _, _, _, _, _, _, _, _], 0, 0, _, [], [], ⟨by omega, by omega, hQ0, rfl⟩, FrEq.rf _⟩
  case round =>
    rintro afr wr ⟨L, i, j, vo, done, Ds, ⟨hi, hj, hQ, HD⟩, hfr⟩
    unfold FrEq at hfr
    subst hfr
    have hGw := hG3.kw hQ.kw
    have hd : DisQ w (fun b => b < M ∧ b ≠ w.heap.size) M (M + 1) (M + 2) w.heap.size := ⟨by omega, by omega, by omega, by omega, by omega, by omega, by omega, by omega, by omega, by omega, by omega, by omega⟩
    obtain ⟨Av, cv, rfl, _, _, _⟩ := hQ.own.slv
    obtain ⟨A3, c3, k3, _⟩ := hGw.t
    obtain ⟨A4, c4, k4, _⟩ := hGw.w
    have c8 := hQ.bg.cell
    have c9 := hQ.bi.cell
    have c10 := hQ.bj.cell
    clear hQ0
    by_cases hend : i < T.length ∨ j < V.length
    · obtain ⟨p0, hf, hmem, hpr⟩ := fst_some (rus_ok HI.out) hi hj hend a2 b2
      obtain ⟨g6, g7, g8, _⟩ := parts_ok (rus_ok HI.out) hi hj hmem
      have HBI := Lib.hid hQ.bi
      have HBJ := Lib.hid hQ.bj
      have HF := Lib.hid hf
      have HP := Lib.hid hpr
      have hdl : done.length ≤ 128 := by
        have h1 := congrArg List.length HD.out
        have h2 := wayA_len HI.out a2 b2 128 0 0 (by omega) (by omega) (by omega)
        rw [List.length_append] at h1
        omega
      have HEND := Lib.hid hend
      have hcase : i < T.length ∨ (¬ i < T.length ∧ j < V.length) := by omega
      clear hf hmem hpr hend
      rcases hcase with g1 | ⟨g1, g2⟩
      case' inl => have g1' : (i : Int) < T.length := by omega
      case' inr =>
        have g1' : ¬ (i : Int) < T.length := by omega
        have g2' : (j : Int) < V.length := by omega
      all_goals
        gi_wp2_with fail
        refine wpIn_wide.2 ?_
        go_quiet (fail)
        have hbd : Below wr.heap.size wr (wr.drewN nq) := Bdn (Below.refl _ _) _
        generalize (wr.drewN nq) = wz at hbd ⊢
        have hQz := hQ.below hbd
        have d8 := hQz.bg.cell
        have d9 := hQz.bi.cell
        have d10 := hQz.bj.cell
        clear hQ hGw k3 k4 c8 c9 c10 hbd
        gi_wp2_with fail
        refine ⟨trivial, ?_⟩
        refine (callsIn_wide.2 (parts_c Fence.wide trivial G i j _)).mono ?_
        rintro e w1 ⟨rfl, hw1⟩
        obtain ⟨s, hs0⟩ : ∃ n, wz.heap.size = n := ⟨_, rfl⟩
        have bG : Boxed w1 s 58 (.pointer (some ⟨G, 0, none⟩)) := by rw [hw1, ← hs0]; exact ((Boxed.new _ _ _).alloc _).alloc _
        have bI : Boxed w1 (s + 1) 3 (.int .i64 i) := by
          have h := Boxed.new (wz.alloc (.cells #[.pointer (some ⟨G, 0, none⟩)] 58)) 3 (.int .i64 i)
          rw [World.size_alloc, hs0] at h
          rw [hw1]; exact h.alloc _
        have bJ : Boxed w1 (s + 2) 3 (.int .i64 j) := by
          have h := Boxed.new ((wz.alloc (.cells #[.pointer (some ⟨G, 0, none⟩)] 58)).alloc (.cells #[.int .i64 i] 3)) 3 (.int .i64 j)
          rw [World.size_alloc, World.size_alloc, hs0] at h
          rw [hw1]; exact h
        have hbl1 : Below wz.heap.size wz w1 := by rw [hw1]; exact Bal (Bal (Bal (Below.refl _ _) _) _) _
        clear hw1
        have hjz : M + 2 < s := by rw [← hs0]; exact hQz.bj.lt
        have hzw := hQz.bel.size
        have hDs : ∀ D ∈ Ds, D < s := fun D hD => by have := (hQz.mks.2 D hD).2.1; omega
        have hQ1 := hQz.below hbl1
        rw [hs0] at hzw ⊢
        clear hs0 hbl1 hQz d8 d9 d10
        have hlim : s + 2 < w1.heap.size := bJ.lt
        have hG1 : GridR (fun b => b < w1.heap.size) w1 G xs T V := (hG3.kw hQ1.kw).weak fun b h1 _ => h1
        have hPR : PartR (fun b => b < w1.heap.size) w1 (s + 1) s (s + 2) G xs T V i j := ⟨hG1, bI, bG, bJ, by omega, by omega, by omega⟩
        have hL : ∀ {lim}, s ≤ lim → LimQ w (fun b => b < M ∧ b ≠ w.heap.size) M (M + 1) (M + 2) w.heap.size Ds lim := fun {lim} h => ⟨by omega, by omega, by omega, by omega, fun b hb => by omega, fun D hD => by have := hDs D hD; omega, by omega⟩
        clear bG bI hG1
        gi_wp2_with fail
        refine rangeFunc_boxXE rfl (by omega) (gf := 56) (lb := #[.pointer (some ⟨s + 1, 0, none⟩), .pointer (some ⟨s, 0, none⟩), .pointer (some ⟨s + 2, 0, none⟩)]) rfl trivial (enters_of Tryd.func56 (by kernel_rfl) rfl)
          (b := s + 2) (Kp := KwB fun b => b < w1.heap.size) (parts_stops (5 - 1) (by omega) (s + 1) s (s + 2) G _ xs T V i j HI.out b2 a2 hi hj w1 hPR) ⟨_, _, bJ⟩ (fun h k => h.trans k)
          (fun W l o o' h1 h2 h3 h4 => ⟨by simp, fun k hk _ => World.putObj_heap_other (by omega)⟩) (fun _ => rfl)
          (InX w w3 (fun b => b < M ∧ b ≠ w.heap.size) M (M + 1) (M + 2) w.heap.size G xs T V i j (.slice Av done.length cv) done Ds (s + 2)) (ExX w w3 (fun b => b < M ∧ b ≠ w.heap.size) M (M + 1) (M + 2) w.heap.size G xs T V i j done Ds (s + 2))
          (InX.from (hL (by omega)) hlim) (fun cc => ExX.from (hL (by omega)) hlim cc) (fun q A C h ho => h.own1 (hL (by omega)) ho) (fun cc q A C h ho => h.own1 (hL (by omega)) ho) ⟨⟨hQ1, fun _ h => by cases h⟩, _, bJ⟩ (fun x b W => Bx W b 75 #[.int .i64 x.f, .int .i64 x.t, .int .i64 x.c, .int .i64 x.k])
          (fun x b u W W' row hl hg hr => Bx.kb hl (kb_grown hg) (fun h => by obtain ⟨_, o, h1, h2⟩ := hr b (by simpa using h); rw [show W.heap[b]? = _ from hl] at h1; injection h1 with h1; rw [← h1] at h2; cases h2)) ?ab ?done ?stop
        case ab =>
          apply Exists.intro
          refine ⟨?assign, ?body⟩
          case assign =>
            intro l' pre x W K hI hok hK
            unfold vPt
            gi_wp2
            have hba : Below W.heap.size W (W.alloc (.cells #[.int .i64 x.f, .int .i64 x.t, .int .i64 x.c, .int .i64 x.k] 75)) := Bal (Below.refl _ _) _
            have hbx := Bx.new W 75 #[.int .i64 x.f, .int .i64 x.t, .int .i64 x.c, .int .i64 x.k]
            obtain ⟨pb, hpb⟩ : ∃ n, W.heap.size = n := ⟨_, rfl⟩
            rw [hpb] at hbx ⊢
            refine hK pb _ (keepsFrom_kb (Kb.below hba) (by simp)) (KwB.below hba) ?_ hbx
            obtain ⟨⟨h1, h2⟩, u, hxb⟩ := hI
            exact ⟨⟨h1.below hba, h2⟩, u, boxed_kb hxb (Kb.below hba) (by simp)⟩
          case body =>
            rintro l' pre ⟨pf, pt, pc, pk⟩ pb W ⟨⟨hQ2, hN⟩, u, hxb⟩ ⟨rest, hrest⟩ hpx
            have hmem : (⟨pf, pt, pc, pk⟩ : Pt) ∈ partsP (rus xs) T V i j := by rw [hrest]; simp
            obtain ⟨o1, o2, o3, o4⟩ := parts_ok (rus_ok HI.out) hi hj hmem
            have hcb := cc_bound (rus_ok HI.out) T V _ _ _ o2 o3 (Nat.le_refl _)
            have hcb2 := cc_bound (rus_ok HI.out) T V _ i j hi hj (Nat.le_refl _)
            have HR := Lib.hid hrest
            have HMEM := Lib.hid hmem
            have HN := Lib.hid hN
            have hRW := hR3.kw hQ2.kw
            obtain ⟨r1, _, e1, e2⟩ := hRW.rows (i + pf) o2
            have e2 := e2 (j + pt) o3
            obtain ⟨r2, _, e3, e4⟩ := hRW.rows i hi
            have e4 := e4 j hj
            have e6 := hRW.h6
            simp only at o1 o2 o3 o4 hcb hpx
            obtain ⟨hv, hhv⟩ : ∃ v, cc (rus xs) T V i j = v := ⟨_, rfl⟩
            obtain ⟨gv, hgv⟩ : ∃ v, cc (rus xs) T V (i + pf) (j + pt) = v := ⟨_, rfl⟩
            rw [hgv] at e2 hcb
            rw [hhv] at e4 hcb2
            have HGV := Lib.hid hgv
            have HHV := Lib.hid hhv
            have HB : ∀ W', Below W.heap.size W W' → Calls Tryd.prog 30 #[.pointer (some ⟨G, 0, none⟩), .int .i64 i, .int .i64 j, .agg #[.int .i64 pf, .int .i64 pt, .int .i64 pc, .int .i64 pk]] W' fun e w' => e = .returned (.int .i64 (pc + gv : Nat)) ∧ Below W'.heap.size W' w' := fun W' hW' =>
              behind_c G cb r1 T.length (T.length + 1) V.length i j gv ⟨pf, pt, pc, pk⟩ W' (bkc hW' e6) (bkc hW' e1) (bkc hW' e2) o2 o3 a2 b2 o4 (by omega)
            have hiT1 : (i : Int) < (T.length : Int) + 1 := by omega
            have hjV1 : (j : Int) < (V.length : Int) + 1 := by omega
            clear hgv hhv hmem hrest hN e1 e2 hRW
            gi_wp2_with fail
            refine region_mixR [] 15 [(0, true), (1, true), (2, true), (3, true), (5, true), (6, true), (7, true), (8, true), (9, true), (10, true), (11, true), (12, true), (13, true), (14, true), (4, false)] (by kernel_rfl) (by kernel_rfl) ?_
            intro W4 hW4
            have f8 := bkc hW4 hQ2.bg.cell
            have f9 := bkc hW4 hQ2.bi.cell
            have f10 := bkc hW4 hQ2.bj.cell
            have f3 := bkc hW4 e3
            have f4 := bkc hW4 e4
            have f6 := bkc hW4 e6
            have x0 := bkc hW4 (hpx.cell 0)
            have x1 := bkc hW4 (hpx.cell 1)
            have x2 := bkc hW4 (hpx.cell 2)
            have x3 := bkc hW4 (hpx.cell 3)
            repeat (refine sS_q rfl (fun K hK => ?_); unfold takeS; go_simp; refine hK _ ?_; clear hK K)
            refine sS_t rfl (fun K hK => ?_); go_simp
            refine (HB _ hW4).mono ?_
            rintro e w5 ⟨rfl, hb5⟩
            go_simp
            refine hK _ _ (.of (Kb.weak (Kb.below hb5) (by simp))) ?_; clear hK K
            refine sS_nil ?_
            have hw5 : Below W.heap.size W w5 := Bst hW4 hb5
            clear f8 f9 f10 f3 f4 f6 x0 x1 x2 x3 HB e3 e4 e6
            by_cases hh : pc + gv = hv
            · have hb0 : ((pc : Int) + (gv : Int) == (hv : Int)) = true := by rw [beq_iff_eq]; omega
              have HHH := Lib.hid hh
              clear hh
              go_wp2
              rw [onlyN_normal]
              have hQ5 := hQ2.below hw5
              have hG5 := hG3.kw hQ5.kw
              have CT := fun W' (hW' : Below w5.heap.size w5 W') => told_c W' (hG5.kw (KwB.below hW')) a2 b2 HTR.out HVR.out HI.out i j hi hj ⟨pf, pt, pc, pk⟩ HMEM.out
              have hpx5 := hpx.kb (Kb.below hw5) (by simp)
              obtain ⟨y, hy⟩ : ∃ y, tolP xs T V i j ⟨pf, pt, pc, pk⟩ = y := ⟨_, rfl⟩
              rw [hy] at CT
              have HY := Lib.hid hy
              unfold vPt at CT
              simp only at CT
              have c6 := hQ5.bo.cell
              have hgl : ∀ g, (Value.slice Av done.length cv).ownBlock = some g → g < w1.heap.size := fun g hg => by
                obtain ⟨cu, hc⟩ := hQ1.own.cells hg
                exact (Array.getElem?_eq_some_iff.1 hc).1
              clear hy
              gi_wp2_with fail
              refine region_mixR [] 7 [(0, true), (1, true), (2, true), (3, true), (4, true), (5, false), (6, false)] (by kernel_rfl) (by kernel_rfl) ?_
              intro W6 hW6
              have f6 := bkc hW6 c6
              have f8 := bkc hW6 hQ5.bg.cell
              have f9 := bkc hW6 hQ5.bi.cell
              have f10 := bkc hW6 hQ5.bj.cell
              have x0 := bkc hW6 (hpx5.cell 0)
              have x1 := bkc hW6 (hpx5.cell 1)
              have x2 := bkc hW6 (hpx5.cell 2)
              have x3 := bkc hW6 (hpx5.cell 3)
              repeat (refine sS_q rfl (fun K hK => ?_); unfold takeS; go_simp; refine hK _ ?_; clear hK K)
              refine sS_t rfl (fun K hK => ?_); go_simp
              refine (CT _ hW6).mono ?_
              rintro e w7 ⟨rfl, hb7⟩
              go_simp
              refine hK _ _ (.of (Kb.weak (Kb.below hb7) (by simp))) ?_; clear hK K
              refine sS_t rfl (fun K hK => ?_); go_simp
              have hw8 : Below w5.heap.size w5 (w7.alloc (.cells #[.string y.f, .string y.t, .int .i64 y.n] 49)) := Bal (Bst hW6 hb7) _
              have hS8 : SlA eT3 (w7.alloc (.cells #[.string y.f, .string y.t, .int .i64 y.n] 49)) (some ⟨w7.heap.size, 0, none⟩) [y] := SlA.new eT3 _ _ _ _ (by simp) _ rfl
              refine hK _ _ (.of (Kb.weak (Kb.below (Bal hb7 _)) (by simp))) ?_; clear hK K
              refine sS_nil ?_
              generalize (w7.alloc (.cells #[.string y.f, .string y.t, .int .i64 y.n] 49)) = w8 at hw8 hS8 ⊢
              have hO8 := (hQ5.own.lower (show w.heap.size ≤ w3.heap.size by have := HM.out; omega)).below hw8
              have hb8 := Bst hQ5.bel hw8
              have hM3 := HM.out
              refine app (E := eT3) (w0 := w) _ _ 22 49 (.agg #[.string .empty, .string .empty, .int .i64 0]) 40 rfl rfl Tryd.underlying22 info_ruleH rfl (by decide) (by decide) _ done [y] ⟨_, 0, none⟩ 1 1 rfl rfl rfl hO8 hS8 hb8 (by first | (simp; done) | (simp; omega)) ?_
              intro v9 w9 HO9 hb9 hg9 hmv
              obtain ⟨A9, c9, rfl, b9, hQ10, hk10⟩ := hQ5.pushed hd (fun b hb => by omega) (by omega) hw8 (by have := hQ5.bj.lt; omega) HO9 hg9 hmv
              have c9c := b9.cell
              have c9f := b9.frozen
              clear HO9 hb9 hg9 hmv
              go_frame
              go_wp2
              rw [onlyN_normal]
              clear c9c c9f b9 f6 f8 f9 f10 x0 x1 x2 x3 hO8 hb8 hS8 hw8
              generalize (w9.setCell ⟨w.heap.size, 0, none⟩ (.slice A9 (done.length + 1) c9)) = w10 at hQ10 hk10 ⊢
              have hpx10 : Bx w10 pb 75 #[.int .i64 pf, .int .i64 pt, .int .i64 pc, .int .i64 pk] := hpx5.kb hk10 (hQ5.bx hpx5)
              have f9 := hQ10.bi.cell
              have f10 := hQ10.bj.cell
              have x0 := hpx10.cell 0
              have x1 := hpx10.cell 1
              simp at x0 x1
              have wi : IntKind.i64.wrap ((i : Int) + (pf : Int)) = ((i + pf : Nat) : Int) := by rw [IntWalk.i64_in _ (by omega)]; omega
              have wj : IntKind.i64.wrap ((j : Int) + (pt : Int)) = ((j + pt : Nat) : Int) := by rw [IntWalk.i64_in _ (by omega)]; omega
              have HL := Lib.hid hQ10.bi.lt
              have HL2 := Lib.hid hQ10.bj.lt
              have hgk : M + 1 ≠ pb := fun e => by
                have h3 : w10.heap[pb]? = some (.cells #[.int .i64 pf, .int .i64 pt, .int .i64 pc, .int .i64 pk] 75 (0, 0)) := hpx10
                rw [← e] at h3
                have e2 := (boxed_cells hQ10.bi).symm.trans h3
                injection e2 with e2
                injection e2 with _ e2
                exact absurd e2 (by decide)
              gi_wp2_with fail
              refine region_treeZR [] [M + 1] 8 9 (.q 0 (.q 1 (.q 2 (.q 3 (.p 4 (.p 5 (.p 6 (.p 7 (.t 8 .z))))))))) (by kernel_rfl) (by kernel_rfl) ?_
              intro W10 hW10
              have k9 := bkc hW10 f9
              have k10 : ∀ Y : LaterS W10 [M + 1], (World.extS W10 [M + 1] Y).cell? ⟨M + 2, 0, none⟩ = some (.int .i64 j) := fun Y => Y.h.cell (bkc hW10 f10) (by simp)
              have y0 := bkc hW10 x0
              have y1 : ∀ Y : LaterS W10 [M + 1], (World.extS W10 [M + 1] Y).cell? ⟨pb, 1, none⟩ = some (.int .i64 pt) := fun Y => Y.h.cell (bkc hW10 x1) (by simp; omega)
              repeat (refine trZ_q rfl (fun K hK => ?_); unfold takeS; go_simp; refine hK _ ?_; clear hK K)
              iterate 4 (refine trZ_p rfl (fun K hK => ?_); unfold takeS; go_simp; refine hK _ ?_; clear hK K)
              have hQ11 := hQ10.below hW10
              have hk11 := hk10.trans' ((Kb.below hW10).weak (by simp))
              have k9f := hQ11.bi.frozen
              refine trZ_t true rfl rfl (fun K hK => ?_); go_simp
              have hQ12 := hQ11.setI hd (i + pf)
              rw [Int.natCast_add] at hQ12
              have hk12 : Kb W10 (W10.setCell ⟨M + 1, 0, none⟩ (.int .i64 ((i : Int) + (pf : Int)))) [M + 1] := Kb.grown (grownBy_cell W10 (M + 1) 0 _)
              refine hK _ _ (.of (by simpa using hk12)) ?_; clear hK K
              generalize (W10.setCell ⟨M + 1, 0, none⟩ (.int .i64 ((i : Int) + (pf : Int)))) = w12 at hQ12 hk12 ⊢
              have k12 := hQ12.bj.cell
              have k12f := hQ12.bj.frozen
              have HL12 := hQ12.bj.lt
              refine trZ_z rfl ?_
              go_simp
              rw [onlyN_normal]
              have hQ13 := hQ12.setJ hd (j + pt)
              rw [Int.natCast_add] at hQ13
              have hk13 : Kb w12 (w12.setCell ⟨M + 2, 0, none⟩ (.int .i64 ((j : Int) + (pt : Int)))) [M + 2] := Kb.grown (grownBy_cell w12 (M + 2) 0 _)
              generalize (w12.setCell ⟨M + 2, 0, none⟩ (.int .i64 ((j : Int) + (pt : Int)))) = w13 at hQ13 hk13 ⊢
              have hkE : Kb W w13 ((M + 2) :: (M + 1) :: w.heap.size :: (Value.slice Av done.length cv).ownBlock.toList) :=
                ((((Kb.below hw5).weak (by simp)).trans' (hk11.weak fun _ h => List.mem_cons_of_mem _ (List.mem_cons_of_mem _ h))).trans' (hk12.weak (by simp))).trans' (hk13.weak (by simp))
              have hxb13 : Boxed w13 (s + 2) 3 u := boxed_kb hxb hkE fun h => by
                rcases List.mem_cons.1 h with h | h
                · omega
                rcases List.mem_cons.1 h with h | h
                · omega
                rcases List.mem_cons.1 h with h | h
                · omega
                exact hQ2.neb hxb (by decide) _ (by simpa using h) rfl
              have hf1 := fst_of HR.out HN.out (show pc + cc (rus xs) T V (i + pf) (j + pt) = cc (rus xs) T V i j by rw [HGV.out, HHV.out]; exact HHH.out)
              have HF1 := Lib.hid hf1
              clear hf1 hQ12 k12 k12f HL12 hQ11 k9f k9 k10 y0 y1 hk10 hk11 hk12 hk13
              gi_wp2
              refine ⟨keepsFrom_kb hkE fun q hq => ?_, ⟨rfl, ⟨pf, pt, pc, pk⟩, .slice A9 (done.length + 1) c9, HF1.out, ?_⟩, u, hxb13⟩
              · rcases List.mem_cons.1 hq with h | h
                · omega
                rcases List.mem_cons.1 h with h | h
                · omega
                rcases List.mem_cons.1 h with h | h
                · omega
                exact hgl q (by simpa using h)
              · rw [HY.out]
                exact hQ13
            · have hb0 : ((pc : Int) + (gv : Int) == (hv : Int)) = false := by rw [beq_eq_false_iff_ne]; omega
              have HNN : Hid (NoFst xs T V i j (pre ++ [⟨pf, pt, pc, pk⟩])) := fun p hp => by
                rcases List.mem_append.1 hp with h | h
                · exact HN.out p h
                · rw [List.mem_singleton.1 h]
                  show ¬ pc + cc (rus xs) T V (i + pf) (j + pt) = cc (rus xs) T V i j
                  rw [HGV.out, HHV.out]; exact hh
              clear hh
              go_wp2
              rw [onlyN_normal]
              gi_wp2
              exact ⟨keepsFrom_kb (Kb.below hw5) (by simp), KwB.below hw5, ⟨hQ2.below hw5, HNN.out⟩, u, boxed_kb hxb (Kb.below hw5) (by simp)⟩
        case done =>
          rintro D ys W hD rfl ⟨⟨hQ2, hN⟩, _⟩ hKD
          have h1 := HF.out
          unfold fstP at h1
          rw [List.find?_eq_none.2 (fun q hq => by simpa using hN q hq)] at h1
          cases h1
        case stop =>
          rintro D cc pre W hD _ ⟨⟨rfl, q, vo2, hfq, hQ2⟩, _⟩ hKD
          obtain rfl : p0 = q := by rw [HF.out] at hfq; injection hfq
          have hmk2 := hQ2.mks.cons (D := D) (fun h => by have := hDs D h; omega) (by omega) hKD
          have hQ3 : InQ w w3 (fun b => b < M ∧ b ≠ w.heap.size) M (M + 1) (M + 2) w.heap.size G (i + p0.f) (j + p0.t) vo2 (done ++ [tolP xs T V i j p0]) (D :: Ds) W := { hQ2 with mks := hmk2 }
          clear hfq hKD hQ2 hPR bJ hmk2
          gi_wp2
          refine ⟨⟨[_, _, _, _, _, _, _, _, _, _, _, _, _, _, _, _, _, _, _, _, _, _, _, _, _, _, _, _, _, _, _, _, _, _, _, _, _, _, _, _, _, _, _, _, _, _, _, _, _, _, _, _, _, _], i + p0.f, j + p0.t, vo2, _, D :: Ds, ⟨g7, g8, hQ3, ?_⟩, FrEq.rf _⟩, ?_⟩
          · show _ = _
            rw [← HD.out, wayA_step HI.out a2 b2 hi hj HEND.out HF.out, List.append_assoc]; rfl
          · show T.length - (boxN (.pointer (some ⟨M + 1, 0, none⟩)) W).toNat + (V.length - (boxN (.pointer (some ⟨M + 2, 0, none⟩)) W).toNat) < T.length - (boxN (.pointer (some ⟨M + 1, 0, none⟩)) wr).toNat + (V.length - (boxN (.pointer (some ⟨M + 2, 0, none⟩)) wr).toNat)
            rw [boxN_eq hQ3.bi, boxN_eq hQ3.bj, boxN_eq HBI.out, boxN_eq HBJ.out]
            omega
    · obtain rfl : i = T.length := by omega
      obtain rfl : j = V.length := by omega
      have g1 : ¬ (T.length : Int) < T.length := by omega
      have g2 : ¬ (V.length : Int) < V.length := by omega
      have HD2 : Hid (done = wayL xs t v) := by
        show _ = _
        rw [HW.out, ← HD.out, wayA_end, List.append_nil]
      gi_wp2_with fail
      refine wpIn_wide.2 ?_
      go_quiet (fail)
      have hbd : Below wr.heap.size wr (wr.drewN nq) := Bdn (Below.refl _ _) _
      generalize (wr.drewN nq) = wz at hbd ⊢
      have hQz := hQ.below hbd
      have d6 := hQz.bo.cell
      have d6f := hQz.bo.frozen
      clear hQ hGw k3 k4 c8 c9 c10 hbd
      gi_wp2
      have hk : Kb wz (wz.setCell ⟨w.heap.size, 0, none⟩ (.slice Av done.length cv)) [w.heap.size] := Kb.grown (grownBy_cell wz w.heap.size 0 _)
      have hmk := hQz.mks.kb hk fun D hD hR => by rw [List.mem_singleton.1 hR] at hD; exact hQz.mks.not_cells (boxed_cells hQz.bo) rfl hD
      have hO := hQz.own.kb hk fun g hg => by simpa using hQz.neb hQz.bo (by decide) g hg
      have hbw := hk.to (by simp) hQz.bel (Nat.le_refl _)
      have hbx := hQz.bo.set (.slice Av done.length cv)
      show LeavesInM _ _ _ _ _ _ (dsOf Ds) _ _
      refine hmk.leave fun W' hb' hcl => ⟨.tuple #[.slice Av done.length cv, .int .i64 0], ?_, ?_⟩
      · have hc := cell_of_cells hcl hbx.cell
        simp [results, go_sem, hc]
      · refine ⟨_, by rw [H0.out], ?_, hbw.trans hb'⟩
        rw [← HD2.out]
        exact (hO.cellsKept hcl).lower (by have := HM.out; omega)
theorem pparts_c (A : Option Addr) (c : Nat) (xs : List T3) (t v : ByteArray) (w : World) (hU : U w) (hs : SlA eT3 w A xs) (hm : Small xs) (hz : t.size ≤ 17592186044416) (hz2 : v.size ≤ 17592186044416) :
    Calls Tryd.prog 16 #[.slice A xs.length c, .string t, .string v] w (WayPost w xs t v) := by
  by_cases h0 : prcE xs t v = 0
  · exact pparts_ok A c xs t v w hU hs hm hz hz2 h0
  · exact perr_c A c xs t v w hU hs hm hz hz2 h0
end Go.Proofs.YtmpoihejacklnaaDoor
/- price.Price, Within: the price, whether it is in a budget. No condition. -/
namespace Go.Proofs.YtmpoihejacklnaaDoor
open Go Go.RowKit
set_option maxRecDepth 100000 in
set_option maxHeartbeats 1000000 in
theorem pprice_c (A : Option Addr) (c : Nat) (xs : List T3) (t v : ByteArray) (w : World) (hU : U w) (hs : SlA eT3 w A xs) (hm : Small xs) (hz : t.size ≤ 17592186044416) (hz2 : v.size ≤ 17592186044416) :
    Calls Tryd.prog 12 #[.slice A xs.length c, .string t, .string v] w (Ret w (.tuple #[.int .i64 (prcV xs t v), .int .i64 (prcE xs t v)])) := by
  by_cases h0 : prcE xs t v = 0
  · have HV := Lib.hid (price_cc xs t v h0)
    have H0 := Lib.hid h0
    have C := pfill_c A c xs t v w hU hs hm hz hz2 h0
    clear h0
    go_enter Tryd.func12, Tryd.ntmps12
    go_wp2_with fail
    refine C.mono ?_
    rintro e w3 ⟨G, cb, B, base, cs, rfl, _, _, hc, hM, hb3⟩
    obtain ⟨r, _, e1, e2⟩ := hM.at (i := 0) (j := 0) (Nat.le_refl _) (Nat.zero_le _) (Nat.zero_le _)
    rw [← HV.out] at e2
    have l1 : (0 : Int) < ((rnS t).length : Int) + 1 := by omega
    have l2 : (0 : Int) < ((rnS v).length : Int) + 1 := by omega
    go_wp2
    go_ret2
    rw [H0.out]
    exact ⟨rfl, hb3⟩
  · have hv : prcV xs t v = 0 := by unfold prcV; rw [if_neg h0]
    have HV := Lib.hid hv
    have C := pfill_err A c xs t v w hU hs hm hz hz2 h0
    obtain ⟨z, hz3⟩ : ∃ z, prcE xs t v = z := ⟨_, rfl⟩
    rw [hz3] at C
    have hz0 : z ≠ 0 := hz3 ▸ h0
    have HZ := Lib.hid hz3
    clear h0 hv hz3
    go_enter Tryd.func12, Tryd.ntmps12
    go_wp2_with fail
    refine C.mono ?_
    rintro e w2 ⟨rfl, hb2⟩
    go_wp2
    go_ret2
    rw [HV.out, HZ.out]
    exact ⟨rfl, hb2⟩
set_option maxRecDepth 100000 in
set_option maxHeartbeats 1000000 in
theorem pwithin_c (A : Option Addr) (c : Nat) (xs : List T3) (t v : ByteArray) (b : Int) (w : World) (hU : U w) (hs : SlA eT3 w A xs) (hm : Small xs) (hz : t.size ≤ 17592186044416) (hz2 : v.size ≤ 17592186044416) :
    Calls Tryd.prog 14 #[.slice A xs.length c, .string t, .string v, .int .i64 b] w (Ret w (.tuple #[.int .i64 (witV xs t v b), .int .i64 (witE xs t v b)])) := by
  have hp := fun W (hW : Below w.heap.size w W) => pprice_c A c xs t v W (hU.to hW) (hs.below hW) hm hz hz2
  have hle := prcV_le (xs := xs) (t := t) (w := v)
  by_cases h0 : prcE xs t v = 0
  · rw [h0] at hp
    by_cases h1 : b < 0 ∨ 4096 < b
    · have HE : Hid (witE xs t v b = 2) := by show _ = _; unfold witE; rw [if_neg (by simp [h0]), if_pos h1]
      have HV : Hid (witV xs t v b = 0) := by show _ = _; unfold witV; rw [HE.out, if_neg (by decide)]
      have HP := Lib.hid hp
      clear hp h0
      rcases h1 with h1 | h1
      · go_enter Tryd.func14, Tryd.ntmps14
        go_wp2_with fail
        refine (HP.out _ Bel).mono ?_
        rintro e w2 ⟨rfl, hb2⟩
        go_wp2
        go_ret2
        rw [HE.out, HV.out]
        exact ⟨rfl, Bst Bel hb2⟩
      · have h2 : ¬ b < 0 := by omega
        go_enter Tryd.func14, Tryd.ntmps14
        go_wp2_with fail
        refine (HP.out _ Bel).mono ?_
        rintro e w2 ⟨rfl, hb2⟩
        go_wp2
        go_ret2
        rw [HE.out, HV.out]
        exact ⟨rfl, Bst Bel hb2⟩
    · have h2 : ¬ b < 0 := by omega
      have h3 : ¬ 4096 < b := by omega
      by_cases h4 : b < (prcV xs t v : Int)
      · have HE : Hid (witE xs t v b = 10) := by show _ = _; unfold witE; rw [if_neg (by simp [h0]), if_neg h1, if_pos h4]
        have HV : Hid (witV xs t v b = 0) := by show _ = _; unfold witV; rw [HE.out, if_neg (by decide)]
        have HP := Lib.hid hp
        clear hp h0 h1
        go_enter Tryd.func14, Tryd.ntmps14
        go_wp2_with fail
        refine (HP.out _ Bel).mono ?_
        rintro e w2 ⟨rfl, hb2⟩
        go_wp2
        go_ret2
        rw [HE.out, HV.out]
        exact ⟨rfl, Bst Bel hb2⟩
      · have HE : Hid (witE xs t v b = 0) := by show _ = _; unfold witE; rw [if_neg (by simp [h0]), if_neg h1, if_neg h4]
        have HV : Hid (witV xs t v b = prcV xs t v) := by show _ = _; unfold witV; rw [HE.out, if_pos rfl]
        have HP := Lib.hid hp
        clear hp h0 h1
        go_enter Tryd.func14, Tryd.ntmps14
        go_wp2_with fail
        refine (HP.out _ Bel).mono ?_
        rintro e w2 ⟨rfl, hb2⟩
        go_wp2
        go_ret2
        rw [HE.out, HV.out]
        exact ⟨rfl, Bst Bel hb2⟩
  · have HE : Hid (witE xs t v b = prcE xs t v) := by show _ = _; unfold witE; rw [if_pos h0]
    have HV : Hid (witV xs t v b = 0) := by show _ = _; unfold witV; rw [HE.out, if_neg h0]
    obtain ⟨z, hz3⟩ : ∃ z, prcE xs t v = z := ⟨_, rfl⟩
    have hz0 : z ≠ 0 := hz3 ▸ h0
    rw [hz3] at hp HE
    have HP := Lib.hid hp
    clear hp h0 hz3
    go_enter Tryd.func14, Tryd.ntmps14
    go_wp2_with fail
    refine (HP.out _ Bel).mono ?_
    rintro e w2 ⟨rfl, hb2⟩
    go_wp2
    go_ret2
    rw [HE.out, HV.out]
    exact ⟨rfl, Bst Bel hb2⟩
end Go.Proofs.YtmpoihejacklnaaDoor
/- The laws of prices in plain Lean. No condition. -/
namespace Go.Proofs.YtmpoihejacklnaaDoor
open Go Go.RowKit
theorem isE_nil : isE [] = 0 := by
  unfold isE errR
  rw [if_neg (by simp), if_neg (by decide), if_neg (by simp)]
theorem prcE_nil (t w : ByteArray) : prcE [] t w = pairE ⟨t, w⟩ := by unfold prcE; rw [if_pos isE_nil]
theorem prcE_is {xs : List T3} (h : isE xs = 0) (t w : ByteArray) : prcE xs t w = pairE ⟨t, w⟩ := by unfold prcE; rw [if_pos h]
theorem pairE_both {t w : ByteArray} (h1 : tkE t = 0) (h2 : tkE w = 0) : pairE ⟨t, w⟩ = 0 := by unfold pairE; rw [if_pos h1]; exact h2
theorem prcV_ok {xs : List T3} {t w : ByteArray} (h : prcE xs t w = 0) : prcV xs t w = price (rus xs) (rnS t) (rnS w) := by unfold prcV; rw [if_pos h]
theorem prcV_bad {xs : List T3} {t w : ByteArray} (h : prcE xs t w ≠ 0) : prcV xs t w = 0 := by unfold prcV; rw [if_neg h]
theorem rn_inj {s t : ByteArray} (h1 : tkE s = 0) (h2 : tkE t = 0) (h : rnS s = rnS t) : s = t := by
  obtain ⟨d1, _⟩ := rn_ok h1
  obtain ⟨d2, _⟩ := rn_ok h2
  rw [h] at d1
  exact decS_inj d1 d2
theorem rn_app {s t : ByteArray} (h1 : tkE s = 0) (h2 : tkE t = 0) : rnS (s ++ t) = rnS s ++ rnS t := by
  obtain ⟨d1, _⟩ := rn_ok h1
  obtain ⟨d2, _⟩ := rn_ok h2
  have e : rnS (s ++ t) = (decS (s ++ t)).getD [] := rfl
  rw [e, decS_app d1 d2]; rfl
/-- A token read for itself costs nothing, no other word does; without rules as many changes as both are apart; with rules no more. -/
theorem same12 {xs : List T3} {t w : ByteArray} (h : prcE xs t w = 0) :
    prcE [] t w = 0 ∧ prcV [] t w = 255 * dd (rnS t) (rnS w) (rnS t).length (rnS w).length ∧ prcV xs t w ≤ prcV [] t w ∧ (prcV xs t w = 0 ↔ t = w) ∧ prcE xs t t = 0 ∧ prcV xs t t = 0 := by
  obtain ⟨h1, h2, h3⟩ := prcE_ok h
  obtain ⟨_, _, a2, _⟩ := rn_ok h2
  obtain ⟨_, _, b2, _⟩ := rn_ok h3
  have e0 : prcE [] t w = 0 := by rw [prcE_nil]; exact pairE_both h2 h3
  have e1 : prcE xs t t = 0 := by rw [prcE_is h1]; exact pairE_both h2 h2
  have hn : RuOk (rus []) := rus_ok isE_nil
  refine ⟨e0, ?_, ?_, ?_, e1, ?_⟩
  · rw [prcV_ok e0, rus_nil, price_none a2 b2]
  · rw [prcV_ok e0, prcV_ok h]
    refine price_more hn (rus_ok h1) (fun x hx => ?_) a2 b2
    rw [rus_nil] at hx; cases hx
  · rw [prcV_ok h, price_zero (rus_ok h1) a2 b2]
    exact ⟨fun e => rn_inj h2 h3 e, fun e => by rw [e]⟩
  · rw [prcV_ok e1, price_same (rus_ok h1)]
/-- Two tokens one behind the other cost no more than both; with the same runes ahead no more. -/
theorem behind12 {xs : List T3} {t w u v : ByteArray} (h : prcE xs t w = 0) (k : prcE xs u v = 0) :
    (prcE xs (t ++ u) (w ++ v) = 0 → prcV xs (t ++ u) (w ++ v) ≤ prcV xs t w + prcV xs u v) ∧ (prcE xs (u ++ t) (u ++ w) = 0 → prcV xs (u ++ t) (u ++ w) ≤ prcV xs t w) := by
  obtain ⟨h1, h2, h3⟩ := prcE_ok h
  obtain ⟨_, k2, k3⟩ := prcE_ok k
  obtain ⟨_, _, a2, _⟩ := rn_ok h2
  obtain ⟨_, _, b2, _⟩ := rn_ok h3
  obtain ⟨_, _, c2, _⟩ := rn_ok k2
  obtain ⟨_, _, d2, _⟩ := rn_ok k3
  refine ⟨fun e => ?_, fun e => ?_⟩
  · rw [prcV_ok e, prcV_ok h, prcV_ok k, rn_app h2 k2, rn_app h3 k3]
    exact price_both (rus_ok h1) a2 b2 c2 d2
  · rw [prcV_ok e, prcV_ok h, rn_app k2 h2, rn_app k2 h3]
    exact price_ahead (rus_ok h1) _ a2 b2
/-- With more rules the price is no more. -/
theorem more12 {xs ys : List T3} (h : isE xs = 0) (k : isE ys = 0) (hm : ∀ x ∈ xs, ∃ y ∈ ys, y.f = x.f ∧ y.t = x.t ∧ y.n ≤ x.n) (t w : ByteArray) :
    prcE xs t w = prcE ys t w ∧ prcV ys t w ≤ prcV xs t w := by
  have e : prcE xs t w = prcE ys t w := by rw [prcE_is h, prcE_is k]
  refine ⟨e, ?_⟩
  by_cases h0 : prcE xs t w = 0
  · obtain ⟨_, h2, h3⟩ := prcE_ok h0
    obtain ⟨_, _, a2, _⟩ := rn_ok h2
    obtain ⟨_, _, b2, _⟩ := rn_ok h3
    rw [prcV_ok h0, prcV_ok (e ▸ h0)]
    refine price_more (rus_ok h) (rus_ok k) (fun x hx => ?_) a2 b2
    obtain ⟨b, hb, rfl⟩ := List.mem_map.1 hx
    obtain ⟨y, hy, e1, e2, e3⟩ := hm b hb
    refine ⟨_, List.mem_map.2 ⟨y, hy, rfl⟩, ?_, ?_, ?_⟩
    · show (decS y.f).getD [] = (decS b.f).getD []; rw [e1]
    · show (decS y.t).getD [] = (decS b.t).getD []; rw [e2]
    · show y.n.toNat ≤ b.n.toNat; omega
  · rw [prcV_bad (e ▸ h0)]; omega
/-- A rule's From read for its To costs no more than the rule. -/
theorem rule12 {ys : List T3} {y : T3} (hy : y ∈ ys) (h : prcE ys y.f y.t = 0) : (prcV ys y.f y.t : Int) ≤ y.n := by
  obtain ⟨h1, h2, h3⟩ := prcE_ok h
  rw [prcV_ok h]
  have h4 := price_rule (rus_ok h1) (x := ⟨(decS y.f).getD [], (decS y.t).getD [], y.n.toNat⟩) (List.mem_map.2 ⟨y, hy, rfl⟩)
  obtain ⟨_, _, _, _, _, h5, _⟩ := rchk_all ((isE_ok h1).2 y hy)
  have h6 : price (rus ys) (rnS y.f) (rnS y.t) ≤ y.n.toNat := h4
  omega
/-- The parts of a price are of both, cost it, and each is a match, a change, or a rule. -/
theorem sums12 {xs : List T3} {t w : ByteArray} (h : prcE xs t w = 0) : bsum (sumFB (wayL xs t w)) = t ∧ bsum (sumTB (wayL xs t w)) = w ∧ sumN (wayL xs t w) = prcV xs t w ∧ (∀ r ∈ wayL xs t w, partOk xs r) ∧ (wayL xs t w).length ≤ 128 := by
  obtain ⟨h1, h2, h3⟩ := prcE_ok h
  obtain ⟨a0, _, a2, a3⟩ := rn_ok h2
  obtain ⟨b0, _, b2, b3⟩ := rn_ok h3
  have e : wayL xs t w = wayA xs (rnS t) (rnS w) 0 0 := by unfold wayL; rw [if_pos h]
  obtain ⟨k1, k2, k3⟩ := way_sum h1 a2 b2 _ 0 0 (Nat.zero_le _) (Nat.zero_le _) (Nat.le_refl _)
  have hb := cc_bound (rus_ok h1) (rnS t) (rnS w) 128 0 0 (by omega) (by omega) (by omega)
  rw [e]
  refine ⟨?_, ?_, ?_, way_ok h1 a3 b3 a2 b2 _ 0 0 (Nat.zero_le _) (Nat.zero_le _) (Nat.le_refl _), ?_⟩
  · rw [k1, List.drop_zero]; exact dec_txt a0
  · rw [k2, List.drop_zero]; exact dec_txt b0
  · have h4 := k3 0 (by omega) (by omega)
    rw [prcV_ok h]
    unfold sumN
    rw [h4]
    unfold price
    omega
  · exact wayA_len h1 a2 b2 128 0 0 (by omega) (by omega) (by omega)
end Go.Proofs.YtmpoihejacklnaaDoor
/- The document's example of chapter 12. No condition. -/
namespace Go.Proofs.YtmpoihejacklnaaDoor
open Go Go.RowKit
def exP : List T3 := [⟨⟨#[114, 110]⟩, ⟨#[109]⟩, 7⟩]
theorem exP_is : isE exP = 0 := by kernel_rfl
theorem exP_e : prcE exP ⟨#[97, 114, 110]⟩ ⟨#[97, 109]⟩ = 0 := by kernel_rfl
theorem exP_v : prcV exP ⟨#[97, 114, 110]⟩ ⟨#[97, 109]⟩ = 7 := by kernel_rfl
theorem exP_w : wayL exP ⟨#[97, 114, 110]⟩ ⟨#[97, 109]⟩ = [⟨⟨#[97]⟩, ⟨#[97]⟩, 0⟩, ⟨⟨#[114, 110]⟩, ⟨#[109]⟩, 7⟩] := by kernel_rfl
theorem exP_small : Small exP := ⟨by decide, fun b hb => by
  simp only [exP, List.mem_cons, List.not_mem_nil, or_false] at hb
  rw [hb]; decide⟩
set_option maxHeartbeats 1000000 in
set_option maxRecDepth 100000 in
theorem alive12_c (w : World) (hU : U w) : Calls Tryd.prog 10 #[] w (Ret w (.bool true)) := by
  have hs0 : SlA eT3 (w.alloc (.cells #[.string ⟨#[114, 110]⟩, .string ⟨#[109]⟩, .int .i64 7] 49)) (some ⟨w.heap.size, 0, none⟩) exP := SlA.new _ _ _ _ _ (by simp) _ rfl
  have hq : ∀ W, (Op.equalIn 10000 49 (.agg #[.string ⟨#[114, 110]⟩, .string ⟨#[109]⟩, .int .i64 7]) (.agg #[.string ⟨#[114, 110]⟩, .string ⟨#[109]⟩, .int .i64 7])).run Tryd.prog W = .ok true W := fun W => (rul_equal ⟨⟨#[114, 110]⟩, ⟨#[109]⟩, 7⟩ ⟨⟨#[114, 110]⟩, ⟨#[109]⟩, 7⟩ W).trans (by simp)
  go_enter Tryd.func10, Tryd.ntmps10
  go_wp2_with fail
  have hba : Below w.heap.size w (w.alloc (.cells #[.string ⟨#[114, 110]⟩, .string ⟨#[109]⟩, .int .i64 7] 49)) := Bal (Below.refl _ _) _
  generalize (w.alloc (.cells #[.string ⟨#[114, 110]⟩, .string ⟨#[109]⟩, .int .i64 7] 49)) = w1 at hs0 hba ⊢
  refine (pprice_c _ _ exP _ _ w1 (hU.to hba) hs0 exP_small (by decide) (by decide)).mono ?_
  rintro e w2 ⟨rfl, hb2⟩
  rw [exP_v, exP_e]
  go_wp2_with fail
  refine (pparts_c _ _ exP _ _ w2 (hU.to (Bst hba hb2)) (hs0.below hb2) exP_small (by decide) (by decide)).mono ?_
  rintro e w3 ⟨vo, rfl, hO, hb3⟩
  rw [exP_e]
  rw [exP_w] at hO
  obtain ⟨A, c, rfl, _, _, hA⟩ := hO.slv
  obtain ⟨b, o, rfl, hbs, c1, c2, c3⟩ := hA.n3 (fun _ => rfl) (Below.refl _ _) 1 (by decide)
  have hs3 := (hs0.below hb2).below hb3
  obtain ⟨b', o', e', _, d1, d2, d3⟩ := hs3.n3 (fun _ => rfl) (Below.refl _ _) 0 (by decide)
  injection e' with e'
  injection e' with e1 e2
  subst e1 e2
  simp only [exP, List.getElem_cons_zero, List.getElem_cons_succ, List.length_cons, List.length_nil, Nat.zero_mul, Nat.add_zero] at c1 c2 c3 d1 d2 d3 ⊢
  have hb13 := Bst hba (Bst hb2 hb3)
  go_wp2_with fail
  go_region
  all_goals (go_wp2; go_ret; exact ⟨rfl, Below.drew hb13⟩)
end Go.Proofs.YtmpoihejacklnaaDoor
/- errataref12.Sum: what parts are of, and cost. No condition. -/
namespace Go.Proofs.YtmpoihejacklnaaDoor
open Go Go.RowKit
theorem bsum_add (l : List UInt8) (s : ByteArray) : bsum l ++ s = bsum (l ++ s.data.toList) := by
  refine ba_ext' ?_
  unfold bsum
  rw [ByteArray.data_append, Array.toList_append]
theorem sumFB_take {xs : List T3} {k : Nat} (hk : k < xs.length) : sumFB (xs.take (k + 1)) = sumFB (xs.take k) ++ xs[k].f.data.toList := by rw [List.take_succ_eq_append_getElem hk, sumFB_snoc]
theorem sumTB_take {xs : List T3} {k : Nat} (hk : k < xs.length) : sumTB (xs.take (k + 1)) = sumTB (xs.take k) ++ xs[k].t.data.toList := by rw [List.take_succ_eq_append_getElem hk, sumTB_snoc]
theorem sumN_take {xs : List T3} {k : Nat} (hk : k < xs.length) : sumN (xs.take (k + 1)) = sumS (sumN (xs.take k)) xs[k].n := by rw [List.take_succ_eq_append_getElem hk, sumN_snoc]
theorem bsum_size (l : List UInt8) : (bsum l).size = l.length := by show l.toArray.size = _; simp
theorem sumFB_len {xs : List T3} (h : Small xs) : ∀ k, k ≤ xs.length → (sumFB (xs.take k)).length ≤ k * 1048576 ∧ (sumTB (xs.take k)).length ≤ k * 1048576
  | 0, _ => by simp [sumFB, sumTB]
  | k + 1, hk => by
    obtain ⟨h1, h2⟩ := sumFB_len h k (by omega)
    obtain ⟨h3, h4⟩ := h.at k (by omega)
    have e1 : xs[k].f.data.toList.length = xs[k].f.size := by rw [Array.length_toList]; rfl
    have e2 : xs[k].t.data.toList.length = xs[k].t.size := by rw [Array.length_toList]; rfl
    rw [sumFB_take (by omega), sumTB_take (by omega), List.length_append, List.length_append, e1, e2, Nat.add_mul]
    omega
set_option maxRecDepth 100000 in
set_option maxHeartbeats 1000000 in
theorem rsum_c (A : Option Addr) (c : Nat) (xs : List T3) (w : World) (hs : SlA eT3 w A xs) (hm : Small xs) (hn : ∀ x ∈ xs, -9223372036854775808 ≤ x.n ∧ x.n ≤ 9223372036854775807) :
    Calls Tryd.prog 19 #[.slice A xs.length c] w (Ret w (.tuple #[.string (bsum (sumFB xs)), .string (bsum (sumTB xs)), .int .i64 (sumN xs)])) := by
  have HN := Lib.hid hn
  have HM := Lib.hid hm
  have hl := hm.1
  clear hn hm
  go_enter Tryd.func19, Tryd.ntmps19
  go_wp2_with fail
  go_loopw [5, 6, 7, 12] (fun s5 s6 s7 s12 wr => ∃ k : Nat, s12 = .int .i64 k ∧ k ≤ xs.length ∧ s5 = .string (bsum (sumFB (xs.take k))) ∧ s6 = .string (bsum (sumTB (xs.take k))) ∧ s7 = .int .i64 (sumN (xs.take k)) ∧ Below w.heap.size w wr) (fun _ _ _ s12 _ => xs.length - (intOf s12).toNat)
  case atStart => exact ⟨0, rfl, by omega, rfl, rfl, rfl, Bel⟩
  case round =>
    obtain ⟨k, rfl, hk, rfl, rfl, rfl, hb⟩ := hrel
    by_cases hlt : k < xs.length
    · have hlt' : (k : Int) < xs.length := by omega
      obtain ⟨b, o, rfl, _, p1, p2, p3⟩ := hs.n3 (fun _ => rfl) hb k hlt
      have hx := HN.out xs[k] (List.getElem_mem hlt)
      have h1 := sumN_in (xs.take k)
      obtain ⟨y1, y2⟩ := sumFB_len HM.out k hk
      obtain ⟨y3, y4⟩ := HM.out.at k hlt
      rw [← bsum_size] at y1 y2
      have z1 : (bsum (sumFB (xs.take k))).size + xs[k].f.size ≤ 140737488355328 := by omega
      have z2 : (bsum (sumTB (xs.take k))).size + xs[k].t.size ≤ 140737488355328 := by omega
      clear y1 y2 y3 y4
      have F1 := Lib.hid (sumFB_take hlt)
      have F2 := Lib.hid (sumTB_take hlt)
      have F3 := Lib.hid (sumN_take hlt)
      obtain ⟨x, hxx⟩ : ∃ x, xs[k] = x := ⟨_, rfl⟩
      rw [hxx] at p1 p2 p3 hx F1 F2 F3 z1 z2
      clear hxx
      go_wp2
      refine ⟨⟨k + 1, by go_num, by omega, ?_, ?_, ?_, Bal hb _⟩, by simp [intOf]; omega⟩
      · rw [F1.out, bsum_add]
      · rw [F2.out, bsum_add]
      · rw [F3.out]
        unfold sumS
        congr 1
        omega
    · obtain rfl : k = xs.length := by omega
      have hlt' : ¬ (xs.length : Int) < xs.length := by omega
      rw [List.take_length]
      go_wp2
      refine bodyPost_ret (results_tmp3 rfl _ _ _) rfl ?_
      exact ⟨rfl, hb⟩
end Go.Proofs.YtmpoihejacklnaaDoor
/- strings.Builder as it stands in this program, two of them beside each other: copyCheck, WriteString, String. No condition. -/
namespace Go.Proofs.YtmpoihejacklnaaDoor
open Go Go.RowKit Go.Shelf
/-- Where the row lies that a text was appended to. -/
theorem appstr_moved {P : Program} (w : World) (base : Nat) (t u ty e : TypeId) (i : TypeInfo) (ht : P.underlying t = some (.slice e)) (hu : P.underlying u = some .string) (hi : P.info? e = some i) (hz : i.zero = some (.int .u8 0))
    (hsize : i.size = 1) (hby : i.bytes = 1) (v : Value) (n : Nat) (xs : List Value) (hown : w.ownsRow base e 1 v n xs) (s : ByteArray) (hbytes : n + s.size ≤ 140737488355328) {v' : Value} {w' : World}
    (hr : (Builtin.append_ #[t, u] ty #[v, .string s]).run P w = .ok v' w') (hnil : v' = .slice none 0 0 ↔ v = .slice none 0 0 ∧ s.size = 0) : Moved w v v' := by
  have hxl : xs.length = n := by simpa using hown.1
  rcases hown.2 with ⟨rfl, rfl⟩ | ⟨g, cap, cur, rfl, hbg, hg, hnc, hcm, hcs, htake⟩
  · by_cases hm : s.size = 0
    · rw [hnil.2 ⟨rfl, hm⟩]; exact .inl rfl
    · have h2 := run_append_nil_string (P := P) w t u ty e i (.int .u8 0) ht hu hi hz s (by omega) (by omega) (by rw [hby]; omega)
      rw [hr] at h2
      injection h2 with h2 _
      rw [h2]; exact .inr rfl
  · by_cases hroom : n + s.size ≤ cap
    · have h2 := Lib.run_append_room_string (P := P) w t u ty e i ht hu hi hsize g n cap cur hg s hroom (by omega)
      rw [hr] at h2
      injection h2 with h2 _
      rw [h2]; exact .inl rfl
    · have holds : ∀ j u, xs[j]? = some u → w.cell? ((⟨g, 0, none⟩ : Addr).add j) = some u := hown.cells (g := g) rfl
      have h2 := Lib.run_append_grow_string (P := P) w t u ty e i (.int .u8 0) ht hu hi hz ⟨g, 0, none⟩ n cap xs (by rw [hsize]; simpa using hxl) holds s (by omega) (by omega) (by rw [hby]; exact growslice_fits (by omega) (by omega))
      rw [hr] at h2
      injection h2 with h2 _
      rw [h2]; exact .inr rfl
/-- 'append(b, s...)' of a text: where the row lies is told too. -/
theorem wpList_app_str {P : Program} {ops : Array Oper} {rest : List Oper} {w : World} {o : Oper} {a : Act} {Q : Exit → Act → World → Prop} (hgd : o.guard = none) (sl x : Operand) (t u : TypeId)
    (ho : o.op = .call { callee := .builtin .append, args := #[sl, x], argTypes := #[t, u] })
    (base : Nat) (e : TypeId) (i : TypeInfo) (ht : P.underlying t = some (.slice e)) (hu : P.underlying u = some .string) (hi : P.info? e = some i) (hz : i.zero = some (.int .u8 0))
    (hsize : i.size = 1) (hby : i.bytes = 1)
    (v : Value) (n : Nat) (xs : List Value) (hs : a.eval sl = v) (hown : w.ownsRow base e 1 v n xs) (s : ByteArray) (hx : a.eval x = .string s)
    (hbytes : n + s.size ≤ 140737488355328) (hbase : base ≤ w.heap.size)
    (h : ∀ v' w', w'.ownsRow base e 1 v' (n + s.size) (xs ++ Lib.strCells s) → w.grownBy w' v.ownBlock → (v' = .slice none 0 0 ↔ v = .slice none 0 0 ∧ s.size = 0) → Moved w v v' → wpList P ops Q rest (a.put o.dst v') w') : wpList P ops Q (o :: rest) a w := by
  refine wpList_plain hgd fun K hK => ?_
  obtain ⟨v', w', hr, h2, h3, h4⟩ := Lib.run_append_own_string (P := P) w base t u o.type e i ht hu hi hz hsize hby v n xs hown s (by simp only [maxLen]; omega) hbytes hbase
  have hmv := appstr_moved w base t u o.type e i ht hu hi hz hsize hby v n xs hown s hbytes hr h4
  unfold Oper.wp execOp
  simp only [ho, resolve, invoke, builtin, Sem.run_bind, Sem.run_pure, Result.andThen_ok, List.map_toArray, List.map_cons, List.map_nil, hs, hx, hr]
  exact hK _ _ (h v' w' h2 h3 h4 hmv)
theorem info_bld : ∃ i, Tryd.prog.info? 83 = some i ∧ i.size = 2 := by
  have h : (Tryd.prog.info? 83).map (·.size) = some 2 := by kernel_rfl
  obtain ⟨i, h1, h2⟩ := Option.map_eq_some_iff.1 h
  exact ⟨i, h1, h2⟩
theorem lies_bld : liesAt Tryd.prog Tryd.prog.depth 83 (2 / Tryd.prog.cellsOf 83) 0 83 1 = true := by kernel_rfl
theorem info_u8i : ∃ i, Tryd.prog.info? 5 = some i ∧ i.zero = some (.int .u8 0) ∧ i.size = 1 ∧ i.bytes = 1 := by
  have h : (Tryd.prog.info? 5).map (fun i => (i.zero, i.size, i.bytes)) = some (some (.int .u8 0), 1, 1) := by kernel_rfl
  obtain ⟨i, h1, h2⟩ := Option.map_eq_some_iff.1 h
  simp only [Prod.mk.injEq] at h2
  exact ⟨i, h1, h2.1, h2.2.1, h2.2.2⟩
/-- A builder in a block of its own, with its row. -/
structure BdA (B : Nat) (W : World) (b : Nat) (v : Value) (l : List UInt8) : Prop where
  ge : B ≤ b
  hp : W.heap[b]? = some (.cells #[.pointer none, v] 83 (0, 0)) ∨ W.heap[b]? = some (.cells #[.pointer (some ⟨b, 0, none⟩), v] 83 (0, 0))
  own : W.ownsRow B 5 1 v l.length (Lib.byteCells l)
  ne : v.ownBlock ≠ some b
  nil : v = .slice none 0 0 ↔ l = []
theorem BdA.lt {B : Nat} {W : World} {b : Nat} {v : Value} {l : List UInt8} (h : BdA B W b v l) : b < W.heap.size := by
  rcases h.hp with h | h <;> exact (Array.getElem?_eq_some_iff.1 h).1
theorem BdA.new {B : Nat} (W : World) (h : B ≤ W.heap.size) : BdA B (W.alloc (.cells #[.pointer none, .slice none 0 0] 83)) W.heap.size (.slice none 0 0) [] :=
  ⟨h, .inl (World.alloc_heap_new W _), World.ownsRow_nil _ _ _ _, by simp [Value.ownBlock], by simp⟩
theorem BdA.kb {B : Nat} {W W' : World} {b : Nat} {v : Value} {l : List UInt8} {S : List Nat} (h : BdA B W b v l) (hk : Kb W W' S) (hb : b ∉ S) (hv : ∀ g, v.ownBlock = some g → g ∉ S) : BdA B W' b v l := by
  refine ⟨h.ge, ?_, ?_, h.ne, h.nil⟩
  · rw [hk.block b h.lt hb]; exact h.hp
  · obtain ⟨h1, h2⟩ := h.own
    refine ⟨h1, ?_⟩
    rcases h2 with h2 | ⟨g, cap, cur, rfl, h3, h4, h5⟩
    · exact .inl h2
    · exact .inr ⟨g, cap, cur, rfl, h3, (hk.block g (Array.getElem?_eq_some_iff.1 h4).1 (hv g rfl)).trans h4, h5⟩
theorem BdA.below {B : Nat} {W W' : World} {b : Nat} {v : Value} {l : List UInt8} (h : BdA B W b v l) (hk : Below W.heap.size W W') : BdA B W' b v l := h.kb (Kb.below hk) (by simp) (by simp)
theorem BdA.blk {B : Nat} {W : World} {b : Nat} {v : Value} {l : List UInt8} (h : BdA B W b v l) {g : Nat} (hg : v.ownBlock = some g) : B ≤ g ∧ g < W.heap.size := by
  have := World.ownsRow.lt h.own g hg
  omega
set_option maxRecDepth 100000 in
set_option maxHeartbeats 1000000 in
theorem ccheck_c {B : Nat} {b : Nat} {v : Value} {l : List UInt8} (w : World) (h : BdA B w b v l) :
    Calls Tryd.prog 61 #[.pointer (some ⟨b, 0, none⟩)] w fun e w' => e = .returned (.tuple #[]) ∧ w'.heap[b]? = some (.cells #[.pointer (some ⟨b, 0, none⟩), v] 83 (0, 0)) ∧ Kb w w' [b] := by
  obtain ⟨j, hj, hjs⟩ := info_bld
  rcases h.hp with hp | hp
  · have hsh : w.shape? b = some (83, 2) := by simp [World.shape?, hp]
    have hfz : w.frozen? ⟨b, 0, none⟩ = false := by simp [World.frozen?, hp]
    have h0 : w.cell? ⟨b, 0, none⟩ = some (.pointer none) := by rw [Lib.cell_of_heap hp]; rfl
    go_enter Tryd.func61, Tryd.ntmps61
    go_wp2
    rw [Lib.run_to_unsafe w ⟨b, 0, none⟩ Tryd.underlying80 Tryd.underlying158 hj (by rw [hjs]; decide) hsh (Nat.zero_lt_succ 1)]
    simp only [Result.andThen]
    rw [Oper.upon_value]
    go_wp2
    rw [run_callFunc_extern Tryd.func90 (by kernel_rfl) (by kernel_rfl) (by kernel_rfl) (e := Extern.AbiNoEscape.same) (by kernel_rfl)]
    rw [Lib.run_noEscape]
    simp only [Result.andThen]
    rw [Oper.upon_value]
    go_wp2
    rw [Lib.run_from_unsafe w ⟨b, 0, none⟩ Tryd.underlying158 Tryd.underlying80 hj hsh lies_bld]
    simp only [Result.andThen]
    rw [Oper.upon_value]
    go_wp2
    go_end0
    refine ⟨rfl, ?_, Kb.grown (grownBy_cell w b 0 _)⟩
    simp [World.setCell, Array.getElem?_modify, hp]
  · have h0 : w.cell? ⟨b, 0, none⟩ = some (.pointer (some ⟨b, 0, none⟩)) := by rw [Lib.cell_of_heap hp]; rfl
    go_enter Tryd.func61, Tryd.ntmps61
    go_wp2
    rw [Lib.run_neq_ptr_same w _ Tryd.underlying80 hj]
    go_wp2
    go_end0
    exact ⟨rfl, hp, Kb.refl _ _⟩
set_option maxRecDepth 100000 in
set_option maxHeartbeats 1000000 in
theorem writes_c {B : Nat} {b : Nat} {v : Value} {l : List UInt8} (s : ByteArray) (w : World) (h : BdA B w b v l) (hlen : l.length + s.size ≤ 140737488355328) (hBw : B ≤ w.heap.size) :
    Calls Tryd.prog 34 #[.pointer (some ⟨b, 0, none⟩), .string s] w fun e w' => e = .returned (.tuple #[.int .i64 s.size, .nilIface]) ∧
      ∃ v', BdA B w' b v' (l ++ s.data.toList) ∧ Kb w w' (b :: v.ownBlock.toList) ∧ (v'.ownBlock = v.ownBlock ∨ ∃ g, v'.ownBlock = some g ∧ w.heap.size ≤ g) := by
  obtain ⟨i0, hi, hz0, hz1, hz2⟩ := info_u8i
  go_enter Tryd.func34, Tryd.ntmps34
  go_wp2_with fail
  refine (ccheck_c w h).mono ?_
  rintro e w1 ⟨rfl, hbk, hk1⟩
  have hown : w1.ownsRow B 5 1 v l.length (Lib.byteCells l) := by
    obtain ⟨h1, h2⟩ := h.own
    refine ⟨h1, ?_⟩
    rcases h2 with h2 | ⟨g, cap, cur, rfl, h3, h4, h5⟩
    · exact .inl h2
    · exact .inr ⟨g, cap, cur, rfl, h3, (hk1.block g (Array.getElem?_eq_some_iff.1 h4).1 (by simp; intro e; exact h.ne (by rw [← e]; rfl))).trans h4, h5⟩
  have hne := h.ne
  have hsz1 := hk1.size
  have c0 : w1.cell? ⟨b, 0, none⟩ = some (.pointer (some ⟨b, 0, none⟩)) := by rw [Lib.cell_of_heap hbk]; rfl
  have c1 : w1.cell? ⟨b, 1, none⟩ = some v := by rw [Lib.cell_of_heap hbk]; rfl
  go_wp2_with (at_builtin; refine wpList_app_str rfl _ _ 81 9 rfl B 5 i0 Tryd.underlying81 Tryd.underlying9 hi hz0 hz1 hz2 _ _ _ rfl hown s rfl hlen (by omega) ?_)
  intro v' w2 hown' hgrow hnil hmv
  have hlt : b < w1.heap.size := (Array.getElem?_eq_some_iff.1 hbk).1
  have hb2 : w2.heap[b]? = some (.cells #[.pointer (some ⟨b, 0, none⟩), v] 83 (0, 0)) := by
    rw [hgrow.block b hlt (fun e => hne e.symm)]
    exact hbk
  have d1 : w2.cell? ⟨b, 1, none⟩ = some v := by rw [Lib.cell_of_heap hb2]; rfl
  have f1 : w2.frozen? ⟨b, 1, none⟩ = false := Lib.frozen_of_heap hb2 1
  have hcells : Lib.byteCells (l ++ s.data.toList) = Lib.byteCells l ++ Lib.strCells s := by rw [Lib.byteCells_append]; rfl
  have hsl : s.data.toList.length = s.size := by rw [Array.length_toList]; rfl
  have hk2 : Kb w1 w2 v.ownBlock.toList := Kb.row hgrow fun k hk => by simp [hk]
  have hne' : v'.ownBlock ≠ some b := by
    rcases hmv with h1 | h1
    · rw [h1]; exact hne
    · rw [h1]; intro e; injection e with e; omega
  have hmv' : v'.ownBlock = v.ownBlock ∨ ∃ g, v'.ownBlock = some g ∧ w.heap.size ≤ g := by
    rcases hmv with h1 | h1
    · exact .inl h1
    · exact .inr ⟨_, h1, hsz1⟩
  have hnn : v' = .slice none 0 0 ↔ l ++ s.data.toList = [] := by
    have e0 : s.size = 0 ↔ s.data.toList = [] := by rw [← hsl]; exact List.length_eq_zero_iff
    rw [hnil, h.nil, List.append_eq_nil_iff]
    refine and_congr Iff.rfl ?_
    first | exact e0 | exact ByteArray.size_eq_zero_iff.symm.trans e0
  have hfin : BdA B (w2.setCell ⟨b, 1, none⟩ v') b v' (l ++ s.data.toList) := by
    refine ⟨h.ge, .inr ?_, ?_, hne', hnn⟩
    · simp [World.setCell, Array.getElem?_modify, hb2]
    · have h3 : w2.ownsRow B 5 1 v' (l ++ s.data.toList).length (Lib.byteCells (l ++ s.data.toList)) := by
        rw [List.length_append, hsl, hcells]; exact hown'
      obtain ⟨h1, h2⟩ := h3
      refine ⟨h1, ?_⟩
      rcases h2 with h2 | ⟨g, cap, cur, rfl, h3, h4, h5⟩
      · exact .inl h2
      · exact .inr ⟨g, cap, cur, rfl, h3, ((Kb.grown (grownBy_cell w2 b 1 _)).block g (Array.getElem?_eq_some_iff.1 h4).1 (by simp; intro e; exact hne' (by rw [← e]; rfl))).trans h4, h5⟩
  have hkf : Kb w (w2.setCell ⟨b, 1, none⟩ v') (b :: v.ownBlock.toList) := ((hk1.trans hk2).trans (Kb.grown (grownBy_cell w2 b 1 v'))).weak (by simp; intro x hx; exact hx.symm)
  obtain ⟨ao, n', cap, rfl⟩ : ∃ ao n' cap, v' = .slice ao n' cap := by
    rcases hown'.2 with ⟨hv, _⟩ | ⟨g, cap, cur, hv, _⟩
    · exact ⟨_, _, _, hv⟩
    · exact ⟨_, _, _, hv⟩
  clear hown hown' hgrow hnil hmv hk1 hk2 hcells hsl
  go_wp2
  go_ret2
  exact ⟨rfl, _, hfin, hkf, hmv'⟩
theorem kb_freeze (w : World) (g n : Nat) : Kb w (w.freeze ⟨g, 0, none⟩ n) [g] := by
  unfold World.freeze
  split
  · exact Kb.refl _ _
  · exact ⟨rfl, rfl, rfl, by simp, fun k hk hn => by
      simp only [Array.getElem?_modify]
      rw [if_neg (by simpa using fun e : g = k => hn (by simp [e]))]⟩
set_option maxRecDepth 100000 in
set_option maxHeartbeats 2000000 in
theorem bstr_c {B : Nat} {b : Nat} {v : Value} {l : List UInt8} (w : World) (h : BdA B w b v l) :
    Calls Tryd.prog 35 #[.pointer (some ⟨b, 0, none⟩)] w fun e w' => e = .returned (.string (bsum l)) ∧ Kb w w' v.ownBlock.toList := by
  obtain ⟨p, hbk⟩ : ∃ p, w.heap[b]? = some (.cells #[p, v] 83 (0, 0)) := by rcases h.hp with h | h <;> exact ⟨_, h⟩
  by_cases h0 : l = []
  · obtain rfl := h.nil.2 h0
    subst h0
    have hUS := fun W q => Lib.run_unsafeString_none (P := Tryd.prog) W 125 3 9 q
    have c1 : w.drew.cell? ⟨b, 1, none⟩ = some (.slice none 0 0) := by
      have : w.drew.heap[b]? = some (.cells #[p, .slice none 0 0] 83 (0, 0)) := hbk
      rw [Lib.cell_of_heap this]; rfl
    have hSD : (Builtin.unsafeSliceData_ #[81] 125 #[.slice none 0 0]).run Tryd.prog w.drew = .ok (.pointer none) w.drew := rfl
    go_enter Tryd.func35, Tryd.ntmps35
    go_wp2
    go_region
    all_goals (go_wp2; go_ret; exact ⟨rfl, Kb.weak (Kb.below (Below.drew (Below.refl _ w))) (by simp)⟩)
  · have hl0 : l.length ≠ 0 := by simpa using h0
    obtain ⟨g, cap, cur, rfl, hbg, hg, hnc, hcm, hcs, htake⟩ : ∃ g cap cur, v = .slice (some ⟨g, 0, none⟩) l.length cap ∧ B ≤ g ∧ w.heap[g]? = some (.cells cur 5 (0, 0)) ∧ l.length ≤ cap ∧ cap ≤ maxLen ∧ cur.size = cap * 1 ∧ cur.toList.take (l.length * 1) = Lib.byteCells l := by
      rcases h.own.2 with ⟨_, hz⟩ | ⟨g, cap, cur, hv, r⟩
      · exact absurd hz hl0
      · exact ⟨g, cap, cur, hv, r⟩
    have hcells := h.own.cells (g := g) rfl
    have c1 : w.drew.cell? ⟨b, 1, none⟩ = some (.slice (some ⟨g, 0, none⟩) l.length cap) := by
      have : w.drew.heap[b]? = some (.cells #[p, .slice (some ⟨g, 0, none⟩) l.length cap] 83 (0, 0)) := hbk
      rw [Lib.cell_of_heap this]; rfl
    have hSD : (Builtin.unsafeSliceData_ #[81] 125 #[.slice (some ⟨g, 0, none⟩) l.length cap]).run Tryd.prog w.drew = .ok (.pointer (some ⟨g, 0, none⟩)) w.drew := Lib.run_unsafeSliceData_row _ _ _ _ _ _ (by omega)
    have hUS : (Builtin.unsafeString_ #[125, 3] 9 #[.pointer (some ⟨g, 0, none⟩), .int .i64 l.length]).run Tryd.prog w.drew = .ok (.string ⟨l.toArray⟩) (w.drew.freeze ⟨g, 0, none⟩ l.length) := by
      refine Lib.run_unsafeString_row w.drew 125 3 9 5 Tryd.underlying125 (by kernel_rfl) g cur.size (by have hg' : w.drew.heap[g]? = some (.cells cur 5 (0, 0)) := hg; simp [World.shape?, hg']) l h0 (by omega) (by unfold maxLen at hcm; omega) ?_
      intro j x hx
      exact hcells j (.int .u8 x.toNat) (by simp [Lib.byteCells, hx])
    have hfz : Kb w (w.drew.freeze ⟨g, 0, none⟩ l.length) [g] := ((Kb.below (Below.drew (Below.refl _ w))).trans (kb_freeze w.drew g l.length)).weak (by simp)
    clear hcells htake
    go_enter Tryd.func35, Tryd.ntmps35
    go_wp2
    go_region
    all_goals (go_wp2; go_ret; exact ⟨rfl, by simpa [Value.ownBlock] using hfz⟩)
theorem B3.kb {w w' : World} {b : Nat} {x : T3} {S : List Nat} (h : B3 w b x) (hk : Kb w w' S) (hb : b ∉ S) : B3 w' b x := by
  obtain ⟨h1, h2, h3, h4⟩ := h
  exact ⟨Nat.lt_of_lt_of_le h1 hk.size, hk.cell h2 hb, hk.cell h3 hb, hk.cell h4 hb⟩
set_option maxRecDepth 100000 in
set_option maxHeartbeats 2000000 in
theorem psum_c (A : Option Addr) (c : Nat) (xs : List T3) (w : World) (hs : SlA eT3 w A xs) (hm : Small xs) (hn : ∀ x ∈ xs, -9223372036854775808 ≤ x.n ∧ x.n ≤ 9223372036854775807) :
    Calls Tryd.prog 18 #[.slice A xs.length c] w (Ret w (.tuple #[.string (bsum (sumFB xs)), .string (bsum (sumTB xs)), .int .i64 (sumN xs)])) := by
  have HN := Lib.hid hn
  have HM := Lib.hid hm
  have hl := hm.1
  clear hn hm
  go_enter Tryd.func18, Tryd.ntmps18
  go_wp2_with fail
  go_loopw [7, 12] (fun s7 s12 wr => ∃ (k : Nat) (v1 v2 : Value), s12 = .int .i64 k ∧ k ≤ xs.length ∧ s7 = .int .i64 (sumN (xs.take k)) ∧ BdA w.heap.size wr w.heap.size v1 (sumFB (xs.take k)) ∧ BdA w.heap.size wr (w.heap.size + 1) v2 (sumTB (xs.take k)) ∧ v1.ownBlock ≠ some (w.heap.size + 1) ∧ v2.ownBlock ≠ some w.heap.size ∧ ApartV v1 v2 ∧ Below w.heap.size w wr) (fun _ s12 _ => xs.length - (intOf s12).toNat)
  case atStart =>
    refine ⟨0, .slice none 0 0, .slice none 0 0, rfl, by omega, rfl, ?_, ?_, by simp [Value.ownBlock], by simp [Value.ownBlock], ApartV.none _, Bel⟩
    · exact (BdA.new w (Nat.le_refl _)).below (Bal (Below.refl _ _) _)
    · have h := BdA.new (B := w.heap.size) (w.alloc (.cells #[.pointer none, .slice none 0 0] 83)) (by simp)
      rwa [World.size_alloc] at h
  case round =>
    obtain ⟨k, v1, v2, rfl, hk, rfl, h1, h2, hn1, hn2, hap, hb⟩ := hrel
    rename World => wo
    by_cases hlt : k < xs.length
    · have hlt' : (k : Int) < xs.length := by omega
      obtain ⟨b, o, rfl, _, p1, p2, p3⟩ := hs.n3 (fun _ => rfl) hb k hlt
      have hx := HN.out xs[k] (List.getElem_mem hlt)
      have hnn := sumN_in (xs.take k)
      obtain ⟨y1, y2⟩ := sumFB_len HM.out k hk
      obtain ⟨y3, y4⟩ := HM.out.at k hlt
      have z1 : (sumFB (xs.take k)).length + xs[k].f.size ≤ 140737488355328 := by omega
      have z2 : (sumTB (xs.take k)).length + xs[k].t.size ≤ 140737488355328 := by omega
      clear y1 y2 y3 y4
      have F1 := Lib.hid (sumFB_take hlt)
      have F2 := Lib.hid (sumTB_take hlt)
      have F3 := Lib.hid (sumN_take hlt)
      obtain ⟨x, hxx⟩ : ∃ x, xs[k] = x := ⟨_, rfl⟩
      rw [hxx] at p1 p2 p3 hx F1 F2 F3 z1 z2
      clear hxx
      have kB : B3 (wo.alloc (.cells #[.string x.f, .string x.t, .int .i64 x.n] 49)) wo.heap.size x := B3.new wo x 49
      have hszo := hb.size
      have hba : Below wo.heap.size wo (wo.alloc (.cells #[.string x.f, .string x.t, .int .i64 x.n] 49)) := Bal (Below.refl _ _) _
      go_wp2_with fail
      have h1a := h1.below hba
      have h2a := h2.below hba
      refine (writes_c x.f _ h1a z1 (by have := hba.size; omega)).mono ?_
      rintro e w4 ⟨rfl, v1', h1b, hk4, hm4⟩
      have hx1 : wo.heap.size ∉ w.heap.size :: v1.ownBlock.toList := by
        intro h
        rcases List.mem_cons.1 h with h | h
        · have := h1.lt; omega
        · have := (h1.blk (by simpa using h)).2; omega
      have kB4 : B3 w4 wo.heap.size x := kB.kb hk4 hx1
      have h2b : BdA w.heap.size w4 (w.heap.size + 1) v2 (sumTB (xs.take k)) := h2a.kb hk4 (by simp; exact fun h => hn1 h) (fun g hg hx => by
        rcases List.mem_cons.1 hx with hx | hx
        · exact hn2 (by rw [hg, hx])
        · exact hap g (by simpa using hx) hg)
      have hsz4 := hk4.size
      have hap' : ApartV v1' v2 := fun g hg hg2 => by
        rcases hm4 with hm4 | ⟨g', hm4, hge⟩
        · exact hap g (by rw [← hm4]; exact hg) hg2
        · rw [hm4] at hg; injection hg with hg; have := (h2a.blk hg2).2; omega
      have hn1' : v1'.ownBlock ≠ some (w.heap.size + 1) := by
        rcases hm4 with hm4 | ⟨g', hm4, hge⟩
        · rw [hm4]; exact hn1
        · rw [hm4]; intro e; injection e with e; have := h2a.lt; omega
      obtain ⟨_, e0, e1, e2⟩ := kB4
      have kB4 := kB.kb hk4 hx1
      go_wp2_with fail
      refine (writes_c x.t _ h2b z2 (by have := hba.size; omega)).mono ?_
      rintro e w5 ⟨rfl, v2', h2c, hk5, hm5⟩
      have hx2 : wo.heap.size ∉ (w.heap.size + 1) :: v2.ownBlock.toList := by
        intro h
        rcases List.mem_cons.1 h with h | h
        · have := h2.lt; omega
        · have := (h2.blk (by simpa using h)).2; omega
      have h1c : BdA w.heap.size w5 w.heap.size v1' (sumFB (xs.take k) ++ x.f.data.toList) := h1b.kb hk5 (by simp; exact fun h => hn2 h) (fun g hg hx => by
        rcases List.mem_cons.1 hx with hx | hx
        · exact hn1' (by rw [hg, hx])
        · exact hap' g hg (by simpa using hx))
      have hap2 : ApartV v1' v2' := fun g hg hg2 => by
        rcases hm5 with hm5 | ⟨g', hm5, hge⟩
        · exact hap' g hg (by rw [← hm5]; exact hg2)
        · rw [hm5] at hg2; injection hg2 with hg2; have := (h1b.blk hg).2; omega
      have hn2' : v2'.ownBlock ≠ some w.heap.size := by
        rcases hm5 with hm5 | ⟨g', hm5, hge⟩
        · rw [hm5]; exact hn2
        · rw [hm5]; intro e; injection e with e; have := h1b.lt; omega
      have hbf : Below w.heap.size w w5 := hk5.to (fun g hg => by
        rcases List.mem_cons.1 hg with rfl | hg
        · omega
        · exact (h2.blk (by simpa using hg)).1) (hk4.to (fun g hg => by
        rcases List.mem_cons.1 hg with rfl | hg
        · omega
        · exact (h1.blk (by simpa using hg)).1) (hb.trans (hba.mono hszo)) (Nat.le_refl _)) (Nat.le_refl _)
      obtain ⟨_, e0, e1, e2⟩ := kB4.kb hk5 hx2
      clear h1 h2 h1a h2a h1b h2b kB kB4 hk4 hk5 hap hap' hn1 hn2 hx1 hx2 hba p1 p2 p3 hm4 hm5
      go_wp2
      refine ⟨⟨k + 1, v1', v2', by go_num, by omega, ?_, ?_, ?_, hn1', hn2', hap2, hbf⟩, by simp [intOf]; omega⟩
      · rw [F3.out]
        unfold sumS
        first | (congr 1; done) | (congr 1; omega)
      · rw [F1.out]; exact h1c
      · rw [F2.out]; exact h2c
    · obtain rfl : k = xs.length := by omega
      have hlt' : ¬ (xs.length : Int) < xs.length := by omega
      rw [List.take_length] at h1 h2 ⊢
      go_wp2_with fail
      refine (bstr_c _ h1).mono ?_
      rintro e w4 ⟨rfl, hk4⟩
      have h2b := h2.kb hk4 (by simpa using hn1) (fun g hg hx => hap g (by simpa using hx) hg)
      go_wp2_with fail
      refine (bstr_c _ h2b).mono ?_
      rintro e w5 ⟨rfl, hk5⟩
      go_wp2
      refine bodyPost_ret (results_tmp3 rfl _ _ _) rfl ?_
      refine ⟨rfl, ?_⟩
      exact hk5.to (fun g hg => (h2.blk (by simpa using hg)).1) (hk4.to (fun g hg => (h1.blk (by simpa using hg)).1) hb (Nat.le_refl _)) (Nat.le_refl _)
end Go.Proofs.YtmpoihejacklnaaDoor
/- align.Distance: how far two tokens are apart. No condition. -/
namespace Go.Proofs.YtmpoihejacklnaaDoor
open Go Go.RowKit
noncomputable def disV (t v : ByteArray) : Nat := if pairE ⟨t, v⟩ = 0 then dd (rnS t) (rnS v) (rnS t).length (rnS v).length else 0
set_option maxHeartbeats 1000000 in
set_option maxRecDepth 100000 in
theorem dist_c (t v : ByteArray) (w : World) (hU : U w) (hz : t.size ≤ 17592186044416) (hz2 : v.size ≤ 17592186044416) :
    Calls Tryd.prog 21 #[.string t, .string v] w (Ret w (.tuple #[.int .i64 (disV t v), .int .i64 (pairE ⟨t, v⟩)])) := by
  have C := fill_c ⟨t, v⟩ w hU hz hz2
  by_cases h0 : pairE ⟨t, v⟩ = 0
  · have H0 := Lib.hid h0
    have hd : Hid (disV t v = dd (rnS t) (rnS v) (rnS t).length (rnS v).length) := by show _ = _; unfold disV; rw [if_pos h0]
    clear h0
    go_enter Tryd.func21, Tryd.ntmps21
    go_wp2_with fail
    refine C.mono ?_
    rintro e w2 ⟨hb2, h2, _⟩
    obtain ⟨G, a, b, da, db, _, a2, _, b2, rfl, hG⟩ := h2 H0.out
    obtain ⟨A, ca, B, cb, gf, gk, N, _, _, c2, _, hN, _, _, hf, _⟩ := hG.c
    have hv := hf a.length b.length (Nat.le_refl _) (Nat.le_refl _)
    have hle := dd_le a b _ a.length b.length (Nat.le_refl _)
    have ea : rnS t = a := by have h : decS t = some a := da; unfold rnS; rw [h]; rfl
    have eb : rnS v = b := by have h : decS v = some b := db; unfold rnS; rw [h]; rfl
    rw [ea, eb] at hd
    have HD := hd
    obtain ⟨d, hde⟩ : ∃ d, dd a b a.length b.length = d := ⟨_, rfl⟩
    rw [hde] at hv hle HD
    obtain ⟨P, hP⟩ : ∃ P, a.length * (b.length + 1) + b.length = P := ⟨_, rfl⟩
    have hNP : N = P + 1 := by rw [hN, ← hP, Nat.add_mul]; omega
    have hPl : P ≤ 64 * 65 + 64 := by rw [← hP]; have := Nat.mul_le_mul a2 (show b.length + 1 ≤ 65 by omega); omega
    rw [hP] at hv
    rw [hNP] at c2
    clear hf hN hNP hP hde ea eb da db h2 hG hd C
    have w1 : IntKind.i64.wrap ((P : Int) + 1 - 1) = (P : Int) := by rw [IntWalk.i64_in _ (by omega)]; omega
    have w2' : IntKind.i64.wrap (P : Int) = (P : Int) := IntWalk.i64_in _ (by omega)
    have w3 : IntKind.i64.wrap (d : Int) = (d : Int) := IntWalk.i64_in _ (by omega)
    have l1 : (P : Int) < (P : Int) + 1 := by omega
    have l0 : (0 : Int) ≤ P := by omega
    go_wp2_with fail
    go_region
    all_goals
      go_wp2
      go_ret2
      rw [H0.out, HD.out]
      exact ⟨rfl, Below.drew hb2⟩
  · have hd : Hid (disV t v = 0) := by show _ = _; unfold disV; rw [if_neg h0]
    obtain ⟨z, hz3⟩ : ∃ z, pairE ⟨t, v⟩ = z := ⟨_, rfl⟩
    have hz0 : z ≠ 0 := hz3 ▸ h0
    have HZ := Lib.hid hz3
    clear h0 hz3
    go_enter Tryd.func21, Tryd.ntmps21
    go_wp2_with fail
    refine C.mono ?_
    rintro e w2 ⟨hb2, _, h2⟩
    obtain rfl := h2 (by rw [HZ.out]; exact hz0)
    rw [HZ.out]
    clear h2
    go_wp2
    go_ret2
    rw [HZ.out, hd.out]
    exact ⟨rfl, hb2⟩
end Go.Proofs.YtmpoihejacklnaaDoor
/- Structs of five one-celled fields, and of one that is a struct itself, as arguments. No condition. -/
namespace Go.Proofs.YtmpoihejacklnaaDoor
open Go Go.ChangeShapes Go.WideShapes Go.ChangeAt Go.RowKit Go.Deep Go.Lib Go.ChangeMaps Go.Joins
section
variable {H : Type} {enc : TypeId × Value → H}
theorem array5 {α : Type} {cs : Array α} (h : cs.size = 5) : ∃ c0 c1 c2 c3 c4, cs = #[c0, c1, c2, c3, c4] := by
  obtain ⟨l⟩ := cs
  match l, h with
  | [c0, c1, c2, c3, c4], _ => exact ⟨c0, c1, c2, c3, c4, rfl⟩
theorem array6 {α : Type} {cs : Array α} (h : cs.size = 6) : ∃ c0 c1 c2 c3 c4 c5, cs = #[c0, c1, c2, c3, c4, c5] := by
  obtain ⟨l⟩ := cs
  match l, h with
  | [c0, c1, c2, c3, c4, c5], _ => exact ⟨c0, c1, c2, c3, c4, c5, rfl⟩
theorem trod_struct5 {P : Program} {w : World} {base : Nat} {spare : Nat → Bool} {held : Bool} {t : TypeId} {f0 f1 f2 f3 f4 : Field} {fuel : Nat} {cs : List Value} {x : DataW H × List MemPlace} (ht : P.underlying t = some (.struct #[f0, f1, f2, f3, f4])) (h : DataW.trod enc P w base spare held fuel t cs = some x) :
    ∃ y0 y1 y2 y3 y4 n, x = (.agg [y0.1, y1.1, y2.1, y3.1, y4.1], y0.2 ++ (y1.2 ++ (y2.2 ++ (y3.2 ++ y4.2)))) ∧ cs.length = P.cellsOf t ∧ DataW.trod enc P w base spare held n f0.type ((cs.drop f0.offset).take (P.cellsOf f0.type)) = some y0 ∧
      DataW.trod enc P w base spare held n f1.type ((cs.drop f1.offset).take (P.cellsOf f1.type)) = some y1 ∧ DataW.trod enc P w base spare held n f2.type ((cs.drop f2.offset).take (P.cellsOf f2.type)) = some y2 ∧
      DataW.trod enc P w base spare held n f3.type ((cs.drop f3.offset).take (P.cellsOf f3.type)) = some y3 ∧ DataW.trod enc P w base spare held n f4.type ((cs.drop f4.offset).take (P.cellsOf f4.type)) = some y4 := by
  obtain ⟨xs, n, _, rfl, hl, hlen, hf⟩ := DataW.trod_struct ht h
  match xs, hlen with
  | [y0, y1, y2, y3, y4], _ => exact ⟨y0, y1, y2, y3, y4, n, by simp, hl, by simpa using hf 0 f0 rfl, by simpa using hf 1 f1 rfl, by simpa using hf 2 f2 rfl, by simpa using hf 3 f3 rfl, by simpa using hf 4 f4 rfl⟩
theorem open_agg5 {P : Program} {w : World} {base : Nat} {spare : Nat → Bool} {held : Bool} {r : Reach} {b0 : Nat} {t : TypeId} {f0 f1 f2 f3 f4 : Field} {v : Value} {d : DataW H} {p : List MemPlace} (hs : P.underlying t = some (.struct #[f0, f1, f2, f3, f4])) (hone : oneCellFields P #[f0, f1, f2, f3, f4] = true) (hC : P.cellsOf t = 5)
    (hv : Value.okWide P w r b0 t v) (h : DataW.Trod enc P w base spare held t v d p) :
    ∃ (v0 v1 v2 v3 v4 : Value) (y0 y1 y2 y3 y4 : DataW H × List MemPlace) (n : Nat), v = .agg #[v0, v1, v2, v3, v4] ∧ d = .agg [y0.1, y1.1, y2.1, y3.1, y4.1] ∧ p = y0.2 ++ (y1.2 ++ (y2.2 ++ (y3.2 ++ y4.2))) ∧
      DataW.trod enc P w base spare held n f0.type [v0] = some y0 ∧ DataW.trod enc P w base spare held n f1.type [v1] = some y1 ∧ DataW.trod enc P w base spare held n f2.type [v2] = some y2 ∧ DataW.trod enc P w base spare held n f3.type [v3] = some y3 ∧ DataW.trod enc P w base spare held n f4.type [v4] = some y4 := by
  obtain ⟨cs, rfl, hsz⟩ := okWide_struct hs hv
  obtain ⟨c0, c1, c2, c3, c4, rfl⟩ := array5 (hsz.trans hC)
  obtain ⟨fuel, hf⟩ := h
  obtain ⟨y0, y1, y2, y3, y4, n, hx, _, h0, h1, h2, h3, h4⟩ := trod_struct5 hs hf
  obtain ⟨o0, k0⟩ := hone_of hone 0 f0 rfl
  obtain ⟨o1, k1⟩ := hone_of hone 1 f1 rfl
  obtain ⟨o2, k2⟩ := hone_of hone 2 f2 rfl
  obtain ⟨o3, k3⟩ := hone_of hone 3 f3 rfl
  obtain ⟨o4, k4⟩ := hone_of hone 4 f4 rfl
  simp only [Prod.mk.injEq] at hx
  exact ⟨c0, c1, c2, c3, c4, y0, y1, y2, y3, y4, n, rfl, hx.1, hx.2, by simpa [Value.cells, o0, k0] using h0, by simpa [Value.cells, o1, k1] using h1, by simpa [Value.cells, o2, k2] using h2, by simpa [Value.cells, o3, k3] using h3, by simpa [Value.cells, o4, k4] using h4⟩
/-- A slice, a struct of three cells, two more cells. -/
theorem open_more {P : Program} {w : World} {base : Nat} {spare : Nat → Bool} {held : Bool} {r : Reach} {b0 : Nat} {t : TypeId} {f0 f1 f2 f3 : Field} {v : Value} {d : DataW H} {p : List MemPlace} (hs : P.underlying t = some (.struct #[f0, f1, f2, f3]))
    (hf : (f0.offset == 0 && f1.offset == 1 && f2.offset == 4 && f3.offset == 5) = true) (hC : P.cellsOf t = 6) (k0 : P.cellsOf f0.type = 1) (k1 : P.cellsOf f1.type = 3) (k2 : P.cellsOf f2.type = 1) (k3 : P.cellsOf f3.type = 1)
    (hv : Value.okWide P w r b0 t v) (h : DataW.Trod enc P w base spare held t v d p) :
    ∃ (v0 v1 v2 v3 v4 v5 : Value) (y0 y1 y2 y3 : DataW H × List MemPlace) (n : Nat), v = .agg #[v0, v1, v2, v3, v4, v5] ∧ d = .agg [y0.1, y1.1, y2.1, y3.1] ∧ p = y0.2 ++ (y1.2 ++ (y2.2 ++ y3.2)) ∧
      DataW.trod enc P w base spare held n f0.type [v0] = some y0 ∧ DataW.trod enc P w base spare held n f1.type [v1, v2, v3] = some y1 ∧ DataW.trod enc P w base spare held n f2.type [v4] = some y2 ∧ DataW.trod enc P w base spare held n f3.type [v5] = some y3 := by
  simp only [Bool.and_eq_true, beq_iff_eq] at hf
  obtain ⟨⟨⟨o0, o1⟩, o2⟩, o3⟩ := hf
  obtain ⟨cs, rfl, hsz⟩ := okWide_struct hs hv
  obtain ⟨c0, c1, c2, c3, c4, c5, rfl⟩ := array6 (hsz.trans hC)
  obtain ⟨fuel, hf⟩ := h
  obtain ⟨y0, y1, y2, y3, n, hx, _, h0, h1, h2, h3⟩ := trod_struct4 hs hf
  simp only [Prod.mk.injEq] at hx
  exact ⟨c0, c1, c2, c3, c4, c5, y0, y1, y2, y3, n, rfl, hx.1, hx.2, by simpa [Value.cells, o0, k0] using h0, by simpa [Value.cells, o1, k1] using h1, by simpa [Value.cells, o2, k2] using h2, by simpa [Value.cells, o3, k3] using h3⟩
/-- A struct of three cells inside another one. -/
theorem trod_r3 {P : Program} {W : World} {base : Nat} {sp : Nat → Bool} {held : Bool} {n : Nat} {t s i : TypeId} {f0 f1 f2 : Field} (ht : P.underlying t = some (.struct #[f0, f1, f2])) (hs : P.underlying s = some .string) (hi : P.underlying i = some (.int .i64))
    (hf : (f0.type == s && f1.type == s && f2.type == i && f0.offset == 0 && f1.offset == 1 && f2.offset == 2) = true) (hcs : P.cellsOf s = 1) (hci : P.cellsOf i = 1)
    {v0 v1 v2 : Value} {y : DataW H × List MemPlace} (h : DataW.trod enc P W base sp held n t [v0, v1, v2] = some y) :
    ∃ x : T3, v0 = .string x.f ∧ v1 = .string x.t ∧ v2 = .int .i64 x.n ∧ y.1 = t3D x ∧ (Lit.int .i64 x.n).wf = true := by
  simp only [Bool.and_eq_true, beq_iff_eq] at hf
  obtain ⟨⟨⟨⟨⟨e0, e1⟩, e2⟩, o0⟩, o1⟩, o2⟩ := hf
  obtain ⟨y0, y1, y2, k, hxy, _, u0, u1, u2⟩ := trod_struct3 ht h
  simp only [e0, e1, e2, o0, o1, o2, hcs, hci, List.drop, List.take] at u0 u1 u2
  obtain ⟨s0, g0, d0, _⟩ := DataW.trod_string hs u0
  obtain ⟨s1, g1, d1, _⟩ := DataW.trod_string hs u1
  obtain ⟨p, g2, d2, hw⟩ := DataW.trod_int hi u2
  simp only [List.cons.injEq, and_true] at g0 g1 g2
  subst hxy
  exact ⟨⟨s0, s1, p⟩, g0, g1, g2, by simp only [d0, d1, d2]; rfl, hw⟩
end
end Go.Proofs.YtmpoihejacklnaaDoor
