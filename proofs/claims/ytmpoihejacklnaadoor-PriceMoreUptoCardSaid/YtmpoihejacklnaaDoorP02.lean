/- Parts of these proofs, one behind the other: Par, Aln, Grd, Tree, TreS. No condition. -/
import Derived.Test.YtmpoihejacklnaaDoorP01
import Derived.Test.YtmpoihejacklnaaDoorK815
import Derived.Test.YtmpoihejacklnaaDoorK810
import Derived.Test.YtmpoihejacklnaaDoorK806
import Derived.Test.YtmpoihejacklnaaDoorK813
/- price's parts at a place, as an iterator. No condition. -/
namespace Go.Proofs.YtmpoihejacklnaaDoor
open Go Go.RowKit Go.Shelf
attribute [local go_sem] Oper.semAt_some
/-- What the iterator reads. -/
structure PartR (B : Nat → Prop) (W : World) (ib gb jb G : Nat) (xs : List T3) (T V : List Int) (i j : Nat) : Prop where
  grid : GridR B W G xs T V
  ci : Boxed W ib 3 (.int .i64 i)
  cg : Boxed W gb 58 (.pointer (some ⟨G, 0, none⟩))
  cj : Boxed W jb 3 (.int .i64 j)
  bi : B ib
  bg : B gb
  bj : B jb
theorem PartR.kw {B : Nat → Prop} {W W' : World} {ib gb jb G : Nat} {xs : List T3} {T V : List Int} {i j : Nat} (h : PartR B W ib gb jb G xs T V i j) (hk : KwB B W W') : PartR B W' ib gb jb G xs T V i j :=
  ⟨h.grid.kw hk, (hk.2 _ h.bi h.ci.lt).trans h.ci, (hk.2 _ h.bg h.cg.lt).trans h.cg, (hk.2 _ h.bj h.cj.lt).trans h.cj, h.bi, h.bg, h.bj⟩
theorem take_filter_snoc {l : List Nat} {p : Nat → Bool} {m k : Nat} (h : l[m]? = some k) : (l.take (m + 1)).filter p = (l.take m).filter p ++ if p k = true then [k] else [] := by
  rw [List.take_add_one, h, List.filter_append]
  by_cases hp : p k = true
  · simp [hp]
  · simp [hp]
def stV (xs : List T3) (V : List Int) (j : Nat) (k : Nat) : Bool := decide (Stands (ruAt (rus xs) k).t V j)
theorem hitsK_lt {xs : List T3} {T : List Int} {i k : Nat} (h : k ∈ hitsK xs T i) : k < xs.length := List.mem_range.1 (List.mem_filter.1 h).1
theorem hitsK_len (xs : List T3) (T : List Int) (i : Nat) : (hitsK xs T i).length ≤ xs.length := by
  unfold hitsK
  exact Nat.le_trans (List.length_filter_le _ _) (by simp)
theorem hitsI_len (xs : List T3) (T : List Int) (i : Nat) : (hitsI xs T i).length = (hitsK xs T i).length := by unfold hitsI; simp
theorem app_pre {α : Type} (A B C D E F : List α) (x : α) : ∃ rest, (((A ++ (B ++ x :: C)) ++ D) ++ E) ++ F = (A ++ B) ++ x :: rest := ⟨C ++ D ++ E ++ F, by simp⟩
theorem parts_pre {xs : List T3} {T V : List Int} {i j m k : Nat} {L0 : List Pt} (hL : (if i < T.length ∧ j < V.length ∧ nth T i = nth V j then [(⟨1, 1, 0, -1⟩ : Pt)] else []) = L0) (hk : (hitsK xs T i)[m]? = some k) (hs : stV xs V j k = true) :
    ∃ rest, partsP (rus xs) T V i j = (L0 ++ (((hitsK xs T i).take m).filter (stV xs V j)).map (ptOf (rus xs))) ++ ptOf (rus xs) k :: rest := by
  obtain ⟨hlt, hke⟩ := List.getElem?_eq_some_iff.1 hk
  have h1 : (hitsK xs T i).filter (stV xs V j) = ((hitsK xs T i).take m).filter (stV xs V j) ++ k :: ((hitsK xs T i).drop (m + 1)).filter (stV xs V j) := by
    conv => lhs; rw [← List.take_append_drop m (hitsK xs T i)]
    rw [List.filter_append, List.drop_eq_getElem_cons hlt, hke, List.filter_cons, if_pos hs]
  have h2 : rulesP (rus xs) T V i j = (hitsK xs T i).filter (stV xs V j) := by rw [rulesP_hits]; rfl
  unfold partsP
  rw [hL, h2, h1, List.map_append, List.map_cons]
  exact app_pre _ _ _ _ _ _ _
theorem hitsI_nth {xs : List T3} {T : List Int} {i m k : Nat} (h : (hitsK xs T i)[m]? = some k) : nth (hitsI xs T i) m = k := by
  unfold nth hitsI
  rw [List.getElem?_map, h]; rfl
set_option maxRecDepth 100000 in
set_option maxHeartbeats 4000000 in
theorem parts1_ttt (n : Nat) (hn : 1 ≤ n) (lp ib gb jb G : Nat) (B : Nat → Prop) (xs : List T3) (T V : List Int) (i j : Nat) (hI : isE xs = 0) (hV : V.length ≤ 64) (_ : T.length ≤ 64) (hi : i < T.length) (hj : j < V.length) (hst : nth T i = nth V j) (J Jx : List Pt → World → Prop) (W : World)
    (hJ : ∀ s A C, J s A → Own1 jb A C → J s C)
    (hY : ∀ pre x W1, J pre W1 → (∃ rest, partsP (rus xs) T V i j = pre ++ x :: rest) → YieldAt Fence.wide (n - 1) Tryd.prog lp #[vPt x] W1 fun e W' => (e = .returned (.bool true) ∧ J (pre ++ [x]) W' ∧ KwB B W1 W') ∨ (e = .returned (.bool false) ∧ Jx (pre ++ [x]) W'))
    (hP : PartR B W ib gb jb G xs T V i j) (h0 : J [] W) :
    CallsIn Fence.wide n Tryd.prog 56 #[.func (.yield lp) #[] #[], .pointer (some ⟨ib, 0, none⟩), .pointer (some ⟨gb, 0, none⟩), .pointer (some ⟨jb, 0, none⟩)] W fun e W' => (∃ v, e = .returned v) ∧
      ((∃ ys, ys = partsP (rus xs) T V i j ∧ J ys W') ∨ (∃ pre, True ∧ Jx pre W')) := by
  have HY := Lib.hid hY
  have HJ := Lib.hid hJ
  clear hY hJ
  have hij : i ≤ T.length ∧ j ≤ V.length := by omega
  have hxl := (isE_ok hI).1
  have HI := Lib.hid hI
  clear hI
  have HIJ := Lib.hid hij
  clear hij
  have hi' : (i : Int) < T.length := by omega
  have hj' : (j : Int) < V.length := by omega
  obtain ⟨x, hx⟩ : ∃ x, nth T i = x := ⟨_, rfl⟩
  obtain ⟨z, hz⟩ : ∃ z, nth V j = z := ⟨_, rfl⟩
  rw [hx, hz] at hst
  subst hst
  have hxz : (x == x) = true := by simp
  have HX := Lib.hid hx
  have HZ := Lib.hid hz
  clear hx hz
  have HM : Hid (∀ p, p ∈ partsP (rus xs) T V i j ↔ _) := fun p => parts_mem
  refine callsIn_of_wp Tryd.func56 rfl trivial ?_ rfl
  simp only [Tryd.ntmps56, List.size_toArray, List.length_cons, List.length_nil, Nat.reduceAdd, Nat.reduceSub, Array.replicate_succ, Array.replicate_zero, List.push_toArray, List.append_toArray, List.nil_append, List.cons_append]
  have c1 := hP.ci.cell
  have c2 := hP.cg.cell
  have c3 := hP.cj.cell
  obtain ⟨A3, d3, k3, a3, b3, l3⟩ := hP.grid.t
  obtain ⟨A4, d4, k4, a4, b4, l4⟩ := hP.grid.w
  clear a3 b3 a4 b4
  obtain ⟨g3, o3, rfl, m3, n3⟩ := l3.cell i hi
  obtain ⟨g4, o4, rfl, m4, n4⟩ := l4.cell j hj
  rw [HX.out] at n3
  rw [HZ.out] at n4
  clear m3 m4
  clear l3 l4
  gi_wp2_with fail
  refine region_tailI 15 (by kernel_rfl) (by kernel_rfl) (fun W1 => ∃ q, W1 = World.drewN W q) ⟨1, rfl⟩ ?_
  simp only [List.take_succ_cons, List.take_zero, List.drop_succ_cons, List.drop_zero]
  repeat (with_reducible refine wpQuiet_step (fun K hK => ?_); go_simp; first | (refine hK _ ?_; clear hK K) | (apply Exists.intro; refine ⟨fun _ => ?_, hK _ ?_⟩; (fail); clear hK K))
  refine wpQuiet_nil ?_
  rintro _ ⟨nq, rfl⟩
  gi_wp2_with fail
  refine region_tailI 21 (by kernel_rfl) (by kernel_rfl) (fun W1 => ∃ q, W1 = World.drewN W q) ⟨nq + 1, rfl⟩ ?_
  simp only [List.take_succ_cons, List.take_zero, List.drop_succ_cons, List.drop_zero]
  repeat (with_reducible refine wpQuiet_step (fun K hK => ?_); go_simp; first | (refine hK _ ?_; clear hK K) | (apply Exists.intro; refine ⟨fun _ => ?_, hK _ ?_⟩; (fail); clear hK K))
  refine wpQuiet_nil ?_
  intro W1 hw'
  obtain ⟨nq1, hw1⟩ := hw'
  have hb1 : Below W.heap.size W W1 := by rw [hw1]; exact Bdn (Below.refl _ _) _
  clear hw1
  have hP1 := hP.kw (KwB.below hb1)
  have hJ1 := HJ.out _ _ _ h0 (own1_below hP.cj hb1)
  clear c1 c2 c3 k3 k4 hb1 n3 n4
  obtain ⟨fn, tmps, assign, body, hy, hR⟩ := HY.out [] ⟨1, 1, 0, -1⟩ W1 hJ1 ⟨_, by unfold partsP; rw [if_pos ⟨hi, hj, by rw [HX.out, HZ.out]⟩] <;> (simp only [List.append_assoc, List.cons_append, List.nil_append]; exact rfl)⟩
  rw [show vPt ⟨1, 1, 0, -1⟩ = .agg #[.int .i64 1, .int .i64 1, .int .i64 0, .int .i64 (-1)] from rfl] at hy
  gi_wp2_with (with_reducible refine ⟨fun _ h => (by cases h), ?_⟩)
  refine hR.mono ?_
  rintro e W2 (⟨rfl, hJ2, hk2⟩ | ⟨rfl, hX2⟩)
  rotate_left
  · gi_wp2_with (with_reducible refine ⟨fun _ h => (by cases h), ?_⟩)
    refine bodyPost_ret (results_none rfl _ _ _) rfl ?_
    exact ⟨⟨_, rfl⟩, .inr ⟨_, trivial, hX2⟩⟩
  clear hy hR
  have hP2 := hP1.kw hk2
  simp only [List.nil_append] at hJ2
  clear hP1 hJ1
  have c1 := hP2.ci.cell
  have c2 := hP2.cg.cell
  obtain ⟨A5, d5, k5, l5⟩ := hP2.grid.hits
  obtain ⟨g5, o5, Ak, ck, rfl, m5, n5, p5, q5, r5⟩ := l5 i _ (hitR_at HIJ.out.1)
  rw [hitsI_len] at n5 p5
  have hil : (i : Int) < (T.length : Int) + 1 := by have := HIJ.out.1; omega
  have hkl := hitsK_len xs T i
  obtain ⟨K, hK⟩ : ∃ K, (hitsK xs T i).length = K := ⟨_, rfl⟩
  rw [hK] at n5 p5 hkl
  have HK := Lib.hid hK
  clear hK l5
  gi_wp2_with (with_reducible refine ⟨fun _ h => (by cases h), ?_⟩)
  gi_region
  have hb3 : Below W2.heap.size W2 W2.drew := Below.drew (Below.refl _ _)
  generalize W2.drew = W3 at hb3 ⊢
  have hP3 := hP2.kw (KwB.below hb3)
  have hJ3 := HJ.out _ _ _ hJ2 (own1_below hP2.cj hb3)
  have r3 := r5.kw (KwB.below hb3)
  clear c1 c2 k5 n5 hb3 r5 m5 hP2 hJ2
  gi_wp2_with (with_reducible refine ⟨fun _ h => (by cases h), ?_⟩)
  gi_loopw [60] (fun sm wr => ∃ m : Nat, sm = .int .i64 m ∧ m ≤ K ∧ J ([⟨1, 1, 0, -1⟩] ++ (((hitsK xs T i).take m).filter (stV xs V j)).map (ptOf (rus xs))) wr ∧ PartR B wr ib gb jb G xs T V i j ∧ SlB B (eInt .i64) wr Ak (hitsI xs T i)) (fun sm _ => K - (intOf sm).toNat)
  case atStart => exact ⟨0, rfl, by omega, by simpa using hJ3, hP3, r3⟩
  case round =>
    obtain ⟨m, rfl, hm, hJm, hPm, hrm⟩ := hrel
    obtain ⟨wp, rfl⟩ : ∃ wp, wp = wr := ⟨_, rfl⟩
    by_cases hlt : m < K
    · have hlt' : (m : Int) < K := by omega
      have hml : m < (hitsK xs T i).length := by rw [HK.out]; exact hlt
      obtain ⟨k, hk⟩ : ∃ k, (hitsK xs T i)[m]? = some k := ⟨_, List.getElem?_eq_getElem hml⟩
      have hkm := List.mem_of_getElem? hk
      have hkx := hitsK_lt hkm
      have hks : Stands (ruAt (rus xs) k).f T i := by
        have := (List.mem_filter.1 hkm).2
        simpa using this
      obtain ⟨gk, ok, rfl, mk, nk⟩ := hrm.cell m (by rw [hitsI_len]; exact hml)
      rw [hitsI_nth hk] at nk
      have HTF := Lib.hid (take_filter_snoc (p := stV xs V j) hk)
      have HPRE := Lib.hid (fun hs => parts_pre (V := V) (j := j) (if_pos ⟨hi, hj, by rw [HX.out, HZ.out]⟩) hk hs)
      have HKS := Lib.hid hks
      clear hk hkm hks hml mk
      have c1 := hPm.ci.cell
      have c2 := hPm.cg.cell
      have c3 := hPm.cj.cell
      have hst := fun W1 hW1 => pstands_c W1 ((hPm.grid.kw (KwB.below hW1))) hV HI.out k j hkx HIJ.out.2
      by_cases hsv : Stands (ruAt (rus xs) k).t V j
      · have hsd : decide (Stands (ruAt (rus xs) k).t V j) = true := decide_eq_true hsv
        have hsb : stV xs V j k = true := hsd
        rw [hsd] at hst
        have HSB := Lib.hid hsb
        have HSV := Lib.hid hsv
        obtain ⟨A0, d0, k0, l0⟩ := hPm.grid.l
        obtain ⟨A1, d1, k1, l1⟩ := hPm.grid.tos
        obtain ⟨A2, d2, k2, l2⟩ := hPm.grid.size
        obtain ⟨g0, o0, rfl, _, _, _, v0⟩ := l0.1.n3 (fun _ => rfl) (Below.refl _ _) k hkx
        obtain ⟨g1, o1, At, ct, rfl, _, v1, _, _, _⟩ := l1 k _ (tosL_at hkx)
        have hsl : (sizL xs).length = xs.length := by unfold sizL; simp
        obtain ⟨g2, o2, rfl, _, v2⟩ := l2.cell k (by rw [hsl]; exact hkx)
        rw [show nth (sizL xs) k = ((ruAt (rus xs) k).f.length : Int) by unfold nth; rw [sizL_at hkx]; rfl] at v2
        have hkx' : (k : Int) < xs.length := by omega
        have hvp : vPt (ptOf (rus xs) k) = .agg #[.int .i64 ((ruAt (rus xs) k).f.length : Int), .int .i64 ((ruAt (rus xs) k).t.length : Int), .int .i64 xs[k].n, .int .i64 (k : Int)] := by
          obtain ⟨_, _, _, _, _, h1, _⟩ := rchk_all ((isE_ok HI.out).2 _ (List.getElem_mem hkx))
          unfold vPt ptOf
          rw [show (((ruAt (rus xs) k).c : Nat) : Int) = xs[k].n by rw [rus_at hkx]; show ((xs[k].n.toNat : Nat) : Int) = _; omega]
        have hmem := HPRE.out hsb
        have HVP := Lib.hid hvp
        have HMEM := Lib.hid hmem
        obtain ⟨fl, hfl⟩ : ∃ n, (ruAt (rus xs) k).f.length = n := ⟨_, rfl⟩
        obtain ⟨tl, htl⟩ : ∃ n, (ruAt (rus xs) k).t.length = n := ⟨_, rfl⟩
        obtain ⟨cn, hcn⟩ : ∃ n, xs[k].n = n := ⟨_, rfl⟩
        rw [hfl, htl, hcn] at HVP
        rw [hfl] at v2
        rw [htl] at v1
        rw [hcn] at v0
        clear hsd hsb hsv hsl l0 l1 l2 hvp hmem hfl htl hcn
        gi_wp2_with (with_reducible refine ⟨fun _ h => (by cases h), ?_⟩)
        refine region_tailI 31 (by kernel_rfl) (by kernel_rfl) (fun W1 => ∃ q, W1 = World.drewN wp q) ⟨1, rfl⟩ ?_
        simp only [List.take_succ_cons, List.take_zero, List.drop_succ_cons, List.drop_zero]
        repeat (with_reducible refine wpQuiet_step (fun K hK => ?_); go_simp; first | (refine hK _ ?_; clear hK K) | (apply Exists.intro; refine ⟨fun _ => ?_, hK _ ?_⟩; (go_at_call 57; exact Calls.quiet_of_same (hst _ (Bdn (Below.refl _ _) _))); clear hK K))
        refine wpQuiet_nil ?_
        intro W4 hw'
        obtain ⟨nq4, hw4⟩ := hw'
        have hb4 : Below wp.heap.size wp W4 := by rw [hw4]; exact Bdn (Below.refl _ _) _
        clear hw4
        have hP4 := hPm.kw (KwB.below hb4)
        have hJ4 := HJ.out _ _ _ hJm (own1_below hPm.cj hb4)
        have r4 := hrm.kw (KwB.below hb4)
        clear c1 c2 c3 k0 k1 k2 v0 v1 v2 nk hst
        obtain ⟨fn5, tmps5, assign5, body5, hy5, hR5⟩ := HY.out _ (ptOf (rus xs) k) W4 hJ4 HMEM.out
        rw [HVP.out] at hy5
        gi_wp2_with (with_reducible refine ⟨fun _ h => (by cases h), ?_⟩)
        refine hR5.mono ?_
        rintro e W5 (⟨rfl, hJ5, hk5⟩ | ⟨rfl, hX5⟩)
        · have hP5 := hP4.kw hk5
          have r5 := r4.kw hk5
          gi_wp2_with (with_reducible refine ⟨fun _ h => (by cases h), ?_⟩)
          refine ⟨⟨m + 1, by go_num, by omega, ?_, hP5, r5⟩, by simp [intOf]; omega⟩
          rw [HTF.out, if_pos HSB.out, List.map_append, ← List.append_assoc]
          exact hJ5
        · gi_wp2_with (with_reducible refine ⟨fun _ h => (by cases h), ?_⟩)
          refine bodyPost_ret (results_none rfl _ _ _) rfl ?_
          exact ⟨⟨_, rfl⟩, .inr ⟨_, trivial, hX5⟩⟩
      · have hsd : decide (Stands (ruAt (rus xs) k).t V j) = false := decide_eq_false hsv
        have hsb : ¬ stV xs V j k = true := by unfold stV; rw [hsd]; simp
        rw [hsd] at hst
        have HSB := Lib.hid hsb
        clear hsd hsb hsv
        gi_wp2_with (with_reducible refine ⟨fun _ h => (by cases h), ?_⟩)
        refine region_tailI 31 (by kernel_rfl) (by kernel_rfl) (fun W1 => ∃ q, W1 = World.drewN wp q) ⟨1, rfl⟩ ?_
        simp only [List.take_succ_cons, List.take_zero, List.drop_succ_cons, List.drop_zero]
        repeat (with_reducible refine wpQuiet_step (fun K hK => ?_); go_simp; first | (refine hK _ ?_; clear hK K) | (apply Exists.intro; refine ⟨fun _ => ?_, hK _ ?_⟩; (go_at_call 57; exact Calls.quiet_of_same (hst _ (Bdn (Below.refl _ _) _))); clear hK K))
        refine wpQuiet_nil ?_
        intro W4 hw'
        obtain ⟨nq4, hw4⟩ := hw'
        have hb4 : Below wp.heap.size wp W4 := by rw [hw4]; exact Bdn (Below.refl _ _) _
        clear hw4
        have hP4 := hPm.kw (KwB.below hb4)
        have hJ4 := HJ.out _ _ _ hJm (own1_below hPm.cj hb4)
        have r4 := hrm.kw (KwB.below hb4)
        clear c1 c2 c3 nk hst
        gi_wp2_with (with_reducible refine ⟨fun _ h => (by cases h), ?_⟩)
        refine ⟨⟨m + 1, by go_num, by omega, ?_, hP4, r4⟩, by simp [intOf]; omega⟩
        rw [HTF.out, if_neg HSB.out, List.append_nil]
        exact hJ4
    · have hlt' : ¬ (m : Int) < K := by omega
      have hrl : rulesP (rus xs) T V i j = ((hitsK xs T i).take m).filter (stV xs V j) := by
        rw [rulesP_hits, List.take_of_length_le (by rw [HK.out]; omega)]; rfl
      rw [← hrl] at hJm
      clear hrl
      have HF : Hid (partsP (rus xs) T V i j = ([⟨1, 1, 0, -1⟩] : List Pt) ++ (rulesP (rus xs) T V i j).map (ptOf (rus xs)) ++ [⟨1, 0, 255, -1⟩] ++ [⟨0, 1, 255, -1⟩]) := by
        show _ = _
        unfold partsP
        rw [if_pos ⟨hi, hj, by rw [HX.out, HZ.out]⟩, if_neg (fun h => h.2.2 (by rw [HX.out, HZ.out])), if_pos hi, if_pos hj] <;> simp
      obtain ⟨fn6, tmps6, assign6, body6, hy6, hR6⟩ := HY.out _ ⟨1, 0, 255, -1⟩ wp hJm ⟨[⟨0, 1, 255, -1⟩], by rw [HF.out] <;> simp⟩
      rw [show vPt ⟨1, 0, 255, -1⟩ = .agg #[.int .i64 1, .int .i64 0, .int .i64 255, .int .i64 (-1)] from rfl] at hy6
      gi_wp2_with (with_reducible refine ⟨fun _ h => (by cases h), ?_⟩)
      refine hR6.mono ?_
      rintro e W6 (⟨rfl, hJ6, hk6⟩ | ⟨rfl, hX6⟩)
      rotate_left
      · gi_wp2_with (with_reducible refine ⟨fun _ h => (by cases h), ?_⟩)
        refine bodyPost_ret (results_none rfl _ _ _) rfl ?_
        exact ⟨⟨_, rfl⟩, .inr ⟨_, trivial, hX6⟩⟩
      clear hy6 hR6
      obtain ⟨fn7, tmps7, assign7, body7, hy7, hR7⟩ := HY.out _ ⟨0, 1, 255, -1⟩ W6 hJ6 ⟨[], by rw [HF.out] <;> simp⟩
      rw [show vPt ⟨0, 1, 255, -1⟩ = .agg #[.int .i64 0, .int .i64 1, .int .i64 255, .int .i64 (-1)] from rfl] at hy7
      gi_wp2_with (with_reducible refine ⟨fun _ h => (by cases h), ?_⟩)
      refine hR7.mono ?_
      rintro e W7 (⟨rfl, hJ7, hk7⟩ | ⟨rfl, hX7⟩)
      · gi_wp2_with (with_reducible refine ⟨fun _ h => (by cases h), ?_⟩)
        go_end0
        exact ⟨⟨_, rfl⟩, .inl ⟨_, HF.out.symm, by simpa using hJ7⟩⟩
      · gi_wp2_with (with_reducible refine ⟨fun _ h => (by cases h), ?_⟩)
        go_end0
        exact ⟨⟨_, rfl⟩, .inr ⟨_, trivial, hX7⟩⟩
set_option maxRecDepth 100000 in
set_option maxHeartbeats 4000000 in
theorem parts1_n (n : Nat) (hn : 1 ≤ n) (lp ib gb jb G : Nat) (B : Nat → Prop) (xs : List T3) (T V : List Int) (i j : Nat) (hI : isE xs = 0) (hV : V.length ≤ 64) (_ : T.length ≤ 64) (hi : i ≤ T.length) (hj : j ≤ V.length) (hst : i < T.length → j < V.length → nth T i ≠ nth V j) (J Jx : List Pt → World → Prop) (W : World)
    (hJ : ∀ s A C, J s A → Own1 jb A C → J s C)
    (hY : ∀ pre x W1, J pre W1 → (∃ rest, partsP (rus xs) T V i j = pre ++ x :: rest) → YieldAt Fence.wide (n - 1) Tryd.prog lp #[vPt x] W1 fun e W' => (e = .returned (.bool true) ∧ J (pre ++ [x]) W' ∧ KwB B W1 W') ∨ (e = .returned (.bool false) ∧ Jx (pre ++ [x]) W'))
    (hP : PartR B W ib gb jb G xs T V i j) (h0 : J [] W) :
    CallsIn Fence.wide n Tryd.prog 56 #[.func (.yield lp) #[] #[], .pointer (some ⟨ib, 0, none⟩), .pointer (some ⟨gb, 0, none⟩), .pointer (some ⟨jb, 0, none⟩)] W fun e W' => (∃ v, e = .returned v) ∧
      ((∃ ys, ys = partsP (rus xs) T V i j ∧ J ys W') ∨ (∃ pre, True ∧ Jx pre W')) := by
  have HY := Lib.hid hY
  have HJ := Lib.hid hJ
  clear hY hJ
  have hij : i ≤ T.length ∧ j ≤ V.length := by omega
  have hxl := (isE_ok hI).1
  have HI := Lib.hid hI
  clear hI
  have HIJ := Lib.hid hij
  clear hij
  obtain ⟨a, ha⟩ : ∃ a, decide (i < T.length) = a := ⟨_, rfl⟩
  obtain ⟨b, hb⟩ : ∃ b, decide (j < V.length) = b := ⟨_, rfl⟩
  have HA := Lib.hid ha
  have HB := Lib.hid hb
  have HST := Lib.hid hst
  clear hst
  have HM : Hid (∀ p, p ∈ partsP (rus xs) T V i j ↔ _) := fun p => parts_mem
  refine callsIn_of_wp Tryd.func56 rfl trivial ?_ rfl
  simp only [Tryd.ntmps56, List.size_toArray, List.length_cons, List.length_nil, Nat.reduceAdd, Nat.reduceSub, Array.replicate_succ, Array.replicate_zero, List.push_toArray, List.append_toArray, List.nil_append, List.cons_append]
  have c1 := hP.ci.cell
  have c2 := hP.cg.cell
  have c3 := hP.cj.cell
  obtain ⟨A3, d3, k3, a3, b3, l3⟩ := hP.grid.t
  obtain ⟨A4, d4, k4, a4, b4, l4⟩ := hP.grid.w
  clear a3 b3 a4 b4
  gi_wp2_with fail
  refine region_tailI 15 (by kernel_rfl) (by kernel_rfl) (fun W1 => ∃ q, W1 = World.drewN W q) ⟨1, rfl⟩ ?_
  simp only [List.take_succ_cons, List.take_zero, List.drop_succ_cons, List.drop_zero]
  repeat (with_reducible refine wpQuiet_step (fun K hK => ?_); go_simp; first | (refine hK _ ?_; clear hK K) | (apply Exists.intro; refine ⟨fun _ => ?_, hK _ ?_⟩; (fail); clear hK K))
  refine wpQuiet_nil ?_
  rintro _ ⟨nq, rfl⟩
  gi_wp2_with (with_reducible refine ⟨fun _ h => (by cases h), ?_⟩)
  refine wpIn_cutN (fun a' w' => ∃ (u10 u11 u12 u13 u14 u15 u16 u17 u18 u19 u20 u21 u22 u23 u24 u25 u26 u27 u28 u29 u30 u31 u32 u33 u34 u35 u36 u37 u38 u39 u40 u41 u42 u43 u44 : Value), a' = { tmps := #[.func (.yield lp) #[] #[], .pointer (some ⟨ib, 0, none⟩), .pointer (some ⟨gb, 0, none⟩), .pointer (some ⟨jb, 0, none⟩), undef, .bool a, .bool b, .bool false, undef, undef, u10, u11, u12, u13, u14, u15, u16, u17, u18, u19, u20, u21, u22, u23, u24, u25, u26, u27, u28, u29, u30, u31, u32, u33, u34, u35, u36, u37, u38, u39, u40, u41, u42, u43, u44, undef, undef, undef, undef, undef, undef, undef, undef, undef, undef, undef, undef, undef, undef, undef, undef, undef, undef, undef, undef, undef, undef, undef, undef, undef, undef, undef, undef, undef, undef, undef, undef, undef, undef, undef, undef, undef, undef, undef, undef, undef, undef, undef, undef, undef, undef, undef, undef, undef, undef, undef, undef, undef, undef, undef, undef, undef, undef, undef, undef, undef, undef, undef, undef, undef, undef, undef, undef, undef, undef, undef, undef, undef, undef, undef, undef, undef, undef, undef], defers := [] } ∧ J [] w' ∧ PartR B w' ib gb jb G xs T V i j) ?_ ?_
  rotate_left
  · cases a
    · cases b
      · skip
        refine region_tailI 21 (by kernel_rfl) (by kernel_rfl) (fun W1 => ∃ q, W1 = World.drewN W q) ⟨nq + 1, rfl⟩ ?_
        simp only [List.take_succ_cons, List.take_zero, List.drop_succ_cons, List.drop_zero]
        repeat (with_reducible refine wpQuiet_step (fun K hK => ?_); go_simp; first | (refine hK _ ?_; clear hK K) | (apply Exists.intro; refine ⟨fun _ => ?_, hK _ ?_⟩; (fail); clear hK K))
        refine wpQuiet_nil ?_
        intro W1 hw'
        obtain ⟨nq1, hw1⟩ := hw'
        have hb1 : Below W.heap.size W W1 := by rw [hw1]; exact Bdn (Below.refl _ _) _
        clear hw1
        have hP1 := hP.kw (KwB.below hb1)
        have hJ1 := HJ.out _ _ _ h0 (own1_below hP.cj hb1)
        gi_wp2_with (with_reducible refine ⟨fun _ h => (by cases h), ?_⟩)
        (repeat apply Exists.intro)
        exact ⟨rfl, hJ1, hP1⟩
      · skip
        refine region_tailI 21 (by kernel_rfl) (by kernel_rfl) (fun W1 => ∃ q, W1 = World.drewN W q) ⟨nq + 1, rfl⟩ ?_
        simp only [List.take_succ_cons, List.take_zero, List.drop_succ_cons, List.drop_zero]
        repeat (with_reducible refine wpQuiet_step (fun K hK => ?_); go_simp; first | (refine hK _ ?_; clear hK K) | (apply Exists.intro; refine ⟨fun _ => ?_, hK _ ?_⟩; (fail); clear hK K))
        refine wpQuiet_nil ?_
        intro W1 hw'
        obtain ⟨nq1, hw1⟩ := hw'
        have hb1 : Below W.heap.size W W1 := by rw [hw1]; exact Bdn (Below.refl _ _) _
        clear hw1
        have hP1 := hP.kw (KwB.below hb1)
        have hJ1 := HJ.out _ _ _ h0 (own1_below hP.cj hb1)
        gi_wp2_with (with_reducible refine ⟨fun _ h => (by cases h), ?_⟩)
        (repeat apply Exists.intro)
        exact ⟨rfl, hJ1, hP1⟩
    · cases b
      · skip
        refine region_tailI 21 (by kernel_rfl) (by kernel_rfl) (fun W1 => ∃ q, W1 = World.drewN W q) ⟨nq + 1, rfl⟩ ?_
        simp only [List.take_succ_cons, List.take_zero, List.drop_succ_cons, List.drop_zero]
        repeat (with_reducible refine wpQuiet_step (fun K hK => ?_); go_simp; first | (refine hK _ ?_; clear hK K) | (apply Exists.intro; refine ⟨fun _ => ?_, hK _ ?_⟩; (fail); clear hK K))
        refine wpQuiet_nil ?_
        intro W1 hw'
        obtain ⟨nq1, hw1⟩ := hw'
        have hb1 : Below W.heap.size W W1 := by rw [hw1]; exact Bdn (Below.refl _ _) _
        clear hw1
        have hP1 := hP.kw (KwB.below hb1)
        have hJ1 := HJ.out _ _ _ h0 (own1_below hP.cj hb1)
        gi_wp2_with (with_reducible refine ⟨fun _ h => (by cases h), ?_⟩)
        (repeat apply Exists.intro)
        exact ⟨rfl, hJ1, hP1⟩
      · have hi1 : i < T.length := by have := of_decide_eq_true HA.out; omega
        have hj1 : j < V.length := by have := of_decide_eq_true HB.out; omega
        obtain ⟨x, hx⟩ : ∃ x, nth T i = x := ⟨_, rfl⟩
        obtain ⟨z, hz⟩ : ∃ z, nth V j = z := ⟨_, rfl⟩
        have hxz : (x == z) = false := by have := HST.out hi1 hj1; rw [hx, hz] at this; simpa using this
        obtain ⟨g3, o3, rfl, m3, n3⟩ := l3.cell i hi1
        obtain ⟨g4, o4, rfl, m4, n4⟩ := l4.cell j hj1
        rw [hx] at n3
        rw [hz] at n4
        clear m3 m4 hx hz
        have hi2 : (i : Int) < T.length := by omega
        have hj2 : (j : Int) < V.length := by omega
        refine region_tailI 21 (by kernel_rfl) (by kernel_rfl) (fun W1 => ∃ q, W1 = World.drewN W q) ⟨nq + 1, rfl⟩ ?_
        simp only [List.take_succ_cons, List.take_zero, List.drop_succ_cons, List.drop_zero]
        repeat (with_reducible refine wpQuiet_step (fun K hK => ?_); go_simp; first | (refine hK _ ?_; clear hK K) | (apply Exists.intro; refine ⟨fun _ => ?_, hK _ ?_⟩; (fail); clear hK K))
        refine wpQuiet_nil ?_
        intro W1 hw'
        obtain ⟨nq1, hw1⟩ := hw'
        have hb1 : Below W.heap.size W W1 := by rw [hw1]; exact Bdn (Below.refl _ _) _
        clear hw1
        have hP1 := hP.kw (KwB.below hb1)
        have hJ1 := HJ.out _ _ _ h0 (own1_below hP.cj hb1)
        gi_wp2_with (with_reducible refine ⟨fun _ h => (by cases h), ?_⟩)
        (repeat apply Exists.intro)
        exact ⟨rfl, hJ1, hP1⟩
  rintro _ W1 ⟨u10, u11, u12, u13, u14, u15, u16, u17, u18, u19, u20, u21, u22, u23, u24, u25, u26, u27, u28, u29, u30, u31, u32, u33, u34, u35, u36, u37, u38, u39, u40, u41, u42, u43, u44, rfl, hJ1, hP1⟩
  clear ha hb c1 c2 c3 k3 k4 l3 l4
  obtain ⟨W2, hW2⟩ : ∃ W2, W2 = W1 := ⟨_, rfl⟩
  have hP2 : PartR B W2 ib gb jb G xs T V i j := by rw [hW2]; exact hP1
  have hJ2 : J [] W2 := by rw [hW2]; exact hJ1
  rw [← hW2]
  clear hW2
  clear hP1 hJ1
  have c1 := hP2.ci.cell
  have c2 := hP2.cg.cell
  obtain ⟨A5, d5, k5, l5⟩ := hP2.grid.hits
  obtain ⟨g5, o5, Ak, ck, rfl, m5, n5, p5, q5, r5⟩ := l5 i _ (hitR_at HIJ.out.1)
  rw [hitsI_len] at n5 p5
  have hil : (i : Int) < (T.length : Int) + 1 := by have := HIJ.out.1; omega
  have hkl := hitsK_len xs T i
  obtain ⟨K, hK⟩ : ∃ K, (hitsK xs T i).length = K := ⟨_, rfl⟩
  rw [hK] at n5 p5 hkl
  have HK := Lib.hid hK
  clear hK l5
  gi_wp2_with (with_reducible refine ⟨fun _ h => (by cases h), ?_⟩)
  gi_region
  have hb3 : Below W2.heap.size W2 W2.drew := Below.drew (Below.refl _ _)
  generalize W2.drew = W3 at hb3 ⊢
  have hP3 := hP2.kw (KwB.below hb3)
  have hJ3 := HJ.out _ _ _ hJ2 (own1_below hP2.cj hb3)
  have r3 := r5.kw (KwB.below hb3)
  clear c1 c2 k5 n5 hb3 r5 m5 hP2 hJ2
  gi_wp2_with (with_reducible refine ⟨fun _ h => (by cases h), ?_⟩)
  gi_loopw [60] (fun sm wr => ∃ m : Nat, sm = .int .i64 m ∧ m ≤ K ∧ J ([] ++ (((hitsK xs T i).take m).filter (stV xs V j)).map (ptOf (rus xs))) wr ∧ PartR B wr ib gb jb G xs T V i j ∧ SlB B (eInt .i64) wr Ak (hitsI xs T i)) (fun sm _ => K - (intOf sm).toNat)
  case atStart => exact ⟨0, rfl, by omega, by simpa using hJ3, hP3, r3⟩
  case round =>
    obtain ⟨m, rfl, hm, hJm, hPm, hrm⟩ := hrel
    obtain ⟨wp, rfl⟩ : ∃ wp, wp = wr := ⟨_, rfl⟩
    by_cases hlt : m < K
    · have hlt' : (m : Int) < K := by omega
      have hml : m < (hitsK xs T i).length := by rw [HK.out]; exact hlt
      obtain ⟨k, hk⟩ : ∃ k, (hitsK xs T i)[m]? = some k := ⟨_, List.getElem?_eq_getElem hml⟩
      have hkm := List.mem_of_getElem? hk
      have hkx := hitsK_lt hkm
      have hks : Stands (ruAt (rus xs) k).f T i := by
        have := (List.mem_filter.1 hkm).2
        simpa using this
      obtain ⟨gk, ok, rfl, mk, nk⟩ := hrm.cell m (by rw [hitsI_len]; exact hml)
      rw [hitsI_nth hk] at nk
      have HTF := Lib.hid (take_filter_snoc (p := stV xs V j) hk)
      have HPRE := Lib.hid (fun hs => parts_pre (V := V) (j := j) (if_neg (fun h => HST.out h.1 h.2.1 h.2.2)) hk hs)
      have HKS := Lib.hid hks
      clear hk hkm hks hml mk
      have c1 := hPm.ci.cell
      have c2 := hPm.cg.cell
      have c3 := hPm.cj.cell
      have hst := fun W1 hW1 => pstands_c W1 ((hPm.grid.kw (KwB.below hW1))) hV HI.out k j hkx HIJ.out.2
      by_cases hsv : Stands (ruAt (rus xs) k).t V j
      · have hsd : decide (Stands (ruAt (rus xs) k).t V j) = true := decide_eq_true hsv
        have hsb : stV xs V j k = true := hsd
        rw [hsd] at hst
        have HSB := Lib.hid hsb
        have HSV := Lib.hid hsv
        obtain ⟨A0, d0, k0, l0⟩ := hPm.grid.l
        obtain ⟨A1, d1, k1, l1⟩ := hPm.grid.tos
        obtain ⟨A2, d2, k2, l2⟩ := hPm.grid.size
        obtain ⟨g0, o0, rfl, _, _, _, v0⟩ := l0.1.n3 (fun _ => rfl) (Below.refl _ _) k hkx
        obtain ⟨g1, o1, At, ct, rfl, _, v1, _, _, _⟩ := l1 k _ (tosL_at hkx)
        have hsl : (sizL xs).length = xs.length := by unfold sizL; simp
        obtain ⟨g2, o2, rfl, _, v2⟩ := l2.cell k (by rw [hsl]; exact hkx)
        rw [show nth (sizL xs) k = ((ruAt (rus xs) k).f.length : Int) by unfold nth; rw [sizL_at hkx]; rfl] at v2
        have hkx' : (k : Int) < xs.length := by omega
        have hvp : vPt (ptOf (rus xs) k) = .agg #[.int .i64 ((ruAt (rus xs) k).f.length : Int), .int .i64 ((ruAt (rus xs) k).t.length : Int), .int .i64 xs[k].n, .int .i64 (k : Int)] := by
          obtain ⟨_, _, _, _, _, h1, _⟩ := rchk_all ((isE_ok HI.out).2 _ (List.getElem_mem hkx))
          unfold vPt ptOf
          rw [show (((ruAt (rus xs) k).c : Nat) : Int) = xs[k].n by rw [rus_at hkx]; show ((xs[k].n.toNat : Nat) : Int) = _; omega]
        have hmem := HPRE.out hsb
        have HVP := Lib.hid hvp
        have HMEM := Lib.hid hmem
        obtain ⟨fl, hfl⟩ : ∃ n, (ruAt (rus xs) k).f.length = n := ⟨_, rfl⟩
        obtain ⟨tl, htl⟩ : ∃ n, (ruAt (rus xs) k).t.length = n := ⟨_, rfl⟩
        obtain ⟨cn, hcn⟩ : ∃ n, xs[k].n = n := ⟨_, rfl⟩
        rw [hfl, htl, hcn] at HVP
        rw [hfl] at v2
        rw [htl] at v1
        rw [hcn] at v0
        clear hsd hsb hsv hsl l0 l1 l2 hvp hmem hfl htl hcn
        gi_wp2_with (with_reducible refine ⟨fun _ h => (by cases h), ?_⟩)
        refine region_tailI 31 (by kernel_rfl) (by kernel_rfl) (fun W1 => ∃ q, W1 = World.drewN wp q) ⟨1, rfl⟩ ?_
        simp only [List.take_succ_cons, List.take_zero, List.drop_succ_cons, List.drop_zero]
        repeat (with_reducible refine wpQuiet_step (fun K hK => ?_); go_simp; first | (refine hK _ ?_; clear hK K) | (apply Exists.intro; refine ⟨fun _ => ?_, hK _ ?_⟩; (go_at_call 57; exact Calls.quiet_of_same (hst _ (Bdn (Below.refl _ _) _))); clear hK K))
        refine wpQuiet_nil ?_
        intro W4 hw'
        obtain ⟨nq4, hw4⟩ := hw'
        have hb4 : Below wp.heap.size wp W4 := by rw [hw4]; exact Bdn (Below.refl _ _) _
        clear hw4
        have hP4 := hPm.kw (KwB.below hb4)
        have hJ4 := HJ.out _ _ _ hJm (own1_below hPm.cj hb4)
        have r4 := hrm.kw (KwB.below hb4)
        clear c1 c2 c3 k0 k1 k2 v0 v1 v2 nk hst
        obtain ⟨fn5, tmps5, assign5, body5, hy5, hR5⟩ := HY.out _ (ptOf (rus xs) k) W4 hJ4 HMEM.out
        rw [HVP.out] at hy5
        gi_wp2_with (with_reducible refine ⟨fun _ h => (by cases h), ?_⟩)
        refine hR5.mono ?_
        rintro e W5 (⟨rfl, hJ5, hk5⟩ | ⟨rfl, hX5⟩)
        · have hP5 := hP4.kw hk5
          have r5 := r4.kw hk5
          gi_wp2_with (with_reducible refine ⟨fun _ h => (by cases h), ?_⟩)
          refine ⟨⟨m + 1, by go_num, by omega, ?_, hP5, r5⟩, by simp [intOf]; omega⟩
          rw [HTF.out, if_pos HSB.out, List.map_append, ← List.append_assoc]
          exact hJ5
        · gi_wp2_with (with_reducible refine ⟨fun _ h => (by cases h), ?_⟩)
          refine bodyPost_ret (results_none rfl _ _ _) rfl ?_
          exact ⟨⟨_, rfl⟩, .inr ⟨_, trivial, hX5⟩⟩
      · have hsd : decide (Stands (ruAt (rus xs) k).t V j) = false := decide_eq_false hsv
        have hsb : ¬ stV xs V j k = true := by unfold stV; rw [hsd]; simp
        rw [hsd] at hst
        have HSB := Lib.hid hsb
        clear hsd hsb hsv
        gi_wp2_with (with_reducible refine ⟨fun _ h => (by cases h), ?_⟩)
        refine region_tailI 31 (by kernel_rfl) (by kernel_rfl) (fun W1 => ∃ q, W1 = World.drewN wp q) ⟨1, rfl⟩ ?_
        simp only [List.take_succ_cons, List.take_zero, List.drop_succ_cons, List.drop_zero]
        repeat (with_reducible refine wpQuiet_step (fun K hK => ?_); go_simp; first | (refine hK _ ?_; clear hK K) | (apply Exists.intro; refine ⟨fun _ => ?_, hK _ ?_⟩; (go_at_call 57; exact Calls.quiet_of_same (hst _ (Bdn (Below.refl _ _) _))); clear hK K))
        refine wpQuiet_nil ?_
        intro W4 hw'
        obtain ⟨nq4, hw4⟩ := hw'
        have hb4 : Below wp.heap.size wp W4 := by rw [hw4]; exact Bdn (Below.refl _ _) _
        clear hw4
        have hP4 := hPm.kw (KwB.below hb4)
        have hJ4 := HJ.out _ _ _ hJm (own1_below hPm.cj hb4)
        have r4 := hrm.kw (KwB.below hb4)
        clear c1 c2 c3 nk hst
        gi_wp2_with (with_reducible refine ⟨fun _ h => (by cases h), ?_⟩)
        refine ⟨⟨m + 1, by go_num, by omega, ?_, hP4, r4⟩, by simp [intOf]; omega⟩
        rw [HTF.out, if_neg HSB.out, List.append_nil]
        exact hJ4
    · have hlt' : ¬ (m : Int) < K := by omega
      have hrl : rulesP (rus xs) T V i j = ((hitsK xs T i).take m).filter (stV xs V j) := by
        rw [rulesP_hits, List.take_of_length_le (by rw [HK.out]; omega)]; rfl
      rw [← hrl] at hJm
      clear hrl
      cases a
      · cases b
        · have hi0 := of_decide_eq_false HA.out
          have hj0 := of_decide_eq_false HB.out
          have hi : i = T.length := by omega
          have hj : j = V.length := by omega
          have HE1 := Lib.hid hi
          have HE2 := Lib.hid hj
          have HF : Hid (partsP (rus xs) T V i j = ([] : List Pt) ++ (rulesP (rus xs) T V i j).map (ptOf (rus xs))) := by
            show _ = _
            unfold partsP
            rw [if_neg (fun h => absurd h.1 (by have := HE1.out; omega)), if_neg (fun h => absurd h.1 (by have := HE1.out; omega)), if_neg (by have := HE1.out; omega), if_neg (by have := HE2.out; omega)]; simp
          gi_wp2_with (with_reducible refine ⟨fun _ h => (by cases h), ?_⟩)
          go_end0
          exact ⟨⟨_, rfl⟩, .inl ⟨_, HF.out.symm, by simpa using hJm⟩⟩
        · have hi0 := of_decide_eq_false HA.out
          have hj0 := of_decide_eq_true HB.out
          have hi : i = T.length := by omega
          have hj : j < V.length := by omega
          have HE1 := Lib.hid hi
          have HF : Hid (partsP (rus xs) T V i j = ([] : List Pt) ++ (rulesP (rus xs) T V i j).map (ptOf (rus xs)) ++ [⟨0, 1, 255, -1⟩]) := by
            show _ = _
            unfold partsP
            rw [if_neg (fun h => absurd h.1 (by have := HE1.out; omega)), if_neg (fun h => absurd h.1 (by have := HE1.out; omega)), if_neg (by have := HE1.out; omega), if_pos hj]; simp
          obtain ⟨fn6, tmps6, assign6, body6, hy6, hR6⟩ := HY.out _ ⟨0, 1, 255, -1⟩ wp hJm ⟨[], by rw [HF.out] <;> simp⟩
          rw [show vPt ⟨0, 1, 255, -1⟩ = .agg #[.int .i64 0, .int .i64 1, .int .i64 255, .int .i64 (-1)] from rfl] at hy6
          gi_wp2_with (with_reducible refine ⟨fun _ h => (by cases h), ?_⟩)
          refine hR6.mono ?_
          rintro e W6 (⟨rfl, hJ6, hk6⟩ | ⟨rfl, hX6⟩)
          · gi_wp2_with (with_reducible refine ⟨fun _ h => (by cases h), ?_⟩)
            go_end0
            exact ⟨⟨_, rfl⟩, .inl ⟨_, HF.out.symm, by simpa using hJ6⟩⟩
          · gi_wp2_with (with_reducible refine ⟨fun _ h => (by cases h), ?_⟩)
            go_end0
            exact ⟨⟨_, rfl⟩, .inr ⟨_, trivial, hX6⟩⟩
      · cases b
        · have hi0 := of_decide_eq_true HA.out
          have hj0 := of_decide_eq_false HB.out
          have hi : i < T.length := by omega
          have hj : j = V.length := by omega
          have HE2 := Lib.hid hj
          have HF : Hid (partsP (rus xs) T V i j = ([] : List Pt) ++ (rulesP (rus xs) T V i j).map (ptOf (rus xs)) ++ [⟨1, 0, 255, -1⟩]) := by
            show _ = _
            unfold partsP
            rw [if_neg (fun h => absurd h.2.1 (by have := HE2.out; omega)), if_neg (fun h => absurd h.2.1 (by have := HE2.out; omega)), if_pos hi, if_neg (by have := HE2.out; omega)]; simp
          obtain ⟨fn6, tmps6, assign6, body6, hy6, hR6⟩ := HY.out _ ⟨1, 0, 255, -1⟩ wp hJm ⟨[], by rw [HF.out] <;> simp⟩
          rw [show vPt ⟨1, 0, 255, -1⟩ = .agg #[.int .i64 1, .int .i64 0, .int .i64 255, .int .i64 (-1)] from rfl] at hy6
          gi_wp2_with (with_reducible refine ⟨fun _ h => (by cases h), ?_⟩)
          refine hR6.mono ?_
          rintro e W6 (⟨rfl, hJ6, hk6⟩ | ⟨rfl, hX6⟩)
          rotate_left
          · gi_wp2_with (with_reducible refine ⟨fun _ h => (by cases h), ?_⟩)
            refine bodyPost_ret (results_none rfl _ _ _) rfl ?_
            exact ⟨⟨_, rfl⟩, .inr ⟨_, trivial, hX6⟩⟩
          clear hy6 hR6
          gi_wp2_with (with_reducible refine ⟨fun _ h => (by cases h), ?_⟩)
          go_end0
          exact ⟨⟨_, rfl⟩, .inl ⟨_, HF.out.symm, by simpa using hJ6⟩⟩
        · have hi0 := of_decide_eq_true HA.out
          have hj0 := of_decide_eq_true HB.out
          have hi : i < T.length := by omega
          have hj : j < V.length := by omega
          have HF : Hid (partsP (rus xs) T V i j = ([] : List Pt) ++ (rulesP (rus xs) T V i j).map (ptOf (rus xs)) ++ [⟨1, 1, 255, -1⟩] ++ [⟨1, 0, 255, -1⟩] ++ [⟨0, 1, 255, -1⟩]) := by
            show _ = _
            unfold partsP
            rw [if_neg (fun h => HST.out hi hj h.2.2), if_pos ⟨hi, hj, HST.out hi hj⟩, if_pos hi, if_pos hj] <;> simp
          obtain ⟨fn6, tmps6, assign6, body6, hy6, hR6⟩ := HY.out _ ⟨1, 1, 255, -1⟩ wp hJm ⟨[⟨1, 0, 255, -1⟩, ⟨0, 1, 255, -1⟩], by rw [HF.out] <;> simp⟩
          rw [show vPt ⟨1, 1, 255, -1⟩ = .agg #[.int .i64 1, .int .i64 1, .int .i64 255, .int .i64 (-1)] from rfl] at hy6
          gi_wp2_with (with_reducible refine ⟨fun _ h => (by cases h), ?_⟩)
          refine hR6.mono ?_
          rintro e W6 (⟨rfl, hJ6, hk6⟩ | ⟨rfl, hX6⟩)
          rotate_left
          · gi_wp2_with (with_reducible refine ⟨fun _ h => (by cases h), ?_⟩)
            refine bodyPost_ret (results_none rfl _ _ _) rfl ?_
            exact ⟨⟨_, rfl⟩, .inr ⟨_, trivial, hX6⟩⟩
          clear hy6 hR6
          obtain ⟨fn7, tmps7, assign7, body7, hy7, hR7⟩ := HY.out _ ⟨1, 0, 255, -1⟩ W6 hJ6 ⟨[⟨0, 1, 255, -1⟩], by rw [HF.out] <;> simp⟩
          rw [show vPt ⟨1, 0, 255, -1⟩ = .agg #[.int .i64 1, .int .i64 0, .int .i64 255, .int .i64 (-1)] from rfl] at hy7
          gi_wp2_with (with_reducible refine ⟨fun _ h => (by cases h), ?_⟩)
          refine hR7.mono ?_
          rintro e W7 (⟨rfl, hJ7, hk7⟩ | ⟨rfl, hX7⟩)
          rotate_left
          · gi_wp2_with (with_reducible refine ⟨fun _ h => (by cases h), ?_⟩)
            refine bodyPost_ret (results_none rfl _ _ _) rfl ?_
            exact ⟨⟨_, rfl⟩, .inr ⟨_, trivial, hX7⟩⟩
          clear hy7 hR7
          obtain ⟨fn8, tmps8, assign8, body8, hy8, hR8⟩ := HY.out _ ⟨0, 1, 255, -1⟩ W7 hJ7 ⟨[], by rw [HF.out] <;> simp⟩
          rw [show vPt ⟨0, 1, 255, -1⟩ = .agg #[.int .i64 0, .int .i64 1, .int .i64 255, .int .i64 (-1)] from rfl] at hy8
          gi_wp2_with (with_reducible refine ⟨fun _ h => (by cases h), ?_⟩)
          refine hR8.mono ?_
          rintro e W8 (⟨rfl, hJ8, hk8⟩ | ⟨rfl, hX8⟩)
          · gi_wp2_with (with_reducible refine ⟨fun _ h => (by cases h), ?_⟩)
            go_end0
            exact ⟨⟨_, rfl⟩, .inl ⟨_, HF.out.symm, by simpa using hJ8⟩⟩
          · gi_wp2_with (with_reducible refine ⟨fun _ h => (by cases h), ?_⟩)
            go_end0
            exact ⟨⟨_, rfl⟩, .inr ⟨_, trivial, hX8⟩⟩
theorem parts1_in (n : Nat) (hn : 1 ≤ n) (lp ib gb jb G : Nat) (B : Nat → Prop) (xs : List T3) (T V : List Int) (i j : Nat) (hI : isE xs = 0) (hV : V.length ≤ 64) (hT : T.length ≤ 64) (hi : i ≤ T.length) (hj : j ≤ V.length) (J Jx : List Pt → World → Prop) (W : World)
    (hJ : ∀ s A C, J s A → Own1 jb A C → J s C)
    (hY : ∀ pre x W1, J pre W1 → (∃ rest, partsP (rus xs) T V i j = pre ++ x :: rest) → YieldAt Fence.wide (n - 1) Tryd.prog lp #[vPt x] W1 fun e W' => (e = .returned (.bool true) ∧ J (pre ++ [x]) W' ∧ KwB B W1 W') ∨ (e = .returned (.bool false) ∧ Jx (pre ++ [x]) W'))
    (hP : PartR B W ib gb jb G xs T V i j) (h0 : J [] W) :
    CallsIn Fence.wide n Tryd.prog 56 #[.func (.yield lp) #[] #[], .pointer (some ⟨ib, 0, none⟩), .pointer (some ⟨gb, 0, none⟩), .pointer (some ⟨jb, 0, none⟩)] W fun e W' => (∃ v, e = .returned v) ∧
      ((∃ ys, ys = partsP (rus xs) T V i j ∧ J ys W') ∨ (∃ pre, True ∧ Jx pre W')) := by
  by_cases h3 : i < T.length ∧ j < V.length ∧ nth T i = nth V j
  · exact parts1_ttt n hn lp ib gb jb G B xs T V i j hI hV hT h3.1 h3.2.1 h3.2.2 J Jx W hJ hY hP h0
  · exact parts1_n n hn lp ib gb jb G B xs T V i j hI hV hT hi hj (fun h1 h2 h => h3 ⟨h1, h2, h⟩) J Jx W hJ hY hP h0
theorem parts_stops (n : Nat) (hn : 1 ≤ n) (ib gb jb G : Nat) (B : Nat → Prop) (xs : List T3) (T V : List Int) (i j : Nat) (hI : isE xs = 0) (hV : V.length ≤ 64) (hT : T.length ≤ 64) (hi : i ≤ T.length) (hj : j ≤ V.length) (w : World) (hP : PartR B w ib gb jb G xs T V i j) :
    SeqBox Fence.wide n Tryd.prog 56 #[.pointer (some ⟨ib, 0, none⟩), .pointer (some ⟨gb, 0, none⟩), .pointer (some ⟨jb, 0, none⟩)] (fun x : Pt => #[vPt x]) jb (KwB B) (fun ys => ys = partsP (rus xs) T V i j) (fun _ => True) (fun pre x => ∃ rest, partsP (rus xs) T V i j = pre ++ x :: rest) w := fun lp J Jx W hW hJ _ _ hY h0 =>
  parts1_in n hn lp ib gb jb G B xs T V i j hI hV hT hi hj J Jx W hJ hY (hP.kw (KwB.below hW)) h0
set_option maxRecDepth 100000 in
theorem parts_c (_ : Fence) (_ : True) (G : Nat) (i j : Int) (w : World) : Calls Tryd.prog 29 #[.pointer (some ⟨G, 0, none⟩), .int .i64 i, .int .i64 j] w fun e w' =>
    e = .returned (.func (.func 56) #[] #[.pointer (some ⟨w.heap.size + 1, 0, none⟩), .pointer (some ⟨w.heap.size, 0, none⟩), .pointer (some ⟨w.heap.size + 2, 0, none⟩)]) ∧
      w' = ((w.alloc (.cells #[.pointer (some ⟨G, 0, none⟩)] 58)).alloc (.cells #[.int .i64 i] 3)).alloc (.cells #[.int .i64 j] 3) := by
  go_enter Tryd.func29, Tryd.ntmps29
  go_wp2
  go_ret
  exact ⟨rfl, rfl⟩
end Go.Proofs.YtmpoihejacklnaaDoor
/- align's grid: where a place lies, the best last step. No condition. -/
namespace Go.Proofs.YtmpoihejacklnaaDoor
open Go Go.RowKit
theorem place_lt {i j n : Nat} {m : Nat} (hi : i ≤ m) (hj : j ≤ n) : i * (n + 1) + j < (m + 1) * (n + 1) := by
  have h1 : i * (n + 1) ≤ m * (n + 1) := Nat.mul_le_mul_right _ hi
  rw [Nat.succ_mul]; omega
set_option maxRecDepth 100000 in
theorem at_c (G : Nat) (B : Option Addr) (n c i j : Nat) (w : World) (hc : w.cell? ⟨G, 1, none⟩ = some (.slice B n c)) (hn : n ≤ 64) (hi : i ≤ 64) (hj : j ≤ 64) :
    Calls Tryd.prog 63 #[.pointer (some ⟨G, 0, none⟩), .int .i64 i, .int .i64 j] w fun e w' => e = .returned (.int .i64 (i * (n + 1) + j : Nat)) ∧ w' = w := by
  have hm : i * (n + 1) ≤ 64 * 65 := Nat.mul_le_mul hi (by omega)
  obtain ⟨m, hme⟩ : ∃ m, i * (n + 1) = m := ⟨_, rfl⟩
  rw [hme] at hm ⊢
  have hmi : (i : Int) * ((n : Int) + 1) = (m : Int) := by rw [← hme]; push_cast; rfl
  have h1 : IntKind.i64.wrap ((i : Int) * ((n : Int) + 1)) = (m : Int) := by rw [hmi]; exact IntWalk.i64_in _ (by omega)
  clear hme hmi
  go_enter Tryd.func63, Tryd.ntmps63
  go_wp2
  go_ret
  exact ⟨by simp, rfl⟩
set_option maxRecDepth 100000 in
theorem try_c (Bk Bn : Nat) (x y k f : Int) (w : World) (hk : Boxed w Bk 5 (.int .u8 y)) (hn : Boxed w Bn 5 (.int .u8 x)) (hne : Bk ≠ Bn) :
    Calls Tryd.prog 91 #[.int .u8 k, .int .u8 f, .pointer (some ⟨Bn, 0, none⟩), .pointer (some ⟨Bk, 0, none⟩)] w fun e w' =>
      e = .returned (.tuple #[]) ∧ Boxed w' Bk 5 (.int .u8 (if f < x then k else y)) ∧ Boxed w' Bn 5 (.int .u8 (if f < x then f else x)) ∧ Kb w w' [Bk, Bn] ∧ w'.heap.size = w.heap.size := by
  have c1 := hk.cell
  have c2 := hn.cell
  have d1 := hk.frozen
  have d2 := hn.frozen
  by_cases h : f < x
  all_goals
    go_enter Tryd.func91, Tryd.ntmps91
    go_wp2
    refine bodyPost_end (results_none rfl _ _ _) rfl ?_
  · refine ⟨rfl, (hk.set _).other hne _, (hn.other (Ne.symm hne) _).set _, ?_, by simp⟩
    exact ((Kb.grown (grownBy_setCell' w Bk (.int .u8 k))).trans (Kb.grown (grownBy_setCell' _ Bn (.int .u8 f)))).weak (by simp)
  · exact ⟨rfl, hk, hn, Kb.refl _ _, rfl⟩
theorem ite_cast (x y p q : Nat) : (if (x : Int) < (y : Int) then (p : Int) else (q : Int)) = ((if x < y then p else q : Nat) : Int) := by
  by_cases h : x < y
  · rw [if_pos h, if_pos (by omega)]
  · rw [if_neg h, if_neg (by omega)]
theorem pick3 (f1 f2 f3 q D : Nat) (hD : D = min f1 (min f2 f3)) : (if f3 < (if f2 < f1 then f2 else f1) then 3 else (if f2 < f1 then 2 else q)) = (if D = f1 then q else if D = f2 then 2 else 3) ∧ (if f3 < (if f2 < f1 then f2 else f1) then f3 else (if f2 < f1 then f2 else f1)) = D := by
  subst hD
  by_cases h1 : f2 < f1
  · rw [if_pos h1, if_pos h1]
    by_cases h2 : f3 < f2
    · rw [if_pos h2, if_pos h2, if_neg (by omega), if_neg (by omega)]; omega
    · rw [if_neg h2, if_neg h2, if_neg (by omega), if_pos (by omega)]; omega
  · rw [if_neg h1, if_neg h1]
    by_cases h2 : f3 < f1
    · rw [if_pos h2, if_pos h2, if_neg (by omega), if_neg (by omega)]; omega
    · rw [if_neg h2, if_neg h2, if_pos (by omega)]; omega
theorem best_fin (a b : List Int) (i j : Nat) (hi : 0 < i) (hj : 0 < j) (f1 f2 f3 q : Nat) (e1 : dd a b (i - 1) (j - 1) + n01 a b (i - 1) (j - 1) = f1) (e2 : dd a b (i - 1) j + 1 = f2) (e3 : dd a b i (j - 1) + 1 = f3) (eq : n01 a b (i - 1) (j - 1) = q) :
    (if f3 < (if f2 < f1 then f2 else f1) then 3 else (if f2 < f1 then 2 else q)) = kd a b i j ∧ (if f3 < (if f2 < f1 then f2 else f1) then f3 else (if f2 < f1 then f2 else f1)) = dd a b i j := by
  obtain ⟨i, rfl⟩ : ∃ i', i = i' + 1 := ⟨i - 1, by omega⟩
  obtain ⟨j, rfl⟩ : ∃ j', j = j' + 1 := ⟨j - 1, by omega⟩
  simp only [Nat.add_sub_cancel] at *
  have hd := dd_both a b i j
  rw [e1, e2, e3] at hd
  obtain ⟨h1, h2⟩ := pick3 f1 f2 f3 q _ hd
  refine ⟨?_, h2⟩
  rw [h1]
  unfold kd
  simp only [Nat.add_sub_cancel]
  rw [e1, e2, eq]
  simp
set_option maxRecDepth 100000 in
set_option maxHeartbeats 2000000 in
theorem best_c (G : Nat) (A B : Option Addr) (a b : List Int) (ca cb gf N cf i j : Nat) (w : World) (hc0 : w.cell? ⟨G, 0, none⟩ = some (.slice A a.length ca)) (hc1 : w.cell? ⟨G, 1, none⟩ = some (.slice B b.length cb)) (hc2 : w.cell? ⟨G, 2, none⟩ = some (.slice (some ⟨gf, 0, none⟩) N cf))
    (hA : SlA (eInt .i32) w A a) (hB : SlA (eInt .i32) w B b) (hF : ∀ x y, x ≤ i → y ≤ j → x + y < i + j → w.cell? ⟨gf, x * (b.length + 1) + y, none⟩ = some (.int .u8 (dd a b x y)))
    (hN : N = (a.length + 1) * (b.length + 1)) (ha : a.length ≤ 64) (hb : b.length ≤ 64) (hi : i ≤ a.length) (hj : j ≤ b.length) (hij : 0 < i + j) :
    Calls Tryd.prog 62 #[.pointer (some ⟨G, 0, none⟩), .int .i64 i, .int .i64 j] w fun e w' => e = .returned (.tuple #[.int .u8 (kd a b i j), .int .u8 (dd a b i j)]) ∧ Below w.heap.size w w' := by
  rcases Nat.eq_zero_or_pos i with h0 | h0
  · subst h0
    have k1 : kd a b 0 j = 3 := by unfold kd; rw [if_neg (by omega), if_neg (by omega)]
    have k2 : dd a b 0 j = j := dd_zero a b j
    have f3 := hF 0 (j - 1) (by omega) (by omega) (by omega)
    rw [dd_zero, Nat.zero_mul, Nat.zero_add] at f3
    have l3 : ((j - 1 : Nat) : Int) < (N : Int) := by
      have : (0 : Nat) * (b.length + 1) + (j - 1) < (a.length + 1) * (b.length + 1) := place_lt hi (by omega)
      rw [Nat.zero_mul, Nat.zero_add] at this
      rw [hN]; exact Int.ofNat_lt.2 this
    have HN := Lib.hid hN
    clear hN hF
    have hwj : IntKind.i64.wrap ((j : Int) - 1) = ((j - 1 : Nat) : Int) := by rw [IntWalk.i64_in _ (by omega)]; omega
    have hwu3 : IntKind.u8.wrap (((j - 1 : Nat) : Int) + 1) = (j : Int) := by rw [IntWalk.u8_in _ (by omega)]; omega
    have hat : ∀ W : World, Below w.heap.size w W → ∀ n, Calls Tryd.prog 63 #[.pointer (some ⟨G, 0, none⟩), .int .i64 0, .int .i64 (j - 1 : Nat)] (W.drewN n) fun e w' => e = .returned (.int .i64 (j - 1 : Nat)) ∧ w' = W.drewN n := fun W hW n => by
      have := at_c G _ b.length cb 0 (j - 1) _ (bkc (Bdn hW n) hc1) hb (by omega) (by omega)
      simpa using this
    go_enter Tryd.func62, Tryd.ntmps62
    go_wp2_with fail
    have hbW : Below w.heap.size w ((w.alloc (Obj.cells #[Value.int IntKind.u8 0] 5)).alloc (Obj.cells #[Value.int IntKind.u8 255] 5)) := Bel
    have hk := (Boxed.new w 5 (.int .u8 0)).alloc (Obj.cells #[Value.int IntKind.u8 255] 5)
    have hn := Boxed.new (w.alloc (Obj.cells #[Value.int IntKind.u8 0] 5)) 5 (.int .u8 255)
    rw [World.size_alloc] at hn
    generalize (w.alloc (Obj.cells #[Value.int IntKind.u8 0] 5)).alloc (Obj.cells #[Value.int IntKind.u8 255] 5) = W at hbW hk hn ⊢
    have c1 := bkc hbW hc1
    have c2 := bkc hbW hc2
    have g3 := bkc hbW f3
    refine region_qtail 13 (by kernel_rfl) (by kernel_rfl) (fun W' => ∃ n, W' = World.drewN W n) ⟨1, rfl⟩ ?_
    simp only [List.take_succ_cons, List.take_zero, List.drop_succ_cons, List.drop_zero]
    repeat (quiet_step ((go_at_call 63; exact Calls.quiet_of_same (hat W hbW _))))
    refine wpQuiet_nil ?_
    intro _ hw'
    obtain ⟨nq3, rfl⟩ := hw'
    go_wp2_with fail
    refine (try_c w.heap.size (w.heap.size + 1) 255 0 3 (j : Nat) (W.drewN _) hk hn (by omega)).mono ?_
    rintro e w3 ⟨rfl, hk3, hn3, hkb3, hz3⟩
    have hbW3 : Below w.heap.size w w3 := hkb3.to (by simp) (Bdn hbW _) (Nat.le_refl _)
    rw [if_pos (by omega)] at hk3 hn3
    have y1 := hk3.cell
    have y2 := hk3.frozen
    have y3 := hn3.cell
    have y4 := hn3.frozen
    go_wp2_with fail
    go_region
    go_wp2
    have hk4 : Boxed w3 w.heap.size 5 (.int .u8 3) := hk3
    have hn4 : Boxed w3 (w.heap.size + 1) 5 (.int .u8 j) := hn3
    have z3 := ((hn4.other (B' := w.heap.size) (by omega) (.int .u8 3)).set (.int .u8 j)).cell
    refine bodyPost_ret (v := .tuple #[.int .u8 3, .int .u8 j]) (by simp [results, Tryd.f62, go_sem, (hk4.set _).cell, z3]) rfl ?_
    rw [k1, k2]
    exact ⟨rfl, Below.drew (Bsc (Bsc hbW3 (Nat.le_refl _) _) (by simp) _)⟩
  · rcases Nat.eq_zero_or_pos j with h1 | h1
    · subst h1
      have k1 : kd a b i 0 = 2 := by unfold kd; rw [if_neg (by omega), if_pos ⟨h0, by rw [dd_left, dd_left]; omega⟩]
      have k2 : dd a b i 0 = i := dd_left a b i
      obtain ⟨p2, hp2⟩ : ∃ p, (i - 1) * (b.length + 1) = p := ⟨_, rfl⟩
      have f3 := hF (i - 1) 0 (by omega) (by omega) (by omega)
      rw [dd_left, hp2, Nat.add_zero] at f3
      have l3 : (p2 : Int) < (N : Int) := by
        have : (i - 1) * (b.length + 1) + 0 < (a.length + 1) * (b.length + 1) := place_lt (by omega) (by omega)
        rw [hp2, Nat.add_zero] at this
        rw [hN]; exact Int.ofNat_lt.2 this
      have HN := Lib.hid hN
      clear hN hF
      have HP2 := Lib.hid hp2
      clear hp2
      have hwi : IntKind.i64.wrap ((i : Int) - 1) = ((i - 1 : Nat) : Int) := by rw [IntWalk.i64_in _ (by omega)]; omega
      have hwu3 : IntKind.u8.wrap (((i - 1 : Nat) : Int) + 1) = (i : Int) := by rw [IntWalk.u8_in _ (by omega)]; omega
      have hat : ∀ W : World, Below w.heap.size w W → ∀ n, Calls Tryd.prog 63 #[.pointer (some ⟨G, 0, none⟩), .int .i64 (i - 1 : Nat), .int .i64 0] (W.drewN n) fun e w' => e = .returned (.int .i64 p2) ∧ w' = W.drewN n := fun W hW n => by
        have := at_c G _ b.length cb (i - 1) 0 _ (bkc (Bdn hW n) hc1) hb (by omega) (by omega)
        rw [HP2.out] at this
        simpa using this
      go_enter Tryd.func62, Tryd.ntmps62
      go_wp2_with fail
      have hbW : Below w.heap.size w ((w.alloc (Obj.cells #[Value.int IntKind.u8 0] 5)).alloc (Obj.cells #[Value.int IntKind.u8 255] 5)) := Bel
      have hk := (Boxed.new w 5 (.int .u8 0)).alloc (Obj.cells #[Value.int IntKind.u8 255] 5)
      have hn := Boxed.new (w.alloc (Obj.cells #[Value.int IntKind.u8 0] 5)) 5 (.int .u8 255)
      rw [World.size_alloc] at hn
      generalize (w.alloc (Obj.cells #[Value.int IntKind.u8 0] 5)).alloc (Obj.cells #[Value.int IntKind.u8 255] 5) = W at hbW hk hn ⊢
      have c1 := bkc hbW hc1
      have c2 := bkc hbW hc2
      have g3 := bkc hbW f3
      refine region_qtail 13 (by kernel_rfl) (by kernel_rfl) (fun W' => ∃ n, W' = World.drewN W n) ⟨1, rfl⟩ ?_
      simp only [List.take_succ_cons, List.take_zero, List.drop_succ_cons, List.drop_zero]
      repeat (quiet_step ((go_at_call 63; exact Calls.quiet_of_same (hat W hbW _))))
      refine wpQuiet_nil ?_
      intro _ hw'
      obtain ⟨nq3, rfl⟩ := hw'
      go_wp2_with fail
      refine (try_c w.heap.size (w.heap.size + 1) 255 0 2 (i : Nat) (W.drewN _) hk hn (by omega)).mono ?_
      rintro e w3 ⟨rfl, hk3, hn3, hkb3, hz3⟩
      have hbW3 : Below w.heap.size w w3 := hkb3.to (by simp) (Bdn hbW _) (Nat.le_refl _)
      rw [if_pos (by omega)] at hk3 hn3
      have y1 := hk3.cell
      have y2 := hk3.frozen
      have y3 := hn3.cell
      have y4 := hn3.frozen
      go_wp2_with fail
      go_region
      go_wp2
      have hk4 : Boxed w3 w.heap.size 5 (.int .u8 2) := hk3
      have hn4 : Boxed w3 (w.heap.size + 1) 5 (.int .u8 i) := hn3
      have z3 := ((hn4.other (B' := w.heap.size) (by omega) (.int .u8 2)).set (.int .u8 i)).cell
      refine bodyPost_ret (v := .tuple #[.int .u8 2, .int .u8 i]) (by simp [results, Tryd.f62, go_sem, (hk4.set _).cell, z3]) rfl ?_
      rw [k1, k2]
      exact ⟨rfl, Below.drew (Bsc (Bsc hbW3 (Nat.le_refl _) _) (by simp) _)⟩
    · obtain ⟨p1, hp1⟩ : ∃ p, (i - 1) * (b.length + 1) + (j - 1) = p := ⟨_, rfl⟩
      obtain ⟨p2, hp2⟩ : ∃ p, (i - 1) * (b.length + 1) + j = p := ⟨_, rfl⟩
      obtain ⟨p3, hp3⟩ : ∃ p, i * (b.length + 1) + (j - 1) = p := ⟨_, rfl⟩
      have l1 : (p1 : Int) < (N : Int) := by rw [hN, ← hp1]; exact Int.ofNat_lt.2 (place_lt (by omega) (by omega))
      have l2 : (p2 : Int) < (N : Int) := by rw [hN, ← hp2]; exact Int.ofNat_lt.2 (place_lt (by omega) hj)
      have l3 : (p3 : Int) < (N : Int) := by rw [hN, ← hp3]; exact Int.ofNat_lt.2 (place_lt hi (by omega))
      have f1 := hF (i - 1) (j - 1) (by omega) (by omega) (by omega)
      have f2 := hF (i - 1) j (by omega) (by omega) (by omega)
      have f3 := hF i (j - 1) (by omega) (by omega) (by omega)
      have b1 := dd_le a b _ (i - 1) (j - 1) (Nat.le_refl _)
      have b2 := dd_le a b _ (i - 1) j (Nat.le_refl _)
      have b3 := dd_le a b _ i (j - 1) (Nat.le_refl _)
      have HFIN := Lib.hid (best_fin a b i j h0 h1 _ _ _ _ rfl rfl rfl rfl)
      obtain ⟨d1, hd1⟩ : ∃ d, dd a b (i - 1) (j - 1) = d := ⟨_, rfl⟩
      obtain ⟨d2, hd2⟩ : ∃ d, dd a b (i - 1) j = d := ⟨_, rfl⟩
      obtain ⟨d3, hd3⟩ : ∃ d, dd a b i (j - 1) = d := ⟨_, rfl⟩
      rw [hd1] at f1 b1
      rw [hd2] at f2 b2
      rw [hd3] at f3 b3
      rw [hp1] at f1
      rw [hp2] at f2
      rw [hp3] at f3
      have HP1 := Lib.hid hp1
      have HP2 := Lib.hid hp2
      have HP3 := Lib.hid hp3
      have HD1 := Lib.hid hd1
      have HD2 := Lib.hid hd2
      have HD3 := Lib.hid hd3
      have HN := Lib.hid hN
      clear hp1 hp2 hp3 hd1 hd2 hd3 hN hF
      have hwi : IntKind.i64.wrap ((i : Int) - 1) = ((i - 1 : Nat) : Int) := by rw [IntWalk.i64_in _ (by omega)]; omega
      have hwj : IntKind.i64.wrap ((j : Int) - 1) = ((j - 1 : Nat) : Int) := by rw [IntWalk.i64_in _ (by omega)]; omega
      obtain ⟨ba, oa, rfl, x1⟩ := hA.at1 (fun _ => rfl) (Below.refl _ _) (i - 1) (by omega)
      obtain ⟨bb, ob, rfl, y1⟩ := hB.at1 (fun _ => rfl) (Below.refl _ _) (j - 1) (by omega)
      have hat : ∀ W : World, Below w.heap.size w W → ∀ x y : Nat, x ≤ 64 → y ≤ 64 → ∀ n, Calls Tryd.prog 63 #[.pointer (some ⟨G, 0, none⟩), .int .i64 x, .int .i64 y] (W.drewN n) fun e w' => e = .returned (.int .i64 (x * (b.length + 1) + y : Nat)) ∧ w' = W.drewN n := fun W hW x y hx hy n => at_c G _ b.length cb x y _ (bkc (Bdn hW n) hc1) hb hx hy
      go_enter Tryd.func62, Tryd.ntmps62
      go_wp2_with fail
      have hbW : Below w.heap.size w ((w.alloc (Obj.cells #[Value.int IntKind.u8 0] 5)).alloc (Obj.cells #[Value.int IntKind.u8 255] 5)) := Bel
      have hk := (Boxed.new w 5 (.int .u8 0)).alloc (Obj.cells #[Value.int IntKind.u8 255] 5)
      have hn := Boxed.new (w.alloc (Obj.cells #[Value.int IntKind.u8 0] 5)) 5 (.int .u8 255)
      rw [World.size_alloc] at hn
      generalize (w.alloc (Obj.cells #[Value.int IntKind.u8 0] 5)).alloc (Obj.cells #[Value.int IntKind.u8 255] 5) = W at hbW hk hn ⊢
      have c0 := bkc hbW hc0
      have c1 := bkc hbW hc1
      have c2 := bkc hbW hc2
      have g1 := bkc hbW f1
      have xx := bkc hbW x1
      have yy := bkc hbW y1
      go_quiet ((go_at_call 63; exact Calls.quiet_of_same (by have := hat W hbW (i - 1) (j - 1) (by omega) (by omega); rw [HP1.out] at this; exact this _)))
      go_wp2_with fail
      have hi1 : ((i - 1 : Nat) : Int) < a.length := by omega
      have hj1 : ((j - 1 : Nat) : Int) < b.length := by omega
      have hwu1 : IntKind.u8.wrap ((d1 : Int) + 1) = ((d1 + 1 : Nat) : Int) := by rw [IntWalk.u8_in _ (by omega)]; omega
      have hwu2 : IntKind.u8.wrap ((d2 : Int) + 1) = ((d2 + 1 : Nat) : Int) := by rw [IntWalk.u8_in _ (by omega)]; omega
      have hwu3 : IntKind.u8.wrap ((d3 : Int) + 1) = ((d3 + 1 : Nat) : Int) := by rw [IntWalk.u8_in _ (by omega)]; omega
      by_cases hq : a[i - 1] = b[j - 1]
      · have HQ : Hid (n01 a b (i - 1) (j - 1) = 0) := by show _ = _; unfold n01; rw [nth_at (by omega), nth_at (by omega), if_pos hq]
        have he : (a[i - 1] == b[j - 1]) = true := by simpa using hq
        clear hq
        go_quiet (fail)
        go_wp2_with fail
        refine (try_c w.heap.size (w.heap.size + 1) 255 0 0 d1 (W.drewN _) hk hn (by omega)).mono ?_
        rintro e w1 ⟨rfl, hk1, hn1, hkb1, hz1⟩
        have hbW1 : Below w.heap.size w w1 := hkb1.to (by simp) (Bdn hbW _) (Nat.le_refl _)
        have d1l : (d1 : Int) < 255 := by omega
        rw [if_pos d1l] at hk1 hn1
        obtain ⟨q, f1, hqf, hf1, hkq, hnq⟩ : ∃ q f1 : Nat, Hid (n01 a b (i - 1) (j - 1) = q ∧ d1 + q = f1) ∧ f1 ≤ 129 ∧ Boxed w1 w.heap.size 5 (.int .u8 q) ∧ Boxed w1 (w.heap.size + 1) 5 (.int .u8 f1) := ⟨0, d1, ⟨HQ.out, rfl⟩, by omega, hk1, hn1⟩
        clear hk1 hn1
        go_wp2_with fail
        have c2' := bkc hbW1 hc2
        have c1' := bkc hbW1 hc1
        have g2 := bkc hbW1 f2
        refine region_qtail 13 (by kernel_rfl) (by kernel_rfl) (fun W => ∃ n, W = World.drewN w1 n) ⟨1, rfl⟩ ?_
        simp only [List.take_succ_cons, List.take_zero, List.drop_succ_cons, List.drop_zero]
        repeat (quiet_step ((go_at_call 63; exact Calls.quiet_of_same (by have := hat w1 hbW1 (i - 1) j (by omega) (by omega); rw [HP2.out] at this; exact this _))))
        refine wpQuiet_nil ?_
        intro _ hw'
        obtain ⟨nq2, rfl⟩ := hw'
        go_wp2_with (go_at_call 91; refine (try_c w.heap.size (w.heap.size + 1) f1 q 2 (d2 + 1 : Nat) (w1.drewN _) hkq hnq (by omega)).mono ?_; rintro e w2 ⟨rfl, hk2, hn2, hkb2, hz2⟩)
        have hbW2 : Below w.heap.size w w2 := hkb2.to (by simp) (Bdn hbW1 _) (Nat.le_refl _)
        have c2' := bkc hbW2 hc2
        have c1' := bkc hbW2 hc1
        have g3 := bkc hbW2 f3
        have e2 : (if ((d2 + 1 : Nat) : Int) < f1 then (2 : Int) else q) = ((if d2 + 1 < f1 then 2 else q : Nat) : Int) := ite_cast (d2 + 1) f1 2 q
        have e3 : (if ((d2 + 1 : Nat) : Int) < f1 then ((d2 + 1 : Nat) : Int) else f1) = ((if d2 + 1 < f1 then d2 + 1 else f1 : Nat) : Int) := ite_cast (d2 + 1) f1 (d2 + 1) f1
        rw [e2] at hk2
        rw [e3] at hn2
        clear e2 e3
        refine region_qtail 13 (by kernel_rfl) (by kernel_rfl) (fun W => ∃ n, W = World.drewN w2 n) ⟨1, rfl⟩ ?_
        simp only [List.take_succ_cons, List.take_zero, List.drop_succ_cons, List.drop_zero]
        repeat (quiet_step ((go_at_call 63; exact Calls.quiet_of_same (by have := hat w2 hbW2 i (j - 1) (by omega) (by omega); rw [HP3.out] at this; exact this _))))
        refine wpQuiet_nil ?_
        intro _ hw'
        obtain ⟨nq3, rfl⟩ := hw'
        go_wp2_with fail
        refine (try_c w.heap.size (w.heap.size + 1) _ _ 3 (d3 + 1 : Nat) (w2.drewN _) hk2 hn2 (by omega)).mono ?_
        rintro e w3 ⟨rfl, hk3, hn3, hkb3, hz3⟩
        have hbW3 : Below w.heap.size w w3 := hkb3.to (by simp) (Bdn hbW2 _) (Nat.le_refl _)
        obtain ⟨hq1, hq2⟩ := hqf.out
        obtain ⟨r1, r2⟩ := best_fin a b i j h0 h1 f1 (d2 + 1) (d3 + 1) q (by rw [HD1.out, hq1]; exact hq2) (by rw [HD2.out]) (by rw [HD3.out]) hq1
        have e2 : (if ((d3 + 1 : Nat) : Int) < ((if d2 + 1 < f1 then d2 + 1 else f1 : Nat) : Int) then (3 : Int) else ((if d2 + 1 < f1 then 2 else q : Nat) : Int)) = ((kd a b i j : Nat) : Int) := by rw [← r1]; exact ite_cast (d3 + 1) _ 3 _
        have e3 : (if ((d3 + 1 : Nat) : Int) < ((if d2 + 1 < f1 then d2 + 1 else f1 : Nat) : Int) then ((d3 + 1 : Nat) : Int) else ((if d2 + 1 < f1 then d2 + 1 else f1 : Nat) : Int)) = ((dd a b i j : Nat) : Int) := by rw [← r2]; exact ite_cast (d3 + 1) _ (d3 + 1) _
        rw [e2] at hk3
        rw [e3] at hn3
        clear e2 e3 r1 r2
        have y1 := hk3.cell
        have y2 := hk3.frozen
        have y3 := hn3.cell
        have y4 := hn3.frozen
        go_wp2_with fail
        go_region
        go_wp2
        have hk4 : Boxed w3 w.heap.size 5 (.int .u8 (kd a b i j)) := hk3
        have hn4 : Boxed w3 (w.heap.size + 1) 5 (.int .u8 (dd a b i j)) := hn3
        have z3 := ((hn4.other (B' := w.heap.size) (by omega) (.int .u8 (kd a b i j))).set (.int .u8 (dd a b i j))).cell
        refine bodyPost_ret (v := .tuple #[.int .u8 (kd a b i j), .int .u8 (dd a b i j)]) (by simp [results, Tryd.f62, go_sem, (hk4.set _).cell, z3]) rfl ?_
        exact ⟨rfl, Below.drew (Bsc (Bsc hbW3 (Nat.le_refl _) _) (by simp) _)⟩
      · have HQ : Hid (n01 a b (i - 1) (j - 1) = 1) := by show _ = _; unfold n01; rw [nth_at (by omega), nth_at (by omega), if_neg hq]
        have he : (a[i - 1] == b[j - 1]) = false := by simpa using hq
        clear hq
        go_quiet (fail)
        go_wp2_with fail
        refine (try_c w.heap.size (w.heap.size + 1) 255 0 1 (d1 + 1 : Nat) (W.drewN _) hk hn (by omega)).mono ?_
        rintro e w1 ⟨rfl, hk1, hn1, hkb1, hz1⟩
        have hbW1 : Below w.heap.size w w1 := hkb1.to (by simp) (Bdn hbW _) (Nat.le_refl _)
        have d1l : ((d1 + 1 : Nat) : Int) < 255 := by omega
        rw [if_pos d1l] at hk1 hn1
        obtain ⟨q, f1, hqf, hf1, hkq, hnq⟩ : ∃ q f1 : Nat, Hid (n01 a b (i - 1) (j - 1) = q ∧ d1 + q = f1) ∧ f1 ≤ 129 ∧ Boxed w1 w.heap.size 5 (.int .u8 q) ∧ Boxed w1 (w.heap.size + 1) 5 (.int .u8 f1) := ⟨1, d1 + 1, ⟨HQ.out, rfl⟩, by omega, hk1, hn1⟩
        clear hk1 hn1
        go_wp2_with fail
        have c2' := bkc hbW1 hc2
        have c1' := bkc hbW1 hc1
        have g2 := bkc hbW1 f2
        refine region_qtail 13 (by kernel_rfl) (by kernel_rfl) (fun W => ∃ n, W = World.drewN w1 n) ⟨1, rfl⟩ ?_
        simp only [List.take_succ_cons, List.take_zero, List.drop_succ_cons, List.drop_zero]
        repeat (quiet_step ((go_at_call 63; exact Calls.quiet_of_same (by have := hat w1 hbW1 (i - 1) j (by omega) (by omega); rw [HP2.out] at this; exact this _))))
        refine wpQuiet_nil ?_
        intro _ hw'
        obtain ⟨nq2, rfl⟩ := hw'
        go_wp2_with (go_at_call 91; refine (try_c w.heap.size (w.heap.size + 1) f1 q 2 (d2 + 1 : Nat) (w1.drewN _) hkq hnq (by omega)).mono ?_; rintro e w2 ⟨rfl, hk2, hn2, hkb2, hz2⟩)
        have hbW2 : Below w.heap.size w w2 := hkb2.to (by simp) (Bdn hbW1 _) (Nat.le_refl _)
        have c2' := bkc hbW2 hc2
        have c1' := bkc hbW2 hc1
        have g3 := bkc hbW2 f3
        have e2 : (if ((d2 + 1 : Nat) : Int) < f1 then (2 : Int) else q) = ((if d2 + 1 < f1 then 2 else q : Nat) : Int) := ite_cast (d2 + 1) f1 2 q
        have e3 : (if ((d2 + 1 : Nat) : Int) < f1 then ((d2 + 1 : Nat) : Int) else f1) = ((if d2 + 1 < f1 then d2 + 1 else f1 : Nat) : Int) := ite_cast (d2 + 1) f1 (d2 + 1) f1
        rw [e2] at hk2
        rw [e3] at hn2
        clear e2 e3
        refine region_qtail 13 (by kernel_rfl) (by kernel_rfl) (fun W => ∃ n, W = World.drewN w2 n) ⟨1, rfl⟩ ?_
        simp only [List.take_succ_cons, List.take_zero, List.drop_succ_cons, List.drop_zero]
        repeat (quiet_step ((go_at_call 63; exact Calls.quiet_of_same (by have := hat w2 hbW2 i (j - 1) (by omega) (by omega); rw [HP3.out] at this; exact this _))))
        refine wpQuiet_nil ?_
        intro _ hw'
        obtain ⟨nq3, rfl⟩ := hw'
        go_wp2_with fail
        refine (try_c w.heap.size (w.heap.size + 1) _ _ 3 (d3 + 1 : Nat) (w2.drewN _) hk2 hn2 (by omega)).mono ?_
        rintro e w3 ⟨rfl, hk3, hn3, hkb3, hz3⟩
        have hbW3 : Below w.heap.size w w3 := hkb3.to (by simp) (Bdn hbW2 _) (Nat.le_refl _)
        obtain ⟨hq1, hq2⟩ := hqf.out
        obtain ⟨r1, r2⟩ := best_fin a b i j h0 h1 f1 (d2 + 1) (d3 + 1) q (by rw [HD1.out, hq1]; exact hq2) (by rw [HD2.out]) (by rw [HD3.out]) hq1
        have e2 : (if ((d3 + 1 : Nat) : Int) < ((if d2 + 1 < f1 then d2 + 1 else f1 : Nat) : Int) then (3 : Int) else ((if d2 + 1 < f1 then 2 else q : Nat) : Int)) = ((kd a b i j : Nat) : Int) := by rw [← r1]; exact ite_cast (d3 + 1) _ 3 _
        have e3 : (if ((d3 + 1 : Nat) : Int) < ((if d2 + 1 < f1 then d2 + 1 else f1 : Nat) : Int) then ((d3 + 1 : Nat) : Int) else ((if d2 + 1 < f1 then d2 + 1 else f1 : Nat) : Int)) = ((dd a b i j : Nat) : Int) := by rw [← r2]; exact ite_cast (d3 + 1) _ (d3 + 1) _
        rw [e2] at hk3
        rw [e3] at hn3
        clear e2 e3 r1 r2
        have y1 := hk3.cell
        have y2 := hk3.frozen
        have y3 := hn3.cell
        have y4 := hn3.frozen
        go_wp2_with fail
        go_region
        go_wp2
        have hk4 : Boxed w3 w.heap.size 5 (.int .u8 (kd a b i j)) := hk3
        have hn4 : Boxed w3 (w.heap.size + 1) 5 (.int .u8 (dd a b i j)) := hn3
        have z3 := ((hn4.other (B' := w.heap.size) (by omega) (.int .u8 (kd a b i j))).set (.int .u8 (dd a b i j))).cell
        refine bodyPost_ret (v := .tuple #[.int .u8 (kd a b i j), .int .u8 (dd a b i j)]) (by simp [results, Tryd.f62, go_sem, (hk4.set _).cell, z3]) rfl ?_
        exact ⟨rfl, Below.drew (Bsc (Bsc hbW3 (Nat.le_refl _) _) (by simp) _)⟩
end Go.Proofs.YtmpoihejacklnaaDoor
/- align's grid in plain Lean: its two rows, place by place. No condition. -/
namespace Go.Proofs.YtmpoihejacklnaaDoor
open Go Go.RowKit
theorem place_div {i j n : Nat} (hj : j ≤ n) : (i * (n + 1) + j) / (n + 1) = i := by
  rw [Nat.add_comm, Nat.add_mul_div_right _ _ (by omega), Nat.div_eq_of_lt (by omega), Nat.zero_add]
theorem place_mod {i j n : Nat} (hj : j ≤ n) : (i * (n + 1) + j) % (n + 1) = j := by
  rw [Nat.add_comm, Nat.add_mul_mod_self_right, Nat.mod_eq_of_lt (by omega)]
def fewL (a b : List Int) (m : Nat) : List Int := (List.range ((a.length + 1) * (b.length + 1))).map fun p => if p < m then ((dd a b (p / (b.length + 1)) (p % (b.length + 1)) : Nat) : Int) else 0
def kindL (a b : List Int) (m : Nat) : List Int := (List.range ((a.length + 1) * (b.length + 1))).map fun p => if 0 < p ∧ p < m then ((kd a b (p / (b.length + 1)) (p % (b.length + 1)) : Nat) : Int) else 0
theorem fewL_len (a b : List Int) (m : Nat) : (fewL a b m).length = (a.length + 1) * (b.length + 1) := by simp [fewL]
theorem kindL_len (a b : List Int) (m : Nat) : (kindL a b m).length = (a.length + 1) * (b.length + 1) := by simp [kindL]
theorem place_small {a b : List Int} {i j : Nat} (hi : i ≤ a.length) (hj : j ≤ b.length) : i * (b.length + 1) + j < (a.length + 1) * (b.length + 1) := by
  have h1 : i * (b.length + 1) ≤ a.length * (b.length + 1) := Nat.mul_le_mul_right _ hi
  rw [Nat.succ_mul]; omega
theorem fewL_at {a b : List Int} {m i j : Nat} (hi : i ≤ a.length) (hj : j ≤ b.length) (h : i * (b.length + 1) + j < m) : (fewL a b m)[i * (b.length + 1) + j]? = some ((dd a b i j : Nat) : Int) := by
  unfold fewL
  rw [List.getElem?_map, List.getElem?_range (place_small hi hj), Option.map_some, if_pos h, place_div hj, place_mod hj]
theorem kindL_at {a b : List Int} {m i j : Nat} (hi : i ≤ a.length) (hj : j ≤ b.length) (h : i * (b.length + 1) + j < m) (h0 : 0 < i + j) : (kindL a b m)[i * (b.length + 1) + j]? = some ((kd a b i j : Nat) : Int) := by
  unfold kindL
  have hp : 0 < i * (b.length + 1) + j := by
    rcases Nat.eq_zero_or_pos i with hi0 | hi0
    · subst hi0; omega
    · have : 0 < i * (b.length + 1) := Nat.mul_pos hi0 (by omega)
      omega
  rw [List.getElem?_map, List.getElem?_range (place_small hi hj), Option.map_some, if_pos ⟨hp, h⟩, place_div hj, place_mod hj]
theorem fewL_set {a b : List Int} {m i j : Nat} (hi : i ≤ a.length) (hj : j ≤ b.length) (h : i * (b.length + 1) + j = m) : (fewL a b m).set m ((dd a b i j : Nat) : Int) = fewL a b (m + 1) := by
  refine List.ext_getElem? fun q => ?_
  have hm : m < (a.length + 1) * (b.length + 1) := h ▸ place_small hi hj
  by_cases hq : q < (a.length + 1) * (b.length + 1)
  · rw [List.getElem?_set]
    unfold fewL
    rw [List.getElem?_map, List.getElem?_map, List.getElem?_range hq]
    by_cases e : m = q
    · subst e
      rw [if_pos rfl, if_pos (by simpa using hm), Option.map_some, if_pos (by omega), ← h, place_div hj, place_mod hj]
    · rw [if_neg e, Option.map_some, Option.map_some]
      by_cases h1 : q < m
      · rw [if_pos h1, if_pos (by omega)]
      · rw [if_neg h1, if_neg (by omega)]
  · rw [List.getElem?_eq_none (by rw [List.length_set, fewL_len]; omega), List.getElem?_eq_none (by rw [fewL_len]; omega)]
theorem kindL_set {a b : List Int} {m i j : Nat} (hi : i ≤ a.length) (hj : j ≤ b.length) (h : i * (b.length + 1) + j = m) (h0 : 0 < i + j) : (kindL a b m).set m ((kd a b i j : Nat) : Int) = kindL a b (m + 1) := by
  refine List.ext_getElem? fun q => ?_
  have hm : m < (a.length + 1) * (b.length + 1) := h ▸ place_small hi hj
  have hp : 0 < m := by
    rcases Nat.eq_zero_or_pos i with hi0 | hi0
    · subst hi0; omega
    · have : 0 < i * (b.length + 1) := Nat.mul_pos hi0 (by omega)
      omega
  by_cases hq : q < (a.length + 1) * (b.length + 1)
  · rw [List.getElem?_set]
    unfold kindL
    rw [List.getElem?_map, List.getElem?_map, List.getElem?_range hq]
    by_cases e : m = q
    · subst e
      rw [if_pos rfl, if_pos (by simpa using hm), Option.map_some, if_pos (by omega), ← h, place_div hj, place_mod hj]
    · rw [if_neg e, Option.map_some, Option.map_some]
      by_cases h1 : 0 < q ∧ q < m
      · rw [if_pos h1, if_pos (by omega)]
      · rw [if_neg h1, if_neg (by omega)]
  · rw [List.getElem?_eq_none (by rw [List.length_set, kindL_len]; omega), List.getElem?_eq_none (by rw [kindL_len]; omega)]
theorem fewL_zero (a b : List Int) : fewL a b 0 = List.replicate ((a.length + 1) * (b.length + 1)) 0 := by
  unfold fewL
  refine List.ext_getElem? fun q => ?_
  by_cases hq : q < (a.length + 1) * (b.length + 1)
  · rw [List.getElem?_map, List.getElem?_range hq, Option.map_some, if_neg (by omega), List.getElem?_replicate, if_pos hq]
  · rw [List.getElem?_eq_none (by simp; omega), List.getElem?_eq_none (by simp; omega)]
theorem kindL_zero (a b : List Int) : kindL a b 0 = List.replicate ((a.length + 1) * (b.length + 1)) 0 := by
  unfold kindL
  refine List.ext_getElem? fun q => ?_
  by_cases hq : q < (a.length + 1) * (b.length + 1)
  · rw [List.getElem?_map, List.getElem?_range hq, Option.map_some, if_neg (by omega), List.getElem?_replicate, if_pos hq]
  · rw [List.getElem?_eq_none (by simp; omega), List.getElem?_eq_none (by simp; omega)]
theorem fewL_one (a b : List Int) : fewL a b 1 = fewL a b 0 := by
  have h := fewL_set (a := a) (b := b) (m := 0) (i := 0) (j := 0) (by omega) (by omega) (by simp)
  rw [← h, dd_zero, fewL_zero]
  refine List.ext_getElem? fun q => ?_
  rw [List.getElem?_set]
  by_cases e : 0 = q
  · subst e
    have : 0 < (a.length + 1) * (b.length + 1) := Nat.mul_pos (by omega) (by omega)
    rw [if_pos rfl, if_pos (by simp), List.getElem?_replicate, if_pos this]; rfl
  · rw [if_neg e]
theorem kindL_one (a b : List Int) : kindL a b 1 = kindL a b 0 := by
  unfold kindL
  refine List.map_congr_left fun p _ => ?_
  rw [if_neg (by omega), if_neg (by omega)]
end Go.Proofs.YtmpoihejacklnaaDoor
/- A region that draws its order, in an order of one's own where at some places either of two operations may come first. No condition. -/
namespace Go.Proofs.YtmpoihejacklnaaDoor
open Go Go.RowKit
inductive OT where
  | nil
  | q (i : Nat) (r : OT)
  | t (i : Nat) (r : OT)
  | two (i : Nat) (r : OT) (j : Nat) (s : OT)
def OT.deep : OT → Nat
  | nil => 0
  | q _ r => r.deep + 1
  | t _ r => r.deep + 1
  | two _ r _ _ => r.deep + 1
def OT.okB (ops : Array Oper) : OT → Array Bool → Bool
  | nil, listed => (Region.ready .any ops listed).isEmpty
  | q i r, listed => (Region.ready .any ops listed).contains i && Region.free .any ops listed i && r.okB ops (listed.setIfInBounds i true)
  | t i r, listed => decide (Region.ready .any ops listed = [i]) && r.okB ops (listed.setIfInBounds i true)
  | two i r j s, listed => decide (Region.ready .any ops listed = [i, j]) && decide (r.deep = s.deep) && r.okB ops (listed.setIfInBounds i true) && s.okB ops (listed.setIfInBounds j true)
section
variable {P : Program} {ops : Array Oper}
def wpTr (P : Program) (ops : Array Oper) (w0 : World) (Q : Exit → Act → World → Prop) : OT → Act → World → Prop
  | .nil, a, w => Q .normal a w
  | .q i r, a, w => match ops[i]? with
    | none => False
    | some o => takeQ P ops w0 o a (fun a' => wpTr P ops w0 Q r a' w)
  | .t i r, a, w => match ops[i]? with
    | none => False
    | some o => if Region.wanted o (yielded ops a.tmps) then o.wp P a w (fun a' w' => Ext w0 w' ∧ wpTr P ops w0 Q r a' w') Q else wpTr P ops w0 Q r (a.put o.dst undef) w
  | .two i r j s, a, w => (match ops[i]? with
    | none => False
    | some o => if Region.wanted o (yielded ops a.tmps) then o.wp P a w (fun a' w' => Ext w0 w' ∧ wpTr P ops w0 Q r a' w') Q else wpTr P ops w0 Q r (a.put o.dst undef) w) ∧
    (match ops[j]? with
    | none => False
    | some o => if Region.wanted o (yielded ops a.tmps) then o.wp P a w (fun a' w' => Ext w0 w' ∧ wpTr P ops w0 Q s a' w') Q else wpTr P ops w0 Q s (a.put o.dst undef) w)
theorem wpOp_of_step {w0 : World} {Q : Exit → Act → World → Prop} {r : OT} {listed : Array Bool} {a : Act} {w : World} {i n : Nat} (hS : Ext w0 w)
    (ih : ∀ a w, Ext w0 w → wpTr P ops w0 Q r a w → wpAnyH P .any ops Q (Ext w0) n listed a w)
    (h : match ops[i]? with
      | none => False
      | some o => if Region.wanted o (yielded ops a.tmps) then o.wp P a w (fun a' w' => Ext w0 w' ∧ wpTr P ops w0 Q r a' w') Q else wpTr P ops w0 Q r (a.put o.dst undef) w) :
    wpOp P ops Q i (fun a' w' => Ext w0 w' ∧ wpAnyH P .any ops Q (Ext w0) n listed a' w') a w := by
  cases ho : ops[i]? with
  | none => rw [ho] at h; exact h.elim
  | some o =>
    rw [ho] at h
    unfold wpOp
    rw [ho]
    dsimp only at h ⊢
    by_cases hw : Region.wanted o (yielded ops a.tmps) = true
    · rw [if_pos hw] at h ⊢
      exact .inl (Oper.wp_mono (fun a' w' h' => ⟨h'.1, ih a' w' h'.1 h'.2⟩) h)
    · rw [if_neg hw] at h ⊢
      exact ⟨hS, ih _ _ hS h⟩
theorem wpAnyH_of_tree {w0 : World} {Q : Exit → Act → World → Prop} (hsel : Region.noSelect ops = true) (hQ : ∀ c a d v w, Q (.panic c) (Act.put a d v) w → Q (.panic c) a w) :
    ∀ (l : OT) (listed : Array Bool) (a : Act) (w : World), Ext w0 w → l.okB ops listed = true → wpTr P ops w0 Q l a w → wpAnyH P .any ops Q (Ext w0) l.deep listed a w
  | .nil, listed, a, w, _, hB, h => by
    have h0 : Region.ready .any ops listed = [] := by simpa [OT.okB] using hB
    exact wpAnyH_done h0 h 0
  | .q i r, listed, a, w, hS, hB, h => by
    simp only [OT.okB, Bool.and_eq_true] at hB
    obtain ⟨⟨hr, hf⟩, hB⟩ := hB
    simp only [wpTr] at h
    cases ho : ops[i]? with
    | none => rw [ho] at h; exact h.elim
    | some o =>
      rw [ho] at h
      simp only [takeQ] at h
      by_cases hw : Region.wanted o (yielded ops a.tmps) = true
      · rw [if_pos hw] at h
        obtain ⟨v, h1, h2⟩ := h
        exact wpAnyH_take ho hsel hf hr (fun c a w => hQ c a _ _ w) (.inl ⟨hw, fun W hW => by obtain ⟨X, rfl⟩ := hW; exact h1 X⟩) hS (wpAnyH_of_tree hsel hQ r _ _ w hS hB h2)
      · rw [if_neg hw] at h
        exact wpAnyH_take ho hsel hf hr (fun c a w => hQ c a _ _ w) (.inr ⟨by simpa using hw, rfl⟩) hS (wpAnyH_of_tree hsel hQ r _ _ w hS hB h)
  | .t i r, listed, a, w, hS, hB, h => by
    simp only [OT.okB, Bool.and_eq_true, decide_eq_true_eq] at hB
    obtain ⟨hr, hB⟩ := hB
    simp only [wpTr] at h
    refine wpAnyH_all hr (by simp) fun j hj => ?_
    obtain rfl : j = i := by simpa using hj
    exact wpOp_of_step hS (fun a w hS h => wpAnyH_of_tree hsel hQ r _ a w hS hB h) h
  | .two i r j s, listed, a, w, hS, hB, h => by
    simp only [OT.okB, Bool.and_eq_true, decide_eq_true_eq] at hB
    obtain ⟨⟨⟨hr, hd⟩, hB1⟩, hB2⟩ := hB
    simp only [wpTr] at h
    refine wpAnyH_all hr (by simp) fun k hk => ?_
    rcases List.mem_cons.1 hk with rfl | hk
    · exact wpOp_of_step hS (fun a w hS h => wpAnyH_of_tree hsel hQ r _ a w hS hB1 h) h.1
    · obtain rfl : k = j := by simpa using hk
      exact wpOp_of_step hS (fun a w hS h => by rw [hd]; exact wpAnyH_of_tree hsel hQ s _ a w hS hB2 h) h.2
theorem region_tree {id : Nat} {Q : Exit → Act → World → Prop} {a : Act} {w : World} (L : OT) (hm : P.follows .mixedOrders = true) (hB : (Region.noSelect ops && decide (L.deep = ops.size) && L.okB ops (Array.replicate ops.size false)) = true)
    (h : ∀ W, Below w.heap.size w W → wpTr P ops W (noP Q) L a W) : (Code.region id ops true).wp P Q a w := by
  refine wp_mono (Q := noP Q) ?_ noP_le
  have h := h w.drew (Below.refl _ w).drew
  simp only [Bool.and_eq_true, decide_eq_true_eq] at hB
  obtain ⟨⟨hsel, hl⟩, hB⟩ := hB
  refine wp_region_held (S := Ext w.drew) hm ?_
  have h' := wpAnyH_of_tree hsel (fun _ _ _ _ _ h => h.elim) L _ a _ (.of (Below.refl _ _)) hB h
  rw [hl] at h'
  exact h'
theorem tr_nil {w0 : World} {Q : Exit → Act → World → Prop} {a : Act} {w : World} (h : Q .normal a w) : wpTr P ops w0 Q .nil a w := by simp only [wpTr]; exact h
theorem tr_q {w0 : World} {Q : Exit → Act → World → Prop} {a : Act} {w : World} {i : Nat} {r : OT} {o : Oper} (ho : ops[i]? = some o)
    (h : ∀ K : Act → Prop, (∀ a', wpTr P ops w0 Q r a' w → K a') → takeQ P ops w0 o a K) : wpTr P ops w0 Q (.q i r) a w := by
  simp only [wpTr, ho]
  exact h _ fun _ h => h
theorem tr_step {w0 : World} {Q : Exit → Act → World → Prop} {a : Act} {w : World} {i : Nat} {r : OT} {o : Oper} (ho : ops[i]? = some o)
    (h : ∀ K : Act → World → Prop, (∀ a' w', Ext w0 w' → wpTr P ops w0 Q r a' w' → K a' w') → if Region.wanted o (yielded ops a.tmps) then o.wp P a w K Q else K (a.put o.dst undef) w) :
    (match ops[i]? with
      | none => False
      | some o => if Region.wanted o (yielded ops a.tmps) then o.wp P a w (fun a' w' => Ext w0 w' ∧ wpTr P ops w0 Q r a' w') Q else wpTr P ops w0 Q r (a.put o.dst undef) w) := by
  rw [ho]
  dsimp only
  have h' := h (fun a' w' => Ext w0 w' ∧ wpTr P ops w0 Q r a' w') fun _ _ h1 h2 => ⟨h1, h2⟩
  split
  · rename_i hw; rw [if_pos hw] at h'; exact h'
  · rename_i hw; rw [if_neg hw] at h'; exact h'.2
theorem tr_t {w0 : World} {Q : Exit → Act → World → Prop} {a : Act} {w : World} {i : Nat} {r : OT} {o : Oper} (ho : ops[i]? = some o)
    (h : ∀ K : Act → World → Prop, (∀ a' w', Ext w0 w' → wpTr P ops w0 Q r a' w' → K a' w') → if Region.wanted o (yielded ops a.tmps) then o.wp P a w K Q else K (a.put o.dst undef) w) : wpTr P ops w0 Q (.t i r) a w := by
  simp only [wpTr]
  exact tr_step ho h
theorem tr_two {w0 : World} {Q : Exit → Act → World → Prop} {a : Act} {w : World} {i j : Nat} {r s : OT} {o p : Oper} (ho : ops[i]? = some o) (hp : ops[j]? = some p)
    (h : ∀ K : Act → World → Prop, (∀ a' w', Ext w0 w' → wpTr P ops w0 Q r a' w' → K a' w') → if Region.wanted o (yielded ops a.tmps) then o.wp P a w K Q else K (a.put o.dst undef) w)
    (k : ∀ K : Act → World → Prop, (∀ a' w', Ext w0 w' → wpTr P ops w0 Q s a' w' → K a' w') → if Region.wanted p (yielded ops a.tmps) then p.wp P a w K Q else K (a.put p.dst undef) w) : wpTr P ops w0 Q (.two i r j s) a w := by
  simp only [wpTr]
  exact ⟨tr_step ho h, tr_step hp k⟩
end
attribute [irreducible] wpTr
end Go.Proofs.YtmpoihejacklnaaDoor
/- A region that draws its order, in an order of one's own where at some places either of two operations may come first; some blocks S may be turned. No condition. -/
namespace Go.Proofs.YtmpoihejacklnaaDoor
open Go Go.RowKit
section
variable {P : Program} {ops : Array Oper} {S : List Nat}
def wpTrS (P : Program) (ops : Array Oper) (w0 : World) (S : List Nat) (Q : Exit → Act → World → Prop) : OT → Act → World → Prop
  | .nil, a, w => Q .normal a w
  | .q i r, a, w => match ops[i]? with
    | none => False
    | some o => takeS P ops w0 S o a (fun a' => wpTrS P ops w0 S Q r a' w)
  | .t i r, a, w => match ops[i]? with
    | none => False
    | some o => if Region.wanted o (yielded ops a.tmps) then o.wp P a w (fun a' w' => ExtS w0 S w' ∧ wpTrS P ops w0 S Q r a' w') Q else wpTrS P ops w0 S Q r (a.put o.dst undef) w
  | .two i r j s, a, w => (match ops[i]? with
    | none => False
    | some o => if Region.wanted o (yielded ops a.tmps) then o.wp P a w (fun a' w' => ExtS w0 S w' ∧ wpTrS P ops w0 S Q r a' w') Q else wpTrS P ops w0 S Q r (a.put o.dst undef) w) ∧
    (match ops[j]? with
    | none => False
    | some o => if Region.wanted o (yielded ops a.tmps) then o.wp P a w (fun a' w' => ExtS w0 S w' ∧ wpTrS P ops w0 S Q s a' w') Q else wpTrS P ops w0 S Q s (a.put o.dst undef) w)
theorem wpOp_of_stepS {w0 : World} {Q : Exit → Act → World → Prop} {r : OT} {listed : Array Bool} {a : Act} {w : World} {i n : Nat} (hS : ExtS w0 S w)
    (ih : ∀ a w, ExtS w0 S w → wpTrS P ops w0 S Q r a w → wpAnyH P .any ops Q (ExtS w0 S) n listed a w)
    (h : match ops[i]? with
      | none => False
      | some o => if Region.wanted o (yielded ops a.tmps) then o.wp P a w (fun a' w' => ExtS w0 S w' ∧ wpTrS P ops w0 S Q r a' w') Q else wpTrS P ops w0 S Q r (a.put o.dst undef) w) :
    wpOp P ops Q i (fun a' w' => ExtS w0 S w' ∧ wpAnyH P .any ops Q (ExtS w0 S) n listed a' w') a w := by
  cases ho : ops[i]? with
  | none => rw [ho] at h; exact h.elim
  | some o =>
    rw [ho] at h
    unfold wpOp
    rw [ho]
    dsimp only at h ⊢
    by_cases hw : Region.wanted o (yielded ops a.tmps) = true
    · rw [if_pos hw] at h ⊢
      exact .inl (Oper.wp_mono (fun a' w' h' => ⟨h'.1, ih a' w' h'.1 h'.2⟩) h)
    · rw [if_neg hw] at h ⊢
      exact ⟨hS, ih _ _ hS h⟩
theorem wpAnyH_of_treeS {w0 : World} {Q : Exit → Act → World → Prop} (hsel : Region.noSelect ops = true) (hQ : ∀ c a d v w, Q (.panic c) (Act.put a d v) w → Q (.panic c) a w) :
    ∀ (l : OT) (listed : Array Bool) (a : Act) (w : World), ExtS w0 S w → l.okB ops listed = true → wpTrS P ops w0 S Q l a w → wpAnyH P .any ops Q (ExtS w0 S) l.deep listed a w
  | .nil, listed, a, w, _, hB, h => by
    have h0 : Region.ready .any ops listed = [] := by simpa [OT.okB] using hB
    exact wpAnyH_done h0 h 0
  | .q i r, listed, a, w, hS, hB, h => by
    simp only [OT.okB, Bool.and_eq_true] at hB
    obtain ⟨⟨hr, hf⟩, hB⟩ := hB
    simp only [wpTrS] at h
    cases ho : ops[i]? with
    | none => rw [ho] at h; exact h.elim
    | some o =>
      rw [ho] at h
      simp only [takeS] at h
      by_cases hw : Region.wanted o (yielded ops a.tmps) = true
      · rw [if_pos hw] at h
        obtain ⟨v, h1, h2⟩ := h
        exact wpAnyH_take ho hsel hf hr (fun c a w => hQ c a _ _ w) (.inl ⟨hw, fun W hW => by obtain ⟨X, rfl⟩ := hW; exact h1 X⟩) hS (wpAnyH_of_treeS hsel hQ r _ _ w hS hB h2)
      · rw [if_neg hw] at h
        exact wpAnyH_take ho hsel hf hr (fun c a w => hQ c a _ _ w) (.inr ⟨by simpa using hw, rfl⟩) hS (wpAnyH_of_treeS hsel hQ r _ _ w hS hB h)
  | .t i r, listed, a, w, hS, hB, h => by
    simp only [OT.okB, Bool.and_eq_true, decide_eq_true_eq] at hB
    obtain ⟨hr, hB⟩ := hB
    simp only [wpTrS] at h
    refine wpAnyH_all hr (by simp) fun j hj => ?_
    obtain rfl : j = i := by simpa using hj
    exact wpOp_of_stepS hS (fun a w hS h => wpAnyH_of_treeS hsel hQ r _ a w hS hB h) h
  | .two i r j s, listed, a, w, hS, hB, h => by
    simp only [OT.okB, Bool.and_eq_true, decide_eq_true_eq] at hB
    obtain ⟨⟨⟨hr, hd⟩, hB1⟩, hB2⟩ := hB
    simp only [wpTrS] at h
    refine wpAnyH_all hr (by simp) fun k hk => ?_
    rcases List.mem_cons.1 hk with rfl | hk
    · exact wpOp_of_stepS hS (fun a w hS h => wpAnyH_of_treeS hsel hQ r _ a w hS hB1 h) h.1
    · obtain rfl : k = j := by simpa using hk
      exact wpOp_of_stepS hS (fun a w hS h => by rw [hd]; exact wpAnyH_of_treeS hsel hQ s _ a w hS hB2 h) h.2
theorem region_treeS {id : Nat} {Q : Exit → Act → World → Prop} {a : Act} {w : World} (S : List Nat) (L : OT) (hm : P.follows .mixedOrders = true) (hB : (Region.noSelect ops && decide (L.deep = ops.size) && L.okB ops (Array.replicate ops.size false)) = true)
    (h : ∀ W, Below w.heap.size w W → wpTrS P ops W S (noP Q) L a W) : (Code.region id ops true).wp P Q a w := by
  refine wp_mono (Q := noP Q) ?_ noP_le
  have h := h w.drew (Below.refl _ w).drew
  simp only [Bool.and_eq_true, decide_eq_true_eq] at hB
  obtain ⟨⟨hsel, hl⟩, hB⟩ := hB
  refine wp_region_held (S := ExtS w.drew S) hm ?_
  have h' := wpAnyH_of_treeS hsel (fun _ _ _ _ _ h => h.elim) L _ a _ (.of (Kb.refl _ _)) hB h
  rw [hl] at h'
  exact h'
theorem trS_nil {w0 : World} {Q : Exit → Act → World → Prop} {a : Act} {w : World} (h : Q .normal a w) : wpTrS P ops w0 S Q .nil a w := by simp only [wpTrS]; exact h
theorem trS_q {w0 : World} {Q : Exit → Act → World → Prop} {a : Act} {w : World} {i : Nat} {r : OT} {o : Oper} (ho : ops[i]? = some o)
    (h : ∀ K : Act → Prop, (∀ a', wpTrS P ops w0 S Q r a' w → K a') → takeS P ops w0 S o a K) : wpTrS P ops w0 S Q (.q i r) a w := by
  simp only [wpTrS, ho]
  exact h _ fun _ h => h
theorem trS_step {w0 : World} {Q : Exit → Act → World → Prop} {a : Act} {w : World} {i : Nat} {r : OT} {o : Oper} (ho : ops[i]? = some o)
    (h : ∀ K : Act → World → Prop, (∀ a' w', ExtS w0 S w' → wpTrS P ops w0 S Q r a' w' → K a' w') → if Region.wanted o (yielded ops a.tmps) then o.wp P a w K Q else K (a.put o.dst undef) w) :
    (match ops[i]? with
      | none => False
      | some o => if Region.wanted o (yielded ops a.tmps) then o.wp P a w (fun a' w' => ExtS w0 S w' ∧ wpTrS P ops w0 S Q r a' w') Q else wpTrS P ops w0 S Q r (a.put o.dst undef) w) := by
  rw [ho]
  dsimp only
  have h' := h (fun a' w' => ExtS w0 S w' ∧ wpTrS P ops w0 S Q r a' w') fun _ _ h1 h2 => ⟨h1, h2⟩
  split
  · rename_i hw; rw [if_pos hw] at h'; exact h'
  · rename_i hw; rw [if_neg hw] at h'; exact h'.2
theorem trS_t {w0 : World} {Q : Exit → Act → World → Prop} {a : Act} {w : World} {i : Nat} {r : OT} {o : Oper} (ho : ops[i]? = some o)
    (h : ∀ K : Act → World → Prop, (∀ a' w', ExtS w0 S w' → wpTrS P ops w0 S Q r a' w' → K a' w') → if Region.wanted o (yielded ops a.tmps) then o.wp P a w K Q else K (a.put o.dst undef) w) : wpTrS P ops w0 S Q (.t i r) a w := by
  simp only [wpTrS]
  exact trS_step ho h
theorem trS_two {w0 : World} {Q : Exit → Act → World → Prop} {a : Act} {w : World} {i j : Nat} {r s : OT} {o p : Oper} (ho : ops[i]? = some o) (hp : ops[j]? = some p)
    (h : ∀ K : Act → World → Prop, (∀ a' w', ExtS w0 S w' → wpTrS P ops w0 S Q r a' w' → K a' w') → if Region.wanted o (yielded ops a.tmps) then o.wp P a w K Q else K (a.put o.dst undef) w)
    (k : ∀ K : Act → World → Prop, (∀ a' w', ExtS w0 S w' → wpTrS P ops w0 S Q s a' w' → K a' w') → if Region.wanted p (yielded ops a.tmps) then p.wp P a w K Q else K (a.put p.dst undef) w) : wpTrS P ops w0 S Q (.two i r j s) a w := by
  simp only [wpTrS]
  exact ⟨trS_step ho h, trS_step hp k⟩
end
attribute [irreducible] wpTrS
end Go.Proofs.YtmpoihejacklnaaDoor
