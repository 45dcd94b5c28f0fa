/- align's steps from the end on, as an iterator. No condition. -/
import Derived.Test.YtpnhmapkdbnkmaaGreatDoorFil
import Derived.Test.YtpnhmapkdbnkmaaGreatDoorR4s
import Derived.ControlIn
namespace Go.Proofs.YtpnhmapkdbnkmaaGreatDoor
open Go Go.RowKit Go.Shelf
attribute [local go_sem] Oper.semAt_some
theorem below_grown {w w' : World} (h : Below w.heap.size w w') : w.grownBy w' none := ⟨h.os, h.tape, h.output, h.size, fun i hi _ => h.block i hi⟩
set_option maxRecDepth 100000 in
set_option maxHeartbeats 2000000 in
theorem back1_in (n : Nat) (hn : 1 ≤ n) (l Bn G : Nat) (a b : List Int) (w0 : World) (hG : GridAt w0 G a b) (ha : a.length ≤ 64) (hb : b.length ≤ 64) (hBn : w0.cell? ⟨Bn, 0, none⟩ = some (.pointer (some ⟨G, 0, none⟩))) (J Jx : List St → World → Prop) (W : World)
    (hJ : AbidesFrom W.heap.size J)
    (hY : ∀ pre x W1, J pre W1 → pre.length < a.length + b.length → YieldAt Fence.wide (n - 1) Tryz.prog l #[.agg #[.int .i64 x.k, .int .i32 x.a, .int .i32 x.b]] W1 fun e W' =>
      (e = .returned (.bool true) ∧ J (pre ++ [x]) W' ∧ Below w0.heap.size W1 W') ∨ (e = .returned (.bool false) ∧ Jx (pre ++ [x]) W'))
    (hb0 : Below w0.heap.size w0 W) (h0 : J [] W) :
    CallsIn Fence.wide n Tryz.prog 204 #[.func (.yield l) #[] #[], .pointer (some ⟨Bn, 0, none⟩)] W fun e W' => (∃ v, e = .returned v) ∧
      ((∃ ys, ys = backL a b a.length b.length ∧ J ys W') ∨ (∃ pre, (∃ q, backL a b a.length b.length = pre ++ q) ∧ Jx pre W')) := by
  have hGG := hG
  obtain ⟨A, ca, B, cb, gf, gk, N, c0, c1, c2, c3, hN, hA, hB, hF, hK⟩ := hG.c
  clear hG hF c2
  have HN := Lib.hid hN
  clear hN
  refine callsIn_of_wp Tryz.func204 rfl trivial ?_ rfl
  simp only [Tryz.ntmps204, List.size_toArray, List.length_cons, List.length_nil, Nat.reduceAdd, Nat.reduceSub, Array.replicate_succ, Array.replicate_zero, List.push_toArray, List.append_toArray, List.nil_append, List.cons_append]
  have z0 := bkc hb0 c0
  have z1 := bkc hb0 c1
  have zB := bkc hb0 hBn
  refine scope_in ?_
  refine wpIn_seq_k (fun K1 hK1 => ?_)
  refine wpIn_wide.2 (region_tree (.q 0 (.q 1 (.q 2 (.q 3 (.q 4 (.q 5 (.q 6 (.q 7 (.q 8 (.q 9 (.q 10 (.q 11 .nil)))))))))))) (by kernel_rfl) (by kernel_rfl) ?_)
  intro W2 hW2
  have hb2 : Below w0.heap.size w0 W2 := Bst hb0 hW2
  replace z0 := bkc hW2 z0
  replace z1 := bkc hW2 z1
  replace zB := bkc hW2 zB
  repeat (refine tr_q rfl (fun K hK => ?_); unfold takeQ; go_simp; refine hK _ ?_; clear hK K)
  refine tr_nil ?_
  rw [noP_normal]
  refine hK1 _ _ ?_
  clear hK1 K1
  refine wpIn_seq_k fun K hK => wpIn_label (hK _ _ ?_)
  clear hK K
  gi_wp2
  have HG := Lib.hid (show GridAt w0 G a b from hGG)
  gi_loopw [3, 4] (fun si sj wr => ∃ (i j : Nat) (pre : List St), si = .int .i64 i ∧ sj = .int .i64 j ∧ i ≤ a.length ∧ j ≤ b.length ∧ Hid (pre ++ backL a b i j = backL a b a.length b.length ∧ pre.length + (i + j) ≤ a.length + b.length) ∧ J pre wr ∧ Below w0.heap.size w0 wr) (fun si sj _ => (intOf si).toNat + (intOf sj).toNat)
  case atStart => exact ⟨a.length, b.length, [], rfl, rfl, by omega, by omega, ⟨by simp, by simp⟩, hJ _ _ _ none h0 (below_grown hW2) (fun r e => by cases e), hb2⟩
  case round =>
    obtain ⟨i, j, pre, rfl, rfl, hi, hj, HP, hJp, hb⟩ := hrel
    rename World => wo
    by_cases h00 : i + j = 0
    · obtain rfl : i = 0 := by omega
      obtain rfl : j = 0 := by omega
      gi_wp2
      go_end0
      have h := HP.out.1
      rw [backL_nil, List.append_nil] at h
      rw [h] at hJp
      exact ⟨⟨_, rfl⟩, .inl hJp⟩
    · have hij : (0 : Int) < (i : Int) + (j : Int) := by omega
      obtain ⟨P, hP⟩ : ∃ P, i * (b.length + 1) + j = P := ⟨_, rfl⟩
      have hPN : (P : Int) < (N : Int) := by rw [HN.out, ← hP]; exact Int.ofNat_lt.2 (place_small hi hj)
      have hk := hK i j hi hj (by omega)
      rw [hP] at hk
      have hkd := kd_le a b i j
      obtain ⟨kk, hkk⟩ : ∃ kk, kd a b i j = kk := ⟨_, rfl⟩
      rw [hkk] at hk hkd
      have hwk : IntKind.i64.wrap (kk : Int) = (kk : Int) := IntWalk.i64_in _ (by omega)
      have y1 := bkc hb c1
      have y3 := bkc hb c3
      have yB := bkc hb hBn
      have yk := bkc hb hk
      gi_wp2_with fail
      refine wpIn_wide.2 (wp_mono (Q := fun e a' W9 => e = Exit.normal ∧ ∃ W, Below wo.heap.size wo W ∧ W9 = W.alloc (.cells #[.int .i64 kk, .int .i32 0, .int .i32 0] 265) ∧ a' = { tmps := #[.func (Fn.yield l) #[] #[], .pointer (some ⟨Bn, 0, none⟩), undef, .int .i64 i, .int .i64 j, .pointer (some ⟨W.heap.size, 0, none⟩), .pointer (some ⟨G, 0, none⟩), .pointer (some ⟨G, 0, none⟩), .pointer (some ⟨G, 0, none⟩), .slice A a.length ca, .int .i64 a.length, .pointer (some ⟨G, 0, none⟩), .pointer (some ⟨G, 0, none⟩), .pointer (some ⟨G, 1, none⟩), .slice B b.length cb, .int .i64 b.length, .int .i64 i, .int .i64 j, .int .i64 (i + j), .bool true, .pointer (some ⟨G, 0, none⟩), .pointer (some ⟨G, 0, none⟩), .pointer (some ⟨G, 3, none⟩), .slice (some ⟨gk, 0, none⟩) N N, .pointer (some ⟨G, 0, none⟩), .int .i64 i, .int .i64 j, .int .i64 P, .pointer (some ⟨gk, P, none⟩), .int .u8 kk, .int .i64 kk, .agg #[.int .i64 kk, .int .i32 0, .int .i32 0], u32, u33, u34, u35, u36, u37, u38, u39, u40, u41, u42, u43, u44, u45, u46, u47, u48, u49, u50, u51, u52, u53, u54, u55, u56, u57, u58, u59, u60, u61], defers := [] }) ?region ?rest)
      case region =>
        refine region_tree (.q 0 (.q 1 (.q 2 (.q 3 (.q 4 (.q 5 (.q 6 (.two 7 (.q 8 (.q 9 (.q 10 (.q 11 (.t 12 (.t 13 .nil)))))) 12 (.t 7 (.q 8 (.q 9 (.t 10 (.q 11 (.t 13 .nil)))))))))))))) (by kernel_rfl) (by kernel_rfl) ?_
        intro W hW
        replace y1 := bkc hW y1
        replace y3 := bkc hW y3
        replace yB := bkc hW yB
        replace yk := bkc hW yk
        have hat : ∀ W1 : World, W1.cell? ⟨G, 1, none⟩ = some (.slice B b.length cb) → Calls Tryz.prog 202 #[.pointer (some ⟨G, 0, none⟩), .int .i64 i, .int .i64 j] W1 fun e w' => e = .returned (.int .i64 (P : Nat)) ∧ w' = W1 := fun W1 h => by
          have := at_c G B b.length cb i j W1 h (by omega) (by omega) (by omega)
          rw [hP] at this
          exact this
        repeat (refine tr_q rfl (fun K hK => ?_); unfold takeQ; go_simp; refine hK _ ?_; clear hK K)
        refine tr_two rfl rfl (fun K hK => ?_) (fun K hK => ?_)
        · go_simp; refine (hat _ y1).mono ?_; rintro e w5 ⟨rfl, h5⟩; obtain rfl := h5.symm; clear h5; go_simp; refine hK _ _ (.of Bel) ?_; clear hK K
          repeat (refine tr_q rfl (fun K hK => ?_); unfold takeQ; go_simp; refine hK _ ?_; clear hK K)
          refine tr_t rfl (fun K hK => ?_); go_simp; refine hK _ _ (.of Bel) ?_; clear hK K
          refine tr_t rfl (fun K hK => ?_); go_simp; refine hK _ _ (.of Bel) ?_; clear hK K
          refine tr_nil ?_
          rw [noP_normal]
          exact ⟨rfl, W, hW, rfl, rfl⟩
        · go_simp; refine hK _ _ (.of Bel) ?_; clear hK K
          refine tr_t rfl (fun K hK => ?_); go_simp; refine (hat _ (bkc Bel y1)).mono ?_; rintro e w5 ⟨rfl, h5⟩; obtain rfl := h5.symm; clear h5; go_simp; refine hK _ _ (.of Bel) ?_; clear hK K
          repeat (refine tr_q rfl (fun K hK => ?_); unfold takeQ; go_simp; refine hK _ ?_; clear hK K)
          refine tr_t rfl (fun K hK => ?_); go_simp; refine hK _ _ (.of Bel) ?_; clear hK K
          repeat (refine tr_q rfl (fun K hK => ?_); unfold takeQ; go_simp; refine hK _ ?_; clear hK K)
          refine tr_t rfl (fun K hK => ?_); go_simp; refine hK _ _ (.of Bel) ?_; clear hK K
          refine tr_nil ?_
          rw [noP_normal]
          exact ⟨rfl, W, hW, rfl, rfl⟩
      case rest =>
        rintro _ _ W9 ⟨rfl, W, hW, rfl, rfl⟩
        have hWa : Below W.heap.size W (W.alloc (.cells #[.int .i64 kk, .int .i32 0, .int .i32 0] 265)) := Bel
        have k0 : (W.alloc (.cells #[.int .i64 kk, .int .i32 0, .int .i32 0] 265)).cell? ⟨W.heap.size, 0, none⟩ = some (.int .i64 kk) := by simp [go_sem]
        have k1 : (W.alloc (.cells #[.int .i64 kk, .int .i32 0, .int .i32 0] 265)).cell? ⟨W.heap.size, 1, none⟩ = some (.int .i32 0) := by simp [go_sem]
        have k2 : (W.alloc (.cells #[.int .i64 kk, .int .i32 0, .int .i32 0] 265)).cell? ⟨W.heap.size, 2, none⟩ = some (.int .i32 0) := by simp [go_sem]
        have f1 : (W.alloc (.cells #[.int .i64 kk, .int .i32 0, .int .i32 0] 265)).frozen? ⟨W.heap.size, 1, none⟩ = false := by simp [go_sem]
        have f2 : (W.alloc (.cells #[.int .i64 kk, .int .i32 0, .int .i32 0] 265)).frozen? ⟨W.heap.size, 2, none⟩ = false := by simp [go_sem]
        generalize (W.alloc (.cells #[.int .i64 kk, .int .i32 0, .int .i32 0] 265)) = Wa at *
        have hbW0 : Below w0.heap.size w0 W := Bst hb hW
        have hs0 := hbW0.size
        have hsb := (bkc hbW0 hBn)
        have nB : Bn ≠ W.heap.size := by have := World.block_lt_of_cell? _ _ hsb; simp only at this; omega
        have nG : G ≠ W.heap.size := by have := World.block_lt_of_cell? _ _ (bkc hbW0 c0); simp only at this; omega
        have hJW := hJ _ _ _ none hJp (below_grown hW) (fun r e => by cases e)
        have hgr : ∀ W5 : World, Below W.heap.size W W5 → J pre W5 := fun W5 h => hJ _ _ _ none hJW (below_grown h) (fun r e => by cases e)
        obtain ⟨Bx, hBx⟩ : ∃ Bx, W.heap.size = Bx := ⟨_, rfl⟩
        rw [hBx] at hWa k0 k1 k2 f1 f2 nB nG hgr ⊢
        have hbW : Below w0.heap.size w0 Wa := Bst hbW0 (by rw [hBx]; exact hWa)
        have zB := bkc hbW hBn
        have z0 := bkc hbW c0
        have z1 := bkc hbW c1
        clear hJW hsb
        have hpl : pre.length < a.length + b.length := by have := HP.out.2; omega
        rcases (by omega : kk < 2 ∨ kk = 2 ∨ kk = 3) with hk2 | rfl | rfl
        · have hkl := kd_low (a := a) (b := b) (i := i) (j := j) (by omega)
          have hi0 : ((i - 1 : Nat) : Int) < a.length := by omega
          have hwi : IntKind.i64.wrap ((i : Int) - 1) = ((i - 1 : Nat) : Int) := by rw [IntWalk.i64_in _ (by omega)]; omega
          obtain ⟨ba, oa, rfl, x1'⟩ := hA.at1 (fun _ => rfl) hbW0 (i - 1) (by omega)
          have x1 := bkc (w := W) (by rw [hBx]; exact hWa) x1'
          have nA : ba ≠ Bx := fun e => by have := World.block_lt_of_cell? _ _ x1'; simp only at this; omega
          have hj0 : ((j - 1 : Nat) : Int) < b.length := by omega
          have hwj : IntKind.i64.wrap ((j : Int) - 1) = ((j - 1 : Nat) : Int) := by rw [IntWalk.i64_in _ (by omega)]; omega
          obtain ⟨bb, ob, rfl, x2'⟩ := hB.at1 (fun _ => rfl) hbW0 (j - 1) (by omega)
          have x2 := bkc (w := W) (by rw [hBx]; exact hWa) x2'
          have nC : bb ≠ Bx := fun e => by have := World.block_lt_of_cell? _ _ x2'; simp only at this; omega
          have hk3 : ((kk : Int) != 3) = true := by simp; omega
          have hk4 : ((kk : Int) != 2) = true := by simp; omega
          have HB : backL a b i j = ⟨kk, a[i - 1], b[j - 1]⟩ :: backL a b (i - 1) (j - 1) := by rw [backL_low (by omega), hkk, nth_at (by omega), nth_at (by omega)]
          replace HB := Lib.hid HB
          clear hkk
          have hW5 : Below Bx W ((Wa.setCell ⟨Bx, 1, none⟩ (.int .i32 a[i - 1])).setCell ⟨Bx, 2, none⟩ (.int .i32 b[j - 1])) := ((hWa.setCell (p := ⟨Bx, 1, none⟩) (Nat.le_refl _) (.int .i32 a[i - 1])).setCell (p := ⟨Bx, 2, none⟩) (Nat.le_refl _) (.int .i32 b[j - 1]))
          obtain ⟨fn, tmps, assign, body, hy, hR⟩ := hY pre ⟨kk, a[i - 1], b[j - 1]⟩ ((Wa.setCell ⟨Bx, 1, none⟩ (.int .i32 a[i - 1])).setCell ⟨Bx, 2, none⟩ (.int .i32 b[j - 1])) (hgr _ hW5) hpl
          gi_wp2
          refine hR.mono ?_
          rintro e W3 (⟨rfl, hJ3, hk3⟩ | ⟨rfl, hJx3⟩)
          · gi_wp2
            refine ⟨⟨i - 1, j - 1, pre ++ [⟨kk, a[i - 1], b[j - 1]⟩], by go_num, by go_num, by omega, by omega, ⟨?_, ?_⟩, hJ3, ?_⟩, by simp [intOf]; omega⟩
            · rw [← HP.out.1, HB.out]; simp
            · have := HP.out.2; simp; omega
            · exact (Bst hbW0 (by rw [hBx]; exact hW5)).trans hk3
          · gi_wp2
            rw [Exit.noGoto_normal]
            go_end0
            refine ⟨⟨_, rfl⟩, .inr ⟨_, ⟨backL a b (i - 1) (j - 1), ?_⟩, hJx3⟩⟩
            rw [← HP.out.1, HB.out]; simp
        · have hkl := kd_two (a := a) (b := b) (i := i) (j := j) hkk
          have k0' : Wa.cell? ⟨Bx, 0, none⟩ = some (.int .i64 2) := k0
          clear k0
          have hi0 : ((i - 1 : Nat) : Int) < a.length := by omega
          have hwi : IntKind.i64.wrap ((i : Int) - 1) = ((i - 1 : Nat) : Int) := by rw [IntWalk.i64_in _ (by omega)]; omega
          obtain ⟨ba, oa, rfl, x1'⟩ := hA.at1 (fun _ => rfl) hbW0 (i - 1) (by omega)
          have x1 := bkc (w := W) (by rw [hBx]; exact hWa) x1'
          have nA : ba ≠ Bx := fun e => by have := World.block_lt_of_cell? _ _ x1'; simp only at this; omega
          have HB := Lib.hid (backL_two hkk)
          rw [nth_at (by omega)] at HB
          clear hkk
          have hW5 : Below Bx W (Wa.setCell ⟨Bx, 1, none⟩ (.int .i32 a[i - 1])) := (hWa.setCell (p := ⟨Bx, 1, none⟩) (Nat.le_refl _) (.int .i32 a[i - 1]))
          obtain ⟨fn, tmps, assign, body, hy, hR⟩ := hY pre ⟨2, a[i - 1], 0⟩ (Wa.setCell ⟨Bx, 1, none⟩ (.int .i32 a[i - 1])) (hgr _ hW5) hpl
          gi_wp2
          refine hR.mono ?_
          rintro e W3 (⟨rfl, hJ3, hk3⟩ | ⟨rfl, hJx3⟩)
          · gi_wp2
            refine ⟨⟨i - 1, j, pre ++ [⟨2, a[i - 1], 0⟩], by go_num, by go_num, by omega, by omega, ⟨?_, ?_⟩, hJ3, ?_⟩, by simp [intOf]; omega⟩
            · rw [← HP.out.1, HB.out]; simp
            · have := HP.out.2; simp; omega
            · exact (Bst hbW0 (by rw [hBx]; exact hW5)).trans hk3
          · gi_wp2
            rw [Exit.noGoto_normal]
            go_end0
            refine ⟨⟨_, rfl⟩, .inr ⟨_, ⟨backL a b (i - 1) j, ?_⟩, hJx3⟩⟩
            rw [← HP.out.1, HB.out]; simp
        · have hkl := kd_three (a := a) (b := b) (i := i) (j := j) (by omega) hkk
          have k0' : Wa.cell? ⟨Bx, 0, none⟩ = some (.int .i64 3) := k0
          clear k0
          have hj0 : ((j - 1 : Nat) : Int) < b.length := by omega
          have hwj : IntKind.i64.wrap ((j : Int) - 1) = ((j - 1 : Nat) : Int) := by rw [IntWalk.i64_in _ (by omega)]; omega
          obtain ⟨bb, ob, rfl, x2'⟩ := hB.at1 (fun _ => rfl) hbW0 (j - 1) (by omega)
          have x2 := bkc (w := W) (by rw [hBx]; exact hWa) x2'
          have nC : bb ≠ Bx := fun e => by have := World.block_lt_of_cell? _ _ x2'; simp only at this; omega
          have HB := Lib.hid (backL_three (by omega) hkk)
          rw [nth_at (by omega)] at HB
          clear hkk
          have hW5 : Below Bx W (Wa.setCell ⟨Bx, 2, none⟩ (.int .i32 b[j - 1])) := (hWa.setCell (p := ⟨Bx, 2, none⟩) (Nat.le_refl _) (.int .i32 b[j - 1]))
          obtain ⟨fn, tmps, assign, body, hy, hR⟩ := hY pre ⟨3, 0, b[j - 1]⟩ (Wa.setCell ⟨Bx, 2, none⟩ (.int .i32 b[j - 1])) (hgr _ hW5) hpl
          gi_wp2
          refine hR.mono ?_
          rintro e W3 (⟨rfl, hJ3, hk3⟩ | ⟨rfl, hJx3⟩)
          · gi_wp2
            refine ⟨⟨i, j - 1, pre ++ [⟨3, 0, b[j - 1]⟩], by go_num, by go_num, by omega, by omega, ⟨?_, ?_⟩, hJ3, ?_⟩, by simp [intOf]; omega⟩
            · rw [← HP.out.1, HB.out]; simp
            · have := HP.out.2; simp; omega
            · exact (Bst hbW0 (by rw [hBx]; exact hW5)).trans hk3
          · gi_wp2
            rw [Exit.noGoto_normal]
            go_end0
            refine ⟨⟨_, rfl⟩, .inr ⟨_, ⟨backL a b i (j - 1), ?_⟩, hJx3⟩⟩
            rw [← HP.out.1, HB.out]; simp
end Go.Proofs.YtpnhmapkdbnkmaaGreatDoor
