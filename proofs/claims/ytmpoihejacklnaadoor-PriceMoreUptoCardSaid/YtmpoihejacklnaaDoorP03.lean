/- Parts of these proofs, one behind the other: Fil, Mat, Apm, HtP, Tre3, H12. No condition. -/
import Derived.Test.YtmpoihejacklnaaDoorP02
import Derived.Test.YtmpoihejacklnaaDoorP01
import Derived.Test.YtmpoihejacklnaaDoorK802
import Derived.Test.YtmpoihejacklnaaDoorK810
import Derived.Lib.RuneBytes
/- align.fill: the grid of two tokens. No condition. -/
namespace Go.Proofs.YtmpoihejacklnaaDoor
open Go Go.RowKit
/-- A grid in memory. -/
structure GridAt (w : World) (G : Nat) (a b : List Int) : Prop where
  c : ∃ A ca B cb gf gk N, w.cell? ⟨G, 0, none⟩ = some (.slice A a.length ca) ∧ w.cell? ⟨G, 1, none⟩ = some (.slice B b.length cb) ∧ w.cell? ⟨G, 2, none⟩ = some (.slice (some ⟨gf, 0, none⟩) N N) ∧ w.cell? ⟨G, 3, none⟩ = some (.slice (some ⟨gk, 0, none⟩) N N) ∧
    N = (a.length + 1) * (b.length + 1) ∧ SlA (eInt .i32) w A a ∧ SlA (eInt .i32) w B b ∧
    (∀ i j, i ≤ a.length → j ≤ b.length → w.cell? ⟨gf, i * (b.length + 1) + j, none⟩ = some (.int .u8 (dd a b i j))) ∧
    (∀ i j, i ≤ a.length → j ≤ b.length → 0 < i + j → w.cell? ⟨gk, i * (b.length + 1) + j, none⟩ = some (.int .u8 (kd a b i j)))
def FillPost (w : World) (p : P2) (e : Ending) (w' : World) : Prop :=
  Below w.heap.size w w' ∧ (pairE p = 0 → ∃ G a b, decS p.n = some a ∧ decS p.t = some b ∧ 0 < a.length ∧ a.length ≤ 64 ∧ 0 < b.length ∧ b.length ≤ 64 ∧ e = .returned (.tuple #[.pointer (some ⟨G, 0, none⟩), .int .i64 0]) ∧ GridAt w' G a b) ∧ (pairE p ≠ 0 → e = .returned (.tuple #[.pointer none, .int .i64 (pairE p)]))
theorem info_u8c : (Tryd.prog.info? 5).map (fun i => (i.zero, i.size, i.bytes)) = some (some (.int .u8 0), 1, 1) := by kernel_rfl
theorem own_madeU (base : Nat) (t : TypeId) (w : World) (g n : Nat) (h : w.ownsRow base t 1 (.slice (some ⟨g, 0, none⟩) n n) n (madeCells (Value.int .u8 0).cells (n * 1)).toList) : Own (eInt .u8) base t w (.slice (some ⟨g, 0, none⟩) n n) (List.replicate n 0) := by
  unfold Own
  rw [List.length_replicate, flat_one (f := Value.int .u8) (fun _ => rfl), List.map_replicate, ← toList_madeCells_one]
  rw [Nat.mul_one] at h
  exact h
theorem grownBy_cell (W : World) (b i : Nat) (v : Value) : W.grownBy (W.setCell ⟨b, i, none⟩ v) (some b) :=
  ⟨rfl, rfl, rfl, (KeepsWalks.setCell W _ v).size, fun k _ hk => Below.heap_setCell _ _ _ k (fun e => hk (by rw [e]))⟩
theorem make_opO {P : Program} {o : Oper} {a : Act} {K : Act → World → Prop} {Q : Exit → Act → World → Prop} (w : World)
    (l c : Operand) (t : TypeId) (hop : o.op = Op.makeSlice t l c)
    (base : Nat) (e : TypeId) (i : TypeInfo) (z : Value) (size : Nat) (h1 : P.underlying t = some (.slice e)) (h2 : P.info? e = some i) (h3 : i.zero = some z) (h4 : i.size = size)
    (kl kc : IntKind) (L C : Int) (n : Nat) (hl : a.eval l = .int kl L) (hc : a.eval c = .int kc C) (hL : L = (n : Int)) (hC : C = (n : Int)) (b2 : i.bytes * n ≤ 281474976710656) (b3 : n ≤ maxLen) (b4 : base ≤ w.heap.size)
    (hK : ∀ w', w'.ownsRow base e size (.slice (some ⟨w.heap.size, 0, none⟩) n n) n (madeCells z.cells (n * size)).toList → w.grownBy w' none → K (a.put o.dst (.slice (some ⟨w.heap.size, 0, none⟩) n n)) w') :
    o.wp P a w K Q := by
  obtain ⟨w', hrun, r1, r2⟩ := run_make_full (P := P) w base t e i z size h1 h2 h3 h4 kl kc n b2 b3 b4
  subst hL
  subst hC
  unfold Oper.wp
  simp [execOp, hop, hl, hc, hrun, Result.andThen]
  exact hK w' r1 r2
set_option maxRecDepth 100000 in
set_option maxHeartbeats 4000000 in
theorem fill_c (p : P2) (w : World) (hU : U w) (hz : p.n.size ≤ 17592186044416) (hz2 : p.t.size ≤ 17592186044416) : Calls Tryd.prog 36 #[.string p.n, .string p.t] w (FillPost w p) := by
  by_cases h1 : tkE p.n = 0
  · by_cases h2 : tkE p.t = 0
    · have H1 := Lib.hid h1
      have H2 := Lib.hid h2
      have HE : Hid (pairE p = 0) := by show _ = _; unfold pairE; rw [if_pos h1]; exact h2
      clear h1 h2
      obtain ⟨i1, hi1, hy0, hy1, hy2⟩ := info_parts info_u8c
      go_enter Tryd.func36, Tryd.ntmps36
      go_wp2_with fail
      refine (tk_c p.n _ hU hz).mono ?_
      rintro e w2 ⟨hb2, h3, _⟩
      obtain ⟨v, a, ha, ha1, ha2, rfl, hOa⟩ := h3 H1.out
      clear h3
      have DA := Lib.hid ha
      clear ha
      obtain ⟨A, ca, rfl, hca, hda, hA⟩ := hOa.slv
      go_wp2_with fail
      refine (tk_c p.t _ (hU.to hb2) hz2).mono ?_
      rintro e w3 ⟨hb3, h3, _⟩
      obtain ⟨v, b, hb0, hb1, hb4, rfl, hOb⟩ := h3 H2.out
      clear h3
      have DB := Lib.hid hb0
      clear hb0
      obtain ⟨B, cb, rfl, hcb, hdb, hB⟩ := hOb.slv
      have hA3 := hA.below hb3
      have hb03 : Below w.heap.size w w3 := Bst hb2 hb3
      obtain ⟨N, hN⟩ : ∃ N, (a.length + 1) * (b.length + 1) = N := ⟨_, rfl⟩
      have hNb : N ≤ 65 * 65 := by rw [← hN]; exact Nat.mul_le_mul (by omega) (by omega)
      have hNm : IntKind.i64.wrap (((a.length : Int) + 1) * ((b.length : Int) + 1)) = (N : Int) := by
        have h : ((a.length : Int) + 1) * ((b.length : Int) + 1) = (N : Int) := by rw [← hN]; push_cast; rfl
        rw [h]; exact IntWalk.i64_in _ (by omega)
      have HN := Lib.hid hN
      clear hN hOa hOb
      go_wp2_with fail
      have hbg : Below w3.heap.size w3 (w3.alloc (.cells #[.slice A a.length ca, .slice B b.length cb, .slice none 0 0, .slice none 0 0] 93)) := Bel
      have hsz : (w3.alloc (.cells #[.slice A a.length ca, .slice B b.length cb, .slice none 0 0, .slice none 0 0] 93)).heap.size = w3.heap.size + 1 := by simp
      have c0 : (w3.alloc (.cells #[.slice A a.length ca, .slice B b.length cb, .slice none 0 0, .slice none 0 0] 93)).cell? ⟨w3.heap.size, 0, none⟩ = some (.slice A a.length ca) := by simp [go_sem]
      have c1 : (w3.alloc (.cells #[.slice A a.length ca, .slice B b.length cb, .slice none 0 0, .slice none 0 0] 93)).cell? ⟨w3.heap.size, 1, none⟩ = some (.slice B b.length cb) := by simp [go_sem]
      have c2 : (w3.alloc (.cells #[.slice A a.length ca, .slice B b.length cb, .slice none 0 0, .slice none 0 0] 93)).cell? ⟨w3.heap.size, 2, none⟩ = some (.slice none 0 0) := by simp [go_sem]
      have c3 : (w3.alloc (.cells #[.slice A a.length ca, .slice B b.length cb, .slice none 0 0, .slice none 0 0] 93)).cell? ⟨w3.heap.size, 3, none⟩ = some (.slice none 0 0) := by simp [go_sem]
      have d2 : (w3.alloc (.cells #[.slice A a.length ca, .slice B b.length cb, .slice none 0 0, .slice none 0 0] 93)).frozen? ⟨w3.heap.size, 2, none⟩ = false := by simp [go_sem]
      have d3 : (w3.alloc (.cells #[.slice A a.length ca, .slice B b.length cb, .slice none 0 0, .slice none 0 0] 93)).frozen? ⟨w3.heap.size, 3, none⟩ = false := by simp [go_sem]
      generalize (w3.alloc (.cells #[.slice A a.length ca, .slice B b.length cb, .slice none 0 0, .slice none 0 0] 93)) = wg at *
      obtain ⟨G, hG⟩ : ∃ G, w3.heap.size = G := ⟨_, rfl⟩
      rw [hG] at hsz c0 c1 c2 c3 d2 d3 ⊢
      refine wp_mono (Q := fun e a' w9 => e = Exit.normal ∧ ∃ gf gk : Nat, a' = { tmps := #[.string p.n, .string p.t, undef, undef, .pointer none, .int .i64 0, .slice A a.length ca, .int .i64 0, .slice B b.length cb, .pointer (some ⟨G, 0, none⟩), .int .i64 N, undef, undef, .tuple #[.slice A a.length ca, .int .i64 0], .string p.n, .tuple #[.slice A a.length ca, .int .i64 0], .slice A a.length ca, .int .i64 0, .int .i64 0, .bool false, undef, .tuple #[.slice B b.length cb, .int .i64 0], .string p.t, .tuple #[.slice B b.length cb, .int .i64 0], .slice B b.length cb, .int .i64 0, .int .i64 0, .bool false, undef, .slice A a.length ca, .slice B b.length cb, .agg #[.slice A a.length ca, .slice B b.length cb, .slice none 0 0, .slice none 0 0], .pointer (some ⟨G, 0, none⟩), .slice A a.length ca, .int .i64 a.length, .int .i64 (a.length + 1), .slice B b.length cb, .int .i64 b.length, .int .i64 (b.length + 1), .int .i64 N, .pointer (some ⟨G, 0, none⟩), .pointer (some ⟨G, 0, none⟩), .int .i64 N, .slice (some ⟨gf, 0, none⟩) N N, .int .i64 N, .slice (some ⟨gk, 0, none⟩) N N, .pointer (some ⟨G, 0, none⟩), .pointer (some ⟨G, 2, none⟩), .pointer (some ⟨G, 0, none⟩), .pointer (some ⟨G, 3, none⟩), undef, undef, undef, undef, undef, undef, undef, undef, undef, undef, undef, undef, undef, undef, undef, undef, undef, undef, undef, undef, undef, undef, undef, undef, undef, undef, undef, undef, undef, undef, undef, undef, undef, undef, undef, undef, undef, undef, undef, undef, undef, undef, undef, undef], defers := [] } ∧ w9.cell? ⟨G, 0, none⟩ = some (.slice A a.length ca) ∧ w9.cell? ⟨G, 1, none⟩ = some (.slice B b.length cb) ∧ w9.cell? ⟨G, 2, none⟩ = some (.slice (some ⟨gf, 0, none⟩) N N) ∧ w9.cell? ⟨G, 3, none⟩ = some (.slice (some ⟨gk, 0, none⟩) N N) ∧ Own (eInt .u8) G 5 w9 (.slice (some ⟨gf, 0, none⟩) N N) (List.replicate N 0) ∧ Own (eInt .u8) G 5 w9 (.slice (some ⟨gk, 0, none⟩) N N) (List.replicate N 0) ∧ gf ≠ gk ∧ G < gf ∧ G < gk ∧ Below w3.heap.size w3 w9) ?region ?rest
      case region =>
        refine region_treeS [G] (.q 0 (.q 1 (.q 2 (.q 4 (.two 3 (.q 6 (.q 7 (.two 5 (.t 8 (.q 9 (.q 10 (.t 11 .nil)))) 8 (.t 5 (.q 9 (.q 10 (.t 11 .nil))))))) 5 (.t 3 (.q 6 (.q 7 (.t 8 (.q 9 (.q 10 (.t 11 .nil)))))))))))) (by kernel_rfl) (by kernel_rfl) ?_
        intro W hW
        have hgW := hW.size
        replace c0 := bkc hW c0
        replace c1 := bkc hW c1
        replace c2 := bkc hW c2
        replace c3 := bkc hW c3
        have e2 : W.frozen? ⟨G, 2, none⟩ = false := by rw [hW.frozen (p := ⟨G, 2, none⟩) (by simp; omega)]; exact d2
        have e3 : W.frozen? ⟨G, 3, none⟩ = false := by rw [hW.frozen (p := ⟨G, 3, none⟩) (by simp; omega)]; exact d3
        repeat (refine trS_q rfl (fun K hK => ?_); unfold takeS; go_simp; refine hK _ ?_; clear hK K)
        refine trS_two rfl rfl (fun K hK => ?_) (fun K hK => ?_)
        · rw [if_pos (wanted_free rfl _)]; refine make_opO _ _ _ 81 rfl G 5 i1 (.int .u8 0) 1 Tryd.underlying81 hi1 hy0 hy1 .i64 .i64 _ _ N rfl rfl rfl rfl (by rw [hy2]; omega) (by simp only [maxLen]; omega) (by first | omega | (simp; omega)) ?_; intro w5 HO5 hg5
          have hb5 := Bgr (Below.refl _ _) hg5 (by simp)
          have hk5 : Kb W w5 [G] := (Kb.grown0 hg5).weak (by simp)
          have s5 := hg5.size
          refine hK _ _ (.of hk5) ?_; clear hK K
          repeat (refine trS_q rfl (fun K hK => ?_); unfold takeS; go_simp; refine hK _ ?_; clear hK K)
          refine trS_two rfl rfl (fun K hK => ?_) (fun K hK => ?_)
          · rw [if_pos (wanted_free rfl _)]; refine make_opO _ _ _ 81 rfl G 5 i1 (.int .u8 0) 1 Tryd.underlying81 hi1 hy0 hy1 .i64 .i64 _ _ N rfl rfl rfl rfl (by rw [hy2]; omega) (by simp only [maxLen]; omega) (by first | omega | (simp; omega)) ?_; intro w6 HO6 hg6
            have hb6 := Bgr hb5 hg6 (by simp)
            have hk6 := hk5.trans' ((Kb.grown0 hg6).weak (by simp))
            refine hK _ _ (.of hk6) ?_; clear hK K
            have HP5 := (own_madeU _ _ _ _ _ HO5).kept hg6 (.inr (by simp [Value.ownBlock]))
            have HP6 := own_madeU _ _ _ _ _ HO6
            have s6 := hg6.size
            have q0 := bkc hb6 c0
            have q1 := bkc hb6 c1
            have q2 := bkc hb6 c2
            have q3 := bkc hb6 c3
            have r2 : w6.frozen? ⟨G, 2, none⟩ = false := by rw [hb6.frozen (p := ⟨G, 2, none⟩) (by simp; omega)]; exact e2
            have r3 : w6.frozen? ⟨G, 3, none⟩ = false := by rw [hb6.frozen (p := ⟨G, 3, none⟩) (by simp; omega)]; exact e3
            have l5 : W.heap.size < w6.heap.size := (HP5.put.resolve_left (by simp [Value.ownBlock])).elim fun g h => by have e := h.1; simp [Value.ownBlock] at e; omega
            have l6 : w5.heap.size < w6.heap.size := (HP6.put.resolve_left (by simp [Value.ownBlock])).elim fun g h => by have e := h.1; simp [Value.ownBlock] at e; omega
            have l7 : W.heap.size < w5.heap.size := ((own_madeU _ _ _ _ _ HO5).put.resolve_left (by simp [Value.ownBlock])).elim fun g h => by have e := h.1; simp [Value.ownBlock] at e; omega
            repeat (refine trS_q rfl (fun K hK => ?_); unfold takeS; go_simp; refine hK _ ?_; clear hK K)
            refine trS_t rfl (fun K hK => ?_); go_simp; refine hK _ _ (.of (hk6.trans' (Kb.grown (grownBy_cell w6 G 2 _)))) ?_; clear hK K
            repeat (refine trS_q rfl (fun K hK => ?_); unfold takeS; go_simp; refine hK _ ?_; clear hK K)
            refine trS_t rfl (fun K hK => ?_); go_simp; refine hK _ _ (.of ((hk6.trans' (Kb.grown (grownBy_cell w6 G 2 _))).trans' (Kb.grown (grownBy_cell _ G 3 _)))) ?_; clear hK K
            refine trS_nil ?_
            rw [noP_normal]
            have nG : ∀ g n, G < g → (Value.slice (some ⟨g, 0, none⟩) n n).ownBlock ≠ some G := fun g n h e => by simp only [Value.ownBlock] at e; injection e with e; omega
            refine ⟨rfl, W.heap.size, w5.heap.size, rfl, by simp [go_sem, q0], by simp [go_sem, q1], by simp [go_sem, q2], by simp [go_sem, q3], ?_, ?_, by omega, by omega, by omega, Bsc (Bsc (Bst (Bst hbg hW) hb6) (by simp; omega) _) (by simp; omega) _⟩
            · exact (HP5.kept (grownBy_cell w6 G 2 _) (.inr (nG _ _ (by omega)))).kept (grownBy_cell _ G 3 _) (.inr (nG _ _ (by omega)))
            · exact (HP6.kept (grownBy_cell w6 G 2 _) (.inr (nG _ _ (by omega)))).kept (grownBy_cell _ G 3 _) (.inr (nG _ _ (by omega)))
          · have q0 := bkc hb5 c0
            have q1 := bkc hb5 c1
            have q2 := bkc hb5 c2
            have q3 := bkc hb5 c3
            have r2 : w5.frozen? ⟨G, 2, none⟩ = false := by rw [hb5.frozen (p := ⟨G, 2, none⟩) (by simp; omega)]; exact e2
            have r3 : w5.frozen? ⟨G, 3, none⟩ = false := by rw [hb5.frozen (p := ⟨G, 3, none⟩) (by simp; omega)]; exact e3
            have nG : ∀ g n, G < g → (Value.slice (some ⟨g, 0, none⟩) n n).ownBlock ≠ some G := fun g n h e => by simp only [Value.ownBlock] at e; injection e with e; omega
            have HP5 := (own_madeU _ _ _ _ _ HO5).kept (grownBy_cell w5 G 2 (.slice (some ⟨W.heap.size, 0, none⟩) N N)) (.inr (nG _ _ (by omega)))
            go_simp
            have hk5' := hk5.trans' (Kb.grown (grownBy_cell w5 G 2 (.slice (some ⟨W.heap.size, 0, none⟩) N N)))
            refine hK _ _ (.of hk5') ?_; clear hK K
            have t0 : (w5.setCell ⟨G, 2, none⟩ (.slice (some ⟨W.heap.size, 0, none⟩) N N)).cell? ⟨G, 0, none⟩ = some (.slice A a.length ca) := by simp [go_sem, q0]
            have t1 : (w5.setCell ⟨G, 2, none⟩ (.slice (some ⟨W.heap.size, 0, none⟩) N N)).cell? ⟨G, 1, none⟩ = some (.slice B b.length cb) := by simp [go_sem, q1]
            have t2 : (w5.setCell ⟨G, 2, none⟩ (.slice (some ⟨W.heap.size, 0, none⟩) N N)).cell? ⟨G, 2, none⟩ = some (.slice (some ⟨W.heap.size, 0, none⟩) N N) := by simp [go_sem, q2]
            have t3 : (w5.setCell ⟨G, 2, none⟩ (.slice (some ⟨W.heap.size, 0, none⟩) N N)).cell? ⟨G, 3, none⟩ = some (.slice none 0 0) := by simp [go_sem, q3]
            have u3 : (w5.setCell ⟨G, 2, none⟩ (.slice (some ⟨W.heap.size, 0, none⟩) N N)).frozen? ⟨G, 3, none⟩ = false := by simp [go_sem, r3]
            have hb5' : Below w3.heap.size w3 (w5.setCell ⟨G, 2, none⟩ (.slice (some ⟨W.heap.size, 0, none⟩) N N)) := Bsc (Bst (Bst hbg hW) hb5) (by simp; omega) _
            have hz5 : (w5.setCell ⟨G, 2, none⟩ (.slice (some ⟨W.heap.size, 0, none⟩) N N)).heap.size = w5.heap.size := by simp
            generalize (w5.setCell ⟨G, 2, none⟩ (.slice (some ⟨W.heap.size, 0, none⟩) N N)) = w7 at *
            refine trS_t rfl (fun K hK => ?_); rw [if_pos (wanted_free rfl _)]; refine make_opO _ _ _ 81 rfl G 5 i1 (.int .u8 0) 1 Tryd.underlying81 hi1 hy0 hy1 .i64 .i64 _ _ N rfl rfl rfl rfl (by rw [hy2]; omega) (by simp only [maxLen]; omega) (by first | omega | (simp; omega)) ?_; intro w6 HO6 hg6
            have hb6 := Bgr (Below.refl _ _) hg6 (by simp)
            have hk6 := hk5'.trans' ((Kb.grown0 hg6).weak (by simp))
            refine hK _ _ (.of hk6) ?_; clear hK K
            have HP6 := own_madeU _ _ _ _ _ HO6
            have HP56 := HP5.kept hg6 (.inr (by simp [Value.ownBlock]))
            have s6 := hg6.size
            replace t0 := bkc hb6 t0
            replace t1 := bkc hb6 t1
            replace t2 := bkc hb6 t2
            replace t3 := bkc hb6 t3
            replace u3 : w6.frozen? ⟨G, 3, none⟩ = false := by rw [hb6.frozen (p := ⟨G, 3, none⟩) (by simp; omega)]; exact u3
            repeat (refine trS_q rfl (fun K hK => ?_); unfold takeS; go_simp; refine hK _ ?_; clear hK K)
            refine trS_t rfl (fun K hK => ?_); go_simp; refine hK _ _ (.of (hk6.trans' (Kb.grown (grownBy_cell w6 G 3 _)))) ?_; clear hK K
            refine trS_nil ?_
            rw [noP_normal]
            have l5 : W.heap.size < w7.heap.size := (HP5.put.resolve_left (by simp [Value.ownBlock])).elim fun g h => by have e := h.1; simp [Value.ownBlock] at e; omega
            rw [hz5] at HP6
            refine ⟨rfl, W.heap.size, w5.heap.size, rfl, by simp [go_sem, t0], by simp [go_sem, t1], by simp [go_sem, t2], by simp [go_sem, t3], ?_, ?_, by omega, by omega, by omega, Bsc (Bst hb5' hb6) (by simp; omega) _⟩
            · exact HP56.kept (grownBy_cell w6 G 3 _) (.inr (nG _ _ (by omega)))
            · exact HP6.kept (grownBy_cell w6 G 3 _) (.inr (nG _ _ (by omega)))
        · rw [if_pos (wanted_free rfl _)]; refine make_opO _ _ _ 81 rfl G 5 i1 (.int .u8 0) 1 Tryd.underlying81 hi1 hy0 hy1 .i64 .i64 _ _ N rfl rfl rfl rfl (by rw [hy2]; omega) (by simp only [maxLen]; omega) (by first | omega | (simp; omega)) ?_; intro w5 HO5 hg5
          have hb5 := Bgr (Below.refl _ _) hg5 (by simp)
          have hk5 : Kb W w5 [G] := (Kb.grown0 hg5).weak (by simp)
          have s5 := hg5.size
          refine hK _ _ (.of hk5) ?_; clear hK K
          refine trS_t rfl (fun K hK => ?_); rw [if_pos (wanted_free rfl _)]; refine make_opO _ _ _ 81 rfl G 5 i1 (.int .u8 0) 1 Tryd.underlying81 hi1 hy0 hy1 .i64 .i64 _ _ N rfl rfl rfl rfl (by rw [hy2]; omega) (by simp only [maxLen]; omega) (by first | omega | (simp; omega)) ?_; intro w6 HO6 hg6
          have hb6 := Bgr hb5 hg6 (by simp)
          have hk6 := hk5.trans' ((Kb.grown0 hg6).weak (by simp))
          refine hK _ _ (.of hk6) ?_; clear hK K
          have HP5 := (own_madeU _ _ _ _ _ HO5).kept hg6 (.inr (by simp [Value.ownBlock]))
          have HP6 := own_madeU _ _ _ _ _ HO6
          have s6 := hg6.size
          have q0 := bkc hb6 c0
          have q1 := bkc hb6 c1
          have q2 := bkc hb6 c2
          have q3 := bkc hb6 c3
          have r2 : w6.frozen? ⟨G, 2, none⟩ = false := by rw [hb6.frozen (p := ⟨G, 2, none⟩) (by simp; omega)]; exact e2
          have r3 : w6.frozen? ⟨G, 3, none⟩ = false := by rw [hb6.frozen (p := ⟨G, 3, none⟩) (by simp; omega)]; exact e3
          have l5 : W.heap.size < w6.heap.size := (HP5.put.resolve_left (by simp [Value.ownBlock])).elim fun g h => by have e := h.1; simp [Value.ownBlock] at e; omega
          have l6 : w5.heap.size < w6.heap.size := (HP6.put.resolve_left (by simp [Value.ownBlock])).elim fun g h => by have e := h.1; simp [Value.ownBlock] at e; omega
          have l7 : W.heap.size < w5.heap.size := ((own_madeU _ _ _ _ _ HO5).put.resolve_left (by simp [Value.ownBlock])).elim fun g h => by have e := h.1; simp [Value.ownBlock] at e; omega
          repeat (refine trS_q rfl (fun K hK => ?_); unfold takeS; go_simp; refine hK _ ?_; clear hK K)
          refine trS_t rfl (fun K hK => ?_); go_simp; refine hK _ _ (.of (hk6.trans' (Kb.grown (grownBy_cell w6 G 2 _)))) ?_; clear hK K
          repeat (refine trS_q rfl (fun K hK => ?_); unfold takeS; go_simp; refine hK _ ?_; clear hK K)
          refine trS_t rfl (fun K hK => ?_); go_simp; refine hK _ _ (.of ((hk6.trans' (Kb.grown (grownBy_cell w6 G 2 _))).trans' (Kb.grown (grownBy_cell _ G 3 _)))) ?_; clear hK K
          refine trS_nil ?_
          rw [noP_normal]
          have nG : ∀ g n, G < g → (Value.slice (some ⟨g, 0, none⟩) n n).ownBlock ≠ some G := fun g n h e => by simp only [Value.ownBlock] at e; injection e with e; omega
          refine ⟨rfl, w5.heap.size, W.heap.size, rfl, by simp [go_sem, q0], by simp [go_sem, q1], by simp [go_sem, q2], by simp [go_sem, q3], ?_, ?_, by omega, by omega, by omega, Bsc (Bsc (Bst (Bst hbg hW) hb6) (by simp; omega) _) (by simp; omega) _⟩
          · exact (HP6.kept (grownBy_cell w6 G 2 _) (.inr (nG _ _ (by omega)))).kept (grownBy_cell _ G 3 _) (.inr (nG _ _ (by omega)))
          · exact (HP5.kept (grownBy_cell w6 G 2 _) (.inr (nG _ _ (by omega)))).kept (grownBy_cell _ G 3 _) (.inr (nG _ _ (by omega)))
      case rest =>
        rintro _ _ w9 ⟨rfl, gf, gk, rfl, c0, c1, c2, c3, HOf, HOk, hne, hlf, hlk, hb9⟩
        clear hbg hsz d2 d3
        have hb09 : Below w.heap.size w w9 := Bst hb03 hb9
        have hA9 := hA3.below hb9
        have hB9 := hB.below hb9
        have hGs := World.block_lt_of_cell? _ _ c0
        have hfg : w.heap.size ≤ G := Nat.le_trans hb03.size (by omega)
        rw [← HN.out, ← fewL_zero] at HOf
        rw [← HN.out, ← kindL_zero, HN.out] at HOk
        rw [HN.out] at HOf
        go_wp2
        go_loopw [53] (fun si wr => ∃ i : Nat, si = .int .i64 i ∧ i ≤ a.length + 1 ∧ Own (eInt .u8) G 5 wr (.slice (some ⟨gf, 0, none⟩) N N) (fewL a b (i * (b.length + 1))) ∧ Own (eInt .u8) G 5 wr (.slice (some ⟨gk, 0, none⟩) N N) (kindL a b (i * (b.length + 1))) ∧ Kb w9 wr [gf, gk]) (fun si _ => a.length + 1 - (intOf si).toNat)
        case atStart => exact ⟨0, rfl, by omega, by rw [Nat.zero_mul]; exact HOf, by rw [Nat.zero_mul]; exact HOk, Kb.refl _ _⟩
        case round =>
          obtain ⟨i, rfl, hi, HOf1, HOk1, hk1⟩ := hrel
          rename World => wo
          by_cases hlt : i < a.length + 1
          · have hlt' : (i : Int) < (a.length : Int) + 1 := by omega
            go_wp2
            go_loopw [59] (fun sj wr => ∃ j : Nat, sj = .int .i64 j ∧ j ≤ b.length + 1 ∧ Own (eInt .u8) G 5 wr (.slice (some ⟨gf, 0, none⟩) N N) (fewL a b (i * (b.length + 1) + j)) ∧ Own (eInt .u8) G 5 wr (.slice (some ⟨gk, 0, none⟩) N N) (kindL a b (i * (b.length + 1) + j)) ∧ Kb w9 wr [gf, gk]) (fun sj _ => b.length + 1 - (intOf sj).toNat)
            case atStart => exact ⟨0, rfl, by omega, HOf1, HOk1, hk1⟩
            case round =>
              obtain ⟨j, rfl, hj, HOf2, HOk2, hk2⟩ := hrel
              rename World => wi
              by_cases hjt : j < b.length + 1
              · have hjt' : (j : Int) < (b.length : Int) + 1 := by omega
                rcases Nat.eq_zero_or_pos (i + j) with h0 | h0
                · obtain rfl : i = 0 := by omega
                  obtain rfl : j = 0 := by omega
                  go_wp2
                  have e1 : fewL a b (0 * (b.length + 1) + (0 + 1)) = fewL a b (0 * (b.length + 1) + 0) := by simp [fewL_one]
                  have e2 : kindL a b (0 * (b.length + 1) + (0 + 1)) = kindL a b (0 * (b.length + 1) + 0) := by simp [kindL_one]
                  exact ⟨⟨0 + 1, by go_num, by omega, by rw [e1]; exact HOf2, by rw [e2]; exact HOk2, hk2⟩, by first | (simp [intOf]; done) | (simp [intOf]; omega)⟩
                · have h0' : (0 : Int) < (i : Int) + (j : Int) := by omega
                  obtain ⟨P, hP⟩ : ∃ P, i * (b.length + 1) + j = P := ⟨_, rfl⟩
                  have hPN : P < N := by rw [← hP, ← HN.out]; exact place_small (by omega) (by omega)
                  have hPN' : (P : Int) < (N : Int) := by omega
                  go_wp2_with fail
                  have hb9i : Below w3.heap.size w3 wi := hk2.to (by simp; omega) hb9 (Nat.le_refl _)
                  have hki := hk2.size
                  have HK2 := Lib.hid hk2
                  have C0 := hk2.cell c0 (by simp; omega)
                  have C1 := hk2.cell c1 (by simp; omega)
                  have C2 := hk2.cell c2 (by simp; omega)
                  have C3 := hk2.cell c3 (by simp; omega)
                  rw [hP] at HOf2 HOk2
                  have hl1 : (fewL a b P).length = N := by rw [fewL_len]; exact HN.out
                  have hl2 : (kindL a b P).length = N := by rw [kindL_len]; exact HN.out
                  refine region_treeS [gf, gk] (.q 0 (.q 1 (.q 2 (.q 3 (.q 4 (.q 5 (.q 6 (.q 8 (.q 9 (.q 10 (.q 11 (.q 12 (.q 13 (.q 14 (.q 16 (.q 17 (.q 18 (.t 7 (.t 15 (.t 19 (.q 20 (.q 21 (.q 22 (.q 23 (.t 24 (.q 25 (.t 26 .nil))))))))))))))))))))))))))) (by kernel_rfl) (by kernel_rfl) ?_
                  intro W hW
                  have hbW : Below wi.heap.size wi W := Bst (by first | exact Below.refl _ _ | exact Bdn (Below.refl _ _) _) hW
                  replace C0 := bkc hbW C0
                  replace C1 := bkc hbW C1
                  replace C2 := bkc hbW C2
                  replace C3 := bkc hbW C3
                  replace HOf2 := HOf2.below hbW
                  replace HOk2 := HOk2.below hbW
                  have x2 : ∀ X : LaterS W [gf, gk], (World.extS W [gf, gk] X).cell? ⟨G, 2, none⟩ = some (.slice (some ⟨gf, 0, none⟩) N N) := fun X => X.h.cell C2 (by simp; omega)
                  have x3 : ∀ X : LaterS W [gf, gk], (World.extS W [gf, gk] X).cell? ⟨G, 3, none⟩ = some (.slice (some ⟨gk, 0, none⟩) N N) := fun X => X.h.cell C3 (by simp; omega)
                  have hat : Calls Tryd.prog 63 #[.pointer (some ⟨G, 0, none⟩), .int .i64 i, .int .i64 j] W fun e w' => e = .returned (.int .i64 (P : Nat)) ∧ w' = W := by
                    have := at_c G B b.length cb i j W C1 hb4 (by omega) (by omega)
                    rw [hP] at this
                    exact this
                  have hF : ∀ x y, x ≤ i → y ≤ j → x + y < i + j → W.cell? ⟨gf, x * (b.length + 1) + y, none⟩ = some (.int .u8 (dd a b x y)) := fun x y hx hy hxy => by
                    have hlt : x * (b.length + 1) + y < P := by
                      rw [← hP]
                      rcases Nat.lt_or_ge x i with h | h
                      · have h2 : (x + 1) * (b.length + 1) ≤ i * (b.length + 1) := Nat.mul_le_mul_right _ h
                        rw [Nat.add_mul, Nat.one_mul] at h2
                        omega
                      · obtain rfl : x = i := by omega
                        omega
                    have h1 := fewL_at (a := a) (b := b) (m := P) (i := x) (j := y) (by omega) (by omega) hlt
                    obtain ⟨hq, he⟩ := List.getElem?_eq_some_iff.1 h1
                    have h2 := (HOf2.cell1 (f := Value.int .u8) (fun _ => rfl) (x * (b.length + 1) + y) hq).2.1
                    rw [he] at h2
                    exact h2
                  have hbest := best_c G A B a b ca cb gf N N i j W C0 C1 C2 (hA3.below (Bst hb9i hbW)) (hB.below (Bst hb9i hbW)) hF HN.out.symm ha2 hb4 (by omega) (by omega) h0
                  clear hF
                  repeat (refine trS_q rfl (fun K hK => ?_); unfold takeS; go_simp; refine hK _ ?_; clear hK K)
                  refine trS_t rfl (fun K hK => ?_); go_simp; refine hat.mono ?_; rintro e w5 ⟨rfl, h5⟩; obtain rfl := h5.symm; clear h5; go_simp; refine hK _ _ (.of (Kb.refl _ _)) ?_; clear hK K
                  refine trS_t rfl (fun K hK => ?_); go_simp; refine hat.mono ?_; rintro e w5 ⟨rfl, h5⟩; obtain rfl := h5.symm; clear h5; go_simp; refine hK _ _ (.of (Kb.refl _ _)) ?_; clear hK K
                  refine trS_t rfl (fun K hK => ?_); go_simp; refine hbest.mono ?_; rintro e w6 ⟨rfl, hb6⟩; go_simp; refine hK _ _ (.of (Kb.weak (Kb.below hb6) (by simp))) ?_; clear hK K
                  have HOf6 := HOf2.below hb6
                  have HOk6 := HOk2.below hb6
                  obtain ⟨_, k1, k2⟩ := HOk6.cell1 (fun _ => rfl) P (by omega)
                  obtain ⟨_, f1, f2⟩ := HOf6.cell1 (fun _ => rfl) P (by omega)
                  repeat (refine trS_q rfl (fun K hK => ?_); unfold takeS; go_simp; refine hK _ ?_; clear hK K)
                  have hne2 : gk ≠ gf := Ne.symm hne
                  have kW : Kb W w6 [gf, gk] := Kb.weak (Kb.below hb6) (by simp)
                  have kA := kW.trans' (Kb.weak (Kb.grown (grownBy_cell w6 gk P (.int .u8 (kd a b i j)))) (by simp) : Kb w6 _ [gf, gk])
                  have kB := kA.trans' (Kb.weak (Kb.grown (grownBy_cell (w6.setCell ⟨gk, P, none⟩ (.int .u8 (kd a b i j))) gf P (.int .u8 (dd a b i j)))) (by simp) : Kb _ _ [gf, gk])
                  refine trS_t rfl (fun K hK => ?_); go_simp; refine hK _ _ (.of kA) ?_; clear hK K
                  repeat (refine trS_q rfl (fun K hK => ?_); unfold takeS; go_simp; refine hK _ ?_; clear hK K)
                  refine trS_t rfl (fun K hK => ?_); go_simp; refine hK _ _ (.of kB) ?_; clear hK K
                  refine trS_nil ?_
                  rw [noP_normal]
                  go_wp2
                  refine ⟨⟨j + 1, by go_num, by omega, ?_, ?_, ?_⟩, by simp [intOf]; omega⟩
                  · have h := ((HOf6.kept (grownBy_cell w6 gk P (.int .u8 (kd a b i j))) (.inr (by simp only [Value.ownBlock]; intro e; injection e with e; omega))).put1 (f := Value.int .u8) (fun _ => rfl) hl1 P ((dd a b i j : Nat) : Int)).1
                    rw [fewL_set (by omega) (by omega) hP] at h
                    rw [show i * (b.length + 1) + (j + 1) = P + 1 by omega]
                    exact h
                  · have h := (HOk6.put1 (f := Value.int .u8) (fun _ => rfl) hl2 P ((kd a b i j : Nat) : Int)).1
                    rw [kindL_set (by omega) (by omega) hP h0] at h
                    rw [show i * (b.length + 1) + (j + 1) = P + 1 by omega]
                    exact h.kept (grownBy_cell _ gf P _) (.inr (by simp only [Value.ownBlock]; intro e; injection e with e; omega))
                  · exact HK2.out.trans' ((Kb.weak (Kb.below hbW) (by simp) : Kb wi W [gf, gk]).trans' kB)
              · have hjt' : ¬ (j : Int) < (b.length : Int) + 1 := by omega
                obtain rfl : j = b.length + 1 := by omega
                have e1 : (i + 1) * (b.length + 1) = i * (b.length + 1) + (b.length + 1) := by rw [Nat.add_mul, Nat.one_mul]
                go_wp2
                exact ⟨⟨i + 1, by go_num, by omega, by rw [e1]; exact HOf2, by rw [e1]; exact HOk2, hk2⟩, by simp [intOf]; omega⟩
          · have hlt' : ¬ (i : Int) < (a.length : Int) + 1 := by omega
            obtain rfl : i = a.length + 1 := by omega
            have hb9o : Below w3.heap.size w3 wo := hk1.to (by simp; omega) hb9 (Nat.le_refl _)
            go_wp2
            go_ret2
            refine ⟨Bst hb03 hb9o, fun _ => ⟨G, a, b, DA.out, DB.out, ha1, ha2, hb1, hb4, rfl, ⟨A, ca, B, cb, gf, gk, N, hk1.cell c0 (by simp; omega), hk1.cell c1 (by simp; omega), hk1.cell c2 (by simp; omega), hk1.cell c3 (by simp; omega), HN.out.symm, hA3.below hb9o, hB.below hb9o, fun i j hi hj => ?_, fun i j hi hj hij => ?_⟩⟩, fun h => absurd HE.out h⟩
            · have h1 := fewL_at (a := a) (b := b) (m := (a.length + 1) * (b.length + 1)) hi hj (place_small hi hj)
              obtain ⟨hq, he⟩ := List.getElem?_eq_some_iff.1 h1
              have h2 := (HOf1.cell1 (f := Value.int .u8) (fun _ => rfl) (i * (b.length + 1) + j) hq).2.1
              rw [he] at h2
              exact h2
            · have h1 := kindL_at (a := a) (b := b) (m := (a.length + 1) * (b.length + 1)) hi hj (place_small hi hj) hij
              obtain ⟨hq, he⟩ := List.getElem?_eq_some_iff.1 h1
              have h2 := (HOk1.cell1 (f := Value.int .u8) (fun _ => rfl) (i * (b.length + 1) + j) hq).2.1
              rw [he] at h2
              exact h2
    · have H1 := Lib.hid h1
      have H2 := Lib.hid h2
      have HE : Hid (pairE p = tkE p.t) := by show _ = _; unfold pairE; rw [if_pos h1]
      obtain ⟨z, hz3⟩ : ∃ z, tkE p.t = z := ⟨_, rfl⟩
      have hz0 : z ≠ 0 := hz3 ▸ h2
      clear h1 h2
      go_enter Tryd.func36, Tryd.ntmps36
      go_wp2_with fail
      refine (tk_c p.n _ hU hz).mono ?_
      rintro e w2 ⟨hb2, h3, _⟩
      obtain ⟨v, a, ha, ha1, ha2, rfl, hOa⟩ := h3 H1.out
      clear h3
      have DA := Lib.hid ha
      clear ha
      go_wp2_with fail
      refine (tk_c p.t _ (hU.to hb2) hz2).mono ?_
      rintro e w3 ⟨hb3, _, h3⟩
      obtain rfl := h3 H2.out
      clear h3
      rw [hz3]
      go_wp2_with fail
      go_ret2
      refine ⟨Bst hb2 hb3, fun h => absurd (HE.out.symm.trans h) H2.out, fun _ => ?_⟩
      rw [HE.out, hz3]; rfl
  · have H1 := Lib.hid h1
    have HE : Hid (pairE p = tkE p.n) := by show _ = _; unfold pairE; rw [if_neg h1]
    obtain ⟨z, hz3⟩ : ∃ z, tkE p.n = z := ⟨_, rfl⟩
    have hz0 : z ≠ 0 := hz3 ▸ h1
    clear h1
    go_enter Tryd.func36, Tryd.ntmps36
    go_wp2_with fail
    refine (tk_c p.n _ hU hz).mono ?_
    rintro e w2 ⟨hb2, _, h3⟩
    obtain rfl := h3 H1.out
    clear h3
    rw [hz3]
    go_wp2_with fail
    go_ret2
    refine ⟨hb2, fun h => absurd (HE.out.symm.trans h) H1.out, fun _ => ?_⟩
    rw [HE.out, hz3]; rfl
end Go.Proofs.YtmpoihejacklnaaDoor
/- A table of numbers in memory: a row of rows, made from the last one on. No condition. -/
namespace Go.Proofs.YtmpoihejacklnaaDoor
open Go Go.RowKit
/-- Slices as values. -/
structure Sl where
  A : Option Addr
  n : Nat
  c : Nat
def eSl : Enc Sl := ⟨1, fun s => [.slice s.A s.n s.c], fun _ => rfl, fun _ v hv => by simp at hv; subst hv; rfl⟩
def vSl (s : Sl) : Value := .slice s.A s.n s.c
/-! ### a block of cells, written out -/
def Bx (W : World) (X : Nat) (t : TypeId) (vs : Array Value) : Prop := W.heap[X]? = some (.cells vs t (0, 0))
theorem Bx.lt {W : World} {X : Nat} {t : TypeId} {vs : Array Value} (h : Bx W X t vs) : X < W.heap.size := (Array.getElem?_eq_some_iff.1 h).1
theorem Bx.cell {W : World} {X : Nat} {t : TypeId} {vs : Array Value} (h : Bx W X t vs) (i : Nat) : W.cell? ⟨X, i, none⟩ = vs[i]? := by simp [World.cell?, show W.heap[X]? = _ from h]
theorem Bx.frozen {W : World} {X : Nat} {t : TypeId} {vs : Array Value} (h : Bx W X t vs) (i : Nat) : W.frozen? ⟨X, i, none⟩ = false := by simp [World.frozen?, show W.heap[X]? = _ from h]
theorem Bx.new (W : World) (t : TypeId) (vs : Array Value) : Bx (W.alloc (.cells vs t)) W.heap.size t vs := World.alloc_heap_new W _
theorem Bx.put {W : World} {X : Nat} {t : TypeId} {vs : Array Value} (h : Bx W X t vs) (i : Nat) (v : Value) : Bx (W.setCell ⟨X, i, none⟩ v) X t (vs.setIfInBounds i v) := by
  obtain ⟨hlt, hk⟩ := Array.getElem?_eq_some_iff.1 h
  show (W.heap.modify X _)[X]? = _
  rw [Array.getElem?_eq_getElem (by rw [Array.size_modify]; exact hlt), Array.getElem_modify_self, hk]
  rfl
theorem Bx.kb {W W' : World} {X : Nat} {t : TypeId} {vs : Array Value} {S : List Nat} (h : Bx W X t vs) (hk : Kb W W' S) (hn : X ∉ S) : Bx W' X t vs := (hk.block X h.lt hn).trans h
theorem Bx.below {W W' : World} {X : Nat} {t : TypeId} {vs : Array Value} (h : Bx W X t vs) (hb : Below W.heap.size W W') : Bx W' X t vs := (hb.block X h.lt).trans h
theorem flat1 (l : List Sl) : l.flatMap eSl.e = l.map vSl := by
  induction l with
  | nil => rfl
  | cons a l ih => rw [List.flatMap_cons, ih]; rfl
theorem own_madeI (base : Nat) (w : World) (g n : Nat) (h : w.ownsRow base 3 1 (.slice (some ⟨g, 0, none⟩) n n) n (madeCells (Value.int .i64 0).cells (n * 1)).toList) : Own (eInt .i64) base 3 w (.slice (some ⟨g, 0, none⟩) n n) (List.replicate n 0) := by
  unfold Own
  rw [List.length_replicate, flat_one (f := Value.int .i64) (fun _ => rfl), List.map_replicate, ← toList_madeCells_one]
  rw [Nat.mul_one] at h
  exact h
theorem own_madeS (base : Nat) (w : World) (g n : Nat) (h : w.ownsRow base 61 1 (.slice (some ⟨g, 0, none⟩) n n) n (madeCells (Value.slice none 0 0).cells (n * 1)).toList) : Own eSl base 61 w (.slice (some ⟨g, 0, none⟩) n n) (List.replicate n ⟨none, 0, 0⟩) := by
  unfold Own
  rw [List.length_replicate, flat1, List.map_replicate, ← toList_madeCells_one]
  rw [Nat.mul_one] at h
  exact h
/-- Rows that were made, one behind the other. -/
def RwO (base : Nat) (W : World) (ss : List Sl) (ls : List (List Int)) : Prop := ss.length = ls.length ∧ ∀ (k : Nat) (s : Sl) (l : List Int), ss[k]? = some s → ls[k]? = some l → s.n = l.length ∧ Own (eInt .i32) base 21 W (vSl s) l
theorem RwO.nil (base : Nat) (W : World) : RwO base W [] [] := ⟨rfl, fun k s l h => by simp at h⟩
theorem RwO.snoc {base : Nat} {W : World} {ss : List Sl} {ls : List (List Int)} (h : RwO base W ss ls) (s : Sl) (l : List Int) (hn : s.n = l.length) (ho : Own (eInt .i32) base 21 W (vSl s) l) : RwO base W (ss ++ [s]) (ls ++ [l]) := by
  refine ⟨by simp [h.1], fun k s' l' h1 h2 => ?_⟩
  rcases Nat.lt_trichotomy k ss.length with hk | hk | hk
  · rw [List.getElem?_append_left hk] at h1
    rw [List.getElem?_append_left (by rw [← h.1]; exact hk)] at h2
    exact h.2 k s' l' h1 h2
  · rw [hk, List.getElem?_append_right (Nat.le_refl _), Nat.sub_self] at h1
    rw [hk, h.1, List.getElem?_append_right (Nat.le_refl _), Nat.sub_self] at h2
    simp at h1 h2
    subst h1 h2
    exact ⟨hn, ho⟩
  · rw [List.getElem?_eq_none (by simp; omega)] at h1; cases h1
theorem RwO.kb {base : Nat} {W W' : World} {ss : List Sl} {ls : List (List Int)} {S : List Nat} (h : RwO base W ss ls) (hk : Kb W W' S) (hS : ∀ b ∈ S, ∀ cs m, W.heap[b]? ≠ some (.cells cs 21 m)) : RwO base W' ss ls :=
  ⟨h.1, fun k s l h1 h2 => by
    obtain ⟨a, b⟩ := h.2 k s l h1 h2
    refine ⟨a, b.kb hk fun g hg hgS => ?_⟩
    obtain ⟨cs, hc⟩ := b.cells hg
    exact hS g hgS _ _ hc⟩
theorem RwO.below {base : Nat} {W W' : World} {ss : List Sl} {ls : List (List Int)} (h : RwO base W ss ls) (hb : Below W.heap.size W W') : RwO base W' ss ls := h.kb (Kb.below hb) (by simp)
theorem RwO.rw {base : Nat} {e : TypeId} {W : World} {v : Value} {ss : List Sl} {ls : List (List Int)} (h : RwO base W ss ls) (ho : Own eSl base e W v ss) : ∃ A c, v = .slice A ls.length c ∧ RwB (fun b => ∃ c e', W.heap[b]? = some (.cells c e' (0, 0)) ∧ (e' = e ∨ e' = 21)) (eInt .i32) W A ls := by
  have hg := fun g hg => ho.cells (g := g) hg
  obtain ⟨A, c, rfl, h1, h2, h3⟩ := ho.slv
  refine ⟨A, c, by rw [h.1], fun k l hl => ?_⟩
  have hk : k < ss.length := by rw [h.1]; exact (List.getElem?_eq_some_iff.1 hl).1
  obtain ⟨hn, hO⟩ := h.2 k _ l (List.getElem?_eq_getElem hk) hl
  obtain ⟨b, o, rfl, hc⟩ := h3.at1 (f1 := vSl) (fun _ => rfl) (Below.refl _ _) k hk
  have hge := fun g hg => hO.cells (g := g) hg
  obtain ⟨A', c', e', q1, q2, q3⟩ := hO.slv
  generalize ss[k] = s at *
  obtain ⟨sA, sn, sc⟩ := s
  simp only [vSl] at e' hc hge hn
  injection e' with e1 e2 e3
  subst e1 e2 e3
  obtain ⟨x1, x2⟩ := hg b rfl
  refine ⟨b, o, sA, sc, rfl, ⟨x1, e, x2, .inl rfl⟩, hc, q1, q2, q3, fun b' o' hA _ => ?_⟩
  obtain ⟨y1, y2⟩ := hge b' (by rw [hA]; rfl)
  exact ⟨y1, _, y2, .inr rfl⟩
/-- A row of numbers. -/
def RowC (W : World) (base rc m : Nat) (f : Nat → Int) : Prop := Own (eInt .i64) base 3 W (.slice (some ⟨rc, 0, none⟩) (m + 1) (m + 1)) ((List.range (m + 1)).map f)
theorem RowC.zero {W : World} {base rc m : Nat} (h : Own (eInt .i64) base 3 W (.slice (some ⟨rc, 0, none⟩) (m + 1) (m + 1)) (List.replicate (m + 1) 0)) : RowC W base rc m fun _ => 0 := by
  unfold RowC
  rw [show (List.range (m + 1)).map (fun _ => (0 : Int)) = List.replicate (m + 1) 0 by rw [List.map_const']; simp]
  exact h
theorem RowC.cell {W : World} {base rc m : Nat} {f : Nat → Int} (h : RowC W base rc m f) {j : Nat} (hj : j ≤ m) : rc < W.heap.size ∧ W.cell? ⟨rc, j, none⟩ = some (.int .i64 (f j)) ∧ W.frozen? ⟨rc, j, none⟩ = false := by
  obtain ⟨h1, h2, h3⟩ := Own.cell1 (f := Value.int .i64) (fun _ => rfl) h j (by simp; omega)
  refine ⟨h1, ?_, h3⟩
  rw [h2]; simp
theorem RowC.put {W : World} {base rc m : Nat} {f : Nat → Int} (h : RowC W base rc m f) (j : Nat) (v : Int) : RowC (W.setCell ⟨rc, j, none⟩ (.int .i64 v)) base rc m fun q => if q = j then v else f q := by
  have h1 := (Own.put1 (f := Value.int .i64) (fun _ => rfl) h (by simp) j v).1
  unfold RowC
  have e : ((List.range (m + 1)).map f).set j v = (List.range (m + 1)).map fun q => if q = j then v else f q := by
    refine List.ext_getElem? fun q => ?_
    rw [List.getElem?_set, List.getElem?_map, List.getElem?_map]
    by_cases h2 : j = q
    · subst h2
      rw [if_pos rfl]
      by_cases h3 : j < m + 1
      · rw [if_pos (by simpa using h3), List.getElem?_range h3]; simp
      · rw [if_neg (by simpa using h3), List.getElem?_eq_none (by simp; omega)]; rfl
    · rw [if_neg h2]
      by_cases h3 : q < m + 1
      · rw [List.getElem?_range h3]; simp [Ne.symm h2]
      · rw [List.getElem?_eq_none (by simp; omega)]; rfl
  rw [e] at h1
  exact h1
theorem RowC.congr {W : World} {base rc m : Nat} {f g : Nat → Int} (h : RowC W base rc m f) (he : ∀ j, j ≤ m → f j = g j) : RowC W base rc m g := by
  unfold RowC at *
  rw [show (List.range (m + 1)).map g = (List.range (m + 1)).map f from List.map_congr_left fun j hj => (he j (by have := List.mem_range.1 hj; omega)).symm]
  exact h
/-- The table: its rows from k on are made, in blocks below B. -/
structure Mat (W : World) (base cb n m k B : Nat) (cs : List Sl) (g : Nat → Nat → Nat) : Prop where
  own : Own eSl base 61 W (.slice (some ⟨cb, 0, none⟩) (n + 1) (n + 1)) cs
  len : cs.length = n + 1
  rows : ∀ i, k ≤ i → i ≤ n → ∃ r, cs[i]? = some ⟨some ⟨r, 0, none⟩, m + 1, m + 1⟩ ∧ r < B ∧ cb < r ∧ ∀ j, j ≤ m → W.cell? ⟨r, j, none⟩ = some (.int .i64 (g i j))
theorem Mat.kb {W W' : World} {base cb n m k B rc : Nat} {cs : List Sl} {g : Nat → Nat → Nat} (h : Mat W base cb n m k B cs g) (hk : Kb W W' [rc]) (hB : B ≤ rc) (hc : cb ≠ rc) : Mat W' base cb n m k B cs g :=
  ⟨h.own.kb hk (fun b hb => by simp only [Value.ownBlock] at hb; injection hb with hb; subst hb; simpa using hc), h.len, fun i h1 h2 => by
    obtain ⟨r, a, b, c, d⟩ := h.rows i h1 h2
    exact ⟨r, a, b, c, fun j hj => hk.cell (d j hj) (by simp; omega)⟩⟩
theorem Mat.low {W W' : World} {base cb n m k B x : Nat} {cs : List Sl} {g : Nat → Nat → Nat} (h : Mat W base cb n m k B cs g) (hk : Kb W W' [x]) (hx : x < cb) : Mat W' base cb n m k B cs g :=
  ⟨h.own.kb hk (fun b hb => by simp only [Value.ownBlock] at hb; injection hb with hb; subst hb; simp; omega), h.len, fun i h1 h2 => by
    obtain ⟨r, a, b, c, d⟩ := h.rows i h1 h2
    exact ⟨r, a, b, c, fun j hj => hk.cell (d j hj) (by simp; omega)⟩⟩
theorem Mat.below {W W' : World} {base cb n m k B : Nat} {cs : List Sl} {g : Nat → Nat → Nat} (h : Mat W base cb n m k B cs g) (hb : Below W.heap.size W W') : Mat W' base cb n m k B cs g :=
  ⟨h.own.below hb, h.len, fun i h1 h2 => by
    obtain ⟨r, a, b, c, d⟩ := h.rows i h1 h2
    exact ⟨r, a, b, c, fun j hj => bkc hb (d j hj)⟩⟩
theorem Mat.at {W : World} {base cb n m k B : Nat} {cs : List Sl} {g : Nat → Nat → Nat} (h : Mat W base cb n m k B cs g) {i j : Nat} (h1 : k ≤ i) (h2 : i ≤ n) (hj : j ≤ m) : ∃ r, r < B ∧ W.cell? ⟨cb, i, none⟩ = some (.slice (some ⟨r, 0, none⟩) (m + 1) (m + 1)) ∧ W.cell? ⟨r, j, none⟩ = some (.int .i64 (g i j)) := by
  obtain ⟨r, a, b, c, d⟩ := h.rows i h1 h2
  obtain ⟨_, e, _⟩ := Own.cell1 (f := vSl) (fun _ => rfl) h.own i (by rw [h.len]; omega)
  refine ⟨r, b, ?_, d j hj⟩
  rw [e]
  obtain ⟨hq, hh⟩ := List.getElem?_eq_some_iff.1 a
  rw [hh]; rfl
theorem Mat.cur {W : World} {base cb n m k B : Nat} {cs : List Sl} {g : Nat → Nat → Nat} (h : Mat W base cb n m k B cs g) {i : Nat} {s : Sl} (hc : cs[i]? = some s) : W.cell? ⟨cb, i, none⟩ = some (vSl s) := by
  obtain ⟨hq, hh⟩ := List.getElem?_eq_some_iff.1 hc
  obtain ⟨_, e, _⟩ := Own.cell1 (f := vSl) (fun _ => rfl) h.own i hq
  rw [e, hh]
theorem Mat.slot {W : World} {base cb n m k B : Nat} {cs : List Sl} {g : Nat → Nat → Nat} (h : Mat W base cb n m k B cs g) {i : Nat} (h2 : i ≤ n) : cb < W.heap.size ∧ (∃ v, W.cell? ⟨cb, i, none⟩ = some v) ∧ W.frozen? ⟨cb, i, none⟩ = false := by
  obtain ⟨a, e, f⟩ := Own.cell1 (f := vSl) (fun _ => rfl) h.own i (by rw [h.len]; omega)
  exact ⟨a, ⟨_, e⟩, f⟩
/-- A row is laid in its place. -/
theorem Mat.lay {W : World} {base cb n m k B : Nat} {cs : List Sl} {g : Nat → Nat → Nat} (h : Mat W base cb n m k B cs g) (i rc : Nat) (hi : i ≤ n) (hik : i < k) (_ : B ≤ rc) :
    ∃ cs', Mat (W.setCell ⟨cb, i, none⟩ (.slice (some ⟨rc, 0, none⟩) (m + 1) (m + 1))) base cb n m k B cs' g ∧ cs'[i]? = some ⟨some ⟨rc, 0, none⟩, m + 1, m + 1⟩ := by
  have h1 := (Own.put1 (f := vSl) (fun _ => rfl) h.own h.len i ⟨some ⟨rc, 0, none⟩, m + 1, m + 1⟩).1
  refine ⟨cs.set i ⟨some ⟨rc, 0, none⟩, m + 1, m + 1⟩, ⟨h1, by simp [h.len], fun i' q1 q2 => ?_⟩, ?_⟩
  · obtain ⟨r, a, b, c, d⟩ := h.rows i' q1 q2
    refine ⟨r, ?_, b, c, fun j hj => ?_⟩
    · rw [List.getElem?_set_ne (by omega)]; exact a
    · exact (Kb.grown (grownBy_cell W cb i _)).cell (d j hj) (by simp; omega)
  · rw [List.getElem?_set_self (by rw [h.len]; omega)]
/-- A row is done. -/
theorem Mat.done {W : World} {base cb n m k B : Nat} {cs : List Sl} {g : Nat → Nat → Nat} {i rc : Nat} {f : Nat → Int} (h : Mat W base cb n m k B cs g) (hk : k = i + 1) (hc : cs[i]? = some ⟨some ⟨rc, 0, none⟩, m + 1, m + 1⟩) (hr : RowC W base rc m f) (hf : ∀ j, j ≤ m → f j = g i j) (hB : B ≤ rc) (hne : cb < rc) :
    Mat W base cb n m i (rc + 1) cs g := ⟨h.own, h.len, fun i' q1 q2 => by
  by_cases e : i' = i
  · subst e
    exact ⟨rc, hc, by omega, hne, fun j hj => by rw [(hr.cell hj).2.1, hf j hj]⟩
  · obtain ⟨r, a, b, c, d⟩ := h.rows i' (by omega) q2
    exact ⟨r, a, by omega, c, d⟩⟩
end Go.Proofs.YtmpoihejacklnaaDoor
/- utf8.AppendRune onto one row beside other ones. No condition. -/
namespace Go.Proofs.YtmpoihejacklnaaDoor
open Go Go.RowKit
/-- Two rows in blocks of their own. -/
def ApartV (u v : Value) : Prop := ∀ g, u.ownBlock = some g → v.ownBlock ≠ some g
theorem ApartV.symm {u v : Value} (h : ApartV u v) : ApartV v u := fun g hv hu => h g hu hv
theorem ApartV.none (v : Value) : ApartV (.slice none 0 0) v := fun g h => by cases h
theorem Own.blk {α : Type} {E : Enc α} {base : Nat} {e : TypeId} {w : World} {v : Value} {xs : List α} (h : Own E base e w v xs) : v.ownBlock = none ∨ ∃ g, v.ownBlock = some g ∧ g < w.heap.size := by
  rcases h.2 with ⟨rfl, _⟩ | ⟨g, cap, cur, rfl, _, hg, _⟩
  · exact .inl rfl
  · exact .inr ⟨g, rfl, (Array.getElem?_eq_some_iff.1 hg).1⟩
theorem keepO {α : Type} {E : Enc α} {base : Nat} {e : TypeId} {W w1 : World} {u v v' : Value} {ys : List α} (h : Own E base e W u ys) (ha : ApartV u v) (hg : W.grownBy w1 v.ownBlock) (hm : Moved W v v') : Own E base e w1 u ys ∧ ApartV u v' := by
  refine ⟨h.kept hg ?_, fun g hu => ?_⟩
  · rcases h.blk with h0 | ⟨g, hu, _⟩
    · exact .inl h0
    · exact .inr (by rw [hu]; exact fun e => ha g hu e.symm)
  · rcases hm with hm | hm
    · rw [hm]; exact ha g hu
    · rw [hm]
      rcases h.blk with h0 | ⟨g', hu', hlt⟩
      · rw [h0] at hu; cases hu
      · rw [hu'] at hu
        injection hu with hu
        subst hu
        intro e
        injection e with e
        omega
/-- What an append of a rune leaves: the row longer, all rows apart from it as they were. -/
def ApmPost (w0 W : World) (v : Value) (zs : List Int) (r : Int) (e : Ending) (w' : World) : Prop :=
  ∃ v', e = .returned v' ∧ Own (eInt .u8) w0.heap.size 5 w' v' (zs ++ Lib.encodeRuneZ r) ∧ Below w0.heap.size w0 w' ∧ (∀ g, g < W.heap.size → v.ownBlock ≠ some g → w'.heap[g]? = W.heap[g]?) ∧
    ∀ (u : Value) (ys : List Int), Own (eInt .u8) w0.heap.size 5 W u ys → ApartV u v → Own (eInt .u8) w0.heap.size 5 w' u ys ∧ ApartV u v'
theorem info_u8b : (Tryd.prog.info? 5).map (fun i => (i.zero, i.size, i.bytes)) = some (some (.int .u8 0), 1, 1) := by kernel_rfl
set_option maxRecDepth 100000 in
set_option maxHeartbeats 4000000 in
theorem napp_m (w0 : World) (v : Value) (zs : List Int) (r : Int) (W : World) (hO : Own (eInt .u8) w0.heap.size 5 W v zs) (hb : Below w0.heap.size w0 W) (hr : IsR r) (hna : 128 ≤ r) (hl : zs.length ≤ 4194304) :
    Calls Tryd.prog 106 #[v, .int .i32 r] W (ApmPost w0 W v zs r) := by
  obtain ⟨hr0, hr1, hr2⟩ := hr
  rcases (by omega : r ≤ 2047 ∨ (2048 ≤ r ∧ r < 55296) ∨ (57343 < r ∧ r ≤ 65535) ∨ (65536 ≤ r ∧ r ≤ 1114111)) with h1 | ⟨h1, h2⟩ | ⟨h1, h2⟩ | ⟨h1, h2⟩
  · have HZ := Lib.hid (Lib.encodeRuneZ_two (r := r) (by omega) h1)
    clear hr2
    go_enter Tryd.func106, Tryd.ntmps106
    go_wp2_with (at_builtin; refine app (E := eInt .u8) (w0 := w0) _ _ 81 5 (.int .u8 0) 1 rfl rfl Tryd.underlying81 info_u8b rfl (by decide) (by decide) v zs [192 + r / 64, 128 + r % 64] ⟨W.heap.size, 0, none⟩ 2 2 rfl rfl rfl (hO.alloc _) (SlA.new (eInt .u8) W [192 + r / 64, 128 + r % 64] 5 _ rfl _ rfl) Bel (by simp; omega) ?_; intro v' w1 HO1 hb1 hg1 hm1)
    go_ret
    rw [← HZ.out] at HO1
    exact ⟨v', rfl, HO1, hb1, fun g hlt hne => (hg1.block g (by simp; omega) (fun e => hne e.symm)).trans ((Bal (Below.refl W.heap.size W) _).block g hlt), fun u ys hu ha => keepO (hu.alloc _) ha hg1 hm1⟩
  · have HZ := Lib.hid (Lib.encodeRuneZ_three (r := r) (Or.inl ⟨by omega, h2⟩))
    clear hr2
    go_enter Tryd.func106, Tryd.ntmps106
    go_wp2_with (at_builtin; refine app (E := eInt .u8) (w0 := w0) _ _ 81 5 (.int .u8 0) 1 rfl rfl Tryd.underlying81 info_u8b rfl (by decide) (by decide) v zs [224 + r / 4096, 128 + r / 64 % 64, 128 + r % 64] ⟨W.heap.size, 0, none⟩ 3 3 rfl rfl rfl (hO.alloc _) (SlA.new (eInt .u8) W [224 + r / 4096, 128 + r / 64 % 64, 128 + r % 64] 5 _ rfl _ rfl) Bel (by simp; omega) ?_; intro v' w1 HO1 hb1 hg1 hm1)
    go_ret
    rw [← HZ.out] at HO1
    exact ⟨v', rfl, HO1, hb1, fun g hlt hne => (hg1.block g (by simp; omega) (fun e => hne e.symm)).trans ((Bal (Below.refl W.heap.size W) _).block g hlt), fun u ys hu ha => keepO (hu.alloc _) ha hg1 hm1⟩
  · have HZ := Lib.hid (Lib.encodeRuneZ_three (r := r) (Or.inr ⟨by omega, h2⟩))
    clear hr2
    go_enter Tryd.func106, Tryd.ntmps106
    go_wp2_with (at_builtin; refine app (E := eInt .u8) (w0 := w0) _ _ 81 5 (.int .u8 0) 1 rfl rfl Tryd.underlying81 info_u8b rfl (by decide) (by decide) v zs [224 + r / 4096, 128 + r / 64 % 64, 128 + r % 64] ⟨W.heap.size, 0, none⟩ 3 3 rfl rfl rfl (hO.alloc _) (SlA.new (eInt .u8) W [224 + r / 4096, 128 + r / 64 % 64, 128 + r % 64] 5 _ rfl _ rfl) Bel (by simp; omega) ?_; intro v' w1 HO1 hb1 hg1 hm1)
    go_ret
    rw [← HZ.out] at HO1
    exact ⟨v', rfl, HO1, hb1, fun g hlt hne => (hg1.block g (by simp; omega) (fun e => hne e.symm)).trans ((Bal (Below.refl W.heap.size W) _).block g hlt), fun u ys hu ha => keepO (hu.alloc _) ha hg1 hm1⟩
  · have HZ := Lib.hid (Lib.encodeRuneZ_four (r := r) (by omega) h2)
    clear hr2
    go_enter Tryd.func106, Tryd.ntmps106
    go_wp2_with (at_builtin; refine app (E := eInt .u8) (w0 := w0) _ _ 81 5 (.int .u8 0) 1 rfl rfl Tryd.underlying81 info_u8b rfl (by decide) (by decide) v zs [240 + r / 262144, 128 + r / 4096 % 64, 128 + r / 64 % 64, 128 + r % 64] ⟨W.heap.size, 0, none⟩ 4 4 rfl rfl rfl (hO.alloc _) (SlA.new (eInt .u8) W [240 + r / 262144, 128 + r / 4096 % 64, 128 + r / 64 % 64, 128 + r % 64] 5 _ rfl _ rfl) Bel (by simp; omega) ?_; intro v' w1 HO1 hb1 hg1 hm1)
    go_ret
    rw [← HZ.out] at HO1
    exact ⟨v', rfl, HO1, hb1, fun g hlt hne => (hg1.block g (by simp; omega) (fun e => hne e.symm)).trans ((Bal (Below.refl W.heap.size W) _).block g hlt), fun u ys hu ha => keepO (hu.alloc _) ha hg1 hm1⟩
set_option maxRecDepth 100000 in
set_option maxHeartbeats 4000000 in
theorem append_m (w0 : World) (v : Value) (zs : List Int) (r : Int) (W : World) (hO : Own (eInt .u8) w0.heap.size 5 W v zs) (hb : Below w0.heap.size w0 W) (hr : IsR r) (hl : zs.length ≤ 4194304) :
    Calls Tryd.prog 87 #[v, .int .i32 r] W (ApmPost w0 W v zs r) := by
  by_cases hna : 128 ≤ r
  · have HR := Lib.hid hr
    obtain ⟨hr0, hr1, hr2⟩ := hr
    clear hr2
    go_enter Tryd.func87, Tryd.ntmps87
    go_wp2_with (go_at_call 106; refine (napp_m w0 v zs r _ hO hb HR.out hna hl).mono ?_; rintro e w1 ⟨v', rfl, h1, h2, h3, h4⟩)
    go_ret
    exact ⟨v', rfl, h1, h2, h3, h4⟩
  · obtain ⟨hr0, hr1, hr2⟩ := hr
    have HZ := Lib.hid (Lib.encodeRuneZ_one (r := r) hr0 (by omega))
    clear hr2
    go_enter Tryd.func87, Tryd.ntmps87
    go_wp2_with (at_builtin; refine app (E := eInt .u8) (w0 := w0) _ _ 81 5 (.int .u8 0) 1 rfl rfl Tryd.underlying81 info_u8b rfl (by decide) (by decide) v zs [r] ⟨W.heap.size, 0, none⟩ 1 1 rfl rfl rfl (hO.alloc _) (SlA.new (eInt .u8) W [r] 5 _ rfl _ rfl) Bel (by simp; omega) ?_; intro v' w1 HO1 hb1 hg1 hm1)
    go_ret
    rw [← HZ.out] at HO1
    exact ⟨v', rfl, HO1, hb1, fun g hlt hne => (hg1.block g (by simp; omega) (fun e => hne e.symm)).trans ((Bal (Below.refl W.heap.size W) _).block g hlt), fun u ys hu ha => keepO (hu.alloc _) ha hg1 hm1⟩
end Go.Proofs.YtmpoihejacklnaaDoor
/- Hits by their place, in plain Lean; rows of numbers in memory, each its own, which grow. No condition. -/
namespace Go.Proofs.YtmpoihejacklnaaDoor
open Go Go.RowKit
/-- What hits tell of a place. -/
def hitAt (hs : List (Nat × Nat)) (i : Nat) : List Int := (hs.filter fun h => decide (h.1 = i)).map fun h => (h.2 : Int)
theorem hitAt_nil (i : Nat) : hitAt [] i = [] := rfl
theorem hitAt_snoc (hs : List (Nat × Nat)) (h : Nat × Nat) (i : Nat) : hitAt (hs ++ [h]) i = hitAt hs i ++ if h.1 = i then [(h.2 : Int)] else [] := by
  unfold hitAt
  rw [List.filter_append, List.map_append]
  by_cases e : h.1 = i <;> simp [e]
theorem flatMap_only {α : Type} (X : List α) (i : Nat) : ∀ n, (List.range n).flatMap (fun a => if a = i then X else []) = if i < n then X else []
  | 0 => by simp
  | n + 1 => by
    rw [List.range_succ, List.flatMap_append, flatMap_only X i n]
    by_cases h : i < n
    · rw [if_pos h, if_pos (by omega)]; simp; omega
    · by_cases h2 : i = n
      · subst h2; simp
      · rw [if_neg h, if_neg (by omega)]; simp; omega
theorem hitAt_all {xs : List T3} {T : List Int} {i : Nat} (hi : i ≤ T.length) : hitAt (hitsL (froms xs) T) i = hitsI xs T i := by
  unfold hitAt hitsL
  rw [List.filter_flatMap]
  have e : ∀ a, (((List.range (froms xs).length).filter fun k => decide (Stands ((froms xs)[k]?.getD []) T a)).map fun k => (a, k)).filter (fun h : Nat × Nat => decide (h.1 = i)) = if a = i then (((List.range (froms xs).length).filter fun k => decide (Stands ((froms xs)[k]?.getD []) T i)).map fun k => (i, k)) else [] := by
    intro a
    by_cases h : a = i
    · subst h
      rw [if_pos rfl]
      refine List.filter_eq_self.2 fun x hx => ?_
      obtain ⟨k, _, rfl⟩ := List.mem_map.1 hx
      simp
    · rw [if_neg h]
      refine List.filter_eq_nil_iff.2 fun x hx => ?_
      obtain ⟨k, _, rfl⟩ := List.mem_map.1 hx
      simpa using h
  rw [show (fun a => (((List.range (froms xs).length).filter fun k => decide (Stands ((froms xs)[k]?.getD []) T a)).map fun k => (a, k)).filter (fun h : Nat × Nat => decide (h.1 = i))) = _ from funext e, flatMap_only, if_pos (by omega), List.map_map]
  unfold hitsI hitsK
  rw [show (froms xs).length = xs.length by unfold froms; simp]
  have hf : (List.range xs.length).filter (fun k => decide (Stands ((froms xs)[k]?.getD []) T i)) = (List.range xs.length).filter fun k => decide (Stands (ruAt (rus xs) k).f T i) := by
    refine List.filter_congr fun k hk => ?_
    have hk' := List.mem_range.1 hk
    rw [rus_at hk']
    unfold froms
    rw [List.getElem?_map, List.getElem?_eq_getElem hk']; rfl
  rw [hf]; rfl
theorem hitsL_at {fs : List (List Int)} {l : List Int} {h : Nat × Nat} (hm : h ∈ hitsL fs l) : h.1 ≤ l.length ∧ h.2 < fs.length := by
  unfold hitsL at hm
  obtain ⟨a, ha, hm⟩ := List.mem_flatMap.1 hm
  obtain ⟨k, hk, rfl⟩ := List.mem_map.1 hm
  exact ⟨by have := List.mem_range.1 ha; omega, List.mem_range.1 (List.mem_filter.1 hk).1⟩
/-- Rows of numbers, each its own, in a row of slices. -/
structure HRows (b0 b1 : Nat) (W : World) (hb : Nat) (ss : List Sl) (ls : List (List Int)) : Prop where
  own : Own eSl b0 61 W (.slice (some ⟨hb, 0, none⟩) ls.length ls.length) ss
  len : ss.length = ls.length
  low : hb < b1
  rows : ∀ (k : Nat) (s : Sl) (l : List Int), ss[k]? = some s → ls[k]? = some l → s.n = l.length ∧ Own (eInt .i64) b1 3 W (vSl s) l
  ap : ∀ (k k' : Nat) (s s' : Sl), k ≠ k' → ss[k]? = some s → ss[k']? = some s' → ApartV (vSl s) (vSl s')
theorem HRows.nil {b0 b1 n : Nat} {W : World} {hb : Nat} (h : Own eSl b0 61 W (.slice (some ⟨hb, 0, none⟩) n n) (List.replicate n ⟨none, 0, 0⟩)) (hl : hb < b1) : HRows b0 b1 W hb (List.replicate n ⟨none, 0, 0⟩) (List.replicate n []) := by
  refine ⟨?_, by simp, hl, fun k s l h1 h2 => ?_, fun k k' s s' _ h1 _ => ?_⟩
  · rw [List.length_replicate]; exact h
  · obtain ⟨_, rfl⟩ := List.mem_replicate.1 (List.mem_of_getElem? h1)
    obtain ⟨_, rfl⟩ := List.mem_replicate.1 (List.mem_of_getElem? h2)
    exact ⟨rfl, Own.nil _⟩
  · obtain ⟨_, rfl⟩ := List.mem_replicate.1 (List.mem_of_getElem? h1)
    exact ApartV.none _
theorem HRows.below {b0 b1 : Nat} {W W' : World} {hb : Nat} {ss : List Sl} {ls : List (List Int)} (h : HRows b0 b1 W hb ss ls) (k : Below W.heap.size W W') : HRows b0 b1 W' hb ss ls :=
  ⟨h.own.below k, h.len, h.low, fun j s l h1 h2 => ⟨(h.rows j s l h1 h2).1, (h.rows j s l h1 h2).2.below k⟩, h.ap⟩
theorem HRows.cell {b0 b1 : Nat} {W : World} {hb : Nat} {ss : List Sl} {ls : List (List Int)} (h : HRows b0 b1 W hb ss ls) {k : Nat} (hk : k < ls.length) :
    ∃ s, ss[k]? = some s ∧ s.n = ls[k].length ∧ Own (eInt .i64) b1 3 W (vSl s) ls[k] ∧ hb < W.heap.size ∧ W.cell? ⟨hb, k, none⟩ = some (vSl s) ∧ W.frozen? ⟨hb, k, none⟩ = false := by
  have hks : k < ss.length := by rw [h.len]; exact hk
  obtain ⟨h1, h2⟩ := h.rows k _ _ (List.getElem?_eq_getElem hks) (List.getElem?_eq_getElem hk)
  obtain ⟨a, b, c⟩ := Own.cell1 (f := vSl) (fun _ => rfl) h.own k hks
  exact ⟨ss[k], List.getElem?_eq_getElem hks, h1, h2, a, b, c⟩
/-- One row grows. -/
theorem HRows.app {b0 b1 : Nat} {W W' : World} {hb : Nat} {ss : List Sl} {ls : List (List Int)} (h : HRows b0 b1 W hb ss ls) {k : Nat} (hk : k < ls.length) {s s' : Sl} (hs : ss[k]? = some s) (x : Int)
    (hO : Own (eInt .i64) b1 3 W' (vSl s') (ls[k] ++ [x])) (hg : W.grownBy W' (vSl s).ownBlock) (hm : Moved W (vSl s) (vSl s')) (hn : s'.n = (ls[k] ++ [x]).length) :
    HRows b0 b1 (W'.setCell ⟨hb, k, none⟩ (vSl s')) hb (ss.set k s') (ls.set k (ls[k] ++ [x])) := by
  have hks : k < ss.length := by rw [h.len]; exact hk
  have hrow := (h.rows k _ _ hs (List.getElem?_eq_getElem hk)).2
  have hkb : Kb W W' (vSl s).ownBlock.toList := Kb.row hg fun k hk => by simp [hk]
  have hown : Own eSl b0 61 W' (.slice (some ⟨hb, 0, none⟩) ls.length ls.length) ss := h.own.kb hkb fun g hgb hgs => by
    obtain ⟨c1, h1⟩ := h.own.cells hgb
    obtain ⟨c2, h2⟩ := hrow.cells (show (vSl s).ownBlock = some g by simpa using hgs)
    rw [h1] at h2
    injection h2 with h2
    injection h2 with _ h2
    exact absurd h2 (by decide)
  have hO1 := (Own.put1 (f := vSl) (fun _ => rfl) hown (by rw [h.len]) k s').1
  have hset : ∀ {v : Value} {l : List Int}, Own (eInt .i64) b1 3 W' v l → Own (eInt .i64) b1 3 (W'.setCell ⟨hb, k, none⟩ (vSl s')) v l := fun {v l} hv => by
    refine hv.kb (Kb.grown (grownBy_cell W' hb k (vSl s'))) fun g hgb hgs => ?_
    have h1 := hv.ge g hgb
    have h2 := List.mem_singleton.1 hgs
    have := h.low
    omega
  refine ⟨?_, by simp [h.len], h.low, fun j s1 l1 h1 h2 => ?_, fun j j' s1 s2 hne h1 h2 => ?_⟩
  · rw [List.length_set]; exact hO1
  · by_cases e : k = j
    · subst e
      rw [List.getElem?_set_self hks] at h1
      rw [List.getElem?_set_self hk] at h2
      injection h1 with h1; injection h2 with h2
      subst h1 h2
      exact ⟨hn, hset hO⟩
    · rw [List.getElem?_set_ne e] at h1 h2
      obtain ⟨q1, q2⟩ := h.rows j s1 l1 h1 h2
      exact ⟨q1, hset (keepO q2 (h.ap j k s1 s (fun e' => e e'.symm) h1 hs) hg hm).1⟩
  · have apart : ∀ (i : Nat) (u : Sl), i ≠ k → ss[i]? = some u → ApartV (vSl u) (vSl s') := fun i u hi hu => by
      have hil : i < ls.length := by rw [← h.len]; exact (List.getElem?_eq_some_iff.1 hu).1
      exact (keepO (h.rows i u _ hu (List.getElem?_eq_getElem hil)).2 (h.ap i k u s hi hu hs) hg hm).2
    by_cases e : k = j
    · subst e
      rw [List.getElem?_set_self hks] at h1
      rw [List.getElem?_set_ne hne] at h2
      injection h1 with h1; subst h1
      exact (apart j' s2 (fun e => hne e.symm) h2).symm
    · rw [List.getElem?_set_ne e] at h1
      by_cases e2 : k = j'
      · subst e2
        rw [List.getElem?_set_self hks] at h2
        injection h2 with h2; subst h2
        exact apart j s1 hne h1
      · rw [List.getElem?_set_ne e2] at h2
        exact h.ap j j' s1 s2 hne h1 h2
/-- As rows that are read. -/
theorem HRows.rw {b0 b1 : Nat} {W : World} {hb : Nat} {ss : List Sl} {ls : List (List Int)} (h : HRows b0 b1 W hb ss ls) : RwB (fun b => b < W.heap.size ∧ (b = hb ∨ b1 ≤ b)) (eInt .i64) W (some ⟨hb, 0, none⟩) ls := fun k l hl => by
  obtain ⟨hk, e⟩ := List.getElem?_eq_some_iff.1 hl
  obtain ⟨s, hs, hn, hO, hlt, hc, _⟩ := h.cell hk
  rw [e] at hn hO
  obtain ⟨A, c, ev, h1, h2, h3⟩ := hO.slv
  have hg := fun g hg => hO.cells (g := g) hg
  rcases hO.put with hp | ⟨g, hp, _⟩
  · obtain ⟨sA, sn, sc⟩ := s
    simp only [vSl] at ev hc hn hp
    injection ev with e1 e2 e3
    subst e1 e2 e3
    refine ⟨hb, 0, sA, sc, rfl, ⟨hlt, .inl rfl⟩, by rw [Nat.zero_add]; exact hc, h1, h2, h3, fun b' o' hA hx => ?_⟩
    rw [hA] at hp; cases hp
  · have hgl := hO.ge g hp
    obtain ⟨sA, sn, sc⟩ := s
    simp only [vSl] at ev hc hn hp hg
    injection ev with e1 e2 e3
    subst e1 e2 e3
    refine ⟨hb, 0, sA, sc, rfl, ⟨hlt, .inl rfl⟩, by rw [Nat.zero_add]; exact hc, h1, h2, h3, fun b' o' hA hx => ?_⟩
    rw [hA] at hp
    simp only [Value.ownBlock] at hp
    injection hp with hp
    subst hp
    obtain ⟨y, hy⟩ := hg b' (by rw [hA]; rfl)
    exact ⟨(Array.getElem?_eq_some_iff.1 hy).1, .inr hgl⟩
end Go.Proofs.YtmpoihejacklnaaDoor
/- A region that draws its order, in an order of one's own where at some places any of three operations may come first. No condition. -/
namespace Go.Proofs.YtmpoihejacklnaaDoor
open Go Go.RowKit
inductive OT3 where
  | nil
  | q (i : Nat) (r : OT3)
  | t (i : Nat) (r : OT3)
  | two (i : Nat) (r : OT3) (j : Nat) (s : OT3)
  | three (i : Nat) (r : OT3) (j : Nat) (s : OT3) (k : Nat) (t : OT3)
def OT3.deep : OT3 → Nat
  | nil => 0
  | q _ r => r.deep + 1
  | t _ r => r.deep + 1
  | two _ r _ _ => r.deep + 1
  | three _ r _ _ _ _ => r.deep + 1
def OT3.okB (ops : Array Oper) : OT3 → Array Bool → Bool
  | nil, listed => (Region.ready .any ops listed).isEmpty
  | q i r, listed => (Region.ready .any ops listed).contains i && Region.free .any ops listed i && r.okB ops (listed.setIfInBounds i true)
  | t i r, listed => decide (Region.ready .any ops listed = [i]) && r.okB ops (listed.setIfInBounds i true)
  | two i r j s, listed => decide (Region.ready .any ops listed = [i, j]) && decide (r.deep = s.deep) && r.okB ops (listed.setIfInBounds i true) && s.okB ops (listed.setIfInBounds j true)
  | three i r j s k u, listed => decide (Region.ready .any ops listed = [i, j, k]) && decide (r.deep = s.deep) && decide (r.deep = u.deep) && r.okB ops (listed.setIfInBounds i true) && s.okB ops (listed.setIfInBounds j true) && u.okB ops (listed.setIfInBounds k true)
section
variable {P : Program} {ops : Array Oper}
def wpTr3 (P : Program) (ops : Array Oper) (w0 : World) (Q : Exit → Act → World → Prop) : OT3 → Act → World → Prop
  | .nil, a, w => Q .normal a w
  | .q i r, a, w => match ops[i]? with
    | none => False
    | some o => takeQ P ops w0 o a (fun a' => wpTr3 P ops w0 Q r a' w)
  | .t i r, a, w => match ops[i]? with
    | none => False
    | some o => if Region.wanted o (yielded ops a.tmps) then o.wp P a w (fun a' w' => Ext w0 w' ∧ wpTr3 P ops w0 Q r a' w') Q else wpTr3 P ops w0 Q r (a.put o.dst undef) w
  | .two i r j s, a, w => (match ops[i]? with
    | none => False
    | some o => if Region.wanted o (yielded ops a.tmps) then o.wp P a w (fun a' w' => Ext w0 w' ∧ wpTr3 P ops w0 Q r a' w') Q else wpTr3 P ops w0 Q r (a.put o.dst undef) w) ∧
    (match ops[j]? with
    | none => False
    | some o => if Region.wanted o (yielded ops a.tmps) then o.wp P a w (fun a' w' => Ext w0 w' ∧ wpTr3 P ops w0 Q s a' w') Q else wpTr3 P ops w0 Q s (a.put o.dst undef) w)
  | .three i r j s k u, a, w => (match ops[i]? with
    | none => False
    | some o => if Region.wanted o (yielded ops a.tmps) then o.wp P a w (fun a' w' => Ext w0 w' ∧ wpTr3 P ops w0 Q r a' w') Q else wpTr3 P ops w0 Q r (a.put o.dst undef) w) ∧
    (match ops[j]? with
    | none => False
    | some o => if Region.wanted o (yielded ops a.tmps) then o.wp P a w (fun a' w' => Ext w0 w' ∧ wpTr3 P ops w0 Q s a' w') Q else wpTr3 P ops w0 Q s (a.put o.dst undef) w) ∧
    (match ops[k]? with
    | none => False
    | some o => if Region.wanted o (yielded ops a.tmps) then o.wp P a w (fun a' w' => Ext w0 w' ∧ wpTr3 P ops w0 Q u a' w') Q else wpTr3 P ops w0 Q u (a.put o.dst undef) w)
theorem wpOp_of_step3 {w0 : World} {Q : Exit → Act → World → Prop} {r : OT3} {listed : Array Bool} {a : Act} {w : World} {i n : Nat} (hS : Ext w0 w)
    (ih : ∀ a w, Ext w0 w → wpTr3 P ops w0 Q r a w → wpAnyH P .any ops Q (Ext w0) n listed a w)
    (h : match ops[i]? with
      | none => False
      | some o => if Region.wanted o (yielded ops a.tmps) then o.wp P a w (fun a' w' => Ext w0 w' ∧ wpTr3 P ops w0 Q r a' w') Q else wpTr3 P ops w0 Q r (a.put o.dst undef) w) :
    wpOp P ops Q i (fun a' w' => Ext w0 w' ∧ wpAnyH P .any ops Q (Ext w0) n listed a' w') a w := by
  cases ho : ops[i]? with
  | none => rw [ho] at h; exact h.elim
  | some o =>
    rw [ho] at h
    unfold wpOp
    rw [ho]
    dsimp only at h ⊢
    by_cases hw : Region.wanted o (yielded ops a.tmps) = true
    · rw [if_pos hw] at h ⊢
      exact .inl (Oper.wp_mono (fun a' w' h' => ⟨h'.1, ih a' w' h'.1 h'.2⟩) h)
    · rw [if_neg hw] at h ⊢
      exact ⟨hS, ih _ _ hS h⟩
theorem wpAnyH_of_tree3 {w0 : World} {Q : Exit → Act → World → Prop} (hsel : Region.noSelect ops = true) (hQ : ∀ c a d v w, Q (.panic c) (Act.put a d v) w → Q (.panic c) a w) :
    ∀ (l : OT3) (listed : Array Bool) (a : Act) (w : World), Ext w0 w → l.okB ops listed = true → wpTr3 P ops w0 Q l a w → wpAnyH P .any ops Q (Ext w0) l.deep listed a w
  | .nil, listed, a, w, _, hB, h => by
    have h0 : Region.ready .any ops listed = [] := by simpa [OT3.okB] using hB
    exact wpAnyH_done h0 h 0
  | .q i r, listed, a, w, hS, hB, h => by
    simp only [OT3.okB, Bool.and_eq_true] at hB
    obtain ⟨⟨hr, hf⟩, hB⟩ := hB
    simp only [wpTr3] at h
    cases ho : ops[i]? with
    | none => rw [ho] at h; exact h.elim
    | some o =>
      rw [ho] at h
      simp only [takeQ] at h
      by_cases hw : Region.wanted o (yielded ops a.tmps) = true
      · rw [if_pos hw] at h
        obtain ⟨v, h1, h2⟩ := h
        exact wpAnyH_take ho hsel hf hr (fun c a w => hQ c a _ _ w) (.inl ⟨hw, fun W hW => by obtain ⟨X, rfl⟩ := hW; exact h1 X⟩) hS (wpAnyH_of_tree3 hsel hQ r _ _ w hS hB h2)
      · rw [if_neg hw] at h
        exact wpAnyH_take ho hsel hf hr (fun c a w => hQ c a _ _ w) (.inr ⟨by simpa using hw, rfl⟩) hS (wpAnyH_of_tree3 hsel hQ r _ _ w hS hB h)
  | .t i r, listed, a, w, hS, hB, h => by
    simp only [OT3.okB, Bool.and_eq_true, decide_eq_true_eq] at hB
    obtain ⟨hr, hB⟩ := hB
    simp only [wpTr3] at h
    refine wpAnyH_all hr (by simp) fun j hj => ?_
    obtain rfl : j = i := by simpa using hj
    exact wpOp_of_step3 hS (fun a w hS h => wpAnyH_of_tree3 hsel hQ r _ a w hS hB h) h
  | .two i r j s, listed, a, w, hS, hB, h => by
    simp only [OT3.okB, Bool.and_eq_true, decide_eq_true_eq] at hB
    obtain ⟨⟨⟨hr, hd⟩, hB1⟩, hB2⟩ := hB
    simp only [wpTr3] at h
    refine wpAnyH_all hr (by simp) fun k hk => ?_
    rcases List.mem_cons.1 hk with rfl | hk
    · exact wpOp_of_step3 hS (fun a w hS h => wpAnyH_of_tree3 hsel hQ r _ a w hS hB1 h) h.1
    · obtain rfl : k = j := by simpa using hk
      exact wpOp_of_step3 hS (fun a w hS h => by rw [hd]; exact wpAnyH_of_tree3 hsel hQ s _ a w hS hB2 h) h.2
  | .three i r j s k u, listed, a, w, hS, hB, h => by
    simp only [OT3.okB, Bool.and_eq_true, decide_eq_true_eq] at hB
    obtain ⟨⟨⟨⟨⟨hr, hd⟩, hd2⟩, hB1⟩, hB2⟩, hB3⟩ := hB
    simp only [wpTr3] at h
    refine wpAnyH_all hr (by simp) fun l hl => ?_
    rcases List.mem_cons.1 hl with rfl | hl
    · exact wpOp_of_step3 hS (fun a w hS h => wpAnyH_of_tree3 hsel hQ r _ a w hS hB1 h) h.1
    · rcases List.mem_cons.1 hl with rfl | hl
      · exact wpOp_of_step3 hS (fun a w hS h => by rw [hd]; exact wpAnyH_of_tree3 hsel hQ s _ a w hS hB2 h) h.2.1
      · obtain rfl : l = k := by simpa using hl
        exact wpOp_of_step3 hS (fun a w hS h => by rw [hd2]; exact wpAnyH_of_tree3 hsel hQ u _ a w hS hB3 h) h.2.2
theorem region_tree3 {id : Nat} {Q : Exit → Act → World → Prop} {a : Act} {w : World} (L : OT3) (hm : P.follows .mixedOrders = true) (hB : (Region.noSelect ops && decide (L.deep = ops.size) && L.okB ops (Array.replicate ops.size false)) = true)
    (h : ∀ W, Below w.heap.size w W → wpTr3 P ops W (noP Q) L a W) : (Code.region id ops true).wp P Q a w := by
  refine wp_mono (Q := noP Q) ?_ noP_le
  have h := h w.drew (Below.refl _ w).drew
  simp only [Bool.and_eq_true, decide_eq_true_eq] at hB
  obtain ⟨⟨hsel, hl⟩, hB⟩ := hB
  refine wp_region_held (S := Ext w.drew) hm ?_
  have h' := wpAnyH_of_tree3 hsel (fun _ _ _ _ _ h => h.elim) L _ a _ (.of (Below.refl _ _)) hB h
  rw [hl] at h'
  exact h'
theorem tr3_nil {w0 : World} {Q : Exit → Act → World → Prop} {a : Act} {w : World} (h : Q .normal a w) : wpTr3 P ops w0 Q .nil a w := by simp only [wpTr3]; exact h
theorem tr3_q {w0 : World} {Q : Exit → Act → World → Prop} {a : Act} {w : World} {i : Nat} {r : OT3} {o : Oper} (ho : ops[i]? = some o)
    (h : ∀ K : Act → Prop, (∀ a', wpTr3 P ops w0 Q r a' w → K a') → takeQ P ops w0 o a K) : wpTr3 P ops w0 Q (.q i r) a w := by
  simp only [wpTr3, ho]
  exact h _ fun _ h => h
theorem tr3_step {w0 : World} {Q : Exit → Act → World → Prop} {a : Act} {w : World} {i : Nat} {r : OT3} {o : Oper} (ho : ops[i]? = some o)
    (h : ∀ K : Act → World → Prop, (∀ a' w', Ext w0 w' → wpTr3 P ops w0 Q r a' w' → K a' w') → if Region.wanted o (yielded ops a.tmps) then o.wp P a w K Q else K (a.put o.dst undef) w) :
    (match ops[i]? with
      | none => False
      | some o => if Region.wanted o (yielded ops a.tmps) then o.wp P a w (fun a' w' => Ext w0 w' ∧ wpTr3 P ops w0 Q r a' w') Q else wpTr3 P ops w0 Q r (a.put o.dst undef) w) := by
  rw [ho]
  dsimp only
  have h' := h (fun a' w' => Ext w0 w' ∧ wpTr3 P ops w0 Q r a' w') fun _ _ h1 h2 => ⟨h1, h2⟩
  split
  · rename_i hw; rw [if_pos hw] at h'; exact h'
  · rename_i hw; rw [if_neg hw] at h'; exact h'.2
theorem tr3_t {w0 : World} {Q : Exit → Act → World → Prop} {a : Act} {w : World} {i : Nat} {r : OT3} {o : Oper} (ho : ops[i]? = some o)
    (h : ∀ K : Act → World → Prop, (∀ a' w', Ext w0 w' → wpTr3 P ops w0 Q r a' w' → K a' w') → if Region.wanted o (yielded ops a.tmps) then o.wp P a w K Q else K (a.put o.dst undef) w) : wpTr3 P ops w0 Q (.t i r) a w := by
  simp only [wpTr3]
  exact tr3_step ho h
theorem tr3_two {w0 : World} {Q : Exit → Act → World → Prop} {a : Act} {w : World} {i j : Nat} {r s : OT3} {o p : Oper} (ho : ops[i]? = some o) (hp : ops[j]? = some p)
    (h : ∀ K : Act → World → Prop, (∀ a' w', Ext w0 w' → wpTr3 P ops w0 Q r a' w' → K a' w') → if Region.wanted o (yielded ops a.tmps) then o.wp P a w K Q else K (a.put o.dst undef) w)
    (k : ∀ K : Act → World → Prop, (∀ a' w', Ext w0 w' → wpTr3 P ops w0 Q s a' w' → K a' w') → if Region.wanted p (yielded ops a.tmps) then p.wp P a w K Q else K (a.put p.dst undef) w) : wpTr3 P ops w0 Q (.two i r j s) a w := by
  simp only [wpTr3]
  exact ⟨tr3_step ho h, tr3_step hp k⟩
theorem tr3_three {w0 : World} {Q : Exit → Act → World → Prop} {a : Act} {w : World} {i j l : Nat} {r s u : OT3} {o p q : Oper} (ho : ops[i]? = some o) (hp : ops[j]? = some p) (hq : ops[l]? = some q)
    (h : ∀ K : Act → World → Prop, (∀ a' w', Ext w0 w' → wpTr3 P ops w0 Q r a' w' → K a' w') → if Region.wanted o (yielded ops a.tmps) then o.wp P a w K Q else K (a.put o.dst undef) w)
    (k : ∀ K : Act → World → Prop, (∀ a' w', Ext w0 w' → wpTr3 P ops w0 Q s a' w' → K a' w') → if Region.wanted p (yielded ops a.tmps) then p.wp P a w K Q else K (a.put p.dst undef) w)
    (m : ∀ K : Act → World → Prop, (∀ a' w', Ext w0 w' → wpTr3 P ops w0 Q u a' w' → K a' w') → if Region.wanted q (yielded ops a.tmps) then q.wp P a w K Q else K (a.put q.dst undef) w) : wpTr3 P ops w0 Q (.three i r j s l u) a w := by
  simp only [wpTr3]
  exact ⟨tr3_step ho h, tr3_step hp k, tr3_step hq m⟩
end
attribute [irreducible] wpTr3
end Go.Proofs.YtmpoihejacklnaaDoor
/- errataref12.size, check, here: all parts that go at two places, as rules. No condition. -/
namespace Go.Proofs.YtmpoihejacklnaaDoor
open Go Go.RowKit
def hA (T V : List Int) (i j : Nat) : List T3 := if i < T.length ∧ j < V.length ∧ nth T i = nth V j then [⟨txt [nth T i], txt [nth T i], 0⟩] else []
def hP (xs : List T3) (T V : List Int) (i j k : Nat) : Bool := decide (Stands (ruAt (rus xs) k).f T i) && decide (Stands (ruAt (rus xs) k).t V j)
def hB (xs : List T3) (T V : List Int) (i j k : Nat) : List T3 := ((List.range k).filter (hP xs T V i j)).map fun q => xs[q]?.getD ⟨.empty, .empty, 0⟩
def hC (T V : List Int) (i j : Nat) : List T3 := if i < T.length ∧ j < V.length ∧ nth T i ≠ nth V j then [⟨txt [nth T i], txt [nth V j], 255⟩] else []
def hD (T : List Int) (i : Nat) : List T3 := if i < T.length then [⟨txt [nth T i], .empty, 255⟩] else []
def hE (V : List Int) (j : Nat) : List T3 := if j < V.length then [⟨.empty, txt [nth V j], 255⟩] else []
theorem hB_snoc {xs : List T3} {T V : List Int} {i j k : Nat} (hk : k < xs.length) : hB xs T V i j (k + 1) = hB xs T V i j k ++ if hP xs T V i j k = true then [xs[k]] else [] := by
  unfold hB
  rw [List.range_succ, List.filter_append, List.map_append]
  congr 1
  by_cases h : hP xs T V i j k = true
  · rw [if_pos h, List.filter_cons_of_pos h]; simp [List.getElem?_eq_getElem hk]
  · rw [if_neg h, List.filter_cons_of_neg h]; rfl
theorem hB_len (xs : List T3) (T V : List Int) (i j k : Nat) : (hB xs T V i j k).length ≤ k := by
  unfold hB
  rw [List.length_map]
  exact Nat.le_trans (List.length_filter_le _ _) (by simp)
theorem txt_nil : txt [] = ByteArray.empty := rfl
theorem hereL_eq (xs : List T3) (T V : List Int) (i j : Nat) : hereL xs T V i j = hA T V i j ++ hB xs T V i j xs.length ++ hC T V i j ++ hD T i ++ hE V j := by
  unfold hereL partsP
  simp only [List.map_append]
  congr 1
  · congr 1
    · congr 1
      · congr 1
        · unfold hA
          by_cases h : i < T.length ∧ j < V.length ∧ nth T i = nth V j
          · rw [if_pos h, if_pos h]
            simp only [List.map_cons, List.map_nil, tolP]
            rw [if_pos (by decide), take_one h.1, take_one h.2.1, h.2.2]; rfl
          · rw [if_neg h, if_neg h]; rfl
        · unfold hB rulesP
          rw [rus_len, List.map_map]
          exact List.map_congr_left fun k hk => by
            have hk : k < xs.length := List.mem_range.1 (List.mem_filter.1 hk).1
            show tolP xs T V i j (ptOf (rus xs) k) = _
            rw [tol_rule hk, List.getElem?_eq_getElem hk]; rfl
      · unfold hC
        by_cases h : i < T.length ∧ j < V.length ∧ nth T i ≠ nth V j
        · rw [if_pos h, if_pos h]
          simp only [List.map_cons, List.map_nil, tolP]
          rw [if_pos (by decide), take_one h.1, take_one h.2.1]; rfl
        · rw [if_neg h, if_neg h]; rfl
    · unfold hD
      by_cases h : i < T.length
      · rw [if_pos h, if_pos h]
        simp only [List.map_cons, List.map_nil, tolP]
        rw [if_pos (by decide), take_one h]; rfl
      · rw [if_neg h, if_neg h]; rfl
  · unfold hE
    by_cases h : j < V.length
    · rw [if_pos h, if_pos h]
      simp only [List.map_cons, List.map_nil, tolP]
      rw [if_pos (by decide), take_one h]; rfl
    · rw [if_neg h, if_neg h]; rfl
set_option maxRecDepth 100000 in
theorem r12size_c (s : ByteArray) (w : World) (hz : s.size ≤ 17592186044416) : Calls Tryd.prog 33 #[.string s] w (Ret w (.int .i64 (lenS s))) := by
  go_enter Tryd.func33, Tryd.ntmps33
  go_wp2_with (go_at_call 55; refine (r1dec_len s _ hz).mono ?_; rintro e w2 ⟨A, c, rfl, hb2⟩)
  go_ret
  exact ⟨rfl, hb2⟩
/-- What the checks answer. -/
def ChkPost (w : World) (xs : List T3) (t v : ByteArray) (e : Ending) (w' : World) : Prop :=
  ∃ a b, e = .returned (.tuple #[a, b, .int .i64 (prcE xs t v)]) ∧ Below w.heap.size w w' ∧ (prcE xs t v = 0 → SlV (eInt .i32) w' a (rnS t) ∧ SlV (eInt .i32) w' b (rnS v))
set_option maxRecDepth 100000 in
set_option maxHeartbeats 1000000 in
theorem r12chk_c (A : Option Addr) (c : Nat) (xs : List T3) (t v : ByteArray) (w : World) (hs : SlA eT3 w A xs) (hm : Small xs) (hz : t.size ≤ 17592186044416) (hz2 : v.size ≤ 17592186044416) :
    Calls Tryd.prog 27 #[.slice A xs.length c, .string t, .string v] w (ChkPost w xs t v) := by
  by_cases h0 : isE xs = 0
  · have HE : Hid (prcE xs t v = if tkE t = 0 then tkE v else tkE t) := by show _ = _; unfold prcE; rw [if_pos h0]; rfl
    have H0 := Lib.hid h0
    clear h0
    by_cases h1 : tkE t = 0
    · have H1 := Lib.hid h1
      clear h1
      go_enter Tryd.func27, Tryd.ntmps27
      go_wp2_with fail
      refine (r7is_c A c xs _ hs hm).mono ?_
      rintro e w2 ⟨rfl, hb2⟩
      rw [H0.out]
      go_wp2_with fail
      refine (r1tk_c t _ hz).mono ?_
      rintro e w3 ⟨hb3, h3, _⟩
      obtain ⟨v1, l1, hl1, _, _, rfl, hs1⟩ := h3 H1.out
      have HL1 := Lib.hid hl1
      clear h3 hl1
      go_wp2_with fail
      refine (r1tk_c v _ hz2).mono ?_
      rintro e w4 ⟨hb4, h4, h5⟩
      by_cases h2 : tkE v = 0
      · have H2 := Lib.hid h2
        obtain ⟨v2, l2, hl2, _, _, rfl, hs2⟩ := h4 h2
        have HL2 := Lib.hid hl2
        clear h2 h4 h5 hl2
        go_wp2
        refine bodyPost_ret (results_tmp3 rfl _ _ _) rfl ?_
        have e0 : prcE xs t v = 0 := by rw [HE.out, if_pos H1.out]; exact H2.out
        refine ⟨v1, v2, by rw [e0]; rfl, Bst hb2 (Bst hb3 hb4), fun _ => ⟨?_, ?_⟩⟩
        · unfold rnS; rw [HL1.out]; exact hs1.below hb4
        · unfold rnS; rw [HL2.out]; exact hs2
      · have H2 := Lib.hid h2
        obtain rfl := h5 h2
        have e0 : prcE xs t v = tkE v := by rw [HE.out, if_pos H1.out]
        have E0 := Lib.hid e0
        obtain ⟨z, hz3⟩ : ∃ z, tkE v = z := ⟨_, rfl⟩
        rw [hz3]
        rw [hz3] at E0
        have HZ := Lib.hid hz3
        clear h2 h4 h5 e0 hz3
        go_wp2
        refine bodyPost_ret (results_tmp3 rfl _ _ _) rfl ?_
        exact ⟨v1, .slice none 0 0, by rw [E0.out]; rfl, Bst hb2 (Bst hb3 hb4), fun h => absurd (HZ.out.trans (E0.out.symm.trans h)) H2.out⟩
    · have H1 := Lib.hid h1
      have e0 : prcE xs t v = tkE t := by rw [HE.out, if_neg h1]
      have E0 := Lib.hid e0
      obtain ⟨z, hz3⟩ : ∃ z, tkE t = z := ⟨_, rfl⟩
      have hz0 : z ≠ 0 := hz3 ▸ h1
      rw [hz3] at E0
      have HZ := Lib.hid hz3
      clear h1 e0 hz3
      go_enter Tryd.func27, Tryd.ntmps27
      go_wp2_with fail
      refine (r7is_c A c xs _ hs hm).mono ?_
      rintro e w2 ⟨rfl, hb2⟩
      rw [H0.out]
      go_wp2_with fail
      refine (r1tk_c t _ hz).mono ?_
      rintro e w3 ⟨hb3, _, h3⟩
      obtain rfl := h3 H1.out
      rw [HZ.out]
      clear h3
      go_wp2
      refine bodyPost_ret (results_tmp3 rfl _ _ _) rfl ?_
      exact ⟨.slice none 0 0, .slice none 0 0, by rw [E0.out]; rfl, Bst hb2 hb3, fun h => absurd (E0.out.symm.trans h) hz0⟩
  · have HE : Hid (prcE xs t v = isE xs) := by show _ = _; unfold prcE; rw [if_neg h0]
    obtain ⟨z, hz3⟩ : ∃ z, isE xs = z := ⟨_, rfl⟩
    have hz0 : z ≠ 0 := hz3 ▸ h0
    rw [hz3] at HE
    have HZ := Lib.hid hz3
    clear h0 hz3
    go_enter Tryd.func27, Tryd.ntmps27
    go_wp2_with fail
    refine (r7is_c A c xs _ hs hm).mono ?_
    rintro e w2 ⟨rfl, hb2⟩
    rw [HZ.out]
    go_wp2
    refine bodyPost_ret (results_tmp3 rfl _ _ _) rfl ?_
    exact ⟨.slice none 0 0, .slice none 0 0, by rw [HE.out]; rfl, hb2, fun h => absurd (HE.out.symm.trans h) hz0⟩
end Go.Proofs.YtmpoihejacklnaaDoor
