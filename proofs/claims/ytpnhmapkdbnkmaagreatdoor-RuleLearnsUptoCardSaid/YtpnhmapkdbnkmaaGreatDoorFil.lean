/- align.fill: the grid of two tokens. No condition. -/
import Derived.Test.YtpnhmapkdbnkmaaGreatDoorAln
import Derived.Test.YtpnhmapkdbnkmaaGreatDoorGrd
import Derived.Test.YtpnhmapkdbnkmaaGreatDoorPrl
import Derived.Test.YtpnhmapkdbnkmaaGreatDoorTreS
import Derived.Test.YtpnhmapkdbnkmaaGreatDoorK802
namespace Go.Proofs.YtpnhmapkdbnkmaaGreatDoor
open Go Go.RowKit
/-- A grid in memory. -/
structure GridAt (w : World) (G : Nat) (a b : List Int) : Prop where
  c : ∃ A ca B cb gf gk N, w.cell? ⟨G, 0, none⟩ = some (.slice A a.length ca) ∧ w.cell? ⟨G, 1, none⟩ = some (.slice B b.length cb) ∧ w.cell? ⟨G, 2, none⟩ = some (.slice (some ⟨gf, 0, none⟩) N N) ∧ w.cell? ⟨G, 3, none⟩ = some (.slice (some ⟨gk, 0, none⟩) N N) ∧
    N = (a.length + 1) * (b.length + 1) ∧ SlA (eInt .i32) w A a ∧ SlA (eInt .i32) w B b ∧
    (∀ i j, i ≤ a.length → j ≤ b.length → w.cell? ⟨gf, i * (b.length + 1) + j, none⟩ = some (.int .u8 (dd a b i j))) ∧
    (∀ i j, i ≤ a.length → j ≤ b.length → 0 < i + j → w.cell? ⟨gk, i * (b.length + 1) + j, none⟩ = some (.int .u8 (kd a b i j)))
def FillPost (w : World) (p : P2) (e : Ending) (w' : World) : Prop :=
  Below w.heap.size w w' ∧ (pairE p = 0 → ∃ G a b, decS p.n = some a ∧ decS p.t = some b ∧ 0 < a.length ∧ a.length ≤ 64 ∧ 0 < b.length ∧ b.length ≤ 64 ∧ e = .returned (.tuple #[.pointer (some ⟨G, 0, none⟩), .int .i64 0]) ∧ GridAt w' G a b) ∧ (pairE p ≠ 0 → e = .returned (.tuple #[.pointer none, .int .i64 (pairE p)]))
theorem info_u8c : (Tryz.prog.info? 5).map (fun i => (i.zero, i.size, i.bytes)) = some (some (.int .u8 0), 1, 1) := by kernel_rfl
theorem own_madeU (base : Nat) (t : TypeId) (w : World) (g n : Nat) (h : w.ownsRow base t 1 (.slice (some ⟨g, 0, none⟩) n n) n (madeCells (Value.int .u8 0).cells (n * 1)).toList) : Own (eInt .u8) base t w (.slice (some ⟨g, 0, none⟩) n n) (List.replicate n 0) := by
  unfold Own
  rw [List.length_replicate, flat_one (f := Value.int .u8) (fun _ => rfl), List.map_replicate, ← toList_madeCells_one]
  rw [Nat.mul_one] at h
  exact h
theorem grownBy_cell (W : World) (b i : Nat) (v : Value) : W.grownBy (W.setCell ⟨b, i, none⟩ v) (some b) :=
  ⟨rfl, rfl, rfl, (KeepsWalks.setCell W _ v).size, fun k _ hk => Below.heap_setCell _ _ _ k (fun e => hk (by rw [e]))⟩
theorem make_opO {P : Program} {o : Oper} {a : Act} {K : Act → World → Prop} {Q : Exit → Act → World → Prop} (w : World)
    (l c : Operand) (t : TypeId) (hop : o.op = Op.makeSlice t l c)
    (base : Nat) (e : TypeId) (i : TypeInfo) (z : Value) (size : Nat) (h1 : P.underlying t = some (.slice e)) (h2 : P.info? e = some i) (h3 : i.zero = some z) (h4 : i.size = size)
    (kl kc : IntKind) (L C : Int) (n : Nat) (hl : a.eval l = .int kl L) (hc : a.eval c = .int kc C) (hL : L = (n : Int)) (hC : C = (n : Int)) (b2 : i.bytes * n ≤ 281474976710656) (b3 : n ≤ maxLen) (b4 : base ≤ w.heap.size)
    (hK : ∀ w', w'.ownsRow base e size (.slice (some ⟨w.heap.size, 0, none⟩) n n) n (madeCells z.cells (n * size)).toList → w.grownBy w' none → K (a.put o.dst (.slice (some ⟨w.heap.size, 0, none⟩) n n)) w') :
    o.wp P a w K Q := by
  obtain ⟨w', hrun, r1, r2⟩ := run_make_full (P := P) w base t e i z size h1 h2 h3 h4 kl kc n b2 b3 b4
  subst hL
  subst hC
  unfold Oper.wp
  simp [execOp, hop, hl, hc, hrun, Result.andThen]
  exact hK w' r1 r2
set_option maxRecDepth 100000 in
set_option maxHeartbeats 4000000 in
theorem fill_c (p : P2) (w : World) (hU : U w) (hz : p.n.size ≤ 17592186044416) (hz2 : p.t.size ≤ 17592186044416) : Calls Tryz.prog 155 #[.string p.n, .string p.t] w (FillPost w p) := by
  by_cases h1 : tkE p.n = 0
  · by_cases h2 : tkE p.t = 0
    · have H1 := Lib.hid h1
      have H2 := Lib.hid h2
      have HE : Hid (pairE p = 0) := by show _ = _; unfold pairE; rw [if_pos h1]; exact h2
      clear h1 h2
      obtain ⟨i1, hi1, hy0, hy1, hy2⟩ := info_parts info_u8c
      go_enter Tryz.func155, Tryz.ntmps155
      go_wp2_with fail
      refine (tk_c p.n _ hU hz).mono ?_
      rintro e w2 ⟨hb2, h3, _⟩
      obtain ⟨v, a, ha, ha1, ha2, rfl, hOa⟩ := h3 H1.out
      clear h3
      have DA := Lib.hid ha
      clear ha
      obtain ⟨A, ca, rfl, hca, hda, hA⟩ := hOa.slv
      go_wp2_with fail
      refine (tk_c p.t _ (hU.to hb2) hz2).mono ?_
      rintro e w3 ⟨hb3, h3, _⟩
      obtain ⟨v, b, hb0, hb1, hb4, rfl, hOb⟩ := h3 H2.out
      clear h3
      have DB := Lib.hid hb0
      clear hb0
      obtain ⟨B, cb, rfl, hcb, hdb, hB⟩ := hOb.slv
      have hA3 := hA.below hb3
      have hb03 : Below w.heap.size w w3 := Bst hb2 hb3
      obtain ⟨N, hN⟩ : ∃ N, (a.length + 1) * (b.length + 1) = N := ⟨_, rfl⟩
      have hNb : N ≤ 65 * 65 := by rw [← hN]; exact Nat.mul_le_mul (by omega) (by omega)
      have hNm : IntKind.i64.wrap (((a.length : Int) + 1) * ((b.length : Int) + 1)) = (N : Int) := by
        have h : ((a.length : Int) + 1) * ((b.length : Int) + 1) = (N : Int) := by rw [← hN]; push_cast; rfl
        rw [h]; exact IntWalk.i64_in _ (by omega)
      have HN := Lib.hid hN
      clear hN hOa hOb
      go_wp2_with fail
      have hbg : Below w3.heap.size w3 (w3.alloc (.cells #[.slice A a.length ca, .slice B b.length cb, .slice none 0 0, .slice none 0 0] 313)) := Bel
      have hsz : (w3.alloc (.cells #[.slice A a.length ca, .slice B b.length cb, .slice none 0 0, .slice none 0 0] 313)).heap.size = w3.heap.size + 1 := by simp
      have c0 : (w3.alloc (.cells #[.slice A a.length ca, .slice B b.length cb, .slice none 0 0, .slice none 0 0] 313)).cell? ⟨w3.heap.size, 0, none⟩ = some (.slice A a.length ca) := by simp [go_sem]
      have c1 : (w3.alloc (.cells #[.slice A a.length ca, .slice B b.length cb, .slice none 0 0, .slice none 0 0] 313)).cell? ⟨w3.heap.size, 1, none⟩ = some (.slice B b.length cb) := by simp [go_sem]
      have c2 : (w3.alloc (.cells #[.slice A a.length ca, .slice B b.length cb, .slice none 0 0, .slice none 0 0] 313)).cell? ⟨w3.heap.size, 2, none⟩ = some (.slice none 0 0) := by simp [go_sem]
      have c3 : (w3.alloc (.cells #[.slice A a.length ca, .slice B b.length cb, .slice none 0 0, .slice none 0 0] 313)).cell? ⟨w3.heap.size, 3, none⟩ = some (.slice none 0 0) := by simp [go_sem]
      have d2 : (w3.alloc (.cells #[.slice A a.length ca, .slice B b.length cb, .slice none 0 0, .slice none 0 0] 313)).frozen? ⟨w3.heap.size, 2, none⟩ = false := by simp [go_sem]
      have d3 : (w3.alloc (.cells #[.slice A a.length ca, .slice B b.length cb, .slice none 0 0, .slice none 0 0] 313)).frozen? ⟨w3.heap.size, 3, none⟩ = false := by simp [go_sem]
      generalize (w3.alloc (.cells #[.slice A a.length ca, .slice B b.length cb, .slice none 0 0, .slice none 0 0] 313)) = wg at *
      obtain ⟨G, hG⟩ : ∃ G, w3.heap.size = G := ⟨_, rfl⟩
      rw [hG] at hsz c0 c1 c2 c3 d2 d3 ⊢
      refine wp_mono (Q := fun e a' w9 => e = Exit.normal ∧ ∃ gf gk : Nat, a' = { tmps := #[.string p.n, .string p.t, undef, undef, .pointer none, .int .i64 0, .slice A a.length ca, .int .i64 0, .slice B b.length cb, .pointer (some ⟨G, 0, none⟩), .int .i64 N, undef, undef, .tuple #[.slice A a.length ca, .int .i64 0], .string p.n, .tuple #[.slice A a.length ca, .int .i64 0], .slice A a.length ca, .int .i64 0, .int .i64 0, .bool false, undef, .tuple #[.slice B b.length cb, .int .i64 0], .string p.t, .tuple #[.slice B b.length cb, .int .i64 0], .slice B b.length cb, .int .i64 0, .int .i64 0, .bool false, undef, .slice A a.length ca, .slice B b.length cb, .agg #[.slice A a.length ca, .slice B b.length cb, .slice none 0 0, .slice none 0 0], .pointer (some ⟨G, 0, none⟩), .slice A a.length ca, .int .i64 a.length, .int .i64 (a.length + 1), .slice B b.length cb, .int .i64 b.length, .int .i64 (b.length + 1), .int .i64 N, .pointer (some ⟨G, 0, none⟩), .pointer (some ⟨G, 0, none⟩), .int .i64 N, .slice (some ⟨gf, 0, none⟩) N N, .int .i64 N, .slice (some ⟨gk, 0, none⟩) N N, .pointer (some ⟨G, 0, none⟩), .pointer (some ⟨G, 2, none⟩), .pointer (some ⟨G, 0, none⟩), .pointer (some ⟨G, 3, none⟩), undef, undef, undef, undef, undef, undef, undef, undef, undef, undef, undef, undef, undef, undef, undef, undef, undef, undef, undef, undef, undef, undef, undef, undef, undef, undef, undef, undef, undef, undef, undef, undef, undef, undef, undef, undef, undef, undef, undef, undef, undef, undef, undef, undef], defers := [] } ∧ w9.cell? ⟨G, 0, none⟩ = some (.slice A a.length ca) ∧ w9.cell? ⟨G, 1, none⟩ = some (.slice B b.length cb) ∧ w9.cell? ⟨G, 2, none⟩ = some (.slice (some ⟨gf, 0, none⟩) N N) ∧ w9.cell? ⟨G, 3, none⟩ = some (.slice (some ⟨gk, 0, none⟩) N N) ∧ Own (eInt .u8) G 5 w9 (.slice (some ⟨gf, 0, none⟩) N N) (List.replicate N 0) ∧ Own (eInt .u8) G 5 w9 (.slice (some ⟨gk, 0, none⟩) N N) (List.replicate N 0) ∧ gf ≠ gk ∧ G < gf ∧ G < gk ∧ Below w3.heap.size w3 w9) ?region ?rest
      case region =>
        refine region_treeS [G] (.q 0 (.q 1 (.q 2 (.q 4 (.two 3 (.q 6 (.q 7 (.two 5 (.t 8 (.q 9 (.q 10 (.t 11 .nil)))) 8 (.t 5 (.q 9 (.q 10 (.t 11 .nil))))))) 5 (.t 3 (.q 6 (.q 7 (.t 8 (.q 9 (.q 10 (.t 11 .nil)))))))))))) (by kernel_rfl) (by kernel_rfl) ?_
        intro W hW
        have hgW := hW.size
        replace c0 := bkc hW c0
        replace c1 := bkc hW c1
        replace c2 := bkc hW c2
        replace c3 := bkc hW c3
        have e2 : W.frozen? ⟨G, 2, none⟩ = false := by rw [hW.frozen (p := ⟨G, 2, none⟩) (by simp; omega)]; exact d2
        have e3 : W.frozen? ⟨G, 3, none⟩ = false := by rw [hW.frozen (p := ⟨G, 3, none⟩) (by simp; omega)]; exact d3
        repeat (refine trS_q rfl (fun K hK => ?_); unfold takeS; go_simp; refine hK _ ?_; clear hK K)
        refine trS_two rfl rfl (fun K hK => ?_) (fun K hK => ?_)
        · rw [if_pos (wanted_free rfl _)]; refine make_opO _ _ _ 160 rfl G 5 i1 (.int .u8 0) 1 Tryz.underlying160 hi1 hy0 hy1 .i64 .i64 _ _ N rfl rfl rfl rfl (by rw [hy2]; omega) (by simp only [maxLen]; omega) (by first | omega | (simp; omega)) ?_; intro w5 HO5 hg5
          have hb5 := Bgr (Below.refl _ _) hg5 (by simp)
          have hk5 : Kb W w5 [G] := (Kb.grown0 hg5).weak (by simp)
          have s5 := hg5.size
          refine hK _ _ (.of hk5) ?_; clear hK K
          repeat (refine trS_q rfl (fun K hK => ?_); unfold takeS; go_simp; refine hK _ ?_; clear hK K)
          refine trS_two rfl rfl (fun K hK => ?_) (fun K hK => ?_)
          · rw [if_pos (wanted_free rfl _)]; refine make_opO _ _ _ 160 rfl G 5 i1 (.int .u8 0) 1 Tryz.underlying160 hi1 hy0 hy1 .i64 .i64 _ _ N rfl rfl rfl rfl (by rw [hy2]; omega) (by simp only [maxLen]; omega) (by first | omega | (simp; omega)) ?_; intro w6 HO6 hg6
            have hb6 := Bgr hb5 hg6 (by simp)
            have hk6 := hk5.trans' ((Kb.grown0 hg6).weak (by simp))
            refine hK _ _ (.of hk6) ?_; clear hK K
            have HP5 := (own_madeU _ _ _ _ _ HO5).kept hg6 (.inr (by simp [Value.ownBlock]))
            have HP6 := own_madeU _ _ _ _ _ HO6
            have s6 := hg6.size
            have q0 := bkc hb6 c0
            have q1 := bkc hb6 c1
            have q2 := bkc hb6 c2
            have q3 := bkc hb6 c3
            have r2 : w6.frozen? ⟨G, 2, none⟩ = false := by rw [hb6.frozen (p := ⟨G, 2, none⟩) (by simp; omega)]; exact e2
            have r3 : w6.frozen? ⟨G, 3, none⟩ = false := by rw [hb6.frozen (p := ⟨G, 3, none⟩) (by simp; omega)]; exact e3
            have l5 : W.heap.size < w6.heap.size := (HP5.put.resolve_left (by simp [Value.ownBlock])).elim fun g h => by have e := h.1; simp [Value.ownBlock] at e; omega
            have l6 : w5.heap.size < w6.heap.size := (HP6.put.resolve_left (by simp [Value.ownBlock])).elim fun g h => by have e := h.1; simp [Value.ownBlock] at e; omega
            have l7 : W.heap.size < w5.heap.size := ((own_madeU _ _ _ _ _ HO5).put.resolve_left (by simp [Value.ownBlock])).elim fun g h => by have e := h.1; simp [Value.ownBlock] at e; omega
            repeat (refine trS_q rfl (fun K hK => ?_); unfold takeS; go_simp; refine hK _ ?_; clear hK K)
            refine trS_t rfl (fun K hK => ?_); go_simp; refine hK _ _ (.of (hk6.trans' (Kb.grown (grownBy_cell w6 G 2 _)))) ?_; clear hK K
            repeat (refine trS_q rfl (fun K hK => ?_); unfold takeS; go_simp; refine hK _ ?_; clear hK K)
            refine trS_t rfl (fun K hK => ?_); go_simp; refine hK _ _ (.of ((hk6.trans' (Kb.grown (grownBy_cell w6 G 2 _))).trans' (Kb.grown (grownBy_cell _ G 3 _)))) ?_; clear hK K
            refine trS_nil ?_
            rw [noP_normal]
            have nG : ∀ g n, G < g → (Value.slice (some ⟨g, 0, none⟩) n n).ownBlock ≠ some G := fun g n h e => by simp only [Value.ownBlock] at e; injection e with e; omega
            refine ⟨rfl, W.heap.size, w5.heap.size, rfl, by simp [go_sem, q0], by simp [go_sem, q1], by simp [go_sem, q2], by simp [go_sem, q3], ?_, ?_, by omega, by omega, by omega, Bsc (Bsc (Bst (Bst hbg hW) hb6) (by simp; omega) _) (by simp; omega) _⟩
            · exact (HP5.kept (grownBy_cell w6 G 2 _) (.inr (nG _ _ (by omega)))).kept (grownBy_cell _ G 3 _) (.inr (nG _ _ (by omega)))
            · exact (HP6.kept (grownBy_cell w6 G 2 _) (.inr (nG _ _ (by omega)))).kept (grownBy_cell _ G 3 _) (.inr (nG _ _ (by omega)))
          · have q0 := bkc hb5 c0
            have q1 := bkc hb5 c1
            have q2 := bkc hb5 c2
            have q3 := bkc hb5 c3
            have r2 : w5.frozen? ⟨G, 2, none⟩ = false := by rw [hb5.frozen (p := ⟨G, 2, none⟩) (by simp; omega)]; exact e2
            have r3 : w5.frozen? ⟨G, 3, none⟩ = false := by rw [hb5.frozen (p := ⟨G, 3, none⟩) (by simp; omega)]; exact e3
            have nG : ∀ g n, G < g → (Value.slice (some ⟨g, 0, none⟩) n n).ownBlock ≠ some G := fun g n h e => by simp only [Value.ownBlock] at e; injection e with e; omega
            have HP5 := (own_madeU _ _ _ _ _ HO5).kept (grownBy_cell w5 G 2 (.slice (some ⟨W.heap.size, 0, none⟩) N N)) (.inr (nG _ _ (by omega)))
            go_simp
            have hk5' := hk5.trans' (Kb.grown (grownBy_cell w5 G 2 (.slice (some ⟨W.heap.size, 0, none⟩) N N)))
            refine hK _ _ (.of hk5') ?_; clear hK K
            have t0 : (w5.setCell ⟨G, 2, none⟩ (.slice (some ⟨W.heap.size, 0, none⟩) N N)).cell? ⟨G, 0, none⟩ = some (.slice A a.length ca) := by simp [go_sem, q0]
            have t1 : (w5.setCell ⟨G, 2, none⟩ (.slice (some ⟨W.heap.size, 0, none⟩) N N)).cell? ⟨G, 1, none⟩ = some (.slice B b.length cb) := by simp [go_sem, q1]
            have t2 : (w5.setCell ⟨G, 2, none⟩ (.slice (some ⟨W.heap.size, 0, none⟩) N N)).cell? ⟨G, 2, none⟩ = some (.slice (some ⟨W.heap.size, 0, none⟩) N N) := by simp [go_sem, q2]
            have t3 : (w5.setCell ⟨G, 2, none⟩ (.slice (some ⟨W.heap.size, 0, none⟩) N N)).cell? ⟨G, 3, none⟩ = some (.slice none 0 0) := by simp [go_sem, q3]
            have u3 : (w5.setCell ⟨G, 2, none⟩ (.slice (some ⟨W.heap.size, 0, none⟩) N N)).frozen? ⟨G, 3, none⟩ = false := by simp [go_sem, r3]
            have hb5' : Below w3.heap.size w3 (w5.setCell ⟨G, 2, none⟩ (.slice (some ⟨W.heap.size, 0, none⟩) N N)) := Bsc (Bst (Bst hbg hW) hb5) (by simp; omega) _
            have hz5 : (w5.setCell ⟨G, 2, none⟩ (.slice (some ⟨W.heap.size, 0, none⟩) N N)).heap.size = w5.heap.size := by simp
            generalize (w5.setCell ⟨G, 2, none⟩ (.slice (some ⟨W.heap.size, 0, none⟩) N N)) = w7 at *
            refine trS_t rfl (fun K hK => ?_); rw [if_pos (wanted_free rfl _)]; refine make_opO _ _ _ 160 rfl G 5 i1 (.int .u8 0) 1 Tryz.underlying160 hi1 hy0 hy1 .i64 .i64 _ _ N rfl rfl rfl rfl (by rw [hy2]; omega) (by simp only [maxLen]; omega) (by first | omega | (simp; omega)) ?_; intro w6 HO6 hg6
            have hb6 := Bgr (Below.refl _ _) hg6 (by simp)
            have hk6 := hk5'.trans' ((Kb.grown0 hg6).weak (by simp))
            refine hK _ _ (.of hk6) ?_; clear hK K
            have HP6 := own_madeU _ _ _ _ _ HO6
            have HP56 := HP5.kept hg6 (.inr (by simp [Value.ownBlock]))
            have s6 := hg6.size
            replace t0 := bkc hb6 t0
            replace t1 := bkc hb6 t1
            replace t2 := bkc hb6 t2
            replace t3 := bkc hb6 t3
            replace u3 : w6.frozen? ⟨G, 3, none⟩ = false := by rw [hb6.frozen (p := ⟨G, 3, none⟩) (by simp; omega)]; exact u3
            repeat (refine trS_q rfl (fun K hK => ?_); unfold takeS; go_simp; refine hK _ ?_; clear hK K)
            refine trS_t rfl (fun K hK => ?_); go_simp; refine hK _ _ (.of (hk6.trans' (Kb.grown (grownBy_cell w6 G 3 _)))) ?_; clear hK K
            refine trS_nil ?_
            rw [noP_normal]
            have l5 : W.heap.size < w7.heap.size := (HP5.put.resolve_left (by simp [Value.ownBlock])).elim fun g h => by have e := h.1; simp [Value.ownBlock] at e; omega
            rw [hz5] at HP6
            refine ⟨rfl, W.heap.size, w5.heap.size, rfl, by simp [go_sem, t0], by simp [go_sem, t1], by simp [go_sem, t2], by simp [go_sem, t3], ?_, ?_, by omega, by omega, by omega, Bsc (Bst hb5' hb6) (by simp; omega) _⟩
            · exact HP56.kept (grownBy_cell w6 G 3 _) (.inr (nG _ _ (by omega)))
            · exact HP6.kept (grownBy_cell w6 G 3 _) (.inr (nG _ _ (by omega)))
        · rw [if_pos (wanted_free rfl _)]; refine make_opO _ _ _ 160 rfl G 5 i1 (.int .u8 0) 1 Tryz.underlying160 hi1 hy0 hy1 .i64 .i64 _ _ N rfl rfl rfl rfl (by rw [hy2]; omega) (by simp only [maxLen]; omega) (by first | omega | (simp; omega)) ?_; intro w5 HO5 hg5
          have hb5 := Bgr (Below.refl _ _) hg5 (by simp)
          have hk5 : Kb W w5 [G] := (Kb.grown0 hg5).weak (by simp)
          have s5 := hg5.size
          refine hK _ _ (.of hk5) ?_; clear hK K
          refine trS_t rfl (fun K hK => ?_); rw [if_pos (wanted_free rfl _)]; refine make_opO _ _ _ 160 rfl G 5 i1 (.int .u8 0) 1 Tryz.underlying160 hi1 hy0 hy1 .i64 .i64 _ _ N rfl rfl rfl rfl (by rw [hy2]; omega) (by simp only [maxLen]; omega) (by first | omega | (simp; omega)) ?_; intro w6 HO6 hg6
          have hb6 := Bgr hb5 hg6 (by simp)
          have hk6 := hk5.trans' ((Kb.grown0 hg6).weak (by simp))
          refine hK _ _ (.of hk6) ?_; clear hK K
          have HP5 := (own_madeU _ _ _ _ _ HO5).kept hg6 (.inr (by simp [Value.ownBlock]))
          have HP6 := own_madeU _ _ _ _ _ HO6
          have s6 := hg6.size
          have q0 := bkc hb6 c0
          have q1 := bkc hb6 c1
          have q2 := bkc hb6 c2
          have q3 := bkc hb6 c3
          have r2 : w6.frozen? ⟨G, 2, none⟩ = false := by rw [hb6.frozen (p := ⟨G, 2, none⟩) (by simp; omega)]; exact e2
          have r3 : w6.frozen? ⟨G, 3, none⟩ = false := by rw [hb6.frozen (p := ⟨G, 3, none⟩) (by simp; omega)]; exact e3
          have l5 : W.heap.size < w6.heap.size := (HP5.put.resolve_left (by simp [Value.ownBlock])).elim fun g h => by have e := h.1; simp [Value.ownBlock] at e; omega
          have l6 : w5.heap.size < w6.heap.size := (HP6.put.resolve_left (by simp [Value.ownBlock])).elim fun g h => by have e := h.1; simp [Value.ownBlock] at e; omega
          have l7 : W.heap.size < w5.heap.size := ((own_madeU _ _ _ _ _ HO5).put.resolve_left (by simp [Value.ownBlock])).elim fun g h => by have e := h.1; simp [Value.ownBlock] at e; omega
          repeat (refine trS_q rfl (fun K hK => ?_); unfold takeS; go_simp; refine hK _ ?_; clear hK K)
          refine trS_t rfl (fun K hK => ?_); go_simp; refine hK _ _ (.of (hk6.trans' (Kb.grown (grownBy_cell w6 G 2 _)))) ?_; clear hK K
          repeat (refine trS_q rfl (fun K hK => ?_); unfold takeS; go_simp; refine hK _ ?_; clear hK K)
          refine trS_t rfl (fun K hK => ?_); go_simp; refine hK _ _ (.of ((hk6.trans' (Kb.grown (grownBy_cell w6 G 2 _))).trans' (Kb.grown (grownBy_cell _ G 3 _)))) ?_; clear hK K
          refine trS_nil ?_
          rw [noP_normal]
          have nG : ∀ g n, G < g → (Value.slice (some ⟨g, 0, none⟩) n n).ownBlock ≠ some G := fun g n h e => by simp only [Value.ownBlock] at e; injection e with e; omega
          refine ⟨rfl, w5.heap.size, W.heap.size, rfl, by simp [go_sem, q0], by simp [go_sem, q1], by simp [go_sem, q2], by simp [go_sem, q3], ?_, ?_, by omega, by omega, by omega, Bsc (Bsc (Bst (Bst hbg hW) hb6) (by simp; omega) _) (by simp; omega) _⟩
          · exact (HP6.kept (grownBy_cell w6 G 2 _) (.inr (nG _ _ (by omega)))).kept (grownBy_cell _ G 3 _) (.inr (nG _ _ (by omega)))
          · exact (HP5.kept (grownBy_cell w6 G 2 _) (.inr (nG _ _ (by omega)))).kept (grownBy_cell _ G 3 _) (.inr (nG _ _ (by omega)))
      case rest =>
        rintro _ _ w9 ⟨rfl, gf, gk, rfl, c0, c1, c2, c3, HOf, HOk, hne, hlf, hlk, hb9⟩
        clear hbg hsz d2 d3
        have hb09 : Below w.heap.size w w9 := Bst hb03 hb9
        have hA9 := hA3.below hb9
        have hB9 := hB.below hb9
        have hGs := World.block_lt_of_cell? _ _ c0
        have hfg : w.heap.size ≤ G := Nat.le_trans hb03.size (by omega)
        rw [← HN.out, ← fewL_zero] at HOf
        rw [← HN.out, ← kindL_zero, HN.out] at HOk
        rw [HN.out] at HOf
        go_wp2
        go_loopw [53] (fun si wr => ∃ i : Nat, si = .int .i64 i ∧ i ≤ a.length + 1 ∧ Own (eInt .u8) G 5 wr (.slice (some ⟨gf, 0, none⟩) N N) (fewL a b (i * (b.length + 1))) ∧ Own (eInt .u8) G 5 wr (.slice (some ⟨gk, 0, none⟩) N N) (kindL a b (i * (b.length + 1))) ∧ Kb w9 wr [gf, gk]) (fun si _ => a.length + 1 - (intOf si).toNat)
        case atStart => exact ⟨0, rfl, by omega, by rw [Nat.zero_mul]; exact HOf, by rw [Nat.zero_mul]; exact HOk, Kb.refl _ _⟩
        case round =>
          obtain ⟨i, rfl, hi, HOf1, HOk1, hk1⟩ := hrel
          rename World => wo
          by_cases hlt : i < a.length + 1
          · have hlt' : (i : Int) < (a.length : Int) + 1 := by omega
            go_wp2
            go_loopw [59] (fun sj wr => ∃ j : Nat, sj = .int .i64 j ∧ j ≤ b.length + 1 ∧ Own (eInt .u8) G 5 wr (.slice (some ⟨gf, 0, none⟩) N N) (fewL a b (i * (b.length + 1) + j)) ∧ Own (eInt .u8) G 5 wr (.slice (some ⟨gk, 0, none⟩) N N) (kindL a b (i * (b.length + 1) + j)) ∧ Kb w9 wr [gf, gk]) (fun sj _ => b.length + 1 - (intOf sj).toNat)
            case atStart => exact ⟨0, rfl, by omega, HOf1, HOk1, hk1⟩
            case round =>
              obtain ⟨j, rfl, hj, HOf2, HOk2, hk2⟩ := hrel
              rename World => wi
              by_cases hjt : j < b.length + 1
              · have hjt' : (j : Int) < (b.length : Int) + 1 := by omega
                rcases Nat.eq_zero_or_pos (i + j) with h0 | h0
                · obtain rfl : i = 0 := by omega
                  obtain rfl : j = 0 := by omega
                  go_wp2
                  have e1 : fewL a b (0 * (b.length + 1) + (0 + 1)) = fewL a b (0 * (b.length + 1) + 0) := by simp [fewL_one]
                  have e2 : kindL a b (0 * (b.length + 1) + (0 + 1)) = kindL a b (0 * (b.length + 1) + 0) := by simp [kindL_one]
                  exact ⟨⟨0 + 1, by go_num, by omega, by rw [e1]; exact HOf2, by rw [e2]; exact HOk2, hk2⟩, by first | (simp [intOf]; done) | (simp [intOf]; omega)⟩
                · have h0' : (0 : Int) < (i : Int) + (j : Int) := by omega
                  obtain ⟨P, hP⟩ : ∃ P, i * (b.length + 1) + j = P := ⟨_, rfl⟩
                  have hPN : P < N := by rw [← hP, ← HN.out]; exact place_small (by omega) (by omega)
                  have hPN' : (P : Int) < (N : Int) := by omega
                  go_wp2_with fail
                  have hb9i : Below w3.heap.size w3 wi := hk2.to (by simp; omega) hb9 (Nat.le_refl _)
                  have hki := hk2.size
                  have HK2 := Lib.hid hk2
                  have C0 := hk2.cell c0 (by simp; omega)
                  have C1 := hk2.cell c1 (by simp; omega)
                  have C2 := hk2.cell c2 (by simp; omega)
                  have C3 := hk2.cell c3 (by simp; omega)
                  rw [hP] at HOf2 HOk2
                  have hl1 : (fewL a b P).length = N := by rw [fewL_len]; exact HN.out
                  have hl2 : (kindL a b P).length = N := by rw [kindL_len]; exact HN.out
                  refine region_treeS [gf, gk] (.q 0 (.q 1 (.q 2 (.q 3 (.q 4 (.q 5 (.q 6 (.q 8 (.q 9 (.q 10 (.q 11 (.q 12 (.q 13 (.q 14 (.q 16 (.q 17 (.q 18 (.t 7 (.t 15 (.t 19 (.q 20 (.q 21 (.q 22 (.q 23 (.t 24 (.q 25 (.t 26 .nil))))))))))))))))))))))))))) (by kernel_rfl) (by kernel_rfl) ?_
                  intro W hW
                  have hbW : Below wi.heap.size wi W := Bst (by first | exact Below.refl _ _ | exact Bdn (Below.refl _ _) _) hW
                  replace C0 := bkc hbW C0
                  replace C1 := bkc hbW C1
                  replace C2 := bkc hbW C2
                  replace C3 := bkc hbW C3
                  replace HOf2 := HOf2.below hbW
                  replace HOk2 := HOk2.below hbW
                  have x2 : ∀ X : LaterS W [gf, gk], (World.extS W [gf, gk] X).cell? ⟨G, 2, none⟩ = some (.slice (some ⟨gf, 0, none⟩) N N) := fun X => X.h.cell C2 (by simp; omega)
                  have x3 : ∀ X : LaterS W [gf, gk], (World.extS W [gf, gk] X).cell? ⟨G, 3, none⟩ = some (.slice (some ⟨gk, 0, none⟩) N N) := fun X => X.h.cell C3 (by simp; omega)
                  have hat : Calls Tryz.prog 202 #[.pointer (some ⟨G, 0, none⟩), .int .i64 i, .int .i64 j] W fun e w' => e = .returned (.int .i64 (P : Nat)) ∧ w' = W := by
                    have := at_c G B b.length cb i j W C1 hb4 (by omega) (by omega)
                    rw [hP] at this
                    exact this
                  have hF : ∀ x y, x ≤ i → y ≤ j → x + y < i + j → W.cell? ⟨gf, x * (b.length + 1) + y, none⟩ = some (.int .u8 (dd a b x y)) := fun x y hx hy hxy => by
                    have hlt : x * (b.length + 1) + y < P := by
                      rw [← hP]
                      rcases Nat.lt_or_ge x i with h | h
                      · have h2 : (x + 1) * (b.length + 1) ≤ i * (b.length + 1) := Nat.mul_le_mul_right _ h
                        rw [Nat.add_mul, Nat.one_mul] at h2
                        omega
                      · obtain rfl : x = i := by omega
                        omega
                    have h1 := fewL_at (a := a) (b := b) (m := P) (i := x) (j := y) (by omega) (by omega) hlt
                    obtain ⟨hq, he⟩ := List.getElem?_eq_some_iff.1 h1
                    have h2 := (HOf2.cell1 (f := Value.int .u8) (fun _ => rfl) (x * (b.length + 1) + y) hq).2.1
                    rw [he] at h2
                    exact h2
                  have hbest := best_c G A B a b ca cb gf N N i j W C0 C1 C2 (hA3.below (Bst hb9i hbW)) (hB.below (Bst hb9i hbW)) hF HN.out.symm ha2 hb4 (by omega) (by omega) h0
                  clear hF
                  repeat (refine trS_q rfl (fun K hK => ?_); unfold takeS; go_simp; refine hK _ ?_; clear hK K)
                  refine trS_t rfl (fun K hK => ?_); go_simp; refine hat.mono ?_; rintro e w5 ⟨rfl, h5⟩; obtain rfl := h5.symm; clear h5; go_simp; refine hK _ _ (.of (Kb.refl _ _)) ?_; clear hK K
                  refine trS_t rfl (fun K hK => ?_); go_simp; refine hat.mono ?_; rintro e w5 ⟨rfl, h5⟩; obtain rfl := h5.symm; clear h5; go_simp; refine hK _ _ (.of (Kb.refl _ _)) ?_; clear hK K
                  refine trS_t rfl (fun K hK => ?_); go_simp; refine hbest.mono ?_; rintro e w6 ⟨rfl, hb6⟩; go_simp; refine hK _ _ (.of (Kb.weak (Kb.below hb6) (by simp))) ?_; clear hK K
                  have HOf6 := HOf2.below hb6
                  have HOk6 := HOk2.below hb6
                  obtain ⟨_, k1, k2⟩ := HOk6.cell1 (fun _ => rfl) P (by omega)
                  obtain ⟨_, f1, f2⟩ := HOf6.cell1 (fun _ => rfl) P (by omega)
                  repeat (refine trS_q rfl (fun K hK => ?_); unfold takeS; go_simp; refine hK _ ?_; clear hK K)
                  have hne2 : gk ≠ gf := Ne.symm hne
                  have kW : Kb W w6 [gf, gk] := Kb.weak (Kb.below hb6) (by simp)
                  have kA := kW.trans' (Kb.weak (Kb.grown (grownBy_cell w6 gk P (.int .u8 (kd a b i j)))) (by simp) : Kb w6 _ [gf, gk])
                  have kB := kA.trans' (Kb.weak (Kb.grown (grownBy_cell (w6.setCell ⟨gk, P, none⟩ (.int .u8 (kd a b i j))) gf P (.int .u8 (dd a b i j)))) (by simp) : Kb _ _ [gf, gk])
                  refine trS_t rfl (fun K hK => ?_); go_simp; refine hK _ _ (.of kA) ?_; clear hK K
                  repeat (refine trS_q rfl (fun K hK => ?_); unfold takeS; go_simp; refine hK _ ?_; clear hK K)
                  refine trS_t rfl (fun K hK => ?_); go_simp; refine hK _ _ (.of kB) ?_; clear hK K
                  refine trS_nil ?_
                  rw [noP_normal]
                  go_wp2
                  refine ⟨⟨j + 1, by go_num, by omega, ?_, ?_, ?_⟩, by simp [intOf]; omega⟩
                  · have h := ((HOf6.kept (grownBy_cell w6 gk P (.int .u8 (kd a b i j))) (.inr (by simp only [Value.ownBlock]; intro e; injection e with e; omega))).put1 (f := Value.int .u8) (fun _ => rfl) hl1 P ((dd a b i j : Nat) : Int)).1
                    rw [fewL_set (by omega) (by omega) hP] at h
                    rw [show i * (b.length + 1) + (j + 1) = P + 1 by omega]
                    exact h
                  · have h := (HOk6.put1 (f := Value.int .u8) (fun _ => rfl) hl2 P ((kd a b i j : Nat) : Int)).1
                    rw [kindL_set (by omega) (by omega) hP h0] at h
                    rw [show i * (b.length + 1) + (j + 1) = P + 1 by omega]
                    exact h.kept (grownBy_cell _ gf P _) (.inr (by simp only [Value.ownBlock]; intro e; injection e with e; omega))
                  · exact HK2.out.trans' ((Kb.weak (Kb.below hbW) (by simp) : Kb wi W [gf, gk]).trans' kB)
              · have hjt' : ¬ (j : Int) < (b.length : Int) + 1 := by omega
                obtain rfl : j = b.length + 1 := by omega
                have e1 : (i + 1) * (b.length + 1) = i * (b.length + 1) + (b.length + 1) := by rw [Nat.add_mul, Nat.one_mul]
                go_wp2
                exact ⟨⟨i + 1, by go_num, by omega, by rw [e1]; exact HOf2, by rw [e1]; exact HOk2, hk2⟩, by simp [intOf]; omega⟩
          · have hlt' : ¬ (i : Int) < (a.length : Int) + 1 := by omega
            obtain rfl : i = a.length + 1 := by omega
            have hb9o : Below w3.heap.size w3 wo := hk1.to (by simp; omega) hb9 (Nat.le_refl _)
            go_wp2
            go_ret2
            refine ⟨Bst hb03 hb9o, fun _ => ⟨G, a, b, DA.out, DB.out, ha1, ha2, hb1, hb4, rfl, ⟨A, ca, B, cb, gf, gk, N, hk1.cell c0 (by simp; omega), hk1.cell c1 (by simp; omega), hk1.cell c2 (by simp; omega), hk1.cell c3 (by simp; omega), HN.out.symm, hA3.below hb9o, hB.below hb9o, fun i j hi hj => ?_, fun i j hi hj hij => ?_⟩⟩, fun h => absurd HE.out h⟩
            · have h1 := fewL_at (a := a) (b := b) (m := (a.length + 1) * (b.length + 1)) hi hj (place_small hi hj)
              obtain ⟨hq, he⟩ := List.getElem?_eq_some_iff.1 h1
              have h2 := (HOf1.cell1 (f := Value.int .u8) (fun _ => rfl) (i * (b.length + 1) + j) hq).2.1
              rw [he] at h2
              exact h2
            · have h1 := kindL_at (a := a) (b := b) (m := (a.length + 1) * (b.length + 1)) hi hj (place_small hi hj) hij
              obtain ⟨hq, he⟩ := List.getElem?_eq_some_iff.1 h1
              have h2 := (HOk1.cell1 (f := Value.int .u8) (fun _ => rfl) (i * (b.length + 1) + j) hq).2.1
              rw [he] at h2
              exact h2
    · have H1 := Lib.hid h1
      have H2 := Lib.hid h2
      have HE : Hid (pairE p = tkE p.t) := by show _ = _; unfold pairE; rw [if_pos h1]
      obtain ⟨z, hz3⟩ : ∃ z, tkE p.t = z := ⟨_, rfl⟩
      have hz0 : z ≠ 0 := hz3 ▸ h2
      clear h1 h2
      go_enter Tryz.func155, Tryz.ntmps155
      go_wp2_with fail
      refine (tk_c p.n _ hU hz).mono ?_
      rintro e w2 ⟨hb2, h3, _⟩
      obtain ⟨v, a, ha, ha1, ha2, rfl, hOa⟩ := h3 H1.out
      clear h3
      have DA := Lib.hid ha
      clear ha
      go_wp2_with fail
      refine (tk_c p.t _ (hU.to hb2) hz2).mono ?_
      rintro e w3 ⟨hb3, _, h3⟩
      obtain rfl := h3 H2.out
      clear h3
      rw [hz3]
      go_wp2_with fail
      go_ret2
      refine ⟨Bst hb2 hb3, fun h => absurd (HE.out.symm.trans h) H2.out, fun _ => ?_⟩
      rw [HE.out, hz3]; rfl
  · have H1 := Lib.hid h1
    have HE : Hid (pairE p = tkE p.n) := by show _ = _; unfold pairE; rw [if_neg h1]
    obtain ⟨z, hz3⟩ : ∃ z, tkE p.n = z := ⟨_, rfl⟩
    have hz0 : z ≠ 0 := hz3 ▸ h1
    clear h1
    go_enter Tryz.func155, Tryz.ntmps155
    go_wp2_with fail
    refine (tk_c p.n _ hU hz).mono ?_
    rintro e w2 ⟨hb2, _, h3⟩
    obtain rfl := h3 H1.out
    clear h3
    rw [hz3]
    go_wp2_with fail
    go_ret2
    refine ⟨hb2, fun h => absurd (HE.out.symm.trans h) H1.out, fun _ => ?_⟩
    rw [HE.out, hz3]; rfl
end Go.Proofs.YtpnhmapkdbnkmaaGreatDoor
