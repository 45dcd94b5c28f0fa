/- PriceMore walked. No condition. -/
import Derived.Test.YtmpoihejacklnaaDoorP09
import Derived.Test.YtmpoihejacklnaaDoorGrt12
import Derived.Test.YtmpoihejacklnaaDoorK809
namespace Go.Proofs.YtmpoihejacklnaaDoor
open Go Go.RowKit
/-- 'append' of what may be nil, at one operation of a drawn region. -/
theorem app_opA {α : Type} {E : Enc α} {P : Program} {o : Oper} {a : Act} {K : Act → World → Prop} {Q : Exit → Act → World → Prop} {w0 W : World} (s x : Operand) (t e : TypeId) (z : Value) (bytes : Nat)
    (hg : o.guard = none) (ho : o.op = .call { callee := .builtin .append, args := #[s, x], argTypes := #[t, t] })
    (ht : P.underlying t = some (.slice e)) (hinfo : (P.info? e).map (fun i => (i.zero, i.size, i.bytes)) = some (some z, E.k, bytes)) (hz : z.cells.size = E.k) (hk : 0 < E.k) (hby : 0 < bytes)
    (v : Value) (xs ys : List α) (A : Option Addr) (c : Nat) (hAc : A = none → c = 0) (hs : a.eval s = v) (hx : a.eval x = .slice A ys.length c)
    (HO : Own E w0.heap.size e W v xs) (HS : SlA E W A ys) (hb : Below w0.heap.size w0 W) (hl : (xs.length + ys.length) * bytes ≤ 140737488355328)
    (h : ∀ v' w1, Own E w0.heap.size e w1 v' (xs ++ ys) → Below w0.heap.size w0 w1 → W.grownBy w1 v.ownBlock → K (a.put o.dst v') w1) : o.wp P a W K Q := by
  cases A with
  | some ad => exact app_op s x t e z bytes hg ho ht hinfo hz hk hby v xs ys ad ys.length c hs hx rfl HO HS hb hl fun v' w1 h1 h2 h3 _ => h v' w1 h1 h2 h3
  | none =>
    have hy : ys = [] := by
      cases ys with
      | nil => rfl
      | cons y l => obtain ⟨b, o, hA, _⟩ := HS 0 y (by simp); cases hA
    subst hy
    have hc := hAc rfl
    subst hc
    exact app_none (E := E) s x t e ho ht hinfo v xs hs hx HO (h v W (by rw [List.append_nil]; exact HO) hb ⟨rfl, rfl, rfl, Nat.le_refl _, fun _ _ _ => rfl⟩)
theorem litN12 {α : Type} (E : Enc α) (base : Nat) (e : TypeId) (w : World) (n : Nat) (hn : n = w.heap.size) (hb : base ≤ w.heap.size) : Own E base e (w.alloc (.cells #[] e)) (.slice (some ⟨n, 0, none⟩) 0 0) [] := by
  subst hn; exact Own.lit E base e w hb
theorem kept12 {α : Type} {E : Enc α} {w w' : World} {A : Option Addr} {xs : List α} {b o : Nat} {row : Option Nat} (h : SlA E w A xs) (hA : A = some ⟨b, o, none⟩) (hg : w.grownBy w' row) (hne : some b ≠ row) : SlA E w' A xs := fun j x hx => by
  obtain ⟨b', o', hA', hlt, hc⟩ := h j x hx
  rw [hA] at hA'
  injection hA' with h1
  injection h1 with h2 h3
  subst h2 h3
  exact ⟨b, o, hA, Nat.lt_of_lt_of_le hlt hg.size, fun i u hu => hg.cell (hc i u hu) hne⟩
theorem small_snoc {xs : List T3} {r : T3} (hm : Small xs) (hl : xs.length + 1 ≤ 1048576) (h1 : r.f.size ≤ 1048576) (h2 : r.t.size ≤ 1048576) : Small (xs ++ [r]) :=
  ⟨by simpa using hl, fun b hb => by
    rcases List.mem_append.1 hb with h | h
    · exact hm.2 b h
    · rw [List.mem_singleton.1 h]; exact ⟨h1, h2⟩⟩
theorem nrm_le {l ys : List T3} (h : Nrm l ys) {x : T3} (hx : x ∈ l) : ∃ y ∈ ys, y.f = x.f ∧ y.t = x.t ∧ y.n ≤ x.n := by
  obtain ⟨y, hy, hs⟩ := key_mem ((h.keys (x.f, x.t)).2 (mem_keys hx))
  exact ⟨y, hy, hs.1, hs.2, h.low y hy x hx ⟨hs.1.symm, hs.2.symm⟩⟩
theorem great_few12 {xs : List T3} {t v : ByteArray} (h : great12 xs t v = false) : xs.length ≤ 40 := by
  unfold great12 at h
  simp only [Bool.or_eq_false_iff, decide_eq_false_iff_not] at h
  omega
set_option maxHeartbeats 4000000 in
set_option maxRecDepth 100000 in
theorem mores_c (A : Option Addr) (c : Nat) (xs : List T3) (r : T3) (t v : ByteArray) (w : World) (hU : U w) (hAc : A = none → c = 0) (hs : SlA eT3 w A xs) (hm : Small xs) (hml : xs.length + 1 ≤ 1048576) (hr1 : r.f.size ≤ 1048576) (hr2 : r.t.size ≤ 1048576) (hz : t.size ≤ 1048576) (hz2 : v.size ≤ 1048576) :
    Calls Tryd.prog 9 #[.agg #[.slice A xs.length c, .string r.f, .string r.t, .int .i64 r.n, .string t, .string v]] w (Ret w (.bool true)) := by
  have hsm := small_snoc hm hml hr1 hr2
  have hbx := Bx.new w 54 #[.slice A xs.length c, .string r.f, .string r.t, .int .i64 r.n, .string t, .string v]
  have hba : Below w.heap.size w (w.alloc (.cells #[.slice A xs.length c, .string r.f, .string r.t, .int .i64 r.n, .string t, .string v] 54)) := Bal (Below.refl _ _) _
  go_enter Tryd.func9, Tryd.ntmps9
  go_wp2_with fail
  generalize (w.alloc (.cells #[.slice A xs.length c, .string r.f, .string r.t, .int .i64 r.n, .string t, .string v] 54)) = w0 at hbx hba ⊢
  refine (alive12_c w0 (hU.to hba)).mono ?_
  rintro e w1 ⟨rfl, hb1⟩
  have hbx1 := hbx.below hb1
  have hb01 := Bst hba hb1
  go_wp2_with fail
  refine region_mixS [] 12 [(0, true), (1, true), (2, true), (3, true), (4, true), (5, true), (6, true), (7, true), (8, false), (9, true), (10, false), (11, true)] (by kernel_rfl) (by kernel_rfl) ?_
  intro W1 hW1
  have q0 := bkc hW1 (hbx1.cell 0)
  have q1 := bkc hW1 (hbx1.cell 1)
  have q2 := bkc hW1 (hbx1.cell 2)
  have q3 := bkc hW1 (hbx1.cell 3)
  have q4 := bkc hW1 (hbx1.cell 4)
  have q5 := bkc hW1 (hbx1.cell 5)
  simp at q0 q1 q2 q3 q4 q5
  repeat (refine sS_q rfl (fun K hK => ?_); unfold takeS; go_simp; refine hK _ ?_; clear hK K)
  refine sS_t rfl (fun K hK => ?_); go_simp
  refine hK _ _ (.of (Kb.weak (Kb.below (Bal (Below.refl _ _) _)) (by simp))) ?_; clear hK K
  refine sS_q rfl (fun K hK => ?_); unfold takeS; go_simp; refine hK _ ?_; clear hK K
  refine sS_t rfl (fun K hK => ?_); go_simp
  obtain ⟨rb, hrb⟩ : ∃ n, W1.heap.size = n := ⟨_, rfl⟩
  have hB3 : Bx (W1.alloc (.cells #[.string r.f, .string r.t, .int .i64 r.n] 49)) rb 49 #[.string r.f, .string r.t, .int .i64 r.n] := by rw [← hrb]; exact Bx.new W1 49 #[.string r.f, .string r.t, .int .i64 r.n]
  have hb13 : Below W1.heap.size W1 (W1.alloc (.cells #[.string r.f, .string r.t, .int .i64 r.n] 49)) := Bal (Below.refl _ _) _
  refine hK _ _ (.of (Kb.weak (Kb.below hb13) (by simp))) ?_; clear hK K
  generalize (W1.alloc (.cells #[.string r.f, .string r.t, .int .i64 r.n] 49)) = w3 at hB3 hb13 ⊢
  rw [hrb]
  refine sS_q rfl (fun K hK => ?_); unfold takeS; go_simp; refine hK _ ?_; clear hK K
  refine sS_nil ?_
  go_wp2
  rw [noP_normal]
  have hb03 := Bst hb01 (Bst hW1 hb13)
  have hs3 := hs.below hb03
  obtain ⟨l, hl⟩ : ∃ l, xs ++ [r] = l := ⟨_, rfl⟩
  rw [hl] at hsm
  have HLL := Lib.hid (show l.length = xs.length + 1 by rw [← hl]; simp)
  have HL := Lib.hid hl
  clear hl
  clear q0 q1 q2 q3 q4 q5 hbx1 hbx hb13 hrb
  go_wp2_with fail
  refine wp_cutG (fun a' w' => ∃ (v25 v27 v29 : Value) (A30 : Option Addr) (c30 : Nat), Below w3.heap.size w3 w' ∧ a' = { tmps := #[.agg #[.slice A xs.length c, .string r.f, .string r.t, .int .i64 r.n, .string t, .string v], .pointer (some ⟨w.heap.size, 0, none⟩), .bool false, .slice A xs.length c, .pointer (some ⟨rb, 0, none⟩), .string t, .string v, undef, undef, undef, undef, undef, undef, undef, undef, .bool true, .bool false, .pointer (some ⟨w.heap.size, 0, none⟩), .slice A xs.length c, .pointer (some ⟨w.heap.size, 1, none⟩), .agg #[.string r.f, .string r.t, .int .i64 r.n], .pointer (some ⟨w.heap.size, 4, none⟩), .string t, .pointer (some ⟨w.heap.size, 5, none⟩), .string v, v25, .slice A xs.length c, v27, .agg #[.string r.f, .string r.t, .int .i64 r.n], v29, .slice A30 l.length c30, .string t, .string v, .bool (great12 l t v), undef, undef, undef, undef, undef, undef, undef, undef, undef, undef, undef, undef, undef, undef, undef, undef, undef, undef, undef, undef, undef, undef, undef, undef, undef, undef, undef, undef, undef, undef, undef, undef, undef, undef, undef, undef, undef, undef, undef, undef, undef, undef, undef, undef, undef, undef, undef, undef, undef, undef, undef, undef, undef, undef, undef, undef, undef, undef, undef, undef], defers := [] }) ?_ ?_
  rotate_left
  · skip
    refine region_tree (.q 1 (.q 3 (.q 6 (.q 7 (.two 0 (.two 2 (.t 4 (.t 5 (.t 8 .nil))) 4 (.t 2 (.t 5 (.t 8 .nil)))) 4 (.t 0 (.t 2 (.t 5 (.t 8 .nil))))))))) (by kernel_rfl) (by kernel_rfl) ?_
    intro W3 hW3
    have x0 := bkc hW3 (hB3.cell 0)
    have x1 := bkc hW3 (hB3.cell 1)
    have x2 := bkc hW3 (hB3.cell 2)
    simp at x0 x1 x2
    have hsW := hs3.below hW3
    repeat (refine tr_q rfl (fun K hK => ?_); unfold takeQ; go_simp; refine hK _ ?_; clear hK K)
    skip
    refine tr_two rfl rfl (fun K hK => ?_) (fun K hK => ?_)
    · go_simp; refine hK _ _ (.of Bel) ?_; clear hK K
      refine tr_two rfl rfl (fun K hK => ?_) (fun K hK => ?_)
      · skip
        rw [if_pos (wanted_free rfl _)]; refine app_opA (E := eT3) (w0 := W3) _ _ 22 49 (.agg #[.string .empty, .string .empty, .int .i64 0]) 40 rfl rfl Tryd.underlying22 info_ruleH rfl (by decide) (by decide) _ [] xs A c hAc rfl rfl (Own.lit eT3 W3.heap.size 49 W3 (Nat.le_refl _)) (hsW.below Bel) Bel (by first | (simp; done) | (simp; omega)) ?_; intro v27 w27 HO27 hb27 _; rw [List.nil_append] at HO27; refine hK _ _ (.of hb27) ?_; clear hK K
        refine tr_t rfl (fun K hK => ?_); go_simp; refine hK _ _ (.of (Bal hb27 _)) ?_; clear hK K
        refine tr_t rfl (fun K hK => ?_); rw [if_pos (wanted_free rfl _)]; refine app_op (E := eT3) (w0 := W3) _ _ 22 49 (.agg #[.string .empty, .string .empty, .int .i64 0]) 40 rfl rfl Tryd.underlying22 info_ruleH rfl (by decide) (by decide) _ xs [r] _ _ _ rfl rfl rfl (HO27.below (Bal (Below.refl _ _) _)) (SlA.new eT3 _ [r] _ _ (by simp) _ rfl) (Bal hb27 _) (by first | (simp; done) | (simp; omega)) ?_; intro v30 w30 HO30 hb30 _ _; rw [HL.out] at HO30; obtain ⟨A30, c30, rfl, _, _, hs30⟩ := HO30.slv; refine hK _ _ (.of hb30) ?_; clear hK K
        refine tr_t rfl (fun K hK => ?_); go_simp
        refine (great12_c A30 c30 l t v w30 hs30 hsm (by omega) (by omega)).mono ?_
        rintro e w33 ⟨rfl, hb33⟩
        go_simp
        refine hK _ _ (.of (Bst hb30 hb33)) ?_; clear hK K
        refine tr_nil ?_
        rw [noP_normal]
        exact ⟨_, _, _, A30, c30, Bst hW3 (Bst hb30 hb33), rfl⟩
      · skip
        go_simp; refine hK _ _ (.of Bel) ?_; clear hK K
        have hS4 : SlA eT3 ((W3.alloc (.cells #[] 49)).alloc (.cells #[.string r.f, .string r.t, .int .i64 r.n] 49)) (some ⟨(W3.alloc (.cells #[] 49)).heap.size, 0, none⟩) [r] := SlA.new eT3 _ [r] _ _ (by simp) _ rfl
        simp only [World.size_alloc] at hS4
        refine tr_t rfl (fun K hK => ?_); rw [if_pos (wanted_free rfl _)]; refine app_opA (E := eT3) (w0 := W3) _ _ 22 49 (.agg #[.string .empty, .string .empty, .int .i64 0]) 40 rfl rfl Tryd.underlying22 info_ruleH rfl (by decide) (by decide) (.slice (some ⟨W3.heap.size, 0, none⟩) 0 0) [] xs A c hAc rfl rfl ((Own.lit eT3 W3.heap.size 49 W3 (Nat.le_refl _)).alloc _) (hsW.below Bel) Bel (by first | (simp; done) | (simp; omega)) ?_; intro v27 w27 HO27 hb27 hg27; have hk27 := kept12 hS4 rfl hg27 (by simp [Value.ownBlock]); rw [List.nil_append] at HO27; refine hK _ _ (.of hb27) ?_; clear hK K
        refine tr_t rfl (fun K hK => ?_); rw [if_pos (wanted_free rfl _)]; refine app_op (E := eT3) (w0 := W3) _ _ 22 49 (.agg #[.string .empty, .string .empty, .int .i64 0]) 40 rfl rfl Tryd.underlying22 info_ruleH rfl (by decide) (by decide) _ xs [r] _ _ _ rfl rfl rfl HO27 hk27 hb27 (by first | (simp; done) | (simp; omega)) ?_; intro v30 w30 HO30 hb30 _ _; rw [HL.out] at HO30; obtain ⟨A30, c30, rfl, _, _, hs30⟩ := HO30.slv; refine hK _ _ (.of hb30) ?_; clear hK K
        refine tr_t rfl (fun K hK => ?_); go_simp
        refine (great12_c A30 c30 l t v w30 hs30 hsm (by omega) (by omega)).mono ?_
        rintro e w33 ⟨rfl, hb33⟩
        go_simp
        refine hK _ _ (.of (Bst hb30 hb33)) ?_; clear hK K
        refine tr_nil ?_
        rw [noP_normal]
        exact ⟨_, _, _, A30, c30, Bst hW3 (Bst hb30 hb33), rfl⟩
    · go_simp; refine hK _ _ (.of Bel) ?_; clear hK K
      have hS4 : SlA eT3 (W3.alloc (.cells #[.string r.f, .string r.t, .int .i64 r.n] 49)) (some ⟨W3.heap.size, 0, none⟩) [r] := SlA.new eT3 _ [r] _ _ rfl _ rfl
      refine tr_t rfl (fun K hK => ?_); go_simp; refine hK _ _ (.of Bel) ?_; clear hK K
      refine tr_t rfl (fun K hK => ?_); rw [if_pos (wanted_free rfl _)]; refine app_opA (E := eT3) (w0 := W3) _ _ 22 49 (.agg #[.string .empty, .string .empty, .int .i64 0]) 40 rfl rfl Tryd.underlying22 info_ruleH rfl (by decide) (by decide) (.slice (some ⟨W3.heap.size + 1, 0, none⟩) 0 0) [] xs A c hAc rfl rfl (litN12 eT3 W3.heap.size 49 (W3.alloc (.cells #[.string r.f, .string r.t, .int .i64 r.n] 49)) _ (by simp) (by simp)) (hsW.below Bel) Bel (by first | (simp; done) | (simp; omega)) ?_; intro v27 w27 HO27 hb27 hg27; have hk27 := kept12 (hS4.below (Bal (Below.refl _ _) _)) rfl hg27 (by simp [Value.ownBlock]); rw [List.nil_append] at HO27; refine hK _ _ (.of hb27) ?_; clear hK K
      refine tr_t rfl (fun K hK => ?_); rw [if_pos (wanted_free rfl _)]; refine app_op (E := eT3) (w0 := W3) _ _ 22 49 (.agg #[.string .empty, .string .empty, .int .i64 0]) 40 rfl rfl Tryd.underlying22 info_ruleH rfl (by decide) (by decide) _ xs [r] _ _ _ rfl rfl rfl HO27 hk27 hb27 (by first | (simp; done) | (simp; omega)) ?_; intro v30 w30 HO30 hb30 _ _; rw [HL.out] at HO30; obtain ⟨A30, c30, rfl, _, _, hs30⟩ := HO30.slv; refine hK _ _ (.of hb30) ?_; clear hK K
      refine tr_t rfl (fun K hK => ?_); go_simp
      refine (great12_c A30 c30 l t v w30 hs30 hsm (by omega) (by omega)).mono ?_
      rintro e w33 ⟨rfl, hb33⟩
      go_simp
      refine hK _ _ (.of (Bst hb30 hb33)) ?_; clear hK K
      refine tr_nil ?_
      rw [noP_normal]
      exact ⟨_, _, _, A30, c30, Bst hW3 (Bst hb30 hb33), rfl⟩
  rintro _ w4 ⟨v25, v27, v29, A30, c30, hb34, rfl⟩
  have hB4 := hB3.below hb34
  have hb04 := Bst hb03 hb34
  clear hB3 hs3
  cases hg : great12 l t v with
  | true =>
    go_wp2
    go_ret
    exact ⟨rfl, hb04⟩
  | false =>
    have hfew := great_few12 hg
    clear hg
    go_wp2_with fail
    have hs4 := hs.below hb04
    have hb0W0 := hb04
    refine wp_cutG (fun a' w' => ∃ (v35 v37 v39 : Value) (A40 : Option Addr) (c40 : Nat) (An : Option Addr) (cn : Nat) (ys : List T3) (rn : Int), SlA eT3 w' An ys ∧ Below w4.heap.size w4 w' ∧ ys.length ≤ l.length ∧ ((allR l ≠ 0 ∧ rn = allR l ∧ ys = []) ∨ (allR l = 0 ∧ ∃ zs, Nrm l zs ∧ zs.length ≤ l.length ∧ ((4096 < zs.length ∧ rn = 6 ∧ ys = []) ∨ (zs.length ≤ 4096 ∧ rn = 0 ∧ ys = zs)))) ∧ a' = { tmps := #[.agg #[.slice A xs.length c, .string r.f, .string r.t, .int .i64 r.n, .string t, .string v], .pointer (some ⟨w.heap.size, 0, none⟩), .bool false, .slice A xs.length c, .pointer (some ⟨rb, 0, none⟩), .string t, .string v, .slice An ys.length cn, .int .i64 rn, undef, undef, undef, undef, undef, undef, .bool true, .bool false, .pointer (some ⟨w.heap.size, 0, none⟩), .slice A xs.length c, .pointer (some ⟨w.heap.size, 1, none⟩), .agg #[.string r.f, .string r.t, .int .i64 r.n], .pointer (some ⟨w.heap.size, 4, none⟩), .string t, .pointer (some ⟨w.heap.size, 5, none⟩), .string v, v25, .slice A xs.length c, v27, .agg #[.string r.f, .string r.t, .int .i64 r.n], v29, .slice A30 l.length c30, .string t, .string v, .bool false, .tuple #[.slice An ys.length cn, .int .i64 rn], v35, .slice A xs.length c, v37, .agg #[.string r.f, .string r.t, .int .i64 r.n], v39, .slice A40 l.length c40, .tuple #[.slice An ys.length cn, .int .i64 rn], .slice An ys.length cn, .int .i64 rn, undef, undef, undef, undef, undef, undef, undef, undef, undef, undef, undef, undef, undef, undef, undef, undef, undef, undef, undef, undef, undef, undef, undef, undef, undef, undef, undef, undef, undef, undef, undef, undef, undef, undef, undef, undef, undef, undef, undef, undef, undef, undef, undef, undef, undef, undef, undef, undef, undef, undef], defers := [] }) ?_ ?_
    rotate_left
    · skip
      refine region_tree (.q 1 (.q 3 (.two 0 (.two 2 (.t 4 (.t 5 (.t 6 (.q 7 (.q 8 (.q 9 (.q 10 (.q 11 .nil)))))))) 4 (.t 2 (.t 5 (.t 6 (.q 7 (.q 8 (.q 9 (.q 10 (.q 11 .nil))))))))) 4 (.t 0 (.t 2 (.t 5 (.t 6 (.q 7 (.q 8 (.q 9 (.q 10 (.q 11 .nil)))))))))))) (by kernel_rfl) (by kernel_rfl) ?_
      intro W6 hW6
      have x0 := bkc hW6 (hB4.cell 0)
      have x1 := bkc hW6 (hB4.cell 1)
      have x2 := bkc hW6 (hB4.cell 2)
      simp at x0 x1 x2
      have hsW := hs4.below hW6
      have hb0W := Bst hb04 hW6
      repeat (refine tr_q rfl (fun K hK => ?_); unfold takeQ; go_simp; refine hK _ ?_; clear hK K)
      skip
      refine tr_two rfl rfl (fun K hK => ?_) (fun K hK => ?_)
      · go_simp; refine hK _ _ (.of Bel) ?_; clear hK K
        refine tr_two rfl rfl (fun K hK => ?_) (fun K hK => ?_)
        · skip
          rw [if_pos (wanted_free rfl _)]; refine app_opA (E := eT3) (w0 := W6) _ _ 22 49 (.agg #[.string .empty, .string .empty, .int .i64 0]) 40 rfl rfl Tryd.underlying22 info_ruleH rfl (by decide) (by decide) _ [] xs A c hAc rfl rfl (Own.lit eT3 W6.heap.size 49 W6 (Nat.le_refl _)) (hsW.below Bel) Bel (by first | (simp; done) | (simp; omega)) ?_; intro v27 w27 HO27 hb27 _; rw [List.nil_append] at HO27; refine hK _ _ (.of hb27) ?_; clear hK K
          refine tr_t rfl (fun K hK => ?_); go_simp; refine hK _ _ (.of (Bal hb27 _)) ?_; clear hK K
          refine tr_t rfl (fun K hK => ?_); rw [if_pos (wanted_free rfl _)]; refine app_op (E := eT3) (w0 := W6) _ _ 22 49 (.agg #[.string .empty, .string .empty, .int .i64 0]) 40 rfl rfl Tryd.underlying22 info_ruleH rfl (by decide) (by decide) _ xs [r] _ _ _ rfl rfl rfl (HO27.below (Bal (Below.refl _ _) _)) (SlA.new eT3 _ [r] _ _ (by simp) _ rfl) (Bal hb27 _) (by first | (simp; done) | (simp; omega)) ?_; intro v30 w30 HO30 hb30 _ _; rw [HL.out] at HO30; obtain ⟨A30, c30, rfl, _, _, hs30⟩ := HO30.slv; refine hK _ _ (.of hb30) ?_; clear hK K
          refine tr_t rfl (fun K hK => ?_); go_simp
          refine (norm_c A30 c30 l w30 (hU.to (Bst hb0W hb30)) hs30 hsm).mono ?_
          rintro e w33 ⟨An, cn, ys, rn, rfl, q1, q2, q3, q4⟩
          go_simp
          refine hK _ _ (.of (Bst hb30 q2)) ?_; clear hK K
          repeat (refine tr_q rfl (fun K hK => ?_); unfold takeQ; go_simp; refine hK _ ?_; clear hK K)
          refine tr_nil ?_
          rw [noP_normal]
          exact ⟨_, _, _, A30, c30, An, cn, ys, rn, q1, Bst hW6 (Bst hb30 q2), q3, q4, rfl⟩
        · skip
          go_simp; refine hK _ _ (.of Bel) ?_; clear hK K
          have hS4 : SlA eT3 ((W6.alloc (.cells #[] 49)).alloc (.cells #[.string r.f, .string r.t, .int .i64 r.n] 49)) (some ⟨(W6.alloc (.cells #[] 49)).heap.size, 0, none⟩) [r] := SlA.new eT3 _ [r] _ _ (by simp) _ rfl
          simp only [World.size_alloc] at hS4
          refine tr_t rfl (fun K hK => ?_); rw [if_pos (wanted_free rfl _)]; refine app_opA (E := eT3) (w0 := W6) _ _ 22 49 (.agg #[.string .empty, .string .empty, .int .i64 0]) 40 rfl rfl Tryd.underlying22 info_ruleH rfl (by decide) (by decide) (.slice (some ⟨W6.heap.size, 0, none⟩) 0 0) [] xs A c hAc rfl rfl ((Own.lit eT3 W6.heap.size 49 W6 (Nat.le_refl _)).alloc _) (hsW.below Bel) Bel (by first | (simp; done) | (simp; omega)) ?_; intro v27 w27 HO27 hb27 hg27; have hk27 := kept12 hS4 rfl hg27 (by simp [Value.ownBlock]); rw [List.nil_append] at HO27; refine hK _ _ (.of hb27) ?_; clear hK K
          refine tr_t rfl (fun K hK => ?_); rw [if_pos (wanted_free rfl _)]; refine app_op (E := eT3) (w0 := W6) _ _ 22 49 (.agg #[.string .empty, .string .empty, .int .i64 0]) 40 rfl rfl Tryd.underlying22 info_ruleH rfl (by decide) (by decide) _ xs [r] _ _ _ rfl rfl rfl HO27 hk27 hb27 (by first | (simp; done) | (simp; omega)) ?_; intro v30 w30 HO30 hb30 _ _; rw [HL.out] at HO30; obtain ⟨A30, c30, rfl, _, _, hs30⟩ := HO30.slv; refine hK _ _ (.of hb30) ?_; clear hK K
          refine tr_t rfl (fun K hK => ?_); go_simp
          refine (norm_c A30 c30 l w30 (hU.to (Bst hb0W hb30)) hs30 hsm).mono ?_
          rintro e w33 ⟨An, cn, ys, rn, rfl, q1, q2, q3, q4⟩
          go_simp
          refine hK _ _ (.of (Bst hb30 q2)) ?_; clear hK K
          repeat (refine tr_q rfl (fun K hK => ?_); unfold takeQ; go_simp; refine hK _ ?_; clear hK K)
          refine tr_nil ?_
          rw [noP_normal]
          exact ⟨_, _, _, A30, c30, An, cn, ys, rn, q1, Bst hW6 (Bst hb30 q2), q3, q4, rfl⟩
      · go_simp; refine hK _ _ (.of Bel) ?_; clear hK K
        have hS4 : SlA eT3 (W6.alloc (.cells #[.string r.f, .string r.t, .int .i64 r.n] 49)) (some ⟨W6.heap.size, 0, none⟩) [r] := SlA.new eT3 _ [r] _ _ rfl _ rfl
        refine tr_t rfl (fun K hK => ?_); go_simp; refine hK _ _ (.of Bel) ?_; clear hK K
        refine tr_t rfl (fun K hK => ?_); rw [if_pos (wanted_free rfl _)]; refine app_opA (E := eT3) (w0 := W6) _ _ 22 49 (.agg #[.string .empty, .string .empty, .int .i64 0]) 40 rfl rfl Tryd.underlying22 info_ruleH rfl (by decide) (by decide) (.slice (some ⟨W6.heap.size + 1, 0, none⟩) 0 0) [] xs A c hAc rfl rfl (litN12 eT3 W6.heap.size 49 (W6.alloc (.cells #[.string r.f, .string r.t, .int .i64 r.n] 49)) _ (by simp) (by simp)) (hsW.below Bel) Bel (by first | (simp; done) | (simp; omega)) ?_; intro v27 w27 HO27 hb27 hg27; have hk27 := kept12 (hS4.below (Bal (Below.refl _ _) _)) rfl hg27 (by simp [Value.ownBlock]); rw [List.nil_append] at HO27; refine hK _ _ (.of hb27) ?_; clear hK K
        refine tr_t rfl (fun K hK => ?_); rw [if_pos (wanted_free rfl _)]; refine app_op (E := eT3) (w0 := W6) _ _ 22 49 (.agg #[.string .empty, .string .empty, .int .i64 0]) 40 rfl rfl Tryd.underlying22 info_ruleH rfl (by decide) (by decide) _ xs [r] _ _ _ rfl rfl rfl HO27 hk27 hb27 (by first | (simp; done) | (simp; omega)) ?_; intro v30 w30 HO30 hb30 _ _; rw [HL.out] at HO30; obtain ⟨A30, c30, rfl, _, _, hs30⟩ := HO30.slv; refine hK _ _ (.of hb30) ?_; clear hK K
        refine tr_t rfl (fun K hK => ?_); go_simp
        refine (norm_c A30 c30 l w30 (hU.to (Bst hb0W hb30)) hs30 hsm).mono ?_
        rintro e w33 ⟨An, cn, ys, rn, rfl, q1, q2, q3, q4⟩
        go_simp
        refine hK _ _ (.of (Bst hb30 q2)) ?_; clear hK K
        repeat (refine tr_q rfl (fun K hK => ?_); unfold takeQ; go_simp; refine hK _ ?_; clear hK K)
        refine tr_nil ?_
        rw [noP_normal]
        exact ⟨_, _, _, A30, c30, An, cn, ys, rn, q1, Bst hW6 (Bst hb30 q2), q3, q4, rfl⟩
    rintro _ w6 ⟨v35, v37, v39, A40, c40, An, cn, ys, rn, hsn, hb46, hyl, hout, rfl⟩
    have hB6 := hB4.below hb46
    have hb06 := Bst hb04 hb46
    have hs6 := hs4.below hb46
    clear hB4 hs4
    rcases hout with ⟨q1, rfl, rfl⟩ | ⟨q1, zs, hN, hzl, ⟨q2, _, _⟩ | ⟨q2, rfl, rfl⟩⟩
    · have hb0 : (allR l != 0) = true := by simp [q1]
      go_wp2
      go_ret
      exact ⟨rfl, hb06⟩
    · omega
    · have hmem : ∀ x ∈ l, ∃ y ∈ ys, y.f = x.f ∧ y.t = x.t ∧ y.n ≤ x.n := fun x hx => nrm_le hN hx
      have hys : isE ys = 0 := hN.is q1 q2
      have hysm : Small ys := hN.small hzl hsm
      have hxl : ∀ x ∈ xs, x ∈ l := fun x hx => by rw [← HL.out]; exact List.mem_append.2 (.inl hx)
      have hrl : r ∈ l := by rw [← HL.out]; simp
      have HYS := Lib.hid hys
      obtain ⟨yr, hyr, hyf, hyt, hyn⟩ := hmem r hrl
      have hrule := fun h => rule12 hyr h
      rw [hyf, hyt] at hrule
      have HRULE := Lib.hid hrule
      clear hrule hys
      by_cases hx : isE xs = 0
      · obtain ⟨m1, m2⟩ := more12 hx HYS.out (fun x h => hmem x (hxl x h)) t v
        have HM1 := Lib.hid m1
        have HX := Lib.hid hx
        clear m1 hx hmem hxl
        go_wp2_with fail
        refine (is_c A c xs w6 (hU.to hb06) hs6 hm).mono ?_
        rintro e w7 ⟨rfl, hb7⟩
        rw [HX.out]
        have hb07 := Bst hb06 hb7
        go_wp2_with fail
        refine (pprice_c A c xs t v w7 (hU.to hb07) (hs6.below hb7) hm (by omega) (by omega)).mono ?_
        rintro e w8 ⟨rfl, hb8⟩
        have hb08 := Bst hb07 hb8
        have hsn8 := hsn.below (Bst hb7 hb8)
        rw [HM1.out]
        go_wp2_with fail
        refine (pprice_c An cn ys t v w8 (hU.to hb08) hsn8 hysm (by omega) (by omega)).mono ?_
        rintro e w9 ⟨rfl, hb9⟩
        have hb09 := Bst hb08 hb9
        have hsn9 := hsn8.below hb9
        have hB9 := hB6.below (Bst hb7 (Bst hb8 hb9))
        have y0 := hB9.cell 0
        have y1 := hB9.cell 1
        have y2 := hB9.cell 2
        simp at y0 y1 y2
        obtain ⟨ev, hev⟩ : ∃ z, prcE ys t v = z := ⟨_, rfl⟩
        obtain ⟨nv, hnv⟩ : ∃ z, prcV xs t v = z := ⟨_, rfl⟩
        obtain ⟨mv, hmv⟩ : ∃ z, prcV ys t v = z := ⟨_, rfl⟩
        rw [hev, hnv, hmv]
        have hle : ¬ (nv : Int) < (mv : Int) := by omega
        have C3 := pprice_c An cn ys r.f r.t w9 (hU.to hb09) hsn9 hysm (by omega) (by omega)
        have hrr : prcE ys r.f r.t ≠ 0 ∨ (prcE ys r.f r.t = 0 ∧ (prcV ys r.f r.t : Int) ≤ r.n) := by
          by_cases h : prcE ys r.f r.t = 0
          · have h9 := HRULE.out
            rw [← hyf, ← hyt] at h ⊢
            exact .inr ⟨h, by have := rule12 hyr h; omega⟩
          · exact .inl h
        obtain ⟨e2, he2⟩ : ∃ z, prcE ys r.f r.t = z := ⟨_, rfl⟩
        obtain ⟨k2, hk2⟩ : ∃ z, prcV ys r.f r.t = z := ⟨_, rfl⟩
        rw [he2, hk2] at C3 hrr
        clear he2 hk2 hev hnv hmv m2
        rcases hrr with h2 | ⟨rfl, h3⟩
        case' inl => have hb2 : (e2 != 0) = true := by simp [h2]
        all_goals
          by_cases h0 : ev = 0
          case' pos => subst h0
          case' neg => have hb1 : (ev == 0) = false := by simpa using h0
          all_goals
            go_wp2_with fail
            refine C3.mono ?_
            rintro e w10 ⟨rfl, hb10⟩
            have y2w := bkc hb10 y2
            go_wp2
            go_ret
            exact ⟨rfl, Bst hb09 hb10⟩
      · have hb0 : (isE xs != 0) = true := by simp [hx]
        clear hx
        go_wp2_with fail
        refine (is_c A c xs w6 (hU.to hb06) hs6 hm).mono ?_
        rintro e w7 ⟨rfl, hb7⟩
        go_wp2
        go_ret
        exact ⟨rfl, Bst hb06 hb7⟩
end Go.Proofs.YtmpoihejacklnaaDoor
