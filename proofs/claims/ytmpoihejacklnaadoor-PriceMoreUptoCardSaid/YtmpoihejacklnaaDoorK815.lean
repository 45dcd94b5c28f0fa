/- Parts of these proofs, one behind the other: Hm8, RegJ, Mht8. No condition. -/
import Derived.Test.YtmpoihejacklnaaDoorK812
import Derived.Test.YtmpoihejacklnaaDoorK814
import Derived.Test.YtmpoihejacklnaaDoorK810
import Derived.Test.YtmpoihejacklnaaDoorK813
/- The hits as the machine collects them, in plain Lean. No condition. -/
namespace Go.Proofs.YtmpoihejacklnaaDoor
open Go Go.RowKit
theorem flatMap_len {α β : Type} (f : α → List β) (n : Nat) : ∀ l : List α, (∀ x ∈ l, (f x).length ≤ n) → (l.flatMap f).length ≤ l.length * n
  | [], _ => by simp
  | x :: l, h => by
    have h1 := h x (by simp)
    have h2 := flatMap_len f n l fun y hy => h y (by simp [hy])
    rw [List.flatMap_cons, List.length_append, List.length_cons, Nat.succ_mul]
    omega
/-- What one state adds at a place. -/
def stH (fs T : List (List Int)) (i j : Nat) : List (Nat × Nat) := (rulesAt fs (pth T j)).map fun k => (i - (pth T j).length, k)
theorem stH_len (fs T : List (List Int)) (i j : Nat) : (stH fs T i j).length ≤ fs.length := by
  unfold stH rulesAt
  rw [List.length_map]
  exact Nat.le_trans (List.length_filter_le _ _) (by simp)
theorem fallN_len (bk : Nat → Nat) : ∀ k i, (fallN bk k i).length ≤ k
  | 0, _ => by simp [fallN]
  | k + 1, i => by
    unfold fallN
    have := fallN_len bk k (bk i)
    split
    · simp
    · simp only [List.length_cons]; omega
theorem chain_le {T : List (List Int)} {p s : List Int} (h : s ∈ chain T p) : s.length ≤ p.length := (chain_short _ p (Nat.le_refl _)).2 s h
theorem hitsAt_fall {fs T : List (List Int)} (hT : Trie T) {bk : Nat → Nat} (hB : Backs T bk) (u : List Int) (i i0 k0 : Nat) (h0 : T[i0]? = some (ls T u)) (hk : (ls T u).length < k0) : (fallN bk k0 i0).flatMap (stH fs T i) = hitsAt fs T u i := by
  have h1 := fall_chain hT hB k0 i0 (at_lt h0) (by rw [pth_at h0]; exact hk)
  unfold hitsAt
  rw [pth_at h0] at h1
  rw [← h1, List.flatMap_map]
  rfl
theorem fall_le {T : List (List Int)} (hT : Trie T) {bk : Nat → Nat} (hB : Backs T bk) {u : List Int} {i0 k0 : Nat} (h0 : T[i0]? = some (ls T u)) (hk : (ls T u).length < k0) {x : Nat} (hx : x ∈ fallN bk k0 i0) : x < T.length ∧ (pth T x).length ≤ u.length := by
  refine ⟨fall_mem (fun i hi => at_lt (hB i hi)) k0 i0 (at_lt h0) x hx, ?_⟩
  have h1 := fall_chain hT hB k0 i0 (at_lt h0) (by rw [pth_at h0]; exact hk)
  rw [pth_at h0] at h1
  have h2 : pth T x ∈ chain T (ls T u) := by rw [← h1]; exact List.mem_map.2 ⟨x, hx, rfl⟩
  exact Nat.le_trans (chain_le h2) (ls_suffix T u).length_le
/-- What has come ahead of a place. -/
def hitsU (fs T : List (List Int)) (l : List Int) (i : Nat) : List (Nat × Nat) := (List.range i).flatMap fun i => hitsAt fs T (l.take i) i
theorem hitsU_all (fs T : List (List Int)) (l : List Int) : hitsU fs T l (l.length + 1) = hitsP fs T l := rfl
theorem hitsU_succ (fs T : List (List Int)) (l : List Int) (i : Nat) : hitsU fs T l (i + 1) = hitsU fs T l i ++ hitsAt fs T (l.take i) i := by
  unfold hitsU; rw [List.range_succ, List.flatMap_append]; simp
theorem hitsAt_len {fs T : List (List Int)} (u : List Int) (i : Nat) (h : ∃ bk, Trie T ∧ Backs T bk) : (hitsAt fs T u i).length ≤ (u.length + 1) * fs.length := by
  obtain ⟨bk, hT, hB⟩ := h
  obtain ⟨i0, h0⟩ := List.mem_iff_getElem?.1 (ls_mem hT.mem u)
  have h2 := (ls_suffix T u).length_le
  rw [← hitsAt_fall hT hB u i i0 (u.length + 1) h0 (by omega)]
  refine Nat.le_trans (flatMap_len _ fs.length _ fun x _ => stH_len fs T i x) ?_
  exact Nat.mul_le_mul_right _ (fallN_len _ _ _)
theorem hitsU_len {fs T : List (List Int)} (l : List Int) (i : Nat) (h : ∃ bk, Trie T ∧ Backs T bk) : (hitsU fs T l i).length ≤ i * ((l.length + 1) * fs.length) := by
  unfold hitsU
  refine Nat.le_trans (flatMap_len _ ((l.length + 1) * fs.length) _ fun x _ => ?_) (by rw [List.length_range]; exact Nat.le_refl _)
  refine Nat.le_trans (hitsAt_len _ _ h) (Nat.mul_le_mul_right _ ?_)
  rw [List.length_take]; omega
/-- Marks of ranges over functions. -/
def Marks (n0 : Nat) (Ds : List Nat) (W : World) : Prop := Ds.Nodup ∧ ∀ D ∈ Ds, n0 ≤ D ∧ D < W.heap.size ∧ W.heap[D]? = some (.deferred (some []))
def dsOf (Ds : List Nat) : List Deferred := Ds.map fun D => { target := .collected D, args := #[] }
theorem Marks.nil (n0 : Nat) (W : World) : Marks n0 [] W := ⟨List.nodup_nil, by simp⟩
theorem Marks.others {n0 : Nat} {Ds : List Nat} {W W' : World} (h : Marks n0 Ds W) (k : KeepsOthers W W') : Marks n0 Ds W' := ⟨h.1, fun D hD => by
  obtain ⟨h1, h2, h3⟩ := h.2 D hD
  exact ⟨h1, Nat.lt_of_lt_of_le h2 k.size, k.same D _ h3 rfl⟩⟩
theorem Marks.grown {n0 : Nat} {Ds : List Nat} {W W' : World} {row : Option Nat} (h : Marks n0 Ds W) (hg : W.grownBy W' row) (hr : ∀ r, row = some r → r ∉ Ds) : Marks n0 Ds W' := ⟨h.1, fun D hD => by
  obtain ⟨h1, h2, h3⟩ := h.2 D hD
  exact ⟨h1, Nat.lt_of_lt_of_le h2 hg.size, (hg.block D h2 (fun e => hr D e.symm hD)).trans h3⟩⟩
theorem Marks.not_cells {n0 : Nat} {Ds : List Nat} {W : World} (h : Marks n0 Ds W) {r : Nat} {o : Obj} (ho : W.heap[r]? = some o) (hc : o.isCells = true) : r ∉ Ds := fun hr => by
  rw [(h.2 r hr).2.2] at ho
  injection ho with ho
  rw [← ho] at hc; cases hc
theorem Marks.below {n0 : Nat} {Ds : List Nat} {W W' : World} (h : Marks n0 Ds W) (k : Below W.heap.size W W') : Marks n0 Ds W' := ⟨h.1, fun D hD => by
  obtain ⟨h1, h2, h3⟩ := h.2 D hD
  exact ⟨h1, Nat.lt_of_lt_of_le h2 k.size, (k.block D h2).trans h3⟩⟩
/-- One mark more. -/
theorem Marks.cons {n0 : Nat} {Ds : List Nat} {W : World} {D : Nat} (h : Marks n0 Ds W) (hD : D ∉ Ds) (h0 : n0 ≤ D) (hk : W.heap[D]? = some (.deferred (some []))) : Marks n0 (D :: Ds) W :=
  ⟨List.nodup_cons.2 ⟨hD, h.1⟩, fun d hd => by
    rcases List.mem_cons.1 hd with rfl | hd
    · exact ⟨h0, (Array.getElem?_eq_some_iff.1 hk).1, hk⟩
    · exact h.2 d hd⟩
theorem marks_from {β : Type} (n0 : Nat) (Ds : List Nat) (B : Nat) (hB : ∀ D ∈ Ds, D < B) : OwnFrom B (fun (_ : β) W => Marks n0 Ds W) := fun _ _ _ row hs hg hr => hs.grown hg fun r e hd => by
  have := (hr r e).1
  have := hB r hd; omega
theorem Marks.leave {F : Fence} {n : Nat} {P : Program} {fn : Func} {tmps : Array Value} {R : Ending → World → Prop} {n0 : Nat} {Ds : List Nat} {W : World} (h : Marks n0 Ds W)
    (hR : ∀ W', Below n0 W W' → (∀ (k : Nat) (o : Obj), W.heap[k]? = some o → o.isCells = true → W'.heap[k]? = some o) → ∃ v, (results fn tmps).run P W' = .ok v W' ∧ R (.returned v) W') :
    LeavesInM F n P fn tmps R (dsOf Ds) .returning W := leaves_marks n0 Ds W h.1 (fun D hD => ⟨(h.2 D hD).1, (h.2 D hD).2.2⟩) hR
end Go.Proofs.YtmpoihejacklnaaDoor
/- A region that draws its order, in a round of a range over a function: a quiet head, a tail in one forced order. No condition. -/
namespace Go.Proofs.YtmpoihejacklnaaDoor
open Go Go.RowKit
theorem bkc {w W : World} (h : Below w.heap.size w W) {p : Addr} {v : Value} (hc : w.cell? p = some v) : W.cell? p = some v := (h.cell (World.block_lt_of_cell? w p hc)).trans hc
def noDefer : Oper → Bool
  | ⟨_, .defer _, _, _, _, _⟩ => false
  | _ => true
theorem noDefer_spec {o : Oper} (h : noDefer o = true) (c : Call) : o.op ≠ .defer c := fun e => by
  obtain ⟨d, op, t, p, af, g⟩ := o
  dsimp only at e
  subst e
  cases h
section
variable {P : Program} {ops : Array Oper} {md : Region.Mode} {C : World → Prop} {m lr : Nat}
theorem wpIn_quietR {o : Oper} {a : Act} {K : Act → Prop} {K' : Act → World → Prop} {Q' : Exit → Act → World → Prop} {w : World} (hnd : noDefer o = true) (hw : C w) (h : ∀ a w', C w' → K a → K' a w') (hh : o.quiet P a C K) : o.wpIn (Fence.wide.inRound lr) m P a w K' Q' := by
  obtain ⟨v, h1, h2⟩ := hh
  have h3 := h1 w hw
  unfold Oper.quietAt at h3
  unfold Oper.wpIn
  refine ⟨fun _ _ => trivial, ?_⟩
  rw [Oper.semAt_eq _ _ _ (noDefer_spec hnd)]
  generalize (execOp a.eval o).run P w = r at h3 ⊢
  cases r with
  | ok x w' =>
    cases x <;> simp only [Oper.quietUpon] at h3 <;> simp only [Oper.uponIn]
    case value u =>
      obtain ⟨e1, e2⟩ := h3
      rw [e1, e2]
      exact h _ _ hw h2
    case skip =>
      obtain ⟨e1, e2⟩ := h3
      rw [e1, ← e2]
      exact h _ _ hw h2
    case enter f args =>
      obtain ⟨e1, hc⟩ := h3
      rw [e1]
      refine ⟨fun e => (by cases e), (callsIn_wide (n := m - 1)).2 (hc.mono ?_)⟩
      rintro e w'' ⟨rfl, hw''⟩
      exact h _ _ hw'' h2
  | halt x w' => simp only [Oper.quietUpon] at h3
theorem wpOpIn_of_qOpR {i : Nat} {a : Act} {K : Act → Prop} {K' : Act → World → Prop} {Q' : Exit → Act → World → Prop} {w : World} (hnd : ∀ o, ops[i]? = some o → noDefer o = true) (hC : C w) (h : ∀ a w', C w' → K a → K' a w') (hh : qOp P ops C i K a) : wpOpIn (Fence.wide.inRound lr) m P ops Q' i K' a w := by
  unfold qOp at hh
  unfold wpOpIn
  cases ho : ops[i]? with
  | none => rw [ho] at hh; exact h _ _ hC hh
  | some o =>
    rw [ho] at hh
    dsimp only at hh ⊢
    split
    · rename_i hw; rw [if_pos hw] at hh; exact wpIn_quietR (hnd o ho) hC h hh
    · rename_i hw; rw [if_neg hw] at hh; exact ⟨fun _ _ => trivial, h _ _ hC hh⟩
theorem wpAnyIn_of_cR {n g : Nat} {L : Array Bool → Act → Prop} {Q' : Exit → Act → World → Prop} (hnd : ∀ (i : Nat) (o : Oper), ops[i]? = some o → noDefer o = true) (hL : ∀ listed a w, C w → L listed a → wpAnyIn (Fence.wide.inRound lr) m P md ops Q' g listed a w) :
    ∀ (f : Nat) (listed : Array Bool) (a : Act) (w : World), C w → wpAnyC P md ops C n L f listed a → wpAnyIn (Fence.wide.inRound lr) m P md ops Q' (f + g) listed a w
  | 0, listed, a, w, hw, h => by rw [Nat.zero_add]; exact hL _ _ _ hw h
  | f + 1, listed, a, w, hw, h => by
    rw [show f + 1 + g = (f + g) + 1 by omega]
    exact ⟨fun h0 => absurd h0 h.1, fun i hi => wpOpIn_of_qOpR (hnd i) hw (fun a' w' hw' h' => wpAnyIn_of_cR hnd hL f _ a' w' hw' h') (h.2 i hi).2⟩
theorem region_tailR {id : Nat} {Q : Exit → Act → World → Prop} {a : Act} {w : World} {l : List Oper} (n : Nat) (hm : P.follows .mixedOrders = true) (hB : (l.all noDefer && Region.lexTailB .any l.toArray n) = true) (C : World → Prop) (hC : C { w with drawn := w.drawn + 1 })
    (h : wpQuiet P l.toArray C (fun a' => ∀ W, C W → wpListIn (Fence.wide.inRound lr) m P l.toArray Q (l.drop n) a' W) (l.take n) a) : (Code.region id l.toArray true).wpIn (Fence.wide.inRound lr) m P Q a w := by
  refine wpIn_region_any hm ?_
  simp only [Region.lexTailB, Bool.and_eq_true, decide_eq_true_eq] at hB
  obtain ⟨hnd, ⟨⟨⟨hsel, hn⟩, hs⟩, hc⟩, hlex⟩ := hB
  have hn' : n < l.length := by simpa using hn
  have htl : (l.take n).length = n := by simp; omega
  have hdl : (l.drop n).length = l.toArray.size - n := by simp
  have hnd' : ∀ (i : Nat) (o : Oper), l.toArray[i]? = some o → noDefer o = true := fun i o ho => List.all_eq_true.1 hnd o (List.mem_of_getElem? (i := i) (by simpa using ho))
  have inv0 : HeadInv .any l.toArray n (Array.replicate l.toArray.size false) :=
    ⟨by simp, fun j oj _ hl => (by rw [getD_replicate_false] at hl; cases hl), fun t _ ht => getD_in (by simpa using ht) (getD_replicate_false _ _)⟩
  have H := wpAnyC_lex (md := .any) (g := l.toArray.size - n) hsel hs hc hn (l.take n) 0 _ a (fun j hj => by
    have hj' : j < n := by rw [htl] at hj; exact hj
    simp [hj']) (by simpa using htl) inv0 (by rw [htl]; exact hlex) h
  have := wpAnyIn_of_cR (m := m) (lr := lr) (Q' := Q) (g := l.toArray.size - n) hnd' (fun listed a' w' hw' hL => by
    have := wpAnyIn_of_seq (F := Fence.wide.inRound lr) (m := m) (md := .any) (Q' := Q) (l.drop n) n listed a' w' (fun j => by simp [List.getElem?_drop]) (by rw [hdl]; exact hL.1) (hL.2 w' hw')
    rwa [hdl] at this) _ _ _ _ hC H
  rw [htl, show n + (l.toArray.size - n) = l.toArray.size by omega] at this
  exact this
/-- Only what ends as it should. -/
def onlyN (Q : Exit → Act → World → Prop) : Exit → Act → World → Prop
  | .normal, a, w => Q .normal a w
  | .panic _, _, _ => False
  | .ret, _, _ => False
  | .exit _, _, _ => False
  | .goto _, _, _ => False
  | .outgrown, _, _ => False
theorem onlyN_normal {Q : Exit → Act → World → Prop} {a : Act} {w : World} : onlyN Q .normal a w = Q .normal a w := rfl
theorem wpIn_of_wpR {o : Oper} {a : Act} {w : World} {K K' : Act → World → Prop} {Q : Exit → Act → World → Prop} (hnd : noDefer o = true) (hK : ∀ a w, K a w → K' a w) (h : o.wp P a w K (onlyN Q)) : o.wpIn (Fence.wide.inRound lr) m P a w K' Q := by
  unfold Oper.wp at h
  unfold Oper.wpIn
  refine ⟨fun _ _ => trivial, ?_⟩
  rw [Oper.semAt_eq _ _ _ (noDefer_spec hnd)]
  generalize (execOp a.eval o).run P w = r at h ⊢
  cases r with
  | ok x w' =>
    cases x <;> simp only [Oper.upon] at h <;> simp only [Oper.uponIn]
    case value u => exact hK _ _ h
    case skip => exact hK _ _ h
    case defer d => exact hK _ _ h
    case enter f args =>
      refine ⟨fun e => (by cases e), (callsIn_wide (n := m - 1)).2 (h.mono ?_)⟩
      intro e w'' he
      cases e with
      | returned v => exact hK _ _ he
      | panicked c => exact he.elim
      | outgrown => obtain ⟨_, _, he⟩ := he; exact he.elim
    case row row args =>
      refine ⟨fun e => (by cases e), fun c cs _ => ?_⟩
      obtain ⟨v, w'', r, s⟩ := h c cs
      exact ⟨v, w'', hK _ _ r, stepsIn_wide.2 s⟩
  | halt x w' =>
    cases x <;> simp only [Oper.upon] at h
    case panic v => exact h.elim
theorem wpOpIn_of_wpOpR {i : Nat} {a : Act} {w : World} {K K' : Act → World → Prop} {Q : Exit → Act → World → Prop} (hnd : ∀ o, ops[i]? = some o → noDefer o = true) (hK : ∀ a w, K a w → K' a w) (h : wpOp P ops (onlyN Q) i K a w) : wpOpIn (Fence.wide.inRound lr) m P ops Q i K' a w := by
  unfold wpOp at h
  unfold wpOpIn
  cases ho : ops[i]? with
  | none => rw [ho] at h; exact hK _ _ h
  | some o =>
    rw [ho] at h
    dsimp only at h ⊢
    split
    · rename_i hw
      rw [if_pos hw] at h
      rcases h with h | ⟨_, _, _, h⟩
      · exact wpIn_of_wpR (hnd o ho) hK h
      · exact h.elim
    · rename_i hw; rw [if_neg hw] at h; exact ⟨fun _ _ => trivial, hK _ _ h⟩
theorem wpAnyIn_of_wpAny {Q : Exit → Act → World → Prop} (hnd : ∀ (i : Nat) (o : Oper), ops[i]? = some o → noDefer o = true) : ∀ (f : Nat) (listed : Array Bool) (a : Act) (w : World), wpAny P md ops (onlyN Q) f listed a w → wpAnyIn (Fence.wide.inRound lr) m P md ops Q f listed a w
  | 0, _, _, _, h => h
  | f + 1, _, _, _, h => ⟨h.1, fun i hi => wpOpIn_of_wpOpR (hnd i) (fun a w h => wpAnyIn_of_wpAny hnd f _ a w h) (h.2 i hi)⟩
theorem region_mixR {id : Nat} {Q : Exit → Act → World → Prop} {a : Act} {w : World} {l : List Oper} (S : List Nat) (n : Nat) (L : List (Nat × Bool)) (hm : P.follows .mixedOrders = true)
    (hB : (l.all noDefer && (Region.noSelect l.toArray && Region.sinkB .any l.toArray n && Region.chainB .any l.toArray n && decide (n < l.length) && decide (L.length = n) && mixB l.toArray n L (Array.replicate l.length false))) = true)
    (h : ∀ W, Below w.heap.size w W → wpSeqS P l.toArray W S (onlyN Q) (fun a' W' => wpList P l.toArray (onlyN Q) (l.drop n) a' W') L a W) : (Code.region id l.toArray true).wpIn (Fence.wide.inRound lr) m P Q a w := by
  have h := h w.drew (Below.refl _ w).drew
  simp only [Bool.and_eq_true, decide_eq_true_eq] at hB
  obtain ⟨hnd, ⟨⟨⟨⟨hsel, hs⟩, hc⟩, hn⟩, hl⟩, hB⟩ := hB
  have hnd' : ∀ (i : Nat) (o : Oper), l.toArray[i]? = some o → noDefer o = true := fun i o ho => List.all_eq_true.1 hnd o (List.mem_of_getElem? (i := i) (by simpa using ho))
  refine wpIn_region_any hm (wpAnyIn_of_wpAny hnd' _ _ _ _ ?_)
  have inv0 : HeadInv .any l.toArray n (Array.replicate l.length false) :=
    ⟨by simp, fun j oj _ hl => (by rw [getD_replicate_false] at hl; cases hl), fun t _ ht => getD_in (by simpa using ht) (getD_replicate_false _ _)⟩
  have h' := wpMix_of_seqS hsel (fun _ _ _ _ _ h => h.elim) hs hc (by simpa using hn) L _ a _ (.of (Kb.refl _ _)) inv0 hB h
  have h2 := wpAny_of_mix (g := l.length - n) (fun listed a' w' hL => by
    have := wpAny_of_seq (md := .any) (Q' := onlyN Q) (l.drop n) n listed a' w' (fun j => by simp [List.getElem?_drop]) (by rw [List.length_drop]; simpa using hL.1) hL.2
    rwa [List.length_drop] at this) _ _ _ _ h'
  rw [hl, show n + (l.length - n) = l.length by omega] at h2
  simpa using h2
end
end Go.Proofs.YtmpoihejacklnaaDoor
/- (*Machine).Hits walked. No condition. -/
namespace Go.Proofs.YtmpoihejacklnaaDoor
open Go Go.RowKit Go.Shelf
attribute [local go_sem] Oper.semAt_some
theorem own1_rowT {b n₀ sz : Nat} {A C : World} {e t : TypeId} {v : Value} {k : Nat} {xs : List Value} (h : Own1 b A C) (hr : A.ownsRow n₀ e sz v k xs) (hte : t ≠ e) (hb : ∃ u, Boxed A b t u) : C.ownsRow n₀ e sz v k xs := by
  obtain ⟨u, hu⟩ := hb
  refine hr.kept h.1 ?_
  rcases hr.2 with ⟨rfl, _⟩ | ⟨g, cap, cur, rfl, _, hg, _⟩
  · exact .inl rfl
  · refine .inr fun e' => ?_
    simp only [Value.ownBlock, Option.some.injEq] at e'
    subst e'
    rw [show A.heap[g]? = _ from hu] at hg
    injection hg with hg
    injection hg with _ hg
    exact hte hg
theorem info_mhit_parts : ∃ i, Tryd.prog.info? 118 = some i ∧ i.zero = some (.agg #[.int .i64 0, .int .i64 0]) ∧ i.size = 2 ∧ i.bytes = 16 := by
  have h : (Tryd.prog.info? 118).map (fun i => (i.zero, i.size, i.bytes)) = some (some (.agg #[.int .i64 0, .int .i64 0]), 2, 16) := by kernel_rfl
  obtain ⟨i, h1, h2⟩ := Option.map_eq_some_iff.1 h
  simp only [Prod.mk.injEq] at h2
  exact ⟨i, h1, h2.1, h2.2.1, h2.2.2⟩
theorem info_mhit : (Tryd.prog.info? 118).map (fun i => (i.zero, i.size, i.bytes)) = some (some (.agg #[.int .i64 0, .int .i64 0]), 2, 16) := by kernel_rfl
theorem Own.cellsKept {α : Type} {E : Enc α} {base : Nat} {e : TypeId} {w w' : World} {v : Value} {xs : List α} (h : Own E base e w v xs) (hk : ∀ (k : Nat) (o : Obj), w.heap[k]? = some o → o.isCells = true → w'.heap[k]? = some o) : Own E base e w' v xs := by
  obtain ⟨h1, h2⟩ := h
  refine ⟨h1, ?_⟩
  rcases h2 with h2 | ⟨g, cap, cur, rfl, hb, hg, h3⟩
  · exact .inl h2
  · exact .inr ⟨g, cap, cur, rfl, hb, hk g _ hg rfl, h3⟩
/-- The machine of rules, in memory. -/
def MM (w : World) (M : Nat) (fs : List (List Int)) : Prop :=
  ∃ base v N sts bk, MchP base w M v (statesT fs) N sts bk (fun j => rulesOf fs (pth (statesT fs) j)) ∧ Backs (statesT fs) bk ∧ (statesT fs).length ≤ 1073741824 ∧ fs.length ≤ 4096
theorem MM.below {w w' : World} {M : Nat} {fs : List (List Int)} (h : MM w M fs) (hb : Below w.heap.size w w') : MM w' M fs := by
  obtain ⟨base, v, N, sts, bk, h1, h2⟩ := h
  exact ⟨base, v, N, sts, bk, h1.below hb, h2⟩
/-- What holds at a place, ahead of its round. -/
structure OutI (w2 wr : World) (B0 : Nat) (fs T : List (List Int)) (l : List Int) (i q : Nat) (v : Value) (Ds : List Nat) : Prop where
  le : i ≤ l.length + 1
  at' : T[q]? = some (ls T (l.take (i - 1)))
  box : Boxed wr B0 114 v
  own : Own eH w2.heap.size 118 wr v (hitsU fs T l i)
  bel : Below w2.heap.size w2 wr
  mks : Marks w2.heap.size Ds wr
/-- What holds in a round, behind some states. -/
def InI (w2 : World) (B0 Bi Ba Bm M : Nat) (i : Nat) (hs : List (Nat × Nat)) (f : Nat → List (Nat × Nat)) (Ds : List Nat) (pre : List Nat) (W : World) : Prop :=
  Marks w2.heap.size Ds W ∧ (∃ v, Boxed W B0 114 v ∧ W.ownsRow w2.heap.size 118 2 v (hs ++ pre.flatMap f).length ((hs ++ pre.flatMap f).flatMap eH.e) ∧ True) ∧ Boxed W Bi 3 (.int .i64 i) ∧ (∃ u, Boxed W Ba 3 u) ∧ Boxed W Bm 111 (.pointer (some ⟨M, 0, none⟩)) ∧ Below w2.heap.size w2 W
theorem InI.from (w2 : World) (B0 Bi Ba Bm M : Nat) (i : Nat) (hs : List (Nat × Nat)) (f : Nat → List (Nat × Nat)) (Ds : List Nat) (B : Nat) (hB : w2.heap.size ≤ B) (hD : ∀ D ∈ Ds, D < B) : OwnFrom B (InI w2 B0 Bi Ba Bm M i hs f Ds) :=
  OwnFrom.and (marks_from _ Ds B hD) (OwnFrom.and (Go.Own.from (holdsRow_own w2.heap.size B0 114 118 2 (fun pre : List Nat => (hs ++ pre.flatMap f).length) (fun pre => (hs ++ pre.flatMap f).flatMap eH.e) (fun _ _ => True)) _)
    (OwnFrom.and (Go.Own.from (boxed_own Bi _ (fun _ => .int .i64 i)) _) (OwnFrom.and (fun s A C row ⟨u, hu⟩ hg hr => ⟨u, boxed_own Ba 3 (fun _ : List Nat => u) s A C row hu hg (fun r e => (hr r e).2)⟩) (OwnFrom.and (Go.Own.from (boxed_own Bm _ (fun _ => .pointer (some ⟨M, 0, none⟩))) _) (ownFrom_below (Nat.le_refl _) hB)))))
theorem InI.own1 {w2 : World} {B0 Bi Ba Bm M : Nat} {i : Nat} {hs : List (Nat × Nat)} {f : Nat → List (Nat × Nat)} {Ds : List Nat} {pre : List Nat} {A C : World} (h : InI w2 B0 Bi Ba Bm M i hs f Ds pre A) (ho : Own1 Ba A C) (h0 : B0 ≠ Ba) (hi : Bi ≠ Ba) (hm : Bm ≠ Ba) (ha : w2.heap.size ≤ Ba) : InI w2 B0 Bi Ba Bm M i hs f Ds pre C := by
  obtain ⟨h1, ⟨v, h2, h3, _⟩, h4, ⟨u, h5⟩, h7, h6⟩ := h
  refine ⟨h1.grown ho.1 (fun r e => by injection e with e; subst e; exact h1.not_cells h5 rfl), ⟨v, ho.boxed h2 h0, own1_rowT ho h3 (by decide) ⟨u, h5⟩, trivial⟩, ho.boxed h4 hi, ?_, ho.boxed h7 hm, h6.grown ho.1 h6.size (fun k e => by injection e with e; omega)⟩
  obtain ⟨_, t, x, x', q1, q2⟩ := ho
  have e : some (Obj.cells #[x] t (0, 0)) = some (Obj.cells #[u] 3 (0, 0)) := (show A.heap[Ba]? = _ from q1).symm.trans h5
  injection e with e
  injection e with _ e
  subst e
  exact ⟨x', q2⟩
/-- The same, the round's frame found by the walk of what assigns. -/
theorem rangeFunc_boxE {F : Fence} {n : Nat} {P : Program} {w : World} {α : Type} {g : Operand} {ps : Array Tmp} {assign body : Code} {Q : Exit → Act → World → Prop} {a : Act}
    (hro : F.round = none) (h1 : 1 ≤ n) {gf : Nat} {lb : Array Value} (hg : a.eval g = .func (.func gf) #[] lb) (hFg : F.fn gf) (eg : ∀ args w, (callFunc gf args).run P w = .ok (.enter gf args) w)
    {encs : α → Array Value} {b : Nat} {Kp : World → World → Prop} {S Sp : List α → Prop} {Ok : List α → α → Prop} (hseq : SeqBox F (n - 1) P gf lb encs b Kp S Sp Ok w) (hbx : ∃ t v, Boxed w b t v)
    (hKt : ∀ {A B C : World}, Kp A B → Kp B C → Kp A C) (hKb : ∀ (W : World) (l : Nat) (o o' : Obj), w.heap.size ≤ l → W.heap[l]? = some o → o.isCells = false → o.isWalk = false → Kp W (W.putObj l o')) (hps : ∀ x, (encs x).size = ps.size)
    (I : List α → World → Prop) (Ix : Code → List α → World → Prop) (hI : OwnFrom w.heap.size I) (hIx : ∀ c, OwnFrom w.heap.size (Ix c)) (hIb : ∀ s A B, I s A → Own1 b A B → I s B) (hIxb : ∀ c s A B, Ix c s A → Own1 b A B → Ix c s B) (h0 : I [] w)
    (hab : ∃ a₁ : α → Act, (∀ (l : Nat) (x : α) (W : World) (K : Act → World → Prop), K (a₁ x) W →
      assign.wpIn (F.inRound l) (n - 1 - 1) P (Exit.then K (fun _ _ _ => False)) { tmps := (ps.zip (encs x)).foldl (fun t (p, v) => t.setIfInBounds p v) a.tmps, defers := [] } W) ∧
      (∀ (l : Nat) (pre : List α) (x : α) (W : World), I pre W → Ok pre x → body.wpIn (F.inRound l) (n - 1 - 1) P (ownPostG w.heap.size Kp I Ix (pre ++ [x]) W) (a₁ x) W))
    (hdone : ∀ (D : Nat) (xs : List α) (W : World), w.heap.size ≤ D → S xs → I xs W → W.heap[D]? = some (.deferred (some [])) → Q .normal { a with defers := { target := .collected D, args := #[] } :: a.defers } W)
    (hstop : ∀ (D : Nat) (c : Code) (pre : List α) (W : World), w.heap.size ≤ D → Sp pre → Ix c pre W → W.heap[D]? = some (.deferred (some [])) → c.wpIn F n P Q { a with defers := { target := .collected D, args := #[] } :: a.defers } W) :
    (Code.rangeFunc g ps assign body).wpIn F n P Q a w := by
  obtain ⟨a₁, h1', h2⟩ := hab
  exact rangeFunc_box hro h1 hg hFg eg hseq hbx hKt hKb hps I Ix hI hIx hIb hIxb h0 a₁ h1' h2 hdone hstop
theorem cells_two_new (W : World) (a b : Value) (t : TypeId) : ∀ (j : Nat) (u : Value), [a, b][j]? = some u → (W.alloc (.cells #[a, b] t)).cell? ((⟨W.heap.size, 0, none⟩ : Addr).add j) = some u := by
  intro j u h
  rcases j with _ | _ | j
  · simp at h; subst h; simp [Addr.add]
  · simp at h; subst h; simp [Addr.add]
  · simp at h
theorem rulesOf_at (fs : List (List Int)) (p : List Int) (k : Nat) (h : k < (rulesOf fs p).length) : ∃ r : Nat, (rulesOf fs p)[k] = (r : Int) ∧ (rulesAt fs p)[k]? = some r := by
  unfold rulesOf at h ⊢
  rw [List.length_map] at h
  exact ⟨(rulesAt fs p)[k], by simp, List.getElem?_eq_getElem h⟩
theorem stH_take (fs T : List (List Int)) (i j k r : Nat) (h : (rulesAt fs (pth T j))[k]? = some r) : (stH fs T i j).take (k + 1) = (stH fs T i j).take k ++ [(i - (pth T j).length, r)] := by
  unfold stH
  rw [List.take_add_one, List.getElem?_map, h]; rfl
theorem stH_all (fs T : List (List Int)) (i j : Nat) : (stH fs T i j).take (rulesOf fs (pth T j)).length = stH fs T i j := by
  refine List.take_of_length_le ?_
  unfold stH rulesOf
  simp
set_option maxRecDepth 100000 in
set_option maxHeartbeats 4000000 in
theorem mhits_ok (s : ByteArray) (M : Nat) (fs : List (List Int)) (w : World) (hU : U w) (hM : MM w M fs) (hz : s.size ≤ 17592186044416) (h0 : tokE s = 0) :
    Calls Tryd.prog 52 #[.pointer (some ⟨M, 0, none⟩), .string s] w (HitPost 118 w fs s) := by
  obtain ⟨base, vm, N, sts, bk, hm, hB, hTl, hfl⟩ := hM
  obtain ⟨l, hd, hll⟩ := tokE_ok h0
  have HTE := Lib.hid (rfl : statesT fs = statesT fs)
  obtain ⟨T, hTe⟩ : ∃ T, statesT fs = T := ⟨_, rfl⟩
  have HTR : Hid (Trie T) := by show Trie T; rw [← hTe]; exact states_trie fs
  rw [hTe] at hm hB hTl
  have HT := Lib.hid hTe
  have H0 := Lib.hid h0
  have HD := Lib.hid hd
  have HBK := Lib.hid hB
  clear hTe h0 hd hB
  obtain ⟨i0, hi, hz0, hz1, hz2⟩ := info_mhit_parts
  refine (callsIn_wide (n := 5)).1 ?_
  refine callsIn_of_wp_marks Tryd.func52 rfl trivial ?_ rfl
  simp only [Tryd.ntmps52, List.size_toArray, List.length_cons, List.length_nil, Nat.reduceAdd, Nat.reduceSub, Array.replicate_succ, Array.replicate_zero, List.push_toArray, List.append_toArray, List.nil_append, List.cons_append]
  gi_wp2_with (refine ⟨trivial, ?_⟩; gi_at_call 75; refine (callsIn_wide.2 (token_c s _ hU hz)).mono ?_; rintro e w2 ⟨hb2, ht, _⟩; obtain ⟨v2, l2, hl2, rfl, hO2⟩ := ht H0.out; obtain rfl : l = l2 := (by rw [HD.out] at hl2; injection hl2); clear ht hl2; obtain ⟨A2, c2, rfl, hv1, hv2, hA2⟩ := hO2.slv)
  refine wpIn_loop (fun a wr => ∃ (u9 u10 u27 u28 u29 u30 u31 u32 u33 u34 u35 u36 u37 u38 u39 u40 u41 u42 u65 : Value) (ds : List Deferred), (∃ (i q : Nat) (v : Value) (Ds : List Nat), u9 = .int .i64 q ∧ u27 = .int .i64 i ∧ ds = dsOf Ds ∧ OutI w2 wr w2.heap.size fs T l i q v Ds) ∧ a = { tmps := #[.pointer (some ⟨M, 0, none⟩), .string s, undef, undef, .slice none 0 0, .int .i64 0, .slice A2 l.length c2, .int .i64 0, .pointer (some ⟨w2.heap.size, 0, none⟩), u9, u10, undef, undef, undef, .pointer (some ⟨M, 0, none⟩), .bool false, .tuple #[.slice A2 l.length c2, .int .i64 0], .string s, .tuple #[.slice A2 l.length c2, .int .i64 0], .slice A2 l.length c2, .int .i64 0, .int .i64 0, .bool false, undef, .slice A2 l.length c2, .int .i64 l.length, .int .i64 (l.length + 1), u27, u28, u29, u30, u31, u32, u33, u34, u35, u36, u37, u38, u39, u40, u41, u42, undef, undef, undef, undef, undef, undef, undef, undef, undef, undef, undef, undef, undef, undef, undef, undef, undef, undef, undef, undef, undef, undef, u65, undef, undef, undef], defers := ds }) (fun a _ => l.length + 1 - (intOf (a.tmps.getD 27 undef)).toNat) ?start ?round
  case start =>
    (repeat apply Exists.intro)
    refine ⟨⟨0, 0, .slice none 0 0, [], rfl, rfl, rfl, by omega, ?_, Boxed.new _ _ _, Own.nil _, Bel, Marks.nil _ _⟩, rfl⟩
    exact HTR.out.root
  case round =>
    rintro _ wo ⟨u9, u10, u27, u28, u29, u30, u31, u32, u33, u34, u35, u36, u37, u38, u39, u40, u41, u42, u65, ds, ⟨i, q, v, Ds, rfl, rfl, rfl, hI⟩, rfl⟩
    by_cases hil : i ≤ l.length
    · have hlt : (i : Int) < l.length + 1 := by omega
      have HM2 : Hid (MchP base w2 M vm T N sts bk fun j => rulesOf fs (pth T j)) := hm.below hb2
      have hbW : Below w2.heap.size w2 wo := hI.bel
      have hW0 : Below w2.heap.size w2 (wo.alloc (.cells #[.int .i64 i] 3)) := hbW.alloc hbW.size _
      have hB0 : Boxed (wo.alloc (.cells #[.int .i64 i] 3)) wo.heap.size 3 (.int .i64 i) := Boxed.new _ _ _
      have hbc0 : Below wo.heap.size wo (wo.alloc (.cells #[.int .i64 i] 3)) := Bel
      rcases Nat.eq_zero_or_pos i with h0 | h0
      · have hQ2 : Hid (T[q]? = some (ls T (l.take i))) := by show _ = _; rw [hI.at', h0]
        have h1 : ¬ (0 : Int) < i := by omega
        clear h0
        gi_wp2_with fail
        obtain ⟨q2, hq2⟩ : ∃ q2, q = q2 := ⟨_, rfl⟩
        generalize wo.alloc (.cells #[.int .i64 i] 3) = wc at hW0 hB0 hbc0 ⊢
        rw [hq2] at hQ2 ⊢
        refine ⟨trivial, ?_⟩
        refine (ends_c _ trivial rfl _ _ _ _).mono ?_
        rintro e w1 ⟨rfl, rfl⟩
        have hm2 := HM2.out
        obtain ⟨gS, capS, hvS, hF⟩ := hm2.falls HTR.out HBK.out
        have hqT := hQ2.out
        have hql := at_lt hqT
        have hqp : (pth T q2).length < l.length + 1 := by
          have h2 := (ls_suffix T (l.take i)).length_le
          rw [List.length_take] at h2
          rw [pth_at hqT]; omega
        have hsz := hbW.size
        have hszc := hbc0.size
        have bM : Boxed ((wc.alloc (.cells #[.pointer (some ⟨M, 0, none⟩)] 111)).alloc (.cells #[.int .i64 q2] 3)) wc.heap.size 111 (.pointer (some ⟨M, 0, none⟩)) := (Boxed.new _ _ _).alloc _
        have bA : Boxed ((wc.alloc (.cells #[.pointer (some ⟨M, 0, none⟩)] 111)).alloc (.cells #[.int .i64 q2] 3)) (wc.heap.size + 1) 3 (.int .i64 q2) := by
          have := Boxed.new (wc.alloc (.cells #[.pointer (some ⟨M, 0, none⟩)] 111)) 3 (.int .i64 q2)
          rwa [World.size_alloc] at this
        have hbl1 : Below wc.heap.size wc ((wc.alloc (.cells #[.pointer (some ⟨M, 0, none⟩)] 111)).alloc (.cells #[.int .i64 q2] 3)) := Bel
        generalize (wc.alloc (.cells #[.pointer (some ⟨M, 0, none⟩)] 111)).alloc (.cells #[.int .i64 q2] 3) = w1 at bM bA hbl1 ⊢
        have hsz1 := hbl1.size
        have hbr1 : Below wo.heap.size wo w1 := hbc0.trans (hbl1.mono hszc)
        have hb1 : Below w2.heap.size w2 w1 := hbW.trans (hbr1.mono hsz)
        have hB01 : Boxed w1 w2.heap.size 114 v := (hbr1.block _ hI.box.lt).trans hI.box
        have hBi1 : Boxed w1 wo.heap.size 3 (.int .i64 i) := (hbl1.block _ hB0.lt).trans hB0
        have hO1 : Own eH w2.heap.size 118 w1 v (hitsU fs T l i) := hI.own.below hbr1
        have hmk1 : Marks w2.heap.size Ds w1 := hI.mks.below hbr1
        have hB0r := hI.box.lt
        have hAl := bA.lt
        have hDs : ∀ D ∈ Ds, D < wo.heap.size := fun D hD => (hI.mks.2 D hD).2.1
        gi_wp2_with fail
        refine rangeFunc_boxE rfl (by omega) (gf := 98) (lb := #[.pointer (some ⟨wc.heap.size, 0, none⟩), .pointer (some ⟨wc.heap.size + 1, 0, none⟩)]) rfl trivial (enters_of Tryd.func98 (by kernel_rfl) rfl)
          (b := wc.heap.size + 1) (ends_stops (5 - 1) (by omega) wc.heap.size (wc.heap.size + 1) M gS capS T bk w2 w1 hF q2 (l.length + 1) hql hqp hb1 (by omega) (by omega) bA bM) ⟨_, _, bA⟩ Kp2.trans
          (fun W l o o' h1 h2 h3 h4 => ⟨belowK_b hb1.size W l o o' h1 h2 h3 h4, by simp, fun _ => World.putObj_heap_other (by omega), fun _ => World.putObj_heap_other (by omega)⟩) (fun _ => rfl)
          (InI w2 w2.heap.size wo.heap.size (wc.heap.size + 1) wc.heap.size M i (hitsU fs T l i) (stH fs T i) Ds) (fun _ _ _ => False) (InI.from _ _ _ _ _ _ _ _ _ _ _ hb1.size (fun D hD => by have := hDs D hD; omega)) (fun _ _ _ _ _ h _ _ => h.elim)
          (fun s A C h ho => h.own1 ho (by omega) (by omega) (by omega) (by omega)) (fun _ _ _ _ h _ => h.elim) ⟨hmk1, ⟨v, hB01, by simp only [List.flatMap_nil, List.append_nil]; exact hO1, trivial⟩, hBi1, ⟨_, bA⟩, bM, hb1⟩ ?ab ?done ?stop
        case stop => exact fun _ _ _ _ _ _ h _ => h.elim
        case ab =>
          apply Exists.intro
          refine ⟨?assign, ?body⟩
          case assign =>
            intro l' x W K hK
            gi_wp2
            exact hK
          case body =>
            rintro l' pre x W ⟨hmk, ⟨v1, hv1b, hrow, _⟩, hBi2, ⟨u, hAx⟩, hMx, hbW1⟩ ⟨qq, hqq⟩
            obtain ⟨hxl, hxp⟩ := fall_le HTR.out HBK.out hqT (by rw [pth_at hqT] at hqp; exact hqp) (x := x) (by rw [hqq]; simp)
            rw [List.length_take] at hxp
            obtain ⟨g, cap, m, A, ln, c, hvm, _, _, hgl, _, _, r2, r3, _, hrx, _⟩ := hm2.read x hxl
            obtain rfl : gS = g := by rw [hvS] at hvm; injection hvm with e _ _; injection e with e; injection e with e _
            obtain ⟨R, hR⟩ : ∃ R, rulesOf fs (pth T x) = R := ⟨_, rfl⟩
            have hrx2 : Own (eInt .i64) base 3 w2 (.slice A ln c) R := by rw [← hR]; exact hrx
            obtain ⟨A', c', hve, hln, hlc, hRx⟩ := hrx2.slv
            injection hve with e1 e2 e3
            subst e1; subst e2; subst e3
            obtain ⟨pl, hpl⟩ : ∃ pl, (pth T x).length = pl := ⟨_, rfl⟩
            rw [hpl] at r2 hxp
            have HST := Lib.hid (stH_take fs T i x)
            have HSA := Lib.hid (stH_all fs T i x)
            have HRA := Lib.hid (rulesOf_at fs (pth T x))
            have HSL := Lib.hid (stH_len fs T i x)
            have HRL := Lib.hid (rulesOf_len fs (pth T x))
            rw [hpl] at HST
            have HPL := Lib.hid hpl
            rw [hR] at HRA HSA HRL
            have HR := Lib.hid hR
            have hRl := HRL.out
            clear hpl hR
            have y2 := (hbW1.cell (p := ⟨gS, x * 4 + 2, none⟩) hgl).trans r2
            have y3 := (hbW1.cell (p := ⟨gS, x * 4 + 3, none⟩) hgl).trans r3
            have hbase : Hid ((hitsU fs T l i ++ pre.flatMap (stH fs T i)).length ≤ 268435456) := by
              show _ ≤ _
              have q1 := hitsU_len (fs := fs) (T := T) l i ⟨bk, HTR.out, HBK.out⟩
              have q6 := flatMap_len (stH fs T i) fs.length pre fun y _ => stH_len fs T i y
              have q3 := fallN_len bk (l.length + 1) q2
              rw [hqq, List.length_append] at q3
              have q4 : i * ((l.length + 1) * fs.length) ≤ 64 * (65 * 4096) := Nat.mul_le_mul (by omega) (Nat.mul_le_mul (by omega) hfl)
              have q5 : pre.length * fs.length ≤ 65 * 4096 := Nat.mul_le_mul (by omega) hfl
              rw [List.length_append]; omega
            have hf0 := hv1b.frozen
            obtain ⟨H, hH⟩ : ∃ H, hitsU fs T l i ++ pre.flatMap (stH fs T i) = H := ⟨_, rfl⟩
            obtain ⟨SX, hSX⟩ : ∃ SX, stH fs T i x = SX := ⟨_, rfl⟩
            rw [hH] at hrow hbase
            rw [hSX] at HST HSA HSL
            have HH : Hid (hitsU fs T l i ++ (pre ++ [x]).flatMap (stH fs T i) = H ++ SX) := by show _ = _; rw [List.flatMap_append, ← List.append_assoc, hH]; simp [hSX]
            clear hH hSX
            gi_wp2
            gi_loopw [49] (fun sk wi => ∃ (k : Nat) (v3 : Value), sk = .int .i64 k ∧ k ≤ R.length ∧ Boxed wi w2.heap.size 114 v3 ∧ wi.ownsRow w2.heap.size 118 2 v3 (H ++ SX.take k).length ((H ++ SX.take k).flatMap eH.e) ∧ Boxed wi wo.heap.size 3 (.int .i64 i) ∧ KeepsOthers W wi ∧ Kp2 w2.heap.size (wc.heap.size + 1) wc.heap.size W wi) (fun sk _ => R.length - (intOf sk).toNat)
            case atStart => exact ⟨0, v1, rfl, by omega, hv1b, by simpa using hrow, hBi2, KeepsOthers.refl _, ⟨Below.refl _ _, Nat.le_refl _, fun _ => rfl, fun _ => rfl⟩⟩
            case round =>
              obtain ⟨k, v3, rfl, hkl, hv3, hrow3, hBi3, hko, hkp⟩ := hrel
              by_cases hkR : k < R.length
              · have hkR' : (k : Int) < R.length := by omega
                obtain ⟨r, hRr, hra⟩ := HRA.out k hkR
                obtain ⟨Y, hY⟩ : ∃ Y, H ++ SX.take k = Y := ⟨_, rfl⟩
                rw [hY] at hrow3
                have hbw : Below w2.heap.size w2 wr := hbW1.trans hkp.1
                obtain ⟨bR, oR, rfl, y4⟩ := hRx.at1 (fun _ => rfl) hbw k hkR
                have y5 := (hbw.cell (p := ⟨gS, x * 4 + 2, none⟩) hgl).trans r2
                have z1 := hv3.cell
                have z2 := hBi3.cell
                rw [hRr] at y4
                have HTK : Hid (H ++ SX.take (k + 1) = Y ++ [(i - pl, r)]) := by show _ = _; rw [HST.out k r hra, ← List.append_assoc, hY]
                have hrB : Hid ((r : Int) < 4096 ∧ Y.length + 1 ≤ 268500000) := by
                  show _ ∧ _
                  have h1 := at_lt ((rulesAt_mem).1 (List.mem_of_getElem? hra))
                  have h2 := hbase.out
                  have h3 := HSL.out
                  rw [← hY, List.length_append, List.length_take]
                  omega
                clear hra hRr hY
                have hwd : IntKind.i64.wrap ((i : Int) - (pl : Int)) = ((i - pl : Nat) : Int) := by rw [IntWalk.i64_in _ (by omega)]; omega
                gi_wp2_with fail
                obtain ⟨S, hS⟩ : ∃ S, v3.ownBlock.toList = S := ⟨_, rfl⟩
                have hSm : ∀ b, b ∈ S → v3.ownBlock = some b := fun b hb => by rw [← hS] at hb; simpa using hb
                have hSr : Hid (∀ b, v3.ownBlock = some b → b ∈ S) := fun b hb => by rw [← hS, hb]; simp
                have hS0 : w2.heap.size ∉ S := fun h => hv3.not_row (by decide) hrow3 (hSm _ h).symm
                have hSi : wo.heap.size ∉ S := fun h => hBi3.not_row (by decide) hrow3 (hSm _ h).symm
                have hSg : gS ∉ S := fun h => by
                  have h1 := (World.ownsRow.lt hrow3 gS (hSm _ h)).1
                  omega
                have HSM := Lib.hid hSm
                clear hS hSm
                refine region_mixR S 11 [(0, true), (1, true), (2, true), (3, true), (4, true), (5, true), (6, true), (7, true), (8, true), (9, false), (10, false)] (by kernel_rfl) (by kernel_rfl) ?_
                intro W4 hW4
                have q1 := bkc hW4 z1
                have q2' := bkc hW4 z2
                have q3 := bkc hW4 y5
                have hv4 : Boxed W4 w2.heap.size 114 v3 := (hW4.block _ hv3.lt).trans hv3
                have hO4 : Own eH w2.heap.size 118 W4 v3 Y := Own.below hrow3 hW4
                have hb4 : Below w2.heap.size w2 W4 := hbw.trans (hW4.mono hbw.size)
                have hlen := hrB.out.2
                clear z1 z2 y4 y5
                repeat (refine sS_q rfl (fun K hK => ?_); unfold takeS; go_simp; refine hK _ ?_; clear hK K)
                refine sS_t rfl (fun K hK => ?_); go_simp; refine hK _ _ (.of ((Kb.below ((Below.refl _ _).alloc (Nat.le_refl _) _)).weak (by simp))) ?_; clear hK K
                refine sS_t rfl (fun K hK => ?_); rw [if_pos (wanted_free rfl _)]; refine app_op (E := eH) (w0 := w2) _ _ 114 118 (.agg #[.int .i64 0, .int .i64 0]) 16 rfl rfl Tryd.underlying114 info_mhit rfl (by decide) (by decide) v3 Y [(i - pl, r)] ⟨_, 0, none⟩ 1 1 rfl rfl rfl (hO4.alloc _) (SlA.new eH _ _ _ _ (by simp) _ rfl) (hb4.alloc hb4.size _) (by simp; omega) ?_
                intro v5 w5 HO5 hb5 hg5 hmv5
                have k5 : Kb W4 w5 S := ((Kb.below ((Below.refl W4.heap.size W4).alloc (Nat.le_refl _) _)).trans (Kb.row hg5 hSr.out)).weak (by simp)
                refine hK _ _ (.of k5) ?_; clear hK K
                obtain ⟨g5, cap5, rfl, _⟩ := HO5.form (by simp)
                obtain ⟨hv5, hv6, hr6, hk6, hb6⟩ := hv4.appended (by decide) hO4 hb4.size (Nat.le_refl _) HO5 hg5
                have hY1 : (Y ++ [(i - pl, r)]).length = Y.length + 1 := by simp
                rw [hY1] at hv6 hr6 hk6 hb6
                have hc5 := hv5.cell
                have hf5 := hv5.frozen
                refine sS_nil ?_
                go_wp2
                rw [onlyN_normal]
                gi_wp2
                have keep : ∀ (B : Nat) (t : TypeId) (z : Value), t ≠ 118 → B ≠ w2.heap.size → Boxed wr B t z → Boxed (w5.setCell ⟨w2.heap.size, 0, none⟩ (.slice (some ⟨g5, 0, none⟩) (Y.length + 1) cap5)) B t z := fun B t z ht hne hB => by
                  have hBd : Boxed W4 B t z := (hW4.block _ hB.lt).trans hB
                  exact ((hBd.alloc _).kept hg5 (hBd.not_row ht hO4)).other hne _
                have hA3 : Boxed wr (wc.heap.size + 1) 3 u := (hkp.2.2.1 hAx.lt).trans hAx
                have hM3 : Boxed wr wc.heap.size 111 (.pointer (some ⟨M, 0, none⟩)) := (hkp.2.2.2 hMx.lt).trans hMx
                have hwk : KeepsOthers wr W4 := ⟨hW4.size, fun j o h _ => (hW4.block j (Array.getElem?_eq_some_iff.1 h).1).trans h⟩
                refine ⟨⟨k + 1, _, by go_num, by omega, hv6, ?_, keep _ _ _ (by decide) (by omega) hBi3, hko.trans (hwk.trans hk6), hkp.trans ⟨(hW4.mono hbw.size).trans hb6, Nat.le_trans hW4.size hb6.size, fun _ => ?_, fun _ => ?_⟩⟩, by simp [intOf]; omega⟩
                · rw [HTK.out, hY1]; exact hr6
                · exact (keep _ _ _ (by decide) (by omega) hA3).trans hA3.symm
                · exact (keep _ _ _ (by decide) (by omega) hM3).trans hM3.symm
              · have hke : k = R.length := by omega
                have hkR' : ¬ (k : Int) < R.length := by omega
                subst hke
                rw [HSA.out] at hrow3
                gi_wp2
                have hM3 : Boxed wr wc.heap.size 111 (.pointer (some ⟨M, 0, none⟩)) := (hkp.2.2.2 hMx.lt).trans hMx
                refine ⟨hko.from _, hkp, hmk.others hko, ⟨v3, hv3, ?_, trivial⟩, hBi3, ⟨u, (hkp.2.2.1 hAx.lt).trans hAx⟩, hM3, hbW1.trans hkp.1⟩
                rw [HH.out]; exact hrow3
        case done =>
          rintro D ys W hD rfl hIW hK
          obtain ⟨hmk, ⟨v1, hv1b, hrow, _⟩, _, _, _, hbW1⟩ := hIW
          rw [hitsAt_fall HTR.out HBK.out (l.take i) i q2 (l.length + 1) hqT (by rw [pth_at hqT] at hqp; exact hqp), ← hitsU_succ] at hrow
          have hmk2 : Marks w2.heap.size (D :: Ds) W := hmk.cons (fun h => by have := hDs D h; omega) (by omega) hK
          have hq3 : T[q2]? = some (ls T (l.take (i + 1 - 1))) := hqT
          have HI3 : Hid (OutI w2 W w2.heap.size fs T l (i + 1) q2 v1 (D :: Ds)) := ⟨by omega, hq3, hv1b, hrow, hbW1, hmk2⟩
          clear hrow hmk hmk2 hv1b hq3 hF bM bA hb1 hB01 hBi1 hO1 hmk1 hbr1
          gi_wp2
          refine ⟨?_, ?_⟩
          · (repeat apply Exists.intro)
            refine ⟨?_, rfl⟩
            exact ⟨i + 1, q2, v1, D :: Ds, rfl, by go_num, rfl, HI3.out⟩
          · simp [intOf]; omega
      · have hQ0 := Lib.hid hI.at'
        have h1 : (0 : Int) < i := by omega
        have hi1 : ((i - 1 : Nat) : Int) < l.length := by omega
        obtain ⟨ba, oa, rfl, x1⟩ := hA2.at1 (fun _ => rfl) hW0 (i - 1) (by omega)
        clear h0
        gi_wp2_with fail
        refine ⟨trivial, ?_⟩
        refine (callsIn_wide.2 (step_c base M vm T N sts bk _ _ (HM2.out.below hW0) HTR.out l.length (fun j hj _ => HBK.out j hj) (by omega) q _ hQ0.out (Nat.le_trans (ls_suffix T _).length_le (by rw [List.length_take]; omega)) l[i - 1] (by
          have := decS_isR HD.out l[i - 1] (List.getElem_mem _)
          unfold IsR at this
          simp [Lit.wf, show IntKind.i32.min = -2147483648 from rfl, show IntKind.i32.max = 2147483647 from rfl]; omega))).mono ?_
        rintro e wc ⟨q2, rfl, hq2, hb3⟩
        rw [← ls_step HTR.out, show l.take (i - 1) ++ [l[i - 1]] = l.take i from by
          have := List.take_append_getElem (l := l) (i := i - 1) (by omega)
          rw [this, show i - 1 + 1 = i by omega]] at hq2
        have hQ2 := Lib.hid hq2
        replace hB0 : Boxed wc wo.heap.size 3 (.int .i64 i) := (hb3.block _ hB0.lt).trans hB0
        replace hbc0 : Below wo.heap.size wo wc := hbc0.trans (hb3.mono (by simp))
        clear hq2 hb3 hQ0 x1
        gi_wp2_with fail
        refine ⟨trivial, ?_⟩
        refine (ends_c _ trivial rfl _ _ _ _).mono ?_
        rintro e w1 ⟨rfl, rfl⟩
        have hm2 := HM2.out
        obtain ⟨gS, capS, hvS, hF⟩ := hm2.falls HTR.out HBK.out
        have hqT := hQ2.out
        have hql := at_lt hqT
        have hqp : (pth T q2).length < l.length + 1 := by
          have h2 := (ls_suffix T (l.take i)).length_le
          rw [List.length_take] at h2
          rw [pth_at hqT]; omega
        have hsz := hbW.size
        have hszc := hbc0.size
        have bM : Boxed ((wc.alloc (.cells #[.pointer (some ⟨M, 0, none⟩)] 111)).alloc (.cells #[.int .i64 q2] 3)) wc.heap.size 111 (.pointer (some ⟨M, 0, none⟩)) := (Boxed.new _ _ _).alloc _
        have bA : Boxed ((wc.alloc (.cells #[.pointer (some ⟨M, 0, none⟩)] 111)).alloc (.cells #[.int .i64 q2] 3)) (wc.heap.size + 1) 3 (.int .i64 q2) := by
          have := Boxed.new (wc.alloc (.cells #[.pointer (some ⟨M, 0, none⟩)] 111)) 3 (.int .i64 q2)
          rwa [World.size_alloc] at this
        have hbl1 : Below wc.heap.size wc ((wc.alloc (.cells #[.pointer (some ⟨M, 0, none⟩)] 111)).alloc (.cells #[.int .i64 q2] 3)) := Bel
        generalize (wc.alloc (.cells #[.pointer (some ⟨M, 0, none⟩)] 111)).alloc (.cells #[.int .i64 q2] 3) = w1 at bM bA hbl1 ⊢
        have hsz1 := hbl1.size
        have hbr1 : Below wo.heap.size wo w1 := hbc0.trans (hbl1.mono hszc)
        have hb1 : Below w2.heap.size w2 w1 := hbW.trans (hbr1.mono hsz)
        have hB01 : Boxed w1 w2.heap.size 114 v := (hbr1.block _ hI.box.lt).trans hI.box
        have hBi1 : Boxed w1 wo.heap.size 3 (.int .i64 i) := (hbl1.block _ hB0.lt).trans hB0
        have hO1 : Own eH w2.heap.size 118 w1 v (hitsU fs T l i) := hI.own.below hbr1
        have hmk1 : Marks w2.heap.size Ds w1 := hI.mks.below hbr1
        have hB0r := hI.box.lt
        have hAl := bA.lt
        have hDs : ∀ D ∈ Ds, D < wo.heap.size := fun D hD => (hI.mks.2 D hD).2.1
        gi_wp2_with fail
        refine rangeFunc_boxE rfl (by omega) (gf := 98) (lb := #[.pointer (some ⟨wc.heap.size, 0, none⟩), .pointer (some ⟨wc.heap.size + 1, 0, none⟩)]) rfl trivial (enters_of Tryd.func98 (by kernel_rfl) rfl)
          (b := wc.heap.size + 1) (ends_stops (5 - 1) (by omega) wc.heap.size (wc.heap.size + 1) M gS capS T bk w2 w1 hF q2 (l.length + 1) hql hqp hb1 (by omega) (by omega) bA bM) ⟨_, _, bA⟩ Kp2.trans
          (fun W l o o' h1 h2 h3 h4 => ⟨belowK_b hb1.size W l o o' h1 h2 h3 h4, by simp, fun _ => World.putObj_heap_other (by omega), fun _ => World.putObj_heap_other (by omega)⟩) (fun _ => rfl)
          (InI w2 w2.heap.size wo.heap.size (wc.heap.size + 1) wc.heap.size M i (hitsU fs T l i) (stH fs T i) Ds) (fun _ _ _ => False) (InI.from _ _ _ _ _ _ _ _ _ _ _ hb1.size (fun D hD => by have := hDs D hD; omega)) (fun _ _ _ _ _ h _ _ => h.elim)
          (fun s A C h ho => h.own1 ho (by omega) (by omega) (by omega) (by omega)) (fun _ _ _ _ h _ => h.elim) ⟨hmk1, ⟨v, hB01, by simp only [List.flatMap_nil, List.append_nil]; exact hO1, trivial⟩, hBi1, ⟨_, bA⟩, bM, hb1⟩ ?ab ?done ?stop
        case stop => exact fun _ _ _ _ _ _ h _ => h.elim
        case ab =>
          apply Exists.intro
          refine ⟨?assign, ?body⟩
          case assign =>
            intro l' x W K hK
            gi_wp2
            exact hK
          case body =>
            rintro l' pre x W ⟨hmk, ⟨v1, hv1b, hrow, _⟩, hBi2, ⟨u, hAx⟩, hMx, hbW1⟩ ⟨qq, hqq⟩
            obtain ⟨hxl, hxp⟩ := fall_le HTR.out HBK.out hqT (by rw [pth_at hqT] at hqp; exact hqp) (x := x) (by rw [hqq]; simp)
            rw [List.length_take] at hxp
            obtain ⟨g, cap, m, A, ln, c, hvm, _, _, hgl, _, _, r2, r3, _, hrx, _⟩ := hm2.read x hxl
            obtain rfl : gS = g := by rw [hvS] at hvm; injection hvm with e _ _; injection e with e; injection e with e _
            obtain ⟨R, hR⟩ : ∃ R, rulesOf fs (pth T x) = R := ⟨_, rfl⟩
            have hrx2 : Own (eInt .i64) base 3 w2 (.slice A ln c) R := by rw [← hR]; exact hrx
            obtain ⟨A', c', hve, hln, hlc, hRx⟩ := hrx2.slv
            injection hve with e1 e2 e3
            subst e1; subst e2; subst e3
            obtain ⟨pl, hpl⟩ : ∃ pl, (pth T x).length = pl := ⟨_, rfl⟩
            rw [hpl] at r2 hxp
            have HST := Lib.hid (stH_take fs T i x)
            have HSA := Lib.hid (stH_all fs T i x)
            have HRA := Lib.hid (rulesOf_at fs (pth T x))
            have HSL := Lib.hid (stH_len fs T i x)
            have HRL := Lib.hid (rulesOf_len fs (pth T x))
            rw [hpl] at HST
            have HPL := Lib.hid hpl
            rw [hR] at HRA HSA HRL
            have HR := Lib.hid hR
            have hRl := HRL.out
            clear hpl hR
            have y2 := (hbW1.cell (p := ⟨gS, x * 4 + 2, none⟩) hgl).trans r2
            have y3 := (hbW1.cell (p := ⟨gS, x * 4 + 3, none⟩) hgl).trans r3
            have hbase : Hid ((hitsU fs T l i ++ pre.flatMap (stH fs T i)).length ≤ 268435456) := by
              show _ ≤ _
              have q1 := hitsU_len (fs := fs) (T := T) l i ⟨bk, HTR.out, HBK.out⟩
              have q6 := flatMap_len (stH fs T i) fs.length pre fun y _ => stH_len fs T i y
              have q3 := fallN_len bk (l.length + 1) q2
              rw [hqq, List.length_append] at q3
              have q4 : i * ((l.length + 1) * fs.length) ≤ 64 * (65 * 4096) := Nat.mul_le_mul (by omega) (Nat.mul_le_mul (by omega) hfl)
              have q5 : pre.length * fs.length ≤ 65 * 4096 := Nat.mul_le_mul (by omega) hfl
              rw [List.length_append]; omega
            have hf0 := hv1b.frozen
            obtain ⟨H, hH⟩ : ∃ H, hitsU fs T l i ++ pre.flatMap (stH fs T i) = H := ⟨_, rfl⟩
            obtain ⟨SX, hSX⟩ : ∃ SX, stH fs T i x = SX := ⟨_, rfl⟩
            rw [hH] at hrow hbase
            rw [hSX] at HST HSA HSL
            have HH : Hid (hitsU fs T l i ++ (pre ++ [x]).flatMap (stH fs T i) = H ++ SX) := by show _ = _; rw [List.flatMap_append, ← List.append_assoc, hH]; simp [hSX]
            clear hH hSX
            gi_wp2
            gi_loopw [49] (fun sk wi => ∃ (k : Nat) (v3 : Value), sk = .int .i64 k ∧ k ≤ R.length ∧ Boxed wi w2.heap.size 114 v3 ∧ wi.ownsRow w2.heap.size 118 2 v3 (H ++ SX.take k).length ((H ++ SX.take k).flatMap eH.e) ∧ Boxed wi wo.heap.size 3 (.int .i64 i) ∧ KeepsOthers W wi ∧ Kp2 w2.heap.size (wc.heap.size + 1) wc.heap.size W wi) (fun sk _ => R.length - (intOf sk).toNat)
            case atStart => exact ⟨0, v1, rfl, by omega, hv1b, by simpa using hrow, hBi2, KeepsOthers.refl _, ⟨Below.refl _ _, Nat.le_refl _, fun _ => rfl, fun _ => rfl⟩⟩
            case round =>
              obtain ⟨k, v3, rfl, hkl, hv3, hrow3, hBi3, hko, hkp⟩ := hrel
              by_cases hkR : k < R.length
              · have hkR' : (k : Int) < R.length := by omega
                obtain ⟨r, hRr, hra⟩ := HRA.out k hkR
                obtain ⟨Y, hY⟩ : ∃ Y, H ++ SX.take k = Y := ⟨_, rfl⟩
                rw [hY] at hrow3
                have hbw : Below w2.heap.size w2 wr := hbW1.trans hkp.1
                obtain ⟨bR, oR, rfl, y4⟩ := hRx.at1 (fun _ => rfl) hbw k hkR
                have y5 := (hbw.cell (p := ⟨gS, x * 4 + 2, none⟩) hgl).trans r2
                have z1 := hv3.cell
                have z2 := hBi3.cell
                rw [hRr] at y4
                have HTK : Hid (H ++ SX.take (k + 1) = Y ++ [(i - pl, r)]) := by show _ = _; rw [HST.out k r hra, ← List.append_assoc, hY]
                have hrB : Hid ((r : Int) < 4096 ∧ Y.length + 1 ≤ 268500000) := by
                  show _ ∧ _
                  have h1 := at_lt ((rulesAt_mem).1 (List.mem_of_getElem? hra))
                  have h2 := hbase.out
                  have h3 := HSL.out
                  rw [← hY, List.length_append, List.length_take]
                  omega
                clear hra hRr hY
                have hwd : IntKind.i64.wrap ((i : Int) - (pl : Int)) = ((i - pl : Nat) : Int) := by rw [IntWalk.i64_in _ (by omega)]; omega
                gi_wp2_with fail
                obtain ⟨S, hS⟩ : ∃ S, v3.ownBlock.toList = S := ⟨_, rfl⟩
                have hSm : ∀ b, b ∈ S → v3.ownBlock = some b := fun b hb => by rw [← hS] at hb; simpa using hb
                have hSr : Hid (∀ b, v3.ownBlock = some b → b ∈ S) := fun b hb => by rw [← hS, hb]; simp
                have hS0 : w2.heap.size ∉ S := fun h => hv3.not_row (by decide) hrow3 (hSm _ h).symm
                have hSi : wo.heap.size ∉ S := fun h => hBi3.not_row (by decide) hrow3 (hSm _ h).symm
                have hSg : gS ∉ S := fun h => by
                  have h1 := (World.ownsRow.lt hrow3 gS (hSm _ h)).1
                  omega
                have HSM := Lib.hid hSm
                clear hS hSm
                refine region_mixR S 11 [(0, true), (1, true), (2, true), (3, true), (4, true), (5, true), (6, true), (7, true), (8, true), (9, false), (10, false)] (by kernel_rfl) (by kernel_rfl) ?_
                intro W4 hW4
                have q1 := bkc hW4 z1
                have q2' := bkc hW4 z2
                have q3 := bkc hW4 y5
                have hv4 : Boxed W4 w2.heap.size 114 v3 := (hW4.block _ hv3.lt).trans hv3
                have hO4 : Own eH w2.heap.size 118 W4 v3 Y := Own.below hrow3 hW4
                have hb4 : Below w2.heap.size w2 W4 := hbw.trans (hW4.mono hbw.size)
                have hlen := hrB.out.2
                clear z1 z2 y4 y5
                repeat (refine sS_q rfl (fun K hK => ?_); unfold takeS; go_simp; refine hK _ ?_; clear hK K)
                refine sS_t rfl (fun K hK => ?_); go_simp; refine hK _ _ (.of ((Kb.below ((Below.refl _ _).alloc (Nat.le_refl _) _)).weak (by simp))) ?_; clear hK K
                refine sS_t rfl (fun K hK => ?_); rw [if_pos (wanted_free rfl _)]; refine app_op (E := eH) (w0 := w2) _ _ 114 118 (.agg #[.int .i64 0, .int .i64 0]) 16 rfl rfl Tryd.underlying114 info_mhit rfl (by decide) (by decide) v3 Y [(i - pl, r)] ⟨_, 0, none⟩ 1 1 rfl rfl rfl (hO4.alloc _) (SlA.new eH _ _ _ _ (by simp) _ rfl) (hb4.alloc hb4.size _) (by simp; omega) ?_
                intro v5 w5 HO5 hb5 hg5 hmv5
                have k5 : Kb W4 w5 S := ((Kb.below ((Below.refl W4.heap.size W4).alloc (Nat.le_refl _) _)).trans (Kb.row hg5 hSr.out)).weak (by simp)
                refine hK _ _ (.of k5) ?_; clear hK K
                obtain ⟨g5, cap5, rfl, _⟩ := HO5.form (by simp)
                obtain ⟨hv5, hv6, hr6, hk6, hb6⟩ := hv4.appended (by decide) hO4 hb4.size (Nat.le_refl _) HO5 hg5
                have hY1 : (Y ++ [(i - pl, r)]).length = Y.length + 1 := by simp
                rw [hY1] at hv6 hr6 hk6 hb6
                have hc5 := hv5.cell
                have hf5 := hv5.frozen
                refine sS_nil ?_
                go_wp2
                rw [onlyN_normal]
                gi_wp2
                have keep : ∀ (B : Nat) (t : TypeId) (z : Value), t ≠ 118 → B ≠ w2.heap.size → Boxed wr B t z → Boxed (w5.setCell ⟨w2.heap.size, 0, none⟩ (.slice (some ⟨g5, 0, none⟩) (Y.length + 1) cap5)) B t z := fun B t z ht hne hB => by
                  have hBd : Boxed W4 B t z := (hW4.block _ hB.lt).trans hB
                  exact ((hBd.alloc _).kept hg5 (hBd.not_row ht hO4)).other hne _
                have hA3 : Boxed wr (wc.heap.size + 1) 3 u := (hkp.2.2.1 hAx.lt).trans hAx
                have hM3 : Boxed wr wc.heap.size 111 (.pointer (some ⟨M, 0, none⟩)) := (hkp.2.2.2 hMx.lt).trans hMx
                have hwk : KeepsOthers wr W4 := ⟨hW4.size, fun j o h _ => (hW4.block j (Array.getElem?_eq_some_iff.1 h).1).trans h⟩
                refine ⟨⟨k + 1, _, by go_num, by omega, hv6, ?_, keep _ _ _ (by decide) (by omega) hBi3, hko.trans (hwk.trans hk6), hkp.trans ⟨(hW4.mono hbw.size).trans hb6, Nat.le_trans hW4.size hb6.size, fun _ => ?_, fun _ => ?_⟩⟩, by simp [intOf]; omega⟩
                · rw [HTK.out, hY1]; exact hr6
                · exact (keep _ _ _ (by decide) (by omega) hA3).trans hA3.symm
                · exact (keep _ _ _ (by decide) (by omega) hM3).trans hM3.symm
              · have hke : k = R.length := by omega
                have hkR' : ¬ (k : Int) < R.length := by omega
                subst hke
                rw [HSA.out] at hrow3
                gi_wp2
                have hM3 : Boxed wr wc.heap.size 111 (.pointer (some ⟨M, 0, none⟩)) := (hkp.2.2.2 hMx.lt).trans hMx
                refine ⟨hko.from _, hkp, hmk.others hko, ⟨v3, hv3, ?_, trivial⟩, hBi3, ⟨u, (hkp.2.2.1 hAx.lt).trans hAx⟩, hM3, hbW1.trans hkp.1⟩
                rw [HH.out]; exact hrow3
        case done =>
          rintro D ys W hD rfl hIW hK
          obtain ⟨hmk, ⟨v1, hv1b, hrow, _⟩, _, _, _, hbW1⟩ := hIW
          rw [hitsAt_fall HTR.out HBK.out (l.take i) i q2 (l.length + 1) hqT (by rw [pth_at hqT] at hqp; exact hqp), ← hitsU_succ] at hrow
          have hmk2 : Marks w2.heap.size (D :: Ds) W := hmk.cons (fun h => by have := hDs D h; omega) (by omega) hK
          have hq3 : T[q2]? = some (ls T (l.take (i + 1 - 1))) := hqT
          have HI3 : Hid (OutI w2 W w2.heap.size fs T l (i + 1) q2 v1 (D :: Ds)) := ⟨by omega, hq3, hv1b, hrow, hbW1, hmk2⟩
          clear hrow hmk hmk2 hv1b hq3 hF bM bA hb1 hB01 hBi1 hO1 hmk1 hbr1
          gi_wp2
          refine ⟨?_, ?_⟩
          · (repeat apply Exists.intro)
            refine ⟨?_, rfl⟩
            exact ⟨i + 1, q2, v1, D :: Ds, rfl, by go_num, rfl, HI3.out⟩
          · simp [intOf]; omega
    · have hie : i = l.length + 1 := by have := hI.le; omega
      have hlt : ¬ (i : Int) < l.length + 1 := by omega
      have hbx := hI.box
      have hbW0 := hI.bel
      have hown := hI.own
      have hc := hbx.cell
      rw [hie] at hown
      have HP : Hid (hitsU fs T l (l.length + 1) = hitsP fs (statesT fs) l) := by show _ = _; rw [HT.out]; rfl
      rw [HP.out] at hown
      have hpl : (hitsP fs (statesT fs) l).length ≤ 4294967296 := by
        rw [← HP.out]
        have q1 := hitsU_len (fs := fs) (T := T) l (l.length + 1) ⟨bk, HTR.out, HBK.out⟩
        have q4 : (l.length + 1) * ((l.length + 1) * fs.length) ≤ 65 * (65 * 4096) := Nat.mul_le_mul (by omega) (Nat.mul_le_mul (by omega) hfl)
        omega
      gi_wp2_with (refine ⟨trivial, ?_⟩; gi_at_call 78; refine (callsIn_wide.2 (hsort_c w2.heap.size v (hitsP fs (statesT fs) l) _ hown hpl)).mono ?_; rintro e w3 ⟨rfl, ys, hp, hs, hO3, hg3⟩; have hbx3 := hbx.kept hg3 (hbx.not_row (by decide) hown); have hc3 := hbx3.cell)
      have HY := Lib.hid (hits_eq hp hs)
      have hmk3 : Marks w2.heap.size Ds w3 := hI.mks.grown hg3 (fun r e => by obtain ⟨cur, hcur⟩ := hown.cells e; exact hI.mks.not_cells hcur rfl)
      have hb3 : Below w2.heap.size w2 w3 := hbW0.grown hg3 hbW0.size (fun k e => hown.ge k e)
      show LeavesInM _ _ _ _ _ _ (dsOf Ds) _ _
      refine hmk3.leave fun W' hb' hcl => ⟨_, results_tmp2 rfl _ _ _, ?_⟩
      refine ⟨hb2.trans ((hb3.trans hb').mono hb2.size), fun _ => ⟨v, l, HD.out, rfl, ?_⟩, fun h => absurd H0.out h⟩
      rw [← HY.out]
      exact (hO3.cellsKept hcl).lower hb2.size
end Go.Proofs.YtmpoihejacklnaaDoor
