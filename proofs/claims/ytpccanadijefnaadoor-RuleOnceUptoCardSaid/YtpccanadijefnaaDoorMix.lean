/- A region that draws its order: a head in an order of one's own (calls that make memory among it), then a tail of stores in one forced order. No condition. -/
import Derived.Test.YtpccanadijefnaaDoorReg
namespace Go.Proofs.YtpccanadijefnaaDoor
open Go Go.RowKit
section
variable {P : Program} {ops : Array Oper} {S : World → Prop} {Q : Exit → Act → World → Prop}
def wpMix (P : Program) (ops : Array Oper) (Q : Exit → Act → World → Prop) (S : World → Prop) (n : Nat) (L : Array Bool → Act → World → Prop) : Nat → Array Bool → Act → World → Prop
  | 0, listed, a, w => L listed a w
  | f + 1, listed, a, w => Region.ready .any ops listed ≠ [] ∧ ∀ i ∈ Region.ready .any ops listed, i < n ∧ wpOp P ops Q i (fun a' w' => S w' ∧ wpMix P ops Q S n L f (listed.setIfInBounds i true) a' w') a w
theorem wpAny_of_mix {n g : Nat} {L : Array Bool → Act → World → Prop} (hL : ∀ listed a w, L listed a w → wpAny P .any ops Q g listed a w) :
    ∀ (f : Nat) (listed : Array Bool) (a : Act) (w : World), wpMix P ops Q S n L f listed a w → wpAny P .any ops Q (f + g) listed a w
  | 0, listed, a, w, h => by rw [Nat.zero_add]; exact hL _ _ _ h
  | f + 1, listed, a, w, h => by
    rw [show f + 1 + g = (f + g) + 1 by omega]
    exact ⟨fun h0 => absurd h0 h.1, fun i hi => wpOp_mono (fun a' w' h' => wpAny_of_mix hL f _ a' w' h'.2) (h.2 i hi).2⟩
theorem wpMix_first {n i : Nat} {oi : Oper} {v : Value} {L : Array Bool → Act → World → Prop} (hi : ops[i]? = some oi) (hsel : ∀ (j : Nat) (o : Oper) cs b, ops[j]? = some o → o.op ≠ .select cs b)
    (hQ : ∀ c a w, Q (.panic c) (a.put oi.dst v) w → Q (.panic c) a w)
    (hs : Region.sinkB .any ops n = true) (hc : Region.chainB .any ops n = true) (hn : n < ops.size) (hin : i < n)
    (hdone : ∀ listed a w, L listed a w → ∀ j ∈ Region.ready .any ops listed, n ≤ j) :
    ∀ (f : Nat) (listed : Array Bool) (a : Act) (w : World), HeadInv .any ops n listed →
      (∀ j oj, ops[j]? = some oj → j ≠ i → listed.getD j true = false → (∀ e ∈ oj.after, Region.binds .any e = true → e.on ≠ i) → oi.apart ops oj = true) →
      i ∈ Region.ready .any ops listed → YieldsIf P ops S oi v a → S w →
      wpMix P ops Q S n L f (listed.setIfInBounds i true) (a.put oi.dst v) w → wpMix P ops Q S n L (f + 1) listed a w := by
  intro f
  induction f with
  | zero =>
    intro listed a w inv _ hr hy hS H
    have hun := (mem_ready.1 hr).1
    refine ⟨fun h => (by rw [h] at hr; cases hr), fun j hj => ?_⟩
    have hjn : j < n := (Nat.lt_or_ge j n).resolve_right fun h => (tail_waits hs hc hn inv _ i rfl hin hun j h) hj
    refine ⟨hjn, ?_⟩
    by_cases hji : j = i
    · subst hji; exact hy.wpOp hi hS ⟨hS, H⟩
    · have := hdone _ _ _ H j (ready_mono hj hji)
      omega
  | succ f ih =>
    intro listed a w inv hfree hr hy hS H
    have hun := (mem_ready.1 hr).1
    refine ⟨fun h => (by rw [h] at hr; cases hr), fun j hj => ?_⟩
    have hjn : j < n := (Nat.lt_or_ge j n).resolve_right fun h => (tail_waits hs hc hn inv _ i rfl hin hun j h) hj
    refine ⟨hjn, ?_⟩
    by_cases hji : j = i
    · subst hji; exact hy.wpOp hi hS ⟨hS, H⟩
    · have h1 := (H.2 j (ready_mono hj hji)).2
      obtain ⟨hjun, oj, hoj, hall⟩ := mem_ready.1 hj
      have hnot : ∀ e ∈ oj.after, Region.binds .any e = true → e.on ≠ i := fun e he hb heq => by
        have h1 := hall e he hb
        rw [heq, getD_both hun] at h1
        cases h1
      have h2 := wpOp_putIf hoj (hfree j oj hoj hji hjun hnot) (fun cs b => hsel i oi cs b hi) (fun cs b => hsel j oj cs b hoj) hQ hy h1
      have hfree' : ∀ k ok, ops[k]? = some ok → k ≠ i → (listed.setIfInBounds j true).getD k true = false →
          (∀ e ∈ ok.after, Region.binds .any e = true → e.on ≠ i) → oi.apart ops ok = true := fun k ok hk hki hun hno => by
        refine hfree k ok hk hki ?_ hno
        by_cases hjk : j = k
        · subst hjk; exact hjun
        · rw [getD_set_ne true hjk] at hun; exact hun
      refine wpOp_mono (fun a' w' h3 => ⟨h3.2.1, ih (listed.setIfInBounds j true) a' w' (inv.set hj hjn) hfree' (ready_mono hr (Ne.symm hji)) h3.1 h3.2.1 ?_⟩) h2
      rw [Array.setIfInBounds_comm _ _ hji]
      exact h3.2.2
def mixB (ops : Array Oper) (n : Nat) : List (Nat × Bool) → Array Bool → Bool
  | [], listed => Region.seqB .any ops (ops.size - n) n listed
  | (i, true) :: r, listed => decide (i < n) && (Region.ready .any ops listed).contains i && Region.free .any ops listed i && mixB ops n r (listed.setIfInBounds i true)
  | (i, false) :: r, listed => decide (i < n) && decide (Region.ready .any ops listed = [i]) && mixB ops n r (listed.setIfInBounds i true)
def wpSeqT (P : Program) (ops : Array Oper) (w0 : World) (Q : Exit → Act → World → Prop) (fin : Act → World → Prop) : List (Nat × Bool) → Act → World → Prop
  | [], a, w => fin a w
  | (i, true) :: r, a, w => match ops[i]? with
    | none => False
    | some o => takeQ P ops w0 o a (fun a' => wpSeqT P ops w0 Q fin r a' w)
  | (i, false) :: r, a, w => match ops[i]? with
    | none => False
    | some o => if Region.wanted o (yielded ops a.tmps) then o.wp P a w (fun a' w' => Ext w0 w' ∧ wpSeqT P ops w0 Q fin r a' w') Q else wpSeqT P ops w0 Q fin r (a.put o.dst undef) w
theorem wpMix_of_seq {w0 : World} {fin : Act → World → Prop} {n : Nat} (hsel : Region.noSelect ops = true) (hQ : ∀ c a d v w, Q (.panic c) (Act.put a d v) w → Q (.panic c) a w) (hs : Region.sinkB .any ops n = true) (hc : Region.chainB .any ops n = true) (hn : n < ops.size) :
    ∀ (l : List (Nat × Bool)) (listed : Array Bool) (a : Act) (w : World), Ext w0 w → HeadInv .any ops n listed → mixB ops n l listed = true → wpSeqT P ops w0 Q fin l a w →
      wpMix P ops Q (Ext w0) n (fun listed' a' w' => Region.seqB .any ops (ops.size - n) n listed' = true ∧ fin a' w') l.length listed a w
  | [], listed, a, w, _, _, hB, h => ⟨by simpa [mixB] using hB, h⟩
  | (i, true) :: r, listed, a, w, hS, inv, hB, h => by
    simp only [mixB, Bool.and_eq_true, decide_eq_true_eq] at hB
    obtain ⟨⟨⟨hin, hr⟩, hf⟩, hB⟩ := hB
    simp only [wpSeqT] at h
    cases ho : ops[i]? with
    | none => rw [ho] at h; exact h.elim
    | some o =>
      rw [ho] at h
      simp only [takeQ] at h
      have hr' : i ∈ Region.ready .any ops listed := by simpa using hr
      by_cases hw : Region.wanted o (yielded ops a.tmps) = true
      · rw [if_pos hw] at h
        obtain ⟨v, h1, h2⟩ := h
        exact wpMix_first ho (Region.noSelect_spec hsel) (fun c a w => hQ c a _ _ w) hs hc hn hin (fun _ _ _ hL => seqB_ready hL.1) r.length listed a w inv (Region.free_spec ho hf) hr' (.inl ⟨hw, fun W hW => by obtain ⟨X, rfl⟩ := hW; exact h1 X⟩) hS
          (wpMix_of_seq hsel hQ hs hc hn r _ _ w hS (inv.set hr' hin) hB h2)
      · rw [if_neg hw] at h
        exact wpMix_first ho (Region.noSelect_spec hsel) (fun c a w => hQ c a _ _ w) hs hc hn hin (fun _ _ _ hL => seqB_ready hL.1) r.length listed a w inv (Region.free_spec ho hf) hr' (.inr ⟨by simpa using hw, rfl⟩) hS
          (wpMix_of_seq hsel hQ hs hc hn r _ _ w hS (inv.set hr' hin) hB h)
  | (i, false) :: r, listed, a, w, hS, inv, hB, h => by
    simp only [mixB, Bool.and_eq_true, decide_eq_true_eq] at hB
    obtain ⟨⟨hin, hr⟩, hB⟩ := hB
    simp only [wpSeqT] at h
    have hr' : i ∈ Region.ready .any ops listed := by rw [hr]; simp
    refine ⟨by rw [hr]; simp, fun j hj => ?_⟩
    obtain rfl : j = i := by rw [hr] at hj; simpa using hj
    refine ⟨hin, ?_⟩
    cases ho : ops[j]? with
    | none => rw [ho] at h; exact h.elim
    | some o =>
      rw [ho] at h
      unfold wpOp
      rw [ho]
      dsimp only at h ⊢
      by_cases hw : Region.wanted o (yielded ops a.tmps) = true
      · rw [if_pos hw] at h ⊢
        exact .inl (Oper.wp_mono (fun a' w' h' => ⟨h'.1, wpMix_of_seq hsel hQ hs hc hn r _ a' w' h'.1 (inv.set hr' hin) hB h'.2⟩) h)
      · rw [if_neg hw] at h ⊢
        exact ⟨hS, wpMix_of_seq hsel hQ hs hc hn r _ _ w hS (inv.set hr' hin) hB h⟩
theorem region_mix {id : Nat} {a : Act} {w : World} {l : List Oper} (n : Nat) (L : List (Nat × Bool)) (hm : P.follows .mixedOrders = true)
    (hB : (Region.noSelect l.toArray && Region.sinkB .any l.toArray n && Region.chainB .any l.toArray n && decide (n < l.length) && decide (L.length = n) && mixB l.toArray n L (Array.replicate l.length false)) = true)
    (hQ : ∀ c a d v w, Q (.panic c) (Act.put a d v) w → Q (.panic c) a w)
    (h : ∀ W, Below w.heap.size w W → wpSeqT P l.toArray W Q (fun a' W' => wpList P l.toArray Q (l.drop n) a' W') L a W) : (Code.region id l.toArray true).wp P Q a w := by
  have h := h w.drew (Below.refl _ w).drew
  simp only [Bool.and_eq_true, decide_eq_true_eq] at hB
  obtain ⟨⟨⟨⟨⟨hsel, hs⟩, hc⟩, hn⟩, hl⟩, hB⟩ := hB
  refine wp_region_any hm ?_
  have inv0 : HeadInv .any l.toArray n (Array.replicate l.length false) :=
    ⟨by simp, fun j oj _ hl => (by rw [getD_replicate_false] at hl; cases hl), fun t _ ht => getD_in (by simpa using ht) (getD_replicate_false _ _)⟩
  have h' := wpMix_of_seq hsel hQ hs hc (by simpa using hn) L _ a _ (.of (Below.refl _ _)) inv0 hB h
  have h2 := wpAny_of_mix (g := l.length - n) (fun listed a' w' hL => by
    have := wpAny_of_seq (md := .any) (Q' := Q) (l.drop n) n listed a' w' (fun j => by simp [List.getElem?_drop]) (by rw [List.length_drop]; simpa using hL.1) hL.2
    rwa [List.length_drop] at this) _ _ _ _ h'
  rw [hl, show n + (l.length - n) = l.length by omega] at h2
  simpa using h2
theorem mix_q {w0 : World} {fin : Act → World → Prop} {a : Act} {w : World} {i : Nat} {r : List (Nat × Bool)} {o : Oper} (ho : ops[i]? = some o)
    (h : ∀ K : Act → Prop, (∀ a', wpSeqT P ops w0 Q fin r a' w → K a') → takeQ P ops w0 o a K) : wpSeqT P ops w0 Q fin ((i, true) :: r) a w := by
  simp only [wpSeqT, ho]
  exact h _ fun _ h => h
theorem mix_t {w0 : World} {fin : Act → World → Prop} {a : Act} {w : World} {i : Nat} {r : List (Nat × Bool)} {o : Oper} (ho : ops[i]? = some o)
    (h : ∀ K : Act → World → Prop, (∀ a' w', Ext w0 w' → wpSeqT P ops w0 Q fin r a' w' → K a' w') → if Region.wanted o (yielded ops a.tmps) then o.wp P a w K Q else K (a.put o.dst undef) w) : wpSeqT P ops w0 Q fin ((i, false) :: r) a w := by
  simp only [wpSeqT, ho]
  have h' := h (fun a' w' => Ext w0 w' ∧ wpSeqT P ops w0 Q fin r a' w') fun _ _ h1 h2 => ⟨h1, h2⟩
  split
  · rename_i hw; rw [if_pos hw] at h'; exact h'
  · rename_i hw; rw [if_neg hw] at h'; exact h'.2
theorem mix_nil {w0 : World} {fin : Act → World → Prop} {a : Act} {w : World} (h : fin a w) : wpSeqT P ops w0 Q fin [] a w := by simp only [wpSeqT]; exact h
end
attribute [irreducible] wpSeqT
end Go.Proofs.YtpccanadijefnaaDoor
