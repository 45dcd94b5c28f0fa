/- A region that draws its order, in an order of one's own where at some places either of two operations may come first. No condition. -/
import Derived.Test.YtpnhmapkdbnkmaaGreatDoorK806
namespace Go.Proofs.YtpnhmapkdbnkmaaGreatDoor
open Go Go.RowKit
inductive OT where
  | nil
  | q (i : Nat) (r : OT)
  | t (i : Nat) (r : OT)
  | two (i : Nat) (r : OT) (j : Nat) (s : OT)
def OT.deep : OT → Nat
  | nil => 0
  | q _ r => r.deep + 1
  | t _ r => r.deep + 1
  | two _ r _ _ => r.deep + 1
def OT.okB (ops : Array Oper) : OT → Array Bool → Bool
  | nil, listed => (Region.ready .any ops listed).isEmpty
  | q i r, listed => (Region.ready .any ops listed).contains i && Region.free .any ops listed i && r.okB ops (listed.setIfInBounds i true)
  | t i r, listed => decide (Region.ready .any ops listed = [i]) && r.okB ops (listed.setIfInBounds i true)
  | two i r j s, listed => decide (Region.ready .any ops listed = [i, j]) && decide (r.deep = s.deep) && r.okB ops (listed.setIfInBounds i true) && s.okB ops (listed.setIfInBounds j true)
section
variable {P : Program} {ops : Array Oper}
def wpTr (P : Program) (ops : Array Oper) (w0 : World) (Q : Exit → Act → World → Prop) : OT → Act → World → Prop
  | .nil, a, w => Q .normal a w
  | .q i r, a, w => match ops[i]? with
    | none => False
    | some o => takeQ P ops w0 o a (fun a' => wpTr P ops w0 Q r a' w)
  | .t i r, a, w => match ops[i]? with
    | none => False
    | some o => if Region.wanted o (yielded ops a.tmps) then o.wp P a w (fun a' w' => Ext w0 w' ∧ wpTr P ops w0 Q r a' w') Q else wpTr P ops w0 Q r (a.put o.dst undef) w
  | .two i r j s, a, w => (match ops[i]? with
    | none => False
    | some o => if Region.wanted o (yielded ops a.tmps) then o.wp P a w (fun a' w' => Ext w0 w' ∧ wpTr P ops w0 Q r a' w') Q else wpTr P ops w0 Q r (a.put o.dst undef) w) ∧
    (match ops[j]? with
    | none => False
    | some o => if Region.wanted o (yielded ops a.tmps) then o.wp P a w (fun a' w' => Ext w0 w' ∧ wpTr P ops w0 Q s a' w') Q else wpTr P ops w0 Q s (a.put o.dst undef) w)
theorem wpOp_of_step {w0 : World} {Q : Exit → Act → World → Prop} {r : OT} {listed : Array Bool} {a : Act} {w : World} {i n : Nat} (hS : Ext w0 w)
    (ih : ∀ a w, Ext w0 w → wpTr P ops w0 Q r a w → wpAnyH P .any ops Q (Ext w0) n listed a w)
    (h : match ops[i]? with
      | none => False
      | some o => if Region.wanted o (yielded ops a.tmps) then o.wp P a w (fun a' w' => Ext w0 w' ∧ wpTr P ops w0 Q r a' w') Q else wpTr P ops w0 Q r (a.put o.dst undef) w) :
    wpOp P ops Q i (fun a' w' => Ext w0 w' ∧ wpAnyH P .any ops Q (Ext w0) n listed a' w') a w := by
  cases ho : ops[i]? with
  | none => rw [ho] at h; exact h.elim
  | some o =>
    rw [ho] at h
    unfold wpOp
    rw [ho]
    dsimp only at h ⊢
    by_cases hw : Region.wanted o (yielded ops a.tmps) = true
    · rw [if_pos hw] at h ⊢
      exact .inl (Oper.wp_mono (fun a' w' h' => ⟨h'.1, ih a' w' h'.1 h'.2⟩) h)
    · rw [if_neg hw] at h ⊢
      exact ⟨hS, ih _ _ hS h⟩
theorem wpAnyH_of_tree {w0 : World} {Q : Exit → Act → World → Prop} (hsel : Region.noSelect ops = true) (hQ : ∀ c a d v w, Q (.panic c) (Act.put a d v) w → Q (.panic c) a w) :
    ∀ (l : OT) (listed : Array Bool) (a : Act) (w : World), Ext w0 w → l.okB ops listed = true → wpTr P ops w0 Q l a w → wpAnyH P .any ops Q (Ext w0) l.deep listed a w
  | .nil, listed, a, w, _, hB, h => by
    have h0 : Region.ready .any ops listed = [] := by simpa [OT.okB] using hB
    exact wpAnyH_done h0 h 0
  | .q i r, listed, a, w, hS, hB, h => by
    simp only [OT.okB, Bool.and_eq_true] at hB
    obtain ⟨⟨hr, hf⟩, hB⟩ := hB
    simp only [wpTr] at h
    cases ho : ops[i]? with
    | none => rw [ho] at h; exact h.elim
    | some o =>
      rw [ho] at h
      simp only [takeQ] at h
      by_cases hw : Region.wanted o (yielded ops a.tmps) = true
      · rw [if_pos hw] at h
        obtain ⟨v, h1, h2⟩ := h
        exact wpAnyH_take ho hsel hf hr (fun c a w => hQ c a _ _ w) (.inl ⟨hw, fun W hW => by obtain ⟨X, rfl⟩ := hW; exact h1 X⟩) hS (wpAnyH_of_tree hsel hQ r _ _ w hS hB h2)
      · rw [if_neg hw] at h
        exact wpAnyH_take ho hsel hf hr (fun c a w => hQ c a _ _ w) (.inr ⟨by simpa using hw, rfl⟩) hS (wpAnyH_of_tree hsel hQ r _ _ w hS hB h)
  | .t i r, listed, a, w, hS, hB, h => by
    simp only [OT.okB, Bool.and_eq_true, decide_eq_true_eq] at hB
    obtain ⟨hr, hB⟩ := hB
    simp only [wpTr] at h
    refine wpAnyH_all hr (by simp) fun j hj => ?_
    obtain rfl : j = i := by simpa using hj
    exact wpOp_of_step hS (fun a w hS h => wpAnyH_of_tree hsel hQ r _ a w hS hB h) h
  | .two i r j s, listed, a, w, hS, hB, h => by
    simp only [OT.okB, Bool.and_eq_true, decide_eq_true_eq] at hB
    obtain ⟨⟨⟨hr, hd⟩, hB1⟩, hB2⟩ := hB
    simp only [wpTr] at h
    refine wpAnyH_all hr (by simp) fun k hk => ?_
    rcases List.mem_cons.1 hk with rfl | hk
    · exact wpOp_of_step hS (fun a w hS h => wpAnyH_of_tree hsel hQ r _ a w hS hB1 h) h.1
    · obtain rfl : k = j := by simpa using hk
      exact wpOp_of_step hS (fun a w hS h => by rw [hd]; exact wpAnyH_of_tree hsel hQ s _ a w hS hB2 h) h.2
theorem region_tree {id : Nat} {Q : Exit → Act → World → Prop} {a : Act} {w : World} (L : OT) (hm : P.follows .mixedOrders = true) (hB : (Region.noSelect ops && decide (L.deep = ops.size) && L.okB ops (Array.replicate ops.size false)) = true)
    (h : ∀ W, Below w.heap.size w W → wpTr P ops W (noP Q) L a W) : (Code.region id ops true).wp P Q a w := by
  refine wp_mono (Q := noP Q) ?_ noP_le
  have h := h w.drew (Below.refl _ w).drew
  simp only [Bool.and_eq_true, decide_eq_true_eq] at hB
  obtain ⟨⟨hsel, hl⟩, hB⟩ := hB
  refine wp_region_held (S := Ext w.drew) hm ?_
  have h' := wpAnyH_of_tree hsel (fun _ _ _ _ _ h => h.elim) L _ a _ (.of (Below.refl _ _)) hB h
  rw [hl] at h'
  exact h'
theorem tr_nil {w0 : World} {Q : Exit → Act → World → Prop} {a : Act} {w : World} (h : Q .normal a w) : wpTr P ops w0 Q .nil a w := by simp only [wpTr]; exact h
theorem tr_q {w0 : World} {Q : Exit → Act → World → Prop} {a : Act} {w : World} {i : Nat} {r : OT} {o : Oper} (ho : ops[i]? = some o)
    (h : ∀ K : Act → Prop, (∀ a', wpTr P ops w0 Q r a' w → K a') → takeQ P ops w0 o a K) : wpTr P ops w0 Q (.q i r) a w := by
  simp only [wpTr, ho]
  exact h _ fun _ h => h
theorem tr_step {w0 : World} {Q : Exit → Act → World → Prop} {a : Act} {w : World} {i : Nat} {r : OT} {o : Oper} (ho : ops[i]? = some o)
    (h : ∀ K : Act → World → Prop, (∀ a' w', Ext w0 w' → wpTr P ops w0 Q r a' w' → K a' w') → if Region.wanted o (yielded ops a.tmps) then o.wp P a w K Q else K (a.put o.dst undef) w) :
    (match ops[i]? with
      | none => False
      | some o => if Region.wanted o (yielded ops a.tmps) then o.wp P a w (fun a' w' => Ext w0 w' ∧ wpTr P ops w0 Q r a' w') Q else wpTr P ops w0 Q r (a.put o.dst undef) w) := by
  rw [ho]
  dsimp only
  have h' := h (fun a' w' => Ext w0 w' ∧ wpTr P ops w0 Q r a' w') fun _ _ h1 h2 => ⟨h1, h2⟩
  split
  · rename_i hw; rw [if_pos hw] at h'; exact h'
  · rename_i hw; rw [if_neg hw] at h'; exact h'.2
theorem tr_t {w0 : World} {Q : Exit → Act → World → Prop} {a : Act} {w : World} {i : Nat} {r : OT} {o : Oper} (ho : ops[i]? = some o)
    (h : ∀ K : Act → World → Prop, (∀ a' w', Ext w0 w' → wpTr P ops w0 Q r a' w' → K a' w') → if Region.wanted o (yielded ops a.tmps) then o.wp P a w K Q else K (a.put o.dst undef) w) : wpTr P ops w0 Q (.t i r) a w := by
  simp only [wpTr]
  exact tr_step ho h
theorem tr_two {w0 : World} {Q : Exit → Act → World → Prop} {a : Act} {w : World} {i j : Nat} {r s : OT} {o p : Oper} (ho : ops[i]? = some o) (hp : ops[j]? = some p)
    (h : ∀ K : Act → World → Prop, (∀ a' w', Ext w0 w' → wpTr P ops w0 Q r a' w' → K a' w') → if Region.wanted o (yielded ops a.tmps) then o.wp P a w K Q else K (a.put o.dst undef) w)
    (k : ∀ K : Act → World → Prop, (∀ a' w', Ext w0 w' → wpTr P ops w0 Q s a' w' → K a' w') → if Region.wanted p (yielded ops a.tmps) then p.wp P a w K Q else K (a.put p.dst undef) w) : wpTr P ops w0 Q (.two i r j s) a w := by
  simp only [wpTr]
  exact ⟨tr_step ho h, tr_step hp k⟩
end
attribute [irreducible] wpTr
end Go.Proofs.YtpnhmapkdbnkmaaGreatDoor
