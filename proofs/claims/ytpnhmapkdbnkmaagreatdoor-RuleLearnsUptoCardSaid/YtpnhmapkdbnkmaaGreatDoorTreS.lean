/- A region that draws its order, in an order of one's own where at some places either of two operations may come first; some blocks S may be turned. No condition. -/
import Derived.Test.YtpnhmapkdbnkmaaGreatDoorTree
import Derived.Test.YtpnhmapkdbnkmaaGreatDoorK813
namespace Go.Proofs.YtpnhmapkdbnkmaaGreatDoor
open Go Go.RowKit
section
variable {P : Program} {ops : Array Oper} {S : List Nat}
def wpTrS (P : Program) (ops : Array Oper) (w0 : World) (S : List Nat) (Q : Exit → Act → World → Prop) : OT → Act → World → Prop
  | .nil, a, w => Q .normal a w
  | .q i r, a, w => match ops[i]? with
    | none => False
    | some o => takeS P ops w0 S o a (fun a' => wpTrS P ops w0 S Q r a' w)
  | .t i r, a, w => match ops[i]? with
    | none => False
    | some o => if Region.wanted o (yielded ops a.tmps) then o.wp P a w (fun a' w' => ExtS w0 S w' ∧ wpTrS P ops w0 S Q r a' w') Q else wpTrS P ops w0 S Q r (a.put o.dst undef) w
  | .two i r j s, a, w => (match ops[i]? with
    | none => False
    | some o => if Region.wanted o (yielded ops a.tmps) then o.wp P a w (fun a' w' => ExtS w0 S w' ∧ wpTrS P ops w0 S Q r a' w') Q else wpTrS P ops w0 S Q r (a.put o.dst undef) w) ∧
    (match ops[j]? with
    | none => False
    | some o => if Region.wanted o (yielded ops a.tmps) then o.wp P a w (fun a' w' => ExtS w0 S w' ∧ wpTrS P ops w0 S Q s a' w') Q else wpTrS P ops w0 S Q s (a.put o.dst undef) w)
theorem wpOp_of_stepS {w0 : World} {Q : Exit → Act → World → Prop} {r : OT} {listed : Array Bool} {a : Act} {w : World} {i n : Nat} (hS : ExtS w0 S w)
    (ih : ∀ a w, ExtS w0 S w → wpTrS P ops w0 S Q r a w → wpAnyH P .any ops Q (ExtS w0 S) n listed a w)
    (h : match ops[i]? with
      | none => False
      | some o => if Region.wanted o (yielded ops a.tmps) then o.wp P a w (fun a' w' => ExtS w0 S w' ∧ wpTrS P ops w0 S Q r a' w') Q else wpTrS P ops w0 S Q r (a.put o.dst undef) w) :
    wpOp P ops Q i (fun a' w' => ExtS w0 S w' ∧ wpAnyH P .any ops Q (ExtS w0 S) n listed a' w') a w := by
  cases ho : ops[i]? with
  | none => rw [ho] at h; exact h.elim
  | some o =>
    rw [ho] at h
    unfold wpOp
    rw [ho]
    dsimp only at h ⊢
    by_cases hw : Region.wanted o (yielded ops a.tmps) = true
    · rw [if_pos hw] at h ⊢
      exact .inl (Oper.wp_mono (fun a' w' h' => ⟨h'.1, ih a' w' h'.1 h'.2⟩) h)
    · rw [if_neg hw] at h ⊢
      exact ⟨hS, ih _ _ hS h⟩
theorem wpAnyH_of_treeS {w0 : World} {Q : Exit → Act → World → Prop} (hsel : Region.noSelect ops = true) (hQ : ∀ c a d v w, Q (.panic c) (Act.put a d v) w → Q (.panic c) a w) :
    ∀ (l : OT) (listed : Array Bool) (a : Act) (w : World), ExtS w0 S w → l.okB ops listed = true → wpTrS P ops w0 S Q l a w → wpAnyH P .any ops Q (ExtS w0 S) l.deep listed a w
  | .nil, listed, a, w, _, hB, h => by
    have h0 : Region.ready .any ops listed = [] := by simpa [OT.okB] using hB
    exact wpAnyH_done h0 h 0
  | .q i r, listed, a, w, hS, hB, h => by
    simp only [OT.okB, Bool.and_eq_true] at hB
    obtain ⟨⟨hr, hf⟩, hB⟩ := hB
    simp only [wpTrS] at h
    cases ho : ops[i]? with
    | none => rw [ho] at h; exact h.elim
    | some o =>
      rw [ho] at h
      simp only [takeS] at h
      by_cases hw : Region.wanted o (yielded ops a.tmps) = true
      · rw [if_pos hw] at h
        obtain ⟨v, h1, h2⟩ := h
        exact wpAnyH_take ho hsel hf hr (fun c a w => hQ c a _ _ w) (.inl ⟨hw, fun W hW => by obtain ⟨X, rfl⟩ := hW; exact h1 X⟩) hS (wpAnyH_of_treeS hsel hQ r _ _ w hS hB h2)
      · rw [if_neg hw] at h
        exact wpAnyH_take ho hsel hf hr (fun c a w => hQ c a _ _ w) (.inr ⟨by simpa using hw, rfl⟩) hS (wpAnyH_of_treeS hsel hQ r _ _ w hS hB h)
  | .t i r, listed, a, w, hS, hB, h => by
    simp only [OT.okB, Bool.and_eq_true, decide_eq_true_eq] at hB
    obtain ⟨hr, hB⟩ := hB
    simp only [wpTrS] at h
    refine wpAnyH_all hr (by simp) fun j hj => ?_
    obtain rfl : j = i := by simpa using hj
    exact wpOp_of_stepS hS (fun a w hS h => wpAnyH_of_treeS hsel hQ r _ a w hS hB h) h
  | .two i r j s, listed, a, w, hS, hB, h => by
    simp only [OT.okB, Bool.and_eq_true, decide_eq_true_eq] at hB
    obtain ⟨⟨⟨hr, hd⟩, hB1⟩, hB2⟩ := hB
    simp only [wpTrS] at h
    refine wpAnyH_all hr (by simp) fun k hk => ?_
    rcases List.mem_cons.1 hk with rfl | hk
    · exact wpOp_of_stepS hS (fun a w hS h => wpAnyH_of_treeS hsel hQ r _ a w hS hB1 h) h.1
    · obtain rfl : k = j := by simpa using hk
      exact wpOp_of_stepS hS (fun a w hS h => by rw [hd]; exact wpAnyH_of_treeS hsel hQ s _ a w hS hB2 h) h.2
theorem region_treeS {id : Nat} {Q : Exit → Act → World → Prop} {a : Act} {w : World} (S : List Nat) (L : OT) (hm : P.follows .mixedOrders = true) (hB : (Region.noSelect ops && decide (L.deep = ops.size) && L.okB ops (Array.replicate ops.size false)) = true)
    (h : ∀ W, Below w.heap.size w W → wpTrS P ops W S (noP Q) L a W) : (Code.region id ops true).wp P Q a w := by
  refine wp_mono (Q := noP Q) ?_ noP_le
  have h := h w.drew (Below.refl _ w).drew
  simp only [Bool.and_eq_true, decide_eq_true_eq] at hB
  obtain ⟨⟨hsel, hl⟩, hB⟩ := hB
  refine wp_region_held (S := ExtS w.drew S) hm ?_
  have h' := wpAnyH_of_treeS hsel (fun _ _ _ _ _ h => h.elim) L _ a _ (.of (Kb.refl _ _)) hB h
  rw [hl] at h'
  exact h'
theorem trS_nil {w0 : World} {Q : Exit → Act → World → Prop} {a : Act} {w : World} (h : Q .normal a w) : wpTrS P ops w0 S Q .nil a w := by simp only [wpTrS]; exact h
theorem trS_q {w0 : World} {Q : Exit → Act → World → Prop} {a : Act} {w : World} {i : Nat} {r : OT} {o : Oper} (ho : ops[i]? = some o)
    (h : ∀ K : Act → Prop, (∀ a', wpTrS P ops w0 S Q r a' w → K a') → takeS P ops w0 S o a K) : wpTrS P ops w0 S Q (.q i r) a w := by
  simp only [wpTrS, ho]
  exact h _ fun _ h => h
theorem trS_step {w0 : World} {Q : Exit → Act → World → Prop} {a : Act} {w : World} {i : Nat} {r : OT} {o : Oper} (ho : ops[i]? = some o)
    (h : ∀ K : Act → World → Prop, (∀ a' w', ExtS w0 S w' → wpTrS P ops w0 S Q r a' w' → K a' w') → if Region.wanted o (yielded ops a.tmps) then o.wp P a w K Q else K (a.put o.dst undef) w) :
    (match ops[i]? with
      | none => False
      | some o => if Region.wanted o (yielded ops a.tmps) then o.wp P a w (fun a' w' => ExtS w0 S w' ∧ wpTrS P ops w0 S Q r a' w') Q else wpTrS P ops w0 S Q r (a.put o.dst undef) w) := by
  rw [ho]
  dsimp only
  have h' := h (fun a' w' => ExtS w0 S w' ∧ wpTrS P ops w0 S Q r a' w') fun _ _ h1 h2 => ⟨h1, h2⟩
  split
  · rename_i hw; rw [if_pos hw] at h'; exact h'
  · rename_i hw; rw [if_neg hw] at h'; exact h'.2
theorem trS_t {w0 : World} {Q : Exit → Act → World → Prop} {a : Act} {w : World} {i : Nat} {r : OT} {o : Oper} (ho : ops[i]? = some o)
    (h : ∀ K : Act → World → Prop, (∀ a' w', ExtS w0 S w' → wpTrS P ops w0 S Q r a' w' → K a' w') → if Region.wanted o (yielded ops a.tmps) then o.wp P a w K Q else K (a.put o.dst undef) w) : wpTrS P ops w0 S Q (.t i r) a w := by
  simp only [wpTrS]
  exact trS_step ho h
theorem trS_two {w0 : World} {Q : Exit → Act → World → Prop} {a : Act} {w : World} {i j : Nat} {r s : OT} {o p : Oper} (ho : ops[i]? = some o) (hp : ops[j]? = some p)
    (h : ∀ K : Act → World → Prop, (∀ a' w', ExtS w0 S w' → wpTrS P ops w0 S Q r a' w' → K a' w') → if Region.wanted o (yielded ops a.tmps) then o.wp P a w K Q else K (a.put o.dst undef) w)
    (k : ∀ K : Act → World → Prop, (∀ a' w', ExtS w0 S w' → wpTrS P ops w0 S Q s a' w' → K a' w') → if Region.wanted p (yielded ops a.tmps) then p.wp P a w K Q else K (a.put p.dst undef) w) : wpTrS P ops w0 S Q (.two i r j s) a w := by
  simp only [wpTrS]
  exact ⟨trS_step ho h, trS_step hp k⟩
end
attribute [irreducible] wpTrS
end Go.Proofs.YtpnhmapkdbnkmaaGreatDoor
