/- Parts of these proofs, one behind the other: Reg, Base, Log, Wide. No condition. -/
import Derived.StillTail
import Derived.Deep.Quiet
import Derived.OrdersIn
import Derived.Below
import Derived.KernelRfl
import Derived.BigQuiet
import Derived.CallsIn
import Derived.OrdersHeld
import Derived.Deep.QuietTactic
import Derived.Maps.AppendAt
import Derived.Laws.OwnMore
import Derived.Laws.AppendOwnNone
import Derived.OwnWalk
import Derived.WalkKit
import Derived.RowKit3
import Derived.Deep.LoopGhost
import Derived.Outline
import Derived.IntWalk
import Derived.WalkLawsBesides
import Derived.WalkSpells
import Derived.Test.YtmpoihejacklnaaDoorProg
import Derived.Lib.Hide
import Derived.Laws.Rows
import Derived.Laws.BitsAllLaws
import Derived.Great.Ranges
import Derived.Great.BuildSlice
/- Regions that draw their order: a head of operations that yield one value in every world of a class, then a tail in one forced order; outside of a round and in one. No condition. -/
namespace Go.Proofs.YtmpoihejacklnaaDoor
open Go Go.RowKit

section
variable {P : Program} {ops : Array Oper} {md : Region.Mode} {C : World → Prop}

def wpAnyC (P : Program) (md : Region.Mode) (ops : Array Oper) (C : World → Prop) (n : Nat) (L : Array Bool → Act → Prop) : Nat → Array Bool → Act → Prop
  | 0, listed, a => L listed a
  | f + 1, listed, a =>
    Region.ready md ops listed ≠ [] ∧ ∀ i ∈ Region.ready md ops listed, i < n ∧ qOp P ops C i (wpAnyC P md ops C n L f (listed.setIfInBounds i true)) a

theorem wpAny_of_c {n g : Nat} {L : Array Bool → Act → Prop} {Q' : Exit → Act → World → Prop} (hL : ∀ listed a w, C w → L listed a → wpAny P md ops Q' g listed a w) :
    ∀ (f : Nat) (listed : Array Bool) (a : Act) (w : World), C w → wpAnyC P md ops C n L f listed a → wpAny P md ops Q' (f + g) listed a w
  | 0, listed, a, w, hw, h => by rw [Nat.zero_add]; exact hL _ _ _ hw h
  | f + 1, listed, a, w, hw, h => by
    rw [show f + 1 + g = (f + g) + 1 by omega]
    exact ⟨fun h0 => absurd h0 h.1, fun i hi => wpOp_of_qOp hw (fun a' w' hw' h' => wpAny_of_c hL f _ a' w' hw' h') (h.2 i hi).2⟩

theorem wpAnyC_first {n i : Nat} {oi : Oper} {v : Value} {L : Array Bool → Act → Prop} (hi : ops[i]? = some oi) (hsel : ∀ (j : Nat) (o : Oper) cs b, ops[j]? = some o → o.op ≠ .select cs b)
    (hs : Region.sinkB md ops n = true) (hc : Region.chainB md ops n = true) (hn : n < ops.size) (hin : i < n)
    (hdone : ∀ listed a, L listed a → ∀ j ∈ Region.ready md ops listed, n ≤ j) :
    ∀ (f : Nat) (listed : Array Bool) (a : Act), HeadInv md ops n listed →
      (∀ j oj, ops[j]? = some oj → j ≠ i → listed.getD j true = false → (∀ e ∈ oj.after, Region.binds md e = true → e.on ≠ i) → oi.apart ops oj = true) →
      i ∈ Region.ready md ops listed → YieldsIn P ops C oi v a →
      wpAnyC P md ops C n L f (listed.setIfInBounds i true) (a.put oi.dst v) → wpAnyC P md ops C n L (f + 1) listed a := by
  intro f
  induction f with
  | zero =>
    intro listed a inv _ hr hy H
    have hun := (mem_ready.1 hr).1
    refine ⟨fun h => (by rw [h] at hr; cases hr), fun j hj => ?_⟩
    have hjn : j < n := (Nat.lt_or_ge j n).resolve_right fun h => (tail_waits hs hc hn inv _ i rfl hin hun j h) hj
    refine ⟨hjn, ?_⟩
    by_cases hji : j = i
    · subst hji; exact hy.qOp hi H
    · have := hdone _ _ H j (ready_mono hj hji)
      omega
  | succ f ih =>
    intro listed a inv hfree hr hy H
    have hun := (mem_ready.1 hr).1
    refine ⟨fun h => (by rw [h] at hr; cases hr), fun j hj => ?_⟩
    have hjn : j < n := (Nat.lt_or_ge j n).resolve_right fun h => (tail_waits hs hc hn inv _ i rfl hin hun j h) hj
    refine ⟨hjn, ?_⟩
    by_cases hji : j = i
    · subst hji; exact hy.qOp hi H
    · have h1 := (H.2 j (ready_mono hj hji)).2
      obtain ⟨hjun, oj, hoj, hall⟩ := mem_ready.1 hj
      have hnot : ∀ e ∈ oj.after, Region.binds md e = true → e.on ≠ i := fun e he hb heq => by
        have h1 := hall e he hb
        rw [heq, getD_both hun] at h1
        cases h1
      have h2 := qOp_put hoj (hfree j oj hoj hji hjun hnot) (fun cs b => hsel i oi cs b hi) (fun cs b => hsel j oj cs b hoj) hy h1
      have hfree' : ∀ k ok, ops[k]? = some ok → k ≠ i → (listed.setIfInBounds j true).getD k true = false →
          (∀ e ∈ ok.after, Region.binds md e = true → e.on ≠ i) → oi.apart ops ok = true := fun k ok hk hki hun hno => by
        refine hfree k ok hk hki ?_ hno
        by_cases hjk : j = k
        · subst hjk; exact hjun
        · rw [getD_set_ne true hjk] at hun; exact hun
      refine qOp_mono (fun a' h3 => ih (listed.setIfInBounds j true) a' (inv.set hj hjn) hfree' (ready_mono hr (Ne.symm hji)) h3.1 ?_) h2
      rw [Array.setIfInBounds_comm _ _ hji]
      exact h3.2

theorem wpAnyC_lex {n g : Nat} {Lq : Act → Prop} (hsel : Region.noSelect ops = true) (hs : Region.sinkB md ops n = true) (hc : Region.chainB md ops n = true) (hn : n < ops.size) :
    ∀ (l : List Oper) (k : Nat) (listed : Array Bool) (a : Act), (∀ j, j < l.length → l[j]? = ops[k + j]?) → k + l.length = n → HeadInv md ops n listed →
    Region.lexHead md ops g l.length k listed = true → wpQuiet P ops C Lq l a →
    wpAnyC P md ops C n (fun listed' a' => Region.seqB md ops g n listed' = true ∧ Lq a') l.length listed a
  | [], k, listed, a, _, hk, _, hB, h => by
    have : k = n := by simpa using hk
    subst this
    exact ⟨by simpa [Region.lexHead] using hB, h⟩
  | o :: l, k, listed, a, hl, hk, inv, hB, h => by
    have h0 : ops[k]? = some o := by simpa using (hl 0 (by simp)).symm
    simp only [List.length_cons, Region.lexHead, Bool.and_eq_true] at hB
    obtain ⟨⟨hr, hf⟩, hB'⟩ := hB
    have hkn : k < n := by simp only [List.length_cons] at hk; omega
    have hr' : k ∈ Region.ready md ops listed := by simpa using hr
    have hst : qOp P ops C k (wpQuiet P ops C Lq l) a := by unfold qOp; simp only [h0]; exact h
    obtain ⟨v, hy, hK⟩ := yieldsIn_of_qOp h0 hst
    exact wpAnyC_first h0 (Region.noSelect_spec hsel) hs hc hn hkn (fun listed' a' hL => seqB_ready hL.1) l.length listed a inv (Region.free_spec h0 hf) hr' hy
      (wpAnyC_lex hsel hs hc hn l (k + 1) _ _ (fun j hj => by have := hl (j + 1) (by simp; omega); simpa [Nat.add_assoc, Nat.add_comm 1 j] using this) (by simp only [List.length_cons] at hk; omega) (inv.set hr' hkn) hB' hK)

theorem wpAny_qtail {Q : Exit → Act → World → Prop} {a : Act} {w : World} {l : List Oper} (n : Nat) (hB : Region.lexTailB .any l.toArray n = true) (hC : C w)
    (h : wpQuiet P l.toArray C (fun a' => ∀ W, C W → wpList P l.toArray Q (l.drop n) a' W) (l.take n) a) :
    wpAny P .any l.toArray Q l.toArray.size (Array.replicate l.toArray.size false) a w := by
  simp only [Region.lexTailB, Bool.and_eq_true, decide_eq_true_eq] at hB
  obtain ⟨⟨⟨⟨hsel, hn⟩, hs⟩, hc⟩, hlex⟩ := hB
  have hn' : n < l.length := by simpa using hn
  have htl : (l.take n).length = n := by simp; omega
  have hdl : (l.drop n).length = l.toArray.size - n := by simp
  have inv0 : HeadInv .any l.toArray n (Array.replicate l.toArray.size false) :=
    ⟨by simp, fun j oj _ hl => (by rw [getD_replicate_false] at hl; cases hl), fun t _ ht => getD_in (by simpa using ht) (getD_replicate_false _ _)⟩
  have H := wpAnyC_lex (md := .any) (g := l.toArray.size - n) hsel hs hc hn (l.take n) 0 _ a (fun j hj => by
    have hj' : j < n := by rw [htl] at hj; exact hj
    simp [hj']) (by simpa using htl) inv0 (by rw [htl]; exact hlex) h
  have := wpAny_of_c (Q' := Q) (g := l.toArray.size - n) (fun listed a' w' hw' hL => by
    have := wpAny_of_seq (md := .any) (Q' := Q) (l.drop n) n listed a' w' (fun j => by simp [List.getElem?_drop]) (by rw [hdl]; exact hL.1) (hL.2 w' hw')
    rwa [hdl] at this) _ _ _ w hC H
  rw [htl, show n + (l.toArray.size - n) = l.toArray.size by omega] at this
  exact this

/-- The same where all is head. -/
theorem wpAny_qall {Q : Exit → Act → World → Prop} {a : Act} {w : World} {l : List Oper} (hB : Region.lexB .any l.toArray = true) (hC : C w)
    (h : wpQuiet P l.toArray C (fun a' => ∀ W, C W → Q .normal a' W) l a) :
    wpAny P .any l.toArray Q l.toArray.size (Array.replicate l.toArray.size false) a w := by
  simp only [Region.lexB, Bool.and_eq_true] at hB
  exact wpAny_of_quiet (Q := fun a' => ∀ W, C W → Q .normal a' W) (Q' := Q) (fun a w hw h => h w hw) _ _ _ _ hC
    (by have := wpAnyQ_lex (md := .any) (P := P) (C := C) (ops := l.toArray) hB.1 l 0 (Array.replicate l.toArray.size false) a (by simp) (by simpa using hB.2) h; simpa using this)

theorem region_qtail {id : Nat} {Q : Exit → Act → World → Prop} {a : Act} {w : World} {l : List Oper} (n : Nat) (hm : P.follows .mixedOrders = true) (hB : Region.lexTailB .any l.toArray n = true) (C : World → Prop) (hC : C { w with drawn := w.drawn + 1 })
    (h : wpQuiet P l.toArray C (fun a' => ∀ W, C W → wpList P l.toArray Q (l.drop n) a' W) (l.take n) a) : (Code.region id l.toArray true).wp P Q a w :=
  wp_region_any hm (wpAny_qtail n hB hC h)
theorem region_qall {id : Nat} {Q : Exit → Act → World → Prop} {a : Act} {w : World} {l : List Oper} (hm : P.follows .mixedOrders = true) (hB : Region.lexB .any l.toArray = true) (C : World → Prop) (hC : C { w with drawn := w.drawn + 1 })
    (h : wpQuiet P l.toArray C (fun a' => ∀ W, C W → Q .normal a' W) l a) : (Code.region id l.toArray true).wp P Q a w :=
  wp_region_any hm (wpAny_qall hB hC h)
/-- The class: what was there is there. -/
theorem cls (w : World) : Below w.heap.size w { w with drawn := w.drawn + 1 } := (Below.refl _ w).drew

/-! ### In an order of one's own: plain operations are taken as soon as they may come up ('true'), the rest is forced ('false') -/
def orderB (ops : Array Oper) : List (Nat × Bool) → Array Bool → Bool
  | [], listed => (Region.ready .any ops listed).isEmpty
  | (i, true) :: r, listed => (Region.ready .any ops listed).contains i && Region.free .any ops listed i && orderB ops r (listed.setIfInBounds i true)
  | (i, false) :: r, listed => decide (Region.ready .any ops listed = [i]) && orderB ops r (listed.setIfInBounds i true)
/-- The worlds in which what is here still is. -/
structure Later (w : World) where
  W : World
  h : Below w.heap.size w W
def World.ext (w : World) (X : Later w) : World := X.W
theorem ext_cell (w : World) (X : Later w) (a : Addr) (h : (w.cell? a).isSome = true) : (World.ext w X).cell? a = w.cell? a := by
  obtain ⟨v, hv⟩ := Option.isSome_iff_exists.1 h
  exact X.h.cell (World.block_lt_of_cell? w a hv)
theorem ext_size (w : World) (X : Later w) : w.heap.size ≤ (World.ext w X).heap.size := X.h.size
instance (w : World) : Nonempty (Later w) := ⟨⟨w, Below.refl _ _⟩⟩
def Ext (w W : World) : Prop := ∃ X, W = World.ext w X
theorem Ext.of {w W : World} (h : Below w.heap.size w W) : Ext w W := ⟨⟨W, h⟩, rfl⟩
/-- A plain operation: one value in every world in which what is here still is. -/
def takeQ (P : Program) (ops : Array Oper) (w0 : World) (o : Oper) (a : Act) (K : Act → Prop) : Prop :=
  if Region.wanted o (yielded ops a.tmps) then ∃ v, (∀ X, (execOp a.eval o).run P (World.ext w0 X) = .ok (.value v) (World.ext w0 X)) ∧ K (a.put o.dst v) else K (a.put o.dst undef)
def wpSeq (P : Program) (ops : Array Oper) (w0 : World) (Q : Exit → Act → World → Prop) : List (Nat × Bool) → Act → World → Prop
  | [], a, w => Q .normal a w
  | (i, true) :: r, a, w => match ops[i]? with
    | none => False
    | some o => takeQ P ops w0 o a (fun a' => wpSeq P ops w0 Q r a' w)
  | (i, false) :: r, a, w => match ops[i]? with
    | none => False
    | some o => if Region.wanted o (yielded ops a.tmps) then o.wp P a w (fun a' w' => Ext w0 w' ∧ wpSeq P ops w0 Q r a' w') Q else wpSeq P ops w0 Q r (a.put o.dst undef) w
theorem wpAnyH_of_seq {w0 : World} {Q : Exit → Act → World → Prop} (hsel : Region.noSelect ops = true) (hQ : ∀ c a d v w, Q (.panic c) (Act.put a d v) w → Q (.panic c) a w) :
    ∀ (l : List (Nat × Bool)) (listed : Array Bool) (a : Act) (w : World), Ext w0 w → orderB ops l listed = true → wpSeq P ops w0 Q l a w → wpAnyH P .any ops Q (Ext w0) l.length listed a w
  | [], listed, a, w, _, hB, h => by
    have h0 : Region.ready .any ops listed = [] := by simpa [orderB] using hB
    exact wpAnyH_done h0 h 0
  | (i, true) :: r, listed, a, w, hS, hB, h => by
    simp only [orderB, Bool.and_eq_true] at hB
    obtain ⟨⟨hr, hf⟩, hB⟩ := hB
    simp only [wpSeq] at h
    cases ho : ops[i]? with
    | none => rw [ho] at h; exact h.elim
    | some o =>
      rw [ho] at h
      simp only [takeQ] at h
      by_cases hw : Region.wanted o (yielded ops a.tmps) = true
      · rw [if_pos hw] at h
        obtain ⟨v, h1, h2⟩ := h
        exact wpAnyH_take ho hsel hf hr (fun c a w => hQ c a _ _ w) (.inl ⟨hw, fun W hW => by obtain ⟨X, rfl⟩ := hW; exact h1 X⟩) hS (wpAnyH_of_seq hsel hQ r _ _ w hS hB h2)
      · rw [if_neg hw] at h
        exact wpAnyH_take ho hsel hf hr (fun c a w => hQ c a _ _ w) (.inr ⟨by simpa using hw, rfl⟩) hS (wpAnyH_of_seq hsel hQ r _ _ w hS hB h)
  | (i, false) :: r, listed, a, w, hS, hB, h => by
    simp only [orderB, Bool.and_eq_true, decide_eq_true_eq] at hB
    obtain ⟨hr, hB⟩ := hB
    simp only [wpSeq] at h
    refine wpAnyH_all hr (by simp) fun j hj => ?_
    obtain rfl : j = i := by simpa using hj
    cases ho : ops[j]? with
    | none => rw [ho] at h; exact h.elim
    | some o =>
      rw [ho] at h
      unfold wpOp
      rw [ho]
      dsimp only at h ⊢
      by_cases hw : Region.wanted o (yielded ops a.tmps) = true
      · rw [if_pos hw] at h ⊢
        exact .inl (Oper.wp_mono (fun a' w' h' => ⟨h'.1, wpAnyH_of_seq hsel hQ r _ a' w' h'.1 hB h'.2⟩) h)
      · rw [if_neg hw] at h ⊢
        exact ⟨hS, wpAnyH_of_seq hsel hQ r _ _ w hS hB h⟩
theorem region_seq {id : Nat} {Q : Exit → Act → World → Prop} {a : Act} {w : World} (L : List (Nat × Bool)) (hm : P.follows .mixedOrders = true) (hB : (Region.noSelect ops && decide (L.length = ops.size) && orderB ops L (Array.replicate ops.size false)) = true)
    (hQ : ∀ c a d v w, Q (.panic c) (Act.put a d v) w → Q (.panic c) a w) (h : ∀ W, Below w.heap.size w W → wpSeq P ops W Q L a W) : (Code.region id ops true).wp P Q a w := by
  have h := h w.drew (Below.refl _ w).drew
  simp only [Bool.and_eq_true, decide_eq_true_eq] at hB
  obtain ⟨⟨hsel, hl⟩, hB⟩ := hB
  refine wp_region_held (S := Ext w.drew) hm ?_
  have h' := wpAnyH_of_seq hsel hQ L _ a _ (.of (Below.refl _ _)) hB h
  rw [hl] at h'
  exact h'
theorem seq_nil {w0 : World} {Q : Exit → Act → World → Prop} {a : Act} {w : World} (h : Q .normal a w) : wpSeq P ops w0 Q [] a w := by simp only [wpSeq]; exact h
/-- The steps. -/
theorem seq_q {w0 : World} {Q : Exit → Act → World → Prop} {a : Act} {w : World} {i : Nat} {r : List (Nat × Bool)} {o : Oper} (ho : ops[i]? = some o)
    (h : ∀ K : Act → Prop, (∀ a', wpSeq P ops w0 Q r a' w → K a') → takeQ P ops w0 o a K) : wpSeq P ops w0 Q ((i, true) :: r) a w := by
  simp only [wpSeq, ho]
  exact h _ fun _ h => h
theorem seq_t {w0 : World} {Q : Exit → Act → World → Prop} {a : Act} {w : World} {i : Nat} {r : List (Nat × Bool)} {o : Oper} (ho : ops[i]? = some o)
    (h : ∀ K : Act → World → Prop, (∀ a' w', Ext w0 w' → wpSeq P ops w0 Q r a' w' → K a' w') → if Region.wanted o (yielded ops a.tmps) then o.wp P a w K Q else K (a.put o.dst undef) w) : wpSeq P ops w0 Q ((i, false) :: r) a w := by
  simp only [wpSeq, ho]
  have h' := h (fun a' w' => Ext w0 w' ∧ wpSeq P ops w0 Q r a' w') fun _ _ h1 h2 => ⟨h1, h2⟩
  split
  · rename_i hw; rw [if_pos hw] at h'; exact h'
  · rename_i hw; rw [if_neg hw] at h'; exact h'.2
end
attribute [irreducible] wpSeq
attribute [go_sem] ext_cell
end Go.Proofs.YtmpoihejacklnaaDoor
/- Base words of these proofs: how slices in memory read as lists, and how such readings outlive calls and stores. No condition. -/
namespace Go.Proofs.YtmpoihejacklnaaDoor
open Go.RowKit

/-- How one element lies in memory: k cells. -/
structure Enc (α : Type) where
  k : Nat
  e : α → List Value
  len : ∀ x, (e x).length = k
  one : ∀ x, ∀ v ∈ e x, v.oneCell' = true

/-- The cells from A on read as xs. -/
def SlA {α : Type} (E : Enc α) (w : World) (A : Option Addr) (xs : List α) : Prop :=
  ∀ j x, xs[j]? = some x → ∃ b o, A = some ⟨b, o, none⟩ ∧ b < w.heap.size ∧ ∀ i u, (E.e x)[i]? = some u → w.cell? ⟨b, o + j * E.k + i, none⟩ = some u
/-- A slice value reads as xs. -/
def SlV {α : Type} (E : Enc α) (w : World) (v : Value) (xs : List α) : Prop :=
  ∃ A c, v = .slice A xs.length c ∧ xs.length ≤ c ∧ c ≤ 9223372036854775807 ∧ SlA E w A xs

/-- Below over one's own heap. -/
theorem Bst {a W w2 : World} (h : Below a.heap.size a W) (k : Below W.heap.size W w2) : Below a.heap.size a w2 :=
  h.trans (k.mono h.size)
theorem Bal {a W : World} (h : Below a.heap.size a W) (o : Obj) : Below a.heap.size a (W.alloc o) := h.alloc h.size o
theorem Bsc {a W : World} (h : Below a.heap.size a W) {p : Addr} (hp : a.heap.size ≤ p.block) (u : Value) : Below a.heap.size a (W.setCell p u) := h.setCell hp u
theorem Bdn {a W : World} (h : Below a.heap.size a W) (n : Nat) : Below a.heap.size a (W.drewN n) := ⟨h.os, h.tape, h.output, h.size, h.block⟩
theorem Bgr {a W w2 : World} {row : Option Nat} (h : Below a.heap.size a W) (hg : W.grownBy w2 row) (hr : ∀ k, row = some k → a.heap.size ≤ k) : Below a.heap.size a w2 := h.grown hg h.size hr
theorem drew_size (w : World) : w.drew.heap.size = w.heap.size := rfl
theorem drewN_size (w : World) (n : Nat) : (w.drewN n).heap.size = w.heap.size := rfl
attribute [go_sem] drew_size drewN_size
theorem bcell {W w1 : World} (hb : Below W.heap.size W w1) : (∀ b o, b < W.heap.size → w1.cell? ⟨b, o, none⟩ = W.cell? ⟨b, o, none⟩) ∧ (∀ b o, b < W.heap.size → w1.frozen? ⟨b, o, none⟩ = W.frozen? ⟨b, o, none⟩) :=
  ⟨fun b o h => hb.cell (p := ⟨b, o, none⟩) h, fun b o h => hb.frozen (p := ⟨b, o, none⟩) h⟩

/-- A goal on what was there, found by what stands in the context. -/
theorem Bel {a w : World} (h : Below a.heap.size a w := by repeat (first | assumption | exact Below.refl _ _ | refine Bal ?_ _ | refine Bdn ?_ _ | refine Below.drew ?_ | refine Bst ?_ (by assumption) | refine Bsc ?_ (by first | (simp; done) | (simp; omega) | omega) _)) : Below a.heap.size a w := h

section
variable {α : Type} {E : Enc α} {w w' : World} {A : Option Addr} {v : Value} {xs : List α}
theorem SlA.below (h : SlA E w A xs) (hb : Below w.heap.size w w') : SlA E w' A xs := fun j x hx => by
  obtain ⟨b, o, hA, hlt, hc⟩ := h j x hx
  exact ⟨b, o, hA, Nat.lt_of_lt_of_le hlt hb.size, fun i u hu => (hb.cell (p := ⟨b, _, none⟩) hlt).trans (hc i u hu)⟩
theorem SlV.below (h : SlV E w v xs) (hb : Below w.heap.size w w') : SlV E w' v xs := by
  obtain ⟨A, c, h1, h2, h3, h4⟩ := h
  exact ⟨A, c, h1, h2, h3, h4.below hb⟩
theorem SlA.nil : SlA E w A [] := fun j x hx => by simp at hx
theorem SlV.nil : SlV E w (.slice none 0 0) [] := ⟨none, 0, rfl, by simp, by omega, SlA.nil⟩
theorem SlA.at (h : SlA E w A xs) (hb : Below w.heap.size w w') (j : Nat) (hj : j < xs.length) :
    ∃ b o, A = some ⟨b, o, none⟩ ∧ b < w.heap.size ∧ ∀ i u, (E.e xs[j])[i]? = some u → w'.cell? ⟨b, o + j * E.k + i, none⟩ = some u :=
  let ⟨b, o, hA, hlt, hc⟩ := h j xs[j] (List.getElem?_eq_getElem hj)
  ⟨b, o, hA, hlt, fun i u hu => (hb.cell (p := ⟨b, _, none⟩) hlt).trans (hc i u hu)⟩
theorem SlA.at1 {f1 : α → Value} (hE : ∀ x, E.e x = [f1 x]) (h : SlA E w A xs) (hb : Below w.heap.size w w') (j : Nat) (hj : j < xs.length) :
    ∃ b o, A = some ⟨b, o, none⟩ ∧ w'.cell? ⟨b, o + j, none⟩ = some (f1 xs[j]) := by
  obtain ⟨b, o, hA, _, hc⟩ := h.at hb j hj
  have hk : E.k = 1 := by rw [← E.len xs[j], hE]; rfl
  rw [hk, hE] at hc
  exact ⟨b, o, hA, by simpa using hc 0 _ rfl⟩
theorem SlA.at2 {f1 f2 : α → Value} (hE : ∀ x, E.e x = [f1 x, f2 x]) (h : SlA E w A xs) (hb : Below w.heap.size w w') (j : Nat) (hj : j < xs.length) :
    ∃ b o, A = some ⟨b, o, none⟩ ∧ w'.cell? ⟨b, o + j * 2, none⟩ = some (f1 xs[j]) ∧ w'.cell? ⟨b, o + j * 2 + 1, none⟩ = some (f2 xs[j]) := by
  obtain ⟨b, o, hA, _, hc⟩ := h.at hb j hj
  have hk : E.k = 2 := by rw [← E.len xs[j], hE]; rfl
  rw [hk, hE] at hc
  exact ⟨b, o, hA, hc 0 _ rfl, hc 1 _ rfl⟩
theorem SlA.at3 {f1 f2 f3 : α → Value} (hE : ∀ x, E.e x = [f1 x, f2 x, f3 x]) (h : SlA E w A xs) (hb : Below w.heap.size w w') (j : Nat) (hj : j < xs.length) :
    ∃ b o, A = some ⟨b, o, none⟩ ∧ w'.cell? ⟨b, o + j * 3, none⟩ = some (f1 xs[j]) ∧ w'.cell? ⟨b, o + j * 3 + 1, none⟩ = some (f2 xs[j]) ∧ w'.cell? ⟨b, o + j * 3 + 2, none⟩ = some (f3 xs[j]) := by
  obtain ⟨b, o, hA, _, hc⟩ := h.at hb j hj
  have hk : E.k = 3 := by rw [← E.len xs[j], hE]; rfl
  rw [hk, hE] at hc
  exact ⟨b, o, hA, hc 0 _ rfl, hc 1 _ rfl, hc 2 _ rfl⟩
end

theorem SlA.n3 {α : Type} {E : Enc α} {w w' : World} {A : Option Addr} {xs : List α} {f1 f2 f3 : α → Value} (hE : ∀ x, E.e x = [f1 x, f2 x, f3 x]) (h : SlA E w A xs) (hb : Below w.heap.size w w') (j : Nat) (hj : j < xs.length) :
    ∃ b o, A = some ⟨b, o, none⟩ ∧ b < w'.heap.size ∧ w'.cell? ⟨b, o + j * 3, none⟩ = some (f1 xs[j]) ∧ w'.cell? ⟨b, o + j * 3 + 1, none⟩ = some (f2 xs[j]) ∧ w'.cell? ⟨b, o + j * 3 + 2, none⟩ = some (f3 xs[j]) := by
  obtain ⟨b, o, hA, hlt, hc⟩ := h.at hb j hj
  have hk : E.k = 3 := by rw [← E.len xs[j], hE]; rfl
  rw [hk, hE] at hc
  exact ⟨b, o, hA, Nat.lt_of_lt_of_le hlt hb.size, hc 0 _ rfl, hc 1 _ rfl, hc 2 _ rfl⟩

/-- Texts, and a number: blocks and rules. -/
structure T3 where
  f : ByteArray
  t : ByteArray
  n : Int
def eT3 : Enc T3 := ⟨3, fun b => [.string b.f, .string b.t, .int .i64 b.n], fun _ => rfl, fun _ v hv => by simp at hv; rcases hv with rfl | rfl | rfl <;> rfl⟩
theorem eT3_e (x : T3) : eT3.e x = [.string x.f, .string x.t, .int .i64 x.n] := rfl
def eStr : Enc ByteArray := ⟨1, fun b => [.string b], fun _ => rfl, fun _ v hv => by simp at hv; subst hv; rfl⟩
def eInt (k : IntKind) : Enc Int := ⟨1, fun b => [.int k b], fun _ => rfl, fun _ v hv => by simp at hv; subst hv; rfl⟩

/-- Rows that the call owns. -/
def Own {α : Type} (E : Enc α) (base : Nat) (e : TypeId) (w : World) (v : Value) (xs : List α) : Prop := w.ownsRow base e E.k v xs.length (xs.flatMap E.e)
section
variable {α : Type} {E : Enc α} {base : Nat} {e : TypeId} {w w' : World} {v : Value} {xs : List α}
theorem flat_get (E : Enc α) : ∀ (xs : List α) (j : Nat) (x : α) (i : Nat) (u : Value), xs[j]? = some x → (E.e x)[i]? = some u → (xs.flatMap E.e)[j * E.k + i]? = some u
  | [], j, x, i, u, h, _ => by simp at h
  | y :: ys, 0, x, i, u, h, hu => by
    obtain rfl : y = x := by simpa using h
    have hi : i < (E.e y).length := (List.getElem?_eq_some_iff.1 hu).1
    simp only [List.flatMap_cons, Nat.zero_mul, Nat.zero_add]
    rw [List.getElem?_append_left hi]; exact hu
  | y :: ys, j + 1, x, i, u, h, hu => by
    have ih := flat_get E ys j x i u (by simpa using h) hu
    simp only [List.flatMap_cons]
    rw [List.getElem?_append_right (by rw [E.len, Nat.add_mul]; omega), E.len]
    have : (j + 1) * E.k + i - E.k = j * E.k + i := by rw [Nat.add_mul]; omega
    rw [this]; exact ih
theorem Own.nil (w : World) : Own E base e w (.slice none 0 0) [] := World.ownsRow_nil w base e E.k
theorem Own.slv (h : Own E base e w v xs) : SlV E w v xs := by
  have hh := h
  rcases h.2 with ⟨rfl, h0⟩ | ⟨g, cap, cur, rfl, hb, hg, h1, h2, _⟩
  · obtain rfl : xs = [] := List.eq_nil_of_length_eq_zero h0
    exact SlV.nil
  · refine ⟨_, cap, rfl, h1, by simpa [maxLen] using h2, fun j x hx => ⟨g, 0, rfl, (Array.getElem?_eq_some_iff.1 hg).1, fun i u hu => ?_⟩⟩
    have := hh.cells (g := g) rfl (j * E.k + i) u (flat_get E xs j x i u hx hu)
    have ha : (⟨g, 0, none⟩ : Addr).add (j * E.k + i) = ⟨g, 0 + j * E.k + i, none⟩ := by unfold Addr.add; split <;> simp_all
    rwa [ha] at this
theorem Own.kept {row : Option Nat} (h : Own E base e w v xs) (hg : w.grownBy w' row) (hne : v.ownBlock = none ∨ v.ownBlock ≠ row) : Own E base e w' v xs := World.ownsRow.kept h hg hne
theorem Own.below (h : Own E base e w v xs) (hb : Below w.heap.size w w') : Own E base e w' v xs :=
  h.kept (row := none) ⟨hb.os, hb.tape, hb.output, hb.size, fun i hi _ => hb.block i hi⟩ (by cases v.ownBlock <;> simp)
theorem Own.alloc (h : Own E base e w v xs) (o : Obj) : Own E base e (w.alloc o) v xs := World.ownsRow.alloc h o
theorem Own.ge (h : Own E base e w v xs) : ∀ k, v.ownBlock = some k → base ≤ k := fun k hk => (World.ownsRow.lt h k hk).1
theorem Own.lower {base' : Nat} (h : Own E base e w v xs) (hb : base' ≤ base) : Own E base' e w v xs := by
  obtain ⟨h1, h2⟩ := h
  refine ⟨h1, ?_⟩
  rcases h2 with h2 | ⟨g, cap, cur, rfl, hg, r⟩
  · exact .inl h2
  · exact .inr ⟨g, cap, cur, rfl, Nat.le_trans hb hg, r⟩
end

/-- What a literal, a make lays reads as it. -/
theorem SlA.new {α : Type} (E : Enc α) (w : World) (xs : List α) (t : TypeId) (n : Nat) (hn : n = w.heap.size) (cs : Array Value) (hcs : cs.toList = xs.flatMap E.e) : SlA E (w.alloc (.cells cs t)) (some ⟨n, 0, none⟩) xs := by
  subst hn
  intro j x hx
  refine ⟨w.heap.size, 0, rfl, by simp, fun i u hu => ?_⟩
  have h := flat_get E xs j x i u hx hu
  rw [← hcs] at h
  have hh : (w.alloc (.cells cs t)).heap[w.heap.size]? = some (.cells cs t (0, 0)) := by
    show (w.heap.push _)[w.heap.size]? = _
    simp
  simp only [World.cell?, hh, Nat.zero_add]
  simpa using h

/-- Where the slice's row lies behind an append: where it lay, or new. -/
def Moved (W : World) (v v' : Value) : Prop := v'.ownBlock = v.ownBlock ∨ v'.ownBlock = some W.heap.size
/-- 'append(s, x...)': s is owned, x reads as ys. -/
theorem app {α : Type} {E : Enc α} {P : Program} {ops : Array Oper} {rest : List Oper} {o : Oper} {a : Act} {Q : Exit → Act → World → Prop} {w0 W : World} (s x : Operand) (t e : TypeId) (z : Value) (bytes : Nat)
    (hgd : o.guard = none) (ho : o.op = .call { callee := .builtin .append, args := #[s, x], argTypes := #[t, t] })
    (ht : P.underlying t = some (.slice e)) (hinfo : (P.info? e).map (fun i => (i.zero, i.size, i.bytes)) = some (some z, E.k, bytes)) (hz : z.cells.size = E.k) (hk : 0 < E.k) (hby : 0 < bytes)
    (v : Value) (xs ys : List α) (A : Addr) (m c : Nat) (hs : a.eval s = v) (hx : a.eval x = .slice (some A) m c) (hm : m = ys.length)
    (HO : Own E w0.heap.size e W v xs) (HS : SlA E W (some A) ys) (hb : Below w0.heap.size w0 W) (hl : (xs.length + ys.length) * bytes ≤ 140737488355328)
    (h : ∀ v' w1, Own E w0.heap.size e w1 v' (xs ++ ys) → Below w0.heap.size w0 w1 → W.grownBy w1 v.ownBlock → Moved W v v' → wpList P ops Q rest (a.put o.dst v') w1) :
    wpList P ops Q (o :: rest) a W := by
  obtain ⟨i0, hi, hzz⟩ := Option.map_eq_some_iff.1 hinfo
  simp only [Prod.mk.injEq] at hzz
  obtain ⟨hz0, hz1, hz2⟩ := hzz
  subst hm
  have hlen : xs.length + ys.length ≤ 140737488355328 := Nat.le_trans (Nat.le_mul_of_pos_right _ hby) hl
  have hfl : ∀ l : List α, (l.flatMap E.e).length = l.length * E.k := fun l => by
    induction l with
    | nil => simp
    | cons y l ih => simp only [List.flatMap_cons, List.length_append, E.len, ih, List.length_cons, Nat.add_mul]; omega
  refine wpList_append_own_at W hgd s x t ho w0.heap.size e i0 z E.k bytes ht hi hz0 hz1 hz2 hz hk v xs.length _ hs HO A ys.length c (ys.flatMap E.e) hx (hfl ys) ?_ ?_ (by simp only [maxLen]; omega) hl hb.size ?_
  · intro j u hu
    have hj : j < (ys.flatMap E.e).length := (List.getElem?_eq_some_iff.1 hu).1
    rw [hfl] at hj
    have hq : j / E.k < ys.length := Nat.div_lt_of_lt_mul (by rw [Nat.mul_comm]; exact hj)
    obtain ⟨b, o', hA, _, hc⟩ := HS (j / E.k) _ (List.getElem?_eq_getElem hq)
    obtain rfl : A = ⟨b, o', none⟩ := by injection hA
    have hr : j % E.k < (E.e ys[j / E.k]).length := by rw [E.len]; exact Nat.mod_lt _ hk
    have h1 := flat_get E ys (j / E.k) _ (j % E.k) _ (List.getElem?_eq_getElem hq) (List.getElem?_eq_getElem hr)
    have hjj : j / E.k * E.k + j % E.k = j := by rw [Nat.mul_comm]; exact Nat.div_add_mod j E.k
    rw [hjj, hu] at h1
    have h2 := hc (j % E.k) _ (List.getElem?_eq_getElem hr)
    have ha : (⟨b, o', none⟩ : Addr).add j = ⟨b, o' + j, none⟩ := by unfold Addr.add; split <;> simp_all
    rw [ha, h1, ← h2, Nat.add_assoc, hjj]
  · intro u hu
    obtain ⟨y, _, hy⟩ := List.mem_flatMap.1 hu
    exact E.one y u hy
  · intro v' w' hown hg _ hat
    exact h v' w' (by unfold Own; rw [List.length_append, List.flatMap_append]; exact hown) (Bgr hb hg (Own.ge HO)) hg hat

theorem ret_int {k : IntKind} {a b : Int} (h : a = b) : Ending.returned (.int k a) = .returned (.int k b) := by rw [h]
/-- A function that returns v and leaves what there was. -/
def Ret (w : World) (v : Value) (e : Ending) (w' : World) : Prop := e = .returned v ∧ Below w.heap.size w w'
end Go.Proofs.YtmpoihejacklnaaDoor
/- Numbers as rows of digits, and how often a sixteenth of a doubling fits between two: plain. No condition. -/
namespace Go.Proofs.YtmpoihejacklnaaDoor
/-- How often a sixteenth of a doubling fits. -/
def ratioN (a b : Nat) : Nat := Nat.log2 (a ^ 16 / b ^ 16)
theorem ratio_of {a b k : Nat} (hb : 0 < b) (h1 : 2 ^ k * b ^ 16 ≤ a ^ 16) (h2 : a ^ 16 < 2 ^ (k + 1) * b ^ 16) : ratioN a b = k := by
  unfold ratioN
  have hp : 0 < b ^ 16 := Nat.pow_pos hb
  have e1 : 2 ^ k ≤ a ^ 16 / b ^ 16 := (Nat.le_div_iff_mul_le hp).2 h1
  have e2 : a ^ 16 / b ^ 16 < 2 ^ (k + 1) := (Nat.div_lt_iff_lt_mul hp).2 h2
  have h0 : 0 < 2 ^ k := Nat.pow_pos (by omega)
  exact (Nat.log2_eq_iff (by omega)).2 ⟨e1, e2⟩
/-- The number of a row of digits, the lowest first. -/
def valB (B : Int) : List Int → Int
  | [] => 0
  | x :: r => x + B * valB B r
theorem valB_set (B : Int) : ∀ (l : List Int) (j : Nat) (h : j < l.length) (v : Int), valB B (l.set j v) = valB B l + (v - l[j]) * B ^ j
  | x :: r, 0, _, v => by simp [valB]; omega
  | x :: r, j + 1, h, v => by
    have ih := valB_set B r j (by simpa using h) v
    simp only [List.set_cons_succ, valB, List.getElem_cons_succ, ih]
    grind
theorem valB_append (B : Int) : ∀ (l m : List Int), valB B (l ++ m) = valB B l + B ^ l.length * valB B m
  | [], m => by simp [valB]
  | x :: l, m => by
    simp only [List.cons_append, valB, valB_append B l m, List.length_cons]
    grind
theorem valB_take (B : Int) (l : List Int) (k : Nat) (h : k < l.length) : valB B (l.take (k + 1)) = valB B (l.take k) + l[k] * B ^ k := by
  rw [List.take_succ_eq_append_getElem h, valB_append]
  simp [valB, Nat.min_eq_left (Nat.le_of_lt h)]
  grind
theorem valB_rep (B : Int) (n : Nat) : valB B (List.replicate n 0) = 0 := by
  induction n with
  | zero => rfl
  | succ n ih => simp [List.replicate_succ, valB, ih]
/-- Digits of a base. -/
def DigB (B : Int) (l : List Int) : Prop := ∀ x ∈ l, 0 ≤ x ∧ x < B
theorem DigB.at {B : Int} {l : List Int} (h : DigB B l) (k : Nat) (hk : k < l.length) : 0 ≤ l[k] ∧ l[k] < B := h _ (List.getElem_mem hk)
theorem DigB.set {B : Int} {l : List Int} (h : DigB B l) (k : Nat) {v : Int} (h0 : 0 ≤ v) (h1 : v < B) : DigB B (l.set k v) := fun x hx => by
  rcases List.mem_or_eq_of_mem_set hx with hx | rfl
  · exact h x hx
  · exact ⟨h0, h1⟩
theorem valB_nonneg {B : Int} (hB : 0 ≤ B) : ∀ {l : List Int}, (∀ x ∈ l, 0 ≤ x) → 0 ≤ valB B l
  | [], _ => by simp [valB]
  | x :: r, h => by
    have h1 := h x (by simp)
    have h2 := valB_nonneg hB (l := r) fun y hy => h y (by simp [hy])
    have h3 := Int.mul_nonneg hB h2
    simp only [valB]; omega
theorem valB_lt {B : Int} (hB : 0 < B) : ∀ {l : List Int}, DigB B l → valB B l < B ^ l.length
  | [], _ => by simp [valB]
  | x :: r, h => by
    have h1 := h x (by simp)
    have h2 := valB_lt hB (l := r) fun y hy => h y (by simp [hy])
    have h3 : B * (valB B r + 1) ≤ B * B ^ r.length := Int.mul_le_mul_of_nonneg_left (by omega) (by omega)
    simp only [valB, List.length_cons]
    have h4 : B ^ (r.length + 1) = B * B ^ r.length := by rw [Int.pow_succ, Int.mul_comm]
    have h5 : B * (valB B r + 1) = B * valB B r + B := by grind
    omega
/-- The higher digit decides. -/
theorem valB_less {B : Int} (hB : 0 < B) {l m : List Int} (hl : DigB B l) (hm : DigB B m) (hlen : l.length = m.length) (k : Nat) (hk : k < l.length) (hk' : k < m.length) (hs : l.drop (k + 1) = m.drop (k + 1)) (h : l[k] < m[k]) : valB B l < valB B m := by
  have e1 : l = l.take (k + 1) ++ l.drop (k + 1) := (List.take_append_drop _ _).symm
  have e2 : m = m.take (k + 1) ++ m.drop (k + 1) := (List.take_append_drop _ _).symm
  rw [e1, e2, valB_append, valB_append, hs, List.length_take, List.length_take, Nat.min_eq_left (by omega), Nat.min_eq_left (by omega), valB_take B l k hk, valB_take B m k hk']
  have h1 := valB_lt hB (l := l.take k) fun x hx => hl x (List.mem_of_mem_take hx)
  rw [List.length_take, Nat.min_eq_left (by omega)] at h1
  have h2 := valB_nonneg (B := B) (by omega) (l := m.take k) fun x hx => (hm x (List.mem_of_mem_take hx)).1
  have h3 : (l[k] + 1) * B ^ k ≤ m[k] * B ^ k := Int.mul_le_mul_of_nonneg_right (by omega) (Int.le_of_lt (Int.pow_pos hB))
  have h4 : (l[k] + 1) * B ^ k = l[k] * B ^ k + B ^ k := by grind
  omega
/-- No digit too many. -/
def TopB (l : List Int) : Prop := ∀ h : l ≠ [], l.getLast h ≠ 0
theorem top_len {B : Int} (hB : 1 < B) {l : List Int} (hd : DigB B l) (ht : TopB l) {m : Nat} (h : valB B l < B ^ m) : l.length ≤ m := by
  rcases Nat.lt_or_ge m l.length with hlt | hge
  · exfalso
    have hne : l ≠ [] := by intro e; subst e; simp at hlt
    have e1 : l = l.dropLast ++ [l.getLast hne] := (List.dropLast_concat_getLast hne).symm
    have h1 := ht hne
    have h2 := hd _ (List.getLast_mem hne)
    have h3 := valB_nonneg (B := B) (by omega) (l := l.dropLast) fun x hx => (hd x ((List.dropLast_sublist l).subset hx)).1
    rw [e1, valB_append, List.length_dropLast] at h
    have h4 : B ^ m ≤ B ^ (l.length - 1) := by
      obtain ⟨d, hd'⟩ : ∃ d, l.length - 1 = m + d := ⟨l.length - 1 - m, by omega⟩
      have h6 : 0 < B ^ d := Int.pow_pos (by omega)
      have h7 : B ^ m * 1 ≤ B ^ m * B ^ d := Int.mul_le_mul_of_nonneg_left (by omega) (Int.le_of_lt (Int.pow_pos (by omega)))
      rw [hd', Int.pow_add]; omega
    have h5 : B ^ (l.length - 1) * 1 ≤ B ^ (l.length - 1) * l.getLast hne := Int.mul_le_mul_of_nonneg_left (by omega) (Int.le_of_lt (Int.pow_pos (by omega)))
    simp only [valB, Int.mul_zero, Int.add_zero, Int.mul_one] at h h5
    omega
  · exact hge
/-- Fewer digits, smaller. -/
theorem top_less {B : Int} (hB : 1 < B) {l m : List Int} (hl : DigB B l) (hm : DigB B m) (ht : TopB m) (h : l.length < m.length) : valB B l < valB B m := by
  rcases Int.lt_or_le (valB B l) (valB B m) with h1 | h1
  · exact h1
  · exfalso
    have h2 := valB_lt (by omega) hl
    have h3 := top_len hB hm ht (m := l.length) (by omega)
    omega
theorem valB_inj {B : Int} (hB : 0 < B) : ∀ {l m : List Int}, DigB B l → DigB B m → l.length = m.length → valB B l = valB B m → l = m
  | [], [], _, _, _, _ => rfl
  | x :: l, y :: m, hl, hm, hlen, h => by
    have h1 := hl x (by simp)
    have h2 := hm y (by simp)
    simp only [valB] at h
    have e : x = y := by
      have h3 : (x + B * valB B l) % B = x % B := Int.add_mul_emod_self_left ..
      have h4 : (y + B * valB B m) % B = y % B := Int.add_mul_emod_self_left ..
      rw [h, h4, Int.emod_eq_of_lt h2.1 h2.2, Int.emod_eq_of_lt h1.1 h1.2] at h3
      exact h3.symm
    subst e
    have h5 : B * valB B l = B * valB B m := by omega
    have h6 := Int.eq_of_mul_eq_mul_left (by omega) h5
    rw [valB_inj hB (fun z hz => hl z (by simp [hz])) (fun z hz => hm z (by simp [hz])) (by simpa using hlen) h6]
/-! ### the answer -/
theorem ratio_le (a : Nat) {b c : Nat} (hb : 0 < b) (h : b ≤ c) : ratioN a c ≤ ratioN a b := by
  unfold ratioN
  have h1 : b ^ 16 ≤ c ^ 16 := Nat.pow_le_pow_left h 16
  have h2 : a ^ 16 / c ^ 16 ≤ a ^ 16 / b ^ 16 := Nat.div_le_div_left h1 (Nat.pow_pos hb)
  rcases Nat.eq_zero_or_pos (a ^ 16 / c ^ 16) with h0 | h0
  · rw [h0]; exact Nat.zero_le _
  · exact (Nat.le_log2 (by omega)).2 (Nat.le_trans (Nat.log2_self_le (by omega)) h2)
theorem pow_less (m n : Nat) (h : m * 16 < n) : (2 ^ m) ^ 16 < 2 ^ n := by rw [← Nat.pow_mul]; exact Nat.pow_lt_pow_right (by omega) h
theorem ratio_bound {a b : Nat} (hb : 0 < b) (hba : b ≤ a) (ha : a ≤ 2147483648) : ratioN a b ≤ 496 := by
  unfold ratioN
  have h1 : a ^ 16 ≤ (2 ^ 31) ^ 16 := Nat.pow_le_pow_left ha 16
  have h2 : a ^ 16 / b ^ 16 ≤ a ^ 16 := Nat.div_le_self _ _
  have h3 : b ^ 16 ≤ a ^ 16 := Nat.pow_le_pow_left hba 16
  have h4 : 1 ≤ a ^ 16 / b ^ 16 := (Nat.le_div_iff_mul_le (Nat.pow_pos hb)).2 (by rw [Nat.one_mul]; exact h3)
  generalize a ^ 16 / b ^ 16 = q at *
  have : Nat.log2 q < 497 := (Nat.log2_lt (by omega)).2 (Nat.lt_of_le_of_lt (Nat.le_trans h2 h1) (pow_less 31 497 (by omega)))
  omega
/-- What something costs. -/
def costN (total kinds n : Nat) : Nat := min (max (ratioN (total + kinds) (n + 1)) 1) 255
/-! ### words -/
def vW (l : List Nat) : Int := valB 18446744073709551616 (l.map fun x : Nat => (x : Int))
/-- A word's product by a word, and what is carried. -/
theorem sq_step (x y c o : Nat) (hx : x < 18446744073709551616) (hy : y < 18446744073709551616) (hc : c < 18446744073709551616) (ho : o < 18446744073709551616) :
    (o + (x * y % 18446744073709551616 + c) % 18446744073709551616) % 18446744073709551616 + (x * y / 18446744073709551616 + (x * y % 18446744073709551616 + c) / 18446744073709551616 + (o + (x * y % 18446744073709551616 + c) % 18446744073709551616) / 18446744073709551616) * 18446744073709551616 = o + x * y + c ∧
    x * y / 18446744073709551616 + (x * y % 18446744073709551616 + c) / 18446744073709551616 + (o + (x * y % 18446744073709551616 + c) % 18446744073709551616) / 18446744073709551616 < 18446744073709551616 ∧
    x * y / 18446744073709551616 + (x * y % 18446744073709551616 + c) / 18446744073709551616 < 18446744073709551616 := by
  have h1 : x * y ≤ 18446744073709551615 * 18446744073709551615 := Nat.mul_le_mul (by omega) (by omega)
  generalize x * y = p at *
  omega
theorem vW_set {l : List Nat} (j : Nat) (h : j < l.length) (v : Nat) : vW (l.set j v) = vW l + ((v : Int) - l[j]) * 18446744073709551616 ^ j := by
  unfold vW
  rw [List.map_set, valB_set _ _ j (by simpa using h)]
  simp
theorem vW_take {l : List Nat} (k : Nat) (h : k < l.length) : vW (l.take (k + 1)) = vW (l.take k) + (l[k] : Int) * 18446744073709551616 ^ k := by
  unfold vW
  rw [List.map_take, List.map_take, valB_take _ _ k (by simpa using h)]
  simp
def WdB (l : List Nat) : Prop := l.length = 9 ∧ ∀ x ∈ l, x < 18446744073709551616
theorem WdB.dig {l : List Nat} (h : WdB l) : DigB 18446744073709551616 (l.map fun x : Nat => (x : Int)) := fun x hx => by
  obtain ⟨y, hy, rfl⟩ := List.mem_map.1 hx
  have := h.2 y hy
  constructor <;> omega
theorem WdB.lt {l : List Nat} (h : WdB l) : vW l < 18446744073709551616 ^ 9 := by
  have := valB_lt (by omega) h.dig
  rw [List.length_map, h.1] at this
  exact this
theorem WdB.pos {l : List Nat} (_ : WdB l) : 0 ≤ vW l := valB_nonneg (by omega) fun x hx => by
  obtain ⟨y, _, rfl⟩ := List.mem_map.1 hx
  omega
theorem WdB.set {l : List Nat} (h : WdB l) (j : Nat) {v : Nat} (hv : v < 18446744073709551616) : WdB (l.set j v) := ⟨by rw [List.length_set]; exact h.1, fun x hx => by
  rcases List.mem_or_eq_of_mem_set hx with hx | rfl
  · exact h.2 x hx
  · exact hv⟩
theorem WdB.at {l : List Nat} (h : WdB l) (k : Nat) (hk : k < l.length) : l[k] < 18446744073709551616 := h.2 _ (List.getElem_mem hk)
/-- Of two the greater one: the highest word that isn't the same decides. -/
theorem vW_less {l m : List Nat} (hl : WdB l) (hm : WdB m) (k : Nat) (hk : k < l.length) (hk' : k < m.length) (hs : l.drop (k + 1) = m.drop (k + 1)) (h : l[k] < m[k]) : vW l < vW m := by
  unfold vW
  refine valB_less (by omega) hl.dig hm.dig (by simp [hl.1, hm.1]) k (by simpa using hk) (by simpa using hk') ?_ (by simpa using h)
  rw [← List.map_drop, ← List.map_drop, hs]
end Go.Proofs.YtmpoihejacklnaaDoor
/- The program's layer 3: numbers of nine words. No condition. -/
namespace Go.Proofs.YtmpoihejacklnaaDoor
open Go Go.RowKit Go.Great
def wv (l : List Nat) : Array Value := (l.map fun x : Nat => Value.int .u64 (x : Int)).toArray
theorem wv_size (l : List Nat) : (wv l).size = l.length := by simp [wv]
theorem wv_one (l : List Nat) : (wv l).all (·.oneCell') = true := by
  rw [Array.all_eq_true_iff_forall_mem]
  intro v hv
  simp only [wv, List.mem_toArray, List.mem_map] at hv
  obtain ⟨x, _, rfl⟩ := hv
  rfl
theorem or_even (x c : Nat) (hc : c < 2) : bits .or .u64 (IntKind.u64.wrap ((x : Int) * 2)) (c : Int) = ((2 * x % 18446744073709551616 + c : Nat) : Int) := by
  have e : IntKind.u64.wrap ((x : Int) * 2) = ((2 * x % 18446744073709551616 : Nat) : Int) := by rw [IntKind.wrap_u64]; omega
  rw [e, u64_or_nat _ _ (by omega) (by omega)]
  congr 1
  have h := Nat.two_pow_add_eq_or_of_lt (i := 1) (b := c) (by omega) (2 * x % 18446744073709551616 / 2)
  have h2 : 2 ^ 1 * (2 * x % 18446744073709551616 / 2) = 2 * x % 18446744073709551616 := by omega
  rw [h2] at h
  exact h.symm
theorem set_zero {l : List Nat} {k v : Nat} (h : ∀ j (h : j < l.length), k ≤ j → l[j] = 0) : ∀ j (h : j < (l.set k v).length), k + 1 ≤ j → (l.set k v)[j] = 0 := fun j hj h1 => by
  rw [List.getElem_set_ne (by omega)]
  exact h j (by simpa using hj) (by omega)
theorem Bsr {a W : World} (h : Below a.heap.size a W) (g : Nat) (hg : a.heap.size ≤ g) (cs : Array Value) : Below a.heap.size a (W.setRow g cs) :=
  ⟨h.os, h.tape, h.output, by rw [size_setRow]; exact h.size, fun i hi => (setRow_other W g i cs (by omega)).trans (h.block i hi)⟩
end Go.Proofs.YtmpoihejacklnaaDoor
