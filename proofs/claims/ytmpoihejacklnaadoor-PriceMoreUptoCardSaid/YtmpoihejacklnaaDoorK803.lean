/- Parts of these proofs, one behind the other: Mix, Ratio, Utf, Ref1. No condition. -/
import Derived.Test.YtmpoihejacklnaaDoorK801
import Derived.Test.YtmpoihejacklnaaDoorK802
import Derived.Lib.MapLaws
import Derived.Lib.TrimUEq
import Derived.Lib.ValidLaws
import Derived.Lib.RuneCount
import Derived.Test.YtmpoihejacklnaaDoorProg
import Derived.Lib.Hide
import Derived.BigRegion
import Derived.Deep.RegionWith
/- A region that draws its order: a head in an order of one's own (calls that make memory among it), then a tail of stores in one forced order. No condition. -/
namespace Go.Proofs.YtmpoihejacklnaaDoor
open Go Go.RowKit
section
variable {P : Program} {ops : Array Oper} {S : World → Prop} {Q : Exit → Act → World → Prop}
def wpMix (P : Program) (ops : Array Oper) (Q : Exit → Act → World → Prop) (S : World → Prop) (n : Nat) (L : Array Bool → Act → World → Prop) : Nat → Array Bool → Act → World → Prop
  | 0, listed, a, w => L listed a w
  | f + 1, listed, a, w => Region.ready .any ops listed ≠ [] ∧ ∀ i ∈ Region.ready .any ops listed, i < n ∧ wpOp P ops Q i (fun a' w' => S w' ∧ wpMix P ops Q S n L f (listed.setIfInBounds i true) a' w') a w
theorem wpAny_of_mix {n g : Nat} {L : Array Bool → Act → World → Prop} (hL : ∀ listed a w, L listed a w → wpAny P .any ops Q g listed a w) :
    ∀ (f : Nat) (listed : Array Bool) (a : Act) (w : World), wpMix P ops Q S n L f listed a w → wpAny P .any ops Q (f + g) listed a w
  | 0, listed, a, w, h => by rw [Nat.zero_add]; exact hL _ _ _ h
  | f + 1, listed, a, w, h => by
    rw [show f + 1 + g = (f + g) + 1 by omega]
    exact ⟨fun h0 => absurd h0 h.1, fun i hi => wpOp_mono (fun a' w' h' => wpAny_of_mix hL f _ a' w' h'.2) (h.2 i hi).2⟩
theorem wpMix_first {n i : Nat} {oi : Oper} {v : Value} {L : Array Bool → Act → World → Prop} (hi : ops[i]? = some oi) (hsel : ∀ (j : Nat) (o : Oper) cs b, ops[j]? = some o → o.op ≠ .select cs b)
    (hQ : ∀ c a w, Q (.panic c) (a.put oi.dst v) w → Q (.panic c) a w)
    (hs : Region.sinkB .any ops n = true) (hc : Region.chainB .any ops n = true) (hn : n < ops.size) (hin : i < n)
    (hdone : ∀ listed a w, L listed a w → ∀ j ∈ Region.ready .any ops listed, n ≤ j) :
    ∀ (f : Nat) (listed : Array Bool) (a : Act) (w : World), HeadInv .any ops n listed →
      (∀ j oj, ops[j]? = some oj → j ≠ i → listed.getD j true = false → (∀ e ∈ oj.after, Region.binds .any e = true → e.on ≠ i) → oi.apart ops oj = true) →
      i ∈ Region.ready .any ops listed → YieldsIf P ops S oi v a → S w →
      wpMix P ops Q S n L f (listed.setIfInBounds i true) (a.put oi.dst v) w → wpMix P ops Q S n L (f + 1) listed a w := by
  intro f
  induction f with
  | zero =>
    intro listed a w inv _ hr hy hS H
    have hun := (mem_ready.1 hr).1
    refine ⟨fun h => (by rw [h] at hr; cases hr), fun j hj => ?_⟩
    have hjn : j < n := (Nat.lt_or_ge j n).resolve_right fun h => (tail_waits hs hc hn inv _ i rfl hin hun j h) hj
    refine ⟨hjn, ?_⟩
    by_cases hji : j = i
    · subst hji; exact hy.wpOp hi hS ⟨hS, H⟩
    · have := hdone _ _ _ H j (ready_mono hj hji)
      omega
  | succ f ih =>
    intro listed a w inv hfree hr hy hS H
    have hun := (mem_ready.1 hr).1
    refine ⟨fun h => (by rw [h] at hr; cases hr), fun j hj => ?_⟩
    have hjn : j < n := (Nat.lt_or_ge j n).resolve_right fun h => (tail_waits hs hc hn inv _ i rfl hin hun j h) hj
    refine ⟨hjn, ?_⟩
    by_cases hji : j = i
    · subst hji; exact hy.wpOp hi hS ⟨hS, H⟩
    · have h1 := (H.2 j (ready_mono hj hji)).2
      obtain ⟨hjun, oj, hoj, hall⟩ := mem_ready.1 hj
      have hnot : ∀ e ∈ oj.after, Region.binds .any e = true → e.on ≠ i := fun e he hb heq => by
        have h1 := hall e he hb
        rw [heq, getD_both hun] at h1
        cases h1
      have h2 := wpOp_putIf hoj (hfree j oj hoj hji hjun hnot) (fun cs b => hsel i oi cs b hi) (fun cs b => hsel j oj cs b hoj) hQ hy h1
      have hfree' : ∀ k ok, ops[k]? = some ok → k ≠ i → (listed.setIfInBounds j true).getD k true = false →
          (∀ e ∈ ok.after, Region.binds .any e = true → e.on ≠ i) → oi.apart ops ok = true := fun k ok hk hki hun hno => by
        refine hfree k ok hk hki ?_ hno
        by_cases hjk : j = k
        · subst hjk; exact hjun
        · rw [getD_set_ne true hjk] at hun; exact hun
      refine wpOp_mono (fun a' w' h3 => ⟨h3.2.1, ih (listed.setIfInBounds j true) a' w' (inv.set hj hjn) hfree' (ready_mono hr (Ne.symm hji)) h3.1 h3.2.1 ?_⟩) h2
      rw [Array.setIfInBounds_comm _ _ hji]
      exact h3.2.2
def mixB (ops : Array Oper) (n : Nat) : List (Nat × Bool) → Array Bool → Bool
  | [], listed => Region.seqB .any ops (ops.size - n) n listed
  | (i, true) :: r, listed => decide (i < n) && (Region.ready .any ops listed).contains i && Region.free .any ops listed i && mixB ops n r (listed.setIfInBounds i true)
  | (i, false) :: r, listed => decide (i < n) && decide (Region.ready .any ops listed = [i]) && mixB ops n r (listed.setIfInBounds i true)
def wpSeqT (P : Program) (ops : Array Oper) (w0 : World) (Q : Exit → Act → World → Prop) (fin : Act → World → Prop) : List (Nat × Bool) → Act → World → Prop
  | [], a, w => fin a w
  | (i, true) :: r, a, w => match ops[i]? with
    | none => False
    | some o => takeQ P ops w0 o a (fun a' => wpSeqT P ops w0 Q fin r a' w)
  | (i, false) :: r, a, w => match ops[i]? with
    | none => False
    | some o => if Region.wanted o (yielded ops a.tmps) then o.wp P a w (fun a' w' => Ext w0 w' ∧ wpSeqT P ops w0 Q fin r a' w') Q else wpSeqT P ops w0 Q fin r (a.put o.dst undef) w
theorem wpMix_of_seq {w0 : World} {fin : Act → World → Prop} {n : Nat} (hsel : Region.noSelect ops = true) (hQ : ∀ c a d v w, Q (.panic c) (Act.put a d v) w → Q (.panic c) a w) (hs : Region.sinkB .any ops n = true) (hc : Region.chainB .any ops n = true) (hn : n < ops.size) :
    ∀ (l : List (Nat × Bool)) (listed : Array Bool) (a : Act) (w : World), Ext w0 w → HeadInv .any ops n listed → mixB ops n l listed = true → wpSeqT P ops w0 Q fin l a w →
      wpMix P ops Q (Ext w0) n (fun listed' a' w' => Region.seqB .any ops (ops.size - n) n listed' = true ∧ fin a' w') l.length listed a w
  | [], listed, a, w, _, _, hB, h => ⟨by simpa [mixB] using hB, h⟩
  | (i, true) :: r, listed, a, w, hS, inv, hB, h => by
    simp only [mixB, Bool.and_eq_true, decide_eq_true_eq] at hB
    obtain ⟨⟨⟨hin, hr⟩, hf⟩, hB⟩ := hB
    simp only [wpSeqT] at h
    cases ho : ops[i]? with
    | none => rw [ho] at h; exact h.elim
    | some o =>
      rw [ho] at h
      simp only [takeQ] at h
      have hr' : i ∈ Region.ready .any ops listed := by simpa using hr
      by_cases hw : Region.wanted o (yielded ops a.tmps) = true
      · rw [if_pos hw] at h
        obtain ⟨v, h1, h2⟩ := h
        exact wpMix_first ho (Region.noSelect_spec hsel) (fun c a w => hQ c a _ _ w) hs hc hn hin (fun _ _ _ hL => seqB_ready hL.1) r.length listed a w inv (Region.free_spec ho hf) hr' (.inl ⟨hw, fun W hW => by obtain ⟨X, rfl⟩ := hW; exact h1 X⟩) hS
          (wpMix_of_seq hsel hQ hs hc hn r _ _ w hS (inv.set hr' hin) hB h2)
      · rw [if_neg hw] at h
        exact wpMix_first ho (Region.noSelect_spec hsel) (fun c a w => hQ c a _ _ w) hs hc hn hin (fun _ _ _ hL => seqB_ready hL.1) r.length listed a w inv (Region.free_spec ho hf) hr' (.inr ⟨by simpa using hw, rfl⟩) hS
          (wpMix_of_seq hsel hQ hs hc hn r _ _ w hS (inv.set hr' hin) hB h)
  | (i, false) :: r, listed, a, w, hS, inv, hB, h => by
    simp only [mixB, Bool.and_eq_true, decide_eq_true_eq] at hB
    obtain ⟨⟨hin, hr⟩, hB⟩ := hB
    simp only [wpSeqT] at h
    have hr' : i ∈ Region.ready .any ops listed := by rw [hr]; simp
    refine ⟨by rw [hr]; simp, fun j hj => ?_⟩
    obtain rfl : j = i := by rw [hr] at hj; simpa using hj
    refine ⟨hin, ?_⟩
    cases ho : ops[j]? with
    | none => rw [ho] at h; exact h.elim
    | some o =>
      rw [ho] at h
      unfold wpOp
      rw [ho]
      dsimp only at h ⊢
      by_cases hw : Region.wanted o (yielded ops a.tmps) = true
      · rw [if_pos hw] at h ⊢
        exact .inl (Oper.wp_mono (fun a' w' h' => ⟨h'.1, wpMix_of_seq hsel hQ hs hc hn r _ a' w' h'.1 (inv.set hr' hin) hB h'.2⟩) h)
      · rw [if_neg hw] at h ⊢
        exact ⟨hS, wpMix_of_seq hsel hQ hs hc hn r _ _ w hS (inv.set hr' hin) hB h⟩
theorem region_mix {id : Nat} {a : Act} {w : World} {l : List Oper} (n : Nat) (L : List (Nat × Bool)) (hm : P.follows .mixedOrders = true)
    (hB : (Region.noSelect l.toArray && Region.sinkB .any l.toArray n && Region.chainB .any l.toArray n && decide (n < l.length) && decide (L.length = n) && mixB l.toArray n L (Array.replicate l.length false)) = true)
    (hQ : ∀ c a d v w, Q (.panic c) (Act.put a d v) w → Q (.panic c) a w)
    (h : ∀ W, Below w.heap.size w W → wpSeqT P l.toArray W Q (fun a' W' => wpList P l.toArray Q (l.drop n) a' W') L a W) : (Code.region id l.toArray true).wp P Q a w := by
  have h := h w.drew (Below.refl _ w).drew
  simp only [Bool.and_eq_true, decide_eq_true_eq] at hB
  obtain ⟨⟨⟨⟨⟨hsel, hs⟩, hc⟩, hn⟩, hl⟩, hB⟩ := hB
  refine wp_region_any hm ?_
  have inv0 : HeadInv .any l.toArray n (Array.replicate l.length false) :=
    ⟨by simp, fun j oj _ hl => (by rw [getD_replicate_false] at hl; cases hl), fun t _ ht => getD_in (by simpa using ht) (getD_replicate_false _ _)⟩
  have h' := wpMix_of_seq hsel hQ hs hc (by simpa using hn) L _ a _ (.of (Below.refl _ _)) inv0 hB h
  have h2 := wpAny_of_mix (g := l.length - n) (fun listed a' w' hL => by
    have := wpAny_of_seq (md := .any) (Q' := Q) (l.drop n) n listed a' w' (fun j => by simp [List.getElem?_drop]) (by rw [List.length_drop]; simpa using hL.1) hL.2
    rwa [List.length_drop] at this) _ _ _ _ h'
  rw [hl, show n + (l.length - n) = l.length by omega] at h2
  simpa using h2
theorem mix_q {w0 : World} {fin : Act → World → Prop} {a : Act} {w : World} {i : Nat} {r : List (Nat × Bool)} {o : Oper} (ho : ops[i]? = some o)
    (h : ∀ K : Act → Prop, (∀ a', wpSeqT P ops w0 Q fin r a' w → K a') → takeQ P ops w0 o a K) : wpSeqT P ops w0 Q fin ((i, true) :: r) a w := by
  simp only [wpSeqT, ho]
  exact h _ fun _ h => h
theorem mix_t {w0 : World} {fin : Act → World → Prop} {a : Act} {w : World} {i : Nat} {r : List (Nat × Bool)} {o : Oper} (ho : ops[i]? = some o)
    (h : ∀ K : Act → World → Prop, (∀ a' w', Ext w0 w' → wpSeqT P ops w0 Q fin r a' w' → K a' w') → if Region.wanted o (yielded ops a.tmps) then o.wp P a w K Q else K (a.put o.dst undef) w) : wpSeqT P ops w0 Q fin ((i, false) :: r) a w := by
  simp only [wpSeqT, ho]
  have h' := h (fun a' w' => Ext w0 w' ∧ wpSeqT P ops w0 Q fin r a' w') fun _ _ h1 h2 => ⟨h1, h2⟩
  split
  · rename_i hw; rw [if_pos hw] at h'; exact h'
  · rename_i hw; rw [if_neg hw] at h'; exact h'.2
theorem mix_nil {w0 : World} {fin : Act → World → Prop} {a : Act} {w : World} (h : fin a w) : wpSeqT P ops w0 Q fin [] a w := by simp only [wpSeqT]; exact h
end
attribute [irreducible] wpSeqT
end Go.Proofs.YtmpoihejacklnaaDoor
/- The program's ratio and what something costs. No condition. -/
namespace Go.Proofs.YtmpoihejacklnaaDoor
open Go Go.RowKit Go.Great
def z9 : List Nat := [0, 0, 0, 0, 0, 0, 0, 0, 0]
def w9 (a : Nat) : List Nat := [a, 0, 0, 0, 0, 0, 0, 0, 0]
theorem w9_wd {a : Nat} (h : a < 18446744073709551616) : WdB (w9 a) := ⟨rfl, fun x hx => by simp [w9] at hx; omega⟩
theorem w9_v (a : Nat) : vW (w9 a) = a := by simp [vW, w9, valB]
theorem Bel2 {a w : World} (h : Below a.heap.size a w := by repeat (first | assumption | exact Below.refl _ _ | refine Bal ?_ _ | refine Bsr ?_ _ (by first | exact Nat.le_refl _ | omega) _ | refine Bdn ?_ _ | refine Below.drew ?_ | refine Bst ?_ (by assumption))) : Below a.heap.size a w := h
theorem take_row {P : Program} {ops : Array Oper} {w0 : World} {o : Oper} {a : Act} {K : Act → Prop} (hgd : o.guard = none) (ty : TypeId) (x : Operand) (ho : o.op = .load ty x) (g : Nat) (hx : a.eval x = .pointer (some ⟨g, 0, none⟩))
    (t : TypeId) (cs : Array Value) (fr : Nat × Nat) (d : TypeDesc) (hg : w0.heap[g]? = some (.cells cs t fr)) (hu : P.underlying ty = some d) (hd : (match d with | .struct _ | .array _ _ => true | _ => false) = true) (hi : (P.info? ty).map (·.size) = some cs.size)
    (h : K (a.put o.dst (.agg cs))) : takeQ P ops w0 o a K := by
  unfold takeQ
  rw [if_pos (by unfold Region.wanted; rw [hgd])]
  refine ⟨.agg cs, fun X => ?_, h⟩
  have hg' : (World.ext w0 X).heap[g]? = some (.cells cs t fr) := (X.h.block g (Array.getElem?_eq_some_iff.1 hg).1).trans hg
  unfold execOp
  simp only [ho, hx, Instr.loadAt, Instr.sureAddr, Sem.run_bind, Sem.run_pure, Result.andThen_ok, run_loadVar_row _ g t ty cs fr d hg' hu hd hi]
/-- What holds at a bit's begin. -/
structure RI (x y i k : Nat) (lx ly : List Nat) : Prop where
  dx : WdB lx
  dy : WdB ly
  vx : vW lx = (x : Int) ^ 2 ^ i
  vy : vW ly = (y : Int) ^ 2 ^ i * 2 ^ k
  le : vW ly ≤ vW lx
  lt : vW lx < 2 * vW ly
theorem cap9 : (10000 : Int) ^ 40 * 4 < 18446744073709551616 ^ 9 := by decide
theorem RI.sq {x y i k : Nat} {lx ly : List Nat} (h : RI x y i k lx ly) (hi : i < 4) (hx : x ≤ 2147483648) :
    vW lx * vW lx = (x : Int) ^ 2 ^ (i + 1) ∧ vW ly * vW ly = (y : Int) ^ 2 ^ (i + 1) * 2 ^ (k * 2) ∧ vW ly * vW ly ≤ vW lx * vW lx ∧ vW lx * vW lx < 4 * (vW ly * vW ly) ∧ vW lx * vW lx < 10000 ^ 40 ∧ 0 ≤ vW ly * vW ly := by
  have h0 := h.dy.pos
  have h1 : vW lx * vW lx = (x : Int) ^ 2 ^ (i + 1) := by rw [h.vx, ← Int.pow_add, Nat.pow_succ, Nat.mul_two]
  refine ⟨h1, ?_, Int.mul_le_mul h.le h.le h0 (by have := h.le; omega), ?_, ?_, Int.mul_nonneg h0 h0⟩
  · rw [h.vy, Nat.pow_succ, Nat.mul_two, Nat.mul_two, Int.pow_add, Int.pow_add]; grind
  · have h2 : vW lx * vW lx < (2 * vW ly) * (2 * vW ly) := Int.mul_lt_mul' (Int.le_of_lt h.lt) h.lt (by have := h.le; omega) (by have := h.lt; have := h.le; omega)
    have e : (2 * vW ly) * (2 * vW ly) = 4 * (vW ly * vW ly) := by grind
    omega
  · rw [h1]
    exact pow_cap (by omega) (by omega) _ (by have := Nat.pow_le_pow_right (n := 2) (by omega) (show i + 1 ≤ 4 by omega); omega)
theorem RI.kcap {x y i k : Nat} {lx ly : List Nat} (h : RI x y i k lx ly) (hi : i ≤ 4) (hx : x ≤ 2147483648) (hy : 1 ≤ y) : k < 1000 := by
  rcases Nat.lt_or_ge k 1000 with h1 | h1
  · exact h1
  · exfalso
    have h2 : (x : Int) ^ 2 ^ i < 10000 ^ 40 := pow_cap (by omega) (by omega) _ (by have := Nat.pow_le_pow_right (n := 2) (by omega) hi; omega)
    have h3 : (1 : Int) ≤ (y : Int) ^ 2 ^ i := by have : (0 : Int) < (y : Int) ^ 2 ^ i := Int.pow_pos (by omega); omega
    have h4 : 1 * (2 : Int) ^ k ≤ (y : Int) ^ 2 ^ i * 2 ^ k := Int.mul_le_mul_of_nonneg_right h3 (Int.le_of_lt (Int.pow_pos (by omega)))
    have h5 : (10000 : Nat) ^ 40 ≤ (2 ^ 14) ^ 40 := Nat.pow_le_pow_left (by omega) 40
    have h6 := pow_most 14 40 k (by omega)
    have h7 : ((10000 ^ 40 : Nat) : Int) ≤ ((2 ^ k : Nat) : Int) := Int.ofNat_le.2 (Nat.le_trans h5 h6)
    rw [Int.natCast_pow, Int.natCast_pow] at h7
    have h8 : (10000 : Int) ^ 40 ≤ 2 ^ k := h7
    have h9 := h.le
    rw [h.vx, h.vy] at h9
    rw [Int.one_mul] at h4
    exact absurd (Int.lt_of_le_of_lt (Int.le_trans h4 h9) h2) (by omega)
theorem RI.first {x y k : Nat} {m : List Nat} (hx : x < 18446744073709551616) (hm : WdB m) (hv : vW m = (y : Int) * 2 ^ k) (hle : vW m ≤ x) (hlt : (x : Int) < 2 * vW m) : RI x y 0 k (w9 x) m :=
  ⟨w9_wd hx, hm, by rw [w9_v, Nat.pow_zero]; exact (Int.pow_one _).symm, by rw [hv, Nat.pow_zero, Int.pow_one], by rw [w9_v]; exact hle, by rw [w9_v]; exact hlt⟩
theorem RI.next0 {x y i k : Nat} {lx ly lx2 ly2 : List Nat} (h : RI x y i k lx ly) (hi : i < 4) (hx : x ≤ 2147483648) (dx : WdB lx2) (dy : WdB ly2) (vx : vW lx2 = vW lx * vW lx) (vy : vW ly2 = vW ly * vW ly) (hq : vW lx * vW lx < 2 * (vW ly * vW ly)) : RI x y (i + 1) (k * 2) lx2 ly2 := by
  obtain ⟨h1, h2, h3, _⟩ := h.sq hi hx
  exact ⟨dx, dy, by rw [vx, h1], by rw [vy, h2], by rw [vx, vy]; exact h3, by rw [vx, vy]; exact hq⟩
theorem RI.next1 {x y i k : Nat} {lx ly lx2 ly2 m2 : List Nat} (h : RI x y i k lx ly) (hi : i < 4) (hx : x ≤ 2147483648) (dx : WdB lx2) (dy : WdB m2) (vx : vW lx2 = vW lx * vW lx) (vy : vW ly2 = vW ly * vW ly) (vm : vW m2 = 2 * vW ly2) (hq : ¬ vW lx * vW lx < 2 * (vW ly * vW ly)) : RI x y (i + 1) (k * 2 + 1) lx2 m2 := by
  obtain ⟨h1, h2, h3, h4, _⟩ := h.sq hi hx
  refine ⟨dx, dy, by rw [vx, h1], ?_, by rw [vx, vm, vy]; omega, by rw [vx, vm, vy]; omega⟩
  rw [vm, vy, h2, Int.pow_succ]
  grind
theorem RI.done {x y k : Nat} {lx ly : List Nat} (h : RI x y 4 k lx ly) (hy : 1 ≤ y) : ratioN x y = k := by
  have h1 := h.le
  have h2 := h.lt
  rw [h.vx, h.vy] at h1 h2
  have e : (2 : Nat) ^ 4 = 16 := rfl
  rw [e] at h1 h2
  have e2 : (2 : Int) ^ (k + 1) * (y : Int) ^ 16 = 2 * ((y : Int) ^ 16 * 2 ^ k) := by
    have e3 : (2 : Int) ^ (k + 1) = 2 ^ k * 2 := Int.pow_succ ..
    rw [e3]
    generalize (y : Int) ^ 16 = q at *
    grind
  have := ratio_int (k := k) (a := x) (b := y) (by omega) (by omega) (by rw [Int.mul_comm]; exact h1) (by rw [e2]; exact h2)
  simpa using this
end Go.Proofs.YtmpoihejacklnaaDoor
/- Texts and their runes, in plain Lean: what decodes to what. No condition. -/
namespace Go.Proofs.YtmpoihejacklnaaDoor
open Go Go.Lib

/-- A number that is a rune. -/
def IsR (r : Int) : Prop := 0 ≤ r ∧ r ≤ 1114111 ∧ ¬ (55296 ≤ r ∧ r ≤ 57343)
instance (r : Int) : Decidable (IsR r) := by unfold IsR; infer_instance

theorem u8_toNat (x : Int) (_ : 0 ≤ x) (h1 : x < 256) : (x.toNat.toUInt8).toNat = x.toNat := by
  simp [Nat.toUInt8, UInt8.toNat_ofNat']; omega

set_option maxHeartbeats 1000000 in
theorem dec_enc (r : Int) (h : IsR r) (t : List UInt8) : decodeL (encodeRune r ++ t) = (r.toNat, (encodeRune r).length) := by
  obtain ⟨h0, h1, h2⟩ := h
  rw [decodeL_N]
  unfold encodeRune encodeRuneZ
  by_cases c1 : r ≤ 127
  · rw [if_pos ⟨h0, c1⟩]
    simp only [List.map_cons, List.map_nil, List.cons_append, List.nil_append, List.length_cons, List.length_nil, List.getD_cons_zero, List.getD_cons_succ]
    rw [u8_toNat _ (by omega) (by omega)]
    unfold decodeN
    rw [if_pos (by omega)]
  rw [if_neg (by omega)]
  by_cases c2 : r ≤ 2047
  · rw [if_pos (by omega)]
    simp only [List.map_cons, List.map_nil, List.cons_append, List.nil_append, List.length_cons, List.length_nil, List.getD_cons_zero, List.getD_cons_succ]
    rw [u8_toNat _ (by omega) (by omega), u8_toNat _ (by omega) (by omega)]
    unfold decodeN
    rw [if_neg (by omega), if_pos (by omega), if_pos (by omega)]
    congr 1; omega
  rw [if_neg (by omega)]
  by_cases c3 : r ≤ 65535
  · rw [if_pos (by omega)]
    simp only [List.map_cons, List.map_nil, List.cons_append, List.nil_append, List.length_cons, List.length_nil, List.getD_cons_zero, List.getD_cons_succ]
    rw [u8_toNat _ (by omega) (by omega), u8_toNat _ (by omega) (by omega), u8_toNat _ (by omega) (by omega)]
    unfold decodeN
    rw [if_neg (by omega), if_neg (by omega), if_pos (by omega), if_pos (by omega)]
    congr 1; omega
  rw [if_neg (by omega), if_pos (by omega)]
  simp only [List.map_cons, List.map_nil, List.cons_append, List.nil_append, List.length_cons, List.length_nil, List.getD_cons_zero, List.getD_cons_succ]
  rw [u8_toNat _ (by omega) (by omega), u8_toNat _ (by omega) (by omega), u8_toNat _ (by omega) (by omega), u8_toNat _ (by omega) (by omega)]
  unfold decodeN
  rw [if_neg (by omega), if_neg (by omega), if_neg (by omega), if_pos (by omega), if_pos (by omega)]
  congr 1; omega
end Go.Proofs.YtmpoihejacklnaaDoor
/- The reference of layer 1: which numbers are runes, their bytes, what a text decodes to. No condition. -/
namespace Go.Proofs.YtmpoihejacklnaaDoor
open Go.RowKit
set_option maxHeartbeats 400000 in
theorem r1is_c (r : Int) (w : World) : Calls Tryd.prog 101 #[.int .i32 r] w fun e w' => e = .returned (.bool (decide (IsR r))) ∧ w' = w := by
  by_cases h0 : 0 ≤ r <;> by_cases h1 : r ≤ 1114111 <;> by_cases h2 : 55296 ≤ r <;> by_cases h3 : r ≤ 57343 <;> cases hd : decide (IsR r) <;>
    try (exfalso; simp only [decide_eq_true_eq, decide_eq_false_iff_not] at hd; unfold IsR at hd; omega)
  all_goals
    clear hd
    go_enter Tryd.func101, Tryd.ntmps101
    go_wp2
    go_ret
    exact ⟨rfl, rfl⟩
set_option maxHeartbeats 400000 in
theorem r1bytes_c (r : Int) (w : World) (h : IsR r) : Calls Tryd.prog 102 #[.int .i32 r] w fun e w' => ∃ v, e = .returned v ∧ SlV (eInt .u8) w' v (Lib.encodeRuneZ r) ∧ Below w.heap.size w w' := by
  obtain ⟨h0, h1, h2⟩ := h
  by_cases c1 : r < 128
  · go_enter Tryd.func102, Tryd.ntmps102
    go_wp2
    go_ret
    refine ⟨_, rfl, ?_, Bel⟩
    rw [Lib.encodeRuneZ_one h0 (by omega)]
    exact ⟨_, _, rfl, by simp, by omega, SlA.new _ _ _ _ _ rfl _ rfl⟩
  by_cases c2 : r < 2048
  · go_enter Tryd.func102, Tryd.ntmps102
    go_wp2
    go_ret
    refine ⟨_, rfl, ?_, Bel⟩
    rw [Lib.encodeRuneZ_two (by omega) (by omega)]
    exact ⟨_, _, rfl, by simp, by omega, SlA.new _ _ _ _ _ rfl _ rfl⟩
  by_cases c3 : r < 65536
  · go_enter Tryd.func102, Tryd.ntmps102
    go_wp2
    go_ret
    refine ⟨_, rfl, ?_, Bel⟩
    rw [show Lib.encodeRuneZ r = [224 + r / 4096, 128 + r / 64 % 64, 128 + r % 64] from by unfold Lib.encodeRuneZ; rw [if_neg (by omega), if_neg (by omega), if_pos (by omega)]]
    exact ⟨_, _, rfl, by simp, by omega, SlA.new _ _ _ _ _ rfl _ rfl⟩
  · go_enter Tryd.func102, Tryd.ntmps102
    go_wp2
    go_ret
    refine ⟨_, rfl, ?_, Bel⟩
    rw [show Lib.encodeRuneZ r = [240 + r / 262144, 128 + r / 4096 % 64, 128 + r / 64 % 64, 128 + r % 64] from by unfold Lib.encodeRuneZ; rw [if_neg (by omega), if_neg (by omega), if_neg (by omega), if_pos (by omega)]]
    exact ⟨_, _, rfl, by simp, by omega, SlA.new _ _ _ _ _ rfl _ rfl⟩

/-- The rune that some bytes begin with, and how many it has; 0: none. -/
def badL (l : List UInt8) : Prop := (Lib.decodeL l).1 = 65533 ∧ (Lib.decodeL l).2 = 1
instance (l : List UInt8) : Decidable (badL l) := by unfold badL; infer_instance
def firstL (l : List UInt8) : Int × Int := if l = [] ∨ badL l then (0, 0) else ((Lib.decodeL l).1, (Lib.decodeL l).2)
/-- What the bytes say with n of them. -/
def startL (l : List UInt8) (n : Nat) : Int := ((l.getD 0 0).toNat : Int) - if n = 2 then 192 else if n = 3 then 224 else if n = 4 then 240 else 0
def partL (l : List UInt8) (n j : Nat) : Int := ((l.take j).drop 1).foldl (fun r b => r * 64 + b.toNat - 128) (startL l n)
def candL (l : List UInt8) (n : Nat) : Int := partL l n n
def okL (l : List UInt8) (n : Nat) : Prop := IsR (candL l n) ∧ Lib.encodeRune (candL l n) = l.take n
theorem first_yes (l : List UInt8) (n : Nat) (hn : 1 ≤ n) (hl : n ≤ l.length) (h : okL l n) : firstL l = (candL l n, (n : Int)) := by
  obtain ⟨h1, h2⟩ := h
  have h3 := dec_enc _ h1 (l.drop n)
  rw [h2, List.take_append_drop, List.length_take, Nat.min_eq_left hl] at h3
  have hne : l ≠ [] := by intro e; subst e; simp at hl; omega
  have hb : ¬ badL l := by
    unfold badL; rw [h3]; rintro ⟨e1, e2⟩
    have e1 : (candL l n).toNat = 65533 := e1
    have e2 : n = 1 := e2
    have : candL l n = 65533 := by omega
    rw [this] at h2
    have := congrArg List.length h2
    rw [List.length_take, Nat.min_eq_left hl, e2] at this
    exact absurd this (by decide)
  unfold firstL
  rw [if_neg (fun h => h.elim hne hb), h3]
  obtain ⟨h0, _⟩ := h1
  simp; omega
theorem part_one (l : List UInt8) (n : Nat) : partL l n 1 = startL l n := by
  unfold partL
  have : (l.take 1).drop 1 = [] := by apply List.eq_nil_of_length_eq_zero; simp
  rw [this]; rfl
theorem part_step (l : List UInt8) (n j : Nat) (h1 : 1 ≤ j) (hj : j < l.length) : partL l n (j + 1) = partL l n j * 64 + (l[j].toNat : Int) - 128 := by
  unfold partL
  rw [List.take_succ_eq_append_getElem hj, List.drop_append_of_le_length (by simp; omega), List.foldl_append]; rfl
theorem part_bd (l : List UInt8) (n j : Nat) (h1 : 1 ≤ j) (hj : j ≤ l.length) (h3 : j ≤ 3) : -1052800 ≤ partL l n j ∧ partL l n j ≤ 1052800 := by
  have h0 : -240 ≤ startL l n ∧ startL l n ≤ 255 := by
    have := (l.getD 0 0).toNat_lt
    unfold startL; split <;> (try split) <;> (try split) <;> omega
  have e1 := part_one l n
  rcases (by omega : j = 1 ∨ j = 2 ∨ j = 3) with rfl | rfl | rfl
  · omega
  · have e2 := part_step l n 1 (by omega) (by omega)
    have := l[1].toNat_lt
    simp only [Nat.reduceAdd] at e2; omega
  · have e2 := part_step l n 1 (by omega) (by omega)
    have e3 := part_step l n 2 (by omega) (by omega)
    have := l[1].toNat_lt
    have := l[2].toNat_lt
    simp only [Nat.reduceAdd] at e2 e3; omega
theorem isR_dec (l : List UInt8) (hb : ¬ badL l) : IsR ((Lib.decodeL l).1 : Int) ∧ 1 ≤ (Lib.decodeL l).2 ∧ (Lib.decodeL l).2 ≤ 4 := by
  unfold badL at hb
  rw [Lib.decodeL_N] at hb ⊢
  have h0 := (l.getD 0 0).toNat_lt
  have hb1 := (l.getD 1 0).toNat_lt
  have hb2 := (l.getD 2 0).toNat_lt
  have hb3 := (l.getD 3 0).toNat_lt
  generalize (l.getD 0 0).toNat = b0 at *
  generalize (l.getD 1 0).toNat = b1 at *
  generalize (l.getD 2 0).toNat = b2 at *
  generalize (l.getD 3 0).toNat = b3 at *
  unfold IsR Lib.decodeN at *
  repeat' split
  all_goals simp_all
  all_goals omega
theorem cand_of_enc (l : List UInt8) (r : Int) (n : Nat) (hr : IsR r) (hl : n ≤ l.length) (he : Lib.encodeRune r = l.take n) (hn : (Lib.encodeRune r).length = n) : candL l n = r := by
  obtain ⟨h0, h1, h2⟩ := hr
  have hg : ∀ j, j < n → (l.getD j 0) = (Lib.encodeRune r).getD j 0 := fun j hj => by
    rw [he]; simp [List.getD_eq_getElem?_getD, hj]
  have hx : ∀ j (hj : j < n), l[j]'(by omega) = (Lib.encodeRune r).getD j 0 := fun j hj => by
    rw [← hg j hj]; simp [List.getD_eq_getElem?_getD, show j < l.length by omega]
  unfold candL
  clear he
  unfold Lib.encodeRune Lib.encodeRuneZ at *
  by_cases c1 : r ≤ 127
  · rw [if_pos ⟨h0, c1⟩] at hg hn
    obtain rfl : 1 = n := hn
    rw [part_one]; unfold startL; rw [hg 0 (by omega)]
    simp only [List.map_cons, List.getD_cons_zero]
    rw [u8_toNat _ h0 (by omega)]
    simp; omega
  rw [if_neg (by omega)] at hg hn hx
  by_cases c2 : r ≤ 2047
  · rw [if_pos (by omega)] at hg hn hx
    obtain rfl : 2 = n := hn
    rw [part_step _ _ 1 (by omega) (by omega), part_one, hx 1 (by omega)]; unfold startL; rw [hg 0 (by omega)]
    simp only [List.map_cons, List.getD_cons_zero, List.getD_cons_succ]
    rw [u8_toNat _ (by omega) (by omega), u8_toNat _ (by omega) (by omega)]
    simp; omega
  rw [if_neg (by omega)] at hg hn hx
  by_cases c3 : r ≤ 65535
  · rw [if_pos (by omega)] at hg hn hx
    obtain rfl : 3 = n := hn
    rw [part_step _ _ 2 (by omega) (by omega), part_step _ _ 1 (by omega) (by omega), part_one, hx 1 (by omega), hx 2 (by omega)]; unfold startL; rw [hg 0 (by omega)]
    simp only [List.map_cons, List.getD_cons_zero, List.getD_cons_succ]
    rw [u8_toNat _ (by omega) (by omega), u8_toNat _ (by omega) (by omega), u8_toNat _ (by omega) (by omega)]
    simp; omega
  rw [if_neg (by omega), if_pos (by omega)] at hg hn hx
  obtain rfl : 4 = n := hn
  rw [part_step _ _ 3 (by omega) (by omega), part_step _ _ 2 (by omega) (by omega), part_step _ _ 1 (by omega) (by omega), part_one, hx 1 (by omega), hx 2 (by omega), hx 3 (by omega)]; unfold startL; rw [hg 0 (by omega)]
  simp only [List.map_cons, List.getD_cons_zero, List.getD_cons_succ]
  rw [u8_toNat _ (by omega) (by omega), u8_toNat _ (by omega) (by omega), u8_toNat _ (by omega) (by omega), u8_toNat _ (by omega) (by omega)]
  simp; omega
theorem first_no (l : List UInt8) (h : ∀ m, 1 ≤ m → m ≤ 4 → m ≤ l.length → ¬ okL l m) : firstL l = (0, 0) := by
  unfold firstL
  by_cases hne : l = []
  · rw [if_pos (.inl hne)]
  by_cases hb : badL l
  · rw [if_pos (.inr hb)]
  exfalso
  obtain ⟨h1, h2, h3⟩ := isR_dec l hb
  have hle := Lib.decodeL_le l hne
  have he := Lib.encode_decode l hne hb
  have hc := cand_of_enc l _ _ h1 hle he (by rw [he, List.length_take, Nat.min_eq_left hle])
  exact h _ h2 h3 hle ⟨by rw [hc]; exact h1, by rw [hc]; exact he⟩
theorem strOf_enc (r : Int) : strOfNums (Lib.encodeRuneZ r) = ⟨(Lib.encodeRune r).toArray⟩ := rfl
/-- 'string(bytes)' of a row that reads as xs. -/
theorem conv_bytes {P : Program} {w : World} {src dst e : TypeId} {v : Value} {xs : List Int} (hs : P.underlying src = some (.slice e)) (he : P.underlying e = some (.int .u8)) (hd : P.underlying dst = some .string)
    (h : SlV (eInt .u8) w v xs) (hne : xs ≠ []) : (convert src dst v).run P w = .ok (.string (strOfNums xs)) w := by
  obtain ⟨A, c, rfl, _, _, hc⟩ := h
  cases xs with
  | nil => exact absurd rfl hne
  | cons x xs =>
    obtain ⟨b, o, rfl, _⟩ := hc 0 x rfl
    refine run_convert_bytes_arg w src e hs he b o _ c (x :: xs) rfl (fun i hi => ?_) dst hd
    obtain ⟨b', o', h', h1⟩ := SlA.at1 (fun _ => rfl) hc (Below.refl _ _) i hi
    obtain ⟨rfl, rfl⟩ : b = b' ∧ o = o' := by injection h' with h'; injection h' with h1 h2; exact ⟨h1, h2⟩
    rw [h1, List.getD_eq_getElem?_getD, List.getElem?_eq_getElem hi]; rfl
theorem beq_enc (s : ByteArray) (r : Int) (j : Nat) : ((strOfNums (Lib.encodeRuneZ r)).toList == (s.extract 0 j).toList) = decide (Lib.encodeRune r = s.data.toList.take j) := by
  rw [strOf_enc, ByteArray.toList_mk, ByteArray.toList_eq, ByteArray.data_extract, Array.toList_extract]
  rw [Bool.eq_iff_iff]; simp
theorem encZ_ne (r : Int) : Lib.encodeRuneZ r ≠ [] := by unfold Lib.encodeRuneZ; repeat' split
                                                         all_goals simp
set_option maxHeartbeats 4000000 in
set_option maxRecDepth 100000 in
theorem r1first_c (s : ByteArray) (w : World) (hs : s.size ≤ 9223372036854775807) (hne : s.data.toList ≠ []) :
    Calls Tryd.prog 82 #[.string s] w fun e w' => e = .returned (.tuple #[.int .i32 (firstL s.data.toList).1, .int .i64 (firstL s.data.toList).2]) ∧ Below w.heap.size w w' := by
  have hsz : s.data.toList.length = s.size := by rw [← ByteArray.size_data]; simp
  have hp : 0 < s.size := by rw [← hsz]; exact List.length_pos_iff.2 hne
  have HZ := Lib.hid hsz
  clear hsz
  go_enter Tryd.func82, Tryd.ntmps82
  go_wp2
  go_loopw [4, 5, 6] (fun n _ _ wr => ∃ k : Nat, 1 ≤ k ∧ k ≤ 5 ∧ n = .int .i64 k ∧ Hid (∀ m, 1 ≤ m → m < k → m ≤ s.data.toList.length → ¬ okL s.data.toList m) ∧ Below w.heap.size w wr) (fun n _ _ _ => 5 - (intOf n).toNat)
  case atStart => exact ⟨1, by omega, by omega, rfl, fun m h1 h2 => by omega, Bel⟩
  case round =>
    obtain ⟨k, hk1, hk5, rfl, HN, hb⟩ := hrel
    by_cases h4 : k ≤ 4 <;> by_cases hz : k ≤ s.size
    · have d1 : decide ((k : Int) ≤ 4) = true := by simp; omega
      have d2 : decide (k ≤ s.size) = true := by simp; omega
      have hs0 : startL s.data.toList k = ((s[0]'hp).toNat : Int) - if k = 2 then 192 else if k = 3 then 224 else if k = 4 then 240 else 0 := by
        unfold startL
        have : s.data.toList.getD 0 0 = s[0]'hp := by rw [List.getD_eq_getElem?_getD, List.getElem?_eq_getElem (by rw [HZ.out]; exact hp)]; rfl
        rw [this]
      have HS := Lib.hid hs0
      have hu := (s[0]'hp).toNat_lt
      clear hs0
      cases b2 : ((k : Int) == 2) <;> cases b3 : ((k : Int) == 3) <;> cases b4 : ((k : Int) == 4) <;> try (exfalso; simp at b2 b3 b4; omega)
      all_goals
        go_wp2
        go_loop [5, 6] (fun r i => ∃ j : Nat, 1 ≤ j ∧ j ≤ k ∧ i = .int .i64 j ∧ r = .int .i32 (partL s.data.toList k j)) (fun _ i => k - (intOf i).toNat)
        case atStart =>
          refine ⟨1, by omega, hk1, rfl, ?_⟩
          rw [part_one, HS.out]
          simp only [beq_iff_eq, beq_eq_false_iff_ne, ne_eq] at b2 b3 b4
          congr 1
          repeat' split
          all_goals omega
        case round =>
          obtain ⟨j, hj1, hj2, rfl, rfl⟩ := hrel
          by_cases hlt : j < k
          · have hjs : j < s.size := by omega
            have hbd := part_bd s.data.toList k j hj1 (by rw [HZ.out]; omega) (by omega)
            have hub := (s[j]'hjs).toNat_lt
            have hst := Lib.hid (part_step s.data.toList k j hj1 (by rw [HZ.out]; omega))
            obtain ⟨hb1, hb2⟩ := hbd
            go_wp2
            go_round
            case rel => exact ⟨j + 1, by omega, by omega, by go_num, by rw [hst.out]; first | rfl | simp⟩
            case measure => simp [intOf]; omega
          · obtain rfl : j = k := by omega
            cases hR : decide (IsR (partL s.data.toList j j))
            · go_wp2_with fail
              refine region_seq [(0, true), (1, false), (2, true), (3, true), (6, true), (7, true), (8, true), (4, false), (5, false), (9, true), (10, true)] (by kernel_rfl) (by kernel_rfl) (fun c a d v w h => by cases d <;> exact h) ?_
              intro W hW
              repeat (first
                | (refine seq_q rfl (fun K hK => ?_); unfold takeQ; go_simp; refine hK _ ?_; clear hK K)
                | (refine seq_t rfl (fun K hK => ?_); go_simp; go_at_call 101; refine (r1is_c _ _).mono ?_; rintro e w' ⟨rfl, rfl⟩; go_simp; refine hK _ _ (.of Bel) ?_; clear hK K)
                | (refine seq_t rfl (fun K hK => ?_); go_simp; refine hK _ _ (.of Bel) ?_; clear hK K))
              refine seq_nil ?_
              go_wp2
              exact ⟨⟨j + 1, by omega, by omega, by go_num, fun m h1 h2 h3 => by
                by_cases e : m = j
                · subst e; exact fun h => of_decide_eq_false hR h.1
                · exact HN.out m h1 (by omega) h3, Bel⟩, by simp [intOf]; omega⟩
            · have hRR := Lib.hid (of_decide_eq_true hR)
              go_wp2_with fail
              refine region_seq [(0, true), (1, false), (2, true), (3, true), (6, true), (7, true), (8, true), (4, false), (5, false), (9, true), (10, true)] (by kernel_rfl) (by kernel_rfl) (fun c a d v w h => by cases d <;> exact h) ?_
              intro W hW
              repeat (first
                | (refine seq_q rfl (fun K hK => ?_); unfold takeQ; go_simp; refine hK _ ?_; clear hK K)
                | (refine seq_t rfl (fun K hK => ?_); go_simp; go_at_call 101; refine (r1is_c _ _).mono ?_; rintro e w' ⟨rfl, rfl⟩; go_simp; refine hK _ _ (.of Bel) ?_; clear hK K)
                | (refine seq_t rfl (fun K hK => ?_); go_simp; go_at_call 102; refine (r1bytes_c _ _ hRR.out).mono ?_; rintro e w2 ⟨v, rfl, hv, hb2⟩; have hcv := conv_bytes (src := 81) (dst := 9) Tryd.underlying81 Tryd.underlying5 Tryd.underlying9 hv (encZ_ne _); go_simp; refine hK _ _ (.of Bel) ?_; clear hK K)
                | (refine seq_t rfl (fun K hK => ?_); go_simp; refine hK _ _ (.of Bel) ?_; clear hK K))
              refine seq_nil ?_
              go_wp2
              · rename_i hE
                rw [beq_enc] at hE
                have hf := first_yes s.data.toList j hj1 (by rw [HZ.out]; omega) ⟨hRR.out, of_decide_eq_true hE⟩
                go_ret2
                exact ⟨by rw [hf]; rfl, Bel⟩
              · rename_i hE
                rw [beq_enc] at hE
                exact ⟨⟨j + 1, by omega, by omega, by go_num, fun m h1 h2 h3 => by
                  by_cases e : m = j
                  · subst e; exact fun h => of_decide_eq_false hE h.2
                  · exact HN.out m h1 (by omega) h3, Bel⟩, by simp [intOf]; omega⟩
    all_goals
      have hf := Lib.hid (first_no s.data.toList (fun m h1 h2 h3 => HN.out m h1 (by rw [HZ.out] at h3; omega) h3))
      go_wp2
      go_ret2
      exact ⟨by rw [hf.out]; rfl, Bel⟩
end Go.Proofs.YtmpoihejacklnaaDoor
