/- Parts of these proofs, one behind the other: RegS, MputW, Que. No condition. -/
import Derived.Test.YtmpoihejacklnaaDoorK812
import Derived.Test.YtmpoihejacklnaaDoorK806
import Derived.Test.YtmpoihejacklnaaDoorK808
import Derived.Test.YtmpoihejacklnaaDoorK810
import Derived.Test.YtmpoihejacklnaaDoorK801
import Derived.ArgAppend
import Derived.Deep.Heap
/- A region that draws its order, whose forced operations may turn some blocks S: head in an order of one's own, tail of stores in one forced order. No condition. -/
namespace Go.Proofs.YtmpoihejacklnaaDoor
open Go Go.RowKit
/-- The worlds in which all but S still is. -/
structure LaterS (w : World) (S : List Nat) where
  W : World
  h : Kb w W S
def World.extS (w : World) (S : List Nat) (X : LaterS w S) : World := X.W
theorem extS_cell (w : World) (S : List Nat) (X : LaterS w S) (a : Addr) (h : (w.cell? a).isSome = true) (hn : a.block ∉ S) : (World.extS w S X).cell? a = w.cell? a := by
  obtain ⟨v, hv⟩ := Option.isSome_iff_exists.1 h
  rw [hv]; exact X.h.cell hv hn
attribute [go_sem] extS_cell
def ExtS (w : World) (S : List Nat) (W : World) : Prop := ∃ X, W = World.extS w S X
theorem ExtS.of {w W : World} {S : List Nat} (h : Kb w W S) : ExtS w S W := ⟨⟨W, h⟩, rfl⟩
theorem Kb.refl (w : World) (S : List Nat) : Kb w w S := ⟨rfl, rfl, rfl, Nat.le_refl _, fun _ _ _ => rfl⟩
instance {w : World} {S : List Nat} : Nonempty (LaterS w S) := ⟨⟨w, Kb.refl w S⟩⟩
theorem Kb.weak {w w' : World} {S S' : List Nat} (h : Kb w w' S) (hS : ∀ s ∈ S, s ∈ S') : Kb w w' S' := ⟨h.os, h.tape, h.output, h.size, fun k hk hn => h.block k hk fun e => hn (hS k e)⟩
theorem Kb.trans' {a b c : World} {S : List Nat} (h : Kb a b S) (k : Kb b c S) : Kb a c S := (h.trans k).weak fun s hs => by simpa using hs
theorem wanted_free {o : Oper} (h : o.guard = none) (f : Nat → Option Bool) : Region.wanted o f = true := by unfold Region.wanted; rw [h]
section
variable {P : Program} {ops : Array Oper} {S : List Nat} {Q : Exit → Act → World → Prop}
def takeS (P : Program) (ops : Array Oper) (w0 : World) (S : List Nat) (o : Oper) (a : Act) (K : Act → Prop) : Prop :=
  if Region.wanted o (yielded ops a.tmps) then ∃ v, (∀ X, (execOp a.eval o).run P (World.extS w0 S X) = .ok (.value v) (World.extS w0 S X)) ∧ K (a.put o.dst v) else K (a.put o.dst undef)
def wpSeqS (P : Program) (ops : Array Oper) (w0 : World) (S : List Nat) (Q : Exit → Act → World → Prop) (fin : Act → World → Prop) : List (Nat × Bool) → Act → World → Prop
  | [], a, w => fin a w
  | (i, true) :: r, a, w => match ops[i]? with
    | none => False
    | some o => takeS P ops w0 S o a (fun a' => wpSeqS P ops w0 S Q fin r a' w)
  | (i, false) :: r, a, w => match ops[i]? with
    | none => False
    | some o => if Region.wanted o (yielded ops a.tmps) then o.wp P a w (fun a' w' => ExtS w0 S w' ∧ wpSeqS P ops w0 S Q fin r a' w') Q else wpSeqS P ops w0 S Q fin r (a.put o.dst undef) w
theorem wpMix_of_seqS {w0 : World} {fin : Act → World → Prop} {n : Nat} (hsel : Region.noSelect ops = true) (hQ : ∀ c a d v w, Q (.panic c) (Act.put a d v) w → Q (.panic c) a w) (hs : Region.sinkB .any ops n = true) (hc : Region.chainB .any ops n = true) (hn : n < ops.size) :
    ∀ (l : List (Nat × Bool)) (listed : Array Bool) (a : Act) (w : World), ExtS w0 S w → HeadInv .any ops n listed → mixB ops n l listed = true → wpSeqS P ops w0 S Q fin l a w →
      wpMix P ops Q (ExtS w0 S) n (fun listed' a' w' => Region.seqB .any ops (ops.size - n) n listed' = true ∧ fin a' w') l.length listed a w
  | [], listed, a, w, _, _, hB, h => ⟨by simpa [mixB] using hB, h⟩
  | (i, true) :: r, listed, a, w, hS, inv, hB, h => by
    simp only [mixB, Bool.and_eq_true, decide_eq_true_eq] at hB
    obtain ⟨⟨⟨hin, hr⟩, hf⟩, hB⟩ := hB
    simp only [wpSeqS] at h
    cases ho : ops[i]? with
    | none => rw [ho] at h; exact h.elim
    | some o =>
      rw [ho] at h
      simp only [takeS] at h
      have hr' : i ∈ Region.ready .any ops listed := by simpa using hr
      by_cases hw : Region.wanted o (yielded ops a.tmps) = true
      · rw [if_pos hw] at h
        obtain ⟨v, h1, h2⟩ := h
        exact wpMix_first ho (Region.noSelect_spec hsel) (fun c a w => hQ c a _ _ w) hs hc hn hin (fun _ _ _ hL => seqB_ready hL.1) r.length listed a w inv (Region.free_spec ho hf) hr' (.inl ⟨hw, fun W hW => by obtain ⟨X, rfl⟩ := hW; exact h1 X⟩) hS
          (wpMix_of_seqS hsel hQ hs hc hn r _ _ w hS (inv.set hr' hin) hB h2)
      · rw [if_neg hw] at h
        exact wpMix_first ho (Region.noSelect_spec hsel) (fun c a w => hQ c a _ _ w) hs hc hn hin (fun _ _ _ hL => seqB_ready hL.1) r.length listed a w inv (Region.free_spec ho hf) hr' (.inr ⟨by simpa using hw, rfl⟩) hS
          (wpMix_of_seqS hsel hQ hs hc hn r _ _ w hS (inv.set hr' hin) hB h)
  | (i, false) :: r, listed, a, w, hS, inv, hB, h => by
    simp only [mixB, Bool.and_eq_true, decide_eq_true_eq] at hB
    obtain ⟨⟨hin, hr⟩, hB⟩ := hB
    simp only [wpSeqS] at h
    have hr' : i ∈ Region.ready .any ops listed := by rw [hr]; simp
    refine ⟨by rw [hr]; simp, fun j hj => ?_⟩
    obtain rfl : j = i := by rw [hr] at hj; simpa using hj
    refine ⟨hin, ?_⟩
    cases ho : ops[j]? with
    | none => rw [ho] at h; exact h.elim
    | some o =>
      rw [ho] at h
      unfold wpOp
      rw [ho]
      dsimp only at h ⊢
      by_cases hw : Region.wanted o (yielded ops a.tmps) = true
      · rw [if_pos hw] at h ⊢
        exact .inl (Oper.wp_mono (fun a' w' h' => ⟨h'.1, wpMix_of_seqS hsel hQ hs hc hn r _ a' w' h'.1 (inv.set hr' hin) hB h'.2⟩) h)
      · rw [if_neg hw] at h ⊢
        exact ⟨hS, wpMix_of_seqS hsel hQ hs hc hn r _ _ w hS (inv.set hr' hin) hB h⟩
theorem region_mixS {id : Nat} {a : Act} {w : World} {l : List Oper} (S : List Nat) (n : Nat) (L : List (Nat × Bool)) (hm : P.follows .mixedOrders = true)
    (hB : (Region.noSelect l.toArray && Region.sinkB .any l.toArray n && Region.chainB .any l.toArray n && decide (n < l.length) && decide (L.length = n) && mixB l.toArray n L (Array.replicate l.length false)) = true)
    (h : ∀ W, Below w.heap.size w W → wpSeqS P l.toArray W S (noP Q) (fun a' W' => wpList P l.toArray (noP Q) (l.drop n) a' W') L a W) : (Code.region id l.toArray true).wp P Q a w := by
  refine wp_mono (Q := noP Q) ?_ noP_le
  have h := h w.drew (Below.refl _ w).drew
  simp only [Bool.and_eq_true, decide_eq_true_eq] at hB
  obtain ⟨⟨⟨⟨⟨hsel, hs⟩, hc⟩, hn⟩, hl⟩, hB⟩ := hB
  refine wp_region_any hm ?_
  have inv0 : HeadInv .any l.toArray n (Array.replicate l.length false) :=
    ⟨by simp, fun j oj _ hl => (by rw [getD_replicate_false] at hl; cases hl), fun t _ ht => getD_in (by simpa using ht) (getD_replicate_false _ _)⟩
  have h' := wpMix_of_seqS hsel (fun _ _ _ _ _ h => h.elim) hs hc (by simpa using hn) L _ a _ (.of (Kb.refl _ _)) inv0 hB h
  have h2 := wpAny_of_mix (g := l.length - n) (fun listed a' w' hL => by
    have := wpAny_of_seq (md := .any) (Q' := noP Q) (l.drop n) n listed a' w' (fun j => by simp [List.getElem?_drop]) (by rw [List.length_drop]; simpa using hL.1) hL.2
    rwa [List.length_drop] at this) _ _ _ _ h'
  rw [hl, show n + (l.length - n) = l.length by omega] at h2
  simpa using h2
theorem sS_q {w0 : World} {fin : Act → World → Prop} {a : Act} {w : World} {i : Nat} {r : List (Nat × Bool)} {o : Oper} (ho : ops[i]? = some o)
    (h : ∀ K : Act → Prop, (∀ a', wpSeqS P ops w0 S Q fin r a' w → K a') → takeS P ops w0 S o a K) : wpSeqS P ops w0 S Q fin ((i, true) :: r) a w := by
  simp only [wpSeqS, ho]
  exact h _ fun _ h => h
theorem sS_t {w0 : World} {fin : Act → World → Prop} {a : Act} {w : World} {i : Nat} {r : List (Nat × Bool)} {o : Oper} (ho : ops[i]? = some o)
    (h : ∀ K : Act → World → Prop, (∀ a' w', ExtS w0 S w' → wpSeqS P ops w0 S Q fin r a' w' → K a' w') → if Region.wanted o (yielded ops a.tmps) then o.wp P a w K Q else K (a.put o.dst undef) w) : wpSeqS P ops w0 S Q fin ((i, false) :: r) a w := by
  simp only [wpSeqS, ho]
  have h' := h (fun a' w' => ExtS w0 S w' ∧ wpSeqS P ops w0 S Q fin r a' w') fun _ _ h1 h2 => ⟨h1, h2⟩
  split
  · rename_i hw; rw [if_pos hw] at h'; exact h'
  · rename_i hw; rw [if_neg hw] at h'; exact h'.2
theorem sS_nil {w0 : World} {fin : Act → World → Prop} {a : Act} {w : World} (h : fin a w) : wpSeqS P ops w0 S Q fin [] a w := by simp only [wpSeqS]; exact h
end
attribute [irreducible] wpSeqS
end Go.Proofs.YtmpoihejacklnaaDoor
/- The machine's put, walked. No condition. -/
namespace Go.Proofs.YtmpoihejacklnaaDoor
open Go Go.RowKit
theorem info_state : (Tryd.prog.info? 141).map (fun i => (i.zero, i.size, i.bytes)) = some (some (.agg #[.map none, .int .i64 0, .int .i64 0, .slice none 0 0]), 4, 48) := by kernel_rfl
theorem info_intM : (Tryd.prog.info? 3).map (fun i => (i.zero, i.size, i.bytes)) = some (some (.int .i64 0), 1, 8) := by kernel_rfl
theorem wf32 {r : Int} (h : IsR r) : (Lit.int .i32 r).wf = true := by
  obtain ⟨h1, h2, _⟩ := h
  simp [Lit.wf, show IntKind.i32.min = -2147483648 from rfl, show IntKind.i32.max = 2147483647 from rfl]
  omega
theorem putK_mem {T : List (List Int)} {l q : List Int} {k : Nat} (h : q ∈ T) : q ∈ putK T l k := by
  induction k with
  | zero => exact h
  | succ k ih => rw [putK_succ, addP_mem]; exact .inl ih
theorem frozen_kb {w w' : World} {S : List Nat} (h : Kb w w' S) {a : Addr} (hl : a.block < w.heap.size) (hn : a.block ∉ S) : w'.frozen? a = w.frozen? a := World.frozen?_of_block (h.block a.block hl hn)
theorem Own.above {α : Type} {E : Enc α} {base : Nat} {e : TypeId} {w : World} {v : Value} {xs : List α} (h : Own E base e w v xs) {g : Nat} (hg : v.ownBlock = some g) : base ≤ g := by
  rcases h.2 with ⟨rfl, _⟩ | ⟨g', cap, cur, rfl, hb, _⟩
  · simp [Value.ownBlock] at hg
  · simp only [Value.ownBlock, Option.some.injEq] at hg
    subst hg; exact hb
theorem Mch.rsc {base M N : Nat} {w : World} {v : Value} {T : List (List Int)} {sts : List S4} {bk : Nat → Nat} {rs rs' : Nat → List Int} (h : MchP base w M v T N sts bk rs) (he : ∀ j, j < T.length → rs j = rs' j) : MchP base w M v T N sts bk rs' :=
  ⟨h.blk, h.ge, h.own, ⟨h.at'.len, h.at'.on, h.at'.bs, h.at'.zs, fun i hi => by rw [← he i (by rw [← h.at'.len]; exact hi)]; exact h.at'.rows i hi, h.at'.ms, h.at'.apm, h.at'.apr⟩⟩
/-- A state's rules laid anew. -/
theorem Mch.rule {base M N i : Nat} {w w1 : World} {v : Value} {T : List (List Int)} {sts : List S4} {bk : Nat → Nat} {rs : Nat → List Int} (h : MchP base w M v T N sts bk rs) (hb : base ≤ w.heap.size) (hi : i < sts.length) (hk : Kb w w1 sts[i].r.ownBlock.toList) (xs' : List Int) (A : Option Addr) (l c : Nat) (hO : Own (eInt .i64) base 3 w1 (.slice A l c) xs')
    (hmv : ∀ b, (Value.slice A l c).ownBlock = some b → sts[i].r.ownBlock = some b ∨ w.heap.size ≤ b) (g : Nat) (hg : v.ownBlock = some g) :
    ∃ sts', MchP base (w1.setCell ⟨g, i * 4 + 3, none⟩ (.slice A l c)) M v T N sts' bk (fun j => if j = i then xs' else rs j) ∧ Below base w (w1.setCell ⟨g, i * 4 + 3, none⟩ (.slice A l c)) ∧ w.heap.size ≤ (w1.setCell ⟨g, i * 4 + 3, none⟩ (.slice A l c)).heap.size ∧ Kb w (w1.setCell ⟨g, i * 4 + 3, none⟩ (.slice A l c)) (sts[i].r.ownBlock.toList ++ [g]) := by
  have hlen := h.at'.len
  obtain ⟨g', cap, rfl, hgM, hgb, hgl, hms, hrs⟩ := h.parts (by omega)
  have e : g' = g := by simpa [Value.ownBlock] using hg
  subst e
  have hbl : ∀ b, b ∈ sts[i].r.ownBlock.toList → sts[i].r.ownBlock = some b := fun b hb => by simpa using hb
  obtain ⟨y, hy⟩ : ∃ y : S4, y = ⟨sts[i].m, sts[i].b, sts[i].z, A, l, c⟩ := ⟨_, rfl⟩
  have hown1 := h.own.kb hk (fun k hk' hm => by
    simp only [Value.ownBlock, Option.some.injEq] at hk'
    subst hk'
    exact (hrs i hi _ (hbl _ hm)).1 rfl)
  rw [← hlen] at hown1
  obtain ⟨hO2, gb2⟩ := hown1.cellset i hi 3 (by decide) (.slice A l c) y (by rw [hy]; rfl)
  have k12 : Kb w1 (w1.setCell ⟨g', i * 4 + 3, none⟩ (.slice A l c)) [g'] := Kb.grown gb2
  have k02 := hk.trans k12
  have hm : ∀ j (hj : j < (sts.set i y).length) (hj' : j < sts.length), (sts.set i y)[j].m = sts[j].m ∧ (sts.set i y)[j].b = sts[j].b ∧ (sts.set i y)[j].z = sts[j].z := fun j hj hj' => by
    rw [List.getElem_set]
    split
    · rename_i e; subst e; rw [hy]; exact ⟨rfl, rfl, rfl⟩
    · exact ⟨rfl, rfl, rfl⟩
  have hr : ∀ j (hj : j < (sts.set i y).length) (hj' : j < sts.length), (sts.set i y)[j].r = if j = i then .slice A l c else sts[j].r := fun j hj hj' => by
    rw [List.getElem_set]
    by_cases e : j = i
    · subst e; rw [if_pos rfl, if_pos rfl, hy]; rfl
    · rw [if_neg (fun h => e h.symm), if_neg e]
  have hsl : (sts.set i y).length = sts.length := by simp
  have hnb : ∀ b, b ∉ sts[i].r.ownBlock.toList ++ [g'] ↔ sts[i].r.ownBlock ≠ some b ∧ b ≠ g' := fun b => by simp [eq_comm]
  refine ⟨sts.set i y, ⟨?_, h.ge, ?_, ⟨by rw [hsl, hlen], fun j hj => ?_, fun j hj => ?_, fun j hj => ?_, fun j hj => ?_, fun j hj => ?_, fun j l' hj hl' hjl => ?_, fun j l' hj hl' hjl b hb' => ?_⟩⟩, ?_, k02.size, k02⟩
  · refine (k02.block M h.cell.2.2 ((hnb M).2 ⟨fun e => (hrs i hi _ e).2.1 rfl, fun e => hgM e.symm⟩)).trans h.blk
  · rw [← hlen]; exact hO2
  · have hj' : j < sts.length := by omega
    rw [(hm j hj hj').1]
    exact (h.at'.on j hj').kb k02 ((hnb _).2 ⟨fun e => (hrs i hi _ e).2.2.2 j hj' rfl, (hms j hj').1⟩)
  · have hj' : j < sts.length := by omega
    rw [(hm j hj hj').2.1]; exact h.at'.bs j hj'
  · have hj' : j < sts.length := by omega
    rw [(hm j hj hj').2.2]; exact h.at'.zs j hj'
  · have hj' : j < sts.length := by omega
    rw [hr j hj hj']
    by_cases e : j = i
    · rw [if_pos e]; simp only [if_pos e]
      refine hO.kb k12 fun k hk' hm' => ?_
      have := List.mem_singleton.1 hm'
      subst this
      exact hO.apart hown1 (by decide) hk' rfl
    · rw [if_neg e]; simp only [if_neg e]
      exact (h.at'.rows j hj').kb k02 fun b hb' => (hnb b).2 ⟨fun e' => h.at'.apr i j hi hj' (fun q => e q.symm) b e' hb', (hrs j hj' b hb').1⟩
  · have hj' : j < sts.length := by omega
    rw [(hm j hj hj').1]; exact h.at'.ms j hj'
  · have hj' : j < sts.length := by omega
    have hl2 : l' < sts.length := by omega
    rw [(hm j hj hj').1, (hm l' hl' hl2).1]; exact h.at'.apm j l' hj' hl2 hjl
  · have hj' : j < sts.length := by omega
    have hl2 : l' < sts.length := by omega
    rw [hr j hj hj'] at hb'
    rw [hr l' hl' hl2]
    by_cases e : j = i
    · rw [if_pos e] at hb'
      rw [if_neg (fun q => hjl (by rw [e, q]))]
      rcases hmv b hb' with h1 | h1
      · exact h.at'.apr i l' hi hl2 (fun q => hjl (by rw [e, q])) b h1
      · intro h2
        have := (hrs l' hl2 b h2).2.2.1
        omega
    · rw [if_neg e] at hb'
      by_cases e2 : l' = i
      · rw [if_pos e2]
        intro h1
        rcases hmv b h1 with h2 | h2
        · exact h.at'.apr i j hi hj' (fun q => e q.symm) b h2 hb'
        · have := (hrs j hj' b hb').2.2.1
          omega
      · rw [if_neg e2]; exact h.at'.apr j l' hj' hl2 hjl b hb'
  · refine k02.to (fun b hb' => ?_) ⟨rfl, rfl, rfl, Nat.le_refl _, fun _ _ => rfl⟩ hb
    rcases List.mem_append.1 hb' with h1 | h1
    · exact Own.above (h.at'.rows i hi) (hbl b h1)
    · have := List.mem_singleton.1 h1
      subst this; exact hgb
set_option maxRecDepth 100000 in
set_option maxHeartbeats 2000000 in
theorem put_c (w0 : World) (M : Nat) (v : Value) (T : List (List Int)) (N : Nat) (sts : List S4) (rp : List Int → List Int) (w : World) (h : MchP w0.heap.size w M v T N sts (fun _ => 0) (fun j => rp (pth T j))) (hT : Trie T) (hrp : ∀ q, q ∉ T → rp q = []) (hb0 : Below w0.heap.size w0 w)
    (b0 : Nat) (vl : Value) (l : List Int) (hs : Own (eInt .i32) b0 21 w vl l) (hl : ∀ r ∈ l, IsR r) (hll : l.length ≤ 1048576) (hN : T.length + N ≤ 1073741824) (n : Nat) (hr1 : ∀ j, j < T.length → (rp (pth T j)).length ≤ 1048576) :
    Calls Tryd.prog 73 #[.pointer (some ⟨M, 0, none⟩), vl, .int .i64 n] w fun e w' => e = .returned (.tuple #[]) ∧
      ∃ v' sts', MchP w0.heap.size w' M v' (putT T l) (N + l.length) sts' (fun _ => 0) (fun j => if pth (putT T l) j = l then rp l ++ [(n : Int)] else rp (pth (putT T l) j)) ∧ Below w0.heap.size w w' ∧ w.heap.size ≤ w'.heap.size := by
  have HT := Lib.hid hT; have HRP := Lib.hid hrp; have HLR := Lib.hid hl
  have hmm := @run_makeMap Tryd.prog
  obtain ⟨A, c, rfl, _, _, _⟩ := hs.slv
  clear hrp hl
  go_enter Tryd.func73, Tryd.ntmps73
  go_wp2
  go_loopw [6, 13] (fun sa si wr => ∃ (k a : Nat) (v' : Value) (sts' : List S4), k ≤ l.length ∧ si = .int .i64 k ∧ sa = .int .i64 a ∧ Hid ((putK T l k)[a]? = some (l.take k)) ∧ MchP w0.heap.size wr M v' (putK T l k) (N + k) sts' (fun _ => 0) (fun j => rp (pth (putK T l k) j)) ∧ Below w0.heap.size w wr ∧ w.heap.size ≤ wr.heap.size ∧ Own (eInt .i32) b0 21 wr (.slice A l.length c) l) (fun _ si _ => l.length - (intOf si).toNat)
  case atStart => exact ⟨0, 0, v, sts, by omega, rfl, rfl, hT.root, h, ⟨rfl, rfl, rfl, Nat.le_refl _, fun _ _ => rfl⟩, Nat.le_refl _, hs⟩
  case round =>
    obtain ⟨k, a, v1, sts1, hk, rfl, rfl, ha, hM, hb, hsz, hOl⟩ := hrel
    have hbw : Below w0.heap.size w0 wr := hb0.trans hb
    have hTk := putK_trie HT.out l k hk
    have hlen := putK_len T l k
    have hal := at_lt ha.out
    have hpa := pth_at ha.out
    obtain ⟨mc, mf, ml⟩ := hM.cell
    obtain ⟨g, cap, m, A1, l1, c1, hv, hc1, hc2, hg, s0, s1, s2, s3, hon, hrow, hmi⟩ := hM.read a hal
    by_cases hlt : k < l.length
    · obtain ⟨A', c', hv0, _, _, hsA⟩ := hOl.slv
      injection hv0 with e1 _ e2
      subst e1 e2
      obtain ⟨b, o, rfl, x0⟩ := hsA.at1 (fun _ => rfl) (Below.refl _ _) k hlt
      obtain ⟨r, hr⟩ : ∃ r, l[k] = r := ⟨_, rfl⟩
      have hR := wf32 (HLR.out _ (List.getElem_mem hlt))
      have htk : Hid (l.take (k + 1) = l.take k ++ [r]) := by show _ = _; rw [List.take_succ_eq_append_getElem hlt, hr]
      rw [hr] at x0 hR
      have HPK := Lib.hid (putK_succ T l k)
      obtain ⟨Tk, hTkk⟩ : ∃ Tk, putK T l k = Tk := ⟨_, rfl⟩
      rw [hTkk] at ha hM hTk hlen hal hpa hv s2 hon hrow hc1 HPK
      replace hTkk := Lib.hid hTkk
      rw [hv] at mc
      have hz := Tryd.zeroValue3 wr
      have hTk1 := Lib.hid hTk.1
      have hk1 : (k : Int) < l.length := by omega
      have hal1 : (a : Int) < Tk.length := by omega
      rw [hpa] at hon
      clear hr hTk
      cases hf : idxP Tk (l.take k ++ [r]) with
      | some x =>
        have hx := Lib.hid ((idxP_some hTk1.out.nodup).1 hf)
        go_wp2_with (at_lookup; refine wpList_onm_look rfl _ _ 139 rfl 21 3 Tryd.underlying21 Tryd.underlying3 Tryd.underlying139 hz m (N + k) _ rfl hon r hR rfl ?_; simp only [hf, Option.getD_some, Option.isSome_some])
        have HK : Hid (putK T l (k + 1) = Tk) := by
          show _ = _
          rw [HPK.out, htk.out]; unfold addP; rw [if_pos (List.mem_of_getElem? hx.out)]
        refine ⟨⟨k + 1, x, v1, sts1, by omega, by go_num, rfl, ?_, ?_, hb, hsz, hOl⟩, by simp [intOf]; omega⟩
        · show _ = _
          rw [HK.out, htk.out]; exact hx.out
        · rw [HK.out]; exact hM.mono (by omega)
      | none =>
        have hx := Lib.hid (idxP_none.1 hf)
        have HK : Hid (putK T l (k + 1) = Tk ++ [l.take k ++ [r]]) := by
          show _ = _
          rw [HPK.out, htk.out]; unfold addP; rw [if_neg hx.out]
        have hparts := hM.parts hTk1.out.pos
        obtain ⟨g', cap', hv', hgM, hgb, hgl, hms, _⟩ := hparts
        have hgg : g' = g := by rw [hv] at hv'; injection hv' with e _ _; injection e with e; injection e with e _; exact e.symm
        subst hgg
        clear hv'
        have hstl := hM.at'.len
        have ham : a < sts1.length := by omega
        have hmi2 := (hmi ham).1
        have hmm2 := hms a ham
        rw [hmi2] at hmm2
        have hMm : M ≠ m := fun e => hmm2.2.1 e.symm
        have hgm : g' ≠ m := fun e => hmm2.1 e.symm
        have hown := hM.own
        have hMI := Lib.hid (fun h => (hmi h).1)
        rw [hv] at hown
        have hlk : Hid (((l.take k ++ [r]).length : Int) = (k : Int) + 1) := by show _ = _; simp; omega
        clear hms hmi
        go_wp2_with (first
          | (at_lookup; refine wpList_onm_look rfl _ _ 139 rfl 21 3 Tryd.underlying21 Tryd.underlying3 Tryd.underlying139 hz m (N + k) _ rfl hon r hR rfl ?_; simp only [hf, Option.getD_none, Option.isSome_none])
          | (at_mapUpdate; refine wpList_onm_put rfl _ _ _ 139 rfl 21 3 Tryd.underlying21 Tryd.underlying3 Tryd.underlying139 m (N + k) _ rfl hon (by simp only [maxLen]; omega) r hR rfl Tk.length (by omega) rfl ?_; intro w1 hon1 hg1; have hs1 := hg1.size; have mc1 := (Kb.grown hg1).cell mc (by simpa using hMm); have mf1 : w1.frozen? ⟨M, 0, none⟩ = false := (frozen_kb (Kb.grown hg1) ml (by simpa using hMm)).trans mf; have hO1 := hown.kb (Kb.grown hg1) (fun q e => by cases e; simpa using hgm); have hb1 : Below w0.heap.size w0 w1 := hbw.grown hg1 hbw.size (fun q e => by injection e with e; have := hM.at'.ms a ham; omega); have hMl1 : M < w1.heap.size := Nat.lt_of_lt_of_le ml hs1)
          | (at_builtin; refine app (E := eS4) (w0 := w0) _ _ 142 141 (.agg #[.map none, .int .i64 0, .int .i64 0, .slice none 0 0]) 48 rfl rfl Tryd.underlying142 info_state rfl (by decide) (by decide) _ sts1 [newS w1.heap.size ((k : Int) + 1)] ⟨_, 0, none⟩ 1 1 rfl rfl rfl ((hO1.alloc _).alloc _) (SlA.new eS4 _ _ _ _ (by simp) _ rfl) Bel (by simp; omega) ?_; intro v4 w4 HO4 hb4 hg4 _; obtain ⟨g4, cap4, rfl, _, hg4l, _⟩ := HO4.form (by simp); have hs4 := hg4.size; have k34 := Kb.row (S := [g']) hg4 (fun q e => by cases e; simp); have kal := Kb.below (((Below.refl w1.heap.size w1).alloc (Nat.le_refl _) (.map #[] 0)).alloc (by simp) (.cells #[.map (some w1.heap.size), .int .i64 0, .int .i64 ((k : Int) + 1), .slice none 0 0] 141)); have mc4 := (kal.trans k34).cell mc1 (by simpa using fun e => hgM e.symm); have mf4 : w4.frozen? ⟨M, 0, none⟩ = false := (frozen_kb (kal.trans k34) hMl1 (by simpa using fun e => hgM e.symm)).trans mf1))
        have hM' := hM
        rw [hv] at hM'
        have hg := Mch.grow hM' hTk1.out (by have := hbw.size; omega) a hal r (by rw [hpa]; exact hx.out) m (fun h => hMI.out h) (by rw [hpa]; exact hon1) hg1 _ (by rw [hpa, hlk.out]; exact HO4) hg4 (fun j => rp (pth (Tk ++ [l.take k ++ [r]]) j)) (fun j hj => by rw [pth_app hj]) (by rw [pth_last]; exact HRP.out _ (fun hm => hx.out (by rw [← hTkk.out]; exact putK_mem hm)))
        have e5 : (sts1 ++ [newS w1.heap.size ((k : Int) + 1)]).length = Tk.length + 1 := by simp [hstl]
        rw [hpa, hlk.out, e5] at hg
        obtain ⟨hM5, hb5, hz5, hk5⟩ := hg
        have hk5 := hk5 g' rfl
        refine ⟨⟨k + 1, Tk.length, .slice (some ⟨g4, 0, none⟩) (Tk.length + 1) cap4, sts1 ++ [newS w1.heap.size ((k : Int) + 1)], by omega, by go_num, rfl, ?_, ?_, hb.trans hb5, Nat.le_trans hsz hz5, hOl.kb hk5 fun q e => ?_⟩, by simp [intOf]; omega⟩
        · show _ = _
          rw [HK.out, htk.out]; simp
        · rw [HK.out]; exact hM5
        · obtain ⟨cl, hcl⟩ := hOl.cells e
          have e1 : q ≠ m := fun e => hon.ne_cells (e ▸ hcl) rfl
          have e2 : q ≠ g' := fun e2 => hOl.apart hown (by decide) e (by rw [e2]; rfl)
          have e3 : q ≠ M := fun e3 => by
            have h6 := hM.blk
            rw [← e3, hcl] at h6
            injection h6 with h6
            injection h6 with _ h6
            exact absurd h6 (by decide)
          simp [e1, e2, e3]
    · have hke : k = l.length := by omega
      subst hke
      have htl : l.take l.length = l := List.take_length
      have HRL : (rp l).length ≤ 1048576 := by
        by_cases hm : l ∈ T
        · obtain ⟨j, hj, e⟩ := List.mem_iff_getElem.1 hm
          have := hr1 j hj
          rwa [show pth T j = l by rw [← e]; exact pth_at (List.getElem?_eq_getElem hj)] at this
        · rw [HRP.out l hm]; simp
      rw [htl] at hpa
      obtain ⟨Tk, hTkk⟩ : ∃ Tk, putK T l l.length = Tk := ⟨_, rfl⟩
      have hTke : Hid (putT T l = Tk) := hTkk
      rw [hTkk] at hM hTk hlen hal hpa hv hrow hc1
      replace hTkk := Lib.hid hTkk
      have hTk1 := Lib.hid hTk.1
      rw [hpa] at hrow
      have hM2 := hM
      rw [hv] at mc hM2
      have hstl := hM.at'.len
      have ham : a < sts1.length := by omega
      have hrA := (hmi ham).2
      have hal1 : (a : Int) < Tk.length := by omega
      obtain ⟨g', cap', hv', hgM, hgb, hgl, hms, hrs⟩ := hM2.parts hTk1.out.pos
      have hgg : g' = g := by injection hv' with e _ _; injection e with e; injection e with e _; exact e.symm
      subst hgg
      obtain ⟨S, hS⟩ : ∃ S, (Value.slice A1 l1 c1).ownBlock.toList = S := ⟨_, rfl⟩
      have hMS : M ∉ S := fun hm => (hrs a ham M (by rw [hrA]; rw [← hS] at hm; simpa using hm)).2.1 rfl
      have hgS : g' ∉ S := fun hm => (hrs a ham g' (by rw [hrA]; rw [← hS] at hm; simpa using hm)).1 rfl
      have hSb : Hid (∀ k, (Value.slice A1 l1 c1).ownBlock = some k → k ∈ S) := fun k hk => by rw [← hS, hk]; simp
      replace hS := Lib.hid hS
      obtain ⟨A2, c2', hv2, _, _, hsA2⟩ := hrow.slv
      have el1 : l1 = (rp l).length := by injection hv2
      subst el1
      have HPA := Lib.hid hpa
      clear s2 hpa hv2 hsA2 hms hrs hmi hv' hTk htl hon
      go_wp2_with fail
      refine region_mixS S 18 [(0, true), (1, true), (2, true), (3, true), (4, true), (5, true), (6, true), (7, true), (8, true), (9, true), (10, true), (11, true), (12, true), (13, true), (14, false), (15, false), (16, true), (17, true)] (by kernel_rfl) (by kernel_rfl) ?_
      intro W hW
      have mcW : W.cell? ⟨M, 0, none⟩ = some (.slice (some ⟨g', 0, none⟩) Tk.length cap) := (Kb.below hW).cell mc (by simp)
      have cW : W.cell? ⟨g', a * 4 + 3, none⟩ = some (.slice A1 (rp l).length c1) := (Kb.below hW).cell s3 (by simp)
      have hrW := hrow.below hW
      have hMW := hM2.below hW
      have hbW : Below w0.heap.size w0 W := hbw.trans (hW.mono hbw.size)
      have fW : W.frozen? ⟨g', a * 4 + 3, none⟩ = false := by
        obtain ⟨g6, cap6, e6, _, _, _, _, cur6, h6⟩ := hMW.own.form (by rw [hstl]; exact hTk1.out.pos)
        have : g' = g6 := by injection e6 with e _ _; injection e with e; injection e with e _
        subst this
        unfold World.frozen?; simp only [h6]; rfl
      have hgW : g' < W.heap.size := Nat.lt_of_lt_of_le hgl hW.size
      clear mc s3 hrow
      repeat (refine sS_q rfl (fun K hK => ?_); unfold takeS; go_simp; refine hK _ ?_; clear hK K)
      refine sS_t rfl (fun K hK => ?_); go_simp; refine hK _ _ (.of ((Kb.below ((Below.refl _ _).alloc (Nat.le_refl _) _)).weak (by simp))) ?_; clear hK K
      refine sS_t rfl (fun K hK => ?_); rw [if_pos (wanted_free rfl _)]; refine app_op (E := eInt .i64) (w0 := w0) _ _ 61 3 (.int .i64 0) 8 rfl rfl Tryd.underlying61 info_intM rfl (by decide) (by decide) (.slice A1 (rp l).length c1) (rp l) [(n : Int)] ⟨_, 0, none⟩ 1 1 rfl rfl rfl (hrW.alloc _) (SlA.new (eInt .i64) _ _ _ _ (by simp) _ rfl) (hbW.alloc hbW.size _) (by simp; omega) ?_
      intro v5 w5 HO5 hb5 hg5 hmv5
      obtain ⟨g5, cap5, rfl, hgb5, hgl5, _, _, cur5, h5⟩ := HO5.form (by simp)
      have k5 : Kb W w5 S := ((Kb.below ((Below.refl W.heap.size W).alloc (Nat.le_refl _) _)).trans (Kb.row hg5 hSb.out)).weak (by simp)
      have c5 := k5.cell cW hgS
      have f5 : w5.frozen? ⟨g', a * 4 + 3, none⟩ = false := (frozen_kb k5 hgW hgS).trans fW
      have g5l : g' < w5.heap.size := Nat.lt_of_lt_of_le hgW k5.size
      refine hK _ _ (.of k5) ?_; clear hK K
      clear mcW cW fW
      repeat (refine sS_q rfl (fun K hK => ?_); unfold takeS; go_simp; refine hK _ ?_; clear hK K)
      refine sS_nil ?_
      go_wp2
      rw [noP_normal]
      go_wp2
      obtain ⟨sts', hM6, hb6, hz6, _⟩ := Mch.rule hMW (by have := hbW.size; omega) ham (by rw [hrA, hS.out]; exact k5) _ _ _ _ HO5 (fun b hb => by
        rw [hrA]
        rcases hmv5 with h1 | h1
        · exact .inl (h1 ▸ hb)
        · rw [h1] at hb; injection hb with hb; right; rw [← hb]; simp) g' rfl
      rw [show (rp l ++ [(n : Int)]).length = (rp l).length + 1 by simp] at hM6 hb6 hz6
      refine bodyPost_end (results_none rfl _ _ _) rfl ?_
      refine ⟨rfl, .slice (some ⟨g', 0, none⟩) Tk.length cap, sts', ?_, ?_, ?_⟩
      · rw [hTke.out]
        refine Mch.rsc hM6 fun j hj => ?_
        by_cases e : j = a
        · rw [if_pos e, if_pos (by rw [e]; exact HPA.out)]
        · rw [if_neg e, if_neg fun h => e (pth_inj hTk1.out.nodup hj (by omega) (h.trans HPA.out.symm))]
      · exact hb.trans ((hW.mono (by have := hb.size; omega)).trans hb6)
      · have := hW.size; omega
end Go.Proofs.YtmpoihejacklnaaDoor
/- A queue: numbers in a row that the call owns, cut at its head, appended to at its end. No condition. -/
namespace Go.Proofs.YtmpoihejacklnaaDoor
open Go Go.RowKit
/-- v reads as rem, in block g that the call owns. -/
structure Que (k : IntKind) (base : Nat) (w : World) (v : Value) (g : Nat) (rem : List Int) : Prop where
  form : ∃ o cap, v = .slice (some ⟨g, o, none⟩) rem.length cap ∧ rem.length ≤ cap ∧ cap ≤ maxLen ∧ (∀ j x, rem[j]? = some x → w.cell? ⟨g, o + j, none⟩ = some (.int k x)) ∧ ∀ j, j < cap → (w.cell? ⟨g, o + j, none⟩).isSome = true ∧ w.frozen? ⟨g, o + j, none⟩ = false
  ge : base ≤ g
  lt : g < w.heap.size
section
variable {k : IntKind} {base : Nat} {w w' : World} {v : Value} {g : Nat} {rem : List Int}
theorem Que.kept {row : Option Nat} (h : Que k base w v g rem) (hg : w.grownBy w' row) (hne : some g ≠ row) : Que k base w' v g rem := by
  obtain ⟨o, cap, h1, h2, h3, h4, h5⟩ := h.form
  have hb := hg.block g h.lt hne
  have hc : ∀ o, w'.cell? ⟨g, o, none⟩ = w.cell? ⟨g, o, none⟩ := fun o => World.cell?_of_block hb
  have hf : ∀ o, w'.frozen? ⟨g, o, none⟩ = w.frozen? ⟨g, o, none⟩ := fun o => World.frozen?_of_block hb
  exact ⟨⟨o, cap, h1, h2, h3, fun j x hx => by rw [hc]; exact h4 j x hx, fun j hj => by rw [hc, hf]; exact h5 j hj⟩, h.ge, Nat.lt_of_lt_of_le h.lt hg.size⟩
theorem Que.below (h : Que k base w v g rem) (hb : Below w.heap.size w w') : Que k base w' v g rem :=
  h.kept (row := none) ⟨hb.os, hb.tape, hb.output, hb.size, fun i hi _ => hb.block i hi⟩ (by simp)
theorem Que.one (k : IntKind) (base : Nat) (w : World) (x : Int) (t : TypeId) (hb : base ≤ w.heap.size) : Que k base (w.alloc (.cells #[.int k x] t)) (.slice (some ⟨w.heap.size, 0, none⟩) 1 1) w.heap.size [x] := by
  have hh : (w.alloc (.cells #[.int k x] t)).heap[w.heap.size]? = some (.cells #[.int k x] t (0, 0)) := by
    show (w.heap.push _)[w.heap.size]? = _
    simp
  refine ⟨⟨0, 1, rfl, by simp, by decide, fun j y hy => ?_, fun j hj => ?_⟩, hb, by simp⟩
  · match j, hy with
    | 0, hy =>
      simp at hy; subst hy
      unfold World.cell?; rw [hh]; rfl
    | j + 1, hy => simp at hy
  · obtain rfl : j = 0 := by omega
    refine ⟨?_, ?_⟩
    · unfold World.cell?; rw [hh]; rfl
    · unfold World.frozen?; rw [hh]; rfl
theorem Que.pop {x : Int} {o cap : Nat} (h : Que k base w (.slice (some ⟨g, o, none⟩) (rem.length + 1) cap) g (x :: rem)) : Que k base w (.slice (some (if cap = 1 then ⟨g, o, none⟩ else ⟨g, o + 1, none⟩)) rem.length (cap - 1)) g rem := by
  obtain ⟨o', cap', h1, h2, h3, h4, h5⟩ := h.form
  injection h1 with h6 _ h7
  injection h6 with h6
  injection h6 with _ h6
  subst h6 h7
  simp only [List.length_cons] at h2
  by_cases hc : cap = 1
  · subst hc
    obtain rfl : rem = [] := List.eq_nil_of_length_eq_zero (by omega)
    exact ⟨⟨o, 0, by simp, by simp, by omega, fun j y hy => by simp at hy, fun j hj => by omega⟩, h.ge, h.lt⟩
  · rw [if_neg hc]
    refine ⟨⟨o + 1, cap - 1, rfl, by omega, by omega, fun j y hy => ?_, fun j hj => ?_⟩, h.ge, h.lt⟩
    · have := h4 (j + 1) y (by simpa using hy)
      rwa [show o + (j + 1) = o + 1 + j by omega] at this
    · have := h5 (j + 1) (by omega)
      rwa [show o + (j + 1) = o + 1 + j by omega] at this
theorem Que.head {x : Int} {o n cap : Nat} (h : Que k base w (.slice (some ⟨g, o, none⟩) n cap) g (x :: rem)) : n = rem.length + 1 ∧ n ≤ cap ∧ cap ≤ maxLen ∧ w.cell? ⟨g, o, none⟩ = some (.int k x) := by
  obtain ⟨o', cap', h1, h2, h3, h4, h5⟩ := h.form
  injection h1 with h6 h8 h7
  injection h6 with h6
  injection h6 with _ h6
  subst h6 h7
  have := h4 0 x rfl
  simp only [List.length_cons] at h2 h8
  exact ⟨by omega, by omega, h3, by simpa using this⟩
end
/-- One number more. -/
theorem run_que {P : Program} {k : IntKind} {base : Nat} {w : World} {v : Value} {g : Nat} {rem : List Int} (t ty e : TypeId) {bytes : Nat} (ht : P.underlying t = some (.slice e)) (hinfo : (P.info? e).map (fun i => (i.zero, i.size, i.bytes)) = some (some (.int k 0), 1, bytes)) (hby : 0 < bytes)
    (H : Que k base w v g rem) (b o c : Nat) (x : Int) (hx : w.cell? ⟨b, o, none⟩ = some (.int k x)) (hl : (rem.length + 1) * bytes ≤ 140737488355328) (hb : base ≤ w.heap.size) :
    ∃ v' g' w', (Builtin.append_ #[t, t] ty #[v, .slice (some ⟨b, o, none⟩) 1 c]).run P w = .ok v' w' ∧ Que k base w' v' g' (rem ++ [x]) ∧ w.grownBy w' (some g) ∧ (g' = g ∨ w.heap.size ≤ g') := by
  obtain ⟨i0, hi, hzz⟩ := Option.map_eq_some_iff.1 hinfo
  simp only [Prod.mk.injEq] at hzz
  obtain ⟨hz0, hz1, hz2⟩ := hzz
  obtain ⟨o', cap, rfl, h2, h3, h4, h5⟩ := H.form
  have hlen : rem.length + 1 ≤ 140737488355328 := Nat.le_trans (Nat.le_mul_of_pos_right _ hby) hl
  have hadd : ∀ b o j, (⟨b, o, none⟩ : Addr).add j = ⟨b, o + j, none⟩ := fun b o j => by unfold Addr.add; split <;> simp_all
  have hnews : ∀ j u, [Value.int k x][j]? = some u → w.cell? ((⟨b, o, none⟩ : Addr).add j) = some u := fun j u hu => by
    match j, hu with
    | 0, hu => simp at hu; subst hu; rw [hadd]; simpa using hx
    | j + 1, hu => simp at hu
  by_cases hroom : rem.length + 1 ≤ cap
  · have hcs : ∀ j, j < [Value.int k x].length → (w.cell? ⟨g, o' + rem.length * i0.size + j, none⟩).isSome = true := fun j hj => by
      have hj : j < 1 := hj
      rw [hz1, Nat.mul_one, Nat.add_assoc]; exact (h5 (rem.length + j) (by omega)).1
    have hr := run_append_room_cells (P := P) w t ty e i0 ht hi g o' rem.length cap ⟨b, o, none⟩ 1 c [.int k x] (by simp [hz1]) hnews (by simp [Value.oneCell']) hroom hcs (fun j hj => by
        have hj : j < 1 := hj
        rw [hz1, Nat.mul_one, Nat.add_assoc]; exact (h5 (rem.length + j) (by omega)).2)
    have hst : w.setCells g (o' + rem.length * i0.size) [.int k x] = w.setCell ⟨g, o' + rem.length, none⟩ (.int k x) := by rw [hz1, Nat.mul_one]; rfl
    rw [hst] at hr
    have hhas := hcs 0 (by simp)
    rw [hz1, Nat.mul_one, Nat.add_zero] at hhas
    have hcell : ∀ j, (w.setCell ⟨g, o' + rem.length, none⟩ (.int k x)).cell? ⟨g, o' + j, none⟩ = if j = rem.length then some (.int k x) else w.cell? ⟨g, o' + j, none⟩ := fun j => by
      split
      · subst j; exact World.cell?_setCell_same' _ _ _ hhas
      · exact World.cell?_setCell_other w _ _ _ (fun e => by injection e with _ e; omega)
    refine ⟨_, g, _, hr, ⟨⟨o', cap, by simp, by simpa using hroom, h3, fun j y hy => ?_, fun j hj => ?_⟩, H.ge, by simpa using H.lt⟩, ?_, .inl rfl⟩
    · rw [hcell]
      split
      · subst j; simp at hy; subst hy; rfl
      · rename_i hj
        refine h4 j y ?_
        have hjl := (List.getElem?_eq_some_iff.1 hy).1
        simp only [List.length_append, List.length_singleton] at hjl
        rwa [List.getElem?_append_left (by omega)] at hy
    · rw [hcell, World.frozen?_setCell]
      refine ⟨?_, (h5 j hj).2⟩
      split
      · rfl
      · exact (h5 j hj).1
    · exact ⟨rfl, rfl, rfl, by simp, fun i hi hne => Deep.blk_setCell_other w _ _ i (fun e => hne (by rw [e]))⟩
  · have holds : ∀ j u, (rem.map (Value.int k))[j]? = some u → w.cell? ((⟨g, o', none⟩ : Addr).add j) = some u := fun j u hu => by
      rw [List.getElem?_map] at hu
      obtain ⟨y, hy, rfl⟩ := Option.map_eq_some_iff.1 hu
      rw [hadd]; exact h4 j y hy
    obtain ⟨v', w', hr, hown, hg⟩ := run_append_arg_grows (P := P) w t ty e i0 (.int k 0) 1 bytes ht hi hz0 hz1 hz2 rfl (by decide) ⟨g, o', none⟩ rem.length cap (rem.map (Value.int k)) (by simp) holds ⟨b, o, none⟩ 1 c [.int k x] (by simp) hnews (by omega) (by simp only [maxLen]; omega) hl
    rcases hown.2 with ⟨_, h0⟩ | ⟨g', cap', cur, rfl, hb', hg', h6, h7, h8, h9⟩
    · omega
    · have hcell : ∀ j, w'.cell? ⟨g', 0 + j, none⟩ = cur[j]? := fun j => by
        rw [Nat.zero_add]
        unfold World.cell?
        simp only [hg']
        rfl
      refine ⟨_, g', w', hr, ⟨⟨0, cap', by simp, by simpa using h6, h7, fun j y hy => ?_, fun j hj => ⟨?_, ?_⟩⟩, Nat.le_trans hb hb', (Array.getElem?_eq_some_iff.1 hg').1⟩, ⟨hg.os, hg.tape, hg.output, hg.size, fun i hi _ => hg.block i hi (by simp)⟩, .inr hb'⟩
      · have := hown.cells (g := g') rfl j (.int k y) (by
          have e : rem.map (Value.int k) ++ [.int k x] = (rem ++ [x]).map (Value.int k) := by simp
          rw [e, List.getElem?_map, hy]; rfl)
        rwa [hadd] at this
      · rw [hcell, Array.getElem?_eq_getElem (by omega)]; rfl
      · unfold World.frozen?
        simp only [hg']
        simp
end Go.Proofs.YtmpoihejacklnaaDoor
