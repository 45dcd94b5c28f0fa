/- Maps that the call owns, read as the list of their keys and values. No condition. -/
import Derived.Test.YtpccanadijefnaaDoorStr
import Derived.Maps.OwnSet
import Derived.Maps.OwnOps
import Derived.DeepKeys4
import Derived.WideMake
import Derived.Deep.Heap
namespace Go.Proofs.YtpccanadijefnaaDoor
open Go Go.RowKit
open Go.Maps (Keyed)
open Go.ChangeMaps (setBlock heap_setBlock_same heap_setBlock_other)

/-- Block b is a map: its keys and values, in the order in which they came. -/
def Mp (w : World) (b : Nat) (l : List (Value × Value)) : Prop := ∃ es clock, w.heap[b]? = some (.map es clock) ∧ es.toList.map (fun e => (e.key, e.val)) = l
theorem Mp.made (w : World) : Mp (w.alloc (.map #[] 0)) w.heap.size [] := ⟨#[], 0, (MapKept.heap_alloc w _).1, rfl⟩
section
variable {w w' : World} {b : Nat} {l : List (Value × Value)}
theorem Mp.lt (h : Mp w b l) : b < w.heap.size := by
  obtain ⟨es, clock, hb, _⟩ := h
  exact (Array.getElem?_eq_some_iff.1 hb).1
theorem Mp.kept {row : Option Nat} (h : Mp w b l) (hg : w.grownBy w' row) (hne : some b ≠ row) : Mp w' b l := by
  have hlt := h.lt
  obtain ⟨es, clock, hb, hl⟩ := h
  exact ⟨es, clock, (hg.block b hlt hne).trans hb, hl⟩
theorem Mp.below (h : Mp w b l) (hb : Below w.heap.size w w') : Mp w' b l :=
  h.kept (row := none) ⟨hb.os, hb.tape, hb.output, hb.size, fun i hi _ => hb.block i hi⟩ (by simp)
theorem Mp.setCell (h : Mp w b l) (p : Addr) (hp : p.block ≠ b) (u : Value) : Mp (w.setCell p u) b l := by
  obtain ⟨es, clock, hb, hl⟩ := h
  refine ⟨es, clock, ?_, hl⟩
  rw [← hb]
  exact Deep.blk_setCell_other w p u b (fun e => hp e.symm)
end
theorem Mp.find {P : Program} {k : TypeId} {w : World} {l : List (Value × Value)} (K : Keyed P k) {es : Array MapEntry} (hl : es.toList.map (fun e => (e.key, e.val)) = l)
    (hk : ∀ p ∈ l, ∃ q, keyOf P k p.1 = some q) {x : Value} {lx : Lit} (hx : keyOf P k x = some lx) :
    ((Instr.findKey k x es.toList).run P w = .ok none w ∧ ∀ p ∈ l, p.1 ≠ x) ∨ ∃ (j : Nat) (v : Value), (Instr.findKey k x es.toList).run P w = .ok (some (j, v)) w ∧ l[j]? = some (x, v) := by
  subst hl
  rcases K.find w hx es.toList (fun e he => hk (e.key, e.val) (List.mem_map.2 ⟨e, he, rfl⟩)) with ⟨h1, h2⟩ | ⟨j, e, h1, h2, h3⟩
  · refine .inl ⟨h1, fun p hp => ?_⟩
    obtain ⟨e, he, rfl⟩ := List.mem_map.1 hp
    exact h2 e he
  · exact .inr ⟨j, e.val, h1, by rw [List.getElem?_map, h2]; simp [h3]⟩
/-- No key twice. -/
def Apart (l : List (Value × Value)) : Prop := l.Pairwise (fun p q => p.1 ≠ q.1)
theorem Apart.one {l : List (Value × Value)} (h : Apart l) {x v v' : Value} {i j : Nat} (hi : l[i]? = some (x, v)) (hj : l[j]? = some (x, v')) : i = j ∧ v = v' := by
  obtain ⟨h1, e1⟩ := List.getElem?_eq_some_iff.1 hi
  obtain ⟨h2, e2⟩ := List.getElem?_eq_some_iff.1 hj
  have h' := List.pairwise_iff_getElem.1 h
  rcases Nat.lt_trichotomy i j with hlt | rfl | hlt
  · exact absurd (by rw [e1, e2]) (h' i j h1 h2 hlt)
  · rw [e1] at e2; exact ⟨rfl, by injection e2⟩
  · exact absurd (by rw [e1, e2]) (h' j i h2 h1 hlt)
/-- What a look-up finds. -/
def Finds (l : List (Value × Value)) (x z : Value) (r : Value × Bool) : Prop := ((∀ p ∈ l, p.1 ≠ x) ∧ r = (z, false)) ∨ ∃ (j : Nat) (v : Value), l[j]? = some (x, v) ∧ r = (v, true)
theorem wpList_lookup_mp {P : Program} {w : World} {ops : Array Oper} {rest : List Oper} {o : Oper} {a : Act} {Q : Exit → Act → World → Prop}
    (hg : o.guard = none) (m x : Operand) (t : TypeId) (hop : o.op = Op.lookup t m x true)
    (k e : TypeId) (K : Keyed P k) (ht : P.underlying t = some (.map k e)) (z : Value) (hz : (zeroValue e).run P w = .ok z w) (b : Nat) (l : List (Value × Value)) (hm : a.eval m = .map (some b)) (H : Mp w b l) (hA : Apart l)
    (hk : ∀ p ∈ l, ∃ q, keyOf P k p.1 = some q) (key : Value) (lx : Lit) (hx : a.eval x = key) (hkey : keyOf P k key = some lx) (r : Value × Bool) (hr : Finds l key z r)
    (hK : wpList P ops Q rest (a.put o.dst (.tuple #[r.1, .bool r.2])) w) : wpList P ops Q (o :: rest) a w := by
  refine wpList_plain hg fun K' hK' => ?_
  obtain ⟨es, clock, hb, hl⟩ := H
  have hrun : (Instr.lookup t (.map (some b)) key true).run P w = .ok (.tuple #[r.1, .bool r.2]) w := by
    rcases Mp.find (w := w) K hl hk hkey with ⟨h1, h2⟩ | ⟨j, v, h1, h2⟩
    · have : r = (z, false) := by
        rcases hr with ⟨_, h⟩ | ⟨j, v, h, _⟩
        · exact h
        · exact absurd rfl (h2 _ (List.mem_of_getElem? h))
      subst this
      simp [Instr.lookup, run_underlying ht, MapKept.run_getObj_map hb, K.check w _ hkey, h1, hz, Result.andThen]
    · have : r = (v, true) := by
        rcases hr with ⟨h, _⟩ | ⟨j', v', h, rfl⟩
        · exact absurd rfl (h _ (List.mem_of_getElem? h2))
        · rw [(hA.one h h2).2]
      subst this
      simp [Instr.lookup, run_underlying ht, MapKept.run_getObj_map hb, K.check w _ hkey, h1, Result.andThen]
  unfold Oper.wp
  simp [execOp, hop, hm, hx, hrun, Result.andThen]
  exact hK' _ _ hK
/-- A store at a new key. -/
theorem wpList_mapUpdate_mp {P : Program} {w : World} {ops : Array Oper} {rest : List Oper} {o : Oper} {a : Act} {Q : Exit → Act → World → Prop}
    (hg : o.guard = none) (m x v : Operand) (t : TypeId) (hop : o.op = Op.mapUpdate t m x v)
    (k e : TypeId) (K : Keyed P k) (ht : P.underlying t = some (.map k e)) (b : Nat) (l : List (Value × Value)) (hm : a.eval m = .map (some b)) (H : Mp w b l)
    (hk : ∀ p ∈ l, ∃ q, keyOf P k p.1 = some q) (key val : Value) (lx : Lit) (hx : a.eval x = key) (hv : a.eval v = val) (hkey : keyOf P k key = some lx) (hno : ∀ p ∈ l, p.1 ≠ key)
    (hK : ∀ w', Mp w' b (l ++ [(key, val)]) → w.grownBy w' (some b) → wpList P ops Q rest (a.put o.dst undef) w') : wpList P ops Q (o :: rest) a w := by
  refine wpList_plain hg fun K' hK' => ?_
  obtain ⟨es, clock, hb, hl⟩ := H
  have hrun : (Instr.mapUpdate t (.map (some b)) key val).run P w = .ok () (setBlock w b (.map (es.push ⟨key, val, clock⟩) (clock + 1))) := by
    rcases Mp.find (w := w) K hl hk hkey with ⟨h1, h2⟩ | ⟨j, v, h1, h2⟩
    · simp [Instr.mapUpdate, run_underlying ht, MapKept.run_getObj_map hb, K.check w false hkey, h1, MapKept.run_setObj_map _ hb, Result.andThen, setBlock]
    · exact absurd rfl (hno _ (List.mem_of_getElem? h2))
  unfold Oper.wp
  simp [execOp, hop, hm, hx, hv, hrun, Result.andThen]
  exact hK' _ _ (hK _ ⟨_, _, heap_setBlock_same hb _, by simp [hl]⟩ ⟨rfl, rfl, rfl, by simp [setBlock], fun i _ hi => heap_setBlock_other hb _ (fun e => hi (by rw [e]))⟩)
/-- Keys of two texts: count's sides. -/
def kv (b : T3) : Value := .agg #[.string b.f, .string b.t]
theorem sides_keyed : Keyed Tryd.prog 111 := Keyed.of_law (deep_law_laid (by kernel_rfl) (m := 2) (by omega) (of_decide_eq_true (by kernel_rfl)) (by kernel_rfl) (by rw [Tryd.underlying111]))
theorem keyOf_two {P : Program} {k s : TypeId} {f g : Field} (hs : P.underlying s = some .string) (hk : P.underlying k = some (.struct #[f, g])) (hkt : P.keyType k = true) (hc : P.cellsOf k = 2) (hcs : P.cellsOf s = 1)
    (hf : (f.name != "_" && g.name != "_" && f.type == s && g.type == s && f.offset == 0 && g.offset == 1) = true) (hn : (P.types.size == 0) = false) {x y : ByteArray} (hx : x.size ≤ maxLen) (hy : y.size ≤ maxLen) : ∃ q, keyOf P k (.agg #[.string x, .string y]) = some q := by
  obtain ⟨m, hm⟩ : ∃ m, P.types.size = m + 1 := Nat.exists_eq_succ_of_ne_zero (by simpa using hn)
  simp only [Bool.and_eq_true, beq_iff_eq, bne_iff_ne, ne_eq] at hf
  obtain ⟨⟨⟨⟨⟨f1, f2⟩, f3⟩, f4⟩, f5⟩, f6⟩ := hf
  simp [keyOf, hk, hkt, hc, Value.formed, Value.cells, hm, Program.keyLits, hs, f1, f2, f3, f4, f5, f6, hcs, hx, hy]
theorem kv_key {b : T3} (h1 : b.f.size ≤ maxLen) (h2 : b.t.size ≤ maxLen) : ∃ q, keyOf Tryd.prog 111 (kv b) = some q :=
  keyOf_two (s := 9) Tryd.underlying9 Tryd.underlying111 (by kernel_rfl) (by kernel_rfl) (by kernel_rfl) (by kernel_rfl) (by kernel_rfl) h1 h2
end Go.Proofs.YtpccanadijefnaaDoor
