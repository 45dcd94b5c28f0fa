/- Parts of these proofs, one behind the other: OnM, Ac. No condition. -/
import Derived.Test.YtmpoihejacklnaaDoorK801
import Derived.Maps.RangeWalk
import Derived.Maps.Own
import Derived.Maps.OwnSet
import Derived.Maps.Ext
import Derived.KernelRfl
/- Maps from runes to numbers that the call owns, read as functions. No condition. -/
namespace Go.Proofs.YtmpoihejacklnaaDoor
open Go Go.RowKit
open Go.Maps (Keyed)
/-- Block b is a map that reads as f; no more than N entries. -/
def OnM (P : Program) (k e : TypeId) (w : World) (b N : Nat) (f : Int → Option Nat) : Prop :=
  ∃ D : DataW Unit, w.ownsMap P k (plainElem P e) b N D ∧ ∀ r, Maps.has D (.int .i32 r) = (f r).isSome ∧ ∀ v, f r = some v → ∀ z, D.atKey (.int .i32 r) z = .lit (.int .i64 v)
section
variable {P : Program} {k e t : TypeId} {w w' : World} {b N : Nat} {f : Int → Option Nat}
theorem OnM.made (P : Program) (k e : TypeId) (w : World) : OnM P k e (w.alloc (.map #[] 0)) w.heap.size 0 (fun _ => none) :=
  ⟨.map [], World.ownsMap_made w P k _, fun r => ⟨rfl, fun v h => by cases h⟩⟩
theorem OnM.mono (h : OnM P k e w b N f) {N' : Nat} (hn : N ≤ N') : OnM P k e w b N' f := by
  obtain ⟨D, h1, h2⟩ := h
  exact ⟨D, h1.mono hn, h2⟩
theorem OnM.lt (h : OnM P k e w b N f) : b < w.heap.size := h.choose_spec.1.lt
theorem OnM.kept {row : Option Nat} (h : OnM P k e w b N f) (hg : w.grownBy w' row) (hne : some b ≠ row) : OnM P k e w' b N f := by
  obtain ⟨D, h1, h2⟩ := h
  exact ⟨D, h1.kept hg hne, h2⟩
theorem OnM.below (h : OnM P k e w b N f) (hb : Below w.heap.size w w') : OnM P k e w' b N f :=
  h.kept (row := none) ⟨hb.os, hb.tape, hb.output, hb.size, fun i hi _ => hb.block i hi⟩ (by simp)
theorem OnM.congr (h : OnM P k e w b N f) {g : Int → Option Nat} (hfg : ∀ r, f r = g r) : OnM P k e w b N g := by
  rwa [show g = f from funext fun r => (hfg r).symm]
/-- A map block is no row of cells. -/
theorem OnM.ne_cells (h : OnM P k e w b N f) {g : Nat} {cs : Array Value} {t : TypeId} {fr : Nat × Nat} (hg : w.heap[g]? = some (.cells cs t fr)) : b ≠ g := fun e => by
  subst e
  obtain ⟨D, ⟨es, clock, hb, _⟩, _⟩ := h
  rw [hb] at hg; cases hg
end
section
variable {P : Program} {w : World} {ops : Array Oper} {rest : List Oper} {o : Oper} {a : Act} {Q : Exit → Act → World → Prop}
/-- 'v, ok := m[r]'. -/
theorem wpList_onm_look (hg : o.guard = none) (m x : Operand) (t : TypeId) (hop : o.op = Op.lookup t m x true)
    (k e : TypeId) (hk : P.underlying k = some (.int .i32)) (he : P.underlying e = some (.int .i64)) (ht : P.underlying t = some (.map k e)) (hz : (zeroValue e).run P w = .ok (.int .i64 0) w) (b N : Nat) (f : Int → Option Nat)
    (hm : a.eval m = .map (some b)) (H : OnM P k e w b N f) (r : Int) (hr : (Lit.int .i32 r).wf = true) (hx : a.eval x = .int .i32 r)
    (hK : wpList P ops Q rest (a.put o.dst (.tuple #[.int .i64 (((f r).getD 0 : Nat) : Int), .bool (f r).isSome])) w) : wpList P ops Q (o :: rest) a w := by
  obtain ⟨D, h1, h2⟩ := H
  obtain ⟨h3, h4⟩ := h2 r
  refine wpList_lookup_own_ok_int w hg m x t hop k e .i64 (Maps.int_keyed hk) ht he hz b N D hm h1 _ _ hx (Maps.keyOf_int_mk hk hr) fun c hat _ => ?_
  rw [h3]
  cases hf : f r with
  | none =>
    rw [hf] at h3 hK
    rw [Maps.atKey_of_not_has (by simpa using h3)] at hat
    injection hat with hat
    injection hat with _ hat
    subst hat
    exact hK
  | some v =>
    rw [hf] at hK
    rw [h4 v hf] at hat
    injection hat with hat
    injection hat with _ hat
    subst hat
    exact hK
/-- 'm[r] = v', at a new key or at an old one. -/
theorem wpList_onm_put (hg : o.guard = none) (m x v : Operand) (t : TypeId) (hop : o.op = Op.mapUpdate t m x v)
    (k e : TypeId) (hk : P.underlying k = some (.int .i32)) (he : P.underlying e = some (.int .i64)) (ht : P.underlying t = some (.map k e)) (b N : Nat) (f : Int → Option Nat)
    (hm : a.eval m = .map (some b)) (H : OnM P k e w b N f) (hN : N < maxLen) (r : Int) (hr : (Lit.int .i32 r).wf = true) (hx : a.eval x = .int .i32 r) (n : Nat) (hn : n ≤ 9223372036854775807) (hv : a.eval v = .int .i64 n)
    (hK : ∀ w', OnM P k e w' b (N + 1) (fun y => if y = r then some n else f y) → w.grownBy w' (some b) → wpList P ops Q rest (a.put o.dst undef) w') : wpList P ops Q (o :: rest) a w := by
  obtain ⟨D, h1, h2⟩ := H
  obtain ⟨es, hD, _⟩ := h1.canon (Maps.int_keyed hk)
  have hM : Maps.IsMap D := ⟨es, hD⟩
  have hkl : WideAt.IsKeyLit (.int .i32 r) := trivial
  refine wpList_mapUpdate_own w hg m x v t hop k e (Maps.int_keyed hk) ht (plainElem P e) b N D hm h1 hN _ _ _ hx hv (Maps.keyOf_int_mk hk hr) (.lit (.int .i64 n)) [] (plainElem_int he (by simp [Lit.wf, show IntKind.i64.min = -9223372036854775808 from rfl, show IntKind.i64.max = 9223372036854775807 from rfl]; omega)) fun w' h3 h4 => hK w' ⟨_, h3, fun y => ?_⟩ h4
  by_cases hy : y = r
  · subst hy
    show _ = (if y = y then some n else f y).isSome ∧ ∀ v, (if y = y then some n else f y) = some v → _
    rw [if_pos rfl]
    exact ⟨Maps.has_put_same hM hkl _, fun v hv z => by injection hv with hv; subst hv; exact Maps.atKey_put_same hM hkl _ _⟩
  · show _ = (if y = r then some n else f y).isSome ∧ ∀ v, (if y = r then some n else f y) = some v → _
    rw [if_neg hy]
    have hne : Lit.int .i32 y ≠ Lit.int .i32 r := fun e => hy (by injection e)
    exact ⟨by rw [Maps.has_put_other hne]; exact (h2 y).1, fun v hv z => by rw [Maps.atKey_put_other hne]; exact (h2 y).2 v hv z⟩
end
/-- Block r ranges over the map b that reads as f: what is left. -/
def RngM (P : Program) (k e : TypeId) (w : World) (b r N : Nat) (f : Int → Option Nat) (left : Int → Bool) (cnt : Nat) : Prop :=
  ∃ (D : DataW Unit) (l : Lit → Bool), w.ranges P k (plainElem P e) b r N D l cnt ∧ (∀ r, Maps.has D (.int .i32 r) = (f r).isSome ∧ ∀ v, f r = some v → ∀ z, D.atKey (.int .i32 r) z = .lit (.int .i64 v)) ∧ (∀ x, l (.int .i32 x) = left x) ∧ (∀ x, left x = true → (f x).isSome = true)
section
variable {P : Program} {k e t : TypeId} {w w' : World} {b r N cnt : Nat} {f : Int → Option Nat} {left : Int → Bool}
theorem RngM.kept {row : Option Nat} (h : RngM P k e w b r N f left cnt) (hg : w.grownBy w' row) (hb : some b ≠ row) (hr : some r ≠ row) : RngM P k e w' b r N f left cnt := by
  obtain ⟨D, l, h1, h2⟩ := h
  exact ⟨D, l, h1.kept hg hb hr, h2⟩
theorem RngM.on (h : RngM P k e w b r N f left cnt) : OnM P k e w b N f := by
  obtain ⟨D, l, h1, h2, _⟩ := h
  exact ⟨D, h1.owns, h2⟩
theorem RngM.lt (h : RngM P k e w b r N f left cnt) : r < w.heap.size := h.choose_spec.choose_spec.1.lt
theorem RngM.left_eq (h : RngM P k e w b r N f left cnt) : w.rangeLeft b r = cnt := h.choose_spec.choose_spec.1.left_eq
theorem RngM.ne (h : RngM P k e w b r N f left cnt) : r ≠ b := h.choose_spec.choose_spec.1.ne
end
section
variable {P : Program} {w : World} {ops : Array Oper} {rest : List Oper} {o : Oper} {a : Act} {Q : Exit → Act → World → Prop}
theorem wpList_onm_range (hg : o.guard = none) (m : Operand) (t : TypeId) (hop : o.op = Op.range t m) (k e : TypeId) (hk : P.underlying k = some (.int .i32)) (ht : P.underlying t = some (.map k e)) (b N : Nat) (f : Int → Option Nat)
    (hm : a.eval m = .map (some b)) (H : OnM P k e w b N f)
    (hK : ∀ w' cnt, RngM P k e w' b w.heap.size N f (fun x => (f x).isSome) cnt → w.grownBy w' none → w'.heap.size = w.heap.size + 1 → wpList P ops Q rest (a.put o.dst (.pointer (some ⟨w.heap.size, 0, none⟩))) w') : wpList P ops Q (o :: rest) a w := by
  obtain ⟨D, h1, h2⟩ := H
  exact wpList_range_own w hg m t hop k e (Maps.int_keyed hk) ht (plainElem P e) b N D hm h1 fun w' h3 h4 h5 => hK w' _ ⟨D, _, h3, h2, fun x => (h2 x).1, fun _ h => h⟩ h4 h5
theorem wpList_onm_next (hg : o.guard = none) (it : Operand) (hop : o.op = Op.next it false) (k e : TypeId) (hk : P.underlying k = some (.int .i32)) (he : P.underlying e = some (.int .i64)) (b r N : Nat) (f : Int → Option Nat) (left : Int → Bool) (cnt : Nat)
    (hit : a.eval it = .pointer (some ⟨r, 0, none⟩)) (h : RngM P k e w b r N f left cnt)
    (hDone : (∀ x, left x = false) → wpList P ops Q rest (a.put o.dst (.tuple #[.bool false])) w)
    (hMore : ∀ (x : Int) (v : Nat) (w' : World) (cnt' : Nat), (Lit.int .i32 x).wf = true → left x = true → f x = some v → RngM P k e w' b r N f (fun y => left y && !decide (y = x)) cnt' → cnt' < cnt → w.grownBy w' (some r) → w'.heap.size = w.heap.size →
      (Instr.entry (.pointer (some ⟨r, 0, none⟩))).run P w' = .ok (.tuple #[.int .i32 x, .int .i64 v]) w' → wpList P ops Q rest (a.put o.dst (.tuple #[.bool true, .int .i32 x, .int .i64 v])) w') : wpList P ops Q (o :: rest) a w := by
  obtain ⟨D, l, h1, h2, h3, h4⟩ := h
  refine wpList_next_ranges_ii w hg it hop k e .i32 .i64 (Maps.int_keyed hk) hk he b r N D l cnt hit h1 (fun _ hl => hDone fun x => by rw [← h3]; exact hl _) ?_
  intro x c w' cnt' hwx hwc hlx hat hrg hlt hgr hsz hen
  have hlx' : left x = true := by rw [← h3]; exact hlx
  obtain ⟨v, hv⟩ := Option.isSome_iff_exists.1 (h4 x hlx')
  have h5 := (h2 x).2 v hv (.lit (.int .i64 0))
  rw [hat] at h5
  injection h5 with h5
  injection h5 with _ h5
  subst h5
  refine hMore x v w' cnt' hwx hlx' hv ⟨D, _, hrg, h2, fun y => ?_, fun y hy => ?_⟩ hlt hgr hsz hen
  · show (l (.int .i32 y) && !(Lit.int .i32 y).sameKey (.int .i32 x)) = _
    rw [h3]
    congr 2
    simp [Lit.sameKey]
  · simp only [Bool.and_eq_true] at hy
    exact h4 y hy.1
end
end Go.Proofs.YtmpoihejacklnaaDoor
/- What hits are, for the statements on matching. Plain. No condition. -/
namespace Go.Proofs.YtmpoihejacklnaaDoor
section
/-- All beginnings: the empty one first, each once, each with its own beginnings. -/
structure Trie (T : List (List Int)) : Prop where
  root : T[0]? = some []
  nodup : T.Nodup
  pre : ∀ p r, p ++ [r] ∈ T → p ∈ T
theorem Trie.mem {T : List (List Int)} (h : Trie T) : ([] : List Int) ∈ T := List.mem_of_getElem? h.root
theorem Trie.pos {T : List (List Int)} (h : Trie T) : 0 < T.length := (List.getElem?_eq_some_iff.1 h.root).1
theorem nodup_inj {α : Type} {T : List α} (h : T.Nodup) {i j : Nat} {p : α} (hi : T[i]? = some p) (hj : T[j]? = some p) : i = j := by
  obtain ⟨h1, e1⟩ := List.getElem?_eq_some_iff.1 hi
  obtain ⟨h2, e2⟩ := List.getElem?_eq_some_iff.1 hj
  have h' := List.pairwise_iff_getElem.1 h
  rcases Nat.lt_trichotomy i j with hlt | rfl | hlt
  · exact absurd (e1.trans e2.symm) (h' i j h1 h2 hlt)
  · rfl
  · exact absurd (e2.trans e1.symm) (h' j i h2 h1 hlt)
theorem Trie.zero {T : List (List Int)} (h : Trie T) {i : Nat} : T[i]? = some [] ↔ i = 0 := ⟨fun e => nodup_inj h.nodup e h.root, fun e => by subst e; exact h.root⟩
theorem Trie.one : Trie [[]] := ⟨rfl, by simp, fun p r h => by simp at h⟩
/-- One beginning more. -/
def addP (T : List (List Int)) (p : List Int) : List (List Int) := if p ∈ T then T else T ++ [p]
theorem addP_trie {T : List (List Int)} (h : Trie T) {p : List Int} {r : Int} (hp : p ∈ T) : Trie (addP T (p ++ [r])) := by
  unfold addP
  split
  · exact h
  · rename_i hn
    refine ⟨?_, ?_, fun q s hq => ?_⟩
    · rw [List.getElem?_append_left h.pos]; exact h.root
    · refine List.nodup_append.2 ⟨h.nodup, by simp, fun a ha b hb e => ?_⟩
      subst e
      obtain rfl := List.mem_singleton.1 hb
      exact hn ha
    · rcases List.mem_append.1 hq with hq | hq
      · exact List.mem_append.2 (.inl (h.pre q s hq))
      · have e := List.mem_singleton.1 hq
        have := List.append_inj e (by have := congrArg List.length e; simp at this; omega)
        rw [this.1]; exact List.mem_append.2 (.inl hp)
theorem addP_mem {T : List (List Int)} {p q : List Int} : q ∈ addP T p ↔ q ∈ T ∨ q = p := by
  unfold addP
  split
  · rename_i h
    constructor
    · exact .inl
    · rintro (h1 | rfl)
      · exact h1
      · exact h
  · simp
/-- A row laid: all its beginnings up to k. -/
def putK (T : List (List Int)) (l : List Int) (k : Nat) : List (List Int) := (List.range k).foldl (fun T i => addP T (l.take (i + 1))) T
theorem putK_succ (T : List (List Int)) (l : List Int) (k : Nat) : putK T l (k + 1) = addP (putK T l k) (l.take (k + 1)) := by
  unfold putK; rw [List.range_succ, List.foldl_append]; rfl
theorem putK_trie {T : List (List Int)} (h : Trie T) (l : List Int) : ∀ k, k ≤ l.length → Trie (putK T l k) ∧ ∀ i, i ≤ k → l.take i ∈ putK T l k
  | 0, _ => ⟨h, fun i hi => by
    obtain rfl : i = 0 := Nat.le_zero.1 hi
    exact h.mem⟩
  | k + 1, hk => by
    obtain ⟨h1, h2⟩ := putK_trie h l k (by omega)
    rw [putK_succ]
    have e : l.take (k + 1) = l.take k ++ [l[k]] := List.take_succ_eq_append_getElem (by omega)
    refine ⟨by rw [e]; exact addP_trie h1 (h2 k (Nat.le_refl _)), fun i hi => addP_mem.2 ?_⟩
    rcases Nat.lt_or_ge i (k + 1) with hlt | hge
    · exact .inl (h2 i (by omega))
    · obtain rfl : i = k + 1 := by omega
      exact .inr rfl
theorem putK_len (T : List (List Int)) (l : List Int) : ∀ k, T.length ≤ (putK T l k).length ∧ (putK T l k).length ≤ T.length + k
  | 0 => ⟨Nat.le_refl _, Nat.le_refl _⟩
  | k + 1 => by
    have ih := putK_len T l k
    rw [putK_succ]; unfold addP
    split
    · omega
    · rw [List.length_append, List.length_singleton]; omega
def putT (T : List (List Int)) (l : List Int) : List (List Int) := putK T l l.length
/-- The states of Froms. -/
def statesT (fs : List (List Int)) : List (List Int) := fs.foldl putT [[]]
theorem statesT_snoc (fs : List (List Int)) (l : List Int) : statesT (fs ++ [l]) = putT (statesT fs) l := by unfold statesT; rw [List.foldl_append]; rfl
theorem putT_trie {T : List (List Int)} (h : Trie T) (l : List Int) : Trie (putT T l) := (putK_trie h l _ (Nat.le_refl _)).1
theorem putT_self {T : List (List Int)} (h : Trie T) (l : List Int) : l ∈ putT T l := by
  have := (putK_trie h l l.length (Nat.le_refl _)).2 l.length (Nat.le_refl _)
  rwa [List.take_length] at this
theorem putT_mem {T : List (List Int)} {l q : List Int} : q ∈ putT T l ↔ q ∈ T ∨ ∃ k, 0 < k ∧ k ≤ l.length ∧ q = l.take k := by
  have : ∀ k, q ∈ putK T l k ↔ q ∈ T ∨ ∃ i, 0 < i ∧ i ≤ k ∧ q = l.take i := fun k => by
    induction k with
    | zero =>
      constructor
      · exact .inl
      · rintro (h | ⟨i, h1, h2, _⟩)
        · exact h
        · omega
    | succ k ih =>
      rw [putK_succ, addP_mem, ih]
      constructor
      · rintro ((h | ⟨i, h1, h2, h3⟩) | h)
        · exact .inl h
        · exact .inr ⟨i, h1, by omega, h3⟩
        · exact .inr ⟨k + 1, by omega, by omega, h⟩
      · rintro (h | ⟨i, h1, h2, h3⟩)
        · exact .inl (.inl h)
        · rcases Nat.lt_or_ge i (k + 1) with hlt | hge
          · exact .inl (.inr ⟨i, h1, by omega, h3⟩)
          · obtain rfl : i = k + 1 := by omega
            exact .inr h3
  exact this _
theorem foldl_put (fs : List (List Int)) : ∀ T, Trie T → Trie (fs.foldl putT T) ∧ ∀ q, q ∈ fs.foldl putT T ↔ q ∈ T ∨ ∃ l ∈ fs, ∃ k, 0 < k ∧ k ≤ l.length ∧ q = l.take k := by
  induction fs with
  | nil => exact fun T h => ⟨h, fun q => by simp⟩
  | cons l fs ih =>
    intro T h
    obtain ⟨h1, h2⟩ := ih (putT T l) (putT_trie h l)
    refine ⟨h1, fun q => ?_⟩
    rw [List.foldl_cons, h2, putT_mem]
    constructor
    · rintro ((h | h) | ⟨m, hm, h⟩)
      · exact .inl h
      · exact .inr ⟨l, by simp, h⟩
      · exact .inr ⟨m, by simp [hm], h⟩
    · rintro (h | ⟨m, hm, h⟩)
      · exact .inl (.inl h)
      · rcases List.mem_cons.1 hm with rfl | hm
        · exact .inl (.inr h)
        · exact .inr ⟨m, hm, h⟩
theorem states_trie (fs : List (List Int)) : Trie (statesT fs) := (foldl_put fs _ Trie.one).1
theorem states_mem {fs : List (List Int)} {q : List Int} : q ∈ statesT fs ↔ q = [] ∨ ∃ l ∈ fs, ∃ k, 0 < k ∧ k ≤ l.length ∧ q = l.take k := by
  rw [statesT, (foldl_put fs _ Trie.one).2]; simp
theorem states_self {fs : List (List Int)} {l : List Int} (h : l ∈ fs) : l ∈ statesT fs := by
  rw [states_mem]
  cases l with
  | nil => exact .inl rfl
  | cons x l => exact .inr ⟨_, h, (x :: l).length, by simp, Nat.le_refl _, by rw [List.take_length]⟩
theorem states_len (fs : List (List Int)) : (statesT fs).length ≤ (fs.map List.length).sum + 1 := by
  have : ∀ (fs : List (List Int)) T, (fs.foldl putT T).length ≤ (fs.map List.length).sum + T.length := fun fs => by
    induction fs with
    | nil => intro T; simp
    | cons l fs ih =>
      intro T
      have h1 := ih (putT T l)
      have h2 := (putK_len T l l.length).2
      simp only [List.foldl_cons, List.map_cons, List.sum_cons]
      unfold putT at *
      omega
  exact this fs [[]]
/-! ### longest endings -/
/-- Of a row the longest ending that is a state. -/
def ls (T : List (List Int)) : List Int → List Int
  | [] => []
  | x :: u => if (x :: u) ∈ T then x :: u else ls T u
theorem ls_suffix (T : List (List Int)) : ∀ u, ls T u <:+ u
  | [] => List.suffix_refl _
  | x :: u => by
    unfold ls; split
    · exact List.suffix_refl _
    · exact (ls_suffix T u).trans (List.suffix_cons x u)
theorem ls_mem {T : List (List Int)} (h : ([] : List Int) ∈ T) : ∀ u, ls T u ∈ T
  | [] => h
  | x :: u => by
    unfold ls; split
    · assumption
    · exact ls_mem h u
theorem ls_max {T : List (List Int)} : ∀ {u s : List Int}, s <:+ u → s ∈ T → s <:+ ls T u
  | [], s, h, _ => h
  | x :: u, s, h, hs => by
    unfold ls; split
    · exact h
    · rename_i hn
      rcases List.suffix_cons_iff.1 h with rfl | h
      · exact absurd hs hn
      · exact ls_max h hs
theorem suffix_antisymm {a b : List Int} (h : a <:+ b) (k : b <:+ a) : a = b := h.eq_of_length (Nat.le_antisymm h.length_le k.length_le)
theorem ls_self {T : List (List Int)} {u : List Int} (h : u ∈ T) : ls T u = u := suffix_antisymm (ls_suffix T u) (ls_max (List.suffix_refl u) h)
theorem ls_eq {T : List (List Int)} (h0 : ([] : List Int) ∈ T) {u v : List Int} (h : ∀ s ∈ T, s <:+ u ↔ s <:+ v) : ls T u = ls T v :=
  suffix_antisymm (ls_max ((h _ (ls_mem h0 u)).1 (ls_suffix T u)) (ls_mem h0 u)) (ls_max ((h _ (ls_mem h0 v)).2 (ls_suffix T v)) (ls_mem h0 v))
theorem suffix_snoc {s u : List Int} {r : Int} : s <:+ u ++ [r] ↔ s = [] ∨ ∃ s', s = s' ++ [r] ∧ s' <:+ u := by
  rcases List.eq_nil_or_concat s with rfl | ⟨s', x, rfl⟩
  · simp
  · rw [List.concat_eq_append] at *
    constructor
    · intro h
      right
      obtain ⟨t, ht⟩ := h
      rw [← List.append_assoc] at ht
      have := List.append_inj' ht rfl
      obtain ⟨h1, h2⟩ := this
      injection h2 with h2
      subst h2
      exact ⟨s', rfl, t, h1⟩
    · rintro (h | ⟨s'', h, t, ht⟩)
      · simp at h
      · have := List.append_inj' h rfl
        obtain ⟨h1, h2⟩ := this
        injection h2 with h2
        subst h1 h2
        exact ⟨t, by rw [← ht, List.append_assoc]⟩
/-- A rune more, from the longest ending. -/
theorem ls_step {T : List (List Int)} (h : Trie T) (u : List Int) (r : Int) : ls T (u ++ [r]) = ls T (ls T u ++ [r]) := by
  refine ls_eq h.mem fun s hs => ?_
  rw [suffix_snoc, suffix_snoc]
  constructor
  · rintro (h1 | ⟨s', rfl, h1⟩)
    · exact .inl h1
    · exact .inr ⟨s', rfl, ls_max h1 (h.pre _ _ hs)⟩
  · rintro (h1 | ⟨s', rfl, h1⟩)
    · exact .inl h1
    · exact .inr ⟨s', rfl, h1.trans (ls_suffix T u)⟩
/-- Where a state falls back to. -/
def fb (T : List (List Int)) (p : List Int) : List Int := ls T p.tail
theorem fb_mem {T : List (List Int)} (h : Trie T) (p : List Int) : fb T p ∈ T := ls_mem h.mem _
theorem fb_len {T : List (List Int)} {p : List Int} (hp : p ≠ []) : (fb T p).length < p.length := by
  have h1 := (ls_suffix T p.tail).length_le
  have h2 : 0 < p.length := List.length_pos_iff.2 hp
  rw [List.length_tail] at h1
  unfold fb
  omega
theorem step_fall {T : List (List Int)} (h : Trie T) {p : List Int} {r : Int} (hp : p ≠ []) (hn : p ++ [r] ∉ T) : ls T (p ++ [r]) = ls T (fb T p ++ [r]) := by
  cases p with
  | nil => exact absurd rfl hp
  | cons x p =>
    show ls T (x :: (p ++ [r])) = _
    rw [ls, if_neg (by simpa using hn)]
    exact ls_step h p r
theorem step_root {T : List (List Int)} {r : Int} (hn : [r] ∉ T) : ls T ([] ++ [r]) = [] := by
  show ls T [r] = []
  rw [ls, if_neg hn, ls]
/-- Where the states of a rune more fall back to. -/
theorem fb_snoc {T : List (List Int)} (h : Trie T) {p : List Int} {r : Int} (hp : p ≠ []) : fb T (p ++ [r]) = ls T (fb T p ++ [r]) := by
  unfold fb
  cases p with
  | nil => exact absurd rfl hp
  | cons x p => exact ls_step h p r
theorem fb_one {T : List (List Int)} (r : Int) : fb T [r] = [] := rfl
/-! ### what ends at a place -/
def chainF (T : List (List Int)) : Nat → List Int → List (List Int)
  | 0, p => [p]
  | n + 1, p => if p = [] then [[]] else p :: chainF T n (fb T p)
def chain (T : List (List Int)) (p : List Int) : List (List Int) := chainF T p.length p
theorem chainF_enough {T : List (List Int)} : ∀ (n m : Nat) (p : List Int), p.length ≤ n → p.length ≤ m → chainF T n p = chainF T m p
  | 0, 0, _, _, _ => rfl
  | 0, m + 1, p, h, _ => by
    obtain rfl : p = [] := List.eq_nil_of_length_eq_zero (by omega)
    rfl
  | n + 1, 0, p, _, h => by
    obtain rfl : p = [] := List.eq_nil_of_length_eq_zero (by omega)
    rfl
  | n + 1, m + 1, p, h, h' => by
    unfold chainF
    split
    · rfl
    · rename_i hp
      have := fb_len (T := T) hp
      rw [chainF_enough n m _ (by omega) (by omega)]
theorem chain_nil (T : List (List Int)) : chain T [] = [[]] := rfl
theorem chain_cons {T : List (List Int)} {p : List Int} (hp : p ≠ []) : chain T p = p :: chain T (fb T p) := by
  have hl := fb_len (T := T) hp
  unfold chain
  obtain ⟨n, hn⟩ : ∃ n, p.length = n + 1 := ⟨p.length - 1, by omega⟩
  rw [hn]
  conv => lhs; unfold chainF
  rw [if_neg hp, chainF_enough n (fb T p).length _ (by omega) (Nat.le_refl _)]
theorem chain_mem {T : List (List Int)} (h : Trie T) (s : List Int) : ∀ (n : Nat) (p : List Int), p.length ≤ n → p ∈ T → (s ∈ chain T p ↔ s ∈ T ∧ s <:+ p)
  | 0, p, hn, hp => by
    obtain rfl : p = [] := List.eq_nil_of_length_eq_zero (by omega)
    rw [chain_nil]
    simp only [List.mem_singleton, List.suffix_nil]
    exact ⟨fun e => ⟨by rw [e]; exact hp, e⟩, fun e => e.2⟩
  | n + 1, p, hn, hp => by
    by_cases h0 : p = []
    · subst h0; exact chain_mem h s 0 [] (by simp) hp
    · have hl := fb_len (T := T) h0
      rw [chain_cons h0, List.mem_cons, chain_mem h s n (fb T p) (by omega) (fb_mem h p)]
      constructor
      · rintro (rfl | ⟨h1, h2⟩)
        · exact ⟨hp, List.suffix_refl _⟩
        · exact ⟨h1, h2.trans ((ls_suffix T _).trans (List.tail_suffix p))⟩
      · rintro ⟨h1, h2⟩
        cases p with
        | nil => exact absurd rfl h0
        | cons x p =>
          rcases List.suffix_cons_iff.1 h2 with rfl | h2
          · exact .inl rfl
          · exact .inr ⟨h1, ls_max h2 h1⟩
theorem chain_short {T : List (List Int)} : ∀ (n : Nat) (p : List Int), p.length ≤ n → (chain T p).Pairwise (fun a b => b.length < a.length) ∧ ∀ s ∈ chain T p, s.length ≤ p.length
  | 0, p, hn => by
    obtain rfl : p = [] := List.eq_nil_of_length_eq_zero (by omega)
    rw [chain_nil]; simp
  | n + 1, p, hn => by
    by_cases h0 : p = []
    · subst h0; rw [chain_nil]; simp
    · have hl := fb_len (T := T) h0
      obtain ⟨h1, h2⟩ := chain_short n (fb T p) (by omega)
      rw [chain_cons h0]
      refine ⟨List.pairwise_cons.2 ⟨fun s hs => by have := h2 s hs; omega, h1⟩, fun s hs => ?_⟩
      rcases List.mem_cons.1 hs with rfl | hs
      · exact Nat.le_refl _
      · have := h2 s hs; omega
/-- What ends at a text's end: all states that are endings. -/
theorem ends_mem {T : List (List Int)} (h : Trie T) (u s : List Int) : s ∈ chain T (ls T u) ↔ s ∈ T ∧ s <:+ u := by
  rw [chain_mem h s _ _ (Nat.le_refl _) (ls_mem h.mem u)]
  exact ⟨fun ⟨h1, h2⟩ => ⟨h1, h2.trans (ls_suffix T u)⟩, fun ⟨h1, h2⟩ => ⟨h1, ls_max h2 h1⟩⟩
end
section
section
/-- A state's beginning. -/
def pth (T : List (List Int)) (i : Nat) : List Int := T[i]?.getD []
theorem pth_at {T : List (List Int)} {i : Nat} {p : List Int} (h : T[i]? = some p) : pth T i = p := by unfold pth; rw [h]; rfl
theorem at_pth {T : List (List Int)} {i : Nat} (h : i < T.length) : T[i]? = some (pth T i) := by unfold pth; rw [List.getElem?_eq_getElem h]; rfl
theorem at_lt {α : Type} {T : List α} {i : Nat} {p : α} (h : T[i]? = some p) : i < T.length := (List.getElem?_eq_some_iff.1 h).1
/-- What holds while states are gone through: E have been met, k of them are through (the last of these but for the runes that are left). -/
structure Bfs (T : List (List Int)) (bk : Nat → Nat) (E : List Nat) (k : Nat) (left : Int → Bool) : Prop where
  hd : E[0]? = some 0
  nodup : E.Nodup
  lt : ∀ j ∈ E, j < T.length
  sorted : E.Pairwise fun a b => (pth T a).length ≤ (pth T b).length
  par : ∀ j ∈ E, j ≠ 0 → ∃ a i r, a < k ∧ E[a]? = some i ∧ pth T j = pth T i ++ [r]
  closed : ∀ a i, a < k → E[a]? = some i → ∀ j r, T[j]? = some (pth T i ++ [r]) → (a + 1 = k ∧ left r = true) ∨ j ∈ E
  fresh : ∀ i, E[k - 1]? = some i → 0 < k → ∀ j r, T[j]? = some (pth T i ++ [r]) → left r = true → j ∉ E
  back : ∀ j ∈ E, T[bk j]? = some (fb T (pth T j))
  zero : ∀ j, j ∉ E → bk j = 0
theorem bfs_start {T : List (List Int)} (h : Trie T) : Bfs T (fun _ => 0) [0] 0 (fun _ => false) := by
  refine ⟨rfl, by simp, fun j hj => ?_, by simp, fun j hj h0 => absurd (List.mem_singleton.1 hj) h0, fun a i ha => by omega, fun i _ h0 => by omega, fun j hj => ?_, fun _ _ => rfl⟩
  · obtain rfl := List.mem_singleton.1 hj; exact h.pos
  · obtain rfl := List.mem_singleton.1 hj
    rw [pth_at h.root]; exact h.root
theorem bfs_pop {T : List (List Int)} {bk : Nat → Nat} {E : List Nat} {k i : Nat} (h : Trie T) (H : Bfs T bk E k (fun _ => false)) (hi : E[k]? = some i) : Bfs T bk E (k + 1) (fun r => decide (pth T i ++ [r] ∈ T)) := by
  have hil := H.lt i (List.mem_of_getElem? hi)
  refine ⟨H.hd, H.nodup, H.lt, H.sorted, fun j hj h0 => ?_, fun a i' ha hi' j r hj => ?_, fun i' hi' _ j r hj hl hE => ?_, H.back, H.zero⟩
  · obtain ⟨a, i', r, h1, h2⟩ := H.par j hj h0
    exact ⟨a, i', r, by omega, h2⟩
  · rcases Nat.lt_or_ge a k with hlt | hge
    · rcases H.closed a i' hlt hi' j r hj with ⟨_, h1⟩ | h1
      · cases h1
      · exact .inr h1
    · obtain rfl : a = k := by omega
      rw [hi] at hi'; injection hi' with hi'; subst hi'
      exact .inl ⟨rfl, by simpa using List.mem_of_getElem? hj⟩
  · rw [Nat.add_sub_cancel, hi] at hi'
    injection hi' with hi'; subst hi'
    have h0 : j ≠ 0 := fun e => by
      subst e; rw [h.root] at hj; injection hj with hj
      have := congrArg List.length hj; simp at this
    obtain ⟨a, i'', r', h1, h2, h3⟩ := H.par j hE h0
    rw [pth_at hj] at h3
    obtain ⟨e1, _⟩ := List.append_inj' h3 rfl
    have hil' := H.lt i'' (List.mem_of_getElem? h2)
    have e2 : i = i'' := nodup_inj h.nodup (at_pth hil) (by rw [e1]; exact at_pth hil')
    subst e2
    have := nodup_inj H.nodup hi h2
    omega
theorem bfs_kid {T : List (List Int)} {bk : Nat → Nat} {E : List Nat} {k i j : Nat} {r : Int} {left : Int → Bool} (h : Trie T) (H : Bfs T bk E (k + 1) left) (hi : E[k]? = some i) (hj : T[j]? = some (pth T i ++ [r])) (hl : left r = true)
    (v : Nat) (hv : T[v]? = some (fb T (pth T i ++ [r]))) : Bfs T (fun x => if x = j then v else bk x) (E ++ [j]) (k + 1) (fun x => left x && !decide (x = r)) := by
  have hk : k < E.length := at_lt hi
  have hnot := H.fresh i (by simpa using hi) (by omega) j r hj hl
  have hget : ∀ a, a < k + 1 → (E ++ [j])[a]? = E[a]? := fun a ha => List.getElem?_append_left (by omega)
  have hdeep : ∀ x ∈ E, (pth T x).length ≤ (pth T i).length + 1 := fun x hx => by
    by_cases h0 : x = 0
    · subst h0; rw [pth_at h.root]; simp
    · obtain ⟨a, i', r', h1, h2, h3⟩ := H.par x hx h0
      rw [h3, List.length_append, List.length_singleton]
      rcases Nat.lt_or_ge a k with hlt | hge
      · obtain ⟨q1, e1⟩ := List.getElem?_eq_some_iff.1 h2
        obtain ⟨q2, e2⟩ := List.getElem?_eq_some_iff.1 hi
        have := List.pairwise_iff_getElem.1 H.sorted a k q1 q2 hlt
        rw [e1, e2] at this; omega
      · obtain rfl : a = k := by omega
        rw [hi] at h2; injection h2 with h2; subst h2; exact Nat.le_refl _
  refine ⟨?_, ?_, fun x hx => ?_, ?_, fun x hx h0 => ?_, fun a i' ha hi' x s hx => ?_, fun i' hi' _ x s hx hs hE => ?_, fun x hx => ?_, fun x hx => ?_⟩
  · rw [List.getElem?_append_left (by omega)]; exact H.hd
  · refine List.nodup_append.2 ⟨H.nodup, by simp, fun a ha b hb e => ?_⟩
    subst e
    obtain rfl := List.mem_singleton.1 hb
    exact hnot ha
  · rcases List.mem_append.1 hx with hx | hx
    · exact H.lt x hx
    · obtain rfl := List.mem_singleton.1 hx; exact at_lt hj
  · refine List.pairwise_append.2 ⟨H.sorted, List.pairwise_singleton _ _, fun a ha b hb => ?_⟩
    obtain rfl := List.mem_singleton.1 hb
    rw [pth_at hj, List.length_append, List.length_singleton]; exact hdeep a ha
  · rcases List.mem_append.1 hx with hx | hx
    · obtain ⟨a, i', r', h1, h2, h3⟩ := H.par x hx h0
      exact ⟨a, i', r', h1, by rw [hget a h1]; exact h2, h3⟩
    · obtain rfl := List.mem_singleton.1 hx
      exact ⟨k, i, r, by omega, by rw [hget k (by omega)]; exact hi, pth_at hj⟩
  · rw [hget a ha] at hi'
    rcases H.closed a i' ha hi' x s hx with ⟨h1, h2⟩ | h1
    · by_cases hs : s = r
      · subst hs
        obtain rfl : a = k := by omega
        rw [hi] at hi'; injection hi' with hi'; subst hi'
        exact .inr (List.mem_append.2 (.inr (by rw [nodup_inj h.nodup hx hj]; simp)))
      · exact .inl ⟨h1, by simp [h2, hs]⟩
    · exact .inr (List.mem_append.2 (.inl h1))
  · rw [Nat.add_sub_cancel, hget k (by omega), hi] at hi'
    injection hi' with hi'; subst hi'
    simp only [Bool.and_eq_true, Bool.not_eq_true', decide_eq_false_iff_not] at hs
    rcases List.mem_append.1 hE with hE | hE
    · exact H.fresh i (by simpa using hi) (by omega) x s hx hs.1 hE
    · obtain rfl := List.mem_singleton.1 hE
      rw [hj] at hx
      injection hx with hx
      have := List.append_inj' hx rfl
      injection this.2 with h2
      exact hs.2 h2.symm
  · show T[if x = j then v else bk x]? = _
    rcases List.mem_append.1 hx with hx | hx
    · rw [if_neg (fun e => hnot (by rw [← e]; exact hx))]; exact H.back x hx
    · obtain rfl := List.mem_singleton.1 hx
      rw [if_pos rfl, pth_at hj]; exact hv
  · simp only [List.mem_append, List.mem_singleton, not_or] at hx
    show (if x = j then v else bk x) = 0
    rw [if_neg hx.2]; exact H.zero x hx.1
theorem Bfs.through {T : List (List Int)} {bk : Nat → Nat} {E : List Nat} {k : Nat} {left : Int → Bool} (H : Bfs T bk E k left) (hl : ∀ r, left r = false) : Bfs T bk E k (fun _ => false) :=
  (funext hl : left = fun _ => false) ▸ H
/-- All that are no longer have been met. -/
theorem Bfs.all {T : List (List Int)} {bk : Nat → Nat} {E : List Nat} {k i : Nat} {left : Int → Bool} (h : Trie T) (H : Bfs T bk E (k + 1) left) (hi : E[k]? = some i) : ∀ (n j : Nat), j < T.length → (pth T j).length = n → n ≤ (pth T i).length → j ∈ E
  | 0, j, hj, hn, _ => by
    have e : pth T j = [] := List.eq_nil_of_length_eq_zero hn
    have := at_pth hj
    rw [e, h.zero] at this
    subst this
    exact List.mem_of_getElem? H.hd
  | n + 1, j, hj, hn, hle => by
    rcases List.eq_nil_or_concat (pth T j) with e | ⟨p, r, e⟩
    · rw [e] at hn; simp at hn
    · rw [List.concat_eq_append] at e
      have hjp := at_pth hj
      rw [e] at hjp hn
      simp only [List.length_append, List.length_singleton] at hn
      obtain ⟨q, hq⟩ := List.mem_iff_getElem?.1 (h.pre p r (List.mem_of_getElem? hjp))
      have hqE := Bfs.all h H hi n q (at_lt hq) (by rw [pth_at hq]; omega) (by omega)
      obtain ⟨a, ha⟩ := List.mem_iff_getElem?.1 hqE
      have hak : a < k := by
        rcases Nat.lt_or_ge a k with hlt | hge
        · exact hlt
        · exfalso
          obtain ⟨q1, e1⟩ := List.getElem?_eq_some_iff.1 ha
          obtain ⟨q2, e2⟩ := List.getElem?_eq_some_iff.1 hi
          rcases Nat.eq_or_lt_of_le hge with he | hlt
          · subst he; rw [hi] at ha; injection ha with ha; subst ha; rw [pth_at hq] at hle; omega
          · have := List.pairwise_iff_getElem.1 H.sorted k a q2 q1 hlt
            rw [e1, e2, pth_at hq] at this; omega
      rcases H.closed a q (by omega) ha j r (by rw [pth_at hq]; exact hjp) with ⟨h1, _⟩ | h1
      · omega
      · exact h1
theorem Bfs.end {T : List (List Int)} {bk : Nat → Nat} {E : List Nat} (h : Trie T) (H : Bfs T bk E E.length (fun _ => false)) : ∀ (n j : Nat), j < T.length → (pth T j).length = n → j ∈ E
  | 0, j, hj, hn => by
    have e : pth T j = [] := List.eq_nil_of_length_eq_zero hn
    have := at_pth hj
    rw [e, h.zero] at this
    subst this
    exact List.mem_of_getElem? H.hd
  | n + 1, j, hj, hn => by
    rcases List.eq_nil_or_concat (pth T j) with e | ⟨p, r, e⟩
    · rw [e] at hn; simp at hn
    · rw [List.concat_eq_append] at e
      have hjp := at_pth hj
      rw [e] at hjp hn
      simp only [List.length_append, List.length_singleton] at hn
      obtain ⟨q, hq⟩ := List.mem_iff_getElem?.1 (h.pre p r (List.mem_of_getElem? hjp))
      have hqE := Bfs.end h H n q (at_lt hq) (by rw [pth_at hq]; omega)
      obtain ⟨a, ha⟩ := List.mem_iff_getElem?.1 hqE
      rcases H.closed a q (at_lt ha) ha j r (by rw [pth_at hq]; exact hjp) with ⟨_, h1⟩ | h1
      · cases h1
      · exact h1
/-- All states' links. -/
def Backs (T : List (List Int)) (bk : Nat → Nat) : Prop := ∀ j, j < T.length → T[bk j]? = some (fb T (pth T j))
theorem Bfs.backs {T : List (List Int)} {bk : Nat → Nat} {E : List Nat} (h : Trie T) (H : Bfs T bk E E.length (fun _ => false)) : Backs T bk := fun j hj => H.back j (H.end h _ j hj rfl)
theorem nodup_le : ∀ {n : Nat} {E : List Nat}, E.Nodup → (∀ j ∈ E, j < n) → E.length ≤ n
  | 0, [], _, _ => Nat.le_refl _
  | 0, x :: E, _, h => absurd (h x (by simp)) (by omega)
  | n + 1, E, hn, h => by
    have h1 : (E.filter fun x => decide (x ≠ n)).length ≤ n := nodup_le (hn.sublist List.filter_sublist) fun j hj => by
      have := h j ((List.mem_filter.1 hj).1)
      have h2 := (List.mem_filter.1 hj).2
      simp at h2; omega
    have h3 : ∀ E : List Nat, E.Nodup → E.length ≤ (E.filter fun x => decide (x ≠ n)).length + 1 := fun E => by
      induction E with
      | nil => intro _; simp
      | cons x E ih =>
        intro hn
        obtain ⟨q1, q2⟩ := List.nodup_cons.1 hn
        by_cases hx : x = n
        · subst hx
          have : E.filter (fun y => decide (y ≠ x)) = E := List.filter_eq_self.2 fun y hy => by simp; exact fun e => q1 (e ▸ hy)
          rw [List.filter_cons_of_neg (by simp), this]; simp
        · rw [List.filter_cons_of_pos (by simpa using hx)]
          have := ih q2
          simp only [List.length_cons]; omega
    have := h3 E hn
    omega
theorem Bfs.len {T : List (List Int)} {bk : Nat → Nat} {E : List Nat} {k : Nat} {left : Int → Bool} (H : Bfs T bk E k left) : E.length ≤ T.length := nodup_le H.nodup H.lt
end
section
section
/-- Which rules' From a row is. -/
def rulesAt (fs : List (List Int)) (p : List Int) : List Nat := (List.range fs.length).filter fun k => decide (fs[k]? = some p)
theorem rulesAt_mem {fs : List (List Int)} {p : List Int} {k : Nat} : k ∈ rulesAt fs p ↔ fs[k]? = some p := by
  unfold rulesAt
  rw [List.mem_filter, List.mem_range, decide_eq_true_eq]
  exact ⟨fun h => h.2, fun h => ⟨at_lt h, h⟩⟩
theorem rulesAt_snoc (fs : List (List Int)) (l p : List Int) : rulesAt (fs ++ [l]) p = rulesAt fs p ++ if l = p then [fs.length] else [] := by
  unfold rulesAt
  rw [List.length_append, List.length_singleton, List.range_succ, List.filter_append]
  congr 1
  · refine List.filter_congr fun k hk => ?_
    rw [List.getElem?_append_left (List.mem_range.1 hk)]
  · simp only [List.filter_cons, List.getElem?_concat_length, Option.some.injEq, decide_eq_true_eq, List.filter_nil]
theorem rulesAt_none {fs : List (List Int)} {p : List Int} (h : p ∉ fs) : rulesAt fs p = [] := by
  rw [List.eq_nil_iff_forall_not_mem]
  intro k hk
  exact h (List.mem_of_getElem? (rulesAt_mem.1 hk))
/-- Does a row stand in another one, at a place? -/
def Stands (f l : List Int) (a : Nat) : Prop := a + f.length ≤ l.length ∧ (l.drop a).take f.length = f
instance (f l : List Int) (a : Nat) : Decidable (Stands f l a) := by unfold Stands; infer_instance
theorem stands_suffix {f l : List Int} {i : Nat} (hi : i ≤ l.length) : f <:+ l.take i ↔ f.length ≤ i ∧ Stands f l (i - f.length) := by
  have hl : (l.take i).length = i := by simp; omega
  constructor
  · rintro ⟨t, ht⟩
    have h1 := congrArg List.length ht
    rw [List.length_append, hl] at h1
    refine ⟨by omega, by omega, ?_⟩
    have h2 : l = t ++ f ++ l.drop i := by rw [ht, List.take_append_drop]
    conv => lhs; rw [h2]
    rw [show i - f.length = t.length by omega, List.append_assoc, List.drop_left, List.take_left]
  · rintro ⟨h1, h2, h3⟩
    refine ⟨l.take (i - f.length), ?_⟩
    conv => lhs; rhs; rw [← h3]
    have := List.take_add (l := l) (i := i - f.length) (j := f.length)
    rw [← this]; congr 1; omega
/-- The hits that end at a place, from the longest state on. -/
def hitsAt (fs T : List (List Int)) (u : List Int) (i : Nat) : List (Nat × Nat) := (chain T (ls T u)).flatMap fun p => (rulesAt fs p).map fun k => (i - p.length, k)
def hitsP (fs T : List (List Int)) (l : List Int) : List (Nat × Nat) := (List.range (l.length + 1)).flatMap fun i => hitsAt fs T (l.take i) i
/-- The hits by definition. -/
def hitsL (fs : List (List Int)) (l : List Int) : List (Nat × Nat) := (List.range (l.length + 1)).flatMap fun a => ((List.range fs.length).filter fun k => decide (Stands (fs[k]?.getD []) l a)).map fun k => (a, k)
theorem hitsL_mem {fs : List (List Int)} {l : List Int} {a k : Nat} : (a, k) ∈ hitsL fs l ↔ ∃ f, fs[k]? = some f ∧ Stands f l a := by
  unfold hitsL
  simp only [List.mem_flatMap, List.mem_map, List.mem_filter, List.mem_range, decide_eq_true_eq, Prod.mk.injEq]
  constructor
  · rintro ⟨a', h1, k', ⟨h2, h3⟩, rfl, rfl⟩
    rw [List.getElem?_eq_getElem h2] at h3
    exact ⟨_, List.getElem?_eq_getElem h2, h3⟩
  · rintro ⟨f, h1, h2⟩
    exact ⟨a, by have := h2.1; omega, k, ⟨at_lt h1, by rw [h1]; exact h2⟩, rfl, rfl⟩
theorem hitsP_mem {fs : List (List Int)} {l : List Int} {a k : Nat} : (a, k) ∈ hitsP fs (statesT fs) l ↔ ∃ f, fs[k]? = some f ∧ Stands f l a := by
  have hT := states_trie fs
  unfold hitsP hitsAt
  simp only [List.mem_flatMap, List.mem_map, List.mem_range, Prod.mk.injEq, ends_mem hT, rulesAt_mem]
  constructor
  · rintro ⟨i, h1, p, ⟨h2, h3⟩, k', h4, rfl, rfl⟩
    exact ⟨p, h4, ((stands_suffix (by omega)).1 h3).2⟩
  · rintro ⟨f, h1, h2⟩
    have hle := h2.1
    refine ⟨a + f.length, by omega, f, ⟨states_self (List.mem_of_getElem? h1), (stands_suffix hle).2 ⟨by omega, ?_⟩⟩, k, h1, by omega, rfl⟩
    rw [Nat.add_sub_cancel]; exact h2
theorem hitsP_nodup (fs : List (List Int)) (l : List Int) : (hitsP fs (statesT fs) l).Nodup := by
  have hT := states_trie fs
  have hform : ∀ i ≤ l.length, ∀ x ∈ hitsAt fs (statesT fs) (l.take i) i, ∃ p, fs[x.2]? = some p ∧ x.1 + p.length = i := fun i hi x hx => by
    unfold hitsAt at hx
    simp only [List.mem_flatMap, List.mem_map, ends_mem hT, rulesAt_mem] at hx
    obtain ⟨p, ⟨_, h2⟩, k, h3, rfl⟩ := hx
    exact ⟨p, h3, by have := ((stands_suffix hi).1 h2).1; show i - p.length + p.length = i; omega⟩
  unfold hitsP List.Nodup
  rw [List.pairwise_flatMap]
  refine ⟨fun i hi => ?_, ?_⟩
  · unfold hitsAt
    rw [List.pairwise_flatMap]
    refine ⟨fun p hp => ?_, ?_⟩
    · rw [List.pairwise_map]
      refine List.Pairwise.imp ?_ ((List.nodup_range (n := fs.length)).sublist List.filter_sublist)
      intro a b hab e
      injection e with _ e; exact hab e
    · refine (chain_short (T := statesT fs) _ _ (Nat.le_refl _)).1.imp fun {p q} hpq x hx y hy e => ?_
      subst e
      obtain ⟨k, hk, rfl⟩ := List.mem_map.1 hx
      obtain ⟨m, hm, e⟩ := List.mem_map.1 hy
      injection e with _ e
      subst e
      have h1 := rulesAt_mem.1 hk
      rw [rulesAt_mem.1 hm] at h1
      injection h1 with h1
      subst h1; omega
  · rw [List.pairwise_iff_getElem]
    intro i j hi hj hij x hx y hy e
    subst e
    rw [List.getElem_range] at hx hy
    rw [List.length_range] at hi hj
    obtain ⟨p, h1, h2⟩ := hform i (by omega) x hx
    obtain ⟨q, h3, h4⟩ := hform j (by omega) x hy
    rw [h1] at h3; injection h3 with h3; subst h3
    omega
/-- By place, then by rule. -/
def lt2 (x y : Nat × Nat) : Prop := x.1 < y.1 ∨ (x.1 = y.1 ∧ x.2 < y.2)
theorem hitsL_rise (fs : List (List Int)) (l : List Int) : (hitsL fs l).Pairwise lt2 := by
  unfold hitsL
  rw [List.pairwise_flatMap]
  refine ⟨fun a _ => ?_, ?_⟩
  · rw [List.pairwise_map]
    exact ((List.pairwise_lt_range (n := fs.length)).sublist List.filter_sublist).imp fun h => .inr ⟨rfl, h⟩
  · refine (List.pairwise_lt_range (n := l.length + 1)).imp fun {a b} hab x hx y hy => ?_
    obtain ⟨k, _, rfl⟩ := List.mem_map.1 hx
    obtain ⟨m, _, rfl⟩ := List.mem_map.1 hy
    exact .inl hab
theorem lt2_eq : ∀ {xs ys : List (Nat × Nat)}, xs.Pairwise lt2 → ys.Pairwise lt2 → (∀ b, b ∈ xs ↔ b ∈ ys) → xs = ys
  | [], [], _, _, _ => rfl
  | [], y :: ys, _, _, h => absurd ((h y).2 (by simp)) (by simp)
  | x :: xs, [], _, _, h => absurd ((h x).1 (by simp)) (by simp)
  | x :: xs, y :: ys, hx, hy, h => by
    obtain ⟨x1, x2⟩ := List.pairwise_cons.1 hx
    obtain ⟨y1, y2⟩ := List.pairwise_cons.1 hy
    have asym : ∀ {a b : Nat × Nat}, lt2 a b → lt2 b a → False := fun {a b} h k => by unfold lt2 at h k; omega
    have e : x = y := by
      rcases List.mem_cons.1 ((h x).1 (by simp)) with e | hm
      · exact e
      · rcases List.mem_cons.1 ((h y).2 (by simp)) with e | hm'
        · exact e.symm
        · exact (asym (y1 x hm) (x1 y hm')).elim
    subst e
    congr 1
    refine lt2_eq x2 y2 fun b => ⟨fun hb => ?_, fun hb => ?_⟩
    · rcases List.mem_cons.1 ((h b).1 (by simp [hb])) with e | hm
      · subst e; exact (asym (x1 b hb) (x1 b hb)).elim
      · exact hm
    · rcases List.mem_cons.1 ((h b).2 (by simp [hb])) with e | hm
      · subst e; exact (asym (y1 b hb) (y1 b hb)).elim
      · exact hm
/-- Sorted, they are those by definition. -/
theorem hits_eq {fs : List (List Int)} {l : List Int} {ys : List (Nat × Nat)} (hp : ys.Perm (hitsP fs (statesT fs) l)) (hs : ys.Pairwise fun x y => ¬ lt2 y x) : ys = hitsL fs l := by
  have hn : ys.Nodup := hp.nodup_iff.2 (hitsP_nodup fs l)
  refine lt2_eq ((List.Pairwise.and hs hn).imp fun {x y} h => ?_) (hitsL_rise fs l) fun b => ?_
  · obtain ⟨h1, h2⟩ := h
    unfold lt2 at *
    obtain ⟨a, b⟩ := x
    obtain ⟨c, d⟩ := y
    simp only at *
    have : ¬ (a = c ∧ b = d) := fun e => h2 (by rw [e.1, e.2])
    omega
  · obtain ⟨a, k⟩ := b
    rw [hp.mem_iff, hitsP_mem, hitsL_mem]
end
section
theorem stands_prefix {f l : List Int} {a : Nat} (ha : a ≤ l.length) : Stands f l a ↔ f <+: l.drop a := by
  unfold Stands
  constructor
  · rintro ⟨h1, h2⟩
    refine ⟨(l.drop a).drop f.length, ?_⟩
    conv => lhs; lhs; rw [← h2]
    exact List.take_append_drop _ _
  · rintro ⟨t, ht⟩
    have h1 := congrArg List.length ht
    rw [List.length_append, List.length_drop] at h1
    exact ⟨by omega, by rw [← ht, List.take_left]⟩
theorem stands_shift {f x y z : List Int} {a : Nat} (h : Stands f y a) : Stands f (x ++ y ++ z) (a + x.length) := by
  have hl := h.1
  have ha : a ≤ y.length := by omega
  obtain ⟨t, ht⟩ := (stands_prefix ha).1 h
  refine (stands_prefix (by simp; omega)).2 ⟨t ++ z, ?_⟩
  rw [List.append_assoc, Nat.add_comm, List.drop_append, List.drop_of_length_le (Nat.le_add_right _ _), List.nil_append, Nat.add_sub_cancel_left, List.drop_append_of_le_length ha, ← ht, List.append_assoc]
theorem lt2_nodup {l : List (Nat × Nat)} (h : l.Pairwise lt2) : l.Nodup := h.imp fun {a b} h e => by subst e; unfold lt2 at h; omega
theorem hitsL_nodup (fs : List (List Int)) (l : List Int) : (hitsL fs l).Nodup := lt2_nodup (hitsL_rise fs l)
theorem hits_shift {fs : List (List Int)} {x y z : List Int} {a k : Nat} (h : (a, k) ∈ hitsL fs y) : (a + x.length, k) ∈ hitsL fs (x ++ y ++ z) := by
  rw [hitsL_mem] at *
  obtain ⟨f, h1, h2⟩ := h
  exact ⟨f, h1, stands_shift h2⟩
theorem subset_len {α : Type} [DecidableEq α] : ∀ {l m : List α}, l.Nodup → (∀ x ∈ l, x ∈ m) → l.length ≤ m.length
  | [], _, _, _ => Nat.zero_le _
  | x :: l, m, hn, h => by
    obtain ⟨h1, h2⟩ := List.nodup_cons.1 hn
    have hx := h x (by simp)
    have h3 := subset_len (m := m.erase x) h2 fun y hy => (List.mem_erase_of_ne (fun e => h1 (by rw [← e]; exact hy))).2 (h y (by simp [hy]))
    rw [List.length_erase_of_mem hx] at h3
    have := List.length_pos_of_mem hx
    simp only [List.length_cons]; omega
theorem hits_more (fs : List (List Int)) (x y z : List Int) : (hitsL fs y).length ≤ (hitsL fs (x ++ y ++ z)).length := by
  have h := subset_len (l := (hitsL fs y).map fun h => (h.1 + x.length, h.2)) (m := hitsL fs (x ++ y ++ z)) (by
    unfold List.Nodup
    rw [List.pairwise_map]
    refine (hitsL_nodup fs y).imp fun {a b} hab e => hab ?_
    injection e with e1 e2
    obtain ⟨a1, a2⟩ := a
    obtain ⟨b1, b2⟩ := b
    simp only at e1 e2 ⊢
    subst e2
    congr 1; omega) fun p hp => by
    obtain ⟨⟨a, k⟩, hq, rfl⟩ := List.mem_map.1 hp
    exact hits_shift hq
  simpa using h
/-- The rules that hit at a place. -/
def placeL (fs : List (List Int)) (l : List Int) (a : Nat) : List Nat := (List.range fs.length).filter fun k => decide (Stands (fs[k]?.getD []) l a)
theorem hitsL_eq (fs : List (List Int)) (l : List Int) : hitsL fs l = (List.range (l.length + 1)).flatMap fun a => (placeL fs l a).map fun k => (a, k) := rfl
theorem placeL_eq (fs : List (List Int)) (l : List Int) (a : Nat) (ha : a ≤ l.length) : ((hitsL fs l).filter fun h => decide (h.1 = a)).map (·.2) = placeL fs l a := by
  have key : ∀ n, a < n → (((List.range n).flatMap fun a => (placeL fs l a).map fun k => (a, k)).filter fun h => decide (h.1 = a)) = (placeL fs l a).map fun k => (a, k) := by
    intro n
    have off : ∀ b, b ≠ a → (((placeL fs l b).map fun k => (b, k)).filter fun h => decide (h.1 = a)) = [] := fun b hb => by
      rw [List.filter_eq_nil_iff]
      intro h hh
      obtain ⟨k, _, rfl⟩ := List.mem_map.1 hh
      simpa using hb
    have on : (((placeL fs l a).map fun k => (a, k)).filter fun h => decide (h.1 = a)) = (placeL fs l a).map fun k => (a, k) := by
      rw [List.filter_eq_self]
      intro h hh
      obtain ⟨k, _, rfl⟩ := List.mem_map.1 hh
      simp
    have none : ∀ n, n ≤ a → (((List.range n).flatMap fun a => (placeL fs l a).map fun k => (a, k)).filter fun h => decide (h.1 = a)) = [] := fun n hn => by
      rw [List.filter_eq_nil_iff]
      intro h hh
      obtain ⟨b, hb, hk⟩ := List.mem_flatMap.1 hh
      obtain ⟨k, _, rfl⟩ := List.mem_map.1 hk
      have := List.mem_range.1 hb
      simp; omega
    induction n with
    | zero => intro h; omega
    | succ n ih =>
      intro h
      rw [List.range_succ, List.flatMap_append, List.filter_append]
      simp only [List.flatMap_cons, List.flatMap_nil, List.append_nil]
      by_cases e : n = a
      · subst e; rw [none n (Nat.le_refl _), on]; rfl
      · rw [off n e, ih (by omega), List.append_nil]
  rw [hitsL_eq, key _ (by omega), List.map_map]
  simp [Function.comp_def]
theorem hits_alone (fs : List (List Int)) (l : List Int) (i : Nat) (f : List Int) (hi : fs[i]? = some f) : ((hitsL fs l).filter fun h => decide (h.2 = i)) = (hitsL [f] l).map fun h => (h.1, i) := by
  refine lt2_eq ((hitsL_rise fs l).sublist List.filter_sublist) ?_ fun b => ?_
  · rw [List.pairwise_map]
    refine List.Pairwise.imp_of_mem (fun {a b} ha hb h => ?_) (hitsL_rise [f] l)
    obtain ⟨a1, a2⟩ := a
    obtain ⟨b1, b2⟩ := b
    obtain ⟨g, h1, _⟩ := hitsL_mem.1 ha
    obtain ⟨g', h2, _⟩ := hitsL_mem.1 hb
    have e1 := at_lt h1
    have e2 := at_lt h2
    simp only [List.length_singleton] at e1 e2
    unfold lt2 at *
    simp only at *
    omega
  · obtain ⟨a, k⟩ := b
    simp only [List.mem_filter, decide_eq_true_eq, List.mem_map, Prod.mk.injEq, Prod.exists]
    constructor
    · rintro ⟨h, rfl⟩
      obtain ⟨g, h1, h2⟩ := hitsL_mem.1 h
      rw [hi] at h1; injection h1 with h1; subst h1
      exact ⟨a, 0, hitsL_mem.2 ⟨f, rfl, h2⟩, rfl, rfl⟩
    · rintro ⟨a', k', h, rfl, rfl⟩
      obtain ⟨g, h1, h2⟩ := hitsL_mem.1 h
      have e1 := at_lt h1
      obtain rfl : k' = 0 := by simpa using e1
      injection h1 with h1
      subst h1
      exact ⟨hitsL_mem.2 ⟨f, hi, h2⟩, rfl⟩
/-- At how many places a row stands. -/
def countL (f l : List Int) : Nat := ((List.range (l.length + 1)).filter fun a => decide (Stands f l a)).length
theorem nodup_len {α : Type} [DecidableEq α] {l m : List α} (h : l.Nodup) (k : m.Nodup) (e : ∀ x, x ∈ l ↔ x ∈ m) : l.length = m.length :=
  Nat.le_antisymm (subset_len h fun x hx => (e x).1 hx) (subset_len k fun x hx => (e x).2 hx)
theorem hits_count (fs : List (List Int)) (l : List Int) : (hitsL fs l).length = (fs.map fun f => countL f l).sum := by
  have h1 : (hitsL fs l).length = ((List.range fs.length).flatMap fun k => ((List.range (l.length + 1)).filter fun a => decide (Stands (fs[k]?.getD []) l a)).map fun a => (a, k)).length := by
    refine nodup_len (hitsL_nodup fs l) ?_ fun x => ?_
    · unfold List.Nodup
      rw [List.pairwise_flatMap]
      refine ⟨fun k _ => ?_, List.Pairwise.imp ?_ (List.pairwise_lt_range (n := fs.length))⟩
      · rw [List.pairwise_map]
        refine List.Pairwise.imp ?_ ((List.nodup_range (n := l.length + 1)).sublist List.filter_sublist)
        intro a b hab e
        injection e with e _; exact hab e
      · intro a b hab x hx y hy e
        obtain ⟨_, _, rfl⟩ := List.mem_map.1 hx
        obtain ⟨_, _, rfl⟩ := List.mem_map.1 hy
        injection e with _ e; omega
    · obtain ⟨a, k⟩ := x
      rw [hitsL_mem]
      simp only [List.mem_flatMap, List.mem_map, List.mem_filter, List.mem_range, decide_eq_true_eq, Prod.mk.injEq]
      constructor
      · rintro ⟨f, h1, h2⟩
        exact ⟨k, at_lt h1, a, ⟨by have := h2.1; omega, by rw [h1]; exact h2⟩, rfl, rfl⟩
      · rintro ⟨k', h1, a', ⟨h2, h3⟩, rfl, rfl⟩
        rw [List.getElem?_eq_getElem h1] at h3
        exact ⟨_, List.getElem?_eq_getElem h1, h3⟩
  rw [h1, List.length_flatMap]
  congr 1
  refine List.ext_getElem (by simp) fun i h2 h3 => ?_
  simp only [List.getElem_map, List.getElem_range, List.length_map]
  have hi : i < fs.length := by simpa using h2
  rw [List.getElem?_eq_getElem hi]; rfl
theorem count_nil (l : List Int) : countL [] l = l.length + 1 := by
  unfold countL
  rw [List.filter_eq_self.2 (fun a ha => by
    have := List.mem_range.1 ha
    simp [Stands]; omega), List.length_range]
theorem count_cons {f l : List Int} (h : f ≠ []) : countL f l = ((List.range l.length).filter fun a => decide (Stands f l a)).length := by
  unfold countL
  have hp := List.length_pos_iff.2 h
  rw [List.range_succ, List.filter_append, List.length_append]
  have : ¬ Stands f l l.length := fun h => by have := h.1; omega
  simp [this]
/-! ### how many states -/
theorem states_of (fs gs : List (List Int)) (h : ∀ q, q ∈ statesT fs → q ∈ statesT gs) : (statesT fs).length ≤ (statesT gs).length := subset_len (states_trie fs).nodup h
theorem states_mono {fs gs : List (List Int)} (h : ∀ f ∈ fs, f ∈ gs) : (statesT fs).length ≤ (statesT gs).length := states_of fs gs fun q hq => by
  rw [states_mem] at *
  rcases hq with hq | ⟨l, hl, k, hk⟩
  · exact .inl hq
  · exact .inr ⟨l, h l hl, k, hk⟩
theorem states_one {fs : List (List Int)} (f : List Int) : (statesT (fs ++ [f])).length ≤ (statesT fs).length + f.length := by
  rw [statesT_snoc]
  exact (putK_len _ f f.length).2
end
end
end
end Go.Proofs.YtmpoihejacklnaaDoor
