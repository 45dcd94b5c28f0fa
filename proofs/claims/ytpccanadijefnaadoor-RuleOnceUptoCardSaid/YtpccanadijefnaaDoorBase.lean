/- Base words of these proofs: how slices in memory read as lists, and how such readings outlive calls and stores. No condition. -/
import Derived.Below
import Derived.Maps.AppendAt
import Derived.Laws.OwnMore
import Derived.Laws.AppendOwnNone
import Derived.OwnWalk
import Derived.WalkKit
import Derived.KernelRfl
import Derived.RowKit3
import Derived.Deep.LoopGhost
import Derived.Deep.QuietTactic
import Derived.BigQuiet
import Derived.Outline
import Derived.IntWalk
import Derived.WalkLawsBesides
import Derived.WalkSpells
namespace Go.Proofs.YtpccanadijefnaaDoor
open Go.RowKit

/-- How one element lies in memory: k cells. -/
structure Enc (α : Type) where
  k : Nat
  e : α → List Value
  len : ∀ x, (e x).length = k
  one : ∀ x, ∀ v ∈ e x, v.oneCell' = true

/-- The cells from A on read as xs. -/
def SlA {α : Type} (E : Enc α) (w : World) (A : Option Addr) (xs : List α) : Prop :=
  ∀ j x, xs[j]? = some x → ∃ b o, A = some ⟨b, o, none⟩ ∧ b < w.heap.size ∧ ∀ i u, (E.e x)[i]? = some u → w.cell? ⟨b, o + j * E.k + i, none⟩ = some u
/-- A slice value reads as xs. -/
def SlV {α : Type} (E : Enc α) (w : World) (v : Value) (xs : List α) : Prop :=
  ∃ A c, v = .slice A xs.length c ∧ xs.length ≤ c ∧ c ≤ 9223372036854775807 ∧ SlA E w A xs

/-- Below over one's own heap. -/
theorem Bst {a W w2 : World} (h : Below a.heap.size a W) (k : Below W.heap.size W w2) : Below a.heap.size a w2 :=
  h.trans (k.mono h.size)
theorem Bal {a W : World} (h : Below a.heap.size a W) (o : Obj) : Below a.heap.size a (W.alloc o) := h.alloc h.size o
theorem Bsc {a W : World} (h : Below a.heap.size a W) {p : Addr} (hp : a.heap.size ≤ p.block) (u : Value) : Below a.heap.size a (W.setCell p u) := h.setCell hp u
theorem Bdn {a W : World} (h : Below a.heap.size a W) (n : Nat) : Below a.heap.size a (W.drewN n) := ⟨h.os, h.tape, h.output, h.size, h.block⟩
theorem Bgr {a W w2 : World} {row : Option Nat} (h : Below a.heap.size a W) (hg : W.grownBy w2 row) (hr : ∀ k, row = some k → a.heap.size ≤ k) : Below a.heap.size a w2 := h.grown hg h.size hr
theorem drew_size (w : World) : w.drew.heap.size = w.heap.size := rfl
theorem drewN_size (w : World) (n : Nat) : (w.drewN n).heap.size = w.heap.size := rfl
attribute [go_sem] drew_size drewN_size
theorem bcell {W w1 : World} (hb : Below W.heap.size W w1) : (∀ b o, b < W.heap.size → w1.cell? ⟨b, o, none⟩ = W.cell? ⟨b, o, none⟩) ∧ (∀ b o, b < W.heap.size → w1.frozen? ⟨b, o, none⟩ = W.frozen? ⟨b, o, none⟩) :=
  ⟨fun b o h => hb.cell (p := ⟨b, o, none⟩) h, fun b o h => hb.frozen (p := ⟨b, o, none⟩) h⟩

/-- A goal on what was there, found by what stands in the context. -/
theorem Bel {a w : World} (h : Below a.heap.size a w := by repeat (first | assumption | exact Below.refl _ _ | refine Bal ?_ _ | refine Bdn ?_ _ | refine Below.drew ?_ | refine Bst ?_ (by assumption) | refine Bsc ?_ (by first | (simp; done) | (simp; omega) | omega) _)) : Below a.heap.size a w := h

section
variable {α : Type} {E : Enc α} {w w' : World} {A : Option Addr} {v : Value} {xs : List α}
theorem SlA.below (h : SlA E w A xs) (hb : Below w.heap.size w w') : SlA E w' A xs := fun j x hx => by
  obtain ⟨b, o, hA, hlt, hc⟩ := h j x hx
  exact ⟨b, o, hA, Nat.lt_of_lt_of_le hlt hb.size, fun i u hu => (hb.cell (p := ⟨b, _, none⟩) hlt).trans (hc i u hu)⟩
theorem SlV.below (h : SlV E w v xs) (hb : Below w.heap.size w w') : SlV E w' v xs := by
  obtain ⟨A, c, h1, h2, h3, h4⟩ := h
  exact ⟨A, c, h1, h2, h3, h4.below hb⟩
theorem SlA.nil : SlA E w A [] := fun j x hx => by simp at hx
theorem SlV.nil : SlV E w (.slice none 0 0) [] := ⟨none, 0, rfl, by simp, by omega, SlA.nil⟩
theorem SlA.at (h : SlA E w A xs) (hb : Below w.heap.size w w') (j : Nat) (hj : j < xs.length) :
    ∃ b o, A = some ⟨b, o, none⟩ ∧ b < w.heap.size ∧ ∀ i u, (E.e xs[j])[i]? = some u → w'.cell? ⟨b, o + j * E.k + i, none⟩ = some u :=
  let ⟨b, o, hA, hlt, hc⟩ := h j xs[j] (List.getElem?_eq_getElem hj)
  ⟨b, o, hA, hlt, fun i u hu => (hb.cell (p := ⟨b, _, none⟩) hlt).trans (hc i u hu)⟩
theorem SlA.at1 {f1 : α → Value} (hE : ∀ x, E.e x = [f1 x]) (h : SlA E w A xs) (hb : Below w.heap.size w w') (j : Nat) (hj : j < xs.length) :
    ∃ b o, A = some ⟨b, o, none⟩ ∧ w'.cell? ⟨b, o + j, none⟩ = some (f1 xs[j]) := by
  obtain ⟨b, o, hA, _, hc⟩ := h.at hb j hj
  have hk : E.k = 1 := by rw [← E.len xs[j], hE]; rfl
  rw [hk, hE] at hc
  exact ⟨b, o, hA, by simpa using hc 0 _ rfl⟩
theorem SlA.at2 {f1 f2 : α → Value} (hE : ∀ x, E.e x = [f1 x, f2 x]) (h : SlA E w A xs) (hb : Below w.heap.size w w') (j : Nat) (hj : j < xs.length) :
    ∃ b o, A = some ⟨b, o, none⟩ ∧ w'.cell? ⟨b, o + j * 2, none⟩ = some (f1 xs[j]) ∧ w'.cell? ⟨b, o + j * 2 + 1, none⟩ = some (f2 xs[j]) := by
  obtain ⟨b, o, hA, _, hc⟩ := h.at hb j hj
  have hk : E.k = 2 := by rw [← E.len xs[j], hE]; rfl
  rw [hk, hE] at hc
  exact ⟨b, o, hA, hc 0 _ rfl, hc 1 _ rfl⟩
theorem SlA.at3 {f1 f2 f3 : α → Value} (hE : ∀ x, E.e x = [f1 x, f2 x, f3 x]) (h : SlA E w A xs) (hb : Below w.heap.size w w') (j : Nat) (hj : j < xs.length) :
    ∃ b o, A = some ⟨b, o, none⟩ ∧ w'.cell? ⟨b, o + j * 3, none⟩ = some (f1 xs[j]) ∧ w'.cell? ⟨b, o + j * 3 + 1, none⟩ = some (f2 xs[j]) ∧ w'.cell? ⟨b, o + j * 3 + 2, none⟩ = some (f3 xs[j]) := by
  obtain ⟨b, o, hA, _, hc⟩ := h.at hb j hj
  have hk : E.k = 3 := by rw [← E.len xs[j], hE]; rfl
  rw [hk, hE] at hc
  exact ⟨b, o, hA, hc 0 _ rfl, hc 1 _ rfl, hc 2 _ rfl⟩
end

theorem SlA.n3 {α : Type} {E : Enc α} {w w' : World} {A : Option Addr} {xs : List α} {f1 f2 f3 : α → Value} (hE : ∀ x, E.e x = [f1 x, f2 x, f3 x]) (h : SlA E w A xs) (hb : Below w.heap.size w w') (j : Nat) (hj : j < xs.length) :
    ∃ b o, A = some ⟨b, o, none⟩ ∧ b < w'.heap.size ∧ w'.cell? ⟨b, o + j * 3, none⟩ = some (f1 xs[j]) ∧ w'.cell? ⟨b, o + j * 3 + 1, none⟩ = some (f2 xs[j]) ∧ w'.cell? ⟨b, o + j * 3 + 2, none⟩ = some (f3 xs[j]) := by
  obtain ⟨b, o, hA, hlt, hc⟩ := h.at hb j hj
  have hk : E.k = 3 := by rw [← E.len xs[j], hE]; rfl
  rw [hk, hE] at hc
  exact ⟨b, o, hA, Nat.lt_of_lt_of_le hlt hb.size, hc 0 _ rfl, hc 1 _ rfl, hc 2 _ rfl⟩

/-- Texts, and a number: blocks and rules. -/
structure T3 where
  f : ByteArray
  t : ByteArray
  n : Int
def eT3 : Enc T3 := ⟨3, fun b => [.string b.f, .string b.t, .int .i64 b.n], fun _ => rfl, fun _ v hv => by simp at hv; rcases hv with rfl | rfl | rfl <;> rfl⟩
theorem eT3_e (x : T3) : eT3.e x = [.string x.f, .string x.t, .int .i64 x.n] := rfl
def eStr : Enc ByteArray := ⟨1, fun b => [.string b], fun _ => rfl, fun _ v hv => by simp at hv; subst hv; rfl⟩
def eInt (k : IntKind) : Enc Int := ⟨1, fun b => [.int k b], fun _ => rfl, fun _ v hv => by simp at hv; subst hv; rfl⟩

/-- Rows that the call owns. -/
def Own {α : Type} (E : Enc α) (base : Nat) (e : TypeId) (w : World) (v : Value) (xs : List α) : Prop := w.ownsRow base e E.k v xs.length (xs.flatMap E.e)
section
variable {α : Type} {E : Enc α} {base : Nat} {e : TypeId} {w w' : World} {v : Value} {xs : List α}
theorem flat_get (E : Enc α) : ∀ (xs : List α) (j : Nat) (x : α) (i : Nat) (u : Value), xs[j]? = some x → (E.e x)[i]? = some u → (xs.flatMap E.e)[j * E.k + i]? = some u
  | [], j, x, i, u, h, _ => by simp at h
  | y :: ys, 0, x, i, u, h, hu => by
    obtain rfl : y = x := by simpa using h
    have hi : i < (E.e y).length := (List.getElem?_eq_some_iff.1 hu).1
    simp only [List.flatMap_cons, Nat.zero_mul, Nat.zero_add]
    rw [List.getElem?_append_left hi]; exact hu
  | y :: ys, j + 1, x, i, u, h, hu => by
    have ih := flat_get E ys j x i u (by simpa using h) hu
    simp only [List.flatMap_cons]
    rw [List.getElem?_append_right (by rw [E.len, Nat.add_mul]; omega), E.len]
    have : (j + 1) * E.k + i - E.k = j * E.k + i := by rw [Nat.add_mul]; omega
    rw [this]; exact ih
theorem Own.nil (w : World) : Own E base e w (.slice none 0 0) [] := World.ownsRow_nil w base e E.k
theorem Own.slv (h : Own E base e w v xs) : SlV E w v xs := by
  have hh := h
  rcases h.2 with ⟨rfl, h0⟩ | ⟨g, cap, cur, rfl, hb, hg, h1, h2, _⟩
  · obtain rfl : xs = [] := List.eq_nil_of_length_eq_zero h0
    exact SlV.nil
  · refine ⟨_, cap, rfl, h1, by simpa [maxLen] using h2, fun j x hx => ⟨g, 0, rfl, (Array.getElem?_eq_some_iff.1 hg).1, fun i u hu => ?_⟩⟩
    have := hh.cells (g := g) rfl (j * E.k + i) u (flat_get E xs j x i u hx hu)
    have ha : (⟨g, 0, none⟩ : Addr).add (j * E.k + i) = ⟨g, 0 + j * E.k + i, none⟩ := by unfold Addr.add; split <;> simp_all
    rwa [ha] at this
theorem Own.kept {row : Option Nat} (h : Own E base e w v xs) (hg : w.grownBy w' row) (hne : v.ownBlock = none ∨ v.ownBlock ≠ row) : Own E base e w' v xs := World.ownsRow.kept h hg hne
theorem Own.below (h : Own E base e w v xs) (hb : Below w.heap.size w w') : Own E base e w' v xs :=
  h.kept (row := none) ⟨hb.os, hb.tape, hb.output, hb.size, fun i hi _ => hb.block i hi⟩ (by cases v.ownBlock <;> simp)
theorem Own.alloc (h : Own E base e w v xs) (o : Obj) : Own E base e (w.alloc o) v xs := World.ownsRow.alloc h o
theorem Own.ge (h : Own E base e w v xs) : ∀ k, v.ownBlock = some k → base ≤ k := fun k hk => (World.ownsRow.lt h k hk).1
theorem Own.lower {base' : Nat} (h : Own E base e w v xs) (hb : base' ≤ base) : Own E base' e w v xs := by
  obtain ⟨h1, h2⟩ := h
  refine ⟨h1, ?_⟩
  rcases h2 with h2 | ⟨g, cap, cur, rfl, hg, r⟩
  · exact .inl h2
  · exact .inr ⟨g, cap, cur, rfl, Nat.le_trans hb hg, r⟩
end

/-- What a literal, a make lays reads as it. -/
theorem SlA.new {α : Type} (E : Enc α) (w : World) (xs : List α) (t : TypeId) (n : Nat) (hn : n = w.heap.size) (cs : Array Value) (hcs : cs.toList = xs.flatMap E.e) : SlA E (w.alloc (.cells cs t)) (some ⟨n, 0, none⟩) xs := by
  subst hn
  intro j x hx
  refine ⟨w.heap.size, 0, rfl, by simp, fun i u hu => ?_⟩
  have h := flat_get E xs j x i u hx hu
  rw [← hcs] at h
  have hh : (w.alloc (.cells cs t)).heap[w.heap.size]? = some (.cells cs t (0, 0)) := by
    show (w.heap.push _)[w.heap.size]? = _
    simp
  simp only [World.cell?, hh, Nat.zero_add]
  simpa using h

/-- Where the slice's row lies behind an append: where it lay, or new. -/
def Moved (W : World) (v v' : Value) : Prop := v'.ownBlock = v.ownBlock ∨ v'.ownBlock = some W.heap.size
/-- 'append(s, x...)': s is owned, x reads as ys. -/
theorem app {α : Type} {E : Enc α} {P : Program} {ops : Array Oper} {rest : List Oper} {o : Oper} {a : Act} {Q : Exit → Act → World → Prop} {w0 W : World} (s x : Operand) (t e : TypeId) (z : Value) (bytes : Nat)
    (hgd : o.guard = none) (ho : o.op = .call { callee := .builtin .append, args := #[s, x], argTypes := #[t, t] })
    (ht : P.underlying t = some (.slice e)) (hinfo : (P.info? e).map (fun i => (i.zero, i.size, i.bytes)) = some (some z, E.k, bytes)) (hz : z.cells.size = E.k) (hk : 0 < E.k) (hby : 0 < bytes)
    (v : Value) (xs ys : List α) (A : Addr) (m c : Nat) (hs : a.eval s = v) (hx : a.eval x = .slice (some A) m c) (hm : m = ys.length)
    (HO : Own E w0.heap.size e W v xs) (HS : SlA E W (some A) ys) (hb : Below w0.heap.size w0 W) (hl : (xs.length + ys.length) * bytes ≤ 140737488355328)
    (h : ∀ v' w1, Own E w0.heap.size e w1 v' (xs ++ ys) → Below w0.heap.size w0 w1 → W.grownBy w1 v.ownBlock → Moved W v v' → wpList P ops Q rest (a.put o.dst v') w1) :
    wpList P ops Q (o :: rest) a W := by
  obtain ⟨i0, hi, hzz⟩ := Option.map_eq_some_iff.1 hinfo
  simp only [Prod.mk.injEq] at hzz
  obtain ⟨hz0, hz1, hz2⟩ := hzz
  subst hm
  have hlen : xs.length + ys.length ≤ 140737488355328 := Nat.le_trans (Nat.le_mul_of_pos_right _ hby) hl
  have hfl : ∀ l : List α, (l.flatMap E.e).length = l.length * E.k := fun l => by
    induction l with
    | nil => simp
    | cons y l ih => simp only [List.flatMap_cons, List.length_append, E.len, ih, List.length_cons, Nat.add_mul]; omega
  refine wpList_append_own_at W hgd s x t ho w0.heap.size e i0 z E.k bytes ht hi hz0 hz1 hz2 hz hk v xs.length _ hs HO A ys.length c (ys.flatMap E.e) hx (hfl ys) ?_ ?_ (by simp only [maxLen]; omega) hl hb.size ?_
  · intro j u hu
    have hj : j < (ys.flatMap E.e).length := (List.getElem?_eq_some_iff.1 hu).1
    rw [hfl] at hj
    have hq : j / E.k < ys.length := Nat.div_lt_of_lt_mul (by rw [Nat.mul_comm]; exact hj)
    obtain ⟨b, o', hA, _, hc⟩ := HS (j / E.k) _ (List.getElem?_eq_getElem hq)
    obtain rfl : A = ⟨b, o', none⟩ := by injection hA
    have hr : j % E.k < (E.e ys[j / E.k]).length := by rw [E.len]; exact Nat.mod_lt _ hk
    have h1 := flat_get E ys (j / E.k) _ (j % E.k) _ (List.getElem?_eq_getElem hq) (List.getElem?_eq_getElem hr)
    have hjj : j / E.k * E.k + j % E.k = j := by rw [Nat.mul_comm]; exact Nat.div_add_mod j E.k
    rw [hjj, hu] at h1
    have h2 := hc (j % E.k) _ (List.getElem?_eq_getElem hr)
    have ha : (⟨b, o', none⟩ : Addr).add j = ⟨b, o' + j, none⟩ := by unfold Addr.add; split <;> simp_all
    rw [ha, h1, ← h2, Nat.add_assoc, hjj]
  · intro u hu
    obtain ⟨y, _, hy⟩ := List.mem_flatMap.1 hu
    exact E.one y u hy
  · intro v' w' hown hg _ hat
    exact h v' w' (by unfold Own; rw [List.length_append, List.flatMap_append]; exact hown) (Bgr hb hg (Own.ge HO)) hg hat

theorem ret_int {k : IntKind} {a b : Int} (h : a = b) : Ending.returned (.int k a) = .returned (.int k b) := by rw [h]
/-- A function that returns v and leaves what there was. -/
def Ret (w : World) (v : Value) (e : Ending) (w' : World) : Prop := e = .returned v ∧ Below w.heap.size w w'
end Go.Proofs.YtpccanadijefnaaDoor
