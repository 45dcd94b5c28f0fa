/- 'append' at one operation of a drawn region; parts of slices. No condition. -/
import Derived.Test.YtpccanadijefnaaDoorReg
import Derived.Test.YtpccanadijefnaaDoorBase
namespace Go.Proofs.YtpccanadijefnaaDoor
open Go Go.RowKit
theorem app_op {α : Type} {E : Enc α} {P : Program} {o : Oper} {a : Act} {K : Act → World → Prop} {Q : Exit → Act → World → Prop} {w0 W : World} (s x : Operand) (t e : TypeId) (z : Value) (bytes : Nat)
    (_ : o.guard = none) (ho : o.op = .call { callee := .builtin .append, args := #[s, x], argTypes := #[t, t] })
    (ht : P.underlying t = some (.slice e)) (hinfo : (P.info? e).map (fun i => (i.zero, i.size, i.bytes)) = some (some z, E.k, bytes)) (hz : z.cells.size = E.k) (hk : 0 < E.k) (hby : 0 < bytes)
    (v : Value) (xs ys : List α) (A : Addr) (m c : Nat) (hs : a.eval s = v) (hx : a.eval x = .slice (some A) m c) (hm : m = ys.length)
    (HO : Own E w0.heap.size e W v xs) (HS : SlA E W (some A) ys) (hb : Below w0.heap.size w0 W) (hl : (xs.length + ys.length) * bytes ≤ 140737488355328)
    (h : ∀ v' w1, Own E w0.heap.size e w1 v' (xs ++ ys) → Below w0.heap.size w0 w1 → W.grownBy w1 v.ownBlock → Moved W v v' → K (a.put o.dst v') w1) : o.wp P a W K Q := by
  obtain ⟨i0, hi, hzz⟩ := Option.map_eq_some_iff.1 hinfo
  simp only [Prod.mk.injEq] at hzz
  obtain ⟨hz0, hz1, hz2⟩ := hzz
  subst hm
  have hlen : xs.length + ys.length ≤ 140737488355328 := Nat.le_trans (Nat.le_mul_of_pos_right _ hby) hl
  have hfl : ∀ l : List α, (l.flatMap E.e).length = l.length * E.k := fun l => by
    induction l with
    | nil => simp
    | cons y l ih => simp only [List.flatMap_cons, List.length_append, E.len, ih, List.length_cons, Nat.add_mul]; omega
  obtain ⟨v', w', hr, h2, h3, _, h5⟩ := run_append_own_at (P := P) W w0.heap.size t o.type e i0 z E.k bytes ht hi hz0 hz1 hz2 hz hk v xs.length _ HO A ys.length c (ys.flatMap E.e) (hfl ys) (fun j u hu => by
    have hj : j < (ys.flatMap E.e).length := (List.getElem?_eq_some_iff.1 hu).1
    rw [hfl] at hj
    have hq : j / E.k < ys.length := Nat.div_lt_of_lt_mul (by rw [Nat.mul_comm]; exact hj)
    obtain ⟨b, o', hA, _, hc⟩ := HS (j / E.k) _ (List.getElem?_eq_getElem hq)
    obtain rfl : A = ⟨b, o', none⟩ := by injection hA
    have hr : j % E.k < (E.e ys[j / E.k]).length := by rw [E.len]; exact Nat.mod_lt _ hk
    have h1 := flat_get E ys (j / E.k) _ (j % E.k) _ (List.getElem?_eq_getElem hq) (List.getElem?_eq_getElem hr)
    have hjj : j / E.k * E.k + j % E.k = j := by rw [Nat.mul_comm]; exact Nat.div_add_mod j E.k
    rw [hjj, hu] at h1
    have h2 := hc (j % E.k) _ (List.getElem?_eq_getElem hr)
    have ha : (⟨b, o', none⟩ : Addr).add j = ⟨b, o' + j, none⟩ := by unfold Addr.add; split <;> simp_all
    rw [ha, h1, ← h2, Nat.add_assoc, hjj]) (fun u hu => by
    obtain ⟨y, _, hy⟩ := List.mem_flatMap.1 hu
    exact E.one y u hy) (by simp only [maxLen]; omega) hl hb.size
  unfold Oper.wp execOp
  simp only [ho, resolve, invoke, builtin, Sem.run_bind, Sem.run_pure, Result.andThen_ok, List.map_toArray, List.map_cons, List.map_nil, hs, hx, hr]
  exact h v' w' (by unfold Own; rw [List.length_append, List.flatMap_append]; exact h2) (Bgr hb h3 (Own.ge HO)) h3 h5
/-- A slice value without room is the zero slice. -/
theorem SlA.drop {α : Type} {E : Enc α} {w : World} {b o : Nat} {xs : List α} (h : SlA E w (some ⟨b, o, none⟩) xs) (k : Nat) : SlA E w (some ⟨b, o + k * E.k, none⟩) (xs.drop k) := fun j x hx => by
  rw [List.getElem?_drop] at hx
  obtain ⟨b', o', hA, hlt, hc⟩ := h _ x hx
  injection hA with hA
  injection hA with h1 h2
  subst h1 h2
  exact ⟨b, _, rfl, hlt, fun i u hu => by rw [← hc i u hu, Nat.add_mul]; congr 2; omega⟩
theorem SlA.take {α : Type} {E : Enc α} {w : World} {A : Option Addr} {xs : List α} (h : SlA E w A xs) (k : Nat) : SlA E w A (xs.take k) := fun j x hx => by
  rw [List.getElem?_take] at hx
  split at hx
  · exact h j x hx
  · cases hx
theorem Own.lit {α : Type} (E : Enc α) (base : Nat) (e : TypeId) (w : World) (hb : base ≤ w.heap.size) : Own E base e (w.alloc (.cells #[] e)) (.slice (some ⟨w.heap.size, 0, none⟩) 0 0) [] :=
  World.ownsRow_lit w #[] 0 hb (Nat.zero_le _) (by simp)
theorem SlA.part {α : Type} {E : Enc α} {w : World} {ad : Addr} {xs : List α} (h : SlA E w (some ad) xs) (k s : Nat) (hs : s = E.k) : SlA E w (some (ad.add (k * s))) (xs.drop k) := fun j x hx => by
  subst hs
  have hx' := hx
  rw [List.getElem?_drop] at hx'
  obtain ⟨b', o', hA, hlt, hc⟩ := h _ x hx'
  injection hA with hA
  subst hA
  have ha : (⟨b', o', none⟩ : Addr).add (k * E.k) = ⟨b', o' + k * E.k, none⟩ := by unfold Addr.add; split <;> simp_all
  rw [ha]
  exact SlA.drop h k j x hx
theorem app_none {P : Program} {o : Oper} {a : Act} {K : Act → World → Prop} {Q : Exit → Act → World → Prop} {W : World} {α : Type} {E : Enc α} {base : Nat} (s x : Operand) (t e : TypeId)
    (ho : o.op = .call { callee := .builtin .append, args := #[s, x], argTypes := #[t, t] })
    (ht : P.underlying t = some (.slice e)) {z : Value} {bytes : Nat} (hinfo : (P.info? e).map (fun i => (i.zero, i.size, i.bytes)) = some (some z, E.k, bytes))
    (v : Value) (xs : List α) (hs : a.eval s = v) (hx : a.eval x = .slice none 0 0) (HO : Own E base e W v xs) (h : K (a.put o.dst v) W) : o.wp P a W K Q := by
  obtain ⟨i0, hi, hzz⟩ := Option.map_eq_some_iff.1 hinfo
  have hrun := run_append_owned_none (P := P) (w := W) base t o.type e i0 E.k ht hi v xs.length _ HO
  unfold Oper.wp
  simp [execOp, ho, resolve, invoke, builtin, hs, hx, hrun, Result.andThen]
  exact h
end Go.Proofs.YtpccanadijefnaaDoor
