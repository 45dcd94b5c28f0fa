/- The reference's gathered: a table, block by block. No condition. -/
import Derived.Test.YtpnhmapkdbnkmaaDoorTree
import Derived.Test.YtpnhmapkdbnkmaaDoorFnd6k
import Derived.Test.YtpnhmapkdbnkmaaDoorK808
import Derived.Test.YtpnhmapkdbnkmaaDoorK805
import Derived.Test.YtpnhmapkdbnkmaaDoorK807
namespace Go.Proofs.YtpnhmapkdbnkmaaDoor
open Go Go.RowKit
theorem tab_set {l ys : List T3} (h : Tab l ys) (j : Nat) (hj : j < ys.length) (x : T3) (hs : SameS ys[j] x) : Tab (l ++ [x]) (ys.set j ⟨ys[j].f, ys[j].t, ys[j].n + x.n⟩) := by
  have hA := rise_aps h.rise
  have e := addL_some ys x j hj hA hs
  refine ⟨?_, fun k => ?_, fun f t => ?_⟩
  · rw [List.pairwise_iff_getElem]
    intro p q hp hq hpq
    have hp' : p < ys.length := by simpa using hp
    have hq' : q < ys.length := by simpa using hq
    have h1 := List.pairwise_iff_getElem.1 h.rise p q hp' hq' hpq
    rw [← h1]
    rw [List.getElem_set, List.getElem_set]
    split <;> split <;> rename_i q1 q2 <;> try subst q1 <;> try subst q2
    all_goals first | rfl | exact ltT_same rfl rfl rfl rfl | (subst q1; exact ltT_same rfl rfl rfl rfl) | (subst q2; exact ltT_same rfl rfl rfl rfl)
  · rw [keys_set, h.keys]
    have hx : (x.f, x.t) ∈ keysT l := by
      rw [← h.keys]
      have := mem_keys (List.getElem_mem hj)
      rwa [hs.1, hs.2] at this
    constructor
    · intro hk; simp [keysT] at hk ⊢; exact .inl hk
    · intro hk
      simp only [keysT, List.map_append, List.mem_append, List.map_cons, List.map_nil, List.mem_singleton] at hk
      rcases hk with hk | rfl
      · exact hk
      · exact hx
  · rw [← e, tot_addL, h.tot, tot_append, tot_cons, tot_nil]; omega
theorem tab_ins {l ys : List T3} (h : Tab l ys) (j : Nat) (hj : j ≤ ys.length) (x : T3) (hlo : ∀ i (hi : i < ys.length), i < j → ltT ys[i] x = true) (hhi : ∀ hi : j < ys.length, ltT ys[j] x = false ∧ ¬ SameS ys[j] x) : Tab (l ++ [x]) (ys.take j ++ [x] ++ ys.drop j) := by
  have hup : ∀ y ∈ ys.drop j, ltT x y = true := fun y hy => by
    obtain ⟨i, hi, rfl⟩ := List.getElem_of_mem hy
    rw [List.length_drop] at hi
    obtain ⟨h1, h2⟩ := hhi (by omega)
    have h3 : ltT x ys[j] = true := by
      cases h4 : ltT x ys[j]
      · exact absurd (ltT_tri h1 h4) h2
      · rfl
    rw [List.getElem_drop]
    rcases Nat.eq_zero_or_pos i with rfl | hp
    · exact h3
    · exact ltT_trans h3 (List.pairwise_iff_getElem.1 h.rise j (j + i) (by omega) (by omega) (by omega))
  have hdn : ∀ y ∈ ys.take j, ltT y x = true := fun y hy => by
    obtain ⟨i, hi, rfl⟩ := List.getElem_of_mem hy
    rw [List.length_take] at hi
    rw [List.getElem_take]
    exact hlo i (by omega) (by omega)
  refine ⟨?_, fun k => ?_, fun f t => ?_⟩
  · rw [List.append_assoc]
    refine List.pairwise_append.2 ⟨h.rise.sublist (List.take_sublist _ _), List.pairwise_append.2 ⟨List.pairwise_singleton _ _, h.rise.sublist (List.drop_sublist _ _), fun a ha b hb => ?_⟩, fun a ha b hb => ?_⟩
    · obtain rfl := List.mem_singleton.1 ha; exact hup b hb
    · rcases List.mem_append.1 hb with hb | hb
      · obtain rfl := List.mem_singleton.1 hb; exact hdn a ha
      · exact ltT_trans (hdn a ha) (hup b hb)
  · have hk : k ∈ keysT ys ↔ k ∈ keysT (ys.take j) ∨ k ∈ keysT (ys.drop j) := by
      have e : keysT ys = keysT (ys.take j) ++ keysT (ys.drop j) := by unfold keysT; rw [← List.map_append, List.take_append_drop]
      rw [e, List.mem_append]
    have h2 := h.keys k
    have e1 : ∀ a b : List T3, k ∈ keysT (a ++ b) ↔ k ∈ keysT a ∨ k ∈ keysT b := fun a b => by simp [keysT]
    rw [e1, e1, e1, ← h2, hk]
    constructor
    · rintro ((a | a) | a)
      · exact .inl (.inl a)
      · exact .inr a
      · exact .inl (.inr a)
    · rintro ((a | a) | a)
      · exact .inl (.inl a)
      · exact .inr a
      · exact .inl (.inr a)
  · have ht : tot ys f t = tot (ys.take j) f t + tot (ys.drop j) f t := by
      conv => lhs; rw [← List.take_append_drop j ys]
      rw [tot_append]
    rw [tot_append, tot_append, tot_append, ← h.tot, ht]; omega
theorem wanted_no {o : Oper} (h : o.guard = none) (f : Nat → Option Bool) : Region.wanted o f = true := by unfold Region.wanted; rw [h]
/-- A table's counts are those of the list. -/
theorem tab_n {l ys : List T3} (h : Tab l ys) (hp : ∀ b ∈ l, 0 ≤ b.n) {j : Nat} (hj : j < ys.length) : 0 ≤ ys[j].n ∧ ys[j].n ≤ sumT l := by
  have h1 := tot_mem (rise_aps h.rise) (List.getElem_mem hj)
  rw [h.tot] at h1
  rw [← h1]
  exact ⟨tot_nonneg l hp _ _, tot_le l hp _ _⟩
theorem Own.litN {α : Type} (E : Enc α) (base : Nat) (e : TypeId) (w : World) (n : Nat) (hn : n = w.heap.size) (hb : base ≤ w.heap.size) : Own E base e (w.alloc (.cells #[] e)) (.slice (some ⟨n, 0, none⟩) 0 0) [] := by
  subst hn; exact Own.lit E base e w hb
theorem SlA.kept {α : Type} {E : Enc α} {w w' : World} {A : Option Addr} {xs : List α} {b o : Nat} {row : Option Nat} (h : SlA E w A xs) (hA : A = some ⟨b, o, none⟩) (hg : w.grownBy w' row) (hne : some b ≠ row) : SlA E w' A xs := fun j x hx => by
  obtain ⟨b', o', hA', hlt, hc⟩ := h j x hx
  rw [hA] at hA'
  injection hA' with h1
  injection h1 with h2 h3
  subst h2 h3
  exact ⟨b, o, hA, Nat.lt_of_lt_of_le hlt hg.size, fun i u hu => hg.cell (hc i u hu) hne⟩
end Go.Proofs.YtpnhmapkdbnkmaaDoor
