/- A slice of structs of two strings as an argument. No condition. -/
import Derived.Test.YtpnhmapkdbnkmaaGreatDoorK806
import Derived.Test.YtpnhmapkdbnkmaaGreatDoorPrl
namespace Go.Proofs.YtpnhmapkdbnkmaaGreatDoor
open Go Go.ChangeShapes Go.WideShapes Go.ChangeAt Go.RowKit Go.Deep Go.Lib
instance : Inhabited P2 := ⟨⟨.empty, .empty⟩⟩
def p2D {H : Type} (x : P2) : DataW H := .agg [.lit (.string x.n.data.toList), .lit (.string x.t.data.toList)]
section
variable {H : Type} {enc : TypeId × Value → H}
/-- A slice of two-celled elements, opened. -/
theorem open_p2 {P : Program} {W : World} {sp : Nat → Bool} {t e s : TypeId} {f0 f1 : Field} (ht : P.underlying t = some (.slice e)) (he : P.underlying e = some (.struct #[f0, f1])) (hs : P.underlying s = some .string)
    (hf : (f0.type == s && f1.type == s && f0.offset == 0 && f1.offset == 1) = true) (hce : P.cellsOf e = 2) (hcs : P.cellsOf s = 1)
    {v : Value} {d : DataW H} {ps : List MemPlace} (hv : v.cells = #[v]) (h : DataW.Trod enc P W 0 sp true t v d ps) :
    ∃ (A : Option Addr) (c : Nat) (xs : List P2) (spare : List (DataW H)), v = .slice A xs.length c ∧ (A = none → c = 0) ∧ xs.length ≤ c ∧ c ≤ 9223372036854775807 ∧ SlA eP2 W A xs ∧ ((d = .nil ∧ xs = []) ∨ d = .slice (xs.map p2D) spare) := by
  simp only [Bool.and_eq_true, beq_iff_eq] at hf
  obtain ⟨⟨⟨e0, e1⟩, o0⟩, o1⟩ := hf
  obtain ⟨fuel, h⟩ := h
  rw [hv] at h
  rcases open_slice ht h with ⟨hn, hx⟩ | ⟨a, len, cap, m, n, D, Pl, hv', hb, hl, hm, hmm, hx, hall⟩
  · obtain rfl : v = .slice none 0 0 := by simpa using hn
    simp only [Prod.mk.injEq] at hx
    exact ⟨none, 0, [], [], rfl, fun _ => rfl, by simp, by omega, SlA.nil, .inl ⟨hx.1, rfl⟩⟩
  · obtain rfl : v = .slice (some a) len cap := by simpa using hv'
    have hlm : len ≤ m := by rw [hmm]; split <;> omega
    have each : ∀ j, j < m → ∃ q : P2, W.cell? (a.add (j * 2)) = some (.string q.n) ∧ W.cell? (a.add (j * 2 + 1)) = some (.string q.t) ∧ D j = p2D q := by
      intro j hj
      obtain ⟨cs', h1, h2⟩ := hall j hj
      rw [hce] at h1
      obtain ⟨_, hlen, hcell⟩ := World.cells?_some h1
      obtain ⟨y0, y1, k, hxy, _, u0, u1⟩ := trod_struct2 he h2
      match cs', hlen with
      | [v0, v1], _ =>
        simp only [e0, e1, o0, o1, hcs, List.drop, List.take] at u0 u1
        obtain ⟨s0, g0, d0, _⟩ := DataW.trod_string hs u0
        obtain ⟨s1, g1, d1, _⟩ := DataW.trod_string hs u1
        simp only [List.cons.injEq, and_true] at g0 g1
        subst g0; subst g1
        have c0 := hcell 0 (by omega)
        have c1 := hcell 1 (by omega)
        rw [add_add] at c0 c1
        simp only [Prod.mk.injEq] at hxy
        exact ⟨⟨s0, s1⟩, by simpa using c0, by simpa using c1, by rw [hxy.1, d0, d1]; rfl⟩
    obtain ⟨q, hq⟩ := choose_lt each
    refine ⟨some a, cap, (List.range len).map q, (List.range (m - len)).map fun j => D (len + j), by simp, (fun h => by cases h), by simpa using hl, by simpa [maxLen] using hm, fun j x hx => ?_, .inr ?_⟩
    · rw [List.getElem?_map] at hx
      obtain ⟨j', hj', rfl⟩ := Option.map_eq_some_iff.1 hx
      obtain ⟨hjl, rfl⟩ := List.getElem?_eq_some_iff.1 hj'
      simp only [List.length_range] at hjl
      simp only [List.getElem_range]
      obtain ⟨c0, c1, _⟩ := hq j (by omega)
      have hsp : a.spot = none := by
        obtain ⟨z0, _⟩ := hq 0 (by omega)
        have ha : a.add (0 * 2) = a := by simp [Addr.add]
        rw [ha] at z0
        unfold World.cell? at z0
        split at z0
        · split at z0
          · cases z0
          · rename_i h; simpa using h
        · cases z0
      obtain ⟨b, o, sp'⟩ := a
      simp only at hsp
      subst hsp
      have hadd : ∀ n, (⟨b, o, none⟩ : Addr).add n = ⟨b, o + n, none⟩ := fun n => by unfold Addr.add; split <;> simp_all
      rw [hadd] at c0 c1
      refine ⟨b, o, rfl, World.block_lt_of_cell? W _ c0, fun i u hu => ?_⟩
      have hu' : [Value.string (q j).n, Value.string (q j).t][i]? = some u := hu
      show W.cell? ⟨b, o + j * 2 + i, none⟩ = some u
      match i, hu' with
      | 0, hu => simp at hu; subst hu; exact c0
      | 1, hu => simp at hu; subst hu; exact c1
      | i + 2, hu => simp at hu
    · simp only [Prod.mk.injEq] at hx
      rw [hx.1, List.map_map]
      congr 1
      exact List.map_congr_left fun j hj => (hq j (by have := List.mem_range.1 hj; omega)).2.2
/-- Not too many, not too great. -/
def SmallP (xs : List P2) : Prop := xs.length ≤ 1048576 ∧ ∀ b ∈ xs, b.n.size ≤ 1048576 ∧ b.t.size ≤ 1048576
/-- The second form's bound, at such a list. -/
theorem small_p {xs : List P2} {d : DataW H} {spare : List (DataW H)} (hd : (d = .nil ∧ xs = []) ∨ d = .slice (xs.map p2D) spare) (hb : Rows.uptoBulk d ≤ 1048576) : SmallP xs := by
  rcases hd with ⟨_, rfl⟩ | rfl
  · exact ⟨by simp, fun b hb => by cases hb⟩
  · simp only [Rows.uptoBulk] at hb
    have h1 := bulk_len (xs.map (p2D (H := H)))
    rw [List.length_map] at h1
    refine ⟨by omega, fun b hbx => ?_⟩
    have h2 := bulk_mem (List.mem_map_of_mem (f := p2D (H := H)) hbx)
    simp only [p2D, Rows.uptoBulk, Rows.uptoBulkAll, Array.length_toList] at h2
    have e1 : b.n.size = b.n.data.size := rfl
    have e2 : b.t.size = b.t.data.size := rfl
    omega
end
end Go.Proofs.YtpnhmapkdbnkmaaGreatDoor
