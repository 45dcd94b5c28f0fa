/- From a row's words to the walks: arguments opened, results laid, and the second form's bound. No condition. -/
import Derived.Test.YtpccanadijefnaaDoorCards
import Derived.Test.YtpccanadijefnaaDoorTie
import Derived.Test.YtpccanadijefnaaDoorBlk
import Derived.Test.YtpccanadijefnaaDoorTab2
import Derived.WalkKit
import Derived.ProofKit
import Derived.OpenShut
import Derived.ChangeSame
import Derived.Carry
import Derived.Deep.DeepHandedRow
import Derived.Deep.Slices
import Derived.Deep.Strs
import Derived.Lib.LaidTab
import Derived.Lib.LaidU8T
import Derived.Lib.LaidIn
import Derived.Deep.DeepWitnessRowRef
namespace Go.Proofs.YtpccanadijefnaaDoor
open Go Go.ChangeShapes Go.WideShapes Go.ChangeAt Go.RowKit Go.Deep Go.Lib
/-! ### the bound -/
theorem bulk_one {H : Type} (d : DataW H) : 1 ≤ Rows.uptoBulk d := by
  cases d with
  | lit l => cases l <;> simp [Rows.uptoBulk]
  | nil => simp [Rows.uptoBulk]
  | ptr d => simp [Rows.uptoBulk]
  | slice elems spare => simp [Rows.uptoBulk]
  | agg parts => simp [Rows.uptoBulk]
  | iface t d => simp [Rows.uptoBulk]
  | map entries => simp [Rows.uptoBulk]
  | held h => simp [Rows.uptoBulk]
theorem bulk_mem {H : Type} {d : DataW H} : ∀ {l : List (DataW H)}, d ∈ l → Rows.uptoBulk d ≤ Rows.uptoBulkAll l
  | x :: r, h => by
    simp only [Rows.uptoBulkAll]
    rcases List.mem_cons.1 h with rfl | h
    · omega
    · have := bulk_mem h; omega
theorem bulk_len {H : Type} : ∀ l : List (DataW H), l.length ≤ Rows.uptoBulkAll l
  | [] => by simp [Rows.uptoBulkAll]
  | x :: r => by
    have := bulk_one x
    have := bulk_len r
    simp only [Rows.uptoBulkAll, List.length_cons]; omega
/-! ### the arguments -/
def t3D {H : Type} (x : T3) : DataW H := .agg [.lit (.string x.f.data.toList), .lit (.string x.t.data.toList), .lit (.int .i64 x.n)]
section
variable {H : Type} {enc : TypeId × Value → H}
/-- A slice of three-celled elements, opened. -/
theorem open_t3 {P : Program} {W : World} {sp : Nat → Bool} {t e s i : TypeId} {f0 f1 f2 : Field} (ht : P.underlying t = some (.slice e)) (he : P.underlying e = some (.struct #[f0, f1, f2])) (hs : P.underlying s = some .string) (hi : P.underlying i = some (.int .i64))
    (hf : (f0.type == s && f1.type == s && f2.type == i && f0.offset == 0 && f1.offset == 1 && f2.offset == 2) = true) (hce : P.cellsOf e = 3) (hcs : P.cellsOf s = 1) (hci : P.cellsOf i = 1)
    {v : Value} {d : DataW H} {ps : List MemPlace} (hv : v.cells = #[v]) (h : DataW.Trod enc P W 0 sp true t v d ps) :
    ∃ (A : Option Addr) (c : Nat) (xs : List T3) (spare : List (DataW H)), v = .slice A xs.length c ∧ (A = none → c = 0) ∧ xs.length ≤ c ∧ c ≤ 9223372036854775807 ∧ SlA eT3 W A xs ∧ (∀ x ∈ xs, (Lit.int .i64 x.n).wf = true) ∧ ((d = .nil ∧ xs = []) ∨ d = .slice (xs.map t3D) spare) := by
  simp only [Bool.and_eq_true, beq_iff_eq] at hf
  obtain ⟨⟨⟨⟨⟨e0, e1⟩, e2⟩, o0⟩, o1⟩, o2⟩ := hf
  obtain ⟨fuel, h⟩ := h
  rw [hv] at h
  rcases open_slice ht h with ⟨hn, hx⟩ | ⟨a, len, cap, m, n, D, Pl, hv', hb, hl, hm, hmm, hx, hall⟩
  · obtain rfl : v = .slice none 0 0 := by simpa using hn
    simp only [Prod.mk.injEq] at hx
    exact ⟨none, 0, [], [], rfl, fun _ => rfl, by simp, by omega, SlA.nil, (fun _ h => by cases h), .inl ⟨hx.1, rfl⟩⟩
  · obtain rfl : v = .slice (some a) len cap := by simpa using hv'
    have hlm : len ≤ m := by rw [hmm]; split <;> omega
    have each : ∀ j, j < m → ∃ q : T3, W.cell? (a.add (j * 3)) = some (.string q.f) ∧ W.cell? (a.add (j * 3 + 1)) = some (.string q.t) ∧ W.cell? (a.add (j * 3 + 2)) = some (.int .i64 q.n) ∧ D j = t3D q ∧ (Lit.int .i64 q.n).wf = true := by
      intro j hj
      obtain ⟨cs', h1, h2⟩ := hall j hj
      rw [hce] at h1
      obtain ⟨_, hlen, hcell⟩ := World.cells?_some h1
      obtain ⟨y0, y1, y2, k, hxy, _, u0, u1, u2⟩ := trod_struct3 he h2
      match cs', hlen with
      | [v0, v1, v2], _ =>
        simp only [e0, e1, e2, o0, o1, o2, hcs, hci, List.drop, List.take] at u0 u1 u2
        obtain ⟨s0, g0, d0, _⟩ := DataW.trod_string hs u0
        obtain ⟨s1, g1, d1, _⟩ := DataW.trod_string hs u1
        obtain ⟨p, g2, d2, hw⟩ := DataW.trod_int hi u2
        simp only [List.cons.injEq, and_true] at g0 g1 g2
        subst g0; subst g1; subst g2
        have c0 := hcell 0 (by omega)
        have c1 := hcell 1 (by omega)
        have c2 := hcell 2 (by omega)
        rw [add_add] at c0 c1 c2
        simp only [Prod.mk.injEq] at hxy
        exact ⟨⟨s0, s1, p⟩, by simpa using c0, by simpa using c1, by simpa using c2, by rw [hxy.1, d0, d1, d2]; rfl, hw⟩
    obtain ⟨q, hq⟩ := choose_lt each
    refine ⟨some a, cap, (List.range len).map q, (List.range (m - len)).map fun j => D (len + j), by simp, (fun h => by cases h), by simpa using hl, by simpa [maxLen] using hm, fun j x hx => ?_, fun x hx => ?_, .inr ?_⟩
    · rw [List.getElem?_map] at hx
      obtain ⟨j', hj', rfl⟩ := Option.map_eq_some_iff.1 hx
      obtain ⟨hjl, rfl⟩ := List.getElem?_eq_some_iff.1 hj'
      simp only [List.length_range] at hjl
      simp only [List.getElem_range]
      obtain ⟨c0, c1, c2, _, _⟩ := hq j (by omega)
      have hsp : a.spot = none := by
        obtain ⟨z0, _⟩ := hq 0 (by omega)
        have ha : a.add (0 * 3) = a := by simp [Addr.add]
        rw [ha] at z0
        unfold World.cell? at z0
        split at z0
        · split at z0
          · cases z0
          · rename_i h; simpa using h
        · cases z0
      obtain ⟨b, o, sp'⟩ := a
      simp only at hsp
      subst hsp
      have hadd : ∀ n, (⟨b, o, none⟩ : Addr).add n = ⟨b, o + n, none⟩ := fun n => by unfold Addr.add; split <;> simp_all
      rw [hadd] at c0 c1 c2
      refine ⟨b, o, rfl, World.block_lt_of_cell? W _ c0, fun i u hu => ?_⟩
      rw [eT3_e] at hu
      show W.cell? ⟨b, o + j * 3 + i, none⟩ = some u
      match i, hu with
      | 0, hu => simp at hu; subst hu; exact c0
      | 1, hu => simp at hu; subst hu; exact c1
      | 2, hu => simp at hu; subst hu; exact c2
      | i + 3, hu => simp at hu
    · obtain ⟨j, hj, rfl⟩ := List.mem_map.1 hx
      exact (hq j (by have := List.mem_range.1 hj; omega)).2.2.2.2
    · simp only [Prod.mk.injEq] at hx
      rw [hx.1, List.map_map]
      congr 1
      exact List.map_congr_left fun j hj => (hq j (by have := List.mem_range.1 hj; omega)).2.2.2.1
/-- The second form's bound, at such a list. -/
theorem small_of {xs : List T3} {d : DataW H} {spare : List (DataW H)} (hd : (d = .nil ∧ xs = []) ∨ d = .slice (xs.map t3D) spare) (hb : Rows.uptoBulk d ≤ 1048576) : Small xs := by
  rcases hd with ⟨_, rfl⟩ | rfl
  · exact ⟨by simp, fun b hb => by cases hb⟩
  · simp only [Rows.uptoBulk] at hb
    have h1 := bulk_len (xs.map (t3D (H := H)))
    rw [List.length_map] at h1
    refine ⟨by omega, fun b hbx => ?_⟩
    have h2 := bulk_mem (List.mem_map_of_mem (f := t3D (H := H)) hbx)
    simp only [t3D, Rows.uptoBulk, Rows.uptoBulkAll, Array.length_toList] at h2
    have e1 : b.f.size = b.f.data.size := rfl
    have e2 : b.t.size = b.t.data.size := rfl
    omega
/-! ### what is handed back -/
theorem trodAll_below {P : Program} (hl : laidOutB P = true) {W W' : World} (hb : Below W.heap.size W W') :
    ∀ {ts : List TypeId} {vs : List Value} {ds : List (DataW H)} {ps : List MemPlace}, (∀ t ∈ ts, P.readableRec t = true ∧ t < P.types.size) → DataW.TrodAll enc P W 0 (fun _ => true) true ts vs ds ps → (∀ x ∈ ps, x.block < W.heap.size) →
      DataW.TrodAll enc P W' 0 (fun b => decide (b < W.heap.size)) true ts vs ds ps
  | [], vs, ds, ps, _, h, _ => by
    obtain ⟨rfl, rfl, rfl⟩ := trodAll_nil h
    exact trodAll_mk0
  | t :: ts, vs, ds, ps, ht, h, hlt => by
    obtain ⟨v, vs', d, ds', p, q, rfl, rfl, rfl, h0, hr⟩ := trodAll_cons h
    have h1 := ht t (by simp)
    exact trodAll_cons_mk (Below.trod hl h1.1 h1.2 h0 hb fun x hx => hlt x (by simp [hx])) (trodAll_below hl hb (fun t h => ht t (by simp [h])) hr fun x hx => hlt x (by simp [hx]))
theorem post_true {P : Program} {f : Func} {s : ChangeSpec} {B : TypeId} {W W' : World} {args : Array Value} {ds gs : List (DataW H)} {before : List MemPlace} (hW : DataW.Whole enc P f.params.toList s.vars false W args.toList ds gs before) (hv : s.vars = [])
    (h1 : (s.fn H (ds ++ gs)).results = [.lit (.bool true)]) (h2 : (s.fn H (ds ++ gs)).args = ds) (h3 : (s.fn H (ds ++ gs)).vars = []) (hr : f.resultTypes = #[B]) (hB : P.underlying B = some .bool)
    (hl : laidOutB P = true) (ht : ∀ t ∈ f.params.toList, P.readableRec t = true ∧ t < P.types.size) (hb : Below W.heap.size W W') : s.post enc P f false true false false W args (.bool true) W' := by
  have hlt := fun x hx => hW.lt x hx
  have hW' := hW
  obtain ⟨p, q, hA, hV, rfl, hz, hn⟩ := hW
  rw [hv] at hV
  obtain ⟨rfl, rfl⟩ := trodVars_none hV
  refine ⟨ds, [], p ++ [], [], p, [], hW', ?_, ?_, ?_, hb.frame _, fun h => by cases h⟩
  · rw [h1, hr]
    exact trodAll_cons_mk (shut_bool hB true) trodAll_mk0
  · rw [h2]
    exact trodAll_below hl hb ht hA fun x hx => hlt x (by simp [hx])
  · rw [hv, h3]; exact rfl
end
/-! ### the tables of unicode/utf8, as the rows lay them -/
theorem own : ownKnob Tryd.prog.godebug = none := by kernel_rfl
theorem laidOut : laidOutB Tryd.prog = true := by kernel_rfl
theorem tabs_of {W : World} (hL : laidMetH Tryd.prog [("unicode/utf8.acceptRanges", Rows.laid_unicode_utf8_acceptRanges), ("unicode/utf8.first", Rows.laid_unicode_utf8_first)] W) : U W := by
  have hL' : laidMet Tryd.prog [("unicode/utf8.acceptRanges", Rows.laid_unicode_utf8_acceptRanges), ("unicode/utf8.first", Rows.laid_unicode_utf8_first)] W := hL
  have h1 : (Rows.laid_unicode_utf8_acceptRanges : DataW Unit) = Lib.acceptData := by kernel_rfl
  have h2 : Rows.laid_unicode_utf8_first = Lib.firstData := by kernel_rfl
  rw [h1, h2] at hL'
  exact utf8Tabs_of_readsT (U8Types.of196 Tryd.laysValid) ⟨by kernel_rfl, by kernel_rfl, by kernel_rfl, by kernel_rfl, by kernel_rfl, by kernel_rfl, by kernel_rfl⟩ (Lib.laidMet.reads hL' (.tail _ (.head _))) (Lib.laidMet.reads hL' (.head _))
/-- A world for the witnesses: the settled one, the two tables as their initialisers lay them. -/
noncomputable def laidWorld (os : Os) : World :=
  let w0 := World.holding Tryd.prog os ⟨#[], #[], []⟩
  let put (h : Array Obj) (g : Nat) (cs : Array Value) : Array Obj := h.modify g fun
    | .cells _ t frozen => .cells cs t frozen
    | o => o
  let h1 := put w0.heap 0 (Lib.firstTab.map fun z => Value.int .u8 z).toArray
  let h2 := put h1 1 ((List.range 16).flatMap fun i => [Value.int .u8 (Lib.accLo i), Value.int .u8 (Lib.accHi i)]).toArray
  { w0 with heap := h2 }
theorem laid_met (os : Os) (args : Array Value) : laidMet Tryd.prog [("unicode/utf8.acceptRanges", Rows.laid_unicode_utf8_acceptRanges), ("unicode/utf8.first", Rows.laid_unicode_utf8_first)] ((laidWorld os).forCall (fun _ _ => 0) ⟨#[], args, []⟩).memory :=
  (LaidIn.of_run [1, 0] 8 (by kernel_rfl) (by kernel_rfl) (by kernel_rfl) (by kernel_rfl)).met
end Go.Proofs.YtpccanadijefnaaDoor
