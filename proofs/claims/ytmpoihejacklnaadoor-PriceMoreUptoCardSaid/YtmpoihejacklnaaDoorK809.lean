/- Parts of these proofs, one behind the other: Seq7. No condition. -/
import Derived.Test.YtmpoihejacklnaaDoorK807
import Derived.Lib.SliceRun
import Derived.Laws.IdiomCopy
import Derived.Test.YtmpoihejacklnaaDoorK808
import Derived.Test.YtmpoihejacklnaaDoorK806
import Derived.Test.YtmpoihejacklnaaDoorK804
import Derived.RangeFuncBox
import Derived.Maps.AppendAt
/- slices.SortedFunc of slices.Values over rules, and rule.Normal. No condition. -/
namespace Go.Proofs.YtmpoihejacklnaaDoor
section
section
open Go Go.RowKit
/-- An element laid over another one. -/
theorem Own.put3 {base : Nat} {e : TypeId} {w : World} {g cap : Nat} {xs : List T3} (h : Own eT3 base e w (.slice (some ⟨g, 0, none⟩) xs.length cap) xs) (j : Nat) (hj : j < xs.length) (y : T3) :
    Own eT3 base e (((w.setCell ⟨g, j * 3, none⟩ (.string y.f)).setCell ⟨g, j * 3 + 1, none⟩ (.string y.t)).setCell ⟨g, j * 3 + 2, none⟩ (.int .i64 y.n)) (.slice (some ⟨g, 0, none⟩) xs.length cap) (xs.set j y) ∧
      w.grownBy (((w.setCell ⟨g, j * 3, none⟩ (.string y.f)).setCell ⟨g, j * 3 + 1, none⟩ (.string y.t)).setCell ⟨g, j * 3 + 2, none⟩ (.int .i64 y.n)) (some g) := by
  have h1 := h.cellset j hj 0 (by decide) (.string y.f) ⟨y.f, xs[j].t, xs[j].n⟩ rfl
  have e1 : (xs.set j ⟨y.f, xs[j].t, xs[j].n⟩).length = xs.length := by simp
  have h2' := h1.1
  rw [← e1] at h2'
  have h2 := h2'.cellset j (by simpa using hj) 1 (by decide) (.string y.t) ⟨y.f, y.t, xs[j].n⟩ (by simp [eT3])
  have h3' := h2.1
  rw [List.set_set, e1] at h3'
  have e2 : (xs.set j ⟨y.f, y.t, xs[j].n⟩).length = xs.length := by simp
  rw [← e2] at h3'
  have h3 := h3'.cellset j (by simpa using hj) 2 (by decide) (.int .i64 y.n) y (by simp [eT3])
  have h4 := h3.1
  rw [List.set_set, e2] at h4
  exact ⟨h4, (h1.2.trans h2.2).trans h3.2⟩
/-- 'clear' of some cells that are there. -/
theorem run_clear3 {P : Program} (w : World) (t e ty : TypeId) (z : Value) (ht : P.underlying t = some (.slice e)) (hv : ∀ w, (zeroValue e).run P w = .ok z w) (h1 : ∀ v ∈ z.cells, v.oneCell' = true) (b o n c : Nat)
    (hc : ∀ j, j < n * z.cells.size → (w.cell? ⟨b, o + j, none⟩).isSome = true) (hf : ∀ j, j < n * z.cells.size → w.frozen? ⟨b, o + j, none⟩ = false) :
    ∃ vs : List Value, vs.length = n * z.cells.size ∧ (Builtin.clear_ #[t] ty #[.slice (some ⟨b, o, none⟩) n c]).run P w = .ok (.tuple #[]) (w.setCells b o vs) := by
  have hl : (Builtin.zeroCells z.cells n).toList.length = n * z.cells.size := by simp [Builtin.zeroCells]
  rcases Nat.eq_zero_or_pos n with rfl | hn
  · refine ⟨[], by simp, ?_⟩
    simp [Builtin.clear_, run_underlying ht, World.setCells]
  · have hst := run_storeCells_cells (P := P) b o (Builtin.zeroCells z.cells n).toList 0 w (by rw [hl]; simpa using hc) (by rw [hl]; simpa using hf) (by
      intro v hv'
      have : v ∈ z.cells := by
        simp only [Builtin.zeroCells, Array.toList_map, List.mem_map, Array.mem_toList_iff, Array.mem_range] at hv'
        obtain ⟨i, hi, rfl⟩ := hv'
        have hz : 0 < z.cells.size := by
          rcases Nat.eq_zero_or_pos z.cells.size with h0 | h0
          · rw [h0] at hi; simp at hi
          · exact h0
        rw [getElem!_pos z.cells _ (Nat.mod_lt _ hz)]
        exact Array.getElem_mem _
      exact h1 v this)
    simp only [Nat.add_zero] at hst
    obtain ⟨m, rfl⟩ : ∃ m, n = m + 1 := ⟨n - 1, by omega⟩
    exact ⟨_, hl, by simp [Builtin.clear_, run_underlying ht, hv, hst]⟩
theorem grown_setCells (b : Nat) : ∀ (vs : List Value) (o : Nat) (w : World), w.grownBy (w.setCells b o vs) (some b)
  | [], _, w => ⟨rfl, rfl, rfl, Nat.le_refl _, fun _ _ _ => rfl⟩
  | v :: r, o, w => World.grownBy.trans (b := w.setCell ⟨b, o, none⟩ v) ⟨rfl, rfl, rfl, by simp, fun i hi hne => Deep.blk_setCell_other w ⟨b, o, none⟩ v i (fun e => hne (by rw [e]))⟩ (grown_setCells b r (o + 1) _)
/-- The row's first elements are as they were. -/
theorem SlA.cleared {α : Type} {E : Enc α} {w : World} {g k : Nat} {xs : List α} (h : SlA E w (some ⟨g, 0, none⟩) xs) (hk : xs.length * E.k ≤ k) (vs : List Value) : SlA E (w.setCells g k vs) (some ⟨g, 0, none⟩) xs := fun j x hx => by
  obtain ⟨b, o, hA, hlt, hc⟩ := h j x hx
  injection hA with hA
  injection hA with h1 h2
  subst h1 h2
  refine ⟨_, _, rfl, Nat.lt_of_lt_of_le hlt (grown_setCells _ vs k w).size, fun i u hu => ?_⟩
  rw [World.cell?_setCells_out]
  · exact hc i u hu
  · intro _ _
    left
    have hi : i < E.k := by rw [← E.len x]; exact (List.getElem?_eq_some_iff.1 hu).1
    have hj := (List.getElem?_eq_some_iff.1 hx).1
    have : (j + 1) * E.k ≤ xs.length * E.k := Nat.mul_le_mul_right _ hj
    rw [Nat.add_mul] at this
    show 0 + j * E.k + i < k
    omega
end
section
open Go Go.RowKit
/-- The same as region_seqP, from the very world behind the draw. -/
theorem region_seqG {P : Program} {ops : Array Oper} {id : Nat} {Q : Exit → Act → World → Prop} {a : Act} {w : World} (L : List (Nat × Bool)) (hm : P.follows .mixedOrders = true) (hB : (Region.noSelect ops && decide (L.length = ops.size) && orderB ops L (Array.replicate ops.size false)) = true)
    (h : wpSeq P ops w.drew (noP Q) L a w.drew) : (Code.region id ops true).wp P Q a w := by
  refine wp_mono (Q := noP Q) ?_ noP_le
  simp only [Bool.and_eq_true, decide_eq_true_eq] at hB
  obtain ⟨⟨hsel, hl⟩, hB⟩ := hB
  refine wp_region_held (S := Ext w.drew) hm ?_
  have h' := wpAnyH_of_seq hsel (fun _ _ _ _ _ h => h.elim) L _ a _ (.of (Below.refl _ _)) hB h
  rw [hl] at h'
  exact h'
set_option maxHeartbeats 400000 in
theorem cmpI_c (x y : Int) (w : World) : Calls Tryd.prog 45 #[.int .i64 x, .int .i64 y] w fun e w' => e = .returned (.int .i64 (cmpI x y)) ∧ w' = w := by
  by_cases h1 : x < y
  · go_enter Tryd.func45, Tryd.ntmps45
    go_wp2
    go_ret
    exact ⟨ret_int (by unfold cmpI; rw [if_pos h1]), rfl⟩
  · by_cases h2 : x = y
    · subst h2
      go_enter Tryd.func45, Tryd.ntmps45
      go_wp2
      go_ret
      exact ⟨ret_int (by unfold cmpI; simp), rfl⟩
    · go_enter Tryd.func45, Tryd.ntmps45
      go_wp2
      go_ret
      exact ⟨ret_int (by unfold cmpI; rw [if_neg (by omega), if_neg h2]), rfl⟩
set_option maxHeartbeats 1000000 in
theorem ncmp_g (a b : T3) (w : World) : Calls Tryd.prog 43 #[.agg #[.string a.f, .string a.t, .int .i64 a.n], .agg #[.string b.f, .string b.t, .int .i64 b.n]] w (RetG w (.int .i64 (cmpN a b))) := by
  go_enter Tryd.func43, Tryd.ntmps43
  go_wp2_with fail
  refine region_seqG [(0, true), (1, true), (3, true), (4, true), (5, true), (6, true), (2, false), (7, false), (8, false), (9, false), (10, true)] (by kernel_rfl) (by kernel_rfl) ?_
  have hG : Grw w ((w.alloc (.cells #[.string a.f, .string a.t, .int .i64 a.n] 49)).alloc (.cells #[.string b.f, .string b.t, .int .i64 b.n] 49)).drew := Gdn (Gal (Gal (Grw.refl _) _) _) 1
  repeat (first
    | (refine seq_q rfl (fun K hK => ?_); unfold takeQ; go_simp; refine hK _ ?_; clear hK K)
    | (refine seq_t rfl (fun K hK => ?_); go_simp; go_at_call 39; refine (rcomp_g a b _).mono ?_; rintro e w3 ⟨rfl, hb3⟩; go_simp; refine hK _ _ (.of hb3.below) ?_; clear hK K)
    | (refine seq_t rfl (fun K hK => ?_); go_simp; go_at_call 45; refine (cmpI_c a.n b.n _).mono ?_; rintro e w4 ⟨rfl, rfl⟩; go_simp; refine hK _ _ (.of hb3.below) ?_; clear hK K)
    | (refine seq_t rfl (fun K hK => ?_); go_simp; refine hK _ _ (.of (Bal hb3.below _)) ?_; clear hK K)
    | (refine seq_t rfl (fun K hK => ?_); go_simp; go_at_call 44; refine (or_c _ _ [cmpT a b, cmpI a.n b.n] _ (SlA.new _ _ _ _ _ (by simp) _ rfl) (by simp)).mono ?_; rintro e w4 ⟨rfl, rfl⟩; go_simp; refine hK _ _ (.of (Bal hb3.below _)) ?_; clear hK K))
  refine seq_nil ?_
  rw [noP_normal]
  go_wp2
  go_ret
  exact ⟨rfl, Gal (Gst hG hb3) _⟩
set_option maxHeartbeats 400000 in
theorem neq_c (a b : T3) (w : World) : Calls Tryd.prog 47 #[.agg #[.string a.f, .string a.t, .int .i64 a.n], .agg #[.string b.f, .string b.t, .int .i64 b.n]] w (Ret w (.bool (decide (cmpT a b = 0)))) := by
  go_enter Tryd.func47, Tryd.ntmps47
  go_wp2_with (go_at_call 39; refine (rcomp_c a b _).mono ?_; rintro e w1 ⟨rfl, hb1⟩)
  go_ret
  exact ⟨rfl, Bel⟩
theorem once_all {zs : List T3} (h : 0 < zs.length) : onceL zs = zs.take 1 ++ cmpL zs[0] (zs.drop 1) := by
  cases zs with
  | nil => simp at h
  | cons p zs => rfl
theorem cmpL_drop {zs : List T3} (p : T3) (k : Nat) (h : k < zs.length) : cmpL p (zs.drop k) = if SameS zs[k] p then cmpL zs[k] (zs.drop (k + 1)) else zs[k] :: cmpL zs[k] (zs.drop (k + 1)) := by
  rw [List.drop_eq_getElem_cons h]; rfl
theorem once_next {zs : List T3} {k : Nat} (hk : k + 1 < zs.length) (h : onceL zs = zs.take (k + 1) ++ cmpL zs[k] (zs.drop (k + 1))) (hn : ¬ SameS zs[k + 1] zs[k]) : onceL zs = zs.take (k + 1 + 1) ++ cmpL zs[k + 1] (zs.drop (k + 1 + 1)) := by
  rw [h, cmpL_drop _ _ hk, if_neg hn, List.take_succ_eq_append_getElem hk, List.append_assoc]; rfl
theorem once_dup {zs : List T3} {k : Nat} (hk : k + 1 < zs.length) (h : onceL zs = zs.take (k + 1) ++ cmpL zs[k] (zs.drop (k + 1))) (hs : SameS zs[k + 1] zs[k]) : onceL zs = zs.take (k + 1) ++ cmpL zs[k + 1] (zs.drop (k + 1 + 1)) := by
  rw [h, cmpL_drop _ _ hk, if_pos hs]
/-- While equals are struck: k are laid, all from q - 1 on is as it was. -/
def Struck (zs rs : List T3) (k q : Nat) : Prop := rs.length = zs.length ∧ (∀ i (h : i < zs.length) (h' : i < rs.length), q ≤ i + 1 → rs[i] = zs[i]) ∧ ∃ h : q - 1 < zs.length, onceL zs = rs.take k ++ cmpL zs[q - 1] (zs.drop q)
theorem struck_same {zs rs : List T3} {k q : Nat} (hq : q < zs.length) (hq0 : 0 < q) (h : Struck zs rs k q) (hs : SameS zs[q] zs[q - 1]) : Struck zs rs k (q + 1) := by
  obtain ⟨h1, h2, h3, h4⟩ := h
  refine ⟨h1, fun i h h' hi => h2 i h h' (by omega), by simpa using hq, ?_⟩
  rw [h4, cmpL_drop _ _ hq, if_pos hs]; simp
theorem struck_lay {zs rs : List T3} {k q : Nat} (hq : q < zs.length) (hq0 : 0 < q) (hk : k < q) (h : Struck zs rs k q) (hs : ¬ SameS zs[q] zs[q - 1]) : Struck zs (rs.set k zs[q]) (k + 1) (q + 1) := by
  obtain ⟨h1, h2, h3, h4⟩ := h
  refine ⟨by simpa using h1, fun i h h' hi => ?_, by simpa using hq, ?_⟩
  · rw [List.getElem_set_ne (by omega)]
    exact h2 i h (by omega) (by omega)
  · rw [h4, cmpL_drop _ _ hq, if_neg hs, List.take_succ_eq_append_getElem (by simp; omega)]
    simp [List.take_set_of_le]
theorem struck_end {zs rs : List T3} {k : Nat} (h : Struck zs rs k zs.length) : onceL zs = rs.take k := by
  obtain ⟨h1, h2, h3, h4⟩ := h
  rw [h4, List.drop_length]; simp [cmpL]
theorem wpList_clear3 {P : Program} {w : World} {ops : Array Oper} {rest : List Oper} {o : Oper} {a : Act} {Q : Exit → Act → World → Prop} (hg : o.guard = none) (s : Operand) (t e : TypeId)
    (ho : o.op = .call { callee := .builtin .clear, args := #[s], argTypes := #[t] }) (z : Value) (ht : P.underlying t = some (.slice e)) (hv : ∀ w, (zeroValue e).run P w = .ok z w) (h1 : ∀ v ∈ z.cells, v.oneCell' = true) (b off n c : Nat)
    (hs : a.eval s = .slice (some ⟨b, off, none⟩) n c) (hc : ∀ j, j < n * z.cells.size → (w.cell? ⟨b, off + j, none⟩).isSome = true) (hf : ∀ j, j < n * z.cells.size → w.frozen? ⟨b, off + j, none⟩ = false)
    (h : ∀ vs, vs.length = n * z.cells.size → wpList P ops Q rest (a.put o.dst (.tuple #[])) (w.setCells b off vs)) : wpList P ops Q (o :: rest) a w := by
  refine wpList_plain hg fun K hK => ?_
  obtain ⟨vs, hl, hr⟩ := run_clear3 (P := P) w t e o.type z ht hv h1 b off n c hc hf
  unfold Oper.wp execOp
  simp only [ho, resolve, invoke, builtin, Sem.run_bind, Sem.run_pure, Result.andThen_ok, List.map_toArray, List.map_cons, List.map_nil, hs, hr]
  exact hK _ _ (h vs hl)
set_option maxHeartbeats 3000000 in
set_option maxRecDepth 100000 in
theorem compact_c (base : Nat) (v : Value) (zs : List T3) (w : World) (hO : Own eT3 base 49 w v zs) (hl : zs.length ≤ 4294967296) (hb : base ≤ w.heap.size) :
    Calls Tryd.prog 46 #[v, .func (.func 47) #[] #[]] w fun e w' => ∃ A c, e = .returned (.slice A (onceL zs).length c) ∧ SlA eT3 w' A (onceL zs) ∧ Below base w w' := by
  have hB : Below base w w := ⟨rfl, rfl, rfl, Nat.le_refl _, fun _ _ => rfl⟩
  by_cases h2 : zs.length < 2
  · have HE : Hid (onceL zs = zs) := by
      show onceL zs = zs
      cases zs with
      | nil => rfl
      | cons p zs =>
        have : zs = [] := List.eq_nil_of_length_eq_zero (by simp at h2; omega)
        subst this; rfl
    obtain ⟨A, c, rfl, h3, h4, hs⟩ := hO.slv
    have h2' : (zs.length : Int) < 2 := by omega
    go_enter Tryd.func46, Tryd.ntmps46
    go_wp2
    go_ret
    exact ⟨A, c, by rw [HE.out]; rfl, by rw [HE.out]; exact hs, hB⟩
  · obtain ⟨g, cap, rfl, hbg, hgl, hnc, hcm, cur, hcur⟩ := hO.form (by omega)
    simp only [maxLen] at hcm
    have hcm' : cap ≤ 9223372036854775807 := hcm
    have h2' : ¬ (zs.length : Int) < 2 := by omega
    clear cur hcur
    go_enter Tryd.func46, Tryd.ntmps46
    go_wp2
    go_loopw [5] (fun s wr => ∃ j : Nat, j < zs.length ∧ s = .int .i64 (j + 1) ∧ Hid (∃ h : j < zs.length, onceL zs = zs.take (j + 1) ++ cmpL zs[j] (zs.drop (j + 1))) ∧ Below w.heap.size w wr) (fun s _ => zs.length - (intOf s).toNat)
    case atStart => exact ⟨0, by omega, rfl, ⟨by omega, once_all (by omega)⟩, Bel⟩
    case round =>
      obtain ⟨j, hj, rfl, HJ, hbr⟩ := hrel
      have hO1 := hO.below hbr
      by_cases hlt : j + 1 < zs.length
      · obtain ⟨_, c1, c2, c3⟩ := hO1.cells3 j (by omega)
        obtain ⟨_, d1, d2, d3⟩ := hO1.cells3 (j + 1) hlt
        have hj0 : 0 ≤ (j : Int) + 1 := by omega
        have hj1 : (j : Int) + 1 < zs.length := by omega
        have hjl : (j : Int) < zs.length := by omega
        have ht1 : ((j : Int) + 1).toNat = j + 1 := by omega
        have hwj : IntKind.i64.wrap (j : Int) = j := IntWalk.i64_in _ (by omega)
        cases hq : decide (cmpT zs[j + 1] zs[j] = 0)
        all_goals
          have HQ := Lib.hid hq
          have HS : Hid (decide (cmpT zs[j + 1] zs[j] = 0) = true ↔ SameS zs[j + 1] zs[j]) := by show _ ↔ _; rw [decide_eq_true_iff]; exact cmpT_zero
          clear hq
          go_wp2_with fail
          refine region_seqP [(0, true), (1, true), (2, true), (3, true), (4, true), (5, true), (6, true), (7, true), (8, true), (9, true), (10, false)] (by kernel_rfl) (by kernel_rfl) ?_
          intro W hW
          obtain ⟨hcW, hzW⟩ := bcell hW
          repeat (first
            | (refine seq_q rfl (fun K hK => ?_); unfold takeQ; go_simp; refine hK _ ?_; clear hK K)
            | (refine seq_t rfl (fun K hK => ?_); go_simp; go_at_call 47; refine (neq_c zs[j + 1] zs[j] _).mono ?_; rintro e w3 ⟨rfl, hb3⟩; rw [HQ.out]; go_simp; refine hK _ _ (.of Bel) ?_; clear hK K))
          refine seq_nil ?_
          rw [noP_normal]
        · go_wp2
          exact ⟨⟨j + 1, hlt, by go_num, ⟨hlt, once_next hlt HJ.out.2 (fun h => by have := HS.out.2 h; rw [HQ.out] at this; cases this)⟩, Bel⟩, by simp [intOf]; omega⟩
        · have HD : Hid (Struck zs zs (j + 1) (j + 1 + 1)) := ⟨rfl, fun _ _ _ _ => rfl, hlt, once_dup hlt HJ.out.2 (HS.out.1 HQ.out)⟩
          have hbw3 : Below w.heap.size w w3 := Bel
          have hO3 := hO.below hbw3
          have hcj : ¬ cap = j + 1 := by omega
          have hcj2 : (j : Int) + 1 ≤ cap := by omega
          clear c1 c2 c3 d1 d2 d3 HQ HS HJ
          go_wp2
          go_loopw [5, 7] (fun s5 s7 wr => ∃ (k i : Nat) (rs : List T3), s5 = .int .i64 k ∧ s7 = .int .i64 (i + 1) ∧ k < j + 1 + (i + 1) ∧ j + 1 + (i + 1) ≤ zs.length ∧ Own eT3 base 49 wr (.slice (some ⟨g, 0, none⟩) rs.length cap) rs ∧ Hid (Struck zs rs k (j + 1 + (i + 1))) ∧ Below base w wr) (fun _ s7 _ => zs.length - (intOf s7).toNat)
          case atStart => exact ⟨j + 1, 0, zs, by simp, rfl, by omega, by omega, hO3, HD.out, hbw3.mono hb⟩
          case round =>
            obtain ⟨k, i, rs, rfl, rfl, hk, hi, HO, HT, hbw⟩ := hrel
            have hrl : rs.length = zs.length := HT.out.1
            have hgw : g < wr.heap.size := Nat.lt_of_lt_of_le hgl hbw.size
            have hbb : base ≤ wr.heap.size := by omega
            by_cases hlt2 : j + 1 + (i + 1) < zs.length
            · have hz1 : j + 1 + i < zs.length := by clear hrl; omega
              have hz2 : j + 1 + (i + 1) < zs.length := hlt2
              have hr1 : j + 1 + i < rs.length := by omega
              have hr2 : j + 1 + (i + 1) < rs.length := by omega
              obtain ⟨_, c1, c2, c3⟩ := HO.cells3 (j + 1 + i) hr1
              obtain ⟨_, d1, d2, d3⟩ := HO.cells3 (j + 1 + (i + 1)) hr2
              have ec : rs[j + 1 + i] = zs[j + 1 + i] := HT.out.2.1 _ hz1 hr1 (by omega)
              have ed : rs[j + 1 + (i + 1)] = zs[j + 1 + (i + 1)] := HT.out.2.1 _ hz2 hr2 (by omega)
              rw [ec] at c1 c2 c3
              rw [ed] at d1 d2 d3
              obtain ⟨x, hx⟩ : ∃ x, zs[j + 1 + i] = x := ⟨_, rfl⟩
              obtain ⟨y, hy⟩ : ∃ y, zs[j + 1 + (i + 1)] = y := ⟨_, rfl⟩
              rw [hx] at c1 c2 c3
              rw [hy] at d1 d2 d3
              rw [show (j + 1 + i) * 3 = (j + 1) * 3 + i * 3 by omega] at c1 c2 c3
              rw [show (j + 1 + (i + 1)) * 3 = (j + 1) * 3 + (i + 1) * 3 by omega] at d1 d2 d3
              have hX := Lib.hid hx; have hY := Lib.hid hy; have HRL := Lib.hid hrl
              have hkr : k < rs.length := by omega
              clear ec ed hx hy hr1 hr2
              have hi0 : 0 ≤ (i : Int) + 1 := by omega
              have hi1 : (i : Int) + 1 < ((zs.length - (j + 1) : Nat) : Int) := by omega
              have hi2 : (i : Int) < ((zs.length - (j + 1) : Nat) : Int) := by omega
              have hti : ((i : Int) + 1).toNat = i + 1 := by omega
              have hwi : IntKind.i64.wrap (i : Int) = i := IntWalk.i64_in _ (by omega)
              have hk0 : (k : Int) < zs.length := by omega
              clear hrl
              cases hq : decide (cmpT y x = 0)
              all_goals
                have HQ := Lib.hid hq
                have HS : Hid (decide (cmpT y x = 0) = true ↔ SameS y x) := by show _ ↔ _; rw [decide_eq_true_iff]; exact cmpT_zero
                clear hq
                go_wp2_with fail
                refine region_seqP [(0, true), (1, true), (2, true), (3, true), (4, true), (5, true), (6, true), (7, true), (8, true), (9, true), (10, false), (11, true)] (by kernel_rfl) (by kernel_rfl) ?_
                intro W hW
                obtain ⟨hcW, hzW⟩ := bcell hW
                repeat (first
                  | (refine seq_q rfl (fun K hK => ?_); unfold takeQ; go_simp; refine hK _ ?_; clear hK K)
                  | (refine seq_t rfl (fun K hK => ?_); go_simp; go_at_call 47; refine (neq_c y x _).mono ?_; rintro e w4 ⟨rfl, hb4⟩; rw [HQ.out]; go_simp; refine hK _ _ (.of Bel) ?_; clear hK K))
                refine seq_nil ?_
                rw [noP_normal]
                have hbr4 : Below wr.heap.size wr w4 := Bel
                have hbw4 : Below base w w4 := hbw.trans (hbr4.mono hbb)
                have HO4 := HO.below hbr4
                have hnS : Hid (SameS y x ↔ decide (cmpT y x = 0) = true) := HS.out.symm
              · obtain ⟨_, d1', d2', d3'⟩ := HO4.cells3 (j + 1 + (i + 1)) (by rw [HRL.out]; exact hz2)
                obtain ⟨hg4, e1, e2, e3⟩ := HO4.cells3 k hkr
                have HX2 : rs[j + 1 + (i + 1)]'(by rw [HRL.out]; exact hz2) = y := (HT.out.2.1 _ hz2 _ (by omega)).trans hY.out
                rw [HX2] at d1' d2' d3'
                rw [show (j + 1 + (i + 1)) * 3 = (j + 1) * 3 + (i + 1) * 3 by omega] at d1' d2' d3'
                have f1 := World.ownsRow.frozenAt HO4 (k * 3)
                have f2 := World.ownsRow.frozenAt HO4 (k * 3 + 1)
                have f3 := World.ownsRow.frozenAt HO4 (k * 3 + 2)
                have hP := HO4.put3 k hkr y
                clear d1 d2 d3 c1 c2 c3
                go_wp2
                have HN : Hid (Struck zs (rs.set k y) (k + 1) (j + 1 + (i + 1) + 1)) := by
                  have h := struck_lay hz2 (by omega) hk HT.out (fun h => by
                    have e : zs[j + 1 + (i + 1) - 1]'(by omega) = x := hX.out
                    rw [hY.out, e] at h
                    have := HS.out.2 h; rw [HQ.out] at this; cases this)
                  rwa [hY.out] at h
                exact ⟨⟨k + 1, i + 1, rs.set k y, by simp, by go_num, by omega, by omega, by rw [List.length_set]; exact hP.1, HN, hbw4.grown hP.2 (Nat.le_trans hb hbw4.size) (fun q e => by injection e with e; omega)⟩, by simp [intOf]; omega⟩
              · have HN := struck_same hz2 (by omega) HT.out (by rw [hY.out]; have e : zs[j + 1 + (i + 1) - 1]'(by omega) = x := hX.out; rw [e]; exact HS.out.1 HQ.out)
                go_wp2
                exact ⟨⟨k, i + 1, rs, rfl, by go_num, by omega, by omega, HO4, HN, hbw4⟩, by simp [intOf]; omega⟩
            · have hqe : zs.length = j + 1 + (i + 1) := by omega
              have HE : Hid (onceL zs = rs.take k) := by
                have h := HT.out
                rw [← hqe] at h
                exact struck_end h
              have hkr : k ≤ rs.length := by omega
              have hlen : Hid ((rs.take k).length = k) := by show _ = _; rw [List.length_take]; omega
              have HRL := Lib.hid hrl; have HQE := Lib.hid hqe
              have hi1 : ¬ (i : Int) + 1 < ((zs.length - (j + 1) : Nat) : Int) := by omega
              have hk1 : (k : Int) ≤ zs.length := by omega
              have hk2 : (k : Int) ≤ cap := by omega
              have hk3 : k ≤ zs.length := by omega
              have hsA : SlA eT3 wr (some ⟨g, 0, none⟩) rs := by
                obtain ⟨A', c', hv, _, _, hsA⟩ := HO.slv
                injection hv with hv1 hv2 hv3
                rw [hv1]; exact hsA
              have hcells : ∀ q, q < zs.length * 3 → (wr.cell? ⟨g, q, none⟩).isSome = true ∧ wr.frozen? ⟨g, q, none⟩ = false := fun q hq => by
                refine ⟨?_, World.ownsRow.frozenAt HO q⟩
                have h := World.ownsRow.cellAt HO q (by rw [HRL.out]; exact hq)
                rw [h, List.getElem?_eq_getElem (by rw [HO.1, HRL.out]; exact hq)]; rfl
              have HC := Lib.hid hcells
              clear hrl hqe hcells
              have hnz : (zs.length - k) * 3 + k * 3 = zs.length * 3 := by omega
              have hzv : ∀ W, (zeroValue 49).run Tryd.prog W = .ok (.agg #[.string .empty, .string .empty, .int .i64 0]) W := fun W => Tryd.zeroValue49 W
              have hone : ∀ v ∈ (Value.agg #[.string .empty, .string .empty, .int .i64 0]).cells, v.oneCell' = true := by
                intro v hv; simp [Value.cells] at hv; rcases hv with rfl | rfl | rfl <;> rfl
              have hcl : ∃ vs off, (rs.take k).length * 3 ≤ off ∧ ∀ ty, (Builtin.clear_ #[22] ty #[.slice (some (if cap = k then ⟨g, 0, none⟩ else ⟨g, k * 3, none⟩)) (zs.length - k) (cap - k)]).run Tryd.prog wr = .ok (.tuple #[]) (wr.setCells g off vs) := by
                by_cases hck : cap = k
                · refine ⟨[], k * 3, by rw [hlen.out]; exact Nat.le_refl _, fun ty => ?_⟩
                  rw [if_pos hck, show zs.length - k = 0 by omega]
                  simp [Builtin.clear_, run_underlying Tryd.underlying22, World.setCells]
                · rw [if_neg hck]
                  have h := fun ty => run_clear3 (P := Tryd.prog) wr 22 49 ty _ Tryd.underlying22 hzv hone g (k * 3) (zs.length - k) (cap - k) (fun q hq => (HC.out (k * 3 + q) (by have hq : q < (zs.length - k) * 3 := hq; omega)).1) (fun q hq => (HC.out (k * 3 + q) (by have hq : q < (zs.length - k) * 3 := hq; omega)).2)
                  obtain ⟨vs, hvs, hr⟩ := h 0
                  refine ⟨vs, k * 3, by rw [hlen.out]; exact Nat.le_refl _, fun ty => ?_⟩
                  rw [← hr]; rfl
              obtain ⟨vs, off, hoff, hcl⟩ := hcl
              clear hzv hone
              have hfin : ∀ W', W' = wr.setCells g off vs → ∃ A c, Ending.returned (.slice (some ⟨g, 0, none⟩) k cap) = .returned (.slice A (onceL zs).length c) ∧ SlA eT3 W' A (onceL zs) ∧ Below base w W' := by
                rintro W' rfl
                exact ⟨some ⟨g, 0, none⟩, cap, by rw [HE.out, hlen.out], by rw [HE.out]; exact (SlA.take hsA k).cleared hoff vs, hbw.grown (grown_setCells g vs off wr) (Nat.le_trans hb hbw.size) (fun q e => by injection e with e; omega)⟩
              by_cases hck : cap = k
              · subst hck
                rw [if_pos rfl, Nat.sub_self, show zs.length - cap = 0 by omega] at hcl
                go_wp2
                go_ret
                obtain ⟨A', c', h1, h2, h3⟩ := hfin _ rfl
                exact ⟨A', ⟨c', h1⟩, h2, h3⟩
              · rw [if_neg hck] at hcl
                go_wp2
                go_ret
                obtain ⟨A', c', h1, h2, h3⟩ := hfin _ rfl
                exact ⟨A', ⟨c', h1⟩, h2, h3⟩
      · have HE : Hid (onceL zs = zs) := by
          show onceL zs = zs
          obtain ⟨hjj, HJ2⟩ := HJ.out
          refine HJ2.trans ?_
          rw [List.take_of_length_le (by omega), List.drop_of_length_le (by omega)]; simp [cmpL]
        have hsA : SlA eT3 wr (some ⟨g, 0, none⟩) zs := by
          obtain ⟨A', c', hv, _, _, hsA⟩ := hO1.slv
          injection hv with hv1 hv2 hv3
          rw [hv1]; exact hsA
        go_wp2
        go_ret
        exact ⟨some ⟨g, 0, none⟩, cap, by rw [HE.out]; rfl, by rw [HE.out]; exact hsA, hbr.mono hb⟩
end
end
section
section
open Go Go.RowKit Go.Shelf
open Go.Sort (SWO HoldsK PermIn SortedIn flatK grow)
theorem sorted_block {α : Type} [Inhabited α] (enc : α → List Value) (k : Nat) (w : World) (g off n : Nat) (d : Array α) (os : Array Obj) (cur : Array Value) (e : TypeId) (fr : Nat × Nat) (h : w.heap[g]? = some (.cells cur e fr)) :
    (sortWorldK enc k w g off n d os).heap[g]? = some (.cells (Go.Sort.putCells id off (flatK enc k d) cur) e fr) := by
  obtain ⟨hlt, hh⟩ := Array.getElem?_eq_some_iff.1 h
  show ((Go.Sort.putRowK enc k (Go.Sort.ahead w n) g off d).heap ++ os)[g]? = _
  rw [Array.getElem?_append, if_pos (by simpa [Go.Sort.putRowK, Go.Sort.putRow, Go.Sort.mapBlock, Go.Sort.ahead] using hlt)]
  simp [Go.Sort.putRowK, Go.Sort.putRow, Go.Sort.mapBlock, Array.getElem?_modify, Go.Sort.ahead, h, Go.Sort.onCells]
/-- A row's block, and its cells: the row is owned. -/
theorem own_of {α : Type} {E : Enc α} {base : Nat} {e : TypeId} {w : World} {g cap : Nat} {ys : List α} {cur : Array Value} (hb : base ≤ g) (hg : w.heap[g]? = some (.cells cur e (0, 0))) (h1 : ys.length ≤ cap) (h2 : cap ≤ maxLen) (hs : cur.size = cap * E.k)
    (hc : ∀ j, j < ys.length * E.k → w.cell? ⟨g, j, none⟩ = (ys.flatMap E.e)[j]?) : Own E base e w (.slice (some ⟨g, 0, none⟩) ys.length cap) ys := by
  have hfl : (ys.flatMap E.e).length = ys.length * E.k := by
    induction ys with
    | nil => simp
    | cons y l ih => 
      have : ∀ l : List α, (l.flatMap E.e).length = l.length * E.k := fun l => by
        induction l with
        | nil => simp
        | cons y l ih => simp only [List.flatMap_cons, List.length_append, E.len, ih, List.length_cons, Nat.add_mul]; omega
      exact this _
  refine ⟨hfl, .inr ⟨g, cap, cur, rfl, hb, hg, h1, h2, hs, ?_⟩⟩
  have hle : ys.length * E.k ≤ cur.size := by rw [hs]; exact Nat.mul_le_mul_right _ h1
  refine List.ext_getElem? fun j => ?_
  rw [List.getElem?_take]
  by_cases hj : j < ys.length * E.k
  · rw [if_pos hj, ← hc j hj]
    unfold World.cell?
    simp only [hg]
    simp
  · rw [if_neg hj, List.getElem?_eq_none (by omega)]
theorem sort_own {P : Program} {ρ : Ren} {α : Type} [Inhabited α] {E : Enc α} {base : Nat} {e : TypeId} (L : SlLaysF0.n6 P ρ) (aE : ∀ w, (isAgg (ρ.t 24)).run P w = .ok true w) (zE : ∀ w, (Go.sizeOf (ρ.t 24)).run P w = .ok E.k w)
    (cf : α → α → Int) (hO : SWO (ltOf cf)) (F : Nat) (eg : ∀ args w, (callFunc F args).run P w = .ok (.enter F args) w) (hcmp : ∀ x y W, Calls P F #[.agg (E.e x).toArray, .agg (E.e y).toArray] W (RetG W (.int .i64 (cf x y))))
    (w : World) (v : Value) (xs : List α) (hown : Own E base e w v xs) (hm : xs.length < 4611686018427387904) :
    Calls P (ρ.f 6) #[v, .func (.func F) #[] #[]] w fun e' w' => e' = .returned (.tuple #[]) ∧ ∃ ys, ys.Perm xs ∧ ys.Pairwise (fun x y => ltOf cf y x = false) ∧ Own E base e w' v ys ∧ w.grownBy w' v.ownBlock := by
  have hh := hown
  rcases hown.2 with ⟨rfl, h0⟩ | ⟨g, cap, cur, rfl, hb, hg, h1, h2, hcs, _⟩
  · obtain rfl : xs = [] := List.eq_nil_of_length_eq_zero h0
    refine (AnyF.slices_SortFunc_none L none 0 _ w).mono ?_
    rintro e' w' ⟨rfl, rfl⟩
    exact ⟨rfl, [], List.Perm.refl _, List.Pairwise.nil, Own.nil _, ⟨rfl, rfl, rfl, Nat.le_refl _, fun _ _ _ => rfl⟩⟩
  · have hlt : g < w.heap.size := (Array.getElem?_eq_some_iff.1 hg).1
    refine (AnyQ.slices_SortFunc L E.k aE zE E.e E.len E.one cf hO F #[] g 0 cap xs.toArray w eg (fun m os dk _ x y => ?_) (own_holds hh) hlt (by simpa using hm)).mono ?_
    · refine (hcmp x y _).mono ?_
      rintro e' w' ⟨h1, h2⟩
      exact ⟨h1, h2⟩
    · rintro e' w' ⟨rfl, d', n, os, hp, hs, rfl⟩
      have hps : d'.size = xs.length := by simpa using hp.1
      refine ⟨rfl, d'.toList, ?_, ?_, ?_, sorted_grown E w g n d' os⟩
      · have h3 := hp.2.2
        rwa [Array.extract_eq_self_of_le (by rw [hp.1]; exact Nat.le_refl _), Array.extract_eq_self_of_le (Nat.le_refl _)] at h3
      · rw [List.pairwise_iff_getElem]
        intro i j hi hj hij
        have h4 := hs i j (Nat.zero_le _) hij (by simpa [hps] using hj)
        rw [getElem!_pos d' j (by simpa using hj), getElem!_pos d' i (by simpa using hi)] at h4
        simpa using h4
      · have hbk := sorted_block E.e E.k w g 0 n d' os cur e (0, 0) hg
        have hlen : d'.toList.length = xs.length := by simpa using hps
        have ho := own_of (E := E) (ys := d'.toList) (cap := cap) hb hbk (by omega) h2 (by simpa [Go.Sort.putCells] using hcs) (fun j hj => by
          have hH := holdsK_sortWorldK E.e E.k w g 0 n xs.toArray d' os hlt (own_holds hh) (by simpa using hp.1)
          have h5 := (hH j (by simpa using hj)).1
          have h9 := flatK_list E d'.toList j hj
          simp only [Array.toArray_toList] at h9
          have h7 : j < (d'.toList.flatMap E.e).length := by
            have hfl : ∀ l : List α, (l.flatMap E.e).length = l.length * E.k := fun l => by
              induction l with
              | nil => simp
              | cons y l ih => simp only [List.flatMap_cons, List.length_append, E.len, ih, List.length_cons, Nat.add_mul]; omega
            rw [hfl]; exact hj
          rw [h9, getElem!_pos (d'.toList.flatMap E.e) _ h7, Nat.zero_add] at h5
          rw [List.getElem?_eq_getElem h7]
          exact h5)
        rwa [hlen] at ho
end
section
open Go Go.RowKit Go.Shelf
attribute [local go_sem] Oper.semAt_some
/-- A three-celled value. -/
def v3 (x : T3) : Value := .agg #[.string x.f, .string x.t, .int .i64 x.n]
set_option maxRecDepth 100000 in
set_option maxHeartbeats 1000000 in
theorem values1_in (n : Nat) (hn : 1 ≤ n) (l Bn : Nat) (A : Option Addr) (c : Nat) (xs : List T3) (w0 : World) (hs : SlA eT3 w0 A xs) (hm : Small xs) (J Jx : List T3 → World → Prop) (W : World)
    (hJ : AbidesFrom W.heap.size J)
    (hY : ∀ pre x W1, J pre W1 → pre.length < xs.length → YieldAt Fence.wide (n - 1) Tryd.prog l #[.agg #[.string x.f, .string x.t, .int .i64 x.n]] W1 fun e W' =>
      (e = .returned (.bool true) ∧ J (pre ++ [x]) W' ∧ Below w0.heap.size W1 W') ∨ (e = .returned (.bool false) ∧ Jx (pre ++ [x]) W'))
    (hb0 : Below w0.heap.size w0 W) (hBn : W.cell? ⟨Bn, 0, none⟩ = some (.slice A xs.length c)) (h0 : J [] W) :
    CallsIn Fence.wide n Tryd.prog 71 #[.func (.yield l) #[] #[], .pointer (some ⟨Bn, 0, none⟩)] W fun e W' => (∃ v, e = .returned v) ∧
      ((∃ ys, ys = xs ∧ J ys W') ∨ (∃ pre, (∃ q, xs = pre ++ q) ∧ Jx pre W')) := by
  have hl := hm.1
  refine callsIn_of_wp Tryd.func71 rfl trivial ?_ rfl
  simp only [Tryd.ntmps71, List.size_toArray, List.length_cons, List.length_nil, Nat.reduceAdd, Nat.reduceSub, Array.replicate_succ, Array.replicate_zero, List.push_toArray, List.append_toArray, List.nil_append, List.cons_append]
  gi_wp2
  gi_loopw [7] (fun s wr => ∃ k : Nat, k ≤ xs.length ∧ s = .int .i64 k ∧ J (xs.take k) wr ∧ Below w0.heap.size w0 wr) (fun s _ => xs.length - (intOf s).toNat)
  case atStart => exact ⟨0, by omega, rfl, h0, hb0⟩
  case round =>
    obtain ⟨k, hk, rfl, hJp, hb⟩ := hrel
    by_cases hlt : k < xs.length
    · obtain ⟨b, o, rfl, hbs, p1, p2, p3⟩ := hs.n3 (fun _ => rfl) hb k hlt
      have het : xs.take (k + 1) = xs.take k ++ [xs[k]] := List.take_succ_eq_append_getElem hlt
      have HT := Lib.hid het
      have hlen : (xs.take k).length < xs.length := by simp; omega
      clear het
      have hb02 : Below w0.heap.size w0 (wr.alloc (.cells #[.string xs[k].f, .string xs[k].t, .int .i64 xs[k].n] 49)) := hb.alloc hb.size _
      have hg : wr.grownBy (wr.alloc (.cells #[.string xs[k].f, .string xs[k].t, .int .i64 xs[k].n] 49)) none := World.grownBy_alloc wr _ none
      obtain ⟨fn, tmps, assign, body, hy, hR⟩ := hY (xs.take k) xs[k] (wr.alloc (.cells #[.string xs[k].f, .string xs[k].t, .int .i64 xs[k].n] 49)) (hJ _ _ _ none hJp hg (fun r e => by cases e)) hlen
      gi_wp2
      refine hR.mono ?_
      rintro e W3 (⟨rfl, hJ3, hk3⟩ | ⟨rfl, hJx3⟩)
      · gi_wp2
        refine ⟨⟨k + 1, by omega, by go_num, by rw [HT.out]; exact hJ3, hb02.trans hk3⟩, by simp [intOf]; omega⟩
      · gi_wp2
        refine bodyPost_ret (results_none rfl _ _ _) rfl ?_
        refine ⟨⟨_, rfl⟩, .inr ⟨_, ⟨xs.drop (k + 1), ?_⟩, hJx3⟩⟩
        rw [← HT.out, List.take_append_drop]
    · gi_wp2
      go_end0
      refine ⟨⟨_, rfl⟩, .inl ⟨_, ?_, hJp⟩⟩
      exact List.take_of_length_le (by omega)
theorem values_stops (n : Nat) (hn : 1 ≤ n) (Bn : Nat) (A : Option Addr) (c : Nat) (xs : List T3) (w0 w : World) (hs : SlA eT3 w0 A xs) (hm : Small xs) (hb : Below w0.heap.size w0 w) (hBn : Bn < w.heap.size) (hc : w.cell? ⟨Bn, 0, none⟩ = some (.slice A xs.length c)) :
    SeqStopsK Fence.wide n Tryd.prog 71 #[.pointer (some ⟨Bn, 0, none⟩)] (fun x : T3 => #[.agg #[.string x.f, .string x.t, .int .i64 x.n]]) (Below w0.heap.size) (fun ys => ys = xs) (fun pre => ∃ q, xs = pre ++ q) xs.length w := fun l J Jx W hW hJ _ hY h0 =>
  values1_in n hn l Bn A c xs w0 hs hm J Jx W hJ hY (hb.trans (hW.mono hb.size)) ((hW.cell (p := ⟨Bn, 0, none⟩) hBn).trans hc) h0
set_option maxHeartbeats 1000000 in
/-- What 'Values' hands back: its argument is boxed. -/
theorem values_c (k c : Nat) (A : Option Addr) (w : World) : Calls Tryd.prog 42 #[.slice A k c] w fun e w' => e = .returned (.func (.func 71) #[] #[.pointer (some ⟨w.heap.size, 0, none⟩)]) ∧ w' = w.alloc (.cells #[.slice A k c] 22) := by
  go_enter Tryd.func42, Tryd.ntmps42
  go_wp2
  go_ret
  exact ⟨rfl, rfl⟩
theorem info_rule_parts : ∃ i, Tryd.prog.info? 49 = some i ∧ i.zero = some (.agg #[.string .empty, .string .empty, .int .i64 0]) ∧ i.size = 3 ∧ i.bytes = 40 := by
  obtain ⟨i, h1, h2⟩ := Option.map_eq_some_iff.1 info_rule
  simp only [Prod.mk.injEq] at h2
  exact ⟨i, h1, h2.1, h2.2.1, h2.2.2⟩
theorem cells_new (w : World) (x : T3) (t : TypeId) : ∀ j u, (eT3.e x)[j]? = some u → (w.alloc (.cells #[.string x.f, .string x.t, .int .i64 x.n] t)).cell? ((⟨w.heap.size, 0, none⟩ : Addr).add j) = some u := by
  intro j u hj
  have ha : (⟨w.heap.size, 0, none⟩ : Addr).add j = ⟨w.heap.size, j, none⟩ := by unfold Addr.add; split <;> simp_all
  rw [ha]
  have hh : (w.alloc (.cells #[.string x.f, .string x.t, .int .i64 x.n] t)).heap[w.heap.size]? = some (.cells #[.string x.f, .string x.t, .int .i64 x.n] t (0, 0)) := by
    show (w.heap.push _)[w.heap.size]? = _
    simp
  unfold World.cell?
  simp only [hh]
  rw [eT3_e] at hj
  simpa using hj
set_option maxRecDepth 100000 in
set_option maxHeartbeats 2000000 in
theorem appseq_c (Bn : Nat) (A : Option Addr) (c : Nat) (xs : List T3) (w : World) (hs : SlA eT3 w A xs) (hm : Small xs) (hBn : Bn < w.heap.size) (hc : w.cell? ⟨Bn, 0, none⟩ = some (.slice A xs.length c)) :
    Calls Tryd.prog 95 #[.slice none 0 0, .func (.func 71) #[] #[.pointer (some ⟨Bn, 0, none⟩)]] w fun e w' => ∃ v, e = .returned v ∧ Own eT3 w.heap.size 49 w' v xs ∧ Below w.heap.size w w' := by
  refine (callsIn_wide (n := 5)).1 ?_
  have hl := hm.1
  obtain ⟨i0, hi, hz0, hz1, hz2⟩ := info_rule_parts
  refine callsIn_of_wp_marks Tryd.func95 rfl trivial ?_ rfl
  simp only [Tryd.ntmps95, List.size_toArray, List.length_cons, List.length_nil, Nat.reduceAdd, Nat.reduceSub, Array.replicate_succ, Array.replicate_zero, List.push_toArray, List.append_toArray, List.nil_append, List.cons_append]
  gi_wp2
  have bS := Boxed.new w 22 (.slice none 0 0)
  have hB0 : Below w.heap.size w (w.alloc (.cells #[.slice none 0 0] 22)) := Bel
  refine wpIn_rangeFunc_ownH rfl (by omega) (gf := 71) (lb := #[.pointer (some ⟨Bn, 0, none⟩)]) rfl trivial (enters_of Tryd.func71 (by kernel_rfl) rfl)
    (values_stops (5 - 1) (by omega) Bn A c xs w _ hs hm hB0 (Nat.lt_of_lt_of_le hBn hB0.size) ((hB0.cell (p := ⟨Bn, 0, none⟩) hBn).trans hc)) belowK_t (belowK_b hB0.size) (Below.refl _ _) (fun _ => rfl)
    (fun pre W => (∃ v, Boxed W w.heap.size 22 v ∧ W.ownsRow w.heap.size 49 3 v pre.length (pre.flatMap eT3.e) ∧ True) ∧ Below w.heap.size w W)
    (fun _ _ _ => False)
    (OwnFrom.and (Own.from (holdsRow_own w.heap.size w.heap.size 22 49 3 (fun pre : List T3 => pre.length) (fun pre => pre.flatMap eT3.e) (fun _ _ => True)) _) (ownFrom_below (Nat.le_refl _) hB0.size))
    (fun _ _ _ _ _ hs _ _ => hs)
    ⟨⟨_, bS, World.ownsRow_nil _ _ _ _, trivial⟩, hB0⟩
    (fun x a' W => ∃ Bx, w.heap.size < Bx ∧ W.heap[Bx]? = some (.cells #[.string x.f, .string x.t, .int .i64 x.n] 49 (0, 0)) ∧ a' = { tmps := #[.slice none 0 0, .func (.func 71) #[] #[.pointer (some ⟨Bn, 0, none⟩)], .pointer (some ⟨w.heap.size, 0, none⟩), undef, .slice none 0 0, .pointer (some ⟨Bx, 0, none⟩), .func (.func 71) #[] #[.pointer (some ⟨Bn, 0, none⟩)], .agg #[.string x.f, .string x.t, .int .i64 x.n], undef, undef, undef, undef, undef], defers := [] })
    (fun x a' _ X Y row hs hg hr => by
      obtain ⟨Bx, h1, h2, h3⟩ := hs
      refine ⟨Bx, h1, (hg.block Bx (Array.getElem?_eq_some_iff.1 h2).1 (fun e => ?_)).trans h2, h3⟩
      obtain ⟨_, o, ho, hc⟩ := hr Bx e.symm
      rw [h2] at ho; cases ho; cases hc)
    ?assign ?body ?done ?stop
  case assign =>
    rintro l pre x W K ⟨⟨v, bS1, hr1, _⟩, hB1⟩ hK
    gi_wp2
    refine hK _ _ ((KeepsOthers.alloc _ _).from _) ((Below.refl _ W).alloc hB1.size _) ⟨⟨v, bS1.alloc _, hr1.alloc _, trivial⟩, hB1.alloc hB1.size _⟩ ⟨W.heap.size, bS1.lt, ?_, rfl⟩
    show (W.heap.push _)[W.heap.size]? = _
    simp
  case body =>
    rintro l pre x a' W hl' ⟨r, hr⟩ ⟨⟨v, hv, hrow, _⟩, hB⟩ ⟨Bx, hBx, hX, rfl⟩ hlt
    have hvc := hv.cell
    have hvf := hv.frozen
    have x0 : W.cell? ⟨Bx, 0, none⟩ = some (.string x.f) := by unfold World.cell?; simp only [hX]; rfl
    have x1 : W.cell? ⟨Bx, 1, none⟩ = some (.string x.t) := by unfold World.cell?; simp only [hX]; rfl
    have x2 : W.cell? ⟨Bx, 2, none⟩ = some (.int .i64 x.n) := by unfold World.cell?; simp only [hX]; rfl
    have hlx : pre.length < 1048576 := by omega
    gi_wp2_with (gi_at_builtin; refine wpListIn_append_own _ rfl _ _ 22 rfl w.heap.size 49 i0 (.agg #[.string .empty, .string .empty, .int .i64 0]) 3 40 Tryd.underlying22 hi hz0 hz1 hz2 rfl (by decide) v pre.length _ rfl (hrow.alloc _) ⟨W.heap.size, 0, none⟩ 1 1 (eT3.e x) rfl rfl (cells_new W x _) (eT3.one x) (by simp only [maxLen]; omega) (by omega) (by have := hB.size; simp; omega) ?_; intro v' w1 hown' hgrow _; obtain ⟨g', cap', rfl⟩ := ownsRow_succ hown'; obtain ⟨hv1, hv2, hr2, hk2, hb2⟩ := hv.appended (by decide) hrow hB.size (Nat.le_refl _) hown' hgrow; have hc1 := hv1.cell; have hf1 := hv1.frozen)
    refine ⟨hk2.from _, hb2, ⟨⟨_, hv2, ?_, trivial⟩, hB.trans hb2⟩⟩
    simpa using hr2
  case done =>
    rintro D ys W hD rfl ⟨⟨v, hv, hrow, _⟩, hB⟩ hK
    have hvc := hv.cell
    gi_wp2
    refine ⟨by simp, .inl ⟨_, _, rfl, run_takeDeferred hK, ?_⟩⟩
    refine ⟨v, ?_, v, rfl, ownsRow_putObj hrow _ hK rfl, hB.trans (belowK_b (w := w) (Nat.le_refl _) W D _ _ (by simp at hD; omega) hK rfl rfl)⟩
    simp [results, Tryd.f95, go_sem]
  case stop =>
    rintro D c pre W _ _ h _
    exact h.elim
theorem Own.nil_or {base : Nat} {e : TypeId} {w : World} {v : Value} {xs : List T3} (h : Own eT3 base e w v xs) : ∀ k, v.ownBlock = some k → base ≤ k := h.ge
set_option maxRecDepth 100000 in
set_option maxHeartbeats 1000000 in
theorem collect_c (Bn : Nat) (A : Option Addr) (c : Nat) (xs : List T3) (w : World) (hs : SlA eT3 w A xs) (hm : Small xs) (hBn : Bn < w.heap.size) (hc : w.cell? ⟨Bn, 0, none⟩ = some (.slice A xs.length c)) :
    Calls Tryd.prog 69 #[.func (.func 71) #[] #[.pointer (some ⟨Bn, 0, none⟩)]] w fun e w' => ∃ v, e = .returned v ∧ Own eT3 w.heap.size 49 w' v xs ∧ Below w.heap.size w w' := by
  go_enter Tryd.func69, Tryd.ntmps69
  go_wp2_with (go_at_call 95; refine (appseq_c Bn A c xs _ hs hm hBn hc).mono ?_; rintro e w1 ⟨v, rfl, hO, hb1⟩)
  go_ret
  exact ⟨_, rfl, hO, hb1⟩
set_option maxRecDepth 100000 in
set_option maxHeartbeats 1000000 in
theorem sorted_c (Bn : Nat) (A : Option Addr) (c : Nat) (xs : List T3) (w : World) (hs : SlA eT3 w A xs) (hm : Small xs) (hBn : Bn < w.heap.size) (hc : w.cell? ⟨Bn, 0, none⟩ = some (.slice A xs.length c)) :
    Calls Tryd.prog 41 #[.func (.func 71) #[] #[.pointer (some ⟨Bn, 0, none⟩)], .func (.func 43) #[] #[]] w fun e w' => ∃ v zs, e = .returned v ∧ Own eT3 w.heap.size 49 w' v zs ∧ Below w.heap.size w w' ∧ zs.Perm xs ∧ zs.Pairwise fun x y => ltOf cmpN y x = false := by
  have hl := hm.1
  go_enter Tryd.func41, Tryd.ntmps41
  go_wp2_with fail
  refine (collect_c Bn A c xs _ hs hm hBn hc).mono ?_
  rintro e w1 ⟨v, rfl, hO, hb1⟩
  go_wp2_with fail
  refine (sort_own (E := eT3) Tryd.sortRules Tryd.isAgg49 Tryd.sizeOf49 cmpN swoN 43 (enters_of Tryd.func43 (by kernel_rfl) rfl) (fun x y W => ncmp_g x y W) _ v xs hO (by omega)).mono ?_
  rintro e w2 ⟨rfl, zs, hp, hsd, hO2, hg⟩
  have hb2 : Below w.heap.size w w2 := hb1.grown hg hb1.size (fun k e => hO.ge k e)
  go_wp2
  go_ret
  exact ⟨_, zs, rfl, hO2, hb2, hp, hsd⟩
/-- A store into a box of one cell leaves rows of three-celled elements. -/
theorem SlA.box3 {w : World} {A : Option Addr} {xs : List T3} {B : Nat} {t : TypeId} {v : Value} (h : SlA eT3 w A xs) (hB : Boxed w B t v) (u : Value) : SlA eT3 (w.setCell ⟨B, 0, none⟩ u) A xs := fun j x hx => by
  obtain ⟨b, o, hA, hlt, hc⟩ := h j x hx
  have hne : b ≠ B := fun e => by
    subst e
    have h1 := hc 1 (.string x.t) rfl
    have hB' : w.heap[b]? = some (.cells #[v] t (0, 0)) := hB
    unfold World.cell? at h1
    simp only [hB'] at h1
    simp [eT3] at h1
  refine ⟨b, o, hA, by simpa using hlt, fun i u' hu => ?_⟩
  exact (World.cell?_of_block (Deep.blk_setCell_other w ⟨B, 0, none⟩ u b hne)).trans (hc i u' hu)
theorem SlA.putObj {α : Type} {E : Enc α} {w : World} {A : Option Addr} {xs : List α} {D : Nat} (h : SlA E w A xs) (hK : w.heap[D]? = some (.deferred (some []))) : SlA E (w.putObj D (.deferred none)) A xs := fun j x hx => by
  obtain ⟨b, o, hA, hlt, hc⟩ := h j x hx
  exact ⟨b, o, hA, Nat.lt_of_lt_of_le hlt (grownBy_putObj' w D (.deferred none)).size, fun i u hu => cell_kept (hc i u hu) (grownBy_putObj' w D (.deferred none)) (fun r e => by cases e; exact ⟨_, hK, rfl⟩)⟩
set_option maxRecDepth 100000 in
set_option maxHeartbeats 2000000 in
theorem norm_c (A : Option Addr) (c : Nat) (xs : List T3) (w : World) (hU : U w) (hs : SlA eT3 w A xs) (hm : Small xs) :
    Calls Tryd.prog 24 #[.slice A xs.length c] w (NrmPost w xs) := by
  refine (callsIn_wide (n := 5)).1 ?_
  have hl := hm.1
  refine callsIn_of_wp_marks Tryd.func24 rfl trivial ?_ rfl
  simp only [Tryd.ntmps24, List.size_toArray, List.length_cons, List.length_nil, Nat.reduceAdd, Nat.reduceSub, Array.replicate_succ, Array.replicate_zero, List.push_toArray, List.append_toArray, List.nil_append, List.cons_append]
  gi_wp2_with (refine ⟨trivial, ?_⟩; gi_at_call 40; refine (wrong_in _ _ _ _ _).mono ?_; rintro e w1 ⟨rfl, rfl⟩)
  have bR := Boxed.new w 22 (.slice none 0 0)
  have bE := Boxed.new (w.alloc (.cells #[.slice none 0 0] 22)) 27 (.int .i64 0)
  have bN := Boxed.new ((w.alloc (.cells #[.slice none 0 0] 22)).alloc (.cells #[.int .i64 0] 27)) 22 (.slice A xs.length c)
  rw [World.size_alloc] at bE
  rw [World.size_alloc, World.size_alloc] at bN
  have hB0 : Below w.heap.size w (((w.alloc (.cells #[.slice none 0 0] 22)).alloc (.cells #[.int .i64 0] 27)).alloc (.cells #[.slice A xs.length c] 22)) := Bel
  refine wpIn_rangeFunc_ownF rfl (by omega) (gf := 67) (lb := #[.pointer (some ⟨w.heap.size + 1 + 1, 0, none⟩)]) rfl trivial (enters_of Tryd.func67 (by kernel_rfl) rfl)
    (wrong_stops (5 - 1) (by omega) (w.heap.size + 1 + 1) A c xs w _ hU hs hm hB0 (by simp) bN.cell) belowK_t (belowK_b hB0.size) (Below.refl _ _) (fun _ => rfl)
    (fun pre W => pre = [] ∧ (Boxed W w.heap.size 22 (.slice none 0 0) ∧ Boxed W (w.heap.size + 1) 27 (.int .i64 0)) ∧ Below w.heap.size w W)
    (fun c pre W => (c = .ret ∧ ∃ e, pre = [e]) ∧ (Boxed W w.heap.size 22 (.slice none 0 0) ∧ Boxed W (w.heap.size + 1) 27 (.int .i64 (pre.headD 0))) ∧ Below w.heap.size w W)
    (OwnFrom.and (ownFrom_pure _ (fun pre => pre = [])) (OwnFrom.and (OwnFrom.and (Go.Own.from (boxed_own w.heap.size _ (fun _ => .slice none 0 0)) _) (Go.Own.from (boxed_own (w.heap.size + 1) _ (fun _ => .int .i64 0)) _)) (ownFrom_below (Nat.le_refl _) hB0.size)))
    (fun c => OwnFrom.and (ownFrom_pure _ (fun pre => c = .ret ∧ ∃ e, pre = [e])) (OwnFrom.and (OwnFrom.and (Go.Own.from (boxed_own w.heap.size _ (fun _ => .slice none 0 0)) _) (Go.Own.from (boxed_own (w.heap.size + 1) _ (fun pre : List Int => .int .i64 (pre.headD 0))) _)) (ownFrom_below (Nat.le_refl _) hB0.size)))
    ⟨rfl, ⟨(bR.alloc _).alloc _, bE.alloc _⟩, hB0⟩
    (fun x => { tmps := #[.slice A xs.length c, undef, .pointer (some ⟨w.heap.size, 0, none⟩), .pointer (some ⟨w.heap.size + 1, 0, none⟩), .int .i64 x, undef, .slice A xs.length c, .func (.func 67) #[] #[.pointer (some ⟨w.heap.size + 1 + 1, 0, none⟩)], .int .i64 x, undef, undef, undef, undef, undef, undef, undef, undef, undef, undef], defers := [] }) ?assign ?body ?done ?stop
  case assign =>
    intro l x W K hK
    gi_wp2
    exact hK
  case body =>
    rintro l pre x W ⟨rfl, ⟨hR, hE⟩, hb⟩ _
    have hc := hR.cell
    have hf := hR.frozen
    have hc2 := hE.cell
    have hf2 := hE.frozen
    gi_wp2
    exact ⟨(KeepsOthers.setCell _ _ _).trans (KeepsOthers.setCell _ _ _), ⟨rfl, x, rfl⟩, ⟨(hR.set _).other (by omega) _, (hE.other (by omega) _).set _⟩, (hb.setCell (p := ⟨w.heap.size, 0, none⟩) (Nat.le_refl _) _).setCell (p := ⟨w.heap.size + 1, 0, none⟩) (by simp) _⟩
  case done =>
    rintro D ys W hD rfl ⟨hnil, ⟨hR, hE⟩, hb⟩ hK
    have HI : Hid (allR xs = 0) := (allR_zero xs).2 hnil
    clear hnil bR bE bN hB0
    have HR := Lib.hid hR; have HK := Lib.hid hK; have HE := Lib.hid hE
    have hDW : D < W.heap.size := (Array.getElem?_eq_some_iff.1 hK).1
    have hRW : w.heap.size < W.heap.size := hR.lt
    have hEW : w.heap.size + 1 < W.heap.size := hE.lt
    have hD2 : w.heap.size + 1 + 1 + 1 ≤ D := by simp at hD; omega
    have hsW := hs.below hb
    clear hR hK hE
    gi_wp2_with fail
    refine ⟨trivial, ?_⟩
    refine (callsIn_wide.2 (values_c _ _ _ _)).mono ?_
    rintro e w1 ⟨rfl, rfl⟩
    have bN := Boxed.new W 22 (.slice A xs.length c)
    have hbN : Below W.heap.size W (W.alloc (.cells #[.slice A xs.length c] 22)) := Bel
    gi_wp2_with fail
    refine ⟨trivial, ?_⟩
    refine (callsIn_wide.2 (sorted_c W.heap.size A c xs _ (hsW.below hbN) hm (by simp) bN.cell)).mono ?_
    rintro e w2 ⟨v, zs, rfl, hO, hb2, hp, hsd⟩
    have hzl : zs.length = xs.length := hp.length_eq
    have HN := Lib.hid (nrm_once hp hsd)
    have hol := onceL_len zs
    have hb2' : Below W.heap.size W w2 := hbN.trans (hb2.mono hbN.size)
    have hbs := hb2.size
    clear hp hsd
    gi_wp2_with fail
    refine ⟨trivial, ?_⟩
    refine (callsIn_wide.2 (compact_c _ v zs w2 hO (by omega) hbs)).mono ?_
    rintro e w3 ⟨A3, c3, rfl, hs3, hb3⟩
    have hb3' : Below W.heap.size W w3 := hb2'.trans (hb3.mono hbN.size)
    have hrc := (hb3'.cell (p := ⟨w.heap.size, 0, none⟩) hRW).trans HR.out.cell
    have hrf := (hb3'.frozen (p := ⟨w.heap.size, 0, none⟩) hRW).trans HR.out.frozen
    have hec := (hb3'.cell (p := ⟨w.heap.size + 1, 0, none⟩) hEW).trans HE.out.cell
    have hef := (hb3'.frozen (p := ⟨w.heap.size + 1, 0, none⟩) hEW).trans HE.out.frozen
    have hR3 : Boxed w3 w.heap.size 22 (.slice none 0 0) := (hb3'.block _ hRW).trans HR.out
    have hE3 : Boxed w3 (w.heap.size + 1) 27 (.int .i64 0) := (hb3'.block _ hEW).trans HE.out
    have hK3 : w3.heap[D]? = some (.deferred (some [])) := (hb3'.block D hDW).trans HK.out
    have hbw3 : Below w.heap.size w w3 := hb.trans (hb3'.mono hb.size)
    have hend : ∀ (u : Value) (r : Int) W4, W4 = (w3.setCell ⟨w.heap.size, 0, none⟩ u).setCell ⟨w.heap.size + 1, 0, none⟩ (.int .i64 r) →
        Boxed W4 w.heap.size 22 u ∧ Boxed W4 (w.heap.size + 1) 27 (.int .i64 r) ∧ W4.heap[D]? = some (.deferred (some [])) ∧ Below w.heap.size w W4 ∧ SlA eT3 W4 A3 (onceL zs) := by
      rintro u r W4 rfl
      refine ⟨(hR3.set _).other (by omega) _, (hE3.other (by omega) _).set _, (heap_setCell_other _ _ D _ (by show D ≠ w.heap.size + 1; omega)).trans ((heap_setCell_other _ _ D _ (by show D ≠ w.heap.size; omega)).trans hK3), (hbw3.setCell (p := ⟨w.heap.size, 0, none⟩) (Nat.le_refl _) _).setCell (p := ⟨w.heap.size + 1, 0, none⟩) (by simp) _, ?_⟩
      exact (hs3.box3 hR3 _).box3 (hE3.other (by omega) _) _
    clear hR3 hE3
    by_cases h4 : 4096 < (onceL zs).length
    · gi_wp2
      obtain ⟨hR4, hE4, hK4, hb4, hs4⟩ := hend (.slice none 0 0) 6 _ rfl
      refine ⟨by simp, .inl ⟨_, _, rfl, run_takeDeferred hK4, ?_⟩⟩
      have hc5 := cell_kept hR4.cell (grownBy_putObj' _ D (.deferred none)) (fun r e => by cases e; exact ⟨_, hK4, rfl⟩)
      have hc6 := cell_kept hE4.cell (grownBy_putObj' _ D (.deferred none)) (fun r e => by cases e; exact ⟨_, hK4, rfl⟩)
      refine ⟨.tuple #[.slice none 0 0, .int .i64 6], ?_, none, 0, [], 6, rfl, SlA.nil, hb4.trans (belowK_b (w := w) (Nat.le_refl _) _ D _ _ (by omega) hK4 rfl rfl), by simp, .inr ⟨HI.out, _, HN.out, by omega, .inl ⟨h4, rfl, rfl⟩⟩⟩
      simp [results, Tryd.f24, go_sem, hc5, hc6]
    · gi_wp2
      obtain ⟨hR4, hE4, hK4, hb4, hs4⟩ := hend (.slice A3 (onceL zs).length c3) 0 _ rfl
      refine ⟨by simp, .inl ⟨_, _, rfl, run_takeDeferred hK4, ?_⟩⟩
      have hc5 := cell_kept hR4.cell (grownBy_putObj' _ D (.deferred none)) (fun r e => by cases e; exact ⟨_, hK4, rfl⟩)
      have hc6 := cell_kept hE4.cell (grownBy_putObj' _ D (.deferred none)) (fun r e => by cases e; exact ⟨_, hK4, rfl⟩)
      refine ⟨.tuple #[.slice A3 (onceL zs).length c3, .int .i64 0], ?_, A3, c3, onceL zs, 0, rfl, hs4.putObj hK4, hb4.trans (belowK_b (w := w) (Nat.le_refl _) _ D _ _ (by omega) hK4 rfl rfl), by omega, .inr ⟨HI.out, _, HN.out, by omega, .inr ⟨by omega, rfl, rfl⟩⟩⟩
      simp [results, Tryd.f24, go_sem, hc5, hc6]
  case stop =>
    rintro D c' pre W hD ⟨q, hq⟩ ⟨⟨rfl, e, rfl⟩, ⟨hR, hE⟩, hb⟩ hK
    have HI : Hid (allR xs = e ∧ allR xs ≠ 0) := by
      refine ⟨by unfold allR; rw [hq]; simp, fun h => ?_⟩
      have := (allR_zero xs).1 h
      rw [hq] at this; simp at this
    gi_wp2
    refine ⟨by simp, .inl ⟨_, _, rfl, run_takeDeferred hK, ?_⟩⟩
    have hc5 := cell_kept hR.cell (grownBy_putObj' _ D (.deferred none)) (fun r e => by cases e; exact ⟨_, hK, rfl⟩)
    have hc6 := cell_kept hE.cell (grownBy_putObj' _ D (.deferred none)) (fun r e => by cases e; exact ⟨_, hK, rfl⟩)
    refine ⟨.tuple #[.slice none 0 0, .int .i64 e], ?_, none, 0, [], e, rfl, SlA.nil, hb.trans (belowK_b (w := w) (Nat.le_refl _) W D _ _ (by simp at hD; omega) hK rfl rfl), by simp, .inl ⟨HI.out.2, HI.out.1.symm, rfl⟩⟩
    simp [results, Tryd.f24, go_sem, hc5, hc6]
end
end
end Go.Proofs.YtmpoihejacklnaaDoor
