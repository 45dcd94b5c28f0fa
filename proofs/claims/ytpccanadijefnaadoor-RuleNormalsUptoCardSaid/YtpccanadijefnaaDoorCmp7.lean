/- What rule.Normal hands to the library: the comparison, the look for equals; slices.CompactFunc over an owned row. No condition. -/
import Derived.Test.YtpccanadijefnaaDoorNrm
import Derived.Test.YtpccanadijefnaaDoorRow4
import Derived.Test.YtpccanadijefnaaDoorRegP
import Derived.Test.YtpccanadijefnaaDoorApp
namespace Go.Proofs.YtpccanadijefnaaDoor
open Go Go.RowKit
/-- The same as region_seqP, from the very world behind the draw. -/
theorem region_seqG {P : Program} {ops : Array Oper} {id : Nat} {Q : Exit → Act → World → Prop} {a : Act} {w : World} (L : List (Nat × Bool)) (hm : P.follows .mixedOrders = true) (hB : (Region.noSelect ops && decide (L.length = ops.size) && orderB ops L (Array.replicate ops.size false)) = true)
    (h : wpSeq P ops w.drew (noP Q) L a w.drew) : (Code.region id ops true).wp P Q a w := by
  refine wp_mono (Q := noP Q) ?_ noP_le
  simp only [Bool.and_eq_true, decide_eq_true_eq] at hB
  obtain ⟨⟨hsel, hl⟩, hB⟩ := hB
  refine wp_region_held (S := Ext w.drew) hm ?_
  have h' := wpAnyH_of_seq hsel (fun _ _ _ _ _ h => h.elim) L _ a _ (.of (Below.refl _ _)) hB h
  rw [hl] at h'
  exact h'
set_option maxHeartbeats 400000 in
theorem cmpI_c (x y : Int) (w : World) : Calls Tryd.prog 93 #[.int .i64 x, .int .i64 y] w fun e w' => e = .returned (.int .i64 (cmpI x y)) ∧ w' = w := by
  by_cases h1 : x < y
  · go_enter Tryd.func93, Tryd.ntmps93
    go_wp2
    go_ret
    exact ⟨ret_int (by unfold cmpI; rw [if_pos h1]), rfl⟩
  · by_cases h2 : x = y
    · subst h2
      go_enter Tryd.func93, Tryd.ntmps93
      go_wp2
      go_ret
      exact ⟨ret_int (by unfold cmpI; simp), rfl⟩
    · go_enter Tryd.func93, Tryd.ntmps93
      go_wp2
      go_ret
      exact ⟨ret_int (by unfold cmpI; rw [if_neg (by omega), if_neg h2]), rfl⟩
set_option maxHeartbeats 1000000 in
theorem ncmp_g (a b : T3) (w : World) : Calls Tryd.prog 105 #[.agg #[.string a.f, .string a.t, .int .i64 a.n], .agg #[.string b.f, .string b.t, .int .i64 b.n]] w (RetG w (.int .i64 (cmpN a b))) := by
  go_enter Tryd.func105, Tryd.ntmps105
  go_wp2_with fail
  refine region_seqG [(0, true), (1, true), (3, true), (4, true), (5, true), (6, true), (2, false), (7, false), (8, false), (9, false), (10, true)] (by kernel_rfl) (by kernel_rfl) ?_
  have hG : Grw w ((w.alloc (.cells #[.string a.f, .string a.t, .int .i64 a.n] 33)).alloc (.cells #[.string b.f, .string b.t, .int .i64 b.n] 33)).drew := Gdn (Gal (Gal (Grw.refl _) _) _) 1
  repeat (first
    | (refine seq_q rfl (fun K hK => ?_); unfold takeQ; go_simp; refine hK _ ?_; clear hK K)
    | (refine seq_t rfl (fun K hK => ?_); go_simp; go_at_call 75; refine (rcomp_g a b _).mono ?_; rintro e w3 ⟨rfl, hb3⟩; go_simp; refine hK _ _ (.of hb3.below) ?_; clear hK K)
    | (refine seq_t rfl (fun K hK => ?_); go_simp; go_at_call 93; refine (cmpI_c a.n b.n _).mono ?_; rintro e w4 ⟨rfl, rfl⟩; go_simp; refine hK _ _ (.of hb3.below) ?_; clear hK K)
    | (refine seq_t rfl (fun K hK => ?_); go_simp; refine hK _ _ (.of (Bal hb3.below _)) ?_; clear hK K)
    | (refine seq_t rfl (fun K hK => ?_); go_simp; go_at_call 92; refine (or_c _ _ [cmpT a b, cmpI a.n b.n] _ (SlA.new _ _ _ _ _ (by simp) _ rfl) (by simp)).mono ?_; rintro e w4 ⟨rfl, rfl⟩; go_simp; refine hK _ _ (.of (Bal hb3.below _)) ?_; clear hK K))
  refine seq_nil ?_
  rw [noP_normal]
  go_wp2
  go_ret
  exact ⟨rfl, Gal (Gst hG hb3) _⟩
set_option maxHeartbeats 400000 in
theorem neq_c (a b : T3) (w : World) : Calls Tryd.prog 107 #[.agg #[.string a.f, .string a.t, .int .i64 a.n], .agg #[.string b.f, .string b.t, .int .i64 b.n]] w (Ret w (.bool (decide (cmpT a b = 0)))) := by
  go_enter Tryd.func107, Tryd.ntmps107
  go_wp2_with (go_at_call 75; refine (rcomp_c a b _).mono ?_; rintro e w1 ⟨rfl, hb1⟩)
  go_ret
  exact ⟨rfl, Bel⟩
theorem once_all {zs : List T3} (h : 0 < zs.length) : onceL zs = zs.take 1 ++ cmpL zs[0] (zs.drop 1) := by
  cases zs with
  | nil => simp at h
  | cons p zs => rfl
theorem cmpL_drop {zs : List T3} (p : T3) (k : Nat) (h : k < zs.length) : cmpL p (zs.drop k) = if SameS zs[k] p then cmpL zs[k] (zs.drop (k + 1)) else zs[k] :: cmpL zs[k] (zs.drop (k + 1)) := by
  rw [List.drop_eq_getElem_cons h]; rfl
theorem once_next {zs : List T3} {k : Nat} (hk : k + 1 < zs.length) (h : onceL zs = zs.take (k + 1) ++ cmpL zs[k] (zs.drop (k + 1))) (hn : ¬ SameS zs[k + 1] zs[k]) : onceL zs = zs.take (k + 1 + 1) ++ cmpL zs[k + 1] (zs.drop (k + 1 + 1)) := by
  rw [h, cmpL_drop _ _ hk, if_neg hn, List.take_succ_eq_append_getElem hk, List.append_assoc]; rfl
theorem once_dup {zs : List T3} {k : Nat} (hk : k + 1 < zs.length) (h : onceL zs = zs.take (k + 1) ++ cmpL zs[k] (zs.drop (k + 1))) (hs : SameS zs[k + 1] zs[k]) : onceL zs = zs.take (k + 1) ++ cmpL zs[k + 1] (zs.drop (k + 1 + 1)) := by
  rw [h, cmpL_drop _ _ hk, if_pos hs]
/-- While equals are struck: k are laid, all from q - 1 on is as it was. -/
def Struck (zs rs : List T3) (k q : Nat) : Prop := rs.length = zs.length ∧ (∀ i (h : i < zs.length) (h' : i < rs.length), q ≤ i + 1 → rs[i] = zs[i]) ∧ ∃ h : q - 1 < zs.length, onceL zs = rs.take k ++ cmpL zs[q - 1] (zs.drop q)
theorem struck_same {zs rs : List T3} {k q : Nat} (hq : q < zs.length) (hq0 : 0 < q) (h : Struck zs rs k q) (hs : SameS zs[q] zs[q - 1]) : Struck zs rs k (q + 1) := by
  obtain ⟨h1, h2, h3, h4⟩ := h
  refine ⟨h1, fun i h h' hi => h2 i h h' (by omega), by simpa using hq, ?_⟩
  rw [h4, cmpL_drop _ _ hq, if_pos hs]; simp
theorem struck_lay {zs rs : List T3} {k q : Nat} (hq : q < zs.length) (hq0 : 0 < q) (hk : k < q) (h : Struck zs rs k q) (hs : ¬ SameS zs[q] zs[q - 1]) : Struck zs (rs.set k zs[q]) (k + 1) (q + 1) := by
  obtain ⟨h1, h2, h3, h4⟩ := h
  refine ⟨by simpa using h1, fun i h h' hi => ?_, by simpa using hq, ?_⟩
  · rw [List.getElem_set_ne (by omega)]
    exact h2 i h (by omega) (by omega)
  · rw [h4, cmpL_drop _ _ hq, if_neg hs, List.take_succ_eq_append_getElem (by simp; omega)]
    simp [List.take_set_of_le]
theorem struck_end {zs rs : List T3} {k : Nat} (h : Struck zs rs k zs.length) : onceL zs = rs.take k := by
  obtain ⟨h1, h2, h3, h4⟩ := h
  rw [h4, List.drop_length]; simp [cmpL]
theorem wpList_clear3 {P : Program} {w : World} {ops : Array Oper} {rest : List Oper} {o : Oper} {a : Act} {Q : Exit → Act → World → Prop} (hg : o.guard = none) (s : Operand) (t e : TypeId)
    (ho : o.op = .call { callee := .builtin .clear, args := #[s], argTypes := #[t] }) (z : Value) (ht : P.underlying t = some (.slice e)) (hv : ∀ w, (zeroValue e).run P w = .ok z w) (h1 : ∀ v ∈ z.cells, v.oneCell' = true) (b off n c : Nat)
    (hs : a.eval s = .slice (some ⟨b, off, none⟩) n c) (hc : ∀ j, j < n * z.cells.size → (w.cell? ⟨b, off + j, none⟩).isSome = true) (hf : ∀ j, j < n * z.cells.size → w.frozen? ⟨b, off + j, none⟩ = false)
    (h : ∀ vs, vs.length = n * z.cells.size → wpList P ops Q rest (a.put o.dst (.tuple #[])) (w.setCells b off vs)) : wpList P ops Q (o :: rest) a w := by
  refine wpList_plain hg fun K hK => ?_
  obtain ⟨vs, hl, hr⟩ := run_clear3 (P := P) w t e o.type z ht hv h1 b off n c hc hf
  unfold Oper.wp execOp
  simp only [ho, resolve, invoke, builtin, Sem.run_bind, Sem.run_pure, Result.andThen_ok, List.map_toArray, List.map_cons, List.map_nil, hs, hr]
  exact hK _ _ (h vs hl)
set_option maxHeartbeats 3000000 in
set_option maxRecDepth 100000 in
theorem compact_c (base : Nat) (v : Value) (zs : List T3) (w : World) (hO : Own eT3 base 33 w v zs) (hl : zs.length ≤ 4294967296) (hb : base ≤ w.heap.size) :
    Calls Tryd.prog 106 #[v, .func (.func 107) #[] #[]] w fun e w' => ∃ A c, e = .returned (.slice A (onceL zs).length c) ∧ SlA eT3 w' A (onceL zs) ∧ Below base w w' := by
  have hB : Below base w w := ⟨rfl, rfl, rfl, Nat.le_refl _, fun _ _ => rfl⟩
  by_cases h2 : zs.length < 2
  · have HE : Hid (onceL zs = zs) := by
      show onceL zs = zs
      cases zs with
      | nil => rfl
      | cons p zs =>
        have : zs = [] := List.eq_nil_of_length_eq_zero (by simp at h2; omega)
        subst this; rfl
    obtain ⟨A, c, rfl, h3, h4, hs⟩ := hO.slv
    have h2' : (zs.length : Int) < 2 := by omega
    go_enter Tryd.func106, Tryd.ntmps106
    go_wp2
    go_ret
    exact ⟨A, c, by rw [HE.out]; rfl, by rw [HE.out]; exact hs, hB⟩
  · obtain ⟨g, cap, rfl, hbg, hgl, hnc, hcm, cur, hcur⟩ := hO.form (by omega)
    simp only [maxLen] at hcm
    have hcm' : cap ≤ 9223372036854775807 := hcm
    have h2' : ¬ (zs.length : Int) < 2 := by omega
    clear cur hcur
    go_enter Tryd.func106, Tryd.ntmps106
    go_wp2
    go_loopw [5] (fun s wr => ∃ j : Nat, j < zs.length ∧ s = .int .i64 (j + 1) ∧ Hid (∃ h : j < zs.length, onceL zs = zs.take (j + 1) ++ cmpL zs[j] (zs.drop (j + 1))) ∧ Below w.heap.size w wr) (fun s _ => zs.length - (intOf s).toNat)
    case atStart => exact ⟨0, by omega, rfl, ⟨by omega, once_all (by omega)⟩, Bel⟩
    case round =>
      obtain ⟨j, hj, rfl, HJ, hbr⟩ := hrel
      have hO1 := hO.below hbr
      by_cases hlt : j + 1 < zs.length
      · obtain ⟨_, c1, c2, c3⟩ := hO1.cells3 j (by omega)
        obtain ⟨_, d1, d2, d3⟩ := hO1.cells3 (j + 1) hlt
        have hj0 : 0 ≤ (j : Int) + 1 := by omega
        have hj1 : (j : Int) + 1 < zs.length := by omega
        have hjl : (j : Int) < zs.length := by omega
        have ht1 : ((j : Int) + 1).toNat = j + 1 := by omega
        have hwj : IntKind.i64.wrap (j : Int) = j := IntWalk.i64_in _ (by omega)
        cases hq : decide (cmpT zs[j + 1] zs[j] = 0)
        all_goals
          have HQ := Lib.hid hq
          have HS : Hid (decide (cmpT zs[j + 1] zs[j] = 0) = true ↔ SameS zs[j + 1] zs[j]) := by show _ ↔ _; rw [decide_eq_true_iff]; exact cmpT_zero
          clear hq
          go_wp2_with fail
          refine region_seqP [(0, true), (1, true), (2, true), (3, true), (4, true), (5, true), (6, true), (7, true), (8, true), (9, true), (10, false)] (by kernel_rfl) (by kernel_rfl) ?_
          intro W hW
          obtain ⟨hcW, hzW⟩ := bcell hW
          repeat (first
            | (refine seq_q rfl (fun K hK => ?_); unfold takeQ; go_simp; refine hK _ ?_; clear hK K)
            | (refine seq_t rfl (fun K hK => ?_); go_simp; go_at_call 107; refine (neq_c zs[j + 1] zs[j] _).mono ?_; rintro e w3 ⟨rfl, hb3⟩; rw [HQ.out]; go_simp; refine hK _ _ (.of Bel) ?_; clear hK K))
          refine seq_nil ?_
          rw [noP_normal]
        · go_wp2
          exact ⟨⟨j + 1, hlt, by go_num, ⟨hlt, once_next hlt HJ.out.2 (fun h => by have := HS.out.2 h; rw [HQ.out] at this; cases this)⟩, Bel⟩, by simp [intOf]; omega⟩
        · have HD : Hid (Struck zs zs (j + 1) (j + 1 + 1)) := ⟨rfl, fun _ _ _ _ => rfl, hlt, once_dup hlt HJ.out.2 (HS.out.1 HQ.out)⟩
          have hbw3 : Below w.heap.size w w3 := Bel
          have hO3 := hO.below hbw3
          have hcj : ¬ cap = j + 1 := by omega
          have hcj2 : (j : Int) + 1 ≤ cap := by omega
          clear c1 c2 c3 d1 d2 d3 HQ HS HJ
          go_wp2
          go_loopw [5, 7] (fun s5 s7 wr => ∃ (k i : Nat) (rs : List T3), s5 = .int .i64 k ∧ s7 = .int .i64 (i + 1) ∧ k < j + 1 + (i + 1) ∧ j + 1 + (i + 1) ≤ zs.length ∧ Own eT3 base 33 wr (.slice (some ⟨g, 0, none⟩) rs.length cap) rs ∧ Hid (Struck zs rs k (j + 1 + (i + 1))) ∧ Below base w wr) (fun _ s7 _ => zs.length - (intOf s7).toNat)
          case atStart => exact ⟨j + 1, 0, zs, by simp, rfl, by omega, by omega, hO3, HD.out, hbw3.mono hb⟩
          case round =>
            obtain ⟨k, i, rs, rfl, rfl, hk, hi, HO, HT, hbw⟩ := hrel
            have hrl : rs.length = zs.length := HT.out.1
            have hgw : g < wr.heap.size := Nat.lt_of_lt_of_le hgl hbw.size
            have hbb : base ≤ wr.heap.size := by omega
            by_cases hlt2 : j + 1 + (i + 1) < zs.length
            · have hz1 : j + 1 + i < zs.length := by clear hrl; omega
              have hz2 : j + 1 + (i + 1) < zs.length := hlt2
              have hr1 : j + 1 + i < rs.length := by omega
              have hr2 : j + 1 + (i + 1) < rs.length := by omega
              obtain ⟨_, c1, c2, c3⟩ := HO.cells3 (j + 1 + i) hr1
              obtain ⟨_, d1, d2, d3⟩ := HO.cells3 (j + 1 + (i + 1)) hr2
              have ec : rs[j + 1 + i] = zs[j + 1 + i] := HT.out.2.1 _ hz1 hr1 (by omega)
              have ed : rs[j + 1 + (i + 1)] = zs[j + 1 + (i + 1)] := HT.out.2.1 _ hz2 hr2 (by omega)
              rw [ec] at c1 c2 c3
              rw [ed] at d1 d2 d3
              obtain ⟨x, hx⟩ : ∃ x, zs[j + 1 + i] = x := ⟨_, rfl⟩
              obtain ⟨y, hy⟩ : ∃ y, zs[j + 1 + (i + 1)] = y := ⟨_, rfl⟩
              rw [hx] at c1 c2 c3
              rw [hy] at d1 d2 d3
              rw [show (j + 1 + i) * 3 = (j + 1) * 3 + i * 3 by omega] at c1 c2 c3
              rw [show (j + 1 + (i + 1)) * 3 = (j + 1) * 3 + (i + 1) * 3 by omega] at d1 d2 d3
              have hX := Lib.hid hx; have hY := Lib.hid hy; have HRL := Lib.hid hrl
              have hkr : k < rs.length := by omega
              clear ec ed hx hy hr1 hr2
              have hi0 : 0 ≤ (i : Int) + 1 := by omega
              have hi1 : (i : Int) + 1 < ((zs.length - (j + 1) : Nat) : Int) := by omega
              have hi2 : (i : Int) < ((zs.length - (j + 1) : Nat) : Int) := by omega
              have hti : ((i : Int) + 1).toNat = i + 1 := by omega
              have hwi : IntKind.i64.wrap (i : Int) = i := IntWalk.i64_in _ (by omega)
              have hk0 : (k : Int) < zs.length := by omega
              clear hrl
              cases hq : decide (cmpT y x = 0)
              all_goals
                have HQ := Lib.hid hq
                have HS : Hid (decide (cmpT y x = 0) = true ↔ SameS y x) := by show _ ↔ _; rw [decide_eq_true_iff]; exact cmpT_zero
                clear hq
                go_wp2_with fail
                refine region_seqP [(0, true), (1, true), (2, true), (3, true), (4, true), (5, true), (6, true), (7, true), (8, true), (9, true), (10, false), (11, true)] (by kernel_rfl) (by kernel_rfl) ?_
                intro W hW
                obtain ⟨hcW, hzW⟩ := bcell hW
                repeat (first
                  | (refine seq_q rfl (fun K hK => ?_); unfold takeQ; go_simp; refine hK _ ?_; clear hK K)
                  | (refine seq_t rfl (fun K hK => ?_); go_simp; go_at_call 107; refine (neq_c y x _).mono ?_; rintro e w4 ⟨rfl, hb4⟩; rw [HQ.out]; go_simp; refine hK _ _ (.of Bel) ?_; clear hK K))
                refine seq_nil ?_
                rw [noP_normal]
                have hbr4 : Below wr.heap.size wr w4 := Bel
                have hbw4 : Below base w w4 := hbw.trans (hbr4.mono hbb)
                have HO4 := HO.below hbr4
                have hnS : Hid (SameS y x ↔ decide (cmpT y x = 0) = true) := HS.out.symm
              · obtain ⟨_, d1', d2', d3'⟩ := HO4.cells3 (j + 1 + (i + 1)) (by rw [HRL.out]; exact hz2)
                obtain ⟨hg4, e1, e2, e3⟩ := HO4.cells3 k hkr
                have HX2 : rs[j + 1 + (i + 1)]'(by rw [HRL.out]; exact hz2) = y := (HT.out.2.1 _ hz2 _ (by omega)).trans hY.out
                rw [HX2] at d1' d2' d3'
                rw [show (j + 1 + (i + 1)) * 3 = (j + 1) * 3 + (i + 1) * 3 by omega] at d1' d2' d3'
                have f1 := World.ownsRow.frozenAt HO4 (k * 3)
                have f2 := World.ownsRow.frozenAt HO4 (k * 3 + 1)
                have f3 := World.ownsRow.frozenAt HO4 (k * 3 + 2)
                have hP := HO4.put3 k hkr y
                clear d1 d2 d3 c1 c2 c3
                go_wp2
                have HN : Hid (Struck zs (rs.set k y) (k + 1) (j + 1 + (i + 1) + 1)) := by
                  have h := struck_lay hz2 (by omega) hk HT.out (fun h => by
                    have e : zs[j + 1 + (i + 1) - 1]'(by omega) = x := hX.out
                    rw [hY.out, e] at h
                    have := HS.out.2 h; rw [HQ.out] at this; cases this)
                  rwa [hY.out] at h
                exact ⟨⟨k + 1, i + 1, rs.set k y, by simp, by go_num, by omega, by omega, by rw [List.length_set]; exact hP.1, HN, hbw4.grown hP.2 (Nat.le_trans hb hbw4.size) (fun q e => by injection e with e; omega)⟩, by simp [intOf]; omega⟩
              · have HN := struck_same hz2 (by omega) HT.out (by rw [hY.out]; have e : zs[j + 1 + (i + 1) - 1]'(by omega) = x := hX.out; rw [e]; exact HS.out.1 HQ.out)
                go_wp2
                exact ⟨⟨k, i + 1, rs, rfl, by go_num, by omega, by omega, HO4, HN, hbw4⟩, by simp [intOf]; omega⟩
            · have hqe : zs.length = j + 1 + (i + 1) := by omega
              have HE : Hid (onceL zs = rs.take k) := by
                have h := HT.out
                rw [← hqe] at h
                exact struck_end h
              have hkr : k ≤ rs.length := by omega
              have hlen : Hid ((rs.take k).length = k) := by show _ = _; rw [List.length_take]; omega
              have HRL := Lib.hid hrl; have HQE := Lib.hid hqe
              have hi1 : ¬ (i : Int) + 1 < ((zs.length - (j + 1) : Nat) : Int) := by omega
              have hk1 : (k : Int) ≤ zs.length := by omega
              have hk2 : (k : Int) ≤ cap := by omega
              have hk3 : k ≤ zs.length := by omega
              have hsA : SlA eT3 wr (some ⟨g, 0, none⟩) rs := by
                obtain ⟨A', c', hv, _, _, hsA⟩ := HO.slv
                injection hv with hv1 hv2 hv3
                rw [hv1]; exact hsA
              have hcells : ∀ q, q < zs.length * 3 → (wr.cell? ⟨g, q, none⟩).isSome = true ∧ wr.frozen? ⟨g, q, none⟩ = false := fun q hq => by
                refine ⟨?_, World.ownsRow.frozenAt HO q⟩
                have h := World.ownsRow.cellAt HO q (by rw [HRL.out]; exact hq)
                rw [h, List.getElem?_eq_getElem (by rw [HO.1, HRL.out]; exact hq)]; rfl
              have HC := Lib.hid hcells
              clear hrl hqe hcells
              have hnz : (zs.length - k) * 3 + k * 3 = zs.length * 3 := by omega
              have hzv : ∀ W, (zeroValue 33).run Tryd.prog W = .ok (.agg #[.string .empty, .string .empty, .int .i64 0]) W := fun W => Tryd.zeroValue33 W
              have hone : ∀ v ∈ (Value.agg #[.string .empty, .string .empty, .int .i64 0]).cells, v.oneCell' = true := by
                intro v hv; simp [Value.cells] at hv; rcases hv with rfl | rfl | rfl <;> rfl
              have hcl : ∃ vs off, (rs.take k).length * 3 ≤ off ∧ ∀ ty, (Builtin.clear_ #[26] ty #[.slice (some (if cap = k then ⟨g, 0, none⟩ else ⟨g, k * 3, none⟩)) (zs.length - k) (cap - k)]).run Tryd.prog wr = .ok (.tuple #[]) (wr.setCells g off vs) := by
                by_cases hck : cap = k
                · refine ⟨[], k * 3, by rw [hlen.out]; exact Nat.le_refl _, fun ty => ?_⟩
                  rw [if_pos hck, show zs.length - k = 0 by omega]
                  simp [Builtin.clear_, run_underlying Tryd.underlying26, World.setCells]
                · rw [if_neg hck]
                  have h := fun ty => run_clear3 (P := Tryd.prog) wr 26 33 ty _ Tryd.underlying26 hzv hone g (k * 3) (zs.length - k) (cap - k) (fun q hq => (HC.out (k * 3 + q) (by have hq : q < (zs.length - k) * 3 := hq; omega)).1) (fun q hq => (HC.out (k * 3 + q) (by have hq : q < (zs.length - k) * 3 := hq; omega)).2)
                  obtain ⟨vs, hvs, hr⟩ := h 0
                  refine ⟨vs, k * 3, by rw [hlen.out]; exact Nat.le_refl _, fun ty => ?_⟩
                  rw [← hr]; rfl
              obtain ⟨vs, off, hoff, hcl⟩ := hcl
              clear hzv hone
              have hfin : ∀ W', W' = wr.setCells g off vs → ∃ A c, Ending.returned (.slice (some ⟨g, 0, none⟩) k cap) = .returned (.slice A (onceL zs).length c) ∧ SlA eT3 W' A (onceL zs) ∧ Below base w W' := by
                rintro W' rfl
                exact ⟨some ⟨g, 0, none⟩, cap, by rw [HE.out, hlen.out], by rw [HE.out]; exact (SlA.take hsA k).cleared hoff vs, hbw.grown (grown_setCells g vs off wr) (Nat.le_trans hb hbw.size) (fun q e => by injection e with e; omega)⟩
              by_cases hck : cap = k
              · subst hck
                rw [if_pos rfl, Nat.sub_self, show zs.length - cap = 0 by omega] at hcl
                go_wp2
                go_ret
                obtain ⟨A', c', h1, h2, h3⟩ := hfin _ rfl
                exact ⟨A', ⟨c', h1⟩, h2, h3⟩
              · rw [if_neg hck] at hcl
                go_wp2
                go_ret
                obtain ⟨A', c', h1, h2, h3⟩ := hfin _ rfl
                exact ⟨A', ⟨c', h1⟩, h2, h3⟩
      · have HE : Hid (onceL zs = zs) := by
          show onceL zs = zs
          obtain ⟨hjj, HJ2⟩ := HJ.out
          refine HJ2.trans ?_
          rw [List.take_of_length_le (by omega), List.drop_of_length_le (by omega)]; simp [cmpL]
        have hsA : SlA eT3 wr (some ⟨g, 0, none⟩) zs := by
          obtain ⟨A', c', hv, _, _, hsA⟩ := hO1.slv
          injection hv with hv1 hv2 hv3
          rw [hv1]; exact hsA
        go_wp2
        go_ret
        exact ⟨some ⟨g, 0, none⟩, cap, by rw [HE.out]; rfl, by rw [HE.out]; exact hsA, hbr.mono hb⟩
end Go.Proofs.YtpccanadijefnaaDoor
