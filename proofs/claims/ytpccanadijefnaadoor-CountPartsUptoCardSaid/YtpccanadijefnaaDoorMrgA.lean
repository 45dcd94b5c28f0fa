/- The reference's Merge; CountMerges and CountParts walked. No condition. -/
import Derived.Test.YtpccanadijefnaaDoorMrg6
import Derived.Test.YtpccanadijefnaaDoorTab6
import Derived.Laws.OwnMore
namespace Go.Proofs.YtpccanadijefnaaDoor
open Go Go.RowKit
theorem append_none {P : Program} {w : World} (base : Nat) (t ty e : TypeId) (i : TypeInfo) (size : Nat) (ht : P.underlying t = some (.slice e)) (hi : P.info? e = some i)
    (v : Value) (n c : Nat) (xs : List Value) (hown : w.ownsRow base e size v n xs) : (Builtin.append_ #[t, t] ty #[v, .slice none 0 c]).run P w = .ok v w := by
  rcases hown.2 with ⟨rfl, rfl⟩ | ⟨g, cap, cur, rfl, _, _, hnc, _⟩
  · simp [Builtin.append_, run_underlying ht, sizeOf, typeInfo, hi, Builtin.lenOf, Builtin.firstCells]
  · simp [Builtin.append_, run_underlying ht, sizeOf, typeInfo, hi, Builtin.lenOf, Builtin.firstCells, hnc, storeCells]
/-- 'append(s, x...)', where x may be nil. -/
theorem app_any {α : Type} {E : Enc α} {P : Program} {ops : Array Oper} {rest : List Oper} {o : Oper} {a : Act} {Q : Exit → Act → World → Prop} {w0 W : World} (s x : Operand) (t e : TypeId) (z : Value) (bytes : Nat)
    (hgd : o.guard = none) (ho : o.op = .call { callee := .builtin .append, args := #[s, x], argTypes := #[t, t] })
    (ht : P.underlying t = some (.slice e)) (hinfo : (P.info? e).map (fun i => (i.zero, i.size, i.bytes)) = some (some z, E.k, bytes)) (hz : z.cells.size = E.k) (hk : 0 < E.k) (hby : 0 < bytes)
    (v : Value) (xs ys : List α) (A : Option Addr) (c : Nat) (hs : a.eval s = v) (hx : a.eval x = .slice A ys.length c)
    (HO : Own E w0.heap.size e W v xs) (HS : SlA E W A ys) (hb : Below w0.heap.size w0 W) (hl : (xs.length + ys.length) * bytes ≤ 140737488355328)
    (h : ∀ v' w1, Own E w0.heap.size e w1 v' (xs ++ ys) → Below w0.heap.size w0 w1 → wpList P ops Q rest (a.put o.dst v') w1) :
    wpList P ops Q (o :: rest) a W := by
  cases A with
  | some ad => exact app s x t e z bytes hgd ho ht hinfo hz hk hby v xs ys ad ys.length c hs hx rfl HO HS hb hl fun v' w1 h1 h2 _ _ => h v' w1 h1 h2
  | none =>
    have hy : ys = [] := by
      cases ys with
      | nil => rfl
      | cons y l => obtain ⟨b, o, hA, _⟩ := HS 0 y (by simp); cases hA
    subst hy
    refine wpList_plain hgd fun K hK => ?_
    obtain ⟨i0, hi, hzz⟩ := Option.map_eq_some_iff.1 hinfo
    have hrun := append_none (P := P) (w := W) w0.heap.size t o.type e i0 E.k ht hi v xs.length c _ HO
    have h' := hK _ _ (h v W (by rw [List.append_nil]; exact HO) hb)
    simp only [List.length_nil] at hx
    unfold Oper.wp
    simp [execOp, ho, resolve, invoke, builtin, hs, hx, hrun, Result.andThen]
    exact h'
theorem mergeL_len : ∀ (a b : List T3), (mergeL a b).length ≤ a.length + b.length
  | [], b => by simp [mergeL]
  | x :: a, [] => by simp [mergeL]
  | x :: a, y :: b => by
    unfold mergeL
    split
    · have := mergeL_len a (y :: b); simp at *; omega
    · split
      · have := mergeL_len (x :: a) b; simp at *; omega
      · have := mergeL_len a b; simp at *; omega
termination_by a b => a.length + b.length
theorem each_app {l m : List T3} (h : eachT l = 0) (k : eachT m = 0) : eachT (l ++ m) = 0 := (each_all _).2 fun b hb => by
  rcases List.mem_append.1 hb with hb | hb
  · exact (each_all l).1 h b hb
  · exact (each_all m).1 k b hb
theorem mrgE_of {l m a b : List T3} (ha : Tab l a) (hb : Tab m b) (h1 : tchk a = 0) (h2 : tchk b = 0) (he : eachT (l ++ m) = 0) : mrgE a b = tabE (l ++ m) := by
  have hT := (mergeL_tab ha hb).of
  unfold mrgE tabE
  simp only [h1, h2, he, ne_eq, not_true_eq_false, if_false, hT.sum, hT.len]
theorem mrgE_nil {a : List T3} (h : tchk a = 0) : mrgE a [] = 0 := by
  obtain ⟨_, _, h3, h4⟩ := tchk_zero h
  have hn : tchk ([] : List T3) = 0 := by decide
  unfold mrgE
  rw [if_neg (by simp [h]), if_neg (by simp [hn]), mergeL_nil, if_neg (by omega), if_neg (by omega)]
set_option maxHeartbeats 2000000 in
set_option maxRecDepth 100000 in
theorem r6mrg_c (A B : Option Addr) (c d : Nat) (xs ys : List T3) (w : World) (hs : SlA eT3 w A xs) (ht : SlA eT3 w B ys) (hm : Small xs) (hn : Small ys) (hmn : Small (xs ++ ys)) :
    Calls Tryd.prog 42 #[.slice A xs.length c, .slice B ys.length d] w (MrgPost w xs ys) := by
  have hl := hm.1
  have hl2 := hn.1
  by_cases h0 : tchk xs = 0
  · have H0 := Lib.hid h0
    clear h0
    by_cases h1 : tchk ys = 0
    · have H1 := Lib.hid h1
      clear h1
      have hz := tchk_zero H0.out
      have hz2 := tchk_zero H1.out
      have HE := Lib.hid (mrgE_of (Tab.self (of_rise hz.2.1)) (Tab.self (of_rise hz2.2.1)) H0.out H1.out (each_app hz.1 hz2.1))
      have HT := Lib.hid (mergeL_tab (Tab.self (of_rise hz.2.1)) (Tab.self (of_rise hz2.2.1))).of
      clear hz hz2
      go_enter Tryd.func42, Tryd.ntmps42
      go_wp2_with fail
      refine (r6chk_c A c xs _ hs hm).mono ?_
      rintro e w1 ⟨rfl, hb1⟩
      rw [H0.out]
      go_wp2_with fail
      refine (r6chk_c B d ys _ (ht.below Bel) hn).mono ?_
      rintro e w2 ⟨rfl, hb2⟩
      rw [H1.out]
      have hb2w : Below w.heap.size w w2 := Bel
      have hs2 := hs.below hb2w
      have ht2 := ht.below hb2w
      go_wp2_with (first
        | (at_builtin; refine app_any (E := eT3) (w0 := w2) (.tmp 18) _ 22 25 (.agg #[.string .empty, .string .empty, .int .i64 0]) 40 rfl rfl Tryd.underlying22 info_blk rfl (by decide) (by decide) _ [] xs A c rfl rfl (Own.lit eT3 w2.heap.size 25 w2 (Nat.le_refl _)) (hs2.below Bel) Bel (by simp; omega) ?_; intro v5 w5 HO5 hb5; rw [List.nil_append] at HO5)
        | (at_builtin; refine app_any (E := eT3) (w0 := w2) (.tmp 20) _ 22 25 (.agg #[.string .empty, .string .empty, .int .i64 0]) 40 rfl rfl Tryd.underlying22 info_blk rfl (by decide) (by decide) _ xs ys B d rfl rfl HO5 (ht2.below hb5) hb5 (by omega) ?_; intro v6 w6 HO6 hb6)
        | (go_at_call 32; obtain ⟨A6, c6, rfl, _, _, hs6⟩ := HO6.slv; refine (r6tab_c A6 c6 (xs ++ ys) _ hs6 hmn).mono ?_; rintro e w7 ⟨zs, r, rfl, hzs, hb7, hok, hno⟩))
      go_ret2
      refine ⟨zs, r, by rw [HE.out]; rfl, hzs, Bst (Bst hb2w hb6) hb7, fun h => ?_, fun h => hno (by rw [← HE.out]; exact h)⟩
      exact (hok (by rw [← HE.out]; exact h)).uniq HT.out
    · have hne : (tchk ys != 0) = true := by simp [h1]
      have HV : Hid (mrgE xs ys = tchk ys ∧ mrgE xs ys ≠ 0) := by
        have h : mrgE xs ys = tchk ys := by unfold mrgE; rw [if_neg (by simp [H0.out]), if_pos h1]
        exact ⟨h, by rw [h]; exact h1⟩
      clear h1
      go_enter Tryd.func42, Tryd.ntmps42
      go_wp2_with fail
      refine (r6chk_c A c xs _ hs hm).mono ?_
      rintro e w1 ⟨rfl, hb1⟩
      rw [H0.out]
      go_wp2_with fail
      refine (r6chk_c B d ys _ (ht.below Bel) hn).mono ?_
      rintro e w2 ⟨rfl, hb2⟩
      go_wp2_with fail
      go_ret2
      exact ⟨[], _, by rw [HV.out.1]; rfl, SlV.nil, Bel, fun h => absurd h HV.out.2, fun _ => rfl⟩
  · have hne : (tchk xs != 0) = true := by simp [h0]
    have HV : Hid (mrgE xs ys = tchk xs ∧ mrgE xs ys ≠ 0) := by
      have h : mrgE xs ys = tchk xs := by unfold mrgE; rw [if_pos h0]
      exact ⟨h, by rw [h]; exact h0⟩
    clear h0
    go_enter Tryd.func42, Tryd.ntmps42
    go_wp2_with (go_at_call 45; refine (r6chk_c A c xs _ hs hm).mono ?_; rintro e w1 ⟨rfl, hb1⟩)
    go_ret2
    exact ⟨[], _, by rw [HV.out.1]; rfl, SlV.nil, Bel, fun h => absurd h HV.out.2, fun _ => rfl⟩
theorem small_app {l m : List T3} (h : Small l) (k : Small m) (hl : l.length + m.length ≤ 1048576) : Small (l ++ m) := by
  refine ⟨by rw [List.length_append]; exact hl, fun b hb => ?_⟩
  rcases List.mem_append.1 hb with hb | hb
  · exact h.2 b hb
  · exact k.2 b hb
theorem great_len {l : List T3} (h : greatT l = false) : l.length ≤ 500 := by
  unfold greatT at h
  simp only [decide_eq_false_iff_not] at h
  omega
end Go.Proofs.YtpccanadijefnaaDoor
