/- slices.SortedFunc of slices.Values over rules, and rule.Normal. No condition. -/
import Derived.Test.YtpccanadijefnaaDoorIs
import Derived.Test.YtpccanadijefnaaDoorCmp7
import Derived.Test.YtpccanadijefnaaDoorMak
import Derived.Test.YtpccanadijefnaaDoorSort2
import Derived.RangeFuncBox
import Derived.Maps.AppendAt
namespace Go.Proofs.YtpccanadijefnaaDoor
open Go Go.RowKit Go.Shelf
attribute [local go_sem] Oper.semAt_some
/-- A three-celled value. -/
def v3 (x : T3) : Value := .agg #[.string x.f, .string x.t, .int .i64 x.n]
set_option maxRecDepth 100000 in
set_option maxHeartbeats 1000000 in
theorem values1_in (n : Nat) (hn : 1 ≤ n) (l Bn : Nat) (A : Option Addr) (c : Nat) (xs : List T3) (w0 : World) (hs : SlA eT3 w0 A xs) (hm : Small xs) (J Jx : List T3 → World → Prop) (W : World)
    (hJ : AbidesFrom W.heap.size J)
    (hY : ∀ pre x W1, J pre W1 → pre.length < xs.length → YieldAt Fence.wide (n - 1) Tryd.prog l #[.agg #[.string x.f, .string x.t, .int .i64 x.n]] W1 fun e W' =>
      (e = .returned (.bool true) ∧ J (pre ++ [x]) W' ∧ Below w0.heap.size W1 W') ∨ (e = .returned (.bool false) ∧ Jx (pre ++ [x]) W'))
    (hb0 : Below w0.heap.size w0 W) (hBn : W.cell? ⟨Bn, 0, none⟩ = some (.slice A xs.length c)) (h0 : J [] W) :
    CallsIn Fence.wide n Tryd.prog 131 #[.func (.yield l) #[] #[], .pointer (some ⟨Bn, 0, none⟩)] W fun e W' => (∃ v, e = .returned v) ∧
      ((∃ ys, ys = xs ∧ J ys W') ∨ (∃ pre, (∃ q, xs = pre ++ q) ∧ Jx pre W')) := by
  have hl := hm.1
  refine callsIn_of_wp Tryd.func131 rfl trivial ?_ rfl
  simp only [Tryd.ntmps131, List.size_toArray, List.length_cons, List.length_nil, Nat.reduceAdd, Nat.reduceSub, Array.replicate_succ, Array.replicate_zero, List.push_toArray, List.append_toArray, List.nil_append, List.cons_append]
  gi_wp2
  gi_loopw [7] (fun s wr => ∃ k : Nat, k ≤ xs.length ∧ s = .int .i64 k ∧ J (xs.take k) wr ∧ Below w0.heap.size w0 wr) (fun s _ => xs.length - (intOf s).toNat)
  case atStart => exact ⟨0, by omega, rfl, h0, hb0⟩
  case round =>
    obtain ⟨k, hk, rfl, hJp, hb⟩ := hrel
    by_cases hlt : k < xs.length
    · obtain ⟨b, o, rfl, hbs, p1, p2, p3⟩ := hs.n3 (fun _ => rfl) hb k hlt
      have het : xs.take (k + 1) = xs.take k ++ [xs[k]] := List.take_succ_eq_append_getElem hlt
      have HT := Lib.hid het
      have hlen : (xs.take k).length < xs.length := by simp; omega
      clear het
      have hb02 : Below w0.heap.size w0 (wr.alloc (.cells #[.string xs[k].f, .string xs[k].t, .int .i64 xs[k].n] 33)) := hb.alloc hb.size _
      have hg : wr.grownBy (wr.alloc (.cells #[.string xs[k].f, .string xs[k].t, .int .i64 xs[k].n] 33)) none := World.grownBy_alloc wr _ none
      obtain ⟨fn, tmps, assign, body, hy, hR⟩ := hY (xs.take k) xs[k] (wr.alloc (.cells #[.string xs[k].f, .string xs[k].t, .int .i64 xs[k].n] 33)) (hJ _ _ _ none hJp hg (fun r e => by cases e)) hlen
      gi_wp2
      refine hR.mono ?_
      rintro e W3 (⟨rfl, hJ3, hk3⟩ | ⟨rfl, hJx3⟩)
      · gi_wp2
        refine ⟨⟨k + 1, by omega, by go_num, by rw [HT.out]; exact hJ3, hb02.trans hk3⟩, by simp [intOf]; omega⟩
      · gi_wp2
        refine bodyPost_ret (results_none rfl _ _ _) rfl ?_
        refine ⟨⟨_, rfl⟩, .inr ⟨_, ⟨xs.drop (k + 1), ?_⟩, hJx3⟩⟩
        rw [← HT.out, List.take_append_drop]
    · gi_wp2
      go_end0
      refine ⟨⟨_, rfl⟩, .inl ⟨_, ?_, hJp⟩⟩
      exact List.take_of_length_le (by omega)
theorem values_stops (n : Nat) (hn : 1 ≤ n) (Bn : Nat) (A : Option Addr) (c : Nat) (xs : List T3) (w0 w : World) (hs : SlA eT3 w0 A xs) (hm : Small xs) (hb : Below w0.heap.size w0 w) (hBn : Bn < w.heap.size) (hc : w.cell? ⟨Bn, 0, none⟩ = some (.slice A xs.length c)) :
    SeqStopsK Fence.wide n Tryd.prog 131 #[.pointer (some ⟨Bn, 0, none⟩)] (fun x : T3 => #[.agg #[.string x.f, .string x.t, .int .i64 x.n]]) (Below w0.heap.size) (fun ys => ys = xs) (fun pre => ∃ q, xs = pre ++ q) xs.length w := fun l J Jx W hW hJ _ hY h0 =>
  values1_in n hn l Bn A c xs w0 hs hm J Jx W hJ hY (hb.trans (hW.mono hb.size)) ((hW.cell (p := ⟨Bn, 0, none⟩) hBn).trans hc) h0
set_option maxHeartbeats 1000000 in
/-- What 'Values' hands back: its argument is boxed. -/
theorem values_c (k c : Nat) (A : Option Addr) (w : World) : Calls Tryd.prog 104 #[.slice A k c] w fun e w' => e = .returned (.func (.func 131) #[] #[.pointer (some ⟨w.heap.size, 0, none⟩)]) ∧ w' = w.alloc (.cells #[.slice A k c] 26) := by
  go_enter Tryd.func104, Tryd.ntmps104
  go_wp2
  go_ret
  exact ⟨rfl, rfl⟩
theorem info_rule_parts : ∃ i, Tryd.prog.info? 33 = some i ∧ i.zero = some (.agg #[.string .empty, .string .empty, .int .i64 0]) ∧ i.size = 3 ∧ i.bytes = 40 := by
  obtain ⟨i, h1, h2⟩ := Option.map_eq_some_iff.1 info_rule
  simp only [Prod.mk.injEq] at h2
  exact ⟨i, h1, h2.1, h2.2.1, h2.2.2⟩
theorem cells_new (w : World) (x : T3) (t : TypeId) : ∀ j u, (eT3.e x)[j]? = some u → (w.alloc (.cells #[.string x.f, .string x.t, .int .i64 x.n] t)).cell? ((⟨w.heap.size, 0, none⟩ : Addr).add j) = some u := by
  intro j u hj
  have ha : (⟨w.heap.size, 0, none⟩ : Addr).add j = ⟨w.heap.size, j, none⟩ := by unfold Addr.add; split <;> simp_all
  rw [ha]
  have hh : (w.alloc (.cells #[.string x.f, .string x.t, .int .i64 x.n] t)).heap[w.heap.size]? = some (.cells #[.string x.f, .string x.t, .int .i64 x.n] t (0, 0)) := by
    show (w.heap.push _)[w.heap.size]? = _
    simp
  unfold World.cell?
  simp only [hh]
  rw [eT3_e] at hj
  simpa using hj
set_option maxRecDepth 100000 in
set_option maxHeartbeats 2000000 in
theorem appseq_c (Bn : Nat) (A : Option Addr) (c : Nat) (xs : List T3) (w : World) (hs : SlA eT3 w A xs) (hm : Small xs) (hBn : Bn < w.heap.size) (hc : w.cell? ⟨Bn, 0, none⟩ = some (.slice A xs.length c)) :
    Calls Tryd.prog 171 #[.slice none 0 0, .func (.func 131) #[] #[.pointer (some ⟨Bn, 0, none⟩)]] w fun e w' => ∃ v, e = .returned v ∧ Own eT3 w.heap.size 33 w' v xs ∧ Below w.heap.size w w' := by
  refine (callsIn_wide (n := 5)).1 ?_
  have hl := hm.1
  obtain ⟨i0, hi, hz0, hz1, hz2⟩ := info_rule_parts
  refine callsIn_of_wp_marks Tryd.func171 rfl trivial ?_ rfl
  simp only [Tryd.ntmps171, List.size_toArray, List.length_cons, List.length_nil, Nat.reduceAdd, Nat.reduceSub, Array.replicate_succ, Array.replicate_zero, List.push_toArray, List.append_toArray, List.nil_append, List.cons_append]
  gi_wp2
  have bS := Boxed.new w 26 (.slice none 0 0)
  have hB0 : Below w.heap.size w (w.alloc (.cells #[.slice none 0 0] 26)) := Bel
  refine wpIn_rangeFunc_ownH rfl (by omega) (gf := 131) (lb := #[.pointer (some ⟨Bn, 0, none⟩)]) rfl trivial (enters_of Tryd.func131 (by kernel_rfl) rfl)
    (values_stops (5 - 1) (by omega) Bn A c xs w _ hs hm hB0 (Nat.lt_of_lt_of_le hBn hB0.size) ((hB0.cell (p := ⟨Bn, 0, none⟩) hBn).trans hc)) belowK_t (belowK_b hB0.size) (Below.refl _ _) (fun _ => rfl)
    (fun pre W => (∃ v, Boxed W w.heap.size 26 v ∧ W.ownsRow w.heap.size 33 3 v pre.length (pre.flatMap eT3.e) ∧ True) ∧ Below w.heap.size w W)
    (fun _ _ _ => False)
    (OwnFrom.and (Own.from (holdsRow_own w.heap.size w.heap.size 26 33 3 (fun pre : List T3 => pre.length) (fun pre => pre.flatMap eT3.e) (fun _ _ => True)) _) (ownFrom_below (Nat.le_refl _) hB0.size))
    (fun _ _ _ _ _ hs _ _ => hs)
    ⟨⟨_, bS, World.ownsRow_nil _ _ _ _, trivial⟩, hB0⟩
    (fun x a' W => ∃ Bx, w.heap.size < Bx ∧ W.heap[Bx]? = some (.cells #[.string x.f, .string x.t, .int .i64 x.n] 33 (0, 0)) ∧ a' = { tmps := #[.slice none 0 0, .func (.func 131) #[] #[.pointer (some ⟨Bn, 0, none⟩)], .pointer (some ⟨w.heap.size, 0, none⟩), undef, .slice none 0 0, .pointer (some ⟨Bx, 0, none⟩), .func (.func 131) #[] #[.pointer (some ⟨Bn, 0, none⟩)], .agg #[.string x.f, .string x.t, .int .i64 x.n], undef, undef, undef, undef, undef], defers := [] })
    (fun x a' _ X Y row hs hg hr => by
      obtain ⟨Bx, h1, h2, h3⟩ := hs
      refine ⟨Bx, h1, (hg.block Bx (Array.getElem?_eq_some_iff.1 h2).1 (fun e => ?_)).trans h2, h3⟩
      obtain ⟨_, o, ho, hc⟩ := hr Bx e.symm
      rw [h2] at ho; cases ho; cases hc)
    ?assign ?body ?done ?stop
  case assign =>
    rintro l pre x W K ⟨⟨v, bS1, hr1, _⟩, hB1⟩ hK
    gi_wp2
    refine hK _ _ ((KeepsOthers.alloc _ _).from _) ((Below.refl _ W).alloc hB1.size _) ⟨⟨v, bS1.alloc _, hr1.alloc _, trivial⟩, hB1.alloc hB1.size _⟩ ⟨W.heap.size, bS1.lt, ?_, rfl⟩
    show (W.heap.push _)[W.heap.size]? = _
    simp
  case body =>
    rintro l pre x a' W hl' ⟨r, hr⟩ ⟨⟨v, hv, hrow, _⟩, hB⟩ ⟨Bx, hBx, hX, rfl⟩ hlt
    have hvc := hv.cell
    have hvf := hv.frozen
    have x0 : W.cell? ⟨Bx, 0, none⟩ = some (.string x.f) := by unfold World.cell?; simp only [hX]; rfl
    have x1 : W.cell? ⟨Bx, 1, none⟩ = some (.string x.t) := by unfold World.cell?; simp only [hX]; rfl
    have x2 : W.cell? ⟨Bx, 2, none⟩ = some (.int .i64 x.n) := by unfold World.cell?; simp only [hX]; rfl
    have hlx : pre.length < 1048576 := by omega
    gi_wp2_with (gi_at_builtin; refine wpListIn_append_own _ rfl _ _ 26 rfl w.heap.size 33 i0 (.agg #[.string .empty, .string .empty, .int .i64 0]) 3 40 Tryd.underlying26 hi hz0 hz1 hz2 rfl (by decide) v pre.length _ rfl (hrow.alloc _) ⟨W.heap.size, 0, none⟩ 1 1 (eT3.e x) rfl rfl (cells_new W x _) (eT3.one x) (by simp only [maxLen]; omega) (by omega) (by have := hB.size; simp; omega) ?_; intro v' w1 hown' hgrow _; obtain ⟨g', cap', rfl⟩ := ownsRow_succ hown'; obtain ⟨hv1, hv2, hr2, hk2, hb2⟩ := hv.appended (by decide) hrow hB.size (Nat.le_refl _) hown' hgrow; have hc1 := hv1.cell; have hf1 := hv1.frozen)
    refine ⟨hk2.from _, hb2, ⟨⟨_, hv2, ?_, trivial⟩, hB.trans hb2⟩⟩
    simpa using hr2
  case done =>
    rintro D ys W hD rfl ⟨⟨v, hv, hrow, _⟩, hB⟩ hK
    have hvc := hv.cell
    gi_wp2
    refine ⟨by simp, .inl ⟨_, _, rfl, run_takeDeferred hK, ?_⟩⟩
    refine ⟨v, ?_, v, rfl, ownsRow_putObj hrow _ hK rfl, hB.trans (belowK_b (w := w) (Nat.le_refl _) W D _ _ (by simp at hD; omega) hK rfl rfl)⟩
    simp [results, Tryd.f171, go_sem]
  case stop =>
    rintro D c pre W _ _ h _
    exact h.elim
theorem Own.nil_or {base : Nat} {e : TypeId} {w : World} {v : Value} {xs : List T3} (h : Own eT3 base e w v xs) : ∀ k, v.ownBlock = some k → base ≤ k := h.ge
set_option maxRecDepth 100000 in
set_option maxHeartbeats 1000000 in
theorem collect_c (Bn : Nat) (A : Option Addr) (c : Nat) (xs : List T3) (w : World) (hs : SlA eT3 w A xs) (hm : Small xs) (hBn : Bn < w.heap.size) (hc : w.cell? ⟨Bn, 0, none⟩ = some (.slice A xs.length c)) :
    Calls Tryd.prog 129 #[.func (.func 131) #[] #[.pointer (some ⟨Bn, 0, none⟩)]] w fun e w' => ∃ v, e = .returned v ∧ Own eT3 w.heap.size 33 w' v xs ∧ Below w.heap.size w w' := by
  go_enter Tryd.func129, Tryd.ntmps129
  go_wp2_with (go_at_call 171; refine (appseq_c Bn A c xs _ hs hm hBn hc).mono ?_; rintro e w1 ⟨v, rfl, hO, hb1⟩)
  go_ret
  exact ⟨_, rfl, hO, hb1⟩
set_option maxRecDepth 100000 in
set_option maxHeartbeats 1000000 in
theorem sorted_c (Bn : Nat) (A : Option Addr) (c : Nat) (xs : List T3) (w : World) (hs : SlA eT3 w A xs) (hm : Small xs) (hBn : Bn < w.heap.size) (hc : w.cell? ⟨Bn, 0, none⟩ = some (.slice A xs.length c)) :
    Calls Tryd.prog 103 #[.func (.func 131) #[] #[.pointer (some ⟨Bn, 0, none⟩)], .func (.func 105) #[] #[]] w fun e w' => ∃ v zs, e = .returned v ∧ Own eT3 w.heap.size 33 w' v zs ∧ Below w.heap.size w w' ∧ zs.Perm xs ∧ zs.Pairwise fun x y => ltOf cmpN y x = false := by
  have hl := hm.1
  go_enter Tryd.func103, Tryd.ntmps103
  go_wp2_with fail
  refine (collect_c Bn A c xs _ hs hm hBn hc).mono ?_
  rintro e w1 ⟨v, rfl, hO, hb1⟩
  go_wp2_with fail
  refine (sort_own (E := eT3) Tryd.sortRules Tryd.isAgg33 Tryd.sizeOf33 cmpN swoN 105 (enters_of Tryd.func105 (by kernel_rfl) rfl) (fun x y W => ncmp_g x y W) _ v xs hO (by omega)).mono ?_
  rintro e w2 ⟨rfl, zs, hp, hsd, hO2, hg⟩
  have hb2 : Below w.heap.size w w2 := hb1.grown hg hb1.size (fun k e => hO.ge k e)
  go_wp2
  go_ret
  exact ⟨_, zs, rfl, hO2, hb2, hp, hsd⟩
/-- A store into a box of one cell leaves rows of three-celled elements. -/
theorem SlA.box3 {w : World} {A : Option Addr} {xs : List T3} {B : Nat} {t : TypeId} {v : Value} (h : SlA eT3 w A xs) (hB : Boxed w B t v) (u : Value) : SlA eT3 (w.setCell ⟨B, 0, none⟩ u) A xs := fun j x hx => by
  obtain ⟨b, o, hA, hlt, hc⟩ := h j x hx
  have hne : b ≠ B := fun e => by
    subst e
    have h1 := hc 1 (.string x.t) rfl
    have hB' : w.heap[b]? = some (.cells #[v] t (0, 0)) := hB
    unfold World.cell? at h1
    simp only [hB'] at h1
    simp [eT3] at h1
  refine ⟨b, o, hA, by simpa using hlt, fun i u' hu => ?_⟩
  exact (World.cell?_of_block (Deep.blk_setCell_other w ⟨B, 0, none⟩ u b hne)).trans (hc i u' hu)
theorem SlA.putObj {α : Type} {E : Enc α} {w : World} {A : Option Addr} {xs : List α} {D : Nat} (h : SlA E w A xs) (hK : w.heap[D]? = some (.deferred (some []))) : SlA E (w.putObj D (.deferred none)) A xs := fun j x hx => by
  obtain ⟨b, o, hA, hlt, hc⟩ := h j x hx
  exact ⟨b, o, hA, Nat.lt_of_lt_of_le hlt (grownBy_putObj' w D (.deferred none)).size, fun i u hu => cell_kept (hc i u hu) (grownBy_putObj' w D (.deferred none)) (fun r e => by cases e; exact ⟨_, hK, rfl⟩)⟩
set_option maxRecDepth 100000 in
set_option maxHeartbeats 2000000 in
theorem norm_c (A : Option Addr) (c : Nat) (xs : List T3) (w : World) (hU : U w) (hs : SlA eT3 w A xs) (hm : Small xs) :
    Calls Tryd.prog 62 #[.slice A xs.length c] w (NrmPost w xs) := by
  refine (callsIn_wide (n := 5)).1 ?_
  have hl := hm.1
  refine callsIn_of_wp_marks Tryd.func62 rfl trivial ?_ rfl
  simp only [Tryd.ntmps62, List.size_toArray, List.length_cons, List.length_nil, Nat.reduceAdd, Nat.reduceSub, Array.replicate_succ, Array.replicate_zero, List.push_toArray, List.append_toArray, List.nil_append, List.cons_append]
  gi_wp2_with (refine ⟨trivial, ?_⟩; gi_at_call 71; refine (wrong_in _ _ _ _ _).mono ?_; rintro e w1 ⟨rfl, rfl⟩)
  have bR := Boxed.new w 26 (.slice none 0 0)
  have bE := Boxed.new (w.alloc (.cells #[.slice none 0 0] 26)) 27 (.int .i64 0)
  have bN := Boxed.new ((w.alloc (.cells #[.slice none 0 0] 26)).alloc (.cells #[.int .i64 0] 27)) 26 (.slice A xs.length c)
  rw [World.size_alloc] at bE
  rw [World.size_alloc, World.size_alloc] at bN
  have hB0 : Below w.heap.size w (((w.alloc (.cells #[.slice none 0 0] 26)).alloc (.cells #[.int .i64 0] 27)).alloc (.cells #[.slice A xs.length c] 26)) := Bel
  refine wpIn_rangeFunc_ownF rfl (by omega) (gf := 113) (lb := #[.pointer (some ⟨w.heap.size + 1 + 1, 0, none⟩)]) rfl trivial (enters_of Tryd.func113 (by kernel_rfl) rfl)
    (wrong_stops (5 - 1) (by omega) (w.heap.size + 1 + 1) A c xs w _ hU hs hm hB0 (by simp) bN.cell) belowK_t (belowK_b hB0.size) (Below.refl _ _) (fun _ => rfl)
    (fun pre W => pre = [] ∧ (Boxed W w.heap.size 26 (.slice none 0 0) ∧ Boxed W (w.heap.size + 1) 27 (.int .i64 0)) ∧ Below w.heap.size w W)
    (fun c pre W => (c = .ret ∧ ∃ e, pre = [e]) ∧ (Boxed W w.heap.size 26 (.slice none 0 0) ∧ Boxed W (w.heap.size + 1) 27 (.int .i64 (pre.headD 0))) ∧ Below w.heap.size w W)
    (OwnFrom.and (ownFrom_pure _ (fun pre => pre = [])) (OwnFrom.and (OwnFrom.and (Go.Own.from (boxed_own w.heap.size _ (fun _ => .slice none 0 0)) _) (Go.Own.from (boxed_own (w.heap.size + 1) _ (fun _ => .int .i64 0)) _)) (ownFrom_below (Nat.le_refl _) hB0.size)))
    (fun c => OwnFrom.and (ownFrom_pure _ (fun pre => c = .ret ∧ ∃ e, pre = [e])) (OwnFrom.and (OwnFrom.and (Go.Own.from (boxed_own w.heap.size _ (fun _ => .slice none 0 0)) _) (Go.Own.from (boxed_own (w.heap.size + 1) _ (fun pre : List Int => .int .i64 (pre.headD 0))) _)) (ownFrom_below (Nat.le_refl _) hB0.size)))
    ⟨rfl, ⟨(bR.alloc _).alloc _, bE.alloc _⟩, hB0⟩
    (fun x => { tmps := #[.slice A xs.length c, undef, .pointer (some ⟨w.heap.size, 0, none⟩), .pointer (some ⟨w.heap.size + 1, 0, none⟩), .int .i64 x, undef, .slice A xs.length c, .func (.func 113) #[] #[.pointer (some ⟨w.heap.size + 1 + 1, 0, none⟩)], .int .i64 x, undef, undef, undef, undef, undef, undef, undef, undef, undef, undef], defers := [] }) ?assign ?body ?done ?stop
  case assign =>
    intro l x W K hK
    gi_wp2
    exact hK
  case body =>
    rintro l pre x W ⟨rfl, ⟨hR, hE⟩, hb⟩ _
    have hc := hR.cell
    have hf := hR.frozen
    have hc2 := hE.cell
    have hf2 := hE.frozen
    gi_wp2
    exact ⟨(KeepsOthers.setCell _ _ _).trans (KeepsOthers.setCell _ _ _), ⟨rfl, x, rfl⟩, ⟨(hR.set _).other (by omega) _, (hE.other (by omega) _).set _⟩, (hb.setCell (p := ⟨w.heap.size, 0, none⟩) (Nat.le_refl _) _).setCell (p := ⟨w.heap.size + 1, 0, none⟩) (by simp) _⟩
  case done =>
    rintro D ys W hD rfl ⟨hnil, ⟨hR, hE⟩, hb⟩ hK
    have HI : Hid (allR xs = 0) := (allR_zero xs).2 hnil
    clear hnil bR bE bN hB0
    have HR := Lib.hid hR; have HK := Lib.hid hK; have HE := Lib.hid hE
    have hDW : D < W.heap.size := (Array.getElem?_eq_some_iff.1 hK).1
    have hRW : w.heap.size < W.heap.size := hR.lt
    have hEW : w.heap.size + 1 < W.heap.size := hE.lt
    have hD2 : w.heap.size + 1 + 1 + 1 ≤ D := by simp at hD; omega
    have hsW := hs.below hb
    clear hR hK hE
    gi_wp2_with fail
    refine ⟨trivial, ?_⟩
    refine (callsIn_wide.2 (values_c _ _ _ _)).mono ?_
    rintro e w1 ⟨rfl, rfl⟩
    have bN := Boxed.new W 26 (.slice A xs.length c)
    have hbN : Below W.heap.size W (W.alloc (.cells #[.slice A xs.length c] 26)) := Bel
    gi_wp2_with fail
    refine ⟨trivial, ?_⟩
    refine (callsIn_wide.2 (sorted_c W.heap.size A c xs _ (hsW.below hbN) hm (by simp) bN.cell)).mono ?_
    rintro e w2 ⟨v, zs, rfl, hO, hb2, hp, hsd⟩
    have hzl : zs.length = xs.length := hp.length_eq
    have HN := Lib.hid (nrm_once hp hsd)
    have hol := onceL_len zs
    have hb2' : Below W.heap.size W w2 := hbN.trans (hb2.mono hbN.size)
    have hbs := hb2.size
    clear hp hsd
    gi_wp2_with fail
    refine ⟨trivial, ?_⟩
    refine (callsIn_wide.2 (compact_c _ v zs w2 hO (by omega) hbs)).mono ?_
    rintro e w3 ⟨A3, c3, rfl, hs3, hb3⟩
    have hb3' : Below W.heap.size W w3 := hb2'.trans (hb3.mono hbN.size)
    have hrc := (hb3'.cell (p := ⟨w.heap.size, 0, none⟩) hRW).trans HR.out.cell
    have hrf := (hb3'.frozen (p := ⟨w.heap.size, 0, none⟩) hRW).trans HR.out.frozen
    have hec := (hb3'.cell (p := ⟨w.heap.size + 1, 0, none⟩) hEW).trans HE.out.cell
    have hef := (hb3'.frozen (p := ⟨w.heap.size + 1, 0, none⟩) hEW).trans HE.out.frozen
    have hR3 : Boxed w3 w.heap.size 26 (.slice none 0 0) := (hb3'.block _ hRW).trans HR.out
    have hE3 : Boxed w3 (w.heap.size + 1) 27 (.int .i64 0) := (hb3'.block _ hEW).trans HE.out
    have hK3 : w3.heap[D]? = some (.deferred (some [])) := (hb3'.block D hDW).trans HK.out
    have hbw3 : Below w.heap.size w w3 := hb.trans (hb3'.mono hb.size)
    have hend : ∀ (u : Value) (r : Int) W4, W4 = (w3.setCell ⟨w.heap.size, 0, none⟩ u).setCell ⟨w.heap.size + 1, 0, none⟩ (.int .i64 r) →
        Boxed W4 w.heap.size 26 u ∧ Boxed W4 (w.heap.size + 1) 27 (.int .i64 r) ∧ W4.heap[D]? = some (.deferred (some [])) ∧ Below w.heap.size w W4 ∧ SlA eT3 W4 A3 (onceL zs) := by
      rintro u r W4 rfl
      refine ⟨(hR3.set _).other (by omega) _, (hE3.other (by omega) _).set _, (heap_setCell_other _ _ D _ (by show D ≠ w.heap.size + 1; omega)).trans ((heap_setCell_other _ _ D _ (by show D ≠ w.heap.size; omega)).trans hK3), (hbw3.setCell (p := ⟨w.heap.size, 0, none⟩) (Nat.le_refl _) _).setCell (p := ⟨w.heap.size + 1, 0, none⟩) (by simp) _, ?_⟩
      exact (hs3.box3 hR3 _).box3 (hE3.other (by omega) _) _
    clear hR3 hE3
    by_cases h4 : 4096 < (onceL zs).length
    · gi_wp2
      obtain ⟨hR4, hE4, hK4, hb4, hs4⟩ := hend (.slice none 0 0) 6 _ rfl
      refine ⟨by simp, .inl ⟨_, _, rfl, run_takeDeferred hK4, ?_⟩⟩
      have hc5 := cell_kept hR4.cell (grownBy_putObj' _ D (.deferred none)) (fun r e => by cases e; exact ⟨_, hK4, rfl⟩)
      have hc6 := cell_kept hE4.cell (grownBy_putObj' _ D (.deferred none)) (fun r e => by cases e; exact ⟨_, hK4, rfl⟩)
      refine ⟨.tuple #[.slice none 0 0, .int .i64 6], ?_, none, 0, [], 6, rfl, SlA.nil, hb4.trans (belowK_b (w := w) (Nat.le_refl _) _ D _ _ (by omega) hK4 rfl rfl), by simp, .inr ⟨HI.out, _, HN.out, by omega, .inl ⟨h4, rfl, rfl⟩⟩⟩
      simp [results, Tryd.f62, go_sem, hc5, hc6]
    · gi_wp2
      obtain ⟨hR4, hE4, hK4, hb4, hs4⟩ := hend (.slice A3 (onceL zs).length c3) 0 _ rfl
      refine ⟨by simp, .inl ⟨_, _, rfl, run_takeDeferred hK4, ?_⟩⟩
      have hc5 := cell_kept hR4.cell (grownBy_putObj' _ D (.deferred none)) (fun r e => by cases e; exact ⟨_, hK4, rfl⟩)
      have hc6 := cell_kept hE4.cell (grownBy_putObj' _ D (.deferred none)) (fun r e => by cases e; exact ⟨_, hK4, rfl⟩)
      refine ⟨.tuple #[.slice A3 (onceL zs).length c3, .int .i64 0], ?_, A3, c3, onceL zs, 0, rfl, hs4.putObj hK4, hb4.trans (belowK_b (w := w) (Nat.le_refl _) _ D _ _ (by omega) hK4 rfl rfl), by omega, .inr ⟨HI.out, _, HN.out, by omega, .inr ⟨by omega, rfl, rfl⟩⟩⟩
      simp [results, Tryd.f62, go_sem, hc5, hc6]
  case stop =>
    rintro D c' pre W hD ⟨q, hq⟩ ⟨⟨rfl, e, rfl⟩, ⟨hR, hE⟩, hb⟩ hK
    have HI : Hid (allR xs = e ∧ allR xs ≠ 0) := by
      refine ⟨by unfold allR; rw [hq]; simp, fun h => ?_⟩
      have := (allR_zero xs).1 h
      rw [hq] at this; simp at this
    gi_wp2
    refine ⟨by simp, .inl ⟨_, _, rfl, run_takeDeferred hK, ?_⟩⟩
    have hc5 := cell_kept hR.cell (grownBy_putObj' _ D (.deferred none)) (fun r e => by cases e; exact ⟨_, hK, rfl⟩)
    have hc6 := cell_kept hE.cell (grownBy_putObj' _ D (.deferred none)) (fun r e => by cases e; exact ⟨_, hK, rfl⟩)
    refine ⟨.tuple #[.slice none 0 0, .int .i64 e], ?_, none, 0, [], e, rfl, SlA.nil, hb.trans (belowK_b (w := w) (Nat.le_refl _) W D _ _ (by simp at hD; omega) hK rfl rfl), by simp, .inl ⟨HI.out.2, HI.out.1.symm, rfl⟩⟩
    simp [results, Tryd.f62, go_sem, hc5, hc6]
end Go.Proofs.YtpccanadijefnaaDoor
