/- align.Steps: the steps of two tokens. No condition. -/
import Derived.Test.YtpnhmapkdbnkmaaGreatDoorBck
import Derived.Test.YtpnhmapkdbnkmaaGreatDoorK809
namespace Go.Proofs.YtpnhmapkdbnkmaaGreatDoor
open Go Go.RowKit Go.Shelf
attribute [local go_sem] Oper.semAt_some
theorem back_stops (n : Nat) (hn : 1 ≤ n) (Bn G : Nat) (a b : List Int) (w0 w : World) (hG : GridAt w0 G a b) (ha : a.length ≤ 64) (hb : b.length ≤ 64) (hBn : w0.cell? ⟨Bn, 0, none⟩ = some (.pointer (some ⟨G, 0, none⟩))) (hb0 : Below w0.heap.size w0 w) :
    SeqStopsK Fence.wide n Tryz.prog 204 #[.pointer (some ⟨Bn, 0, none⟩)] (fun x : St => #[.agg #[.int .i64 x.k, .int .i32 x.a, .int .i32 x.b]]) (Below w0.heap.size) (fun ys => ys = backL a b a.length b.length) (fun pre => ∃ q, backL a b a.length b.length = pre ++ q) (a.length + b.length) w := fun l J Jx W hW hJ _ hY h0 =>
  back1_in n hn l Bn G a b w0 hG ha hb hBn J Jx W hJ hY (hb0.trans (hW.mono hb0.size)) h0
theorem info_step_parts : ∃ i, Tryz.prog.info? 265 = some i ∧ i.zero = some (.agg #[.int .i64 0, .int .i32 0, .int .i32 0]) ∧ i.size = 3 ∧ i.bytes = 16 := by
  obtain ⟨i, h1, h2⟩ := Option.map_eq_some_iff.1 info_step
  simp only [Prod.mk.injEq] at h2
  exact ⟨i, h1, h2.1, h2.2.1, h2.2.2⟩
theorem cells_newS (w : World) (x : St) (t : TypeId) : ∀ j u, (eSt.e x)[j]? = some u → (w.alloc (.cells #[.int .i64 x.k, .int .i32 x.a, .int .i32 x.b] t)).cell? ((⟨w.heap.size, 0, none⟩ : Addr).add j) = some u := by
  intro j u hj
  have ha : (⟨w.heap.size, 0, none⟩ : Addr).add j = ⟨w.heap.size, j, none⟩ := by unfold Addr.add; split <;> simp_all
  rw [ha]
  have hh : (w.alloc (.cells #[.int .i64 x.k, .int .i32 x.a, .int .i32 x.b] t)).heap[w.heap.size]? = some (.cells #[.int .i64 x.k, .int .i32 x.a, .int .i32 x.b] t (0, 0)) := by
    show (w.heap.push _)[w.heap.size]? = _
    simp
  unfold World.cell?
  simp only [hh]
  have hj' : [Value.int .i64 x.k, Value.int .i32 x.a, Value.int .i32 x.b][j]? = some u := hj
  simpa using hj'
set_option maxRecDepth 100000 in
set_option maxHeartbeats 2000000 in
theorem sappseq_c (Bn G : Nat) (a b : List Int) (w : World) (hG : GridAt w G a b) (ha : a.length ≤ 64) (hb : b.length ≤ 64) (hc : w.cell? ⟨Bn, 0, none⟩ = some (.pointer (some ⟨G, 0, none⟩))) :
    Calls Tryz.prog 203 #[.slice none 0 0, .func (.func 204) #[] #[.pointer (some ⟨Bn, 0, none⟩)]] w fun e w' => ∃ v, e = .returned v ∧ Own eSt w.heap.size 265 w' v (backL a b a.length b.length) ∧ Below w.heap.size w w' := by
  refine (callsIn_wide (n := 5)).1 ?_
  obtain ⟨i0, hi, hz0, hz1, hz2⟩ := info_step_parts
  refine callsIn_of_wp_marks Tryz.func203 rfl trivial ?_ rfl
  simp only [Tryz.ntmps203, List.size_toArray, List.length_cons, List.length_nil, Nat.reduceAdd, Nat.reduceSub, Array.replicate_succ, Array.replicate_zero, List.push_toArray, List.append_toArray, List.nil_append, List.cons_append]
  gi_wp2
  have bS := Boxed.new w 185 (.slice none 0 0)
  have hB0 : Below w.heap.size w (w.alloc (.cells #[.slice none 0 0] 185)) := Bel
  refine wpIn_rangeFunc_ownH rfl (by omega) (gf := 204) (lb := #[.pointer (some ⟨Bn, 0, none⟩)]) rfl trivial (enters_of Tryz.func204 (by kernel_rfl) rfl)
    (back_stops (5 - 1) (by omega) Bn G a b w _ hG ha hb hc hB0) belowK_t (belowK_b hB0.size) (Below.refl _ _) (fun _ => rfl)
    (fun pre W => (∃ v, Boxed W w.heap.size 185 v ∧ W.ownsRow w.heap.size 265 3 v pre.length (pre.flatMap eSt.e) ∧ True) ∧ Below w.heap.size w W)
    (fun _ _ _ => False)
    (OwnFrom.and (Own.from (holdsRow_own w.heap.size w.heap.size 185 265 3 (fun pre : List St => pre.length) (fun pre => pre.flatMap eSt.e) (fun _ _ => True)) _) (ownFrom_below (Nat.le_refl _) hB0.size))
    (fun _ _ _ _ _ hs _ _ => hs)
    ⟨⟨_, bS, World.ownsRow_nil _ _ _ _, trivial⟩, hB0⟩
    (fun x a' W => ∃ Bx, w.heap.size < Bx ∧ W.heap[Bx]? = some (.cells #[.int .i64 x.k, .int .i32 x.a, .int .i32 x.b] 265 (0, 0)) ∧ a' = { tmps := #[.slice none 0 0, .func (.func 204) #[] #[.pointer (some ⟨Bn, 0, none⟩)], .pointer (some ⟨w.heap.size, 0, none⟩), undef, .slice none 0 0, .pointer (some ⟨Bx, 0, none⟩), .func (.func 204) #[] #[.pointer (some ⟨Bn, 0, none⟩)], .agg #[.int .i64 x.k, .int .i32 x.a, .int .i32 x.b], undef, undef, undef, undef, undef], defers := [] })
    (fun x a' _ X Y row hs hg hr => by
      obtain ⟨Bx, h1, h2, h3⟩ := hs
      refine ⟨Bx, h1, (hg.block Bx (Array.getElem?_eq_some_iff.1 h2).1 (fun e => ?_)).trans h2, h3⟩
      obtain ⟨_, o, ho, hc⟩ := hr Bx e.symm
      rw [h2] at ho; cases ho; cases hc)
    ?assign ?body ?done ?stop
  case assign =>
    rintro l pre x W K ⟨⟨v, bS1, hr1, _⟩, hB1⟩ hK
    gi_wp2
    refine hK _ _ ((KeepsOthers.alloc _ _).from _) ((Below.refl _ W).alloc hB1.size _) ⟨⟨v, bS1.alloc _, hr1.alloc _, trivial⟩, hB1.alloc hB1.size _⟩ ⟨W.heap.size, bS1.lt, ?_, rfl⟩
    show (W.heap.push _)[W.heap.size]? = _
    simp
  case body =>
    rintro l pre x a' W hl' ⟨r, hr⟩ ⟨⟨v, hv, hrow, _⟩, hB⟩ ⟨Bx, hBx, hX, rfl⟩ hlt
    have hvc := hv.cell
    have hvf := hv.frozen
    have x0 : W.cell? ⟨Bx, 0, none⟩ = some (.int .i64 x.k) := by unfold World.cell?; simp only [hX]; rfl
    have x1 : W.cell? ⟨Bx, 1, none⟩ = some (.int .i32 x.a) := by unfold World.cell?; simp only [hX]; rfl
    have x2 : W.cell? ⟨Bx, 2, none⟩ = some (.int .i32 x.b) := by unfold World.cell?; simp only [hX]; rfl
    have hlx : pre.length < 128 := by omega
    gi_wp2_with (gi_at_builtin; refine wpListIn_append_own _ rfl _ _ 185 rfl w.heap.size 265 i0 (.agg #[.int .i64 0, .int .i32 0, .int .i32 0]) 3 16 Tryz.underlying185 hi hz0 hz1 hz2 rfl (by decide) v pre.length _ rfl (hrow.alloc _) ⟨W.heap.size, 0, none⟩ 1 1 (eSt.e x) rfl rfl (cells_newS W x _) (eSt.one x) (by simp only [maxLen]; omega) (by omega) (by have := hB.size; simp; omega) ?_; intro v' w1 hown' hgrow _; obtain ⟨g', cap', rfl⟩ := ownsRow_succ hown'; obtain ⟨hv1, hv2, hr2, hk2, hb2⟩ := hv.appended (by decide) hrow hB.size (Nat.le_refl _) hown' hgrow; have hc1 := hv1.cell; have hf1 := hv1.frozen)
    refine ⟨hk2.from _, hb2, ⟨⟨_, hv2, ?_, trivial⟩, hB.trans hb2⟩⟩
    simpa using hr2
  case done =>
    rintro D ys W hD rfl ⟨⟨v, hv, hrow, _⟩, hB⟩ hK
    have hvc := hv.cell
    gi_wp2
    refine ⟨by simp, .inl ⟨_, _, rfl, run_takeDeferred hK, ?_⟩⟩
    refine ⟨v, ?_, v, rfl, ownsRow_putObj hrow _ hK rfl, hB.trans (belowK_b (w := w) (Nat.le_refl _) W D _ _ (by simp at hD; omega) hK rfl rfl)⟩
    simp [results, Tryz.f203, go_sem]
  case stop =>
    rintro D c pre W _ _ h _
    exact h.elim
set_option maxRecDepth 100000 in
set_option maxHeartbeats 1000000 in
theorem scollect_c (Bn G : Nat) (a b : List Int) (w : World) (hG : GridAt w G a b) (ha : a.length ≤ 64) (hb : b.length ≤ 64) (hc : w.cell? ⟨Bn, 0, none⟩ = some (.pointer (some ⟨G, 0, none⟩))) :
    Calls Tryz.prog 156 #[.func (.func 204) #[] #[.pointer (some ⟨Bn, 0, none⟩)]] w fun e w' => ∃ v, e = .returned v ∧ Own eSt w.heap.size 265 w' v (backL a b a.length b.length) ∧ Below w.heap.size w w' := by
  go_enter Tryz.func156, Tryz.ntmps156
  go_wp2_with (go_at_call 203; refine (sappseq_c Bn G a b _ hG ha hb hc).mono ?_; rintro e w1 ⟨v, rfl, hO, hb1⟩)
  go_ret
  exact ⟨_, rfl, hO, hb1⟩
set_option maxRecDepth 100000 in
theorem back_c (G : Nat) (w : World) : Calls Tryz.prog 157 #[.pointer (some ⟨G, 0, none⟩)] w fun e w' => e = .returned (.func (.func 204) #[] #[.pointer (some ⟨w.heap.size, 0, none⟩)]) ∧ w' = w.alloc (.cells #[.pointer (some ⟨G, 0, none⟩)] 260) := by
  go_enter Tryz.func157, Tryz.ntmps157
  go_wp2
  go_ret
  exact ⟨rfl, rfl⟩
end Go.Proofs.YtpnhmapkdbnkmaaGreatDoor
