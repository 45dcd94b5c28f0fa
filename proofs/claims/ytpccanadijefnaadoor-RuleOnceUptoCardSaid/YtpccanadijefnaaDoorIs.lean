/- rule.Is: whether rules are normal. No condition. -/
import Derived.Test.YtpccanadijefnaaDoorWrong
import Derived.Test.YtpccanadijefnaaDoorRegP
namespace Go.Proofs.YtpccanadijefnaaDoor
open Go Go.RowKit Go.Shelf
attribute [local go_sem] Oper.semAt_some
/-- Whether rules are normal. -/
def isE (xs : List T3) : Int := if errR xs ≠ [] then (errR xs).headD 0 else if riseT xs = false then 7 else if 4096 < xs.length then 6 else 0
set_option maxRecDepth 100000 in
set_option maxHeartbeats 2000000 in
theorem is_c (A : Option Addr) (c : Nat) (xs : List T3) (w : World) (hU : U w) (hs : SlA eT3 w A xs) (hm : Small xs) :
    Calls Tryd.prog 26 #[.slice A xs.length c] w (Ret w (.int .i64 (isE xs))) := by
  refine (callsIn_wide (n := 5)).1 ?_
  have hl := hm.1
  refine callsIn_of_wp_marks Tryd.func26 rfl trivial ?_ rfl
  simp only [Tryd.ntmps26, List.size_toArray, List.length_cons, List.length_nil, Nat.reduceAdd, Nat.reduceSub, Array.replicate_succ, Array.replicate_zero, List.push_toArray, List.append_toArray, List.nil_append, List.cons_append]
  gi_wp2_with (refine ⟨trivial, ?_⟩; gi_at_call 71; refine (wrong_in _ _ _ _ _).mono ?_; rintro e w1 ⟨rfl, rfl⟩)
  have bR := Boxed.new w 27 (.int .i64 0)
  have bN := Boxed.new (w.alloc (.cells #[.int .i64 0] 27)) 26 (.slice A xs.length c)
  rw [World.size_alloc] at bN
  have hB0 : Below w.heap.size w ((w.alloc (.cells #[.int .i64 0] 27)).alloc (.cells #[.slice A xs.length c] 26)) := Bel
  refine wpIn_rangeFunc_ownF rfl (by omega) (gf := 113) (lb := #[.pointer (some ⟨w.heap.size + 1, 0, none⟩)]) rfl trivial (enters_of Tryd.func113 (by kernel_rfl) rfl)
    (wrong_stops (5 - 1) (by omega) (w.heap.size + 1) A c xs w _ hU hs hm hB0 (by simp) bN.cell) belowK_t (belowK_b (by simp; omega)) (Below.refl _ _) (fun _ => rfl)
    (fun pre W => pre = [] ∧ Boxed W w.heap.size 27 (.int .i64 0) ∧ Below w.heap.size w W)
    (fun c pre W => (c = .ret ∧ ∃ e, pre = [e]) ∧ Boxed W w.heap.size 27 (.int .i64 (pre.headD 0)) ∧ Below w.heap.size w W)
    (OwnFrom.and (ownFrom_pure _ (fun pre => pre = [])) (OwnFrom.and (Own.from (boxed_own w.heap.size _ (fun _ => .int .i64 0)) _) (ownFrom_below (Nat.le_refl _) (by simp; omega))))
    (fun c => OwnFrom.and (ownFrom_pure _ (fun pre => c = .ret ∧ ∃ e, pre = [e])) (OwnFrom.and (Own.from (boxed_own w.heap.size _ (fun pre : List Int => .int .i64 (pre.headD 0))) _) (ownFrom_below (Nat.le_refl _) (by simp; omega))))
    ⟨rfl, bR.alloc _, hB0⟩
    (fun x => { tmps := #[.slice A xs.length c, undef, .pointer (some ⟨w.heap.size, 0, none⟩), .int .i64 x, undef, .slice A xs.length c, .func (.func 113) #[] #[.pointer (some ⟨w.heap.size + 1, 0, none⟩)], .int .i64 x, undef, undef, undef, undef, undef, undef, undef, undef, undef, undef, undef, undef, undef, undef, undef, undef, undef, undef, undef, undef, undef, undef, undef, undef, undef], defers := [] }) ?assign ?body ?done ?stop
  case assign =>
    intro l x W K hK
    gi_wp2
    exact hK
  case body =>
    rintro l pre x W ⟨rfl, hR, hb⟩ _
    have hc := hR.cell
    have hf := hR.frozen
    gi_wp2
    exact ⟨KeepsOthers.setCell _ _ _, ⟨rfl, x, rfl⟩, hR.set _, hb.setCell (p := ⟨w.heap.size, 0, none⟩) (Nat.le_refl _) _⟩
  case done =>
    rintro D ys W hD rfl ⟨hnil, hR, hb⟩ hK
    have HI : Hid (isE xs = if riseT xs = false then 7 else if 4096 < xs.length then 6 else 0) := by show isE xs = _; unfold isE; rw [if_neg (by simpa using hnil)]
    clear hnil bR bN hB0
    have HR := Lib.hid hR; have HK := Lib.hid hK
    have hDW : D < W.heap.size := (Array.getElem?_eq_some_iff.1 hK).1
    have hBW : w.heap.size < W.heap.size := hR.lt
    have hDB : D ≠ w.heap.size := by simp at hD; omega
    have hcc := hR.cell
    have hff := hR.frozen
    clear hR hK
    gi_wp2
    refine wpIn_wide.2 ?_
    go_loopw [11] (fun s wr => ∃ k : Nat, k ≤ xs.length ∧ s = .int .i64 k ∧ Hid (upTo xs k) ∧ Below W.heap.size W wr) (fun s _ => xs.length - (intOf s).toNat)
    case atStart => exact ⟨0, by omega, rfl, fun i h h1 => by omega, Below.refl _ _⟩
    case round =>
      obtain ⟨k, hk, rfl, HUP, hbr⟩ := hrel
      have hbw : Below w.heap.size w wr := Bst hb hbr
      by_cases hlt : k < xs.length
      · rcases Nat.eq_zero_or_pos k with rfl | hp
        · go_wp2_with fail
          refine region_seqP [(0, true), (1, true), (2, true), (3, true), (4, true), (5, true), (6, true), (7, true), (8, true), (9, true), (10, true), (11, true), (12, false), (13, true), (14, true)] (by kernel_rfl) (by kernel_rfl) ?_
          intro W2 hW2
          repeat (first
            | (refine seq_q rfl (fun K hK => ?_); unfold takeQ; go_simp; refine hK _ ?_; clear hK K)
            | (refine seq_t rfl (fun K hK => ?_); go_simp; refine hK _ _ (.of Bel) ?_; clear hK K))
          refine seq_nil ?_
          rw [noP_normal]
          go_wp2
          exact ⟨⟨1, by omega, rfl, fun i h h1 => by omega, Bel⟩, by simp [intOf]; omega⟩
        · obtain ⟨j, rfl⟩ : ∃ j, k = j + 1 := ⟨k - 1, by omega⟩
          obtain ⟨b, o, rfl, hbs, c1, c2, c3⟩ := hs.n3 (fun _ => rfl) hbw j (by omega)
          obtain ⟨b', o', h', _, d1, d2, d3⟩ := hs.n3 (fun _ => rfl) hbw (j + 1) (by omega)
          obtain ⟨rfl, rfl⟩ : b = b' ∧ o = o' := by injection h' with h'; injection h' with h1 h2; exact ⟨h1, h2⟩
          clear h'
          have hjl : j < xs.length := by omega
          have hj1 : (j : Int) + 1 < xs.length := by omega
          have hj0 : 0 ≤ (j : Int) + 1 := by omega
          have ht1 : ((j : Int) + 1).toNat = j + 1 := by omega
          have hwj : IntKind.i64.wrap (j : Int) = j := IntWalk.i64_in _ (by omega)
          cases hy : ltT xs[j] xs[j + 1]
          all_goals
            have HY := Lib.hid hy
            clear hy
            go_wp2_with fail
            refine region_seqP [(0, true), (1, true), (2, true), (3, true), (4, true), (5, true), (6, true), (7, true), (8, true), (9, true), (10, true), (11, true), (12, false), (13, true), (14, true)] (by kernel_rfl) (by kernel_rfl) ?_
            intro W2 hW2
            obtain ⟨hcW, hzW⟩ := bcell hW2
            repeat (first
              | (refine seq_q rfl (fun K hK => ?_); unfold takeQ; go_simp; refine hK _ ?_; clear hK K)
              | (refine seq_t rfl (fun K hK => ?_); go_simp; go_at_call 30; refine (rless_c xs[j] xs[j + 1] _).mono ?_; rintro e w3 ⟨rfl, hb3⟩; rw [HY.out]; go_simp; refine hK _ _ (.of Bel) ?_; clear hK K))
            refine seq_nil ?_
            rw [noP_normal]
          · have HV : Hid (isE xs = 7) := by show isE xs = 7; rw [HI.out, if_pos (rise_no hlt HY.out)]
            have hbW3 : Below W.heap.size W w3 := Bst hbr (Bst hW2 hb3)
            have hcc3 := (hbW3.cell (p := ⟨w.heap.size, 0, none⟩) hBW).trans hcc
            have hff3 := (hbW3.frozen (p := ⟨w.heap.size, 0, none⟩) hBW).trans hff
            go_wp2
            have hK3 : (w3.setCell ⟨w.heap.size, 0, none⟩ (.int .i64 7)).heap[D]? = some (.deferred (some [])) := (heap_setCell_other w3 _ D _ hDB).trans ((hbW3.block D hDW).trans HK.out)
            have hR3 : Boxed (w3.setCell ⟨w.heap.size, 0, none⟩ (.int .i64 7)) w.heap.size 27 (.int .i64 7) := Boxed.set _ (show Boxed w3 w.heap.size 27 (.int .i64 0) from (hbW3.block _ hBW).trans HR.out)
            have hb3' : Below w.heap.size w (w3.setCell ⟨w.heap.size, 0, none⟩ (.int .i64 7)) := Bsc (Bst hb hbW3) (Nat.le_refl _) _
            refine ⟨by simp, .inl ⟨_, _, rfl, run_takeDeferred hK3, ?_⟩⟩
            have hc5 := cell_kept hR3.cell (grownBy_putObj' _ D (.deferred none)) (fun r e => by cases e; exact ⟨_, hK3, rfl⟩)
            refine ⟨_, ?_, by rw [HV.out], hb3'.trans (belowK_b (w := w) (Nat.le_refl _) _ D _ _ (by simp at hD; omega) hK3 rfl rfl)⟩
            simp [results, Tryd.f26, go_sem, hc5]
          · go_wp2
            exact ⟨⟨j + 1 + 1, by omega, by go_num, upTo_succ hlt HUP.out HY.out, Bel⟩, by simp [intOf]; omega⟩
      · obtain rfl : k = xs.length := by omega
        have HR2 := Lib.hid (upTo_all HUP.out)
        have HS : Hid (isE xs = if 4096 < xs.length then 6 else 0) := by show isE xs = _; rw [HI.out, if_neg (by rw [HR2.out]; simp)]
        have hcc3 := (hbr.cell (p := ⟨w.heap.size, 0, none⟩) hBW).trans hcc
        have hff3 := (hbr.frozen (p := ⟨w.heap.size, 0, none⟩) hBW).trans hff
        by_cases h4 : 4096 < xs.length
        · have HV : Hid (isE xs = 6) := by show isE xs = 6; rw [HS.out, if_pos h4]
          go_wp2
          refine wpIn_wide.2 ?_
          go_wp2
          have hK3 : (wr.setCell ⟨w.heap.size, 0, none⟩ (.int .i64 6)).heap[D]? = some (.deferred (some [])) := (heap_setCell_other wr _ D _ hDB).trans ((hbr.block D hDW).trans HK.out)
          have hR3 : Boxed (wr.setCell ⟨w.heap.size, 0, none⟩ (.int .i64 6)) w.heap.size 27 (.int .i64 6) := Boxed.set _ (show Boxed wr w.heap.size 27 (.int .i64 0) from (hbr.block _ hBW).trans HR.out)
          have hb3' : Below w.heap.size w (wr.setCell ⟨w.heap.size, 0, none⟩ (.int .i64 6)) := Bsc hbw (Nat.le_refl _) _
          refine ⟨by simp, .inl ⟨_, _, rfl, run_takeDeferred hK3, ?_⟩⟩
          have hc5 := cell_kept hR3.cell (grownBy_putObj' _ D (.deferred none)) (fun r e => by cases e; exact ⟨_, hK3, rfl⟩)
          refine ⟨_, ?_, by rw [HV.out], hb3'.trans (belowK_b (w := w) (Nat.le_refl _) _ D _ _ (by simp at hD; omega) hK3 rfl rfl)⟩
          simp [results, Tryd.f26, go_sem, hc5]
        · have HV : Hid (isE xs = 0) := by show isE xs = 0; rw [HS.out, if_neg h4]
          go_wp2
          refine wpIn_wide.2 ?_
          go_wp2
          have hK3 : (wr.setCell ⟨w.heap.size, 0, none⟩ (.int .i64 0)).heap[D]? = some (.deferred (some [])) := (heap_setCell_other wr _ D _ hDB).trans ((hbr.block D hDW).trans HK.out)
          have hR3 : Boxed (wr.setCell ⟨w.heap.size, 0, none⟩ (.int .i64 0)) w.heap.size 27 (.int .i64 0) := Boxed.set _ (show Boxed wr w.heap.size 27 (.int .i64 0) from (hbr.block _ hBW).trans HR.out)
          have hb3' : Below w.heap.size w (wr.setCell ⟨w.heap.size, 0, none⟩ (.int .i64 0)) := Bsc hbw (Nat.le_refl _) _
          refine ⟨by simp, .inl ⟨_, _, rfl, run_takeDeferred hK3, ?_⟩⟩
          have hc5 := cell_kept hR3.cell (grownBy_putObj' _ D (.deferred none)) (fun r e => by cases e; exact ⟨_, hK3, rfl⟩)
          refine ⟨_, ?_, by rw [HV.out], hb3'.trans (belowK_b (w := w) (Nat.le_refl _) _ D _ _ (by simp at hD; omega) hK3 rfl rfl)⟩
          simp [results, Tryd.f26, go_sem, hc5]
  case stop =>
    rintro D c' pre W hD ⟨q, hq⟩ ⟨⟨rfl, e, rfl⟩, hR, hb⟩ hK
    have HI : Hid (isE xs = e) := by show isE xs = _; unfold isE; rw [hq]; simp
    gi_wp2
    refine ⟨by simp, .inl ⟨_, _, rfl, run_takeDeferred hK, ?_⟩⟩
    have hc5 := cell_kept hR.cell (grownBy_putObj' _ D (.deferred none)) (fun r e => by cases e; exact ⟨_, hK, rfl⟩)
    refine ⟨.int .i64 e, ?_, by rw [HI.out], hb.trans (belowK_b (w := w) (Nat.le_refl _) W D _ _ (by simp at hD; omega) hK rfl rfl)⟩
    simp [results, Tryd.f26, go_sem, hc5]
end Go.Proofs.YtpccanadijefnaaDoor
