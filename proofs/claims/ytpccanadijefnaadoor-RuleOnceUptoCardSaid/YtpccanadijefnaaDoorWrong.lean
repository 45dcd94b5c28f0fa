/- rule.wrong: the errors of rules that may not be, handed on one by one; rule.Is. No condition. -/
import Derived.RangeFuncNested
import Derived.RangeFuncBound
import Derived.RangeFuncCalls
import Derived.RangeFuncLeaves
import Derived.RangeFuncOne
import Derived.RangeFuncBox
import Derived.Shelf.Abstract
import Derived.WalkKit
import Derived.OwnWalkIn
import Derived.TacticsInMore
import Derived.LoopNIn
import Derived.LoopIn
import Derived.Test.YtpccanadijefnaaDoorLaw7
namespace Go.Proofs.YtpccanadijefnaaDoor
open Go Go.RowKit Go.Shelf
attribute [local go_sem] Oper.semAt_some
/-- The errors of rules that may not be. -/
def errR (xs : List T3) : List Int := (xs.map rchk).filter fun e => decide (e ≠ 0)
theorem errR_take (xs : List T3) (k : Nat) (h : k < xs.length) : errR (xs.take (k + 1)) = errR (xs.take k) ++ if rchk xs[k] ≠ 0 then [rchk xs[k]] else [] := by
  unfold errR
  rw [List.take_succ_eq_append_getElem h, List.map_append, List.filter_append]
  congr 1
  by_cases hc : rchk xs[k] = 0 <;> simp [hc]
theorem grown_of_below {W W' : World} (h : Below W.heap.size W W') : W.grownBy W' none := ⟨h.os, h.tape, h.output, h.size, fun i hi _ => h.block i hi⟩
theorem scope_in {P : Program} {c : Code} {n : Nat} {Q : Exit → Act → World → Prop} {a : Act} {w : World} (h : c.wpIn Fence.wide n P (Exit.noGoto Q) a w) : (Code.scope c).wpIn Fence.wide n P Q a w := wpIn_wide.2 (wp_scope_straight (wpIn_wide.1 h))
set_option maxRecDepth 100000 in
set_option maxHeartbeats 1000000 in
theorem wrong1_in (n : Nat) (hn : 1 ≤ n) (l Bn : Nat) (A : Option Addr) (c : Nat) (xs : List T3) (w0 : World) (hU : U w0) (hs : SlA eT3 w0 A xs) (hm : Small xs) (J Jx : List Int → World → Prop) (W : World)
    (hJ : AbidesFrom W.heap.size J)
    (hY : ∀ pre x W1, J pre W1 → pre.length < xs.length → YieldAt Fence.wide (n - 1) Tryd.prog l #[.int .i64 x] W1 fun e W' =>
      (e = .returned (.bool true) ∧ J (pre ++ [x]) W' ∧ Below w0.heap.size W1 W') ∨ (e = .returned (.bool false) ∧ Jx (pre ++ [x]) W'))
    (hb0 : Below w0.heap.size w0 W) (hBn : W.cell? ⟨Bn, 0, none⟩ = some (.slice A xs.length c)) (h0 : J [] W) :
    CallsIn Fence.wide n Tryd.prog 113 #[.func (.yield l) #[] #[], .pointer (some ⟨Bn, 0, none⟩)] W fun e W' => (∃ v, e = .returned v) ∧
      ((∃ ys, ys = errR xs ∧ J ys W') ∨ (∃ pre, (∃ q, errR xs = pre ++ q) ∧ Jx pre W')) := by
  have hl := hm.1
  refine callsIn_of_wp Tryd.func113 rfl trivial ?_ rfl
  simp only [Tryd.ntmps113, List.size_toArray, List.length_cons, List.length_nil, Nat.reduceAdd, Nat.reduceSub, Array.replicate_succ, Array.replicate_zero, List.push_toArray, List.append_toArray, List.nil_append, List.cons_append]
  gi_wp2
  refine scope_in ?_
  refine wpIn_seq_k fun K hK => wpIn_label (hK _ _ ?_)
  clear hK K
  have HU := Lib.hid hU
  clear hU
  gi_wp2
  gi_loopw [8] (fun s wr => ∃ (k : Nat) (pre : List Int), k ≤ xs.length ∧ s = .int .i64 k ∧ Hid (pre = errR (xs.take k)) ∧ pre.length ≤ k ∧ J pre wr ∧ Below w0.heap.size w0 wr) (fun s _ => xs.length - (intOf s).toNat)
  case atStart => exact ⟨0, [], by omega, rfl, rfl, by simp, h0, hb0⟩
  case round =>
    obtain ⟨k, pre, hk, rfl, HP, hpl, hJp, hb⟩ := hrel
    by_cases hlt : k < xs.length
    · obtain ⟨b, o, rfl, hbs, p1, p2, p3⟩ := hs.n3 (fun _ => rfl) hb k hlt
      obtain ⟨z1, z2⟩ := hm.at k hlt
      have het := errR_take xs k hlt
      by_cases hz : rchk xs[k] = 0
      · rw [if_neg (by simpa using hz), List.append_nil] at het
        have HT := Lib.hid het; have HZ := Lib.hid hz
        clear het hz
        gi_wp2_with (refine ⟨trivial, ?_⟩; gi_at_call 28; refine (callsIn_wide.2 (rchk_c xs[k] _ (HU.out.to Bel) (by omega) (by omega))).mono ?_; rintro e w2 ⟨rfl, hb2⟩; rw [HZ.out])
        refine ⟨fun _ h => (by cases h), ?_⟩
        gi_wp2
        have hbw : Below wr.heap.size wr w2 := Bel
        refine ⟨⟨k + 1, pre, by omega, by go_num, ?_, by omega, hJ _ _ _ none hJp (grown_of_below hbw) (fun r e => by cases e), Bel⟩, by simp [intOf]; omega⟩
        show pre = _
        rw [HT.out]; exact HP.out
      · rw [if_pos hz] at het
        have HT := Lib.hid het
        have hn : (rchk xs[k] != 0) = true := by simp [hz]
        clear het hz
        gi_wp2_with (refine ⟨trivial, ?_⟩; gi_at_call 28; refine (callsIn_wide.2 (rchk_c xs[k] _ (HU.out.to Bel) (by omega) (by omega))).mono ?_; rintro e w2 ⟨rfl, hb2⟩; have hbw : Below wr.heap.size wr w2 := Bel; have hb02 : Below w0.heap.size w0 w2 := Bel; obtain ⟨fn, tmps, assign, body, hy, hR⟩ := hY pre (rchk xs[k]) w2 (hJ _ _ _ none hJp (grown_of_below hbw) (fun r e => by cases e)) (by omega))
        refine hR.mono ?_
        rintro e W3 (⟨rfl, hJ3, hk3⟩ | ⟨rfl, hJx3⟩)
        · gi_wp2
          refine ⟨⟨k + 1, pre ++ [rchk xs[k]], by omega, by go_num, ?_, by simp; omega, hJ3, hb02.trans hk3⟩, by simp [intOf]; omega⟩
          show _ = _
          rw [HT.out, HP.out]
        · gi_wp2
          rw [Exit.noGoto_normal]
          go_end0
          refine ⟨⟨_, rfl⟩, .inr ⟨_, ⟨errR (xs.drop (k + 1)), ?_⟩, hJx3⟩⟩
          rw [HP.out, ← HT.out]
          unfold errR
          rw [← List.filter_append, ← List.map_append, List.take_append_drop]
    · gi_wp2
      rw [Exit.noGoto_normal]
      go_end0
      refine ⟨⟨_, rfl⟩, .inl ⟨pre, ?_, hJp⟩⟩
      rw [HP.out, List.take_of_length_le (by omega)]
set_option maxHeartbeats 1000000 in
/-- What 'wrong' hands back: its argument is boxed. -/
theorem wrong_in (n k c : Nat) (A : Option Addr) (w : World) : CallsIn Fence.wide n Tryd.prog 71 #[.slice A k c] w fun e w' => e = .returned (.func (.func 113) #[] #[.pointer (some ⟨w.heap.size, 0, none⟩)]) ∧ w' = w.alloc (.cells #[.slice A k c] 26) := by
  refine callsIn_of_wp Tryd.func71 rfl trivial ?_ rfl
  simp only [Tryd.ntmps71, List.size_toArray, List.length_cons, List.length_nil, Nat.reduceAdd, Nat.reduceSub, Array.replicate_succ, Array.replicate_zero, List.push_toArray, List.append_toArray, List.nil_append, List.cons_append]
  gi_wp2
  go_ret
  exact ⟨rfl, rfl⟩
theorem wrong_stops (n : Nat) (hn : 1 ≤ n) (Bn : Nat) (A : Option Addr) (c : Nat) (xs : List T3) (w0 w : World) (hU : U w0) (hs : SlA eT3 w0 A xs) (hm : Small xs) (hb : Below w0.heap.size w0 w) (hBn : Bn < w.heap.size) (hc : w.cell? ⟨Bn, 0, none⟩ = some (.slice A xs.length c)) :
    SeqStopsK Fence.wide n Tryd.prog 113 #[.pointer (some ⟨Bn, 0, none⟩)] (fun x : Int => #[Value.int .i64 x]) (Below w0.heap.size) (fun ys => ys = errR xs) (fun pre => ∃ q, errR xs = pre ++ q) xs.length w := fun l J Jx W hW hJ _ hY h0 =>
  wrong1_in n hn l Bn A c xs w0 hU hs hm J Jx W hJ hY (hb.trans (hW.mono hb.size)) ((hW.cell (p := ⟨Bn, 0, none⟩) hBn).trans hc) h0
end Go.Proofs.YtpccanadijefnaaDoor
