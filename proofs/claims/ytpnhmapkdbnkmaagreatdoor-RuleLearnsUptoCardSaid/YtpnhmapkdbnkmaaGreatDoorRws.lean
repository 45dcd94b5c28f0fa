/- block.rows: the rows of steps that are no matches, as an iterator. No condition. -/
import Derived.Test.YtpnhmapkdbnkmaaGreatDoorR5o
import Derived.Test.YtpnhmapkdbnkmaaGreatDoorStq
namespace Go.Proofs.YtpnhmapkdbnkmaaGreatDoor
open Go Go.RowKit Go.Shelf
attribute [local go_sem] Oper.semAt_some
def shA : Option Addr → Nat → Option Addr
  | some ⟨b, o, sp⟩, n => some ⟨b, o + n, sp⟩
  | none, _ => none
def segOf (l : List St) (p : Nat × Nat) : List St := (l.drop p.1).take (p.2 - p.1)
def vSeg (A : Option Addr) (c : Nat) (p : Nat × Nat) : Value := .slice (shA A (p.1 * 3)) (p.2 - p.1) (c - p.1)
theorem seg_run {l : List St} {i m : Nat} (him : i < m) (hm : m ≤ l.length) (hf : (rowsS (l.take i)).2 = true) (hk : ∀ q (h : q < l.length), i ≤ q → q < m → l[q].k ≠ 0) : rowsS (l.take m) = (rowsL (l.take i) ++ [segOf l (i, m)], false) := by
  have hil : i < l.length := by omega
  have e : l.take m = l.take i ++ l[i] :: ((l.drop (i + 1)).take (m - (i + 1))) := by
    have h1 : l.take m = l.take i ++ (l.drop i).take (m - i) := by
      rw [← List.take_add]
      congr 1
      omega
    rw [h1, List.drop_eq_getElem_cons hil, show m - i = (m - (i + 1)) + 1 by omega, List.take_succ_cons]
  have e2 : segOf l (i, m) = l[i] :: ((l.drop (i + 1)).take (m - (i + 1))) := by
    unfold segOf
    simp only
    rw [List.drop_eq_getElem_cons hil, show m - i = (m - (i + 1)) + 1 by omega, List.take_succ_cons]
  rw [e, e2]
  refine rowsS_run hf _ _ (hk i hil (Nat.le_refl _) him) fun x hx => ?_
  obtain ⟨q, hq, rfl⟩ := List.mem_iff_getElem.1 hx
  rw [List.length_take, List.length_drop] at hq
  rw [List.getElem_take, List.getElem_drop]
  exact hk _ (by omega) (by omega) (by omega)
theorem rows_zero {l : List St} {m : Nat} (hm : m < l.length) (hz : l[m].k = 0) : rowsS (l.take (m + 1)) = (rowsL (l.take m), true) := by
  rw [take_snoc hm, rowsS_snoc]
  unfold rowAdd
  rw [if_pos hz]
  rfl
set_option maxRecDepth 100000 in
set_option maxHeartbeats 2000000 in
theorem rows1_in (n : Nat) (hn : 1 ≤ n) (lp Bn : Nat) (A : Option Addr) (c : Nat) (l : List St) (w0 : World) (hs : SlA eSt w0 A l) (hl : l.length ≤ 128) (hlc : l.length ≤ c) (J Jx : List (Nat × Nat) → World → Prop) (W : World)
        (hY : ∀ pre x W1, J pre W1 → (pre.length < l.length ∧ x.1 < x.2 ∧ x.2 ≤ l.length) → YieldAt Fence.wide (n - 1) Tryz.prog lp #[vSeg A c x] W1 fun e W' =>
      (e = .returned (.bool true) ∧ J (pre ++ [x]) W' ∧ Kp1 w0.heap.size Bn W1 W') ∨ (e = .returned (.bool false) ∧ Jx (pre ++ [x]) W'))
    (hb0 : Below w0.heap.size w0 W) (hBx : Boxed W Bn 185 (.slice A l.length c)) (h0 : J [] W) :
    CallsIn Fence.wide n Tryz.prog 208 #[.func (.yield lp) #[] #[], .pointer (some ⟨Bn, 0, none⟩)] W fun e W' => (∃ v, e = .returned v) ∧
      ((∃ ys, ys.map (segOf l) = rowsL l ∧ J ys W') ∨ (∃ pre, True ∧ Jx pre W')) := by
  refine callsIn_of_wp Tryz.func208 rfl trivial ?_ rfl
  simp only [Tryz.ntmps208, List.size_toArray, List.length_cons, List.length_nil, Nat.reduceAdd, Nat.reduceSub, Array.replicate_succ, Array.replicate_zero, List.push_toArray, List.append_toArray, List.nil_append, List.cons_append]
  gi_wp2
  refine scope_in ?_
  gi_wp2_with fail
  refine wpIn_label ?_
  gi_wp2
  gi_loopw [3] (fun si wr => ∃ (i : Nat) (pre : List (Nat × Nat)), si = .int .i64 i ∧ i ≤ l.length + 1 ∧ Hid (pre.map (segOf l) = rowsL (l.take i) ∧ (i ≤ l.length → (rowsS (l.take i)).2 = true)) ∧ pre.length ≤ i ∧ J pre wr ∧ Boxed wr Bn 185 (.slice A l.length c) ∧ Below w0.heap.size w0 wr) (fun si _ => l.length + 2 - (intOf si).toNat)
  case atStart => exact ⟨0, [], rfl, by omega, ⟨rfl, fun _ => rfl⟩, by simp, h0, hBx, hb0⟩
  case round =>
    obtain ⟨i, pre, rfl, hi, HP, hpl, hJp, hBw, hb⟩ := hrel
    rename World => wo
    have zB := hBw.cell
    by_cases hlt : i < l.length
    · have hlt' : (i : Int) < l.length := by omega
      obtain ⟨b, o, rfl, _, p1, p2, p3⟩ := hs.n3 (fun _ => rfl) hb i hlt
      by_cases hz : l[i].k = 0
      · have HZ := Lib.hid (rows_zero hlt hz)
        rw [hz] at p1
        clear hz
        gi_wp2
        refine ⟨⟨i + 1, pre, by go_num, by omega, ⟨?_, fun _ => by rw [HZ.out]⟩, by omega, hJp, hBw, hb⟩, by simp [intOf]; omega⟩
        show _ = (rowsS (l.take (i + 1))).1
        rw [HZ.out]; exact HP.out.1
      · have hz' : ((l[i].k : Int) == 0) = false := by simpa using hz
        gi_wp2_with fail
        gi_loopw [3] (fun sm wr => ∃ m : Nat, sm = .int .i64 m ∧ i ≤ m ∧ m ≤ l.length ∧ Hid (∀ q (h : q < l.length), i ≤ q → q < m → l[q].k ≠ 0) ∧ wr = wo) (fun sm _ => l.length - (intOf sm).toNat)
        case atStart => exact ⟨i, rfl, by omega, by omega, fun q h h1 h2 => absurd h1 (by omega), rfl⟩
        case round =>
          obtain ⟨m, rfl, him, hml, HM, hwo⟩ := hrel
          subst hwo
          have fin : ∀ hmm : i < m, rowsS (l.take m) = (rowsL (l.take i) ++ [segOf l (i, m)], false) := fun hmm => seg_run hmm hml (HP.out.2 (by omega)) HM.out
          by_cases hmt : m < l.length
          · have hmt' : (m : Int) < l.length := by omega
            obtain ⟨b2, o2, e2, _, q1, _, _⟩ := hs.n3 (fun _ => rfl) hb m hmt
            injection e2 with e2
            injection e2 with e3 e4
            subst e3
            subst e4
            by_cases hmz : l[m].k = 0
            · have him2 : i < m := by
                rcases Nat.lt_or_ge i m with h | h
                · exact h
                · obtain rfl : m = i := by omega
                  exact absurd hmz hz
              have HF := Lib.hid (fin him2)
              have HZ := Lib.hid (rows_zero hmt hmz)
              rw [hmz] at q1
              have hcm : (m : Int) ≤ c := by omega
              have hic : ¬ c = i := by omega
              clear hmz fin hz hz'
              obtain ⟨fn, tmps, assign, body, hy, hR⟩ := hY pre (i, m) wr hJp ⟨by omega, by simp only; omega, by simp only; omega⟩
              simp only [vSeg, shA] at hy
              gi_wp2
              refine hR.mono ?_
              rintro e W3 (⟨rfl, hJ3, hk3⟩ | ⟨rfl, hJx3⟩)
              · gi_wp2
                refine ⟨⟨m + 1, pre ++ [(i, m)], by go_num, by omega, ⟨?_, fun _ => by rw [HZ.out]⟩, by simp; omega, hJ3, (hk3.2.2 hBw.lt).trans hBw, hb.trans hk3.1⟩, by simp [intOf]; omega⟩
                show _ = (rowsS (l.take (m + 1))).1
                rw [HZ.out]
                show _ = (rowsS (l.take m)).1
                rw [HF.out, List.map_append, HP.out.1]; rfl
              · gi_wp2
                first | (rw [Exit.noGoto_ret]; refine bodyPost_ret (results_none rfl _ _ _) rfl ?_) | (refine bodyPost_ret (results_none rfl _ _ _) rfl ?_)
                refine ⟨⟨_, rfl⟩, .inr ⟨_, trivial, hJx3⟩⟩
            · have hmz' : ((l[m].k : Int) == 0) = false := by simpa using hmz
              have hmz2 : ((l[m].k : Int) != 0) = true := by simpa using hmz
              have HM2 : Hid (∀ q (h : q < l.length), i ≤ q → q < m + 1 → l[q].k ≠ 0) := fun q h h1 h2 => by
                by_cases e : q = m
                · subst e; exact hmz
                · exact HM.out q h h1 (by omega)
              gi_wp2
              exact ⟨⟨m + 1, by go_num, by omega, by omega, HM2, trivial⟩, by simp [intOf]; omega⟩
          · have hmt' : ¬ (m : Int) < l.length := by omega
            obtain rfl : m = l.length := by omega
            have HF := Lib.hid (fin hlt)
            have hcm : (l.length : Int) ≤ c := by omega
            have hic : ¬ c = i := by omega
            clear fin hz hz'
            obtain ⟨fn, tmps, assign, body, hy, hR⟩ := hY pre (i, l.length) wr hJp ⟨by omega, by simp only; omega, by simp only; omega⟩
            simp only [vSeg, shA] at hy
            gi_wp2
            refine hR.mono ?_
            rintro e W3 (⟨rfl, hJ3, hk3⟩ | ⟨rfl, hJx3⟩)
            · gi_wp2
              refine ⟨⟨l.length + 1, pre ++ [(i, l.length)], by go_num, by omega, ⟨?_, fun h => absurd h (by omega)⟩, by simp; omega, hJ3, (hk3.2.2 hBw.lt).trans hBw, hb.trans hk3.1⟩, by simp [intOf]; omega⟩
              show _ = (rowsS (l.take (l.length + 1))).1
              rw [List.take_of_length_le (by omega), ← List.take_length (l := l), HF.out, List.take_length, List.map_append, HP.out.1]; rfl
            · gi_wp2
              first | (rw [Exit.noGoto_ret]; refine bodyPost_ret (results_none rfl _ _ _) rfl ?_) | (refine bodyPost_ret (results_none rfl _ _ _) rfl ?_)
              refine ⟨⟨_, rfl⟩, .inr ⟨_, trivial, hJx3⟩⟩
    · have hlt' : ¬ (i : Int) < l.length := by omega
      gi_wp2
      go_end0
      refine ⟨⟨_, rfl⟩, .inl ⟨pre, ?_, hJp⟩⟩
      have h := HP.out.1
      rw [List.take_of_length_le (by omega)] at h
      exact h
end Go.Proofs.YtpnhmapkdbnkmaaGreatDoor
