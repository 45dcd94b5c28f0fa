/- Parts of these proofs, one behind the other: Mak, Law7, Alv7, Row, Row3, Wrong, RegP, Is. No condition. -/
import Derived.Test.YtmpoihejacklnaaDoorK803
import Derived.Test.YtmpoihejacklnaaDoorK805
import Derived.Test.YtmpoihejacklnaaDoorCards
import Derived.Test.YtmpoihejacklnaaDoorTie
import Derived.Test.YtmpoihejacklnaaDoorK804
import Derived.WalkKit
import Derived.ProofKit
import Derived.OpenShut
import Derived.ChangeSame
import Derived.Carry
import Derived.Deep.DeepHandedRow
import Derived.Deep.Slices
import Derived.Deep.Strs
import Derived.Lib.LaidTab
import Derived.Lib.LaidU8T
import Derived.Lib.LaidIn
import Derived.Deep.DeepWitnessRowRef
import Derived.Lib.SmallJoins
import Derived.ChangeMaps5
import Derived.RangeFuncNested
import Derived.RangeFuncBound
import Derived.RangeFuncCalls
import Derived.RangeFuncLeaves
import Derived.RangeFuncOne
import Derived.RangeFuncBox
import Derived.Shelf.Abstract
import Derived.OwnWalkIn
import Derived.TacticsInMore
import Derived.LoopNIn
import Derived.LoopIn
import Derived.Test.YtmpoihejacklnaaDoorK801
/- rule.Make and the reference's Make: one answer. No condition. -/
namespace Go.Proofs.YtmpoihejacklnaaDoor
open Go Go.RowKit
theorem info_rule : (Tryd.prog.info? 49).map (fun i => (i.zero, i.size, i.bytes)) = some (some (.agg #[.string .empty, .string .empty, .int .i64 0]), 3, 40) := by kernel_rfl
/-- A table's rules. -/
noncomputable def cstT (l : List T3) (n : Int) : Int := ((costN (sumT l).toNat l.length n.toNat : Nat) : Int)
noncomputable def mkR (l : List T3) (b : T3) : T3 := ⟨b.f, b.t, cstT l b.n⟩
noncomputable def makL (l : List T3) (m : List T3) (least : Int) : List T3 := (m.filter fun b => decide (least ≤ b.n)).map (mkR l)
noncomputable def makE (l : List T3) (least : Int) : Int := if tchk l ≠ 0 then tchk l else if least < 1 ∨ 1073741824 < least then 2 else 0
noncomputable def makR (l : List T3) (least : Int) : List T3 := if makE l least = 0 then makL l l least else []
def MakPost (w : World) (l : List T3) (least : Int) (e : Ending) (w' : World) : Prop :=
  ∃ A c, e = .returned (.tuple #[.slice A (makR l least).length c, .int .i64 (makE l least)]) ∧ SlA eT3 w' A (makR l least) ∧ Below w.heap.size w w'
theorem makL_take (l m : List T3) (least : Int) (k : Nat) (h : k < m.length) : makL l (m.take (k + 1)) least = makL l (m.take k) least ++ if least ≤ m[k].n then [mkR l m[k]] else [] := by
  unfold makL
  rw [List.take_succ_eq_append_getElem h, List.filter_append, List.map_append]
  congr 1
  by_cases hc : least ≤ m[k].n <;> simp [hc]
theorem makL_len (l m : List T3) (least : Int) : (makL l m least).length ≤ m.length := by
  unfold makL; rw [List.length_map]; exact List.length_filter_le _ _
theorem cstV_ok {l : List T3} (h : tchk l = 0) {k : Nat} (hk : k < l.length) : cstV (sumT l) l.length l[k].n = .tuple #[.int .i64 (cstT l l[k].n), .int .i64 0] := by
  obtain ⟨h1, _, h3, h4⟩ := tchk_zero h
  have hn : ∀ b ∈ l, 1 ≤ b.n ∧ b.n ≤ 1073741824 := fun b hb => bchk_n b ((each_all l).1 h1 b hb)
  have h5 := mem_sum l (fun b hb => by have := hn b hb; omega) _ (List.getElem_mem hk)
  have h6 := hn _ (List.getElem_mem hk)
  unfold cstV cstT
  rw [if_neg (by omega)]
  simp
end Go.Proofs.YtmpoihejacklnaaDoor
/- The reference's Make; whether rules are the same; whether one may be. No condition. -/
namespace Go.Proofs.YtmpoihejacklnaaDoor
open Go Go.RowKit
theorem rul_equal (a b : T3) (w : World) : (Op.equalIn 10000 49 (.agg #[.string a.f, .string a.t, .int .i64 a.n]) (.agg #[.string b.f, .string b.t, .int .i64 b.n])).run Tryd.prog w = .ok (decide (a = b)) w := by
  rw [run_equalIn_agg w 9999 _ _ _ (by kernel_rfl) (by kernel_rfl)]
  have hs : ∀ x y : ByteArray, x.toList = y.toList ↔ x = y := fun x y => ⟨ba_ext, fun h => by rw [h]⟩
  have he : (decide (a = b)) = (decide (a.f = b.f) && (decide (a.t = b.t) && decide (a.n = b.n))) := by cases a; cases b; simp
  rw [he]
  simp [go_sem, Op.eqFields, Program.fieldsOf, Tryd.underlying49, Tryd.underlying9, Tryd.underlying3, hs]
  by_cases h1 : a.f = b.f <;> by_cases h2 : a.t = b.t <;> by_cases h3 : a.n = b.n <;> simp [h1, h2, h3]
set_option maxHeartbeats 1000000 in
set_option maxRecDepth 100000 in
theorem rsame_c (A B : Option Addr) (c d : Nat) (xs ys : List T3) (w : World) (hs : SlA eT3 w A xs) (ht : SlA eT3 w B ys) (hl : xs.length ≤ 4294967296) (hm : ys.length ≤ 4294967296) :
    Calls Tryd.prog 20 #[.slice A xs.length c, .slice B ys.length d] w (Ret w (.bool (sameT xs ys))) := by
  by_cases hne : xs.length = ys.length
  · have hn0 : ((xs.length : Int) != ys.length) = false := by simp [hne]
    have HNE := Lib.hid hne
    clear hne
    go_enter Tryd.func20, Tryd.ntmps20
    go_wp2
    go_loopw [5, 13] (fun _ i wr => ∃ k : Nat, k ≤ xs.length ∧ i = .int .i64 k ∧ Hid (xs.take k = ys.take k) ∧ Below w.heap.size w wr) (fun _ i _ => xs.length - (intOf i).toNat)
    case atStart => exact ⟨0, by omega, rfl, rfl, Bel⟩
    case round =>
      obtain ⟨k, hk, rfl, HE, hb⟩ := hrel
      by_cases hlt : k < xs.length
      · have hlt' : k < ys.length := by have := HNE.out; omega
        have hk1 : (k : Int) < xs.length := by omega
        have hk2 : (k : Int) < ys.length := by omega
        obtain ⟨b, o, rfl, hbs, c1, c2, c3⟩ := hs.n3 (fun _ => rfl) hb k hlt
        obtain ⟨b', o', rfl, hbs', d1, d2, d3⟩ := ht.n3 (fun _ => rfl) hb k hlt'
        by_cases e : xs[k] = ys[k]
        · have HT : Hid (xs.take (k + 1) = ys.take (k + 1)) := by
            have h := HE.out
            show xs.take (k + 1) = ys.take (k + 1)
            rw [List.take_succ_eq_append_getElem hlt, List.take_succ_eq_append_getElem hlt', h, e]
          have hq : ∀ W, (Op.equalIn 10000 49 (.agg #[.string xs[k].f, .string xs[k].t, .int .i64 xs[k].n]) (.agg #[.string ys[k].f, .string ys[k].t, .int .i64 ys[k].n])).run Tryd.prog W = .ok true W := fun W => (rul_equal xs[k] ys[k] W).trans (by simp [e])
          clear e
          go_wp2_with fail
          refine region_qall (by kernel_rfl) (by kernel_rfl) (fun W => ∃ n, W = World.drewN _ n) ⟨1, rfl⟩ ?_
          repeat (quiet_step (fail))
          refine wpQuiet_nil ?_
          intro _ hw'
          obtain ⟨nq, rfl⟩ := hw'
          go_wp2
          exact ⟨⟨k + 1, by omega, by go_num, HT, Bel⟩, by simp [intOf]; omega⟩
        · have hn := t3_ne.1 e
          have HV : Hid (sameT xs ys = false) := by
            show sameT xs ys = false
            unfold sameT
            simp only [decide_eq_false_iff_not]
            intro h; subst h; exact e rfl
          have hq : ∀ W, (Op.equalIn 10000 49 (.agg #[.string xs[k].f, .string xs[k].t, .int .i64 xs[k].n]) (.agg #[.string ys[k].f, .string ys[k].t, .int .i64 ys[k].n])).run Tryd.prog W = .ok false W := fun W => (rul_equal xs[k] ys[k] W).trans (by simp [e])
          clear e hn
          go_wp2_with fail
          refine region_qall (by kernel_rfl) (by kernel_rfl) (fun W => ∃ n, W = World.drewN _ n) ⟨1, rfl⟩ ?_
          repeat (quiet_step (fail))
          refine wpQuiet_nil ?_
          intro _ hw'
          obtain ⟨nq, rfl⟩ := hw'
          go_wp2
          go_ret
          exact ⟨by rw [HV.out]; rfl, Bel⟩
      · have HV : Hid (sameT xs ys = true) := by
          have h := HE.out
          rw [List.take_of_length_le (by omega), List.take_of_length_le (by have := HNE.out; omega)] at h
          show sameT xs ys = true
          unfold sameT; simp [h]
        go_wp2
        go_ret
        exact ⟨by rw [HV.out]; rfl, Bel⟩
  · have HV : Hid (sameT xs ys = false) := by
      show sameT xs ys = false
      unfold sameT; simp only [decide_eq_false_iff_not]; intro h; exact hne (by rw [h])
    have hn : ((xs.length : Int) != ys.length) = true := by simp; omega
    go_enter Tryd.func20, Tryd.ntmps20
    go_wp2
    go_ret
    exact ⟨by rw [HV.out]; rfl, Bel⟩
/-- Whether a rule may be. -/
def rchk (b : T3) : Int := if bchk ⟨b.f, b.t, 1⟩ ≠ 0 then bchk ⟨b.f, b.t, 1⟩ else if b.n < 1 ∨ 255 < b.n then 2 else 0
set_option maxHeartbeats 1000000 in
set_option maxRecDepth 100000 in
theorem rchk_c (b : T3) (w : World) (hU : U w) (h1 : b.f.size ≤ 17592186044416) (h2 : b.t.size ≤ 17592186044416) :
    Calls Tryd.prog 68 #[.agg #[.string b.f, .string b.t, .int .i64 b.n]] w (Ret w (.int .i64 (rchk b))) := by
  by_cases h0 : bchk ⟨b.f, b.t, 1⟩ = 0
  · have H0 := Lib.hid h0
    have HV : Hid (rchk b = if b.n < 1 ∨ 255 < b.n then 2 else 0) := by show rchk b = _; unfold rchk; rw [if_neg (by simpa using h0)]
    clear h0
    go_enter Tryd.func68, Tryd.ntmps68
    go_wp2_with fail
    refine (bchk_c ⟨b.f, b.t, 1⟩ _ (hU.to Bel) h1 h2).mono ?_
    rintro e w1 ⟨rfl, hb1⟩
    rw [H0.out]
    obtain ⟨hc1, hz1⟩ := bcell hb1
    go_wp2
    all_goals
      go_ret
      refine ⟨?_, Bel⟩
      rw [HV.out]
      first
        | (rw [if_pos (by omega)]; rfl)
        | (rw [if_neg (by omega)]; rfl)
  · have HV : Hid (rchk b = bchk ⟨b.f, b.t, 1⟩) := by show rchk b = _; unfold rchk; rw [if_pos h0]
    have hn : (bchk ⟨b.f, b.t, 1⟩ == 0) = false := by simp [h0]
    clear h0
    go_enter Tryd.func68, Tryd.ntmps68
    go_wp2_with fail
    refine (bchk_c ⟨b.f, b.t, 1⟩ _ (hU.to Bel) h1 h2).mono ?_
    rintro e w1 ⟨rfl, hb1⟩
    go_wp2
    go_ret
    exact ⟨by rw [HV.out]; rfl, Bel⟩
set_option maxHeartbeats 1000000 in
set_option maxRecDepth 100000 in
theorem r7chk_c (b : T3) (w : World) (h1 : b.f.size ≤ 17592186044416) (h2 : b.t.size ≤ 17592186044416) :
    Calls Tryd.prog 100 #[.agg #[.string b.f, .string b.t, .int .i64 b.n]] w (Ret w (.int .i64 (rchk b))) := by
  by_cases h0 : bchk ⟨b.f, b.t, 1⟩ = 0
  · have H0 := Lib.hid h0
    have HV : Hid (rchk b = if b.n < 1 ∨ 255 < b.n then 2 else 0) := by show rchk b = _; unfold rchk; rw [if_neg (by simpa using h0)]
    clear h0
    go_enter Tryd.func100, Tryd.ntmps100
    go_wp2_with fail
    refine (r5chk_c ⟨b.f, b.t, 1⟩ _ h1 h2).mono ?_
    rintro e w1 ⟨rfl, hb1⟩
    rw [H0.out]
    obtain ⟨hc1, hz1⟩ := bcell hb1
    go_wp2
    all_goals
      go_ret
      refine ⟨?_, Bel⟩
      rw [HV.out]
      first
        | (rw [if_pos (by omega)]; rfl)
        | (rw [if_neg (by omega)]; rfl)
  · have HV : Hid (rchk b = bchk ⟨b.f, b.t, 1⟩) := by show rchk b = _; unfold rchk; rw [if_pos h0]
    have hn : (bchk ⟨b.f, b.t, 1⟩ != 0) = true := by simp [h0]
    clear h0
    go_enter Tryd.func100, Tryd.ntmps100
    go_wp2_with fail
    refine (r5chk_c ⟨b.f, b.t, 1⟩ _ h1 h2).mono ?_
    rintro e w1 ⟨rfl, hb1⟩
    go_wp2
    go_ret
    exact ⟨by rw [HV.out]; rfl, Bel⟩
end Go.Proofs.YtmpoihejacklnaaDoor
/- The document's example of chapter 7; and 'RuleMakes' walked. No condition. -/
namespace Go.Proofs.YtmpoihejacklnaaDoor
open Go Go.RowKit
def bA2 : T3 := ⟨bA.f, bA.t, 2⟩
theorem bchk_A2 : bchk bA2 = 0 := bchk_with (x := bA) rfl rfl bchk_A (by decide) (by decide)
theorem alive7_tab : tchk [bB, bA2] = 0 := by
  have h1 : eachT [bB, bA2] = 0 := (each_all _).2 fun b hb => by
    simp only [List.mem_cons, List.not_mem_nil, or_false] at hb
    rcases hb with h | h <;> rw [h]
    · exact bchk_B
    · exact bchk_A2
  have h2 : riseT [bB, bA2] = true := rise_of (List.pairwise_pair.2 (AB_lt 2))
  unfold tchk
  rw [h1, h2]
  decide
theorem alive7_E : makE [bB, bA2] 2 = 0 := by
  unfold makE; rw [alive7_tab]; decide
theorem alive7_cost : costN 3 2 2 = 11 := by
  unfold costN ratioN
  decide
theorem alive7_R : makR [bB, bA2] 2 = [⟨bA.f, bA.t, 11⟩] := by
  unfold makR
  rw [alive7_E, if_pos rfl]
  have h : makL [bB, bA2] [bB, bA2] 2 = [mkR [bB, bA2] bA2] := by
    unfold makL
    have h1 : decide ((2 : Int) ≤ bB.n) = false := by decide
    have h2 : decide ((2 : Int) ≤ bA2.n) = true := by decide
    simp [h1, h2]
  rw [h]
  have h3 : cstT [bB, bA2] bA2.n = 11 := by
    show ((costN 3 2 2 : Nat) : Int) = 11
    rw [alive7_cost]; rfl
  unfold mkR
  rw [h3]; rfl
theorem rchk_0 : rchk ⟨.empty, .empty, 0⟩ = 7 := by
  have h1 : okS .empty = 0 := by decide
  have h3 : lenS .empty = 0 := by decide
  have h5 : (ByteArray.empty.toList == ByteArray.empty.toList) = true := by simp
  have h : bchk ⟨.empty, .empty, 1⟩ = 7 := by
    unfold bchk
    show (if okS .empty ≠ 0 ∨ okS .empty ≠ 0 then (3 : Int) else _) = 7
    rw [h1]
    show (if (0 : Int) ≠ 0 ∨ (0 : Int) ≠ 0 then (3 : Int) else if 3 < lenS .empty ∨ 3 < lenS .empty then 5 else if (ByteArray.empty.toList == ByteArray.empty.toList) = true then 7 else _) = 7
    rw [h3, h5]; decide
  unfold rchk
  rw [h]; decide
theorem alive7_small : Small [bB, bA2] := ⟨by decide, fun b hb => by
  simp only [List.mem_cons, List.not_mem_nil, or_false] at hb
  rcases hb with h | h <;> rw [h] <;> decide⟩
end Go.Proofs.YtmpoihejacklnaaDoor
/- From a row's words to the walks: arguments opened, results laid, and the second form's bound. No condition. -/
namespace Go.Proofs.YtmpoihejacklnaaDoor
open Go Go.ChangeShapes Go.WideShapes Go.ChangeAt Go.RowKit Go.Deep Go.Lib
/-! ### the bound -/
theorem bulk_one {H : Type} (d : DataW H) : 1 ≤ Rows.uptoBulk d := by
  cases d with
  | lit l => cases l <;> simp [Rows.uptoBulk]
  | nil => simp [Rows.uptoBulk]
  | ptr d => simp [Rows.uptoBulk]
  | slice elems spare => simp [Rows.uptoBulk]
  | agg parts => simp [Rows.uptoBulk]
  | iface t d => simp [Rows.uptoBulk]
  | map entries => simp [Rows.uptoBulk]
  | held h => simp [Rows.uptoBulk]
theorem bulk_mem {H : Type} {d : DataW H} : ∀ {l : List (DataW H)}, d ∈ l → Rows.uptoBulk d ≤ Rows.uptoBulkAll l
  | x :: r, h => by
    simp only [Rows.uptoBulkAll]
    rcases List.mem_cons.1 h with rfl | h
    · omega
    · have := bulk_mem h; omega
theorem bulk_len {H : Type} : ∀ l : List (DataW H), l.length ≤ Rows.uptoBulkAll l
  | [] => by simp [Rows.uptoBulkAll]
  | x :: r => by
    have := bulk_one x
    have := bulk_len r
    simp only [Rows.uptoBulkAll, List.length_cons]; omega
/-! ### the arguments -/
def t3D {H : Type} (x : T3) : DataW H := .agg [.lit (.string x.f.data.toList), .lit (.string x.t.data.toList), .lit (.int .i64 x.n)]
section
variable {H : Type} {enc : TypeId × Value → H}
/-- A slice of three-celled elements, opened. -/
theorem open_t3 {P : Program} {W : World} {sp : Nat → Bool} {t e s i : TypeId} {f0 f1 f2 : Field} (ht : P.underlying t = some (.slice e)) (he : P.underlying e = some (.struct #[f0, f1, f2])) (hs : P.underlying s = some .string) (hi : P.underlying i = some (.int .i64))
    (hf : (f0.type == s && f1.type == s && f2.type == i && f0.offset == 0 && f1.offset == 1 && f2.offset == 2) = true) (hce : P.cellsOf e = 3) (hcs : P.cellsOf s = 1) (hci : P.cellsOf i = 1)
    {v : Value} {d : DataW H} {ps : List MemPlace} (hv : v.cells = #[v]) (h : DataW.Trod enc P W 0 sp true t v d ps) :
    ∃ (A : Option Addr) (c : Nat) (xs : List T3) (spare : List (DataW H)), v = .slice A xs.length c ∧ (A = none → c = 0) ∧ xs.length ≤ c ∧ c ≤ 9223372036854775807 ∧ SlA eT3 W A xs ∧ (∀ x ∈ xs, (Lit.int .i64 x.n).wf = true) ∧ ((d = .nil ∧ xs = []) ∨ d = .slice (xs.map t3D) spare) := by
  simp only [Bool.and_eq_true, beq_iff_eq] at hf
  obtain ⟨⟨⟨⟨⟨e0, e1⟩, e2⟩, o0⟩, o1⟩, o2⟩ := hf
  obtain ⟨fuel, h⟩ := h
  rw [hv] at h
  rcases open_slice ht h with ⟨hn, hx⟩ | ⟨a, len, cap, m, n, D, Pl, hv', hb, hl, hm, hmm, hx, hall⟩
  · obtain rfl : v = .slice none 0 0 := by simpa using hn
    simp only [Prod.mk.injEq] at hx
    exact ⟨none, 0, [], [], rfl, fun _ => rfl, by simp, by omega, SlA.nil, (fun _ h => by cases h), .inl ⟨hx.1, rfl⟩⟩
  · obtain rfl : v = .slice (some a) len cap := by simpa using hv'
    have hlm : len ≤ m := by rw [hmm]; split <;> omega
    have each : ∀ j, j < m → ∃ q : T3, W.cell? (a.add (j * 3)) = some (.string q.f) ∧ W.cell? (a.add (j * 3 + 1)) = some (.string q.t) ∧ W.cell? (a.add (j * 3 + 2)) = some (.int .i64 q.n) ∧ D j = t3D q ∧ (Lit.int .i64 q.n).wf = true := by
      intro j hj
      obtain ⟨cs', h1, h2⟩ := hall j hj
      rw [hce] at h1
      obtain ⟨_, hlen, hcell⟩ := World.cells?_some h1
      obtain ⟨y0, y1, y2, k, hxy, _, u0, u1, u2⟩ := trod_struct3 he h2
      match cs', hlen with
      | [v0, v1, v2], _ =>
        simp only [e0, e1, e2, o0, o1, o2, hcs, hci, List.drop, List.take] at u0 u1 u2
        obtain ⟨s0, g0, d0, _⟩ := DataW.trod_string hs u0
        obtain ⟨s1, g1, d1, _⟩ := DataW.trod_string hs u1
        obtain ⟨p, g2, d2, hw⟩ := DataW.trod_int hi u2
        simp only [List.cons.injEq, and_true] at g0 g1 g2
        subst g0; subst g1; subst g2
        have c0 := hcell 0 (by omega)
        have c1 := hcell 1 (by omega)
        have c2 := hcell 2 (by omega)
        rw [add_add] at c0 c1 c2
        simp only [Prod.mk.injEq] at hxy
        exact ⟨⟨s0, s1, p⟩, by simpa using c0, by simpa using c1, by simpa using c2, by rw [hxy.1, d0, d1, d2]; rfl, hw⟩
    obtain ⟨q, hq⟩ := choose_lt each
    refine ⟨some a, cap, (List.range len).map q, (List.range (m - len)).map fun j => D (len + j), by simp, (fun h => by cases h), by simpa using hl, by simpa [maxLen] using hm, fun j x hx => ?_, fun x hx => ?_, .inr ?_⟩
    · rw [List.getElem?_map] at hx
      obtain ⟨j', hj', rfl⟩ := Option.map_eq_some_iff.1 hx
      obtain ⟨hjl, rfl⟩ := List.getElem?_eq_some_iff.1 hj'
      simp only [List.length_range] at hjl
      simp only [List.getElem_range]
      obtain ⟨c0, c1, c2, _, _⟩ := hq j (by omega)
      have hsp : a.spot = none := by
        obtain ⟨z0, _⟩ := hq 0 (by omega)
        have ha : a.add (0 * 3) = a := by simp [Addr.add]
        rw [ha] at z0
        unfold World.cell? at z0
        split at z0
        · split at z0
          · cases z0
          · rename_i h; simpa using h
        · cases z0
      obtain ⟨b, o, sp'⟩ := a
      simp only at hsp
      subst hsp
      have hadd : ∀ n, (⟨b, o, none⟩ : Addr).add n = ⟨b, o + n, none⟩ := fun n => by unfold Addr.add; split <;> simp_all
      rw [hadd] at c0 c1 c2
      refine ⟨b, o, rfl, World.block_lt_of_cell? W _ c0, fun i u hu => ?_⟩
      rw [eT3_e] at hu
      show W.cell? ⟨b, o + j * 3 + i, none⟩ = some u
      match i, hu with
      | 0, hu => simp at hu; subst hu; exact c0
      | 1, hu => simp at hu; subst hu; exact c1
      | 2, hu => simp at hu; subst hu; exact c2
      | i + 3, hu => simp at hu
    · obtain ⟨j, hj, rfl⟩ := List.mem_map.1 hx
      exact (hq j (by have := List.mem_range.1 hj; omega)).2.2.2.2
    · simp only [Prod.mk.injEq] at hx
      rw [hx.1, List.map_map]
      congr 1
      exact List.map_congr_left fun j hj => (hq j (by have := List.mem_range.1 hj; omega)).2.2.2.1
/-- The second form's bound, at such a list. -/
theorem small_of {xs : List T3} {d : DataW H} {spare : List (DataW H)} (hd : (d = .nil ∧ xs = []) ∨ d = .slice (xs.map t3D) spare) (hb : Rows.uptoBulk d ≤ 1048576) : Small xs := by
  rcases hd with ⟨_, rfl⟩ | rfl
  · exact ⟨by simp, fun b hb => by cases hb⟩
  · simp only [Rows.uptoBulk] at hb
    have h1 := bulk_len (xs.map (t3D (H := H)))
    rw [List.length_map] at h1
    refine ⟨by omega, fun b hbx => ?_⟩
    have h2 := bulk_mem (List.mem_map_of_mem (f := t3D (H := H)) hbx)
    simp only [t3D, Rows.uptoBulk, Rows.uptoBulkAll, Array.length_toList] at h2
    have e1 : b.f.size = b.f.data.size := rfl
    have e2 : b.t.size = b.t.data.size := rfl
    omega
/-! ### what is handed back -/
theorem trodAll_below {P : Program} (hl : laidOutB P = true) {W W' : World} (hb : Below W.heap.size W W') :
    ∀ {ts : List TypeId} {vs : List Value} {ds : List (DataW H)} {ps : List MemPlace}, (∀ t ∈ ts, P.readableRec t = true ∧ t < P.types.size) → DataW.TrodAll enc P W 0 (fun _ => true) true ts vs ds ps → (∀ x ∈ ps, x.block < W.heap.size) →
      DataW.TrodAll enc P W' 0 (fun b => decide (b < W.heap.size)) true ts vs ds ps
  | [], vs, ds, ps, _, h, _ => by
    obtain ⟨rfl, rfl, rfl⟩ := trodAll_nil h
    exact trodAll_mk0
  | t :: ts, vs, ds, ps, ht, h, hlt => by
    obtain ⟨v, vs', d, ds', p, q, rfl, rfl, rfl, h0, hr⟩ := trodAll_cons h
    have h1 := ht t (by simp)
    exact trodAll_cons_mk (Below.trod hl h1.1 h1.2 h0 hb fun x hx => hlt x (by simp [hx])) (trodAll_below hl hb (fun t h => ht t (by simp [h])) hr fun x hx => hlt x (by simp [hx]))
theorem post_true {P : Program} {f : Func} {s : ChangeSpec} {B : TypeId} {W W' : World} {args : Array Value} {ds gs : List (DataW H)} {before : List MemPlace} (hW : DataW.Whole enc P f.params.toList s.vars false W args.toList ds gs before) (hv : s.vars = [])
    (h1 : (s.fn H (ds ++ gs)).results = [.lit (.bool true)]) (h2 : (s.fn H (ds ++ gs)).args = ds) (h3 : (s.fn H (ds ++ gs)).vars = []) (hr : f.resultTypes = #[B]) (hB : P.underlying B = some .bool)
    (hl : laidOutB P = true) (ht : ∀ t ∈ f.params.toList, P.readableRec t = true ∧ t < P.types.size) (hb : Below W.heap.size W W') : s.post enc P f false true false false W args (.bool true) W' := by
  have hlt := fun x hx => hW.lt x hx
  have hW' := hW
  obtain ⟨p, q, hA, hV, rfl, hz, hn⟩ := hW
  rw [hv] at hV
  obtain ⟨rfl, rfl⟩ := trodVars_none hV
  refine ⟨ds, [], p ++ [], [], p, [], hW', ?_, ?_, ?_, hb.frame _, fun h => by cases h⟩
  · rw [h1, hr]
    exact trodAll_cons_mk (shut_bool hB true) trodAll_mk0
  · rw [h2]
    exact trodAll_below hl hb ht hA fun x hx => hlt x (by simp [hx])
  · rw [hv, h3]; exact rfl
end
/-! ### the tables of unicode/utf8, as the rows lay them -/
theorem own : ownKnob Tryd.prog.godebug = none := by kernel_rfl
theorem laidOut : laidOutB Tryd.prog = true := by kernel_rfl
theorem tabs_of {W : World} (hL : laidMetH Tryd.prog [("unicode/utf8.acceptRanges", Rows.laid_unicode_utf8_acceptRanges), ("unicode/utf8.first", Rows.laid_unicode_utf8_first)] W) : U W := by
  have hL' : laidMet Tryd.prog [("unicode/utf8.acceptRanges", Rows.laid_unicode_utf8_acceptRanges), ("unicode/utf8.first", Rows.laid_unicode_utf8_first)] W := hL
  have h1 : (Rows.laid_unicode_utf8_acceptRanges : DataW Unit) = Lib.acceptData := by kernel_rfl
  have h2 : Rows.laid_unicode_utf8_first = Lib.firstData := by kernel_rfl
  rw [h1, h2] at hL'
  exact utf8Tabs_of_readsT (U8Types.of196 Tryd.laysValid) ⟨by kernel_rfl, by kernel_rfl, by kernel_rfl, by kernel_rfl, by kernel_rfl, by kernel_rfl, by kernel_rfl⟩ (Lib.laidMet.reads hL' (.tail _ (.head _))) (Lib.laidMet.reads hL' (.head _))
/-- A world for the witnesses: the settled one, the two tables as their initialisers lay them. -/
noncomputable def laidWorld (os : Os) : World :=
  let w0 := World.holding Tryd.prog os ⟨#[], #[], []⟩
  let put (h : Array Obj) (g : Nat) (cs : Array Value) : Array Obj := h.modify g fun
    | .cells _ t frozen => .cells cs t frozen
    | o => o
  let h1 := put w0.heap 0 (Lib.firstTab.map fun z => Value.int .u8 z).toArray
  let h2 := put h1 1 ((List.range 16).flatMap fun i => [Value.int .u8 (Lib.accLo i), Value.int .u8 (Lib.accHi i)]).toArray
  { w0 with heap := h2 }
theorem laid_met (os : Os) (args : Array Value) : laidMet Tryd.prog [("unicode/utf8.acceptRanges", Rows.laid_unicode_utf8_acceptRanges), ("unicode/utf8.first", Rows.laid_unicode_utf8_first)] ((laidWorld os).forCall (fun _ _ => 0) ⟨#[], args, []⟩).memory :=
  (LaidIn.of_run [1, 0] 8 (by kernel_rfl) (by kernel_rfl) (by kernel_rfl) (by kernel_rfl)).met
end Go.Proofs.YtmpoihejacklnaaDoor
/- A struct of three one-celled fields as an argument. No condition. -/
namespace Go.Proofs.YtmpoihejacklnaaDoor
open Go Go.ChangeShapes Go.WideShapes Go.ChangeAt Go.RowKit Go.Deep Go.Lib Go.ChangeMaps Go.Joins
section
variable {H : Type} {enc : TypeId × Value → H}
theorem open_r3 {P : Program} {W : World} {base : Nat} {sp : Nat → Bool} {held : Bool} {r : Reach} {b0 : Nat} {t s i : TypeId} {f0 f1 f2 : Field} (ht : P.underlying t = some (.struct #[f0, f1, f2])) (hs : P.underlying s = some .string) (hi : P.underlying i = some (.int .i64))
    (hf : (f0.type == s && f1.type == s && f2.type == i) = true) (hone : oneCellFields P #[f0, f1, f2] = true) (hC : P.cellsOf t = 3)
    {v : Value} {d : DataW H} {ps : List MemPlace} (hval : Value.okWide P W r b0 t v) (h : DataW.Trod enc P W base sp held t v d ps) :
    ∃ x : T3, v = .agg #[.string x.f, .string x.t, .int .i64 x.n] ∧ d = t3D x ∧ ps = [] ∧ (Lit.int .i64 x.n).wf = true := by
  simp only [Bool.and_eq_true, beq_iff_eq] at hf
  obtain ⟨⟨e0, e1⟩, e2⟩ := hf
  obtain ⟨v0, v1, v2, y0, y1, y2, n, rfl, rfl, rfl, u0, u1, u2⟩ := open_agg3 ht hone hC hval h
  rw [e0] at u0
  rw [e1] at u1
  rw [e2] at u2
  obtain ⟨s0, g0, d0, _⟩ := DataW.trod_string hs u0
  obtain ⟨s1, g1, d1, _⟩ := DataW.trod_string hs u1
  obtain ⟨p, g2, d2, hw⟩ := DataW.trod_int hi u2
  simp only [List.cons.injEq, and_true] at g0 g1 g2
  subst g0; subst g1; subst g2
  refine ⟨⟨s0, s1, p⟩, rfl, ?_, ?_, hw⟩
  · rw [d0, d1, d2]; rfl
  · rw [d0, d1, d2]; rfl
theorem small_r3 {x : T3} (hb : Rows.uptoBulk (t3D (H := H) x) ≤ 1048576) : x.f.size ≤ 1048576 ∧ x.t.size ≤ 1048576 := by
  simp only [t3D, Rows.uptoBulk, Rows.uptoBulkAll, Array.length_toList] at hb
  have e1 : x.f.size = x.f.data.size := rfl
  have e2 : x.t.size = x.t.data.size := rfl
  omega
end
end Go.Proofs.YtmpoihejacklnaaDoor
/- rule.wrong: the errors of rules that may not be, handed on one by one; rule.Is. No condition. -/
namespace Go.Proofs.YtmpoihejacklnaaDoor
open Go Go.RowKit Go.Shelf
attribute [local go_sem] Oper.semAt_some
/-- The errors of rules that may not be. -/
def errR (xs : List T3) : List Int := (xs.map rchk).filter fun e => decide (e ≠ 0)
theorem errR_take (xs : List T3) (k : Nat) (h : k < xs.length) : errR (xs.take (k + 1)) = errR (xs.take k) ++ if rchk xs[k] ≠ 0 then [rchk xs[k]] else [] := by
  unfold errR
  rw [List.take_succ_eq_append_getElem h, List.map_append, List.filter_append]
  congr 1
  by_cases hc : rchk xs[k] = 0 <;> simp [hc]
theorem grown_of_below {W W' : World} (h : Below W.heap.size W W') : W.grownBy W' none := ⟨h.os, h.tape, h.output, h.size, fun i hi _ => h.block i hi⟩
theorem scope_in {P : Program} {c : Code} {n : Nat} {Q : Exit → Act → World → Prop} {a : Act} {w : World} (h : c.wpIn Fence.wide n P (Exit.noGoto Q) a w) : (Code.scope c).wpIn Fence.wide n P Q a w := wpIn_wide.2 (wp_scope_straight (wpIn_wide.1 h))
set_option maxRecDepth 100000 in
set_option maxHeartbeats 1000000 in
theorem wrong1_in (n : Nat) (hn : 1 ≤ n) (l Bn : Nat) (A : Option Addr) (c : Nat) (xs : List T3) (w0 : World) (hU : U w0) (hs : SlA eT3 w0 A xs) (hm : Small xs) (J Jx : List Int → World → Prop) (W : World)
    (hJ : AbidesFrom W.heap.size J)
    (hY : ∀ pre x W1, J pre W1 → pre.length < xs.length → YieldAt Fence.wide (n - 1) Tryd.prog l #[.int .i64 x] W1 fun e W' =>
      (e = .returned (.bool true) ∧ J (pre ++ [x]) W' ∧ Below w0.heap.size W1 W') ∨ (e = .returned (.bool false) ∧ Jx (pre ++ [x]) W'))
    (hb0 : Below w0.heap.size w0 W) (hBn : W.cell? ⟨Bn, 0, none⟩ = some (.slice A xs.length c)) (h0 : J [] W) :
    CallsIn Fence.wide n Tryd.prog 67 #[.func (.yield l) #[] #[], .pointer (some ⟨Bn, 0, none⟩)] W fun e W' => (∃ v, e = .returned v) ∧
      ((∃ ys, ys = errR xs ∧ J ys W') ∨ (∃ pre, (∃ q, errR xs = pre ++ q) ∧ Jx pre W')) := by
  have hl := hm.1
  refine callsIn_of_wp Tryd.func67 rfl trivial ?_ rfl
  simp only [Tryd.ntmps67, List.size_toArray, List.length_cons, List.length_nil, Nat.reduceAdd, Nat.reduceSub, Array.replicate_succ, Array.replicate_zero, List.push_toArray, List.append_toArray, List.nil_append, List.cons_append]
  gi_wp2
  refine scope_in ?_
  refine wpIn_seq_k fun K hK => wpIn_label (hK _ _ ?_)
  clear hK K
  have HU := Lib.hid hU
  clear hU
  gi_wp2
  gi_loopw [8] (fun s wr => ∃ (k : Nat) (pre : List Int), k ≤ xs.length ∧ s = .int .i64 k ∧ Hid (pre = errR (xs.take k)) ∧ pre.length ≤ k ∧ J pre wr ∧ Below w0.heap.size w0 wr) (fun s _ => xs.length - (intOf s).toNat)
  case atStart => exact ⟨0, [], by omega, rfl, rfl, by simp, h0, hb0⟩
  case round =>
    obtain ⟨k, pre, hk, rfl, HP, hpl, hJp, hb⟩ := hrel
    by_cases hlt : k < xs.length
    · obtain ⟨b, o, rfl, hbs, p1, p2, p3⟩ := hs.n3 (fun _ => rfl) hb k hlt
      obtain ⟨z1, z2⟩ := hm.at k hlt
      have het := errR_take xs k hlt
      by_cases hz : rchk xs[k] = 0
      · rw [if_neg (by simpa using hz), List.append_nil] at het
        have HT := Lib.hid het; have HZ := Lib.hid hz
        clear het hz
        gi_wp2_with (refine ⟨trivial, ?_⟩; gi_at_call 68; refine (callsIn_wide.2 (rchk_c xs[k] _ (HU.out.to Bel) (by omega) (by omega))).mono ?_; rintro e w2 ⟨rfl, hb2⟩; rw [HZ.out])
        refine ⟨fun _ h => (by cases h), ?_⟩
        gi_wp2
        have hbw : Below wr.heap.size wr w2 := Bel
        refine ⟨⟨k + 1, pre, by omega, by go_num, ?_, by omega, hJ _ _ _ none hJp (grown_of_below hbw) (fun r e => by cases e), Bel⟩, by simp [intOf]; omega⟩
        show pre = _
        rw [HT.out]; exact HP.out
      · rw [if_pos hz] at het
        have HT := Lib.hid het
        have hn : (rchk xs[k] != 0) = true := by simp [hz]
        clear het hz
        gi_wp2_with (refine ⟨trivial, ?_⟩; gi_at_call 68; refine (callsIn_wide.2 (rchk_c xs[k] _ (HU.out.to Bel) (by omega) (by omega))).mono ?_; rintro e w2 ⟨rfl, hb2⟩; have hbw : Below wr.heap.size wr w2 := Bel; have hb02 : Below w0.heap.size w0 w2 := Bel; obtain ⟨fn, tmps, assign, body, hy, hR⟩ := hY pre (rchk xs[k]) w2 (hJ _ _ _ none hJp (grown_of_below hbw) (fun r e => by cases e)) (by omega))
        refine hR.mono ?_
        rintro e W3 (⟨rfl, hJ3, hk3⟩ | ⟨rfl, hJx3⟩)
        · gi_wp2
          refine ⟨⟨k + 1, pre ++ [rchk xs[k]], by omega, by go_num, ?_, by simp; omega, hJ3, hb02.trans hk3⟩, by simp [intOf]; omega⟩
          show _ = _
          rw [HT.out, HP.out]
        · gi_wp2
          rw [Exit.noGoto_normal]
          go_end0
          refine ⟨⟨_, rfl⟩, .inr ⟨_, ⟨errR (xs.drop (k + 1)), ?_⟩, hJx3⟩⟩
          rw [HP.out, ← HT.out]
          unfold errR
          rw [← List.filter_append, ← List.map_append, List.take_append_drop]
    · gi_wp2
      rw [Exit.noGoto_normal]
      go_end0
      refine ⟨⟨_, rfl⟩, .inl ⟨pre, ?_, hJp⟩⟩
      rw [HP.out, List.take_of_length_le (by omega)]
set_option maxHeartbeats 1000000 in
/-- What 'wrong' hands back: its argument is boxed. -/
theorem wrong_in (n k c : Nat) (A : Option Addr) (w : World) : CallsIn Fence.wide n Tryd.prog 40 #[.slice A k c] w fun e w' => e = .returned (.func (.func 67) #[] #[.pointer (some ⟨w.heap.size, 0, none⟩)]) ∧ w' = w.alloc (.cells #[.slice A k c] 22) := by
  refine callsIn_of_wp Tryd.func40 rfl trivial ?_ rfl
  simp only [Tryd.ntmps40, List.size_toArray, List.length_cons, List.length_nil, Nat.reduceAdd, Nat.reduceSub, Array.replicate_succ, Array.replicate_zero, List.push_toArray, List.append_toArray, List.nil_append, List.cons_append]
  gi_wp2
  go_ret
  exact ⟨rfl, rfl⟩
theorem wrong_stops (n : Nat) (hn : 1 ≤ n) (Bn : Nat) (A : Option Addr) (c : Nat) (xs : List T3) (w0 w : World) (hU : U w0) (hs : SlA eT3 w0 A xs) (hm : Small xs) (hb : Below w0.heap.size w0 w) (hBn : Bn < w.heap.size) (hc : w.cell? ⟨Bn, 0, none⟩ = some (.slice A xs.length c)) :
    SeqStopsK Fence.wide n Tryd.prog 67 #[.pointer (some ⟨Bn, 0, none⟩)] (fun x : Int => #[Value.int .i64 x]) (Below w0.heap.size) (fun ys => ys = errR xs) (fun pre => ∃ q, errR xs = pre ++ q) xs.length w := fun l J Jx W hW hJ _ hY h0 =>
  wrong1_in n hn l Bn A c xs w0 hU hs hm J Jx W hJ hY (hb.trans (hW.mono hb.size)) ((hW.cell (p := ⟨Bn, 0, none⟩) hBn).trans hc) h0
end Go.Proofs.YtmpoihejacklnaaDoor
/- Regions whose operations do not panic: nothing is asked of the rest of the function. No condition. -/
namespace Go.Proofs.YtmpoihejacklnaaDoor
open Go Go.RowKit
/-- No panic. -/
def noP (Q : Exit → Act → World → Prop) : Exit → Act → World → Prop
  | .panic _, _, _ => False
  | .normal, a, w => Q .normal a w
  | .ret, a, w => Q .ret a w
  | .exit i, a, w => Q (.exit i) a w
  | .goto i, a, w => Q (.goto i) a w
  | .outgrown, a, w => Q .outgrown a w
theorem noP_normal {Q : Exit → Act → World → Prop} {a : Act} {w : World} : noP Q .normal a w = Q .normal a w := rfl
attribute [go_sem] noP_normal
theorem noP_le {Q : Exit → Act → World → Prop} : ∀ (e : Exit) (a : Act) (w : World), noP Q e a w → Q e a w
  | .panic _, _, _, h => h.elim
  | .normal, _, _, h => h
  | .ret, _, _, h => h
  | .exit _, _, _, h => h
  | .goto _, _, _, h => h
  | .outgrown, _, _, h => h
theorem region_seqP {P : Program} {ops : Array Oper} {id : Nat} {Q : Exit → Act → World → Prop} {a : Act} {w : World} (L : List (Nat × Bool)) (hm : P.follows .mixedOrders = true) (hB : (Region.noSelect ops && decide (L.length = ops.size) && orderB ops L (Array.replicate ops.size false)) = true)
    (h : ∀ W, Below w.heap.size w W → wpSeq P ops W (noP Q) L a W) : (Code.region id ops true).wp P Q a w :=
  wp_mono (region_seq (Q := noP Q) L hm hB (fun _ _ _ _ _ h => h.elim) h) noP_le
theorem region_mixP {P : Program} {id : Nat} {Q : Exit → Act → World → Prop} {a : Act} {w : World} {l : List Oper} (n : Nat) (L : List (Nat × Bool)) (hm : P.follows .mixedOrders = true)
    (hB : (Region.noSelect l.toArray && Region.sinkB .any l.toArray n && Region.chainB .any l.toArray n && decide (n < l.length) && decide (L.length = n) && mixB l.toArray n L (Array.replicate l.length false)) = true)
    (h : ∀ W, Below w.heap.size w W → wpSeqT P l.toArray W (noP Q) (fun a' W' => wpList P l.toArray (noP Q) (l.drop n) a' W') L a W) : (Code.region id l.toArray true).wp P Q a w :=
  wp_mono (region_mix (Q := noP Q) n L hm hB (fun _ _ _ _ _ h => h.elim) h) noP_le
end Go.Proofs.YtmpoihejacklnaaDoor
/- rule.Is: whether rules are normal. No condition. -/
namespace Go.Proofs.YtmpoihejacklnaaDoor
open Go Go.RowKit Go.Shelf
attribute [local go_sem] Oper.semAt_some
/-- Whether rules are normal. -/
def isE (xs : List T3) : Int := if errR xs ≠ [] then (errR xs).headD 0 else if riseT xs = false then 7 else if 4096 < xs.length then 6 else 0
set_option maxRecDepth 100000 in
set_option maxHeartbeats 2000000 in
theorem is_c (A : Option Addr) (c : Nat) (xs : List T3) (w : World) (hU : U w) (hs : SlA eT3 w A xs) (hm : Small xs) :
    Calls Tryd.prog 25 #[.slice A xs.length c] w (Ret w (.int .i64 (isE xs))) := by
  refine (callsIn_wide (n := 5)).1 ?_
  have hl := hm.1
  refine callsIn_of_wp_marks Tryd.func25 rfl trivial ?_ rfl
  simp only [Tryd.ntmps25, List.size_toArray, List.length_cons, List.length_nil, Nat.reduceAdd, Nat.reduceSub, Array.replicate_succ, Array.replicate_zero, List.push_toArray, List.append_toArray, List.nil_append, List.cons_append]
  gi_wp2_with (refine ⟨trivial, ?_⟩; gi_at_call 40; refine (wrong_in _ _ _ _ _).mono ?_; rintro e w1 ⟨rfl, rfl⟩)
  have bR := Boxed.new w 27 (.int .i64 0)
  have bN := Boxed.new (w.alloc (.cells #[.int .i64 0] 27)) 22 (.slice A xs.length c)
  rw [World.size_alloc] at bN
  have hB0 : Below w.heap.size w ((w.alloc (.cells #[.int .i64 0] 27)).alloc (.cells #[.slice A xs.length c] 22)) := Bel
  refine wpIn_rangeFunc_ownF rfl (by omega) (gf := 67) (lb := #[.pointer (some ⟨w.heap.size + 1, 0, none⟩)]) rfl trivial (enters_of Tryd.func67 (by kernel_rfl) rfl)
    (wrong_stops (5 - 1) (by omega) (w.heap.size + 1) A c xs w _ hU hs hm hB0 (by simp) bN.cell) belowK_t (belowK_b (by simp; omega)) (Below.refl _ _) (fun _ => rfl)
    (fun pre W => pre = [] ∧ Boxed W w.heap.size 27 (.int .i64 0) ∧ Below w.heap.size w W)
    (fun c pre W => (c = .ret ∧ ∃ e, pre = [e]) ∧ Boxed W w.heap.size 27 (.int .i64 (pre.headD 0)) ∧ Below w.heap.size w W)
    (OwnFrom.and (ownFrom_pure _ (fun pre => pre = [])) (OwnFrom.and (Own.from (boxed_own w.heap.size _ (fun _ => .int .i64 0)) _) (ownFrom_below (Nat.le_refl _) (by simp; omega))))
    (fun c => OwnFrom.and (ownFrom_pure _ (fun pre => c = .ret ∧ ∃ e, pre = [e])) (OwnFrom.and (Own.from (boxed_own w.heap.size _ (fun pre : List Int => .int .i64 (pre.headD 0))) _) (ownFrom_below (Nat.le_refl _) (by simp; omega))))
    ⟨rfl, bR.alloc _, hB0⟩
    (fun x => { tmps := #[.slice A xs.length c, undef, .pointer (some ⟨w.heap.size, 0, none⟩), .int .i64 x, undef, .slice A xs.length c, .func (.func 67) #[] #[.pointer (some ⟨w.heap.size + 1, 0, none⟩)], .int .i64 x, undef, undef, undef, undef, undef, undef, undef, undef, undef, undef, undef, undef, undef, undef, undef, undef, undef, undef, undef, undef, undef, undef, undef, undef, undef], defers := [] }) ?assign ?body ?done ?stop
  case assign =>
    intro l x W K hK
    gi_wp2
    exact hK
  case body =>
    rintro l pre x W ⟨rfl, hR, hb⟩ _
    have hc := hR.cell
    have hf := hR.frozen
    gi_wp2
    exact ⟨KeepsOthers.setCell _ _ _, ⟨rfl, x, rfl⟩, hR.set _, hb.setCell (p := ⟨w.heap.size, 0, none⟩) (Nat.le_refl _) _⟩
  case done =>
    rintro D ys W hD rfl ⟨hnil, hR, hb⟩ hK
    have HI : Hid (isE xs = if riseT xs = false then 7 else if 4096 < xs.length then 6 else 0) := by show isE xs = _; unfold isE; rw [if_neg (by simpa using hnil)]
    clear hnil bR bN hB0
    have HR := Lib.hid hR; have HK := Lib.hid hK
    have hDW : D < W.heap.size := (Array.getElem?_eq_some_iff.1 hK).1
    have hBW : w.heap.size < W.heap.size := hR.lt
    have hDB : D ≠ w.heap.size := by simp at hD; omega
    have hcc := hR.cell
    have hff := hR.frozen
    clear hR hK
    gi_wp2
    refine wpIn_wide.2 ?_
    go_loopw [11] (fun s wr => ∃ k : Nat, k ≤ xs.length ∧ s = .int .i64 k ∧ Hid (upTo xs k) ∧ Below W.heap.size W wr) (fun s _ => xs.length - (intOf s).toNat)
    case atStart => exact ⟨0, by omega, rfl, fun i h h1 => by omega, Below.refl _ _⟩
    case round =>
      obtain ⟨k, hk, rfl, HUP, hbr⟩ := hrel
      have hbw : Below w.heap.size w wr := Bst hb hbr
      by_cases hlt : k < xs.length
      · rcases Nat.eq_zero_or_pos k with rfl | hp
        · go_wp2_with fail
          refine region_seqP [(0, true), (1, true), (2, true), (3, true), (4, true), (5, true), (6, true), (7, true), (8, true), (9, true), (10, true), (11, true), (12, false), (13, true), (14, true)] (by kernel_rfl) (by kernel_rfl) ?_
          intro W2 hW2
          repeat (first
            | (refine seq_q rfl (fun K hK => ?_); unfold takeQ; go_simp; refine hK _ ?_; clear hK K)
            | (refine seq_t rfl (fun K hK => ?_); go_simp; refine hK _ _ (.of Bel) ?_; clear hK K))
          refine seq_nil ?_
          rw [noP_normal]
          go_wp2
          exact ⟨⟨1, by omega, rfl, fun i h h1 => by omega, Bel⟩, by simp [intOf]; omega⟩
        · obtain ⟨j, rfl⟩ : ∃ j, k = j + 1 := ⟨k - 1, by omega⟩
          obtain ⟨b, o, rfl, hbs, c1, c2, c3⟩ := hs.n3 (fun _ => rfl) hbw j (by omega)
          obtain ⟨b', o', h', _, d1, d2, d3⟩ := hs.n3 (fun _ => rfl) hbw (j + 1) (by omega)
          obtain ⟨rfl, rfl⟩ : b = b' ∧ o = o' := by injection h' with h'; injection h' with h1 h2; exact ⟨h1, h2⟩
          clear h'
          have hjl : j < xs.length := by omega
          have hj1 : (j : Int) + 1 < xs.length := by omega
          have hj0 : 0 ≤ (j : Int) + 1 := by omega
          have ht1 : ((j : Int) + 1).toNat = j + 1 := by omega
          have hwj : IntKind.i64.wrap (j : Int) = j := IntWalk.i64_in _ (by omega)
          cases hy : ltT xs[j] xs[j + 1]
          all_goals
            have HY := Lib.hid hy
            clear hy
            go_wp2_with fail
            refine region_seqP [(0, true), (1, true), (2, true), (3, true), (4, true), (5, true), (6, true), (7, true), (8, true), (9, true), (10, true), (11, true), (12, false), (13, true), (14, true)] (by kernel_rfl) (by kernel_rfl) ?_
            intro W2 hW2
            obtain ⟨hcW, hzW⟩ := bcell hW2
            repeat (first
              | (refine seq_q rfl (fun K hK => ?_); unfold takeQ; go_simp; refine hK _ ?_; clear hK K)
              | (refine seq_t rfl (fun K hK => ?_); go_simp; go_at_call 48; refine (rless_c xs[j] xs[j + 1] _).mono ?_; rintro e w3 ⟨rfl, hb3⟩; rw [HY.out]; go_simp; refine hK _ _ (.of Bel) ?_; clear hK K))
            refine seq_nil ?_
            rw [noP_normal]
          · have HV : Hid (isE xs = 7) := by show isE xs = 7; rw [HI.out, if_pos (rise_no hlt HY.out)]
            have hbW3 : Below W.heap.size W w3 := Bst hbr (Bst hW2 hb3)
            have hcc3 := (hbW3.cell (p := ⟨w.heap.size, 0, none⟩) hBW).trans hcc
            have hff3 := (hbW3.frozen (p := ⟨w.heap.size, 0, none⟩) hBW).trans hff
            go_wp2
            have hK3 : (w3.setCell ⟨w.heap.size, 0, none⟩ (.int .i64 7)).heap[D]? = some (.deferred (some [])) := (heap_setCell_other w3 _ D _ hDB).trans ((hbW3.block D hDW).trans HK.out)
            have hR3 : Boxed (w3.setCell ⟨w.heap.size, 0, none⟩ (.int .i64 7)) w.heap.size 27 (.int .i64 7) := Boxed.set _ (show Boxed w3 w.heap.size 27 (.int .i64 0) from (hbW3.block _ hBW).trans HR.out)
            have hb3' : Below w.heap.size w (w3.setCell ⟨w.heap.size, 0, none⟩ (.int .i64 7)) := Bsc (Bst hb hbW3) (Nat.le_refl _) _
            refine ⟨by simp, .inl ⟨_, _, rfl, run_takeDeferred hK3, ?_⟩⟩
            have hc5 := cell_kept hR3.cell (grownBy_putObj' _ D (.deferred none)) (fun r e => by cases e; exact ⟨_, hK3, rfl⟩)
            refine ⟨_, ?_, by rw [HV.out], hb3'.trans (belowK_b (w := w) (Nat.le_refl _) _ D _ _ (by simp at hD; omega) hK3 rfl rfl)⟩
            simp [results, Tryd.f25, go_sem, hc5]
          · go_wp2
            exact ⟨⟨j + 1 + 1, by omega, by go_num, upTo_succ hlt HUP.out HY.out, Bel⟩, by simp [intOf]; omega⟩
      · obtain rfl : k = xs.length := by omega
        have HR2 := Lib.hid (upTo_all HUP.out)
        have HS : Hid (isE xs = if 4096 < xs.length then 6 else 0) := by show isE xs = _; rw [HI.out, if_neg (by rw [HR2.out]; simp)]
        have hcc3 := (hbr.cell (p := ⟨w.heap.size, 0, none⟩) hBW).trans hcc
        have hff3 := (hbr.frozen (p := ⟨w.heap.size, 0, none⟩) hBW).trans hff
        by_cases h4 : 4096 < xs.length
        · have HV : Hid (isE xs = 6) := by show isE xs = 6; rw [HS.out, if_pos h4]
          go_wp2
          refine wpIn_wide.2 ?_
          go_wp2
          have hK3 : (wr.setCell ⟨w.heap.size, 0, none⟩ (.int .i64 6)).heap[D]? = some (.deferred (some [])) := (heap_setCell_other wr _ D _ hDB).trans ((hbr.block D hDW).trans HK.out)
          have hR3 : Boxed (wr.setCell ⟨w.heap.size, 0, none⟩ (.int .i64 6)) w.heap.size 27 (.int .i64 6) := Boxed.set _ (show Boxed wr w.heap.size 27 (.int .i64 0) from (hbr.block _ hBW).trans HR.out)
          have hb3' : Below w.heap.size w (wr.setCell ⟨w.heap.size, 0, none⟩ (.int .i64 6)) := Bsc hbw (Nat.le_refl _) _
          refine ⟨by simp, .inl ⟨_, _, rfl, run_takeDeferred hK3, ?_⟩⟩
          have hc5 := cell_kept hR3.cell (grownBy_putObj' _ D (.deferred none)) (fun r e => by cases e; exact ⟨_, hK3, rfl⟩)
          refine ⟨_, ?_, by rw [HV.out], hb3'.trans (belowK_b (w := w) (Nat.le_refl _) _ D _ _ (by simp at hD; omega) hK3 rfl rfl)⟩
          simp [results, Tryd.f25, go_sem, hc5]
        · have HV : Hid (isE xs = 0) := by show isE xs = 0; rw [HS.out, if_neg h4]
          go_wp2
          refine wpIn_wide.2 ?_
          go_wp2
          have hK3 : (wr.setCell ⟨w.heap.size, 0, none⟩ (.int .i64 0)).heap[D]? = some (.deferred (some [])) := (heap_setCell_other wr _ D _ hDB).trans ((hbr.block D hDW).trans HK.out)
          have hR3 : Boxed (wr.setCell ⟨w.heap.size, 0, none⟩ (.int .i64 0)) w.heap.size 27 (.int .i64 0) := Boxed.set _ (show Boxed wr w.heap.size 27 (.int .i64 0) from (hbr.block _ hBW).trans HR.out)
          have hb3' : Below w.heap.size w (wr.setCell ⟨w.heap.size, 0, none⟩ (.int .i64 0)) := Bsc hbw (Nat.le_refl _) _
          refine ⟨by simp, .inl ⟨_, _, rfl, run_takeDeferred hK3, ?_⟩⟩
          have hc5 := cell_kept hR3.cell (grownBy_putObj' _ D (.deferred none)) (fun r e => by cases e; exact ⟨_, hK3, rfl⟩)
          refine ⟨_, ?_, by rw [HV.out], hb3'.trans (belowK_b (w := w) (Nat.le_refl _) _ D _ _ (by simp at hD; omega) hK3 rfl rfl)⟩
          simp [results, Tryd.f25, go_sem, hc5]
  case stop =>
    rintro D c' pre W hD ⟨q, hq⟩ ⟨⟨rfl, e, rfl⟩, hR, hb⟩ hK
    have HI : Hid (isE xs = e) := by show isE xs = _; unfold isE; rw [hq]; simp
    gi_wp2
    refine ⟨by simp, .inl ⟨_, _, rfl, run_takeDeferred hK, ?_⟩⟩
    have hc5 := cell_kept hR.cell (grownBy_putObj' _ D (.deferred none)) (fun r e => by cases e; exact ⟨_, hK, rfl⟩)
    refine ⟨.int .i64 e, ?_, by rw [HI.out], hb.trans (belowK_b (w := w) (Nat.le_refl _) W D _ _ (by simp at hD; omega) hK rfl rfl)⟩
    simp [results, Tryd.f25, go_sem, hc5]
end Go.Proofs.YtmpoihejacklnaaDoor
