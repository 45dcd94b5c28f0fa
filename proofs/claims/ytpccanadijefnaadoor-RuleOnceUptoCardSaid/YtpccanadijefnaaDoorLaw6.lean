/- Whether two tables are the same; what is too great; how many there are. No condition. -/
import Derived.Test.YtpccanadijefnaaDoorPl6
import Derived.Laws.StructEq
namespace Go.Proofs.YtpccanadijefnaaDoor
open Go Go.RowKit
noncomputable instance : DecidableEq T3 := fun _ _ => Classical.propDecidable _
noncomputable def sameT (xs ys : List T3) : Bool := decide (xs = ys)
theorem t3_ne {a b : T3} : a ≠ b ↔ ¬ (a.f = b.f ∧ a.t = b.t ∧ a.n = b.n) := by cases a; cases b; simp
theorem blk_equal (a b : T3) (w : World) : (Op.equalIn 10000 25 (.agg #[.string a.f, .string a.t, .int .i64 a.n]) (.agg #[.string b.f, .string b.t, .int .i64 b.n])).run Tryd.prog w = .ok (decide (a = b)) w := by
  rw [run_equalIn_agg w 9999 _ _ _ (by kernel_rfl) (by kernel_rfl)]
  have hs : ∀ x y : ByteArray, x.toList = y.toList ↔ x = y := fun x y => ⟨ba_ext, fun h => by rw [h]⟩
  have he : (decide (a = b)) = (decide (a.f = b.f) && (decide (a.t = b.t) && decide (a.n = b.n))) := by cases a; cases b; simp
  rw [he]
  simp [go_sem, Op.eqFields, Program.fieldsOf, Tryd.underlying25, Tryd.underlying9, Tryd.underlying3, hs]
  by_cases h1 : a.f = b.f <;> by_cases h2 : a.t = b.t <;> by_cases h3 : a.n = b.n <;> simp [h1, h2, h3]
set_option maxHeartbeats 1000000 in
set_option maxRecDepth 100000 in
theorem same_c (A B : Option Addr) (c d : Nat) (xs ys : List T3) (w : World) (hs : SlA eT3 w A xs) (ht : SlA eT3 w B ys) (hl : xs.length ≤ 4294967296) (hm : ys.length ≤ 4294967296) :
    Calls Tryd.prog 39 #[.slice A xs.length c, .slice B ys.length d] w (Ret w (.bool (sameT xs ys))) := by
  by_cases hne : xs.length = ys.length
  · have hn0 : ((xs.length : Int) != ys.length) = false := by simp [hne]
    have HNE := Lib.hid hne
    clear hne
    go_enter Tryd.func39, Tryd.ntmps39
    go_wp2
    go_loopw [5, 13] (fun _ i wr => ∃ k : Nat, k ≤ xs.length ∧ i = .int .i64 k ∧ Hid (xs.take k = ys.take k) ∧ Below w.heap.size w wr) (fun _ i _ => xs.length - (intOf i).toNat)
    case atStart => exact ⟨0, by omega, rfl, rfl, Bel⟩
    case round =>
      obtain ⟨k, hk, rfl, HE, hb⟩ := hrel
      by_cases hlt : k < xs.length
      · have hlt' : k < ys.length := by have := HNE.out; omega
        have hk1 : (k : Int) < xs.length := by omega
        have hk2 : (k : Int) < ys.length := by omega
        obtain ⟨b, o, rfl, hbs, c1, c2, c3⟩ := hs.n3 (fun _ => rfl) hb k hlt
        obtain ⟨b', o', rfl, hbs', d1, d2, d3⟩ := ht.n3 (fun _ => rfl) hb k hlt'
        by_cases e : xs[k] = ys[k]
        · have HT : Hid (xs.take (k + 1) = ys.take (k + 1)) := by
            have h := HE.out
            show xs.take (k + 1) = ys.take (k + 1)
            rw [List.take_succ_eq_append_getElem hlt, List.take_succ_eq_append_getElem hlt', h, e]
          have hq : ∀ W, (Op.equalIn 10000 25 (.agg #[.string xs[k].f, .string xs[k].t, .int .i64 xs[k].n]) (.agg #[.string ys[k].f, .string ys[k].t, .int .i64 ys[k].n])).run Tryd.prog W = .ok true W := fun W => (blk_equal xs[k] ys[k] W).trans (by simp [e])
          clear e
          go_wp2_with fail
          refine region_qall (by kernel_rfl) (by kernel_rfl) (fun W => ∃ n, W = World.drewN _ n) ⟨1, rfl⟩ ?_
          repeat (quiet_step (fail))
          refine wpQuiet_nil ?_
          intro _ hw'
          obtain ⟨nq, rfl⟩ := hw'
          go_wp2
          exact ⟨⟨k + 1, by omega, by go_num, HT, Bel⟩, by simp [intOf]; omega⟩
        · have hn := t3_ne.1 e
          have HV : Hid (sameT xs ys = false) := by
            show sameT xs ys = false
            unfold sameT
            simp only [decide_eq_false_iff_not]
            intro h; subst h; exact e rfl
          have hq : ∀ W, (Op.equalIn 10000 25 (.agg #[.string xs[k].f, .string xs[k].t, .int .i64 xs[k].n]) (.agg #[.string ys[k].f, .string ys[k].t, .int .i64 ys[k].n])).run Tryd.prog W = .ok false W := fun W => (blk_equal xs[k] ys[k] W).trans (by simp [e])
          clear e hn
          go_wp2_with fail
          refine region_qall (by kernel_rfl) (by kernel_rfl) (fun W => ∃ n, W = World.drewN _ n) ⟨1, rfl⟩ ?_
          repeat (quiet_step (fail))
          refine wpQuiet_nil ?_
          intro _ hw'
          obtain ⟨nq, rfl⟩ := hw'
          go_wp2
          go_ret
          exact ⟨by rw [HV.out]; rfl, Bel⟩
      · have HV : Hid (sameT xs ys = true) := by
          have h := HE.out
          rw [List.take_of_length_le (by omega), List.take_of_length_le (by have := HNE.out; omega)] at h
          show sameT xs ys = true
          unfold sameT; simp [h]
        go_wp2
        go_ret
        exact ⟨by rw [HV.out]; rfl, Bel⟩
  · have HV : Hid (sameT xs ys = false) := by
      show sameT xs ys = false
      unfold sameT; simp only [decide_eq_false_iff_not]; intro h; exact hne (by rw [h])
    have hn : ((xs.length : Int) != ys.length) = true := by simp; omega
    go_enter Tryd.func39, Tryd.ntmps39
    go_wp2
    go_ret
    exact ⟨by rw [HV.out]; rfl, Bel⟩
/-- The texts' bytes. -/
def szT (l : List T3) : Nat := (l.map fun b => b.f.size + b.t.size).sum
theorem sz_take (l : List T3) (k : Nat) (h : k < l.length) : szT (l.take (k + 1)) = szT (l.take k) + (l[k].f.size + l[k].t.size) := by
  unfold szT; rw [List.take_succ_eq_append_getElem h, List.map_append, List.sum_append]; simp
def greatT (l : List T3) : Bool := decide (500 < l.length ∨ 8000 < szT l)
set_option maxHeartbeats 1000000 in
set_option maxRecDepth 100000 in
theorem great_c (A : Option Addr) (c : Nat) (xs : List T3) (w : World) (hs : SlA eT3 w A xs) (hm : Small xs) :
    Calls Tryd.prog 36 #[.slice A xs.length c] w (Ret w (.bool (greatT xs))) := by
  have hl := hm.1
  go_enter Tryd.func36, Tryd.ntmps36
  go_wp2
  go_loopw [3, 8] (fun s i wr => ∃ k : Nat, k ≤ xs.length ∧ i = .int .i64 k ∧ s = .int .i64 (szT (xs.take k)) ∧ szT (xs.take k) ≤ k * 2097152 ∧ Below w.heap.size w wr) (fun _ i _ => xs.length - (intOf i).toNat)
  case atStart => exact ⟨0, by omega, rfl, by simp [szT], by simp [szT], Bel⟩
  case round =>
    obtain ⟨k, hk, rfl, rfl, hs1, hb⟩ := hrel
    by_cases hlt : k < xs.length
    · obtain ⟨b, o, rfl, hbs, c1, c2, c3⟩ := hs.n3 (fun _ => rfl) hb k hlt
      obtain ⟨z1, z2⟩ := hm.at k hlt
      have HD := Lib.hid (sz_take xs k hlt)
      go_wp2
      go_roundw
      case rel => exact ⟨k + 1, by omega, by go_num, by rw [HD.out]; push_cast; rfl, by rw [HD.out]; omega, Bel⟩
      case measure => simp [intOf]; omega
    · have hkk : xs.take k = xs := List.take_of_length_le (by omega)
      rw [hkk] at hs1 ⊢
      clear hkk
      have HG : Hid (greatT xs = (decide (500 < xs.length) || decide (8000 < szT xs))) := by
        show greatT xs = _
        unfold greatT; simp
      by_cases h1 : 500 < xs.length
      · go_wp2
        go_ret
        exact ⟨by rw [HG.out]; simp [h1], Bel⟩
      · by_cases h2 : 8000 < szT xs
        · go_wp2
          go_ret
          exact ⟨by rw [HG.out]; simp [h1, h2] <;> omega, Bel⟩
        · go_wp2
          go_ret
          exact ⟨by rw [HG.out]; simp [h1, h2] <;> omega, Bel⟩
/-- What 'Total' hands back. -/
def totV (l : List T3) : Value := .tuple #[.int .i64 (if tchk l = 0 then sumT l else 0), .int .i64 (tchk l)]
theorem tchk_zero {l : List T3} (h : tchk l = 0) : eachT l = 0 ∧ riseT l = true ∧ sumT l ≤ 1073741824 ∧ l.length ≤ 4096 := by
  unfold tchk at h
  by_cases h1 : eachT l = 0
  · rw [if_neg (by simp [h1])] at h
    cases h2 : riseT l
    · rw [if_pos h2] at h; cases h
    · rw [if_neg (by simp [h2])] at h
      split at h
      · cases h
      · exact ⟨h1, rfl, by omega, by omega⟩
  · rw [if_pos h1] at h; exact absurd h h1
set_option maxHeartbeats 1000000 in
set_option maxRecDepth 100000 in
theorem total_c (A : Option Addr) (c : Nat) (xs : List T3) (w : World) (hU : U w) (hs : SlA eT3 w A xs) (hm : Small xs) :
    Calls Tryd.prog 38 #[.slice A xs.length c] w (Ret w (totV xs)) := by
  have hl := hm.1
  by_cases h0 : tchk xs = 0
  · have hz := tchk_zero h0
    have hn : ∀ b ∈ xs, 0 ≤ b.n ∧ b.n ≤ 2147483648 := fun b hb => by have := bchk_n b ((each_all xs).1 hz.1 b hb); omega
    have HT : Hid (totV xs = .tuple #[.int .i64 (sumT xs), .int .i64 0]) := by unfold totV; rw [h0]; rfl
    have HV : Hid (sumV xs = .tuple #[.int .i64 (sumT xs), .bool true]) := by unfold sumV; rw [if_pos hz.2.2.1]; rfl
    have HE := Lib.hid h0
    have HN := Lib.hid hn
    clear h0 hz hn
    go_enter Tryd.func38, Tryd.ntmps38
    go_wp2_with (first
      | (go_at_call 40; refine (tchk_c A c xs _ hU hs hm).mono ?_; rintro e w1 ⟨rfl, hb1⟩; rw [HE.out])
      | (go_at_call 81; refine (sum_c A c xs _ (hs.below Bel) (by omega) HN.out).mono ?_; rintro e w2 ⟨rfl, hb2⟩; rw [HV.out]))
    go_ret2
    exact ⟨by rw [HT.out]; rfl, Bel⟩
  · have hn : (tchk xs != 0) = true := by simp [h0]
    have HT : Hid (totV xs = .tuple #[.int .i64 0, .int .i64 (tchk xs)]) := by unfold totV; rw [if_neg h0]; rfl
    clear h0
    go_enter Tryd.func38, Tryd.ntmps38
    go_wp2_with (go_at_call 40; refine (tchk_c A c xs _ hU hs hm).mono ?_; rintro e w1 ⟨rfl, hb1⟩)
    go_ret2
    exact ⟨by rw [HT.out]; rfl, Bel⟩
def bA : T3 := ⟨⟨#[114, 110]⟩, ⟨#[109]⟩, 1⟩
def bB : T3 := ⟨⟨#[108]⟩, ⟨#[105]⟩, 1⟩
theorem bchk_A : bchk bA = 0 := by
  have h1 : okS bA.f = 0 := by decide
  have h2 : okS bA.t = 0 := by decide
  have h3 : lenS bA.f = 2 := by decide
  have h4 : lenS bA.t = 1 := by decide
  have h5 : (bA.f.toList == bA.t.toList) = false := by rw [ByteArray.toList_eq, ByteArray.toList_eq]; decide
  unfold bchk
  rw [h1, h2, h3, h4, h5]
  decide
theorem bchk_B : bchk bB = 0 := by
  have h1 : okS bB.f = 0 := by decide
  have h2 : okS bB.t = 0 := by decide
  have h3 : lenS bB.f = 1 := by decide
  have h4 : lenS bB.t = 1 := by decide
  have h5 : (bB.f.toList == bB.t.toList) = false := by rw [ByteArray.toList_eq, ByteArray.toList_eq]; decide
  unfold bchk
  rw [h1, h2, h3, h4, h5]
  decide
theorem AB_lt (n : Int) : ltT bB ⟨bA.f, bA.t, n⟩ = true := by
  rw [ltT_two]
  have h : lts bB.f bA.f = true := by unfold lts; rw [ByteArray.toList_eq, ByteArray.toList_eq]; decide
  show (lts bB.f bA.f || _) = true
  rw [h]; rfl
theorem AB_not : ¬ SameS bA bB ∧ ¬ SameS bB bA := by
  unfold SameS bA bB
  constructor
  · rintro ⟨h, _⟩; injection h with h; simp at h
  · rintro ⟨h, _⟩; injection h with h; simp at h
theorem alive_gath : gathL [bA, bB, bA] = [⟨bA.f, bA.t, 2⟩, bB] := by
  show addL (addL (addL [] bA) bB) bA = _
  have h1 : addL [] bA = [bA] := rfl
  have h2 : addL [bA] bB = [bA, bB] := by unfold addL; rw [if_neg AB_not.1]; rfl
  have h3 : addL [bA, bB] bA = [⟨bA.f, bA.t, 2⟩, bB] := by unfold addL; rw [if_pos ⟨rfl, rfl⟩]; rfl
  rw [h1, h2, h3]
theorem alive_E : tabE [bA, bB, bA] = 0 := by
  rw [tabE_zero]
  refine ⟨(each_all _).2 fun b hb => ?_, by decide, by rw [alive_gath]; decide⟩
  simp only [List.mem_cons, List.not_mem_nil, or_false] at hb
  rcases hb with h | h | h <;> rw [h]
  · exact bchk_A
  · exact bchk_B
  · exact bchk_A
theorem alive_tab {ys : List T3} (h : TabOf [bA, bB, bA] ys) : ys = [bB, ⟨bA.f, bA.t, 2⟩] := by
  have hr : ltT bB ⟨bA.f, bA.t, 2⟩ = true := AB_lt 2
  refine rise_eq h.tab.rise (by simpa using hr) fun b => ?_
  rw [h.1.mem_iff, alive_gath]
  simp only [List.mem_cons, List.not_mem_nil, or_false]
  exact Or.comm
end Go.Proofs.YtpccanadijefnaaDoor
