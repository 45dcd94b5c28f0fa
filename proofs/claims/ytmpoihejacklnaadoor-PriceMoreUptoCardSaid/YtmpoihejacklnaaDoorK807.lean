/- Parts of these proofs, one behind the other: Chk7, OwnSet, Find, FndR. No condition. -/
import Derived.Test.YtmpoihejacklnaaDoorK806
import Derived.Test.YtmpoihejacklnaaDoorK801
import Derived.Deep.Heap
import Derived.Test.YtmpoihejacklnaaDoorK805
/- The reference's Is; 'RuleChecks' walked. No condition. -/
namespace Go.Proofs.YtmpoihejacklnaaDoor
open Go Go.RowKit
theorem errR_drop (xs : List T3) (k : Nat) (h : k < xs.length) : errR (xs.drop k) = (if rchk xs[k] ≠ 0 then [rchk xs[k]] else []) ++ errR (xs.drop (k + 1)) := by
  unfold errR
  rw [List.drop_eq_getElem_cons h, List.map_cons, List.filter_cons]
  by_cases hc : rchk xs[k] = 0 <;> simp [hc]
/-- The first error, or none. -/
def allR (xs : List T3) : Int := (errR xs).headD 0
theorem allR_zero (xs : List T3) : allR xs = 0 ↔ errR xs = [] := by
  unfold allR
  constructor
  · intro h
    cases he : errR xs with
    | nil => rfl
    | cons e r =>
      exfalso
      rw [he] at h
      have h1 : e ∈ errR xs := by rw [he]; simp
      have h2 := (List.mem_filter.1 h1).2
      simp at h2 h
      exact h2 h
  · intro h; rw [h]; rfl
theorem allR_drop (xs : List T3) (k : Nat) (h : k < xs.length) : allR (xs.drop k) = if rchk xs[k] = 0 then allR (xs.drop (k + 1)) else rchk xs[k] := by
  unfold allR
  rw [errR_drop xs k h]
  by_cases hc : rchk xs[k] = 0 <;> simp [hc]
set_option maxHeartbeats 1000000 in
set_option maxRecDepth 100000 in
theorem r7all_c (A : Option Addr) (c : Nat) (xs : List T3) (w : World) (hs : SlA eT3 w A xs) (hm : Small xs) :
    Calls Tryd.prog 80 #[.slice A xs.length c] w (Ret w (.int .i64 (allR xs))) := by
  have hl := hm.1
  go_enter Tryd.func80, Tryd.ntmps80
  go_wp2
  go_loopw [8] (fun i wr => ∃ k : Nat, k ≤ xs.length ∧ i = .int .i64 k ∧ Hid (allR (xs.drop k) = allR xs) ∧ Below w.heap.size w wr) (fun i _ => xs.length - (intOf i).toNat)
  case atStart => exact ⟨0, by omega, rfl, rfl, Bel⟩
  case round =>
    obtain ⟨k, hk, rfl, HE, hb⟩ := hrel
    by_cases hlt : k < xs.length
    · obtain ⟨b, o, rfl, hbs, c1, c2, c3⟩ := hs.n3 (fun _ => rfl) hb k hlt
      have hd := allR_drop xs k hlt
      obtain ⟨z1, z2⟩ := hm.at k hlt
      by_cases hz : rchk xs[k] = 0
      · rw [if_pos hz] at hd
        have HD := Lib.hid hd; have HZ := Lib.hid hz
        clear hd hz
        go_wp2_with (go_at_call 100; refine (r7chk_c xs[k] _ (by omega) (by omega)).mono ?_; rintro e w2 ⟨rfl, hb2⟩; rw [HZ.out])
        exact ⟨⟨k + 1, by omega, by go_num, HD.out.symm.trans HE.out, Bel⟩, by simp [intOf]; omega⟩
      · rw [if_neg hz] at hd
        have hn : (rchk xs[k] != 0) = true := by simp [hz]
        have HD := Lib.hid hd
        clear hd hz
        go_wp2_with (go_at_call 100; refine (r7chk_c xs[k] _ (by omega) (by omega)).mono ?_; rintro e w2 ⟨rfl, hb2⟩)
        go_ret
        exact ⟨ret_int (HD.out.symm.trans HE.out), Bel⟩
    · go_wp2
      go_ret
      exact ⟨ret_int (by have h := HE.out; rw [List.drop_of_length_le (by omega)] at h; exact h), Bel⟩
set_option maxHeartbeats 1000000 in
set_option maxRecDepth 100000 in
theorem r7is_c (A : Option Addr) (c : Nat) (xs : List T3) (w : World) (hs : SlA eT3 w A xs) (hm : Small xs) :
    Calls Tryd.prog 53 #[.slice A xs.length c] w (Ret w (.int .i64 (isE xs))) := by
  have hl := hm.1
  by_cases h0 : allR xs = 0
  · have HE := Lib.hid h0
    have HI : Hid (isE xs = if riseT xs = false then 7 else if 4096 < xs.length then 6 else 0) := by show isE xs = _; unfold isE; rw [if_neg (by simpa using (allR_zero xs).1 h0)]
    clear h0
    go_enter Tryd.func53, Tryd.ntmps53
    go_wp2_with (go_at_call 80; refine (r7all_c A c xs _ hs hm).mono ?_; rintro e w1 ⟨rfl, hb1⟩; rw [HE.out])
    go_loopw [12] (fun s wr => ∃ k : Nat, k ≤ xs.length ∧ s = .int .i64 k ∧ Hid (upTo xs k) ∧ Below w.heap.size w wr) (fun s _ => xs.length - (intOf s).toNat)
    case atStart => exact ⟨0, by omega, rfl, fun i h h1 => by omega, Bel⟩
    case round =>
      obtain ⟨k, hk, rfl, HUP, hbw⟩ := hrel
      by_cases hlt : k < xs.length
      · rcases Nat.eq_zero_or_pos k with rfl | hp
        · go_wp2_with fail
          refine region_seq [(0, true), (1, true), (2, true), (3, true), (4, true), (5, true), (6, true), (7, true), (8, true), (9, true), (10, true), (11, true), (12, false), (13, true), (14, true)] (by kernel_rfl) (by kernel_rfl) (fun c a d v w h => by cases d <;> exact h) ?_
          intro W2 hW2
          repeat (first
            | (refine seq_q rfl (fun K hK => ?_); unfold takeQ; go_simp; refine hK _ ?_; clear hK K)
            | (refine seq_t rfl (fun K hK => ?_); go_simp; refine hK _ _ (.of Bel) ?_; clear hK K))
          refine seq_nil ?_
          go_wp2
          exact ⟨⟨1, by omega, rfl, fun i h h1 => by omega, Bel⟩, by simp [intOf]; omega⟩
        · obtain ⟨j, rfl⟩ : ∃ j, k = j + 1 := ⟨k - 1, by omega⟩
          obtain ⟨b, o, rfl, hbs, c1, c2, c3⟩ := hs.n3 (fun _ => rfl) hbw j (by omega)
          obtain ⟨b', o', h', _, d1, d2, d3⟩ := hs.n3 (fun _ => rfl) hbw (j + 1) (by omega)
          obtain ⟨rfl, rfl⟩ : b = b' ∧ o = o' := by injection h' with h'; injection h' with h1 h2; exact ⟨h1, h2⟩
          clear h'
          have hjl : j < xs.length := by omega
          have hj1 : (j : Int) + 1 < xs.length := by omega
          have hj0 : 0 ≤ (j : Int) + 1 := by omega
          have ht1 : ((j : Int) + 1).toNat = j + 1 := by omega
          have hwj : IntKind.i64.wrap (j : Int) = j := IntWalk.i64_in _ (by omega)
          cases hy : ltT xs[j] xs[j + 1]
          all_goals
            have HY := Lib.hid hy
            clear hy
            go_wp2_with fail
            refine region_seq [(0, true), (1, true), (2, true), (3, true), (4, true), (5, true), (6, true), (7, true), (8, true), (9, true), (10, true), (11, true), (12, false), (13, true), (14, true)] (by kernel_rfl) (by kernel_rfl) (fun c a d v w h => by cases d <;> exact h) ?_
            intro W2 hW2
            obtain ⟨hcW, hzW⟩ := bcell hW2
            repeat (first
              | (refine seq_q rfl (fun K hK => ?_); unfold takeQ; go_simp; refine hK _ ?_; clear hK K)
              | (refine seq_t rfl (fun K hK => ?_); go_simp; go_at_call 81; refine (r7less_c xs[j] xs[j + 1] _).mono ?_; rintro e w3 ⟨rfl, hb3⟩; rw [HY.out]; go_simp; refine hK _ _ (.of Bel) ?_; clear hK K))
            refine seq_nil ?_
          · have HV : Hid (isE xs = 7) := by show isE xs = 7; rw [HI.out, if_pos (rise_no hlt HY.out)]
            go_wp2
            go_ret
            exact ⟨by rw [HV.out]; rfl, Bel⟩
          · go_wp2
            exact ⟨⟨j + 1 + 1, by omega, by go_num, upTo_succ hlt HUP.out HY.out, Bel⟩, by simp [intOf]; omega⟩
      · obtain rfl : k = xs.length := by omega
        have HR2 := Lib.hid (upTo_all HUP.out)
        have HS : Hid (isE xs = if 4096 < xs.length then 6 else 0) := by show isE xs = _; rw [HI.out, if_neg (by rw [HR2.out]; simp)]
        by_cases h4 : 4096 < xs.length
        · go_wp2
          go_ret
          exact ⟨ret_int (by rw [HS.out, if_pos h4]), Bel⟩
        · go_wp2
          go_ret
          exact ⟨ret_int (by rw [HS.out, if_neg h4]), Bel⟩
  · have HI : Hid (isE xs = allR xs) := by show isE xs = _; unfold isE; rw [if_pos (fun h => h0 ((allR_zero xs).2 h))]; rfl
    have hn : (allR xs != 0) = true := by simp [h0]
    clear h0
    go_enter Tryd.func53, Tryd.ntmps53
    go_wp2_with (go_at_call 80; refine (r7all_c A c xs _ hs hm).mono ?_; rintro e w1 ⟨rfl, hb1⟩)
    go_ret
    exact ⟨by rw [HI.out]; rfl, Bel⟩
theorem small_two {a b : T3} (ha : a.f.size ≤ 1048576 ∧ a.t.size ≤ 1048576) (hb : b.f.size ≤ 1048576 ∧ b.t.size ≤ 1048576) : Small [a, b] := ⟨by simp, fun x hx => by
  simp only [List.mem_cons, List.not_mem_nil, or_false] at hx
  rcases hx with rfl | rfl
  · exact ha
  · exact hb⟩
/-- A block that holds a three-celled value. -/
structure B3 (w : World) (b : Nat) (x : T3) : Prop where
  lt : b < w.heap.size
  c0 : w.cell? ⟨b, 0, none⟩ = some (.string x.f)
  c1 : w.cell? ⟨b, 1, none⟩ = some (.string x.t)
  c2 : w.cell? ⟨b, 2, none⟩ = some (.int .i64 x.n)
theorem B3.below {w w' : World} {b : Nat} {x : T3} (h : B3 w b x) (hb : Below w.heap.size w w') : B3 w' b x :=
  ⟨Nat.lt_of_lt_of_le h.lt hb.size, (hb.cell (p := ⟨b, 0, none⟩) h.lt).trans h.c0, (hb.cell (p := ⟨b, 1, none⟩) h.lt).trans h.c1, (hb.cell (p := ⟨b, 2, none⟩) h.lt).trans h.c2⟩
theorem B3.new (w : World) (x : T3) (t : TypeId) : B3 (w.alloc (.cells #[.string x.f, .string x.t, .int .i64 x.n] t)) w.heap.size x :=
  ⟨by simp, by simp [go_sem], by simp [go_sem], by simp [go_sem]⟩
theorem B3.alloc {w : World} {b : Nat} {x : T3} (h : B3 w b x) (o : Obj) : B3 (w.alloc o) b x := h.below (Bal (Below.refl _ _) _)
end Go.Proofs.YtmpoihejacklnaaDoor
/- Cells laid anew in rows that the call owns. No condition. -/
namespace Go.Proofs.YtmpoihejacklnaaDoor
open Go Go.RowKit
theorem flat_cell {α : Type} (E : Enc α) (i : Nat) (u : Value) (hi : i < E.k) : ∀ (xs : List α) (j : Nat) (y : α) (hj : j < xs.length), E.e y = (E.e xs[j]).set i u → (xs.flatMap E.e).set (j * E.k + i) u = (xs.set j y).flatMap E.e
  | x :: xs, 0, y, _, hy => by
    simp only [List.flatMap_cons, List.set_cons_zero, Nat.zero_mul, Nat.zero_add]
    rw [List.set_append_left _ _ (by rw [E.len]; exact hi), hy]; rfl
  | x :: xs, j + 1, y, hj, hy => by
    have ih := flat_cell E i u hi xs j y (by simpa using hj) hy
    simp only [List.flatMap_cons, List.set_cons_succ]
    rw [← ih, List.set_append_right _ _ (by rw [E.len, Nat.add_mul]; omega), E.len]
    congr 2
    rw [Nat.add_mul]; omega
theorem Own.cellset {α : Type} {E : Enc α} {base : Nat} {e : TypeId} {w : World} {g cap : Nat} {xs : List α} (h : Own E base e w (.slice (some ⟨g, 0, none⟩) xs.length cap) xs) (j : Nat) (hj : j < xs.length) (i : Nat) (hi : i < E.k) (u : Value) (y : α) (hy : E.e y = (E.e xs[j]).set i u) :
    Own E base e (w.setCell ⟨g, j * E.k + i, none⟩ u) (.slice (some ⟨g, 0, none⟩) xs.length cap) (xs.set j y) ∧ w.grownBy (w.setCell ⟨g, j * E.k + i, none⟩ u) (some g) := by
  have h1 := World.ownsRow.stored h (j * E.k + i) u
  refine ⟨?_, h1.2⟩
  unfold Own
  rw [List.length_set, ← flat_cell E i u hi xs j y hj hy]
  exact h1.1
/-- An element's cells, in a row that the call owns. -/
theorem Own.at {α : Type} {E : Enc α} {base : Nat} {e : TypeId} {w : World} {g cap n : Nat} {xs : List α} (h : Own E base e w (.slice (some ⟨g, 0, none⟩) n cap) xs) (j : Nat) (hj : j < xs.length) (i : Nat) (u : Value) (hu : (E.e xs[j])[i]? = some u) : w.cell? ⟨g, j * E.k + i, none⟩ = some u := by
  have h1 := World.ownsRow.cells h (g := g) rfl (j * E.k + i) u (flat_get E xs j _ i u (List.getElem?_eq_getElem hj) hu)
  have ha : (⟨g, 0, none⟩ : Addr).add (j * E.k + i) = ⟨g, j * E.k + i, none⟩ := by unfold Addr.add; split <;> simp_all
  rwa [ha] at h1
theorem Own.form {α : Type} {E : Enc α} {base : Nat} {e : TypeId} {w : World} {v : Value} {xs : List α} (h : Own E base e w v xs) (hn : 0 < xs.length) : ∃ g cap, v = .slice (some ⟨g, 0, none⟩) xs.length cap ∧ base ≤ g ∧ g < w.heap.size ∧ xs.length ≤ cap ∧ cap ≤ maxLen ∧ ∃ cur, w.heap[g]? = some (.cells cur e (0, 0)) := by
  rcases h.2 with ⟨_, h0⟩ | ⟨g, cap, cur, hv, hb, hg, h1, h2, _⟩
  · omega
  · exact ⟨g, cap, hv, hb, (Array.getElem?_eq_some_iff.1 hg).1, h1, h2, cur, hg⟩
/-- An owned row's elements, one by one, laid over by other ones. -/
theorem Own.put {α : Type} {E : Enc α} {base : Nat} {e : TypeId} {w : World} {v : Value} {xs : List α} (h : Own E base e w v xs) : v.ownBlock = none ∨ ∃ g, v.ownBlock = some g ∧ g < w.heap.size := by
  rcases h.2 with ⟨rfl, _⟩ | ⟨g, cap, cur, rfl, hb, hg, h1, h2, _⟩
  · exact .inl rfl
  · exact .inr ⟨g, rfl, (Array.getElem?_eq_some_iff.1 hg).1⟩
end Go.Proofs.YtmpoihejacklnaaDoor
/- slices.BinarySearchFunc over a table of blocks, and count.Find. No condition. -/
namespace Go.Proofs.YtmpoihejacklnaaDoor
open Go Go.RowKit
/-- What a search hands back. -/
def BsPost (w : World) (ys : List T3) (x : T3) (e : Ending) (w' : World) : Prop :=
  ∃ (i : Nat) (ok : Bool), e = .returned (.tuple #[.int .i64 i, .bool ok]) ∧ Below w.heap.size w w' ∧ (ok = true → ∃ h : i < ys.length, SameS ys[i] x) ∧ (ok = false → ∀ y ∈ ys, ¬ SameS y x)
theorem cmpB_zero {a b : T3} : cmpB a b = 0 ↔ SameS a b := by
  unfold cmpB
  constructor
  · intro h
    cases h1 : ltT a b
    · rw [h1] at h
      cases h2 : ltT b a
      · exact ltT_tri h1 h2
      · rw [h2] at h; simp at h
    · rw [h1] at h; simp at h
  · rintro ⟨h1, h2⟩
    rw [ltT_same h1 h2 rfl rfl, ltT_irrefl, ltT_same (b := a) rfl rfl h1 h2, ltT_irrefl]; simp
theorem cmpB_neg {a b : T3} : cmpB a b < 0 ↔ ltT a b = true := by
  unfold cmpB
  cases h1 : ltT a b
  · cases h2 : ltT b a <;> simp
  · simp
theorem cmpB_dec (a b : T3) : decide (cmpB a b < 0) = ltT a b := by
  cases h : ltT a b
  · simp only [decide_eq_false_iff_not]; exact fun h2 => by rw [cmpB_neg.1 h2] at h; cases h
  · simp only [decide_eq_true_eq]; exact cmpB_neg.2 h
theorem tot_at {ys : List T3} (hA : ApS ys) {i : Nat} (h : i < ys.length) {f t : ByteArray} (e1 : ys[i].f = f) (e2 : ys[i].t = t) : tot ys f t = ys[i].n := by
  rw [← e1, ← e2]; exact tot_mem hA (List.getElem_mem h)
theorem tot_not {ys : List T3} {f t : ByteArray} (h : ∀ y ∈ ys, ¬ (y.f = f ∧ y.t = t)) : tot ys f t = 0 := tot_none fun hk => by
  obtain ⟨y, hy, e⟩ := List.mem_map.1 hk
  injection e with e1 e2
  exact h y hy ⟨e1, e2⟩
/-- What 'Find' hands back. -/
noncomputable def findV (l : List T3) (f t : ByteArray) : Value := .tuple #[.int .i64 (if tchk l = 0 then tot l f t else 0), .int .i64 (tchk l)]
end Go.Proofs.YtmpoihejacklnaaDoor
/- slices.BinarySearchFunc over rules, and rule.Find. No condition. -/
namespace Go.Proofs.YtmpoihejacklnaaDoor
open Go Go.RowKit
theorem cmpT_dec (a b : T3) : decide (cmpT a b < 0) = ltT a b := rfl
theorem cmpS_zero {a b : ByteArray} : cmpS a b = 0 ↔ a = b := by
  unfold cmpS
  constructor
  · intro h
    split at h
    · cases h
    · split at h
      · rename_i h2; exact ba_ext (by simpa using h2)
      · cases h
  · rintro rfl
    rw [if_neg (by have := lts_irrefl a; unfold lts at this; simp [this]), if_pos (by simp)]
theorem cmpT_zero {a b : T3} : cmpT a b = 0 ↔ SameS a b := by
  unfold cmpT SameS
  rw [← cmpS_zero, ← cmpS_zero]
  by_cases h : cmpS a.f b.f = 0 <;> by_cases h2 : cmpS a.t b.t = 0 <;> simp [orL, h, h2]
set_option maxHeartbeats 1000000 in
set_option maxRecDepth 100000 in
theorem rbs_c (A : Option Addr) (c : Nat) (ys : List T3) (x : T3) (w : World) (hs : SlA eT3 w A ys) (hl : ys.length ≤ 4294967296) (hr : ys.Pairwise fun a b => ltT a b = true) :
    Calls Tryd.prog 38 #[.slice A ys.length c, .agg #[.string x.f, .string x.t, .int .i64 x.n], .func (.func 39) #[] #[]] w (BsPost w ys x) := by
  have HR := Lib.hid hr
  clear hr
  go_enter Tryd.func38, Tryd.ntmps38
  go_wp2
  go_loopw [9, 10] (fun lo hi wr => ∃ i j : Nat, lo = .int .i64 i ∧ hi = .int .i64 j ∧ i ≤ j ∧ j ≤ ys.length ∧ Hid (∀ q (h : q < ys.length), q < i → ltT ys[q] x = true) ∧ Hid (∀ q (h : q < ys.length), j ≤ q → ltT ys[q] x = false) ∧ Below (w.alloc (.cells #[.string x.f, .string x.t, .int .i64 x.n] 49)).heap.size (w.alloc (.cells #[.string x.f, .string x.t, .int .i64 x.n] 49)) wr) (fun lo hi _ => (intOf hi).toNat - (intOf lo).toNat)
  case atStart => exact ⟨0, ys.length, rfl, rfl, by omega, by omega, fun q _ h => by omega, fun q h1 h2 => by omega, Bel⟩
  case round =>
    obtain ⟨i, j, rfl, rfl, hij, hj, HL, HH, hb⟩ := hrel
    by_cases hlt : i < j
    · obtain ⟨m, hm, hm1, hm2⟩ : ∃ m : Nat, ((i : Int) + j) / 2 = m ∧ i ≤ m ∧ m < j := ⟨(i + j) / 2, by push_cast; rfl, by omega, by omega⟩
      have hml : m < ys.length := by omega
      have hml1 : (m : Int) < ys.length := by omega
      have hml0 : (0 : Int) ≤ m := by omega
      have hb' : Below w.heap.size w wr := Bst (Bal (Below.refl _ _) _) hb
      obtain ⟨b, o, rfl, hbs, c1, c2, c3⟩ := hs.n3 (fun _ => rfl) hb' m hml
      have hc := hb.cell (p := ⟨w.heap.size, 0, none⟩) (by simp)
      have hc1 := hb.cell (p := ⟨w.heap.size, 1, none⟩) (by simp)
      have hc2 := hb.cell (p := ⟨w.heap.size, 2, none⟩) (by simp)
      have d1 : wr.cell? ⟨w.heap.size, 0, none⟩ = some (.string x.f) := hc.trans (by simp [go_sem])
      have d2 : wr.cell? ⟨w.heap.size, 1, none⟩ = some (.string x.t) := hc1.trans (by simp [go_sem])
      have d3 : wr.cell? ⟨w.heap.size, 2, none⟩ = some (.int .i64 x.n) := hc2.trans (by simp [go_sem])
      have hws : w.heap.size < wr.heap.size := by have := hb.size; simp at this; omega
      clear hc hc1 hc2
      cases hq : ltT ys[m] x
      all_goals
        obtain ⟨z, hz⟩ : ∃ z, cmpT ys[m] x = z := ⟨_, rfl⟩
        have hzn := cmpT_dec ys[m] x
        rw [hz] at hzn
        replace hz := Lib.hid hz
        rw [hq] at hzn
        have HQ := Lib.hid hq
        clear hq
        go_wp2_with fail
        try simp only [hm]
        refine region_seq [(0, true), (1, true), (2, true), (3, true), (4, true), (5, true), (6, false), (7, true)] (by kernel_rfl) (by kernel_rfl) (fun c a d v w h => by cases d <;> exact h) ?_
        intro W hW
        obtain ⟨hcW, hzW⟩ := bcell hW
        repeat (first
          | (refine seq_q rfl (fun K hK => ?_); unfold takeQ; go_simp; refine hK _ ?_; clear hK K)
          | (refine seq_t rfl (fun K hK => ?_); go_simp; go_at_call 39; refine (rcomp_c ys[m] x _).mono ?_; rintro e w3 ⟨rfl, hb3⟩; rw [hz.out]; go_simp; refine hK _ _ (.of Bel) ?_; clear hK K))
        refine seq_nil ?_
        go_wp2
      · refine ⟨⟨i, m, rfl, rfl, hm1, by omega, HL, fun q h hmq => ?_, Bst (Bst hb hW) hb3⟩, by simp [intOf]; omega⟩
        cases e : ltT ys[q] x
        · rfl
        · rcases Nat.lt_or_ge m q with h1 | h1
          · have := ltT_trans (List.pairwise_iff_getElem.1 HR.out m q hml h h1) e
            rw [HQ.out] at this; cases this
          · obtain rfl : m = q := by omega
            rw [HQ.out] at e; cases e
      · refine ⟨⟨m + 1, j, by go_num, rfl, by omega, hj, fun q h hmq => ?_, HH, Bst (Bst hb hW) hb3⟩, by simp [intOf]; omega⟩
        rcases Nat.lt_or_ge q m with h1 | h1
        · exact ltT_trans (List.pairwise_iff_getElem.1 HR.out q m h hml h1) HQ.out
        · obtain rfl : m = q := by omega
          exact HQ.out
    · obtain rfl : i = j := by omega
      have hb' : Below w.heap.size w wr := Bst (Bal (Below.refl _ _) _) hb
      by_cases hin : i < ys.length
      · have hin1 : (i : Int) < ys.length := by omega
        obtain ⟨b, o, rfl, hbs, c1, c2, c3⟩ := hs.n3 (fun _ => rfl) hb' i hin
        have hc := hb.cell (p := ⟨w.heap.size, 0, none⟩) (by simp)
        have hc1 := hb.cell (p := ⟨w.heap.size, 1, none⟩) (by simp)
        have hc2 := hb.cell (p := ⟨w.heap.size, 2, none⟩) (by simp)
        have d1 : wr.cell? ⟨w.heap.size, 0, none⟩ = some (.string x.f) := hc.trans (by simp [go_sem])
        have d2 : wr.cell? ⟨w.heap.size, 1, none⟩ = some (.string x.t) := hc1.trans (by simp [go_sem])
        have d3 : wr.cell? ⟨w.heap.size, 2, none⟩ = some (.int .i64 x.n) := hc2.trans (by simp [go_sem])
        have hws : w.heap.size < wr.heap.size := by have := hb.size; simp at this; omega
        clear hc hc1 hc2
        obtain ⟨z, hz⟩ : ∃ z, cmpT ys[i] x = z := ⟨_, rfl⟩
        have hz0 := cmpT_zero (a := ys[i]) (b := x)
        rw [hz] at hz0
        replace hz := Lib.hid hz
        obtain ⟨bz, hbz⟩ : ∃ bz, (z == 0) = bz := ⟨_, rfl⟩
        have hfin : Hid ((bz = true → ∃ h : i < ys.length, SameS ys[i] x) ∧ (bz = false → ∀ y ∈ ys, ¬ SameS y x)) := by
          refine ⟨fun h => ⟨hin, hz0.1 (by subst hbz; simpa using h)⟩, fun h y hy hsm => ?_⟩
          obtain ⟨q, hq, rfl⟩ := List.getElem_of_mem hy
          have hzz : z ≠ 0 := by subst hbz; simpa using h
          rcases Nat.lt_trichotomy q i with h1 | rfl | h1
          · have := HL.out q hq h1
            rw [ltT_same hsm.1 hsm.2 rfl rfl, ltT_irrefl] at this; cases this
          · exact hzz (hz0.2 hsm)
          · have h2 := List.pairwise_iff_getElem.1 HR.out i q hin hq h1
            rw [ltT_same rfl rfl hsm.1 hsm.2, HH.out i hin (Nat.le_refl _)] at h2; cases h2
        clear hz0
        go_wp2_with fail
        refine region_seq [(0, true), (1, true), (2, true), (3, true), (4, true), (5, true), (6, true), (7, true), (8, true), (9, true), (10, true), (11, false), (12, true), (13, true), (14, true), (15, true)] (by kernel_rfl) (by kernel_rfl) (fun c a d v w h => by cases d <;> exact h) ?_
        intro W hW
        obtain ⟨hcW, hzW⟩ := bcell hW
        repeat (first
          | (refine seq_q rfl (fun K hK => ?_); unfold takeQ; go_simp; refine hK _ ?_; clear hK K)
          | (refine seq_t rfl (fun K hK => ?_); go_simp; go_at_call 39; refine (rcomp_c ys[i] x _).mono ?_; rintro e w3 ⟨rfl, hb3⟩; rw [hz.out]; go_simp; refine hK _ _ (.of Bel) ?_; clear hK K))
        refine seq_nil ?_
        go_wp2
        go_ret2
        exact ⟨i, bz, rfl, Bst hb' (Bst hW hb3), hfin.out.1, hfin.out.2⟩
      · have hfin : Hid (∀ y ∈ ys, ¬ SameS y x) := fun y hy hsm => by
          obtain ⟨q, hq, rfl⟩ := List.getElem_of_mem hy
          have := HL.out q hq (by omega)
          rw [ltT_same hsm.1 hsm.2 rfl rfl, ltT_irrefl] at this; cases this
        have hin1 : ¬ ((i : Int) < ys.length) := by omega
        go_wp2_with fail
        refine region_seq [(0, true), (1, true), (2, true), (3, true), (4, true), (5, true), (6, true), (7, true), (8, true), (9, true), (10, true), (11, false), (12, true), (13, true), (14, true), (15, true)] (by kernel_rfl) (by kernel_rfl) (fun c a d v w h => by cases d <;> exact h) ?_
        intro W hW
        repeat (first
          | (refine seq_q rfl (fun K hK => ?_); unfold takeQ; go_simp; refine hK _ ?_; clear hK K)
          | (refine seq_t rfl (fun K hK => ?_); go_simp; refine hK _ _ (.of Bel) ?_; clear hK K))
        refine seq_nil ?_
        go_wp2
        go_ret2
        exact ⟨i, false, rfl, Bst hb' hW, fun h => (by cases h), fun _ => hfin.out⟩
/-- What 'Find' hands back: the cost of the rule that is there, or 10. -/
def costOf (l : List T3) (f t : ByteArray) : Option Int := (l.find? fun x => decide (x.f = f ∧ x.t = t)).map (·.n)
def rfindV (l : List T3) (f t : ByteArray) : Value :=
  if isE l ≠ 0 then .tuple #[.int .i64 0, .int .i64 (isE l)] else match costOf l f t with
    | none => .tuple #[.int .i64 0, .int .i64 10]
    | some n => .tuple #[.int .i64 n, .int .i64 0]
theorem isE_rise {l : List T3} (h : isE l = 0) : riseT l = true := by
  unfold isE at h
  by_cases h1 : errR l ≠ []
  · rw [if_pos h1] at h
    cases hq : errR l with
    | nil => exact absurd hq h1
    | cons x m =>
      rw [hq] at h
      have hx : x ∈ errR l := by rw [hq]; simp
      unfold errR at hx
      have h2 := (List.mem_filter.1 hx).2
      simp only [decide_eq_true_eq] at h2
      exact absurd h h2
  · rw [if_neg h1] at h
    cases h2 : riseT l
    · rw [if_pos h2] at h; cases h
    · rfl
theorem cost_at {ys : List T3} (hA : ApS ys) {i : Nat} (h : i < ys.length) {f t : ByteArray} (e : ys[i].f = f ∧ ys[i].t = t) : costOf ys f t = some ys[i].n := by
  unfold costOf
  have hi := List.getElem_mem h
  cases hq : ys.find? fun x => decide (x.f = f ∧ x.t = t) with
  | none => 
    have := List.find?_eq_none.1 hq _ hi
    simp [e] at this
  | some y =>
    have hy := List.mem_of_find?_eq_some hq
    have hp := List.find?_some hq
    simp only [decide_eq_true_eq] at hp
    have h1 := tot_mem hA hy
    have h2 := tot_mem hA hi
    rw [e.1, e.2] at h2
    rw [hp.1, hp.2] at h1
    simp [← h1, ← h2]
theorem cost_not {ys : List T3} {f t : ByteArray} (h : ∀ y ∈ ys, ¬ (y.f = f ∧ y.t = t)) : costOf ys f t = none := by
  unfold costOf
  rw [List.find?_eq_none.2 (fun y hy => by simpa using h y hy)]; rfl
set_option maxHeartbeats 1000000 in
set_option maxRecDepth 100000 in
theorem rfind_c (A : Option Addr) (c : Nat) (xs : List T3) (f t : ByteArray) (w : World) (hU : U w) (hs : SlA eT3 w A xs) (hm : Small xs) :
    Calls Tryd.prog 23 #[.slice A xs.length c, .string f, .string t] w (Ret w (rfindV xs f t)) := by
  have hl := hm.1
  by_cases h0 : isE xs = 0
  · have hr := of_rise (isE_rise h0)
    have hA := rise_aps hr
    have HE := Lib.hid h0
    have HR := Lib.hid hr; have HA := Lib.hid hA
    clear hr hA h0
    go_enter Tryd.func23, Tryd.ntmps23
    go_wp2_with fail
    refine (is_c A c xs _ hU hs hm).mono ?_
    rintro e w1 ⟨rfl, hb1⟩
    rw [HE.out]
    go_wp2_with fail
    refine (rbs_c A c xs ⟨f, t, 0⟩ _ (hs.below Bel) (by omega) HR.out).mono ?_
    rintro e w2 ⟨i, ok, rfl, hb2, hy, hn⟩
    cases ok with
    | false =>
      have HT : Hid (rfindV xs f t = .tuple #[.int .i64 0, .int .i64 10]) := by
        show rfindV xs f t = _
        unfold rfindV; rw [if_neg (by simp [HE.out]), cost_not (hn rfl)]
      clear hy hn
      go_wp2
      go_ret2
      exact ⟨by rw [HT.out]; rfl, Bel⟩
    | true =>
      obtain ⟨hi, hsm⟩ := hy rfl
      have HT : Hid (rfindV xs f t = .tuple #[.int .i64 xs[i].n, .int .i64 0]) := by
        show rfindV xs f t = _
        unfold rfindV; rw [if_neg (by simp [HE.out]), cost_at HA.out hi hsm]
      clear hy hn hsm
      have hb2' : Below w.heap.size w w2 := Bel
      obtain ⟨b, o, rfl, hbs, c1, c2, c3⟩ := hs.n3 (fun _ => rfl) hb2' i hi
      have hi1 : (i : Int) < xs.length := by omega
      have hi0 : (0 : Int) ≤ i := by omega
      go_wp2
      go_ret2
      exact ⟨by rw [HT.out]; rfl, Bel⟩
  · have hn : (isE xs != 0) = true := by simp [h0]
    have HT : Hid (rfindV xs f t = .tuple #[.int .i64 0, .int .i64 (isE xs)]) := by
      show rfindV xs f t = _
      unfold rfindV; rw [if_pos h0]
    clear h0
    go_enter Tryd.func23, Tryd.ntmps23
    go_wp2_with (go_at_call 25; refine (is_c A c xs _ hU hs hm).mono ?_; rintro e w1 ⟨rfl, hb1⟩)
    go_ret2
    exact ⟨by rw [HT.out]; rfl, Bel⟩
end Go.Proofs.YtmpoihejacklnaaDoor
