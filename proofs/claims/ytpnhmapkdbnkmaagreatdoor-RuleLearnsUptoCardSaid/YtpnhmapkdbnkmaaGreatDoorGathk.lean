/- The reference's gathered: a table, block by block. No condition. -/
import Derived.Test.YtpnhmapkdbnkmaaGreatDoorTree
import Derived.Test.YtpnhmapkdbnkmaaGreatDoorFnd6k
import Derived.Test.YtpnhmapkdbnkmaaGreatDoorK808
import Derived.Test.YtpnhmapkdbnkmaaGreatDoorK805
import Derived.Test.YtpnhmapkdbnkmaaGreatDoorK807
namespace Go.Proofs.YtpnhmapkdbnkmaaGreatDoor
open Go Go.RowKit
theorem tab_set {l ys : List T3} (h : Tab l ys) (j : Nat) (hj : j < ys.length) (x : T3) (hs : SameS ys[j] x) : Tab (l ++ [x]) (ys.set j ⟨ys[j].f, ys[j].t, ys[j].n + x.n⟩) := by
  have hA := rise_aps h.rise
  have e := addL_some ys x j hj hA hs
  refine ⟨?_, fun k => ?_, fun f t => ?_⟩
  · rw [List.pairwise_iff_getElem]
    intro p q hp hq hpq
    have hp' : p < ys.length := by simpa using hp
    have hq' : q < ys.length := by simpa using hq
    have h1 := List.pairwise_iff_getElem.1 h.rise p q hp' hq' hpq
    rw [← h1]
    rw [List.getElem_set, List.getElem_set]
    split <;> split <;> rename_i q1 q2 <;> try subst q1 <;> try subst q2
    all_goals first | rfl | exact ltT_same rfl rfl rfl rfl | (subst q1; exact ltT_same rfl rfl rfl rfl) | (subst q2; exact ltT_same rfl rfl rfl rfl)
  · rw [keys_set, h.keys]
    have hx : (x.f, x.t) ∈ keysT l := by
      rw [← h.keys]
      have := mem_keys (List.getElem_mem hj)
      rwa [hs.1, hs.2] at this
    constructor
    · intro hk; simp [keysT] at hk ⊢; exact .inl hk
    · intro hk
      simp only [keysT, List.map_append, List.mem_append, List.map_cons, List.map_nil, List.mem_singleton] at hk
      rcases hk with hk | rfl
      · exact hk
      · exact hx
  · rw [← e, tot_addL, h.tot, tot_append, tot_cons, tot_nil]; omega
theorem tab_ins {l ys : List T3} (h : Tab l ys) (j : Nat) (hj : j ≤ ys.length) (x : T3) (hlo : ∀ i (hi : i < ys.length), i < j → ltT ys[i] x = true) (hhi : ∀ hi : j < ys.length, ltT ys[j] x = false ∧ ¬ SameS ys[j] x) : Tab (l ++ [x]) (ys.take j ++ [x] ++ ys.drop j) := by
  have hup : ∀ y ∈ ys.drop j, ltT x y = true := fun y hy => by
    obtain ⟨i, hi, rfl⟩ := List.getElem_of_mem hy
    rw [List.length_drop] at hi
    obtain ⟨h1, h2⟩ := hhi (by omega)
    have h3 : ltT x ys[j] = true := by
      cases h4 : ltT x ys[j]
      · exact absurd (ltT_tri h1 h4) h2
      · rfl
    rw [List.getElem_drop]
    rcases Nat.eq_zero_or_pos i with rfl | hp
    · exact h3
    · exact ltT_trans h3 (List.pairwise_iff_getElem.1 h.rise j (j + i) (by omega) (by omega) (by omega))
  have hdn : ∀ y ∈ ys.take j, ltT y x = true := fun y hy => by
    obtain ⟨i, hi, rfl⟩ := List.getElem_of_mem hy
    rw [List.length_take] at hi
    rw [List.getElem_take]
    exact hlo i (by omega) (by omega)
  refine ⟨?_, fun k => ?_, fun f t => ?_⟩
  · rw [List.append_assoc]
    refine List.pairwise_append.2 ⟨h.rise.sublist (List.take_sublist _ _), List.pairwise_append.2 ⟨List.pairwise_singleton _ _, h.rise.sublist (List.drop_sublist _ _), fun a ha b hb => ?_⟩, fun a ha b hb => ?_⟩
    · obtain rfl := List.mem_singleton.1 ha; exact hup b hb
    · rcases List.mem_append.1 hb with hb | hb
      · obtain rfl := List.mem_singleton.1 hb; exact hdn a ha
      · exact ltT_trans (hdn a ha) (hup b hb)
  · have hk : k ∈ keysT ys ↔ k ∈ keysT (ys.take j) ∨ k ∈ keysT (ys.drop j) := by
      have e : keysT ys = keysT (ys.take j) ++ keysT (ys.drop j) := by unfold keysT; rw [← List.map_append, List.take_append_drop]
      rw [e, List.mem_append]
    have h2 := h.keys k
    have e1 : ∀ a b : List T3, k ∈ keysT (a ++ b) ↔ k ∈ keysT a ∨ k ∈ keysT b := fun a b => by simp [keysT]
    rw [e1, e1, e1, ← h2, hk]
    constructor
    · rintro ((a | a) | a)
      · exact .inl (.inl a)
      · exact .inr a
      · exact .inl (.inr a)
    · rintro ((a | a) | a)
      · exact .inl (.inl a)
      · exact .inr a
      · exact .inl (.inr a)
  · have ht : tot ys f t = tot (ys.take j) f t + tot (ys.drop j) f t := by
      conv => lhs; rw [← List.take_append_drop j ys]
      rw [tot_append]
    rw [tot_append, tot_append, tot_append, ← h.tot, ht]; omega
theorem wanted_no {o : Oper} (h : o.guard = none) (f : Nat → Option Bool) : Region.wanted o f = true := by unfold Region.wanted; rw [h]
/-- A table's counts are those of the list. -/
theorem tab_n {l ys : List T3} (h : Tab l ys) (hp : ∀ b ∈ l, 0 ≤ b.n) {j : Nat} (hj : j < ys.length) : 0 ≤ ys[j].n ∧ ys[j].n ≤ sumT l := by
  have h1 := tot_mem (rise_aps h.rise) (List.getElem_mem hj)
  rw [h.tot] at h1
  rw [← h1]
  exact ⟨tot_nonneg l hp _ _, tot_le l hp _ _⟩
theorem Own.litN {α : Type} (E : Enc α) (base : Nat) (e : TypeId) (w : World) (n : Nat) (hn : n = w.heap.size) (hb : base ≤ w.heap.size) : Own E base e (w.alloc (.cells #[] e)) (.slice (some ⟨n, 0, none⟩) 0 0) [] := by
  subst hn; exact Own.lit E base e w hb
theorem SlA.kept {α : Type} {E : Enc α} {w w' : World} {A : Option Addr} {xs : List α} {b o : Nat} {row : Option Nat} (h : SlA E w A xs) (hA : A = some ⟨b, o, none⟩) (hg : w.grownBy w' row) (hne : some b ≠ row) : SlA E w' A xs := fun j x hx => by
  obtain ⟨b', o', hA', hlt, hc⟩ := h j x hx
  rw [hA] at hA'
  injection hA' with h1
  injection h1 with h2 h3
  subst h2 h3
  exact ⟨b, o, hA, Nat.lt_of_lt_of_le hlt hg.size, fun i u hu => hg.cell (hc i u hu) hne⟩
set_option maxHeartbeats 3000000 in
set_option maxRecDepth 100000 in
theorem r6gath_c (A : Option Addr) (c : Nat) (xs : List T3) (w : World) (hs : SlA eT3 w A xs) (hm : Small xs) (hn : ∀ b ∈ xs, 0 ≤ b.n ∧ b.n ≤ 1073741824) :
    Calls Tryz.prog 108 #[.slice A xs.length c] w fun e w' => ∃ v ys, e = .returned v ∧ SlV eT3 w' v ys ∧ Below w.heap.size w w' ∧ Tab xs ys ∧ ys.length ≤ xs.length := by
  have hl := hm.1
  have hp : ∀ b ∈ xs, 0 ≤ b.n := fun b hb => (hn b hb).1
  have hM := sum_le xs 1073741824 fun b hb => (hn b hb).2
  have hM2 : sumT xs ≤ 1125899906842624 := by omega
  have HN := Lib.hid hn; have HP := Lib.hid hp
  clear hn hp hM
  go_enter Tryz.func108, Tryz.ntmps108
  go_wp2
  go_loopw [3, 9] (fun v s wr => ∃ (k : Nat) (ys : List T3), k ≤ xs.length ∧ s = .int .i64 k ∧ Own eT3 w.heap.size 71 wr v ys ∧ Hid (Tab (xs.take k) ys) ∧ ys.length ≤ k ∧ Below w.heap.size w wr) (fun _ s _ => xs.length - (intOf s).toNat)
  case atStart => exact ⟨0, [], by omega, rfl, Own.nil _, ⟨List.Pairwise.nil, fun k => by simp [keysT], fun f t => by simp [tot_nil]⟩, by simp, Bel⟩
  case round =>
    obtain ⟨k, ys, hk, rfl, HO, HT, hyl, hb⟩ := hrel
    obtain ⟨wp, rfl⟩ : ∃ wp, wp = wr := ⟨_, rfl⟩
    by_cases hlt : k < xs.length
    · obtain ⟨b, o, rfl, hbs, p1, p2, p3⟩ := hs.n3 (fun _ => rfl) hb k hlt
      obtain ⟨x, hx⟩ : ∃ x, xs[k] = x := ⟨_, rfl⟩
      have hnx := HN.out _ (List.getElem_mem hlt)
      rw [hx] at p1 p2 p3 hnx
      have HTK : Hid (xs.take (k + 1) = xs.take k ++ [x]) := by show _ = _; rw [List.take_succ_eq_append_getElem hlt, hx]
      have hx := Lib.hid hx
      have hB := B3.new wp x 71
      have HO1 : Own eT3 w.heap.size 71 (wp.alloc (.cells #[.string x.f, .string x.t, .int .i64 x.n] 71)) _ ys := HO.alloc _
      have hb1 : Below w.heap.size w (wp.alloc (.cells #[.string x.f, .string x.t, .int .i64 x.n] 71)) := Bel
      have hwp : wp.heap.size < (wp.alloc (.cells #[.string x.f, .string x.t, .int .i64 x.n] 71)).heap.size := by simp
      rcases HO.2 with ⟨rfl, h0⟩ | ⟨g, cap, cur, rfl, hgb, hgg, hg1, hg2, _⟩
      · obtain rfl : ys = [] := List.eq_nil_of_length_eq_zero h0
        go_wp2
        generalize wp.alloc (.cells #[.string x.f, .string x.t, .int .i64 x.n] 71) = w1 at *
        go_loopw [6] (fun s wr => s = .int .i64 0 ∧ Below w1.heap.size w1 wr) (fun _ _ => 0)
        case atStart => exact ⟨rfl, Below.refl _ _⟩
        case round =>
          obtain ⟨rfl, hbq⟩ := hrel
          go_wp2_with fail
          refine region_seqP [(0, true), (1, true), (2, true), (3, true), (4, true), (5, true), (6, true), (7, true), (8, true), (9, true), (10, false), (11, true)] (by kernel_rfl) (by kernel_rfl) ?_
          intro W hW
          repeat (first
            | (refine seq_q rfl (fun K hK => ?_); unfold takeQ; go_simp; refine hK _ ?_; clear hK K)
            | (refine seq_t rfl (fun K hK => ?_); go_simp; refine hK _ _ (.of Bel) ?_; clear hK K))
          refine seq_nil ?_
          rw [noP_normal]
          have hbW : Below w1.heap.size w1 W := Bst hbq hW
          go_wp2_with fail
          refine region_seqP [(0, true), (1, true), (2, true), (3, true), (4, true), (5, true), (6, true), (7, true), (8, true), (9, true), (10, true), (11, true), (12, true), (13, true), (14, true), (15, true), (16, true), (17, true), (18, true), (19, true), (20, true), (21, true), (22, true), (23, true)] (by kernel_rfl) (by kernel_rfl) ?_
          intro W8 hW8
          repeat (refine seq_q rfl (fun K hK => ?_); unfold takeQ; go_simp; refine hK _ ?_; clear hK K)
          refine seq_nil ?_
          rw [noP_normal]
          go_wp2_with fail
          have hb3 : Below w1.heap.size w1 W8 := Bst hbW hW8
          obtain ⟨hBl, q0, q1, q2⟩ := hB.below hb3
          have hb3' : Below w.heap.size w W8 := Bst hb1 hb3
          have HTN : Hid (Tab (xs.take (k + 1)) ([] ++ [x])) := by show Tab _ _; rw [HTK.out]; simpa using tab_ins HT.out 0 (by simp) x (fun i hi => by simp at hi) (fun hi => by simp at hi)
          have hlen : ([] ++ [x] : List T3).length ≤ k + 1 := by simp
          have hxl : x.f.size + x.t.size ≥ 0 := Nat.zero_le _
          refine region_tree (.q 1 (.q 2 (.q 3 (.q 5 (.q 8 (.q 9 (.q 10 (.two 0 (.two 4 (.t 6 (.t 7 (.t 11 (.q 12 .nil)))) 6 (.t 4 (.t 7 (.t 11 (.q 12 .nil))))) 6 (.t 0 (.t 4 (.t 7 (.t 11 (.q 12 .nil))))))))))))) (by kernel_rfl) (by kernel_rfl) ?_
          intro W10 hW10
          have hb10 : Below w.heap.size w W10 := Bst hb3' hW10
          obtain ⟨hBl', q0', q1', q2'⟩ := (B3.below ⟨hBl, q0, q1, q2⟩ hW10 : B3 W10 wp.heap.size x)
          clear hBl q0 q1 q2
          repeat (refine tr_q rfl (fun K hK => ?_); unfold takeQ; go_simp; refine hK _ ?_; clear hK K)
          refine tr_two rfl rfl (fun K hK => ?_) (fun K hK => ?_)
          · go_simp; refine hK _ _ (.of Bel) ?_; clear hK K
            refine tr_two rfl rfl (fun K hK => ?_) (fun K hK => ?_)
            · rw [if_pos (wanted_no rfl _)]; refine app_none (E := eT3) _ _ 72 71 rfl Tryz.underlying72 info_blk _ _ rfl rfl (Own.lit eT3 W10.heap.size 71 W10 (Nat.le_refl _)) ?_; refine hK _ _ (.of Bel) ?_; clear hK K
              refine tr_t rfl (fun K hK => ?_); go_simp; refine hK _ _ (.of Bel) ?_; clear hK K
              refine tr_t rfl (fun K hK => ?_); rw [if_pos (wanted_no rfl _)]; refine app_op (E := eT3) (w0 := W10) _ _ 72 71 (.agg #[.string .empty, .string .empty, .int .i64 0]) 40 rfl rfl Tryz.underlying72 info_blk rfl (by decide) (by decide) _ [] [x] _ _ _ rfl rfl rfl ((Own.lit eT3 W10.heap.size 71 W10 (Nat.le_refl _)).alloc _) (SlA.new eT3 _ [x] _ _ (by simp) _ rfl) Bel (by first | (simp; done) | (simp; omega)) ?_; intro v7 w7 HO7 hb7 _ _; refine hK _ _ (.of Bel) ?_; clear hK K
              refine tr_t rfl (fun K hK => ?_); rw [if_pos (wanted_no rfl _)]; refine app_none (E := eT3) _ _ 72 71 rfl Tryz.underlying72 info_blk _ _ rfl rfl HO7 ?_; refine hK _ _ (.of Bel) ?_; clear hK K
              repeat (refine tr_q rfl (fun K hK => ?_); unfold takeQ; go_simp; refine hK _ ?_; clear hK K)
              refine tr_nil ?_
              rw [noP_normal]
              go_wp2
              exact ⟨⟨k + 1, _, by omega, by go_num, HO7.lower (by have := hb10.size; omega), HTN, hlen, Bst hb10 hb7⟩, by simp [intOf]; omega⟩
            · go_simp; refine hK _ _ (.of Bel) ?_; clear hK K
              refine tr_t rfl (fun K hK => ?_); rw [if_pos (wanted_no rfl _)]; refine app_none (E := eT3) _ _ 72 71 rfl Tryz.underlying72 info_blk _ _ rfl rfl ((Own.lit eT3 W10.heap.size 71 W10 (Nat.le_refl _)).alloc _) ?_; refine hK _ _ (.of Bel) ?_; clear hK K
              refine tr_t rfl (fun K hK => ?_); rw [if_pos (wanted_no rfl _)]; refine app_op (E := eT3) (w0 := W10) _ _ 72 71 (.agg #[.string .empty, .string .empty, .int .i64 0]) 40 rfl rfl Tryz.underlying72 info_blk rfl (by decide) (by decide) _ [] [x] _ _ _ rfl rfl rfl ((Own.lit eT3 W10.heap.size 71 W10 (Nat.le_refl _)).alloc _) (SlA.new eT3 _ [x] _ _ (by simp) _ rfl) Bel (by first | (simp; done) | (simp; omega)) ?_; intro v7 w7 HO7 hb7 _ _; refine hK _ _ (.of Bel) ?_; clear hK K
              refine tr_t rfl (fun K hK => ?_); rw [if_pos (wanted_no rfl _)]; refine app_none (E := eT3) _ _ 72 71 rfl Tryz.underlying72 info_blk _ _ rfl rfl HO7 ?_; refine hK _ _ (.of Bel) ?_; clear hK K
              repeat (refine tr_q rfl (fun K hK => ?_); unfold takeQ; go_simp; refine hK _ ?_; clear hK K)
              refine tr_nil ?_
              rw [noP_normal]
              go_wp2
              exact ⟨⟨k + 1, _, by omega, by go_num, HO7.lower (by have := hb10.size; omega), HTN, hlen, Bst hb10 hb7⟩, by simp [intOf]; omega⟩
          · go_simp; refine hK _ _ (.of Bel) ?_; clear hK K
            refine tr_t rfl (fun K hK => ?_); go_simp; refine hK _ _ (.of Bel) ?_; clear hK K
            refine tr_t rfl (fun K hK => ?_); rw [if_pos (wanted_no rfl _)]; refine app_none (E := eT3) _ _ 72 71 rfl Tryz.underlying72 info_blk _ _ rfl rfl (Own.litN eT3 W10.heap.size 71 (W10.alloc (.cells #[.string x.f, .string x.t, .int .i64 x.n] 71)) _ (by simp) (by simp)) ?_; refine hK _ _ (.of Bel) ?_; clear hK K
            refine tr_t rfl (fun K hK => ?_); rw [if_pos (wanted_no rfl _)]; refine app_op (E := eT3) (w0 := W10) _ _ 72 71 (.agg #[.string .empty, .string .empty, .int .i64 0]) 40 rfl rfl Tryz.underlying72 info_blk rfl (by decide) (by decide) _ [] [x] _ _ _ rfl rfl rfl (Own.litN eT3 W10.heap.size 71 (W10.alloc (.cells #[.string x.f, .string x.t, .int .i64 x.n] 71)) _ (by simp) (by simp)) (SlA.below (SlA.new eT3 W10 [x] 71 _ rfl _ rfl) (Bal (Below.refl _ _) _)) Bel (by first | (simp; done) | (simp; omega)) ?_; intro v7 w7 HO7 hb7 _ _; refine hK _ _ (.of Bel) ?_; clear hK K
            refine tr_t rfl (fun K hK => ?_); rw [if_pos (wanted_no rfl _)]; refine app_none (E := eT3) _ _ 72 71 rfl Tryz.underlying72 info_blk _ _ rfl rfl HO7 ?_; refine hK _ _ (.of Bel) ?_; clear hK K
            repeat (refine tr_q rfl (fun K hK => ?_); unfold takeQ; go_simp; refine hK _ ?_; clear hK K)
            refine tr_nil ?_
            rw [noP_normal]
            go_wp2
            exact ⟨⟨k + 1, _, by omega, by go_num, HO7.lower (by have := hb10.size; omega), HTN, hlen, Bst hb10 hb7⟩, by simp [intOf]; omega⟩
      · have hmx : cap ≤ 9223372036854775807 := by simpa [maxLen] using hg2
        clear hgg hg2
        go_wp2
        generalize wp.alloc (.cells #[.string x.f, .string x.t, .int .i64 x.n] 71) = w1 at *
        go_loopw [6] (fun s wr => ∃ j : Nat, j ≤ ys.length ∧ s = .int .i64 j ∧ Hid (∀ i (hi : i < ys.length), i < j → ltT ys[i] x = true) ∧ Below w1.heap.size w1 wr) (fun s _ => ys.length - (intOf s).toNat)
        case atStart => exact ⟨0, by omega, rfl, fun i _ h => by omega, Below.refl _ _⟩
        case round =>
          obtain ⟨j, hj, rfl, HJ, hbq⟩ := hrel
          have HO2 := HO1.below hbq
          obtain ⟨hBl, q0, q1, q2⟩ := hB.below hbq
          have hb2 : Below w.heap.size w wr := Bst hb1 hbq
          by_cases hjl : j < ys.length
          · obtain ⟨hgs, d1, d2, d3⟩ := HO2.cells3 j hjl
            have hj1 : (j : Int) < ys.length := by omega
            cases hq : ltT ys[j] x
            all_goals
              have HQ := Lib.hid hq
              clear hq
              go_wp2_with fail
              refine region_seqP [(0, true), (1, true), (2, true), (3, true), (4, true), (5, true), (6, true), (7, true), (8, true), (9, true), (10, false), (11, true)] (by kernel_rfl) (by kernel_rfl) ?_
              intro W hW
              obtain ⟨hcW, hzW⟩ := bcell hW
              repeat (first
                | (refine seq_q rfl (fun K hK => ?_); unfold takeQ; go_simp; refine hK _ ?_; clear hK K)
                | (refine seq_t rfl (fun K hK => ?_); go_simp; go_at_call 109; refine (r5less_c ys[j] x _).mono ?_; rintro e w3 ⟨rfl, hb3⟩; rw [HQ.out]; go_simp; refine hK _ _ (.of Bel) ?_; clear hK K))
              refine seq_nil ?_
              rw [noP_normal]
              have hb13 : Below w1.heap.size w1 w3 := Bst hbq (Bst hW hb3)
            · go_wp2_with fail
              have b1d : ∃ b1, decide (ys[j].f = x.f) = b1 := ⟨_, rfl⟩
              obtain ⟨b1, hb1'⟩ := b1d
              obtain ⟨b2, hb2'⟩ : ∃ b2, decide (ys[j].t = x.t) = b2 := ⟨_, rfl⟩
              have e1 := str_eq ys[j].f x.f
              have e2 := str_eq ys[j].t x.t
              rw [hb1'] at e1
              rw [hb2'] at e2
              have hb3w0 : Below w.heap.size w w3 := Bst hb1 hb13
              have HO3 := HO1.below hb13
              have hB3 := hB.below hb13
              clear d1 d2 d3 q0 q1 q2 hB3
              have HSM : Hid ((b1 && b2) = true ↔ SameS ys[j] x) := by
                show _ ↔ _
                rw [← hb1', ← hb2']; simp [SameS]
              clear hb1' hb2'
              cases b1 <;> cases b2
              all_goals
                refine region_seqP [(0, true), (1, true), (2, true), (3, true), (4, true), (5, true), (6, true), (7, true), (8, true), (9, true), (10, true), (11, true), (12, true), (13, true), (14, true), (15, true), (16, true), (17, true), (18, true), (19, true), (20, true), (21, true), (22, true), (23, true)] (by kernel_rfl) (by kernel_rfl) ?_
                intro W8 hW8
                replace HO3 := HO3.below hW8
                obtain ⟨_, d1, d2, d3⟩ := HO3.cells3 j hjl
                obtain ⟨_, q0, q1, q2⟩ := (hB.below hb13).below hW8
                repeat (refine seq_q rfl (fun K hK => ?_); unfold takeQ; go_simp; refine hK _ ?_; clear hK K)
                refine seq_nil ?_
                rw [noP_normal]
                have hb3w : Below w.heap.size w W8 := Bst hb3w0 hW8
                have hB3 : B3 W8 wp.heap.size x := (hB.below hb13).below hW8
                go_wp2_with fail
              case true.true =>
                have hset := Lib.hid (tab_set HT.out j hjl x (HSM.out.1 rfl))
                have hnj := tab_n HT.out (fun b hb => HP.out b (List.mem_of_mem_take hb)) hjl
                have hnt := sum_take_le xs k HP.out
                have hgl := HO3.ge g rfl
                have hfz := World.ownsRow.frozenAt HO3 (j * 3 + 2)
                obtain ⟨_, q0, q1, q2⟩ := hB3
                have hw1 : IntKind.i64.wrap (ys[j].n + x.n) = ys[j].n + x.n := IntWalk.i64_in _ (by omega)
                refine region_qtail 10 (by kernel_rfl) (by kernel_rfl) (fun W => ∃ n, W = World.drewN _ n) ⟨1, rfl⟩ ?_
                simp only [List.take_succ_cons, List.take_zero, List.drop_succ_cons, List.drop_zero]
                repeat (quiet_step (fail))
                refine wpQuiet_nil ?_
                intro _ hw'
                obtain ⟨nq, rfl⟩ := hw'
                go_wp2
                have hO9 := ((HO3.below (w' := W8.drewN nq) Bel).count j hjl (ys[j].n + x.n)).1
                exact ⟨⟨k + 1, _, by omega, by go_num, hO9, show Tab _ _ by rw [HTK.out]; exact hset.out, by simp; omega, Bsc (Bdn hb3w nq) hgl _⟩, by simp [intOf]; omega⟩
              all_goals
                have HH : Hid (∀ hi : j < ys.length, ltT ys[j] x = false ∧ ¬ SameS ys[j] x) := fun hi => ⟨HQ.out, fun h => by have := HSM.out.2 h; simp at this⟩
                have HTN : Hid (Tab (xs.take (k + 1)) (ys.take j ++ [x] ++ ys.drop j)) := by show Tab _ _; rw [HTK.out]; exact tab_ins HT.out j hj x HJ.out HH.out
                have hlen : (ys.take j ++ [x] ++ ys.drop j).length ≤ k + 1 := by simp; omega
                have htl : Hid (j = (ys.take j).length) := show j = (ys.take j).length by simp; omega
                have hdl : Hid (ys.length - j = (ys.drop j).length) := (List.length_drop).symm
                have hjc : (j : Int) ≤ cap := by omega
                have hjl2 : (j : Int) ≤ ys.length := by omega
                have hj0 : (0 : Int) ≤ j := by omega
                have hSo : SlA eT3 W8 (some ⟨g, 0, none⟩) ys := by
                  obtain ⟨A', c', hv', _, _, h⟩ := HO3.slv
                  injection hv' with hv' _ _
                  rw [hv']; exact h
                have htake := hSo.take j
                have hdrop : SlA eT3 W8 (some (if cap = j then ⟨g, 0, none⟩ else (⟨g, j * 3, none⟩ : Addr))) (ys.drop j) := by
                  split
                  · rw [List.drop_of_length_le (by omega)]; exact SlA.nil
                  · have h := hSo.part j 3 rfl; rwa [show (⟨g, 0, none⟩ : Addr).add (j * 3) = ⟨g, j * 3, none⟩ by simp [Addr.add]; intro h; exact h.symm] at h
                clear hSo HO3
                by_cases hcj : cap = j
                all_goals
                  first | rw [if_pos hcj] at hdrop | rw [if_neg hcj] at hdrop
                  refine region_tree (.q 1 (.q 2 (.q 3 (.q 5 (.q 8 (.q 9 (.q 10 (.two 0 (.two 4 (.t 6 (.t 7 (.t 11 (.q 12 .nil)))) 6 (.t 4 (.t 7 (.t 11 (.q 12 .nil))))) 6 (.t 0 (.t 4 (.t 7 (.t 11 (.q 12 .nil))))))))))))) (by kernel_rfl) (by kernel_rfl) ?_
                  intro W10 hW10
                  have hb10 : Below w.heap.size w W10 := Bst hb3w hW10
                  obtain ⟨hBl', q0', q1', q2'⟩ := hB3.below hW10
                  replace htake := htake.below hW10
                  replace hdrop := hdrop.below hW10
                  repeat (refine tr_q rfl (fun K hK => ?_); unfold takeQ; go_simp; refine hK _ ?_; clear hK K)
                  refine tr_two rfl rfl (fun K hK => ?_) (fun K hK => ?_)
                  · go_simp; refine hK _ _ (.of Bel) ?_; clear hK K
                    refine tr_two rfl rfl (fun K hK => ?_) (fun K hK => ?_)
                    · rw [if_pos (wanted_no rfl _)]; refine app_op (E := eT3) (w0 := W10) _ _ 72 71 (.agg #[.string .empty, .string .empty, .int .i64 0]) 40 rfl rfl Tryz.underlying72 info_blk rfl (by decide) (by decide) _ [] (ys.take j) _ _ _ rfl rfl htl.out (Own.lit eT3 W10.heap.size 71 W10 (Nat.le_refl _)) (htake.below Bel) Bel (by first | (simp; done) | (simp; omega)) ?_; intro v5 w5 HO5 hb5 _ _; refine hK _ _ (.of Bel) ?_; clear hK K
                      rw [List.nil_append] at HO5
                      refine tr_t rfl (fun K hK => ?_); go_simp; refine hK _ _ (.of Bel) ?_; clear hK K
                      refine tr_t rfl (fun K hK => ?_); rw [if_pos (wanted_no rfl _)]; refine app_op (E := eT3) (w0 := W10) _ _ 72 71 (.agg #[.string .empty, .string .empty, .int .i64 0]) 40 rfl rfl Tryz.underlying72 info_blk rfl (by decide) (by decide) _ (ys.take j) [x] _ _ _ rfl rfl rfl (HO5.alloc _) (SlA.new eT3 _ [x] _ _ (by simp) _ rfl) Bel (by first | (simp; done) | (simp; omega)) ?_; intro v7 w7 HO7 hb7 _ _; refine hK _ _ (.of Bel) ?_; clear hK K
                      refine tr_t rfl (fun K hK => ?_); rw [if_pos (wanted_no rfl _)]; refine app_op (E := eT3) (w0 := W10) _ _ 72 71 (.agg #[.string .empty, .string .empty, .int .i64 0]) 40 rfl rfl Tryz.underlying72 info_blk rfl (by decide) (by decide) _ (ys.take j ++ [x]) (ys.drop j) _ _ _ rfl rfl hdl.out HO7 (hdrop.below Bel) Bel (by first | (simp; done) | (simp; omega)) ?_; intro v8 w8 HO8 hb8 _ _; refine hK _ _ (.of Bel) ?_; clear hK K
                      repeat (refine tr_q rfl (fun K hK => ?_); unfold takeQ; go_simp; refine hK _ ?_; clear hK K)
                      refine tr_nil ?_
                      rw [noP_normal]
                      go_wp2
                      exact ⟨⟨k + 1, _, by omega, by go_num, HO8.lower (by have := hb10.size; omega), HTN, hlen, Bst hb10 hb8⟩, by simp [intOf]; omega⟩
                    · go_simp; refine hK _ _ (.of Bel) ?_; clear hK K
                      refine tr_t rfl (fun K hK => ?_); rw [if_pos (wanted_no rfl _)]; refine app_op (E := eT3) (w0 := W10) _ _ 72 71 (.agg #[.string .empty, .string .empty, .int .i64 0]) 40 rfl rfl Tryz.underlying72 info_blk rfl (by decide) (by decide) _ [] (ys.take j) _ _ _ rfl rfl htl.out ((Own.lit eT3 W10.heap.size 71 W10 (Nat.le_refl _)).alloc _) (htake.below Bel) Bel (by first | (simp; done) | (simp; omega)) ?_; intro v5 w5 HO5 hb5 hg5 _; have hx5 : SlA eT3 w5 (some ⟨W10.heap.size + 1, 0, none⟩) [x] := SlA.kept (row := some W10.heap.size) (SlA.new eT3 (W10.alloc (.cells #[] 71)) [x] 71 _ (by simp) _ rfl) rfl hg5 (by simp); refine hK _ _ (.of Bel) ?_; clear hK K
                      rw [List.nil_append] at HO5
                      refine tr_t rfl (fun K hK => ?_); rw [if_pos (wanted_no rfl _)]; refine app_op (E := eT3) (w0 := W10) _ _ 72 71 (.agg #[.string .empty, .string .empty, .int .i64 0]) 40 rfl rfl Tryz.underlying72 info_blk rfl (by decide) (by decide) _ (ys.take j) [x] _ _ _ rfl rfl rfl HO5 hx5 Bel (by first | (simp; done) | (simp; omega)) ?_; intro v7 w7 HO7 hb7 _ _; refine hK _ _ (.of Bel) ?_; clear hK K
                      refine tr_t rfl (fun K hK => ?_); rw [if_pos (wanted_no rfl _)]; refine app_op (E := eT3) (w0 := W10) _ _ 72 71 (.agg #[.string .empty, .string .empty, .int .i64 0]) 40 rfl rfl Tryz.underlying72 info_blk rfl (by decide) (by decide) _ (ys.take j ++ [x]) (ys.drop j) _ _ _ rfl rfl hdl.out HO7 (hdrop.below Bel) Bel (by first | (simp; done) | (simp; omega)) ?_; intro v8 w8 HO8 hb8 _ _; refine hK _ _ (.of Bel) ?_; clear hK K
                      repeat (refine tr_q rfl (fun K hK => ?_); unfold takeQ; go_simp; refine hK _ ?_; clear hK K)
                      refine tr_nil ?_
                      rw [noP_normal]
                      go_wp2
                      exact ⟨⟨k + 1, _, by omega, by go_num, HO8.lower (by have := hb10.size; omega), HTN, hlen, Bst hb10 hb8⟩, by simp [intOf]; omega⟩
                  · go_simp; refine hK _ _ (.of Bel) ?_; clear hK K
                    refine tr_t rfl (fun K hK => ?_); go_simp; refine hK _ _ (.of Bel) ?_; clear hK K
                    refine tr_t rfl (fun K hK => ?_); rw [if_pos (wanted_no rfl _)]; refine app_op (E := eT3) (w0 := W10) _ _ 72 71 (.agg #[.string .empty, .string .empty, .int .i64 0]) 40 rfl rfl Tryz.underlying72 info_blk rfl (by decide) (by decide) _ [] (ys.take j) _ _ _ rfl rfl htl.out (Own.litN eT3 W10.heap.size 71 (W10.alloc (.cells #[.string x.f, .string x.t, .int .i64 x.n] 71)) _ (by simp) (by simp)) (htake.below Bel) Bel (by first | (simp; done) | (simp; omega)) ?_; intro v5 w5 HO5 hb5 hgw5 _; have hx5 : SlA eT3 w5 (some ⟨W10.heap.size, 0, none⟩) [x] := SlA.kept (row := some (W10.heap.size + 1)) ((SlA.new eT3 W10 [x] 71 _ rfl _ rfl).below (Bal (Below.refl _ _) _)) rfl hgw5 (by simp); refine hK _ _ (.of Bel) ?_; clear hK K
                    rw [List.nil_append] at HO5
                    refine tr_t rfl (fun K hK => ?_); rw [if_pos (wanted_no rfl _)]; refine app_op (E := eT3) (w0 := W10) _ _ 72 71 (.agg #[.string .empty, .string .empty, .int .i64 0]) 40 rfl rfl Tryz.underlying72 info_blk rfl (by decide) (by decide) _ (ys.take j) [x] _ _ _ rfl rfl rfl HO5 hx5 Bel (by first | (simp; done) | (simp; omega)) ?_; intro v7 w7 HO7 hb7 hgw7 _; refine hK _ _ (.of Bel) ?_; clear hK K
                    refine tr_t rfl (fun K hK => ?_); rw [if_pos (wanted_no rfl _)]; refine app_op (E := eT3) (w0 := W10) _ _ 72 71 (.agg #[.string .empty, .string .empty, .int .i64 0]) 40 rfl rfl Tryz.underlying72 info_blk rfl (by decide) (by decide) _ (ys.take j ++ [x]) (ys.drop j) _ _ _ rfl rfl hdl.out HO7 (hdrop.below Bel) Bel (by first | (simp; done) | (simp; omega)) ?_; intro v8 w8 HO8 hb8 hgw8 _; refine hK _ _ (.of Bel) ?_; clear hK K
                    repeat (refine tr_q rfl (fun K hK => ?_); unfold takeQ; go_simp; refine hK _ ?_; clear hK K)
                    refine tr_nil ?_
                    rw [noP_normal]
                    go_wp2
                    exact ⟨⟨k + 1, _, by omega, by go_num, HO8.lower (by have := hb10.size; omega), HTN, hlen, Bst hb10 hb8⟩, by simp [intOf]; omega⟩
            · go_wp2
              refine ⟨⟨j + 1, by omega, by go_num, fun i hi h => ?_, hb13⟩, by simp [intOf]; omega⟩
              rcases Nat.lt_or_ge i j with h1 | h1
              · exact HJ.out i hi h1
              · obtain rfl : i = j := by omega
                exact HQ.out
          · have hj1 : ¬ (j : Int) < ys.length := by omega
            go_wp2_with fail
            refine region_seqP [(0, true), (1, true), (2, true), (3, true), (4, true), (5, true), (6, true), (7, true), (8, true), (9, true), (10, false), (11, true)] (by kernel_rfl) (by kernel_rfl) ?_
            intro W hW
            repeat (first
              | (refine seq_q rfl (fun K hK => ?_); unfold takeQ; go_simp; refine hK _ ?_; clear hK K)
              | (refine seq_t rfl (fun K hK => ?_); go_simp; refine hK _ _ (.of Bel) ?_; clear hK K))
            refine seq_nil ?_
            rw [noP_normal]
            have hbW : Below w1.heap.size w1 W := Bst hbq hW
            go_wp2_with fail
            refine region_seqP [(0, true), (1, true), (2, true), (3, true), (4, true), (5, true), (6, true), (7, true), (8, true), (9, true), (10, true), (11, true), (12, true), (13, true), (14, true), (15, true), (16, true), (17, true), (18, true), (19, true), (20, true), (21, true), (22, true), (23, true)] (by kernel_rfl) (by kernel_rfl) ?_
            intro W8 hW8
            have HO3 := (HO1.below hbW).below hW8
            have hB3 : B3 W8 wp.heap.size x := (hB.below hbW).below hW8
            repeat (refine seq_q rfl (fun K hK => ?_); unfold takeQ; go_simp; refine hK _ ?_; clear hK K)
            refine seq_nil ?_
            rw [noP_normal]
            have hb3w : Below w.heap.size w W8 := Bst hb1 (Bst hbW hW8)
            go_wp2_with fail
            have HH : Hid (∀ hi : j < ys.length, ltT ys[j] x = false ∧ ¬ SameS ys[j] x) := fun hi => absurd hi (by omega)
            have HTN : Hid (Tab (xs.take (k + 1)) (ys.take j ++ [x] ++ ys.drop j)) := by show Tab _ _; rw [HTK.out]; exact tab_ins HT.out j hj x HJ.out HH.out
            have hlen : (ys.take j ++ [x] ++ ys.drop j).length ≤ k + 1 := by simp; omega
            have htl : Hid (j = (ys.take j).length) := show j = (ys.take j).length by simp; omega
            have hdl : Hid (ys.length - j = (ys.drop j).length) := (List.length_drop).symm
            have hjc : (j : Int) ≤ cap := by omega
            have hjl2 : (j : Int) ≤ ys.length := by omega
            have hj0 : (0 : Int) ≤ j := by omega
            have hSo : SlA eT3 W8 (some ⟨g, 0, none⟩) ys := by
              obtain ⟨A', c', hv', _, _, h⟩ := HO3.slv
              injection hv' with hv' _ _
              rw [hv']; exact h
            have htake := hSo.take j
            have hdrop : SlA eT3 W8 (some (if cap = j then ⟨g, 0, none⟩ else (⟨g, j * 3, none⟩ : Addr))) (ys.drop j) := by
              split
              · rw [List.drop_of_length_le (by omega)]; exact SlA.nil
              · have h := hSo.part j 3 rfl; rwa [show (⟨g, 0, none⟩ : Addr).add (j * 3) = ⟨g, j * 3, none⟩ by simp [Addr.add]; intro h; exact h.symm] at h
            clear hSo HO3
            by_cases hcj : cap = j
            all_goals
              first | rw [if_pos hcj] at hdrop | rw [if_neg hcj] at hdrop
              refine region_tree (.q 1 (.q 2 (.q 3 (.q 5 (.q 8 (.q 9 (.q 10 (.two 0 (.two 4 (.t 6 (.t 7 (.t 11 (.q 12 .nil)))) 6 (.t 4 (.t 7 (.t 11 (.q 12 .nil))))) 6 (.t 0 (.t 4 (.t 7 (.t 11 (.q 12 .nil))))))))))))) (by kernel_rfl) (by kernel_rfl) ?_
              intro W10 hW10
              have hb10 : Below w.heap.size w W10 := Bst hb3w hW10
              obtain ⟨hBl', q0', q1', q2'⟩ := hB3.below hW10
              replace htake := htake.below hW10
              replace hdrop := hdrop.below hW10
              repeat (refine tr_q rfl (fun K hK => ?_); unfold takeQ; go_simp; refine hK _ ?_; clear hK K)
              refine tr_two rfl rfl (fun K hK => ?_) (fun K hK => ?_)
              · go_simp; refine hK _ _ (.of Bel) ?_; clear hK K
                refine tr_two rfl rfl (fun K hK => ?_) (fun K hK => ?_)
                · rw [if_pos (wanted_no rfl _)]; refine app_op (E := eT3) (w0 := W10) _ _ 72 71 (.agg #[.string .empty, .string .empty, .int .i64 0]) 40 rfl rfl Tryz.underlying72 info_blk rfl (by decide) (by decide) _ [] (ys.take j) _ _ _ rfl rfl htl.out (Own.lit eT3 W10.heap.size 71 W10 (Nat.le_refl _)) (htake.below Bel) Bel (by first | (simp; done) | (simp; omega)) ?_; intro v5 w5 HO5 hb5 _ _; refine hK _ _ (.of Bel) ?_; clear hK K
                  rw [List.nil_append] at HO5
                  refine tr_t rfl (fun K hK => ?_); go_simp; refine hK _ _ (.of Bel) ?_; clear hK K
                  refine tr_t rfl (fun K hK => ?_); rw [if_pos (wanted_no rfl _)]; refine app_op (E := eT3) (w0 := W10) _ _ 72 71 (.agg #[.string .empty, .string .empty, .int .i64 0]) 40 rfl rfl Tryz.underlying72 info_blk rfl (by decide) (by decide) _ (ys.take j) [x] _ _ _ rfl rfl rfl (HO5.alloc _) (SlA.new eT3 _ [x] _ _ (by simp) _ rfl) Bel (by first | (simp; done) | (simp; omega)) ?_; intro v7 w7 HO7 hb7 _ _; refine hK _ _ (.of Bel) ?_; clear hK K
                  refine tr_t rfl (fun K hK => ?_); rw [if_pos (wanted_no rfl _)]; refine app_op (E := eT3) (w0 := W10) _ _ 72 71 (.agg #[.string .empty, .string .empty, .int .i64 0]) 40 rfl rfl Tryz.underlying72 info_blk rfl (by decide) (by decide) _ (ys.take j ++ [x]) (ys.drop j) _ _ _ rfl rfl hdl.out HO7 (hdrop.below Bel) Bel (by first | (simp; done) | (simp; omega)) ?_; intro v8 w8 HO8 hb8 _ _; refine hK _ _ (.of Bel) ?_; clear hK K
                  repeat (refine tr_q rfl (fun K hK => ?_); unfold takeQ; go_simp; refine hK _ ?_; clear hK K)
                  refine tr_nil ?_
                  rw [noP_normal]
                  go_wp2
                  exact ⟨⟨k + 1, _, by omega, by go_num, HO8.lower (by have := hb10.size; omega), HTN, hlen, Bst hb10 hb8⟩, by simp [intOf]; omega⟩
                · go_simp; refine hK _ _ (.of Bel) ?_; clear hK K
                  refine tr_t rfl (fun K hK => ?_); rw [if_pos (wanted_no rfl _)]; refine app_op (E := eT3) (w0 := W10) _ _ 72 71 (.agg #[.string .empty, .string .empty, .int .i64 0]) 40 rfl rfl Tryz.underlying72 info_blk rfl (by decide) (by decide) _ [] (ys.take j) _ _ _ rfl rfl htl.out ((Own.lit eT3 W10.heap.size 71 W10 (Nat.le_refl _)).alloc _) (htake.below Bel) Bel (by first | (simp; done) | (simp; omega)) ?_; intro v5 w5 HO5 hb5 hg5 _; have hx5 : SlA eT3 w5 (some ⟨W10.heap.size + 1, 0, none⟩) [x] := SlA.kept (row := some W10.heap.size) (SlA.new eT3 (W10.alloc (.cells #[] 71)) [x] 71 _ (by simp) _ rfl) rfl hg5 (by simp); refine hK _ _ (.of Bel) ?_; clear hK K
                  rw [List.nil_append] at HO5
                  refine tr_t rfl (fun K hK => ?_); rw [if_pos (wanted_no rfl _)]; refine app_op (E := eT3) (w0 := W10) _ _ 72 71 (.agg #[.string .empty, .string .empty, .int .i64 0]) 40 rfl rfl Tryz.underlying72 info_blk rfl (by decide) (by decide) _ (ys.take j) [x] _ _ _ rfl rfl rfl HO5 hx5 Bel (by first | (simp; done) | (simp; omega)) ?_; intro v7 w7 HO7 hb7 _ _; refine hK _ _ (.of Bel) ?_; clear hK K
                  refine tr_t rfl (fun K hK => ?_); rw [if_pos (wanted_no rfl _)]; refine app_op (E := eT3) (w0 := W10) _ _ 72 71 (.agg #[.string .empty, .string .empty, .int .i64 0]) 40 rfl rfl Tryz.underlying72 info_blk rfl (by decide) (by decide) _ (ys.take j ++ [x]) (ys.drop j) _ _ _ rfl rfl hdl.out HO7 (hdrop.below Bel) Bel (by first | (simp; done) | (simp; omega)) ?_; intro v8 w8 HO8 hb8 _ _; refine hK _ _ (.of Bel) ?_; clear hK K
                  repeat (refine tr_q rfl (fun K hK => ?_); unfold takeQ; go_simp; refine hK _ ?_; clear hK K)
                  refine tr_nil ?_
                  rw [noP_normal]
                  go_wp2
                  exact ⟨⟨k + 1, _, by omega, by go_num, HO8.lower (by have := hb10.size; omega), HTN, hlen, Bst hb10 hb8⟩, by simp [intOf]; omega⟩
              · go_simp; refine hK _ _ (.of Bel) ?_; clear hK K
                refine tr_t rfl (fun K hK => ?_); go_simp; refine hK _ _ (.of Bel) ?_; clear hK K
                refine tr_t rfl (fun K hK => ?_); rw [if_pos (wanted_no rfl _)]; refine app_op (E := eT3) (w0 := W10) _ _ 72 71 (.agg #[.string .empty, .string .empty, .int .i64 0]) 40 rfl rfl Tryz.underlying72 info_blk rfl (by decide) (by decide) _ [] (ys.take j) _ _ _ rfl rfl htl.out (Own.litN eT3 W10.heap.size 71 (W10.alloc (.cells #[.string x.f, .string x.t, .int .i64 x.n] 71)) _ (by simp) (by simp)) (htake.below Bel) Bel (by first | (simp; done) | (simp; omega)) ?_; intro v5 w5 HO5 hb5 hgw5 _; have hx5 : SlA eT3 w5 (some ⟨W10.heap.size, 0, none⟩) [x] := SlA.kept (row := some (W10.heap.size + 1)) ((SlA.new eT3 W10 [x] 71 _ rfl _ rfl).below (Bal (Below.refl _ _) _)) rfl hgw5 (by simp); refine hK _ _ (.of Bel) ?_; clear hK K
                rw [List.nil_append] at HO5
                refine tr_t rfl (fun K hK => ?_); rw [if_pos (wanted_no rfl _)]; refine app_op (E := eT3) (w0 := W10) _ _ 72 71 (.agg #[.string .empty, .string .empty, .int .i64 0]) 40 rfl rfl Tryz.underlying72 info_blk rfl (by decide) (by decide) _ (ys.take j) [x] _ _ _ rfl rfl rfl HO5 hx5 Bel (by first | (simp; done) | (simp; omega)) ?_; intro v7 w7 HO7 hb7 hgw7 _; refine hK _ _ (.of Bel) ?_; clear hK K
                refine tr_t rfl (fun K hK => ?_); rw [if_pos (wanted_no rfl _)]; refine app_op (E := eT3) (w0 := W10) _ _ 72 71 (.agg #[.string .empty, .string .empty, .int .i64 0]) 40 rfl rfl Tryz.underlying72 info_blk rfl (by decide) (by decide) _ (ys.take j ++ [x]) (ys.drop j) _ _ _ rfl rfl hdl.out HO7 (hdrop.below Bel) Bel (by first | (simp; done) | (simp; omega)) ?_; intro v8 w8 HO8 hb8 hgw8 _; refine hK _ _ (.of Bel) ?_; clear hK K
                repeat (refine tr_q rfl (fun K hK => ?_); unfold takeQ; go_simp; refine hK _ ?_; clear hK K)
                refine tr_nil ?_
                rw [noP_normal]
                go_wp2
                exact ⟨⟨k + 1, _, by omega, by go_num, HO8.lower (by have := hb10.size; omega), HTN, hlen, Bst hb10 hb8⟩, by simp [intOf]; omega⟩
    · have hkk : xs.take k = xs := List.take_of_length_le (by omega)
      rw [hkk] at HT
      go_wp2
      go_ret
      exact ⟨_, ys, rfl, HO.slv, hb, HT.out, by omega⟩
end Go.Proofs.YtpnhmapkdbnkmaaGreatDoor
