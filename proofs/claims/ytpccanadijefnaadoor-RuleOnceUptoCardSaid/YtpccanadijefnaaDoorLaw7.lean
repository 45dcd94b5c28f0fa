/- The reference's Make; whether rules are the same; whether one may be. No condition. -/
import Derived.Test.YtpccanadijefnaaDoorMak
namespace Go.Proofs.YtpccanadijefnaaDoor
open Go Go.RowKit
set_option maxHeartbeats 1000000 in
set_option maxRecDepth 100000 in
theorem r7make_c (A : Option Addr) (c : Nat) (xs : List T3) (least : Int) (w : World) (hs : SlA eT3 w A xs) (hm : Small xs) (hle : -9223372036854775808 ≤ least ∧ least ≤ 9223372036854775807) :
    Calls Tryd.prog 23 #[.slice A xs.length c, .int .i64 least] w (MakPost w xs least) := by
  have hl := hm.1
  by_cases h0 : tchk xs = 0
  · by_cases hb : least < 1 ∨ 1073741824 < least
    · have HE : Hid (makE xs least = 2) := by show makE xs least = 2; unfold makE; rw [if_neg (by simpa using h0), if_pos hb]
      have HR : Hid (makR xs least = []) := by show makR xs least = []; unfold makR; rw [HE.out, if_neg (by omega)]
      have HT := Lib.hid h0
      clear h0
      rcases hb with hb | hb
      all_goals
        go_enter Tryd.func23, Tryd.ntmps23
        go_wp2_with (go_at_call 45; refine (r6chk_c A c xs _ hs hm).mono ?_; rintro e w1 ⟨rfl, hb1⟩; rw [HT.out])
        go_ret2
        exact ⟨none, 0, by rw [HR.out, HE.out]; rfl, by rw [HR.out]; exact SlA.nil, Bel⟩
    · have HE : Hid (makE xs least = 0) := by show makE xs least = 0; unfold makE; rw [if_neg (by simpa using h0), if_neg hb]
      have HR : Hid (makR xs least = makL xs xs least) := by show makR xs least = _; unfold makR; rw [HE.out, if_pos rfl]
      have HT := Lib.hid h0
      have H0 := Lib.hid h0
      obtain ⟨hz1, _, hz3, hz4⟩ := tchk_zero h0
      have hn : ∀ b ∈ xs, 1 ≤ b.n ∧ b.n ≤ 1073741824 := fun b hb => bchk_n b ((each_all xs).1 hz1 b hb)
      have hp0 := sum_nonneg xs fun b hb => by have := hn b hb; omega
      have HN := Lib.hid hn
      have hb1 : ¬ least < 1 := fun h => hb (.inl h)
      have hb2 : ¬ 1073741824 < least := fun h => hb (.inr h)
      clear h0 hb hz1 hn
      go_enter Tryd.func23, Tryd.ntmps23
      go_wp2_with (go_at_call 45; refine (r6chk_c A c xs _ hs hm).mono ?_; rintro e w1 ⟨rfl, hb1⟩; rw [HT.out])
      go_loopw [7, 25] (fun v s wr => ∃ k : Nat, k ≤ xs.length ∧ s = .int .i64 k ∧ Own eT3 w.heap.size 33 wr v (makL xs (xs.take k) least) ∧ Below w.heap.size w wr) (fun _ s _ => xs.length - (intOf s).toNat)
      case atStart => exact ⟨0, by omega, rfl, by simpa [makL] using Own.nil _, Bel⟩
      case round =>
        obtain ⟨k, hk, rfl, HO, hb⟩ := hrel
        by_cases hlt : k < xs.length
        · obtain ⟨b, o, rfl, hbs, p1, p2, p3⟩ := hs.n3 (fun _ => rfl) hb k hlt
          have hmt := makL_take xs xs least k hlt
          have hml := makL_len xs (xs.take k) least
          simp only [List.length_take] at hml
          have HCV := Lib.hid (cstV_ok H0.out hlt)
          have hnk := HN.out _ (List.getElem_mem hlt)
          by_cases hq : xs[k].n < least
          · rw [if_neg (by omega), List.append_nil] at hmt
            have HMT := Lib.hid hmt
            clear hmt
            go_wp2
            exact ⟨⟨k + 1, by omega, by go_num, by rw [HMT.out]; exact HO.alloc _, Bel⟩, by simp [intOf]; omega⟩
          · rw [if_pos (by omega)] at hmt
            have HMT := Lib.hid hmt
            clear hmt
            go_wp2_with fail
            refine region_seq [(0, true), (2, true), (3, true), (4, true), (5, true), (1, false), (6, false), (7, true), (8, true), (9, true), (10, true), (11, true)] (by kernel_rfl) (by kernel_rfl) (fun c a d v w h => by cases d <;> exact h) ?_
            intro W hW
            obtain ⟨hcW, hzW⟩ := bcell hW
            repeat (first
              | (refine seq_q rfl (fun K hK => ?_); unfold takeQ; go_simp; refine hK _ ?_; clear hK K)
              | (refine seq_t rfl (fun K hK => ?_); go_simp; go_at_call 70; refine (r6sum_c _ c xs _ (hs.below (Bst hb (Bst (Bal (Below.refl _ _) _) hW))) (by omega) (fun b hb => by have := HN.out b hb; omega)).mono ?_; rintro e w3 ⟨rfl, hb3⟩; go_simp; refine hK _ _ (.of Bel) ?_; clear hK K)
              | (refine seq_t rfl (fun K hK => ?_); go_simp; go_at_call 69; refine (r3cost_c (sumT xs) xs.length xs[k].n _ (by omega) (by omega) (by omega)).mono ?_; rintro e w4 ⟨rfl, hb4⟩; rw [HCV.out]; go_simp; refine hK _ _ (.of Bel) ?_; clear hK K))
            refine seq_nil ?_
            have hb24 : Below (wr.alloc (.cells #[.string xs[k].f, .string xs[k].t, .int .i64 xs[k].n] 25)).heap.size (wr.alloc (.cells #[.string xs[k].f, .string xs[k].t, .int .i64 xs[k].n] 25)) w4 := Bst hW (Bst hb3 hb4)
            obtain ⟨hc4, hz4'⟩ := bcell hb24
            have hs4 : wr.heap.size < w4.heap.size := Nat.lt_of_lt_of_le (by simp) hb24.size
            go_wp2_with (at_builtin; refine app (E := eT3) _ _ 26 33 (.agg #[.string .empty, .string .empty, .int .i64 0]) 40 rfl rfl Tryd.underlying26 info_rule rfl (by decide) (by decide) _ (makL xs (xs.take k) least) [mkR xs xs[k]] ⟨_, 0, none⟩ 1 1 rfl rfl rfl (((HO.alloc _).below hb24).alloc _) (SlA.new _ _ _ _ _ rfl _ rfl) Bel (by simp; omega) ?_; intro v1 w5 HO3 hb3 _ _)
            refine ⟨⟨k + 1, by omega, by go_num, by rw [HMT.out]; exact HO3, hb3⟩, by simp [intOf]; omega⟩
        · have hkk : xs.take k = xs := List.take_of_length_le (by omega)
          rw [hkk] at HO
          obtain ⟨A', c', rfl, _, _, hS⟩ := HO.slv
          clear hkk
          go_wp2
          go_ret2
          exact ⟨A', c', by rw [HR.out, HE.out]; rfl, by rw [HR.out]; exact hS, hb⟩
  · have HE : Hid (makE xs least = tchk xs) := by show makE xs least = _; unfold makE; rw [if_pos h0]
    have HR : Hid (makR xs least = []) := by show makR xs least = []; unfold makR; rw [HE.out, if_neg h0]
    have HT : Hid (tchk xs = tchk xs) := rfl
    have hn : (tchk xs != 0) = true := by simp [h0]
    clear h0
    go_enter Tryd.func23, Tryd.ntmps23
    go_wp2_with (go_at_call 45; refine (r6chk_c A c xs _ hs hm).mono ?_; rintro e w1 ⟨rfl, hb1⟩; rw [HT.out])
    go_ret2
    exact ⟨none, 0, by rw [HR.out, HE.out]; rfl, by rw [HR.out]; exact SlA.nil, Bel⟩
theorem rul_equal (a b : T3) (w : World) : (Op.equalIn 10000 33 (.agg #[.string a.f, .string a.t, .int .i64 a.n]) (.agg #[.string b.f, .string b.t, .int .i64 b.n])).run Tryd.prog w = .ok (decide (a = b)) w := by
  rw [run_equalIn_agg w 9999 _ _ _ (by kernel_rfl) (by kernel_rfl)]
  have hs : ∀ x y : ByteArray, x.toList = y.toList ↔ x = y := fun x y => ⟨ba_ext, fun h => by rw [h]⟩
  have he : (decide (a = b)) = (decide (a.f = b.f) && (decide (a.t = b.t) && decide (a.n = b.n))) := by cases a; cases b; simp
  rw [he]
  simp [go_sem, Op.eqFields, Program.fieldsOf, Tryd.underlying33, Tryd.underlying9, Tryd.underlying3, hs]
  by_cases h1 : a.f = b.f <;> by_cases h2 : a.t = b.t <;> by_cases h3 : a.n = b.n <;> simp [h1, h2, h3]
set_option maxHeartbeats 1000000 in
set_option maxRecDepth 100000 in
theorem rsame_c (A B : Option Addr) (c d : Nat) (xs ys : List T3) (w : World) (hs : SlA eT3 w A xs) (ht : SlA eT3 w B ys) (hl : xs.length ≤ 4294967296) (hm : ys.length ≤ 4294967296) :
    Calls Tryd.prog 24 #[.slice A xs.length c, .slice B ys.length d] w (Ret w (.bool (sameT xs ys))) := by
  by_cases hne : xs.length = ys.length
  · have hn0 : ((xs.length : Int) != ys.length) = false := by simp [hne]
    have HNE := Lib.hid hne
    clear hne
    go_enter Tryd.func24, Tryd.ntmps24
    go_wp2
    go_loopw [5, 13] (fun _ i wr => ∃ k : Nat, k ≤ xs.length ∧ i = .int .i64 k ∧ Hid (xs.take k = ys.take k) ∧ Below w.heap.size w wr) (fun _ i _ => xs.length - (intOf i).toNat)
    case atStart => exact ⟨0, by omega, rfl, rfl, Bel⟩
    case round =>
      obtain ⟨k, hk, rfl, HE, hb⟩ := hrel
      by_cases hlt : k < xs.length
      · have hlt' : k < ys.length := by have := HNE.out; omega
        have hk1 : (k : Int) < xs.length := by omega
        have hk2 : (k : Int) < ys.length := by omega
        obtain ⟨b, o, rfl, hbs, c1, c2, c3⟩ := hs.n3 (fun _ => rfl) hb k hlt
        obtain ⟨b', o', rfl, hbs', d1, d2, d3⟩ := ht.n3 (fun _ => rfl) hb k hlt'
        by_cases e : xs[k] = ys[k]
        · have HT : Hid (xs.take (k + 1) = ys.take (k + 1)) := by
            have h := HE.out
            show xs.take (k + 1) = ys.take (k + 1)
            rw [List.take_succ_eq_append_getElem hlt, List.take_succ_eq_append_getElem hlt', h, e]
          have hq : ∀ W, (Op.equalIn 10000 33 (.agg #[.string xs[k].f, .string xs[k].t, .int .i64 xs[k].n]) (.agg #[.string ys[k].f, .string ys[k].t, .int .i64 ys[k].n])).run Tryd.prog W = .ok true W := fun W => (rul_equal xs[k] ys[k] W).trans (by simp [e])
          clear e
          go_wp2_with fail
          refine region_qall (by kernel_rfl) (by kernel_rfl) (fun W => ∃ n, W = World.drewN _ n) ⟨1, rfl⟩ ?_
          repeat (quiet_step (fail))
          refine wpQuiet_nil ?_
          intro _ hw'
          obtain ⟨nq, rfl⟩ := hw'
          go_wp2
          exact ⟨⟨k + 1, by omega, by go_num, HT, Bel⟩, by simp [intOf]; omega⟩
        · have hn := t3_ne.1 e
          have HV : Hid (sameT xs ys = false) := by
            show sameT xs ys = false
            unfold sameT
            simp only [decide_eq_false_iff_not]
            intro h; subst h; exact e rfl
          have hq : ∀ W, (Op.equalIn 10000 33 (.agg #[.string xs[k].f, .string xs[k].t, .int .i64 xs[k].n]) (.agg #[.string ys[k].f, .string ys[k].t, .int .i64 ys[k].n])).run Tryd.prog W = .ok false W := fun W => (rul_equal xs[k] ys[k] W).trans (by simp [e])
          clear e hn
          go_wp2_with fail
          refine region_qall (by kernel_rfl) (by kernel_rfl) (fun W => ∃ n, W = World.drewN _ n) ⟨1, rfl⟩ ?_
          repeat (quiet_step (fail))
          refine wpQuiet_nil ?_
          intro _ hw'
          obtain ⟨nq, rfl⟩ := hw'
          go_wp2
          go_ret
          exact ⟨by rw [HV.out]; rfl, Bel⟩
      · have HV : Hid (sameT xs ys = true) := by
          have h := HE.out
          rw [List.take_of_length_le (by omega), List.take_of_length_le (by have := HNE.out; omega)] at h
          show sameT xs ys = true
          unfold sameT; simp [h]
        go_wp2
        go_ret
        exact ⟨by rw [HV.out]; rfl, Bel⟩
  · have HV : Hid (sameT xs ys = false) := by
      show sameT xs ys = false
      unfold sameT; simp only [decide_eq_false_iff_not]; intro h; exact hne (by rw [h])
    have hn : ((xs.length : Int) != ys.length) = true := by simp; omega
    go_enter Tryd.func24, Tryd.ntmps24
    go_wp2
    go_ret
    exact ⟨by rw [HV.out]; rfl, Bel⟩
/-- Whether a rule may be. -/
def rchk (b : T3) : Int := if bchk ⟨b.f, b.t, 1⟩ ≠ 0 then bchk ⟨b.f, b.t, 1⟩ else if b.n < 1 ∨ 255 < b.n then 2 else 0
set_option maxHeartbeats 1000000 in
set_option maxRecDepth 100000 in
theorem rchk_c (b : T3) (w : World) (hU : U w) (h1 : b.f.size ≤ 17592186044416) (h2 : b.t.size ≤ 17592186044416) :
    Calls Tryd.prog 28 #[.agg #[.string b.f, .string b.t, .int .i64 b.n]] w (Ret w (.int .i64 (rchk b))) := by
  by_cases h0 : bchk ⟨b.f, b.t, 1⟩ = 0
  · have H0 := Lib.hid h0
    have HV : Hid (rchk b = if b.n < 1 ∨ 255 < b.n then 2 else 0) := by show rchk b = _; unfold rchk; rw [if_neg (by simpa using h0)]
    clear h0
    go_enter Tryd.func28, Tryd.ntmps28
    go_wp2_with fail
    refine (bchk_c ⟨b.f, b.t, 1⟩ _ (hU.to Bel) h1 h2).mono ?_
    rintro e w1 ⟨rfl, hb1⟩
    rw [H0.out]
    obtain ⟨hc1, hz1⟩ := bcell hb1
    go_wp2
    all_goals
      go_ret
      refine ⟨?_, Bel⟩
      rw [HV.out]
      first
        | (rw [if_pos (by omega)]; rfl)
        | (rw [if_neg (by omega)]; rfl)
  · have HV : Hid (rchk b = bchk ⟨b.f, b.t, 1⟩) := by show rchk b = _; unfold rchk; rw [if_pos h0]
    have hn : (bchk ⟨b.f, b.t, 1⟩ == 0) = false := by simp [h0]
    clear h0
    go_enter Tryd.func28, Tryd.ntmps28
    go_wp2_with fail
    refine (bchk_c ⟨b.f, b.t, 1⟩ _ (hU.to Bel) h1 h2).mono ?_
    rintro e w1 ⟨rfl, hb1⟩
    go_wp2
    go_ret
    exact ⟨by rw [HV.out]; rfl, Bel⟩
set_option maxHeartbeats 1000000 in
set_option maxRecDepth 100000 in
theorem r7chk_c (b : T3) (w : World) (h1 : b.f.size ≤ 17592186044416) (h2 : b.t.size ≤ 17592186044416) :
    Calls Tryd.prog 29 #[.agg #[.string b.f, .string b.t, .int .i64 b.n]] w (Ret w (.int .i64 (rchk b))) := by
  by_cases h0 : bchk ⟨b.f, b.t, 1⟩ = 0
  · have H0 := Lib.hid h0
    have HV : Hid (rchk b = if b.n < 1 ∨ 255 < b.n then 2 else 0) := by show rchk b = _; unfold rchk; rw [if_neg (by simpa using h0)]
    clear h0
    go_enter Tryd.func29, Tryd.ntmps29
    go_wp2_with fail
    refine (r5chk_c ⟨b.f, b.t, 1⟩ _ h1 h2).mono ?_
    rintro e w1 ⟨rfl, hb1⟩
    rw [H0.out]
    obtain ⟨hc1, hz1⟩ := bcell hb1
    go_wp2
    all_goals
      go_ret
      refine ⟨?_, Bel⟩
      rw [HV.out]
      first
        | (rw [if_pos (by omega)]; rfl)
        | (rw [if_neg (by omega)]; rfl)
  · have HV : Hid (rchk b = bchk ⟨b.f, b.t, 1⟩) := by show rchk b = _; unfold rchk; rw [if_pos h0]
    have hn : (bchk ⟨b.f, b.t, 1⟩ != 0) = true := by simp [h0]
    clear h0
    go_enter Tryd.func29, Tryd.ntmps29
    go_wp2_with fail
    refine (r5chk_c ⟨b.f, b.t, 1⟩ _ h1 h2).mono ?_
    rintro e w1 ⟨rfl, hb1⟩
    go_wp2
    go_ret
    exact ⟨by rw [HV.out]; rfl, Bel⟩
end Go.Proofs.YtpccanadijefnaaDoor
