/- errataref04.Steps: the alignment's steps. No condition. -/
import Derived.Test.YtpnhmapkdbnkmaaGreatDoorR4t
import Derived.Test.YtpnhmapkdbnkmaaGreatDoorR4b
import Derived.Test.YtpnhmapkdbnkmaaGreatDoorTreS
import Derived.Test.YtpnhmapkdbnkmaaGreatDoorK815
namespace Go.Proofs.YtpnhmapkdbnkmaaGreatDoor
open Go Go.RowKit
theorem info_step : (Tryz.prog.info? 265).map (fun i => (i.zero, i.size, i.bytes)) = some (some (.agg #[.int .i64 0, .int .i32 0, .int .i32 0]), 3, 16) := by kernel_rfl
def pairA (p : P2) : List Int := (decS p.n).getD []
def pairT (p : P2) : List Int := (decS p.t).getD []
theorem pair_decs {p : P2} (h : pairE p = 0) : decS p.n = some (pairA p) ∧ decS p.t = some (pairT p) ∧ (pairA p).length ≤ 64 ∧ (pairT p).length ≤ 64 ∧ 0 < (pairA p).length ∧ 0 < (pairT p).length := by
  obtain ⟨h1, h2⟩ := pairE_ok h
  obtain ⟨a, ha, ha1, ha2⟩ := tkE_ok h1
  obtain ⟨c, hc, hc1, hc2⟩ := tkE_ok h2
  unfold pairA pairT
  rw [ha, hc]
  exact ⟨rfl, rfl, ha2, hc2, ha1, hc1⟩
def StepsPost (w : World) (p : P2) (e : Ending) (w' : World) : Prop :=
  Below w.heap.size w w' ∧ (pairE p = 0 → ∃ v, e = .returned (.tuple #[v, .int .i64 0]) ∧ SlV eSt w' v (stepsL (pairA p) (pairT p))) ∧ (pairE p ≠ 0 → e = .returned (.tuple #[.slice none 0 0, .int .i64 (pairE p)]))
theorem rev_last {α : Type} {l : List α} {k : Nat} (hk : k < l.length) : l.reverse[k]? = some (l[l.length - 1 - k]'(by omega)) := by
  rw [List.getElem?_reverse hk, List.getElem?_eq_getElem (by omega)]
set_option maxRecDepth 100000 in
set_option maxHeartbeats 4000000 in
theorem r4steps_c (p : P2) (w : World) (hz : p.n.size ≤ 17592186044416) (hz2 : p.t.size ≤ 17592186044416) : Calls Tryz.prog 105 #[.string p.n, .string p.t] w (StepsPost w p) := by
  by_cases h0 : pairE p = 0
  · have H0 := Lib.hid h0
    obtain ⟨da, db, ha, hb, _, _⟩ := pair_decs h0
    clear h0
    go_enter Tryz.func105, Tryz.ntmps105
    go_wp2_with fail
    refine (r4tok_c p _ hz hz2).mono ?_
    rintro e w2 ⟨hb2, A, ca, B, cb, a, b, rfl, hA, hB, hok⟩
    obtain ⟨ea, eb, _⟩ := hok H0.out
    obtain rfl : a = pairA p := by rw [da] at ea; injection ea with ea; exact ea.symm
    obtain rfl : b = pairT p := by rw [db] at eb; injection eb with eb; exact eb.symm
    clear ea eb hok da db
    rw [H0.out]
    obtain ⟨a, hae⟩ : ∃ a, pairA p = a := ⟨_, rfl⟩
    obtain ⟨b, hbe⟩ : ∃ b, pairT p = b := ⟨_, rfl⟩
    rw [hae] at ha hA ⊢
    rw [hbe] at hb hB ⊢
    have HAE := Lib.hid hae
    have HBE := Lib.hid hbe
    clear hae hbe
    go_wp2_with fail
    refine (table_c A B ca cb a b _ hA hB ha hb).mono ?_
    rintro e w3 ⟨gd, rfl, hT, hb3⟩
    have hA3 := hA.below hb3
    have hB3 := hB.below hb3
    have hb03 : Below w.heap.size w w3 := Bst hb2 hb3
    have HT := Lib.hid hT
    clear hT
    go_wp2
    go_loopw [10, 11, 12] (fun so si sj wr => ∃ (i j : Nat) (done : List St), si = .int .i64 i ∧ sj = .int .i64 j ∧ i ≤ a.length ∧ j ≤ b.length ∧ Hid (done ++ backL a b i j = backL a b a.length b.length ∧ done.length + (i + j) ≤ a.length + b.length) ∧ Own eSt w3.heap.size 265 wr so done ∧ Below w3.heap.size w3 wr) (fun _ si sj _ => (intOf si).toNat + (intOf sj).toNat)
    case atStart => exact ⟨a.length, b.length, [], rfl, rfl, by omega, by omega, ⟨by simp, by simp⟩, Own.nil _, Below.refl _ _⟩
    case round =>
      obtain ⟨i, j, done, rfl, rfl, hi, hj, HD, HO, hbr⟩ := hrel
      rename World => wo
      have hdl : done.length ≤ 128 := by have := HD.out.2; omega
      rcases Nat.eq_zero_or_pos i with hi0 | hi0
      · subst hi0
        rcases Nat.eq_zero_or_pos j with hj0 | hj0
        · subst hj0
          simp only [show ((0 : Nat) : Int) = 0 from rfl]
          obtain ⟨A5, c5, rfl, hc5, hd5, hA5⟩ := HO.slv
          as_aux_lemma =>
            have hst : done.reverse = stepsL a b := by
              have := HD.out.1
              rw [backL_nil, List.append_nil] at this
              rw [this]; rfl
            have HST := Lib.hid hst
            clear hst
            go_wp2_with fail
            go_loopw [13, 14] (fun so sk wr => ∃ (m : Nat) (x : Int), sk = .int .i64 x ∧ x = (m : Int) - 1 ∧ m ≤ done.length ∧ Own eSt wo.heap.size 265 wr so (done.reverse.take (done.length - m)) ∧ Below wo.heap.size wo wr) (fun _ sk _ => (intOf sk + 1).toNat)
            case atStart => exact ⟨done.length, _, rfl, by first | rfl | omega, by omega, by rw [Nat.sub_self]; exact Own.nil _, Below.refl _ _⟩
            case round =>
              obtain ⟨m, x, rfl, hx, hm, HO2, hb⟩ := hrel
              rcases Nat.eq_zero_or_pos m with hm0 | hm0
              · subst hm0
                have hx0 : ¬ (0 : Int) ≤ x := by omega
                clear hx
                go_wp2
                go_ret2
                refine ⟨Bst hb03 (Bst hbr hb), fun _ => ⟨_, rfl, ?_⟩, fun h => absurd H0.out h⟩
                have h := HO2.slv
                rw [Nat.sub_zero, List.take_of_length_le (by simp), HST.out] at h
                rw [HAE.out, HBE.out]
                exact h
              · obtain rfl : x = ((m - 1 : Nat) : Int) := by omega
                obtain ⟨b5, o5, rfl, _, p1, p2, p3⟩ := hA5.n3 (fun _ => rfl) hb (m - 1) (by omega)
                have hwx : IntKind.i64.wrap (((m - 1 : Nat) : Int) - 1) = ((m - 1 : Nat) : Int) - 1 := IntWalk.i64_in _ (by omega)
                have hml : ((m - 1 : Nat) : Int) < done.length := by omega
                have hrv : done.reverse.take (done.length - (m - 1)) = done.reverse.take (done.length - m) ++ [done[m - 1]] := by
                  have e : done.length - (m - 1) = done.length - m + 1 := by omega
                  rw [e, List.take_succ_eq_append_getElem (by simp; omega), List.getElem_reverse]
                  have e2 : done.length - 1 - (done.length - m) = m - 1 := by omega
                  simp only [e2]
                have HRV := Lib.hid hrv
                clear hrv
                have hlt2 : (done.reverse.take (done.length - m)).length ≤ 128 := by rw [List.length_take]; omega
                generalize done[m - 1] = s at *
                obtain ⟨kk, aa, bb⟩ := s
                simp only at p1 p2 p3
                go_wp2_with (at_builtin; refine app (E := eSt) (w0 := wo) _ _ 185 265 (.agg #[.int .i64 0, .int .i32 0, .int .i32 0]) 16 rfl rfl Tryz.underlying185 info_step rfl (by decide) (by decide) _ (done.reverse.take (done.length - m)) [⟨kk, aa, bb⟩] _ 1 _ rfl rfl rfl (HO2.below Bel) (SlA.new eSt _ [⟨kk, aa, bb⟩] _ _ rfl _ rfl) Bel (by first | (simp; done) | (simp; omega)) ?_; intro v7 w7 HO7 hb7 _ _)
                refine ⟨⟨m - 1, _, rfl, by omega, by omega, by rw [HRV.out]; exact HO7, hb7⟩, by first | (simp [intOf]; done) | (simp [intOf]; omega)⟩
        · have hwj : IntKind.i64.wrap ((j : Int) - 1) = ((j - 1 : Nat) : Int) := by rw [IntWalk.i64_in _ (by omega)]; omega
          have hj0' : (0 : Int) < j := by omega
          have hj1 : ((j - 1 : Nat) : Int) < b.length := by omega
          have hk : kd a b 0 j = 3 := by unfold kd; rw [if_neg (by omega), if_neg (by omega)]
          have HB := Lib.hid (backL_three (by omega) hk)
          as_aux_lemma =>
            obtain ⟨bb, ob, rfl, y1⟩ := hB3.at1 (fun _ => rfl) hbr (j - 1) (by omega)
            go_wp2_with fail
            go_quiet (fail)
            go_wp2_with fail
            go_quiet (fail)
            go_wp2_with fail
            go_quiet (fail)
            go_wp2_with (at_builtin; refine app (E := eSt) (w0 := w3) _ _ 185 265 (.agg #[.int .i64 0, .int .i32 0, .int .i32 0]) 16 rfl rfl Tryz.underlying185 info_step rfl (by decide) (by decide) _ done [⟨3, 0, b[j - 1]⟩] _ 1 _ rfl rfl rfl (HO.below Bel) (SlA.new eSt _ [⟨3, 0, b[j - 1]⟩] _ _ rfl _ rfl) Bel (by first | (simp; done) | (simp; omega)) ?_; intro v5 w5 HO5 hb5 _ _)
            refine ⟨⟨0, j - 1, _, rfl, by go_num, by omega, by omega, ⟨?_, ?_⟩, HO5, hb5⟩, by simp [intOf]; omega⟩
            · rw [← HD.out.1, HB.out, nth_at (by omega)]; simp
            · have := HD.out.2; simp; omega
      · have hwi : IntKind.i64.wrap ((i : Int) - 1) = ((i - 1 : Nat) : Int) := by rw [IntWalk.i64_in _ (by omega)]; omega
        have hi0' : (0 : Int) < i := by omega
        have hi1 : ((i - 1 : Nat) : Int) < a.length := by omega
        obtain ⟨ba, oa, rfl, x1⟩ := hA3.at1 (fun _ => rfl) (Below.refl _ _) (i - 1) (by omega)
        have hbal := World.block_lt_of_cell? _ _ x1
        replace x1 := bkc hbr x1
        obtain ⟨gi, ci, ri⟩ := HT.out i (by omega)
        obtain ⟨gp, cp, rp⟩ := HT.out (i - 1) (by omega)
        have gij := ri.2 j _ (ddRow_at hj)
        have gpj := rp.2 j _ (ddRow_at hj)
        have bi := dd_le a b _ i j (Nat.le_refl _)
        have bp := dd_le a b _ (i - 1) j (Nat.le_refl _)
        replace ci := bkc hbr ci
        replace cp := bkc hbr cp
        replace gij := bkc hbr gij
        replace gpj := bkc hbr gpj
        rcases Nat.eq_zero_or_pos j with hj0 | hj0
        · subst hj0
          have hk : kd a b i 0 = 2 := by unfold kd; rw [if_neg (by omega), if_pos ⟨hi0, by rw [dd_left, dd_left]; omega⟩]
          have HB := Lib.hid (backL_two hk)
          rw [dd_left] at gij gpj
          have hd : ((i : Int) == ((i - 1 : Nat) : Int) + 1) = true := by simp; omega
          as_aux_lemma =>
            go_wp2_with fail
            go_quiet (fail)
            go_wp2_with fail
            go_quiet (fail)
            go_wp2_with fail
            go_quiet (fail)
            go_wp2_with (at_builtin; refine app (E := eSt) (w0 := w3) _ _ 185 265 (.agg #[.int .i64 0, .int .i32 0, .int .i32 0]) 16 rfl rfl Tryz.underlying185 info_step rfl (by decide) (by decide) _ done [⟨2, a[i - 1], 0⟩] _ 1 _ rfl rfl rfl (HO.below Bel) (SlA.new eSt _ [⟨2, a[i - 1], 0⟩] _ _ rfl _ rfl) Bel (by first | (simp; done) | (simp; omega)) ?_; intro v5 w5 HO5 hb5 _ _)
            refine ⟨⟨i - 1, 0, _, by go_num, by go_num, by omega, by omega, ⟨?_, ?_⟩, HO5, hb5⟩, by simp [intOf]; omega⟩
            · rw [← HD.out.1, HB.out, nth_at (by omega)]; simp
            · have := HD.out.2; simp; omega
        · have hwj : IntKind.i64.wrap ((j : Int) - 1) = ((j - 1 : Nat) : Int) := by rw [IntWalk.i64_in _ (by omega)]; omega
          have hj0' : (0 : Int) < j := by omega
          have hj1 : ((j - 1 : Nat) : Int) < b.length := by omega
          obtain ⟨bb, ob, rfl, y1⟩ := hB3.at1 (fun _ => rfl) (Below.refl _ _) (j - 1) (by omega)
          have hbbl := World.block_lt_of_cell? _ _ y1
          replace y1 := bkc hbr y1
          have gq := bkc hbr (rp.2 (j - 1) _ (ddRow_at (by omega)))
          have bq := dd_le a b _ (i - 1) (j - 1) (Nat.le_refl _)
          have hn := n01_le a b (i - 1) (j - 1)
          have KD : Hid (kd a b i j = if dd a b i j = dd a b (i - 1) (j - 1) + n01 a b (i - 1) (j - 1) then n01 a b (i - 1) (j - 1) else if dd a b i j = dd a b (i - 1) j + 1 then 2 else 3) := by
            show _ = _
            unfold kd
            by_cases h : dd a b i j = dd a b (i - 1) (j - 1) + n01 a b (i - 1) (j - 1)
            · rw [if_pos ⟨hi0, hj0, h⟩, if_pos h]
            · rw [if_neg (fun k => h k.2.2), if_neg h]
              by_cases h2 : dd a b i j = dd a b (i - 1) j + 1
              · rw [if_pos ⟨hi0, h2⟩, if_pos h2]
              · rw [if_neg (fun k => h2 k.2), if_neg h2]
          obtain ⟨D, hDe⟩ : ∃ D, dd a b i j = D := ⟨_, rfl⟩
          obtain ⟨d1, hd1⟩ : ∃ D, dd a b (i - 1) (j - 1) = D := ⟨_, rfl⟩
          obtain ⟨d2, hd2⟩ : ∃ D, dd a b (i - 1) j = D := ⟨_, rfl⟩
          obtain ⟨q, hq⟩ : ∃ q, n01 a b (i - 1) (j - 1) = q := ⟨_, rfl⟩
          rw [hDe, hd1, hd2, hq] at KD
          rw [hDe] at gij bi
          rw [hd1] at gq bq
          rw [hd2] at gpj bp
          rw [hq] at hn
          have hqa : q = 0 ↔ a[i - 1] = b[j - 1] := by rw [← hq, n01_eq, nth_at (by omega), nth_at (by omega)]
          clear hDe hd1 hd2 hq
          by_cases hab : a[i - 1] = b[j - 1]
          · have hq0 := hqa.2 hab
            subst hq0
            have he : (a[i - 1] == b[j - 1]) = true := by simpa using hab
            have hen : (a[i - 1] != b[j - 1]) = false := by simpa using hab
            clear hqa hab
            by_cases h1 : D = d1
            · have HB : Hid (backL a b i j = ⟨0, nth a (i - 1), nth b (j - 1)⟩ :: backL a b (i - 1) (j - 1)) := by
                have hk : kd a b i j = 0 := by rw [KD.out, if_pos (by omega)]
                show _ = _
                rw [backL_low (by omega), hk]; rfl
              have hD1 : ((D : Int) == (d1 : Int)) = true := by simp; omega
              clear KD
              as_aux_lemma =>
                go_wp2_with fail
                go_quiet (fail)
                go_wp2_with fail
                obtain ⟨S, hSe⟩ : ∃ S, S = u10.ownBlock.toList := ⟨_, rfl⟩
                have hS : ∀ k, u10.ownBlock = some k → k ∈ S := fun k h => by rw [hSe, h]; simp
                have hna : ba ∉ S := fun h => by rw [hSe] at h; have := HO.ge ba (Option.mem_toList.1 h); omega
                have hnb : bb ∉ S := fun h => by rw [hSe] at h; have := HO.ge bb (Option.mem_toList.1 h); omega
                refine region_treeS S (.q 0 (.q 1 (.q 2 (.q 3 (.q 4 (.q 5 (.q 6 (.q 7 (.q 8 (.q 9 (.q 10 (.q 11 (.t 12 (.t 13 (.q 14 .nil))))))))))))))) (by kernel_rfl) (by kernel_rfl) ?_
                intro W hW
                have hbW : Below wo.heap.size wo W := Bst (Bdn (Below.refl _ _) _) hW
                have xW : ∀ X : LaterS W S, (World.extS W S X).cell? ⟨ba, oa + (i - 1), none⟩ = some (.int .i32 a[i - 1]) := fun X => X.h.cell (bkc hbW x1) hna
                have yW : ∀ X : LaterS W S, (World.extS W S X).cell? ⟨bb, ob + (j - 1), none⟩ = some (.int .i32 b[j - 1]) := fun X => X.h.cell (bkc hbW y1) hnb
                repeat (refine trS_q rfl (fun K hK => ?_); unfold takeS; go_simp; refine hK _ ?_; clear hK K)
                refine trS_t rfl (fun K hK => ?_); go_simp; refine hK _ _ (.of (Kb.weak (Kb.below Bel) (by simp))) ?_; clear hK K
                refine trS_t rfl (fun K hK => ?_); rw [if_pos (wanted_free rfl _)]; refine app_op (E := eSt) (w0 := w3) _ _ 185 265 (.agg #[.int .i64 0, .int .i32 0, .int .i32 0]) 16 rfl rfl Tryz.underlying185 info_step rfl (by decide) (by decide) _ done [⟨0, a[i - 1], b[j - 1]⟩] _ 1 _ rfl rfl rfl ((HO.below hbW).alloc _) (SlA.new eSt _ [⟨0, a[i - 1], b[j - 1]⟩] _ _ rfl _ rfl) (Bal (Bst hbr hbW) _) (by first | (simp; done) | (simp; omega)) ?_; intro v5 w5 HO5 hb5 hg5 _; refine hK _ _ (.of ((Kb.below (Bal (Below.refl _ _) _)).trans (Kb.row hg5 hS))) ?_; clear hK K
                repeat (refine trS_q rfl (fun K hK => ?_); unfold takeS; go_simp; refine hK _ ?_; clear hK K)
                refine trS_nil ?_
                rw [noP_normal]
                go_wp2
                refine ⟨⟨i - 1, j - 1, _, by go_num, by go_num, by omega, by omega, ⟨?_, ?_⟩, HO5, hb5⟩, by simp [intOf]; omega⟩
                · rw [← HD.out.1, HB.out, nth_at (by omega), nth_at (by omega)]; simp
                · have := HD.out.2; simp; omega
            · have hD1 : ((D : Int) == (d1 : Int)) = false := by simp; omega
              by_cases h2 : D = d2 + 1
              · have HB : Hid (backL a b i j = ⟨2, nth a (i - 1), 0⟩ :: backL a b (i - 1) j) := by
                  have hk : kd a b i j = 2 := by rw [KD.out, if_neg (by omega), if_pos h2]
                  exact backL_two hk
                have hD2 : ((D : Int) == (d2 : Int) + 1) = true := by simp; omega
                clear KD
                as_aux_lemma =>
                  go_wp2_with fail
                  go_quiet (fail)
                  go_wp2_with fail
                  go_quiet (fail)
                  go_wp2_with fail
                  go_quiet (fail)
                  go_wp2_with (at_builtin; refine app (E := eSt) (w0 := w3) _ _ 185 265 (.agg #[.int .i64 0, .int .i32 0, .int .i32 0]) 16 rfl rfl Tryz.underlying185 info_step rfl (by decide) (by decide) _ done [⟨2, a[i - 1], 0⟩] _ 1 _ rfl rfl rfl (HO.below Bel) (SlA.new eSt _ [⟨2, a[i - 1], 0⟩] _ _ rfl _ rfl) Bel (by first | (simp; done) | (simp; omega)) ?_; intro v5 w5 HO5 hb5 _ _)
                  refine ⟨⟨i - 1, j, _, by go_num, by go_num, by omega, by omega, ⟨?_, ?_⟩, HO5, hb5⟩, by simp [intOf]; omega⟩
                  · rw [← HD.out.1, HB.out, nth_at (by omega)]; simp
                  · have := HD.out.2; simp; omega
              · have HB : Hid (backL a b i j = ⟨3, 0, nth b (j - 1)⟩ :: backL a b i (j - 1)) := by
                  have hk : kd a b i j = 3 := by rw [KD.out, if_neg (by omega), if_neg h2]
                  exact backL_three (by omega) hk
                have hD2 : ((D : Int) == (d2 : Int) + 1) = false := by simp; omega
                clear KD
                as_aux_lemma =>
                  go_wp2_with fail
                  go_quiet (fail)
                  go_wp2_with fail
                  go_quiet (fail)
                  go_wp2_with fail
                  go_quiet (fail)
                  go_wp2_with (at_builtin; refine app (E := eSt) (w0 := w3) _ _ 185 265 (.agg #[.int .i64 0, .int .i32 0, .int .i32 0]) 16 rfl rfl Tryz.underlying185 info_step rfl (by decide) (by decide) _ done [⟨3, 0, b[j - 1]⟩] _ 1 _ rfl rfl rfl (HO.below Bel) (SlA.new eSt _ [⟨3, 0, b[j - 1]⟩] _ _ rfl _ rfl) Bel (by first | (simp; done) | (simp; omega)) ?_; intro v5 w5 HO5 hb5 _ _)
                  refine ⟨⟨i, j - 1, _, by go_num, by go_num, by omega, by omega, ⟨?_, ?_⟩, HO5, hb5⟩, by simp [intOf]; omega⟩
                  · rw [← HD.out.1, HB.out, nth_at (by omega)]; simp
                  · have := HD.out.2; simp; omega
          · have hq1 : q = 1 := by
              have : q ≠ 0 := fun h => hab (hqa.1 h)
              omega
            subst hq1
            have he : (a[i - 1] == b[j - 1]) = false := by simpa using hab
            have hen : (a[i - 1] != b[j - 1]) = true := by simpa using hab
            clear hqa hab
            by_cases h1 : D = d1 + 1
            · have HB : Hid (backL a b i j = ⟨1, nth a (i - 1), nth b (j - 1)⟩ :: backL a b (i - 1) (j - 1)) := by
                have hk : kd a b i j = 1 := by rw [KD.out, if_pos (by omega)]
                show _ = _
                rw [backL_low (by omega), hk]; rfl
              have hD1 : ((D : Int) == (d1 : Int) + 1) = true := by simp; omega
              clear KD
              as_aux_lemma =>
                go_wp2_with fail
                go_quiet (fail)
                go_wp2_with fail
                go_quiet (fail)
                go_wp2_with fail
                obtain ⟨S, hSe⟩ : ∃ S, S = u10.ownBlock.toList := ⟨_, rfl⟩
                have hS : ∀ k, u10.ownBlock = some k → k ∈ S := fun k h => by rw [hSe, h]; simp
                have hna : ba ∉ S := fun h => by rw [hSe] at h; have := HO.ge ba (Option.mem_toList.1 h); omega
                have hnb : bb ∉ S := fun h => by rw [hSe] at h; have := HO.ge bb (Option.mem_toList.1 h); omega
                refine region_treeS S (.q 0 (.q 1 (.q 2 (.q 3 (.q 4 (.q 5 (.q 6 (.q 7 (.q 8 (.q 9 (.q 10 (.q 11 (.t 12 (.t 13 (.q 14 .nil))))))))))))))) (by kernel_rfl) (by kernel_rfl) ?_
                intro W hW
                have hbW : Below wo.heap.size wo W := Bst (Bdn (Bdn (Below.refl _ _) _) _) hW
                have xW : ∀ X : LaterS W S, (World.extS W S X).cell? ⟨ba, oa + (i - 1), none⟩ = some (.int .i32 a[i - 1]) := fun X => X.h.cell (bkc hbW x1) hna
                have yW : ∀ X : LaterS W S, (World.extS W S X).cell? ⟨bb, ob + (j - 1), none⟩ = some (.int .i32 b[j - 1]) := fun X => X.h.cell (bkc hbW y1) hnb
                repeat (refine trS_q rfl (fun K hK => ?_); unfold takeS; go_simp; refine hK _ ?_; clear hK K)
                refine trS_t rfl (fun K hK => ?_); go_simp; refine hK _ _ (.of (Kb.weak (Kb.below Bel) (by simp))) ?_; clear hK K
                refine trS_t rfl (fun K hK => ?_); rw [if_pos (wanted_free rfl _)]; refine app_op (E := eSt) (w0 := w3) _ _ 185 265 (.agg #[.int .i64 0, .int .i32 0, .int .i32 0]) 16 rfl rfl Tryz.underlying185 info_step rfl (by decide) (by decide) _ done [⟨1, a[i - 1], b[j - 1]⟩] _ 1 _ rfl rfl rfl ((HO.below hbW).alloc _) (SlA.new eSt _ [⟨1, a[i - 1], b[j - 1]⟩] _ _ rfl _ rfl) (Bal (Bst hbr hbW) _) (by first | (simp; done) | (simp; omega)) ?_; intro v5 w5 HO5 hb5 hg5 _; refine hK _ _ (.of ((Kb.below (Bal (Below.refl _ _) _)).trans (Kb.row hg5 hS))) ?_; clear hK K
                repeat (refine trS_q rfl (fun K hK => ?_); unfold takeS; go_simp; refine hK _ ?_; clear hK K)
                refine trS_nil ?_
                rw [noP_normal]
                go_wp2
                refine ⟨⟨i - 1, j - 1, _, by go_num, by go_num, by omega, by omega, ⟨?_, ?_⟩, HO5, hb5⟩, by simp [intOf]; omega⟩
                · rw [← HD.out.1, HB.out, nth_at (by omega), nth_at (by omega)]; simp
                · have := HD.out.2; simp; omega
            · have hD1 : ((D : Int) == (d1 : Int) + 1) = false := by simp; omega
              by_cases h2 : D = d2 + 1
              · have HB : Hid (backL a b i j = ⟨2, nth a (i - 1), 0⟩ :: backL a b (i - 1) j) := by
                  have hk : kd a b i j = 2 := by rw [KD.out, if_neg (by omega), if_pos h2]
                  exact backL_two hk
                have hD2 : ((D : Int) == (d2 : Int) + 1) = true := by simp; omega
                clear KD
                as_aux_lemma =>
                  go_wp2_with fail
                  go_quiet (fail)
                  go_wp2_with fail
                  go_quiet (fail)
                  go_wp2_with fail
                  go_quiet (fail)
                  go_wp2_with (at_builtin; refine app (E := eSt) (w0 := w3) _ _ 185 265 (.agg #[.int .i64 0, .int .i32 0, .int .i32 0]) 16 rfl rfl Tryz.underlying185 info_step rfl (by decide) (by decide) _ done [⟨2, a[i - 1], 0⟩] _ 1 _ rfl rfl rfl (HO.below Bel) (SlA.new eSt _ [⟨2, a[i - 1], 0⟩] _ _ rfl _ rfl) Bel (by first | (simp; done) | (simp; omega)) ?_; intro v5 w5 HO5 hb5 _ _)
                  refine ⟨⟨i - 1, j, _, by go_num, by go_num, by omega, by omega, ⟨?_, ?_⟩, HO5, hb5⟩, by simp [intOf]; omega⟩
                  · rw [← HD.out.1, HB.out, nth_at (by omega)]; simp
                  · have := HD.out.2; simp; omega
              · have HB : Hid (backL a b i j = ⟨3, 0, nth b (j - 1)⟩ :: backL a b i (j - 1)) := by
                  have hk : kd a b i j = 3 := by rw [KD.out, if_neg (by omega), if_neg h2]
                  exact backL_three (by omega) hk
                have hD2 : ((D : Int) == (d2 : Int) + 1) = false := by simp; omega
                clear KD
                as_aux_lemma =>
                  go_wp2_with fail
                  go_quiet (fail)
                  go_wp2_with fail
                  go_quiet (fail)
                  go_wp2_with fail
                  go_quiet (fail)
                  go_wp2_with (at_builtin; refine app (E := eSt) (w0 := w3) _ _ 185 265 (.agg #[.int .i64 0, .int .i32 0, .int .i32 0]) 16 rfl rfl Tryz.underlying185 info_step rfl (by decide) (by decide) _ done [⟨3, 0, b[j - 1]⟩] _ 1 _ rfl rfl rfl (HO.below Bel) (SlA.new eSt _ [⟨3, 0, b[j - 1]⟩] _ _ rfl _ rfl) Bel (by first | (simp; done) | (simp; omega)) ?_; intro v5 w5 HO5 hb5 _ _)
                  refine ⟨⟨i, j - 1, _, by go_num, by go_num, by omega, by omega, ⟨?_, ?_⟩, HO5, hb5⟩, by simp [intOf]; omega⟩
                  · rw [← HD.out.1, HB.out, nth_at (by omega)]; simp
                  · have := HD.out.2; simp; omega
  · have H0 := Lib.hid h0
    obtain ⟨z, hz3⟩ : ∃ z, pairE p = z := ⟨_, rfl⟩
    have hz0 : z ≠ 0 := hz3 ▸ h0
    clear h0
    have HZ := Lib.hid hz3
    clear hz3
    go_enter Tryz.func105, Tryz.ntmps105
    go_wp2_with fail
    refine (r4tok_c p _ hz hz2).mono ?_
    rintro e w2 ⟨hb2, A, ca, B, cb, a, b, rfl, hA, hB, _⟩
    rw [HZ.out]
    go_wp2_with fail
    go_ret2
    refine ⟨hb2, fun h => absurd h H0.out, fun _ => ?_⟩
    rw [HZ.out]; rfl
end Go.Proofs.YtpnhmapkdbnkmaaGreatDoor
