/- Parts of these proofs, one behind the other: At8, Mat8, Al8, Eq8, Sts8, Mm8, Ml8. No condition. -/
import Derived.Test.YtpccanadijefnaaDoorK814
import Derived.KernelRfl
import Derived.Test.YtpccanadijefnaaDoorK810
import Derived.Test.YtpccanadijefnaaDoorK815
import Derived.Test.YtpccanadijefnaaDoorK812
/- errataref08.At, Ints, Same. No condition. -/
namespace Go.Proofs.YtpccanadijefnaaDoor
open Go Go.RowKit
/-- The rules of a place among hits. -/
def atL (hs : List (Nat × Nat)) (a : Int) : List Int := (hs.filter fun h => decide ((h.1 : Int) = a)).map fun h => (h.2 : Int)
theorem atL_take (hs : List (Nat × Nat)) (a : Int) (k : Nat) (hk : k < hs.length) : atL (hs.take (k + 1)) a = atL (hs.take k) a ++ if (hs[k].1 : Int) = a then [(hs[k].2 : Int)] else [] := by
  unfold atL
  rw [List.take_succ_eq_append_getElem hk, List.filter_append, List.map_append]
  by_cases h : (hs[k].1 : Int) = a <;> simp [h]
theorem atL_len (hs : List (Nat × Nat)) (a : Int) : (atL hs a).length ≤ hs.length := by unfold atL; rw [List.length_map]; exact List.length_filter_le _ _
theorem hitsL_len {fs : List (List Int)} {l : List Int} (hl : l.length ≤ 64) (hf : fs.length ≤ 1048576) : (hitsL fs l).length ≤ 68157440 := by
  have h := hitsTo_len fs l (l.length + 1)
  rw [hitsTo_all] at h
  have : (l.length + 1) * fs.length ≤ 65 * 1048576 := Nat.mul_le_mul (by omega) hf
  omega
/-- A place's error. -/
def atE (s : ByteArray) (a : Int) : Int := if tokE s ≠ 0 then tokE s else if a < 0 ∨ (((decS s).getD []).length : Int) < a then 2 else 0
def AtPost (w : World) (fs : List (List Int)) (s : ByteArray) (a : Int) (e : Ending) (w' : World) : Prop :=
  Below w.heap.size w w' ∧ (atE s a = 0 → ∃ v l, decS s = some l ∧ e = .returned (.tuple #[v, .int .i64 0]) ∧ Own (eInt .i64) w.heap.size 3 w' v (atL (hitsL fs l) a)) ∧
    (atE s a ≠ 0 → e = .returned (.tuple #[.slice none 0 0, .int .i64 (atE s a)]))
theorem info_int8 : (Tryd.prog.info? 3).map (fun i => (i.zero, i.size, i.bytes)) = some (some (.int .i64 0), 1, 8) := by kernel_rfl
set_option maxRecDepth 100000 in
set_option maxHeartbeats 2000000 in
theorem r8at_c (A : Option Addr) (c : Nat) (xs : List T3) (s : ByteArray) (a : Int) (w : World) (hs : SlA eT3 w A xs) (hm : Small xs) (hz : s.size ≤ 17592186044416) :
    Calls Tryd.prog 56 #[.slice A xs.length c, .string s, .int .i64 a] w (AtPost w (froms xs) s a) := by
  have hl := hm.1
  by_cases h0 : tokE s = 0
  · obtain ⟨l, hd, hll⟩ := tokE_ok h0
    have H0 := Lib.hid h0
    have HD := Lib.hid hd
    clear h0 hd
    by_cases h1 : a < 0 ∨ (l.length : Int) < a
    · have HE : Hid (atE s a = 2) := by
        show _ = _
        unfold atE; rw [if_neg (by simpa using H0.out), HD.out, if_pos (by simpa using h1)]
      have hg : a < 0 ∨ (¬ a < 0 ∧ (l.length : Int) < a) := by omega
      clear h1
      rcases hg with h1 | ⟨h1, h2⟩
      all_goals
        go_enter Tryd.func56, Tryd.ntmps56
        go_wp2_with (first
          | (go_at_call 54; refine (r8hits_c A c xs s _ hs hm hz).mono ?_; rintro e w2 ⟨hb2, hh, _⟩; obtain ⟨v, l', hl', rfl, hO⟩ := hh H0.out; obtain ⟨Av, cv, rfl, _, _, _⟩ := hO.slv)
          | (go_at_call 95; refine (r1dec_some s _ hz l HD.out).mono ?_; rintro e w3 ⟨A3, c3, rfl, _, _, _, hb3⟩))
        go_ret2
        exact ⟨Bst hb2 hb3, fun h => absurd (HE.out.symm.trans h) (by decide), fun _ => by rw [HE.out]; rfl⟩
    · have HE : Hid (atE s a = 0) := by
        show _ = _
        unfold atE; rw [if_neg (by simpa using H0.out), HD.out, if_neg (by simpa using h1)]
      have h2 : ¬ a < 0 := by omega
      have h3 : ¬ (l.length : Int) < a := by omega
      clear h1
      go_enter Tryd.func56, Tryd.ntmps56
      go_wp2_with (first
        | (go_at_call 54; refine (r8hits_c A c xs s _ hs hm hz).mono ?_; rintro e w2 ⟨hb2, hh, _⟩; obtain ⟨v, l', hl', rfl, hO⟩ := hh H0.out; obtain rfl : l = l' := (by rw [HD.out] at hl'; injection hl'); clear hh hl'; obtain ⟨Av, cv, rfl, hv1, hv2, hAv⟩ := hO.slv)
        | (go_at_call 95; refine (r1dec_some s _ hz l HD.out).mono ?_; rintro e w3 ⟨A3, c3, rfl, _, _, _, hb3⟩))
      have hhl := Lib.hid (hitsL_len (fs := froms xs) hll (by simp [froms]; exact hl))
      obtain ⟨hts, hht⟩ : ∃ hts, hitsL (froms xs) l = hts := ⟨_, rfl⟩
      rw [hht] at hAv hhl ⊢
      have HHT := Lib.hid hht
      have hA3 := hAv.below hb3
      go_loopw [12, 39] (fun so sk wr => ∃ k : Nat, sk = .int .i64 k ∧ k ≤ hts.length ∧ Own (eInt .i64) w3.heap.size 3 wr so (atL (hts.take k) a) ∧ Below w3.heap.size w3 wr) (fun _ sk _ => hts.length - (intOf sk).toNat)
      case atStart => exact ⟨0, rfl, by omega, Own.nil _, Bel⟩
      case round =>
        obtain ⟨k, rfl, hk, hO2, hb⟩ := hrel
        by_cases hlt : k < hts.length
        · obtain ⟨b, o, rfl, p1, p2⟩ := hA3.at2 (fun _ => rfl) hb k hlt
          have hlt' : (k : Int) < hts.length := by omega
          have hkb : (k : Int) < 68157440 := by have := hhl.out; omega
          have hTK := Lib.hid (atL_take hts a k hlt)
          have hbd : Hid ((atL (hts.take k) a).length ≤ 68157440) := by
            show _ ≤ _
            have h1 := atL_len (hts.take k) a
            have h2 := hhl.out
            rw [List.length_take] at h1; omega
          obtain ⟨x, hx⟩ : ∃ x : Int, (hts[k].1 : Int) = x := ⟨_, rfl⟩
          rw [hx] at p1 hTK
          clear hx
          by_cases hxa : x = a
          · have HTK : Hid (atL (hts.take (k + 1)) a = atL (hts.take k) a ++ [(hts[k].2 : Int)]) := by show _ = _; rw [hTK.out, if_pos hxa]
            go_wp2_with (at_builtin; refine app (E := eInt .i64) (w0 := w3) _ _ 75 3 (.int .i64 0) 8 rfl rfl Tryd.underlying75 info_int8 rfl (by decide) (by decide) _ (atL (hts.take k) a) [(hts[k].2 : Int)] ⟨_, 0, none⟩ 1 1 rfl rfl rfl (hO2.below Bel) (SlA.new (eInt .i64) _ _ _ _ (by simp) _ rfl) (Bst hb Bel) (by have := hbd.out; simp only [List.length_singleton]; omega) ?_; intro v6 w6 HO6 hb6 hg6 _; go_frame)
            exact ⟨⟨k + 1, by go_num, by omega, by rw [HTK.out]; exact HO6, hb6⟩, by simp [intOf]; omega⟩
          · have HTK : Hid (atL (hts.take (k + 1)) a = atL (hts.take k) a) := by show _ = _; rw [hTK.out, if_neg hxa, List.append_nil]
            have hxb : (x == a) = false := by simpa using hxa
            clear hxa
            go_wp2_with fail
            refine ⟨⟨k + 1, by go_num, by omega, ?_, ?_⟩, by simp [intOf]; omega⟩
            · rw [HTK.out]
              refine hO2.below ?_
              exact Bel
            · refine Bst hb ?_
              exact Bel
        · have hke : k = hts.length := by omega
          have hlt' : ¬ (k : Int) < hts.length := by omega
          rw [hke, List.take_length] at hO2
          clear hke
          go_wp2
          go_ret2
          refine ⟨Bst hb2 (Bst hb3 hb), fun _ => ⟨_, l, HD.out, rfl, ?_⟩, fun h => absurd HE.out h⟩
          rw [HHT.out]
          exact hO2.lower (by have := hb2.size; have := hb3.size; omega)
  · obtain ⟨z, hzz⟩ : ∃ z, tokE s = z := ⟨_, rfl⟩
    have HE : Hid (atE s a = z) := by show _ = _; unfold atE; rw [if_pos h0, hzz]
    rw [hzz] at h0
    have HZ := Lib.hid hzz
    clear hzz
    go_enter Tryd.func56, Tryd.ntmps56
    go_wp2_with (go_at_call 54; refine (r8hits_c A c xs s _ hs hm hz).mono ?_; rintro e w2 ⟨hb2, _, hh⟩; obtain rfl := hh (by rw [HZ.out]; exact h0); rw [HZ.out])
    go_ret2
    exact ⟨hb2, fun h => absurd (HE.out.symm.trans h) h0, fun _ => by rw [HE.out]; rfl⟩
end Go.Proofs.YtpccanadijefnaaDoor
/- (*Machine).At, over what Hits answers. No condition. -/
namespace Go.Proofs.YtpccanadijefnaaDoor
open Go Go.RowKit
set_option maxRecDepth 100000 in
set_option maxHeartbeats 2000000 in
theorem mat_c (M : Nat) (fs : List (List Int)) (s : ByteArray) (a : Int) (w : World) (hU : U w) (hf : fs.length ≤ 1048576) (hz : s.size ≤ 17592186044416)
    (hH : Calls Tryd.prog 49 #[.pointer (some ⟨M, 0, none⟩), .string s] w (HitPost 68 w fs s)) :
    Calls Tryd.prog 55 #[.pointer (some ⟨M, 0, none⟩), .string s, .int .i64 a] w (AtPost w fs s a) := by
  by_cases h0 : tokE s = 0
  · obtain ⟨l, hd, hll⟩ := tokE_ok h0
    have H0 := Lib.hid h0
    have HD := Lib.hid hd
    clear h0 hd
    by_cases h1 : a < 0 ∨ (l.length : Int) < a
    · have HE : Hid (atE s a = 2) := by
        show _ = _
        unfold atE; rw [if_neg (by simpa using H0.out), HD.out, if_pos (by simpa using h1)]
      have hg : a < 0 ∨ (¬ a < 0 ∧ (l.length : Int) < a) := by omega
      clear h1
      rcases hg with h1 | ⟨h1, h2⟩
      all_goals
        go_enter Tryd.func55, Tryd.ntmps55
        go_wp2_with (first
          | (go_at_call 49; refine hH.mono ?_; rintro e w2 ⟨hb2, hh, _⟩; obtain ⟨v, l', hl', rfl, hO⟩ := hh H0.out; obtain ⟨Av, cv, rfl, _, _, _⟩ := hO.slv)
          | (go_at_call 87; refine (token_c s _ (hU.to hb2) hz).mono ?_; rintro e w3 ⟨hb3, ht3, _⟩; obtain ⟨v3, l3, hl3, rfl, hO3⟩ := ht3 H0.out; obtain rfl : l = l3 := (by rw [HD.out] at hl3; injection hl3); clear ht3 hl3; obtain ⟨A3, c3, rfl, _, _, _⟩ := hO3.slv))
        go_ret2
        exact ⟨Bst hb2 hb3, fun h => absurd (HE.out.symm.trans h) (by decide), fun _ => by rw [HE.out]; rfl⟩
    · have HE : Hid (atE s a = 0) := by
        show _ = _
        unfold atE; rw [if_neg (by simpa using H0.out), HD.out, if_neg (by simpa using h1)]
      have h2 : ¬ a < 0 := by omega
      have h3 : ¬ (l.length : Int) < a := by omega
      clear h1
      go_enter Tryd.func55, Tryd.ntmps55
      go_wp2_with (first
        | (go_at_call 49; refine hH.mono ?_; rintro e w2 ⟨hb2, hh, _⟩; obtain ⟨v, l', hl', rfl, hO⟩ := hh H0.out; obtain rfl : l = l' := (by rw [HD.out] at hl'; injection hl'); clear hh hl'; obtain ⟨Av, cv, rfl, hv1, hv2, hAv⟩ := hO.slv)
        | (go_at_call 87; refine (token_c s _ (hU.to hb2) hz).mono ?_; rintro e w3 ⟨hb3, ht3, _⟩; obtain ⟨v3, l3, hl3, rfl, hO3⟩ := ht3 H0.out; obtain rfl : l = l3 := (by rw [HD.out] at hl3; injection hl3); clear ht3 hl3; obtain ⟨A3, c3, rfl, _, _, _⟩ := hO3.slv))
      have hhl := Lib.hid (hitsL_len (fs := fs) hll hf)
      obtain ⟨hts, hht⟩ : ∃ hts, hitsL fs l = hts := ⟨_, rfl⟩
      rw [hht] at hAv hhl ⊢
      have HHT := Lib.hid hht
      have hA3 := hAv.below hb3
      go_loopw [6, 37] (fun so sk wr => ∃ k : Nat, sk = .int .i64 k ∧ k ≤ hts.length ∧ Own (eInt .i64) w3.heap.size 3 wr so (atL (hts.take k) a) ∧ Below w3.heap.size w3 wr) (fun _ sk _ => hts.length - (intOf sk).toNat)
      case atStart => exact ⟨0, rfl, by omega, Own.nil _, Bel⟩
      case round =>
        obtain ⟨k, rfl, hk, hO2, hb⟩ := hrel
        by_cases hlt : k < hts.length
        · obtain ⟨b, o, rfl, p1, p2⟩ := hA3.at2 (fun _ => rfl) hb k hlt
          have hlt' : (k : Int) < hts.length := by omega
          have hkb : (k : Int) < 68157440 := by have := hhl.out; omega
          have hTK := Lib.hid (atL_take hts a k hlt)
          have hbd : Hid ((atL (hts.take k) a).length ≤ 68157440) := by
            show _ ≤ _
            have h1 := atL_len (hts.take k) a
            have h2 := hhl.out
            rw [List.length_take] at h1; omega
          obtain ⟨x, hx⟩ : ∃ x : Int, (hts[k].1 : Int) = x := ⟨_, rfl⟩
          rw [hx] at p1 hTK
          clear hx
          by_cases hxa : x = a
          · have HTK : Hid (atL (hts.take (k + 1)) a = atL (hts.take k) a ++ [(hts[k].2 : Int)]) := by show _ = _; rw [hTK.out, if_pos hxa]
            go_wp2_with (at_builtin; refine app (E := eInt .i64) (w0 := w3) _ _ 75 3 (.int .i64 0) 8 rfl rfl Tryd.underlying75 info_int8 rfl (by decide) (by decide) _ (atL (hts.take k) a) [(hts[k].2 : Int)] ⟨_, 0, none⟩ 1 1 rfl rfl rfl (hO2.below Bel) (SlA.new (eInt .i64) _ _ _ _ (by simp) _ rfl) (Bst hb Bel) (by have := hbd.out; simp only [List.length_singleton]; omega) ?_; intro v6 w6 HO6 hb6 hg6 _; go_frame)
            exact ⟨⟨k + 1, by go_num, by omega, by rw [HTK.out]; exact HO6, hb6⟩, by simp [intOf]; omega⟩
          · have HTK : Hid (atL (hts.take (k + 1)) a = atL (hts.take k) a) := by show _ = _; rw [hTK.out, if_neg hxa, List.append_nil]
            have hxb : (x == a) = false := by simpa using hxa
            clear hxa
            go_wp2_with fail
            refine ⟨⟨k + 1, by go_num, by omega, ?_, ?_⟩, by simp [intOf]; omega⟩
            · rw [HTK.out]
              refine hO2.below ?_
              exact Bel
            · refine Bst hb ?_
              exact Bel
        · have hke : k = hts.length := by omega
          have hlt' : ¬ (k : Int) < hts.length := by omega
          rw [hke, List.take_length] at hO2
          clear hke
          go_wp2
          go_ret2
          refine ⟨Bst hb2 (Bst hb3 hb), fun _ => ⟨_, l, HD.out, rfl, ?_⟩, fun h => absurd HE.out h⟩
          rw [HHT.out]
          exact hO2.lower (by have := hb2.size; have := hb3.size; omega)
  · obtain ⟨z, hzz⟩ : ∃ z, tokE s = z := ⟨_, rfl⟩
    have HE : Hid (atE s a = z) := by show _ = _; unfold atE; rw [if_pos h0, hzz]
    rw [hzz] at h0
    have HZ := Lib.hid hzz
    clear hzz
    go_enter Tryd.func55, Tryd.ntmps55
    go_wp2_with (go_at_call 49; refine hH.mono ?_; rintro e w2 ⟨hb2, _, hh⟩; obtain rfl := hh (by rw [HZ.out]; exact h0); rw [HZ.out])
    go_ret2
    exact ⟨hb2, fun h => absurd (HE.out.symm.trans h) h0, fun _ => by rw [HE.out]; rfl⟩
end Go.Proofs.YtpccanadijefnaaDoor
/- The document's example of chapter 08, in plain Lean. No condition. -/
namespace Go.Proofs.YtpccanadijefnaaDoor
open Go Go.RowKit
def exR : List T3 := [⟨⟨#[110]⟩, ⟨#[120]⟩, 1⟩, ⟨⟨#[114, 110]⟩, ⟨#[109]⟩, 1⟩]
theorem ex_froms : froms exR = [[110], [114, 110]] := by kernel_rfl
theorem ex_is : isE exR = 0 := by kernel_rfl
theorem ex_arn : decS ⟨#[97, 114, 110]⟩ = some [97, 114, 110] := by kernel_rfl
theorem ex_tok : tokE ⟨#[97, 114, 110]⟩ = 0 := by kernel_rfl
theorem ex_states : (statesT [[110], [114, 110]]).length = 4 := by decide
theorem ex_hits : hitsL [[110], [114, 110]] [97, 114, 110] = [(1, 1), (2, 0)] := by decide
end Go.Proofs.YtpccanadijefnaaDoor
/- errataref08's Ints and Same; erratalaw08's hits. No condition. -/
namespace Go.Proofs.YtpccanadijefnaaDoor
open Go Go.RowKit
theorem take_eq {α : Type} {xs ys : List α} {i : Nat} (h : xs.take i = ys.take i) (hx : i < xs.length) (hy : i < ys.length) (e : xs[i] = ys[i]) : xs.take (i + 1) = ys.take (i + 1) := by
  rw [List.take_succ_eq_append_getElem hx, List.take_succ_eq_append_getElem hy, h, e]
set_option maxRecDepth 100000 in
set_option maxHeartbeats 1000000 in
theorem ints_c (A B : Option Addr) (c d : Nat) (xs ys : List Int) (w : World) (hs : SlA (eInt .i64) w A xs) (ht : SlA (eInt .i64) w B ys) (hl : xs.length ≤ 4294967296) (hm : ys.length ≤ 4294967296) :
    Calls Tryd.prog 59 #[.slice A xs.length c, .slice B ys.length d] w (Ret w (.bool (decide (xs = ys)))) := by
  by_cases h0 : xs.length = ys.length
  · have H0 := Lib.hid h0
    have hyl : ys.length ≤ 4294967296 := hm
    clear h0
    go_enter Tryd.func59, Tryd.ntmps59
    rw [show (ys.length) = xs.length from H0.out.symm]
    go_wp2
    go_loopw [13] (fun s wr => ∃ i : Nat, s = .int .i64 i ∧ i ≤ xs.length ∧ Hid (xs.take i = ys.take i) ∧ Below w.heap.size w wr) (fun s _ => xs.length - (intOf s).toNat)
    case atStart => exact ⟨0, rfl, by omega, by show _ = _; simp, Bel⟩
    case round =>
      obtain ⟨i, rfl, hi, HT, hb⟩ := hrel
      by_cases h1 : i < xs.length
      · obtain ⟨b, o, rfl, x0⟩ := hs.at1 (fun _ => rfl) hb i h1
        have h2 : i < ys.length := by rw [← H0.out]; exact h1
        obtain ⟨b', o', rfl, y0⟩ := ht.at1 (fun _ => rfl) hb i h2
        have h1' : (i : Int) < xs.length := by omega
        obtain ⟨x, hx⟩ : ∃ x, xs[i] = x := ⟨_, rfl⟩
        obtain ⟨y, hy⟩ : ∃ y, ys[i] = y := ⟨_, rfl⟩
        rw [hx] at x0
        rw [hy] at y0
        have HX := Lib.hid hx
        have HY := Lib.hid hy
        have H2 := Lib.hid h2
        clear hx hy
        go_wp2_with fail
        refine region_seqP [(0, true), (1, true), (2, true), (3, true), (4, true), (5, true), (6, true), (7, true), (8, true)] (by kernel_rfl) (by kernel_rfl) ?_
        intro W hW
        obtain ⟨x1, y1⟩ := And.intro ((hW.cell (World.block_lt_of_cell? wr _ x0)).trans x0) ((hW.cell (World.block_lt_of_cell? wr _ y0)).trans y0)
        have hbW : Below w.heap.size w W := Bst hb hW
        clear x0 y0
        repeat (refine seq_q rfl (fun K hK => ?_); unfold takeQ; go_simp; refine hK _ ?_; clear hK K)
        refine seq_nil ?_
        rw [noP_normal]
        by_cases h3 : x = y
        · have hxy : (x == y) = true := by simpa using h3
          have HTn := take_eq HT.out h1 H2.out (by rw [HX.out, HY.out, h3])
          have HTN := Lib.hid HTn
          subst h3
          clear HTn hxy
          go_wp2_with fail
          refine ⟨⟨i + 1, by go_num, by omega, HTN, hbW⟩, by simp [intOf]; omega⟩
        · have hxy : (x == y) = false := by simpa using h3
          have hne : Hid (¬ xs = ys) := fun e => h3 (by rw [← HX.out, ← HY.out]; simp [e])
          clear h3
          go_wp2_with fail
          go_ret
          exact ⟨by simp [hne.out], hbW⟩
      · have h1' : ¬ (i : Int) < xs.length := by omega
        have he : Hid (xs = ys) := by
          have := HT.out
          rwa [List.take_of_length_le (by omega), List.take_of_length_le (by rw [← H0.out]; omega)] at this
        go_wp2_with fail
        go_ret
        exact ⟨by simp [he.out], hb⟩
  · have hne : Hid (¬ xs = ys) := fun e => h0 (by rw [e])
    have e0 : ((xs.length : Int) == ys.length) = false := by rw [beq_eq_false_iff_ne]; omega
    clear h0
    go_enter Tryd.func59, Tryd.ntmps59
    go_wp2_with fail
    go_ret
    exact ⟨by simp [hne.out], Bel⟩
theorem hit_equal (xa xb ya yb : Nat) (w : World) : (Op.equalIn 10000 137 (.agg #[.int .i64 xa, .int .i64 xb]) (.agg #[.int .i64 ya, .int .i64 yb])).run Tryd.prog w = .ok (decide ((xa, xb) = (ya, yb))) w := by
  rw [run_equalIn_agg w 9999 _ _ _ (by kernel_rfl) (by kernel_rfl)]
  have he : decide ((xa, xb) = (ya, yb)) = (decide ((xa : Int) = ya) && decide ((xb : Int) = yb)) := by rw [Bool.eq_iff_iff]; simp; omega
  rw [he]
  simp [go_sem, Op.eqFields, Program.fieldsOf, Tryd.underlying137, Tryd.underlying3]
  by_cases h1 : (xa : Int) = ya <;> by_cases h2 : (xb : Int) = yb <;> simp [h1, h2]
set_option maxRecDepth 100000 in
set_option maxHeartbeats 1000000 in
theorem same8_c (A B : Option Addr) (c d : Nat) (xs ys : List (Nat × Nat)) (w : World) (hs : SlA eH w A xs) (ht : SlA eH w B ys) (hl : xs.length ≤ 4294967296) (hm : ys.length ≤ 4294967296) :
    Calls Tryd.prog 57 #[.slice A xs.length c, .slice B ys.length d] w (Ret w (.bool (decide (xs = ys)))) := by
  by_cases h0 : xs.length = ys.length
  · have H0 := Lib.hid h0
    have hyl : ys.length ≤ 4294967296 := hm
    clear h0
    go_enter Tryd.func57, Tryd.ntmps57
    rw [show (ys.length) = xs.length from H0.out.symm]
    go_wp2
    go_loopw [13] (fun s wr => ∃ i : Nat, s = .int .i64 i ∧ i ≤ xs.length ∧ Hid (xs.take i = ys.take i) ∧ Below w.heap.size w wr) (fun s _ => xs.length - (intOf s).toNat)
    case atStart => exact ⟨0, rfl, by omega, by show _ = _; simp, Bel⟩
    case round =>
      obtain ⟨i, rfl, hi, HT, hb⟩ := hrel
      by_cases h1 : i < xs.length
      · obtain ⟨b, o, rfl, x0, u0⟩ := hs.at2 (fun _ => rfl) hb i h1
        have h2 : i < ys.length := by rw [← H0.out]; exact h1
        obtain ⟨b', o', rfl, y0, v0⟩ := ht.at2 (fun _ => rfl) hb i h2
        have h1' : (i : Int) < xs.length := by omega
        obtain ⟨x, hx⟩ : ∃ x, xs[i] = x := ⟨_, rfl⟩
        obtain ⟨y, hy⟩ : ∃ y, ys[i] = y := ⟨_, rfl⟩
        rw [hx] at x0 u0
        rw [hy] at y0 v0
        obtain ⟨xa, xb⟩ := x
        obtain ⟨ya, yb⟩ := y
        dsimp only at x0 u0 y0 v0
        have HX := Lib.hid hx
        have HY := Lib.hid hy
        have H2 := Lib.hid h2
        clear hx hy
        by_cases h3 : (xa, xb) = (ya, yb)
        · have hq : ∀ W, (Op.equalIn 10000 137 (.agg #[.int .i64 xa, .int .i64 xb]) (.agg #[.int .i64 ya, .int .i64 yb])).run Tryd.prog W = .ok true W := fun W => (hit_equal xa xb ya yb W).trans (by simp [h3])
          have HTN := Lib.hid (take_eq HT.out h1 h2 (by rw [HX.out, HY.out, h3]))
          clear h3
          go_wp2_with fail
          refine region_seqP [(0, true), (1, true), (2, true), (3, true), (4, true), (5, true), (6, true), (7, true), (8, true)] (by kernel_rfl) (by kernel_rfl) ?_
          intro W hW
          obtain ⟨u1, v1⟩ := And.intro ((hW.cell (World.block_lt_of_cell? wr _ u0)).trans u0) ((hW.cell (World.block_lt_of_cell? wr _ v0)).trans v0)
          obtain ⟨x1, y1⟩ := And.intro ((hW.cell (World.block_lt_of_cell? wr _ x0)).trans x0) ((hW.cell (World.block_lt_of_cell? wr _ y0)).trans y0)
          have hbW : Below w.heap.size w W := Bst hb hW
          clear x0 y0 u0 v0
          repeat (refine seq_q rfl (fun K hK => ?_); unfold takeQ; go_simp; refine hK _ ?_; clear hK K)
          refine seq_nil ?_
          rw [noP_normal]
          go_wp2_with fail
          refine ⟨⟨i + 1, by go_num, by omega, HTN, hbW⟩, by simp [intOf]; omega⟩
        · have hq : ∀ W, (Op.equalIn 10000 137 (.agg #[.int .i64 xa, .int .i64 xb]) (.agg #[.int .i64 ya, .int .i64 yb])).run Tryd.prog W = .ok false W := fun W => (hit_equal xa xb ya yb W).trans (by simp [h3])
          have hne : Hid (¬ xs = ys) := fun e => h3 (by rw [← HX.out, ← HY.out]; simp [e])
          clear h3
          go_wp2_with fail
          refine region_seqP [(0, true), (1, true), (2, true), (3, true), (4, true), (5, true), (6, true), (7, true), (8, true)] (by kernel_rfl) (by kernel_rfl) ?_
          intro W hW
          obtain ⟨u1, v1⟩ := And.intro ((hW.cell (World.block_lt_of_cell? wr _ u0)).trans u0) ((hW.cell (World.block_lt_of_cell? wr _ v0)).trans v0)
          obtain ⟨x1, y1⟩ := And.intro ((hW.cell (World.block_lt_of_cell? wr _ x0)).trans x0) ((hW.cell (World.block_lt_of_cell? wr _ y0)).trans y0)
          have hbW : Below w.heap.size w W := Bst hb hW
          clear x0 y0 u0 v0
          repeat (refine seq_q rfl (fun K hK => ?_); unfold takeQ; go_simp; refine hK _ ?_; clear hK K)
          refine seq_nil ?_
          rw [noP_normal]
          go_wp2_with fail
          go_ret
          exact ⟨by simp [hne.out], hbW⟩
      · have h1' : ¬ (i : Int) < xs.length := by omega
        have he : Hid (xs = ys) := by
          have := HT.out
          rwa [List.take_of_length_le (by omega), List.take_of_length_le (by rw [← H0.out]; omega)] at this
        go_wp2_with fail
        go_ret
        exact ⟨by simp [he.out], hb⟩
  · have hne : Hid (¬ xs = ys) := fun e => h0 (by rw [e])
    have e0 : ((xs.length : Int) == ys.length) = false := by rw [beq_eq_false_iff_ne]; omega
    clear h0
    go_enter Tryd.func57, Tryd.ntmps57
    go_wp2_with fail
    go_ret
    exact ⟨by simp [hne.out], Bel⟩
set_option maxRecDepth 100000 in
set_option maxHeartbeats 1000000 in
theorem lhits_c (A : Option Addr) (c : Nat) (hts : List (Nat × Nat)) (w : World) (hs : SlA eH w A hts) (hl : hts.length ≤ 68157440) :
    Calls Tryd.prog 58 #[.slice A hts.length c] w fun e w' => ∃ v, e = .returned v ∧ Own eH w.heap.size 137 w' v hts ∧ Below w.heap.size w w' := by
  go_enter Tryd.func58, Tryd.ntmps58
  go_wp2
  go_loopw [3, 8] (fun so sk wr => ∃ k : Nat, sk = .int .i64 k ∧ k ≤ hts.length ∧ Own eH w.heap.size 137 wr so (hts.take k) ∧ Below w.heap.size w wr) (fun _ sk _ => hts.length - (intOf sk).toNat)
  case atStart => exact ⟨0, rfl, by omega, Own.nil _, Bel⟩
  case round =>
    obtain ⟨k, rfl, hk, hO2, hb⟩ := hrel
    by_cases hlt : k < hts.length
    · obtain ⟨b, o, rfl, p1, p2⟩ := hs.at2 (fun _ => rfl) hb k hlt
      have hlt' : (k : Int) < hts.length := by omega
      have hTK : Hid (hts.take (k + 1) = hts.take k ++ [hts[k]]) := List.take_succ_eq_append_getElem hlt
      have hbd : Hid ((hts.take k).length ≤ 68157440) := by show _ ≤ _; rw [List.length_take]; omega
      obtain ⟨x, hx⟩ : ∃ x, hts[k] = x := ⟨_, rfl⟩
      rw [hx] at p1 p2 hTK
      obtain ⟨xa, xb⟩ := x
      dsimp only at p1 p2
      clear hx
      go_wp2_with (at_builtin; refine app (E := eH) (w0 := w) _ _ 72 137 (.agg #[.int .i64 0, .int .i64 0]) 16 rfl rfl Tryd.underlying72 info_hit8 rfl (by decide) (by decide) _ (hts.take k) [(xa, xb)] ⟨_, 0, none⟩ 1 1 rfl rfl rfl (hO2.below Bel) (SlA.new eH _ _ _ _ (by simp) _ rfl) (Bst hb Bel) (by have := hbd.out; simp only [List.length_singleton]; omega) ?_; intro v6 w6 HO6 hb6 hg6 _; go_frame)
      exact ⟨⟨k + 1, by go_num, by omega, by rw [hTK.out]; exact HO6, hb6⟩, by simp [intOf]; omega⟩
    · have hke : k = hts.length := by omega
      have hlt' : ¬ (k : Int) < hts.length := by omega
      rw [hke, List.take_length] at hO2
      clear hke
      go_wp2
      go_ret
      exact ⟨_, rfl, hO2, hb⟩
end Go.Proofs.YtpccanadijefnaaDoor
/- errataref08.States: how many beginnings there are. No condition. -/
namespace Go.Proofs.YtpccanadijefnaaDoor
open Go Go.RowKit
theorem info_str : (Tryd.prog.info? 9).map (fun i => (i.zero, i.size, i.bytes)) = some (some (.string .empty), 1, 16) := by kernel_rfl
/-- Runes alone. -/
def AllR (T : List (List Int)) : Prop := ∀ p ∈ T, ∀ r ∈ p, IsR r
theorem txt_eq {p q : List Int} (hp : ∀ r ∈ p, IsR r) (hq : ∀ r ∈ q, IsR r) : ((txt p).toList == (txt q).toList) = decide (p = q) := by
  rw [Bool.eq_iff_iff]
  simp only [beq_iff_eq, decide_eq_true_eq]
  constructor
  · intro h
    have h2 : txt p = txt q := ba_ext h
    have h3 := txt_dec hp
    rw [h2, txt_dec hq] at h3
    injection h3 with h3; exact h3.symm
  · intro h; rw [h]
theorem AllR.addP {T : List (List Int)} (h : AllR T) {q : List Int} (hq : ∀ r ∈ q, IsR r) : AllR (addP T q) := fun p hp => by
  rw [addP_mem] at hp
  rcases hp with hp | rfl
  · exact h p hp
  · exact hq
theorem isR_from (s : ByteArray) : ∀ r ∈ (decS s).getD [], IsR r := by
  cases h : decS s with
  | none => simp
  | some l => exact decS_isR h
theorem len_from (s : ByteArray) : ((decS s).getD []).length ≤ s.size := by
  cases h : decS s with
  | none => simp
  | some l => exact decS_len h
theorem froms_take (xs : List T3) (k : Nat) (hk : k < xs.length) : (froms xs).take (k + 1) = (froms xs).take k ++ [(decS xs[k].f).getD []] := by
  have hk' : k < (froms xs).length := by unfold froms; simpa using hk
  rw [List.take_succ_eq_append_getElem hk']
  simp [froms]
theorem take_memR {l : List Int} (h : ∀ r ∈ l, IsR r) (n : Nat) : ∀ r ∈ l.take n, IsR r := fun r hr => h r (List.mem_of_mem_take hr)
theorem r1dec_anyO (s : ByteArray) (w : World) (hs : s.size ≤ 17592186044416) :
    Calls Tryd.prog 95 #[.string s] w fun e w' => ∃ A c z, e = .returned (.tuple #[.slice A ((decS s).getD []).length c, .int .i64 z]) ∧ Own (eInt .i32) 0 21 w' (.slice A ((decS s).getD []).length c) ((decS s).getD []) ∧ ((decS s).getD []).length ≤ c ∧ c ≤ 9223372036854775807 ∧ Below w.heap.size w w' :=
  (r1dec_own s w hs).mono fun e w' ⟨hb, h⟩ => by
    cases hd : decS s with
    | none => rw [hd] at h; exact ⟨none, 0, 3, h, Own.nil _, by simp, by decide, hb⟩
    | some l => rw [hd] at h; obtain ⟨v, he, hO⟩ := h; obtain ⟨A, c, rfl, h1, h2, _⟩ := hO.slv; exact ⟨A, c, 0, he, hO.lower (Nat.zero_le _), h1, h2, hb⟩
theorem Own.sla {α : Type} {E : Enc α} {base : Nat} {e : TypeId} {w : World} {A : Option Addr} {n c : Nat} {xs : List α} (h : Own E base e w (.slice A n c) xs) : SlA E w A xs := by
  obtain ⟨A', c', hv, _, _, hA⟩ := h.slv
  injection hv with e1 _ _
  rw [e1]; exact hA
theorem mem_more {P : List (List Int)} {q : List Int} (i : Nat) (h : i < P.length) : q ∈ P.take (i + 1) ↔ q ∈ P.take i ∨ P[i] = q := by
  rw [List.take_succ_eq_append_getElem h, List.mem_append, List.mem_singleton]
  exact or_congr Iff.rfl ⟨fun e => e.symm, fun e => e.symm⟩
set_option maxRecDepth 100000 in
set_option maxHeartbeats 4000000 in
theorem r8states_c (A : Option Addr) (c : Nat) (xs : List T3) (w : World) (hs : SlA eT3 w A xs) (hm : Small xs) :
    Calls Tryd.prog 53 #[.slice A xs.length c] w (Ret w (.int .i64 (statesT (froms xs)).length)) := by
  have hl := hm.1
  go_enter Tryd.func53, Tryd.ntmps53
  go_wp2
  go_loopw [3, 16] (fun so sk wr => ∃ k : Nat, sk = .int .i64 k ∧ k ≤ xs.length ∧ Own eStr w.heap.size 9 wr so ((statesT ((froms xs).take k)).map txt) ∧ Hid (AllR (statesT ((froms xs).take k))) ∧ Hid ((statesT ((froms xs).take k)).length ≤ k * 1048576 + 1) ∧ Below w.heap.size w wr) (fun _ sk _ => xs.length - (intOf sk).toNat)
  case atStart =>
    refine ⟨0, rfl, by omega, ?_, fun p hp => ?_, by show _ ≤ _; simp [statesT], Bel⟩
    · exact World.ownsRow_lit (base := w.heap.size) (e := 9) (size := 1) w #[.string ⟨#[]⟩] 1 (Nat.le_refl _) (by decide) rfl
    · simp [statesT] at hp; subst hp; simp
  case round =>
    obtain ⟨k, rfl, hk, hO, hAR, hTL, hb⟩ := hrel
    by_cases hlt : k < xs.length
    · obtain ⟨b, o, rfl, hbl, p1, p2, p3⟩ := hs.n3 (fun _ => rfl) hb k hlt
      have hsz := (hm.at k hlt).1
      have hlt' : (k : Int) < xs.length := by omega
      have hFT := Lib.hid (froms_take xs k hlt)
      have hLR := Lib.hid (isR_from xs[k].f)
      have hLL := len_from xs[k].f
      obtain ⟨wp, rfl⟩ : ∃ wp, wp = wr := ⟨_, rfl⟩
      obtain ⟨T, hT⟩ : ∃ T, statesT ((froms xs).take k) = T := ⟨_, rfl⟩
      rw [hT] at hO hAR hTL
      replace hT := Lib.hid hT
      go_wp2_with (go_at_call 95; refine (r1dec_anyO xs[k].f _ (by omega)).mono ?_; rintro e w4 ⟨A4, c4, z4, rfl, hOl, hc1, hc2, hb4⟩)
      have hbp4 : Below wp.heap.size wp w4 := Bst Bel hb4
      have hbw4 : Below w.heap.size w w4 := Bst hb hbp4
      have hO4 := hO.below hbp4
      obtain ⟨l, hll⟩ : ∃ l, (decS xs[k].f).getD [] = l := ⟨_, rfl⟩
      rw [hll] at hFT hLR hLL hOl hc1 ⊢
      clear hll p1 p2 p3 hb4 hbp4 hO
      go_loopw [3, 28] (fun so sn wr => ∃ n : Nat, sn = .int .i64 n ∧ n ≤ l.length ∧ Own eStr w.heap.size 9 wr so ((putK T l n).map txt) ∧ Hid (AllR (putK T l n)) ∧ Own (eInt .i32) 0 21 wr (.slice A4 l.length c4) l ∧ Below w.heap.size w wr) (fun _ sn _ => l.length - (intOf sn).toNat)
      case atStart => exact ⟨0, rfl, by omega, hO4, hAR, hOl, hbw4⟩
      case round =>
        obtain ⟨n, rfl, hn, hOm, hAR2, hOl2, hb5⟩ := hrel
        by_cases hnl : n < l.length
        · have hPb : Hid ((putK T l n).length ≤ 1099511627776 + 2097152) := by
            show _ ≤ _
            have h1 := (putK_len T l n).2
            have h2 := hTL.out
            have h3 : k * 1048576 ≤ 1048576 * 1048576 := Nat.mul_le_mul (by omega) (Nat.le_refl _)
            omega
          have HPS := Lib.hid (putK_succ T l n)
          obtain ⟨P, hP⟩ : ∃ P, putK T l n = P := ⟨_, rfl⟩
          rw [hP] at hOm hAR2 hPb HPS
          have htl : (l.take (n + 1)).length = n + 1 := by rw [List.length_take]; omega
          have hqR : Hid (∀ r ∈ l.take (n + 1), IsR r) := take_memR hLR.out (n + 1)
          have htx : ∀ W, SlA (eInt .i32) W A4 l → Calls Tryd.prog 96 #[.slice A4 (n + 1) c4] W (Ret W (.string (txt (l.take (n + 1))))) := fun W hW => by
            have := r1text_c A4 c4 (l.take (n + 1)) W (hW.take _) hqR.out (by omega)
            rwa [htl] at this
          obtain ⟨q, hq⟩ : ∃ q, l.take (n + 1) = q := ⟨_, rfl⟩
          rw [hq] at HPS hqR htx
          have HTX := Lib.hid htx
          obtain ⟨s, hsq⟩ : ∃ s, txt q = s := ⟨_, rfl⟩
          have HSQ := Lib.hid hsq
          obtain ⟨Am, cm, hso, hm1, hm2, _⟩ := hOm.slv
          rw [List.length_map] at hso hm1
          subst hso
          have hPi : (P.length : Int) ≤ 1099511627776 + 2097152 := by have := hPb.out; omega
          have hn1 : (n : Int) + 1 ≤ c4 := by omega
          have hn2 : (n : Int) < l.length := by omega
          clear htx hq htl hP hsq
          obtain ⟨wp2, rfl⟩ : ∃ w, w = wr := ⟨_, rfl⟩
          go_wp2_with (go_at_call 96; refine (HTX.out _ (hOl2.sla.below Bel)).mono ?_; rintro e w5 ⟨rfl, hb6⟩; rw [HSQ.out])
          have hOm5 := hOm.below hb6
          have hOl5 := hOl2.below hb6
          have hbw5 : Below w.heap.size w w5 := Bst hb5 hb6
          go_loopw [10, 38] (fun sb si wr => ∃ (i : Nat) (b : Bool), si = .int .i64 i ∧ sb = .bool b ∧ i ≤ P.length ∧ Hid (b = decide (q ∈ P.take i)) ∧ Below w5.heap.size w5 wr) (fun _ si _ => P.length - (intOf si).toNat)
          case atStart => exact ⟨0, false, rfl, rfl, by omega, by show _ = _; simp, Below.refl _ _⟩
          case round =>
            obtain ⟨i, b2, rfl, rfl, hi, HB2, hb7⟩ := hrel
            by_cases hil : i < P.length
            · obtain ⟨b', o', hAm, x0⟩ := hOm5.sla.at1 (fun _ => rfl) hb7 i (by simpa using hil)
              subst hAm
              have hil' : (i : Int) < P.length := by omega
              have hcm : Hid ((((P.map txt)[i]'(by simpa using hil)).toList == s.toList) = decide (P[i] = q)) := by
                show _ = _
                rw [List.getElem_map, ← HSQ.out]
                exact txt_eq (hAR2.out _ (List.getElem_mem hil)) hqR.out
              have HMM := Lib.hid (mem_more (q := q) i hil)
              obtain ⟨x, hx⟩ : ∃ x, (P.map txt)[i]'(by simpa using hil) = x := ⟨_, rfl⟩
              rw [hx] at hcm x0
              clear hx
              cases b2
              · by_cases hpq : P[i] = q
                · have e1 : (x.toList == s.toList) = true := by rw [hcm.out]; exact decide_eq_true hpq
                  have HD2 : Hid (true = decide (q ∈ P.take (i + 1))) := (decide_eq_true (HMM.out.2 (.inr hpq))).symm
                  clear hpq
                  go_wp2_with fail
                  exact ⟨⟨i + 1, true, by go_num, rfl, by omega, HD2, hb7⟩, by simp [intOf]; omega⟩
                · have e1 : (x.toList == s.toList) = false := by rw [hcm.out]; exact decide_eq_false hpq
                  have HD2 : Hid (false = decide (q ∈ P.take (i + 1))) := (decide_eq_false (fun h => (HMM.out.1 h).elim (fun h => by have := HB2.out; rw [decide_eq_true h] at this; cases this) hpq)).symm
                  clear hpq
                  go_wp2_with fail
                  exact ⟨⟨i + 1, false, by go_num, rfl, by omega, HD2, hb7⟩, by simp [intOf]; omega⟩
              · have HD2 : Hid (true = decide (q ∈ P.take (i + 1))) := (decide_eq_true (HMM.out.2 (.inl (of_decide_eq_true HB2.out.symm)))).symm
                go_wp2_with fail
                exact ⟨⟨i + 1, true, by go_num, rfl, by omega, HD2, hb7⟩, by simp [intOf]; omega⟩
            · have hie : i = P.length := by omega
              have hil' : ¬ (i : Int) < P.length := by omega
              have hBQ : Hid (b2 = decide (q ∈ P)) := by show _ = _; rw [HB2.out, hie, List.take_length]
              have hOm7 := hOm5.below hb7
              have hOl7 := hOl5.below hb7
              have hbw7 : Below w.heap.size w wr := Bst hbw5 hb7
              clear hie
              cases b2
              · have hA : Hid (putK T l (n + 1) = P ++ [q]) := by
                  show _ = _
                  rw [HPS.out]; unfold addP; rw [if_neg (of_decide_eq_false hBQ.out.symm)]
                go_wp2_with (at_builtin; refine app (E := eStr) (w0 := w) _ _ 134 9 (.string .empty) 16 rfl rfl Tryd.underlying134 info_str rfl (by decide) (by decide) (.slice Am P.length cm) (P.map txt) [s] ⟨_, 0, none⟩ 1 1 rfl rfl rfl (hOm7.alloc _) (SlA.new eStr _ _ _ _ (by simp) _ rfl) (Bal hbw7 _) (by have := hPb.out; simp only [List.length_singleton, List.length_map]; omega) ?_; intro v6 w6 HO6 hb8 hg8 _; go_frame)
                refine ⟨⟨n + 1, by go_num, by omega, ?_, ?_, ?_, hb8⟩, by simp [intOf]; omega⟩
                · rw [hA.out, List.map_append, List.map_singleton, HSQ.out]; exact HO6
                · rw [hA.out]
                  have := hAR2.out.addP hqR.out
                  unfold addP at this
                  rwa [if_neg (of_decide_eq_false hBQ.out.symm)] at this
                · exact (hOl7.alloc _).kb (Kb.row (S := (Value.slice Am P.length cm).ownBlock.toList) hg8 (fun g hg => by simp [hg])) fun g hg hm => by
                    have hm' : (Value.slice Am P.length cm).ownBlock = some g := by simpa using hm
                    exact hOl7.apart hOm7 (by decide) hg hm'
              · have hA : Hid (putK T l (n + 1) = P) := by
                  show _ = _
                  rw [HPS.out]; unfold addP; rw [if_pos (of_decide_eq_true hBQ.out.symm)]
                go_wp2_with fail
                refine ⟨⟨n + 1, by go_num, by omega, ?_, ?_, hOl7, hbw7⟩, by simp [intOf]; omega⟩
                · rw [hA.out]; exact hOm7
                · rw [hA.out]; exact hAR2
        · have hne : n = l.length := by omega
          have hnl' : ¬ (n : Int) < l.length := by omega
          have hST : Hid (statesT ((froms xs).take (k + 1)) = putK T l n) := by
            show _ = _
            rw [hFT.out, statesT_snoc, hT.out, hne]; rfl
          have hbd : Hid ((putK T l n).length ≤ (k + 1) * 1048576 + 1) := by
            show _ ≤ _
            have h1 := (putK_len T l n).2
            have h2 := hTL.out
            rw [Nat.add_mul]; omega
          clear hne
          go_wp2
          refine ⟨⟨k + 1, by go_num, by omega, ?_, ?_, ?_, hb5⟩, by simp [intOf]; omega⟩
          · rw [hST.out]; exact hOm
          · rw [hST.out]; exact hAR2
          · rw [hST.out]; exact hbd
    · have hke : k = xs.length := by omega
      have hlt' : ¬ (k : Int) < xs.length := by omega
      have hfr : (froms xs).take k = froms xs := List.take_of_length_le (by simp [froms]; omega)
      rw [hfr] at hO
      obtain ⟨Ao, co, rfl, _, _, _⟩ := hO.slv
      clear hke hfr
      go_wp2
      go_ret
      exact ⟨by simp, hb⟩
end Go.Proofs.YtpccanadijefnaaDoor
/- The machine of rules as one thing: made, asked, told; the document's example of chapter 08. No condition. -/
namespace Go.Proofs.YtpccanadijefnaaDoor
open Go Go.RowKit
theorem sum_map_le {α : Type} (f : α → Nat) (c : Nat) : ∀ l : List α, (∀ x ∈ l, f x ≤ c) → (l.map f).sum ≤ l.length * c
  | [], _ => by simp
  | x :: l, h => by
    have h1 := h x (by simp)
    have h2 := sum_map_le f c l fun y hy => h y (by simp [hy])
    rw [List.map_cons, List.sum_cons, List.length_cons, Nat.succ_mul]; omega
theorem froms_small {xs : List T3} (h : isE xs = 0) : (froms xs).length ≤ 4096 ∧ (statesT (froms xs)).length ≤ 12289 ∧ ∀ f ∈ froms xs, f.length ≤ 3 := by
  obtain ⟨h1, h2⟩ := isE_ok h
  have h3 : ∀ f ∈ froms xs, f.length ≤ 3 := fun f hf => by
    obtain ⟨b, hb, rfl⟩ := List.mem_map.1 hf
    exact (bchk_from (h2 b hb)).2
  have h4 := states_len (froms xs)
  have h5 := sum_map_le List.length 3 (froms xs) h3
  have h6 : (froms xs).length = xs.length := by simp [froms]
  exact ⟨by omega, by omega, h3⟩
theorem new8_c (A : Option Addr) (c : Nat) (xs : List T3) (w : World) (hU : U w) (hs : SlA eT3 w A xs) (hm : Small xs) :
    Calls Tryd.prog 47 #[.slice A xs.length c] w fun e w' => Below w.heap.size w w' ∧ (isE xs = 0 → ∃ M, e = .returned (.tuple #[.pointer (some ⟨M, 0, none⟩), .int .i64 0]) ∧ MM w' M (froms xs)) ∧ (isE xs ≠ 0 → e = .returned (.tuple #[.pointer none, .int .i64 (isE xs)])) :=
  (new_c A c xs w hU hs hm).mono fun e w' ⟨h1, h2, h3⟩ => ⟨h1, fun h0 => by
    obtain ⟨M, v, N, sts, bk, he, hM, hB⟩ := h2 h0
    obtain ⟨k1, k2, _⟩ := froms_small h0
    exact ⟨M, he, _, v, N, sts, bk, hM, hB, by omega, k1⟩, h3⟩
theorem mhits_c (s : ByteArray) (M : Nat) (fs : List (List Int)) (w : World) (hU : U w) (hM : MM w M fs) (hz : s.size ≤ 17592186044416) :
    Calls Tryd.prog 49 #[.pointer (some ⟨M, 0, none⟩), .string s] w (HitPost 68 w fs s) := by
  by_cases h0 : tokE s = 0
  · exact mhits_ok s M fs w hU hM hz h0
  · exact (mhits_err s M w hU hz h0).mono fun e w' ⟨h1, h2⟩ => ⟨h2, fun h => absurd h h0, fun _ => h1⟩
theorem mat8_c (s : ByteArray) (M : Nat) (a : Int) (fs : List (List Int)) (w : World) (hU : U w) (hM : MM w M fs) (hz : s.size ≤ 17592186044416) :
    Calls Tryd.prog 55 #[.pointer (some ⟨M, 0, none⟩), .string s, .int .i64 a] w (AtPost w fs s a) := by
  have hf : fs.length ≤ 4096 := by obtain ⟨_, _, _, _, _, _, _, _, h⟩ := hM; exact h
  exact mat_c M fs s a w hU (by omega) hz (mhits_c s M fs w hU hM hz)
theorem mstates_c (M : Nat) (fs : List (List Int)) (w : World) (hM : MM w M fs) :
    Calls Tryd.prog 52 #[.pointer (some ⟨M, 0, none⟩)] w fun e w' => e = .returned (.int .i64 (statesT fs).length) ∧ w' = w := by
  obtain ⟨base, v, N, sts, bk, h, _⟩ := hM
  exact states_c base M v _ N sts bk _ w h (states_trie fs).pos
theorem mhit_equal (xa xb ya yb : Nat) (w : World) : (Op.equalIn 10000 68 (.agg #[.int .i64 xa, .int .i64 xb]) (.agg #[.int .i64 ya, .int .i64 yb])).run Tryd.prog w = .ok (decide ((xa, xb) = (ya, yb))) w := by
  rw [run_equalIn_agg w 9999 _ _ _ (by kernel_rfl) (by kernel_rfl)]
  have he : decide ((xa, xb) = (ya, yb)) = (decide ((xa : Int) = ya) && decide ((xb : Int) = yb)) := by rw [Bool.eq_iff_iff]; simp; omega
  rw [he]
  simp [go_sem, Op.eqFields, Program.fieldsOf, Tryd.underlying68, Tryd.underlying3]
  by_cases h1 : (xa : Int) = ya <;> by_cases h2 : (xb : Int) = yb <;> simp [h1, h2]
theorem ex_small : Small exR := ⟨by decide, fun b hb => by
  simp only [exR, List.mem_cons, List.not_mem_nil, or_false] at hb
  rcases hb with rfl | rfl <;> decide⟩
set_option maxHeartbeats 1000000 in
set_option maxRecDepth 100000 in
theorem alive8_c (w : World) (hU : U w) : Calls Tryd.prog 46 #[] w (Ret w (.bool true)) := by
  go_enter Tryd.func46, Tryd.ntmps46
  go_wp2_with fail
  refine (new8_c _ _ exR _ (hU.to Bel) (SlA.new _ _ _ _ _ (by simp) _ rfl) ex_small).mono ?_
  rintro e w2 ⟨hb2, h2, _⟩
  obtain ⟨M, rfl, hM⟩ := h2 ex_is
  rw [ex_froms] at hM
  clear h2
  have hb02 : Below w.heap.size w w2 := Bst Bel hb2
  clear hb2
  go_wp2_with fail
  refine (mhits_c _ M _ w2 (hU.to hb02) hM (by decide)).mono ?_
  rintro e w3 ⟨hb3, h3, _⟩
  obtain ⟨v, l, hl, rfl, hO⟩ := h3 ex_tok
  clear h3
  rw [ex_arn] at hl
  obtain rfl : l = [97, 114, 110] := by injection hl with hl; exact hl.symm
  rw [ex_hits] at hO
  obtain ⟨A, c, rfl, hc1, hc2, hA⟩ := hO.slv
  clear hl
  go_wp2_with fail
  refine (mhits_nil _ _).mono ?_
  rintro e w4 ⟨rfl, hb4⟩
  obtain ⟨b, o, rfl, p1, p2⟩ := hA.at2 (fun _ => rfl) hb4 0 (by decide)
  obtain ⟨b', o', e', p3, p4⟩ := hA.at2 (fun _ => rfl) hb4 1 (by decide)
  injection e' with e'
  injection e' with e1 e2
  subst e1; subst e2
  have hM4 := (hM.below hb3).below hb4
  have q1 : ∀ W, (Op.equalIn 10000 68 (.agg #[.int .i64 1, .int .i64 1]) (.agg #[.int .i64 1, .int .i64 1])).run Tryd.prog W = .ok true W := fun W => (mhit_equal 1 1 1 1 W).trans (by simp)
  have q2 : ∀ W, (Op.equalIn 10000 68 (.agg #[.int .i64 2, .int .i64 0]) (.agg #[.int .i64 2, .int .i64 0])).run Tryd.prog W = .ok true W := fun W => (mhit_equal 2 0 2 0 W).trans (by simp)
  simp only [List.getElem_cons_zero, List.getElem_cons_succ, Nat.zero_mul, Nat.one_mul, Nat.add_zero] at p1 p2 p3 p4
  go_wp2_with (go_at_call 52; refine (mstates_c M _ _ hM4).mono ?_; rintro e w5 ⟨rfl, rfl⟩; rw [ex_states])
  go_ret
  exact ⟨rfl, Bst hb02 (Bst hb3 hb4)⟩
end Go.Proofs.YtpccanadijefnaaDoor
/- 'MatchHits' walked. No condition. -/
namespace Go.Proofs.YtpccanadijefnaaDoor
open Go Go.RowKit
theorem great8_no {xs : List T3} {s : ByteArray} (h : great8 xs s = false) : xs.length ≤ 200 ∧ s.size + bulkT xs ≤ 3000 := by
  unfold great8 at h
  rw [Bool.or_eq_false_iff, decide_eq_false_iff_not, decide_eq_false_iff_not] at h
  omega
theorem hits_len8 {fs : List (List Int)} {s : ByteArray} {l : List Int} (h : tokE s = 0) (hd : decS s = some l) (hf : fs.length ≤ 4096) : (hitsL fs l).length ≤ 68157440 := by
  obtain ⟨l', hd', hl'⟩ := tokE_ok h
  rw [hd] at hd'
  injection hd' with e
  subst e
  exact hitsL_len hl' (by omega)
set_option maxHeartbeats 2000000 in
set_option maxRecDepth 100000 in
theorem lhits8_c (A : Option Addr) (c : Nat) (xs : List T3) (s : ByteArray) (a : Int) (w : World) (hU : U w) (hs : SlA eT3 w A xs) (hm : Small xs) (hz : s.size ≤ 1048576) :
    Calls Tryd.prog 13 #[.slice A xs.length c, .string s, .int .i64 a] w (Ret w (.bool true)) := by
  have hl := hm.1
  cases hg : great8 xs s
  all_goals
    have HG := Lib.hid hg
    clear hg
    go_enter Tryd.func13, Tryd.ntmps13
    go_wp2_with fail
    refine (alive8_c _ hU).mono ?_
    rintro e w1 ⟨rfl, hb1⟩
    go_wp2_with fail
    refine (great8_c A c xs s _ (hs.below hb1) hm (by omega)).mono ?_
    rintro e w2 ⟨rfl, hb2⟩
    rw [HG.out]
  · go_wp2_with fail
    refine (new8_c A c xs _ (hU.to Bel) (hs.below Bel) hm).mono ?_
    rintro e w3 ⟨hb3, hn1, hn2⟩
    by_cases h0 : isE xs = 0
    · obtain ⟨M, rfl, hM⟩ := hn1 h0
      have H0 := Lib.hid h0
      clear hn1 hn2
      go_wp2_with fail
      refine (r8is_c A c xs _ (hs.below Bel) hm).mono ?_
      rintro e w4 ⟨rfl, hb4⟩
      rw [h0]
      clear h0
      have hM4 := hM.below hb4
      go_wp2_with (first
        | (go_at_call 52; refine (mstates_c M _ _ hM4).mono ?_; rintro e w5 ⟨rfl, rfl⟩)
        | (go_at_call 53; refine (r8states_c A c xs _ (hs.below Bel) hm).mono ?_; rintro e w6 ⟨rfl, hb6⟩))
      have hM6 := hM4.below hb6
      refine (mhits_c s M _ _ (hU.to Bel) hM6 (by omega)).mono ?_
      rintro e w7 ⟨hb7, h7, h7'⟩
      have hM7 := hM6.below hb7
      have hfl := (froms_small H0.out).1
      by_cases ht : tokE s = 0
      · obtain ⟨v7, l, hd, rfl, hO7⟩ := h7 ht
        have hlen := hits_len8 ht hd hfl
        have HT := Lib.hid ht
        have HD := Lib.hid hd
        obtain ⟨A7, c7, rfl, _, _, hA7⟩ := hO7.slv
        clear h7 h7' ht hd
        go_wp2_with fail
        refine (r8hits_c A c xs s _ (hs.below Bel) hm (by omega)).mono ?_
        rintro e w8 ⟨hb8, h8, _⟩
        obtain ⟨v8, l', hd', rfl, hO8⟩ := h8 HT.out
        obtain rfl : l = l' := by rw [HD.out] at hd'; injection hd'
        obtain ⟨A8, c8, rfl, _, _, hA8⟩ := hO8.slv
        clear h8 hd'
        go_wp2_with fail
        refine (mat8_c s M a _ _ (hU.to Bel) (hM7.below hb8) (by omega)).mono ?_
        rintro e w9 ⟨hb9, h9, h9'⟩
        by_cases ha : atE s a = 0
        · obtain ⟨v9, l9, hd9, rfl, hO9⟩ := h9 ha
          obtain rfl : l = l9 := by rw [HD.out] at hd9; injection hd9
          obtain ⟨A9, c9, rfl, _, _, hA9⟩ := hO9.slv
          have HA := Lib.hid ha
          have hal := atL_len (hitsL (froms xs) l) a
          clear h9 h9' hd9 ha
          go_wp2_with fail
          refine (r8at_c A c xs s a _ (hs.below Bel) hm (by omega)).mono ?_
          rintro e wa ⟨hba, ha1, _⟩
          obtain ⟨va, la, hda, rfl, hOa⟩ := ha1 HA.out
          obtain rfl : l = la := by rw [HD.out] at hda; injection hda
          obtain ⟨Aa, ca, rfl, _, _, hAa⟩ := hOa.slv
          clear ha1 hda
          go_wp2_with fail
          refine (lhits_c A7 c7 _ _ (hA7.below (Bst hb8 (Bst hb9 hba))) hlen).mono ?_
          rintro e wb ⟨vb, rfl, hOb, hbb⟩
          obtain ⟨Ab, cb, rfl, _, _, hAb⟩ := hOb.slv
          go_wp2_with fail
          refine (same8_c Ab A8 cb c8 _ _ _ hAb (hA8.below (Bst hb9 (Bst hba hbb))) (by omega) (by omega)).mono ?_
          rintro e wc ⟨rfl, hbc⟩
          rw [decide_eq_true rfl]
          go_wp2_with fail
          refine (ints_c A9 Aa c9 ca _ _ _ (hA9.below (Bst hba (Bst hbb hbc))) (hAa.below (Bst hbb hbc)) (by omega) (by omega)).mono ?_
          rintro e wd ⟨rfl, hbd⟩
          rw [decide_eq_true rfl]
          go_wp2_with fail
          go_ret
          exact ⟨rfl, Bel⟩
        · obtain ⟨z, hz9⟩ : ∃ z, atE s a = z := ⟨_, rfl⟩
          obtain rfl := h9' ha
          rw [hz9] at ha ⊢
          have HA := Lib.hid ha
          have HZ := Lib.hid hz9
          clear h9 h9' ha hz9
          go_wp2_with fail
          refine (r8at_c A c xs s a _ (hs.below Bel) hm (by omega)).mono ?_
          rintro e wa ⟨hba, _, ha2⟩
          obtain rfl := ha2 (by rw [HZ.out]; exact HA.out)
          rw [HZ.out]
          clear ha2
          go_wp2_with fail
          refine (lhits_c A7 c7 _ _ (hA7.below (Bst hb8 (Bst hb9 hba))) hlen).mono ?_
          rintro e wb ⟨vb, rfl, hOb, hbb⟩
          obtain ⟨Ab, cb, rfl, _, _, hAb⟩ := hOb.slv
          go_wp2_with fail
          refine (same8_c Ab A8 cb c8 _ _ _ hAb (hA8.below (Bst hb9 (Bst hba hbb))) (by omega) (by omega)).mono ?_
          rintro e wc ⟨rfl, hbc⟩
          rw [decide_eq_true rfl]
          go_wp2_with fail
          refine (ints_c none none 0 0 [] [] _ SlA.nil SlA.nil (by simp) (by simp)).mono ?_
          rintro e wd ⟨rfl, hbd⟩
          rw [decide_eq_true rfl]
          go_wp2_with fail
          go_ret
          exact ⟨by simp, Bel⟩
      · obtain ⟨z, hz7⟩ : ∃ z, tokE s = z := ⟨_, rfl⟩
        obtain rfl := h7' ht
        have hat : atE s a = z := by unfold atE; rw [if_pos ht, hz7]
        rw [hz7] at ht ⊢
        have HT := Lib.hid ht
        have HZ := Lib.hid hz7
        have HA := Lib.hid hat
        clear h7 h7' ht hz7 hat
        go_wp2_with fail
        refine (r8hits_c A c xs s _ (hs.below Bel) hm (by omega)).mono ?_
        rintro e w8 ⟨hb8, _, h8⟩
        obtain rfl := h8 (by rw [HZ.out]; exact HT.out)
        rw [HZ.out]
        clear h8
        go_wp2_with fail
        refine (mat8_c s M a _ _ (hU.to Bel) (hM7.below hb8) (by omega)).mono ?_
        rintro e w9 ⟨hb9, _, h9⟩
        obtain rfl := h9 (by rw [HA.out]; exact HT.out)
        rw [HA.out]
        clear h9
        go_wp2_with fail
        refine (r8at_c A c xs s a _ (hs.below Bel) hm (by omega)).mono ?_
        rintro e wa ⟨hba, _, ha2⟩
        obtain rfl := ha2 (by rw [HA.out]; exact HT.out)
        rw [HA.out]
        clear ha2
        go_wp2_with fail
        refine (lhits_c none 0 [] _ SlA.nil (by simp)).mono ?_
        rintro e wb ⟨vb, rfl, hOb, hbb⟩
        obtain ⟨Ab, cb, rfl, _, _, hAb⟩ := hOb.slv
        go_wp2_with fail
        refine (same8_c Ab none cb 0 [] [] _ hAb SlA.nil (by simp) (by simp)).mono ?_
        rintro e wc ⟨rfl, hbc⟩
        rw [decide_eq_true rfl]
        go_wp2_with fail
        refine (ints_c none none 0 0 [] [] _ SlA.nil SlA.nil (by simp) (by simp)).mono ?_
        rintro e wd ⟨rfl, hbd⟩
        rw [decide_eq_true rfl]
        go_wp2_with fail
        go_ret
        exact ⟨by simp, Bel⟩
    · obtain ⟨z, hz3⟩ : ∃ z, isE xs = z := ⟨_, rfl⟩
      obtain rfl := hn2 h0
      rw [hz3] at h0 ⊢
      have HZ := Lib.hid hz3
      clear hn1 hn2 hz3
      go_wp2_with fail
      refine (r8is_c A c xs _ (hs.below Bel) hm).mono ?_
      rintro e w4 ⟨rfl, hb4⟩
      rw [HZ.out]
      go_wp2_with fail
      go_ret
      exact ⟨by simp, Bel⟩
  · go_wp2
    go_ret
    exact ⟨rfl, Bel⟩
end Go.Proofs.YtpccanadijefnaaDoor
