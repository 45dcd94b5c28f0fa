/- The reference's Table, Total and Find; CountTables walked. No condition. -/
import Derived.Test.YtpccanadijefnaaDoorGathk
import Derived.Test.YtpccanadijefnaaDoorMks7k
namespace Go.Proofs.YtpccanadijefnaaDoor
open Go Go.RowKit
theorem Tab.of {l ys : List T3} (h : Tab l ys) : TabOf l ys := by
  have hA := rise_aps h.rise
  have hn : ∀ {l : List T3}, ApS l → l.Nodup := fun {l} ha => List.Pairwise.imp (fun {a b} hab (e : a = b) => hab (by subst e; exact ⟨rfl, rfl⟩)) ha
  refine ⟨(List.perm_ext_iff_of_nodup (hn hA) (hn (gath_aps l))).2 fun b => ?_, h.rise.imp fun {a b} hab => ?_⟩
  · rw [h.mem]
    constructor
    · rintro ⟨h1, h2⟩
      obtain ⟨x, hx, e⟩ := List.mem_map.1 ((gath_keys l _).2 h1)
      injection e with e1 e2
      have h3 := tot_mem (gath_aps l) hx
      rw [gath_tot, e1, e2] at h3
      have : x = b := by cases x; cases b; simp_all
      exact this ▸ hx
    · intro hb
      refine ⟨(gath_keys l _).1 (mem_keys hb), ?_⟩
      have h3 := tot_mem (gath_aps l) hb
      rw [gath_tot] at h3
      exact h3.symm
  · cases e : ltT b a
    · rfl
    · have := ltT_trans hab e
      rw [ltT_irrefl] at this; cases this
set_option maxHeartbeats 2000000 in
set_option maxRecDepth 100000 in
theorem r6tab_c (A : Option Addr) (c : Nat) (xs : List T3) (w : World) (hs : SlA eT3 w A xs) (hm : Small xs) :
    Calls Tryd.prog 32 #[.slice A xs.length c] w (TabPost w xs) := by
  have hl := hm.1
  go_enter Tryd.func32, Tryd.ntmps32
  go_wp2
  go_loopw [2, 3, 10] (fun _ _ i wr => ∃ k : Nat, k ≤ xs.length ∧ i = .int .i64 k ∧ Hid (eachT (xs.drop k) = eachT xs) ∧ Below w.heap.size w wr) (fun _ _ i _ => xs.length - (intOf i).toNat)
  case atStart => exact ⟨0, by omega, rfl, rfl, Bel⟩
  case round =>
    obtain ⟨k, hk, rfl, HE, hb⟩ := hrel
    by_cases hlt : k < xs.length
    · obtain ⟨b, o, rfl, c1, c2, c3⟩ := hs.at3 (fun _ => rfl) hb k hlt
      have hd := each_drop xs k hlt
      obtain ⟨z1, z2⟩ := hm.at k hlt
      by_cases hz : bchk xs[k] = 0
      · rw [if_pos hz] at hd
        have HD := Lib.hid hd; have HZ := Lib.hid hz
        clear hd hz
        go_wp2_with (go_at_call 74; refine (r5chk_c xs[k] _ (by omega) (by omega)).mono ?_; rintro e w2 ⟨rfl, hb2⟩; rw [HZ.out])
        go_roundw
        case rel => exact ⟨k + 1, by omega, by go_num, HD.out.symm.trans HE.out, Bel⟩
        case measure => simp [intOf]; omega
      · rw [if_neg hz] at hd
        have hn : (bchk xs[k] != 0) = true := by simp [hz]
        have HV : Hid (tabE xs = bchk xs[k] ∧ tabE xs ≠ 0) := by
          have h := hd.symm.trans HE.out
          have h2 : tabE xs = bchk xs[k] := by unfold tabE; rw [← h, if_pos hz]
          exact ⟨h2, by rw [h2]; exact hz⟩
        clear hd hz
        go_wp2_with (go_at_call 74; refine (r5chk_c xs[k] _ (by omega) (by omega)).mono ?_; rintro e w2 ⟨rfl, hb2⟩)
        go_ret2
        exact ⟨[], _, by rw [HV.out.1]; rfl, SlV.nil, Bel, fun h => absurd h HV.out.2, fun _ => rfl⟩
    · have he : eachT xs = 0 := by have h := HE.out; rw [List.drop_of_length_le (by omega)] at h; exact h.symm
      have HN := Lib.hid (fun b hb => by have := bchk_n b ((each_all xs).1 he b hb); omega : ∀ b ∈ xs, 0 ≤ b.n ∧ b.n ≤ 1073741824)
      have HZ := Lib.hid he
      clear HE he
      go_wp2_with fail
      refine (r6gath_c A c xs _ (hs.below Bel) hm HN.out).mono ?_
      rintro e w3 ⟨v, ys, rfl, hys, hb3, HT, hyl⟩
      replace HT := Lib.hid HT
      obtain ⟨A1, c1, rfl, hc11, hc12, hys1⟩ := hys
      have hlen := Lib.hid HT.out.of.len
      by_cases h4 : 4096 < ys.length
      · have h4i : (4096 : Int) < ys.length := by omega
        have HV : Hid (tabE xs = 6) := by
          show tabE xs = 6
          unfold tabE
          rw [if_neg (by simp [HZ.out]), ← hlen.out, if_pos h4]; split <;> rfl
        go_wp2_with (go_at_call 70; refine (r6sum_c A c xs _ (hs.below Bel) (by omega) HN.out).mono ?_; rintro e w4 ⟨rfl, hb4⟩)
        go_ret2
        exact ⟨[], _, by rw [HV.out]; rfl, SlV.nil, Bel, fun h => absurd (HV.out.symm.trans h) (by decide), fun _ => rfl⟩
      · have h4i : ¬ (4096 : Int) < ys.length := by omega
        by_cases h5 : 1073741824 < sumT xs
        · have HV : Hid (tabE xs = 6) := by
            show tabE xs = 6
            unfold tabE
            rw [if_neg (by simp [HZ.out]), if_pos h5]
          go_wp2_with (go_at_call 70; refine (r6sum_c A c xs _ (hs.below Bel) (by omega) HN.out).mono ?_; rintro e w4 ⟨rfl, hb4⟩)
          go_ret2
          exact ⟨[], _, by rw [HV.out]; rfl, SlV.nil, Bel, fun h => absurd (HV.out.symm.trans h) (by decide), fun _ => rfl⟩
        · have HV : Hid (tabE xs = 0) := by
            show tabE xs = 0
            unfold tabE
            rw [if_neg (by simp [HZ.out]), if_neg h5, ← hlen.out, if_neg h4]
          go_wp2_with (go_at_call 70; refine (r6sum_c A c xs _ (hs.below Bel) (by omega) HN.out).mono ?_; rintro e w4 ⟨rfl, hb4⟩)
          go_ret2
          exact ⟨ys, _, by rw [HV.out]; rfl, ⟨A1, c1, rfl, hc11, hc12, hys1.below Bel⟩, Bel, fun _ => HT.out.of, fun h => absurd HV.out h⟩
set_option maxHeartbeats 1000000 in
set_option maxRecDepth 100000 in
theorem r6tot_c (A : Option Addr) (c : Nat) (xs : List T3) (w : World) (hs : SlA eT3 w A xs) (hm : Small xs) :
    Calls Tryd.prog 43 #[.slice A xs.length c] w (Ret w (totV xs)) := by
  have hl := hm.1
  by_cases h0 : tchk xs = 0
  · have hz := tchk_zero h0
    have hn : ∀ b ∈ xs, 0 ≤ b.n ∧ b.n ≤ 1073741824 := fun b hb => by have := bchk_n b ((each_all xs).1 hz.1 b hb); omega
    have HT : Hid (totV xs = .tuple #[.int .i64 (sumT xs), .int .i64 0]) := by unfold totV; rw [h0]; rfl
    have HE := Lib.hid h0
    have HN := Lib.hid hn
    clear h0 hz hn
    go_enter Tryd.func43, Tryd.ntmps43
    go_wp2_with (first
      | (go_at_call 45; refine (r6chk_c A c xs _ hs hm).mono ?_; rintro e w1 ⟨rfl, hb1⟩; rw [HE.out])
      | (go_at_call 70; refine (r6sum_c A c xs _ (hs.below Bel) (by omega) HN.out).mono ?_; rintro e w2 ⟨rfl, hb2⟩))
    go_ret2
    exact ⟨by rw [HT.out]; rfl, Bel⟩
  · have hn : (tchk xs != 0) = true := by simp [h0]
    have HT : Hid (totV xs = .tuple #[.int .i64 0, .int .i64 (tchk xs)]) := by unfold totV; rw [if_neg h0]; rfl
    clear h0
    go_enter Tryd.func43, Tryd.ntmps43
    go_wp2_with (go_at_call 45; refine (r6chk_c A c xs _ hs hm).mono ?_; rintro e w1 ⟨rfl, hb1⟩)
    go_ret2
    exact ⟨by rw [HT.out]; rfl, Bel⟩
set_option maxHeartbeats 1000000 in
set_option maxRecDepth 100000 in
theorem r6find_c (A : Option Addr) (c : Nat) (xs : List T3) (f t : ByteArray) (w : World) (hs : SlA eT3 w A xs) (hm : Small xs) :
    Calls Tryd.prog 44 #[.slice A xs.length c, .string f, .string t] w (Ret w (findV xs f t)) := by
  have hl := hm.1
  by_cases h0 : tchk xs = 0
  · have hz := tchk_zero h0
    have hA := rise_aps (of_rise hz.2.1)
    have HT : Hid (findV xs f t = .tuple #[.int .i64 (tot xs f t), .int .i64 0]) := by
      show findV xs f t = _
      unfold findV; rw [h0]; rfl
    have HE := Lib.hid h0
    have HA := Lib.hid hA
    clear h0 hz hA
    go_enter Tryd.func44, Tryd.ntmps44
    go_wp2_with (go_at_call 45; refine (r6chk_c A c xs _ hs hm).mono ?_; rintro e w1 ⟨rfl, hb1⟩; rw [HE.out])
    go_loopw [6, 7, 18] (fun _ _ i wr => ∃ k : Nat, k ≤ xs.length ∧ i = .int .i64 k ∧ Hid (tot (xs.take k) f t = 0) ∧ Hid (∀ b ∈ xs.take k, ¬ (b.f = f ∧ b.t = t)) ∧ Below w.heap.size w wr) (fun _ _ i _ => xs.length - (intOf i).toNat)
    case atStart => exact ⟨0, by omega, rfl, by show tot _ _ _ = 0; simp [tot_nil], fun b hb => by simp at hb, Bel⟩
    case round =>
      obtain ⟨k, hk, rfl, H0, HM, hb⟩ := hrel
      by_cases hlt : k < xs.length
      · obtain ⟨b, o, rfl, c1, c2, c3⟩ := hs.at3 (fun _ => rfl) hb k hlt
        have e1 := str_eq xs[k].f f
        have e2 := str_eq xs[k].t t
        obtain ⟨b1, hb1'⟩ : ∃ b1, decide (xs[k].f = f) = b1 := ⟨_, rfl⟩
        obtain ⟨b2, hb2'⟩ : ∃ b2, decide (xs[k].t = t) = b2 := ⟨_, rfl⟩
        rw [hb1'] at e1
        rw [hb2'] at e2
        have HSM : Hid ((b1 && b2) = true ↔ (xs[k].f = f ∧ xs[k].t = t)) := by
          show _ ↔ _
          rw [← hb1', ← hb2']; simp
        clear hb1' hb2'
        cases b1 <;> cases b2
        case true.true =>
          have HV : Hid (xs[k].n = tot xs f t) := by
            show xs[k].n = tot xs f t
            obtain ⟨q1, q2⟩ := HSM.out.1 rfl
            rw [← tot_mem HA.out (List.getElem_mem hlt), q1, q2]
          go_wp2
          go_ret2
          exact ⟨by rw [HT.out, ← HV.out]; rfl, Bel⟩
        all_goals
          have HQ : Hid (¬ (xs[k].f = f ∧ xs[k].t = t)) := fun h => by have := HSM.out.2 h; simp at this
          go_wp2
          go_roundw
          case rel =>
            refine ⟨k + 1, by omega, by go_num, ?_, ?_, Bel⟩
            · show tot _ _ _ = 0
              rw [tot_take xs f t k hlt, H0.out, if_neg HQ.out]; rfl
            · intro x hx
              rw [List.take_succ_eq_append_getElem hlt] at hx
              rcases List.mem_append.1 hx with hx | hx
              · exact HM.out x hx
              · obtain rfl := List.mem_singleton.1 hx; exact HQ.out
          case measure => simp [intOf]; omega
      · have HV : Hid (tot xs f t = 0) := by
          have h := H0.out
          rw [List.take_of_length_le (by omega)] at h; exact h
        go_wp2
        go_ret2
        exact ⟨by rw [HT.out, HV.out]; rfl, Bel⟩
  · have hn : (tchk xs != 0) = true := by simp [h0]
    have HT : Hid (findV xs f t = .tuple #[.int .i64 0, .int .i64 (tchk xs)]) := by
      show findV xs f t = _
      unfold findV; rw [if_neg h0]
    clear h0
    go_enter Tryd.func44, Tryd.ntmps44
    go_wp2_with (go_at_call 45; refine (r6chk_c A c xs _ hs hm).mono ?_; rintro e w1 ⟨rfl, hb1⟩)
    go_ret2
    exact ⟨by rw [HT.out]; rfl, Bel⟩
/-- Two tables of one list are the same. -/
theorem TabOf.uniq {l ys zs : List T3} (h : TabOf l ys) (k : TabOf l zs) : ys = zs := h.perm k (List.Perm.refl _)
theorem TabOf.le {l ys : List T3} (h : TabOf l ys) : ys.length ≤ l.length := by rw [h.len]; exact gath_len l
set_option maxHeartbeats 1000000 in
set_option maxRecDepth 100000 in
theorem tables_c (A : Option Addr) (c : Nat) (xs : List T3) (f t : ByteArray) (w : World) (hU : U w) (hs : SlA eT3 w A xs) (hm : Small xs) :
    Calls Tryd.prog 10 #[.slice A xs.length c, .string f, .string t] w (Ret w (.bool true)) := by
  have hl := hm.1
  cases hg : greatT xs
  · have HG := Lib.hid hg
    clear hg
    obtain ⟨T, HT⟩ : ∃ T, Hid (totV xs = .tuple #[.int .i64 T, .int .i64 (tchk xs)]) := ⟨_, rfl⟩
    obtain ⟨F, HF⟩ : ∃ T, Hid (findV xs f t = .tuple #[.int .i64 T, .int .i64 (tchk xs)]) := ⟨_, rfl⟩
    have htot := fun W hU hs => (total_c A c xs W hU hs hm)
    have hrtot := fun W hs => (r6tot_c A c xs W hs hm)
    have hfin := fun W hU hs => (find_c A c xs f t W hU hs hm)
    have hrfin := fun W hs => (r6find_c A c xs f t W hs hm)
    have htc := fun W hU hs => (tchk_c A c xs W hU hs hm)
    have hrtc := fun W hs => (r6chk_c A c xs W hs hm)
    rw [HT.out] at htot hrtot
    rw [HF.out] at hfin hrfin
    generalize tchk xs = K at htot hrtot hfin hrfin htc hrtc
    replace htot := Lib.hid htot; replace hrtot := Lib.hid hrtot; replace hfin := Lib.hid hfin; replace hrfin := Lib.hid hrfin; replace htc := Lib.hid htc; replace hrtc := Lib.hid hrtc
    go_enter Tryd.func10, Tryd.ntmps10
    go_wp2_with (first
      | (go_at_call 35; refine (alive_c _ (hU.to Bel)).mono ?_; rintro e w1 ⟨rfl, hb1⟩)
      | (go_at_call 36; refine (great_c A c xs _ (hs.below Bel) hm).mono ?_; rintro e w2 ⟨rfl, hb2⟩; rw [HG.out])
      | (go_at_call 37; refine (tab_c A c xs _ (hU.to Bel) (hs.below Bel) hm).mono ?_; rintro e w3 ⟨ys, r, rfl, hys, hb3, hok, hno⟩; obtain ⟨A1, c1, rfl, hc11, hc12, hys1⟩ := hys; have HOK := Lib.hid (And.intro hok hno); clear hok hno)
      | (go_at_call 32; refine (r6tab_c A c xs _ (hs.below Bel) hm).mono ?_; rintro e w4 ⟨zs, r, rfl, hzs, hb4, hok, hno⟩; obtain ⟨A2, c2, rfl, hc21, hc22, hzs1⟩ := hzs; have HOK2 := Lib.hid (And.intro hok hno); clear hok hno)
      | (go_at_call 38; refine (htot.out _ (hU.to Bel) (hs.below Bel)).mono ?_; rintro e w5 ⟨rfl, hb5⟩)
      | (go_at_call 43; refine (hrtot.out _ (hs.below Bel)).mono ?_; rintro e w6 ⟨rfl, hb6⟩)
      | (go_at_call 34; refine (hfin.out _ (hU.to Bel) (hs.below Bel)).mono ?_; rintro e w7 ⟨rfl, hb7⟩)
      | (go_at_call 44; refine (hrfin.out _ (hs.below Bel)).mono ?_; rintro e w8 ⟨rfl, hb8⟩; have HE : Hid (ys = zs ∧ ys.length ≤ xs.length) := by {
          by_cases h0 : tabE xs = 0
          · exact ⟨(HOK.out.1 h0).uniq (HOK2.out.1 h0), (HOK.out.1 h0).le⟩
          · rw [HOK.out.2 h0, HOK2.out.2 h0]; exact ⟨rfl, by simp⟩ })
      | (go_at_call 39; refine (same_c A1 A2 c1 c2 ys zs _ (hys1.below Bel) (hzs1.below Bel) (by have := HE.out.2; omega) (by have := HE.out.2; rw [← HE.out.1]; omega)).mono ?_; rintro e w9 ⟨rfl, hb9⟩; rw [HE.out.1, same_refl])
      | (go_at_call 40; refine (htc.out _ (hU.to Bel) (hs.below Bel)).mono ?_; rintro e wa ⟨rfl, hba⟩)
      | (go_at_call 45; refine (hrtc.out _ (hs.below Bel)).mono ?_; rintro e wb ⟨rfl, hbb⟩))
    go_ret
    exact ⟨rfl, Bel⟩
  · go_enter Tryd.func10, Tryd.ntmps10
    go_wp2_with (first
      | (go_at_call 35; refine (alive_c _ (hU.to Bel)).mono ?_; rintro e w1 ⟨rfl, hb1⟩)
      | (go_at_call 36; refine (great_c A c xs _ (hs.below Bel) hm).mono ?_; rintro e w2 ⟨rfl, hb2⟩; rw [hg]))
    go_ret
    exact ⟨rfl, Bel⟩
end Go.Proofs.YtpccanadijefnaaDoor
