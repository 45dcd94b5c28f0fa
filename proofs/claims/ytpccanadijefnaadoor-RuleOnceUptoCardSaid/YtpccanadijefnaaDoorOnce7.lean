/- 'RuleOnce' walked. No condition. -/
import Derived.Test.YtpccanadijefnaaDoorNms7
import Derived.Test.YtpccanadijefnaaDoorOrd6
namespace Go.Proofs.YtpccanadijefnaaDoor
open Go Go.RowKit
theorem NrmOut.few {xs ys : List T3} {r : Int} (h : NrmOut xs ys r) (hl : xs.length ≤ 4096) : (allR xs ≠ 0 ∧ r = allR xs ∧ ys = []) ∨ (allR xs = 0 ∧ r = 0 ∧ Nrm xs ys ∧ ys.length ≤ xs.length) := by
  rcases h with h | ⟨h1, zs, h2, h3, ⟨h4, _⟩ | ⟨_, h5, h6⟩⟩
  · exact .inl h
  · omega
  · subst h6; exact .inr ⟨h1, h5, h2, h3⟩
theorem allR_all {l : List T3} : allR l = 0 ↔ ∀ x ∈ l, rchk x = 0 := (allR_zero l).trans errR_nil
theorem isE_bad {l : List T3} (h : allR l ≠ 0) : isE l = allR l := by
  unfold isE
  rw [if_pos (fun e => h ((allR_zero l).2 e))]; rfl
theorem great_len {l : List T3} (h : greatT l = false) : l.length ≤ 500 := by
  unfold greatT at h
  simp at h; omega
/-- Each rule's cost, as it is found. -/
theorem nrm_find {xs ys : List T3} (h : Nrm xs ys) (h0 : isE ys = 0) {r : T3} (hr : r ∈ xs) : ∃ y ∈ ys, SameS y r ∧ rfindV ys r.f r.t = .tuple #[.int .i64 y.n, .int .i64 0] := by
  obtain ⟨y, hy, hs⟩ := key_mem ((h.keys (r.f, r.t)).2 (mem_keys hr))
  refine ⟨y, hy, hs, ?_⟩
  obtain ⟨i, hi, e⟩ := List.getElem_of_mem hy
  unfold rfindV
  rw [if_neg (by simp [h0]), cost_at (rise_aps h.rise) hi (by rw [e]; exact hs), e]
theorem rchk_n {x : T3} (h : rchk x = 0) : 1 ≤ x.n ∧ x.n ≤ 255 := by
  unfold rchk at h
  split at h
  · rename_i h1; exact absurd h h1
  · split at h
    · cases h
    · omega
set_option maxHeartbeats 3000000 in
set_option maxRecDepth 100000 in
theorem once_c (A : Option Addr) (c n : Nat) (xs : List T3) (w : World) (hU : U w) (hs : SlA eT3 w A xs) (hm : Small xs) (hAc : A = none → c = 0) (hn : n < 65536) (hc : xs.length ≤ c) (hc2 : c ≤ 9223372036854775807) :
    Calls Tryd.prog 18 #[.slice A xs.length c, .int .u16 n] w (Ret w (.bool true)) := by
  have hl := hm.1
  cases hg : greatT xs
  all_goals
    have HG := Lib.hid hg
    clear hg
    go_enter Tryd.func18, Tryd.ntmps18
    go_wp2_with fail
    refine (alive7_c _ (hU.to Bel)).mono ?_
    rintro e w1 ⟨rfl, hb1⟩
    go_wp2_with fail
    refine (rgreat_c A c xs _ (hs.below Bel) hm).mono ?_
    rintro e w2 ⟨rfl, hb2⟩
    rw [HG.out]
  · have hfew := great_len HG.out
    go_wp2_with fail
    refine (norm_c A c xs _ (hU.to Bel) (hs.below Bel) hm).mono ?_
    rintro e w3 ⟨A1, c1, ys, r, rfl, hs1, hb3, hyl, hout⟩
    have hsm := NrmOut.small (r := r) hout hm
    rcases NrmOut.few (r := r) hout (by omega) with ⟨q1, rfl, rfl⟩ | ⟨q1, rfl, hN, _⟩
    · clear hout
      have hb0 : (allR xs != 0) = true := by simp [q1]
      have HI := Lib.hid (isE_bad q1)
      go_wp2_with fail
      refine (is_c A c xs _ (hU.to Bel) (hs.below Bel) hm).mono ?_
      rintro e w4 ⟨rfl, hb4⟩
      rw [HI.out]
      go_wp2
      go_ret
      exact ⟨rfl, Bel⟩
    · clear hout
      have HN := Lib.hid hN
      have hall := Lib.hid (allR_all.1 q1)
      have his := Lib.hid (hN.is q1 (by omega))
      have hysame := Lib.hid (same_self ys)
      have hay : Hid (allR ys = 0) := allR_all.2 fun y hy => hall.out y (hN.mem y hy)
      have hself := Lib.hid (Nrm.self hN.rise)
      have hpm := rot_perm xs n
      clear hN q1 hpm
      go_wp2_with fail
      obtain ⟨k, hk, hkl⟩ : ∃ k : Nat, (n : Int) % ((xs.length : Int) + 1) = k ∧ k ≤ xs.length := ⟨n % (xs.length + 1), by push_cast; rfl, by have := Nat.mod_lt n (show 0 < xs.length + 1 by omega); omega⟩
      simp only [hk]
      have hb3' : Below w.heap.size w w3 := Bel
      have hsW := hs.below hb3'
      have hk1 : (k : Int) ≤ xs.length := by omega
      have hk2 : (k : Int) ≤ c := by omega
      have hk0 : (0 : Int) ≤ k := by omega
      have hpm := rot_perm xs k
      have hrsm := small_perm hpm hm
      have hlen := Lib.hid hpm.length_eq.symm
      have HPM := Lib.hid hpm
      have hcall : ∀ A2 c2 W, U W → SlA eT3 W A2 (xs.drop k ++ xs.take k) → Calls Tryd.prog 62 #[.slice A2 xs.length c2] W fun e W' => ∃ A c, e = .returned (.tuple #[.slice A ys.length c, .int .i64 0]) ∧ SlA eT3 W' A ys ∧ Below W.heap.size W W' := fun A2 c2 W hU hs => by
        have h := norm_c A2 c2 (xs.drop k ++ xs.take k) W hU hs hrsm
        rw [hlen.out] at h
        refine h.mono ?_
        rintro e W' ⟨A, c, zs, r, rfl, h1, h2, h3, h4⟩
        rcases NrmOut.few (r := r) h4 (by rw [hlen.out]; omega) with ⟨q1, _⟩ | ⟨_, rfl, q2, _⟩
        · exact absurd (allR_all.2 fun x hx => hall.out x (HPM.out.mem_iff.2 hx)) q1
        · obtain rfl := q2.uniq HN.out fun x => HPM.out.mem_iff.symm
          exact ⟨A, c, rfl, h1, h2⟩
      have HCL := Lib.hid hcall
      clear hk hpm hcall
      cases A with
      | none =>
        obtain rfl := hAc rfl
        obtain rfl : xs = [] := List.eq_nil_of_length_eq_zero (by omega)
        obtain rfl : k = 0 := by simpa using hkl
        refine region_seqP [(1, true), (2, true), (3, true), (5, true), (6, true), (7, true), (0, false), (4, false), (8, false), (9, false), (10, true), (11, true), (12, true), (13, true), (14, true)] (by kernel_rfl) (by kernel_rfl) ?_
        intro W hW
        repeat (refine seq_q rfl (fun K hK => ?_); unfold takeQ; go_simp; refine hK _ ?_; clear hK K)
        refine seq_t rfl (fun K hK => ?_)
        go_simp
        refine hK _ _ (.of Bel) ?_
        clear hK K
        refine seq_t rfl (fun K hK => ?_)
        rw [if_pos (wanted_none rfl _)]
        refine app_none (E := eT3) _ _ 26 33 rfl Tryd.underlying26 info_rule _ [] rfl rfl (Own.lit eT3 W.heap.size 33 W (Nat.le_refl _)) ?_
        refine hK _ _ (.of Bel) ?_
        clear hK K
        refine seq_t rfl (fun K hK => ?_)
        rw [if_pos (wanted_none rfl _)]
        refine app_none (E := eT3) _ _ 26 33 rfl Tryd.underlying26 info_rule _ [] rfl rfl (Own.lit eT3 W.heap.size 33 W (Nat.le_refl _)) ?_
        refine hK _ _ (.of Bel) ?_
        clear hK K
        have hb6 : Below W.heap.size W (W.alloc (.cells #[] 33)) := Bel
        refine seq_t rfl (fun K hK => ?_)
        go_simp
        go_at_call 62
        refine (HCL.out _ _ _ (hU.to (Bst hb3' (Bst hW hb6))) SlA.nil).mono ?_
        rintro e w7 ⟨A2, c2, rfl, hs2, hb7⟩
        go_simp
        refine hK _ _ (.of Bel) ?_
        clear hK K
        repeat (refine seq_q rfl (fun K hK => ?_); unfold takeQ; go_simp; refine hK _ ?_; clear hK K)
        refine seq_nil ?_
        rw [noP_normal]
        have hb7' : Below w3.heap.size w3 w7 := Bst hW (Bst hb6 hb7)
        go_wp2_with fail
        refine (norm_c A1 c1 ys _ (hU.to (Bst hb3' hb7')) (hs1.below hb7') hsm).mono ?_
        rintro e w8 ⟨A3, c3, zs, r3, rfl, hs3, hb8, _, hout3⟩
        rcases NrmOut.few (r := r3) hout3 (by omega) with ⟨q1, _⟩ | ⟨_, rfl, q2, _⟩
        · exact absurd hay.out q1
        obtain rfl := q2.uniq hself.out fun x => Iff.rfl
        clear hout3 q2
        have hb38 : Below w3.heap.size w3 w8 := Bst hb7' hb8
        have hb8w : Below w.heap.size w w8 := Bst hb3' hb38
        have hU8 := hU.to hb8w
        have hs18 := hs1.below hb38
        have hs28 := hs2.below hb8
        have hs8 := hs.below hb8w
        clear hs1 hs2 hsW hb7 hW
        go_wp2_with fail
        refine (is_c A1 c1 zs _ (hU8.to Bel) (hs18.below Bel) hsm).mono ?_
        rintro e w9 ⟨rfl, hb9⟩
        rw [his.out]
        go_wp2_with fail
        refine (rsame_c A1 A2 c1 c2 zs zs _ (hs18.below Bel) (hs28.below Bel) (by omega) (by omega)).mono ?_
        rintro e w10 ⟨rfl, hb10⟩
        rw [hysame.out]
        go_wp2_with fail
        refine (rsame_c A1 A3 c1 c3 zs zs _ (hs18.below Bel) (hs3.below Bel) (by omega) (by omega)).mono ?_
        rintro e w11 ⟨rfl, hb11⟩
        rw [hysame.out]
        go_wp2_with fail
        have hb811 : Below w8.heap.size w8 w11 := Bel
        have hs111 := hs18.below hb811
        have hs11 := hs8.below hb811
        have hU11 := hU8.to hb811
        have hb11w : Below w.heap.size w w11 := Bst hb8w hb811
        clear hs18 hs28 hs3 hs8 hU8 hb9 hb10 hb11 hb811 hb38 hb7'
        go_loopw [87] (fun s wr => s = .int .i64 0 ∧ Below w11.heap.size w11 wr) (fun _ _ => 0)
        case atStart => exact ⟨rfl, Below.refl _ _⟩
        case round =>
          obtain ⟨rfl, hb⟩ := hrel
          go_wp2
          go_ret
          exact ⟨rfl, Bst hb11w hb⟩
      | some ad =>
        have hpart : SlA eT3 w3 (some (if c = k then ad else ad.add (k * 3))) (xs.drop k) := by
          split
          · rw [List.drop_of_length_le (by omega)]; exact SlA.nil
          · exact hsW.part k 3 rfl
        have htake : SlA eT3 w3 (some ad) (xs.take k) := hsW.take k
        have hdl : Hid (xs.length - k = (xs.drop k).length) := (List.length_drop).symm
        have htl : Hid (k = (xs.take k).length) := show k = (xs.take k).length by simp; omega
        by_cases hck : c = k
        all_goals
          first | rw [if_pos hck] at hpart | rw [if_neg hck] at hpart
          refine region_seqP [(1, true), (2, true), (3, true), (5, true), (6, true), (7, true), (0, false), (4, false), (8, false), (9, false), (10, true), (11, true), (12, true), (13, true), (14, true)] (by kernel_rfl) (by kernel_rfl) ?_
          intro W hW
          repeat (refine seq_q rfl (fun K hK => ?_); unfold takeQ; go_simp; refine hK _ ?_; clear hK K)
          refine seq_t rfl (fun K hK => ?_)
          go_simp
          refine hK _ _ (.of Bel) ?_
          clear hK K
          refine seq_t rfl (fun K hK => ?_)
          rw [if_pos (wanted_none rfl _)]
          refine app_op (E := eT3) (w0 := W) _ _ 26 33 (.agg #[.string .empty, .string .empty, .int .i64 0]) 40 rfl rfl Tryd.underlying26 info_rule rfl (by decide) (by decide) _ [] (xs.drop k) _ _ _ rfl rfl hdl.out (Own.lit eT3 W.heap.size 33 W (Nat.le_refl _)) (hpart.below Bel) Bel (by simp; omega) ?_
          intro v1 w5 HO5 hb5 hg5 hm5
          rw [List.nil_append] at HO5
          refine hK _ _ (.of hb5) ?_
          clear hK K
          refine seq_t rfl (fun K hK => ?_)
          rw [if_pos (wanted_none rfl _)]
          refine app_op (E := eT3) (w0 := W) _ _ 26 33 (.agg #[.string .empty, .string .empty, .int .i64 0]) 40 rfl rfl Tryd.underlying26 info_rule rfl (by decide) (by decide) _ (xs.drop k) (xs.take k) _ _ _ rfl rfl htl.out HO5 (htake.below Bel) Bel (by simp; omega) ?_
          intro v2 w6 HO6 hb6 hg6 hm6
          refine hK _ _ (.of hb6) ?_
          clear hK K
          obtain ⟨A4, c4, hv2, hc21, hc22, hS6⟩ := HO6.slv
          rw [hlen.out] at hv2
          subst hv2
          refine seq_t rfl (fun K hK => ?_)
          go_simp
          go_at_call 62
          refine (HCL.out _ _ _ (hU.to (Bst hb3' (Bst hW hb6))) hS6).mono ?_
          rintro e w7 ⟨A2, c2, rfl, hs2, hb7⟩
          go_simp
          refine hK _ _ (.of Bel) ?_
          clear hK K
          repeat (refine seq_q rfl (fun K hK => ?_); unfold takeQ; go_simp; refine hK _ ?_; clear hK K)
          refine seq_nil ?_
          rw [noP_normal]
          have hb7' : Below w3.heap.size w3 w7 := Bst hW (Bst hb6 hb7)
          clear HO5 hb5 hg5 hm5 HO6 hb6 hg6 hm6 hS6 hpart htake
          go_wp2_with fail
          refine (norm_c A1 c1 ys _ (hU.to (Bst hb3' hb7')) (hs1.below hb7') hsm).mono ?_
          rintro e w8 ⟨A3, c3, zs, r3, rfl, hs3, hb8, _, hout3⟩
          rcases NrmOut.few (r := r3) hout3 (by omega) with ⟨q1, _⟩ | ⟨_, rfl, q2, _⟩
          · exact absurd hay.out q1
          obtain rfl := q2.uniq hself.out fun x => Iff.rfl
          clear hout3 q2
          have hb38 : Below w3.heap.size w3 w8 := Bst hb7' hb8
          have hb8w : Below w.heap.size w w8 := Bst hb3' hb38
          have hU8 := hU.to hb8w
          have hs18 := hs1.below hb38
          have hs28 := hs2.below hb8
          have hs8 := hs.below hb8w
          clear hs1 hs2 hsW hb7 hW
          go_wp2_with fail
          refine (is_c A1 c1 zs _ (hU8.to Bel) (hs18.below Bel) hsm).mono ?_
          rintro e w9 ⟨rfl, hb9⟩
          rw [his.out]
          go_wp2_with fail
          refine (rsame_c A1 A2 c1 c2 zs zs _ (hs18.below Bel) (hs28.below Bel) (by omega) (by omega)).mono ?_
          rintro e w10 ⟨rfl, hb10⟩
          rw [hysame.out]
          go_wp2_with fail
          refine (rsame_c A1 A3 c1 c3 zs zs _ (hs18.below Bel) (hs3.below Bel) (by omega) (by omega)).mono ?_
          rintro e w11 ⟨rfl, hb11⟩
          rw [hysame.out]
          go_wp2_with fail
          have hb811 : Below w8.heap.size w8 w11 := Bel
          have hs111 := hs18.below hb811
          have hs11 := hs8.below hb811
          have hU11 := hU8.to hb811
          have hb11w : Below w.heap.size w w11 := Bst hb8w hb811
          clear hs18 hs28 hs3 hs8 hU8 hb9 hb10 hb11 hb811 hb38 hb7'
          go_loopw [87] (fun s wr => ∃ i : Nat, i ≤ xs.length ∧ s = .int .i64 i ∧ Below w11.heap.size w11 wr) (fun s _ => xs.length - (intOf s).toNat)
          case atStart => exact ⟨0, by omega, rfl, Below.refl _ _⟩
          case round =>
            obtain ⟨i, hi, rfl, hb⟩ := hrel
            obtain ⟨wp, rfl⟩ : ∃ wp, wp = wr := ⟨_, rfl⟩
            by_cases hlt : i < xs.length
            · obtain ⟨b, o, hA1, hbs, p1, p2, p3⟩ := hs11.n3 (fun _ => rfl) hb i hlt
              injection hA1 with hA1
              subst hA1
              obtain ⟨x, hx⟩ : ∃ x, xs[i] = x := ⟨_, rfl⟩
              have hmem : x ∈ xs := hx ▸ List.getElem_mem hlt
              rw [hx] at p1 p2 p3
              obtain ⟨y, hy, hys, hyf⟩ := nrm_find HN.out his.out hmem
              have HF := Lib.hid hyf
              have HLOW := Lib.hid (HN.out.low y hy)
              obtain ⟨q, hq, hqe⟩ := List.getElem_of_mem (HN.out.mem y hy)
              have HQE := Lib.hid hqe
              have hyn := rchk_n (hall.out y (HN.out.mem y hy))
              have HS := Lib.hid hys
              clear hyf hqe hys hx
              go_wp2_with (go_at_call 33; refine (rfind_c A1 c1 zs x.f x.t _ (hU11.to Bel) (hs111.below Bel) hsm).mono ?_; rintro e w12 ⟨rfl, hb12⟩; rw [HF.out])
              have hrc := (B3.new wp x 33).below hb12
              have hb12w : Below w11.heap.size w11 w12 := Bst (Bal hb _) hb12
              clear p1 p2 p3
              go_loopw [16, 102] (fun v s wr => ∃ (j : Nat) (z : Int), j ≤ xs.length ∧ s = .int .i64 j ∧ v = .int .i64 z ∧ y.n ≤ z ∧ z ≤ 256 ∧ (q < j → z = y.n) ∧ Below w12.heap.size w12 wr) (fun _ s _ => xs.length - (intOf s).toNat)
              case atStart => exact ⟨0, 256, by omega, rfl, rfl, by omega, by omega, by omega, Below.refl _ _⟩
              case round =>
                obtain ⟨j, z, hj, rfl, rfl, hz1, hz2, hz3, hbi⟩ := hrel
                have hbi11 : Below w11.heap.size w11 wr := Bst hb12w hbi
                by_cases hjl : j < xs.length
                · obtain ⟨b', o', hq', hbs', q1, q2, q3⟩ := hs11.n3 (fun _ => rfl) hbi11 j hjl
                  injection hq' with hq'
                  injection hq' with hq1 hq2
                  subst hq1 hq2
                  obtain ⟨hr', r0, r1, r2⟩ := hrc.below hbi
                  have e1 := str_eq xs[j].f x.f
                  have e2 := str_eq xs[j].t x.t
                  obtain ⟨b1, hb1'⟩ : ∃ b1, decide (xs[j].f = x.f) = b1 := ⟨_, rfl⟩
                  obtain ⟨b2, hb2'⟩ : ∃ b2, decide (xs[j].t = x.t) = b2 := ⟨_, rfl⟩
                  rw [hb1'] at e1
                  rw [hb2'] at e2
                  have HSM : Hid ((b1 && b2) = true ↔ SameS xs[j] x) := by
                    show _ ↔ _
                    rw [← hb1', ← hb2']; simp [SameS]
                  clear hb1' hb2'
                  have hmn := run_min2 (P := Tryd.prog) z xs[j].n
                  have hqj : q = j → xs[j] = y := fun e => by subst e; exact HQE.out
                  cases b1 <;> cases b2
                  case true.true =>
                    have hsm2 := HSM.out.1 rfl
                    have hlo := HLOW.out xs[j] (List.getElem_mem hjl) (hsm2.trans HS.out.symm)
                    have hy2 : q = j → xs[j].n = y.n := fun e => by rw [hqj e]
                    generalize xs[j].n = s at *
                    clear hqj
                    go_wp2
                    exact ⟨⟨j + 1, min z s, by omega, by go_num, rfl, by omega, by omega, fun h => by
                      rcases Nat.lt_or_ge q j with h1 | h1
                      · have := hz3 h1; omega
                      · have := hy2 (by omega); omega, Bel⟩, by simp [intOf]; omega⟩
                  all_goals
                    have hqn : q ≠ j := fun e => by
                      have h1 := hqj e
                      have := HSM.out.2 (by rw [h1]; exact HS.out)
                      simp at this
                    clear hqj
                    go_wp2
                    exact ⟨⟨j + 1, z, by omega, by go_num, rfl, hz1, hz2, fun h => hz3 (by omega), Bel⟩, by simp [intOf]; omega⟩
                · obtain rfl := hz3 (by omega)
                  go_wp2
                  first
                    | exact ⟨⟨i + 1, by omega, by go_num, hbi11⟩, by simp [intOf]; omega⟩
                    | (refine ⟨⟨_, _, _, _, _, _, _, ⟨i + 1, by omega, ?_⟩, rfl, rfl, rfl, rfl, rfl, rfl, rfl⟩, by simp [intOf]; omega⟩; go_num)
            · go_wp2
              go_ret
              exact ⟨rfl, Bst hb11w hb⟩
  · go_wp2
    go_ret
    exact ⟨rfl, Bel⟩
end Go.Proofs.YtpccanadijefnaaDoor
