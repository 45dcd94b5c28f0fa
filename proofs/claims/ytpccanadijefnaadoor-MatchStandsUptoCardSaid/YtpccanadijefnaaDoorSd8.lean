/- 'MatchStands' walked. No condition. -/
import Derived.Test.YtpccanadijefnaaDoorPc8
import Derived.Test.YtpccanadijefnaaDoorK810
namespace Go.Proofs.YtpccanadijefnaaDoor
open Go Go.RowKit
theorem hit_stands {xs : List T3} {l : List Int} {j : Nat} (h0 : isE xs = 0) (hj : j < (hitsL (froms xs) l).length) : (hitsL (froms xs) l)[j].1 ≤ l.length ∧ ∃ hr : (hitsL (froms xs) l)[j].2 < xs.length, ∃ f, decS xs[(hitsL (froms xs) l)[j].2].f = some f ∧ f <+: l.drop (hitsL (froms xs) l)[j].1 := by
  obtain ⟨f, h1, h2⟩ := hitsL_mem.1 (show ((hitsL (froms xs) l)[j].1, (hitsL (froms xs) l)[j].2) ∈ hitsL (froms xs) l from List.getElem_mem hj)
  have h3 := h2.1
  have hr : (hitsL (froms xs) l)[j].2 < xs.length := by have := at_lt h1; simpa [froms] using this
  refine ⟨by omega, hr, f, ?_, (stands_prefix (by omega)).1 h2⟩
  have h4 := (bchk_from ((isE_ok h0).2 _ (List.getElem_mem hr))).1
  rw [h4]
  have h5 : ∀ (r : Nat) (hr : r < xs.length), (froms xs)[r]? = some ((decS xs[r].f).getD []) := fun r hr => by simp [froms, hr]
  rw [h5 _ hr] at h1
  exact h1
theorem pre_txt {s : ByteArray} {f y : List Int} (hd : decS s = some f) (hy : ∀ r ∈ y, IsR r) : Lib.hasPrefix (txt y).data.toList s.data.toList = decide (f <+: y) := by
  rw [txt_list, ← decS_enc hd, Bool.eq_iff_iff, decide_eq_true_iff, ← enc_prefix f y (decS_isR hd) hy]
  unfold Lib.hasPrefix
  simp [List.isPrefixOf_iff_prefix]
theorem hits_next {fs : List (List Int)} {l : List Int} {j : Nat} (hj : j + 1 < (hitsL fs l).length) : lt2 (hitsL fs l)[j] (hitsL fs l)[j + 1] := List.pairwise_iff_getElem.1 (hitsL_rise fs l) j (j + 1) (by omega) hj (by omega)
def cntTo (f l : List Int) (k : Nat) : Nat := ((List.range k).filter fun a => decide (Stands f l a)).length
theorem cntTo_succ (f l : List Int) (k : Nat) : cntTo f l (k + 1) = cntTo f l k + if Stands f l k then 1 else 0 := by
  unfold cntTo
  rw [List.range_succ, List.filter_append, List.length_append]
  by_cases h : Stands f l k <;> simp [h]
theorem cntTo_le (f l : List Int) (k : Nat) : cntTo f l k ≤ k := by
  unfold cntTo
  exact Nat.le_trans (List.length_filter_le _ _) (by simp)
theorem cntTo_all {f l : List Int} (h : f ≠ []) : cntTo f l l.length = countL f l := (count_cons h).symm
def cntS (fs : List (List Int)) (l : List Int) (i : Nat) : Nat := ((fs.take i).map fun f => countL f l).sum
theorem cntS_succ (fs : List (List Int)) (l f : List Int) (i : Nat) (h : fs[i]? = some f) : cntS fs l (i + 1) = cntS fs l i + countL f l := by
  unfold cntS
  rw [List.take_add_one, h, List.map_append, List.sum_append]; simp
theorem cntS_all (fs : List (List Int)) (l : List Int) : cntS fs l fs.length = (hitsL fs l).length := by
  unfold cntS; rw [List.take_length, hits_count]
theorem count_le (f l : List Int) : countL f l ≤ l.length + 1 := by
  unfold countL
  exact Nat.le_trans (List.length_filter_le _ _) (by simp)
theorem cntS_le (fs : List (List Int)) (l : List Int) (i : Nat) : cntS fs l i ≤ i * (l.length + 1) := by
  unfold cntS
  refine Nat.le_trans (sum_map_le _ (l.length + 1) _ fun f _ => count_le f l) ?_
  refine Nat.mul_le_mul_right _ ?_
  rw [List.length_take]; omega
theorem from_empty {s : ByteArray} {f : List Int} (hd : decS s = some f) : s = .empty ↔ f = [] := by
  constructor
  · rintro rfl
    have : decS .empty = some [] := rfl
    rw [this] at hd
    injection hd with hd; exact hd.symm
  · rintro rfl
    rw [← dec_txt hd]; rfl
set_option maxHeartbeats 4000000 in
set_option maxRecDepth 100000 in
theorem lstands8_c (A : Option Addr) (c : Nat) (xs : List T3) (s : ByteArray) (w : World) (hU : U w) (hs : SlA eT3 w A xs) (hm : Small xs) (hz : s.size ≤ 1048576) :
    Calls Tryd.prog 15 #[.slice A xs.length c, .string s] w (Ret w (.bool true)) := by
  have hl := hm.1
  by_cases h0 : isE xs = 0
  · cases hg : great8 xs s
    all_goals
      have HG := Lib.hid hg
      clear hg
      have H0 := Lib.hid h0
      have hfl := (froms_small h0).1
      clear h0
      go_enter Tryd.func15, Tryd.ntmps15
      go_wp2_with fail
      refine (alive8_c _ hU).mono ?_
      rintro e w1 ⟨rfl, hb1⟩
      go_wp2_with fail
      refine (new8_c A c xs _ (hU.to hb1) (hs.below hb1) hm).mono ?_
      rintro e w3 ⟨hb3, hn1, _⟩
      obtain ⟨M, rfl, hM⟩ := hn1 H0.out
      clear hn1
      go_wp2_with fail
      refine (great8_c A c xs s _ (hs.below Bel) hm (by omega)).mono ?_
      rintro e w4 ⟨rfl, hb4⟩
      rw [HG.out]
    · go_wp2_with fail
      have hM4 := hM.below hb4
      refine (mhits_c s M _ _ (hU.to Bel) hM4 (by omega)).mono ?_
      rintro e w5 ⟨hb5, h5, h5'⟩
      by_cases ht : tokE s = 0
      · obtain ⟨v5, l, hd, rfl, hO5⟩ := h5 ht
        have hlen := hits_len8 ht hd hfl
        have hll : l.length ≤ 64 := by
          obtain ⟨l', hd', hl'⟩ := tokE_ok ht
          rw [hd] at hd'
          injection hd' with e
          rw [e]; exact hl'
        have HT := Lib.hid ht
        have HD := Lib.hid hd
        obtain ⟨A5, c5, rfl, hc5, hd5, hA5⟩ := hO5.slv
        clear h5 h5' ht hd
        have hb05 : Below w.heap.size w w5 := Bst hb1 (Bst hb3 (Bst hb4 hb5))
        go_wp2_with fail
        refine (dec_own s _ (hU.to hb05) (by omega)).mono ?_
        rintro e w6 ⟨hb6, h6⟩
        rw [HD.out] at h6
        obtain ⟨v6, rfl, hO6⟩ := h6
        obtain ⟨A6, c6, rfl, hc6, hd6, hA6⟩ := hO6.slv
        have hA56 := hA5.below hb6
        have hb06 : Below w.heap.size w w6 := Bst hb05 hb6
        have HISR := Lib.hid (decS_isR HD.out)
        obtain ⟨hts, hht⟩ : ∃ hts, hitsL (froms xs) l = hts := ⟨_, rfl⟩
        have HHS : Hid (∀ j (hj : j < hts.length), hts[j].1 ≤ l.length ∧ ∃ hr : hts[j].2 < xs.length, ∃ f, decS xs[hts[j].2].f = some f ∧ f <+: l.drop hts[j].1) := by
          show ∀ j (hj : j < hts.length), _
          rw [← hht]
          exact fun j hj => hit_stands H0.out hj
        have HHN : Hid (∀ j (hj : j + 1 < hts.length), lt2 hts[j] hts[j + 1]) := by
          show ∀ j (hj : j + 1 < hts.length), _
          rw [← hht]
          exact fun j hj => hits_next hj
        have HHT := Lib.hid hht
        rw [hht] at hA5 hA56 hlen hc5 ⊢
        clear hht
        go_wp2_with fail
        go_loopw [57] (fun si wr => ∃ j : Nat, si = .int .i64 j ∧ j ≤ hts.length ∧ Below w6.heap.size w6 wr) (fun si _ => hts.length - (intOf si).toNat)
        case atStart => exact ⟨0, rfl, by omega, Below.refl _ _⟩
        case round =>
          obtain ⟨j, rfl, hj, hb⟩ := hrel
          by_cases hjl : j < hts.length
          · obtain ⟨b2, o2, rfl, y2, y3⟩ := hA56.at2 (fun _ => rfl) hb j hjl
            have hjP : (j : Int) < hts.length := by omega
            have HS := HHS.out j hjl
            obtain ⟨a, r, har⟩ : ∃ a r, hts[j] = (a, r) := ⟨_, _, rfl⟩
            rw [har] at HS y2 y3
            obtain ⟨ha, hr, f, hdf, hpf⟩ := HS
            dsimp only at ha hr hdf hpf y2 y3
            have HAR := Lib.hid har
            obtain ⟨b3, o3, rfl, hbl3, p1, p2, p3⟩ := hs.n3 (fun _ => rfl) (Bst hb06 hb) r hr
            have HIR : Hid (∀ x ∈ l.drop a, IsR x) := fun x hx => HISR.out x (List.mem_of_mem_drop hx)
            have hpre : Lib.hasPrefix (txt (l.drop a)).data.toList xs[r].f.data.toList = true := by rw [pre_txt hdf HIR.out]; exact decide_eq_true hpf
            have HPRE := Lib.hid hpre
            clear hpre hdf hpf har
            obtain ⟨m, hmm⟩ : ∃ m, l.drop a = m := ⟨_, rfl⟩
            have hml : m.length = l.length - a := by rw [← hmm, List.length_drop]
            have hE1 : ∀ W, Below w6.heap.size w6 W → Calls Tryd.prog 60 #[.slice (Option.map (fun x => x.add a) A6) (l.length - a) (c6 - a)] W (Ret W (.tuple #[.string (txt m), .int .i64 0])) := fun W hW => by
              have := enc_c _ (c6 - a) m W (by rw [← hmm]; exact (hA6.from a).below hW) (by rw [← hmm]; exact HIR.out) (by omega)
              rwa [hml] at this
            have hE0 : l.length - a = 0 → ∀ W, Calls Tryd.prog 60 #[.slice A6 (l.length - a) 0] W (Ret W (.tuple #[.string (txt m), .int .i64 0])) := fun h W => by
              have hm0 : m = [] := List.eq_nil_of_length_eq_zero (by omega)
              have := enc_c A6 0 m W (by rw [hm0]; exact SlA.nil) (by rw [hm0]; simp) (by omega)
              rwa [hml] at this
            rw [hmm] at HPRE
            have HE1 := Lib.hid hE1
            have HE0 := Lib.hid hE0
            clear hE1 hE0 hmm hml
            go_wp2_with fail
            · obtain rfl : a = c6 := by omega
              refine (HE0.out (by omega) _).mono ?_
              rintro e w7 ⟨rfl, hb7⟩
              have hbr7 : Below wr.heap.size wr w7 := Bst Bel hb7
              have hb67 : Below w6.heap.size w6 w7 := Bst hb hbr7
              have q1 := bkc hbr7 p1
              have q4 : w7.cell? ⟨wr.heap.size, 0, none⟩ = some (.int .i64 a) := hb7.cell (p := ⟨wr.heap.size, 0, none⟩) (by simp) |>.trans (by simp [go_sem])
              have q5 : w7.cell? ⟨wr.heap.size, 1, none⟩ = some (.int .i64 r) := hb7.cell (p := ⟨wr.heap.size, 1, none⟩) (by simp) |>.trans (by simp [go_sem])
              have hrx : (r : Int) < xs.length := by omega
              go_wp2_with (go_at_call 61; refine (Tryd.strings_HasPrefix (txt m) xs[r].f _).mono ?_; rintro e w8 ⟨rfl, rfl⟩; rw [HPRE.out])
              rcases Nat.eq_zero_or_pos j with hj0 | hj0
              · have hg0 : decide (0 < j) = false := decide_eq_false (by omega)
                clear hj0
                go_quiet (fail)
                go_wp2
                exact ⟨⟨j + 1, by go_num, by omega, Bdn hb67 _⟩, by simp [intOf]; omega⟩
              · have hg0 : decide (0 < j) = true := decide_eq_true hj0
                have hn := HHN.out (j - 1) (by omega)
                obtain ⟨a', r', har'⟩ : ∃ a' r', hts[j - 1] = (a', r') := ⟨_, _, rfl⟩
                have hn2 : lt2 (a', r') (a, r) := by
                  rw [← har', ← HAR.out]
                  have e : j - 1 + 1 = j := by omega
                  simpa only [e] using hn
                have hwj : IntKind.i64.wrap ((j : Int) - 1) = ((j - 1 : Nat) : Int) := by rw [IntWalk.i64_in _ (by omega)]; omega
                have hj1 : ((j - 1 : Nat) : Int) < hts.length := by omega
                obtain ⟨b4, o4, e4, v4, v5⟩ := hA56.at2 (fun _ => rfl) hb67 (j - 1) (by omega)
                injection e4 with e4
                injection e4 with e5 e6
                subst e5; subst e6
                rw [har'] at v4 v5
                dsimp only at v4 v5
                have hn3 : (a' < a) ∨ (a' = a ∧ r' < r) := hn2
                have HN3 := Lib.hid hn3
                clear hn har' hj0
                have hgt : decide (a < a') = false := decide_eq_false (by omega)
                rcases hn3 with h1 | ⟨h1, h2⟩
                · have heq : ((a' : Int) == (a : Int)) = false := by rw [beq_eq_false_iff_ne]; omega
                  clear h1
                  go_quiet (fail)
                  go_wp2
                  exact ⟨⟨j + 1, by go_num, by omega, Bdn hb67 _⟩, by simp [intOf]; omega⟩
                · have heq : ((a' : Int) == (a : Int)) = true := by rw [beq_iff_eq]; omega
                  have hge : decide (r ≤ r') = false := decide_eq_false (by omega)
                  clear h1 h2
                  go_quiet (fail)
                  go_wp2
                  exact ⟨⟨j + 1, by go_num, by omega, Bdn hb67 _⟩, by simp [intOf]; omega⟩
            · refine (HE1.out _ (Bst hb Bel)).mono ?_
              rintro e w7 ⟨rfl, hb7⟩
              have hbr7 : Below wr.heap.size wr w7 := Bst Bel hb7
              have hb67 : Below w6.heap.size w6 w7 := Bst hb hbr7
              have q1 := bkc hbr7 p1
              have q4 : w7.cell? ⟨wr.heap.size, 0, none⟩ = some (.int .i64 a) := hb7.cell (p := ⟨wr.heap.size, 0, none⟩) (by simp) |>.trans (by simp [go_sem])
              have q5 : w7.cell? ⟨wr.heap.size, 1, none⟩ = some (.int .i64 r) := hb7.cell (p := ⟨wr.heap.size, 1, none⟩) (by simp) |>.trans (by simp [go_sem])
              have hrx : (r : Int) < xs.length := by omega
              go_wp2_with (go_at_call 61; refine (Tryd.strings_HasPrefix (txt m) xs[r].f _).mono ?_; rintro e w8 ⟨rfl, rfl⟩; rw [HPRE.out])
              rcases Nat.eq_zero_or_pos j with hj0 | hj0
              · have hg0 : decide (0 < j) = false := decide_eq_false (by omega)
                clear hj0
                go_quiet (fail)
                go_wp2
                exact ⟨⟨j + 1, by go_num, by omega, Bdn hb67 _⟩, by simp [intOf]; omega⟩
              · have hg0 : decide (0 < j) = true := decide_eq_true hj0
                have hn := HHN.out (j - 1) (by omega)
                obtain ⟨a', r', har'⟩ : ∃ a' r', hts[j - 1] = (a', r') := ⟨_, _, rfl⟩
                have hn2 : lt2 (a', r') (a, r) := by
                  rw [← har', ← HAR.out]
                  have e : j - 1 + 1 = j := by omega
                  simpa only [e] using hn
                have hwj : IntKind.i64.wrap ((j : Int) - 1) = ((j - 1 : Nat) : Int) := by rw [IntWalk.i64_in _ (by omega)]; omega
                have hj1 : ((j - 1 : Nat) : Int) < hts.length := by omega
                obtain ⟨b4, o4, e4, v4, v5⟩ := hA56.at2 (fun _ => rfl) hb67 (j - 1) (by omega)
                injection e4 with e4
                injection e4 with e5 e6
                subst e5; subst e6
                rw [har'] at v4 v5
                dsimp only at v4 v5
                have hn3 : (a' < a) ∨ (a' = a ∧ r' < r) := hn2
                have HN3 := Lib.hid hn3
                clear hn har' hj0
                have hgt : decide (a < a') = false := decide_eq_false (by omega)
                rcases hn3 with h1 | ⟨h1, h2⟩
                · have heq : ((a' : Int) == (a : Int)) = false := by rw [beq_eq_false_iff_ne]; omega
                  clear h1
                  go_quiet (fail)
                  go_wp2
                  exact ⟨⟨j + 1, by go_num, by omega, Bdn hb67 _⟩, by simp [intOf]; omega⟩
                · have heq : ((a' : Int) == (a : Int)) = true := by rw [beq_iff_eq]; omega
                  have hge : decide (r ≤ r') = false := decide_eq_false (by omega)
                  clear h1 h2
                  go_quiet (fail)
                  go_wp2
                  exact ⟨⟨j + 1, by go_num, by omega, Bdn hb67 _⟩, by simp [intOf]; omega⟩
          · have hje : ¬ (j : Int) < hts.length := by omega
            go_wp2_with fail
            rename_i wl1
            go_loopw [15, 139] (fun sn si wr => ∃ i N : Nat, si = .int .i64 i ∧ i ≤ xs.length ∧ sn = .int .i64 N ∧ Hid (N = cntS (froms xs) l i) ∧ Below w6.heap.size w6 wr) (fun _ si _ => xs.length - (intOf si).toNat)
            case atStart => exact ⟨0, 0, rfl, by omega, rfl, by show _ = _; simp [cntS], hb⟩
            case round =>
              obtain ⟨i, N, rfl, hi, rfl, HN, hb2⟩ := hrel
              by_cases hil : i < xs.length
              · obtain ⟨b3, o3, rfl, hbl3, p1, p2, p3⟩ := hs.n3 (fun _ => rfl) (Bst hb06 hb2) i hil
                obtain ⟨f, hdf⟩ : ∃ f, decS xs[i].f = some f := ⟨_, (bchk_from ((isE_ok H0.out).2 _ (List.getElem_mem hil))).1⟩
                have hfi : (froms xs)[i]? = some f := by simp [froms, hil, hdf]
                have HSS : Hid (cntS (froms xs) l (i + 1) = N + countL f l) := by show _ = _; rw [cntS_succ _ _ _ _ hfi, HN.out]
                have hNb : N ≤ 4096 * 65 := by
                  rw [HN.out]
                  refine Nat.le_trans (cntS_le _ _ _) (Nat.mul_le_mul ?_ (by omega))
                  have : (froms xs).length = xs.length := by simp [froms]
                  omega
                have HDF := Lib.hid hdf
                have hie : (i : Int) < xs.length := by omega
                by_cases hf : f = []
                · have hse : xs[i].f = .empty := (from_empty hdf).2 hf
                  have HF := Lib.hid hf
                  clear hdf hfi hf
                  rw [hse] at p1
                  go_wp2
                  exact ⟨⟨i + 1, N + (l.length + 1), by go_num, by omega, by go_num, by show _ = _; rw [HSS.out, HF.out, count_nil], Bst hb2 Bel⟩, by simp [intOf]; omega⟩
                · have HF := Lib.hid hf
                  have hne : xs[i].f ≠ .empty := fun h => hf ((from_empty hdf).1 h)
                  obtain ⟨F, hF⟩ : ∃ F, xs[i].f = F := ⟨_, rfl⟩
                  rw [hF] at p1 hne
                  have HFF := Lib.hid hF
                  have HCA := Lib.hid (cntTo_all (l := l) hf)
                  have hqe : F.toList.isEmpty = false := by
                    cases h : F.toList with
                    | nil => exact absurd (ba_ext (a := F) (b := .empty) (by rw [h]; simp)) hne
                    | cons y ys => rfl
                  clear hdf hfi hf hF
                  obtain ⟨wp, hwp⟩ : ∃ wp, wp = wr.alloc (.cells #[.string F, .string xs[i].t, .int .i64 xs[i].n] 33) := ⟨_, rfl⟩
                  have hbp : Below wr.heap.size wr wp := by rw [hwp]; exact Bel
                  have hbx : wp.cell? ⟨wr.heap.size, 0, none⟩ = some (.string F) := by rw [hwp]; simp [go_sem]
                  have hwp0 : wr.heap.size < wp.heap.size := by rw [hwp]; simp
                  obtain ⟨bx, hbxe⟩ : ∃ bx, wr.heap.size = bx := ⟨_, rfl⟩
                  have hb6p : Below w6.heap.size w6 wp := Bst hb2 hbp
                  go_wp2_with fail
                  rw [← hwp]
                  rw [hbxe] at hbx hwp0
                  clear hwp hbxe hbp
                  go_loopw [15, 153] (fun sn sk wr => ∃ k n : Nat, sk = .int .i64 k ∧ k ≤ l.length ∧ sn = .int .i64 n ∧ Hid (n = N + cntTo f l k) ∧ Below wp.heap.size wp wr) (fun _ sk _ => l.length - (intOf sk).toNat)
                  case atStart => exact ⟨0, N, rfl, by omega, rfl, by show _ = _; simp [cntTo], Below.refl _ _⟩
                  case round =>
                    obtain ⟨k, n, rfl, hk, rfl, HNK, hb3⟩ := hrel
                    by_cases hkl : k < l.length
                    · have hke : (k : Int) < l.length := by omega
                      have hkc : (k : Int) ≤ c6 := by omega
                      have HCS := Lib.hid (cntTo_succ f l k)
                      have hnb : n ≤ 4096 * 65 + 65 := by have := HNK.out; have := cntTo_le f l k; omega
                      have HIR : Hid (∀ x ∈ l.drop k, IsR x) := fun x hx => HISR.out x (List.mem_of_mem_drop hx)
                      have hpre : Lib.hasPrefix (txt (l.drop k)).data.toList xs[i].f.data.toList = decide (Stands f l k) := by
                        rw [pre_txt HDF.out HIR.out, Bool.eq_iff_iff, decide_eq_true_iff, decide_eq_true_iff]
                        exact (stands_prefix (by omega)).symm
                      rw [HFF.out] at hpre
                      obtain ⟨m, hmm⟩ : ∃ m, l.drop k = m := ⟨_, rfl⟩
                      have hml : m.length = l.length - k := by rw [← hmm, List.length_drop]
                      have hb63 : Below w6.heap.size w6 wr := hb6p.trans (hb3.mono hb6p.size)
                      have hE1 : Calls Tryd.prog 60 #[.slice (Option.map (fun x => x.add k) A6) (l.length - k) (c6 - k)] wr (Ret wr (.tuple #[.string (txt m), .int .i64 0])) := by
                        have := enc_c _ (c6 - k) m wr (by rw [← hmm]; exact (hA6.from k).below hb63) (by rw [← hmm]; exact HIR.out) (by omega)
                        rwa [hml] at this
                      rw [hmm] at hpre
                      have HPRE := Lib.hid hpre
                      have HE1 := Lib.hid hE1
                      have hck : ¬ c6 ≤ k := by omega
                      clear hE1 hpre hmm hml
                      by_cases hst : Stands f l k
                      · have HP2 : Hid (decide (Stands f l k) = true) := decide_eq_true hst
                        have HST := Lib.hid hst
                        clear hst
                        go_wp2_with fail
                        refine HE1.out.mono ?_
                        rintro e w7 ⟨rfl, hb7⟩
                        have q1 : w7.cell? ⟨bx, 0, none⟩ = some (.string F) := (hb3.trans (hb7.mono hb3.size)).cell (p := ⟨bx, 0, none⟩) hwp0 |>.trans hbx
                        go_wp2_with (go_at_call 61; refine (Tryd.strings_HasPrefix (txt m) F _).mono ?_; rintro e w8 ⟨rfl, rfl⟩; rw [HPRE.out, HP2.out])
                        exact ⟨⟨k + 1, n + 1, by go_num, by omega, by go_num, by show _ = _; rw [HCS.out, if_pos HST.out, HNK.out]; omega, hb3.trans (hb7.mono hb3.size)⟩, by simp [intOf]; omega⟩
                      · have HP2 : Hid (decide (Stands f l k) = false) := decide_eq_false hst
                        have HST := Lib.hid hst
                        clear hst
                        go_wp2_with fail
                        refine HE1.out.mono ?_
                        rintro e w7 ⟨rfl, hb7⟩
                        have q1 : w7.cell? ⟨bx, 0, none⟩ = some (.string F) := (hb3.trans (hb7.mono hb3.size)).cell (p := ⟨bx, 0, none⟩) hwp0 |>.trans hbx
                        go_wp2_with (go_at_call 61; refine (Tryd.strings_HasPrefix (txt m) F _).mono ?_; rintro e w8 ⟨rfl, rfl⟩; rw [HPRE.out, HP2.out])
                        exact ⟨⟨k + 1, n, by go_num, by omega, rfl, by show _ = _; rw [HCS.out, if_neg HST.out, HNK.out]; rfl, hb3.trans (hb7.mono hb3.size)⟩, by simp [intOf]; omega⟩
                    · have hke : k = l.length := by omega
                      have hkl : ¬ (k : Int) < l.length := by omega
                      have HNE : Hid (n = cntS (froms xs) l (i + 1)) := by show _ = _; rw [HSS.out, HNK.out, hke, HCA.out]
                      clear hke
                      go_wp2_with fail
                      exact ⟨⟨i + 1, n, by go_num, by omega, rfl, HNE, hb6p.trans (hb3.mono hb6p.size)⟩, by simp [intOf]; omega⟩
              · have hie : i = xs.length := by omega
                have hil2 : ¬ (i : Int) < xs.length := by omega
                have HNE : Hid (N = hts.length) := by
                  show _ = _
                  rw [HN.out, hie, ← HHT.out]
                  have := cntS_all (froms xs) l
                  rwa [show (froms xs).length = xs.length by simp [froms]] at this
                clear hie
                rw [HNE.out]
                go_wp2
                go_ret
                exact ⟨by simp, Bst hb06 hb2⟩
      · obtain ⟨z, hz5⟩ : ∃ z, tokE s = z := ⟨_, rfl⟩
        obtain rfl := h5' ht
        rw [hz5] at ht ⊢
        have HZ := Lib.hid hz5
        clear h5 h5' hz5
        have hz0 : (z != 0) = true := by simpa using ht
        have HT := Lib.hid ht
        clear ht
        go_wp2_with fail
        refine (dec_own s _ (hU.to Bel) (by omega)).mono ?_
        rintro e w6 ⟨hb6, h6⟩
        cases hd : decS s with
        | none =>
          rw [hd] at h6
          obtain rfl := h6
          go_wp2
          go_ret
          exact ⟨rfl, Bel⟩
        | some l6 =>
          rw [hd] at h6
          obtain ⟨v6, rfl, hO6⟩ := h6
          obtain ⟨A6, c6, rfl, _, _, _⟩ := hO6.slv
          have h64 : (64 : Int) < l6.length := by
            have h1 := HZ.out
            have h2 := HT.out
            unfold tokE at h1
            rw [hd] at h1
            by_cases h3 : 64 < l6.length
            · omega
            · simp only [if_neg h3] at h1; exact absurd h1.symm h2
          go_wp2
          go_ret
          exact ⟨by simp, Bel⟩
    · go_wp2
      go_ret
      exact ⟨rfl, Bel⟩
  · obtain ⟨z, hz3⟩ : ∃ z, isE xs = z := ⟨_, rfl⟩
    have HZ := Lib.hid hz3
    have HN : Hid (isE xs ≠ 0) := h0
    rw [hz3] at h0
    clear hz3
    cases hg : great8 xs s
    all_goals
      have HG := Lib.hid hg
      clear hg
      go_enter Tryd.func15, Tryd.ntmps15
      go_wp2_with fail
      refine (alive8_c _ hU).mono ?_
      rintro e w1 ⟨rfl, hb1⟩
      go_wp2_with fail
      refine (new8_c A c xs _ (hU.to hb1) (hs.below hb1) hm).mono ?_
      rintro e w3 ⟨hb3, _, hn2⟩
      obtain rfl := hn2 HN.out
      rw [HZ.out]
      clear hn2
      go_wp2_with fail
      refine (great8_c A c xs s _ (hs.below Bel) hm (by omega)).mono ?_
      rintro e w4 ⟨rfl, hb4⟩
      rw [HG.out]
      go_wp2
      go_ret
      exact ⟨rfl, Bel⟩
end Go.Proofs.YtpccanadijefnaaDoor
