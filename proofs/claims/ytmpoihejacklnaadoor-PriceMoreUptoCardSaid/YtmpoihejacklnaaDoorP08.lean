/- Parts of these proofs, one behind the other: Tld, Rp12, Ppe, TreZ. No condition. -/
import Derived.Test.YtmpoihejacklnaaDoorP01
import Derived.Test.YtmpoihejacklnaaDoorK810
import Derived.Test.YtmpoihejacklnaaDoorP06
import Derived.Test.YtmpoihejacklnaaDoorP07
import Derived.Test.YtmpoihejacklnaaDoorK815
/- price's told: a part as a rule. No condition. -/
namespace Go.Proofs.YtmpoihejacklnaaDoor
open Go Go.RowKit
theorem parts_k {xs : List T3} {T V : List Int} {i j : Nat} {p : Pt} (h : p ∈ partsP (rus xs) T V i j) : p.k = -1 ∨ ∃ k : Nat, k < xs.length ∧ p = ptOf (rus xs) k := by
  rcases parts_mem.1 h with ⟨_, _, _, rfl⟩ | ⟨k, h1, _, _, rfl⟩ | ⟨_, _, _, rfl⟩ | ⟨_, rfl⟩ | ⟨_, rfl⟩
  · exact .inl rfl
  · exact .inr ⟨k, by rw [rus_len] at h1; exact h1, rfl⟩
  · exact .inl rfl
  · exact .inl rfl
  · exact .inl rfl
set_option maxRecDepth 100000 in
set_option maxHeartbeats 2000000 in
theorem told_c {B : Nat → Prop} {G : Nat} {xs : List T3} {T V : List Int} (w : World) (hG : GridR B w G xs T V) (hT : T.length ≤ 64) (hV : V.length ≤ 64) (hTr : ∀ r ∈ T, IsR r) (hVr : ∀ r ∈ V, IsR r) (hI : isE xs = 0) (i j : Nat) (hi : i ≤ T.length) (hj : j ≤ V.length) (p : Pt) (hp : p ∈ partsP (rus xs) T V i j) :
    Calls Tryd.prog 31 #[.pointer (some ⟨G, 0, none⟩), .int .i64 i, .int .i64 j, vPt p] w (Ret w (.agg #[.string (tolP xs T V i j p).f, .string (tolP xs T V i j p).t, .int .i64 (tolP xs T V i j p).n])) := by
  rcases parts_k hp with hk | ⟨k, hk, rfl⟩
  · obtain ⟨_, o2, o3, o4⟩ := parts_ok (rus_ok hI) hi hj hp
    obtain ⟨t1, t2, t3⟩ := tol_is hI hp
    obtain ⟨_, d2, _, d4⟩ := tol_dec hI hTr hVr hi hj hp
    obtain ⟨A3, c3, k3, a3, b3, l3⟩ := hG.t
    obtain ⟨A4, c4, k4, a4, b4, l4⟩ := hG.w
    have rT := isR_part hTr i p.f
    have rV := isR_part hVr j p.t
    rw [t1, t2, t3]
    obtain ⟨pf, pt, pc, pk⟩ := p
    simp only at *
    subst hk
    have hGl : G < w.heap.size := World.block_lt_of_cell? _ _ k3
    have w1 : IntKind.i64.wrap ((i : Int) + (pf : Int)) = (i : Int) + pf := IntWalk.i64_in _ (by omega)
    have w2 : IntKind.i64.wrap ((j : Int) + (pt : Int)) = (j : Int) + pt := IntWalk.i64_in _ (by omega)
    have n1 : ((i : Int) + (pf : Int)).toNat = i + pf := by omega
    have n2 : ((j : Int) + (pt : Int)).toNat = j + pt := by omega
    have n3 : (0 : Int) ≤ (i : Int) + pf := by omega
    have n4 : (0 : Int) ≤ (j : Int) + pt := by omega
    have n5 : (i : Int) + pf ≤ c3 := by omega
    have n6 : (j : Int) + pt ≤ c4 := by omega
    have n7 : i + pf - i = pf := by omega
    have n8 : j + pt - j = pt := by omega
    obtain ⟨W0, hW0⟩ : ∃ W, W = ((w.alloc (.cells #[.int .i64 pf, .int .i64 pt, .int .i64 pc, .int .i64 (-1)] 75)).alloc (.cells #[.string ⟨#[]⟩, .string ⟨#[]⟩, .int .i64 0] 49)) := ⟨_, rfl⟩
    have hbW : Below w.heap.size w W0 := by rw [hW0]; exact Bel
    have z0 : W0.cell? ⟨w.heap.size, 0, none⟩ = some (.int .i64 pf) := by rw [hW0]; simp [go_sem]
    have z1 : W0.cell? ⟨w.heap.size, 1, none⟩ = some (.int .i64 pt) := by rw [hW0]; simp [go_sem]
    have z2 : W0.cell? ⟨w.heap.size, 2, none⟩ = some (.int .i64 pc) := by rw [hW0]; simp [go_sem]
    by_cases hc : c3 = i
    · by_cases hd : c4 = j
      · have hpf : pf = 0 := by omega
        have hE1 : ∀ W, Below w.heap.size w W → Calls Tryd.prog 58 #[.slice A3 pf 0] W (Ret W (.tuple #[.string (txt ((T.drop i).take pf)), .int .i64 0])) := fun W hW => by rw [hpf]; exact enc_c A3 0 [] W SlA.nil (by simp) (by simp)
        have HPF := Lib.hid hpf
        clear hpf
        obtain ⟨s1, hs1⟩ : ∃ s, txt ((T.drop i).take pf) = s := ⟨_, rfl⟩
        have hpt : pt = 0 := by omega
        have hE2 : ∀ W, Below w.heap.size w W → Calls Tryd.prog 58 #[.slice A4 pt 0] W (Ret W (.tuple #[.string (txt ((V.drop j).take pt)), .int .i64 0])) := fun W hW => by rw [hpt]; exact enc_c A4 0 [] W SlA.nil (by simp) (by simp)
        have HPT := Lib.hid hpt
        clear hpt
        obtain ⟨s2, hs2⟩ : ∃ s, txt ((V.drop j).take pt) = s := ⟨_, rfl⟩
        rw [hs1] at hE1
        rw [hs2] at hE2
        rw [hs1, hs2]
        have HE1 := Lib.hid hE1
        have HE2 := Lib.hid hE2
        clear hE1 hE2 hs1 hs2 rT rV d2 d4
        have HC := Lib.hid hc
        have HD := Lib.hid hd
        clear hc hd
        unfold vPt
        have hfz : ∀ q, W0.frozen? ⟨w.heap.size + 1, q, none⟩ = false := fun q => by rw [hW0]; simp [go_sem]
        have hr0 : W0.cell? ⟨w.heap.size + 1, 0, none⟩ = some (.string ⟨#[]⟩) := by rw [hW0]; simp [go_sem]
        have hr1 : W0.cell? ⟨w.heap.size + 1, 1, none⟩ = some (.string ⟨#[]⟩) := by rw [hW0]; simp [go_sem]
        have hr2 : W0.cell? ⟨w.heap.size + 1, 2, none⟩ = some (.int .i64 0) := by rw [hW0]; simp [go_sem]
        have hsz0 : w.heap.size + 1 < W0.heap.size := by rw [hW0]; simp
        have HW0 := Lib.hid hW0
        clear hW0
        go_enter Tryd.func31, Tryd.ntmps31
        go_wp2_with fail
        rw [← HW0.out]
        refine region_seqP [(0, true), (1, true), (2, true), (3, true), (4, true), (5, true), (6, true), (7, true), (8, true), (9, true), (10, false), (11, true), (12, true), (13, true), (14, true), (15, true)] (by kernel_rfl) (by kernel_rfl) ?_
        intro W hW
        have hc := HC.out
        subst hc
        have k3' := bkc (Bst hbW hW) k3
        have y0 := bkc hW z0
        have hbx := Bst hbW hW
        repeat (refine seq_q rfl (fun K hK => ?_); unfold takeQ; go_simp; refine hK _ ?_; clear hK K)
        refine seq_t rfl (fun K hK => ?_); go_simp
        refine (HE1.out _ hbx).mono ?_
        rintro e w5 ⟨rfl, hb5⟩
        go_simp
        refine hK _ _ (.of Bel) ?_; clear hK K
        repeat (refine seq_q rfl (fun K hK => ?_); unfold takeQ; go_simp; refine hK _ ?_; clear hK K)
        refine seq_nil ?_
        rw [noP_normal]
        have h05 := Bst hW hb5
        go_wp2_with fail
        refine region_seqP [(0, true), (1, true), (2, true), (3, true), (4, true), (5, true), (6, true), (7, true), (8, true), (9, true), (10, false), (11, true), (12, true), (13, true), (14, true), (15, true)] (by kernel_rfl) (by kernel_rfl) ?_
        intro W6 hW6
        have h06 := Bst h05 hW6
        have hbx6 := Bst hbW h06
        have hd := HD.out
        subst hd
        have k4' := bkc hbx6 k4
        have y1 := bkc h06 z1
        repeat (refine seq_q rfl (fun K hK => ?_); unfold takeQ; go_simp; refine hK _ ?_; clear hK K)
        refine seq_t rfl (fun K hK => ?_); go_simp
        refine (HE2.out _ hbx6).mono ?_
        rintro e w7 ⟨rfl, hb7⟩
        go_simp
        refine hK _ _ (.of Bel) ?_; clear hK K
        repeat (refine seq_q rfl (fun K hK => ?_); unfold takeQ; go_simp; refine hK _ ?_; clear hK K)
        refine seq_nil ?_
        rw [noP_normal]
        have h07 := Bst h06 hb7
        have y2 := bkc h07 z2
        have q0 := bkc h07 hr0
        have q1 := bkc h07 hr1
        have q2 := bkc h07 hr2
        have fz : ∀ q, w7.frozen? ⟨w.heap.size + 1, q, none⟩ = false := fun q => by rw [h07.frozen (p := ⟨w.heap.size + 1, q, none⟩) hsz0]; exact hfz q
        clear n1 n2 n3 n4 n5 n6 n7 n8 w1 w2 a3 a4 b3 b4 hi hj o2 o3
        go_wp2_with fail
        refine bodyPost_ret (v := .agg #[.string s1, .string s2, .int .i64 pc]) (by simp [results, Tryd.f31, go_sem, q0, q1, q2]) rfl ?_
        exact ⟨rfl, Bsc (Bsc (Bsc (Bst hbW h07) (by first | (simp; done) | (simp; omega)) _) (by first | (simp; done) | (simp; omega)) _) (by first | (simp; done) | (simp; omega)) _⟩
      · have hpf : pf = 0 := by omega
        have hE1 : ∀ W, Below w.heap.size w W → Calls Tryd.prog 58 #[.slice A3 pf 0] W (Ret W (.tuple #[.string (txt ((T.drop i).take pf)), .int .i64 0])) := fun W hW => by rw [hpf]; exact enc_c A3 0 [] W SlA.nil (by simp) (by simp)
        have HPF := Lib.hid hpf
        clear hpf
        obtain ⟨s1, hs1⟩ : ∃ s, txt ((T.drop i).take pf) = s := ⟨_, rfl⟩
        have hE2 : ∀ W, Below w.heap.size w W → Calls Tryd.prog 58 #[.slice (Option.map (fun x => x.add j) A4) pt (c4 - j)] W (Ret W (.tuple #[.string (txt ((V.drop j).take pt)), .int .i64 0])) := fun W hW => by
          have h := enc_c (Option.map (fun x => x.add j) A4) (c4 - j) ((V.drop j).take pt) W (((l4.1.from j).take pt).below hW) rV (by omega)
          rwa [d4] at h
        obtain ⟨s2, hs2⟩ : ∃ s, txt ((V.drop j).take pt) = s := ⟨_, rfl⟩
        rw [hs1] at hE1
        rw [hs2] at hE2
        rw [hs1, hs2]
        have HE1 := Lib.hid hE1
        have HE2 := Lib.hid hE2
        clear hE1 hE2 hs1 hs2 rT rV d2 d4
        subst hc
        unfold vPt
        have hfz : ∀ q, W0.frozen? ⟨w.heap.size + 1, q, none⟩ = false := fun q => by rw [hW0]; simp [go_sem]
        have hr0 : W0.cell? ⟨w.heap.size + 1, 0, none⟩ = some (.string ⟨#[]⟩) := by rw [hW0]; simp [go_sem]
        have hr1 : W0.cell? ⟨w.heap.size + 1, 1, none⟩ = some (.string ⟨#[]⟩) := by rw [hW0]; simp [go_sem]
        have hr2 : W0.cell? ⟨w.heap.size + 1, 2, none⟩ = some (.int .i64 0) := by rw [hW0]; simp [go_sem]
        have hsz0 : w.heap.size + 1 < W0.heap.size := by rw [hW0]; simp
        have HW0 := Lib.hid hW0
        clear hW0
        go_enter Tryd.func31, Tryd.ntmps31
        go_wp2_with fail
        rw [← HW0.out]
        refine region_seqP [(0, true), (1, true), (2, true), (3, true), (4, true), (5, true), (6, true), (7, true), (8, true), (9, true), (10, false), (11, true), (12, true), (13, true), (14, true), (15, true)] (by kernel_rfl) (by kernel_rfl) ?_
        intro W hW
        have k3' := bkc (Bst hbW hW) k3
        have y0 := bkc hW z0
        have hbx := Bst hbW hW
        repeat (refine seq_q rfl (fun K hK => ?_); unfold takeQ; go_simp; refine hK _ ?_; clear hK K)
        refine seq_t rfl (fun K hK => ?_); go_simp
        refine (HE1.out _ hbx).mono ?_
        rintro e w5 ⟨rfl, hb5⟩
        go_simp
        refine hK _ _ (.of Bel) ?_; clear hK K
        repeat (refine seq_q rfl (fun K hK => ?_); unfold takeQ; go_simp; refine hK _ ?_; clear hK K)
        refine seq_nil ?_
        rw [noP_normal]
        have h05 := Bst hW hb5
        go_wp2_with fail
        refine region_seqP [(0, true), (1, true), (2, true), (3, true), (4, true), (5, true), (6, true), (7, true), (8, true), (9, true), (10, false), (11, true), (12, true), (13, true), (14, true), (15, true)] (by kernel_rfl) (by kernel_rfl) ?_
        intro W6 hW6
        have h06 := Bst h05 hW6
        have hbx6 := Bst hbW h06
        have k4' := bkc hbx6 k4
        have y1 := bkc h06 z1
        repeat (refine seq_q rfl (fun K hK => ?_); unfold takeQ; go_simp; refine hK _ ?_; clear hK K)
        refine seq_t rfl (fun K hK => ?_); go_simp
        refine (HE2.out _ hbx6).mono ?_
        rintro e w7 ⟨rfl, hb7⟩
        go_simp
        refine hK _ _ (.of Bel) ?_; clear hK K
        repeat (refine seq_q rfl (fun K hK => ?_); unfold takeQ; go_simp; refine hK _ ?_; clear hK K)
        refine seq_nil ?_
        rw [noP_normal]
        have h07 := Bst h06 hb7
        have y2 := bkc h07 z2
        have q0 := bkc h07 hr0
        have q1 := bkc h07 hr1
        have q2 := bkc h07 hr2
        have fz : ∀ q, w7.frozen? ⟨w.heap.size + 1, q, none⟩ = false := fun q => by rw [h07.frozen (p := ⟨w.heap.size + 1, q, none⟩) hsz0]; exact hfz q
        clear n1 n2 n3 n4 n5 n6 n7 n8 w1 w2 a3 a4 b3 b4 hi hj o2 o3
        go_wp2_with fail
        refine bodyPost_ret (v := .agg #[.string s1, .string s2, .int .i64 pc]) (by simp [results, Tryd.f31, go_sem, q0, q1, q2]) rfl ?_
        exact ⟨rfl, Bsc (Bsc (Bsc (Bst hbW h07) (by first | (simp; done) | (simp; omega)) _) (by first | (simp; done) | (simp; omega)) _) (by first | (simp; done) | (simp; omega)) _⟩
    · by_cases hd : c4 = j
      · have hE1 : ∀ W, Below w.heap.size w W → Calls Tryd.prog 58 #[.slice (Option.map (fun x => x.add i) A3) pf (c3 - i)] W (Ret W (.tuple #[.string (txt ((T.drop i).take pf)), .int .i64 0])) := fun W hW => by
          have h := enc_c (Option.map (fun x => x.add i) A3) (c3 - i) ((T.drop i).take pf) W (((l3.1.from i).take pf).below hW) rT (by omega)
          rwa [d2] at h
        obtain ⟨s1, hs1⟩ : ∃ s, txt ((T.drop i).take pf) = s := ⟨_, rfl⟩
        have hpt : pt = 0 := by omega
        have hE2 : ∀ W, Below w.heap.size w W → Calls Tryd.prog 58 #[.slice A4 pt 0] W (Ret W (.tuple #[.string (txt ((V.drop j).take pt)), .int .i64 0])) := fun W hW => by rw [hpt]; exact enc_c A4 0 [] W SlA.nil (by simp) (by simp)
        have HPT := Lib.hid hpt
        clear hpt
        obtain ⟨s2, hs2⟩ : ∃ s, txt ((V.drop j).take pt) = s := ⟨_, rfl⟩
        rw [hs1] at hE1
        rw [hs2] at hE2
        rw [hs1, hs2]
        have HE1 := Lib.hid hE1
        have HE2 := Lib.hid hE2
        clear hE1 hE2 hs1 hs2 rT rV d2 d4
        subst hd
        unfold vPt
        have hfz : ∀ q, W0.frozen? ⟨w.heap.size + 1, q, none⟩ = false := fun q => by rw [hW0]; simp [go_sem]
        have hr0 : W0.cell? ⟨w.heap.size + 1, 0, none⟩ = some (.string ⟨#[]⟩) := by rw [hW0]; simp [go_sem]
        have hr1 : W0.cell? ⟨w.heap.size + 1, 1, none⟩ = some (.string ⟨#[]⟩) := by rw [hW0]; simp [go_sem]
        have hr2 : W0.cell? ⟨w.heap.size + 1, 2, none⟩ = some (.int .i64 0) := by rw [hW0]; simp [go_sem]
        have hsz0 : w.heap.size + 1 < W0.heap.size := by rw [hW0]; simp
        have HW0 := Lib.hid hW0
        clear hW0
        go_enter Tryd.func31, Tryd.ntmps31
        go_wp2_with fail
        rw [← HW0.out]
        refine region_seqP [(0, true), (1, true), (2, true), (3, true), (4, true), (5, true), (6, true), (7, true), (8, true), (9, true), (10, false), (11, true), (12, true), (13, true), (14, true), (15, true)] (by kernel_rfl) (by kernel_rfl) ?_
        intro W hW
        have k3' := bkc (Bst hbW hW) k3
        have y0 := bkc hW z0
        have hbx := Bst hbW hW
        repeat (refine seq_q rfl (fun K hK => ?_); unfold takeQ; go_simp; refine hK _ ?_; clear hK K)
        refine seq_t rfl (fun K hK => ?_); go_simp
        refine (HE1.out _ hbx).mono ?_
        rintro e w5 ⟨rfl, hb5⟩
        go_simp
        refine hK _ _ (.of Bel) ?_; clear hK K
        repeat (refine seq_q rfl (fun K hK => ?_); unfold takeQ; go_simp; refine hK _ ?_; clear hK K)
        refine seq_nil ?_
        rw [noP_normal]
        have h05 := Bst hW hb5
        go_wp2_with fail
        refine region_seqP [(0, true), (1, true), (2, true), (3, true), (4, true), (5, true), (6, true), (7, true), (8, true), (9, true), (10, false), (11, true), (12, true), (13, true), (14, true), (15, true)] (by kernel_rfl) (by kernel_rfl) ?_
        intro W6 hW6
        have h06 := Bst h05 hW6
        have hbx6 := Bst hbW h06
        have k4' := bkc hbx6 k4
        have y1 := bkc h06 z1
        repeat (refine seq_q rfl (fun K hK => ?_); unfold takeQ; go_simp; refine hK _ ?_; clear hK K)
        refine seq_t rfl (fun K hK => ?_); go_simp
        refine (HE2.out _ hbx6).mono ?_
        rintro e w7 ⟨rfl, hb7⟩
        go_simp
        refine hK _ _ (.of Bel) ?_; clear hK K
        repeat (refine seq_q rfl (fun K hK => ?_); unfold takeQ; go_simp; refine hK _ ?_; clear hK K)
        refine seq_nil ?_
        rw [noP_normal]
        have h07 := Bst h06 hb7
        have y2 := bkc h07 z2
        have q0 := bkc h07 hr0
        have q1 := bkc h07 hr1
        have q2 := bkc h07 hr2
        have fz : ∀ q, w7.frozen? ⟨w.heap.size + 1, q, none⟩ = false := fun q => by rw [h07.frozen (p := ⟨w.heap.size + 1, q, none⟩) hsz0]; exact hfz q
        clear n1 n2 n3 n4 n5 n6 n7 n8 w1 w2 a3 a4 b3 b4 hi hj o2 o3
        go_wp2_with fail
        refine bodyPost_ret (v := .agg #[.string s1, .string s2, .int .i64 pc]) (by simp [results, Tryd.f31, go_sem, q0, q1, q2]) rfl ?_
        exact ⟨rfl, Bsc (Bsc (Bsc (Bst hbW h07) (by first | (simp; done) | (simp; omega)) _) (by first | (simp; done) | (simp; omega)) _) (by first | (simp; done) | (simp; omega)) _⟩
      · have hE1 : ∀ W, Below w.heap.size w W → Calls Tryd.prog 58 #[.slice (Option.map (fun x => x.add i) A3) pf (c3 - i)] W (Ret W (.tuple #[.string (txt ((T.drop i).take pf)), .int .i64 0])) := fun W hW => by
          have h := enc_c (Option.map (fun x => x.add i) A3) (c3 - i) ((T.drop i).take pf) W (((l3.1.from i).take pf).below hW) rT (by omega)
          rwa [d2] at h
        obtain ⟨s1, hs1⟩ : ∃ s, txt ((T.drop i).take pf) = s := ⟨_, rfl⟩
        have hE2 : ∀ W, Below w.heap.size w W → Calls Tryd.prog 58 #[.slice (Option.map (fun x => x.add j) A4) pt (c4 - j)] W (Ret W (.tuple #[.string (txt ((V.drop j).take pt)), .int .i64 0])) := fun W hW => by
          have h := enc_c (Option.map (fun x => x.add j) A4) (c4 - j) ((V.drop j).take pt) W (((l4.1.from j).take pt).below hW) rV (by omega)
          rwa [d4] at h
        obtain ⟨s2, hs2⟩ : ∃ s, txt ((V.drop j).take pt) = s := ⟨_, rfl⟩
        rw [hs1] at hE1
        rw [hs2] at hE2
        rw [hs1, hs2]
        have HE1 := Lib.hid hE1
        have HE2 := Lib.hid hE2
        clear hE1 hE2 hs1 hs2 rT rV d2 d4
        unfold vPt
        have hfz : ∀ q, W0.frozen? ⟨w.heap.size + 1, q, none⟩ = false := fun q => by rw [hW0]; simp [go_sem]
        have hr0 : W0.cell? ⟨w.heap.size + 1, 0, none⟩ = some (.string ⟨#[]⟩) := by rw [hW0]; simp [go_sem]
        have hr1 : W0.cell? ⟨w.heap.size + 1, 1, none⟩ = some (.string ⟨#[]⟩) := by rw [hW0]; simp [go_sem]
        have hr2 : W0.cell? ⟨w.heap.size + 1, 2, none⟩ = some (.int .i64 0) := by rw [hW0]; simp [go_sem]
        have hsz0 : w.heap.size + 1 < W0.heap.size := by rw [hW0]; simp
        have HW0 := Lib.hid hW0
        clear hW0
        go_enter Tryd.func31, Tryd.ntmps31
        go_wp2_with fail
        rw [← HW0.out]
        refine region_seqP [(0, true), (1, true), (2, true), (3, true), (4, true), (5, true), (6, true), (7, true), (8, true), (9, true), (10, false), (11, true), (12, true), (13, true), (14, true), (15, true)] (by kernel_rfl) (by kernel_rfl) ?_
        intro W hW
        have k3' := bkc (Bst hbW hW) k3
        have y0 := bkc hW z0
        have hbx := Bst hbW hW
        repeat (refine seq_q rfl (fun K hK => ?_); unfold takeQ; go_simp; refine hK _ ?_; clear hK K)
        refine seq_t rfl (fun K hK => ?_); go_simp
        refine (HE1.out _ hbx).mono ?_
        rintro e w5 ⟨rfl, hb5⟩
        go_simp
        refine hK _ _ (.of Bel) ?_; clear hK K
        repeat (refine seq_q rfl (fun K hK => ?_); unfold takeQ; go_simp; refine hK _ ?_; clear hK K)
        refine seq_nil ?_
        rw [noP_normal]
        have h05 := Bst hW hb5
        go_wp2_with fail
        refine region_seqP [(0, true), (1, true), (2, true), (3, true), (4, true), (5, true), (6, true), (7, true), (8, true), (9, true), (10, false), (11, true), (12, true), (13, true), (14, true), (15, true)] (by kernel_rfl) (by kernel_rfl) ?_
        intro W6 hW6
        have h06 := Bst h05 hW6
        have hbx6 := Bst hbW h06
        have k4' := bkc hbx6 k4
        have y1 := bkc h06 z1
        repeat (refine seq_q rfl (fun K hK => ?_); unfold takeQ; go_simp; refine hK _ ?_; clear hK K)
        refine seq_t rfl (fun K hK => ?_); go_simp
        refine (HE2.out _ hbx6).mono ?_
        rintro e w7 ⟨rfl, hb7⟩
        go_simp
        refine hK _ _ (.of Bel) ?_; clear hK K
        repeat (refine seq_q rfl (fun K hK => ?_); unfold takeQ; go_simp; refine hK _ ?_; clear hK K)
        refine seq_nil ?_
        rw [noP_normal]
        have h07 := Bst h06 hb7
        have y2 := bkc h07 z2
        have q0 := bkc h07 hr0
        have q1 := bkc h07 hr1
        have q2 := bkc h07 hr2
        have fz : ∀ q, w7.frozen? ⟨w.heap.size + 1, q, none⟩ = false := fun q => by rw [h07.frozen (p := ⟨w.heap.size + 1, q, none⟩) hsz0]; exact hfz q
        clear n1 n2 n3 n4 n5 n6 n7 n8 w1 w2 a3 a4 b3 b4 hi hj o2 o3
        go_wp2_with fail
        refine bodyPost_ret (v := .agg #[.string s1, .string s2, .int .i64 pc]) (by simp [results, Tryd.f31, go_sem, q0, q1, q2]) rfl ?_
        exact ⟨rfl, Bsc (Bsc (Bsc (Bst hbW h07) (by first | (simp; done) | (simp; omega)) _) (by first | (simp; done) | (simp; omega)) _) (by first | (simp; done) | (simp; omega)) _⟩
  · obtain ⟨A0, c0, k0, l0⟩ := hG.l
    obtain ⟨b, o, rfl, _, p1, p2, p3⟩ := l0.1.n3 (fun _ => rfl) (Below.refl _ _) k hk
    have hk' : (k : Int) < xs.length := by omega
    rw [tol_rule hk]
    obtain ⟨x, hx⟩ : ∃ x, xs[k] = x := ⟨_, rfl⟩
    rw [hx] at p1 p2 p3 ⊢
    unfold vPt ptOf
    generalize (ruAt (rus xs) k).f.length = fl
    generalize (ruAt (rus xs) k).t.length = tl
    generalize (ruAt (rus xs) k).c = cl
    clear hp hx
    have hGl : G < w.heap.size := World.block_lt_of_cell? _ _ k0
    have hbl : b < w.heap.size := World.block_lt_of_cell? _ _ p1
    have hkn : ((k : Int) != -1) = true := by rw [bne_iff_ne]; omega
    go_enter Tryd.func31, Tryd.ntmps31
    go_wp2_with fail
    go_region
    go_wp2_with fail
    refine bodyPost_ret (v := .agg #[.string x.f, .string x.t, .int .i64 x.n]) (by simp [results, Tryd.f31, go_sem]) rfl ?_
    exact ⟨rfl, Below.drew Bel⟩
end Go.Proofs.YtmpoihejacklnaaDoor
/- errataref12.Parts: the parts of a price, in order. No condition. -/
namespace Go.Proofs.YtmpoihejacklnaaDoor
open Go Go.RowKit
/-- What 'Parts' hands back. -/
def WayPost (w : World) (xs : List T3) (t v : ByteArray) (e : Ending) (w' : World) : Prop :=
  ∃ vo, e = .returned (.tuple #[vo, .int .i64 (prcE xs t v)]) ∧ Own eT3 w.heap.size 49 w' vo (wayL xs t v) ∧ Below w.heap.size w w'
theorem wayL_ok {xs : List T3} {t v : ByteArray} (h : prcE xs t v = 0) : wayL xs t v = wayA xs (rnS t) (rnS v) 0 0 := by unfold wayL; rw [if_pos h]
theorem wayL_bad {xs : List T3} {t v : ByteArray} (h : prcE xs t v ≠ 0) : wayL xs t v = [] := by unfold wayL; rw [if_neg h]
theorem find_drop {α : Type} {l : List α} {q : α → Bool} {p : Nat} (h : p < l.length) {x : α} (hf : (l.drop p).find? q = some x) : if q l[p] = true then x = l[p] else (l.drop (p + 1)).find? q = some x := by
  rw [List.drop_eq_getElem_cons h, List.find?_cons] at hf
  by_cases hq : q l[p] = true
  · rw [if_pos hq]
    rw [hq] at hf
    simp at hf
    exact hf.symm
  · rw [if_neg hq]
    simp only [Bool.not_eq_true] at hq
    rw [hq] at hf
    exact hf
set_option maxRecDepth 100000 in
set_option maxHeartbeats 4000000 in
theorem rparts_c (A : Option Addr) (c : Nat) (xs : List T3) (t v : ByteArray) (w : World) (hs : SlA eT3 w A xs) (hm : Small xs) (hz : t.size ≤ 17592186044416) (hz2 : v.size ≤ 17592186044416) :
    Calls Tryd.prog 17 #[.slice A xs.length c, .string t, .string v] w (WayPost w xs t v) := by
  by_cases h0 : prcE xs t v = 0
  · obtain ⟨k1, k2, k3⟩ := prcE_ok h0
    obtain ⟨_, a1, a2, a3⟩ := rn_ok k2
    obtain ⟨_, b1, b2, b3⟩ := rn_ok k3
    have HW := Lib.hid (wayL_ok h0)
    have H0 := Lib.hid h0
    have HI := Lib.hid k1
    have C1 := fun W hW => r12chk_c A c xs t v W (hs.below hW) hm hz hz2
    obtain ⟨T, hT⟩ : ∃ T, rnS t = T := ⟨_, rfl⟩
    obtain ⟨V, hV⟩ : ∃ V, rnS v = V := ⟨_, rfl⟩
    rw [hT] at a1 a2 a3 HW
    rw [hV] at b1 b2 b3 HW
    have HTR := Lib.hid a3
    have HVR := Lib.hid b3
    have HT := Lib.hid hT
    have HV := Lib.hid hV
    clear h0 k1 k2 k3 a3 b3 hT hV
    go_enter Tryd.func17, Tryd.ntmps17
    go_wp2_with fail
    refine (C1 _ Bel).mono ?_
    rintro e w2 ⟨va, vb, rfl, hb2, h2⟩
    obtain ⟨⟨Aa, ca, rfl, p1, p2, p3⟩, ⟨Ab, cb, rfl, q1, q2, q3⟩⟩ := h2 H0.out
    rw [HT.out] at p1 p3 ⊢
    rw [HV.out] at q1 q3 ⊢
    rw [H0.out]
    clear h2
    go_wp2_with fail
    refine (rfill_c A Aa Ab c ca cb xs T V _ (hs.below (Bst Bel hb2)) hm p3 q3 p1 p2 q1 q2 a2 b2 HTR.out HVR.out HI.out).mono ?_
    rintro e w3 ⟨F, cf, O, co, cN, cs, B, rfl, hF, hO, hM, hb3⟩
    have hX := Bx.new w3 69 #[.slice A xs.length c, .slice F xs.length cf, .slice O xs.length co, .slice Aa T.length ca, .slice Ab V.length cb, .slice (some ⟨cN, 0, none⟩) (T.length + 1) (T.length + 1)]
    have hbX : Below w3.heap.size w3 (w3.alloc (.cells #[.slice A xs.length c, .slice F xs.length cf, .slice O xs.length co, .slice Aa T.length ca, .slice Ab V.length cb, .slice (some ⟨cN, 0, none⟩) (T.length + 1) (T.length + 1)] 69)) := Bal (Below.refl _ _) _
    go_wp2_with fail
    generalize w3.alloc (.cells #[.slice A xs.length c, .slice F xs.length cf, .slice O xs.length co, .slice Aa T.length ca, .slice Ab V.length cb, .slice (some ⟨cN, 0, none⟩) (T.length + 1) (T.length + 1)] 69) = wX at hX hbX ⊢
    have hb2X := Bst hb3 hbX
    have hbwX : Below w.heap.size w wX := Bst (Bst Bel hb2) hb2X
    have hsX := hs.below hbwX
    have htX := p3.below hb2X
    have hvX := q3.below hb2X
    have hFX := hF.kw (KwB.below hbX)
    have hOX := hO.kw (KwB.below hbX)
    have hMX := hM.below hbX
    obtain ⟨N3, hN3⟩ : ∃ n, w3.heap.size = n := ⟨_, rfl⟩
    rw [hN3] at hX ⊢
    clear hF hO hM hb3 hbX C1 p3 q3
    go_loopw [12, 13, 14] (fun s12 s13 s14 wr => ∃ (i j : Nat) (done : List T3), s13 = .int .i64 i ∧ s14 = .int .i64 j ∧ i ≤ T.length ∧ j ≤ V.length ∧ Hid (done ++ wayA xs T V i j = wayA xs T V 0 0) ∧ Own eT3 wX.heap.size 49 wr s12 done ∧ Below wX.heap.size wX wr) (fun _ s13 s14 _ => T.length - (intOf s13).toNat + (V.length - (intOf s14).toNat))
    case atStart => exact ⟨0, 0, [], rfl, rfl, by omega, by omega, rfl, Own.nil _, Below.refl _ _⟩
    case round =>
      obtain ⟨i, j, done, rfl, rfl, hi, hj, HD, hOd, hbr⟩ := hrel
      rename World => wr
      by_cases hend : i < T.length ∨ j < V.length
      · obtain ⟨pt, hf, hmem, hpr⟩ := fst_some (rus_ok HI.out) hi hj hend a2 b2
        have HF := Lib.hid hf
        have hdl : done.length ≤ 128 := by
          have h1 := congrArg List.length HD.out
          have h2 := wayA_len HI.out a2 b2 128 0 0 (by omega) (by omega) (by omega)
          rw [List.length_append] at h1
          omega
        have HEND := Lib.hid hend
        have hcase : i < T.length ∨ (¬ i < T.length ∧ j < V.length) := by omega
        clear hf hmem hpr hend
        rcases hcase with g1 | ⟨g1, g2⟩
        case' inl => have g1' : (i : Int) < T.length := by omega
        case' inr =>
          have g1' : ¬ (i : Int) < T.length := by omega
          have g2' : (j : Int) < V.length := by omega
        all_goals
          have hc1 := bkc hbr (hX.cell 1)
          have hc2 := bkc hbr (hX.cell 2)
          simp at hc1 hc2
          go_wp2_with fail
          refine (here_c A F O Aa Ab c cf co ca cb xs T V i j wr (hsX.below hbr) (hFX.kw (KwB.below hbr)) (hOX.kw (KwB.below hbr)) (htX.below hbr) (hvX.below hbr) p1 p2 q1 q2 a2 b2 HTR.out HVR.out HI.out hi hj).mono ?_
          rintro e w10 ⟨vh, rfl, hOh, hb10⟩
          obtain ⟨Ah, ch, rfl, _, _, hAh⟩ := hOh.slv
          have hps : hereL xs T V i j = (partsP (rus xs) T V i j).map (tolP xs T V i j) := rfl
          have HPS := Lib.hid hps
          obtain ⟨L, hL⟩ : ∃ L, (hereL xs T V i j).length = L := ⟨_, rfl⟩
          have hLb : L ≤ 4100 := by have := hereL_len xs T V i j; have := (isE_ok HI.out).1; omega
          have HLL := Lib.hid hL
          rw [hL]
          have hOd10 := hOd.below hb10
          have hbr10 := Bst hbr hb10
          clear hps hL hOh hc1 hc2
          go_wp2_with fail
          go_loopw [12, 13, 14, 55] (fun s12 s13 s14 sp wr => ∃ p : Nat, s12 = _ ∧ s13 = .int .i64 i ∧ s14 = .int .i64 j ∧ sp = .int .i64 p ∧ p ≤ L ∧ Hid (((partsP (rus xs) T V i j).drop p).find? (fun p => decide (p.c + cc (rus xs) T V (i + p.f) (j + p.t) = cc (rus xs) T V i j)) = some pt) ∧ Below w10.heap.size w10 wr) (fun _ _ _ sp _ => L - (intOf sp).toNat)
          case atStart => exact ⟨0, rfl, rfl, rfl, rfl, by omega, HF.out, Below.refl _ _⟩
          case round =>
            obtain ⟨p, rfl, rfl, rfl, rfl, hp, HQ, hbp⟩ := hrel
            rename World => wp
            have hbX2 := Bst hbr10 hbp
            by_cases hpl : p < L
            · have hpl' : (p : Int) < L := by omega
              have hpm : p < (partsP (rus xs) T V i j).length := by
                have h := HLL.out
                rw [HPS.out, List.length_map] at h
                omega
              have hfd := find_drop hpm HQ.out
              obtain ⟨q, hq⟩ : ∃ q, (partsP (rus xs) T V i j)[p] = q := ⟨_, rfl⟩
              have hmem : q ∈ partsP (rus xs) T V i j := hq ▸ List.getElem_mem hpm
              rw [hq] at hfd
              obtain ⟨o1, o2, o3, o4⟩ := parts_ok (rus_ok HI.out) hi hj hmem
              obtain ⟨d1, d2, d3, d4⟩ := tol_dec HI.out HTR.out HVR.out hi hj hmem
              obtain ⟨t1, t2, t3⟩ := tol_is HI.out hmem
              have hcb := cc_bound (rus_ok HI.out) T V _ (i + q.f) (j + q.t) o2 o3 (Nat.le_refl _)
              have hcb2 := cc_bound (rus_ok HI.out) T V _ i j hi hj (Nat.le_refl _)
              obtain ⟨r1, _, e1, e2⟩ := hMX.at (i := i + q.f) (j := j + q.t) (Nat.zero_le _) o2 o3
              obtain ⟨r2, _, e3, e4⟩ := hMX.at (i := i) (j := j) (Nat.zero_le _) hi hj
              have e1 := bkc hbX2 e1
              have e2 := bkc hbX2 e2
              have e3 := bkc hbX2 e3
              have e4 := bkc hbX2 e4
              have e5 := bkc hbX2 (hX.cell 5)
              simp at e5
              obtain ⟨bh, oh, rfl, _, p1, p2, p3⟩ := hAh.n3 (fun _ => rfl) hbp p (by rw [HLL.out]; exact hpl)
              have hge : (hereL xs T V i j)[p]'(by rw [HLL.out]; exact hpl) = tolP xs T V i j q := by
                have : (hereL xs T V i j)[p]? = some (tolP xs T V i j q) := by rw [HPS.out, List.getElem?_map, List.getElem?_eq_getElem hpm, hq]; rfl
                obtain ⟨_, h⟩ := List.getElem?_eq_some_iff.1 this
                exact h
              rw [hge] at p1 p2 p3
              have hzf : lenS (tolP xs T V i j q).f = q.f := by unfold lenS; rw [d1]; exact d2
              have hzt : lenS (tolP xs T V i j q).t = q.t := by unfold lenS; rw [d3]; exact d4
              have sz1 : (tolP xs T V i j q).f.size ≤ 17592186044416 := by rw [t1]; have := txt_size ((T.drop i).take q.f); rw [d2] at this; omega
              have sz2 : (tolP xs T V i j q).t.size ≤ 17592186044416 := by rw [t2]; have := txt_size ((V.drop j).take q.t); rw [d4] at this; omega
              have C1 := Lib.hid (fun W => r12size_c (tolP xs T V i j q).f W sz1)
              have C2 := Lib.hid (fun W => r12size_c (tolP xs T V i j q).t W sz2)
              rw [hzf] at C1
              rw [hzt] at C2
              obtain ⟨⟨fx, tx, nx⟩, hx⟩ : ∃ x, tolP xs T V i j q = x := ⟨_, rfl⟩
              have HX := Lib.hid hx
              rw [hx] at p1 p2 p3 C1 C2 t3
              simp only at p1 p2 p3 C1 C2 t3
              obtain ⟨fi, hfi⟩ : ∃ n, i + q.f = n := ⟨_, rfl⟩
              obtain ⟨tj, htj⟩ : ∃ n, j + q.t = n := ⟨_, rfl⟩
              obtain ⟨pc, hpc⟩ : ∃ n, q.c = n := ⟨_, rfl⟩
              obtain ⟨gv, hgv⟩ : ∃ n, cc (rus xs) T V fi tj = n := ⟨_, rfl⟩
              obtain ⟨hv, hhv⟩ : ∃ n, cc (rus xs) T V i j = n := ⟨_, rfl⟩
              have HFD : Hid (if pc + gv = hv then pt = q else ((partsP (rus xs) T V i j).drop (p + 1)).find? (fun p => decide (p.c + cc (rus xs) T V (i + p.f) (j + p.t) = cc (rus xs) T V i j)) = some pt) := by
                show if _ then _ else _
                rw [hfi, htj, hpc, hgv, hhv] at hfd
                by_cases hh : pc + gv = hv
                · rw [if_pos hh]; rw [if_pos (by simpa using hh)] at hfd; exact hfd
                · rw [if_neg hh]; rw [if_neg (by simpa using hh)] at hfd; rw [hhv]; exact hfd
              rw [hfi] at e1 o2 hcb
              rw [htj] at e2 o3 hcb
              rw [hfi] at e2
              rw [hgv] at e2 hcb
              rw [hhv] at e4 hcb2
              rw [hpc] at t3 o4
              have HFI := Lib.hid hfi
              have HTJ := Lib.hid htj
              have HO1 := Lib.hid o1
              subst t3
              have wi : IntKind.i64.wrap ((i : Int) + (q.f : Int)) = (fi : Int) := by rw [IntWalk.i64_in _ (by omega)]; omega
              have wj2 : IntKind.i64.wrap ((j : Int) + (q.t : Int)) = (tj : Int) := by rw [IntWalk.i64_in _ (by omega)]; omega
              have wc : IntKind.i64.wrap ((pc : Int) + (gv : Int)) = (pc : Int) + (gv : Int) := IntWalk.i64_in _ (by omega)
              have li : (fi : Int) < (T.length : Int) + 1 := by omega
              have lj : (tj : Int) < (V.length : Int) + 1 := by omega
              have li2 : (i : Int) < (T.length : Int) + 1 := by omega
              have lj2 : (j : Int) < (V.length : Int) + 1 := by omega
              have kB : B3 (wp.alloc (.cells #[.string fx, .string tx, .int .i64 pc] 49)) wp.heap.size ⟨fx, tx, pc⟩ := B3.new wp ⟨fx, tx, pc⟩ 49
              have hOdp := hOd10.below hbp
              clear hfd hq hmem o1 d1 d2 d3 d4 t1 t2 hge hzf hzt sz1 sz2 hx hfi htj hpc hgv hhv HQ hOd10
              go_wp2_with fail
              refine region_seqP [(0, true), (1, true), (2, true), (5, true), (6, true), (7, true), (3, false), (4, true), (8, false), (9, true), (10, true), (11, true)] (by kernel_rfl) (by kernel_rfl) ?_
              intro W hW
              have hwW : Below wp.heap.size wp W := Bst Bel hW
              have kW := kB.below hW
              obtain ⟨_, x0, x1, x2⟩ := kW
              repeat (refine seq_q rfl (fun K hK => ?_); unfold takeQ; go_simp; refine hK _ ?_; clear hK K)
              refine seq_t rfl (fun K hK => ?_); go_simp
              refine (C1.out _).mono ?_
              rintro e w5 ⟨rfl, hb5⟩
              go_simp
              refine hK _ _ (.of hb5) ?_; clear hK K
              repeat (refine seq_q rfl (fun K hK => ?_); unfold takeQ; go_simp; refine hK _ ?_; clear hK K)
              refine seq_t rfl (fun K hK => ?_); go_simp
              refine (C2.out _).mono ?_
              rintro e w6 ⟨rfl, hb6⟩
              go_simp
              refine hK _ _ (.of (Bst hb5 hb6)) ?_; clear hK K
              repeat (refine seq_q rfl (fun K hK => ?_); unfold takeQ; go_simp; refine hK _ ?_; clear hK K)
              refine seq_nil ?_
              rw [noP_normal]
              have h06 : Below wp.heap.size wp w6 := Bst hwW (Bst hb5 hb6)
              have kW6 := kB.below (Bst hW (Bst hb5 hb6))
              have e1 := bkc h06 e1
              have e2 := bkc h06 e2
              have e3 := bkc h06 e3
              have e4 := bkc h06 e4
              have e5 := bkc h06 e5
              have hOd6 := hOdp.below h06
              clear x0 x1 x2 hwW kB hOdp hb5 hb6 hW
              go_wp2_with fail
              refine region_seqP [(0, true), (1, true), (2, true), (3, true), (4, true), (5, true), (6, true), (7, true), (8, true), (9, true), (10, true), (11, true), (12, true), (13, true), (14, true), (15, true), (16, true), (17, true), (18, true), (19, true)] (by kernel_rfl) (by kernel_rfl) ?_
              intro W7 hW7
              have k7 := kW6.below hW7
              obtain ⟨_, x0, x1, x2⟩ := k7
              have e1 := bkc hW7 e1
              have e2 := bkc hW7 e2
              have e3 := bkc hW7 e3
              have e4 := bkc hW7 e4
              have e5 := bkc hW7 e5
              repeat (refine seq_q rfl (fun K hK => ?_); unfold takeQ; go_simp; refine hK _ ?_; clear hK K)
              refine seq_nil ?_
              rw [noP_normal]
              have h07 := Bst h06 hW7
              have hOd7 := hOd6.below hW7
              clear e1 e2 e3 e4 e5 hOd6 kW6 h06 hW7
              by_cases hh : pc + gv = hv
              · have hpq : pt = q := by have := HFD.out; rw [if_pos hh] at this; exact this
                have hb0 : ((pc : Int) + (gv : Int) == (hv : Int)) = true := by rw [beq_iff_eq]; omega
                have HFP : Hid (fstP (rus xs) T V i j = some q) := by show _ = _; rw [HF.out, hpq]
                clear HFD hh hpq
                have hbXn : Below wX.heap.size wX W7 := Bst hbX2 h07
                go_wp2_with (at_builtin; refine app (E := eT3) (w0 := wX) _ _ 22 49 (.agg #[.string .empty, .string .empty, .int .i64 0]) 40 rfl rfl Tryd.underlying22 info_ruleH rfl (by decide) (by decide) _ done [⟨fx, tx, pc⟩] ⟨_, 0, none⟩ 1 1 rfl rfl rfl (hOd7.alloc _) (SlA.new eT3 _ _ _ _ (by simp) _ rfl) (Bal hbXn _) (by first | (simp; done) | (simp; omega)) ?_; intro v9 w9 HO9 hb9 hg9 _; go_frame)
                refine ⟨⟨fi, tj, done ++ [⟨fx, tx, pc⟩], by go_num, by go_num, by omega, by omega, ?_, HO9, hb9⟩, ?_⟩
                · show _ = _
                  rw [← HD.out, wayA_step HI.out a2 b2 hi hj HEND.out HFP.out, HX.out, HFI.out, HTJ.out, List.append_assoc]; rfl
                · have := HO1.out
                  have := HFI.out
                  have := HTJ.out
                  simp [intOf]; omega
              · have hfn : ((partsP (rus xs) T V i j).drop (p + 1)).find? (fun p => decide (p.c + cc (rus xs) T V (i + p.f) (j + p.t) = cc (rus xs) T V i j)) = some pt := by have := HFD.out; rw [if_neg hh] at this; exact this
                have hb0 : ((pc : Int) + (gv : Int) == (hv : Int)) = false := by rw [beq_eq_false_iff_ne]; omega
                have HFN := Lib.hid hfn
                clear HFD hh hfn
                go_wp2
                exact ⟨⟨p + 1, rfl, rfl, rfl, by go_num, by omega, HFN.out, Bst hbp h07⟩, by simp [intOf]; omega⟩
            · obtain rfl : p = L := by omega
              have h := HQ.out
              rw [List.drop_of_length_le (by have h := HLL.out; rw [HPS.out, List.length_map] at h; omega)] at h
              cases h
      · obtain rfl : i = T.length := by omega
        obtain rfl : j = V.length := by omega
        have g1 : ¬ (T.length : Int) < T.length := by omega
        have g2 : ¬ (V.length : Int) < V.length := by omega
        have HD2 : Hid (done = wayL xs t v) := by
          show _ = _
          rw [HW.out, ← HD.out, wayA_end, List.append_nil]
        go_wp2
        refine bodyPost_ret (results_tmp2 rfl _ _ _) rfl ?_
        refine ⟨_, by rw [H0.out]; rfl, ?_, Bst hbwX hbr⟩
        rw [← HD2.out]
        exact hOd.lower hbwX.size
  · have HV := Lib.hid (wayL_bad h0)
    obtain ⟨z, hz3⟩ : ∃ z, prcE xs t v = z := ⟨_, rfl⟩
    have hz0 : z ≠ 0 := hz3 ▸ h0
    have HZ := Lib.hid hz3
    clear h0 hz3
    go_enter Tryd.func17, Tryd.ntmps17
    go_wp2_with fail
    refine (r12chk_c A c xs t v _ (hs.below Bel) hm hz hz2).mono ?_
    rintro e w2 ⟨va, vb, rfl, hb2, _⟩
    rw [HZ.out]
    go_wp2
    go_ret2
    refine ⟨.slice none 0 0, by rw [HZ.out]; rfl, ?_, Bst Bel hb2⟩
    rw [HV.out]
    exact Own.nil _
end Go.Proofs.YtmpoihejacklnaaDoor
/- What is read of a price while its parts are collected; price.Parts where there is none. No condition. -/
namespace Go.Proofs.YtmpoihejacklnaaDoor
open Go Go.RowKit Go.Shelf
attribute [local go_sem] Oper.semAt_some
/-- The table of prices, as it is read. -/
structure MatR (B : Nat → Prop) (W : World) (G cb n m : Nat) (g : Nat → Nat → Nat) : Prop where
  bG : B G
  h6 : W.cell? ⟨G, 6, none⟩ = some (.slice (some ⟨cb, 0, none⟩) (n + 1) (n + 1))
  bc : B cb
  rows : ∀ i, i ≤ n → ∃ r, B r ∧ W.cell? ⟨cb, i, none⟩ = some (.slice (some ⟨r, 0, none⟩) (m + 1) (m + 1)) ∧ ∀ j, j ≤ m → W.cell? ⟨r, j, none⟩ = some (.int .i64 (g i j))
theorem MatR.kw {B : Nat → Prop} {W W' : World} {G cb n m : Nat} {g : Nat → Nat → Nat} (h : MatR B W G cb n m g) (hk : KwB B W W') : MatR B W' G cb n m g :=
  ⟨h.bG, hk.cell h.h6 h.bG, h.bc, fun i hi => by
    obtain ⟨r, a, b, c⟩ := h.rows i hi
    exact ⟨r, a, hk.cell b h.bc, fun j hj => hk.cell (c j hj) a⟩⟩
theorem Mat.read {B : Nat → Prop} {W : World} {base G cb n m Bn : Nat} {cs : List Sl} {g : Nat → Nat → Nat} (h : Mat W base cb n m 0 Bn cs g) (hG : B G) (h6 : W.cell? ⟨G, 6, none⟩ = some (.slice (some ⟨cb, 0, none⟩) (n + 1) (n + 1))) (hB : ∀ b, base ≤ b → b < W.heap.size → B b) : MatR B W G cb n m g := by
  have hb := h.own.ge cb rfl
  refine ⟨hG, h6, hB _ hb (h.slot (i := 0) (Nat.zero_le _)).1, fun i hi => ?_⟩
  obtain ⟨r, a, b, c, d⟩ := h.rows i (Nat.zero_le _) hi
  exact ⟨r, hB _ (by omega) (World.block_lt_of_cell? _ _ (d 0 (Nat.zero_le _))), h.cur a, d⟩
/-- What is read of a price, and what is written while its parts are collected. -/
structure InQ (w w3 : World) (B9 : Nat → Prop) (gB iB jB oB : Nat) (Gp i j : Nat) (vo : Value) (done : List T3) (Ds : List Nat) (W : World) : Prop where
  mks : Marks w.heap.size Ds W
  bg : Boxed W gB 58 (.pointer (some ⟨Gp, 0, none⟩))
  bi : Boxed W iB 3 (.int .i64 i)
  bj : Boxed W jB 3 (.int .i64 j)
  bo : Boxed W oB 22 vo
  own : Own eT3 w3.heap.size 49 W vo done
  kw : KwB B9 w3 W
  bel : Below w.heap.size w W
section
variable {w w3 : World} {B9 : Nat → Prop} {gB iB jB oB : Nat} {Gp i j : Nat} {vo : Value} {done : List T3} {Ds : List Nat} {W W' : World}
theorem InQ.kb (h : InQ w w3 B9 gB iB jB oB Gp i j vo done Ds W) {S : List Nat} {lim : Nat} (hk : Kb W W' S) (hS : ∀ s ∈ S, lim ≤ s) (hg : gB < lim) (hi : iB < lim) (hj : jB < lim) (ho : oB < lim) (hv : ∀ g, vo.ownBlock = some g → g ∉ S) (h9 : ∀ b, B9 b → b < lim) (hD : ∀ D ∈ Ds, D < lim) (h4 : w.heap.size ≤ lim) :
    InQ w w3 B9 gB iB jB oB Gp i j vo done Ds W' :=
  have ne : ∀ x, x < lim → x ∉ S := fun x hx h => by have := hS x h; omega
  ⟨h.mks.kb hk fun D h => ne _ (hD D h), boxed_kb h.bg hk (ne _ hg), boxed_kb h.bi hk (ne _ hi), boxed_kb h.bj hk (ne _ hj), boxed_kb h.bo hk (ne _ ho), h.own.kb hk hv,
    h.kw.trans (KwB.kb hk fun s hs hb => by have := hS s hs; have := h9 s hb; omega), hk.to (fun s hs => Nat.le_trans h4 (hS s hs)) h.bel (Nat.le_refl _)⟩
theorem InQ.ne (h : InQ w w3 B9 gB iB jB oB Gp i j vo done Ds W) {s : Nat} (hs : ∀ cs m, W.heap[s]? ≠ some (.cells cs 49 m)) : ∀ g, vo.ownBlock = some g → g ≠ s := fun g hg e => by
  obtain ⟨c, hc⟩ := h.own.cells hg
  rw [e] at hc
  exact hs _ _ hc
theorem InQ.below (h : InQ w w3 B9 gB iB jB oB Gp i j vo done Ds W) (hb : Below W.heap.size W W') : InQ w w3 B9 gB iB jB oB Gp i j vo done Ds W' :=
  ⟨h.mks.below hb, boxed_kb h.bg (Kb.below hb) (by simp), boxed_kb h.bi (Kb.below hb) (by simp), boxed_kb h.bj (Kb.below hb) (by simp), boxed_kb h.bo (Kb.below hb) (by simp), h.own.below hb, h.kw.trans (KwB.below hb), h.bel.trans (hb.mono h.bel.size)⟩
/-- The boxes and marks lie low. -/
structure LimQ (w : World) (B9 : Nat → Prop) (gB iB jB oB : Nat) (Ds : List Nat) (lim : Nat) : Prop where
  g : gB < lim
  i : iB < lim
  j : jB < lim
  o : oB < lim
  b : ∀ b, B9 b → b < lim
  d : ∀ D ∈ Ds, D < lim
  s : w.heap.size ≤ lim
theorem InQ.kbL (h : InQ w w3 B9 gB iB jB oB Gp i j vo done Ds W) {S : List Nat} {lim : Nat} (l : LimQ w B9 gB iB jB oB Ds lim) (hk : Kb W W' S) (hS : ∀ s ∈ S, lim ≤ s ∧ ∀ cs m, W.heap[s]? ≠ some (.cells cs 49 m)) :
    InQ w w3 B9 gB iB jB oB Gp i j vo done Ds W' := h.kb hk (fun s hs => (hS s hs).1) l.g l.i l.j l.o (fun g hg hs => h.ne (hS g hs).2 g hg rfl) l.b l.d l.s
theorem InQ.grown (h : InQ w w3 B9 gB iB jB oB Gp i j vo done Ds W) {lim : Nat} (l : LimQ w B9 gB iB jB oB Ds lim) {row : Option Nat} (hg : W.grownBy W' row) (hr : ∀ r, row = some r → lim ≤ r ∧ ∃ o : Obj, W.heap[r]? = some o ∧ o.isCells = false) :
    InQ w w3 B9 gB iB jB oB Gp i j vo done Ds W' := h.kbL l (kb_grown hg) fun s hs => by
  obtain ⟨h1, o, h2, h3⟩ := hr s (by simpa using hs)
  exact ⟨h1, fun cs m e => by rw [h2] at e; injection e with e; rw [e] at h3; cases h3⟩
theorem InQ.own1 (h : InQ w w3 B9 gB iB jB oB Gp i j vo done Ds W) {lim : Nat} (l : LimQ w B9 gB iB jB oB Ds lim) {u : Value} {xb : Nat} (hx : lim ≤ xb) (hxb : Boxed W xb 3 u) (ho : Own1 xb W W') :
    InQ w w3 B9 gB iB jB oB Gp i j vo done Ds W' := h.kbL l (Kb.grown ho.1) fun s hs => by
  obtain rfl : s = xb := by simpa using hs
  refine ⟨hx, fun cs m e => ?_⟩
  have e2 := (show W.heap[s]? = some (.cells #[u] 3 (0, 0)) from hxb).symm.trans e
  injection e2 with e2
  injection e2 with _ e2
  exact absurd e2 (by decide)
/-- The boxes are apart. -/
structure DisQ (w : World) (B9 : Nat → Prop) (gB iB jB oB : Nat) : Prop where
  gi : gB ≠ iB
  gj : gB ≠ jB
  go : gB ≠ oB
  ij : iB ≠ jB
  io : iB ≠ oB
  jo : jB ≠ oB
  bi : ¬ B9 iB
  bj : ¬ B9 jB
  bo : ¬ B9 oB
  si : w.heap.size ≤ iB
  sj : w.heap.size ≤ jB
  so : w.heap.size ≤ oB
theorem boxed_cells {X : Nat} {t : TypeId} {v : Value} (h : Boxed W X t v) : W.heap[X]? = some (.cells #[v] t (0, 0)) := h
theorem InQ.neb (h : InQ w w3 B9 gB iB jB oB Gp i j vo done Ds W) {X : Nat} {t : TypeId} {v : Value} (hx : Boxed W X t v) (ht : t ≠ 49) : ∀ g, vo.ownBlock = some g → g ≠ X := h.ne fun cs m e => by
  have e2 := (boxed_cells hx).symm.trans e
  injection e2 with e2
  injection e2 with _ e2
  exact ht e2
theorem InQ.ge (h : InQ w w3 B9 gB iB jB oB Gp i j vo done Ds W) : ∀ g, vo.ownBlock = some g → w3.heap.size ≤ g := fun g hg => h.own.ge g hg
theorem InQ.setI (h : InQ w w3 B9 gB iB jB oB Gp i j vo done Ds W) (d : DisQ w B9 gB iB jB oB) (i' : Nat) : InQ w w3 B9 gB iB jB oB Gp i' j vo done Ds (W.setCell ⟨iB, 0, none⟩ (.int .i64 i')) :=
  have hk : Kb W (W.setCell ⟨iB, 0, none⟩ (.int .i64 i')) [iB] := Kb.grown (grownBy_cell W iB 0 _)
  ⟨h.mks.kb hk fun D hD hR => by rw [List.mem_singleton.1 hR] at hD; exact h.mks.not_cells (boxed_cells h.bi) rfl hD, boxed_kb h.bg hk (by simpa using d.gi), h.bi.set _, boxed_kb h.bj hk (by simpa using d.ij.symm), boxed_kb h.bo hk (by simpa using d.io.symm), h.own.kb hk fun g hg => by simpa using h.neb h.bi (by decide) g hg,
    h.kw.trans (KwB.kb hk (by simpa using d.bi)), hk.to (by simpa using d.si) h.bel (Nat.le_refl _)⟩
theorem InQ.setJ (h : InQ w w3 B9 gB iB jB oB Gp i j vo done Ds W) (d : DisQ w B9 gB iB jB oB) (j' : Nat) : InQ w w3 B9 gB iB jB oB Gp i j' vo done Ds (W.setCell ⟨jB, 0, none⟩ (.int .i64 j')) :=
  have hk : Kb W (W.setCell ⟨jB, 0, none⟩ (.int .i64 j')) [jB] := Kb.grown (grownBy_cell W jB 0 _)
  ⟨h.mks.kb hk fun D hD hR => by rw [List.mem_singleton.1 hR] at hD; exact h.mks.not_cells (boxed_cells h.bj) rfl hD, boxed_kb h.bg hk (by simpa using d.gj), boxed_kb h.bi hk (by simpa using d.ij), h.bj.set _, boxed_kb h.bo hk (by simpa using d.jo.symm), h.own.kb hk fun g hg => by simpa using h.neb h.bj (by decide) g hg,
    h.kw.trans (KwB.kb hk (by simpa using d.bj)), hk.to (by simpa using d.sj) h.bel (Nat.le_refl _)⟩
/-- The parts' row grew, and lies in its box. -/
theorem InQ.push (h : InQ w w3 B9 gB iB jB oB Gp i j vo done Ds W) (d : DisQ w B9 gB iB jB oB) (h9 : ∀ b, B9 b → b < w3.heap.size) (h3 : w.heap.size ≤ w3.heap.size) {v' : Value} {ys : List T3} (hk : Kb W W' vo.ownBlock.toList) (hO : Own eT3 w3.heap.size 49 W' v' ys) :
    InQ w w3 B9 gB iB jB oB Gp i j v' ys Ds (W'.setCell ⟨oB, 0, none⟩ v') ∧ Kb W (W'.setCell ⟨oB, 0, none⟩ v') (oB :: vo.ownBlock.toList) := by
  have ne : ∀ {X : Nat} {t : TypeId} {v : Value}, Boxed W X t v → t ≠ 49 → X ∉ vo.ownBlock.toList := fun hx ht hm => h.neb hx ht _ (by simpa using hm) rfl
  have bo' := boxed_kb h.bo hk (ne h.bo (by decide))
  have hk2 : Kb W (W'.setCell ⟨oB, 0, none⟩ v') (oB :: vo.ownBlock.toList) := (hk.weak (fun _ h => List.mem_cons_of_mem _ h)).trans' ((Kb.grown (grownBy_cell W' oB 0 v')).weak (by simp))
  have nc : ∀ {X : Nat} {t : TypeId} {v : Value}, Boxed W X t v → t ≠ 49 → X ≠ oB → X ∉ oB :: vo.ownBlock.toList := fun hx ht ho hm => by
    rcases List.mem_cons.1 hm with h1 | h1
    · exact ho h1
    · exact ne hx ht h1
  refine ⟨⟨h.mks.kb hk2 fun D hD hm => ?_, boxed_kb h.bg hk2 (nc h.bg (by decide) d.go), boxed_kb h.bi hk2 (nc h.bi (by decide) d.io), boxed_kb h.bj hk2 (nc h.bj (by decide) d.jo), bo'.set _, ?_, h.kw.trans (KwB.kb hk2 fun s hs hb => ?_), hk2.to (fun s hs => ?_) h.bel (Nat.le_refl _)⟩, hk2⟩
  · rcases List.mem_cons.1 hm with h1 | h1
    · rw [h1] at hD; exact h.mks.not_cells (boxed_cells h.bo) rfl hD
    · obtain ⟨c, hc⟩ := h.own.cells (g := D) (by simpa using h1)
      exact h.mks.not_cells hc rfl hD
  · refine Own.kb hO (Kb.grown (grownBy_cell W' oB 0 v')) fun g hg hm => ?_
    have e : g = oB := by simpa using hm
    obtain ⟨c, hc⟩ := hO.cells hg
    rw [e] at hc
    have e2 := (boxed_cells bo').symm.trans hc
    injection e2 with e2
    injection e2 with _ e2
    exact absurd e2 (by decide)
  · rcases List.mem_cons.1 hs with h1 | h1
    · exact d.bo (h1 ▸ hb)
    · have := h.ge s (by simpa using h1); have := h9 s hb; omega
  · rcases List.mem_cons.1 hs with h1 | h1
    · rw [h1]; exact d.so
    · have := h.ge s (by simpa using h1); omega
theorem InQ.pushed (h : InQ w w3 B9 gB iB jB oB Gp i j vo done Ds W) (d : DisQ w B9 gB iB jB oB) (h9 : ∀ b, B9 b → b < w3.heap.size) (h3 : w.heap.size ≤ w3.heap.size) {W8 w9 : World} (hb : Below W.heap.size W W8) (hge : w3.heap.size ≤ W.heap.size) {v9 : Value} {y : T3} (HO9 : Own eT3 w.heap.size 49 w9 v9 (done ++ [y])) (hg9 : W8.grownBy w9 vo.ownBlock) (hmv : Moved W8 vo v9) :
    ∃ A9 c9, v9 = .slice A9 (done.length + 1) c9 ∧ Boxed w9 oB 22 vo ∧ InQ w w3 B9 gB iB jB oB Gp i j v9 (done ++ [y]) Ds (w9.setCell ⟨oB, 0, none⟩ v9) ∧ Kb W (w9.setCell ⟨oB, 0, none⟩ v9) (oB :: vo.ownBlock.toList) := by
  have hk9 : Kb W w9 vo.ownBlock.toList := ((Kb.below hb).weak (by simp)).trans' (kb_grown hg9)
  have HO9' : Own eT3 w3.heap.size 49 w9 v9 (done ++ [y]) := HO9.raise fun g hg => by
    rcases hmv with h1 | h1
    · exact h.ge g (h1 ▸ hg)
    · rw [h1] at hg
      injection hg with hg
      have := hb.size
      omega
  obtain ⟨A9, c9, e9, _, _, _⟩ := HO9'.slv
  obtain ⟨q1, q2⟩ := h.push d h9 h3 hk9 HO9'
  exact ⟨A9, c9, by rw [e9]; simp, boxed_kb h.bo hk9 fun hm => h.neb h.bo (by decide) _ (by simpa using hm) rfl, q1, q2⟩
theorem InQ.bx {vs : Array Value} {pb : Nat} (h : InQ w w3 B9 gB iB jB oB Gp i j vo done Ds W) (hx : Bx W pb 75 vs) : pb ∉ oB :: vo.ownBlock.toList := fun hm => by
  have h3 : W.heap[pb]? = some (.cells vs 75 (0, 0)) := hx
  rcases List.mem_cons.1 hm with h1 | h1
  · rw [h1] at h3
    have e2 := (boxed_cells h.bo).symm.trans h3
    injection e2 with e2
    injection e2 with _ e2
    exact absurd e2 (by decide)
  · refine h.ne (s := pb) (fun cs m e => ?_) pb (by simpa using h1) rfl
    have e2 := h3.symm.trans e
    injection e2 with e2
    injection e2 with _ e2
    exact absurd e2 (by decide)
theorem box_own1 {u : Value} {xb : Nat} (hxb : Boxed W xb 3 u) (ho : Own1 xb W W') : ∃ u, Boxed W' xb 3 u := by
  obtain ⟨hg, t, x, x', q1, q2⟩ := ho
  have e : some (Obj.cells #[x] t (0, 0)) = some (Obj.cells #[u] 3 (0, 0)) := (show W.heap[xb]? = _ from q1).symm.trans hxb
  injection e with e
  injection e with _ e
  subst e
  exact ⟨x', q2⟩
theorem box_grown {u : Value} {xb lim : Nat} (hx : xb < lim) (hxb : Boxed W xb 3 u) {row : Option Nat} (hg : W.grownBy W' row) (hr : ∀ r, row = some r → lim ≤ r ∧ ∃ o : Obj, W.heap[r]? = some o ∧ o.isCells = false) : ∃ u, Boxed W' xb 3 u :=
  ⟨u, boxed_kb hxb (kb_grown hg) fun h => by have := (hr _ (by simpa using h)).1; omega⟩
end
/-- A price's parts so far hold no cheapest one. -/
def NoFst (xs : List T3) (T V : List Int) (i j : Nat) (pre : List Pt) : Prop := ∀ p ∈ pre, ¬ p.c + cc (rus xs) T V (i + p.f) (j + p.t) = cc (rus xs) T V i j
/-- What holds while parts are handed on, and behind the first cheapest. -/
def InX (w w3 : World) (B9 : Nat → Prop) (gB iB jB oB Gp : Nat) (xs : List T3) (T V : List Int) (i j : Nat) (vo : Value) (done : List T3) (Ds : List Nat) (xb : Nat) (pre : List Pt) (W : World) : Prop :=
  (InQ w w3 B9 gB iB jB oB Gp i j vo done Ds W ∧ NoFst xs T V i j pre) ∧ ∃ u, Boxed W xb 3 u
def ExX (w w3 : World) (B9 : Nat → Prop) (gB iB jB oB Gp : Nat) (xs : List T3) (T V : List Int) (i j : Nat) (done : List T3) (Ds : List Nat) (xb : Nat) (c : Code) (_ : List Pt) (W : World) : Prop :=
  (c = .exit 1 ∧ ∃ q vo, fstP (rus xs) T V i j = some q ∧ InQ w w3 B9 gB iB jB oB Gp (i + q.f) (j + q.t) vo (done ++ [tolP xs T V i j q]) Ds W) ∧ ∃ u, Boxed W xb 3 u
section
variable {w w3 : World} {B9 : Nat → Prop} {gB iB jB oB Gp : Nat} {xs : List T3} {T V : List Int} {i j : Nat} {vo : Value} {done : List T3} {Ds : List Nat} {xb lim : Nat}
theorem InX.from (l : LimQ w B9 gB iB jB oB Ds lim) (hx : xb < lim) : OwnFrom lim (InX w w3 B9 gB iB jB oB Gp xs T V i j vo done Ds xb) := fun _ _ _ _ ⟨⟨h1, h2⟩, _, h3⟩ hg hr => ⟨⟨h1.grown l hg hr, h2⟩, box_grown hx h3 hg hr⟩
theorem ExX.from (l : LimQ w B9 gB iB jB oB Ds lim) (hx : xb < lim) (c : Code) : OwnFrom lim (ExX w w3 B9 gB iB jB oB Gp xs T V i j done Ds xb c) := fun _ _ _ _ ⟨⟨h0, q, v, h1, h2⟩, _, h3⟩ hg hr => ⟨⟨h0, q, v, h1, h2.grown l hg hr⟩, box_grown hx h3 hg hr⟩
theorem InX.own1 (l : LimQ w B9 gB iB jB oB Ds xb) {pre : List Pt} {W W' : World} (h : InX w w3 B9 gB iB jB oB Gp xs T V i j vo done Ds xb pre W) (ho : Own1 xb W W') : InX w w3 B9 gB iB jB oB Gp xs T V i j vo done Ds xb pre W' :=
  let ⟨⟨h1, h2⟩, _, h3⟩ := h; ⟨⟨h1.own1 l (Nat.le_refl _) h3 ho, h2⟩, box_own1 h3 ho⟩
theorem ExX.own1 (l : LimQ w B9 gB iB jB oB Ds xb) {c : Code} {pre : List Pt} {W W' : World} (h : ExX w w3 B9 gB iB jB oB Gp xs T V i j done Ds xb c pre W) (ho : Own1 xb W W') : ExX w w3 B9 gB iB jB oB Gp xs T V i j done Ds xb c pre W' :=
  let ⟨⟨h0, q, v, h1, h2⟩, _, h3⟩ := h; ⟨⟨h0, q, v, h1, h2.own1 l (Nat.le_refl _) h3 ho⟩, box_own1 h3 ho⟩
end
theorem fst_of {xs : List T3} {T V : List Int} {i j : Nat} {pre rest : List Pt} {p : Pt} (h : partsP (rus xs) T V i j = pre ++ p :: rest) (hn : NoFst xs T V i j pre) (hp : p.c + cc (rus xs) T V (i + p.f) (j + p.t) = cc (rus xs) T V i j) : fstP (rus xs) T V i j = some p := by
  unfold fstP
  rw [h, List.find?_append, List.find?_eq_none.2 (fun q hq => by simpa using hn q hq), List.find?_cons, decide_eq_true hp]
  rfl
theorem perr_c (A : Option Addr) (c : Nat) (xs : List T3) (t v : ByteArray) (w : World) (hU : U w) (hs : SlA eT3 w A xs) (hm : Small xs) (hz : t.size ≤ 17592186044416) (hz2 : v.size ≤ 17592186044416) (h0 : prcE xs t v ≠ 0) :
    Calls Tryd.prog 16 #[.slice A xs.length c, .string t, .string v] w (WayPost w xs t v) := by
  have HV := Lib.hid (wayL_bad h0)
  have C := fun W hW => pfill_err A c xs t v W (hU.to hW) (hs.below hW) hm hz hz2 h0
  obtain ⟨z, hz3⟩ : ∃ z, prcE xs t v = z := ⟨_, rfl⟩
  have hz0 : z ≠ 0 := hz3 ▸ h0
  rw [hz3] at C
  have HZ := Lib.hid hz3
  have hbo := Boxed.new w 22 (.slice none 0 0)
  have hba : Below w.heap.size w (w.alloc (.cells #[.slice none 0 0] 22)) := Bal (Below.refl _ _) _
  clear h0 hz3
  go_enter Tryd.func16, Tryd.ntmps16
  go_wp2
  go_step3
  go_wp2_with fail
  generalize (w.alloc (.cells #[.slice none 0 0] 22)) = w0 at hbo hba ⊢
  refine (C _ hba).mono ?_
  rintro e w2 ⟨rfl, hb2⟩
  have hbo2 := boxed_kb hbo (Kb.below hb2) (by simp)
  have c0 := hbo2.cell
  have f0 := hbo2.frozen
  have hl0 := hbo2.lt
  have hb02 := Bst hba hb2
  clear hbo hba hb2
  go_wp2
  rw [Exit.noGoto_ret]
  have hc1 := ((hbo2.set (.slice none 0 0)).alloc (.cells #[.pointer none] 58)).cell
  refine bodyPost_ret (v := .tuple #[.slice none 0 0, .int .i64 z]) (by simp [results, go_sem, hc1]) rfl ?_
  refine ⟨_, by rw [HZ.out], ?_, ?_⟩
  · rw [HV.out]
    exact Own.nil _
  · exact Bal (Kb.to (Kb.grown (grownBy_cell w2 w.heap.size 0 _)) (by simp) hb02 (Nat.le_refl _)) _
end Go.Proofs.YtmpoihejacklnaaDoor
/- A region that draws its order, in an order of one's own, where blocks may be turned: some from the start, more of them once one operation is done; a last operation may turn anything. No condition. -/
namespace Go.Proofs.YtmpoihejacklnaaDoor
open Go Go.RowKit
inductive OZ where
  | z
  | q (i : Nat) (r : OZ)
  | p (i : Nat) (r : OZ)
  | t (i : Nat) (r : OZ)
def OZ.deep : OZ → Nat
  | z => 1
  | q _ r => r.deep + 1
  | p _ r => r.deep + 1
  | t _ r => r.deep + 1
def OZ.okB (ops : Array Oper) (s u : Nat) : OZ → Bool → Array Bool → Bool
  | z, _, listed => decide (Region.ready .any ops listed = [u]) && (Region.ready .any ops (listed.setIfInBounds u true)).isEmpty
  | q i r, sw, listed => !sw && decide (i ≠ s) && decide (i ≠ u) && Region.waitsFor .any ops s i && Region.waitsFor .any ops u i && (Region.ready .any ops listed).contains i && Region.free .any ops listed i && r.okB ops s u sw (listed.setIfInBounds i true)
  | p i r, sw, listed => decide (i ≠ s) && decide (i ≠ u) && Region.waitsFor .any ops u i && (Region.ready .any ops listed).contains i && Region.free .any ops listed i && r.okB ops s u sw (listed.setIfInBounds i true)
  | t i r, sw, listed => decide (i ≠ u) && decide (Region.ready .any ops listed = [i]) && r.okB ops s u (sw || decide (i = s)) (listed.setIfInBounds i true)
section
variable {P : Program} {ops : Array Oper} {S S2 : List Nat}
/-- The class: more blocks may be turned once s is done. -/
def clsZ (w0 : World) (S S2 : List Nat) (s u : Nat) (listed : Array Bool) (w : World) : Prop := (listed.getD u false = false → listed.getD s false = false → ExtS w0 S w) ∧ (listed.getD u false = false → ExtS w0 (S ++ S2) w)
theorem clsZ_set {w0 : World} {s u i : Nat} (h : i ≠ s) (hu : i ≠ u) (listed : Array Bool) (w : World) : clsZ w0 S S2 s u (listed.setIfInBounds i true) w ↔ clsZ w0 S S2 s u listed w := by
  unfold clsZ
  rw [getD_set_ne false h, getD_set_ne false hu]
theorem unlisted_of {ops : Array Oper} {u i : Nat} {listed : Array Bool} (hwf : Region.waitsFor .any ops u i = true) (inv : HeadInv .any ops ops.size listed) (hun : listed.getD i true = false) : listed.getD u false = false := by
  cases hl : listed.getD u false with
  | false => rfl
  | true =>
    obtain ⟨oj, hoj, e, he, hb, hon⟩ := Region.waitsFor_spec hwf
    have h2 := inv.closed u oj hoj hl e he hb
    rw [hon, getD_both hun] at h2
    cases h2
def wpTrZ (P : Program) (ops : Array Oper) (w0 : World) (S S2 : List Nat) (s u : Nat) (Q : Exit → Act → World → Prop) : OZ → Bool → Act → World → Prop
  | .z, _, a, w => match ops[u]? with
    | none => False
    | some o => if Region.wanted o (yielded ops a.tmps) then o.wp P a w (fun a' w' => Q .normal a' w') Q else Q .normal (a.put o.dst undef) w
  | .q i r, sw, a, w => match ops[i]? with
    | none => False
    | some o => takeS P ops w0 S o a (fun a' => wpTrZ P ops w0 S S2 s u Q r sw a' w)
  | .p i r, sw, a, w => match ops[i]? with
    | none => False
    | some o => takeS P ops w0 (S ++ S2) o a (fun a' => wpTrZ P ops w0 S S2 s u Q r sw a' w)
  | .t i r, sw, a, w => match ops[i]? with
    | none => False
    | some o => if Region.wanted o (yielded ops a.tmps) then o.wp P a w (fun a' w' => ExtS w0 (if sw || decide (i = s) then S ++ S2 else S) w' ∧ wpTrZ P ops w0 S S2 s u Q r (sw || decide (i = s)) a' w') Q else wpTrZ P ops w0 S S2 s u Q r (sw || decide (i = s)) (a.put o.dst undef) w
theorem wpAnyZ_of_tree {w0 : World} {s u : Nat} {Q : Exit → Act → World → Prop} (hsel : Region.noSelect ops = true) (hQ : ∀ c a d v w, Q (.panic c) (Act.put a d v) w → Q (.panic c) a w) :
    ∀ (l : OZ) (sw : Bool) (listed : Array Bool) (a : Act) (w : World), listed.getD u false = false → (sw = false → listed.getD s false = false) → (sw = false → ExtS w0 S w) → ExtS w0 (S ++ S2) w → HeadInv .any ops ops.size listed → (sw = true → listed.getD s false = true) → l.okB ops s u sw listed = true → wpTrZ P ops w0 S S2 s u Q l sw a w →
      wpAnyX P ops Q (clsZ w0 S S2 s u) l.deep listed a w
  | .z, sw, listed, a, w, hu, h1, h2, h3, inv, h5, hB, h => by
    simp only [OZ.okB, Bool.and_eq_true, decide_eq_true_eq] at hB
    obtain ⟨hr, h0⟩ := hB
    have h0 : Region.ready .any ops (listed.setIfInBounds u true) = [] := by simpa using h0
    simp only [wpTrZ] at h
    have hr' : u ∈ Region.ready .any ops listed := by rw [hr]; simp
    refine ⟨fun h => (by rw [h] at hr'; cases hr'), fun j hj => ?_⟩
    obtain rfl : j = u := by rw [hr] at hj; simpa using hj
    cases ho : ops[j]? with
    | none => rw [ho] at h; exact h.elim
    | some o =>
      rw [ho] at h
      have hin : j < ops.size := (Array.getElem?_eq_some_iff.1 ho).1
      have hset : (listed.setIfInBounds j true).getD j false = true := by
        have : j < listed.size := by rw [inv.size]; exact hin
        simp [this]
      have hcl : ∀ w', clsZ w0 S S2 s j (listed.setIfInBounds j true) w' := fun w' => ⟨fun e => (by rw [hset] at e; cases e), fun e => (by rw [hset] at e; cases e)⟩
      unfold wpOp
      rw [ho]
      dsimp only at h ⊢
      by_cases hw : Region.wanted o (yielded ops a.tmps) = true
      · rw [if_pos hw] at h ⊢
        exact .inl (Oper.wp_mono (fun a' w' h' => ⟨hcl w', h0, h'⟩) h)
      · rw [if_neg hw] at h ⊢
        exact ⟨hcl w, h0, h⟩
  | .q i r, sw, listed, a, w, hu, h1, h2, h3, inv, h5, hB, h => by
    simp only [OZ.okB, Bool.and_eq_true, decide_eq_true_eq, Bool.not_eq_true'] at hB
    obtain ⟨⟨⟨⟨⟨⟨⟨hsw, his⟩, hiu⟩, hwf⟩, hwu⟩, hr⟩, hf⟩, hB⟩ := hB
    subst hsw
    simp only [wpTrZ] at h
    have hr' : i ∈ Region.ready .any ops listed := by simpa using hr
    cases ho : ops[i]? with
    | none => rw [ho] at h; exact h.elim
    | some o =>
      rw [ho] at h
      simp only [takeS] at h
      have hD : ∀ (listed : Array Bool) (w : World), HeadInv .any ops ops.size listed → listed.getD i true = false → clsZ w0 S S2 s u listed w → ExtS w0 S w := fun listed' w' inv' hun hc => hc.1 (unlisted_of hwu inv' hun) (unlisted_of hwf inv' hun)
      have hls : ∀ sw', sw' = false → (listed.setIfInBounds i true).getD s false = false := fun _ _ => by rw [getD_set_ne false his]; exact h1 rfl
      have hlu : (listed.setIfInBounds i true).getD u false = false := by rw [getD_set_ne false hiu]; exact hu
      have hin : i < ops.size := (Array.getElem?_eq_some_iff.1 ho).1
      have hcl : clsZ w0 S S2 s u listed w := ⟨fun _ _ => h2 rfl, fun _ => h3⟩
      by_cases hw : Region.wanted o (yielded ops a.tmps) = true
      · rw [if_pos hw] at h
        obtain ⟨v, k1, k2⟩ := h
        exact wpAnyX_first ho (Region.noSelect_spec hsel) (fun c a w => hQ c a _ _ w) hD (fun l w => (clsZ_set his hiu l w).2) (fun l w => (clsZ_set his hiu l w).1) r.deep listed a w inv (Region.free_spec ho hf) hr'
          (.inl ⟨hw, fun W hW => by obtain ⟨X, rfl⟩ := hW; exact k1 X⟩) hcl (wpAnyZ_of_tree hsel hQ r false _ _ w hlu (hls _) h2 h3 (inv.set hr' hin) (fun h => by cases h) hB k2)
      · rw [if_neg hw] at h
        exact wpAnyX_first ho (Region.noSelect_spec hsel) (fun c a w => hQ c a _ _ w) hD (fun l w => (clsZ_set his hiu l w).2) (fun l w => (clsZ_set his hiu l w).1) r.deep listed a w inv (Region.free_spec ho hf) hr'
          (.inr ⟨by simpa using hw, rfl⟩) hcl (wpAnyZ_of_tree hsel hQ r false _ _ w hlu (hls _) h2 h3 (inv.set hr' hin) (fun h => by cases h) hB h)
  | .p i r, sw, listed, a, w, hu, h1, h2, h3, inv, h5, hB, h => by
    simp only [OZ.okB, Bool.and_eq_true, decide_eq_true_eq] at hB
    obtain ⟨⟨⟨⟨⟨his, hiu⟩, hwu⟩, hr⟩, hf⟩, hB⟩ := hB
    simp only [wpTrZ] at h
    have hr' : i ∈ Region.ready .any ops listed := by simpa using hr
    cases ho : ops[i]? with
    | none => rw [ho] at h; exact h.elim
    | some o =>
      rw [ho] at h
      simp only [takeS] at h
      have hD : ∀ (listed : Array Bool) (w : World), HeadInv .any ops ops.size listed → listed.getD i true = false → clsZ w0 S S2 s u listed w → ExtS w0 (S ++ S2) w := fun listed' w' inv' hun hc => hc.2 (unlisted_of hwu inv' hun)
      have hls : sw = false → (listed.setIfInBounds i true).getD s false = false := fun h => by rw [getD_set_ne false his]; exact h1 h
      have hls2 : sw = true → (listed.setIfInBounds i true).getD s false = true := fun h => by rw [getD_set_ne false his]; exact h5 h
      have hlu : (listed.setIfInBounds i true).getD u false = false := by rw [getD_set_ne false hiu]; exact hu
      have hin : i < ops.size := (Array.getElem?_eq_some_iff.1 ho).1
      have hcl1 : listed.getD s false = false → ExtS w0 S w := fun hl => by
        cases sw with
        | false => exact h2 rfl
        | true => rw [h5 rfl] at hl; cases hl
      have hcl : clsZ w0 S S2 s u listed w := ⟨fun _ => hcl1, fun _ => h3⟩
      by_cases hw : Region.wanted o (yielded ops a.tmps) = true
      · rw [if_pos hw] at h
        obtain ⟨v, k1, k2⟩ := h
        exact wpAnyX_first ho (Region.noSelect_spec hsel) (fun c a w => hQ c a _ _ w) hD (fun l w => (clsZ_set his hiu l w).2) (fun l w => (clsZ_set his hiu l w).1) r.deep listed a w inv (Region.free_spec ho hf) hr'
          (.inl ⟨hw, fun W hW => by obtain ⟨X, rfl⟩ := hW; exact k1 X⟩) hcl (wpAnyZ_of_tree hsel hQ r sw _ _ w hlu hls h2 h3 (inv.set hr' hin) hls2 hB k2)
      · rw [if_neg hw] at h
        exact wpAnyX_first ho (Region.noSelect_spec hsel) (fun c a w => hQ c a _ _ w) hD (fun l w => (clsZ_set his hiu l w).2) (fun l w => (clsZ_set his hiu l w).1) r.deep listed a w inv (Region.free_spec ho hf) hr'
          (.inr ⟨by simpa using hw, rfl⟩) hcl (wpAnyZ_of_tree hsel hQ r sw _ _ w hlu hls h2 h3 (inv.set hr' hin) hls2 hB h)
  | .t i r, sw, listed, a, w, hu, h1, h2, h3, inv, h5, hB, h => by
    simp only [OZ.okB, Bool.and_eq_true, decide_eq_true_eq] at hB
    obtain ⟨⟨hiu, hr⟩, hB⟩ := hB
    simp only [wpTrZ] at h
    have hr' : i ∈ Region.ready .any ops listed := by rw [hr]; simp
    refine ⟨fun h => (by rw [h] at hr'; cases hr'), fun j hj => ?_⟩
    obtain rfl : j = i := by rw [hr] at hj; simpa using hj
    cases ho : ops[j]? with
    | none => rw [ho] at h; exact h.elim
    | some o =>
      rw [ho] at h
      have hin : j < ops.size := (Array.getElem?_eq_some_iff.1 ho).1
      have hlu : (listed.setIfInBounds j true).getD u false = false := by rw [getD_set_ne false hiu]; exact hu
      have ls : (sw || decide (j = s)) = false → (listed.setIfInBounds j true).getD s false = false := fun h => by
        simp only [Bool.or_eq_false_iff, decide_eq_false_iff_not] at h
        rw [getD_set_ne false h.2]; exact h1 h.1
      have ls2 : (sw || decide (j = s)) = true → (listed.setIfInBounds j true).getD s false = true := fun h => by
        simp only [Bool.or_eq_true, decide_eq_true_eq] at h
        rcases h with h | h
        · exact getD_set_true (h5 h)
        · subst h
          have : j < listed.size := by rw [inv.size]; exact hin
          simp [this]
      have fin : ∀ a' w', ExtS w0 (if sw || decide (j = s) then S ++ S2 else S) w' → wpTrZ P ops w0 S S2 s u Q r (sw || decide (j = s)) a' w' → clsZ w0 S S2 s u (listed.setIfInBounds j true) w' ∧ wpAnyX P ops Q (clsZ w0 S S2 s u) r.deep (listed.setIfInBounds j true) a' w' := fun a' w' k1 k2 => by
        have e2 : ExtS w0 (S ++ S2) w' := by
          split at k1
          · exact k1
          · exact k1.more
        have e1 : (sw || decide (j = s)) = false → ExtS w0 S w' := fun h => by rw [h] at k1; simpa using k1
        have e3 : (listed.setIfInBounds j true).getD s false = false → ExtS w0 S w' := fun hl => by
          cases hq : (sw || decide (j = s)) with
          | false => exact e1 hq
          | true => rw [ls2 hq] at hl; cases hl
        exact ⟨⟨fun _ => e3, fun _ => e2⟩, wpAnyZ_of_tree hsel hQ r _ _ a' w' hlu ls e1 e2 (inv.set hr' hin) ls2 hB k2⟩
      unfold wpOp
      rw [ho]
      dsimp only at h ⊢
      by_cases hw : Region.wanted o (yielded ops a.tmps) = true
      · rw [if_pos hw] at h ⊢
        exact .inl (Oper.wp_mono (fun a' w' h' => fin a' w' h'.1 h'.2) h)
      · rw [if_neg hw] at h ⊢
        refine fin _ _ ?_ h
        by_cases hq : (sw || decide (j = s)) = true
        · rw [if_pos hq]; exact h3
        · rw [if_neg hq]; exact h2 (by simp only [Bool.not_eq_true, Bool.or_eq_false_iff] at hq; exact hq.1)
theorem treeZ_any {Q : Exit → Act → World → Prop} {a : Act} {w : World} (S S2 : List Nat) (s u : Nat) (L : OZ) (hB : (Region.noSelect ops && decide (L.deep = ops.size) && L.okB ops s u false (Array.replicate ops.size false)) = true)
    (hQ : ∀ c a d v w, Q (.panic c) (Act.put a d v) w → Q (.panic c) a w) (h : wpTrZ P ops w S S2 s u Q L false a w) : wpAny P .any ops Q ops.size (Array.replicate ops.size false) a w := by
  simp only [Bool.and_eq_true, decide_eq_true_eq] at hB
  obtain ⟨⟨hsel, hl⟩, hB⟩ := hB
  have inv0 : HeadInv .any ops ops.size (Array.replicate ops.size false) :=
    ⟨by simp, fun j oj _ hl => (by rw [getD_replicate_false] at hl; cases hl), fun t ht ht' => by omega⟩
  have h' := wpAnyZ_of_tree hsel hQ L false _ a _ (getD_replicate_false _ _) (fun _ => getD_replicate_false _ _) (fun _ => .of (Kb.refl _ _)) (.of (Kb.refl _ _)) inv0 (fun h => by cases h) hB h
  rw [hl] at h'
  exact wpAny_of_X _ _ _ _ h'
theorem region_treeZR {lr m : Nat} {id : Nat} {Q : Exit → Act → World → Prop} {a : Act} {w : World} (S S2 : List Nat) (s u : Nat) (L : OZ) (hm : P.follows .mixedOrders = true)
    (hB : (ops.all noDefer && (Region.noSelect ops && decide (L.deep = ops.size) && L.okB ops s u false (Array.replicate ops.size false))) = true)
    (h : ∀ W, Below w.heap.size w W → wpTrZ P ops W S S2 s u (onlyN Q) L false a W) : (Code.region id ops true).wpIn (Fence.wide.inRound lr) m P Q a w := by
  have h := h w.drew (Below.refl _ w).drew
  rw [Bool.and_eq_true] at hB
  have hnd' : ∀ (i : Nat) (o : Oper), ops[i]? = some o → noDefer o = true := fun i o ho => by
    obtain ⟨hi, rfl⟩ := Array.getElem?_eq_some_iff.1 ho
    exact Array.all_eq_true.1 hB.1 i hi
  exact wpIn_region_any hm (wpAnyIn_of_wpAny hnd' _ _ _ _ (treeZ_any S S2 s u L hB.2 (fun _ _ _ _ _ h => h.elim) h))
theorem trZ_z {w0 : World} {s u : Nat} {Q : Exit → Act → World → Prop} {sw : Bool} {a : Act} {w : World} {o : Oper} (ho : ops[u]? = some o)
    (h : if Region.wanted o (yielded ops a.tmps) then o.wp P a w (fun a' w' => Q .normal a' w') Q else Q .normal (a.put o.dst undef) w) : wpTrZ P ops w0 S S2 s u Q .z sw a w := by simp only [wpTrZ, ho]; exact h
theorem trZ_q {w0 : World} {s u : Nat} {Q : Exit → Act → World → Prop} {sw : Bool} {a : Act} {w : World} {i : Nat} {r : OZ} {o : Oper} (ho : ops[i]? = some o)
    (h : ∀ K : Act → Prop, (∀ a', wpTrZ P ops w0 S S2 s u Q r sw a' w → K a') → takeS P ops w0 S o a K) : wpTrZ P ops w0 S S2 s u Q (.q i r) sw a w := by
  simp only [wpTrZ, ho]
  exact h _ fun _ h => h
theorem trZ_p {w0 : World} {s u : Nat} {Q : Exit → Act → World → Prop} {sw : Bool} {a : Act} {w : World} {i : Nat} {r : OZ} {o : Oper} (ho : ops[i]? = some o)
    (h : ∀ K : Act → Prop, (∀ a', wpTrZ P ops w0 S S2 s u Q r sw a' w → K a') → takeS P ops w0 (S ++ S2) o a K) : wpTrZ P ops w0 S S2 s u Q (.p i r) sw a w := by
  simp only [wpTrZ, ho]
  exact h _ fun _ h => h
theorem trZ_t {w0 : World} {s u : Nat} {Q : Exit → Act → World → Prop} {sw : Bool} {a : Act} {w : World} {i : Nat} {r : OZ} {o : Oper} (sw' : Bool) (hs : (sw || decide (i = s)) = sw') (ho : ops[i]? = some o)
    (h : ∀ K : Act → World → Prop, (∀ a' w', ExtS w0 (if sw' then S ++ S2 else S) w' → wpTrZ P ops w0 S S2 s u Q r sw' a' w' → K a' w') → if Region.wanted o (yielded ops a.tmps) then o.wp P a w K Q else K (a.put o.dst undef) w) : wpTrZ P ops w0 S S2 s u Q (.t i r) sw a w := by
  subst hs
  simp only [wpTrZ, ho]
  have h' := h (fun a' w' => ExtS w0 (if sw || decide (i = s) then S ++ S2 else S) w' ∧ wpTrZ P ops w0 S S2 s u Q r (sw || decide (i = s)) a' w') fun _ _ h1 h2 => ⟨h1, h2⟩
  split
  · rename_i hw; rw [if_pos hw] at h'; exact h'
  · rename_i hw; rw [if_neg hw] at h'; exact h'.2
end
attribute [irreducible] wpTrZ
end Go.Proofs.YtmpoihejacklnaaDoor
