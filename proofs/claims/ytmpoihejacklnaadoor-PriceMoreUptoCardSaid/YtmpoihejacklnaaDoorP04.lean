/- Parts of these proofs, one behind the other: Hr12, TreF. No condition. -/
import Derived.Test.YtmpoihejacklnaaDoorP03
import Derived.Test.YtmpoihejacklnaaDoorP02
/- errataref12.here walked. No condition. -/
namespace Go.Proofs.YtmpoihejacklnaaDoor
open Go Go.RowKit
def HerePost (w : World) (xs : List T3) (T V : List Int) (i j : Nat) (e : Ending) (w' : World) : Prop :=
  ∃ v, e = .returned v ∧ Own eT3 w.heap.size 49 w' v (hereL xs T V i j) ∧ Below w.heap.size w w'
theorem fromsL_at {xs : List T3} {k : Nat} (h : k < xs.length) : (froms xs)[k]? = some (ruAt (rus xs) k).f := by
  unfold froms
  rw [List.getElem?_map, List.getElem?_eq_getElem h, rus_at h]; rfl
theorem isR_nth {T : List Int} (hT : ∀ r ∈ T, IsR r) {i : Nat} (hi : i < T.length) : ∀ r ∈ [nth T i], IsR r := fun r hr => by
  obtain rfl : r = nth T i := by simpa using hr
  rw [nth_at hi]
  exact hT _ (List.getElem_mem hi)
theorem info_ruleH : (Tryd.prog.info? 49).map (fun i => (i.zero, i.size, i.bytes)) = some (some (.agg #[.string .empty, .string .empty, .int .i64 0]), 3, 40) := by kernel_rfl
set_option maxRecDepth 100000 in
set_option maxHeartbeats 4000000 in
theorem here_s (A F O At Av : Option Addr) (c cf co ct cv : Nat) (xs : List T3) (T V : List Int) (i j : Nat) (w : World) (hs : SlA eT3 w A xs) (hF : RwB (fun _ => True) (eInt .i32) w F (froms xs)) (hO : RwB (fun _ => True) (eInt .i32) w O (tosL xs)) (ht : SlA (eInt .i32) w At T) (hv : SlA (eInt .i32) w Av V)
    (hct : T.length ≤ ct) (hct2 : ct ≤ 9223372036854775807) (hcv : V.length ≤ cv) (hcv2 : cv ≤ 9223372036854775807) (hT : T.length ≤ 64) (hV : V.length ≤ 64) (hTr : ∀ r ∈ T, IsR r) (hVr : ∀ r ∈ V, IsR r) (hI : isE xs = 0)
    (hi : i < T.length) (hj : j < V.length) (hst : nth T i = nth V j) :
    Calls Tryd.prog 32 #[.slice A xs.length c, .slice F xs.length cf, .slice O xs.length co, .slice At T.length ct, .slice Av V.length cv, .int .i64 i, .int .i64 j] w (HerePost w xs T V i j) := by
  have hxl := (isE_ok hI).1
  have HI := Lib.hid hI
  have HTR := Lib.hid hTr
  have HVR := Lib.hid hVr
  clear hI hTr hVr
  have hi' : (i : Int) < T.length := by omega
  have hj' : (j : Int) < V.length := by omega
  have hci : (i : Int) + 1 ≤ ct := by omega
  have hcj : (j : Int) + 1 ≤ cv := by omega
  have hni : ¬ ct = i := by omega
  have hnj : ¬ cv = j := by omega
  have hle : (i : Int) ≤ (i : Int) + 1 := by omega
  have hle2 : (j : Int) ≤ (j : Int) + 1 := by omega
  obtain ⟨x, hx⟩ : ∃ x, nth T i = x := ⟨_, rfl⟩
  obtain ⟨g3, o3, rfl, q3⟩ := ht.at1 (fun _ => rfl) (Below.refl _ _) i hi
  obtain ⟨g4, o4, rfl, q4⟩ := hv.at1 (fun _ => rfl) (Below.refl _ _) j hj
  rw [← nth_at hi] at q3
  rw [← nth_at hj, ← hst] at q4
  have t1 := ht.one1 i hi
  have v1 := hv.one1 j hj
  have r1 := isR_nth HTR.out hi
  have r2 := isR_nth HVR.out hj
  rw [← hst] at v1 r2
  rw [hx] at q3 q4 t1 v1 r1 r2
  have HA : Hid (hA T V i j = [⟨txt [x], txt [x], 0⟩]) := by show _ = _; unfold hA; rw [if_pos ⟨hi, hj, hst⟩, hx]
  have HCC : Hid (hC T V i j = []) := by show _ = _; unfold hC; rw [if_neg (fun h => h.2.2 hst)]
  have HD : Hid (hD T i = [⟨txt [x], .empty, 255⟩]) := by show _ = _; unfold hD; rw [if_pos hi, hx]
  have HEE : Hid (hE V j = [⟨.empty, txt [x], 255⟩]) := by show _ = _; unfold hE; rw [if_pos hj, ← hst, hx]
  have hxx : (x == x) = true := by simp
  have HR1 := Lib.hid r1
  have HR2 := Lib.hid r2
  have HX := Lib.hid (And.intro hst hx)
  clear hst hx r1 r2
  go_enter Tryd.func32, Tryd.ntmps32
  go_wp2_with fail
  go_region
  have hbd : Below w.heap.size w w.drew := Below.drew (Below.refl _ _)
  generalize w.drew = wd at hbd ⊢
  go_wp2_with fail
  refine (r1text_c (some ⟨g3, o3 + i, none⟩) (ct - i) [x] _ (t1.below hbd) HR1.out (by simp)).mono ?_
  rintro e w2 ⟨rfl, hb2⟩
  have hb02 : Below w.heap.size w w2 := Bst hbd hb2
  have hO0' : Own eT3 w.heap.size 49 w2 (.slice none 0 0) [] := Own.nil _
  go_wp2_with (at_builtin; refine app (E := eT3) (w0 := w) _ _ 22 49 (.agg #[.string .empty, .string .empty, .int .i64 0]) 40 rfl rfl Tryd.underlying22 info_ruleH rfl (by decide) (by decide) _ [] [⟨txt [x], txt [x], 0⟩] ⟨_, 0, none⟩ 1 1 rfl rfl rfl (hO0'.alloc _) (SlA.new eT3 _ _ _ _ (by simp) _ rfl) Bel (by first | (simp; done) | (simp; omega)) ?_; intro v7 w7 HO7 hb7 hg7 _; go_frame)
  have hO0 := HO7
  have hbx := hb7
  simp only [List.nil_append] at hO0
  go_loopw [15, 58] (fun so sk wr => ∃ k : Nat, sk = .int .i64 k ∧ k ≤ xs.length ∧ Own eT3 w.heap.size 49 wr so ([⟨txt [x], txt [x], 0⟩] ++ hB xs T V i j k) ∧ Below w.heap.size w wr) (fun _ sk _ => xs.length - (intOf sk).toNat)
  case atStart => exact ⟨0, rfl, by omega, by simpa [hB] using hO0, hbx⟩
  case round =>
    obtain ⟨k, rfl, hk, HO, hb⟩ := hrel
    rename World => wo
    by_cases hlt : k < xs.length
    · have hlt' : (k : Int) < xs.length := by omega
      obtain ⟨ba, oa, rfl, _, p1, p2, p3⟩ := hs.n3 (fun _ => rfl) hb k hlt
      obtain ⟨bf, of', Af, c1, rfl, _, f1, f2, f3, f4⟩ := hF k _ (fromsL_at hlt)
      obtain ⟨bo, oo, Ao, c2, rfl, _, z1, z2, z3, z4⟩ := hO k _ (tosL_at hlt)
      have hln := ru_t_len HI.out hlt
      have hbs := Lib.hid (hB_snoc (xs := xs) (T := T) (V := V) (i := i) (j := j) hlt)
      have hbl := hB_len xs T V i j k
      have f1' := bkc hb f1
      have o1' := bkc hb z1
      have hbf : bf < wo.heap.size := World.block_lt_of_cell? wo _ f1'
      have hbo : bo < wo.heap.size := World.block_lt_of_cell? wo _ o1'
      have hSF : Hid (∀ W, Below w.heap.size w W → Calls Tryd.prog 60 #[.slice Af (ruAt (rus xs) k).f.length c1, .slice (some ⟨g3, o3, none⟩) T.length ct, .int .i64 i] W (Ret W (.bool (decide (Stands (ruAt (rus xs) k).f T i))))) := fun W hW => stands_c Af _ c1 ct _ T i W (f4.1.below hW) (ht.below hW) (by omega) (by omega) hct hct2 (by omega)
      have hSO : Hid (∀ W, Below w.heap.size w W → Calls Tryd.prog 60 #[.slice Ao (ruAt (rus xs) k).t.length c2, .slice (some ⟨g4, o4, none⟩) V.length cv, .int .i64 j] W (Ret W (.bool (decide (Stands (ruAt (rus xs) k).t V j))))) := fun W hW => stands_c Ao _ c2 cv _ V j W (z4.1.below hW) (hv.below hW) (by omega) (by omega) hcv hcv2 (by omega)
      have hPv : hP xs T V i j k = (decide (Stands (ruAt (rus xs) k).f T i) && decide (Stands (ruAt (rus xs) k).t V j)) := rfl
      obtain ⟨lf, hlf⟩ : ∃ n, (ruAt (rus xs) k).f.length = n := ⟨_, rfl⟩
      obtain ⟨lo, hlo⟩ : ∃ n, (ruAt (rus xs) k).t.length = n := ⟨_, rfl⟩
      rw [hlf] at f1' hSF
      rw [hlo] at o1' hSO
      obtain ⟨sf, hsf⟩ : ∃ b, decide (Stands (ruAt (rus xs) k).f T i) = b := ⟨_, rfl⟩
      obtain ⟨so, hso⟩ : ∃ b, decide (Stands (ruAt (rus xs) k).t V j) = b := ⟨_, rfl⟩
      rw [hsf] at hSF hPv
      rw [hso] at hSO hPv
      obtain ⟨rr, hrr⟩ : ∃ x, xs[k] = x := ⟨_, rfl⟩
      rw [hrr] at p1 p2 p3 hbs
      clear f1 f2 f3 f4 z1 z2 z3 z4 hln hlf hlo hsf hso hrr
      have hua := HO.put
      cases sf
      · have hbe : Hid (hB xs T V i j (k + 1) = hB xs T V i j k) := by show _ = _; rw [hbs.out, hPv, if_neg (by simp), List.append_nil]
        clear hPv
        go_wp2_with (go_at_call 60; refine (hSF.out _ (Bst hb Bel)).mono ?_; rintro e w5 ⟨rfl, hb5⟩)
        exact ⟨⟨k + 1, by go_num, by omega, by rw [hbe.out]; exact (HO.below (Bel : Below wo.heap.size wo w5)), Bst hb (Bel : Below wo.heap.size wo w5)⟩, by simp [intOf]; omega⟩
      · cases so
        · have hbe : Hid (hB xs T V i j (k + 1) = hB xs T V i j k) := by show _ = _; rw [hbs.out, hPv, if_neg (by simp), List.append_nil]
          clear hPv
          go_wp2_with fail
          refine (hSF.out _ (Bst hb Bel)).mono ?_
          rintro e w5 ⟨rfl, hb5⟩
          have o5 := bkc (Bst Bel hb5 : Below wo.heap.size wo w5) o1'
          go_wp2_with fail
          refine (hSO.out _ (Bst hb (Bst Bel hb5))).mono ?_
          rintro e w6 ⟨rfl, hb6⟩
          go_wp2
          exact ⟨⟨k + 1, by go_num, by omega, by rw [hbe.out]; exact (HO.below (Bst (Bst Bel hb5) hb6)), Bst hb (Bst (Bst Bel hb5) hb6)⟩, by simp [intOf]; omega⟩
        · have hbe : Hid (hB xs T V i j (k + 1) = hB xs T V i j k ++ [rr]) := by show _ = _; rw [hbs.out, hPv, if_pos (by simp)]
          clear hPv
          go_wp2_with fail
          refine (hSF.out _ (Bst hb Bel)).mono ?_
          rintro e w5 ⟨rfl, hb5⟩
          have o5 := bkc (Bst Bel hb5 : Below wo.heap.size wo w5) o1'
          go_wp2_with fail
          refine (hSO.out _ (Bst hb (Bst Bel hb5))).mono ?_
          rintro e w6 ⟨rfl, hb6⟩
          have kB := B3.new wo rr 49
          have kB6 := (kB.below hb5).below hb6
          obtain ⟨_, r0, r1, r2⟩ := kB6
          have HO6 := HO.below (Bst (Bst Bel hb5) hb6)
          have hb06 : Below w.heap.size w w6 := Bst hb (Bst (Bst Bel hb5) hb6)
          clear p1 p2 p3
          go_wp2_with (at_builtin; refine app (E := eT3) (w0 := w) _ _ 22 49 (.agg #[.string .empty, .string .empty, .int .i64 0]) 40 rfl rfl Tryd.underlying22 info_ruleH rfl (by decide) (by decide) _ ([⟨txt [x], txt [x], 0⟩] ++ hB xs T V i j k) [rr] ⟨_, 0, none⟩ 1 1 rfl rfl rfl (HO6.alloc _) (SlA.new eT3 _ _ _ _ (by simp) _ rfl) Bel (by first | (simp; done) | (simp; omega)) ?_; intro v7 w7 HO7 hb7 hg7 _; go_frame)
          exact ⟨⟨k + 1, by go_num, by omega, by rw [hbe.out, ← List.append_assoc]; exact HO7, hb7⟩, by simp [intOf]; omega⟩
    · obtain rfl : k = xs.length := by omega
      have hlt' : ¬ (xs.length : Int) < xs.length := by omega
      have hbl := hB_len xs T V i j xs.length
      have q3' := bkc hb q3
      have q4' := bkc hb q4
      go_wp2_with fail
      go_region
      have hbd2 : Below wo.heap.size wo wo.drew := Below.drew (Below.refl _ _)
      replace HO := HO.below hbd2
      replace hb := Bst hb hbd2
      generalize wo.drew = wd2 at HO hb ⊢
      go_wp2_with fail
      refine (r1text_c (some ⟨g3, o3 + i, none⟩) (ct - i) [x] _ (t1.below hb) HR1.out (by simp)).mono ?_
      rintro e w2 ⟨rfl, hb2⟩
      have hb3 := Bst hb hb2
      have HO3 := HO.below hb2
      clear HO hb hb2
      go_wp2_with (at_builtin; refine app (E := eT3) (w0 := w) _ _ 22 49 (.agg #[.string .empty, .string .empty, .int .i64 0]) 40 rfl rfl Tryd.underlying22 info_ruleH rfl (by decide) (by decide) _ ([⟨txt [x], txt [x], 0⟩] ++ hB xs T V i j xs.length) [⟨txt [x], .empty, 255⟩] ⟨_, 0, none⟩ 1 1 rfl rfl rfl (HO3.alloc _) (SlA.new eT3 _ _ _ _ (by simp) _ rfl) Bel (by first | (simp; done) | (simp; omega)) ?_; intro v7 w7 HO7 hb7 hg7 _; go_frame)
      have HO := HO7
      have hb := hb7
      clear HO7 hb7 hg7 HO3 hb3
      go_wp2_with fail
      refine (r1text_c (some ⟨g4, o4 + j, none⟩) (cv - j) [x] _ (v1.below hb) HR2.out (by simp)).mono ?_
      rintro e w2 ⟨rfl, hb2⟩
      have hb3 := Bst hb hb2
      have HO3 := HO.below hb2
      clear HO hb hb2
      go_wp2_with (at_builtin; refine app (E := eT3) (w0 := w) _ _ 22 49 (.agg #[.string .empty, .string .empty, .int .i64 0]) 40 rfl rfl Tryd.underlying22 info_ruleH rfl (by decide) (by decide) _ (([⟨txt [x], txt [x], 0⟩] ++ hB xs T V i j xs.length) ++ [⟨txt [x], .empty, 255⟩]) [⟨.empty, txt [x], 255⟩] ⟨_, 0, none⟩ 1 1 rfl rfl rfl (HO3.alloc _) (SlA.new eT3 _ _ _ _ (by simp) _ rfl) Bel (by first | (simp; done) | (simp; omega)) ?_; intro v7 w7 HO7 hb7 hg7 _; go_frame)
      have HO := HO7
      have hb := hb7
      clear HO7 hb7 hg7 HO3 hb3
      go_wp2
      go_ret
      refine ⟨_, rfl, ?_, hb⟩
      rw [hereL_eq, HA.out, HCC.out, HD.out, HEE.out, List.append_nil]
      exact HO
set_option maxRecDepth 100000 in
set_option maxHeartbeats 4000000 in
theorem here_n (A F O At Av : Option Addr) (c cf co ct cv : Nat) (xs : List T3) (T V : List Int) (i j : Nat) (w : World) (hs : SlA eT3 w A xs) (hF : RwB (fun _ => True) (eInt .i32) w F (froms xs)) (hO : RwB (fun _ => True) (eInt .i32) w O (tosL xs)) (ht : SlA (eInt .i32) w At T) (hv : SlA (eInt .i32) w Av V)
    (hct : T.length ≤ ct) (hct2 : ct ≤ 9223372036854775807) (hcv : V.length ≤ cv) (hcv2 : cv ≤ 9223372036854775807) (hT : T.length ≤ 64) (hV : V.length ≤ 64) (hTr : ∀ r ∈ T, IsR r) (hVr : ∀ r ∈ V, IsR r) (hI : isE xs = 0)
    (hi : i ≤ T.length) (hj : j ≤ V.length) (hst : i < T.length → j < V.length → nth T i ≠ nth V j) :
    Calls Tryd.prog 32 #[.slice A xs.length c, .slice F xs.length cf, .slice O xs.length co, .slice At T.length ct, .slice Av V.length cv, .int .i64 i, .int .i64 j] w (HerePost w xs T V i j) := by
  have hxl := (isE_ok hI).1
  have HI := Lib.hid hI
  have HTR := Lib.hid hTr
  have HVR := Lib.hid hVr
  clear hI hTr hVr
  obtain ⟨a, ha⟩ : ∃ a, decide (i < T.length) = a := ⟨_, rfl⟩
  obtain ⟨b, hb0⟩ : ∃ b, decide (j < V.length) = b := ⟨_, rfl⟩
  have HA' := Lib.hid ha
  have HB' := Lib.hid hb0
  have HST := Lib.hid hst
  have HA : Hid (hA T V i j = []) := by show _ = _; unfold hA; rw [if_neg (fun h => hst h.1 h.2.1 h.2.2)]
  clear hst
  go_enter Tryd.func32, Tryd.ntmps32
  go_wp2_with fail
  refine wp_cutN (fun a' w' => ∃ (u21 u22 u23 u24 u25 u26 u27 u28 u29 u30 u31 u32 u33 u34 u35 u36 u37 u38 u39 u40 u41 u42 : Value), a' = { tmps := #[.slice A xs.length c, .slice F xs.length cf, .slice O xs.length co, .slice At T.length ct, .slice Av V.length cv, .int .i64 i, .int .i64 j, undef, undef, undef, undef, undef, undef, undef, .slice none 0 0, .slice none 0 0, .bool a, .bool b, undef, undef, undef, u21, u22, u23, u24, u25, u26, u27, u28, u29, u30, u31, u32, u33, u34, u35, u36, u37, u38, u39, u40, u41, u42, .bool false, undef, undef, undef, undef, undef, undef, undef, undef, undef, undef, undef, undef, undef, undef, undef, undef, undef, undef, undef, undef, undef, undef, undef, undef, undef, undef, undef, undef, undef, undef, undef, undef, undef, undef, undef, undef, undef, undef, undef, undef, undef, undef, undef, undef, undef, undef, undef, undef, undef, undef, undef, undef, undef, undef, undef, undef, undef, undef, undef, undef, undef, undef, undef, undef, undef, undef, undef, undef, undef, undef, undef, undef, undef, undef, undef, undef, undef, undef, undef, undef, undef, undef, undef, undef, undef, undef, undef, undef, undef, undef, undef, undef, undef, undef], defers := [] } ∧ Below w.heap.size w w') ?_ ?_
  rotate_left
  · cases a
    · cases b
      · skip
        go_region
        go_wp2_with fail
        (repeat apply Exists.intro)
        exact ⟨rfl, Below.drew (Below.refl _ _)⟩
      · skip
        go_region
        go_wp2_with fail
        (repeat apply Exists.intro)
        exact ⟨rfl, Below.drew (Below.refl _ _)⟩
    · cases b
      · skip
        go_region
        go_wp2_with fail
        (repeat apply Exists.intro)
        exact ⟨rfl, Below.drew (Below.refl _ _)⟩
      · have hi1 : i < T.length := by have := of_decide_eq_true HA'.out; omega
        have hj1 : j < V.length := by have := of_decide_eq_true HB'.out; omega
        have hi2 : (i : Int) < T.length := by omega
        have hj2 : (j : Int) < V.length := by omega
        obtain ⟨x, hx⟩ : ∃ x, nth T i = x := ⟨_, rfl⟩
        obtain ⟨z, hz⟩ : ∃ z, nth V j = z := ⟨_, rfl⟩
        have hxz : (x == z) = false := by have := HST.out hi1 hj1; rw [hx, hz] at this; simpa using this
        obtain ⟨g3, o3, rfl, q3⟩ := ht.at1 (fun _ => rfl) (Below.refl _ _) i hi1
        obtain ⟨g4, o4, rfl, q4⟩ := hv.at1 (fun _ => rfl) (Below.refl _ _) j hj1
        rw [← nth_at hi1, hx] at q3
        rw [← nth_at hj1, hz] at q4
        go_region
        go_wp2_with fail
        (repeat apply Exists.intro)
        exact ⟨rfl, Below.drew (Below.refl _ _)⟩
  rintro _ W1 ⟨u21, u22, u23, u24, u25, u26, u27, u28, u29, u30, u31, u32, u33, u34, u35, u36, u37, u38, u39, u40, u41, u42, rfl, hbx⟩
  clear ha hb0
  have hO0 : Own eT3 w.heap.size 49 W1 (.slice none 0 0) ([] : List T3) := Own.nil _
  go_wp2_with fail
  go_loopw [15, 58] (fun so sk wr => ∃ k : Nat, sk = .int .i64 k ∧ k ≤ xs.length ∧ Own eT3 w.heap.size 49 wr so (([] : List T3) ++ hB xs T V i j k) ∧ Below w.heap.size w wr) (fun _ sk _ => xs.length - (intOf sk).toNat)
  case atStart => exact ⟨0, rfl, by omega, by simpa [hB] using hO0, hbx⟩
  case round =>
    obtain ⟨k, rfl, hk, HO, hb⟩ := hrel
    rename World => wo
    by_cases hlt : k < xs.length
    · have hlt' : (k : Int) < xs.length := by omega
      obtain ⟨ba, oa, rfl, _, p1, p2, p3⟩ := hs.n3 (fun _ => rfl) hb k hlt
      obtain ⟨bf, of', Af, c1, rfl, _, f1, f2, f3, f4⟩ := hF k _ (fromsL_at hlt)
      obtain ⟨bo, oo, Ao, c2, rfl, _, z1, z2, z3, z4⟩ := hO k _ (tosL_at hlt)
      have hln := ru_t_len HI.out hlt
      have hbs := Lib.hid (hB_snoc (xs := xs) (T := T) (V := V) (i := i) (j := j) hlt)
      have hbl := hB_len xs T V i j k
      have f1' := bkc hb f1
      have o1' := bkc hb z1
      have hbf : bf < wo.heap.size := World.block_lt_of_cell? wo _ f1'
      have hbo : bo < wo.heap.size := World.block_lt_of_cell? wo _ o1'
      have hSF : Hid (∀ W, Below w.heap.size w W → Calls Tryd.prog 60 #[.slice Af (ruAt (rus xs) k).f.length c1, .slice At T.length ct, .int .i64 i] W (Ret W (.bool (decide (Stands (ruAt (rus xs) k).f T i))))) := fun W hW => stands_c Af _ c1 ct _ T i W (f4.1.below hW) (ht.below hW) (by omega) (by omega) hct hct2 (by omega)
      have hSO : Hid (∀ W, Below w.heap.size w W → Calls Tryd.prog 60 #[.slice Ao (ruAt (rus xs) k).t.length c2, .slice Av V.length cv, .int .i64 j] W (Ret W (.bool (decide (Stands (ruAt (rus xs) k).t V j))))) := fun W hW => stands_c Ao _ c2 cv _ V j W (z4.1.below hW) (hv.below hW) (by omega) (by omega) hcv hcv2 (by omega)
      have hPv : hP xs T V i j k = (decide (Stands (ruAt (rus xs) k).f T i) && decide (Stands (ruAt (rus xs) k).t V j)) := rfl
      obtain ⟨lf, hlf⟩ : ∃ n, (ruAt (rus xs) k).f.length = n := ⟨_, rfl⟩
      obtain ⟨lo, hlo⟩ : ∃ n, (ruAt (rus xs) k).t.length = n := ⟨_, rfl⟩
      rw [hlf] at f1' hSF
      rw [hlo] at o1' hSO
      obtain ⟨sf, hsf⟩ : ∃ b, decide (Stands (ruAt (rus xs) k).f T i) = b := ⟨_, rfl⟩
      obtain ⟨so, hso⟩ : ∃ b, decide (Stands (ruAt (rus xs) k).t V j) = b := ⟨_, rfl⟩
      rw [hsf] at hSF hPv
      rw [hso] at hSO hPv
      obtain ⟨rr, hrr⟩ : ∃ x, xs[k] = x := ⟨_, rfl⟩
      rw [hrr] at p1 p2 p3 hbs
      clear f1 f2 f3 f4 z1 z2 z3 z4 hln hlf hlo hsf hso hrr
      have hua := HO.put
      cases sf
      · have hbe : Hid (hB xs T V i j (k + 1) = hB xs T V i j k) := by show _ = _; rw [hbs.out, hPv, if_neg (by simp), List.append_nil]
        clear hPv
        go_wp2_with (go_at_call 60; refine (hSF.out _ (Bst hb Bel)).mono ?_; rintro e w5 ⟨rfl, hb5⟩)
        exact ⟨⟨k + 1, by go_num, by omega, by rw [hbe.out]; exact (HO.below (Bel : Below wo.heap.size wo w5)), Bst hb (Bel : Below wo.heap.size wo w5)⟩, by simp [intOf]; omega⟩
      · cases so
        · have hbe : Hid (hB xs T V i j (k + 1) = hB xs T V i j k) := by show _ = _; rw [hbs.out, hPv, if_neg (by simp), List.append_nil]
          clear hPv
          go_wp2_with fail
          refine (hSF.out _ (Bst hb Bel)).mono ?_
          rintro e w5 ⟨rfl, hb5⟩
          have o5 := bkc (Bst Bel hb5 : Below wo.heap.size wo w5) o1'
          go_wp2_with fail
          refine (hSO.out _ (Bst hb (Bst Bel hb5))).mono ?_
          rintro e w6 ⟨rfl, hb6⟩
          go_wp2
          exact ⟨⟨k + 1, by go_num, by omega, by rw [hbe.out]; exact (HO.below (Bst (Bst Bel hb5) hb6)), Bst hb (Bst (Bst Bel hb5) hb6)⟩, by simp [intOf]; omega⟩
        · have hbe : Hid (hB xs T V i j (k + 1) = hB xs T V i j k ++ [rr]) := by show _ = _; rw [hbs.out, hPv, if_pos (by simp)]
          clear hPv
          go_wp2_with fail
          refine (hSF.out _ (Bst hb Bel)).mono ?_
          rintro e w5 ⟨rfl, hb5⟩
          have o5 := bkc (Bst Bel hb5 : Below wo.heap.size wo w5) o1'
          go_wp2_with fail
          refine (hSO.out _ (Bst hb (Bst Bel hb5))).mono ?_
          rintro e w6 ⟨rfl, hb6⟩
          have kB := B3.new wo rr 49
          have kB6 := (kB.below hb5).below hb6
          obtain ⟨_, r0, r1, r2⟩ := kB6
          have HO6 := HO.below (Bst (Bst Bel hb5) hb6)
          have hb06 : Below w.heap.size w w6 := Bst hb (Bst (Bst Bel hb5) hb6)
          clear p1 p2 p3
          go_wp2_with (at_builtin; refine app (E := eT3) (w0 := w) _ _ 22 49 (.agg #[.string .empty, .string .empty, .int .i64 0]) 40 rfl rfl Tryd.underlying22 info_ruleH rfl (by decide) (by decide) _ (([] : List T3) ++ hB xs T V i j k) [rr] ⟨_, 0, none⟩ 1 1 rfl rfl rfl (HO6.alloc _) (SlA.new eT3 _ _ _ _ (by simp) _ rfl) Bel (by first | (simp; done) | (simp; omega)) ?_; intro v7 w7 HO7 hb7 hg7 _; go_frame)
          exact ⟨⟨k + 1, by go_num, by omega, by rw [hbe.out, ← List.append_assoc]; exact HO7, hb7⟩, by simp [intOf]; omega⟩
    · obtain rfl : k = xs.length := by omega
      have hlt' : ¬ (xs.length : Int) < xs.length := by omega
      have hbl := hB_len xs T V i j xs.length
      cases a
      · cases b
        · have hi1 : ¬ i < T.length := by have := of_decide_eq_false HA'.out; omega
          have HD : Hid (hD T i = []) := by show _ = _; unfold hD; rw [if_neg hi1]
          have hj1 : ¬ j < V.length := by have := of_decide_eq_false HB'.out; omega
          have HEE : Hid (hE V j = []) := by show _ = _; unfold hE; rw [if_neg hj1]
          have HCC : Hid (hC T V i j = []) := by show _ = _; unfold hC; rw [if_neg (fun h => hi1 h.1)]
          go_wp2_with fail
          go_region
          have hbd2 : Below wo.heap.size wo wo.drew := Below.drew (Below.refl _ _)
          replace HO := HO.below hbd2
          replace hb := Bst hb hbd2
          generalize wo.drew = wd2 at HO hb ⊢
          go_wp2
          go_ret
          refine ⟨_, rfl, ?_, hb⟩
          rw [hereL_eq, HA.out, HCC.out, HD.out, HEE.out]
          simpa using HO
        · have hi1 : ¬ i < T.length := by have := of_decide_eq_false HA'.out; omega
          have HD : Hid (hD T i = []) := by show _ = _; unfold hD; rw [if_neg hi1]
          have hj1 : j < V.length := by have := of_decide_eq_true HB'.out; omega
          have hj2 : (j : Int) < V.length := by omega
          have hcj : (j : Int) + 1 ≤ cv := by omega
          have hnj : ¬ cv = j := by omega
          have hle2 : (j : Int) ≤ (j : Int) + 1 := by omega
          obtain ⟨g4, o4, rfl, q4⟩ := hv.at1 (fun _ => rfl) (Below.refl _ _) j hj1
          rw [← nth_at hj1] at q4
          have v1 := hv.one1 j hj1
          have HR2 := Lib.hid (isR_nth HVR.out hj1)
          have q4' := bkc hb q4
          have HEE : Hid (hE V j = [⟨.empty, txt [nth V j], 255⟩]) := by show _ = _; unfold hE; rw [if_pos hj1]
          have HCC : Hid (hC T V i j = []) := by show _ = _; unfold hC; rw [if_neg (fun h => hi1 h.1)]
          obtain ⟨z, hz⟩ : ∃ z, nth V j = z := ⟨_, rfl⟩
          rw [hz] at q4 q4' v1 HR2 HEE
          go_wp2_with fail
          go_region
          have hbd2 : Below wo.heap.size wo wo.drew := Below.drew (Below.refl _ _)
          replace HO := HO.below hbd2
          replace hb := Bst hb hbd2
          generalize wo.drew = wd2 at HO hb ⊢
          go_wp2_with fail
          refine (r1text_c (some ⟨g4, o4 + j, none⟩) (cv - j) [z] _ (v1.below hb) HR2.out (by simp)).mono ?_
          rintro e w2 ⟨rfl, hb2⟩
          have hb3 := Bst hb hb2
          have HO3 := HO.below hb2
          clear HO hb hb2
          go_wp2_with (at_builtin; refine app (E := eT3) (w0 := w) _ _ 22 49 (.agg #[.string .empty, .string .empty, .int .i64 0]) 40 rfl rfl Tryd.underlying22 info_ruleH rfl (by decide) (by decide) _ (([] : List T3) ++ hB xs T V i j xs.length) [⟨.empty, txt [z], 255⟩] ⟨_, 0, none⟩ 1 1 rfl rfl rfl (HO3.alloc _) (SlA.new eT3 _ _ _ _ (by simp) _ rfl) Bel (by first | (simp; done) | (simp; omega)) ?_; intro v7 w7 HO7 hb7 hg7 _; go_frame)
          have HO := HO7
          have hb := hb7
          clear HO7 hb7 hg7 HO3 hb3
          go_wp2
          go_ret
          refine ⟨_, rfl, ?_, hb⟩
          rw [hereL_eq, HA.out, HCC.out, HD.out, HEE.out]
          simpa using HO
      · cases b
        · have hi1 : i < T.length := by have := of_decide_eq_true HA'.out; omega
          have hi2 : (i : Int) < T.length := by omega
          have hci : (i : Int) + 1 ≤ ct := by omega
          have hni : ¬ ct = i := by omega
          have hle : (i : Int) ≤ (i : Int) + 1 := by omega
          obtain ⟨g3, o3, rfl, q3⟩ := ht.at1 (fun _ => rfl) (Below.refl _ _) i hi1
          rw [← nth_at hi1] at q3
          have t1 := ht.one1 i hi1
          have HR1 := Lib.hid (isR_nth HTR.out hi1)
          have q3' := bkc hb q3
          have HD : Hid (hD T i = [⟨txt [nth T i], .empty, 255⟩]) := by show _ = _; unfold hD; rw [if_pos hi1]
          have hj1 : ¬ j < V.length := by have := of_decide_eq_false HB'.out; omega
          have HEE : Hid (hE V j = []) := by show _ = _; unfold hE; rw [if_neg hj1]
          have HCC : Hid (hC T V i j = []) := by show _ = _; unfold hC; rw [if_neg (fun h => hj1 h.2.1)]
          obtain ⟨x, hx⟩ : ∃ x, nth T i = x := ⟨_, rfl⟩
          rw [hx] at q3 q3' t1 HR1 HD
          go_wp2_with fail
          go_region
          have hbd2 : Below wo.heap.size wo wo.drew := Below.drew (Below.refl _ _)
          replace HO := HO.below hbd2
          replace hb := Bst hb hbd2
          generalize wo.drew = wd2 at HO hb ⊢
          go_wp2_with fail
          refine (r1text_c (some ⟨g3, o3 + i, none⟩) (ct - i) [x] _ (t1.below hb) HR1.out (by simp)).mono ?_
          rintro e w2 ⟨rfl, hb2⟩
          have hb3 := Bst hb hb2
          have HO3 := HO.below hb2
          clear HO hb hb2
          go_wp2_with (at_builtin; refine app (E := eT3) (w0 := w) _ _ 22 49 (.agg #[.string .empty, .string .empty, .int .i64 0]) 40 rfl rfl Tryd.underlying22 info_ruleH rfl (by decide) (by decide) _ (([] : List T3) ++ hB xs T V i j xs.length) [⟨txt [x], .empty, 255⟩] ⟨_, 0, none⟩ 1 1 rfl rfl rfl (HO3.alloc _) (SlA.new eT3 _ _ _ _ (by simp) _ rfl) Bel (by first | (simp; done) | (simp; omega)) ?_; intro v7 w7 HO7 hb7 hg7 _; go_frame)
          have HO := HO7
          have hb := hb7
          clear HO7 hb7 hg7 HO3 hb3
          go_wp2
          go_ret
          refine ⟨_, rfl, ?_, hb⟩
          rw [hereL_eq, HA.out, HCC.out, HD.out, HEE.out]
          simpa using HO
        · have hi1 : i < T.length := by have := of_decide_eq_true HA'.out; omega
          have hi2 : (i : Int) < T.length := by omega
          have hci : (i : Int) + 1 ≤ ct := by omega
          have hni : ¬ ct = i := by omega
          have hle : (i : Int) ≤ (i : Int) + 1 := by omega
          obtain ⟨g3, o3, rfl, q3⟩ := ht.at1 (fun _ => rfl) (Below.refl _ _) i hi1
          rw [← nth_at hi1] at q3
          have t1 := ht.one1 i hi1
          have HR1 := Lib.hid (isR_nth HTR.out hi1)
          have q3' := bkc hb q3
          have HD : Hid (hD T i = [⟨txt [nth T i], .empty, 255⟩]) := by show _ = _; unfold hD; rw [if_pos hi1]
          have hj1 : j < V.length := by have := of_decide_eq_true HB'.out; omega
          have hj2 : (j : Int) < V.length := by omega
          have hcj : (j : Int) + 1 ≤ cv := by omega
          have hnj : ¬ cv = j := by omega
          have hle2 : (j : Int) ≤ (j : Int) + 1 := by omega
          obtain ⟨g4, o4, rfl, q4⟩ := hv.at1 (fun _ => rfl) (Below.refl _ _) j hj1
          rw [← nth_at hj1] at q4
          have v1 := hv.one1 j hj1
          have HR2 := Lib.hid (isR_nth HVR.out hj1)
          have q4' := bkc hb q4
          have HEE : Hid (hE V j = [⟨.empty, txt [nth V j], 255⟩]) := by show _ = _; unfold hE; rw [if_pos hj1]
          have hne := HST.out hi1 hj1
          have HCC : Hid (hC T V i j = [⟨txt [nth T i], txt [nth V j], 255⟩]) := by show _ = _; unfold hC; rw [if_pos ⟨hi1, hj1, hne⟩]
          obtain ⟨x, hx⟩ : ∃ x, nth T i = x := ⟨_, rfl⟩
          obtain ⟨z, hz⟩ : ∃ z, nth V j = z := ⟨_, rfl⟩
          rw [hx, hz] at hne HCC
          rw [hx] at q3 q3' t1 HR1 HD
          rw [hz] at q4 q4' v1 HR2 HEE
          have hxz : (x != z) = true := by simpa using hne
          clear hx hz hne
          go_wp2_with fail
          go_region
          have hbd2 : Below wo.heap.size wo wo.drew := Below.drew (Below.refl _ _)
          replace HO := HO.below hbd2
          replace hb := Bst hb hbd2
          generalize wo.drew = wd2 at HO hb ⊢
          go_wp2_with fail
          refine region_treeS u15.ownBlock.toList (.q 0 (.q 1 (.q 2 (.q 3 (.q 4 (.q 5 (.q 7 (.q 8 (.q 9 (.q 10 (.q 11 (.t 6 (.t 12 (.q 13 (.t 14 (.t 15 (.q 16 .nil))))))))))))))))) (by kernel_rfl) (by kernel_rfl) ?_
          intro Wm hWm
          have hbm : Below w.heap.size w Wm := Bst hb hWm
          replace HO := HO.below hWm
          clear hb
          have hw1 : IntKind.i64.wrap ((i : Int) + 1) = (i : Int) + 1 := IntWalk.i64_in _ (by omega)
          have hw2 : IntKind.i64.wrap ((j : Int) + 1) = (j : Int) + 1 := IntWalk.i64_in _ (by omega)
          have hn1 : ((i : Int) + 1).toNat = i + 1 := by omega
          have hn2 : ((j : Int) + 1).toNat = j + 1 := by omega
          have hn3 : (0 : Int) ≤ (i : Int) + 1 := by omega
          have hn4 : (0 : Int) ≤ (j : Int) + 1 := by omega
          repeat (refine trS_q rfl (fun K hK => ?_); unfold takeS; go_simp; refine hK _ ?_; clear hK K)
          refine trS_t rfl (fun K hK => ?_); go_simp
          refine (r1text_c (some ⟨g3, o3 + i, none⟩) (ct - i) [x] _ (t1.below hbm) HR1.out (by simp)).mono ?_
          rintro e w2 ⟨rfl, hb2⟩
          go_simp
          refine hK _ _ (.of (Kb.weak (Kb.below hb2) (by simp))) ?_; clear hK K
          refine trS_t rfl (fun K hK => ?_); go_simp
          refine (r1text_c (some ⟨g4, o4 + j, none⟩) (cv - j) [z] _ (v1.below (Bst hbm hb2)) HR2.out (by simp)).mono ?_
          rintro e w3 ⟨rfl, hb3⟩
          go_simp
          refine hK _ _ (.of (Kb.weak (Kb.below (Bst hb2 hb3)) (by simp))) ?_; clear hK K
          have hb03 : Below w.heap.size w w3 := Bst hbm (Bst hb2 hb3)
          have HO3 := HO.below (Bst hb2 hb3)
          repeat (refine trS_q rfl (fun K hK => ?_); unfold takeS; go_simp; refine hK _ ?_; clear hK K)
          refine trS_t rfl (fun K hK => ?_); go_simp
          have hkA : Kb Wm (w3.alloc (.cells #[.string (txt [x]), .string (txt [z]), .int .i64 255] 49)) u15.ownBlock.toList := Kb.weak (Kb.below (Bal (Bst hb2 hb3) _)) (by simp)
          refine hK _ _ (.of hkA) ?_; clear hK K
          refine trS_t rfl (fun K hK => ?_); rw [if_pos (wanted_free rfl _)]
          refine app_op (E := eT3) (w0 := w) _ _ 22 49 (.agg #[.string .empty, .string .empty, .int .i64 0]) 40 rfl rfl Tryd.underlying22 info_ruleH rfl (by decide) (by decide) _ (([] : List T3) ++ hB xs T V i j xs.length) [⟨txt [x], txt [z], 255⟩] _ _ _ rfl rfl rfl (HO3.alloc _) (SlA.new eT3 _ [⟨txt [x], txt [z], 255⟩] _ _ (by simp) _ rfl) Bel (by simp; omega) ?_
          intro v7 w7 HO7 hb7 hg7 _
          refine hK _ _ (.of (hkA.trans' (Kb.row hg7 (fun k hk => by first | (simp; done) | (have hk2 : u15.ownBlock = some k := hk; rw [hk2]; simp))))) ?_; clear hK K
          repeat (refine trS_q rfl (fun K hK => ?_); unfold takeS; go_simp; refine hK _ ?_; clear hK K)
          refine trS_nil ?_
          rw [noP_normal]
          have HO := HO7
          have hb := hb7
          clear HO7 hb7 hg7 HO3 hb03 hbm hb2 hb3 hkA
          go_wp2_with fail
          refine (r1text_c (some ⟨g3, o3 + i, none⟩) (ct - i) [x] _ (t1.below hb) HR1.out (by simp)).mono ?_
          rintro e w2 ⟨rfl, hb2⟩
          have hb3 := Bst hb hb2
          have HO3 := HO.below hb2
          clear HO hb hb2
          go_wp2_with (at_builtin; refine app (E := eT3) (w0 := w) _ _ 22 49 (.agg #[.string .empty, .string .empty, .int .i64 0]) 40 rfl rfl Tryd.underlying22 info_ruleH rfl (by decide) (by decide) _ ((([] : List T3) ++ hB xs T V i j xs.length) ++ [⟨txt [x], txt [z], 255⟩]) [⟨txt [x], .empty, 255⟩] ⟨_, 0, none⟩ 1 1 rfl rfl rfl (HO3.alloc _) (SlA.new eT3 _ _ _ _ (by simp) _ rfl) Bel (by first | (simp; done) | (simp; omega)) ?_; intro v7 w7 HO7 hb7 hg7 _; go_frame)
          have HO := HO7
          have hb := hb7
          clear HO7 hb7 hg7 HO3 hb3
          go_wp2_with fail
          refine (r1text_c (some ⟨g4, o4 + j, none⟩) (cv - j) [z] _ (v1.below hb) HR2.out (by simp)).mono ?_
          rintro e w2 ⟨rfl, hb2⟩
          have hb3 := Bst hb hb2
          have HO3 := HO.below hb2
          clear HO hb hb2
          go_wp2_with (at_builtin; refine app (E := eT3) (w0 := w) _ _ 22 49 (.agg #[.string .empty, .string .empty, .int .i64 0]) 40 rfl rfl Tryd.underlying22 info_ruleH rfl (by decide) (by decide) _ (((([] : List T3) ++ hB xs T V i j xs.length) ++ [⟨txt [x], txt [z], 255⟩]) ++ [⟨txt [x], .empty, 255⟩]) [⟨.empty, txt [z], 255⟩] ⟨_, 0, none⟩ 1 1 rfl rfl rfl (HO3.alloc _) (SlA.new eT3 _ _ _ _ (by simp) _ rfl) Bel (by first | (simp; done) | (simp; omega)) ?_; intro v7 w7 HO7 hb7 hg7 _; go_frame)
          have HO := HO7
          have hb := hb7
          clear HO7 hb7 hg7 HO3 hb3
          go_wp2
          go_ret
          refine ⟨_, rfl, ?_, hb⟩
          rw [hereL_eq, HA.out, HCC.out, HD.out, HEE.out]
          simpa using HO
theorem here_c (A F O At Av : Option Addr) (c cf co ct cv : Nat) (xs : List T3) (T V : List Int) (i j : Nat) (w : World) (hs : SlA eT3 w A xs) (hF : RwB (fun _ => True) (eInt .i32) w F (froms xs)) (hO : RwB (fun _ => True) (eInt .i32) w O (tosL xs)) (ht : SlA (eInt .i32) w At T) (hv : SlA (eInt .i32) w Av V)
    (hct : T.length ≤ ct) (hct2 : ct ≤ 9223372036854775807) (hcv : V.length ≤ cv) (hcv2 : cv ≤ 9223372036854775807) (hT : T.length ≤ 64) (hV : V.length ≤ 64) (hTr : ∀ r ∈ T, IsR r) (hVr : ∀ r ∈ V, IsR r) (hI : isE xs = 0)
    (hi : i ≤ T.length) (hj : j ≤ V.length) :
    Calls Tryd.prog 32 #[.slice A xs.length c, .slice F xs.length cf, .slice O xs.length co, .slice At T.length ct, .slice Av V.length cv, .int .i64 i, .int .i64 j] w (HerePost w xs T V i j) := by
  by_cases h : i < T.length ∧ j < V.length ∧ nth T i = nth V j
  · exact here_s A F O At Av c cf co ct cv xs T V i j w hs hF hO ht hv hct hct2 hcv hcv2 hT hV hTr hVr hI h.1 h.2.1 h.2.2
  · exact here_n A F O At Av c cf co ct cv xs T V i j w hs hF hO ht hv hct hct2 hcv hcv2 hT hV hTr hVr hI hi hj fun h1 h2 h3 => h ⟨h1, h2, h3⟩
end Go.Proofs.YtmpoihejacklnaaDoor
/- A region that draws its order: a head in a tree of orders (some blocks S may be turned), then a tail in one forced order. No condition. -/
namespace Go.Proofs.YtmpoihejacklnaaDoor
open Go Go.RowKit
def OT.okF (ops : Array Oper) (n : Nat) : OT → Array Bool → Bool
  | nil, listed => Region.seqB .any ops (ops.size - n) n listed
  | q i r, listed => decide (i < n) && (Region.ready .any ops listed).contains i && Region.free .any ops listed i && r.okF ops n (listed.setIfInBounds i true)
  | t i r, listed => decide (i < n) && decide (Region.ready .any ops listed = [i]) && r.okF ops n (listed.setIfInBounds i true)
  | two i r j s, listed => decide (i < n) && decide (j < n) && decide (Region.ready .any ops listed = [i, j]) && decide (r.deep = s.deep) && r.okF ops n (listed.setIfInBounds i true) && s.okF ops n (listed.setIfInBounds j true)
section
variable {P : Program} {ops : Array Oper} {S : List Nat} {Q : Exit → Act → World → Prop}
def wpTrF (P : Program) (ops : Array Oper) (w0 : World) (S : List Nat) (Q : Exit → Act → World → Prop) (fin : Act → World → Prop) : OT → Act → World → Prop
  | .nil, a, w => fin a w
  | .q i r, a, w => match ops[i]? with
    | none => False
    | some o => takeS P ops w0 S o a (fun a' => wpTrF P ops w0 S Q fin r a' w)
  | .t i r, a, w => match ops[i]? with
    | none => False
    | some o => if Region.wanted o (yielded ops a.tmps) then o.wp P a w (fun a' w' => ExtS w0 S w' ∧ wpTrF P ops w0 S Q fin r a' w') Q else wpTrF P ops w0 S Q fin r (a.put o.dst undef) w
  | .two i r j s, a, w => (match ops[i]? with
    | none => False
    | some o => if Region.wanted o (yielded ops a.tmps) then o.wp P a w (fun a' w' => ExtS w0 S w' ∧ wpTrF P ops w0 S Q fin r a' w') Q else wpTrF P ops w0 S Q fin r (a.put o.dst undef) w) ∧
    (match ops[j]? with
    | none => False
    | some o => if Region.wanted o (yielded ops a.tmps) then o.wp P a w (fun a' w' => ExtS w0 S w' ∧ wpTrF P ops w0 S Q fin s a' w') Q else wpTrF P ops w0 S Q fin s (a.put o.dst undef) w)
theorem wpOp_of_stepF {w0 : World} {fin : Act → World → Prop} {r : OT} {listed : Array Bool} {a : Act} {w : World} {i n f : Nat} {L : Array Bool → Act → World → Prop} (hS : ExtS w0 S w)
    (ih : ∀ a w, ExtS w0 S w → wpTrF P ops w0 S Q fin r a w → wpMix P ops Q (ExtS w0 S) n L f listed a w)
    (h : match ops[i]? with
      | none => False
      | some o => if Region.wanted o (yielded ops a.tmps) then o.wp P a w (fun a' w' => ExtS w0 S w' ∧ wpTrF P ops w0 S Q fin r a' w') Q else wpTrF P ops w0 S Q fin r (a.put o.dst undef) w) :
    wpOp P ops Q i (fun a' w' => ExtS w0 S w' ∧ wpMix P ops Q (ExtS w0 S) n L f listed a' w') a w := by
  cases ho : ops[i]? with
  | none => rw [ho] at h; exact h.elim
  | some o =>
    rw [ho] at h
    unfold wpOp
    rw [ho]
    dsimp only at h ⊢
    by_cases hw : Region.wanted o (yielded ops a.tmps) = true
    · rw [if_pos hw] at h ⊢
      exact .inl (Oper.wp_mono (fun a' w' h' => ⟨h'.1, ih a' w' h'.1 h'.2⟩) h)
    · rw [if_neg hw] at h ⊢
      exact ⟨hS, ih _ _ hS h⟩
theorem wpMix_of_treeF {w0 : World} {fin : Act → World → Prop} {n : Nat} (hsel : Region.noSelect ops = true) (hQ : ∀ c a d v w, Q (.panic c) (Act.put a d v) w → Q (.panic c) a w) (hs : Region.sinkB .any ops n = true) (hc : Region.chainB .any ops n = true) (hn : n < ops.size) :
    ∀ (l : OT) (listed : Array Bool) (a : Act) (w : World), ExtS w0 S w → HeadInv .any ops n listed → l.okF ops n listed = true → wpTrF P ops w0 S Q fin l a w →
      wpMix P ops Q (ExtS w0 S) n (fun listed' a' w' => Region.seqB .any ops (ops.size - n) n listed' = true ∧ fin a' w') l.deep listed a w
  | .nil, listed, a, w, _, _, hB, h => ⟨by simpa [OT.okF] using hB, by simpa only [wpTrF] using h⟩
  | .q i r, listed, a, w, hS, inv, hB, h => by
    simp only [OT.okF, Bool.and_eq_true, decide_eq_true_eq] at hB
    obtain ⟨⟨⟨hin, hr⟩, hf⟩, hB⟩ := hB
    simp only [wpTrF] at h
    cases ho : ops[i]? with
    | none => rw [ho] at h; exact h.elim
    | some o =>
      rw [ho] at h
      simp only [takeS] at h
      have hr' : i ∈ Region.ready .any ops listed := by simpa using hr
      by_cases hw : Region.wanted o (yielded ops a.tmps) = true
      · rw [if_pos hw] at h
        obtain ⟨v, h1, h2⟩ := h
        exact wpMix_first ho (Region.noSelect_spec hsel) (fun c a w => hQ c a _ _ w) hs hc hn hin (fun _ _ _ hL => seqB_ready hL.1) r.deep listed a w inv (Region.free_spec ho hf) hr' (.inl ⟨hw, fun W hW => by obtain ⟨X, rfl⟩ := hW; exact h1 X⟩) hS
          (wpMix_of_treeF hsel hQ hs hc hn r _ _ w hS (inv.set hr' hin) hB h2)
      · rw [if_neg hw] at h
        exact wpMix_first ho (Region.noSelect_spec hsel) (fun c a w => hQ c a _ _ w) hs hc hn hin (fun _ _ _ hL => seqB_ready hL.1) r.deep listed a w inv (Region.free_spec ho hf) hr' (.inr ⟨by simpa using hw, rfl⟩) hS
          (wpMix_of_treeF hsel hQ hs hc hn r _ _ w hS (inv.set hr' hin) hB h)
  | .t i r, listed, a, w, hS, inv, hB, h => by
    simp only [OT.okF, Bool.and_eq_true, decide_eq_true_eq] at hB
    obtain ⟨⟨hin, hr⟩, hB⟩ := hB
    simp only [wpTrF] at h
    have hr' : i ∈ Region.ready .any ops listed := by rw [hr]; simp
    refine ⟨by rw [hr]; simp, fun j hj => ?_⟩
    obtain rfl : j = i := by rw [hr] at hj; simpa using hj
    exact ⟨hin, wpOp_of_stepF hS (fun a w hS h => wpMix_of_treeF hsel hQ hs hc hn r _ a w hS (inv.set hr' hin) hB h) h⟩
  | .two i r j s, listed, a, w, hS, inv, hB, h => by
    simp only [OT.okF, Bool.and_eq_true, decide_eq_true_eq] at hB
    obtain ⟨⟨⟨⟨⟨hi, hj⟩, hr⟩, hd⟩, hB1⟩, hB2⟩ := hB
    simp only [wpTrF] at h
    have hri : i ∈ Region.ready .any ops listed := by rw [hr]; simp
    have hrj : j ∈ Region.ready .any ops listed := by rw [hr]; simp
    refine ⟨by rw [hr]; simp, fun k hk => ?_⟩
    rw [hr] at hk
    rcases List.mem_cons.1 hk with rfl | hk
    · exact ⟨hi, wpOp_of_stepF hS (fun a w hS h => wpMix_of_treeF hsel hQ hs hc hn r _ a w hS (inv.set hri hi) hB1 h) h.1⟩
    · obtain rfl : k = j := by simpa using hk
      exact ⟨hj, wpOp_of_stepF hS (fun a w hS h => by rw [hd]; exact wpMix_of_treeF hsel hQ hs hc hn s _ a w hS (inv.set hrj hj) hB2 h) h.2⟩
theorem region_treeF {id : Nat} {a : Act} {w : World} {l : List Oper} (S : List Nat) (n : Nat) (L : OT) (hm : P.follows .mixedOrders = true)
    (hB : (Region.noSelect l.toArray && Region.sinkB .any l.toArray n && Region.chainB .any l.toArray n && decide (n < l.length) && decide (L.deep = n) && L.okF l.toArray n (Array.replicate l.length false)) = true)
    (h : ∀ W, Below w.heap.size w W → wpTrF P l.toArray W S (noP Q) (fun a' W' => wpList P l.toArray (noP Q) (l.drop n) a' W') L a W) : (Code.region id l.toArray true).wp P Q a w := by
  refine wp_mono (Q := noP Q) ?_ noP_le
  have h := h w.drew (Below.refl _ w).drew
  simp only [Bool.and_eq_true, decide_eq_true_eq] at hB
  obtain ⟨⟨⟨⟨⟨hsel, hs⟩, hc⟩, hn⟩, hl⟩, hB⟩ := hB
  refine wp_region_any hm ?_
  have inv0 : HeadInv .any l.toArray n (Array.replicate l.length false) :=
    ⟨by simp, fun j oj _ hl => (by rw [getD_replicate_false] at hl; cases hl), fun t _ ht => getD_in (by simpa using ht) (getD_replicate_false _ _)⟩
  have h' := wpMix_of_treeF hsel (fun _ _ _ _ _ h => h.elim) hs hc (by simpa using hn) L _ a _ (.of (Kb.refl _ _)) inv0 hB h
  have h2 := wpAny_of_mix (g := l.length - n) (fun listed a' w' hL => by
    have := wpAny_of_seq (md := .any) (Q' := noP Q) (l.drop n) n listed a' w' (fun j => by simp [List.getElem?_drop]) (by rw [List.length_drop]; simpa using hL.1) hL.2
    rwa [List.length_drop] at this) _ _ _ _ h'
  rw [hl, show n + (l.length - n) = l.length by omega] at h2
  simpa using h2
theorem trF_nil {w0 : World} {fin : Act → World → Prop} {a : Act} {w : World} (h : fin a w) : wpTrF P ops w0 S Q fin .nil a w := by simp only [wpTrF]; exact h
theorem trF_q {w0 : World} {fin : Act → World → Prop} {a : Act} {w : World} {i : Nat} {r : OT} {o : Oper} (ho : ops[i]? = some o)
    (h : ∀ K : Act → Prop, (∀ a', wpTrF P ops w0 S Q fin r a' w → K a') → takeS P ops w0 S o a K) : wpTrF P ops w0 S Q fin (.q i r) a w := by
  simp only [wpTrF, ho]
  exact h _ fun _ h => h
theorem trF_step {w0 : World} {fin : Act → World → Prop} {a : Act} {w : World} {i : Nat} {r : OT} {o : Oper} (ho : ops[i]? = some o)
    (h : ∀ K : Act → World → Prop, (∀ a' w', ExtS w0 S w' → wpTrF P ops w0 S Q fin r a' w' → K a' w') → if Region.wanted o (yielded ops a.tmps) then o.wp P a w K Q else K (a.put o.dst undef) w) :
    (match ops[i]? with
      | none => False
      | some o => if Region.wanted o (yielded ops a.tmps) then o.wp P a w (fun a' w' => ExtS w0 S w' ∧ wpTrF P ops w0 S Q fin r a' w') Q else wpTrF P ops w0 S Q fin r (a.put o.dst undef) w) := by
  rw [ho]
  dsimp only
  have h' := h (fun a' w' => ExtS w0 S w' ∧ wpTrF P ops w0 S Q fin r a' w') fun _ _ h1 h2 => ⟨h1, h2⟩
  split
  · rename_i hw; rw [if_pos hw] at h'; exact h'
  · rename_i hw; rw [if_neg hw] at h'; exact h'.2
theorem trF_t {w0 : World} {fin : Act → World → Prop} {a : Act} {w : World} {i : Nat} {r : OT} {o : Oper} (ho : ops[i]? = some o)
    (h : ∀ K : Act → World → Prop, (∀ a' w', ExtS w0 S w' → wpTrF P ops w0 S Q fin r a' w' → K a' w') → if Region.wanted o (yielded ops a.tmps) then o.wp P a w K Q else K (a.put o.dst undef) w) : wpTrF P ops w0 S Q fin (.t i r) a w := by
  simp only [wpTrF]
  exact trF_step ho h
theorem trF_two {w0 : World} {fin : Act → World → Prop} {a : Act} {w : World} {i j : Nat} {r s : OT} {o p : Oper} (ho : ops[i]? = some o) (hp : ops[j]? = some p)
    (h : ∀ K : Act → World → Prop, (∀ a' w', ExtS w0 S w' → wpTrF P ops w0 S Q fin r a' w' → K a' w') → if Region.wanted o (yielded ops a.tmps) then o.wp P a w K Q else K (a.put o.dst undef) w)
    (k : ∀ K : Act → World → Prop, (∀ a' w', ExtS w0 S w' → wpTrF P ops w0 S Q fin s a' w' → K a' w') → if Region.wanted p (yielded ops a.tmps) then p.wp P a w K Q else K (a.put p.dst undef) w) : wpTrF P ops w0 S Q fin (.two i r j s) a w := by
  simp only [wpTrF]
  exact ⟨trF_step ho h, trF_step hp k⟩
end
attribute [irreducible] wpTrF
end Go.Proofs.YtmpoihejacklnaaDoor
