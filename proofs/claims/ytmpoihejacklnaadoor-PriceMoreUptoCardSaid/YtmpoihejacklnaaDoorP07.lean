/- Parts of these proofs, one behind the other: Pfl. No condition. -/
import Derived.Test.YtmpoihejacklnaaDoorP06
/- price.fill walked. No condition. -/
namespace Go.Proofs.YtmpoihejacklnaaDoor
open Go Go.RowKit Go.Shelf
attribute [local go_sem] Oper.semAt_some
/-- What 'fill' hands back. -/
def PflPost (w : World) (A : Option Addr) (xs : List T3) (T V : List Int) (e : Ending) (w' : World) : Prop :=
  ∃ (G cb B base : Nat) (cs : List Sl), e = .returned (.tuple #[.pointer (some ⟨G, 0, none⟩), .int .i64 0]) ∧ GridR (LowB w.heap.size A xs) w' G xs T V ∧ w.heap.size ≤ base ∧ w'.cell? ⟨G, 6, none⟩ = some (.slice (some ⟨cb, 0, none⟩) (T.length + 1) (T.length + 1)) ∧
    Mat w' base cb T.length V.length 0 B cs (cc (rus xs) T V) ∧ Below w.heap.size w w'
theorem tok_tk {s : ByteArray} (h : tkE s = 0) : tokE s = 0 := by
  obtain ⟨l, h1, _, h2⟩ := tkE_ok h
  unfold tokE
  rw [h1]
  simp only
  rw [if_neg (by omega)]
theorem take_size {l : List Int} {k : Nat} {x : Int} (h : l[k]? = some x) : l.take (k + 1) = l.take k ++ [x] := by rw [List.take_add_one, h]; rfl
theorem info_intp : (Tryd.prog.info? 3).map (fun i => (i.zero, i.size, i.bytes)) = some (some (.int .i64 0), 1, 8) := by kernel_rfl
set_option maxRecDepth 100000 in
set_option maxHeartbeats 4000000 in
theorem pfill_c (A : Option Addr) (c : Nat) (xs : List T3) (t v : ByteArray) (w : World) (hU : U w) (hs : SlA eT3 w A xs) (hm : Small xs) (hz : t.size ≤ 17592186044416) (hz2 : v.size ≤ 17592186044416) (h0 : prcE xs t v = 0) :
    Calls Tryd.prog 26 #[.slice A xs.length c, .string t, .string v] w (PflPost w A xs (rnS t) (rnS v)) := by
  obtain ⟨k1, k2, k3⟩ := prcE_ok h0
  obtain ⟨dt, a1, a2, a3⟩ := rn_ok k2
  obtain ⟨dv, b1, b2, b3⟩ := rn_ok k3
  have hxl := (isE_ok k1).1
  have C1 := fun W hW => is_c A c xs W (hU.to hW) (hs.below hW) hm
  rw [k1] at C1
  have C2 := fun W hW => tk_c t W (hU.to hW) hz
  have C3 := fun W hW => tk_c v W (hU.to hW) hz2
  obtain ⟨T, hT⟩ : ∃ T, rnS t = T := ⟨_, rfl⟩
  obtain ⟨V, hV⟩ : ∃ V, rnS v = V := ⟨_, rfl⟩
  rw [hT] at a1 a2 a3 dt ⊢
  rw [hV] at b1 b2 b3 dv ⊢
  have K2 := Lib.hid k2
  have K3 := Lib.hid k3
  have HI := Lib.hid k1
  have HTR := Lib.hid a3
  have HVR := Lib.hid b3
  have DT := Lib.hid dt
  have DV := Lib.hid dv
  clear h0 k1 k2 k3 a3 b3 dt dv hT hV
  obtain ⟨i1, hi1, hy0, hy1, hy2⟩ := info_is
  obtain ⟨i2, hi2, hy3, hy4, hy5⟩ := info_i64p
  refine (callsIn_wide (n := 5)).1 ?_
  refine callsIn_of_wp_marks Tryd.func26 rfl trivial ?_ rfl
  simp only [Tryd.ntmps26, List.size_toArray, List.length_cons, List.length_nil, Nat.reduceAdd, Nat.reduceSub, Array.replicate_succ, Array.replicate_zero, List.push_toArray, List.append_toArray, List.nil_append, List.cons_append]
  gi_wp2_with fail
  refine scope_in ?_
  gi_wp2_with fail
  refine ⟨trivial, ?_⟩
  refine (callsIn_wide.2 (C1 _ (Below.refl _ _))).mono ?_
  rintro e w2 ⟨rfl, hb2⟩
  gi_wp2_with fail
  refine ⟨trivial, ?_⟩
  refine (callsIn_wide.2 (C2 _ hb2)).mono ?_
  rintro e w3 ⟨hb3, h3, _⟩
  obtain ⟨v3, l3, hl3, _, _, rfl, hO3⟩ := h3 K2.out
  obtain rfl : T = l3 := by rw [DT.out] at hl3; injection hl3
  have hge3 := fun g hg => hO3.ge g hg
  obtain ⟨A3, c3, rfl, m3, n3, hA3⟩ := hO3.slv
  have g3 : ∀ b o, A3 = some ⟨b, o, none⟩ → w.heap.size ≤ b := fun b o h => Nat.le_trans hb2.size (hge3 b (by rw [h]; rfl))
  clear hge3
  clear h3 hO3 hl3
  have hb03 := Bst hb2 hb3
  gi_wp2_with fail
  refine ⟨trivial, ?_⟩
  refine (callsIn_wide.2 (C3 _ hb03)).mono ?_
  rintro e w4 ⟨hb4, h4, _⟩
  obtain ⟨v4, l4, hl4, _, _, rfl, hO4⟩ := h4 K3.out
  obtain rfl : V = l4 := by rw [DV.out] at hl4; injection hl4
  have hge4 := fun g hg => hO4.ge g hg
  obtain ⟨A4, c4, rfl, m4, n4, hA4⟩ := hO4.slv
  have g4 : ∀ b o, A4 = some ⟨b, o, none⟩ → w.heap.size ≤ b := fun b o h => Nat.le_trans hb03.size (hge4 b (by rw [h]; rfl))
  clear hge4
  have HG3 := Lib.hid g3
  have HG4 := Lib.hid g4
  clear g3 g4
  clear h4 hO4 hl4
  have hA3 := hA3.below hb4
  have hb04 := Bst hb03 hb4
  clear C1 C2 C3 hb2 hb3 hb4 hb03
  have wT : IntKind.i64.wrap ((T.length : Int) + 1) = (T.length : Int) + 1 := IntWalk.i64_in _ (by omega)
  have wV : IntKind.i64.wrap ((V.length : Int) + 1) = (V.length : Int) + 1 := IntWalk.i64_in _ (by omega)
  gi_wp2_with fail
  refine wpIn_wide.2 ?_
  refine wp_cutG (fun a' w' => ∃ gb G hb N : Nat, a' = { tmps := #[.slice A xs.length c, .string t, .string v, undef, undef, undef, .pointer none, .int .i64 0, .int .i64 0, .slice A3 T.length c3, .int .i64 0, .slice A4 V.length c4, .pointer (some ⟨gb, 0, none⟩), undef, undef, undef, undef, undef, undef, undef, undef, undef, undef, undef, .slice A xs.length c, .int .i64 0, .int .i64 0, .bool false, undef, .tuple #[.slice A3 T.length c3, .int .i64 0], .string t, .tuple #[.slice A3 T.length c3, .int .i64 0], .slice A3 T.length c3, .int .i64 0, .int .i64 0, .bool false, undef, .tuple #[.slice A4 V.length c4, .int .i64 0], .string v, .tuple #[.slice A4 V.length c4, .int .i64 0], .slice A4 V.length c4, .int .i64 0, .int .i64 0, .bool false, undef, .slice A xs.length c, .slice A3 T.length c3, .slice A4 V.length c4, .slice A3 T.length c3, .int .i64 T.length, .int .i64 (T.length + 1), .slice (some ⟨hb, 0, none⟩) (T.length + 1) (T.length + 1), .slice A3 T.length c3, .int .i64 T.length, .int .i64 (T.length + 1), .slice (some ⟨N, 0, none⟩) (T.length + 1) (T.length + 1), .agg #[.slice A xs.length c, .slice none 0 0, .slice none 0 0, .slice A3 T.length c3, .slice A4 V.length c4, .slice (some ⟨hb, 0, none⟩) (T.length + 1) (T.length + 1), .slice (some ⟨N, 0, none⟩) (T.length + 1) (T.length + 1)], .pointer (some ⟨G, 0, none⟩), undef, undef, undef, undef, undef, undef, undef, undef, undef, undef, undef, undef, undef, undef, undef, undef, undef, undef, undef, undef, undef, undef, undef, undef, undef, undef, undef, undef, undef, undef, undef, undef, undef, undef, undef, undef, undef, undef, undef, undef, undef, undef, undef, undef, undef, undef, undef, undef, undef, undef, undef, undef, undef, undef, undef, undef, undef, undef, undef, undef, undef, undef, undef, undef, undef, undef, undef, undef, undef, undef, undef, undef, undef, undef, undef, undef, undef, undef, undef, undef, undef, undef, undef, undef, undef, undef, undef, undef, undef, undef, undef, undef, undef, undef, undef, undef, undef, undef, undef, undef, undef, undef, undef, undef, undef, undef, undef, undef, undef, undef, undef, undef, undef, undef, undef, undef, undef, undef, undef, undef, undef, undef, undef, undef, undef, undef, undef, undef, undef, undef, undef, undef, undef, undef, undef, undef, undef, undef, undef, undef, undef, undef, undef, undef, undef, undef, undef, undef, undef, undef, undef, undef], defers := [] } ∧ Lg w4.heap.size w' gb G hb N (T.length + 1) (.slice A xs.length c) (.slice none 0 0) (.slice none 0 0) (.slice A3 T.length c3) (.slice A4 V.length c4) (.slice none 0 0) (.slice none 0 0) [] [] [] ∧ Below w4.heap.size w4 w' ∧ w4.heap.size ≤ G ∧ w4.heap.size ≤ hb ∧ w4.heap.size ≤ N) ?_ ?_
  rotate_left
  · skip
    refine region_tree3 (.q 0 (.q 1 (.q 2 (.q 3 (.q 4 (.q 5 (.q 7 (.q 8 (.q 9 (.three 6 (.two 10 (.q 11 (.two 12 (.t 13 (.t 14 .nil)) 13 (.t 12 (.t 14 .nil)))) 13 (.t 10 (.q 11 (.t 12 (.t 14 .nil))))) 10 (.two 6 (.q 11 (.two 12 (.t 13 (.t 14 .nil)) 13 (.t 12 (.t 14 .nil)))) 13 (.t 6 (.q 11 (.t 12 (.t 14 .nil))))) 13 (.two 6 (.t 10 (.q 11 (.t 12 (.t 14 .nil)))) 10 (.t 6 (.q 11 (.t 12 (.t 14 .nil))))))))))))))) (by kernel_rfl) (by kernel_rfl) ?_
    intro W0 hW0
    have hs0 : Below w4.heap.size w4 W0 := hW0
    repeat (refine tr3_q rfl (fun K hK => ?_); unfold takeQ; go_simp; refine hK _ ?_; clear hK K)
    refine tr3_three rfl rfl rfl (fun K hK => ?_) (fun K hK => ?_) (fun K hK => ?_)
    · rw [if_pos (wanted_free rfl _)]
      refine make_opO _ _ _ 63 rfl w4.heap.size 61 i1 (.slice none 0 0) 1 Tryd.underlying63 hi1 hy0 hy1 .i64 .i64 _ _ (T.length + 1) rfl rfl (by push_cast; rfl) (by push_cast; rfl) (by rw [hy2]; omega) (by simp only [maxLen]; omega) hs0.size ?_
      intro w_1 HO1 hg1
      have hb1 : Below W0.heap.size W0 w_1 := Bgr (Below.refl _ _) hg1 (by simp)
      have hH1 := own_madeS _ _ _ _ HO1
      refine hK _ _ (.of (Bst (Below.refl _ _) hb1)) ?_; clear hK K
      have s1 := Bst hs0 hb1
      have x1 := Bst (Below.refl _ _) hb1
      have z1 : W0.heap.size < w_1.heap.size := by
        rcases hH1.put with h | ⟨g, h, hl⟩
        · simp [Value.ownBlock] at h
        · simp only [Value.ownBlock] at h; injection h with h; omega
      refine tr3_two rfl rfl (fun K hK => ?_) (fun K hK => ?_)
      · rw [if_pos (wanted_free rfl _)]
        refine make_opO _ _ _ 63 rfl w4.heap.size 61 i1 (.slice none 0 0) 1 Tryd.underlying63 hi1 hy0 hy1 .i64 .i64 _ _ (T.length + 1) rfl rfl (by push_cast; rfl) (by push_cast; rfl) (by rw [hy2]; omega) (by simp only [maxLen]; omega) s1.size ?_
        intro w_2 HO2 hg2
        have hb2 : Below w_1.heap.size w_1 w_2 := Bgr (Below.refl _ _) hg2 (by simp)
        have hH2 := own_madeS _ _ _ _ HO2
        refine hK _ _ (.of (Bst x1 hb2)) ?_; clear hK K
        have qh2 := hH1.below hb2
        have s2 := Bst s1 hb2
        have x2 := Bst x1 hb2
        have z2 : w_1.heap.size < w_2.heap.size := by
          rcases hH2.put with h | ⟨g, h, hl⟩
          · simp [Value.ownBlock] at h
          · simp only [Value.ownBlock] at h; injection h with h; omega
        repeat (refine tr3_q rfl (fun K hK => ?_); unfold takeQ; go_simp; refine hK _ ?_; clear hK K)
        refine tr3_two rfl rfl (fun K hK => ?_) (fun K hK => ?_)
        · go_simp
          have hb3 : Below w_2.heap.size w_2 (w_2.alloc (.cells #[.slice A xs.length c, .slice none 0 0, .slice none 0 0, .slice A3 T.length c3, .slice A4 V.length c4, .slice (some ⟨W0.heap.size, 0, none⟩) (T.length + 1) (T.length + 1), .slice (some ⟨w_1.heap.size, 0, none⟩) (T.length + 1) (T.length + 1)] 65)) := Bal (Below.refl _ _) _
          have hH3 := Bx.new w_2 65 #[.slice A xs.length c, .slice none 0 0, .slice none 0 0, .slice A3 T.length c3, .slice A4 V.length c4, .slice (some ⟨W0.heap.size, 0, none⟩) (T.length + 1) (T.length + 1), .slice (some ⟨w_1.heap.size, 0, none⟩) (T.length + 1) (T.length + 1)]
          refine hK _ _ (.of (Bst x2 hb3)) ?_; clear hK K
          generalize (w_2.alloc (.cells #[.slice A xs.length c, .slice none 0 0, .slice none 0 0, .slice A3 T.length c3, .slice A4 V.length c4, .slice (some ⟨W0.heap.size, 0, none⟩) (T.length + 1) (T.length + 1), .slice (some ⟨w_1.heap.size, 0, none⟩) (T.length + 1) (T.length + 1)] 65)) = w_3 at hb3 hH3 ⊢
          have qh3 := qh2.below hb3
          have qN3 := hH2.below hb3
          have s3 := Bst s2 hb3
          have x3 := Bst x2 hb3
          refine tr3_t rfl (fun K hK => ?_)
          go_simp
          have hb4 : Below w_3.heap.size w_3 (w_3.alloc (.cells #[.pointer none] 58)) := Bal (Below.refl _ _) _
          have hH4 := Boxed.new w_3 58 (.pointer none)
          refine hK _ _ (.of (Bst x3 hb4)) ?_; clear hK K
          generalize (w_3.alloc (.cells #[.pointer none] 58)) = w_4 at hb4 hH4 ⊢
          have qh4 := qh3.below hb4
          have qN4 := qN3.below hb4
          have qg4 := hH3.below hb4
          have s4 := Bst s3 hb4
          have x4 := Bst x3 hb4
          have hcb := hH4.cell
          have hfb := hH4.frozen
          have hbl := hH4.lt
          refine tr3_t rfl (fun K hK => ?_)
          go_simp
          have hk5 : Kb w_4 (w_4.setCell ⟨w_3.heap.size, 0, none⟩ (.pointer (some ⟨w_2.heap.size, 0, none⟩))) [w_3.heap.size] := Kb.grown (grownBy_cell w_4 w_3.heap.size 0 _)
          have hS5 : ∀ e, 58 ≠ e → ∀ b ∈ [w_3.heap.size], ∃ e', Ty w_4 b e' ∧ e' ≠ e := fun e he b hb => ⟨_, (List.mem_singleton.1 hb) ▸ ⟨_, _, hH4⟩, he⟩
          have hge5 : W0.heap.size ≤ w_3.heap.size := by
            have u0 := hb1.size
            have u1 := hb2.size
            have u2 := hb3.size
            have u3 := hb4.size
            omega
          have hne5 : W0.heap.size ≠ w_1.heap.size := by
            have u0 := hb1.size
            have u1 := hb2.size
            have u2 := hb3.size
            have u3 := hb4.size
            have u10 := z1
            have u11 := z2
            omega
          have hlo5 : W0.heap.size ≤ W0.heap.size ∧ W0.heap.size ≤ w_1.heap.size := by
            have u0 := hb1.size
            have u1 := hb2.size
            have u2 := hb3.size
            have u3 := hb4.size
            omega
          refine hK _ _ (.of (Bsc (p := ⟨w_3.heap.size, 0, none⟩) x4 hge5 _)) ?_; clear hK K
          refine tr3_nil ?_
          rw [noP_normal]
          exact ⟨w_3.heap.size, w_2.heap.size, W0.heap.size, w_1.heap.size, rfl, ⟨Boxed.set _ hH4, qg4.kbT hk5 (hS5 _ (by decide)), Own.nil _, Own.nil _, RwO.nil _ _, qh4.kbT hk5 (hS5 _ (by decide)), qN4.kbT hk5 (hS5 _ (by decide)), hne5⟩, Bsc (p := ⟨w_3.heap.size, 0, none⟩) s4 (Nat.le_trans hs0.size hge5) _, s2.size, Nat.le_trans hW0.size hlo5.1, Nat.le_trans hW0.size hlo5.2⟩
        · go_simp
          have hb6 : Below w_2.heap.size w_2 (w_2.alloc (.cells #[.pointer none] 58)) := Bal (Below.refl _ _) _
          have hH6 := Boxed.new w_2 58 (.pointer none)
          refine hK _ _ (.of (Bst x2 hb6)) ?_; clear hK K
          generalize (w_2.alloc (.cells #[.pointer none] 58)) = w_6 at hb6 hH6 ⊢
          have qh6 := qh2.below hb6
          have qN6 := hH2.below hb6
          have s6 := Bst s2 hb6
          have x6 := Bst x2 hb6
          refine tr3_t rfl (fun K hK => ?_)
          go_simp
          have hb7 : Below w_6.heap.size w_6 (w_6.alloc (.cells #[.slice A xs.length c, .slice none 0 0, .slice none 0 0, .slice A3 T.length c3, .slice A4 V.length c4, .slice (some ⟨W0.heap.size, 0, none⟩) (T.length + 1) (T.length + 1), .slice (some ⟨w_1.heap.size, 0, none⟩) (T.length + 1) (T.length + 1)] 65)) := Bal (Below.refl _ _) _
          have hH7 := Bx.new w_6 65 #[.slice A xs.length c, .slice none 0 0, .slice none 0 0, .slice A3 T.length c3, .slice A4 V.length c4, .slice (some ⟨W0.heap.size, 0, none⟩) (T.length + 1) (T.length + 1), .slice (some ⟨w_1.heap.size, 0, none⟩) (T.length + 1) (T.length + 1)]
          refine hK _ _ (.of (Bst x6 hb7)) ?_; clear hK K
          generalize (w_6.alloc (.cells #[.slice A xs.length c, .slice none 0 0, .slice none 0 0, .slice A3 T.length c3, .slice A4 V.length c4, .slice (some ⟨W0.heap.size, 0, none⟩) (T.length + 1) (T.length + 1), .slice (some ⟨w_1.heap.size, 0, none⟩) (T.length + 1) (T.length + 1)] 65)) = w_7 at hb7 hH7 ⊢
          have qh7 := qh6.below hb7
          have qN7 := qN6.below hb7
          have qb7 := (hb7.block _ hH6.lt).trans hH6
          replace qb7 : Boxed w_7 w_2.heap.size 58 (.pointer none) := qb7
          have s7 := Bst s6 hb7
          have x7 := Bst x6 hb7
          have hcb := qb7.cell
          have hfb := qb7.frozen
          have hbl := qb7.lt
          refine tr3_t rfl (fun K hK => ?_)
          go_simp
          have hk8 : Kb w_7 (w_7.setCell ⟨w_2.heap.size, 0, none⟩ (.pointer (some ⟨w_6.heap.size, 0, none⟩))) [w_2.heap.size] := Kb.grown (grownBy_cell w_7 w_2.heap.size 0 _)
          have hS8 : ∀ e, 58 ≠ e → ∀ b ∈ [w_2.heap.size], ∃ e', Ty w_7 b e' ∧ e' ≠ e := fun e he b hb => ⟨_, (List.mem_singleton.1 hb) ▸ ⟨_, _, qb7⟩, he⟩
          have hge8 : W0.heap.size ≤ w_2.heap.size := by
            have u0 := hb1.size
            have u1 := hb2.size
            have u2 := hb6.size
            have u3 := hb7.size
            omega
          have hne8 : W0.heap.size ≠ w_1.heap.size := by
            have u0 := hb1.size
            have u1 := hb2.size
            have u2 := hb6.size
            have u3 := hb7.size
            have u10 := z1
            have u11 := z2
            omega
          have hlo8 : W0.heap.size ≤ W0.heap.size ∧ W0.heap.size ≤ w_1.heap.size := by
            have u0 := hb1.size
            have u1 := hb2.size
            have u2 := hb6.size
            have u3 := hb7.size
            omega
          refine hK _ _ (.of (Bsc (p := ⟨w_2.heap.size, 0, none⟩) x7 hge8 _)) ?_; clear hK K
          refine tr3_nil ?_
          rw [noP_normal]
          exact ⟨w_2.heap.size, w_6.heap.size, W0.heap.size, w_1.heap.size, rfl, ⟨Boxed.set _ qb7, hH7.kbT hk8 (hS8 _ (by decide)), Own.nil _, Own.nil _, RwO.nil _ _, qh7.kbT hk8 (hS8 _ (by decide)), qN7.kbT hk8 (hS8 _ (by decide)), hne8⟩, Bsc (p := ⟨w_2.heap.size, 0, none⟩) s7 (Nat.le_trans hs0.size hge8) _, s6.size, Nat.le_trans hW0.size hlo8.1, Nat.le_trans hW0.size hlo8.2⟩
      · go_simp
        have hb9 : Below w_1.heap.size w_1 (w_1.alloc (.cells #[.pointer none] 58)) := Bal (Below.refl _ _) _
        have hH9 := Boxed.new w_1 58 (.pointer none)
        refine hK _ _ (.of (Bst x1 hb9)) ?_; clear hK K
        generalize (w_1.alloc (.cells #[.pointer none] 58)) = w_9 at hb9 hH9 ⊢
        have qh9 := hH1.below hb9
        have s9 := Bst s1 hb9
        have x9 := Bst x1 hb9
        refine tr3_t rfl (fun K hK => ?_)
        rw [if_pos (wanted_free rfl _)]
        refine make_opO _ _ _ 63 rfl w4.heap.size 61 i1 (.slice none 0 0) 1 Tryd.underlying63 hi1 hy0 hy1 .i64 .i64 _ _ (T.length + 1) rfl rfl (by push_cast; rfl) (by push_cast; rfl) (by rw [hy2]; omega) (by simp only [maxLen]; omega) s9.size ?_
        intro w_10 HO10 hg10
        have hb10 : Below w_9.heap.size w_9 w_10 := Bgr (Below.refl _ _) hg10 (by simp)
        have hH10 := own_madeS _ _ _ _ HO10
        refine hK _ _ (.of (Bst x9 hb10)) ?_; clear hK K
        have qh10 := qh9.below hb10
        have qb10 := (hb10.block _ hH9.lt).trans hH9
        replace qb10 : Boxed w_10 w_1.heap.size 58 (.pointer none) := qb10
        have s10 := Bst s9 hb10
        have x10 := Bst x9 hb10
        have z10 : w_9.heap.size < w_10.heap.size := by
          rcases hH10.put with h | ⟨g, h, hl⟩
          · simp [Value.ownBlock] at h
          · simp only [Value.ownBlock] at h; injection h with h; omega
        repeat (refine tr3_q rfl (fun K hK => ?_); unfold takeQ; go_simp; refine hK _ ?_; clear hK K)
        refine tr3_t rfl (fun K hK => ?_)
        go_simp
        have hb11 : Below w_10.heap.size w_10 (w_10.alloc (.cells #[.slice A xs.length c, .slice none 0 0, .slice none 0 0, .slice A3 T.length c3, .slice A4 V.length c4, .slice (some ⟨W0.heap.size, 0, none⟩) (T.length + 1) (T.length + 1), .slice (some ⟨w_9.heap.size, 0, none⟩) (T.length + 1) (T.length + 1)] 65)) := Bal (Below.refl _ _) _
        have hH11 := Bx.new w_10 65 #[.slice A xs.length c, .slice none 0 0, .slice none 0 0, .slice A3 T.length c3, .slice A4 V.length c4, .slice (some ⟨W0.heap.size, 0, none⟩) (T.length + 1) (T.length + 1), .slice (some ⟨w_9.heap.size, 0, none⟩) (T.length + 1) (T.length + 1)]
        refine hK _ _ (.of (Bst x10 hb11)) ?_; clear hK K
        generalize (w_10.alloc (.cells #[.slice A xs.length c, .slice none 0 0, .slice none 0 0, .slice A3 T.length c3, .slice A4 V.length c4, .slice (some ⟨W0.heap.size, 0, none⟩) (T.length + 1) (T.length + 1), .slice (some ⟨w_9.heap.size, 0, none⟩) (T.length + 1) (T.length + 1)] 65)) = w_11 at hb11 hH11 ⊢
        have qh11 := qh10.below hb11
        have qN11 := hH10.below hb11
        have qb11 := (hb11.block _ qb10.lt).trans qb10
        replace qb11 : Boxed w_11 w_1.heap.size 58 (.pointer none) := qb11
        have s11 := Bst s10 hb11
        have x11 := Bst x10 hb11
        have hcb := qb11.cell
        have hfb := qb11.frozen
        have hbl := qb11.lt
        refine tr3_t rfl (fun K hK => ?_)
        go_simp
        have hk12 : Kb w_11 (w_11.setCell ⟨w_1.heap.size, 0, none⟩ (.pointer (some ⟨w_10.heap.size, 0, none⟩))) [w_1.heap.size] := Kb.grown (grownBy_cell w_11 w_1.heap.size 0 _)
        have hS12 : ∀ e, 58 ≠ e → ∀ b ∈ [w_1.heap.size], ∃ e', Ty w_11 b e' ∧ e' ≠ e := fun e he b hb => ⟨_, (List.mem_singleton.1 hb) ▸ ⟨_, _, qb11⟩, he⟩
        have hge12 : W0.heap.size ≤ w_1.heap.size := by
          have u0 := hb1.size
          have u1 := hb9.size
          have u2 := hb10.size
          have u3 := hb11.size
          omega
        have hne12 : W0.heap.size ≠ w_9.heap.size := by
          have u0 := hb1.size
          have u1 := hb9.size
          have u2 := hb10.size
          have u3 := hb11.size
          have u10 := z1
          have u11 := z10
          omega
        have hlo12 : W0.heap.size ≤ W0.heap.size ∧ W0.heap.size ≤ w_9.heap.size := by
          have u0 := hb1.size
          have u1 := hb9.size
          have u2 := hb10.size
          have u3 := hb11.size
          omega
        refine hK _ _ (.of (Bsc (p := ⟨w_1.heap.size, 0, none⟩) x11 hge12 _)) ?_; clear hK K
        refine tr3_nil ?_
        rw [noP_normal]
        exact ⟨w_1.heap.size, w_10.heap.size, W0.heap.size, w_9.heap.size, rfl, ⟨Boxed.set _ qb11, hH11.kbT hk12 (hS12 _ (by decide)), Own.nil _, Own.nil _, RwO.nil _ _, qh11.kbT hk12 (hS12 _ (by decide)), qN11.kbT hk12 (hS12 _ (by decide)), hne12⟩, Bsc (p := ⟨w_1.heap.size, 0, none⟩) s11 (Nat.le_trans hs0.size hge12) _, s10.size, Nat.le_trans hW0.size hlo12.1, Nat.le_trans hW0.size hlo12.2⟩
    · rw [if_pos (wanted_free rfl _)]
      refine make_opO _ _ _ 63 rfl w4.heap.size 61 i1 (.slice none 0 0) 1 Tryd.underlying63 hi1 hy0 hy1 .i64 .i64 _ _ (T.length + 1) rfl rfl (by push_cast; rfl) (by push_cast; rfl) (by rw [hy2]; omega) (by simp only [maxLen]; omega) hs0.size ?_
      intro w_13 HO13 hg13
      have hb13 : Below W0.heap.size W0 w_13 := Bgr (Below.refl _ _) hg13 (by simp)
      have hH13 := own_madeS _ _ _ _ HO13
      refine hK _ _ (.of (Bst (Below.refl _ _) hb13)) ?_; clear hK K
      have s13 := Bst hs0 hb13
      have x13 := Bst (Below.refl _ _) hb13
      have z13 : W0.heap.size < w_13.heap.size := by
        rcases hH13.put with h | ⟨g, h, hl⟩
        · simp [Value.ownBlock] at h
        · simp only [Value.ownBlock] at h; injection h with h; omega
      refine tr3_two rfl rfl (fun K hK => ?_) (fun K hK => ?_)
      · rw [if_pos (wanted_free rfl _)]
        refine make_opO _ _ _ 63 rfl w4.heap.size 61 i1 (.slice none 0 0) 1 Tryd.underlying63 hi1 hy0 hy1 .i64 .i64 _ _ (T.length + 1) rfl rfl (by push_cast; rfl) (by push_cast; rfl) (by rw [hy2]; omega) (by simp only [maxLen]; omega) s13.size ?_
        intro w_14 HO14 hg14
        have hb14 : Below w_13.heap.size w_13 w_14 := Bgr (Below.refl _ _) hg14 (by simp)
        have hH14 := own_madeS _ _ _ _ HO14
        refine hK _ _ (.of (Bst x13 hb14)) ?_; clear hK K
        have qN14 := hH13.below hb14
        have s14 := Bst s13 hb14
        have x14 := Bst x13 hb14
        have z14 : w_13.heap.size < w_14.heap.size := by
          rcases hH14.put with h | ⟨g, h, hl⟩
          · simp [Value.ownBlock] at h
          · simp only [Value.ownBlock] at h; injection h with h; omega
        repeat (refine tr3_q rfl (fun K hK => ?_); unfold takeQ; go_simp; refine hK _ ?_; clear hK K)
        refine tr3_two rfl rfl (fun K hK => ?_) (fun K hK => ?_)
        · go_simp
          have hb15 : Below w_14.heap.size w_14 (w_14.alloc (.cells #[.slice A xs.length c, .slice none 0 0, .slice none 0 0, .slice A3 T.length c3, .slice A4 V.length c4, .slice (some ⟨w_13.heap.size, 0, none⟩) (T.length + 1) (T.length + 1), .slice (some ⟨W0.heap.size, 0, none⟩) (T.length + 1) (T.length + 1)] 65)) := Bal (Below.refl _ _) _
          have hH15 := Bx.new w_14 65 #[.slice A xs.length c, .slice none 0 0, .slice none 0 0, .slice A3 T.length c3, .slice A4 V.length c4, .slice (some ⟨w_13.heap.size, 0, none⟩) (T.length + 1) (T.length + 1), .slice (some ⟨W0.heap.size, 0, none⟩) (T.length + 1) (T.length + 1)]
          refine hK _ _ (.of (Bst x14 hb15)) ?_; clear hK K
          generalize (w_14.alloc (.cells #[.slice A xs.length c, .slice none 0 0, .slice none 0 0, .slice A3 T.length c3, .slice A4 V.length c4, .slice (some ⟨w_13.heap.size, 0, none⟩) (T.length + 1) (T.length + 1), .slice (some ⟨W0.heap.size, 0, none⟩) (T.length + 1) (T.length + 1)] 65)) = w_15 at hb15 hH15 ⊢
          have qh15 := hH14.below hb15
          have qN15 := qN14.below hb15
          have s15 := Bst s14 hb15
          have x15 := Bst x14 hb15
          refine tr3_t rfl (fun K hK => ?_)
          go_simp
          have hb16 : Below w_15.heap.size w_15 (w_15.alloc (.cells #[.pointer none] 58)) := Bal (Below.refl _ _) _
          have hH16 := Boxed.new w_15 58 (.pointer none)
          refine hK _ _ (.of (Bst x15 hb16)) ?_; clear hK K
          generalize (w_15.alloc (.cells #[.pointer none] 58)) = w_16 at hb16 hH16 ⊢
          have qh16 := qh15.below hb16
          have qN16 := qN15.below hb16
          have qg16 := hH15.below hb16
          have s16 := Bst s15 hb16
          have x16 := Bst x15 hb16
          have hcb := hH16.cell
          have hfb := hH16.frozen
          have hbl := hH16.lt
          refine tr3_t rfl (fun K hK => ?_)
          go_simp
          have hk17 : Kb w_16 (w_16.setCell ⟨w_15.heap.size, 0, none⟩ (.pointer (some ⟨w_14.heap.size, 0, none⟩))) [w_15.heap.size] := Kb.grown (grownBy_cell w_16 w_15.heap.size 0 _)
          have hS17 : ∀ e, 58 ≠ e → ∀ b ∈ [w_15.heap.size], ∃ e', Ty w_16 b e' ∧ e' ≠ e := fun e he b hb => ⟨_, (List.mem_singleton.1 hb) ▸ ⟨_, _, hH16⟩, he⟩
          have hge17 : W0.heap.size ≤ w_15.heap.size := by
            have u0 := hb13.size
            have u1 := hb14.size
            have u2 := hb15.size
            have u3 := hb16.size
            omega
          have hne17 : w_13.heap.size ≠ W0.heap.size := by
            have u0 := hb13.size
            have u1 := hb14.size
            have u2 := hb15.size
            have u3 := hb16.size
            have u10 := z14
            have u11 := z13
            omega
          have hlo17 : W0.heap.size ≤ w_13.heap.size ∧ W0.heap.size ≤ W0.heap.size := by
            have u0 := hb13.size
            have u1 := hb14.size
            have u2 := hb15.size
            have u3 := hb16.size
            omega
          refine hK _ _ (.of (Bsc (p := ⟨w_15.heap.size, 0, none⟩) x16 hge17 _)) ?_; clear hK K
          refine tr3_nil ?_
          rw [noP_normal]
          exact ⟨w_15.heap.size, w_14.heap.size, w_13.heap.size, W0.heap.size, rfl, ⟨Boxed.set _ hH16, qg16.kbT hk17 (hS17 _ (by decide)), Own.nil _, Own.nil _, RwO.nil _ _, qh16.kbT hk17 (hS17 _ (by decide)), qN16.kbT hk17 (hS17 _ (by decide)), hne17⟩, Bsc (p := ⟨w_15.heap.size, 0, none⟩) s16 (Nat.le_trans hs0.size hge17) _, s14.size, Nat.le_trans hW0.size hlo17.1, Nat.le_trans hW0.size hlo17.2⟩
        · go_simp
          have hb18 : Below w_14.heap.size w_14 (w_14.alloc (.cells #[.pointer none] 58)) := Bal (Below.refl _ _) _
          have hH18 := Boxed.new w_14 58 (.pointer none)
          refine hK _ _ (.of (Bst x14 hb18)) ?_; clear hK K
          generalize (w_14.alloc (.cells #[.pointer none] 58)) = w_18 at hb18 hH18 ⊢
          have qh18 := hH14.below hb18
          have qN18 := qN14.below hb18
          have s18 := Bst s14 hb18
          have x18 := Bst x14 hb18
          refine tr3_t rfl (fun K hK => ?_)
          go_simp
          have hb19 : Below w_18.heap.size w_18 (w_18.alloc (.cells #[.slice A xs.length c, .slice none 0 0, .slice none 0 0, .slice A3 T.length c3, .slice A4 V.length c4, .slice (some ⟨w_13.heap.size, 0, none⟩) (T.length + 1) (T.length + 1), .slice (some ⟨W0.heap.size, 0, none⟩) (T.length + 1) (T.length + 1)] 65)) := Bal (Below.refl _ _) _
          have hH19 := Bx.new w_18 65 #[.slice A xs.length c, .slice none 0 0, .slice none 0 0, .slice A3 T.length c3, .slice A4 V.length c4, .slice (some ⟨w_13.heap.size, 0, none⟩) (T.length + 1) (T.length + 1), .slice (some ⟨W0.heap.size, 0, none⟩) (T.length + 1) (T.length + 1)]
          refine hK _ _ (.of (Bst x18 hb19)) ?_; clear hK K
          generalize (w_18.alloc (.cells #[.slice A xs.length c, .slice none 0 0, .slice none 0 0, .slice A3 T.length c3, .slice A4 V.length c4, .slice (some ⟨w_13.heap.size, 0, none⟩) (T.length + 1) (T.length + 1), .slice (some ⟨W0.heap.size, 0, none⟩) (T.length + 1) (T.length + 1)] 65)) = w_19 at hb19 hH19 ⊢
          have qh19 := qh18.below hb19
          have qN19 := qN18.below hb19
          have qb19 := (hb19.block _ hH18.lt).trans hH18
          replace qb19 : Boxed w_19 w_14.heap.size 58 (.pointer none) := qb19
          have s19 := Bst s18 hb19
          have x19 := Bst x18 hb19
          have hcb := qb19.cell
          have hfb := qb19.frozen
          have hbl := qb19.lt
          refine tr3_t rfl (fun K hK => ?_)
          go_simp
          have hk20 : Kb w_19 (w_19.setCell ⟨w_14.heap.size, 0, none⟩ (.pointer (some ⟨w_18.heap.size, 0, none⟩))) [w_14.heap.size] := Kb.grown (grownBy_cell w_19 w_14.heap.size 0 _)
          have hS20 : ∀ e, 58 ≠ e → ∀ b ∈ [w_14.heap.size], ∃ e', Ty w_19 b e' ∧ e' ≠ e := fun e he b hb => ⟨_, (List.mem_singleton.1 hb) ▸ ⟨_, _, qb19⟩, he⟩
          have hge20 : W0.heap.size ≤ w_14.heap.size := by
            have u0 := hb13.size
            have u1 := hb14.size
            have u2 := hb18.size
            have u3 := hb19.size
            omega
          have hne20 : w_13.heap.size ≠ W0.heap.size := by
            have u0 := hb13.size
            have u1 := hb14.size
            have u2 := hb18.size
            have u3 := hb19.size
            have u10 := z14
            have u11 := z13
            omega
          have hlo20 : W0.heap.size ≤ w_13.heap.size ∧ W0.heap.size ≤ W0.heap.size := by
            have u0 := hb13.size
            have u1 := hb14.size
            have u2 := hb18.size
            have u3 := hb19.size
            omega
          refine hK _ _ (.of (Bsc (p := ⟨w_14.heap.size, 0, none⟩) x19 hge20 _)) ?_; clear hK K
          refine tr3_nil ?_
          rw [noP_normal]
          exact ⟨w_14.heap.size, w_18.heap.size, w_13.heap.size, W0.heap.size, rfl, ⟨Boxed.set _ qb19, hH19.kbT hk20 (hS20 _ (by decide)), Own.nil _, Own.nil _, RwO.nil _ _, qh19.kbT hk20 (hS20 _ (by decide)), qN19.kbT hk20 (hS20 _ (by decide)), hne20⟩, Bsc (p := ⟨w_14.heap.size, 0, none⟩) s19 (Nat.le_trans hs0.size hge20) _, s18.size, Nat.le_trans hW0.size hlo20.1, Nat.le_trans hW0.size hlo20.2⟩
      · go_simp
        have hb21 : Below w_13.heap.size w_13 (w_13.alloc (.cells #[.pointer none] 58)) := Bal (Below.refl _ _) _
        have hH21 := Boxed.new w_13 58 (.pointer none)
        refine hK _ _ (.of (Bst x13 hb21)) ?_; clear hK K
        generalize (w_13.alloc (.cells #[.pointer none] 58)) = w_21 at hb21 hH21 ⊢
        have qN21 := hH13.below hb21
        have s21 := Bst s13 hb21
        have x21 := Bst x13 hb21
        refine tr3_t rfl (fun K hK => ?_)
        rw [if_pos (wanted_free rfl _)]
        refine make_opO _ _ _ 63 rfl w4.heap.size 61 i1 (.slice none 0 0) 1 Tryd.underlying63 hi1 hy0 hy1 .i64 .i64 _ _ (T.length + 1) rfl rfl (by push_cast; rfl) (by push_cast; rfl) (by rw [hy2]; omega) (by simp only [maxLen]; omega) s21.size ?_
        intro w_22 HO22 hg22
        have hb22 : Below w_21.heap.size w_21 w_22 := Bgr (Below.refl _ _) hg22 (by simp)
        have hH22 := own_madeS _ _ _ _ HO22
        refine hK _ _ (.of (Bst x21 hb22)) ?_; clear hK K
        have qN22 := qN21.below hb22
        have qb22 := (hb22.block _ hH21.lt).trans hH21
        replace qb22 : Boxed w_22 w_13.heap.size 58 (.pointer none) := qb22
        have s22 := Bst s21 hb22
        have x22 := Bst x21 hb22
        have z22 : w_21.heap.size < w_22.heap.size := by
          rcases hH22.put with h | ⟨g, h, hl⟩
          · simp [Value.ownBlock] at h
          · simp only [Value.ownBlock] at h; injection h with h; omega
        repeat (refine tr3_q rfl (fun K hK => ?_); unfold takeQ; go_simp; refine hK _ ?_; clear hK K)
        refine tr3_t rfl (fun K hK => ?_)
        go_simp
        have hb23 : Below w_22.heap.size w_22 (w_22.alloc (.cells #[.slice A xs.length c, .slice none 0 0, .slice none 0 0, .slice A3 T.length c3, .slice A4 V.length c4, .slice (some ⟨w_21.heap.size, 0, none⟩) (T.length + 1) (T.length + 1), .slice (some ⟨W0.heap.size, 0, none⟩) (T.length + 1) (T.length + 1)] 65)) := Bal (Below.refl _ _) _
        have hH23 := Bx.new w_22 65 #[.slice A xs.length c, .slice none 0 0, .slice none 0 0, .slice A3 T.length c3, .slice A4 V.length c4, .slice (some ⟨w_21.heap.size, 0, none⟩) (T.length + 1) (T.length + 1), .slice (some ⟨W0.heap.size, 0, none⟩) (T.length + 1) (T.length + 1)]
        refine hK _ _ (.of (Bst x22 hb23)) ?_; clear hK K
        generalize (w_22.alloc (.cells #[.slice A xs.length c, .slice none 0 0, .slice none 0 0, .slice A3 T.length c3, .slice A4 V.length c4, .slice (some ⟨w_21.heap.size, 0, none⟩) (T.length + 1) (T.length + 1), .slice (some ⟨W0.heap.size, 0, none⟩) (T.length + 1) (T.length + 1)] 65)) = w_23 at hb23 hH23 ⊢
        have qh23 := hH22.below hb23
        have qN23 := qN22.below hb23
        have qb23 := (hb23.block _ qb22.lt).trans qb22
        replace qb23 : Boxed w_23 w_13.heap.size 58 (.pointer none) := qb23
        have s23 := Bst s22 hb23
        have x23 := Bst x22 hb23
        have hcb := qb23.cell
        have hfb := qb23.frozen
        have hbl := qb23.lt
        refine tr3_t rfl (fun K hK => ?_)
        go_simp
        have hk24 : Kb w_23 (w_23.setCell ⟨w_13.heap.size, 0, none⟩ (.pointer (some ⟨w_22.heap.size, 0, none⟩))) [w_13.heap.size] := Kb.grown (grownBy_cell w_23 w_13.heap.size 0 _)
        have hS24 : ∀ e, 58 ≠ e → ∀ b ∈ [w_13.heap.size], ∃ e', Ty w_23 b e' ∧ e' ≠ e := fun e he b hb => ⟨_, (List.mem_singleton.1 hb) ▸ ⟨_, _, qb23⟩, he⟩
        have hge24 : W0.heap.size ≤ w_13.heap.size := by
          have u0 := hb13.size
          have u1 := hb21.size
          have u2 := hb22.size
          have u3 := hb23.size
          omega
        have hne24 : w_21.heap.size ≠ W0.heap.size := by
          have u0 := hb13.size
          have u1 := hb21.size
          have u2 := hb22.size
          have u3 := hb23.size
          have u10 := z22
          have u11 := z13
          omega
        have hlo24 : W0.heap.size ≤ w_21.heap.size ∧ W0.heap.size ≤ W0.heap.size := by
          have u0 := hb13.size
          have u1 := hb21.size
          have u2 := hb22.size
          have u3 := hb23.size
          omega
        refine hK _ _ (.of (Bsc (p := ⟨w_13.heap.size, 0, none⟩) x23 hge24 _)) ?_; clear hK K
        refine tr3_nil ?_
        rw [noP_normal]
        exact ⟨w_13.heap.size, w_22.heap.size, w_21.heap.size, W0.heap.size, rfl, ⟨Boxed.set _ qb23, hH23.kbT hk24 (hS24 _ (by decide)), Own.nil _, Own.nil _, RwO.nil _ _, qh23.kbT hk24 (hS24 _ (by decide)), qN23.kbT hk24 (hS24 _ (by decide)), hne24⟩, Bsc (p := ⟨w_13.heap.size, 0, none⟩) s23 (Nat.le_trans hs0.size hge24) _, s22.size, Nat.le_trans hW0.size hlo24.1, Nat.le_trans hW0.size hlo24.2⟩
    · go_simp
      have hb25 : Below W0.heap.size W0 (W0.alloc (.cells #[.pointer none] 58)) := Bal (Below.refl _ _) _
      have hH25 := Boxed.new W0 58 (.pointer none)
      refine hK _ _ (.of (Bst (Below.refl _ _) hb25)) ?_; clear hK K
      generalize (W0.alloc (.cells #[.pointer none] 58)) = w_25 at hb25 hH25 ⊢
      have s25 := Bst hs0 hb25
      have x25 := Bst (Below.refl _ _) hb25
      refine tr3_two rfl rfl (fun K hK => ?_) (fun K hK => ?_)
      · rw [if_pos (wanted_free rfl _)]
        refine make_opO _ _ _ 63 rfl w4.heap.size 61 i1 (.slice none 0 0) 1 Tryd.underlying63 hi1 hy0 hy1 .i64 .i64 _ _ (T.length + 1) rfl rfl (by push_cast; rfl) (by push_cast; rfl) (by rw [hy2]; omega) (by simp only [maxLen]; omega) s25.size ?_
        intro w_26 HO26 hg26
        have hb26 : Below w_25.heap.size w_25 w_26 := Bgr (Below.refl _ _) hg26 (by simp)
        have hH26 := own_madeS _ _ _ _ HO26
        refine hK _ _ (.of (Bst x25 hb26)) ?_; clear hK K
        have qb26 := (hb26.block _ hH25.lt).trans hH25
        replace qb26 : Boxed w_26 W0.heap.size 58 (.pointer none) := qb26
        have s26 := Bst s25 hb26
        have x26 := Bst x25 hb26
        have z26 : w_25.heap.size < w_26.heap.size := by
          rcases hH26.put with h | ⟨g, h, hl⟩
          · simp [Value.ownBlock] at h
          · simp only [Value.ownBlock] at h; injection h with h; omega
        refine tr3_t rfl (fun K hK => ?_)
        rw [if_pos (wanted_free rfl _)]
        refine make_opO _ _ _ 63 rfl w4.heap.size 61 i1 (.slice none 0 0) 1 Tryd.underlying63 hi1 hy0 hy1 .i64 .i64 _ _ (T.length + 1) rfl rfl (by push_cast; rfl) (by push_cast; rfl) (by rw [hy2]; omega) (by simp only [maxLen]; omega) s26.size ?_
        intro w_27 HO27 hg27
        have hb27 : Below w_26.heap.size w_26 w_27 := Bgr (Below.refl _ _) hg27 (by simp)
        have hH27 := own_madeS _ _ _ _ HO27
        refine hK _ _ (.of (Bst x26 hb27)) ?_; clear hK K
        have qh27 := hH26.below hb27
        have qb27 := (hb27.block _ qb26.lt).trans qb26
        replace qb27 : Boxed w_27 W0.heap.size 58 (.pointer none) := qb27
        have s27 := Bst s26 hb27
        have x27 := Bst x26 hb27
        have z27 : w_26.heap.size < w_27.heap.size := by
          rcases hH27.put with h | ⟨g, h, hl⟩
          · simp [Value.ownBlock] at h
          · simp only [Value.ownBlock] at h; injection h with h; omega
        repeat (refine tr3_q rfl (fun K hK => ?_); unfold takeQ; go_simp; refine hK _ ?_; clear hK K)
        refine tr3_t rfl (fun K hK => ?_)
        go_simp
        have hb28 : Below w_27.heap.size w_27 (w_27.alloc (.cells #[.slice A xs.length c, .slice none 0 0, .slice none 0 0, .slice A3 T.length c3, .slice A4 V.length c4, .slice (some ⟨w_25.heap.size, 0, none⟩) (T.length + 1) (T.length + 1), .slice (some ⟨w_26.heap.size, 0, none⟩) (T.length + 1) (T.length + 1)] 65)) := Bal (Below.refl _ _) _
        have hH28 := Bx.new w_27 65 #[.slice A xs.length c, .slice none 0 0, .slice none 0 0, .slice A3 T.length c3, .slice A4 V.length c4, .slice (some ⟨w_25.heap.size, 0, none⟩) (T.length + 1) (T.length + 1), .slice (some ⟨w_26.heap.size, 0, none⟩) (T.length + 1) (T.length + 1)]
        refine hK _ _ (.of (Bst x27 hb28)) ?_; clear hK K
        generalize (w_27.alloc (.cells #[.slice A xs.length c, .slice none 0 0, .slice none 0 0, .slice A3 T.length c3, .slice A4 V.length c4, .slice (some ⟨w_25.heap.size, 0, none⟩) (T.length + 1) (T.length + 1), .slice (some ⟨w_26.heap.size, 0, none⟩) (T.length + 1) (T.length + 1)] 65)) = w_28 at hb28 hH28 ⊢
        have qh28 := qh27.below hb28
        have qN28 := hH27.below hb28
        have qb28 := (hb28.block _ qb27.lt).trans qb27
        replace qb28 : Boxed w_28 W0.heap.size 58 (.pointer none) := qb28
        have s28 := Bst s27 hb28
        have x28 := Bst x27 hb28
        have hcb := qb28.cell
        have hfb := qb28.frozen
        have hbl := qb28.lt
        refine tr3_t rfl (fun K hK => ?_)
        go_simp
        have hk29 : Kb w_28 (w_28.setCell ⟨W0.heap.size, 0, none⟩ (.pointer (some ⟨w_27.heap.size, 0, none⟩))) [W0.heap.size] := Kb.grown (grownBy_cell w_28 W0.heap.size 0 _)
        have hS29 : ∀ e, 58 ≠ e → ∀ b ∈ [W0.heap.size], ∃ e', Ty w_28 b e' ∧ e' ≠ e := fun e he b hb => ⟨_, (List.mem_singleton.1 hb) ▸ ⟨_, _, qb28⟩, he⟩
        have hge29 : W0.heap.size ≤ W0.heap.size := by
          have u0 := hb25.size
          have u1 := hb26.size
          have u2 := hb27.size
          have u3 := hb28.size
          omega
        have hne29 : w_25.heap.size ≠ w_26.heap.size := by
          have u0 := hb25.size
          have u1 := hb26.size
          have u2 := hb27.size
          have u3 := hb28.size
          have u10 := z26
          have u11 := z27
          omega
        have hlo29 : W0.heap.size ≤ w_25.heap.size ∧ W0.heap.size ≤ w_26.heap.size := by
          have u0 := hb25.size
          have u1 := hb26.size
          have u2 := hb27.size
          have u3 := hb28.size
          omega
        refine hK _ _ (.of (Bsc (p := ⟨W0.heap.size, 0, none⟩) x28 hge29 _)) ?_; clear hK K
        refine tr3_nil ?_
        rw [noP_normal]
        exact ⟨W0.heap.size, w_27.heap.size, w_25.heap.size, w_26.heap.size, rfl, ⟨Boxed.set _ qb28, hH28.kbT hk29 (hS29 _ (by decide)), Own.nil _, Own.nil _, RwO.nil _ _, qh28.kbT hk29 (hS29 _ (by decide)), qN28.kbT hk29 (hS29 _ (by decide)), hne29⟩, Bsc (p := ⟨W0.heap.size, 0, none⟩) s28 (Nat.le_trans hs0.size hge29) _, s27.size, Nat.le_trans hW0.size hlo29.1, Nat.le_trans hW0.size hlo29.2⟩
      · rw [if_pos (wanted_free rfl _)]
        refine make_opO _ _ _ 63 rfl w4.heap.size 61 i1 (.slice none 0 0) 1 Tryd.underlying63 hi1 hy0 hy1 .i64 .i64 _ _ (T.length + 1) rfl rfl (by push_cast; rfl) (by push_cast; rfl) (by rw [hy2]; omega) (by simp only [maxLen]; omega) s25.size ?_
        intro w_30 HO30 hg30
        have hb30 : Below w_25.heap.size w_25 w_30 := Bgr (Below.refl _ _) hg30 (by simp)
        have hH30 := own_madeS _ _ _ _ HO30
        refine hK _ _ (.of (Bst x25 hb30)) ?_; clear hK K
        have qb30 := (hb30.block _ hH25.lt).trans hH25
        replace qb30 : Boxed w_30 W0.heap.size 58 (.pointer none) := qb30
        have s30 := Bst s25 hb30
        have x30 := Bst x25 hb30
        have z30 : w_25.heap.size < w_30.heap.size := by
          rcases hH30.put with h | ⟨g, h, hl⟩
          · simp [Value.ownBlock] at h
          · simp only [Value.ownBlock] at h; injection h with h; omega
        refine tr3_t rfl (fun K hK => ?_)
        rw [if_pos (wanted_free rfl _)]
        refine make_opO _ _ _ 63 rfl w4.heap.size 61 i1 (.slice none 0 0) 1 Tryd.underlying63 hi1 hy0 hy1 .i64 .i64 _ _ (T.length + 1) rfl rfl (by push_cast; rfl) (by push_cast; rfl) (by rw [hy2]; omega) (by simp only [maxLen]; omega) s30.size ?_
        intro w_31 HO31 hg31
        have hb31 : Below w_30.heap.size w_30 w_31 := Bgr (Below.refl _ _) hg31 (by simp)
        have hH31 := own_madeS _ _ _ _ HO31
        refine hK _ _ (.of (Bst x30 hb31)) ?_; clear hK K
        have qN31 := hH30.below hb31
        have qb31 := (hb31.block _ qb30.lt).trans qb30
        replace qb31 : Boxed w_31 W0.heap.size 58 (.pointer none) := qb31
        have s31 := Bst s30 hb31
        have x31 := Bst x30 hb31
        have z31 : w_30.heap.size < w_31.heap.size := by
          rcases hH31.put with h | ⟨g, h, hl⟩
          · simp [Value.ownBlock] at h
          · simp only [Value.ownBlock] at h; injection h with h; omega
        repeat (refine tr3_q rfl (fun K hK => ?_); unfold takeQ; go_simp; refine hK _ ?_; clear hK K)
        refine tr3_t rfl (fun K hK => ?_)
        go_simp
        have hb32 : Below w_31.heap.size w_31 (w_31.alloc (.cells #[.slice A xs.length c, .slice none 0 0, .slice none 0 0, .slice A3 T.length c3, .slice A4 V.length c4, .slice (some ⟨w_30.heap.size, 0, none⟩) (T.length + 1) (T.length + 1), .slice (some ⟨w_25.heap.size, 0, none⟩) (T.length + 1) (T.length + 1)] 65)) := Bal (Below.refl _ _) _
        have hH32 := Bx.new w_31 65 #[.slice A xs.length c, .slice none 0 0, .slice none 0 0, .slice A3 T.length c3, .slice A4 V.length c4, .slice (some ⟨w_30.heap.size, 0, none⟩) (T.length + 1) (T.length + 1), .slice (some ⟨w_25.heap.size, 0, none⟩) (T.length + 1) (T.length + 1)]
        refine hK _ _ (.of (Bst x31 hb32)) ?_; clear hK K
        generalize (w_31.alloc (.cells #[.slice A xs.length c, .slice none 0 0, .slice none 0 0, .slice A3 T.length c3, .slice A4 V.length c4, .slice (some ⟨w_30.heap.size, 0, none⟩) (T.length + 1) (T.length + 1), .slice (some ⟨w_25.heap.size, 0, none⟩) (T.length + 1) (T.length + 1)] 65)) = w_32 at hb32 hH32 ⊢
        have qh32 := hH31.below hb32
        have qN32 := qN31.below hb32
        have qb32 := (hb32.block _ qb31.lt).trans qb31
        replace qb32 : Boxed w_32 W0.heap.size 58 (.pointer none) := qb32
        have s32 := Bst s31 hb32
        have x32 := Bst x31 hb32
        have hcb := qb32.cell
        have hfb := qb32.frozen
        have hbl := qb32.lt
        refine tr3_t rfl (fun K hK => ?_)
        go_simp
        have hk33 : Kb w_32 (w_32.setCell ⟨W0.heap.size, 0, none⟩ (.pointer (some ⟨w_31.heap.size, 0, none⟩))) [W0.heap.size] := Kb.grown (grownBy_cell w_32 W0.heap.size 0 _)
        have hS33 : ∀ e, 58 ≠ e → ∀ b ∈ [W0.heap.size], ∃ e', Ty w_32 b e' ∧ e' ≠ e := fun e he b hb => ⟨_, (List.mem_singleton.1 hb) ▸ ⟨_, _, qb32⟩, he⟩
        have hge33 : W0.heap.size ≤ W0.heap.size := by
          have u0 := hb25.size
          have u1 := hb30.size
          have u2 := hb31.size
          have u3 := hb32.size
          omega
        have hne33 : w_30.heap.size ≠ w_25.heap.size := by
          have u0 := hb25.size
          have u1 := hb30.size
          have u2 := hb31.size
          have u3 := hb32.size
          have u10 := z31
          have u11 := z30
          omega
        have hlo33 : W0.heap.size ≤ w_30.heap.size ∧ W0.heap.size ≤ w_25.heap.size := by
          have u0 := hb25.size
          have u1 := hb30.size
          have u2 := hb31.size
          have u3 := hb32.size
          omega
        refine hK _ _ (.of (Bsc (p := ⟨W0.heap.size, 0, none⟩) x32 hge33 _)) ?_; clear hK K
        refine tr3_nil ?_
        rw [noP_normal]
        exact ⟨W0.heap.size, w_31.heap.size, w_30.heap.size, w_25.heap.size, rfl, ⟨Boxed.set _ qb32, hH32.kbT hk33 (hS33 _ (by decide)), Own.nil _, Own.nil _, RwO.nil _ _, qh32.kbT hk33 (hS33 _ (by decide)), qN32.kbT hk33 (hS33 _ (by decide)), hne33⟩, Bsc (p := ⟨W0.heap.size, 0, none⟩) s32 (Nat.le_trans hs0.size hge33) _, s31.size, Nat.le_trans hW0.size hlo33.1, Nat.le_trans hW0.size hlo33.2⟩
  rintro _ w5 ⟨gb, G, hb, N, rfl, hL5, hb5, hGw0, hhb0, hN0⟩
  have HGw := Lib.hid hGw0
  have HHb := Lib.hid hhb0
  have HN := Lib.hid hN0
  clear hGw0 hhb0 hN0
  gi_wp2
  refine wpIn_wide.2 ?_
  go_loopw [60] (fun s60 wr => ∃ (k : Nat) (v1 v2 : Value) (ss : List Sl), s60 = .int .i64 k ∧ k ≤ xs.length ∧ Lg w4.heap.size wr gb G hb N (T.length + 1) (.slice A xs.length c) v1 v2 (.slice A3 T.length c3) (.slice A4 V.length c4) v1 v2 ss ((tosL xs).take k) ((sizL xs).take k) ∧ Below w4.heap.size w4 wr) (fun s60 _ => xs.length - (intOf s60).toNat)
  case atStart => exact ⟨0, _, _, [], rfl, by omega, hL5, hb5⟩
  case round =>
    obtain ⟨k, v1, v2, ss, rfl, hk, hL, hbr⟩ := hrel
    rename World => wo
    by_cases hlt : k < xs.length
    · skip
      have hlt' : (k : Int) < xs.length := by omega
      obtain ⟨ba, oa, rfl, _, p1, p2, p3⟩ := hs.n3 (fun _ => rfl) (Bst hb04 hbr) k hlt
      obtain ⟨z1, z2⟩ := hm.at k hlt
      obtain ⟨df, dt⟩ := dec_at HI.out hlt
      obtain ⟨x, hx⟩ : ∃ x, xs[k] = x := ⟨_, rfl⟩
      rw [hx] at p1 p2 p3 z1 z2 df dt
      have hl3 := ru_t_len HI.out hlt
      have HF := Lib.hid (take_size (sizL_at hlt))
      have HO := Lib.hid (take_at (tosL_at hlt))
      obtain ⟨lf, hlf⟩ : ∃ l, (ruAt (rus xs) k).f = l := ⟨_, rfl⟩
      obtain ⟨lt, hlt2⟩ : ∃ l, (ruAt (rus xs) k).t = l := ⟨_, rfl⟩
      rw [hlf] at df HF hl3
      rw [hlt2] at dt HO hl3
      have hok : okS x.f = 0 := by unfold okS; rw [df]; rfl
      have hln : lenS x.f = lf.length := by unfold lenS; rw [df]; rfl
      have CT := Lib.hid (fun W => cnt_c x.f W (by omega) hok)
      rw [hln] at CT
      have DTX := Lib.hid dt
      clear df dt hlf hlt2 hx hok hln
      have kB : B3 (wo.alloc (.cells #[.string x.f, .string x.t, .int .i64 x.n] 49)) wo.heap.size x := B3.new wo x 49
      go_wp2_with fail
      refine (dec_own x.t _ (hU.to (Bst (Bst hb04 hbr) Bel)) (by omega)).mono ?_
      rintro e w6 ⟨hb6, h6⟩
      rw [DTX.out] at h6
      obtain ⟨v6, rfl, hO6⟩ := h6
      have hzo := hbr.size
      have hw6 : Below wo.heap.size wo w6 := Bst Bel hb6
      have hL6 := hL.below hw6
      have hb06 : Below w4.heap.size w4 w6 := Bst hbr hw6
      obtain ⟨A6, c6, rfl, m6, n6, _⟩ := hO6.slv
      have hO6' : Own (eInt .i32) w4.heap.size 21 w6 (vSl ⟨A6, lt.length, c6⟩) lt := hO6.lower (by simp; omega)
      have hsl1 : ss.length = k := by rw [hL.r1.1]; simp [tosL]; omega
      have hsl2 : ((sizL xs).take k).length = k := by simp [sizL]; omega
      have HS1 := Lib.hid hsl1
      have HS2 := Lib.hid hsl2
      have hs1b : ss.length ≤ 4096 := by omega
      have hs2b : ((sizL xs).take k).length ≤ 4096 := by omega
      obtain ⟨sz, hszq⟩ : ∃ l, (sizL xs).take k = l := ⟨_, rfl⟩
      rw [hszq] at hL6 HF HS2 hs2b
      have kB6 := kB.below hb6
      obtain ⟨_, x0, x1, x2⟩ := kB6
      have hLo := hL
      clear hO6 hsl1 hsl2 hL kB p1 p2 p3 hszq
      go_wp2_with fail
      obtain ⟨S, hS⟩ : ∃ S, v1.ownBlock.toList ++ v2.ownBlock.toList = S := ⟨_, rfl⟩
      have hS1 : ∀ b, v1.ownBlock = some b → b ∈ S := fun b hb => by rw [← hS, hb]; simp
      have hS2 : ∀ b, v2.ownBlock = some b → b ∈ S := fun b hb => by rw [← hS, hb]; simp
      have hSb : Hid (∀ b ∈ S, v1.ownBlock = some b ∨ v2.ownBlock = some b) := fun b hb => by rw [← hS] at hb; simpa using hb
      have HS1' := Lib.hid hS1
      have HS2' := Lib.hid hS2
      clear hS hS1 hS2
      refine region_treeX S [G] 20 (.p 1 (.p 0 (.p 2 (.p 3 (.p 4 (.q 5 (.p 6 (.p 9 (.p 10 (.p 11 (.q 12 (.p 13 (.p 14 (.t 7 (.t 8 (.t 15 (.t 16 (.t 17 (.p 18 (.p 19 (.t 20 (.p 21 (.p 22 (.t 23 .nil)))))))))))))))))))))))) (by kernel_rfl) (by kernel_rfl) ?_
      intro W hW
      have hLW := hL6.below hW
      have qW := hO6'.below hW
      have hbW := Bst hb06 hW
      have y0 := bkc hW x0
      have hTy : ∀ b ∈ S, Ty W b 50 ∨ Ty W b 3 := fun b hb => by
        rcases hSb.out b hb with h | h
        · exact .inl (hLW.o1.ty h)
        · exact .inr (hLW.o2.ty h)
      have hGS : G ∉ S := fun h => by
        rcases hTy G h with h | h
        · exact h.ne (by decide) _ _ hLW.bx
        · exact h.ne (by decide) _ _ hLW.bx
      have hgS : gb ∉ S := fun h => by
        rcases hTy gb h with h | h
        · exact h.ne (by decide) _ _ hLW.bg
        · exact h.ne (by decide) _ _ hLW.bg
      have hgG : gb ≠ G := fun h => by
        have h1 := hLW.bx.ty
        rw [← h] at h1
        exact h1.ne (by decide) _ _ hLW.bg
      have hxo : wo.heap.size ∉ S := fun h => by
        have h1 : wo.heap.size < wo.heap.size := by
          rcases hSb.out _ h with h | h
          · exact (World.ownsRow.lt hLo.o1 _ h).2
          · exact (World.ownsRow.lt hLo.o2 _ h).2
        omega
      have hxG : wo.heap.size ≠ G := fun h => by
        have h1 := hLo.bx.lt
        omega
      have e0 : ∀ Y : LaterS W (S ++ [G]), (World.extS W (S ++ [G]) Y).cell? ⟨gb, 0, none⟩ = some (.pointer (some ⟨G, 0, none⟩)) := fun Y => Y.h.cell hLW.bg.cell (by simp; exact ⟨hgS, hgG⟩)
      have e1 : ∀ Y : LaterS W S, (World.extS W S Y).cell? ⟨G, 1, none⟩ = some v1 := fun Y => Y.h.cell (hLW.bx.cell 1) hGS
      have e2 : ∀ Y : LaterS W S, (World.extS W S Y).cell? ⟨G, 2, none⟩ = some v2 := fun Y => Y.h.cell (hLW.bx.cell 2) hGS
      have e3 : ∀ Y : LaterS W (S ++ [G]), (World.extS W (S ++ [G]) Y).cell? ⟨wo.heap.size, 0, none⟩ = some (.string x.f) := fun Y => Y.h.cell y0 (by simp; exact ⟨hxo, hxG⟩)
      repeat (first | (refine trX_p rfl (fun K hK => ?_); unfold takeS; go_simp; refine hK _ ?_; clear hK K) | (refine trX_q rfl (fun K hK => ?_); unfold takeS; go_simp; refine hK _ ?_; clear hK K))
      have ha1 : Below W.heap.size W (W.alloc (.cells #[.slice A6 lt.length c6] 50)) := Bal (Below.refl _ _) _
      have hs1 : SlA eSl (W.alloc (.cells #[.slice A6 lt.length c6] 50)) (some ⟨W.heap.size, 0, none⟩) [⟨A6, lt.length, c6⟩] := SlA.new eSl _ [⟨A6, lt.length, c6⟩] _ _ rfl _ rfl
      refine trX_t false rfl rfl (fun K hK => ?_); go_simp
      have hk1 : Kb W (W.alloc (.cells #[.slice A6 lt.length c6] 50)) S := Kb.weak (Kb.below ha1) (by simp)
      refine hK _ _ (.of hk1) ?_; clear hK K
      generalize (W.alloc (.cells #[.slice A6 lt.length c6] 50)) = wa1 at ha1 hs1 hk1 ⊢
      have hL1 := hLW.below ha1
      have q1 := qW.below ha1
      have hb_1 := Bst hbW ha1
      refine trX_t false rfl rfl (fun K hK => ?_)
      rw [if_pos (wanted_free rfl _)]
      refine app_op (E := eSl) (w0 := w4) _ _ 62 50 (.slice none 0 0) 24 rfl rfl Tryd.underlying62 info_is32 rfl (by decide) (by decide) _ ss [⟨A6, lt.length, c6⟩] _ _ _ rfl rfl rfl hL1.o1 hs1 hb_1 (by simp; omega) ?_
      intro v_2 w_2 HO2 hb_2 hg2 hm2
      obtain ⟨Az2, cz2, ez2, _, _, _⟩ := HO2.slv
      rw [List.length_append] at ez2
      simp only [List.length_cons, List.length_nil, Nat.zero_add] at ez2
      subst ez2
      have hL2 := hL1.app1 HO2 hg2 rfl q1
      have hk2 : Kb W w_2 S := hk1.trans' (Kb.row hg2 HS1'.out)
      refine hK _ _ (.of hk2) ?_; clear hK K
      refine trX_t false rfl rfl (fun K hK => ?_); go_simp
      refine (CT.out _).mono ?_
      rintro e w_3 ⟨rfl, hb3⟩
      go_simp
      have hk3 : Kb W w_3 S := hk2.trans' (Kb.weak (Kb.below hb3) (by simp))
      refine hK _ _ (.of hk3) ?_; clear hK K
      have hL3 := hL2.below hb3
      have hb_3 := Bst hb_2 hb3
      have ha4 : Below w_3.heap.size w_3 (w_3.alloc (.cells #[.int .i64 lf.length] 3)) := Bal (Below.refl _ _) _
      have hs4 : SlA (eInt .i64) (w_3.alloc (.cells #[.int .i64 lf.length] 3)) (some ⟨w_3.heap.size, 0, none⟩) [(lf.length : Int)] := SlA.new (eInt .i64) _ [(lf.length : Int)] _ _ rfl _ rfl
      refine trX_t false rfl rfl (fun K hK => ?_); go_simp
      have hk4 : Kb W (w_3.alloc (.cells #[.int .i64 lf.length] 3)) S := hk3.trans' (Kb.weak (Kb.below ha4) (by simp))
      refine hK _ _ (.of hk4) ?_; clear hK K
      generalize (w_3.alloc (.cells #[.int .i64 lf.length] 3)) = wa4 at ha4 hs4 hk4 ⊢
      have hL4 := hL3.below ha4
      have hb_4 := Bst hb_3 ha4
      refine trX_t false rfl rfl (fun K hK => ?_)
      rw [if_pos (wanted_free rfl _)]
      refine app_op (E := eInt .i64) (w0 := w4) _ _ 61 3 (.int .i64 0) 8 rfl rfl Tryd.underlying61 info_intp rfl (by decide) (by decide) _ sz [(lf.length : Int)] _ _ _ rfl rfl rfl hL4.o2 hs4 hb_4 (by simp; omega) ?_
      intro v_5 w_5 HO5 hb_5 hg5 hm5
      obtain ⟨Az5, cz5, ez5, _, _, _⟩ := HO5.slv
      rw [List.length_append] at ez5
      simp only [List.length_cons, List.length_nil, Nat.zero_add] at ez5
      subst ez5
      have hL5' := hL4.app2 HO5 hg5
      have hk5 : Kb W w_5 S := hk4.trans' (Kb.row hg5 HS2'.out)
      refine hK _ _ (.of hk5) ?_; clear hK K
      have d1 := hL5'.bx.cell 1
      have f1 := hL5'.bx.frozen 1
      have hbxl := hL5'.bx.lt
      simp at d1
      repeat (refine trX_p rfl (fun K hK => ?_); unfold takeS; go_simp; refine hK _ ?_; clear hK K)
      refine trX_t true rfl rfl (fun K hK => ?_); go_simp
      have hLx := hL5'.setX 1 (.slice Az2 (ss.length + 1) cz2) (.slice Az2 (ss.length + 1) cz2) v2 rfl
      have hk6 : Kb W (w_5.setCell ⟨G, 1, none⟩ (.slice Az2 (ss.length + 1) cz2)) (S ++ [G]) := hk5.trans (Kb.grown (grownBy_cell w_5 G 1 _))
      refine hK _ _ (.of hk6) ?_; clear hK K
      have hb_6 : Below w4.heap.size w4 (w_5.setCell ⟨G, 1, none⟩ (.slice Az2 (ss.length + 1) cz2)) := Bsc (p := ⟨G, 1, none⟩) hb_5 HGw.out _
      generalize w_5.setCell ⟨G, 1, none⟩ (.slice Az2 (ss.length + 1) cz2) = w_6 at hLx hk6 hb_6 ⊢
      repeat (refine trX_p rfl (fun K hK => ?_); unfold takeS; go_simp; refine hK _ ?_; clear hK K)
      have d2 := hLx.bx.cell 2
      have f2 := hLx.bx.frozen 2
      have hbxl2 := hLx.bx.lt
      simp at d2
      refine trX_t true rfl rfl (fun K hK => ?_); go_simp
      have hLy := hLx.setX 2 (.slice Az5 (sz.length + 1) cz5) (.slice Az2 (ss.length + 1) cz2) (.slice Az5 (sz.length + 1) cz5) rfl
      have hk7 : Kb W (w_6.setCell ⟨G, 2, none⟩ (.slice Az5 (sz.length + 1) cz5)) (S ++ [G]) := hk6.trans' ((Kb.grown (grownBy_cell w_6 G 2 _)).weak (by simp))
      refine hK _ _ (.of hk7) ?_; clear hK K
      have hb_7 : Below w4.heap.size w4 (w_6.setCell ⟨G, 2, none⟩ (.slice Az5 (sz.length + 1) cz5)) := Bsc (p := ⟨G, 2, none⟩) hb_6 HGw.out _
      refine trX_nil ?_
      rw [noP_normal]
      go_wp2
      refine ⟨⟨k + 1, .slice Az2 (ss.length + 1) cz2, .slice Az5 (sz.length + 1) cz5, ss ++ [⟨A6, lt.length, c6⟩], by go_num, by omega, ?_, hb_7⟩, by simp [intOf]; omega⟩
      rw [HF.out, HO.out]
      exact hLy
    · obtain rfl : k = xs.length := by omega
      have hlt' : ¬ (xs.length : Int) < xs.length := by omega
      rw [List.take_of_length_le (by simp [tosL])] at hL
      rw [List.take_of_length_le (by simp [sizL])] at hL
      go_wp2
      gi_wp2_with fail
      refine ⟨trivial, ?_⟩
      refine (callsIn_wide.2 (new8_c A c xs _ (hU.to (Bst hb04 hbr)) (hs.below (Bst hb04 hbr)) hm)).mono ?_
      rintro e w8 ⟨hb8, h8, _⟩
      obtain ⟨M, rfl, hM⟩ := h8 HI.out
      clear h8
      have hb48 := Bst hbr hb8
      have hb08 := Bst hb04 hb48
      gi_wp2_with fail
      refine ⟨trivial, ?_⟩
      refine (callsIn_wide.2 (mhits_c t M (froms xs) w8 (hU.to hb08) hM hz)).mono ?_
      rintro e w9 ⟨hb9, h9, _⟩
      obtain ⟨v9, l9, hl9, rfl, hO9⟩ := h9 (tok_tk K2.out)
      obtain rfl : T = l9 := by rw [DT.out] at hl9; injection hl9
      have hty9 := fun g hg => hO9.ty (g := g) hg
      obtain ⟨A9, c9, rfl, _, _, hA9⟩ := hO9.slv
      clear h9 hl9 hO9 hM
      have hb09 : Below w.heap.size w w9 := Bst hb08 hb9
      have hL9 := (hL.below hb8).below hb9
      have hb49 : Below w4.heap.size w4 w9 := Bst hb48 hb9
      have hQ9 := hL9.grid hs hb09 hb04.size hA3 hA4 hb49 m3 n3 m4 n4 HHb.out HN.out HGw.out (Nat.le_refl _) HG3.out HG4.out
      have hB9 : SlB (fun b => b < w9.heap.size ∧ b ≠ hb) eH w9 A9 (hitsL (froms xs) T) := ⟨hA9, fun b o hA _ => by
        have ht := hty9 b (by rw [hA]; rfl)
        refine ⟨?_, fun e => ?_⟩
        · obtain ⟨c1, m1, h1⟩ := ht
          exact (Array.getElem?_eq_some_iff.1 h1).1
        · have h1 := hL9.oh.ty (g := hb) rfl
          rw [← e] at h1
          obtain ⟨c1, m1, h2⟩ := ht
          exact h1.ne (by decide) _ _ h2⟩
      have hHl : (hitsL (froms xs) T).length ≤ 65 * 4096 := by
        have h1 := hitsTo_len (froms xs) T (T.length + 1)
        have h2 : (froms xs).length = xs.length := by simp [froms]
        rw [hitsTo_all, h2] at h1
        exact Nat.le_trans h1 (Nat.mul_le_mul (by omega) hxl)
      have hHa : ∀ h ∈ hitsL (froms xs) T, h.1 ≤ T.length ∧ h.2 < 4096 := fun h hh => by
        have h1 := hitsL_at hh
        have h2 : (froms xs).length = xs.length := by simp [froms]
        omega
      have HALL := Lib.hid (hitRows_all xs T)
      obtain ⟨HS, hHS⟩ : ∃ l, hitsL (froms xs) T = l := ⟨_, rfl⟩
      rw [hHS] at hHl hHa hB9 HALL ⊢
      have HHA := Lib.hid hHa
      have hR9 : HRows w4.heap.size w9.heap.size w9 hb (List.replicate (T.length + 1) ⟨none, 0, 0⟩) (hitRows (HS.take 0) (T.length + 1)) := by
        rw [List.take_zero, hitRows_nil]
        exact HRows.nil hL9.oh (by obtain ⟨c1, h1⟩ := hL9.oh.cells (g := hb) rfl; exact (Array.getElem?_eq_some_iff.1 h1).1)
      have hC9 := hL9.oc
      have hbN : hb ≠ N := hL9.ne
      have hGb9 : Boxed w9 gb 58 (.pointer (some ⟨G, 0, none⟩)) := hL9.bg
      have hgbh : gb ≠ hb := fun e => by
        have h1 := hL9.oh.ty (g := hb) rfl
        rw [← e] at h1
        exact h1.ne (by decide) _ _ hGb9
      have hgbl := hGb9.lt
      have hGwl := HGw.out
      obtain ⟨M1, hM1⟩ : ∃ n, w9.heap.size = n := ⟨_, rfl⟩
      rw [hM1] at hR9 hQ9 hgbl hB9
      have HM1 := Lib.hid hM1
      have hNt := hC9.ty (g := N) rfl
      have hGM := hQ9.g
      clear hL hL9 hHS hHa hM1 hb8 hb9 hb48 hb08 hA9 hty9
      gi_wp2
      refine wpIn_wide.2 ?_
      go_loopw [109] (fun s109 wr => ∃ (p : Nat) (ss : List Sl), s109 = .int .i64 p ∧ p ≤ HS.length ∧ HRows w4.heap.size M1 wr hb ss (hitRows (HS.take p) (T.length + 1)) ∧ KwB (fun b => b < M1 ∧ b ≠ hb) w9 wr ∧ Below w4.heap.size w4 wr) (fun s109 _ => HS.length - (intOf s109).toNat)
      case atStart => exact ⟨0, _, rfl, by omega, hR9, KwB.refl _ _, hb49⟩
      case round =>
        obtain ⟨p, ss, rfl, hp, hR, hKw, hbp⟩ := hrel
        rename World => wo
        by_cases hpl : p < HS.length
        · skip
          have hpl' : (p : Int) < HS.length := by omega
          obtain ⟨⟨h1, h2⟩, hh⟩ : ∃ h, HS[p] = h := ⟨_, rfl⟩
          have hin := HHA.out (h1, h2) (hh ▸ List.getElem_mem hpl)
          simp only at hin
          have HTK : Hid (HS.take (p + 1) = HS.take p ++ [(h1, h2)]) := by show _ = _; rw [List.take_succ_eq_append_getElem hpl, hh]
          obtain ⟨b9, o9, rfl, q1, q2⟩ := (hB9.kw hKw).1.at2 (fun _ => rfl) (Below.refl _ _) p hpl
          rw [hh] at q1 q2
          have hk1 : h1 < (hitRows (HS.take p) (T.length + 1)).length := by rw [hitRows_len]; omega
          obtain ⟨⟨sA, sn, sc⟩, hss, hsn, hsO, hhl, hsc, hsf⟩ := hR.cell hk1
          rw [hitRows_at hk1] at hsn hsO
          have hal : (hitAt (HS.take p) h1).length ≤ 65 * 4096 := by
            unfold hitAt
            rw [List.length_map]
            have := List.length_filter_le (fun h : Nat × Nat => decide (h.1 = h1)) (HS.take p)
            rw [List.length_take] at this
            omega
          obtain ⟨l, hl⟩ : ∃ l, hitAt (HS.take p) h1 = l := ⟨_, rfl⟩
          rw [hl] at hsn hsO hal
          simp only [vSl] at hsn hsO hsc
          subst hsn
          have HL := Lib.hid hl
          have HK1 := Lib.hid hk1
          have HSS := Lib.hid hss
          have hGb : Boxed wo gb 58 (.pointer (some ⟨G, 0, none⟩)) := (hKw.2 gb ⟨hgbl, hgbh⟩ hGb9.lt).trans hGb9
          have k5 := (hQ9.kw (hKw.weak fun _ h => h.1.1)).h5
          have hMw : M1 ≤ wo.heap.size := by rw [← HM1.out]; exact hKw.1
          have hhM := hR.low
          have HR := Lib.hid hR
          have lt1 : (h1 : Int) < (T.length : Int) + 1 := by omega
          have hz9 : 0 ≤ (h1 : Int) := by omega
          clear hl hk1 hss hR hh
          obtain ⟨S, hS⟩ : ∃ S, (Value.slice sA l.length sc).ownBlock.toList = S := ⟨_, rfl⟩
          have hSm : ∀ b, (Value.slice sA l.length sc).ownBlock = some b → b ∈ S := fun b hb => by rw [← hS, hb]; simp
          have hSge : ∀ b ∈ S, M1 ≤ b ∧ b < wo.heap.size := fun b hb => by
            rw [← hS] at hb
            have hb2 : (Value.slice sA l.length sc).ownBlock = some b := by simpa using hb
            exact ⟨hsO.ge b hb2, (World.ownsRow.lt hsO b hb2).2⟩
          have HSM := Lib.hid hSm
          have HSGE := Lib.hid hSge
          have n0 : gb ∉ S := fun h => by have := hSge _ h; omega
          have n1 : G ∉ S := fun h => by have := hSge _ h; have := hGM.1.1.1; omega
          have n2 : hb ∉ S := fun h => by have := hSge _ h; omega
          have n3 : wo.heap.size ∉ S := fun h => by have := hSge _ h; omega
          clear hS hSm hSge
          go_wp2_with fail
          refine region_mixS S 18 [(0, true), (1, true), (2, true), (3, true), (4, true), (5, true), (6, true), (7, true), (8, true), (9, true), (10, true), (11, true), (12, true), (13, true), (14, true), (15, true), (16, false), (17, false)] (by kernel_rfl) (by kernel_rfl) ?_
          intro W hW
          have hwW : Below wo.heap.size wo W := Bst Bel hW
          have g0 := bkc hwW hGb.cell
          have g5 := bkc hwW k5
          have gh := bkc hwW hsc
          have x0 : W.cell? ⟨wo.heap.size, 0, none⟩ = some (.int .i64 h1) := bkc hW (by simp [go_sem])
          have x1 : W.cell? ⟨wo.heap.size, 1, none⟩ = some (.int .i64 h2) := bkc hW (by simp [go_sem])
          repeat (refine sS_q rfl (fun K hK => ?_); unfold takeS; go_simp; refine hK _ ?_; clear hK K)
          have ha1 : Below W.heap.size W (W.alloc (.cells #[.int .i64 h2] 3)) := Bal (Below.refl _ _) _
          have hs1 : SlA (eInt .i64) (W.alloc (.cells #[.int .i64 h2] 3)) (some ⟨W.heap.size, 0, none⟩) [(h2 : Int)] := SlA.new (eInt .i64) _ [(h2 : Int)] _ _ rfl _ rfl
          refine sS_t rfl (fun K hK => ?_); go_simp
          have hka : Kb W (W.alloc (.cells #[.int .i64 h2] 3)) S := Kb.weak (Kb.below ha1) (by simp)
          refine hK _ _ (.of hka) ?_; clear hK K
          generalize (W.alloc (.cells #[.int .i64 h2] 3)) = wa at ha1 hs1 hka ⊢
          have hwa : Below wo.heap.size wo wa := Bst hwW ha1
          have hRa := HR.out.below hwa
          have hsOa := hsO.below hwa
          have hba : Below w4.heap.size w4 wa := Bst hbp hwa
          have hOlow := hsOa.lower (show w4.heap.size ≤ M1 by rw [← HM1.out]; exact hb49.size)
          refine sS_t rfl (fun K hK => ?_)
          rw [if_pos (wanted_free rfl _)]
          refine app_op (E := eInt .i64) (w0 := w4) _ _ 61 3 (.int .i64 0) 8 rfl rfl Tryd.underlying61 info_intp rfl (by decide) (by decide) (.slice sA l.length sc) l [(h2 : Int)] _ _ _ rfl rfl rfl hOlow hs1 hba (by simp; omega) ?_
          intro v5 w5 HO5 hb5 hg5 hm5
          have hk5 : Kb W w5 S := hka.trans' (Kb.row hg5 HSM.out)
          refine hK _ _ (.of hk5) ?_; clear hK K
          refine sS_nil ?_
          have hO5r := HO5.raise (base' := M1) (fun g hg => by
            rcases hm5 with h | h
            · exact hsO.ge g (by rw [← h]; exact hg)
            · rw [h] at hg; injection hg with hg; have := hwa.size; omega)
          obtain ⟨Az5, cz5, ez5, _, _, _⟩ := HO5.slv
          rw [List.length_append] at ez5
          simp only [List.length_cons, List.length_nil, Nat.zero_add] at ez5
          subst ez5
          have hRb := hRa.app (s' := ⟨Az5, l.length + 1, cz5⟩) HK1.out HSS.out (h2 : Int) (by rw [hitRows_at HK1.out, HL.out]; exact hO5r) hg5 hm5 (by rw [hitRows_at HK1.out, HL.out]; simp)
          rw [hitRows_at HK1.out] at hRb
          have HSN := hitRows_snoc (HS.take p) (h1, h2) (T.length + 1)
          simp only at HSN
          rw [← HTK.out] at HSN
          rw [← HSN] at hRb
          have c5 := hk5.cell gh n2
          have f5 : w5.frozen? ⟨hb, h1, none⟩ = false := (frozen_kb (a := ⟨hb, h1, none⟩) hk5 (show hb < W.heap.size by have := hwW.size; omega) n2).trans ((hwW.frozen (p := ⟨hb, h1, none⟩) hhl).trans hsf)
          have g5l : hb < w5.heap.size := by have := hk5.size; have := hwW.size; omega
          have hkf : Kb wo (w5.setCell ⟨hb, h1, none⟩ (.slice Az5 (l.length + 1) cz5)) (S ++ [hb]) := (((Kb.below hwW).trans hk5).weak (by simp)).trans (Kb.grown (grownBy_cell w5 hb h1 _))
          have hKf := hKw.trans (KwB.kb hkf (fun s hs hB => by
            rcases List.mem_append.1 hs with h | h
            · have := HSGE.out s h; omega
            · exact hB.2 (by simpa using h)))
          have hbf : Below w4.heap.size w4 (w5.setCell ⟨hb, h1, none⟩ (.slice Az5 (l.length + 1) cz5)) := Bsc (p := ⟨hb, h1, none⟩) hb5 HHb.out _
          clear HSN hRa hsOa hOlow
          go_wp2
          rw [noP_normal]
          go_wp2
          exact ⟨⟨p + 1, _, by go_num, by omega, hRb, hKf, hbf⟩, by simp [intOf]; omega⟩
        · obtain rfl : p = HS.length := by omega
          have hpl' : ¬ (HS.length : Int) < HS.length := by omega
          rw [List.take_length, HALL.out] at hR
          have hQo := hQ9.kw (hKw.weak fun _ h => h.1.1)
          have hRw := hR.rw
          have hMw : M1 ≤ wo.heap.size := by rw [← HM1.out]; exact hKw.1
          have hNM : N < M1 := by
            obtain ⟨c1, m1, h1⟩ := hNt
            rw [← HM1.out]; exact (Array.getElem?_eq_some_iff.1 h1).1
          have hww4 := hb04.size
          have hhbl := HHb.out
          have hM1l : w4.heap.size ≤ M1 := by rw [← HM1.out]; exact hb49.size
          have hG := (hQo.weak (C := fun b => (b < wo.heap.size ∧ b ≠ N) ∧ LowB w.heap.size A xs b) fun b h1 h2 => ⟨⟨h1, h2.1.2⟩, h2.2⟩).grid (hRw.weak fun b h1 h2 => ⟨⟨h1, by rcases h2.2 with h | h <;> omega⟩, .inl (by rcases h2.2 with h | h <;> omega)⟩)
          have hC := hC9.kw1 (hKw.2 N ⟨hNM, fun e => hbN e.symm⟩ (by rw [HM1.out]; exact hNM))
          have h6 := hQo.h6
          have hGb : Boxed wo gb 58 (.pointer (some ⟨G, 0, none⟩)) := (hKw.2 gb ⟨hgbl, hgbh⟩ hGb9.lt).trans hGb9
          have hgN : gb ≠ N := fun e => by
            have h1 := hNt
            rw [← e] at h1
            exact h1.ne (by decide) _ _ hGb9
          have hgo : gb < wo.heap.size := by omega
          have hNo : N < wo.heap.size := by omega
          clear hR hQo hRw hQ9 hR9 hKw hB9 hGb9 hC9 hGM hgbl hNt
          go_wp2
          refine wpIn_seq_k fun K hK => wpIn_label (hK _ _ ?_)
          clear hK K
          have hbi := Boxed.new wo 3 (.int .i64 T.length)
          have hba : Below wo.heap.size wo (wo.alloc (.cells #[.int .i64 T.length] 3)) := Bal (Below.refl _ _) _
          gi_wp2_with fail
          generalize (wo.alloc (.cells #[.int .i64 T.length] 3)) = w10 at hbi hba ⊢
          have hG10 := hG.kw (KwB.below hba)
          have hC10 := hC.below hba
          have hGb10 := boxed_kb hGb (Kb.below hba) (by simp)
          have h610 := bkc hba h6
          have hb410 := Bst hbp hba
          have hz10 := hbi.lt
          obtain ⟨M9, hM9⟩ : ∃ n, wo.heap.size = n := ⟨_, rfl⟩
          rw [hM9] at hG10 hbi hgo hNo hz10 ⊢
          have hM10 : Mat w10 w4.heap.size N T.length V.length (T.length + 1) M9 (List.replicate (T.length + 1) ⟨none, 0, 0⟩) (cc (rus xs) T V) := ⟨hC10, by simp, fun i h1 h2 => absurd h1 (by omega)⟩
          have hw4M : w4.heap.size ≤ M9 := by rw [← hM9]; exact hbp.size
          clear hG hC hGb h6 hbp hba hC10 hM9 hb49
          refine wpIn_loop (fun a wr => ∃ (L3 : List Value) (i ib B : Nat) (cs : List Sl) (Ds : List Nat), (i ≤ T.length ∧ B ≤ ib ∧ M9 ≤ ib ∧ Boxed wr ib 3 (.int .i64 i) ∧ Mat wr w4.heap.size N T.length V.length (i + 1) B cs (cc (rus xs) T V) ∧ KwB (fun b => b < M9 ∧ b ≠ N) w10 wr ∧ Below w4.heap.size w4 wr ∧ Marks w4.heap.size Ds wr) ∧ FrEq a { tmps := #[.slice A xs.length c, .string t, .string v, undef, undef, undef, .pointer none, .int .i64 0, .int .i64 0, .slice A3 T.length c3, .int .i64 0, .slice A4 V.length c4, .pointer (some ⟨gb, 0, none⟩), undef, u14, u15, u16, .pointer (some ⟨M, 0, none⟩), .slice A9 HS.length c9, undef, u20, .pointer (some ⟨ib, 0, none⟩), (uAt L3 0), (uAt L3 1), .slice A xs.length c, .int .i64 0, .int .i64 0, .bool false, undef, .tuple #[.slice A3 T.length c3, .int .i64 0], .string t, .tuple #[.slice A3 T.length c3, .int .i64 0], .slice A3 T.length c3, .int .i64 0, .int .i64 0, .bool false, undef, .tuple #[.slice A4 V.length c4, .int .i64 0], .string v, .tuple #[.slice A4 V.length c4, .int .i64 0], .slice A4 V.length c4, .int .i64 0, .int .i64 0, .bool false, undef, .slice A xs.length c, .slice A3 T.length c3, .slice A4 V.length c4, .slice A3 T.length c3, .int .i64 T.length, .int .i64 (T.length + 1), .slice (some ⟨hb, 0, none⟩) (T.length + 1) (T.length + 1), .slice A3 T.length c3, .int .i64 T.length, .int .i64 (T.length + 1), .slice (some ⟨N, 0, none⟩) (T.length + 1) (T.length + 1), .agg #[.slice A xs.length c, .slice none 0 0, .slice none 0 0, .slice A3 T.length c3, .slice A4 V.length c4, .slice (some ⟨hb, 0, none⟩) (T.length + 1) (T.length + 1), .slice (some ⟨N, 0, none⟩) (T.length + 1) (T.length + 1)], .pointer (some ⟨G, 0, none⟩), .slice A xs.length c, .int .i64 xs.length, .int .i64 xs.length, .bool false, u62, u63, u64, u65, u66, u67, u68, u69, u70, u71, u72, u73, u74, u75, u76, u77, u78, u79, u80, u81, u82, u83, u84, u85, u86, u87, u88, u89, u90, u91, u92, .tuple #[.pointer (some ⟨M, 0, none⟩), .int .i64 0], .slice A xs.length c, .tuple #[.pointer (some ⟨M, 0, none⟩), .int .i64 0], .pointer (some ⟨M, 0, none⟩), .int .i64 0, .int .i64 0, .bool false, undef, .tuple #[.slice A9 HS.length c9, .int .i64 0], .pointer (some ⟨M, 0, none⟩), .string t, .tuple #[.slice A9 HS.length c9, .int .i64 0], .slice A9 HS.length c9, .int .i64 0, .slice A9 HS.length c9, .int .i64 HS.length, .int .i64 HS.length, .bool false, u111, u112, u113, u114, u115, u116, u117, u118, u119, u120, u121, u122, u123, u124, u125, u126, u127, u128, u129, u130, u131, u132, .slice A3 T.length c3, .int .i64 T.length, (uAt L3 2), (uAt L3 3), (uAt L3 4), (uAt L3 5), (uAt L3 6), (uAt L3 7), (uAt L3 8), (uAt L3 9), (uAt L3 10), (uAt L3 11), (uAt L3 12), (uAt L3 13), (uAt L3 14), (uAt L3 15), (uAt L3 16), (uAt L3 17), (uAt L3 18), (uAt L3 19), (uAt L3 20), (uAt L3 21), (uAt L3 22), (uAt L3 23), (uAt L3 24), (uAt L3 25), (uAt L3 26), (uAt L3 27), (uAt L3 28), (uAt L3 29), (uAt L3 30), (uAt L3 31), (uAt L3 32), (uAt L3 33), (uAt L3 34), (uAt L3 35), (uAt L3 36), (uAt L3 37), (uAt L3 38), (uAt L3 39), (uAt L3 40), (uAt L3 41), (uAt L3 42), (uAt L3 43), (uAt L3 44), (uAt L3 45), (uAt L3 46), (uAt L3 47), (uAt L3 48), (uAt L3 49), (uAt L3 50), (uAt L3 51), (uAt L3 52), (uAt L3 53), (uAt L3 54), (uAt L3 55), (uAt L3 56), (uAt L3 57), (uAt L3 58), (uAt L3 59), (uAt L3 60), (uAt L3 61), (uAt L3 62), (uAt L3 63), (uAt L3 64), (uAt L3 65), (uAt L3 66), (uAt L3 67), (uAt L3 68), (uAt L3 69), (uAt L3 70), (uAt L3 71), (uAt L3 72), (uAt L3 73), (uAt L3 74), undef, undef], defers := dsOf Ds }) (fun a W => (boxN (a.tmps.getD 21 undef) W).toNat) ?start ?round
          case start => exact ⟨[_, _, _, _, _, _, _, _, _, _, _, _, _, _, _, _, _, _, _, _, _, _, _, _, _, _, _, _, _, _, _, _, _, _, _, _, _, _, _, _, _, _, _, _, _, _, _, _, _, _, _, _, _, _, _, _, _, _, _, _, _, _, _, _, _, _, _, _, _, _, _, _, _, _, _], T.length, M9, M9, _, [], ⟨Nat.le_refl _, Nat.le_refl _, Nat.le_refl _, hbi, hM10, KwB.refl _ _, hb410, Marks.nil _ _⟩, FrEq.rf _⟩
          case round =>
            rintro afr wr ⟨L3, i, ib, B, cs, Ds, ⟨hiT, hBi, hMi, hbi3, hM3, hK3, hb3, hmk3⟩, hfr⟩
            unfold FrEq at hfr
            subst hfr
            have hi0 : (0 : Int) ≤ i := by omega
            have hiT1 : (i : Int) < (T.length : Int) + 1 := by omega
            have hGb3 : Boxed wr gb 58 (.pointer (some ⟨G, 0, none⟩)) := (hK3.2 gb ⟨hgo, hgN⟩ hGb10.lt).trans hGb10
            have hG63 := hK3.cell h610 hG10.g.1
            have hGlt := hG10.g.1
            have c1 := hbi3.cell
            gi_wp2_with fail
            refine wpIn_wide.2 (region_treeS [N] (.q 0 (.q 1 (.q 2 (.q 3 (.q 4 (.q 5 (.q 6 (.q 7 (.t 8 (.q 9 (.t 10 .nil))))))))))) (by kernel_rfl) (by kernel_rfl) ?_)
            intro Wm hWm
            have e0 : ∀ Y : LaterS Wm [N], (World.extS Wm [N] Y).cell? ⟨gb, 0, none⟩ = some (.pointer (some ⟨G, 0, none⟩)) := fun Y => Y.h.cell (bkc hWm hGb3.cell) (by simpa using hgN)
            have e1 : ∀ Y : LaterS Wm [N], (World.extS Wm [N] Y).cell? ⟨G, 6, none⟩ = some (.slice (some ⟨N, 0, none⟩) (T.length + 1) (T.length + 1)) := fun Y => Y.h.cell (bkc hWm hG63) (by simpa using hGlt.2)
            have e2 : ∀ Y : LaterS Wm [N], (World.extS Wm [N] Y).cell? ⟨ib, 0, none⟩ = some (.int .i64 i) := fun Y => Y.h.cell (bkc hWm hbi3.cell) (by simp; omega)
            repeat (refine trS_q rfl (fun K hK => ?_); unfold takeS; go_simp; refine hK _ ?_; clear hK K)
            refine trS_t rfl (fun K hK => ?_); rw [if_pos (wanted_free rfl _)]
            refine make_opO _ _ _ 61 rfl w4.heap.size 3 i2 (.int .i64 0) 1 Tryd.underlying61 hi2 hy3 hy4 .i64 .i64 _ _ (V.length + 1) rfl rfl (by push_cast; rfl) (by push_cast; rfl) (by rw [hy5]; omega) (by simp only [maxLen]; omega) (by have := hb3.size; have := hWm.size; omega) ?_
            intro w5 HO5 hg5
            have hb5' : Below Wm.heap.size Wm w5 := Bgr (Below.refl _ _) hg5 (by simp)
            refine hK _ _ (.of (Kb.weak (Kb.below hb5') (by simp))) ?_; clear hK K
            have hR5 := RowC.zero (own_madeI _ _ _ _ HO5)
            have hM5 := (hM3.below hWm).below hb5'
            obtain ⟨hs1, ⟨vs, hs2⟩, hs3⟩ := hM5.slot (i := i) (by omega)
            repeat (refine trS_q rfl (fun K hK => ?_); unfold takeS; go_simp; refine hK _ ?_; clear hK K)
            refine trS_t rfl (fun K hK => ?_); go_simp
            have hibl := hbi3.lt
            have hzm := hWm.size
            refine hK _ _ (.of ((Kb.weak (Kb.below hb5') (by simp)).trans' (Kb.grown (grownBy_cell w5 N i _)))) ?_; clear hK K
            refine trS_nil ?_
            rw [noP_normal]
            obtain ⟨cs6, hM6, hc6⟩ := Mat.lay (m := V.length) hM5 i Wm.heap.size (by omega) (by omega) (by omega)
            have hR6 : RowC (w5.setCell ⟨N, i, none⟩ (.slice (some ⟨Wm.heap.size, 0, none⟩) (V.length + 1) (V.length + 1))) w4.heap.size Wm.heap.size V.length fun _ => 0 := Own.kept hR5 (grownBy_cell w5 N i _) (.inr (by simp only [Value.ownBlock]; intro e; injection e with e; omega))
            have hwr5 : Below wr.heap.size wr w5 := Bst hWm hb5'
            have hk6 : Kb wr (w5.setCell ⟨N, i, none⟩ (.slice (some ⟨Wm.heap.size, 0, none⟩) (V.length + 1) (V.length + 1))) [N] := ((Kb.below hwr5).weak (by simp)).trans' (Kb.grown (grownBy_cell w5 N i _))
            have hR6l : Wm.heap.size < (w5.setCell ⟨N, i, none⟩ (.slice (some ⟨Wm.heap.size, 0, none⟩) (V.length + 1) (V.length + 1))).heap.size := by
              have := (hR6.cell (j := 0) (Nat.zero_le _)).1
              exact this
            obtain ⟨R, hRe⟩ : ∃ n, Wm.heap.size = n := ⟨_, rfl⟩
            rw [hRe] at hM6 hc6 hR6 hk6 hR6l ⊢
            have hRi : ib < R := by omega
            generalize (w5.setCell ⟨N, i, none⟩ (.slice (some ⟨R, 0, none⟩) (V.length + 1) (V.length + 1))) = w6 at hM6 hR6 hk6 hR6l ⊢
            have hNw4 := HN.out
            have hmk6 := hmk3.kb hk6 (fun D hD h => by
              obtain ⟨_, _, h1⟩ := hmk3.2 D hD
              obtain ⟨c, h2⟩ := Own.cells hM3.own (g := N) rfl
              rw [List.mem_singleton.1 h] at h1
              rw [h1] at h2
              cases h2)
            have hbi6 := boxed_kb hbi3 hk6 (by simp; omega)
            have hK6 : KwB (fun b => b < M9 ∧ b ≠ N) w10 w6 := hK3.trans (KwB.kb hk6 (by simp))
            have hb6 : Below w4.heap.size w4 w6 := hk6.to (by simpa using hNw4) hb3 (Nat.le_refl _)
            have hM9R : M9 ≤ R := by omega
            clear hM5 hR5 hwr5 hk6 hb5' HO5 hg5 hs1 hs2 hs3 hRe hzm e0 e1 e2 hM3 hmk3 hK3 hb3 hGb3 hG63 c1 hibl
            gi_wp2_with fail
            have hbj := Boxed.new w6 3 (.int .i64 V.length)
            have hbja : Below w6.heap.size w6 (w6.alloc (.cells #[.int .i64 V.length] 3)) := Bal (Below.refl _ _) _
            refine wpIn_loop (fun a wr => ∃ (L4 : List Value) (z : Int) (k jb : Nat) (f : Nat → Int) (Ds : List Nat), (z + 1 = k ∧ k ≤ V.length + 1 ∧ R < jb ∧ Boxed wr jb 3 (.int .i64 z) ∧ Boxed wr ib 3 (.int .i64 i) ∧ Mat wr w4.heap.size N T.length V.length (i + 1) B cs6 (cc (rus xs) T V) ∧ RowC wr w4.heap.size R V.length f ∧
                Hid ((∀ j', k ≤ j' → j' ≤ V.length → f j' = cc (rus xs) T V i j') ∧ ∀ j', j' < k → f j' = 0) ∧ KwB (fun b => b < M9 ∧ b ≠ N) w10 wr ∧ Below w4.heap.size w4 wr ∧ Marks w4.heap.size Ds wr) ∧ FrEq a { tmps := #[.slice A xs.length c, .string t, .string v, undef, undef, undef, .pointer none, .int .i64 0, .int .i64 0, .slice A3 T.length c3, .int .i64 0, .slice A4 V.length c4, .pointer (some ⟨gb, 0, none⟩), undef, u14, u15, u16, .pointer (some ⟨M, 0, none⟩), .slice A9 HS.length c9, undef, u20, .pointer (some ⟨ib, 0, none⟩), .pointer (some ⟨jb, 0, none⟩), (uAt L4 0), .slice A xs.length c, .int .i64 0, .int .i64 0, .bool false, undef, .tuple #[.slice A3 T.length c3, .int .i64 0], .string t, .tuple #[.slice A3 T.length c3, .int .i64 0], .slice A3 T.length c3, .int .i64 0, .int .i64 0, .bool false, undef, .tuple #[.slice A4 V.length c4, .int .i64 0], .string v, .tuple #[.slice A4 V.length c4, .int .i64 0], .slice A4 V.length c4, .int .i64 0, .int .i64 0, .bool false, undef, .slice A xs.length c, .slice A3 T.length c3, .slice A4 V.length c4, .slice A3 T.length c3, .int .i64 T.length, .int .i64 (T.length + 1), .slice (some ⟨hb, 0, none⟩) (T.length + 1) (T.length + 1), .slice A3 T.length c3, .int .i64 T.length, .int .i64 (T.length + 1), .slice (some ⟨N, 0, none⟩) (T.length + 1) (T.length + 1), .agg #[.slice A xs.length c, .slice none 0 0, .slice none 0 0, .slice A3 T.length c3, .slice A4 V.length c4, .slice (some ⟨hb, 0, none⟩) (T.length + 1) (T.length + 1), .slice (some ⟨N, 0, none⟩) (T.length + 1) (T.length + 1)], .pointer (some ⟨G, 0, none⟩), .slice A xs.length c, .int .i64 xs.length, .int .i64 xs.length, .bool false, u62, u63, u64, u65, u66, u67, u68, u69, u70, u71, u72, u73, u74, u75, u76, u77, u78, u79, u80, u81, u82, u83, u84, u85, u86, u87, u88, u89, u90, u91, u92, .tuple #[.pointer (some ⟨M, 0, none⟩), .int .i64 0], .slice A xs.length c, .tuple #[.pointer (some ⟨M, 0, none⟩), .int .i64 0], .pointer (some ⟨M, 0, none⟩), .int .i64 0, .int .i64 0, .bool false, undef, .tuple #[.slice A9 HS.length c9, .int .i64 0], .pointer (some ⟨M, 0, none⟩), .string t, .tuple #[.slice A9 HS.length c9, .int .i64 0], .slice A9 HS.length c9, .int .i64 0, .slice A9 HS.length c9, .int .i64 HS.length, .int .i64 HS.length, .bool false, u111, u112, u113, u114, u115, u116, u117, u118, u119, u120, u121, u122, u123, u124, u125, u126, u127, u128, u129, u130, u131, u132, .slice A3 T.length c3, .int .i64 T.length, .int .i64 i, .bool true, uAt L3 4, uAt L3 5, .pointer (some ⟨G, 0, none⟩), .pointer (some ⟨G, 0, none⟩), .pointer (some ⟨G, 6, none⟩), .slice (some ⟨N, 0, none⟩) (T.length + 1) (T.length + 1), .int .i64 i, .slice A4 V.length c4, .int .i64 V.length, .int .i64 (V.length + 1), .slice (some ⟨R, 0, none⟩) (V.length + 1) (V.length + 1), .pointer (some ⟨N, i, none⟩), .slice A4 V.length c4, .int .i64 V.length, (uAt L4 1), (uAt L4 2), (uAt L4 3), (uAt L4 4), (uAt L4 5), (uAt L4 6), (uAt L4 7), (uAt L4 8), (uAt L4 9), (uAt L4 10), (uAt L4 11), (uAt L4 12), (uAt L4 13), (uAt L4 14), (uAt L4 15), (uAt L4 16), (uAt L4 17), (uAt L4 18), (uAt L4 19), (uAt L4 20), (uAt L4 21), (uAt L4 22), (uAt L4 23), (uAt L4 24), (uAt L4 25), (uAt L4 26), (uAt L4 27), (uAt L4 28), (uAt L4 29), (uAt L4 30), (uAt L4 31), (uAt L4 32), (uAt L4 33), (uAt L4 34), (uAt L4 35), (uAt L4 36), (uAt L4 37), (uAt L4 38), (uAt L4 39), (uAt L4 40), (uAt L4 41), (uAt L4 42), (uAt L4 43), (uAt L4 44), (uAt L4 45), (uAt L4 46), (uAt L4 47), (uAt L4 48), (uAt L4 49), (uAt L4 50), (uAt L4 51), (uAt L4 52), (uAt L4 53), (uAt L4 54), uAt L3 72, uAt L3 73, uAt L3 74, undef, undef], defers := dsOf Ds }) (fun a W => (boxN (a.tmps.getD 22 undef) W + 1).toNat) ?start4 ?round4
            case start4 =>
              exact ⟨[_, _, _, _, _, _, _, _, _, _, _, _, _, _, _, _, _, _, _, _, _, _, _, _, _, _, _, _, _, _, _, _, _, _, _, _, _, _, _, _, _, _, _, _, _, _, _, _, _, _, _, _, _, _, _], V.length, V.length + 1, w6.heap.size, _, Ds, ⟨by omega, by omega, hR6l, hbj, boxed_kb hbi6 (Kb.below hbja) (by simp), hM6.below hbja, Own.below hR6 hbja, ⟨fun j' h1 h2 => absurd h1 (by omega), fun _ _ => rfl⟩, hK6.trans (KwB.below hbja), Bst hb6 hbja, hmk6.below hbja⟩, FrEq.rf _⟩
            case round4 =>
              clear hbj hbja hM6 hR6 hmk6 hbi6 hK6 hb6
              rintro afr wq ⟨L4, z, k, jb, f, Ds4, ⟨hz, hk, hRj, hbj4, hbi4, hM4, hR4, HQ, hK4, hb4, hmk4⟩, hfr⟩
              unfold FrEq at hfr
              subst hfr
              have hGb4 : Boxed wq gb 58 (.pointer (some ⟨G, 0, none⟩)) := (hK4.2 gb ⟨hgo, hgN⟩ hGb10.lt).trans hGb10
              have hG64 := hK4.cell h610 hGlt
              have c0 := hGb4.cell
              have c1 := hbi4.cell
              have c2 := hbj4.cell
              by_cases hz0 : z < 0
              · have hz1 : ¬ (0 : Int) ≤ z := by omega
                obtain rfl : k = 0 := by omega
                have hRq := (hR4.cell (j := 0) (Nat.zero_le _)).1
                have hMd := hM4.done rfl hc6 hR4 (fun j' h => HQ.out.1 j' (Nat.zero_le _) h) (by omega) (by omega)
                rcases Nat.eq_zero_or_pos i with g0 | g0
                · have E0 : ((i : Int) == 0) = true := by rw [beq_iff_eq]; omega
                  rw [g0] at hMd
                  have hG4 := hG10.kw (hK4.weak fun _ h => h.1)
                  clear g0
                  have cg := hGb4.cell
                  gi_wp2
                  show LeavesInM _ _ _ _ _ _ (dsOf Ds4) _ _
                  refine hmk4.leave fun W' hb' hcl => ⟨_, results_tmp2 rfl _ _ _, ?_⟩
                  exact ⟨G, N, R + 1, w4.heap.size, cs6, rfl, (hG4.leave hb'.size hcl).weak fun _ _ h => h.2, hb04.size, cell_of_cells hcl hG64, hMd.leave hcl, Bst hb04 (hb4.trans hb')⟩
                · obtain ⟨i', hi'⟩ : ∃ i', i = i' + 1 := ⟨i - 1, by omega⟩
                  have E0 : ((i : Int) == 0) = false := by rw [beq_eq_false_iff_ne]; omega
                  have hiw : IntKind.i64.wrap ((i : Int) - 1) = (i' : Int) := by rw [IntWalk.i64_in _ (by omega)]; omega
                  have hMd' : Mat wq w4.heap.size N T.length V.length (i' + 1) (R + 1) cs6 (cc (rus xs) T V) := hi' ▸ hMd
                  have hil : i' ≤ T.length ∧ i' < i := by omega
                  have bn := Boxed.new wq 3 (.int .i64 i')
                  have bna : Below wq.heap.size wq (wq.alloc (.cells #[.int .i64 i'] 3)) := Bal (Below.refl _ _) _
                  clear g0 hi' hMd
                  gi_wp2
                  refine ⟨⟨[_, _, _, _, _, _, _, _, _, _, _, _, _, _, _, _, _, _, _, _, _, _, _, _, _, _, _, _, _, _, _, _, _, _, _, _, _, _, _, _, _, _, _, _, _, _, _, _, _, _, _, _, _, _, _, _, _, _, _, _, _, _, _, _, _, _, _, _, _, _, _, _, _, _, _], i', wq.heap.size, R + 1, cs6, Ds4, ⟨hil.1, by omega, by omega, bn, hMd'.below bna, hK4.trans (KwB.below bna), Bst hb4 bna, hmk4.below bna⟩, FrEq.rf _⟩, ?_⟩
                  rw [boxN_eq bn, boxN_eq hbi3]
                  omega
              · obtain ⟨j, rfl⟩ : ∃ j : Nat, z = (j : Int) := ⟨z.toNat, by omega⟩
                obtain rfl : k = j + 1 := by omega
                have hz1 : (0 : Int) ≤ j := by omega
                have hjw : IntKind.i64.wrap ((j : Int) - 1) = (j : Int) - 1 := IntWalk.i64_in _ (by omega)
                by_cases hend : i = T.length ∧ j = V.length
                · skip
                  have E1 : ((i : Int) == (T.length : Int)) = true := by rw [beq_iff_eq]; omega
                  have E2 : ((j : Int) == (V.length : Int)) = true := by rw [beq_iff_eq]; omega
                  have HEND := Lib.hid hend
                  clear hend
                  have bn := Boxed.new wq 3 (.int .i64 ((j : Int) - 1))
                  have bna : Below wq.heap.size wq (wq.alloc (.cells #[.int .i64 ((j : Int) - 1)] 3)) := Bal (Below.refl _ _) _
                  have hRq := (hR4.cell (j := 0) (Nat.zero_le _)).1
                  have HQ2 : Hid ((∀ j', j ≤ j' → j' ≤ V.length → f j' = cc (rus xs) T V i j') ∧ ∀ j', j' < j → f j' = 0) := by
                    refine ⟨fun j' h1 h2 => ?_, fun j' h1 => HQ.out.2 j' (by omega)⟩
                    rcases Nat.lt_or_ge j j' with h | h
                    · exact HQ.out.1 j' h h2
                    · obtain rfl : j' = j := by omega
                      rw [HQ.out.2 j' (by omega), HEND.out.1, HEND.out.2, cc_end]; rfl
                  gi_wp2
                  refine ⟨⟨[_, _, _, _, _, _, _, _, _, _, _, _, _, _, _, _, _, _, _, _, _, _, _, _, _, _, _, _, _, _, _, _, _, _, _, _, _, _, _, _, _, _, _, _, _, _, _, _, _, _, _, _, _, _, _], (j : Int) - 1, j, wq.heap.size, f, Ds4, ⟨by omega, by omega, by omega, bn, boxed_kb hbi4 (Kb.below bna) (by simp), hM4.below bna, Own.below hR4 bna, HQ2, hK4.trans (KwB.below bna), Bst hb4 bna, hmk4.below bna⟩, FrEq.rf _⟩, ?_⟩
                  rw [boxN_eq bn, boxN_eq hbj4]
                  omega
                · have hjV : j ≤ V.length := by omega
                  have hlt3 : i < T.length ∨ j < V.length := by omega
                  have HLT := Lib.hid hlt3
                  have hcase : (i = T.length ∧ j ≠ V.length) ∨ i ≠ T.length := by omega
                  obtain ⟨hRl, hcv, hfv⟩ := hR4.cell hjV
                  have hcN : wq.cell? ⟨N, i, none⟩ = some (.slice (some ⟨R, 0, none⟩) (V.length + 1) (V.length + 1)) := hM4.cur hc6
                  have lt2 : (j : Int) < (V.length : Int) + 1 := by omega
                  have hjl := hbj4.lt
                  have hBR : B ≤ R := by omega
                  have hNR : N < R := by omega
                  have hP0 : InP w4 w10 (fun b => b < M9 ∧ b ≠ N) N T.length V.length i B cs6 (cc (rus xs) T V) R ib jb j Ds4 f wq := ⟨hmk4, hM4, hR4, hbi4, hbj4, hK4, hb4⟩
                  have HQ1 : Hid ((∀ j', j + 1 ≤ j' → j' ≤ V.length → f j' = cc (rus xs) T V i j') ∧ ∀ j', j' < j + 1 → f j' = 0) := HQ
                  have hmR : ¬ (R < M9 ∧ R ≠ N) := by omega
                  have hw4R : w4.heap.size ≤ R := by omega
                  clear hlt3 hend hmk4 hM4 hR4 hK4 hb4 HQ
                  rcases hcase with ⟨g1, g2⟩ | g1
                  case' inl =>
                    have E1 : ((i : Int) == (T.length : Int)) = true := by rw [beq_iff_eq]; omega
                    have E2 : ((j : Int) == (V.length : Int)) = false := by rw [beq_eq_false_iff_ne]; omega
                    clear g1 g2
                  case' inr =>
                    have E1 : ((i : Int) == (T.length : Int)) = false := by rw [beq_eq_false_iff_ne]; omega
                    clear g1
                  all_goals
                    gi_wp2_with fail
                    refine wpIn_wide.2 (region_mixS [] 8 [(0, true), (1, true), (2, true), (3, true), (4, true), (5, true), (6, true), (7, true)] (by kernel_rfl) (by kernel_rfl) ?_)
                    intro Wm hWm
                    have q0 := bkc hWm c0
                    have q1 := bkc hWm c1
                    have q2 := bkc hWm c2
                    have q6 := bkc hWm hG64
                    have qN := bkc hWm hcN
                    have qv := bkc hWm hcv
                    have qf : Wm.frozen? ⟨R, j, none⟩ = false := (hWm.frozen (p := ⟨R, j, none⟩) hRl).trans hfv
                    have qR : R < Wm.heap.size := Nat.lt_of_lt_of_le hRl hWm.size
                    repeat (refine sS_q rfl (fun K hK => ?_); unfold takeS; go_simp; refine hK _ ?_; clear hK K)
                    refine sS_nil ?_
                    go_wp2
                    rw [noP_normal]
                    have hP1 := (hP0.below hWm).put 1073741824 hBR hNR (by omega) (by omega) hmR hw4R
                    have hF1 : RowF xs T V i j [] (fun q => if q = j then (1073741824 : Int) else f q) := by
                      refine ⟨fun j' h1 h2 => ?_, fun j' h1 => ?_, ?_⟩
                      · simp only; rw [if_neg (by omega)]; exact HQ1.out.1 j' (by omega) h2
                      · simp only; rw [if_neg (by omega)]; exact HQ1.out.2 j' (by omega)
                      · simp [leastF]
                    have HF1 := Lib.hid hF1
                    clear hF1
                    generalize (Wm.setCell ⟨R, j, none⟩ (.int .i64 1073741824)) = wz at hP1 ⊢
                    generalize (fun q => if q = j then (1073741824 : Int) else f q) = f1 at hP1 HF1
                    have hGbz : Boxed wz gb 58 (.pointer (some ⟨G, 0, none⟩)) := (hP1.kw.2 gb ⟨hgo, hgN⟩ hGb10.lt).trans hGb10
                    have d0 := hGbz.cell
                    have d1 := hP1.bi.cell
                    have d2 := hP1.bj.cell
                    have hRz := (hP1.row.cell (j := 0) (Nat.zero_le _)).1
                    clear hP0 c0 c1 c2 hG64 hcN hcv hfv q0 q1 q2 q6 qN qv qf qR hGb4 hWm
                    gi_wp2_with fail
                    refine ⟨trivial, ?_⟩
                    refine (callsIn_wide.2 (parts_c Fence.wide trivial G i j _)).mono ?_
                    rintro e w1 ⟨rfl, hw1⟩
                    obtain ⟨s, hs0⟩ : ∃ n, wz.heap.size = n := ⟨_, rfl⟩
                    have bG : Boxed w1 s 58 (.pointer (some ⟨G, 0, none⟩)) := by rw [hw1, ← hs0]; exact ((Boxed.new _ _ _).alloc _).alloc _
                    have bI : Boxed w1 (s + 1) 3 (.int .i64 i) := by
                      have h := Boxed.new (wz.alloc (.cells #[.pointer (some ⟨G, 0, none⟩)] 58)) 3 (.int .i64 i)
                      rw [World.size_alloc, hs0] at h
                      rw [hw1]; exact h.alloc _
                    have bJ : Boxed w1 (s + 2) 3 (.int .i64 j) := by
                      have h := Boxed.new ((wz.alloc (.cells #[.pointer (some ⟨G, 0, none⟩)] 58)).alloc (.cells #[.int .i64 i] 3)) 3 (.int .i64 j)
                      rw [World.size_alloc, World.size_alloc, hs0] at h
                      rw [hw1]; exact h
                    have hbl1 : Below wz.heap.size wz w1 := by rw [hw1]; exact Bal (Bal (Bal (Below.refl _ _) _) _) _
                    clear hw1
                    rw [hs0]
                    have hP2 := hP1.below hbl1
                    have hjz : jb < s := by rw [← hs0]; exact hP1.bj.lt
                    have hiz : ib < s := by rw [← hs0]; exact hP1.bi.lt
                    have hRs : R < s := by rw [← hs0]; exact hRz
                    have hlim : s + 2 < w1.heap.size := bJ.lt
                    have hDs : ∀ D ∈ Ds4, D < s := fun D hD => by have := (hP1.mks.2 D hD).2.1; omega
                    have hw4s : w4.heap.size ≤ s := by omega
                    have hG2 : GridR (fun b => b < w1.heap.size ∧ b ≠ R) w1 G xs T V := (hG10.kw (hP2.kw.weak fun _ h => h.1)).weak fun b h1 h2 => ⟨h1, by have := h2.1; omega⟩
                    have hPR : PartR (fun b => b < w1.heap.size ∧ b ≠ R) w1 (s + 1) s (s + 2) G xs T V i j := ⟨hG2, bI, bG, bJ, ⟨by omega, by omega⟩, ⟨by omega, by omega⟩, ⟨by omega, by omega⟩⟩
                    clear hP1 hGbz d0 d1 d2 hRz hs0 hbl1 bG bI hG2
                    gi_wp2_with fail
                    refine rangeFunc_boxXE rfl (by omega) (gf := 56) (lb := #[.pointer (some ⟨s + 1, 0, none⟩), .pointer (some ⟨s, 0, none⟩), .pointer (some ⟨s + 2, 0, none⟩)]) rfl trivial (enters_of Tryd.func56 (by kernel_rfl) rfl)
                      (b := s + 2) (Kp := KwB fun b => b < w1.heap.size ∧ b ≠ R) (parts_stops (5 - 1) (by omega) (s + 1) s (s + 2) G _ xs T V i j HI.out b2 a2 hiT hjV w1 hPR) ⟨_, _, bJ⟩ (fun h k => h.trans k)
                      (fun W l o o' h1 h2 h3 h4 => ⟨by simp, fun k hk _ => World.putObj_heap_other (by omega)⟩) (fun _ => rfl)
                      (InI12 w4 w10 (fun b => b < M9 ∧ b ≠ N) N B cs6 xs T V R ib jb i j Ds4 (s + 2)) (fun _ _ _ => False) (InI12.from (by omega) (by omega) (by omega) (by omega) (by omega) (fun b h => by omega) (fun D hD => by have := hDs D hD; omega) (by omega) (by omega)) (fun _ _ _ _ _ h _ _ => h.elim)
                      (fun q A C h ho => h.own1 ho (by omega) (by omega) (by omega) (by omega) (by omega) (fun b h => by omega) (fun D hD => by have := hDs D hD; omega) (by omega)) (fun _ _ _ _ h _ => h.elim) ⟨⟨f1, hP2, HF1.out⟩, _, bJ⟩ (fun x b W => Bx W b 75 #[.int .i64 x.f, .int .i64 x.t, .int .i64 x.c, .int .i64 x.k])
                      (fun x b u W W' row hl hg hr => Bx.kb hl (kb_grown hg) (fun h => by obtain ⟨_, o, h1, h2⟩ := hr b (by simpa using h); rw [show W.heap[b]? = _ from hl] at h1; injection h1 with h1; rw [← h1] at h2; cases h2)) ?ab ?done ?stop
                    case stop => exact fun _ _ _ _ _ _ h _ => h.elim
                    case ab =>
                      apply Exists.intro
                      refine ⟨?assign, ?body⟩
                      case assign =>
                        intro l' pre x W K hI hok hK
                        unfold vPt
                        gi_wp2
                        have hba : Below W.heap.size W (W.alloc (.cells #[.int .i64 x.f, .int .i64 x.t, .int .i64 x.c, .int .i64 x.k] 75)) := Bal (Below.refl _ _) _
                        have hbx := Bx.new W 75 #[.int .i64 x.f, .int .i64 x.t, .int .i64 x.c, .int .i64 x.k]
                        obtain ⟨pb, hpb⟩ : ∃ n, W.heap.size = n := ⟨_, rfl⟩
                        rw [hpb] at hbx ⊢
                        refine hK pb _ (keepsFrom_kb (Kb.below hba) (by simp)) (KwB.below hba) ?_ hbx
                        obtain ⟨⟨f2, hP, hF⟩, u, hxb⟩ := hI
                        exact ⟨⟨f2, hP.below hba, hF⟩, u, boxed_kb hxb (Kb.below hba) (by simp)⟩
                      case body =>
                        rintro l' pre ⟨pf, pt, pc, pk⟩ pb W ⟨⟨f2, hP, hF⟩, u, hxb⟩ ⟨rest, hrest⟩ hpx
                        have hmem : (⟨pf, pt, pc, pk⟩ : Pt) ∈ partsP (rus xs) T V i j := by rw [hrest]; simp
                        clear hrest
                        obtain ⟨o1, o2, o3, o4⟩ := parts_ok (rus_ok HI.out) hiT hjV hmem
                        have hcb := cc_bound (rus_ok HI.out) T V _ _ _ o2 o3 (Nat.le_refl _)
                        simp only at o1 o2 o3 o4 hcb hpx
                        obtain ⟨hRW, hcv, hfv⟩ := hP.row.cell hjV
                        have hcI : W.cell? ⟨N, i, none⟩ = some (.slice (some ⟨R, 0, none⟩) (V.length + 1) (V.length + 1)) := hP.mat.cur hc6
                        have hrow : ∃ r, W.cell? ⟨N, i + pf, none⟩ = some (.slice (some ⟨r, 0, none⟩) (V.length + 1) (V.length + 1)) ∧ W.cell? ⟨r, j + pt, none⟩ = some (.int .i64 (cc (rus xs) T V (i + pf) (j + pt))) := by
                          rcases Nat.eq_zero_or_pos pf with h0 | h0
                          · refine ⟨R, ?_, ?_⟩
                            · rw [h0, Nat.add_zero]; exact hcI
                            · rw [(hP.row.cell (j := j + pt) o3).2.1, hF.1 _ (by omega) o3, h0, Nat.add_zero]
                          · obtain ⟨r, _, h1, h2⟩ := hP.mat.at (i := i + pf) (j := j + pt) (by omega) o2 o3
                            exact ⟨r, h1, h2⟩
                        obtain ⟨r, hr1, hr2⟩ := hrow
                        have hGW : Boxed W gb 58 (.pointer (some ⟨G, 0, none⟩)) := (hP.kw.2 gb ⟨hgo, hgN⟩ hGb10.lt).trans hGb10
                        have hG6 := hP.kw.cell h610 hGlt
                        have hLm := leastF_top (fun p => p.c + cc (rus xs) T V (i + p.f) (j + p.t)) 1073741824 pre
                        rw [hF.2.2] at hcv
                        have HFS := Lib.hid hF.2.2
                        obtain ⟨lv, hlv⟩ : ∃ v, leastF (fun p => p.c + cc (rus xs) T V (i + p.f) (j + p.t)) 1073741824 pre = v := ⟨_, rfl⟩
                        obtain ⟨gv, hgv⟩ : ∃ v, cc (rus xs) T V (i + pf) (j + pt) = v := ⟨_, rfl⟩
                        rw [hlv] at hcv hLm HFS
                        rw [hgv] at hr2 hcb
                        have HGV := Lib.hid hgv
                        have HF2 := Lib.hid hF
                        have HB : ∀ W', Below W.heap.size W W' → Calls Tryd.prog 30 #[.pointer (some ⟨G, 0, none⟩), .int .i64 i, .int .i64 j, .agg #[.int .i64 pf, .int .i64 pt, .int .i64 pc, .int .i64 pk]] W' fun e w' => e = .returned (.int .i64 (pc + gv : Nat)) ∧ Below W'.heap.size W' w' := fun W' hW' =>
                          behind_c G N r T.length (T.length + 1) V.length i j gv ⟨pf, pt, pc, pk⟩ W' (bkc hW' hG6) (bkc hW' hr1) (bkc hW' hr2) o2 o3 a2 b2 o4 (by omega)
                        clear hlv hgv hF hmem hr1 hr2
                        gi_wp2_with fail
                        refine region_mixR [] 24 [(0, true), (1, true), (2, true), (3, true), (4, true), (5, true), (6, true), (7, true), (8, true), (9, true), (10, true), (11, true), (12, true), (13, true), (14, true), (15, true), (16, true), (17, true), (18, true), (19, true), (20, true), (21, true), (22, false), (23, true)] (by kernel_rfl) (by kernel_rfl) ?_
                        intro W4 hW4
                        have k0 := bkc hW4 hGW.cell
                        have k6 := bkc hW4 hG6
                        have k1 := bkc hW4 hP.bi.cell
                        have k2 := bkc hW4 hP.bj.cell
                        have kI := bkc hW4 hcI
                        have kv := bkc hW4 hcv
                        have x0 := bkc hW4 (hpx.cell 0)
                        have x1 := bkc hW4 (hpx.cell 1)
                        have x2 := bkc hW4 (hpx.cell 2)
                        have x3 := bkc hW4 (hpx.cell 3)
                        repeat (refine sS_q rfl (fun K hK => ?_); unfold takeS; go_simp; refine hK _ ?_; clear hK K)
                        refine sS_t rfl (fun K hK => ?_); go_simp
                        refine (HB _ hW4).mono ?_
                        rintro e w5 ⟨rfl, hb5⟩
                        go_simp
                        refine hK _ _ (.of (Kb.weak (Kb.below hb5) (by simp))) ?_; clear hK K
                        repeat (refine sS_q rfl (fun K hK => ?_); unfold takeS; go_simp; refine hK _ ?_; clear hK K)
                        refine sS_nil ?_
                        have hw5 : Below W.heap.size W w5 := Bst hW4 hb5
                        have kv5 := bkc hw5 hcv
                        have kf5 : w5.frozen? ⟨R, j, none⟩ = false := (hw5.frozen (p := ⟨R, j, none⟩) hRW).trans hfv
                        have kR5 : R < w5.heap.size := Nat.lt_of_lt_of_le hRW hw5.size
                        have hkf : ∀ v, Kb W (w5.setCell ⟨R, j, none⟩ v) [R] := fun v => ((Kb.below hw5).weak (by simp)).trans' (Kb.grown (grownBy_cell w5 R j v))
                        have hPw := hP.below hw5
                        clear k0 k6 k1 k2 kI kv x0 x1 x2 x3 HB hcv hfv hG6 hGW hcI hP
                        go_wp2
                        rw [onlyN_normal]
                        gi_wp2
                        refine ⟨keepsFrom_kb (hkf _) (by simp; omega), KwB.kb (hkf _) (by simp), ⟨_, hPw.put _ hBR hNR (by omega) (by omega) hmR hw4R, HF2.out.step ⟨pf, pt, pc, pk⟩ _ ?_⟩, u, boxed_kb hxb (hkf _) (by simp; omega)⟩
                        simp only
                        rw [HFS.out, HGV.out]
                        omega
                    case done =>
                      rintro D ys W hD rfl ⟨⟨f2, hP, hF⟩, _⟩ hKD
                      have hstep := cc_step (rus_ok HI.out) (T := T) (W := V) (i := i) (j := j) hiT hjV HLT.out
                      have HQ2 : Hid ((∀ j', j ≤ j' → j' ≤ V.length → f2 j' = cc (rus xs) T V i j') ∧ ∀ j', j' < j → f2 j' = 0) := by
                        refine ⟨fun j' h1 h2 => ?_, hF.2.1⟩
                        rcases Nat.lt_or_ge j j' with h | h
                        · exact hF.1 j' h h2
                        · obtain rfl : j' = j := by omega
                          rw [hF.2.2, ← hstep]
                      have hmk2 := hP.mks.cons (D := D) (fun h => by have := hDs D h; omega) (by omega) hKD
                      have bn := Boxed.new W 3 (.int .i64 ((j : Int) - 1))
                      have bna : Below W.heap.size W (W.alloc (.cells #[.int .i64 ((j : Int) - 1)] 3)) := Bal (Below.refl _ _) _
                      have d2 := hP.bj.cell
                      have hRW := (hP.row.cell (j := 0) (Nat.zero_le _)).1
                      clear hstep hF hPR bJ hP2 hKD
                      gi_wp2
                      refine ⟨⟨[_, _, _, _, _, _, _, _, _, _, _, _, _, _, _, _, _, _, _, _, _, _, _, _, _, _, _, _, _, _, _, _, _, _, _, _, _, _, _, _, _, _, _, _, _, _, _, _, _, _, _, _, _, _, _], (j : Int) - 1, j, W.heap.size, f2, D :: Ds4, ⟨by omega, by omega, by omega, bn, boxed_kb hP.bi (Kb.below bna) (by simp), hP.mat.below bna, Own.below hP.row bna, HQ2, hP.kw.trans (KwB.below bna), Bst hP.bel bna, hmk2.below bna⟩, FrEq.rf _⟩, ?_⟩
                      first | rw [boxN_eq bn, boxN_eq hbj4] | (simp only [Array.getD_eq_getD_getElem?]; show (boxN (.pointer (some ⟨W.heap.size, 0, none⟩)) _ + 1).toNat < (boxN (.pointer (some ⟨jb, 0, none⟩)) wq + 1).toNat; rw [boxN_eq bn, boxN_eq hbj4]) | (show (boxN (.pointer (some ⟨W.heap.size, 0, none⟩)) _ + 1).toNat < (boxN (.pointer (some ⟨jb, 0, none⟩)) wq + 1).toNat; rw [boxN_eq bn, boxN_eq hbj4])
                      omega
end Go.Proofs.YtmpoihejacklnaaDoor
