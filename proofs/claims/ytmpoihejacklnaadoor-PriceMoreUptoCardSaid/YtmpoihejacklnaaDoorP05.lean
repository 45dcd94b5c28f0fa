/- Parts of these proofs, one behind the other: Rf12, RowP, Pf0, Pf1. No condition. -/
import Derived.Test.YtmpoihejacklnaaDoorP04
import Derived.Test.YtmpoihejacklnaaDoorP03
import Derived.Test.YtmpoihejacklnaaDoorK806
import Derived.Test.YtmpoihejacklnaaDoorP01
import Derived.Test.YtmpoihejacklnaaDoorP02
/- errataref12.fill walked. No condition. -/
namespace Go.Proofs.YtmpoihejacklnaaDoor
open Go Go.RowKit
/-- The table of texts that is made, and the two rows that it grows. -/
structure Lp (base : Nat) (W : World) (X0 X : Nat) (l c1 c2 t v : Value) (v1 v2 : Value) (ss1 ss2 : List Sl) (ls1 ls2 : List (List Int)) : Prop where
  bx : Bx W X 69 #[l, c1, c2, t, v, .slice none 0 0]
  b0 : Bx W X0 69 #[.slice none 0 0, .slice none 0 0, .slice none 0 0, .slice none 0 0, .slice none 0 0, .slice none 0 0]
  ne : X0 ≠ X
  o1 : Own eSl base 50 W v1 ss1
  o2 : Own eSl base 50 W v2 ss2
  ap : ApartV v1 v2
  r1 : RwO base W ss1 ls1
  r2 : RwO base W ss2 ls2
section
variable {base : Nat} {W W' : World} {X0 X : Nat} {l c1 c2 t v v1 v2 : Value} {ss1 ss2 : List Sl} {ls1 ls2 : List (List Int)}
theorem Lp.below (h : Lp base W X0 X l c1 c2 t v v1 v2 ss1 ss2 ls1 ls2) (hb : Below W.heap.size W W') : Lp base W' X0 X l c1 c2 t v v1 v2 ss1 ss2 ls1 ls2 := ⟨h.bx.below hb, h.b0.below hb, h.ne, h.o1.below hb, h.o2.below hb, h.ap, h.r1.below hb, h.r2.below hb⟩
theorem Bx.ne {W : World} {X : Nat} {t e : TypeId} {vs : Array Value} (h : Bx W X t vs) {base : Nat} {α : Type} {E : Enc α} {v : Value} {xs : List α} (k : Own E base e W v xs) (hte : t ≠ e) {g : Nat} (hg : v.ownBlock = some g) : X ≠ g := fun hx => by
  subst hx
  obtain ⟨c, hc⟩ := k.cells hg
  rw [show W.heap[X]? = _ from h] at hc
  injection hc with hc
  injection hc with _ hc
  exact hte hc
theorem Lp.notI (h : Lp base W X0 X l c1 c2 t v v1 v2 ss1 ss2 ls1 ls2) : ∀ b ∈ v1.ownBlock.toList ++ v2.ownBlock.toList ++ [X], ∀ cs m, W.heap[b]? ≠ some (.cells cs 21 m) := by
  intro b hb cs m hc
  simp only [List.mem_append, List.mem_singleton, Option.mem_toList] at hb
  rcases hb with (hb | hb) | hb
  · obtain ⟨c, h1⟩ := h.o1.cells hb
    rw [h1] at hc; injection hc with hc; injection hc with _ hc; exact absurd hc (by decide)
  · obtain ⟨c, h1⟩ := h.o2.cells hb
    rw [h1] at hc; injection hc with hc; injection hc with _ hc; exact absurd hc (by decide)
  · subst hb
    rw [show W.heap[b]? = _ from h.bx] at hc; injection hc with hc; injection hc with _ hc; exact absurd hc (by decide)
theorem Lp.app1 (h : Lp base W X0 X l c1 c2 t v v1 v2 ss1 ss2 ls1 ls2) {v1' : Value} {s : Sl} {x : List Int} (hO : Own eSl base 50 W' v1' (ss1 ++ [s])) (hg : W.grownBy W' v1.ownBlock) (hm : Moved W v1 v1') (hn : s.n = x.length) (ho : Own (eInt .i32) base 21 W (vSl s) x) :
    Lp base W' X0 X l c1 c2 t v v1' v2 (ss1 ++ [s]) ss2 (ls1 ++ [x]) ls2 := by
  have hk : Kb W W' v1.ownBlock.toList := Kb.row hg fun k hk => by simp [hk]
  have hN : ∀ b ∈ v1.ownBlock.toList, ∀ cs m, W.heap[b]? ≠ some (.cells cs 21 m) := fun b hb => h.notI b (by simp only [List.mem_append]; exact .inl (.inl hb))
  obtain ⟨k1, k2⟩ := keepO h.o2 h.ap.symm hg hm
  refine ⟨h.bx.kb hk fun hX => ?_, h.b0.kb hk fun hX => h.b0.ne h.o1 (by decide) (by simpa using hX) rfl, h.ne, hO, k1, k2.symm, (h.r1.kb hk hN).snoc s x hn ((ho.kb hk) fun g hg' hgS => ?_), h.r2.kb hk hN⟩
  · exact h.bx.ne h.o1 (by decide) (by simpa using hX) rfl
  · obtain ⟨c, hc⟩ := ho.cells hg'
    exact hN g hgS _ _ hc
theorem Lp.app2 (h : Lp base W X0 X l c1 c2 t v v1 v2 ss1 ss2 ls1 ls2) {v2' : Value} {s : Sl} {x : List Int} (hO : Own eSl base 50 W' v2' (ss2 ++ [s])) (hg : W.grownBy W' v2.ownBlock) (hm : Moved W v2 v2') (hn : s.n = x.length) (ho : Own (eInt .i32) base 21 W (vSl s) x) :
    Lp base W' X0 X l c1 c2 t v v1 v2' ss1 (ss2 ++ [s]) ls1 (ls2 ++ [x]) := by
  have hk : Kb W W' v2.ownBlock.toList := Kb.row hg fun k hk => by simp [hk]
  have hN : ∀ b ∈ v2.ownBlock.toList, ∀ cs m, W.heap[b]? ≠ some (.cells cs 21 m) := fun b hb => h.notI b (by simp only [List.mem_append]; exact .inl (.inr hb))
  obtain ⟨k1, k2⟩ := keepO h.o1 h.ap hg hm
  refine ⟨h.bx.kb hk fun hX => ?_, h.b0.kb hk fun hX => h.b0.ne h.o2 (by decide) (by simpa using hX) rfl, h.ne, k1, hO, k2, h.r1.kb hk hN, (h.r2.kb hk hN).snoc s x hn ((ho.kb hk) fun g hg' hgS => ?_)⟩
  · exact h.bx.ne h.o2 (by decide) (by simpa using hX) rfl
  · obtain ⟨c, hc⟩ := ho.cells hg'
    exact hN g hgS _ _ hc
theorem Lp.setX (h : Lp base W X0 X l c1 c2 t v v1 v2 ss1 ss2 ls1 ls2) (i : Nat) (u : Value) (c1' c2' : Value) (hi : (#[l, c1, c2, t, v, .slice none 0 0] : Array Value).setIfInBounds i u = #[l, c1', c2', t, v, .slice none 0 0]) :
    Lp base (W.setCell ⟨X, i, none⟩ u) X0 X l c1' c2' t v v1 v2 ss1 ss2 ls1 ls2 := by
  have hk : Kb W (W.setCell ⟨X, i, none⟩ u) [X] := Kb.grown (grownBy_cell W X i u)
  have hN : ∀ b ∈ [X], ∀ cs m, W.heap[b]? ≠ some (.cells cs 21 m) := fun b hb => h.notI b (by simp only [List.mem_append]; exact .inr hb)
  refine ⟨?_, h.b0.kb hk (by simpa using h.ne), h.ne, h.o1.kb hk fun g hg hX => ?_, h.o2.kb hk fun g hg hX => ?_, h.ap, h.r1.kb hk hN, h.r2.kb hk hN⟩
  · have := h.bx.put i u
    rwa [hi] at this
  · exact h.bx.ne h.o1 (by decide) hg (by simpa using Eq.symm (List.mem_singleton.1 hX))
  · exact h.bx.ne h.o2 (by decide) hg (by simpa using Eq.symm (List.mem_singleton.1 hX))
end
/-- The two rows alone. -/
structure Lq (base : Nat) (W : World) (v1 v2 : Value) (ss1 ss2 : List Sl) (ls1 ls2 : List (List Int)) : Prop where
  o1 : Own eSl base 50 W v1 ss1
  o2 : Own eSl base 50 W v2 ss2
  r1 : RwO base W ss1 ls1
  r2 : RwO base W ss2 ls2
theorem Lp.setX5 {base : Nat} {W : World} {X0 X : Nat} {l c1 c2 t v v1 v2 : Value} {ss1 ss2 : List Sl} {ls1 ls2 : List (List Int)} (h : Lp base W X0 X l c1 c2 t v v1 v2 ss1 ss2 ls1 ls2) (u : Value) :
    Bx (W.setCell ⟨X, 5, none⟩ u) X 69 #[l, c1, c2, t, v, u] ∧ Bx (W.setCell ⟨X, 5, none⟩ u) X0 69 #[.slice none 0 0, .slice none 0 0, .slice none 0 0, .slice none 0 0, .slice none 0 0, .slice none 0 0] ∧ Lq base (W.setCell ⟨X, 5, none⟩ u) v1 v2 ss1 ss2 ls1 ls2 := by
  have hk : Kb W (W.setCell ⟨X, 5, none⟩ u) [X] := Kb.grown (grownBy_cell W X 5 u)
  have hN : ∀ b ∈ [X], ∀ cs m, W.heap[b]? ≠ some (.cells cs 21 m) := fun b hb => h.notI b (by simp only [List.mem_append]; exact .inr hb)
  refine ⟨?_, h.b0.kb hk (by simpa using h.ne), h.o1.kb hk fun g hg hX => ?_, h.o2.kb hk fun g hg hX => ?_, h.r1.kb hk hN, h.r2.kb hk hN⟩
  · exact h.bx.put 5 u
  · exact h.bx.ne h.o1 (by decide) hg (by simpa using Eq.symm (List.mem_singleton.1 hX))
  · exact h.bx.ne h.o2 (by decide) hg (by simpa using Eq.symm (List.mem_singleton.1 hX))
theorem info_is : ∃ i, Tryd.prog.info? 61 = some i ∧ i.zero = some (.slice none 0 0) ∧ i.size = 1 ∧ i.bytes = 24 := by
  have h : (Tryd.prog.info? 61).map (fun i => (i.zero, i.size, i.bytes)) = some (some (.slice none 0 0), 1, 24) := by kernel_rfl
  obtain ⟨i, h1, h2⟩ := Option.map_eq_some_iff.1 h
  simp only [Prod.mk.injEq] at h2
  exact ⟨i, h1, h2.1, h2.2.1, h2.2.2⟩
theorem info_i64p : ∃ i, Tryd.prog.info? 3 = some i ∧ i.zero = some (.int .i64 0) ∧ i.size = 1 ∧ i.bytes = 8 := by
  have h : (Tryd.prog.info? 3).map (fun i => (i.zero, i.size, i.bytes)) = some (some (.int .i64 0), 1, 8) := by kernel_rfl
  obtain ⟨i, h1, h2⟩ := Option.map_eq_some_iff.1 h
  simp only [Prod.mk.injEq] at h2
  exact ⟨i, h1, h2.1, h2.2.1, h2.2.2⟩
theorem SlA.kb {α : Type} {E : Enc α} {W W' : World} {b o : Nat} {xs : List α} {S : List Nat} (h : SlA E W (some ⟨b, o, none⟩) xs) (hk : Kb W W' S) (hb : b ∉ S) : SlA E W' (some ⟨b, o, none⟩) xs := fun j x hx => by
  obtain ⟨b', o', hA, hl, hc⟩ := h j x hx
  injection hA with hA
  injection hA with e1 e2
  subst e1 e2
  exact ⟨b, o, rfl, Nat.lt_of_lt_of_le hl hk.size, fun i u hu => hk.cell (hc i u hu) hb⟩
theorem dec_at {xs : List T3} (h : isE xs = 0) {k : Nat} (hk : k < xs.length) : decS xs[k].f = some (ruAt (rus xs) k).f ∧ decS xs[k].t = some (ruAt (rus xs) k).t := by
  obtain ⟨h1, _, h3, _⟩ := rchk_all ((isE_ok h).2 _ (List.getElem_mem hk))
  rw [rus_at hk]
  exact ⟨h1, h3⟩
theorem take_at {ls : List (List Int)} {k : Nat} {l : List Int} (h : ls[k]? = some l) : ls.take (k + 1) = ls.take k ++ [l] := by rw [List.take_add_one, h]; rfl
theorem hereL_len (xs : List T3) (T V : List Int) (i j : Nat) : (hereL xs T V i j).length ≤ xs.length + 4 := by
  rw [hereL_eq]
  have h1 : (hA T V i j).length ≤ 1 := by unfold hA; split <;> simp
  have h2 : (hC T V i j).length ≤ 1 := by unfold hC; split <;> simp
  have h3 : (hD T i).length ≤ 1 := by unfold hD; split <;> simp
  have h4 : (hE V j).length ≤ 1 := by unfold hE; split <;> simp
  have h5 := hB_len xs T V i j xs.length
  simp only [List.length_append]
  omega
theorem info_is32 : (Tryd.prog.info? 50).map (fun i => (i.zero, i.size, i.bytes)) = some (some (.slice none 0 0), 1, 24) := by kernel_rfl
def RflPost (w : World) (xs : List T3) (T V : List Int) (A At Av : Option Addr) (c ct cv : Nat) (e : Ending) (w' : World) : Prop :=
  ∃ F cf O co cb cs B, e = .returned (.agg #[.slice A xs.length c, .slice F xs.length cf, .slice O xs.length co, .slice At T.length ct, .slice Av V.length cv, .slice (some ⟨cb, 0, none⟩) (T.length + 1) (T.length + 1)]) ∧
    RwB (fun _ => True) (eInt .i32) w' F (froms xs) ∧ RwB (fun _ => True) (eInt .i32) w' O (tosL xs) ∧ Mat w' w.heap.size cb T.length V.length 0 B cs (cc (rus xs) T V) ∧ Below w.heap.size w w'
set_option maxRecDepth 100000 in
set_option maxHeartbeats 4000000 in
theorem rfill_c (A At Av : Option Addr) (c ct cv : Nat) (xs : List T3) (T V : List Int) (w : World) (hs : SlA eT3 w A xs) (hm : Small xs) (ht : SlA (eInt .i32) w At T) (hv : SlA (eInt .i32) w Av V)
    (hct : T.length ≤ ct) (hct2 : ct ≤ 9223372036854775807) (hcv : V.length ≤ cv) (hcv2 : cv ≤ 9223372036854775807) (hT : T.length ≤ 64) (hV : V.length ≤ 64) (hTr : ∀ r ∈ T, IsR r) (hVr : ∀ r ∈ V, IsR r) (hI : isE xs = 0) :
    Calls Tryd.prog 28 #[.slice A xs.length c, .slice At T.length ct, .slice Av V.length cv] w (RflPost w xs T V A At Av c ct cv) := by
  have hxl := (isE_ok hI).1
  have HI := Lib.hid hI
  have HM := Lib.hid hm
  have HTR := Lib.hid hTr
  have HVR := Lib.hid hVr
  clear hI hTr hVr hm
  obtain ⟨i1, hi1, hy0, hy1, hy2⟩ := info_is
  obtain ⟨i2, hi2, hy3, hy4, hy5⟩ := info_i64p
  go_enter Tryd.func28, Tryd.ntmps28
  go_wp2_with fail
  go_loopw [24] (fun sk wr => ∃ (k : Nat) (v1 v2 : Value) (ss1 ss2 : List Sl), sk = .int .i64 k ∧ k ≤ xs.length ∧ Lp w.heap.size wr w.heap.size (w.heap.size + 1) (.slice A xs.length c) v1 v2 (.slice At T.length ct) (.slice Av V.length cv) v1 v2 ss1 ss2 ((froms xs).take k) ((tosL xs).take k) ∧ Below w.heap.size w wr) (fun sk _ => xs.length - (intOf sk).toNat)
  case atStart =>
    refine ⟨0, .slice none 0 0, .slice none 0 0, [], [], rfl, by omega, ⟨?_, (Bx.new w _ _).below Bel, by omega, Own.nil _, Own.nil _, ApartV.none _, RwO.nil _ _, RwO.nil _ _⟩, Bel⟩
    have h := Bx.new (w.alloc (.cells #[.slice none 0 0, .slice none 0 0, .slice none 0 0, .slice none 0 0, .slice none 0 0, .slice none 0 0] 69)) 69 #[.slice A xs.length c, .slice none 0 0, .slice none 0 0, .slice At T.length ct, .slice Av V.length cv, .slice none 0 0]
    rwa [World.size_alloc] at h
  case round =>
    obtain ⟨k, v1, v2, ss1, ss2, rfl, hk, hL, hb⟩ := hrel
    rename World => wo
    by_cases hlt : k < xs.length
    · have hlt' : (k : Int) < xs.length := by omega
      obtain ⟨ba, oa, rfl, _, p1, p2, p3⟩ := hs.n3 (fun _ => rfl) hb k hlt
      obtain ⟨z1, z2⟩ := HM.out.at k hlt
      obtain ⟨df, dt⟩ := dec_at HI.out hlt
      obtain ⟨x, hx⟩ : ∃ x, xs[k] = x := ⟨_, rfl⟩
      rw [hx] at p1 p2 p3 z1 z2 df dt
      have hl3 := ru_t_len HI.out hlt
      have HF := Lib.hid (take_at (fromsL_at hlt))
      have HO := Lib.hid (take_at (tosL_at hlt))
      obtain ⟨lf, hlf⟩ : ∃ l, (ruAt (rus xs) k).f = l := ⟨_, rfl⟩
      obtain ⟨lt, hlt2⟩ : ∃ l, (ruAt (rus xs) k).t = l := ⟨_, rfl⟩
      rw [hlf] at df HF hl3
      rw [hlt2] at dt HO hl3
      have DF := Lib.hid df
      have DT := Lib.hid dt
      clear df dt hlf hlt2 hx
      have kB := B3.new wo x 49
      go_wp2_with fail
      refine (r1dec_own x.f _ (by omega)).mono ?_
      rintro e w4 ⟨hb4, h4⟩
      rw [DF.out] at h4
      obtain ⟨v4, rfl, hO4⟩ := h4
      have kB4 := kB.below hb4
      obtain ⟨_, e0, e1, e2⟩ := kB4
      go_wp2_with fail
      refine (r1dec_own x.t _ (by omega)).mono ?_
      rintro e w5 ⟨hb5, h5⟩
      rw [DT.out] at h5
      obtain ⟨v5, rfl, hO5⟩ := h5
      have hw5 : Below wo.heap.size wo w5 := Bst (Bst Bel hb4) hb5
      have hL5 := hL.below hw5
      have hb05 : Below w.heap.size w w5 := Bst hb hw5
      obtain ⟨A4, c4, rfl, m4, n4, _⟩ := hO4.slv
      obtain ⟨A5, c5, rfl, m5, n5, _⟩ := hO5.slv
      have hzo := hb.size
      have hz4 : wo.heap.size ≤ w4.heap.size := Nat.le_trans (by simp) hb4.size
      have hO4' : Own (eInt .i32) w.heap.size 21 w5 (vSl ⟨A4, lf.length, c4⟩) lf := (hO4.below hb5).lower (by simp; omega)
      have hO5' : Own (eInt .i32) w.heap.size 21 w5 (vSl ⟨A5, lt.length, c5⟩) lt := hO5.lower (by omega)
      have hsl1 : ss1.length = k := by rw [hL.r1.1]; simp [froms]; omega
      have hsl2 : ss2.length = k := by rw [hL.r2.1]; simp [tosL]; omega
      have HS1 := Lib.hid hsl1
      have HS2 := Lib.hid hsl2
      have hs1b : ss1.length ≤ 4096 := by omega
      have hs2b : ss2.length ≤ 4096 := by omega
      clear hO4 hO5 hsl1 hsl2 hL kB p1 p2 p3 e0 e1 e2
      go_wp2_with fail
      refine wp_cutG (fun a' w' => ∃ (u40 u41 u42 u43 u44 u45 u46 u47 u48 u49 u50 u51 u52 : Value) (v1' v2' : Value), a' = { tmps := #[.slice (some ⟨ba, oa, none⟩) xs.length c, .slice At T.length ct, .slice Av V.length cv, undef, undef, undef, .pointer (some ⟨w.heap.size, 0, none⟩), .pointer (some ⟨w.heap.size + 1, 0, none⟩), undef, .pointer (some ⟨wo.heap.size, 0, none⟩), .slice A4 lf.length c4, .int .i64 0, .slice A5 lt.length c5, .int .i64 0, undef, undef, undef, undef, .slice (some ⟨ba, oa, none⟩) xs.length c, .slice At T.length ct, .slice Av V.length cv, .agg #[.slice (some ⟨ba, oa, none⟩) xs.length c, .slice none 0 0, .slice none 0 0, .slice At T.length ct, .slice Av V.length cv, .slice none 0 0], .slice (some ⟨ba, oa, none⟩) xs.length c, .int .i64 xs.length, .int .i64 k, .bool true, .pointer (some ⟨ba, oa + k * 3, none⟩), .agg #[.string x.f, .string x.t, .int .i64 x.n], .tuple #[.slice A4 lf.length c4, .int .i64 0], .pointer (some ⟨wo.heap.size, 0, none⟩), .string x.f, .tuple #[.slice A4 lf.length c4, .int .i64 0], .slice A4 lf.length c4, .int .i64 0, .tuple #[.slice A5 lt.length c5, .int .i64 0], .pointer (some ⟨wo.heap.size, 1, none⟩), .string x.t, .tuple #[.slice A5 lt.length c5, .int .i64 0], .slice A5 lt.length c5, .int .i64 0, u40, u41, u42, u43, u44, u45, u46, u47, u48, u49, u50, u51, u52, undef, undef, undef, undef, undef, undef, undef, undef, undef, undef, undef, undef, undef, undef, undef, undef, undef, undef, undef, undef, undef, undef, undef, undef, undef, undef, undef, undef, undef, undef, undef, undef, undef, undef, undef, undef, undef, undef, undef, undef, undef, undef, undef, undef, undef, undef, undef, undef, undef, undef, undef, undef, undef, undef, undef, undef, undef, undef, undef, undef, undef, undef, undef, undef, undef, undef, undef, undef, undef, undef, undef, undef, undef, undef, undef, undef, undef, undef, undef, undef, undef, undef, undef, undef, undef, undef, undef, undef, undef, undef, undef, undef, undef, undef], defers := [] } ∧ Lp w.heap.size w' w.heap.size (w.heap.size + 1) (.slice (some ⟨ba, oa, none⟩) xs.length c) v1' v2' (.slice At T.length ct) (.slice Av V.length cv) v1' v2' (ss1 ++ [⟨A4, lf.length, c4⟩]) (ss2 ++ [⟨A5, lt.length, c5⟩]) ((froms xs).take (k + 1)) ((tosL xs).take (k + 1)) ∧ Below w.heap.size w w') ?_ ?_
      rotate_left
      · skip
        refine region_treeF (v1.ownBlock.toList ++ v2.ownBlock.toList) 11 (.q 0 (.q 1 (.q 2 (.q 5 (.q 6 (.q 7 (.two 3 (.two 4 (.q 10 (.t 8 (.t 9 .nil))) 8 (.t 4 (.q 10 (.t 9 .nil)))) 8 (.t 3 (.t 4 (.q 10 (.t 9 .nil))))))))))) (by kernel_rfl) (by kernel_rfl) ?_
        intro W hW
        have hLW := hL5.below hW
        have q4 := hO4'.below hW
        have q5 := hO5'.below hW
        have hbW := Bst hb05 hW
        have hXS : w.heap.size + 1 ∉ (v1.ownBlock.toList ++ v2.ownBlock.toList) := fun hx => by
          simp only [List.mem_append, Option.mem_toList] at hx
          rcases hx with hx | hx
          · exact hLW.bx.ne hLW.o1 (by decide) hx rfl
          · exact hLW.bx.ne hLW.o2 (by decide) hx rfl
        have x1 : ∀ Y : LaterS W (v1.ownBlock.toList ++ v2.ownBlock.toList), (World.extS W (v1.ownBlock.toList ++ v2.ownBlock.toList) Y).cell? ⟨w.heap.size + 1, 1, none⟩ = some v1 := fun Y => Y.h.cell (hLW.bx.cell 1) hXS
        have x2 : ∀ Y : LaterS W (v1.ownBlock.toList ++ v2.ownBlock.toList), (World.extS W (v1.ownBlock.toList ++ v2.ownBlock.toList) Y).cell? ⟨w.heap.size + 1, 2, none⟩ = some v2 := fun Y => Y.h.cell (hLW.bx.cell 2) hXS
        repeat (refine trF_q rfl (fun K hK => ?_); unfold takeS; go_simp; refine hK _ ?_; clear hK K)
        refine trF_two rfl rfl (fun K hK => ?_) (fun K hK => ?_)
        · have ha1 : Below W.heap.size W (W.alloc (.cells #[.slice A4 lf.length c4] 50)) := Bal (Below.refl _ _) _
          have hs1 : SlA eSl (W.alloc (.cells #[.slice A4 lf.length c4] 50)) (some ⟨W.heap.size, 0, none⟩) [⟨A4, lf.length, c4⟩] := SlA.new eSl _ [⟨A4, lf.length, c4⟩] _ _ rfl _ rfl
          go_simp
          refine hK _ _ (.of ((Kb.refl W _).trans' (Kb.weak (Kb.below ha1) (by simp)))) ?_; clear hK K
          generalize (W.alloc (.cells #[.slice A4 lf.length c4] 50)) = wa1 at ha1 hs1 ⊢
          have hL1 := hLW.below ha1
          have hk1 := (Kb.refl W _).trans' (Kb.weak (Kb.below ha1) (by simp) : Kb W wa1 (v1.ownBlock.toList ++ v2.ownBlock.toList))
          have q4_1 := q4.below ha1
          have q5_1 := q5.below ha1
          have hb_1 := Bst hbW ha1
          refine trF_two rfl rfl (fun K hK => ?_) (fun K hK => ?_)
          · rw [if_pos (wanted_free rfl _)]
            refine app_op (E := eSl) (w0 := w) _ _ 62 50 (.slice none 0 0) 24 rfl rfl Tryd.underlying62 info_is32 rfl (by decide) (by decide) _ ss1 [⟨A4, lf.length, c4⟩] _ _ _ rfl rfl rfl hL1.o1 hs1 hb_1 (by simp; omega) ?_
            intro v_2 w_2 HO2 hb_2 hg2 hm2
            obtain ⟨Az2, cz2, ez2, _, _, _⟩ := HO2.slv
            rw [List.length_append] at ez2
            simp only [List.length_cons, List.length_nil, Nat.zero_add] at ez2
            subst ez2
            have hL2 := hL1.app1 HO2 hg2 hm2 rfl q4_1
            have hk2 := hk1.trans' (Kb.weak (Kb.row hg2 (S := v1.ownBlock.toList) fun k hk => by have hk2 : v1.ownBlock = some k := hk; rw [hk2]; simp) (by simp; intro x hx; exact .inl hx) : Kb wa1 w_2 (v1.ownBlock.toList ++ v2.ownBlock.toList))
            refine hK _ _ (.of hk2) ?_; clear hK K
            have q4_2 := (Own.kb q4_1 (Kb.row hg2 (S := v1.ownBlock.toList) fun k hk => by have hk2 : v1.ownBlock = some k := hk; rw [hk2]; simp) (fun g hg hgS => by
              obtain ⟨cc1, hc1⟩ := Own.cells q4_1 hg
              exact hL1.notI g (by simp only [List.mem_append]; exact .inl (.inl hgS)) _ _ hc1))
            have q5_2 := (Own.kb q5_1 (Kb.row hg2 (S := v1.ownBlock.toList) fun k hk => by have hk2 : v1.ownBlock = some k := hk; rw [hk2]; simp) (fun g hg hgS => by
              obtain ⟨cc1, hc1⟩ := Own.cells q5_1 hg
              exact hL1.notI g (by simp only [List.mem_append]; exact .inl (.inl hgS)) _ _ hc1))
            repeat (refine trF_q rfl (fun K hK => ?_); unfold takeS; go_simp; refine hK _ ?_; clear hK K)
            refine trF_t rfl (fun K hK => ?_)
            have ha3 : Below w_2.heap.size w_2 (w_2.alloc (.cells #[.slice A5 lt.length c5] 50)) := Bal (Below.refl _ _) _
            have hs3 : SlA eSl (w_2.alloc (.cells #[.slice A5 lt.length c5] 50)) (some ⟨w_2.heap.size, 0, none⟩) [⟨A5, lt.length, c5⟩] := SlA.new eSl _ [⟨A5, lt.length, c5⟩] _ _ rfl _ rfl
            go_simp
            refine hK _ _ (.of (hk2.trans' (Kb.weak (Kb.below ha3) (by simp)))) ?_; clear hK K
            generalize (w_2.alloc (.cells #[.slice A5 lt.length c5] 50)) = wa3 at ha3 hs3 ⊢
            have hL3 := hL2.below ha3
            have hk3 := hk2.trans' (Kb.weak (Kb.below ha3) (by simp) : Kb w_2 wa3 (v1.ownBlock.toList ++ v2.ownBlock.toList))
            have q4_3 := q4_2.below ha3
            have q5_3 := q5_2.below ha3
            have hb_3 := Bst hb_2 ha3
            refine trF_t rfl (fun K hK => ?_)
            rw [if_pos (wanted_free rfl _)]
            refine app_op (E := eSl) (w0 := w) _ _ 62 50 (.slice none 0 0) 24 rfl rfl Tryd.underlying62 info_is32 rfl (by decide) (by decide) _ ss2 [⟨A5, lt.length, c5⟩] _ _ _ rfl rfl rfl hL3.o2 hs3 hb_3 (by simp; omega) ?_
            intro v_4 w_4 HO4 hb_4 hg4 hm4
            obtain ⟨Az4, cz4, ez4, _, _, _⟩ := HO4.slv
            rw [List.length_append] at ez4
            simp only [List.length_cons, List.length_nil, Nat.zero_add] at ez4
            subst ez4
            have hL4 := hL3.app2 HO4 hg4 hm4 rfl q5_3
            have hk4 := hk3.trans' (Kb.weak (Kb.row hg4 (S := v2.ownBlock.toList) fun k hk => by have hk2 : v2.ownBlock = some k := hk; rw [hk2]; simp) (by simp; intro x hx; exact .inr hx) : Kb wa3 w_4 (v1.ownBlock.toList ++ v2.ownBlock.toList))
            refine hK _ _ (.of hk4) ?_; clear hK K
            have q4_4 := (Own.kb q4_3 (Kb.row hg4 (S := v2.ownBlock.toList) fun k hk => by have hk2 : v2.ownBlock = some k := hk; rw [hk2]; simp) (fun g hg hgS => by
              obtain ⟨cc1, hc1⟩ := Own.cells q4_3 hg
              exact hL3.notI g (by simp only [List.mem_append]; exact .inl (.inr hgS)) _ _ hc1))
            have q5_4 := (Own.kb q5_3 (Kb.row hg4 (S := v2.ownBlock.toList) fun k hk => by have hk2 : v2.ownBlock = some k := hk; rw [hk2]; simp) (fun g hg hgS => by
              obtain ⟨cc1, hc1⟩ := Own.cells q5_3 hg
              exact hL3.notI g (by simp only [List.mem_append]; exact .inl (.inr hgS)) _ _ hc1))
            repeat (refine trF_q rfl (fun K hK => ?_); unfold takeS; go_simp; refine hK _ ?_; clear hK K)
            refine trF_nil ?_
            simp only [List.drop_succ_cons, List.drop_zero]
            have d1 : w_4.cell? ⟨w.heap.size + 1, 1, none⟩ = some v1 := hL4.bx.cell 1
            have d2 : w_4.cell? ⟨w.heap.size + 1, 2, none⟩ = some v2 := hL4.bx.cell 2
            have f1 : w_4.frozen? ⟨w.heap.size + 1, 1, none⟩ = false := hL4.bx.frozen 1
            have f2 : w_4.frozen? ⟨w.heap.size + 1, 2, none⟩ = false := hL4.bx.frozen 2
            have hLx := (hL4.setX 1 (.slice Az2 (ss1.length + 1) cz2) (.slice Az2 (ss1.length + 1) cz2) v2 rfl).setX 2 (.slice Az4 (ss2.length + 1) cz4) (.slice Az2 (ss1.length + 1) cz2) (.slice Az4 (ss2.length + 1) cz4) rfl
            go_wp2_with fail
            (repeat apply Exists.intro)
            refine ⟨rfl, ?_, Bsc (Bsc hb_4 (by first | (simp; done) | (simp; omega)) _) (by first | (simp; done) | (simp; omega)) _⟩
            rw [HF.out, HO.out]
            exact hLx
          · have ha6 : Below wa1.heap.size wa1 (wa1.alloc (.cells #[.slice A5 lt.length c5] 50)) := Bal (Below.refl _ _) _
            have hs6 : SlA eSl (wa1.alloc (.cells #[.slice A5 lt.length c5] 50)) (some ⟨wa1.heap.size, 0, none⟩) [⟨A5, lt.length, c5⟩] := SlA.new eSl _ [⟨A5, lt.length, c5⟩] _ _ rfl _ rfl
            have hn6 : ∀ g, v1.ownBlock = some g → wa1.heap.size ≠ g := fun g hg e => by
              rcases hL1.o1.put with h | ⟨g', h, hlt⟩
              · rw [h] at hg; cases hg
              · rw [h] at hg; injection hg with hg; omega
            go_simp
            refine hK _ _ (.of (hk1.trans' (Kb.weak (Kb.below ha6) (by simp)))) ?_; clear hK K
            generalize (wa1.alloc (.cells #[.slice A5 lt.length c5] 50)) = wa6 at ha6 hs6 ⊢
            have hL6 := hL1.below ha6
            have hk6 := hk1.trans' (Kb.weak (Kb.below ha6) (by simp) : Kb wa1 wa6 (v1.ownBlock.toList ++ v2.ownBlock.toList))
            have q4_6 := q4_1.below ha6
            have q5_6 := q5_1.below ha6
            have hb_6 := Bst hb_1 ha6
            have hs1_6 := hs1.below ha6
            refine trF_t rfl (fun K hK => ?_)
            rw [if_pos (wanted_free rfl _)]
            refine app_op (E := eSl) (w0 := w) _ _ 62 50 (.slice none 0 0) 24 rfl rfl Tryd.underlying62 info_is32 rfl (by decide) (by decide) _ ss1 [⟨A4, lf.length, c4⟩] _ _ _ rfl rfl rfl hL6.o1 hs1_6 hb_6 (by simp; omega) ?_
            intro v_7 w_7 HO7 hb_7 hg7 hm7
            obtain ⟨Az7, cz7, ez7, _, _, _⟩ := HO7.slv
            rw [List.length_append] at ez7
            simp only [List.length_cons, List.length_nil, Nat.zero_add] at ez7
            subst ez7
            have hL7 := hL6.app1 HO7 hg7 hm7 rfl q4_6
            have hk7 := hk6.trans' (Kb.weak (Kb.row hg7 (S := v1.ownBlock.toList) fun k hk => by have hk2 : v1.ownBlock = some k := hk; rw [hk2]; simp) (by simp; intro x hx; exact .inl hx) : Kb wa6 w_7 (v1.ownBlock.toList ++ v2.ownBlock.toList))
            refine hK _ _ (.of hk7) ?_; clear hK K
            have q4_7 := (Own.kb q4_6 (Kb.row hg7 (S := v1.ownBlock.toList) fun k hk => by have hk2 : v1.ownBlock = some k := hk; rw [hk2]; simp) (fun g hg hgS => by
              obtain ⟨cc1, hc1⟩ := Own.cells q4_6 hg
              exact hL6.notI g (by simp only [List.mem_append]; exact .inl (.inl hgS)) _ _ hc1))
            have q5_7 := (Own.kb q5_6 (Kb.row hg7 (S := v1.ownBlock.toList) fun k hk => by have hk2 : v1.ownBlock = some k := hk; rw [hk2]; simp) (fun g hg hgS => by
              obtain ⟨cc1, hc1⟩ := Own.cells q5_6 hg
              exact hL6.notI g (by simp only [List.mem_append]; exact .inl (.inl hgS)) _ _ hc1))
            have hs2_7 := SlA.kb hs6 (Kb.row hg7 (S := v1.ownBlock.toList) fun k hk => by have hk2 : v1.ownBlock = some k := hk; rw [hk2]; simp) (by simp; intro hx; exact hn6 _ hx rfl)
            repeat (refine trF_q rfl (fun K hK => ?_); unfold takeS; go_simp; refine hK _ ?_; clear hK K)
            refine trF_t rfl (fun K hK => ?_)
            rw [if_pos (wanted_free rfl _)]
            refine app_op (E := eSl) (w0 := w) _ _ 62 50 (.slice none 0 0) 24 rfl rfl Tryd.underlying62 info_is32 rfl (by decide) (by decide) _ ss2 [⟨A5, lt.length, c5⟩] _ _ _ rfl rfl rfl hL7.o2 hs2_7 hb_7 (by simp; omega) ?_
            intro v_8 w_8 HO8 hb_8 hg8 hm8
            obtain ⟨Az8, cz8, ez8, _, _, _⟩ := HO8.slv
            rw [List.length_append] at ez8
            simp only [List.length_cons, List.length_nil, Nat.zero_add] at ez8
            subst ez8
            have hL8 := hL7.app2 HO8 hg8 hm8 rfl q5_7
            have hk8 := hk7.trans' (Kb.weak (Kb.row hg8 (S := v2.ownBlock.toList) fun k hk => by have hk2 : v2.ownBlock = some k := hk; rw [hk2]; simp) (by simp; intro x hx; exact .inr hx) : Kb w_7 w_8 (v1.ownBlock.toList ++ v2.ownBlock.toList))
            refine hK _ _ (.of hk8) ?_; clear hK K
            have q4_8 := (Own.kb q4_7 (Kb.row hg8 (S := v2.ownBlock.toList) fun k hk => by have hk2 : v2.ownBlock = some k := hk; rw [hk2]; simp) (fun g hg hgS => by
              obtain ⟨cc1, hc1⟩ := Own.cells q4_7 hg
              exact hL7.notI g (by simp only [List.mem_append]; exact .inl (.inr hgS)) _ _ hc1))
            have q5_8 := (Own.kb q5_7 (Kb.row hg8 (S := v2.ownBlock.toList) fun k hk => by have hk2 : v2.ownBlock = some k := hk; rw [hk2]; simp) (fun g hg hgS => by
              obtain ⟨cc1, hc1⟩ := Own.cells q5_7 hg
              exact hL7.notI g (by simp only [List.mem_append]; exact .inl (.inr hgS)) _ _ hc1))
            repeat (refine trF_q rfl (fun K hK => ?_); unfold takeS; go_simp; refine hK _ ?_; clear hK K)
            refine trF_nil ?_
            simp only [List.drop_succ_cons, List.drop_zero]
            have d1 : w_8.cell? ⟨w.heap.size + 1, 1, none⟩ = some v1 := hL8.bx.cell 1
            have d2 : w_8.cell? ⟨w.heap.size + 1, 2, none⟩ = some v2 := hL8.bx.cell 2
            have f1 : w_8.frozen? ⟨w.heap.size + 1, 1, none⟩ = false := hL8.bx.frozen 1
            have f2 : w_8.frozen? ⟨w.heap.size + 1, 2, none⟩ = false := hL8.bx.frozen 2
            have hLx := (hL8.setX 1 (.slice Az7 (ss1.length + 1) cz7) (.slice Az7 (ss1.length + 1) cz7) v2 rfl).setX 2 (.slice Az8 (ss2.length + 1) cz8) (.slice Az7 (ss1.length + 1) cz7) (.slice Az8 (ss2.length + 1) cz8) rfl
            go_wp2_with fail
            (repeat apply Exists.intro)
            refine ⟨rfl, ?_, Bsc (Bsc hb_8 (by first | (simp; done) | (simp; omega)) _) (by first | (simp; done) | (simp; omega)) _⟩
            rw [HF.out, HO.out]
            exact hLx
        · have ha10 : Below W.heap.size W (W.alloc (.cells #[.slice A5 lt.length c5] 50)) := Bal (Below.refl _ _) _
          have hs10 : SlA eSl (W.alloc (.cells #[.slice A5 lt.length c5] 50)) (some ⟨W.heap.size, 0, none⟩) [⟨A5, lt.length, c5⟩] := SlA.new eSl _ [⟨A5, lt.length, c5⟩] _ _ rfl _ rfl
          have hn10 : ∀ g, v1.ownBlock = some g → W.heap.size ≠ g := fun g hg e => by
            rcases hLW.o1.put with h | ⟨g', h, hlt⟩
            · rw [h] at hg; cases hg
            · rw [h] at hg; injection hg with hg; omega
          go_simp
          refine hK _ _ (.of ((Kb.refl W _).trans' (Kb.weak (Kb.below ha10) (by simp)))) ?_; clear hK K
          generalize (W.alloc (.cells #[.slice A5 lt.length c5] 50)) = wa10 at ha10 hs10 ⊢
          have hL10 := hLW.below ha10
          have hk10 := (Kb.refl W _).trans' (Kb.weak (Kb.below ha10) (by simp) : Kb W wa10 (v1.ownBlock.toList ++ v2.ownBlock.toList))
          have q4_10 := q4.below ha10
          have q5_10 := q5.below ha10
          have hb_10 := Bst hbW ha10
          refine trF_t rfl (fun K hK => ?_)
          have ha11 : Below wa10.heap.size wa10 (wa10.alloc (.cells #[.slice A4 lf.length c4] 50)) := Bal (Below.refl _ _) _
          have hs11 : SlA eSl (wa10.alloc (.cells #[.slice A4 lf.length c4] 50)) (some ⟨wa10.heap.size, 0, none⟩) [⟨A4, lf.length, c4⟩] := SlA.new eSl _ [⟨A4, lf.length, c4⟩] _ _ rfl _ rfl
          go_simp
          refine hK _ _ (.of (hk10.trans' (Kb.weak (Kb.below ha11) (by simp)))) ?_; clear hK K
          generalize (wa10.alloc (.cells #[.slice A4 lf.length c4] 50)) = wa11 at ha11 hs11 ⊢
          have hL11 := hL10.below ha11
          have hk11 := hk10.trans' (Kb.weak (Kb.below ha11) (by simp) : Kb wa10 wa11 (v1.ownBlock.toList ++ v2.ownBlock.toList))
          have q4_11 := q4_10.below ha11
          have q5_11 := q5_10.below ha11
          have hb_11 := Bst hb_10 ha11
          have hs2_11 := hs10.below ha11
          refine trF_t rfl (fun K hK => ?_)
          rw [if_pos (wanted_free rfl _)]
          refine app_op (E := eSl) (w0 := w) _ _ 62 50 (.slice none 0 0) 24 rfl rfl Tryd.underlying62 info_is32 rfl (by decide) (by decide) _ ss1 [⟨A4, lf.length, c4⟩] _ _ _ rfl rfl rfl hL11.o1 hs11 hb_11 (by simp; omega) ?_
          intro v_12 w_12 HO12 hb_12 hg12 hm12
          obtain ⟨Az12, cz12, ez12, _, _, _⟩ := HO12.slv
          rw [List.length_append] at ez12
          simp only [List.length_cons, List.length_nil, Nat.zero_add] at ez12
          subst ez12
          have hL12 := hL11.app1 HO12 hg12 hm12 rfl q4_11
          have hk12 := hk11.trans' (Kb.weak (Kb.row hg12 (S := v1.ownBlock.toList) fun k hk => by have hk2 : v1.ownBlock = some k := hk; rw [hk2]; simp) (by simp; intro x hx; exact .inl hx) : Kb wa11 w_12 (v1.ownBlock.toList ++ v2.ownBlock.toList))
          refine hK _ _ (.of hk12) ?_; clear hK K
          have q4_12 := (Own.kb q4_11 (Kb.row hg12 (S := v1.ownBlock.toList) fun k hk => by have hk2 : v1.ownBlock = some k := hk; rw [hk2]; simp) (fun g hg hgS => by
            obtain ⟨cc1, hc1⟩ := Own.cells q4_11 hg
            exact hL11.notI g (by simp only [List.mem_append]; exact .inl (.inl hgS)) _ _ hc1))
          have q5_12 := (Own.kb q5_11 (Kb.row hg12 (S := v1.ownBlock.toList) fun k hk => by have hk2 : v1.ownBlock = some k := hk; rw [hk2]; simp) (fun g hg hgS => by
            obtain ⟨cc1, hc1⟩ := Own.cells q5_11 hg
            exact hL11.notI g (by simp only [List.mem_append]; exact .inl (.inl hgS)) _ _ hc1))
          have hs2_12 := SlA.kb hs2_11 (Kb.row hg12 (S := v1.ownBlock.toList) fun k hk => by have hk2 : v1.ownBlock = some k := hk; rw [hk2]; simp) (by simp; intro hx; exact hn10 _ hx rfl)
          repeat (refine trF_q rfl (fun K hK => ?_); unfold takeS; go_simp; refine hK _ ?_; clear hK K)
          refine trF_t rfl (fun K hK => ?_)
          rw [if_pos (wanted_free rfl _)]
          refine app_op (E := eSl) (w0 := w) _ _ 62 50 (.slice none 0 0) 24 rfl rfl Tryd.underlying62 info_is32 rfl (by decide) (by decide) _ ss2 [⟨A5, lt.length, c5⟩] _ _ _ rfl rfl rfl hL12.o2 hs2_12 hb_12 (by simp; omega) ?_
          intro v_13 w_13 HO13 hb_13 hg13 hm13
          obtain ⟨Az13, cz13, ez13, _, _, _⟩ := HO13.slv
          rw [List.length_append] at ez13
          simp only [List.length_cons, List.length_nil, Nat.zero_add] at ez13
          subst ez13
          have hL13 := hL12.app2 HO13 hg13 hm13 rfl q5_12
          have hk13 := hk12.trans' (Kb.weak (Kb.row hg13 (S := v2.ownBlock.toList) fun k hk => by have hk2 : v2.ownBlock = some k := hk; rw [hk2]; simp) (by simp; intro x hx; exact .inr hx) : Kb w_12 w_13 (v1.ownBlock.toList ++ v2.ownBlock.toList))
          refine hK _ _ (.of hk13) ?_; clear hK K
          have q4_13 := (Own.kb q4_12 (Kb.row hg13 (S := v2.ownBlock.toList) fun k hk => by have hk2 : v2.ownBlock = some k := hk; rw [hk2]; simp) (fun g hg hgS => by
            obtain ⟨cc1, hc1⟩ := Own.cells q4_12 hg
            exact hL12.notI g (by simp only [List.mem_append]; exact .inl (.inr hgS)) _ _ hc1))
          have q5_13 := (Own.kb q5_12 (Kb.row hg13 (S := v2.ownBlock.toList) fun k hk => by have hk2 : v2.ownBlock = some k := hk; rw [hk2]; simp) (fun g hg hgS => by
            obtain ⟨cc1, hc1⟩ := Own.cells q5_12 hg
            exact hL12.notI g (by simp only [List.mem_append]; exact .inl (.inr hgS)) _ _ hc1))
          repeat (refine trF_q rfl (fun K hK => ?_); unfold takeS; go_simp; refine hK _ ?_; clear hK K)
          refine trF_nil ?_
          simp only [List.drop_succ_cons, List.drop_zero]
          have d1 : w_13.cell? ⟨w.heap.size + 1, 1, none⟩ = some v1 := hL13.bx.cell 1
          have d2 : w_13.cell? ⟨w.heap.size + 1, 2, none⟩ = some v2 := hL13.bx.cell 2
          have f1 : w_13.frozen? ⟨w.heap.size + 1, 1, none⟩ = false := hL13.bx.frozen 1
          have f2 : w_13.frozen? ⟨w.heap.size + 1, 2, none⟩ = false := hL13.bx.frozen 2
          have hLx := (hL13.setX 1 (.slice Az12 (ss1.length + 1) cz12) (.slice Az12 (ss1.length + 1) cz12) v2 rfl).setX 2 (.slice Az13 (ss2.length + 1) cz13) (.slice Az12 (ss1.length + 1) cz12) (.slice Az13 (ss2.length + 1) cz13) rfl
          go_wp2_with fail
          (repeat apply Exists.intro)
          refine ⟨rfl, ?_, Bsc (Bsc hb_13 (by first | (simp; done) | (simp; omega)) _) (by first | (simp; done) | (simp; omega)) _⟩
          rw [HF.out, HO.out]
          exact hLx
      rintro _ W8 ⟨u40, u41, u42, u43, u44, u45, u46, u47, u48, u49, u50, u51, u52, v1', v2', rfl, hL8, hb8⟩
      go_wp2
      exact ⟨⟨k + 1, v1', v2', _, _, by go_num, by omega, hL8, hb8⟩, by simp [intOf]; omega⟩
    · obtain rfl : k = xs.length := by omega
      have hlt' : ¬ (xs.length : Int) < xs.length := by omega
      rw [List.take_of_length_le (by simp [froms])] at hL
      rw [List.take_of_length_le (by simp [tosL])] at hL
      have hX := hL.bx.lt
      go_wp2_with (at_make; go_loud (refine wpList_make_full _ rfl _ _ 63 rfl w.heap.size 61 i1 (.slice none 0 0) 1 Tryd.underlying63 hi1 hy0 hy1 .i64 .i64 _ _ (T.length + 1) rfl rfl (by push_cast; rfl) (by push_cast; rfl) (by rw [hy2]; omega) (by simp only [maxLen]; omega) hb.size ?_; intro w1 HO1 hg1; have hb1 : Below wo.heap.size wo w1 := Bgr (Below.refl _ _) hg1 (by simp); have hL1 := hL.below hb1; have x5 := hL1.bx.cell 5; have y5 := hL1.bx.frozen 5; simp at x5))
      have hS1 := own_madeS _ _ _ _ HO1
      have hcb : wo.heap.size < w1.heap.size := by
        rcases hS1.put with h | ⟨g, h, hl⟩
        · simp [Value.ownBlock] at h
        · simp only [Value.ownBlock] at h; injection h with h; omega
      have hL9 := hL1.setX5 (.slice (some ⟨wo.heap.size, 0, none⟩) (T.length + 1) (T.length + 1))
      obtain ⟨b9, p9, q9⟩ := hL9
      obtain ⟨F, cf, rfl, hF9⟩ := q9.r1.rw q9.o1
      obtain ⟨O, co, rfl, hO9⟩ := q9.r2.rw q9.o2
      have hfl : (froms xs).length = xs.length := by simp [froms]
      have htl : (tosL xs).length = xs.length := by simp [tosL]
      rw [hfl, htl] at b9
      clear hfl htl
      have hS9 := hS1.kept (grownBy_cell w1 (w.heap.size + 1) 5 (.slice (some ⟨wo.heap.size, 0, none⟩) (T.length + 1) (T.length + 1))) (.inr (by simp only [Value.ownBlock]; intro e; injection e with e; omega))
      obtain ⟨N, hN⟩ : ∃ N, wo.heap.size = N := ⟨_, rfl⟩
      rw [hN] at hS9 b9 hcb p9 hF9 hO9 ⊢
      have hXN : w.heap.size + 1 < N := by omega
      have hb9 : Below w.heap.size w (w1.setCell ⟨w.heap.size + 1, 5, none⟩ (.slice (some ⟨N, 0, none⟩) (T.length + 1) (T.length + 1))) := Bsc (Bst hb hb1) (by first | (simp; done) | (simp; omega)) _
      have hz9 : N < (w1.setCell ⟨w.heap.size + 1, 5, none⟩ (.slice (some ⟨N, 0, none⟩) (T.length + 1) (T.length + 1))).heap.size := by simpa using hcb
      generalize w1.setCell ⟨w.heap.size + 1, 5, none⟩ (.slice (some ⟨N, 0, none⟩) (T.length + 1) (T.length + 1)) = w9 at *
      have hM9 : Mat w9 w.heap.size N T.length V.length (T.length + 1) (N + 1) (List.replicate (T.length + 1) ⟨none, 0, 0⟩) (cc (rus xs) T V) := ⟨hS9, by simp, fun i h1 h2 => absurd h1 (by omega)⟩
      obtain ⟨M9, hM9s⟩ : ∃ M, w9.heap.size = M := ⟨_, rfl⟩
      rw [hM9s] at hz9
      have HC : Hid (∀ b : Nat, b < w9.heap.size → (∃ c e', w9.heap[b]? = some (.cells c e' (0, 0)) ∧ (e' = 50 ∨ e' = 21)) → (b < M9 ∧ b ≠ N) ∧ b ≠ w.heap.size) := fun b hb ⟨cc1, e', hc1, he⟩ => by
        refine ⟨⟨by omega, fun hx => ?_⟩, fun hx => ?_⟩
        · subst hx
          obtain ⟨c2, hc2⟩ := Own.cells hS9 (g := b) rfl
          rw [hc1] at hc2
          injection hc2 with hc2
          injection hc2 with _ hc2
          rcases he with rfl | rfl <;> exact absurd hc2 (by decide)
        · subst hx
          have hc2 : w9.heap[w.heap.size]? = _ := p9
          rw [hc1] at hc2
          injection hc2 with hc2
          injection hc2 with _ hc2
          rcases he with rfl | rfl <;> exact absurd hc2 (by decide)
      have hFc := hF9.weak HC.out
      have hOc := hO9.weak HC.out
      have hXB : w.heap.size + 1 < M9 ∧ w.heap.size + 1 ≠ N := by omega
      have h0B : w.heap.size < M9 ∧ w.heap.size ≠ N := by omega
      clear hF9 hO9
      clear hL hL1 HO1 hg1 hS1 x5 y5 hS9 q9 hb1
      have hwN : w.heap.size ≤ N := by omega
      go_loopw [14] (fun s14 wr => ∃ (z : Int) (k B : Nat) (cs : List Sl), s14 = .int .i64 z ∧ z + 1 = (k : Int) ∧ k ≤ T.length + 1 ∧ Mat wr w.heap.size N T.length V.length k B cs (cc (rus xs) T V) ∧ B ≤ wr.heap.size ∧ KwB (fun b => b < M9 ∧ b ≠ N) w9 wr ∧ Below w.heap.size w wr) (fun s14 _ => (intOf s14 + 1).toNat)
      case atStart => exact ⟨T.length, T.length + 1, N + 1, _, rfl, by omega, by omega, hM9, by omega, KwB.refl _ _, hb9⟩
      case round =>
        obtain ⟨z, k, B, cs, rfl, hz, hk, hMk, hBs, hKw, hbr⟩ := hrel
        rename World => wl
        by_cases hz0 : z < 0
        · obtain rfl : k = 0 := by omega
          have hz1 : ¬ (0 : Int) ≤ z := by omega
          have eX : Bx wl (w.heap.size + 1) 69 _ := (hKw.2 _ hXB b9.lt).trans b9
          have e0 : Bx wl w.heap.size 69 _ := (hKw.2 _ h0B p9.lt).trans p9
          have h0 := eX.cell 0
          have h1 := eX.cell 1
          have h2 := eX.cell 2
          have h3 := eX.cell 3
          have h4 := eX.cell 4
          have h5 := eX.cell 5
          have g0 := e0.cell 0
          have g1 := e0.cell 1
          have g2 := e0.cell 2
          have g3 := e0.cell 3
          have g4 := e0.cell 4
          have g5 := e0.cell 5
          have f0 := e0.frozen 0
          have f1 := e0.frozen 1
          have f2 := e0.frozen 2
          have f3 := e0.frozen 3
          have f4 := e0.frozen 4
          have f5 := e0.frozen 5
          simp at h0 h1 h2 h3 h4 h5 g0 g1 g2 g3 g4 g5
          have ef := (((((e0.put 0 (.slice A xs.length c)).put 1 (.slice F xs.length cf)).put 2 (.slice O xs.length co)).put 3 (.slice At T.length ct)).put 4 (.slice Av V.length cv)).put 5 (.slice (some ⟨N, 0, none⟩) (T.length + 1) (T.length + 1))
          have kf := (((((Kb.grown (grownBy_cell wl w.heap.size 0 (.slice A xs.length c))).trans' (Kb.grown (grownBy_cell _ w.heap.size 1 (.slice F xs.length cf)))).trans' (Kb.grown (grownBy_cell _ w.heap.size 2 (.slice O xs.length co)))).trans' (Kb.grown (grownBy_cell _ w.heap.size 3 (.slice At T.length ct)))).trans' (Kb.grown (grownBy_cell _ w.heap.size 4 (.slice Av V.length cv)))).trans' (Kb.grown (grownBy_cell _ w.heap.size 5 (.slice (some ⟨N, 0, none⟩) (T.length + 1) (T.length + 1))))
          go_wp2_with fail
          generalize ((((((wl.setCell ⟨w.heap.size, 0, none⟩ (.slice A xs.length c)).setCell ⟨w.heap.size, 1, none⟩ (.slice F xs.length cf)).setCell ⟨w.heap.size, 2, none⟩ (.slice O xs.length co)).setCell ⟨w.heap.size, 3, none⟩ (.slice At T.length ct)).setCell ⟨w.heap.size, 4, none⟩ (.slice Av V.length cv)).setCell ⟨w.heap.size, 5, none⟩ (.slice (some ⟨N, 0, none⟩) (T.length + 1) (T.length + 1))) = Wf at ef kf ⊢
          clear h0 h1 h2 h3 h4 h5 g0 g1 g2 g3 g4 g5 f0 f1 f2 f3 f4 f5 eX e0
          have g0 := ef.cell 0
          have g1 := ef.cell 1
          have g2 := ef.cell 2
          have g3 := ef.cell 3
          have g4 := ef.cell 4
          have g5 := ef.cell 5
          simp at g0 g1 g2 g3 g4 g5
          refine bodyPost_ret (v := .agg #[.slice A xs.length c, .slice F xs.length cf, .slice O xs.length co, .slice At T.length ct, .slice Av V.length cv, .slice (some ⟨N, 0, none⟩) (T.length + 1) (T.length + 1)]) (by simp [results, Tryd.f28, go_sem, g0, g1, g2, g3, g4, g5]) rfl ?_
          have hK2 : KwB (fun b => (b < M9 ∧ b ≠ N) ∧ b ≠ w.heap.size) w9 Wf := (hKw.weak fun _ h => h.1).trans (KwB.kb kf (by simp))
          exact ⟨F, cf, O, co, N, cs, B, rfl, (hFc.kw hK2).weak fun _ _ _ => trivial, (hOc.kw hK2).weak fun _ _ _ => trivial, hMk.low kf (by omega), kf.to (by simp) hbr (Nat.le_refl _)⟩
        · obtain ⟨i, rfl⟩ : ∃ i : Nat, z = (i : Int) := ⟨z.toNat, by omega⟩
          obtain rfl : k = i + 1 := by omega
          have hz1 : (0 : Int) ≤ i := by omega
          have hiT : (i : Int) < T.length + 1 := by omega
          have hcX : wl.cell? ⟨w.heap.size + 1, 5, none⟩ = some (.slice (some ⟨N, 0, none⟩) (T.length + 1) (T.length + 1)) := hKw.cell (b9.cell 5) hXB
          go_wp2_with fail
          refine region_treeS [N] (.q 0 (.q 1 (.q 2 (.q 3 (.q 4 (.q 5 (.t 6 (.q 7 (.t 8 .nil))))))))) (by kernel_rfl) (by kernel_rfl) ?_
          intro Wm hWm
          have hcX2 : ∀ Y : LaterS Wm [N], (World.extS Wm [N] Y).cell? ⟨w.heap.size + 1, 5, none⟩ = some (.slice (some ⟨N, 0, none⟩) (T.length + 1) (T.length + 1)) := fun Y => Y.h.cell (bkc hWm hcX) (by simp; omega)
          have hMm := hMk.below hWm
          repeat (refine trS_q rfl (fun K hK => ?_); unfold takeS; go_simp; refine hK _ ?_; clear hK K)
          refine trS_t rfl (fun K hK => ?_); rw [if_pos (wanted_free rfl _)]
          refine make_opO _ _ _ 61 rfl w.heap.size 3 i2 (.int .i64 0) 1 Tryd.underlying61 hi2 hy3 hy4 .i64 .i64 _ _ (V.length + 1) rfl rfl (by push_cast; exact IntWalk.i64_in _ (by omega)) (by push_cast; exact IntWalk.i64_in _ (by omega)) (by rw [hy5]; omega) (by simp only [maxLen]; omega) (by have := hbr.size; have := hWm.size; omega) ?_
          intro w5 HO5 hg5
          have hb5 : Below Wm.heap.size Wm w5 := Bgr (Below.refl _ _) hg5 (by simp)
          refine hK _ _ (.of (Kb.weak (Kb.below hb5) (by simp))) ?_; clear hK K
          have hR5 := RowC.zero (own_madeI _ _ _ _ HO5)
          have hM5 := hMm.below hb5
          obtain ⟨hs1, ⟨vs, hs2⟩, hs3⟩ := hM5.slot (i := i) (by omega)
          repeat (refine trS_q rfl (fun K hK => ?_); unfold takeS; go_simp; refine hK _ ?_; clear hK K)
          have hWN : M9 ≤ Wm.heap.size := by
            have := hKw.1
            have := hWm.size
            omega
          refine trS_t rfl (fun K hK => ?_); go_simp
          refine hK _ _ (.of ((Kb.weak (Kb.below hb5) (by simp)).trans' (Kb.grown (grownBy_cell w5 N i _)))) ?_; clear hK K
          refine trS_nil ?_
          rw [noP_normal]
          obtain ⟨cs6, hM6, hc6⟩ := Mat.lay (m := V.length) hM5 i Wm.heap.size (by omega) (by omega) (by have := hWm.size; omega)
          have hR6 : RowC (w5.setCell ⟨N, i, none⟩ (.slice (some ⟨Wm.heap.size, 0, none⟩) (V.length + 1) (V.length + 1))) w.heap.size Wm.heap.size V.length fun _ => 0 := Own.kept hR5 (grownBy_cell w5 N i _) (.inr (by simp only [Value.ownBlock]; intro e; injection e with e; omega))
          have hk6 : KwB (fun b => b < M9 ∧ b ≠ N) w9 (w5.setCell ⟨N, i, none⟩ (.slice (some ⟨Wm.heap.size, 0, none⟩) (V.length + 1) (V.length + 1))) := hKw.trans ((KwB.below hWm).trans ((KwB.below hb5).trans (KwB.kb (Kb.grown (grownBy_cell w5 N i _)) (by simp))))
          have hb6 : Below w.heap.size w (w5.setCell ⟨N, i, none⟩ (.slice (some ⟨Wm.heap.size, 0, none⟩) (V.length + 1) (V.length + 1))) := Bsc (Bst hbr (Bst hWm hb5)) (by show w.heap.size ≤ N; omega) _
          have hB6 : B ≤ Wm.heap.size := by have := hWm.size; omega
          have hs6 : Wm.heap.size < (w5.setCell ⟨N, i, none⟩ (.slice (some ⟨Wm.heap.size, 0, none⟩) (V.length + 1) (V.length + 1))).heap.size := (hR6.cell (Nat.zero_le _)).1
          obtain ⟨R, hR⟩ : ∃ R, Wm.heap.size = R := ⟨_, rfl⟩
          rw [hR] at hM6 hc6 hR6 hk6 hb6 hB6 hs6 hWN ⊢
          have hNR : N < R := by omega
          generalize w5.setCell ⟨N, i, none⟩ (.slice (some ⟨R, 0, none⟩) (V.length + 1) (V.length + 1)) = w6 at *
          clear hM5 hR5 hs1 hs2 hs3 hb5 hg5 HO5 hMm hcX2 hMk hKw hbr hcX hBs
          go_wp2
          go_loopw [15] (fun s15 wr => ∃ (z : Int) (q : Nat) (f : Nat → Int), s15 = .int .i64 z ∧ z + 1 = (q : Int) ∧ q ≤ V.length + 1 ∧ Mat wr w.heap.size N T.length V.length (i + 1) B cs6 (cc (rus xs) T V) ∧ RowC wr w.heap.size R V.length f ∧ Hid ((∀ j, q ≤ j → j ≤ V.length → f j = cc (rus xs) T V i j) ∧ ∀ j, j < q → f j = 0) ∧ R < wr.heap.size ∧ KwB (fun b => b < M9 ∧ b ≠ N) w9 wr ∧ Below w.heap.size w wr) (fun s15 _ => (intOf s15 + 1).toNat)
          case atStart => exact ⟨V.length, V.length + 1, _, rfl, by omega, by omega, hM6, hR6, ⟨fun j h1 h2 => absurd h1 (by omega), fun _ _ => rfl⟩, hs6, hk6, hb6⟩
          case round =>
            obtain ⟨y, q, f, rfl, hy, hq, hMq, hRq, HQ, hsq, hKq, hbq⟩ := hrel
            rename World => wj
            by_cases hy0 : y < 0
            · obtain rfl : q = 0 := by omega
              have hy1 : ¬ (0 : Int) ≤ y := by omega
              have hMd := hMq.done (i := i) rfl hc6 hRq (fun j hj => HQ.out.1 j (Nat.zero_le _) hj) hB6 hNR
              go_wp2
              exact ⟨⟨(i : Int) - 1, i, R + 1, cs6, by go_num, by omega, by omega, hMd, by omega, hKq, hbq⟩, by first | (simp [intOf]; done) | (simp [intOf]; omega)⟩
            · obtain ⟨j, rfl⟩ : ∃ j : Nat, y = (j : Int) := ⟨y.toNat, by omega⟩
              obtain rfl : q = j + 1 := by omega
              have hy1 : (0 : Int) ≤ j := by omega
              have hjV : (j : Int) < V.length + 1 := by omega
              by_cases hend : i = T.length ∧ j = V.length
              · obtain ⟨h1, h2⟩ := hend
                have e1 : ((i : Int) == T.length) = true := by rw [h1]; simp
                have e2 : ((j : Int) == V.length) = true := by rw [h2]; simp
                have HQ2 : Hid ((∀ j', j ≤ j' → j' ≤ V.length → f j' = cc (rus xs) T V i j') ∧ ∀ j', j' < j → f j' = 0) := ⟨fun j' h3 h4 => by
                  obtain rfl : j' = V.length := by omega
                  rw [HQ.out.2 _ (by omega), h1, cc_end]; rfl, fun j' h => HQ.out.2 j' (by omega)⟩
                clear h1 h2
                go_wp2
                exact ⟨⟨(j : Int) - 1, j, f, by go_num, by omega, by omega, hMq, hRq, HQ2, hsq, hKq, hbq⟩, by first | (simp [intOf]; done) | (simp [intOf]; omega)⟩
              · have hcX : wj.cell? ⟨w.heap.size + 1, 5, none⟩ = some (.slice (some ⟨N, 0, none⟩) (T.length + 1) (T.length + 1)) := hKq.cell (b9.cell 5) hXB
                have hcI : wj.cell? ⟨N, i, none⟩ = some (.slice (some ⟨R, 0, none⟩) (V.length + 1) (V.length + 1)) := hMq.cur hc6
                obtain ⟨_, hcJ, hfJ⟩ := hRq.cell (j := j) (by omega)
                have hor : ((i : Int) == T.length) = false ∨ (((i : Int) == T.length) = true ∧ ((j : Int) == V.length) = false) := by
                  by_cases h1 : i = T.length
                  · refine .inr ⟨by rw [h1]; simp, ?_⟩
                    rw [beq_eq_false_iff_ne]; omega
                  · refine .inl ?_
                    rw [beq_eq_false_iff_ne]; omega
                rcases hor with e1 | ⟨e1, e2⟩
                all_goals
                  have hRX : ¬ w.heap.size + 1 = R := by omega
                  have hRX2 : ¬ R = w.heap.size + 1 := by omega
                  have hc1 : wj.cell? ⟨w.heap.size + 1, 1, none⟩ = some (.slice F xs.length cf) := hKq.cell (b9.cell 1) hXB
                  have hc2 : wj.cell? ⟨w.heap.size + 1, 2, none⟩ = some (.slice O xs.length co) := hKq.cell (b9.cell 2) hXB
                  have hkS := Kb.grown (grownBy_cell wj R j (.int .i64 1073741824))
                  have hKs : KwB (fun b => b < M9 ∧ b ≠ N) w9 (wj.setCell ⟨R, j, none⟩ (.int .i64 1073741824)) := hKq.trans (KwB.kb hkS (by simp; omega))
                  have hbs : Below w.heap.size w (wj.setCell ⟨R, j, none⟩ (.int .i64 1073741824)) := Bsc hbq (by show w.heap.size ≤ R; omega) _
                  have hMs := hMq.kb hkS hB6 (by omega)
                  have hRs := hRq.put j 1073741824
                  have hss : R < (wj.setCell ⟨R, j, none⟩ (.int .i64 1073741824)).heap.size := by simpa using hsq
                  go_wp2_with fail
                  generalize wj.setCell ⟨R, j, none⟩ (.int .i64 1073741824) = ws at hKs hbs hMs hRs hss ⊢
                  have hF3 := (hFc.kw ((KwB.refl _ _).trans (hKs.weak fun _ h => h) |>.weak fun _ h => h.1)).weak (C := fun _ => True) fun _ _ _ => trivial
                  have hO3 := (hOc.kw (hKs.weak fun _ h => h.1)).weak (C := fun _ => True) fun _ _ _ => trivial
                  refine (here_c A F O At Av c cf co ct cv xs T V i j ws (hs.below hbs) hF3 hO3 (ht.below hbs) (hv.below hbs) hct hct2 hcv hcv2 hT hV HTR.out HVR.out HI.out (by omega) (by omega)).mono ?_
                  rintro e w10 ⟨vh, rfl, hOh, hb10⟩
                  obtain ⟨Ah, ch, rfl, _, _, hAh⟩ := hOh.slv
                  have hM10 := hMs.below hb10
                  have hR10 : RowC w10 w.heap.size R V.length _ := Own.below hRs hb10
                  have hK10 := hKs.trans (KwB.below hb10)
                  have hbb10 := Bst hbs hb10
                  have hs10 : R < w10.heap.size := Nat.lt_of_lt_of_le hss hb10.size
                  have hOh2 : Own eT3 w.heap.size 49 w10 _ (hereL xs T V i j) := hOh.lower hbs.size
                  have HQ3 : Hid ((∀ j', j < j' → j' ≤ V.length → (fun q => if q = j then (1073741824 : Int) else f q) j' = cc (rus xs) T V i j') ∧ (∀ j', j' < j → (fun q => if q = j then (1073741824 : Int) else f q) j' = 0) ∧ (fun q => if q = j then (1073741824 : Int) else f q) j = (leastF (fun p => p.c + cc (rus xs) T V (i + p.f) (j + p.t)) 1073741824 ((partsP (rus xs) T V i j).take 0) : Nat)) := by
                    refine ⟨fun j' h1 h2 => ?_, fun j' h1 => ?_, ?_⟩
                    · simp only; rw [if_neg (by omega)]; exact HQ.out.1 j' (by omega) h2
                    · simp only; rw [if_neg (by omega)]; exact HQ.out.2 j' (by omega)
                    · simp [leastF]
                  generalize (fun q => if q = j then (1073741824 : Int) else f q) = f2 at hR10 HQ3
                  have hps : hereL xs T V i j = (partsP (rus xs) T V i j).map (tolP xs T V i j) := rfl
                  have HPS := Lib.hid hps
                  obtain ⟨L, hL⟩ : ∃ L, (hereL xs T V i j).length = L := ⟨_, rfl⟩
                  have hLb : L ≤ 4100 := by have := hereL_len xs T V i j; omega
                  have HLL := Lib.hid hL
                  rw [hL]
                  clear hps hL hAh hOh hRs hMs hKs hbs hss hF3 hO3 hkS hc1 hc2
                  go_wp2_with fail
                  go_loopw [106] (fun sp wr => ∃ (p : Nat) (f : Nat → Int), sp = .int .i64 p ∧ p ≤ L ∧ Mat wr w.heap.size N T.length V.length (i + 1) B cs6 (cc (rus xs) T V) ∧ RowC wr w.heap.size R V.length f ∧ Hid ((∀ j', j < j' → j' ≤ V.length → f j' = cc (rus xs) T V i j') ∧ (∀ j', j' < j → f j' = 0) ∧ f j = (leastF (fun p => p.c + cc (rus xs) T V (i + p.f) (j + p.t)) 1073741824 ((partsP (rus xs) T V i j).take p) : Nat)) ∧ Own eT3 w.heap.size 49 wr (.slice Ah (hereL xs T V i j).length ch) (hereL xs T V i j) ∧ R < wr.heap.size ∧ KwB (fun b => b < M9 ∧ b ≠ N) w9 wr ∧ Below w.heap.size w wr) (fun sp _ => L - (intOf sp).toNat)
                  case atStart => exact ⟨0, f2, rfl, by omega, hM10, hR10, HQ3, hOh2, hs10, hK10, hbb10⟩
                  case round =>
                    obtain ⟨p, f, rfl, hp, hMp, hRp, HQp, hOp, hsp, hKp, hbp⟩ := hrel
                    rename World => wp
                    by_cases hpl : p < L
                    · have hpl' : (p : Int) < L := by omega
                      have hpm : p < (partsP (rus xs) T V i j).length := by
                        have h := HLL.out
                        rw [HPS.out, List.length_map] at h
                        omega
                      obtain ⟨pt, hpt⟩ : ∃ q, (partsP (rus xs) T V i j)[p] = q := ⟨_, rfl⟩
                      have hmem : pt ∈ partsP (rus xs) T V i j := hpt ▸ List.getElem_mem hpm
                      obtain ⟨o1, o2, o3, o4⟩ := parts_ok (rus_ok HI.out) (by omega) (by omega) hmem
                      obtain ⟨d1, d2, d3, d4⟩ := tol_dec HI.out HTR.out HVR.out (by omega) (by omega) hmem
                      obtain ⟨t1, t2, t3⟩ := tol_is HI.out hmem
                      have hLT := leastF_take (fun p => p.c + cc (rus xs) T V (i + p.f) (j + p.t)) 1073741824 (partsP (rus xs) T V i j) p hpm
                      have hLm := leastF_top (fun p => p.c + cc (rus xs) T V (i + p.f) (j + p.t)) 1073741824 ((partsP (rus xs) T V i j).take p)
                      rw [hpt] at hLT
                      try simp only at hLT
                      have hcb := cc_bound (rus_ok HI.out) T V _ (i + pt.f) (j + pt.t) o2 o3 (Nat.le_refl _)
                      have hrow : ∃ r, wp.cell? ⟨N, i + pt.f, none⟩ = some (.slice (some ⟨r, 0, none⟩) (V.length + 1) (V.length + 1)) ∧ wp.cell? ⟨r, j + pt.t, none⟩ = some (.int .i64 (cc (rus xs) T V (i + pt.f) (j + pt.t))) := by
                        rcases Nat.eq_zero_or_pos pt.f with h0 | h0
                        · refine ⟨R, ?_, ?_⟩
                          · rw [h0, Nat.add_zero]; exact hMp.cur hc6
                          · rw [(hRp.cell (j := j + pt.t) o3).2.1, HQp.out.1 _ (by omega) o3, h0, Nat.add_zero]
                        · obtain ⟨r, _, h1, h2⟩ := hMp.at (i := i + pt.f) (j := j + pt.t) (by omega) o2 o3
                          exact ⟨r, h1, h2⟩
                      obtain ⟨r, hr1, hr2⟩ := hrow
                      obtain ⟨Ax, cx, ex, _, _, hAx⟩ := hOp.slv
                      injection ex with e3 e4 e5
                      subst e3 e5
                      clear e4
                      obtain ⟨bh, oh, rfl, _, p1, p2, p3⟩ := hAx.n3 (fun _ => rfl) (Below.refl _ _) p (by rw [HLL.out]; exact hpl)
                      have hge : (hereL xs T V i j)[p]'(by rw [HLL.out]; exact hpl) = tolP xs T V i j pt := by
                        have : (hereL xs T V i j)[p]? = some (tolP xs T V i j pt) := by rw [HPS.out, List.getElem?_map, List.getElem?_eq_getElem hpm, hpt]; rfl
                        obtain ⟨_, h⟩ := List.getElem?_eq_some_iff.1 this
                        exact h
                      rw [hge] at p1 p2 p3
                      have hzf : lenS (tolP xs T V i j pt).f = pt.f := by unfold lenS; rw [d1]; exact d2
                      have hzt : lenS (tolP xs T V i j pt).t = pt.t := by unfold lenS; rw [d3]; exact d4
                      have sz1 : (tolP xs T V i j pt).f.size ≤ 17592186044416 := by rw [t1]; have := txt_size ((T.drop i).take pt.f); rw [d2] at this; omega
                      have sz2 : (tolP xs T V i j pt).t.size ≤ 17592186044416 := by rw [t2]; have := txt_size ((V.drop j).take pt.t); rw [d4] at this; omega
                      have C1 := Lib.hid (fun W => r12size_c (tolP xs T V i j pt).f W sz1)
                      have C2 := Lib.hid (fun W => r12size_c (tolP xs T V i j pt).t W sz2)
                      rw [hzf] at C1
                      rw [hzt] at C2
                      obtain ⟨_, hv1, hv2⟩ := hRp.cell (j := j) (by omega)
                      rw [HQp.out.2.2] at hv1
                      have hcX : wp.cell? ⟨w.heap.size + 1, 5, none⟩ = some (.slice (some ⟨N, 0, none⟩) (T.length + 1) (T.length + 1)) := hKp.cell (b9.cell 5) hXB
                      have hcI : wp.cell? ⟨N, i, none⟩ = some (.slice (some ⟨R, 0, none⟩) (V.length + 1) (V.length + 1)) := hMp.cur hc6
                      obtain ⟨lv, hlv⟩ : ∃ v, leastF (fun p => p.c + cc (rus xs) T V (i + p.f) (j + p.t)) 1073741824 ((partsP (rus xs) T V i j).take p) = v := ⟨_, rfl⟩
                      obtain ⟨gv, hgv⟩ : ∃ v, cc (rus xs) T V (i + pt.f) (j + pt.t) = v := ⟨_, rfl⟩
                      rw [hlv] at hv1 hLm hLT
                      rw [hgv] at hr2 hcb hLT
                      obtain ⟨⟨fx, tx, nx⟩, hx⟩ : ∃ x, tolP xs T V i j pt = x := ⟨_, rfl⟩
                      rw [hx] at p1 p2 p3 C1 C2 t3
                      simp only at p1 p2 p3 C1 C2 t3
                      obtain ⟨fi, hfi⟩ : ∃ n, i + pt.f = n := ⟨_, rfl⟩
                      obtain ⟨tj, htj⟩ : ∃ n, j + pt.t = n := ⟨_, rfl⟩
                      obtain ⟨pc, hpc⟩ : ∃ n, pt.c = n := ⟨_, rfl⟩
                      rw [hfi] at hr1 o2
                      rw [htj] at hr2 o3
                      rw [hpc] at t3 o4 hLT
                      subst t3
                      have wi : IntKind.i64.wrap ((i : Int) + (pt.f : Int)) = (fi : Int) := by rw [IntWalk.i64_in _ (by omega)]; omega
                      have wj2 : IntKind.i64.wrap ((j : Int) + (pt.t : Int)) = (tj : Int) := by rw [IntWalk.i64_in _ (by omega)]; omega
                      have wc : IntKind.i64.wrap ((pc : Int) + (gv : Int)) = (pc : Int) + (gv : Int) := IntWalk.i64_in _ (by omega)
                      have li : (fi : Int) < (T.length : Int) + 1 := by omega
                      have lj : (tj : Int) < (V.length : Int) + 1 := by omega
                      have HLT := Lib.hid hLT
                      clear hpt hmem o1 d1 d2 d3 d4 t1 t2 hge hzf hzt sz1 sz2 hlv hgv hx hfi htj hpc hLT hAx
                      have kB := B3.new wp ⟨fx, tx, pc⟩ 49
                      go_wp2_with fail
                      refine region_treeF [] 35 (.q 0 (.q 1 (.q 2 (.q 3 (.q 4 (.q 5 (.q 6 (.q 7 (.q 8 (.q 9 (.q 10 (.q 11 (.q 12 (.q 13 (.q 14 (.q 15 (.q 16 (.q 17 (.q 18 (.q 19 (.q 20 (.q 25 (.q 26 (.q 27 (.t 21 (.q 22 (.q 23 (.q 24 (.t 28 (.q 29 (.q 30 (.q 31 (.q 32 (.q 33 (.q 34 .nil))))))))))))))))))))))))))))))))))) (by kernel_rfl) (by kernel_rfl) ?_
                      intro Wm hWm
                      have hwm : Below wp.heap.size wp Wm := Bst Bel hWm
                      obtain ⟨_, r0, r1, r2⟩ := kB.below hWm
                      have m1 := bkc hwm hcX
                      have m2 := bkc hwm hcI
                      have m3 := bkc hwm hv1
                      have m4 := bkc hwm hr1
                      have m5 := bkc hwm hr2
                      repeat (refine trF_q rfl (fun K hK => ?_); unfold takeS; go_simp; refine hK _ ?_; clear hK K)
                      refine trF_t rfl (fun K hK => ?_); go_simp
                      refine (C1.out _).mono ?_
                      rintro e w5 ⟨rfl, hb5⟩
                      go_simp
                      refine hK _ _ (.of (Kb.weak (Kb.below hb5) (by simp))) ?_; clear hK K
                      have hw5 := Bst hwm hb5
                      repeat (refine trF_q rfl (fun K hK => ?_); unfold takeS; go_simp; refine hK _ ?_; clear hK K)
                      refine trF_t rfl (fun K hK => ?_); go_simp
                      refine (C2.out _).mono ?_
                      rintro e w6 ⟨rfl, hb6⟩
                      go_simp
                      refine hK _ _ (.of (Kb.weak (Kb.below (Bst hb5 hb6)) (by simp))) ?_; clear hK K
                      have hw6 := Bst hw5 hb6
                      repeat (refine trF_q rfl (fun K hK => ?_); unfold takeS; go_simp; refine hK _ ?_; clear hK K)
                      refine trF_nil ?_
                      simp only [List.drop_succ_cons, List.drop_zero]
                      have hR6 : RowC w6 w.heap.size R V.length f := Own.below hRp hw6
                      have hM6 := hMp.below hw6
                      have hO6 := hOp.below hw6
                      obtain ⟨_, hv6, hf6⟩ := hR6.cell (j := j) (by omega)
                      go_wp2
                      have hk6 := fun v => Kb.grown (grownBy_cell w6 R j v)
                      refine ⟨⟨p + 1, _, by go_num, (by omega), hM6.kb (hk6 _) hB6 (by omega), hR6.put j _, ?_, hO6.kb (hk6 _) (fun b hb hbR => ?_), by simpa using Nat.lt_of_lt_of_le hsp hw6.size, hKp.trans ((KwB.below hw6).trans (KwB.kb (hk6 _) (by simp; omega))), Bsc (Bst hbp hw6) (by show w.heap.size ≤ R; omega) _⟩, by simp [intOf]; omega⟩
                      · refine ⟨fun j' h1 h2 => ?_, fun j' h1 => ?_, ?_⟩
                        · first | (simp only; rw [if_neg (by omega)]; exact HQp.out.1 j' h1 h2) | (rw [if_neg (by omega)]; exact HQp.out.1 j' h1 h2)
                        · first | (simp only; rw [if_neg (by omega)]; exact HQp.out.2.1 j' h1) | (rw [if_neg (by omega)]; exact HQp.out.2.1 j' h1)
                        · rw [HLT.out]
                          first | (simp; done) | (simp; omega) | (rw [if_pos rfl]; omega)
                      · obtain ⟨c1, h1⟩ := Own.cells hO6 hb
                        obtain ⟨c2, h2⟩ := Own.cells (show Own (eInt .i64) w.heap.size 3 w6 _ _ from hR6) (g := R) rfl
                        rw [List.mem_singleton.1 hbR, h2] at h1
                        injection h1 with h1
                        injection h1 with _ h1
                        exact absurd h1 (by decide)
                    · obtain rfl : p = L := by omega
                      have hpl' : ¬ (p : Int) < p := by omega
                      have hpe : (partsP (rus xs) T V i j).take p = partsP (rus xs) T V i j := by
                        refine List.take_of_length_le ?_
                        have h := HLL.out
                        rw [HPS.out, List.length_map] at h
                        omega
                      have hlt3 : i < T.length ∨ j < V.length := by
                        rcases Nat.lt_or_ge i T.length with h | h
                        · exact .inl h
                        · rcases Nat.lt_or_ge j V.length with h2 | h2
                          · exact .inr h2
                          · exact absurd ⟨by omega, by omega⟩ hend
                      have hstep := cc_step (rus_ok HI.out) (T := T) (W := V) (i := i) (j := j) (by omega) (by omega) hlt3
                      have HQ4 : Hid ((∀ j', j ≤ j' → j' ≤ V.length → f j' = cc (rus xs) T V i j') ∧ ∀ j', j' < j → f j' = 0) := by
                        refine ⟨fun j' h1 h2 => ?_, HQp.out.2.1⟩
                        rcases Nat.lt_or_ge j j' with h | h
                        · exact HQp.out.1 j' h h2
                        · obtain rfl : j' = j := by omega
                          rw [HQp.out.2.2, hpe, ← hstep]
                      clear hstep hpe hlt3
                      go_wp2
                      exact ⟨⟨(j : Int) - 1, j, f, by go_num, by omega, by omega, hMp, hRp, HQ4, hsp, hKp, hbp⟩, by first | (simp [intOf]; done) | (simp [intOf]; omega)⟩
end Go.Proofs.YtmpoihejacklnaaDoor
/- A slice of structs of two strings as an argument. No condition. -/
namespace Go.Proofs.YtmpoihejacklnaaDoor
open Go Go.ChangeShapes Go.WideShapes Go.ChangeAt Go.RowKit Go.Deep Go.Lib
instance : Inhabited P2 := ⟨⟨.empty, .empty⟩⟩
def p2D {H : Type} (x : P2) : DataW H := .agg [.lit (.string x.n.data.toList), .lit (.string x.t.data.toList)]
section
variable {H : Type} {enc : TypeId × Value → H}
/-- A slice of two-celled elements, opened. -/
theorem open_p2 {P : Program} {W : World} {sp : Nat → Bool} {t e s : TypeId} {f0 f1 : Field} (ht : P.underlying t = some (.slice e)) (he : P.underlying e = some (.struct #[f0, f1])) (hs : P.underlying s = some .string)
    (hf : (f0.type == s && f1.type == s && f0.offset == 0 && f1.offset == 1) = true) (hce : P.cellsOf e = 2) (hcs : P.cellsOf s = 1)
    {v : Value} {d : DataW H} {ps : List MemPlace} (hv : v.cells = #[v]) (h : DataW.Trod enc P W 0 sp true t v d ps) :
    ∃ (A : Option Addr) (c : Nat) (xs : List P2) (spare : List (DataW H)), v = .slice A xs.length c ∧ (A = none → c = 0) ∧ xs.length ≤ c ∧ c ≤ 9223372036854775807 ∧ SlA eP2 W A xs ∧ ((d = .nil ∧ xs = []) ∨ d = .slice (xs.map p2D) spare) := by
  simp only [Bool.and_eq_true, beq_iff_eq] at hf
  obtain ⟨⟨⟨e0, e1⟩, o0⟩, o1⟩ := hf
  obtain ⟨fuel, h⟩ := h
  rw [hv] at h
  rcases open_slice ht h with ⟨hn, hx⟩ | ⟨a, len, cap, m, n, D, Pl, hv', hb, hl, hm, hmm, hx, hall⟩
  · obtain rfl : v = .slice none 0 0 := by simpa using hn
    simp only [Prod.mk.injEq] at hx
    exact ⟨none, 0, [], [], rfl, fun _ => rfl, by simp, by omega, SlA.nil, .inl ⟨hx.1, rfl⟩⟩
  · obtain rfl : v = .slice (some a) len cap := by simpa using hv'
    have hlm : len ≤ m := by rw [hmm]; split <;> omega
    have each : ∀ j, j < m → ∃ q : P2, W.cell? (a.add (j * 2)) = some (.string q.n) ∧ W.cell? (a.add (j * 2 + 1)) = some (.string q.t) ∧ D j = p2D q := by
      intro j hj
      obtain ⟨cs', h1, h2⟩ := hall j hj
      rw [hce] at h1
      obtain ⟨_, hlen, hcell⟩ := World.cells?_some h1
      obtain ⟨y0, y1, k, hxy, _, u0, u1⟩ := trod_struct2 he h2
      match cs', hlen with
      | [v0, v1], _ =>
        simp only [e0, e1, o0, o1, hcs, List.drop, List.take] at u0 u1
        obtain ⟨s0, g0, d0, _⟩ := DataW.trod_string hs u0
        obtain ⟨s1, g1, d1, _⟩ := DataW.trod_string hs u1
        simp only [List.cons.injEq, and_true] at g0 g1
        subst g0; subst g1
        have c0 := hcell 0 (by omega)
        have c1 := hcell 1 (by omega)
        rw [add_add] at c0 c1
        simp only [Prod.mk.injEq] at hxy
        exact ⟨⟨s0, s1⟩, by simpa using c0, by simpa using c1, by rw [hxy.1, d0, d1]; rfl⟩
    obtain ⟨q, hq⟩ := choose_lt each
    refine ⟨some a, cap, (List.range len).map q, (List.range (m - len)).map fun j => D (len + j), by simp, (fun h => by cases h), by simpa using hl, by simpa [maxLen] using hm, fun j x hx => ?_, .inr ?_⟩
    · rw [List.getElem?_map] at hx
      obtain ⟨j', hj', rfl⟩ := Option.map_eq_some_iff.1 hx
      obtain ⟨hjl, rfl⟩ := List.getElem?_eq_some_iff.1 hj'
      simp only [List.length_range] at hjl
      simp only [List.getElem_range]
      obtain ⟨c0, c1, _⟩ := hq j (by omega)
      have hsp : a.spot = none := by
        obtain ⟨z0, _⟩ := hq 0 (by omega)
        have ha : a.add (0 * 2) = a := by simp [Addr.add]
        rw [ha] at z0
        unfold World.cell? at z0
        split at z0
        · split at z0
          · cases z0
          · rename_i h; simpa using h
        · cases z0
      obtain ⟨b, o, sp'⟩ := a
      simp only at hsp
      subst hsp
      have hadd : ∀ n, (⟨b, o, none⟩ : Addr).add n = ⟨b, o + n, none⟩ := fun n => by unfold Addr.add; split <;> simp_all
      rw [hadd] at c0 c1
      refine ⟨b, o, rfl, World.block_lt_of_cell? W _ c0, fun i u hu => ?_⟩
      have hu' : [Value.string (q j).n, Value.string (q j).t][i]? = some u := hu
      show W.cell? ⟨b, o + j * 2 + i, none⟩ = some u
      match i, hu' with
      | 0, hu => simp at hu; subst hu; exact c0
      | 1, hu => simp at hu; subst hu; exact c1
      | i + 2, hu => simp at hu
    · simp only [Prod.mk.injEq] at hx
      rw [hx.1, List.map_map]
      congr 1
      exact List.map_congr_left fun j hj => (hq j (by have := List.mem_range.1 hj; omega)).2.2
/-- Not too many, not too great. -/
def SmallP (xs : List P2) : Prop := xs.length ≤ 1048576 ∧ ∀ b ∈ xs, b.n.size ≤ 1048576 ∧ b.t.size ≤ 1048576
/-- The second form's bound, at such a list. -/
theorem small_p {xs : List P2} {d : DataW H} {spare : List (DataW H)} (hd : (d = .nil ∧ xs = []) ∨ d = .slice (xs.map p2D) spare) (hb : Rows.uptoBulk d ≤ 1048576) : SmallP xs := by
  rcases hd with ⟨_, rfl⟩ | rfl
  · exact ⟨by simp, fun b hb => by cases hb⟩
  · simp only [Rows.uptoBulk] at hb
    have h1 := bulk_len (xs.map (p2D (H := H)))
    rw [List.length_map] at h1
    refine ⟨by omega, fun b hbx => ?_⟩
    have h2 := bulk_mem (List.mem_map_of_mem (f := p2D (H := H)) hbx)
    simp only [p2D, Rows.uptoBulk, Rows.uptoBulkAll, Array.length_toList] at h2
    have e1 : b.n.size = b.n.data.size := rfl
    have e2 : b.t.size = b.t.data.size := rfl
    omega
end
end Go.Proofs.YtmpoihejacklnaaDoor
/- What price's fill has made ahead of its table: the grid's block, the rows that it grows. No condition. -/
namespace Go.Proofs.YtmpoihejacklnaaDoor
open Go Go.RowKit Go.Shelf
/-- A block of another kind. -/
def Ty (W : World) (b : Nat) (e : TypeId) : Prop := ∃ cs m, W.heap[b]? = some (.cells cs e m)
theorem Ty.ne {W : World} {b : Nat} {e e' : TypeId} (h : Ty W b e) (hn : e ≠ e') : ∀ cs m, W.heap[b]? ≠ some (.cells cs e' m) := fun cs m hc => by
  obtain ⟨cs', m', h⟩ := h
  rw [h] at hc
  injection hc with hc
  injection hc with _ hc
  exact hn hc
theorem Own.ty {α : Type} {E : Enc α} {base : Nat} {e : TypeId} {W : World} {v : Value} {xs : List α} (h : Own E base e W v xs) {g : Nat} (hg : v.ownBlock = some g) : Ty W g e := by
  obtain ⟨c, hc⟩ := h.cells hg
  exact ⟨c, _, hc⟩
/-- An owned row stays where blocks of other kinds turn. -/
theorem Own.kbT {α : Type} {E : Enc α} {base : Nat} {e : TypeId} {W W' : World} {v : Value} {xs : List α} {S : List Nat} (h : Own E base e W v xs) (hk : Kb W W' S) (hS : ∀ b ∈ S, ∃ e', Ty W b e' ∧ e' ≠ e) : Own E base e W' v xs :=
  h.kb hk fun g hg hgS => by
    obtain ⟨e', h1, h2⟩ := hS g hgS
    obtain ⟨c, m, hc⟩ := h.ty hg
    exact h1.ne h2 _ _ hc
theorem RwO.kbT {base : Nat} {W W' : World} {ss : List Sl} {ls : List (List Int)} {S : List Nat} (h : RwO base W ss ls) (hk : Kb W W' S) (hS : ∀ b ∈ S, ∃ e', Ty W b e' ∧ e' ≠ 21) : RwO base W' ss ls :=
  h.kb hk fun b hb cs m => by
    obtain ⟨e', h1, h2⟩ := hS b hb
    exact h1.ne h2 cs m
theorem Bx.ty {W : World} {X : Nat} {t : TypeId} {vs : Array Value} (h : Bx W X t vs) : Ty W X t := ⟨_, _, h⟩
theorem Bx.kbT {W W' : World} {X : Nat} {t : TypeId} {vs : Array Value} {S : List Nat} (h : Bx W X t vs) (hk : Kb W W' S) (hS : ∀ b ∈ S, ∃ e', Ty W b e' ∧ e' ≠ t) : Bx W' X t vs :=
  h.kb hk fun hX => by
    obtain ⟨e', h1, h2⟩ := hS X hX
    exact h1.ne h2 _ _ h
theorem boxed_kbT {W W' : World} {X : Nat} {t : TypeId} {v : Value} {S : List Nat} (h : Boxed W X t v) (hk : Kb W W' S) (hS : ∀ b ∈ S, ∃ e', Ty W b e' ∧ e' ≠ t) : Boxed W' X t v :=
  (hk.block X h.lt fun hX => by
    obtain ⟨e', h1, h2⟩ := hS X hX
    exact h1.ne h2 _ _ h).trans h
/-- The grid's block and box, the rows that it grows, the rows that were made. -/
structure Lg (base : Nat) (W : World) (gb G hb N n : Nat) (l c1 c2 t v : Value) (v1 v2 : Value) (ss : List Sl) (ls : List (List Int)) (sz : List Int) : Prop where
  bg : Boxed W gb 58 (.pointer (some ⟨G, 0, none⟩))
  bx : Bx W G 65 #[l, c1, c2, t, v, .slice (some ⟨hb, 0, none⟩) n n, .slice (some ⟨N, 0, none⟩) n n]
  o1 : Own eSl base 50 W v1 ss
  o2 : Own (eInt .i64) base 3 W v2 sz
  r1 : RwO base W ss ls
  oh : Own eSl base 61 W (.slice (some ⟨hb, 0, none⟩) n n) (List.replicate n ⟨none, 0, 0⟩)
  oc : Own eSl base 61 W (.slice (some ⟨N, 0, none⟩) n n) (List.replicate n ⟨none, 0, 0⟩)
  ne : hb ≠ N
section
variable {base : Nat} {W W' : World} {gb G hb N n : Nat} {l c1 c2 t v v1 v2 : Value} {ss : List Sl} {ls : List (List Int)} {sz : List Int}
theorem Lg.below (h : Lg base W gb G hb N n l c1 c2 t v v1 v2 ss ls sz) (k : Below W.heap.size W W') : Lg base W' gb G hb N n l c1 c2 t v v1 v2 ss ls sz :=
  ⟨(k.block _ h.bg.lt).trans h.bg, h.bx.below k, h.o1.below k, h.o2.below k, h.r1.below k, h.oh.below k, h.oc.below k, h.ne⟩
theorem Lg.app1 (h : Lg base W gb G hb N n l c1 c2 t v v1 v2 ss ls sz) {v1' : Value} {s : Sl} {x : List Int} (hO : Own eSl base 50 W' v1' (ss ++ [s])) (hg : W.grownBy W' v1.ownBlock) (hn : s.n = x.length) (ho : Own (eInt .i32) base 21 W (vSl s) x) :
    Lg base W' gb G hb N n l c1 c2 t v v1' v2 (ss ++ [s]) (ls ++ [x]) sz := by
  have hk : Kb W W' v1.ownBlock.toList := Kb.row hg fun k hk => by simp [hk]
  have hS : ∀ e, 50 ≠ e → ∀ b ∈ v1.ownBlock.toList, ∃ e', Ty W b e' ∧ e' ≠ e := fun e he b hb => ⟨_, h.o1.ty (by simpa using hb), he⟩
  exact ⟨boxed_kbT h.bg hk (hS _ (by decide)), h.bx.kbT hk (hS _ (by decide)), hO, h.o2.kbT hk (hS _ (by decide)), (h.r1.kbT hk (hS _ (by decide))).snoc s x hn (ho.kbT hk (hS _ (by decide))), h.oh.kbT hk (hS _ (by decide)), h.oc.kbT hk (hS _ (by decide)), h.ne⟩
theorem Lg.app2 (h : Lg base W gb G hb N n l c1 c2 t v v1 v2 ss ls sz) {v2' : Value} {z : Int} (hO : Own (eInt .i64) base 3 W' v2' (sz ++ [z])) (hg : W.grownBy W' v2.ownBlock) :
    Lg base W' gb G hb N n l c1 c2 t v v1 v2' ss ls (sz ++ [z]) := by
  have hk : Kb W W' v2.ownBlock.toList := Kb.row hg fun k hk => by simp [hk]
  have hS : ∀ e, 3 ≠ e → ∀ b ∈ v2.ownBlock.toList, ∃ e', Ty W b e' ∧ e' ≠ e := fun e he b hb => ⟨_, h.o2.ty (by simpa using hb), he⟩
  exact ⟨boxed_kbT h.bg hk (hS _ (by decide)), h.bx.kbT hk (hS _ (by decide)), h.o1.kbT hk (hS _ (by decide)), hO, h.r1.kbT hk (hS _ (by decide)), h.oh.kbT hk (hS _ (by decide)), h.oc.kbT hk (hS _ (by decide)), h.ne⟩
theorem Lg.setX (h : Lg base W gb G hb N n l c1 c2 t v v1 v2 ss ls sz) (i : Nat) (u : Value) (c1' c2' : Value) (hi : (#[l, c1, c2, t, v, .slice (some ⟨hb, 0, none⟩) n n, .slice (some ⟨N, 0, none⟩) n n] : Array Value).setIfInBounds i u = #[l, c1', c2', t, v, .slice (some ⟨hb, 0, none⟩) n n, .slice (some ⟨N, 0, none⟩) n n]) :
    Lg base (W.setCell ⟨G, i, none⟩ u) gb G hb N n l c1' c2' t v v1 v2 ss ls sz := by
  have hk : Kb W (W.setCell ⟨G, i, none⟩ u) [G] := Kb.grown (grownBy_cell W G i u)
  have hS : ∀ e, 65 ≠ e → ∀ b ∈ [G], ∃ e', Ty W b e' ∧ e' ≠ e := fun e he b hb => ⟨_, (List.mem_singleton.1 hb) ▸ h.bx.ty, he⟩
  refine ⟨boxed_kbT h.bg hk (hS _ (by decide)), ?_, h.o1.kbT hk (hS _ (by decide)), h.o2.kbT hk (hS _ (by decide)), h.r1.kbT hk (hS _ (by decide)), h.oh.kbT hk (hS _ (by decide)), h.oc.kbT hk (hS _ (by decide)), h.ne⟩
  have := h.bx.put i u
  rwa [hi] at this
end
theorem SlA.slb {α : Type} {E : Enc α} {w W : World} {A : Option Addr} {xs : List α} {B : Nat → Prop} (h : SlA E w A xs) (hb : Below w.heap.size w W) (hB : ∀ b, b < w.heap.size → B b) : SlB B E W A xs := by
  refine ⟨h.below hb, fun b o hA hx => hB b ?_⟩
  obtain ⟨x, l, rfl⟩ := List.exists_cons_of_ne_nil hx
  obtain ⟨b', o', hA', hl, _⟩ := h 0 x rfl
  rw [hA] at hA'
  injection hA' with hA'
  injection hA' with e
  subst e
  exact hl
theorem Own.raise {α : Type} {E : Enc α} {base base' : Nat} {e : TypeId} {W : World} {v : Value} {xs : List α} (h : Own E base e W v xs) (hg : ∀ g, v.ownBlock = some g → base' ≤ g) : Own E base' e W v xs := by
  obtain ⟨h1, h2⟩ := h
  refine ⟨h1, ?_⟩
  rcases h2 with h2 | ⟨g, cap, cur, rfl, h3, h4⟩
  · exact .inl h2
  · exact .inr ⟨g, cap, cur, rfl, hg g rfl, h4⟩
theorem Own.kw1 {α : Type} {E : Enc α} {base : Nat} {e : TypeId} {W W' : World} {A n c : Nat} {xs : List α} (h : Own E base e W (.slice (some ⟨A, 0, none⟩) n c) xs) (hk : W'.heap[A]? = W.heap[A]?) : Own E base e W' (.slice (some ⟨A, 0, none⟩) n c) xs := by
  obtain ⟨h1, h2⟩ := h
  refine ⟨h1, ?_⟩
  rcases h2 with h2 | ⟨g, cap, cur, hv, h3, h4, h5⟩
  · exact .inl h2
  · injection hv with e1 e2 e3
    injection e1 with e1
    injection e1 with e1
    subst e1 e2 e3
    exact .inr ⟨_, _, cur, rfl, h3, hk.trans h4, h5⟩
/-- The grid but for its rows of hits. -/
structure GridQ (B : Nat → Prop) (W : World) (G hb N : Nat) (xs : List T3) (T V : List Int) : Prop where
  g : B G
  l : ∃ A c, W.cell? ⟨G, 0, none⟩ = some (.slice A xs.length c) ∧ SlB B eT3 W A xs
  tos : ∃ A c, W.cell? ⟨G, 1, none⟩ = some (.slice A xs.length c) ∧ RwB B (eInt .i32) W A (tosL xs)
  size : ∃ A c, W.cell? ⟨G, 2, none⟩ = some (.slice A xs.length c) ∧ SlB B (eInt .i64) W A (sizL xs)
  t : ∃ A c, W.cell? ⟨G, 3, none⟩ = some (.slice A T.length c) ∧ T.length ≤ c ∧ c ≤ 9223372036854775807 ∧ SlB B (eInt .i32) W A T
  w : ∃ A c, W.cell? ⟨G, 4, none⟩ = some (.slice A V.length c) ∧ V.length ≤ c ∧ c ≤ 9223372036854775807 ∧ SlB B (eInt .i32) W A V
  h5 : W.cell? ⟨G, 5, none⟩ = some (.slice (some ⟨hb, 0, none⟩) (T.length + 1) (T.length + 1))
  h6 : W.cell? ⟨G, 6, none⟩ = some (.slice (some ⟨N, 0, none⟩) (T.length + 1) (T.length + 1))
theorem GridQ.kw {B : Nat → Prop} {W W' : World} {G hb N : Nat} {xs : List T3} {T V : List Int} (h : GridQ B W G hb N xs T V) (hk : KwB B W W') : GridQ B W' G hb N xs T V := by
  obtain ⟨g, ⟨A0, c0, k0, l0⟩, ⟨A1, c1, k1, l1⟩, ⟨A2, c2, k2, l2⟩, ⟨A3, c3, k3, a3, b3, l3⟩, ⟨A4, c4, k4, a4, b4, l4⟩, k5, k6⟩ := h
  exact ⟨g, ⟨A0, c0, hk.cell k0 g, l0.kw hk⟩, ⟨A1, c1, hk.cell k1 g, l1.kw hk⟩, ⟨A2, c2, hk.cell k2 g, l2.kw hk⟩, ⟨A3, c3, hk.cell k3 g, a3, b3, l3.kw hk⟩, ⟨A4, c4, hk.cell k4 g, a4, b4, l4.kw hk⟩, hk.cell k5 g, hk.cell k6 g⟩
theorem GridQ.weak {B C : Nat → Prop} {W : World} {G hb N : Nat} {xs : List T3} {T V : List Int} (h : GridQ B W G hb N xs T V) (hC : ∀ k, k < W.heap.size → B k → C k) : GridQ C W G hb N xs T V := by
  obtain ⟨g, ⟨A0, c0, k0, l0⟩, ⟨A1, c1, k1, l1⟩, ⟨A2, c2, k2, l2⟩, ⟨A3, c3, k3, a3, b3, l3⟩, ⟨A4, c4, k4, a4, b4, l4⟩, k5, k6⟩ := h
  exact ⟨hC _ (World.block_lt_of_cell? _ _ k0) g, ⟨A0, c0, k0, l0.weak hC⟩, ⟨A1, c1, k1, l1.weak hC⟩, ⟨A2, c2, k2, l2.weak hC⟩, ⟨A3, c3, k3, a3, b3, l3.weak hC⟩, ⟨A4, c4, k4, a4, b4, l4.weak hC⟩, k5, k6⟩
theorem GridQ.grid {B : Nat → Prop} {W : World} {G hb N : Nat} {xs : List T3} {T V : List Int} (h : GridQ B W G hb N xs T V) (hr : RwB B (eInt .i64) W (some ⟨hb, 0, none⟩) (hitR xs T)) : GridR B W G xs T V :=
  ⟨h.g, h.l, h.tos, h.size, h.t, h.w, ⟨_, _, h.h5, hr⟩⟩
theorem RwO.rw2 {base : Nat} {e : TypeId} {W : World} {v : Value} {ss : List Sl} {ls : List (List Int)} (h : RwO base W ss ls) (ho : Own eSl base e W v ss) : ∃ A c, v = .slice A ls.length c ∧ RwB (fun b => (∃ c e', W.heap[b]? = some (.cells c e' (0, 0)) ∧ (e' = e ∨ e' = 21)) ∧ base ≤ b) (eInt .i32) W A ls := by
  have hg := fun g hg => ho.cells (g := g) hg
  have hge := fun g hg => ho.ge g hg
  obtain ⟨A, c, rfl, h1, h2, h3⟩ := ho.slv
  refine ⟨A, c, by rw [h.1], fun k l hl => ?_⟩
  have hk : k < ss.length := by rw [h.1]; exact (List.getElem?_eq_some_iff.1 hl).1
  obtain ⟨hn, hO⟩ := h.2 k _ l (List.getElem?_eq_getElem hk) hl
  obtain ⟨b, o, rfl, hc⟩ := h3.at1 (f1 := vSl) (fun _ => rfl) (Below.refl _ _) k hk
  have hgc := fun g hg => hO.cells (g := g) hg
  have hgg := fun g hg => hO.ge g hg
  obtain ⟨A', c', e', q1, q2, q3⟩ := hO.slv
  generalize ss[k] = s at *
  obtain ⟨sA, sn, sc⟩ := s
  simp only [vSl] at e' hc hgc hgg hn
  injection e' with e1 e2 e3
  subst e1 e2 e3
  obtain ⟨x1, x2⟩ := hg b rfl
  refine ⟨b, o, sA, sc, rfl, ⟨⟨x1, e, x2, .inl rfl⟩, hge b rfl⟩, hc, q1, q2, q3, fun b' o' hA _ => ?_⟩
  obtain ⟨y1, y2⟩ := hgc b' (by rw [hA]; rfl)
  exact ⟨⟨y1, _, y2, .inr rfl⟩, hgg b' (by rw [hA]; rfl)⟩
/-- Blocks of one's own, or the one that is read. -/
def LowB (n0 : Nat) (A : Option Addr) (xs : List T3) (b : Nat) : Prop := n0 ≤ b ∨ (xs ≠ [] ∧ ∃ o, A = some ⟨b, o, none⟩)
/-- What was made, as it is read. -/
theorem Lg.grid {base : Nat} {W w w4 : World} {gb G hb N : Nat} {xs : List T3} {T V : List Int} {A A3 A4 : Option Addr} {c c3 c4 : Nat} {v1 v2 : Value} {ss : List Sl}
    (h : Lg base W gb G hb N (T.length + 1) (.slice A xs.length c) v1 v2 (.slice A3 T.length c3) (.slice A4 V.length c4) v1 v2 ss (tosL xs) (sizL xs))
    (hs : SlA eT3 w A xs) (hw : Below w.heap.size w W) (hww : w.heap.size ≤ w4.heap.size) (h3 : SlA (eInt .i32) w4 A3 T) (h4 : SlA (eInt .i32) w4 A4 V) (hw4 : Below w4.heap.size w4 W) (m3 : T.length ≤ c3) (n3 : c3 ≤ 9223372036854775807) (m4 : V.length ≤ c4) (n4 : c4 ≤ 9223372036854775807) (hbl : w4.heap.size ≤ hb) (hNl : w4.heap.size ≤ N) (hGl : w4.heap.size ≤ G) (hbase : w4.heap.size ≤ base) (g3 : ∀ b o, A3 = some ⟨b, o, none⟩ → w.heap.size ≤ b) (g4 : ∀ b o, A4 = some ⟨b, o, none⟩ → w.heap.size ≤ b) :
    GridQ (fun b => ((b < W.heap.size ∧ b ≠ hb) ∧ b ≠ N) ∧ LowB w.heap.size A xs b) W G hb N xs T V := by
  have hth := h.oh.ty (g := hb) rfl
  have htN := h.oc.ty (g := N) rfl
  have hne : ∀ b e, Ty W b e → 61 ≠ e → b ≠ hb := fun b e hb' he e2 => by
    subst e2
    obtain ⟨c, m, hc⟩ := hb'
    exact hth.ne he _ _ hc
  have hneN : ∀ b e, Ty W b e → 61 ≠ e → b ≠ N := fun b e hb' he e2 => by
    subst e2
    obtain ⟨c, m, hc⟩ := hb'
    exact htN.ne he _ _ hc
  have hlt : ∀ b e, Ty W b e → b < W.heap.size := fun b e ⟨c, m, hc⟩ => (Array.getElem?_eq_some_iff.1 hc).1
  have hws := hw4.size
  obtain ⟨A1, c1, rfl, hr⟩ := h.r1.rw2 h.o1
  have h2 := fun g hg => h.o2.ty (g := g) hg
  have h2g := fun g hg => h.o2.ge g hg
  obtain ⟨A2, c2, rfl, _, _, hA2⟩ := h.o2.slv
  have e1 : (tosL xs).length = xs.length := by simp [tosL]
  have e2 : (sizL xs).length = xs.length := by simp [sizL]
  have k0 := h.bx.cell 0
  have k1 := h.bx.cell 1
  have k2 := h.bx.cell 2
  have k3 := h.bx.cell 3
  have k4 := h.bx.cell 4
  have k5 := h.bx.cell 5
  have k6 := h.bx.cell 6
  simp at k0 k1 k2 k3 k4 k5 k6
  rw [e1] at k1
  rw [e2] at k2
  have lA := fun (b : Nat) (hlb : b < w.heap.size) => (⟨⟨by omega, by omega⟩, by omega⟩ : (b < W.heap.size ∧ b ≠ hb) ∧ b ≠ N)
  have l4 := fun (b : Nat) (hlb : b < w4.heap.size) => (⟨⟨by omega, by omega⟩, by omega⟩ : (b < W.heap.size ∧ b ≠ hb) ∧ b ≠ N)
  have s0 := hs.slb (B := fun b => (b < W.heap.size ∧ b ≠ hb) ∧ b ≠ N) hw lA
  have s3 := h3.slb (B := fun b => (b < W.heap.size ∧ b ≠ hb) ∧ b ≠ N) hw4 l4
  have s4 := h4.slb (B := fun b => (b < W.heap.size ∧ b ≠ hb) ∧ b ≠ N) hw4 l4
  refine ⟨⟨⟨⟨hlt _ _ h.bx.ty, hne _ _ h.bx.ty (by decide)⟩, hneN _ _ h.bx.ty (by decide)⟩, .inl (by omega)⟩, ⟨A, c, k0, s0.1, fun b o hA hx => ⟨s0.2 b o hA hx, .inr ⟨hx, o, hA⟩⟩⟩, ⟨A1, c1, k1, hr.weak fun b _ ⟨⟨cc, e', hc, he⟩, hb⟩ => ?_⟩, ⟨A2, c2, k2, hA2, fun b o hA _ => ?_⟩,
    ⟨A3, c3, k3, m3, n3, s3.1, fun b o hA hx => ⟨s3.2 b o hA hx, .inl (g3 b o hA)⟩⟩, ⟨A4, c4, k4, m4, n4, s4.1, fun b o hA hx => ⟨s4.2 b o hA hx, .inl (g4 b o hA)⟩⟩, k5, k6⟩
  · have ht : Ty W b e' := ⟨_, _, hc⟩
    exact ⟨⟨⟨hlt _ _ ht, hne _ _ ht (by rcases he with rfl | rfl <;> decide)⟩, hneN _ _ ht (by rcases he with rfl | rfl <;> decide)⟩, .inl (by omega)⟩
  · have ht := h2 b (by rw [hA]; rfl)
    have hg := h2g b (by rw [hA]; rfl)
    exact ⟨⟨⟨hlt _ _ ht, hne _ _ ht (by decide)⟩, hneN _ _ ht (by decide)⟩, .inl (by omega)⟩
/-- Rows of hits, so far. -/
def hitRows (hs : List (Nat × Nat)) (n : Nat) : List (List Int) := (List.range n).map (hitAt hs)
theorem hitRows_len (hs : List (Nat × Nat)) (n : Nat) : (hitRows hs n).length = n := by unfold hitRows; simp
theorem hitRows_at {hs : List (Nat × Nat)} {n k : Nat} (h : k < (hitRows hs n).length) : (hitRows hs n)[k] = hitAt hs k := by
  have h2 : k < n := by rw [hitRows_len] at h; exact h
  have h3 : (hitRows hs n)[k]? = some (hitAt hs k) := by unfold hitRows; rw [List.getElem?_map, List.getElem?_range h2]; rfl
  obtain ⟨_, e⟩ := List.getElem?_eq_some_iff.1 h3
  exact e
theorem hitRows_nil (n : Nat) : hitRows [] n = List.replicate n [] := by
  unfold hitRows
  rw [show (List.range n).map (hitAt []) = (List.range n).map fun _ => ([] : List Int) from List.map_congr_left fun _ _ => rfl, List.map_const']; simp
theorem hitRows_snoc (hs : List (Nat × Nat)) (h : Nat × Nat) (n : Nat) : hitRows (hs ++ [h]) n = (hitRows hs n).set h.1 (hitAt hs h.1 ++ [(h.2 : Int)]) := by
  unfold hitRows
  refine List.ext_getElem? fun q => ?_
  rw [List.getElem?_set, List.getElem?_map, List.getElem?_map]
  by_cases h2 : h.1 = q
  · subst h2
    rw [if_pos rfl]
    by_cases h3 : h.1 < n
    · rw [if_pos (by simpa using h3), List.getElem?_range h3]
      simp only [Option.map_some]
      rw [hitAt_snoc, if_pos rfl]
    · rw [if_neg (by simpa using h3), List.getElem?_eq_none (by simp; omega)]; rfl
  · rw [if_neg h2]
    by_cases h3 : q < n
    · rw [List.getElem?_range h3]
      simp only [Option.map_some]
      rw [hitAt_snoc, if_neg h2, List.append_nil]
    · rw [List.getElem?_eq_none (by simp; omega)]; rfl
theorem hitRows_all (xs : List T3) (T : List Int) : hitRows (hitsL (froms xs) T) (T.length + 1) = hitR xs T := by
  unfold hitRows hitR
  exact List.map_congr_left fun i hi => hitAt_all (by have := List.mem_range.1 hi; omega)
end Go.Proofs.YtmpoihejacklnaaDoor
/- What stays in price's fill while parts are handed on. No condition. -/
namespace Go.Proofs.YtmpoihejacklnaaDoor
open Go Go.RowKit Go.Shelf
theorem keepsFrom_kb {W W' : World} {S : List Nat} {B : Nat} (hk : Kb W W' S) (hS : ∀ s ∈ S, s < B) : KeepsFrom B W W' :=
  ⟨hk.size, fun k o hB ho _ => (hk.block k (Array.getElem?_eq_some_iff.1 ho).1 fun h => by have := hS k h; omega).trans ho⟩
theorem kb_grown {W W' : World} {row : Option Nat} (hg : W.grownBy W' row) : Kb W W' row.toList := ⟨hg.os, hg.tape, hg.output, hg.size, fun k hk hn => hg.block k hk (fun e => hn (by rw [← e]; simp))⟩
theorem Marks.kb {n0 : Nat} {Ds : List Nat} {W W' : World} {S : List Nat} (h : Marks n0 Ds W) (hk : Kb W W' S) (hS : ∀ D ∈ Ds, D ∉ S) : Marks n0 Ds W' := ⟨h.1, fun D hD => by
  obtain ⟨h1, h2, h3⟩ := h.2 D hD
  exact ⟨h1, Nat.lt_of_lt_of_le h2 hk.size, (hk.block D h2 (hS D hD)).trans h3⟩⟩
theorem boxed_kb {W W' : World} {X : Nat} {t : TypeId} {v : Value} {S : List Nat} (h : Boxed W X t v) (hk : Kb W W' S) (hS : X ∉ S) : Boxed W' X t v := (hk.block X h.lt hS).trans h
theorem Mat.kbS {W W' : World} {base cb n m k B : Nat} {cs : List Sl} {g : Nat → Nat → Nat} {S : List Nat} (h : Mat W base cb n m k B cs g) (hk : Kb W W' S) (hS : ∀ s ∈ S, B ≤ s) (hc : cb ∉ S) : Mat W' base cb n m k B cs g :=
  ⟨h.own.kb hk (fun b hb => by simp only [Value.ownBlock] at hb; injection hb with hb; subst hb; exact hc), h.len, fun i h1 h2 => by
    obtain ⟨r, a, b, c, d⟩ := h.rows i h1 h2
    exact ⟨r, a, b, c, fun j hj => hk.cell (d j hj) (fun h => by have := hS _ h; simp only at this; omega)⟩⟩
/-- What holds while parts are handed on, with the row f so far. -/
structure InP (w4 w10 : World) (B9 : Nat → Prop) (N nT nV i B : Nat) (cs : List Sl) (g : Nat → Nat → Nat) (R ib jb j : Nat) (Ds : List Nat) (f : Nat → Int) (W : World) : Prop where
  mks : Marks w4.heap.size Ds W
  mat : Mat W w4.heap.size N nT nV (i + 1) B cs g
  row : RowC W w4.heap.size R nV f
  bi : Boxed W ib 3 (.int .i64 i)
  bj : Boxed W jb 3 (.int .i64 j)
  kw : KwB B9 w10 W
  bel : Below w4.heap.size w4 W
section
variable {w4 w10 : World} {B9 : Nat → Prop} {N nT nV i B : Nat} {cs : List Sl} {g : Nat → Nat → Nat} {R ib jb j : Nat} {Ds : List Nat} {f : Nat → Int} {W W' : World}
/-- Blocks from a number on may turn. -/
theorem InP.kb (h : InP w4 w10 B9 N nT nV i B cs g R ib jb j Ds f W) {S : List Nat} {lim : Nat} (hk : Kb W W' S) (hS : ∀ s ∈ S, lim ≤ s) (hR : R < lim) (hi : ib < lim) (hj : jb < lim) (hN : N < lim) (hB : B ≤ lim) (h9 : ∀ b, B9 b → b < lim) (hD : ∀ D ∈ Ds, D < lim) (h4 : w4.heap.size ≤ lim) :
    InP w4 w10 B9 N nT nV i B cs g R ib jb j Ds f W' :=
  have ne : ∀ x, x < lim → x ∉ S := fun x hx h => by have := hS x h; omega
  ⟨h.mks.kb hk fun D h => ne _ (hD D h), h.mat.kbS hk (fun s hs => Nat.le_trans hB (hS s hs)) (ne _ hN), Own.kb h.row hk (fun b hb => by simp only [Value.ownBlock] at hb; injection hb with hb; subst hb; exact ne _ hR), boxed_kb h.bi hk (ne _ hi), boxed_kb h.bj hk (ne _ hj),
    h.kw.trans (KwB.kb hk fun s hs hb => by have := hS s hs; have := h9 s hb; omega), hk.to (fun s hs => Nat.le_trans h4 (hS s hs)) h.bel (Nat.le_refl _)⟩
theorem InP.below (h : InP w4 w10 B9 N nT nV i B cs g R ib jb j Ds f W) (hb : Below W.heap.size W W') : InP w4 w10 B9 N nT nV i B cs g R ib jb j Ds f W' :=
  ⟨h.mks.below hb, h.mat.below hb, Own.below h.row hb, boxed_kb h.bi (Kb.below hb) (by simp), boxed_kb h.bj (Kb.below hb) (by simp), h.kw.trans (KwB.below hb), h.bel.trans (hb.mono h.bel.size)⟩
/-- A number is laid in the row. -/
theorem InP.put (h : InP w4 w10 B9 N nT nV i B cs g R ib jb j Ds f W) (v : Int) (hB : B ≤ R) (hN : N < R) (hi : ib ≠ R) (hj : jb ≠ R) (h9 : ¬ B9 R) (h4 : w4.heap.size ≤ R) :
    InP w4 w10 B9 N nT nV i B cs g R ib jb j Ds (fun q => if q = j then v else f q) (W.setCell ⟨R, j, none⟩ (.int .i64 v)) := by
  have hk : Kb W (W.setCell ⟨R, j, none⟩ (.int .i64 v)) [R] := Kb.grown (grownBy_cell W R j _)
  refine ⟨h.mks.kb hk fun D hD hR => ?_, h.mat.kbS hk (by simpa using hB) (by simp; omega), h.row.put j v, boxed_kb h.bi hk (by simpa using hi), boxed_kb h.bj hk (by simpa using hj), h.kw.trans (KwB.kb hk (by simpa using h9)), hk.to (by simpa using h4) h.bel (Nat.le_refl _)⟩
  obtain ⟨_, _, h1⟩ := h.mks.2 D hD
  obtain ⟨c, h2⟩ := Own.cells (show Own (eInt .i64) w4.heap.size 3 W _ _ from h.row) (g := R) rfl
  rw [List.mem_singleton.1 hR] at h1
  rw [h1] at h2
  cases h2
end
/-- How far the row is, behind some parts of a place. -/
def RowF (xs : List T3) (T V : List Int) (i j : Nat) (pre : List Pt) (f : Nat → Int) : Prop :=
  (∀ j', j < j' → j' ≤ V.length → f j' = cc (rus xs) T V i j') ∧ (∀ j', j' < j → f j' = 0) ∧ f j = (leastF (fun p => p.c + cc (rus xs) T V (i + p.f) (j + p.t)) 1073741824 pre : Nat)
theorem leastF_snoc (f : Pt → Nat) (m : Nat) (l : List Pt) (p : Pt) : leastF f m (l ++ [p]) = min (leastF f m l) (f p) := by
  unfold leastF
  rw [List.foldl_append]; rfl
theorem RowF.step {xs : List T3} {T V : List Int} {i j : Nat} {pre : List Pt} {f : Nat → Int} (h : RowF xs T V i j pre f) (p : Pt) (v : Int) (hv : v = min (f j) (p.c + cc (rus xs) T V (i + p.f) (j + p.t) : Nat)) : RowF xs T V i j (pre ++ [p]) fun q => if q = j then v else f q := by
  obtain ⟨h1, h2, h3⟩ := h
  refine ⟨fun j' a b => ?_, fun j' a => ?_, ?_⟩
  · simp only; rw [if_neg (by omega)]; exact h1 j' a b
  · simp only; rw [if_neg (by omega)]; exact h2 j' a
  · show (if j = j then v else f j) = _
    rw [if_pos rfl, hv, h3, leastF_snoc]; omega
/-- The range's invariant. -/
def InI12 (w4 w10 : World) (B9 : Nat → Prop) (N B : Nat) (cs : List Sl) (xs : List T3) (T V : List Int) (R ib jb i j : Nat) (Ds : List Nat) (xb : Nat) (pre : List Pt) (W : World) : Prop :=
  (∃ f, InP w4 w10 B9 N T.length V.length i B cs (cc (rus xs) T V) R ib jb j Ds f W ∧ RowF xs T V i j pre f) ∧ ∃ u, Boxed W xb 3 u
theorem InI12.from {w4 w10 : World} {B9 : Nat → Prop} {N B : Nat} {cs : List Sl} {xs : List T3} {T V : List Int} {R ib jb i j : Nat} {Ds : List Nat} {xb lim : Nat} (hR : R < lim) (hi : ib < lim) (hj : jb < lim) (hN : N < lim) (hB : B ≤ lim) (h9 : ∀ b, B9 b → b < lim) (hD : ∀ D ∈ Ds, D < lim) (h4 : w4.heap.size ≤ lim) (hx : xb < lim) :
    OwnFrom lim (InI12 w4 w10 B9 N B cs xs T V R ib jb i j Ds xb) := fun pre W W' row ⟨⟨f, h1, h2⟩, u, h3⟩ hg hr => by
  have hk := kb_grown hg
  have hS : ∀ s ∈ row.toList, lim ≤ s := fun s hs => (hr s (by simpa using hs)).1
  exact ⟨⟨f, h1.kb hk hS hR hi hj hN hB h9 hD h4, h2⟩, u, boxed_kb h3 hk fun h => by have := hS _ h; omega⟩
theorem InI12.own1 {w4 w10 : World} {B9 : Nat → Prop} {N B : Nat} {cs : List Sl} {xs : List T3} {T V : List Int} {R ib jb i j : Nat} {Ds : List Nat} {xb : Nat} {pre : List Pt} {W W' : World} (h : InI12 w4 w10 B9 N B cs xs T V R ib jb i j Ds xb pre W) (ho : Own1 xb W W')
    (hR : R < xb) (hi : ib < xb) (hj : jb < xb) (hN : N < xb) (hB : B ≤ xb) (h9 : ∀ b, B9 b → b < xb) (hD : ∀ D ∈ Ds, D < xb) (h4 : w4.heap.size ≤ xb) : InI12 w4 w10 B9 N B cs xs T V R ib jb i j Ds xb pre W' := by
  obtain ⟨⟨f, h1, h2⟩, u, h3⟩ := h
  obtain ⟨hg, t, x, x', q1, q2⟩ := ho
  have hk := Kb.grown hg
  refine ⟨⟨f, h1.kb (lim := xb) hk (by simp) hR hi hj hN hB h9 hD h4, h2⟩, ?_⟩
  have e : some (Obj.cells #[x] t (0, 0)) = some (Obj.cells #[u] 3 (0, 0)) := (show W.heap[xb]? = _ from q1).symm.trans h3
  injection e with e
  injection e with _ e
  subst e
  exact ⟨x', q2⟩
/-! ### what lies in cells stays where cells stay -/
def CellB (W : World) (b : Nat) : Prop := ∃ o, W.heap[b]? = some o ∧ o.isCells = true
theorem CellB.of {W : World} {p : Addr} {v : Value} (h : W.cell? p = some v) : CellB W p.block := by
  unfold World.cell? at h
  cases ho : W.heap[p.block]? with
  | none => rw [ho] at h; cases h
  | some o =>
    cases o with
    | cells cs t m => exact ⟨_, ho, rfl⟩
    | _ => rw [ho] at h; cases h
theorem SlB.cells {α : Type} {B : Nat → Prop} {E : Enc α} {W : World} {A : Option Addr} {xs : List α} (he : ∀ x, E.e x ≠ []) (h : SlB B E W A xs) : SlB (fun b => B b ∧ CellB W b) E W A xs :=
  ⟨h.1, fun b o hA hx => ⟨h.2 b o hA hx, by
    obtain ⟨x, l, rfl⟩ := List.exists_cons_of_ne_nil hx
    obtain ⟨b', o', hA', _, hc⟩ := h.1 0 x rfl
    rw [hA] at hA'
    injection hA' with hA'
    injection hA' with e1 e2
    subst e1 e2
    obtain ⟨u, us, hu⟩ := List.exists_cons_of_ne_nil (he x)
    exact CellB.of (hc 0 u (by rw [hu]; rfl))⟩⟩
theorem RwB.cells {α : Type} {B : Nat → Prop} {E : Enc α} {W : World} {A : Option Addr} {ls : List (List α)} (he : ∀ x, E.e x ≠ []) (h : RwB B E W A ls) : RwB (fun b => B b ∧ CellB W b) E W A ls := fun k l hl => by
  obtain ⟨b, o, Ak, ck, h1, h2, h3, h4, h5, h6⟩ := h k l hl
  exact ⟨b, o, Ak, ck, h1, ⟨h2, CellB.of h3⟩, h3, h4, h5, h6.cells he⟩
theorem eInt_ne (k : IntKind) (x : Int) : (eInt k).e x ≠ [] := by simp [eInt]
theorem eT3_ne (x : T3) : eT3.e x ≠ [] := by simp [eT3]
theorem GridR.cells {B : Nat → Prop} {W : World} {G : Nat} {xs : List T3} {T V : List Int} (h : GridR B W G xs T V) : GridR (fun b => B b ∧ CellB W b) W G xs T V := by
  obtain ⟨g, ⟨A0, c0, k0, l0⟩, ⟨A1, c1, k1, l1⟩, ⟨A2, c2, k2, l2⟩, ⟨A3, c3, k3, a3, b3, l3⟩, ⟨A4, c4, k4, a4, b4, l4⟩, ⟨A5, c5, k5, l5⟩⟩ := h
  exact ⟨⟨g, CellB.of k0⟩, ⟨A0, c0, k0, l0.cells eT3_ne⟩, ⟨A1, c1, k1, l1.cells (eInt_ne _)⟩, ⟨A2, c2, k2, l2.cells (eInt_ne _)⟩, ⟨A3, c3, k3, a3, b3, l3.cells (eInt_ne _)⟩, ⟨A4, c4, k4, a4, b4, l4.cells (eInt_ne _)⟩, ⟨A5, c5, k5, l5.cells (eInt_ne _)⟩⟩
theorem cell_of_cells {W W' : World} (hc : ∀ (k : Nat) (o : Obj), W.heap[k]? = some o → o.isCells = true → W'.heap[k]? = some o) {p : Addr} {v : Value} (h : W.cell? p = some v) : W'.cell? p = some v := by
  obtain ⟨o, h1, h2⟩ := CellB.of h
  have h3 := hc _ o h1 h2
  unfold World.cell? at h ⊢
  rw [h3, ← h1]
  exact h
theorem GridR.leave {B : Nat → Prop} {W W' : World} {G : Nat} {xs : List T3} {T V : List Int} (h : GridR B W G xs T V) (hz : W.heap.size ≤ W'.heap.size) (hc : ∀ (k : Nat) (o : Obj), W.heap[k]? = some o → o.isCells = true → W'.heap[k]? = some o) : GridR B W' G xs T V :=
  (h.cells.kw ⟨hz, fun k hk _ => by
    obtain ⟨o, h1, h2⟩ := hk.2
    rw [hc k o h1 h2, h1]⟩).weak fun _ _ h => h.1
theorem Mat.leave {W W' : World} {base cb n m k B : Nat} {cs : List Sl} {g : Nat → Nat → Nat} (h : Mat W base cb n m k B cs g) (hc : ∀ (k : Nat) (o : Obj), W.heap[k]? = some o → o.isCells = true → W'.heap[k]? = some o) : Mat W' base cb n m k B cs g :=
  ⟨h.own.cellsKept hc, h.len, fun i h1 h2 => by
    obtain ⟨r, a, b, c, d⟩ := h.rows i h1 h2
    exact ⟨r, a, b, c, fun j hj => cell_of_cells hc (d j hj)⟩⟩
/-- An equation of frames, as one word. -/
def FrEq (a b : Act) : Prop := a = b
theorem FrEq.rf (a : Act) : FrEq a a := rfl
/-- Slots of no weight. -/
def uAt (L : List Value) (k : Nat) : Value := L[k]?.getD undef
/-- The number in a box that a slot points to. -/
def boxN (v : Value) (W : World) : Int := match v with
  | .pointer (some p) => (match W.cell? p with
    | some x => intOf x
    | none => 0)
  | _ => 0
theorem boxN_eq {W : World} {b : Nat} {t : TypeId} {z : Int} (h : Boxed W b t (.int .i64 z)) : boxN (.pointer (some ⟨b, 0, none⟩)) W = z := by
  unfold boxN
  simp only [h.cell]
  rfl
end Go.Proofs.YtmpoihejacklnaaDoor
