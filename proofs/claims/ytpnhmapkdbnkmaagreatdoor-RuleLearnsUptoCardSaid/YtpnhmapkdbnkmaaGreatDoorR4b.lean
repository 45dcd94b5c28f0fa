/- errataref04.table: of all beginnings of two rows how far they are apart. No condition. -/
import Derived.Test.YtpnhmapkdbnkmaaGreatDoorAlg
import Derived.Test.YtpnhmapkdbnkmaaGreatDoorK802
import Derived.Test.YtpnhmapkdbnkmaaGreatDoorK813
namespace Go.Proofs.YtpnhmapkdbnkmaaGreatDoor
open Go Go.RowKit
/-- Rows of rows: a row's place, or none yet. -/
def eRow (n : Nat) : Enc (Option Nat) := ⟨1, fun g => [match g with | none => .slice none 0 0 | some g => .slice (some ⟨g, 0, none⟩) n n], fun _ => rfl, fun g v hv => by simp at hv; subst hv; cases g <;> rfl⟩
/-- A row of numbers lies at a place. -/
def RowAt (w : World) (g : Nat) (l : List Int) : Prop := g < w.heap.size ∧ ∀ (c : Nat) (x : Int), l[c]? = some x → w.cell? ⟨g, c, none⟩ = some (.int .i64 x)
theorem RowAt.below {w w' : World} {n g : Nat} {l : List Int} (h : RowAt w g l) (hb : Below n w w') (hn : w.heap.size ≤ w'.heap.size) (hg : g < n) : RowAt w' g l :=
  ⟨Nat.lt_of_lt_of_le h.1 hn, fun c x hx => by rw [← h.2 c x hx]; exact World.cell?_of_block (a := ⟨g, c, none⟩) (hb.block g hg)⟩
theorem RowAt.grown {w w' : World} {g : Nat} {row : Option Nat} {l : List Int} (h : RowAt w g l) (hg : w.grownBy w' row) (hne : some g ≠ row) : RowAt w' g l :=
  ⟨Nat.lt_of_lt_of_le h.1 hg.size, fun c x hx => by rw [← h.2 c x hx]; exact hg.cell_far ⟨g, c, none⟩ h.1 hne⟩
theorem RowAt.kb {w w' : World} {g : Nat} {S : List Nat} {l : List Int} (h : RowAt w g l) (hk : Kb w w' S) (hn : g ∉ S) : RowAt w' g l :=
  ⟨Nat.lt_of_lt_of_le h.1 hk.size, fun c x hx => by rw [← h.2 c x hx]; exact World.cell?_of_block (a := ⟨g, c, none⟩) (hk.block g h.1 hn)⟩
theorem RowAt.of {base : Nat} {t : TypeId} {w : World} {g n m : Nat} {l : List Int} (h : Own eI base t w (.slice (some ⟨g, 0, none⟩) n m) l) (hlt : g < w.heap.size) : RowAt w g l :=
  ⟨hlt, fun c x hx => by
    obtain ⟨hc, rfl⟩ := List.getElem?_eq_some_iff.1 hx
    exact (h.cell1 (fun _ => rfl) c hc).2.1⟩
/-- A table lies at a place: m rows of n numbers each. -/
def TblAt (w : World) (gd n m : Nat) (V : Nat → List Int) : Prop := ∀ r, r < m → ∃ g, w.cell? ⟨gd, r, none⟩ = some (.slice (some ⟨g, 0, none⟩) n n) ∧ RowAt w g (V r)
def ddRow (a b : List Int) (i : Nat) : List Int := (List.range (b.length + 1)).map fun j => ((dd a b i j : Nat) : Int)
def ddTo (a b : List Int) (i k : Nat) : List Int := (List.range (b.length + 1)).map fun j => if j < k then ((dd a b i j : Nat) : Int) else 0
theorem ddTo_len (a b : List Int) (i k : Nat) : (ddTo a b i k).length = b.length + 1 := by simp [ddTo]
theorem ddTo_all (a b : List Int) (i k : Nat) (hk : b.length < k) : ddTo a b i k = ddRow a b i := by
  unfold ddTo ddRow
  exact List.map_congr_left fun j hj => by rw [if_pos (by have := List.mem_range.1 hj; omega)]
theorem ddTo_zero (a b : List Int) (i : Nat) : ddTo a b i 0 = List.replicate (b.length + 1) 0 := by
  unfold ddTo
  refine List.ext_getElem? fun q => ?_
  by_cases hq : q < b.length + 1
  · rw [List.getElem?_map, List.getElem?_range hq, Option.map_some, if_neg (by omega), List.getElem?_replicate, if_pos hq]
  · rw [List.getElem?_eq_none (by simp; omega), List.getElem?_eq_none (by simp; omega)]
theorem ddTo_at {a b : List Int} {i k j : Nat} (hj : j < k) (hk : j ≤ b.length) : (ddTo a b i k)[j]? = some ((dd a b i j : Nat) : Int) := by
  unfold ddTo
  rw [List.getElem?_map, List.getElem?_range (by omega), Option.map_some, if_pos hj]
theorem ddRow_at {a b : List Int} {i j : Nat} (hk : j ≤ b.length) : (ddRow a b i)[j]? = some ((dd a b i j : Nat) : Int) := by
  unfold ddRow
  rw [List.getElem?_map, List.getElem?_range (by omega), Option.map_some]
theorem ddTo_set {a b : List Int} {i j : Nat} (_ : j ≤ b.length) : (ddTo a b i j).set j ((dd a b i j : Nat) : Int) = ddTo a b i (j + 1) := by
  refine List.ext_getElem? fun q => ?_
  by_cases hq : q < b.length + 1
  · rw [List.getElem?_set]
    unfold ddTo
    rw [List.getElem?_map, List.getElem?_map, List.getElem?_range hq]
    by_cases e : j = q
    · subst e
      rw [if_pos rfl, if_pos (by simpa using hq), Option.map_some, if_pos (by omega)]
    · rw [if_neg e, Option.map_some, Option.map_some]
      by_cases h1 : q < j
      · rw [if_pos h1, if_pos (by omega)]
      · rw [if_neg h1, if_neg (by omega)]
  · rw [List.getElem?_eq_none (by rw [List.length_set, ddTo_len]; omega), List.getElem?_eq_none (by rw [ddTo_len]; omega)]
theorem info_rowInt : (Tryz.prog.info? 95).map (fun i => (i.zero, i.size, i.bytes)) = some (some (.slice none 0 0), 1, 24) := by kernel_rfl
theorem own_made (base : Nat) (t : TypeId) (w : World) (g n : Nat) (h : w.ownsRow base t 1 (.slice (some ⟨g, 0, none⟩) n n) n (madeCells (Value.int .i64 0).cells (n * 1)).toList) : Own eI base t w (.slice (some ⟨g, 0, none⟩) n n) (List.replicate n 0) := by
  unfold Own
  rw [List.length_replicate, flat_one (f := Value.int .i64) (fun _ => rfl), List.map_replicate, ← toList_madeCells_one]
  rw [Nat.mul_one] at h
  exact h
theorem own_rows (base : Nat) (t : TypeId) (w : World) (g n k : Nat) (h : w.ownsRow base t 1 (.slice (some ⟨g, 0, none⟩) n n) n (madeCells (Value.slice none 0 0).cells (n * 1)).toList) : Own (eRow k) base t w (.slice (some ⟨g, 0, none⟩) n n) (List.replicate n none) := by
  unfold Own
  rw [List.length_replicate, flat_one (E := eRow k) (f := fun g => match g with | none => .slice none 0 0 | some g => .slice (some ⟨g, 0, none⟩) k k) (fun _ => rfl), List.map_replicate, ← toList_madeCells_one]
  rw [Nat.mul_one] at h
  exact h
theorem min3 {x : Int} {d2 d3 D : Nat} (h : (D : Int) = min x (min ((d2 : Int) + 1) ((d3 : Int) + 1))) : (if (d3 : Int) + 1 < if (d2 : Int) + 1 < x then (d2 : Int) + 1 else x then (d3 : Int) + 1 else if (d2 : Int) + 1 < x then (d2 : Int) + 1 else x) = (D : Int) := by
  rw [h]
  by_cases h1 : (d2 : Int) + 1 < x
  · rw [if_pos h1]
    by_cases h2 : (d3 : Int) + 1 < (d2 : Int) + 1
    · rw [if_pos h2]; omega
    · rw [if_neg h2]; omega
  · rw [if_neg h1]
    by_cases h2 : (d3 : Int) + 1 < x
    · rw [if_pos h2]; omega
    · rw [if_neg h2]; omega
set_option maxHeartbeats 3000000 in
set_option maxRecDepth 100000 in
theorem table_c (A B : Option Addr) (ca cb : Nat) (a b : List Int) (w : World) (hA : SlA (eInt .i32) w A a) (hB : SlA (eInt .i32) w B b) (ha : a.length ≤ 64) (hb : b.length ≤ 64) :
    Calls Tryz.prog 165 #[.slice A a.length ca, .slice B b.length cb] w fun e w' => ∃ gd, e = .returned (.slice (some ⟨gd, 0, none⟩) (a.length + 1) (a.length + 1)) ∧ TblAt w' gd (b.length + 1) (a.length + 1) (ddRow a b) ∧ Below w.heap.size w w' := by
  obtain ⟨i1, hi1, hy0, hy1, hy2⟩ := info_parts info_int
  obtain ⟨i0, hi0, hz0, hz1, hz2⟩ := info_parts info_rowInt
  obtain ⟨m, hm⟩ : ∃ m, a.length + 1 = m := ⟨_, rfl⟩
  obtain ⟨n, hn⟩ : ∃ n, b.length + 1 = n := ⟨_, rfl⟩
  have hm1 : (a.length : Int) + 1 = (m : Int) := by omega
  have hn1 : (b.length : Int) + 1 = (n : Int) := by omega
  rw [hm, hn]
  go_enter Tryz.func165, Tryz.ntmps165
  go_wp2_with (at_make; go_loud (refine wpList_make_full _ rfl _ _ 92 rfl w.heap.size 95 i0 (.slice none 0 0) 1 Tryz.underlying92 hi0 hz0 hz1 .i64 .i64 _ _ m rfl rfl (by first | rfl | (push_cast; omega)) (by first | rfl | (push_cast; omega)) (by rw [hz2]; omega) (by simp only [maxLen]; omega) (Nat.le_refl _) ?_; intro w1 HO1 hg1))
  have hO := own_rows w.heap.size 95 w1 w.heap.size m n HO1
  have hb1 : Below w.heap.size w w1 := Bgr (Below.refl _ _) hg1 (by simp)
  have hgw1 : w.heap.size < w1.heap.size := (hO.put.resolve_left (by simp [Value.ownBlock])).elim fun g h => by have e := h.1; simp [Value.ownBlock] at e; omega
  clear HO1 hg1
  go_loopw [15] (fun si wr => ∃ (i : Nat) (gs : List (Option Nat)), si = .int .i64 i ∧ i ≤ m ∧ Own (eRow n) w.heap.size 95 wr (.slice (some ⟨w.heap.size, 0, none⟩) m m) gs ∧ gs.length = m ∧ Hid (∀ r, r < i → ∃ g, gs[r]? = some (some g) ∧ w.heap.size < g ∧ RowAt wr g (ddRow a b r)) ∧ w.heap.size < wr.heap.size ∧ Below w.heap.size w wr) (fun si _ => m - (intOf si).toNat)
  case atStart => exact ⟨0, List.replicate m none, rfl, by omega, hO, by simp, fun r hr => absurd hr (by omega), hgw1, hb1⟩
  case round =>
    obtain ⟨i, gs, rfl, hi, HO, hgl, HR, hgw, hbo⟩ := hrel
    rename World => wo
    by_cases hlt : i < m
    · have hlt' : (i : Int) < m := by omega
      go_wp2_with (at_make; go_loud (refine wpList_make_full _ rfl _ _ 95 rfl wo.heap.size 3 i1 (.int .i64 0) 1 Tryz.underlying95 hi1 hy0 hy1 .i64 .i64 _ _ n rfl rfl (by first | rfl | (push_cast; omega)) (by first | rfl | (push_cast; omega)) (by rw [hy2]; omega) (by simp only [maxLen]; omega) (Nat.le_refl _) ?_; intro w3 HO3 hg3; have HOg := HO.kept hg3 (.inr (by simp [Value.ownBlock])); have f3 := (HOg.cell1 (fun _ => rfl) i (by omega)).2.2; have c3 := (HOg.cell1 (fun _ => rfl) i (by omega)).2.1))
      have hOi := own_made wo.heap.size 3 w3 wo.heap.size n HO3
      rw [← hn, ← ddTo_zero a b i, hn] at hOi
      obtain ⟨gi, hgi⟩ : ∃ gi, wo.heap.size = gi := ⟨_, rfl⟩
      rw [hgi] at hOi ⊢
      have hlt3 : gi < w3.heap.size := (hOi.put.resolve_left (by simp [Value.ownBlock])).elim fun g h => by have e := h.1; simp [Value.ownBlock] at e; omega
      have hHO4 : Own (eRow n) w.heap.size 95 (w3.setCell ⟨w.heap.size, i, none⟩ (.slice (some ⟨gi, 0, none⟩) n n)) (.slice (some ⟨w.heap.size, 0, none⟩) m m) (gs.set i (some gi)) := (HOg.put1 (fun _ => rfl) hgl i (some gi)).1
      have hg4 : w3.grownBy (w3.setCell ⟨w.heap.size, i, none⟩ (.slice (some ⟨gi, 0, none⟩) n n)) (some w.heap.size) := by
        have h := HOg
        unfold Own at h
        rw [hgl] at h
        exact (World.ownsRow.stored h i _).2
      have hOi4 := hOi.kept hg4 (.inr (by simp only [Value.ownBlock]; intro e; injection e with e; omega))
      have hb4 : Below w.heap.size w (w3.setCell ⟨w.heap.size, i, none⟩ (.slice (some ⟨gi, 0, none⟩) n n)) := (Bgr hbo hg3 (by simp)).setCell (p := ⟨w.heap.size, i, none⟩) (Nat.le_refl _) _
      have hs4 : (w3.setCell ⟨w.heap.size, i, none⟩ (.slice (some ⟨gi, 0, none⟩) n n)).heap.size = w3.heap.size := by simp
      have HR4 : Hid (∀ r, r < i → ∃ g, (gs.set i (some gi))[r]? = some (some g) ∧ w.heap.size < g ∧ g < gi ∧ RowAt (w3.setCell ⟨w.heap.size, i, none⟩ (.slice (some ⟨gi, 0, none⟩) n n)) g (ddRow a b r)) := fun r hr => by
        obtain ⟨g, h1, h2, h3⟩ := HR.out r hr
        refine ⟨g, by rw [List.getElem?_set_ne (by omega)]; exact h1, h2, by have := h3.1; omega, (h3.grown hg3 (by simp)).grown hg4 (fun e => by injection e with e; omega)⟩
      clear HO HR HOg hOi HO3 hg3 hg4
      generalize (w3.setCell ⟨w.heap.size, i, none⟩ (.slice (some ⟨gi, 0, none⟩) n n)) = w4 at *
      have ci4 : w4.cell? ⟨w.heap.size, i, none⟩ = some (.slice (some ⟨gi, 0, none⟩) n n) := by
        have h := (hHO4.cell1 (f := fun g => match g with | none => .slice none 0 0 | some g => .slice (some ⟨g, 0, none⟩) n n) (fun _ => rfl) i (by simp; omega)).2.1
        simpa using h
      have hgle : (gs.set i (some gi)).length = m := by simp [hgl]
      have hgi4 : (gs.set i (some gi))[i]? = some (some gi) := by rw [List.getElem?_set_self (by omega)]
      generalize gs.set i (some gi) = gs4 at *
      go_loopw [30] (fun sj wj => ∃ j : Nat, sj = .int .i64 j ∧ j ≤ n ∧ Own eI gi 3 wj (.slice (some ⟨gi, 0, none⟩) n n) (ddTo a b i j) ∧ Kb w4 wj [gi]) (fun sj _ => n - (intOf sj).toNat)
      case atStart => exact ⟨0, rfl, by omega, hOi4, Kb.refl _ _⟩
      case round =>
        obtain ⟨j, rfl, hj, HOj, hkb⟩ := hrel
        rename World => wj
        have ci := hkb.cell ci4 (by simp; omega)
        have hbj : Below w.heap.size w wj := hkb.to (by simp; omega) hb4 (Nat.le_refl _)
        by_cases hjn : j < n
        · have hjn' : (j : Int) < n := by omega
          have hlen := ddTo_len a b i j
          have fz := HOj.cell1 (fun _ => rfl) j (by omega)
          have hput : ∀ k D : Nat, dd a b i j = D → Own eI gi 3 ((wj.drewN k).setCell ⟨gi, j, none⟩ (.int .i64 (D : Int))) (.slice (some ⟨gi, 0, none⟩) n n) (ddTo a b i (j + 1)) ∧ Kb w4 ((wj.drewN k).setCell ⟨gi, j, none⟩ (.int .i64 (D : Int))) [gi] := fun k D hD => by
            have hj' := HOj.below (Bdn (Below.refl _ wj) k)
            have h1 := (hj'.put1 (fun _ => rfl) (by rw [hlen]; exact hn) j ((dd a b i j : Nat) : Int)).1
            rw [ddTo_set (by omega)] at h1
            have h2 : (wj.drewN k).grownBy ((wj.drewN k).setCell ⟨gi, j, none⟩ (.int .i64 ((dd a b i j : Nat) : Int))) (some gi) := by
              have h := hj'
              unfold Own at h
              rw [hlen, hn] at h
              exact (World.ownsRow.stored h j _).2
            rw [hD] at h1 h2
            exact ⟨h1, hkb.trans' ((Kb.below (Bdn (Below.refl _ wj) k)).trans (Kb.grown h2))⟩
          have HP := Lib.hid hput
          obtain ⟨fz0, fz1, fz2⟩ := fz
          clear hput
          rcases Nat.eq_zero_or_pos i with h0 | h0
          · subst h0
            have hd : dd a b 0 j = j := dd_zero a b j
            go_wp2
            exact ⟨⟨j + 1, by go_num, by omega, HP.out 0 _ hd⟩, by simp [intOf]; omega⟩
          · rcases Nat.eq_zero_or_pos j with h1 | h1
            · subst h1
              have hd : dd a b i 0 = i := dd_left a b i
              have hi0 : ((i : Int) == 0) = false := by simp; omega
              go_wp2
              exact ⟨⟨0 + 1, by go_num, by omega, HP.out 0 _ hd⟩, by simp [intOf]; omega⟩
            · obtain ⟨gp, e1, e2, e3, e4⟩ := HR4.out (i - 1) (by omega)
              have hrp := e4.kb hkb (by simp; omega)
              have cp4 : w4.cell? ⟨w.heap.size, i - 1, none⟩ = some (.slice (some ⟨gp, 0, none⟩) n n) := by
                have h := (hHO4.cell1 (f := fun g => match g with | none => .slice none 0 0 | some g => .slice (some ⟨g, 0, none⟩) n n) (fun _ => rfl) (i - 1) (by omega)).2.1
                rw [List.getElem?_eq_getElem (by omega)] at e1
                injection e1 with e1
                rw [e1] at h
                exact h
              have cp := hkb.cell cp4 (by simp; omega)
              have r1 := hrp.2 (j - 1) _ (ddRow_at (by omega))
              have r2 := hrp.2 j _ (ddRow_at (by omega))
              have q1 := (RowAt.of HOj fz0).2 (j - 1) _ (ddTo_at (by omega) (by omega))
              have hwi : IntKind.i64.wrap ((i : Int) - 1) = ((i - 1 : Nat) : Int) := by rw [IntWalk.i64_in _ (by omega)]; omega
              have hwj : IntKind.i64.wrap ((j : Int) - 1) = ((j - 1 : Nat) : Int) := by rw [IntWalk.i64_in _ (by omega)]; omega
              have hi0 : ((i : Int) == 0) = false := by simp; omega
              have hj0 : ((j : Int) == 0) = false := by simp; omega
              obtain ⟨ba, oa, rfl, x1⟩ := hA.at1 (fun _ => rfl) hbj (i - 1) (by omega)
              obtain ⟨bb, ob, rfl, y1⟩ := hB.at1 (fun _ => rfl) hbj (j - 1) (by omega)
              have b1 := dd_le a b _ (i - 1) (j - 1) (Nat.le_refl _)
              have b2 := dd_le a b _ (i - 1) j (Nat.le_refl _)
              have b3 := dd_le a b _ i (j - 1) (Nat.le_refl _)
              have hdd := dd_both a b (i - 1) (j - 1)
              rw [show i - 1 + 1 = i by omega, show j - 1 + 1 = j by omega] at hdd
              have hi1 : ((i - 1 : Nat) : Int) < a.length := by omega
              have hj1 : ((j - 1 : Nat) : Int) < b.length := by omega
              obtain ⟨q, hq⟩ : ∃ q, n01 a b (i - 1) (j - 1) = q := ⟨_, rfl⟩
              rw [hq] at hdd
              obtain ⟨d1, hd1⟩ : ∃ d, dd a b (i - 1) (j - 1) = d := ⟨_, rfl⟩
              obtain ⟨d2, hd2⟩ : ∃ d, dd a b (i - 1) j = d := ⟨_, rfl⟩
              obtain ⟨d3, hd3⟩ : ∃ d, dd a b i (j - 1) = d := ⟨_, rfl⟩
              rw [hd1] at r1 b1 hdd
              rw [hd2] at r2 b2 hdd
              rw [hd3] at q1 b3 hdd
              clear hd1 hd2 hd3 hHO4 hOi4 cp4 ci4
              have HQ := Lib.hid hq
              have HDD := Lib.hid hdd
              clear hq hdd hrp e1 e4
              by_cases hab : a[i - 1] = b[j - 1]
              · have HQ0 : Hid (q = 0) := by show _ = _; rw [← HQ.out]; unfold n01; rw [nth_at (by omega), nth_at (by omega), if_pos hab]
                have he : (a[i - 1] != b[j - 1]) = false := by simpa using hab
                clear hab
                go_wp2_with fail
                go_quiet (fail)
                go_wp2_with fail
                go_region
                go_wp2
                have hv := HDD.out
                rw [HQ0.out, Nat.add_zero] at hv
                rw [min3 (D := dd a b i j) (by rw [hv]; omega)]
                exact ⟨⟨j + 1, by go_num, by omega, HP.out _ _ rfl⟩, by simp [intOf]; omega⟩
              · have HQ0 : Hid (q = 1) := by show _ = _; rw [← HQ.out]; unfold n01; rw [nth_at (by omega), nth_at (by omega), if_neg hab]
                have he : (a[i - 1] != b[j - 1]) = true := by simpa using hab
                clear hab
                go_wp2_with fail
                go_quiet (fail)
                go_wp2_with fail
                go_region
                go_wp2
                have hv := HDD.out
                rw [HQ0.out] at hv
                have hv' : (if (d3 : Int) + 1 < if d2 < d1 then (d2 : Int) + 1 else (d1 : Int) + 1 then (d3 : Int) + 1 else if d2 < d1 then (d2 : Int) + 1 else (d1 : Int) + 1) = ((dd a b i j : Nat) : Int) := by
                  rw [hv]
                  by_cases h1 : d2 < d1
                  · rw [if_pos h1]
                    by_cases h2 : (d3 : Int) + 1 < (d2 : Int) + 1
                    · rw [if_pos h2]; omega
                    · rw [if_neg h2]; omega
                  · rw [if_neg h1]
                    by_cases h2 : (d3 : Int) + 1 < (d1 : Int) + 1
                    · rw [if_pos h2]; omega
                    · rw [if_neg h2]; omega
                rw [hv']
                exact ⟨⟨j + 1, by go_num, by omega, HP.out _ _ rfl⟩, by simp [intOf]; omega⟩
        · have hjn' : ¬ (j : Int) < n := by omega
          obtain rfl : j = n := by omega
          go_wp2
          refine ⟨⟨i + 1, gs4, by go_num, by omega, hHO4.kb hkb (by simp [Value.ownBlock]; omega), hgle, fun r hr => ?_, ?_, hbj⟩, by simp [intOf]; omega⟩
          · by_cases hri : r = i
            · subst hri
              refine ⟨gi, hgi4, by omega, ?_⟩
              · have h := RowAt.of HOj (Nat.lt_of_lt_of_le (by omega) hkb.size)
                rwa [ddTo_all a b r j (by omega)] at h
            · obtain ⟨g, e1, e2, e3, e4⟩ := HR4.out r (by omega)
              exact ⟨g, e1, e2, e4.kb hkb (by simp; omega)⟩
          · have := hkb.size; omega
    · have hlt' : ¬ (i : Int) < m := by omega
      obtain rfl : i = m := by omega
      go_wp2
      go_ret
      refine ⟨_, rfl, fun r hr => ?_, hbo⟩
      obtain ⟨g, e1, e2, e3⟩ := HR.out r hr
      refine ⟨g, ?_, e3⟩
      have h := (HO.cell1 (f := fun g => match g with | none => .slice none 0 0 | some g => .slice (some ⟨g, 0, none⟩) n n) (fun _ => rfl) r (by omega)).2.1
      rw [List.getElem?_eq_getElem (by omega)] at e1
      injection e1 with e1
      rw [e1] at h
      exact h
end Go.Proofs.YtpnhmapkdbnkmaaGreatDoor
