/- utf8.AppendRune onto one row beside other ones. No condition. -/
import Derived.Test.YtpnhmapkdbnkmaaGreatDoorK810
import Derived.Lib.RuneBytes
namespace Go.Proofs.YtpnhmapkdbnkmaaGreatDoor
open Go Go.RowKit
/-- Two rows in blocks of their own. -/
def ApartV (u v : Value) : Prop := ∀ g, u.ownBlock = some g → v.ownBlock ≠ some g
theorem ApartV.symm {u v : Value} (h : ApartV u v) : ApartV v u := fun g hv hu => h g hu hv
theorem ApartV.none (v : Value) : ApartV (.slice none 0 0) v := fun g h => by cases h
theorem Own.blk {α : Type} {E : Enc α} {base : Nat} {e : TypeId} {w : World} {v : Value} {xs : List α} (h : Own E base e w v xs) : v.ownBlock = none ∨ ∃ g, v.ownBlock = some g ∧ g < w.heap.size := by
  rcases h.2 with ⟨rfl, _⟩ | ⟨g, cap, cur, rfl, _, hg, _⟩
  · exact .inl rfl
  · exact .inr ⟨g, rfl, (Array.getElem?_eq_some_iff.1 hg).1⟩
theorem keepO {α : Type} {E : Enc α} {base : Nat} {e : TypeId} {W w1 : World} {u v v' : Value} {ys : List α} (h : Own E base e W u ys) (ha : ApartV u v) (hg : W.grownBy w1 v.ownBlock) (hm : Moved W v v') : Own E base e w1 u ys ∧ ApartV u v' := by
  refine ⟨h.kept hg ?_, fun g hu => ?_⟩
  · rcases h.blk with h0 | ⟨g, hu, _⟩
    · exact .inl h0
    · exact .inr (by rw [hu]; exact fun e => ha g hu e.symm)
  · rcases hm with hm | hm
    · rw [hm]; exact ha g hu
    · rw [hm]
      rcases h.blk with h0 | ⟨g', hu', hlt⟩
      · rw [h0] at hu; cases hu
      · rw [hu'] at hu
        injection hu with hu
        subst hu
        intro e
        injection e with e
        omega
/-- What an append of a rune leaves: the row longer, all rows apart from it as they were. -/
def ApmPost (w0 W : World) (v : Value) (zs : List Int) (r : Int) (e : Ending) (w' : World) : Prop :=
  ∃ v', e = .returned v' ∧ Own (eInt .u8) w0.heap.size 5 w' v' (zs ++ Lib.encodeRuneZ r) ∧ Below w0.heap.size w0 w' ∧ (∀ g, g < W.heap.size → v.ownBlock ≠ some g → w'.heap[g]? = W.heap[g]?) ∧
    ∀ (u : Value) (ys : List Int), Own (eInt .u8) w0.heap.size 5 W u ys → ApartV u v → Own (eInt .u8) w0.heap.size 5 w' u ys ∧ ApartV u v'
theorem info_u8b : (Tryz.prog.info? 5).map (fun i => (i.zero, i.size, i.bytes)) = some (some (.int .u8 0), 1, 1) := by kernel_rfl
set_option maxRecDepth 100000 in
set_option maxHeartbeats 4000000 in
theorem napp_m (w0 : World) (v : Value) (zs : List Int) (r : Int) (W : World) (hO : Own (eInt .u8) w0.heap.size 5 W v zs) (hb : Below w0.heap.size w0 W) (hr : IsR r) (hna : 128 ≤ r) (hl : zs.length ≤ 4194304) :
    Calls Tryz.prog 127 #[v, .int .i32 r] W (ApmPost w0 W v zs r) := by
  obtain ⟨hr0, hr1, hr2⟩ := hr
  rcases (by omega : r ≤ 2047 ∨ (2048 ≤ r ∧ r < 55296) ∨ (57343 < r ∧ r ≤ 65535) ∨ (65536 ≤ r ∧ r ≤ 1114111)) with h1 | ⟨h1, h2⟩ | ⟨h1, h2⟩ | ⟨h1, h2⟩
  · have HZ := Lib.hid (Lib.encodeRuneZ_two (r := r) (by omega) h1)
    clear hr2
    go_enter Tryz.func127, Tryz.ntmps127
    go_wp2_with (at_builtin; refine app (E := eInt .u8) (w0 := w0) _ _ 160 5 (.int .u8 0) 1 rfl rfl Tryz.underlying160 info_u8b rfl (by decide) (by decide) v zs [192 + r / 64, 128 + r % 64] ⟨W.heap.size, 0, none⟩ 2 2 rfl rfl rfl (hO.alloc _) (SlA.new (eInt .u8) W [192 + r / 64, 128 + r % 64] 5 _ rfl _ rfl) Bel (by simp; omega) ?_; intro v' w1 HO1 hb1 hg1 hm1)
    go_ret
    rw [← HZ.out] at HO1
    exact ⟨v', rfl, HO1, hb1, fun g hlt hne => (hg1.block g (by simp; omega) (fun e => hne e.symm)).trans ((Bal (Below.refl W.heap.size W) _).block g hlt), fun u ys hu ha => keepO (hu.alloc _) ha hg1 hm1⟩
  · have HZ := Lib.hid (Lib.encodeRuneZ_three (r := r) (Or.inl ⟨by omega, h2⟩))
    clear hr2
    go_enter Tryz.func127, Tryz.ntmps127
    go_wp2_with (at_builtin; refine app (E := eInt .u8) (w0 := w0) _ _ 160 5 (.int .u8 0) 1 rfl rfl Tryz.underlying160 info_u8b rfl (by decide) (by decide) v zs [224 + r / 4096, 128 + r / 64 % 64, 128 + r % 64] ⟨W.heap.size, 0, none⟩ 3 3 rfl rfl rfl (hO.alloc _) (SlA.new (eInt .u8) W [224 + r / 4096, 128 + r / 64 % 64, 128 + r % 64] 5 _ rfl _ rfl) Bel (by simp; omega) ?_; intro v' w1 HO1 hb1 hg1 hm1)
    go_ret
    rw [← HZ.out] at HO1
    exact ⟨v', rfl, HO1, hb1, fun g hlt hne => (hg1.block g (by simp; omega) (fun e => hne e.symm)).trans ((Bal (Below.refl W.heap.size W) _).block g hlt), fun u ys hu ha => keepO (hu.alloc _) ha hg1 hm1⟩
  · have HZ := Lib.hid (Lib.encodeRuneZ_three (r := r) (Or.inr ⟨by omega, h2⟩))
    clear hr2
    go_enter Tryz.func127, Tryz.ntmps127
    go_wp2_with (at_builtin; refine app (E := eInt .u8) (w0 := w0) _ _ 160 5 (.int .u8 0) 1 rfl rfl Tryz.underlying160 info_u8b rfl (by decide) (by decide) v zs [224 + r / 4096, 128 + r / 64 % 64, 128 + r % 64] ⟨W.heap.size, 0, none⟩ 3 3 rfl rfl rfl (hO.alloc _) (SlA.new (eInt .u8) W [224 + r / 4096, 128 + r / 64 % 64, 128 + r % 64] 5 _ rfl _ rfl) Bel (by simp; omega) ?_; intro v' w1 HO1 hb1 hg1 hm1)
    go_ret
    rw [← HZ.out] at HO1
    exact ⟨v', rfl, HO1, hb1, fun g hlt hne => (hg1.block g (by simp; omega) (fun e => hne e.symm)).trans ((Bal (Below.refl W.heap.size W) _).block g hlt), fun u ys hu ha => keepO (hu.alloc _) ha hg1 hm1⟩
  · have HZ := Lib.hid (Lib.encodeRuneZ_four (r := r) (by omega) h2)
    clear hr2
    go_enter Tryz.func127, Tryz.ntmps127
    go_wp2_with (at_builtin; refine app (E := eInt .u8) (w0 := w0) _ _ 160 5 (.int .u8 0) 1 rfl rfl Tryz.underlying160 info_u8b rfl (by decide) (by decide) v zs [240 + r / 262144, 128 + r / 4096 % 64, 128 + r / 64 % 64, 128 + r % 64] ⟨W.heap.size, 0, none⟩ 4 4 rfl rfl rfl (hO.alloc _) (SlA.new (eInt .u8) W [240 + r / 262144, 128 + r / 4096 % 64, 128 + r / 64 % 64, 128 + r % 64] 5 _ rfl _ rfl) Bel (by simp; omega) ?_; intro v' w1 HO1 hb1 hg1 hm1)
    go_ret
    rw [← HZ.out] at HO1
    exact ⟨v', rfl, HO1, hb1, fun g hlt hne => (hg1.block g (by simp; omega) (fun e => hne e.symm)).trans ((Bal (Below.refl W.heap.size W) _).block g hlt), fun u ys hu ha => keepO (hu.alloc _) ha hg1 hm1⟩
set_option maxRecDepth 100000 in
set_option maxHeartbeats 4000000 in
theorem append_m (w0 : World) (v : Value) (zs : List Int) (r : Int) (W : World) (hO : Own (eInt .u8) w0.heap.size 5 W v zs) (hb : Below w0.heap.size w0 W) (hr : IsR r) (hl : zs.length ≤ 4194304) :
    Calls Tryz.prog 79 #[v, .int .i32 r] W (ApmPost w0 W v zs r) := by
  by_cases hna : 128 ≤ r
  · have HR := Lib.hid hr
    obtain ⟨hr0, hr1, hr2⟩ := hr
    clear hr2
    go_enter Tryz.func79, Tryz.ntmps79
    go_wp2_with (go_at_call 127; refine (napp_m w0 v zs r _ hO hb HR.out hna hl).mono ?_; rintro e w1 ⟨v', rfl, h1, h2, h3, h4⟩)
    go_ret
    exact ⟨v', rfl, h1, h2, h3, h4⟩
  · obtain ⟨hr0, hr1, hr2⟩ := hr
    have HZ := Lib.hid (Lib.encodeRuneZ_one (r := r) hr0 (by omega))
    clear hr2
    go_enter Tryz.func79, Tryz.ntmps79
    go_wp2_with (at_builtin; refine app (E := eInt .u8) (w0 := w0) _ _ 160 5 (.int .u8 0) 1 rfl rfl Tryz.underlying160 info_u8b rfl (by decide) (by decide) v zs [r] ⟨W.heap.size, 0, none⟩ 1 1 rfl rfl rfl (hO.alloc _) (SlA.new (eInt .u8) W [r] 5 _ rfl _ rfl) Bel (by simp; omega) ?_; intro v' w1 HO1 hb1 hg1 hm1)
    go_ret
    rw [← HZ.out] at HO1
    exact ⟨v', rfl, HO1, hb1, fun g hlt hne => (hg1.block g (by simp; omega) (fun e => hne e.symm)).trans ((Bal (Below.refl W.heap.size W) _).block g hlt), fun u ys hu ha => keepO (hu.alloc _) ha hg1 hm1⟩
end Go.Proofs.YtpnhmapkdbnkmaaGreatDoor
