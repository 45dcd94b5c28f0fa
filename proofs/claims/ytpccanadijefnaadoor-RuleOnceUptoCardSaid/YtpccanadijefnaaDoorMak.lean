/- rule.Make and the reference's Make: one answer. No condition. -/
import Derived.Test.YtpccanadijefnaaDoorRatio
import Derived.Test.YtpccanadijefnaaDoorLaw6
import Derived.Test.YtpccanadijefnaaDoorCnt3
namespace Go.Proofs.YtpccanadijefnaaDoor
open Go Go.RowKit
theorem info_rule : (Tryd.prog.info? 33).map (fun i => (i.zero, i.size, i.bytes)) = some (some (.agg #[.string .empty, .string .empty, .int .i64 0]), 3, 40) := by kernel_rfl
/-- A table's rules. -/
noncomputable def cstT (l : List T3) (n : Int) : Int := ((costN (sumT l).toNat l.length n.toNat : Nat) : Int)
noncomputable def mkR (l : List T3) (b : T3) : T3 := ⟨b.f, b.t, cstT l b.n⟩
noncomputable def makL (l : List T3) (m : List T3) (least : Int) : List T3 := (m.filter fun b => decide (least ≤ b.n)).map (mkR l)
noncomputable def makE (l : List T3) (least : Int) : Int := if tchk l ≠ 0 then tchk l else if least < 1 ∨ 1073741824 < least then 2 else 0
noncomputable def makR (l : List T3) (least : Int) : List T3 := if makE l least = 0 then makL l l least else []
def MakPost (w : World) (l : List T3) (least : Int) (e : Ending) (w' : World) : Prop :=
  ∃ A c, e = .returned (.tuple #[.slice A (makR l least).length c, .int .i64 (makE l least)]) ∧ SlA eT3 w' A (makR l least) ∧ Below w.heap.size w w'
theorem makL_take (l m : List T3) (least : Int) (k : Nat) (h : k < m.length) : makL l (m.take (k + 1)) least = makL l (m.take k) least ++ if least ≤ m[k].n then [mkR l m[k]] else [] := by
  unfold makL
  rw [List.take_succ_eq_append_getElem h, List.filter_append, List.map_append]
  congr 1
  by_cases hc : least ≤ m[k].n <;> simp [hc]
theorem makL_len (l m : List T3) (least : Int) : (makL l m least).length ≤ m.length := by
  unfold makL; rw [List.length_map]; exact List.length_filter_le _ _
theorem cstV_ok {l : List T3} (h : tchk l = 0) {k : Nat} (hk : k < l.length) : cstV (sumT l) l.length l[k].n = .tuple #[.int .i64 (cstT l l[k].n), .int .i64 0] := by
  obtain ⟨h1, _, h3, h4⟩ := tchk_zero h
  have hn : ∀ b ∈ l, 1 ≤ b.n ∧ b.n ≤ 1073741824 := fun b hb => bchk_n b ((each_all l).1 h1 b hb)
  have h5 := mem_sum l (fun b hb => by have := hn b hb; omega) _ (List.getElem_mem hk)
  have h6 := hn _ (List.getElem_mem hk)
  unfold cstV cstT
  rw [if_neg (by omega)]
  simp
set_option maxHeartbeats 1000000 in
set_option maxRecDepth 100000 in
theorem make_c (A : Option Addr) (c : Nat) (xs : List T3) (least : Int) (w : World) (hU : U w) (hs : SlA eT3 w A xs) (hm : Small xs) (hle : -9223372036854775808 ≤ least ∧ least ≤ 9223372036854775807) :
    Calls Tryd.prog 22 #[.slice A xs.length c, .int .i64 least] w (MakPost w xs least) := by
  have hl := hm.1
  by_cases h0 : tchk xs = 0
  · by_cases hb : least < 1 ∨ 1073741824 < least
    · have HE : Hid (makE xs least = 2) := by show makE xs least = 2; unfold makE; rw [if_neg (by simpa using h0), if_pos hb]
      have HR : Hid (makR xs least = []) := by show makR xs least = []; unfold makR; rw [HE.out, if_neg (by omega)]
      have HT : Hid (totV xs = .tuple #[.int .i64 (sumT xs), .int .i64 0]) := by show totV xs = _; unfold totV; rw [h0]; rfl
      clear h0
      rcases hb with hb | hb
      all_goals
        go_enter Tryd.func22, Tryd.ntmps22
        go_wp2_with (go_at_call 38; refine (total_c A c xs _ hU hs hm).mono ?_; rintro e w1 ⟨rfl, hb1⟩; rw [HT.out])
        go_ret2
        exact ⟨none, 0, by rw [HR.out, HE.out]; rfl, by rw [HR.out]; exact SlA.nil, Bel⟩
    · have HE : Hid (makE xs least = 0) := by show makE xs least = 0; unfold makE; rw [if_neg (by simpa using h0), if_neg hb]
      have HR : Hid (makR xs least = makL xs xs least) := by show makR xs least = _; unfold makR; rw [HE.out, if_pos rfl]
      have HT : Hid (totV xs = .tuple #[.int .i64 (sumT xs), .int .i64 0]) := by show totV xs = _; unfold totV; rw [h0]; rfl
      have H0 := Lib.hid h0
      obtain ⟨hz1, _, hz3, hz4⟩ := tchk_zero h0
      have hn : ∀ b ∈ xs, 1 ≤ b.n ∧ b.n ≤ 1073741824 := fun b hb => bchk_n b ((each_all xs).1 hz1 b hb)
      have hp0 := sum_nonneg xs fun b hb => by have := hn b hb; omega
      have HN := Lib.hid hn
      have hb1 : ¬ least < 1 := fun h => hb (.inl h)
      have hb2 : ¬ 1073741824 < least := fun h => hb (.inr h)
      clear h0 hb hz1 hn
      go_enter Tryd.func22, Tryd.ntmps22
      go_wp2_with (go_at_call 38; refine (total_c A c xs _ hU hs hm).mono ?_; rintro e w1 ⟨rfl, hb1⟩; rw [HT.out])
      go_loopw [8, 31] (fun v s wr => ∃ k : Nat, k ≤ xs.length ∧ s = .int .i64 k ∧ Own eT3 w.heap.size 33 wr v (makL xs (xs.take k) least) ∧ Below w.heap.size w wr) (fun _ s _ => xs.length - (intOf s).toNat)
      case atStart => exact ⟨0, by omega, rfl, by simpa [makL] using Own.nil _, Bel⟩
      case round =>
        obtain ⟨k, hk, rfl, HO, hb⟩ := hrel
        by_cases hlt : k < xs.length
        · obtain ⟨b, o, rfl, hbs, p1, p2, p3⟩ := hs.n3 (fun _ => rfl) hb k hlt
          have hmt := makL_take xs xs least k hlt
          have hml := makL_len xs (xs.take k) least
          simp only [List.length_take] at hml
          have HCV := Lib.hid (cstV_ok H0.out hlt)
          have hnk := HN.out _ (List.getElem_mem hlt)
          by_cases hq : xs[k].n < least
          · rw [if_neg (by omega), List.append_nil] at hmt
            have HMT := Lib.hid hmt
            clear hmt
            go_wp2
            exact ⟨⟨k + 1, by omega, by go_num, by rw [HMT.out]; exact HO.alloc _, Bel⟩, by simp [intOf]; omega⟩
          · rw [if_pos (by omega)] at hmt
            have HMT := Lib.hid hmt
            clear hmt
            go_wp2_with (first
              | (go_at_call 68; refine (cost_c (sumT xs) xs.length xs[k].n _ (by omega) (by omega) (by omega)).mono ?_; rintro e w2 ⟨rfl, hb2⟩; rw [HCV.out]; obtain ⟨hc2, hz2⟩ := bcell hb2; have hs2 : wr.heap.size < w2.heap.size := Nat.lt_of_lt_of_le (by simp) hb2.size)
              | (at_builtin; refine app (E := eT3) _ _ 26 33 (.agg #[.string .empty, .string .empty, .int .i64 0]) 40 rfl rfl Tryd.underlying26 info_rule rfl (by decide) (by decide) _ (makL xs (xs.take k) least) [mkR xs xs[k]] ⟨_, 0, none⟩ 1 1 rfl rfl rfl (((HO.alloc _).below hb2).alloc _) (SlA.new _ _ _ _ _ rfl _ rfl) Bel (by simp; omega) ?_; intro v1 w3 HO3 hb3 _ _))
            refine ⟨⟨k + 1, by omega, by go_num, by rw [HMT.out]; exact HO3, hb3⟩, by simp [intOf]; omega⟩
        · have hkk : xs.take k = xs := List.take_of_length_le (by omega)
          rw [hkk] at HO
          obtain ⟨A', c', rfl, _, _, hS⟩ := HO.slv
          clear hkk
          go_wp2
          go_ret2
          exact ⟨A', c', by rw [HR.out, HE.out]; rfl, by rw [HR.out]; exact hS, hb⟩
  · have HE : Hid (makE xs least = tchk xs) := by show makE xs least = _; unfold makE; rw [if_pos h0]
    have HR : Hid (makR xs least = []) := by show makR xs least = []; unfold makR; rw [HE.out, if_neg h0]
    have HT : Hid (totV xs = .tuple #[.int .i64 0, .int .i64 (tchk xs)]) := by show totV xs = _; unfold totV; rw [if_neg h0]
    have hn : (tchk xs != 0) = true := by simp [h0]
    clear h0
    go_enter Tryd.func22, Tryd.ntmps22
    go_wp2_with (go_at_call 38; refine (total_c A c xs _ hU hs hm).mono ?_; rintro e w1 ⟨rfl, hb1⟩; rw [HT.out])
    go_ret2
    exact ⟨none, 0, by rw [HR.out, HE.out]; rfl, by rw [HR.out]; exact SlA.nil, Bel⟩
end Go.Proofs.YtpccanadijefnaaDoor
