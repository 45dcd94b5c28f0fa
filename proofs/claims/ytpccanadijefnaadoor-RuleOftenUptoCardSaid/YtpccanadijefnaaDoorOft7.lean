/- 'RuleOften' walked. No condition. -/
import Derived.Test.YtpccanadijefnaaDoorFndR
import Derived.Test.YtpccanadijefnaaDoorTab6
import Derived.Test.YtpccanadijefnaaDoorMks7
namespace Go.Proofs.YtpccanadijefnaaDoor
open Go Go.RowKit
/-- A cost is between 1 and 255, and falls. -/
theorem cstT_in (l : List T3) (n : Int) : 1 ≤ cstT l n ∧ cstT l n ≤ 255 := by unfold cstT costN; omega
theorem cstT_le (l : List T3) {a b : Int} (h : a ≤ b) : cstT l b ≤ cstT l a := by
  unfold cstT costN
  have := ratio_le ((sumT l).toNat + l.length) (b := a.toNat + 1) (c := b.toNat + 1) (by omega) (by omega)
  omega
theorem mak_mem {l m : List T3} {n : Int} {r : T3} : r ∈ makL l m n ↔ ∃ x ∈ m, n ≤ x.n ∧ r = mkR l x := by
  unfold makL
  simp only [List.mem_map, List.mem_filter, decide_eq_true_eq]
  constructor
  · rintro ⟨x, ⟨h1, h2⟩, rfl⟩; exact ⟨x, h1, h2, rfl⟩
  · rintro ⟨x, h1, h2, rfl⟩; exact ⟨x, ⟨h1, h2⟩, rfl⟩
theorem mak_rise {l m : List T3} (n : Int) (h : m.Pairwise fun x y => ltT x y = true) : (makL l m n).Pairwise fun x y => ltT x y = true := by
  unfold makL
  rw [List.pairwise_map]
  exact (h.sublist List.filter_sublist).imp fun {a b} hab => (ltT_same (a := mkR l a) (a' := a) rfl rfl rfl rfl).trans hab
theorem mak_is {l : List T3} (h : tchk l = 0) (n : Int) : isE (makL l l n) = 0 := by
  obtain ⟨h1, h2, h3, h4⟩ := tchk_zero h
  have he : errR (makL l l n) = [] := by
    unfold errR
    rw [List.filter_eq_nil_iff]
    intro e he
    obtain ⟨r, hr, rfl⟩ := List.mem_map.1 he
    obtain ⟨x, hx, _, rfl⟩ := mak_mem.1 hr
    have hb := bchk_with (b := ⟨x.f, x.t, 1⟩) (x := x) rfl rfl ((each_all l).1 h1 x hx) (by show (1 : Int) ≤ 1; omega) (by show (1 : Int) ≤ _; omega)
    have hc := cstT_in l x.n
    have : rchk (mkR l x) = 0 := by
      unfold rchk
      rw [if_neg (by simpa [mkR] using hb), if_neg (by show ¬ (cstT l x.n < 1 ∨ 255 < cstT l x.n); omega)]
    simp [this]
  unfold isE
  have hr := rise_of (mak_rise (l := l) n (of_rise h2))
  have hlen := makL_len l l n
  rw [if_neg (by simp [he]), if_neg (by rw [hr]; simp), if_neg (by omega)]
theorem mak_len {l m : List T3} {a b : Int} (h : a ≤ b) : (makL l m b).length ≤ (makL l m a).length := by
  unfold makL
  rw [List.length_map, List.length_map, ← List.countP_eq_length_filter, ← List.countP_eq_length_filter]
  exact List.countP_mono_left fun x _ hx => by simp only [decide_eq_true_eq] at *; omega
theorem mak_find {l : List T3} (h : tchk l = 0) {n m : Int} (hnm : n ≤ m) {r : T3} (hr : r ∈ makL l l m) : rfindV (makL l l n) r.f r.t = .tuple #[.int .i64 r.n, .int .i64 0] := by
  obtain ⟨x, hx, h1, rfl⟩ := mak_mem.1 hr
  have h2 : mkR l x ∈ makL l l n := mak_mem.2 ⟨x, hx, by omega, rfl⟩
  obtain ⟨i, hi, e⟩ := List.getElem_of_mem h2
  have hA := rise_aps (mak_rise (l := l) n (of_rise (tchk_zero h).2.1))
  unfold rfindV
  rw [if_neg (by simp [mak_is h n]), cost_at hA hi (by rw [e]; exact ⟨rfl, rfl⟩), e]
theorem mak_seen {l : List T3} (h : tchk l = 0) {m : Int} {r : T3} (hr : r ∈ makL l l m) : ∃ x : Int, findV l r.f r.t = .tuple #[.int .i64 x, .int .i64 0] ∧ m ≤ x ∧ 1 ≤ x ∧ x ≤ 1073741824 ∧ r.n = cstT l x := by
  obtain ⟨x, hx, h1, rfl⟩ := mak_mem.1 hr
  have hz := tchk_zero h
  have hn := bchk_n x ((each_all l).1 hz.1 x hx)
  refine ⟨x.n, ?_, h1, hn.1, hn.2, rfl⟩
  unfold findV
  rw [h, if_pos rfl]
  show Value.tuple #[.int .i64 (tot l x.f x.t), _] = _
  rw [tot_mem (rise_aps (of_rise hz.2.1)) hx]
theorem mak_small {l : List T3} (h : Small l) (n : Int) : Small (makL l l n) := by
  refine ⟨Nat.le_trans (makL_len l l n) h.1, fun r hr => ?_⟩
  obtain ⟨x, hx, _, rfl⟩ := mak_mem.1 hr
  exact h.2 x hx
theorem makR_ok {l : List T3} (h : tchk l = 0) {n : Int} (h1 : 1 ≤ n) (h2 : n ≤ 1073741824) : makE l n = 0 ∧ makR l n = makL l l n := by
  have e : makE l n = 0 := by unfold makE; rw [if_neg (by simp [h]), if_neg (by omega)]
  exact ⟨e, by unfold makR; rw [if_pos e]⟩
set_option maxHeartbeats 3000000 in
set_option maxRecDepth 100000 in
theorem often_c (A : Option Addr) (c : Nat) (xs : List T3) (n m : Nat) (w : World) (hU : U w) (hs : SlA eT3 w A xs) (hm : Small xs) (hn : n ≤ 65535) (hmm : m ≤ 65535) :
    Calls Tryd.prog 5 #[.slice A xs.length c, .int .u16 n, .int .u16 m] w (Ret w (.bool true)) := by
  have hl := hm.1
  by_cases hlen : 200 < xs.length
  · have hlen1 : (200 : Int) < xs.length := by omega
    go_enter Tryd.func5, Tryd.ntmps5
    go_wp2_with (first
      | (go_at_call 21; refine (alive7_c _ (hU.to Bel)).mono ?_; rintro e w1 ⟨rfl, hb1⟩)
      | (go_at_call 32; refine (r6tab_c A c xs _ (hs.below Bel) hm).mono ?_; rintro e w4 ⟨zs, r, rfl, hzs, hb4, hok, hno⟩; obtain ⟨A2, c2, rfl, hc21, hc22, hzs1⟩ := hzs; clear hok hno))
    go_ret
    exact ⟨rfl, Bel⟩
  have hlen1 : decide ((200 : Int) < xs.length) = false := by simp; omega
  by_cases h0 : tabE xs = 0
  · have H0 := Lib.hid h0
    clear h0
    have hw1 : IntKind.i64.wrap ((n : Int) + 1) = (n : Int) + 1 := IntWalk.i64_in _ (by omega)
    have hw2 : IntKind.i64.wrap ((n : Int) + 1 + m) = (n : Int) + 1 + m := IntWalk.i64_in _ (by omega)
    go_enter Tryd.func5, Tryd.ntmps5
    go_wp2_with (first
      | (go_at_call 22; fail)
      | (go_at_call 21; refine (alive7_c _ (hU.to Bel)).mono ?_; rintro e w1 ⟨rfl, hb1⟩)
      | (go_at_call 32; refine (r6tab_c A c xs _ (hs.below Bel) hm).mono ?_; rintro e w4 ⟨ys, r, rfl, hys, hb4, hok, hno⟩; obtain ⟨A1, c1, rfl, hc11, hc12, hys1⟩ := hys; have HT := Lib.hid (hok H0.out); rw [H0.out]; clear hok hno))
    have hck := HT.out.ok H0.out
    have hysm := HT.out.small hm
    obtain ⟨P, hP⟩ : ∃ P : Int, (n : Int) + 1 = P := ⟨_, rfl⟩
    obtain ⟨R, hR⟩ : ∃ R : Int, P + m = R := ⟨_, rfl⟩
    have hP1 : 1 ≤ P ∧ P ≤ 1073741824 := by omega
    have hR1 : P ≤ R ∧ R ≤ 1073741824 := by omega
    simp only [hP, hR]
    clear hw1 hw2 hP hR
    obtain ⟨e1, e2⟩ := makR_ok hck hP1.1 hP1.2
    obtain ⟨e3, e4⟩ := makR_ok hck (n := R) (by omega) hR1.2
    have hmk1 := fun W hU hs => make_c A1 c1 ys P W hU hs hysm (by omega)
    have hmk2 := fun W hU hs => make_c A1 c1 ys R W hU hs hysm (by omega)
    unfold MakPost at hmk1 hmk2
    rw [e1, e2] at hmk1
    rw [e3, e4] at hmk2
    have his1 := mak_is hck P
    have his2 := mak_is hck R
    have hll := mak_len (l := ys) (m := ys) hR1.1
    have hfd := fun r hr => mak_find hck hR1.1 (r := r) hr
    have hsn := fun r hr => mak_seen hck (m := R) (r := r) hr
    have hsm1 := mak_small hysm P
    have hsm2 := mak_small hysm R
    generalize makL ys ys P = al at *
    generalize makL ys ys R = bl at *
    have hl1 := hsm1.1
    have hl2 := hsm2.1
    have hll1 : decide (al.length < bl.length) = false := by simp; omega
    have hll2 : ¬ al.length < bl.length := by omega
    replace hmk1 := Lib.hid hmk1; replace hmk2 := Lib.hid hmk2; replace hfd := Lib.hid hfd; replace hsn := Lib.hid hsn; replace his1 := Lib.hid his1; replace his2 := Lib.hid his2; replace hck := Lib.hid hck; replace hll := Lib.hid hll
    clear e1 e2 e3 e4
    have hb4w : Below w.heap.size w w4 := Bel
    refine (hmk1.out _ (hU.to Bel) (hys1.below Bel)).mono ?_
    rintro e w5 ⟨A2, c2, rfl, hs2, hb5⟩
    go_wp2_with fail
    refine (hmk2.out _ (hU.to Bel) (hys1.below Bel)).mono ?_
    rintro e w6 ⟨A3, c3, rfl, hs3, hb6⟩
    go_wp2_with fail
    refine (is_c A2 c2 al _ (hU.to Bel) (hs2.below Bel) hsm1).mono ?_
    rintro e w7 ⟨rfl, hb7⟩
    rw [his1.out]
    go_wp2_with fail
    refine (is_c A3 c3 bl _ (hU.to Bel) (hs3.below Bel) hsm2).mono ?_
    rintro e w8 ⟨rfl, hb8⟩
    rw [his2.out]
    go_wp2_with fail
    have hs38 := hs3.below (w' := w8) Bel
    have hs28 := hs2.below (w' := w8) Bel
    have hys8 := hys1.below (w' := w8) Bel
    have hb8w : Below w.heap.size w w8 := Bel
    have hU8 := hU.to hb8w
    clear hys1 hs2 hs3 hb4 hb5 hb6 hb7 hb8 hb4w
    go_loopw [85] (fun s wr => ∃ k : Nat, k ≤ bl.length ∧ s = .int .i64 k ∧ Below w8.heap.size w8 wr) (fun s _ => bl.length - (intOf s).toNat)
    case atStart => exact ⟨0, by omega, rfl, Bel⟩
    case round =>
      obtain ⟨k, hk, rfl, hb⟩ := hrel
      obtain ⟨wp, rfl⟩ : ∃ wp, wp = wr := ⟨_, rfl⟩
      by_cases hlt : k < bl.length
      · obtain ⟨b, o, rfl, hbs, p1, p2, p3⟩ := hs38.n3 (fun _ => rfl) hb k hlt
        obtain ⟨r, hr⟩ : ∃ r, bl[k] = r := ⟨_, rfl⟩
        have hmem : r ∈ bl := hr ▸ List.getElem_mem hlt
        rw [hr] at p1 p2 p3
        have HFD := Lib.hid (hfd.out r hmem)
        obtain ⟨x, hx0, hx1, hx2, hx3, hx4⟩ := hsn.out r hmem
        have HSN := Lib.hid hx0; have HX4 := Lib.hid hx4
        have hxd : decide (x < R) = false := by simp; omega
        clear hx0 hx4 hr
        go_wp2_with (first
          | (go_at_call 33; refine (rfind_c A2 c2 al r.f r.t _ (hU8.to Bel) (hs28.below Bel) hsm1).mono ?_; rintro e w9 ⟨rfl, hb9⟩; rw [HFD.out]; obtain ⟨hc9, hz9⟩ := bcell hb9; have hs9 : wp.heap.size < w9.heap.size := Nat.lt_of_lt_of_le (by simp) hb9.size)
          | (go_at_call 34; refine (find_c A1 c1 ys r.f r.t _ (hU8.to Bel) (hys8.below Bel) hysm).mono ?_; rintro e wa ⟨rfl, hba⟩; rw [HSN.out]; obtain ⟨hca, hza⟩ := bcell hba; have hsa : wp.heap.size < wa.heap.size := Nat.lt_of_lt_of_le hs9 hba.size))
        have hrc := (B3.new wp r 33).below (Bst hb9 hba)
        have hba2 : Below w8.heap.size w8 wa := Bst (Bst (Bal hb _) hb9) hba
        clear p1 p2 p3 hc9 hz9 hs9 hca hza hxd
        go_loopw [126] (fun s wr => ∃ j : Nat, j ≤ bl.length ∧ s = .int .i64 j ∧ Below wa.heap.size wa wr) (fun s _ => bl.length - (intOf s).toNat)
        case atStart => exact ⟨0, by omega, rfl, Below.refl _ _⟩
        case round =>
          obtain ⟨j, hj, rfl, hbi⟩ := hrel
          have hbi8 : Below w8.heap.size w8 wr := Bst hba2 hbi
          by_cases hjl : j < bl.length
          · obtain ⟨b', o', hq, hbs', q1, q2, q3⟩ := hs38.n3 (fun _ => rfl) hbi8 j hjl
            injection hq with hq
            injection hq with hq1 hq2
            subst hq1 hq2
            obtain ⟨_, r0, r1, r2⟩ := hrc.below hbi
            obtain ⟨s, hs'⟩ : ∃ s, bl[j] = s := ⟨_, rfl⟩
            have hmem' : s ∈ bl := hs' ▸ List.getElem_mem hjl
            rw [hs'] at q1 q2 q3
            obtain ⟨y, hy0, hy1, hy2, hy3, hy4⟩ := hsn.out s hmem'
            have HSY := Lib.hid hy0
            have hrl : wp.heap.size < wr.heap.size := Nat.lt_of_lt_of_le hsa hbi.size
            have hcs : x < y → s.n ≤ r.n := fun h => by rw [hy4, HX4.out]; exact cstT_le ys (by omega)
            clear hy0 hy4 hs'
            by_cases hxy : x < y
            · have hns := hcs hxy
              have hns2 : decide (r.n < s.n) = false := by simp; omega
              clear hcs
              go_wp2_with (go_at_call 34; refine (find_c A1 c1 ys s.f s.t _ (hU8.to Bel) (hys8.below Bel) hysm).mono ?_; rintro e wc ⟨rfl, hbc⟩; rw [HSY.out]; obtain ⟨hcc, hzc⟩ := bcell hbc; have hsc : wr.heap.size < wc.heap.size := Nat.lt_of_lt_of_le (by simp) hbc.size)
              exact ⟨⟨j + 1, by omega, by go_num, Bel⟩, by simp [intOf]; omega⟩
            · have hxy2 : decide (x < y) = false := by simp; omega
              clear hcs
              go_wp2_with (go_at_call 34; refine (find_c A1 c1 ys s.f s.t _ (hU8.to Bel) (hys8.below Bel) hysm).mono ?_; rintro e wc ⟨rfl, hbc⟩; rw [HSY.out]; obtain ⟨hcc, hzc⟩ := bcell hbc; have hsc : wr.heap.size < wc.heap.size := Nat.lt_of_lt_of_le (by simp) hbc.size)
              exact ⟨⟨j + 1, by omega, by go_num, Bel⟩, by simp [intOf]; omega⟩
          · go_wp2
            exact ⟨⟨k + 1, by omega, by go_num, hbi8⟩, by simp [intOf]; omega⟩
      · go_wp2
        go_ret
        exact ⟨rfl, Bel⟩
  · have hn : (tabE xs != 0) = true := by simp [h0]
    clear h0
    go_enter Tryd.func5, Tryd.ntmps5
    go_wp2_with (first
      | (go_at_call 21; refine (alive7_c _ (hU.to Bel)).mono ?_; rintro e w1 ⟨rfl, hb1⟩)
      | (go_at_call 32; refine (r6tab_c A c xs _ (hs.below Bel) hm).mono ?_; rintro e w4 ⟨zs, r, rfl, hzs, hb4, hok, hno⟩; obtain ⟨A2, c2, rfl, hc21, hc22, hzs1⟩ := hzs; clear hok hno))
    go_ret
    exact ⟨rfl, Bel⟩
end Go.Proofs.YtpccanadijefnaaDoor
