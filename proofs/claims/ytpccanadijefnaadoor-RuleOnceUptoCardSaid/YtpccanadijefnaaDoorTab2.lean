/- count.Table walked. No condition. -/
import Derived.Test.YtpccanadijefnaaDoorTab
import Derived.Deep.AppendLies
namespace Go.Proofs.YtpccanadijefnaaDoor
open Go Go.RowKit Go.Shelf
noncomputable def tabE (l : List T3) : Int := if eachT l ≠ 0 then eachT l else if 1073741824 < sumT l then 6 else if 4096 < (gathL l).length then 6 else 0
/-- A table of a list. -/
def TabOf (l ys : List T3) : Prop := ys.Perm (gathL l) ∧ ys.Pairwise fun x y => ltT y x = false
def TabPost (w : World) (l : List T3) (e : Ending) (w' : World) : Prop :=
  ∃ ys r, e = .returned (.tuple #[r, .int .i64 (tabE l)]) ∧ SlV eT3 w' r ys ∧ Below w.heap.size w w' ∧ (tabE l = 0 → TabOf l ys) ∧ (tabE l ≠ 0 → ys = [])
theorem info_blk : (Tryd.prog.info? 25).map (fun i => (i.zero, i.size, i.bytes)) = some (some (.agg #[.string .empty, .string .empty, .int .i64 0]), 3, 40) := by kernel_rfl
theorem gath_sizes {M : Nat} (l : List T3) (h : ∀ b ∈ l, b.f.size ≤ M ∧ b.t.size ≤ M) : ∀ b ∈ gathL l, b.f.size ≤ M ∧ b.t.size ≤ M := by
  have : ∀ (l a : List T3), (∀ b ∈ l, b.f.size ≤ M ∧ b.t.size ≤ M) → (∀ b ∈ a, b.f.size ≤ M ∧ b.t.size ≤ M) → ∀ b ∈ l.foldl addL a, b.f.size ≤ M ∧ b.t.size ≤ M := fun l => by
    induction l with
    | nil => exact fun a _ h => h
    | cons x l ih => exact fun a h1 h2 => ih _ (fun b hb => h1 b (by simp [hb])) (addL_sizes h2 (h1 x (by simp)))
  exact this l [] h (by simp)
theorem gath_len (l : List T3) : (gathL l).length ≤ l.length := by
  have : ∀ (l a : List T3), (l.foldl addL a).length ≤ a.length + l.length := fun l => by
    induction l with
    | nil => simp
    | cons x l ih => exact fun a => by have h1 := ih (addL a x); have h2 := addL_len a x; simp only [List.foldl_cons, List.length_cons]; omega
  have h := this l []
  simpa [gathL] using h
theorem gath_sum (l : List T3) : sumT (gathL l) = sumT l := by
  have : ∀ (l a : List T3), sumT (l.foldl addL a) = sumT a + sumT l := fun l => by
    induction l with
    | nil => simp [sumT]
    | cons x l ih => exact fun a => by simp only [List.foldl_cons]; rw [ih, addL_sum]; simp [sumT]; omega
  have h := this l []
  simpa [gathL, sumT] using h
theorem gath_pos (l : List T3) (h : ∀ b ∈ l, 0 ≤ b.n) : ∀ b ∈ gathL l, 0 ≤ b.n := by
  have : ∀ (l a : List T3), (∀ b ∈ l, 0 ≤ b.n) → (∀ b ∈ a, 0 ≤ b.n) → ∀ b ∈ l.foldl addL a, 0 ≤ b.n := fun l => by
    induction l with
    | nil => exact fun a _ h => h
    | cons x l ih => exact fun a h1 h2 => ih _ (fun b hb => h1 b (by simp [hb])) (addL_pos a x h2 (h1 x (by simp)))
  exact this l [] h (by simp)
theorem Own.cells3 {base : Nat} {e : TypeId} {w : World} {g cap : Nat} {l : List T3} (h : Own eT3 base e w (.slice (some ⟨g, 0, none⟩) l.length cap) l) (j : Nat) (hj : j < l.length) :
    g < w.heap.size ∧ w.cell? ⟨g, j * 3, none⟩ = some (.string l[j].f) ∧ w.cell? ⟨g, j * 3 + 1, none⟩ = some (.string l[j].t) ∧ w.cell? ⟨g, j * 3 + 2, none⟩ = some (.int .i64 l[j].n) := by
  obtain ⟨A, c, h1, _, _, h4⟩ := h.slv
  obtain ⟨b, o, hA, h5, h6, h7, h8⟩ := h4.n3 (fun _ => rfl) (Below.refl _ _) j hj
  subst hA
  injection h1 with h1 _ _
  injection h1 with h1
  injection h1 with h1 h2
  subst h1 h2
  simp only [Nat.zero_add] at h6 h7 h8
  exact ⟨h5, h6, h7, h8⟩
theorem cmpS_neg (a b : ByteArray) : cmpS a b = if Op.bytesLess a.toList b.toList = true then -1 else if (a.toList == b.toList) = true then 0 else 1 := rfl
def cmpB (a b : T3) : Int := if ltT a b = true then -1 else if ltT b a = true then 1 else 0
theorem lt_cmpB (a b : T3) : ltOf cmpB a b = ltT a b := by
  unfold ltOf cmpB
  cases h : ltT a b
  · cases h2 : ltT b a <;> simp
  · simp
instance : Inhabited T3 := ⟨⟨.empty, .empty, 0⟩⟩
theorem sortB_c (base : Nat) (w : World) (v : Value) (xs : List T3) (hown : Own eT3 base 25 w v xs) (hm : xs.length < 4611686018427387904) :
    Calls Tryd.prog 82 #[v, .func (.func 79) #[] #[]] w fun e' w' => e' = .returned (.tuple #[]) ∧ ∃ ys, ys.Perm xs ∧ ys.Pairwise (fun x y => ltT y x = false) ∧ SlV eT3 w' v ys ∧ w.grownBy w' v.ownBlock := by
  refine (sort_c (E := eT3) Tryd.sortBlocks (fun w => by kernel_rfl) (fun w => by kernel_rfl) cmpB ?_ 79 (fun args w => enters_of Tryd.func79 (by kernel_rfl) rfl args w) (fun x y W => ccomp_g x y W) w v xs hown hm).mono ?_
  · exact (show ltOf cmpB = ltT from funext fun a => funext fun b => lt_cmpB a b) ▸ swoT
  · rintro e' w' ⟨h1, ys, h2, h3, h4, h5⟩
    exact ⟨h1, ys, h2, h3.imp (fun {a b} h => by rwa [lt_cmpB] at h), h4, h5⟩
def TabRel (w0 : World) (B : Nat) (ys : List T3) (v : Value) (wr : World) : Prop :=
  Own eT3 w0.heap.size 25 wr v ys ∧ Mp wr B (mpL ys) ∧ v.ownBlock ≠ some B ∧ Below w0.heap.size w0 wr
set_option maxHeartbeats 2000000 in
set_option maxRecDepth 100000 in
theorem tab_c (A : Option Addr) (c : Nat) (xs : List T3) (w : World) (hU : U w) (hs : SlA eT3 w A xs) (hm : Small xs) :
    Calls Tryd.prog 37 #[.slice A xs.length c] w (TabPost w xs) := by
  have hl := hm.1
  have hmm := @run_makeMap Tryd.prog
  by_cases h0 : eachT xs = 0
  · have HE := Lib.hid h0
    have hn : ∀ b ∈ xs, 0 ≤ b.n ∧ b.n ≤ 2147483648 := fun b hb => by have := bchk_n b ((each_all xs).1 h0 b hb); omega
    have HN := Lib.hid hn
    clear h0 hn
    by_cases hsum : sumT xs ≤ 1073741824
    · have HV : Hid (sumV xs = .tuple #[.int .i64 (sumT xs), .bool true]) := by unfold sumV; rw [if_pos hsum]; rfl
      go_enter Tryd.func37, Tryd.ntmps37
      go_wp2_with (first
        | (go_at_call 80; refine (each_c A c xs _ hU hs hm).mono ?_; rintro e w1 ⟨rfl, hb1⟩; rw [HE.out])
        | (go_at_call 81; refine (sum_c A c xs _ (hs.below Bel) (by omega) HN.out).mono ?_; rintro e w2 ⟨rfl, hb2⟩; rw [HV.out]))
      go_loopw [8, 28] (fun v i wr => ∃ k : Nat, k ≤ xs.length ∧ i = .int .i64 k ∧ TabRel w w2.heap.size (gathL (xs.take k)) v wr) (fun _ i _ => xs.length - (intOf i).toNat)
      case atStart => exact ⟨0, by omega, rfl, Own.nil _, (Mp.made _), by simp [Value.ownBlock], Bel⟩
      case round =>
        obtain ⟨k, hk, rfl, HO, HM, hne, hb⟩ := hrel
        have hB : w.heap.size ≤ w2.heap.size := Nat.le_trans hb1.size hb2.size
        by_cases hlt : k < xs.length
        · obtain ⟨b, o, rfl, hbs, c1, c2, c3⟩ := hs.n3 (fun _ => rfl) hb k hlt
          obtain ⟨z1, z2⟩ := hm.at k hlt
          have hgt := gath_take xs k hlt
          have hA := gath_aps (xs.take k)
          have hsz : ∀ y ∈ gathL (xs.take k), y.f.size ≤ maxLen ∧ y.t.size ≤ maxLen := gath_sizes _ fun y hy => by
            have := hm.2 y (List.mem_of_mem_take hy); simp only [maxLen]; omega
          obtain ⟨lx, hkx⟩ := kv_key (b := xs[k]) (by simp only [maxLen]; omega) (by simp only [maxLen]; omega)
          have hlen : (gathL (xs.take k)).length ≤ k := by have := gath_len (xs.take k); simp at this; omega
          rcases addL_cases _ xs[k] hA with ⟨j, hj, hsm, hadd⟩ | ⟨hno, hadd⟩
          · have hr := mpL_finds hj hsm
            rw [hadd] at hgt
            have HG := Lib.hid hgt
            have hpos := gath_pos (xs.take k) fun y hy => (HN.out y (List.mem_of_mem_take hy)).1
            have hle := mem_sum _ hpos _ (List.getElem_mem hj)
            rw [gath_sum] at hle
            have hp0 := hpos _ (List.getElem_mem hj)
            have hp1 := HN.out _ (List.getElem_mem hlt)
            have hst := sum_take xs k hlt
            have hst2 := sum_take_le xs (k + 1) fun y hy => (HN.out y hy).1
            rw [hst] at hst2
            clear hgt hadd hst hpos
            generalize gathL (xs.take k) = ys at *
            have hn1 : -9223372036854775808 ≤ ys[j].n + xs[k].n ∧ ys[j].n + xs[k].n ≤ 9223372036854775807 := by omega
            clear hst2 hle
            have HO' := HO
            rcases HO.2 with ⟨rfl, h0⟩ | ⟨g, cap, cur, rfl, hgb, hgg, hg1, hg2, _⟩
            · omega
            have hmx : cap ≤ 9223372036854775807 := by simpa [maxLen] using hg2
            clear hgg hg1 hg2
            obtain ⟨hgs, d1, d2, d3⟩ := HO'.cells3 j hj
            have hfz := World.ownsRow.frozenAt HO' (j * 3 + 2)
            have hj1 : (j : Int) < ys.length := by omega
            have hw1 : IntKind.i64.wrap (ys[j].n + xs[k].n) = ys[j].n + xs[k].n := IntWalk.i64_in _ (by omega)
            go_wp2_with (at_lookup; refine wpList_lookup_mp rfl _ _ 109 rfl 111 3 sides_keyed Tryd.underlying109 (.int .i64 0) (by rfl) _ (mpL ys) rfl (HM.below Bel) (mpL_apart hA) (mpL_key hsz) (kv xs[k]) lx rfl hkx _ hr ?_)
            have q3 : (wr.alloc (.cells #[.string xs[k].f, .string xs[k].t, .int .i64 xs[k].n] 25)).cell? ⟨g, j * 3 + 2, none⟩ = some (.int .i64 ys[j].n) := by simp [go_sem, d3, hgs]
            have qf : (wr.alloc (.cells #[.string xs[k].f, .string xs[k].t, .int .i64 xs[k].n] 25)).frozen? ⟨g, j * 3 + 2, none⟩ = false := by simp [go_sem, hfz, hgs]
            refine region_qtail 10 (by kernel_rfl) (by kernel_rfl) (fun W => ∃ n, W = World.drewN _ n) ⟨1, rfl⟩ ?_
            simp only [List.take_succ_cons, List.take_zero, List.drop_succ_cons, List.drop_zero]
            repeat (quiet_step (fail))
            refine wpQuiet_nil ?_
            intro _ hw'
            obtain ⟨nq, rfl⟩ := hw'
            go_wp2
            refine ⟨⟨k + 1, by omega, by go_num, ?_⟩, by simp [intOf]; omega⟩
            rw [HG.out]
            have hB1 : Below wr.heap.size wr ((wr.alloc (.cells #[.string xs[k].f, .string xs[k].t, .int .i64 xs[k].n] 25)).drewN nq) := Bel
            have HO6 := (HO'.below hB1).count j hj (ys[j].n + xs[k].n)
            refine ⟨HO6.1, ?_, hne, Bsc (Bdn (Bal hb _) _) hgb _⟩
            rw [mpL_keys (keys_set ys j hj _)]
            exact (HM.below hB1).setCell _ (fun e => hne (by simp only [Value.ownBlock]; rw [← e])) _
          · have hr := mpL_misses hno
            rw [hadd] at hgt
            have HG := Lib.hid hgt
            clear hgt hadd hno
            generalize gathL (xs.take k) = ys at *
            obtain ⟨Av, cv, rfl, hvc, hvm, hvs⟩ := HO.slv
            go_wp2_with (first
              | (at_lookup; (refine wpList_lookup_mp rfl _ _ 109 rfl 111 3 sides_keyed Tryd.underlying109 (.int .i64 0) (by rfl) _ (mpL ys) rfl (HM.below Bel) (mpL_apart hA) (mpL_key hsz) (kv xs[k]) lx rfl hkx _ hr.2 ?_))
              | (at_mapUpdate
                 go_loud (
                  refine wpList_mapUpdate_mp rfl _ _ _ 109 rfl 111 3 sides_keyed Tryd.underlying109 _ (mpL ys) rfl (HM.below Bel) (mpL_key hsz) (kv xs[k]) _ lx rfl rfl hkx hr.1 ?_
                  intro w4 HM4 hg4
                  have hlt2 := HM.lt
                  have hs4 := hg4.size
                  have d0 : w4.cell? ⟨wr.heap.size, 0, none⟩ = some (.string xs[k].f) := (hg4.cell_far _ (by simp) (by simp; omega)).trans (by simp [go_sem])
                  have d1 : w4.cell? ⟨wr.heap.size, 1, none⟩ = some (.string xs[k].t) := (hg4.cell_far _ (by simp) (by simp; omega)).trans (by simp [go_sem])
                  have d2 : w4.cell? ⟨wr.heap.size, 2, none⟩ = some (.int .i64 xs[k].n) := (hg4.cell_far _ (by simp) (by simp; omega)).trans (by simp [go_sem])
                  have HO4 := (HO.alloc (.cells #[.string xs[k].f, .string xs[k].t, .int .i64 xs[k].n] 25)).kept hg4 (.inr hne)
                  have hb4 := Bgr (Bal hb (.cells #[.string xs[k].f, .string xs[k].t, .int .i64 xs[k].n] 25)) hg4 (fun q hq => by injection hq with hq; omega)))
              | (at_builtin; refine app (E := eT3) _ _ 22 25 (.agg #[.string .empty, .string .empty, .int .i64 0]) 40 rfl rfl Tryd.underlying22 info_blk rfl (by decide) (by decide) _ ys [xs[k]] ⟨_, 0, none⟩ 1 1 rfl rfl rfl (HO4.below Bel) (SlA.new _ _ _ _ _ rfl _ rfl) Bel (by simp; omega) ?_; intro v1 w5 HO5 hb5 hg5 hm5))
            refine ⟨⟨k + 1, by omega, by go_num, ?_⟩, by simp [intOf]; omega⟩
            rw [HG.out]
            refine ⟨HO5, by rw [mpL_snoc]; exact (HM4.below Bel).kept hg5 (fun e => hne e.symm), ?_, hb5⟩
            have hl4 := HM4.lt
            rcases hm5 with h | h
            · rw [h]; exact hne
            · rw [h]; intro e; injection e with e; simp at e; omega
        · have hkk : xs.take k = xs := List.take_of_length_le (by omega)
          rw [hkk] at HO HM
          clear hkk
          have hap := gath_aps xs
          have hgl := gath_len xs
          obtain ⟨Av, cv, rfl, hvc, hvm, hvs⟩ := HO.slv
          by_cases h4 : 4096 < (gathL xs).length
          · have HV : Hid (tabE xs = 6) := by unfold tabE; rw [if_neg (fun h => h HE.out), if_neg (by omega), if_pos h4]; rfl
            go_wp2
            go_ret2
            exact ⟨[], _, by rw [HV.out]; rfl, SlV.nil, Bel, fun h => absurd h (by rw [HV.out]; decide), fun _ => rfl⟩
          · have HV : Hid (tabE xs = 0) := by unfold tabE; rw [if_neg (fun h => h HE.out), if_neg (by omega), if_neg h4]; rfl
            go_wp2_with (go_at_call 82; refine (sortB_c _ _ _ _ HO (by omega)).mono ?_; rintro e w3 ⟨rfl, ys, hp, hso, hys, hg3⟩)
            go_ret2
            exact ⟨ys, _, by rw [HV.out]; rfl, hys, Bgr hb hg3 HO.ge, fun _ => ⟨hp, hso⟩, fun h => absurd HV.out h⟩
    · have HV : Hid (sumV xs = .tuple #[.int .i64 0, .bool false]) := by unfold sumV; rw [if_neg hsum]; rfl
      have HT : Hid (tabE xs = 6) := by unfold tabE; rw [if_neg (fun h => h HE.out), if_pos (by omega)]; rfl
      go_enter Tryd.func37, Tryd.ntmps37
      go_wp2_with (first
        | (go_at_call 80; refine (each_c A c xs _ hU hs hm).mono ?_; rintro e w1 ⟨rfl, hb1⟩; rw [HE.out])
        | (go_at_call 81; refine (sum_c A c xs _ (hs.below Bel) (by omega) HN.out).mono ?_; rintro e w2 ⟨rfl, hb2⟩; rw [HV.out]))
      go_ret2
      exact ⟨[], _, by rw [HT.out]; rfl, SlV.nil, Bel, fun h => absurd h (by rw [HT.out]; decide), fun _ => rfl⟩
  · have hn : (eachT xs != 0) = true := by simp [h0]
    have HT : Hid (tabE xs = eachT xs) := by unfold tabE; rw [if_pos h0]; rfl
    have H0 := Lib.hid h0
    clear h0
    go_enter Tryd.func37, Tryd.ntmps37
    go_wp2_with (go_at_call 80; refine (each_c A c xs _ hU hs hm).mono ?_; rintro e w1 ⟨rfl, hb1⟩)
    go_ret2
    exact ⟨[], _, by rw [HT.out]; rfl, SlV.nil, Bel, fun h => absurd (HT.out.symm.trans h) H0.out, fun _ => rfl⟩
end Go.Proofs.YtpccanadijefnaaDoor
