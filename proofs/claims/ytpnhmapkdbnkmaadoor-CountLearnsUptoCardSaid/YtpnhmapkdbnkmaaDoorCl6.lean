/- CountLearns walked. No condition. -/
import Derived.Test.YtpnhmapkdbnkmaaDoorCp6
namespace Go.Proofs.YtpnhmapkdbnkmaaDoor
open Go Go.RowKit
/-- 'append(s, x...)', where x may be nil: what it leaves. -/
theorem app_anyG {α : Type} {E : Enc α} {P : Program} {ops : Array Oper} {rest : List Oper} {o : Oper} {a : Act} {Q : Exit → Act → World → Prop} {w0 W : World} (s x : Operand) (t e : TypeId) (z : Value) (bytes : Nat)
    (hgd : o.guard = none) (ho : o.op = .call { callee := .builtin .append, args := #[s, x], argTypes := #[t, t] })
    (ht : P.underlying t = some (.slice e)) (hinfo : (P.info? e).map (fun i => (i.zero, i.size, i.bytes)) = some (some z, E.k, bytes)) (hz : z.cells.size = E.k) (hk : 0 < E.k) (hby : 0 < bytes)
    (v : Value) (xs ys : List α) (A : Option Addr) (c : Nat) (hs : a.eval s = v) (hx : a.eval x = .slice A ys.length c)
    (HO : Own E w0.heap.size e W v xs) (HS : SlA E W A ys) (hb : Below w0.heap.size w0 W) (hl : (xs.length + ys.length) * bytes ≤ 140737488355328)
    (h : ∀ v' w1, Own E w0.heap.size e w1 v' (xs ++ ys) → Below w0.heap.size w0 w1 → W.grownBy w1 v.ownBlock → wpList P ops Q rest (a.put o.dst v') w1) :
    wpList P ops Q (o :: rest) a W := by
  cases A with
  | some ad => exact app s x t e z bytes hgd ho ht hinfo hz hk hby v xs ys ad ys.length c hs hx rfl HO HS hb hl fun v' w1 h1 h2 h3 _ => h v' w1 h1 h2 h3
  | none =>
    have hy : ys = [] := by
      cases ys with
      | nil => rfl
      | cons y l => obtain ⟨b, o, hA, _⟩ := HS 0 y (by simp); cases hA
    subst hy
    refine wpList_plain hgd fun K hK => ?_
    obtain ⟨i0, hi, hzz⟩ := Option.map_eq_some_iff.1 hinfo
    have hrun := append_noneP (P := P) (w := W) w0.heap.size t o.type e i0 E.k ht hi v xs.length c _ HO
    have h' := hK _ _ (h v W (by rw [List.append_nil]; exact HO) hb ⟨rfl, rfl, rfl, Nat.le_refl _, fun _ _ _ => rfl⟩)
    simp only [List.length_nil] at hx
    unfold Oper.wp
    simp [execOp, ho, resolve, invoke, builtin, hs, hx, hrun, Result.andThen]
    exact h'
def dup (p : P2) : P2 := ⟨p.t, p.t⟩
theorem dup_E {p : P2} (h : pairE p = 0) : pairE (dup p) = 0 := by
  unfold pairE dup
  simp only
  rw [if_pos (pairE_ok h).2]
  exact (pairE_ok h).2
theorem dups_E {xs : List P2} (h : pairsE xs = 0) : pairsE (xs.map dup) = 0 := (pairsE_zero _).2 fun q hq => by
  obtain ⟨p, hp, rfl⟩ := List.mem_map.1 hq
  exact dup_E ((pairsE_zero _).1 h p hp)
theorem dups_B (xs : List P2) : pairsB (xs.map dup) = [] := by
  induction xs with
  | nil => rfl
  | cons p l ih =>
    unfold pairsB at *
    rw [List.map_cons, List.flatMap_cons, ih, List.append_nil]
    exact pairB_same p.t
theorem info_pair : (Tryd.prog.info? 26).map (fun i => (i.zero, i.size, i.bytes)) = some (some (.agg #[.string .empty, .string .empty]), 2, 32) := by kernel_rfl
theorem tabE_nil : tabE [] = 0 := by
  have e1 : eachT [] = 0 := rfl
  have e2 : sumT [] = 0 := rfl
  have e3 : (gathL []).length = 0 := rfl
  unfold tabE
  rw [e1, e2, e3]
  rfl
set_option maxRecDepth 100000 in
set_option maxHeartbeats 4000000 in
theorem clearns_c (A : Option Addr) (c : Nat) (xs : List P2) (w : World) (hU : U w) (hs : SlA eP2 w A xs) (hm : SmallP xs) :
    Calls Tryd.prog 3 #[.slice A xs.length c] w (Ret w (.bool true)) := by
  have hl := hm.1
  have HM := Lib.hid hm.2
  have hz : Hid (∀ p ∈ xs, p.n.size ≤ 17592186044416 ∧ p.t.size ≤ 17592186044416) := fun p hp => by have := HM.out p hp; omega
  clear hm
  by_cases h60 : 60 < xs.length
  · have h60' : (60 : Int) < xs.length := by omega
    go_enter Tryd.func3, Tryd.ntmps3
    go_wp2_with (go_at_call 11; refine (alive_c _ (hU.to Bel)).mono ?_; rintro e w1 ⟨rfl, hb1⟩)
    go_ret
    exact ⟨rfl, hb1⟩
  · have h60' : ¬ (60 : Int) < xs.length := by omega
    go_enter Tryd.func3, Tryd.ntmps3
    go_wp2_with (go_at_call 11; refine (alive_c _ (hU.to Bel)).mono ?_; rintro e w1 ⟨rfl, hb1⟩)
    go_loopw [3, 4, 24] (fun sa ss sk wr => ∃ k : Nat, sk = .int .i64 k ∧ k ≤ xs.length ∧ Hid (pairsE (xs.take k) = 0) ∧ Own eT3 w.heap.size 69 wr sa (pairsB (xs.take k)) ∧ Own eP2 w.heap.size 26 wr ss ((xs.take k).map dup) ∧ Below w.heap.size w wr) (fun _ _ sk _ => xs.length - (intOf sk).toNat)
    case atStart => exact ⟨0, rfl, by omega, rfl, Own.nil _, Own.nil _, hb1⟩
    case round =>
      obtain ⟨k, rfl, hk, HP, HO, HS, hb⟩ := hrel
      rename World => wo
      by_cases hlt : k < xs.length
      · have hlt' : (k : Int) < xs.length := by omega
        obtain ⟨b, o, rfl, p1, p2⟩ := hs.n2 hb k hlt
        obtain ⟨z1, z2⟩ := HM.out xs[k] (List.getElem_mem hlt)
        obtain ⟨k1, k2⟩ := pairsE_snoc hlt HP.out
        have hbs : pairsB (xs.take (k + 1)) = pairsB (xs.take k) ++ pairB xs[k] := by rw [List.take_succ_eq_append_getElem hlt, pairsB_snoc]
        have hds : (xs.take (k + 1)).map dup = (xs.take k).map dup ++ [dup xs[k]] := by rw [List.take_succ_eq_append_getElem hlt, List.map_append]; rfl
        have hbl := pairsB_len ((pairsE_zero _).1 HP.out)
        rw [List.length_take] at hbl
        have hbl2 : (pairsB (xs.take k)).length ≤ 12800 := by omega
        have hdl : ((xs.take k).map dup).length ≤ 100 := by rw [List.length_map, List.length_take]; omega
        obtain ⟨p, hp⟩ : ∃ p, xs[k] = p := ⟨_, rfl⟩
        rw [hp] at p1 p2 z1 z2 k1 k2 hbs hds
        clear hp hbl
        by_cases hbig : 300 < p.n.size + p.t.size
        · have hbig' : (300 : Int) < (p.n.size : Int) + (p.t.size : Int) := by omega
          go_wp2
          go_ret
          exact ⟨rfl, Bst hb Bel⟩
        · have hbig' : ¬ (300 : Int) < (p.n.size : Int) + (p.t.size : Int) := by omega
          by_cases h0 : pairE p = 0
          · have HN := Lib.hid (k1 h0)
            have hps := (pairB_small h0).1
            have HBS := Lib.hid hbs
            have HDS := Lib.hid hds
            have H0 := Lib.hid h0
            have hua := HO.put
            clear k1 k2 hbs hds h0
            go_wp2_with (first
              | (go_at_call 12; refine (bpair_c p _ (hU.to (Bst hb Bel)) (by omega) (by omega)).mono ?_; rintro e w5 ⟨hb5, h3, _⟩; obtain ⟨v5, rfl, A5, c5, rfl, hc5, hd5, hA5⟩ := h3 H0.out; clear h3; have bx1 := bkc hb5 (by simp [go_sem] : (wo.alloc (.cells #[.string p.n, .string p.t] 26)).cell? ⟨wo.heap.size, 1, none⟩ = some (.string p.t)); have HS5 := HS.below (Bst Bel hb5); have HO5 := HO.below (Bst Bel hb5))
              | (at_builtin; refine app_anyG (E := eT3) (w0 := w) _ _ 24 69 (.agg #[.string .empty, .string .empty, .int .i64 0]) 40 rfl rfl Tryd.underlying24 info_blk rfl (by decide) (by decide) _ (pairsB (xs.take k)) (pairB p) A5 c5 rfl rfl HO5 hA5 Bel (by omega) ?_; intro v7 w7 HO7 hb7 hg7; have HS7 := HS5.kept hg7 (by
                  rcases HS5.blk with h | ⟨gb, h, _⟩
                  · exact .inl h
                  · exact .inr (fun e => HS5.apart HO5 (by decide) h (by rw [h] at e; exact e.symm))); have bx7 : w7.cell? ⟨wo.heap.size, 1, none⟩ = some (.string p.t) := (hg7.cell_far ⟨wo.heap.size, 1, none⟩ (World.block_lt_of_cell? _ _ bx1) (fun e => by
                  rcases hua with h | ⟨gb, h, hlt2⟩
                  · cases e.trans h
                  · have e2 := e.trans h
                    injection e2 with e2
                    have e3 : wo.heap.size = gb := e2
                    omega)).trans bx1)
              | (at_builtin; refine app (E := eP2) (w0 := w) _ _ 22 26 (.agg #[.string .empty, .string .empty]) 32 rfl rfl Tryd.underlying22 info_pair rfl (by decide) (by decide) _ ((xs.take k).map dup) [dup p] _ 1 _ rfl rfl rfl (HS7.alloc _) (SlA.new eP2 _ [dup p] _ _ rfl _ rfl) Bel (by simp; omega) ?_; intro v8 w8 HS8 hb8 hg8 _; have HO8 := (HO7.alloc (.cells #[.string p.t, .string p.t] 26)).kept hg8 (by
                  rcases HO7.blk with h | ⟨gb, h, _⟩
                  · exact .inl h
                  · exact .inr (fun e => HO7.apart HS7 (by decide) h (by rw [h] at e; exact e.symm)))))
            exact ⟨⟨k + 1, by go_num, by omega, HN, by rw [HBS.out]; exact HO8, by rw [HDS.out]; exact HS8, hb8⟩, by simp [intOf]; omega⟩
          · have HN := Lib.hid (k2 h0)
            obtain ⟨z, hz3⟩ : ∃ z, pairE p = z := ⟨_, rfl⟩
            have hz0 : z ≠ 0 := hz3 ▸ h0
            have H0 := Lib.hid h0
            have HZ3 := Lib.hid hz3
            have hze : (z != 0) = true := by simpa using hz0
            have HK : Hid (prsE xs = z) := by show _ = _; unfold prsE; rw [HN.out, HZ3.out, if_neg hz0]
            clear k1 k2 hbs hds h0 hz3
            go_wp2_with (first
              | (go_at_call 12; refine (bpair_c p _ (hU.to (Bst hb Bel)) (by omega) (by omega)).mono ?_; rintro e w5 ⟨hb5, _, h3⟩; obtain rfl := h3 H0.out; clear h3; rw [HZ3.out])
              | (go_at_call 13; refine (prs_c _ c xs _ (hU.to (Bst hb (Bst Bel hb5))) (hs.below (Bst hb (Bst Bel hb5))) hz.out (by omega)).mono ?_; rintro e w6 ⟨ys, r, rfl, _, hb6, _, _⟩; rw [HK.out]))
            go_ret
            exact ⟨rfl, Bst hb (Bst Bel (Bst hb5 hb6))⟩
      · obtain rfl : k = xs.length := by omega
        have hlt' : ¬ (xs.length : Int) < xs.length := by omega
        have hp0 := HP.out
        rw [List.take_length] at HO HS hp0
        have hsm := pairsB_small hp0 (by omega)
        have he : prsE xs = tabE (pairsB xs) := by unfold prsE; rw [if_pos hp0]
        have he2 : prsE (xs.map dup) = 0 := by unfold prsE; rw [if_pos (dups_E hp0), dups_B]; exact tabE_nil
        have hdn : pairsB (xs.map dup) = [] := dups_B xs
        have hdz : ∀ p ∈ xs.map dup, p.n.size ≤ 17592186044416 ∧ p.t.size ≤ 17592186044416 := fun p hp => by
          obtain ⟨q, hq, rfl⟩ := List.mem_map.1 hp
          exact ⟨(hz.out q hq).2, (hz.out q hq).2⟩
        have hdl : (xs.map dup).length ≤ 60 := by rw [List.length_map]; omega
        have hbl := pairsB_len ((pairsE_zero _).1 hp0)
        generalize xs.map dup = ds at *
        obtain ⟨A5, c5, rfl, hc5, hd5, hA5⟩ := HO.slv
        obtain ⟨A6, c6, rfl, hc6, hd6, hA6⟩ := HS.slv
        obtain ⟨K, hK⟩ : ∃ K, tabE (pairsB xs) = K := ⟨_, rfl⟩
        have c1 := fun W hb => prs_c A c xs W (hU.to hb) (hs.below hb) hz.out (by omega)
        have c2 := fun W hU hs => tab_c A5 c5 (pairsB xs) W hU hs hsm
        have c3 := fun W hU hs => prs_c A6 c6 ds W hU hs hdz (by omega)
        unfold PrsPost at c1 c3
        unfold TabPost at c2
        rw [he, hK] at c1
        rw [hK] at c2
        rw [he2, hdn] at c3
        have C1 := Lib.hid c1
        have C2 := Lib.hid c2
        have C3 := Lib.hid c3
        clear c1 c2 c3 he he2 hdn hdz hK HO HS HP hp0 hsm HM
        generalize pairsB xs = bs at *
        have hUo := hU.to hb
        go_wp2_with fail
        refine (C1.out _ hb).mono ?_
        rintro e w3 ⟨ys, r, rfl, ⟨A1, q1, rfl, _, _, hy1⟩, hb3, g1, g2⟩
        have G1 := Lib.hid (And.intro g1 g2)
        clear g1 g2
        go_wp2_with fail
        refine (C2.out _ (hUo.to hb3) (hA5.below hb3)).mono ?_
        rintro e w4 ⟨zs, r, rfl, ⟨A2, q2, rfl, _, _, hy2⟩, hb4, g1, g2⟩
        have HE : ys = zs ∧ ys.length ≤ 12800 := by
          by_cases h0 : K = 0
          · refine ⟨(G1.out.1 h0).uniq (g1 h0), ?_⟩
            have h6 := (G1.out.1 h0).le
            omega
          · rw [G1.out.2 h0, g2 h0]; exact ⟨rfl, by simp⟩
        obtain ⟨rfl, hyl⟩ := HE
        clear g1 g2 G1
        have hb34 := Bst hb3 hb4
        go_wp2_with fail
        refine (C3.out _ (hUo.to hb34) (hA6.below hb34)).mono ?_
        rintro e w5 ⟨us, r, rfl, ⟨A3, q3, rfl, _, _, hy3⟩, hb5, g1, g2⟩
        have hu0 : us = [] := by
          have h6 := (g1 trivial).le
          exact List.eq_nil_of_length_eq_zero (by simpa using h6)
        subst hu0
        clear g1 g2
        have hb05 := Bst hb (Bst hb34 hb5)
        go_wp2_with fail
        refine (same_c A1 A2 q1 q2 ys ys _ (hy1.below (Bst hb4 hb5)) (hy2.below hb5) (by omega) (by omega)).mono ?_
        rintro e w6 ⟨rfl, hb6⟩
        rw [same_refl]
        go_wp2
        go_ret
        exact ⟨rfl, Bst hb05 hb6⟩
end Go.Proofs.YtpnhmapkdbnkmaaDoor
