/- count.Pairs, errataref06.Pairs: the table of many pairs. No condition. -/
import Derived.Test.YtpnhmapkdbnkmaaGreatDoorBof
import Derived.Test.YtpnhmapkdbnkmaaGreatDoorTab6k
namespace Go.Proofs.YtpnhmapkdbnkmaaGreatDoor
open Go Go.RowKit
theorem append_noneP {P : Program} {w : World} (base : Nat) (t ty e : TypeId) (i : TypeInfo) (size : Nat) (ht : P.underlying t = some (.slice e)) (hi : P.info? e = some i)
    (v : Value) (n c : Nat) (xs : List Value) (hown : w.ownsRow base e size v n xs) : (Builtin.append_ #[t, t] ty #[v, .slice none 0 c]).run P w = .ok v w := by
  rcases hown.2 with ⟨rfl, rfl⟩ | ⟨g, cap, cur, rfl, _, _, hnc, _⟩
  · simp [Builtin.append_, run_underlying ht, sizeOf, typeInfo, hi, Builtin.lenOf, Builtin.firstCells]
  · simp [Builtin.append_, run_underlying ht, sizeOf, typeInfo, hi, Builtin.lenOf, Builtin.firstCells, hnc, storeCells]
/-- 'append(s, x...)', where x may be nil. -/
theorem app_anyP {α : Type} {E : Enc α} {P : Program} {ops : Array Oper} {rest : List Oper} {o : Oper} {a : Act} {Q : Exit → Act → World → Prop} {w0 W : World} (s x : Operand) (t e : TypeId) (z : Value) (bytes : Nat)
    (hgd : o.guard = none) (ho : o.op = .call { callee := .builtin .append, args := #[s, x], argTypes := #[t, t] })
    (ht : P.underlying t = some (.slice e)) (hinfo : (P.info? e).map (fun i => (i.zero, i.size, i.bytes)) = some (some z, E.k, bytes)) (hz : z.cells.size = E.k) (hk : 0 < E.k) (hby : 0 < bytes)
    (v : Value) (xs ys : List α) (A : Option Addr) (c : Nat) (hs : a.eval s = v) (hx : a.eval x = .slice A ys.length c)
    (HO : Own E w0.heap.size e W v xs) (HS : SlA E W A ys) (hb : Below w0.heap.size w0 W) (hl : (xs.length + ys.length) * bytes ≤ 140737488355328)
    (h : ∀ v' w1, Own E w0.heap.size e w1 v' (xs ++ ys) → Below w0.heap.size w0 w1 → wpList P ops Q rest (a.put o.dst v') w1) :
    wpList P ops Q (o :: rest) a W := by
  cases A with
  | some ad => exact app s x t e z bytes hgd ho ht hinfo hz hk hby v xs ys ad ys.length c hs hx rfl HO HS hb hl fun v' w1 h1 h2 _ _ => h v' w1 h1 h2
  | none =>
    have hy : ys = [] := by
      cases ys with
      | nil => rfl
      | cons y l => obtain ⟨b, o, hA, _⟩ := HS 0 y (by simp); cases hA
    subst hy
    refine wpList_plain hgd fun K hK => ?_
    obtain ⟨i0, hi, hzz⟩ := Option.map_eq_some_iff.1 hinfo
    have hrun := append_noneP (P := P) (w := W) w0.heap.size t o.type e i0 E.k ht hi v xs.length c _ HO
    have h' := hK _ _ (h v W (by rw [List.append_nil]; exact HO) hb)
    simp only [List.length_nil] at hx
    unfold Oper.wp
    simp [execOp, ho, resolve, invoke, builtin, hs, hx, hrun, Result.andThen]
    exact h'
/-- The pairs' error: the first one's, else their table's. -/
noncomputable def prsE (l : List P2) : Int := if pairsE l = 0 then tabE (pairsB l) else pairsE l
def PrsPost (w : World) (l : List P2) (e : Ending) (w' : World) : Prop :=
  ∃ ys r, e = .returned (.tuple #[r, .int .i64 (prsE l)]) ∧ SlV eT3 w' r ys ∧ Below w.heap.size w w' ∧ (prsE l = 0 → TabOf (pairsB l) ys) ∧ (prsE l ≠ 0 → ys = [])
theorem pairsE_drop {xs : List P2} {k : Nat} (h : pairsE (xs.take k) = 0) : pairsE xs = pairsE (xs.drop k) := by
  have h1 := (pairsE_zero _).1 h
  conv => lhs; rw [← List.take_append_drop k xs]
  generalize xs.drop k = b at *
  generalize xs.take k = a at *
  clear h
  induction a with
  | nil => rfl
  | cons p a ih =>
    show pairsE (p :: (a ++ b)) = _
    rw [show pairsE (p :: (a ++ b)) = if pairE p = 0 then pairsE (a ++ b) else pairE p from rfl, if_pos (h1 p (by simp))]
    exact ih fun q hq => h1 q (by simp [hq])
theorem pairsE_snoc {xs : List P2} {k : Nat} (hk : k < xs.length) (h : pairsE (xs.take k) = 0) : (pairE xs[k] = 0 → pairsE (xs.take (k + 1)) = 0) ∧ (pairE xs[k] ≠ 0 → pairsE xs = pairE xs[k]) := by
  refine ⟨fun hp => ?_, fun hp => ?_⟩
  · rw [pairsE_zero, List.take_succ_eq_append_getElem hk]
    intro q hq
    rcases List.mem_append.1 hq with hq | hq
    · exact (pairsE_zero _).1 h q hq
    · obtain rfl : q = xs[k] := by simpa using hq
      exact hp
  · rw [pairsE_drop h, List.drop_eq_getElem_cons hk, show pairsE (xs[k] :: xs.drop (k + 1)) = if pairE xs[k] = 0 then pairsE (xs.drop (k + 1)) else pairE xs[k] from rfl, if_neg hp]
theorem SlA.n2 {w w' : World} {A : Option Addr} {xs : List P2} (h : SlA eP2 w A xs) (hb : Below w.heap.size w w') (j : Nat) (hj : j < xs.length) :
    ∃ b o, A = some ⟨b, o, none⟩ ∧ w'.cell? ⟨b, o + j * 2, none⟩ = some (.string xs[j].n) ∧ w'.cell? ⟨b, o + j * 2 + 1, none⟩ = some (.string xs[j].t) := by
  obtain ⟨b, o, hA, _, hc⟩ := h j _ (List.getElem?_eq_getElem hj)
  exact ⟨b, o, hA, bkc hb (hc 0 _ rfl), bkc hb (hc 1 _ rfl)⟩
set_option maxRecDepth 100000 in
set_option maxHeartbeats 2000000 in
theorem prs_c (A : Option Addr) (c : Nat) (xs : List P2) (w : World) (hU : U w) (hs : SlA eP2 w A xs) (hz : ∀ p ∈ xs, p.n.size ≤ 17592186044416 ∧ p.t.size ≤ 17592186044416) (hl : xs.length ≤ 100) :
    Calls Tryz.prog 30 #[.slice A xs.length c] w (PrsPost w xs) := by
  have HZ := Lib.hid hz
  clear hz
  go_enter Tryz.func30, Tryz.ntmps30
  go_wp2_with fail
  go_loopw [4, 14] (fun so sk wr => ∃ k : Nat, sk = .int .i64 k ∧ k ≤ xs.length ∧ Hid (pairsE (xs.take k) = 0) ∧ Own eT3 w.heap.size 71 wr so (pairsB (xs.take k)) ∧ Below w.heap.size w wr) (fun _ sk _ => xs.length - (intOf sk).toNat)
  case atStart => exact ⟨0, rfl, by omega, rfl, Own.nil _, Bel⟩
  case round =>
    obtain ⟨k, rfl, hk, HP, HO, hb⟩ := hrel
    rename World => wo
    by_cases hlt : k < xs.length
    · have hlt' : (k : Int) < xs.length := by omega
      obtain ⟨b, o, rfl, p1, p2⟩ := hs.n2 hb k hlt
      obtain ⟨hpn, hpt⟩ := HZ.out xs[k] (List.getElem_mem hlt)
      obtain ⟨k1, k2⟩ := pairsE_snoc hlt HP.out
      have hbs : pairsB (xs.take (k + 1)) = pairsB (xs.take k) ++ pairB xs[k] := by rw [List.take_succ_eq_append_getElem hlt, pairsB_snoc]
      have hbl := pairsB_len ((pairsE_zero _).1 HP.out)
      rw [List.length_take] at hbl
      have hbl2 : (pairsB (xs.take k)).length ≤ 12800 := by omega
      obtain ⟨p, hp⟩ : ∃ p, xs[k] = p := ⟨_, rfl⟩
      rw [hp] at p1 p2 hpn hpt k1 k2 hbs
      clear hp hbl
      by_cases h0 : pairE p = 0
      · have HN := Lib.hid (k1 h0)
        have hps := (pairB_small h0).1
        have HBS := Lib.hid hbs
        have H0 := Lib.hid h0
        clear k1 k2 hbs h0
        go_wp2_with (first
          | (go_at_call 60; refine (bpair_c p _ (hU.to (Bst hb Bel)) hpn hpt).mono ?_; rintro e w5 ⟨hb5, h3, _⟩; obtain ⟨v5, rfl, A5, c5, rfl, hc5, hd5, hA5⟩ := h3 H0.out; clear h3)
          | (at_builtin; refine app_anyP (E := eT3) (w0 := w) _ _ 72 71 (.agg #[.string .empty, .string .empty, .int .i64 0]) 40 rfl rfl Tryz.underlying72 info_blk rfl (by decide) (by decide) _ (pairsB (xs.take k)) (pairB p) A5 c5 rfl rfl (HO.below (Bst Bel hb5)) hA5 Bel (by omega) ?_; intro v7 w7 HO7 hb7))
        exact ⟨⟨k + 1, by go_num, by omega, HN, by rw [HBS.out]; exact HO7, hb7⟩, by simp [intOf]; omega⟩
      · have HN := Lib.hid (k2 h0)
        obtain ⟨z, hz3⟩ : ∃ z, pairE p = z := ⟨_, rfl⟩
        have hz0 : z ≠ 0 := hz3 ▸ h0
        have H0 := Lib.hid h0
        have HZ3 := Lib.hid hz3
        clear k1 k2 hbs h0 hz3
        go_wp2_with (go_at_call 60; refine (bpair_c p _ (hU.to (Bst hb Bel)) hpn hpt).mono ?_; rintro e w5 ⟨hb5, _, h3⟩; obtain rfl := h3 H0.out; clear h3; rw [HZ3.out])
        go_ret2
        have he : prsE xs = z := by unfold prsE; rw [HN.out, HZ3.out, if_neg hz0]
        refine ⟨[], .slice none 0 0, ?_, SlV.nil, Bst hb (Bst Bel hb5), fun h => absurd (he.symm.trans h) hz0, fun _ => rfl⟩
        rw [he]; rfl
    · obtain rfl : k = xs.length := by omega
      have hlt' : ¬ (xs.length : Int) < xs.length := by omega
      have hp0 := HP.out
      rw [List.take_length] at HO hp0
      have hsm := pairsB_small hp0 hl
      obtain ⟨A5, c5, rfl, hc5, hd5, hA5⟩ := HO.slv
      have he : prsE xs = tabE (pairsB xs) := by unfold prsE; rw [if_pos hp0]
      have HE := Lib.hid he
      clear he hp0
      go_wp2_with fail
      refine (tab_c A5 c5 (pairsB xs) _ (hU.to hb) hA5 hsm).mono ?_
      rintro e w6 ⟨ys, r, rfl, hys, hb6, h1, h2⟩
      go_wp2
      go_ret2
      refine ⟨ys, r, ?_, hys, Bst hb hb6, fun h => h1 (HE.out.symm.trans h), fun h => h2 (fun h3 => h (HE.out.trans h3))⟩
      rw [HE.out]; rfl
set_option maxRecDepth 100000 in
set_option maxHeartbeats 2000000 in
theorem r6prs_c (A : Option Addr) (c : Nat) (xs : List P2) (w : World) (hs : SlA eP2 w A xs) (hz : ∀ p ∈ xs, p.n.size ≤ 17592186044416 ∧ p.t.size ≤ 17592186044416) (hl : xs.length ≤ 100) :
    Calls Tryz.prog 31 #[.slice A xs.length c] w (PrsPost w xs) := by
  have HZ := Lib.hid hz
  clear hz
  go_enter Tryz.func31, Tryz.ntmps31
  go_wp2_with fail
  go_loopw [4, 14] (fun so sk wr => ∃ k : Nat, sk = .int .i64 k ∧ k ≤ xs.length ∧ Hid (pairsE (xs.take k) = 0) ∧ Own eT3 w.heap.size 71 wr so (pairsB (xs.take k)) ∧ Below w.heap.size w wr) (fun _ sk _ => xs.length - (intOf sk).toNat)
  case atStart => exact ⟨0, rfl, by omega, rfl, Own.nil _, Bel⟩
  case round =>
    obtain ⟨k, rfl, hk, HP, HO, hb⟩ := hrel
    rename World => wo
    by_cases hlt : k < xs.length
    · have hlt' : (k : Int) < xs.length := by omega
      obtain ⟨b, o, rfl, p1, p2⟩ := hs.n2 hb k hlt
      obtain ⟨hpn, hpt⟩ := HZ.out xs[k] (List.getElem_mem hlt)
      obtain ⟨k1, k2⟩ := pairsE_snoc hlt HP.out
      have hbs : pairsB (xs.take (k + 1)) = pairsB (xs.take k) ++ pairB xs[k] := by rw [List.take_succ_eq_append_getElem hlt, pairsB_snoc]
      have hbl := pairsB_len ((pairsE_zero _).1 HP.out)
      rw [List.length_take] at hbl
      have hbl2 : (pairsB (xs.take k)).length ≤ 12800 := by omega
      obtain ⟨p, hp⟩ : ∃ p, xs[k] = p := ⟨_, rfl⟩
      rw [hp] at p1 p2 hpn hpt k1 k2 hbs
      clear hp hbl
      by_cases h0 : pairE p = 0
      · have HN := Lib.hid (k1 h0)
        have hps := (pairB_small h0).1
        have HBS := Lib.hid hbs
        have H0 := Lib.hid h0
        clear k1 k2 hbs h0
        go_wp2_with (first
          | (go_at_call 62; refine (r5pair_c p _ hpn hpt).mono ?_; rintro e w5 ⟨hb5, h3, _⟩; obtain ⟨v5, rfl, A5, c5, rfl, hc5, hd5, hA5⟩ := h3 H0.out; clear h3)
          | (at_builtin; refine app_anyP (E := eT3) (w0 := w) _ _ 72 71 (.agg #[.string .empty, .string .empty, .int .i64 0]) 40 rfl rfl Tryz.underlying72 info_blk rfl (by decide) (by decide) _ (pairsB (xs.take k)) (pairB p) A5 c5 rfl rfl (HO.below (Bst Bel hb5)) hA5 Bel (by omega) ?_; intro v7 w7 HO7 hb7))
        exact ⟨⟨k + 1, by go_num, by omega, HN, by rw [HBS.out]; exact HO7, hb7⟩, by simp [intOf]; omega⟩
      · have HN := Lib.hid (k2 h0)
        obtain ⟨z, hz3⟩ : ∃ z, pairE p = z := ⟨_, rfl⟩
        have hz0 : z ≠ 0 := hz3 ▸ h0
        have H0 := Lib.hid h0
        have HZ3 := Lib.hid hz3
        clear k1 k2 hbs h0 hz3
        go_wp2_with (go_at_call 62; refine (r5pair_c p _ hpn hpt).mono ?_; rintro e w5 ⟨hb5, _, h3⟩; obtain rfl := h3 H0.out; clear h3; rw [HZ3.out])
        go_ret2
        have he : prsE xs = z := by unfold prsE; rw [HN.out, HZ3.out, if_neg hz0]
        refine ⟨[], .slice none 0 0, ?_, SlV.nil, Bst hb (Bst Bel hb5), fun h => absurd (he.symm.trans h) hz0, fun _ => rfl⟩
        rw [he]; rfl
    · obtain rfl : k = xs.length := by omega
      have hlt' : ¬ (xs.length : Int) < xs.length := by omega
      have hp0 := HP.out
      rw [List.take_length] at HO hp0
      have hsm := pairsB_small hp0 hl
      obtain ⟨A5, c5, rfl, hc5, hd5, hA5⟩ := HO.slv
      have he : prsE xs = tabE (pairsB xs) := by unfold prsE; rw [if_pos hp0]
      have HE := Lib.hid he
      clear he hp0
      go_wp2_with fail
      refine (r6tab_c A5 c5 (pairsB xs) _ hA5 hsm).mono ?_
      rintro e w6 ⟨ys, r, rfl, hys, hb6, h1, h2⟩
      go_wp2
      go_ret2
      refine ⟨ys, r, ?_, hys, Bst hb hb6, fun h => h1 (HE.out.symm.trans h), fun h => h2 (fun h3 => h (HE.out.trans h3))⟩
      rw [HE.out]; rfl
end Go.Proofs.YtpnhmapkdbnkmaaGreatDoor
