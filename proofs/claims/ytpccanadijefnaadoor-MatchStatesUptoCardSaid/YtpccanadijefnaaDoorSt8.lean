/- 'MatchStates' walked. No condition. -/
import Derived.Test.YtpccanadijefnaaDoorK816
import Derived.Test.YtpccanadijefnaaDoorTree
import Derived.Test.YtpccanadijefnaaDoorK809
namespace Go.Proofs.YtpccanadijefnaaDoor
open Go Go.RowKit
theorem Own.litN {α : Type} (E : Enc α) (base : Nat) (e : TypeId) (w : World) (n : Nat) (hn : n = w.heap.size) (hb : base ≤ w.heap.size) : Own E base e (w.alloc (.cells #[] e)) (.slice (some ⟨n, 0, none⟩) 0 0) [] := by
  subst hn; exact Own.lit E base e w hb
theorem SlA.kept {α : Type} {E : Enc α} {w w' : World} {A : Option Addr} {xs : List α} {b o : Nat} {row : Option Nat} (h : SlA E w A xs) (hA : A = some ⟨b, o, none⟩) (hg : w.grownBy w' row) (hne : some b ≠ row) : SlA E w' A xs := fun j x hx => by
  obtain ⟨b', o', hA', hlt, hc⟩ := h j x hx
  rw [hA] at hA'
  injection hA' with h1
  injection h1 with h2 h3
  subst h2 h3
  exact ⟨b, o, hA, Nat.lt_of_lt_of_le hlt hg.size, fun i u hu => hg.cell (hc i u hu) hne⟩
theorem append_none {P : Program} {w : World} (base : Nat) (t ty e : TypeId) (i : TypeInfo) (size : Nat) (ht : P.underlying t = some (.slice e)) (hi : P.info? e = some i)
    (v : Value) (n c : Nat) (xs : List Value) (hown : w.ownsRow base e size v n xs) : (Builtin.append_ #[t, t] ty #[v, .slice none 0 c]).run P w = .ok v w := by
  rcases hown.2 with ⟨rfl, rfl⟩ | ⟨g, cap, cur, rfl, _, _, hnc, _⟩
  · simp [Builtin.append_, run_underlying ht, sizeOf, typeInfo, hi, Builtin.lenOf, Builtin.firstCells]
  · simp [Builtin.append_, run_underlying ht, sizeOf, typeInfo, hi, Builtin.lenOf, Builtin.firstCells, hnc, storeCells]
/-- 'append(s, x...)', where x may be nil. -/
theorem app_any {α : Type} {E : Enc α} {P : Program} {ops : Array Oper} {rest : List Oper} {o : Oper} {a : Act} {Q : Exit → Act → World → Prop} {w0 W : World} (s x : Operand) (t e : TypeId) (z : Value) (bytes : Nat)
    (hgd : o.guard = none) (ho : o.op = .call { callee := .builtin .append, args := #[s, x], argTypes := #[t, t] })
    (ht : P.underlying t = some (.slice e)) (hinfo : (P.info? e).map (fun i => (i.zero, i.size, i.bytes)) = some (some z, E.k, bytes)) (hz : z.cells.size = E.k) (hk : 0 < E.k) (hby : 0 < bytes)
    (v : Value) (xs ys : List α) (A : Option Addr) (c : Nat) (hs : a.eval s = v) (hx : a.eval x = .slice A ys.length c)
    (HO : Own E w0.heap.size e W v xs) (HS : SlA E W A ys) (hb : Below w0.heap.size w0 W) (hl : (xs.length + ys.length) * bytes ≤ 140737488355328)
    (h : ∀ v' w1, Own E w0.heap.size e w1 v' (xs ++ ys) → Below w0.heap.size w0 w1 → wpList P ops Q rest (a.put o.dst v') w1) :
    wpList P ops Q (o :: rest) a W := by
  cases A with
  | some ad => exact app s x t e z bytes hgd ho ht hinfo hz hk hby v xs ys ad ys.length c hs hx rfl HO HS hb hl fun v' w1 h1 h2 _ _ => h v' w1 h1 h2
  | none =>
    have hy : ys = [] := by
      cases ys with
      | nil => rfl
      | cons y l => obtain ⟨b, o, hA, _⟩ := HS 0 y (by simp); cases hA
    subst hy
    refine wpList_plain hgd fun K hK => ?_
    obtain ⟨i0, hi, hzz⟩ := Option.map_eq_some_iff.1 hinfo
    have hrun := append_none (P := P) (w := W) w0.heap.size t o.type e i0 E.k ht hi v xs.length c _ HO
    have h' := hK _ _ (h v W (by rw [List.append_nil]; exact HO) hb)
    simp only [List.length_nil] at hx
    unfold Oper.wp
    simp [execOp, ho, resolve, invoke, builtin, hs, hx, hrun, Result.andThen]
    exact h'
theorem grown_refl (W : World) (row : Option Nat) : W.grownBy W row := ⟨rfl, rfl, rfl, Nat.le_refl _, fun _ _ _ => rfl⟩
theorem app_anyO {α : Type} {E : Enc α} {P : Program} {o : Oper} {a : Act} {K : Act → World → Prop} {Q : Exit → Act → World → Prop} {w0 W : World} (s x : Operand) (t e : TypeId) (z : Value) (bytes : Nat)
    (hgd : o.guard = none) (ho : o.op = .call { callee := .builtin .append, args := #[s, x], argTypes := #[t, t] })
    (ht : P.underlying t = some (.slice e)) (hinfo : (P.info? e).map (fun i => (i.zero, i.size, i.bytes)) = some (some z, E.k, bytes)) (hz : z.cells.size = E.k) (hk : 0 < E.k) (hby : 0 < bytes)
    (v : Value) (xs ys : List α) (A : Option Addr) (c : Nat) (hs : a.eval s = v) (hx : a.eval x = .slice A ys.length c)
    (HO : Own E w0.heap.size e W v xs) (HS : SlA E W A ys) (hb : Below w0.heap.size w0 W) (hl : (xs.length + ys.length) * bytes ≤ 140737488355328)
    (h : ∀ v' w1, Own E w0.heap.size e w1 v' (xs ++ ys) → Below w0.heap.size w0 w1 → W.grownBy w1 v.ownBlock → K (a.put o.dst v') w1) : o.wp P a W K Q := by
  cases A with
  | some ad => exact app_op s x t e z bytes hgd ho ht hinfo hz hk hby v xs ys ad ys.length c hs hx rfl HO HS hb hl fun v' w1 h1 h2 h3 _ => h v' w1 h1 h2 h3
  | none =>
    have hy : ys = [] := by
      cases ys with
      | nil => rfl
      | cons y l => obtain ⟨b, o, hA, _⟩ := HS 0 y (by simp); cases hA
    subst hy
    obtain ⟨i0, hi, hzz⟩ := Option.map_eq_some_iff.1 hinfo
    have hrun := append_none (P := P) (w := W) w0.heap.size t o.type e i0 E.k ht hi v xs.length c _ HO
    have h' := h v W (by rw [List.append_nil]; exact HO) hb (grown_refl W _)
    simp only [List.length_nil] at hx
    unfold Oper.wp
    simp [execOp, ho, resolve, invoke, builtin, hs, hx, hrun, Result.andThen]
    exact h'
def seven (x : T3) : T3 := ⟨x.f, x.t, 7⟩
theorem rchk_seven {x : T3} (h : rchk x = 0) : rchk (seven x) = 0 := by
  unfold rchk at h ⊢
  split at h
  · rename_i h1; exact absurd h h1
  · rename_i h1
    rw [if_neg (by exact h1), if_neg (by simp [seven])]
theorem isE_of {xs : List T3} (h1 : ∀ b ∈ xs, rchk b = 0) (h2 : xs.Pairwise fun x y => ltT x y = true) (h3 : xs.length ≤ 4096) : isE xs = 0 := by
  unfold isE
  rw [if_neg (by simp [errR_nil.2 h1]), if_neg (by rw [rise_of h2]; simp), if_neg (by omega)]
theorem isE_seven {xs : List T3} (h : isE xs = 0) : isE (xs.map seven) = 0 := by
  obtain ⟨h1, h2⟩ := isE_ok h
  refine isE_of (fun b hb => ?_) ?_ (by simpa using h1)
  · obtain ⟨x, hx, rfl⟩ := List.mem_map.1 hb
    exact rchk_seven (h2 x hx)
  · rw [List.pairwise_map]
    exact (of_rise (isE_rise h)).imp fun h => h
theorem froms_seven (xs : List T3) : froms (xs.map seven) = froms xs := by simp [froms, seven]
theorem small_seven {xs : List T3} (h : Small xs) : Small (xs.map seven) := ⟨by simpa using h.1, fun b hb => by
  obtain ⟨x, hx, rfl⟩ := List.mem_map.1 hb
  exact h.2 x hx⟩
/-- The sum of the Froms' lengths. -/
def runS (xs : List T3) (i : Nat) : Nat := (((froms xs).take i).map List.length).sum
theorem runS_succ (xs : List T3) (i : Nat) (hi : i < xs.length) (f : List Int) (h : decS xs[i].f = some f) : runS xs (i + 1) = runS xs i + f.length := by
  unfold runS
  have h1 : (froms xs)[i]? = some f := by simp [froms, hi, h]
  rw [List.take_add_one, h1, List.map_append, List.sum_append]; simp
theorem runS_le {xs : List T3} (h : isE xs = 0) (i : Nat) : runS xs i ≤ 12288 := by
  obtain ⟨h1, _, h3⟩ := froms_small h
  unfold runS
  have := sum_map_le List.length 3 ((froms xs).take i) fun f hf => h3 f (List.mem_of_mem_take hf)
  have h4 : ((froms xs).take i).length ≤ (froms xs).length := by rw [List.length_take]; omega
  omega
theorem runS_all {xs : List T3} : (statesT (froms xs)).length ≤ runS xs xs.length + 1 := by
  have h := states_len (froms xs)
  unfold runS
  rw [List.take_of_length_le (by simp [froms])]
  exact h
def sevenTo (xs : List T3) (i : Nat) : List T3 := (xs.take i).map seven ++ xs.drop i
theorem sevenTo_get (xs : List T3) (i : Nat) (hi : i < xs.length) : (sevenTo xs i)[i]? = some xs[i] := by
  have hl : ((xs.take i).map seven).length = i := by simp; omega
  unfold sevenTo
  rw [List.getElem?_append_right (by omega), hl, Nat.sub_self, List.getElem?_drop, Nat.add_zero, List.getElem?_eq_getElem hi]
theorem sevenTo_succ (xs : List T3) (i : Nat) (hi : i < xs.length) : (sevenTo xs i).set i (seven xs[i]) = sevenTo xs (i + 1) := by
  have hl : ((xs.take i).map seven).length = i := by simp; omega
  unfold sevenTo
  rw [List.set_append_right _ _ (by omega), hl, Nat.sub_self, List.drop_eq_getElem_cons hi, List.set_cons_zero, List.take_succ_eq_append_getElem hi, List.map_append]
  simp
theorem sevenTo_len (xs : List T3) (i : Nat) : (sevenTo xs i).length = xs.length := by unfold sevenTo; simp; omega
theorem sevenTo_all (xs : List T3) : sevenTo xs xs.length = xs.map seven := by unfold sevenTo; simp
theorem normal_is {xs ys : List T3} (h : Nrm xs ys) (h0 : allR xs = 0) (hl : ys.length ≤ 4096) : isE ys = 0 := h.is h0 hl
theorem new_gen {w : World} {xs : List T3} {e : Ending} {w' : World} (h : Below w.heap.size w w' ∧ (isE xs = 0 → ∃ M, e = .returned (.tuple #[.pointer (some ⟨M, 0, none⟩), .int .i64 0]) ∧ MM w' M (froms xs)) ∧ (isE xs ≠ 0 → e = .returned (.tuple #[.pointer none, .int .i64 (isE xs)]))) :
    Below w.heap.size w w' ∧ ∃ p z, e = .returned (.tuple #[.pointer p, .int .i64 z]) ∧ (z = 0 → isE xs = 0 ∧ ∃ M, p = some ⟨M, 0, none⟩ ∧ MM w' M (froms xs)) := by
  obtain ⟨h1, h2, h3⟩ := h
  by_cases h0 : isE xs = 0
  · obtain ⟨M, h4, h5⟩ := h2 h0
    exact ⟨h1, _, 0, h4, fun _ => ⟨h0, M, rfl, h5⟩⟩
  · exact ⟨h1, none, _, h3 h0, fun h => absurd h h0⟩
/-- With a rule more: no fewer states, few more. -/
theorem more_states {xs zs : List T3} {r : T3} (h : Nrm (xs ++ [r]) zs) (h0 : allR (xs ++ [r]) = 0) : (statesT (froms xs)).length ≤ (statesT (froms zs)).length ∧ (statesT (froms zs)).length ≤ (statesT (froms xs)).length + 3 := by
  have hr : rchk r = 0 := errR_nil.1 ((allR_zero _).1 h0) r (by simp)
  have h3 := (bchk_from hr).2
  refine ⟨states_mono fun f hf => ?_, ?_⟩
  · obtain ⟨b, hb, rfl⟩ := List.mem_map.1 hf
    obtain ⟨y, hy, hs⟩ := key_mem ((h.keys (b.f, b.t)).2 (mem_keys (List.mem_append_left _ hb)))
    exact List.mem_map.2 ⟨y, hy, by rw [hs.1]⟩
  · have h1 : (statesT (froms zs)).length ≤ (statesT (froms xs ++ [(decS r.f).getD []])).length := states_mono fun f hf => by
      obtain ⟨y, hy, rfl⟩ := List.mem_map.1 hf
      rcases List.mem_append.1 (h.mem y hy) with h4 | h4
      · exact List.mem_append_left _ (List.mem_map.2 ⟨y, h4, rfl⟩)
      · obtain rfl : y = r := by simpa using h4
        simp
    have h2 := states_one (fs := froms xs) ((decS r.f).getD [])
    omega
theorem small_more {xs : List T3} {r : T3} (hm : Small xs) (hx : xs.length + 1 ≤ 1048576) (hr : r.f.size ≤ 1048576 ∧ r.t.size ≤ 1048576) : Small (xs ++ [r]) := ⟨by simp; omega, fun b hb => by
  rcases List.mem_append.1 hb with h | h
  · exact hm.2 b h
  · obtain rfl : b = r := by simpa using h
    exact hr⟩
theorem nrm_zero {xs ys : List T3} {r : Int} (h : (allR xs ≠ 0 ∧ r = allR xs ∧ ys = []) ∨ (allR xs = 0 ∧ ∃ zs, Nrm xs zs ∧ zs.length ≤ xs.length ∧ ((4096 < zs.length ∧ r = 6 ∧ ys = []) ∨ (zs.length ≤ 4096 ∧ r = 0 ∧ ys = zs)))) : Hid (r = 0 → allR xs = 0 ∧ Nrm xs ys ∧ ys.length ≤ 4096) := by
  show _ → _
  rintro rfl
  rcases h with ⟨h1, h2, _⟩ | ⟨h1, zs, h2, _, ⟨_, h3, _⟩ | ⟨h3, _, rfl⟩⟩
  · exact absurd h2.symm h1
  · cases h3
  · exact ⟨h1, h2, h3⟩
set_option maxHeartbeats 8000000 in
set_option maxRecDepth 100000 in
theorem lstates8_c (A : Option Addr) (c : Nat) (xs : List T3) (r : T3) (w : World) (hU : U w) (hs : SlA eT3 w A xs) (hm : Small xs) (hx : xs.length + 1 ≤ 1048576) (hr : r.f.size ≤ 1048576 ∧ r.t.size ≤ 1048576) (hAc : A = none → c = 0) (_ : xs.length ≤ c) :
    Calls Tryd.prog 16 #[.slice A xs.length c, .agg #[.string r.f, .string r.t, .int .i64 r.n]] w (Ret w (.bool true)) := by
  have hl := hm.1
  have hsm := small_more hm hx hr
  have HSM := Lib.hid hsm
  obtain ⟨gb, hg⟩ : ∃ gb, great8 (xs ++ [r]) .empty = gb := ⟨_, rfl⟩
  have HG := Lib.hid hg
  clear hg hsm
  go_enter Tryd.func16, Tryd.ntmps16
  go_wp2_with fail
  have hb0 : Below w.heap.size w (w.alloc (.cells #[.string r.f, .string r.t, .int .i64 r.n] 33)) := Bel
  have hBx := B3.new w r 33
  obtain ⟨bx, hbx⟩ : ∃ bx, w.heap.size = bx := ⟨_, rfl⟩
  rw [hbx] at hBx ⊢
  generalize w.alloc (.cells #[.string r.f, .string r.t, .int .i64 r.n] 33) = w0 at hb0 hBx ⊢
  refine (alive8_c _ (hU.to hb0)).mono ?_
  rintro e w1 ⟨rfl, hb1⟩
  replace hBx := hBx.below hb1
  have hb01 : Below w.heap.size w w1 := Bst hb0 hb1
  go_wp2_with fail
  refine (new8_c A c xs _ (hU.to hb01) (hs.below hb01) hm).mono ?_
  rintro e w3 h3
  obtain ⟨hb3, p, z, rfl, hp⟩ := new_gen h3
  replace hBx := hBx.below hb3
  have hb03 : Below w.heap.size w w3 := Bst hb01 hb3
  clear h3
  go_wp2_with fail
  refine wp_mono (Q := fun e a w8 => e = Exit.normal ∧ ∃ (u26 u27 u28 u29 u30 u31 u32 u33 u34 u35 : Value) (qb : Bool), a = { tmps := #[.slice A xs.length c, .agg #[.string r.f, .string r.t, .int .i64 r.n], undef, .pointer (some ⟨bx, 0, none⟩), .bool false, .pointer p, .int .i64 z, undef, undef, undef, undef, undef, undef, undef, undef, undef, undef, undef, undef, .bool true, .bool false, .tuple #[.pointer p, .int .i64 z], .slice A xs.length c, .tuple #[.pointer p, .int .i64 z], .pointer p, .int .i64 z, u26, u27, u28, u29, u30, u31, u32, u33, u34, u35, .bool qb, undef, undef, undef, undef, undef, undef, undef, undef, undef, undef, undef, undef, undef, undef, undef, undef, undef, undef, undef, undef, undef, undef, undef, undef, undef, undef, undef, undef, undef, undef, undef, undef, undef, undef, undef, undef, undef, undef, undef, undef, undef, undef, undef, undef, undef, undef, undef, undef, undef, undef, undef, undef, undef, undef, undef, undef, undef, undef, undef, undef, undef, undef, undef, undef, undef, undef, undef, undef, undef, undef, undef, undef, undef, undef, undef, undef, undef, undef, undef, undef, undef, undef, undef, undef], defers := [] } ∧ qb = (gb || z != 0) ∧ Below w3.heap.size w3 w8) ?region ?rest
  case region =>
    refine region_tree (.q 1 (.q 3 (.two 0 (.two 2 (.t 4 (.t 5 (.t 6 (.q 7 (.q 8 (.q 9 (.q 10 .nil))))))) 4 (.t 2 (.t 5 (.t 6 (.q 7 (.q 8 (.q 9 (.q 10 .nil)))))))) 4 (.t 0 (.t 2 (.t 5 (.t 6 (.q 7 (.q 8 (.q 9 (.q 10 .nil))))))))))) (by kernel_rfl) (by kernel_rfl) ?_
    intro W hW
    have hbW : Below w.heap.size w W := Bst hb03 hW
    obtain ⟨hBl, q0, q1, q2⟩ := (hBx.below hW)
    have hsW := hs.below hbW
    repeat (refine tr_q rfl (fun K hK => ?_); unfold takeQ; go_simp; refine hK _ ?_; clear hK K)
    refine tr_two rfl rfl (fun K hK => ?_) (fun K hK => ?_)
    · go_simp; refine hK _ _ (.of Bel) ?_; clear hK K
      refine tr_two rfl rfl (fun K hK => ?_) (fun K hK => ?_)
      · rw [if_pos (wanted_free rfl _)]; refine app_anyO (E := eT3) (w0 := W) _ _ 26 33 (.agg #[.string .empty, .string .empty, .int .i64 0]) 40 rfl rfl Tryd.underlying26 info_rule rfl (by decide) (by decide) _ [] xs A c rfl rfl (Own.lit eT3 W.heap.size 33 W (Nat.le_refl _)) (hsW.below Bel) Bel (by first | (simp; done) | (simp; omega)) ?_; intro v5 w5 HO5 hb5 hg5; refine hK _ _ (.of Bel) ?_; clear hK K; rw [List.nil_append] at HO5
        refine tr_t rfl (fun K hK => ?_); go_simp; refine hK _ _ (.of Bel) ?_; clear hK K
        refine tr_t rfl (fun K hK => ?_); rw [if_pos (wanted_free rfl _)]; refine app_anyO (E := eT3) (w0 := W) _ _ 26 33 (.agg #[.string .empty, .string .empty, .int .i64 0]) 40 rfl rfl Tryd.underlying26 info_rule rfl (by decide) (by decide) _ xs [r] _ 1 rfl rfl (HO5.alloc _) (SlA.new eT3 _ [r] _ _ (by simp) _ rfl) Bel (by first | (simp; done) | (simp; omega)) ?_; intro v7 w7 HO7 hb7 _; refine hK _ _ (.of Bel) ?_; clear hK K
        obtain ⟨A7, c7, rfl, hc7, hd7, hA7⟩ := HO7.slv
        have hb07 : Below w.heap.size w w7 := Bst hbW hb7
        have hcall := great8_c A7 c7 (xs ++ [r]) .empty w7 hA7 HSM.out (by decide)
        rw [show (xs ++ [r]).length = xs.length + 1 by simp, HG.out] at hcall
        cases gb
        all_goals
          refine tr_t rfl (fun K hK => ?_); go_simp; refine Calls.mono (R := Ret w7 (.bool _)) hcall ?_; rintro e w8 ⟨rfl, hb8⟩; go_simp; refine hK _ _ (.of Bel) ?_; clear hK K
          repeat (refine tr_q rfl (fun K hK => ?_); unfold takeQ; go_simp; refine hK _ ?_; clear hK K)
          refine tr_nil ?_
          rw [noP_normal]
          exact ⟨rfl, _, _, _, _, _, _, _, _, _, _, _, rfl, rfl, Bst hW (Bst hb7 hb8)⟩
      · go_simp; refine hK _ _ (.of Bel) ?_; clear hK K
        have hx9 : SlA eT3 ((W.alloc (.cells #[] 33)).alloc (.cells #[.string r.f, .string r.t, .int .i64 r.n] 33)) (some ⟨W.heap.size + 1, 0, none⟩) [r] := SlA.new eT3 (W.alloc (.cells #[] 33)) [r] 33 _ (by simp) _ rfl
        refine tr_t rfl (fun K hK => ?_); rw [if_pos (wanted_free rfl _)]; refine app_anyO (E := eT3) (w0 := W) _ _ 26 33 (.agg #[.string .empty, .string .empty, .int .i64 0]) 40 rfl rfl Tryd.underlying26 info_rule rfl (by decide) (by decide) _ [] xs A c rfl rfl ((Own.lit eT3 W.heap.size 33 W (Nat.le_refl _)).alloc _) (hsW.below Bel) Bel (by first | (simp; done) | (simp; omega)) ?_; intro v5 w5 HO5 hb5 hg5; refine hK _ _ (.of Bel) ?_; clear hK K; rw [List.nil_append] at HO5
        have hx5 : SlA eT3 w5 (some ⟨W.heap.size + 1, 0, none⟩) [r] := SlA.kept (row := some W.heap.size) hx9 rfl hg5 (by simp)
        refine tr_t rfl (fun K hK => ?_); rw [if_pos (wanted_free rfl _)]; refine app_anyO (E := eT3) (w0 := W) _ _ 26 33 (.agg #[.string .empty, .string .empty, .int .i64 0]) 40 rfl rfl Tryd.underlying26 info_rule rfl (by decide) (by decide) _ xs [r] _ 1 rfl rfl (HO5) (hx5) Bel (by first | (simp; done) | (simp; omega)) ?_; intro v7 w7 HO7 hb7 _; refine hK _ _ (.of Bel) ?_; clear hK K
        obtain ⟨A7, c7, rfl, hc7, hd7, hA7⟩ := HO7.slv
        have hb07 : Below w.heap.size w w7 := Bst hbW hb7
        have hcall := great8_c A7 c7 (xs ++ [r]) .empty w7 hA7 HSM.out (by decide)
        rw [show (xs ++ [r]).length = xs.length + 1 by simp, HG.out] at hcall
        cases gb
        all_goals
          refine tr_t rfl (fun K hK => ?_); go_simp; refine Calls.mono (R := Ret w7 (.bool _)) hcall ?_; rintro e w8 ⟨rfl, hb8⟩; go_simp; refine hK _ _ (.of Bel) ?_; clear hK K
          repeat (refine tr_q rfl (fun K hK => ?_); unfold takeQ; go_simp; refine hK _ ?_; clear hK K)
          refine tr_nil ?_
          rw [noP_normal]
          exact ⟨rfl, _, _, _, _, _, _, _, _, _, _, _, rfl, rfl, Bst hW (Bst hb7 hb8)⟩
    · go_simp; refine hK _ _ (.of Bel) ?_; clear hK K
      have hx9 : SlA eT3 (W.alloc (.cells #[.string r.f, .string r.t, .int .i64 r.n] 33)) (some ⟨W.heap.size, 0, none⟩) [r] := SlA.new eT3 W [r] 33 _ rfl _ rfl
      refine tr_t rfl (fun K hK => ?_); go_simp; refine hK _ _ (.of Bel) ?_; clear hK K
      refine tr_t rfl (fun K hK => ?_); rw [if_pos (wanted_free rfl _)]; refine app_anyO (E := eT3) (w0 := W) _ _ 26 33 (.agg #[.string .empty, .string .empty, .int .i64 0]) 40 rfl rfl Tryd.underlying26 info_rule rfl (by decide) (by decide) _ [] xs A c rfl rfl (Own.litN eT3 W.heap.size 33 _ _ (by simp) (by simp)) (hsW.below Bel) Bel (by first | (simp; done) | (simp; omega)) ?_; intro v5 w5 HO5 hb5 hg5; refine hK _ _ (.of Bel) ?_; clear hK K; rw [List.nil_append] at HO5
      have hx5 : SlA eT3 w5 (some ⟨W.heap.size, 0, none⟩) [r] := SlA.kept (row := some (W.heap.size + 1)) (hx9.below Bel) rfl hg5 (by simp)
      refine tr_t rfl (fun K hK => ?_); rw [if_pos (wanted_free rfl _)]; refine app_anyO (E := eT3) (w0 := W) _ _ 26 33 (.agg #[.string .empty, .string .empty, .int .i64 0]) 40 rfl rfl Tryd.underlying26 info_rule rfl (by decide) (by decide) _ xs [r] _ 1 rfl rfl (HO5) (hx5) Bel (by first | (simp; done) | (simp; omega)) ?_; intro v7 w7 HO7 hb7 _; refine hK _ _ (.of Bel) ?_; clear hK K
      obtain ⟨A7, c7, rfl, hc7, hd7, hA7⟩ := HO7.slv
      have hb07 : Below w.heap.size w w7 := Bst hbW hb7
      have hcall := great8_c A7 c7 (xs ++ [r]) .empty w7 hA7 HSM.out (by decide)
      rw [show (xs ++ [r]).length = xs.length + 1 by simp, HG.out] at hcall
      cases gb
      all_goals
        refine tr_t rfl (fun K hK => ?_); go_simp; refine Calls.mono (R := Ret w7 (.bool _)) hcall ?_; rintro e w8 ⟨rfl, hb8⟩; go_simp; refine hK _ _ (.of Bel) ?_; clear hK K
        repeat (refine tr_q rfl (fun K hK => ?_); unfold takeQ; go_simp; refine hK _ ?_; clear hK K)
        refine tr_nil ?_
        rw [noP_normal]
        exact ⟨rfl, _, _, _, _, _, _, _, _, _, _, _, rfl, rfl, Bst hW (Bst hb7 hb8)⟩
  case rest =>
    rintro _ _ w8 ⟨rfl, u26, u27, u28, u29, u30, u31, u32, u33, u34, u35, qb, rfl, hqb, hb8⟩
    have hb08 : Below w.heap.size w w8 := Bst hb03 hb8
    have hBx8 := hBx.below hb8
    cases qb
    · have hz0 : z = 0 := by
        have h2 := hqb.symm
        simp at h2
        exact h2.2
      clear hqb
      obtain ⟨h0, M, rfl, hM⟩ := hp hz0
      subst hz0
      have H0 := Lib.hid h0
      have hM8 := hM.below hb8
      clear h0 hp
      go_wp2_with (at_builtin; refine app_any (E := eT3) (w0 := w8) _ _ 26 33 (.agg #[.string .empty, .string .empty, .int .i64 0]) 40 rfl rfl Tryd.underlying26 info_rule rfl (by decide) (by decide) _ [] xs A c rfl rfl (Own.lit eT3 w8.heap.size 33 w8 (Nat.le_refl _)) (hs.below (Bst hb08 Bel)) Bel (by first | (simp; done) | (simp; omega)) ?_; intro v9 w9 HO9 hb9; rw [List.nil_append] at HO9)
      go_loopw [7, 42] (fun sn si wr => ∃ i N : Nat, si = .int .i64 i ∧ i ≤ xs.length ∧ sn = .int .i64 N ∧ Hid (N = 1 + runS xs i) ∧ Own eT3 w8.heap.size 33 wr v9 (sevenTo xs i) ∧ Below w8.heap.size w8 wr) (fun _ si _ => xs.length - (intOf si).toNat)
      case atStart => exact ⟨0, 1, rfl, by omega, rfl, by show _ = _; simp [runS], by simpa [sevenTo] using HO9, hb9⟩
      case round =>
        obtain ⟨i, N, rfl, hi, rfl, HN, HO, hb⟩ := hrel
        by_cases hil : i < xs.length
        · have hie : (i : Int) < xs.length := by omega
          obtain ⟨b, o, rfl, hbl, p1, p2, p3⟩ := hs.n3 (fun _ => rfl) (Bst hb08 hb) i hil
          obtain ⟨f, hdf⟩ : ∃ f, decS xs[i].f = some f := ⟨_, (bchk_from ((isE_ok H0.out).2 _ (List.getElem_mem hil))).1⟩
          have HSS : Hid (1 + runS xs (i + 1) = N + f.length) := by show _ = _; rw [runS_succ xs i hil f hdf, HN.out]; omega
          have HDF := Lib.hid hdf
          have hNb : N ≤ 12289 := by have := runS_le H0.out i; have := HN.out; omega
          have hsz := (hm.at i hil).1
          have hdl := decS_len hdf
          clear hdf
          have hlen7 : (sevenTo xs i).length = xs.length := sevenTo_len xs i
          have hget7 : (sevenTo xs i)[i]'(by omega) = xs[i] := by
            have := sevenTo_get xs i hil
            rw [List.getElem?_eq_getElem (by omega)] at this
            simpa using this
          obtain ⟨g, cap, rfl, hgb, hgl, hgc, hgm, _⟩ := HO.form (by omega)
          have HOh := Lib.hid HO
          clear HO
          rw [hlen7] at hgc ⊢
          go_wp2_with (go_at_call 50; refine (dec_own xs[i].f _ (hU.to (Bst hb08 (Bst hb Bel))) (by omega)).mono ?_; rintro e w10 ⟨hb10, h2⟩; rw [HDF.out] at h2; obtain ⟨v2, rfl, hO2⟩ := h2; obtain ⟨A2, c2, rfl, _, _, _⟩ := hO2.slv; have hb810 : Below wr.heap.size wr w10 := Bst Bel hb10; have HO10 := HOh.out.below hb810; have hfz := World.ownsRow.frozenAt HO10 (i * 3 + 2); have hcc : w10.cell? ⟨g, i * 3 + 2, none⟩ = some (.int .i64 xs[i].n) := (by have h := HO10.at i (by omega) 2 _ rfl; rw [hget7] at h; exact h); have hC10 := HO10.count i (by omega) 7)
          refine ⟨⟨i + 1, N + f.length, by go_num, by omega, by go_num, by show _ = _; rw [HSS.out], ?_, Bel⟩, by simp [intOf]; omega⟩
          have h7 := hC10.1
          rw [hget7] at h7
          rw [← sevenTo_succ xs i hil]
          simpa [seven, hlen7] using h7
        · have hie : ¬ (i : Int) < xs.length := by omega
          obtain rfl : i = xs.length := by omega
          rw [sevenTo_all] at HO
          obtain ⟨A9, c9, rfl, hc9, hd9, hA9⟩ := HO.slv
          have hb0R : Below w.heap.size w wr := Bst hb08 hb
          have hm7 := small_seven hm
          have hl7 : (xs.map seven).length = xs.length := by simp
          have hNEW := new8_c A9 c9 (xs.map seven) wr (hU.to hb0R) hA9 hm7
          rw [hl7] at hNEW ⊢
          have hS0 := runS_all (xs := xs)
          have HF7 := Lib.hid (froms_seven xs)
          obtain ⟨S, hSe⟩ : ∃ S, (statesT (froms xs)).length = S := ⟨_, rfl⟩
          have hS1 : 1 ≤ S := by rw [← hSe]; exact (states_trie (froms xs)).pos
          have hSN : S ≤ N := by rw [← hSe]; have := HN.out; omega
          have HSe := Lib.hid hSe
          have hN0 : N ≤ 12289 := by have := runS_le H0.out xs.length; have := HN.out; omega
          clear hS0 hSe HN
          go_wp2_with fail
          refine hNEW.mono ?_
          rintro e w11 ⟨hb11, h11, _⟩
          obtain ⟨M2, rfl, hM2⟩ := h11 (isE_seven H0.out)
          rw [HF7.out] at hM2
          clear h11
          have hM11 := hM8.below (Bst hb hb11)
          have hb011 : Below w.heap.size w w11 := Bst hb0R hb11
          go_wp2_with fail
          refine (mstates_c M2 (froms xs) _ hM2).mono ?_
          rintro e w12 ⟨rfl, h12⟩; obtain rfl := h12.symm; clear h12
          rw [HSe.out]
          go_wp2_with fail
          refine (mstates_c M (froms xs) _ hM11).mono ?_
          rintro e w12 ⟨rfl, h12⟩; obtain rfl := h12.symm; clear h12
          rw [HSe.out]
          go_wp2_with fail
          refine (mstates_c M (froms xs) _ hM11).mono ?_
          rintro e w12 ⟨rfl, h12⟩; obtain rfl := h12.symm; clear h12
          rw [HSe.out]
          go_wp2_with fail
          refine (mstates_c M (froms xs) _ hM11).mono ?_
          rintro e w12 ⟨rfl, h12⟩; obtain rfl := h12.symm; clear h12
          rw [HSe.out]
          go_wp2_with fail
          have hBx11 := hBx8.below (Bst hb hb11)
          refine wp_mono (Q := fun e a w19 => e = Exit.normal ∧ ∃ (x62 x63 x64 x65 x66 x67 x68 x69 x70 x71 x72 x73 x74 x75 x76 x77 x78 x79 x80 x81 x82 x83 x84 x85 x86 x87 x88 x89 x90 x91 x92 x93 x94 x95 x96 : Value) (A7 : Option Addr) (c7 : Nat) (ys : List T3) (z : Int), a = { tmps := #[Value.slice A xs.length c, Value.agg #[Value.string r.f, Value.string r.t, Value.int IntKind.i64 r.n], undef, Value.pointer (some { block := bx, off := 0 }), Value.bool false, Value.pointer (some { block := M, off := 0 }), Value.int IntKind.i64 0, Value.int IntKind.i64 ↑N, Value.slice A9 xs.length c9, u9, u10, u11, u12, Value.pointer (some { block := M2, off := 0 }), Value.int IntKind.i64 0, .slice A7 ys.length c7, .int .i64 z, undef, undef, Value.bool true, Value.bool false, Value.tuple #[Value.pointer (some { block := M, off := 0 }), Value.int IntKind.i64 0], Value.slice A xs.length c, Value.tuple #[Value.pointer (some { block := M, off := 0 }), Value.int IntKind.i64 0], Value.pointer (some { block := M, off := 0 }), Value.int IntKind.i64 0, u26, u27, u28, u29, u30, u31, u32, u33, u34, u35, Value.bool false, Value.slice (some { block := w8.heap.size, off := 0 }) 0 0, Value.slice A xs.length c, Value.slice A9 xs.length c9, Value.slice A xs.length c, Value.int IntKind.i64 ↑xs.length, Value.int IntKind.i64 ↑xs.length, Value.bool false, u44, u45, u46, u47, u48, u49, u50, u51, u52, u53, u54, u55, u56, u57, u58, u59, u60, u61, x62, x63, x64, x65, x66, x67, x68, x69, x70, x71, x72, x73, x74, x75, x76, x77, x78, x79, x80, x81, x82, x83, x84, x85, x86, x87, x88, x89, x90, x91, x92, x93, x94, x95, x96, undef, undef, undef, undef, undef, undef, undef, undef, undef, undef, undef, undef, undef, undef, undef, undef, undef, undef, undef, undef, undef, undef, undef, undef], defers := [] } ∧ SlA eT3 w19 A7 ys ∧ Below w11.heap.size w11 w19 ∧ Hid (z = 0 → allR (xs ++ [r]) = 0 ∧ Nrm (xs ++ [r]) ys ∧ ys.length ≤ 4096)) ?region18 ?rest18
          case region18 =>
            refine region_tree (.q 1 (.q 3 (.two 0 (.two 2 (.t 4 (.t 5 (.t 6 (.q 7 (.q 8 (.q 9 (.q 10 (.q 11 .nil)))))))) 4 (.t 2 (.t 5 (.t 6 (.q 7 (.q 8 (.q 9 (.q 10 (.q 11 .nil))))))))) 4 (.t 0 (.t 2 (.t 5 (.t 6 (.q 7 (.q 8 (.q 9 (.q 10 (.q 11 .nil)))))))))))) (by kernel_rfl) (by kernel_rfl) ?_
            intro W hW
            have hbW : Below w.heap.size w W := Bst hb011 hW
            obtain ⟨hBl, q0, q1, q2⟩ := (hBx11.below hW)
            have hsW := hs.below hbW
            repeat (refine tr_q rfl (fun K hK => ?_); unfold takeQ; go_simp; refine hK _ ?_; clear hK K)
            refine tr_two rfl rfl (fun K hK => ?_) (fun K hK => ?_)
            · go_simp; refine hK _ _ (.of Bel) ?_; clear hK K
              refine tr_two rfl rfl (fun K hK => ?_) (fun K hK => ?_)
              · rw [if_pos (wanted_free rfl _)]; refine app_anyO (E := eT3) (w0 := W) _ _ 26 33 (.agg #[.string .empty, .string .empty, .int .i64 0]) 40 rfl rfl Tryd.underlying26 info_rule rfl (by decide) (by decide) _ [] xs A c rfl rfl (Own.lit eT3 W.heap.size 33 W (Nat.le_refl _)) (hsW.below Bel) Bel (by first | (simp; done) | (simp; omega)) ?_; intro v5 w5 HO5 hb5 hg5; refine hK _ _ (.of Bel) ?_; clear hK K; rw [List.nil_append] at HO5
                refine tr_t rfl (fun K hK => ?_); go_simp; refine hK _ _ (.of Bel) ?_; clear hK K
                refine tr_t rfl (fun K hK => ?_); rw [if_pos (wanted_free rfl _)]; refine app_anyO (E := eT3) (w0 := W) _ _ 26 33 (.agg #[.string .empty, .string .empty, .int .i64 0]) 40 rfl rfl Tryd.underlying26 info_rule rfl (by decide) (by decide) _ xs [r] _ 1 rfl rfl (HO5.alloc _) (SlA.new eT3 _ [r] _ _ (by simp) _ rfl) Bel (by first | (simp; done) | (simp; omega)) ?_; intro v7 w7 HO7 hb7 _; refine hK _ _ (.of Bel) ?_; clear hK K
                obtain ⟨A7, c7, rfl, hc7, hd7, hA7⟩ := HO7.slv
                have hb07 : Below w.heap.size w w7 := Bst hbW hb7
                have hcall := norm_c A7 c7 (xs ++ [r]) w7 (hU.to hb07) hA7 HSM.out
                rw [show (xs ++ [r]).length = xs.length + 1 by simp] at hcall
                refine tr_t rfl (fun K hK => ?_); go_simp; refine hcall.mono ?_; rintro e w8 ⟨A8, c8, ys, z, rfl, hA8, hb8, _, hz8⟩; go_simp; refine hK _ _ (.of Bel) ?_; clear hK K
                repeat (refine tr_q rfl (fun K hK => ?_); unfold takeQ; go_simp; refine hK _ ?_; clear hK K)
                refine tr_nil ?_
                rw [noP_normal]
                exact ⟨rfl, _, _, _, _, _, _, _, _, _, _, _, _, _, _, _, _, _, _, _, _, _, _, _, _, _, _, _, _, _, _, _, _, _, _, _, A8, c8, ys, z, rfl, hA8, Bst hW (Bst hb7 hb8), nrm_zero hz8⟩
              · go_simp; refine hK _ _ (.of Bel) ?_; clear hK K
                have hx9 : SlA eT3 ((W.alloc (.cells #[] 33)).alloc (.cells #[.string r.f, .string r.t, .int .i64 r.n] 33)) (some ⟨W.heap.size + 1, 0, none⟩) [r] := SlA.new eT3 (W.alloc (.cells #[] 33)) [r] 33 _ (by simp) _ rfl
                refine tr_t rfl (fun K hK => ?_); rw [if_pos (wanted_free rfl _)]; refine app_anyO (E := eT3) (w0 := W) _ _ 26 33 (.agg #[.string .empty, .string .empty, .int .i64 0]) 40 rfl rfl Tryd.underlying26 info_rule rfl (by decide) (by decide) _ [] xs A c rfl rfl ((Own.lit eT3 W.heap.size 33 W (Nat.le_refl _)).alloc _) (hsW.below Bel) Bel (by first | (simp; done) | (simp; omega)) ?_; intro v5 w5 HO5 hb5 hg5; refine hK _ _ (.of Bel) ?_; clear hK K; rw [List.nil_append] at HO5
                have hx5 : SlA eT3 w5 (some ⟨W.heap.size + 1, 0, none⟩) [r] := SlA.kept (row := some W.heap.size) hx9 rfl hg5 (by simp)
                refine tr_t rfl (fun K hK => ?_); rw [if_pos (wanted_free rfl _)]; refine app_anyO (E := eT3) (w0 := W) _ _ 26 33 (.agg #[.string .empty, .string .empty, .int .i64 0]) 40 rfl rfl Tryd.underlying26 info_rule rfl (by decide) (by decide) _ xs [r] _ 1 rfl rfl (HO5) (hx5) Bel (by first | (simp; done) | (simp; omega)) ?_; intro v7 w7 HO7 hb7 _; refine hK _ _ (.of Bel) ?_; clear hK K
                obtain ⟨A7, c7, rfl, hc7, hd7, hA7⟩ := HO7.slv
                have hb07 : Below w.heap.size w w7 := Bst hbW hb7
                have hcall := norm_c A7 c7 (xs ++ [r]) w7 (hU.to hb07) hA7 HSM.out
                rw [show (xs ++ [r]).length = xs.length + 1 by simp] at hcall
                refine tr_t rfl (fun K hK => ?_); go_simp; refine hcall.mono ?_; rintro e w8 ⟨A8, c8, ys, z, rfl, hA8, hb8, _, hz8⟩; go_simp; refine hK _ _ (.of Bel) ?_; clear hK K
                repeat (refine tr_q rfl (fun K hK => ?_); unfold takeQ; go_simp; refine hK _ ?_; clear hK K)
                refine tr_nil ?_
                rw [noP_normal]
                exact ⟨rfl, _, _, _, _, _, _, _, _, _, _, _, _, _, _, _, _, _, _, _, _, _, _, _, _, _, _, _, _, _, _, _, _, _, _, _, A8, c8, ys, z, rfl, hA8, Bst hW (Bst hb7 hb8), nrm_zero hz8⟩
            · go_simp; refine hK _ _ (.of Bel) ?_; clear hK K
              have hx9 : SlA eT3 (W.alloc (.cells #[.string r.f, .string r.t, .int .i64 r.n] 33)) (some ⟨W.heap.size, 0, none⟩) [r] := SlA.new eT3 W [r] 33 _ rfl _ rfl
              refine tr_t rfl (fun K hK => ?_); go_simp; refine hK _ _ (.of Bel) ?_; clear hK K
              refine tr_t rfl (fun K hK => ?_); rw [if_pos (wanted_free rfl _)]; refine app_anyO (E := eT3) (w0 := W) _ _ 26 33 (.agg #[.string .empty, .string .empty, .int .i64 0]) 40 rfl rfl Tryd.underlying26 info_rule rfl (by decide) (by decide) _ [] xs A c rfl rfl (Own.litN eT3 W.heap.size 33 _ _ (by simp) (by simp)) (hsW.below Bel) Bel (by first | (simp; done) | (simp; omega)) ?_; intro v5 w5 HO5 hb5 hg5; refine hK _ _ (.of Bel) ?_; clear hK K; rw [List.nil_append] at HO5
              have hx5 : SlA eT3 w5 (some ⟨W.heap.size, 0, none⟩) [r] := SlA.kept (row := some (W.heap.size + 1)) (hx9.below Bel) rfl hg5 (by simp)
              refine tr_t rfl (fun K hK => ?_); rw [if_pos (wanted_free rfl _)]; refine app_anyO (E := eT3) (w0 := W) _ _ 26 33 (.agg #[.string .empty, .string .empty, .int .i64 0]) 40 rfl rfl Tryd.underlying26 info_rule rfl (by decide) (by decide) _ xs [r] _ 1 rfl rfl (HO5) (hx5) Bel (by first | (simp; done) | (simp; omega)) ?_; intro v7 w7 HO7 hb7 _; refine hK _ _ (.of Bel) ?_; clear hK K
              obtain ⟨A7, c7, rfl, hc7, hd7, hA7⟩ := HO7.slv
              have hb07 : Below w.heap.size w w7 := Bst hbW hb7
              have hcall := norm_c A7 c7 (xs ++ [r]) w7 (hU.to hb07) hA7 HSM.out
              rw [show (xs ++ [r]).length = xs.length + 1 by simp] at hcall
              refine tr_t rfl (fun K hK => ?_); go_simp; refine hcall.mono ?_; rintro e w8 ⟨A8, c8, ys, z, rfl, hA8, hb8, _, hz8⟩; go_simp; refine hK _ _ (.of Bel) ?_; clear hK K
              repeat (refine tr_q rfl (fun K hK => ?_); unfold takeQ; go_simp; refine hK _ ?_; clear hK K)
              refine tr_nil ?_
              rw [noP_normal]
              exact ⟨rfl, _, _, _, _, _, _, _, _, _, _, _, _, _, _, _, _, _, _, _, _, _, _, _, _, _, _, _, _, _, _, _, _, _, _, _, A8, c8, ys, z, rfl, hA8, Bst hW (Bst hb7 hb8), nrm_zero hz8⟩
          case rest18 =>
            rintro _ _ w19 ⟨rfl, x62, x63, x64, x65, x66, x67, x68, x69, x70, x71, x72, x73, x74, x75, x76, x77, x78, x79, x80, x81, x82, x83, x84, x85, x86, x87, x88, x89, x90, x91, x92, x93, x94, x95, x96, A7, c7, ys, z, rfl, hA7, hb19, hz⟩
            by_cases hz0 : z = 0
            · subst hz0
              obtain ⟨k0, k1, k2⟩ := hz.out rfl
              have hmy : Small ys := ⟨by omega, fun b hb => HSM.out.2 b (k1.mem b hb)⟩
              have k3 := normal_is k1 k0 k2
              obtain ⟨k4, k5⟩ := more_states k1 k0
              rw [HSe.out] at k4 k5
              obtain ⟨S2, hS2⟩ : ∃ S2, (statesT (froms ys)).length = S2 := ⟨_, rfl⟩
              rw [hS2] at k4 k5
              have HS2 := Lib.hid hS2
              have hly := hmy.1
              clear hz hS2 k1 k0
              have hb019 : Below w.heap.size w w19 := Bst hb011 hb19
              have hM19 := hM11.below hb19
              have hNE2 := new8_c A7 c7 ys w19 (hU.to hb019) hA7 hmy
              go_wp2_with fail
              refine hNE2.mono ?_
              rintro e w20 ⟨hb20, h20, _⟩
              obtain ⟨M3, rfl, hM3⟩ := h20 k3
              clear h20
              have hM20 := hM19.below hb20
              go_wp2_with fail
              refine (mstates_c M3 (froms ys) _ hM3).mono ?_
              rintro e w21 ⟨rfl, h12⟩; obtain rfl := h12.symm; clear h12
              rw [HS2.out]
              go_wp2_with fail
              refine (mstates_c M (froms xs) _ hM20).mono ?_
              rintro e w21 ⟨rfl, h12⟩; obtain rfl := h12.symm; clear h12
              rw [HSe.out]
              go_wp2_with fail
              refine (mstates_c M3 (froms ys) _ hM3).mono ?_
              rintro e w21 ⟨rfl, h12⟩; obtain rfl := h12.symm; clear h12
              rw [HS2.out]
              go_wp2_with fail
              refine (mstates_c M (froms xs) _ hM20).mono ?_
              rintro e w21 ⟨rfl, h12⟩; obtain rfl := h12.symm; clear h12
              rw [HSe.out]
              go_wp2
              go_ret
              have k5' : (S2 : Int) ≤ (S : Int) + 3 := by omega
              exact ⟨by simp [k5'], Bst hb019 hb20⟩
            · go_wp2
              go_ret
              exact ⟨rfl, Bst hb011 hb19⟩
    · go_wp2
      go_ret
      exact ⟨rfl, hb08⟩
end Go.Proofs.YtpccanadijefnaaDoor
