/- Parts of these proofs, one behind the other: Lk, New8, Tok8, Hit8, Hs8, Mh8, Lv8. No condition. -/
import Derived.Test.YtmpoihejacklnaaDoorK813
import Derived.Test.YtmpoihejacklnaaDoorK806
import Derived.Test.YtmpoihejacklnaaDoorK810
import Derived.Test.YtmpoihejacklnaaDoorK812
/- The machine's link, walked. No condition. -/
namespace Go.Proofs.YtmpoihejacklnaaDoor
open Go Go.RowKit
/-! ### the least number of a kind -/
theorem least_ex {p : Nat → Prop} (h : ∃ n, p n) : ∃ n, p n ∧ ∀ m, p m → n ≤ m := by
  obtain ⟨n, hn⟩ := h
  induction n using Nat.strongRecOn with
  | _ n ih =>
    by_cases hm : ∃ m, m < n ∧ p m
    · obtain ⟨m, h1, h2⟩ := hm
      exact ih m h1 h2
    · exact ⟨n, hn, fun m h => Nat.le_of_not_lt fun hlt => hm ⟨m, hlt, h⟩⟩
open Classical in
noncomputable def least (p : Nat → Prop) : Nat := if h : ∃ n, p n then Classical.choose (least_ex h) else 0
theorem least_spec {p : Nat → Prop} (h : ∃ n, p n) : p (least p) := by unfold least; rw [dif_pos h]; exact (Classical.choose_spec (least_ex h)).1
theorem least_le {p : Nat → Prop} {n : Nat} (h : p n) : least p ≤ n := by unfold least; rw [dif_pos ⟨n, h⟩]; exact (Classical.choose_spec (least_ex ⟨n, h⟩)).2 n h
/-! ### what a later block leaves -/
/-- All of the states' parts lie below n. -/
def Low (n : Nat) (sts : List S4) : Prop := ∀ i (h : i < sts.length), sts[i].m < n ∧ ∀ b, sts[i].r.ownBlock = some b → b < n
section
variable {base : Nat} {w w' : World} {M N : Nat} {v : Value} {T : List (List Int)} {sts : List S4} {bk : Nat → Nat} {rs : Nat → List Int}
theorem Mch.high (h : MchP base w M v T N sts bk rs) {n : Nat} (hl : Low n sts) (hM : M < n) (hv : ∀ g, v.ownBlock = some g → g < n) {S : List Nat} (hk : Kb w w' S) (hS : ∀ s ∈ S, n ≤ s) : MchP base w' M v T N sts bk rs :=
  ⟨(hk.block M h.cell.2.2 (fun hm => by have := hS M hm; omega)).trans h.blk, h.ge, h.own.kb hk (fun g hg hm => by have := hS g hm; have := hv g hg; omega),
    h.at'.kb hk (fun i hi hm => by have := hS _ hm; have := (hl i hi).1; omega) (fun i hi g hg hm => by have := hS _ hm; have := (hl i hi).2 g hg; omega)⟩
theorem Mch.low (h : MchP base w M v T N sts bk rs) (hT : 0 < T.length) : Low w.heap.size sts := by
  obtain ⟨g, cap, _, _, _, _, hms, hrs⟩ := h.parts hT
  exact fun i hi => ⟨(hms i hi).2.2, fun b hb => (hrs i hi b hb).2.2.1⟩
/-- The state with another link. -/
def S4.link (s : S4) (b : Nat) : S4 := ⟨s.m, b, s.z, s.A, s.l, s.c⟩
theorem Low.set {n : Nat} (h : Low n sts) (j b : Nat) (hj : j < sts.length) : Low n (sts.set j (sts[j].link b)) := fun i hi => by
  have hi' : i < sts.length := by simpa using hi
  rw [List.getElem_set]
  split
  · rename_i e; subst e; exact h j hj
  · exact h i hi'
/-- A link laid anew. -/
theorem Mch.back (h : MchP base w M v T N sts bk rs) (j : Nat) (hj : j < sts.length) (b g : Nat) (hg : v.ownBlock = some g) :
    MchP base (w.setCell ⟨g, j * 4 + 1, none⟩ (.int .i64 b)) M v T N (sts.set j (sts[j].link b)) (fun x => if x = j then b else bk x) rs ∧ w.grownBy (w.setCell ⟨g, j * 4 + 1, none⟩ (.int .i64 b)) (some g) := by
  have hlen := h.at'.len
  obtain ⟨g', cap, rfl, hgM, hgb, hgl, hms, hrs⟩ := h.parts (by omega)
  have e : g' = g := by simpa [Value.ownBlock] using hg
  subst e
  have hown1 := h.own
  rw [← hlen] at hown1
  obtain ⟨hO2, gb2⟩ := hown1.cellset j hj 1 (by decide) (.int .i64 b) (sts[j].link b) rfl
  have k12 : Kb w (w.setCell ⟨g', j * 4 + 1, none⟩ (.int .i64 b)) [g'] := Kb.grown gb2
  have hm : ∀ i (hi : i < (sts.set j (sts[j].link b)).length) (hi' : i < sts.length), (sts.set j (sts[j].link b))[i].m = sts[i].m ∧ (sts.set j (sts[j].link b))[i].r = sts[i].r ∧ (sts.set j (sts[j].link b))[i].z = sts[i].z ∧ (sts.set j (sts[j].link b))[i].b = if i = j then (b : Int) else sts[i].b := fun i hi hi' => by
    rw [List.getElem_set]
    by_cases e : j = i
    · subst e; rw [if_pos rfl, if_pos rfl]; exact ⟨rfl, rfl, rfl, rfl⟩
    · rw [if_neg e, if_neg (fun h => e h.symm)]; exact ⟨rfl, rfl, rfl, rfl⟩
  have hsl : (sts.set j (sts[j].link b)).length = sts.length := by simp
  refine ⟨⟨?_, h.ge, ?_, ⟨by rw [hsl, hlen], fun i hi => ?_, fun i hi => ?_, fun i hi => ?_, fun i hi => ?_, fun i hi => ?_, fun i l' hi hl' hil => ?_, fun i l' hi hl' hil c hc => ?_⟩⟩, gb2⟩
  · exact (k12.block M h.cell.2.2 (by simpa using fun e => hgM e.symm)).trans h.blk
  · rw [← hlen]; exact hO2
  · have hi' : i < sts.length := by omega
    rw [(hm i hi hi').1]
    exact (h.at'.on i hi').kb k12 (by simpa using (hms i hi').1)
  · have hi' : i < sts.length := by omega
    rw [(hm i hi hi').2.2.2]
    by_cases e : i = j
    · rw [if_pos e]; simp only [if_pos e]
    · rw [if_neg e]; simp only [if_neg e]; exact h.at'.bs i hi'
  · have hi' : i < sts.length := by omega
    rw [(hm i hi hi').2.2.1]; exact h.at'.zs i hi'
  · have hi' : i < sts.length := by omega
    rw [(hm i hi hi').2.1]
    exact (h.at'.rows i hi').kb k12 fun c hc => by simpa using (hrs i hi' c hc).1
  · have hi' : i < sts.length := by omega
    rw [(hm i hi hi').1]; exact h.at'.ms i hi'
  · have hi' : i < sts.length := by omega
    have hl2 : l' < sts.length := by omega
    rw [(hm i hi hi').1, (hm l' hl' hl2).1]; exact h.at'.apm i l' hi' hl2 hil
  · have hi' : i < sts.length := by omega
    have hl2 : l' < sts.length := by omega
    rw [(hm i hi hi').2.1] at hc
    rw [(hm l' hl' hl2).2.1]; exact h.at'.apr i l' hi' hl2 hil c hc
end
theorem wpList_que {P : Program} {w : World} {ops : Array Oper} {rest : List Oper} {o : Oper} {a : Act} {Q : Exit → Act → World → Prop} {k : IntKind} {base : Nat} {v : Value} {g : Nat} {rem : List Int} (hg : o.guard = none) (s x : Operand) (t e : TypeId) {bytes : Nat}
    (ho : o.op = .call { callee := .builtin .append, args := #[s, x], argTypes := #[t, t] }) (ht : P.underlying t = some (.slice e)) (hinfo : (P.info? e).map (fun i => (i.zero, i.size, i.bytes)) = some (some (.int k 0), 1, bytes)) (hby : 0 < bytes)
    (b off c : Nat) (y : Int) (hs : a.eval s = v) (hx : a.eval x = .slice (some ⟨b, off, none⟩) 1 c) (H : Que k base w v g rem) (hy : w.cell? ⟨b, off, none⟩ = some (.int k y)) (hl : (rem.length + 1) * bytes ≤ 140737488355328) (hb : base ≤ w.heap.size)
    (h : ∀ v' g' w', Que k base w' v' g' (rem ++ [y]) → w.grownBy w' (some g) → (g' = g ∨ w.heap.size ≤ g') → wpList P ops Q rest (a.put o.dst v') w') : wpList P ops Q (o :: rest) a w := by
  refine wpList_plain hg fun K hK => ?_
  obtain ⟨v', g', w', hr, h1, h2, h3⟩ := run_que (P := P) t o.type e ht hinfo hby H b off c y hy hl hb
  unfold Oper.wp execOp
  simp only [ho, resolve, invoke, builtin, Sem.run_bind, Sem.run_pure, Result.andThen_ok, List.map_toArray, List.map_cons, List.map_nil, hs, hx, hr]
  exact hK _ _ (h v' g' w' h1 h2 h3)
/-! ### the walk -/
/-- What holds while the states are gone through. -/
structure LinkP (w0 w wr : World) (M : Nat) (v : Value) (T : List (List Int)) (N : Nat) (rs : Nat → List Int) (sq : Value) (k g : Nat) (E : List Nat) (sts : List S4) (bk : Nat → Nat) (left : Int → Bool) : Prop where
  que : Que .i64 w.heap.size wr sq g ((E.drop k).map fun n : Nat => (n : Int))
  kE : k ≤ E.length
  bfs : Bfs T bk E k left
  mch : MchP w0.heap.size wr M v T N sts bk rs
  low : Low w.heap.size sts
  bel : Below w0.heap.size w wr
  size : w.heap.size ≤ wr.heap.size
def LinkN (w0 w : World) (M : Nat) (v : Value) (T : List (List Int)) (N : Nat) (rs : Nat → List Int) (sq : Value) (wr : World) (n : Nat) : Prop := ∃ k g E sts bk, n + k = T.length ∧ LinkP w0 w wr M v T N rs sq k g E sts bk (fun _ => false)
theorem alloc_cell (w : World) (v : Value) (t : TypeId) (n : Nat) (h : n = w.heap.size) : (w.alloc (.cells #[v] t)).cell? ⟨n, 0, none⟩ = some v := by
  subst h
  have hh : (w.alloc (.cells #[v] t)).heap[w.heap.size]? = some (.cells #[v] t) := by
    show (w.heap.push _)[w.heap.size]? = _
    simp
  unfold World.cell?; rw [hh]; rfl
theorem grow_alloc (w : World) (o : Obj) : w.grownBy (w.alloc o) none := ⟨rfl, rfl, rfl, by simp, fun k hk _ => Below.heap_alloc _ _ _ hk⟩
/-- A state more in the queue. -/
theorem LinkP.more {w0 w wq w5 : World} {M : Nat} {v v5 : Value} {T : List (List Int)} {N k g2 g5 vv : Nat} {rs : Nat → List Int} {E2 : List Nat} {sts' : List S4} {bk' : Nat → Nat} {left' : Int → Bool} (hq : Que .i64 w.heap.size w5 v5 g5 (((E2.drop (k + 1)).map fun n : Nat => (n : Int)) ++ [(vv : Int)])) (hk : k + 1 ≤ E2.length)
    (hb : Bfs T bk' (E2 ++ [vv]) (k + 1) left') (hM : MchP w0.heap.size wq M v T N sts' bk' rs) (hL : Low w.heap.size sts') (hMl : M < w.heap.size) (hv : ∀ g, v.ownBlock = some g → g < w.heap.size) (hB : Below w0.heap.size w wq) (h0 : w0.heap.size ≤ w.heap.size) (hs : w.heap.size ≤ wq.heap.size) (hge : w.heap.size ≤ g2) {o : Obj} (hg5 : (wq.alloc o).grownBy w5 (some g2)) :
    LinkP w0 w w5 M v T N rs v5 (k + 1) g5 (E2 ++ [vv]) sts' bk' left' := by
  have k5 : Kb wq w5 [g2] := ((Kb.grown0 (grow_alloc wq o)).trans (Kb.grown hg5)).weak (by simp)
  have h5 := k5.size
  refine ⟨?_, by simp; omega, hb, hM.high hL hMl hv k5 (by simpa using hge), hL, k5.to (by simp; omega) hB (by omega), by omega⟩
  rw [List.drop_append_of_le_length hk, List.map_append]; exact hq
theorem RngM.more {P : Program} {ki e : TypeId} {w w' : World} {b r N cnt g : Nat} {f : Int → Option Nat} {left : Int → Bool} (h : RngM P ki e w b r N f left cnt) {o : Obj} (hg : (w.alloc o).grownBy w' (some g)) (hb : b ≠ g) (hr : r ≠ g) : RngM P ki e w' b r N f left cnt :=
  (h.kept (grow_alloc w o) (by simp) (by simp)).kept hg (by simpa using hb) (by simpa using hr)
set_option maxRecDepth 100000 in
set_option maxHeartbeats 2000000 in
theorem link_c (w0 : World) (M : Nat) (v : Value) (T : List (List Int)) (N : Nat) (sts : List S4) (rs : Nat → List Int) (w : World) (h : MchP w0.heap.size w M v T N sts (fun _ => 0) rs) (hT : Trie T) (hb0 : Below w0.heap.size w0 w) (hl : T.length ≤ 1073741824) :
    Calls Tryd.prog 74 #[.pointer (some ⟨M, 0, none⟩)] w fun e w' => e = .returned (.tuple #[]) ∧
      ∃ sts' bk, MchP w0.heap.size w' M v T N sts' bk rs ∧ Backs T bk ∧ Below w0.heap.size w w' ∧ w.heap.size ≤ w'.heap.size := by
  have HT := Lib.hid hT
  have hpos := hT.pos
  clear hT
  obtain ⟨gS, capS, hv, hgM, hgb, hgl, _, _⟩ := h.parts hpos
  have hMl := h.cell.2.2
  have hlow := Lib.hid (h.low hpos)
  have H0 := Lib.hid h
  clear h
  go_enter Tryd.func74, Tryd.ntmps74
  go_wp2
  go_loopw [2] (fun sq wr => ∃ n, LinkN w0 w M v T N rs sq wr n) (fun sq wr => least (LinkN w0 w M v T N rs sq wr))
  case atStart =>
    refine ⟨T.length, 0, w.heap.size, [0], sts, fun _ => 0, rfl, ⟨Que.one .i64 _ w 0 3 (Nat.le_refl _), by simp, bfs_start HT.out, ?_, hlow.out, ?_, by simp⟩⟩
    · exact H0.out.below ((Below.refl _ _).alloc (Nat.le_refl _) _)
    · exact (Below.refl _ _).alloc hb0.size _
  case round =>
    obtain ⟨k, g, E, sts1, bk, hnk, hP⟩ := least_spec hrel
    have hEk := hP.kE
    have hEl := hP.bfs.len
    have hMr := hP.mch
    have hbw : Below w0.heap.size w0 wr := hb0.trans hP.bel
    obtain ⟨o, cap, hsq, hc1, hc2, hcs, hcw⟩ := hP.que.form
    obtain ⟨mc, mf, ml⟩ := hMr.cell
    by_cases hlt : k < E.length
    · obtain ⟨i, hi⟩ : ∃ i, E[k]? = some i := ⟨E[k], List.getElem?_eq_getElem hlt⟩
      have hrem : (E.drop k).map (fun n : Nat => (n : Int)) = (i : Int) :: (E.drop (k + 1)).map (fun n : Nat => (n : Int)) := by
        rw [List.drop_eq_getElem_cons hlt, List.map_cons]
        rw [List.getElem?_eq_getElem hlt] at hi
        injection hi with hi
        rw [hi]
      have hQ := hP.que
      have hB1 := Lib.hid (bfs_pop HT.out hP.bfs hi)
      have HI := Lib.hid hi
      have hil := hP.bfs.lt i (List.mem_of_getElem? hi)
      have hlowr := Lib.hid hP.low
      have hbel := hP.bel
      have hsz := hP.size
      obtain ⟨rem, hre⟩ : ∃ rem, (E.drop (k + 1)).map (fun n : Nat => (n : Int)) = rem := ⟨_, rfl⟩
      have hrl : rem.length + k + 1 = E.length := by rw [← hre]; simp; omega
      rw [hre] at hrem
      rw [hrem] at hQ hsq
      have HRE := Lib.hid hre
      rw [hsq] at hQ
      rw [List.length_cons] at hQ hsq
      have hQp := hQ.pop
      have HQP : Hid (Que .i64 w.heap.size wr (if cap = 1 then Value.slice (some ⟨g, o, none⟩) rem.length (cap - 1) else Value.slice (some ⟨g, o + 1, none⟩) rem.length (cap - 1)) g rem) := by
        show Que _ _ _ _ _ _
        by_cases hcp : cap = 1
        · rw [if_pos hcp]; rw [if_pos hcp] at hQp; exact hQp
        · rw [if_neg hcp]; rw [if_neg hcp] at hQp; exact hQp
      clear hQp
      obtain ⟨_, hcc, hcm, x0⟩ := hQ.head
      obtain ⟨g2, cap2, m, A1, l1, c1, hv2, hc3, hc4, hg, s0, s1, s2, s3, hon, _, hmi⟩ := hMr.read i hil
      have hgg : gS = g2 := by rw [hv] at hv2; injection hv2 with e _ _; injection e with e; injection e with e _
      subst hgg
      rw [hv] at mc
      have hil1 : (i : Int) < T.length := by omega
      have hcap1 : ((rem.length : Int) + 1) ≤ cap := by omega
      have hcap2 : (cap : Int) ≤ 9223372036854775807 := by simp only [maxLen] at hcm; omega
      have hil2 : i < sts1.length := by rw [hMr.at'.len]; exact hil
      have hml : m < w.heap.size := by rw [← (hmi hil2).1]; exact (hP.low i hil2).1
      have hmg : Hid (gS ≠ m) := fun e => by
        have h6 := hMr.own.form (by rw [hMr.at'.len]; exact hpos)
        obtain ⟨g7, cap7, e7, _, _, _, _, cur7, h7⟩ := h6
        have : gS = g7 := by rw [hv] at e7; injection e7 with e _ _; injection e with e; injection e with e _
        exact hon.ne_cells h7 (by rw [← this, e])
      have hgl2 := hQ.lt
      clear hP hrel hi hre hrem hcs hcw hc1 hc2 hQ hmi s1 s2 s3 hv2
      subst hsq
      go_wp2_with (at_range; refine wpList_onm_range rfl _ 139 rfl 21 3 Tryd.underlying21 Tryd.underlying139 m N _ rfl hon ?_; intro w1 cnt1 hr1 hg1 hs1; go_frame)
      all_goals
        have hb1 : Below wr.heap.size wr w1 := (Below.refl _ _).grown hg1 (Nat.le_refl _) (fun _ e => by cases e)
        obtain ⟨sq, hsq⟩ : ∃ sq, sq = (if cap = 1 then Value.slice (some ⟨g, o, none⟩) rem.length (cap - 1) else Value.slice (some ⟨g, o + 1, none⟩) rem.length (cap - 1)) := ⟨_, rfl⟩
        have hQ2 := HQP.out.below hb1
        rw [← hsq] at hQ2
        first | rw [if_pos ‹cap = 1›] at hsq | rw [if_neg ‹¬ cap = 1›] at hsq
        try (rw [‹cap = 1›] at hsq; simp only [Nat.sub_self] at hsq)
        rw [← hsq]
        have hM1 := Lib.hid (hMr.below hb1)
        clear hsq HQP x0 mc s0 hon hMr
        obtain ⟨wp, rfl⟩ : ∃ wp, wp = wr := ⟨_, rfl⟩
        go_loopw [2] (fun sq2 w2 => ∃ (g2 : Nat) (E2 : List Nat) (sts2 : List S4) (bk2 : Nat → Nat) (left : Int → Bool) (cnt : Nat), LinkP w0 w w2 M v T N rs sq2 (k + 1) g2 E2 sts2 bk2 left ∧ RngM Tryd.prog 21 3 w2 m wp.heap.size N (fun r => idxP T (pth T i ++ [r])) left cnt ∧ Hid (E2[k]? = some i) ∧ g2 ≠ wp.heap.size ∧ wp.heap.size < w2.heap.size) (fun _ w2 => w2.rangeLeft m wp.heap.size)
        case atStart =>
          refine ⟨g, E, sts1, bk, fun r => (idxP T (pth T i ++ [r])).isSome, cnt1, ⟨?_, by omega, ?_, hM1.out, hlowr.out, hbel.trans (hb1.mono hbw.size), Nat.le_trans hsz hb1.size⟩, hr1, HI.out, by omega, by omega⟩
          · rw [HRE.out]; exact hQ2
          · have := hB1.out
            simpa only [idxP_mem] using this
        case round =>
          obtain ⟨g2, E2, sts2, bk2, left, cnt, hP2, hr2, hE2, hgr2, hsz2⟩ := hrel
          obtain ⟨o2, cp2, hu2, _⟩ := hP2.que.form
          obtain ⟨ln2, hln2⟩ : ∃ n, n = ((E2.drop (k + 1)).map fun n : Nat => (n : Int)).length := ⟨_, rfl⟩
          rw [← hln2] at hu2
          replace hln2 := Lib.hid hln2
          subst hu2
          have HP2 := Lib.hid hP2
          have hlk : k < E2.length := (List.getElem?_eq_some_iff.1 hE2.out).1
          have hEl2 := hP2.bfs.len
          have hb2 := hP2.bel
          have hs2 := hP2.size
          have hE3 : ((E2.drop (k + 1)).map fun n : Nat => (n : Int)).length + (k + 1) = E2.length := by simp; omega
          clear hP2 hB1 hr1 hQ2 hEl hrl
          go_wp2_with (at_next; refine wpList_onm_next rfl _ rfl 21 3 Tryd.underlying21 Tryd.underlying3 m wp.heap.size N _ left cnt rfl hr2 ?_ ?_)
          · intro hl0
            go_wp2
            have hLk := HP2.out
            refine ⟨⟨T.length - (k + 1), k + 1, g2, E2, sts2, bk2, by omega, hLk.que, hLk.kE, hLk.bfs.through hl0, hLk.mch, hLk.low, hLk.bel, hLk.size⟩, ?_⟩
            have := least_le (p := LinkN w0 w M v T N rs _ wr) (n := T.length - (k + 1)) ⟨k + 1, g2, E2, sts2, bk2, by omega, hLk.que, hLk.kE, hLk.bfs.through hl0, hLk.mch, hLk.low, hLk.bel, hLk.size⟩
            omega
          · intro x vv w3 cnt3 hwf hlx hfx hr3 hlt3 hg3 hs3 hen
            have hb3 : Below w.heap.size wr w3 := (Below.refl _ _).grown hg3 hs2 (fun _ e => by injection e with e; rw [← e]; omega)
            have hP3 := HP2.out
            have HQ3 : Que .i64 w.heap.size w3 _ g2 _ := hP3.que.kept hg3 (fun e => by injection e with e; exact hgr2 e)
            have hM3 : MchP w0.heap.size w3 M v T N sts2 bk2 rs := hP3.mch.high hP3.low hMl (fun g hg => by rw [hv] at hg; simp only [Value.ownBlock, Option.some.injEq] at hg; omega) (Kb.grown hg3) (by simp; omega)
            have hB3 := Lib.hid hP3.bfs
            have hL3 := Lib.hid hP3.low
            have hvj : T[vv]? = some (pth T i ++ [x]) := (idxP_some HT.out.nodup).1 hfx
            have hvl := at_lt hvj
            have HVJ := Lib.hid hvj
            have HEN := hen
            have hszw3 : w.heap.size ≤ w3.heap.size := by omega
            have hlen2 : (E2 ++ [vv]).length ≤ T.length := by
              obtain ⟨q, hq⟩ := List.mem_iff_getElem?.1 (fb_mem HT.out (pth T i ++ [x]))
              exact (bfs_kid HT.out hP3.bfs hE2.out hvj hlx q hq).len
            have hge2 := HQ3.ge
            have hfv : Hid (vv ∉ E2) := hP3.bfs.fresh i hE2.out (by omega) vv x hvj hlx
            simp only [List.length_append, List.length_singleton] at hlen2
            have hvl1 : (vv : Int) < T.length := by omega
            replace hs3 := Lib.hid hs3
            clear hP3 hvj hfx
            by_cases h0 : i = 0
            · subst h0
              have HQ4 : Que .i64 w.heap.size (w3.alloc (.cells #[.int .i64 (vv : Int)] 3)) _ g2 _ := HQ3.below ((Below.refl _ _).alloc (Nat.le_refl _) _)
              have hl4 : (((E2.drop (k + 1)).map fun n : Nat => (n : Int)).length + 1) * 8 ≤ 140737488355328 := by omega
              have hb4 : w.heap.size ≤ (w3.alloc (.cells #[.int .i64 (vv : Int)] 3)).heap.size := by simp; omega
              have hy4 : (w3.alloc (.cells #[.int .i64 (vv : Int)] 3)).cell? ⟨w3.heap.size, 0, none⟩ = some (.int .i64 vv) := by simp
              go_wp2_with (at_builtin; refine wpList_que (k := .i64) (base := w.heap.size) (g := g2) rfl _ _ 61 3 rfl Tryd.underlying61 info_intM (by decide) w3.heap.size 0 1 (vv : Int) rfl rfl HQ4 hy4 hl4 hb4 ?_; intro v5 g5 w5 HQ5 hg5 hgg5; go_frame)
              have h0e : pth T 0 = [] := pth_at HT.out.root
              have hb4 := bfs_kid HT.out hB3.out hE2.out HVJ.out hlx 0 (by rw [h0e]; exact HT.out.root)
              rw [show (fun y => if y = vv then 0 else bk2 y) = bk2 from funext fun y => by split; (rename_i e; rw [e]; exact (hB3.out.zero vv hfv.out).symm); rfl] at hb4
              have hR5 := hr3.more hg5 (by omega) (by omega)
              have hL5 := LinkP.more HQ5 (by omega) hb4 hM3 hL3.out hMl (fun g hg => by rw [hv] at hg; simp only [Value.ownBlock, Option.some.injEq] at hg; omega) (hb2.trans (hb3.mono hb0.size)) hb0.size hszw3 hge2 hg5
              have hs5 := hL5.size
              have hR5l := hR5.lt
              refine ⟨⟨g5, E2 ++ [vv], sts2, bk2, _, cnt3, hL5, hR5, ?_, ?_, hR5l⟩, by rw [hR5.left_eq, hr2.left_eq]; exact hlt3⟩
              · show _ = _
                rw [List.getElem?_append_left hlk]; exact hE2.out
              · rcases hgg5 with h | h
                · rw [h]; exact hgr2
                · have := hr3.lt
                  simp at h; omega
            · have h0' : ¬ (i : Int) = 0 := by omega
              have hne : pth T i ≠ [] := fun e => h0 (HT.out.zero.1 (by rw [← e]; exact at_pth hil))
              have hlb := Lib.hid (fb_len (T := T) hne)
              have hLk : Links T bk2 (pth T i).length := fun j hj hle => hB3.out.back j (Bfs.all HT.out hB3.out hE2.out _ j hj rfl hle)
              have hbki : T[bk2 i]? = some (fb T (pth T i)) := hLk i hil (Nat.le_refl _)
              have hLK := Lib.hid hLk
              have hBI := Lib.hid hbki
              have hNE := Lib.hid hne
              have hj2 : vv < sts2.length := by rw [hM3.at'.len]; exact hvl
              clear hLk hbki hne
              go_wp2_with fail
              refine region_mixS [] 18 [(0, true), (1, true), (2, true), (3, true), (4, true), (5, true), (6, true), (7, true), (8, true), (9, true), (10, true), (11, true), (12, true), (13, true), (14, true), (15, false), (16, true), (17, true)] (by kernel_rfl) (by kernel_rfl) ?_
              intro W hW
              have hMW := hM3.below hW
              obtain ⟨mcW, _, mlW⟩ := hMW.cell
              rw [hv] at mcW
              obtain ⟨ga, _, _, _, _, _, hva, _, _, hgaW, _, b1, _, _, _, _, _⟩ := hMW.read i hil
              have hga : gS = ga := by rw [hv] at hva; injection hva with e _ _; injection e with e; injection e with e _
              subst hga
              clear hva
              have hWs := hW.size
              repeat (refine sS_q rfl (fun K hK => ?_); unfold takeS; go_simp; refine hK _ ?_; clear hK K)
              refine sS_t rfl (fun K hK => ?_); go_simp; go_at_call 76; refine (step_c w0.heap.size M v T N sts2 bk2 rs W hMW HT.out (pth T i).length hLK.out (by omega) (bk2 i) (fb T (pth T i)) hBI.out (Nat.le_of_lt hlb.out) x hwf).mono ?_; rintro e w4 ⟨q, rfl, hq, hb4⟩; have HQQ := Lib.hid hq; clear hq; go_simp; refine hK _ _ (.of (Kb.below hb4)) ?_; clear hK K
              repeat (refine sS_q rfl (fun K hK => ?_); unfold takeS; go_simp; refine hK _ ?_; clear hK K)
              clear mcW b1
              have hM4 := hMW.below hb4
              obtain ⟨gb, _, _, _, _, _, hvb, _, _, hgbW, _, b1, _, _, _, _, _⟩ := hM4.read vv hvl
              have hga : gS = gb := by rw [hv] at hvb; injection hvb with e _ _; injection e with e; injection e with e _
              subst hga
              have f4 : w4.frozen? ⟨gS, vv * 4 + 1, none⟩ = false := by
                obtain ⟨g6, cap6, e6, _, _, _, _, cur6, h6⟩ := hM4.own.form (by rw [hM4.at'.len]; exact hpos)
                have : gS = g6 := by rw [hv] at e6; injection e6 with e _ _; injection e with e; injection e with e _
                subst this
                unfold World.frozen?; simp only [h6]; rfl
              obtain ⟨hM6, hg6⟩ := Mch.back hM4 vv hj2 q gS (by rw [hv]; rfl)
              have h4s := hb4.size
              have HQ6 : Que .i64 w.heap.size (w4.setCell ⟨gS, vv * 4 + 1, none⟩ (.int .i64 q)) _ g2 _ := ((HQ3.below hW).below hb4).kept hg6 (fun e => by injection e with e; omega)
              have HQ4 : Que .i64 w.heap.size ((w4.setCell ⟨gS, vv * 4 + 1, none⟩ (.int .i64 q)).alloc (.cells #[.int .i64 (vv : Int)] 3)) _ g2 _ := HQ6.below ((Below.refl _ _).alloc (Nat.le_refl _) _)
              have hl4 : (((E2.drop (k + 1)).map fun n : Nat => (n : Int)).length + 1) * 8 ≤ 140737488355328 := by omega
              have hb4' : w.heap.size ≤ ((w4.setCell ⟨gS, vv * 4 + 1, none⟩ (.int .i64 q)).alloc (.cells #[.int .i64 (vv : Int)] 3)).heap.size := by simp; omega
              have hy4 : ((w4.setCell ⟨gS, vv * 4 + 1, none⟩ (.int .i64 q)).alloc (.cells #[.int .i64 (vv : Int)] 3)).cell? ⟨w4.heap.size, 0, none⟩ = some (.int .i64 vv) := alloc_cell _ _ _ _ (by simp)
              refine sS_nil ?_
              go_wp2
              rw [noP_normal]
              go_wp2_with (at_builtin; refine wpList_que (k := .i64) (base := w.heap.size) (g := g2) rfl _ _ 61 3 rfl Tryd.underlying61 info_intM (by decide) w4.heap.size 0 1 (vv : Int) rfl rfl HQ4 hy4 hl4 hb4' ?_; intro v5 g5 w5 HQ5 hg5 hgg5; go_frame)
              have hb5 := bfs_kid HT.out hB3.out hE2.out HVJ.out hlx q (by rw [fb_snoc HT.out hNE.out]; exact HQQ.out)
              have hR4 := (((hr3.kept (row := none) ⟨hW.os, hW.tape, hW.output, hW.size, fun k hk _ => hW.block k hk⟩ (by simp) (by simp)).kept (row := none) ⟨hb4.os, hb4.tape, hb4.output, hb4.size, fun k hk _ => hb4.block k hk⟩ (by simp) (by simp))).kept hg6 (by simpa using fun e => hmg.out e.symm) (by simp; omega)
              have hR5 := hR4.more hg5 (by omega) (by omega)
              have hB6 : Below w0.heap.size w (w4.setCell ⟨gS, vv * 4 + 1, none⟩ (.int .i64 q)) := Below.setCell (((hb2.trans (hb3.mono hb0.size)).trans (hW.mono (by have := hb0.size; omega))).trans (hb4.mono (by have := hb0.size; omega))) hgb _
              have hL5 := LinkP.more HQ5 (by omega) hb5 hM6 (hL3.out.set vv q hj2) hMl (fun g hg => by rw [hv] at hg; simp only [Value.ownBlock, Option.some.injEq] at hg; omega) hB6 hb0.size (by simp; omega) hge2 hg5
              have hs5 := hL5.size
              have hR5l := hR5.lt
              refine ⟨⟨g5, E2 ++ [vv], _, _, _, cnt3, hL5, hR5, ?_, ?_, hR5l⟩, by rw [hR5.left_eq, hr2.left_eq]; exact hlt3⟩
              · show _ = _
                rw [List.getElem?_append_left hlk]; exact hE2.out
              · rcases hgg5 with h | h
                · rw [h]; exact hgr2
                · have := hr3.lt
                  simp at h; omega
    · have hz : (List.map (fun n : Nat => (n : Int)) (E.drop k)).length = 0 := by simp; omega
      rw [hz] at hsq
      have HP := Lib.hid hP
      clear hP hcs hcw hc1 hc2 hnk
      subst hsq
      go_wp2
      refine bodyPost_end (results_none rfl _ _ _) rfl ?_
      have hke : k = E.length := by omega
      have hb := HP.out.bfs
      rw [hke] at hb
      exact ⟨rfl, sts1, bk, HP.out.mch, hb.backs HT.out, HP.out.bel, HP.out.size⟩
end Go.Proofs.YtmpoihejacklnaaDoor
/- match.New: the machine of rules. No condition. -/
namespace Go.Proofs.YtmpoihejacklnaaDoor
open Go Go.RowKit
theorem Mch.init (w : World) (base : Nat) (hb : base ≤ w.heap.size) :
    MchP base (((w.alloc (.map #[] 0)).alloc (.cells #[.map (some w.heap.size), .int .i64 0, .int .i64 0, .slice none 0 0] 141)).alloc (.cells #[.slice (some ⟨w.heap.size + 1, 0, none⟩) 1 1] 144)) (w.heap.size + 2) (.slice (some ⟨w.heap.size + 1, 0, none⟩) 1 1) [[]] 0 [newS w.heap.size 0] (fun _ => 0) (fun _ => []) := by
  have hO : Own eS4 base 141 ((w.alloc (.map #[] 0)).alloc (.cells #[.map (some w.heap.size), .int .i64 0, .int .i64 0, .slice none 0 0] 141)) (.slice (some ⟨w.heap.size + 1, 0, none⟩) 1 1) [newS w.heap.size 0] := by
    have := World.ownsRow_lit (base := base) (e := 141) (size := 4) (w.alloc (.map #[] 0)) #[.map (some w.heap.size), .int .i64 0, .int .i64 0, .slice none 0 0] 1 (by simp; omega) (by decide) rfl
    rw [show (w.alloc (.map #[] 0)).heap.size = w.heap.size + 1 by simp] at this
    exact this
  refine ⟨?_, by omega, hO.alloc _, ⟨rfl, fun i hi => ?_, fun i hi => ?_, fun i hi => ?_, fun i hi => ?_, fun i hi => ?_, fun i j hi hj hij => ?_, fun i j hi hj hij => ?_⟩⟩
  · show (World.alloc _ _).heap[_]? = _
    have := heap_alloc_new ((w.alloc (.map #[] 0)).alloc (.cells #[.map (some w.heap.size), .int .i64 0, .int .i64 0, .slice none 0 0] 141)) (.cells #[.slice (some ⟨w.heap.size + 1, 0, none⟩) 1 1] 144)
    simpa using this
  · have hi : i < 1 := hi
    obtain rfl : i = 0 := by omega
    refine ((OnM.made Tryd.prog 21 3 w).kb (((Kb.below ((Below.refl _ _).alloc (Nat.le_refl _) _)).trans (Kb.below ((Below.refl _ _).alloc (Nat.le_refl _) _)))) (by simp)).congr fun r => ?_
    symm
    rw [idxP_none]; simp [pth]
  all_goals first
    | (have hi : i < 1 := hi; obtain rfl : i = 0 := (by omega); first | rfl | exact Own.nil _ | exact hb)
    | (have hi : i < 1 := hi; have hj : j < 1 := hj; omega)
/-- The Froms. -/
def froms (xs : List T3) : List (List Int) := xs.map fun b => (decS b.f).getD []
theorem bchk_from {b : T3} (h : rchk b = 0) : decS b.f = some ((decS b.f).getD []) ∧ ((decS b.f).getD []).length ≤ 3 := by
  have h1 : bchk ⟨b.f, b.t, 1⟩ = 0 := by
    unfold rchk at h
    by_cases h1 : bchk ⟨b.f, b.t, 1⟩ = 0
    · exact h1
    · rw [if_pos h1] at h; exact absurd h h1
  unfold bchk at h1
  by_cases h2 : okS b.f ≠ 0 ∨ okS b.t ≠ 0
  · rw [if_pos h2] at h1; exact absurd h1 (by decide)
  · rw [if_neg h2] at h1
    by_cases h3 : 3 < lenS b.f ∨ 3 < lenS b.t
    · rw [if_pos h3] at h1; exact absurd h1 (by decide)
    · simp only [not_or, Classical.not_not] at h2
      have h4 := h2.1
      unfold okS at h4
      unfold lenS at h3
      refine ⟨?_, by omega⟩
      cases hd : decS b.f with
      | none => rw [hd] at h4; simp at h4
      | some l => rfl
theorem isE_ok {xs : List T3} (h : isE xs = 0) : xs.length ≤ 4096 ∧ ∀ b ∈ xs, rchk b = 0 := by
  unfold isE at h
  by_cases h1 : errR xs ≠ []
  · rw [if_pos h1] at h
    obtain ⟨e, l, he⟩ := List.exists_cons_of_ne_nil h1
    have : e ∈ errR xs := by rw [he]; simp
    unfold errR at this
    rw [List.mem_filter] at this
    rw [he] at h
    exact absurd h (by simpa using this.2)
  · rw [if_neg h1] at h
    by_cases h2 : riseT xs = false
    · rw [if_pos h2] at h; exact absurd h (by decide)
    · rw [if_neg h2] at h
      by_cases h3 : 4096 < xs.length
      · rw [if_pos h3] at h; exact absurd h (by decide)
      · refine ⟨by omega, fun b hb => ?_⟩
        simp only [Classical.not_not] at h1
        apply Classical.byContradiction
        intro hn
        have : rchk b ∈ errR xs := by
          unfold errR
          exact List.mem_filter.2 ⟨List.mem_map_of_mem hb, by simpa using hn⟩
        rw [h1] at this; cases this
theorem froms_at {xs : List T3} (h : isE xs = 0) (k : Nat) (hk : k < xs.length) : ∃ l, decS xs[k].f = some l ∧ l.length ≤ 3 ∧ (froms xs).take (k + 1) = (froms xs).take k ++ [l] := by
  obtain ⟨h1, h2⟩ := bchk_from ((isE_ok h).2 _ (List.getElem_mem hk))
  refine ⟨_, h1, h2, ?_⟩
  have hk' : k < (froms xs).length := by unfold froms; simpa using hk
  rw [List.take_succ_eq_append_getElem hk']
  simp [froms]
/-- Which rules' From a beginning is, among some of them. -/
def rulesOf (fs : List (List Int)) (q : List Int) : List Int := (rulesAt fs q).map fun n : Nat => (n : Int)
theorem rulesOf_snoc (fs : List (List Int)) (l q : List Int) : rulesOf (fs ++ [l]) q = if q = l then rulesOf fs l ++ [(fs.length : Int)] else rulesOf fs q := by
  unfold rulesOf
  rw [rulesAt_snoc, List.map_append]
  by_cases h : l = q
  · subst h; rw [if_pos rfl, if_pos rfl]; rfl
  · rw [if_neg h, if_neg (fun e => h e.symm)]; simp
theorem rulesOf_len (fs : List (List Int)) (q : List Int) : (rulesOf fs q).length ≤ fs.length := by
  unfold rulesOf rulesAt
  rw [List.length_map]
  exact Nat.le_trans (List.length_filter_le _ _) (by simp)
/-- What New answers. -/
def NewPost (w : World) (xs : List T3) (e : Ending) (w' : World) : Prop :=
  Below w.heap.size w w' ∧ (isE xs = 0 → ∃ M v N sts bk, e = .returned (.tuple #[.pointer (some ⟨M, 0, none⟩), .int .i64 0]) ∧ MchP w.heap.size w' M v (statesT (froms xs)) N sts bk (fun j => rulesOf (froms xs) (pth (statesT (froms xs)) j)) ∧ Backs (statesT (froms xs)) bk) ∧
    (isE xs ≠ 0 → e = .returned (.tuple #[.pointer none, .int .i64 (isE xs)]))
set_option maxRecDepth 100000 in
set_option maxHeartbeats 2000000 in
theorem new_c (A : Option Addr) (c : Nat) (xs : List T3) (w : World) (hU : U w) (hs : SlA eT3 w A xs) (hm : Small xs) :
    Calls Tryd.prog 51 #[.slice A xs.length c] w (NewPost w xs) := by
  have hl := hm.1
  have hmm := @run_makeMap Tryd.prog
  by_cases h0 : isE xs = 0
  · have H0 := Lib.hid h0
    go_enter Tryd.func51, Tryd.ntmps51
    go_wp2_with fail
    refine (is_c A c xs _ hU hs hm).mono ?_
    rintro e w1 ⟨rfl, hb1⟩
    rw [h0]
    clear h0
    go_wp2
    go_loopw [22] (fun si wr => ∃ (k N : Nat) (v : Value) (sts : List S4), k ≤ xs.length ∧ si = .int .i64 k ∧ N ≤ 3 * k ∧ Hid ((statesT ((froms xs).take k)).length ≤ 3 * k + 1) ∧ MchP w.heap.size wr (w1.heap.size + 2) v (statesT ((froms xs).take k)) N sts (fun _ => 0) (fun j => rulesOf ((froms xs).take k) (pth (statesT ((froms xs).take k)) j)) ∧ Below w.heap.size w wr) (fun si _ => xs.length - (intOf si).toNat)
    case atStart =>
      refine ⟨0, 0, _, _, by omega, rfl, by omega, by show _ ≤ _; simp [statesT], Mch.init w1 w.heap.size hb1.size, Bel⟩
    case round =>
      obtain ⟨k, N, v, sts, hk, rfl, hN, hTL, hM, hb⟩ := hrel
      have hxl := (isE_ok H0.out).1
      have hTr := Lib.hid (states_trie ((froms xs).take k))
      by_cases hlt : k < xs.length
      · obtain ⟨b, o, rfl, hbl, p1, p2, p3⟩ := hs.n3 (fun _ => rfl) hb k hlt
        obtain ⟨l, hd, hl3, hfr⟩ := froms_at H0.out k hlt
        have hsz := (hm.at k hlt).1
        have HFR := Lib.hid hfr
        have HD := Lib.hid hd
        have hkl : ((froms xs).take k).length = k := by simp [froms]; omega
        have HKL := Lib.hid hkl
        have hrp : ∀ q, q ∉ statesT ((froms xs).take k) → rulesOf ((froms xs).take k) q = [] := fun q hq => by
          unfold rulesOf
          rw [rulesAt_none fun h => hq (states_self h)]; rfl
        have HRP := Lib.hid hrp
        have hTL2 := hTL.out
        have HTL : Hid ((statesT ((froms xs).take k)).length + N ≤ 1073741824) := by show _ ≤ _; omega
        clear hfr hd hkl hrp hTL2
        go_wp2_with (first
          | (go_at_call 22; refine (dec_own xs[k].f _ (hU.to (Bst hb Bel)) (by omega)).mono ?_; rintro e w2 ⟨hb2, h2⟩; rw [HD.out] at h2; obtain ⟨v2, rfl, hO2⟩ := h2)
          | (go_at_call 73; refine (put_c w (w1.heap.size + 2) v (statesT ((froms xs).take k)) N sts (rulesOf ((froms xs).take k)) _ (hM.below Bel) hTr.out HRP.out (Bst hb Bel) _ v2 l hO2 (decS_isR HD.out) (by omega) HTL.out k (fun j _ => Nat.le_trans (rulesOf_len _ _) (by rw [HKL.out]; omega))).mono ?_; rintro e w4 ⟨rfl, v4, sts4, hM4, hb4, hz4⟩))
        refine ⟨⟨k + 1, N + l.length, v4, sts4, by omega, by go_num, by omega, ?_, ?_, ?_⟩, by simp [intOf]; omega⟩
        · show _ ≤ _
          rw [HFR.out, statesT_snoc]
          have h1 := (putK_len (statesT ((froms xs).take k)) l l.length).2
          have h2 := hTL.out
          unfold putT; omega
        · rw [HFR.out, statesT_snoc]
          refine Mch.rsc hM4 fun j hj => ?_
          rw [rulesOf_snoc, HKL.out]
        · exact (Bst hb (Bel : Below wr.heap.size wr w2)).trans hb4
      · have hke : k = xs.length := by omega
        subst hke
        have hfr : (froms xs).take xs.length = froms xs := List.take_of_length_le (by simp [froms])
        rw [hfr] at hTL hM hTr
        have hTL2 := hTL.out
        have hTL3 : (statesT (froms xs)).length ≤ 1073741824 := by omega
        clear hTL2
        go_wp2_with (go_at_call 74; refine (link_c w (w1.heap.size + 2) v (statesT (froms xs)) N sts _ wr hM hTr.out hb hTL3).mono ?_; rintro e w3 ⟨rfl, sts3, bk, hM3, hB3, hb3, hz3⟩)
        go_ret2
        exact ⟨hb.trans hb3, fun _ => ⟨w1.heap.size + 2, v, N, sts3, bk, rfl, hM3, hB3⟩, fun h => absurd H0.out h⟩
  · obtain ⟨z, hz⟩ : ∃ z, isE xs = z := ⟨_, rfl⟩
    rw [hz] at h0
    have HZ := Lib.hid hz
    clear hz
    go_enter Tryd.func51, Tryd.ntmps51
    go_wp2_with fail
    refine (is_c A c xs _ hU hs hm).mono ?_
    rintro e w1 ⟨rfl, hb1⟩
    rw [HZ.out]
    go_wp2
    go_ret2
    exact ⟨hb1, fun h => absurd (HZ.out.symm.trans h) h0, fun _ => by rw [HZ.out]; rfl⟩
end Go.Proofs.YtmpoihejacklnaaDoor
/- match.token; States. No condition. -/
namespace Go.Proofs.YtmpoihejacklnaaDoor
open Go Go.RowKit
/-- A text's error, and its runes. -/
def tokE (s : ByteArray) : Int := match decS s with
  | none => 3
  | some l => if 64 < l.length then 5 else 0
theorem tokE_ok {s : ByteArray} (h : tokE s = 0) : ∃ l, decS s = some l ∧ l.length ≤ 64 := by
  unfold tokE at h
  cases hd : decS s with
  | none => rw [hd] at h; exact absurd h (by decide)
  | some l =>
    rw [hd] at h
    by_cases h1 : 64 < l.length
    · simp only [if_pos h1] at h; exact absurd h (by decide)
    · exact ⟨l, rfl, by omega⟩
def TokPost (w : World) (s : ByteArray) (e : Ending) (w' : World) : Prop :=
  Below w.heap.size w w' ∧ (tokE s = 0 → ∃ v l, decS s = some l ∧ e = .returned (.tuple #[v, .int .i64 0]) ∧ Own (eInt .i32) w.heap.size 21 w' v l) ∧
    (tokE s ≠ 0 → e = .returned (.tuple #[.slice none 0 0, .int .i64 (tokE s)]))
set_option maxRecDepth 100000 in
set_option maxHeartbeats 1000000 in
theorem token_c (s : ByteArray) (w : World) (hU : U w) (hz : s.size ≤ 17592186044416) : Calls Tryd.prog 75 #[.string s] w (TokPost w s) := by
  cases hd : decS s with
  | none =>
    have HE : Hid (tokE s = 3) := by show _ = _; unfold tokE; rw [hd]
    have HD := Lib.hid hd
    clear hd
    go_enter Tryd.func75, Tryd.ntmps75
    go_wp2_with (go_at_call 22; refine (dec_own s _ hU hz).mono ?_; rintro e w2 ⟨hb2, h2⟩; rw [HD.out] at h2; obtain rfl := h2)
    go_ret2
    exact ⟨hb2, fun h => absurd (HE.out.symm.trans h) (by decide), fun _ => by rw [HE.out]; rfl⟩
  | some l =>
    have HD := Lib.hid hd
    clear hd
    by_cases h1 : 64 < l.length
    · have HE : Hid (tokE s = 5) := by show _ = _; unfold tokE; simp only [HD.out]; rw [if_pos h1]
      have h1' : (64 : Int) < l.length := by omega
      go_enter Tryd.func75, Tryd.ntmps75
      go_wp2_with (go_at_call 22; refine (dec_own s _ hU hz).mono ?_; rintro e w2 ⟨hb2, h2⟩; rw [HD.out] at h2; obtain ⟨v2, rfl, hO2⟩ := h2; obtain ⟨A2, c2, rfl, _, _, _⟩ := hO2.slv)
      go_ret2
      exact ⟨hb2, fun h => absurd (HE.out.symm.trans h) (by decide), fun _ => by rw [HE.out]; rfl⟩
    · have HE : Hid (tokE s = 0) := by show _ = _; unfold tokE; simp only [HD.out]; rw [if_neg h1]
      have h1' : ¬ (64 : Int) < l.length := by omega
      go_enter Tryd.func75, Tryd.ntmps75
      go_wp2_with (go_at_call 22; refine (dec_own s _ hU hz).mono ?_; rintro e w2 ⟨hb2, h2⟩; rw [HD.out] at h2; obtain ⟨v2, rfl, hO2⟩ := h2; have HO2 := hO2; obtain ⟨A2, c2, rfl, _, _, _⟩ := hO2.slv)
      go_ret2
      exact ⟨hb2, fun _ => ⟨_, l, HD.out, rfl, HO2⟩, fun h => absurd HE.out h⟩
end Go.Proofs.YtmpoihejacklnaaDoor
/- errataref08.Hits. No condition. -/
namespace Go.Proofs.YtmpoihejacklnaaDoor
open Go Go.RowKit
/-- Hits, two numbers each. -/
def eH : Enc (Nat × Nat) := ⟨2, fun h => [.int .i64 h.1, .int .i64 h.2], fun _ => rfl, fun _ v hv => by simp at hv; rcases hv with rfl | rfl <;> rfl⟩
theorem r1dec_any (s : ByteArray) (w : World) (hs : s.size ≤ 17592186044416) :
    Calls Tryd.prog 55 #[.string s] w fun e w' => ∃ A c z, e = .returned (.tuple #[.slice A ((decS s).getD []).length c, .int .i64 z]) ∧ SlA (eInt .i32) w' A ((decS s).getD []) ∧ Below w.heap.size w w' :=
  (r1dec_c s w hs).mono fun e w' ⟨hb, h⟩ => by
    cases hd : decS s with
    | none => rw [hd] at h; exact ⟨none, 0, 3, h, SlA.nil, hb⟩
    | some l => rw [hd] at h; obtain ⟨v, he, A, c, rfl, _, _, hA⟩ := h; exact ⟨A, c, 0, he, hA, hb⟩
/-! ### the list, step by step -/
def rowTo (fs : List (List Int)) (l : List Int) (a k : Nat) : List (Nat × Nat) := ((List.range k).filter fun k => decide (Stands (fs[k]?.getD []) l a)).map fun k => (a, k)
def hitsTo (fs : List (List Int)) (l : List Int) (a : Nat) : List (Nat × Nat) := (List.range a).flatMap fun a => rowTo fs l a fs.length
theorem hitsTo_all (fs : List (List Int)) (l : List Int) : hitsTo fs l (l.length + 1) = hitsL fs l := rfl
theorem hitsTo_succ (fs : List (List Int)) (l : List Int) (a : Nat) : hitsTo fs l (a + 1) = hitsTo fs l a ++ rowTo fs l a fs.length := by
  unfold hitsTo; rw [List.range_succ, List.flatMap_append]; simp
theorem rowTo_succ (fs : List (List Int)) (l : List Int) (a k : Nat) : rowTo fs l a (k + 1) = rowTo fs l a k ++ if Stands (fs[k]?.getD []) l a then [(a, k)] else [] := by
  unfold rowTo
  rw [List.range_succ, List.filter_append, List.map_append]
  by_cases h : Stands (fs[k]?.getD []) l a <;> simp [h]
theorem rowTo_len (fs : List (List Int)) (l : List Int) (a k : Nat) : (rowTo fs l a k).length ≤ k := by
  unfold rowTo
  rw [List.length_map]
  exact Nat.le_trans (List.length_filter_le _ _) (by simp)
theorem hitsTo_len (fs : List (List Int)) (l : List Int) : ∀ a, (hitsTo fs l a).length ≤ a * fs.length
  | 0 => by simp [hitsTo]
  | a + 1 => by
    rw [hitsTo_succ, List.length_append, Nat.add_mul, Nat.one_mul]
    exact Nat.add_le_add (hitsTo_len fs l a) (rowTo_len fs l a _)
/-- What Hits answers: a row of its own, or the text's error. -/
def HitPost (t : TypeId) (w : World) (fs : List (List Int)) (s : ByteArray) (e : Ending) (w' : World) : Prop :=
  Below w.heap.size w w' ∧ (tokE s = 0 → ∃ v l, decS s = some l ∧ e = .returned (.tuple #[v, .int .i64 0]) ∧ Own eH w.heap.size t w' v (hitsL fs l)) ∧
    (tokE s ≠ 0 → e = .returned (.tuple #[.slice none 0 0, .int .i64 (tokE s)]))
end Go.Proofs.YtmpoihejacklnaaDoor
/- Hits in their order; the sort of Hits. No condition. -/
namespace Go.Proofs.YtmpoihejacklnaaDoor
open Go Go.RowKit
theorem cmpI_lt (x y : Int) : (cmpI x y < 0 ↔ x < y) ∧ (cmpI x y = 0 ↔ x = y) := by
  unfold cmpI
  by_cases h1 : x < y
  · rw [if_pos h1]; omega
  · rw [if_neg h1]
    by_cases h2 : x = y
    · rw [if_pos h2]; omega
    · rw [if_neg h2]; omega
theorem cmpH_lt (a b : Nat × Nat) : ltOf cmpH a b = true ↔ lt2 a b := by
  have h1 := cmpI_lt a.1 b.1
  have h2 := cmpI_lt a.2 b.2
  unfold ltOf cmpH orL orL orL lt2
  rw [decide_eq_true_iff]
  by_cases h3 : cmpI (a.1 : Int) b.1 = 0
  · rw [if_pos h3]
    by_cases h4 : cmpI (a.2 : Int) b.2 = 0
    · rw [if_pos h4]; omega
    · rw [if_neg h4]; omega
  · rw [if_neg h3]; omega
theorem cmpH_not (a b : Nat × Nat) : ltOf cmpH a b = false ↔ ¬ lt2 a b := by rw [← cmpH_lt]; simp
theorem swoH : Go.Sort.SWO (ltOf cmpH) where
  irrefl := fun a => (cmpH_not a a).2 (by unfold lt2; omega)
  trans := fun a b c h k => by rw [cmpH_lt] at *; unfold lt2 at *; omega
  ntrans := fun a b c h k => by rw [cmpH_not] at *; unfold lt2 at *; omega
theorem hsort_c (base : Nat) (v : Value) (hts : List (Nat × Nat)) (w : World) (hO : Own eH base 118 w v hts) (hl : hts.length ≤ 4294967296) :
    Calls Tryd.prog 78 #[v, .func (.func 79) #[] #[]] w fun e w' => e = .returned (.tuple #[]) ∧ ∃ ys, ys.Perm hts ∧ ys.Pairwise (fun x y => ¬ lt2 y x) ∧ Own eH base 118 w' v ys ∧ w.grownBy w' v.ownBlock := by
  refine (sort_own (E := eH) Tryd.sortHits Tryd.isAgg118 Tryd.sizeOf118 cmpH swoH 79 (enters_of Tryd.func79 (by kernel_rfl) rfl) (fun x y W => hcmp_g x y W) _ v hts hO (by omega)).mono ?_
  rintro e w' ⟨rfl, ys, h1, h2, h3, h4⟩
  exact ⟨rfl, ys, h1, h2.imp fun h => (cmpH_not _ _).1 h, h3, h4⟩
end Go.Proofs.YtmpoihejacklnaaDoor
/- (*Machine).Hits: of no machine; of a text that is none. No condition. -/
namespace Go.Proofs.YtmpoihejacklnaaDoor
open Go Go.RowKit Go.Shelf
attribute [local go_sem] Oper.semAt_some
set_option maxRecDepth 100000 in
set_option maxHeartbeats 1000000 in
theorem mhits_nil (s : ByteArray) (w : World) : Calls Tryd.prog 52 #[.pointer none, .string s] w (Ret w (.tuple #[.slice none 0 0, .int .i64 1])) := by
  refine (callsIn_wide (n := 5)).1 ?_
  refine callsIn_of_wp_marks Tryd.func52 rfl trivial ?_ rfl
  simp only [Tryd.ntmps52, List.size_toArray, List.length_cons, List.length_nil, Nat.reduceAdd, Nat.reduceSub, Array.replicate_succ, Array.replicate_zero, List.push_toArray, List.append_toArray, List.nil_append, List.cons_append]
  gi_wp2
  show LeavesInM _ _ _ _ _ _ [] _ _
  refine ⟨_, results_tmp2 rfl _ _ _, ?_⟩
  exact ⟨rfl, Below.refl _ _⟩
set_option maxRecDepth 100000 in
set_option maxHeartbeats 1000000 in
theorem mhits_err (s : ByteArray) (M : Nat) (w : World) (hU : U w) (hz : s.size ≤ 17592186044416) (h0 : tokE s ≠ 0) : Calls Tryd.prog 52 #[.pointer (some ⟨M, 0, none⟩), .string s] w (Ret w (.tuple #[.slice none 0 0, .int .i64 (tokE s)])) := by
  obtain ⟨z, hzz⟩ : ∃ z, tokE s = z := ⟨_, rfl⟩
  have HZ := Lib.hid hzz
  rw [hzz] at h0 ⊢
  clear hzz
  refine (callsIn_wide (n := 5)).1 ?_
  refine callsIn_of_wp_marks Tryd.func52 rfl trivial ?_ rfl
  simp only [Tryd.ntmps52, List.size_toArray, List.length_cons, List.length_nil, Nat.reduceAdd, Nat.reduceSub, Array.replicate_succ, Array.replicate_zero, List.push_toArray, List.append_toArray, List.nil_append, List.cons_append]
  gi_wp2_with (refine ⟨trivial, ?_⟩; gi_at_call 75; refine (callsIn_wide.2 (token_c s _ hU hz)).mono ?_; rintro e w2 ⟨hb2, _, hh⟩; obtain rfl := hh (by rw [HZ.out]; exact h0); rw [HZ.out])
  show LeavesInM _ _ _ _ _ _ [] _ _
  refine ⟨_, results_tmp2 rfl _ _ _, ?_⟩
  exact ⟨rfl, hb2⟩
end Go.Proofs.YtmpoihejacklnaaDoor
/- Leaving a function with many marks of ranges over functions. No condition. -/
namespace Go.Proofs.YtmpoihejacklnaaDoor
open Go Go.RowKit
/-- A function leaves: its marks are taken, one by one; no cell turns. -/
theorem leaves_marks {F : Fence} {n : Nat} {P : Program} {fn : Func} {tmps : Array Value} {R : Ending → World → Prop} (n0 : Nat) : ∀ (Ds : List Nat) (W : World), Ds.Nodup → (∀ D ∈ Ds, n0 ≤ D ∧ W.heap[D]? = some (.deferred (some []))) →
    (∀ W', Below n0 W W' → (∀ (k : Nat) (o : Obj), W.heap[k]? = some o → o.isCells = true → W'.heap[k]? = some o) → ∃ v, (results fn tmps).run P W' = .ok v W' ∧ R (.returned v) W') →
    LeavesInM F n P fn tmps R (Ds.map fun D => { target := .collected D, args := #[] }) .returning W
  | [], W, _, _, h => by
    obtain ⟨v, h1, h2⟩ := h W (Below.refl _ _) (fun _ _ h _ => h)
    exact ⟨v, h1, h2⟩
  | D :: Ds, W, hn, hd, h => by
    obtain ⟨hD, hk⟩ := hd D (by simp)
    have hlt : D < W.heap.size := (Array.getElem?_eq_some_iff.1 hk).1
    have hne : ∀ k, k ≠ D → (W.putObj D (.deferred none)).heap[k]? = W.heap[k]? := fun k hk => World.putObj_heap_other hk
    refine ⟨by simp, .inl ⟨D, _, rfl, run_takeDeferred hk, leaves_marks n0 Ds _ (List.nodup_cons.1 hn).2 (fun D' hD' => ?_) fun W' hb hc => h W' ?_ fun k o ho hoc => ?_⟩⟩
    · obtain ⟨h1, h2⟩ := hd D' (List.mem_cons_of_mem _ hD')
      exact ⟨h1, (hne D' (fun e => (List.nodup_cons.1 hn).1 (e ▸ hD'))).trans h2⟩
    · exact (Below.trans (b := W.putObj D (.deferred none)) ⟨rfl, rfl, rfl, by simp, fun k hk => hne k (by omega)⟩ hb)
    · have hkd : k ≠ D := fun e => by
        rw [e, hk] at ho
        injection ho with ho
        rw [← ho] at hoc; cases hoc
      exact hc k o ((hne k hkd).trans ho) hoc
end Go.Proofs.YtmpoihejacklnaaDoor
