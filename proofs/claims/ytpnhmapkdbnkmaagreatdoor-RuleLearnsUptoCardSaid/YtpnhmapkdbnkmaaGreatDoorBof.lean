/- block.Of, Pair: the blocks of two tokens. No condition. -/
import Derived.Test.YtpnhmapkdbnkmaaGreatDoorRws
namespace Go.Proofs.YtpnhmapkdbnkmaaGreatDoor
open Go Go.RowKit Go.Shelf
attribute [local go_sem] Oper.semAt_some
theorem lenS_dec {s : ByteArray} {l : List Int} (h : decS s = some l) : okS s = 0 ∧ lenS s = l.length := by
  unfold okS lenS
  rw [h]
  exact ⟨rfl, rfl⟩
set_option maxRecDepth 100000 in
set_option maxHeartbeats 1000000 in
theorem made_c (A : Option Addr) (c : Nat) (r : List St) (w : World) (hs : SlA eSt w A r) (hr : ∀ s ∈ r, MayS s) (hl : r.length ≤ 128) (sa sb : ByteArray) (hsa : txt (leftR r) = sa) (hsb : txt (rightR r) = sb) (L : Bool) (hL : L = decide (3 < max (leftR r).length (rightR r).length)) :
    Calls Tryz.prog 161 #[.slice A r.length c] w (Ret w (.tuple #[.agg #[.string sa, .string sb, .int .i64 1], .bool L])) := by
  have da : decS sa = some (leftR r) := by rw [← hsa]; exact txt_dec (left_isR hr)
  have db : decS sb = some (rightR r) := by rw [← hsb]; exact txt_dec (right_isR hr)
  have za : sa.size ≤ 17592186044416 := by have h1 := txt_size (leftR r); have h2 := leftR_len r; rw [hsa] at h1; omega
  have zb : sb.size ≤ 17592186044416 := by have h1 := txt_size (rightR r); have h2 := rightR_len r; rw [hsb] at h1; omega
  have hread := fun W hW => sread_c A c r W (hs.below hW) hr (by omega)
  rw [hsa, hsb] at hread
  obtain ⟨oa, la⟩ := lenS_dec da
  obtain ⟨ob, lb⟩ := lenS_dec db
  have hla := leftR_len r
  have hlb := rightR_len r
  obtain ⟨na, hna⟩ : ∃ n, (leftR r).length = n := ⟨_, rfl⟩
  obtain ⟨nb, hnb⟩ : ∃ n, (rightR r).length = n := ⟨_, rfl⟩
  rw [hna] at la hla hL
  rw [hnb] at lb hlb hL
  have OA := Lib.hid oa
  have OB := Lib.hid ob
  have LA := Lib.hid la
  have LB := Lib.hid lb
  have HL := Lib.hid hL
  clear da db hsa hsb oa ob la lb hL hna hnb
  go_enter Tryz.func161, Tryz.ntmps161
  go_wp2_with fail
  refine (hread _ Bel).mono ?_
  rintro e w2 ⟨rfl, hb2⟩
  go_wp2_with fail
  refine (cnt_c sa _ (by omega) OA.out).mono ?_
  rintro e w3 ⟨rfl, hb3⟩
  rw [LA.out]
  go_wp2_with fail
  refine (cnt_c sb _ (by omega) OB.out).mono ?_
  rintro e w4 ⟨rfl, hb4⟩
  rw [LB.out]
  have k4 : Below (w.alloc (.cells #[.string .empty, .string .empty, .int .i64 0] 71)).heap.size (w.alloc (.cells #[.string .empty, .string .empty, .int .i64 0] 71)) w4 := Bst hb2 (Bst hb3 hb4)
  have c0 := bkc k4 (by simp [go_sem] : (w.alloc (.cells #[.string .empty, .string .empty, .int .i64 0] 71)).cell? ⟨w.heap.size, 0, none⟩ = some (.string .empty))
  have c1 := bkc k4 (by simp [go_sem] : (w.alloc (.cells #[.string .empty, .string .empty, .int .i64 0] 71)).cell? ⟨w.heap.size, 1, none⟩ = some (.string .empty))
  have c2 := bkc k4 (by simp [go_sem] : (w.alloc (.cells #[.string .empty, .string .empty, .int .i64 0] 71)).cell? ⟨w.heap.size, 2, none⟩ = some (.int .i64 0))
  have fz : ∀ i, w4.frozen? ⟨w.heap.size, i, none⟩ = false := fun i => by rw [k4.frozen (p := ⟨w.heap.size, i, none⟩) (by simp)]; simp [go_sem]
  go_wp2
  refine bodyPost_ret (v := .tuple #[.agg #[.string sa, .string sb, .int .i64 1], .bool L]) (by simp [results, Tryz.f161, go_sem, c0, c1, c2]; rw [HL.out]; simp; constructor <;> (intro h; omega)) rfl ?_
  refine ⟨rfl, Bsc (Bsc (Bsc (Bst (Bal (Below.refl _ _) _) k4) (Nat.le_refl _) _) (Nat.le_refl _) _) (Nat.le_refl _) _⟩
theorem rows_stops (n : Nat) (hn : 1 ≤ n) (Bn : Nat) (A : Option Addr) (c : Nat) (l : List St) (w0 w : World) (hs : SlA eSt w0 A l) (hl : l.length ≤ 128) (hlc : l.length ≤ c) (hBx : Boxed w Bn 185 (.slice A l.length c)) (hb0 : Below w0.heap.size w0 w) :
    SeqBox Fence.wide n Tryz.prog 208 #[.pointer (some ⟨Bn, 0, none⟩)] (fun x : Nat × Nat => #[vSeg A c x]) Bn (Kp1 w0.heap.size Bn) (fun ys => ys.map (segOf l) = rowsL l) (fun _ => True) (fun pre x => pre.length < l.length ∧ x.1 < x.2 ∧ x.2 ≤ l.length) w := fun lp J Jx W hW _ _ _ hY h0 =>
  rows1_in n hn lp Bn A c l w0 hs hl hlc J Jx W hY (hb0.trans (hW.mono hb0.size)) ((hW.block Bn hBx.lt).trans hBx) h0
set_option maxRecDepth 100000 in
theorem rows_c (A : Option Addr) (k c : Nat) (w : World) : Calls Tryz.prog 160 #[.slice A k c] w fun e w' => e = .returned (.func (.func 208) #[] #[.pointer (some ⟨w.heap.size, 0, none⟩)]) ∧ w' = w.alloc (.cells #[.slice A k c] 185) := by
  go_enter Tryz.func160, Tryz.ntmps160
  go_wp2
  go_ret
  exact ⟨rfl, rfl⟩
theorem own1_row3 {b n₀ : Nat} {X C : World} {e : TypeId} {v : Value} {k : Nat} {xs : List Value} (h : Own1 b X C) (hr : X.ownsRow n₀ e 3 v k xs) (hte : 185 ≠ e) (hb : ∃ u, Boxed X b 185 u) : C.ownsRow n₀ e 3 v k xs := by
  obtain ⟨u, hu⟩ := hb
  refine hr.kept h.1 ?_
  rcases hr.2 with ⟨rfl, _⟩ | ⟨g, cap, cur, rfl, _, hg, _⟩
  · exact .inl rfl
  · refine .inr fun e' => ?_
    simp only [Value.ownBlock, Option.some.injEq] at e'
    subst e'
    rw [show X.heap[g]? = _ from hu] at hg
    injection hg with hg
    injection hg with _ hg
    exact hte hg
def OutB (W : World) (n₀ B : Nat) (l : List T3) : Prop := ∃ v, Boxed W B 72 v ∧ W.ownsRow n₀ 71 3 v l.length (l.flatMap eT3.e) ∧ True
theorem kp_below {W W' : World} (h : Below W.heap.size W W') : KeepsOthers W W' := ⟨h.size, fun k _ hk _ => (h.block k (Array.getElem?_eq_some_iff.1 hk).1).trans hk⟩
theorem info_blk_parts : ∃ i, Tryz.prog.info? 71 = some i ∧ i.zero = some (.agg #[.string .empty, .string .empty, .int .i64 0]) ∧ i.size = 3 ∧ i.bytes = 40 := by
  obtain ⟨i, h1, h2⟩ := Option.map_eq_some_iff.1 info_blk
  simp only [Prod.mk.injEq] at h2
  exact ⟨i, h1, h2.1, h2.2.1, h2.2.2⟩
set_option maxRecDepth 100000 in
set_option maxHeartbeats 3000000 in
theorem bof_c (A : Option Addr) (c : Nat) (l : List St) (w : World) (hs : SlA eSt w A l) (hr : ∀ s ∈ l, MayS s) (hl : l.length ≤ 128) (hlc : l.length ≤ c) :
    Calls Tryz.prog 101 #[.slice A l.length c] w (OfPost w l) := by
  refine (callsIn_wide (n := 5)).1 ?_
  obtain ⟨i0, hi, hz0, hz1, hz2⟩ := info_blk_parts
  have HR := Lib.hid hr
  clear hr
  refine callsIn_of_wp_marks Tryz.func101 rfl trivial ?_ rfl
  simp only [Tryz.ntmps101, List.size_toArray, List.length_cons, List.length_nil, Nat.reduceAdd, Nat.reduceSub, Array.replicate_succ, Array.replicate_zero, List.push_toArray, List.append_toArray, List.nil_append, List.cons_append]
  gi_wp2_with (refine ⟨trivial, ?_⟩; gi_at_call 159; refine (callsIn_wide.2 (schk_c A c l _ (hs.below Bel) HR.out (by omega))).mono ?_; rintro e w2 ⟨rfl, hb2⟩)
  gi_wp2_with (refine ⟨trivial, ?_⟩; gi_at_call 160; refine (callsIn_wide.2 (rows_c A l.length c _)).mono ?_; rintro e w3 ⟨rfl, rfl⟩)
  have bR0 := Boxed.new w 72 (.slice none 0 0)
  have hb3 : Below w2.heap.size w2 (w2.alloc (.cells #[.slice A l.length c] 185)) := Bel
  have hbX := Bst hb2 hb3
  have bR : Boxed (w2.alloc (.cells #[.slice A l.length c] 185)) w.heap.size 72 (.slice none 0 0) := (hbX.block w.heap.size (by simp)).trans bR0
  have bN : Boxed (w2.alloc (.cells #[.slice A l.length c] 185)) w2.heap.size 185 (.slice A l.length c) := Boxed.new w2 _ _
  have hB0 : Below w.heap.size w (w2.alloc (.cells #[.slice A l.length c] 185)) := Bst (Bal (Below.refl _ _) _) hbX
  have hne : w.heap.size ≠ w2.heap.size := by have := hb2.size; simp at this; omega
  have hlt2 : w.heap.size < w2.heap.size := by have := hb2.size; simp at this; omega
  have hs3 : w2.heap.size < (w2.alloc (.cells #[.slice A l.length c] 185)).heap.size := by simp
  generalize (w2.alloc (.cells #[.slice A l.length c] 185)) = w3 at *
  refine rangeFunc_box rfl (by omega) (gf := 208) (lb := #[.pointer (some ⟨w2.heap.size, 0, none⟩)]) rfl trivial (enters_of Tryz.func208 (by kernel_rfl) rfl)
    (b := w2.heap.size) (rows_stops (5 - 1) (by omega) w2.heap.size A c l w w3 hs hl hlc bN hB0) ⟨_, _, bN⟩ Kp1.trans (fun W lq o o' h1 h2 h3 h4 => ⟨belowK_b hB0.size W lq o o' h1 h2 h3 h4, by simp, fun _ => World.putObj_heap_other (by omega)⟩) (fun _ => rfl)
    (fun pre W => (OutB W w.heap.size w.heap.size (blksR (pre.map (segOf l)))) ∧ (∃ u, Boxed W w2.heap.size 185 u) ∧ Below w.heap.size w W)
    (fun _ _ _ => False)
    ?hI (fun _ _ _ _ _ hs _ _ => hs) ?hIb (fun _ _ _ _ h _ => h) ?h0
    (fun x => { tmps := #[.slice A l.length c, undef, .pointer (some ⟨w.heap.size, 0, none⟩), .int .i64 0, .int .i64 0, vSeg A c x, undef, undef, .slice A l.length c, .int .i64 0, .int .i64 0, .bool false, undef, .slice A l.length c, .func (.func 208) #[] #[.pointer (some ⟨w2.heap.size, 0, none⟩)], vSeg A c x, undef, undef, undef, undef, undef, undef, undef, undef, undef, undef, undef, undef, undef, undef, undef, undef, undef, undef, undef], defers := [] }) ?assign ?body ?done ?stop
  case hI =>
    exact OwnFrom.and (Go.Own.from (holdsRow_own w.heap.size w.heap.size 72 71 3 (fun pre : List (Nat × Nat) => (blksR (pre.map (segOf l))).length) (fun pre => (blksR (pre.map (segOf l))).flatMap eT3.e) (fun _ _ => True)) _) (OwnFrom.and (fun s X Y row ⟨u, hu⟩ hg hr => ⟨u, boxed_own w2.heap.size 185 (fun _ : List (Nat × Nat) => u) s X Y row hu hg (fun r e => (hr r e).2)⟩) (ownFrom_below (Nat.le_refl _) hB0.size))
  case hIb =>
    rintro pre X Y ⟨⟨v, h2, h3, _⟩, ⟨u, h5⟩, h6⟩ ho
    refine ⟨⟨v, ho.boxed h2 hne, own1_row3 ho h3 (by decide) ⟨u, h5⟩, trivial⟩, ?_, h6.grown ho.1 h6.size (fun k e => by injection e with e; omega)⟩
    obtain ⟨_, t, x, x', q1, q2⟩ := ho
    have e : some (Obj.cells #[x] t (0, 0)) = some (Obj.cells #[u] 185 (0, 0)) := (show X.heap[w2.heap.size]? = _ from q1).symm.trans h5
    injection e with e
    injection e with _ e
    subst e
    exact ⟨x', q2⟩
  case h0 => exact ⟨⟨_, bR, World.ownsRow_nil _ _ _ _, trivial⟩, ⟨_, bN⟩, hB0⟩
  case assign =>
    intro lq x W K hK
    gi_wp2
    exact hK
  case body =>
    rintro lq pre ⟨f, t⟩ W ⟨⟨v, hv, hrow, _⟩, ⟨u, hBn⟩, hB⟩ ⟨hlp, hft, htl⟩
    simp only at hft htl
    obtain ⟨b, o, rfl, _, _, _, _⟩ := hs.n3 (fun _ => rfl) (Below.refl _ _) 0 (by omega)
    have hseg : (segOf l (f, t)).length = t - f := by unfold segOf; simp only; rw [List.length_take, List.length_drop]; omega
    have hsl : SlA eSt W (some ⟨b, o + f * 3, none⟩) (segOf l (f, t)) := ((hs.below hB).drop f).take (t - f)
    have hmay : ∀ s ∈ segOf l (f, t), MayS s := fun s h => HR.out s (List.mem_of_mem_drop (List.mem_of_mem_take h))
    have hmap : blksR ((pre ++ [(f, t)]).map (segOf l)) = blksR (pre.map (segOf l)) ++ if blkOk (segOf l (f, t)) = true then [blkOf (segOf l (f, t))] else [] := by rw [List.map_append, blksR_app]; exact congrArg _ (blksR_one _)
    have hbl : (blksR (pre.map (segOf l))).length ≤ 128 := by have h1 := blksR_len (pre.map (segOf l)); rw [List.length_map] at h1; omega
    have hmade := fun (W1 : World) (hW1 : Below W.heap.size W W1) (L : Bool) hL => made_c (some ⟨b, o + f * 3, none⟩) (c - f) (segOf l (f, t)) W1 (hsl.below hW1) hmay (by omega) _ _ rfl rfl L hL
    rw [hseg] at hmade
    generalize segOf l (f, t) = r at *
    obtain ⟨sa, hsa⟩ : ∃ s, txt (leftR r) = s := ⟨_, rfl⟩
    obtain ⟨sb, hsb⟩ : ∃ s, txt (rightR r) = s := ⟨_, rfl⟩
    have hok : blkOk r = (decide ((leftR r).length ≤ 3) && (decide ((rightR r).length ≤ 3) && !decide (sa = sb))) := by rw [← hsa, ← hsb]; rfl
    have hof : blkOf r = ⟨sa, sb, 1⟩ := by rw [← hsa, ← hsb]; rfl
    rw [hok, hof] at hmap
    rw [hsa, hsb] at hmade
    have HMAP := Lib.hid hmap
    have hvc := hv.cell
    have hvf := hv.frozen
    clear hsl hmay hok hof hsa hsb hmap hseg
    by_cases hlong : (leftR r).length ≤ 3 ∧ (rightR r).length ≤ 3
    · have hL := hmade W (Below.refl _ _) false (by simp; omega)
      clear hmade
      by_cases hse : sa = sb
      · subst hse
        gi_wp2_with (refine ⟨trivial, ?_⟩; gi_at_call 161; refine (CallsIn.inRound lq (callsIn_wide.2 hL)).mono ?_; rintro e w5 ⟨rfl, hb5⟩)
        have hb6 : Below W.heap.size W (w5.alloc (.cells #[.string sa, .string sa, .int .i64 1] 71)) := Bst hb5 Bel
        have hv5 : Boxed (w5.alloc (.cells #[.string sa, .string sa, .int .i64 1] 71)) w.heap.size 72 v := (hb6.block w.heap.size hv.lt).trans hv
        have hrow5 : Own eT3 w.heap.size 71 (w5.alloc (.cells #[.string sa, .string sa, .int .i64 1] 71)) v (blksR (pre.map (segOf l))) := Own.below (show Own eT3 w.heap.size 71 W v (blksR (pre.map (segOf l))) from hrow) hb6
        have hBn5 : Boxed (w5.alloc (.cells #[.string sa, .string sa, .int .i64 1] 71)) w2.heap.size 185 u := (hb6.block w2.heap.size hBn.lt).trans hBn
        have hB5 : Below w.heap.size w (w5.alloc (.cells #[.string sa, .string sa, .int .i64 1] 71)) := Bst hB hb6
        refine ⟨(kp_below hb6).from _, ⟨hb6.mono hB.size, hb6.size, fun h => hb6.block _ h⟩, ⟨⟨v, hv5, ?_, trivial⟩, ⟨u, hBn5⟩, hB5⟩⟩
        rw [HMAP.out, if_neg (by simp), List.append_nil]
        exact hrow5
      · have hse' : (sa.toList == sb.toList) = false := by
          rw [beq_eq_false_iff_ne]
          intro h
          rw [ByteArray.toList_eq, ByteArray.toList_eq] at h
          exact hse (ba_ext' h)
        gi_wp2_with (first | (refine ⟨trivial, ?_⟩; gi_at_call 161; refine (CallsIn.inRound lq (callsIn_wide.2 hL)).mono ?_; rintro e w5 ⟨rfl, hb5⟩; have hb6 : Below W.heap.size W (w5.alloc (.cells #[.string sa, .string sb, .int .i64 1] 71)) := Bst hb5 Bel; have hv5 : Boxed (w5.alloc (.cells #[.string sa, .string sb, .int .i64 1] 71)) w.heap.size 72 v := (hb6.block w.heap.size hv.lt).trans hv; have hrow5 : Own eT3 w.heap.size 71 (w5.alloc (.cells #[.string sa, .string sb, .int .i64 1] 71)) v (blksR (pre.map (segOf l))) := Own.below (show Own eT3 w.heap.size 71 W v (blksR (pre.map (segOf l))) from hrow) hb6; have hBn5 : Boxed (w5.alloc (.cells #[.string sa, .string sb, .int .i64 1] 71)) w2.heap.size 185 u := (hb6.block w2.heap.size hBn.lt).trans hBn; have hB5 : Below w.heap.size w (w5.alloc (.cells #[.string sa, .string sb, .int .i64 1] 71)) := Bst hB hb6; have hvc5 := hv5.cell; have hvf5 := hv5.frozen) | (gi_at_builtin; refine wpListIn_append_own _ rfl _ _ 72 rfl w.heap.size 71 i0 (.agg #[.string .empty, .string .empty, .int .i64 0]) 3 40 Tryz.underlying72 hi hz0 hz1 hz2 rfl (by decide) v (blksR (pre.map (segOf l))).length _ rfl (World.ownsRow.alloc hrow5 _) ⟨w5.heap.size + 1, 0, none⟩ 1 1 (eT3.e ⟨sa, sb, 1⟩) rfl rfl (by have h9 := cells_new (w5.alloc (.cells #[.string sa, .string sb, .int .i64 1] 71)) ⟨sa, sb, 1⟩ 71; rw [World.size_alloc] at h9; exact h9) (eT3.one _) (by simp only [maxLen]; omega) (by omega) (by have h9 := hB5.size; simp at h9 ⊢; omega) ?_; intro v' w7 hown' hgrow _; obtain ⟨g', cap', rfl⟩ := ownsRow_succ hown'; obtain ⟨hv1, hv2, hr2, hk2, hb7⟩ := hv5.appended (by decide) hrow5 hB5.size (Nat.le_refl _) hown' hgrow; have hc1 := hv1.cell; have hf1 := hv1.frozen))
        have hS2 := ((hBn5.alloc (.cells #[.string sa, .string sb, .int .i64 1] 71)).kept hgrow (hBn5.not_row (by decide) hrow5)).other (B' := w.heap.size) (by omega) (.slice (some ⟨g', 0, none⟩) ((blksR (pre.map (segOf l))).length + 1) cap')
        refine ⟨((kp_below hb6).trans hk2).from _, ⟨(hb6.mono hB.size).trans hb7, Nat.le_trans hb6.size hb7.size, fun _ => hS2.trans (Eq.symm hBn)⟩, ⟨⟨_, hv2, ?_, trivial⟩, ⟨u, hS2⟩, hB5.trans hb7⟩⟩
        rw [HMAP.out, if_pos (by simp [hse, hlong.1, hlong.2])]
        simpa [show eT3.k = 3 from rfl] using hr2
    · have hL := hmade W (Below.refl _ _) true (by simp; omega)
      clear hmade
      gi_wp2_with (refine ⟨trivial, ?_⟩; gi_at_call 161; refine (CallsIn.inRound lq (callsIn_wide.2 hL)).mono ?_; rintro e w5 ⟨rfl, hb5⟩)
      have hb6 : Below W.heap.size W (w5.alloc (.cells #[.string sa, .string sb, .int .i64 1] 71)) := Bst hb5 Bel
      have hv5 : Boxed (w5.alloc (.cells #[.string sa, .string sb, .int .i64 1] 71)) w.heap.size 72 v := (hb6.block w.heap.size hv.lt).trans hv
      have hrow5 : Own eT3 w.heap.size 71 (w5.alloc (.cells #[.string sa, .string sb, .int .i64 1] 71)) v (blksR (pre.map (segOf l))) := Own.below (show Own eT3 w.heap.size 71 W v (blksR (pre.map (segOf l))) from hrow) hb6
      have hBn5 : Boxed (w5.alloc (.cells #[.string sa, .string sb, .int .i64 1] 71)) w2.heap.size 185 u := (hb6.block w2.heap.size hBn.lt).trans hBn
      have hB5 : Below w.heap.size w (w5.alloc (.cells #[.string sa, .string sb, .int .i64 1] 71)) := Bst hB hb6
      refine ⟨(kp_below hb6).from _, ⟨hb6.mono hB.size, hb6.size, fun h => hb6.block _ h⟩, ⟨⟨v, hv5, ?_, trivial⟩, ⟨u, hBn5⟩, hB5⟩⟩
      rw [HMAP.out, if_neg (by simp; omega), List.append_nil]
      exact hrow5
  case done =>
    rintro D ys W hD hys ⟨⟨v, hv, hrow, _⟩, ⟨u, hBn⟩, hB⟩ hK
    have hvc := hv.cell
    have hvf := hv.frozen
    rw [hys] at hrow
    have hD2 : w.heap.size < D := by omega
    have hfin : ∀ W4, W4 = W.setCell ⟨w.heap.size, 0, none⟩ v → Boxed W4 w.heap.size 72 v ∧ W4.heap[D]? = some (.deferred (some [])) ∧ Below w.heap.size w W4 ∧ W4.ownsRow w.heap.size 71 3 v (blksR (rowsL l)).length ((blksR (rowsL l)).flatMap eT3.e) := by
      rintro W4 rfl
      exact ⟨hv.set _, (heap_setCell_other _ _ D _ (by show D ≠ w.heap.size; omega)).trans hK, hB.setCell (p := ⟨w.heap.size, 0, none⟩) (Nat.le_refl _) _, hrow.kept (grownBy_setCell' W w.heap.size v) (.inr (hv.not_row (by decide) hrow).symm)⟩
    have hrf := hrow.2
    clear hrow
    rcases hrf with ⟨rfl, h0⟩ | ⟨g, cap, cur, rfl, _⟩
    all_goals
      gi_wp2
      obtain ⟨hR4, hK4, hb4, hr4⟩ := hfin _ rfl
      refine ⟨by simp, .inl ⟨_, _, rfl, run_takeDeferred hK4, ?_⟩⟩
      have hc5 := cell_kept hR4.cell (grownBy_putObj' _ D (.deferred none)) (fun r e => by cases e; exact ⟨_, hK4, rfl⟩)
      refine ⟨.tuple #[_, .int .i64 0], ?_, _, rfl, Own.slv (show Own eT3 w.heap.size 71 _ _ (blksL l) from ownsRow_putObj hr4 _ hK4 rfl), hb4.trans (belowK_b (w := w) (Nat.le_refl _) _ D _ _ (by omega) hK4 rfl rfl)⟩
      simp [results, Tryz.f101, go_sem, hc5]
  case stop =>
    rintro D c pre W _ _ h _
    exact h.elim
set_option maxRecDepth 100000 in
set_option maxHeartbeats 1000000 in
theorem bpair_c (p : P2) (w : World) (hU : U w) (hz : p.n.size ≤ 17592186044416) (hz2 : p.t.size ≤ 17592186044416) : Calls Tryz.prog 60 #[.string p.n, .string p.t] w (PairPost w p) := by
  by_cases h0 : pairE p = 0
  · have H0 := Lib.hid h0
    have HM := Lib.hid (pair_may h0)
    clear h0
    go_enter Tryz.func60, Tryz.ntmps60
    go_wp2_with fail
    refine (steps_c p _ hU hz hz2).mono ?_
    rintro e w2 ⟨hb2, h3, _⟩
    obtain ⟨v, rfl, A, c, rfl, hlc, _, hA⟩ := h3 H0.out
    clear h3
    go_wp2_with fail
    refine (bof_c A c _ _ hA HM.out.1 HM.out.2 hlc).mono ?_
    rintro e w3 ⟨v3, rfl, hV, hb3⟩
    go_wp2_with fail
    go_ret2
    exact ⟨Bst hb2 hb3, fun _ => ⟨v3, rfl, hV⟩, fun h => absurd H0.out h⟩
  · have H0 := Lib.hid h0
    obtain ⟨z, hz3⟩ : ∃ z, pairE p = z := ⟨_, rfl⟩
    have hz0 : z ≠ 0 := hz3 ▸ h0
    clear h0
    have HZ := Lib.hid hz3
    clear hz3
    go_enter Tryz.func60, Tryz.ntmps60
    go_wp2_with fail
    refine (steps_c p _ hU hz hz2).mono ?_
    rintro e w2 ⟨hb2, _, h3⟩
    obtain rfl := h3 H0.out
    clear h3
    rw [HZ.out]
    go_wp2_with fail
    go_ret2
    refine ⟨hb2, fun h => absurd h H0.out, fun _ => ?_⟩
    rw [HZ.out]; rfl
end Go.Proofs.YtpnhmapkdbnkmaaGreatDoor
