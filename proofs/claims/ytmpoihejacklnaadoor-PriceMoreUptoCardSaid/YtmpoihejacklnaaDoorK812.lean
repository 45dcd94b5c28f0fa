/- Parts of these proofs, one behind the other: Mch, End8, Grt8, Ref8, Mput. No condition. -/
import Derived.Test.YtmpoihejacklnaaDoorK811
import Derived.Test.YtmpoihejacklnaaDoorK807
import Derived.Test.YtmpoihejacklnaaDoorProg
import Derived.Lib.Hide
import Derived.Test.YtmpoihejacklnaaDoorK810
import Derived.Test.YtmpoihejacklnaaDoorK809
import Derived.Test.YtmpoihejacklnaaDoorK806
import Derived.Test.YtmpoihejacklnaaDoorK804
import Derived.Test.YtmpoihejacklnaaDoorK808
import Derived.RangeFuncBox
/- The machine in memory. No condition. -/
namespace Go.Proofs.YtmpoihejacklnaaDoor
open Go Go.RowKit
/-! ### what all but some blocks keep -/
structure Kb (w w' : World) (S : List Nat) : Prop where
  os : w'.os = w.os
  tape : w'.tape = w.tape
  output : w'.output = w.output
  size : w.heap.size ≤ w'.heap.size
  block : ∀ k, k < w.heap.size → k ∉ S → w'.heap[k]? = w.heap[k]?
theorem Kb.grown {w w' : World} {b : Nat} (h : w.grownBy w' (some b)) : Kb w w' [b] := ⟨h.os, h.tape, h.output, h.size, fun k hk hn => h.block k hk (fun e => hn (by injection e with e; simp [e]))⟩
theorem Kb.row {w w' : World} {v : Value} {S : List Nat} (h : w.grownBy w' v.ownBlock) (hS : ∀ k, v.ownBlock = some k → k ∈ S) : Kb w w' S := ⟨h.os, h.tape, h.output, h.size, fun k hk hn => h.block k hk (fun e => hn (hS k e.symm))⟩
theorem Kb.grown0 {w w' : World} (h : w.grownBy w' none) : Kb w w' [] := ⟨h.os, h.tape, h.output, h.size, fun k hk _ => h.block k hk (by simp)⟩
theorem Kb.below {w w' : World} (h : Below w.heap.size w w') : Kb w w' [] := ⟨h.os, h.tape, h.output, h.size, fun k hk _ => h.block k hk⟩
theorem Kb.trans {a b c : World} {S S' : List Nat} (h : Kb a b S) (k : Kb b c S') : Kb a c (S ++ S') :=
  ⟨k.os.trans h.os, k.tape.trans h.tape, k.output.trans h.output, Nat.le_trans h.size k.size, fun i hi hn => by
    simp only [List.mem_append, not_or] at hn
    exact (k.block i (Nat.lt_of_lt_of_le hi h.size) hn.2).trans (h.block i hi hn.1)⟩
theorem Kb.to {a b : World} {S : List Nat} {base : Nat} {w : World} (h : Kb a b S) (hS : ∀ s ∈ S, base ≤ s) (hw : Below base w a) (hb : base ≤ w.heap.size) : Below base w b :=
  ⟨h.os.trans hw.os, h.tape.trans hw.tape, h.output.trans hw.output, Nat.le_trans hw.size h.size, fun k hk => (h.block k (Nat.lt_of_lt_of_le (Nat.lt_of_lt_of_le hk hb) hw.size) (fun hm => by have := hS k hm; omega)).trans (hw.block k hk)⟩
theorem Kb.cell {w w' : World} {S : List Nat} (h : Kb w w' S) {a : Addr} {v : Value} (hc : w.cell? a = some v) (hn : a.block ∉ S) : w'.cell? a = some v :=
  (World.cell?_of_block (h.block a.block (World.block_lt_of_cell? w a hc) hn)).trans hc
theorem Own.kb {α : Type} {E : Enc α} {base : Nat} {e : TypeId} {w w' : World} {v : Value} {xs : List α} {S : List Nat} (h : Own E base e w v xs) (hk : Kb w w' S) (hn : ∀ k, v.ownBlock = some k → k ∉ S) : Own E base e w' v xs := by
  obtain ⟨h1, h2⟩ := h
  refine ⟨h1, ?_⟩
  rcases h2 with h2 | ⟨g, cap, cur, rfl, hb, hg, h3⟩
  · exact .inl h2
  · exact .inr ⟨g, cap, cur, rfl, hb, (hk.block g (Array.getElem?_eq_some_iff.1 hg).1 (hn g rfl)).trans hg, h3⟩
theorem OnM.kb {P : Program} {k e : TypeId} {w w' : World} {b N : Nat} {f : Int → Option Nat} {S : List Nat} (h : OnM P k e w b N f) (hk : Kb w w' S) (hn : b ∉ S) : OnM P k e w' b N f := by
  have hlt := h.lt
  obtain ⟨D, ⟨es, clock, hb, r⟩, h2⟩ := h
  exact ⟨D, ⟨es, clock, (hk.block b hlt hn).trans hb, r⟩, h2⟩
/-- An owned row's block is a row of its type. -/
theorem Own.cells {α : Type} {E : Enc α} {base : Nat} {e : TypeId} {w : World} {v : Value} {xs : List α} (h : Own E base e w v xs) {g : Nat} (hg : v.ownBlock = some g) : ∃ cur, w.heap[g]? = some (.cells cur e (0, 0)) := by
  rcases h.2 with ⟨rfl, _⟩ | ⟨g', cap, cur, rfl, _, hh, _⟩
  · simp [Value.ownBlock] at hg
  · simp only [Value.ownBlock, Option.some.injEq] at hg
    subst hg
    exact ⟨cur, hh⟩
/-- Rows of two types lie in two blocks. -/
theorem Own.apart {α β : Type} {E : Enc α} {F : Enc β} {b1 b2 : Nat} {e f : TypeId} {w : World} {v u : Value} {xs : List α} {ys : List β} (h : Own E b1 e w v xs) (k : Own F b2 f w u ys) (hne : e ≠ f) {g : Nat} (hg : v.ownBlock = some g) : u.ownBlock ≠ some g := fun hu => by
  obtain ⟨c1, h1⟩ := h.cells hg
  obtain ⟨c2, h2⟩ := k.cells hu
  rw [h1] at h2
  injection h2 with h2
  injection h2 with _ h2
  exact hne h2
theorem Own.nomap {α : Type} {E : Enc α} {base : Nat} {t : TypeId} {P : Program} {k e : TypeId} {w : World} {v : Value} {xs : List α} {b N : Nat} {f : Int → Option Nat} (h : Own E base t w v xs) (m : OnM P k e w b N f) : v.ownBlock ≠ some b := fun hv => by
  obtain ⟨c, h1⟩ := h.cells hv
  exact m.ne_cells h1 rfl
/-! ### where a beginning stands -/
def idxP (T : List (List Int)) (p : List Int) : Option Nat := T.findIdx? fun q => decide (q = p)
theorem idxP_some {T : List (List Int)} (h : T.Nodup) {p : List Int} {j : Nat} : idxP T p = some j ↔ T[j]? = some p := by
  unfold idxP
  rw [List.findIdx?_eq_some_iff_getElem]
  constructor
  · rintro ⟨h1, h2, _⟩
    rw [List.getElem?_eq_getElem h1]; simpa using h2
  · intro h1
    obtain ⟨h2, h3⟩ := List.getElem?_eq_some_iff.1 h1
    refine ⟨h2, by simpa using h3, fun i hi hq => ?_⟩
    have hqe : T[i] = p := by simpa using hq
    have := nodup_inj h (i := i) (j := j) (p := p) (by rw [← hqe]; exact List.getElem?_eq_getElem _) h1
    omega
theorem idxP_none {T : List (List Int)} {p : List Int} : idxP T p = none ↔ p ∉ T := by
  unfold idxP
  rw [List.findIdx?_eq_none_iff]
  constructor
  · intro h hp; simpa using h p hp
  · intro h x hx; simp; exact fun e => h (e ▸ hx)
theorem idxP_mem {T : List (List Int)} {p : List Int} : (idxP T p).isSome = decide (p ∈ T) := by
  cases h : idxP T p with
  | none => simp [idxP_none.1 h]
  | some j =>
    have : p ∈ T := Classical.byContradiction fun hn => by rw [idxP_none.2 hn] at h; cases h
    simp [this]
theorem idxP_snoc {T : List (List Int)} {p q : List Int} (hn : q ∉ T) : idxP (T ++ [q]) p = if p = q then some T.length else idxP T p := by
  unfold idxP
  rw [List.findIdx?_append]
  split
  · rename_i e
    subst e
    have : List.findIdx? (fun q => decide (q = p)) T = none := idxP_none.2 hn
    rw [this]; simp
  · rename_i e
    have : List.findIdx? (fun q => decide (q = p)) [q] = none := by simp; exact fun h => e h.symm
    rw [this]; simp
/-! ### the machine -/
/-- A state's cells: its map, where it falls back to, how long it is, its rules. -/
structure S4 where
  m : Nat
  b : Int
  z : Int
  A : Option Addr
  l : Nat
  c : Nat
def S4.r (s : S4) : Value := .slice s.A s.l s.c
def eS4 : Enc S4 := ⟨4, fun s => [.map (some s.m), .int .i64 s.b, .int .i64 s.z, .slice s.A s.l s.c], fun _ => rfl, fun _ v hv => by simp at hv; rcases hv with rfl | rfl | rfl | rfl <;> rfl⟩
structure MchAt (P : Program) (k e : TypeId) (base : Nat) (w : World) (T : List (List Int)) (N : Nat) (sts : List S4) (bk : Nat → Nat) (rs : Nat → List Int) : Prop where
  len : sts.length = T.length
  on : ∀ i (h : i < sts.length), OnM P k e w sts[i].m N (fun r => idxP T (pth T i ++ [r]))
  bs : ∀ i (h : i < sts.length), sts[i].b = (bk i : Int)
  zs : ∀ i (h : i < sts.length), sts[i].z = ((pth T i).length : Int)
  rows : ∀ i (h : i < sts.length), Own (eInt .i64) base e w sts[i].r (rs i)
  ms : ∀ i (h : i < sts.length), base ≤ sts[i].m
  apm : ∀ i j (h : i < sts.length) (k : j < sts.length), i ≠ j → sts[i].m ≠ sts[j].m
  apr : ∀ i j (h : i < sts.length) (k : j < sts.length), i ≠ j → ∀ g, sts[i].r.ownBlock = some g → sts[j].r.ownBlock ≠ some g
/-- Block M is the machine of the states T. -/
structure Mch (P : Program) (k e te : TypeId) (tm : TypeId) (base : Nat) (w : World) (M : Nat) (v : Value) (T : List (List Int)) (N : Nat) (sts : List S4) (bk : Nat → Nat) (rs : Nat → List Int) : Prop where
  blk : w.heap[M]? = some (.cells #[v] tm (0, 0))
  ge : base ≤ M
  own : Own eS4 base te w v sts
  at' : MchAt P k e base w T N sts bk rs
section
variable {P : Program} {k e te tm : TypeId} {base : Nat} {w w' : World} {M N : Nat} {v : Value} {T : List (List Int)} {sts : List S4} {bk : Nat → Nat} {rs : Nat → List Int}
theorem Mch.cell (h : Mch P k e te tm base w M v T N sts bk rs) : w.cell? ⟨M, 0, none⟩ = some v ∧ w.frozen? ⟨M, 0, none⟩ = false ∧ M < w.heap.size := by
  refine ⟨?_, ?_, (Array.getElem?_eq_some_iff.1 h.blk).1⟩
  · unfold World.cell?; simp only [h.blk]; rfl
  · unfold World.frozen?; simp only [h.blk]; rfl
theorem MchAt.kb (h : MchAt P k e base w T N sts bk rs) {S : List Nat} (hk : Kb w w' S) (h1 : ∀ i (h : i < sts.length), sts[i].m ∉ S) (h2 : ∀ i (h : i < sts.length) g, sts[i].r.ownBlock = some g → g ∉ S) : MchAt P k e base w' T N sts bk rs :=
  ⟨h.len, fun i hi => (h.on i hi).kb hk (h1 i hi), h.bs, h.zs, fun i hi => (h.rows i hi).kb hk (h2 i hi), h.ms, h.apm, h.apr⟩
theorem Mch.below (h : Mch P k e te tm base w M v T N sts bk rs) (hb : Below w.heap.size w w') : Mch P k e te tm base w' M v T N sts bk rs :=
  ⟨(hb.block M h.cell.2.2).trans h.blk, h.ge, h.own.below hb, h.at'.kb (Kb.below hb) (by simp) (by simp)⟩
theorem Mch.lower (h : Mch P k e te tm base w M v T N sts bk rs) {b' : Nat} (hb : b' ≤ base) : Mch P k e te tm b' w M v T N sts bk rs :=
  ⟨h.blk, Nat.le_trans hb h.ge, h.own.lower hb, ⟨h.at'.len, h.at'.on, h.at'.bs, h.at'.zs, fun i hi => (h.at'.rows i hi).lower hb, fun i hi => Nat.le_trans hb (h.at'.ms i hi), h.at'.apm, h.at'.apr⟩⟩
/-- What lies where, of one state. -/
theorem Mch.read (h : Mch P k e te tm base w M v T N sts bk rs) (i : Nat) (hi : i < T.length) : ∃ g cap m A l c, v = .slice (some ⟨g, 0, none⟩) T.length cap ∧ T.length ≤ cap ∧ cap ≤ 9223372036854775807 ∧ g < w.heap.size ∧
    w.cell? ⟨g, i * 4, none⟩ = some (.map (some m)) ∧ w.cell? ⟨g, i * 4 + 1, none⟩ = some (.int .i64 (bk i)) ∧ w.cell? ⟨g, i * 4 + 2, none⟩ = some (.int .i64 (pth T i).length) ∧ w.cell? ⟨g, i * 4 + 3, none⟩ = some (.slice A l c) ∧
    OnM P k e w m N (fun r => idxP T (pth T i ++ [r])) ∧ Own (eInt .i64) base e w (.slice A l c) (rs i) ∧ ∀ h : i < sts.length, sts[i].m = m ∧ sts[i].r = .slice A l c := by
  have hl := h.at'.len
  have hi' : i < sts.length := by omega
  obtain ⟨g, cap, hv, h1, h2, h3, h4, _⟩ := h.own.form (by omega)
  have ho := h.own
  rw [hv] at ho
  have c0 := ho.at i hi' 0 _ rfl
  have c1 := ho.at i hi' 1 _ rfl
  have c2 := ho.at i hi' 2 _ rfl
  have c3 := ho.at i hi' 3 _ rfl
  rw [h.at'.bs i hi'] at c1
  rw [h.at'.zs i hi'] at c2
  rw [hl] at hv h3
  exact ⟨g, cap, sts[i].m, sts[i].A, sts[i].l, sts[i].c, hv, h3, by simpa [maxLen] using h4, h2, c0, c1, c2, c3, h.at'.on i hi', h.at'.rows i hi', fun _ => ⟨rfl, rfl⟩⟩
end
abbrev MchP (base : Nat) (w : World) (M : Nat) (v : Value) (T : List (List Int)) (N : Nat) (sts : List S4) (bk : Nat → Nat) (rs : Nat → List Int) : Prop := Mch Tryd.prog 21 3 141 144 base w M v T N sts bk rs
/-- The links of all states no longer than d. -/
def Links (T : List (List Int)) (bk : Nat → Nat) (d : Nat) : Prop := ∀ j, j < T.length → (pth T j).length ≤ d → T[bk j]? = some (fb T (pth T j))
set_option maxRecDepth 100000 in
set_option maxHeartbeats 1000000 in
theorem step_c (base M : Nat) (v : Value) (T : List (List Int)) (N : Nat) (sts : List S4) (bk : Nat → Nat) (rs : Nat → List Int) (w : World) (h : MchP base w M v T N sts bk rs) (hT : Trie T) (d : Nat) (hL : Links T bk d) (_hn : T.length ≤ 4294967296)
    (i : Nat) (p : List Int) (hi : T[i]? = some p) (hp : p.length ≤ d) (r : Int) (hr : (Lit.int .i32 r).wf = true) :
    Calls Tryd.prog 76 #[.pointer (some ⟨M, 0, none⟩), .int .i64 i, .int .i32 r] w fun e w' => ∃ q : Nat, e = .returned (.int .i64 q) ∧ T[q]? = some (ls T (p ++ [r])) ∧ Below w.heap.size w w' := by
  have HL := Lib.hid hL; have HT := Lib.hid hT
  go_enter Tryd.func76, Tryd.ntmps76
  go_wp2
  go_step3
  go_wp2
  refine wp_label ?_
  go_wp2
  go_loopw [1] (fun s wr => ∃ (j : Nat) (q : List Int), s = .int .i64 j ∧ T[j]? = some q ∧ q.length ≤ d ∧ Hid (ls T (q ++ [r]) = ls T (p ++ [r])) ∧ Below w.heap.size w wr) (fun s _ => (pth T (intOf s).toNat).length)
  case atStart => exact ⟨i, p, rfl, hi, hp, rfl, Below.refl _ _⟩
  case round =>
    obtain ⟨j, q, rfl, hj, hq, HQ, hb⟩ := hrel
    have hjl := at_lt hj
    have hM := h.below hb
    obtain ⟨mc, mf, ml⟩ := hM.cell
    obtain ⟨g, cap, m, A, l, c, hv, hc1, hc2, hg, c0, c1, c2, c3, hon, _, _⟩ := hM.read j hjl
    rw [hv] at mc
    have hpj := pth_at hj
    have hji : (j : Int) < T.length := by omega
    have HB : Hid (T[bk j]? = some (fb T q)) := by have := HL.out j hjl (by rw [hpj]; exact hq); rwa [hpj] at this
    rw [hpj] at hon c2
    have hz := Tryd.zeroValue3 wr
    cases hf : idxP T (q ++ [r]) with
    | some x =>
      have hx := (idxP_some HT.out.nodup).1 hf
      have HX : Hid (T[x]? = some (ls T (p ++ [r]))) := by
        show _ = _
        rw [← HQ.out, ls_self (List.mem_of_getElem? hx)]; exact hx
      clear hx
      go_wp2_with (at_lookup; refine wpList_onm_look rfl _ _ 139 rfl 21 3 Tryd.underlying21 Tryd.underlying3 Tryd.underlying139 hz m N _ rfl hon r hr rfl ?_; simp only [hf, Option.getD_some, Option.isSome_some])
      rw [Exit.noGoto_ret]
      go_ret
      exact ⟨x, rfl, HX.out, hb⟩
    | none =>
      have hx := idxP_none.1 hf
      by_cases h0 : j = 0
      · subst h0
        have hq0 : q = [] := by rw [HT.out.root] at hj; injection hj with hj; exact hj.symm
        subst hq0
        have HX : Hid (T[0]? = some (ls T (p ++ [r]))) := by
          show _ = _
          rw [← HQ.out, step_root (by simpa using hx)]; exact HT.out.root
        clear hx
        go_wp2_with (at_lookup; refine wpList_onm_look rfl _ _ 139 rfl 21 3 Tryd.underlying21 Tryd.underlying3 Tryd.underlying139 hz m N _ rfl hon r hr rfl ?_; simp only [hf, Option.getD_none, Option.isSome_none])
        rw [Exit.noGoto_ret]
        go_ret
        exact ⟨0, rfl, HX.out, hb⟩
      · have hq0 : q ≠ [] := fun e => h0 (by rw [e] at hj; exact HT.out.zero.1 hj)
        have HX : Hid (ls T (fb T q ++ [r]) = ls T (p ++ [r])) := by
          show _ = _
          rw [← step_fall HT.out hq0 hx]; exact HQ.out
        have hfl := fb_len (T := T) hq0
        clear hx
        have h0' : ¬ (j : Int) = 0 := by omega
        go_wp2_with (at_lookup; refine wpList_onm_look rfl _ _ 139 rfl 21 3 Tryd.underlying21 Tryd.underlying3 Tryd.underlying139 hz m N _ rfl hon r hr rfl ?_; simp only [hf, Option.getD_none, Option.isSome_none])
        refine ⟨⟨bk j, fb T q, rfl, HB.out, by omega, HX, hb⟩, ?_⟩
        have e1 : pth T (bk j) = fb T q := pth_at HB.out
        simp only [intOf, Int.toNat_natCast]
        rw [e1, hpj]; exact hfl
end Go.Proofs.YtmpoihejacklnaaDoor
/- The machine's ends: the iterator over all states that end at a place. No condition. -/
namespace Go.Proofs.YtmpoihejacklnaaDoor
open Go Go.RowKit Go.Shelf
attribute [local go_sem] Oper.semAt_some
/-- A state, and all that it falls back to. -/
def fallN (bk : Nat → Nat) : Nat → Nat → List Nat
  | 0, _ => []
  | k + 1, i => i :: if i = 0 then [] else fallN bk k (bk i)
/-- What a round keeps: all that lay below n₀, and two boxes. -/
def Kp2 (n₀ b c : Nat) (A B : World) : Prop := Below n₀ A B ∧ A.heap.size ≤ B.heap.size ∧ (b < A.heap.size → B.heap[b]? = A.heap[b]?) ∧ (c < A.heap.size → B.heap[c]? = A.heap[c]?)
theorem Kp2.trans {n₀ b c : Nat} {A B C : World} (h : Kp2 n₀ b c A B) (k : Kp2 n₀ b c B C) : Kp2 n₀ b c A C :=
  ⟨h.1.trans k.1, Nat.le_trans h.2.1 k.2.1, fun hb => (k.2.2.1 (Nat.lt_of_lt_of_le hb h.2.1)).trans (h.2.2.1 hb), fun hb => (k.2.2.2 (Nat.lt_of_lt_of_le hb h.2.1)).trans (h.2.2.2 hb)⟩
def atOf (w : World) (b : Nat) : Nat := match w.cell? ⟨b, 0, none⟩ with
  | some (.int _ z) => z.toNat
  | _ => 0
theorem atOf_at {w : World} {b i : Nat} (h : w.cell? ⟨b, 0, none⟩ = some (.int .i64 i)) : atOf w b = i := by unfold atOf; rw [h]; simp
/-- What the iterator reads of the machine. -/
structure Falls (w0 : World) (M gS capS : Nat) (T : List (List Int)) (bk : Nat → Nat) : Prop where
  mc : w0.cell? ⟨M, 0, none⟩ = some (.slice (some ⟨gS, 0, none⟩) T.length capS)
  ml : M < w0.heap.size
  gl : gS < w0.heap.size
  back : ∀ i, i < T.length → w0.cell? ⟨gS, i * 4 + 1, none⟩ = some (.int .i64 (bk i))
  lt : ∀ i, i < T.length → bk i < T.length
  less : ∀ i, i < T.length → i ≠ 0 → (pth T (bk i)).length < (pth T i).length
set_option maxRecDepth 100000 in
set_option maxHeartbeats 2000000 in
theorem ends1_in (n : Nat) (hn : 1 ≤ n) (l Bm Ba M gS capS : Nat) (T : List (List Int)) (bk : Nat → Nat) (w0 : World) (hF : Falls w0 M gS capS T bk) (i0 k0 : Nat) (hi0 : i0 < T.length) (hk0 : (pth T i0).length < k0) (J Jx : List Nat → World → Prop) (W : World)
    (hJ : ∀ pre A B, J pre A → Own1 Ba A B → J pre B)
    (hY : ∀ pre x W1, J pre W1 → (∃ q, fallN bk k0 i0 = pre ++ x :: q) → YieldAt Fence.wide (n - 1) Tryd.prog l #[.pointer (some ⟨gS, x * 4, none⟩)] W1 fun e W' =>
      (e = .returned (.bool true) ∧ J (pre ++ [x]) W' ∧ Kp2 w0.heap.size Ba Bm W1 W') ∨ (e = .returned (.bool false) ∧ Jx (pre ++ [x]) W'))
    (hb0 : Below w0.heap.size w0 W) (hBn : w0.heap.size ≤ Ba) (hne : Ba ≠ Bm) (hBx : Boxed W Ba 3 (.int .i64 i0)) (hBy : Boxed W Bm 111 (.pointer (some ⟨M, 0, none⟩))) (h0 : J [] W) :
    CallsIn Fence.wide n Tryd.prog 98 #[.func (.yield l) #[] #[], .pointer (some ⟨Bm, 0, none⟩), .pointer (some ⟨Ba, 0, none⟩)] W fun e W' => (∃ v, e = .returned v) ∧
      ((∃ ys, ys = fallN bk k0 i0 ∧ J ys W') ∨ (∃ pre, (∃ q, fallN bk k0 i0 = pre ++ q) ∧ Jx pre W')) := by
  refine callsIn_of_wp Tryd.func98 rfl trivial ?_ rfl
  simp only [Tryd.ntmps98, List.size_toArray, List.length_cons, List.length_nil, Nat.reduceAdd, Nat.reduceSub, Array.replicate_succ, Array.replicate_zero, List.push_toArray, List.append_toArray, List.nil_append, List.cons_append]
  have HF := Lib.hid hF
  clear hF
  gi_wp2
  gi_loopw [4] (fun _ wr => ∃ (i k : Nat) (pre : List Nat), Boxed wr Ba 3 (.int .i64 i) ∧ Boxed wr Bm 111 (.pointer (some ⟨M, 0, none⟩)) ∧ Hid (fallN bk k0 i0 = pre ++ fallN bk k i) ∧ i < T.length ∧ (pth T i).length < k ∧ J pre wr ∧ Below w0.heap.size w0 wr) (fun _ wr => (pth T (atOf wr Ba)).length)
  case atStart => exact ⟨i0, k0, [], hBx, hBy, rfl, hi0, hk0, h0, hb0⟩
  case round =>
    obtain ⟨i, k, pre, hB, hBy2, HP, hil, hik, hJp, hb⟩ := hrel
    obtain ⟨k, rfl⟩ : ∃ k', k = k' + 1 := ⟨k - 1, by omega⟩
    have hc := hB.cell
    have hy0 := hBy2.cell
    have hmc : wr.cell? ⟨M, 0, none⟩ = some (.slice (some ⟨gS, 0, none⟩) T.length capS) := (hb.cell HF.out.ml).trans HF.out.mc
    have hil1 : (i : Int) < T.length := by omega
    gi_wp2_with fail
    refine region_tailI 7 (by kernel_rfl) (by kernel_rfl) (fun W => ∃ q, W = World.drewN wr q) ⟨1, rfl⟩ ?_
    repeat (quiet_step (fail))
    refine wpQuiet_nil ?_
    intro W1 hw'
    obtain ⟨nq, hw1⟩ := hw'
    have hb1 : Below wr.heap.size wr W1 := by rw [hw1]; exact Bdn (Below.refl _ _) _
    clear hw1
    have hB1 : Boxed W1 Ba 3 (.int .i64 i) := (hb1.block Ba hB.lt).trans hB
    have hbw1 : Below w0.heap.size w0 W1 := hb.trans (hb1.mono hb.size)
    have hBy1 : Boxed W1 Bm 111 (.pointer (some ⟨M, 0, none⟩)) := (hb1.block Bm hBy2.lt).trans hBy2
    obtain ⟨fn, tmps, assign, body, hy, hR⟩ := hY pre i W1 (hJ _ _ _ hJp (own1_below hB hb1)) ⟨if i = 0 then [] else fallN bk k (bk i), HP.out⟩
    have HP1 : Hid (fallN bk k0 i0 = (pre ++ [i]) ++ if i = 0 then [] else fallN bk k (bk i)) := by
      show _ = _
      rw [HP.out, List.append_assoc]; rfl
    gi_wp2
    refine hR.mono ?_
    rintro e W3 (⟨rfl, hJ3, hk3⟩ | ⟨rfl, hJx3⟩)
    · have hB3 : Boxed W3 Ba 3 (.int .i64 i) := (hk3.2.2.1 hB1.lt).trans hB1
      have hBy3 : Boxed W3 Bm 111 (.pointer (some ⟨M, 0, none⟩)) := (hk3.2.2.2 hBy1.lt).trans hBy1
      have hc3 := hB3.cell
      have hb3 : Below w0.heap.size w0 W3 := hbw1.trans hk3.1
      by_cases h00 : i = 0
      · subst h00
        gi_wp2
        refine bodyPost_ret (results_none rfl _ _ _) rfl ?_
        exact ⟨⟨_, rfl⟩, .inl ⟨pre ++ [0], by rw [HP1.out]; simp, hJ3⟩⟩
      · have h01 : ¬ (i : Int) = 0 := by omega
        have hmc3 : W3.cell? ⟨M, 0, none⟩ = some (.slice (some ⟨gS, 0, none⟩) T.length capS) := (hb3.cell HF.out.ml).trans HF.out.mc
        have hbc3 : W3.cell? ⟨gS, i * 4 + 1, none⟩ = some (.int .i64 (bk i)) := (hb3.cell HF.out.gl).trans (HF.out.back i hil)
        have hf3 := hB3.frozen
        have hy3 := hBy3.cell
        clear hy0 hmc
        gi_wp2_with fail
        refine region_tailI 8 (by kernel_rfl) (by kernel_rfl) (fun W => ∃ q, W = World.drewN W3 q) ⟨1, rfl⟩ ?_
        repeat (quiet_step (fail))
        refine wpQuiet_nil ?_
        intro W4 hw'
        obtain ⟨nq4, hw4⟩ := hw'
        have hb4 : Below W3.heap.size W3 W4 := by rw [hw4]; exact Bdn (Below.refl _ _) _
        clear hw4
        have hB4 : Boxed W4 Ba 3 (.int .i64 i) := (hb4.block Ba hB3.lt).trans hB3
        have hBy4 : Boxed W4 Bm 111 (.pointer (some ⟨M, 0, none⟩)) := (hb4.block Bm hBy3.lt).trans hBy3
        have hc4 := hB4.cell
        have hf4 := hB4.frozen
        gi_wp2
        refine ⟨⟨bk i, k, pre ++ [i], hB4.set _, hBy4.other (Ne.symm hne) _, ?_, HF.out.lt i hil, ?_, hJ _ _ _ (hJ _ _ _ hJ3 (own1_below hB3 hb4)) (own1_set hB4 _), ?_⟩, ?_⟩
        · show _ = _
          rw [HP1.out, if_neg h00]
        · have := HF.out.less i hil h00; omega
        · exact (hb3.trans (hb4.mono (by have := hb3.size; omega))).setCell (p := ⟨Ba, 0, none⟩) hBn _
        · rw [atOf_at (hB4.set _).cell, atOf_at hc]
          exact HF.out.less i hil h00
    · gi_wp2
      refine bodyPost_ret (results_none rfl _ _ _) rfl ?_
      exact ⟨⟨_, rfl⟩, .inr ⟨_, ⟨_, HP1.out⟩, hJx3⟩⟩
theorem ends_stops (n : Nat) (hn : 1 ≤ n) (Bm Ba M gS capS : Nat) (T : List (List Int)) (bk : Nat → Nat) (w0 w : World) (hF : Falls w0 M gS capS T bk) (i0 k0 : Nat) (hi0 : i0 < T.length) (hk0 : (pth T i0).length < k0) (hb : Below w0.heap.size w0 w) (hBn : w0.heap.size ≤ Ba) (hne : Ba ≠ Bm) (hBx : Boxed w Ba 3 (.int .i64 i0)) (hBy : Boxed w Bm 111 (.pointer (some ⟨M, 0, none⟩))) :
    SeqBox Fence.wide n Tryd.prog 98 #[.pointer (some ⟨Bm, 0, none⟩), .pointer (some ⟨Ba, 0, none⟩)] (fun x : Nat => #[.pointer (some ⟨gS, x * 4, none⟩)]) Ba (Kp2 w0.heap.size Ba Bm) (fun ys => ys = fallN bk k0 i0) (fun pre => ∃ q, fallN bk k0 i0 = pre ++ q) (fun pre x => ∃ q, fallN bk k0 i0 = pre ++ x :: q) w := fun l J Jx W hW hJ _ _ hY h0 =>
  ends1_in n hn l Bm Ba M gS capS T bk w0 hF i0 k0 hi0 hk0 J Jx W hJ hY (hb.trans (hW.mono hb.size)) hBn hne ((hW.block Ba hBx.lt).trans hBx) ((hW.block Bm hBy.lt).trans hBy) h0
set_option maxHeartbeats 1000000 in
theorem ends_c (F : Fence) (hF : F.fn 77) (hro : F.round = none) (n M i : Nat) (w : World) : CallsIn F n Tryd.prog 77 #[.pointer (some ⟨M, 0, none⟩), .int .i64 i] w fun e w' =>
    e = .returned (.func (.func 98) #[] #[.pointer (some ⟨w.heap.size, 0, none⟩), .pointer (some ⟨w.heap.size + 1, 0, none⟩)]) ∧ w' = (w.alloc (.cells #[.pointer (some ⟨M, 0, none⟩)] 111)).alloc (.cells #[.int .i64 i] 3) := by
  refine callsIn_of_wp Tryd.func77 rfl hF ?_ hro
  simp only [Tryd.ntmps77, List.size_toArray, List.length_cons, List.length_nil, Nat.reduceAdd, Nat.reduceSub, Array.replicate_succ, Array.replicate_zero, List.push_toArray, List.append_toArray, List.nil_append, List.cons_append]
  gi_wp2
  go_ret
  exact ⟨rfl, rfl⟩
/-- What it hands on are the states of the chain. -/
theorem fall_chain {T : List (List Int)} (hT : Trie T) {bk : Nat → Nat} (hB : Backs T bk) : ∀ (k i : Nat), i < T.length → (pth T i).length < k → (fallN bk k i).map (pth T) = chain T (pth T i)
  | 0, _, _, h => absurd h (by omega)
  | k + 1, i, hi, h => by
    unfold fallN
    by_cases h0 : i = 0
    · subst h0
      rw [pth_at hT.root, if_pos rfl, List.map_cons, pth_at hT.root]; rfl
    · have hne : pth T i ≠ [] := fun e => h0 (hT.zero.1 (by rw [← e]; exact at_pth hi))
      have hb := hB i hi
      have hl := fb_len (T := T) hne
      rw [if_neg h0, List.map_cons, chain_cons hne, fall_chain hT hB k (bk i) (at_lt hb) (by rw [pth_at hb]; omega), pth_at hb]
theorem fall_mem {bk : Nat → Nat} {T : List (List Int)} (h : ∀ i, i < T.length → bk i < T.length) : ∀ (k i : Nat), i < T.length → ∀ j ∈ fallN bk k i, j < T.length
  | 0, _, _, j, hj => by cases hj
  | k + 1, i, hi, j, hj => by
    unfold fallN at hj
    rcases List.mem_cons.1 hj with rfl | hj
    · exact hi
    · split at hj
      · cases hj
      · exact fall_mem h k (bk i) (h i hi) j hj
theorem Mch.falls {P : Program} {k e te tm : TypeId} {base : Nat} {w : World} {M N : Nat} {v : Value} {T : List (List Int)} {sts : List S4} {bk : Nat → Nat} {rs : Nat → List Int} (h : Mch P k e te tm base w M v T N sts bk rs) (hT : Trie T) (hB : Backs T bk) : ∃ gS capS, v = .slice (some ⟨gS, 0, none⟩) T.length capS ∧ Falls w M gS capS T bk := by
  obtain ⟨g, cap, m, A, l, c, hv, _, _, hg, _⟩ := h.read 0 hT.pos
  obtain ⟨mc, _, ml⟩ := h.cell
  refine ⟨g, cap, hv, by rw [← hv]; exact mc, ml, hg, fun i hi => ?_, fun i hi => at_lt (hB i hi), fun i hi h0 => ?_⟩
  · obtain ⟨g', _, _, _, _, _, hv', _, _, _, _, c1, _⟩ := h.read i hi
    have : g = g' := by rw [hv] at hv'; injection hv' with e _ _; injection e with e; injection e with e _
    rw [this]; exact c1
  · have hne : pth T i ≠ [] := fun e => h0 (hT.zero.1 (by rw [← e]; exact at_pth hi))
    rw [pth_at (hB i hi)]; exact fb_len hne
end Go.Proofs.YtmpoihejacklnaaDoor
/- erratalaw08.great, errataref08.Is, the comparator of Hits. No condition. -/
namespace Go.Proofs.YtmpoihejacklnaaDoor
open Go Go.RowKit
/-- How many bytes rules have. -/
def bulkT (xs : List T3) : Nat := (xs.map fun b => b.f.size + b.t.size).sum
theorem bulkT_take (xs : List T3) (k : Nat) (h : k < xs.length) : bulkT (xs.take (k + 1)) = bulkT (xs.take k) + (xs[k].f.size + xs[k].t.size) := by
  unfold bulkT; rw [List.take_succ_eq_append_getElem h, List.map_append, List.sum_append]; simp
theorem bulkT_le {xs : List T3} (h : Small xs) : ∀ k, k ≤ xs.length → bulkT (xs.take k) ≤ k * 2097152
  | 0, _ => by simp [bulkT]
  | k + 1, hk => by
    have := bulkT_le h k (by omega)
    have h2 := h.at k (by omega)
    rw [bulkT_take xs k (by omega), Nat.add_mul]; omega
def great8 (xs : List T3) (s : ByteArray) : Bool := decide (200 < xs.length) || decide (3000 < s.size + bulkT xs)
def cmpH (a b : Nat × Nat) : Int := orL [cmpI a.1 b.1, cmpI a.2 b.2]
set_option maxRecDepth 100000 in
set_option maxHeartbeats 1000000 in
theorem hcmp_i (a1 a2 b1 b2 : Int) (w : World) : Calls Tryd.prog 79 #[.agg #[.int .i64 a1, .int .i64 a2], .agg #[.int .i64 b1, .int .i64 b2]] w (RetG w (.int .i64 (orL [cmpI a1 b1, cmpI a2 b2]))) := by
  go_enter Tryd.func79, Tryd.ntmps79
  go_wp2_with fail
  refine region_seqG [(0, true), (1, true), (2, true), (3, true), (5, true), (6, true), (7, true), (8, true), (4, false), (9, false), (10, false), (11, false), (12, true)] (by kernel_rfl) (by kernel_rfl) ?_
  have hG : Grw w ((w.alloc (.cells #[.int .i64 a1, .int .i64 a2] 118)).alloc (.cells #[.int .i64 b1, .int .i64 b2] 118)).drew := Gdn (Gal (Gal (Grw.refl _) _) _) 1
  have HG := Lib.hid hG
  clear hG
  iterate 8 (refine seq_q rfl (fun K hK => ?_); unfold takeQ; go_simp; refine hK _ ?_; clear hK K)
  refine seq_t rfl (fun K hK => ?_); go_simp; go_at_call 45; refine (cmpI_c a1 b1 _).mono ?_; rintro e w4 ⟨rfl, hw4⟩
  have HG4 : Hid (Grw w w4) := by show Grw w w4; rw [hw4]; exact HG.out
  have hb4 : Below ((w.alloc (.cells #[.int .i64 a1, .int .i64 a2] 118)).alloc (.cells #[.int .i64 b1, .int .i64 b2] 118)).drew.heap.size ((w.alloc (.cells #[.int .i64 a1, .int .i64 a2] 118)).alloc (.cells #[.int .i64 b1, .int .i64 b2] 118)).drew w4 := by rw [hw4]; exact Below.refl _ _
  have HB4 := Lib.hid hb4
  clear hw4 hb4
  go_simp
  refine hK _ _ (.of HB4.out) ?_; clear hK K
  refine seq_t rfl (fun K hK => ?_); go_simp; go_at_call 45; refine (cmpI_c a2 b2 _).mono ?_; rintro e w5 ⟨rfl, rfl⟩; go_simp; refine hK _ _ (.of HB4.out) ?_; clear hK K
  refine seq_t rfl (fun K hK => ?_); go_simp; refine hK _ _ (.of (Bal HB4.out _)) ?_; clear hK K
  refine seq_t rfl (fun K hK => ?_); go_simp; go_at_call 44
  refine (or_c _ _ [cmpI a1 b1, cmpI a2 b2] _ (SlA.new _ _ _ _ _ (by simp) _ rfl) (by simp)).mono ?_
  rintro e w6 ⟨rfl, rfl⟩
  go_simp
  refine hK _ _ (.of (Bal HB4.out _)) ?_; clear hK K
  refine seq_q rfl (fun K hK => ?_); unfold takeQ; go_simp; refine hK _ ?_; clear hK K
  refine seq_nil ?_
  rw [noP_normal]
  go_wp2
  go_ret
  exact ⟨rfl, Gal HG4.out _⟩
theorem hcmp_g (a b : Nat × Nat) (w : World) : Calls Tryd.prog 79 #[.agg #[.int .i64 a.1, .int .i64 a.2], .agg #[.int .i64 b.1, .int .i64 b.2]] w (RetG w (.int .i64 (cmpH a b))) := hcmp_i a.1 a.2 b.1 b.2 w
end Go.Proofs.YtmpoihejacklnaaDoor
/- errataref01's Compare and Same; errataref08's Stands and Hits. No condition. -/
namespace Go.Proofs.YtmpoihejacklnaaDoor
open Go Go.RowKit
theorem take_more {xs ys : List Int} {i : Nat} (h : xs.take i = ys.take i) (hx : i < xs.length) (hy : i < ys.length) (e : xs[i] = ys[i]) : xs.take (i + 1) = ys.take (i + 1) := by
  rw [List.take_succ_eq_append_getElem hx, List.take_succ_eq_append_getElem hy, h, e]
set_option maxRecDepth 100000 in
set_option maxHeartbeats 1000000 in
theorem r1cmp_c (A B : Option Addr) (c d : Nat) (xs ys : List Int) (w : World) (hs : SlA (eInt .i32) w A xs) (ht : SlA (eInt .i32) w B ys) (hl : xs.length ≤ 4294967296) (hm : ys.length ≤ 4294967296) :
    Calls Tryd.prog 107 #[.slice A xs.length c, .slice B ys.length d] w fun e w' => ∃ z : Int, e = .returned (.int .i64 z) ∧ (z = 0 ↔ xs = ys) ∧ Below w.heap.size w w' := by
  go_enter Tryd.func107, Tryd.ntmps107
  go_wp2
  go_loopw [5] (fun s wr => ∃ i : Nat, s = .int .i64 i ∧ i ≤ xs.length ∧ i ≤ ys.length ∧ Hid (xs.take i = ys.take i) ∧ Below w.heap.size w wr) (fun s _ => xs.length - (intOf s).toNat)
  case atStart => exact ⟨0, rfl, by omega, by omega, by show _ = _; simp, Bel⟩
  case round =>
    obtain ⟨i, rfl, hi, hj, HT, hb⟩ := hrel
    by_cases h1 : i < xs.length
    · by_cases h2 : i < ys.length
      · obtain ⟨b, o, rfl, x0⟩ := hs.at1 (fun _ => rfl) hb i h1
        obtain ⟨b', o', rfl, y0⟩ := ht.at1 (fun _ => rfl) hb i h2
        have h1' : (i : Int) < xs.length := by omega
        have h2' : (i : Int) < ys.length := by omega
        obtain ⟨x, hx⟩ : ∃ x, xs[i] = x := ⟨_, rfl⟩
        obtain ⟨y, hy⟩ : ∃ y, ys[i] = y := ⟨_, rfl⟩
        rw [hx] at x0
        rw [hy] at y0
        have HX := Lib.hid hx
        have HY := Lib.hid hy
        clear hx hy
        go_wp2_with fail
        refine region_seqP [(0, true), (1, true), (2, true), (3, true), (4, true), (5, true), (6, true), (7, true), (8, true)] (by kernel_rfl) (by kernel_rfl) ?_
        intro W hW
        obtain ⟨x1, y1⟩ := And.intro ((hW.cell (World.block_lt_of_cell? wr _ x0)).trans x0) ((hW.cell (World.block_lt_of_cell? wr _ y0)).trans y0)
        have hbW : Below w.heap.size w W := Bst hb hW
        clear x0 y0
        repeat (refine seq_q rfl (fun K hK => ?_); unfold takeQ; go_simp; refine hK _ ?_; clear hK K)
        refine seq_nil ?_
        rw [noP_normal]
        have hne : x ≠ y → ¬ xs = ys := fun h e => h (by rw [← HX.out, ← HY.out]; simp [e])
        by_cases h3 : x < y
        · have HN := Lib.hid hne
          clear hne
          go_wp2
          go_ret
          exact ⟨-1, rfl, ⟨fun h => absurd h (by decide), fun e => absurd e (HN.out (by omega))⟩, hbW⟩
        · have HN := Lib.hid hne
          clear hne
          go_wp2_with fail
          refine region_seqP [(0, true), (1, true), (2, true), (3, true), (4, true), (5, true), (6, true), (7, true), (8, true)] (by kernel_rfl) (by kernel_rfl) ?_
          intro W2 hW2
          obtain ⟨x2, y2⟩ := And.intro ((hW2.cell (World.block_lt_of_cell? W _ x1)).trans x1) ((hW2.cell (World.block_lt_of_cell? W _ y1)).trans y1)
          have hbW2 : Below w.heap.size w W2 := Bst hbW hW2
          clear x1 y1
          repeat (refine seq_q rfl (fun K hK => ?_); unfold takeQ; go_simp; refine hK _ ?_; clear hK K)
          refine seq_nil ?_
          rw [noP_normal]
          by_cases h4 : y < x
          · go_wp2
            go_ret
            exact ⟨1, rfl, ⟨fun h => absurd h (by decide), fun e => absurd e (HN.out (by omega))⟩, hbW2⟩
          · go_wp2
            refine ⟨⟨i + 1, by go_num, by omega, by omega, ?_, hbW2⟩, by simp [intOf]; omega⟩
            exact take_more HT.out h1 h2 (by rw [HX.out, HY.out]; omega)
      · have h1' : (i : Int) < xs.length := by omega
        have h2' : ¬ (i : Int) < ys.length := by omega
        have h3 : ¬ (xs.length : Int) < ys.length := by omega
        have h4 : (ys.length : Int) < xs.length := by omega
        have hne : Hid (¬ xs = ys) := fun e => by rw [e] at h4; omega
        go_wp2
        go_ret
        exact ⟨1, rfl, ⟨fun h => absurd h (by decide), fun e => absurd e hne.out⟩, hb⟩
    · have h1' : ¬ (i : Int) < xs.length := by omega
      by_cases h2 : (xs.length : Int) < ys.length
      · have hne : Hid (¬ xs = ys) := fun e => by rw [e] at h2; omega
        go_wp2
        go_ret
        exact ⟨-1, rfl, ⟨fun h => absurd h (by decide), fun e => absurd e hne.out⟩, hb⟩
      · have h3 : ¬ (ys.length : Int) < xs.length := by omega
        have he : Hid (xs = ys) := by
          have := HT.out
          rwa [List.take_of_length_le (by omega), List.take_of_length_le (by omega)] at this
        go_wp2
        go_ret
        exact ⟨0, rfl, ⟨fun _ => he.out, fun _ => rfl⟩, hb⟩
theorem r1same_c (A B : Option Addr) (c d : Nat) (xs ys : List Int) (w : World) (hs : SlA (eInt .i32) w A xs) (ht : SlA (eInt .i32) w B ys) (hl : xs.length ≤ 4294967296) (hm : ys.length ≤ 4294967296) :
    Calls Tryd.prog 89 #[.slice A xs.length c, .slice B ys.length d] w (Ret w (.bool (decide (xs = ys)))) := by
  go_enter Tryd.func89, Tryd.ntmps89
  go_wp2_with (go_at_call 107; refine (r1cmp_c A B c d xs ys _ hs ht hl hm).mono ?_; rintro e w2 ⟨z, rfl, hz, hb2⟩; have hzd : decide (xs = ys) = (z == 0) := (by rw [Bool.eq_iff_iff]; simp [hz]))
  go_ret
  exact ⟨by rw [hzd]; rfl, hb2⟩

theorem SlA.from {k : IntKind} {w : World} {B : Option Addr} {l : List Int} (h : SlA (eInt k) w B l) (n : Nat) : SlA (eInt k) w (Option.map (fun x => x.add n) B) (l.drop n) := by
  cases B with
  | none =>
    intro j x hx
    rw [List.getElem?_drop] at hx
    obtain ⟨_, _, hA, _⟩ := h _ x hx
    cases hA
  | some ad =>
    have := h.part n 1 rfl
    rwa [Nat.mul_one] at this
set_option maxRecDepth 100000 in
set_option maxHeartbeats 1000000 in
theorem stands_c (A B : Option Addr) (c d : Nat) (f l : List Int) (at' : Nat) (w : World) (hs : SlA (eInt .i32) w A f) (ht : SlA (eInt .i32) w B l) (hl : f.length ≤ 4294967296) (hm : l.length ≤ 4294967296) (hd : l.length ≤ d) (hd2 : d ≤ 9223372036854775807) (ha : at' ≤ 4294967296) :
    Calls Tryd.prog 60 #[.slice A f.length c, .slice B l.length d, .int .i64 at'] w (Ret w (.bool (decide (Stands f l at')))) := by
  by_cases h1 : at' + f.length ≤ l.length
  · have h1' : (at' : Int) + f.length ≤ l.length := by omega
    have h2 : (at' : Int) ≤ (at' : Int) + f.length := by omega
    have h3 : (at' : Int) + f.length ≤ d := by omega
    have hw := @IntWalk.i64_in
    go_enter Tryd.func60, Tryd.ntmps60
    go_wp2_with fail
    · have hf : f.length = 0 := by omega
      have hm0 : Hid (decide (Stands f l at') = decide (f = [])) := by
        show _ = _
        rw [List.eq_nil_of_length_eq_zero hf, Bool.eq_iff_iff]; simp [Stands]; omega
      have hcall := r1same_c A B c 0 f [] w hs SlA.nil hl (by simp)
      rw [show ([] : List Int).length = f.length by simp [hf]] at hcall
      refine hcall.mono ?_
      rintro e w2 ⟨rfl, hb2⟩
      go_wp2
      go_ret
      exact ⟨by rw [hm0.out]; rfl, hb2⟩
    · obtain ⟨m, hmm⟩ : ∃ m, (l.drop at').take f.length = m := ⟨_, rfl⟩
      have hml : m.length = f.length := by rw [← hmm]; simp; omega
      have hm0 : Hid (decide (Stands f l at') = decide (f = m)) := by
        show _ = _
        rw [Bool.eq_iff_iff]
        simp only [decide_eq_true_eq]
        unfold Stands
        rw [hmm]
        exact ⟨fun h => h.2.symm, fun h => ⟨h1, h.symm⟩⟩
      have hcall := r1same_c A (Option.map (fun x => x.add at') B) c (d - at') f m w hs (by rw [← hmm]; exact (ht.from at').take _) hl (by omega)
      rw [hml] at hcall
      replace hml := Lib.hid hml
      refine hcall.mono ?_
      rintro e w2 ⟨rfl, hb2⟩
      go_wp2
      go_ret
      exact ⟨by rw [hm0.out]; rfl, hb2⟩
  · have h1' : ¬ (at' : Int) + f.length ≤ l.length := by omega
    have HN : Hid (¬ Stands f l at') := fun h => h1 h.1
    go_enter Tryd.func60, Tryd.ntmps60
    go_wp2
    go_ret
    exact ⟨by simp [HN.out], Bel⟩
end Go.Proofs.YtmpoihejacklnaaDoor
/- Laying a From: how the machine grows in memory; put. No condition. -/
namespace Go.Proofs.YtmpoihejacklnaaDoor
open Go Go.RowKit
theorem pth_app {T : List (List Int)} {q : List Int} {j : Nat} (hj : j < T.length) : pth (T ++ [q]) j = pth T j := by unfold pth; rw [List.getElem?_append_left hj]
theorem pth_last (T : List (List Int)) (q : List Int) : pth (T ++ [q]) T.length = q := by unfold pth; simp
theorem pth_inj {T : List (List Int)} (h : T.Nodup) {i j : Nat} (hi : i < T.length) (hj : j < T.length) (e : pth T i = pth T j) : i = j := nodup_inj h (at_pth hi) (by rw [e]; exact at_pth hj)
theorem MchAt.mono {P : Program} {k e : TypeId} {base : Nat} {w : World} {T : List (List Int)} {N : Nat} {sts : List S4} {bk : Nat → Nat} {rs : Nat → List Int} (h : MchAt P k e base w T N sts bk rs) {N' : Nat} (hN : N ≤ N') : MchAt P k e base w T N' sts bk rs :=
  ⟨h.len, fun i hi => (h.on i hi).mono hN, h.bs, h.zs, h.rows, h.ms, h.apm, h.apr⟩
theorem Mch.mono {P : Program} {k e te tm : TypeId} {base : Nat} {w : World} {M : Nat} {v : Value} {T : List (List Int)} {N : Nat} {sts : List S4} {bk : Nat → Nat} {rs : Nat → List Int} (h : Mch P k e te tm base w M v T N sts bk rs) {N' : Nat} (hN : N ≤ N') : Mch P k e te tm base w M v T N' sts bk rs :=
  ⟨h.blk, h.ge, h.own, h.at'.mono hN⟩
/-- The state of a new beginning, as it is laid. -/
def newS (m : Nat) (z : Int) : S4 := ⟨m, 0, z, none, 0, 0⟩
section
variable {base : Nat} {w : World} {M N : Nat} {v : Value} {T : List (List Int)} {sts : List S4} {rs : Nat → List Int}
/-- The blocks of a machine's parts are apart. -/
theorem Mch.parts {bk : Nat → Nat} (h : MchP base w M v T N sts bk rs) (hT : 0 < T.length) : ∃ g cap, v = .slice (some ⟨g, 0, none⟩) T.length cap ∧ g ≠ M ∧ base ≤ g ∧ g < w.heap.size ∧ (∀ i (hi : i < sts.length), sts[i].m ≠ g ∧ sts[i].m ≠ M ∧ sts[i].m < w.heap.size) ∧
    (∀ i (hi : i < sts.length) b, sts[i].r.ownBlock = some b → b ≠ g ∧ b ≠ M ∧ b < w.heap.size ∧ ∀ j (hj : j < sts.length), b ≠ sts[j].m) := by
  obtain ⟨g, cap, hv, h1, h2, h3, h4, cur, h5⟩ := h.own.form (by rw [h.at'.len]; exact hT)
  rw [h.at'.len] at hv
  refine ⟨g, cap, hv, fun e => ?_, h1, h2, fun i hi => ⟨(h.at'.on i hi).ne_cells h5, (h.at'.on i hi).ne_cells h.blk, (h.at'.on i hi).lt⟩, fun i hi b hb => ?_⟩
  · subst e
    rw [h.blk] at h5
    injection h5 with h5
    injection h5 with _ h5
    exact absurd h5 (by decide)
  · obtain ⟨c, hc⟩ := (h.at'.rows i hi).cells hb
    refine ⟨fun e => ?_, fun e => ?_, (Array.getElem?_eq_some_iff.1 hc).1, fun j hj e => ?_⟩
    · subst e
      rw [hc] at h5
      injection h5 with h5
      injection h5 with _ h5
      exact absurd h5 (by decide)
    · subst e
      have h6 := h.blk
      rw [hc] at h6
      injection h6 with h6
      injection h6 with _ h6
      exact absurd h6 (by decide)
    · exact (h.at'.on j hj).ne_cells hc e.symm
/-- A beginning more. -/
theorem Mch.grow (h : MchP base w M v T N sts (fun _ => 0) rs) (hT : Trie T) (hb : base ≤ w.heap.size) (i : Nat) (hi : i < T.length) (r : Int) (hq : pth T i ++ [r] ∉ T) (mi : Nat) (hmi : ∀ h : i < sts.length, sts[i].m = mi)
    {w1 w4 : World} {v' : Value} (h1 : OnM Tryd.prog 21 3 w1 mi (N + 1) (fun y => if y = r then some T.length else idxP T (pth T i ++ [y]))) (g1 : w.grownBy w1 (some mi)) (cs : Array Value)
    (hO : Own eS4 base 141 w4 v' (sts ++ [newS w1.heap.size ((pth T i ++ [r]).length : Int)])) (g4 : ((w1.alloc (.map #[] 0)).alloc (.cells cs 141)).grownBy w4 v.ownBlock) (rs' : Nat → List Int) (hr1 : ∀ j, j < T.length → rs' j = rs j) (hr2 : rs' T.length = []) :
    MchP base (w4.setCell ⟨M, 0, none⟩ v') M v' (T ++ [pth T i ++ [r]]) (N + 1) (sts ++ [newS w1.heap.size ((pth T i ++ [r]).length : Int)]) (fun _ => 0) rs' ∧ Below base w (w4.setCell ⟨M, 0, none⟩ v') ∧ w.heap.size ≤ (w4.setCell ⟨M, 0, none⟩ v').heap.size ∧ ∀ g, v.ownBlock = some g → Kb w (w4.setCell ⟨M, 0, none⟩ v') [mi, g, M] := by
  obtain ⟨q, hqe⟩ : ∃ q, pth T i ++ [r] = q := ⟨_, rfl⟩
  rw [hqe] at hq hO ⊢
  have hlen := h.at'.len
  have hi' : i < sts.length := by omega
  have hm := hmi hi'
  obtain ⟨g, cap, rfl, hgM, hgb, hgl, hms, hrs⟩ := h.parts hT.pos
  obtain ⟨_, _, hMl⟩ := h.cell
  have hmil := hms i hi'
  rw [hm] at hmil
  have k1 : Kb w w1 [mi] := Kb.grown g1
  have k13 : Kb w1 ((w1.alloc (.map #[] 0)).alloc (.cells cs 141)) [] := Kb.below ((Below.refl _ _).alloc (Nat.le_refl _) _ |>.alloc (by simp) _)
  have k34 : Kb ((w1.alloc (.map #[] 0)).alloc (.cells cs 141)) w4 [g] := Kb.row g4 (fun k e => by simp only [Value.ownBlock, Option.some.injEq] at e; simp [e])
  have k45 : Kb w4 (w4.setCell ⟨M, 0, none⟩ v') [M] := Kb.grown ⟨rfl, rfl, rfl, by simp, fun k _ hne => Deep.blk_setCell_other w4 ⟨M, 0, none⟩ v' k (fun e => hne (by rw [e]))⟩
  have k15 : Kb w1 (w4.setCell ⟨M, 0, none⟩ v') ([] ++ [g] ++ [M]) := (k13.trans k34).trans k45
  have k05 : Kb w (w4.setCell ⟨M, 0, none⟩ v') ([mi] ++ ([] ++ [g] ++ [M])) := k1.trans k15
  have hs1 := g1.size
  have hmade : OnM Tryd.prog 21 3 (w4.setCell ⟨M, 0, none⟩ v') w1.heap.size (N + 1) (fun _ => none) := by
    refine (((OnM.made Tryd.prog 21 3 w1).mono (Nat.zero_le _)).kb (((Kb.below ((Below.refl _ _).alloc (Nat.le_refl _) (.cells cs 141))).trans k34).trans k45) ?_)
    simp; omega
  have hne : ∀ b, b ∉ [mi] ++ ([] ++ [g] ++ [M]) ↔ b ≠ mi ∧ b ≠ g ∧ b ≠ M := fun b => by simp
  have hne1 : ∀ b, b ∉ ([] ++ [g] ++ [M] : List Nat) ↔ b ≠ g ∧ b ≠ M := fun b => by simp
  have hM4 : w4.heap[M]? = some (.cells #[.slice (some ⟨g, 0, none⟩) T.length cap] 144 (0, 0)) := by
    have h6 := k13.trans k34
    refine (h6.block M (Nat.lt_of_lt_of_le hMl hs1) (by simp; exact fun e => hgM e.symm)).trans ?_
    exact (k1.block M hMl (by simp; exact fun e => hmil.2.1 e.symm)).trans h.blk
  have hOb : ∀ k, v'.ownBlock = some k → k ∉ [M] := fun k hk => by
    obtain ⟨c, hc⟩ := hO.cells hk
    intro e
    have e := List.mem_singleton.1 e
    subst e
    rw [hM4] at hc
    injection hc with hc
    injection hc with _ hc
    exact absurd hc (by decide)
  have hll : (sts ++ [newS w1.heap.size (q.length : Int)]).length = T.length + 1 := by simp [hlen]
  have old : ∀ j (hj : j < (sts ++ [newS w1.heap.size (q.length : Int)]).length), j < T.length → ∃ hj' : j < sts.length, (sts ++ [newS w1.heap.size (q.length : Int)])[j] = sts[j] := fun j hj hjT => ⟨by omega, List.getElem_append_left (by omega)⟩
  have new : ∀ j (hj : j < (sts ++ [newS w1.heap.size (q.length : Int)]).length), ¬ j < T.length → j = T.length ∧ (sts ++ [newS w1.heap.size (q.length : Int)])[j] = newS w1.heap.size (q.length : Int) := fun j hj hjT => by
    have e : j = T.length := by omega
    subst e
    refine ⟨rfl, ?_⟩
    rw [List.getElem_append_right (by omega)]
    simp [hlen]
  refine ⟨⟨?_, h.ge, hO.kb k45 hOb, ⟨by rw [hll]; simp, fun j hj => ?_, fun j hj => ?_, fun j hj => ?_, fun j hj => ?_, fun j hj => ?_, fun j l hj hl hjl => ?_, fun j l hj hl hjl b hb => ?_⟩⟩, ?_, k05.size, fun g' e => by cases e; exact k05⟩
  · rw [show w4.setCell ⟨M, 0, none⟩ v' = w4.setCell ⟨M, 0, none⟩ v' from rfl]
    exact (show Boxed w4 M _ _ from hM4).set v'
  · by_cases hjT : j < T.length
    · obtain ⟨hj', e⟩ := old j hj hjT
      rw [e, pth_app hjT]
      by_cases hji : j = i
      · subst hji
        rw [hm]
        refine (h1.kb k15 ((hne1 _).2 ⟨hmil.1, hmil.2.1⟩)).congr fun y => ?_
        rw [idxP_snoc hq]
        by_cases hy : y = r
        · rw [if_pos hy, if_pos (by rw [hy]; exact hqe)]
        · rw [if_neg hy, if_neg (fun e => hy (by rw [← hqe] at e; have := List.append_cancel_left e; injection this))]
      · refine (((h.at'.on j hj').mono (Nat.le_succ N)).kb k05 ((hne _).2 ⟨?_, (hms j hj').1, (hms j hj').2.1⟩)).congr fun y => ?_
        · rw [← hm]; exact h.at'.apm j i hj' hi' hji
        · rw [idxP_snoc hq, if_neg]
          intro e
          rw [← hqe] at e
          exact hji (pth_inj hT.nodup hjT hi (List.append_inj' e rfl).1)
    · obtain ⟨rfl, e⟩ := new j hj hjT
      rw [e, pth_last]
      refine hmade.congr fun y => ?_
      symm
      rw [idxP_none]
      intro hm
      rcases List.mem_append.1 hm with hm | hm
      · exact hq (hT.pre q y hm)
      · have := congrArg List.length (List.mem_singleton.1 hm)
        simp at this
  · by_cases hjT : j < T.length
    · obtain ⟨hj', e⟩ := old j hj hjT
      rw [e]; exact h.at'.bs j hj'
    · obtain ⟨_, e⟩ := new j hj hjT
      rw [e]; rfl
  · by_cases hjT : j < T.length
    · obtain ⟨hj', e⟩ := old j hj hjT
      rw [e, pth_app hjT]; exact h.at'.zs j hj'
    · obtain ⟨rfl, e⟩ := new j hj hjT
      rw [e, pth_last]; rfl
  · by_cases hjT : j < T.length
    · obtain ⟨hj', e⟩ := old j hj hjT
      rw [e, hr1 j hjT]
      refine (h.at'.rows j hj').kb k05 fun b hb => (hne b).2 ?_
      obtain ⟨q1, q2, _, q4⟩ := hrs j hj' b hb
      exact ⟨by rw [← hm]; exact q4 i hi', q1, q2⟩
    · obtain ⟨rfl, e⟩ := new j hj hjT
      rw [e, hr2]
      exact Own.nil _
  · by_cases hjT : j < T.length
    · obtain ⟨hj', e⟩ := old j hj hjT
      rw [e]; exact h.at'.ms j hj'
    · obtain ⟨_, e⟩ := new j hj hjT
      rw [e]
      show base ≤ w1.heap.size
      omega
  · by_cases hjT : j < T.length <;> by_cases hlT : l < T.length
    · obtain ⟨hj', e⟩ := old j hj hjT
      obtain ⟨hl', e'⟩ := old l hl hlT
      rw [e, e']; exact h.at'.apm j l hj' hl' hjl
    · obtain ⟨hj', e⟩ := old j hj hjT
      obtain ⟨_, e'⟩ := new l hl hlT
      rw [e, e']
      have := (hms j hj').2.2
      show sts[j].m ≠ w1.heap.size
      omega
    · obtain ⟨_, e⟩ := new j hj hjT
      obtain ⟨hl', e'⟩ := old l hl hlT
      rw [e, e']
      have := (hms l hl').2.2
      show w1.heap.size ≠ sts[l].m
      omega
    · omega
  · by_cases hjT : j < T.length
    · obtain ⟨hj', e⟩ := old j hj hjT
      rw [e] at hb
      by_cases hlT : l < T.length
      · obtain ⟨hl', e'⟩ := old l hl hlT
        rw [e']; exact h.at'.apr j l hj' hl' hjl b hb
      · obtain ⟨_, e'⟩ := new l hl hlT
        rw [e']; intro e; cases e
    · obtain ⟨_, e⟩ := new j hj hjT
      rw [e] at hb; cases hb
  · refine k05.to (fun b hb => ?_) ⟨rfl, rfl, rfl, Nat.le_refl _, fun _ _ => rfl⟩ hb
    simp only [List.nil_append, List.mem_append, List.mem_singleton] at hb
    rcases hb with rfl | rfl | rfl
    · rw [← hm]; exact h.at'.ms i hi'
    · exact hgb
    · exact h.ge
end
end Go.Proofs.YtmpoihejacklnaaDoor
