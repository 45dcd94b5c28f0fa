/- Parts of these proofs, one behind the other: RgX, Pr12, Pfe, TreX. No condition. -/
import Derived.Test.YtmpoihejacklnaaDoorP05
import Derived.Test.YtmpoihejacklnaaDoorP01
import Derived.Test.YtmpoihejacklnaaDoorP02
import Derived.StillTail
/- Range over an iterator that keeps a variable in a box of its own, where what is yielded is laid in a block of its own. No condition. -/
namespace Go.Proofs.YtmpoihejacklnaaDoor
open Go Go.RowKit
section
variable {F : Fence} {n : Nat} {P : Program} {w : World}
theorem rangeFunc_boxX {α : Type} {g : Operand} {ps : Array Tmp} {assign body : Code} {Q : Exit → Act → World → Prop} {a : Act}
    (hro : F.round = none) (h1 : 1 ≤ n) {gf : Nat} {lb : Array Value} (hg : a.eval g = .func (.func gf) #[] lb) (hFg : F.fn gf) (eg : ∀ args w, (callFunc gf args).run P w = .ok (.enter gf args) w)
    {encs : α → Array Value} {b : Nat} {Kp : World → World → Prop} {S Sp : List α → Prop} {Ok : List α → α → Prop} (hseq : SeqBox F (n - 1) P gf lb encs b Kp S Sp Ok w) (hbx : ∃ t v, Boxed w b t v)
    (hKt : ∀ {A B C : World}, Kp A B → Kp B C → Kp A C) (hKb : ∀ (W : World) (l : Nat) (o o' : Obj), w.heap.size ≤ l → W.heap[l]? = some o → o.isCells = false → o.isWalk = false → Kp W (W.putObj l o')) (hps : ∀ x, (encs x).size = ps.size)
    (I : List α → World → Prop) (Ix : Code → List α → World → Prop) (hI : OwnFrom w.heap.size I) (hIx : ∀ c, OwnFrom w.heap.size (Ix c)) (hIb : ∀ s A B, I s A → Own1 b A B → I s B) (hIxb : ∀ c s A B, Ix c s A → Own1 b A B → Ix c s B) (h0 : I [] w)
    (Ax : α → Act → World → Prop) (hAx : ∀ x a', OwnFrom w.heap.size (fun (_ : Unit) W => Ax x a' W))
    (hassign : ∀ (l : Nat) (pre : List α) (x : α) (W : World) (K : Act → World → Prop), I pre W → Ok pre x → (∀ a' W', KeepsFrom w.heap.size W W' → Kp W W' → I pre W' → Ax x a' W' → K a' W') →
      assign.wpIn (F.inRound l) (n - 1 - 1) P (Exit.then K (fun _ _ _ => False)) { tmps := (ps.zip (encs x)).foldl (fun t (p, v) => t.setIfInBounds p v) a.tmps, defers := [] } W)
    (hbody : ∀ (l : Nat) (pre : List α) (x : α) (a' : Act) (W : World), I pre W → Ok pre x → Ax x a' W → body.wpIn (F.inRound l) (n - 1 - 1) P (ownPostG w.heap.size Kp I Ix (pre ++ [x]) W) a' W)
    (hdone : ∀ (D : Nat) (xs : List α) (W : World), w.heap.size ≤ D → S xs → I xs W → W.heap[D]? = some (.deferred (some [])) → Q .normal { a with defers := { target := .collected D, args := #[] } :: a.defers } W)
    (hstop : ∀ (D : Nat) (c : Code) (pre : List α) (W : World), w.heap.size ≤ D → Sp pre → Ix c pre W → W.heap[D]? = some (.deferred (some [])) → c.wpIn F n P Q { a with defers := { target := .collected D, args := #[] } :: a.defers } W) :
    (Code.rangeFunc g ps assign body).wpIn F n P Q a w := by
  refine wpIn_rangeFunc ?_
  intro fn hfn
  rw [hro]
  let L : LoopState → Option Code → Obj := fun st pe => .loop { state := st, pending := pe, fn, tmps := a.tmps, params := ps, assign, body, defers := w.heap.size }
  let D := w.heap.size
  let l := w.heap.size + 1
  let W1 := (w.alloc (.deferred (some []))).alloc (L .ready none)
  have kl : W1.heap[l]? = some (L .ready none) := by have := World.alloc_heap_new (w.alloc (.deferred (some []))) (L .ready none); rwa [World.size_alloc] at this
  have kD : W1.heap[D]? = some (.deferred (some [])) := (Below.heap_alloc _ _ _ (by simp [D])).trans (World.alloc_heap_new w _)
  have hB1 : Below w.heap.size w W1 := ((Below.refl _ w).alloc (Nat.le_refl _) _).alloc (by simp) _
  obtain ⟨tb, vb, hbx⟩ := hbx
  have hBb : Boxed W1 b tb vb := (hbx.alloc _).alloc _
  refine ⟨l, [{ target := .collected D, args := #[] }], W1, { target := .fn (.func gf) lb, args := #[.func (.yield l) #[] #[]] }, W1, gf, #[.func (.yield l) #[] #[]] ++ lb, W1, run_enterLoop_outer _ _ _ _ _, ?_, ?_, ?_, fun _ => h1, ?_⟩
  · simp only [resolve, hg]; simp [go_sem]
  · intro f' hf'; simp [Target.leads] at hf'; subst hf'; exact hFg
  · simp [invoke, go_sem, eg]
  refine (hseq l (fun pre W => I pre W ∧ W.heap[l]? = some (L .ready none) ∧ W.heap[D]? = some (.deferred (some []))) (fun pre W => ∃ c, Ix c pre W ∧ W.heap[l]? = some (L .done (some c)) ∧ W.heap[D]? = some (.deferred (some []))) W1 hB1
    (fun s A B hs h => ⟨hIb s A B hs.1 h, own1_block h hs.2.1 rfl, own1_block h hs.2.2 rfl⟩) (fun s A B ⟨c, hs⟩ h => ⟨c, hIxb c s A B hs.1 h, own1_block h hs.2.1 rfl, own1_block h hs.2.2 rfl⟩) ⟨tb, vb, hBb, hbx⟩ ?_ ⟨hI.alloc _ (hI.alloc _ h0), kl, kD⟩).mono ?_
  · rintro pre x W0 ⟨hi0, hl0, hk0⟩ hlen
    have hlt0 : l < W0.heap.size := (Array.getElem?_eq_some_iff.1 hl0).1
    refine ⟨fn, _, assign, body, run_yield (P := P) (args := encs x) hl0 (hps x), roundIn_of_wpIn hfn (hassign _ pre x W0 _ hi0 hlen ?_)⟩
    intro a' W hkf hkp hi hax
    have hl := hkf.same l _ (by show w.heap.size ≤ w.heap.size + 1; omega) hl0 rfl
    have hk := hkf.same D _ (Nat.le_refl _) hk0 rfl
    have hlt : l < W.heap.size := (Array.getElem?_eq_some_iff.1 hl).1
    refine ⟨_, run_beginRound hl rfl, ?_⟩
    have hl2 := World.putObj_heap_same (w := W) (o := L .busy none) hlt
    have hk2 : (W.putObj l (L .busy none)).heap[D]? = some (.deferred (some [])) := (World.putObj_heap_other (by show w.heap.size ≠ w.heap.size + 1; omega)).trans hk
    have hw2 : Kp W (W.putObj l (L .busy none)) := hKb _ _ _ _ (by show w.heap.size ≤ w.heap.size + 1; omega) hl rfl rfl
    refine wpIn_mono (hbody _ pre x _ _ (hI.putObj _ hi (by show w.heap.size ≤ w.heap.size + 1; omega) hl rfl) hlen ((hAx x a').putObj (s := ()) _ hax (by show w.heap.size ≤ w.heap.size + 1; omega) hl rfl)) ?_
    have fin : ∀ (jump : Option Code) (W3 : World), KeepsFrom w.heap.size (W.putObj l (L .busy none)) W3 →
        (Instr.endRound l jump).run P W3 = .ok (.bool jump.isNone) (W3.putObj l (L (if jump.isNone then .ready else .done) jump)) ∧ W3.heap[l]? = some (L .busy none) ∧
        (W3.putObj l (L (if jump.isNone then .ready else .done) jump)).heap[l]? = some (L (if jump.isNone then .ready else .done) jump) ∧
        (W3.putObj l (L (if jump.isNone then .ready else .done) jump)).heap[D]? = some (.deferred (some [])) := fun jump W3 hk3 => by
      have hl3 := hk3.same _ _ (by show w.heap.size ≤ w.heap.size + 1; omega) hl2 rfl
      exact ⟨run_endRound (P := P) jump hl3, hl3, World.putObj_heap_same (Array.getElem?_eq_some_iff.1 hl3).1, (World.putObj_heap_other (by show w.heap.size ≠ w.heap.size + 1; omega)).trans (hk3.same _ _ (Nat.le_refl _) hk2 rfl)⟩
    have leave : ∀ (c : Code) (W3 : World), KeepsFrom w.heap.size (W.putObj l (L .busy none)) W3 → Ix c (pre ++ [x]) W3 → Ix c (pre ++ [x]) (W3.putObj l (L .done (some c))) := fun c W3 hk3 hi3 =>
      (hIx c).putObj _ hi3 (by show w.heap.size ≤ w.heap.size + 1; omega) (fin (some c) W3 hk3).2.1 rfl
    rintro e a3 W3 hp
    cases e with
    | normal =>
      obtain ⟨hr, hl3, hl4, hk4⟩ := fin none W3 hp.1
      exact ⟨_, _, hr, .inl ⟨rfl, ⟨hI.putObj _ hp.2.2 (by show w.heap.size ≤ w.heap.size + 1; omega) hl3 rfl, hl4, hk4⟩, hKt (hKt (hKt hkp hw2) hp.2.1) (hKb _ _ _ _ (by show w.heap.size ≤ w.heap.size + 1; omega) hl3 rfl rfl)⟩⟩
    | ret => exact ⟨_, _, (fin (some .ret) W3 hp.1).1, .inr ⟨rfl, .ret, leave .ret W3 hp.1 hp.2, (fin (some .ret) W3 hp.1).2.2⟩⟩
    | exit id => exact ⟨_, _, (fin (some (.exit id)) W3 hp.1).1, .inr ⟨rfl, .exit id, leave (.exit id) W3 hp.1 hp.2, (fin (some (.exit id)) W3 hp.1).2.2⟩⟩
    | goto t => exact ⟨_, _, (fin (some (.goto t)) W3 hp.1).1, .inr ⟨rfl, .goto t, leave (.goto t) W3 hp.1 hp.2, (fin (some (.goto t)) W3 hp.1).2.2⟩⟩
    | panic ch => exact hp.elim
    | outgrown => exact hp.elim
  · rintro e W2 ⟨⟨v, rfl⟩, (⟨xs, hS, hi, hl, hk⟩ | ⟨pre, hSp, c, hi, hl, hk⟩)⟩
    · exact ⟨none, _, run_endLoop (P := P) hl (by simp), hdone _ xs _ (Nat.le_refl _) hS (hI.putObj _ hi (by show w.heap.size ≤ w.heap.size + 1; omega) hl rfl) ((World.putObj_heap_other (by show w.heap.size ≠ w.heap.size + 1; omega)).trans hk)⟩
    · exact ⟨some c, _, run_endLoop (P := P) hl (by simp), hstop _ c pre _ (Nat.le_refl _) hSp ((hIx c).putObj _ hi (by show w.heap.size ≤ w.heap.size + 1; omega) hl rfl) ((World.putObj_heap_other (by show w.heap.size ≠ w.heap.size + 1; omega)).trans hk)⟩
/-- The same, the round's frame found by the walk of what assigns. -/
theorem rangeFunc_boxXE {α : Type} {g : Operand} {ps : Array Tmp} {assign body : Code} {Q : Exit → Act → World → Prop} {a : Act}
    (hro : F.round = none) (h1 : 1 ≤ n) {gf : Nat} {lb : Array Value} (hg : a.eval g = .func (.func gf) #[] lb) (hFg : F.fn gf) (eg : ∀ args w, (callFunc gf args).run P w = .ok (.enter gf args) w)
    {encs : α → Array Value} {b : Nat} {Kp : World → World → Prop} {S Sp : List α → Prop} {Ok : List α → α → Prop} (hseq : SeqBox F (n - 1) P gf lb encs b Kp S Sp Ok w) (hbx : ∃ t v, Boxed w b t v)
    (hKt : ∀ {A B C : World}, Kp A B → Kp B C → Kp A C) (hKb : ∀ (W : World) (l : Nat) (o o' : Obj), w.heap.size ≤ l → W.heap[l]? = some o → o.isCells = false → o.isWalk = false → Kp W (W.putObj l o')) (hps : ∀ x, (encs x).size = ps.size)
    (I : List α → World → Prop) (Ix : Code → List α → World → Prop) (hI : OwnFrom w.heap.size I) (hIx : ∀ c, OwnFrom w.heap.size (Ix c)) (hIb : ∀ s A B, I s A → Own1 b A B → I s B) (hIxb : ∀ c s A B, Ix c s A → Own1 b A B → Ix c s B) (h0 : I [] w)
    (Lx : α → Nat → World → Prop) (hLx : ∀ x b, OwnFrom w.heap.size (fun (_ : Unit) W => Lx x b W))
    (hab : ∃ a₁ : α → Nat → Act, (∀ (l : Nat) (pre : List α) (x : α) (W : World) (K : Act → World → Prop), I pre W → Ok pre x → (∀ b W', KeepsFrom w.heap.size W W' → Kp W W' → I pre W' → Lx x b W' → K (a₁ x b) W') →
      assign.wpIn (F.inRound l) (n - 1 - 1) P (Exit.then K (fun _ _ _ => False)) { tmps := (ps.zip (encs x)).foldl (fun t (p, v) => t.setIfInBounds p v) a.tmps, defers := [] } W) ∧
      (∀ (l : Nat) (pre : List α) (x : α) (b : Nat) (W : World), I pre W → Ok pre x → Lx x b W → body.wpIn (F.inRound l) (n - 1 - 1) P (ownPostG w.heap.size Kp I Ix (pre ++ [x]) W) (a₁ x b) W))
    (hdone : ∀ (D : Nat) (xs : List α) (W : World), w.heap.size ≤ D → S xs → I xs W → W.heap[D]? = some (.deferred (some [])) → Q .normal { a with defers := { target := .collected D, args := #[] } :: a.defers } W)
    (hstop : ∀ (D : Nat) (c : Code) (pre : List α) (W : World), w.heap.size ≤ D → Sp pre → Ix c pre W → W.heap[D]? = some (.deferred (some [])) → c.wpIn F n P Q { a with defers := { target := .collected D, args := #[] } :: a.defers } W) :
    (Code.rangeFunc g ps assign body).wpIn F n P Q a w := by
  obtain ⟨a₁, h2, h3⟩ := hab
  refine rangeFunc_boxX hro h1 hg hFg eg hseq hbx hKt hKb hps I Ix hI hIx hIb hIxb h0 (fun x a' W => ∃ b, a' = a₁ x b ∧ Lx x b W) (fun x a' u W W' row ⟨b, e, hl⟩ hg hr => ⟨b, e, hLx x b () W W' row hl hg hr⟩) ?_ ?_ hdone hstop
  · exact fun l pre x W K hi hok hK => h2 l pre x W K hi hok fun b W' k1 k2 k3 k4 => hK _ _ k1 k2 k3 ⟨b, rfl, k4⟩
  · rintro l pre x _ W hi hok ⟨b, rfl, hl⟩
    exact h3 l pre x b W hi hok hl
end
end Go.Proofs.YtmpoihejacklnaaDoor
/- errataref12.Price, Within: the price, whether it is in a budget. No condition. -/
namespace Go.Proofs.YtmpoihejacklnaaDoor
open Go Go.RowKit
theorem field_c (a b c d e f : Value) (w : World) : (Instr.field 69 (.agg #[a, b, c, d, e, f]) 5).run Tryd.prog w = .ok f w := by kernel_rfl
theorem price_cc (xs : List T3) (t v : ByteArray) (h : prcE xs t v = 0) : prcV xs t v = cc (rus xs) (rnS t) (rnS v) 0 0 := by unfold prcV; rw [if_pos h]; rfl
set_option maxRecDepth 100000 in
set_option maxHeartbeats 1000000 in
theorem rprice_c (A : Option Addr) (c : Nat) (xs : List T3) (t v : ByteArray) (w : World) (hs : SlA eT3 w A xs) (hm : Small xs) (hz : t.size ≤ 17592186044416) (hz2 : v.size ≤ 17592186044416) :
    Calls Tryd.prog 13 #[.slice A xs.length c, .string t, .string v] w (Ret w (.tuple #[.int .i64 (prcV xs t v), .int .i64 (prcE xs t v)])) := by
  by_cases h0 : prcE xs t v = 0
  · obtain ⟨k1, k2, k3⟩ := prcE_ok h0
    obtain ⟨_, a1, a2, a3⟩ := rn_ok k2
    obtain ⟨_, b1, b2, b3⟩ := rn_ok k3
    have HV := Lib.hid (price_cc xs t v h0)
    have H0 := Lib.hid h0
    have K1 := Lib.hid k1
    have A3 := Lib.hid a3
    have B3' := Lib.hid b3
    clear h0 k1 k2 k3 a3 b3
    go_enter Tryd.func13, Tryd.ntmps13
    go_wp2_with fail
    refine (r12chk_c A c xs t v _ (hs.below Bel) hm hz hz2).mono ?_
    rintro e w2 ⟨va, vb, rfl, hb2, h2⟩
    obtain ⟨⟨Aa, ca, rfl, p1, p2, p3⟩, ⟨Ab, cb, rfl, q1, q2, q3⟩⟩ := h2 H0.out
    rw [H0.out]
    clear h2
    go_wp2_with fail
    refine (rfill_c A Aa Ab c ca cb xs (rnS t) (rnS v) _ (hs.below (Bst Bel hb2)) hm p3 q3 p1 p2 q1 q2 a2 b2 A3.out B3'.out K1.out).mono ?_
    rintro e w3 ⟨F, cf, O, co, cN, cs, B, rfl, _, _, hM, hb3⟩
    obtain ⟨r, _, e1, e2⟩ := hM.at (i := 0) (j := 0) (Nat.le_refl _) (Nat.zero_le _) (Nat.zero_le _)
    rw [← HV.out] at e2
    have hfd := field_c
    go_wp2
    go_ret2
    rw [H0.out]
    exact ⟨rfl, Bst Bel (Bst hb2 hb3)⟩
  · have hv : prcV xs t v = 0 := by unfold prcV; rw [if_neg h0]
    have HV := Lib.hid hv
    obtain ⟨z, hz3⟩ : ∃ z, prcE xs t v = z := ⟨_, rfl⟩
    have hz0 : z ≠ 0 := hz3 ▸ h0
    have HZ := Lib.hid hz3
    clear h0 hv hz3
    go_enter Tryd.func13, Tryd.ntmps13
    go_wp2_with fail
    refine (r12chk_c A c xs t v _ (hs.below Bel) hm hz hz2).mono ?_
    rintro e w2 ⟨va, vb, rfl, hb2, _⟩
    rw [HZ.out]
    go_wp2
    go_ret2
    rw [HV.out, HZ.out]
    exact ⟨rfl, Bst Bel hb2⟩
set_option maxRecDepth 100000 in
set_option maxHeartbeats 1000000 in
theorem rwithin_c (A : Option Addr) (c : Nat) (xs : List T3) (t v : ByteArray) (b : Int) (w : World) (hs : SlA eT3 w A xs) (hm : Small xs) (hz : t.size ≤ 17592186044416) (hz2 : v.size ≤ 17592186044416) :
    Calls Tryd.prog 15 #[.slice A xs.length c, .string t, .string v, .int .i64 b] w (Ret w (.tuple #[.int .i64 (witV xs t v b), .int .i64 (witE xs t v b)])) := by
  have hp := fun W (hW : Below w.heap.size w W) => rprice_c A c xs t v W (hs.below hW) hm hz hz2
  have hle := prcV_le (xs := xs) (t := t) (w := v)
  by_cases h0 : prcE xs t v = 0
  · rw [h0] at hp
    by_cases h1 : b < 0 ∨ 4096 < b
    · have HE : Hid (witE xs t v b = 2) := by show _ = _; unfold witE; rw [if_neg (by simp [h0]), if_pos h1]
      have HV : Hid (witV xs t v b = 0) := by show _ = _; unfold witV; rw [HE.out, if_neg (by decide)]
      have HP := Lib.hid hp
      clear hp h0
      rcases h1 with h1 | h1
      · go_enter Tryd.func15, Tryd.ntmps15
        go_wp2_with fail
        refine (HP.out _ Bel).mono ?_
        rintro e w2 ⟨rfl, hb2⟩
        go_wp2
        go_ret2
        rw [HE.out, HV.out]
        exact ⟨rfl, Bst Bel hb2⟩
      · have h2 : ¬ b < 0 := by omega
        go_enter Tryd.func15, Tryd.ntmps15
        go_wp2_with fail
        refine (HP.out _ Bel).mono ?_
        rintro e w2 ⟨rfl, hb2⟩
        go_wp2
        go_ret2
        rw [HE.out, HV.out]
        exact ⟨rfl, Bst Bel hb2⟩
    · have h2 : ¬ b < 0 := by omega
      have h3 : ¬ 4096 < b := by omega
      by_cases h4 : b < (prcV xs t v : Int)
      · have HE : Hid (witE xs t v b = 10) := by show _ = _; unfold witE; rw [if_neg (by simp [h0]), if_neg h1, if_pos h4]
        have HV : Hid (witV xs t v b = 0) := by show _ = _; unfold witV; rw [HE.out, if_neg (by decide)]
        have HP := Lib.hid hp
        clear hp h0 h1
        go_enter Tryd.func15, Tryd.ntmps15
        go_wp2_with fail
        refine (HP.out _ Bel).mono ?_
        rintro e w2 ⟨rfl, hb2⟩
        go_wp2
        go_ret2
        rw [HE.out, HV.out]
        exact ⟨rfl, Bst Bel hb2⟩
      · have HE : Hid (witE xs t v b = 0) := by show _ = _; unfold witE; rw [if_neg (by simp [h0]), if_neg h1, if_neg h4]
        have HV : Hid (witV xs t v b = prcV xs t v) := by show _ = _; unfold witV; rw [HE.out, if_pos rfl]
        have HP := Lib.hid hp
        clear hp h0 h1
        go_enter Tryd.func15, Tryd.ntmps15
        go_wp2_with fail
        refine (HP.out _ Bel).mono ?_
        rintro e w2 ⟨rfl, hb2⟩
        go_wp2
        go_ret2
        rw [HE.out, HV.out]
        exact ⟨rfl, Bst Bel hb2⟩
  · have HE : Hid (witE xs t v b = prcE xs t v) := by show _ = _; unfold witE; rw [if_pos h0]
    have HV : Hid (witV xs t v b = 0) := by show _ = _; unfold witV; rw [HE.out, if_neg h0]
    obtain ⟨z, hz3⟩ : ∃ z, prcE xs t v = z := ⟨_, rfl⟩
    have hz0 : z ≠ 0 := hz3 ▸ h0
    rw [hz3] at hp HE
    have HP := Lib.hid hp
    clear hp h0 hz3
    go_enter Tryd.func15, Tryd.ntmps15
    go_wp2_with fail
    refine (HP.out _ Bel).mono ?_
    rintro e w2 ⟨rfl, hb2⟩
    go_wp2
    go_ret2
    rw [HE.out, HV.out]
    exact ⟨rfl, Bst Bel hb2⟩
end Go.Proofs.YtmpoihejacklnaaDoor
/- price.fill where rules, token, or word may not be. No condition. -/
namespace Go.Proofs.YtmpoihejacklnaaDoor
open Go Go.RowKit
theorem prcE_cases {xs : List T3} {t v : ByteArray} (h : prcE xs t v ≠ 0) : (isE xs ≠ 0 ∧ prcE xs t v = isE xs) ∨ (isE xs = 0 ∧ tkE t ≠ 0 ∧ prcE xs t v = tkE t) ∨ (isE xs = 0 ∧ tkE t = 0 ∧ tkE v ≠ 0 ∧ prcE xs t v = tkE v) := by
  unfold prcE pairE at *
  by_cases h1 : isE xs = 0
  · rw [if_pos h1] at h ⊢
    by_cases h2 : tkE t = 0
    · have e : (if tkE (⟨t, v⟩ : P2).n = 0 then tkE (⟨t, v⟩ : P2).t else tkE (⟨t, v⟩ : P2).n) = tkE v := if_pos h2
      rw [e] at h ⊢
      exact .inr (.inr ⟨h1, h2, h, rfl⟩)
    · have e : (if tkE (⟨t, v⟩ : P2).n = 0 then tkE (⟨t, v⟩ : P2).t else tkE (⟨t, v⟩ : P2).n) = tkE t := if_neg h2
      rw [e] at h ⊢
      exact .inr (.inl ⟨h1, h2, rfl⟩)
  · rw [if_neg h1] at h ⊢
    exact .inl ⟨h1, rfl⟩
set_option maxRecDepth 100000 in
set_option maxHeartbeats 1000000 in
theorem pfill_err (A : Option Addr) (c : Nat) (xs : List T3) (t v : ByteArray) (w : World) (hU : U w) (hs : SlA eT3 w A xs) (hm : Small xs) (hz : t.size ≤ 17592186044416) (hz2 : v.size ≤ 17592186044416) (h0 : prcE xs t v ≠ 0) :
    Calls Tryd.prog 26 #[.slice A xs.length c, .string t, .string v] w (Ret w (.tuple #[.pointer none, .int .i64 (prcE xs t v)])) := by
  have C1 := fun W hW => is_c A c xs W (hU.to hW) (hs.below hW) hm
  have C2 := fun W hW => tk_c t W (hU.to hW) hz
  have C3 := fun W hW => tk_c v W (hU.to hW) hz2
  rcases prcE_cases h0 with ⟨h1, e1⟩ | ⟨h1, h2, e1⟩ | ⟨h1, h2, h3, e1⟩
  · rw [e1]
    obtain ⟨z, hz3⟩ : ∃ z, isE xs = z := ⟨_, rfl⟩
    rw [hz3] at C1 h1 ⊢
    clear h0 e1 hz3
    go_enter Tryd.func26, Tryd.ntmps26
    go_wp2
    go_step3
    go_wp2_with fail
    refine (C1 _ (Below.refl _ _)).mono ?_
    rintro e w2 ⟨rfl, hb2⟩
    go_wp2
    try rw [Exit.noGoto_ret]
    go_ret2
    exact ⟨rfl, hb2⟩
  · rw [e1]
    have HZ := fun W h => Lib.hid (C2 W h)
    obtain ⟨z, hz3⟩ : ∃ z, tkE t = z := ⟨_, rfl⟩
    have hz0 : z ≠ 0 := hz3 ▸ h2
    have HZ3 := Lib.hid hz3
    rw [h1] at C1
    rw [hz3]
    clear h0 e1 hz3 h1 h2
    go_enter Tryd.func26, Tryd.ntmps26
    go_wp2
    go_step3
    go_wp2_with fail
    refine (C1 _ (Below.refl _ _)).mono ?_
    rintro e w2 ⟨rfl, hb2⟩
    go_wp2_with fail
    refine (C2 _ hb2).mono ?_
    rintro e w3 ⟨hb3, _, h3⟩
    obtain rfl := h3 (by rw [HZ3.out]; exact hz0)
    rw [HZ3.out]
    clear h3
    go_wp2
    try rw [Exit.noGoto_ret]
    go_ret2
    exact ⟨rfl, Bst hb2 hb3⟩
  · rw [e1]
    have H2 := Lib.hid h2
    obtain ⟨z, hz3⟩ : ∃ z, tkE v = z := ⟨_, rfl⟩
    have hz0 : z ≠ 0 := hz3 ▸ h3
    have HZ3 := Lib.hid hz3
    rw [h1] at C1
    rw [hz3]
    clear h0 e1 hz3 h1 h2 h3
    go_enter Tryd.func26, Tryd.ntmps26
    go_wp2
    go_step3
    go_wp2_with fail
    refine (C1 _ (Below.refl _ _)).mono ?_
    rintro e w2 ⟨rfl, hb2⟩
    go_wp2_with fail
    refine (C2 _ hb2).mono ?_
    rintro e w3 ⟨hb3, h3, _⟩
    obtain ⟨v3, l3, _, _, _, rfl, hO3⟩ := h3 H2.out
    obtain ⟨A3, c3, rfl, _, _, _⟩ := hO3.slv
    clear h3 hO3
    go_wp2_with fail
    refine (C3 _ (Bst hb2 hb3)).mono ?_
    rintro e w4 ⟨hb4, _, h4⟩
    obtain rfl := h4 (by rw [HZ3.out]; exact hz0)
    rw [HZ3.out]
    clear h4
    go_wp2
    try rw [Exit.noGoto_ret]
    go_ret2
    exact ⟨rfl, Bst hb2 (Bst hb3 hb4)⟩
end Go.Proofs.YtmpoihejacklnaaDoor
/- A region that draws its order, in an order of one's own, where blocks may be turned: some from the start, more of them once one operation is done. No condition. -/
namespace Go.Proofs.YtmpoihejacklnaaDoor
open Go Go.RowKit
inductive OX where
  | nil
  | q (i : Nat) (r : OX)
  | p (i : Nat) (r : OX)
  | t (i : Nat) (r : OX)
def OX.deep : OX → Nat
  | nil => 0
  | q _ r => r.deep + 1
  | p _ r => r.deep + 1
  | t _ r => r.deep + 1
def OX.okB (ops : Array Oper) (s : Nat) : OX → Bool → Array Bool → Bool
  | nil, _, listed => (Region.ready .any ops listed).isEmpty
  | q i r, sw, listed => !sw && decide (i ≠ s) && Region.waitsFor .any ops s i && (Region.ready .any ops listed).contains i && Region.free .any ops listed i && r.okB ops s sw (listed.setIfInBounds i true)
  | p i r, sw, listed => decide (i ≠ s) && (Region.ready .any ops listed).contains i && Region.free .any ops listed i && r.okB ops s sw (listed.setIfInBounds i true)
  | t i r, sw, listed => decide (Region.ready .any ops listed = [i]) && r.okB ops s (sw || decide (i = s)) (listed.setIfInBounds i true)
section
variable {P : Program} {ops : Array Oper} {S S2 : List Nat}
def wpAnyX (P : Program) (ops : Array Oper) (Q : Exit → Act → World → Prop) (C : Array Bool → World → Prop) : Nat → Array Bool → Act → World → Prop
  | 0, listed, a, w => Region.ready .any ops listed = [] ∧ Q .normal a w
  | f + 1, listed, a, w => (Region.ready .any ops listed = [] → Q .normal a w) ∧ ∀ i ∈ Region.ready .any ops listed, wpOp P ops Q i (fun a' w' => C (listed.setIfInBounds i true) w' ∧ wpAnyX P ops Q C f (listed.setIfInBounds i true) a' w') a w
theorem wpAny_of_X {Q : Exit → Act → World → Prop} {C : Array Bool → World → Prop} : ∀ (f : Nat) (listed : Array Bool) (a : Act) (w : World), wpAnyX P ops Q C f listed a w → wpAny P .any ops Q f listed a w
  | 0, _, _, _, h => h
  | f + 1, _, _, _, h => ⟨h.1, fun i hi => wpOp_mono (fun a' w' h' => wpAny_of_X f _ a' w' h'.2) (h.2 i hi)⟩
theorem wpAnyX_first {Q : Exit → Act → World → Prop} {C : Array Bool → World → Prop} {D : World → Prop} {i : Nat} {oi : Oper} {v : Value} (hi : ops[i]? = some oi) (hsel : ∀ (j : Nat) (o : Oper) cs b, ops[j]? = some o → o.op ≠ .select cs b)
    (hQ : ∀ c a w, Q (.panic c) (a.put oi.dst v) w → Q (.panic c) a w)
    (hD : ∀ listed w, HeadInv .any ops ops.size listed → listed.getD i true = false → C listed w → D w) (hCi : ∀ listed w, C listed w → C (listed.setIfInBounds i true) w) (hCi' : ∀ listed w, C (listed.setIfInBounds i true) w → C listed w) :
    ∀ (f : Nat) (listed : Array Bool) (a : Act) (w : World), HeadInv .any ops ops.size listed →
      (∀ j oj, ops[j]? = some oj → j ≠ i → listed.getD j true = false → (∀ e ∈ oj.after, Region.binds .any e = true → e.on ≠ i) → oi.apart ops oj = true) →
      i ∈ Region.ready .any ops listed → YieldsIf P ops D oi v a → C listed w →
      wpAnyX P ops Q C f (listed.setIfInBounds i true) (a.put oi.dst v) w → wpAnyX P ops Q C (f + 1) listed a w := by
  intro f
  induction f with
  | zero =>
    intro listed a w inv _ hr hy hC H
    have hun := (mem_ready.1 hr).1
    refine ⟨fun h => (by rw [h] at hr; cases hr), fun j hj => ?_⟩
    by_cases hji : j = i
    · subst hji; exact hy.wpOp hi (hD _ _ inv hun hC) ⟨hCi _ _ hC, H⟩
    · have := ready_mono hj hji
      rw [H.1] at this; cases this
  | succ f ih =>
    intro listed a w inv hfree hr hy hC H
    have hun := (mem_ready.1 hr).1
    refine ⟨fun h => (by rw [h] at hr; cases hr), fun j hj => ?_⟩
    by_cases hji : j = i
    · subst hji; exact hy.wpOp hi (hD _ _ inv hun hC) ⟨hCi _ _ hC, H⟩
    · have h1 := H.2 j (ready_mono hj hji)
      obtain ⟨hjun, oj, hoj, hall⟩ := mem_ready.1 hj
      have hjn : j < ops.size := (Array.getElem?_eq_some_iff.1 hoj).1
      have hnot : ∀ e ∈ oj.after, Region.binds .any e = true → e.on ≠ i := fun e he hb heq => by
        have h1 := hall e he hb
        rw [heq, getD_both hun] at h1
        cases h1
      have h2 := wpOp_putIf hoj (hfree j oj hoj hji hjun hnot) (fun cs b => hsel i oi cs b hi) (fun cs b => hsel j oj cs b hoj) hQ hy h1
      have hfree' : ∀ k ok, ops[k]? = some ok → k ≠ i → (listed.setIfInBounds j true).getD k true = false →
          (∀ e ∈ ok.after, Region.binds .any e = true → e.on ≠ i) → oi.apart ops ok = true := fun k ok hk hki hun hno => by
        refine hfree k ok hk hki ?_ hno
        by_cases hjk : j = k
        · subst hjk; exact hjun
        · rw [getD_set_ne true hjk] at hun; exact hun
      refine wpOp_mono (fun a' w' h3 => ?_) h2
      have e : (listed.setIfInBounds i true).setIfInBounds j true = (listed.setIfInBounds j true).setIfInBounds i true := Array.setIfInBounds_comm _ _ (fun h => hji h.symm)
      have hC2 : C (listed.setIfInBounds j true) w' := hCi' _ _ (e ▸ h3.2.1)
      exact ⟨hC2, ih (listed.setIfInBounds j true) a' w' (inv.set hj hjn) hfree' (ready_mono hr (Ne.symm hji)) h3.1 hC2 (e ▸ h3.2.2)⟩
/-- The class: more blocks may be turned once s is done. -/
def clsX (w0 : World) (S S2 : List Nat) (s : Nat) (listed : Array Bool) (w : World) : Prop := (listed.getD s false = false → ExtS w0 S w) ∧ ExtS w0 (S ++ S2) w
theorem clsX_set {w0 : World} {s i : Nat} (h : i ≠ s) (listed : Array Bool) (w : World) : clsX w0 S S2 s (listed.setIfInBounds i true) w ↔ clsX w0 S S2 s listed w := by
  unfold clsX
  rw [getD_set_ne false h]
def wpTrX (P : Program) (ops : Array Oper) (w0 : World) (S S2 : List Nat) (s : Nat) (Q : Exit → Act → World → Prop) : OX → Bool → Act → World → Prop
  | .nil, _, a, w => Q .normal a w
  | .q i r, sw, a, w => match ops[i]? with
    | none => False
    | some o => takeS P ops w0 S o a (fun a' => wpTrX P ops w0 S S2 s Q r sw a' w)
  | .p i r, sw, a, w => match ops[i]? with
    | none => False
    | some o => takeS P ops w0 (S ++ S2) o a (fun a' => wpTrX P ops w0 S S2 s Q r sw a' w)
  | .t i r, sw, a, w => match ops[i]? with
    | none => False
    | some o => if Region.wanted o (yielded ops a.tmps) then o.wp P a w (fun a' w' => ExtS w0 (if sw || decide (i = s) then S ++ S2 else S) w' ∧ wpTrX P ops w0 S S2 s Q r (sw || decide (i = s)) a' w') Q else wpTrX P ops w0 S S2 s Q r (sw || decide (i = s)) (a.put o.dst undef) w
theorem ExtS.more {w0 w : World} (h : ExtS w0 S w) : ExtS w0 (S ++ S2) w := by
  obtain ⟨X, rfl⟩ := h
  exact .of (X.h.weak fun s hs => List.mem_append.2 (.inl hs))
theorem wpAnyX_of_tree {w0 : World} {s : Nat} {Q : Exit → Act → World → Prop} (hsel : Region.noSelect ops = true) (hQ : ∀ c a d v w, Q (.panic c) (Act.put a d v) w → Q (.panic c) a w) :
    ∀ (l : OX) (sw : Bool) (listed : Array Bool) (a : Act) (w : World), (sw = false → listed.getD s false = false) → (sw = false → ExtS w0 S w) → ExtS w0 (S ++ S2) w → HeadInv .any ops ops.size listed → (sw = true → listed.getD s false = true) → l.okB ops s sw listed = true → wpTrX P ops w0 S S2 s Q l sw a w →
      wpAnyX P ops Q (clsX w0 S S2 s) l.deep listed a w
  | .nil, _, listed, a, w, _, _, _, _, _, hB, h => by
    have h0 : Region.ready .any ops listed = [] := by simpa [OX.okB] using hB
    exact ⟨h0, by simpa only [wpTrX] using h⟩
  | .q i r, sw, listed, a, w, h1, h2, h3, inv, h5, hB, h => by
    simp only [OX.okB, Bool.and_eq_true, decide_eq_true_eq, Bool.not_eq_true'] at hB
    obtain ⟨⟨⟨⟨⟨hsw, his⟩, hwf⟩, hr⟩, hf⟩, hB⟩ := hB
    subst hsw
    simp only [wpTrX] at h
    have hr' : i ∈ Region.ready .any ops listed := by simpa using hr
    cases ho : ops[i]? with
    | none => rw [ho] at h; exact h.elim
    | some o =>
      rw [ho] at h
      simp only [takeS] at h
      have hD : ∀ (listed : Array Bool) (w : World), HeadInv .any ops ops.size listed → listed.getD i true = false → clsX w0 S S2 s listed w → ExtS w0 S w := fun listed' w' inv' hun hc => hc.1 (by
        cases hl : listed'.getD s false with
        | false => rfl
        | true =>
          obtain ⟨oj, hoj, e, he, hb, hon⟩ := Region.waitsFor_spec hwf
          have h2 := inv'.closed s oj hoj hl e he hb
          rw [hon, getD_both hun] at h2
          cases h2)
      have hls : ∀ sw', sw' = false → (listed.setIfInBounds i true).getD s false = false := fun _ _ => by rw [getD_set_ne false his]; exact h1 rfl
      have hin : i < ops.size := (Array.getElem?_eq_some_iff.1 ho).1
      by_cases hw : Region.wanted o (yielded ops a.tmps) = true
      · rw [if_pos hw] at h
        obtain ⟨v, k1, k2⟩ := h
        exact wpAnyX_first ho (Region.noSelect_spec hsel) (fun c a w => hQ c a _ _ w) hD (fun l w => (clsX_set his l w).2) (fun l w => (clsX_set his l w).1) r.deep listed a w inv (Region.free_spec ho hf) hr'
          (.inl ⟨hw, fun W hW => by obtain ⟨X, rfl⟩ := hW; exact k1 X⟩) ⟨fun _ => h2 rfl, h3⟩ (wpAnyX_of_tree hsel hQ r false _ _ w (hls _) h2 h3 (inv.set hr' hin) (fun h => by cases h) hB k2)
      · rw [if_neg hw] at h
        exact wpAnyX_first ho (Region.noSelect_spec hsel) (fun c a w => hQ c a _ _ w) hD (fun l w => (clsX_set his l w).2) (fun l w => (clsX_set his l w).1) r.deep listed a w inv (Region.free_spec ho hf) hr'
          (.inr ⟨by simpa using hw, rfl⟩) ⟨fun _ => h2 rfl, h3⟩ (wpAnyX_of_tree hsel hQ r false _ _ w (hls _) h2 h3 (inv.set hr' hin) (fun h => by cases h) hB h)
  | .p i r, sw, listed, a, w, h1, h2, h3, inv, h5, hB, h => by
    simp only [OX.okB, Bool.and_eq_true, decide_eq_true_eq] at hB
    obtain ⟨⟨⟨his, hr⟩, hf⟩, hB⟩ := hB
    simp only [wpTrX] at h
    have hr' : i ∈ Region.ready .any ops listed := by simpa using hr
    cases ho : ops[i]? with
    | none => rw [ho] at h; exact h.elim
    | some o =>
      rw [ho] at h
      simp only [takeS] at h
      have hD : ∀ (listed : Array Bool) (w : World), HeadInv .any ops ops.size listed → listed.getD i true = false → clsX w0 S S2 s listed w → ExtS w0 (S ++ S2) w := fun listed' w' inv' hun hc => hc.2
      have hls : sw = false → (listed.setIfInBounds i true).getD s false = false := fun h => by rw [getD_set_ne false his]; exact h1 h
      have hls2 : sw = true → (listed.setIfInBounds i true).getD s false = true := fun h => by rw [getD_set_ne false his]; exact h5 h
      have hin : i < ops.size := (Array.getElem?_eq_some_iff.1 ho).1
      have hcl1 : listed.getD s false = false → ExtS w0 S w := fun hl => by
        cases sw with
        | false => exact h2 rfl
        | true => rw [h5 rfl] at hl; cases hl
      have hcl : clsX w0 S S2 s listed w := ⟨hcl1, h3⟩
      by_cases hw : Region.wanted o (yielded ops a.tmps) = true
      · rw [if_pos hw] at h
        obtain ⟨v, k1, k2⟩ := h
        exact wpAnyX_first ho (Region.noSelect_spec hsel) (fun c a w => hQ c a _ _ w) hD (fun l w => (clsX_set his l w).2) (fun l w => (clsX_set his l w).1) r.deep listed a w inv (Region.free_spec ho hf) hr'
          (.inl ⟨hw, fun W hW => by obtain ⟨X, rfl⟩ := hW; exact k1 X⟩) hcl (wpAnyX_of_tree hsel hQ r sw _ _ w hls h2 h3 (inv.set hr' hin) hls2 hB k2)
      · rw [if_neg hw] at h
        exact wpAnyX_first ho (Region.noSelect_spec hsel) (fun c a w => hQ c a _ _ w) hD (fun l w => (clsX_set his l w).2) (fun l w => (clsX_set his l w).1) r.deep listed a w inv (Region.free_spec ho hf) hr'
          (.inr ⟨by simpa using hw, rfl⟩) hcl (wpAnyX_of_tree hsel hQ r sw _ _ w hls h2 h3 (inv.set hr' hin) hls2 hB h)
  | .t i r, sw, listed, a, w, h1, h2, h3, inv, h5, hB, h => by
    simp only [OX.okB, Bool.and_eq_true, decide_eq_true_eq] at hB
    obtain ⟨hr, hB⟩ := hB
    simp only [wpTrX] at h
    have hr' : i ∈ Region.ready .any ops listed := by rw [hr]; simp
    refine ⟨fun h => (by rw [h] at hr'; cases hr'), fun j hj => ?_⟩
    obtain rfl : j = i := by rw [hr] at hj; simpa using hj
    cases ho : ops[j]? with
    | none => rw [ho] at h; exact h.elim
    | some o =>
      rw [ho] at h
      have hin : j < ops.size := (Array.getElem?_eq_some_iff.1 ho).1
      have ls : (sw || decide (j = s)) = false → (listed.setIfInBounds j true).getD s false = false := fun h => by
        simp only [Bool.or_eq_false_iff, decide_eq_false_iff_not] at h
        rw [getD_set_ne false h.2]; exact h1 h.1
      have ls2 : (sw || decide (j = s)) = true → (listed.setIfInBounds j true).getD s false = true := fun h => by
        simp only [Bool.or_eq_true, decide_eq_true_eq] at h
        rcases h with h | h
        · exact getD_set_true (h5 h)
        · subst h
          have : j < listed.size := by rw [inv.size]; exact hin
          simp [this]
      have fin : ∀ a' w', ExtS w0 (if sw || decide (j = s) then S ++ S2 else S) w' → wpTrX P ops w0 S S2 s Q r (sw || decide (j = s)) a' w' → clsX w0 S S2 s (listed.setIfInBounds j true) w' ∧ wpAnyX P ops Q (clsX w0 S S2 s) r.deep (listed.setIfInBounds j true) a' w' := fun a' w' k1 k2 => by
        have e2 : ExtS w0 (S ++ S2) w' := by
          split at k1
          · exact k1
          · exact k1.more
        have e1 : (sw || decide (j = s)) = false → ExtS w0 S w' := fun h => by rw [h] at k1; simpa using k1
        have e3 : (listed.setIfInBounds j true).getD s false = false → ExtS w0 S w' := fun hl => by
          cases hq : (sw || decide (j = s)) with
          | false => exact e1 hq
          | true => rw [ls2 hq] at hl; cases hl
        exact ⟨⟨e3, e2⟩, wpAnyX_of_tree hsel hQ r _ _ a' w' ls e1 e2 (inv.set hr' hin) ls2 hB k2⟩
      unfold wpOp
      rw [ho]
      dsimp only at h ⊢
      by_cases hw : Region.wanted o (yielded ops a.tmps) = true
      · rw [if_pos hw] at h ⊢
        exact .inl (Oper.wp_mono (fun a' w' h' => fin a' w' h'.1 h'.2) h)
      · rw [if_neg hw] at h ⊢
        refine fin _ _ ?_ h
        by_cases hq : (sw || decide (j = s)) = true
        · rw [if_pos hq]; exact h3
        · rw [if_neg hq]; exact h2 (by simp only [Bool.not_eq_true, Bool.or_eq_false_iff] at hq; exact hq.1)
theorem region_treeX {id : Nat} {Q : Exit → Act → World → Prop} {a : Act} {w : World} (S S2 : List Nat) (s : Nat) (L : OX) (hm : P.follows .mixedOrders = true) (hB : (Region.noSelect ops && decide (L.deep = ops.size) && L.okB ops s false (Array.replicate ops.size false)) = true)
    (h : ∀ W, Below w.heap.size w W → wpTrX P ops W S S2 s (noP Q) L false a W) : (Code.region id ops true).wp P Q a w := by
  refine wp_mono (Q := noP Q) ?_ noP_le
  have h := h w.drew (Below.refl _ w).drew
  simp only [Bool.and_eq_true, decide_eq_true_eq] at hB
  obtain ⟨⟨hsel, hl⟩, hB⟩ := hB
  refine wp_region_any hm ?_
  have inv0 : HeadInv .any ops ops.size (Array.replicate ops.size false) :=
    ⟨by simp, fun j oj _ hl => (by rw [getD_replicate_false] at hl; cases hl), fun t ht ht' => by omega⟩
  have h' := wpAnyX_of_tree hsel (fun _ _ _ _ _ h => h.elim) L false _ a _ (fun _ => getD_replicate_false _ _) (fun _ => .of (Kb.refl _ _)) (.of (Kb.refl _ _)) inv0 (fun h => by cases h) hB h
  rw [hl] at h'
  exact wpAny_of_X _ _ _ _ h'
theorem trX_nil {w0 : World} {s : Nat} {Q : Exit → Act → World → Prop} {sw : Bool} {a : Act} {w : World} (h : Q .normal a w) : wpTrX P ops w0 S S2 s Q .nil sw a w := by simp only [wpTrX]; exact h
theorem trX_q {w0 : World} {s : Nat} {Q : Exit → Act → World → Prop} {sw : Bool} {a : Act} {w : World} {i : Nat} {r : OX} {o : Oper} (ho : ops[i]? = some o)
    (h : ∀ K : Act → Prop, (∀ a', wpTrX P ops w0 S S2 s Q r sw a' w → K a') → takeS P ops w0 S o a K) : wpTrX P ops w0 S S2 s Q (.q i r) sw a w := by
  simp only [wpTrX, ho]
  exact h _ fun _ h => h
theorem trX_p {w0 : World} {s : Nat} {Q : Exit → Act → World → Prop} {sw : Bool} {a : Act} {w : World} {i : Nat} {r : OX} {o : Oper} (ho : ops[i]? = some o)
    (h : ∀ K : Act → Prop, (∀ a', wpTrX P ops w0 S S2 s Q r sw a' w → K a') → takeS P ops w0 (S ++ S2) o a K) : wpTrX P ops w0 S S2 s Q (.p i r) sw a w := by
  simp only [wpTrX, ho]
  exact h _ fun _ h => h
theorem trX_t {w0 : World} {s : Nat} {Q : Exit → Act → World → Prop} {sw : Bool} {a : Act} {w : World} {i : Nat} {r : OX} {o : Oper} (sw' : Bool) (hs : (sw || decide (i = s)) = sw') (ho : ops[i]? = some o)
    (h : ∀ K : Act → World → Prop, (∀ a' w', ExtS w0 (if sw' then S ++ S2 else S) w' → wpTrX P ops w0 S S2 s Q r sw' a' w' → K a' w') → if Region.wanted o (yielded ops a.tmps) then o.wp P a w K Q else K (a.put o.dst undef) w) : wpTrX P ops w0 S S2 s Q (.t i r) sw a w := by
  subst hs
  simp only [wpTrX, ho]
  have h' := h (fun a' w' => ExtS w0 (if sw || decide (i = s) then S ++ S2 else S) w' ∧ wpTrX P ops w0 S S2 s Q r (sw || decide (i = s)) a' w') fun _ _ h1 h2 => ⟨h1, h2⟩
  split
  · rename_i hw; rw [if_pos hw] at h'; exact h'
  · rename_i hw; rw [if_neg hw] at h'; exact h'.2
end
attribute [irreducible] wpTrX
end Go.Proofs.YtmpoihejacklnaaDoor
