/- 'MatchMoves' walked. No condition. -/
import Derived.Test.YtpccanadijefnaaDoorK816
import Derived.Test.YtpccanadijefnaaDoorK804
namespace Go.Proofs.YtpccanadijefnaaDoor
open Go Go.RowKit
open Go.Maps (Keyed)
/-- A look-up that tells the value alone. -/
theorem wpList_lookup_mp1 {P : Program} {w : World} {ops : Array Oper} {rest : List Oper} {o : Oper} {a : Act} {Q : Exit → Act → World → Prop}
    (hg : o.guard = none) (m x : Operand) (t : TypeId) (hop : o.op = Op.lookup t m x false)
    (k e : TypeId) (K : Keyed P k) (ht : P.underlying t = some (.map k e)) (z : Value) (hz : (zeroValue e).run P w = .ok z w) (b : Nat) (l : List (Value × Value)) (hm : a.eval m = .map (some b)) (H : Mp w b l) (hA : Apart l)
    (hk : ∀ p ∈ l, ∃ q, keyOf P k p.1 = some q) (key : Value) (lx : Lit) (hx : a.eval x = key) (hkey : keyOf P k key = some lx) (r : Value × Bool) (hr : Finds l key z r)
    (hK : wpList P ops Q rest (a.put o.dst r.1) w) : wpList P ops Q (o :: rest) a w := by
  refine wpList_plain hg fun K' hK' => ?_
  obtain ⟨es, clock, hb, hl⟩ := H
  have hrun : (Instr.lookup t (.map (some b)) key false).run P w = .ok r.1 w := by
    rcases Mp.find (w := w) K hl hk hkey with ⟨h1, h2⟩ | ⟨j, v, h1, h2⟩
    · have : r = (z, false) := by
        rcases hr with ⟨_, h⟩ | ⟨j, v, h, _⟩
        · exact h
        · exact absurd rfl (h2 _ (List.mem_of_getElem? h))
      subst this
      simp [Instr.lookup, run_underlying ht, MapKept.run_getObj_map hb, K.check w _ hkey, h1, hz, Result.andThen]
    · have : r = (v, true) := by
        rcases hr with ⟨h, _⟩ | ⟨j', v', h, rfl⟩
        · exact absurd rfl (h _ (List.mem_of_getElem? h2))
        · rw [(hA.one h h2).2]
      subst this
      simp [Instr.lookup, run_underlying ht, MapKept.run_getObj_map hb, K.check w _ hkey, h1, Result.andThen]
  unfold Oper.wp
  simp [execOp, hop, hm, hx, hrun, Result.andThen]
  exact hK' _ _ hK
def kvH (h : Nat × Nat) : Value := .agg #[.int .i64 h.1, .int .i64 h.2]
theorem hit_keyed : Keyed Tryd.prog 68 := Keyed.of_law (deep_law_laid (by kernel_rfl) (m := 2) (by omega) (of_decide_eq_true (by kernel_rfl)) (by kernel_rfl) (by rw [Tryd.underlying68]))
theorem keyOf_twoI {P : Program} {k s : TypeId} {f g : Field} (hs : P.underlying s = some (.int .i64)) (hk : P.underlying k = some (.struct #[f, g])) (hkt : P.keyType k = true) (hc : P.cellsOf k = 2) (hcs : P.cellsOf s = 1)
    (hf : (f.name != "_" && g.name != "_" && f.type == s && g.type == s && f.offset == 0 && g.offset == 1) = true) (hn : (P.types.size == 0) = false) {x y : Int} (hx : (Lit.int .i64 x).wf = true) (hy : (Lit.int .i64 y).wf = true) : ∃ q, keyOf P k (.agg #[.int .i64 x, .int .i64 y]) = some q := by
  obtain ⟨m, hm⟩ : ∃ m, P.types.size = m + 1 := Nat.exists_eq_succ_of_ne_zero (by simpa using hn)
  simp only [Bool.and_eq_true, beq_iff_eq, bne_iff_ne, ne_eq] at hf
  obtain ⟨⟨⟨⟨⟨f1, f2⟩, f3⟩, f4⟩, f5⟩, f6⟩ := hf
  simp [keyOf, hk, hkt, hc, Value.formed, Value.cells, hm, Program.keyLits, hs, f1, f2, f3, f4, f5, f6, hcs, hx, hy]
theorem nat_wf {n : Nat} (h : n ≤ 9223372036854775807) : (Lit.int .i64 (n : Int)).wf = true := by
  simp [Lit.wf, show IntKind.i64.min = -9223372036854775808 from rfl, show IntKind.i64.max = 9223372036854775807 from rfl]; omega
theorem kvH_key {h : Nat × Nat} (h1 : h.1 ≤ 9223372036854775807) (h2 : h.2 ≤ 9223372036854775807) : ∃ q, keyOf Tryd.prog 68 (kvH h) = some q :=
  keyOf_twoI (s := 3) Tryd.underlying3 Tryd.underlying68 (by kernel_rfl) (by kernel_rfl) (by kernel_rfl) (by kernel_rfl) (by kernel_rfl) (nat_wf h1) (nat_wf h2)
theorem kvH_inj {a b : Nat × Nat} (h : kvH a = kvH b) : a = b := by
  unfold kvH at h
  injection h with h
  simp at h
  obtain ⟨h1, h2⟩ := h
  exact Prod.ext (by omega) (by omega)
def mpH (l : List (Nat × Nat)) : List (Value × Value) := l.map fun h => (kvH h, .bool true)
theorem mpH_apart {l : List (Nat × Nat)} (h : l.Nodup) : Apart (mpH l) := by
  unfold Apart mpH
  rw [List.pairwise_map]
  exact h.imp fun h e => h (kvH_inj e)
theorem mpH_finds {l : List (Nat × Nat)} {h : Nat × Nat} (hm : h ∈ l) (z : Value) : Finds (mpH l) (kvH h) z (.bool true, true) := by
  obtain ⟨j, hj⟩ := List.mem_iff_getElem?.1 hm
  exact .inr ⟨j, .bool true, by unfold mpH; rw [List.getElem?_map, hj]; rfl, rfl⟩
theorem hits_bound {fs : List (List Int)} {l : List Int} {h : Nat × Nat} (hm : h ∈ hitsL fs l) : h.1 ≤ l.length ∧ h.2 < fs.length := by
  obtain ⟨f, h1, h2⟩ := hitsL_mem.1 (show (h.1, h.2) ∈ hitsL fs l from hm)
  exact ⟨by have := h2.1; omega, at_lt h1⟩
theorem mpH_key {fs : List (List Int)} {l : List Int} {m : List (Nat × Nat)} (hm : ∀ h ∈ m, h ∈ hitsL fs l) (hl : l.length ≤ 4294967296) (hf : fs.length ≤ 4294967296) : ∀ p ∈ mpH m, ∃ q, keyOf Tryd.prog 68 p.1 = some q := fun p hp => by
  obtain ⟨h, hh, rfl⟩ := List.mem_map.1 hp
  obtain ⟨h1, h2⟩ := hits_bound (hm h hh)
  exact kvH_key (by omega) (by omega)
theorem hits_gen {t : TypeId} {w : World} {fs : List (List Int)} {s : ByteArray} {e : Ending} {w' : World} (h : HitPost t w fs s e w') : Below w.heap.size w w' ∧ ∃ v z, e = .returned (.tuple #[v, .int .i64 z]) ∧ (z = 0 → tokE s = 0 ∧ ∃ l, decS s = some l ∧ Own eH w.heap.size t w' v (hitsL fs l)) := by
  obtain ⟨h1, h2, h3⟩ := h
  by_cases h0 : tokE s = 0
  · obtain ⟨v, l, h4, h5, h6⟩ := h2 h0
    exact ⟨h1, v, 0, h5, fun _ => ⟨h0, l, h4, h6⟩⟩
  · exact ⟨h1, _, _, h3 h0, fun h => absurd h h0⟩
theorem dec_gen {w : World} {s : ByteArray} {e : Ending} {w' : World} (h : DecOwn w (decS s) e w') : Below w.heap.size w w' ∧ ∃ v z, e = .returned (.tuple #[v, .int .i64 z]) ∧ (z = 0 → ∃ l, decS s = some l ∧ Own (eInt .i32) w.heap.size 21 w' v l) := by
  obtain ⟨h1, h2⟩ := h
  cases hd : decS s with
  | none => rw [hd] at h2; exact ⟨h1, _, _, h2, fun h => absurd h (by decide)⟩
  | some l => rw [hd] at h2; obtain ⟨v, h3, h4⟩ := h2; exact ⟨h1, v, 0, h3, fun _ => ⟨l, rfl, h4⟩⟩
theorem tok_app {a b : ByteArray} {x y : List Int} (ha : decS a = some x) (hb : decS b = some y) : decS (a ++ b) = some (x ++ y) := decS_app ha hb
set_option maxHeartbeats 4000000 in
set_option maxRecDepth 100000 in
theorem lmoves8_c (A : Option Addr) (c : Nat) (xs : List T3) (s1 s2 s3 : ByteArray) (w : World) (hU : U w) (hs : SlA eT3 w A xs) (hm : Small xs) (h1 : s1.size ≤ 1048576) (h2 : s2.size ≤ 1048576) (h3 : s3.size ≤ 1048576) :
    Calls Tryd.prog 11 #[.agg #[.slice A xs.length c, .string s1, .string s2, .string s3]] w (Ret w (.bool true)) := by
  have hl := hm.1
  have hz : (s1 ++ s2 ++ s3).size ≤ 17592186044416 := by simp [ByteArray.size_append]; omega
  go_enter Tryd.func11, Tryd.ntmps11
  go_wp2_with fail
  have hcl : ∀ o u, (#[Value.slice A xs.length c, .string s1, .string s2, .string s3] : Array Value)[o]? = some u → (w.alloc (.cells #[.slice A xs.length c, .string s1, .string s2, .string s3] 55)).cell? ⟨w.heap.size, o, none⟩ = some u := fun o u h => by simp [go_sem, h]
  have hb0 : Below w.heap.size w (w.alloc (.cells #[.slice A xs.length c, .string s1, .string s2, .string s3] 55)) := Bel
  have hsz : w.heap.size < (w.alloc (.cells #[.slice A xs.length c, .string s1, .string s2, .string s3] 55)).heap.size := by simp
  have k0 := hcl 0 _ rfl
  have k1 := hcl 1 _ rfl
  have k2 := hcl 2 _ rfl
  have k3 := hcl 3 _ rfl
  clear hcl
  generalize w.alloc (.cells #[.slice A xs.length c, .string s1, .string s2, .string s3] 55) = w0 at hb0 hsz k0 k1 k2 k3 ⊢
  refine (alive8_c _ (hU.to hb0)).mono ?_
  rintro e w1 ⟨rfl, hb1⟩
  replace k0 := bkc hb1 k0
  replace k1 := bkc hb1 k1
  replace k2 := bkc hb1 k2
  replace k3 := bkc hb1 k3
  go_wp2_with fail
  go_quiet (fail)
  have hb01 : Below w.heap.size w w1 := Bst hb0 hb1
  clear k0 k1 k2 k3
  go_wp2_with fail
  refine (new8_c A c xs _ (hU.to (Bdn hb01 nq)) (hs.below (Bdn hb01 nq)) hm).mono ?_
  rintro e w3 ⟨hb3, hn1, hn2⟩
  have hb03 : Below w.heap.size w w3 := Bst (Bdn hb01 nq) hb3
  obtain ⟨S, hS⟩ : ∃ S, s1 ++ s2 ++ s3 = S := ⟨_, rfl⟩
  rw [hS] at hz
  have HS := Lib.hid hS
  by_cases h0 : isE xs = 0
  · obtain ⟨M, rfl, hM⟩ := hn1 h0
    have H0 := Lib.hid h0
    clear hn1 hn2 h0
    cases hg : great8 xs S
    all_goals
      have HG := Lib.hid hg
      clear hg
      go_wp2_with fail
      refine (great8_c A c xs S _ (hs.below hb03) hm hz).mono ?_
      rintro e w4 ⟨rfl, hb4⟩
      rw [HG.out]
    · have hb04 : Below w.heap.size w w4 := Bst hb03 hb4
      have hM4 := hM.below hb4
      go_wp2_with fail
      refine (mhits_c s2 M _ _ (hU.to hb04) hM4 (by omega)).mono ?_
      rintro e w5 h5
      obtain ⟨hb5, va, za, rfl, ha⟩ := hits_gen h5
      have hb05 : Below w.heap.size w w5 := Bst hb04 hb5
      have hM5 := hM4.below hb5
      clear h5
      go_wp2_with fail
      refine (mhits_c S M _ _ (hU.to hb05) hM5 hz).mono ?_
      rintro e w6 h6
      obtain ⟨hb6, vb, zb, rfl, hbb⟩ := hits_gen h6
      have hb06 : Below w.heap.size w w6 := Bst hb05 hb6
      clear h6
      go_wp2_with fail
      refine (dec_own s1 _ (hU.to hb06) (by omega)).mono ?_
      rintro e w7 h7
      obtain ⟨hb7, vx, zx, rfl, hx⟩ := dec_gen h7
      have hb07 : Below w.heap.size w w7 := Bst hb06 hb7
      clear h7
      go_wp2_with fail
      refine (dec_own s3 _ (hU.to hb07) (by omega)).mono ?_
      rintro e w8 h8
      obtain ⟨hb8, vi, zi, rfl, hi⟩ := dec_gen h8
      have hb08 : Below w.heap.size w w8 := Bst hb07 hb8
      clear h8
      by_cases a0 : za = 0
      · by_cases c0 : zb = 0
        · by_cases x0 : zx = 0
          · by_cases i0 : zi = 0
            · obtain ⟨ht2, y, hdy, hOa⟩ := ha a0
              obtain ⟨htS, Y, hdY, hOb⟩ := hbb c0
              obtain ⟨x, hdx, hOx⟩ := hx x0
              obtain ⟨z, hdz, _⟩ := hi i0
              subst a0; subst c0; subst x0; subst i0
              clear ha hbb hx hi
              have hYe : Y = x ++ y ++ z := by
                have h := decS_app (decS_app hdx hdy) hdz
                rw [HS.out, hdY] at h
                injection h
              have hfl := (froms_small H0.out).1
              have hla := hits_len8 ht2 hdy hfl
              have hlb := hits_len8 htS hdY hfl
              have hYl : Y.length ≤ 64 := by
                obtain ⟨l', hd', hl'⟩ := tokE_ok htS
                rw [hdY] at hd'
                injection hd' with e
                rw [e]; exact hl'
              obtain ⟨ha1, hha⟩ : ∃ ha1, hitsL (froms xs) y = ha1 := ⟨_, rfl⟩
              obtain ⟨hb1', hhb⟩ : ∃ hb1', hitsL (froms xs) Y = hb1' := ⟨_, rfl⟩
              have HSH : Hid (∀ h ∈ ha1, (h.1 + x.length, h.2) ∈ hb1') := by
                show ∀ h ∈ ha1, _
                rw [← hha, ← hhb, hYe]
                exact fun h hh => hits_shift hh
              have HLE : Hid (ha1.length ≤ hb1'.length) := by
                show _ ≤ _
                rw [← hha, ← hhb, hYe]
                exact hits_more _ _ _ _
              have HND : Hid hb1'.Nodup := by show List.Nodup _; rw [← hhb]; exact hitsL_nodup _ _
              have HKY : Hid (∀ m : List (Nat × Nat), (∀ h ∈ m, h ∈ hb1') → ∀ p ∈ mpH m, ∃ q, keyOf Tryd.prog 68 p.1 = some q) := by
                show ∀ m : List (Nat × Nat), _
                rw [← hhb]
                exact fun m hm => mpH_key hm (by omega) (by omega)
              have HBD : Hid (∀ h ∈ hb1', h.1 ≤ 64 ∧ h.2 < 4096) := by
                show ∀ h ∈ hb1', _
                rw [← hhb]
                exact fun h hh => by have := hits_bound hh; omega
              rw [hha] at hOa hla
              rw [hhb] at hOb hlb
              clear hha hhb hdy hdY hdx hdz hYe ht2 htS hYl
              obtain ⟨Aa, ca, rfl, hca1, hca2, hAa⟩ := hOa.slv
              obtain ⟨Ab, cb, rfl, hcb1, hcb2, hAb⟩ := hOb.slv
              obtain ⟨Ax, cx, rfl, _, _, _⟩ := hOx.slv
              have hAa8 := hAa.below (Bst hb6 (Bst hb7 hb8))
              have hAb8 := hAb.below (Bst hb7 hb8)
              have hmm := @run_makeMap Tryd.prog
              go_wp2_with fail
              go_loopw [91] (fun sj wr => ∃ j : Nat, sj = .int .i64 j ∧ j ≤ hb1'.length ∧ Mp wr w8.heap.size (mpH (hb1'.take j)) ∧ Below w8.heap.size w8 wr) (fun sj _ => hb1'.length - (intOf sj).toNat)
              case atStart => exact ⟨0, rfl, by omega, Mp.made w8, Bel⟩
              case round =>
                obtain ⟨j, rfl, hj, HM, hb⟩ := hrel
                by_cases hjl : j < hb1'.length
                · have hjP : (j : Int) < hb1'.length := by omega
                  obtain ⟨b2, o2, rfl, y2, y3⟩ := hAb8.at2 (fun _ => rfl) hb j hjl
                  obtain ⟨a, r, har⟩ : ∃ a r, hb1'[j] = (a, r) := ⟨_, _, rfl⟩
                  rw [har] at y2 y3
                  dsimp only at y2 y3
                  have hbd := HBD.out (a, r) (by rw [← har]; exact List.getElem_mem hjl)
                  dsimp only at hbd
                  have HTK : Hid (hb1'.take (j + 1) = hb1'.take j ++ [(a, r)]) := by show _ = _; rw [List.take_succ_eq_append_getElem hjl, har]
                  have hno : ∀ p ∈ mpH (hb1'.take j), p.1 ≠ kvH (a, r) := by
                    intro p hp e
                    obtain ⟨h, hh, rfl⟩ := List.mem_map.1 hp
                    have e2 := kvH_inj e
                    have hnd := HND.out
                    rw [← List.take_append_drop (j + 1) hb1', HTK.out, List.nodup_append] at hnd
                    have h3 := hnd.1
                    rw [List.nodup_append] at h3
                    exact h3.2.2 h hh (a, r) (by simp) e2
                  have hky := HKY.out (hb1'.take j) fun h hh => List.mem_of_mem_take hh
                  obtain ⟨lx, hlx⟩ := kvH_key (h := (a, r)) (by dsimp only; omega) (by dsimp only; omega)
                  have hBl := HM.lt
                  clear har hjl
                  go_wp2_with (at_mapUpdate; refine wpList_mapUpdate_mp rfl _ _ _ 66 rfl 68 4 hit_keyed Tryd.underlying66 _ (mpH (hb1'.take j)) rfl (HM.below Bel) hky (kvH (a, r)) (.bool true) lx rfl rfl hlx hno ?_; intro w9 HM9 hg9)
                  have hs9 := hg9.size
                  have hb9 : Below w8.heap.size w8 w9 := (hb.trans ((Bel : Below wr.heap.size wr (wr.alloc (.cells #[.int .i64 a, .int .i64 r] 68))).mono hb.size)).grown hg9 (by have := hb.size; simp; omega) (fun k e => by injection e with e; omega)
                  exact ⟨⟨j + 1, by go_num, by omega, by rw [HTK.out]; unfold mpH; rw [List.map_append]; exact HM9, hb9⟩, by simp [intOf]; omega⟩
                · have hje : j = hb1'.length := by omega
                  have hjP : ¬ (j : Int) < hb1'.length := by omega
                  rw [hje, List.take_length] at HM
                  clear hje
                  obtain ⟨wm, hwm⟩ : ∃ wm, wm = wr := ⟨_, rfl⟩
                  rw [← hwm] at hb HM
                  have hbm : Below w.heap.size w wm := Bst hb08 hb
                  have hAam := hAa8.below hb
                  go_wp2_with fail
                  rw [← hwm]
                  clear hwm
                  go_loopw [100] (fun sj wr => ∃ j : Nat, sj = .int .i64 j ∧ j ≤ ha1.length ∧ Below wm.heap.size wm wr) (fun sj _ => ha1.length - (intOf sj).toNat)
                  case atStart => exact ⟨0, rfl, by omega, Below.refl _ _⟩
                  case round =>
                    obtain ⟨j2, rfl, hj2, hb2⟩ := hrel
                    by_cases hjl : j2 < ha1.length
                    · have hjP2 : (j2 : Int) < ha1.length := by omega
                      obtain ⟨b2, o2, rfl, y2, y3⟩ := hAam.at2 (fun _ => rfl) hb2 j2 hjl
                      obtain ⟨a, r, har⟩ : ∃ a r, ha1[j2] = (a, r) := ⟨_, _, rfl⟩
                      rw [har] at y2 y3
                      dsimp only at y2 y3
                      have hin := HSH.out (a, r) (by rw [← har]; exact List.getElem_mem hjl)
                      dsimp only at hin
                      have hbd := HBD.out _ hin
                      dsimp only at hbd
                      have hfd := mpH_finds hin (.bool false)
                      have hap := mpH_apart HND.out
                      have hky := HKY.out hb1' fun h hh => hh
                      obtain ⟨lx, hlx⟩ := kvH_key (h := (a + x.length, r)) (by dsimp only; omega) (by dsimp only; omega)
                      have hke : kvH (a + x.length, r) = .agg #[.int .i64 ((a : Int) + (x.length : Int)), .int .i64 r] := by simp [kvH]
                      rw [hke] at hfd hlx
                      have hBl := HM.lt
                      clear har hjl hin hke
                      go_wp2_with (at_lookup; refine wpList_lookup_mp1 rfl _ _ 66 rfl 68 4 hit_keyed Tryd.underlying66 (.bool false) (by rfl) _ (mpH hb1') rfl ((HM.below hb2).below Bel) hap hky (.agg #[.int .i64 ((a : Int) + (x.length : Int)), .int .i64 r]) lx rfl hlx _ hfd ?_)
                      exact ⟨⟨j2 + 1, by go_num, by omega, Bst hb2 Bel⟩, by simp [intOf]; omega⟩
                    · have hje2 : ¬ (j2 : Int) < ha1.length := by omega
                      have hle : (ha1.length : Int) ≤ hb1'.length := by have := HLE.out; omega
                      go_wp2
                      go_ret
                      exact ⟨by simp, Bst hbm hb2⟩
            · go_wp2
              go_ret
              exact ⟨rfl, Bel⟩
          · go_wp2
            go_ret
            exact ⟨rfl, Bel⟩
        · go_wp2
          go_ret
          exact ⟨rfl, Bel⟩
      · go_wp2
        go_ret
        exact ⟨rfl, Bel⟩
    · go_wp2
      go_ret
      exact ⟨rfl, Bst hb03 hb4⟩
  · obtain ⟨z, hz3⟩ : ∃ z, isE xs = z := ⟨_, rfl⟩
    obtain rfl := hn2 h0
    rw [hz3] at h0 ⊢
    have hz0 : (z != 0) = true := by simpa using h0
    clear hn1 hn2 hz3
    cases hg : great8 xs S
    all_goals
      have HG := Lib.hid hg
      clear hg
      go_wp2_with fail
      refine (great8_c A c xs S _ (hs.below hb03) hm hz).mono ?_
      rintro e w4 ⟨rfl, hb4⟩
      rw [HG.out]
      go_wp2
      go_ret
      exact ⟨rfl, Bst hb03 hb4⟩
end Go.Proofs.YtpccanadijefnaaDoor
