/- PriceSums walked. No condition. -/
import Derived.Test.YtmpoihejacklnaaDoorP09
import Derived.Test.YtmpoihejacklnaaDoorGrt12
namespace Go.Proofs.YtmpoihejacklnaaDoor
open Go Go.RowKit
theorem sumF_mem {l : List T3} {r : T3} (h : r ∈ l) : r.f.size ≤ (sumFB l).length ∧ r.t.size ≤ (sumTB l).length := by
  have e1 : r.f.data.toList.length = r.f.size := by rw [Array.length_toList]; rfl
  have e2 : r.t.data.toList.length = r.t.size := by rw [Array.length_toList]; rfl
  induction l with
  | nil => cases h
  | cons a l ih =>
    unfold sumFB sumTB at *
    rw [List.flatMap_cons, List.flatMap_cons, List.length_append, List.length_append]
    rcases List.mem_cons.1 h with rfl | h
    · omega
    · have := ih h; omega
theorem bsum_len {l : List UInt8} {s : ByteArray} (h : bsum l = s) : l.length = s.size := by rw [← h, bsum_size]
theorem way_small {xs : List T3} {t v : ByteArray} (h : prcE xs t v = 0) (hz : t.size ≤ 1048576) (hz2 : v.size ≤ 1048576) : Small (wayL xs t v) := by
  obtain ⟨k1, k2, _, _, k5⟩ := sums12 h
  refine ⟨by omega, fun r hr => ?_⟩
  have h1 := sumF_mem hr
  rw [bsum_len k1, bsum_len k2] at h1
  omega
theorem way_n {xs : List T3} {t v : ByteArray} (h : prcE xs t v = 0) : ∀ r ∈ wayL xs t v, 0 ≤ r.n ∧ r.n ≤ 255 := fun r hr => by
  obtain ⟨h1, _, _⟩ := prcE_ok h
  rcases (sums12 h).2.2.2.1 r hr with k | ⟨_, _, k⟩ | ⟨_, _, _, k⟩
  · obtain ⟨_, _, _, _, _, k1, k2⟩ := rchk_all ((isE_ok h1).2 r k); omega
  · omega
  · omega
theorem find_self {xs : List T3} (h : isE xs = 0) {r : T3} (hr : r ∈ xs) : rfindV xs r.f r.t = .tuple #[.int .i64 r.n, .int .i64 0] := by
  have hrs := of_rise (isE_rise h)
  have hN := Nrm.self hrs
  obtain ⟨y, hy, hs⟩ := key_mem ((hN.keys (r.f, r.t)).2 (mem_keys hr))
  have h1 := hN.low y hy r hr hs.symm
  have h2 := hN.low r hr y hy hs
  have e : y = r := t3_ext hs (by omega)
  obtain ⟨i, hi, ei⟩ := List.getElem_of_mem hy
  unfold rfindV
  rw [if_neg (by simp [h]), cost_at (rise_aps hrs) hi (by rw [ei]; exact hs), ei, e]
theorem rfind_form12 (l : List T3) (f t : ByteArray) : ∃ n e : Int, rfindV l f t = .tuple #[.int .i64 n, .int .i64 e] := by
  unfold rfindV
  split
  · exact ⟨_, _, rfl⟩
  · split <;> exact ⟨_, _, rfl⟩
theorem decl_c (s : ByteArray) (w : World) (hU : U w) (hz : s.size ≤ 17592186044416) :
    Calls Tryd.prog 22 #[.string s] w fun e w' => ∃ A c z, e = .returned (.tuple #[.slice A (lenS s) c, .int .i64 z]) ∧ Below w.heap.size w w' :=
  (dec_own s w hU hz).mono fun e w' ⟨hb, h⟩ => by
    cases hd : decS s with
    | none => rw [hd] at h; exact ⟨none, 0, 3, by unfold lenS; rw [hd]; exact h, hb⟩
    | some l => rw [hd] at h; obtain ⟨v, he, hO⟩ := h; obtain ⟨A, c, rfl, _⟩ := hO.slv; exact ⟨A, c, 0, by unfold lenS; rw [hd]; exact he, hb⟩
theorem str_eqD (a b : ByteArray) : (a.toList == b.toList) = decide (a = b) := by
  by_cases h : a = b
  · subst h; simp
  · rw [decide_eq_false h]
    refine beq_eq_false_iff_ne.2 fun e => h ?_
    have e2 := congrArg List.toByteArray e
    first | simpa using e2 | exact ba_ext' (by simpa [ByteArray.toList_eq] using e)
set_option maxHeartbeats 8000000 in
set_option maxRecDepth 100000 in
theorem sumss_c (A : Option Addr) (c : Nat) (xs : List T3) (t v : ByteArray) (w : World) (hU : U w) (hs : SlA eT3 w A xs) (hm : Small xs) (hz : t.size ≤ 1048576) (hz2 : v.size ≤ 1048576) :
    Calls Tryd.prog 8 #[.slice A xs.length c, .string t, .string v] w (Ret w (.bool true)) := by
  go_enter Tryd.func8, Tryd.ntmps8
  go_wp2_with fail
  refine (alive12_c w hU).mono ?_
  rintro e w2 ⟨rfl, hb02⟩
  go_wp2_with fail
  refine (great12_c A c xs t v w2 (hs.below hb02) hm (by omega) (by omega)).mono ?_
  rintro e w3 ⟨rfl, hb3⟩
  have hb03 := Bst hb02 hb3
  cases hg : great12 xs t v with
  | true =>
    clear hg
    go_wp2
    go_ret
    exact ⟨rfl, hb03⟩
  | false =>
    clear hg
    go_wp2_with fail
    refine (pparts_c A c xs t v w3 (hU.to hb03) (hs.below hb03) hm (by omega) (by omega)).mono ?_
    rintro e w4 ⟨vo, rfl, hO, hb4⟩
    obtain ⟨A4, c4, rfl, _, _, hA4⟩ := hO.slv
    have hb04 := Bst hb03 hb4
    clear hO
    go_wp2_with fail
    refine (pprice_c A c xs t v w4 (hU.to hb04) (hs.below hb04) hm (by omega) (by omega)).mono ?_
    rintro e w5 ⟨rfl, hb5⟩
    have hb05 := Bst hb04 hb5
    by_cases h0 : prcE xs t v = 0
    · have hsm := way_small h0 hz hz2
      have hwn := way_n h0
      obtain ⟨k1, k2, k3, k4, k5⟩ := sums12 h0
      obtain ⟨hI, _, _⟩ := prcE_ok h0
      rw [h0]
      obtain ⟨ps, hps⟩ : ∃ l, wayL xs t v = l := ⟨_, rfl⟩
      rw [hps] at hA4 hsm hwn k1 k2 k3 k4 k5 ⊢
      have CS := fun W hW => psum_c A4 c4 ps W (hA4.below hW) hsm (fun r hr => by have := hwn r hr; omega)
      rw [k1, k2, k3] at CS
      have K4 := Lib.hid k4
      have HI := Lib.hid hI
      have HWN := Lib.hid hwn
      have HSM := Lib.hid hsm
      clear k1 k2 k3 k4 hI h0 hps hwn hsm
      have hB1 : (t.toList == t.toList) = true := by simp
      have hB2 : (v.toList == v.toList) = true := by simp
      go_wp2_with fail
      refine (CS w5 hb5).mono ?_
      rintro e w6 ⟨rfl, hb6⟩
      have hb06 := Bst hb05 hb6
      have hA6 := hA4.below (Bst hb5 hb6)
      clear CS hA4
      go_wp2
      go_loopw [77] (fun s77 wr => ∃ k : Nat, s77 = .int .i64 k ∧ k ≤ ps.length ∧ Below w6.heap.size w6 wr) (fun s77 _ => ps.length - (intOf s77).toNat)
      case atStart => exact ⟨0, rfl, by omega, Below.refl _ _⟩
      case round =>
        obtain ⟨k, rfl, hk, hbr⟩ := hrel
        rename World => wo
        by_cases hlt : k < ps.length
        · have hlt' : (k : Int) < ps.length := by omega
          obtain ⟨b, o, rfl, _, p1, p2, p3⟩ := hA6.n3 (fun _ => rfl) hbr k hlt
          have hmem := List.getElem_mem hlt
          have hok := K4.out _ hmem
          have hnr := HWN.out _ hmem
          obtain ⟨z1, z2⟩ := HSM.out.at k hlt
          obtain ⟨r, hr⟩ : ∃ r, ps[k] = r := ⟨_, rfl⟩
          rw [hr] at p1 p2 p3 hok hnr z1 z2
          have hb0o := Bst hb06 hbr
          obtain ⟨kf, gf, hff⟩ := rfind_form12 xs r.f r.t
          have HFF := Lib.hid hff
          have hcase : (gf = 0 ∧ kf = r.n ∧ r.f ≠ r.t) ∨ (r.f = r.t ∧ lenS r.f = 1 ∧ r.n = 0) ∨ (r.f ≠ r.t ∧ lenS r.f ≤ 1 ∧ lenS r.t ≤ 1 ∧ r.n = 255) := by
            rcases hok with h | h | h
            · left
              have h1 := find_self HI.out h
              rw [hff] at h1
              injection h1 with h1
              simp only [Array.mk.injEq, List.cons.injEq, Value.int.injEq, true_and, and_true] at h1
              obtain ⟨_, _, _, _, h5, _, _⟩ := rchk_all ((isE_ok HI.out).2 r h)
              exact ⟨h1.2, h1.1, h5⟩
            · exact .inr (.inl h)
            · exact .inr (.inr h)
          have HC := Lib.hid hcase
          clear hr hmem hok hcase hff
          have kB : B3 (wo.alloc (.cells #[.string r.f, .string r.t, .int .i64 r.n] 49)) wo.heap.size r := B3.new wo r 49
          have hba : Below wo.heap.size wo (wo.alloc (.cells #[.string r.f, .string r.t, .int .i64 r.n] 49)) := Bal (Below.refl _ _) _
          go_wp2_with fail
          refine (decl_c r.f _ (hU.to (Bst hb0o hba)) (by omega)).mono ?_
          rintro e w8 ⟨A8, c8, z8, rfl, hb8⟩
          have kB8 := kB.below hb8
          have kB8q := kB8
          obtain ⟨_, x0, x1, x2⟩ := kB8q
          go_wp2_with fail
          refine (decl_c r.t _ (hU.to (Bst (Bst hb0o hba) hb8)) (by omega)).mono ?_
          rintro e w9 ⟨A9, c9, z9, rfl, hb9⟩
          have kB9 := kB8.below hb9
          clear x0 x1 x2
          have kB9q := kB9
          obtain ⟨_, x0, x1, x2⟩ := kB9q
          have hb69 := Bst hba (Bst hb8 hb9)
          have hb09 := Bst hb0o hb69
          go_wp2_with fail
          refine (rfind_c A c xs r.f r.t w9 (hU.to hb09) (hs.below hb09) hm).mono ?_
          rintro e w10 ⟨rfl, hb10⟩
          rw [HFF.out]
          have kB10 := kB9.below hb10
          clear x0 x1 x2
          have kB10q := kB10
          obtain ⟨_, x0, x1, x2⟩ := kB10q
          have hbf := Bst hbr (Bst hb69 hb10)
          obtain ⟨lx, hlx⟩ : ∃ n, lenS r.f = n := ⟨_, rfl⟩
          obtain ⟨ly, hly⟩ : ∃ n, lenS r.t = n := ⟨_, rfl⟩
          rw [hlx] at HC ⊢
          rw [hly] at HC ⊢
          have hse := str_eqD r.f r.t
          clear hlx hly kB kB8 kB9 kB10 p1 p2 p3 z1 z2
          rcases HC.out with ⟨g1, g2, g3⟩ | ⟨g1, g2, g3⟩ | ⟨g1, g2, g3, g4⟩
          · subst g1
            subst g2
            rw [decide_eq_false g3] at hse
            by_cases hx : (lx : Int) ≤ 1
            · by_cases hy : (ly : Int) ≤ 1
              · by_cases h255 : r.n = 255
                · have hn5 : (r.n == 255) = true := by rw [beq_iff_eq]; exact h255
                  clear h255 HC
                  go_wp2
                  exact ⟨⟨k + 1, by go_num, by omega, hbf⟩, by simp [intOf]; omega⟩
                · have hn5 : (r.n == 255) = false := by rw [beq_eq_false_iff_ne]; exact h255
                  clear h255 HC
                  go_wp2
                  exact ⟨⟨k + 1, by go_num, by omega, hbf⟩, by simp [intOf]; omega⟩
              · clear HC
                go_wp2
                exact ⟨⟨k + 1, by go_num, by omega, hbf⟩, by simp [intOf]; omega⟩
            · clear HC
              go_wp2
              exact ⟨⟨k + 1, by go_num, by omega, hbf⟩, by simp [intOf]; omega⟩
          · rw [decide_eq_true g1] at hse
            have hn0 : (r.n == 0) = true := by rw [beq_iff_eq]; exact g3
            have hx1 : ((lx : Int) == 1) = true := by rw [beq_iff_eq]; omega
            clear g1 g2 g3 HC
            go_wp2
            exact ⟨⟨k + 1, by go_num, by omega, hbf⟩, by simp [intOf]; omega⟩
          · rw [decide_eq_false g1] at hse
            have hn5 : (r.n == 255) = true := by rw [beq_iff_eq]; exact g4
            have hx1 : (lx : Int) ≤ 1 := by omega
            have hy1 : (ly : Int) ≤ 1 := by omega
            clear g1 g2 g3 g4 HC
            go_wp2
            exact ⟨⟨k + 1, by go_num, by omega, hbf⟩, by simp [intOf]; omega⟩
        · obtain rfl : k = ps.length := by omega
          have hlt' : ¬ (ps.length : Int) < ps.length := by omega
          go_wp2
          go_ret
          exact ⟨rfl, Bst hb06 hbr⟩
    · have hwl := wayL_bad h0
      have hv := prcV_bad h0
      rw [hwl, hv]
      obtain ⟨z, hz3⟩ : ∃ z, prcE xs t v = z := ⟨_, rfl⟩
      have hz0 : z ≠ 0 := hz3 ▸ h0
      rw [hz3]
      clear h0 hz3 hwl hv
      go_wp2
      go_ret
      exact ⟨rfl, hb05⟩
end Go.Proofs.YtmpoihejacklnaaDoor
