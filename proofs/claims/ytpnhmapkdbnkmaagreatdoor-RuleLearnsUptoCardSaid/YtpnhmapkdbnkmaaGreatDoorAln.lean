/- align's grid: where a place lies, the best last step. No condition. -/
import Derived.Test.YtpnhmapkdbnkmaaGreatDoorK815
import Derived.Test.YtpnhmapkdbnkmaaGreatDoorAlg
import Derived.Test.YtpnhmapkdbnkmaaGreatDoorK810
namespace Go.Proofs.YtpnhmapkdbnkmaaGreatDoor
open Go Go.RowKit
theorem place_lt {i j n : Nat} {m : Nat} (hi : i ≤ m) (hj : j ≤ n) : i * (n + 1) + j < (m + 1) * (n + 1) := by
  have h1 : i * (n + 1) ≤ m * (n + 1) := Nat.mul_le_mul_right _ hi
  rw [Nat.succ_mul]; omega
set_option maxRecDepth 100000 in
theorem at_c (G : Nat) (B : Option Addr) (n c i j : Nat) (w : World) (hc : w.cell? ⟨G, 1, none⟩ = some (.slice B n c)) (hn : n ≤ 64) (hi : i ≤ 64) (hj : j ≤ 64) :
    Calls Tryz.prog 202 #[.pointer (some ⟨G, 0, none⟩), .int .i64 i, .int .i64 j] w fun e w' => e = .returned (.int .i64 (i * (n + 1) + j : Nat)) ∧ w' = w := by
  have hm : i * (n + 1) ≤ 64 * 65 := Nat.mul_le_mul hi (by omega)
  obtain ⟨m, hme⟩ : ∃ m, i * (n + 1) = m := ⟨_, rfl⟩
  rw [hme] at hm ⊢
  have hmi : (i : Int) * ((n : Int) + 1) = (m : Int) := by rw [← hme]; push_cast; rfl
  have h1 : IntKind.i64.wrap ((i : Int) * ((n : Int) + 1)) = (m : Int) := by rw [hmi]; exact IntWalk.i64_in _ (by omega)
  clear hme hmi
  go_enter Tryz.func202, Tryz.ntmps202
  go_wp2
  go_ret
  exact ⟨by simp, rfl⟩
set_option maxRecDepth 100000 in
theorem try_c (Bk Bn : Nat) (x y k f : Int) (w : World) (hk : Boxed w Bk 5 (.int .u8 y)) (hn : Boxed w Bn 5 (.int .u8 x)) (hne : Bk ≠ Bn) :
    Calls Tryz.prog 237 #[.int .u8 k, .int .u8 f, .pointer (some ⟨Bn, 0, none⟩), .pointer (some ⟨Bk, 0, none⟩)] w fun e w' =>
      e = .returned (.tuple #[]) ∧ Boxed w' Bk 5 (.int .u8 (if f < x then k else y)) ∧ Boxed w' Bn 5 (.int .u8 (if f < x then f else x)) ∧ Kb w w' [Bk, Bn] ∧ w'.heap.size = w.heap.size := by
  have c1 := hk.cell
  have c2 := hn.cell
  have d1 := hk.frozen
  have d2 := hn.frozen
  by_cases h : f < x
  all_goals
    go_enter Tryz.func237, Tryz.ntmps237
    go_wp2
    refine bodyPost_end (results_none rfl _ _ _) rfl ?_
  · refine ⟨rfl, (hk.set _).other hne _, (hn.other (Ne.symm hne) _).set _, ?_, by simp⟩
    exact ((Kb.grown (grownBy_setCell' w Bk (.int .u8 k))).trans (Kb.grown (grownBy_setCell' _ Bn (.int .u8 f)))).weak (by simp)
  · exact ⟨rfl, hk, hn, Kb.refl _ _, rfl⟩
theorem ite_cast (x y p q : Nat) : (if (x : Int) < (y : Int) then (p : Int) else (q : Int)) = ((if x < y then p else q : Nat) : Int) := by
  by_cases h : x < y
  · rw [if_pos h, if_pos (by omega)]
  · rw [if_neg h, if_neg (by omega)]
theorem pick3 (f1 f2 f3 q D : Nat) (hD : D = min f1 (min f2 f3)) : (if f3 < (if f2 < f1 then f2 else f1) then 3 else (if f2 < f1 then 2 else q)) = (if D = f1 then q else if D = f2 then 2 else 3) ∧ (if f3 < (if f2 < f1 then f2 else f1) then f3 else (if f2 < f1 then f2 else f1)) = D := by
  subst hD
  by_cases h1 : f2 < f1
  · rw [if_pos h1, if_pos h1]
    by_cases h2 : f3 < f2
    · rw [if_pos h2, if_pos h2, if_neg (by omega), if_neg (by omega)]; omega
    · rw [if_neg h2, if_neg h2, if_neg (by omega), if_pos (by omega)]; omega
  · rw [if_neg h1, if_neg h1]
    by_cases h2 : f3 < f1
    · rw [if_pos h2, if_pos h2, if_neg (by omega), if_neg (by omega)]; omega
    · rw [if_neg h2, if_neg h2, if_pos (by omega)]; omega
theorem best_fin (a b : List Int) (i j : Nat) (hi : 0 < i) (hj : 0 < j) (f1 f2 f3 q : Nat) (e1 : dd a b (i - 1) (j - 1) + n01 a b (i - 1) (j - 1) = f1) (e2 : dd a b (i - 1) j + 1 = f2) (e3 : dd a b i (j - 1) + 1 = f3) (eq : n01 a b (i - 1) (j - 1) = q) :
    (if f3 < (if f2 < f1 then f2 else f1) then 3 else (if f2 < f1 then 2 else q)) = kd a b i j ∧ (if f3 < (if f2 < f1 then f2 else f1) then f3 else (if f2 < f1 then f2 else f1)) = dd a b i j := by
  obtain ⟨i, rfl⟩ : ∃ i', i = i' + 1 := ⟨i - 1, by omega⟩
  obtain ⟨j, rfl⟩ : ∃ j', j = j' + 1 := ⟨j - 1, by omega⟩
  simp only [Nat.add_sub_cancel] at *
  have hd := dd_both a b i j
  rw [e1, e2, e3] at hd
  obtain ⟨h1, h2⟩ := pick3 f1 f2 f3 q _ hd
  refine ⟨?_, h2⟩
  rw [h1]
  unfold kd
  simp only [Nat.add_sub_cancel]
  rw [e1, e2, eq]
  simp
set_option maxRecDepth 100000 in
set_option maxHeartbeats 2000000 in
theorem best_c (G : Nat) (A B : Option Addr) (a b : List Int) (ca cb gf N cf i j : Nat) (w : World) (hc0 : w.cell? ⟨G, 0, none⟩ = some (.slice A a.length ca)) (hc1 : w.cell? ⟨G, 1, none⟩ = some (.slice B b.length cb)) (hc2 : w.cell? ⟨G, 2, none⟩ = some (.slice (some ⟨gf, 0, none⟩) N cf))
    (hA : SlA (eInt .i32) w A a) (hB : SlA (eInt .i32) w B b) (hF : ∀ x y, x ≤ i → y ≤ j → x + y < i + j → w.cell? ⟨gf, x * (b.length + 1) + y, none⟩ = some (.int .u8 (dd a b x y)))
    (hN : N = (a.length + 1) * (b.length + 1)) (ha : a.length ≤ 64) (hb : b.length ≤ 64) (hi : i ≤ a.length) (hj : j ≤ b.length) (hij : 0 < i + j) :
    Calls Tryz.prog 201 #[.pointer (some ⟨G, 0, none⟩), .int .i64 i, .int .i64 j] w fun e w' => e = .returned (.tuple #[.int .u8 (kd a b i j), .int .u8 (dd a b i j)]) ∧ Below w.heap.size w w' := by
  rcases Nat.eq_zero_or_pos i with h0 | h0
  · subst h0
    have k1 : kd a b 0 j = 3 := by unfold kd; rw [if_neg (by omega), if_neg (by omega)]
    have k2 : dd a b 0 j = j := dd_zero a b j
    have f3 := hF 0 (j - 1) (by omega) (by omega) (by omega)
    rw [dd_zero, Nat.zero_mul, Nat.zero_add] at f3
    have l3 : ((j - 1 : Nat) : Int) < (N : Int) := by
      have : (0 : Nat) * (b.length + 1) + (j - 1) < (a.length + 1) * (b.length + 1) := place_lt hi (by omega)
      rw [Nat.zero_mul, Nat.zero_add] at this
      rw [hN]; exact Int.ofNat_lt.2 this
    have HN := Lib.hid hN
    clear hN hF
    have hwj : IntKind.i64.wrap ((j : Int) - 1) = ((j - 1 : Nat) : Int) := by rw [IntWalk.i64_in _ (by omega)]; omega
    have hwu3 : IntKind.u8.wrap (((j - 1 : Nat) : Int) + 1) = (j : Int) := by rw [IntWalk.u8_in _ (by omega)]; omega
    have hat : ∀ W : World, Below w.heap.size w W → ∀ n, Calls Tryz.prog 202 #[.pointer (some ⟨G, 0, none⟩), .int .i64 0, .int .i64 (j - 1 : Nat)] (W.drewN n) fun e w' => e = .returned (.int .i64 (j - 1 : Nat)) ∧ w' = W.drewN n := fun W hW n => by
      have := at_c G _ b.length cb 0 (j - 1) _ (bkc (Bdn hW n) hc1) hb (by omega) (by omega)
      simpa using this
    go_enter Tryz.func201, Tryz.ntmps201
    go_wp2_with fail
    have hbW : Below w.heap.size w ((w.alloc (Obj.cells #[Value.int IntKind.u8 0] 5)).alloc (Obj.cells #[Value.int IntKind.u8 255] 5)) := Bel
    have hk := (Boxed.new w 5 (.int .u8 0)).alloc (Obj.cells #[Value.int IntKind.u8 255] 5)
    have hn := Boxed.new (w.alloc (Obj.cells #[Value.int IntKind.u8 0] 5)) 5 (.int .u8 255)
    rw [World.size_alloc] at hn
    generalize (w.alloc (Obj.cells #[Value.int IntKind.u8 0] 5)).alloc (Obj.cells #[Value.int IntKind.u8 255] 5) = W at hbW hk hn ⊢
    have c1 := bkc hbW hc1
    have c2 := bkc hbW hc2
    have g3 := bkc hbW f3
    refine region_qtail 13 (by kernel_rfl) (by kernel_rfl) (fun W' => ∃ n, W' = World.drewN W n) ⟨1, rfl⟩ ?_
    simp only [List.take_succ_cons, List.take_zero, List.drop_succ_cons, List.drop_zero]
    repeat (quiet_step ((go_at_call 202; exact Calls.quiet_of_same (hat W hbW _))))
    refine wpQuiet_nil ?_
    intro _ hw'
    obtain ⟨nq3, rfl⟩ := hw'
    go_wp2_with fail
    refine (try_c w.heap.size (w.heap.size + 1) 255 0 3 (j : Nat) (W.drewN _) hk hn (by omega)).mono ?_
    rintro e w3 ⟨rfl, hk3, hn3, hkb3, hz3⟩
    have hbW3 : Below w.heap.size w w3 := hkb3.to (by simp) (Bdn hbW _) (Nat.le_refl _)
    rw [if_pos (by omega)] at hk3 hn3
    have y1 := hk3.cell
    have y2 := hk3.frozen
    have y3 := hn3.cell
    have y4 := hn3.frozen
    go_wp2_with fail
    go_region
    go_wp2
    have hk4 : Boxed w3 w.heap.size 5 (.int .u8 3) := hk3
    have hn4 : Boxed w3 (w.heap.size + 1) 5 (.int .u8 j) := hn3
    have z3 := ((hn4.other (B' := w.heap.size) (by omega) (.int .u8 3)).set (.int .u8 j)).cell
    refine bodyPost_ret (v := .tuple #[.int .u8 3, .int .u8 j]) (by simp [results, Tryz.f201, go_sem, (hk4.set _).cell, z3]) rfl ?_
    rw [k1, k2]
    exact ⟨rfl, Below.drew (Bsc (Bsc hbW3 (Nat.le_refl _) _) (by simp) _)⟩
  · rcases Nat.eq_zero_or_pos j with h1 | h1
    · subst h1
      have k1 : kd a b i 0 = 2 := by unfold kd; rw [if_neg (by omega), if_pos ⟨h0, by rw [dd_left, dd_left]; omega⟩]
      have k2 : dd a b i 0 = i := dd_left a b i
      obtain ⟨p2, hp2⟩ : ∃ p, (i - 1) * (b.length + 1) = p := ⟨_, rfl⟩
      have f3 := hF (i - 1) 0 (by omega) (by omega) (by omega)
      rw [dd_left, hp2, Nat.add_zero] at f3
      have l3 : (p2 : Int) < (N : Int) := by
        have : (i - 1) * (b.length + 1) + 0 < (a.length + 1) * (b.length + 1) := place_lt (by omega) (by omega)
        rw [hp2, Nat.add_zero] at this
        rw [hN]; exact Int.ofNat_lt.2 this
      have HN := Lib.hid hN
      clear hN hF
      have HP2 := Lib.hid hp2
      clear hp2
      have hwi : IntKind.i64.wrap ((i : Int) - 1) = ((i - 1 : Nat) : Int) := by rw [IntWalk.i64_in _ (by omega)]; omega
      have hwu3 : IntKind.u8.wrap (((i - 1 : Nat) : Int) + 1) = (i : Int) := by rw [IntWalk.u8_in _ (by omega)]; omega
      have hat : ∀ W : World, Below w.heap.size w W → ∀ n, Calls Tryz.prog 202 #[.pointer (some ⟨G, 0, none⟩), .int .i64 (i - 1 : Nat), .int .i64 0] (W.drewN n) fun e w' => e = .returned (.int .i64 p2) ∧ w' = W.drewN n := fun W hW n => by
        have := at_c G _ b.length cb (i - 1) 0 _ (bkc (Bdn hW n) hc1) hb (by omega) (by omega)
        rw [HP2.out] at this
        simpa using this
      go_enter Tryz.func201, Tryz.ntmps201
      go_wp2_with fail
      have hbW : Below w.heap.size w ((w.alloc (Obj.cells #[Value.int IntKind.u8 0] 5)).alloc (Obj.cells #[Value.int IntKind.u8 255] 5)) := Bel
      have hk := (Boxed.new w 5 (.int .u8 0)).alloc (Obj.cells #[Value.int IntKind.u8 255] 5)
      have hn := Boxed.new (w.alloc (Obj.cells #[Value.int IntKind.u8 0] 5)) 5 (.int .u8 255)
      rw [World.size_alloc] at hn
      generalize (w.alloc (Obj.cells #[Value.int IntKind.u8 0] 5)).alloc (Obj.cells #[Value.int IntKind.u8 255] 5) = W at hbW hk hn ⊢
      have c1 := bkc hbW hc1
      have c2 := bkc hbW hc2
      have g3 := bkc hbW f3
      refine region_qtail 13 (by kernel_rfl) (by kernel_rfl) (fun W' => ∃ n, W' = World.drewN W n) ⟨1, rfl⟩ ?_
      simp only [List.take_succ_cons, List.take_zero, List.drop_succ_cons, List.drop_zero]
      repeat (quiet_step ((go_at_call 202; exact Calls.quiet_of_same (hat W hbW _))))
      refine wpQuiet_nil ?_
      intro _ hw'
      obtain ⟨nq3, rfl⟩ := hw'
      go_wp2_with fail
      refine (try_c w.heap.size (w.heap.size + 1) 255 0 2 (i : Nat) (W.drewN _) hk hn (by omega)).mono ?_
      rintro e w3 ⟨rfl, hk3, hn3, hkb3, hz3⟩
      have hbW3 : Below w.heap.size w w3 := hkb3.to (by simp) (Bdn hbW _) (Nat.le_refl _)
      rw [if_pos (by omega)] at hk3 hn3
      have y1 := hk3.cell
      have y2 := hk3.frozen
      have y3 := hn3.cell
      have y4 := hn3.frozen
      go_wp2_with fail
      go_region
      go_wp2
      have hk4 : Boxed w3 w.heap.size 5 (.int .u8 2) := hk3
      have hn4 : Boxed w3 (w.heap.size + 1) 5 (.int .u8 i) := hn3
      have z3 := ((hn4.other (B' := w.heap.size) (by omega) (.int .u8 2)).set (.int .u8 i)).cell
      refine bodyPost_ret (v := .tuple #[.int .u8 2, .int .u8 i]) (by simp [results, Tryz.f201, go_sem, (hk4.set _).cell, z3]) rfl ?_
      rw [k1, k2]
      exact ⟨rfl, Below.drew (Bsc (Bsc hbW3 (Nat.le_refl _) _) (by simp) _)⟩
    · obtain ⟨p1, hp1⟩ : ∃ p, (i - 1) * (b.length + 1) + (j - 1) = p := ⟨_, rfl⟩
      obtain ⟨p2, hp2⟩ : ∃ p, (i - 1) * (b.length + 1) + j = p := ⟨_, rfl⟩
      obtain ⟨p3, hp3⟩ : ∃ p, i * (b.length + 1) + (j - 1) = p := ⟨_, rfl⟩
      have l1 : (p1 : Int) < (N : Int) := by rw [hN, ← hp1]; exact Int.ofNat_lt.2 (place_lt (by omega) (by omega))
      have l2 : (p2 : Int) < (N : Int) := by rw [hN, ← hp2]; exact Int.ofNat_lt.2 (place_lt (by omega) hj)
      have l3 : (p3 : Int) < (N : Int) := by rw [hN, ← hp3]; exact Int.ofNat_lt.2 (place_lt hi (by omega))
      have f1 := hF (i - 1) (j - 1) (by omega) (by omega) (by omega)
      have f2 := hF (i - 1) j (by omega) (by omega) (by omega)
      have f3 := hF i (j - 1) (by omega) (by omega) (by omega)
      have b1 := dd_le a b _ (i - 1) (j - 1) (Nat.le_refl _)
      have b2 := dd_le a b _ (i - 1) j (Nat.le_refl _)
      have b3 := dd_le a b _ i (j - 1) (Nat.le_refl _)
      have HFIN := Lib.hid (best_fin a b i j h0 h1 _ _ _ _ rfl rfl rfl rfl)
      obtain ⟨d1, hd1⟩ : ∃ d, dd a b (i - 1) (j - 1) = d := ⟨_, rfl⟩
      obtain ⟨d2, hd2⟩ : ∃ d, dd a b (i - 1) j = d := ⟨_, rfl⟩
      obtain ⟨d3, hd3⟩ : ∃ d, dd a b i (j - 1) = d := ⟨_, rfl⟩
      rw [hd1] at f1 b1
      rw [hd2] at f2 b2
      rw [hd3] at f3 b3
      rw [hp1] at f1
      rw [hp2] at f2
      rw [hp3] at f3
      have HP1 := Lib.hid hp1
      have HP2 := Lib.hid hp2
      have HP3 := Lib.hid hp3
      have HD1 := Lib.hid hd1
      have HD2 := Lib.hid hd2
      have HD3 := Lib.hid hd3
      have HN := Lib.hid hN
      clear hp1 hp2 hp3 hd1 hd2 hd3 hN hF
      have hwi : IntKind.i64.wrap ((i : Int) - 1) = ((i - 1 : Nat) : Int) := by rw [IntWalk.i64_in _ (by omega)]; omega
      have hwj : IntKind.i64.wrap ((j : Int) - 1) = ((j - 1 : Nat) : Int) := by rw [IntWalk.i64_in _ (by omega)]; omega
      obtain ⟨ba, oa, rfl, x1⟩ := hA.at1 (fun _ => rfl) (Below.refl _ _) (i - 1) (by omega)
      obtain ⟨bb, ob, rfl, y1⟩ := hB.at1 (fun _ => rfl) (Below.refl _ _) (j - 1) (by omega)
      have hat : ∀ W : World, Below w.heap.size w W → ∀ x y : Nat, x ≤ 64 → y ≤ 64 → ∀ n, Calls Tryz.prog 202 #[.pointer (some ⟨G, 0, none⟩), .int .i64 x, .int .i64 y] (W.drewN n) fun e w' => e = .returned (.int .i64 (x * (b.length + 1) + y : Nat)) ∧ w' = W.drewN n := fun W hW x y hx hy n => at_c G _ b.length cb x y _ (bkc (Bdn hW n) hc1) hb hx hy
      go_enter Tryz.func201, Tryz.ntmps201
      go_wp2_with fail
      have hbW : Below w.heap.size w ((w.alloc (Obj.cells #[Value.int IntKind.u8 0] 5)).alloc (Obj.cells #[Value.int IntKind.u8 255] 5)) := Bel
      have hk := (Boxed.new w 5 (.int .u8 0)).alloc (Obj.cells #[Value.int IntKind.u8 255] 5)
      have hn := Boxed.new (w.alloc (Obj.cells #[Value.int IntKind.u8 0] 5)) 5 (.int .u8 255)
      rw [World.size_alloc] at hn
      generalize (w.alloc (Obj.cells #[Value.int IntKind.u8 0] 5)).alloc (Obj.cells #[Value.int IntKind.u8 255] 5) = W at hbW hk hn ⊢
      have c0 := bkc hbW hc0
      have c1 := bkc hbW hc1
      have c2 := bkc hbW hc2
      have g1 := bkc hbW f1
      have xx := bkc hbW x1
      have yy := bkc hbW y1
      go_quiet ((go_at_call 202; exact Calls.quiet_of_same (by have := hat W hbW (i - 1) (j - 1) (by omega) (by omega); rw [HP1.out] at this; exact this _)))
      go_wp2_with fail
      have hi1 : ((i - 1 : Nat) : Int) < a.length := by omega
      have hj1 : ((j - 1 : Nat) : Int) < b.length := by omega
      have hwu1 : IntKind.u8.wrap ((d1 : Int) + 1) = ((d1 + 1 : Nat) : Int) := by rw [IntWalk.u8_in _ (by omega)]; omega
      have hwu2 : IntKind.u8.wrap ((d2 : Int) + 1) = ((d2 + 1 : Nat) : Int) := by rw [IntWalk.u8_in _ (by omega)]; omega
      have hwu3 : IntKind.u8.wrap ((d3 : Int) + 1) = ((d3 + 1 : Nat) : Int) := by rw [IntWalk.u8_in _ (by omega)]; omega
      by_cases hq : a[i - 1] = b[j - 1]
      · have HQ : Hid (n01 a b (i - 1) (j - 1) = 0) := by show _ = _; unfold n01; rw [nth_at (by omega), nth_at (by omega), if_pos hq]
        have he : (a[i - 1] == b[j - 1]) = true := by simpa using hq
        clear hq
        go_quiet (fail)
        go_wp2_with fail
        refine (try_c w.heap.size (w.heap.size + 1) 255 0 0 d1 (W.drewN _) hk hn (by omega)).mono ?_
        rintro e w1 ⟨rfl, hk1, hn1, hkb1, hz1⟩
        have hbW1 : Below w.heap.size w w1 := hkb1.to (by simp) (Bdn hbW _) (Nat.le_refl _)
        have d1l : (d1 : Int) < 255 := by omega
        rw [if_pos d1l] at hk1 hn1
        obtain ⟨q, f1, hqf, hf1, hkq, hnq⟩ : ∃ q f1 : Nat, Hid (n01 a b (i - 1) (j - 1) = q ∧ d1 + q = f1) ∧ f1 ≤ 129 ∧ Boxed w1 w.heap.size 5 (.int .u8 q) ∧ Boxed w1 (w.heap.size + 1) 5 (.int .u8 f1) := ⟨0, d1, ⟨HQ.out, rfl⟩, by omega, hk1, hn1⟩
        clear hk1 hn1
        go_wp2_with fail
        have c2' := bkc hbW1 hc2
        have c1' := bkc hbW1 hc1
        have g2 := bkc hbW1 f2
        refine region_qtail 13 (by kernel_rfl) (by kernel_rfl) (fun W => ∃ n, W = World.drewN w1 n) ⟨1, rfl⟩ ?_
        simp only [List.take_succ_cons, List.take_zero, List.drop_succ_cons, List.drop_zero]
        repeat (quiet_step ((go_at_call 202; exact Calls.quiet_of_same (by have := hat w1 hbW1 (i - 1) j (by omega) (by omega); rw [HP2.out] at this; exact this _))))
        refine wpQuiet_nil ?_
        intro _ hw'
        obtain ⟨nq2, rfl⟩ := hw'
        go_wp2_with (go_at_call 237; refine (try_c w.heap.size (w.heap.size + 1) f1 q 2 (d2 + 1 : Nat) (w1.drewN _) hkq hnq (by omega)).mono ?_; rintro e w2 ⟨rfl, hk2, hn2, hkb2, hz2⟩)
        have hbW2 : Below w.heap.size w w2 := hkb2.to (by simp) (Bdn hbW1 _) (Nat.le_refl _)
        have c2' := bkc hbW2 hc2
        have c1' := bkc hbW2 hc1
        have g3 := bkc hbW2 f3
        have e2 : (if ((d2 + 1 : Nat) : Int) < f1 then (2 : Int) else q) = ((if d2 + 1 < f1 then 2 else q : Nat) : Int) := ite_cast (d2 + 1) f1 2 q
        have e3 : (if ((d2 + 1 : Nat) : Int) < f1 then ((d2 + 1 : Nat) : Int) else f1) = ((if d2 + 1 < f1 then d2 + 1 else f1 : Nat) : Int) := ite_cast (d2 + 1) f1 (d2 + 1) f1
        rw [e2] at hk2
        rw [e3] at hn2
        clear e2 e3
        refine region_qtail 13 (by kernel_rfl) (by kernel_rfl) (fun W => ∃ n, W = World.drewN w2 n) ⟨1, rfl⟩ ?_
        simp only [List.take_succ_cons, List.take_zero, List.drop_succ_cons, List.drop_zero]
        repeat (quiet_step ((go_at_call 202; exact Calls.quiet_of_same (by have := hat w2 hbW2 i (j - 1) (by omega) (by omega); rw [HP3.out] at this; exact this _))))
        refine wpQuiet_nil ?_
        intro _ hw'
        obtain ⟨nq3, rfl⟩ := hw'
        go_wp2_with fail
        refine (try_c w.heap.size (w.heap.size + 1) _ _ 3 (d3 + 1 : Nat) (w2.drewN _) hk2 hn2 (by omega)).mono ?_
        rintro e w3 ⟨rfl, hk3, hn3, hkb3, hz3⟩
        have hbW3 : Below w.heap.size w w3 := hkb3.to (by simp) (Bdn hbW2 _) (Nat.le_refl _)
        obtain ⟨hq1, hq2⟩ := hqf.out
        obtain ⟨r1, r2⟩ := best_fin a b i j h0 h1 f1 (d2 + 1) (d3 + 1) q (by rw [HD1.out, hq1]; exact hq2) (by rw [HD2.out]) (by rw [HD3.out]) hq1
        have e2 : (if ((d3 + 1 : Nat) : Int) < ((if d2 + 1 < f1 then d2 + 1 else f1 : Nat) : Int) then (3 : Int) else ((if d2 + 1 < f1 then 2 else q : Nat) : Int)) = ((kd a b i j : Nat) : Int) := by rw [← r1]; exact ite_cast (d3 + 1) _ 3 _
        have e3 : (if ((d3 + 1 : Nat) : Int) < ((if d2 + 1 < f1 then d2 + 1 else f1 : Nat) : Int) then ((d3 + 1 : Nat) : Int) else ((if d2 + 1 < f1 then d2 + 1 else f1 : Nat) : Int)) = ((dd a b i j : Nat) : Int) := by rw [← r2]; exact ite_cast (d3 + 1) _ (d3 + 1) _
        rw [e2] at hk3
        rw [e3] at hn3
        clear e2 e3 r1 r2
        have y1 := hk3.cell
        have y2 := hk3.frozen
        have y3 := hn3.cell
        have y4 := hn3.frozen
        go_wp2_with fail
        go_region
        go_wp2
        have hk4 : Boxed w3 w.heap.size 5 (.int .u8 (kd a b i j)) := hk3
        have hn4 : Boxed w3 (w.heap.size + 1) 5 (.int .u8 (dd a b i j)) := hn3
        have z3 := ((hn4.other (B' := w.heap.size) (by omega) (.int .u8 (kd a b i j))).set (.int .u8 (dd a b i j))).cell
        refine bodyPost_ret (v := .tuple #[.int .u8 (kd a b i j), .int .u8 (dd a b i j)]) (by simp [results, Tryz.f201, go_sem, (hk4.set _).cell, z3]) rfl ?_
        exact ⟨rfl, Below.drew (Bsc (Bsc hbW3 (Nat.le_refl _) _) (by simp) _)⟩
      · have HQ : Hid (n01 a b (i - 1) (j - 1) = 1) := by show _ = _; unfold n01; rw [nth_at (by omega), nth_at (by omega), if_neg hq]
        have he : (a[i - 1] == b[j - 1]) = false := by simpa using hq
        clear hq
        go_quiet (fail)
        go_wp2_with fail
        refine (try_c w.heap.size (w.heap.size + 1) 255 0 1 (d1 + 1 : Nat) (W.drewN _) hk hn (by omega)).mono ?_
        rintro e w1 ⟨rfl, hk1, hn1, hkb1, hz1⟩
        have hbW1 : Below w.heap.size w w1 := hkb1.to (by simp) (Bdn hbW _) (Nat.le_refl _)
        have d1l : ((d1 + 1 : Nat) : Int) < 255 := by omega
        rw [if_pos d1l] at hk1 hn1
        obtain ⟨q, f1, hqf, hf1, hkq, hnq⟩ : ∃ q f1 : Nat, Hid (n01 a b (i - 1) (j - 1) = q ∧ d1 + q = f1) ∧ f1 ≤ 129 ∧ Boxed w1 w.heap.size 5 (.int .u8 q) ∧ Boxed w1 (w.heap.size + 1) 5 (.int .u8 f1) := ⟨1, d1 + 1, ⟨HQ.out, rfl⟩, by omega, hk1, hn1⟩
        clear hk1 hn1
        go_wp2_with fail
        have c2' := bkc hbW1 hc2
        have c1' := bkc hbW1 hc1
        have g2 := bkc hbW1 f2
        refine region_qtail 13 (by kernel_rfl) (by kernel_rfl) (fun W => ∃ n, W = World.drewN w1 n) ⟨1, rfl⟩ ?_
        simp only [List.take_succ_cons, List.take_zero, List.drop_succ_cons, List.drop_zero]
        repeat (quiet_step ((go_at_call 202; exact Calls.quiet_of_same (by have := hat w1 hbW1 (i - 1) j (by omega) (by omega); rw [HP2.out] at this; exact this _))))
        refine wpQuiet_nil ?_
        intro _ hw'
        obtain ⟨nq2, rfl⟩ := hw'
        go_wp2_with (go_at_call 237; refine (try_c w.heap.size (w.heap.size + 1) f1 q 2 (d2 + 1 : Nat) (w1.drewN _) hkq hnq (by omega)).mono ?_; rintro e w2 ⟨rfl, hk2, hn2, hkb2, hz2⟩)
        have hbW2 : Below w.heap.size w w2 := hkb2.to (by simp) (Bdn hbW1 _) (Nat.le_refl _)
        have c2' := bkc hbW2 hc2
        have c1' := bkc hbW2 hc1
        have g3 := bkc hbW2 f3
        have e2 : (if ((d2 + 1 : Nat) : Int) < f1 then (2 : Int) else q) = ((if d2 + 1 < f1 then 2 else q : Nat) : Int) := ite_cast (d2 + 1) f1 2 q
        have e3 : (if ((d2 + 1 : Nat) : Int) < f1 then ((d2 + 1 : Nat) : Int) else f1) = ((if d2 + 1 < f1 then d2 + 1 else f1 : Nat) : Int) := ite_cast (d2 + 1) f1 (d2 + 1) f1
        rw [e2] at hk2
        rw [e3] at hn2
        clear e2 e3
        refine region_qtail 13 (by kernel_rfl) (by kernel_rfl) (fun W => ∃ n, W = World.drewN w2 n) ⟨1, rfl⟩ ?_
        simp only [List.take_succ_cons, List.take_zero, List.drop_succ_cons, List.drop_zero]
        repeat (quiet_step ((go_at_call 202; exact Calls.quiet_of_same (by have := hat w2 hbW2 i (j - 1) (by omega) (by omega); rw [HP3.out] at this; exact this _))))
        refine wpQuiet_nil ?_
        intro _ hw'
        obtain ⟨nq3, rfl⟩ := hw'
        go_wp2_with fail
        refine (try_c w.heap.size (w.heap.size + 1) _ _ 3 (d3 + 1 : Nat) (w2.drewN _) hk2 hn2 (by omega)).mono ?_
        rintro e w3 ⟨rfl, hk3, hn3, hkb3, hz3⟩
        have hbW3 : Below w.heap.size w w3 := hkb3.to (by simp) (Bdn hbW2 _) (Nat.le_refl _)
        obtain ⟨hq1, hq2⟩ := hqf.out
        obtain ⟨r1, r2⟩ := best_fin a b i j h0 h1 f1 (d2 + 1) (d3 + 1) q (by rw [HD1.out, hq1]; exact hq2) (by rw [HD2.out]) (by rw [HD3.out]) hq1
        have e2 : (if ((d3 + 1 : Nat) : Int) < ((if d2 + 1 < f1 then d2 + 1 else f1 : Nat) : Int) then (3 : Int) else ((if d2 + 1 < f1 then 2 else q : Nat) : Int)) = ((kd a b i j : Nat) : Int) := by rw [← r1]; exact ite_cast (d3 + 1) _ 3 _
        have e3 : (if ((d3 + 1 : Nat) : Int) < ((if d2 + 1 < f1 then d2 + 1 else f1 : Nat) : Int) then ((d3 + 1 : Nat) : Int) else ((if d2 + 1 < f1 then d2 + 1 else f1 : Nat) : Int)) = ((dd a b i j : Nat) : Int) := by rw [← r2]; exact ite_cast (d3 + 1) _ (d3 + 1) _
        rw [e2] at hk3
        rw [e3] at hn3
        clear e2 e3 r1 r2
        have y1 := hk3.cell
        have y2 := hk3.frozen
        have y3 := hn3.cell
        have y4 := hn3.frozen
        go_wp2_with fail
        go_region
        go_wp2
        have hk4 : Boxed w3 w.heap.size 5 (.int .u8 (kd a b i j)) := hk3
        have hn4 : Boxed w3 (w.heap.size + 1) 5 (.int .u8 (dd a b i j)) := hn3
        have z3 := ((hn4.other (B' := w.heap.size) (by omega) (.int .u8 (kd a b i j))).set (.int .u8 (dd a b i j))).cell
        refine bodyPost_ret (v := .tuple #[.int .u8 (kd a b i j), .int .u8 (dd a b i j)]) (by simp [results, Tryz.f201, go_sem, (hk4.set _).cell, z3]) rfl ?_
        exact ⟨rfl, Below.drew (Bsc (Bsc hbW3 (Nat.le_refl _) _) (by simp) _)⟩
end Go.Proofs.YtpnhmapkdbnkmaaGreatDoor
