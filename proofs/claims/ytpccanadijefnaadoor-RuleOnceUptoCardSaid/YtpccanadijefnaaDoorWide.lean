/- The program's layer 3: numbers of nine words. No condition. -/
import Derived.Test.YtpccanadijefnaaDoorReg
import Derived.Test.YtpccanadijefnaaDoorLog
import Derived.Test.YtpccanadijefnaaDoorProg
import Derived.Lib.Hide
import Derived.Laws.Rows
import Derived.Laws.BitsAllLaws
import Derived.Great.Ranges
import Derived.Great.BuildSlice
import Derived.Deep.QuietTactic
namespace Go.Proofs.YtpccanadijefnaaDoor
open Go Go.RowKit Go.Great
def wv (l : List Nat) : Array Value := (l.map fun x : Nat => Value.int .u64 (x : Int)).toArray
theorem wv_size (l : List Nat) : (wv l).size = l.length := by simp [wv]
theorem wv_one (l : List Nat) : (wv l).all (·.oneCell') = true := by
  rw [Array.all_eq_true_iff_forall_mem]
  intro v hv
  simp only [wv, List.mem_toArray, List.mem_map] at hv
  obtain ⟨x, _, rfl⟩ := hv
  rfl
/-- Block b holds a number's words. -/
def Wx (w : World) (b : Nat) (l : List Nat) : Prop := w.heap[b]? = some (.cells (wv l) 188 (0, 0))
theorem Wx.lt {w : World} {b : Nat} {l : List Nat} (h : Wx w b l) : b < w.heap.size := (Array.getElem?_eq_some_iff.1 h).1
theorem Wx.cell {w : World} {b : Nat} {l : List Nat} (h : Wx w b l) (j : Nat) (hj : j < l.length) : w.cell? ⟨b, j, none⟩ = some (.int .u64 (l[j] : Nat)) := by
  rw [cell_of_row w b j _ _ _ h]; simp [wv, hj]
theorem Wx.free {w : World} {b : Nat} {l : List Nat} (h : Wx w b l) (j : Nat) : w.frozen? ⟨b, j, none⟩ = false := frozen_of_row w b j _ _ h
theorem Wx.below {w w' : World} {b : Nat} {l : List Nat} (h : Wx w b l) (hb : Below w.heap.size w w') : Wx w' b l := (hb.block b h.lt).trans h
theorem Wx.put {w : World} {b : Nat} {l : List Nat} (h : Wx w b l) (j : Nat) (v : Nat) : Wx (w.setCell ⟨b, j, none⟩ (.int .u64 (v : Int))) b (l.set j v) := by
  unfold Wx
  rw [heap_setCell_same w b j _ _ _ h]
  congr 2
  simp [wv, List.map_set]
theorem Wx.other {w : World} {b : Nat} {l : List Nat} (h : Wx w b l) (p : Addr) (hp : b ≠ p.block) (v : Value) : Wx (w.setCell p v) b l := (heap_setCell_other w p b v hp).trans h
theorem Wx.row {w : World} {b : Nat} {l m : List Nat} (h : Wx w b l) : Wx (w.setRow b (wv m)) b m := setRow_heap w b _ _ _ _ h
theorem index_wv (l : List Nat) (k : Nat) (hk : k < l.length) (h9 : k < 9) (W : World) : (Instr.index 188 (.agg (wv l)) (.int .i64 k)).run Tryd.prog W = .ok (.int .u64 (l[k] : Nat)) W := by
  have h1 : (isAgg 186).run Tryd.prog W = .ok false W := by kernel_rfl
  have h2 : (Go.sizeOf 186).run Tryd.prog W = .ok 1 W := by kernel_rfl
  have h3 : (wv l)[k]? = some (.int .u64 (l[k] : Nat)) := by simp [wv, hk]
  simp [Instr.index, asIntOf, run_underlying Tryd.underlying188, h2, part, h1, h3, Result.andThen]
  omega
theorem or_even (x c : Nat) (hc : c < 2) : bits .or .u64 (IntKind.u64.wrap ((x : Int) * 2)) (c : Int) = ((2 * x % 18446744073709551616 + c : Nat) : Int) := by
  have e : IntKind.u64.wrap ((x : Int) * 2) = ((2 * x % 18446744073709551616 : Nat) : Int) := by rw [IntKind.wrap_u64]; omega
  rw [e, u64_or_nat _ _ (by omega) (by omega)]
  congr 1
  have h := Nat.two_pow_add_eq_or_of_lt (i := 1) (b := c) (by omega) (2 * x % 18446744073709551616 / 2)
  have h2 : 2 ^ 1 * (2 * x % 18446744073709551616 / 2) = 2 * x % 18446744073709551616 := by omega
  rw [h2] at h
  exact h.symm
theorem set_zero {l : List Nat} {k v : Nat} (h : ∀ j (h : j < l.length), k ≤ j → l[j] = 0) : ∀ j (h : j < (l.set k v).length), k + 1 ≤ j → (l.set k v)[j] = 0 := fun j hj h1 => by
  rw [List.getElem_set_ne (by omega)]
  exact h j (by simpa using hj) (by omega)
theorem Bsr {a W : World} (h : Below a.heap.size a W) (g : Nat) (hg : a.heap.size ≤ g) (cs : Array Value) : Below a.heap.size a (W.setRow g cs) :=
  ⟨h.os, h.tape, h.output, by rw [size_setRow]; exact h.size, fun i hi => (setRow_other W g i cs (by omega)).trans (h.block i hi)⟩
theorem info_wide : (Tryd.prog.info? 188).map (·.size) = some 9 := by kernel_rfl
set_option maxHeartbeats 1000000 in
set_option maxRecDepth 100000 in
theorem double_c (l : List Nat) (w : World) (hl : WdB l) : Calls Tryd.prog 141 #[.agg (wv l)] w fun e w' => ∃ m, e = .returned (.agg (wv m)) ∧ Below w.heap.size w w' ∧ WdB m ∧ (vW l * 2 < 18446744073709551616 ^ 9 → vW m = 2 * vW l) := by
  have hsz : (Value.agg (wv l)).cells = wv l := rfl
  go_enter Tryd.func141, Tryd.ntmps141
  have hW0 : Wx (w.alloc (.cells (wv l) 188)) w.heap.size l := heap_alloc_new w _
  have hW1 : Wx ((w.alloc (.cells (wv l) 188)).alloc (.cells (wv [0, 0, 0, 0, 0, 0, 0, 0, 0]) 188)) w.heap.size l := hW0.below (Bal (Below.refl _ _) _)
  go_wp2_with (refine wpList_load_row rfl 188 (.tmp 1) rfl w.heap.size rfl 188 (wv l) (0, 0) _ hW1 Tryd.underlying188 rfl (by rw [wv_size, hl.1]; exact info_wide) ?_)
  have hW2 : Wx ((w.alloc (.cells (wv l) 188)).alloc (.cells (wv [0, 0, 0, 0, 0, 0, 0, 0, 0]) 188)) (w.heap.size + 1) [0, 0, 0, 0, 0, 0, 0, 0, 0] := by
    have := heap_alloc2_new w (.cells (wv l) 188) (.cells (wv [0, 0, 0, 0, 0, 0, 0, 0, 0]) 188)
    exact this
  have hB : Below w.heap.size w ((w.alloc (.cells (wv l) 188)).alloc (.cells (wv [0, 0, 0, 0, 0, 0, 0, 0, 0]) 188)) := Bel
  go_loopw [3, 7] (fun c i wr => ∃ (k c' : Nat) (m : List Nat), k ≤ 9 ∧ i = .int .i64 k ∧ c = .int .u64 (c' : Int) ∧ c' < 2 ∧ Hid (Wx wr (w.heap.size + 1) m) ∧ Hid (WdB m ∧ (∀ j (h : j < m.length), k ≤ j → m[j] = 0) ∧ vW m + c' * 18446744073709551616 ^ k = 2 * vW (l.take k)) ∧ Below w.heap.size w wr) (fun _ i _ => 9 - (intOf i).toNat)
  case atStart => exact ⟨0, 0, _, by omega, rfl, rfl, by omega, hW2, ⟨⟨rfl, by simp⟩, fun j h _ => List.eq_of_mem_replicate (n := 9) (List.getElem_mem h), by rfl⟩, hB⟩
  case round =>
    clear hW0 hW1 hW2 hB
    obtain ⟨k, c', m, hk, rfl, rfl, hc, HW, HM, hb⟩ := hrel
    by_cases hlt : k < 9
    · have hkl : k < l.length := by rw [hl.1]; exact hlt
      have hidx : ∀ W, (Instr.index 188 (.agg (wv l)) (.int .i64 k)).run Tryd.prog W = .ok (.int .u64 (l[k] : Nat)) W := index_wv l k hkl hlt
      obtain ⟨x, hx⟩ : ∃ x, l[k] = x := ⟨_, rfl⟩
      have hxl := hl.at k hkl
      rw [hx] at hidx hxl
      have hx := Lib.hid hx
      have hml : k < m.length := by rw [HM.out.1.1]; exact hlt
      have p1 := HW.out.cell k hml
      have f1 := HW.out.free k
      go_wp2
      obtain ⟨⟨hm1, hm2⟩, hz, hv⟩ := HM.out
      have hWp := HW.out.put k (2 * x % 18446744073709551616 + c')
      rw [← or_even x c' hc] at hWp
      refine ⟨⟨k + 1, x / 9223372036854775808, _, by omega, by go_num, by simp, by omega, hWp, ⟨WdB.set ⟨hm1, hm2⟩ k (by omega), set_zero hz, ?_⟩, Bsc hb (by simp) _⟩, by simp [intOf]; omega⟩
      rw [vW_set k hml, hz k hml (Nat.le_refl _), vW_take k hkl, hx.out, Int.pow_succ]
      have e1 : ((2 * x % 18446744073709551616 + c' : Nat) : Int) + ((x / 9223372036854775808 : Nat) : Int) * 18446744073709551616 = 2 * x + c' := by omega
      generalize ((2 * x % 18446744073709551616 + c' : Nat) : Int) = y at *
      generalize ((x / 9223372036854775808 : Nat) : Int) = z at *
      have e2 : y = 2 * x + c' - z * 18446744073709551616 := by omega
      rw [e2]
      generalize (18446744073709551616 : Int) ^ k = p at *
      have e3 : vW m = 2 * vW (l.take k) - c' * p := by omega
      rw [e3]
      grind
    · obtain rfl : k = 9 := by omega
      obtain ⟨hmd, hz, hv⟩ := HM.out
      have HWW := HW.out
      go_wp2_with (first
        | (refine wpList_load_row rfl 188 (.tmp 2) rfl (w.heap.size + 1) rfl 188 (wv m) (0, 0) _ HWW Tryd.underlying188 rfl (by rw [wv_size, hmd.1]; exact info_wide) ?_)
        | (refine wpList_store_rowTo rfl 188 (.tmp 2) (.tmp 20) rfl rfl (w.heap.size + 1) (wv m) rfl rfl 188 (wv m) HWW (by rw [wv_size, hmd.1]; exact info_wide) rfl (wv_one m) ?_))
      refine bodyPost_ret (results_cell_row rfl _ _ (w.heap.size + 1) 188 (wv m) (0, 0) _ rfl HWW.row Tryd.underlying188 rfl (by rw [wv_size, hmd.1]; exact info_wide)) rfl ?_
      refine ⟨m, rfl, Bsr hb _ (by omega) _, hmd, fun hlt2 => ?_⟩
      rw [List.take_of_length_le (by rw [hl.1]; omega)] at hv
      have h0 := hmd.pos
      have hc0 : c' = 0 ∨ c' = 1 := by omega
      rcases hc0 with rfl | rfl
      · simpa using hv
      · exfalso
        generalize (18446744073709551616 : Int) ^ 9 = q at *
        omega
end Go.Proofs.YtpccanadijefnaaDoor
