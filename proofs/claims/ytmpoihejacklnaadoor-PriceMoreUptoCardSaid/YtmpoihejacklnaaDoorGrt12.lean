/- erratalaw12.great: are rules, and texts, more than are looked at? No condition. -/
import Derived.Test.YtmpoihejacklnaaDoorP01
namespace Go.Proofs.YtmpoihejacklnaaDoor
open Go Go.RowKit
def great12 (xs : List T3) (t v : ByteArray) : Bool := decide (40 < xs.length) || (decide (1000 < bulkT xs) || decide (200 < t.size + v.size))
set_option maxRecDepth 100000 in
set_option maxHeartbeats 1000000 in
theorem great12_c (A : Option Addr) (c : Nat) (xs : List T3) (t v : ByteArray) (w : World) (hs : SlA eT3 w A xs) (hm : Small xs) (hz : t.size ≤ 17592186044416) (hz2 : v.size ≤ 17592186044416) :
    Calls Tryd.prog 11 #[.slice A xs.length c, .string t, .string v] w (Ret w (.bool (great12 xs t v))) := by
  have hl := hm.1
  go_enter Tryd.func11, Tryd.ntmps11
  go_wp2
  go_loopw [7, 12] (fun sn sk wr => ∃ k n : Nat, sk = .int .i64 k ∧ sn = .int .i64 n ∧ k ≤ xs.length ∧ Hid (n = bulkT (xs.take k)) ∧ Below w.heap.size w wr) (fun _ sk _ => xs.length - (intOf sk).toNat)
  case atStart => exact ⟨0, 0, rfl, rfl, by omega, by show _ = _; simp [bulkT], Bel⟩
  case round =>
    obtain ⟨k, n, rfl, rfl, hk, HN, hb⟩ := hrel
    have hbl := bulkT_le hm k hk
    have hnb : n ≤ 1048576 * 2097152 := by have := HN.out; omega
    clear hbl
    by_cases hlt : k < xs.length
    · obtain ⟨b, o, rfl, hbl, p1, p2, p3⟩ := hs.n3 (fun _ => rfl) hb k hlt
      have hlt' : (k : Int) < xs.length := by omega
      have hsz := hm.at k hlt
      have hTK := Lib.hid (bulkT_take xs k hlt)
      obtain ⟨fz, hfz⟩ : ∃ n, xs[k].f.size = n := ⟨_, rfl⟩
      obtain ⟨tz, htz⟩ : ∃ n, xs[k].t.size = n := ⟨_, rfl⟩
      rw [hfz, htz] at hTK hsz
      obtain ⟨z1, z2⟩ := hsz
      have z3 : (fz : Int) + tz ≤ 2097152 := by omega
      have z4 : (n : Int) + ((fz : Int) + tz) ≤ 1048576 * 2097152 + 2097152 := by omega
      go_wp2
      refine ⟨⟨k + 1, n + (fz + tz), by go_num, by go_num, by omega, ?_, ?_⟩, by simp [intOf]; omega⟩
      · show _ = _
        rw [hTK.out, HN.out]
      · exact Bel
    · have hke : k = xs.length := by omega
      have hlt' : ¬ (k : Int) < xs.length := by omega
      have hN := HN.out
      rw [hke, List.take_length] at hN
      have HG : Hid (great12 xs t v = (decide (40 < xs.length) || (decide (1000 < n) || decide (200 < t.size + v.size)))) := by show _ = _; unfold great12; rw [hN]
      clear hN hke
      by_cases h1 : (40 : Int) < xs.length
      · go_wp2
        go_ret
        exact ⟨by rw [HG.out, decide_eq_true (by omega : 40 < xs.length)]; rfl, hb⟩
      · by_cases h2 : (1000 : Int) < n
        · go_wp2
          go_ret
          exact ⟨by rw [HG.out, decide_eq_false (by omega : ¬ 40 < xs.length), decide_eq_true (by omega : 1000 < n)]; rfl, hb⟩
        · by_cases h3 : (200 : Int) < (t.size : Int) + v.size
          · go_wp2
            go_ret
            exact ⟨by rw [HG.out, decide_eq_false (by omega : ¬ 40 < xs.length), decide_eq_false (by omega : ¬ 1000 < n), decide_eq_true (by omega : 200 < t.size + v.size)]; rfl, hb⟩
          · go_wp2
            go_ret
            exact ⟨by rw [HG.out, decide_eq_false (by omega : ¬ 40 < xs.length), decide_eq_false (by omega : ¬ 1000 < n), decide_eq_false (by omega : ¬ 200 < t.size + v.size)]; rfl, hb⟩
end Go.Proofs.YtmpoihejacklnaaDoor
