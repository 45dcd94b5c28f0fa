/- 'RuleMakes' walked. No condition. -/
import Derived.Test.YtpccanadijefnaaDoorK806
namespace Go.Proofs.YtpccanadijefnaaDoor
open Go Go.RowKit
theorem same_refl (l : List T3) : sameT l l = true := by unfold sameT; simp
theorem makR_len (l : List T3) (least : Int) : (makR l least).length ≤ l.length := by
  unfold makR
  split
  · exact makL_len _ _ _
  · simp
set_option maxHeartbeats 1000000 in
set_option maxRecDepth 100000 in
theorem makes_c (A : Option Addr) (c : Nat) (xs : List T3) (n : Int) (w : World) (hU : U w) (hs : SlA eT3 w A xs) (hm : Small xs) (hn : -9223372036854775808 ≤ n ∧ n ≤ 9223372036854775807) :
    Calls Tryd.prog 3 #[.slice A xs.length c, .int .i64 n] w (Ret w (.bool true)) := by
  have hl := hm.1
  have hrl := makR_len xs n
  have hsm := same_refl (makR xs n)
  go_enter Tryd.func3, Tryd.ntmps3
  go_wp2_with (go_at_call 21; refine (alive7_c _ (hU.to Bel)).mono ?_; rintro e w1 ⟨rfl, hb1⟩)
  · go_ret
    exact ⟨rfl, Bel⟩
  · go_loopw [18] (fun s wr => ∃ k : Nat, k ≤ xs.length ∧ s = .int .i64 k ∧ Below w.heap.size w wr) (fun s _ => xs.length - (intOf s).toNat)
    case atStart => exact ⟨0, by omega, rfl, Bel⟩
    case round =>
      obtain ⟨k, hk, rfl, hb⟩ := hrel
      by_cases hlt : k < xs.length
      · obtain ⟨b, o, rfl, hbs, p1, p2, p3⟩ := hs.n3 (fun _ => rfl) hb k hlt
        obtain ⟨z1, z2⟩ := hm.at k hlt
        go_wp2
        · go_ret
          exact ⟨rfl, Bel⟩
        · exact ⟨⟨k + 1, by omega, by go_num, Bel⟩, by simp [intOf]; omega⟩
      · go_wp2_with (first
          | (go_at_call 22; refine (make_c A c xs n _ (hU.to Bel) (hs.below Bel) hm hn).mono ?_; rintro e w2 ⟨A2, c2, rfl, hs2, hb2⟩)
          | (go_at_call 23; refine (r7make_c A c xs n _ (hs.below Bel) hm hn).mono ?_; rintro e w3 ⟨A3, c3, rfl, hs3, hb3⟩)
          | (go_at_call 24; refine (rsame_c A2 A3 c2 c3 (makR xs n) (makR xs n) _ (hs2.below Bel) (hs3.below Bel) (by omega) (by omega)).mono ?_; rintro e w4 ⟨rfl, hb4⟩; rw [hsm]))
        go_ret
        exact ⟨rfl, Bel⟩
end Go.Proofs.YtpccanadijefnaaDoor
