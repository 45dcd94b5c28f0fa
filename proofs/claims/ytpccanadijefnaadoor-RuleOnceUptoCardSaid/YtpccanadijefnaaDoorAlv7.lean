/- The document's example of chapter 7; and 'RuleMakes' walked. No condition. -/
import Derived.Test.YtpccanadijefnaaDoorLaw7
namespace Go.Proofs.YtpccanadijefnaaDoor
open Go Go.RowKit
def bA2 : T3 := ⟨bA.f, bA.t, 2⟩
theorem bchk_A2 : bchk bA2 = 0 := bchk_with (x := bA) rfl rfl bchk_A (by decide) (by decide)
theorem alive7_tab : tchk [bB, bA2] = 0 := by
  have h1 : eachT [bB, bA2] = 0 := (each_all _).2 fun b hb => by
    simp only [List.mem_cons, List.not_mem_nil, or_false] at hb
    rcases hb with h | h <;> rw [h]
    · exact bchk_B
    · exact bchk_A2
  have h2 : riseT [bB, bA2] = true := rise_of (List.pairwise_pair.2 (AB_lt 2))
  unfold tchk
  rw [h1, h2]
  decide
theorem alive7_E : makE [bB, bA2] 2 = 0 := by
  unfold makE; rw [alive7_tab]; decide
theorem alive7_cost : costN 3 2 2 = 11 := by
  unfold costN ratioN
  decide
theorem alive7_R : makR [bB, bA2] 2 = [⟨bA.f, bA.t, 11⟩] := by
  unfold makR
  rw [alive7_E, if_pos rfl]
  have h : makL [bB, bA2] [bB, bA2] 2 = [mkR [bB, bA2] bA2] := by
    unfold makL
    have h1 : decide ((2 : Int) ≤ bB.n) = false := by decide
    have h2 : decide ((2 : Int) ≤ bA2.n) = true := by decide
    simp [h1, h2]
  rw [h]
  have h3 : cstT [bB, bA2] bA2.n = 11 := by
    show ((costN 3 2 2 : Nat) : Int) = 11
    rw [alive7_cost]; rfl
  unfold mkR
  rw [h3]; rfl
theorem rchk_0 : rchk ⟨.empty, .empty, 0⟩ = 7 := by
  have h1 : okS .empty = 0 := by decide
  have h3 : lenS .empty = 0 := by decide
  have h5 : (ByteArray.empty.toList == ByteArray.empty.toList) = true := by simp
  have h : bchk ⟨.empty, .empty, 1⟩ = 7 := by
    unfold bchk
    show (if okS .empty ≠ 0 ∨ okS .empty ≠ 0 then (3 : Int) else _) = 7
    rw [h1]
    show (if (0 : Int) ≠ 0 ∨ (0 : Int) ≠ 0 then (3 : Int) else if 3 < lenS .empty ∨ 3 < lenS .empty then 5 else if (ByteArray.empty.toList == ByteArray.empty.toList) = true then 7 else _) = 7
    rw [h3, h5]; decide
  unfold rchk
  rw [h]; decide
theorem alive7_small : Small [bB, bA2] := ⟨by decide, fun b hb => by
  simp only [List.mem_cons, List.not_mem_nil, or_false] at hb
  rcases hb with h | h <;> rw [h] <;> decide⟩
set_option maxHeartbeats 1000000 in
set_option maxRecDepth 100000 in
theorem alive7_c (w : World) (hU : U w) : Calls Tryd.prog 21 #[] w (Ret w (.bool true)) := by
  go_enter Tryd.func21, Tryd.ntmps21
  go_wp2_with fail
  refine (make_c _ _ [bB, bA2] 2 _ (hU.to Bel) (SlA.new _ _ _ _ _ (by simp) _ rfl) alive7_small (by omega)).mono ?_
  rintro e w2 ⟨A, c, rfl, hs, hb2⟩
  rw [alive7_E]
  rw [alive7_R] at hs ⊢
  obtain ⟨b, o, rfl, hbs, c1, c2, c3⟩ := hs.n3 (fun _ => rfl) (Below.refl _ _) 0 (by decide)
  have hq : ∀ W, (Op.equalIn 10000 33 (.agg #[.string ⟨#[114, 110]⟩, .string ⟨#[109]⟩, .int .i64 11]) (.agg #[.string ⟨#[114, 110]⟩, .string ⟨#[109]⟩, .int .i64 11])).run Tryd.prog W = .ok true W := fun W => (rul_equal ⟨bA.f, bA.t, 11⟩ ⟨bA.f, bA.t, 11⟩ W).trans (by simp)
  simp only [bA, List.getElem_cons_zero, List.length_cons, List.length_nil, Nat.zero_mul, Nat.add_zero] at c1 c2 c3 ⊢
  go_wp2_with (go_at_call 28; refine (rchk_c ⟨.empty, .empty, 0⟩ _ (hU.to Bel) (by decide) (by decide)).mono ?_; rintro e w3 ⟨rfl, hb3⟩; rw [rchk_0])
  go_ret
  exact ⟨rfl, Bel⟩
end Go.Proofs.YtpccanadijefnaaDoor
