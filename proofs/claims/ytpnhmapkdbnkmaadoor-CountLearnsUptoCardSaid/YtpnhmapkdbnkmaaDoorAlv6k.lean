/- The document's example. No condition. -/
import Derived.Test.YtpnhmapkdbnkmaaDoorK805
namespace Go.Proofs.YtpnhmapkdbnkmaaDoor
open Go Go.RowKit
theorem alive_small : Small [bA, bB, bA] := ⟨by decide, fun b hb => by
  simp only [List.mem_cons, List.not_mem_nil, or_false] at hb
  rcases hb with h | h | h <;> rw [h] <;> decide⟩
set_option maxHeartbeats 1000000 in
set_option maxRecDepth 100000 in
theorem alive_c (w : World) (hU : U w) : Calls Tryd.prog 11 #[] w (Ret w (.bool true)) := by
  go_enter Tryd.func11, Tryd.ntmps11
  go_wp2_with fail
  refine (tab_c _ _ [bA, bB, bA] _ (hU.to Bel) (SlA.new _ _ _ _ _ (by simp) _ rfl) alive_small).mono ?_
  rintro e w2 ⟨ys, r, rfl, hys, hb2, h1, h2⟩
  obtain rfl := alive_tab (h1 alive_E)
  rw [alive_E]
  obtain ⟨A, c, rfl, hc1, hc2, hs⟩ := hys
  obtain ⟨b, o, rfl, hbs, c1, c2, c3⟩ := hs.n3 (fun _ => rfl) (Below.refl _ _) 0 (by decide)
  obtain ⟨b', o', e', _, d1, d2, d3⟩ := hs.n3 (fun _ => rfl) (Below.refl _ _) 1 (by decide)
  injection e' with e'
  injection e' with e1 e2
  subst e1 e2
  obtain ⟨hc, hf⟩ := bcell hb2
  have q0 : w2.cell? ⟨w.heap.size + 1, 0, none⟩ = some (.string ⟨#[108]⟩) := (hc _ _ (by simp)).trans (by simp [go_sem])
  have q1 : w2.cell? ⟨w.heap.size + 1, 1, none⟩ = some (.string ⟨#[105]⟩) := (hc _ _ (by simp)).trans (by simp [go_sem])
  have q2 : w2.cell? ⟨w.heap.size + 1, 2, none⟩ = some (.int .i64 1) := (hc _ _ (by simp)).trans (by simp [go_sem])
  have hq : ∀ W, (Op.equalIn 10000 69 (.agg #[.string ⟨#[108]⟩, .string ⟨#[105]⟩, .int .i64 1]) (.agg #[.string ⟨#[108]⟩, .string ⟨#[105]⟩, .int .i64 1])).run Tryd.prog W = .ok true W := fun W => (blk_equal bB bB W).trans (by simp)
  clear hc hf h1 h2
  simp only [bA, bB, List.getElem_cons_zero, List.getElem_cons_succ, List.length_cons, List.length_nil, Nat.zero_mul, Nat.one_mul, Nat.add_zero] at c1 c2 c3 d1 d2 d3 ⊢
  go_wp2_with fail
  refine region_qall (by kernel_rfl) (by kernel_rfl) (fun W => ∃ n, W = World.drewN _ n) ⟨1, rfl⟩ ?_
  repeat (quiet_step (fail))
  refine wpQuiet_nil ?_
  intro _ hw'
  obtain ⟨nq, rfl⟩ := hw'
  go_wp2
  go_ret
  exact ⟨rfl, Bel⟩
end Go.Proofs.YtpnhmapkdbnkmaaDoor
