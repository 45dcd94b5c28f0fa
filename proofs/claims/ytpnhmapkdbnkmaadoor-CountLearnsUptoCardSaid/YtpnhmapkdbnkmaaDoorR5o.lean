/- errataref05.Of, Pair: the blocks of two tokens. No condition. -/
import Derived.Test.YtpnhmapkdbnkmaaDoorR5
import Derived.Test.YtpnhmapkdbnkmaaDoorK805
namespace Go.Proofs.YtpnhmapkdbnkmaaDoor
open Go Go.RowKit
theorem left_isR {r : List St} (h : ∀ s ∈ r, MayS s) : ∀ x ∈ leftR r, IsR x := fun x hx => by
  obtain ⟨s, hs, rfl⟩ := List.mem_map.1 hx
  exact (h s (List.mem_filter.1 hs).1).1
theorem right_isR {r : List St} (h : ∀ s ∈ r, MayS s) : ∀ x ∈ rightR r, IsR x := fun x hx => by
  obtain ⟨s, hs, rfl⟩ := List.mem_map.1 hx
  exact (h s (List.mem_filter.1 hs).1).2.1
def OfPost (w : World) (l : List St) (e : Ending) (w' : World) : Prop := ∃ v, e = .returned (.tuple #[v, .int .i64 0]) ∧ SlV eT3 w' v (blksL l) ∧ Below w.heap.size w w'
def PairPost (w : World) (p : P2) (e : Ending) (w' : World) : Prop :=
  Below w.heap.size w w' ∧ (pairE p = 0 → ∃ v, e = .returned (.tuple #[v, .int .i64 0]) ∧ SlV eT3 w' v (pairB p)) ∧ (pairE p ≠ 0 → e = .returned (.tuple #[.slice none 0 0, .int .i64 (pairE p)]))
theorem pair_may {p : P2} (h : pairE p = 0) : (∀ s ∈ stepsL (pairA p) (pairT p), MayS s) ∧ (stepsL (pairA p) (pairT p)).length ≤ 128 := by
  obtain ⟨da, db, ha, hb, _, _⟩ := pair_decs h
  refine ⟨stepsL_may (decS_isR da) (decS_isR db), ?_⟩
  have := stepsL_len (pairA p) (pairT p)
  omega
end Go.Proofs.YtpnhmapkdbnkmaaDoor
