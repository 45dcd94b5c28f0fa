/- errataref04.Steps: the alignment's steps. No condition. -/
import Derived.Test.YtpnhmapkdbnkmaaDoorR4t
import Derived.Test.YtpnhmapkdbnkmaaDoorR4b
import Derived.Test.YtpnhmapkdbnkmaaDoorTreS
import Derived.Test.YtpnhmapkdbnkmaaDoorK815
namespace Go.Proofs.YtpnhmapkdbnkmaaDoor
open Go Go.RowKit
theorem info_step : (Tryd.prog.info? 136).map (fun i => (i.zero, i.size, i.bytes)) = some (some (.agg #[.int .i64 0, .int .i32 0, .int .i32 0]), 3, 16) := by kernel_rfl
def pairA (p : P2) : List Int := (decS p.n).getD []
def pairT (p : P2) : List Int := (decS p.t).getD []
theorem pair_decs {p : P2} (h : pairE p = 0) : decS p.n = some (pairA p) ∧ decS p.t = some (pairT p) ∧ (pairA p).length ≤ 64 ∧ (pairT p).length ≤ 64 ∧ 0 < (pairA p).length ∧ 0 < (pairT p).length := by
  obtain ⟨h1, h2⟩ := pairE_ok h
  obtain ⟨a, ha, ha1, ha2⟩ := tkE_ok h1
  obtain ⟨c, hc, hc1, hc2⟩ := tkE_ok h2
  unfold pairA pairT
  rw [ha, hc]
  exact ⟨rfl, rfl, ha2, hc2, ha1, hc1⟩
def StepsPost (w : World) (p : P2) (e : Ending) (w' : World) : Prop :=
  Below w.heap.size w w' ∧ (pairE p = 0 → ∃ v, e = .returned (.tuple #[v, .int .i64 0]) ∧ SlV eSt w' v (stepsL (pairA p) (pairT p))) ∧ (pairE p ≠ 0 → e = .returned (.tuple #[.slice none 0 0, .int .i64 (pairE p)]))
theorem rev_last {α : Type} {l : List α} {k : Nat} (hk : k < l.length) : l.reverse[k]? = some (l[l.length - 1 - k]'(by omega)) := by
  rw [List.getElem?_reverse hk, List.getElem?_eq_getElem (by omega)]
end Go.Proofs.YtpnhmapkdbnkmaaDoor
