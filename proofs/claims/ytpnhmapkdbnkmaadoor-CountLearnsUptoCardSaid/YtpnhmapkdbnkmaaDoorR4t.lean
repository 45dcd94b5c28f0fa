/- errataref04.tokens: two tokens' runes. No condition. -/
import Derived.Test.YtpnhmapkdbnkmaaDoorPrl
namespace Go.Proofs.YtpnhmapkdbnkmaaDoor
open Go Go.RowKit
/-- Two rows of runes, or the first error. -/
def R4tPost (w : World) (p : P2) (e : Ending) (w' : World) : Prop :=
  Below w.heap.size w w' ∧ ∃ A ca B cb a b, e = .returned (.tuple #[.slice A (a : List Int).length ca, .slice B (b : List Int).length cb, .int .i64 (pairE p)]) ∧ SlA (eInt .i32) w' A a ∧ SlA (eInt .i32) w' B b ∧ (pairE p = 0 → decS p.n = some a ∧ decS p.t = some b ∧ 0 < a.length ∧ a.length ≤ 64 ∧ 0 < b.length ∧ b.length ≤ 64 ∧ a.length ≤ ca ∧ b.length ≤ cb)
end Go.Proofs.YtpnhmapkdbnkmaaDoor
