/- Regions whose operations do not panic: nothing is asked of the rest of the function. No condition. -/
import Derived.Test.YtpccanadijefnaaDoorReg
import Derived.Test.YtpccanadijefnaaDoorMix
namespace Go.Proofs.YtpccanadijefnaaDoor
open Go Go.RowKit
/-- No panic. -/
def noP (Q : Exit → Act → World → Prop) : Exit → Act → World → Prop
  | .panic _, _, _ => False
  | .normal, a, w => Q .normal a w
  | .ret, a, w => Q .ret a w
  | .exit i, a, w => Q (.exit i) a w
  | .goto i, a, w => Q (.goto i) a w
  | .outgrown, a, w => Q .outgrown a w
theorem noP_normal {Q : Exit → Act → World → Prop} {a : Act} {w : World} : noP Q .normal a w = Q .normal a w := rfl
attribute [go_sem] noP_normal
theorem noP_le {Q : Exit → Act → World → Prop} : ∀ (e : Exit) (a : Act) (w : World), noP Q e a w → Q e a w
  | .panic _, _, _, h => h.elim
  | .normal, _, _, h => h
  | .ret, _, _, h => h
  | .exit _, _, _, h => h
  | .goto _, _, _, h => h
  | .outgrown, _, _, h => h
theorem region_seqP {P : Program} {ops : Array Oper} {id : Nat} {Q : Exit → Act → World → Prop} {a : Act} {w : World} (L : List (Nat × Bool)) (hm : P.follows .mixedOrders = true) (hB : (Region.noSelect ops && decide (L.length = ops.size) && orderB ops L (Array.replicate ops.size false)) = true)
    (h : ∀ W, Below w.heap.size w W → wpSeq P ops W (noP Q) L a W) : (Code.region id ops true).wp P Q a w :=
  wp_mono (region_seq (Q := noP Q) L hm hB (fun _ _ _ _ _ h => h.elim) h) noP_le
theorem region_mixP {P : Program} {id : Nat} {Q : Exit → Act → World → Prop} {a : Act} {w : World} {l : List Oper} (n : Nat) (L : List (Nat × Bool)) (hm : P.follows .mixedOrders = true)
    (hB : (Region.noSelect l.toArray && Region.sinkB .any l.toArray n && Region.chainB .any l.toArray n && decide (n < l.length) && decide (L.length = n) && mixB l.toArray n L (Array.replicate l.length false)) = true)
    (h : ∀ W, Below w.heap.size w W → wpSeqT P l.toArray W (noP Q) (fun a' W' => wpList P l.toArray (noP Q) (l.drop n) a' W') L a W) : (Code.region id l.toArray true).wp P Q a w :=
  wp_mono (region_mix (Q := noP Q) n L hm hB (fun _ _ _ _ _ h => h.elim) h) noP_le
end Go.Proofs.YtpccanadijefnaaDoor
