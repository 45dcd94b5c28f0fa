/- 'RuleMakes' walked. No condition. -/
import Derived.Test.YtpnhmapkdbnkmaaGreatDoorK806
namespace Go.Proofs.YtpnhmapkdbnkmaaGreatDoor
open Go Go.RowKit
theorem same_refl (l : List T3) : sameT l l = true := by unfold sameT; simp
theorem makR_len (l : List T3) (least : Int) : (makR l least).length ≤ l.length := by
  unfold makR
  split
  · exact makL_len _ _ _
  · simp
end Go.Proofs.YtpnhmapkdbnkmaaGreatDoor
