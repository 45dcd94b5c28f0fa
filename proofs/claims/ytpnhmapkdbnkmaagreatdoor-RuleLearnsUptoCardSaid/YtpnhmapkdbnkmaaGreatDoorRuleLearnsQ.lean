/- 'RuleLearns' of the package erratalaw07 answers true, whatever pairs and least count it is given, where what it reads is of bulk at most 1048576 and the tables of unicode/utf8 hold what their text lays. -/
import Derived.Test.YtpnhmapkdbnkmaaGreatDoorRuleLearns
namespace Go.Proofs.YtpnhmapkdbnkmaaGreatDoor.ruleLearns
open Go Go.ChangeShapes Go.WideShapes Go.ChangeAt Go.RowKit Go.Deep
theorem goes : false = OpenClaim.goesBy Rows.ruleLearnsUptoRow Tryz.pinned.checked.prog := by kernel_rfl
end Go.Proofs.YtpnhmapkdbnkmaaGreatDoor.ruleLearns
