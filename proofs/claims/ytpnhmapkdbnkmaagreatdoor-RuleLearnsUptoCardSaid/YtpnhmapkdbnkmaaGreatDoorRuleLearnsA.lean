/- 'RuleLearns' of the package erratalaw07 answers true, whatever pairs and least count it is given, where what it reads is of bulk at most 1048576 and the tables of unicode/utf8 hold what their text lays. -/
import Derived.Test.YtpnhmapkdbnkmaaGreatDoorRuleLearns
namespace Go.Proofs.YtpnhmapkdbnkmaaGreatDoor.ruleLearns
open Go Go.ChangeShapes Go.WideShapes Go.ChangeAt Go.RowKit Go.Deep
theorem e1 : Tryz.prog.inPlace 3 = ["math/bits.Add64"] := by kernel_rfl
theorem e2 : Tryz.prog.unfollowed 3 = true := by kernel_rfl
theorem e3 : Tryz.prog.recurses 3 = true := by kernel_rfl
theorem e4 : Tryz.prog.varsNamed 3 = ["unicode/utf8.first", "unicode/utf8.acceptRanges"] := by kernel_rfl
theorem closed : joinedFacts Tryz.pinned.checked.prog 3 Tryz.f3 (Rows.OpenSpec.upto Rows.ruleLearnsSpec).bare Rows.ruleLearnsUptoRow = true := by
  show joinedFacts Tryz.prog 3 Tryz.f3 (Rows.OpenSpec.upto Rows.ruleLearnsSpec).bare Rows.ruleLearnsUptoRow = true
  unfold joinedFacts
  rw [e1, e2, e3, e4]
  kernel_rfl
end Go.Proofs.YtpnhmapkdbnkmaaGreatDoor.ruleLearns
