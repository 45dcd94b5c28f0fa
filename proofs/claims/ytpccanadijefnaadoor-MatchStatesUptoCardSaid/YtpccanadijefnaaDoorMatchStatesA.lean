/- 'MatchStates' of the package erratalaw08 answers true, whatever rules and rule it is given, where what it reads is of bulk at most 1048576 and the tables of unicode/utf8 hold what their text lays. -/
import Derived.Test.YtpccanadijefnaaDoorMatchStates
namespace Go.Proofs.YtpccanadijefnaaDoor.matchStates
open Go Go.ChangeShapes Go.WideShapes Go.ChangeAt Go.RowKit Go.Deep
theorem e1 : Tryd.prog.inPlace 16 = [] := by kernel_rfl
theorem e2 : Tryd.prog.unfollowed 16 = true := by kernel_rfl
theorem e3 : Tryd.prog.recurses 16 = true := by kernel_rfl
theorem e4 : Tryd.prog.varsNamed 16 = ["unicode/utf8.first", "unicode/utf8.acceptRanges"] := by kernel_rfl
theorem closed : joinedFacts Tryd.pinned.checked.prog 16 Tryd.f16 (Rows.OpenSpec.upto Rows.matchStatesSpec).bare Rows.matchStatesUptoRow = true := by
  show joinedFacts Tryd.prog 16 Tryd.f16 (Rows.OpenSpec.upto Rows.matchStatesSpec).bare Rows.matchStatesUptoRow = true
  unfold joinedFacts
  rw [e1, e2, e3, e4]
  kernel_rfl
end Go.Proofs.YtpccanadijefnaaDoor.matchStates
