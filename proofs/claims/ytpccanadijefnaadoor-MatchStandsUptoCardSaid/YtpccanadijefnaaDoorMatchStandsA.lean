/- 'MatchStands' of the package erratalaw08 answers true, whatever rules and text it is given, where what it reads is of bulk at most 1048576 and the tables of unicode/utf8 hold what their text lays. -/
import Derived.Test.YtpccanadijefnaaDoorMatchStands
namespace Go.Proofs.YtpccanadijefnaaDoor.matchStands
open Go Go.ChangeShapes Go.WideShapes Go.ChangeAt Go.RowKit Go.Deep
theorem e1 : Tryd.prog.inPlace 15 = [] := by kernel_rfl
theorem e2 : Tryd.prog.unfollowed 15 = true := by kernel_rfl
theorem e3 : Tryd.prog.recurses 15 = true := by kernel_rfl
theorem e4 : Tryd.prog.varsNamed 15 = ["unicode/utf8.first", "unicode/utf8.acceptRanges"] := by kernel_rfl
theorem closed : joinedFacts Tryd.pinned.checked.prog 15 Tryd.f15 (Rows.OpenSpec.upto Rows.matchStandsSpec).bare Rows.matchStandsUptoRow = true := by
  show joinedFacts Tryd.prog 15 Tryd.f15 (Rows.OpenSpec.upto Rows.matchStandsSpec).bare Rows.matchStandsUptoRow = true
  unfold joinedFacts
  rw [e1, e2, e3, e4]
  kernel_rfl
end Go.Proofs.YtpccanadijefnaaDoor.matchStands
