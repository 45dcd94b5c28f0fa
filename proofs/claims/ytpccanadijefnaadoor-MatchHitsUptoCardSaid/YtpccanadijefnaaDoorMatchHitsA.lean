/- 'MatchHits' of the package erratalaw08 answers true, whatever rules, text and place it is given, where what it reads is of bulk at most 1048576 and the tables of unicode/utf8 hold what their text lays. -/
import Derived.Test.YtpccanadijefnaaDoorMatchHits
namespace Go.Proofs.YtpccanadijefnaaDoor.matchHits
open Go Go.ChangeShapes Go.WideShapes Go.ChangeAt Go.RowKit Go.Deep
theorem e1 : Tryd.prog.inPlace 13 = [] := by kernel_rfl
theorem e2 : Tryd.prog.unfollowed 13 = true := by kernel_rfl
theorem e3 : Tryd.prog.recurses 13 = true := by kernel_rfl
theorem e4 : Tryd.prog.varsNamed 13 = ["unicode/utf8.first", "unicode/utf8.acceptRanges"] := by kernel_rfl
theorem closed : joinedFacts Tryd.pinned.checked.prog 13 Tryd.f13 (Rows.OpenSpec.upto Rows.matchHitsSpec).bare Rows.matchHitsUptoRow = true := by
  show joinedFacts Tryd.prog 13 Tryd.f13 (Rows.OpenSpec.upto Rows.matchHitsSpec).bare Rows.matchHitsUptoRow = true
  unfold joinedFacts
  rw [e1, e2, e3, e4]
  kernel_rfl
end Go.Proofs.YtpccanadijefnaaDoor.matchHits
