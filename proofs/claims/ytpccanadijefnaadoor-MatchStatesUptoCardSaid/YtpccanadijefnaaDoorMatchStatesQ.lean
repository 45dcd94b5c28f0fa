/- 'MatchStates' of the package erratalaw08 answers true, whatever rules and rule it is given, where what it reads is of bulk at most 1048576 and the tables of unicode/utf8 hold what their text lays. -/
import Derived.Test.YtpccanadijefnaaDoorMatchStates
namespace Go.Proofs.YtpccanadijefnaaDoor.matchStates
open Go Go.ChangeShapes Go.WideShapes Go.ChangeAt Go.RowKit Go.Deep
theorem goes : false = OpenClaim.goesBy Rows.matchStatesUptoRow Tryd.pinned.checked.prog := by kernel_rfl
end Go.Proofs.YtpccanadijefnaaDoor.matchStates
