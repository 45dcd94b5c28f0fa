/- 'MatchMoves' of the package erratalaw08 answers true, whatever rules and texts it is given, where what it reads is of bulk at most 1048576 and the tables of unicode/utf8 hold what their text lays. -/
import Derived.Test.YtpccanadijefnaaDoorMatchMoves
namespace Go.Proofs.YtpccanadijefnaaDoor.matchMoves
open Go Go.ChangeShapes Go.WideShapes Go.ChangeAt Go.RowKit Go.Deep
theorem goes : false = OpenClaim.goesBy Rows.matchMovesUptoRow Tryd.pinned.checked.prog := by kernel_rfl
end Go.Proofs.YtpccanadijefnaaDoor.matchMoves
