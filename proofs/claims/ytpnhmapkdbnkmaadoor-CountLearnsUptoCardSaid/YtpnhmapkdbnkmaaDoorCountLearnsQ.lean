/- 'CountLearns' of the package erratalaw06 answers true, whatever pairs it is given, where what it reads is of bulk at most 1048576 and the tables of unicode/utf8 hold what their text lays. -/
import Derived.Test.YtpnhmapkdbnkmaaDoorCountLearns
namespace Go.Proofs.YtpnhmapkdbnkmaaDoor.countLearns
open Go Go.ChangeShapes Go.WideShapes Go.ChangeAt Go.RowKit Go.Deep
theorem goes : false = OpenClaim.goesBy Rows.countLearnsUptoRow Tryd.pinned.checked.prog := by kernel_rfl
end Go.Proofs.YtpnhmapkdbnkmaaDoor.countLearns
