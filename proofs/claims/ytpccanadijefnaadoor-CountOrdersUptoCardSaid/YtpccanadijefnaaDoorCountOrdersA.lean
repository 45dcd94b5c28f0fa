/- The card of 'CountOrders' of the package erratalaw06: it answers true, whatever blocks and number it is given, where what it reads is of bulk at most 1048576 and the tables of unicode/utf8 hold what their text lays. -/
import Derived.Test.YtpccanadijefnaaDoorCountOrders
namespace Go.Proofs.YtpccanadijefnaaDoor.countOrders
open Go Go.ChangeShapes Go.WideShapes Go.ChangeAt Go.RowKit Go.Deep
theorem e1 : Tryd.prog.inPlace 6 = [] := by kernel_rfl
theorem e2 : Tryd.prog.unfollowed 6 = true := by kernel_rfl
theorem e3 : Tryd.prog.recurses 6 = true := by kernel_rfl
theorem e4 : Tryd.prog.varsNamed 6 = ["unicode/utf8.first", "unicode/utf8.acceptRanges"] := by kernel_rfl
theorem closed : joinedFacts Tryd.pinned.checked.prog 6 Tryd.f6 (Rows.OpenSpec.upto Rows.countOrdersSpec).bare Rows.countOrdersUptoRow = true := by
  show joinedFacts Tryd.prog 6 Tryd.f6 (Rows.OpenSpec.upto Rows.countOrdersSpec).bare Rows.countOrdersUptoRow = true
  unfold joinedFacts
  rw [e1, e2, e3, e4]
  kernel_rfl
end Go.Proofs.YtpccanadijefnaaDoor.countOrders
