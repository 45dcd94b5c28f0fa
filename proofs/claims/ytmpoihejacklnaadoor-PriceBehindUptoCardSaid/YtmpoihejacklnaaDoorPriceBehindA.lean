/- 'PriceBehind' of the package erratalaw12 answers true, whatever rules, tokens and words it is given, where what it reads is of bulk at most 1048576 and the tables of unicode/utf8 hold what their text lays. -/
import Derived.Test.YtmpoihejacklnaaDoorPriceBehind
namespace Go.Proofs.YtmpoihejacklnaaDoor.priceBehind
open Go Go.ChangeShapes Go.WideShapes Go.ChangeAt Go.RowKit Go.Deep
theorem e1 : Tryd.prog.inPlace 3 = [] := by kernel_rfl
theorem e2 : Tryd.prog.unfollowed 3 = true := by kernel_rfl
theorem e3 : Tryd.prog.recurses 3 = true := by kernel_rfl
theorem e4 : Tryd.prog.varsNamed 3 = ["unicode/utf8.first", "unicode/utf8.acceptRanges"] := by kernel_rfl
theorem closed : joinedFacts Tryd.pinned.checked.prog 3 Tryd.f3 (Rows.OpenSpec.upto Rows.priceBehindSpec).bare Rows.priceBehindUptoRow = true := by
  show joinedFacts Tryd.prog 3 Tryd.f3 (Rows.OpenSpec.upto Rows.priceBehindSpec).bare Rows.priceBehindUptoRow = true
  unfold joinedFacts
  rw [e1, e2, e3, e4]
  kernel_rfl
end Go.Proofs.YtmpoihejacklnaaDoor.priceBehind
