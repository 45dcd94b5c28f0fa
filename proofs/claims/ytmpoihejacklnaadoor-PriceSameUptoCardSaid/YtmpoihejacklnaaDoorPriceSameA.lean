/- 'PriceSame' of the package erratalaw12 answers true, whatever rules, token and word it is given, where what it reads is of bulk at most 1048576 and the tables of unicode/utf8 hold what their text lays. -/
import Derived.Test.YtmpoihejacklnaaDoorPriceSame
namespace Go.Proofs.YtmpoihejacklnaaDoor.priceSame
open Go Go.ChangeShapes Go.WideShapes Go.ChangeAt Go.RowKit Go.Deep
theorem e1 : Tryd.prog.inPlace 7 = [] := by kernel_rfl
theorem e2 : Tryd.prog.unfollowed 7 = true := by kernel_rfl
theorem e3 : Tryd.prog.recurses 7 = true := by kernel_rfl
theorem e4 : Tryd.prog.varsNamed 7 = ["unicode/utf8.first", "unicode/utf8.acceptRanges"] := by kernel_rfl
theorem closed : joinedFacts Tryd.pinned.checked.prog 7 Tryd.f7 (Rows.OpenSpec.upto Rows.priceSameSpec).bare Rows.priceSameUptoRow = true := by
  show joinedFacts Tryd.prog 7 Tryd.f7 (Rows.OpenSpec.upto Rows.priceSameSpec).bare Rows.priceSameUptoRow = true
  unfold joinedFacts
  rw [e1, e2, e3, e4]
  kernel_rfl
end Go.Proofs.YtmpoihejacklnaaDoor.priceSame
