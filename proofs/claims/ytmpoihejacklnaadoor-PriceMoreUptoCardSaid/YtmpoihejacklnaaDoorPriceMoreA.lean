/- 'PriceMore' of the package erratalaw12 answers true, whatever rules, rule, token and word it is given, where what it reads is of bulk at most 1048576 and the tables of unicode/utf8 hold what their text lays. -/
import Derived.Test.YtmpoihejacklnaaDoorPriceMore
namespace Go.Proofs.YtmpoihejacklnaaDoor.priceMore
open Go Go.ChangeShapes Go.WideShapes Go.ChangeAt Go.RowKit Go.Deep
theorem e1 : Tryd.prog.inPlace 9 = [] := by kernel_rfl
theorem e2 : Tryd.prog.unfollowed 9 = true := by kernel_rfl
theorem e3 : Tryd.prog.recurses 9 = true := by kernel_rfl
theorem e4 : Tryd.prog.varsNamed 9 = ["unicode/utf8.first", "unicode/utf8.acceptRanges"] := by kernel_rfl
theorem closed : joinedFacts Tryd.pinned.checked.prog 9 Tryd.f9 (Rows.OpenSpec.upto Rows.priceMoreSpec).bare Rows.priceMoreUptoRow = true := by
  show joinedFacts Tryd.prog 9 Tryd.f9 (Rows.OpenSpec.upto Rows.priceMoreSpec).bare Rows.priceMoreUptoRow = true
  unfold joinedFacts
  rw [e1, e2, e3, e4]
  kernel_rfl
end Go.Proofs.YtmpoihejacklnaaDoor.priceMore
