/- 'PricePrices' of the package erratalaw12 answers true, whatever rules, token, word and budget it is given, where what it reads is of bulk at most 1048576 and the tables of unicode/utf8 hold what their text lays. -/
import Derived.Test.YtmpoihejacklnaaDoorPricePrices
namespace Go.Proofs.YtmpoihejacklnaaDoor.pricePrices
open Go Go.ChangeShapes Go.WideShapes Go.ChangeAt Go.RowKit Go.Deep
theorem e1 : Tryd.prog.inPlace 4 = [] := by kernel_rfl
theorem e2 : Tryd.prog.unfollowed 4 = true := by kernel_rfl
theorem e3 : Tryd.prog.recurses 4 = true := by kernel_rfl
theorem e4 : Tryd.prog.varsNamed 4 = ["unicode/utf8.first", "unicode/utf8.acceptRanges"] := by kernel_rfl
theorem closed : joinedFacts Tryd.pinned.checked.prog 4 Tryd.f4 (Rows.OpenSpec.upto Rows.pricePricesSpec).bare Rows.pricePricesUptoRow = true := by
  show joinedFacts Tryd.prog 4 Tryd.f4 (Rows.OpenSpec.upto Rows.pricePricesSpec).bare Rows.pricePricesUptoRow = true
  unfold joinedFacts
  rw [e1, e2, e3, e4]
  kernel_rfl
end Go.Proofs.YtmpoihejacklnaaDoor.pricePrices
