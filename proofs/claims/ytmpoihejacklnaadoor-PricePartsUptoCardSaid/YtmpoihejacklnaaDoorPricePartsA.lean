/- 'PriceParts' of the package erratalaw12 answers true, whatever rules, token, word and parts it is given, where what it reads is of bulk at most 1048576 and the tables of unicode/utf8 hold what their text lays. -/
import Derived.Test.YtmpoihejacklnaaDoorPriceParts
namespace Go.Proofs.YtmpoihejacklnaaDoor.priceParts
open Go Go.ChangeShapes Go.WideShapes Go.ChangeAt Go.RowKit Go.Deep
theorem e1 : Tryd.prog.inPlace 6 = ["internal/abi.NoEscape"] := by kernel_rfl
theorem e2 : Tryd.prog.unfollowed 6 = true := by kernel_rfl
theorem e3 : Tryd.prog.recurses 6 = true := by kernel_rfl
theorem e4 : Tryd.prog.varsNamed 6 = ["unicode/utf8.first", "unicode/utf8.acceptRanges"] := by kernel_rfl
theorem closed : joinedFacts Tryd.pinned.checked.prog 6 Tryd.f6 (Rows.OpenSpec.upto Rows.pricePartsSpec).bare Rows.pricePartsUptoRow = true := by
  show joinedFacts Tryd.prog 6 Tryd.f6 (Rows.OpenSpec.upto Rows.pricePartsSpec).bare Rows.pricePartsUptoRow = true
  unfold joinedFacts
  rw [e1, e2, e3, e4]
  kernel_rfl
end Go.Proofs.YtmpoihejacklnaaDoor.priceParts
