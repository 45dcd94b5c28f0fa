/- 'PriceSums' of the package erratalaw12 answers true, whatever rules, token and word it is given, where what it reads is of bulk at most 1048576 and the tables of unicode/utf8 hold what their text lays. -/
import Derived.Test.YtmpoihejacklnaaDoorPriceSums
namespace Go.Proofs.YtmpoihejacklnaaDoor.priceSums
open Go Go.ChangeShapes Go.WideShapes Go.ChangeAt Go.RowKit Go.Deep
theorem e1 : Tryd.prog.inPlace 8 = ["internal/abi.NoEscape"] := by kernel_rfl
theorem e2 : Tryd.prog.unfollowed 8 = true := by kernel_rfl
theorem e3 : Tryd.prog.recurses 8 = true := by kernel_rfl
theorem e4 : Tryd.prog.varsNamed 8 = ["unicode/utf8.first", "unicode/utf8.acceptRanges"] := by kernel_rfl
theorem closed : joinedFacts Tryd.pinned.checked.prog 8 Tryd.f8 (Rows.OpenSpec.upto Rows.priceSumsSpec).bare Rows.priceSumsUptoRow = true := by
  show joinedFacts Tryd.prog 8 Tryd.f8 (Rows.OpenSpec.upto Rows.priceSumsSpec).bare Rows.priceSumsUptoRow = true
  unfold joinedFacts
  rw [e1, e2, e3, e4]
  kernel_rfl
end Go.Proofs.YtmpoihejacklnaaDoor.priceSums
