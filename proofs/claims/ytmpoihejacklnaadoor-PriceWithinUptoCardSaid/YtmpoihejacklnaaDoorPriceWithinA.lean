/- 'PriceWithin' of the package erratalaw12 answers true, whatever rules, token, word and budget it is given, where what it reads is of bulk at most 1048576 and the tables of unicode/utf8 hold what their text lays. -/
import Derived.Test.YtmpoihejacklnaaDoorPriceWithin
namespace Go.Proofs.YtmpoihejacklnaaDoor.priceWithin
open Go Go.ChangeShapes Go.WideShapes Go.ChangeAt Go.RowKit Go.Deep
theorem e1 : Tryd.prog.inPlace 5 = [] := by kernel_rfl
theorem e2 : Tryd.prog.unfollowed 5 = true := by kernel_rfl
theorem e3 : Tryd.prog.recurses 5 = true := by kernel_rfl
theorem e4 : Tryd.prog.varsNamed 5 = ["unicode/utf8.first", "unicode/utf8.acceptRanges"] := by kernel_rfl
theorem closed : joinedFacts Tryd.pinned.checked.prog 5 Tryd.f5 (Rows.OpenSpec.upto Rows.priceWithinSpec).bare Rows.priceWithinUptoRow = true := by
  show joinedFacts Tryd.prog 5 Tryd.f5 (Rows.OpenSpec.upto Rows.priceWithinSpec).bare Rows.priceWithinUptoRow = true
  unfold joinedFacts
  rw [e1, e2, e3, e4]
  kernel_rfl
end Go.Proofs.YtmpoihejacklnaaDoor.priceWithin
