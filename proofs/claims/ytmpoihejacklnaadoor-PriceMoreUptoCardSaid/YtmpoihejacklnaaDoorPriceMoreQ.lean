/- 'PriceMore' of the package erratalaw12 answers true, whatever rules, rule, token and word it is given, where what it reads is of bulk at most 1048576 and the tables of unicode/utf8 hold what their text lays. -/
import Derived.Test.YtmpoihejacklnaaDoorPriceMore
namespace Go.Proofs.YtmpoihejacklnaaDoor.priceMore
open Go Go.ChangeShapes Go.WideShapes Go.ChangeAt Go.RowKit Go.Deep
theorem goes : false = OpenClaim.goesBy Rows.priceMoreUptoRow Tryd.pinned.checked.prog := by kernel_rfl
end Go.Proofs.YtmpoihejacklnaaDoor.priceMore
