/- 'PriceMore' of the package erratalaw12 answers true, whatever rules, rule, token and word it is given, where what it reads is of bulk at most 1048576 and the tables of unicode/utf8 hold what their text lays. -/
import Derived.Test.YtmpoihejacklnaaDoorPriceMoreP
import Derived.Test.YtmpoihejacklnaaDoorPriceMoreQ
namespace Go.Proofs.YtmpoihejacklnaaDoor.priceMore
open Go Go.ChangeShapes Go.WideShapes Go.ChangeAt Go.RowKit Go.Deep
/-- The card. -/
theorem card : Rows.PriceMoreUptoCardSaid :=
  Claim7.holds_tied_plain_at .later [] _ _ _ _ said (fun _ h => by cases h) (by kernel_rfl) (fun _ h => by cases h) priceMoreUpto_row_tie rfl ⟨rfl, rfl⟩ (by kernel_rfl) rfl plain goes
end Go.Proofs.YtmpoihejacklnaaDoor.priceMore
