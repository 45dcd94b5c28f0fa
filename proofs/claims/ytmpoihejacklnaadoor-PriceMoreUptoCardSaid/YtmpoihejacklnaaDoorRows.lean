/-
  NARROWER THAN 'FOR EVERY INPUT', by the rows' own cells (each row's printed sentence says how): PriceBehind: laid · PricePrices: laid · PriceWithin: laid · PriceParts: laid · PriceSame: laid · PriceSums: laid · PriceMore: laid.
  DERIVED. THE GIVEN ROWS OF THIS SEAT. 7 by the template 'for every input the law returns true; each argument reads behind the call as it read before'; 0 by the template 'total and deterministic' (their statements: YtmpoihejacklnaaDoorTotals.lean).
  GIVEN WITH THE SEED: the statements are not yours to turn. If you find one false, say at which input.
  Laid BY PROGRAM, IN A SANDBOX (cutbox-rows.mjs): the forced cells as the released guide's own fill.sh prints them over the translation 4e6c34afb32ba607… (all of the seat's roots in one cut). By AI agents, Wed Nov 11 2026. No macro, syntax, notation, axiom, sorry.
-/
import Derived.Test.YtmpoihejacklnaaDoorChecked
import GoSem.PinnedTables
import GoSem.Claim
import GoSem.ClaimJoined
import GoSem.ClaimMapViews
import Derived.JoinedTies
import Derived.KernelRfl
namespace Go.Proofs.YtmpoihejacklnaaDoor
/- THE CELL 'sum', in the pinned program and in every row, IS THE sha256 OF THE DUMP (.gsa) THAT YtmpoihejacklnaaDoorProg.lean LOADS. Nothing in Lean hashes anything: it is a label: what it is worth is what the hold of that sum in a sandbox is worth. -/
noncomputable def Tryd.pinned : Pinned := { name := "ytmpoihejacklnaadoor", sum := "4e6c34afb32ba60700ff782f6f6257ea3aebcccc7ae0a74aa6f9b0976270f62d", checked := Tryd.checked }
namespace Rows
def none {H : Type} : Left H := { results := [], args := [] }

/- WHAT THE LISTED PACKAGE-LEVEL VARIABLES READ AS WHEN THE CALL BEGINS. Each datum BY PROGRAM (the guide's laid-datum.mjs) off the statement by which the dump's own 'gosem.cut.vars' lays the variable. In a bare row this is a premise. The card (YtmpoihejacklnaaDoorCards.lean) ties it to the program's text. -/
def laid_unicode_utf8_acceptRanges {H : Type} : DataW H := .agg [.agg [.lit (.int .u8 128), .lit (.int .u8 191)], .agg [.lit (.int .u8 160), .lit (.int .u8 191)], .agg [.lit (.int .u8 128), .lit (.int .u8 159)], .agg [.lit (.int .u8 144), .lit (.int .u8 191)], .agg [.lit (.int .u8 128), .lit (.int .u8 143)], .agg [.lit (.int .u8 0), .lit (.int .u8 0)], .agg [.lit (.int .u8 0), .lit (.int .u8 0)], .agg [.lit (.int .u8 0), .lit (.int .u8 0)], .agg [.lit (.int .u8 0), .lit (.int .u8 0)], .agg [.lit (.int .u8 0), .lit (.int .u8 0)], .agg [.lit (.int .u8 0), .lit (.int .u8 0)], .agg [.lit (.int .u8 0), .lit (.int .u8 0)], .agg [.lit (.int .u8 0), .lit (.int .u8 0)], .agg [.lit (.int .u8 0), .lit (.int .u8 0)], .agg [.lit (.int .u8 0), .lit (.int .u8 0)], .agg [.lit (.int .u8 0), .lit (.int .u8 0)]]
/-- One of Go's own tables, pinned by name: the form's constant. -/
def laid_unicode_utf8_first : DataW Unit := Go.Pinned.utf8First

/-- 'erratalaw12.PriceBehind': WHATEVER THE INPUT: true; the input reads as it did. -/
def priceBehindSpec : ChangeSpec := { name := "priceBehind", fn := fun _ => fun
  | [d] => { results := [.lit (.bool true)], args := [d] }
  | _ => none }
def priceBehindRow : OpenClaim := { program := "ytmpoihejacklnaadoor", sum := "4e6c34afb32ba60700ff782f6f6257ea3aebcccc7ae0a74aa6f9b0976270f62d", func := "errata/erratalaw12.PriceBehind", spec := "priceBehind", unfollowed := true, recurses := true, named := ["unicode/utf8.first", "unicode/utf8.acceptRanges"], apart := false, laid := [("unicode/utf8.acceptRanges", laid_unicode_utf8_acceptRanges), ("unicode/utf8.first", laid_unicode_utf8_first)] }
def PriceBehindSaid : Prop := priceBehindRow.holds Tryd.pinned (OpenSpec.ofChange priceBehindSpec)

/-- ITS FALSE NEIGHBOUR: 'it returns false'. Refute it at one input. -/
def priceBehindWrong : ChangeSpec := { name := "priceBehind", fn := fun _ => fun
  | [d] => { results := [.lit (.bool false)], args := [d] }
  | _ => none }
def PriceBehindWrongFalsely : Prop := priceBehindRow.holds Tryd.pinned (OpenSpec.ofChange priceBehindWrong)

/-- 'erratalaw12.PricePrices': WHATEVER THE INPUT: true; the input reads as it did. -/
def pricePricesSpec : ChangeSpec := { name := "pricePrices", fn := fun _ => fun
  | [d] => { results := [.lit (.bool true)], args := [d] }
  | _ => none }
def pricePricesRow : OpenClaim := { program := "ytmpoihejacklnaadoor", sum := "4e6c34afb32ba60700ff782f6f6257ea3aebcccc7ae0a74aa6f9b0976270f62d", func := "errata/erratalaw12.PricePrices", spec := "pricePrices", unfollowed := true, recurses := true, named := ["unicode/utf8.first", "unicode/utf8.acceptRanges"], apart := false, laid := [("unicode/utf8.acceptRanges", laid_unicode_utf8_acceptRanges), ("unicode/utf8.first", laid_unicode_utf8_first)] }
def PricePricesSaid : Prop := pricePricesRow.holds Tryd.pinned (OpenSpec.ofChange pricePricesSpec)

/-- ITS FALSE NEIGHBOUR: 'it returns false'. Refute it at one input. -/
def pricePricesWrong : ChangeSpec := { name := "pricePrices", fn := fun _ => fun
  | [d] => { results := [.lit (.bool false)], args := [d] }
  | _ => none }
def PricePricesWrongFalsely : Prop := pricePricesRow.holds Tryd.pinned (OpenSpec.ofChange pricePricesWrong)

/-- 'erratalaw12.PriceWithin': WHATEVER THE INPUT: true; the input reads as it did. -/
def priceWithinSpec : ChangeSpec := { name := "priceWithin", fn := fun _ => fun
  | [d] => { results := [.lit (.bool true)], args := [d] }
  | _ => none }
def priceWithinRow : OpenClaim := { program := "ytmpoihejacklnaadoor", sum := "4e6c34afb32ba60700ff782f6f6257ea3aebcccc7ae0a74aa6f9b0976270f62d", func := "errata/erratalaw12.PriceWithin", spec := "priceWithin", unfollowed := true, recurses := true, named := ["unicode/utf8.first", "unicode/utf8.acceptRanges"], apart := false, laid := [("unicode/utf8.acceptRanges", laid_unicode_utf8_acceptRanges), ("unicode/utf8.first", laid_unicode_utf8_first)] }
def PriceWithinSaid : Prop := priceWithinRow.holds Tryd.pinned (OpenSpec.ofChange priceWithinSpec)

/-- ITS FALSE NEIGHBOUR: 'it returns false'. Refute it at one input. -/
def priceWithinWrong : ChangeSpec := { name := "priceWithin", fn := fun _ => fun
  | [d] => { results := [.lit (.bool false)], args := [d] }
  | _ => none }
def PriceWithinWrongFalsely : Prop := priceWithinRow.holds Tryd.pinned (OpenSpec.ofChange priceWithinWrong)

/-- 'erratalaw12.PriceParts': WHATEVER THE INPUT: true; the input reads as it did. -/
def pricePartsSpec : ChangeSpec := { name := "priceParts", fn := fun _ => fun
  | [d] => { results := [.lit (.bool true)], args := [d] }
  | _ => none }
def pricePartsRow : OpenClaim := { program := "ytmpoihejacklnaadoor", sum := "4e6c34afb32ba60700ff782f6f6257ea3aebcccc7ae0a74aa6f9b0976270f62d", func := "errata/erratalaw12.PriceParts", spec := "priceParts", inPlace := ["internal/abi.NoEscape"], unfollowed := true, recurses := true, named := ["unicode/utf8.first", "unicode/utf8.acceptRanges"], apart := false, laid := [("unicode/utf8.acceptRanges", laid_unicode_utf8_acceptRanges), ("unicode/utf8.first", laid_unicode_utf8_first)] }
def PricePartsSaid : Prop := pricePartsRow.holds Tryd.pinned (OpenSpec.ofChange pricePartsSpec)

/-- ITS FALSE NEIGHBOUR: 'it returns false'. Refute it at one input. -/
def pricePartsWrong : ChangeSpec := { name := "priceParts", fn := fun _ => fun
  | [d] => { results := [.lit (.bool false)], args := [d] }
  | _ => none }
def PricePartsWrongFalsely : Prop := pricePartsRow.holds Tryd.pinned (OpenSpec.ofChange pricePartsWrong)

/-- 'erratalaw12.PriceSame': WHATEVER THE INPUT: true; the input reads as it did. -/
def priceSameSpec : ChangeSpec := { name := "priceSame", fn := fun _ => fun
  | [d1, d2, d3] => { results := [.lit (.bool true)], args := [d1, d2, d3] }
  | _ => none }
def priceSameRow : OpenClaim := { program := "ytmpoihejacklnaadoor", sum := "4e6c34afb32ba60700ff782f6f6257ea3aebcccc7ae0a74aa6f9b0976270f62d", func := "errata/erratalaw12.PriceSame", spec := "priceSame", unfollowed := true, recurses := true, named := ["unicode/utf8.first", "unicode/utf8.acceptRanges"], apart := false, laid := [("unicode/utf8.acceptRanges", laid_unicode_utf8_acceptRanges), ("unicode/utf8.first", laid_unicode_utf8_first)] }
def PriceSameSaid : Prop := priceSameRow.holds Tryd.pinned (OpenSpec.ofChange priceSameSpec)

/-- ITS FALSE NEIGHBOUR: 'it returns false'. Refute it at one input. -/
def priceSameWrong : ChangeSpec := { name := "priceSame", fn := fun _ => fun
  | [d1, d2, d3] => { results := [.lit (.bool false)], args := [d1, d2, d3] }
  | _ => none }
def PriceSameWrongFalsely : Prop := priceSameRow.holds Tryd.pinned (OpenSpec.ofChange priceSameWrong)

/-- 'erratalaw12.PriceSums': WHATEVER THE INPUT: true; the input reads as it did. -/
def priceSumsSpec : ChangeSpec := { name := "priceSums", fn := fun _ => fun
  | [d1, d2, d3] => { results := [.lit (.bool true)], args := [d1, d2, d3] }
  | _ => none }
def priceSumsRow : OpenClaim := { program := "ytmpoihejacklnaadoor", sum := "4e6c34afb32ba60700ff782f6f6257ea3aebcccc7ae0a74aa6f9b0976270f62d", func := "errata/erratalaw12.PriceSums", spec := "priceSums", inPlace := ["internal/abi.NoEscape"], unfollowed := true, recurses := true, named := ["unicode/utf8.first", "unicode/utf8.acceptRanges"], apart := false, laid := [("unicode/utf8.acceptRanges", laid_unicode_utf8_acceptRanges), ("unicode/utf8.first", laid_unicode_utf8_first)] }
def PriceSumsSaid : Prop := priceSumsRow.holds Tryd.pinned (OpenSpec.ofChange priceSumsSpec)

/-- ITS FALSE NEIGHBOUR: 'it returns false'. Refute it at one input. -/
def priceSumsWrong : ChangeSpec := { name := "priceSums", fn := fun _ => fun
  | [d1, d2, d3] => { results := [.lit (.bool false)], args := [d1, d2, d3] }
  | _ => none }
def PriceSumsWrongFalsely : Prop := priceSumsRow.holds Tryd.pinned (OpenSpec.ofChange priceSumsWrong)

/-- 'erratalaw12.PriceMore': WHATEVER THE INPUT: true; the input reads as it did. -/
def priceMoreSpec : ChangeSpec := { name := "priceMore", fn := fun _ => fun
  | [d] => { results := [.lit (.bool true)], args := [d] }
  | _ => none }
def priceMoreRow : OpenClaim := { program := "ytmpoihejacklnaadoor", sum := "4e6c34afb32ba60700ff782f6f6257ea3aebcccc7ae0a74aa6f9b0976270f62d", func := "errata/erratalaw12.PriceMore", spec := "priceMore", unfollowed := true, recurses := true, named := ["unicode/utf8.first", "unicode/utf8.acceptRanges"], apart := false, laid := [("unicode/utf8.acceptRanges", laid_unicode_utf8_acceptRanges), ("unicode/utf8.first", laid_unicode_utf8_first)] }
def PriceMoreSaid : Prop := priceMoreRow.holds Tryd.pinned (OpenSpec.ofChange priceMoreSpec)

/-- ITS FALSE NEIGHBOUR: 'it returns false'. Refute it at one input. -/
def priceMoreWrong : ChangeSpec := { name := "priceMore", fn := fun _ => fun
  | [d] => { results := [.lit (.bool false)], args := [d] }
  | _ => none }
def PriceMoreWrongFalsely : Prop := priceMoreRow.holds Tryd.pinned (OpenSpec.ofChange priceMoreWrong)

/- THE SECOND FORM. 'bulk': how many values and letters a reading holds, each counted each time it is reached (what is shared counts as often as it is met; a slice's spare places count too). A statement '..UptoSaid' is the law's where the arguments, and the package variables that the reading takes, are together of bulk at most 1048576: NARROWER than '..Said'. Prove '..Said' where nothing that the law and all that it calls make is longer than what came in: it says more and counts as full. Else prove '..UptoSaid'. A law counts once. -/
mutual
def uptoBulk {H : Type} : DataW H → Nat
  | .lit (.string bytes) => bytes.length + 1
  | .lit _ => 1
  | .nil => 1
  | .ptr d => uptoBulk d + 1
  | .slice elems spare => uptoBulkAll elems + uptoBulkAll spare + 1
  | .agg parts => uptoBulkAll parts + 1
  | .iface _ d => uptoBulk d + 1
  | .map entries => uptoBulkEntries entries + 1
  | .held _ => 1
def uptoBulkAll {H : Type} : List (DataW H) → Nat
  | [] => 0
  | d :: r => uptoBulk d + uptoBulkAll r
def uptoBulkEntries {H : Type} : List (Lit × DataW H) → Nat
  | [] => 0
  | x :: r => uptoBulkEntry x + uptoBulkEntries r
def uptoBulkEntry {H : Type} : Lit × DataW H → Nat
  | (.string bytes, d) => bytes.length + uptoBulk d + 1
  | (_, d) => uptoBulk d + 1
 end
def uptoSmall : (H : Type) → List (DataW H) → Bool := fun _ ds => decide (uptoBulkAll ds ≤ 1048576)
def OpenSpec.upto (s : _root_.Go.ChangeSpec) : _root_.Go.OpenSpec := { _root_.Go.OpenSpec.ofChange s with cond := some uptoSmall }

/-- 'erratalaw12.PriceBehind', WHERE WHAT IT READS IS OF BULK AT MOST 1048576: true; the input reads as it did. -/
def priceBehindUptoRow : OpenClaim := { program := "ytmpoihejacklnaadoor", sum := "4e6c34afb32ba60700ff782f6f6257ea3aebcccc7ae0a74aa6f9b0976270f62d", func := "errata/erratalaw12.PriceBehind", spec := "priceBehind", unfollowed := true, recurses := true, named := ["unicode/utf8.first", "unicode/utf8.acceptRanges"], apart := false, laid := [("unicode/utf8.acceptRanges", laid_unicode_utf8_acceptRanges), ("unicode/utf8.first", laid_unicode_utf8_first)], narrowed := true }
def PriceBehindUptoSaid : Prop := priceBehindUptoRow.holds Tryd.pinned (OpenSpec.upto priceBehindSpec)

/-- 'erratalaw12.PricePrices', WHERE WHAT IT READS IS OF BULK AT MOST 1048576: true; the input reads as it did. -/
def pricePricesUptoRow : OpenClaim := { program := "ytmpoihejacklnaadoor", sum := "4e6c34afb32ba60700ff782f6f6257ea3aebcccc7ae0a74aa6f9b0976270f62d", func := "errata/erratalaw12.PricePrices", spec := "pricePrices", unfollowed := true, recurses := true, named := ["unicode/utf8.first", "unicode/utf8.acceptRanges"], apart := false, laid := [("unicode/utf8.acceptRanges", laid_unicode_utf8_acceptRanges), ("unicode/utf8.first", laid_unicode_utf8_first)], narrowed := true }
def PricePricesUptoSaid : Prop := pricePricesUptoRow.holds Tryd.pinned (OpenSpec.upto pricePricesSpec)

/-- 'erratalaw12.PriceWithin', WHERE WHAT IT READS IS OF BULK AT MOST 1048576: true; the input reads as it did. -/
def priceWithinUptoRow : OpenClaim := { program := "ytmpoihejacklnaadoor", sum := "4e6c34afb32ba60700ff782f6f6257ea3aebcccc7ae0a74aa6f9b0976270f62d", func := "errata/erratalaw12.PriceWithin", spec := "priceWithin", unfollowed := true, recurses := true, named := ["unicode/utf8.first", "unicode/utf8.acceptRanges"], apart := false, laid := [("unicode/utf8.acceptRanges", laid_unicode_utf8_acceptRanges), ("unicode/utf8.first", laid_unicode_utf8_first)], narrowed := true }
def PriceWithinUptoSaid : Prop := priceWithinUptoRow.holds Tryd.pinned (OpenSpec.upto priceWithinSpec)

/-- 'erratalaw12.PriceParts', WHERE WHAT IT READS IS OF BULK AT MOST 1048576: true; the input reads as it did. -/
def pricePartsUptoRow : OpenClaim := { program := "ytmpoihejacklnaadoor", sum := "4e6c34afb32ba60700ff782f6f6257ea3aebcccc7ae0a74aa6f9b0976270f62d", func := "errata/erratalaw12.PriceParts", spec := "priceParts", inPlace := ["internal/abi.NoEscape"], unfollowed := true, recurses := true, named := ["unicode/utf8.first", "unicode/utf8.acceptRanges"], apart := false, laid := [("unicode/utf8.acceptRanges", laid_unicode_utf8_acceptRanges), ("unicode/utf8.first", laid_unicode_utf8_first)], narrowed := true }
def PricePartsUptoSaid : Prop := pricePartsUptoRow.holds Tryd.pinned (OpenSpec.upto pricePartsSpec)

/-- 'erratalaw12.PriceSame', WHERE WHAT IT READS IS OF BULK AT MOST 1048576: true; the input reads as it did. -/
def priceSameUptoRow : OpenClaim := { program := "ytmpoihejacklnaadoor", sum := "4e6c34afb32ba60700ff782f6f6257ea3aebcccc7ae0a74aa6f9b0976270f62d", func := "errata/erratalaw12.PriceSame", spec := "priceSame", unfollowed := true, recurses := true, named := ["unicode/utf8.first", "unicode/utf8.acceptRanges"], apart := false, laid := [("unicode/utf8.acceptRanges", laid_unicode_utf8_acceptRanges), ("unicode/utf8.first", laid_unicode_utf8_first)], narrowed := true }
def PriceSameUptoSaid : Prop := priceSameUptoRow.holds Tryd.pinned (OpenSpec.upto priceSameSpec)

/-- 'erratalaw12.PriceSums', WHERE WHAT IT READS IS OF BULK AT MOST 1048576: true; the input reads as it did. -/
def priceSumsUptoRow : OpenClaim := { program := "ytmpoihejacklnaadoor", sum := "4e6c34afb32ba60700ff782f6f6257ea3aebcccc7ae0a74aa6f9b0976270f62d", func := "errata/erratalaw12.PriceSums", spec := "priceSums", inPlace := ["internal/abi.NoEscape"], unfollowed := true, recurses := true, named := ["unicode/utf8.first", "unicode/utf8.acceptRanges"], apart := false, laid := [("unicode/utf8.acceptRanges", laid_unicode_utf8_acceptRanges), ("unicode/utf8.first", laid_unicode_utf8_first)], narrowed := true }
def PriceSumsUptoSaid : Prop := priceSumsUptoRow.holds Tryd.pinned (OpenSpec.upto priceSumsSpec)

/-- 'erratalaw12.PriceMore', WHERE WHAT IT READS IS OF BULK AT MOST 1048576: true; the input reads as it did. -/
def priceMoreUptoRow : OpenClaim := { program := "ytmpoihejacklnaadoor", sum := "4e6c34afb32ba60700ff782f6f6257ea3aebcccc7ae0a74aa6f9b0976270f62d", func := "errata/erratalaw12.PriceMore", spec := "priceMore", unfollowed := true, recurses := true, named := ["unicode/utf8.first", "unicode/utf8.acceptRanges"], apart := false, laid := [("unicode/utf8.acceptRanges", laid_unicode_utf8_acceptRanges), ("unicode/utf8.first", laid_unicode_utf8_first)], narrowed := true }
def PriceMoreUptoSaid : Prop := priceMoreUptoRow.holds Tryd.pinned (OpenSpec.upto priceMoreSpec)

end Rows
end Go.Proofs.YtmpoihejacklnaaDoor
