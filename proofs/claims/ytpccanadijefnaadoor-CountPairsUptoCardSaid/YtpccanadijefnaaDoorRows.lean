/-
  NARROWER THAN 'FOR EVERY INPUT', by the rows' own cells (each row's printed sentence says how): RuleMakes: laid · RuleChecks: laid · RuleOften: laid · CountOrders: laid · CountMerges: laid · CountParts: laid · CountFinds: laid · CountTables: laid · MatchMoves: laid · MatchAlone: laid · MatchHits: laid · MatchPlaces: laid · MatchStands: laid · MatchStates: laid · RuleNormals: laid · RuleOnce: laid · CountPairs: laid · CountLearns: laid.
  DERIVED. THE GIVEN ROWS OF THIS SEAT. 18 by the template 'for every input the law returns true; each argument reads behind the call as it read before'; 0 by the template 'total and deterministic' (their statements: YtpccanadijefnaaDoorTotals.lean).
  GIVEN WITH THE SEED: the statements are not yours to turn. If you find one false, say at which input.
  Laid BY PROGRAM, IN A SANDBOX (cutbox-rows.mjs): the forced cells as the released guide's own fill.sh prints them over the translation 43e886c9f0dcdbad… (all of the seat's roots in one cut). By AI agents, Wed Nov 11 2026. No macro, syntax, notation, axiom, sorry.
-/
import Derived.Test.YtpccanadijefnaaDoorChecked
import GoSem.PinnedTables
import GoSem.Claim
import GoSem.ClaimJoined
import GoSem.ClaimMapViews
import Derived.JoinedTies
import Derived.KernelRfl
namespace Go.Proofs.YtpccanadijefnaaDoor
/- THE CELL 'sum', in the pinned program and in every row, IS THE sha256 OF THE DUMP (.gsa) THAT YtpccanadijefnaaDoorProg.lean LOADS. Nothing in Lean hashes anything: it is a label: what it is worth is what the hold of that sum in a sandbox is worth. -/
noncomputable def Tryd.pinned : Pinned := { name := "ytpccanadijefnaadoor", sum := "43e886c9f0dcdbad24691566c2b069861bc53ec41398f562a08e735812be1b0d", checked := Tryd.checked }
namespace Rows
def none {H : Type} : Left H := { results := [], args := [] }

/- WHAT THE LISTED PACKAGE-LEVEL VARIABLES READ AS WHEN THE CALL BEGINS. Each datum BY PROGRAM (the guide's laid-datum.mjs) off the statement by which the dump's own 'gosem.cut.vars' lays the variable. In a bare row this is a premise. The card (YtpccanadijefnaaDoorCards.lean) ties it to the program's text. -/
def laid_unicode_utf8_acceptRanges {H : Type} : DataW H := .agg [.agg [.lit (.int .u8 128), .lit (.int .u8 191)], .agg [.lit (.int .u8 160), .lit (.int .u8 191)], .agg [.lit (.int .u8 128), .lit (.int .u8 159)], .agg [.lit (.int .u8 144), .lit (.int .u8 191)], .agg [.lit (.int .u8 128), .lit (.int .u8 143)], .agg [.lit (.int .u8 0), .lit (.int .u8 0)], .agg [.lit (.int .u8 0), .lit (.int .u8 0)], .agg [.lit (.int .u8 0), .lit (.int .u8 0)], .agg [.lit (.int .u8 0), .lit (.int .u8 0)], .agg [.lit (.int .u8 0), .lit (.int .u8 0)], .agg [.lit (.int .u8 0), .lit (.int .u8 0)], .agg [.lit (.int .u8 0), .lit (.int .u8 0)], .agg [.lit (.int .u8 0), .lit (.int .u8 0)], .agg [.lit (.int .u8 0), .lit (.int .u8 0)], .agg [.lit (.int .u8 0), .lit (.int .u8 0)], .agg [.lit (.int .u8 0), .lit (.int .u8 0)]]
/-- One of Go's own tables, pinned by name: the form's constant. -/
def laid_unicode_utf8_first : DataW Unit := Go.Pinned.utf8First

/-- 'erratalaw07.RuleMakes': WHATEVER THE INPUT: true; the input reads as it did. -/
def ruleMakesSpec : ChangeSpec := { name := "ruleMakes", fn := fun _ => fun
  | [d1, d2] => { results := [.lit (.bool true)], args := [d1, d2] }
  | _ => none }
def ruleMakesRow : OpenClaim := { program := "ytpccanadijefnaadoor", sum := "43e886c9f0dcdbad24691566c2b069861bc53ec41398f562a08e735812be1b0d", func := "errata/erratalaw07.RuleMakes", spec := "ruleMakes", inPlace := ["math/bits.Add64"], named := ["unicode/utf8.first", "unicode/utf8.acceptRanges"], plainKeys := false, apart := false, laid := [("unicode/utf8.acceptRanges", laid_unicode_utf8_acceptRanges), ("unicode/utf8.first", laid_unicode_utf8_first)] }
def RuleMakesSaid : Prop := ruleMakesRow.holds Tryd.pinned (OpenSpec.ofChange ruleMakesSpec)

/-- ITS FALSE NEIGHBOUR: 'it returns false'. Refute it at one input. -/
def ruleMakesWrong : ChangeSpec := { name := "ruleMakes", fn := fun _ => fun
  | [d1, d2] => { results := [.lit (.bool false)], args := [d1, d2] }
  | _ => none }
def RuleMakesWrongFalsely : Prop := ruleMakesRow.holds Tryd.pinned (OpenSpec.ofChange ruleMakesWrong)

/-- 'erratalaw07.RuleChecks': WHATEVER THE INPUT: true; the input reads as it did. -/
def ruleChecksSpec : ChangeSpec := { name := "ruleChecks", fn := fun _ => fun
  | [d1, d2, d3] => { results := [.lit (.bool true)], args := [d1, d2, d3] }
  | _ => none }
def ruleChecksRow : OpenClaim := { program := "ytpccanadijefnaadoor", sum := "43e886c9f0dcdbad24691566c2b069861bc53ec41398f562a08e735812be1b0d", func := "errata/erratalaw07.RuleChecks", spec := "ruleChecks", inPlace := ["math/bits.Add64"], unfollowed := true, recurses := true, named := ["unicode/utf8.first", "unicode/utf8.acceptRanges"], plainKeys := false, apart := false, laid := [("unicode/utf8.acceptRanges", laid_unicode_utf8_acceptRanges), ("unicode/utf8.first", laid_unicode_utf8_first)] }
def RuleChecksSaid : Prop := ruleChecksRow.holds Tryd.pinned (OpenSpec.ofChange ruleChecksSpec)

/-- ITS FALSE NEIGHBOUR: 'it returns false'. Refute it at one input. -/
def ruleChecksWrong : ChangeSpec := { name := "ruleChecks", fn := fun _ => fun
  | [d1, d2, d3] => { results := [.lit (.bool false)], args := [d1, d2, d3] }
  | _ => none }
def RuleChecksWrongFalsely : Prop := ruleChecksRow.holds Tryd.pinned (OpenSpec.ofChange ruleChecksWrong)

/-- 'erratalaw07.RuleOften': WHATEVER THE INPUT: true; the input reads as it did. -/
def ruleOftenSpec : ChangeSpec := { name := "ruleOften", fn := fun _ => fun
  | [d1, d2, d3] => { results := [.lit (.bool true)], args := [d1, d2, d3] }
  | _ => none }
def ruleOftenRow : OpenClaim := { program := "ytpccanadijefnaadoor", sum := "43e886c9f0dcdbad24691566c2b069861bc53ec41398f562a08e735812be1b0d", func := "errata/erratalaw07.RuleOften", spec := "ruleOften", inPlace := ["math/bits.Add64"], unfollowed := true, recurses := true, named := ["unicode/utf8.first", "unicode/utf8.acceptRanges"], plainKeys := false, apart := false, laid := [("unicode/utf8.acceptRanges", laid_unicode_utf8_acceptRanges), ("unicode/utf8.first", laid_unicode_utf8_first)] }
def RuleOftenSaid : Prop := ruleOftenRow.holds Tryd.pinned (OpenSpec.ofChange ruleOftenSpec)

/-- ITS FALSE NEIGHBOUR: 'it returns false'. Refute it at one input. -/
def ruleOftenWrong : ChangeSpec := { name := "ruleOften", fn := fun _ => fun
  | [d1, d2, d3] => { results := [.lit (.bool false)], args := [d1, d2, d3] }
  | _ => none }
def RuleOftenWrongFalsely : Prop := ruleOftenRow.holds Tryd.pinned (OpenSpec.ofChange ruleOftenWrong)

/-- 'erratalaw06.CountOrders': WHATEVER THE INPUT: true; the input reads as it did. -/
def countOrdersSpec : ChangeSpec := { name := "countOrders", fn := fun _ => fun
  | [d1, d2] => { results := [.lit (.bool true)], args := [d1, d2] }
  | _ => none }
def countOrdersRow : OpenClaim := { program := "ytpccanadijefnaadoor", sum := "43e886c9f0dcdbad24691566c2b069861bc53ec41398f562a08e735812be1b0d", func := "errata/erratalaw06.CountOrders", spec := "countOrders", unfollowed := true, recurses := true, named := ["unicode/utf8.first", "unicode/utf8.acceptRanges"], plainKeys := false, apart := false, laid := [("unicode/utf8.acceptRanges", laid_unicode_utf8_acceptRanges), ("unicode/utf8.first", laid_unicode_utf8_first)] }
def CountOrdersSaid : Prop := countOrdersRow.holds Tryd.pinned (OpenSpec.ofChange countOrdersSpec)

/-- ITS FALSE NEIGHBOUR: 'it returns false'. Refute it at one input. -/
def countOrdersWrong : ChangeSpec := { name := "countOrders", fn := fun _ => fun
  | [d1, d2] => { results := [.lit (.bool false)], args := [d1, d2] }
  | _ => none }
def CountOrdersWrongFalsely : Prop := countOrdersRow.holds Tryd.pinned (OpenSpec.ofChange countOrdersWrong)

/-- 'erratalaw06.CountMerges': WHATEVER THE INPUT: true; the input reads as it did. -/
def countMergesSpec : ChangeSpec := { name := "countMerges", fn := fun _ => fun
  | [d1, d2, d3] => { results := [.lit (.bool true)], args := [d1, d2, d3] }
  | _ => none }
def countMergesRow : OpenClaim := { program := "ytpccanadijefnaadoor", sum := "43e886c9f0dcdbad24691566c2b069861bc53ec41398f562a08e735812be1b0d", func := "errata/erratalaw06.CountMerges", spec := "countMerges", unfollowed := true, recurses := true, named := ["unicode/utf8.first", "unicode/utf8.acceptRanges"], plainKeys := false, apart := false, laid := [("unicode/utf8.acceptRanges", laid_unicode_utf8_acceptRanges), ("unicode/utf8.first", laid_unicode_utf8_first)] }
def CountMergesSaid : Prop := countMergesRow.holds Tryd.pinned (OpenSpec.ofChange countMergesSpec)

/-- ITS FALSE NEIGHBOUR: 'it returns false'. Refute it at one input. -/
def countMergesWrong : ChangeSpec := { name := "countMerges", fn := fun _ => fun
  | [d1, d2, d3] => { results := [.lit (.bool false)], args := [d1, d2, d3] }
  | _ => none }
def CountMergesWrongFalsely : Prop := countMergesRow.holds Tryd.pinned (OpenSpec.ofChange countMergesWrong)

/-- 'erratalaw06.CountParts': WHATEVER THE INPUT: true; the input reads as it did. -/
def countPartsSpec : ChangeSpec := { name := "countParts", fn := fun _ => fun
  | [d1, d2] => { results := [.lit (.bool true)], args := [d1, d2] }
  | _ => none }
def countPartsRow : OpenClaim := { program := "ytpccanadijefnaadoor", sum := "43e886c9f0dcdbad24691566c2b069861bc53ec41398f562a08e735812be1b0d", func := "errata/erratalaw06.CountParts", spec := "countParts", unfollowed := true, recurses := true, named := ["unicode/utf8.first", "unicode/utf8.acceptRanges"], plainKeys := false, apart := false, laid := [("unicode/utf8.acceptRanges", laid_unicode_utf8_acceptRanges), ("unicode/utf8.first", laid_unicode_utf8_first)] }
def CountPartsSaid : Prop := countPartsRow.holds Tryd.pinned (OpenSpec.ofChange countPartsSpec)

/-- ITS FALSE NEIGHBOUR: 'it returns false'. Refute it at one input. -/
def countPartsWrong : ChangeSpec := { name := "countParts", fn := fun _ => fun
  | [d1, d2] => { results := [.lit (.bool false)], args := [d1, d2] }
  | _ => none }
def CountPartsWrongFalsely : Prop := countPartsRow.holds Tryd.pinned (OpenSpec.ofChange countPartsWrong)

/-- 'erratalaw06.CountFinds': WHATEVER THE INPUT: true; the input reads as it did. -/
def countFindsSpec : ChangeSpec := { name := "countFinds", fn := fun _ => fun
  | [d1, d2, d3] => { results := [.lit (.bool true)], args := [d1, d2, d3] }
  | _ => none }
def countFindsRow : OpenClaim := { program := "ytpccanadijefnaadoor", sum := "43e886c9f0dcdbad24691566c2b069861bc53ec41398f562a08e735812be1b0d", func := "errata/erratalaw06.CountFinds", spec := "countFinds", unfollowed := true, recurses := true, named := ["unicode/utf8.first", "unicode/utf8.acceptRanges"], plainKeys := false, apart := false, laid := [("unicode/utf8.acceptRanges", laid_unicode_utf8_acceptRanges), ("unicode/utf8.first", laid_unicode_utf8_first)] }
def CountFindsSaid : Prop := countFindsRow.holds Tryd.pinned (OpenSpec.ofChange countFindsSpec)

/-- ITS FALSE NEIGHBOUR: 'it returns false'. Refute it at one input. -/
def countFindsWrong : ChangeSpec := { name := "countFinds", fn := fun _ => fun
  | [d1, d2, d3] => { results := [.lit (.bool false)], args := [d1, d2, d3] }
  | _ => none }
def CountFindsWrongFalsely : Prop := countFindsRow.holds Tryd.pinned (OpenSpec.ofChange countFindsWrong)

/-- 'erratalaw06.CountTables': WHATEVER THE INPUT: true; the input reads as it did. -/
def countTablesSpec : ChangeSpec := { name := "countTables", fn := fun _ => fun
  | [d1, d2, d3] => { results := [.lit (.bool true)], args := [d1, d2, d3] }
  | _ => none }
def countTablesRow : OpenClaim := { program := "ytpccanadijefnaadoor", sum := "43e886c9f0dcdbad24691566c2b069861bc53ec41398f562a08e735812be1b0d", func := "errata/erratalaw06.CountTables", spec := "countTables", unfollowed := true, recurses := true, named := ["unicode/utf8.first", "unicode/utf8.acceptRanges"], plainKeys := false, apart := false, laid := [("unicode/utf8.acceptRanges", laid_unicode_utf8_acceptRanges), ("unicode/utf8.first", laid_unicode_utf8_first)] }
def CountTablesSaid : Prop := countTablesRow.holds Tryd.pinned (OpenSpec.ofChange countTablesSpec)

/-- ITS FALSE NEIGHBOUR: 'it returns false'. Refute it at one input. -/
def countTablesWrong : ChangeSpec := { name := "countTables", fn := fun _ => fun
  | [d1, d2, d3] => { results := [.lit (.bool false)], args := [d1, d2, d3] }
  | _ => none }
def CountTablesWrongFalsely : Prop := countTablesRow.holds Tryd.pinned (OpenSpec.ofChange countTablesWrong)

/-- 'erratalaw08.MatchMoves': WHATEVER THE INPUT: true; the input reads as it did. -/
def matchMovesSpec : ChangeSpec := { name := "matchMoves", fn := fun _ => fun
  | [d] => { results := [.lit (.bool true)], args := [d] }
  | _ => none }
def matchMovesRow : OpenClaim := { program := "ytpccanadijefnaadoor", sum := "43e886c9f0dcdbad24691566c2b069861bc53ec41398f562a08e735812be1b0d", func := "errata/erratalaw08.MatchMoves", spec := "matchMoves", unfollowed := true, recurses := true, named := ["unicode/utf8.first", "unicode/utf8.acceptRanges"], plainKeys := false, apart := false, laid := [("unicode/utf8.acceptRanges", laid_unicode_utf8_acceptRanges), ("unicode/utf8.first", laid_unicode_utf8_first)] }
def MatchMovesSaid : Prop := matchMovesRow.holds Tryd.pinned (OpenSpec.ofChange matchMovesSpec)

/-- ITS FALSE NEIGHBOUR: 'it returns false'. Refute it at one input. -/
def matchMovesWrong : ChangeSpec := { name := "matchMoves", fn := fun _ => fun
  | [d] => { results := [.lit (.bool false)], args := [d] }
  | _ => none }
def MatchMovesWrongFalsely : Prop := matchMovesRow.holds Tryd.pinned (OpenSpec.ofChange matchMovesWrong)

/-- 'erratalaw08.MatchAlone': WHATEVER THE INPUT: true; the input reads as it did. -/
def matchAloneSpec : ChangeSpec := { name := "matchAlone", fn := fun _ => fun
  | [d1, d2] => { results := [.lit (.bool true)], args := [d1, d2] }
  | _ => none }
def matchAloneRow : OpenClaim := { program := "ytpccanadijefnaadoor", sum := "43e886c9f0dcdbad24691566c2b069861bc53ec41398f562a08e735812be1b0d", func := "errata/erratalaw08.MatchAlone", spec := "matchAlone", unfollowed := true, recurses := true, named := ["unicode/utf8.first", "unicode/utf8.acceptRanges"], plainKeys := false, apart := false, laid := [("unicode/utf8.acceptRanges", laid_unicode_utf8_acceptRanges), ("unicode/utf8.first", laid_unicode_utf8_first)] }
def MatchAloneSaid : Prop := matchAloneRow.holds Tryd.pinned (OpenSpec.ofChange matchAloneSpec)

/-- ITS FALSE NEIGHBOUR: 'it returns false'. Refute it at one input. -/
def matchAloneWrong : ChangeSpec := { name := "matchAlone", fn := fun _ => fun
  | [d1, d2] => { results := [.lit (.bool false)], args := [d1, d2] }
  | _ => none }
def MatchAloneWrongFalsely : Prop := matchAloneRow.holds Tryd.pinned (OpenSpec.ofChange matchAloneWrong)

/-- 'erratalaw08.MatchHits': WHATEVER THE INPUT: true; the input reads as it did. -/
def matchHitsSpec : ChangeSpec := { name := "matchHits", fn := fun _ => fun
  | [d1, d2, d3] => { results := [.lit (.bool true)], args := [d1, d2, d3] }
  | _ => none }
def matchHitsRow : OpenClaim := { program := "ytpccanadijefnaadoor", sum := "43e886c9f0dcdbad24691566c2b069861bc53ec41398f562a08e735812be1b0d", func := "errata/erratalaw08.MatchHits", spec := "matchHits", unfollowed := true, recurses := true, named := ["unicode/utf8.first", "unicode/utf8.acceptRanges"], plainKeys := false, apart := false, laid := [("unicode/utf8.acceptRanges", laid_unicode_utf8_acceptRanges), ("unicode/utf8.first", laid_unicode_utf8_first)] }
def MatchHitsSaid : Prop := matchHitsRow.holds Tryd.pinned (OpenSpec.ofChange matchHitsSpec)

/-- ITS FALSE NEIGHBOUR: 'it returns false'. Refute it at one input. -/
def matchHitsWrong : ChangeSpec := { name := "matchHits", fn := fun _ => fun
  | [d1, d2, d3] => { results := [.lit (.bool false)], args := [d1, d2, d3] }
  | _ => none }
def MatchHitsWrongFalsely : Prop := matchHitsRow.holds Tryd.pinned (OpenSpec.ofChange matchHitsWrong)

/-- 'erratalaw08.MatchPlaces': WHATEVER THE INPUT: true; the input reads as it did. -/
def matchPlacesSpec : ChangeSpec := { name := "matchPlaces", fn := fun _ => fun
  | [d1, d2] => { results := [.lit (.bool true)], args := [d1, d2] }
  | _ => none }
def matchPlacesRow : OpenClaim := { program := "ytpccanadijefnaadoor", sum := "43e886c9f0dcdbad24691566c2b069861bc53ec41398f562a08e735812be1b0d", func := "errata/erratalaw08.MatchPlaces", spec := "matchPlaces", unfollowed := true, recurses := true, named := ["unicode/utf8.first", "unicode/utf8.acceptRanges"], plainKeys := false, apart := false, laid := [("unicode/utf8.acceptRanges", laid_unicode_utf8_acceptRanges), ("unicode/utf8.first", laid_unicode_utf8_first)] }
def MatchPlacesSaid : Prop := matchPlacesRow.holds Tryd.pinned (OpenSpec.ofChange matchPlacesSpec)

/-- ITS FALSE NEIGHBOUR: 'it returns false'. Refute it at one input. -/
def matchPlacesWrong : ChangeSpec := { name := "matchPlaces", fn := fun _ => fun
  | [d1, d2] => { results := [.lit (.bool false)], args := [d1, d2] }
  | _ => none }
def MatchPlacesWrongFalsely : Prop := matchPlacesRow.holds Tryd.pinned (OpenSpec.ofChange matchPlacesWrong)

/-- 'erratalaw08.MatchStands': WHATEVER THE INPUT: true; the input reads as it did. -/
def matchStandsSpec : ChangeSpec := { name := "matchStands", fn := fun _ => fun
  | [d1, d2] => { results := [.lit (.bool true)], args := [d1, d2] }
  | _ => none }
def matchStandsRow : OpenClaim := { program := "ytpccanadijefnaadoor", sum := "43e886c9f0dcdbad24691566c2b069861bc53ec41398f562a08e735812be1b0d", func := "errata/erratalaw08.MatchStands", spec := "matchStands", unfollowed := true, recurses := true, named := ["unicode/utf8.first", "unicode/utf8.acceptRanges"], plainKeys := false, apart := false, laid := [("unicode/utf8.acceptRanges", laid_unicode_utf8_acceptRanges), ("unicode/utf8.first", laid_unicode_utf8_first)] }
def MatchStandsSaid : Prop := matchStandsRow.holds Tryd.pinned (OpenSpec.ofChange matchStandsSpec)

/-- ITS FALSE NEIGHBOUR: 'it returns false'. Refute it at one input. -/
def matchStandsWrong : ChangeSpec := { name := "matchStands", fn := fun _ => fun
  | [d1, d2] => { results := [.lit (.bool false)], args := [d1, d2] }
  | _ => none }
def MatchStandsWrongFalsely : Prop := matchStandsRow.holds Tryd.pinned (OpenSpec.ofChange matchStandsWrong)

/-- 'erratalaw08.MatchStates': WHATEVER THE INPUT: true; the input reads as it did. -/
def matchStatesSpec : ChangeSpec := { name := "matchStates", fn := fun _ => fun
  | [d1, d2] => { results := [.lit (.bool true)], args := [d1, d2] }
  | _ => none }
def matchStatesRow : OpenClaim := { program := "ytpccanadijefnaadoor", sum := "43e886c9f0dcdbad24691566c2b069861bc53ec41398f562a08e735812be1b0d", func := "errata/erratalaw08.MatchStates", spec := "matchStates", unfollowed := true, recurses := true, named := ["unicode/utf8.first", "unicode/utf8.acceptRanges"], plainKeys := false, apart := false, laid := [("unicode/utf8.acceptRanges", laid_unicode_utf8_acceptRanges), ("unicode/utf8.first", laid_unicode_utf8_first)] }
def MatchStatesSaid : Prop := matchStatesRow.holds Tryd.pinned (OpenSpec.ofChange matchStatesSpec)

/-- ITS FALSE NEIGHBOUR: 'it returns false'. Refute it at one input. -/
def matchStatesWrong : ChangeSpec := { name := "matchStates", fn := fun _ => fun
  | [d1, d2] => { results := [.lit (.bool false)], args := [d1, d2] }
  | _ => none }
def MatchStatesWrongFalsely : Prop := matchStatesRow.holds Tryd.pinned (OpenSpec.ofChange matchStatesWrong)

/-- 'erratalaw07.RuleNormals': WHATEVER THE INPUT: true; the input reads as it did. -/
def ruleNormalsSpec : ChangeSpec := { name := "ruleNormals", fn := fun _ => fun
  | [d1, d2, d3] => { results := [.lit (.bool true)], args := [d1, d2, d3] }
  | _ => none }
def ruleNormalsRow : OpenClaim := { program := "ytpccanadijefnaadoor", sum := "43e886c9f0dcdbad24691566c2b069861bc53ec41398f562a08e735812be1b0d", func := "errata/erratalaw07.RuleNormals", spec := "ruleNormals", inPlace := ["math/bits.Add64"], unfollowed := true, recurses := true, named := ["unicode/utf8.first", "unicode/utf8.acceptRanges"], plainKeys := false, apart := false, laid := [("unicode/utf8.acceptRanges", laid_unicode_utf8_acceptRanges), ("unicode/utf8.first", laid_unicode_utf8_first)] }
def RuleNormalsSaid : Prop := ruleNormalsRow.holds Tryd.pinned (OpenSpec.ofChange ruleNormalsSpec)

/-- ITS FALSE NEIGHBOUR: 'it returns false'. Refute it at one input. -/
def ruleNormalsWrong : ChangeSpec := { name := "ruleNormals", fn := fun _ => fun
  | [d1, d2, d3] => { results := [.lit (.bool false)], args := [d1, d2, d3] }
  | _ => none }
def RuleNormalsWrongFalsely : Prop := ruleNormalsRow.holds Tryd.pinned (OpenSpec.ofChange ruleNormalsWrong)

/-- 'erratalaw07.RuleOnce': WHATEVER THE INPUT: true; the input reads as it did. -/
def ruleOnceSpec : ChangeSpec := { name := "ruleOnce", fn := fun _ => fun
  | [d1, d2] => { results := [.lit (.bool true)], args := [d1, d2] }
  | _ => none }
def ruleOnceRow : OpenClaim := { program := "ytpccanadijefnaadoor", sum := "43e886c9f0dcdbad24691566c2b069861bc53ec41398f562a08e735812be1b0d", func := "errata/erratalaw07.RuleOnce", spec := "ruleOnce", inPlace := ["math/bits.Add64"], unfollowed := true, recurses := true, named := ["unicode/utf8.first", "unicode/utf8.acceptRanges"], plainKeys := false, apart := false, laid := [("unicode/utf8.acceptRanges", laid_unicode_utf8_acceptRanges), ("unicode/utf8.first", laid_unicode_utf8_first)] }
def RuleOnceSaid : Prop := ruleOnceRow.holds Tryd.pinned (OpenSpec.ofChange ruleOnceSpec)

/-- ITS FALSE NEIGHBOUR: 'it returns false'. Refute it at one input. -/
def ruleOnceWrong : ChangeSpec := { name := "ruleOnce", fn := fun _ => fun
  | [d1, d2] => { results := [.lit (.bool false)], args := [d1, d2] }
  | _ => none }
def RuleOnceWrongFalsely : Prop := ruleOnceRow.holds Tryd.pinned (OpenSpec.ofChange ruleOnceWrong)

/-- 'erratalaw06.CountPairs': WHATEVER THE INPUT: true; the input reads as it did. -/
def countPairsSpec : ChangeSpec := { name := "countPairs", fn := fun _ => fun
  | [d] => { results := [.lit (.bool true)], args := [d] }
  | _ => none }
def countPairsRow : OpenClaim := { program := "ytpccanadijefnaadoor", sum := "43e886c9f0dcdbad24691566c2b069861bc53ec41398f562a08e735812be1b0d", func := "errata/erratalaw06.CountPairs", spec := "countPairs", unfollowed := true, recurses := true, named := ["unicode/utf8.first", "unicode/utf8.acceptRanges"], plainKeys := false, apart := false, laid := [("unicode/utf8.acceptRanges", laid_unicode_utf8_acceptRanges), ("unicode/utf8.first", laid_unicode_utf8_first)] }
def CountPairsSaid : Prop := countPairsRow.holds Tryd.pinned (OpenSpec.ofChange countPairsSpec)

/-- ITS FALSE NEIGHBOUR: 'it returns false'. Refute it at one input. -/
def countPairsWrong : ChangeSpec := { name := "countPairs", fn := fun _ => fun
  | [d] => { results := [.lit (.bool false)], args := [d] }
  | _ => none }
def CountPairsWrongFalsely : Prop := countPairsRow.holds Tryd.pinned (OpenSpec.ofChange countPairsWrong)

/-- 'erratalaw06.CountLearns': WHATEVER THE INPUT: true; the input reads as it did. -/
def countLearnsSpec : ChangeSpec := { name := "countLearns", fn := fun _ => fun
  | [d] => { results := [.lit (.bool true)], args := [d] }
  | _ => none }
def countLearnsRow : OpenClaim := { program := "ytpccanadijefnaadoor", sum := "43e886c9f0dcdbad24691566c2b069861bc53ec41398f562a08e735812be1b0d", func := "errata/erratalaw06.CountLearns", spec := "countLearns", unfollowed := true, recurses := true, named := ["unicode/utf8.first", "unicode/utf8.acceptRanges"], plainKeys := false, apart := false, laid := [("unicode/utf8.acceptRanges", laid_unicode_utf8_acceptRanges), ("unicode/utf8.first", laid_unicode_utf8_first)] }
def CountLearnsSaid : Prop := countLearnsRow.holds Tryd.pinned (OpenSpec.ofChange countLearnsSpec)

/-- ITS FALSE NEIGHBOUR: 'it returns false'. Refute it at one input. -/
def countLearnsWrong : ChangeSpec := { name := "countLearns", fn := fun _ => fun
  | [d] => { results := [.lit (.bool false)], args := [d] }
  | _ => none }
def CountLearnsWrongFalsely : Prop := countLearnsRow.holds Tryd.pinned (OpenSpec.ofChange countLearnsWrong)

/- THE SECOND FORM. 'bulk': how many values and letters a reading holds, each counted each time it is reached (what is shared counts as often as it is met; a slice's spare places count too). A statement '..UptoSaid' is the law's where the arguments, and the package variables that the reading takes, are together of bulk at most 1048576: NARROWER than '..Said'. Prove '..Said' where nothing that the law and all that it calls make is longer than what came in: it says more and counts as full. Else prove '..UptoSaid'. A law counts once. -/
mutual
def uptoBulk {H : Type} : DataW H → Nat
  | .lit (.string bytes) => bytes.length + 1
  | .lit _ => 1
  | .nil => 1
  | .ptr d => uptoBulk d + 1
  | .slice elems spare => uptoBulkAll elems + uptoBulkAll spare + 1
  | .agg parts => uptoBulkAll parts + 1
  | .iface _ d => uptoBulk d + 1
  | .map entries => uptoBulkEntries entries + 1
  | .held _ => 1
def uptoBulkAll {H : Type} : List (DataW H) → Nat
  | [] => 0
  | d :: r => uptoBulk d + uptoBulkAll r
def uptoBulkEntries {H : Type} : List (Lit × DataW H) → Nat
  | [] => 0
  | x :: r => uptoBulkEntry x + uptoBulkEntries r
def uptoBulkEntry {H : Type} : Lit × DataW H → Nat
  | (.string bytes, d) => bytes.length + uptoBulk d + 1
  | (_, d) => uptoBulk d + 1
 end
def uptoSmall : (H : Type) → List (DataW H) → Bool := fun _ ds => decide (uptoBulkAll ds ≤ 1048576)
def OpenSpec.upto (s : _root_.Go.ChangeSpec) : _root_.Go.OpenSpec := { _root_.Go.OpenSpec.ofChange s with cond := some uptoSmall }

/-- 'erratalaw07.RuleMakes', WHERE WHAT IT READS IS OF BULK AT MOST 1048576: true; the input reads as it did. -/
def ruleMakesUptoRow : OpenClaim := { program := "ytpccanadijefnaadoor", sum := "43e886c9f0dcdbad24691566c2b069861bc53ec41398f562a08e735812be1b0d", func := "errata/erratalaw07.RuleMakes", spec := "ruleMakes", inPlace := ["math/bits.Add64"], named := ["unicode/utf8.first", "unicode/utf8.acceptRanges"], plainKeys := false, apart := false, laid := [("unicode/utf8.acceptRanges", laid_unicode_utf8_acceptRanges), ("unicode/utf8.first", laid_unicode_utf8_first)], narrowed := true }
def RuleMakesUptoSaid : Prop := ruleMakesUptoRow.holds Tryd.pinned (OpenSpec.upto ruleMakesSpec)

/-- 'erratalaw07.RuleChecks', WHERE WHAT IT READS IS OF BULK AT MOST 1048576: true; the input reads as it did. -/
def ruleChecksUptoRow : OpenClaim := { program := "ytpccanadijefnaadoor", sum := "43e886c9f0dcdbad24691566c2b069861bc53ec41398f562a08e735812be1b0d", func := "errata/erratalaw07.RuleChecks", spec := "ruleChecks", inPlace := ["math/bits.Add64"], unfollowed := true, recurses := true, named := ["unicode/utf8.first", "unicode/utf8.acceptRanges"], plainKeys := false, apart := false, laid := [("unicode/utf8.acceptRanges", laid_unicode_utf8_acceptRanges), ("unicode/utf8.first", laid_unicode_utf8_first)], narrowed := true }
def RuleChecksUptoSaid : Prop := ruleChecksUptoRow.holds Tryd.pinned (OpenSpec.upto ruleChecksSpec)

/-- 'erratalaw07.RuleOften', WHERE WHAT IT READS IS OF BULK AT MOST 1048576: true; the input reads as it did. -/
def ruleOftenUptoRow : OpenClaim := { program := "ytpccanadijefnaadoor", sum := "43e886c9f0dcdbad24691566c2b069861bc53ec41398f562a08e735812be1b0d", func := "errata/erratalaw07.RuleOften", spec := "ruleOften", inPlace := ["math/bits.Add64"], unfollowed := true, recurses := true, named := ["unicode/utf8.first", "unicode/utf8.acceptRanges"], plainKeys := false, apart := false, laid := [("unicode/utf8.acceptRanges", laid_unicode_utf8_acceptRanges), ("unicode/utf8.first", laid_unicode_utf8_first)], narrowed := true }
def RuleOftenUptoSaid : Prop := ruleOftenUptoRow.holds Tryd.pinned (OpenSpec.upto ruleOftenSpec)

/-- 'erratalaw06.CountOrders', WHERE WHAT IT READS IS OF BULK AT MOST 1048576: true; the input reads as it did. -/
def countOrdersUptoRow : OpenClaim := { program := "ytpccanadijefnaadoor", sum := "43e886c9f0dcdbad24691566c2b069861bc53ec41398f562a08e735812be1b0d", func := "errata/erratalaw06.CountOrders", spec := "countOrders", unfollowed := true, recurses := true, named := ["unicode/utf8.first", "unicode/utf8.acceptRanges"], plainKeys := false, apart := false, laid := [("unicode/utf8.acceptRanges", laid_unicode_utf8_acceptRanges), ("unicode/utf8.first", laid_unicode_utf8_first)], narrowed := true }
def CountOrdersUptoSaid : Prop := countOrdersUptoRow.holds Tryd.pinned (OpenSpec.upto countOrdersSpec)

/-- 'erratalaw06.CountMerges', WHERE WHAT IT READS IS OF BULK AT MOST 1048576: true; the input reads as it did. -/
def countMergesUptoRow : OpenClaim := { program := "ytpccanadijefnaadoor", sum := "43e886c9f0dcdbad24691566c2b069861bc53ec41398f562a08e735812be1b0d", func := "errata/erratalaw06.CountMerges", spec := "countMerges", unfollowed := true, recurses := true, named := ["unicode/utf8.first", "unicode/utf8.acceptRanges"], plainKeys := false, apart := false, laid := [("unicode/utf8.acceptRanges", laid_unicode_utf8_acceptRanges), ("unicode/utf8.first", laid_unicode_utf8_first)], narrowed := true }
def CountMergesUptoSaid : Prop := countMergesUptoRow.holds Tryd.pinned (OpenSpec.upto countMergesSpec)

/-- 'erratalaw06.CountParts', WHERE WHAT IT READS IS OF BULK AT MOST 1048576: true; the input reads as it did. -/
def countPartsUptoRow : OpenClaim := { program := "ytpccanadijefnaadoor", sum := "43e886c9f0dcdbad24691566c2b069861bc53ec41398f562a08e735812be1b0d", func := "errata/erratalaw06.CountParts", spec := "countParts", unfollowed := true, recurses := true, named := ["unicode/utf8.first", "unicode/utf8.acceptRanges"], plainKeys := false, apart := false, laid := [("unicode/utf8.acceptRanges", laid_unicode_utf8_acceptRanges), ("unicode/utf8.first", laid_unicode_utf8_first)], narrowed := true }
def CountPartsUptoSaid : Prop := countPartsUptoRow.holds Tryd.pinned (OpenSpec.upto countPartsSpec)

/-- 'erratalaw06.CountFinds', WHERE WHAT IT READS IS OF BULK AT MOST 1048576: true; the input reads as it did. -/
def countFindsUptoRow : OpenClaim := { program := "ytpccanadijefnaadoor", sum := "43e886c9f0dcdbad24691566c2b069861bc53ec41398f562a08e735812be1b0d", func := "errata/erratalaw06.CountFinds", spec := "countFinds", unfollowed := true, recurses := true, named := ["unicode/utf8.first", "unicode/utf8.acceptRanges"], plainKeys := false, apart := false, laid := [("unicode/utf8.acceptRanges", laid_unicode_utf8_acceptRanges), ("unicode/utf8.first", laid_unicode_utf8_first)], narrowed := true }
def CountFindsUptoSaid : Prop := countFindsUptoRow.holds Tryd.pinned (OpenSpec.upto countFindsSpec)

/-- 'erratalaw06.CountTables', WHERE WHAT IT READS IS OF BULK AT MOST 1048576: true; the input reads as it did. -/
def countTablesUptoRow : OpenClaim := { program := "ytpccanadijefnaadoor", sum := "43e886c9f0dcdbad24691566c2b069861bc53ec41398f562a08e735812be1b0d", func := "errata/erratalaw06.CountTables", spec := "countTables", unfollowed := true, recurses := true, named := ["unicode/utf8.first", "unicode/utf8.acceptRanges"], plainKeys := false, apart := false, laid := [("unicode/utf8.acceptRanges", laid_unicode_utf8_acceptRanges), ("unicode/utf8.first", laid_unicode_utf8_first)], narrowed := true }
def CountTablesUptoSaid : Prop := countTablesUptoRow.holds Tryd.pinned (OpenSpec.upto countTablesSpec)

/-- 'erratalaw08.MatchMoves', WHERE WHAT IT READS IS OF BULK AT MOST 1048576: true; the input reads as it did. -/
def matchMovesUptoRow : OpenClaim := { program := "ytpccanadijefnaadoor", sum := "43e886c9f0dcdbad24691566c2b069861bc53ec41398f562a08e735812be1b0d", func := "errata/erratalaw08.MatchMoves", spec := "matchMoves", unfollowed := true, recurses := true, named := ["unicode/utf8.first", "unicode/utf8.acceptRanges"], plainKeys := false, apart := false, laid := [("unicode/utf8.acceptRanges", laid_unicode_utf8_acceptRanges), ("unicode/utf8.first", laid_unicode_utf8_first)], narrowed := true }
def MatchMovesUptoSaid : Prop := matchMovesUptoRow.holds Tryd.pinned (OpenSpec.upto matchMovesSpec)

/-- 'erratalaw08.MatchAlone', WHERE WHAT IT READS IS OF BULK AT MOST 1048576: true; the input reads as it did. -/
def matchAloneUptoRow : OpenClaim := { program := "ytpccanadijefnaadoor", sum := "43e886c9f0dcdbad24691566c2b069861bc53ec41398f562a08e735812be1b0d", func := "errata/erratalaw08.MatchAlone", spec := "matchAlone", unfollowed := true, recurses := true, named := ["unicode/utf8.first", "unicode/utf8.acceptRanges"], plainKeys := false, apart := false, laid := [("unicode/utf8.acceptRanges", laid_unicode_utf8_acceptRanges), ("unicode/utf8.first", laid_unicode_utf8_first)], narrowed := true }
def MatchAloneUptoSaid : Prop := matchAloneUptoRow.holds Tryd.pinned (OpenSpec.upto matchAloneSpec)

/-- 'erratalaw08.MatchHits', WHERE WHAT IT READS IS OF BULK AT MOST 1048576: true; the input reads as it did. -/
def matchHitsUptoRow : OpenClaim := { program := "ytpccanadijefnaadoor", sum := "43e886c9f0dcdbad24691566c2b069861bc53ec41398f562a08e735812be1b0d", func := "errata/erratalaw08.MatchHits", spec := "matchHits", unfollowed := true, recurses := true, named := ["unicode/utf8.first", "unicode/utf8.acceptRanges"], plainKeys := false, apart := false, laid := [("unicode/utf8.acceptRanges", laid_unicode_utf8_acceptRanges), ("unicode/utf8.first", laid_unicode_utf8_first)], narrowed := true }
def MatchHitsUptoSaid : Prop := matchHitsUptoRow.holds Tryd.pinned (OpenSpec.upto matchHitsSpec)

/-- 'erratalaw08.MatchPlaces', WHERE WHAT IT READS IS OF BULK AT MOST 1048576: true; the input reads as it did. -/
def matchPlacesUptoRow : OpenClaim := { program := "ytpccanadijefnaadoor", sum := "43e886c9f0dcdbad24691566c2b069861bc53ec41398f562a08e735812be1b0d", func := "errata/erratalaw08.MatchPlaces", spec := "matchPlaces", unfollowed := true, recurses := true, named := ["unicode/utf8.first", "unicode/utf8.acceptRanges"], plainKeys := false, apart := false, laid := [("unicode/utf8.acceptRanges", laid_unicode_utf8_acceptRanges), ("unicode/utf8.first", laid_unicode_utf8_first)], narrowed := true }
def MatchPlacesUptoSaid : Prop := matchPlacesUptoRow.holds Tryd.pinned (OpenSpec.upto matchPlacesSpec)

/-- 'erratalaw08.MatchStands', WHERE WHAT IT READS IS OF BULK AT MOST 1048576: true; the input reads as it did. -/
def matchStandsUptoRow : OpenClaim := { program := "ytpccanadijefnaadoor", sum := "43e886c9f0dcdbad24691566c2b069861bc53ec41398f562a08e735812be1b0d", func := "errata/erratalaw08.MatchStands", spec := "matchStands", unfollowed := true, recurses := true, named := ["unicode/utf8.first", "unicode/utf8.acceptRanges"], plainKeys := false, apart := false, laid := [("unicode/utf8.acceptRanges", laid_unicode_utf8_acceptRanges), ("unicode/utf8.first", laid_unicode_utf8_first)], narrowed := true }
def MatchStandsUptoSaid : Prop := matchStandsUptoRow.holds Tryd.pinned (OpenSpec.upto matchStandsSpec)

/-- 'erratalaw08.MatchStates', WHERE WHAT IT READS IS OF BULK AT MOST 1048576: true; the input reads as it did. -/
def matchStatesUptoRow : OpenClaim := { program := "ytpccanadijefnaadoor", sum := "43e886c9f0dcdbad24691566c2b069861bc53ec41398f562a08e735812be1b0d", func := "errata/erratalaw08.MatchStates", spec := "matchStates", unfollowed := true, recurses := true, named := ["unicode/utf8.first", "unicode/utf8.acceptRanges"], plainKeys := false, apart := false, laid := [("unicode/utf8.acceptRanges", laid_unicode_utf8_acceptRanges), ("unicode/utf8.first", laid_unicode_utf8_first)], narrowed := true }
def MatchStatesUptoSaid : Prop := matchStatesUptoRow.holds Tryd.pinned (OpenSpec.upto matchStatesSpec)

/-- 'erratalaw07.RuleNormals', WHERE WHAT IT READS IS OF BULK AT MOST 1048576: true; the input reads as it did. -/
def ruleNormalsUptoRow : OpenClaim := { program := "ytpccanadijefnaadoor", sum := "43e886c9f0dcdbad24691566c2b069861bc53ec41398f562a08e735812be1b0d", func := "errata/erratalaw07.RuleNormals", spec := "ruleNormals", inPlace := ["math/bits.Add64"], unfollowed := true, recurses := true, named := ["unicode/utf8.first", "unicode/utf8.acceptRanges"], plainKeys := false, apart := false, laid := [("unicode/utf8.acceptRanges", laid_unicode_utf8_acceptRanges), ("unicode/utf8.first", laid_unicode_utf8_first)], narrowed := true }
def RuleNormalsUptoSaid : Prop := ruleNormalsUptoRow.holds Tryd.pinned (OpenSpec.upto ruleNormalsSpec)

/-- 'erratalaw07.RuleOnce', WHERE WHAT IT READS IS OF BULK AT MOST 1048576: true; the input reads as it did. -/
def ruleOnceUptoRow : OpenClaim := { program := "ytpccanadijefnaadoor", sum := "43e886c9f0dcdbad24691566c2b069861bc53ec41398f562a08e735812be1b0d", func := "errata/erratalaw07.RuleOnce", spec := "ruleOnce", inPlace := ["math/bits.Add64"], unfollowed := true, recurses := true, named := ["unicode/utf8.first", "unicode/utf8.acceptRanges"], plainKeys := false, apart := false, laid := [("unicode/utf8.acceptRanges", laid_unicode_utf8_acceptRanges), ("unicode/utf8.first", laid_unicode_utf8_first)], narrowed := true }
def RuleOnceUptoSaid : Prop := ruleOnceUptoRow.holds Tryd.pinned (OpenSpec.upto ruleOnceSpec)

/-- 'erratalaw06.CountPairs', WHERE WHAT IT READS IS OF BULK AT MOST 1048576: true; the input reads as it did. -/
def countPairsUptoRow : OpenClaim := { program := "ytpccanadijefnaadoor", sum := "43e886c9f0dcdbad24691566c2b069861bc53ec41398f562a08e735812be1b0d", func := "errata/erratalaw06.CountPairs", spec := "countPairs", unfollowed := true, recurses := true, named := ["unicode/utf8.first", "unicode/utf8.acceptRanges"], plainKeys := false, apart := false, laid := [("unicode/utf8.acceptRanges", laid_unicode_utf8_acceptRanges), ("unicode/utf8.first", laid_unicode_utf8_first)], narrowed := true }
def CountPairsUptoSaid : Prop := countPairsUptoRow.holds Tryd.pinned (OpenSpec.upto countPairsSpec)

/-- 'erratalaw06.CountLearns', WHERE WHAT IT READS IS OF BULK AT MOST 1048576: true; the input reads as it did. -/
def countLearnsUptoRow : OpenClaim := { program := "ytpccanadijefnaadoor", sum := "43e886c9f0dcdbad24691566c2b069861bc53ec41398f562a08e735812be1b0d", func := "errata/erratalaw06.CountLearns", spec := "countLearns", unfollowed := true, recurses := true, named := ["unicode/utf8.first", "unicode/utf8.acceptRanges"], plainKeys := false, apart := false, laid := [("unicode/utf8.acceptRanges", laid_unicode_utf8_acceptRanges), ("unicode/utf8.first", laid_unicode_utf8_first)], narrowed := true }
def CountLearnsUptoSaid : Prop := countLearnsUptoRow.holds Tryd.pinned (OpenSpec.upto countLearnsSpec)

end Rows
end Go.Proofs.YtpccanadijefnaaDoor
