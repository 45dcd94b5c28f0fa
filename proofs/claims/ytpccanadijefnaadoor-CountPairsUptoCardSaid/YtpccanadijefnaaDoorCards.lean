/-
  DERIVED. GIVEN WITH THE SEED: THE CARDS: each row of YtpccanadijefnaaDoorRows.lean that lists a variable, with what it lists TIED to the program's text (the seventh form; the later family's looks); each row that meets fmt, with fmt's text TOLD by the authors' own Lean function (tested against real Go, not proved from fmt's source: count such statements apart). THE CARD IS WHAT COUNTS. Prove the row's statement (the work); the ties are given (YtpccanadijefnaaDoorTie.lean); close each card by the builder's one call (the guide's Derived/Test/ToyasCard.lean, 'card_holds'). Laid BY PROGRAM, IN A SANDBOX (cutbox-door.mjs). By AI agents, Wed Nov 11 2026. No macro, syntax, notation, axiom, sorry.
-/
import Derived.Test.YtpccanadijefnaaDoorRows
import GoSem.ClaimSeven
namespace Go.Proofs.YtpccanadijefnaaDoor
namespace Rows

/-- THE TIED CARD OF 'erratalaw07.RuleMakes'. -/
def ruleMakesCard : Claim7 := { stood := { row := ruleMakesRow, standIns := [], harness := (true, "bd5f1a979b9bac49df739859ec8f1d6ea4fc9955e1ab6f99ee0392859e313381"), looks := false }, kinds := [], alts := [], laidByText := true, laidKinds := [.data, .pinned], laidTests := true, laidLooks := .later }
def RuleMakesCardSaid : Prop := Claim7.holds Tryd.pinned (.plain (OpenSpec.ofChange ruleMakesSpec)) ruleMakesCard

/-- THE TIED CARD OF 'erratalaw07.RuleChecks'. -/
def ruleChecksCard : Claim7 := { stood := { row := ruleChecksRow, standIns := [], harness := (true, "bd5f1a979b9bac49df739859ec8f1d6ea4fc9955e1ab6f99ee0392859e313381"), looks := false }, kinds := [], alts := [], laidByText := true, laidKinds := [.data, .pinned], laidTests := true, laidLooks := .later }
def RuleChecksCardSaid : Prop := Claim7.holds Tryd.pinned (.plain (OpenSpec.ofChange ruleChecksSpec)) ruleChecksCard

/-- THE TIED CARD OF 'erratalaw07.RuleOften'. -/
def ruleOftenCard : Claim7 := { stood := { row := ruleOftenRow, standIns := [], harness := (true, "bd5f1a979b9bac49df739859ec8f1d6ea4fc9955e1ab6f99ee0392859e313381"), looks := false }, kinds := [], alts := [], laidByText := true, laidKinds := [.data, .pinned], laidTests := true, laidLooks := .later }
def RuleOftenCardSaid : Prop := Claim7.holds Tryd.pinned (.plain (OpenSpec.ofChange ruleOftenSpec)) ruleOftenCard

/-- THE TIED CARD OF 'erratalaw06.CountOrders'. -/
def countOrdersCard : Claim7 := { stood := { row := countOrdersRow, standIns := [], harness := (true, "bd5f1a979b9bac49df739859ec8f1d6ea4fc9955e1ab6f99ee0392859e313381"), looks := false }, kinds := [], alts := [], laidByText := true, laidKinds := [.data, .pinned], laidTests := true, laidLooks := .later }
def CountOrdersCardSaid : Prop := Claim7.holds Tryd.pinned (.plain (OpenSpec.ofChange countOrdersSpec)) countOrdersCard

/-- THE TIED CARD OF 'erratalaw06.CountMerges'. -/
def countMergesCard : Claim7 := { stood := { row := countMergesRow, standIns := [], harness := (true, "bd5f1a979b9bac49df739859ec8f1d6ea4fc9955e1ab6f99ee0392859e313381"), looks := false }, kinds := [], alts := [], laidByText := true, laidKinds := [.data, .pinned], laidTests := true, laidLooks := .later }
def CountMergesCardSaid : Prop := Claim7.holds Tryd.pinned (.plain (OpenSpec.ofChange countMergesSpec)) countMergesCard

/-- THE TIED CARD OF 'erratalaw06.CountParts'. -/
def countPartsCard : Claim7 := { stood := { row := countPartsRow, standIns := [], harness := (true, "bd5f1a979b9bac49df739859ec8f1d6ea4fc9955e1ab6f99ee0392859e313381"), looks := false }, kinds := [], alts := [], laidByText := true, laidKinds := [.data, .pinned], laidTests := true, laidLooks := .later }
def CountPartsCardSaid : Prop := Claim7.holds Tryd.pinned (.plain (OpenSpec.ofChange countPartsSpec)) countPartsCard

/-- THE TIED CARD OF 'erratalaw06.CountFinds'. -/
def countFindsCard : Claim7 := { stood := { row := countFindsRow, standIns := [], harness := (true, "bd5f1a979b9bac49df739859ec8f1d6ea4fc9955e1ab6f99ee0392859e313381"), looks := false }, kinds := [], alts := [], laidByText := true, laidKinds := [.data, .pinned], laidTests := true, laidLooks := .later }
def CountFindsCardSaid : Prop := Claim7.holds Tryd.pinned (.plain (OpenSpec.ofChange countFindsSpec)) countFindsCard

/-- THE TIED CARD OF 'erratalaw06.CountTables'. -/
def countTablesCard : Claim7 := { stood := { row := countTablesRow, standIns := [], harness := (true, "bd5f1a979b9bac49df739859ec8f1d6ea4fc9955e1ab6f99ee0392859e313381"), looks := false }, kinds := [], alts := [], laidByText := true, laidKinds := [.data, .pinned], laidTests := true, laidLooks := .later }
def CountTablesCardSaid : Prop := Claim7.holds Tryd.pinned (.plain (OpenSpec.ofChange countTablesSpec)) countTablesCard

/-- THE TIED CARD OF 'erratalaw08.MatchMoves'. -/
def matchMovesCard : Claim7 := { stood := { row := matchMovesRow, standIns := [], harness := (true, "bd5f1a979b9bac49df739859ec8f1d6ea4fc9955e1ab6f99ee0392859e313381"), looks := false }, kinds := [], alts := [], laidByText := true, laidKinds := [.data, .pinned], laidTests := true, laidLooks := .later }
def MatchMovesCardSaid : Prop := Claim7.holds Tryd.pinned (.plain (OpenSpec.ofChange matchMovesSpec)) matchMovesCard

/-- THE TIED CARD OF 'erratalaw08.MatchAlone'. -/
def matchAloneCard : Claim7 := { stood := { row := matchAloneRow, standIns := [], harness := (true, "bd5f1a979b9bac49df739859ec8f1d6ea4fc9955e1ab6f99ee0392859e313381"), looks := false }, kinds := [], alts := [], laidByText := true, laidKinds := [.data, .pinned], laidTests := true, laidLooks := .later }
def MatchAloneCardSaid : Prop := Claim7.holds Tryd.pinned (.plain (OpenSpec.ofChange matchAloneSpec)) matchAloneCard

/-- THE TIED CARD OF 'erratalaw08.MatchHits'. -/
def matchHitsCard : Claim7 := { stood := { row := matchHitsRow, standIns := [], harness := (true, "bd5f1a979b9bac49df739859ec8f1d6ea4fc9955e1ab6f99ee0392859e313381"), looks := false }, kinds := [], alts := [], laidByText := true, laidKinds := [.data, .pinned], laidTests := true, laidLooks := .later }
def MatchHitsCardSaid : Prop := Claim7.holds Tryd.pinned (.plain (OpenSpec.ofChange matchHitsSpec)) matchHitsCard

/-- THE TIED CARD OF 'erratalaw08.MatchPlaces'. -/
def matchPlacesCard : Claim7 := { stood := { row := matchPlacesRow, standIns := [], harness := (true, "bd5f1a979b9bac49df739859ec8f1d6ea4fc9955e1ab6f99ee0392859e313381"), looks := false }, kinds := [], alts := [], laidByText := true, laidKinds := [.data, .pinned], laidTests := true, laidLooks := .later }
def MatchPlacesCardSaid : Prop := Claim7.holds Tryd.pinned (.plain (OpenSpec.ofChange matchPlacesSpec)) matchPlacesCard

/-- THE TIED CARD OF 'erratalaw08.MatchStands'. -/
def matchStandsCard : Claim7 := { stood := { row := matchStandsRow, standIns := [], harness := (true, "bd5f1a979b9bac49df739859ec8f1d6ea4fc9955e1ab6f99ee0392859e313381"), looks := false }, kinds := [], alts := [], laidByText := true, laidKinds := [.data, .pinned], laidTests := true, laidLooks := .later }
def MatchStandsCardSaid : Prop := Claim7.holds Tryd.pinned (.plain (OpenSpec.ofChange matchStandsSpec)) matchStandsCard

/-- THE TIED CARD OF 'erratalaw08.MatchStates'. -/
def matchStatesCard : Claim7 := { stood := { row := matchStatesRow, standIns := [], harness := (true, "bd5f1a979b9bac49df739859ec8f1d6ea4fc9955e1ab6f99ee0392859e313381"), looks := false }, kinds := [], alts := [], laidByText := true, laidKinds := [.data, .pinned], laidTests := true, laidLooks := .later }
def MatchStatesCardSaid : Prop := Claim7.holds Tryd.pinned (.plain (OpenSpec.ofChange matchStatesSpec)) matchStatesCard

/-- THE TIED CARD OF 'erratalaw07.RuleNormals'. -/
def ruleNormalsCard : Claim7 := { stood := { row := ruleNormalsRow, standIns := [], harness := (true, "bd5f1a979b9bac49df739859ec8f1d6ea4fc9955e1ab6f99ee0392859e313381"), looks := false }, kinds := [], alts := [], laidByText := true, laidKinds := [.data, .pinned], laidTests := true, laidLooks := .later }
def RuleNormalsCardSaid : Prop := Claim7.holds Tryd.pinned (.plain (OpenSpec.ofChange ruleNormalsSpec)) ruleNormalsCard

/-- THE TIED CARD OF 'erratalaw07.RuleOnce'. -/
def ruleOnceCard : Claim7 := { stood := { row := ruleOnceRow, standIns := [], harness := (true, "bd5f1a979b9bac49df739859ec8f1d6ea4fc9955e1ab6f99ee0392859e313381"), looks := false }, kinds := [], alts := [], laidByText := true, laidKinds := [.data, .pinned], laidTests := true, laidLooks := .later }
def RuleOnceCardSaid : Prop := Claim7.holds Tryd.pinned (.plain (OpenSpec.ofChange ruleOnceSpec)) ruleOnceCard

/-- THE TIED CARD OF 'erratalaw06.CountPairs'. -/
def countPairsCard : Claim7 := { stood := { row := countPairsRow, standIns := [], harness := (true, "bd5f1a979b9bac49df739859ec8f1d6ea4fc9955e1ab6f99ee0392859e313381"), looks := false }, kinds := [], alts := [], laidByText := true, laidKinds := [.data, .pinned], laidTests := true, laidLooks := .later }
def CountPairsCardSaid : Prop := Claim7.holds Tryd.pinned (.plain (OpenSpec.ofChange countPairsSpec)) countPairsCard

/-- THE TIED CARD OF 'erratalaw06.CountLearns'. -/
def countLearnsCard : Claim7 := { stood := { row := countLearnsRow, standIns := [], harness := (true, "bd5f1a979b9bac49df739859ec8f1d6ea4fc9955e1ab6f99ee0392859e313381"), looks := false }, kinds := [], alts := [], laidByText := true, laidKinds := [.data, .pinned], laidTests := true, laidLooks := .later }
def CountLearnsCardSaid : Prop := Claim7.holds Tryd.pinned (.plain (OpenSpec.ofChange countLearnsSpec)) countLearnsCard

/-- THE SECOND FORM's CARD OF 'erratalaw07.RuleMakes'. -/
def ruleMakesUptoCard : Claim7 := { stood := { row := ruleMakesUptoRow, standIns := [], harness := (true, "bd5f1a979b9bac49df739859ec8f1d6ea4fc9955e1ab6f99ee0392859e313381"), looks := false }, kinds := [], alts := [], laidByText := true, laidKinds := [.data, .pinned], laidTests := true, laidLooks := .later }
def RuleMakesUptoCardSaid : Prop := Claim7.holds Tryd.pinned (.plain (OpenSpec.upto ruleMakesSpec)) ruleMakesUptoCard

/-- THE SECOND FORM's CARD OF 'erratalaw07.RuleChecks'. -/
def ruleChecksUptoCard : Claim7 := { stood := { row := ruleChecksUptoRow, standIns := [], harness := (true, "bd5f1a979b9bac49df739859ec8f1d6ea4fc9955e1ab6f99ee0392859e313381"), looks := false }, kinds := [], alts := [], laidByText := true, laidKinds := [.data, .pinned], laidTests := true, laidLooks := .later }
def RuleChecksUptoCardSaid : Prop := Claim7.holds Tryd.pinned (.plain (OpenSpec.upto ruleChecksSpec)) ruleChecksUptoCard

/-- THE SECOND FORM's CARD OF 'erratalaw07.RuleOften'. -/
def ruleOftenUptoCard : Claim7 := { stood := { row := ruleOftenUptoRow, standIns := [], harness := (true, "bd5f1a979b9bac49df739859ec8f1d6ea4fc9955e1ab6f99ee0392859e313381"), looks := false }, kinds := [], alts := [], laidByText := true, laidKinds := [.data, .pinned], laidTests := true, laidLooks := .later }
def RuleOftenUptoCardSaid : Prop := Claim7.holds Tryd.pinned (.plain (OpenSpec.upto ruleOftenSpec)) ruleOftenUptoCard

/-- THE SECOND FORM's CARD OF 'erratalaw06.CountOrders'. -/
def countOrdersUptoCard : Claim7 := { stood := { row := countOrdersUptoRow, standIns := [], harness := (true, "bd5f1a979b9bac49df739859ec8f1d6ea4fc9955e1ab6f99ee0392859e313381"), looks := false }, kinds := [], alts := [], laidByText := true, laidKinds := [.data, .pinned], laidTests := true, laidLooks := .later }
def CountOrdersUptoCardSaid : Prop := Claim7.holds Tryd.pinned (.plain (OpenSpec.upto countOrdersSpec)) countOrdersUptoCard

/-- THE SECOND FORM's CARD OF 'erratalaw06.CountMerges'. -/
def countMergesUptoCard : Claim7 := { stood := { row := countMergesUptoRow, standIns := [], harness := (true, "bd5f1a979b9bac49df739859ec8f1d6ea4fc9955e1ab6f99ee0392859e313381"), looks := false }, kinds := [], alts := [], laidByText := true, laidKinds := [.data, .pinned], laidTests := true, laidLooks := .later }
def CountMergesUptoCardSaid : Prop := Claim7.holds Tryd.pinned (.plain (OpenSpec.upto countMergesSpec)) countMergesUptoCard

/-- THE SECOND FORM's CARD OF 'erratalaw06.CountParts'. -/
def countPartsUptoCard : Claim7 := { stood := { row := countPartsUptoRow, standIns := [], harness := (true, "bd5f1a979b9bac49df739859ec8f1d6ea4fc9955e1ab6f99ee0392859e313381"), looks := false }, kinds := [], alts := [], laidByText := true, laidKinds := [.data, .pinned], laidTests := true, laidLooks := .later }
def CountPartsUptoCardSaid : Prop := Claim7.holds Tryd.pinned (.plain (OpenSpec.upto countPartsSpec)) countPartsUptoCard

/-- THE SECOND FORM's CARD OF 'erratalaw06.CountFinds'. -/
def countFindsUptoCard : Claim7 := { stood := { row := countFindsUptoRow, standIns := [], harness := (true, "bd5f1a979b9bac49df739859ec8f1d6ea4fc9955e1ab6f99ee0392859e313381"), looks := false }, kinds := [], alts := [], laidByText := true, laidKinds := [.data, .pinned], laidTests := true, laidLooks := .later }
def CountFindsUptoCardSaid : Prop := Claim7.holds Tryd.pinned (.plain (OpenSpec.upto countFindsSpec)) countFindsUptoCard

/-- THE SECOND FORM's CARD OF 'erratalaw06.CountTables'. -/
def countTablesUptoCard : Claim7 := { stood := { row := countTablesUptoRow, standIns := [], harness := (true, "bd5f1a979b9bac49df739859ec8f1d6ea4fc9955e1ab6f99ee0392859e313381"), looks := false }, kinds := [], alts := [], laidByText := true, laidKinds := [.data, .pinned], laidTests := true, laidLooks := .later }
def CountTablesUptoCardSaid : Prop := Claim7.holds Tryd.pinned (.plain (OpenSpec.upto countTablesSpec)) countTablesUptoCard

/-- THE SECOND FORM's CARD OF 'erratalaw08.MatchMoves'. -/
def matchMovesUptoCard : Claim7 := { stood := { row := matchMovesUptoRow, standIns := [], harness := (true, "bd5f1a979b9bac49df739859ec8f1d6ea4fc9955e1ab6f99ee0392859e313381"), looks := false }, kinds := [], alts := [], laidByText := true, laidKinds := [.data, .pinned], laidTests := true, laidLooks := .later }
def MatchMovesUptoCardSaid : Prop := Claim7.holds Tryd.pinned (.plain (OpenSpec.upto matchMovesSpec)) matchMovesUptoCard

/-- THE SECOND FORM's CARD OF 'erratalaw08.MatchAlone'. -/
def matchAloneUptoCard : Claim7 := { stood := { row := matchAloneUptoRow, standIns := [], harness := (true, "bd5f1a979b9bac49df739859ec8f1d6ea4fc9955e1ab6f99ee0392859e313381"), looks := false }, kinds := [], alts := [], laidByText := true, laidKinds := [.data, .pinned], laidTests := true, laidLooks := .later }
def MatchAloneUptoCardSaid : Prop := Claim7.holds Tryd.pinned (.plain (OpenSpec.upto matchAloneSpec)) matchAloneUptoCard

/-- THE SECOND FORM's CARD OF 'erratalaw08.MatchHits'. -/
def matchHitsUptoCard : Claim7 := { stood := { row := matchHitsUptoRow, standIns := [], harness := (true, "bd5f1a979b9bac49df739859ec8f1d6ea4fc9955e1ab6f99ee0392859e313381"), looks := false }, kinds := [], alts := [], laidByText := true, laidKinds := [.data, .pinned], laidTests := true, laidLooks := .later }
def MatchHitsUptoCardSaid : Prop := Claim7.holds Tryd.pinned (.plain (OpenSpec.upto matchHitsSpec)) matchHitsUptoCard

/-- THE SECOND FORM's CARD OF 'erratalaw08.MatchPlaces'. -/
def matchPlacesUptoCard : Claim7 := { stood := { row := matchPlacesUptoRow, standIns := [], harness := (true, "bd5f1a979b9bac49df739859ec8f1d6ea4fc9955e1ab6f99ee0392859e313381"), looks := false }, kinds := [], alts := [], laidByText := true, laidKinds := [.data, .pinned], laidTests := true, laidLooks := .later }
def MatchPlacesUptoCardSaid : Prop := Claim7.holds Tryd.pinned (.plain (OpenSpec.upto matchPlacesSpec)) matchPlacesUptoCard

/-- THE SECOND FORM's CARD OF 'erratalaw08.MatchStands'. -/
def matchStandsUptoCard : Claim7 := { stood := { row := matchStandsUptoRow, standIns := [], harness := (true, "bd5f1a979b9bac49df739859ec8f1d6ea4fc9955e1ab6f99ee0392859e313381"), looks := false }, kinds := [], alts := [], laidByText := true, laidKinds := [.data, .pinned], laidTests := true, laidLooks := .later }
def MatchStandsUptoCardSaid : Prop := Claim7.holds Tryd.pinned (.plain (OpenSpec.upto matchStandsSpec)) matchStandsUptoCard

/-- THE SECOND FORM's CARD OF 'erratalaw08.MatchStates'. -/
def matchStatesUptoCard : Claim7 := { stood := { row := matchStatesUptoRow, standIns := [], harness := (true, "bd5f1a979b9bac49df739859ec8f1d6ea4fc9955e1ab6f99ee0392859e313381"), looks := false }, kinds := [], alts := [], laidByText := true, laidKinds := [.data, .pinned], laidTests := true, laidLooks := .later }
def MatchStatesUptoCardSaid : Prop := Claim7.holds Tryd.pinned (.plain (OpenSpec.upto matchStatesSpec)) matchStatesUptoCard

/-- THE SECOND FORM's CARD OF 'erratalaw07.RuleNormals'. -/
def ruleNormalsUptoCard : Claim7 := { stood := { row := ruleNormalsUptoRow, standIns := [], harness := (true, "bd5f1a979b9bac49df739859ec8f1d6ea4fc9955e1ab6f99ee0392859e313381"), looks := false }, kinds := [], alts := [], laidByText := true, laidKinds := [.data, .pinned], laidTests := true, laidLooks := .later }
def RuleNormalsUptoCardSaid : Prop := Claim7.holds Tryd.pinned (.plain (OpenSpec.upto ruleNormalsSpec)) ruleNormalsUptoCard

/-- THE SECOND FORM's CARD OF 'erratalaw07.RuleOnce'. -/
def ruleOnceUptoCard : Claim7 := { stood := { row := ruleOnceUptoRow, standIns := [], harness := (true, "bd5f1a979b9bac49df739859ec8f1d6ea4fc9955e1ab6f99ee0392859e313381"), looks := false }, kinds := [], alts := [], laidByText := true, laidKinds := [.data, .pinned], laidTests := true, laidLooks := .later }
def RuleOnceUptoCardSaid : Prop := Claim7.holds Tryd.pinned (.plain (OpenSpec.upto ruleOnceSpec)) ruleOnceUptoCard

/-- THE SECOND FORM's CARD OF 'erratalaw06.CountPairs'. -/
def countPairsUptoCard : Claim7 := { stood := { row := countPairsUptoRow, standIns := [], harness := (true, "bd5f1a979b9bac49df739859ec8f1d6ea4fc9955e1ab6f99ee0392859e313381"), looks := false }, kinds := [], alts := [], laidByText := true, laidKinds := [.data, .pinned], laidTests := true, laidLooks := .later }
def CountPairsUptoCardSaid : Prop := Claim7.holds Tryd.pinned (.plain (OpenSpec.upto countPairsSpec)) countPairsUptoCard

/-- THE SECOND FORM's CARD OF 'erratalaw06.CountLearns'. -/
def countLearnsUptoCard : Claim7 := { stood := { row := countLearnsUptoRow, standIns := [], harness := (true, "bd5f1a979b9bac49df739859ec8f1d6ea4fc9955e1ab6f99ee0392859e313381"), looks := false }, kinds := [], alts := [], laidByText := true, laidKinds := [.data, .pinned], laidTests := true, laidLooks := .later }
def CountLearnsUptoCardSaid : Prop := Claim7.holds Tryd.pinned (.plain (OpenSpec.upto countLearnsSpec)) countLearnsUptoCard
end Rows
end Go.Proofs.YtpccanadijefnaaDoor
