/-
  DERIVED. GIVEN WITH THE SEED: THE CARDS: each row of YtpnhmapkdbnkmaaGreatDoorRows.lean that lists a variable, with what it lists TIED to the program's text (the seventh form; the later family's looks); each row that meets fmt, with fmt's text TOLD by the authors' own Lean function (tested against real Go, not proved from fmt's source: count such statements apart). THE CARD IS WHAT COUNTS. Prove the row's statement (the work); the ties are given (YtpnhmapkdbnkmaaGreatDoorTie.lean); close each card by the builder's one call (the guide's Derived/Test/ToyasCard.lean, 'card_holds'). Laid BY PROGRAM, IN A SANDBOX (cutbox-door.mjs). By AI agents, Wed Nov 11 2026. No macro, syntax, notation, axiom, sorry.
-/
import Derived.Test.YtpnhmapkdbnkmaaGreatDoorRows
import GoSem.ClaimSeven
namespace Go.Proofs.YtpnhmapkdbnkmaaGreatDoor
namespace Rows

/-- THE TIED CARD OF 'erratalaw07.RuleLearns'. -/
def ruleLearnsCard : Claim7 := { stood := { row := ruleLearnsRow, standIns := [], harness := (true, "0b5cde6a51be71e031c74a99127cc5abbf952fc0c10eeeff411d64a2228bec92"), looks := false }, kinds := [], alts := [], laidByText := true, laidKinds := [.data, .pinned], laidTests := true, laidLooks := .later }
def RuleLearnsCardSaid : Prop := Claim7.holds Tryz.pinned (.plain (OpenSpec.ofChange ruleLearnsSpec)) ruleLearnsCard

/-- THE TIED CARD OF 'erratalaw14.SearchBudgets'. -/
def searchBudgetsCard : Claim7 := { stood := { row := searchBudgetsRow, standIns := [], harness := (true, "0b5cde6a51be71e031c74a99127cc5abbf952fc0c10eeeff411d64a2228bec92"), looks := false }, kinds := [], alts := [], laidByText := true, laidKinds := [.data, .pinned], laidTests := true, laidLooks := .later }
def SearchBudgetsCardSaid : Prop := Claim7.holds Tryz.pinned (.plain (OpenSpec.ofChange searchBudgetsSpec)) searchBudgetsCard

/-- THE TIED CARD OF 'erratalaw14.SearchAll'. -/
def searchAllCard : Claim7 := { stood := { row := searchAllRow, standIns := [], harness := (true, "0b5cde6a51be71e031c74a99127cc5abbf952fc0c10eeeff411d64a2228bec92"), looks := false }, kinds := [], alts := [], laidByText := true, laidKinds := [.data, .pinned], laidTests := true, laidLooks := .later }
def SearchAllCardSaid : Prop := Claim7.holds Tryz.pinned (.plain (OpenSpec.ofChange searchAllSpec)) searchAllCard

/-- THE TIED CARD OF 'erratalaw14.SearchWords'. -/
def searchWordsCard : Claim7 := { stood := { row := searchWordsRow, standIns := [], harness := (true, "0b5cde6a51be71e031c74a99127cc5abbf952fc0c10eeeff411d64a2228bec92"), looks := false }, kinds := [], alts := [], laidByText := true, laidKinds := [.data, .pinned], laidTests := true, laidLooks := .later }
def SearchWordsCardSaid : Prop := Claim7.holds Tryz.pinned (.plain (OpenSpec.ofChange searchWordsSpec)) searchWordsCard

/-- THE TIED CARD OF 'erratalaw14.SearchEffort'. -/
def searchEffortCard : Claim7 := { stood := { row := searchEffortRow, standIns := [], harness := (true, "0b5cde6a51be71e031c74a99127cc5abbf952fc0c10eeeff411d64a2228bec92"), looks := false }, kinds := [], alts := [], laidByText := true, laidKinds := [.data, .pinned], laidTests := true, laidLooks := .later }
def SearchEffortCardSaid : Prop := Claim7.holds Tryz.pinned (.plain (OpenSpec.ofChange searchEffortSpec)) searchEffortCard

/-- THE TIED CARD OF 'erratalaw14.SearchRules'. -/
def searchRulesCard : Claim7 := { stood := { row := searchRulesRow, standIns := [], harness := (true, "0b5cde6a51be71e031c74a99127cc5abbf952fc0c10eeeff411d64a2228bec92"), looks := false }, kinds := [], alts := [], laidByText := true, laidKinds := [.data, .pinned], laidTests := true, laidLooks := .later }
def SearchRulesCardSaid : Prop := Claim7.holds Tryz.pinned (.plain (OpenSpec.ofChange searchRulesSpec)) searchRulesCard

/-- THE TIED CARD OF 'erratalaw14.SearchPrices'. -/
def searchPricesCard : Claim7 := { stood := { row := searchPricesRow, standIns := [], harness := (true, "0b5cde6a51be71e031c74a99127cc5abbf952fc0c10eeeff411d64a2228bec92"), looks := false }, kinds := [], alts := [], laidByText := true, laidKinds := [.data, .pinned], laidTests := true, laidLooks := .later }
def SearchPricesCardSaid : Prop := Claim7.holds Tryz.pinned (.plain (OpenSpec.ofChange searchPricesSpec)) searchPricesCard

/-- THE SECOND FORM's CARD OF 'erratalaw07.RuleLearns'. -/
def ruleLearnsUptoCard : Claim7 := { stood := { row := ruleLearnsUptoRow, standIns := [], harness := (true, "0b5cde6a51be71e031c74a99127cc5abbf952fc0c10eeeff411d64a2228bec92"), looks := false }, kinds := [], alts := [], laidByText := true, laidKinds := [.data, .pinned], laidTests := true, laidLooks := .later }
def RuleLearnsUptoCardSaid : Prop := Claim7.holds Tryz.pinned (.plain (OpenSpec.upto ruleLearnsSpec)) ruleLearnsUptoCard

/-- THE SECOND FORM's CARD OF 'erratalaw14.SearchBudgets'. -/
def searchBudgetsUptoCard : Claim7 := { stood := { row := searchBudgetsUptoRow, standIns := [], harness := (true, "0b5cde6a51be71e031c74a99127cc5abbf952fc0c10eeeff411d64a2228bec92"), looks := false }, kinds := [], alts := [], laidByText := true, laidKinds := [.data, .pinned], laidTests := true, laidLooks := .later }
def SearchBudgetsUptoCardSaid : Prop := Claim7.holds Tryz.pinned (.plain (OpenSpec.upto searchBudgetsSpec)) searchBudgetsUptoCard

/-- THE SECOND FORM's CARD OF 'erratalaw14.SearchAll'. -/
def searchAllUptoCard : Claim7 := { stood := { row := searchAllUptoRow, standIns := [], harness := (true, "0b5cde6a51be71e031c74a99127cc5abbf952fc0c10eeeff411d64a2228bec92"), looks := false }, kinds := [], alts := [], laidByText := true, laidKinds := [.data, .pinned], laidTests := true, laidLooks := .later }
def SearchAllUptoCardSaid : Prop := Claim7.holds Tryz.pinned (.plain (OpenSpec.upto searchAllSpec)) searchAllUptoCard

/-- THE SECOND FORM's CARD OF 'erratalaw14.SearchWords'. -/
def searchWordsUptoCard : Claim7 := { stood := { row := searchWordsUptoRow, standIns := [], harness := (true, "0b5cde6a51be71e031c74a99127cc5abbf952fc0c10eeeff411d64a2228bec92"), looks := false }, kinds := [], alts := [], laidByText := true, laidKinds := [.data, .pinned], laidTests := true, laidLooks := .later }
def SearchWordsUptoCardSaid : Prop := Claim7.holds Tryz.pinned (.plain (OpenSpec.upto searchWordsSpec)) searchWordsUptoCard

/-- THE SECOND FORM's CARD OF 'erratalaw14.SearchEffort'. -/
def searchEffortUptoCard : Claim7 := { stood := { row := searchEffortUptoRow, standIns := [], harness := (true, "0b5cde6a51be71e031c74a99127cc5abbf952fc0c10eeeff411d64a2228bec92"), looks := false }, kinds := [], alts := [], laidByText := true, laidKinds := [.data, .pinned], laidTests := true, laidLooks := .later }
def SearchEffortUptoCardSaid : Prop := Claim7.holds Tryz.pinned (.plain (OpenSpec.upto searchEffortSpec)) searchEffortUptoCard

/-- THE SECOND FORM's CARD OF 'erratalaw14.SearchRules'. -/
def searchRulesUptoCard : Claim7 := { stood := { row := searchRulesUptoRow, standIns := [], harness := (true, "0b5cde6a51be71e031c74a99127cc5abbf952fc0c10eeeff411d64a2228bec92"), looks := false }, kinds := [], alts := [], laidByText := true, laidKinds := [.data, .pinned], laidTests := true, laidLooks := .later }
def SearchRulesUptoCardSaid : Prop := Claim7.holds Tryz.pinned (.plain (OpenSpec.upto searchRulesSpec)) searchRulesUptoCard

/-- THE SECOND FORM's CARD OF 'erratalaw14.SearchPrices'. -/
def searchPricesUptoCard : Claim7 := { stood := { row := searchPricesUptoRow, standIns := [], harness := (true, "0b5cde6a51be71e031c74a99127cc5abbf952fc0c10eeeff411d64a2228bec92"), looks := false }, kinds := [], alts := [], laidByText := true, laidKinds := [.data, .pinned], laidTests := true, laidLooks := .later }
def SearchPricesUptoCardSaid : Prop := Claim7.holds Tryz.pinned (.plain (OpenSpec.upto searchPricesSpec)) searchPricesUptoCard
end Rows
end Go.Proofs.YtpnhmapkdbnkmaaGreatDoor
