/-
  NARROWER THAN 'FOR EVERY INPUT', by the rows' own cells (each row's printed sentence says how): RuleLearns: laid · SearchBudgets: laid · SearchAll: laid · SearchWords: laid · SearchEffort: laid · SearchRules: laid · SearchPrices: laid.
  DERIVED. THE GIVEN ROWS OF THIS SEAT. 7 by the template 'for every input the law returns true; each argument reads behind the call as it read before'; 0 by the template 'total and deterministic' (their statements: YtpnhmapkdbnkmaaGreatDoorTotals.lean).
  GIVEN WITH THE SEED: the statements are not yours to turn. If you find one false, say at which input.
  Laid BY PROGRAM, IN A SANDBOX (cutbox-rows.mjs): the forced cells as the released guide's own fill.sh prints them over the translation 761e5cd7eff23770… (all of the seat's roots in one cut). By AI agents, Wed Nov 11 2026. No macro, syntax, notation, axiom, sorry.
-/
import Derived.Test.YtpnhmapkdbnkmaaGreatDoorChecked
import GoSem.PinnedTables
import GoSem.Claim
import GoSem.ClaimJoined
import GoSem.ClaimMapViews
import Derived.JoinedTies
import Derived.KernelRfl
namespace Go.Proofs.YtpnhmapkdbnkmaaGreatDoor
/- THE CELL 'sum', in the pinned program and in every row, IS THE sha256 OF THE DUMP (.gsa) THAT YtpnhmapkdbnkmaaGreatDoorProg.lean LOADS. Nothing in Lean hashes anything: it is a label: what it is worth is what the hold of that sum in a sandbox is worth. -/
noncomputable def Tryz.pinned : Pinned := { name := "ytpnhmapkdbnkmaagreatdoor", sum := "761e5cd7eff23770e7a3969e713784e6d902a952762621d508e89d18b92be057", checked := Tryz.checked }
namespace Rows
def none {H : Type} : Left H := { results := [], args := [] }

/- WHAT THE LISTED PACKAGE-LEVEL VARIABLES READ AS WHEN THE CALL BEGINS. Each datum BY PROGRAM (the guide's laid-datum.mjs) off the statement by which the dump's own 'gosem.cut.vars' lays the variable. In a bare row this is a premise. The card (YtpnhmapkdbnkmaaGreatDoorCards.lean) ties it to the program's text. -/
def laid_unicode_utf8_acceptRanges {H : Type} : DataW H := .agg [.agg [.lit (.int .u8 128), .lit (.int .u8 191)], .agg [.lit (.int .u8 160), .lit (.int .u8 191)], .agg [.lit (.int .u8 128), .lit (.int .u8 159)], .agg [.lit (.int .u8 144), .lit (.int .u8 191)], .agg [.lit (.int .u8 128), .lit (.int .u8 143)], .agg [.lit (.int .u8 0), .lit (.int .u8 0)], .agg [.lit (.int .u8 0), .lit (.int .u8 0)], .agg [.lit (.int .u8 0), .lit (.int .u8 0)], .agg [.lit (.int .u8 0), .lit (.int .u8 0)], .agg [.lit (.int .u8 0), .lit (.int .u8 0)], .agg [.lit (.int .u8 0), .lit (.int .u8 0)], .agg [.lit (.int .u8 0), .lit (.int .u8 0)], .agg [.lit (.int .u8 0), .lit (.int .u8 0)], .agg [.lit (.int .u8 0), .lit (.int .u8 0)], .agg [.lit (.int .u8 0), .lit (.int .u8 0)], .agg [.lit (.int .u8 0), .lit (.int .u8 0)]]
/-- One of Go's own tables, pinned by name: the form's constant. -/
def laid_unicode_utf8_first : DataW Unit := Go.Pinned.utf8First

/-- 'erratalaw07.RuleLearns': WHATEVER THE INPUT: true; the input reads as it did. -/
def ruleLearnsSpec : ChangeSpec := { name := "ruleLearns", fn := fun _ => fun
  | [d1, d2] => { results := [.lit (.bool true)], args := [d1, d2] }
  | _ => none }
def ruleLearnsRow : OpenClaim := { program := "ytpnhmapkdbnkmaagreatdoor", sum := "761e5cd7eff23770e7a3969e713784e6d902a952762621d508e89d18b92be057", func := "errata/erratalaw07.RuleLearns", spec := "ruleLearns", inPlace := ["math/bits.Add64"], unfollowed := true, recurses := true, named := ["unicode/utf8.first", "unicode/utf8.acceptRanges"], plainKeys := false, apart := false, laid := [("unicode/utf8.acceptRanges", laid_unicode_utf8_acceptRanges), ("unicode/utf8.first", laid_unicode_utf8_first)] }
def RuleLearnsSaid : Prop := ruleLearnsRow.holds Tryz.pinned (OpenSpec.ofChange ruleLearnsSpec)

/-- ITS FALSE NEIGHBOUR: 'it returns false'. Refute it at one input. -/
def ruleLearnsWrong : ChangeSpec := { name := "ruleLearns", fn := fun _ => fun
  | [d1, d2] => { results := [.lit (.bool false)], args := [d1, d2] }
  | _ => none }
def RuleLearnsWrongFalsely : Prop := ruleLearnsRow.holds Tryz.pinned (OpenSpec.ofChange ruleLearnsWrong)

/-- 'erratalaw14.SearchBudgets': WHATEVER THE INPUT: true; the input reads as it did. -/
def searchBudgetsSpec : ChangeSpec := { name := "searchBudgets", fn := fun _ => fun
  | [d1, d2] => { results := [.lit (.bool true)], args := [d1, d2] }
  | _ => none }
def searchBudgetsRow : OpenClaim := { program := "ytpnhmapkdbnkmaagreatdoor", sum := "761e5cd7eff23770e7a3969e713784e6d902a952762621d508e89d18b92be057", func := "errata/erratalaw14.SearchBudgets", spec := "searchBudgets", unfollowed := true, recurses := true, named := ["unicode/utf8.first", "unicode/utf8.acceptRanges"], plainKeys := false, apart := false, laid := [("unicode/utf8.acceptRanges", laid_unicode_utf8_acceptRanges), ("unicode/utf8.first", laid_unicode_utf8_first)] }
def SearchBudgetsSaid : Prop := searchBudgetsRow.holds Tryz.pinned (OpenSpec.ofChange searchBudgetsSpec)

/-- ITS FALSE NEIGHBOUR: 'it returns false'. Refute it at one input. -/
def searchBudgetsWrong : ChangeSpec := { name := "searchBudgets", fn := fun _ => fun
  | [d1, d2] => { results := [.lit (.bool false)], args := [d1, d2] }
  | _ => none }
def SearchBudgetsWrongFalsely : Prop := searchBudgetsRow.holds Tryz.pinned (OpenSpec.ofChange searchBudgetsWrong)

/-- 'erratalaw14.SearchAll': WHATEVER THE INPUT: true; the input reads as it did. -/
def searchAllSpec : ChangeSpec := { name := "searchAll", fn := fun _ => fun
  | [d] => { results := [.lit (.bool true)], args := [d] }
  | _ => none }
def searchAllRow : OpenClaim := { program := "ytpnhmapkdbnkmaagreatdoor", sum := "761e5cd7eff23770e7a3969e713784e6d902a952762621d508e89d18b92be057", func := "errata/erratalaw14.SearchAll", spec := "searchAll", unfollowed := true, recurses := true, named := ["unicode/utf8.first", "unicode/utf8.acceptRanges"], plainKeys := false, apart := false, laid := [("unicode/utf8.acceptRanges", laid_unicode_utf8_acceptRanges), ("unicode/utf8.first", laid_unicode_utf8_first)] }
def SearchAllSaid : Prop := searchAllRow.holds Tryz.pinned (OpenSpec.ofChange searchAllSpec)

/-- ITS FALSE NEIGHBOUR: 'it returns false'. Refute it at one input. -/
def searchAllWrong : ChangeSpec := { name := "searchAll", fn := fun _ => fun
  | [d] => { results := [.lit (.bool false)], args := [d] }
  | _ => none }
def SearchAllWrongFalsely : Prop := searchAllRow.holds Tryz.pinned (OpenSpec.ofChange searchAllWrong)

/-- 'erratalaw14.SearchWords': WHATEVER THE INPUT: true; the input reads as it did. -/
def searchWordsSpec : ChangeSpec := { name := "searchWords", fn := fun _ => fun
  | [d1, d2] => { results := [.lit (.bool true)], args := [d1, d2] }
  | _ => none }
def searchWordsRow : OpenClaim := { program := "ytpnhmapkdbnkmaagreatdoor", sum := "761e5cd7eff23770e7a3969e713784e6d902a952762621d508e89d18b92be057", func := "errata/erratalaw14.SearchWords", spec := "searchWords", unfollowed := true, recurses := true, named := ["unicode/utf8.first", "unicode/utf8.acceptRanges"], plainKeys := false, apart := false, laid := [("unicode/utf8.acceptRanges", laid_unicode_utf8_acceptRanges), ("unicode/utf8.first", laid_unicode_utf8_first)] }
def SearchWordsSaid : Prop := searchWordsRow.holds Tryz.pinned (OpenSpec.ofChange searchWordsSpec)

/-- ITS FALSE NEIGHBOUR: 'it returns false'. Refute it at one input. -/
def searchWordsWrong : ChangeSpec := { name := "searchWords", fn := fun _ => fun
  | [d1, d2] => { results := [.lit (.bool false)], args := [d1, d2] }
  | _ => none }
def SearchWordsWrongFalsely : Prop := searchWordsRow.holds Tryz.pinned (OpenSpec.ofChange searchWordsWrong)

/-- 'erratalaw14.SearchEffort': WHATEVER THE INPUT: true; the input reads as it did. -/
def searchEffortSpec : ChangeSpec := { name := "searchEffort", fn := fun _ => fun
  | [d] => { results := [.lit (.bool true)], args := [d] }
  | _ => none }
def searchEffortRow : OpenClaim := { program := "ytpnhmapkdbnkmaagreatdoor", sum := "761e5cd7eff23770e7a3969e713784e6d902a952762621d508e89d18b92be057", func := "errata/erratalaw14.SearchEffort", spec := "searchEffort", unfollowed := true, recurses := true, named := ["unicode/utf8.first", "unicode/utf8.acceptRanges"], plainKeys := false, apart := false, laid := [("unicode/utf8.acceptRanges", laid_unicode_utf8_acceptRanges), ("unicode/utf8.first", laid_unicode_utf8_first)] }
def SearchEffortSaid : Prop := searchEffortRow.holds Tryz.pinned (OpenSpec.ofChange searchEffortSpec)

/-- ITS FALSE NEIGHBOUR: 'it returns false'. Refute it at one input. -/
def searchEffortWrong : ChangeSpec := { name := "searchEffort", fn := fun _ => fun
  | [d] => { results := [.lit (.bool false)], args := [d] }
  | _ => none }
def SearchEffortWrongFalsely : Prop := searchEffortRow.holds Tryz.pinned (OpenSpec.ofChange searchEffortWrong)

/-- 'erratalaw14.SearchRules': WHATEVER THE INPUT: true; the input reads as it did. -/
def searchRulesSpec : ChangeSpec := { name := "searchRules", fn := fun _ => fun
  | [d1, d2] => { results := [.lit (.bool true)], args := [d1, d2] }
  | _ => none }
def searchRulesRow : OpenClaim := { program := "ytpnhmapkdbnkmaagreatdoor", sum := "761e5cd7eff23770e7a3969e713784e6d902a952762621d508e89d18b92be057", func := "errata/erratalaw14.SearchRules", spec := "searchRules", unfollowed := true, recurses := true, named := ["unicode/utf8.first", "unicode/utf8.acceptRanges"], plainKeys := false, apart := false, laid := [("unicode/utf8.acceptRanges", laid_unicode_utf8_acceptRanges), ("unicode/utf8.first", laid_unicode_utf8_first)] }
def SearchRulesSaid : Prop := searchRulesRow.holds Tryz.pinned (OpenSpec.ofChange searchRulesSpec)

/-- ITS FALSE NEIGHBOUR: 'it returns false'. Refute it at one input. -/
def searchRulesWrong : ChangeSpec := { name := "searchRules", fn := fun _ => fun
  | [d1, d2] => { results := [.lit (.bool false)], args := [d1, d2] }
  | _ => none }
def SearchRulesWrongFalsely : Prop := searchRulesRow.holds Tryz.pinned (OpenSpec.ofChange searchRulesWrong)

/-- 'erratalaw14.SearchPrices': WHATEVER THE INPUT: true; the input reads as it did. -/
def searchPricesSpec : ChangeSpec := { name := "searchPrices", fn := fun _ => fun
  | [d] => { results := [.lit (.bool true)], args := [d] }
  | _ => none }
def searchPricesRow : OpenClaim := { program := "ytpnhmapkdbnkmaagreatdoor", sum := "761e5cd7eff23770e7a3969e713784e6d902a952762621d508e89d18b92be057", func := "errata/erratalaw14.SearchPrices", spec := "searchPrices", unfollowed := true, recurses := true, named := ["unicode/utf8.first", "unicode/utf8.acceptRanges"], plainKeys := false, apart := false, laid := [("unicode/utf8.acceptRanges", laid_unicode_utf8_acceptRanges), ("unicode/utf8.first", laid_unicode_utf8_first)] }
def SearchPricesSaid : Prop := searchPricesRow.holds Tryz.pinned (OpenSpec.ofChange searchPricesSpec)

/-- ITS FALSE NEIGHBOUR: 'it returns false'. Refute it at one input. -/
def searchPricesWrong : ChangeSpec := { name := "searchPrices", fn := fun _ => fun
  | [d] => { results := [.lit (.bool false)], args := [d] }
  | _ => none }
def SearchPricesWrongFalsely : Prop := searchPricesRow.holds Tryz.pinned (OpenSpec.ofChange searchPricesWrong)

/- THE SECOND FORM. 'bulk': how many values and letters a reading holds, each counted each time it is reached (what is shared counts as often as it is met; a slice's spare places count too). A statement '..UptoSaid' is the law's where the arguments, and the package variables that the reading takes, are together of bulk at most 1048576: NARROWER than '..Said'. Prove '..Said' where nothing that the law and all that it calls make is longer than what came in: it says more and counts as full. Else prove '..UptoSaid'. A law counts once. -/
mutual
def uptoBulk {H : Type} : DataW H → Nat
  | .lit (.string bytes) => bytes.length + 1
  | .lit _ => 1
  | .nil => 1
  | .ptr d => uptoBulk d + 1
  | .slice elems spare => uptoBulkAll elems + uptoBulkAll spare + 1
  | .agg parts => uptoBulkAll parts + 1
  | .iface _ d => uptoBulk d + 1
  | .map entries => uptoBulkEntries entries + 1
  | .held _ => 1
def uptoBulkAll {H : Type} : List (DataW H) → Nat
  | [] => 0
  | d :: r => uptoBulk d + uptoBulkAll r
def uptoBulkEntries {H : Type} : List (Lit × DataW H) → Nat
  | [] => 0
  | x :: r => uptoBulkEntry x + uptoBulkEntries r
def uptoBulkEntry {H : Type} : Lit × DataW H → Nat
  | (.string bytes, d) => bytes.length + uptoBulk d + 1
  | (_, d) => uptoBulk d + 1
 end
def uptoSmall : (H : Type) → List (DataW H) → Bool := fun _ ds => decide (uptoBulkAll ds ≤ 1048576)
def OpenSpec.upto (s : _root_.Go.ChangeSpec) : _root_.Go.OpenSpec := { _root_.Go.OpenSpec.ofChange s with cond := some uptoSmall }

/-- 'erratalaw07.RuleLearns', WHERE WHAT IT READS IS OF BULK AT MOST 1048576: true; the input reads as it did. -/
def ruleLearnsUptoRow : OpenClaim := { program := "ytpnhmapkdbnkmaagreatdoor", sum := "761e5cd7eff23770e7a3969e713784e6d902a952762621d508e89d18b92be057", func := "errata/erratalaw07.RuleLearns", spec := "ruleLearns", inPlace := ["math/bits.Add64"], unfollowed := true, recurses := true, named := ["unicode/utf8.first", "unicode/utf8.acceptRanges"], plainKeys := false, apart := false, laid := [("unicode/utf8.acceptRanges", laid_unicode_utf8_acceptRanges), ("unicode/utf8.first", laid_unicode_utf8_first)], narrowed := true }
def RuleLearnsUptoSaid : Prop := ruleLearnsUptoRow.holds Tryz.pinned (OpenSpec.upto ruleLearnsSpec)

/-- 'erratalaw14.SearchBudgets', WHERE WHAT IT READS IS OF BULK AT MOST 1048576: true; the input reads as it did. -/
def searchBudgetsUptoRow : OpenClaim := { program := "ytpnhmapkdbnkmaagreatdoor", sum := "761e5cd7eff23770e7a3969e713784e6d902a952762621d508e89d18b92be057", func := "errata/erratalaw14.SearchBudgets", spec := "searchBudgets", unfollowed := true, recurses := true, named := ["unicode/utf8.first", "unicode/utf8.acceptRanges"], plainKeys := false, apart := false, laid := [("unicode/utf8.acceptRanges", laid_unicode_utf8_acceptRanges), ("unicode/utf8.first", laid_unicode_utf8_first)], narrowed := true }
def SearchBudgetsUptoSaid : Prop := searchBudgetsUptoRow.holds Tryz.pinned (OpenSpec.upto searchBudgetsSpec)

/-- 'erratalaw14.SearchAll', WHERE WHAT IT READS IS OF BULK AT MOST 1048576: true; the input reads as it did. -/
def searchAllUptoRow : OpenClaim := { program := "ytpnhmapkdbnkmaagreatdoor", sum := "761e5cd7eff23770e7a3969e713784e6d902a952762621d508e89d18b92be057", func := "errata/erratalaw14.SearchAll", spec := "searchAll", unfollowed := true, recurses := true, named := ["unicode/utf8.first", "unicode/utf8.acceptRanges"], plainKeys := false, apart := false, laid := [("unicode/utf8.acceptRanges", laid_unicode_utf8_acceptRanges), ("unicode/utf8.first", laid_unicode_utf8_first)], narrowed := true }
def SearchAllUptoSaid : Prop := searchAllUptoRow.holds Tryz.pinned (OpenSpec.upto searchAllSpec)

/-- 'erratalaw14.SearchWords', WHERE WHAT IT READS IS OF BULK AT MOST 1048576: true; the input reads as it did. -/
def searchWordsUptoRow : OpenClaim := { program := "ytpnhmapkdbnkmaagreatdoor", sum := "761e5cd7eff23770e7a3969e713784e6d902a952762621d508e89d18b92be057", func := "errata/erratalaw14.SearchWords", spec := "searchWords", unfollowed := true, recurses := true, named := ["unicode/utf8.first", "unicode/utf8.acceptRanges"], plainKeys := false, apart := false, laid := [("unicode/utf8.acceptRanges", laid_unicode_utf8_acceptRanges), ("unicode/utf8.first", laid_unicode_utf8_first)], narrowed := true }
def SearchWordsUptoSaid : Prop := searchWordsUptoRow.holds Tryz.pinned (OpenSpec.upto searchWordsSpec)

/-- 'erratalaw14.SearchEffort', WHERE WHAT IT READS IS OF BULK AT MOST 1048576: true; the input reads as it did. -/
def searchEffortUptoRow : OpenClaim := { program := "ytpnhmapkdbnkmaagreatdoor", sum := "761e5cd7eff23770e7a3969e713784e6d902a952762621d508e89d18b92be057", func := "errata/erratalaw14.SearchEffort", spec := "searchEffort", unfollowed := true, recurses := true, named := ["unicode/utf8.first", "unicode/utf8.acceptRanges"], plainKeys := false, apart := false, laid := [("unicode/utf8.acceptRanges", laid_unicode_utf8_acceptRanges), ("unicode/utf8.first", laid_unicode_utf8_first)], narrowed := true }
def SearchEffortUptoSaid : Prop := searchEffortUptoRow.holds Tryz.pinned (OpenSpec.upto searchEffortSpec)

/-- 'erratalaw14.SearchRules', WHERE WHAT IT READS IS OF BULK AT MOST 1048576: true; the input reads as it did. -/
def searchRulesUptoRow : OpenClaim := { program := "ytpnhmapkdbnkmaagreatdoor", sum := "761e5cd7eff23770e7a3969e713784e6d902a952762621d508e89d18b92be057", func := "errata/erratalaw14.SearchRules", spec := "searchRules", unfollowed := true, recurses := true, named := ["unicode/utf8.first", "unicode/utf8.acceptRanges"], plainKeys := false, apart := false, laid := [("unicode/utf8.acceptRanges", laid_unicode_utf8_acceptRanges), ("unicode/utf8.first", laid_unicode_utf8_first)], narrowed := true }
def SearchRulesUptoSaid : Prop := searchRulesUptoRow.holds Tryz.pinned (OpenSpec.upto searchRulesSpec)

/-- 'erratalaw14.SearchPrices', WHERE WHAT IT READS IS OF BULK AT MOST 1048576: true; the input reads as it did. -/
def searchPricesUptoRow : OpenClaim := { program := "ytpnhmapkdbnkmaagreatdoor", sum := "761e5cd7eff23770e7a3969e713784e6d902a952762621d508e89d18b92be057", func := "errata/erratalaw14.SearchPrices", spec := "searchPrices", unfollowed := true, recurses := true, named := ["unicode/utf8.first", "unicode/utf8.acceptRanges"], plainKeys := false, apart := false, laid := [("unicode/utf8.acceptRanges", laid_unicode_utf8_acceptRanges), ("unicode/utf8.first", laid_unicode_utf8_first)], narrowed := true }
def SearchPricesUptoSaid : Prop := searchPricesUptoRow.holds Tryz.pinned (OpenSpec.upto searchPricesSpec)

end Rows
end Go.Proofs.YtpnhmapkdbnkmaaGreatDoor
