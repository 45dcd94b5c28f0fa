/- 'RuleOnce' of the package erratalaw07 answers true, whatever rules and number it is given, where what it reads is of bulk at most 1048576 and the tables of unicode/utf8 hold what their text lays. -/
import Derived.Test.YtpccanadijefnaaDoorRuleOnce
namespace Go.Proofs.YtpccanadijefnaaDoor.ruleOnce
open Go Go.ChangeShapes Go.WideShapes Go.ChangeAt Go.RowKit Go.Deep
theorem e1 : Tryd.prog.inPlace 18 = ["math/bits.Add64"] := by kernel_rfl
theorem e2 : Tryd.prog.unfollowed 18 = true := by kernel_rfl
theorem e3 : Tryd.prog.recurses 18 = true := by kernel_rfl
theorem e4 : Tryd.prog.varsNamed 18 = ["unicode/utf8.first", "unicode/utf8.acceptRanges"] := by kernel_rfl
theorem closed : joinedFacts Tryd.pinned.checked.prog 18 Tryd.f18 (Rows.OpenSpec.upto Rows.ruleOnceSpec).bare Rows.ruleOnceUptoRow = true := by
  show joinedFacts Tryd.prog 18 Tryd.f18 (Rows.OpenSpec.upto Rows.ruleOnceSpec).bare Rows.ruleOnceUptoRow = true
  unfold joinedFacts
  rw [e1, e2, e3, e4]
  kernel_rfl
end Go.Proofs.YtpccanadijefnaaDoor.ruleOnce
