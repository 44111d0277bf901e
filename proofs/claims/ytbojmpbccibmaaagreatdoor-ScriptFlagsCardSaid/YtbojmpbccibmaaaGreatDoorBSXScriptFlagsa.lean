/- Flags of the command s: run for each kind of number and each choice (a part). -/
import Derived.Test.YtbojmpbccibmaaaGreatDoorBSXScriptFlags
set_option linter.unusedVariables false
set_option linter.unusedSimpArgs false
set_option linter.unusedSectionVars false
set_option linter.deprecated false
set_option maxRecDepth 100000
namespace Go.Proofs.YtbojmpbccibmaaaGreatDoor
open Go Go.Abs

theorem flagsOk_0_false : (flagsOk 0 false true true && (flagsOk 0 false true false && (flagsOk 0 false false true && flagsOk 0 false false false))) = true := by kernel_rfl
theorem flagsOk_1_true : (flagsOk 1 true true true && (flagsOk 1 true true false && (flagsOk 1 true false true && flagsOk 1 true false false))) = true := by kernel_rfl
theorem flagsOk_2_false : (flagsOk 2 false true true && (flagsOk 2 false true false && (flagsOk 2 false false true && flagsOk 2 false false false))) = true := by kernel_rfl
theorem flagsOk_3_true : (flagsOk 3 true true true && (flagsOk 3 true true false && (flagsOk 3 true false true && flagsOk 3 true false false))) = true := by kernel_rfl

end Go.Proofs.YtbojmpbccibmaaaGreatDoor
