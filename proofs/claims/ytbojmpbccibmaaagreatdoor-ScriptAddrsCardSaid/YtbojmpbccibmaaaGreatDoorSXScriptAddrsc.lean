/- Addresses of commands: run for each command and each form (a part). -/
import Derived.Test.YtbojmpbccibmaaaGreatDoorSXScriptAddrs
set_option linter.unusedVariables false
set_option linter.unusedSimpArgs false
set_option linter.unusedSectionVars false
set_option linter.deprecated false
set_option maxRecDepth 100000
namespace Go.Proofs.YtbojmpbccibmaaaGreatDoor
open Go Go.Abs

theorem addrsOk_1_true : ((List.range 8).all fun j => addrsOk 1 j true) = true := by kernel_rfl
theorem addrsOk_2_false : ((List.range 8).all fun j => addrsOk 2 j false) = true := by kernel_rfl
theorem addrsOk_4_true : ((List.range 8).all fun j => addrsOk 4 j true) = true := by kernel_rfl
theorem addrsOk_5_false : ((List.range 8).all fun j => addrsOk 5 j false) = true := by kernel_rfl
theorem addrsOk_7_true : ((List.range 8).all fun j => addrsOk 7 j true) = true := by kernel_rfl
theorem addrsOk_8_false : ((List.range 8).all fun j => addrsOk 8 j false) = true := by kernel_rfl
theorem addrsOk_10_true : ((List.range 8).all fun j => addrsOk 10 j true) = true := by kernel_rfl
theorem addrsOk_11_false : ((List.range 8).all fun j => addrsOk 11 j false) = true := by kernel_rfl
theorem addrsOk_13_true : ((List.range 8).all fun j => addrsOk 13 j true) = true := by kernel_rfl

end Go.Proofs.YtbojmpbccibmaaaGreatDoor
