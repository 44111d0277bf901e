/- Addresses of commands: run for each command and each form (a part). -/
import Derived.Test.YtbojmpbccibmaaaGreatDoorSXScriptAddrs
set_option linter.unusedVariables false
set_option linter.unusedSimpArgs false
set_option linter.unusedSectionVars false
set_option linter.deprecated false
set_option maxRecDepth 100000
namespace Go.Proofs.YtbojmpbccibmaaaGreatDoor
open Go Go.Abs

theorem addrsOk_0_true : ((List.range 8).all fun j => addrsOk 0 j true) = true := by kernel_rfl
theorem addrsOk_1_false : ((List.range 8).all fun j => addrsOk 1 j false) = true := by kernel_rfl
theorem addrsOk_3_true : ((List.range 8).all fun j => addrsOk 3 j true) = true := by kernel_rfl
theorem addrsOk_4_false : ((List.range 8).all fun j => addrsOk 4 j false) = true := by kernel_rfl
theorem addrsOk_6_true : ((List.range 8).all fun j => addrsOk 6 j true) = true := by kernel_rfl
theorem addrsOk_7_false : ((List.range 8).all fun j => addrsOk 7 j false) = true := by kernel_rfl
theorem addrsOk_9_true : ((List.range 8).all fun j => addrsOk 9 j true) = true := by kernel_rfl
theorem addrsOk_10_false : ((List.range 8).all fun j => addrsOk 10 j false) = true := by kernel_rfl
theorem addrsOk_12_true : ((List.range 8).all fun j => addrsOk 12 j true) = true := by kernel_rfl
theorem addrsOk_13_false : ((List.range 8).all fun j => addrsOk 13 j false) = true := by kernel_rfl

end Go.Proofs.YtbojmpbccibmaaaGreatDoor
