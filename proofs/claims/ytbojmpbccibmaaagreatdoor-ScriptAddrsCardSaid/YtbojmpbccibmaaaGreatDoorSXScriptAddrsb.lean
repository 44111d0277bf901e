/- Addresses of commands: run for each command and each form (a part). -/
import Derived.Test.YtbojmpbccibmaaaGreatDoorSXScriptAddrs
set_option linter.unusedVariables false
set_option linter.unusedSimpArgs false
set_option linter.unusedSectionVars false
set_option linter.deprecated false
set_option maxRecDepth 100000
namespace Go.Proofs.YtbojmpbccibmaaaGreatDoor
open Go Go.Abs

theorem addrsOk_0_false : ((List.range 8).all fun j => addrsOk 0 j false) = true := by kernel_rfl
theorem addrsOk_2_true : ((List.range 8).all fun j => addrsOk 2 j true) = true := by kernel_rfl
theorem addrsOk_3_false : ((List.range 8).all fun j => addrsOk 3 j false) = true := by kernel_rfl
theorem addrsOk_5_true : ((List.range 8).all fun j => addrsOk 5 j true) = true := by kernel_rfl
theorem addrsOk_6_false : ((List.range 8).all fun j => addrsOk 6 j false) = true := by kernel_rfl
theorem addrsOk_8_true : ((List.range 8).all fun j => addrsOk 8 j true) = true := by kernel_rfl
theorem addrsOk_9_false : ((List.range 8).all fun j => addrsOk 9 j false) = true := by kernel_rfl
theorem addrsOk_11_true : ((List.range 8).all fun j => addrsOk 11 j true) = true := by kernel_rfl
theorem addrsOk_12_false : ((List.range 8).all fun j => addrsOk 12 j false) = true := by kernel_rfl

end Go.Proofs.YtbojmpbccibmaaaGreatDoor
