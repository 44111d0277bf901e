/- Letters alone: run for each number of them (a part). -/
import Derived.Test.YtbojmpbccibmaaaGreatDoorBSXErePlain
set_option linter.unusedVariables false
set_option linter.unusedSimpArgs false
set_option linter.unusedSectionVars false
set_option linter.deprecated false
set_option maxRecDepth 100000
namespace Go.Proofs.YtbojmpbccibmaaaGreatDoor
open Go Go.Abs

theorem erePlainOk_57 : erePlainOk 57 = true := by kernel_rfl
theorem erePlainOk_56 : erePlainOk 56 = true := by kernel_rfl
theorem erePlainOk_49 : erePlainOk 49 = true := by kernel_rfl
theorem erePlainOk_48 : erePlainOk 48 = true := by kernel_rfl
theorem erePlainOk_41 : erePlainOk 41 = true := by kernel_rfl
theorem erePlainOk_40 : erePlainOk 40 = true := by kernel_rfl
theorem erePlainOk_33 : erePlainOk 33 = true := by kernel_rfl
theorem erePlainOk_32 : erePlainOk 32 = true := by kernel_rfl
theorem erePlainOk_25 : erePlainOk 25 = true := by kernel_rfl
theorem erePlainOk_24 : erePlainOk 24 = true := by kernel_rfl
theorem erePlainOk_17 : erePlainOk 17 = true := by kernel_rfl
theorem erePlainOk_16 : erePlainOk 16 = true := by kernel_rfl
theorem erePlainOk_9 : erePlainOk 9 = true := by kernel_rfl
theorem erePlainOk_8 : erePlainOk 8 = true := by kernel_rfl
theorem erePlainOk_1 : erePlainOk 1 = true := by kernel_rfl

end Go.Proofs.YtbojmpbccibmaaaGreatDoor
