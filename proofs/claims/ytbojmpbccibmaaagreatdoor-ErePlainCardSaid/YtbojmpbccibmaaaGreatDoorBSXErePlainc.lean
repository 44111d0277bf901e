/- Letters alone: run for each number of them (a part). -/
import Derived.Test.YtbojmpbccibmaaaGreatDoorBSXErePlain
set_option linter.unusedVariables false
set_option linter.unusedSimpArgs false
set_option linter.unusedSectionVars false
set_option linter.deprecated false
set_option maxRecDepth 100000
namespace Go.Proofs.YtbojmpbccibmaaaGreatDoor
open Go Go.Abs

theorem erePlainOk_58 : erePlainOk 58 = true := by kernel_rfl
theorem erePlainOk_55 : erePlainOk 55 = true := by kernel_rfl
theorem erePlainOk_50 : erePlainOk 50 = true := by kernel_rfl
theorem erePlainOk_47 : erePlainOk 47 = true := by kernel_rfl
theorem erePlainOk_42 : erePlainOk 42 = true := by kernel_rfl
theorem erePlainOk_39 : erePlainOk 39 = true := by kernel_rfl
theorem erePlainOk_34 : erePlainOk 34 = true := by kernel_rfl
theorem erePlainOk_31 : erePlainOk 31 = true := by kernel_rfl
theorem erePlainOk_26 : erePlainOk 26 = true := by kernel_rfl
theorem erePlainOk_23 : erePlainOk 23 = true := by kernel_rfl
theorem erePlainOk_18 : erePlainOk 18 = true := by kernel_rfl
theorem erePlainOk_15 : erePlainOk 15 = true := by kernel_rfl
theorem erePlainOk_10 : erePlainOk 10 = true := by kernel_rfl
theorem erePlainOk_7 : erePlainOk 7 = true := by kernel_rfl
theorem erePlainOk_2 : erePlainOk 2 = true := by kernel_rfl

end Go.Proofs.YtbojmpbccibmaaaGreatDoor
