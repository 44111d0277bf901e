/- Letters alone: run for each number of them (a part). -/
import Derived.Test.YtbojmpbccibmaaaGreatDoorBSXErePlain
set_option linter.unusedVariables false
set_option linter.unusedSimpArgs false
set_option linter.unusedSectionVars false
set_option linter.deprecated false
set_option maxRecDepth 100000
namespace Go.Proofs.YtbojmpbccibmaaaGreatDoor
open Go Go.Abs

theorem erePlainOk_59 : erePlainOk 59 = true := by kernel_rfl
theorem erePlainOk_54 : erePlainOk 54 = true := by kernel_rfl
theorem erePlainOk_51 : erePlainOk 51 = true := by kernel_rfl
theorem erePlainOk_46 : erePlainOk 46 = true := by kernel_rfl
theorem erePlainOk_43 : erePlainOk 43 = true := by kernel_rfl
theorem erePlainOk_38 : erePlainOk 38 = true := by kernel_rfl
theorem erePlainOk_35 : erePlainOk 35 = true := by kernel_rfl
theorem erePlainOk_30 : erePlainOk 30 = true := by kernel_rfl
theorem erePlainOk_27 : erePlainOk 27 = true := by kernel_rfl
theorem erePlainOk_22 : erePlainOk 22 = true := by kernel_rfl
theorem erePlainOk_19 : erePlainOk 19 = true := by kernel_rfl
theorem erePlainOk_14 : erePlainOk 14 = true := by kernel_rfl
theorem erePlainOk_11 : erePlainOk 11 = true := by kernel_rfl
theorem erePlainOk_6 : erePlainOk 6 = true := by kernel_rfl
theorem erePlainOk_3 : erePlainOk 3 = true := by kernel_rfl

end Go.Proofs.YtbojmpbccibmaaaGreatDoor
