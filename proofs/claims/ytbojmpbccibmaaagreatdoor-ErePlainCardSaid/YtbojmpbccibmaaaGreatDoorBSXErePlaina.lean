/- Letters alone: run for each number of them (a part). -/
import Derived.Test.YtbojmpbccibmaaaGreatDoorBSXErePlain
set_option linter.unusedVariables false
set_option linter.unusedSimpArgs false
set_option linter.unusedSectionVars false
set_option linter.deprecated false
set_option maxRecDepth 100000
namespace Go.Proofs.YtbojmpbccibmaaaGreatDoor
open Go Go.Abs

theorem erePlainOk_60 : erePlainOk 60 = true := by kernel_rfl
theorem erePlainOk_53 : erePlainOk 53 = true := by kernel_rfl
theorem erePlainOk_52 : erePlainOk 52 = true := by kernel_rfl
theorem erePlainOk_45 : erePlainOk 45 = true := by kernel_rfl
theorem erePlainOk_44 : erePlainOk 44 = true := by kernel_rfl
theorem erePlainOk_37 : erePlainOk 37 = true := by kernel_rfl
theorem erePlainOk_36 : erePlainOk 36 = true := by kernel_rfl
theorem erePlainOk_29 : erePlainOk 29 = true := by kernel_rfl
theorem erePlainOk_28 : erePlainOk 28 = true := by kernel_rfl
theorem erePlainOk_21 : erePlainOk 21 = true := by kernel_rfl
theorem erePlainOk_20 : erePlainOk 20 = true := by kernel_rfl
theorem erePlainOk_13 : erePlainOk 13 = true := by kernel_rfl
theorem erePlainOk_12 : erePlainOk 12 = true := by kernel_rfl
theorem erePlainOk_5 : erePlainOk 5 = true := by kernel_rfl
theorem erePlainOk_4 : erePlainOk 4 = true := by kernel_rfl

end Go.Proofs.YtbojmpbccibmaaaGreatDoor
