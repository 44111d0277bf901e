/- Letters alone: run for each number of them (a part). -/
import Derived.Test.YtbojmpbccibmaaaGreatDoorBSXBrePlain
set_option linter.unusedVariables false
set_option linter.unusedSimpArgs false
set_option linter.unusedSectionVars false
set_option linter.deprecated false
set_option maxRecDepth 100000
namespace Go.Proofs.YtbojmpbccibmaaaGreatDoor
open Go Go.Abs

theorem brePlainOk_58 : brePlainOk 58 = true := by kernel_rfl
theorem brePlainOk_55 : brePlainOk 55 = true := by kernel_rfl
theorem brePlainOk_50 : brePlainOk 50 = true := by kernel_rfl
theorem brePlainOk_47 : brePlainOk 47 = true := by kernel_rfl
theorem brePlainOk_42 : brePlainOk 42 = true := by kernel_rfl
theorem brePlainOk_39 : brePlainOk 39 = true := by kernel_rfl
theorem brePlainOk_34 : brePlainOk 34 = true := by kernel_rfl
theorem brePlainOk_31 : brePlainOk 31 = true := by kernel_rfl
theorem brePlainOk_26 : brePlainOk 26 = true := by kernel_rfl
theorem brePlainOk_23 : brePlainOk 23 = true := by kernel_rfl
theorem brePlainOk_18 : brePlainOk 18 = true := by kernel_rfl
theorem brePlainOk_15 : brePlainOk 15 = true := by kernel_rfl
theorem brePlainOk_10 : brePlainOk 10 = true := by kernel_rfl
theorem brePlainOk_7 : brePlainOk 7 = true := by kernel_rfl
theorem brePlainOk_2 : brePlainOk 2 = true := by kernel_rfl

end Go.Proofs.YtbojmpbccibmaaaGreatDoor
