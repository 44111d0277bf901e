/- Letters alone: run for each number of them (a part). -/
import Derived.Test.YtbojmpbccibmaaaGreatDoorBSXBrePlain
set_option linter.unusedVariables false
set_option linter.unusedSimpArgs false
set_option linter.unusedSectionVars false
set_option linter.deprecated false
set_option maxRecDepth 100000
namespace Go.Proofs.YtbojmpbccibmaaaGreatDoor
open Go Go.Abs

theorem brePlainOk_59 : brePlainOk 59 = true := by kernel_rfl
theorem brePlainOk_54 : brePlainOk 54 = true := by kernel_rfl
theorem brePlainOk_51 : brePlainOk 51 = true := by kernel_rfl
theorem brePlainOk_46 : brePlainOk 46 = true := by kernel_rfl
theorem brePlainOk_43 : brePlainOk 43 = true := by kernel_rfl
theorem brePlainOk_38 : brePlainOk 38 = true := by kernel_rfl
theorem brePlainOk_35 : brePlainOk 35 = true := by kernel_rfl
theorem brePlainOk_30 : brePlainOk 30 = true := by kernel_rfl
theorem brePlainOk_27 : brePlainOk 27 = true := by kernel_rfl
theorem brePlainOk_22 : brePlainOk 22 = true := by kernel_rfl
theorem brePlainOk_19 : brePlainOk 19 = true := by kernel_rfl
theorem brePlainOk_14 : brePlainOk 14 = true := by kernel_rfl
theorem brePlainOk_11 : brePlainOk 11 = true := by kernel_rfl
theorem brePlainOk_6 : brePlainOk 6 = true := by kernel_rfl
theorem brePlainOk_3 : brePlainOk 3 = true := by kernel_rfl

end Go.Proofs.YtbojmpbccibmaaaGreatDoor
