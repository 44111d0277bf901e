/- Letters alone: run for each number of them (a part). -/
import Derived.Test.YtbojmpbccibmaaaGreatDoorBSXBrePlain
set_option linter.unusedVariables false
set_option linter.unusedSimpArgs false
set_option linter.unusedSectionVars false
set_option linter.deprecated false
set_option maxRecDepth 100000
namespace Go.Proofs.YtbojmpbccibmaaaGreatDoor
open Go Go.Abs

theorem brePlainOk_60 : brePlainOk 60 = true := by kernel_rfl
theorem brePlainOk_53 : brePlainOk 53 = true := by kernel_rfl
theorem brePlainOk_52 : brePlainOk 52 = true := by kernel_rfl
theorem brePlainOk_45 : brePlainOk 45 = true := by kernel_rfl
theorem brePlainOk_44 : brePlainOk 44 = true := by kernel_rfl
theorem brePlainOk_37 : brePlainOk 37 = true := by kernel_rfl
theorem brePlainOk_36 : brePlainOk 36 = true := by kernel_rfl
theorem brePlainOk_29 : brePlainOk 29 = true := by kernel_rfl
theorem brePlainOk_28 : brePlainOk 28 = true := by kernel_rfl
theorem brePlainOk_21 : brePlainOk 21 = true := by kernel_rfl
theorem brePlainOk_20 : brePlainOk 20 = true := by kernel_rfl
theorem brePlainOk_13 : brePlainOk 13 = true := by kernel_rfl
theorem brePlainOk_12 : brePlainOk 12 = true := by kernel_rfl
theorem brePlainOk_5 : brePlainOk 5 = true := by kernel_rfl
theorem brePlainOk_4 : brePlainOk 4 = true := by kernel_rfl

end Go.Proofs.YtbojmpbccibmaaaGreatDoor
