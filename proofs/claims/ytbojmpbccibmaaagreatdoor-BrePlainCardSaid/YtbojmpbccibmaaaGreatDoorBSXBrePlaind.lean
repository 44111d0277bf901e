/- Letters alone: run for each number of them (a part). -/
import Derived.Test.YtbojmpbccibmaaaGreatDoorBSXBrePlain
set_option linter.unusedVariables false
set_option linter.unusedSimpArgs false
set_option linter.unusedSectionVars false
set_option linter.deprecated false
set_option maxRecDepth 100000
namespace Go.Proofs.YtbojmpbccibmaaaGreatDoor
open Go Go.Abs

theorem brePlainOk_57 : brePlainOk 57 = true := by kernel_rfl
theorem brePlainOk_56 : brePlainOk 56 = true := by kernel_rfl
theorem brePlainOk_49 : brePlainOk 49 = true := by kernel_rfl
theorem brePlainOk_48 : brePlainOk 48 = true := by kernel_rfl
theorem brePlainOk_41 : brePlainOk 41 = true := by kernel_rfl
theorem brePlainOk_40 : brePlainOk 40 = true := by kernel_rfl
theorem brePlainOk_33 : brePlainOk 33 = true := by kernel_rfl
theorem brePlainOk_32 : brePlainOk 32 = true := by kernel_rfl
theorem brePlainOk_25 : brePlainOk 25 = true := by kernel_rfl
theorem brePlainOk_24 : brePlainOk 24 = true := by kernel_rfl
theorem brePlainOk_17 : brePlainOk 17 = true := by kernel_rfl
theorem brePlainOk_16 : brePlainOk 16 = true := by kernel_rfl
theorem brePlainOk_9 : brePlainOk 9 = true := by kernel_rfl
theorem brePlainOk_8 : brePlainOk 8 = true := by kernel_rfl
theorem brePlainOk_1 : brePlainOk 1 = true := by kernel_rfl

end Go.Proofs.YtbojmpbccibmaaaGreatDoor
