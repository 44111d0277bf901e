/- Long patterns: the runs (a part). -/
import Derived.Test.YtbojmpbccibmaaaGreatDoorCSXBreLong
set_option linter.unusedVariables false
set_option linter.unusedSimpArgs false
set_option linter.unusedSectionVars false
set_option linter.deprecated false
set_option maxRecDepth 100000
namespace Go.Proofs.YtbojmpbccibmaaaGreatDoor.breLong
open Go Go.Abs

theorem longOk_1 : ((List.range 13).all (longOk 1)) = true := by kernel_rfl
theorem longOk_3 : ((List.range 13).all (longOk 3)) = true := by kernel_rfl
theorem longOk_5 : ((List.range 13).all (longOk 5)) = true := by kernel_rfl
theorem longOk_7 : ((List.range 13).all (longOk 7)) = true := by kernel_rfl
theorem longOk_9 : ((List.range 13).all (longOk 9)) = true := by kernel_rfl
theorem longOk_11 : ((List.range 13).all (longOk 11)) = true := by kernel_rfl
theorem longOk_13 : ((List.range 13).all (longOk 13)) = true := by kernel_rfl
theorem longOk_15 : ((List.range 13).all (longOk 15)) = true := by kernel_rfl
theorem longOk_17 : ((List.range 13).all (longOk 17)) = true := by kernel_rfl
theorem longOk_19 : ((List.range 13).all (longOk 19)) = true := by kernel_rfl

end Go.Proofs.YtbojmpbccibmaaaGreatDoor.breLong
