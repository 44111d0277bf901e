/- Long patterns: the runs (a part). -/
import Derived.Test.YtbojmpbccibmaaaGreatDoorCSXBreLong
set_option linter.unusedVariables false
set_option linter.unusedSimpArgs false
set_option linter.unusedSectionVars false
set_option linter.deprecated false
set_option maxRecDepth 100000
namespace Go.Proofs.YtbojmpbccibmaaaGreatDoor.breLong
open Go Go.Abs

theorem longOk_0 : ((List.range 13).all (longOk 0)) = true := by kernel_rfl
theorem longOk_2 : ((List.range 13).all (longOk 2)) = true := by kernel_rfl
theorem longOk_4 : ((List.range 13).all (longOk 4)) = true := by kernel_rfl
theorem longOk_6 : ((List.range 13).all (longOk 6)) = true := by kernel_rfl
theorem longOk_8 : ((List.range 13).all (longOk 8)) = true := by kernel_rfl
theorem longOk_10 : ((List.range 13).all (longOk 10)) = true := by kernel_rfl
theorem longOk_12 : ((List.range 13).all (longOk 12)) = true := by kernel_rfl
theorem longOk_14 : ((List.range 13).all (longOk 14)) = true := by kernel_rfl
theorem longOk_16 : ((List.range 13).all (longOk 16)) = true := by kernel_rfl
theorem longOk_18 : ((List.range 13).all (longOk 18)) = true := by kernel_rfl

end Go.Proofs.YtbojmpbccibmaaaGreatDoor.breLong
