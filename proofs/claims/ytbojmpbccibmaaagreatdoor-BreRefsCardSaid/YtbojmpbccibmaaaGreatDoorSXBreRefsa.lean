/- What a group had: run for each number of groups and each digit. (a part) -/
import Derived.Test.YtbojmpbccibmaaaGreatDoorSXBreRefs
set_option linter.unusedVariables false
set_option linter.unusedSimpArgs false
set_option linter.unusedSectionVars false
set_option linter.deprecated false
set_option maxRecDepth 100000
namespace Go.Proofs.YtbojmpbccibmaaaGreatDoor
open Go Go.Abs

theorem breRefsOk_0_0 : ((List.range' 0 3).all (breRefsOk 0)) = true := by kernel_rfl
theorem breRefsOk_0_3 : ((List.range' 3 3).all (breRefsOk 0)) = true := by kernel_rfl
theorem breRefsOk_0_6 : ((List.range' 6 3).all (breRefsOk 0)) = true := by kernel_rfl
theorem breRefsOk_3_0 : ((List.range' 0 3).all (breRefsOk 3)) = true := by kernel_rfl
theorem breRefsOk_3_3 : ((List.range' 3 3).all (breRefsOk 3)) = true := by kernel_rfl
theorem breRefsOk_3_6 : ((List.range' 6 3).all (breRefsOk 3)) = true := by kernel_rfl
theorem breRefsOk_6_0 : ((List.range' 0 3).all (breRefsOk 6)) = true := by kernel_rfl
theorem breRefsOk_6_3 : ((List.range' 3 3).all (breRefsOk 6)) = true := by kernel_rfl
theorem breRefsOk_6_6 : ((List.range' 6 3).all (breRefsOk 6)) = true := by kernel_rfl
theorem breRefsOk_9_0 : ((List.range' 0 3).all (breRefsOk 9)) = true := by kernel_rfl
theorem breRefsOk_9_3 : ((List.range' 3 3).all (breRefsOk 9)) = true := by kernel_rfl
theorem breRefsOk_9_6 : ((List.range' 6 3).all (breRefsOk 9)) = true := by kernel_rfl

end Go.Proofs.YtbojmpbccibmaaaGreatDoor
