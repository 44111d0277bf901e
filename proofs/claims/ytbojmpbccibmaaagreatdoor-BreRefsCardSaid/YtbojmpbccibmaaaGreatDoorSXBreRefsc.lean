/- What a group had: run for each number of groups and each digit. (a part) -/
import Derived.Test.YtbojmpbccibmaaaGreatDoorSXBreRefs
set_option linter.unusedVariables false
set_option linter.unusedSimpArgs false
set_option linter.unusedSectionVars false
set_option linter.deprecated false
set_option maxRecDepth 100000
namespace Go.Proofs.YtbojmpbccibmaaaGreatDoor
open Go Go.Abs

theorem breRefsOk_2_0 : ((List.range' 0 3).all (breRefsOk 2)) = true := by kernel_rfl
theorem breRefsOk_2_3 : ((List.range' 3 3).all (breRefsOk 2)) = true := by kernel_rfl
theorem breRefsOk_2_6 : ((List.range' 6 3).all (breRefsOk 2)) = true := by kernel_rfl
theorem breRefsOk_5_0 : ((List.range' 0 3).all (breRefsOk 5)) = true := by kernel_rfl
theorem breRefsOk_5_3 : ((List.range' 3 3).all (breRefsOk 5)) = true := by kernel_rfl
theorem breRefsOk_5_6 : ((List.range' 6 3).all (breRefsOk 5)) = true := by kernel_rfl
theorem breRefsOk_8_0 : ((List.range' 0 3).all (breRefsOk 8)) = true := by kernel_rfl
theorem breRefsOk_8_3 : ((List.range' 3 3).all (breRefsOk 8)) = true := by kernel_rfl
theorem breRefsOk_8_6 : ((List.range' 6 3).all (breRefsOk 8)) = true := by kernel_rfl

end Go.Proofs.YtbojmpbccibmaaaGreatDoor
