/- What a group had: run for each number of groups and each digit. (a part) -/
import Derived.Test.YtbojmpbccibmaaaGreatDoorSXBreRefs
set_option linter.unusedVariables false
set_option linter.unusedSimpArgs false
set_option linter.unusedSectionVars false
set_option linter.deprecated false
set_option maxRecDepth 100000
namespace Go.Proofs.YtbojmpbccibmaaaGreatDoor
open Go Go.Abs

theorem breRefsOk_1_0 : ((List.range' 0 3).all (breRefsOk 1)) = true := by kernel_rfl
theorem breRefsOk_1_3 : ((List.range' 3 3).all (breRefsOk 1)) = true := by kernel_rfl
theorem breRefsOk_1_6 : ((List.range' 6 3).all (breRefsOk 1)) = true := by kernel_rfl
theorem breRefsOk_4_0 : ((List.range' 0 3).all (breRefsOk 4)) = true := by kernel_rfl
theorem breRefsOk_4_3 : ((List.range' 3 3).all (breRefsOk 4)) = true := by kernel_rfl
theorem breRefsOk_4_6 : ((List.range' 6 3).all (breRefsOk 4)) = true := by kernel_rfl
theorem breRefsOk_7_0 : ((List.range' 0 3).all (breRefsOk 7)) = true := by kernel_rfl
theorem breRefsOk_7_3 : ((List.range' 3 3).all (breRefsOk 7)) = true := by kernel_rfl
theorem breRefsOk_7_6 : ((List.range' 6 3).all (breRefsOk 7)) = true := by kernel_rfl

end Go.Proofs.YtbojmpbccibmaaaGreatDoor
