/- Where a star is itself: run for each letter and form. (a part) -/
import Derived.Test.YtbojmpbccibmaaaGreatDoorSXBreStars
set_option linter.unusedVariables false
set_option linter.unusedSimpArgs false
set_option linter.unusedSectionVars false
set_option linter.deprecated false
set_option maxRecDepth 100000
namespace Go.Proofs.YtbojmpbccibmaaaGreatDoor
open Go Go.Abs

theorem breStarsOk_0 : ((List.range 7).all (breStarsOk 0)) = true := by kernel_rfl
theorem breStarsOk_1 : ((List.range 7).all (breStarsOk 1)) = true := by kernel_rfl
theorem breStarsOk_2 : ((List.range 7).all (breStarsOk 2)) = true := by kernel_rfl
theorem breStarsOk_3 : ((List.range 7).all (breStarsOk 3)) = true := by kernel_rfl
theorem breStarsOk_4 : ((List.range 7).all (breStarsOk 4)) = true := by kernel_rfl
theorem breStarsOk_5 : ((List.range 7).all (breStarsOk 5)) = true := by kernel_rfl
theorem breStarsOk_6 : ((List.range 7).all (breStarsOk 6)) = true := by kernel_rfl
theorem breStarsOk_7 : ((List.range 7).all (breStarsOk 7)) = true := by kernel_rfl
theorem breStarsOk_8 : ((List.range 7).all (breStarsOk 8)) = true := by kernel_rfl
theorem breStarsOk_9 : ((List.range 7).all (breStarsOk 9)) = true := by kernel_rfl
theorem breStarsOk_10 : ((List.range 7).all (breStarsOk 10)) = true := by kernel_rfl
theorem breStarsOk_11 : ((List.range 7).all (breStarsOk 11)) = true := by kernel_rfl
theorem breStarsOk_12 : ((List.range 7).all (breStarsOk 12)) = true := by kernel_rfl

end Go.Proofs.YtbojmpbccibmaaaGreatDoor
