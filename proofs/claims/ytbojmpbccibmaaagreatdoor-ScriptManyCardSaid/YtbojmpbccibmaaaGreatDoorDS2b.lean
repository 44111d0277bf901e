/- What finds the place of an element in an order: run at each place (a part). -/
import Derived.Test.YtbojmpbccibmaaaGreatDoorDS1
set_option linter.unusedVariables false
set_option linter.unusedSimpArgs false
set_option linter.unusedSectionVars false
set_option linter.deprecated false
set_option maxRecDepth 100000
namespace Go.Proofs.YtbojmpbccibmaaaGreatDoor
open Go Go.Abs
variable [Fct]

theorem placeOk_34 : ((List.range' 34 14).all placeOk) = true := by kernel_rfl
theorem placeOk_76 : ((List.range' 76 7).all placeOk) = true := by kernel_rfl
theorem placeOk_102 : ((List.range' 102 5).all placeOk) = true := by kernel_rfl
theorem placeOk_122 : ((List.range' 122 4).all placeOk) = true := by kernel_rfl

end Go.Proofs.YtbojmpbccibmaaaGreatDoor
