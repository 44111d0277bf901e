/- What finds the place of an element in an order: run at each place (a part). -/
import Derived.Test.YtbojmpbccibmaaaGreatDoorDS1
set_option linter.unusedVariables false
set_option linter.unusedSimpArgs false
set_option linter.unusedSectionVars false
set_option linter.deprecated false
set_option maxRecDepth 100000
namespace Go.Proofs.YtbojmpbccibmaaaGreatDoor
open Go Go.Abs
variable [Fct]

theorem placeOk_48 : ((List.range' 48 11).all placeOk) = true := by kernel_rfl
theorem placeOk_83 : ((List.range' 83 7).all placeOk) = true := by kernel_rfl
theorem placeOk_107 : ((List.range' 107 5).all placeOk) = true := by kernel_rfl
theorem placeOk_126 : ((List.range' 126 2).all placeOk) = true := by kernel_rfl

end Go.Proofs.YtbojmpbccibmaaaGreatDoor
