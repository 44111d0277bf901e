/- What finds the place of an element in an order: run at each place (a part). -/
import Derived.Test.YtbojmpbccibmaaaGreatDoorDS1
set_option linter.unusedVariables false
set_option linter.unusedSimpArgs false
set_option linter.unusedSectionVars false
set_option linter.deprecated false
set_option maxRecDepth 100000
namespace Go.Proofs.YtbojmpbccibmaaaGreatDoor
open Go Go.Abs
variable [Fct]

theorem placeOk_59 : ((List.range' 59 9).all placeOk) = true := by kernel_rfl
theorem placeOk_90 : ((List.range' 90 6).all placeOk) = true := by kernel_rfl
theorem placeOk_112 : ((List.range' 112 5).all placeOk) = true := by kernel_rfl

end Go.Proofs.YtbojmpbccibmaaaGreatDoor
