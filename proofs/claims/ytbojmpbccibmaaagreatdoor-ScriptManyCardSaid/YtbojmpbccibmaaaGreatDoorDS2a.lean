/- What finds the place of an element in an order: run at each place (a part). -/
import Derived.Test.YtbojmpbccibmaaaGreatDoorDS1
set_option linter.unusedVariables false
set_option linter.unusedSimpArgs false
set_option linter.unusedSectionVars false
set_option linter.deprecated false
set_option maxRecDepth 100000
namespace Go.Proofs.YtbojmpbccibmaaaGreatDoor
open Go Go.Abs
variable [Fct]

theorem placeOk_0 : ((List.range' 0 34).all placeOk) = true := by kernel_rfl
theorem placeOk_68 : ((List.range' 68 8).all placeOk) = true := by kernel_rfl
theorem placeOk_96 : ((List.range' 96 6).all placeOk) = true := by kernel_rfl
theorem placeOk_117 : ((List.range' 117 5).all placeOk) = true := by kernel_rfl

end Go.Proofs.YtbojmpbccibmaaaGreatDoor
