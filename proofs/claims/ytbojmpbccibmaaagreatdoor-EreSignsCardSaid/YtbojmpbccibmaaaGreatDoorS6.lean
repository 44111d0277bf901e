/- Each sign behind a stroke is itself: run for each sign. -/
import Derived.Test.YtbojmpbccibmaaaGreatDoorSR
set_option linter.unusedVariables false
set_option linter.unusedSimpArgs false
set_option linter.unusedSectionVars false
set_option linter.deprecated false
set_option maxRecDepth 100000
namespace Go.Proofs.YtbojmpbccibmaaaGreatDoor
open Go Go.Abs

theorem signsOk : ((List.range 14).all fun j => okTrue ((RR O3 2000).call 4 [.sym .u8 0 (rests 14 j)] baseH)) = true := by kernel_rfl

end Go.Proofs.YtbojmpbccibmaaaGreatDoor
