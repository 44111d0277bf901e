/- Where a star is itself: run for each letter and form. -/
import Derived.Test.YtbojmpbccibmaaaGreatDoorSR
set_option linter.unusedVariables false
set_option linter.unusedSimpArgs false
set_option linter.unusedSectionVars false
set_option linter.deprecated false
set_option maxRecDepth 100000
namespace Go.Proofs.YtbojmpbccibmaaaGreatDoor
open Go Go.Abs

noncomputable def breStarsOk (i j : Nat) : Bool := okTrue ((RR O3 2000).call 8 [.sym .u8 0 (rests 13 i), .sym .u8 1 (rests 7 j)] baseH)

end Go.Proofs.YtbojmpbccibmaaaGreatDoor
