/- What a group had: run for each number of groups and each digit. -/
import Derived.Test.YtbojmpbccibmaaaGreatDoorSR
set_option linter.unusedVariables false
set_option linter.unusedSimpArgs false
set_option linter.unusedSectionVars false
set_option linter.deprecated false
set_option maxRecDepth 100000
namespace Go.Proofs.YtbojmpbccibmaaaGreatDoor
open Go Go.Abs

noncomputable def breRefsOk (i j : Nat) : Bool := okTrue ((RR O3 2000).call 9 [.sym .u8 0 (rests 10 i), .sym .u8 1 (rests 9 j)] baseH)

end Go.Proofs.YtbojmpbccibmaaaGreatDoor
