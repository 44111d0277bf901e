/- Addresses of commands: run for each command and each form. -/
import Derived.Test.YtbojmpbccibmaaaGreatDoorSR
import Derived.Test.YtbojmpbccibmaaaGreatDoorS5s
set_option linter.unusedVariables false
set_option linter.unusedSimpArgs false
set_option linter.unusedSectionVars false
set_option linter.deprecated false
set_option maxRecDepth 100000
namespace Go.Proofs.YtbojmpbccibmaaaGreatDoor
open Go Go.Abs

noncomputable def addrsOk (i j : Nat) (b : Bool) : Bool := okTrue ((RR O4 2000).call 13 [.sym .u8 0 (rests 14 i), .sym .u8 1 (restsHi 8 j b)] baseH)

end Go.Proofs.YtbojmpbccibmaaaGreatDoor
