/- Flags of the command s: run for each kind of number and each choice. -/
import Derived.Test.YtbojmpbccibmaaaGreatDoorBS5s
import Derived.Test.YtbojmpbccibmaaaGreatDoorBSW
set_option linter.unusedVariables false
set_option linter.unusedSimpArgs false
set_option linter.unusedSectionVars false
set_option linter.deprecated false
set_option maxRecDepth 100000
namespace Go.Proofs.YtbojmpbccibmaaaGreatDoor
open Go Go.Abs

/-- The kinds of numbers: by how many digits they have. -/
def numCls : Nat → List Int
  | 0 => span 0 1
  | 1 => span 1 9
  | 2 => span 10 90
  | _ => span 100 156
noncomputable def flagsOk (j : Nat) (a b c : Bool) : Bool := okTrue ((RR O4 2000).call 14 [.sym .u8 0 (numCls j), .bool a, .bool b, .bool c] baseH)

end Go.Proofs.YtbojmpbccibmaaaGreatDoor
