/- What finds the place of an element in an order: of the order that no definition tells. -/
import Derived.Test.YtbojmpbccibmaaaGreatDoorDS0
set_option linter.unusedVariables false
set_option linter.unusedSimpArgs false
set_option linter.unusedSectionVars false
set_option linter.deprecated false
set_option maxRecDepth 100000
namespace Go.Proofs.YtbojmpbccibmaaaGreatDoor
open Go Go.Abs
variable [Fct]

def orderCells : List AV := (List.range 128).flatMap fun i => [.str [], .sl (some (210 + 3 * i, 0)) 1 1 1 true, .int .i64 (Int.ofNat i)]
def orderL : Abs.Rows := (593, orderCells, 141) :: (List.range 128).map fun i => (210 + 3 * i, [.int .i32 (Int.ofNat i)], 43)
noncomputable def orderH : AHeap := heapOf 594 orderL
def placeArgs (i : Nat) : List AV := [.sl (some (593, 0)) 3 128 128 false, .sl (some (210 + 3 * i, 0)) 1 1 1 true]
noncomputable def placeOk (i : Nat) : Bool := match (RR O0 400).call 143 (placeArgs i) orderH with
  | some (.returned (.int .i64 m), _) => eqQ m (Int.ofNat i)
  | _ => false
end Go.Proofs.YtbojmpbccibmaaaGreatDoor
