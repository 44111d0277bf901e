/- Letters alone: run for each number of them. -/
import Derived.Test.YtbojmpbccibmaaaGreatDoorBSP
set_option linter.unusedVariables false
set_option linter.unusedSimpArgs false
set_option linter.unusedSectionVars false
set_option linter.deprecated false
set_option maxRecDepth 100000
namespace Go.Proofs.YtbojmpbccibmaaaGreatDoor
open Go Go.Abs

noncomputable def erePlainOk (n : Nat) : Bool := okTrue ((RR O3 2000).call 6 [.sl (some (10, 0)) 1 n n false] (rowH 20 n))
theorem erePlainNil : okTrue ((RR O3 2000).call 6 [.sl none 1 0 0 false] baseH) = true := by kernel_rfl
theorem erePlainNone : okTrue ((RR O3 2000).call 6 [.sl (some (10, 0)) 1 0 0 false] baseH) = true := by kernel_rfl
theorem erePlainLong (k : Nat) : okTrue ((RR O3 2000).call 6 [.sl (some (10, 0)) 1 (k + 61) (k + 61) false] baseH) = true := by kernel_rfl
theorem erePlainIn : ((List.range 61).all fun n => rowsIn 20 (rowL 20 n)) = true := by kernel_rfl

end Go.Proofs.YtbojmpbccibmaaaGreatDoor
