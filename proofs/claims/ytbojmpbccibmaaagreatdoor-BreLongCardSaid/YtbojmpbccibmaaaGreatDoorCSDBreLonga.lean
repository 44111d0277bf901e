/- Long patterns: run for each (a part). -/
import Derived.Test.YtbojmpbccibmaaaGreatDoorCSEBreLong
set_option linter.unusedVariables false
set_option linter.unusedSimpArgs false
set_option linter.unusedSectionVars false
set_option linter.deprecated false
set_option maxRecDepth 100000
namespace Go.Proofs.YtbojmpbccibmaaaGreatDoor
open Go Go.Abs

theorem breLongL_0 : rowOk OR 27 (breLongL 0) (breLongLV 0) = true := by kernel_rfl
theorem breLongL_2 : rowOk OR 27 (breLongL 2) (breLongLV 2) = true := by kernel_rfl
theorem breLongL_4 : rowOk OR 27 (breLongL 4) (breLongLV 4) = true := by kernel_rfl
theorem breLongL_6 : rowOk OR 27 (breLongL 6) (breLongLV 6) = true := by kernel_rfl
theorem breLongL_8 : rowOk OR 27 (breLongL 8) (breLongLV 8) = true := by kernel_rfl
theorem breLongMs : ((List.range' 1 6).all fun g => rowOk OR 27 (breLongM g) (breLongMV g)) = true := by kernel_rfl

end Go.Proofs.YtbojmpbccibmaaaGreatDoor
