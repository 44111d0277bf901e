/- Long patterns: run for each (a part). -/
import Derived.Test.YtbojmpbccibmaaaGreatDoorCSEBreLong
set_option linter.unusedVariables false
set_option linter.unusedSimpArgs false
set_option linter.unusedSectionVars false
set_option linter.deprecated false
set_option maxRecDepth 100000
namespace Go.Proofs.YtbojmpbccibmaaaGreatDoor
open Go Go.Abs

theorem breLongL_1 : rowOk OR 27 (breLongL 1) (breLongLV 1) = true := by kernel_rfl
theorem breLongL_3 : rowOk OR 27 (breLongL 3) (breLongLV 3) = true := by kernel_rfl
theorem breLongL_5 : rowOk OR 27 (breLongL 5) (breLongLV 5) = true := by kernel_rfl
theorem breLongL_7 : rowOk OR 27 (breLongL 7) (breLongLV 7) = true := by kernel_rfl
theorem breLongL_9 : rowOk OR 27 (breLongL 9) (breLongLV 9) = true := by kernel_rfl
theorem breLongLs : ((List.range' 10 10).all fun n => rowOk OR 27 (breLongL n) (breLongLV n)) = true := by kernel_rfl
theorem breLongMt : ((List.range' 7 6).all fun g => rowOk OR 27 (breLongM g) (breLongMV g)) = true := by kernel_rfl

end Go.Proofs.YtbojmpbccibmaaaGreatDoor
