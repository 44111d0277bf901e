/- Long patterns: run for each (a part). -/
import Derived.Test.YtbojmpbccibmaaaGreatDoorCSEEreLong
set_option linter.unusedVariables false
set_option linter.unusedSimpArgs false
set_option linter.unusedSectionVars false
set_option linter.deprecated false
set_option maxRecDepth 100000
namespace Go.Proofs.YtbojmpbccibmaaaGreatDoor
open Go Go.Abs

theorem ereLongL_1 : rowOk OR 19 (ereLongL 1) (ereLongLV 1) = true := by kernel_rfl
theorem ereLongL_3 : rowOk OR 19 (ereLongL 3) (ereLongLV 3) = true := by kernel_rfl
theorem ereLongL_5 : rowOk OR 19 (ereLongL 5) (ereLongLV 5) = true := by kernel_rfl
theorem ereLongL_7 : rowOk OR 19 (ereLongL 7) (ereLongLV 7) = true := by kernel_rfl
theorem ereLongL_9 : rowOk OR 19 (ereLongL 9) (ereLongLV 9) = true := by kernel_rfl
theorem ereLongLs : ((List.range' 10 10).all fun n => rowOk OR 19 (ereLongL n) (ereLongLV n)) = true := by kernel_rfl
theorem ereLongMt : ((List.range' 7 6).all fun g => rowOk OR 19 (ereLongM g) (ereLongMV g)) = true := by kernel_rfl

end Go.Proofs.YtbojmpbccibmaaaGreatDoor
