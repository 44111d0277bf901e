/- Long patterns: run for each (a part). -/
import Derived.Test.YtbojmpbccibmaaaGreatDoorCSEEreLong
set_option linter.unusedVariables false
set_option linter.unusedSimpArgs false
set_option linter.unusedSectionVars false
set_option linter.deprecated false
set_option maxRecDepth 100000
namespace Go.Proofs.YtbojmpbccibmaaaGreatDoor
open Go Go.Abs

theorem ereLongL_0 : rowOk OR 19 (ereLongL 0) (ereLongLV 0) = true := by kernel_rfl
theorem ereLongL_2 : rowOk OR 19 (ereLongL 2) (ereLongLV 2) = true := by kernel_rfl
theorem ereLongL_4 : rowOk OR 19 (ereLongL 4) (ereLongLV 4) = true := by kernel_rfl
theorem ereLongL_6 : rowOk OR 19 (ereLongL 6) (ereLongLV 6) = true := by kernel_rfl
theorem ereLongL_8 : rowOk OR 19 (ereLongL 8) (ereLongLV 8) = true := by kernel_rfl
theorem ereLongMs : ((List.range' 1 6).all fun g => rowOk OR 19 (ereLongM g) (ereLongMV g)) = true := by kernel_rfl

end Go.Proofs.YtbojmpbccibmaaaGreatDoor
