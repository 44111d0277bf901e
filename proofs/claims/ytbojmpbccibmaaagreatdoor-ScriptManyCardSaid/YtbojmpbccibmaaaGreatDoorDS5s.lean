/- The example of the chapter on scripts holds: what is known of it ahead. -/
import Derived.Test.YtbojmpbccibmaaaGreatDoorDS5
set_option linter.unusedVariables false
set_option linter.unusedSimpArgs false
set_option linter.unusedSectionVars false
set_option linter.deprecated false
set_option maxRecDepth 100000
namespace Go.Proofs.YtbojmpbccibmaaaGreatDoor
open Go Go.Abs
variable [Fct]

theorem knownOk_32 : okTrue ((RR O2 2000).call 32 [] baseH) = true := by kernel_rfl
noncomputable def O4 : Oracle := oneO 32 trueC O3
theorem O4_ok [Val] : OracleOk Tryz.prog Tryz.prog.globals.size O4 := oracle_one O3_ok (trueC_ok O2_ok knownOk_32)

end Go.Proofs.YtbojmpbccibmaaaGreatDoor
