/- ScriptMany: the closed facts of its row. -/
import Derived.Test.YtbojmpbccibmaaaGreatDoorDSL
set_option linter.unusedVariables false
set_option linter.unusedSimpArgs false
set_option linter.unusedSectionVars false
set_option linter.deprecated false
set_option maxRecDepth 100000
namespace Go.Proofs.YtbojmpbccibmaaaGreatDoor.scriptMany
open Go Go.Abs
set_option maxHeartbeats 16000000 in
theorem closed : joinedFacts Tryz.pinned.checked.prog 17 Tryz.f17 (OpenSpec.ofChange Rows.scriptManySpec).bare Rows.scriptManyRow = true := by
  unfold joinedFacts
  simp only [Bool.and_eq_true]
  repeat' (refine And.intro ?_ ?_)
  all_goals (as_aux_lemma => kernel_rfl)
end Go.Proofs.YtbojmpbccibmaaaGreatDoor.scriptMany
