/- The abstract machine: its runner is sound. -/
import Derived.Test.YtbojmpbccibmaaaGreatDoorBAbs25
set_option linter.unusedVariables false
set_option linter.unusedSimpArgs false
set_option linter.unusedSectionVars false
set_option linter.deprecated false
namespace Go.Abs
variable [Val]

/-- What is known ahead of functions holds. -/
def OracleOk (P : Program) (ng : Nat) (O : Oracle) : Prop :=
  ∀ f args h en h', O f args h = some (en, h') → Callable P f ∧ ∀ φ w cargs, HRel ng φ h w → VRels φ args cargs.toList →
    Calls P f cargs w fun e w' => ∃ φ', HRel ng φ' h' w' ∧ Stp φ h w φ' h' w' ∧ EndRel φ' en e

theorem runner_ok {P : Program} {ng : Nat} (hP : P.globals.size = ng) {live : FuncId → List Nat} {O : Oracle} (hO : OracleOk P ng O) (hDraw : ∀ R, CallOk P ng R → DrawOk P ng R) :
    ∀ n, CallOk P ng (runner (progOf P live O) n) ∧ CallDOk P ng (runner (progOf P live O) n) ∧ LoopOk P ng (runner (progOf P live O) n)
  | 0 => by
    refine ⟨?_, ?_, ?_⟩
    · intro f args h en h' hr
      cases hr
    · intro f args m h en m' h' hr
      cases hr
    · intro F b x s s' hr
      cases hr
  | n + 1 => by
    obtain ⟨hR, hRD, hL⟩ := runner_ok hP hO hDraw n
    have hD := hDraw _ hR
    refine ⟨fun f args h en h' hr => ?_, fun f args m h en m' h' hr => ?_, fun F b x s s' hr B φ a cs w hs => ?_⟩
    · have hr' : callStep (progOf P live O) (runner (progOf P live O) n) f args h = some (en, h') := hr
      unfold callStep at hr'
      split at hr'
      · rename_i r ho
        cases hr'
        exact hO f args h en h' ho
      · split at hr'
        · rename_i fn hf
          exact call_ok hP hR hRD hL hD hf hr'
        · cases hr'
    · have hr' : callDStep (progOf P live O) (runner (progOf P live O) n) f args m h = some (en, m', h') := hr
      unfold callDStep at hr'
      split at hr'
      · rename_i fn hf
        exact callD_ok hP hR hL hD hf hr'
      · cases hr'
    · have hr' : loopStep (runner (progOf P live O) n) (cCode P F b) s = some (x, s') := hr
      exact loop_ok hP hR hL hD F b x s s' hr' B φ a cs w hs

end Go.Abs
