/- The chapters' examples hold: what is known of them ahead. -/
import Derived.Test.YtbojmpbccibmaaaGreatDoorDS4
set_option linter.unusedVariables false
set_option linter.unusedSimpArgs false
set_option linter.unusedSectionVars false
set_option linter.deprecated false
set_option maxRecDepth 100000
namespace Go.Proofs.YtbojmpbccibmaaaGreatDoor
open Go Go.Abs
variable [Fct]

noncomputable def okTrue (r : Option (AEnd × AHeap)) : Bool := match r with
  | some (.returned (.bool true), _) => true
  | _ => false
/-- The powers of ten that strconv keeps. -/
def pow10L : List Int := [1, 10, 100, 1000, 10000, 100000, 1000000, 10000000, 100000000, 1000000000, 10000000000, 100000000000, 1000000000000, 10000000000000, 100000000000000, 1000000000000000, 10000000000000000, 100000000000000000, 1000000000000000000, 10000000000000000000]
def baseL : Abs.Rows := [(0, pow10L.map (AV.int .u64), 0)]
noncomputable def baseH : AHeap := heapOf 20 baseL
theorem baseL_in : rowsIn 20 baseL = true := by kernel_rfl
theorem knownOk_22 : okTrue ((RR O2 2000).call 22 [] baseH) = true := by kernel_rfl
theorem knownOk_28 : okTrue ((RR O2 2000).call 28 [] baseH) = true := by kernel_rfl

/-- True is told, and nothing is changed. -/
noncomputable def trueC (args : List AV) (h : AHeap) : Option (AEnd × AHeap) :=
  match args with
  | [] => ifB (subB baseL h) (some (.returned (.bool true), h)) none
  | _ => none

theorem trueC_ok [Val] {O : Oracle} (hO : OracleOk Tryz.prog Tryz.prog.globals.size O) {n : Nat} {f : FuncId} (hok : okTrue ((RR O n).call f [] baseH) = true) : ∀ args h en h', trueC args h = some (en, h') → Con Tryz.prog Tryz.prog.globals.size f args h en h' := by
  intro args h en h' hr
  unfold trueC at hr
  split at hr
  · rw [T.ifB_eq] at hr
    split at hr
    · rename_i hs
      simp only [Option.some.injEq, Prod.mk.injEq] at hr
      obtain ⟨rfl, rfl⟩ := hr
      unfold okTrue at hok
      split at hok
      · rename_i h1 hrun
        exact con_pure (con_run hm hO n hrun) (by rw [hng]; decide) rfl rfl (sub_of baseL_in hs)
      · cases hok
    · cases hr
  · cases hr

noncomputable def O3 : Oracle := oneO 22 trueC (oneO 28 trueC O2)
theorem O3_ok [Val] : OracleOk Tryz.prog Tryz.prog.globals.size O3 :=
  oracle_one (oracle_one O2_ok (trueC_ok O2_ok knownOk_28)) (trueC_ok O2_ok knownOk_22)

/-- A world in which the powers of ten lie as the program's text lays them. -/
def Laid (w : World) : Prop := ∃ vs u fz, w.heap[0]? = some (.cells vs u fz) ∧ 20 ≤ vs.size ∧ ∀ (k : Nat) (n : Int), pow10L[k]? = some n → vs[k]? = some (.int .u64 n)

/-- From the run to the call: true is told, and nothing that was there is changed. -/
theorem calls_true [Val] {O : Oracle} (hO : OracleOk Tryz.prog Tryz.prog.globals.size O) {n : Nat} {f : FuncId} {args : List AV} (hok : okTrue ((RR O n).call f args baseH) = true) {cargs : Array Value} (hv : ∀ φ, VRels φ args cargs.toList) {w : World} (hw : Laid w) :
    Calls Tryz.prog f cargs w fun e w' => e = .returned (.bool true) ∧ RowKit.Below w.heap.size w w' := by
  unfold okTrue at hok
  split at hok
  · rename_i h1 hrun
    refine enter_rows (con_run hm hO n hrun) (by rw [hng]; decide) baseL_in (fun x hx => ?_) hv (fun φ u hu => hu)
    unfold baseL at hx
    rw [List.mem_singleton] at hx
    subst hx
    obtain ⟨vs, u, fz, h1, h2, h3⟩ := hw
    refine ⟨rfl, vs, u, fz, h1, by simpa [pow10L] using h2, fun k a ha => ?_⟩
    rw [List.getElem?_map, Option.map_eq_some_iff] at ha
    obtain ⟨m, hm', rfl⟩ := ha
    exact ⟨_, h3 k m hm', fun φ => rfl⟩
  · cases hok

end Go.Proofs.YtbojmpbccibmaaaGreatDoor
