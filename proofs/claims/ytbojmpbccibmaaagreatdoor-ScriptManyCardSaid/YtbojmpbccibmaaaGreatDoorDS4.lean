/- The table of no definition is made: what is known of it ahead. -/
import Derived.Test.YtbojmpbccibmaaaGreatDoorDS3
set_option linter.unusedVariables false
set_option linter.unusedSimpArgs false
set_option linter.unusedSectionVars false
set_option linter.deprecated false
set_option maxRecDepth 100000
namespace Go.Proofs.YtbojmpbccibmaaaGreatDoor
open Go Go.Abs
variable [Fct]

noncomputable def okDead (r : Option (AEnd × AHeap)) : Bool := match r with
  | some (.returned (.ptr (some _)), _) => true
  | _ => false
noncomputable def nilH : AHeap := ⟨.nil, 20⟩
theorem plainOk_18 : okDead ((RR O1 2000).call 18 [] nilH) = true := by kernel_rfl
theorem plainOk_26 : okDead ((RR O1 2000).call 26 [] nilH) = true := by kernel_rfl
theorem plainOk_30 : okDead ((RR O1 2000).call 30 [] nilH) = true := by kernel_rfl

/-- Something is made, of which nothing more is asked. -/
noncomputable def deadC (args : List AV) (h : AHeap) : Option (AEnd × AHeap) :=
  match args with
  | [] => some (.returned (.ptr (some (h.next, 0))), ⟨h.tbl, Nat.succ h.next⟩)
  | _ => none

theorem deadC_ok [Val] {O : Oracle} (hO : OracleOk Tryz.prog Tryz.prog.globals.size O) {n : Nat} {f : FuncId} (hok : okDead ((RR O n).call f [] nilH) = true) : ∀ args h en h', deadC args h = some (en, h') → Con Tryz.prog Tryz.prog.globals.size f args h en h' := by
  intro args h en h' hr
  unfold deadC at hr
  split at hr
  · simp only [Option.some.injEq, Prod.mk.injEq] at hr
    obtain ⟨rfl, rfl⟩ := hr
    unfold okDead at hok
    split at hok
    · rename_i p h1 hrun
      obtain ⟨i, o⟩ := p
      exact con_dead (con_run hm hO n hrun) (by rw [hng]; decide) rfl (sub_nil 20 h)
    · cases hok
  · cases hr

noncomputable def O2 : Oracle := oneO 18 deadC (oneO 26 deadC (oneO 30 deadC O1))
theorem O2_ok [Val] : OracleOk Tryz.prog Tryz.prog.globals.size O2 :=
  oracle_one (oracle_one (oracle_one O1_ok (deadC_ok O1_ok plainOk_30)) (deadC_ok O1_ok plainOk_26)) (deadC_ok O1_ok plainOk_18)

end Go.Proofs.YtbojmpbccibmaaaGreatDoor
