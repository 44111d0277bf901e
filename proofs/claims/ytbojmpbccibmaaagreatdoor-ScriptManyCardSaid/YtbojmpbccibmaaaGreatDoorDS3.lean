/- What finds the place of an element in an order: what is known of it ahead. -/
import Derived.Test.YtbojmpbccibmaaaGreatDoorDS2a
import Derived.Test.YtbojmpbccibmaaaGreatDoorDS2b
import Derived.Test.YtbojmpbccibmaaaGreatDoorDS2c
import Derived.Test.YtbojmpbccibmaaaGreatDoorDS2d
set_option linter.unusedVariables false
set_option linter.unusedSimpArgs false
set_option linter.unusedSectionVars false
set_option linter.deprecated false
set_option maxRecDepth 100000
namespace Go.Proofs.YtbojmpbccibmaaaGreatDoor
open Go Go.Abs
variable [Fct]

theorem placeOk_all (i : Nat) (hi : i < 128) : placeOk i = true := by
  have h : (0 ≤ i ∧ i < 34) ∨ (34 ≤ i ∧ i < 48) ∨ (48 ≤ i ∧ i < 59) ∨ (59 ≤ i ∧ i < 68) ∨ (68 ≤ i ∧ i < 76) ∨ (76 ≤ i ∧ i < 83) ∨ (83 ≤ i ∧ i < 90) ∨ (90 ≤ i ∧ i < 96) ∨ (96 ≤ i ∧ i < 102) ∨ (102 ≤ i ∧ i < 107) ∨ (107 ≤ i ∧ i < 112) ∨ (112 ≤ i ∧ i < 117) ∨ (117 ≤ i ∧ i < 122) ∨ (122 ≤ i ∧ i < 126) ∨ (126 ≤ i ∧ i < 128) := by omega
  rcases h with h | h | h | h | h | h | h | h | h | h | h | h | h | h | h
  · exact List.all_eq_true.1 placeOk_0 i (List.mem_range'_1.2 (by omega))
  · exact List.all_eq_true.1 placeOk_34 i (List.mem_range'_1.2 (by omega))
  · exact List.all_eq_true.1 placeOk_48 i (List.mem_range'_1.2 (by omega))
  · exact List.all_eq_true.1 placeOk_59 i (List.mem_range'_1.2 (by omega))
  · exact List.all_eq_true.1 placeOk_68 i (List.mem_range'_1.2 (by omega))
  · exact List.all_eq_true.1 placeOk_76 i (List.mem_range'_1.2 (by omega))
  · exact List.all_eq_true.1 placeOk_83 i (List.mem_range'_1.2 (by omega))
  · exact List.all_eq_true.1 placeOk_90 i (List.mem_range'_1.2 (by omega))
  · exact List.all_eq_true.1 placeOk_96 i (List.mem_range'_1.2 (by omega))
  · exact List.all_eq_true.1 placeOk_102 i (List.mem_range'_1.2 (by omega))
  · exact List.all_eq_true.1 placeOk_107 i (List.mem_range'_1.2 (by omega))
  · exact List.all_eq_true.1 placeOk_112 i (List.mem_range'_1.2 (by omega))
  · exact List.all_eq_true.1 placeOk_117 i (List.mem_range'_1.2 (by omega))
  · exact List.all_eq_true.1 placeOk_122 i (List.mem_range'_1.2 (by omega))
  · exact List.all_eq_true.1 placeOk_126 i (List.mem_range'_1.2 (by omega))

/-- Its contract: where the order lies as it does. -/
noncomputable def placeC (args : List AV) (h : AHeap) : Option (AEnd × AHeap) :=
  match args with
  | [.sl (some (593, 0)) 3 128 128 false, .sl (some (j, 0)) 1 1 1 true] =>
    ifB (Nat.blt (Nat.div (Nat.sub j 210) 3) 128) (ifB (Nat.beq j (Nat.add 210 (Nat.mul 3 (Nat.div (Nat.sub j 210) 3)))) (ifB (subB orderL h) (some (.returned (.int .i64 (Int.ofNat (Nat.div (Nat.sub j 210) 3))), h)) none) none) none
  | _ => none

theorem orderL_in : rowsIn 594 orderL = true := by kernel_rfl

theorem placeC_ok [Val] : ∀ args h en h', placeC args h = some (en, h') → Con Tryz.prog Tryz.prog.globals.size 143 args h en h' := by
  intro args h en h' hr
  unfold placeC at hr
  split at hr
  · rename_i j
    simp only [T.ifB_eq] at hr
    split at hr
    · rename_i h1
      split at hr
      · rename_i h2
        split at hr
        · rename_i h3
          simp only [Option.some.injEq, Prod.mk.injEq] at hr
          obtain ⟨rfl, rfl⟩ := hr
          rw [blt_iff] at h1
          rw [beq_iff] at h2
          have hok := placeOk_all _ h1
          unfold placeOk at hok
          split at hok
          · rename_i m h1' hrun
            rw [eqQ_eq, beq_iff_eq] at hok
            subst hok
            have hc := con_run hm O0_ok 400 hrun
            have ha : placeArgs (Nat.div (Nat.sub j 210) 3) = [.sl (some (593, 0)) 3 128 128 false, .sl (some (j, 0)) 1 1 1 true] := by
              unfold placeArgs
              rw [show 210 + 3 * Nat.div (Nat.sub j 210) 3 = j from h2.symm]
            rw [ha] at hc
            refine con_pure hc (by rw [hng]; decide) ?_ rfl (sub_of orderL_in h3)
            rw [← ha]
            show (AV.ltns 594 (placeArgs _)) = true
            unfold placeArgs
            have hlt : 210 + 3 * Nat.div (Nat.sub j 210) 3 < 594 := by omega
            simp only [AV.ltns, AV.ltn, Bool.and_true, Bool.and_eq_true, blt_iff]
            exact ⟨by decide, hlt⟩
          · cases hok
        · cases hr
      · cases hr
    · cases hr
  · cases hr

noncomputable def O1 : Oracle := oneO 143 placeC O0
theorem O1_ok [Val] : OracleOk Tryz.prog Tryz.prog.globals.size O1 := oracle_one O0_ok placeC_ok

end Go.Proofs.YtbojmpbccibmaaaGreatDoor
