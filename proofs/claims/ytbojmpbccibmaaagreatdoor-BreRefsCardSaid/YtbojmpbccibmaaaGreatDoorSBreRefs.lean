/-
  BreRefs: for every number of groups and every digit, what a group had may be asked for where it has ended, and nowhere else: the law returns true, and its arguments read as before.
  Conditions: the row's own (the package-level variables that it lists hold what the program's text lays; the card ties them).
-/
import Derived.Test.YtbojmpbccibmaaaGreatDoorSL
import Derived.Test.YtbojmpbccibmaaaGreatDoorSXBreRefsa
import Derived.Test.YtbojmpbccibmaaaGreatDoorSXBreRefsb
import Derived.Test.YtbojmpbccibmaaaGreatDoorSXBreRefsc
import Derived.Test.YtbojmpbccibmaaaGreatDoorSCBreRefs
set_option linter.unusedVariables false
set_option linter.unusedSimpArgs false
set_option linter.unusedSectionVars false
set_option linter.deprecated false
set_option maxRecDepth 100000
namespace Go.Proofs.YtbojmpbccibmaaaGreatDoor.breRefs
open Go Go.Abs Go.ChangeShapes Go.WideShapes Go.ChangeAt Go.RowKit

theorem all_ok (i j : Nat) (hi : i < 10) (hj : j < 9) : breRefsOk i j = true := by
  have h : i = 0 ∨ i = 1 ∨ i = 2 ∨ i = 3 ∨ i = 4 ∨ i = 5 ∨ i = 6 ∨ i = 7 ∨ i = 8 ∨ i = 9 := by omega
  rcases h with rfl | rfl | rfl | rfl | rfl | rfl | rfl | rfl | rfl | rfl
  · have h : (0 ≤ j ∧ j < 3) ∨ (3 ≤ j ∧ j < 6) ∨ (6 ≤ j ∧ j < 9) := by omega
    rcases h with h | h | h
    · exact List.all_eq_true.1 breRefsOk_0_0 j (List.mem_range'_1.2 (by omega))
    · exact List.all_eq_true.1 breRefsOk_0_3 j (List.mem_range'_1.2 (by omega))
    · exact List.all_eq_true.1 breRefsOk_0_6 j (List.mem_range'_1.2 (by omega))
  · have h : (0 ≤ j ∧ j < 3) ∨ (3 ≤ j ∧ j < 6) ∨ (6 ≤ j ∧ j < 9) := by omega
    rcases h with h | h | h
    · exact List.all_eq_true.1 breRefsOk_1_0 j (List.mem_range'_1.2 (by omega))
    · exact List.all_eq_true.1 breRefsOk_1_3 j (List.mem_range'_1.2 (by omega))
    · exact List.all_eq_true.1 breRefsOk_1_6 j (List.mem_range'_1.2 (by omega))
  · have h : (0 ≤ j ∧ j < 3) ∨ (3 ≤ j ∧ j < 6) ∨ (6 ≤ j ∧ j < 9) := by omega
    rcases h with h | h | h
    · exact List.all_eq_true.1 breRefsOk_2_0 j (List.mem_range'_1.2 (by omega))
    · exact List.all_eq_true.1 breRefsOk_2_3 j (List.mem_range'_1.2 (by omega))
    · exact List.all_eq_true.1 breRefsOk_2_6 j (List.mem_range'_1.2 (by omega))
  · have h : (0 ≤ j ∧ j < 3) ∨ (3 ≤ j ∧ j < 6) ∨ (6 ≤ j ∧ j < 9) := by omega
    rcases h with h | h | h
    · exact List.all_eq_true.1 breRefsOk_3_0 j (List.mem_range'_1.2 (by omega))
    · exact List.all_eq_true.1 breRefsOk_3_3 j (List.mem_range'_1.2 (by omega))
    · exact List.all_eq_true.1 breRefsOk_3_6 j (List.mem_range'_1.2 (by omega))
  · have h : (0 ≤ j ∧ j < 3) ∨ (3 ≤ j ∧ j < 6) ∨ (6 ≤ j ∧ j < 9) := by omega
    rcases h with h | h | h
    · exact List.all_eq_true.1 breRefsOk_4_0 j (List.mem_range'_1.2 (by omega))
    · exact List.all_eq_true.1 breRefsOk_4_3 j (List.mem_range'_1.2 (by omega))
    · exact List.all_eq_true.1 breRefsOk_4_6 j (List.mem_range'_1.2 (by omega))
  · have h : (0 ≤ j ∧ j < 3) ∨ (3 ≤ j ∧ j < 6) ∨ (6 ≤ j ∧ j < 9) := by omega
    rcases h with h | h | h
    · exact List.all_eq_true.1 breRefsOk_5_0 j (List.mem_range'_1.2 (by omega))
    · exact List.all_eq_true.1 breRefsOk_5_3 j (List.mem_range'_1.2 (by omega))
    · exact List.all_eq_true.1 breRefsOk_5_6 j (List.mem_range'_1.2 (by omega))
  · have h : (0 ≤ j ∧ j < 3) ∨ (3 ≤ j ∧ j < 6) ∨ (6 ≤ j ∧ j < 9) := by omega
    rcases h with h | h | h
    · exact List.all_eq_true.1 breRefsOk_6_0 j (List.mem_range'_1.2 (by omega))
    · exact List.all_eq_true.1 breRefsOk_6_3 j (List.mem_range'_1.2 (by omega))
    · exact List.all_eq_true.1 breRefsOk_6_6 j (List.mem_range'_1.2 (by omega))
  · have h : (0 ≤ j ∧ j < 3) ∨ (3 ≤ j ∧ j < 6) ∨ (6 ≤ j ∧ j < 9) := by omega
    rcases h with h | h | h
    · exact List.all_eq_true.1 breRefsOk_7_0 j (List.mem_range'_1.2 (by omega))
    · exact List.all_eq_true.1 breRefsOk_7_3 j (List.mem_range'_1.2 (by omega))
    · exact List.all_eq_true.1 breRefsOk_7_6 j (List.mem_range'_1.2 (by omega))
  · have h : (0 ≤ j ∧ j < 3) ∨ (3 ≤ j ∧ j < 6) ∨ (6 ≤ j ∧ j < 9) := by omega
    rcases h with h | h | h
    · exact List.all_eq_true.1 breRefsOk_8_0 j (List.mem_range'_1.2 (by omega))
    · exact List.all_eq_true.1 breRefsOk_8_3 j (List.mem_range'_1.2 (by omega))
    · exact List.all_eq_true.1 breRefsOk_8_6 j (List.mem_range'_1.2 (by omega))
  · have h : (0 ≤ j ∧ j < 3) ∨ (3 ≤ j ∧ j < 6) ∨ (6 ≤ j ∧ j < 9) := by omega
    rcases h with h | h | h
    · exact List.all_eq_true.1 breRefsOk_9_0 j (List.mem_range'_1.2 (by omega))
    · exact List.all_eq_true.1 breRefsOk_9_3 j (List.mem_range'_1.2 (by omega))
    · exact List.all_eq_true.1 breRefsOk_9_6 j (List.mem_range'_1.2 (by omega))

theorem walk (a0 a1 : Int) (w0 : (Lit.int .u8 a0).wf = true) (w1 : (Lit.int .u8 a1).wf = true) (w : World) (hw : Laid w) :
    Calls Tryz.prog 9 #[.int .u8 a0, .int .u8 a1] w fun e w' => e = .returned (.bool true) ∧ Below w.heap.size w w' := by
  obtain ⟨j0, hj0⟩ := rests_at w0 10
  obtain ⟨j1, hj1⟩ := rests_at w1 9
  letI : Val := ⟨fun i => if i = 0 then j0 else j1⟩
  exact calls_true O3_ok (all_ok (a0.toNat % 10) (a1.toNat % 9) (Nat.mod_lt _ (by decide)) (Nat.mod_lt _ (by decide))) (fun φ => two_vals hj0 hj1) hw

theorem contract (H : Type) (enc : TypeId × Value → H) (W : World) (base : Nat) (args : Array Value) (ds gs : List (DataW H)) (before : List MemPlace)
    (hval : ∀ (j : Nat) t v, Tryz.f9.params[j]? = some t → args[j]? = some v → Value.okWide Tryz.prog W .any base t v)
    (hW : DataW.Whole enc Tryz.prog Tryz.f9.params.toList Rows.breRefsSpec.vars false W args.toList ds gs before) (hL : laidMetH Tryz.prog Rows.breRefsRow.laid W) :
    Calls Tryz.prog 9 args W fun e W' => ∃ v, e = .returned v ∧ Rows.breRefsSpec.post enc Tryz.prog Tryz.f9 false true false false W args v W' := by
  have hW' := hW
  obtain ⟨p, q, hA0, hV, rfl, hfz, hnd⟩ := hW
  have hA : DataW.TrodAll enc Tryz.prog W 0 (fun _ => true) true Tryz.f9.params.toList args.toList ds p := hA0
  rw [Tryz.params9] at hA hval
  obtain ⟨v0, vs0, d0, ds0, p0, q0, hargs, rfl, rfl, h0, r0⟩ := trodAll_cons hA
  obtain ⟨v1, vs1, d1, ds1, p1, q1, rfl, rfl, rfl, h1, r1⟩ := trodAll_cons r0
  obtain ⟨rfl, rfl, rfl⟩ := trodAll_nil r1
  obtain rfl : args = #[v0, v1] := by cases args; simp_all
  obtain ⟨rfl, rfl⟩ := trodVars_none hV
  obtain ⟨a0, rfl, rfl, rfl, w0⟩ := open_int Tryz.underlying5 (hval 0 5 v0 rfl rfl) h0
  obtain ⟨a1, rfl, rfl, rfl, w1⟩ := open_int Tryz.underlying5 (hval 1 5 v1 rfl rfl) h1
  clear hA0
  simp only [List.append_nil] at hW'
  refine (walk a0 a1 w0 w1 W (laid_of hL)).mono fun e W' ⟨he, hg⟩ => ?_
  subst he
  exact ⟨_, rfl, _, _, _, [], [], [], hW', trodAll_cons_mk (shut_bool Tryz.underlying4 _) trodAll_mk0, (trodAll_cons_mk (shut_int Tryz.underlying5 w0) (trodAll_cons_mk (shut_int Tryz.underlying5 w1) trodAll_mk0)), rfl, hg.frame _, fun h => by cases h⟩

theorem laid_met (os : Os) : laidMet Tryz.prog Rows.breRefsRow.laid ((laidWorld os).forCall (fun _ _ => 0) ⟨#[], #[.int .u8 0, .int .u8 0], []⟩).memory :=
  laidMet_of_run' 8 (by kernel_rfl) (by kernel_rfl)
theorem reads (os : Os) {H : Type} (enc : TypeId × Value → H) : ∃ places, DataW.whole enc Tryz.prog ((laidWorld os).forCall (fun _ _ => 0) ⟨#[], #[.int .u8 0, .int .u8 0], []⟩).memory Tryz.f9.params.toList Rows.breRefsSpec.vars false (#[.int .u8 0, .int .u8 0] : Array Value).toList 8 = some ([.lit (.int .u8 0), .lit (.int .u8 0)], [], places) :=
  ⟨[], by kernel_rfl⟩

theorem lifted (os : Os) (started : os.Started) (H : Type) (enc : TypeId × Value → H) (F : Stop.Interp) :
    ReturnsInHanded {} Tryz.checked os 9 .any ((OpenSpec.ofChange Rows.breRefsSpec).preRow enc Tryz.prog Tryz.f9 Rows.breRefsRow.domain false Rows.breRefsRow.laid) (((OpenSpec.ofChange Rows.breRefsSpec).at F).post enc Tryz.prog Tryz.f9 false true false false) := by
  obtain ⟨places, hx⟩ := reads os enc
  refine returnsInHanded_of_row (C := Tryz.checked) (s := OpenSpec.ofChange Rows.breRefsSpec) own started (by kernel_rfl) Tryz.func9
    (witness_row_at (enc := enc) (C := Tryz.checked) false (laidWorld os) #[.int .u8 0, .int .u8 0] rfl (by kernel_rfl) (by kernel_rfl) (by kernel_rfl)
      (OpenSpec.preRow_of_cond 8 hx (by kernel_rfl) (fun k hk => by cases hk) (by kernel_rfl) (laid_met os))) ?_
  intro W base args ds gs before hval hW _ _ _ hL _ _
  exact contract H enc W base args ds gs before hval hW hL

theorem said : Rows.BreRefsSaid :=
  OpenClaim.holds_of_cond 9 Tryz.f9 rfl rfl rfl rfl rfl rfl rfl ⟨rfl, rfl, rfl, rfl, rfl⟩ rfl rfl rfl rfl rfl (by as_aux_lemma => kernel_rfl) Tryz.func9 closed
    (of_decide_eq_true (by as_aux_lemma => kernel_rfl)) (by as_aux_lemma => unfold Func.isWrapper; first | (rw [if_pos (by decide +kernel)]; kernel_rfl) | (rw [if_neg (by decide +kernel)]; exact ⟨rfl, rfl⟩))
    (fun os started H enc _ F => by rw [OpenClaim.pre_eq_preRow]; exact lifted os started H enc F)

theorem plain (f : FuncId) (fn : Func) (hf : Tryz.pinned.checked.prog.funcNamed "redactor/redactorlaw11.BreRefs" = some f) (hfn : Tryz.pinned.checked.prog.funcs[f]? = some fn) :
    true = Tryz.pinned.checked.prog.looks [] ∧ ∀ (j : Nat) t, fn.params[j]? = some t → Tryz.pinned.checked.prog.wantsStandIn t = false := by
  obtain rfl : f = 9 := Option.some.inj ((show Tryz.prog.funcNamed "redactor/redactorlaw11.BreRefs" = some 9 by kernel_rfl).symm.trans hf) |>.symm
  obtain rfl : fn = Tryz.f9 := (Option.some.inj (Tryz.func9.symm.trans hfn)).symm
  refine ⟨by kernel_rfl, fun j t ht => ?_⟩
  rw [Tryz.params9] at ht
  have ht' := Array.mem_of_getElem? ht
  simp only [List.mem_toArray, List.mem_cons, List.mem_nil_iff, or_false] at ht'
  rcases ht' with rfl | rfl
  · exact (show Tryz.prog.wantsStandIn 5 = false by kernel_rfl)
  · exact (show Tryz.prog.wantsStandIn 5 = false by kernel_rfl)

/-- ████ THE CARD ████ -/
theorem card : Rows.BreRefsCardSaid :=
  Claim7.holds_tied_plain_at .later [] _ _ _ _ said (fun _ h => by cases h) (by as_aux_lemma => kernel_rfl) (fun _ h => by cases h) breRefs_row_tie rfl ⟨rfl, rfl⟩ (by as_aux_lemma => kernel_rfl) rfl plain (by as_aux_lemma => kernel_rfl)
#print axioms card
end Go.Proofs.YtbojmpbccibmaaaGreatDoor.breRefs
