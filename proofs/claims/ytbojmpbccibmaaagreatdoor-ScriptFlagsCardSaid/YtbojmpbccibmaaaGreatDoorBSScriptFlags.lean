/-
  ScriptFlags: for every number and every choice of flags, the flags of the command s are told, each once, in whatever order: the law returns true, and its arguments read as before.
  Conditions: the row's own (the package-level variables that it lists hold what the program's text lays; the card ties them).
-/
import Derived.Test.YtbojmpbccibmaaaGreatDoorBSL
import Derived.Test.YtbojmpbccibmaaaGreatDoorBSXScriptFlagsa
import Derived.Test.YtbojmpbccibmaaaGreatDoorBSXScriptFlagsb
import Derived.Test.YtbojmpbccibmaaaGreatDoorBSCScriptFlags
set_option linter.unusedVariables false
set_option linter.unusedSimpArgs false
set_option linter.unusedSectionVars false
set_option linter.deprecated false
set_option maxRecDepth 100000
namespace Go.Proofs.YtbojmpbccibmaaaGreatDoor.scriptFlags
open Go Go.Abs Go.ChangeShapes Go.WideShapes Go.ChangeAt Go.RowKit

theorem all_ok (j : Nat) (hj : j < 4) (a b c : Bool) : flagsOk j a b c = true := by
  have h : j = 0 ∨ j = 1 ∨ j = 2 ∨ j = 3 := by omega
  rcases h with rfl | rfl | rfl | rfl
  · cases a <;> cases b <;> cases c
    · have h := flagsOk_0_false; simp only [Bool.and_eq_true] at h; exact h.2.2.2
    · have h := flagsOk_0_false; simp only [Bool.and_eq_true] at h; exact h.2.2.1
    · have h := flagsOk_0_false; simp only [Bool.and_eq_true] at h; exact h.2.1
    · have h := flagsOk_0_false; simp only [Bool.and_eq_true] at h; exact h.1
    · have h := flagsOk_0_true; simp only [Bool.and_eq_true] at h; exact h.2.2.2
    · have h := flagsOk_0_true; simp only [Bool.and_eq_true] at h; exact h.2.2.1
    · have h := flagsOk_0_true; simp only [Bool.and_eq_true] at h; exact h.2.1
    · have h := flagsOk_0_true; simp only [Bool.and_eq_true] at h; exact h.1
  · cases a <;> cases b <;> cases c
    · have h := flagsOk_1_false; simp only [Bool.and_eq_true] at h; exact h.2.2.2
    · have h := flagsOk_1_false; simp only [Bool.and_eq_true] at h; exact h.2.2.1
    · have h := flagsOk_1_false; simp only [Bool.and_eq_true] at h; exact h.2.1
    · have h := flagsOk_1_false; simp only [Bool.and_eq_true] at h; exact h.1
    · have h := flagsOk_1_true; simp only [Bool.and_eq_true] at h; exact h.2.2.2
    · have h := flagsOk_1_true; simp only [Bool.and_eq_true] at h; exact h.2.2.1
    · have h := flagsOk_1_true; simp only [Bool.and_eq_true] at h; exact h.2.1
    · have h := flagsOk_1_true; simp only [Bool.and_eq_true] at h; exact h.1
  · cases a <;> cases b <;> cases c
    · have h := flagsOk_2_false; simp only [Bool.and_eq_true] at h; exact h.2.2.2
    · have h := flagsOk_2_false; simp only [Bool.and_eq_true] at h; exact h.2.2.1
    · have h := flagsOk_2_false; simp only [Bool.and_eq_true] at h; exact h.2.1
    · have h := flagsOk_2_false; simp only [Bool.and_eq_true] at h; exact h.1
    · have h := flagsOk_2_true; simp only [Bool.and_eq_true] at h; exact h.2.2.2
    · have h := flagsOk_2_true; simp only [Bool.and_eq_true] at h; exact h.2.2.1
    · have h := flagsOk_2_true; simp only [Bool.and_eq_true] at h; exact h.2.1
    · have h := flagsOk_2_true; simp only [Bool.and_eq_true] at h; exact h.1
  · cases a <;> cases b <;> cases c
    · have h := flagsOk_3_false; simp only [Bool.and_eq_true] at h; exact h.2.2.2
    · have h := flagsOk_3_false; simp only [Bool.and_eq_true] at h; exact h.2.2.1
    · have h := flagsOk_3_false; simp only [Bool.and_eq_true] at h; exact h.2.1
    · have h := flagsOk_3_false; simp only [Bool.and_eq_true] at h; exact h.1
    · have h := flagsOk_3_true; simp only [Bool.and_eq_true] at h; exact h.2.2.2
    · have h := flagsOk_3_true; simp only [Bool.and_eq_true] at h; exact h.2.2.1
    · have h := flagsOk_3_true; simp only [Bool.and_eq_true] at h; exact h.2.1
    · have h := flagsOk_3_true; simp only [Bool.and_eq_true] at h; exact h.1

theorem walk (a0 : Int) (a1 a2 a3 : Bool) (w0 : (Lit.int .u8 a0).wf = true) (w : World) (hw : Laid w) :
    Calls Tryz.prog 14 #[.int .u8 a0, .bool a1, .bool a2, .bool a3] w fun e w' => e = .returned (.bool true) ∧ Below w.heap.size w w' := by
  obtain ⟨h0, h1⟩ := u8_range w0
  have key : ∃ j i : Nat, j < 4 ∧ (numCls j)[i]? = some a0 := by
    by_cases c1 : a0 < 1
    · exact ⟨0, _, by omega, span_at (a := 0) (n := 1) (by omega) (by omega)⟩
    · by_cases c2 : a0 < 10
      · exact ⟨1, _, by omega, span_at (a := 1) (n := 9) (by omega) (by omega)⟩
      · by_cases c3 : a0 < 100
        · exact ⟨2, _, by omega, span_at (a := 10) (n := 90) (by omega) (by omega)⟩
        · exact ⟨3, _, by omega, span_at (a := 100) (n := 156) (by omega) (by omega)⟩
  obtain ⟨j, i, hj, hi⟩ := key
  letI : Val := ⟨fun _ => i⟩
  exact calls_true O4_ok (all_ok j hj a1 a2 a3) (fun φ => ⟨_, _, rfl, ⟨a0, hi, rfl⟩, _, _, rfl, rfl, _, _, rfl, rfl, _, [], rfl, rfl, rfl⟩) hw

theorem contract (H : Type) (enc : TypeId × Value → H) (W : World) (base : Nat) (args : Array Value) (ds gs : List (DataW H)) (before : List MemPlace)
    (hval : ∀ (j : Nat) t v, Tryz.f14.params[j]? = some t → args[j]? = some v → Value.okWide Tryz.prog W .any base t v)
    (hW : DataW.Whole enc Tryz.prog Tryz.f14.params.toList Rows.scriptFlagsSpec.vars false W args.toList ds gs before) (hL : laidMetH Tryz.prog Rows.scriptFlagsRow.laid W) :
    Calls Tryz.prog 14 args W fun e W' => ∃ v, e = .returned v ∧ Rows.scriptFlagsSpec.post enc Tryz.prog Tryz.f14 false true false false W args v W' := by
  have hW' := hW
  obtain ⟨p, q, hA0, hV, rfl, hfz, hnd⟩ := hW
  have hA : DataW.TrodAll enc Tryz.prog W 0 (fun _ => true) true Tryz.f14.params.toList args.toList ds p := hA0
  rw [Tryz.params14] at hA hval
  obtain ⟨v0, vs0, d0, ds0, p0, q0, hargs, rfl, rfl, h0, r0⟩ := trodAll_cons hA
  obtain ⟨v1, vs1, d1, ds1, p1, q1, rfl, rfl, rfl, h1, r1⟩ := trodAll_cons r0
  obtain ⟨v2, vs2, d2, ds2, p2, q2, rfl, rfl, rfl, h2, r2⟩ := trodAll_cons r1
  obtain ⟨v3, vs3, d3, ds3, p3, q3, rfl, rfl, rfl, h3, r3⟩ := trodAll_cons r2
  obtain ⟨rfl, rfl, rfl⟩ := trodAll_nil r3
  obtain rfl : args = #[v0, v1, v2, v3] := by cases args; simp_all
  obtain ⟨rfl, rfl⟩ := trodVars_none hV
  obtain ⟨a0, rfl, rfl, rfl, w0⟩ := open_int Tryz.underlying5 (hval 0 5 v0 rfl rfl) h0
  obtain ⟨a1, rfl, rfl, rfl⟩ := open_bool Tryz.underlying4 (hval 1 4 v1 rfl rfl) h1
  obtain ⟨a2, rfl, rfl, rfl⟩ := open_bool Tryz.underlying4 (hval 2 4 v2 rfl rfl) h2
  obtain ⟨a3, rfl, rfl, rfl⟩ := open_bool Tryz.underlying4 (hval 3 4 v3 rfl rfl) h3
  clear hA0
  simp only [List.append_nil] at hW'
  refine (walk a0 a1 a2 a3 w0 W (laid_of hL)).mono fun e W' ⟨he, hg⟩ => ?_
  subst he
  exact ⟨_, rfl, _, _, _, [], _, [], hW', trodAll_cons_mk (shut_bool Tryz.underlying4 _) trodAll_mk0, (trodAll_cons_mk (shut_int Tryz.underlying5 w0) (trodAll_cons_mk (shut_bool Tryz.underlying4 _) (trodAll_cons_mk (shut_bool Tryz.underlying4 _) (trodAll_cons_mk (shut_bool Tryz.underlying4 _) trodAll_mk0)))), rfl, hg.frame _, fun h => by cases h⟩

theorem laid_met (os : Os) : laidMet Tryz.prog Rows.scriptFlagsRow.laid ((laidWorld os).forCall (fun _ _ => 0) ⟨#[], #[.int .u8 0, .bool false, .bool false, .bool false], []⟩).memory :=
  laidMet_of_run' 8 (by kernel_rfl) (by kernel_rfl)
theorem reads (os : Os) {H : Type} (enc : TypeId × Value → H) : ∃ places, DataW.whole enc Tryz.prog ((laidWorld os).forCall (fun _ _ => 0) ⟨#[], #[.int .u8 0, .bool false, .bool false, .bool false], []⟩).memory Tryz.f14.params.toList Rows.scriptFlagsSpec.vars false (#[.int .u8 0, .bool false, .bool false, .bool false] : Array Value).toList 8 = some ([.lit (.int .u8 0), .lit (.bool false), .lit (.bool false), .lit (.bool false)], [], places) :=
  ⟨[], by kernel_rfl⟩

theorem lifted (os : Os) (started : os.Started) (H : Type) (enc : TypeId × Value → H) (F : Stop.Interp) :
    ReturnsInHanded {} Tryz.checked os 14 .any ((OpenSpec.ofChange Rows.scriptFlagsSpec).preRow enc Tryz.prog Tryz.f14 Rows.scriptFlagsRow.domain false Rows.scriptFlagsRow.laid) (((OpenSpec.ofChange Rows.scriptFlagsSpec).at F).post enc Tryz.prog Tryz.f14 false true false false) := by
  obtain ⟨places, hx⟩ := reads os enc
  refine returnsInHanded_of_row (C := Tryz.checked) (s := OpenSpec.ofChange Rows.scriptFlagsSpec) own started (by kernel_rfl) Tryz.func14
    (witness_row_at (enc := enc) (C := Tryz.checked) false (laidWorld os) #[.int .u8 0, .bool false, .bool false, .bool false] rfl (by kernel_rfl) (by kernel_rfl) (by kernel_rfl)
      (OpenSpec.preRow_of_cond 8 hx (by kernel_rfl) (fun k hk => by cases hk) (by kernel_rfl) (laid_met os))) ?_
  intro W base args ds gs before hval hW _ _ _ hL _ _
  exact contract H enc W base args ds gs before hval hW hL

theorem said : Rows.ScriptFlagsSaid :=
  OpenClaim.holds_of_cond 14 Tryz.f14 rfl rfl rfl rfl rfl rfl rfl ⟨rfl, rfl, rfl, rfl, rfl⟩ rfl rfl rfl rfl rfl (by as_aux_lemma => kernel_rfl) Tryz.func14 closed
    (of_decide_eq_true (by as_aux_lemma => kernel_rfl)) (by as_aux_lemma => unfold Func.isWrapper; first | (rw [if_pos (by decide +kernel)]; kernel_rfl) | (rw [if_neg (by decide +kernel)]; exact ⟨rfl, rfl⟩))
    (fun os started H enc _ F => by rw [OpenClaim.pre_eq_preRow]; exact lifted os started H enc F)

theorem plain (f : FuncId) (fn : Func) (hf : Tryz.pinned.checked.prog.funcNamed "redactor/redactorlaw15.ScriptFlags" = some f) (hfn : Tryz.pinned.checked.prog.funcs[f]? = some fn) :
    true = Tryz.pinned.checked.prog.looks [] ∧ ∀ (j : Nat) t, fn.params[j]? = some t → Tryz.pinned.checked.prog.wantsStandIn t = false := by
  obtain rfl : f = 14 := Option.some.inj ((show Tryz.prog.funcNamed "redactor/redactorlaw15.ScriptFlags" = some 14 by kernel_rfl).symm.trans hf) |>.symm
  obtain rfl : fn = Tryz.f14 := (Option.some.inj (Tryz.func14.symm.trans hfn)).symm
  refine ⟨by kernel_rfl, fun j t ht => ?_⟩
  rw [Tryz.params14] at ht
  have ht' := Array.mem_of_getElem? ht
  simp only [List.mem_toArray, List.mem_cons, List.mem_nil_iff, or_false] at ht'
  rcases ht' with rfl | rfl | rfl | rfl
  · exact (show Tryz.prog.wantsStandIn 5 = false by kernel_rfl)
  · exact (show Tryz.prog.wantsStandIn 4 = false by kernel_rfl)
  · exact (show Tryz.prog.wantsStandIn 4 = false by kernel_rfl)
  · exact (show Tryz.prog.wantsStandIn 4 = false by kernel_rfl)

/-- ████ THE CARD ████ -/
theorem card : Rows.ScriptFlagsCardSaid :=
  Claim7.holds_tied_plain_at .later [] _ _ _ _ said (fun _ h => by cases h) (by as_aux_lemma => kernel_rfl) (fun _ h => by cases h) scriptFlags_row_tie rfl ⟨rfl, rfl⟩ (by as_aux_lemma => kernel_rfl) rfl plain (by as_aux_lemma => kernel_rfl)
#print axioms card
end Go.Proofs.YtbojmpbccibmaaaGreatDoor.scriptFlags
