/- The abstract machine: all operations that write nothing old, together. -/
import Derived.Test.YtbojmpbccibmaaaGreatDoorBAbs13
set_option linter.unusedVariables false
set_option linter.unusedSimpArgs false
set_option linter.unusedSectionVars false
set_option linter.deprecated false
namespace Go.Abs
variable [Val]

section
variable {P : Program} {φ : Phi} {c : Ctx} {e : Env} {r : Regs} {S : Operand → Prop} {ρ : Operand → Value}

theorem opdO_ok (H : OpsOk P φ c e r S ρ) {x : Option Operand} {y : Option Opd} (hS : ∀ z, x = some z → S z) (h : cOpdO P c x = some y) : ORel φ e r y (x.map ρ) := by
  cases x with
  | none => simp only [cOpdO, Option.some.injEq] at h; subst h; rfl
  | some x =>
    simp only [cOpdO, Option.map_eq_some_iff] at h
    obtain ⟨z, hz, rfl⟩ := h
    exact ⟨_, rfl, H _ _ (hS _ rfl) hz⟩

/-- What a call of a function without a body comes to. -/
theorem run_call_prim (H : OpsOk P φ c e r S ρ) {o : Oper} {k : Call} {f : FuncId} (hS0 : S (.func f)) {fn : Func} {E : Array Value → Sem Value} (ho : o.op = .call k) (hc : k.callee = .value (.func f)) (hf : P.funcs[f]? = some fn)
    (hname : fn.name ≠ "runtime.NumGoroutine") (hb : fn.body.isSome = false) (hn : (Extern.findNext fn).isNone = true) (he : Extern.find fn = some E) (w : World) :
    (execOp ρ o).run P w = (valued (E (k.args.map ρ))).run P w := by
  have hv := H (.func f) (.func f) hS0 rfl
  obtain ⟨a, b, hfv, ha, hb'⟩ := hv
  simp only [VRels] at ha hb'
  have ha' : a = #[] := Array.toList_eq_nil_iff.1 ha
  have hb'' : b = #[] := Array.toList_eq_nil_iff.1 hb'
  subst ha'; subst hb''
  have hrun := run_callFunc_extern (P := P) (f := f) hf (by simpa using hname) (by simpa using hb) (by simpa using hn) he (k.args.map ρ) w
  simp only [execOp, ho, resolve, hc, hfv, Deferred.ofValue]
  simp [invoke, hrun]

set_option maxHeartbeats 2000000 in
theorem prim_ok (H : OpsOk P φ c e r S ρ) {o : Oper} {k : Call} {f : FuncId} {fn : Func} {p : APrim} {xs : List Opd} {d : DFn} (hS0 : S (.func f)) (hSa : ∀ x ∈ k.args.toList, S x) (ho : o.op = .call k) (hc : k.callee = .value (.func f)) (hf : P.funcs[f]? = some fn)
    (hname : fn.name ≠ "runtime.NumGoroutine") (hb : fn.body.isSome = false) (hn : (Extern.findNext fn).isNone = true) (hp : cPrim fn.name = some p) (hxs : cOpds P c k.args.toList = some xs) (h : primOp p xs = some (.d d)) :
    DOk P φ (execOp ρ o) (d.f e r) := by
  have hargs := evs_ok H _ _ hSa hxs
  have hlen : ∀ {cs : List Value} {x : AV}, VRels φ [x] cs → ∃ cv, cs = [cv] ∧ VRel φ x cv := by
    intro cs x hh
    obtain ⟨v, rr, rfl, h1, h2⟩ := hh
    simp only [VRels] at h2
    subst h2
    exact ⟨v, rfl, h1⟩
  have hone : ∀ {x : Opd}, xs = [x] → ∃ cv, k.args.map ρ = #[cv] ∧ VRel φ (x.ev e r) cv := by
    intro x hx
    subst hx
    obtain ⟨cv, h1, h2⟩ := hlen hargs
    refine ⟨cv, ?_, h2⟩
    apply Array.toList_inj.1
    simpa using h1
  have htwo : ∀ {x y : Opd}, xs = [x, y] → ∃ cv cw, k.args.map ρ = #[cv, cw] ∧ VRel φ (x.ev e r) cv ∧ VRel φ (y.ev e r) cw := by
    intro x y hx
    subst hx
    obtain ⟨cv, rr, h1, h2, h3⟩ := hargs
    obtain ⟨cw, h4, h5⟩ := hlen h3
    subst h4
    refine ⟨cv, cw, ?_, h2, h5⟩
    apply Array.toList_inj.1
    simpa using h1
  have run := fun E he w => run_call_prim (P := P) (E := E) H hS0 ho hc hf hname hb hn he w
  have load : ∀ kk x, Extern.find fn = some (Extern.Atomic.loadT (.int kk)) → xs = [x] → d = dAtomicLoad kk x → DOk P φ (execOp ρ o) (d.f e r) := by
    intro kk x he hx hd
    subst hd
    obtain ⟨cv, h1, h2⟩ := hone hx
    refine DOk.congr (run _ he) ?_
    rw [h1]
    simp only [dAtomicLoad]
    split
    · rename_i i of ex
      rw [ex] at h2
      obtain ⟨a, rfl, hp⟩ := h2
      refine ⟨hp.notUn, ?_⟩
      intro b q m vs u fz w hφ hbk hsz hm cs hcs v hv
      simp only [PtrOk, hφ] at hp
      subst hp
      cases cs with
      | nil => cases hv
      | cons cc cs =>
        simp only [oneInt] at hv
        split at hv
        · rename_i k' n
          rw [T.ifB_eq] at hv
          split at hv
          · rename_i hk
            rw [kEq_iff] at hk
            subst hk
            cases hv
            obtain ⟨cv, hc1, hc2⟩ := cells_one (v := .int k' n) (by omega) hcs rfl
            simp only [VRel] at hc2
            subst hc2
            refine ⟨.int k' n, run_valued_ok ?_, rfl⟩
            have hcell : w.cell? ⟨b, q + of, none⟩ = some (.int k' n) := by rw [cell_row hbk]; exact hc1
            change Sem.run P (do Extern.Atomic.read (.int k') (← asAddr (.pointer (some ⟨b, q + of, none⟩)))) w = _
            simp [Extern.Atomic.read, asAddr, hcell]
          · cases hv
        · cases hv
    · trivial
  unfold cPrim at hp
  split at hp
  · rename_i hnm
    cases hp
    cases h
    obtain ⟨m, hm⟩ := find_mark0 fn hnm
    exact DOk.congr (run _ hm) (.val_of (.tuple #[]) (fun w => rfl) ⟨_, rfl, rfl⟩)
  · split at hp
    · rename_i hnm
      cases hp
      match xs, h with
      | [x], h =>
        cases h
        obtain ⟨m, hm⟩ := find_marked fn hnm
        obtain ⟨cv, h1, h2⟩ := hone rfl
        refine DOk.congr (run _ hm) ?_
        rw [h1]
        simp only [dMarked]
        split
        · rename_i q ex
          rw [ex] at h2
          obtain ⟨i, of⟩ := q
          obtain ⟨a, rfl, _⟩ := h2
          exact .val_of (.tuple #[]) (fun w => rfl) ⟨_, rfl, rfl⟩
        · trivial
    · split at hp
      · rename_i hnm
        cases hp
        match xs, h with
        | [x], h => cases h; exact load _ _ (find_load64 fn hnm) rfl rfl
      · split at hp
        · rename_i hnm
          cases hp
          match xs, h with
          | [x], h => cases h; exact load _ _ (find_loadU32 fn hnm) rfl rfl
        · split at hp
          · rename_i hnm
            cases hp
            match xs, h with
            | [x], h => cases h; exact load _ _ (find_load32 fn hnm) rfl rfl
          · split at hp
            · cases hp
              match xs, h with
              | [x, y], h => cases h
            · split at hp
              · cases hp
                match xs, h with
                | [x, y], h => cases h
              · split at hp
                · cases hp
                  match xs, h with
                  | [x, y], h => cases h
                · split at hp
                  · cases hp
                    match xs, h with
                    | [x, y, z], h => cases h
                  · split at hp
                    · rename_i hnm
                      cases hp
                      match xs, h with
                      | [x, y], h =>
                        cases h
                        obtain ⟨cv, cw, h1, h2, h3⟩ := htwo rfl
                        refine DOk.congr (run _ (find_indexByte fn hnm)) ?_
                        rw [h1]
                        simp only [dIndexByte]
                        split
                        · rename_i s kk b ex ey
                          rw [ex] at h2; rw [ey] at h3
                          simp only [VRel] at h2 h3
                          subst h2; subst h3
                          cases hk : kEq kk .u8 with
                          | false => trivial
                          | true =>
                            rw [kEq_iff] at hk
                            subst hk
                            refine .val_of _ (fun w => run_indexByte_string _ b w) ?_
                            rw [firstIdx_eq]; rfl
                        · trivial
                    · split at hp
                      · rename_i hnm
                        cases hp
                        match xs, h with
                        | [x], h =>
                          cases h
                          obtain ⟨cv, h1, h2⟩ := hone rfl
                          refine DOk.congr (run _ (find_same fn hnm)) ?_
                          rw [h1]
                          simp only [dSame]
                          split
                          · rename_i a ex
                            rw [ex] at h2
                            exact .val_of cv (fun w => rfl) h2
                          · trivial
                      · cases hp


end
end Go.Abs
