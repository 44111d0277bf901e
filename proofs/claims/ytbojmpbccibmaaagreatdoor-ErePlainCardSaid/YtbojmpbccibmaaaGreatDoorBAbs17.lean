/- The abstract machine: operations that write: atomics, bytes that become a string, calls. -/
import Derived.Test.YtbojmpbccibmaaaGreatDoorBAbs16
set_option linter.unusedVariables false
set_option linter.unusedSimpArgs false
set_option linter.unusedSectionVars false
set_option linter.deprecated false
namespace Go.Abs
variable [Val]

section
variable {P : Program} {ng : Nat} {φ : Phi} {h : AHeap} {w : World} {c : Ctx} {e : Env} {r : Regs} {S : Operand → Prop} {ρ : Operand → Value}

/-! ### Atomics -/

/-- What is known of a cell that an atomic write meets. -/
theorem cell_of (H : HRel ng φ h w) {i o : Nat} {a : Addr} (ha : PtrOk φ i o a) {k : IntKind} {n : Int} (hc : h.cellsAt i o 1 = some [.int k n]) : ∃ b p m, φ i = .at b p m ∧ a = ⟨b, p + o, none⟩ ∧ w.cell? a = some (.int k n) := by
  have hg : ∃ blk, h.get i = some blk := by
    unfold AHeap.cellsAt at hc
    cases hg : h.get i with
    | none => rw [hg] at hc; cases hc
    | some blk => exact ⟨blk, rfl⟩
  obtain ⟨blk, hg⟩ := hg
  obtain ⟨b, p, m, hφ, _⟩ := at_of H hg ha.notUn
  simp only [PtrOk, hφ] at ha
  subst ha
  obtain ⟨vs, t, fz, h1, h2, h3, _⟩ := loads_of H hc hφ
  obtain ⟨cv, h4, h5⟩ := cells_one (v := .int k n) h2 h3 rfl
  simp only [VRel] at h5
  subst h5
  exact ⟨b, p, m, hφ, rfl, by rw [cell_row h1]; exact h4⟩

theorem setCell_of (H : HRel ng φ h w) {i o : Nat} {b p m : Nat} (hφ : φ i = .at b p m) {k : IntKind} {n : Int} {u : Value} (hcell : w.cell? ⟨b, p + o, none⟩ = some u) {h' : AHeap} (hs : h.store i o [.int k n] = some h') :
    w.frozen? ⟨b, p + o, none⟩ = false ∧ HRel ng φ h' (w.setCell ⟨b, p + o, none⟩ (.int k n)) ∧ Stp φ h w φ h' (w.setCell ⟨b, p + o, none⟩ (.int k n)) := by
  obtain ⟨w', h1, h2, h3⟩ := stores_of (P := default) H hs hφ (cvs := [.int k n]) ⟨_, _, rfl, rfl, rfl⟩
  simp only [storeCells, Sem.run_bind, add_none, Nat.add_zero] at h1
  rw [run_store _ w ⟨b, p + o, none⟩ (.int k n) .plain rfl, hcell] at h1
  cases hf : w.frozen? ⟨b, p + o, none⟩ with
  | true => rw [hf] at h1; cases h1
  | false =>
    rw [hf] at h1
    simp only [Bool.false_eq_true, if_false, Result.andThen_ok] at h1
    cases h1
    exact ⟨rfl, h2, h3⟩

/-- Which names have which forms. -/
theorem cPrim_inv {n : String} {p : APrim} (h : cPrim n = some p) : match p with
    | .store => n = "sync/atomic.StoreUint32"
    | .add k => (n = "sync/atomic.AddInt64" ∧ k = .i64) ∨ (n = "sync/atomic.AddInt32" ∧ k = .i32)
    | .cas k => n = "sync/atomic.CompareAndSwapInt32" ∧ k = .i32
    | _ => True := by
  unfold cPrim at h
  by_cases h1 : n = "internal/race.Disable" ∨ n = "internal/race.Enable"
  · rw [if_pos h1] at h; cases h; trivial
  rw [if_neg h1] at h
  by_cases h2 : n = "internal/race.Acquire" ∨ n = "internal/race.ReleaseMerge"
  · rw [if_pos h2] at h; cases h; trivial
  rw [if_neg h2] at h
  by_cases h3 : n = "sync/atomic.LoadInt64"
  · rw [if_pos h3] at h; cases h; trivial
  rw [if_neg h3] at h
  by_cases h4 : n = "sync/atomic.LoadUint32"
  · rw [if_pos h4] at h; cases h; trivial
  rw [if_neg h4] at h
  by_cases h5 : n = "sync/atomic.LoadInt32"
  · rw [if_pos h5] at h; cases h; trivial
  rw [if_neg h5] at h
  by_cases h6 : n = "sync/atomic.StoreUint32"
  · rw [if_pos h6] at h; cases h; exact h6
  rw [if_neg h6] at h
  by_cases h7 : n = "sync/atomic.AddInt64"
  · rw [if_pos h7] at h; cases h; exact .inl ⟨h7, rfl⟩
  rw [if_neg h7] at h
  by_cases h8 : n = "sync/atomic.AddInt32"
  · rw [if_pos h8] at h; cases h; exact .inr ⟨h8, rfl⟩
  rw [if_neg h8] at h
  by_cases h9 : n = "sync/atomic.CompareAndSwapInt32"
  · rw [if_pos h9] at h; cases h; exact ⟨h9, rfl⟩
  rw [if_neg h9] at h
  by_cases h10 : n = "internal/bytealg.IndexByteString"
  · rw [if_pos h10] at h; cases h; trivial
  rw [if_neg h10] at h
  by_cases h11 : n = "internal/abi.NoEscape"
  · rw [if_pos h11] at h; cases h; trivial
  rw [if_neg h11] at h
  cases h

/-- A call of a function without a body, of three forms. -/
theorem prim_w (H : HRel ng φ h w) (ho : OpsOk P φ c e r S ρ) {o : Oper} {k : Call} {f : FuncId} {fn : Func} {p : APrim} {xs : List Opd} {d : WFn} (hS0 : S (.func f)) (hSa : ∀ x ∈ k.args.toList, S x) (hop : o.op = .call k) (hc : k.callee = .value (.func f)) (hf : P.funcs[f]? = some fn)
    (hname : fn.name ≠ "runtime.NumGoroutine") (hb : fn.body.isSome = false) (hn : (Extern.findNext fn).isNone = true) (hp : cPrim fn.name = some p) (hxs : cOpds P c k.args.toList = some xs) (hw : primOp p xs = some (.w d)) :
    WOk P ng φ h w (execOp ρ o) (d.f e r h) := by
  have run := fun E he => run_call_prim (P := P) (E := E) ho hS0 hop hc hf hname hb hn he w
  have eff : ∀ {E : Array Value → Sem Value}, Extern.find fn = some E → (execOp ρ o).run P w = (callFunc f (k.args.map ρ)).run P w := by
    intro E he
    rw [run E he, run_callFunc_extern (P := P) (f := f) hf (by simpa using hname) (by simpa using hb) (by simpa using hn) he (k.args.map ρ) w, run_valued]
  have hb' : fn.body.isNone = true := by cases hx : fn.body <;> simp_all
  have hn' : Extern.findNext fn = none := by simpa using hn
  have hname' : (fn.name == "runtime.NumGoroutine") = false := by simpa using hname
  cases p with
  | nothing => simp [primOp] at hw
  | marked => match xs, hw with | [x], hw => cases hw
  | load k => match xs, hw with | [x], hw => cases hw
  | indexByte => match xs, hw with | [x, y], hw => cases hw
  | same => match xs, hw with | [x], hw => cases hw
  | store =>
    match xs, hw with
    | [x, y], hw =>
    cases hw
    obtain ⟨cv, cw, h1, h2, h3⟩ := args2 ho hSa hxs
    have hfind : Extern.find fn = some Extern.Atomic.storeT := find_store fn (cPrim_inv hp)
    refine WOk.congr (eff hfind) ?_
    rw [h1]
    simp only [wAtomicStore]
    split
    · rename_i i of kk v ex ey
      rw [ex] at h2; rw [ey] at h3
      simp only [VRel] at h3
      subst h3
      obtain ⟨a, rfl, ha⟩ := h2
      simp only [aAtomic]
      split
      · rename_i k' n hcell
        cases hk : kEq k' kk with
        | false => trivial
        | true =>
          simp only [cond_true]
          cases hs : h.store i of [.int kk v] with
          | none => trivial
          | some h' =>
            obtain ⟨b, p, m, hφ, rfl, hcl⟩ := cell_of H ha hcell
            obtain ⟨hfz, h4, h5⟩ := setCell_of H hφ hcl hs
            exact ⟨_, _, φ, run_call_store hf hname' hb' hn' hfind hcl hfz, .inl ⟨_, rfl, ⟨_, rfl, rfl⟩⟩, h4, h5⟩
      · trivial
    · trivial
  | add kk =>
    match xs, hw with
    | [x, y], hw =>
    cases hw
    obtain ⟨cv, cw, h1, h2, h3⟩ := args2 ho hSa hxs
    have hfind : Extern.find fn = some (Extern.Atomic.update (Op.intArith .add) kk true) := by
      rcases cPrim_inv hp with ⟨hnm, rfl⟩ | ⟨hnm, rfl⟩
      · exact find_add64 fn hnm
      · exact find_add32 fn hnm
    refine WOk.congr (eff hfind) ?_
    rw [h1]
    simp only [wAtomicAdd]
    split
    · rename_i i of k' v ex ey
      rw [ex] at h2; rw [ey] at h3
      simp only [VRel] at h3
      subst h3
      obtain ⟨a, rfl, ha⟩ := h2
      cases hk' : kEq k' kk with
      | false => trivial
      | true =>
        rw [kEq_iff] at hk'
        subst hk'
        simp only [cond_true, aAtomic]
        split
        · rename_i k2 n hcell
          cases hk : kEq k2 k' with
          | false => trivial
          | true =>
            rw [kEq_iff] at hk
            subst hk
            simp only [cond_true]
            cases hs : h.store i of [.int k2 (wrapQ k2 (n + v))] with
            | none => trivial
            | some h' =>
              obtain ⟨b, p, m, hφ, rfl, hcl⟩ := cell_of H ha hcell
              obtain ⟨hfz, h4, h5⟩ := setCell_of H hφ hcl hs
              rw [wrapQ_eq] at h4 h5 ⊢
              exact ⟨_, _, φ, run_call_add hf hname' hb' hn' k2 hfind hcl hfz rfl, .inl ⟨_, rfl, rfl⟩, h4, h5⟩
        · trivial
    · trivial
  | cas k0 =>
    match xs, hw with
    | [x, y, z], hw =>
    cases hw
    obtain ⟨cv, cw, cu, h1, h2, h3, h3'⟩ := args3 ho hSa hxs
    have hk0 : k0 = .i32 ∧ Extern.find fn = some (Extern.Atomic.casT (.int .i32)) := by
      obtain ⟨hnm, rfl⟩ := cPrim_inv hp
      exact ⟨rfl, find_cas fn hnm⟩
    obtain ⟨rfl, hfind⟩ := hk0
    refine WOk.congr (eff hfind) ?_
    rw [h1]
    simp only [wCas]
    split
    · rename_i i of k1 a1 k2 b1 ex ey ez
      rw [ex] at h2; rw [ey] at h3; rw [ez] at h3'
      simp only [VRel] at h3 h3'
      subst h3; subst h3'
      obtain ⟨a, rfl, ha⟩ := h2
      cases hk' : (kEq k2 k1 && kEq k1 .i32) with
      | false => trivial
      | true =>
        simp only [Bool.and_eq_true, kEq_iff] at hk'
        obtain ⟨rfl, rfl⟩ := hk'
        simp only [cond_true, aAtomic]
        split
        · rename_i k3 n hcell
          cases hk : kEq k3 .i32 with
          | false => trivial
          | true =>
            rw [kEq_iff] at hk
            subst hk
            simp only [cond_true]
            obtain ⟨b, p, m, hφ, rfl, hcl⟩ := cell_of H ha hcell
            cases hq : eqQ n a1 with
            | true =>
              rw [eqQ_eq, beq_iff_eq] at hq
              subst hq
              simp only [cond_true]
              cases hs : h.store i of [.int .i32 b1] with
              | none => trivial
              | some h' =>
                obtain ⟨hfz, h4, h5⟩ := setCell_of H hφ hcl hs
                exact ⟨_, _, φ, run_call_cas_hit hf hname' hb' hn' .i32 hfind hcl hfz, .inl ⟨_, rfl, rfl⟩, h4, h5⟩
            | false =>
              rw [eqQ_eq] at hq
              have hne : n ≠ a1 := by simpa using hq
              simp only [cond_false]
              cases hs : h.store i of [.int .i32 n] with
              | none => trivial
              | some h' =>
                obtain ⟨hfz, _, _⟩ := setCell_of H hφ hcl hs
                exact ⟨_, w, φ, run_call_cas_miss hf hname' hb' hn' .i32 hfind hcl hfz hne, .inl ⟨_, rfl, rfl⟩, H, Stp.refl _ _ _⟩
        · trivial
    · trivial

end
end Go.Abs
