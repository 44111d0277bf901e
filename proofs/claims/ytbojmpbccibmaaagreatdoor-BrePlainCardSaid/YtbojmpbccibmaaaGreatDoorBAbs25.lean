/- The abstract machine: calls, deferred calls, and the runner. -/
import Derived.Test.YtbojmpbccibmaaaGreatDoorBAbs24
set_option linter.unusedVariables false
set_option linter.unusedSimpArgs false
set_option linter.unusedSectionVars false
set_option linter.deprecated false
namespace Go.Abs
variable [Val]

/-- A runner's deferred calls are the model's. -/
def CallDOk (P : Program) (ng : Nat) (R : Runner) : Prop :=
  ∀ f args m h en m' h', R.callD f args m h = some (en, m', h') → Callable P f ∧ ∀ φ w cargs u, HRel ng φ h w → VRels φ args cargs.toList → ModeRel φ m u →
    CallsD P f cargs u w fun e u' w' => ∃ φ', HRel ng φ' h' w' ∧ Stp φ h w φ' h' w' ∧ EndRel φ' en e ∧ ModeRel φ' m' u'

/-! ### The start of a call -/

theorem argRegs_val : ∀ (vs : List AV) (i : Nat) (r : Regs) (t : Nat), (argRegs vs i r).val t = if i ≤ t ∧ t < i + vs.length then (vs[t - i]?).getD .junk else r.val t
  | [], i, r, t => by simp [argRegs]; intro h1 h2; omega
  | v :: vs, i, r, t => by
    have e : argRegs (v :: vs) i r = argRegs vs (i + 1) (T.put r i (some v)) := rfl
    rw [e, argRegs_val vs (i + 1), val_put]
    simp only [List.length_cons]
    by_cases h1 : t = i
    · subst h1
      rw [if_neg (by omega), if_pos rfl, if_pos ⟨Nat.le_refl _, by omega⟩]
      simp
    · rw [if_neg h1]
      by_cases h2 : i + 1 ≤ t ∧ t < i + 1 + vs.length
      · rw [if_pos h2, if_pos ⟨by omega, by omega⟩, show t - i = (t - (i + 1)) + 1 by omega, List.getElem?_cons_succ]
      · rw [if_neg h2, if_neg (by omega)]

theorem nil_val (t : Nat) : Regs.val .nil t = .junk := rfl

/-- The frame of a call, at its start. -/
theorem start_ok {ng : Nat} {F : Frm} {B : Base} {φ : Phi} {h : AHeap} {w : World} {args : List AV} {cargs : Array Value} {n : Nat} {bl : Option (Option Chain)} {cs : List Frame} (H : HRel ng φ h w) (hv : VRels φ args cargs.toList) (hn : F.ntmps = n) (hnp : args.length ≤ F.np)
    (hb : BelowRel φ B.c₀ B.rest B.cs₀ bl cs) : SRel ng F B φ ⟨argRegs args 0 .nil, h, [], bl⟩ { tmps := cargs ++ Array.replicate (n - cargs.size) undef, defers := [] } cs w := by
  have hlen : cargs.size = args.length := by have := hv.length; simpa using this
  refine ⟨H, fun t => ?_, fun t k hk => by simp [locOf] at hk, fun t ht => ?_, ?_, rfl, hb⟩
  · simp only [locOf, argRegs_val, nil_val, Nat.zero_le, true_and, Nat.zero_add, Nat.sub_zero]
    by_cases hlt : t < args.length
    · rw [if_pos hlt]
      obtain ⟨v, h1, h2⟩ := hv.get t args[t] (List.getElem?_eq_getElem hlt)
      rw [List.getElem?_eq_getElem hlt]
      rw [Array.getElem?_toList] at h1
      rw [Array.getD_eq_getD_getElem?, Array.getElem?_append_left (by omega), h1]
      exact h2
    · rw [if_neg hlt]; trivial
  · simp only [argRegs_val, nil_val, Nat.zero_le, true_and, Nat.zero_add]
    rw [if_neg]
    intro hlt
    unfold isLive at ht
    simp only [Bool.or_eq_false_iff] at ht
    have := nat_blt_false ht.1
    omega
  · simp only [Array.size_append, Array.size_replicate]
    omega

/-! ### Results -/

def resSem (tmps : Array Value) (x : ResultVar) : Sem Value :=
  match x with
  | .tmp t => pure (tmps.getD t undef)
  | .cell a t => do loadVar t (← asAddr (tmps.getD a undef))

theorem results_eq (fn : Func) (tmps : Array Value) : results fn tmps = (do let vs ← fn.results.mapM (resSem tmps); pure (if h : vs.size = 1 then vs[0] else .tuple vs)) := rfl

theorem vals_ok {P : Program} {ng : Nat} {φ : Phi} {h : AHeap} {w : World} {r : Regs} {tmps : Array Value} (H : HRel ng φ h w) (hr : ∀ t, VRel φ (r.val t) (tmps.getD t undef)) :
    ∀ (rs : List ResultVar) (as : List ARes) (vs : List AV), cRes P rs = some as → resOf r h as = some vs →
      ∃ cvs, (rs.mapM (resSem tmps)).run P w = .ok cvs w ∧ VRels φ vs cvs
  | [], as, vs, ha, hv => by
    simp only [cRes, Option.some.injEq] at ha
    subst ha
    simp only [resOf, Option.some.injEq] at hv
    subst hv
    exact ⟨[], by simp, rfl⟩
  | .tmp t :: rs, as, vs, ha, hv => by
    simp only [cRes, Option.map_eq_some_iff] at ha
    obtain ⟨as', ha', rfl⟩ := ha
    simp only [resOf] at hv
    split at hv
    · rename_i vs' hv'
      cases hv
      obtain ⟨cvs, h1, h2⟩ := vals_ok H hr rs as' vs' ha' hv'
      exact ⟨tmps.getD t undef :: cvs, by rw [List.mapM_cons]; simp only [Sem.run_bind, resSem, Sem.run_pure, Result.andThen_ok, h1], _, _, rfl, hr t, h2⟩
    · cases hv
  | .cell a t :: rs, as, vs, ha, hv => by
    simp only [cRes, Option.bind_eq_some_iff] at ha
    obtain ⟨n, hn, g, hg, ha⟩ := ha
    split at ha
    · rename_i hc
      simp only [Option.map_eq_some_iff] at ha
      obtain ⟨as', ha', rfl⟩ := ha
      simp only [resOf] at hv
      split at hv
      · rename_i i o ep
        split at hv
        · rename_i cs hcs
          split at hv
          · rename_i v hagg
            split at hv
            · rename_i vs' hv'
              cases hv
              obtain ⟨cvs, h1, h2⟩ := vals_ok H hr rs as' vs' ha' hv'
              have hp := hr a
              rw [ep] at hp
              obtain ⟨ad, hade, hp⟩ := hp
              have hg2 : ∃ blk, h.get i = some blk := by
                unfold AHeap.cellsAt at hcs
                cases hgg : h.get i with
                | none => rw [hgg] at hcs; cases hcs
                | some blk => exact ⟨blk, rfl⟩
              obtain ⟨blk, hgg⟩ := hg2
              obtain ⟨b, p, m, hφ, _⟩ := at_of H hgg hp.notUn
              obtain ⟨ws, tt, fz, k1, k2, k3, k4⟩ := loads_of H hcs hφ
              simp only [PtrOk, hφ] at hp
              subst hp
              have hload : ∃ cv, (loadVar t ⟨b, p + o, none⟩).run P w = .ok cv w ∧ VRel φ v cv := by
                cases g with
                | true =>
                  simp only [aggOf, Option.some.injEq] at hagg
                  subst hagg
                  exact ⟨.agg (ws.extract (p + o) (p + o + n)), by simp [loadVar, run_isAggT hg, run_sizeT hn, run_loads P k1 n k2], _, rfl, k3⟩
                | false =>
                  simp only [Bool.false_or, beq_iff_eq] at hc
                  subst hc
                  obtain ⟨cv, q1, q2⟩ := cells_one k2 k3 hagg
                  have : w.cell? ⟨b, p + o, none⟩ = some cv := by rw [cell_row k1]; exact q1
                  exact ⟨cv, by simp [loadVar, run_isAggT hg, this], q2⟩
              obtain ⟨cv, q1, q2⟩ := hload
              exact ⟨cv :: cvs, by rw [List.mapM_cons]; simp only [Sem.run_bind, resSem, hade, asAddr, Sem.run_pure, Result.andThen_ok, q1, h1], cv, cvs, rfl, q2, h2⟩
            · cases hv
          · cases hv
        · cases hv
      · cases hv
    · cases ha

theorem results_ok {P : Program} {ng : Nat} {φ : Phi} {h : AHeap} {w : World} {r : Regs} {tmps : Array Value} {fn : Func} {as : List ARes} {vs : List AV} (H : HRel ng φ h w) (hr : ∀ t, VRel φ (r.val t) (tmps.getD t undef))
    (ha : cRes P fn.results.toList = some as) (hv : resOf r h as = some vs) : ∃ cv, (results fn tmps).run P w = .ok cv w ∧ VRel φ (tupOf vs) cv := by
  obtain ⟨cvs, h1, h2⟩ := vals_ok H hr fn.results.toList as vs ha hv
  refine ⟨if hh : cvs.toArray.size = 1 then cvs.toArray[0] else .tuple cvs.toArray, ?_, ?_⟩
  · rw [results_eq, Array.mapM_eq_mapM_toList]
    simp [h1]
  · have hl := h2.length
    match vs, cvs, h2 with
    | [], cvs, h2 => simp only [VRels] at h2; subst h2; exact ⟨#[], rfl, rfl⟩
    | [v], cvs, ⟨c, rr, e1, e2, e3⟩ => simp only [VRels] at e3; subst e3; subst e1; exact e2
    | v :: v' :: vs, cvs, h2 =>
      have : ¬ cvs.toArray.size = 1 := by simp at hl ⊢; omega
      rw [dif_neg this]
      exact ⟨_, rfl, by simpa using h2⟩

/-! ### The deferred calls of a frame -/

theorem settle_ok {φ : Phi} {m : Option Chain} {u : FrameMode} (h : ModeRel φ m u) : ModeRel φ (settleA m) (settle u) := by
  cases m with
  | none => simp only [ModeRel] at h; subst h; rfl
  | some c =>
    obtain ⟨cc, rfl, hc⟩ := h
    cases c with
    | nil => simp only [ChRel] at hc; subst hc; exact ⟨[], rfl, rfl⟩
    | cons p older =>
      obtain ⟨v, rec⟩ := p
      obtain ⟨cv, r, rfl, hv, hr⟩ := hc
      cases rec with
      | false => exact ⟨_, rfl, cv, r, rfl, hv, hr⟩
      | true =>
        have key : ∀ (l : Chain) (cl : List PanicEntry), ChRel φ l cl → cl.dropWhile (!·.goexit) = [] := by
          intro l
          induction l with
          | nil => intro cl h; simp only [ChRel] at h; subst h; rfl
          | cons q l ih =>
            intro cl h
            obtain ⟨cv', r', rfl, _, h'⟩ := h
            simp [List.dropWhile_cons, ih r' h']
        simp only [settleA, ModeRel, settle]
        rw [key older r hr]

theorem raised_ok {φ : Phi} {m : Option Chain} {u : FrameMode} {c : Chain} {cc : List PanicEntry} (h : ModeRel φ m u) (hc : ChRel φ c cc) : ModeRel φ (some (match m with | some old => c ++ old | none => c)) (raised u cc) := by
  cases m with
  | none => simp only [ModeRel] at h; subst h; exact ⟨cc, rfl, hc⟩
  | some old =>
    obtain ⟨co, rfl, ho⟩ := h
    exact ⟨cc ++ co, rfl, hc.append ho⟩

theorem defers_ok {P : Program} {ng : Nat} {R : Runner} (hR : CallDOk P ng R) {fn : Func} {as : List ARes} (has : cRes P fn.results.toList = some as) {φ₀ : Phi} {h₀ : AHeap} {w₀ : World} {regs : Regs} {tmps : Array Value} {en : AEnd} {h' : AHeap} :
    ∀ (ds : List ADef) (m : Option Chain) (h : AHeap), runDefers R as regs ds m h = some (en, h') → ∀ (φ : Phi) (w : World) (cds : List Deferred) (u : FrameMode), HRel ng φ h w → Stp φ₀ h₀ w₀ φ h w →
      (∀ t, VRel φ (regs.val t) (tmps.getD t undef)) → DRels φ ds cds → ModeRel φ m u →
      Leaves P fn tmps (fun e w' => ∃ φ', HRel ng φ' h' w' ∧ Stp φ₀ h₀ w₀ φ' h' w' ∧ EndRel φ' en e) cds u w
  | [], none, h, hr, φ, w, cds, u, H, hst, hreg, hd, hm => by
    simp only [runDefers] at hr
    simp only [DRels] at hd
    subst hd
    simp only [ModeRel] at hm
    subst hm
    split at hr
    · rename_i vs hvs
      simp only [Option.some.injEq, Prod.mk.injEq] at hr
      obtain ⟨rfl, rfl⟩ := hr
      obtain ⟨cv, h1, h2⟩ := results_ok H hreg has hvs
      exact ⟨cv, h1, φ, H, hst, h2⟩
    · cases hr
  | [], some c, h, hr, φ, w, cds, u, H, hst, hreg, hd, hm => by
    simp only [runDefers, Option.some.injEq, Prod.mk.injEq] at hr
    obtain ⟨rfl, rfl⟩ := hr
    simp only [DRels] at hd
    subst hd
    obtain ⟨cc, rfl, hc⟩ := hm
    exact ⟨φ, H, hst, hc⟩
  | d :: ds, m, h, hr, φ, w, cds, u, H, hst, hreg, hd, hm => by
    simp only [runDefers] at hr
    obtain ⟨cd, cds', rfl, ⟨ca, cb, rfl, hargs⟩, hds⟩ := hd
    cases hc : R.callD d.f d.args m h with
    | none => rw [hc] at hr; cases hr
    | some q =>
      obtain ⟨e1, m1, h1⟩ := q
      rw [hc] at hr
      obtain ⟨⟨fn', hf1, hf2, hf3⟩, hcall⟩ := hR _ _ _ _ _ _ _ hc
      have hnr : u ≠ .run := by
        cases m with
        | none => simp only [ModeRel] at hm; subst hm; simp
        | some c => obtain ⟨cc, rfl, _⟩ := hm; simp
      have hb : fn'.body ≠ none := by intro hh; rw [hh] at hf3; cases hf3
      refine leaves_cons (f := d.f) (args := ca ++ cb) hnr ?_ ?_
      · simp [invoke, callFunc, hf1, hf2, hb]
      · refine (hcall φ w (ca ++ cb) u H hargs hm).mono fun e u' w' hq => ?_
        obtain ⟨φ', k1, k2, k3, k4⟩ := hq
        have hreg' : ∀ t, VRel φ' (regs.val t) (tmps.getD t undef) := fun t => (hreg t).mono k2.ext
        cases e1 with
        | returned v =>
          simp only at hr
          cases e with
          | returned cv => exact defers_ok hR has ds (settleA m1) h1 hr φ' w' cds' (settle u') k1 (hst.trans k2) hreg' (hds.mono k2.ext) (settle_ok k4)
          | panicked _ => exact k3.elim
          | outgrown => exact k3.elim
        | panicked c =>
          simp only at hr
          cases e with
          | returned _ => exact k3.elim
          | outgrown => exact k3.elim
          | panicked cc => exact defers_ok hR has ds _ h1 hr φ' w' cds' (raised u' cc) k1 (hst.trans k2) hreg' (hds.mono k2.ext) (by cases m1 <;> exact raised_ok k4 k3)

/-! ### Calls -/

theorem wp_of_wpG {P : Program} {c : Code} {Q : Exit → Act → World → Prop} {a : Act} {w : World} (h : ∀ cs, wpG P false c (fun e a' cs' w' => cs' = cs ∧ Q e a' w') a cs w) : c.wp P Q a w := by
  intro b k cs
  obtain ⟨e, a', cs', w', ⟨rfl, hq⟩, harr⟩ := h cs b k (by intro hh; cases hh)
  exact ⟨e, a', w', hq, harr⟩

theorem cFunc_inv {P : Program} {live : FuncId → List Nat} {f : FuncId} {af : AFunc} (h : cFunc P live f = some af) : ∃ fn b rs, P.funcs[f]? = some fn ∧ fn.body = some b ∧ fn.name ≠ "runtime.NumGoroutine" ∧ cRes P fn.results.toList = some rs ∧
    af = { np := fn.params.size + fn.nfree, results := rs, body := cCode P ⟨fn.ntmps, fn.params.size + fn.nfree, live f⟩ b } := by
  unfold cFunc at h
  split at h
  · rename_i fn hf
    split at h
    · rename_i b hb
      split at h
      · cases h
      · rename_i hn
        split at h
        · rename_i rs hrs
          cases h
          exact ⟨fn, b, rs, hf, hb, hn, hrs, rfl⟩
        · cases h
    · cases h
  · cases h

theorem call_ok {P : Program} {ng : Nat} {R : Runner} (hP : P.globals.size = ng) (hR : CallOk P ng R) (hRD : CallDOk P ng R) (hL : LoopOk P ng R) (hD : DrawOk P ng R) {live : FuncId → List Nat} {f : FuncId} {af : AFunc} (hf : cFunc P live f = some af)
    {args : List AV} {h h' : AHeap} {en : AEnd} (hr : callBody R af args h = some (en, h')) : Callable P f ∧ ∀ φ w cargs, HRel ng φ h w → VRels φ args cargs.toList →
      Calls P f cargs w fun e w' => ∃ φ', HRel ng φ' h' w' ∧ Stp φ h w φ' h' w' ∧ EndRel φ' en e := by
  obtain ⟨fn, b, rs, hfn, hb, hname, hrs, rfl⟩ := cFunc_inv hf
  refine ⟨⟨fn, hfn, hname, by rw [hb]; rfl⟩, fun φ w cargs H hv => ?_⟩
  unfold callBody at hr
  cases hnp : Nat.ble (lenQ args) (fn.params.size + fn.nfree) with
  | false => simp only [hnp] at hr; cases hr
  | true =>
    simp only [hnp, Bool.not_true, cond_false] at hr
    rw [ble_iff, lenQ_eq] at hnp
    refine calls_of_wp_defers hfn hb (wp_of_wpG fun cs => ?_)
    let F : Frm := ⟨fn.ntmps, fn.params.size + fn.nfree, live f⟩
    let B : Base := ⟨default, [], cs⟩
    have hs := start_ok (F := F) (B := B) (n := fn.ntmps) (bl := none) (cs := cs) H hv rfl hnp rfl
    cases hrun : (codeFn (cCode P F b)).run R ⟨argRegs args 0 .nil, h, [], none⟩ with
    | none => rw [hrun] at hr; cases hr
    | some q =>
      obtain ⟨x, s'⟩ := q
      rw [hrun] at hr
      refine (code_ok hP hR hL hD F B b x _ s' hrun φ _ cs w hs).mono fun e a' cs' w' hq => ?_
      obtain ⟨φ', k1, k2, k3, k4⟩ := hq
      have hbn : s'.below = none := by simpa using k4
      have hbel := k1.below
      rw [hbn] at hbel
      refine ⟨hbel, ?_⟩
      have hreg : ∀ t, VRel φ' (s'.regs.val t) (a'.tmps.getD t undef) := k1.ctx
      cases x with
      | normal =>
        cases e <;> simp only [ExRel] at k3
        exact defers_ok hRD hrs s'.defers none s'.heap hr φ' w' a'.defers .returning k1.heap k2 hreg k1.defers rfl
      | ret =>
        cases e <;> simp only [ExRel] at k3
        exact defers_ok hRD hrs s'.defers none s'.heap hr φ' w' a'.defers .returning k1.heap k2 hreg k1.defers rfl
      | panic c =>
        cases e <;> simp only [ExRel] at k3
        exact defers_ok hRD hrs s'.defers (some c) s'.heap hr φ' w' a'.defers (.panicking _) k1.heap k2 hreg k1.defers ⟨_, rfl, k3⟩
      | exit id => cases hr

theorem callD_ok {P : Program} {ng : Nat} {R : Runner} (hP : P.globals.size = ng) (hR : CallOk P ng R) (hL : LoopOk P ng R) (hD : DrawOk P ng R) {live : FuncId → List Nat} {f : FuncId} {af : AFunc} (hf : cFunc P live f = some af)
    {args : List AV} {h h' : AHeap} {m m' : Option Chain} {en : AEnd} (hr : callDBody R af args m h = some (en, m', h')) : Callable P f ∧ ∀ φ w cargs u, HRel ng φ h w → VRels φ args cargs.toList → ModeRel φ m u →
      CallsD P f cargs u w fun e u' w' => ∃ φ', HRel ng φ' h' w' ∧ Stp φ h w φ' h' w' ∧ EndRel φ' en e ∧ ModeRel φ' m' u' := by
  obtain ⟨fn, b, rs, hfn, hb, hname, hrs, rfl⟩ := cFunc_inv hf
  refine ⟨⟨fn, hfn, hname, by rw [hb]; rfl⟩, fun φ w cargs u H hv hm => ?_⟩
  unfold callDBody at hr
  cases hnp : Nat.ble (lenQ args) (fn.params.size + fn.nfree) with
  | false => simp only [hnp] at hr; cases hr
  | true =>
    simp only [hnp, Bool.not_true, cond_false] at hr
    rw [ble_iff, lenQ_eq] at hnp
    refine callsD_of_wpS hfn hb fun c₀ cs hu => wpS_of_wpG ?_
    let F : Frm := ⟨fn.ntmps, fn.params.size + fn.nfree, live f⟩
    let B : Base := ⟨c₀, cs, []⟩
    have hbel₀ : BelowRel φ B.c₀ B.rest B.cs₀ (some m) (c₀ :: cs) := ⟨u, by subst hu; rfl, hm⟩
    have hs := start_ok (F := F) (B := B) (n := fn.ntmps) (bl := some m) (cs := c₀ :: cs) H hv rfl hnp hbel₀
    cases hrun : (codeFn (cCode P F b)).run R ⟨argRegs args 0 .nil, h, [], some m⟩ with
    | none => rw [hrun] at hr; cases hr
    | some q =>
      obtain ⟨x, s'⟩ := q
      rw [hrun] at hr
      refine (code_ok hP hR hL hD F B b x _ s' hrun φ _ (c₀ :: cs) w hs).mono fun e a' cs' w' hq => ?_
      obtain ⟨φ', k1, k2, k3, k4⟩ := hq
      have hreg : ∀ t, VRel φ' (s'.regs.val t) (a'.tmps.getD t undef) := k1.ctx
      have hdef := k1.defers
      have hbel := k1.below
      have ends : ∀ ds bl, s'.defers = ds → s'.below = bl → ∀ vs, resOf s'.regs s'.heap rs = vs → (match ds, bl, vs with | [], some m, some vs => some (AEnd.returned (tupOf vs), m, s'.heap) | _, _, _ => none) = some (en, m', h') →
          a'.defers = [] ∧ ∃ u', cs' = { c₀ with mode := u' } :: cs ∧ ∃ v, (results fn a'.tmps).run P w' = .ok v w' ∧ ∃ φ', HRel ng φ' h' w' ∧ Stp φ h w φ' h' w' ∧ EndRel φ' en (.returned v) ∧ ModeRel φ' m' u' := by
        intro ds bl e1 e2 vs e3 hh
        cases ds with
        | cons _ _ => cases hh
        | nil =>
          cases bl with
          | none => cases hh
          | some m1 =>
            cases vs with
            | none => cases hh
            | some vs =>
              simp only [Option.some.injEq, Prod.mk.injEq] at hh
              obtain ⟨rfl, rfl, rfl⟩ := hh
              rw [e1] at hdef
              rw [e2] at hbel
              obtain ⟨u', hcs, hmr⟩ := hbel
              obtain ⟨cv, q1, q2⟩ := results_ok k1.heap hreg hrs e3
              exact ⟨hdef, u', hcs, cv, q1, φ', k1.heap, k2, q2, hmr⟩
      cases x with
      | normal =>
        cases e <;> simp only [ExRel] at k3
        exact ends _ _ rfl rfl _ rfl hr
      | ret =>
        cases e <;> simp only [ExRel] at k3
        exact ends _ _ rfl rfl _ rfl hr
      | panic c =>
        cases e <;> simp only [ExRel] at k3
        simp only at hr
        split at hr
        · rename_i m1 e1 e2
          simp only [Option.some.injEq, Prod.mk.injEq] at hr
          obtain ⟨rfl, rfl, rfl⟩ := hr
          rw [e1] at hdef
          rw [e2] at hbel
          obtain ⟨u', hcs, hmr⟩ := hbel
          exact ⟨hdef, u', hcs, φ', k1.heap, k2, k3, hmr⟩
        · cases hr
      | exit id => cases hr

end Go.Abs
