/- The abstract machine: regions that are carried out in their text's order. -/
import Derived.Test.YtbojmpbccibmaaaGreatDoorBAbs22
set_option linter.unusedVariables false
set_option linter.unusedSimpArgs false
set_option linter.unusedSectionVars false
set_option linter.deprecated false
namespace Go.Abs
variable [Val]

/-- A runner's calls are the model's. -/
def CallOk (P : Program) (ng : Nat) (R : Runner) : Prop :=
  ∀ f args h en h', R.call f args h = some (en, h') → Callable P f ∧ ∀ φ w cargs, HRel ng φ h w → VRels φ args cargs.toList →
    Calls P f cargs w fun e w' => ∃ φ', HRel ng φ' h' w' ∧ Stp φ h w φ' h' w' ∧ EndRel φ' en e

/-! ### The operations of a region, for a frame of any kind -/

def opsG (P : Program) (dfd : Bool) (ops : Array Oper) (Q : Post) (l : List Nat) (a : Act) (cs : List Frame) (w : World) : Prop :=
  match dfd with
  | false => wpOps P ops (fun e a w => Q e a cs w) l a w
  | true => wpOpsS P ops Q l a cs w

section
variable {P : Program} {dfd : Bool} {ops : Array Oper} {Q : Post} {a : Act} {cs : List Frame} {w : World}

theorem wpG_region {id : Nat} (h : opsG P dfd ops Q (List.range ops.size) a cs w) : wpG P dfd (.region id ops false) Q a cs w := by
  cases dfd with
  | false => exact wpG_of_wp (wp_region h)
  | true => exact wpG_of_wpS (wpS_region h)

theorem opsG_nil (h : Q .normal a cs w) : opsG P dfd ops Q [] a cs w := by cases dfd <;> exact h

theorem opsG_skip {i : Nat} {rest : List Nat} {o : Oper} (ho : ops[i]? = some o) (hw : Region.wanted o (yielded ops a.tmps) = false) (h : opsG P dfd ops Q rest (a.put o.dst undef) cs w) : opsG P dfd ops Q (i :: rest) a cs w := by
  cases dfd with
  | false => simp only [opsG, wpOps, ho, hw]; exact h
  | true => simp only [opsG, wpOpsS, ho, hw]; exact h

theorem opsG_upon {i : Nat} {rest : List Nat} {o : Oper} (ho : ops[i]? = some o) (hw : Region.wanted o (yielded ops a.tmps) = true) {r : Result Next} (hr : (execOp a.eval o).run P w = r) (hnr : ∀ w', r ≠ .ok .recover w')
    (h : o.upon P a (fun a' w' => opsG P dfd ops Q rest a' cs w') (fun e a' w' => Q e a' cs w') r) : opsG P dfd ops Q (i :: rest) a cs w := by
  cases dfd with
  | false =>
    simp only [opsG, wpOps, ho, hw, if_true]
    left
    unfold Oper.wp
    rw [hr]; exact h
  | true =>
    simp only [opsG, wpOpsS, ho, hw, if_true]
    rw [hr]
    cases r with
    | halt x w2 => exact h
    | ok n w2 =>
      cases n with
      | recover => exact absurd rfl (hnr w2)
      | _ => exact h

theorem opsG_recover {i : Nat} {rest : List Nat} {o : Oper} (ho : ops[i]? = some o) (hw : Region.wanted o (yielded ops a.tmps) = true) {w' : World} (hr : (execOp a.eval o).run P w = .ok .recover w')
    (h : match recoverD cs with | some (v, cs') => opsG P true ops Q rest (a.put o.dst v) cs' w' | none => opsG P true ops Q rest (a.put o.dst .nilIface) cs w') : opsG P true ops Q (i :: rest) a cs w := by
  simp only [opsG, wpOpsS, ho, hw, if_true, hr]
  split
  · rename_i v cs' e; rw [e] at h; exact h
  · rename_i e; rw [e] at h; exact h

end

/-! ### Guards -/

def GuardOk (ops : Array Oper) (o : Oper) (tmps : Array Value) (e : Env) (r : Regs) : Option (Opd × Bool) → Prop
  | none => Region.wanted o (yielded ops tmps) = true
  | some (x, want) => ∀ b, guardMet (x.ev e r) want = some b → Region.wanted o (yielded ops tmps) = b

theorem guard_ok {P : Program} {ng : Nat} {F : Frm} {B : Base} {φ : Phi} {c : Ctx} {e : Env} {s : St} {a : Act} {cs : List Frame} {w : World} (h : IRel ng F B φ c e s a cs w) {ops : Array Oper} {o : Oper} {g : Option (Opd × Bool)}
    (hg : cGuard P ops c o.guard = some g) : GuardOk ops o a.tmps e s.regs g := by
  cases hgu : o.guard with
  | none => rw [hgu] at hg; cases hg; simp [GuardOk, Region.wanted, hgu]
  | some q =>
    obtain ⟨j, want⟩ := q
    rw [hgu] at hg
    simp only [cGuard, Option.bind_eq_some_iff, Option.map_eq_some_iff] at hg
    obtain ⟨t, ⟨oj, ho1, ho2⟩, x, hx, rfl⟩ := hg
    intro b hb
    simp only [Region.wanted, hgu]
    have hv : VRel φ (x.ev e s.regs) (a.tmps.getD t undef) := by
      have := h.ctx t
      simp only [cOpd] at hx
      cases hl : locOf t c 0 with
      | none => rw [hl] at hx this; cases hx; simpa using this
      | some k => rw [hl] at hx this; cases hx; simpa using this
    have hy : yielded ops a.tmps j = (match a.tmps[t]? with | some (.bool b) => some b | _ => none) := by
      simp only [yielded, ho1, Option.bind_some, ho2]
      rfl
    unfold guardMet at hb
    split at hb
    · rename_i b' ex
      rw [ex] at hv
      simp only [VRel] at hv
      simp only [Option.some.injEq] at hb
      have ht : a.tmps[t]? = some (.bool b') := by
        rw [Array.getD_eq_getD_getElem?] at hv
        cases hq : a.tmps[t]? with
        | none => rw [hq] at hv; cases hv
        | some v => rw [hq] at hv; simp at hv; rw [hv]
      rw [hy, ht, ← hb]
      cases b' <;> cases want <;> rfl
    · rename_i ex
      rw [ex] at hv
      obtain ⟨vs, hvs, hvn⟩ := hv
      simp only [Option.some.injEq] at hb
      subst hb
      have ht : yielded ops a.tmps j = none := by
        rw [hy]
        rw [Array.getD_eq_getD_getElem?] at hvs
        cases hq : a.tmps[t]? with
        | none => rfl
        | some v => rw [hq] at hvs; simp at hvs; rw [hvs]
      rw [ht]; rfl
    · cases hb

/-! ### One operation -/

theorem cOpM_mov {P : Program} {c : Ctx} {op : Op} {x : Opd} (h : cOpM P c op = some (.mov x)) : ∃ y, (op = .move y ∨ op = .assign y) ∧ cOpd P c y = some x := by
  unfold cOpM at h
  split at h
  · simp only [Option.map_eq_some_iff] at h
    obtain ⟨x', hx, h⟩ := h
    cases h; exact ⟨_, .inl rfl, hx⟩
  · simp only [Option.map_eq_some_iff] at h
    obtain ⟨x', hx, h⟩ := h
    cases h; exact ⟨_, .inr rfl, hx⟩
  · split at h <;> cases h

theorem cOpM_d {P : Program} {c : Ctx} {op : Op} {f : DFn} (h : cOpM P c op = some (.d f)) : cOp P c op = some (.d f) := by
  unfold cOpM at h
  split at h
  · simp only [Option.map_eq_some_iff] at h; obtain ⟨_, _, h⟩ := h; cases h
  · simp only [Option.map_eq_some_iff] at h; obtain ⟨_, _, h⟩ := h; cases h
  · split at h
    · rename_i hc; cases h; exact hc
    · cases h
    · cases h

theorem cOpM_w {P : Program} {c : Ctx} {op : Op} {f : WFn} (h : cOpM P c op = some (.w f)) : cOp P c op = some (.w f) := by
  unfold cOpM at h
  split at h
  · simp only [Option.map_eq_some_iff] at h; obtain ⟨_, _, h⟩ := h; cases h
  · simp only [Option.map_eq_some_iff] at h; obtain ⟨_, _, h⟩ := h; cases h
  · split at h
    · cases h
    · rename_i hc; cases h; exact hc
    · cases h

/-- What a recover finds. -/
theorem recover_ok {φ : Phi} {B : Base} {m : Option Chain} {u : FrameMode} (h : ModeRel φ m u) :
    (∃ v older cv cs', m = some ((v, false) :: older) ∧ recoverD ({ B.c₀ with mode := u } :: B.rest) = some (cv, cs') ∧ VRel φ v cv ∧ BelowRel φ B.c₀ B.rest B.cs₀ (some (some ((v, true) :: older))) cs') ∨
    ((∀ v older, m ≠ some ((v, false) :: older)) ∧ recoverD ({ B.c₀ with mode := u } :: B.rest) = none) := by
  cases m with
  | none => simp only [ModeRel] at h; subst h; exact .inr ⟨by simp, rfl⟩
  | some c =>
    obtain ⟨cc, rfl, hc⟩ := h
    cases c with
    | nil => simp only [ChRel] at hc; subst hc; exact .inr ⟨by simp, rfl⟩
    | cons p older =>
      obtain ⟨v, rec⟩ := p
      obtain ⟨cv, r, rfl, hv, hr⟩ := hc
      cases rec with
      | true => exact .inr ⟨by simp, rfl⟩
      | false => exact .inl ⟨v, older, cv, _, rfl, rfl, hv, .panicking ({ v := cv, recovered := true } :: r), rfl, _, rfl, cv, r, rfl, hv, hr⟩

section
variable {P : Program} {ng : Nat} {F : Frm} {B : Base} {R : Runner} {ops : Array Oper} {Q : Post}

/-- What an operation with no guard does. -/
theorem went_ok (hP : P.globals.size = ng) (hR : CallOk P ng R) {φ : Phi} {c : Ctx} {e : Env} {s : St} {a : Act} {cs : List Frame} {w : World} (h : IRel ng F B φ c e s a cs w) {i : Nat} {rest : List Nat} {o : Oper} (ho : ops[i]? = some o)
    (hw : Region.wanted o (yielded ops a.tmps) = true) {op : AOp} (hop : cOpM P c o.op = some op) (hdst : ∀ d, o.dst = some d → d < F.ntmps)
    (hon : ∀ v s', (opFn op).run R e s = .on v s' → ∀ (φ' : Phi) (cv : Value) (a' : Act) (cs' : List Frame) (w' : World), Ext φ φ' → HRel ng φ' s'.heap w' → Stp φ s.heap w φ' s'.heap w' → VRel φ' v cv → s'.regs = s.regs → a'.tmps = a.tmps → DRels φ' s'.defers a'.defers → BelowRel φ' B.c₀ B.rest B.cs₀ s'.below cs' →
      s'.below.isSome = s.below.isSome → opsG P s.below.isSome ops Q rest (a'.put o.dst cv) cs' w')
    (hout : ∀ x s', (opFn op).run R e s = .out x s' → ∀ (φ' : Phi) (ex : Exit) (w' : World), IRel ng F B φ' c e s' a cs w' → Stp φ s.heap w φ' s'.heap w' → ExRel φ' x ex → s'.below.isSome = s.below.isSome → Q ex a cs w')
    (hlost : (opFn op).run R e s ≠ .lost) : opsG P s.below.isSome ops Q (i :: rest) a cs w := by
  have hglob : ∀ g, g < P.globals.size → PtrOk φ g 0 ⟨g, 0, none⟩ := fun g hg => h.heap.glob g (hP ▸ hg)
  have hops : OpsOk P φ c e s.regs (fun _ => True) a.eval := opsOk hglob h.ctx _
  have hputeq : ∀ (dst : Option Nat) (cv : Value), ({ a with defers := a.defers } : Act).put dst cv = a.put dst cv := fun _ _ => rfl
  cases op with
  | mov x =>
    obtain ⟨y, hy, hyo⟩ := cOpM_mov hop
    have h1 : (execOp a.eval o).run P w = .ok (.value (a.eval y)) w := by
      rcases hy with hy | hy
      · simp [execOp, hy]
      · simp [execOp, hy]
    refine opsG_upon ho hw h1 (by intro w' hh; cases hh) ?_
    exact hon _ _ rfl φ (a.eval y) a cs w (Ext.refl _) h.heap (Stp.refl _ _ _) (hops y x trivial hyo) rfl rfl h.defers h.below rfl
  | d f =>
    have hd := cOp_d (fun v => rfl) hops (fun _ _ => trivial) (cOpM_d hop)
    have key : ∀ v h', runD s.heap (f.f e s.regs) = some (v, h') → opsG P s.below.isSome ops Q (i :: rest) a cs w := by
      intro v h' hr
      obtain ⟨cv, w', φ', h1, h2, h3, h4⟩ := runD_ok hd h.heap hr
      have hgo : (opFn (.d f)).run R e s = .on v ⟨s.regs, h', s.defers, s.below⟩ := by
        simp only [opFn]
        cases hf : f.f e s.regs with
        | val v' =>
          rw [hf] at hr
          simp only [runD, Option.some.injEq, Prod.mk.injEq] at hr
          obtain ⟨rfl, rfl⟩ := hr
          rfl
        | _ => rw [hf] at hr; simp only [hr, wentD]
      refine opsG_upon ho hw h1 (by intro w' hh; cases hh) ?_
      exact hon v _ hgo φ' cv a cs w' h4.ext h3 h4 h2 rfl rfl (h.defers.mono h4.ext) (h.below.mono h4.ext) rfl
    cases hr : runD s.heap (f.f e s.regs) with
    | some q => obtain ⟨v, h'⟩ := q; exact key v h' hr
    | none =>
      exfalso
      apply hlost
      simp only [opFn]
      cases hf : f.f e s.regs with
      | val v' => rw [hf] at hr; simp [runD] at hr
      | _ => rw [hf] at hr; simp only [hr, wentD]
  | w f =>
    have hwok := cOp_w h.heap hops (fun _ _ => trivial) (cOpM_w hop)
    have hgo : (opFn (.w f)).run R e s = wentW R (f.f e s.regs s.heap) s := rfl
    rw [hgo] at hlost
    cases hx : f.f e s.regs s.heap with
    | ok v h' =>
      rw [hx] at hwok
      obtain ⟨nx, w', φ', h1, h2, h3, h4⟩ := hwok
      have hg2 : (opFn (.w f)).run R e s = .on v ⟨s.regs, h', s.defers, s.below⟩ := by rw [hgo, hx]; rfl
      rcases h2 with ⟨cv, rfl, hv⟩ | ⟨rfl, hv⟩
      · refine opsG_upon ho hw h1 (by intro w' hh; cases hh) ?_
        exact hon v _ hg2 φ' cv a cs w' h4.ext h3 h4 hv rfl rfl (h.defers.mono h4.ext) (h.below.mono h4.ext) rfl
      · refine opsG_upon ho hw h1 (by intro w' hh; cases hh) ?_
        exact hon v _ hg2 φ' Go.undef a cs w' h4.ext h3 h4 hv rfl rfl (h.defers.mono h4.ext) (h.below.mono h4.ext) rfl
    | enter fid args =>
      rw [hx] at hwok hlost
      cases hcall : R.call fid args s.heap with
      | none => simp [wentW, hcall] at hlost
      | some q =>
        obtain ⟨en, h'⟩ := q
        obtain ⟨hcb, hcalls⟩ := hR _ _ _ _ _ hcall
        obtain ⟨cargs, h1, h2⟩ := hwok hcb
        refine opsG_upon ho hw h1 (by intro w' hh; cases hh) ?_
        simp only [Oper.upon]
        refine (hcalls φ w cargs h.heap h2).mono fun ee w' hee => ?_
        obtain ⟨φ', h3, h4, h5⟩ := hee
        cases en with
        | returned v =>
          cases ee with
          | returned cv =>
            have hg2 : (opFn (.w f)).run R e s = .on v ⟨s.regs, h', s.defers, s.below⟩ := by rw [hgo, hx]; simp [wentW, hcall]
            exact hon v _ hg2 φ' cv a cs w' h4.ext h3 h4 h5 rfl rfl (h.defers.mono h4.ext) (h.below.mono h4.ext) rfl
          | panicked _ => exact h5.elim
          | outgrown => exact h5.elim
        | panicked ch =>
          cases ee with
          | returned _ => exact h5.elim
          | outgrown => exact h5.elim
          | panicked cch =>
            have hg2 : (opFn (.w f)).run R e s = .out (.panic ch) ⟨s.regs, h', s.defers, s.below⟩ := by rw [hgo, hx]; simp [wentW, hcall]
            exact hout _ _ hg2 φ' (.panic cch) w' ⟨h3, h.ctx.mono h4.ext, h.sync, h.live, h.size, h.defers.mono h4.ext, h.below.mono h4.ext⟩ h4 h5 rfl
    | defer d =>
      rw [hx] at hwok
      obtain ⟨cd, h1, h2⟩ := hwok
      have hg2 : (opFn (.w f)).run R e s = .on .undef ⟨s.regs, s.heap, d :: s.defers, s.below⟩ := by rw [hgo, hx]; rfl
      refine opsG_upon ho hw h1 (by intro w' hh; cases hh) ?_
      exact hon _ _ hg2 φ Go.undef { a with defers := cd :: a.defers } cs w (Ext.refl _) h.heap (Stp.refl _ _ _) VRel.undef rfl rfl ⟨cd, a.defers, rfl, h2, h.defers⟩ h.below rfl
    | panic v =>
      rw [hx] at hwok
      obtain ⟨cv, h1, h2⟩ := hwok
      have hg2 : (opFn (.w f)).run R e s = .out (.panic [(v, false)]) s := by rw [hgo, hx]; rfl
      refine opsG_upon ho hw h1 (by intro w' hh; cases hh) ?_
      exact hout _ _ hg2 φ (.panic [{ v := cv, recovered := false }]) w h (Stp.refl _ _ _) ⟨cv, [], rfl, h2, rfl⟩ rfl
    | recover =>
      rw [hx] at hwok hlost
      cases hb : s.below with
      | none => simp [wentW, hb] at hlost
      | some m =>
        have hbel := h.below
        rw [hb] at hbel
        obtain ⟨u, rfl, hmu⟩ := hbel
        have hsome : s.below.isSome = true := by rw [hb]; rfl
        simp only [Option.isSome_some]
        refine opsG_recover ho hw hwok ?_
        rw [hb] at hon
        simp only [Option.isSome_some] at hon
        rcases recover_ok (B := B) hmu with ⟨v, older, cv, cs', rfl, hrec, hv, hbel'⟩ | ⟨hno, hrec⟩
        · rw [hrec]
          have hg2 : (opFn (.w f)).run R e s = .on v ⟨s.regs, s.heap, s.defers, some (some ((v, true) :: older))⟩ := by rw [hgo, hx]; simp [wentW, hb]
          exact hon v _ hg2 φ cv a cs' w (Ext.refl _) h.heap (Stp.refl _ _ _) hv rfl rfl h.defers hbel' rfl
        · rw [hrec]
          have hg2 : (opFn (.w f)).run R e s = .on .nilIface s := by
            rw [hgo, hx]
            simp only [wentW, hb]
          exact hon _ _ hg2 φ .nilIface a _ w (Ext.refl _) h.heap (Stp.refl _ _ _) rfl rfl rfl h.defers (by rw [hb]; exact ⟨u, rfl, hmu⟩) (by rw [hb]; rfl)
    | bad => rw [hx] at hlost; simp [wentW] at hlost

theorem Stp.isSome_rfl {b : Bool} : b = b := rfl

/-- An operation of a region. -/
theorem oper_ok (hP : P.globals.size = ng) (hR : CallOk P ng R) {φ : Phi} {c : Ctx} {e : Env} {s : St} {a : Act} {cs : List Frame} {w : World} (h : IRel ng F B φ c e s a cs w) {i : Nat} {rest : List Nat} {o : Oper} (ho : ops[i]? = some o)
    {ao : AOper} (hao : cOper P F ops c o = some ao)
    (hon : ∀ v s', (operFn ao).run R e s = .on v s' → ∀ (φ' : Phi) (a' : Act) (cs' : List Frame) (w' : World), IRel ng F B φ' (o.dst :: c) (v :: e) s' a' cs' w' → Stp φ s.heap w φ' s'.heap w' → s'.below.isSome = s.below.isSome →
      opsG P s.below.isSome ops Q rest a' cs' w')
    (hout : ∀ x s', (operFn ao).run R e s = .out x s' → ∀ (φ' : Phi) (ex : Exit) (w' : World), IRel ng F B φ' c e s' a cs w' → Stp φ s.heap w φ' s'.heap w' → ExRel φ' x ex → s'.below.isSome = s.below.isSome → Q ex a cs w')
    (hlost : (operFn ao).run R e s ≠ .lost) : opsG P s.below.isSome ops Q (i :: rest) a cs w := by
  unfold cOper at hao
  by_cases hd : dstOk F.ntmps o.dst = true
  · rw [if_pos hd] at hao
    simp only [Option.bind_eq_some_iff, Option.map_eq_some_iff] at hao
    obtain ⟨g, hg, op, hop, rfl⟩ := hao
    have hdst : ∀ d, o.dst = some d → d < F.ntmps := by
      intro d hde
      rw [hde] at hd
      exact blt_iff.1 hd
    have hgok := guard_ok h hg
    -- the place that keeps the result
    have dst_on : ∀ (f : OpFn) v s', f.run R e s = .on v s' → (dstFn (o.dst.filter (isLive F.np F.live)) f).run R e s = .on v ⟨match o.dst.filter (isLive F.np F.live) with | some d => (putFn (Nat.succ d) d).run v s'.regs | none => s'.regs, s'.heap, s'.defers, s'.below⟩ := by
      intro f v s' hf
      unfold dstFn
      cases o.dst.filter (isLive F.np F.live) <;> simp only [hf]
    have dst_out : ∀ (f : OpFn) x s', f.run R e s = .out x s' → (dstFn (o.dst.filter (isLive F.np F.live)) f).run R e s = .out x s' := by
      intro f x s' hf
      unfold dstFn
      cases o.dst.filter (isLive F.np F.live) <;> simp only [hf]
    have dst_lost : ∀ (f : OpFn), f.run R e s = .lost → (dstFn (o.dst.filter (isLive F.np F.live)) f).run R e s = .lost := by
      intro f hf
      unfold dstFn
      cases o.dst.filter (isLive F.np F.live) <;> simp only [hf]
    have wanted_case : Region.wanted o (yielded ops a.tmps) = true → (guardFn g (opFn op)).run R e s = (opFn op).run R e s → opsG P s.below.isSome ops Q (i :: rest) a cs w := by
      intro hw hge
      refine went_ok hP hR h ho hw hop hdst ?_ ?_ ?_
      · intro v s' hr φ' cv a' cs' w' hext hh hst hv hregs htmps hdf hbl hsome
        refine hon v _ (dst_on _ v s' (hge.trans hr)) φ' _ cs' w' ?_ hst hsome
        have := h.put hdst hext hh hv hdf hbl
        rw [hregs]
        have ha' : a' = { a with defers := a'.defers } := by
          cases a'; simp only at htmps; subst htmps; rfl
        rw [ha']
        exact this
      · intro x s' hr φ' ex w' hi hst hex hsome
        exact hout x s' (dst_out _ x s' (hge.trans hr)) φ' ex w' hi hst hex hsome
      · intro hr
        exact hlost (dst_lost _ (hge.trans hr))
    cases g with
    | none => exact wanted_case hgok rfl
    | some q =>
      obtain ⟨x, want⟩ := q
      cases hm : guardMet (x.ev e s.regs) want with
      | none =>
        exfalso
        exact hlost (dst_lost _ (by simp only [guardFn, hm]))
      | some b =>
        have hw := hgok b hm
        cases b with
        | true => exact wanted_case hw (by simp only [guardFn, hm])
        | false =>
          refine opsG_skip ho hw ?_
          refine hon .undef _ (dst_on _ .undef s (by simp only [guardFn, hm])) φ (a.put o.dst undef) cs w ?_ (Stp.refl _ _ _) rfl
          exact h.put hdst (Ext.refl _) h.heap VRel.undef h.defers h.below
  · rw [if_neg hd] at hao; cases hao

/-- The operations of a region, one behind the other. -/
theorem opsFn_cons (o : AOper) (os : List AOper) (R : Runner) (e : Env) (s : St) : (opsFn (o :: os)).run R e s = match (operFn o).run R e s with
    | .on v s' => (opsFn os).run R (v :: e) s'
    | .out x s' => some (x, s')
    | .lost => none := by
  obtain ⟨dst, guard, op⟩ := o
  cases guard with
  | some g => cases dst <;> cases op <;> rfl
  | none =>
    cases dst with
    | some d => cases op <;> rfl
    | none =>
      cases op with
      | mov x => rfl
      | w f => rfl
      | d f =>
        simp only [opsFn, operFn, dstFn, guardFn, opFn]
        cases hf : f.f e s.regs with
        | val v => rfl
        | _ =>
          simp only
          cases runD s.heap _ with
          | none => rfl
          | some q => obtain ⟨v, h⟩ := q; rfl

theorem ops_ok (hP : P.globals.size = ng) (hR : CallOk P ng R) {φ₀ : Phi} {h₀ : AHeap} {w₀ : World} {x : AEx} {s' : St} {dfd : Bool}
    (hQ : ∀ (φ' : Phi) (ex : Exit) (a' : Act) (cs' : List Frame) (w' : World), SRel ng F B φ' s' a' cs' w' → Stp φ₀ h₀ w₀ φ' s'.heap w' → ExRel φ' x ex → s'.below.isSome = dfd → Q ex a' cs' w') :
    ∀ (rest : List Oper) (i : Nat) (c : Ctx) (l : List AOper) (e : Env) (s : St) (φ : Phi) (a : Act) (cs : List Frame) (w : World), (∀ j, rest[j]? = ops[i + j]?) → cOpers P F ops rest c = some l →
      (opsFn l).run R e s = some (x, s') → IRel ng F B φ c e s a cs w → Stp φ₀ h₀ w₀ φ s.heap w → s.below.isSome = dfd → opsG P dfd ops Q (List.range' i rest.length) a cs w
  | [], i, c, l, e, s, φ, a, cs, w, hi, hl, hr, h, hst, hb => by
    simp only [cOpers, Option.some.injEq] at hl
    subst hl
    simp only [opsFn, Option.some.injEq, Prod.mk.injEq] at hr
    obtain ⟨rfl, rfl⟩ := hr
    exact opsG_nil (hQ φ .normal a cs w h.close hst trivial hb)
  | o :: rest, i, c, l, e, s, φ, a, cs, w, hi, hl, hr, h, hst, hb => by
    simp only [cOpers, Option.bind_eq_some_iff, Option.map_eq_some_iff] at hl
    obtain ⟨ao, hao, l', hl', rfl⟩ := hl
    rw [opsFn_cons] at hr
    have ho : ops[i]? = some o := by have := hi 0; simpa using this.symm
    rw [List.length_cons, List.range'_succ]
    subst hb
    refine oper_ok hP hR h ho hao ?_ ?_ ?_
    · intro v s₁ hgo φ' a' cs' w' hi' hst' hb'
      rw [hgo] at hr
      simp only at hr
      exact ops_ok hP hR hQ rest (i + 1) (o.dst :: c) l' (v :: e) s₁ φ' a' cs' w' (fun j => by have := hi (j + 1); rw [List.getElem?_cons_succ] at this; rw [this]; congr 1; omega) hl' hr hi' (hst.trans hst') hb'
    · intro x₁ s₁ hgo φ' ex w' hi' hst' hex hb'
      rw [hgo] at hr
      simp only [Option.some.injEq, Prod.mk.injEq] at hr
      obtain ⟨rfl, rfl⟩ := hr
      exact hQ φ' ex a cs w' hi'.close (hst.trans hst') hex hb'
    · intro hgo
      rw [hgo] at hr
      cases hr

end
end Go.Abs
