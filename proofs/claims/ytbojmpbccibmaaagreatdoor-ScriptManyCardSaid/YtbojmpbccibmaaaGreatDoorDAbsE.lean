/- The abstract machine: rules for code, for a frame of any kind. -/
import Derived.Test.YtbojmpbccibmaaaGreatDoorDAbsD
import Derived.Scope
import Derived.Recover
import Derived.Orders
set_option linter.unusedVariables false
set_option linter.unusedSimpArgs false
set_option linter.unusedSectionVars false
set_option linter.deprecated false
namespace Go.Abs
variable [Fct] [Val]

/-- What is demanded of the frame: nothing; or that it is a deferred call's. -/
def KindOk (dfd : Bool) (b : Frame) : Prop := dfd = true → b.kind = .deferred ∧ b.roundOf = none

abbrev Post := Exit → Act → List Frame → World → Prop

/-- Code, for a frame of a kind, above certain callers. -/
def wpG (P : Program) (dfd : Bool) (c : Code) (Q : Post) (a : Act) (cs : List Frame) (w : World) : Prop :=
  ∀ (b : Frame) (k : List Item), KindOk dfd b → ∃ e a' cs' w', Q e a' cs' w' ∧ Arrives P (lone (b.at a (.code c :: k)) cs w) b k cs' e a' w'

/-- The same where a loop's body is at its end. -/
def wpL (P : Program) (dfd : Bool) (c : Code) (Q : Post) (a : Act) (cs : List Frame) (w : World) : Prop :=
  ∀ (b : Frame) (k : List Item), KindOk dfd b → ∃ e a' cs' w', Q e a' cs' w' ∧ Arrives P (lone (b.at a (.inLoop c :: k)) cs w) b k cs' e a' w'

section
variable {P : Program} {dfd : Bool} {Q : Post} {a : Act} {cs : List Frame} {w : World}

theorem wpG.mono {c : Code} {Q' : Post} (h : wpG P dfd c Q' a cs w) (hq : ∀ e a cs w, Q' e a cs w → Q e a cs w) : wpG P dfd c Q a cs w :=
  fun b k hb => let ⟨e, a', cs', w', q, r⟩ := h b k hb; ⟨e, a', cs', w', hq _ _ _ _ q, r⟩

theorem wpG_of_wp {c : Code} (h : c.wp P (fun e a' w' => Q e a' cs w') a w) : wpG P dfd c Q a cs w :=
  fun b k _ => let ⟨e, a', w', q, r⟩ := h b k cs; ⟨e, a', cs, w', q, r⟩

theorem wpG_of_wpS {c : Code} (h : c.wpS P Q a cs w) : wpG P true c Q a cs w :=
  fun b k hb => h b k (hb rfl).1 (hb rfl).2

theorem wpS_of_wpG {c : Code} (h : wpG P true c Q a cs w) : c.wpS P Q a cs w :=
  fun b k h1 h2 => h b k fun _ => ⟨h1, h2⟩

theorem wpG_skip (h : Q .normal a cs w) : wpG P dfd .skip Q a cs w := fun _ _ _ => ⟨.normal, a, cs, w, h, .one step_skip⟩
theorem wpG_label {l : Nat} (h : Q .normal a cs w) : wpG P dfd (.label l) Q a cs w := fun _ _ _ => ⟨.normal, a, cs, w, h, .one step_label⟩
theorem wpG_exit {id : Nat} (h : Q (.exit id) a cs w) : wpG P dfd (.exit id) Q a cs w :=
  fun _ _ _ => ⟨.exit id, a, cs, w, h, fun _ hk => .one (step_exit hk)⟩
theorem wpG_ret (h : Q .ret a cs w) : wpG P dfd .ret Q a cs w := fun _ _ _ => ⟨.ret, a, cs, w, h, _, .one step_ret⟩

/-- The exits of a part, passed on over an item. -/
theorem arrives_pass {m : Machine} {b : Frame} {x : Item} {k : List Item} {e : Exit} (hx : x.plain = true) (he : e ≠ .normal) (h : Arrives P m b (x :: k) cs e a w) : Arrives P m b k cs e a w :=
  .pass hx (fun _ _ => .inl he) h

theorem wpG_seq {x y : Code} (h : wpG P dfd x (Exit.thenS (wpG P dfd y Q) Q) a cs w) : wpG P dfd (.seq x y) Q a cs w := by
  intro b k hb
  obtain ⟨e, a₁, cs₁, w₁, hq, harr⟩ := h b (.code y :: k) hb
  cases e with
  | normal =>
    obtain ⟨e₂, a₂, cs₂, w₂, hq₂, harr₂⟩ := hq b k hb
    exact ⟨e₂, a₂, cs₂, w₂, hq₂, .of_steps (.head step_seq harr) harr₂⟩
  | _ => exact ⟨_, a₁, cs₁, w₁, hq, .of_steps (.one step_seq) (arrives_pass (x := .code y) rfl (by simp) harr)⟩

theorem wpG_cond {c : Operand} {x y : Code} {t : Bool} (hc : a.eval c = .bool t) (h : wpG P dfd (if t then x else y) Q a cs w) : wpG P dfd (.cond c x y) Q a cs w :=
  fun b k hb => let ⟨e, a', cs', w', q, r⟩ := h b k hb; ⟨e, a', cs', w', q, .of_steps (.one (step_cond hc)) r⟩

def inBlockS (id : Nat) (Q : Post) : Post
  | .exit id', a, cs, w => if id' = id then Q .normal a cs w else Q (.exit id') a cs w
  | e, a, cs, w => Q e a cs w

theorem wpG_block {id : Nat} {c : Code} (h : wpG P dfd c (inBlockS id Q) a cs w) : wpG P dfd (.block id c) Q a cs w := by
  intro b k hb
  obtain ⟨e, a₁, cs₁, w₁, hq, harr⟩ := h b (.inBlock id :: k) hb
  cases e with
  | normal => exact ⟨.normal, a₁, cs₁, w₁, hq, .head step_block (Steps.trans harr (.one step_inBlock))⟩
  | exit id' =>
    by_cases hid : id' = id
    · simp only [inBlockS, hid, if_true] at hq
      exact ⟨.normal, a₁, cs₁, w₁, hq, .head step_block (harr k (by simp [exitTo, hid]))⟩
    · simp only [inBlockS, hid, if_false] at hq
      refine ⟨.exit id', a₁, cs₁, w₁, hq, fun k' hk => .head step_block (harr k' ?_)⟩
      have : (id == id') = false := by simp; exact fun h => hid h.symm
      simp [exitTo, this, hk]
  | goto l => exact ⟨_, a₁, cs₁, w₁, hq, fun k' hk => .head step_block (harr k' (by simp [gotoIn, hk]))⟩
  | ret => exact ⟨_, a₁, cs₁, w₁, hq, .of_steps (.one step_block) harr⟩
  | panic ch => exact ⟨_, a₁, cs₁, w₁, hq, .of_steps (.one step_block) harr⟩
  | outgrown => exact ⟨_, a₁, cs₁, w₁, hq, .of_steps (b := b) (k := k) (cs := cs₁) (e := .outgrown) (.one step_block) harr⟩

/-- A round of a loop, told from its start; then the loop's end. -/
theorem loop_round {c : Code} (h : wpG P dfd c (Exit.thenS (wpL P dfd c Q) Q) a cs w) (b : Frame) (k : List Item) (hb : KindOk dfd b) :
    ∃ e a' cs' w', Q e a' cs' w' ∧ Arrives P (lone (b.at a (.code c :: .inLoop c :: k)) cs w) b k cs' e a' w' := by
  obtain ⟨e, a₁, cs₁, w₁, hq, harr⟩ := h b (.inLoop c :: k) hb
  cases e with
  | normal =>
    obtain ⟨e₂, a₂, cs₂, w₂, hq₂, harr₂⟩ := hq b k hb
    exact ⟨e₂, a₂, cs₂, w₂, hq₂, .of_steps harr harr₂⟩
  | _ => exact ⟨_, a₁, cs₁, w₁, hq, arrives_pass (x := .inLoop c) rfl (by simp) harr⟩

theorem wpG_loop {c : Code} (h : wpG P dfd c (Exit.thenS (wpL P dfd c Q) Q) a cs w) : wpG P dfd (.loop c) Q a cs w :=
  fun b k hb => let ⟨e, a', cs', w', q, r⟩ := loop_round h b k hb; ⟨e, a', cs', w', q, .of_steps (.one step_loop) r⟩

theorem wpL_loop {c : Code} (h : wpG P dfd c (Exit.thenS (wpL P dfd c Q) Q) a cs w) : wpL P dfd c Q a cs w :=
  fun b k hb => let ⟨e, a', cs', w', q, r⟩ := loop_round h b k hb; ⟨e, a', cs', w', q, .of_steps (.one step_inLoop) r⟩

def noGotoS (Q : Post) : Post
  | .goto _, _, _, _ => False
  | e, a, cs, w => Q e a cs w

theorem wpG_scope {c : Code} (h : wpG P dfd c (noGotoS Q) a cs w) : wpG P dfd (.scope c) Q a cs w := by
  intro b k hb
  obtain ⟨e, a₁, cs₁, w₁, hq, harr⟩ := h b (.inScope c :: k) hb
  cases e with
  | normal => exact ⟨.normal, a₁, cs₁, w₁, hq, .head step_scope (Steps.trans harr (.one step_inScope))⟩
  | exit id => exact ⟨.exit id, a₁, cs₁, w₁, hq, fun k' hk => .head step_scope (harr k' (by simp [exitTo, hk]))⟩
  | goto l => exact hq.elim
  | ret => exact ⟨_, a₁, cs₁, w₁, hq, .of_steps (.one step_scope) harr⟩
  | panic ch => exact ⟨_, a₁, cs₁, w₁, hq, .of_steps (.one step_scope) harr⟩
  | outgrown => exact ⟨_, a₁, cs₁, w₁, hq, .of_steps (b := b) (k := k) (cs := cs₁) (e := .outgrown) (.one step_scope) harr⟩

end

/-! ### How a run of the abstract machine stands to one of the model -/

def DRels (φ : Phi) : List ADef → List Deferred → Prop
  | [], l => l = []
  | d :: ds, l => ∃ cd r, l = cd :: r ∧ DRel φ d cd ∧ DRels φ ds r

def ChRel (φ : Phi) : Chain → List PanicEntry → Prop
  | [], l => l = []
  | p :: ps, l => ∃ cv r, l = { v := cv, recovered := p.2, goexit := false } :: r ∧ VRel φ p.1 cv ∧ ChRel φ ps r

theorem DRel.mono {φ φ' : Phi} (h : Ext φ φ') {d : ADef} {cd : Deferred} (k : DRel φ d cd) : DRel φ' d cd :=
  let ⟨a, b, h1, h2⟩ := k; ⟨a, b, h1, h2.mono h⟩

theorem DRels.mono {φ φ' : Phi} (h : Ext φ φ') : ∀ {d : List ADef} {cd : List Deferred}, DRels φ d cd → DRels φ' d cd
  | [], _, k => k
  | _ :: _, _, ⟨cd, r, h1, h2, h3⟩ => ⟨cd, r, h1, h2.mono h, DRels.mono h h3⟩

theorem ChRel.mono {φ φ' : Phi} (h : Ext φ φ') : ∀ {d : Chain} {cd : List PanicEntry}, ChRel φ d cd → ChRel φ' d cd
  | [], _, k => k
  | _ :: _, _, ⟨cd, r, h1, h2, h3⟩ => ⟨cd, r, h1, h2.mono h, ChRel.mono h h3⟩

theorem ChRel.append {φ : Phi} : ∀ {a b : Chain} {c d : List PanicEntry}, ChRel φ a c → ChRel φ b d → ChRel φ (a ++ b) (c ++ d)
  | [], _, _, _, h, k => by simp only [ChRel] at h; subst h; exact k
  | _ :: _, _, _, _, ⟨v, r, e, h, l⟩, k => ⟨v, r ++ _, by rw [e]; rfl, h, ChRel.append l k⟩

/-- The mode of the frame below a deferred call. -/
def ModeRel (φ : Phi) : Option Chain → FrameMode → Prop
  | none, u => u = .returning
  | some c, u => ∃ cc, u = .panicking cc ∧ ChRel φ c cc

theorem ModeRel.mono {φ φ' : Phi} (h : Ext φ φ') : ∀ {m : Option Chain} {u : FrameMode}, ModeRel φ m u → ModeRel φ' m u
  | none, _, k => k
  | some _, _, ⟨cc, h1, h2⟩ => ⟨cc, h1, h2.mono h⟩

/-- Callers: in a plain call they stay; in a deferred one the mode of the first may turn. -/
def BelowRel (φ : Phi) (c₀ : Frame) (rest : List Frame) (cs₀ : List Frame) : Option (Option Chain) → List Frame → Prop
  | none, cs => cs = cs₀
  | some m, cs => ∃ u, cs = { c₀ with mode := u } :: rest ∧ ModeRel φ m u

end Go.Abs

/- The abstract machine: one operation, and a region that is carried out in its text's order. -/
namespace Go.Abs
variable [Fct] [Val]

/-! ### What reads and makes -/

theorem runD_ok {P : Program} {ng : Nat} {φ : Phi} {h h' : AHeap} {w : World} {s : Sem Next} {d : DRes} {v : AV} (hd : DOk P φ s d) (H : HRel ng φ h w) (hr : runD h d = some (v, h')) :
    ∃ cv w' φ', s.run P w = .ok (.value cv) w' ∧ VRel φ' v cv ∧ HRel ng φ' h' w' ∧ Stp φ h w φ' h' w' := by
  cases d with
  | val v' =>
    simp only [runD, Option.some.injEq, Prod.mk.injEq] at hr
    obtain ⟨rfl, rfl⟩ := hr
    obtain ⟨cv, h1, h2⟩ := hd
    exact ⟨cv, w, φ, h1 w, h2, H, Stp.refl _ _ _⟩
  | read i o n f =>
    simp only [runD] at hr
    split at hr
    · rename_i cs hcs
      split at hr
      · rename_i v' hv
        simp only [Option.some.injEq, Prod.mk.injEq] at hr
        obtain ⟨rfl, rfl⟩ := hr
        obtain ⟨hun, hd⟩ := hd
        have hg : ∃ blk, h.get i = some blk := by
          unfold AHeap.cellsAt at hcs
          cases hg : h.get i with
          | none => rw [hg] at hcs; cases hcs
          | some blk => exact ⟨blk, rfl⟩
        obtain ⟨blk, hg⟩ := hg
        obtain ⟨b, p, m, hφ, _⟩ := at_of H hg hun
        obtain ⟨vs, t, fz, h1, h2, h3, h4⟩ := loads_of H hcs hφ
        obtain ⟨cv, h5, h6⟩ := hd b p m vs t fz w hφ h1 h2 h4 cs h3 v' hv
        exact ⟨cv, w, φ, h5, h6, H, Stp.refl _ _ _⟩
      · cases hr
    · cases hr
  | readT i o ts v' =>
    simp only [runD] at hr
    split at hr
    · rename_i m c t ro hg
      rw [T.ifB_eq] at hr
      split at hr
      · rename_i hc
        simp only [Option.some.injEq, Prod.mk.injEq] at hr
        obtain ⟨rfl, rfl⟩ := hr
        obtain ⟨hun, hd⟩ := hd
        simp only [Bool.and_eq_true, ble_iff, Bool.not_eq_true', List.any_eq_true, beq_iff] at hc
        obtain ⟨h1, h2, q, hq, hq1, hq2⟩ := hc
        obtain ⟨b, p, n, hφ, vs, u, fz, hb1, hb2, hb3, hb4, hb5, hb6⟩ := at_of H hg hun
        obtain ⟨rfl, rfl⟩ := hb6 (nat_beq_false h2)
        obtain ⟨cv, h5, h6⟩ := hd b n vs u q.2 fz w hφ hb1 (by omega) (by simp only [Nat.succ_eq_add_one] at h1; omega) (by rw [← hq1]; exact hq) (by omega)
        exact ⟨cv, w, φ, h5, h6, H, Stp.refl _ _ _⟩
      · cases hr
    · cases hr
  | readMap i f =>
    simp only [runD] at hr
    split at hr
    · rename_i es clock hg
      split at hr
      · rename_i v' hv
        simp only [Option.some.injEq, Prod.mk.injEq] at hr
        obtain ⟨rfl, rfl⟩ := hr
        obtain ⟨hun, hd⟩ := hd
        obtain ⟨b, p, n, hφ, ces, hb1, hb2⟩ := at_of H hg hun
        obtain ⟨cv, h5, h6⟩ := hd b p n ces clock w hφ hb1 es hb2 v' hv
        exact ⟨cv, w, φ, h5, h6, H, Stp.refl _ _ _⟩
      · cases hr
    · cases hr
  | readX i id sc off n f =>
    simp only [runD] at hr
    split at hr
    · rename_i cs hcs
      split at hr
      · rename_i v' hv
        simp only [Option.some.injEq, Prod.mk.injEq] at hr
        obtain ⟨rfl, rfl⟩ := hr
        obtain ⟨⟨hun, h0, hn⟩, hd⟩ := hd
        have hg : ∃ blk, h.get i = some blk := by
          unfold AHeap.cellsX at hcs
          cases hg : h.get i with
          | none => rw [hg] at hcs; cases hcs
          | some blk => exact ⟨blk, rfl⟩
        obtain ⟨blk, hg⟩ := hg
        obtain ⟨b, p, m, hφ, _⟩ := at_of H hg hun
        obtain ⟨vs, t, fz, h1, h2, h3, h4⟩ := loadsX_of H hcs h0 hφ hn
        obtain ⟨cv, h5, h6⟩ := hd b p m vs t fz w hφ h1 h2 h4 cs h3 v' hv
        exact ⟨cv, w, φ, h5, h6, H, Stp.refl _ _ _⟩
      · cases hr
    · cases hr
  | new b mk =>
    simp only [runD, Option.some.injEq, Prod.mk.injEq] at hr
    obtain ⟨rfl, rfl⟩ := hr
    obtain ⟨o, n, cv, h1, h2, h3⟩ := hd w
    have hext : Ext φ (upd φ h.next (.at w.heap.size 0 n)) := Ext.upd (by rw [H.fresh _ (Nat.le_refl _)]; trivial)
    have hst := step_new H b o n (h2 _ hext)
    exact ⟨cv, _, _, h1, h3 _ _ (upd_same _ _ _), hst.1, hst.2⟩
  | bad => simp [runD] at hr

/-! ### The relation -/

structure Base where
  c₀ : Frame
  rest : List Frame
  cs₀ : List Frame

structure IRel (ng : Nat) (F : Frm) (B : Base) (φ : Phi) (c : Ctx) (e : Env) (s : St) (a : Act) (cs : List Frame) (w : World) : Prop where
  heap : HRel ng φ s.heap w
  ctx : CtxOk φ c e s.regs a.tmps
  sync : ∀ t k, locOf t c 0 = some k → isLive F.np F.live t = true → s.regs.val t = locAt e k
  live : ∀ t, isLive F.np F.live t = false → s.regs.val t = .junk
  size : F.ntmps ≤ a.tmps.size
  defers : DRels φ s.defers a.defers
  below : BelowRel φ B.c₀ B.rest B.cs₀ s.below cs

abbrev SRel (ng : Nat) (F : Frm) (B : Base) (φ : Phi) (s : St) (a : Act) (cs : List Frame) (w : World) : Prop := IRel ng F B φ [] [] s a cs w

def ExRel (φ : Phi) : AEx → Exit → Prop
  | .normal, .normal => True
  | .exit i, .exit j => i = j
  | .ret, .ret => True
  | .panic c, .panic cc => ChRel φ c cc
  | _, _ => False

def EndRel (φ : Phi) : AEnd → Ending → Prop
  | .returned v, .returned cv => VRel φ v cv
  | .panicked c, .panicked cc => ChRel φ c cc
  | _, _ => False

theorem BelowRel.mono {φ φ' : Phi} (h : Ext φ φ') {c₀ : Frame} {rest cs₀ : List Frame} : ∀ {m : Option (Option Chain)} {cs : List Frame}, BelowRel φ c₀ rest cs₀ m cs → BelowRel φ' c₀ rest cs₀ m cs
  | none, _, k => k
  | some _, _, ⟨u, h1, h2⟩ => ⟨u, h1, h2.mono h⟩

theorem CtxOk.mono {φ φ' : Phi} (h : Ext φ φ') {c : Ctx} {e : Env} {r : Regs} {tmps : Array Value} (k : CtxOk φ c e r tmps) : CtxOk φ' c e r tmps :=
  fun t => (k t).mono h

/-- A region's knowledge, at its end. -/
theorem IRel.close {ng : Nat} {F : Frm} {B : Base} {φ : Phi} {c : Ctx} {e : Env} {s : St} {a : Act} {cs : List Frame} {w : World} (h : IRel ng F B φ c e s a cs w) : SRel ng F B φ s a cs w := by
  refine ⟨h.heap, fun t => ?_, fun t k ht => by simp [locOf] at ht, h.live, h.size, h.defers, h.below⟩
  have ht := h.ctx t
  simp only [locOf]
  cases hl : locOf t c 0 with
  | none => rw [hl] at ht; exact ht
  | some k =>
    rw [hl] at ht
    simp only at ht
    cases hlv : isLive F.np F.live t with
    | true => rw [h.sync t k hl hlv]; exact ht
    | false => rw [h.live t hlv]; trivial

theorem locOf_shift (t : Nat) : ∀ (c : Ctx) (k : Nat), locOf t c (k + 1) = (locOf t c k).map (· + 1)
  | [], k => rfl
  | d :: c, k => by
    simp only [locOf]
    split
    · rfl
    · exact locOf_shift t c (k + 1)

theorem locOf_cons (t : Nat) (d : Option Nat) (c : Ctx) : locOf t (d :: c) 0 = if d == some t then some 0 else (locOf t c 0).map (· + 1) := by
  simp only [locOf, locOf_shift t c 0]

/-- What the frame's places become behind an operation. -/
theorem IRel.put {ng : Nat} {F : Frm} {B : Base} {φ φ' : Phi} {c : Ctx} {e : Env} {s : St} {a : Act} {cs : List Frame} {w : World} (h : IRel ng F B φ c e s a cs w) {dst : Option Nat} (hdst : ∀ d, dst = some d → d < F.ntmps)
    {v : AV} {cv : Value} {hp : AHeap} {w' : World} {df : List ADef} {cdf : List Deferred} {bl : Option (Option Chain)} {cs' : List Frame} (hext : Ext φ φ') (hh : HRel ng φ' hp w') (hv : VRel φ' v cv) (hd : DRels φ' df cdf) (hb : BelowRel φ' B.c₀ B.rest B.cs₀ bl cs') :
    IRel ng F B φ' (dst :: c) (v :: e) ⟨match dst.filter (isLive F.np F.live) with | some d => (putFn (Nat.succ d) d).run v s.regs | none => s.regs, hp, df, bl⟩ (({ a with defers := cdf } : Act).put dst cv) cs' w' := by
  have hlive : dst.filter (isLive F.np F.live) = (match dst with | some d => if isLive F.np F.live d then some d else none | none => none) := by cases dst <;> simp [Option.filter]
  have hval : ∀ t, Regs.val (match dst.filter (isLive F.np F.live) with | some d => (putFn (Nat.succ d) d).run v s.regs | none => s.regs) t = if dst = some t ∧ isLive F.np F.live t = true then v else s.regs.val t := by
    intro t
    rw [hlive]
    cases dst with
    | none => simp
    | some d =>
      simp only
      by_cases hl : isLive F.np F.live d = true
      · rw [if_pos hl]
        simp only [putFn_put, val_put]
        by_cases ht : t = d
        · subst ht; simp [hl]
        · rw [if_neg ht, if_neg (by rintro ⟨h1, _⟩; cases h1; exact ht rfl)]
      · rw [if_neg hl]
        simp only
        rw [if_neg]
        rintro ⟨h1, h2⟩
        cases h1; exact hl h2
  have htmps : ∀ t, (({ a with defers := cdf } : Act).put dst cv).tmps.getD t undef = if dst = some t then cv else a.tmps.getD t undef := by
    intro t
    cases dst with
    | none => simp [Act.put]
    | some d =>
      have hd1 : d < a.tmps.size := Nat.lt_of_lt_of_le (hdst d rfl) h.size
      simp only [Act.put, Array.getD_eq_getD_getElem?, Array.getElem?_setIfInBounds]
      by_cases ht : d = t
      · subst ht; simp [hd1]
      · simp [ht]
  refine ⟨hh, fun t => ?_, fun t k hk hl => ?_, fun t hl => ?_, ?_, ?_, hb⟩
  · rw [htmps, locOf_cons]
    by_cases ht : dst = some t
    · subst ht; simp; exact hv
    · rw [if_neg ht]
      have hne : (dst == some t) = false := by simpa using ht
      rw [hne]
      simp only [Bool.false_eq_true, if_false]
      have := (h.ctx t).mono hext
      cases hloc : locOf t c 0 with
      | none =>
        rw [hloc] at this
        simp only [Option.map_none]
        rw [hval, if_neg (by rintro ⟨h1, _⟩; exact ht h1)]
        exact this
      | some k => rw [hloc] at this; simpa using this
  · rw [locOf_cons] at hk
    simp only
    rw [hval]
    by_cases ht : dst = some t
    · subst ht
      simp at hk; subst hk
      rw [if_pos ⟨rfl, hl⟩]; rfl
    · have hne : (dst == some t) = false := by simpa using ht
      rw [hne] at hk
      simp only [Bool.false_eq_true, if_false, Option.map_eq_some_iff] at hk
      obtain ⟨k', hk', rfl⟩ := hk
      rw [if_neg (by rintro ⟨h1, _⟩; exact ht h1)]
      exact h.sync t k' hk' hl
  · simp only
    rw [hval, if_neg (by rintro ⟨_, h2⟩; rw [hl] at h2; cases h2)]
    exact h.live t hl
  · have : (({ a with defers := cdf } : Act).put dst cv).tmps.size = a.tmps.size := by cases dst <;> simp [Act.put]
    rw [this]; exact h.size
  · have : (({ a with defers := cdf } : Act).put dst cv).defers = cdf := by cases dst <;> rfl
    rw [this]; exact hd

end Go.Abs

/- The abstract machine: regions that are carried out in their text's order. -/
namespace Go.Abs
variable [Fct] [Val]

/-- A runner's calls are the model's. -/
def CallOk (P : Program) (ng : Nat) (R : Runner) : Prop :=
  ∀ f args h en h', R.call f args h = some (en, h') → Callable P f ∧ ∀ φ w cargs, HRel ng φ h w → VRels φ args cargs.toList →
    Calls P f cargs w fun e w' => ∃ φ', HRel ng φ' h' w' ∧ Stp φ h w φ' h' w' ∧ EndRel φ' en e

/-! ### The operations of a region, for a frame of any kind -/

def opsG (P : Program) (dfd : Bool) (ops : Array Oper) (Q : Post) (l : List Nat) (a : Act) (cs : List Frame) (w : World) : Prop :=
  match dfd with
  | false => wpOps P ops (fun e a w => Q e a cs w) l a w
  | true => wpOpsS P ops Q l a cs w

section
variable {P : Program} {dfd : Bool} {ops : Array Oper} {Q : Post} {a : Act} {cs : List Frame} {w : World}

theorem wpG_region {id : Nat} (h : opsG P dfd ops Q (List.range ops.size) a cs w) : wpG P dfd (.region id ops false) Q a cs w := by
  cases dfd with
  | false => exact wpG_of_wp (wp_region h)
  | true => exact wpG_of_wpS (wpS_region h)

theorem opsG_nil (h : Q .normal a cs w) : opsG P dfd ops Q [] a cs w := by cases dfd <;> exact h

theorem opsG_skip {i : Nat} {rest : List Nat} {o : Oper} (ho : ops[i]? = some o) (hw : Region.wanted o (yielded ops a.tmps) = false) (h : opsG P dfd ops Q rest (a.put o.dst undef) cs w) : opsG P dfd ops Q (i :: rest) a cs w := by
  cases dfd with
  | false => simp only [opsG, wpOps, ho, hw]; exact h
  | true => simp only [opsG, wpOpsS, ho, hw]; exact h

theorem opsG_upon {i : Nat} {rest : List Nat} {o : Oper} (ho : ops[i]? = some o) (hw : Region.wanted o (yielded ops a.tmps) = true) {r : Result Next} (hr : (execOp a.eval o).run P w = r) (hnr : ∀ w', r ≠ .ok .recover w')
    (h : o.upon P a (fun a' w' => opsG P dfd ops Q rest a' cs w') (fun e a' w' => Q e a' cs w') r) : opsG P dfd ops Q (i :: rest) a cs w := by
  cases dfd with
  | false =>
    simp only [opsG, wpOps, ho, hw, if_true]
    left
    unfold Oper.wp
    rw [hr]; exact h
  | true =>
    simp only [opsG, wpOpsS, ho, hw, if_true]
    rw [hr]
    cases r with
    | halt x w2 => exact h
    | ok n w2 =>
      cases n with
      | recover => exact absurd rfl (hnr w2)
      | _ => exact h

theorem opsG_recover {i : Nat} {rest : List Nat} {o : Oper} (ho : ops[i]? = some o) (hw : Region.wanted o (yielded ops a.tmps) = true) {w' : World} (hr : (execOp a.eval o).run P w = .ok .recover w')
    (h : match recoverD cs with | some (v, cs') => opsG P true ops Q rest (a.put o.dst v) cs' w' | none => opsG P true ops Q rest (a.put o.dst .nilIface) cs w') : opsG P true ops Q (i :: rest) a cs w := by
  simp only [opsG, wpOpsS, ho, hw, if_true, hr]
  split
  · rename_i v cs' e; rw [e] at h; exact h
  · rename_i e; rw [e] at h; exact h

end

/-! ### Guards -/

def GuardOk (ops : Array Oper) (o : Oper) (tmps : Array Value) (e : Env) (r : Regs) : Option (Opd × Bool) → Prop
  | none => Region.wanted o (yielded ops tmps) = true
  | some (x, want) => ∀ b, guardMet (x.ev e r) want = some b → Region.wanted o (yielded ops tmps) = b

theorem guard_ok {P : Program} {ng : Nat} {F : Frm} {B : Base} {φ : Phi} {c : Ctx} {e : Env} {s : St} {a : Act} {cs : List Frame} {w : World} (h : IRel ng F B φ c e s a cs w) {ops : Array Oper} {o : Oper} {g : Option (Opd × Bool)}
    (hg : cGuard P ops c o.guard = some g) : GuardOk ops o a.tmps e s.regs g := by
  cases hgu : o.guard with
  | none => rw [hgu] at hg; cases hg; simp [GuardOk, Region.wanted, hgu]
  | some q =>
    obtain ⟨j, want⟩ := q
    rw [hgu] at hg
    simp only [cGuard, Option.bind_eq_some_iff, Option.map_eq_some_iff] at hg
    obtain ⟨t, ⟨oj, ho1, ho2⟩, x, hx, rfl⟩ := hg
    intro b hb
    simp only [Region.wanted, hgu]
    have hv : VRel φ (x.ev e s.regs) (a.tmps.getD t undef) := by
      have := h.ctx t
      simp only [cOpd] at hx
      cases hl : locOf t c 0 with
      | none => rw [hl] at hx this; cases hx; simpa using this
      | some k => rw [hl] at hx this; cases hx; simpa using this
    have hy : yielded ops a.tmps j = (match a.tmps[t]? with | some (.bool b) => some b | _ => none) := by
      simp only [yielded, ho1, Option.bind_some, ho2]
      rfl
    unfold guardMet at hb
    split at hb
    · rename_i b' ex
      rw [ex] at hv
      simp only [VRel] at hv
      simp only [Option.some.injEq] at hb
      have ht : a.tmps[t]? = some (.bool b') := by
        rw [Array.getD_eq_getD_getElem?] at hv
        cases hq : a.tmps[t]? with
        | none => rw [hq] at hv; cases hv
        | some v => rw [hq] at hv; simp at hv; rw [hv]
      rw [hy, ht, ← hb]
      cases b' <;> cases want <;> rfl
    · rename_i ex
      rw [ex] at hv
      obtain ⟨vs, hvs, hvn⟩ := hv
      simp only [Option.some.injEq] at hb
      subst hb
      have ht : yielded ops a.tmps j = none := by
        rw [hy]
        rw [Array.getD_eq_getD_getElem?] at hvs
        cases hq : a.tmps[t]? with
        | none => rfl
        | some v => rw [hq] at hvs; simp at hvs; rw [hvs]
      rw [ht]; rfl
    · cases hb

/-! ### One operation -/

theorem cOpM_mov {P : Program} {c : Ctx} {op : Op} {x : Opd} (h : cOpM P c op = some (.mov x)) : ∃ y, (op = .move y ∨ op = .assign y) ∧ cOpd P c y = some x := by
  unfold cOpM at h
  split at h
  · simp only [Option.map_eq_some_iff] at h
    obtain ⟨x', hx, h⟩ := h
    cases h; exact ⟨_, .inl rfl, hx⟩
  · simp only [Option.map_eq_some_iff] at h
    obtain ⟨x', hx, h⟩ := h
    cases h; exact ⟨_, .inr rfl, hx⟩
  · split at h <;> cases h

theorem cOpM_d {P : Program} {c : Ctx} {op : Op} {f : DFn} (h : cOpM P c op = some (.d f)) : cOp P c op = some (.d f) := by
  unfold cOpM at h
  split at h
  · simp only [Option.map_eq_some_iff] at h; obtain ⟨_, _, h⟩ := h; cases h
  · simp only [Option.map_eq_some_iff] at h; obtain ⟨_, _, h⟩ := h; cases h
  · split at h
    · rename_i hc; cases h; exact hc
    · cases h
    · cases h

theorem cOpM_w {P : Program} {c : Ctx} {op : Op} {f : WFn} (h : cOpM P c op = some (.w f)) : cOp P c op = some (.w f) := by
  unfold cOpM at h
  split at h
  · simp only [Option.map_eq_some_iff] at h; obtain ⟨_, _, h⟩ := h; cases h
  · simp only [Option.map_eq_some_iff] at h; obtain ⟨_, _, h⟩ := h; cases h
  · split at h
    · cases h
    · rename_i hc; cases h; exact hc
    · cases h

/-- What a recover finds. -/
theorem recover_ok {φ : Phi} {B : Base} {m : Option Chain} {u : FrameMode} (h : ModeRel φ m u) :
    (∃ v older cv cs', m = some ((v, false) :: older) ∧ recoverD ({ B.c₀ with mode := u } :: B.rest) = some (cv, cs') ∧ VRel φ v cv ∧ BelowRel φ B.c₀ B.rest B.cs₀ (some (some ((v, true) :: older))) cs') ∨
    ((∀ v older, m ≠ some ((v, false) :: older)) ∧ recoverD ({ B.c₀ with mode := u } :: B.rest) = none) := by
  cases m with
  | none => simp only [ModeRel] at h; subst h; exact .inr ⟨by simp, rfl⟩
  | some c =>
    obtain ⟨cc, rfl, hc⟩ := h
    cases c with
    | nil => simp only [ChRel] at hc; subst hc; exact .inr ⟨by simp, rfl⟩
    | cons p older =>
      obtain ⟨v, rec⟩ := p
      obtain ⟨cv, r, rfl, hv, hr⟩ := hc
      cases rec with
      | true => exact .inr ⟨by simp, rfl⟩
      | false => exact .inl ⟨v, older, cv, _, rfl, rfl, hv, .panicking ({ v := cv, recovered := true } :: r), rfl, _, rfl, cv, r, rfl, hv, hr⟩

section
variable {P : Program} {ng : Nat} {F : Frm} {B : Base} {R : Runner} {ops : Array Oper} {Q : Post}

/-- What an operation with no guard does. -/
theorem went_ok (hP : P.globals.size = ng) (hR : CallOk P ng R) {φ : Phi} {c : Ctx} {e : Env} {s : St} {a : Act} {cs : List Frame} {w : World} (h : IRel ng F B φ c e s a cs w) {i : Nat} {rest : List Nat} {o : Oper} (ho : ops[i]? = some o)
    (hw : Region.wanted o (yielded ops a.tmps) = true) {op : AOp} (hop : cOpM P c o.op = some op) (hdst : ∀ d, o.dst = some d → d < F.ntmps)
    (hon : ∀ v s', (opFn op).run R e s = .on v s' → ∀ (φ' : Phi) (cv : Value) (a' : Act) (cs' : List Frame) (w' : World), Ext φ φ' → HRel ng φ' s'.heap w' → Stp φ s.heap w φ' s'.heap w' → VRel φ' v cv → s'.regs = s.regs → a'.tmps = a.tmps → DRels φ' s'.defers a'.defers → BelowRel φ' B.c₀ B.rest B.cs₀ s'.below cs' →
      s'.below.isSome = s.below.isSome → opsG P s.below.isSome ops Q rest (a'.put o.dst cv) cs' w')
    (hout : ∀ x s', (opFn op).run R e s = .out x s' → ∀ (φ' : Phi) (ex : Exit) (w' : World), IRel ng F B φ' c e s' a cs w' → Stp φ s.heap w φ' s'.heap w' → ExRel φ' x ex → s'.below.isSome = s.below.isSome → Q ex a cs w')
    (hlost : (opFn op).run R e s ≠ .lost) : opsG P s.below.isSome ops Q (i :: rest) a cs w := by
  have hglob : ∀ g, g < P.globals.size → PtrOk φ g 0 ⟨g, 0, none⟩ := fun g hg => h.heap.glob g (hP ▸ hg)
  have hops : OpsOk P φ c e s.regs (fun _ => True) a.eval := opsOk hglob h.ctx _
  have hputeq : ∀ (dst : Option Nat) (cv : Value), ({ a with defers := a.defers } : Act).put dst cv = a.put dst cv := fun _ _ => rfl
  cases op with
  | mov x =>
    obtain ⟨y, hy, hyo⟩ := cOpM_mov hop
    have h1 : (execOp a.eval o).run P w = .ok (.value (a.eval y)) w := by
      rcases hy with hy | hy
      · simp [execOp, hy]
      · simp [execOp, hy]
    refine opsG_upon ho hw h1 (by intro w' hh; cases hh) ?_
    exact hon _ _ rfl φ (a.eval y) a cs w (Ext.refl _) h.heap (Stp.refl _ _ _) (hops y x trivial hyo) rfl rfl h.defers h.below rfl
  | d f =>
    have hd := cOp_d (fun v => rfl) hops (fun _ _ => trivial) (cOpM_d hop)
    have key : ∀ v h', runD s.heap (f.f e s.regs) = some (v, h') → opsG P s.below.isSome ops Q (i :: rest) a cs w := by
      intro v h' hr
      obtain ⟨cv, w', φ', h1, h2, h3, h4⟩ := runD_ok hd h.heap hr
      have hgo : (opFn (.d f)).run R e s = .on v ⟨s.regs, h', s.defers, s.below⟩ := by
        simp only [opFn]
        cases hf : f.f e s.regs with
        | val v' =>
          rw [hf] at hr
          simp only [runD, Option.some.injEq, Prod.mk.injEq] at hr
          obtain ⟨rfl, rfl⟩ := hr
          rfl
        | _ => rw [hf] at hr; simp only [hr, wentD]
      refine opsG_upon ho hw h1 (by intro w' hh; cases hh) ?_
      exact hon v _ hgo φ' cv a cs w' h4.ext h3 h4 h2 rfl rfl (h.defers.mono h4.ext) (h.below.mono h4.ext) rfl
    cases hr : runD s.heap (f.f e s.regs) with
    | some q => obtain ⟨v, h'⟩ := q; exact key v h' hr
    | none =>
      exfalso
      apply hlost
      simp only [opFn]
      cases hf : f.f e s.regs with
      | val v' => rw [hf] at hr; simp [runD] at hr
      | _ => rw [hf] at hr; simp only [hr, wentD]
  | w f =>
    have hwok := cOp_w h.heap hops (fun _ _ => trivial) (cOpM_w hop)
    have hgo : (opFn (.w f)).run R e s = wentW R (f.f e s.regs s.heap) s := rfl
    rw [hgo] at hlost
    cases hx : f.f e s.regs s.heap with
    | ok v h' =>
      rw [hx] at hwok
      obtain ⟨nx, w', φ', h1, h2, h3, h4⟩ := hwok
      have hg2 : (opFn (.w f)).run R e s = .on v ⟨s.regs, h', s.defers, s.below⟩ := by rw [hgo, hx]; rfl
      rcases h2 with ⟨cv, rfl, hv⟩ | ⟨rfl, hv⟩
      · refine opsG_upon ho hw h1 (by intro w' hh; cases hh) ?_
        exact hon v _ hg2 φ' cv a cs w' h4.ext h3 h4 hv rfl rfl (h.defers.mono h4.ext) (h.below.mono h4.ext) rfl
      · refine opsG_upon ho hw h1 (by intro w' hh; cases hh) ?_
        exact hon v _ hg2 φ' Go.undef a cs w' h4.ext h3 h4 hv rfl rfl (h.defers.mono h4.ext) (h.below.mono h4.ext) rfl
    | enter fid args =>
      rw [hx] at hwok hlost
      cases hcall : R.call fid args s.heap with
      | none => simp [wentW, hcall] at hlost
      | some q =>
        obtain ⟨en, h'⟩ := q
        obtain ⟨hcb, hcalls⟩ := hR _ _ _ _ _ hcall
        obtain ⟨cargs, h1, h2⟩ := hwok hcb
        refine opsG_upon ho hw h1 (by intro w' hh; cases hh) ?_
        simp only [Oper.upon]
        refine (hcalls φ w cargs h.heap h2).mono fun ee w' hee => ?_
        obtain ⟨φ', h3, h4, h5⟩ := hee
        cases en with
        | returned v =>
          cases ee with
          | returned cv =>
            have hg2 : (opFn (.w f)).run R e s = .on v ⟨s.regs, h', s.defers, s.below⟩ := by rw [hgo, hx]; simp [wentW, hcall]
            exact hon v _ hg2 φ' cv a cs w' h4.ext h3 h4 h5 rfl rfl (h.defers.mono h4.ext) (h.below.mono h4.ext) rfl
          | panicked _ => exact h5.elim
          | outgrown => exact h5.elim
        | panicked ch =>
          cases ee with
          | returned _ => exact h5.elim
          | outgrown => exact h5.elim
          | panicked cch =>
            have hg2 : (opFn (.w f)).run R e s = .out (.panic ch) ⟨s.regs, h', s.defers, s.below⟩ := by rw [hgo, hx]; simp [wentW, hcall]
            exact hout _ _ hg2 φ' (.panic cch) w' ⟨h3, h.ctx.mono h4.ext, h.sync, h.live, h.size, h.defers.mono h4.ext, h.below.mono h4.ext⟩ h4 h5 rfl
    | defer d =>
      rw [hx] at hwok
      obtain ⟨cd, h1, h2⟩ := hwok
      have hg2 : (opFn (.w f)).run R e s = .on .undef ⟨s.regs, s.heap, d :: s.defers, s.below⟩ := by rw [hgo, hx]; rfl
      refine opsG_upon ho hw h1 (by intro w' hh; cases hh) ?_
      exact hon _ _ hg2 φ Go.undef { a with defers := cd :: a.defers } cs w (Ext.refl _) h.heap (Stp.refl _ _ _) VRel.undef rfl rfl ⟨cd, a.defers, rfl, h2, h.defers⟩ h.below rfl
    | panic v =>
      rw [hx] at hwok
      obtain ⟨cv, h1, h2⟩ := hwok
      have hg2 : (opFn (.w f)).run R e s = .out (.panic [(v, false)]) s := by rw [hgo, hx]; rfl
      refine opsG_upon ho hw h1 (by intro w' hh; cases hh) ?_
      exact hout _ _ hg2 φ (.panic [{ v := cv, recovered := false }]) w h (Stp.refl _ _ _) ⟨cv, [], rfl, h2, rfl⟩ rfl
    | recover =>
      rw [hx] at hwok hlost
      cases hb : s.below with
      | none => simp [wentW, hb] at hlost
      | some m =>
        have hbel := h.below
        rw [hb] at hbel
        obtain ⟨u, rfl, hmu⟩ := hbel
        have hsome : s.below.isSome = true := by rw [hb]; rfl
        simp only [Option.isSome_some]
        refine opsG_recover ho hw hwok ?_
        rw [hb] at hon
        simp only [Option.isSome_some] at hon
        rcases recover_ok (B := B) hmu with ⟨v, older, cv, cs', rfl, hrec, hv, hbel'⟩ | ⟨hno, hrec⟩
        · rw [hrec]
          have hg2 : (opFn (.w f)).run R e s = .on v ⟨s.regs, s.heap, s.defers, some (some ((v, true) :: older))⟩ := by rw [hgo, hx]; simp [wentW, hb]
          exact hon v _ hg2 φ cv a cs' w (Ext.refl _) h.heap (Stp.refl _ _ _) hv rfl rfl h.defers hbel' rfl
        · rw [hrec]
          have hg2 : (opFn (.w f)).run R e s = .on .nilIface s := by
            rw [hgo, hx]
            simp only [wentW, hb]
          exact hon _ _ hg2 φ .nilIface a _ w (Ext.refl _) h.heap (Stp.refl _ _ _) rfl rfl rfl h.defers (by rw [hb]; exact ⟨u, rfl, hmu⟩) (by rw [hb]; rfl)
    | bad => rw [hx] at hlost; simp [wentW] at hlost

theorem Stp.isSome_rfl {b : Bool} : b = b := rfl

/-- An operation of a region. -/
theorem oper_ok (hP : P.globals.size = ng) (hR : CallOk P ng R) {φ : Phi} {c : Ctx} {e : Env} {s : St} {a : Act} {cs : List Frame} {w : World} (h : IRel ng F B φ c e s a cs w) {i : Nat} {rest : List Nat} {o : Oper} (ho : ops[i]? = some o)
    {ao : AOper} (hao : cOper P F ops c o = some ao)
    (hon : ∀ v s', (operFn ao).run R e s = .on v s' → ∀ (φ' : Phi) (a' : Act) (cs' : List Frame) (w' : World), IRel ng F B φ' (o.dst :: c) (v :: e) s' a' cs' w' → Stp φ s.heap w φ' s'.heap w' → s'.below.isSome = s.below.isSome →
      opsG P s.below.isSome ops Q rest a' cs' w')
    (hout : ∀ x s', (operFn ao).run R e s = .out x s' → ∀ (φ' : Phi) (ex : Exit) (w' : World), IRel ng F B φ' c e s' a cs w' → Stp φ s.heap w φ' s'.heap w' → ExRel φ' x ex → s'.below.isSome = s.below.isSome → Q ex a cs w')
    (hlost : (operFn ao).run R e s ≠ .lost) : opsG P s.below.isSome ops Q (i :: rest) a cs w := by
  unfold cOper at hao
  by_cases hd : dstOk F.ntmps o.dst = true
  · rw [if_pos hd] at hao
    simp only [Option.bind_eq_some_iff, Option.map_eq_some_iff] at hao
    obtain ⟨g, hg, op, hop, rfl⟩ := hao
    have hdst : ∀ d, o.dst = some d → d < F.ntmps := by
      intro d hde
      rw [hde] at hd
      exact blt_iff.1 hd
    have hgok := guard_ok h hg
    -- the place that keeps the result
    have dst_on : ∀ (f : OpFn) v s', f.run R e s = .on v s' → (dstFn (o.dst.filter (isLive F.np F.live)) f).run R e s = .on v ⟨match o.dst.filter (isLive F.np F.live) with | some d => (putFn (Nat.succ d) d).run v s'.regs | none => s'.regs, s'.heap, s'.defers, s'.below⟩ := by
      intro f v s' hf
      unfold dstFn
      cases o.dst.filter (isLive F.np F.live) <;> simp only [hf]
    have dst_out : ∀ (f : OpFn) x s', f.run R e s = .out x s' → (dstFn (o.dst.filter (isLive F.np F.live)) f).run R e s = .out x s' := by
      intro f x s' hf
      unfold dstFn
      cases o.dst.filter (isLive F.np F.live) <;> simp only [hf]
    have dst_lost : ∀ (f : OpFn), f.run R e s = .lost → (dstFn (o.dst.filter (isLive F.np F.live)) f).run R e s = .lost := by
      intro f hf
      unfold dstFn
      cases o.dst.filter (isLive F.np F.live) <;> simp only [hf]
    have wanted_case : Region.wanted o (yielded ops a.tmps) = true → (guardFn g (opFn op)).run R e s = (opFn op).run R e s → opsG P s.below.isSome ops Q (i :: rest) a cs w := by
      intro hw hge
      refine went_ok hP hR h ho hw hop hdst ?_ ?_ ?_
      · intro v s' hr φ' cv a' cs' w' hext hh hst hv hregs htmps hdf hbl hsome
        refine hon v _ (dst_on _ v s' (hge.trans hr)) φ' _ cs' w' ?_ hst hsome
        have := h.put hdst hext hh hv hdf hbl
        rw [hregs]
        have ha' : a' = { a with defers := a'.defers } := by
          cases a'; simp only at htmps; subst htmps; rfl
        rw [ha']
        exact this
      · intro x s' hr φ' ex w' hi hst hex hsome
        exact hout x s' (dst_out _ x s' (hge.trans hr)) φ' ex w' hi hst hex hsome
      · intro hr
        exact hlost (dst_lost _ (hge.trans hr))
    cases g with
    | none => exact wanted_case hgok rfl
    | some q =>
      obtain ⟨x, want⟩ := q
      cases hm : guardMet (x.ev e s.regs) want with
      | none =>
        exfalso
        exact hlost (dst_lost _ (by simp only [guardFn, hm]))
      | some b =>
        have hw := hgok b hm
        cases b with
        | true => exact wanted_case hw (by simp only [guardFn, hm])
        | false =>
          refine opsG_skip ho hw ?_
          refine hon .undef _ (dst_on _ .undef s (by simp only [guardFn, hm])) φ (a.put o.dst undef) cs w ?_ (Stp.refl _ _ _) rfl
          exact h.put hdst (Ext.refl _) h.heap VRel.undef h.defers h.below
  · rw [if_neg hd] at hao; cases hao

/-- The operations of a region, one behind the other. -/
theorem opsFn_cons (o : AOper) (os : List AOper) (R : Runner) (e : Env) (s : St) : (opsFn (o :: os)).run R e s = match (operFn o).run R e s with
    | .on v s' => (opsFn os).run R (v :: e) s'
    | .out x s' => some (x, s')
    | .lost => none := by
  obtain ⟨dst, guard, op⟩ := o
  cases guard with
  | some g => cases dst <;> cases op <;> rfl
  | none =>
    cases dst with
    | some d => cases op <;> rfl
    | none =>
      cases op with
      | mov x => rfl
      | w f => rfl
      | d f =>
        simp only [opsFn, operFn, dstFn, guardFn, opFn]
        cases hf : f.f e s.regs with
        | val v => rfl
        | _ =>
          simp only
          cases runD s.heap _ with
          | none => rfl
          | some q => obtain ⟨v, h⟩ := q; rfl

theorem ops_ok (hP : P.globals.size = ng) (hR : CallOk P ng R) {φ₀ : Phi} {h₀ : AHeap} {w₀ : World} {x : AEx} {s' : St} {dfd : Bool}
    (hQ : ∀ (φ' : Phi) (ex : Exit) (a' : Act) (cs' : List Frame) (w' : World), SRel ng F B φ' s' a' cs' w' → Stp φ₀ h₀ w₀ φ' s'.heap w' → ExRel φ' x ex → s'.below.isSome = dfd → Q ex a' cs' w') :
    ∀ (rest : List Oper) (i : Nat) (c : Ctx) (l : List AOper) (e : Env) (s : St) (φ : Phi) (a : Act) (cs : List Frame) (w : World), (∀ j, rest[j]? = ops[i + j]?) → cOpers P F ops rest c = some l →
      (opsFn l).run R e s = some (x, s') → IRel ng F B φ c e s a cs w → Stp φ₀ h₀ w₀ φ s.heap w → s.below.isSome = dfd → opsG P dfd ops Q (List.range' i rest.length) a cs w
  | [], i, c, l, e, s, φ, a, cs, w, hi, hl, hr, h, hst, hb => by
    simp only [cOpers, Option.some.injEq] at hl
    subst hl
    simp only [opsFn, Option.some.injEq, Prod.mk.injEq] at hr
    obtain ⟨rfl, rfl⟩ := hr
    exact opsG_nil (hQ φ .normal a cs w h.close hst trivial hb)
  | o :: rest, i, c, l, e, s, φ, a, cs, w, hi, hl, hr, h, hst, hb => by
    simp only [cOpers, Option.bind_eq_some_iff, Option.map_eq_some_iff] at hl
    obtain ⟨ao, hao, l', hl', rfl⟩ := hl
    rw [opsFn_cons] at hr
    have ho : ops[i]? = some o := by have := hi 0; simpa using this.symm
    rw [List.length_cons, List.range'_succ]
    subst hb
    refine oper_ok hP hR h ho hao ?_ ?_ ?_
    · intro v s₁ hgo φ' a' cs' w' hi' hst' hb'
      rw [hgo] at hr
      simp only at hr
      exact ops_ok hP hR hQ rest (i + 1) (o.dst :: c) l' (v :: e) s₁ φ' a' cs' w' (fun j => by have := hi (j + 1); rw [List.getElem?_cons_succ] at this; rw [this]; congr 1; omega) hl' hr hi' (hst.trans hst') hb'
    · intro x₁ s₁ hgo φ' ex w' hi' hst' hex hb'
      rw [hgo] at hr
      simp only [Option.some.injEq, Prod.mk.injEq] at hr
      obtain ⟨rfl, rfl⟩ := hr
      exact hQ φ' ex a cs w' hi'.close (hst.trans hst') hex hb'
    · intro hgo
      rw [hgo] at hr
      cases hr

end
end Go.Abs

/- The abstract machine: code. -/
namespace Go.Abs
variable [Fct] [Val]

/-- What a run's end says of the model's. -/
def PostRel (ng : Nat) (F : Frm) (B : Base) (φ₀ : Phi) (h₀ : AHeap) (w₀ : World) (dfd : Bool) (x : AEx) (s' : St) : Post :=
  fun ex a' cs' w' => ∃ φ', SRel ng F B φ' s' a' cs' w' ∧ Stp φ₀ h₀ w₀ φ' s'.heap w' ∧ ExRel φ' x ex ∧ s'.below.isSome = dfd

/-- A runner's loops are the model's. -/
def LoopOk (P : Program) (ng : Nat) (R : Runner) : Prop :=
  ∀ (F : Frm) (b : Code) (x : AEx) (s s' : St), R.loop (cCode P F b) s = some (x, s') → ∀ (B : Base) (φ : Phi) (a : Act) (cs : List Frame) (w : World), SRel ng F B φ s a cs w →
    wpL P s.below.isSome b (PostRel ng F B φ s.heap w s.below.isSome x s') a cs w ∧ wpG P s.below.isSome (.loop b) (PostRel ng F B φ s.heap w s.below.isSome x s') a cs w

/-- Regions that draw their order. -/
def DrawOk (P : Program) (ng : Nat) (R : Runner) : Prop :=
  ∀ (F : Frm) (ops : Array Oper) (id : Nat) (A : ACode) (x : AEx) (s s' : St), cDraw P F ops = some A → (codeFn A).run R s = some (x, s') → ∀ (B : Base) (φ : Phi) (a : Act) (cs : List Frame) (w : World), SRel ng F B φ s a cs w →
    wpG P s.below.isSome (.region id ops true) (PostRel ng F B φ s.heap w s.below.isSome x s') a cs w

theorem PostRel.trans {ng : Nat} {F : Frm} {B : Base} {φ₀ φ : Phi} {h₀ h : AHeap} {w₀ w : World} {dfd : Bool} {x : AEx} {s' : St} (hst : Stp φ₀ h₀ w₀ φ h w) {ex : Exit} {a : Act} {cs : List Frame} {w' : World}
    (k : PostRel ng F B φ h w dfd x s' ex a cs w') : PostRel ng F B φ₀ h₀ w₀ dfd x s' ex a cs w' :=
  let ⟨φ', h1, h2, h3, h4⟩ := k; ⟨φ', h1, hst.trans h2, h3, h4⟩

theorem code_ok {P : Program} {ng : Nat} {R : Runner} (hP : P.globals.size = ng) (hR : CallOk P ng R) (hL : LoopOk P ng R) (hD : DrawOk P ng R) (F : Frm) (B : Base) :
    ∀ (c : Code) (x : AEx) (s s' : St), (codeFn (cCode P F c)).run R s = some (x, s') → ∀ (φ : Phi) (a : Act) (cs : List Frame) (w : World), SRel ng F B φ s a cs w →
      wpG P s.below.isSome c (PostRel ng F B φ s.heap w s.below.isSome x s') a cs w
  | .skip, x, s, s', hr, φ, a, cs, w, h => by
    simp only [cCode, codeFn, Option.some.injEq, Prod.mk.injEq] at hr
    obtain ⟨rfl, rfl⟩ := hr
    exact wpG_skip ⟨φ, h, Stp.refl _ _ _, trivial, rfl⟩
  | .label l, x, s, s', hr, φ, a, cs, w, h => by
    simp only [cCode, codeFn, Option.some.injEq, Prod.mk.injEq] at hr
    obtain ⟨rfl, rfl⟩ := hr
    exact wpG_label ⟨φ, h, Stp.refl _ _ _, trivial, rfl⟩
  | .exit id, x, s, s', hr, φ, a, cs, w, h => by
    simp only [cCode, codeFn, Option.some.injEq, Prod.mk.injEq] at hr
    obtain ⟨rfl, rfl⟩ := hr
    exact wpG_exit ⟨φ, h, Stp.refl _ _ _, rfl, rfl⟩
  | .ret, x, s, s', hr, φ, a, cs, w, h => by
    simp only [cCode, codeFn, Option.some.injEq, Prod.mk.injEq] at hr
    obtain ⟨rfl, rfl⟩ := hr
    exact wpG_ret ⟨φ, h, Stp.refl _ _ _, trivial, rfl⟩
  | .region id ops false, x, s, s', hr, φ, a, cs, w, h => by
    simp only [cCode] at hr
    cases hl : cOpers P F ops ops.toList [] with
    | none => rw [hl] at hr; simp [codeFn] at hr
    | some l =>
      rw [hl] at hr
      simp only [codeFn] at hr
      refine wpG_region ?_
      rw [List.range_eq_range']
      have := ops_ok (Q := PostRel ng F B φ s.heap w s.below.isSome x s') (dfd := s.below.isSome) (φ₀ := φ) (h₀ := s.heap) (w₀ := w) hP hR (x := x) (s' := s') (fun φ' ex a' cs' w' h1 h2 h3 h4 => ⟨φ', h1, h2, h3, h4⟩) ops.toList 0 [] l [] s φ a cs w
        (fun j => by rw [Array.getElem?_toList, Nat.zero_add]) hl hr h (Stp.refl _ _ _) rfl
      simpa using this
  | .region id ops true, x, s, s', hr, φ, a, cs, w, h => by
    simp only [cCode] at hr
    cases hl : cDraw P F ops with
    | none => rw [hl] at hr; simp [codeFn] at hr
    | some A => rw [hl] at hr; exact hD F ops id A x s s' hl hr B φ a cs w h
  | .seq c d, x, s, s', hr, φ, a, cs, w, h => by
    simp only [cCode, codeFn] at hr
    refine wpG_seq ?_
    cases h1 : (codeFn (cCode P F c)).run R s with
    | none => rw [h1] at hr; cases hr
    | some q =>
      obtain ⟨x1, s1⟩ := q
      rw [h1] at hr
      refine (code_ok hP hR hL hD F B c x1 s s1 h1 φ a cs w h).mono fun ex a' cs' w' hq => ?_
      obtain ⟨φ', k1, k2, k3, k4⟩ := hq
      cases x1 with
      | normal =>
        simp only at hr
        cases ex <;> simp only [ExRel] at k3
        simp only [Exit.thenS]
        have := code_ok hP hR hL hD F B d x s1 s' hr φ' a' cs' w' k1
        rw [k4] at this
        exact this.mono fun _ _ _ _ hq => PostRel.trans k2 hq
      | _ =>
        simp only [Option.some.injEq, Prod.mk.injEq] at hr
        obtain ⟨rfl, rfl⟩ := hr
        cases ex <;> simp only [ExRel] at k3
        exact ⟨φ', k1, k2, k3, k4⟩
  | .cond c d e, x, s, s', hr, φ, a, cs, w, h => by
    simp only [cCode] at hr
    cases hc : cOpd P [] c with
    | none => rw [hc] at hr; simp [codeFn] at hr
    | some y =>
      rw [hc] at hr
      simp only [codeFn] at hr
      have hglob : ∀ g, g < P.globals.size → PtrOk φ g 0 ⟨g, 0, none⟩ := fun g hg => h.heap.glob g (hP ▸ hg)
      have hv := opsOk hglob h.ctx (fun _ => True) c y trivial hc
      split at hr
      · rename_i ey
        rw [ey] at hv
        exact wpG_cond (t := true) hv (code_ok hP hR hL hD F B d x s s' hr φ a cs w h)
      · rename_i ey
        rw [ey] at hv
        exact wpG_cond (t := false) hv (code_ok hP hR hL hD F B e x s s' hr φ a cs w h)
      · cases hr
  | .block id c, x, s, s', hr, φ, a, cs, w, h => by
    simp only [cCode, codeFn] at hr
    refine wpG_block ?_
    cases h1 : (codeFn (cCode P F c)).run R s with
    | none => rw [h1] at hr; cases hr
    | some q =>
      obtain ⟨x1, s1⟩ := q
      rw [h1] at hr
      refine (code_ok hP hR hL hD F B c x1 s s1 h1 φ a cs w h).mono fun ex a' cs' w' hq => ?_
      obtain ⟨φ', k1, k2, k3, k4⟩ := hq
      cases x1 with
      | exit j =>
        cases ex <;> simp only [ExRel] at k3
        rename_i j'
        subst k3
        simp only at hr
        simp only [inBlockS]
        cases hj : Nat.beq j id with
        | true =>
          rw [hj] at hr
          simp only [cond_true, Option.some.injEq, Prod.mk.injEq] at hr
          obtain ⟨rfl, rfl⟩ := hr
          rw [beq_iff] at hj
          rw [if_pos hj]
          exact ⟨φ', k1, k2, trivial, k4⟩
        | false =>
          rw [hj] at hr
          simp only [cond_false, Option.some.injEq, Prod.mk.injEq] at hr
          obtain ⟨rfl, rfl⟩ := hr
          rw [if_neg (nat_beq_false hj)]
          exact ⟨φ', k1, k2, rfl, k4⟩
      | _ =>
        simp only [Option.some.injEq, Prod.mk.injEq] at hr
        obtain ⟨rfl, rfl⟩ := hr
        cases ex <;> simp only [ExRel] at k3
        exact ⟨φ', k1, k2, k3, k4⟩
  | .loop c, x, s, s', hr, φ, a, cs, w, h => by
    simp only [cCode, codeFn] at hr
    exact (hL F c x s s' hr B φ a cs w h).2
  | .scope c, x, s, s', hr, φ, a, cs, w, h => by
    simp only [cCode] at hr
    refine wpG_scope ?_
    refine (code_ok hP hR hL hD F B c x s s' hr φ a cs w h).mono fun ex a' cs' w' hq => ?_
    obtain ⟨φ', k1, k2, k3, k4⟩ := hq
    cases ex <;> first | exact ⟨φ', k1, k2, k3, k4⟩ | (cases x <;> exact k3.elim)
  | .goto _, x, s, s', hr, φ, a, cs, w, h => by simp [cCode, codeFn] at hr
  | .refuse _, x, s, s', hr, φ, a, cs, w, h => by simp [cCode, codeFn] at hr
  | .rangeFunc _ _ _ _, x, s, s', hr, φ, a, cs, w, h => by simp [cCode, codeFn] at hr

/-- A loop, a round ahead. -/
theorem loop_ok {P : Program} {ng : Nat} {R : Runner} (hP : P.globals.size = ng) (hR : CallOk P ng R) (hL : LoopOk P ng R) (hD : DrawOk P ng R) (F : Frm) (b : Code) (x : AEx) (s s' : St) (hr : loopStep R (cCode P F b) s = some (x, s'))
    (B : Base) (φ : Phi) (a : Act) (cs : List Frame) (w : World) (h : SRel ng F B φ s a cs w) :
    wpL P s.below.isSome b (PostRel ng F B φ s.heap w s.below.isSome x s') a cs w ∧ wpG P s.below.isSome (.loop b) (PostRel ng F B φ s.heap w s.below.isSome x s') a cs w := by
  unfold loopStep at hr
  have key : wpG P s.below.isSome b (Exit.thenS (wpL P s.below.isSome b (PostRel ng F B φ s.heap w s.below.isSome x s')) (PostRel ng F B φ s.heap w s.below.isSome x s')) a cs w := by
    cases h1 : (codeFn (cCode P F b)).run R s with
    | none => rw [h1] at hr; cases hr
    | some q =>
      obtain ⟨x1, s1⟩ := q
      rw [h1] at hr
      refine (code_ok hP hR hL hD F B b x1 s s1 h1 φ a cs w h).mono fun ex a' cs' w' hq => ?_
      obtain ⟨φ', k1, k2, k3, k4⟩ := hq
      cases x1 with
      | normal =>
        simp only at hr
        cases ex <;> simp only [ExRel] at k3
        simp only [Exit.thenS]
        have := (hL F b x s1 s' hr B φ' a' cs' w' k1).1
        rw [k4] at this
        exact fun bb k hb => let ⟨e, a'', cs'', w'', q, rr⟩ := this bb k hb; ⟨e, a'', cs'', w'', PostRel.trans k2 q, rr⟩
      | _ =>
        simp only [Option.some.injEq, Prod.mk.injEq] at hr
        obtain ⟨rfl, rfl⟩ := hr
        cases ex <;> simp only [ExRel] at k3
        exact ⟨φ', k1, k2, k3, k4⟩
  exact ⟨wpL_loop key, wpG_loop key⟩

end Go.Abs

/- The abstract machine: calls, deferred calls, and the runner. -/
namespace Go.Abs
variable [Fct] [Val]

/-- A runner's deferred calls are the model's. -/
def CallDOk (P : Program) (ng : Nat) (R : Runner) : Prop :=
  ∀ f args m h en m' h', R.callD f args m h = some (en, m', h') → Callable P f ∧ ∀ φ w cargs u, HRel ng φ h w → VRels φ args cargs.toList → ModeRel φ m u →
    CallsD P f cargs u w fun e u' w' => ∃ φ', HRel ng φ' h' w' ∧ Stp φ h w φ' h' w' ∧ EndRel φ' en e ∧ ModeRel φ' m' u'

/-! ### The start of a call -/

theorem argRegs_val : ∀ (vs : List AV) (i : Nat) (r : Regs) (t : Nat), (argRegs vs i r).val t = if i ≤ t ∧ t < i + vs.length then (vs[t - i]?).getD .junk else r.val t
  | [], i, r, t => by simp [argRegs]; intro h1 h2; omega
  | v :: vs, i, r, t => by
    have e : argRegs (v :: vs) i r = argRegs vs (i + 1) (T.put r i (some v)) := rfl
    rw [e, argRegs_val vs (i + 1), val_put]
    simp only [List.length_cons]
    by_cases h1 : t = i
    · subst h1
      rw [if_neg (by omega), if_pos rfl, if_pos ⟨Nat.le_refl _, by omega⟩]
      simp
    · rw [if_neg h1]
      by_cases h2 : i + 1 ≤ t ∧ t < i + 1 + vs.length
      · rw [if_pos h2, if_pos ⟨by omega, by omega⟩, show t - i = (t - (i + 1)) + 1 by omega, List.getElem?_cons_succ]
      · rw [if_neg h2, if_neg (by omega)]

theorem nil_val (t : Nat) : Regs.val .nil t = .junk := rfl

/-- The frame of a call, at its start. -/
theorem start_ok {ng : Nat} {F : Frm} {B : Base} {φ : Phi} {h : AHeap} {w : World} {args : List AV} {cargs : Array Value} {n : Nat} {bl : Option (Option Chain)} {cs : List Frame} (H : HRel ng φ h w) (hv : VRels φ args cargs.toList) (hn : F.ntmps = n) (hnp : args.length ≤ F.np)
    (hb : BelowRel φ B.c₀ B.rest B.cs₀ bl cs) : SRel ng F B φ ⟨argRegs args 0 .nil, h, [], bl⟩ { tmps := cargs ++ Array.replicate (n - cargs.size) undef, defers := [] } cs w := by
  have hlen : cargs.size = args.length := by have := hv.length; simpa using this
  refine ⟨H, fun t => ?_, fun t k hk => by simp [locOf] at hk, fun t ht => ?_, ?_, rfl, hb⟩
  · simp only [locOf, argRegs_val, nil_val, Nat.zero_le, true_and, Nat.zero_add, Nat.sub_zero]
    by_cases hlt : t < args.length
    · rw [if_pos hlt]
      obtain ⟨v, h1, h2⟩ := hv.get t args[t] (List.getElem?_eq_getElem hlt)
      rw [List.getElem?_eq_getElem hlt]
      rw [Array.getElem?_toList] at h1
      rw [Array.getD_eq_getD_getElem?, Array.getElem?_append_left (by omega), h1]
      exact h2
    · rw [if_neg hlt]; trivial
  · simp only [argRegs_val, nil_val, Nat.zero_le, true_and, Nat.zero_add]
    rw [if_neg]
    intro hlt
    unfold isLive at ht
    simp only [Bool.or_eq_false_iff] at ht
    have := nat_blt_false ht.1
    omega
  · simp only [Array.size_append, Array.size_replicate]
    omega

/-! ### Results -/

def resSem (tmps : Array Value) (x : ResultVar) : Sem Value :=
  match x with
  | .tmp t => pure (tmps.getD t undef)
  | .cell a t => do loadVar t (← asAddr (tmps.getD a undef))

theorem results_eq (fn : Func) (tmps : Array Value) : results fn tmps = (do let vs ← fn.results.mapM (resSem tmps); pure (if h : vs.size = 1 then vs[0] else .tuple vs)) := rfl

theorem vals_ok {P : Program} {ng : Nat} {φ : Phi} {h : AHeap} {w : World} {r : Regs} {tmps : Array Value} (H : HRel ng φ h w) (hr : ∀ t, VRel φ (r.val t) (tmps.getD t undef)) :
    ∀ (rs : List ResultVar) (as : List ARes) (vs : List AV), cRes P rs = some as → resOf r h as = some vs →
      ∃ cvs, (rs.mapM (resSem tmps)).run P w = .ok cvs w ∧ VRels φ vs cvs
  | [], as, vs, ha, hv => by
    simp only [cRes, Option.some.injEq] at ha
    subst ha
    simp only [resOf, Option.some.injEq] at hv
    subst hv
    exact ⟨[], by simp, rfl⟩
  | .tmp t :: rs, as, vs, ha, hv => by
    simp only [cRes, Option.map_eq_some_iff] at ha
    obtain ⟨as', ha', rfl⟩ := ha
    simp only [resOf] at hv
    split at hv
    · rename_i vs' hv'
      cases hv
      obtain ⟨cvs, h1, h2⟩ := vals_ok H hr rs as' vs' ha' hv'
      exact ⟨tmps.getD t undef :: cvs, by rw [List.mapM_cons]; simp only [Sem.run_bind, resSem, Sem.run_pure, Result.andThen_ok, h1], _, _, rfl, hr t, h2⟩
    · cases hv
  | .cell a t :: rs, as, vs, ha, hv => by
    simp only [cRes, Option.bind_eq_some_iff] at ha
    obtain ⟨n, hn, g, hg, ha⟩ := ha
    split at ha
    · rename_i hc
      simp only [Option.map_eq_some_iff] at ha
      obtain ⟨as', ha', rfl⟩ := ha
      simp only [resOf] at hv
      split at hv
      · rename_i i o ep
        split at hv
        · rename_i cs hcs
          split at hv
          · rename_i v hagg
            split at hv
            · rename_i vs' hv'
              cases hv
              obtain ⟨cvs, h1, h2⟩ := vals_ok H hr rs as' vs' ha' hv'
              have hp := hr a
              rw [ep] at hp
              obtain ⟨ad, hade, hp⟩ := hp
              have hg2 : ∃ blk, h.get i = some blk := by
                unfold AHeap.cellsAt at hcs
                cases hgg : h.get i with
                | none => rw [hgg] at hcs; cases hcs
                | some blk => exact ⟨blk, rfl⟩
              obtain ⟨blk, hgg⟩ := hg2
              obtain ⟨b, p, m, hφ, _⟩ := at_of H hgg hp.notUn
              obtain ⟨ws, tt, fz, k1, k2, k3, k4⟩ := loads_of H hcs hφ
              simp only [PtrOk, hφ] at hp
              subst hp
              have hload : ∃ cv, (loadVar t ⟨b, p + o, none⟩).run P w = .ok cv w ∧ VRel φ v cv := by
                cases g with
                | true =>
                  simp only [aggOf, Option.some.injEq] at hagg
                  subst hagg
                  exact ⟨.agg (ws.extract (p + o) (p + o + n)), by simp [loadVar, run_isAggT hg, run_sizeT hn, run_loads P k1 n k2], _, rfl, k3⟩
                | false =>
                  simp only [Bool.false_or, beq_iff_eq] at hc
                  subst hc
                  obtain ⟨cv, q1, q2⟩ := cells_one k2 k3 hagg
                  have : w.cell? ⟨b, p + o, none⟩ = some cv := by rw [cell_row k1]; exact q1
                  exact ⟨cv, by simp [loadVar, run_isAggT hg, this], q2⟩
              obtain ⟨cv, q1, q2⟩ := hload
              exact ⟨cv :: cvs, by rw [List.mapM_cons]; simp only [Sem.run_bind, resSem, hade, asAddr, Sem.run_pure, Result.andThen_ok, q1, h1], cv, cvs, rfl, q2, h2⟩
            · cases hv
          · cases hv
        · cases hv
      · cases hv
    · cases ha

theorem results_ok {P : Program} {ng : Nat} {φ : Phi} {h : AHeap} {w : World} {r : Regs} {tmps : Array Value} {fn : Func} {as : List ARes} {vs : List AV} (H : HRel ng φ h w) (hr : ∀ t, VRel φ (r.val t) (tmps.getD t undef))
    (ha : cRes P fn.results.toList = some as) (hv : resOf r h as = some vs) : ∃ cv, (results fn tmps).run P w = .ok cv w ∧ VRel φ (tupOf vs) cv := by
  obtain ⟨cvs, h1, h2⟩ := vals_ok H hr fn.results.toList as vs ha hv
  refine ⟨if hh : cvs.toArray.size = 1 then cvs.toArray[0] else .tuple cvs.toArray, ?_, ?_⟩
  · rw [results_eq, Array.mapM_eq_mapM_toList]
    simp [h1]
  · have hl := h2.length
    match vs, cvs, h2 with
    | [], cvs, h2 => simp only [VRels] at h2; subst h2; exact ⟨#[], rfl, rfl⟩
    | [v], cvs, ⟨c, rr, e1, e2, e3⟩ => simp only [VRels] at e3; subst e3; subst e1; exact e2
    | v :: v' :: vs, cvs, h2 =>
      have : ¬ cvs.toArray.size = 1 := by simp at hl ⊢; omega
      rw [dif_neg this]
      exact ⟨_, rfl, by simpa using h2⟩

/-! ### The deferred calls of a frame -/

theorem settle_ok {φ : Phi} {m : Option Chain} {u : FrameMode} (h : ModeRel φ m u) : ModeRel φ (settleA m) (settle u) := by
  cases m with
  | none => simp only [ModeRel] at h; subst h; rfl
  | some c =>
    obtain ⟨cc, rfl, hc⟩ := h
    cases c with
    | nil => simp only [ChRel] at hc; subst hc; exact ⟨[], rfl, rfl⟩
    | cons p older =>
      obtain ⟨v, rec⟩ := p
      obtain ⟨cv, r, rfl, hv, hr⟩ := hc
      cases rec with
      | false => exact ⟨_, rfl, cv, r, rfl, hv, hr⟩
      | true =>
        have key : ∀ (l : Chain) (cl : List PanicEntry), ChRel φ l cl → cl.dropWhile (!·.goexit) = [] := by
          intro l
          induction l with
          | nil => intro cl h; simp only [ChRel] at h; subst h; rfl
          | cons q l ih =>
            intro cl h
            obtain ⟨cv', r', rfl, _, h'⟩ := h
            simp [List.dropWhile_cons, ih r' h']
        simp only [settleA, ModeRel, settle]
        rw [key older r hr]

theorem raised_ok {φ : Phi} {m : Option Chain} {u : FrameMode} {c : Chain} {cc : List PanicEntry} (h : ModeRel φ m u) (hc : ChRel φ c cc) : ModeRel φ (some (match m with | some old => c ++ old | none => c)) (raised u cc) := by
  cases m with
  | none => simp only [ModeRel] at h; subst h; exact ⟨cc, rfl, hc⟩
  | some old =>
    obtain ⟨co, rfl, ho⟩ := h
    exact ⟨cc ++ co, rfl, hc.append ho⟩

theorem defers_ok {P : Program} {ng : Nat} {R : Runner} (hR : CallDOk P ng R) {fn : Func} {as : List ARes} (has : cRes P fn.results.toList = some as) {φ₀ : Phi} {h₀ : AHeap} {w₀ : World} {regs : Regs} {tmps : Array Value} {en : AEnd} {h' : AHeap} :
    ∀ (ds : List ADef) (m : Option Chain) (h : AHeap), runDefers R as regs ds m h = some (en, h') → ∀ (φ : Phi) (w : World) (cds : List Deferred) (u : FrameMode), HRel ng φ h w → Stp φ₀ h₀ w₀ φ h w →
      (∀ t, VRel φ (regs.val t) (tmps.getD t undef)) → DRels φ ds cds → ModeRel φ m u →
      Leaves P fn tmps (fun e w' => ∃ φ', HRel ng φ' h' w' ∧ Stp φ₀ h₀ w₀ φ' h' w' ∧ EndRel φ' en e) cds u w
  | [], none, h, hr, φ, w, cds, u, H, hst, hreg, hd, hm => by
    simp only [runDefers] at hr
    simp only [DRels] at hd
    subst hd
    simp only [ModeRel] at hm
    subst hm
    split at hr
    · rename_i vs hvs
      simp only [Option.some.injEq, Prod.mk.injEq] at hr
      obtain ⟨rfl, rfl⟩ := hr
      obtain ⟨cv, h1, h2⟩ := results_ok H hreg has hvs
      exact ⟨cv, h1, φ, H, hst, h2⟩
    · cases hr
  | [], some c, h, hr, φ, w, cds, u, H, hst, hreg, hd, hm => by
    simp only [runDefers, Option.some.injEq, Prod.mk.injEq] at hr
    obtain ⟨rfl, rfl⟩ := hr
    simp only [DRels] at hd
    subst hd
    obtain ⟨cc, rfl, hc⟩ := hm
    exact ⟨φ, H, hst, hc⟩
  | d :: ds, m, h, hr, φ, w, cds, u, H, hst, hreg, hd, hm => by
    simp only [runDefers] at hr
    obtain ⟨cd, cds', rfl, ⟨ca, cb, rfl, hargs⟩, hds⟩ := hd
    cases hc : R.callD d.f d.args m h with
    | none => rw [hc] at hr; cases hr
    | some q =>
      obtain ⟨e1, m1, h1⟩ := q
      rw [hc] at hr
      obtain ⟨⟨fn', hf1, hf2, hf3⟩, hcall⟩ := hR _ _ _ _ _ _ _ hc
      have hnr : u ≠ .run := by
        cases m with
        | none => simp only [ModeRel] at hm; subst hm; simp
        | some c => obtain ⟨cc, rfl, _⟩ := hm; simp
      have hb : fn'.body ≠ none := by intro hh; rw [hh] at hf3; cases hf3
      refine leaves_cons (f := d.f) (args := ca ++ cb) hnr ?_ ?_
      · simp [invoke, callFunc, hf1, hf2, hb]
      · refine (hcall φ w (ca ++ cb) u H hargs hm).mono fun e u' w' hq => ?_
        obtain ⟨φ', k1, k2, k3, k4⟩ := hq
        have hreg' : ∀ t, VRel φ' (regs.val t) (tmps.getD t undef) := fun t => (hreg t).mono k2.ext
        cases e1 with
        | returned v =>
          simp only at hr
          cases e with
          | returned cv => exact defers_ok hR has ds (settleA m1) h1 hr φ' w' cds' (settle u') k1 (hst.trans k2) hreg' (hds.mono k2.ext) (settle_ok k4)
          | panicked _ => exact k3.elim
          | outgrown => exact k3.elim
        | panicked c =>
          simp only at hr
          cases e with
          | returned _ => exact k3.elim
          | outgrown => exact k3.elim
          | panicked cc => exact defers_ok hR has ds _ h1 hr φ' w' cds' (raised u' cc) k1 (hst.trans k2) hreg' (hds.mono k2.ext) (by cases m1 <;> exact raised_ok k4 k3)

/-! ### Calls -/

theorem wp_of_wpG {P : Program} {c : Code} {Q : Exit → Act → World → Prop} {a : Act} {w : World} (h : ∀ cs, wpG P false c (fun e a' cs' w' => cs' = cs ∧ Q e a' w') a cs w) : c.wp P Q a w := by
  intro b k cs
  obtain ⟨e, a', cs', w', ⟨rfl, hq⟩, harr⟩ := h cs b k (by intro hh; cases hh)
  exact ⟨e, a', w', hq, harr⟩

theorem cFunc_inv {P : Program} {live : FuncId → List Nat} {f : FuncId} {af : AFunc} (h : cFunc P live f = some af) : ∃ fn b rs, P.funcs[f]? = some fn ∧ fn.body = some b ∧ fn.name ≠ "runtime.NumGoroutine" ∧ cRes P fn.results.toList = some rs ∧
    af = { np := fn.params.size + fn.nfree, results := rs, body := cCode P ⟨fn.ntmps, fn.params.size + fn.nfree, live f⟩ b } := by
  unfold cFunc at h
  split at h
  · rename_i fn hf
    split at h
    · rename_i b hb
      split at h
      · cases h
      · rename_i hn
        split at h
        · rename_i rs hrs
          cases h
          exact ⟨fn, b, rs, hf, hb, hn, hrs, rfl⟩
        · cases h
    · cases h
  · cases h

theorem call_ok {P : Program} {ng : Nat} {R : Runner} (hP : P.globals.size = ng) (hR : CallOk P ng R) (hRD : CallDOk P ng R) (hL : LoopOk P ng R) (hD : DrawOk P ng R) {live : FuncId → List Nat} {f : FuncId} {af : AFunc} (hf : cFunc P live f = some af)
    {args : List AV} {h h' : AHeap} {en : AEnd} (hr : callBody R af args h = some (en, h')) : Callable P f ∧ ∀ φ w cargs, HRel ng φ h w → VRels φ args cargs.toList →
      Calls P f cargs w fun e w' => ∃ φ', HRel ng φ' h' w' ∧ Stp φ h w φ' h' w' ∧ EndRel φ' en e := by
  obtain ⟨fn, b, rs, hfn, hb, hname, hrs, rfl⟩ := cFunc_inv hf
  refine ⟨⟨fn, hfn, hname, by rw [hb]; rfl⟩, fun φ w cargs H hv => ?_⟩
  unfold callBody at hr
  cases hnp : Nat.ble (lenQ args) (fn.params.size + fn.nfree) with
  | false => simp only [hnp] at hr; cases hr
  | true =>
    simp only [hnp, Bool.not_true, cond_false] at hr
    rw [ble_iff, lenQ_eq] at hnp
    refine calls_of_wp_defers hfn hb (wp_of_wpG fun cs => ?_)
    let F : Frm := ⟨fn.ntmps, fn.params.size + fn.nfree, live f⟩
    let B : Base := ⟨default, [], cs⟩
    have hs := start_ok (F := F) (B := B) (n := fn.ntmps) (bl := none) (cs := cs) H hv rfl hnp rfl
    cases hrun : (codeFn (cCode P F b)).run R ⟨argRegs args 0 .nil, h, [], none⟩ with
    | none => rw [hrun] at hr; cases hr
    | some q =>
      obtain ⟨x, s'⟩ := q
      rw [hrun] at hr
      refine (code_ok hP hR hL hD F B b x _ s' hrun φ _ cs w hs).mono fun e a' cs' w' hq => ?_
      obtain ⟨φ', k1, k2, k3, k4⟩ := hq
      have hbn : s'.below = none := by simpa using k4
      have hbel := k1.below
      rw [hbn] at hbel
      refine ⟨hbel, ?_⟩
      have hreg : ∀ t, VRel φ' (s'.regs.val t) (a'.tmps.getD t undef) := k1.ctx
      cases x with
      | normal =>
        cases e <;> simp only [ExRel] at k3
        exact defers_ok hRD hrs s'.defers none s'.heap hr φ' w' a'.defers .returning k1.heap k2 hreg k1.defers rfl
      | ret =>
        cases e <;> simp only [ExRel] at k3
        exact defers_ok hRD hrs s'.defers none s'.heap hr φ' w' a'.defers .returning k1.heap k2 hreg k1.defers rfl
      | panic c =>
        cases e <;> simp only [ExRel] at k3
        exact defers_ok hRD hrs s'.defers (some c) s'.heap hr φ' w' a'.defers (.panicking _) k1.heap k2 hreg k1.defers ⟨_, rfl, k3⟩
      | exit id => cases hr

theorem callD_ok {P : Program} {ng : Nat} {R : Runner} (hP : P.globals.size = ng) (hR : CallOk P ng R) (hL : LoopOk P ng R) (hD : DrawOk P ng R) {live : FuncId → List Nat} {f : FuncId} {af : AFunc} (hf : cFunc P live f = some af)
    {args : List AV} {h h' : AHeap} {m m' : Option Chain} {en : AEnd} (hr : callDBody R af args m h = some (en, m', h')) : Callable P f ∧ ∀ φ w cargs u, HRel ng φ h w → VRels φ args cargs.toList → ModeRel φ m u →
      CallsD P f cargs u w fun e u' w' => ∃ φ', HRel ng φ' h' w' ∧ Stp φ h w φ' h' w' ∧ EndRel φ' en e ∧ ModeRel φ' m' u' := by
  obtain ⟨fn, b, rs, hfn, hb, hname, hrs, rfl⟩ := cFunc_inv hf
  refine ⟨⟨fn, hfn, hname, by rw [hb]; rfl⟩, fun φ w cargs u H hv hm => ?_⟩
  unfold callDBody at hr
  cases hnp : Nat.ble (lenQ args) (fn.params.size + fn.nfree) with
  | false => simp only [hnp] at hr; cases hr
  | true =>
    simp only [hnp, Bool.not_true, cond_false] at hr
    rw [ble_iff, lenQ_eq] at hnp
    refine callsD_of_wpS hfn hb fun c₀ cs hu => wpS_of_wpG ?_
    let F : Frm := ⟨fn.ntmps, fn.params.size + fn.nfree, live f⟩
    let B : Base := ⟨c₀, cs, []⟩
    have hbel₀ : BelowRel φ B.c₀ B.rest B.cs₀ (some m) (c₀ :: cs) := ⟨u, by subst hu; rfl, hm⟩
    have hs := start_ok (F := F) (B := B) (n := fn.ntmps) (bl := some m) (cs := c₀ :: cs) H hv rfl hnp hbel₀
    cases hrun : (codeFn (cCode P F b)).run R ⟨argRegs args 0 .nil, h, [], some m⟩ with
    | none => rw [hrun] at hr; cases hr
    | some q =>
      obtain ⟨x, s'⟩ := q
      rw [hrun] at hr
      refine (code_ok hP hR hL hD F B b x _ s' hrun φ _ (c₀ :: cs) w hs).mono fun e a' cs' w' hq => ?_
      obtain ⟨φ', k1, k2, k3, k4⟩ := hq
      have hreg : ∀ t, VRel φ' (s'.regs.val t) (a'.tmps.getD t undef) := k1.ctx
      have hdef := k1.defers
      have hbel := k1.below
      have ends : ∀ ds bl, s'.defers = ds → s'.below = bl → ∀ vs, resOf s'.regs s'.heap rs = vs → (match ds, bl, vs with | [], some m, some vs => some (AEnd.returned (tupOf vs), m, s'.heap) | _, _, _ => none) = some (en, m', h') →
          a'.defers = [] ∧ ∃ u', cs' = { c₀ with mode := u' } :: cs ∧ ∃ v, (results fn a'.tmps).run P w' = .ok v w' ∧ ∃ φ', HRel ng φ' h' w' ∧ Stp φ h w φ' h' w' ∧ EndRel φ' en (.returned v) ∧ ModeRel φ' m' u' := by
        intro ds bl e1 e2 vs e3 hh
        cases ds with
        | cons _ _ => cases hh
        | nil =>
          cases bl with
          | none => cases hh
          | some m1 =>
            cases vs with
            | none => cases hh
            | some vs =>
              simp only [Option.some.injEq, Prod.mk.injEq] at hh
              obtain ⟨rfl, rfl, rfl⟩ := hh
              rw [e1] at hdef
              rw [e2] at hbel
              obtain ⟨u', hcs, hmr⟩ := hbel
              obtain ⟨cv, q1, q2⟩ := results_ok k1.heap hreg hrs e3
              exact ⟨hdef, u', hcs, cv, q1, φ', k1.heap, k2, q2, hmr⟩
      cases x with
      | normal =>
        cases e <;> simp only [ExRel] at k3
        exact ends _ _ rfl rfl _ rfl hr
      | ret =>
        cases e <;> simp only [ExRel] at k3
        exact ends _ _ rfl rfl _ rfl hr
      | panic c =>
        cases e <;> simp only [ExRel] at k3
        simp only at hr
        split at hr
        · rename_i m1 e1 e2
          simp only [Option.some.injEq, Prod.mk.injEq] at hr
          obtain ⟨rfl, rfl, rfl⟩ := hr
          rw [e1] at hdef
          rw [e2] at hbel
          obtain ⟨u', hcs, hmr⟩ := hbel
          exact ⟨hdef, u', hcs, φ', k1.heap, k2, k3, hmr⟩
        · cases hr
      | exit id => cases hr

end Go.Abs

/- The abstract machine: its runner is sound. -/
namespace Go.Abs
variable [Fct] [Val]

/-- What is known ahead of functions holds. -/
def OracleOk (P : Program) (ng : Nat) (O : Oracle) : Prop :=
  ∀ f args h en h', O f args h = some (en, h') → Callable P f ∧ ∀ φ w cargs, HRel ng φ h w → VRels φ args cargs.toList →
    Calls P f cargs w fun e w' => ∃ φ', HRel ng φ' h' w' ∧ Stp φ h w φ' h' w' ∧ EndRel φ' en e

theorem runner_ok {P : Program} {ng : Nat} (hP : P.globals.size = ng) {live : FuncId → List Nat} {O : Oracle} (hO : OracleOk P ng O) (hDraw : ∀ R, CallOk P ng R → DrawOk P ng R) :
    ∀ n, CallOk P ng (runner (progOf P live O) n) ∧ CallDOk P ng (runner (progOf P live O) n) ∧ LoopOk P ng (runner (progOf P live O) n)
  | 0 => by
    refine ⟨?_, ?_, ?_⟩
    · intro f args h en h' hr
      cases hr
    · intro f args m h en m' h' hr
      cases hr
    · intro F b x s s' hr
      cases hr
  | n + 1 => by
    obtain ⟨hR, hRD, hL⟩ := runner_ok hP hO hDraw n
    have hD := hDraw _ hR
    refine ⟨fun f args h en h' hr => ?_, fun f args m h en m' h' hr => ?_, fun F b x s s' hr B φ a cs w hs => ?_⟩
    · have hr' : callStep (progOf P live O) (runner (progOf P live O) n) f args h = some (en, h') := hr
      unfold callStep at hr'
      split at hr'
      · rename_i r ho
        cases hr'
        exact hO f args h en h' ho
      · split at hr'
        · rename_i fn hf
          exact call_ok hP hR hRD hL hD hf hr'
        · cases hr'
    · have hr' : callDStep (progOf P live O) (runner (progOf P live O) n) f args m h = some (en, m', h') := hr
      unfold callDStep at hr'
      split at hr'
      · rename_i fn hf
        exact callD_ok hP hR hL hD hf hr'
      · cases hr'
    · have hr' : loopStep (runner (progOf P live O) n) (cCode P F b) s = some (x, s') := hr
      exact loop_ok hP hR hL hD F b x s s' hr' B φ a cs w hs

end Go.Abs
