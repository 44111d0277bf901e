/- The abstract machine: rules for code, for a frame of any kind. -/
import Derived.Test.YtbojmpbccibmaaaGreatDoorBAbs20
import Derived.Scope
import Derived.Recover
import Derived.Orders
set_option linter.unusedVariables false
set_option linter.unusedSimpArgs false
set_option linter.unusedSectionVars false
set_option linter.deprecated false
namespace Go.Abs
variable [Val]

/-- What is demanded of the frame: nothing; or that it is a deferred call's. -/
def KindOk (dfd : Bool) (b : Frame) : Prop := dfd = true → b.kind = .deferred ∧ b.roundOf = none

abbrev Post := Exit → Act → List Frame → World → Prop

/-- Code, for a frame of a kind, above certain callers. -/
def wpG (P : Program) (dfd : Bool) (c : Code) (Q : Post) (a : Act) (cs : List Frame) (w : World) : Prop :=
  ∀ (b : Frame) (k : List Item), KindOk dfd b → ∃ e a' cs' w', Q e a' cs' w' ∧ Arrives P (lone (b.at a (.code c :: k)) cs w) b k cs' e a' w'

/-- The same where a loop's body is at its end. -/
def wpL (P : Program) (dfd : Bool) (c : Code) (Q : Post) (a : Act) (cs : List Frame) (w : World) : Prop :=
  ∀ (b : Frame) (k : List Item), KindOk dfd b → ∃ e a' cs' w', Q e a' cs' w' ∧ Arrives P (lone (b.at a (.inLoop c :: k)) cs w) b k cs' e a' w'

section
variable {P : Program} {dfd : Bool} {Q : Post} {a : Act} {cs : List Frame} {w : World}

theorem wpG.mono {c : Code} {Q' : Post} (h : wpG P dfd c Q' a cs w) (hq : ∀ e a cs w, Q' e a cs w → Q e a cs w) : wpG P dfd c Q a cs w :=
  fun b k hb => let ⟨e, a', cs', w', q, r⟩ := h b k hb; ⟨e, a', cs', w', hq _ _ _ _ q, r⟩

theorem wpG_of_wp {c : Code} (h : c.wp P (fun e a' w' => Q e a' cs w') a w) : wpG P dfd c Q a cs w :=
  fun b k _ => let ⟨e, a', w', q, r⟩ := h b k cs; ⟨e, a', cs, w', q, r⟩

theorem wpG_of_wpS {c : Code} (h : c.wpS P Q a cs w) : wpG P true c Q a cs w :=
  fun b k hb => h b k (hb rfl).1 (hb rfl).2

theorem wpS_of_wpG {c : Code} (h : wpG P true c Q a cs w) : c.wpS P Q a cs w :=
  fun b k h1 h2 => h b k fun _ => ⟨h1, h2⟩

theorem wpG_skip (h : Q .normal a cs w) : wpG P dfd .skip Q a cs w := fun _ _ _ => ⟨.normal, a, cs, w, h, .one step_skip⟩
theorem wpG_label {l : Nat} (h : Q .normal a cs w) : wpG P dfd (.label l) Q a cs w := fun _ _ _ => ⟨.normal, a, cs, w, h, .one step_label⟩
theorem wpG_exit {id : Nat} (h : Q (.exit id) a cs w) : wpG P dfd (.exit id) Q a cs w :=
  fun _ _ _ => ⟨.exit id, a, cs, w, h, fun _ hk => .one (step_exit hk)⟩
theorem wpG_ret (h : Q .ret a cs w) : wpG P dfd .ret Q a cs w := fun _ _ _ => ⟨.ret, a, cs, w, h, _, .one step_ret⟩

/-- The exits of a part, passed on over an item. -/
theorem arrives_pass {m : Machine} {b : Frame} {x : Item} {k : List Item} {e : Exit} (hx : x.plain = true) (he : e ≠ .normal) (h : Arrives P m b (x :: k) cs e a w) : Arrives P m b k cs e a w :=
  .pass hx (fun _ _ => .inl he) h

theorem wpG_seq {x y : Code} (h : wpG P dfd x (Exit.thenS (wpG P dfd y Q) Q) a cs w) : wpG P dfd (.seq x y) Q a cs w := by
  intro b k hb
  obtain ⟨e, a₁, cs₁, w₁, hq, harr⟩ := h b (.code y :: k) hb
  cases e with
  | normal =>
    obtain ⟨e₂, a₂, cs₂, w₂, hq₂, harr₂⟩ := hq b k hb
    exact ⟨e₂, a₂, cs₂, w₂, hq₂, .of_steps (.head step_seq harr) harr₂⟩
  | _ => exact ⟨_, a₁, cs₁, w₁, hq, .of_steps (.one step_seq) (arrives_pass (x := .code y) rfl (by simp) harr)⟩

theorem wpG_cond {c : Operand} {x y : Code} {t : Bool} (hc : a.eval c = .bool t) (h : wpG P dfd (if t then x else y) Q a cs w) : wpG P dfd (.cond c x y) Q a cs w :=
  fun b k hb => let ⟨e, a', cs', w', q, r⟩ := h b k hb; ⟨e, a', cs', w', q, .of_steps (.one (step_cond hc)) r⟩

def inBlockS (id : Nat) (Q : Post) : Post
  | .exit id', a, cs, w => if id' = id then Q .normal a cs w else Q (.exit id') a cs w
  | e, a, cs, w => Q e a cs w

theorem wpG_block {id : Nat} {c : Code} (h : wpG P dfd c (inBlockS id Q) a cs w) : wpG P dfd (.block id c) Q a cs w := by
  intro b k hb
  obtain ⟨e, a₁, cs₁, w₁, hq, harr⟩ := h b (.inBlock id :: k) hb
  cases e with
  | normal => exact ⟨.normal, a₁, cs₁, w₁, hq, .head step_block (Steps.trans harr (.one step_inBlock))⟩
  | exit id' =>
    by_cases hid : id' = id
    · simp only [inBlockS, hid, if_true] at hq
      exact ⟨.normal, a₁, cs₁, w₁, hq, .head step_block (harr k (by simp [exitTo, hid]))⟩
    · simp only [inBlockS, hid, if_false] at hq
      refine ⟨.exit id', a₁, cs₁, w₁, hq, fun k' hk => .head step_block (harr k' ?_)⟩
      have : (id == id') = false := by simp; exact fun h => hid h.symm
      simp [exitTo, this, hk]
  | goto l => exact ⟨_, a₁, cs₁, w₁, hq, fun k' hk => .head step_block (harr k' (by simp [gotoIn, hk]))⟩
  | ret => exact ⟨_, a₁, cs₁, w₁, hq, .of_steps (.one step_block) harr⟩
  | panic ch => exact ⟨_, a₁, cs₁, w₁, hq, .of_steps (.one step_block) harr⟩
  | outgrown => exact ⟨_, a₁, cs₁, w₁, hq, .of_steps (b := b) (k := k) (cs := cs₁) (e := .outgrown) (.one step_block) harr⟩

/-- A round of a loop, told from its start; then the loop's end. -/
theorem loop_round {c : Code} (h : wpG P dfd c (Exit.thenS (wpL P dfd c Q) Q) a cs w) (b : Frame) (k : List Item) (hb : KindOk dfd b) :
    ∃ e a' cs' w', Q e a' cs' w' ∧ Arrives P (lone (b.at a (.code c :: .inLoop c :: k)) cs w) b k cs' e a' w' := by
  obtain ⟨e, a₁, cs₁, w₁, hq, harr⟩ := h b (.inLoop c :: k) hb
  cases e with
  | normal =>
    obtain ⟨e₂, a₂, cs₂, w₂, hq₂, harr₂⟩ := hq b k hb
    exact ⟨e₂, a₂, cs₂, w₂, hq₂, .of_steps harr harr₂⟩
  | _ => exact ⟨_, a₁, cs₁, w₁, hq, arrives_pass (x := .inLoop c) rfl (by simp) harr⟩

theorem wpG_loop {c : Code} (h : wpG P dfd c (Exit.thenS (wpL P dfd c Q) Q) a cs w) : wpG P dfd (.loop c) Q a cs w :=
  fun b k hb => let ⟨e, a', cs', w', q, r⟩ := loop_round h b k hb; ⟨e, a', cs', w', q, .of_steps (.one step_loop) r⟩

theorem wpL_loop {c : Code} (h : wpG P dfd c (Exit.thenS (wpL P dfd c Q) Q) a cs w) : wpL P dfd c Q a cs w :=
  fun b k hb => let ⟨e, a', cs', w', q, r⟩ := loop_round h b k hb; ⟨e, a', cs', w', q, .of_steps (.one step_inLoop) r⟩

def noGotoS (Q : Post) : Post
  | .goto _, _, _, _ => False
  | e, a, cs, w => Q e a cs w

theorem wpG_scope {c : Code} (h : wpG P dfd c (noGotoS Q) a cs w) : wpG P dfd (.scope c) Q a cs w := by
  intro b k hb
  obtain ⟨e, a₁, cs₁, w₁, hq, harr⟩ := h b (.inScope c :: k) hb
  cases e with
  | normal => exact ⟨.normal, a₁, cs₁, w₁, hq, .head step_scope (Steps.trans harr (.one step_inScope))⟩
  | exit id => exact ⟨.exit id, a₁, cs₁, w₁, hq, fun k' hk => .head step_scope (harr k' (by simp [exitTo, hk]))⟩
  | goto l => exact hq.elim
  | ret => exact ⟨_, a₁, cs₁, w₁, hq, .of_steps (.one step_scope) harr⟩
  | panic ch => exact ⟨_, a₁, cs₁, w₁, hq, .of_steps (.one step_scope) harr⟩
  | outgrown => exact ⟨_, a₁, cs₁, w₁, hq, .of_steps (b := b) (k := k) (cs := cs₁) (e := .outgrown) (.one step_scope) harr⟩

end

/-! ### How a run of the abstract machine stands to one of the model -/

def DRels (φ : Phi) : List ADef → List Deferred → Prop
  | [], l => l = []
  | d :: ds, l => ∃ cd r, l = cd :: r ∧ DRel φ d cd ∧ DRels φ ds r

def ChRel (φ : Phi) : Chain → List PanicEntry → Prop
  | [], l => l = []
  | p :: ps, l => ∃ cv r, l = { v := cv, recovered := p.2, goexit := false } :: r ∧ VRel φ p.1 cv ∧ ChRel φ ps r

theorem DRel.mono {φ φ' : Phi} (h : Ext φ φ') {d : ADef} {cd : Deferred} (k : DRel φ d cd) : DRel φ' d cd :=
  let ⟨a, b, h1, h2⟩ := k; ⟨a, b, h1, h2.mono h⟩

theorem DRels.mono {φ φ' : Phi} (h : Ext φ φ') : ∀ {d : List ADef} {cd : List Deferred}, DRels φ d cd → DRels φ' d cd
  | [], _, k => k
  | _ :: _, _, ⟨cd, r, h1, h2, h3⟩ => ⟨cd, r, h1, h2.mono h, DRels.mono h h3⟩

theorem ChRel.mono {φ φ' : Phi} (h : Ext φ φ') : ∀ {d : Chain} {cd : List PanicEntry}, ChRel φ d cd → ChRel φ' d cd
  | [], _, k => k
  | _ :: _, _, ⟨cd, r, h1, h2, h3⟩ => ⟨cd, r, h1, h2.mono h, ChRel.mono h h3⟩

theorem ChRel.append {φ : Phi} : ∀ {a b : Chain} {c d : List PanicEntry}, ChRel φ a c → ChRel φ b d → ChRel φ (a ++ b) (c ++ d)
  | [], _, _, _, h, k => by simp only [ChRel] at h; subst h; exact k
  | _ :: _, _, _, _, ⟨v, r, e, h, l⟩, k => ⟨v, r ++ _, by rw [e]; rfl, h, ChRel.append l k⟩

/-- The mode of the frame below a deferred call. -/
def ModeRel (φ : Phi) : Option Chain → FrameMode → Prop
  | none, u => u = .returning
  | some c, u => ∃ cc, u = .panicking cc ∧ ChRel φ c cc

theorem ModeRel.mono {φ φ' : Phi} (h : Ext φ φ') : ∀ {m : Option Chain} {u : FrameMode}, ModeRel φ m u → ModeRel φ' m u
  | none, _, k => k
  | some _, _, ⟨cc, h1, h2⟩ => ⟨cc, h1, h2.mono h⟩

/-- Callers: in a plain call they stay; in a deferred one the mode of the first may turn. -/
def BelowRel (φ : Phi) (c₀ : Frame) (rest : List Frame) (cs₀ : List Frame) : Option (Option Chain) → List Frame → Prop
  | none, cs => cs = cs₀
  | some m, cs => ∃ u, cs = { c₀ with mode := u } :: rest ∧ ModeRel φ m u

end Go.Abs
