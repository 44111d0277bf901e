/- The abstract machine: what code comes to from a state under names, told by a set of ends; rules for code, loops, calls. -/
import Derived.Test.YtbojmpbccibmaaaGreatDoorDAbsF
set_option linter.unusedVariables false
set_option linter.unusedSimpArgs false
set_option linter.unusedSectionVars false
set_option linter.deprecated false
namespace Go.Abs

/-- What is held of names, and what they stand for. -/
structure Names where
  fct : Fct
  val : @Val fct

abbrev QSet := Names → AEx → St → Prop

/-- An end of a set, whatever the names then stand for. -/
def Post3 (ng : Nat) (F : Frm) (B : Base) (φ₀ : Phi) (h₀ : AHeap) (w₀ : World) (dfd : Bool) (Q : QSet) : Post :=
  fun ex a' cs' w' => ∃ N x s', Q N x s' ∧ @PostRel N.fct N.val ng F B φ₀ h₀ w₀ dfd x s' ex a' cs' w'

/-- What code comes to. 'n0': the numbers of blocks below this one stay what they are. -/
def Sem3 (P : Program) (ng : Nat) (F : Frm) (n0 : Nat) (N : Names) (c : Code) (s : St) (Q : QSet) : Prop :=
  ∀ (B : Base) (φ : Phi) (a : Act) (cs : List Frame) (w : World) (φ₀ : Phi) (h₀ : AHeap) (w₀ : World) (dfd : Bool), h₀.next ≤ n0 → (∀ i, h₀.next ≤ i → φ₀ i = .un) → Stp φ₀ h₀ w₀ φ s.heap w → s.below.isSome = dfd → @SRel N.fct N.val ng F B φ s a cs w →
    wpG P dfd c (Post3 ng F B φ₀ h₀ w₀ dfd Q) a cs w

/-- The same where a loop's body is at its end. -/
def SemL (P : Program) (ng : Nat) (F : Frm) (n0 : Nat) (N : Names) (c : Code) (s : St) (Q : QSet) : Prop :=
  ∀ (B : Base) (φ : Phi) (a : Act) (cs : List Frame) (w : World) (φ₀ : Phi) (h₀ : AHeap) (w₀ : World) (dfd : Bool), h₀.next ≤ n0 → (∀ i, h₀.next ≤ i → φ₀ i = .un) → Stp φ₀ h₀ w₀ φ s.heap w → s.below.isSome = dfd → @SRel N.fct N.val ng F B φ s a cs w →
    wpL P dfd c (Post3 ng F B φ₀ h₀ w₀ dfd Q) a cs w

/-- A runner's runs are the model's. -/
structure RunOk (P : Program) (ng : Nat) (N : Names) (R : Runner) : Prop where
  call : @CallOk N.fct N.val P ng R
  callD : @CallDOk N.fct N.val P ng R
  loop : @LoopOk N.fct N.val P ng R
  draw : @DrawOk N.fct N.val P ng R

section
variable {P : Program} {ng : Nat} {F : Frm} {n0 : Nat} {N : Names} {Q : QSet}

theorem wpG_mono' {dfd : Bool} {c : Code} {Q Q' : Post} {a : Act} {cs : List Frame} {w : World} (h : wpG P dfd c Q' a cs w) (hq : ∀ e a cs w, Q' e a cs w → Q e a cs w) : wpG P dfd c Q a cs w :=
  fun b k hb => let ⟨e, a', cs', w', q, r⟩ := h b k hb; ⟨e, a', cs', w', hq _ _ _ _ q, r⟩

theorem wpL_mono' {dfd : Bool} {c : Code} {Q Q' : Post} {a : Act} {cs : List Frame} {w : World} (h : wpL P dfd c Q' a cs w) (hq : ∀ e a cs w, Q' e a cs w → Q e a cs w) : wpL P dfd c Q a cs w :=
  fun b k hb => let ⟨e, a', cs', w', q, r⟩ := h b k hb; ⟨e, a', cs', w', hq _ _ _ _ q, r⟩

theorem Sem3.run (hP : P.globals.size = ng) {R : Runner} (hR : RunOk P ng N R) {c : Code} {s s' : St} {x : AEx} (hr : (codeFn (@cCode N.fct P F c)).run R s = some (x, s')) (hq : Q N x s') : Sem3 P ng F n0 N c s Q := by
  intro B φ a cs w φ₀ h₀ w₀ dfd hn hf hst hb hs
  subst hb
  letI := N.fct
  letI := N.val
  exact wpG_mono' (code_ok hP hR.call hR.loop hR.draw F B c x s s' hr φ a cs w hs) fun ex a' cs' w' h => ⟨N, x, s', hq, PostRel.trans hst h⟩

theorem Sem3.mono {c : Code} {s : St} {Q' : QSet} (h : Sem3 P ng F n0 N c s Q') (hq : ∀ N x s, Q' N x s → Q N x s) : Sem3 P ng F n0 N c s Q :=
  fun B φ a cs w φ₀ h₀ w₀ dfd hn hf hst hb hs => wpG_mono' (h B φ a cs w φ₀ h₀ w₀ dfd hn hf hst hb hs) fun _ _ _ _ ⟨N', x, s', k, r⟩ => ⟨N', x, s', hq _ _ _ k, r⟩

theorem Sem3.seq {c d : Code} {s : St} {Q1 : QSet} (h1 : Sem3 P ng F n0 N c s Q1) (h2 : ∀ N1 x s1, Q1 N1 x s1 → (x = .normal ∧ Sem3 P ng F n0 N1 d s1 Q) ∨ (x ≠ .normal ∧ Q N1 x s1)) : Sem3 P ng F n0 N (.seq c d) s Q := by
  intro B φ a cs w φ₀ h₀ w₀ dfd hn hf hst hb hs
  letI := N.fct
  letI := N.val
  refine wpG_seq (wpG_mono' (h1 B φ a cs w φ₀ h₀ w₀ dfd hn hf hst hb hs) fun ex a' cs' w' hq => ?_)
  obtain ⟨N1, x, s1, hq, φ', k1, k2, k3, k4⟩ := hq
  rcases h2 N1 x s1 hq with ⟨rfl, h⟩ | ⟨hx, h⟩
  · cases ex <;> simp only [ExRel] at k3
    simp only [Exit.thenS]
    exact h B φ' a' cs' w' φ₀ h₀ w₀ dfd hn hf k2 k4 k1
  · cases ex with
    | normal => cases x <;> simp only [ExRel] at k3; exact absurd rfl hx
    | _ => exact ⟨N1, x, s1, h, φ', k1, k2, k3, k4⟩

theorem Sem3.cond (hP : P.globals.size = ng) {c : Operand} {d e : Code} {s : St} {y : Opd} {t : Bool} (hc : cOpd P [] c = some y) (hy : y.ev [] s.regs = .bool t) (h : Sem3 P ng F n0 N (if t then d else e) s Q) : Sem3 P ng F n0 N (.cond c d e) s Q := by
  intro B φ a cs w φ₀ h₀ w₀ dfd hn hf hst hb hs
  letI := N.fct
  letI := N.val
  have hglob : ∀ g, g < P.globals.size → PtrOk φ g 0 ⟨g, 0, none⟩ := fun g hg => hs.heap.glob g (hP ▸ hg)
  have hv := opsOk hglob hs.ctx (fun _ => True) _ _ trivial hc
  rw [hy] at hv
  exact wpG_cond hv (h B φ a cs w φ₀ h₀ w₀ dfd hn hf hst hb hs)

theorem Sem3.block {id : Nat} {c : Code} {s : St} (h : Sem3 P ng F n0 N c s fun N1 x s1 => (x = .exit id ∧ Q N1 .normal s1) ∨ (x ≠ .exit id ∧ Q N1 x s1)) : Sem3 P ng F n0 N (.block id c) s Q := by
  intro B φ a cs w φ₀ h₀ w₀ dfd hn hf hst hb hs
  letI := N.fct
  letI := N.val
  refine wpG_block (wpG_mono' (h B φ a cs w φ₀ h₀ w₀ dfd hn hf hst hb hs) fun ex a' cs' w' hq => ?_)
  obtain ⟨N1, x, s1, hq, φ', k1, k2, k3, k4⟩ := hq
  rcases hq with ⟨rfl, hq⟩ | ⟨hx, hq⟩
  · cases ex <;> simp only [ExRel] at k3
    subst k3
    simp only [inBlockS, if_pos]
    exact ⟨N1, .normal, s1, hq, φ', k1, k2, trivial, k4⟩
  · cases ex with
    | exit j =>
      cases x <;> simp only [ExRel] at k3
      subst k3
      simp only [inBlockS]
      rw [if_neg (fun e => hx (by rw [e]))]
      exact ⟨N1, _, s1, hq, φ', k1, k2, rfl, k4⟩
    | _ => exact ⟨N1, x, s1, hq, φ', k1, k2, k3, k4⟩

theorem Sem3.scope {c : Code} {s : St} (h : Sem3 P ng F n0 N c s Q) : Sem3 P ng F n0 N (.scope c) s Q := by
  intro B φ a cs w φ₀ h₀ w₀ dfd hn hf hst hb hs
  letI := N.fct
  letI := N.val
  refine wpG_scope (wpG_mono' (h B φ a cs w φ₀ h₀ w₀ dfd hn hf hst hb hs) fun ex a' cs' w' hq => ?_)
  obtain ⟨N1, x, s1, hq, φ', k1, k2, k3, k4⟩ := hq
  cases ex <;> first | exact ⟨N1, x, s1, hq, φ', k1, k2, k3, k4⟩ | (cases x <;> exact k3.elim)

/-! ### Loops -/

theorem loop_key {c : Code} {s : St} {Q1 : QSet} (h1 : Sem3 P ng F n0 N c s Q1) (h2 : ∀ N1 x s1, Q1 N1 x s1 → (x = .normal ∧ SemL P ng F n0 N1 c s1 Q) ∨ (x ≠ .normal ∧ Q N1 x s1)) {B : Base} {φ : Phi} {a : Act} {cs : List Frame} {w : World} {φ₀ : Phi} {h₀ : AHeap} {w₀ : World} {dfd : Bool}
    (hn : h₀.next ≤ n0) (hf : ∀ i, h₀.next ≤ i → φ₀ i = .un) (hst : Stp φ₀ h₀ w₀ φ s.heap w) (hb : s.below.isSome = dfd) (hs : @SRel N.fct N.val ng F B φ s a cs w) :
    wpG P dfd c (Exit.thenS (wpL P dfd c (Post3 ng F B φ₀ h₀ w₀ dfd Q)) (Post3 ng F B φ₀ h₀ w₀ dfd Q)) a cs w := by
  refine wpG_mono' (h1 B φ a cs w φ₀ h₀ w₀ dfd hn hf hst hb hs) fun ex a' cs' w' hq => ?_
  obtain ⟨N1, x, s1, hq, φ', k1, k2, k3, k4⟩ := hq
  rcases h2 N1 x s1 hq with ⟨rfl, h⟩ | ⟨hx, h⟩
  · cases ex <;> simp only [ExRel] at k3
    simp only [Exit.thenS]
    exact h B φ' a' cs' w' φ₀ h₀ w₀ dfd hn hf k2 k4 k1
  · cases ex with
    | normal => cases x <;> simp only [ExRel] at k3; exact absurd rfl hx
    | _ => exact ⟨N1, x, s1, h, φ', k1, k2, k3, k4⟩

theorem SemL.step {c : Code} {s : St} {Q1 : QSet} (h1 : Sem3 P ng F n0 N c s Q1) (h2 : ∀ N1 x s1, Q1 N1 x s1 → (x = .normal ∧ SemL P ng F n0 N1 c s1 Q) ∨ (x ≠ .normal ∧ Q N1 x s1)) : SemL P ng F n0 N c s Q := by
  intro B φ a cs w φ₀ h₀ w₀ dfd hn hf hst hb hs
  letI := N.fct
  letI := N.val
  exact wpL_loop (loop_key h1 h2 hn hf hst hb hs)

theorem Sem3.loop {c : Code} {s : St} {Q1 : QSet} (h1 : Sem3 P ng F n0 N c s Q1) (h2 : ∀ N1 x s1, Q1 N1 x s1 → (x = .normal ∧ SemL P ng F n0 N1 c s1 Q) ∨ (x ≠ .normal ∧ Q N1 x s1)) : Sem3 P ng F n0 N (.loop c) s Q := by
  intro B φ a cs w φ₀ h₀ w₀ dfd hn hf hst hb hs
  letI := N.fct
  letI := N.val
  exact wpG_loop (loop_key h1 h2 hn hf hst hb hs)

/-- A loop that keeps to states of a kind, with less left in each round. -/
theorem SemL.inv {c : Code} {I : Nat → Names → St → Prop} (h : ∀ n N s, I n N s → Sem3 P ng F n0 N c s fun N1 x s1 => (x = .normal ∧ ∃ m, m < n ∧ I m N1 s1) ∨ (x ≠ .normal ∧ Q N1 x s1)) : ∀ n N s, I n N s → SemL P ng F n0 N c s Q := by
  intro n
  induction n using Nat.strongRecOn with
  | _ n ih =>
    intro N s hi
    refine SemL.step (h n N s hi) fun N1 x s1 hq => ?_
    rcases hq with ⟨rfl, m, hm, hi'⟩ | hq
    · exact .inl ⟨rfl, ih m hm N1 s1 hi'⟩
    · exact .inr hq

theorem Sem3.inv {c : Code} {I : Nat → Names → St → Prop} (h : ∀ n N s, I n N s → Sem3 P ng F n0 N c s fun N1 x s1 => (x = .normal ∧ ∃ m, m < n ∧ I m N1 s1) ∨ (x ≠ .normal ∧ Q N1 x s1)) {n : Nat} {s : St} (hi : I n N s) : Sem3 P ng F n0 N (.loop c) s Q := by
  refine Sem3.loop (h n N s hi) fun N1 x s1 hq => ?_
  rcases hq with ⟨rfl, m, hm, hi'⟩ | hq
  · exact .inl ⟨rfl, SemL.inv h m N1 s1 hi'⟩
  · exact .inr hq

/-! ### A state told anew, under other names -/

structure Redesc (ng n0 : Nat) (N1 : Names) (s1 : St) (N2 : Names) (s2 : St) : Prop where
  below : s2.below.isSome = s1.below.isSome
  rel : ∀ (F : Frm) (B : Base) (φ : Phi) (a : Act) (cs : List Frame) (w : World), @SRel N1.fct N1.val ng F B φ s1 a cs w → ∃ φ2, @SRel N2.fct N2.val ng F B φ2 s2 a cs w ∧
    ∀ (φ₀ : Phi) (h₀ : AHeap) (w₀ : World), h₀.next ≤ n0 → (∀ i, h₀.next ≤ i → φ₀ i = .un) → Stp φ₀ h₀ w₀ φ s1.heap w → Stp φ₀ h₀ w₀ φ2 s2.heap w

/-- From a state that is told anew. -/
theorem Sem3.from {c : Code} {s : St} {N2 : Names} {s2 : St} (hr : Redesc ng n0 N s N2 s2) (h : Sem3 P ng F n0 N2 c s2 Q) : Sem3 P ng F n0 N c s Q := by
  intro B φ a cs w φ₀ h₀ w₀ dfd hn hf hst hb hs
  obtain ⟨φ2, j1, j2⟩ := hr.rel F B φ a cs w hs
  exact h B φ2 a cs w φ₀ h₀ w₀ dfd hn hf (j2 φ₀ h₀ w₀ hn hf hst) (hr.below.trans hb) j1

theorem SemL.from {c : Code} {s : St} {N2 : Names} {s2 : St} (hr : Redesc ng n0 N s N2 s2) (h : SemL P ng F n0 N2 c s2 Q) : SemL P ng F n0 N c s Q := by
  intro B φ a cs w φ₀ h₀ w₀ dfd hn hf hst hb hs
  obtain ⟨φ2, j1, j2⟩ := hr.rel F B φ a cs w hs
  exact h B φ2 a cs w φ₀ h₀ w₀ dfd hn hf (j2 φ₀ h₀ w₀ hn hf hst) (hr.below.trans hb) j1

/-- To an end that is told anew. -/
theorem Sem3.weak {c : Code} {s : St} {Q' : QSet} (h : Sem3 P ng F n0 N c s Q') (hw : ∀ N1 x s1, Q' N1 x s1 → Q N1 x s1 ∨ ((∀ ch, x ≠ .panic ch) ∧ ∃ N2 s2, Q N2 x s2 ∧ Redesc ng n0 N1 s1 N2 s2)) : Sem3 P ng F n0 N c s Q := by
  intro B φ a cs w φ₀ h₀ w₀ dfd hn hf hst hb hs
  refine wpG_mono' (h B φ a cs w φ₀ h₀ w₀ dfd hn hf hst hb hs) fun ex a' cs' w' hq => ?_
  obtain ⟨N1, x, s1, hq, φ', k1, k2, k3, k4⟩ := hq
  rcases hw N1 x s1 hq with hq | ⟨hx, N2, s2, hq, hr⟩
  · exact ⟨N1, x, s1, hq, φ', k1, k2, k3, k4⟩
  · obtain ⟨φ2, j1, j2⟩ := hr.rel F B φ' a' cs' w' k1
    refine ⟨N2, x, s2, hq, φ2, j1, j2 φ₀ h₀ w₀ hn hf k2, ?_, hr.below.trans k4⟩
    cases x with
    | panic ch => exact absurd rfl (hx ch)
    | _ => cases ex <;> exact k3

end

/-! ### Calls -/

theorem leaves_mono {P : Program} {fn : Func} {tmps : Array Value} {R R' : Ending → World → Prop} (hR : ∀ e w, R e w → R' e w) : ∀ (ds : List Deferred) (u : FrameMode) (w : World), Leaves P fn tmps R ds u w → Leaves P fn tmps R' ds u w
  | [], .returning, w, h => let ⟨v, h1, h2⟩ := h; ⟨v, h1, hR _ _ h2⟩
  | [], .panicking chain, w, h => hR _ _ h
  | [], .run, _, h => h
  | d :: ds, u, w, h => by
    obtain ⟨h1, fv, cap, f, args, h2, h3, h4⟩ := h
    refine ⟨h1, fv, cap, f, args, h2, h3, h4.mono fun e u' w' h5 => ?_⟩
    cases e with
    | returned _ => exact leaves_mono hR ds _ _ h5
    | panicked chain => exact leaves_mono hR ds _ _ h5
    | outgrown => exact hR _ _ h5

/-- What a call comes to, told by a set of ends. -/
def ConS (P : Program) (ng : Nat) (N : Names) (f : FuncId) (args : List AV) (h : AHeap) (QC : Names → AEnd → AHeap → Prop) : Prop :=
  Callable P f ∧ ∀ (φ : Phi) (w : World) (cargs : Array Value), @HRel N.fct N.val ng φ h w → @VRels N.fct N.val φ args cargs.toList →
    Calls P f cargs w fun e w' => ∃ N1 en h1, QC N1 en h1 ∧ ∃ φ', @HRel N1.fct N1.val ng φ' h1 w' ∧ Stp φ h w φ' h1 w' ∧ @EndRel N1.fct N1.val φ' en e

theorem call_sem {P : Program} {ng n0 : Nat} {N : Names} {f : FuncId} {fn : Func} {b : Code} {as : List ARes} {live : List Nat} {QC : Names → AEnd → AHeap → Prop}
    (hfn : P.funcs[f]? = some fn) (hb : fn.body = some b) (hname : fn.name ≠ "runtime.NumGoroutine") (hrs : cRes P fn.results.toList = some as)
    {args : List AV} {h : AHeap} (hnp : Nat.ble args.length (fn.params.size + fn.nfree) = true)
    (hn0 : h.next ≤ n0) (hd : Sem3 P ng ⟨fn.ntmps, fn.params.size + fn.nfree, live⟩ n0 N b ⟨argRegs args 0 .nil, h, [], none⟩ fun N1 x s1 => ∃ R en h1, RunOk P ng N1 R ∧ endOf R as x s1 = some (en, h1) ∧ QC N1 en h1) : ConS P ng N f args h QC := by
  refine ⟨⟨fn, hfn, hname, by rw [hb]; rfl⟩, fun φ w cargs H hv => ?_⟩
  letI := N.fct
  letI := N.val
  rw [ble_iff] at hnp
  refine calls_of_wp_defers hfn hb (wp_of_wpG fun cs => ?_)
  let F : Frm := ⟨fn.ntmps, fn.params.size + fn.nfree, live⟩
  let B : Base := ⟨default, [], cs⟩
  have hs := start_ok (F := F) (B := B) (n := fn.ntmps) (bl := none) (cs := cs) H hv rfl hnp rfl
  refine wpG_mono' (hd B φ _ cs w φ h w false hn0 H.fresh (Stp.refl _ _ _) rfl hs) fun e a' cs' w' hq => ?_
  obtain ⟨N1, x, s', ⟨R, en, h', hR, hr, hqc⟩, φ', k1, k2, k3, k4⟩ := hq
  have hbn : s'.below = none := by simpa using k4
  have hbel := @IRel.below N1.fct N1.val _ _ _ _ _ _ _ _ _ _ k1
  rw [hbn] at hbel
  refine ⟨hbel, ?_⟩
  have hreg : ∀ t, @VRel N1.fct N1.val φ' (s'.regs.val t) (a'.tmps.getD t undef) := @IRel.ctx N1.fct N1.val _ _ _ _ _ _ _ _ _ _ k1
  have hdf := @IRel.defers N1.fct N1.val _ _ _ _ _ _ _ _ _ _ k1
  have hhp := @IRel.heap N1.fct N1.val _ _ _ _ _ _ _ _ _ _ k1
  letI := N1.fct
  letI := N1.val
  have out : ∀ e w'', (∃ φ'', HRel ng φ'' h' w'' ∧ Stp φ h w φ'' h' w'' ∧ EndRel φ'' en e) → (∃ N1 en h1, QC N1 en h1 ∧ ∃ φ', @HRel N1.fct N1.val ng φ' h1 w'' ∧ Stp φ h w φ' h1 w'' ∧ @EndRel N1.fct N1.val φ' en e) :=
    fun e w'' hh => ⟨N1, en, h', hqc, hh⟩
  cases x with
  | normal =>
    cases e <;> simp only [ExRel] at k3
    exact leaves_mono out _ _ _ (defers_ok hR.callD hrs s'.defers none s'.heap hr φ' w' a'.defers .returning hhp k2 hreg hdf rfl)
  | ret =>
    cases e <;> simp only [ExRel] at k3
    exact leaves_mono out _ _ _ (defers_ok hR.callD hrs s'.defers none s'.heap hr φ' w' a'.defers .returning hhp k2 hreg hdf rfl)
  | panic c =>
    cases e <;> simp only [ExRel] at k3
    exact leaves_mono out _ _ _ (defers_ok hR.callD hrs s'.defers (some c) s'.heap hr φ' w' a'.defers (.panicking _) hhp k2 hreg hdf ⟨_, rfl, k3⟩)
  | exit id => cases hr

end Go.Abs

/- The abstract machine: a state told anew: blocks by other numbers, numbers by other names. -/
namespace Go.Abs

/-- Blocks by their new numbers. -/
def ren (n : Nat) (ρ : Nat → Nat) (φ : Phi) : Phi := fun i => if i < n then φ (ρ i) else .un

theorem ren_lt {n i : Nat} {ρ : Nat → Nat} (φ : Phi) (h : i < n) : ren n ρ φ i = φ (ρ i) := by simp [ren, h]
theorem ren_ge {n i : Nat} {ρ : Nat → Nat} (φ : Phi) (h : n ≤ i) : ren n ρ φ i = .un := by simp [ren]; intro; omega

/-- Does a value lead to a block? -/
def leadsTo (i : Nat) (v : AV) : Bool := match v with
  | .ptr (some (j, _)) => Nat.beq j i
  | .sl (some (j, _)) _ _ _ _ => Nat.beq j i
  | .xptr j _ _ _ => Nat.beq j i
  | .xsl j _ _ _ _ _ _ => Nat.beq j i
  | _ => false

theorem leadsTo_ok [Fct] [Val] {i : Nat} {v : AV} {φ : Phi} {cv : Value} (h : leadsTo i v = true) (hv : VRel φ v cv) : φ i ≠ .un := by
  unfold leadsTo at h
  split at h
  · rw [beq_iff] at h; subst h; obtain ⟨a, _, k⟩ := hv; exact k.notUn
  · rw [beq_iff] at h; subst h; obtain ⟨a, c, _, _, _, _, k⟩ := hv; exact k.notUn
  · rw [beq_iff] at h; subst h; obtain ⟨_, a, _, k⟩ := hv; exact k.notUn
  · rw [beq_iff] at h; subst h; obtain ⟨_, _, a, c, _, _, k⟩ := hv; exact k.notUn
  · cases h

/-- Does a place of the frame lead to a block, by itself, or by the block that it leads to? -/
noncomputable def ledBy (s : St) (i t : Nat) : Bool := leadsTo i (s.regs.val t) || (match s.regs.val t with
  | .ptr (some (j, _)) => (match s.heap.get j with
    | some (.cells m c _ _) => (getsV c m 0).any (leadsTo i)
    | _ => false)
  | _ => false)

theorem ledBy_ok [Fct] [Val] {ng : Nat} {s : St} {i t : Nat} {φ : Phi} {w : World} {tmps : Array Value} (h : ledBy s i t = true) (H : HRel ng φ s.heap w) (hc : VRel φ (s.regs.val t) (tmps.getD t undef)) : φ i ≠ .un := by
  unfold ledBy at h
  rw [Bool.or_eq_true] at h
  rcases h with h | h
  · exact leadsTo_ok h hc
  · split at h
    · rename_i j o e
      rw [e] at hc
      obtain ⟨a, _, hp⟩ := hc
      split at h
      · rename_i m c t' ro hg
        rcases H.blk j _ hg with hu | ⟨b, p, n, hu, hb⟩
        · exact absurd hu hp.notUn
        · obtain ⟨vs, u, fz, h1, h2, h3, h4, _⟩ := hb
          rw [List.any_eq_true] at h
          obtain ⟨x, hx, hl⟩ := h
          obtain ⟨q, hq⟩ := List.getElem?_of_mem hx
          have hqm : q < m := by
            have := (List.getElem?_eq_some_iff.1 hq).1
            rw [length_getsV] at this; exact this
          obtain ⟨v, _, hr⟩ := h4 q hqm
          rw [getElem?_getsV _ _ _ _ hqm, Nat.zero_add] at hq
          rw [Option.some.inj hq] at hr
          exact leadsTo_ok hl hr
      · cases h
    · cases h

/-- What one block says, the other one says. -/
def BlkTo (N1 N2 : Names) (n : Nat) (ρ : Nat → Nat) (b1 b : ABlk) : Prop :=
  b.ro = b1.ro ∧ ∀ (φ : Phi) (c p m : Nat) (w : World), @BRel N1.fct N1.val φ b1 c p m w → @BRel N2.fct N2.val (ren n ρ φ) b c p m w

def ValTo (N1 N2 : Names) (n : Nat) (ρ : Nat → Nat) (x y : AV) : Prop :=
  ∀ (φ : Phi) (v : Value), @VRel N1.fct N1.val φ x v → @VRel N2.fct N2.val (ren n ρ φ) y v

structure Re (n0 : Nat) (N1 : Names) (s1 : St) (N2 : Names) (s2 : St) (ρ : Nat → Nat) : Prop where
  nle : n0 ≤ s2.heap.next
  low : ∀ i, i < n0 → ρ i = i
  keep : ∀ i, i < n0 → s2.heap.get i = s1.heap.get i ∨ ∃ t, ledBy s1 i t = true
  blk : ∀ i b, s2.heap.get i = some b → i < s2.heap.next ∧ ∃ b1, s1.heap.get (ρ i) = some b1 ∧ BlkTo N1 N2 s2.heap.next ρ b1 b
  inj : ∀ i j b b', s2.heap.get i = some b → s2.heap.get j = some b' → i ≠ j → ρ i = ρ j → b.ro = true ∧ b'.ro = true
  regs : ∀ t, s2.regs.val t = .junk ∨ (s1.regs.val t ≠ .junk ∧ ValTo N1 N2 s2.heap.next ρ (s1.regs.val t) (s2.regs.val t))
  defers : ∀ (φ : Phi) (cd : List Deferred), @DRels N1.fct N1.val φ s1.defers cd → @DRels N2.fct N2.val (ren s2.heap.next ρ φ) s2.defers cd
  bel : s1.below = none ∧ s2.below = none

theorem Re.redesc {ng n0 : Nat} {N1 N2 : Names} {s1 s2 : St} {ρ : Nat → Nat} (h : Re n0 N1 s1 N2 s2 ρ) (hng : ng ≤ n0) : Redesc ng n0 N1 s1 N2 s2 := by
  refine ⟨by rw [h.bel.1, h.bel.2], fun F B φ a cs w hs => ⟨ren s2.heap.next ρ φ, ?_, ?_⟩⟩
  · have H := @IRel.heap N1.fct N1.val _ _ _ _ _ _ _ _ _ _ hs
    have hctx := @IRel.ctx N1.fct N1.val _ _ _ _ _ _ _ _ _ _ hs
    have hlive := @IRel.live N1.fct N1.val _ _ _ _ _ _ _ _ _ _ hs
    have hsize := @IRel.size N1.fct N1.val _ _ _ _ _ _ _ _ _ _ hs
    have hdf := @IRel.defers N1.fct N1.val _ _ _ _ _ _ _ _ _ _ hs
    have hbel := @IRel.below N1.fct N1.val _ _ _ _ _ _ _ _ _ _ hs
    letI := N2.fct
    letI := N2.val
    refine ⟨⟨fun i hi => ren_ge φ hi, fun g hg => ?_, fun i b hb => ?_, fun i j b b' c p m p' m' hi hj hne ei ej => ?_, fun i c p m e => ?_, fun i b hb => (h.blk i b hb).1⟩, fun t => ?_, fun t k hk => by simp [locOf] at hk, fun t ht => ?_, hsize, h.defers φ _ hdf, ?_⟩
    · have hg' := @HRel.glob N1.fct N1.val _ _ _ _ H g hg
      unfold PtrOk at *
      rw [ren_lt φ (by have := h.nle; omega), h.low g (by omega)]; exact hg'
    · obtain ⟨h1, b1, h2, h3, h4⟩ := h.blk i b hb
      rw [ren_lt φ h1]
      rcases @HRel.blk N1.fct N1.val _ _ _ _ H _ b1 h2 with e | ⟨c, p, m, e, q⟩
      · exact .inl e
      · exact .inr ⟨c, p, m, e, h4 φ c p m w q⟩
    · obtain ⟨h1, b1, h2, h3, _⟩ := h.blk i b hi
      obtain ⟨h4, b2, h5, h6, _⟩ := h.blk j b' hj
      rw [ren_lt φ h1] at ei
      rw [ren_lt φ h4] at ej
      by_cases hr : ρ i = ρ j
      · exact h.inj i j b b' hi hj hne hr
      · rw [h3, h6]
        exact @HRel.inj N1.fct N1.val _ _ _ _ H _ _ b1 b2 c p m p' m' h2 h5 hr ei ej
    · unfold ren at e
      split at e
      · exact @HRel.lt N1.fct N1.val _ _ _ _ H _ c p m e
      · cases e
    · have := hctx t
      simp only [locOf] at this ⊢
      rcases h.regs t with e | ⟨_, hl⟩
      · rw [e]; trivial
      · exact hl φ _ this
    · rcases h.regs t with e | ⟨e, _⟩
      · exact e
      · exact absurd (hlive t ht) e
    · rw [h.bel.1] at hbel
      rw [h.bel.2]; exact hbel
  · intro φ₀ h₀ w₀ hn hf k
    have hctx := @IRel.ctx N1.fct N1.val _ _ _ _ _ _ _ _ _ _ hs
    have H := @IRel.heap N1.fct N1.val _ _ _ _ _ _ _ _ _ _ hs
    have hn2 := h.nle
    refine ⟨fun i => ?_, k.os, k.tape, k.output, k.size, k.same, fun b ⟨i, bl, o, n, hg, hro, e⟩ hb => ?_, fun i hi e => ?_, by omega⟩
    · by_cases hi : i < h₀.next
      · rw [ren_lt φ (by omega), h.low i (by omega)]; exact k.ext i
      · rw [hf i (by omega)]; trivial
    · obtain ⟨h1, b1, h2, h3, _⟩ := h.blk i bl hg
      rw [ren_lt φ h1] at e
      exact k.own b ⟨_, b1, o, n, h2, h3 ▸ hro, e⟩ hb
    · obtain ⟨h1, h2⟩ := k.virt i hi e
      refine ⟨?_, by rw [ren_lt φ (by omega), h.low i (by omega)]; exact h2⟩
      rcases h.keep i (by omega) with h3 | ⟨t, ht⟩
      · exact h3.trans h1
      · have := hctx t
        simp only [locOf] at this
        exact absurd h2 (@ledBy_ok N1.fct N1.val _ _ _ _ _ _ _ ht H this)

/-! ### Held by a program -/

/-- Numbers that are one: a name of the old ones, and so much more; a name of the new ones, and so much more. -/
abbrev Eqs := List ((Nat × Int) × (Nat × Int))

def EqOk (N1 N2 : Names) (E : Eqs) : Prop := ∀ a b, (a, b) ∈ E → N1.val.num a.1 + a.2 = N2.val.num b.1 + b.2

/-- By how much a new name's number is above an old one's. -/
noncomputable def diffE (i j : Nat) : Eqs → Option Int
  | [] => ifB (Nat.beq i 0) (ifB (Nat.beq j 0) (some 0) none) none
  | ((a, p), (b, q)) :: r => ifB (Nat.beq a i) (ifB (Nat.beq b j) (some (p - q)) (diffE i j r)) (diffE i j r)

noncomputable def sameE (E : Eqs) (i : Nat) (p : Int) (j : Nat) (q : Int) : Bool := match diffE i j E with
  | some d => eqQ p (d + q)
  | none => false

theorem diffE_ok {N1 N2 : Names} {i j : Nat} {d : Int} : ∀ {E : Eqs}, EqOk N1 N2 E → diffE i j E = some d → N2.val.num j = N1.val.num i + d
  | [], _, h => by
    simp only [diffE, T.ifB_eq, beq_iff] at h
    split at h
    · rename_i hi
      split at h
      · rename_i hj
        cases h
        rw [hi, hj, @Val.num0 N1.fct N1.val, @Val.num0 N2.fct N2.val]; rfl
      · cases h
    · cases h
  | ((a, p), (b, q)) :: r, hE, h => by
    have hr : EqOk N1 N2 r := fun x y hm => hE x y (List.mem_cons_of_mem _ hm)
    simp only [diffE, T.ifB_eq, beq_iff] at h
    split at h
    · rename_i ha
      split at h
      · rename_i hb
        cases h
        have := hE (a, p) (b, q) (List.mem_cons_self ..)
        simp only at this
        subst ha; subst hb; omega
      · exact diffE_ok hr h
    · exact diffE_ok hr h

theorem sameE_ok {N1 N2 : Names} {E : Eqs} (hE : EqOk N1 N2 E) {i j : Nat} {p q : Int} (h : sameE E i p j q = true) : N1.val.num i + p = N2.val.num j + q := by
  unfold sameE at h
  split at h
  · rename_i d hd
    have := diffE_ok hE hd
    rw [eqQ_eq, beq_iff_eq] at h
    omega
  · cases h

/-- Blocks' old numbers by the new ones. -/
noncomputable def rhoL (l : List (Nat × Nat)) (i : Nat) : Nat := List.rec (motive := fun _ => Nat) i (fun x _ ih => ifB (Nat.beq x.1 i) x.2 ih) l

noncomputable def goesTo (n : Nat) (l : List (Nat × Nat)) (i j : Nat) : Bool := ifB (Nat.blt j n) (Nat.beq (rhoL l j) i) false

/-- A place told by names. -/
noncomputable def sameBase (E : Eqs) (a sc : Nat) (off : Int) (b sc' : Nat) (off' : Int) : Bool :=
  match diffE a b E with
  | some d => ifB (Nat.beq a 0 && Nat.beq b 0) (eqQ d 0 && eqQ off off') (Nat.beq sc sc' && eqQ off (d * Int.ofNat sc + off'))
  | none => false

theorem sameBase_ok {N1 N2 : Names} {E : Eqs} (hE : EqOk N1 N2 E) {a sc b sc' : Nat} {off off' : Int} (h : sameBase E a sc off b sc' off' = true) : N1.val.num a * (sc : Int) + off = N2.val.num b * (sc' : Int) + off' := by
  unfold sameBase at h
  split at h
  · rename_i d hd
    have hd := diffE_ok hE hd
    rw [T.ifB_eq] at h
    split at h
    · rename_i hz
      simp only [Bool.and_eq_true, beq_iff] at hz
      simp only [Bool.and_eq_true, eqQ_eq, beq_iff_eq] at h
      rw [hz.1, hz.2, @Val.num0 N1.fct N1.val, @Val.num0 N2.fct N2.val, h.2]; simp
    · simp only [Bool.and_eq_true, beq_iff, eqQ_eq, beq_iff_eq] at h
      obtain ⟨h1, h2⟩ := h
      subst h1
      rw [h2, hd, Int.add_mul, Int.ofNat_eq_natCast]; omega
  · cases h

mutual
/-- Does the first value, of the old names, say what the second one, of the new ones, says? -/
noncomputable def reV (n : Nat) (l : List (Nat × Nat)) (E : Eqs) : AV → AV → Bool
  | _, .junk => true
  | .bool a, .bool b => a == b
  | .int k m, .int k' m' => kEq k k' && eqQ m m'
  | .int k m, .ex k' j q => kEq k k' && sameE E 0 m j q
  | .ex k i p, .ex k' j q => kEq k k' && sameE E i p j q
  | .ex k i p, .int k' m => kEq k k' && sameE E i p 0 m
  | .str a, .str b => strEq a b
  | .ptr none, .ptr none => true
  | .ptr (some (i, o)), .ptr (some (j, p)) => goesTo n l i j && Nat.beq o p
  | .xptr i a sc off, .xptr j b sc' off' => goesTo n l i j && sameBase E a sc off b sc' off'
  | .sl none _ x c _, .sl none _ x' c' _ => Nat.beq x 0 && (Nat.beq c 0 && (Nat.beq x' 0 && Nat.beq c' 0))
  | .sl (some (i, o)) e x c ex, .sl (some (j, p)) e' x' c' ex' => goesTo n l i j && (Nat.beq o p && (Nat.beq e e' && (Nat.beq x x' && (Nat.beq c c' && ex == ex'))))
  | .sl (some (i, o)) e x c ex, .xsl j b sc off e' lid loff => goesTo n l i j && (sameBase E 0 0 (Int.ofNat o) b sc off && (Nat.beq e e' && sameE E 0 (Int.ofNat x) lid loff))
  | .xsl i a sc off e lid loff, .xsl j b sc' off' e' lid' loff' => goesTo n l i j && (sameBase E a sc off b sc' off' && (Nat.beq e e' && sameE E lid loff lid' loff'))
  | .xsl i a sc off e lid loff, .sl (some (j, p)) e' x c ex => goesTo n l i j && (sameBase E a sc off 0 0 (Int.ofNat p) && (Nat.beq e e' && (sameE E lid loff 0 (Int.ofNat x) && (Nat.beq c x && !ex))))
  | .map none, .map none => true
  | .map (some i), .map (some j) => goesTo n l i j
  | .fn f a b, .fn f' a' b' => Nat.beq f f' && (reVs n l E a a' && reVs n l E b b')
  | .nilFn, .nilFn => true
  | .iface t v, .iface t' v' => Nat.beq t t' && reV n l E v v'
  | .nilIface, .nilIface => true
  | .agg a, .agg b => reVs n l E a b
  | .tup a, .tup b => reVs n l E a b
  | _, _ => false
noncomputable def reVs (n : Nat) (l : List (Nat × Nat)) (E : Eqs) : List AV → List AV → Bool
  | [], [] => true
  | a :: x, b :: y => reV n l E a b && reVs n l E x y
  | _, _ => false
end

section
variable {N1 N2 : Names} {n : Nat} {l : List (Nat × Nat)} {E : Eqs}

theorem goesTo_ok {i j : Nat} (h : goesTo n l i j = true) (φ : Phi) : ren n (rhoL l) φ j = φ i := by
  unfold goesTo at h
  rw [T.ifB_eq] at h
  split at h
  · rename_i hj
    rw [blt_iff] at hj
    rw [beq_iff] at h
    rw [ren_lt φ hj, h]
  · cases h

theorem ptr_ren {i j o : Nat} {a : Addr} (h : goesTo n l i j = true) {φ : Phi} (k : PtrOk φ i o a) : PtrOk (ren n (rhoL l) φ) j o a := by
  unfold PtrOk at *
  rw [goesTo_ok h]; exact k

theorem sl_ren {i j o e c : Nat} {a : Addr} (h : goesTo n l i j = true) {φ : Phi} (k : SlOk φ i o e c a) : SlOk (ren n (rhoL l) φ) j o e c a := by
  unfold SlOk at *
  rw [goesTo_ok h]; exact k

theorem map_ren {i j r : Nat} (h : goesTo n l i j = true) {φ : Phi} (k : MapOk φ i r) : MapOk (ren n (rhoL l) φ) j r := by
  unfold MapOk at *
  rw [goesTo_ok h]; exact k

mutual
theorem reV_ok (hE : EqOk N1 N2 E) : ∀ (x y : AV), reV n l E x y = true → ValTo N1 N2 n (rhoL l) x y
  | x, y, h => by
    intro φ v hv
    unfold reV at h
    split at h
    · trivial
    · rw [beq_iff_eq] at h; subst h; exact hv
    · simp only [Bool.and_eq_true, kEq_iff, eqQ_eq, beq_iff_eq] at h
      obtain ⟨rfl, rfl⟩ := h; exact hv
    · simp only [Bool.and_eq_true, kEq_iff] at h
      obtain ⟨rfl, h2⟩ := h
      have := sameE_ok hE h2
      rw [@Val.num0 N1.fct N1.val, Int.zero_add] at this
      simp only [VRel] at hv ⊢
      rw [hv, this]
    · simp only [Bool.and_eq_true, kEq_iff] at h
      obtain ⟨rfl, h2⟩ := h
      have := sameE_ok hE h2
      simp only [VRel] at hv ⊢
      rw [hv, this]
    · simp only [Bool.and_eq_true, kEq_iff] at h
      obtain ⟨rfl, h2⟩ := h
      have := sameE_ok hE h2
      rw [@Val.num0 N2.fct N2.val, Int.zero_add] at this
      simp only [VRel] at hv ⊢
      rw [hv, this]
    · rw [strEq_eq, beq_iff_eq] at h; subst h; exact hv
    · exact hv
    · simp only [Bool.and_eq_true, beq_iff] at h
      obtain ⟨h1, rfl⟩ := h
      obtain ⟨a, rfl, k⟩ := hv
      exact ⟨a, rfl, ptr_ren h1 k⟩
    · simp only [Bool.and_eq_true] at h
      obtain ⟨h1, h2⟩ := h
      have hb := sameBase_ok hE h2
      obtain ⟨k0, a, rfl, k⟩ := hv
      refine ⟨by rw [← hb]; exact k0, a, rfl, ?_⟩
      rw [← hb]; exact ptr_ren h1 k
    · simp only [Bool.and_eq_true, beq_iff] at h
      obtain ⟨h1, h2, h3, h4⟩ := h
      obtain ⟨rfl, _, _⟩ := hv
      exact ⟨rfl, h3, h4⟩
    · simp only [Bool.and_eq_true, beq_iff, beq_iff_eq] at h
      obtain ⟨h1, rfl, rfl, rfl, rfl, rfl⟩ := h
      obtain ⟨a, c, rfl, k1, k2, k3, k⟩ := hv
      exact ⟨a, c, rfl, k1, k2, k3, sl_ren h1 k⟩
    · simp only [Bool.and_eq_true, beq_iff] at h
      obtain ⟨h1, h2, rfl, h4⟩ := h
      have hb := sameBase_ok hE h2
      have hl := sameE_ok hE h4
      rw [@Val.num0 N1.fct N1.val] at hb hl
      simp only [Int.ofNat_eq_natCast, Int.zero_mul, Int.zero_add] at hb hl
      obtain ⟨a, c, rfl, k1, k2, k3, k⟩ := hv
      refine ⟨by rw [← hb]; omega, by rw [← hl]; omega, a, c, by rw [← hl]; simp, by rw [← hl]; simp; omega, ?_⟩
      rw [← hb, Int.toNat_natCast]; exact sl_ren h1 k
    · simp only [Bool.and_eq_true, beq_iff] at h
      obtain ⟨h1, h2, rfl, h4⟩ := h
      have hb := sameBase_ok hE h2
      have hl := sameE_ok hE h4
      obtain ⟨k0, k1, a, c, rfl, k2, k⟩ := hv
      refine ⟨by rw [← hb]; exact k0, by rw [← hl]; exact k1, a, c, by rw [← hl], by rw [← hl]; exact k2, ?_⟩
      rw [← hb]; exact sl_ren h1 k
    · simp only [Bool.and_eq_true, beq_iff, Bool.not_eq_true'] at h
      obtain ⟨h1, h2, rfl, h4, rfl, rfl⟩ := h
      have hb := sameBase_ok hE h2
      have hl := sameE_ok hE h4
      rw [@Val.num0 N2.fct N2.val] at hb hl
      simp only [Int.ofNat_eq_natCast, Int.zero_mul, Int.zero_add] at hb hl
      obtain ⟨k0, k1, a, c, rfl, k2, k⟩ := hv
      rw [hb, Int.toNat_natCast] at k
      rw [hl, Int.toNat_natCast] at k2
      refine ⟨a, c, by rw [hl, Int.toNat_natCast], Nat.le_refl _, k2, by simp, sl_ren h1 k⟩
    · exact hv
    · obtain ⟨r, rfl, k⟩ := hv
      exact ⟨r, rfl, map_ren h k⟩
    · simp only [Bool.and_eq_true, beq_iff] at h
      obtain ⟨rfl, h1, h2⟩ := h
      obtain ⟨a, b, rfl, k1, k2⟩ := hv
      exact ⟨a, b, rfl, reVs_ok hE _ _ h1 φ _ k1, reVs_ok hE _ _ h2 φ _ k2⟩
    · exact hv
    · simp only [Bool.and_eq_true, beq_iff] at h
      obtain ⟨rfl, h1⟩ := h
      obtain ⟨y, rfl, k⟩ := hv
      exact ⟨y, rfl, reV_ok hE _ _ h1 φ _ k⟩
    · exact hv
    · obtain ⟨vs, rfl, k⟩ := hv
      exact ⟨vs, rfl, reVs_ok hE _ _ h φ _ k⟩
    · obtain ⟨vs, rfl, k⟩ := hv
      exact ⟨vs, rfl, reVs_ok hE _ _ h φ _ k⟩
    · cases h
theorem reVs_ok (hE : EqOk N1 N2 E) : ∀ (x y : List AV), reVs n l E x y = true → ∀ (φ : Phi) (v : List Value), @VRels N1.fct N1.val φ x v → @VRels N2.fct N2.val (ren n (rhoL l) φ) y v
  | [], [], _, φ, v, hv => hv
  | a :: x, b :: y, h, φ, v, hv => by
    simp only [reVs, Bool.and_eq_true] at h
    obtain ⟨u, r, rfl, h1, h2⟩ := hv
    exact ⟨u, r, rfl, reV_ok hE a b h.1 φ _ h1, reVs_ok hE x y h.2 φ _ h2⟩
  | [], _ :: _, h, _, _, _ => by simp [reVs] at h
  | _ :: _, [], h, _, _, _ => by simp [reVs] at h
end

theorem reV_junk {y : AV} (h : reV n l E .junk y = true) : y = .junk := by
  cases y <;> first | rfl | (simp [reV] at h)
end

/-! ### Blocks -/

abbrev XBlocks := List (Nat × ABlk)

noncomputable def heapX (n : Nat) (l : XBlocks) : AHeap := ⟨l.foldr (fun x tb => T.put tb x.1 (some x.2)) .nil, n⟩

theorem heapX_get (n : Nat) : ∀ (l : XBlocks) (i : Nat) (b : ABlk), (heapX n l).get i = some b → ∃ x ∈ l, x.1 = i ∧ x.2 = b
  | [], i, b, h => by cases h
  | x :: l, i, b, h => by
    have e : (heapX n (x :: l)).get i = if i = x.1 then some x.2 else (heapX n l).get i := T.get_put _ _ _ _
    rw [e] at h
    split at h
    · rename_i hi
      cases h
      exact ⟨x, by simp, hi.symm, rfl⟩
    · obtain ⟨y, h1, h2⟩ := heapX_get n l i b h
      exact ⟨y, List.mem_cons_of_mem _ h1, h2⟩

noncomputable def stX (n : Nat) (regs : List (Nat × AV)) (blocks : XBlocks) (df : List ADef) : St := ⟨regsB regs, heapX n blocks, df, none⟩

noncomputable def reSeg (n : Nat) (l : List (Nat × Nat)) (E : Eqs) (a b : Nat × Int × List AV) : Bool := sameE E a.1 a.2.1 b.1 b.2.1 && reVs n l E a.2.2 b.2.2

noncomputable def reEs (n : Nat) (l : List (Nat × Nat)) (E : Eqs) : List (AV × AV × Nat) → List (AV × AV × Nat) → Bool
  | [], [] => true
  | a :: x, b :: y => reV n l E a.1 b.1 && (reV n l E a.2.1 b.2.1 && (Nat.beq a.2.2 b.2.2 && reEs n l E x y))
  | _, _ => false

noncomputable def reBlk (n : Nat) (l : List (Nat × Nat)) (E : Eqs) (K : List Nat) (a b : ABlk) : Bool :=
  match a, b with
  | .cells m c t ro, .cells m' c' t' ro' => Nat.beq m m' && (Nat.beq t t' && (ro == ro' && reVs n l E (getsV c m 0) (getsV c' m 0)))
  | .row nm e ci co sg t ro, .row nm' e' ci' co' sg' t' ro' => Nat.beq nm nm' && (memQ nm K && (Nat.beq e e' && (sameE E ci co ci' co' && (Nat.beq t t' && (ro == ro' && sg'.all fun b => sg.any fun a => reSeg n l E a b)))))
  | .map es clock, .map es' clock' => Nat.beq clock clock' && reEs n l E es es'
  | .siter s q, .siter s' q' => strEq s s' && Nat.beq q q'
  | _, _ => false

section
variable {N1 N2 : Names} {n : Nat} {l : List (Nat × Nat)} {E : Eqs} {K : List Nat}

theorem reSeg_ok (hE : EqOk N1 N2 E) {a b : Nat × Int × List AV} (h : reSeg n l E a b = true) {φ : Phi} {vs : Array Value} {p e : Nat} (k : @SegOk N1.fct N1.val φ vs p e a) : @SegOk N2.fct N2.val (ren n (rhoL l) φ) vs p e b := by
  unfold reSeg at h
  rw [Bool.and_eq_true] at h
  have hn := sameE_ok hE h.1
  obtain ⟨k1, k2⟩ := k
  refine ⟨by rw [← hn]; exact k1, fun j y hy => ?_⟩
  have hlen : ∀ (x y : List AV), reVs n l E x y = true → x.length = y.length := by
    intro x
    induction x with
    | nil => intro y h; cases y <;> simp [reVs] at h; rfl
    | cons a x ih => intro y h; cases y with
      | nil => simp [reVs] at h
      | cons b y => simp only [reVs, Bool.and_eq_true] at h; simp [ih y h.2]
  have hat : ∀ (x y : List AV) (j : Nat) (v : AV), reVs n l E x y = true → y[j]? = some v → ∃ u, x[j]? = some u ∧ reV n l E u v = true := by
    intro x
    induction x with
    | nil => intro y j v h hv; cases y <;> simp [reVs] at h; simp at hv
    | cons a x ih => intro y j v h hv; cases y with
      | nil => simp [reVs] at h
      | cons b y =>
        simp only [reVs, Bool.and_eq_true] at h
        cases j with
        | zero => simp at hv; subst hv; exact ⟨a, rfl, h.1⟩
        | succ j => obtain ⟨u, h1, h2⟩ := ih y j v h.2 (by simpa using hv); exact ⟨u, by simpa using h1, h2⟩
  obtain ⟨u, hu, hr⟩ := hat _ _ j y h.2 hy
  obtain ⟨v, hv, hrel⟩ := k2 j u hu
  exact ⟨v, by rw [← hn]; exact hv, reV_ok hE u y hr φ v hrel⟩

theorem reEs_ok (hE : EqOk N1 N2 E) : ∀ {x y : List (AV × AV × Nat)}, reEs n l E x y = true → ∀ (φ : Phi) (es : List MapEntry), @ERels N1.fct N1.val φ x es → @ERels N2.fct N2.val (ren n (rhoL l) φ) y es
  | [], [], _, φ, es, h => h
  | a :: x, b :: y, h, φ, es, k => by
    simp only [reEs, Bool.and_eq_true, beq_iff] at h
    obtain ⟨e, r, rfl, ⟨k1, k2, k3⟩, k4⟩ := k
    exact ⟨e, r, rfl, ⟨reV_ok hE _ _ h.1 φ _ k1, reV_ok hE _ _ h.2.1 φ _ k2, k3.trans h.2.2.1⟩, reEs_ok hE h.2.2.2 φ r k4⟩
  | [], _ :: _, h, _, _, _ => by simp [reEs] at h
  | _ :: _, [], h, _, _, _ => by simp [reEs] at h

theorem reBlk_ok (hE : EqOk N1 N2 E) (hK : ∀ nm ∈ K, N2.val.cell nm = N1.val.cell nm) {a b : ABlk} (h : reBlk n l E K a b = true) : BlkTo N1 N2 n (rhoL l) a b := by
  unfold reBlk at h
  split at h
  · rename_i m c t ro m' c' t' ro'
    simp only [Bool.and_eq_true, beq_iff, beq_iff_eq] at h
    obtain ⟨rfl, rfl, rfl, h⟩ := h
    refine ⟨rfl, fun φ cc p q w k => ?_⟩
    obtain ⟨vs, u, fz, h1, h2, h3, h4, h5⟩ := k
    refine ⟨vs, u, fz, h1, h2, h3, fun j hj => ?_, h5⟩
    obtain ⟨v, hv, hr⟩ := h4 j hj
    refine ⟨v, hv, ?_⟩
    have hat : ∀ (x y : List AV) (j : Nat) (u v : AV), reVs n l E x y = true → x[j]? = some u → y[j]? = some v → reV n l E u v = true := by
      intro x
      induction x with
      | nil => intro y j u v h hu; simp at hu
      | cons a x ih => intro y j u v h hu hv; cases y with
        | nil => simp at hv
        | cons b y =>
          simp only [reVs, Bool.and_eq_true] at h
          cases j with
          | zero => simp at hu hv; subst hu; subst hv; exact h.1
          | succ j => exact ih y j u v h.2 (by simpa using hu) (by simpa using hv)
    have g1 := getElem?_getsV c m 0 j hj
    have g2 := getElem?_getsV c' m 0 j hj
    rw [Nat.zero_add] at g1 g2
    exact reV_ok hE _ _ (hat _ _ j _ _ h g1 g2) φ v hr
  · rename_i nm e ci co sg t ro nm' e' ci' co' sg' t' ro'
    simp only [Bool.and_eq_true, beq_iff, beq_iff_eq, List.all_eq_true, List.any_eq_true] at h
    obtain ⟨rfl, h2, rfl, h4, rfl, rfl, h7⟩ := h
    have hn := sameE_ok hE h4
    refine ⟨rfl, fun φ cc p q w k => ?_⟩
    obtain ⟨vs, u, fz, k1, k2, ⟨k3, k4⟩, k5⟩ := k
    refine ⟨vs, u, fz, k1, k2, ⟨fun j q hj hq => ?_, fun s hs => ?_⟩, k5⟩
    · rw [hK nm ((@memQ_iff N1.fct N1.val _ _).1 h2)]
      exact k3 j q (by rw [hn]; exact hj) hq
    · obtain ⟨a, ha, hr⟩ := h7 s hs
      exact reSeg_ok hE hr (k4 a ha)
  · rename_i es clock es' clock'
    simp only [Bool.and_eq_true, beq_iff] at h
    obtain ⟨rfl, h2⟩ := h
    refine ⟨rfl, fun φ cc p q w k => ?_⟩
    obtain ⟨ces, k1, k2⟩ := k
    exact ⟨ces, k1, reEs_ok hE h2 φ _ k2⟩
  · rename_i s q s' q'
    simp only [Bool.and_eq_true, beq_iff, strEq_eq, beq_iff_eq] at h
    obtain ⟨rfl, rfl⟩ := h
    exact ⟨rfl, fun φ cc p q w k => k⟩
  · cases h
end

/-! ### A block that is known to be just this -/

noncomputable def sameSegs : List (Nat × Int × List AV) → List (Nat × Int × List AV) → Bool
  | [], [] => true
  | a :: x, b :: y => Nat.beq a.1 b.1 && (eqQ a.2.1 b.2.1 && (AV.sames a.2.2 b.2.2 && sameSegs x y))
  | _, _ => false

noncomputable def eqBlk (a b : ABlk) : Bool :=
  match a, b with
  | .cells m c t ro, .cells m' c' t' ro' => Nat.beq m m' && (Nat.beq t t' && (ro == ro' && AV.sames (getsV c m 0) (getsV c' m 0)))
  | .row nm e ci co sg t ro, .row nm' e' ci' co' sg' t' ro' => Nat.beq nm nm' && (Nat.beq e e' && (Nat.beq ci ci' && (eqQ co co' && (Nat.beq t t' && (ro == ro' && sameSegs sg sg')))))
  | _, _ => false

theorem sameSegs_eq [Fct] [Val] : ∀ (a b : List (Nat × Int × List AV)), sameSegs a b = true → a = b
  | [], [], _ => rfl
  | ⟨i, o, c⟩ :: x, ⟨j, p, d⟩ :: y, h => by
    simp only [sameSegs, Bool.and_eq_true, beq_iff, eqQ_eq, beq_iff_eq] at h
    obtain ⟨h1, h2, h3, h4⟩ := h
    rw [h1, h2, sames_eq _ _ h3, sameSegs_eq x y h4]
  | [], _ :: _, h => by simp [sameSegs] at h
  | _ :: _, [], h => by simp [sameSegs] at h

theorem eqBlk_ok (N : Names) {a b : ABlk} (h : eqBlk a b = true) : a.ro = b.ro ∧ ∀ (φ : Phi) (c p m : Nat) (w : World), @BRel N.fct N.val φ a c p m w → @BRel N.fct N.val φ b c p m w := by
  letI := N.fct
  letI := N.val
  unfold eqBlk at h
  split at h
  · rename_i m c t ro m' c' t' ro'
    simp only [Bool.and_eq_true, beq_iff, beq_iff_eq] at h
    obtain ⟨rfl, rfl, rfl, h⟩ := h
    refine ⟨rfl, fun φ cc p q w k => ?_⟩
    obtain ⟨vs, u, fz, h1, h2, h3, h4, h5⟩ := k
    refine ⟨vs, u, fz, h1, h2, h3, fun j hj => ?_, h5⟩
    obtain ⟨v, hv, hr⟩ := h4 j hj
    refine ⟨v, hv, ?_⟩
    have e := sames_eq _ _ h
    have g1 := getElem?_getsV c m 0 j hj
    have g2 := getElem?_getsV c' m 0 j hj
    rw [e, g2, Nat.zero_add] at g1
    rw [Option.some.inj g1]; exact hr
  · simp only [Bool.and_eq_true, beq_iff, beq_iff_eq, eqQ_eq] at h
    obtain ⟨rfl, rfl, rfl, rfl, rfl, rfl, h⟩ := h
    rw [sameSegs_eq _ _ h]
    exact ⟨rfl, fun _ _ _ _ _ k => k⟩
  · cases h

/-! ### A state told anew, held by a program -/

noncomputable def defTo (n : Nat) (l : List (Nat × Nat)) (E : Eqs) : List ADef → List ADef → Bool
  | [], [] => true
  | a :: x, b :: y => Nat.beq a.f b.f && (reVs n l E a.args b.args && defTo n l E x y)
  | _, _ => false

noncomputable def blkSame (a b : Option ABlk) : Bool := match a, b with
  | none, none => true
  | some (.cells m c t ro), some (.cells m' c' t' ro') => Nat.beq m m' && (Nat.beq t t' && (ro == ro' && sameT c c'))
  | some (.row nm e ci co sg t ro), some (.row nm' e' ci' co' sg' t' ro') => Nat.beq nm nm' && (Nat.beq e e' && (Nat.beq ci ci' && (eqQ co co' && (Nat.beq t t' && (ro == ro' && sameSegs sg sg')))))
  | _, _ => false

/-- Which blocks are told otherwise than by a comparison: what they were must be just this. -/
abbrev Spec := List (Nat × ABlk)

noncomputable def specOf (sp : Spec) (i : Nat) : Option ABlk := List.rec (motive := fun _ => Option ABlk) none (fun x _ ih => ifB (Nat.beq x.1 i) (some x.2) ih) sp

noncomputable def reX (n0 n : Nat) (regs : List (Nat × AV)) (blocks : XBlocks) (df : List ADef) (l : List (Nat × Nat)) (E : Eqs) (K : List Nat) (sp : Spec) (ts : List Nat) (s : St) : Bool :=
  Nat.ble n0 n && (l.all (fun x => Nat.ble n0 x.1) &&
    ((List.range n0).all (fun i => blkSame ((heapX n blocks).get i) (s.heap.get i) || ts.any fun t => ledBy s i t) &&
    (blocks.all (fun x => Nat.blt x.1 n && (match s.heap.get (rhoL l x.1) with
      | some b1 => (match specOf sp x.1 with
        | some b0 => eqBlk b1 b0
        | none => reBlk n l E K b1 x.2)
      | none => false)) &&
    (blocks.all (fun x => blocks.all fun y => Nat.beq x.1 y.1 || (!Nat.beq (rhoL l x.1) (rhoL l y.1) || (x.2.ro && y.2.ro))) &&
    (regs.all (fun x => reV n l E (s.regs.val x.1) x.2) &&
    (defTo n l E s.defers df && s.below.isNone))))))

theorem defTo_ok {N1 N2 : Names} {n : Nat} {l : List (Nat × Nat)} {E : Eqs} (hE : EqOk N1 N2 E) : ∀ {x y : List ADef}, defTo n l E x y = true → ∀ (φ : Phi) (cd : List Deferred), @DRels N1.fct N1.val φ x cd → @DRels N2.fct N2.val (ren n (rhoL l) φ) y cd
  | [], [], _, φ, cd, h => h
  | a :: x, b :: y, h, φ, cd, k => by
    simp only [defTo, Bool.and_eq_true, beq_iff] at h
    obtain ⟨d, r, h1, ⟨ca, cb, h2, h3⟩, h4⟩ := k
    exact ⟨d, r, h1, ⟨ca, cb, by rw [h2, h.1], reVs_ok hE _ _ h.2.1 φ _ h3⟩, defTo_ok hE h.2.2 φ r h4⟩
  | [], _ :: _, h, _, _, _ => by simp [defTo] at h
  | _ :: _, [], h, _, _, _ => by simp [defTo] at h

theorem reX_ok {n0 n : Nat} {N1 N2 : Names} {regs : List (Nat × AV)} {blocks : XBlocks} {df : List ADef} {l : List (Nat × Nat)} {E : Eqs} {K : List Nat} {sp : Spec} {ts : List Nat} {s : St}
    (hE : EqOk N1 N2 E) (hK : ∀ nm ∈ K, N2.val.cell nm = N1.val.cell nm) (hsp : ∀ i b0, specOf sp i = some b0 → ∀ b, (i, b) ∈ blocks → BlkTo N1 N2 n (rhoL l) b0 b) (h : reX n0 n regs blocks df l E K sp ts s = true) : Re n0 N1 s N2 (stX n regs blocks df) (rhoL l) := by
  unfold reX at h
  simp only [Bool.and_eq_true, ble_iff, List.all_eq_true] at h
  obtain ⟨h1, h2, h3, h4, h5, h6, h7, h8⟩ := h
  refine ⟨h1, fun i hi => ?_, fun i hi => ?_, fun i b hb => ?_, fun i j b b' hi hj hne hr => ?_, fun t => ?_, fun φ cd hd => defTo_ok hE h7 φ cd hd, ⟨by simpa using h8, rfl⟩⟩
  · have : ∀ l : List (Nat × Nat), (∀ x ∈ l, n0 ≤ x.1) → rhoL l i = i := by
      intro l
      induction l with
      | nil => intro _; rfl
      | cons x l ih =>
        intro hl
        have e : rhoL (x :: l) i = if x.1 = i then x.2 else rhoL l i := by
          show ifB (Nat.beq x.1 i) x.2 (rhoL l i) = _
          rw [T.ifB_eq]; simp only [beq_iff]
        rw [e, if_neg (by have := hl x (by simp); omega)]
        exact ih fun y hy => hl y (by simp [hy])
    exact this l h2
  · have := h3 i (List.mem_range.2 hi)
    rw [Bool.or_eq_true, List.any_eq_true] at this
    rcases this with hs | ⟨t, _, ht⟩
    · left
      show (heapX n blocks).get i = s.heap.get i
      unfold blkSame at hs
      split at hs
      · rename_i e1 e2; rw [e1, e2]
      · rename_i m c t ro m' c' t' ro' e1 e2
        simp only [Bool.and_eq_true, beq_iff, beq_iff_eq] at hs
        obtain ⟨k1, k2, k3, k4⟩ := hs
        letI := N1.fct
        letI := N1.val
        rw [e1, e2, k1, k2, k3, sameT_eq _ _ k4]
      · rename_i e1 e2
        simp only [Bool.and_eq_true, beq_iff, beq_iff_eq, eqQ_eq] at hs
        obtain ⟨k1, k2, k3, k4, k5, k6, k7⟩ := hs
        letI := N1.fct
        letI := N1.val
        rw [e1, e2, k1, k2, k3, k4, k5, k6, sameSegs_eq _ _ k7]
      · cases hs
    · exact .inr ⟨t, ht⟩
  · obtain ⟨x, hx, rfl, rfl⟩ := heapX_get n blocks i b hb
    have h4 := h4 x hx
    rw [blt_iff] at h4
    refine ⟨h4.1, ?_⟩
    have h4 := h4.2
    split at h4
    · rename_i b1 hb1
      refine ⟨b1, hb1, ?_⟩
      split at h4
      · rename_i b0 hs
        obtain ⟨k1, k2⟩ := eqBlk_ok N1 h4
        obtain ⟨k3, k4⟩ := hsp _ b0 hs x.2 hx
        exact ⟨k3.trans k1.symm, fun φ c p m w k => k4 φ c p m w (k2 φ c p m w k)⟩
      · exact reBlk_ok hE hK h4
    · cases h4
  · obtain ⟨x, hx, rfl, rfl⟩ := heapX_get n blocks i b hi
    obtain ⟨y, hy, rfl, rfl⟩ := heapX_get n blocks j b' hj
    have := h5 x hx y hy
    simp only [Bool.or_eq_true, Bool.not_eq_true', Bool.and_eq_true, beq_iff] at this
    rcases this with h | h | h
    · exact absurd h hne
    · have := @nat_beq_false N1.fct N1.val _ _ h
      exact absurd hr this
    · exact h
  · show (regsB regs).val t = .junk ∨ _
    rcases regsB_val regs t with e | ⟨x, hx, rfl, e⟩
    · exact .inl e
    · have h6 := h6 x hx
      by_cases hj : x.2 = .junk
      · left; rw [e, hj]
      · right
        refine ⟨fun hs => ?_, ?_⟩
        · rw [hs] at h6
          exact hj (reV_junk h6)
        · show ValTo N1 N2 n (rhoL l) _ ((regsB regs).val x.1)
          rw [e]
          exact reV_ok hE _ _ h6

/-! ### A piece of code, run once -/

noncomputable def sameX (x y : AEx) : Bool := match x, y with
  | .normal, .normal => true
  | .exit i, .exit j => Nat.beq i j
  | .ret, .ret => true
  | _, _ => false

theorem sameX_eq {x y : AEx} (h : sameX x y = true) : x = y ∧ ∀ ch, x ≠ .panic ch := by
  unfold sameX at h
  split at h
  · exact ⟨rfl, fun _ h => by cases h⟩
  · rw [beq_iff] at h; subst h; exact ⟨rfl, fun _ h => by cases h⟩
  · exact ⟨rfl, fun _ h => by cases h⟩
  · cases h

noncomputable def pieceB (R : Runner) (A : ACode) (s : St) (xk : AEx) (n0 n : Nat) (regs : List (Nat × AV)) (blocks : XBlocks) (df : List ADef) (l : List (Nat × Nat)) (E : Eqs) (K : List Nat) (sp : Spec) (ts : List Nat) : Bool :=
  match (codeFn A).run R s with
  | some (x, s1) => sameX x xk && reX n0 n regs blocks df l E K sp ts s1
  | none => false

theorem Sem3.piece {P : Program} {ng n0 : Nat} {F : Frm} {N N2 : Names} {R : Runner} {c : Code} {s : St} {xk : AEx} {n : Nat} {regs : List (Nat × AV)} {blocks : XBlocks} {df : List ADef} {l : List (Nat × Nat)} {E : Eqs} {K : List Nat} {sp : Spec} {ts : List Nat}
    (hP : P.globals.size = ng) (hR : RunOk P ng N R) (hng : ng ≤ n0) (h : pieceB R (@cCode N.fct P F c) s xk n0 n regs blocks df l E K sp ts = true)
    (hE : EqOk N N2 E) (hK : ∀ nm ∈ K, N2.val.cell nm = N.val.cell nm) (hsp : ∀ i b0, specOf sp i = some b0 → ∀ b, (i, b) ∈ blocks → BlkTo N N2 n (rhoL l) b0 b) {Q : QSet} (hQ : Q N2 xk (stX n regs blocks df)) : Sem3 P ng F n0 N c s Q := by
  unfold pieceB at h
  split at h
  · rename_i x s1 hr
    rw [Bool.and_eq_true] at h
    obtain ⟨rfl, hx⟩ := sameX_eq h.1
    refine Sem3.weak (Q' := fun N1 x' s' => N1 = N ∧ x' = x ∧ s' = s1) (Sem3.run hP hR hr ⟨rfl, rfl, rfl⟩) fun N1 x' s' hq => ?_
    obtain ⟨rfl, rfl, rfl⟩ := hq
    exact .inr ⟨hx, N2, _, hQ, (reX_ok hE hK hsp h.2).redesc hng⟩
  · cases h

end Go.Abs

/- The abstract machine: a part of a code told by itself: what is carried out ahead of it, and behind it; names by lists; calls wherever their arguments lie. -/
namespace Go.Abs

/-! ### A part of a code -/

def nav : List Nat → Code → Code
  | [], c => c
  | k :: p, c => match c with
    | .seq a b => match k with | 0 => nav p a | _ => nav p b
    | .cond _ a b => match k with | 0 => nav p a | _ => nav p b
    | .block _ b => nav p b
    | .loop b => nav p b
    | .scope b => nav p b
    | c => c

/-- What is carried out till a part begins. -/
noncomputable def upTo [Fct] (P : Program) (F : Frm) (R : Runner) : List Nat → Code → St → Option St
  | [], c => fun s => some s
  | k :: p, c => match c with
    | .seq a b => match k with
      | 0 => fun s => upTo P F R p a s
      | _ => fun s => match (codeFn (cCode P F a)).run R s with
        | some (.normal, s') => upTo P F R p b s'
        | _ => none
    | .cond c a b => match cOpd P [] c with
      | some y => fun s => match y.ev [] s.regs with
        | .bool true => (match k with | 0 => upTo P F R p a s | _ => none)
        | .bool false => (match k with | 0 => none | _ => upTo P F R p b s)
        | _ => none
      | none => fun _ => none
    | .block _ b => fun s => upTo P F R p b s
    | _ => fun _ => none

/-- What is carried out behind a part. -/
noncomputable def after [Fct] (P : Program) (F : Frm) (R : Runner) : List Nat → Code → AEx → St → Out
  | [], c => fun x s => some (x, s)
  | k :: p, c => match c with
    | .seq a b => match k with
      | 0 => fun x s => match after P F R p a x s with
        | some (.normal, s') => (codeFn (cCode P F b)).run R s'
        | r => r
      | _ => fun x s => after P F R p b x s
    | .cond _ a b => match k with | 0 => fun x s => after P F R p a x s | _ => fun x s => after P F R p b x s
    | .block id b => fun x s => match after P F R p b x s with
      | some (.exit i, s') => bif Nat.beq i id then some (.normal, s') else some (.exit i, s')
      | r => r
    | _ => fun _ _ => none

section
variable {P : Program} {ng : Nat} {F : Frm} {n0 : Nat}

def After (P : Program) (ng : Nat) (F : Frm) (p : List Nat) (c : Code) (Q : QSet) (N : Names) (x : AEx) (s : St) : Prop :=
  ∃ R, RunOk P ng N R ∧ ∃ x' s', @after N.fct P F R p c x s = some (x', s') ∧ Q N x' s'

theorem Sem3.cut (hP : P.globals.size = ng) {N : Names} {R : Runner} (hR : RunOk P ng N R) : ∀ (p : List Nat) (c : Code) (s s1 : St) (Q : QSet), @upTo N.fct P F R p c s = some s1 → Sem3 P ng F n0 N (nav p c) s1 (After P ng F p c Q) → Sem3 P ng F n0 N c s Q
  | [], c, s, s1, Q, hu, h => by
    cases hu
    refine Sem3.mono h fun N x s ⟨R, _, x', s', hr, hq⟩ => ?_
    cases hr; exact hq
  | k :: p, c, s, s1, Q, hu, h => by
    cases c with
    | seq a b =>
      cases k with
      | zero =>
        simp only [upTo] at hu
        simp only [nav] at h
        refine Sem3.seq (Sem3.cut hP hR p a s s1 (fun N1 x s2 => ∃ R, RunOk P ng N1 R ∧ ((x = .normal ∧ ∃ x' s', (codeFn (@cCode N1.fct P F b)).run R s2 = some (x', s') ∧ Q N1 x' s') ∨ (x ≠ .normal ∧ Q N1 x s2))) hu (Sem3.mono h fun N1 x s2 ⟨R1, hR1, x', s', hr, hq⟩ => ?_)) fun N1 x s2 hq => ?_
        · simp only [after] at hr
          split at hr
          · rename_i s3 hs3
            exact ⟨R1, hR1, .normal, s3, hs3, R1, hR1, .inl ⟨rfl, x', s', hr, hq⟩⟩
          · rename_i hne
            refine ⟨R1, hR1, x', s', hr, R1, hR1, .inr ⟨?_, hq⟩⟩
            rintro rfl
            exact hne _ hr
        · obtain ⟨R1, hR1, ⟨rfl, x', s', hr, hq⟩ | hq⟩ := hq
          · exact .inl ⟨rfl, Sem3.run hP hR1 hr hq⟩
          · exact .inr hq
      | succ k =>
        simp only [upTo] at hu
        simp only [nav] at h
        split at hu
        · rename_i s' hs'
          refine Sem3.seq (Sem3.run (Q := fun N1 x s2 => N1 = N ∧ x = .normal ∧ s2 = s') hP hR hs' ⟨rfl, rfl, rfl⟩) fun N1 x s2 hq => ?_
          obtain ⟨rfl, rfl, rfl⟩ := hq
          refine .inl ⟨rfl, Sem3.cut hP hR p b _ s1 Q hu (Sem3.mono h fun N1 x s2 ⟨R1, hR1, x', s', hr, hq⟩ => ⟨R1, hR1, x', s', ?_, hq⟩)⟩
          simpa only [after] using hr
        · cases hu
    | cond y a b =>
      simp only [upTo] at hu
      cases ho : cOpd P [] y with
      | none => rw [ho] at hu; cases hu
      | some o =>
        rw [ho] at hu
        simp only at hu
        split at hu
        · rename_i hb
          cases k with
          | zero =>
            simp only at hu
            simp only [nav] at h
            refine Sem3.cond hP ho hb ?_
            simp only [if_true]
            refine Sem3.cut hP hR p a s s1 Q hu (Sem3.mono h fun N1 x s2 ⟨R1, hR1, x', s', hr, hq⟩ => ⟨R1, hR1, x', s', ?_, hq⟩)
            simpa only [after] using hr
          | succ k => cases hu
        · rename_i hb
          cases k with
          | zero => cases hu
          | succ k =>
            simp only at hu
            simp only [nav] at h
            refine Sem3.cond hP ho hb ?_
            simp only [Bool.false_eq_true, if_false]
            refine Sem3.cut hP hR p b s s1 Q hu (Sem3.mono h fun N1 x s2 ⟨R1, hR1, x', s', hr, hq⟩ => ⟨R1, hR1, x', s', ?_, hq⟩)
            simpa only [after] using hr
        · cases hu
    | block id b =>
      simp only [upTo] at hu
      simp only [nav] at h
      refine Sem3.block (Sem3.cut hP hR p b s s1 _ hu (Sem3.mono h fun N1 x s2 ⟨R1, hR1, x', s', hr, hq⟩ => ?_))
      simp only [after] at hr
      split at hr
      · rename_i i s3 hs3
        cases hb : Nat.beq i id with
        | true =>
          rw [hb] at hr
          cases hr
          rw [beq_iff] at hb
          exact ⟨R1, hR1, .exit i, _, hs3, .inl ⟨by rw [hb], hq⟩⟩
        | false =>
          rw [hb] at hr
          cases hr
          refine ⟨R1, hR1, .exit i, _, hs3, .inr ⟨fun e => ?_, hq⟩⟩
          cases e
          have : Nat.beq id id = true := beq_iff.2 rfl
          rw [this] at hb; cases hb
      · rename_i hne
        refine ⟨R1, hR1, x', s', hr, .inr ⟨?_, hq⟩⟩
        rintro rfl
        exact hne _ _ hr
    | skip => simp [upTo] at hu
    | label _ => simp [upTo] at hu
    | region _ _ _ => simp [upTo] at hu
    | loop _ => simp [upTo] at hu
    | rangeFunc _ _ _ _ => simp [upTo] at hu
    | exit _ => simp [upTo] at hu
    | scope _ => simp [upTo] at hu
    | goto _ => simp [upTo] at hu
    | ret => simp [upTo] at hu
    | refuse _ => simp [upTo] at hu

end

/-! ### Names by lists -/

def numL (l : List Int) (i : Nat) : Int := (l[i]?).getD 0

def leOk (num : Nat → Int) : List (Nat × Nat × Int) → Prop
  | [] => True
  | (x, y, d) :: r => num x + d ≤ num y ∧ leOk num r

def remOk (num : Nat → Int) : List (Nat × Nat × Nat) → Prop
  | [] => True
  | (x, m, y) :: r => (0 ≤ num x ∧ 0 < m ∧ num y = num x % (m : Int)) ∧ remOk num r

theorem leOk_mem {num : Nat → Int} : ∀ {l : List (Nat × Nat × Int)}, leOk num l → ∀ x y d, (x, y, d) ∈ l → num x + d ≤ num y
  | [], _, _, _, _, h => by cases h
  | (a, b, c) :: r, h, x, y, d, hm => by
    rcases List.mem_cons.1 hm with e | hm
    · cases e; exact h.1
    · exact leOk_mem h.2 x y d hm

theorem remOk_mem {num : Nat → Int} : ∀ {l : List (Nat × Nat × Nat)}, remOk num l → ∀ x m y, (x, m, y) ∈ l → 0 ≤ num x ∧ 0 < m ∧ num y = num x % (m : Int)
  | [], _, _, _, _, h => by cases h
  | (a, b, c) :: r, h, x, y, d, hm => by
    rcases List.mem_cons.1 hm with e | hm
    · cases e; exact h.1
    · exact remOk_mem h.2 x y d hm

/-- Names by a list of their numbers (the first one: nought). -/
@[reducible] def namesL (F : Fct) (l : List Int) (cell : Nat → Nat → Nat → Value → Prop) (h0 : numL l 0 = 0) (h1 : leOk (numL l) F.le) (h2 : remOk (numL l) F.rem) : Names :=
  ⟨F, @Val.mk F (fun _ => 0) (numL l) (fun _ _ => True) cell h0 (leOk_mem h1) (remOk_mem h2)⟩

def eqOkL (num1 num2 : Nat → Int) : Eqs → Prop
  | [] => True
  | (a, b) :: r => num1 a.1 + a.2 = num2 b.1 + b.2 ∧ eqOkL num1 num2 r

theorem eqOk_of {N1 N2 : Names} : ∀ {E : Eqs}, eqOkL N1.val.num N2.val.num E → EqOk N1 N2 E
  | [], _, _, _, h => by cases h
  | (a, b) :: r, h, x, y, hm => by
    rcases List.mem_cons.1 hm with e | hm
    · cases e; exact h.1
    · exact eqOk_of h.2 x y hm

/-! ### What a call comes to, wherever its arguments lie -/

theorem con_renX {P : Program} {ng n : Nat} {N0 N : Names} {f : FuncId} {args0 args : List AV} {h0 : AHeap} {ρ : Nat → Option Nat} {QC : Names → AEnd → AHeap → Prop} {v : AV} {h : AHeap} (hc : ConS P ng N0 f args0 h0 QC) (hn : h0.next = n)
    (hro : ∀ i b, h0.get i = some b → b.ro = true)
    (hrel : ∀ (φ : Phi) (w : World), @HRel N.fct N.val ng φ h w → @HRel N0.fct N0.val ng (renPhi n ρ φ) h0 w)
    (ha : ∀ (φ : Phi) (cargs : List Value), @VRels N.fct N.val φ args cargs → @VRels N0.fct N0.val (renPhi n ρ φ) args0 cargs)
    (hq : ∀ N1 en h1, QC N1 en h1 → ∃ u, en = .returned u ∧ ∀ (φ φ' : Phi) (cv : Value), φ h.next = .dead → @VRel N1.fct N1.val φ' u cv → @VRel N.fct N.val φ v cv) :
    @Con N.fct N.val P ng f args h (.returned v) ⟨h.tbl, h.next + 1⟩ := by
  refine ⟨hc.1, fun φ w cargs H hva => ?_⟩
  refine (hc.2 (renPhi n ρ φ) w cargs (hrel φ w H) (ha φ _ hva)).mono fun e w' he => ?_
  obtain ⟨N1, en, h1, hqc, φ', k1, k2, k3⟩ := he
  obtain ⟨u, rfl, hu⟩ := hq N1 en h1 hqc
  letI := N.fct
  letI := N.val
  have hnoRW : ∀ b, ¬ RW (renPhi n ρ φ) h0 b := by
    rintro b ⟨i, bl, o, m, hg, hr, _⟩
    rw [hro i bl hg] at hr
    cases hr
  have hsame : ∀ b, b < w.heap.size → w'.heap[b]? = w.heap[b]? := fun b hb => k2.same b hb (hnoRW b)
  have j1 : HRel ng φ h w' := ⟨H.fresh, H.glob, fun i b hb => (H.blk i b hb).imp id fun ⟨c, p, n, h1, h2⟩ => ⟨c, p, n, h1, h2.same (hsame c (H.lt i c p n h1))⟩, H.inj, fun i c p n e => Nat.lt_of_lt_of_le (H.lt i c p n e) k2.size, H.dom⟩
  have j2 : Stp φ h w φ h w' := ⟨Ext.refl _, k2.os, k2.tape, k2.output, k2.size, fun b hb _ => hsame b hb, fun _ h _ => h, fun _ _ e => ⟨rfl, e⟩, Nat.le_refl _⟩
  have hun : φ h.next = .un := H.fresh _ (Nat.le_refl _)
  have hext : Ext φ (upd φ h.next .dead) := Ext.upd (by rw [hun]; trivial)
  have hat : ∀ j c p n, upd φ h.next .dead j = .at c p n → j ≠ h.next ∧ φ j = .at c p n := by
    intro j c p n e
    by_cases hj : j = h.next
    · subst hj; rw [upd_same] at e; cases e
    · rw [upd_other φ _ hj] at e; exact ⟨hj, e⟩
  have hget : ∀ j, (⟨h.tbl, h.next + 1⟩ : AHeap).get j = h.get j := fun j => rfl
  refine ⟨upd φ h.next .dead, ⟨fun j hj => ?_, fun g hg => (H.glob g hg).mono hext, fun j b hb => ?_, fun j k b b' c p m p' m' hj hk hne ej ek => ?_, fun j c p n e => j1.lt j c p n (hat j c p n e).2, fun j b hb => ?_⟩, ⟨hext, j2.os, j2.tape, j2.output, j2.size, j2.same, fun b ⟨j, bl, p, n, hg, hro, e⟩ hb => ?_, fun j hj e => ⟨rfl, ?_⟩, Nat.le_succ _⟩, ?_⟩
  · simp only at hj
    rw [upd_other φ _ (by omega)]; exact H.fresh j (by omega)
  · rw [hget] at hb
    have hj := H.dom j b hb
    rw [upd_other φ _ (by omega)]
    exact (j1.blk j b hb).imp id fun ⟨c, p, n, h1, h2⟩ => ⟨c, p, n, h1, h2.mono hext⟩
  · exact H.inj j k b b' c p m p' m' hj hk hne (hat j c p m ej).2 (hat k c p' m' ek).2
  · have := H.dom j b hb
    simp only; omega
  · exact ⟨j, bl, p, n, hg, hro, (hat j b p n e).2⟩
  · rw [upd_other φ _ (by omega)]; exact e
  · cases e with
    | returned cv => exact hu _ φ' cv (upd_same _ _ _) k3
    | panicked _ => exact k3.elim
    | outgrown => exact k3.elim

end Go.Abs

/- The abstract machine: rows that are told by names: a window into one; elements that come to the others. -/
namespace Go.Abs

section
variable {N1 N2 : Names} {n : Nat} {ρ : Nat → Nat}

/-- Cells of a row of cells are told by what is known of each. -/
theorem row_win {nm cid cid' id : Nat} {coff coff' off : Int} {segs : List (Nat × Int × List AV)} {cs : List AV} {t : TypeId} {ro : Bool} (hcell : N2.val.cell nm = N1.val.cell nm) (hcnt : N1.val.num cid + coff = N2.val.num cid' + coff')
    (h0 : 0 ≤ N2.val.num id + off) (hlen : N2.val.num id + off + cs.length ≤ N1.val.num cid + coff) (hv : ∀ (k : Nat) (a : AV), cs[k]? = some a → ∀ (φ : Phi) (v : Value), N1.val.cell nm ((N2.val.num id + off).toNat + k) 0 v → @VRel N2.fct N2.val φ a v) :
    BlkTo N1 N2 n ρ (.row nm 1 cid coff segs t ro) (.row nm 1 cid' coff' [(id, off, cs)] t ro) := by
  refine ⟨rfl, fun φ c p m w h => ?_⟩
  obtain ⟨vs, u, fz, h1, h2, ⟨h3, h4⟩, h5⟩ := h
  refine ⟨vs, u, fz, h1, h2, ⟨fun j q hj hq => ?_, fun s hs => ?_⟩, h5⟩
  · rw [hcell]; exact h3 j q (by rw [hcnt]; exact hj) hq
  · rw [List.mem_singleton] at hs
    subst hs
    refine ⟨h0, fun k a ha => ?_⟩
    have hk : k < cs.length := (List.getElem?_eq_some_iff.1 ha).1
    obtain ⟨v, g1, g2⟩ := h3 ((N2.val.num id + off).toNat + k) 0 (by omega) (by omega)
    refine ⟨v, ?_, hv k a ha _ v g2⟩
    simp only [Nat.mul_one, Nat.add_zero] at g1 ⊢
    exact g1

/-- A row keeps what is known of each, and no more is told. -/
theorem row_shut {nm esz cid cid' : Nat} {coff coff' : Int} {segs : List (Nat × Int × List AV)} {t : TypeId} {ro : Bool} (hcell : N2.val.cell nm = N1.val.cell nm) (hcnt : N1.val.num cid + coff = N2.val.num cid' + coff') :
    BlkTo N1 N2 n ρ (.row nm esz cid coff segs t ro) (.row nm esz cid' coff' [] t ro) := by
  refine ⟨rfl, fun φ c p m w h => ?_⟩
  obtain ⟨vs, u, fz, h1, h2, ⟨h3, h4⟩, h5⟩ := h
  refine ⟨vs, u, fz, h1, h2, ⟨fun j q hj hq => ?_, fun s hs => by cases hs⟩, h5⟩
  rw [hcell]; exact h3 j q (by rw [hcnt]; exact hj) hq

/-- Told elements behind the others come to them. -/
theorem row_fold {nm esz cid cid' id m : Nat} {coff coff' off : Int} {segs : List (Nat × Int × List AV)} {cs : List AV} {t : TypeId} {ro : Bool} (he : 0 < esz) (hs : (id, off, cs) ∈ segs) (h0 : 0 ≤ N1.val.num cid + coff) (hid : N1.val.num id + off = N1.val.num cid + coff) (hcs : cs.length = m * esz) (hcnt : N2.val.num cid' + coff' = N1.val.num cid + coff + m)
    (hcell : ∀ (j q : Nat) (v : Value), (j : Int) < N1.val.num cid + coff → N1.val.cell nm j q v → N2.val.cell nm j q v)
    (hv : ∀ (k q : Nat) (a : AV), k < m → q < esz → cs[k * esz + q]? = some a → ∀ (φ : Phi) (v : Value), @VRel N1.fct N1.val φ a v → N2.val.cell nm ((N1.val.num cid + coff).toNat + k) q v) :
    BlkTo N1 N2 n ρ (.row nm esz cid coff segs t ro) (.row nm esz cid' coff' [] t ro) := by
  refine ⟨rfl, fun φ c p mm w h => ?_⟩
  obtain ⟨vs, u, fz, h1, h2, ⟨h3, h4⟩, h5⟩ := h
  refine ⟨vs, u, fz, h1, h2, ⟨fun j q hj hq => ?_, fun s hs => by cases hs⟩, h5⟩
  by_cases hlt : (j : Int) < N1.val.num cid + coff
  · obtain ⟨v, g1, g2⟩ := h3 j q hlt hq
    exact ⟨v, g1, hcell j q v hlt g2⟩
  · obtain ⟨_, g2⟩ := h4 _ hs
    simp only at g2
    rw [hid] at g2
    obtain ⟨k, hk⟩ : ∃ k : Nat, j = (N1.val.num cid + coff).toNat + k := ⟨j - (N1.val.num cid + coff).toNat, by omega⟩
    have hkm : k < m := by omega
    have hlen : k * esz + q < cs.length := by
      have := Nat.mul_le_mul_right esz (show k + 1 ≤ m from hkm)
      rw [Nat.add_mul, Nat.one_mul] at this
      omega
    obtain ⟨v, g3, g4⟩ := g2 (k * esz + q) _ (List.getElem?_eq_getElem hlen)
    refine ⟨v, ?_, ?_⟩
    · rw [hk, Nat.add_mul]
      rw [← g3]; congr 1; omega
    · rw [hk]
      exact hv k q _ hkm hq (List.getElem?_eq_getElem hlen) _ v g4

/-- Cells, as a row of elements. -/
theorem cells_row {nm esz cid' m k : Nat} {coff' : Int} {c : T AV} {t : TypeId} {ro : Bool} (he : 0 < esz) (hm : m = k * esz) (hcnt : N2.val.num cid' + coff' = k)
    (hv : ∀ (j q : Nat), j < k → q < esz → ∀ (φ : Phi) (v : Value), @VRel N1.fct N1.val φ ((c.get (j * esz + q)).getD .junk) v → N2.val.cell nm j q v) :
    BlkTo N1 N2 n ρ (.cells m c t ro) (.row nm esz cid' coff' [] t ro) := by
  refine ⟨rfl, fun φ cc p mm w h => ?_⟩
  obtain ⟨vs, u, fz, h1, h2, h3, h4, h5, h6⟩ := h
  refine ⟨vs, u, fz, h1, h2, ⟨fun j q hj hq => ?_, fun s hs => by cases hs⟩, h5, h6⟩
  have hjk : j < k := by omega
  have := Nat.mul_le_mul_right esz (show j + 1 ≤ k from hjk)
  rw [Nat.add_mul, Nat.one_mul] at this
  obtain ⟨v, g1, g2⟩ := h4 (j * esz + q) (by omega)
  exact ⟨v, g1, hv j q hjk hq _ v g2⟩

end

/-- A runner that knows nothing ahead, under any names. -/
theorem runOk_of {P : Program} (hm : P.follows .mixedOrders = true) {N : Names} {live : FuncId → List Nat} {O : Oracle} (hO : @OracleOk N.fct N.val P P.globals.size O) (k : Nat) : RunOk P P.globals.size N (runner (@progOf N.fct P live O) k) := by
  letI := N.fct
  letI := N.val
  obtain ⟨h1, h2, h3⟩ := runner_ok rfl hO (fun R hR => draw_ok hm rfl hR) (live := live) k
  exact ⟨h1, h2, h3, draw_ok hm rfl h1⟩

end Go.Abs
