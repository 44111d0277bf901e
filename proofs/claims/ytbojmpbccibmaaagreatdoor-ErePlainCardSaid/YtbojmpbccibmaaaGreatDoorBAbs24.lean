/- The abstract machine: code. -/
import Derived.Test.YtbojmpbccibmaaaGreatDoorBAbs23
set_option linter.unusedVariables false
set_option linter.unusedSimpArgs false
set_option linter.unusedSectionVars false
set_option linter.deprecated false
namespace Go.Abs
variable [Val]

/-- What a run's end says of the model's. -/
def PostRel (ng : Nat) (F : Frm) (B : Base) (φ₀ : Phi) (h₀ : AHeap) (w₀ : World) (dfd : Bool) (x : AEx) (s' : St) : Post :=
  fun ex a' cs' w' => ∃ φ', SRel ng F B φ' s' a' cs' w' ∧ Stp φ₀ h₀ w₀ φ' s'.heap w' ∧ ExRel φ' x ex ∧ s'.below.isSome = dfd

/-- A runner's loops are the model's. -/
def LoopOk (P : Program) (ng : Nat) (R : Runner) : Prop :=
  ∀ (F : Frm) (b : Code) (x : AEx) (s s' : St), R.loop (cCode P F b) s = some (x, s') → ∀ (B : Base) (φ : Phi) (a : Act) (cs : List Frame) (w : World), SRel ng F B φ s a cs w →
    wpL P s.below.isSome b (PostRel ng F B φ s.heap w s.below.isSome x s') a cs w ∧ wpG P s.below.isSome (.loop b) (PostRel ng F B φ s.heap w s.below.isSome x s') a cs w

/-- Regions that draw their order. -/
def DrawOk (P : Program) (ng : Nat) (R : Runner) : Prop :=
  ∀ (F : Frm) (ops : Array Oper) (id : Nat) (A : ACode) (x : AEx) (s s' : St), cDraw P F ops = some A → (codeFn A).run R s = some (x, s') → ∀ (B : Base) (φ : Phi) (a : Act) (cs : List Frame) (w : World), SRel ng F B φ s a cs w →
    wpG P s.below.isSome (.region id ops true) (PostRel ng F B φ s.heap w s.below.isSome x s') a cs w

theorem PostRel.trans {ng : Nat} {F : Frm} {B : Base} {φ₀ φ : Phi} {h₀ h : AHeap} {w₀ w : World} {dfd : Bool} {x : AEx} {s' : St} (hst : Stp φ₀ h₀ w₀ φ h w) {ex : Exit} {a : Act} {cs : List Frame} {w' : World}
    (k : PostRel ng F B φ h w dfd x s' ex a cs w') : PostRel ng F B φ₀ h₀ w₀ dfd x s' ex a cs w' :=
  let ⟨φ', h1, h2, h3, h4⟩ := k; ⟨φ', h1, hst.trans h2, h3, h4⟩

theorem code_ok {P : Program} {ng : Nat} {R : Runner} (hP : P.globals.size = ng) (hR : CallOk P ng R) (hL : LoopOk P ng R) (hD : DrawOk P ng R) (F : Frm) (B : Base) :
    ∀ (c : Code) (x : AEx) (s s' : St), (codeFn (cCode P F c)).run R s = some (x, s') → ∀ (φ : Phi) (a : Act) (cs : List Frame) (w : World), SRel ng F B φ s a cs w →
      wpG P s.below.isSome c (PostRel ng F B φ s.heap w s.below.isSome x s') a cs w
  | .skip, x, s, s', hr, φ, a, cs, w, h => by
    simp only [cCode, codeFn, Option.some.injEq, Prod.mk.injEq] at hr
    obtain ⟨rfl, rfl⟩ := hr
    exact wpG_skip ⟨φ, h, Stp.refl _ _ _, trivial, rfl⟩
  | .label l, x, s, s', hr, φ, a, cs, w, h => by
    simp only [cCode, codeFn, Option.some.injEq, Prod.mk.injEq] at hr
    obtain ⟨rfl, rfl⟩ := hr
    exact wpG_label ⟨φ, h, Stp.refl _ _ _, trivial, rfl⟩
  | .exit id, x, s, s', hr, φ, a, cs, w, h => by
    simp only [cCode, codeFn, Option.some.injEq, Prod.mk.injEq] at hr
    obtain ⟨rfl, rfl⟩ := hr
    exact wpG_exit ⟨φ, h, Stp.refl _ _ _, rfl, rfl⟩
  | .ret, x, s, s', hr, φ, a, cs, w, h => by
    simp only [cCode, codeFn, Option.some.injEq, Prod.mk.injEq] at hr
    obtain ⟨rfl, rfl⟩ := hr
    exact wpG_ret ⟨φ, h, Stp.refl _ _ _, trivial, rfl⟩
  | .region id ops false, x, s, s', hr, φ, a, cs, w, h => by
    simp only [cCode] at hr
    cases hl : cOpers P F ops ops.toList [] with
    | none => rw [hl] at hr; simp [codeFn] at hr
    | some l =>
      rw [hl] at hr
      simp only [codeFn] at hr
      refine wpG_region ?_
      rw [List.range_eq_range']
      have := ops_ok (Q := PostRel ng F B φ s.heap w s.below.isSome x s') (dfd := s.below.isSome) (φ₀ := φ) (h₀ := s.heap) (w₀ := w) hP hR (x := x) (s' := s') (fun φ' ex a' cs' w' h1 h2 h3 h4 => ⟨φ', h1, h2, h3, h4⟩) ops.toList 0 [] l [] s φ a cs w
        (fun j => by rw [Array.getElem?_toList, Nat.zero_add]) hl hr h (Stp.refl _ _ _) rfl
      simpa using this
  | .region id ops true, x, s, s', hr, φ, a, cs, w, h => by
    simp only [cCode] at hr
    cases hl : cDraw P F ops with
    | none => rw [hl] at hr; simp [codeFn] at hr
    | some A => rw [hl] at hr; exact hD F ops id A x s s' hl hr B φ a cs w h
  | .seq c d, x, s, s', hr, φ, a, cs, w, h => by
    simp only [cCode, codeFn] at hr
    refine wpG_seq ?_
    cases h1 : (codeFn (cCode P F c)).run R s with
    | none => rw [h1] at hr; cases hr
    | some q =>
      obtain ⟨x1, s1⟩ := q
      rw [h1] at hr
      refine (code_ok hP hR hL hD F B c x1 s s1 h1 φ a cs w h).mono fun ex a' cs' w' hq => ?_
      obtain ⟨φ', k1, k2, k3, k4⟩ := hq
      cases x1 with
      | normal =>
        simp only at hr
        cases ex <;> simp only [ExRel] at k3
        simp only [Exit.thenS]
        have := code_ok hP hR hL hD F B d x s1 s' hr φ' a' cs' w' k1
        rw [k4] at this
        exact this.mono fun _ _ _ _ hq => PostRel.trans k2 hq
      | _ =>
        simp only [Option.some.injEq, Prod.mk.injEq] at hr
        obtain ⟨rfl, rfl⟩ := hr
        cases ex <;> simp only [ExRel] at k3
        exact ⟨φ', k1, k2, k3, k4⟩
  | .cond c d e, x, s, s', hr, φ, a, cs, w, h => by
    simp only [cCode] at hr
    cases hc : cOpd P [] c with
    | none => rw [hc] at hr; simp [codeFn] at hr
    | some y =>
      rw [hc] at hr
      simp only [codeFn] at hr
      have hglob : ∀ g, g < P.globals.size → PtrOk φ g 0 ⟨g, 0, none⟩ := fun g hg => h.heap.glob g (hP ▸ hg)
      have hv := opsOk hglob h.ctx (fun _ => True) c y trivial hc
      split at hr
      · rename_i ey
        rw [ey] at hv
        exact wpG_cond (t := true) hv (code_ok hP hR hL hD F B d x s s' hr φ a cs w h)
      · rename_i ey
        rw [ey] at hv
        exact wpG_cond (t := false) hv (code_ok hP hR hL hD F B e x s s' hr φ a cs w h)
      · cases hr
  | .block id c, x, s, s', hr, φ, a, cs, w, h => by
    simp only [cCode, codeFn] at hr
    refine wpG_block ?_
    cases h1 : (codeFn (cCode P F c)).run R s with
    | none => rw [h1] at hr; cases hr
    | some q =>
      obtain ⟨x1, s1⟩ := q
      rw [h1] at hr
      refine (code_ok hP hR hL hD F B c x1 s s1 h1 φ a cs w h).mono fun ex a' cs' w' hq => ?_
      obtain ⟨φ', k1, k2, k3, k4⟩ := hq
      cases x1 with
      | exit j =>
        cases ex <;> simp only [ExRel] at k3
        rename_i j'
        subst k3
        simp only at hr
        simp only [inBlockS]
        cases hj : Nat.beq j id with
        | true =>
          rw [hj] at hr
          simp only [cond_true, Option.some.injEq, Prod.mk.injEq] at hr
          obtain ⟨rfl, rfl⟩ := hr
          rw [beq_iff] at hj
          rw [if_pos hj]
          exact ⟨φ', k1, k2, trivial, k4⟩
        | false =>
          rw [hj] at hr
          simp only [cond_false, Option.some.injEq, Prod.mk.injEq] at hr
          obtain ⟨rfl, rfl⟩ := hr
          rw [if_neg (nat_beq_false hj)]
          exact ⟨φ', k1, k2, rfl, k4⟩
      | _ =>
        simp only [Option.some.injEq, Prod.mk.injEq] at hr
        obtain ⟨rfl, rfl⟩ := hr
        cases ex <;> simp only [ExRel] at k3
        exact ⟨φ', k1, k2, k3, k4⟩
  | .loop c, x, s, s', hr, φ, a, cs, w, h => by
    simp only [cCode, codeFn] at hr
    exact (hL F c x s s' hr B φ a cs w h).2
  | .scope c, x, s, s', hr, φ, a, cs, w, h => by
    simp only [cCode] at hr
    refine wpG_scope ?_
    refine (code_ok hP hR hL hD F B c x s s' hr φ a cs w h).mono fun ex a' cs' w' hq => ?_
    obtain ⟨φ', k1, k2, k3, k4⟩ := hq
    cases ex <;> first | exact ⟨φ', k1, k2, k3, k4⟩ | (cases x <;> exact k3.elim)
  | .goto _, x, s, s', hr, φ, a, cs, w, h => by simp [cCode, codeFn] at hr
  | .refuse _, x, s, s', hr, φ, a, cs, w, h => by simp [cCode, codeFn] at hr
  | .rangeFunc _ _ _ _, x, s, s', hr, φ, a, cs, w, h => by simp [cCode, codeFn] at hr

/-- A loop, a round ahead. -/
theorem loop_ok {P : Program} {ng : Nat} {R : Runner} (hP : P.globals.size = ng) (hR : CallOk P ng R) (hL : LoopOk P ng R) (hD : DrawOk P ng R) (F : Frm) (b : Code) (x : AEx) (s s' : St) (hr : loopStep R (cCode P F b) s = some (x, s'))
    (B : Base) (φ : Phi) (a : Act) (cs : List Frame) (w : World) (h : SRel ng F B φ s a cs w) :
    wpL P s.below.isSome b (PostRel ng F B φ s.heap w s.below.isSome x s') a cs w ∧ wpG P s.below.isSome (.loop b) (PostRel ng F B φ s.heap w s.below.isSome x s') a cs w := by
  unfold loopStep at hr
  have key : wpG P s.below.isSome b (Exit.thenS (wpL P s.below.isSome b (PostRel ng F B φ s.heap w s.below.isSome x s')) (PostRel ng F B φ s.heap w s.below.isSome x s')) a cs w := by
    cases h1 : (codeFn (cCode P F b)).run R s with
    | none => rw [h1] at hr; cases hr
    | some q =>
      obtain ⟨x1, s1⟩ := q
      rw [h1] at hr
      refine (code_ok hP hR hL hD F B b x1 s s1 h1 φ a cs w h).mono fun ex a' cs' w' hq => ?_
      obtain ⟨φ', k1, k2, k3, k4⟩ := hq
      cases x1 with
      | normal =>
        simp only at hr
        cases ex <;> simp only [ExRel] at k3
        simp only [Exit.thenS]
        have := (hL F b x s1 s' hr B φ' a' cs' w' k1).1
        rw [k4] at this
        exact fun bb k hb => let ⟨e, a'', cs'', w'', q, rr⟩ := this bb k hb; ⟨e, a'', cs'', w'', PostRel.trans k2 q, rr⟩
      | _ =>
        simp only [Option.some.injEq, Prod.mk.injEq] at hr
        obtain ⟨rfl, rfl⟩ := hr
        cases ex <;> simp only [ExRel] at k3
        exact ⟨φ', k1, k2, k3, k4⟩
  exact ⟨wpL_loop key, wpG_loop key⟩

end Go.Abs
