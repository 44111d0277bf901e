/- The abstract machine: regions that draw their order. What one run tells, and what the checks say. -/
import Derived.Test.YtbojmpbccibmaaaGreatDoorDAbsE
import Derived.Orders
import Derived.Below
set_option linter.unusedVariables false
set_option linter.unusedSimpArgs false
set_option linter.unusedSectionVars false
set_option linter.deprecated false
namespace Go.Abs
variable [Fct] [Val]

/-! ### Values that are one -/

theorem sameInts_eq : ∀ (a b : List Int), sameInts a b = true → a = b
  | [], [], _ => rfl
  | [], _ :: _, h => by simp [sameInts] at h
  | _ :: _, [], h => by simp [sameInts] at h
  | a :: x, b :: y, h => by
    simp only [sameInts, T.ifB_eq] at h
    split at h
    · rename_i h1
      rw [eqQ_eq, beq_iff_eq] at h1
      rw [h1, sameInts_eq x y h]
    · cases h

mutual
theorem same_eq : ∀ (a b : AV), AV.same a b = true → a = b
  | .bool a, b, h => by cases b <;> simp [AV.same] at h; rw [h]
  | .int k a, b, h => by
    cases b <;> simp [AV.same, kEq_iff, eqQ_eq] at h
    rw [h.1, h.2]
  | .sym k i l, b, h => by
    cases b <;> simp [AV.same, kEq_iff] at h
    rw [h.1, h.2.1, sameInts_eq _ _ h.2.2]
  | .rest k m i l, b, h => by
    cases b <;> simp [AV.same, kEq_iff] at h
    rw [h.1, h.2.1, h.2.2.1, sameInts_eq _ _ h.2.2.2]
  | .sstr a, b, h => by
    cases b <;> simp [AV.same] at h
    rw [sames_eq a _ h]
  | .ex k i o, b, h => by
    cases b <;> simp [AV.same, kEq_iff, eqQ_eq] at h
    rw [h.1, h.2.1, h.2.2]
  | .any p, b, h => by cases b <;> simp [AV.same] at h; rw [h]
  | .xptr i a s o, b, h => by
    cases b <;> simp [AV.same, eqQ_eq] at h
    obtain ⟨h1, h2, h3, h4⟩ := h
    rw [h1, h2, h3, h4]
  | .xsl i a s o e l c, b, h => by
    cases b <;> simp [AV.same, eqQ_eq] at h
    obtain ⟨h1, h2, h3, h4, h5, h6, h7⟩ := h
    rw [h1, h2, h3, h4, h5, h6, h7]
  | .str a, b, h => by
    cases b <;> simp [AV.same, strEq_eq] at h
    rw [h]
  | .ptr a, b, h => by cases b <;> simp [AV.same] at h; rw [h]
  | .sl a e l c x, b, h => by
    cases b <;> simp [AV.same] at h
    obtain ⟨⟨⟨⟨h1, h2⟩, h3⟩, h4⟩, h5⟩ := h
    rw [h1, h2, h3, h4, h5]
  | .map a, b, h => by cases b <;> simp [AV.same] at h; rw [h]
  | .fn f a c, b, h => by
    cases b <;> simp [AV.same] at h
    obtain ⟨⟨h1, h2⟩, h3⟩ := h
    rw [h1, sames_eq a _ h2, sames_eq c _ h3]
  | .nilFn, b, h => by cases b <;> simp [AV.same] at h; rfl
  | .iface t v, b, h => by
    cases b <;> simp [AV.same] at h
    rw [h.1, same_eq v _ h.2]
  | .nilIface, b, h => by cases b <;> simp [AV.same] at h; rfl
  | .agg a, b, h => by
    cases b <;> simp [AV.same] at h
    rw [sames_eq a _ h]
  | .tup a, b, h => by
    cases b <;> simp [AV.same] at h
    rw [sames_eq a _ h]
  | .junk, b, h => by cases b <;> simp [AV.same] at h
theorem sames_eq : ∀ (a b : List AV), AV.sames a b = true → a = b
  | [], b, h => by cases b <;> simp [AV.sames] at h; rfl
  | v :: a, b, h => by
    cases b <;> simp [AV.sames] at h
    rw [same_eq v _ h.1, sames_eq a _ h.2]
end

/-! ### Lists told by their places -/

def envQ (v : Nat → AV) (e : Env) : Nat → Env
  | 0 => e
  | p + 1 => v p :: envQ v e p

def ctxQ (d : Nat → Option Nat) (c : Ctx) : Nat → Ctx
  | 0 => c
  | p + 1 => d p :: ctxQ d c p

def consQ {α : Type} (a : α) (f : Nat → α) : Nat → α
  | 0 => a
  | p + 1 => f p

theorem envQ_cons (v0 : AV) (v : Nat → AV) (e : Env) : ∀ p, envQ (consQ v0 v) e (p + 1) = envQ v (v0 :: e) p
  | 0 => rfl
  | p + 1 => by
    have := envQ_cons v0 v e p
    show consQ v0 v (p + 1) :: envQ (consQ v0 v) e (p + 1) = v p :: envQ v (v0 :: e) p
    rw [this]; rfl

theorem ctxQ_cons (v0 : Option Nat) (v : Nat → Option Nat) (e : Ctx) : ∀ p, ctxQ (consQ v0 v) e (p + 1) = ctxQ v (v0 :: e) p
  | 0 => rfl
  | p + 1 => by
    have := ctxQ_cons v0 v e p
    show consQ v0 v (p + 1) :: ctxQ (consQ v0 v) e (p + 1) = v p :: ctxQ v (v0 :: e) p
    rw [this]; rfl

abbrev OItem := AOper × Nat × Nat

/-- How many of the first ones write. -/
def cntW : List OItem → Nat → Nat
  | [], _ => 0
  | _ :: _, 0 => 0
  | o :: os, p + 1 => (if isW o.1 = true then 1 else 0) + cntW os p

theorem cntW_zero (l : List OItem) : cntW l 0 = 0 := by cases l <;> rfl

theorem cntW_succ : ∀ (l : List OItem) (p : Nat) (o : OItem), l[p]? = some o → cntW l (p + 1) = cntW l p + (if isW o.1 = true then 1 else 0)
  | [], p, o, h => by simp at h
  | x :: l, 0, o, h => by simp at h; subst h; simp [cntW, cntW_zero]
  | x :: l, p + 1, o, h => by
    have := cntW_succ l p o (by simpa using h)
    simp only [cntW] at *
    omega

theorem cntW_mono (l : List OItem) : ∀ (p q : Nat), p ≤ q → cntW l p ≤ cntW l q := by
  induction l with
  | nil => intro p q _; simp [cntW]
  | cons x l ih =>
    intro p q h
    cases p with
    | zero => simp [cntW_zero]
    | succ p =>
      cases q with
      | zero => omega
      | succ q => simp only [cntW]; have := ih p q (by omega); omega

/-! ### One run -/

/-- What one run of a region that draws its order tells. -/
structure Tr (R : Runner) (ord : List OItem) (e : Env) (s : St) (k : Nat) (x : AEx) (s' : St) (n : Nat) (S : Nat → St) (v : Nat → AV) (L : List Look) (HS : List AHeap) : Prop where
  zero : S 0 = s
  le : n ≤ ord.length
  on : ∀ p it, p < n → ord[p]? = some it → (operFn it.1).run R (envQ v e p) (S p) = .on (v p) (S (p + 1))
  look : ∀ p it, p < n → ord[p]? = some it → isW it.1 = false → ∀ l ∈ (lookFn it.1 it.2.1 it.2.2).run (envQ v e p) (S p), l ∈ L
  fin : (n = ord.length ∧ x = .normal ∧ s' = S n) ∨ (∃ it, ord[n]? = some it ∧ isW it.1 = true ∧ (operFn it.1).run R (envQ v e n) (S n) = .out x s')
  ok : looksOk L HS (k + cntW ord n) = true
  top : HS[0]? = some (S n).heap
  heaps : ∀ p it, p < n → ord[p]? = some it → isW it.1 = true → ∃ j, HS[j]? = some (S p).heap ∧ j + cntW ord p = cntW ord n

theorem trace (R : Runner) : ∀ (ord : List OItem) (e : Env) (s : St) (hs : List AHeap) (k : Nat) (ls : List Look) (x : AEx) (s' : St), (drawFn ord).run R e s hs k ls = some (x, s') →
    ∃ n S v L HS, Tr R ord e s k x s' n S v L HS ∧ (∀ l ∈ ls, l ∈ L) ∧ ∃ pre, HS = pre ++ hs ∧ pre.length = cntW ord n + 1
  | [], e, s, hs, k, ls, x, s', hr => by
    simp only [drawFn] at hr
    cases hl : looksOk ls (s.heap :: hs) k with
    | false => rw [hl] at hr; cases hr
    | true =>
      rw [hl] at hr
      simp only [cond_true, Option.some.injEq, Prod.mk.injEq] at hr
      obtain ⟨rfl, rfl⟩ := hr
      refine ⟨0, fun _ => s, fun _ => .junk, ls, s.heap :: hs, ⟨rfl, Nat.le_refl _, ?_, ?_, .inl ⟨rfl, rfl, rfl⟩, by simpa [cntW] using hl, rfl, ?_⟩, fun l h => h, [s.heap], rfl, rfl⟩
      · intro p it hp; omega
      · intro p it hp; omega
      · intro p it hp; omega
  | (o, lo, hi) :: os, e, s, hs, k, ls, x, s', hr => by
    unfold drawFn at hr
    cases hw : isW o with
    | true =>
      rw [hw] at hr
      simp only [cond_true] at hr
      cases hg : (operFn o).run R e s with
      | on v0 s1 =>
        rw [hg] at hr
        obtain ⟨n, S, v, L, HS, ht, hl, pre, hpre, hlen⟩ := trace R os (v0 :: e) s1 (s.heap :: hs) (k + 1) ls x s' hr
        refine ⟨n + 1, consQ s S, consQ v0 v, L, HS, ⟨rfl, by simp; exact ht.le, ?_, ?_, ?_, ?_, ht.top, ?_⟩, hl, pre ++ [s.heap], by rw [hpre]; simp, by simp [cntW, hw, hlen]; omega⟩
        · intro p it hp hit
          cases p with
          | zero => simp at hit; subst hit; simp only [envQ, consQ]; rw [ht.zero]; exact hg
          | succ p => rw [envQ_cons]; exact ht.on p it (by omega) (by simpa using hit)
        · intro p it hp hit hd
          cases p with
          | zero => simp at hit; subst hit; rw [hw] at hd; cases hd
          | succ p => rw [envQ_cons]; exact ht.look p it (by omega) (by simpa using hit) hd
        · rcases ht.fin with ⟨h1, h2, h3⟩ | ⟨it, h1, h2, h3⟩
          · exact .inl ⟨by simp [h1], h2, h3⟩
          · refine .inr ⟨it, by simpa using h1, h2, ?_⟩
            rw [envQ_cons]; exact h3
        · have := ht.ok
          simp only [cntW, hw, if_true]
          rw [show k + (1 + cntW os n) = k + 1 + cntW os n from by omega]; exact this
        · intro p it hp hit hd
          cases p with
          | zero =>
            refine ⟨pre.length, ?_, ?_⟩
            · rw [hpre]; simp [consQ]
            · simp [cntW, hw, hlen, cntW_zero]; omega
          | succ p =>
            obtain ⟨j, h1, h2⟩ := ht.heaps p it (by omega) (by simpa using hit) hd
            exact ⟨j, h1, by simp only [cntW]; omega⟩
      | out x1 s1 =>
        rw [hg] at hr
        simp only at hr
        cases hl : looksOk ls (s.heap :: hs) k with
        | false => rw [hl] at hr; cases hr
        | true =>
          rw [hl] at hr
          simp only [cond_true, Option.some.injEq, Prod.mk.injEq] at hr
          obtain ⟨rfl, rfl⟩ := hr
          refine ⟨0, fun _ => s, fun _ => .junk, ls, s.heap :: hs, ⟨rfl, Nat.zero_le _, ?_, ?_, .inr ⟨(o, lo, hi), rfl, hw, hg⟩, by simpa [cntW] using hl, rfl, ?_⟩, fun l h => h, [s.heap], rfl, by simp [cntW_zero]⟩
          · intro p it hp; omega
          · intro p it hp; omega
          · intro p it hp; omega
      | lost => rw [hg] at hr; cases hr
    | false =>
      rw [hw] at hr
      simp only [cond_false] at hr
      cases hg : (operFn o).run R e s with
      | on v0 s1 =>
        rw [hg] at hr
        obtain ⟨n, S, v, L, HS, ht, hl, pre, hpre, hlen⟩ := trace R os (v0 :: e) s1 hs k ((lookFn o lo hi).run e s ++ ls) x s' hr
        refine ⟨n + 1, consQ s S, consQ v0 v, L, HS, ⟨rfl, by simp; exact ht.le, ?_, ?_, ?_, ?_, ht.top, ?_⟩, fun l h => hl l (by simp [h]), pre, hpre, by simp [cntW, hw, hlen]⟩
        · intro p it hp hit
          cases p with
          | zero => simp at hit; subst hit; simp only [envQ, consQ]; rw [ht.zero]; exact hg
          | succ p => rw [envQ_cons]; exact ht.on p it (by omega) (by simpa using hit)
        · intro p it hp hit hd
          cases p with
          | zero => simp at hit; subst hit; intro l h; exact hl l (by simp only [consQ, envQ] at h; simp [h])
          | succ p => rw [envQ_cons]; exact ht.look p it (by omega) (by simpa using hit) hd
        · rcases ht.fin with ⟨h1, h2, h3⟩ | ⟨it, h1, h2, h3⟩
          · exact .inl ⟨by simp [h1], h2, h3⟩
          · refine .inr ⟨it, by simpa using h1, h2, ?_⟩
            rw [envQ_cons]; exact h3
        · have := ht.ok
          simpa [cntW, hw] using this
        · intro p it hp hit hd
          cases p with
          | zero => simp at hit; subst hit; rw [hw] at hd; cases hd
          | succ p =>
            obtain ⟨j, h1, h2⟩ := ht.heaps p it (by omega) (by simpa using hit) hd
            exact ⟨j, h1, by simp only [cntW]; omega⟩
      | out x1 s1 => rw [hg] at hr; cases hr
      | lost => rw [hg] at hr; cases hr

theorem stableIn_at {l : Look} : ∀ {hs : List AHeap} {k : Nat}, stableIn l hs k = true → ∀ (j : Nat) (h : AHeap), hs[j]? = some h → l.lo ≤ k - j → k - j ≤ l.hi → ∃ v h', runD h l.d = some (v, h') ∧ AV.same l.v v = true
  | [], k, _, j, h, hj, _, _ => by simp at hj
  | h0 :: hs, k, hst, j, h, hj, h1, h2 => by
    unfold stableIn at hst
    simp only [Bool.and_eq_true] at hst
    cases j with
    | zero =>
      simp at hj; subst hj
      have hc : (Nat.ble l.lo k && Nat.ble k l.hi) = true := by
        rw [Bool.and_eq_true, ble_iff, ble_iff]; omega
      have := hst.1
      rw [hc] at this
      simp only [cond_true] at this
      split at this
      · rename_i v h' hv
        exact ⟨v, h', hv, this⟩
      · cases this
    | succ j => exact stableIn_at hst.2 j h (by simpa using hj) (by omega) (by omega)

theorem looksOk_at {L : List Look} {hs : List AHeap} {k : Nat} (h : looksOk L hs k = true) {l : Look} (hl : l ∈ L) : stableIn l hs k = true := by
  unfold looksOk at h
  rw [List.all_eq_true] at h
  exact h l hl

/-! ### What an operation that writes nothing does -/

noncomputable def baseD (o : AOp) (e : Env) (r : Regs) : DRes :=
  match o with
  | .mov x => .val (x.ev e r)
  | .d f => f.f e r
  | .w _ => .bad

noncomputable def effD (o : AOper) (e : Env) (r : Regs) : DRes :=
  match o.guard with
  | none => baseD o.op e r
  | some (x, want) => match guardMet (x.ev e r) want with
    | some true => baseD o.op e r
    | some false => .val .undef
    | none => .bad

theorem val_dst {o : AOper} {R : Runner} {e : Env} {s s' : St} {v : AV} (h : (operFn o).run R e s = .on v s') : ∃ s1, (guardFn o.guard (opFn o.op)).run R e s = .on v s1 ∧ s' = ⟨match o.dst with | some d => T.put s1.regs d (some v) | none => s1.regs, s1.heap, s1.defers, s1.below⟩ := by
  unfold operFn dstFn at h
  cases hd : o.dst with
  | none => rw [hd] at h; simp only at h; exact ⟨s', h, rfl⟩
  | some d =>
    rw [hd] at h
    simp only at h
    split at h
    · rename_i v1 s1 hs
      simp only [Went.on.injEq] at h
      obtain ⟨rfl, rfl⟩ := h
      exact ⟨s1, hs, by rw [putFn_put]⟩
    · rename_i r hr
      exact absurd h (by intro hh; exact hr _ _ hh)

/-- What a step that writes nothing changes. -/
theorem stepD {o : AOper} (hw : isW o = false) {R : Runner} {e : Env} {s s' : St} {v : AV} (h : (operFn o).run R e s = .on v s') :
    runD s.heap (effD o e s.regs) = some (v, s'.heap) ∧ s'.defers = s.defers ∧ s'.below = s.below ∧ s'.regs = (match o.dst with | some d => T.put s.regs d (some v) | none => s.regs) := by
  obtain ⟨s1, h1, rfl⟩ := val_dst h
  have base : ∀ v s1, (opFn o.op).run R e s = .on v s1 → runD s.heap (baseD o.op e s.regs) = some (v, s1.heap) ∧ s1.defers = s.defers ∧ s1.below = s.below ∧ s1.regs = s.regs := by
    intro v s1 hb
    unfold isW at hw
    unfold baseD
    cases ho : o.op with
    | mov x => rw [ho] at hb; simp only [opFn, Went.on.injEq] at hb; obtain ⟨rfl, rfl⟩ := hb; exact ⟨rfl, rfl, rfl, rfl⟩
    | d f =>
      rw [ho] at hb
      simp only [opFn] at hb
      simp only
      cases hf : f.f e s.regs with
      | val v' => rw [hf] at hb; simp only [Went.on.injEq] at hb; obtain ⟨rfl, rfl⟩ := hb; exact ⟨rfl, rfl, rfl, rfl⟩
      | _ =>
        rw [hf] at hb
        simp only [wentD] at hb
        split at hb
        · rename_i v2 h2 hr
          simp only [Went.on.injEq] at hb
          obtain ⟨rfl, rfl⟩ := hb
          exact ⟨hr, rfl, rfl, rfl⟩
        · cases hb
    | w f => rw [ho] at hw; cases hw
  have main : runD s.heap (effD o e s.regs) = some (v, s1.heap) ∧ s1.defers = s.defers ∧ s1.below = s.below ∧ s1.regs = s.regs := by
    unfold guardFn at h1
    unfold effD
    cases hg : o.guard with
    | none => rw [hg] at h1; exact base v s1 h1
    | some q =>
      obtain ⟨x, want⟩ := q
      rw [hg] at h1
      simp only at h1 ⊢
      cases hm : guardMet (x.ev e s.regs) want with
      | none => rw [hm] at h1; cases h1
      | some b =>
        rw [hm] at h1
        cases b with
        | true => exact base v s1 h1
        | false => simp only [Went.on.injEq] at h1; obtain ⟨rfl, rfl⟩ := h1; exact ⟨rfl, rfl, rfl, rfl⟩
  exact ⟨main.1, main.2.1, main.2.2.1, by simp only [main.2.2.2]⟩

/-- What it looks at is held against the other heaps. -/
theorem lookD {o : AOper} (hw : isW o = false) (lo hi : Nat) (e : Env) (s : St) : ∀ l ∈ lookAt (effD o e s.regs) s.heap lo hi, l ∈ (lookFn o lo hi).run e s := by
  intro l hl
  unfold lookFn
  unfold effD at hl
  unfold isW at hw
  cases ho : o.op with
  | w f => rw [ho] at hw; cases hw
  | mov x =>
    exfalso
    rw [ho] at hl
    cases hg : o.guard with
    | none => rw [hg] at hl; simp [baseD, lookAt] at hl
    | some q =>
      rw [hg] at hl
      simp only at hl
      split at hl <;> simp [baseD, lookAt] at hl
  | d f =>
    rw [ho] at hl
    simp only
    cases hg : o.guard with
    | none => rw [hg] at hl; exact hl
    | some q =>
      obtain ⟨x, want⟩ := q
      rw [hg] at hl
      simp only at hl ⊢
      cases hm : guardMet (x.ev e s.regs) want with
      | none => rw [hm] at hl; simp [lookAt] at hl
      | some b =>
        rw [hm] at hl
        cases b with
        | true => exact hl
        | false => simp [lookAt] at hl

theorem regs_on {o : AOper} {R : Runner} {e : Env} {s s' : St} {v : AV} (h : (operFn o).run R e s = .on v s') : ∀ t, s'.regs.val t = if o.dst = some t then v else s.regs.val t := by
  obtain ⟨s1, h1, rfl⟩ := val_dst h
  have h2 : s1.regs = s.regs := by
    have base : ∀ v s1, (opFn o.op).run R e s = .on v s1 → s1.regs = s.regs := by
      intro v s1 hb
      cases ho : o.op with
      | mov x => rw [ho] at hb; simp only [opFn, Went.on.injEq] at hb; obtain ⟨rfl, rfl⟩ := hb; rfl
      | d f =>
        rw [ho] at hb
        simp only [opFn] at hb
        split at hb
        · simp only [Went.on.injEq] at hb; obtain ⟨rfl, rfl⟩ := hb; rfl
        · unfold wentD at hb
          split at hb
          · simp only [Went.on.injEq] at hb; obtain ⟨rfl, rfl⟩ := hb; rfl
          · cases hb
      | w f =>
        rw [ho] at hb
        simp only [opFn] at hb
        unfold wentW at hb
        split at hb
        · simp only [Went.on.injEq] at hb; obtain ⟨rfl, rfl⟩ := hb; rfl
        · split at hb <;> first | (simp only [Went.on.injEq] at hb; obtain ⟨rfl, rfl⟩ := hb; rfl) | cases hb
        · simp only [Went.on.injEq] at hb; obtain ⟨rfl, rfl⟩ := hb; rfl
        · cases hb
        · split at hb <;> first | (simp only [Went.on.injEq] at hb; obtain ⟨rfl, rfl⟩ := hb; rfl) | cases hb
        · cases hb
    unfold guardFn at h1
    cases hg : o.guard with
    | none => rw [hg] at h1; exact base v s1 h1
    | some q =>
      rw [hg] at h1
      simp only at h1
      split at h1
      · exact base v s1 h1
      · simp only [Went.on.injEq] at h1; obtain ⟨rfl, rfl⟩ := h1; rfl
      · cases h1
  intro t
  simp only
  cases hd : o.dst with
  | none => simp [h2]
  | some d =>
    simp only [val_put, h2]
    by_cases ht : t = d
    · subst ht; simp
    · rw [if_neg ht, if_neg (by intro hh; cases hh; exact ht rfl)]

/-- An operation of a frame that no deferred call runs in. -/
theorem below_on {o : AOper} {R : Runner} {e : Env} {s s' : St} {v : AV} (h : (operFn o).run R e s = .on v s') (hb0 : s.below = none) : s'.below = none := by
  obtain ⟨s1, h1, rfl⟩ := val_dst h
  show s1.below = none
  have base : ∀ v s1, (opFn o.op).run R e s = .on v s1 → s1.below = none := by
    intro v s1 hb
    cases ho : o.op with
    | mov x => rw [ho] at hb; simp only [opFn, Went.on.injEq] at hb; obtain ⟨rfl, rfl⟩ := hb; exact hb0
    | d f =>
      rw [ho] at hb
      simp only [opFn] at hb
      split at hb
      · simp only [Went.on.injEq] at hb; obtain ⟨rfl, rfl⟩ := hb; exact hb0
      · unfold wentD at hb
        split at hb
        · simp only [Went.on.injEq] at hb; obtain ⟨rfl, rfl⟩ := hb; exact hb0
        · cases hb
    | w f =>
      rw [ho] at hb
      simp only [opFn] at hb
      unfold wentW at hb
      split at hb
      · simp only [Went.on.injEq] at hb; obtain ⟨rfl, rfl⟩ := hb; exact hb0
      · split at hb <;> first | (simp only [Went.on.injEq] at hb; obtain ⟨rfl, rfl⟩ := hb; exact hb0) | cases hb
      · simp only [Went.on.injEq] at hb; obtain ⟨rfl, rfl⟩ := hb; exact hb0
      · cases hb
      · rw [hb0] at hb; cases hb
      · cases hb
  unfold guardFn at h1
  cases hg : o.guard with
  | none => rw [hg] at h1; exact base v s1 h1
  | some q =>
    rw [hg] at h1
    simp only at h1
    split at h1
    · exact base v s1 h1
    · simp only [Went.on.injEq] at h1; obtain ⟨rfl, rfl⟩ := h1; exact hb0
    · cases h1

/-! ### What the checks say -/

theorem memQ_iff {a : Nat} {l : List Nat} : memQ a l = true ↔ a ∈ l := by
  unfold memQ
  rw [List.any_eq_true]
  constructor
  · rintro ⟨x, h1, h2⟩; rw [beq_iff] at h2; rw [h2]; exact h1
  · intro h; exact ⟨a, h, by rw [beq_iff]⟩

theorem drawItems_spec {P : Program} {F : Frm} {ops : Array Oper} : ∀ (l : List (Nat × Nat × Nat)) (c : Ctx) (items : List DItem), drawItems P F ops l c = some items →
    ∃ d : Nat → Option Nat, ∀ p it, items[p]? = some it → ∃ o, ops[it.1]? = some o ∧ d p = o.dst ∧ cOper P F ops (ctxQ d c p) o = some it.2.1
  | [], c, items, h => by simp only [drawItems, Option.some.injEq] at h; subst h; exact ⟨fun _ => none, by intro p it hp; simp at hp⟩
  | q :: l, c, items, h => by
    simp only [drawItems, Option.bind_eq_some_iff, Option.map_eq_some_iff] at h
    obtain ⟨o, ho, ao, hao, items', hi, rfl⟩ := h
    obtain ⟨d, hd⟩ := drawItems_spec l _ items' hi
    refine ⟨consQ o.dst d, fun p it hp => ?_⟩
    cases p with
    | zero => simp at hp; subst hp; exact ⟨o, ho, rfl, hao⟩
    | succ p => rw [ctxQ_cons]; exact hd p it (by simpa using hp)

theorem checkOrder_spec (anc : List (List Nat)) (n : Nat) : ∀ (items : List DItem) (seen : List Nat), checkOrder anc n items seen = true →
    (∀ (p : Nat) (it : DItem), items[p]? = some it → it.1 < n ∧ it.1 ∉ seen ∧ ∀ x ∈ ancQ anc it.1, x ∈ seen ∨ ∃ (q : Nat) (iq : DItem), q < p ∧ items[q]? = some iq ∧ iq.1 = x) ∧
    (∀ (p q : Nat) (ip iq : DItem), items[p]? = some ip → items[q]? = some iq → p ≠ q → ip.1 ≠ iq.1) ∧
    (∀ i, i < n → i ∈ seen ∨ ∃ (p : Nat) (ip : DItem), items[p]? = some ip ∧ ip.1 = i)
  | [], seen, h => by
    unfold checkOrder at h
    rw [List.all_eq_true] at h
    refine ⟨by intro p it hp; simp at hp, by intro p q ip iq hp; simp at hp, fun i hi => .inl (memQ_iff.1 (h i (List.mem_range.2 hi)))⟩
  | it0 :: items, seen, h => by
    unfold checkOrder at h
    simp only [Bool.and_eq_true, Bool.not_eq_true', List.all_eq_true] at h
    obtain ⟨h1, h2, h3, h4⟩ := h
    obtain ⟨k1, k2, k3⟩ := checkOrder_spec anc n items _ h4
    rw [blt_iff] at h1
    have h2' : it0.1 ∉ seen := fun hh => by rw [memQ_iff.2 hh] at h2; cases h2
    refine ⟨fun p it hp => ?_, fun p q ip iq hp hq hne => ?_, fun i hi => ?_⟩
    · cases p with
      | zero => simp at hp; subst hp; exact ⟨h1, h2', fun x hx => .inl (memQ_iff.1 (h3 x hx))⟩
      | succ p =>
        obtain ⟨e1, e2, e3⟩ := k1 p it (by simpa using hp)
        refine ⟨e1, fun hh => e2 (List.mem_cons_of_mem _ hh), fun x hx => ?_⟩
        rcases e3 x hx with hh | ⟨q, iq, hq, hq2, hq3⟩
        · rcases List.mem_cons.1 hh with hh | hh
          · exact .inr ⟨0, it0, by omega, rfl, hh.symm⟩
          · exact .inl hh
        · exact .inr ⟨q + 1, iq, by omega, by simpa using hq2, hq3⟩
    · cases p with
      | zero =>
        simp at hp; subst hp
        cases q with
        | zero => exact absurd rfl hne
        | succ q =>
          obtain ⟨_, e2, _⟩ := k1 q iq (by simpa using hq)
          intro hh; exact e2 (by rw [← hh]; exact List.mem_cons_self)
      | succ p =>
        cases q with
        | zero =>
          simp at hq; subst hq
          obtain ⟨_, e2, _⟩ := k1 p ip (by simpa using hp)
          intro hh; exact e2 (by rw [hh]; exact List.mem_cons_self)
        | succ q => exact k2 p q ip iq (by simpa using hp) (by simpa using hq) (by omega)
    · rcases k3 i hi with hh | ⟨p, ip, hp, hp2⟩
      · rcases List.mem_cons.1 hh with hh | hh
        · exact .inr ⟨0, it0, rfl, hh.symm⟩
        · exact .inl hh
      · exact .inr ⟨p + 1, ip, by simpa using hp, hp2⟩

theorem checkW_lo (anc : List (List Nat)) : ∀ (items : List DItem) (k : Nat) (last : Option Nat), checkW anc items k last = true → ∀ (p : Nat) (it : DItem), items[p]? = some it → isW it.2.1 = false → it.2.2.1 = k + cntW (items.map (·.2)) p
  | [], k, last, h, p, it, hp => by simp at hp
  | (i, ao, lo, hi) :: items, k, last, h, p, it, hp => by
    intro hd
    unfold checkW at h
    simp only [Bool.and_eq_true] at h
    cases p with
    | zero =>
      simp at hp; subst hp
      simp only at hd
      rw [hd] at h
      simp only [cond_false, Bool.and_eq_true, beq_iff] at h
      simp [cntW_zero, h.2.1]
    | succ p =>
      simp only [List.map_cons, cntW]
      cases hw : isW ao with
      | true =>
        rw [hw] at h
        simp only [cond_true] at h
        have := checkW_lo anc items _ _ h.2 p it (by simpa using hp) hd
        simp; omega
      | false =>
        rw [hw] at h
        simp only [cond_false, Bool.and_eq_true] at h
        have := checkW_lo anc items _ _ h.2.2 p it (by simpa using hp) hd
        simpa using this

theorem checkW_last (anc : List (List Nat)) : ∀ (items : List DItem) (k : Nat) (u : Nat), checkW anc items k (some u) = true → ∀ (p : Nat) (it : DItem), items[p]? = some it →
    u ∈ ancQ anc it.1 ∨ ∃ (q : Nat) (iq : DItem), q < p ∧ items[q]? = some iq ∧ isW iq.2.1 = true ∧ iq.1 ∈ ancQ anc it.1
  | [], k, u, h, p, it, hp => by simp at hp
  | (i, ao, lo, hi) :: items, k, u, h, p, it, hp => by
    unfold checkW at h
    simp only [Bool.and_eq_true] at h
    cases p with
    | zero => simp at hp; subst hp; exact .inl (memQ_iff.1 h.1)
    | succ p =>
      cases hw : isW ao with
      | true =>
        rw [hw] at h
        simp only [cond_true] at h
        rcases checkW_last anc items _ _ h.2 p it (by simpa using hp) with hh | ⟨q, iq, h1, h2, h3, h4⟩
        · exact .inr ⟨0, _, by omega, rfl, hw, hh⟩
        · exact .inr ⟨q + 1, iq, by omega, by simpa using h2, h3, h4⟩
      | false =>
        rw [hw] at h
        simp only [cond_false, Bool.and_eq_true] at h
        rcases checkW_last anc items _ _ h.2.2 p it (by simpa using hp) with hh | ⟨q, iq, h1, h2, h3, h4⟩
        · exact .inl hh
        · exact .inr ⟨q + 1, iq, by omega, by simpa using h2, h3, h4⟩

theorem checkW_spec (anc : List (List Nat)) : ∀ (items : List DItem) (k : Nat) (last : Option Nat), checkW anc items k last = true → ∀ (p : Nat) (it : DItem) (q : Nat) (iq : DItem), items[p]? = some it → items[q]? = some iq → q < p → isW iq.2.1 = true →
    ∃ (u : Nat) (iu : DItem), q ≤ u ∧ u < p ∧ items[u]? = some iu ∧ isW iu.2.1 = true ∧ iu.1 ∈ ancQ anc it.1
  | [], k, last, h, p, it, q, iq, hp => by simp at hp
  | (i, ao, lo, hi) :: items, k, last, h, p, it, q, iq, hp => by
    intro hq hqp hwq
    unfold checkW at h
    simp only [Bool.and_eq_true] at h
    cases p with
    | zero => omega
    | succ p =>
      cases q with
      | zero =>
        simp at hq; subst hq
        simp only at hwq
        rw [hwq] at h
        simp only [cond_true] at h
        rcases checkW_last anc items _ _ h.2 p it (by simpa using hp) with hh | ⟨u, iu, h1, h2, h3, h4⟩
        · exact ⟨0, _, by omega, by omega, rfl, hwq, hh⟩
        · exact ⟨u + 1, iu, by omega, by omega, by simpa using h2, h3, h4⟩
      | succ q =>
        have key : ∀ k' last', checkW anc items k' last' = true → ∃ (u : Nat) (iu : DItem), q + 1 ≤ u ∧ u < p + 1 ∧ ((i, ao, lo, hi) :: items)[u]? = some iu ∧ isW iu.2.1 = true ∧ iu.1 ∈ ancQ anc it.1 := by
          intro k' last' hc
          obtain ⟨u, iu, h1, h2, h3, h4, h5⟩ := checkW_spec anc items k' last' hc p it q iq (by simpa using hp) (by simpa using hq) (by omega) hwq
          exact ⟨u + 1, iu, by omega, by omega, by simpa using h3, h4, h5⟩
        cases hw : isW ao with
        | true => rw [hw] at h; simp only [cond_true] at h; exact key _ _ h.2
        | false => rw [hw] at h; simp only [cond_false, Bool.and_eq_true] at h; exact key _ _ h.2.2

theorem writers_get : ∀ (items : List DItem) (q : Nat) (iq : DItem), items[q]? = some iq → isW iq.2.1 = true → (writersOf items)[cntW (items.map (·.2)) q]? = some iq.1
  | [], q, iq, h, _ => by simp at h
  | it :: items, q, iq, h, hw => by
    unfold writersOf
    cases q with
    | zero => simp at h; subst h; simp [List.filter_cons, hw, cntW_zero]
    | succ q =>
      have := writers_get items q iq (by simpa using h) hw
      unfold writersOf at this
      simp only [List.map_cons, cntW]
      cases hw0 : isW it.2.1 with
      | true => simp only [List.filter_cons, hw0, if_true, List.map_cons]; rw [Nat.add_comm]; simpa using this
      | false => simp only [List.filter_cons, hw0]; simpa using this

theorem checkHi_spec {anc : List (List Nat)} {items : List DItem} (h : checkHi anc (writersOf items) items = true) {p q : Nat} {it iq : DItem} (hp : items[p]? = some it) (hd : isW it.2.1 = false) (hq : items[q]? = some iq) (hw : isW iq.2.1 = true)
    (hle : it.2.2.2 ≤ cntW (items.map (·.2)) q) : it.1 ∈ ancQ anc iq.1 := by
  unfold checkHi at h
  rw [List.all_eq_true] at h
  have := h it (List.mem_of_getElem? hp)
  rw [hd, Bool.false_or, List.all_eq_true] at this
  refine memQ_iff.1 (this iq.1 ?_)
  have hg := writers_get items q iq hq hw
  refine List.mem_of_getElem? (i := cntW (items.map (·.2)) q - it.2.2.2) ?_
  rw [List.getElem?_drop, ← hg]
  congr 1; omega

theorem checkAnc_spec {anc : List (List Nat)} {ops : Array Oper} (h : checkAnc anc ops = true) {i : Nat} {o : Oper} (ho : ops[i]? = some o) :
    (∀ j ∈ bindsOf o, j ∈ ancQ anc i ∧ ∀ x ∈ ancQ anc j, x ∈ ancQ anc i) ∧ ∀ x ∈ ancQ anc i, ∃ j ∈ bindsOf o, x = j ∨ x ∈ ancQ anc j := by
  unfold checkAnc at h
  rw [List.all_eq_true] at h
  have := h i (List.mem_range.2 (Array.getElem?_eq_some_iff.1 ho).1)
  rw [ho] at this
  simp only [Bool.and_eq_true, List.all_eq_true, List.any_eq_true, Bool.or_eq_true, memQ_iff, beq_iff] at this
  exact this

theorem apart_spec {anc : List (List Nat)} {ops : Array Oper} (h : apartAll anc ops = true) {i j : Nat} {o p : Oper} (ho : ops[i]? = some o) (hp : ops[j]? = some p) (hne : j ≠ i) {d : Nat} (hd : p.dst = some d) :
    o.dst ≠ some d ∧ (d ∈ usesOf ops o → j ∈ ancQ anc i ∨ i ∈ ancQ anc j) := by
  unfold apartAll at h
  rw [List.all_eq_true] at h
  have := h i (List.mem_range.2 (Array.getElem?_eq_some_iff.1 ho).1)
  rw [ho] at this
  simp only [List.all_eq_true] at this
  have := this j (List.mem_range.2 (Array.getElem?_eq_some_iff.1 hp).1)
  have hnb : Nat.beq j i = false := by
    cases hb : Nat.beq j i with
    | false => rfl
    | true => exact absurd (beq_iff.1 hb) hne
  rw [hp, hnb] at this
  simp only [hd, Bool.false_or, Bool.and_eq_true, Bool.or_eq_true, Bool.not_eq_true', memQ_iff] at this
  obtain ⟨h1, h2⟩ := this
  refine ⟨fun hh => ?_, fun hu => ?_⟩
  · rw [hh] at h1
    simp at h1
  · rcases h2 with (h2 | h2) | h2
    · rw [memQ_iff.2 hu] at h2; cases h2
    · exact .inl h2
    · exact .inr h2

theorem cDraw_spec {P : Program} {F : Frm} {ops : Array Oper} {A : ACode} (h : cDraw P F ops = some A) : ∃ (anc : List (List Nat)) (items : List DItem) (d : Nat → Option Nat),
    A = .draw (items.map (·.2)) ((ops.toList.filterMap (·.dst)).filter (isLive F.np F.live)) ∧
    (∀ p it, items[p]? = some it → ∃ o, ops[it.1]? = some o ∧ d p = o.dst ∧ cOper P F ops (ctxQ d [] p) o = some it.2.1) ∧
    checkAnc anc ops = true ∧ apartAll anc ops = true ∧ checkOrder anc ops.size items [] = true ∧ checkW anc items 0 none = true ∧ checkHi anc (writersOf items) items = true := by
  unfold cDraw at h
  simp only [Option.bind_eq_some_iff] at h
  obtain ⟨first, _, anc, _, items, hit, h⟩ := h
  split at h
  · rename_i hc
    simp only [Option.some.injEq] at h
    subst h
    simp only [Bool.and_eq_true] at hc
    obtain ⟨h1, h2, h3, h4, h5⟩ := hc
    obtain ⟨d, hd⟩ := drawItems_spec _ _ _ hit
    exact ⟨anc, items, d, rfl, hd, h1, h2, h3, h4, h5⟩
  · cases h

end Go.Abs

/- The abstract machine: regions that draw their order. Any order does what the one run tells. -/
namespace Go.Abs
variable [Fct] [Val]

/-! ### Blocks that are not made yet -/

theorem HRel.virt {ng : Nat} {φ : Phi} {h : AHeap} {w : World} (H : HRel ng φ h w) (b : ABlk) : HRel ng φ (h.new b) w := by
  have hun : φ h.next = .un := H.fresh _ (Nat.le_refl _)
  refine ⟨fun i hi => H.fresh i (by simp at hi; omega), H.glob, fun i b' hg => ?_, fun i j b1 b2 c p m p' m' hi hj hne ei ej => ?_, H.lt, fun i b' hg => ?_⟩
  · rw [AHeap.get_new] at hg
    by_cases hi : i = h.next
    · subst hi; exact .inl hun
    · rw [if_neg hi] at hg; exact H.blk i b' hg
  · rw [AHeap.get_new] at hi hj
    have h1 : i ≠ h.next := fun e => by subst e; rw [hun] at ei; cases ei
    have h2 : j ≠ h.next := fun e => by subst e; rw [hun] at ej; cases ej
    rw [if_neg h1] at hi; rw [if_neg h2] at hj
    exact H.inj i j b1 b2 c p m p' m' hi hj hne ei ej
  · rw [AHeap.get_new] at hg
    simp only [AHeap.next_new]
    by_cases hi : i = h.next
    · omega
    · rw [if_neg hi] at hg; have := H.dom i b' hg; omega

theorem Stp.virt_new {ng : Nat} {φ : Phi} {h : AHeap} {w : World} (H : HRel ng φ h w) (b : ABlk) : Stp φ h w φ (h.new b) w := by
  have hun : φ h.next = .un := H.fresh _ (Nat.le_refl _)
  refine ⟨Ext.refl _, rfl, rfl, rfl, Nat.le_refl _, fun _ _ _ => rfl, fun c ⟨i, bl, o, n, hg, hro, e⟩ _ => ?_, fun i hi e => ⟨?_, e⟩, by simp⟩
  · rw [AHeap.get_new] at hg
    have h1 : i ≠ h.next := fun e' => by subst e'; rw [hun] at e; cases e
    rw [if_neg h1] at hg
    exact ⟨i, bl, o, n, hg, hro, e⟩
  · rw [AHeap.get_new, if_neg (by omega)]

/-- A block that was not made yet is made. -/
theorem HRel.real {ng : Nat} {φ : Phi} {h : AHeap} {w : World} (H : HRel ng φ h w) {i : Nat} {blk : ABlk} (hi : h.get i = some blk) (hun : φ i = .un) (o : Obj) (n : Nat)
    (hb : BRel (upd φ i (.at w.heap.size 0 n)) blk w.heap.size 0 n (w.alloc o)) : HRel ng (upd φ i (.at w.heap.size 0 n)) h (w.alloc o) := by
  have hext : Ext φ (upd φ i (.at w.heap.size 0 n)) := Ext.upd (by rw [hun]; trivial)
  have hat : ∀ j c p m, upd φ i (.at w.heap.size 0 n) j = .at c p m → (j = i ∧ c = w.heap.size) ∨ (j ≠ i ∧ φ j = .at c p m ∧ c < w.heap.size) := by
    intro j c p m e
    by_cases hj : j = i
    · subst hj; rw [upd_same] at e; cases e; exact .inl ⟨rfl, rfl⟩
    · rw [upd_other φ _ hj] at e; exact .inr ⟨hj, e, H.lt _ _ _ _ e⟩
  refine ⟨fun j hj => ?_, fun g hg => (H.glob g hg).mono hext, fun j b hget => ?_, fun j k b b' c p m p' m' hj hk hne ej ek => ?_, fun j c p m e => ?_, H.dom⟩
  · have := H.dom i blk hi
    rw [upd_other φ _ (by omega)]; exact H.fresh j hj
  · by_cases hji : j = i
    · subst hji
      rw [hi] at hget; cases hget
      exact .inr ⟨w.heap.size, 0, n, upd_same _ _ _, hb⟩
    · rcases H.blk j b hget with e | ⟨c, p, m, e, k⟩
      · exact .inl (by rw [upd_other φ _ hji]; exact e)
      · exact .inr ⟨c, p, m, by rw [upd_other φ _ hji]; exact e, (k.mono hext).same (heap_alloc_lt (H.lt _ _ _ _ e))⟩
  · rcases hat _ _ _ _ ej with ⟨rfl, rfl⟩ | ⟨h1, h2, h3⟩ <;> rcases hat _ _ _ _ ek with ⟨rfl, h4⟩ | ⟨h4, h5, h6⟩
    · exact absurd rfl hne
    · omega
    · omega
    · exact H.inj j k b b' c p m p' m' hj hk hne h2 h5
  · rcases hat _ _ _ _ e with ⟨_, rfl⟩ | ⟨_, _, h3⟩ <;> simp <;> omega

theorem Stp.real {φ₀ : Phi} {h₀ : AHeap} {w₀ : World} {φ : Phi} {h : AHeap} {w : World} (hs : Stp φ₀ h₀ w₀ φ h w) {i : Nat} (hi : h₀.next ≤ i) (hun : φ i = .un) (o : Obj) (n : Nat) :
    Stp φ₀ h₀ w₀ (upd φ i (.at w.heap.size 0 n)) h (w.alloc o) := by
  have hext : Ext φ (upd φ i (.at w.heap.size 0 n)) := Ext.upd (by rw [hun]; trivial)
  refine ⟨hs.ext.trans hext, hs.os, hs.tape, hs.output, ?_, fun b hb hn => ?_, fun b ⟨j, bl, p, m, hg, hro, e⟩ hb => ?_, fun j hj e => ?_, hs.next⟩
  · have := hs.size; simp; omega
  · rw [heap_alloc_lt (Nat.lt_of_lt_of_le hb hs.size)]; exact hs.same b hb hn
  · by_cases hji : j = i
    · subst hji
      rw [upd_same] at e
      cases e
      have := hs.size
      omega
    · rw [upd_other φ _ hji] at e
      exact hs.own b ⟨j, bl, p, m, hg, hro, e⟩ hb
  · obtain ⟨h1, h2⟩ := hs.virt j hj e
    exact ⟨h1, by rw [upd_other φ _ (by omega)]; exact h2⟩

theorem runD_read {P : Program} {ng : Nat} {φ : Phi} {h h' : AHeap} {w : World} {s : Sem Next} {d : DRes} {v : AV} (hd : DOk P φ s d) (H : HRel ng φ h w) (hr : runD h d = some (v, h')) (hn : ∀ b mk, d ≠ .new b mk) :
    ∃ cv, s.run P w = .ok (.value cv) w ∧ VRel φ v cv := by
  cases d with
  | val v' =>
    simp only [runD, Option.some.injEq, Prod.mk.injEq] at hr
    obtain ⟨rfl, rfl⟩ := hr
    obtain ⟨cv, h1, h2⟩ := hd
    exact ⟨cv, h1 w, h2⟩
  | read i o n f =>
    simp only [runD] at hr
    split at hr
    · rename_i cs hcs
      split at hr
      · rename_i v' hv
        simp only [Option.some.injEq, Prod.mk.injEq] at hr
        obtain ⟨rfl, rfl⟩ := hr
        obtain ⟨hun, hd⟩ := hd
        have hg : ∃ blk, h.get i = some blk := by
          unfold AHeap.cellsAt at hcs
          cases hg : h.get i with
          | none => rw [hg] at hcs; cases hcs
          | some blk => exact ⟨blk, rfl⟩
        obtain ⟨blk, hg⟩ := hg
        obtain ⟨b, p, m, hφ, _⟩ := at_of H hg hun
        obtain ⟨vs, t, fz, h1, h2, h3, h4⟩ := loads_of H hcs hφ
        obtain ⟨cv, h5, h6⟩ := hd b p m vs t fz w hφ h1 h2 h4 cs h3 v' hv
        exact ⟨cv, h5, h6⟩
      · cases hr
    · cases hr
  | readT i o ts v' =>
    simp only [runD] at hr
    split at hr
    · rename_i m c t ro hg
      rw [T.ifB_eq] at hr
      split at hr
      · rename_i hc
        simp only [Option.some.injEq, Prod.mk.injEq] at hr
        obtain ⟨rfl, rfl⟩ := hr
        obtain ⟨hun, hd⟩ := hd
        simp only [Bool.and_eq_true, ble_iff, Bool.not_eq_true', List.any_eq_true, beq_iff] at hc
        obtain ⟨h1, h2, q, hq, hq1, hq2⟩ := hc
        obtain ⟨b, p, n, hφ, vs, u, fz, hb1, hb2, hb3, hb4, hb5, hb6⟩ := at_of H hg hun
        obtain ⟨rfl, rfl⟩ := hb6 (nat_beq_false h2)
        obtain ⟨cv, h5, h6⟩ := hd b n vs u q.2 fz w hφ hb1 (by omega) (by simp only [Nat.succ_eq_add_one] at h1; omega) (by rw [← hq1]; exact hq) (by omega)
        exact ⟨cv, h5, h6⟩
      · cases hr
    · cases hr
  | readMap i f =>
    simp only [runD] at hr
    split at hr
    · rename_i es clock hg
      split at hr
      · rename_i v' hv
        simp only [Option.some.injEq, Prod.mk.injEq] at hr
        obtain ⟨rfl, rfl⟩ := hr
        obtain ⟨hun, hd⟩ := hd
        obtain ⟨b, p, n, hφ, ces, hb1, hb2⟩ := at_of H hg hun
        obtain ⟨cv, h5, h6⟩ := hd b p n ces clock w hφ hb1 es hb2 v' hv
        exact ⟨cv, h5, h6⟩
      · cases hr
    · cases hr
  | readX i id sc off n f =>
    simp only [runD] at hr
    split at hr
    · rename_i cs hcs
      split at hr
      · rename_i v' hv
        simp only [Option.some.injEq, Prod.mk.injEq] at hr
        obtain ⟨rfl, rfl⟩ := hr
        obtain ⟨⟨hun, h0, hn0⟩, hd⟩ := hd
        have hg : ∃ blk, h.get i = some blk := by
          unfold AHeap.cellsX at hcs
          cases hg : h.get i with
          | none => rw [hg] at hcs; cases hcs
          | some blk => exact ⟨blk, rfl⟩
        obtain ⟨blk, hg⟩ := hg
        obtain ⟨b, p, m, hφ, _⟩ := at_of H hg hun
        obtain ⟨vs, t, fz, h1, h2, h3, h4⟩ := loadsX_of H hcs h0 hφ hn0
        obtain ⟨cv, h5, h6⟩ := hd b p m vs t fz w hφ h1 h2 h4 cs h3 v' hv
        exact ⟨cv, h5, h6⟩
      · cases hr
    · cases hr
  | new b mk => exact absurd rfl (hn b mk)
  | bad => simp [runD] at hr

/-! ### Operands and guards, told only of the places that are looked at -/

theorem opsOk_at {P : Program} {φ : Phi} {c : Ctx} {e : Env} {r : Regs} {a : Act} {l : List Operand} (hg : ∀ g, g < P.globals.size → PtrOk φ g 0 ⟨g, 0, none⟩)
    (h : ∀ t, .tmp t ∈ l → VRel φ (match locOf t c 0 with | some k => locAt e k | none => r.val t) (a.tmps.getD t undef)) : OpsOk P φ c e r (· ∈ l) a.eval := by
  intro x y hS hx
  cases x with
  | tmp t =>
    have ht := h t hS
    simp only [cOpd] at hx
    cases hl : locOf t c 0 with
    | some k => rw [hl] at hx ht; cases hx; simpa [Act.eval] using ht
    | none => rw [hl] at hx ht; cases hx; simpa [Act.eval] using ht
  | const v =>
    simp only [cOpd] at hx
    cases hv : ofValue v with
    | none => rw [hv] at hx; cases hx
    | some av => rw [hv] at hx; cases hx; exact ofValue_rel v av hv
  | global g =>
    simp only [cOpd] at hx
    split at hx
    · rename_i hlt
      cases hx
      exact ⟨_, rfl, hg g hlt⟩
    · cases hx
  | func f =>
    simp only [cOpd] at hx
    cases hx
    exact ⟨#[], #[], rfl, rfl, rfl⟩

theorem guard_at {P : Program} {φ : Phi} {c : Ctx} {e : Env} {r : Regs} {a : Act} {ops : Array Oper} {o : Oper} {g : Option (Opd × Bool)}
    (h : ∀ t, t ∈ usesOf ops o → VRel φ (match locOf t c 0 with | some k => locAt e k | none => r.val t) (a.tmps.getD t undef))
    (hg : cGuard P ops c o.guard = some g) : GuardOk ops o a.tmps e r g := by
  cases hgu : o.guard with
  | none => rw [hgu] at hg; cases hg; simp [GuardOk, Region.wanted, hgu]
  | some q =>
    obtain ⟨j, want⟩ := q
    rw [hgu] at hg
    simp only [cGuard, Option.bind_eq_some_iff, Option.map_eq_some_iff] at hg
    obtain ⟨t, ⟨oj, ho1, ho2⟩, x, hx, rfl⟩ := hg
    intro b hb
    simp only [Region.wanted, hgu]
    have hv : VRel φ (x.ev e r) (a.tmps.getD t undef) := by
      have := h t (by unfold usesOf; rw [hgu]; simp [ho1, ho2])
      simp only [cOpd] at hx
      cases hl : locOf t c 0 with
      | none => rw [hl] at hx this; cases hx; simpa using this
      | some k => rw [hl] at hx this; cases hx; simpa using this
    have hy : yielded ops a.tmps j = (match a.tmps[t]? with | some (.bool b) => some b | _ => none) := by
      simp only [yielded, ho1, Option.bind_some, ho2]
      rfl
    unfold guardMet at hb
    split at hb
    · rename_i b' ex
      rw [ex] at hv
      simp only [VRel] at hv
      simp only [Option.some.injEq] at hb
      have ht : a.tmps[t]? = some (.bool b') := by
        rw [Array.getD_eq_getD_getElem?] at hv
        cases hq : a.tmps[t]? with
        | none => rw [hq] at hv; cases hv
        | some v => rw [hq] at hv; simp at hv; rw [hv]
      rw [hy, ht, ← hb]
      cases b' <;> cases want <;> rfl
    · rename_i ex
      rw [ex] at hv
      obtain ⟨vs, hvs, hvn⟩ := hv
      simp only [Option.some.injEq] at hb
      subst hb
      have ht : yielded ops a.tmps j = none := by
        rw [hy]
        rw [Array.getD_eq_getD_getElem?] at hvs
        cases hq : a.tmps[t]? with
        | none => rfl
        | some v => rw [hq] at hvs; simp at hvs; rw [hvs]
      rw [ht]; rfl
    · cases hb

theorem cOper_spec {P : Program} {F : Frm} {ops : Array Oper} {c : Ctx} {o : Oper} {ao : AOper} (h : cOper P F ops c o = some ao) :
    (∀ t : Nat, o.dst = some t → t < F.ntmps) ∧ ao.dst = o.dst.filter (isLive F.np F.live) ∧ cGuard P ops c o.guard = some ao.guard ∧ cOpM P c o.op = some ao.op := by
  unfold cOper at h
  by_cases hd : dstOk F.ntmps o.dst = true
  · rw [if_pos hd] at h
    simp only [Option.bind_eq_some_iff, Option.map_eq_some_iff] at h
    obtain ⟨g, hg, op, hop, rfl⟩ := h
    refine ⟨?_, rfl, hg, hop⟩
    intro d hde
    rw [hde] at hd
    exact blt_iff.1 hd
  · rw [if_neg hd] at h; cases h

/-! ### One operation, in any order -/

section
variable {P : Program} {ng : Nat} {ops : Array Oper} {Q : Exit → Act → World → Prop} {K : Act → World → Prop}

theorem wpOp_upon {i : Nat} {o : Oper} {a : Act} {w : World} (ho : ops[i]? = some o) (hw : Region.wanted o (yielded ops a.tmps) = true) {r : Result Next} (hr : (execOp a.eval o).run P w = r)
    (h : o.upon P a K Q r) : wpOp P ops Q i K a w := by
  unfold wpOp
  simp only [ho, hw, if_true]
  left
  unfold Oper.wp
  rw [hr]; exact h

theorem wpOp_skip {i : Nat} {o : Oper} {a : Act} {w : World} (ho : ops[i]? = some o) (hw : Region.wanted o (yielded ops a.tmps) = false) (h : K (a.put o.dst undef) w) : wpOp P ops Q i K a w := by
  unfold wpOp
  simp only [ho, hw]
  exact h

/-- An operation that writes nothing. -/
theorem actD (hP : P.globals.size = ng) {F : Frm} {c : Ctx} {e : Env} {r : Regs} {φ : Phi} {h : AHeap} {a : Act} {w : World} (H : HRel ng φ h w) {i : Nat} {o : Oper} (ho : ops[i]? = some o) {ao : AOper} (hao : cOper P F ops c o = some ao) (hd : isW ao = false)
    (hat : ∀ t, t ∈ usesOf ops o → VRel φ (match locOf t c 0 with | some k => locAt e k | none => r.val t) (a.tmps.getD t undef))
    (hread : (∀ b mk, effD ao e r ≠ .new b mk) → ∃ v h', runD h (effD ao e r) = some (v, h') ∧ ∀ cv, VRel φ v cv → K (a.put o.dst cv) w)
    (hnew : ∀ b mk, effD ao e r = .new b mk → ∀ (ob : Obj) (n : Nat) (cv : Value), (∀ φ', Ext φ φ' → BRel φ' b w.heap.size 0 n (w.alloc ob)) → (∀ φ' i, φ' i = .at w.heap.size 0 n → VRel φ' (mk i) cv) → K (a.put o.dst cv) (w.alloc ob)) :
    wpOp P ops Q i K a w := by
  obtain ⟨_, _, hg, hop⟩ := cOper_spec hao
  have hgok := guard_at hat hg
  have hglob : ∀ g, g < P.globals.size → PtrOk φ g 0 ⟨g, 0, none⟩ := fun g hg => H.glob g (hP ▸ hg)
  have hops : OpsOk P φ c e r (· ∈ o.op.operands.toList) a.eval := opsOk_at hglob fun t ht => hat t (by
    unfold usesOf tmpsOf
    exact List.mem_append_left _ (List.mem_filterMap.2 ⟨.tmp t, ht, rfl⟩))
  have hbase : DOk P φ (execOp a.eval o) (baseD ao.op e r) := by
    unfold isW at hd
    cases hao : ao.op with
    | w f => rw [hao] at hd; cases hd
    | d f =>
      rw [hao] at hop
      exact cOp_d (fun v => rfl) hops (fun x hx => hx) (cOpM_d hop)
    | mov x =>
      rw [hao] at hop
      obtain ⟨y, hy, hyo⟩ := cOpM_mov hop
      have hv : VRel φ (x.ev e r) (a.eval y) := hops y x (by rcases hy with hy | hy <;> simp [hy, Op.operands]) hyo
      refine ⟨a.eval y, fun w => ?_, hv⟩
      rcases hy with hy | hy <;> simp [execOp, hy]
  have met : Region.wanted o (yielded ops a.tmps) = true → effD ao e r = baseD ao.op e r → wpOp P ops Q i K a w := by
    intro hw he
    rw [he] at hread hnew
    cases hb : baseD ao.op e r with
    | new b mk =>
      rw [hb] at hbase
      obtain ⟨ob, n, cv, h1, h2, h3⟩ := hbase w
      refine wpOp_upon ho hw h1 ?_
      exact hnew b mk hb ob n cv h2 h3
    | _ =>
      obtain ⟨v, h', hr, hk⟩ := hread (by rw [hb]; intro b mk hh; cases hh)
      obtain ⟨cv, h1, h2⟩ := runD_read hbase H hr (by rw [hb]; intro b mk hh; cases hh)
      refine wpOp_upon ho hw h1 ?_
      exact hk cv h2
  cases hgu : ao.guard with
  | none =>
    rw [hgu] at hgok
    exact met hgok (by unfold effD; rw [hgu])
  | some q =>
    obtain ⟨x, want⟩ := q
    rw [hgu] at hgok
    cases hm : guardMet (x.ev e r) want with
    | none =>
      exfalso
      obtain ⟨v, h', hr, _⟩ := hread (by unfold effD; rw [hgu]; simp [hm])
      unfold effD at hr
      rw [hgu] at hr
      simp [hm, runD] at hr
    | some b =>
      have hw := hgok b hm
      cases b with
      | true => exact met hw (by unfold effD; rw [hgu]; simp [hm])
      | false =>
        refine wpOp_skip ho hw ?_
        have he : effD ao e r = .val .undef := by unfold effD; rw [hgu]; simp [hm]
        obtain ⟨v, h', hr, hk⟩ := hread (by rw [he]; intro b mk hh; cases hh)
        rw [he] at hr
        simp only [runD, Option.some.injEq, Prod.mk.injEq] at hr
        obtain ⟨rfl, _⟩ := hr
        exact hk undef VRel.undef

/-- An operation that writes. -/
theorem actW (hP : P.globals.size = ng) {R : Runner} (hR : CallOk P ng R) {F : Frm} {c : Ctx} {e : Env} {s : St} {φ : Phi} {a : Act} {w : World} (H : HRel ng φ s.heap w) (hb : s.below = none) (hdf : DRels φ s.defers a.defers) {i : Nat} {o : Oper} (ho : ops[i]? = some o) {ao : AOper} (hao : cOper P F ops c o = some ao) (hd : isW ao = true)
    (hat : ∀ t, t ∈ usesOf ops o → VRel φ (match locOf t c 0 with | some k => locAt e k | none => s.regs.val t) (a.tmps.getD t undef))
    (hon : ∀ v s', (operFn ao).run R e s = .on v s' → ∀ (φ' : Phi) (cv : Value) (a' : Act) (w' : World), HRel ng φ' s'.heap w' → Stp φ s.heap w φ' s'.heap w' → VRel φ' v cv → a'.tmps = a.tmps → DRels φ' s'.defers a'.defers → K (a'.put o.dst cv) w')
    (hout : ∀ x s', (operFn ao).run R e s = .out x s' → ∀ (φ' : Phi) (ex : Exit) (w' : World), HRel ng φ' s'.heap w' → Stp φ s.heap w φ' s'.heap w' → ExRel φ' x ex → s'.regs = s.regs → s'.defers = s.defers → Q ex a w')
    (hlost : (operFn ao).run R e s ≠ .lost) : wpOp P ops Q i K a w := by
  obtain ⟨_, _, hg, hop⟩ := cOper_spec hao
  have hgok := guard_at hat hg
  have hglob : ∀ g, g < P.globals.size → PtrOk φ g 0 ⟨g, 0, none⟩ := fun g hg => H.glob g (hP ▸ hg)
  have hops : OpsOk P φ c e s.regs (· ∈ o.op.operands.toList) a.eval := opsOk_at hglob fun t ht => hat t (by
    unfold usesOf tmpsOf
    exact List.mem_append_left _ (List.mem_filterMap.2 ⟨.tmp t, ht, rfl⟩))
  have dst_on : ∀ (f : OpFn) v s', f.run R e s = .on v s' → (dstFn ao.dst f).run R e s = .on v ⟨match ao.dst with | some d => (putFn (Nat.succ d) d).run v s'.regs | none => s'.regs, s'.heap, s'.defers, s'.below⟩ := by
    intro f v s' hf
    unfold dstFn
    cases ao.dst <;> simp only [hf]
  have dst_out : ∀ (f : OpFn) x s', f.run R e s = .out x s' → (dstFn ao.dst f).run R e s = .out x s' := by
    intro f x s' hf
    unfold dstFn
    cases ao.dst <;> simp only [hf]
  have dst_lost : ∀ (f : OpFn), f.run R e s = .lost → (dstFn ao.dst f).run R e s = .lost := by
    intro f hf
    unfold dstFn
    cases ao.dst <;> simp only [hf]
  have met : Region.wanted o (yielded ops a.tmps) = true → (guardFn ao.guard (opFn ao.op)).run R e s = (opFn ao.op).run R e s → wpOp P ops Q i K a w := by
    intro hw hge
    have hon' : ∀ v s', (opFn ao.op).run R e s = .on v s' → ∀ (φ' : Phi) (cv : Value) (a' : Act) (w' : World), HRel ng φ' s'.heap w' → Stp φ s.heap w φ' s'.heap w' → VRel φ' v cv → a'.tmps = a.tmps → DRels φ' s'.defers a'.defers → K (a'.put o.dst cv) w' :=
      fun v s' h φ' cv a' w' h1 h2 h3 h4 h5 => hon v _ (dst_on _ v s' (hge.trans h)) φ' cv a' w' h1 h2 h3 h4 h5
    have hout' : ∀ x s', (opFn ao.op).run R e s = .out x s' → ∀ (φ' : Phi) (ex : Exit) (w' : World), HRel ng φ' s'.heap w' → Stp φ s.heap w φ' s'.heap w' → ExRel φ' x ex → s'.regs = s.regs → s'.defers = s.defers → Q ex a w' :=
      fun x s' h => hout x s' (dst_out _ x s' (hge.trans h))
    have hlost' : (opFn ao.op).run R e s ≠ .lost := fun h => hlost (dst_lost _ (hge.trans h))
    unfold isW at hd
    cases haw : ao.op with
    | mov x => rw [haw] at hd; cases hd
    | d f => rw [haw] at hd; cases hd
    | w f =>
      rw [haw] at hop hon' hout' hlost'
      have hwok := cOp_w H hops (fun x hx => hx) (cOpM_w hop)
      have hgo : (opFn (.w f)).run R e s = wentW R (f.f e s.regs s.heap) s := rfl
      rw [hgo] at hlost'
      cases hx : f.f e s.regs s.heap with
      | ok v h' =>
        rw [hx] at hwok
        obtain ⟨nx, w', φ', h1, h2, h3, h4⟩ := hwok
        have hg2 : (opFn (.w f)).run R e s = .on v ⟨s.regs, h', s.defers, s.below⟩ := by rw [hgo, hx]; rfl
        rcases h2 with ⟨cv, rfl, hv⟩ | ⟨rfl, hv⟩
        · refine wpOp_upon ho hw h1 ?_
          exact hon' v _ hg2 φ' cv a w' h3 h4 hv rfl (hdf.mono h4.ext)
        · refine wpOp_upon ho hw h1 ?_
          exact hon' v _ hg2 φ' Go.undef a w' h3 h4 hv rfl (hdf.mono h4.ext)
      | enter fid args =>
        rw [hx] at hwok hlost'
        cases hcall : R.call fid args s.heap with
        | none => simp [wentW, hcall] at hlost'
        | some q =>
          obtain ⟨en, h'⟩ := q
          obtain ⟨hcb, hcalls⟩ := hR _ _ _ _ _ hcall
          obtain ⟨cargs, h1, h2⟩ := hwok hcb
          refine wpOp_upon ho hw h1 ?_
          simp only [Oper.upon]
          refine (hcalls φ w cargs H h2).mono fun ee w' hee => ?_
          obtain ⟨φ', h3, h4, h5⟩ := hee
          cases en with
          | returned v =>
            cases ee with
            | returned cv =>
              have hg2 : (opFn (.w f)).run R e s = .on v ⟨s.regs, h', s.defers, s.below⟩ := by rw [hgo, hx]; simp [wentW, hcall]
              exact hon' v _ hg2 φ' cv a w' h3 h4 h5 rfl (hdf.mono h4.ext)
            | panicked _ => exact h5.elim
            | outgrown => exact h5.elim
          | panicked ch =>
            cases ee with
            | returned _ => exact h5.elim
            | outgrown => exact h5.elim
            | panicked cch =>
              have hg2 : (opFn (.w f)).run R e s = .out (.panic ch) ⟨s.regs, h', s.defers, s.below⟩ := by rw [hgo, hx]; simp [wentW, hcall]
              exact hout' _ _ hg2 φ' (.panic cch) w' h3 h4 h5 rfl rfl
      | defer d =>
        rw [hx] at hwok
        obtain ⟨cd, h1, h2⟩ := hwok
        have hg2 : (opFn (.w f)).run R e s = .on .undef ⟨s.regs, s.heap, d :: s.defers, s.below⟩ := by rw [hgo, hx]; rfl
        refine wpOp_upon ho hw h1 ?_
        exact hon' _ _ hg2 φ Go.undef { a with defers := cd :: a.defers } w H (Stp.refl _ _ _) VRel.undef rfl ⟨cd, a.defers, rfl, h2, hdf⟩
      | panic v =>
        rw [hx] at hwok
        obtain ⟨cv, h1, h2⟩ := hwok
        have hg2 : (opFn (.w f)).run R e s = .out (.panic [(v, false)]) s := by rw [hgo, hx]; rfl
        refine wpOp_upon ho hw h1 ?_
        exact hout' _ _ hg2 φ (.panic [{ v := cv, recovered := false }]) w H (Stp.refl _ _ _) ⟨cv, [], rfl, h2, rfl⟩ rfl rfl
      | recover =>
        exfalso
        rw [hx] at hlost'
        simp [wentW, hb] at hlost'
      | bad => rw [hx] at hlost'; simp [wentW] at hlost'
  cases hgu : ao.guard with
  | none =>
    rw [hgu] at hgok
    exact met hgok (by rw [hgu]; rfl)
  | some q =>
    obtain ⟨x, want⟩ := q
    rw [hgu] at hgok
    cases hm : guardMet (x.ev e s.regs) want with
    | none =>
      exfalso
      refine hlost (dst_lost _ ?_)
      rw [hgu]
      simp only [guardFn, hm]
    | some b =>
      have hw := hgok b hm
      cases b with
      | true => exact met hw (by rw [hgu]; simp only [guardFn, hm])
      | false =>
        refine wpOp_skip ho hw ?_
        have : (guardFn ao.guard (opFn ao.op)).run R e s = .on .undef s := by rw [hgu]; simp only [guardFn, hm]
        exact hon .undef _ (dst_on _ .undef s this) φ undef a w H (Stp.refl _ _ _) VRel.undef rfl hdf

end
end Go.Abs

/- The abstract machine: regions that draw their order. The invariant, and the law. -/
namespace Go.Abs
variable [Fct] [Val]

structure DS (P : Program) (F : Frm) (ops : Array Oper) (R : Runner) (anc : List (List Nat)) (items : List DItem) (d : Nat → Option Nat) (s0 : St) (x : AEx) (s' : St) (n : Nat) (S : Nat → St) (v : Nat → AV) (L : List Look) (HS : List AHeap) : Prop where
  it : ∀ p it, items[p]? = some it → ∃ o, ops[it.1]? = some o ∧ d p = o.dst ∧ cOper P F ops (ctxQ d [] p) o = some it.2.1
  hA : checkAnc anc ops = true
  hAp : apartAll anc ops = true
  hO : checkOrder anc ops.size items [] = true
  hW : checkW anc items 0 none = true
  hH : checkHi anc (writersOf items) items = true
  tr : Tr R (items.map (·.2)) [] s0 0 x s' n S v L HS
  below : s0.below = none

section
variable {P : Program} {ng : Nat} {F : Frm} {ops : Array Oper} {R : Runner} {anc : List (List Nat)} {items : List DItem} {d : Nat → Option Nat} {s0 : St} {x : AEx} {s' : St} {n : Nat} {S : Nat → St} {v : Nat → AV} {L : List Look} {HS : List AHeap}

theorem map_get {items : List DItem} {p : Nat} {it : DItem} (h : items[p]? = some it) : (items.map (·.2))[p]? = some it.2 := by rw [List.getElem?_map, h]; rfl

theorem DS.onAt (D : DS P F ops R anc items d s0 x s' n S v L HS) {p : Nat} (hp : p < n) {it : DItem} (hit : items[p]? = some it) : (operFn it.2.1).run R (envQ v [] p) (S p) = .on (v p) (S (p + 1)) :=
  D.tr.on p it.2 hp (map_get hit)

theorem DS.get (D : DS P F ops R anc items d s0 x s' n S v L HS) {p : Nat} (hp : p < n) : ∃ it, items[p]? = some it := by
  have := D.tr.le
  rw [List.length_map] at this
  exact ⟨items[p], List.getElem?_eq_getElem (by omega)⟩

theorem DS.inj (D : DS P F ops R anc items d s0 x s' n S v L HS) {p q : Nat} {ip iq : DItem} (hp : items[p]? = some ip) (hq : items[q]? = some iq) (h : ip.1 = iq.1) : p = q := by
  by_cases hne : p = q
  · exact hne
  · exact absurd h ((checkOrder_spec anc _ items [] D.hO).2.1 p q ip iq hp hq hne)

theorem DS.ahead (D : DS P F ops R anc items d s0 x s' n S v L HS) {p : Nat} {it : DItem} (hp : items[p]? = some it) {y : Nat} (hy : y ∈ ancQ anc it.1) : ∃ (q : Nat) (iq : DItem), q < p ∧ items[q]? = some iq ∧ iq.1 = y := by
  rcases ((checkOrder_spec anc _ items [] D.hO).1 p it hp).2.2 y hy with h | h
  · simp at h
  · exact h

theorem DS.all (D : DS P F ops R anc items d s0 x s' n S v L HS) {i : Nat} (hi : i < ops.size) : ∃ (p : Nat) (ip : DItem), items[p]? = some ip ∧ ip.1 = i := by
  rcases (checkOrder_spec anc _ items [] D.hO).2.2 i hi with h | h
  · simp at h
  · exact h

/-! #### What stands ahead is done -/

def Closed (ops : Array Oper) (X : Nat → Prop) : Prop := ∀ i o, ops[i]? = some o → X i → ∀ j ∈ bindsOf o, X j

theorem DS.anc_in (D : DS P F ops R anc items d s0 x s' n S v L HS) {X : Nat → Prop} (hc : Closed ops X) : ∀ (p : Nat) (it : DItem) (o : Oper), items[p]? = some it → ops[it.1]? = some o → (∀ j ∈ bindsOf o, X j) → ∀ y ∈ ancQ anc it.1, X y := by
  intro p
  induction p using Nat.strongRecOn with
  | ind p ih =>
    intro it o hp ho hb y hy
    obtain ⟨h1, h2⟩ := checkAnc_spec D.hA ho
    obtain ⟨j, hj, hyj⟩ := h2 y hy
    rcases hyj with rfl | hyj
    · exact hb y hj
    · obtain ⟨q, iq, hq, hq1, rfl⟩ := D.ahead hp (h1 j hj).1
      obtain ⟨oq, hoq, _, _⟩ := D.it q iq hq1
      exact ih q hq iq oq hq1 hoq (hc _ _ hoq (hb _ hj)) y hyj

theorem DS.W_in (D : DS P F ops R anc items d s0 x s' n S v L HS) {X : Nat → Prop} (hc : Closed ops X) : ∀ (p : Nat) (it : DItem), items[p]? = some it → (∀ y ∈ ancQ anc it.1, X y) → ∀ (q : Nat) (iq : DItem), items[q]? = some iq → q < p → isW iq.2.1 = true → X iq.1 := by
  intro p
  induction p using Nat.strongRecOn with
  | ind p ih =>
    intro it hp hX q iq hq hqp hw
    obtain ⟨u, iu, h1, h2, h3, h4, h5⟩ := checkW_spec anc items 0 none D.hW p it q iq hp hq hqp hw
    by_cases he : q = u
    · subst he
      rw [hq] at h3; cases h3
      exact hX _ h5
    · obtain ⟨ou, hou, _, _⟩ := D.it u iu h3
      exact ih u h2 iu h3 (D.anc_in hc u iu ou h3 hou (hc _ _ hou (hX _ h5))) q iq hq (by omega) hw

/-! #### Places of the frame -/

theorem locOf_ctxQ (d : Nat → Option Nat) (v : Nat → AV) (t : Nat) : ∀ p, match locOf t (ctxQ d [] p) 0 with
    | none => ∀ q, q < p → d q ≠ some t
    | some k => ∃ q, q < p ∧ d q = some t ∧ locAt (envQ v [] p) k = v q
  | 0 => by simp [ctxQ, locOf]
  | p + 1 => by
    have ih := locOf_ctxQ d v t p
    simp only [ctxQ]
    rw [locOf_cons]
    by_cases hd : d p = some t
    · rw [hd]
      simp only [beq_self_eq_true, if_true]
      exact ⟨p, by omega, hd, rfl⟩
    · have hne : (d p == some t) = false := by simpa using hd
      rw [hne]
      simp only [Bool.false_eq_true, if_false]
      cases hl : locOf t (ctxQ d [] p) 0 with
      | none =>
        rw [hl] at ih
        simp only [Option.map_none]
        intro q hq
        by_cases hqp : q = p
        · subst hqp; exact hd
        · exact ih q (by omega)
      | some k =>
        rw [hl] at ih
        obtain ⟨q, h1, h2, h3⟩ := ih
        simp only [Option.map_some]
        exact ⟨q, by omega, h2, by simp only [envQ]; rw [locAt_succ]; exact h3⟩

theorem DS.dst_ne (D : DS P F ops R anc items d s0 x s' n S v L HS) {p q : Nat} {ip iq : DItem} (hp : items[p]? = some ip) (hq : items[q]? = some iq) (hne : p ≠ q) {t : Nat} (h : d p = some t) : d q ≠ some t := by
  obtain ⟨op, hop, hdp, _⟩ := D.it p ip hp
  obtain ⟨oq, hoq, hdq, _⟩ := D.it q iq hq
  rw [hdq]
  rw [hdp] at h
  exact (apart_spec D.hAp hoq hop (fun e => hne (D.inj hp hq e)) h).1

theorem DS.below_at (D : DS P F ops R anc items d s0 x s' n S v L HS) : ∀ p, p ≤ n → (S p).below = none
  | 0, _ => by rw [D.tr.zero]; exact D.below
  | p + 1, hp => by
    obtain ⟨it, hit⟩ := D.get (p := p) (by omega)
    exact below_on (D.onAt (by omega) hit) (D.below_at p (by omega))

theorem DS.regs (D : DS P F ops R anc items d s0 x s' n S v L HS) : ∀ p, p ≤ n → ∀ t,
    ((∀ q, q < p → d q ≠ some t) → (S p).regs.val t = s0.regs.val t) ∧ (isLive F.np F.live t = false → (S p).regs.val t = s0.regs.val t) ∧
    (∀ q, q < p → d q = some t → isLive F.np F.live t = true → (S p).regs.val t = v q)
  | 0, _, t => by rw [D.tr.zero]; exact ⟨fun _ => rfl, fun _ => rfl, fun q hq => by omega⟩
  | p + 1, hp, t => by
    obtain ⟨it, hit⟩ := D.get (p := p) (by omega)
    obtain ⟨o, ho, hdo, hao⟩ := D.it p it hit
    obtain ⟨_, hdst, _, _⟩ := cOper_spec hao
    obtain ⟨i1, i2, i3⟩ := D.regs p (by omega) t
    have hv := regs_on (D.onAt (p := p) (by omega) hit) t
    have hdt : it.2.1.dst = some t ↔ d p = some t ∧ isLive F.np F.live t = true := by
      rw [hdst, hdo]
      cases hd : o.dst with
      | none => simp
      | some t' =>
        simp only [Option.filter]
        by_cases hl : isLive F.np F.live t' = true
        · rw [if_pos hl]
          constructor
          · intro h; cases h; exact ⟨rfl, hl⟩
          · rintro ⟨h, _⟩; exact h
        · rw [if_neg hl]
          constructor
          · intro h; cases h
          · rintro ⟨h, h2⟩; cases h; exact absurd h2 hl
    refine ⟨fun h => ?_, fun h => ?_, fun q hq hdq hl => ?_⟩
    · rw [hv, if_neg (by rw [hdt]; rintro ⟨h1, _⟩; exact h p (by omega) h1)]
      exact i1 fun q hq => h q (by omega)
    · rw [hv, if_neg (by rw [hdt]; rintro ⟨_, h1⟩; rw [h] at h1; cases h1)]
      exact i2 h
    · by_cases hqp : q = p
      · subst hqp
        rw [hv, if_pos (hdt.2 ⟨hdq, hl⟩)]
      · obtain ⟨iq, hiq⟩ := D.get (p := q) (by omega)
        rw [hv, if_neg (by rw [hdt]; rintro ⟨h1, _⟩; exact D.dst_ne hiq hit hqp hdq h1)]
        exact i3 q (by omega) hdq hl

/-! ### The invariant -/

structure Inv0 (ng : Nat) (ops : Array Oper) (items : List DItem) (d : Nat → Option Nat) (s0 : St) (n : Nat) (S : Nat → St) (v : Nat → AV) (φ₀ : Phi) (w₀ : World) (a₀ : Act) (m : Nat) (X : Nat → Prop) (φ : Phi) (a : Act) (w : World) : Prop where
  le : m ≤ n
  xlt : ∀ p it, items[p]? = some it → X it.1 → p < m
  xw : ∀ p it, p < m → items[p]? = some it → isW it.2.1 = true → X it.1
  closed : Closed ops X
  heap : HRel ng φ (S m).heap w
  stp : Stp φ₀ s0.heap w₀ φ (S m).heap w
  vals : ∀ p it, items[p]? = some it → X it.1 → ∀ t, d p = some t → VRel φ (v p) (a.tmps.getD t undef)
  rest : ∀ t, (∀ p it, items[p]? = some it → X it.1 → d p ≠ some t) → a.tmps.getD t undef = a₀.tmps.getD t undef
  virt : ∀ p it, p < m → items[p]? = some it → isW it.2.1 = false → ¬ X it.1 → ∀ b mk, effD it.2.1 (envQ v [] p) (S p).regs = .new b mk → φ (S p).heap.next = .un ∧ (S m).heap.get (S p).heap.next = some b
  nexts : ∀ p q, p ≤ q → q ≤ m → (S p).heap.next ≤ (S q).heap.next
  defers : DRels φ (S m).defers a.defers
  size : a.tmps.size = a₀.tmps.size

section
variable {φ₀ : Phi} {w₀ : World} {a₀ : Act} {m : Nat} {X : Nat → Prop} {φ : Phi} {a : Act} {w : World}

theorem DS.lenLt (D : DS P F ops R anc items d s0 x s' n S v L HS) {m : Nat} (hm : m ≤ n) {it : DItem} (hit : items[m]? = some it) (hd : isW it.2.1 = false) : m < n := by
  rcases D.tr.fin with ⟨h1, _, _⟩ | ⟨it', h1, h2, _⟩
  · rw [List.length_map] at h1
    have := (List.getElem?_eq_some_iff.1 hit).1
    omega
  · by_cases he : m = n
    · subst he
      rw [map_get hit] at h1; cases h1
      rw [hd] at h2; cases h2
    · omega

/-- What an operation that writes nothing does to the heap of the one run. -/
theorem DS.heapD (D : DS P F ops R anc items d s0 x s' n S v L HS) {p : Nat} (hp : p < n) {it : DItem} (hit : items[p]? = some it) (hd : isW it.2.1 = false) :
    runD (S p).heap (effD it.2.1 (envQ v [] p) (S p).regs) = some (v p, (S (p + 1)).heap) ∧ (S (p + 1)).defers = (S p).defers ∧
    (((∀ b mk, effD it.2.1 (envQ v [] p) (S p).regs ≠ .new b mk) ∧ (S (p + 1)).heap = (S p).heap) ∨ ∃ b mk, effD it.2.1 (envQ v [] p) (S p).regs = .new b mk ∧ (S (p + 1)).heap = (S p).heap.new b ∧ v p = mk (S p).heap.next) := by
  obtain ⟨h1, h2, _, _⟩ := stepD hd (D.onAt hp hit)
  refine ⟨h1, h2, ?_⟩
  generalize effD it.2.1 (envQ v [] p) (S p).regs = dr at h1
  cases dr with
  | new b mk =>
    simp only [runD, Option.some.injEq, Prod.mk.injEq] at h1
    exact .inr ⟨b, mk, rfl, h1.2.symm, h1.1.symm⟩
  | val _ => simp only [runD, Option.some.injEq, Prod.mk.injEq] at h1; exact .inl ⟨by simp, h1.2.symm⟩
  | read i o n f =>
    refine .inl ⟨by simp, ?_⟩
    simp only [runD] at h1
    split at h1
    · split at h1
      · simp only [Option.some.injEq, Prod.mk.injEq] at h1; exact h1.2.symm
      · cases h1
    · cases h1
  | readT i o ts v' =>
    refine .inl ⟨by simp, ?_⟩
    simp only [runD] at h1
    split at h1
    · rw [T.ifB_eq] at h1
      split at h1
      · simp only [Option.some.injEq, Prod.mk.injEq] at h1; exact h1.2.symm
      · cases h1
    · cases h1
  | readMap i f =>
    refine .inl ⟨by simp, ?_⟩
    simp only [runD] at h1
    split at h1
    · split at h1
      · simp only [Option.some.injEq, Prod.mk.injEq] at h1; exact h1.2.symm
      · cases h1
    · cases h1
  | readX i id sc off n f =>
    refine .inl ⟨by simp, ?_⟩
    simp only [runD] at h1
    split at h1
    · split at h1
      · simp only [Option.some.injEq, Prod.mk.injEq] at h1; exact h1.2.symm
      · cases h1
    · cases h1
  | bad => simp [runD] at h1

/-- The one run goes on by an operation that writes nothing: what it makes is not made yet. -/
theorem Inv0.skip (D : DS P F ops R anc items d s0 x s' n S v L HS) (h : Inv0 ng ops items d s0 n S v φ₀ w₀ a₀ m X φ a w) {it : DItem} (hit : items[m]? = some it) (hd : isW it.2.1 = false) :
    Inv0 ng ops items d s0 n S v φ₀ w₀ a₀ (m + 1) X φ a w := by
  have hm := D.lenLt h.le hit hd
  obtain ⟨h1, h2, h3⟩ := D.heapD hm hit hd
  have hnx : ¬ X it.1 := fun hx => by have := h.xlt m it hit hx; omega
  have hle : (S m).heap.next ≤ (S (m + 1)).heap.next := by
    rcases h3 with ⟨_, h3⟩ | ⟨b, mk, _, h3, _⟩ <;> rw [h3] <;> simp
  have hget : ∀ i, i < (S m).heap.next → (S (m + 1)).heap.get i = (S m).heap.get i := by
    intro i hi
    rcases h3 with ⟨_, h3⟩ | ⟨b, mk, _, h3, _⟩ <;> rw [h3]
    rw [AHeap.get_new, if_neg (by omega)]
  refine ⟨hm, fun p ip hp hx => by have := h.xlt p ip hp hx; omega, fun p ip hp hip hw => ?_, h.closed, ?_, ?_, h.vals, h.rest, fun p ip hp hip hdp hx b mk he => ?_, fun p q hpq hq => ?_, by rw [h2]; exact h.defers, h.size⟩
  · by_cases hpm : p = m
    · subst hpm; rw [hit] at hip; cases hip; rw [hd] at hw; cases hw
    · exact h.xw p ip (by omega) hip hw
  · rcases h3 with ⟨_, h3⟩ | ⟨b, mk, _, h3, _⟩ <;> rw [h3]
    · exact h.heap
    · exact h.heap.virt b
  · rcases h3 with ⟨_, h3⟩ | ⟨b, mk, _, h3, _⟩ <;> rw [h3]
    · exact h.stp
    · exact h.stp.trans (Stp.virt_new h.heap b)
  · by_cases hpm : p = m
    · subst hpm
      rw [hit] at hip; cases hip
      rcases h3 with ⟨h3, _⟩ | ⟨b', mk', h3, h4, _⟩
      · exact absurd he (h3 b mk)
      · rw [h3] at he; cases he
        refine ⟨h.heap.fresh _ (Nat.le_refl _), ?_⟩
        rw [h4, AHeap.get_new, if_pos rfl]
    · obtain ⟨k1, k2⟩ := h.virt p ip (by omega) hip hdp hx b mk he
      refine ⟨k1, ?_⟩
      rw [hget _ (h.heap.dom _ _ k2)]; exact k2
  · by_cases hqm : q = m + 1
    · subst hqm
      by_cases hpm : p = m + 1
      · subst hpm; exact Nat.le_refl _
      · exact Nat.le_trans (h.nexts p m (by omega) (Nat.le_refl _)) hle
    · exact h.nexts p q hpq (by omega)

theorem Inv0.adv (D : DS P F ops R anc items d s0 x s' n S v L HS) (φ₀ : Phi) (w₀ : World) (a₀ : Act) (X : Nat → Prop) (φ : Phi) (a : Act) (w : World) : ∀ (k m : Nat), n - m ≤ k → Inv0 ng ops items d s0 n S v φ₀ w₀ a₀ m X φ a w →
    ∃ m', Inv0 ng ops items d s0 n S v φ₀ w₀ a₀ m' X φ a w ∧ ∀ it, items[m']? = some it → isW it.2.1 = true
  | k, m, hk, h => by
    by_cases hd : ∃ it, items[m]? = some it ∧ isW it.2.1 = false
    · obtain ⟨it, hit, hd⟩ := hd
      have hm := D.lenLt h.le hit hd
      cases k with
      | zero => omega
      | succ k => exact Inv0.adv D φ₀ w₀ a₀ X φ a w k (m + 1) (by omega) (h.skip D hit hd)
    · refine ⟨m, h, fun it hit => ?_⟩
      cases hw : isW it.2.1 with
      | true => rfl
      | false => exact absurd ⟨it, hit, hw⟩ hd

/-- What an operation looks at. -/
theorem Inv0.at_ (D : DS P F ops R anc items d s0 x s' n S v L HS) (hs : ∀ t, VRel φ₀ (s0.regs.val t) (a₀.tmps.getD t undef)) (h : Inv0 ng ops items d s0 n S v φ₀ w₀ a₀ m X φ a w) {p : Nat} (hp : p ≤ n) {it : DItem} (hit : items[p]? = some it) {o : Oper} (ho : ops[it.1]? = some o)
    (hX : ¬ X it.1) (hr : ∀ j ∈ bindsOf o, X j) : ∀ t, t ∈ usesOf ops o → VRel φ (match locOf t (ctxQ d [] p) 0 with | some k => locAt (envQ v [] p) k | none => (S p).regs.val t) (a.tmps.getD t undef) := by
  intro t ht
  have hanc := D.anc_in h.closed p it o hit ho hr
  have hl := locOf_ctxQ d v t p
  cases hloc : locOf t (ctxQ d [] p) 0 with
  | some k =>
    rw [hloc] at hl
    obtain ⟨q, hq, hdq, hv⟩ := hl
    simp only
    rw [hv]
    obtain ⟨iq, hiq⟩ := D.get (p := q) (by omega)
    obtain ⟨oq, hoq, hdoq, _⟩ := D.it q iq hiq
    have hne : iq.1 ≠ it.1 := fun e => by have := D.inj hiq hit e; omega
    have hXq : X iq.1 := by
      rcases (apart_spec D.hAp ho hoq hne (by rw [← hdoq]; exact hdq)).2 ht with h1 | h1
      · exact hanc _ h1
      · obtain ⟨u, iu, hu, hu1, hu2⟩ := D.ahead hiq h1
        have := D.inj hu1 hit hu2
        omega
    exact h.vals q iq hiq hXq t hdq
  | none =>
    rw [hloc] at hl
    simp only
    rw [(D.regs p hp t).1 hl]
    rw [h.rest t ?_]
    · exact (hs t).mono h.stp.ext
    · intro q iq hiq hXq hdq
      by_cases hqp : q < p
      · exact hl q hqp hdq
      · obtain ⟨oq, hoq, hdoq, _⟩ := D.it q iq hiq
        have hne : iq.1 ≠ it.1 := fun e => by rw [e] at hXq; exact hX hXq
        rcases (apart_spec D.hAp ho hoq hne (by rw [← hdoq]; exact hdq)).2 ht with h1 | h1
        · obtain ⟨u, iu, hu, hu1, hu2⟩ := D.ahead hit h1
          have := D.inj hu1 hiq hu2
          omega
        · exact hX (D.anc_in h.closed q iq oq hiq hoq (h.closed _ _ hoq hXq) _ h1)

theorem tmps_put {a : Act} {dst : Option Nat} {cv : Value} (hd : ∀ t, dst = some t → t < a.tmps.size) (t : Nat) : (a.put dst cv).tmps.getD t undef = if dst = some t then cv else a.tmps.getD t undef := by
  cases dst with
  | none => simp [Act.put]
  | some e =>
    have hd1 := hd e rfl
    simp only [Act.put, Array.getD_eq_getD_getElem?, Array.getElem?_setIfInBounds]
    by_cases ht : e = t
    · subst ht; simp [hd1]
    · simp [ht]

/-- An operation was done. -/
theorem Inv0.put (D : DS P F ops R anc items d s0 x s' n S v L HS) (hsz : F.ntmps ≤ a₀.tmps.size) (h : Inv0 ng ops items d s0 n S v φ₀ w₀ a₀ m X φ a w) {p : Nat} {it : DItem} (hit : items[p]? = some it) {o : Oper} (ho : ops[it.1]? = some o) (hX : ¬ X it.1) (hr : ∀ j ∈ bindsOf o, X j)
    {m' : Nat} (hm : m ≤ m') (hm' : m' ≤ n) (hp : p < m') (hw' : ∀ q iq, q < m' → items[q]? = some iq → isW iq.2.1 = true → X iq.1 ∨ iq.1 = it.1) {φ' : Phi} {w' : World} {a' : Act} {cv : Value} (hext : Ext φ φ') (hh : HRel ng φ' (S m').heap w') (hst : Stp φ₀ s0.heap w₀ φ' (S m').heap w')
    (hv : VRel φ' (v p) cv) (hat : a'.tmps = a.tmps) (hdf : DRels φ' (S m').defers a'.defers)
    (hvirt : ∀ q iq, q < m' → items[q]? = some iq → isW iq.2.1 = false → ¬ X iq.1 → q ≠ p → ∀ b mk, effD iq.2.1 (envQ v [] q) (S q).regs = .new b mk → φ' (S q).heap.next = .un ∧ (S m').heap.get (S q).heap.next = some b)
    (hnexts : ∀ p q, p ≤ q → q ≤ m' → (S p).heap.next ≤ (S q).heap.next) : Inv0 ng ops items d s0 n S v φ₀ w₀ a₀ m' (fun i => X i ∨ i = it.1) φ' (a'.put o.dst cv) w' := by
  obtain ⟨o', ho', hdo, hao⟩ := D.it p it hit
  rw [ho] at ho'; cases ho'
  obtain ⟨hlt, _, _, _⟩ := cOper_spec hao
  have hsz' : a'.tmps.size = a₀.tmps.size := by rw [hat]; exact h.size
  have hput := fun t => tmps_put (a := a') (dst := o.dst) (cv := cv) (fun t ht => by have := hlt t ht; omega) t
  refine ⟨hm', fun q iq hq hx => ?_, fun q iq hq hiq hw => hw' q iq hq hiq hw, fun i oi hoi hx j hj => ?_, hh, hst, fun q iq hq hx t ht => ?_, fun t ht => ?_, fun q iq hq hiq hd hx b mk he => ?_, hnexts, ?_, ?_⟩
  · rcases hx with hx | hx
    · have := h.xlt q iq hq hx; omega
    · have := D.inj hq hit hx; omega
  · rcases hx with hx | rfl
    · exact .inl (h.closed i oi hoi hx j hj)
    · rw [ho] at hoi; cases hoi
      exact .inl (hr j hj)
  · rw [hput]
    by_cases hqp : q = p
    · subst hqp
      rw [← hdo, if_pos ht]; exact hv
    · rw [← hdo, if_neg (D.dst_ne hq hit hqp ht), hat]
      rcases hx with hx | hx
      · exact (h.vals q iq hq hx t ht).mono hext
      · exact absurd (D.inj hq hit hx) hqp
  · rw [hput, ← hdo, if_neg (ht p it hit (.inr rfl)), hat]
    exact h.rest t fun q iq hq hx => ht q iq hq (.inl hx)
  · exact hvirt q iq hq hiq hd (fun hx' => hx (.inl hx')) (fun e => hx (.inr (by subst e; rw [hit] at hiq; cases hiq; rfl))) b mk he
  · have : (a'.put o.dst cv).defers = a'.defers := by cases o.dst <;> rfl
    rw [this]; exact hdf
  · have : (a'.put o.dst cv).tmps.size = a'.tmps.size := by cases o.dst <;> simp [Act.put]
    rw [this]; exact hsz'

end

/-! ### Steps -/

section
variable {φ₀ : Phi} {w₀ : World} {a₀ : Act} {m : Nat} {X : Nat → Prop} {φ : Phi} {a : Act} {w : World} {Q : Exit → Act → World → Prop} {K : Act → World → Prop}

/-- The heaps between the counts: a read sees one thing. -/
theorem DS.sees (D : DS P F ops R anc items d s0 x s' n S v L HS) {p : Nat} {it : DItem} (hp : p < n) (hit : items[p]? = some it) (hd : isW it.2.1 = false) {m : Nat} (hm : m ≤ n) (hpm : p ≤ m) (hW : ∀ im, items[m]? = some im → isW im.2.1 = true)
    (hhi : cntW (items.map (·.2)) m ≤ it.2.2.2) (hn : ∀ b mk, effD it.2.1 (envQ v [] p) (S p).regs ≠ .new b mk) : ∃ h', runD (S m).heap (effD it.2.1 (envQ v [] p) (S p).regs) = some (v p, h') := by
  obtain ⟨h1, _, _⟩ := D.heapD hp hit hd
  have hlo : it.2.2.1 = cntW (items.map (·.2)) p := by have := checkW_lo anc items 0 none D.hW p it hit hd; omega
  have hmem : ∀ l ∈ lookAt (effD it.2.1 (envQ v [] p) (S p).regs) (S p).heap it.2.2.1 it.2.2.2, l ∈ L := fun l hl => D.tr.look p it.2 hp (map_get hit) hd l (lookD hd _ _ _ _ l hl)
  have hle := cntW_mono (items.map (·.2)) p m hpm
  have hj : ∃ j, HS[j]? = some (S m).heap ∧ j + cntW (items.map (·.2)) m = cntW (items.map (·.2)) n := by
    by_cases hmn : m = n
    · subst hmn; exact ⟨0, D.tr.top, by omega⟩
    · obtain ⟨im, him⟩ := D.get (p := m) (by omega)
      obtain ⟨j, k1, k2⟩ := D.tr.heaps m im.2 (by omega) (map_get him) (hW im him)
      exact ⟨j, k1, k2⟩
  obtain ⟨j, hj1, hj2⟩ := hj
  have look : ∀ l : Look, l.d = effD it.2.1 (envQ v [] p) (S p).regs → l.v = v p → l.lo = it.2.2.1 → l.hi = it.2.2.2 → l ∈ L → ∃ h', runD (S m).heap (effD it.2.1 (envQ v [] p) (S p).regs) = some (v p, h') := by
    intro l e1 e2 e3 e4 hl
    obtain ⟨v', h', k1, k2⟩ := stableIn_at (looksOk_at D.tr.ok hl) j _ hj1 (by rw [e3]; omega) (by rw [e4]; omega)
    rw [e1] at k1
    rw [e2] at k2
    rw [same_eq _ _ k2]
    exact ⟨h', k1⟩
  unfold lookAt at hmem
  cases he : effD it.2.1 (envQ v [] p) (S p).regs with
  | val v' => rw [he] at h1; simp only [runD, Option.some.injEq, Prod.mk.injEq] at h1; rw [← h1.1]; exact ⟨_, rfl⟩
  | new b mk => exact absurd he (hn b mk)
  | bad => rw [he] at h1; simp [runD] at h1
  | read i o c f =>
    rw [he] at hmem h1 look
    simp only [h1] at hmem
    exact look ⟨_, v p, it.2.2.1, it.2.2.2⟩ rfl rfl rfl rfl (hmem _ (by simp))
  | readT i o ts v' =>
    rw [he] at hmem h1 look
    simp only [h1] at hmem
    exact look ⟨_, v p, it.2.2.1, it.2.2.2⟩ rfl rfl rfl rfl (hmem _ (by simp))
  | readMap i f =>
    rw [he] at hmem h1 look
    simp only [h1] at hmem
    exact look ⟨_, v p, it.2.2.1, it.2.2.2⟩ rfl rfl rfl rfl (hmem _ (by simp))
  | readX i id sc off n f =>
    rw [he] at hmem h1 look
    simp only [h1] at hmem
    exact look ⟨_, v p, it.2.2.1, it.2.2.2⟩ rfl rfl rfl rfl (hmem _ (by simp))

theorem cntW_last : ∀ (l : List OItem) (m : Nat), 0 < cntW l m → ∃ u o, u < m ∧ l[u]? = some o ∧ isW o.1 = true ∧ cntW l u + 1 = cntW l m
  | [], m, h => by simp [cntW] at h
  | o :: l, 0, h => by simp [cntW] at h
  | o :: l, m + 1, h => by
    by_cases h0 : 0 < cntW l m
    · obtain ⟨u, o', h1, h2, h3, h4⟩ := cntW_last l m h0
      exact ⟨u + 1, o', by omega, by simpa using h2, h3, by simp only [cntW]; omega⟩
    · cases hw : isW o.1 with
      | true => exact ⟨0, o, by omega, rfl, hw, by simp only [cntW, hw]; simp; omega⟩
      | false => simp only [cntW, hw] at h; simp at h; omega

/-- An operation that writes nothing, in any order. -/
theorem Inv0.stepD (hP : P.globals.size = ng) (D : DS P F ops R anc items d s0 x s' n S v L HS) (hsz : F.ntmps ≤ a₀.tmps.size) (hs : ∀ t, VRel φ₀ (s0.regs.val t) (a₀.tmps.getD t undef)) (h : Inv0 ng ops items d s0 n S v φ₀ w₀ a₀ m X φ a w) (hW : ∀ it, items[m]? = some it → isW it.2.1 = true)
    {p : Nat} {it : DItem} (hit : items[p]? = some it) {o : Oper} (ho : ops[it.1]? = some o) (hd : isW it.2.1 = false) (hX : ¬ X it.1) (hr : ∀ j ∈ bindsOf o, X j)
    (hK : ∀ φ' a' w', Inv0 ng ops items d s0 n S v φ₀ w₀ a₀ m (fun i => X i ∨ i = it.1) φ' a' w' → K a' w') : wpOp P ops Q it.1 K a w := by
  have hanc := D.anc_in h.closed p it o hit ho hr
  -- it stands ahead of the next writer
  have hpm : p < m := by
    rcases Nat.lt_trichotomy p m with hlt | heq | hgt
    · exact hlt
    · subst heq; have := hW it hit; rw [hd] at this; cases this
    · have hlen := (List.getElem?_eq_some_iff.1 hit).1
      have him : items[m]? = some items[m] := List.getElem?_eq_getElem (by omega)
      have := D.W_in h.closed p it hit hanc m _ him hgt (hW _ him)
      have := h.xlt m _ him this
      omega
  have hpn : p < n := Nat.lt_of_lt_of_le hpm h.le
  obtain ⟨o', ho', hdo, hao⟩ := D.it p it hit
  rw [ho] at ho'; cases ho'
  have hhi : cntW (items.map (·.2)) m ≤ it.2.2.2 := by
    rcases Nat.lt_or_ge it.2.2.2 (cntW (items.map (·.2)) m) with hlt | hge
    · exfalso
      obtain ⟨u, ou, h1, h2, h3, h4⟩ := cntW_last _ m (Nat.lt_of_le_of_lt (Nat.zero_le _) hlt)
      obtain ⟨iu, hiu⟩ := D.get (p := u) (by have := h.le; omega)
      rw [map_get hiu] at h2; cases h2
      have hXu := h.xw u iu h1 hiu h3
      have hmem := checkHi_spec D.hH hit hd hiu h3 (by omega)
      obtain ⟨opu, hopu, _, _⟩ := D.it u iu hiu
      exact hX (D.anc_in h.closed u iu opu hiu hopu (h.closed _ _ hopu hXu) _ hmem)
    · exact hge
  have hat := h.at_ D hs (Nat.le_of_lt hpn) hit ho hX hr
  have hw' : ∀ q iq, q < m → items[q]? = some iq → isW iq.2.1 = true → X iq.1 ∨ iq.1 = it.1 := fun q iq hq hiq hw => .inl (h.xw q iq hq hiq hw)
  refine actD hP h.heap ho hao hd hat (fun hn => ?_) (fun b mk he ob k cv hb hv => ?_)
  · obtain ⟨h', hrun⟩ := D.sees hpn hit hd h.le (Nat.le_of_lt hpm) hW hhi hn
    refine ⟨v p, h', hrun, fun cv hcv => ?_⟩
    exact hK φ _ w (h.put D hsz hit ho hX hr (Nat.le_refl _) h.le hpm hw' (Ext.refl _) h.heap h.stp hcv rfl h.defers (fun q iq hq hiq hdq hx hne b mk he => h.virt q iq hq hiq hdq hx b mk he) h.nexts)
  · obtain ⟨hun, hget⟩ := h.virt p it hpm hit hd hX b mk he
    have hext : Ext φ (upd φ (S p).heap.next (.at w.heap.size 0 k)) := Ext.upd (by rw [hun]; trivial)
    obtain ⟨_, _, h3⟩ := D.heapD hpn hit hd
    have hvp : v p = mk (S p).heap.next ∧ (S (p + 1)).heap.next = (S p).heap.next + 1 := by
      rcases h3 with ⟨h3, _⟩ | ⟨b', mk', h3, h4, h5⟩
      · exact absurd he (h3 b mk)
      · rw [he] at h3; cases h3; exact ⟨h5, by rw [h4]; rfl⟩
    refine hK _ _ _ (h.put D hsz hit ho hX hr (Nat.le_refl _) h.le hpm hw' hext (h.heap.real hget hun ob k (hb _ hext)) (h.stp.real ?_ hun ob k) ?_ rfl (h.defers.mono hext) (fun q iq hq hiq hdq hx hne b' mk' he' => ?_) h.nexts)
    · have := h.nexts 0 p (by omega) (by omega)
      rw [D.tr.zero] at this; exact this
    · rw [hvp.1]; exact hv _ _ (upd_same _ _ _)
    · obtain ⟨k1, k2⟩ := h.virt q iq hq hiq hdq hx b' mk' he'
      refine ⟨?_, k2⟩
      rw [upd_other φ _ ?_]; · exact k1
      -- two blocks that are made have two numbers
      rcases Nat.lt_or_gt_of_ne hne with hlt | hgt
      · obtain ⟨_, _, g3⟩ := D.heapD (p := q) (by omega) hiq hdq
        rcases g3 with ⟨g3, _⟩ | ⟨b2, mk2, g3, g4, _⟩
        · exact absurd he' (g3 _ _)
        · have := h.nexts (q + 1) p (by omega) (by omega)
          rw [g4] at this; simp at this; omega
      · have := h.nexts (p + 1) q (by omega) (by omega)
        omega

/-- Nothing that leaves goes on. -/
theorem out_abn {o : AOper} {R : Runner} {e : Env} {s s' : St} {x : AEx} (h : (operFn o).run R e s = .out x s') : x ≠ .normal := by
  rintro rfl
  have hop : ∀ s2, (opFn o.op).run R e s ≠ .out .normal s2 := by
    intro s2 hop
    cases hao : o.op with
    | mov y => rw [hao] at hop; cases hop
    | d f =>
      rw [hao] at hop
      simp only [opFn] at hop
      split at hop
      · cases hop
      · unfold wentD at hop
        split at hop <;> cases hop
    | w f =>
      rw [hao] at hop
      simp only [opFn] at hop
      unfold wentW at hop
      split at hop
      · cases hop
      · split at hop <;> cases hop
      · cases hop
      · cases hop
      · split at hop <;> cases hop
      · cases hop
  have hf : ∀ s2, (guardFn o.guard (opFn o.op)).run R e s ≠ .out .normal s2 := by
    intro s2 hf
    cases hg : o.guard with
    | none => rw [hg] at hf; exact hop _ hf
    | some q =>
      rw [hg] at hf
      simp only [guardFn] at hf
      split at hf
      · exact hop _ hf
      · cases hf
      · cases hf
  unfold operFn dstFn at h
  cases hd : o.dst with
  | none => rw [hd] at h; exact hf _ h
  | some d =>
    rw [hd] at h
    simp only at h
    split at h
    · cases h
    · exact hf _ h

/-- The next writer. -/
theorem Inv0.stepW (hP : P.globals.size = ng) (hR : CallOk P ng R) (D : DS P F ops R anc items d s0 x s' n S v L HS) (hsz : F.ntmps ≤ a₀.tmps.size) (hs : ∀ t, VRel φ₀ (s0.regs.val t) (a₀.tmps.getD t undef)) (h : Inv0 ng ops items d s0 n S v φ₀ w₀ a₀ m X φ a w)
    {it : DItem} (hit : items[m]? = some it) {o : Oper} (ho : ops[it.1]? = some o) (hw : isW it.2.1 = true) (hr : ∀ j ∈ bindsOf o, X j)
    (hK : ∀ φ' a' w', Inv0 ng ops items d s0 n S v φ₀ w₀ a₀ (m + 1) (fun i => X i ∨ i = it.1) φ' a' w' → K a' w')
    (hQ : ∀ φ' ex w', HRel ng φ' s'.heap w' → Stp φ₀ s0.heap w₀ φ' s'.heap w' → ExRel φ' x ex → s'.regs = (S m).regs → DRels φ' s'.defers a.defers → m = n → x ≠ .normal → Q ex a w') : wpOp P ops Q it.1 K a w := by
  have hX : ¬ X it.1 := fun hx => by have := h.xlt m it hit hx; omega
  obtain ⟨o', ho', hdo, hao⟩ := D.it m it hit
  rw [ho] at ho'; cases ho'
  have hat := h.at_ D hs h.le hit ho hX hr
  have hcase : (m < n ∧ (operFn it.2.1).run R (envQ v [] m) (S m) = .on (v m) (S (m + 1))) ∨ (m = n ∧ (operFn it.2.1).run R (envQ v [] m) (S m) = .out x s') := by
    by_cases hmn : m < n
    · exact .inl ⟨hmn, D.onAt hmn hit⟩
    · have hmn' : m = n := by have := h.le; omega
      subst hmn'
      rcases D.tr.fin with ⟨h1, _, _⟩ | ⟨it', h1, h2, h3⟩
      · rw [List.length_map] at h1
        have := (List.getElem?_eq_some_iff.1 hit).1
        omega
      · rw [map_get hit] at h1; cases h1
        exact .inr ⟨rfl, h3⟩
  refine actW hP hR h.heap (D.below_at m h.le) h.defers ho hao hw hat ?_ ?_ ?_
  · intro v1 s1 hg φ' cv a' w' hh hst hv hat' hdf
    rcases hcase with ⟨hmn, hgo⟩ | ⟨_, hgo⟩
    · rw [hgo] at hg
      simp only [Went.on.injEq] at hg
      obtain ⟨rfl, rfl⟩ := hg
      refine hK φ' _ w' (h.put D hsz hit ho hX hr (Nat.le_succ _) hmn (Nat.lt_succ_self _) (fun q iq hq hiq hwq => ?_) hst.ext hh (h.stp.trans hst) hv hat' hdf (fun q iq hq hiq hdq hx hne b mk he => ?_) (fun p q hpq hq => ?_))
      · by_cases hqm : q = m
        · subst hqm; rw [hit] at hiq; cases hiq; exact .inr rfl
        · exact .inl (h.xw q iq (by omega) hiq hwq)
      · obtain ⟨k1, k2⟩ := h.virt q iq (by omega) hiq hdq hx b mk he
        obtain ⟨k3, k4⟩ := hst.virt _ (h.heap.dom _ _ k2) k1
        exact ⟨k4, k3.trans k2⟩
      · by_cases hqm : q = m + 1
        · subst hqm
          by_cases hpm : p = m + 1
          · subst hpm; exact Nat.le_refl _
          · exact Nat.le_trans (h.nexts p m (by omega) (Nat.le_refl _)) hst.next
        · exact h.nexts p q hpq (by omega)
    · rw [hgo] at hg; cases hg
  · intro x1 s1 hg φ' ex w' hh hst hex hregs hdfs
    rcases hcase with ⟨hmn, hgo⟩ | ⟨hmn, hgo⟩
    · rw [hgo] at hg; cases hg
    · rw [hgo] at hg
      simp only [Went.out.injEq] at hg
      obtain ⟨rfl, rfl⟩ := hg
      refine hQ φ' ex w' hh (h.stp.trans hst) hex hregs (by rw [hdfs]; exact h.defers.mono hst.ext) hmn ?_
      intro hx
      subst hx
      exact out_abn hgo rfl
  · rcases hcase with ⟨_, hgo⟩ | ⟨_, hgo⟩ <;> rw [hgo] <;> simp

end
end
end Go.Abs

/- The abstract machine: regions that draw their order do what the one run tells; so the runner is sound. -/
namespace Go.Abs
variable [Fct] [Val]

theorem val_junkAll : ∀ (l : List Nat) (r : Regs) (t : Nat), Regs.val (junkAll l r) t = .junk ∨ (t ∉ l ∧ Regs.val (junkAll l r) t = r.val t)
  | [], r, t => .inr ⟨by simp, rfl⟩
  | d :: l, r, t => by
    simp only [junkAll]
    rcases val_junkAll l (T.put r d (some .junk)) t with h | ⟨h1, h2⟩
    · exact .inl h
    · rw [val_put] at h2
      by_cases hd : t = d
      · rw [if_pos hd] at h2; exact .inl h2
      · rw [if_neg hd] at h2; exact .inr ⟨by simp [hd, h1], h2⟩

theorem mem_bindsOf {o : Oper} {j : Nat} : j ∈ bindsOf o ↔ ∃ e ∈ o.after, Region.binds .any e = true ∧ e.on = j := by
  unfold bindsOf
  simp only [List.mem_map, List.mem_filter, Array.mem_toList_iff]
  constructor
  · rintro ⟨e, ⟨h1, h2⟩, h3⟩; exact ⟨e, h1, h2, h3⟩
  · rintro ⟨e, h1, h2, h3⟩; exact ⟨e, ⟨h1, h2⟩, h3⟩

section
variable {P : Program} {ng : Nat} {F : Frm} {ops : Array Oper} {R : Runner} {anc : List (List Nat)} {items : List DItem} {d : Nat → Option Nat} {s0 : St} {x : AEx} {s' : St} {n : Nat} {S : Nat → St} {v : Nat → AV} {L : List Look} {HS : List AHeap}
variable {φ₀ : Phi} {w₀ : World} {a₀ : Act} {Q : Exit → Act → World → Prop}

/-- Where an operation isn't listed yet, one is ready. -/
theorem DS.ready (D : DS P F ops R anc items d s0 x s' n S v L HS) {listed : Array Bool} (hsz : listed.size = ops.size) (hn : Region.ready .any ops listed = []) :
    ∀ (p : Nat) (it : DItem), items[p]? = some it → listed.getD it.1 false = true := by
  intro p
  induction p using Nat.strongRecOn with
  | ind p ih =>
    intro it hit
    cases hl : listed.getD it.1 false with
    | true => rfl
    | false =>
      exfalso
      obtain ⟨o, ho, _, _⟩ := D.it p it hit
      have hlt := (Array.getElem?_eq_some_iff.1 ho).1
      have hmem : it.1 ∈ Region.ready .any ops listed := by
        rw [mem_ready]
        refine ⟨?_, o, ho, fun e he hb => ?_⟩
        · rw [Array.getD_eq_getD_getElem?] at hl ⊢
          rw [Array.getElem?_eq_getElem (by omega)] at hl ⊢
          exact hl
        · obtain ⟨q, iq, hq, hiq, hq2⟩ := D.ahead hit ((checkAnc_spec D.hA ho).1 e.on (mem_bindsOf.2 ⟨e, he, hb, rfl⟩)).1
          rw [← hq2]
          exact ih q hq iq hiq
      rw [hn] at hmem; cases hmem

theorem any_ok (hP : P.globals.size = ng) (hR : CallOk P ng R) (D : DS P F ops R anc items d s0 x s' n S v L HS) (hsz : F.ntmps ≤ a₀.tmps.size) (hs : ∀ t, VRel φ₀ (s0.regs.val t) (a₀.tmps.getD t undef))
    (hfin : ∀ (X : Nat → Prop) φ a w, Inv0 ng ops items d s0 n S v φ₀ w₀ a₀ n X φ a w → (∀ (p : Nat) (it : DItem), items[p]? = some it → X it.1) → n = items.length → x = .normal → s' = S n → Q .normal a w)
    (hout : ∀ (X : Nat → Prop) φ a w φ' ex w', Inv0 ng ops items d s0 n S v φ₀ w₀ a₀ n X φ a w → HRel ng φ' s'.heap w' → Stp φ₀ s0.heap w₀ φ' s'.heap w' → ExRel φ' x ex → s'.regs = (S n).regs → DRels φ' s'.defers a.defers → x ≠ .normal → Q ex a w') :
    ∀ (fuel : Nat) (listed : Array Bool) (m : Nat) (φ : Phi) (a : Act) (w : World), listed.size = ops.size → ((List.range ops.size).filter fun i => !listed.getD i true).length ≤ fuel →
      Inv0 ng ops items d s0 n S v φ₀ w₀ a₀ m (fun i => listed.getD i false = true) φ a w → (∀ it, items[m]? = some it → isW it.2.1 = true) → wpAny P .any ops Q fuel listed a w := by
  intro fuel
  have done : ∀ (listed : Array Bool) (m : Nat) (φ : Phi) (a : Act) (w : World), listed.size = ops.size → Inv0 ng ops items d s0 n S v φ₀ w₀ a₀ m (fun i => listed.getD i false = true) φ a w → (∀ it, items[m]? = some it → isW it.2.1 = true) →
      Region.ready .any ops listed = [] → Q .normal a w := by
    intro listed m φ a w hl h hW hr
    have hall := D.ready hl hr
    have hle := D.tr.le
    rw [List.length_map] at hle
    have hml : items.length ≤ m := by
      rcases Nat.lt_or_ge m items.length with hlt | hge
      · have hit := List.getElem?_eq_getElem hlt
        have := h.xlt m _ hit (hall m _ hit)
        omega
      · exact hge
    have hmn := h.le
    have hnl : n = items.length := by omega
    have hmn' : m = n := by omega
    subst hmn'
    rcases D.tr.fin with ⟨_, h2, h3⟩ | ⟨it, h1, _, _⟩
    · exact hfin _ φ a w h hall hnl h2 h3
    · rw [List.getElem?_eq_none (by rw [List.length_map]; omega)] at h1; cases h1
  induction fuel with
  | zero =>
    intro listed m φ a w hl hf h hW
    have hr : Region.ready .any ops listed = [] := by
      cases hr : Region.ready .any ops listed with
      | nil => rfl
      | cons i r =>
        exfalso
        have hi : i ∈ Region.ready .any ops listed := by rw [hr]; simp
        obtain ⟨h1, o, ho, _⟩ := mem_ready.1 hi
        have hmem : i ∈ (List.range ops.size).filter fun i => !listed.getD i true := List.mem_filter.2 ⟨List.mem_range.2 (Array.getElem?_eq_some_iff.1 ho).1, by rw [h1]; rfl⟩
        have hpos := List.length_pos_of_mem hmem
        omega
    exact ⟨hr, done listed m φ a w hl h hW hr⟩
  | succ fuel ih =>
    intro listed m φ a w hl hf h hW
    refine ⟨done listed m φ a w hl h hW, fun i hi => ?_⟩
    obtain ⟨hun, o, ho, hb⟩ := mem_ready.1 hi
    have hlt := (Array.getElem?_eq_some_iff.1 ho).1
    obtain ⟨p, it, hit, rfl⟩ := D.all hlt
    have hX : ¬ listed.getD it.1 false = true := by
      rw [Array.getD_eq_getD_getElem?] at hun ⊢
      rw [Array.getElem?_eq_getElem (by omega)] at hun ⊢
      simp only [Option.getD_some] at hun ⊢
      rw [hun]; simp
    have hr : ∀ j ∈ bindsOf o, listed.getD j false = true := by
      intro j hj
      obtain ⟨e, he, hbe, rfl⟩ := mem_bindsOf.1 hj
      exact hb e he hbe
    have hset : (fun i => (listed.setIfInBounds it.1 true).getD i false = true) = fun i => listed.getD i false = true ∨ i = it.1 := by
      funext i
      by_cases hij : it.1 = i
      · subst hij
        simp only [eq_iff_iff]
        refine ⟨fun _ => .inr trivial, fun _ => ?_⟩
        rw [Array.getD_eq_getD_getElem?, Array.getElem?_setIfInBounds_self_of_lt (by omega)]; rfl
      · rw [getD_set_ne false hij]
        simp only [eq_iff_iff]
        exact ⟨fun h => .inl h, fun h => h.resolve_right (fun e => hij e.symm)⟩
    have hl' : (listed.setIfInBounds it.1 true).size = ops.size := by simpa using hl
    have hf' : ((List.range ops.size).filter fun i => !(listed.setIfInBounds it.1 true).getD i true).length ≤ fuel := by
      have h1 : ((List.range ops.size).filter fun i => !(listed.setIfInBounds it.1 true).getD i true) = ((List.range ops.size).filter fun i => !listed.getD i true).filter fun i => i != it.1 := by
        rw [List.filter_filter]
        apply List.filter_congr
        intro j hj
        by_cases hij : it.1 = j
        · subst hij
          rw [Array.getD_eq_getD_getElem?, Array.getElem?_setIfInBounds_self_of_lt (by omega)]; simp
        · rw [getD_set_ne true hij]
          have : (j != it.1) = true := by simpa using fun e => hij e.symm
          rw [this]; simp
      have h2 : (((List.range ops.size).filter fun i => !listed.getD i true).filter fun i => i != it.1).length < ((List.range ops.size).filter fun i => !listed.getD i true).length := by
        rw [List.length_filter_lt_length_iff_exists]
        exact ⟨it.1, List.mem_filter.2 ⟨List.mem_range.2 hlt, by rw [hun]; rfl⟩, by simp⟩
      rw [h1]; omega
    cases hw : isW it.2.1 with
    | false =>
      refine h.stepD hP D hsz hs hW hit ho hw hX hr fun φ' a' w' h' => ?_
      rw [← hset] at h'
      exact ih _ m φ' a' w' hl' hf' h' hW
    | true =>
      have hpm : p = m := by
        rcases Nat.lt_trichotomy p m with hlt' | heq | hgt
        · exact absurd (h.xw p it hlt' hit hw) hX
        · exact heq
        · have hlen := (List.getElem?_eq_some_iff.1 hit).1
          have him : items[m]? = some items[m] := List.getElem?_eq_getElem (by omega)
          have h1 := D.W_in h.closed p it hit (D.anc_in h.closed p it o hit ho hr) m _ him hgt (hW _ him)
          have := h.xlt m _ him h1
          omega
      subst hpm
      refine h.stepW hP hR D hsz hs hit ho hw hr (fun φ' a' w' h' => ?_) (fun φ' ex w' h1 h2 h3 h4 h5 h6 h7 => ?_)
      · obtain ⟨m', h'', hW'⟩ := Inv0.adv D φ₀ w₀ a₀ _ φ' a' w' _ _ (Nat.le_refl _) h'
        rw [← hset] at h''
        exact ih _ m' φ' a' w' hl' hf' h'' hW'
      · subst h6
        exact hout _ φ a w φ' ex w' h h1 h2 h3 h4 h5 h7

end

theorem draw_ok {P : Program} {ng : Nat} {R : Runner} (hm : P.follows .mixedOrders = true) (hP : P.globals.size = ng) (hR : CallOk P ng R) : DrawOk P ng R := by
  intro F ops id A x s s' hA hr B φ a cs w h
  obtain ⟨anc, items, d, rfl, hit, hA, hAp, hO, hW, hH⟩ := cDraw_spec hA
  simp only [codeFn] at hr
  cases hrun : (drawFn (items.map (·.2))).run R [] ⟨s.regs, s.heap, s.defers, none⟩ [] 0 [] with
  | none => rw [hrun] at hr; cases hr
  | some q =>
    obtain ⟨x1, s1⟩ := q
    obtain ⟨n, S, v, L, HS, ht, _, _⟩ := trace R _ _ _ _ _ _ _ _ hrun
    have D : DS P F ops R anc items d ⟨s.regs, s.heap, s.defers, none⟩ x1 s1 n S v L HS := ⟨hit, hA, hAp, hO, hW, hH, ht, rfl⟩
    have hs : ∀ t, VRel φ (s.regs.val t) (a.tmps.getD t undef) := fun t => by simpa [locOf] using h.ctx t
    have hs' : ∀ t, VRel φ ((⟨s.regs, s.heap, s.defers, none⟩ : St).regs.val t) (a.tmps.getD t undef) := hs
    -- places that an operation of the region keeps
    have hdst : ∀ p it, items[p]? = some it → ∀ t, d p = some t → t ∈ ops.toList.filterMap (·.dst) := by
      intro p it hp t ht
      obtain ⟨o, ho, hdo, _⟩ := hit p it hp
      exact List.mem_filterMap.2 ⟨o, by rw [Array.mem_toList_iff]; exact Array.mem_of_getElem? ho, by rw [← hdo]; exact ht⟩
    refine wpG_of_wp (wp_region_any hm ?_)
    obtain ⟨m, h0, hW0⟩ := Inv0.adv (ng := ng) D φ w a (fun i => (Array.replicate ops.size false).getD i false = true) φ a { w with drawn := w.drawn + 1 } n 0 (by omega)
      { le := Nat.zero_le _
        xlt := fun p it hp hx => by simp [Array.getElem?_replicate] at hx; split at hx <;> simp at hx
        xw := fun p it hp => by omega
        closed := fun i o ho hx => by simp [Array.getElem?_replicate] at hx; split at hx <;> simp at hx
        heap := by rw [ht.zero]; exact h.heap.heap_eq rfl
        stp := by rw [ht.zero]; exact Stp.heap_eq rfl rfl rfl rfl
        vals := fun p it hp hx => by simp [Array.getElem?_replicate] at hx; split at hx <;> simp at hx
        rest := fun t _ => rfl
        virt := fun p it hp => by omega
        nexts := fun p q hpq hq => by
          have h1 : p = 0 := by omega
          have h2 : q = 0 := by omega
          subst h1; subst h2; exact Nat.le_refl _
        defers := by rw [ht.zero]; exact h.defers
        size := rfl }
    refine any_ok hP hR D h.size hs' ?_ ?_ ops.size _ m φ a _ (by simp) ?_ h0 hW0
    · -- at its end
      intro X φ' a' w' hi hall hnl hx hs1
      subst hx
      rw [hrun] at hr
      simp only [Option.some.injEq, Prod.mk.injEq] at hr
      obtain ⟨rfl, rfl⟩ := hr
      subst hs1
      refine ⟨φ', ⟨hi.heap, fun t => ?_, fun t k hk => by simp [locOf] at hk, fun t hl => ?_, by rw [hi.size]; exact h.size, hi.defers, h.below.mono hi.stp.ext⟩, hi.stp, trivial, rfl⟩
      · simp only [locOf]
        obtain ⟨r1, r2, r3⟩ := D.regs n (Nat.le_refl _) t
        cases hl : isLive F.np F.live t with
        | false => rw [r2 hl]; rw [h.live t hl]; trivial
        | true =>
          by_cases hq : ∃ q, q < n ∧ d q = some t
          · obtain ⟨q, hq1, hq2⟩ := hq
            rw [r3 q hq1 hq2 hl]
            obtain ⟨iq, hiq⟩ := D.get hq1
            exact hi.vals q iq hiq (hall q iq hiq) t hq2
          · rw [r1 fun q hq1 hq2 => hq ⟨q, hq1, hq2⟩]
            rw [hi.rest t fun q iq hiq _ hq2 => hq ⟨q, by rw [hnl]; exact (List.getElem?_eq_some_iff.1 hiq).1, hq2⟩]
            exact (hs t).mono hi.stp.ext
      · rw [(D.regs n (Nat.le_refl _) t).2.1 hl]
        exact h.live t hl
    · -- where it leaves
      intro X φ1 a' w1 φ' ex w' hi hh hst hex hregs hdf hx
      rw [hrun] at hr
      have hr' : x = x1 ∧ s' = ⟨junkAll ((ops.toList.filterMap (·.dst)).filter (isLive F.np F.live)) s1.regs, s1.heap, s1.defers, s.below⟩ := by
        cases x1 <;> first | exact absurd rfl hx | (simp only [Option.some.injEq, Prod.mk.injEq] at hr; exact ⟨hr.1.symm, hr.2.symm⟩)
      obtain ⟨rfl, rfl⟩ := hr'
      have hval : ∀ t, isLive F.np F.live t = false → Regs.val (junkAll ((ops.toList.filterMap (·.dst)).filter (isLive F.np F.live)) s1.regs) t = .junk := by
        intro t hl
        rcases val_junkAll ((ops.toList.filterMap (·.dst)).filter (isLive F.np F.live)) s1.regs t with h1 | ⟨h1, h2⟩
        · exact h1
        · rw [h2, hregs, (D.regs n (Nat.le_refl _) t).2.1 hl]
          exact h.live t hl
      refine ⟨φ', ⟨hh, fun t => ?_, fun t k hk => by simp [locOf] at hk, fun t hl => hval t hl, by rw [hi.size]; exact h.size, hdf, h.below.mono hst.ext⟩, hst, hex, rfl⟩
      simp only [locOf]
      cases hl : isLive F.np F.live t with
      | false => rw [hval t hl]; trivial
      | true =>
        rcases val_junkAll ((ops.toList.filterMap (·.dst)).filter (isLive F.np F.live)) s1.regs t with h1 | ⟨h1, h2⟩
        · rw [h1]; trivial
        · have hno : ∀ p it, items[p]? = some it → d p ≠ some t := fun p it hp hdp => h1 (List.mem_filter.2 ⟨hdst p it hp t hdp, hl⟩)
          rw [h2, hregs, (D.regs n (Nat.le_refl _) t).1 fun q hq => by
            obtain ⟨iq, hiq⟩ := D.get hq
            exact hno q iq hiq]
          rw [hi.rest t fun q iq hiq _ => hno q iq hiq]
          exact (hs t).mono hst.ext
    · exact Nat.le_trans (List.length_filter_le _ _) (by simp)

/-- The runner is sound. -/
theorem runner_sound {P : Program} {ng : Nat} (hm : P.follows .mixedOrders = true) (hP : P.globals.size = ng) {live : FuncId → List Nat} {O : Oracle} (hO : OracleOk P ng O) (n : Nat) : CallOk P ng (runner (progOf P live O) n) :=
  (runner_ok hP hO (fun R hR => draw_ok hm hP hR) n).1

end Go.Abs

/- The abstract machine: runs in pieces. What is known may be forgotten between them; a loop may be told round by round. -/
namespace Go.Abs

/-! ### What a value names -/

mutual
def AV.ltn (n : Nat) : AV → Bool
  | .ptr (some (i, _)) => Nat.blt i n
  | .xptr i _ _ _ => Nat.blt i n
  | .xsl i _ _ _ _ _ _ => Nat.blt i n
  | .sl (some (i, _)) _ _ _ _ => Nat.blt i n
  | .map (some i) => Nat.blt i n
  | .fn _ a b => AV.ltns n a && AV.ltns n b
  | .iface _ v => AV.ltn n v
  | .agg cs => AV.ltns n cs
  | .tup cs => AV.ltns n cs
  | .sstr cs => AV.ltns n cs
  | _ => true
def AV.ltns (n : Nat) : List AV → Bool
  | [] => true
  | v :: vs => AV.ltn n v && AV.ltns n vs
end

def cut (n : Nat) (φ : Phi) : Phi := fun i => if i < n then φ i else .un

theorem cut_lt {n i : Nat} (φ : Phi) (h : i < n) : cut n φ i = φ i := by simp [cut, h]
theorem cut_ge {n i : Nat} (φ : Phi) (h : n ≤ i) : cut n φ i = .un := by simp [cut]; intro; omega

noncomputable def ABlk.ltn (n : Nat) (b : ABlk) : Bool :=
  match b with
  | .cells m c _ _ => AV.ltns n (getsV c m 0)
  | .row _ _ _ _ segs _ _ => segs.all fun s => AV.ltns n s.2.2
  | .map es _ => es.all fun e => AV.ltn n e.1 && AV.ltn n e.2.1
  | .siter _ _ => true

section
variable [Fct] [Val]

mutual
theorem ltn_cut {φ : Phi} {n : Nat} : ∀ (x : AV) (v : Value), AV.ltn n x = true → VRel φ x v → VRel (cut n φ) x v
  | .bool _, _, _, k => k
  | .int _ _, _, _, k => k
  | .sym _ _ _, _, _, k => k
  | .rest _ _ _ _, _, _, k => k
  | .ex _ _ _, _, _, k => k
  | .any _, _, _, k => k
  | .xptr i id sc off, _, h, ⟨h0, a, e, k⟩ => by
    simp only [AV.ltn, blt_iff] at h
    exact ⟨h0, a, e, by unfold PtrOk at *; rw [cut_lt φ h]; exact k⟩
  | .xsl i id sc off esz lid loff, _, h, ⟨h0, h1, a, c, e, h2, k⟩ => by
    simp only [AV.ltn, blt_iff] at h
    exact ⟨h0, h1, a, c, e, h2, by unfold SlOk at *; rw [cut_lt φ h]; exact k⟩
  | .str _, _, _, k => k
  | .sstr l, _, h, ⟨s, e, k⟩ => by
    simp only [AV.ltn] at h
    exact ⟨s, e, ltns_cut l _ h k⟩
  | .ptr none, _, _, k => k
  | .ptr (some (i, o)), _, h, ⟨a, e, k⟩ => by
    simp only [AV.ltn, blt_iff] at h
    exact ⟨a, e, by unfold PtrOk at *; rw [cut_lt φ h]; exact k⟩
  | .sl none _ _ _ _, _, _, k => k
  | .sl (some (i, o)) _ _ _ _, _, h, ⟨a, c, e, h0, h1, h2, k⟩ => by
    simp only [AV.ltn, blt_iff] at h
    exact ⟨a, c, e, h0, h1, h2, by unfold SlOk at *; rw [cut_lt φ h]; exact k⟩
  | .map none, _, _, k => k
  | .map (some i), _, h, ⟨r, e, k⟩ => by
    simp only [AV.ltn, blt_iff] at h
    exact ⟨r, e, by unfold MapOk at *; rw [cut_lt φ h]; exact k⟩
  | .fn _ x y, _, h, ⟨a, b, e, k, l⟩ => by
    simp only [AV.ltn, Bool.and_eq_true] at h
    exact ⟨a, b, e, ltns_cut x _ h.1 k, ltns_cut y _ h.2 l⟩
  | .nilFn, _, _, k => k
  | .iface _ x, _, h, ⟨y, e, k⟩ => by
    simp only [AV.ltn] at h
    exact ⟨y, e, ltn_cut x y h k⟩
  | .nilIface, _, _, k => k
  | .agg cs, _, h, ⟨vs, e, k⟩ => by
    simp only [AV.ltn] at h
    exact ⟨vs, e, ltns_cut cs _ h k⟩
  | .tup cs, _, h, ⟨vs, e, k⟩ => by
    simp only [AV.ltn] at h
    exact ⟨vs, e, ltns_cut cs _ h k⟩
  | .junk, _, _, _ => trivial
theorem ltns_cut {φ : Phi} {n : Nat} : ∀ (x : List AV) (v : List Value), AV.ltns n x = true → VRels φ x v → VRels (cut n φ) x v
  | [], _, _, k => k
  | c :: cs, _, h, ⟨v, r, e, k, l⟩ => by
    simp only [AV.ltns, Bool.and_eq_true] at h
    exact ⟨v, r, e, ltn_cut c v h.1 k, ltns_cut cs r h.2 l⟩
end

theorem ltns_get {n : Nat} : ∀ {l : List AV}, AV.ltns n l = true → ∀ (k : Nat) (v : AV), l[k]? = some v → AV.ltn n v = true
  | [], _, k, v, hk => by simp at hk
  | x :: l, h, k, v, hk => by
    simp only [AV.ltns, Bool.and_eq_true] at h
    cases k with
    | zero => simp at hk; rw [← hk]; exact h.1
    | succ k => exact ltns_get h.2 k v (by simpa using hk)

theorem ERels.cut {φ : Phi} {n : Nat} : ∀ {es : List (AV × AV × Nat)} {ces : List MapEntry}, (es.all fun e => AV.ltn n e.1 && AV.ltn n e.2.1) = true → ERels φ es ces → ERels (Abs.cut n φ) es ces
  | [], _, _, k => k
  | x :: es, _, h, ⟨e, r, h1, ⟨h2, h3, h4⟩, h5⟩ => by
    simp only [List.all_cons, Bool.and_eq_true] at h
    exact ⟨e, r, h1, ⟨ltn_cut _ _ h.1.1 h2, ltn_cut _ _ h.1.2 h3, h4⟩, ERels.cut h.2 h5⟩

theorem BRel.cut {φ : Phi} {n : Nat} {blk : ABlk} {b p m : Nat} {w : World} (h : blk.ltn n = true) (k : BRel φ blk b p m w) : BRel (Abs.cut n φ) blk b p m w := by
  cases blk with
  | cells q c t ro =>
    obtain ⟨vs, u, fz, h1, h2, h3, h4, h5⟩ := k
    refine ⟨vs, u, fz, h1, h2, h3, fun j hj => ?_, h5⟩
    obtain ⟨v, hv, hr⟩ := h4 j hj
    refine ⟨v, hv, ltn_cut _ _ ?_ hr⟩
    refine ltns_get h j _ ?_
    have := getElem?_getsV c q 0 j hj
    rw [Nat.zero_add] at this
    exact this
  | row nm esz cid coff segs t ro =>
    obtain ⟨vs, u, fz, h1, h2, ⟨h3, h4⟩, h5⟩ := k
    refine ⟨vs, u, fz, h1, h2, ⟨h3, fun s hs => ⟨(h4 s hs).1, fun j a ha => ?_⟩⟩, h5⟩
    obtain ⟨v, hv, hr⟩ := (h4 s hs).2 j a ha
    simp only [ABlk.ltn, List.all_eq_true] at h
    exact ⟨v, hv, ltn_cut _ _ (ltns_get (h s hs) j a ha) hr⟩
  | map es clock => obtain ⟨ces, h1, h2⟩ := k; exact ⟨ces, h1, ERels.cut h h2⟩
  | siter s pos => exact k

/-! ### What is forgotten -/

structure Wk (k : Nat) (s s' : St) : Prop where
  kn : k ≤ s'.heap.next
  next : s'.heap.next ≤ s.heap.next
  keep : ∀ i, i < k → s'.heap.get i = s.heap.get i
  blk : ∀ i b, s'.heap.get i = some b → i < s'.heap.next ∧ s.heap.get i = some b ∧ b.ltn s'.heap.next = true
  regs : ∀ t, s'.regs.val t = .junk ∨ (s'.regs.val t = s.regs.val t ∧ (s.regs.val t).ltn s'.heap.next = true)
  defers : s.defers = [] ∧ s'.defers = []
  below : s.below = none ∧ s'.below = none

theorem Wk.srel {ng k : Nat} {F : Frm} {B : Base} {φ : Phi} {s s' : St} {a : Act} {cs : List Frame} {w : World} (h : SRel ng F B φ s a cs w) (hw : Wk k s s') (hng : ng ≤ k) : SRel ng F B (cut s'.heap.next φ) s' a cs w := by
  refine ⟨⟨fun i hi => cut_ge φ hi, fun g hg => ?_, fun i b hb => ?_, fun i j b b' c p m p' m' hi hj hne ei ej => ?_, fun i c p m e => ?_, fun i b hb => (hw.blk i b hb).1⟩, fun t => ?_, fun t k hk => by simp [locOf] at hk, fun t ht => ?_, h.size, ?_, ?_⟩
  · have := h.heap.glob g hg
    unfold PtrOk at *
    rw [cut_lt φ (by have := hw.kn; omega)]; exact this
  · obtain ⟨h1, h2, h3⟩ := hw.blk i b hb
    rw [cut_lt φ h1]
    rcases h.heap.blk i b h2 with e | ⟨c, p, m, e, q⟩
    · exact .inl e
    · exact .inr ⟨c, p, m, e, q.cut h3⟩
  · obtain ⟨h1, h2, _⟩ := hw.blk i b hi
    obtain ⟨h3, h4, _⟩ := hw.blk j b' hj
    rw [cut_lt φ h1] at ei
    rw [cut_lt φ h3] at ej
    exact h.heap.inj i j b b' c p m p' m' h2 h4 hne ei ej
  · unfold cut at e
    split at e
    · exact h.heap.lt i c p m e
    · cases e
  · have := h.ctx t
    simp only [locOf] at this ⊢
    rcases hw.regs t with e | ⟨e, hl⟩
    · rw [e]; trivial
    · rw [e]; exact ltn_cut _ _ hl this
  · rcases hw.regs t with e | ⟨e, _⟩
    · exact e
    · rw [e]; exact h.live t ht
  · have := h.defers
    rw [hw.defers.1] at this
    rw [hw.defers.2]; exact this
  · have := h.below
    rw [hw.below.1] at this
    rw [hw.below.2]; exact this

theorem Wk.stp {k : Nat} {φ₀ : Phi} {h₀ : AHeap} {w₀ : World} {φ : Phi} {s s' : St} {w : World} (h : Stp φ₀ h₀ w₀ φ s.heap w) (hw : Wk k s s') (hk : h₀.next ≤ k) (hf : ∀ i, h₀.next ≤ i → φ₀ i = .un) : Stp φ₀ h₀ w₀ (cut s'.heap.next φ) s'.heap w := by
  have hkn := hw.kn
  refine ⟨fun i => ?_, h.os, h.tape, h.output, h.size, h.same, fun b ⟨i, bl, o, n, hg, hro, e⟩ hb => ?_, fun i hi e => ?_, by omega⟩
  · by_cases hi : i < s'.heap.next
    · rw [cut_lt φ hi]; exact h.ext i
    · rw [hf i (by omega)]; trivial
  · obtain ⟨h1, h2, _⟩ := hw.blk i bl hg
    rw [cut_lt φ h1] at e
    exact h.own b ⟨i, bl, o, n, h2, hro, e⟩ hb
  · obtain ⟨h1, h2⟩ := h.virt i hi e
    exact ⟨(hw.keep i (by omega)).trans h1, by rw [cut_lt φ (by omega)]; exact h2⟩

/-! ### Runs in pieces -/

inductive Der (P : Program) (ng : Nat) (F : Frm) (R : Runner) : Code → St → AEx → St → Prop
  | run {c s x s'} : (codeFn (cCode P F c)).run R s = some (x, s') → Der P ng F R c s x s'
  | weak {c s x s' s'' k} : Der P ng F R c s x s' → Wk k s' s'' → ng ≤ k → s.heap.next ≤ k → (∀ ch, x ≠ .panic ch) → Der P ng F R c s x s''
  | seq {c d s s₁ x s'} : Der P ng F R c s .normal s₁ → Der P ng F R d s₁ x s' → Der P ng F R (.seq c d) s x s'
  | seqX {c d s x s'} : Der P ng F R c s x s' → x ≠ .normal → Der P ng F R (.seq c d) s x s'
  | cond {c d e s x s' y t} : cOpd P [] c = some y → y.ev [] s.regs = .bool t → Der P ng F R (if t then d else e) s x s' → Der P ng F R (.cond c d e) s x s'
  | block {id c s s'} : Der P ng F R c s (.exit id) s' → Der P ng F R (.block id c) s .normal s'
  | blockX {id c s x s'} : Der P ng F R c s x s' → x ≠ .exit id → Der P ng F R (.block id c) s x s'
  | scope {c s x s'} : Der P ng F R c s x s' → Der P ng F R (.scope c) s x s'
  | loopS {c s s₁ x s'} : Der P ng F R c s .normal s₁ → Der P ng F R (.loop c) s₁ x s' → Der P ng F R (.loop c) s x s'
  | loopX {c s x s'} : Der P ng F R c s x s' → x ≠ .normal → Der P ng F R (.loop c) s x s'

theorem wpL_mono {P : Program} {dfd : Bool} {c : Code} {Q Q' : Post} {a : Act} {cs : List Frame} {w : World} (h : wpL P dfd c Q a cs w) (hq : ∀ e a cs w, Q e a cs w → Q' e a cs w) : wpL P dfd c Q' a cs w :=
  fun bb k hb => let ⟨e, a'', cs'', w'', q, rr⟩ := h bb k hb; ⟨e, a'', cs'', w'', hq _ _ _ _ q, rr⟩

theorem der_ok {P : Program} {ng : Nat} {R : Runner} (hP : P.globals.size = ng) (hR : CallOk P ng R) (hL : LoopOk P ng R) (hD : DrawOk P ng R) {F : Frm} {c : Code} {s : St} {x : AEx} {s' : St} (h : Der P ng F R c s x s') :
    ∀ (B : Base) (φ : Phi) (a : Act) (cs : List Frame) (w : World), SRel ng F B φ s a cs w →
      wpG P s.below.isSome c (PostRel ng F B φ s.heap w s.below.isSome x s') a cs w ∧ ∀ b, c = .loop b → wpL P s.below.isSome b (PostRel ng F B φ s.heap w s.below.isSome x s') a cs w := by
  induction h with
  | run hr =>
    intro B φ a cs w hs
    refine ⟨code_ok hP hR hL hD F B _ _ _ _ hr φ a cs w hs, ?_⟩
    rintro b rfl
    simp only [cCode, codeFn] at hr
    exact (hL F b _ _ _ hr B φ a cs w hs).1
  | @weak c s x s' s'' k _ hw hng hk hx ih =>
    intro B φ a cs w hs
    obtain ⟨h1, h2⟩ := ih B φ a cs w hs
    have key : ∀ e a' cs' w', PostRel ng F B φ s.heap w s.below.isSome x s' e a' cs' w' → PostRel ng F B φ s.heap w s.below.isSome x s'' e a' cs' w' := by
      intro e a' cs' w' hq
      obtain ⟨φ', k1, k2, k3, k4⟩ := hq
      refine ⟨_, hw.srel k1 hng, hw.stp k2 hk hs.heap.fresh, ?_, ?_⟩
      · cases x with
        | panic ch => exact absurd rfl (hx ch)
        | _ => cases e <;> exact k3
      · rw [hw.below.2]; rw [hw.below.1] at k4; exact k4
    exact ⟨h1.mono key, fun b hb => wpL_mono (h2 b hb) key⟩
  | seq _ _ ih1 ih2 =>
    intro B φ a cs w hs
    refine ⟨wpG_seq ((ih1 B φ a cs w hs).1.mono fun ex a' cs' w' hq => ?_), by intro b hb; cases hb⟩
    obtain ⟨φ', k1, k2, k3, k4⟩ := hq
    cases ex <;> simp only [ExRel] at k3
    simp only [Exit.thenS]
    have := (ih2 B φ' a' cs' w' k1).1
    rw [k4] at this
    exact this.mono fun _ _ _ _ hq => PostRel.trans k2 hq
  | @seqX c d s x s' _ hx ih =>
    intro B φ a cs w hs
    refine ⟨wpG_seq ((ih B φ a cs w hs).1.mono fun ex a' cs' w' hq => ?_), by intro b hb; cases hb⟩
    obtain ⟨φ', k1, k2, k3, k4⟩ := hq
    cases ex with
    | normal => cases x <;> simp only [ExRel] at k3; exact absurd rfl hx
    | _ => exact ⟨φ', k1, k2, k3, k4⟩
  | cond hc hy _ ih =>
    intro B φ a cs w hs
    refine ⟨?_, by intro b hb; cases hb⟩
    have hglob : ∀ g, g < P.globals.size → PtrOk φ g 0 ⟨g, 0, none⟩ := fun g hg => hs.heap.glob g (hP ▸ hg)
    have hv := opsOk hglob hs.ctx (fun _ => True) _ _ trivial hc
    rw [hy] at hv
    exact wpG_cond hv (ih B φ a cs w hs).1
  | block _ ih =>
    intro B φ a cs w hs
    refine ⟨wpG_block ((ih B φ a cs w hs).1.mono fun ex a' cs' w' hq => ?_), by intro b hb; cases hb⟩
    obtain ⟨φ', k1, k2, k3, k4⟩ := hq
    cases ex <;> simp only [ExRel] at k3
    subst k3
    simp only [inBlockS, if_pos]
    exact ⟨φ', k1, k2, trivial, k4⟩
  | @blockX id c s x s' _ hx ih =>
    intro B φ a cs w hs
    refine ⟨wpG_block ((ih B φ a cs w hs).1.mono fun ex a' cs' w' hq => ?_), by intro b hb; cases hb⟩
    obtain ⟨φ', k1, k2, k3, k4⟩ := hq
    cases ex with
    | exit j =>
      cases x <;> simp only [ExRel] at k3
      subst k3
      simp only [inBlockS]
      rw [if_neg (fun e => hx (by rw [e]))]
      exact ⟨φ', k1, k2, rfl, k4⟩
    | _ => exact ⟨φ', k1, k2, k3, k4⟩
  | @scope c s x s' _ ih =>
    intro B φ a cs w hs
    refine ⟨wpG_scope ((ih B φ a cs w hs).1.mono fun ex a' cs' w' hq => ?_), by intro b hb; cases hb⟩
    obtain ⟨φ', k1, k2, k3, k4⟩ := hq
    cases ex <;> first | exact ⟨φ', k1, k2, k3, k4⟩ | (cases x <;> exact k3.elim)
  | @loopS c s s₁ x s' _ _ ih1 ih2 =>
    intro B φ a cs w hs
    have key : wpG P s.below.isSome c (Exit.thenS (wpL P s.below.isSome c (PostRel ng F B φ s.heap w s.below.isSome x s')) (PostRel ng F B φ s.heap w s.below.isSome x s')) a cs w := by
      refine (ih1 B φ a cs w hs).1.mono fun ex a' cs' w' hq => ?_
      obtain ⟨φ', k1, k2, k3, k4⟩ := hq
      cases ex <;> simp only [ExRel] at k3
      simp only [Exit.thenS]
      have := (ih2 B φ' a' cs' w' k1).2 c rfl
      rw [k4] at this
      exact wpL_mono this fun _ _ _ _ hq => PostRel.trans k2 hq
    exact ⟨wpG_loop key, fun b hb => by cases hb; exact wpL_loop key⟩
  | @loopX c s x s' _ hx ih =>
    intro B φ a cs w hs
    have key : wpG P s.below.isSome c (Exit.thenS (wpL P s.below.isSome c (PostRel ng F B φ s.heap w s.below.isSome x s')) (PostRel ng F B φ s.heap w s.below.isSome x s')) a cs w := by
      refine (ih B φ a cs w hs).1.mono fun ex a' cs' w' hq => ?_
      obtain ⟨φ', k1, k2, k3, k4⟩ := hq
      cases ex with
      | normal => cases x <;> simp only [ExRel] at k3; exact absurd rfl hx
      | _ => exact ⟨φ', k1, k2, k3, k4⟩
    exact ⟨wpG_loop key, fun b hb => by cases hb; exact wpL_loop key⟩

end
end Go.Abs

/- The abstract machine: calls told in pieces; what is known of calls ahead; the way in. -/
namespace Go.Abs

/-! ### Forgetting, by a program -/

noncomputable def cutT (n : Nat) (t : T ABlk) : Nat → Nat → T ABlk :=
  T.rec (motive := fun _ => Nat → Nat → T ABlk) (fun _ _ => .nil)
    (fun _ v _ il ir a b => .node (il (Nat.mul 2 a) (Nat.add a b)) (ifB (Nat.blt b n) v none) (ir (Nat.mul 2 a) (Nat.add (Nat.mul 2 a) b))) t

noncomputable def allT (p : ABlk → Bool) (t : T ABlk) : Bool :=
  T.rec (motive := fun _ => Bool) true (fun _ v _ il ir => ifB (Option.rec (motive := fun _ => Bool) true p v) (ifB il ir false) false) t

theorem get_cutT (n : Nat) : ∀ (t : T ABlk) (a b m : Nat), (cutT n t a b).get m = if a * m + b < n then t.get m else none
  | .nil, a, b, m => by simp [cutT]
  | .node l v r, a, b, m => by
    have e : cutT n (.node l v r) a b = .node (cutT n l (2 * a) (a + b)) (ifB (Nat.blt b n) v none) (cutT n r (2 * a) (2 * a + b)) := rfl
    rw [e, T.get_node, T.get_node, get_cutT n l, get_cutT n r]
    simp only [T.ifB_eq, blt_iff, beq_iff]
    by_cases h0 : m = 0
    · subst h0; simp
    · rw [if_neg h0, if_neg h0]
      by_cases h1 : m % 2 = 1
      · rw [if_pos h1, if_pos h1]
        have : 2 * a * (m / 2) + (a + b) = a * m + b := by
          have hm : m = 2 * (m / 2) + 1 := by omega
          conv => rhs; rw [hm]
          rw [Nat.mul_add, Nat.mul_one, ← Nat.mul_assoc, Nat.mul_comm a 2]; omega
        rw [this]
      · rw [if_neg h1, if_neg h1]
        have : 2 * a * (m / 2 - 1) + (2 * a + b) = a * m + b := by
          have hm : m = 2 * (m / 2 - 1) + 2 := by omega
          conv => rhs; rw [hm]
          rw [Nat.mul_add, ← Nat.mul_assoc, Nat.mul_comm a 2]; omega
        rw [this]

theorem allT_get {p : ABlk → Bool} : ∀ {t : T ABlk}, allT p t = true → ∀ (m : Nat) (b : ABlk), t.get m = some b → p b = true
  | .nil, _, m, b, h => by simp at h
  | .node l v r, h, m, b, hg => by
    have e : allT p (.node l v r) = ifB (Option.rec (motive := fun _ => Bool) true p v) (ifB (allT p l) (allT p r) false) false := rfl
    rw [e, T.ifB_eq, T.ifB_eq] at h
    split at h
    · rename_i h1
      split at h
      · rename_i h2
        rw [T.get_node] at hg
        simp only [T.ifB_eq] at hg
        split at hg
        · subst hg; exact h1
        · split at hg
          · exact allT_get h2 _ b hg
          · exact allT_get h _ b hg
      · cases h
    · cases h

noncomputable def keepRegs (n : Nat) (r : Regs) : List Nat → Regs → Option Regs
  | [], acc => some acc
  | t :: ts, acc => bif AV.ltn n (r.val t) then keepRegs n r ts (T.put acc t (some (r.val t))) else none

theorem keepRegs_val (n : Nat) (r : Regs) : ∀ (ts : List Nat) (acc r' : Regs), keepRegs n r ts acc = some r' → (∀ t, acc.val t = .junk ∨ (acc.val t = r.val t ∧ (r.val t).ltn n = true)) → ∀ t, r'.val t = .junk ∨ (r'.val t = r.val t ∧ (r.val t).ltn n = true)
  | [], acc, r', h, ha, t => by simp only [keepRegs, Option.some.injEq] at h; subst h; exact ha t
  | u :: ts, acc, r', h, ha, t => by
    simp only [keepRegs] at h
    cases hl : AV.ltn n (r.val u) with
    | false => rw [hl] at h; cases h
    | true =>
      rw [hl] at h
      refine keepRegs_val n r ts _ r' h (fun t => ?_) t
      rw [val_put]
      by_cases ht : t = u
      · subst ht; rw [if_pos rfl]; exact .inr ⟨rfl, hl⟩
      · rw [if_neg ht]; exact ha t

/-- What is kept of a state: these places, and the blocks below a number. -/
noncomputable def gc (n : Nat) (keep : List Nat) (s : St) : Option St :=
  match s.defers, s.below with
  | [], none => bif Nat.ble n s.heap.next && allT (ABlk.ltn n) (cutT n s.heap.tbl 1 0) then
      (match keepRegs n s.regs keep .nil with | some r => some ⟨r, ⟨cutT n s.heap.tbl 1 0, n⟩, [], none⟩ | none => none) else none
  | _, _ => none

theorem gc_wk {n : Nat} {keep : List Nat} {s s' : St} (h : gc n keep s = some s') {k : Nat} (hk : k ≤ n) : Wk k s s' := by
  unfold gc at h
  split at h
  · rename_i hd hb
    cases hc : (Nat.ble n s.heap.next && allT (ABlk.ltn n) (cutT n s.heap.tbl 1 0)) with
    | false => rw [hc] at h; cases h
    | true =>
      rw [hc] at h
      rw [Bool.and_eq_true, ble_iff] at hc
      simp only [cond_true] at h
      split at h
      · rename_i r hr
        simp only [Option.some.injEq] at h
        subst h
        refine ⟨hk, hc.1, fun i hi => ?_, fun i b hb' => ?_, keepRegs_val n s.regs keep .nil r hr (fun t => .inl rfl), ⟨hd, rfl⟩, ⟨hb, rfl⟩⟩
        · unfold AHeap.get
          simp only
          rw [get_cutT, if_pos (by omega)]
        · unfold AHeap.get at hb'
          simp only at hb'
          have hl := allT_get hc.2 i b hb'
          rw [get_cutT] at hb'
          split at hb'
          · rename_i hi
            exact ⟨by simp only; omega, hb', hl⟩
          · cases hb'
      · cases h
  · cases h

section
variable [Fct] [Val]

/-! ### Calls -/

noncomputable def endOf (R : Runner) (as : List ARes) (x : AEx) (s : St) : Option (AEnd × AHeap) :=
  match x with
  | .normal => runDefers R as s.regs s.defers none s.heap
  | .ret => runDefers R as s.regs s.defers none s.heap
  | .panic c => runDefers R as s.regs s.defers (some c) s.heap
  | .exit _ => none

/-- What a call from a heap does. -/
def Con (P : Program) (ng : Nat) (f : FuncId) (args : List AV) (h : AHeap) (en : AEnd) (h' : AHeap) : Prop :=
  Callable P f ∧ ∀ φ w cargs, HRel ng φ h w → VRels φ args cargs.toList → Calls P f cargs w fun e w' => ∃ φ', HRel ng φ' h' w' ∧ Stp φ h w φ' h' w' ∧ EndRel φ' en e

theorem call_der {P : Program} {ng : Nat} {R : Runner} (hP : P.globals.size = ng) (hR : CallOk P ng R) (hRD : CallDOk P ng R) (hL : LoopOk P ng R) (hD : DrawOk P ng R) {f : FuncId} {fn : Func} {b : Code} {as : List ARes} {live : List Nat}
    (hfn : P.funcs[f]? = some fn) (hb : fn.body = some b) (hname : fn.name ≠ "runtime.NumGoroutine") (hrs : cRes P fn.results.toList = some as)
    {args : List AV} {h h' : AHeap} {x : AEx} {s' : St} {en : AEnd} (hnp : Nat.ble args.length (fn.params.size + fn.nfree) = true)
    (hd : Der P ng ⟨fn.ntmps, fn.params.size + fn.nfree, live⟩ R b ⟨argRegs args 0 .nil, h, [], none⟩ x s') (hr : endOf R as x s' = some (en, h')) : Con P ng f args h en h' := by
  refine ⟨⟨fn, hfn, hname, by rw [hb]; rfl⟩, fun φ w cargs H hv => ?_⟩
  rw [ble_iff] at hnp
  refine calls_of_wp_defers hfn hb (wp_of_wpG fun cs => ?_)
  let F : Frm := ⟨fn.ntmps, fn.params.size + fn.nfree, live⟩
  let B : Base := ⟨default, [], cs⟩
  have hs := start_ok (F := F) (B := B) (n := fn.ntmps) (bl := none) (cs := cs) H hv rfl hnp rfl
  refine (der_ok hP hR hL hD hd B φ _ cs w hs).1.mono fun e a' cs' w' hq => ?_
  obtain ⟨φ', k1, k2, k3, k4⟩ := hq
  have hbn : s'.below = none := by simpa using k4
  have hbel := k1.below
  rw [hbn] at hbel
  refine ⟨hbel, ?_⟩
  have hreg : ∀ t, VRel φ' (s'.regs.val t) (a'.tmps.getD t undef) := k1.ctx
  cases x with
  | normal =>
    cases e <;> simp only [ExRel] at k3
    exact defers_ok hRD hrs s'.defers none s'.heap hr φ' w' a'.defers .returning k1.heap k2 hreg k1.defers rfl
  | ret =>
    cases e <;> simp only [ExRel] at k3
    exact defers_ok hRD hrs s'.defers none s'.heap hr φ' w' a'.defers .returning k1.heap k2 hreg k1.defers rfl
  | panic c =>
    cases e <;> simp only [ExRel] at k3
    exact defers_ok hRD hrs s'.defers (some c) s'.heap hr φ' w' a'.defers (.panicking _) k1.heap k2 hreg k1.defers ⟨_, rfl, k3⟩
  | exit id => cases hr

/-- A function's code, told in pieces, by the runner of a program. -/
abbrev DerF (P : Program) (live : FuncId → List Nat) (O : Oracle) (n : Nat) (f : FuncId) (fn : Func) : Code → St → AEx → St → Prop :=
  Der P P.globals.size ⟨fn.ntmps, fn.params.size + fn.nfree, live f⟩ (runner (progOf P live O) n)

theorem con_der {P : Program} (hm : P.follows .mixedOrders = true) {live : FuncId → List Nat} {O : Oracle} (hO : OracleOk P P.globals.size O) (n : Nat) {f : FuncId} {fn : Func} {b : Code} {as : List ARes}
    (hfn : P.funcs[f]? = some fn) (hb : fn.body = some b) (hname : fn.name ≠ "runtime.NumGoroutine") (hrs : cRes P fn.results.toList = some as)
    {args : List AV} {h h' : AHeap} {x : AEx} {s' : St} {en : AEnd} (hnp : Nat.ble args.length (fn.params.size + fn.nfree) = true)
    (hd : DerF P live O n f fn b ⟨argRegs args 0 .nil, h, [], none⟩ x s') (hr : endOf (runner (progOf P live O) n) as x s' = some (en, h')) : Con P P.globals.size f args h en h' := by
  obtain ⟨hR, hRD, hL⟩ := runner_ok rfl hO (fun R hR => draw_ok hm rfl hR) (live := live) n
  exact call_der rfl hR hRD hL (draw_ok hm rfl hR) hfn hb hname hrs hnp hd hr

theorem con_run {P : Program} (hm : P.follows .mixedOrders = true) {live : FuncId → List Nat} {O : Oracle} (hO : OracleOk P P.globals.size O) (n : Nat) {f : FuncId} {args : List AV} {h h' : AHeap} {en : AEnd}
    (hr : (runner (progOf P live O) n).call f args h = some (en, h')) : Con P P.globals.size f args h en h' :=
  runner_sound hm rfl hO n f args h en h' hr

/-! ### What is known ahead -/

theorem oracle_none {P : Program} {ng : Nat} : OracleOk P ng fun _ _ _ => none := by intro f args h en h' hr; cases hr

/-- One function's contract ahead of others. -/
noncomputable def oneO (g : FuncId) (C : List AV → AHeap → Option (AEnd × AHeap)) (O : Oracle) : Oracle := fun f args h =>
  ifB (Nat.beq f g) (match C args h with | some r => some r | none => O f args h) (O f args h)

theorem oracle_one {P : Program} {ng : Nat} {g : FuncId} {C : List AV → AHeap → Option (AEnd × AHeap)} {O : Oracle} (hO : OracleOk P ng O) (hC : ∀ args h en h', C args h = some (en, h') → Con P ng g args h en h') : OracleOk P ng (oneO g C O) := by
  intro f args h en h' hr
  unfold oneO at hr
  rw [T.ifB_eq] at hr
  split at hr
  · rename_i hf
    rw [beq_iff] at hf
    subst hf
    split at hr
    · rename_i r hr'
      cases hr
      exact hC args h en h' hr'
    · exact hO f args h en h' hr
  · exact hO f args h en h' hr

/-- A heap of rows that nobody writes: their numbers, what they hold, their types. -/
abbrev Rows := List (Nat × List AV × TypeId)

noncomputable def heapOf (n : Nat) (l : Rows) : AHeap := ⟨l.foldr (fun x tb => T.put tb x.1 (some (.cells x.2.1.length (putsV x.2.1 .nil 0) x.2.2 true))) .nil, n⟩

theorem heapOf_get (n : Nat) : ∀ (l : Rows) (i : Nat) (b : ABlk), (heapOf n l).get i = some b → ∃ x ∈ l, x.1 = i ∧ b = .cells x.2.1.length (putsV x.2.1 .nil 0) x.2.2 true
  | [], i, b, h => by cases h
  | x :: l, i, b, h => by
    have e : (heapOf n (x :: l)).get i = if i = x.1 then some (.cells x.2.1.length (putsV x.2.1 .nil 0) x.2.2 true) else (heapOf n l).get i := T.get_put _ _ _ _
    rw [e] at h
    split at h
    · rename_i hi
      cases h
      exact ⟨x, by simp, hi.symm, rfl⟩
    · obtain ⟨y, h1, h2⟩ := heapOf_get n l i b h
      exact ⟨y, List.mem_cons_of_mem _ h1, h2⟩

/-- Do the rows lie below the heap's number, and name only such? -/
noncomputable def rowsIn (n : Nat) (l : Rows) : Bool := l.all fun x => Nat.blt x.1 n && AV.ltns n x.2.1

/-- Does a heap hold them? -/
noncomputable def subB (l : Rows) (h : AHeap) : Bool := l.all fun x => match h.get x.1 with
  | some (.cells m c t _) => Nat.ble x.2.1.length m && (Nat.beq x.2.2 t && AV.sames x.2.1 (getsV c x.2.1.length 0))
  | _ => false

/-- Does a heap hold what another one holds? -/
def Sub (h0 h : AHeap) : Prop := ∀ i b, h0.get i = some b → i < h0.next ∧ b.ltn h0.next = true ∧ ∃ m c t, b = .cells m c t true ∧ ∃ m' c' ro, m ≤ m' ∧ h.get i = some (.cells m' c' t ro) ∧ ∀ k, k < m → (c'.get k).getD .junk = (c.get k).getD .junk

theorem row_get (cs : List AV) (k : Nat) (hk : k < cs.length) : ((putsV cs .nil 0).get k).getD .junk = cs[k] := by
  rw [get_putsV, if_pos ⟨Nat.zero_le _, by omega⟩, Nat.sub_zero, List.getElem?_eq_getElem hk]; rfl

theorem sub_of {n : Nat} {l : Rows} (hr : rowsIn n l = true) {h : AHeap} (hs : subB l h = true) : Sub (heapOf n l) h := by
  intro i b hb
  obtain ⟨x, hx, rfl, rfl⟩ := heapOf_get n l i b hb
  unfold rowsIn at hr
  unfold subB at hs
  rw [List.all_eq_true] at hr hs
  have h1 := hr x hx
  have h2 := hs x hx
  rw [Bool.and_eq_true, blt_iff] at h1
  refine ⟨h1.1, ?_, _, _, _, rfl, ?_⟩
  · have : getsV (putsV x.2.1 .nil 0) x.2.1.length 0 = x.2.1 := by
      apply List.ext_getElem?
      intro k
      by_cases hk : k < x.2.1.length
      · rw [getElem?_getsV _ _ _ _ hk, Nat.zero_add, row_get _ _ hk, List.getElem?_eq_getElem hk]
      · rw [List.getElem?_eq_none (by rw [length_getsV]; omega), List.getElem?_eq_none (by omega)]
    unfold ABlk.ltn
    simp only
    rw [this]; exact h1.2
  · split at h2
    · rename_i m c t ro hg
      simp only [Bool.and_eq_true, ble_iff, beq_iff] at h2
      obtain ⟨k1, k2, k3⟩ := h2
      refine ⟨m, c, ro, k1, by rw [hg, k2], fun k hk => ?_⟩
      have := sames_eq _ _ k3
      rw [row_get _ _ hk]
      have h4 := getElem?_getsV c x.2.1.length 0 k hk
      rw [← this, List.getElem?_eq_getElem hk, Nat.zero_add] at h4
      exact (Option.some.inj h4).symm
    · cases h2

theorem sub_rel {ng : Nat} {φ : Phi} {h0 h : AHeap} {w : World} (H : HRel ng φ h w) (hs : Sub h0 h) (hng : ng ≤ h0.next) : HRel ng (cut h0.next φ) h0 w := by
  refine ⟨fun i hi => cut_ge φ hi, fun g hg => ?_, fun i b hb => ?_, fun i j b b' c p m p' m' hi hj hne ei ej => ?_, fun i c p m e => ?_, fun i b hb => (hs i b hb).1⟩
  · have := H.glob g hg
    unfold PtrOk at *
    rw [cut_lt φ (by omega)]; exact this
  · obtain ⟨h1, hlt, m, c, t, rfl, m', c', ro, hm, h2, hc⟩ := hs i b hb
    rw [cut_lt φ h1]
    rcases H.blk i _ h2 with e | ⟨bb, p, k, e, q⟩
    · exact .inl e
    · refine .inr ⟨bb, p, k, e, ?_⟩
      have := BRel.cut (n := h0.next) hlt (show BRel φ (.cells m c t true) bb p k w from ?_)
      · exact this
      · obtain ⟨vs, u, fz, k1, k2, k3, k4, k5, k6⟩ := q
        exact ⟨vs, u, fz, k1, k2, by omega, (fun j hj => by rw [← hc j hj]; exact k4 j (by omega)), (fun hh => by simp at hh), k6⟩
  · obtain ⟨_, _, m, c, t, rfl, _⟩ := hs i b hi
    obtain ⟨_, _, m, c, t, rfl, _⟩ := hs j b' hj
    exact ⟨rfl, rfl⟩
  · unfold cut at e
    split at e
    · exact H.lt i c p m e
    · cases e

theorem sub_noRW {h0 h : AHeap} (hs : Sub h0 h) (φ : Phi) (b : Nat) : ¬ RW φ h0 b := by
  rintro ⟨i, bl, o, n, hg, hro, _⟩
  obtain ⟨_, _, m, c, t, rfl, _⟩ := hs i bl hg
  cases hro

theorem Stp.pure {ng : Nat} {φ φ₀ φ' : Phi} {h h0 h1 : AHeap} {w w' : World} (H : HRel ng φ h w) (hs : Sub h0 h) (k : Stp φ₀ h0 w φ' h1 w') : HRel ng φ h w' ∧ Stp φ h w φ h w' := by
  have hsame : ∀ b, b < w.heap.size → w'.heap[b]? = w.heap[b]? := fun b hb => k.same b hb (sub_noRW hs φ₀ b)
  refine ⟨⟨H.fresh, H.glob, fun i b hb => (H.blk i b hb).imp id fun ⟨c, p, n, h1, h2⟩ => ⟨c, p, n, h1, h2.same (hsame c (H.lt i c p n h1))⟩, H.inj, fun i c p n e => Nat.lt_of_lt_of_le (H.lt i c p n e) k.size, H.dom⟩, ?_⟩
  exact ⟨Ext.refl _, k.os, k.tape, k.output, k.size, fun b hb _ => hsame b hb, fun _ h _ => h, fun _ _ e => ⟨rfl, e⟩, Nat.le_refl _⟩

/-- A call that answers what names nothing, from a heap that nobody writes: it answers so wherever that is held, and changes nothing. -/
theorem con_pure {P : Program} {ng : Nat} {f : FuncId} {args : List AV} {h0 h1 : AHeap} {v : AV} (hc : Con P ng f args h0 (.returned v) h1) (hng : ng ≤ h0.next) (ha : AV.ltns h0.next args = true) (hv : AV.ltn 0 v = true) {h : AHeap} (hs : Sub h0 h) :
    Con P ng f args h (.returned v) h := by
  refine ⟨hc.1, fun φ w cargs H hva => ?_⟩
  refine (hc.2 (cut h0.next φ) w cargs (sub_rel H hs hng) (ltns_cut _ _ ha hva)).mono fun e w' he => ?_
  obtain ⟨φ', k1, k2, k3⟩ := he
  obtain ⟨j1, j2⟩ := Stp.pure H hs k2
  refine ⟨φ, j1, j2, ?_⟩
  cases e with
  | returned cv =>
    have := ltn_cut v cv hv k3
    exact VRel.mono (fun i => by rw [cut_ge φ' (Nat.zero_le i)]; trivial) _ _ this
  | panicked _ => exact k3.elim
  | outgrown => exact k3.elim

/-- A call that makes something of which nothing more is asked. -/
theorem con_dead {P : Program} {ng : Nat} {f : FuncId} {args : List AV} {h0 h1 : AHeap} {i o : Nat} (hc : Con P ng f args h0 (.returned (.ptr (some (i, o)))) h1) (hng : ng ≤ h0.next) (ha : AV.ltns h0.next args = true) {h : AHeap} (hs : Sub h0 h) :
    Con P ng f args h (.returned (.ptr (some (h.next, 0)))) ⟨h.tbl, h.next + 1⟩ := by
  refine ⟨hc.1, fun φ w cargs H hva => ?_⟩
  refine (hc.2 (cut h0.next φ) w cargs (sub_rel H hs hng) (ltns_cut _ _ ha hva)).mono fun e w' he => ?_
  obtain ⟨φ', k1, k2, k3⟩ := he
  obtain ⟨j1, j2⟩ := Stp.pure H hs k2
  have hun : φ h.next = .un := H.fresh _ (Nat.le_refl _)
  have hext : Ext φ (upd φ h.next .dead) := Ext.upd (by rw [hun]; trivial)
  have hat : ∀ j c p n, upd φ h.next .dead j = .at c p n → j ≠ h.next ∧ φ j = .at c p n := by
    intro j c p n e
    by_cases hj : j = h.next
    · subst hj; rw [upd_same] at e; cases e
    · rw [upd_other φ _ hj] at e; exact ⟨hj, e⟩
  have hget : ∀ j, (⟨h.tbl, h.next + 1⟩ : AHeap).get j = h.get j := fun j => rfl
  refine ⟨upd φ h.next .dead, ⟨fun j hj => ?_, fun g hg => (H.glob g hg).mono hext, fun j b hb => ?_, fun j k b b' c p m p' m' hj hk hne ej ek => ?_, fun j c p n e => j1.lt j c p n (hat j c p n e).2, fun j b hb => ?_⟩, ⟨hext, j2.os, j2.tape, j2.output, j2.size, j2.same, fun b ⟨j, bl, p, n, hg, hro, e⟩ hb => ?_, fun j hj e => ⟨rfl, ?_⟩, Nat.le_succ _⟩, ?_⟩
  · simp only at hj
    rw [upd_other φ _ (by omega)]; exact H.fresh j (by omega)
  · rw [hget] at hb
    have hj := H.dom j b hb
    rw [upd_other φ _ (by omega)]
    exact (j1.blk j b hb).imp id fun ⟨c, p, n, h1, h2⟩ => ⟨c, p, n, h1, h2.mono hext⟩
  · exact H.inj j k b b' c p m p' m' hj hk hne (hat j c p m ej).2 (hat k c p' m' ek).2
  · have := H.dom j b hb
    simp only; omega
  · exact ⟨j, bl, p, n, hg, hro, (hat j b p n e).2⟩
  · rw [upd_other φ _ (by omega)]; exact e
  · cases e with
    | returned cv =>
      obtain ⟨a, rfl, _⟩ := k3
      exact ⟨a, rfl, by unfold PtrOk; rw [upd_same]; trivial⟩
    | panicked _ => exact k3.elim
    | outgrown => exact k3.elim

/-- A heap that holds nothing. -/
theorem sub_nil (n : Nat) (h : AHeap) : Sub ⟨.nil, n⟩ h := by intro i b hb; cases hb

/-! ### The way in -/

/-- From a heap that holds nothing: whatever world there is. -/
theorem enter_nil {P : Program} {ng : Nat} {f : FuncId} {args : List AV} {n : Nat} {v : AV} {h1 : AHeap} (hc : Con P ng f args ⟨.nil, n⟩ (.returned v) h1) (hng : ng ≤ n) {w : World} {cargs : Array Value} (hv : VRels (fun i => if i < n then .dead else .un) args cargs.toList) {cv : Value} (hcv : ∀ φ u, VRel φ v u → u = cv) :
    Calls P f cargs w fun e w' => e = .returned cv ∧ RowKit.Below w.heap.size w w' := by
  have H : HRel ng (fun i => if i < n then .dead else .un) ⟨.nil, n⟩ w := by
    refine ⟨fun i hi => ?_, fun g hg => ?_, fun i b hb => ?_, fun i j b b' c p m p' m' hi => ?_, fun i c p m e => ?_, fun i b hb => ?_⟩
    · simp only at hi ⊢
      rw [if_neg (by omega)]
    · unfold PtrOk
      simp only [show g < n by omega, if_true]
    · cases hb
    · cases hi
    · split at e <;> cases e
    · cases hb
  refine (hc.2 _ w cargs H hv).mono fun e w' he => ?_
  obtain ⟨φ', k1, k2, k3⟩ := he
  cases e with
  | returned u =>
    refine ⟨by rw [hcv φ' u k3], k2.os, k2.tape, k2.output, k2.size, fun b hb => k2.same b hb ?_⟩
    rintro ⟨i, bl, o, m, hg, _⟩
    cases hg
  | panicked _ => exact k3.elim
  | outgrown => exact k3.elim

/-- From a heap that holds rows of package-level variables: whatever world holds them. -/
theorem enter_rows {P : Program} {ng : Nat} {f : FuncId} {args : List AV} {n : Nat} {rows : Rows} {v : AV} {h1 : AHeap} (hc : Con P ng f args (heapOf n rows) (.returned v) h1) (hng : ng ≤ n) (hin : rowsIn n rows = true) {w : World}
    (hw : ∀ x ∈ rows, x.2.2 = 0 ∧ ∃ vs u fz, w.heap[x.1]? = some (.cells vs u fz) ∧ x.2.1.length ≤ vs.size ∧ ∀ (k : Nat) (a : AV), x.2.1[k]? = some a → ∃ c, vs[k]? = some c ∧ ∀ φ, VRel φ a c)
    {cargs : Array Value} (hv : ∀ φ, VRels φ args cargs.toList) {cv : Value} (hcv : ∀ φ u, VRel φ v u → u = cv) :
    Calls P f cargs w fun e w' => e = .returned cv ∧ RowKit.Below w.heap.size w w' := by
  classical
  let φ : Phi := fun i => if i < n then (match w.heap[i]? with | some (.cells vs _ _) => .at i 0 vs.size | _ => .dead) else .un
  have hφ : ∀ i c p m, φ i = .at c p m → c = i ∧ p = 0 ∧ i < w.heap.size := by
    intro i c p m e
    simp only [φ] at e
    split at e
    · split at e
      · rename_i vs _ _ hg
        cases e
        exact ⟨rfl, rfl, (Array.getElem?_eq_some_iff.1 hg).1⟩
      · cases e
    · cases e
  have hro : ∀ i b, (heapOf n rows).get i = some b → b.ro = true := by
    intro i b hb
    obtain ⟨x, _, _, rfl⟩ := heapOf_get n rows i b hb
    rfl
  have hdom : ∀ i b, (heapOf n rows).get i = some b → i < n := by
    intro i b hb
    obtain ⟨x, hx, rfl, _⟩ := heapOf_get n rows i b hb
    unfold rowsIn at hin
    rw [List.all_eq_true] at hin
    have := hin x hx
    rw [Bool.and_eq_true, blt_iff] at this
    exact this.1
  have H : HRel ng φ (heapOf n rows) w := by
    refine ⟨fun i hi => ?_, fun g hg => ?_, fun i b hb => ?_, fun i j b b' c p m p' m' hi hj _ _ _ => ⟨hro i b hi, hro j b' hj⟩, fun i c p m e => ?_, hdom⟩
    · have : n ≤ i := hi
      simp only [φ]
      rw [if_neg (by omega)]
    · unfold PtrOk
      simp only [φ]
      rw [if_pos (by omega)]
      split
      · rename_i hh; split at hh <;> cases hh
      · trivial
      · rename_i hh
        split at hh
        · cases hh; rfl
        · cases hh
    · have hi := hdom i b hb
      obtain ⟨x, hx, rfl, rfl⟩ := heapOf_get n rows i b hb
      obtain ⟨hz, vs, u, fz, hg, hlen, hcell⟩ := hw x hx
      refine .inr ⟨x.1, 0, vs.size, by simp only [φ]; rw [if_pos hi, hg], vs, u, fz, hg, by omega, hlen, fun k hk => ?_, fun hh => (by simp at hh), fun hh => absurd hz hh⟩
      obtain ⟨c, h1, h2⟩ := hcell k _ (List.getElem?_eq_getElem hk)
      rw [row_get _ _ hk]
      exact ⟨c, by rw [Nat.zero_add]; exact h1, h2 φ⟩
    · have := hφ i c p m e
      omega
  refine (hc.2 φ w cargs H (hv φ)).mono fun e w' he => ?_
  obtain ⟨φ', k1, k2, k3⟩ := he
  cases e with
  | returned u =>
    refine ⟨by rw [hcv φ' u k3], k2.os, k2.tape, k2.output, k2.size, fun b hb => k2.same b hb ?_⟩
    rintro ⟨i, bl, o, m, hg, hr, _⟩
    rw [hro i bl hg] at hr
    cases hr
  | panicked _ => exact k3.elim
  | outgrown => exact k3.elim

/-- A heap of rows that nobody writes stands to a world that holds them. -/
theorem hrel_rows {ng n : Nat} {φ : Phi} {rows : Rows} {w : World} (hf : ∀ i, n ≤ i → φ i = .un) (hg : ∀ g, g < ng → PtrOk φ g 0 ⟨g, 0, none⟩) (hlt : ∀ i c p m, φ i = .at c p m → c < w.heap.size) (hin : rowsIn n rows = true)
    (hr : ∀ x ∈ rows, x.2.2 = 0 ∧ ∃ c p m vs u fz, φ x.1 = .at c p m ∧ w.heap[c]? = some (.cells vs u fz) ∧ vs.size = p + m ∧ x.2.1.length ≤ m ∧ ∀ (k : Nat) (a : AV), x.2.1[k]? = some a → ∃ cv, vs[p + k]? = some cv ∧ VRel φ a cv) :
    HRel ng φ (heapOf n rows) w := by
  have hro : ∀ i b, (heapOf n rows).get i = some b → b.ro = true := by
    intro i b hb
    obtain ⟨x, _, _, rfl⟩ := heapOf_get n rows i b hb
    rfl
  refine ⟨hf, hg, fun i b hb => ?_, fun i j b b' c p m p' m' hi hj _ _ _ => ⟨hro i b hi, hro j b' hj⟩, hlt, fun i b hb => ?_⟩
  · obtain ⟨x, hx, rfl, rfl⟩ := heapOf_get n rows i b hb
    obtain ⟨hz, c, p, m, vs, u, fz, h1, h2, h3, h4, h5⟩ := hr x hx
    refine .inr ⟨c, p, m, h1, vs, u, fz, h2, h3, h4, fun k hk => ?_, fun hh => (by simp at hh), fun hh => absurd hz hh⟩
    obtain ⟨cv, h6, h7⟩ := h5 k _ (List.getElem?_eq_getElem hk)
    rw [row_get _ _ hk]
    exact ⟨cv, h6, h7⟩
  · obtain ⟨x, hx, rfl, _⟩ := heapOf_get n rows i b hb
    unfold rowsIn at hin
    rw [List.all_eq_true] at hin
    have := hin x hx
    rw [Bool.and_eq_true, blt_iff] at this
    exact this.1

/-- The way in, from rows that nobody writes. -/
theorem enter_ro {P : Program} {ng : Nat} {f : FuncId} {args : List AV} {n : Nat} {rows : Rows} {v : AV} {h1 : AHeap} (hc : Con P ng f args (heapOf n rows) (.returned v) h1) {φ : Phi} {w : World} (H : HRel ng φ (heapOf n rows) w)
    {cargs : Array Value} (hv : VRels φ args cargs.toList) {cv : Value} (hcv : ∀ φ u, VRel φ v u → u = cv) :
    Calls P f cargs w fun e w' => e = .returned cv ∧ RowKit.Below w.heap.size w w' := by
  refine (hc.2 φ w cargs H hv).mono fun e w' he => ?_
  obtain ⟨φ', k1, k2, k3⟩ := he
  cases e with
  | returned u =>
    refine ⟨by rw [hcv φ' u k3], k2.os, k2.tape, k2.output, k2.size, fun b hb => k2.same b hb ?_⟩
    rintro ⟨i, bl, o, m, hg, hr, _⟩
    obtain ⟨x, _, _, rfl⟩ := heapOf_get n rows i bl hg
    cases hr
  | panicked _ => exact k3.elim
  | outgrown => exact k3.elim

end
end Go.Abs

/- The abstract machine: what is known of a call wherever its arguments hold the same, and of whose answer the memory is forgotten. -/
namespace Go.Abs

mutual
/-- A value, all that it leads to forgotten: 'd' is a block of which nothing is known. -/
def deadify (d : Nat) : AV → AV
  | .ptr (some _) => .ptr (some (d, 0))
  | .xptr _ _ _ _ => .xptr d 0 0 0
  | .xsl _ _ _ _ esz lid loff => .xsl d 0 0 0 esz lid loff
  | .sl (some _) e l c x => .sl (some (d, 0)) e l c x
  | .map (some _) => .map (some d)
  | .fn f a b => .fn f (deadifys d a) (deadifys d b)
  | .iface t v => .iface t (deadify d v)
  | .agg cs => .agg (deadifys d cs)
  | .tup cs => .tup (deadifys d cs)
  | v => v
def deadifys (d : Nat) : List AV → List AV
  | [] => []
  | v :: vs => deadify d v :: deadifys d vs
end

mutual
theorem deadify_twice (d e : Nat) : ∀ x : AV, deadify d (deadify e x) = deadify d x
  | .bool _ => rfl
  | .int _ _ => rfl
  | .sym _ _ _ => rfl
  | .rest _ _ _ _ => rfl
  | .ex _ _ _ => rfl
  | .any _ => rfl
  | .xptr _ _ _ _ => rfl
  | .xsl _ _ _ _ _ _ _ => rfl
  | .str _ => rfl
  | .sstr _ => rfl
  | .ptr none => rfl
  | .ptr (some _) => rfl
  | .sl none _ _ _ _ => rfl
  | .sl (some _) _ _ _ _ => rfl
  | .map none => rfl
  | .map (some _) => rfl
  | .fn f a b => by simp only [deadify, deadifys_twice d e a, deadifys_twice d e b]
  | .nilFn => rfl
  | .iface t v => by simp only [deadify, deadify_twice d e v]
  | .nilIface => rfl
  | .agg cs => by simp only [deadify, deadifys_twice d e cs]
  | .tup cs => by simp only [deadify, deadifys_twice d e cs]
  | .junk => rfl
theorem deadifys_twice (d e : Nat) : ∀ x : List AV, deadifys d (deadifys e x) = deadifys d x
  | [] => rfl
  | v :: vs => by simp only [deadifys, deadify_twice d e v, deadifys_twice d e vs]
end

section
variable [Fct] [Val]

mutual
theorem deadify_ok {φ φ' : Phi} {d : Nat} (hd : φ' d = .dead) : ∀ (x : AV) (v : Value), VRel φ x v → VRel φ' (deadify d x) v
  | .bool _, _, k => k
  | .int _ _, _, k => k
  | .sym _ _ _, _, k => k
  | .rest _ _ _ _, _, k => k
  | .ex _ _ _, _, k => k
  | .any _, _, k => k
  | .xptr i id sc off, _, ⟨h0, a, e, k⟩ => ⟨by rw [Val.num0]; simp, a, e, by unfold PtrOk; rw [hd]; trivial⟩
  | .xsl i id sc off esz lid loff, _, ⟨h0, h1, a, c, e, h2, k⟩ => ⟨by rw [Val.num0]; simp, h1, a, c, e, h2, by unfold SlOk; rw [hd]; trivial⟩
  | .str _, _, k => k
  | .sstr l, _, k => by
    obtain ⟨s, e, h⟩ := k
    refine ⟨s, e, ?_⟩
    have : ∀ (l : List AV) (s : List UInt8), VRels φ l (s.map fun b => .int .u8 b.toNat) → VRels φ' l (s.map fun b => .int .u8 b.toNat) := by
      intro l
      induction l with
      | nil => intro s h; exact h
      | cons a l ih =>
        intro s h
        obtain ⟨v, r, hs, h1, h2⟩ := h
        cases s with
        | nil => simp at hs
        | cons b s =>
          simp only [List.map_cons, List.cons.injEq] at hs
          obtain ⟨rfl, rfl⟩ := hs
          refine ⟨_, _, rfl, ?_, ih s h2⟩
          cases a with
          | int k n => exact h1
          | sym k i n => exact h1
          | rest k m i n => exact h1
          | ex k i o => exact h1
          | any p => exact h1
          | xptr i a s o => obtain ⟨_, _, h1, _⟩ := h1; cases h1
          | xsl i a s o e l c => obtain ⟨_, _, _, _, h1, _⟩ := h1; cases h1
          | junk => trivial
          | bool b => simp [VRel] at h1
          | str s => simp [VRel] at h1
          | nilFn => simp [VRel] at h1
          | nilIface => simp [VRel] at h1
          | sstr l => obtain ⟨_, h1, _⟩ := h1; cases h1
          | fn f x y => obtain ⟨_, _, h1, _⟩ := h1; cases h1
          | iface t x => obtain ⟨_, h1, _⟩ := h1; cases h1
          | agg x => obtain ⟨_, h1, _⟩ := h1; cases h1
          | tup x => obtain ⟨_, h1, _⟩ := h1; cases h1
          | ptr p =>
            cases p with
            | none => simp [VRel] at h1
            | some p => obtain ⟨i, o⟩ := p; obtain ⟨_, h1, _⟩ := h1; cases h1
          | sl p e l c x =>
            cases p with
            | none => obtain ⟨h1, _⟩ := h1; cases h1
            | some p => obtain ⟨i, o⟩ := p; obtain ⟨_, _, h1, _⟩ := h1; cases h1
          | map p =>
            cases p with
            | none => simp [VRel] at h1
            | some i => obtain ⟨_, h1, _⟩ := h1; cases h1
    exact this l s h
  | .ptr none, _, k => k
  | .ptr (some (i, o)), _, ⟨a, e, k⟩ => ⟨a, e, by unfold PtrOk; rw [hd]; trivial⟩
  | .sl none _ _ _ _, _, k => k
  | .sl (some (i, o)) _ _ _ _, _, ⟨a, c, e, h0, h1, h2, k⟩ => ⟨a, c, e, h0, h1, h2, by unfold SlOk; rw [hd]; trivial⟩
  | .map none, _, k => k
  | .map (some i), _, ⟨r, e, k⟩ => ⟨r, e, by unfold MapOk; rw [hd]; trivial⟩
  | .fn _ x y, _, ⟨a, b, e, k, l⟩ => ⟨a, b, e, deadifys_ok hd x _ k, deadifys_ok hd y _ l⟩
  | .nilFn, _, k => k
  | .iface _ x, _, ⟨y, e, k⟩ => ⟨y, e, deadify_ok hd x y k⟩
  | .nilIface, _, k => k
  | .agg cs, _, ⟨vs, e, k⟩ => ⟨vs, e, deadifys_ok hd cs _ k⟩
  | .tup cs, _, ⟨vs, e, k⟩ => ⟨vs, e, deadifys_ok hd cs _ k⟩
  | .junk, _, _ => trivial
theorem deadifys_ok {φ φ' : Phi} {d : Nat} (hd : φ' d = .dead) : ∀ (x : List AV) (v : List Value), VRels φ x v → VRels φ' (deadifys d x) v
  | [], _, k => k
  | c :: cs, _, ⟨v, r, e, k, l⟩ => ⟨v, r, e, deadify_ok hd c v k, deadifys_ok hd cs r l⟩
end

/-- The blocks of a run from rows, by those of the world in which they lie. -/
def renPhi (n : Nat) (ρ : Nat → Option Nat) (φ : Phi) : Phi := fun i => if i < n then (match ρ i with | some j => φ j | none => .dead) else .un

/-- Does a heap hold the rows, each where 'ρ' says? -/
noncomputable def renB (rows : Rows) (ρ : Nat → Option Nat) (h : AHeap) : Bool := rows.all fun x => match ρ x.1 with
  | some j => (match h.get j with
    | some (.cells m c t _) => Nat.ble x.2.1.length m && (Nat.beq x.2.2 0 && (AV.ltns 0 x.2.1 && AV.sames x.2.1 (getsV c x.2.1.length 0)))
    | _ => false)
  | none => false

theorem ren_rel {ng n : Nat} {rows : Rows} {ρ : Nat → Option Nat} {φ : Phi} {h : AHeap} {w : World} (H : HRel ng φ h w) (hin : rowsIn n rows = true) (hs : renB rows ρ h = true) (hng : ng ≤ n) (hρ : ∀ g, g < ng → ρ g = some g ∨ ρ g = none) : HRel ng (renPhi n ρ φ) (heapOf n rows) w := by
  have hro : ∀ i b, (heapOf n rows).get i = some b → b.ro = true := by
    intro i b hb
    obtain ⟨x, _, _, rfl⟩ := heapOf_get n rows i b hb
    rfl
  have hlt : ∀ i b, (heapOf n rows).get i = some b → i < n := by
    intro i b hb
    obtain ⟨x, hx, rfl, _⟩ := heapOf_get n rows i b hb
    unfold rowsIn at hin
    rw [List.all_eq_true] at hin
    have := hin x hx
    rw [Bool.and_eq_true, blt_iff] at this
    exact this.1
  refine ⟨fun i hi => ?_, fun g hg => ?_, fun i b hb => ?_, fun i j b b' c p m p' m' hi hj _ _ _ => ⟨hro i b hi, hro j b' hj⟩, fun i c p m e => ?_, hlt⟩
  · have : n ≤ i := hi
    unfold renPhi; rw [if_neg (by omega)]
  · have hg' := H.glob g hg
    unfold PtrOk renPhi at *
    rw [if_pos (by omega)]
    rcases hρ g hg with e | e <;> rw [e]
    · exact hg'
    · trivial
  · have hi := hlt i b hb
    obtain ⟨x, hx, rfl, rfl⟩ := heapOf_get n rows i b hb
    unfold renB at hs
    rw [List.all_eq_true] at hs
    have hs := hs x hx
    split at hs
    · rename_i j hj
      split at hs
      · rename_i m c t ro hg
        simp only [Bool.and_eq_true, ble_iff, beq_iff] at hs
        obtain ⟨h1, h2, h3, h4⟩ := hs
        have hφi : renPhi n ρ φ x.1 = φ j := by unfold renPhi; rw [if_pos hi, hj]
        rw [hφi]
        rcases H.blk j _ hg with e | ⟨bb, p, k, e, q⟩
        · exact .inl e
        · refine .inr ⟨bb, p, k, e, ?_⟩
          obtain ⟨vs, u, fz, k1, k2, k3, k4, k5, k6⟩ := q
          refine ⟨vs, u, fz, k1, k2, by omega, fun q hq => ?_, (fun hh => by simp at hh), fun hh => absurd h2 hh⟩
          obtain ⟨v, hv, hr⟩ := k4 q (by omega)
          refine ⟨v, hv, ?_⟩
          rw [row_get _ _ hq]
          have h5 := getElem?_getsV c x.2.1.length 0 q hq
          rw [← sames_eq _ _ h4, List.getElem?_eq_getElem hq, Nat.zero_add] at h5
          rw [← Option.some.inj h5] at hr
          have hl := ltns_get h3 q _ (List.getElem?_eq_getElem hq)
          have := ltn_cut _ _ hl hr
          exact VRel.mono (fun i => by rw [cut_ge φ (Nat.zero_le i)]; trivial) _ _ this
      · cases hs
    · cases hs
  · unfold renPhi at e
    split at e
    · split at e
      · exact H.lt _ c p m e
      · cases e
    · cases e

/-- What a call from rows answers, it answers wherever they lie; of what its answer leads to nothing is kept. -/
theorem con_ren {P : Program} {ng n : Nat} {f : FuncId} {args0 args : List AV} {rows : Rows} {ρ : Nat → Option Nat} {h1 : AHeap} {v : AV} (hc : Con P ng f args0 (heapOf n rows) (.returned v) h1) (hng : ng ≤ n) (hin : rowsIn n rows = true) (hρ : ∀ g, g < ng → ρ g = some g ∨ ρ g = none)
    {h : AHeap} (hs : renB rows ρ h = true) (ha : ∀ φ cargs, VRels φ args cargs → VRels (renPhi n ρ φ) args0 cargs) :
    Con P ng f args h (.returned (deadify h.next v)) ⟨h.tbl, h.next + 1⟩ := by
  refine ⟨hc.1, fun φ w cargs H hva => ?_⟩
  refine (hc.2 (renPhi n ρ φ) w cargs (ren_rel H hin hs hng hρ) (ha φ _ hva)).mono fun e w' he => ?_
  obtain ⟨φ', k1, k2, k3⟩ := he
  have hnoRW : ∀ b, ¬ RW (renPhi n ρ φ) (heapOf n rows) b := by
    rintro b ⟨i, bl, o, m, hg, hro, _⟩
    obtain ⟨x, _, _, rfl⟩ := heapOf_get n rows i bl hg
    cases hro
  have hsame : ∀ b, b < w.heap.size → w'.heap[b]? = w.heap[b]? := fun b hb => k2.same b hb (hnoRW b)
  have j1 : HRel ng φ h w' := ⟨H.fresh, H.glob, fun i b hb => (H.blk i b hb).imp id fun ⟨c, p, n, h1, h2⟩ => ⟨c, p, n, h1, h2.same (hsame c (H.lt i c p n h1))⟩, H.inj, fun i c p n e => Nat.lt_of_lt_of_le (H.lt i c p n e) k2.size, H.dom⟩
  have j2 : Stp φ h w φ h w' := ⟨Ext.refl _, k2.os, k2.tape, k2.output, k2.size, fun b hb _ => hsame b hb, fun _ h _ => h, fun _ _ e => ⟨rfl, e⟩, Nat.le_refl _⟩
  have hun : φ h.next = .un := H.fresh _ (Nat.le_refl _)
  have hext : Ext φ (upd φ h.next .dead) := Ext.upd (by rw [hun]; trivial)
  have hat : ∀ j c p n, upd φ h.next .dead j = .at c p n → j ≠ h.next ∧ φ j = .at c p n := by
    intro j c p n e
    by_cases hj : j = h.next
    · subst hj; rw [upd_same] at e; cases e
    · rw [upd_other φ _ hj] at e; exact ⟨hj, e⟩
  have hget : ∀ j, (⟨h.tbl, h.next + 1⟩ : AHeap).get j = h.get j := fun j => rfl
  refine ⟨upd φ h.next .dead, ⟨fun j hj => ?_, fun g hg => (H.glob g hg).mono hext, fun j b hb => ?_, fun j k b b' c p m p' m' hj hk hne ej ek => ?_, fun j c p n e => j1.lt j c p n (hat j c p n e).2, fun j b hb => ?_⟩, ⟨hext, j2.os, j2.tape, j2.output, j2.size, j2.same, fun b ⟨j, bl, p, n, hg, hro, e⟩ hb => ?_, fun j hj e => ⟨rfl, ?_⟩, Nat.le_succ _⟩, ?_⟩
  · simp only at hj
    rw [upd_other φ _ (by omega)]; exact H.fresh j (by omega)
  · rw [hget] at hb
    have hj := H.dom j b hb
    rw [upd_other φ _ (by omega)]
    exact (j1.blk j b hb).imp id fun ⟨c, p, n, h1, h2⟩ => ⟨c, p, n, h1, h2.mono hext⟩
  · exact H.inj j k b b' c p m p' m' hj hk hne (hat j c p m ej).2 (hat k c p' m' ek).2
  · have := H.dom j b hb
    simp only; omega
  · exact ⟨j, bl, p, n, hg, hro, (hat j b p n e).2⟩
  · rw [upd_other φ _ (by omega)]; exact e
  · cases e with
    | returned cv => exact deadify_ok (upd_same _ _ _) v cv k3
    | panicked _ => exact k3.elim
    | outgrown => exact k3.elim

end
end Go.Abs

/- The abstract machine: a state told anew: the same, but for what is forgotten; loops, so many rounds at once. -/
namespace Go.Abs

/-! ### A state, told by lists -/

/-- Blocks: their numbers, cells, types; may nobody write them? -/
abbrev Blocks := List (Nat × List AV × TypeId × Bool)

noncomputable def heapB (n : Nat) (l : Blocks) : AHeap := ⟨l.foldr (fun x tb => T.put tb x.1 (some (.cells x.2.1.length (putsV x.2.1 .nil 0) x.2.2.1 x.2.2.2))) .nil, n⟩

theorem heapB_get (n : Nat) : ∀ (l : Blocks) (i : Nat) (b : ABlk), (heapB n l).get i = some b → ∃ x ∈ l, x.1 = i ∧ b = .cells x.2.1.length (putsV x.2.1 .nil 0) x.2.2.1 x.2.2.2
  | [], i, b, h => by cases h
  | x :: l, i, b, h => by
    have e : (heapB n (x :: l)).get i = if i = x.1 then some (.cells x.2.1.length (putsV x.2.1 .nil 0) x.2.2.1 x.2.2.2) else (heapB n l).get i := T.get_put _ _ _ _
    rw [e] at h
    split at h
    · rename_i hi
      cases h
      exact ⟨x, by simp, hi.symm, rfl⟩
    · obtain ⟨y, h1, h2⟩ := heapB_get n l i b h
      exact ⟨y, List.mem_cons_of_mem _ h1, h2⟩

noncomputable def regsB (l : List (Nat × AV)) : Regs := l.foldr (fun x r => T.put r x.1 (some x.2)) .nil

theorem regsB_val : ∀ (l : List (Nat × AV)) (t : Nat), (regsB l).val t = .junk ∨ ∃ x ∈ l, x.1 = t ∧ (regsB l).val t = x.2
  | [], t => .inl rfl
  | x :: l, t => by
    have e : (regsB (x :: l)).val t = if t = x.1 then x.2 else (regsB l).val t := val_put _ _ _ _
    rw [e]
    split
    · rename_i ht
      exact .inr ⟨x, by simp, ht.symm, rfl⟩
    · rcases regsB_val l t with h | ⟨y, h1, h2, h3⟩
      · exact .inl h
      · exact .inr ⟨y, List.mem_cons_of_mem _ h1, h2, h3⟩

noncomputable def stB (n : Nat) (regs : List (Nat × AV)) (blocks : Blocks) (df : List ADef) : St := ⟨regsB regs, heapB n blocks, df, none⟩

/-- Below this number nothing is forgotten, and all is the same tree. -/
noncomputable def sameT : T AV → T AV → Bool
  | .nil, .nil => true
  | .node l v r, .node l' v' r' => sameT l l' && (sameT r r' && (match v, v' with
    | none, none => true
    | some a, some b => AV.same a b
    | _, _ => false))
  | _, _ => false

theorem sameT_eq [Fct] [Val] : ∀ (a b : T AV), sameT a b = true → a = b
  | .nil, .nil, _ => rfl
  | .nil, .node _ _ _, h => by simp [sameT] at h
  | .node _ _ _, .nil, h => by simp [sameT] at h
  | .node l v r, .node l' v' r', h => by
    simp only [sameT, Bool.and_eq_true] at h
    obtain ⟨h1, h2, h3⟩ := h
    rw [sameT_eq l l' h1, sameT_eq r r' h2]
    congr 1
    split at h3
    · rfl
    · rw [same_eq _ _ h3]
    · cases h3

noncomputable def defsSame : List ADef → List ADef → Bool
  | [], [] => true
  | a :: x, b :: y => Nat.beq a.f b.f && (AV.sames a.args b.args && defsSame x y)
  | _, _ => false

theorem defsSame_eq [Fct] [Val] : ∀ (a b : List ADef), defsSame a b = true → a = b
  | [], [], _ => rfl
  | [], _ :: _, h => by simp [defsSame] at h
  | _ :: _, [], h => by simp [defsSame] at h
  | ⟨f, x⟩ :: l, ⟨g, y⟩ :: m, h => by
    simp only [defsSame, Bool.and_eq_true, beq_iff] at h
    obtain ⟨h1, h2, h3⟩ := h
    rw [h1, sames_eq _ _ h2, defsSame_eq l m h3]

/-- Are all kept blocks below 'k' the very same, and is none left out? -/
noncomputable def keepB (k : Nat) (a b : AHeap) : Bool := (List.range k).all fun i => match a.get i, b.get i with
  | none, none => true
  | some (.cells m c t ro), some (.cells m' c' t' ro') => Nat.beq m m' && (Nat.beq t t' && (ro == ro' && sameT c c'))
  | _, _ => false

noncomputable def wkB (k n : Nat) (regs : List (Nat × AV)) (blocks : Blocks) (df : List ADef) (s : St) : Bool :=
  Nat.ble k n && (Nat.ble n s.heap.next && (keepB k (heapB n blocks) s.heap &&
    (regs.all (fun x => AV.ltn n x.2 && AV.same x.2 (s.regs.val x.1)) &&
    (blocks.all (fun x => Nat.blt x.1 n && (AV.ltns n x.2.1 && (match s.heap.get x.1 with
      | some (.cells m c t ro) => Nat.beq x.2.1.length m && (Nat.beq x.2.2.1 t && (x.2.2.2 == ro && AV.sames x.2.1 (getsV c x.2.1.length 0)))
      | _ => false))) &&
    (defsSame df s.defers && (df.all (fun d => AV.ltns n d.args) && s.below.isNone))))))

section
variable [Fct] [Val]

/-- What is forgotten, in this form. -/
structure Wk2 (k : Nat) (s s' : St) : Prop where
  kn : k ≤ s'.heap.next
  next : s'.heap.next ≤ s.heap.next
  keep : ∀ i, i < k → s'.heap.get i = s.heap.get i
  blk : ∀ i b, s'.heap.get i = some b → i < s'.heap.next ∧ ∃ b0, s.heap.get i = some b0 ∧ b.ro = b0.ro ∧ ∀ φ c p m w, BRel φ b0 c p m w → BRel (cut s'.heap.next φ) b c p m w
  regs : ∀ t, s'.regs.val t = .junk ∨ (s.regs.val t ≠ .junk ∧ ∀ φ v, VRel φ (s.regs.val t) v → VRel (cut s'.heap.next φ) (s'.regs.val t) v)
  defers : s'.defers = s.defers ∧ ∀ d ∈ s'.defers, AV.ltns s'.heap.next d.args = true
  below : s.below = none ∧ s'.below = none

theorem DRels.cut {φ : Phi} {n : Nat} : ∀ {d : List ADef} {cd : List Deferred}, (∀ x ∈ d, AV.ltns n x.args = true) → DRels φ d cd → DRels (Abs.cut n φ) d cd
  | [], _, _, k => k
  | x :: d, _, h, ⟨cd, r, h1, ⟨ca, cb, h2, h3⟩, h4⟩ => ⟨cd, r, h1, ⟨ca, cb, h2, ltns_cut _ _ (h x (by simp)) h3⟩, DRels.cut (fun y hy => h y (by simp [hy])) h4⟩

theorem Wk2.srel {ng k : Nat} {F : Frm} {B : Base} {φ : Phi} {s s' : St} {a : Act} {cs : List Frame} {w : World} (h : SRel ng F B φ s a cs w) (hw : Wk2 k s s') (hng : ng ≤ k) : SRel ng F B (cut s'.heap.next φ) s' a cs w := by
  refine ⟨⟨fun i hi => cut_ge φ hi, fun g hg => ?_, fun i b hb => ?_, fun i j b b' c p m p' m' hi hj hne ei ej => ?_, fun i c p m e => ?_, fun i b hb => (hw.blk i b hb).1⟩, fun t => ?_, fun t k hk => by simp [locOf] at hk, fun t ht => ?_, h.size, ?_, ?_⟩
  · have := h.heap.glob g hg
    unfold PtrOk at *
    rw [cut_lt φ (by have := hw.kn; omega)]; exact this
  · obtain ⟨h1, b0, h2, _, h3⟩ := hw.blk i b hb
    rw [cut_lt φ h1]
    rcases h.heap.blk i b0 h2 with e | ⟨c, p, m, e, q⟩
    · exact .inl e
    · exact .inr ⟨c, p, m, e, h3 φ c p m w q⟩
  · obtain ⟨h1, b0, h2, r0, _⟩ := hw.blk i b hi
    obtain ⟨h3, b1, h4, r1, _⟩ := hw.blk j b' hj
    rw [cut_lt φ h1] at ei
    rw [cut_lt φ h3] at ej
    rw [r0, r1]
    exact h.heap.inj i j b0 b1 c p m p' m' h2 h4 hne ei ej
  · unfold cut at e
    split at e
    · exact h.heap.lt i c p m e
    · cases e
  · have := h.ctx t
    simp only [locOf] at this ⊢
    rcases hw.regs t with e | ⟨_, hl⟩
    · rw [e]; trivial
    · exact hl φ _ this
  · rcases hw.regs t with e | ⟨e, _⟩
    · exact e
    · exact absurd (h.live t ht) e
  · have := h.defers
    rw [← hw.defers.1] at this
    exact DRels.cut hw.defers.2 this
  · have := h.below
    rw [hw.below.1] at this
    rw [hw.below.2]; exact this

theorem Wk2.stp {k : Nat} {φ₀ : Phi} {h₀ : AHeap} {w₀ : World} {φ : Phi} {s s' : St} {w : World} (h : Stp φ₀ h₀ w₀ φ s.heap w) (hw : Wk2 k s s') (hk : h₀.next ≤ k) (hf : ∀ i, h₀.next ≤ i → φ₀ i = .un) : Stp φ₀ h₀ w₀ (cut s'.heap.next φ) s'.heap w := by
  have hkn := hw.kn
  refine ⟨fun i => ?_, h.os, h.tape, h.output, h.size, h.same, fun b ⟨i, bl, o, n, hg, hro, e⟩ hb => ?_, fun i hi e => ?_, by omega⟩
  · by_cases hi : i < s'.heap.next
    · rw [cut_lt φ hi]; exact h.ext i
    · rw [hf i (by omega)]; trivial
  · obtain ⟨h1, b0, h2, r0, _⟩ := hw.blk i bl hg
    rw [cut_lt φ h1] at e
    exact h.own b ⟨i, b0, o, n, h2, r0 ▸ hro, e⟩ hb
  · obtain ⟨h1, h2⟩ := h.virt i hi e
    exact ⟨(hw.keep i (by omega)).trans h1, by rw [cut_lt φ (by omega)]; exact h2⟩

theorem wkB_ok {k n : Nat} {regs : List (Nat × AV)} {blocks : Blocks} {df : List ADef} {s : St} (h : wkB k n regs blocks df s = true) : Wk2 k s (stB n regs blocks df) := by
  unfold wkB at h
  simp only [Bool.and_eq_true, ble_iff, List.all_eq_true] at h
  obtain ⟨h1, h2, h3, h4, h5, h6, h7, h8⟩ := h
  refine ⟨h1, h2, fun i hi => ?_, fun i b hb => ?_, fun t => ?_, ⟨defsSame_eq _ _ h6, fun d hd => h7 d hd⟩, ⟨by simpa using h8, rfl⟩⟩
  · unfold keepB at h3
    rw [List.all_eq_true] at h3
    have := h3 i (List.mem_range.2 hi)
    show (heapB n blocks).get i = s.heap.get i
    split at this
    · rename_i e1 e2; rw [e1, e2]
    · rename_i m c t ro m' c' t' ro' e1 e2
      simp only [Bool.and_eq_true, beq_iff, beq_iff_eq] at this
      obtain ⟨k1, k2, k3, k4⟩ := this
      rw [e1, e2, k1, k2, k3, sameT_eq _ _ k4]
    · cases this
  · obtain ⟨x, hx, rfl, rfl⟩ := heapB_get n blocks i b hb
    have h5 := h5 x hx
    rw [blt_iff] at h5
    obtain ⟨k1, k2, k3⟩ := h5
    refine ⟨k1, ?_⟩
    split at k3
    · rename_i m c t ro hg
      simp only [Bool.and_eq_true, beq_iff, beq_iff_eq] at k3
      obtain ⟨j1, j2, j3, j4⟩ := k3
      refine ⟨_, hg, j3, fun φ cc p q w hb => ?_⟩
      obtain ⟨vs, u, fz, r1, r2, r3, r4, r5, r6⟩ := hb
      refine ⟨vs, u, fz, r1, r2, by omega, fun j hj => ?_, by rw [j3]; exact r5, by rw [j2]; exact r6⟩
      obtain ⟨v, hv, hr⟩ := r4 j (by omega)
      refine ⟨v, hv, ?_⟩
      rw [row_get _ _ hj]
      have h5 := getElem?_getsV c x.2.1.length 0 j hj
      rw [← sames_eq _ _ j4, List.getElem?_eq_getElem hj, Nat.zero_add] at h5
      rw [← Option.some.inj h5] at hr
      exact ltn_cut _ _ (ltns_get k2 j _ (List.getElem?_eq_getElem hj)) hr
    · cases k3
  · show (regsB regs).val t = .junk ∨ _
    rcases regsB_val regs t with e | ⟨x, hx, rfl, e⟩
    · exact .inl e
    · have h4 := h4 x hx
      have := same_eq _ _ h4.2
      refine .inr ⟨fun hj => ?_, fun φ v hv => ?_⟩
      · rw [← this] at hj
        rw [hj] at h4
        simp [AV.same] at h4
      · show VRel (cut n φ) ((regsB regs).val x.1) v
        rw [e]
        rw [← this] at hv
        exact ltn_cut _ _ h4.1 hv

/-- One place is told anew: what the old one says of it gives it. -/
theorem Wk2.put {k : Nat} {s s' : St} (h : Wk2 k s s') (t : Nat) (b : AV) (hj : s.regs.val t ≠ .junk) (hb : ∀ φ v, VRel φ (s.regs.val t) v → VRel (cut s'.heap.next φ) b v) : Wk2 k s ⟨T.put s'.regs t (some b), s'.heap, s'.defers, s'.below⟩ := by
  refine ⟨h.kn, h.next, h.keep, h.blk, fun u => ?_, h.defers, h.below⟩
  simp only [val_put]
  by_cases hu : u = t
  · subst hu
    rw [if_pos rfl]
    exact .inr ⟨hj, hb⟩
  · rw [if_neg hu]
    exact h.regs u

/-! ### Rounds of a loop -/

noncomputable def rounds (P : Program) (F : Frm) (R : Runner) (c : Code) : Nat → St → Option St
  | 0, s => some s
  | n + 1, s => match (codeFn (cCode P F c)).run R s with
    | some (.normal, s') => rounds P F R c n s'
    | _ => none

/-- Runs in pieces, in this form. -/
inductive Der2 (P : Program) (ng : Nat) (F : Frm) (R : Runner) : Code → St → AEx → St → Prop
  | run {c s x s'} : (codeFn (cCode P F c)).run R s = some (x, s') → Der2 P ng F R c s x s'
  | weak {c s x s' s'' k} : Der2 P ng F R c s x s' → Wk2 k s' s'' → ng ≤ k → s.heap.next ≤ k → (∀ ch, x ≠ .panic ch) → Der2 P ng F R c s x s''
  | seq {c d s s₁ x s'} : Der2 P ng F R c s .normal s₁ → Der2 P ng F R d s₁ x s' → Der2 P ng F R (.seq c d) s x s'
  | seqX {c d s x s'} : Der2 P ng F R c s x s' → x ≠ .normal → Der2 P ng F R (.seq c d) s x s'
  | cond {c d e s x s' y t} : cOpd P [] c = some y → y.ev [] s.regs = .bool t → Der2 P ng F R (if t then d else e) s x s' → Der2 P ng F R (.cond c d e) s x s'
  | block {id c s s'} : Der2 P ng F R c s (.exit id) s' → Der2 P ng F R (.block id c) s .normal s'
  | blockX {id c s x s'} : Der2 P ng F R c s x s' → x ≠ .exit id → Der2 P ng F R (.block id c) s x s'
  | scope {c s x s'} : Der2 P ng F R c s x s' → Der2 P ng F R (.scope c) s x s'
  | loopS {c s s₁ x s'} : Der2 P ng F R c s .normal s₁ → Der2 P ng F R (.loop c) s₁ x s' → Der2 P ng F R (.loop c) s x s'
  | loopX {c s x s'} : Der2 P ng F R c s x s' → x ≠ .normal → Der2 P ng F R (.loop c) s x s'

theorem der2_rounds {P : Program} {ng : Nat} {F : Frm} {R : Runner} {c : Code} {x : AEx} {s' : St} : ∀ (n : Nat) (s s₁ : St), rounds P F R c n s = some s₁ → Der2 P ng F R (.loop c) s₁ x s' → Der2 P ng F R (.loop c) s x s'
  | 0, s, s₁, h, k => by cases h; exact k
  | n + 1, s, s₁, h, k => by
    simp only [rounds] at h
    split at h
    · rename_i s2 hs
      exact .loopS (.run hs) (der2_rounds n s2 s₁ h k)
    · cases h

theorem der2_ok {P : Program} {ng : Nat} {R : Runner} (hP : P.globals.size = ng) (hR : CallOk P ng R) (hL : LoopOk P ng R) (hD : DrawOk P ng R) {F : Frm} {c : Code} {s : St} {x : AEx} {s' : St} (h : Der2 P ng F R c s x s') :
    ∀ (B : Base) (φ : Phi) (a : Act) (cs : List Frame) (w : World), SRel ng F B φ s a cs w →
      wpG P s.below.isSome c (PostRel ng F B φ s.heap w s.below.isSome x s') a cs w ∧ ∀ b, c = .loop b → wpL P s.below.isSome b (PostRel ng F B φ s.heap w s.below.isSome x s') a cs w := by
  induction h with
  | run hr =>
    intro B φ a cs w hs
    refine ⟨code_ok hP hR hL hD F B _ _ _ _ hr φ a cs w hs, ?_⟩
    rintro b rfl
    simp only [cCode, codeFn] at hr
    exact (hL F b _ _ _ hr B φ a cs w hs).1
  | @weak c s x s' s'' k _ hw hng hk hx ih =>
    intro B φ a cs w hs
    obtain ⟨h1, h2⟩ := ih B φ a cs w hs
    have key : ∀ e a' cs' w', PostRel ng F B φ s.heap w s.below.isSome x s' e a' cs' w' → PostRel ng F B φ s.heap w s.below.isSome x s'' e a' cs' w' := by
      intro e a' cs' w' hq
      obtain ⟨φ', k1, k2, k3, k4⟩ := hq
      refine ⟨_, hw.srel k1 hng, hw.stp k2 hk hs.heap.fresh, ?_, ?_⟩
      · cases x with
        | panic ch => exact absurd rfl (hx ch)
        | _ => cases e <;> exact k3
      · rw [hw.below.2]; rw [hw.below.1] at k4; exact k4
    exact ⟨h1.mono key, fun b hb => wpL_mono (h2 b hb) key⟩
  | seq _ _ ih1 ih2 =>
    intro B φ a cs w hs
    refine ⟨wpG_seq ((ih1 B φ a cs w hs).1.mono fun ex a' cs' w' hq => ?_), by intro b hb; cases hb⟩
    obtain ⟨φ', k1, k2, k3, k4⟩ := hq
    cases ex <;> simp only [ExRel] at k3
    simp only [Exit.thenS]
    have := (ih2 B φ' a' cs' w' k1).1
    rw [k4] at this
    exact this.mono fun _ _ _ _ hq => PostRel.trans k2 hq
  | @seqX c d s x s' _ hx ih =>
    intro B φ a cs w hs
    refine ⟨wpG_seq ((ih B φ a cs w hs).1.mono fun ex a' cs' w' hq => ?_), by intro b hb; cases hb⟩
    obtain ⟨φ', k1, k2, k3, k4⟩ := hq
    cases ex with
    | normal => cases x <;> simp only [ExRel] at k3; exact absurd rfl hx
    | _ => exact ⟨φ', k1, k2, k3, k4⟩
  | cond hc hy _ ih =>
    intro B φ a cs w hs
    refine ⟨?_, by intro b hb; cases hb⟩
    have hglob : ∀ g, g < P.globals.size → PtrOk φ g 0 ⟨g, 0, none⟩ := fun g hg => hs.heap.glob g (hP ▸ hg)
    have hv := opsOk hglob hs.ctx (fun _ => True) _ _ trivial hc
    rw [hy] at hv
    exact wpG_cond hv (ih B φ a cs w hs).1
  | block _ ih =>
    intro B φ a cs w hs
    refine ⟨wpG_block ((ih B φ a cs w hs).1.mono fun ex a' cs' w' hq => ?_), by intro b hb; cases hb⟩
    obtain ⟨φ', k1, k2, k3, k4⟩ := hq
    cases ex <;> simp only [ExRel] at k3
    subst k3
    simp only [inBlockS, if_pos]
    exact ⟨φ', k1, k2, trivial, k4⟩
  | @blockX id c s x s' _ hx ih =>
    intro B φ a cs w hs
    refine ⟨wpG_block ((ih B φ a cs w hs).1.mono fun ex a' cs' w' hq => ?_), by intro b hb; cases hb⟩
    obtain ⟨φ', k1, k2, k3, k4⟩ := hq
    cases ex with
    | exit j =>
      cases x <;> simp only [ExRel] at k3
      subst k3
      simp only [inBlockS]
      rw [if_neg (fun e => hx (by rw [e]))]
      exact ⟨φ', k1, k2, rfl, k4⟩
    | _ => exact ⟨φ', k1, k2, k3, k4⟩
  | @scope c s x s' _ ih =>
    intro B φ a cs w hs
    refine ⟨wpG_scope ((ih B φ a cs w hs).1.mono fun ex a' cs' w' hq => ?_), by intro b hb; cases hb⟩
    obtain ⟨φ', k1, k2, k3, k4⟩ := hq
    cases ex <;> first | exact ⟨φ', k1, k2, k3, k4⟩ | (cases x <;> exact k3.elim)
  | @loopS c s s₁ x s' _ _ ih1 ih2 =>
    intro B φ a cs w hs
    have key : wpG P s.below.isSome c (Exit.thenS (wpL P s.below.isSome c (PostRel ng F B φ s.heap w s.below.isSome x s')) (PostRel ng F B φ s.heap w s.below.isSome x s')) a cs w := by
      refine (ih1 B φ a cs w hs).1.mono fun ex a' cs' w' hq => ?_
      obtain ⟨φ', k1, k2, k3, k4⟩ := hq
      cases ex <;> simp only [ExRel] at k3
      simp only [Exit.thenS]
      have := (ih2 B φ' a' cs' w' k1).2 c rfl
      rw [k4] at this
      exact wpL_mono this fun _ _ _ _ hq => PostRel.trans k2 hq
    exact ⟨wpG_loop key, fun b hb => by cases hb; exact wpL_loop key⟩
  | @loopX c s x s' _ hx ih =>
    intro B φ a cs w hs
    have key : wpG P s.below.isSome c (Exit.thenS (wpL P s.below.isSome c (PostRel ng F B φ s.heap w s.below.isSome x s')) (PostRel ng F B φ s.heap w s.below.isSome x s')) a cs w := by
      refine (ih B φ a cs w hs).1.mono fun ex a' cs' w' hq => ?_
      obtain ⟨φ', k1, k2, k3, k4⟩ := hq
      cases ex with
      | normal => cases x <;> simp only [ExRel] at k3; exact absurd rfl hx
      | _ => exact ⟨φ', k1, k2, k3, k4⟩
    exact ⟨wpG_loop key, fun b hb => by cases hb; exact wpL_loop key⟩

theorem call_der2 {P : Program} {ng : Nat} {R : Runner} (hP : P.globals.size = ng) (hR : CallOk P ng R) (hRD : CallDOk P ng R) (hL : LoopOk P ng R) (hD : DrawOk P ng R) {f : FuncId} {fn : Func} {b : Code} {as : List ARes} {live : List Nat}
    (hfn : P.funcs[f]? = some fn) (hb : fn.body = some b) (hname : fn.name ≠ "runtime.NumGoroutine") (hrs : cRes P fn.results.toList = some as)
    {args : List AV} {h h' : AHeap} {x : AEx} {s' : St} {en : AEnd} (hnp : Nat.ble args.length (fn.params.size + fn.nfree) = true)
    (hd : Der2 P ng ⟨fn.ntmps, fn.params.size + fn.nfree, live⟩ R b ⟨argRegs args 0 .nil, h, [], none⟩ x s') (hr : endOf R as x s' = some (en, h')) : Con P ng f args h en h' := by
  refine ⟨⟨fn, hfn, hname, by rw [hb]; rfl⟩, fun φ w cargs H hv => ?_⟩
  rw [ble_iff] at hnp
  refine calls_of_wp_defers hfn hb (wp_of_wpG fun cs => ?_)
  let F : Frm := ⟨fn.ntmps, fn.params.size + fn.nfree, live⟩
  let B : Base := ⟨default, [], cs⟩
  have hs := start_ok (F := F) (B := B) (n := fn.ntmps) (bl := none) (cs := cs) H hv rfl hnp rfl
  refine (der2_ok hP hR hL hD hd B φ _ cs w hs).1.mono fun e a' cs' w' hq => ?_
  obtain ⟨φ', k1, k2, k3, k4⟩ := hq
  have hbn : s'.below = none := by simpa using k4
  have hbel := k1.below
  rw [hbn] at hbel
  refine ⟨hbel, ?_⟩
  have hreg : ∀ t, VRel φ' (s'.regs.val t) (a'.tmps.getD t undef) := k1.ctx
  cases x with
  | normal =>
    cases e <;> simp only [ExRel] at k3
    exact defers_ok hRD hrs s'.defers none s'.heap hr φ' w' a'.defers .returning k1.heap k2 hreg k1.defers rfl
  | ret =>
    cases e <;> simp only [ExRel] at k3
    exact defers_ok hRD hrs s'.defers none s'.heap hr φ' w' a'.defers .returning k1.heap k2 hreg k1.defers rfl
  | panic c =>
    cases e <;> simp only [ExRel] at k3
    exact defers_ok hRD hrs s'.defers (some c) s'.heap hr φ' w' a'.defers (.panicking _) k1.heap k2 hreg k1.defers ⟨_, rfl, k3⟩
  | exit id => cases hr

/-- A function's code, told in pieces, by the runner of a program. -/
abbrev DerF2 (P : Program) (live : FuncId → List Nat) (O : Oracle) (n : Nat) (f : FuncId) (fn : Func) : Code → St → AEx → St → Prop :=
  Der2 P P.globals.size ⟨fn.ntmps, fn.params.size + fn.nfree, live f⟩ (runner (progOf P live O) n)

theorem con_der2 {P : Program} (hm : P.follows .mixedOrders = true) {live : FuncId → List Nat} {O : Oracle} (hO : OracleOk P P.globals.size O) (n : Nat) {f : FuncId} {fn : Func} {b : Code} {as : List ARes}
    (hfn : P.funcs[f]? = some fn) (hb : fn.body = some b) (hname : fn.name ≠ "runtime.NumGoroutine") (hrs : cRes P fn.results.toList = some as)
    {args : List AV} {h h' : AHeap} {x : AEx} {s' : St} {en : AEnd} (hnp : Nat.ble args.length (fn.params.size + fn.nfree) = true)
    (hd : DerF2 P live O n f fn b ⟨argRegs args 0 .nil, h, [], none⟩ x s') (hr : endOf (runner (progOf P live O) n) as x s' = some (en, h')) : Con P P.globals.size f args h en h' := by
  obtain ⟨hR, hRD, hL⟩ := runner_ok rfl hO (fun R hR => draw_ok hm rfl hR) (live := live) n
  exact call_der2 rfl hR hRD hL (draw_ok hm rfl hR) hfn hb hname hrs hnp hd hr

end
end Go.Abs
