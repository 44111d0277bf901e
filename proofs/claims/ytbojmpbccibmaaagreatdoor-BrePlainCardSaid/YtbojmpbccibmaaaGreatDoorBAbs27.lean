/- The abstract machine: regions that draw their order. What one run tells, and what the checks say. -/
import Derived.Test.YtbojmpbccibmaaaGreatDoorBAbs26
import Derived.Orders
set_option linter.unusedVariables false
set_option linter.unusedSimpArgs false
set_option linter.unusedSectionVars false
set_option linter.deprecated false
namespace Go.Abs
variable [Val]

/-! ### Values that are one -/

theorem sameInts_eq : ∀ (a b : List Int), sameInts a b = true → a = b
  | [], [], _ => rfl
  | [], _ :: _, h => by simp [sameInts] at h
  | _ :: _, [], h => by simp [sameInts] at h
  | a :: x, b :: y, h => by
    simp only [sameInts, T.ifB_eq] at h
    split at h
    · rename_i h1
      rw [eqQ_eq, beq_iff_eq] at h1
      rw [h1, sameInts_eq x y h]
    · cases h

mutual
theorem same_eq : ∀ (a b : AV), AV.same a b = true → a = b
  | .bool a, b, h => by cases b <;> simp [AV.same] at h; rw [h]
  | .int k a, b, h => by
    cases b <;> simp [AV.same, kEq_iff, eqQ_eq] at h
    rw [h.1, h.2]
  | .sym k i l, b, h => by
    cases b <;> simp [AV.same, kEq_iff] at h
    rw [h.1, h.2.1, sameInts_eq _ _ h.2.2]
  | .rest k m i l, b, h => by
    cases b <;> simp [AV.same, kEq_iff] at h
    rw [h.1, h.2.1, h.2.2.1, sameInts_eq _ _ h.2.2.2]
  | .sstr a, b, h => by
    cases b <;> simp [AV.same] at h
    rw [sames_eq a _ h]
  | .str a, b, h => by
    cases b <;> simp [AV.same, strEq_eq] at h
    rw [h]
  | .ptr a, b, h => by cases b <;> simp [AV.same] at h; rw [h]
  | .sl a e l c x, b, h => by
    cases b <;> simp [AV.same] at h
    obtain ⟨⟨⟨⟨h1, h2⟩, h3⟩, h4⟩, h5⟩ := h
    rw [h1, h2, h3, h4, h5]
  | .map a, b, h => by cases b <;> simp [AV.same] at h; rw [h]
  | .fn f a c, b, h => by
    cases b <;> simp [AV.same] at h
    obtain ⟨⟨h1, h2⟩, h3⟩ := h
    rw [h1, sames_eq a _ h2, sames_eq c _ h3]
  | .nilFn, b, h => by cases b <;> simp [AV.same] at h; rfl
  | .iface t v, b, h => by
    cases b <;> simp [AV.same] at h
    rw [h.1, same_eq v _ h.2]
  | .nilIface, b, h => by cases b <;> simp [AV.same] at h; rfl
  | .agg a, b, h => by
    cases b <;> simp [AV.same] at h
    rw [sames_eq a _ h]
  | .tup a, b, h => by
    cases b <;> simp [AV.same] at h
    rw [sames_eq a _ h]
  | .junk, b, h => by cases b <;> simp [AV.same] at h
theorem sames_eq : ∀ (a b : List AV), AV.sames a b = true → a = b
  | [], b, h => by cases b <;> simp [AV.sames] at h; rfl
  | v :: a, b, h => by
    cases b <;> simp [AV.sames] at h
    rw [same_eq v _ h.1, sames_eq a _ h.2]
end

/-! ### Lists told by their places -/

def envQ (v : Nat → AV) (e : Env) : Nat → Env
  | 0 => e
  | p + 1 => v p :: envQ v e p

def ctxQ (d : Nat → Option Nat) (c : Ctx) : Nat → Ctx
  | 0 => c
  | p + 1 => d p :: ctxQ d c p

def consQ {α : Type} (a : α) (f : Nat → α) : Nat → α
  | 0 => a
  | p + 1 => f p

theorem envQ_cons (v0 : AV) (v : Nat → AV) (e : Env) : ∀ p, envQ (consQ v0 v) e (p + 1) = envQ v (v0 :: e) p
  | 0 => rfl
  | p + 1 => by
    have := envQ_cons v0 v e p
    show consQ v0 v (p + 1) :: envQ (consQ v0 v) e (p + 1) = v p :: envQ v (v0 :: e) p
    rw [this]; rfl

theorem ctxQ_cons (v0 : Option Nat) (v : Nat → Option Nat) (e : Ctx) : ∀ p, ctxQ (consQ v0 v) e (p + 1) = ctxQ v (v0 :: e) p
  | 0 => rfl
  | p + 1 => by
    have := ctxQ_cons v0 v e p
    show consQ v0 v (p + 1) :: ctxQ (consQ v0 v) e (p + 1) = v p :: ctxQ v (v0 :: e) p
    rw [this]; rfl

abbrev OItem := AOper × Nat × Nat

/-- How many of the first ones write. -/
def cntW : List OItem → Nat → Nat
  | [], _ => 0
  | _ :: _, 0 => 0
  | o :: os, p + 1 => (if isW o.1 = true then 1 else 0) + cntW os p

theorem cntW_zero (l : List OItem) : cntW l 0 = 0 := by cases l <;> rfl

theorem cntW_succ : ∀ (l : List OItem) (p : Nat) (o : OItem), l[p]? = some o → cntW l (p + 1) = cntW l p + (if isW o.1 = true then 1 else 0)
  | [], p, o, h => by simp at h
  | x :: l, 0, o, h => by simp at h; subst h; simp [cntW, cntW_zero]
  | x :: l, p + 1, o, h => by
    have := cntW_succ l p o (by simpa using h)
    simp only [cntW] at *
    omega

theorem cntW_mono (l : List OItem) : ∀ (p q : Nat), p ≤ q → cntW l p ≤ cntW l q := by
  induction l with
  | nil => intro p q _; simp [cntW]
  | cons x l ih =>
    intro p q h
    cases p with
    | zero => simp [cntW_zero]
    | succ p =>
      cases q with
      | zero => omega
      | succ q => simp only [cntW]; have := ih p q (by omega); omega

/-! ### One run -/

/-- What one run of a region that draws its order tells. -/
structure Tr (R : Runner) (ord : List OItem) (e : Env) (s : St) (k : Nat) (x : AEx) (s' : St) (n : Nat) (S : Nat → St) (v : Nat → AV) (L : List Look) (HS : List AHeap) : Prop where
  zero : S 0 = s
  le : n ≤ ord.length
  on : ∀ p it, p < n → ord[p]? = some it → (operFn it.1).run R (envQ v e p) (S p) = .on (v p) (S (p + 1))
  look : ∀ p it, p < n → ord[p]? = some it → isW it.1 = false → ∀ l ∈ (lookFn it.1 it.2.1 it.2.2).run (envQ v e p) (S p), l ∈ L
  fin : (n = ord.length ∧ x = .normal ∧ s' = S n) ∨ (∃ it, ord[n]? = some it ∧ isW it.1 = true ∧ (operFn it.1).run R (envQ v e n) (S n) = .out x s')
  ok : looksOk L HS (k + cntW ord n) = true
  top : HS[0]? = some (S n).heap
  heaps : ∀ p it, p < n → ord[p]? = some it → isW it.1 = true → ∃ j, HS[j]? = some (S p).heap ∧ j + cntW ord p = cntW ord n

theorem trace (R : Runner) : ∀ (ord : List OItem) (e : Env) (s : St) (hs : List AHeap) (k : Nat) (ls : List Look) (x : AEx) (s' : St), (drawFn ord).run R e s hs k ls = some (x, s') →
    ∃ n S v L HS, Tr R ord e s k x s' n S v L HS ∧ (∀ l ∈ ls, l ∈ L) ∧ ∃ pre, HS = pre ++ hs ∧ pre.length = cntW ord n + 1
  | [], e, s, hs, k, ls, x, s', hr => by
    simp only [drawFn] at hr
    cases hl : looksOk ls (s.heap :: hs) k with
    | false => rw [hl] at hr; cases hr
    | true =>
      rw [hl] at hr
      simp only [cond_true, Option.some.injEq, Prod.mk.injEq] at hr
      obtain ⟨rfl, rfl⟩ := hr
      refine ⟨0, fun _ => s, fun _ => .junk, ls, s.heap :: hs, ⟨rfl, Nat.le_refl _, ?_, ?_, .inl ⟨rfl, rfl, rfl⟩, by simpa [cntW] using hl, rfl, ?_⟩, fun l h => h, [s.heap], rfl, rfl⟩
      · intro p it hp; omega
      · intro p it hp; omega
      · intro p it hp; omega
  | (o, lo, hi) :: os, e, s, hs, k, ls, x, s', hr => by
    unfold drawFn at hr
    cases hw : isW o with
    | true =>
      rw [hw] at hr
      simp only [cond_true] at hr
      cases hg : (operFn o).run R e s with
      | on v0 s1 =>
        rw [hg] at hr
        obtain ⟨n, S, v, L, HS, ht, hl, pre, hpre, hlen⟩ := trace R os (v0 :: e) s1 (s.heap :: hs) (k + 1) ls x s' hr
        refine ⟨n + 1, consQ s S, consQ v0 v, L, HS, ⟨rfl, by simp; exact ht.le, ?_, ?_, ?_, ?_, ht.top, ?_⟩, hl, pre ++ [s.heap], by rw [hpre]; simp, by simp [cntW, hw, hlen]; omega⟩
        · intro p it hp hit
          cases p with
          | zero => simp at hit; subst hit; simp only [envQ, consQ]; rw [ht.zero]; exact hg
          | succ p => rw [envQ_cons]; exact ht.on p it (by omega) (by simpa using hit)
        · intro p it hp hit hd
          cases p with
          | zero => simp at hit; subst hit; rw [hw] at hd; cases hd
          | succ p => rw [envQ_cons]; exact ht.look p it (by omega) (by simpa using hit) hd
        · rcases ht.fin with ⟨h1, h2, h3⟩ | ⟨it, h1, h2, h3⟩
          · exact .inl ⟨by simp [h1], h2, h3⟩
          · refine .inr ⟨it, by simpa using h1, h2, ?_⟩
            rw [envQ_cons]; exact h3
        · have := ht.ok
          simp only [cntW, hw, if_true]
          rw [show k + (1 + cntW os n) = k + 1 + cntW os n from by omega]; exact this
        · intro p it hp hit hd
          cases p with
          | zero =>
            refine ⟨pre.length, ?_, ?_⟩
            · rw [hpre]; simp [consQ]
            · simp [cntW, hw, hlen, cntW_zero]; omega
          | succ p =>
            obtain ⟨j, h1, h2⟩ := ht.heaps p it (by omega) (by simpa using hit) hd
            exact ⟨j, h1, by simp only [cntW]; omega⟩
      | out x1 s1 =>
        rw [hg] at hr
        simp only at hr
        cases hl : looksOk ls (s.heap :: hs) k with
        | false => rw [hl] at hr; cases hr
        | true =>
          rw [hl] at hr
          simp only [cond_true, Option.some.injEq, Prod.mk.injEq] at hr
          obtain ⟨rfl, rfl⟩ := hr
          refine ⟨0, fun _ => s, fun _ => .junk, ls, s.heap :: hs, ⟨rfl, Nat.zero_le _, ?_, ?_, .inr ⟨(o, lo, hi), rfl, hw, hg⟩, by simpa [cntW] using hl, rfl, ?_⟩, fun l h => h, [s.heap], rfl, by simp [cntW_zero]⟩
          · intro p it hp; omega
          · intro p it hp; omega
          · intro p it hp; omega
      | lost => rw [hg] at hr; cases hr
    | false =>
      rw [hw] at hr
      simp only [cond_false] at hr
      cases hg : (operFn o).run R e s with
      | on v0 s1 =>
        rw [hg] at hr
        obtain ⟨n, S, v, L, HS, ht, hl, pre, hpre, hlen⟩ := trace R os (v0 :: e) s1 hs k ((lookFn o lo hi).run e s ++ ls) x s' hr
        refine ⟨n + 1, consQ s S, consQ v0 v, L, HS, ⟨rfl, by simp; exact ht.le, ?_, ?_, ?_, ?_, ht.top, ?_⟩, fun l h => hl l (by simp [h]), pre, hpre, by simp [cntW, hw, hlen]⟩
        · intro p it hp hit
          cases p with
          | zero => simp at hit; subst hit; simp only [envQ, consQ]; rw [ht.zero]; exact hg
          | succ p => rw [envQ_cons]; exact ht.on p it (by omega) (by simpa using hit)
        · intro p it hp hit hd
          cases p with
          | zero => simp at hit; subst hit; intro l h; exact hl l (by simp only [consQ, envQ] at h; simp [h])
          | succ p => rw [envQ_cons]; exact ht.look p it (by omega) (by simpa using hit) hd
        · rcases ht.fin with ⟨h1, h2, h3⟩ | ⟨it, h1, h2, h3⟩
          · exact .inl ⟨by simp [h1], h2, h3⟩
          · refine .inr ⟨it, by simpa using h1, h2, ?_⟩
            rw [envQ_cons]; exact h3
        · have := ht.ok
          simpa [cntW, hw] using this
        · intro p it hp hit hd
          cases p with
          | zero => simp at hit; subst hit; rw [hw] at hd; cases hd
          | succ p =>
            obtain ⟨j, h1, h2⟩ := ht.heaps p it (by omega) (by simpa using hit) hd
            exact ⟨j, h1, by simp only [cntW]; omega⟩
      | out x1 s1 => rw [hg] at hr; cases hr
      | lost => rw [hg] at hr; cases hr

theorem stableIn_at {l : Look} : ∀ {hs : List AHeap} {k : Nat}, stableIn l hs k = true → ∀ (j : Nat) (h : AHeap), hs[j]? = some h → l.lo ≤ k - j → k - j ≤ l.hi → ∃ v h', runD h l.d = some (v, h') ∧ AV.same l.v v = true
  | [], k, _, j, h, hj, _, _ => by simp at hj
  | h0 :: hs, k, hst, j, h, hj, h1, h2 => by
    unfold stableIn at hst
    simp only [Bool.and_eq_true] at hst
    cases j with
    | zero =>
      simp at hj; subst hj
      have hc : (Nat.ble l.lo k && Nat.ble k l.hi) = true := by
        rw [Bool.and_eq_true, ble_iff, ble_iff]; omega
      have := hst.1
      rw [hc] at this
      simp only [cond_true] at this
      split at this
      · rename_i v h' hv
        exact ⟨v, h', hv, this⟩
      · cases this
    | succ j => exact stableIn_at hst.2 j h (by simpa using hj) (by omega) (by omega)

theorem looksOk_at {L : List Look} {hs : List AHeap} {k : Nat} (h : looksOk L hs k = true) {l : Look} (hl : l ∈ L) : stableIn l hs k = true := by
  unfold looksOk at h
  rw [List.all_eq_true] at h
  exact h l hl

/-! ### What an operation that writes nothing does -/

noncomputable def baseD (o : AOp) (e : Env) (r : Regs) : DRes :=
  match o with
  | .mov x => .val (x.ev e r)
  | .d f => f.f e r
  | .w _ => .bad

noncomputable def effD (o : AOper) (e : Env) (r : Regs) : DRes :=
  match o.guard with
  | none => baseD o.op e r
  | some (x, want) => match guardMet (x.ev e r) want with
    | some true => baseD o.op e r
    | some false => .val .undef
    | none => .bad

theorem val_dst {o : AOper} {R : Runner} {e : Env} {s s' : St} {v : AV} (h : (operFn o).run R e s = .on v s') : ∃ s1, (guardFn o.guard (opFn o.op)).run R e s = .on v s1 ∧ s' = ⟨match o.dst with | some d => T.put s1.regs d (some v) | none => s1.regs, s1.heap, s1.defers, s1.below⟩ := by
  unfold operFn dstFn at h
  cases hd : o.dst with
  | none => rw [hd] at h; simp only at h; exact ⟨s', h, rfl⟩
  | some d =>
    rw [hd] at h
    simp only at h
    split at h
    · rename_i v1 s1 hs
      simp only [Went.on.injEq] at h
      obtain ⟨rfl, rfl⟩ := h
      exact ⟨s1, hs, by rw [putFn_put]⟩
    · rename_i r hr
      exact absurd h (by intro hh; exact hr _ _ hh)

/-- What a step that writes nothing changes. -/
theorem stepD {o : AOper} (hw : isW o = false) {R : Runner} {e : Env} {s s' : St} {v : AV} (h : (operFn o).run R e s = .on v s') :
    runD s.heap (effD o e s.regs) = some (v, s'.heap) ∧ s'.defers = s.defers ∧ s'.below = s.below ∧ s'.regs = (match o.dst with | some d => T.put s.regs d (some v) | none => s.regs) := by
  obtain ⟨s1, h1, rfl⟩ := val_dst h
  have base : ∀ v s1, (opFn o.op).run R e s = .on v s1 → runD s.heap (baseD o.op e s.regs) = some (v, s1.heap) ∧ s1.defers = s.defers ∧ s1.below = s.below ∧ s1.regs = s.regs := by
    intro v s1 hb
    unfold isW at hw
    unfold baseD
    cases ho : o.op with
    | mov x => rw [ho] at hb; simp only [opFn, Went.on.injEq] at hb; obtain ⟨rfl, rfl⟩ := hb; exact ⟨rfl, rfl, rfl, rfl⟩
    | d f =>
      rw [ho] at hb
      simp only [opFn] at hb
      simp only
      cases hf : f.f e s.regs with
      | val v' => rw [hf] at hb; simp only [Went.on.injEq] at hb; obtain ⟨rfl, rfl⟩ := hb; exact ⟨rfl, rfl, rfl, rfl⟩
      | _ =>
        rw [hf] at hb
        simp only [wentD] at hb
        split at hb
        · rename_i v2 h2 hr
          simp only [Went.on.injEq] at hb
          obtain ⟨rfl, rfl⟩ := hb
          exact ⟨hr, rfl, rfl, rfl⟩
        · cases hb
    | w f => rw [ho] at hw; cases hw
  have main : runD s.heap (effD o e s.regs) = some (v, s1.heap) ∧ s1.defers = s.defers ∧ s1.below = s.below ∧ s1.regs = s.regs := by
    unfold guardFn at h1
    unfold effD
    cases hg : o.guard with
    | none => rw [hg] at h1; exact base v s1 h1
    | some q =>
      obtain ⟨x, want⟩ := q
      rw [hg] at h1
      simp only at h1 ⊢
      cases hm : guardMet (x.ev e s.regs) want with
      | none => rw [hm] at h1; cases h1
      | some b =>
        rw [hm] at h1
        cases b with
        | true => exact base v s1 h1
        | false => simp only [Went.on.injEq] at h1; obtain ⟨rfl, rfl⟩ := h1; exact ⟨rfl, rfl, rfl, rfl⟩
  exact ⟨main.1, main.2.1, main.2.2.1, by simp only [main.2.2.2]⟩

/-- What it looks at is held against the other heaps. -/
theorem lookD {o : AOper} (hw : isW o = false) (lo hi : Nat) (e : Env) (s : St) : ∀ l ∈ lookAt (effD o e s.regs) s.heap lo hi, l ∈ (lookFn o lo hi).run e s := by
  intro l hl
  unfold lookFn
  unfold effD at hl
  unfold isW at hw
  cases ho : o.op with
  | w f => rw [ho] at hw; cases hw
  | mov x =>
    exfalso
    rw [ho] at hl
    cases hg : o.guard with
    | none => rw [hg] at hl; simp [baseD, lookAt] at hl
    | some q =>
      rw [hg] at hl
      simp only at hl
      split at hl <;> simp [baseD, lookAt] at hl
  | d f =>
    rw [ho] at hl
    simp only
    cases hg : o.guard with
    | none => rw [hg] at hl; exact hl
    | some q =>
      obtain ⟨x, want⟩ := q
      rw [hg] at hl
      simp only at hl ⊢
      cases hm : guardMet (x.ev e s.regs) want with
      | none => rw [hm] at hl; simp [lookAt] at hl
      | some b =>
        rw [hm] at hl
        cases b with
        | true => exact hl
        | false => simp [lookAt] at hl

theorem regs_on {o : AOper} {R : Runner} {e : Env} {s s' : St} {v : AV} (h : (operFn o).run R e s = .on v s') : ∀ t, s'.regs.val t = if o.dst = some t then v else s.regs.val t := by
  obtain ⟨s1, h1, rfl⟩ := val_dst h
  have h2 : s1.regs = s.regs := by
    have base : ∀ v s1, (opFn o.op).run R e s = .on v s1 → s1.regs = s.regs := by
      intro v s1 hb
      cases ho : o.op with
      | mov x => rw [ho] at hb; simp only [opFn, Went.on.injEq] at hb; obtain ⟨rfl, rfl⟩ := hb; rfl
      | d f =>
        rw [ho] at hb
        simp only [opFn] at hb
        split at hb
        · simp only [Went.on.injEq] at hb; obtain ⟨rfl, rfl⟩ := hb; rfl
        · unfold wentD at hb
          split at hb
          · simp only [Went.on.injEq] at hb; obtain ⟨rfl, rfl⟩ := hb; rfl
          · cases hb
      | w f =>
        rw [ho] at hb
        simp only [opFn] at hb
        unfold wentW at hb
        split at hb
        · simp only [Went.on.injEq] at hb; obtain ⟨rfl, rfl⟩ := hb; rfl
        · split at hb <;> first | (simp only [Went.on.injEq] at hb; obtain ⟨rfl, rfl⟩ := hb; rfl) | cases hb
        · simp only [Went.on.injEq] at hb; obtain ⟨rfl, rfl⟩ := hb; rfl
        · cases hb
        · split at hb <;> first | (simp only [Went.on.injEq] at hb; obtain ⟨rfl, rfl⟩ := hb; rfl) | cases hb
        · cases hb
    unfold guardFn at h1
    cases hg : o.guard with
    | none => rw [hg] at h1; exact base v s1 h1
    | some q =>
      rw [hg] at h1
      simp only at h1
      split at h1
      · exact base v s1 h1
      · simp only [Went.on.injEq] at h1; obtain ⟨rfl, rfl⟩ := h1; rfl
      · cases h1
  intro t
  simp only
  cases hd : o.dst with
  | none => simp [h2]
  | some d =>
    simp only [val_put, h2]
    by_cases ht : t = d
    · subst ht; simp
    · rw [if_neg ht, if_neg (by intro hh; cases hh; exact ht rfl)]

/-- An operation of a frame that no deferred call runs in. -/
theorem below_on {o : AOper} {R : Runner} {e : Env} {s s' : St} {v : AV} (h : (operFn o).run R e s = .on v s') (hb0 : s.below = none) : s'.below = none := by
  obtain ⟨s1, h1, rfl⟩ := val_dst h
  show s1.below = none
  have base : ∀ v s1, (opFn o.op).run R e s = .on v s1 → s1.below = none := by
    intro v s1 hb
    cases ho : o.op with
    | mov x => rw [ho] at hb; simp only [opFn, Went.on.injEq] at hb; obtain ⟨rfl, rfl⟩ := hb; exact hb0
    | d f =>
      rw [ho] at hb
      simp only [opFn] at hb
      split at hb
      · simp only [Went.on.injEq] at hb; obtain ⟨rfl, rfl⟩ := hb; exact hb0
      · unfold wentD at hb
        split at hb
        · simp only [Went.on.injEq] at hb; obtain ⟨rfl, rfl⟩ := hb; exact hb0
        · cases hb
    | w f =>
      rw [ho] at hb
      simp only [opFn] at hb
      unfold wentW at hb
      split at hb
      · simp only [Went.on.injEq] at hb; obtain ⟨rfl, rfl⟩ := hb; exact hb0
      · split at hb <;> first | (simp only [Went.on.injEq] at hb; obtain ⟨rfl, rfl⟩ := hb; exact hb0) | cases hb
      · simp only [Went.on.injEq] at hb; obtain ⟨rfl, rfl⟩ := hb; exact hb0
      · cases hb
      · rw [hb0] at hb; cases hb
      · cases hb
  unfold guardFn at h1
  cases hg : o.guard with
  | none => rw [hg] at h1; exact base v s1 h1
  | some q =>
    rw [hg] at h1
    simp only at h1
    split at h1
    · exact base v s1 h1
    · simp only [Went.on.injEq] at h1; obtain ⟨rfl, rfl⟩ := h1; exact hb0
    · cases h1

/-! ### What the checks say -/

theorem memQ_iff {a : Nat} {l : List Nat} : memQ a l = true ↔ a ∈ l := by
  unfold memQ
  rw [List.any_eq_true]
  constructor
  · rintro ⟨x, h1, h2⟩; rw [beq_iff] at h2; rw [h2]; exact h1
  · intro h; exact ⟨a, h, by rw [beq_iff]⟩

theorem drawItems_spec {P : Program} {F : Frm} {ops : Array Oper} : ∀ (l : List (Nat × Nat × Nat)) (c : Ctx) (items : List DItem), drawItems P F ops l c = some items →
    ∃ d : Nat → Option Nat, ∀ p it, items[p]? = some it → ∃ o, ops[it.1]? = some o ∧ d p = o.dst ∧ cOper P F ops (ctxQ d c p) o = some it.2.1
  | [], c, items, h => by simp only [drawItems, Option.some.injEq] at h; subst h; exact ⟨fun _ => none, by intro p it hp; simp at hp⟩
  | q :: l, c, items, h => by
    simp only [drawItems, Option.bind_eq_some_iff, Option.map_eq_some_iff] at h
    obtain ⟨o, ho, ao, hao, items', hi, rfl⟩ := h
    obtain ⟨d, hd⟩ := drawItems_spec l _ items' hi
    refine ⟨consQ o.dst d, fun p it hp => ?_⟩
    cases p with
    | zero => simp at hp; subst hp; exact ⟨o, ho, rfl, hao⟩
    | succ p => rw [ctxQ_cons]; exact hd p it (by simpa using hp)

theorem checkOrder_spec (anc : List (List Nat)) (n : Nat) : ∀ (items : List DItem) (seen : List Nat), checkOrder anc n items seen = true →
    (∀ (p : Nat) (it : DItem), items[p]? = some it → it.1 < n ∧ it.1 ∉ seen ∧ ∀ x ∈ ancQ anc it.1, x ∈ seen ∨ ∃ (q : Nat) (iq : DItem), q < p ∧ items[q]? = some iq ∧ iq.1 = x) ∧
    (∀ (p q : Nat) (ip iq : DItem), items[p]? = some ip → items[q]? = some iq → p ≠ q → ip.1 ≠ iq.1) ∧
    (∀ i, i < n → i ∈ seen ∨ ∃ (p : Nat) (ip : DItem), items[p]? = some ip ∧ ip.1 = i)
  | [], seen, h => by
    unfold checkOrder at h
    rw [List.all_eq_true] at h
    refine ⟨by intro p it hp; simp at hp, by intro p q ip iq hp; simp at hp, fun i hi => .inl (memQ_iff.1 (h i (List.mem_range.2 hi)))⟩
  | it0 :: items, seen, h => by
    unfold checkOrder at h
    simp only [Bool.and_eq_true, Bool.not_eq_true', List.all_eq_true] at h
    obtain ⟨h1, h2, h3, h4⟩ := h
    obtain ⟨k1, k2, k3⟩ := checkOrder_spec anc n items _ h4
    rw [blt_iff] at h1
    have h2' : it0.1 ∉ seen := fun hh => by rw [memQ_iff.2 hh] at h2; cases h2
    refine ⟨fun p it hp => ?_, fun p q ip iq hp hq hne => ?_, fun i hi => ?_⟩
    · cases p with
      | zero => simp at hp; subst hp; exact ⟨h1, h2', fun x hx => .inl (memQ_iff.1 (h3 x hx))⟩
      | succ p =>
        obtain ⟨e1, e2, e3⟩ := k1 p it (by simpa using hp)
        refine ⟨e1, fun hh => e2 (List.mem_cons_of_mem _ hh), fun x hx => ?_⟩
        rcases e3 x hx with hh | ⟨q, iq, hq, hq2, hq3⟩
        · rcases List.mem_cons.1 hh with hh | hh
          · exact .inr ⟨0, it0, by omega, rfl, hh.symm⟩
          · exact .inl hh
        · exact .inr ⟨q + 1, iq, by omega, by simpa using hq2, hq3⟩
    · cases p with
      | zero =>
        simp at hp; subst hp
        cases q with
        | zero => exact absurd rfl hne
        | succ q =>
          obtain ⟨_, e2, _⟩ := k1 q iq (by simpa using hq)
          intro hh; exact e2 (by rw [← hh]; exact List.mem_cons_self)
      | succ p =>
        cases q with
        | zero =>
          simp at hq; subst hq
          obtain ⟨_, e2, _⟩ := k1 p ip (by simpa using hp)
          intro hh; exact e2 (by rw [hh]; exact List.mem_cons_self)
        | succ q => exact k2 p q ip iq (by simpa using hp) (by simpa using hq) (by omega)
    · rcases k3 i hi with hh | ⟨p, ip, hp, hp2⟩
      · rcases List.mem_cons.1 hh with hh | hh
        · exact .inr ⟨0, it0, rfl, hh.symm⟩
        · exact .inl hh
      · exact .inr ⟨p + 1, ip, by simpa using hp, hp2⟩

theorem checkW_lo (anc : List (List Nat)) : ∀ (items : List DItem) (k : Nat) (last : Option Nat), checkW anc items k last = true → ∀ (p : Nat) (it : DItem), items[p]? = some it → isW it.2.1 = false → it.2.2.1 = k + cntW (items.map (·.2)) p
  | [], k, last, h, p, it, hp => by simp at hp
  | (i, ao, lo, hi) :: items, k, last, h, p, it, hp => by
    intro hd
    unfold checkW at h
    simp only [Bool.and_eq_true] at h
    cases p with
    | zero =>
      simp at hp; subst hp
      simp only at hd
      rw [hd] at h
      simp only [cond_false, Bool.and_eq_true, beq_iff] at h
      simp [cntW_zero, h.2.1]
    | succ p =>
      simp only [List.map_cons, cntW]
      cases hw : isW ao with
      | true =>
        rw [hw] at h
        simp only [cond_true] at h
        have := checkW_lo anc items _ _ h.2 p it (by simpa using hp) hd
        simp; omega
      | false =>
        rw [hw] at h
        simp only [cond_false, Bool.and_eq_true] at h
        have := checkW_lo anc items _ _ h.2.2 p it (by simpa using hp) hd
        simpa using this

theorem checkW_last (anc : List (List Nat)) : ∀ (items : List DItem) (k : Nat) (u : Nat), checkW anc items k (some u) = true → ∀ (p : Nat) (it : DItem), items[p]? = some it →
    u ∈ ancQ anc it.1 ∨ ∃ (q : Nat) (iq : DItem), q < p ∧ items[q]? = some iq ∧ isW iq.2.1 = true ∧ iq.1 ∈ ancQ anc it.1
  | [], k, u, h, p, it, hp => by simp at hp
  | (i, ao, lo, hi) :: items, k, u, h, p, it, hp => by
    unfold checkW at h
    simp only [Bool.and_eq_true] at h
    cases p with
    | zero => simp at hp; subst hp; exact .inl (memQ_iff.1 h.1)
    | succ p =>
      cases hw : isW ao with
      | true =>
        rw [hw] at h
        simp only [cond_true] at h
        rcases checkW_last anc items _ _ h.2 p it (by simpa using hp) with hh | ⟨q, iq, h1, h2, h3, h4⟩
        · exact .inr ⟨0, _, by omega, rfl, hw, hh⟩
        · exact .inr ⟨q + 1, iq, by omega, by simpa using h2, h3, h4⟩
      | false =>
        rw [hw] at h
        simp only [cond_false, Bool.and_eq_true] at h
        rcases checkW_last anc items _ _ h.2.2 p it (by simpa using hp) with hh | ⟨q, iq, h1, h2, h3, h4⟩
        · exact .inl hh
        · exact .inr ⟨q + 1, iq, by omega, by simpa using h2, h3, h4⟩

theorem checkW_spec (anc : List (List Nat)) : ∀ (items : List DItem) (k : Nat) (last : Option Nat), checkW anc items k last = true → ∀ (p : Nat) (it : DItem) (q : Nat) (iq : DItem), items[p]? = some it → items[q]? = some iq → q < p → isW iq.2.1 = true →
    ∃ (u : Nat) (iu : DItem), q ≤ u ∧ u < p ∧ items[u]? = some iu ∧ isW iu.2.1 = true ∧ iu.1 ∈ ancQ anc it.1
  | [], k, last, h, p, it, q, iq, hp => by simp at hp
  | (i, ao, lo, hi) :: items, k, last, h, p, it, q, iq, hp => by
    intro hq hqp hwq
    unfold checkW at h
    simp only [Bool.and_eq_true] at h
    cases p with
    | zero => omega
    | succ p =>
      cases q with
      | zero =>
        simp at hq; subst hq
        simp only at hwq
        rw [hwq] at h
        simp only [cond_true] at h
        rcases checkW_last anc items _ _ h.2 p it (by simpa using hp) with hh | ⟨u, iu, h1, h2, h3, h4⟩
        · exact ⟨0, _, by omega, by omega, rfl, hwq, hh⟩
        · exact ⟨u + 1, iu, by omega, by omega, by simpa using h2, h3, h4⟩
      | succ q =>
        have key : ∀ k' last', checkW anc items k' last' = true → ∃ (u : Nat) (iu : DItem), q + 1 ≤ u ∧ u < p + 1 ∧ ((i, ao, lo, hi) :: items)[u]? = some iu ∧ isW iu.2.1 = true ∧ iu.1 ∈ ancQ anc it.1 := by
          intro k' last' hc
          obtain ⟨u, iu, h1, h2, h3, h4, h5⟩ := checkW_spec anc items k' last' hc p it q iq (by simpa using hp) (by simpa using hq) (by omega) hwq
          exact ⟨u + 1, iu, by omega, by omega, by simpa using h3, h4, h5⟩
        cases hw : isW ao with
        | true => rw [hw] at h; simp only [cond_true] at h; exact key _ _ h.2
        | false => rw [hw] at h; simp only [cond_false, Bool.and_eq_true] at h; exact key _ _ h.2.2

theorem writers_get : ∀ (items : List DItem) (q : Nat) (iq : DItem), items[q]? = some iq → isW iq.2.1 = true → (writersOf items)[cntW (items.map (·.2)) q]? = some iq.1
  | [], q, iq, h, _ => by simp at h
  | it :: items, q, iq, h, hw => by
    unfold writersOf
    cases q with
    | zero => simp at h; subst h; simp [List.filter_cons, hw, cntW_zero]
    | succ q =>
      have := writers_get items q iq (by simpa using h) hw
      unfold writersOf at this
      simp only [List.map_cons, cntW]
      cases hw0 : isW it.2.1 with
      | true => simp only [List.filter_cons, hw0, if_true, List.map_cons]; rw [Nat.add_comm]; simpa using this
      | false => simp only [List.filter_cons, hw0]; simpa using this

theorem checkHi_spec {anc : List (List Nat)} {items : List DItem} (h : checkHi anc (writersOf items) items = true) {p q : Nat} {it iq : DItem} (hp : items[p]? = some it) (hd : isW it.2.1 = false) (hq : items[q]? = some iq) (hw : isW iq.2.1 = true)
    (hle : it.2.2.2 ≤ cntW (items.map (·.2)) q) : it.1 ∈ ancQ anc iq.1 := by
  unfold checkHi at h
  rw [List.all_eq_true] at h
  have := h it (List.mem_of_getElem? hp)
  rw [hd, Bool.false_or, List.all_eq_true] at this
  refine memQ_iff.1 (this iq.1 ?_)
  have hg := writers_get items q iq hq hw
  refine List.mem_of_getElem? (i := cntW (items.map (·.2)) q - it.2.2.2) ?_
  rw [List.getElem?_drop, ← hg]
  congr 1; omega

theorem checkAnc_spec {anc : List (List Nat)} {ops : Array Oper} (h : checkAnc anc ops = true) {i : Nat} {o : Oper} (ho : ops[i]? = some o) :
    (∀ j ∈ bindsOf o, j ∈ ancQ anc i ∧ ∀ x ∈ ancQ anc j, x ∈ ancQ anc i) ∧ ∀ x ∈ ancQ anc i, ∃ j ∈ bindsOf o, x = j ∨ x ∈ ancQ anc j := by
  unfold checkAnc at h
  rw [List.all_eq_true] at h
  have := h i (List.mem_range.2 (Array.getElem?_eq_some_iff.1 ho).1)
  rw [ho] at this
  simp only [Bool.and_eq_true, List.all_eq_true, List.any_eq_true, Bool.or_eq_true, memQ_iff, beq_iff] at this
  exact this

theorem apart_spec {anc : List (List Nat)} {ops : Array Oper} (h : apartAll anc ops = true) {i j : Nat} {o p : Oper} (ho : ops[i]? = some o) (hp : ops[j]? = some p) (hne : j ≠ i) {d : Nat} (hd : p.dst = some d) :
    o.dst ≠ some d ∧ (d ∈ usesOf ops o → j ∈ ancQ anc i ∨ i ∈ ancQ anc j) := by
  unfold apartAll at h
  rw [List.all_eq_true] at h
  have := h i (List.mem_range.2 (Array.getElem?_eq_some_iff.1 ho).1)
  rw [ho] at this
  simp only [List.all_eq_true] at this
  have := this j (List.mem_range.2 (Array.getElem?_eq_some_iff.1 hp).1)
  have hnb : Nat.beq j i = false := by
    cases hb : Nat.beq j i with
    | false => rfl
    | true => exact absurd (beq_iff.1 hb) hne
  rw [hp, hnb] at this
  simp only [hd, Bool.false_or, Bool.and_eq_true, Bool.or_eq_true, Bool.not_eq_true', memQ_iff] at this
  obtain ⟨h1, h2⟩ := this
  refine ⟨fun hh => ?_, fun hu => ?_⟩
  · rw [hh] at h1
    simp at h1
  · rcases h2 with (h2 | h2) | h2
    · rw [memQ_iff.2 hu] at h2; cases h2
    · exact .inl h2
    · exact .inr h2

theorem cDraw_spec {P : Program} {F : Frm} {ops : Array Oper} {A : ACode} (h : cDraw P F ops = some A) : ∃ (anc : List (List Nat)) (items : List DItem) (d : Nat → Option Nat),
    A = .draw (items.map (·.2)) ((ops.toList.filterMap (·.dst)).filter (isLive F.np F.live)) ∧
    (∀ p it, items[p]? = some it → ∃ o, ops[it.1]? = some o ∧ d p = o.dst ∧ cOper P F ops (ctxQ d [] p) o = some it.2.1) ∧
    checkAnc anc ops = true ∧ apartAll anc ops = true ∧ checkOrder anc ops.size items [] = true ∧ checkW anc items 0 none = true ∧ checkHi anc (writersOf items) items = true := by
  unfold cDraw at h
  simp only [Option.bind_eq_some_iff] at h
  obtain ⟨first, _, anc, _, items, hit, h⟩ := h
  split at h
  · rename_i hc
    simp only [Option.some.injEq] at h
    subst h
    simp only [Bool.and_eq_true] at hc
    obtain ⟨h1, h2, h3, h4, h5⟩ := hc
    obtain ⟨d, hd⟩ := drawItems_spec _ _ _ hit
    exact ⟨anc, items, d, rfl, hd, h1, h2, h3, h4, h5⟩
  · cases h

end Go.Abs
