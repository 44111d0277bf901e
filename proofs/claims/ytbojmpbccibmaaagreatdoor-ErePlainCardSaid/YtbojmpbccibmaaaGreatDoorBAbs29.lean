/- The abstract machine: regions that draw their order. The invariant, and the law. -/
import Derived.Test.YtbojmpbccibmaaaGreatDoorBAbs28
set_option linter.unusedVariables false
set_option linter.unusedSimpArgs false
set_option linter.unusedSectionVars false
set_option linter.deprecated false
namespace Go.Abs
variable [Val]

structure DS (P : Program) (F : Frm) (ops : Array Oper) (R : Runner) (anc : List (List Nat)) (items : List DItem) (d : Nat → Option Nat) (s0 : St) (x : AEx) (s' : St) (n : Nat) (S : Nat → St) (v : Nat → AV) (L : List Look) (HS : List AHeap) : Prop where
  it : ∀ p it, items[p]? = some it → ∃ o, ops[it.1]? = some o ∧ d p = o.dst ∧ cOper P F ops (ctxQ d [] p) o = some it.2.1
  hA : checkAnc anc ops = true
  hAp : apartAll anc ops = true
  hO : checkOrder anc ops.size items [] = true
  hW : checkW anc items 0 none = true
  hH : checkHi anc (writersOf items) items = true
  tr : Tr R (items.map (·.2)) [] s0 0 x s' n S v L HS
  below : s0.below = none

section
variable {P : Program} {ng : Nat} {F : Frm} {ops : Array Oper} {R : Runner} {anc : List (List Nat)} {items : List DItem} {d : Nat → Option Nat} {s0 : St} {x : AEx} {s' : St} {n : Nat} {S : Nat → St} {v : Nat → AV} {L : List Look} {HS : List AHeap}

theorem map_get {items : List DItem} {p : Nat} {it : DItem} (h : items[p]? = some it) : (items.map (·.2))[p]? = some it.2 := by rw [List.getElem?_map, h]; rfl

theorem DS.onAt (D : DS P F ops R anc items d s0 x s' n S v L HS) {p : Nat} (hp : p < n) {it : DItem} (hit : items[p]? = some it) : (operFn it.2.1).run R (envQ v [] p) (S p) = .on (v p) (S (p + 1)) :=
  D.tr.on p it.2 hp (map_get hit)

theorem DS.get (D : DS P F ops R anc items d s0 x s' n S v L HS) {p : Nat} (hp : p < n) : ∃ it, items[p]? = some it := by
  have := D.tr.le
  rw [List.length_map] at this
  exact ⟨items[p], List.getElem?_eq_getElem (by omega)⟩

theorem DS.inj (D : DS P F ops R anc items d s0 x s' n S v L HS) {p q : Nat} {ip iq : DItem} (hp : items[p]? = some ip) (hq : items[q]? = some iq) (h : ip.1 = iq.1) : p = q := by
  by_cases hne : p = q
  · exact hne
  · exact absurd h ((checkOrder_spec anc _ items [] D.hO).2.1 p q ip iq hp hq hne)

theorem DS.ahead (D : DS P F ops R anc items d s0 x s' n S v L HS) {p : Nat} {it : DItem} (hp : items[p]? = some it) {y : Nat} (hy : y ∈ ancQ anc it.1) : ∃ (q : Nat) (iq : DItem), q < p ∧ items[q]? = some iq ∧ iq.1 = y := by
  rcases ((checkOrder_spec anc _ items [] D.hO).1 p it hp).2.2 y hy with h | h
  · simp at h
  · exact h

theorem DS.all (D : DS P F ops R anc items d s0 x s' n S v L HS) {i : Nat} (hi : i < ops.size) : ∃ (p : Nat) (ip : DItem), items[p]? = some ip ∧ ip.1 = i := by
  rcases (checkOrder_spec anc _ items [] D.hO).2.2 i hi with h | h
  · simp at h
  · exact h

/-! #### What stands ahead is done -/

def Closed (ops : Array Oper) (X : Nat → Prop) : Prop := ∀ i o, ops[i]? = some o → X i → ∀ j ∈ bindsOf o, X j

theorem DS.anc_in (D : DS P F ops R anc items d s0 x s' n S v L HS) {X : Nat → Prop} (hc : Closed ops X) : ∀ (p : Nat) (it : DItem) (o : Oper), items[p]? = some it → ops[it.1]? = some o → (∀ j ∈ bindsOf o, X j) → ∀ y ∈ ancQ anc it.1, X y := by
  intro p
  induction p using Nat.strongRecOn with
  | ind p ih =>
    intro it o hp ho hb y hy
    obtain ⟨h1, h2⟩ := checkAnc_spec D.hA ho
    obtain ⟨j, hj, hyj⟩ := h2 y hy
    rcases hyj with rfl | hyj
    · exact hb y hj
    · obtain ⟨q, iq, hq, hq1, rfl⟩ := D.ahead hp (h1 j hj).1
      obtain ⟨oq, hoq, _, _⟩ := D.it q iq hq1
      exact ih q hq iq oq hq1 hoq (hc _ _ hoq (hb _ hj)) y hyj

theorem DS.W_in (D : DS P F ops R anc items d s0 x s' n S v L HS) {X : Nat → Prop} (hc : Closed ops X) : ∀ (p : Nat) (it : DItem), items[p]? = some it → (∀ y ∈ ancQ anc it.1, X y) → ∀ (q : Nat) (iq : DItem), items[q]? = some iq → q < p → isW iq.2.1 = true → X iq.1 := by
  intro p
  induction p using Nat.strongRecOn with
  | ind p ih =>
    intro it hp hX q iq hq hqp hw
    obtain ⟨u, iu, h1, h2, h3, h4, h5⟩ := checkW_spec anc items 0 none D.hW p it q iq hp hq hqp hw
    by_cases he : q = u
    · subst he
      rw [hq] at h3; cases h3
      exact hX _ h5
    · obtain ⟨ou, hou, _, _⟩ := D.it u iu h3
      exact ih u h2 iu h3 (D.anc_in hc u iu ou h3 hou (hc _ _ hou (hX _ h5))) q iq hq (by omega) hw

/-! #### Places of the frame -/

theorem locOf_ctxQ (d : Nat → Option Nat) (v : Nat → AV) (t : Nat) : ∀ p, match locOf t (ctxQ d [] p) 0 with
    | none => ∀ q, q < p → d q ≠ some t
    | some k => ∃ q, q < p ∧ d q = some t ∧ locAt (envQ v [] p) k = v q
  | 0 => by simp [ctxQ, locOf]
  | p + 1 => by
    have ih := locOf_ctxQ d v t p
    simp only [ctxQ]
    rw [locOf_cons]
    by_cases hd : d p = some t
    · rw [hd]
      simp only [beq_self_eq_true, if_true]
      exact ⟨p, by omega, hd, rfl⟩
    · have hne : (d p == some t) = false := by simpa using hd
      rw [hne]
      simp only [Bool.false_eq_true, if_false]
      cases hl : locOf t (ctxQ d [] p) 0 with
      | none =>
        rw [hl] at ih
        simp only [Option.map_none]
        intro q hq
        by_cases hqp : q = p
        · subst hqp; exact hd
        · exact ih q (by omega)
      | some k =>
        rw [hl] at ih
        obtain ⟨q, h1, h2, h3⟩ := ih
        simp only [Option.map_some]
        exact ⟨q, by omega, h2, by simp only [envQ]; rw [locAt_succ]; exact h3⟩

theorem DS.dst_ne (D : DS P F ops R anc items d s0 x s' n S v L HS) {p q : Nat} {ip iq : DItem} (hp : items[p]? = some ip) (hq : items[q]? = some iq) (hne : p ≠ q) {t : Nat} (h : d p = some t) : d q ≠ some t := by
  obtain ⟨op, hop, hdp, _⟩ := D.it p ip hp
  obtain ⟨oq, hoq, hdq, _⟩ := D.it q iq hq
  rw [hdq]
  rw [hdp] at h
  exact (apart_spec D.hAp hoq hop (fun e => hne (D.inj hp hq e)) h).1

theorem DS.below_at (D : DS P F ops R anc items d s0 x s' n S v L HS) : ∀ p, p ≤ n → (S p).below = none
  | 0, _ => by rw [D.tr.zero]; exact D.below
  | p + 1, hp => by
    obtain ⟨it, hit⟩ := D.get (p := p) (by omega)
    exact below_on (D.onAt (by omega) hit) (D.below_at p (by omega))

theorem DS.regs (D : DS P F ops R anc items d s0 x s' n S v L HS) : ∀ p, p ≤ n → ∀ t,
    ((∀ q, q < p → d q ≠ some t) → (S p).regs.val t = s0.regs.val t) ∧ (isLive F.np F.live t = false → (S p).regs.val t = s0.regs.val t) ∧
    (∀ q, q < p → d q = some t → isLive F.np F.live t = true → (S p).regs.val t = v q)
  | 0, _, t => by rw [D.tr.zero]; exact ⟨fun _ => rfl, fun _ => rfl, fun q hq => by omega⟩
  | p + 1, hp, t => by
    obtain ⟨it, hit⟩ := D.get (p := p) (by omega)
    obtain ⟨o, ho, hdo, hao⟩ := D.it p it hit
    obtain ⟨_, hdst, _, _⟩ := cOper_spec hao
    obtain ⟨i1, i2, i3⟩ := D.regs p (by omega) t
    have hv := regs_on (D.onAt (p := p) (by omega) hit) t
    have hdt : it.2.1.dst = some t ↔ d p = some t ∧ isLive F.np F.live t = true := by
      rw [hdst, hdo]
      cases hd : o.dst with
      | none => simp
      | some t' =>
        simp only [Option.filter]
        by_cases hl : isLive F.np F.live t' = true
        · rw [if_pos hl]
          constructor
          · intro h; cases h; exact ⟨rfl, hl⟩
          · rintro ⟨h, _⟩; exact h
        · rw [if_neg hl]
          constructor
          · intro h; cases h
          · rintro ⟨h, h2⟩; cases h; exact absurd h2 hl
    refine ⟨fun h => ?_, fun h => ?_, fun q hq hdq hl => ?_⟩
    · rw [hv, if_neg (by rw [hdt]; rintro ⟨h1, _⟩; exact h p (by omega) h1)]
      exact i1 fun q hq => h q (by omega)
    · rw [hv, if_neg (by rw [hdt]; rintro ⟨_, h1⟩; rw [h] at h1; cases h1)]
      exact i2 h
    · by_cases hqp : q = p
      · subst hqp
        rw [hv, if_pos (hdt.2 ⟨hdq, hl⟩)]
      · obtain ⟨iq, hiq⟩ := D.get (p := q) (by omega)
        rw [hv, if_neg (by rw [hdt]; rintro ⟨h1, _⟩; exact D.dst_ne hiq hit hqp hdq h1)]
        exact i3 q (by omega) hdq hl

/-! ### The invariant -/

structure Inv0 (ng : Nat) (ops : Array Oper) (items : List DItem) (d : Nat → Option Nat) (s0 : St) (n : Nat) (S : Nat → St) (v : Nat → AV) (φ₀ : Phi) (w₀ : World) (a₀ : Act) (m : Nat) (X : Nat → Prop) (φ : Phi) (a : Act) (w : World) : Prop where
  le : m ≤ n
  xlt : ∀ p it, items[p]? = some it → X it.1 → p < m
  xw : ∀ p it, p < m → items[p]? = some it → isW it.2.1 = true → X it.1
  closed : Closed ops X
  heap : HRel ng φ (S m).heap w
  stp : Stp φ₀ s0.heap w₀ φ (S m).heap w
  vals : ∀ p it, items[p]? = some it → X it.1 → ∀ t, d p = some t → VRel φ (v p) (a.tmps.getD t undef)
  rest : ∀ t, (∀ p it, items[p]? = some it → X it.1 → d p ≠ some t) → a.tmps.getD t undef = a₀.tmps.getD t undef
  virt : ∀ p it, p < m → items[p]? = some it → isW it.2.1 = false → ¬ X it.1 → ∀ b mk, effD it.2.1 (envQ v [] p) (S p).regs = .new b mk → φ (S p).heap.next = .un ∧ (S m).heap.get (S p).heap.next = some b
  nexts : ∀ p q, p ≤ q → q ≤ m → (S p).heap.next ≤ (S q).heap.next
  defers : DRels φ (S m).defers a.defers
  size : a.tmps.size = a₀.tmps.size

section
variable {φ₀ : Phi} {w₀ : World} {a₀ : Act} {m : Nat} {X : Nat → Prop} {φ : Phi} {a : Act} {w : World}

theorem DS.lenLt (D : DS P F ops R anc items d s0 x s' n S v L HS) {m : Nat} (hm : m ≤ n) {it : DItem} (hit : items[m]? = some it) (hd : isW it.2.1 = false) : m < n := by
  rcases D.tr.fin with ⟨h1, _, _⟩ | ⟨it', h1, h2, _⟩
  · rw [List.length_map] at h1
    have := (List.getElem?_eq_some_iff.1 hit).1
    omega
  · by_cases he : m = n
    · subst he
      rw [map_get hit] at h1; cases h1
      rw [hd] at h2; cases h2
    · omega

/-- What an operation that writes nothing does to the heap of the one run. -/
theorem DS.heapD (D : DS P F ops R anc items d s0 x s' n S v L HS) {p : Nat} (hp : p < n) {it : DItem} (hit : items[p]? = some it) (hd : isW it.2.1 = false) :
    runD (S p).heap (effD it.2.1 (envQ v [] p) (S p).regs) = some (v p, (S (p + 1)).heap) ∧ (S (p + 1)).defers = (S p).defers ∧
    (((∀ b mk, effD it.2.1 (envQ v [] p) (S p).regs ≠ .new b mk) ∧ (S (p + 1)).heap = (S p).heap) ∨ ∃ b mk, effD it.2.1 (envQ v [] p) (S p).regs = .new b mk ∧ (S (p + 1)).heap = (S p).heap.new b ∧ v p = mk (S p).heap.next) := by
  obtain ⟨h1, h2, _, _⟩ := stepD hd (D.onAt hp hit)
  refine ⟨h1, h2, ?_⟩
  generalize effD it.2.1 (envQ v [] p) (S p).regs = dr at h1
  cases dr with
  | new b mk =>
    simp only [runD, Option.some.injEq, Prod.mk.injEq] at h1
    exact .inr ⟨b, mk, rfl, h1.2.symm, h1.1.symm⟩
  | val _ => simp only [runD, Option.some.injEq, Prod.mk.injEq] at h1; exact .inl ⟨by simp, h1.2.symm⟩
  | read i o n f =>
    refine .inl ⟨by simp, ?_⟩
    simp only [runD] at h1
    split at h1
    · split at h1
      · simp only [Option.some.injEq, Prod.mk.injEq] at h1; exact h1.2.symm
      · cases h1
    · cases h1
  | readT i o ts v' =>
    refine .inl ⟨by simp, ?_⟩
    simp only [runD] at h1
    split at h1
    · rw [T.ifB_eq] at h1
      split at h1
      · simp only [Option.some.injEq, Prod.mk.injEq] at h1; exact h1.2.symm
      · cases h1
    · cases h1
  | readMap i f =>
    refine .inl ⟨by simp, ?_⟩
    simp only [runD] at h1
    split at h1
    · split at h1
      · simp only [Option.some.injEq, Prod.mk.injEq] at h1; exact h1.2.symm
      · cases h1
    · cases h1
  | bad => simp [runD] at h1

/-- The one run goes on by an operation that writes nothing: what it makes is not made yet. -/
theorem Inv0.skip (D : DS P F ops R anc items d s0 x s' n S v L HS) (h : Inv0 ng ops items d s0 n S v φ₀ w₀ a₀ m X φ a w) {it : DItem} (hit : items[m]? = some it) (hd : isW it.2.1 = false) :
    Inv0 ng ops items d s0 n S v φ₀ w₀ a₀ (m + 1) X φ a w := by
  have hm := D.lenLt h.le hit hd
  obtain ⟨h1, h2, h3⟩ := D.heapD hm hit hd
  have hnx : ¬ X it.1 := fun hx => by have := h.xlt m it hit hx; omega
  have hle : (S m).heap.next ≤ (S (m + 1)).heap.next := by
    rcases h3 with ⟨_, h3⟩ | ⟨b, mk, _, h3, _⟩ <;> rw [h3] <;> simp
  have hget : ∀ i, i < (S m).heap.next → (S (m + 1)).heap.get i = (S m).heap.get i := by
    intro i hi
    rcases h3 with ⟨_, h3⟩ | ⟨b, mk, _, h3, _⟩ <;> rw [h3]
    rw [AHeap.get_new, if_neg (by omega)]
  refine ⟨hm, fun p ip hp hx => by have := h.xlt p ip hp hx; omega, fun p ip hp hip hw => ?_, h.closed, ?_, ?_, h.vals, h.rest, fun p ip hp hip hdp hx b mk he => ?_, fun p q hpq hq => ?_, by rw [h2]; exact h.defers, h.size⟩
  · by_cases hpm : p = m
    · subst hpm; rw [hit] at hip; cases hip; rw [hd] at hw; cases hw
    · exact h.xw p ip (by omega) hip hw
  · rcases h3 with ⟨_, h3⟩ | ⟨b, mk, _, h3, _⟩ <;> rw [h3]
    · exact h.heap
    · exact h.heap.virt b
  · rcases h3 with ⟨_, h3⟩ | ⟨b, mk, _, h3, _⟩ <;> rw [h3]
    · exact h.stp
    · exact h.stp.trans (Stp.virt_new h.heap b)
  · by_cases hpm : p = m
    · subst hpm
      rw [hit] at hip; cases hip
      rcases h3 with ⟨h3, _⟩ | ⟨b', mk', h3, h4, _⟩
      · exact absurd he (h3 b mk)
      · rw [h3] at he; cases he
        refine ⟨h.heap.fresh _ (Nat.le_refl _), ?_⟩
        rw [h4, AHeap.get_new, if_pos rfl]
    · obtain ⟨k1, k2⟩ := h.virt p ip (by omega) hip hdp hx b mk he
      refine ⟨k1, ?_⟩
      rw [hget _ (h.heap.dom _ _ k2)]; exact k2
  · by_cases hqm : q = m + 1
    · subst hqm
      by_cases hpm : p = m + 1
      · subst hpm; exact Nat.le_refl _
      · exact Nat.le_trans (h.nexts p m (by omega) (Nat.le_refl _)) hle
    · exact h.nexts p q hpq (by omega)

theorem Inv0.adv (D : DS P F ops R anc items d s0 x s' n S v L HS) (φ₀ : Phi) (w₀ : World) (a₀ : Act) (X : Nat → Prop) (φ : Phi) (a : Act) (w : World) : ∀ (k m : Nat), n - m ≤ k → Inv0 ng ops items d s0 n S v φ₀ w₀ a₀ m X φ a w →
    ∃ m', Inv0 ng ops items d s0 n S v φ₀ w₀ a₀ m' X φ a w ∧ ∀ it, items[m']? = some it → isW it.2.1 = true
  | k, m, hk, h => by
    by_cases hd : ∃ it, items[m]? = some it ∧ isW it.2.1 = false
    · obtain ⟨it, hit, hd⟩ := hd
      have hm := D.lenLt h.le hit hd
      cases k with
      | zero => omega
      | succ k => exact Inv0.adv D φ₀ w₀ a₀ X φ a w k (m + 1) (by omega) (h.skip D hit hd)
    · refine ⟨m, h, fun it hit => ?_⟩
      cases hw : isW it.2.1 with
      | true => rfl
      | false => exact absurd ⟨it, hit, hw⟩ hd

/-- What an operation looks at. -/
theorem Inv0.at_ (D : DS P F ops R anc items d s0 x s' n S v L HS) (hs : ∀ t, VRel φ₀ (s0.regs.val t) (a₀.tmps.getD t undef)) (h : Inv0 ng ops items d s0 n S v φ₀ w₀ a₀ m X φ a w) {p : Nat} (hp : p ≤ n) {it : DItem} (hit : items[p]? = some it) {o : Oper} (ho : ops[it.1]? = some o)
    (hX : ¬ X it.1) (hr : ∀ j ∈ bindsOf o, X j) : ∀ t, t ∈ usesOf ops o → VRel φ (match locOf t (ctxQ d [] p) 0 with | some k => locAt (envQ v [] p) k | none => (S p).regs.val t) (a.tmps.getD t undef) := by
  intro t ht
  have hanc := D.anc_in h.closed p it o hit ho hr
  have hl := locOf_ctxQ d v t p
  cases hloc : locOf t (ctxQ d [] p) 0 with
  | some k =>
    rw [hloc] at hl
    obtain ⟨q, hq, hdq, hv⟩ := hl
    simp only
    rw [hv]
    obtain ⟨iq, hiq⟩ := D.get (p := q) (by omega)
    obtain ⟨oq, hoq, hdoq, _⟩ := D.it q iq hiq
    have hne : iq.1 ≠ it.1 := fun e => by have := D.inj hiq hit e; omega
    have hXq : X iq.1 := by
      rcases (apart_spec D.hAp ho hoq hne (by rw [← hdoq]; exact hdq)).2 ht with h1 | h1
      · exact hanc _ h1
      · obtain ⟨u, iu, hu, hu1, hu2⟩ := D.ahead hiq h1
        have := D.inj hu1 hit hu2
        omega
    exact h.vals q iq hiq hXq t hdq
  | none =>
    rw [hloc] at hl
    simp only
    rw [(D.regs p hp t).1 hl]
    rw [h.rest t ?_]
    · exact (hs t).mono h.stp.ext
    · intro q iq hiq hXq hdq
      by_cases hqp : q < p
      · exact hl q hqp hdq
      · obtain ⟨oq, hoq, hdoq, _⟩ := D.it q iq hiq
        have hne : iq.1 ≠ it.1 := fun e => by rw [e] at hXq; exact hX hXq
        rcases (apart_spec D.hAp ho hoq hne (by rw [← hdoq]; exact hdq)).2 ht with h1 | h1
        · obtain ⟨u, iu, hu, hu1, hu2⟩ := D.ahead hit h1
          have := D.inj hu1 hiq hu2
          omega
        · exact hX (D.anc_in h.closed q iq oq hiq hoq (h.closed _ _ hoq hXq) _ h1)

theorem tmps_put {a : Act} {dst : Option Nat} {cv : Value} (hd : ∀ t, dst = some t → t < a.tmps.size) (t : Nat) : (a.put dst cv).tmps.getD t undef = if dst = some t then cv else a.tmps.getD t undef := by
  cases dst with
  | none => simp [Act.put]
  | some e =>
    have hd1 := hd e rfl
    simp only [Act.put, Array.getD_eq_getD_getElem?, Array.getElem?_setIfInBounds]
    by_cases ht : e = t
    · subst ht; simp [hd1]
    · simp [ht]

/-- An operation was done. -/
theorem Inv0.put (D : DS P F ops R anc items d s0 x s' n S v L HS) (hsz : F.ntmps ≤ a₀.tmps.size) (h : Inv0 ng ops items d s0 n S v φ₀ w₀ a₀ m X φ a w) {p : Nat} {it : DItem} (hit : items[p]? = some it) {o : Oper} (ho : ops[it.1]? = some o) (hX : ¬ X it.1) (hr : ∀ j ∈ bindsOf o, X j)
    {m' : Nat} (hm : m ≤ m') (hm' : m' ≤ n) (hp : p < m') (hw' : ∀ q iq, q < m' → items[q]? = some iq → isW iq.2.1 = true → X iq.1 ∨ iq.1 = it.1) {φ' : Phi} {w' : World} {a' : Act} {cv : Value} (hext : Ext φ φ') (hh : HRel ng φ' (S m').heap w') (hst : Stp φ₀ s0.heap w₀ φ' (S m').heap w')
    (hv : VRel φ' (v p) cv) (hat : a'.tmps = a.tmps) (hdf : DRels φ' (S m').defers a'.defers)
    (hvirt : ∀ q iq, q < m' → items[q]? = some iq → isW iq.2.1 = false → ¬ X iq.1 → q ≠ p → ∀ b mk, effD iq.2.1 (envQ v [] q) (S q).regs = .new b mk → φ' (S q).heap.next = .un ∧ (S m').heap.get (S q).heap.next = some b)
    (hnexts : ∀ p q, p ≤ q → q ≤ m' → (S p).heap.next ≤ (S q).heap.next) : Inv0 ng ops items d s0 n S v φ₀ w₀ a₀ m' (fun i => X i ∨ i = it.1) φ' (a'.put o.dst cv) w' := by
  obtain ⟨o', ho', hdo, hao⟩ := D.it p it hit
  rw [ho] at ho'; cases ho'
  obtain ⟨hlt, _, _, _⟩ := cOper_spec hao
  have hsz' : a'.tmps.size = a₀.tmps.size := by rw [hat]; exact h.size
  have hput := fun t => tmps_put (a := a') (dst := o.dst) (cv := cv) (fun t ht => by have := hlt t ht; omega) t
  refine ⟨hm', fun q iq hq hx => ?_, fun q iq hq hiq hw => hw' q iq hq hiq hw, fun i oi hoi hx j hj => ?_, hh, hst, fun q iq hq hx t ht => ?_, fun t ht => ?_, fun q iq hq hiq hd hx b mk he => ?_, hnexts, ?_, ?_⟩
  · rcases hx with hx | hx
    · have := h.xlt q iq hq hx; omega
    · have := D.inj hq hit hx; omega
  · rcases hx with hx | rfl
    · exact .inl (h.closed i oi hoi hx j hj)
    · rw [ho] at hoi; cases hoi
      exact .inl (hr j hj)
  · rw [hput]
    by_cases hqp : q = p
    · subst hqp
      rw [← hdo, if_pos ht]; exact hv
    · rw [← hdo, if_neg (D.dst_ne hq hit hqp ht), hat]
      rcases hx with hx | hx
      · exact (h.vals q iq hq hx t ht).mono hext
      · exact absurd (D.inj hq hit hx) hqp
  · rw [hput, ← hdo, if_neg (ht p it hit (.inr rfl)), hat]
    exact h.rest t fun q iq hq hx => ht q iq hq (.inl hx)
  · exact hvirt q iq hq hiq hd (fun hx' => hx (.inl hx')) (fun e => hx (.inr (by subst e; rw [hit] at hiq; cases hiq; rfl))) b mk he
  · have : (a'.put o.dst cv).defers = a'.defers := by cases o.dst <;> rfl
    rw [this]; exact hdf
  · have : (a'.put o.dst cv).tmps.size = a'.tmps.size := by cases o.dst <;> simp [Act.put]
    rw [this]; exact hsz'

end

/-! ### Steps -/

section
variable {φ₀ : Phi} {w₀ : World} {a₀ : Act} {m : Nat} {X : Nat → Prop} {φ : Phi} {a : Act} {w : World} {Q : Exit → Act → World → Prop} {K : Act → World → Prop}

/-- The heaps between the counts: a read sees one thing. -/
theorem DS.sees (D : DS P F ops R anc items d s0 x s' n S v L HS) {p : Nat} {it : DItem} (hp : p < n) (hit : items[p]? = some it) (hd : isW it.2.1 = false) {m : Nat} (hm : m ≤ n) (hpm : p ≤ m) (hW : ∀ im, items[m]? = some im → isW im.2.1 = true)
    (hhi : cntW (items.map (·.2)) m ≤ it.2.2.2) (hn : ∀ b mk, effD it.2.1 (envQ v [] p) (S p).regs ≠ .new b mk) : ∃ h', runD (S m).heap (effD it.2.1 (envQ v [] p) (S p).regs) = some (v p, h') := by
  obtain ⟨h1, _, _⟩ := D.heapD hp hit hd
  have hlo : it.2.2.1 = cntW (items.map (·.2)) p := by have := checkW_lo anc items 0 none D.hW p it hit hd; omega
  have hmem : ∀ l ∈ lookAt (effD it.2.1 (envQ v [] p) (S p).regs) (S p).heap it.2.2.1 it.2.2.2, l ∈ L := fun l hl => D.tr.look p it.2 hp (map_get hit) hd l (lookD hd _ _ _ _ l hl)
  have hle := cntW_mono (items.map (·.2)) p m hpm
  have hj : ∃ j, HS[j]? = some (S m).heap ∧ j + cntW (items.map (·.2)) m = cntW (items.map (·.2)) n := by
    by_cases hmn : m = n
    · subst hmn; exact ⟨0, D.tr.top, by omega⟩
    · obtain ⟨im, him⟩ := D.get (p := m) (by omega)
      obtain ⟨j, k1, k2⟩ := D.tr.heaps m im.2 (by omega) (map_get him) (hW im him)
      exact ⟨j, k1, k2⟩
  obtain ⟨j, hj1, hj2⟩ := hj
  have look : ∀ l : Look, l.d = effD it.2.1 (envQ v [] p) (S p).regs → l.v = v p → l.lo = it.2.2.1 → l.hi = it.2.2.2 → l ∈ L → ∃ h', runD (S m).heap (effD it.2.1 (envQ v [] p) (S p).regs) = some (v p, h') := by
    intro l e1 e2 e3 e4 hl
    obtain ⟨v', h', k1, k2⟩ := stableIn_at (looksOk_at D.tr.ok hl) j _ hj1 (by rw [e3]; omega) (by rw [e4]; omega)
    rw [e1] at k1
    rw [e2] at k2
    rw [same_eq _ _ k2]
    exact ⟨h', k1⟩
  unfold lookAt at hmem
  cases he : effD it.2.1 (envQ v [] p) (S p).regs with
  | val v' => rw [he] at h1; simp only [runD, Option.some.injEq, Prod.mk.injEq] at h1; rw [← h1.1]; exact ⟨_, rfl⟩
  | new b mk => exact absurd he (hn b mk)
  | bad => rw [he] at h1; simp [runD] at h1
  | read i o c f =>
    rw [he] at hmem h1 look
    simp only [h1] at hmem
    exact look ⟨_, v p, it.2.2.1, it.2.2.2⟩ rfl rfl rfl rfl (hmem _ (by simp))
  | readT i o ts v' =>
    rw [he] at hmem h1 look
    simp only [h1] at hmem
    exact look ⟨_, v p, it.2.2.1, it.2.2.2⟩ rfl rfl rfl rfl (hmem _ (by simp))
  | readMap i f =>
    rw [he] at hmem h1 look
    simp only [h1] at hmem
    exact look ⟨_, v p, it.2.2.1, it.2.2.2⟩ rfl rfl rfl rfl (hmem _ (by simp))

theorem cntW_last : ∀ (l : List OItem) (m : Nat), 0 < cntW l m → ∃ u o, u < m ∧ l[u]? = some o ∧ isW o.1 = true ∧ cntW l u + 1 = cntW l m
  | [], m, h => by simp [cntW] at h
  | o :: l, 0, h => by simp [cntW] at h
  | o :: l, m + 1, h => by
    by_cases h0 : 0 < cntW l m
    · obtain ⟨u, o', h1, h2, h3, h4⟩ := cntW_last l m h0
      exact ⟨u + 1, o', by omega, by simpa using h2, h3, by simp only [cntW]; omega⟩
    · cases hw : isW o.1 with
      | true => exact ⟨0, o, by omega, rfl, hw, by simp only [cntW, hw]; simp; omega⟩
      | false => simp only [cntW, hw] at h; simp at h; omega

/-- An operation that writes nothing, in any order. -/
theorem Inv0.stepD (hP : P.globals.size = ng) (D : DS P F ops R anc items d s0 x s' n S v L HS) (hsz : F.ntmps ≤ a₀.tmps.size) (hs : ∀ t, VRel φ₀ (s0.regs.val t) (a₀.tmps.getD t undef)) (h : Inv0 ng ops items d s0 n S v φ₀ w₀ a₀ m X φ a w) (hW : ∀ it, items[m]? = some it → isW it.2.1 = true)
    {p : Nat} {it : DItem} (hit : items[p]? = some it) {o : Oper} (ho : ops[it.1]? = some o) (hd : isW it.2.1 = false) (hX : ¬ X it.1) (hr : ∀ j ∈ bindsOf o, X j)
    (hK : ∀ φ' a' w', Inv0 ng ops items d s0 n S v φ₀ w₀ a₀ m (fun i => X i ∨ i = it.1) φ' a' w' → K a' w') : wpOp P ops Q it.1 K a w := by
  have hanc := D.anc_in h.closed p it o hit ho hr
  -- it stands ahead of the next writer
  have hpm : p < m := by
    rcases Nat.lt_trichotomy p m with hlt | heq | hgt
    · exact hlt
    · subst heq; have := hW it hit; rw [hd] at this; cases this
    · have hlen := (List.getElem?_eq_some_iff.1 hit).1
      have him : items[m]? = some items[m] := List.getElem?_eq_getElem (by omega)
      have := D.W_in h.closed p it hit hanc m _ him hgt (hW _ him)
      have := h.xlt m _ him this
      omega
  have hpn : p < n := Nat.lt_of_lt_of_le hpm h.le
  obtain ⟨o', ho', hdo, hao⟩ := D.it p it hit
  rw [ho] at ho'; cases ho'
  have hhi : cntW (items.map (·.2)) m ≤ it.2.2.2 := by
    rcases Nat.lt_or_ge it.2.2.2 (cntW (items.map (·.2)) m) with hlt | hge
    · exfalso
      obtain ⟨u, ou, h1, h2, h3, h4⟩ := cntW_last _ m (Nat.lt_of_le_of_lt (Nat.zero_le _) hlt)
      obtain ⟨iu, hiu⟩ := D.get (p := u) (by have := h.le; omega)
      rw [map_get hiu] at h2; cases h2
      have hXu := h.xw u iu h1 hiu h3
      have hmem := checkHi_spec D.hH hit hd hiu h3 (by omega)
      obtain ⟨opu, hopu, _, _⟩ := D.it u iu hiu
      exact hX (D.anc_in h.closed u iu opu hiu hopu (h.closed _ _ hopu hXu) _ hmem)
    · exact hge
  have hat := h.at_ D hs (Nat.le_of_lt hpn) hit ho hX hr
  have hw' : ∀ q iq, q < m → items[q]? = some iq → isW iq.2.1 = true → X iq.1 ∨ iq.1 = it.1 := fun q iq hq hiq hw => .inl (h.xw q iq hq hiq hw)
  refine actD hP h.heap ho hao hd hat (fun hn => ?_) (fun b mk he ob k cv hb hv => ?_)
  · obtain ⟨h', hrun⟩ := D.sees hpn hit hd h.le (Nat.le_of_lt hpm) hW hhi hn
    refine ⟨v p, h', hrun, fun cv hcv => ?_⟩
    exact hK φ _ w (h.put D hsz hit ho hX hr (Nat.le_refl _) h.le hpm hw' (Ext.refl _) h.heap h.stp hcv rfl h.defers (fun q iq hq hiq hdq hx hne b mk he => h.virt q iq hq hiq hdq hx b mk he) h.nexts)
  · obtain ⟨hun, hget⟩ := h.virt p it hpm hit hd hX b mk he
    have hext : Ext φ (upd φ (S p).heap.next (.at w.heap.size 0 k)) := Ext.upd (by rw [hun]; trivial)
    obtain ⟨_, _, h3⟩ := D.heapD hpn hit hd
    have hvp : v p = mk (S p).heap.next ∧ (S (p + 1)).heap.next = (S p).heap.next + 1 := by
      rcases h3 with ⟨h3, _⟩ | ⟨b', mk', h3, h4, h5⟩
      · exact absurd he (h3 b mk)
      · rw [he] at h3; cases h3; exact ⟨h5, by rw [h4]; rfl⟩
    refine hK _ _ _ (h.put D hsz hit ho hX hr (Nat.le_refl _) h.le hpm hw' hext (h.heap.real hget hun ob k (hb _ hext)) (h.stp.real ?_ hun ob k) ?_ rfl (h.defers.mono hext) (fun q iq hq hiq hdq hx hne b' mk' he' => ?_) h.nexts)
    · have := h.nexts 0 p (by omega) (by omega)
      rw [D.tr.zero] at this; exact this
    · rw [hvp.1]; exact hv _ _ (upd_same _ _ _)
    · obtain ⟨k1, k2⟩ := h.virt q iq hq hiq hdq hx b' mk' he'
      refine ⟨?_, k2⟩
      rw [upd_other φ _ ?_]; · exact k1
      -- two blocks that are made have two numbers
      rcases Nat.lt_or_gt_of_ne hne with hlt | hgt
      · obtain ⟨_, _, g3⟩ := D.heapD (p := q) (by omega) hiq hdq
        rcases g3 with ⟨g3, _⟩ | ⟨b2, mk2, g3, g4, _⟩
        · exact absurd he' (g3 _ _)
        · have := h.nexts (q + 1) p (by omega) (by omega)
          rw [g4] at this; simp at this; omega
      · have := h.nexts (p + 1) q (by omega) (by omega)
        omega

/-- Nothing that leaves goes on. -/
theorem out_abn {o : AOper} {R : Runner} {e : Env} {s s' : St} {x : AEx} (h : (operFn o).run R e s = .out x s') : x ≠ .normal := by
  rintro rfl
  have hop : ∀ s2, (opFn o.op).run R e s ≠ .out .normal s2 := by
    intro s2 hop
    cases hao : o.op with
    | mov y => rw [hao] at hop; cases hop
    | d f =>
      rw [hao] at hop
      simp only [opFn] at hop
      split at hop
      · cases hop
      · unfold wentD at hop
        split at hop <;> cases hop
    | w f =>
      rw [hao] at hop
      simp only [opFn] at hop
      unfold wentW at hop
      split at hop
      · cases hop
      · split at hop <;> cases hop
      · cases hop
      · cases hop
      · split at hop <;> cases hop
      · cases hop
  have hf : ∀ s2, (guardFn o.guard (opFn o.op)).run R e s ≠ .out .normal s2 := by
    intro s2 hf
    cases hg : o.guard with
    | none => rw [hg] at hf; exact hop _ hf
    | some q =>
      rw [hg] at hf
      simp only [guardFn] at hf
      split at hf
      · exact hop _ hf
      · cases hf
      · cases hf
  unfold operFn dstFn at h
  cases hd : o.dst with
  | none => rw [hd] at h; exact hf _ h
  | some d =>
    rw [hd] at h
    simp only at h
    split at h
    · cases h
    · exact hf _ h

/-- The next writer. -/
theorem Inv0.stepW (hP : P.globals.size = ng) (hR : CallOk P ng R) (D : DS P F ops R anc items d s0 x s' n S v L HS) (hsz : F.ntmps ≤ a₀.tmps.size) (hs : ∀ t, VRel φ₀ (s0.regs.val t) (a₀.tmps.getD t undef)) (h : Inv0 ng ops items d s0 n S v φ₀ w₀ a₀ m X φ a w)
    {it : DItem} (hit : items[m]? = some it) {o : Oper} (ho : ops[it.1]? = some o) (hw : isW it.2.1 = true) (hr : ∀ j ∈ bindsOf o, X j)
    (hK : ∀ φ' a' w', Inv0 ng ops items d s0 n S v φ₀ w₀ a₀ (m + 1) (fun i => X i ∨ i = it.1) φ' a' w' → K a' w')
    (hQ : ∀ φ' ex w', HRel ng φ' s'.heap w' → Stp φ₀ s0.heap w₀ φ' s'.heap w' → ExRel φ' x ex → s'.regs = (S m).regs → DRels φ' s'.defers a.defers → m = n → x ≠ .normal → Q ex a w') : wpOp P ops Q it.1 K a w := by
  have hX : ¬ X it.1 := fun hx => by have := h.xlt m it hit hx; omega
  obtain ⟨o', ho', hdo, hao⟩ := D.it m it hit
  rw [ho] at ho'; cases ho'
  have hat := h.at_ D hs h.le hit ho hX hr
  have hcase : (m < n ∧ (operFn it.2.1).run R (envQ v [] m) (S m) = .on (v m) (S (m + 1))) ∨ (m = n ∧ (operFn it.2.1).run R (envQ v [] m) (S m) = .out x s') := by
    by_cases hmn : m < n
    · exact .inl ⟨hmn, D.onAt hmn hit⟩
    · have hmn' : m = n := by have := h.le; omega
      subst hmn'
      rcases D.tr.fin with ⟨h1, _, _⟩ | ⟨it', h1, h2, h3⟩
      · rw [List.length_map] at h1
        have := (List.getElem?_eq_some_iff.1 hit).1
        omega
      · rw [map_get hit] at h1; cases h1
        exact .inr ⟨rfl, h3⟩
  refine actW hP hR h.heap (D.below_at m h.le) h.defers ho hao hw hat ?_ ?_ ?_
  · intro v1 s1 hg φ' cv a' w' hh hst hv hat' hdf
    rcases hcase with ⟨hmn, hgo⟩ | ⟨_, hgo⟩
    · rw [hgo] at hg
      simp only [Went.on.injEq] at hg
      obtain ⟨rfl, rfl⟩ := hg
      refine hK φ' _ w' (h.put D hsz hit ho hX hr (Nat.le_succ _) hmn (Nat.lt_succ_self _) (fun q iq hq hiq hwq => ?_) hst.ext hh (h.stp.trans hst) hv hat' hdf (fun q iq hq hiq hdq hx hne b mk he => ?_) (fun p q hpq hq => ?_))
      · by_cases hqm : q = m
        · subst hqm; rw [hit] at hiq; cases hiq; exact .inr rfl
        · exact .inl (h.xw q iq (by omega) hiq hwq)
      · obtain ⟨k1, k2⟩ := h.virt q iq (by omega) hiq hdq hx b mk he
        obtain ⟨k3, k4⟩ := hst.virt _ (h.heap.dom _ _ k2) k1
        exact ⟨k4, k3.trans k2⟩
      · by_cases hqm : q = m + 1
        · subst hqm
          by_cases hpm : p = m + 1
          · subst hpm; exact Nat.le_refl _
          · exact Nat.le_trans (h.nexts p m (by omega) (Nat.le_refl _)) hst.next
        · exact h.nexts p q hpq (by omega)
    · rw [hgo] at hg; cases hg
  · intro x1 s1 hg φ' ex w' hh hst hex hregs hdfs
    rcases hcase with ⟨hmn, hgo⟩ | ⟨hmn, hgo⟩
    · rw [hgo] at hg; cases hg
    · rw [hgo] at hg
      simp only [Went.out.injEq] at hg
      obtain ⟨rfl, rfl⟩ := hg
      refine hQ φ' ex w' hh (h.stp.trans hst) hex hregs (by rw [hdfs]; exact h.defers.mono hst.ext) hmn ?_
      intro hx
      subst hx
      exact out_abn hgo rfl
  · rcases hcase with ⟨_, hgo⟩ | ⟨_, hgo⟩ <;> rw [hgo] <;> simp

end
end
end Go.Abs
