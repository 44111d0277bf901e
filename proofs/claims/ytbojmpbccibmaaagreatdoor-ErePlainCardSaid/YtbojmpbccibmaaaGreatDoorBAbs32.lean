/- The abstract machine: calls told in pieces; what is known of calls ahead; the way in. -/
import Derived.Test.YtbojmpbccibmaaaGreatDoorBAbs31
import Derived.Below
set_option linter.unusedVariables false
set_option linter.unusedSimpArgs false
set_option linter.unusedSectionVars false
set_option linter.deprecated false
namespace Go.Abs

/-! ### Forgetting, by a program -/

noncomputable def cutT (n : Nat) (t : T ABlk) : Nat → Nat → T ABlk :=
  T.rec (motive := fun _ => Nat → Nat → T ABlk) (fun _ _ => .nil)
    (fun _ v _ il ir a b => .node (il (Nat.mul 2 a) (Nat.add a b)) (ifB (Nat.blt b n) v none) (ir (Nat.mul 2 a) (Nat.add (Nat.mul 2 a) b))) t

noncomputable def allT (p : ABlk → Bool) (t : T ABlk) : Bool :=
  T.rec (motive := fun _ => Bool) true (fun _ v _ il ir => ifB (Option.rec (motive := fun _ => Bool) true p v) (ifB il ir false) false) t

theorem get_cutT (n : Nat) : ∀ (t : T ABlk) (a b m : Nat), (cutT n t a b).get m = if a * m + b < n then t.get m else none
  | .nil, a, b, m => by simp [cutT]
  | .node l v r, a, b, m => by
    have e : cutT n (.node l v r) a b = .node (cutT n l (2 * a) (a + b)) (ifB (Nat.blt b n) v none) (cutT n r (2 * a) (2 * a + b)) := rfl
    rw [e, T.get_node, T.get_node, get_cutT n l, get_cutT n r]
    simp only [T.ifB_eq, blt_iff, beq_iff]
    by_cases h0 : m = 0
    · subst h0; simp
    · rw [if_neg h0, if_neg h0]
      by_cases h1 : m % 2 = 1
      · rw [if_pos h1, if_pos h1]
        have : 2 * a * (m / 2) + (a + b) = a * m + b := by
          have hm : m = 2 * (m / 2) + 1 := by omega
          conv => rhs; rw [hm]
          rw [Nat.mul_add, Nat.mul_one, ← Nat.mul_assoc, Nat.mul_comm a 2]; omega
        rw [this]
      · rw [if_neg h1, if_neg h1]
        have : 2 * a * (m / 2 - 1) + (2 * a + b) = a * m + b := by
          have hm : m = 2 * (m / 2 - 1) + 2 := by omega
          conv => rhs; rw [hm]
          rw [Nat.mul_add, ← Nat.mul_assoc, Nat.mul_comm a 2]; omega
        rw [this]

theorem allT_get {p : ABlk → Bool} : ∀ {t : T ABlk}, allT p t = true → ∀ (m : Nat) (b : ABlk), t.get m = some b → p b = true
  | .nil, _, m, b, h => by simp at h
  | .node l v r, h, m, b, hg => by
    have e : allT p (.node l v r) = ifB (Option.rec (motive := fun _ => Bool) true p v) (ifB (allT p l) (allT p r) false) false := rfl
    rw [e, T.ifB_eq, T.ifB_eq] at h
    split at h
    · rename_i h1
      split at h
      · rename_i h2
        rw [T.get_node] at hg
        simp only [T.ifB_eq] at hg
        split at hg
        · subst hg; exact h1
        · split at hg
          · exact allT_get h2 _ b hg
          · exact allT_get h _ b hg
      · cases h
    · cases h

noncomputable def keepRegs (n : Nat) (r : Regs) : List Nat → Regs → Option Regs
  | [], acc => some acc
  | t :: ts, acc => bif AV.ltn n (r.val t) then keepRegs n r ts (T.put acc t (some (r.val t))) else none

theorem keepRegs_val (n : Nat) (r : Regs) : ∀ (ts : List Nat) (acc r' : Regs), keepRegs n r ts acc = some r' → (∀ t, acc.val t = .junk ∨ (acc.val t = r.val t ∧ (r.val t).ltn n = true)) → ∀ t, r'.val t = .junk ∨ (r'.val t = r.val t ∧ (r.val t).ltn n = true)
  | [], acc, r', h, ha, t => by simp only [keepRegs, Option.some.injEq] at h; subst h; exact ha t
  | u :: ts, acc, r', h, ha, t => by
    simp only [keepRegs] at h
    cases hl : AV.ltn n (r.val u) with
    | false => rw [hl] at h; cases h
    | true =>
      rw [hl] at h
      refine keepRegs_val n r ts _ r' h (fun t => ?_) t
      rw [val_put]
      by_cases ht : t = u
      · subst ht; rw [if_pos rfl]; exact .inr ⟨rfl, hl⟩
      · rw [if_neg ht]; exact ha t

/-- What is kept of a state: these places, and the blocks below a number. -/
noncomputable def gc (n : Nat) (keep : List Nat) (s : St) : Option St :=
  match s.defers, s.below with
  | [], none => bif Nat.ble n s.heap.next && allT (ABlk.ltn n) (cutT n s.heap.tbl 1 0) then
      (match keepRegs n s.regs keep .nil with | some r => some ⟨r, ⟨cutT n s.heap.tbl 1 0, n⟩, [], none⟩ | none => none) else none
  | _, _ => none

theorem gc_wk {n : Nat} {keep : List Nat} {s s' : St} (h : gc n keep s = some s') {k : Nat} (hk : k ≤ n) : Wk k s s' := by
  unfold gc at h
  split at h
  · rename_i hd hb
    cases hc : (Nat.ble n s.heap.next && allT (ABlk.ltn n) (cutT n s.heap.tbl 1 0)) with
    | false => rw [hc] at h; cases h
    | true =>
      rw [hc] at h
      rw [Bool.and_eq_true, ble_iff] at hc
      simp only [cond_true] at h
      split at h
      · rename_i r hr
        simp only [Option.some.injEq] at h
        subst h
        refine ⟨hk, hc.1, fun i hi => ?_, fun i b hb' => ?_, keepRegs_val n s.regs keep .nil r hr (fun t => .inl rfl), ⟨hd, rfl⟩, ⟨hb, rfl⟩⟩
        · unfold AHeap.get
          simp only
          rw [get_cutT, if_pos (by omega)]
        · unfold AHeap.get at hb'
          simp only at hb'
          have hl := allT_get hc.2 i b hb'
          rw [get_cutT] at hb'
          split at hb'
          · rename_i hi
            exact ⟨by simp only; omega, hb', hl⟩
          · cases hb'
      · cases h
  · cases h

section
variable [Val]

/-! ### Calls -/

noncomputable def endOf (R : Runner) (as : List ARes) (x : AEx) (s : St) : Option (AEnd × AHeap) :=
  match x with
  | .normal => runDefers R as s.regs s.defers none s.heap
  | .ret => runDefers R as s.regs s.defers none s.heap
  | .panic c => runDefers R as s.regs s.defers (some c) s.heap
  | .exit _ => none

/-- What a call from a heap does. -/
def Con (P : Program) (ng : Nat) (f : FuncId) (args : List AV) (h : AHeap) (en : AEnd) (h' : AHeap) : Prop :=
  Callable P f ∧ ∀ φ w cargs, HRel ng φ h w → VRels φ args cargs.toList → Calls P f cargs w fun e w' => ∃ φ', HRel ng φ' h' w' ∧ Stp φ h w φ' h' w' ∧ EndRel φ' en e

theorem call_der {P : Program} {ng : Nat} {R : Runner} (hP : P.globals.size = ng) (hR : CallOk P ng R) (hRD : CallDOk P ng R) (hL : LoopOk P ng R) (hD : DrawOk P ng R) {f : FuncId} {fn : Func} {b : Code} {as : List ARes} {live : List Nat}
    (hfn : P.funcs[f]? = some fn) (hb : fn.body = some b) (hname : fn.name ≠ "runtime.NumGoroutine") (hrs : cRes P fn.results.toList = some as)
    {args : List AV} {h h' : AHeap} {x : AEx} {s' : St} {en : AEnd} (hnp : Nat.ble args.length (fn.params.size + fn.nfree) = true)
    (hd : Der P ng ⟨fn.ntmps, fn.params.size + fn.nfree, live⟩ R b ⟨argRegs args 0 .nil, h, [], none⟩ x s') (hr : endOf R as x s' = some (en, h')) : Con P ng f args h en h' := by
  refine ⟨⟨fn, hfn, hname, by rw [hb]; rfl⟩, fun φ w cargs H hv => ?_⟩
  rw [ble_iff] at hnp
  refine calls_of_wp_defers hfn hb (wp_of_wpG fun cs => ?_)
  let F : Frm := ⟨fn.ntmps, fn.params.size + fn.nfree, live⟩
  let B : Base := ⟨default, [], cs⟩
  have hs := start_ok (F := F) (B := B) (n := fn.ntmps) (bl := none) (cs := cs) H hv rfl hnp rfl
  refine (der_ok hP hR hL hD hd B φ _ cs w hs).1.mono fun e a' cs' w' hq => ?_
  obtain ⟨φ', k1, k2, k3, k4⟩ := hq
  have hbn : s'.below = none := by simpa using k4
  have hbel := k1.below
  rw [hbn] at hbel
  refine ⟨hbel, ?_⟩
  have hreg : ∀ t, VRel φ' (s'.regs.val t) (a'.tmps.getD t undef) := k1.ctx
  cases x with
  | normal =>
    cases e <;> simp only [ExRel] at k3
    exact defers_ok hRD hrs s'.defers none s'.heap hr φ' w' a'.defers .returning k1.heap k2 hreg k1.defers rfl
  | ret =>
    cases e <;> simp only [ExRel] at k3
    exact defers_ok hRD hrs s'.defers none s'.heap hr φ' w' a'.defers .returning k1.heap k2 hreg k1.defers rfl
  | panic c =>
    cases e <;> simp only [ExRel] at k3
    exact defers_ok hRD hrs s'.defers (some c) s'.heap hr φ' w' a'.defers (.panicking _) k1.heap k2 hreg k1.defers ⟨_, rfl, k3⟩
  | exit id => cases hr

/-- A function's code, told in pieces, by the runner of a program. -/
abbrev DerF (P : Program) (live : FuncId → List Nat) (O : Oracle) (n : Nat) (f : FuncId) (fn : Func) : Code → St → AEx → St → Prop :=
  Der P P.globals.size ⟨fn.ntmps, fn.params.size + fn.nfree, live f⟩ (runner (progOf P live O) n)

theorem con_der {P : Program} (hm : P.follows .mixedOrders = true) {live : FuncId → List Nat} {O : Oracle} (hO : OracleOk P P.globals.size O) (n : Nat) {f : FuncId} {fn : Func} {b : Code} {as : List ARes}
    (hfn : P.funcs[f]? = some fn) (hb : fn.body = some b) (hname : fn.name ≠ "runtime.NumGoroutine") (hrs : cRes P fn.results.toList = some as)
    {args : List AV} {h h' : AHeap} {x : AEx} {s' : St} {en : AEnd} (hnp : Nat.ble args.length (fn.params.size + fn.nfree) = true)
    (hd : DerF P live O n f fn b ⟨argRegs args 0 .nil, h, [], none⟩ x s') (hr : endOf (runner (progOf P live O) n) as x s' = some (en, h')) : Con P P.globals.size f args h en h' := by
  obtain ⟨hR, hRD, hL⟩ := runner_ok rfl hO (fun R hR => draw_ok hm rfl hR) (live := live) n
  exact call_der rfl hR hRD hL (draw_ok hm rfl hR) hfn hb hname hrs hnp hd hr

theorem con_run {P : Program} (hm : P.follows .mixedOrders = true) {live : FuncId → List Nat} {O : Oracle} (hO : OracleOk P P.globals.size O) (n : Nat) {f : FuncId} {args : List AV} {h h' : AHeap} {en : AEnd}
    (hr : (runner (progOf P live O) n).call f args h = some (en, h')) : Con P P.globals.size f args h en h' :=
  runner_sound hm rfl hO n f args h en h' hr

/-! ### What is known ahead -/

theorem oracle_none {P : Program} {ng : Nat} : OracleOk P ng fun _ _ _ => none := by intro f args h en h' hr; cases hr

/-- One function's contract ahead of others. -/
noncomputable def oneO (g : FuncId) (C : List AV → AHeap → Option (AEnd × AHeap)) (O : Oracle) : Oracle := fun f args h =>
  ifB (Nat.beq f g) (match C args h with | some r => some r | none => O f args h) (O f args h)

theorem oracle_one {P : Program} {ng : Nat} {g : FuncId} {C : List AV → AHeap → Option (AEnd × AHeap)} {O : Oracle} (hO : OracleOk P ng O) (hC : ∀ args h en h', C args h = some (en, h') → Con P ng g args h en h') : OracleOk P ng (oneO g C O) := by
  intro f args h en h' hr
  unfold oneO at hr
  rw [T.ifB_eq] at hr
  split at hr
  · rename_i hf
    rw [beq_iff] at hf
    subst hf
    split at hr
    · rename_i r hr'
      cases hr
      exact hC args h en h' hr'
    · exact hO f args h en h' hr
  · exact hO f args h en h' hr

/-- A heap of rows that nobody writes: their numbers, what they hold, their types. -/
abbrev Rows := List (Nat × List AV × TypeId)

noncomputable def heapOf (n : Nat) (l : Rows) : AHeap := ⟨l.foldr (fun x tb => T.put tb x.1 (some (.cells x.2.1.length (putsV x.2.1 .nil 0) x.2.2 true))) .nil, n⟩

theorem heapOf_get (n : Nat) : ∀ (l : Rows) (i : Nat) (b : ABlk), (heapOf n l).get i = some b → ∃ x ∈ l, x.1 = i ∧ b = .cells x.2.1.length (putsV x.2.1 .nil 0) x.2.2 true
  | [], i, b, h => by cases h
  | x :: l, i, b, h => by
    have e : (heapOf n (x :: l)).get i = if i = x.1 then some (.cells x.2.1.length (putsV x.2.1 .nil 0) x.2.2 true) else (heapOf n l).get i := T.get_put _ _ _ _
    rw [e] at h
    split at h
    · rename_i hi
      cases h
      exact ⟨x, by simp, hi.symm, rfl⟩
    · obtain ⟨y, h1, h2⟩ := heapOf_get n l i b h
      exact ⟨y, List.mem_cons_of_mem _ h1, h2⟩

/-- Do the rows lie below the heap's number, and name only such? -/
noncomputable def rowsIn (n : Nat) (l : Rows) : Bool := l.all fun x => Nat.blt x.1 n && AV.ltns n x.2.1

/-- Does a heap hold them? -/
noncomputable def subB (l : Rows) (h : AHeap) : Bool := l.all fun x => match h.get x.1 with
  | some (.cells m c t _) => Nat.ble x.2.1.length m && (Nat.beq x.2.2 t && AV.sames x.2.1 (getsV c x.2.1.length 0))
  | _ => false

/-- Does a heap hold what another one holds? -/
def Sub (h0 h : AHeap) : Prop := ∀ i b, h0.get i = some b → i < h0.next ∧ b.ltn h0.next = true ∧ ∃ m c t, b = .cells m c t true ∧ ∃ m' c' ro, m ≤ m' ∧ h.get i = some (.cells m' c' t ro) ∧ ∀ k, k < m → (c'.get k).getD .junk = (c.get k).getD .junk

theorem row_get (cs : List AV) (k : Nat) (hk : k < cs.length) : ((putsV cs .nil 0).get k).getD .junk = cs[k] := by
  rw [get_putsV, if_pos ⟨Nat.zero_le _, by omega⟩, Nat.sub_zero, List.getElem?_eq_getElem hk]; rfl

theorem sub_of {n : Nat} {l : Rows} (hr : rowsIn n l = true) {h : AHeap} (hs : subB l h = true) : Sub (heapOf n l) h := by
  intro i b hb
  obtain ⟨x, hx, rfl, rfl⟩ := heapOf_get n l i b hb
  unfold rowsIn at hr
  unfold subB at hs
  rw [List.all_eq_true] at hr hs
  have h1 := hr x hx
  have h2 := hs x hx
  rw [Bool.and_eq_true, blt_iff] at h1
  refine ⟨h1.1, ?_, _, _, _, rfl, ?_⟩
  · have : getsV (putsV x.2.1 .nil 0) x.2.1.length 0 = x.2.1 := by
      apply List.ext_getElem?
      intro k
      by_cases hk : k < x.2.1.length
      · rw [getElem?_getsV _ _ _ _ hk, Nat.zero_add, row_get _ _ hk, List.getElem?_eq_getElem hk]
      · rw [List.getElem?_eq_none (by rw [length_getsV]; omega), List.getElem?_eq_none (by omega)]
    unfold ABlk.ltn
    simp only
    rw [this]; exact h1.2
  · split at h2
    · rename_i m c t ro hg
      simp only [Bool.and_eq_true, ble_iff, beq_iff] at h2
      obtain ⟨k1, k2, k3⟩ := h2
      refine ⟨m, c, ro, k1, by rw [hg, k2], fun k hk => ?_⟩
      have := sames_eq _ _ k3
      rw [row_get _ _ hk]
      have h4 := getElem?_getsV c x.2.1.length 0 k hk
      rw [← this, List.getElem?_eq_getElem hk, Nat.zero_add] at h4
      exact (Option.some.inj h4).symm
    · cases h2

theorem sub_rel {ng : Nat} {φ : Phi} {h0 h : AHeap} {w : World} (H : HRel ng φ h w) (hs : Sub h0 h) (hng : ng ≤ h0.next) : HRel ng (cut h0.next φ) h0 w := by
  refine ⟨fun i hi => cut_ge φ hi, fun g hg => ?_, fun i b hb => ?_, fun i j b b' c p m p' m' hi hj hne ei ej => ?_, fun i c p m e => ?_, fun i b hb => (hs i b hb).1⟩
  · have := H.glob g hg
    unfold PtrOk at *
    rw [cut_lt φ (by omega)]; exact this
  · obtain ⟨h1, hlt, m, c, t, rfl, m', c', ro, hm, h2, hc⟩ := hs i b hb
    rw [cut_lt φ h1]
    rcases H.blk i _ h2 with e | ⟨bb, p, k, e, q⟩
    · exact .inl e
    · refine .inr ⟨bb, p, k, e, ?_⟩
      have := BRel.cut (n := h0.next) hlt (show BRel φ (.cells m c t true) bb p k w from ?_)
      · exact this
      · obtain ⟨vs, u, fz, k1, k2, k3, k4, k5, k6⟩ := q
        exact ⟨vs, u, fz, k1, k2, by omega, (fun j hj => by rw [← hc j hj]; exact k4 j (by omega)), (fun hh => by simp at hh), k6⟩
  · obtain ⟨_, _, m, c, t, rfl, _⟩ := hs i b hi
    obtain ⟨_, _, m, c, t, rfl, _⟩ := hs j b' hj
    exact ⟨rfl, rfl⟩
  · unfold cut at e
    split at e
    · exact H.lt i c p m e
    · cases e

theorem sub_noRW {h0 h : AHeap} (hs : Sub h0 h) (φ : Phi) (b : Nat) : ¬ RW φ h0 b := by
  rintro ⟨i, bl, o, n, hg, hro, _⟩
  obtain ⟨_, _, m, c, t, rfl, _⟩ := hs i bl hg
  cases hro

theorem Stp.pure {ng : Nat} {φ φ₀ φ' : Phi} {h h0 h1 : AHeap} {w w' : World} (H : HRel ng φ h w) (hs : Sub h0 h) (k : Stp φ₀ h0 w φ' h1 w') : HRel ng φ h w' ∧ Stp φ h w φ h w' := by
  have hsame : ∀ b, b < w.heap.size → w'.heap[b]? = w.heap[b]? := fun b hb => k.same b hb (sub_noRW hs φ₀ b)
  refine ⟨⟨H.fresh, H.glob, fun i b hb => (H.blk i b hb).imp id fun ⟨c, p, n, h1, h2⟩ => ⟨c, p, n, h1, h2.same (hsame c (H.lt i c p n h1))⟩, H.inj, fun i c p n e => Nat.lt_of_lt_of_le (H.lt i c p n e) k.size, H.dom⟩, ?_⟩
  exact ⟨Ext.refl _, k.os, k.tape, k.output, k.size, fun b hb _ => hsame b hb, fun _ h _ => h, fun _ _ e => ⟨rfl, e⟩, Nat.le_refl _⟩

/-- A call that answers what names nothing, from a heap that nobody writes: it answers so wherever that is held, and changes nothing. -/
theorem con_pure {P : Program} {ng : Nat} {f : FuncId} {args : List AV} {h0 h1 : AHeap} {v : AV} (hc : Con P ng f args h0 (.returned v) h1) (hng : ng ≤ h0.next) (ha : AV.ltns h0.next args = true) (hv : AV.ltn 0 v = true) {h : AHeap} (hs : Sub h0 h) :
    Con P ng f args h (.returned v) h := by
  refine ⟨hc.1, fun φ w cargs H hva => ?_⟩
  refine (hc.2 (cut h0.next φ) w cargs (sub_rel H hs hng) (ltns_cut _ _ ha hva)).mono fun e w' he => ?_
  obtain ⟨φ', k1, k2, k3⟩ := he
  obtain ⟨j1, j2⟩ := Stp.pure H hs k2
  refine ⟨φ, j1, j2, ?_⟩
  cases e with
  | returned cv =>
    have := ltn_cut v cv hv k3
    exact VRel.mono (fun i => by rw [cut_ge φ' (Nat.zero_le i)]; trivial) _ _ this
  | panicked _ => exact k3.elim
  | outgrown => exact k3.elim

/-- A call that makes something of which nothing more is asked. -/
theorem con_dead {P : Program} {ng : Nat} {f : FuncId} {args : List AV} {h0 h1 : AHeap} {i o : Nat} (hc : Con P ng f args h0 (.returned (.ptr (some (i, o)))) h1) (hng : ng ≤ h0.next) (ha : AV.ltns h0.next args = true) {h : AHeap} (hs : Sub h0 h) :
    Con P ng f args h (.returned (.ptr (some (h.next, 0)))) ⟨h.tbl, h.next + 1⟩ := by
  refine ⟨hc.1, fun φ w cargs H hva => ?_⟩
  refine (hc.2 (cut h0.next φ) w cargs (sub_rel H hs hng) (ltns_cut _ _ ha hva)).mono fun e w' he => ?_
  obtain ⟨φ', k1, k2, k3⟩ := he
  obtain ⟨j1, j2⟩ := Stp.pure H hs k2
  have hun : φ h.next = .un := H.fresh _ (Nat.le_refl _)
  have hext : Ext φ (upd φ h.next .dead) := Ext.upd (by rw [hun]; trivial)
  have hat : ∀ j c p n, upd φ h.next .dead j = .at c p n → j ≠ h.next ∧ φ j = .at c p n := by
    intro j c p n e
    by_cases hj : j = h.next
    · subst hj; rw [upd_same] at e; cases e
    · rw [upd_other φ _ hj] at e; exact ⟨hj, e⟩
  have hget : ∀ j, (⟨h.tbl, h.next + 1⟩ : AHeap).get j = h.get j := fun j => rfl
  refine ⟨upd φ h.next .dead, ⟨fun j hj => ?_, fun g hg => (H.glob g hg).mono hext, fun j b hb => ?_, fun j k b b' c p m p' m' hj hk hne ej ek => ?_, fun j c p n e => j1.lt j c p n (hat j c p n e).2, fun j b hb => ?_⟩, ⟨hext, j2.os, j2.tape, j2.output, j2.size, j2.same, fun b ⟨j, bl, p, n, hg, hro, e⟩ hb => ?_, fun j hj e => ⟨rfl, ?_⟩, Nat.le_succ _⟩, ?_⟩
  · simp only at hj
    rw [upd_other φ _ (by omega)]; exact H.fresh j (by omega)
  · rw [hget] at hb
    have hj := H.dom j b hb
    rw [upd_other φ _ (by omega)]
    exact (j1.blk j b hb).imp id fun ⟨c, p, n, h1, h2⟩ => ⟨c, p, n, h1, h2.mono hext⟩
  · exact H.inj j k b b' c p m p' m' hj hk hne (hat j c p m ej).2 (hat k c p' m' ek).2
  · have := H.dom j b hb
    simp only; omega
  · exact ⟨j, bl, p, n, hg, hro, (hat j b p n e).2⟩
  · rw [upd_other φ _ (by omega)]; exact e
  · cases e with
    | returned cv =>
      obtain ⟨a, rfl, _⟩ := k3
      exact ⟨a, rfl, by unfold PtrOk; rw [upd_same]; trivial⟩
    | panicked _ => exact k3.elim
    | outgrown => exact k3.elim

/-- A heap that holds nothing. -/
theorem sub_nil (n : Nat) (h : AHeap) : Sub ⟨.nil, n⟩ h := by intro i b hb; cases hb

/-! ### The way in -/

/-- From a heap that holds nothing: whatever world there is. -/
theorem enter_nil {P : Program} {ng : Nat} {f : FuncId} {args : List AV} {n : Nat} {v : AV} {h1 : AHeap} (hc : Con P ng f args ⟨.nil, n⟩ (.returned v) h1) (hng : ng ≤ n) {w : World} {cargs : Array Value} (hv : VRels (fun i => if i < n then .dead else .un) args cargs.toList) {cv : Value} (hcv : ∀ φ u, VRel φ v u → u = cv) :
    Calls P f cargs w fun e w' => e = .returned cv ∧ RowKit.Below w.heap.size w w' := by
  have H : HRel ng (fun i => if i < n then .dead else .un) ⟨.nil, n⟩ w := by
    refine ⟨fun i hi => ?_, fun g hg => ?_, fun i b hb => ?_, fun i j b b' c p m p' m' hi => ?_, fun i c p m e => ?_, fun i b hb => ?_⟩
    · simp only at hi ⊢
      rw [if_neg (by omega)]
    · unfold PtrOk
      simp only [show g < n by omega, if_true]
    · cases hb
    · cases hi
    · split at e <;> cases e
    · cases hb
  refine (hc.2 _ w cargs H hv).mono fun e w' he => ?_
  obtain ⟨φ', k1, k2, k3⟩ := he
  cases e with
  | returned u =>
    refine ⟨by rw [hcv φ' u k3], k2.os, k2.tape, k2.output, k2.size, fun b hb => k2.same b hb ?_⟩
    rintro ⟨i, bl, o, m, hg, _⟩
    cases hg
  | panicked _ => exact k3.elim
  | outgrown => exact k3.elim

/-- From a heap that holds rows of package-level variables: whatever world holds them. -/
theorem enter_rows {P : Program} {ng : Nat} {f : FuncId} {args : List AV} {n : Nat} {rows : Rows} {v : AV} {h1 : AHeap} (hc : Con P ng f args (heapOf n rows) (.returned v) h1) (hng : ng ≤ n) (hin : rowsIn n rows = true) {w : World}
    (hw : ∀ x ∈ rows, x.2.2 = 0 ∧ ∃ vs u fz, w.heap[x.1]? = some (.cells vs u fz) ∧ x.2.1.length ≤ vs.size ∧ ∀ (k : Nat) (a : AV), x.2.1[k]? = some a → ∃ c, vs[k]? = some c ∧ ∀ φ, VRel φ a c)
    {cargs : Array Value} (hv : ∀ φ, VRels φ args cargs.toList) {cv : Value} (hcv : ∀ φ u, VRel φ v u → u = cv) :
    Calls P f cargs w fun e w' => e = .returned cv ∧ RowKit.Below w.heap.size w w' := by
  classical
  let φ : Phi := fun i => if i < n then (match w.heap[i]? with | some (.cells vs _ _) => .at i 0 vs.size | _ => .dead) else .un
  have hφ : ∀ i c p m, φ i = .at c p m → c = i ∧ p = 0 ∧ i < w.heap.size := by
    intro i c p m e
    simp only [φ] at e
    split at e
    · split at e
      · rename_i vs _ _ hg
        cases e
        exact ⟨rfl, rfl, (Array.getElem?_eq_some_iff.1 hg).1⟩
      · cases e
    · cases e
  have hro : ∀ i b, (heapOf n rows).get i = some b → b.ro = true := by
    intro i b hb
    obtain ⟨x, _, _, rfl⟩ := heapOf_get n rows i b hb
    rfl
  have hdom : ∀ i b, (heapOf n rows).get i = some b → i < n := by
    intro i b hb
    obtain ⟨x, hx, rfl, _⟩ := heapOf_get n rows i b hb
    unfold rowsIn at hin
    rw [List.all_eq_true] at hin
    have := hin x hx
    rw [Bool.and_eq_true, blt_iff] at this
    exact this.1
  have H : HRel ng φ (heapOf n rows) w := by
    refine ⟨fun i hi => ?_, fun g hg => ?_, fun i b hb => ?_, fun i j b b' c p m p' m' hi hj _ _ _ => ⟨hro i b hi, hro j b' hj⟩, fun i c p m e => ?_, hdom⟩
    · have : n ≤ i := hi
      simp only [φ]
      rw [if_neg (by omega)]
    · unfold PtrOk
      simp only [φ]
      rw [if_pos (by omega)]
      split
      · rename_i hh; split at hh <;> cases hh
      · trivial
      · rename_i hh
        split at hh
        · cases hh; rfl
        · cases hh
    · have hi := hdom i b hb
      obtain ⟨x, hx, rfl, rfl⟩ := heapOf_get n rows i b hb
      obtain ⟨hz, vs, u, fz, hg, hlen, hcell⟩ := hw x hx
      refine .inr ⟨x.1, 0, vs.size, by simp only [φ]; rw [if_pos hi, hg], vs, u, fz, hg, by omega, hlen, fun k hk => ?_, fun hh => (by simp at hh), fun hh => absurd hz hh⟩
      obtain ⟨c, h1, h2⟩ := hcell k _ (List.getElem?_eq_getElem hk)
      rw [row_get _ _ hk]
      exact ⟨c, by rw [Nat.zero_add]; exact h1, h2 φ⟩
    · have := hφ i c p m e
      omega
  refine (hc.2 φ w cargs H (hv φ)).mono fun e w' he => ?_
  obtain ⟨φ', k1, k2, k3⟩ := he
  cases e with
  | returned u =>
    refine ⟨by rw [hcv φ' u k3], k2.os, k2.tape, k2.output, k2.size, fun b hb => k2.same b hb ?_⟩
    rintro ⟨i, bl, o, m, hg, hr, _⟩
    rw [hro i bl hg] at hr
    cases hr
  | panicked _ => exact k3.elim
  | outgrown => exact k3.elim

/-- A heap of rows that nobody writes stands to a world that holds them. -/
theorem hrel_rows {ng n : Nat} {φ : Phi} {rows : Rows} {w : World} (hf : ∀ i, n ≤ i → φ i = .un) (hg : ∀ g, g < ng → PtrOk φ g 0 ⟨g, 0, none⟩) (hlt : ∀ i c p m, φ i = .at c p m → c < w.heap.size) (hin : rowsIn n rows = true)
    (hr : ∀ x ∈ rows, x.2.2 = 0 ∧ ∃ c p m vs u fz, φ x.1 = .at c p m ∧ w.heap[c]? = some (.cells vs u fz) ∧ vs.size = p + m ∧ x.2.1.length ≤ m ∧ ∀ (k : Nat) (a : AV), x.2.1[k]? = some a → ∃ cv, vs[p + k]? = some cv ∧ VRel φ a cv) :
    HRel ng φ (heapOf n rows) w := by
  have hro : ∀ i b, (heapOf n rows).get i = some b → b.ro = true := by
    intro i b hb
    obtain ⟨x, _, _, rfl⟩ := heapOf_get n rows i b hb
    rfl
  refine ⟨hf, hg, fun i b hb => ?_, fun i j b b' c p m p' m' hi hj _ _ _ => ⟨hro i b hi, hro j b' hj⟩, hlt, fun i b hb => ?_⟩
  · obtain ⟨x, hx, rfl, rfl⟩ := heapOf_get n rows i b hb
    obtain ⟨hz, c, p, m, vs, u, fz, h1, h2, h3, h4, h5⟩ := hr x hx
    refine .inr ⟨c, p, m, h1, vs, u, fz, h2, h3, h4, fun k hk => ?_, fun hh => (by simp at hh), fun hh => absurd hz hh⟩
    obtain ⟨cv, h6, h7⟩ := h5 k _ (List.getElem?_eq_getElem hk)
    rw [row_get _ _ hk]
    exact ⟨cv, h6, h7⟩
  · obtain ⟨x, hx, rfl, _⟩ := heapOf_get n rows i b hb
    unfold rowsIn at hin
    rw [List.all_eq_true] at hin
    have := hin x hx
    rw [Bool.and_eq_true, blt_iff] at this
    exact this.1

/-- The way in, from rows that nobody writes. -/
theorem enter_ro {P : Program} {ng : Nat} {f : FuncId} {args : List AV} {n : Nat} {rows : Rows} {v : AV} {h1 : AHeap} (hc : Con P ng f args (heapOf n rows) (.returned v) h1) {φ : Phi} {w : World} (H : HRel ng φ (heapOf n rows) w)
    {cargs : Array Value} (hv : VRels φ args cargs.toList) {cv : Value} (hcv : ∀ φ u, VRel φ v u → u = cv) :
    Calls P f cargs w fun e w' => e = .returned cv ∧ RowKit.Below w.heap.size w w' := by
  refine (hc.2 φ w cargs H hv).mono fun e w' he => ?_
  obtain ⟨φ', k1, k2, k3⟩ := he
  cases e with
  | returned u =>
    refine ⟨by rw [hcv φ' u k3], k2.os, k2.tape, k2.output, k2.size, fun b hb => k2.same b hb ?_⟩
    rintro ⟨i, bl, o, m, hg, hr, _⟩
    obtain ⟨x, _, _, rfl⟩ := heapOf_get n rows i bl hg
    cases hr
  | panicked _ => exact k3.elim
  | outgrown => exact k3.elim

end
end Go.Abs
