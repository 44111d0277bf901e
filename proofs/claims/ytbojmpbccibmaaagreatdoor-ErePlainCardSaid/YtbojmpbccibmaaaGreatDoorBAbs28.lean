/- The abstract machine: regions that draw their order. Any order does what the one run tells. -/
import Derived.Test.YtbojmpbccibmaaaGreatDoorBAbs27
set_option linter.unusedVariables false
set_option linter.unusedSimpArgs false
set_option linter.unusedSectionVars false
set_option linter.deprecated false
namespace Go.Abs
variable [Val]

/-! ### Blocks that are not made yet -/

theorem HRel.virt {ng : Nat} {φ : Phi} {h : AHeap} {w : World} (H : HRel ng φ h w) (b : ABlk) : HRel ng φ (h.new b) w := by
  have hun : φ h.next = .un := H.fresh _ (Nat.le_refl _)
  refine ⟨fun i hi => H.fresh i (by simp at hi; omega), H.glob, fun i b' hg => ?_, fun i j b1 b2 c p m p' m' hi hj hne ei ej => ?_, H.lt, fun i b' hg => ?_⟩
  · rw [AHeap.get_new] at hg
    by_cases hi : i = h.next
    · subst hi; exact .inl hun
    · rw [if_neg hi] at hg; exact H.blk i b' hg
  · rw [AHeap.get_new] at hi hj
    have h1 : i ≠ h.next := fun e => by subst e; rw [hun] at ei; cases ei
    have h2 : j ≠ h.next := fun e => by subst e; rw [hun] at ej; cases ej
    rw [if_neg h1] at hi; rw [if_neg h2] at hj
    exact H.inj i j b1 b2 c p m p' m' hi hj hne ei ej
  · rw [AHeap.get_new] at hg
    simp only [AHeap.next_new]
    by_cases hi : i = h.next
    · omega
    · rw [if_neg hi] at hg; have := H.dom i b' hg; omega

theorem Stp.virt_new {ng : Nat} {φ : Phi} {h : AHeap} {w : World} (H : HRel ng φ h w) (b : ABlk) : Stp φ h w φ (h.new b) w := by
  have hun : φ h.next = .un := H.fresh _ (Nat.le_refl _)
  refine ⟨Ext.refl _, rfl, rfl, rfl, Nat.le_refl _, fun _ _ _ => rfl, fun c ⟨i, bl, o, n, hg, hro, e⟩ _ => ?_, fun i hi e => ⟨?_, e⟩, by simp⟩
  · rw [AHeap.get_new] at hg
    have h1 : i ≠ h.next := fun e' => by subst e'; rw [hun] at e; cases e
    rw [if_neg h1] at hg
    exact ⟨i, bl, o, n, hg, hro, e⟩
  · rw [AHeap.get_new, if_neg (by omega)]

/-- A block that was not made yet is made. -/
theorem HRel.real {ng : Nat} {φ : Phi} {h : AHeap} {w : World} (H : HRel ng φ h w) {i : Nat} {blk : ABlk} (hi : h.get i = some blk) (hun : φ i = .un) (o : Obj) (n : Nat)
    (hb : BRel (upd φ i (.at w.heap.size 0 n)) blk w.heap.size 0 n (w.alloc o)) : HRel ng (upd φ i (.at w.heap.size 0 n)) h (w.alloc o) := by
  have hext : Ext φ (upd φ i (.at w.heap.size 0 n)) := Ext.upd (by rw [hun]; trivial)
  have hat : ∀ j c p m, upd φ i (.at w.heap.size 0 n) j = .at c p m → (j = i ∧ c = w.heap.size) ∨ (j ≠ i ∧ φ j = .at c p m ∧ c < w.heap.size) := by
    intro j c p m e
    by_cases hj : j = i
    · subst hj; rw [upd_same] at e; cases e; exact .inl ⟨rfl, rfl⟩
    · rw [upd_other φ _ hj] at e; exact .inr ⟨hj, e, H.lt _ _ _ _ e⟩
  refine ⟨fun j hj => ?_, fun g hg => (H.glob g hg).mono hext, fun j b hget => ?_, fun j k b b' c p m p' m' hj hk hne ej ek => ?_, fun j c p m e => ?_, H.dom⟩
  · have := H.dom i blk hi
    rw [upd_other φ _ (by omega)]; exact H.fresh j hj
  · by_cases hji : j = i
    · subst hji
      rw [hi] at hget; cases hget
      exact .inr ⟨w.heap.size, 0, n, upd_same _ _ _, hb⟩
    · rcases H.blk j b hget with e | ⟨c, p, m, e, k⟩
      · exact .inl (by rw [upd_other φ _ hji]; exact e)
      · exact .inr ⟨c, p, m, by rw [upd_other φ _ hji]; exact e, (k.mono hext).same (heap_alloc_lt (H.lt _ _ _ _ e))⟩
  · rcases hat _ _ _ _ ej with ⟨rfl, rfl⟩ | ⟨h1, h2, h3⟩ <;> rcases hat _ _ _ _ ek with ⟨rfl, h4⟩ | ⟨h4, h5, h6⟩
    · exact absurd rfl hne
    · omega
    · omega
    · exact H.inj j k b b' c p m p' m' hj hk hne h2 h5
  · rcases hat _ _ _ _ e with ⟨_, rfl⟩ | ⟨_, _, h3⟩ <;> simp <;> omega

theorem Stp.real {φ₀ : Phi} {h₀ : AHeap} {w₀ : World} {φ : Phi} {h : AHeap} {w : World} (hs : Stp φ₀ h₀ w₀ φ h w) {i : Nat} (hi : h₀.next ≤ i) (hun : φ i = .un) (o : Obj) (n : Nat) :
    Stp φ₀ h₀ w₀ (upd φ i (.at w.heap.size 0 n)) h (w.alloc o) := by
  have hext : Ext φ (upd φ i (.at w.heap.size 0 n)) := Ext.upd (by rw [hun]; trivial)
  refine ⟨hs.ext.trans hext, hs.os, hs.tape, hs.output, ?_, fun b hb hn => ?_, fun b ⟨j, bl, p, m, hg, hro, e⟩ hb => ?_, fun j hj e => ?_, hs.next⟩
  · have := hs.size; simp; omega
  · rw [heap_alloc_lt (Nat.lt_of_lt_of_le hb hs.size)]; exact hs.same b hb hn
  · by_cases hji : j = i
    · subst hji
      rw [upd_same] at e
      cases e
      have := hs.size
      omega
    · rw [upd_other φ _ hji] at e
      exact hs.own b ⟨j, bl, p, m, hg, hro, e⟩ hb
  · obtain ⟨h1, h2⟩ := hs.virt j hj e
    exact ⟨h1, by rw [upd_other φ _ (by omega)]; exact h2⟩

theorem runD_read {P : Program} {ng : Nat} {φ : Phi} {h h' : AHeap} {w : World} {s : Sem Next} {d : DRes} {v : AV} (hd : DOk P φ s d) (H : HRel ng φ h w) (hr : runD h d = some (v, h')) (hn : ∀ b mk, d ≠ .new b mk) :
    ∃ cv, s.run P w = .ok (.value cv) w ∧ VRel φ v cv := by
  cases d with
  | val v' =>
    simp only [runD, Option.some.injEq, Prod.mk.injEq] at hr
    obtain ⟨rfl, rfl⟩ := hr
    obtain ⟨cv, h1, h2⟩ := hd
    exact ⟨cv, h1 w, h2⟩
  | read i o n f =>
    simp only [runD] at hr
    split at hr
    · rename_i cs hcs
      split at hr
      · rename_i v' hv
        simp only [Option.some.injEq, Prod.mk.injEq] at hr
        obtain ⟨rfl, rfl⟩ := hr
        obtain ⟨hun, hd⟩ := hd
        have hg : ∃ blk, h.get i = some blk := by
          unfold AHeap.cellsAt at hcs
          cases hg : h.get i with
          | none => rw [hg] at hcs; cases hcs
          | some blk => exact ⟨blk, rfl⟩
        obtain ⟨blk, hg⟩ := hg
        obtain ⟨b, p, m, hφ, _⟩ := at_of H hg hun
        obtain ⟨vs, t, fz, h1, h2, h3, h4⟩ := loads_of H hcs hφ
        obtain ⟨cv, h5, h6⟩ := hd b p m vs t fz w hφ h1 h2 h4 cs h3 v' hv
        exact ⟨cv, h5, h6⟩
      · cases hr
    · cases hr
  | readT i o ts v' =>
    simp only [runD] at hr
    split at hr
    · rename_i m c t ro hg
      rw [T.ifB_eq] at hr
      split at hr
      · rename_i hc
        simp only [Option.some.injEq, Prod.mk.injEq] at hr
        obtain ⟨rfl, rfl⟩ := hr
        obtain ⟨hun, hd⟩ := hd
        simp only [Bool.and_eq_true, ble_iff, Bool.not_eq_true', List.any_eq_true, beq_iff] at hc
        obtain ⟨h1, h2, q, hq, hq1, hq2⟩ := hc
        obtain ⟨b, p, n, hφ, vs, u, fz, hb1, hb2, hb3, hb4, hb5, hb6⟩ := at_of H hg hun
        obtain ⟨rfl, rfl⟩ := hb6 (nat_beq_false h2)
        obtain ⟨cv, h5, h6⟩ := hd b n vs u q.2 fz w hφ hb1 (by omega) (by simp only [Nat.succ_eq_add_one] at h1; omega) (by rw [← hq1]; exact hq) (by omega)
        exact ⟨cv, h5, h6⟩
      · cases hr
    · cases hr
  | readMap i f =>
    simp only [runD] at hr
    split at hr
    · rename_i es clock hg
      split at hr
      · rename_i v' hv
        simp only [Option.some.injEq, Prod.mk.injEq] at hr
        obtain ⟨rfl, rfl⟩ := hr
        obtain ⟨hun, hd⟩ := hd
        obtain ⟨b, p, n, hφ, ces, hb1, hb2⟩ := at_of H hg hun
        obtain ⟨cv, h5, h6⟩ := hd b p n ces clock w hφ hb1 es hb2 v' hv
        exact ⟨cv, h5, h6⟩
      · cases hr
    · cases hr
  | new b mk => exact absurd rfl (hn b mk)
  | bad => simp [runD] at hr

/-! ### Operands and guards, told only of the places that are looked at -/

theorem opsOk_at {P : Program} {φ : Phi} {c : Ctx} {e : Env} {r : Regs} {a : Act} {l : List Operand} (hg : ∀ g, g < P.globals.size → PtrOk φ g 0 ⟨g, 0, none⟩)
    (h : ∀ t, .tmp t ∈ l → VRel φ (match locOf t c 0 with | some k => locAt e k | none => r.val t) (a.tmps.getD t undef)) : OpsOk P φ c e r (· ∈ l) a.eval := by
  intro x y hS hx
  cases x with
  | tmp t =>
    have ht := h t hS
    simp only [cOpd] at hx
    cases hl : locOf t c 0 with
    | some k => rw [hl] at hx ht; cases hx; simpa [Act.eval] using ht
    | none => rw [hl] at hx ht; cases hx; simpa [Act.eval] using ht
  | const v =>
    simp only [cOpd] at hx
    cases hv : ofValue v with
    | none => rw [hv] at hx; cases hx
    | some av => rw [hv] at hx; cases hx; exact ofValue_rel v av hv
  | global g =>
    simp only [cOpd] at hx
    split at hx
    · rename_i hlt
      cases hx
      exact ⟨_, rfl, hg g hlt⟩
    · cases hx
  | func f =>
    simp only [cOpd] at hx
    cases hx
    exact ⟨#[], #[], rfl, rfl, rfl⟩

theorem guard_at {P : Program} {φ : Phi} {c : Ctx} {e : Env} {r : Regs} {a : Act} {ops : Array Oper} {o : Oper} {g : Option (Opd × Bool)}
    (h : ∀ t, t ∈ usesOf ops o → VRel φ (match locOf t c 0 with | some k => locAt e k | none => r.val t) (a.tmps.getD t undef))
    (hg : cGuard P ops c o.guard = some g) : GuardOk ops o a.tmps e r g := by
  cases hgu : o.guard with
  | none => rw [hgu] at hg; cases hg; simp [GuardOk, Region.wanted, hgu]
  | some q =>
    obtain ⟨j, want⟩ := q
    rw [hgu] at hg
    simp only [cGuard, Option.bind_eq_some_iff, Option.map_eq_some_iff] at hg
    obtain ⟨t, ⟨oj, ho1, ho2⟩, x, hx, rfl⟩ := hg
    intro b hb
    simp only [Region.wanted, hgu]
    have hv : VRel φ (x.ev e r) (a.tmps.getD t undef) := by
      have := h t (by unfold usesOf; rw [hgu]; simp [ho1, ho2])
      simp only [cOpd] at hx
      cases hl : locOf t c 0 with
      | none => rw [hl] at hx this; cases hx; simpa using this
      | some k => rw [hl] at hx this; cases hx; simpa using this
    have hy : yielded ops a.tmps j = (match a.tmps[t]? with | some (.bool b) => some b | _ => none) := by
      simp only [yielded, ho1, Option.bind_some, ho2]
      rfl
    unfold guardMet at hb
    split at hb
    · rename_i b' ex
      rw [ex] at hv
      simp only [VRel] at hv
      simp only [Option.some.injEq] at hb
      have ht : a.tmps[t]? = some (.bool b') := by
        rw [Array.getD_eq_getD_getElem?] at hv
        cases hq : a.tmps[t]? with
        | none => rw [hq] at hv; cases hv
        | some v => rw [hq] at hv; simp at hv; rw [hv]
      rw [hy, ht, ← hb]
      cases b' <;> cases want <;> rfl
    · rename_i ex
      rw [ex] at hv
      obtain ⟨vs, hvs, hvn⟩ := hv
      simp only [Option.some.injEq] at hb
      subst hb
      have ht : yielded ops a.tmps j = none := by
        rw [hy]
        rw [Array.getD_eq_getD_getElem?] at hvs
        cases hq : a.tmps[t]? with
        | none => rfl
        | some v => rw [hq] at hvs; simp at hvs; rw [hvs]
      rw [ht]; rfl
    · cases hb

theorem cOper_spec {P : Program} {F : Frm} {ops : Array Oper} {c : Ctx} {o : Oper} {ao : AOper} (h : cOper P F ops c o = some ao) :
    (∀ t : Nat, o.dst = some t → t < F.ntmps) ∧ ao.dst = o.dst.filter (isLive F.np F.live) ∧ cGuard P ops c o.guard = some ao.guard ∧ cOpM P c o.op = some ao.op := by
  unfold cOper at h
  by_cases hd : dstOk F.ntmps o.dst = true
  · rw [if_pos hd] at h
    simp only [Option.bind_eq_some_iff, Option.map_eq_some_iff] at h
    obtain ⟨g, hg, op, hop, rfl⟩ := h
    refine ⟨?_, rfl, hg, hop⟩
    intro d hde
    rw [hde] at hd
    exact blt_iff.1 hd
  · rw [if_neg hd] at h; cases h

/-! ### One operation, in any order -/

section
variable {P : Program} {ng : Nat} {ops : Array Oper} {Q : Exit → Act → World → Prop} {K : Act → World → Prop}

theorem wpOp_upon {i : Nat} {o : Oper} {a : Act} {w : World} (ho : ops[i]? = some o) (hw : Region.wanted o (yielded ops a.tmps) = true) {r : Result Next} (hr : (execOp a.eval o).run P w = r)
    (h : o.upon P a K Q r) : wpOp P ops Q i K a w := by
  unfold wpOp
  simp only [ho, hw, if_true]
  left
  unfold Oper.wp
  rw [hr]; exact h

theorem wpOp_skip {i : Nat} {o : Oper} {a : Act} {w : World} (ho : ops[i]? = some o) (hw : Region.wanted o (yielded ops a.tmps) = false) (h : K (a.put o.dst undef) w) : wpOp P ops Q i K a w := by
  unfold wpOp
  simp only [ho, hw]
  exact h

/-- An operation that writes nothing. -/
theorem actD (hP : P.globals.size = ng) {F : Frm} {c : Ctx} {e : Env} {r : Regs} {φ : Phi} {h : AHeap} {a : Act} {w : World} (H : HRel ng φ h w) {i : Nat} {o : Oper} (ho : ops[i]? = some o) {ao : AOper} (hao : cOper P F ops c o = some ao) (hd : isW ao = false)
    (hat : ∀ t, t ∈ usesOf ops o → VRel φ (match locOf t c 0 with | some k => locAt e k | none => r.val t) (a.tmps.getD t undef))
    (hread : (∀ b mk, effD ao e r ≠ .new b mk) → ∃ v h', runD h (effD ao e r) = some (v, h') ∧ ∀ cv, VRel φ v cv → K (a.put o.dst cv) w)
    (hnew : ∀ b mk, effD ao e r = .new b mk → ∀ (ob : Obj) (n : Nat) (cv : Value), (∀ φ', Ext φ φ' → BRel φ' b w.heap.size 0 n (w.alloc ob)) → (∀ φ' i, φ' i = .at w.heap.size 0 n → VRel φ' (mk i) cv) → K (a.put o.dst cv) (w.alloc ob)) :
    wpOp P ops Q i K a w := by
  obtain ⟨_, _, hg, hop⟩ := cOper_spec hao
  have hgok := guard_at hat hg
  have hglob : ∀ g, g < P.globals.size → PtrOk φ g 0 ⟨g, 0, none⟩ := fun g hg => H.glob g (hP ▸ hg)
  have hops : OpsOk P φ c e r (· ∈ o.op.operands.toList) a.eval := opsOk_at hglob fun t ht => hat t (by
    unfold usesOf tmpsOf
    exact List.mem_append_left _ (List.mem_filterMap.2 ⟨.tmp t, ht, rfl⟩))
  have hbase : DOk P φ (execOp a.eval o) (baseD ao.op e r) := by
    unfold isW at hd
    cases hao : ao.op with
    | w f => rw [hao] at hd; cases hd
    | d f =>
      rw [hao] at hop
      exact cOp_d (fun v => rfl) hops (fun x hx => hx) (cOpM_d hop)
    | mov x =>
      rw [hao] at hop
      obtain ⟨y, hy, hyo⟩ := cOpM_mov hop
      have hv : VRel φ (x.ev e r) (a.eval y) := hops y x (by rcases hy with hy | hy <;> simp [hy, Op.operands]) hyo
      refine ⟨a.eval y, fun w => ?_, hv⟩
      rcases hy with hy | hy <;> simp [execOp, hy]
  have met : Region.wanted o (yielded ops a.tmps) = true → effD ao e r = baseD ao.op e r → wpOp P ops Q i K a w := by
    intro hw he
    rw [he] at hread hnew
    cases hb : baseD ao.op e r with
    | new b mk =>
      rw [hb] at hbase
      obtain ⟨ob, n, cv, h1, h2, h3⟩ := hbase w
      refine wpOp_upon ho hw h1 ?_
      exact hnew b mk hb ob n cv h2 h3
    | _ =>
      obtain ⟨v, h', hr, hk⟩ := hread (by rw [hb]; intro b mk hh; cases hh)
      obtain ⟨cv, h1, h2⟩ := runD_read hbase H hr (by rw [hb]; intro b mk hh; cases hh)
      refine wpOp_upon ho hw h1 ?_
      exact hk cv h2
  cases hgu : ao.guard with
  | none =>
    rw [hgu] at hgok
    exact met hgok (by unfold effD; rw [hgu])
  | some q =>
    obtain ⟨x, want⟩ := q
    rw [hgu] at hgok
    cases hm : guardMet (x.ev e r) want with
    | none =>
      exfalso
      obtain ⟨v, h', hr, _⟩ := hread (by unfold effD; rw [hgu]; simp [hm])
      unfold effD at hr
      rw [hgu] at hr
      simp [hm, runD] at hr
    | some b =>
      have hw := hgok b hm
      cases b with
      | true => exact met hw (by unfold effD; rw [hgu]; simp [hm])
      | false =>
        refine wpOp_skip ho hw ?_
        have he : effD ao e r = .val .undef := by unfold effD; rw [hgu]; simp [hm]
        obtain ⟨v, h', hr, hk⟩ := hread (by rw [he]; intro b mk hh; cases hh)
        rw [he] at hr
        simp only [runD, Option.some.injEq, Prod.mk.injEq] at hr
        obtain ⟨rfl, _⟩ := hr
        exact hk undef VRel.undef

/-- An operation that writes. -/
theorem actW (hP : P.globals.size = ng) {R : Runner} (hR : CallOk P ng R) {F : Frm} {c : Ctx} {e : Env} {s : St} {φ : Phi} {a : Act} {w : World} (H : HRel ng φ s.heap w) (hb : s.below = none) (hdf : DRels φ s.defers a.defers) {i : Nat} {o : Oper} (ho : ops[i]? = some o) {ao : AOper} (hao : cOper P F ops c o = some ao) (hd : isW ao = true)
    (hat : ∀ t, t ∈ usesOf ops o → VRel φ (match locOf t c 0 with | some k => locAt e k | none => s.regs.val t) (a.tmps.getD t undef))
    (hon : ∀ v s', (operFn ao).run R e s = .on v s' → ∀ (φ' : Phi) (cv : Value) (a' : Act) (w' : World), HRel ng φ' s'.heap w' → Stp φ s.heap w φ' s'.heap w' → VRel φ' v cv → a'.tmps = a.tmps → DRels φ' s'.defers a'.defers → K (a'.put o.dst cv) w')
    (hout : ∀ x s', (operFn ao).run R e s = .out x s' → ∀ (φ' : Phi) (ex : Exit) (w' : World), HRel ng φ' s'.heap w' → Stp φ s.heap w φ' s'.heap w' → ExRel φ' x ex → s'.regs = s.regs → s'.defers = s.defers → Q ex a w')
    (hlost : (operFn ao).run R e s ≠ .lost) : wpOp P ops Q i K a w := by
  obtain ⟨_, _, hg, hop⟩ := cOper_spec hao
  have hgok := guard_at hat hg
  have hglob : ∀ g, g < P.globals.size → PtrOk φ g 0 ⟨g, 0, none⟩ := fun g hg => H.glob g (hP ▸ hg)
  have hops : OpsOk P φ c e s.regs (· ∈ o.op.operands.toList) a.eval := opsOk_at hglob fun t ht => hat t (by
    unfold usesOf tmpsOf
    exact List.mem_append_left _ (List.mem_filterMap.2 ⟨.tmp t, ht, rfl⟩))
  have dst_on : ∀ (f : OpFn) v s', f.run R e s = .on v s' → (dstFn ao.dst f).run R e s = .on v ⟨match ao.dst with | some d => (putFn (Nat.succ d) d).run v s'.regs | none => s'.regs, s'.heap, s'.defers, s'.below⟩ := by
    intro f v s' hf
    unfold dstFn
    cases ao.dst <;> simp only [hf]
  have dst_out : ∀ (f : OpFn) x s', f.run R e s = .out x s' → (dstFn ao.dst f).run R e s = .out x s' := by
    intro f x s' hf
    unfold dstFn
    cases ao.dst <;> simp only [hf]
  have dst_lost : ∀ (f : OpFn), f.run R e s = .lost → (dstFn ao.dst f).run R e s = .lost := by
    intro f hf
    unfold dstFn
    cases ao.dst <;> simp only [hf]
  have met : Region.wanted o (yielded ops a.tmps) = true → (guardFn ao.guard (opFn ao.op)).run R e s = (opFn ao.op).run R e s → wpOp P ops Q i K a w := by
    intro hw hge
    have hon' : ∀ v s', (opFn ao.op).run R e s = .on v s' → ∀ (φ' : Phi) (cv : Value) (a' : Act) (w' : World), HRel ng φ' s'.heap w' → Stp φ s.heap w φ' s'.heap w' → VRel φ' v cv → a'.tmps = a.tmps → DRels φ' s'.defers a'.defers → K (a'.put o.dst cv) w' :=
      fun v s' h φ' cv a' w' h1 h2 h3 h4 h5 => hon v _ (dst_on _ v s' (hge.trans h)) φ' cv a' w' h1 h2 h3 h4 h5
    have hout' : ∀ x s', (opFn ao.op).run R e s = .out x s' → ∀ (φ' : Phi) (ex : Exit) (w' : World), HRel ng φ' s'.heap w' → Stp φ s.heap w φ' s'.heap w' → ExRel φ' x ex → s'.regs = s.regs → s'.defers = s.defers → Q ex a w' :=
      fun x s' h => hout x s' (dst_out _ x s' (hge.trans h))
    have hlost' : (opFn ao.op).run R e s ≠ .lost := fun h => hlost (dst_lost _ (hge.trans h))
    unfold isW at hd
    cases haw : ao.op with
    | mov x => rw [haw] at hd; cases hd
    | d f => rw [haw] at hd; cases hd
    | w f =>
      rw [haw] at hop hon' hout' hlost'
      have hwok := cOp_w H hops (fun x hx => hx) (cOpM_w hop)
      have hgo : (opFn (.w f)).run R e s = wentW R (f.f e s.regs s.heap) s := rfl
      rw [hgo] at hlost'
      cases hx : f.f e s.regs s.heap with
      | ok v h' =>
        rw [hx] at hwok
        obtain ⟨nx, w', φ', h1, h2, h3, h4⟩ := hwok
        have hg2 : (opFn (.w f)).run R e s = .on v ⟨s.regs, h', s.defers, s.below⟩ := by rw [hgo, hx]; rfl
        rcases h2 with ⟨cv, rfl, hv⟩ | ⟨rfl, hv⟩
        · refine wpOp_upon ho hw h1 ?_
          exact hon' v _ hg2 φ' cv a w' h3 h4 hv rfl (hdf.mono h4.ext)
        · refine wpOp_upon ho hw h1 ?_
          exact hon' v _ hg2 φ' Go.undef a w' h3 h4 hv rfl (hdf.mono h4.ext)
      | enter fid args =>
        rw [hx] at hwok hlost'
        cases hcall : R.call fid args s.heap with
        | none => simp [wentW, hcall] at hlost'
        | some q =>
          obtain ⟨en, h'⟩ := q
          obtain ⟨hcb, hcalls⟩ := hR _ _ _ _ _ hcall
          obtain ⟨cargs, h1, h2⟩ := hwok hcb
          refine wpOp_upon ho hw h1 ?_
          simp only [Oper.upon]
          refine (hcalls φ w cargs H h2).mono fun ee w' hee => ?_
          obtain ⟨φ', h3, h4, h5⟩ := hee
          cases en with
          | returned v =>
            cases ee with
            | returned cv =>
              have hg2 : (opFn (.w f)).run R e s = .on v ⟨s.regs, h', s.defers, s.below⟩ := by rw [hgo, hx]; simp [wentW, hcall]
              exact hon' v _ hg2 φ' cv a w' h3 h4 h5 rfl (hdf.mono h4.ext)
            | panicked _ => exact h5.elim
            | outgrown => exact h5.elim
          | panicked ch =>
            cases ee with
            | returned _ => exact h5.elim
            | outgrown => exact h5.elim
            | panicked cch =>
              have hg2 : (opFn (.w f)).run R e s = .out (.panic ch) ⟨s.regs, h', s.defers, s.below⟩ := by rw [hgo, hx]; simp [wentW, hcall]
              exact hout' _ _ hg2 φ' (.panic cch) w' h3 h4 h5 rfl rfl
      | defer d =>
        rw [hx] at hwok
        obtain ⟨cd, h1, h2⟩ := hwok
        have hg2 : (opFn (.w f)).run R e s = .on .undef ⟨s.regs, s.heap, d :: s.defers, s.below⟩ := by rw [hgo, hx]; rfl
        refine wpOp_upon ho hw h1 ?_
        exact hon' _ _ hg2 φ Go.undef { a with defers := cd :: a.defers } w H (Stp.refl _ _ _) VRel.undef rfl ⟨cd, a.defers, rfl, h2, hdf⟩
      | panic v =>
        rw [hx] at hwok
        obtain ⟨cv, h1, h2⟩ := hwok
        have hg2 : (opFn (.w f)).run R e s = .out (.panic [(v, false)]) s := by rw [hgo, hx]; rfl
        refine wpOp_upon ho hw h1 ?_
        exact hout' _ _ hg2 φ (.panic [{ v := cv, recovered := false }]) w H (Stp.refl _ _ _) ⟨cv, [], rfl, h2, rfl⟩ rfl rfl
      | recover =>
        exfalso
        rw [hx] at hlost'
        simp [wentW, hb] at hlost'
      | bad => rw [hx] at hlost'; simp [wentW] at hlost'
  cases hgu : ao.guard with
  | none =>
    rw [hgu] at hgok
    exact met hgok (by rw [hgu]; rfl)
  | some q =>
    obtain ⟨x, want⟩ := q
    rw [hgu] at hgok
    cases hm : guardMet (x.ev e s.regs) want with
    | none =>
      exfalso
      refine hlost (dst_lost _ ?_)
      rw [hgu]
      simp only [guardFn, hm]
    | some b =>
      have hw := hgok b hm
      cases b with
      | true => exact met hw (by rw [hgu]; simp only [guardFn, hm])
      | false =>
        refine wpOp_skip ho hw ?_
        have : (guardFn ao.guard (opFn ao.op)).run R e s = .on .undef s := by rw [hgu]; simp only [guardFn, hm]
        exact hon .undef _ (dst_on _ .undef s this) φ undef a w H (Stp.refl _ _ _) VRel.undef rfl hdf

end
end Go.Abs
