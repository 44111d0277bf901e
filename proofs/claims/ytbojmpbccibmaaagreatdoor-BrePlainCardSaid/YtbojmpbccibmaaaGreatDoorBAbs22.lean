/- The abstract machine: one operation, and a region that is carried out in its text's order. -/
import Derived.Test.YtbojmpbccibmaaaGreatDoorBAbs21
set_option linter.unusedVariables false
set_option linter.unusedSimpArgs false
set_option linter.unusedSectionVars false
set_option linter.deprecated false
namespace Go.Abs
variable [Val]

/-! ### What reads and makes -/

theorem runD_ok {P : Program} {ng : Nat} {φ : Phi} {h h' : AHeap} {w : World} {s : Sem Next} {d : DRes} {v : AV} (hd : DOk P φ s d) (H : HRel ng φ h w) (hr : runD h d = some (v, h')) :
    ∃ cv w' φ', s.run P w = .ok (.value cv) w' ∧ VRel φ' v cv ∧ HRel ng φ' h' w' ∧ Stp φ h w φ' h' w' := by
  cases d with
  | val v' =>
    simp only [runD, Option.some.injEq, Prod.mk.injEq] at hr
    obtain ⟨rfl, rfl⟩ := hr
    obtain ⟨cv, h1, h2⟩ := hd
    exact ⟨cv, w, φ, h1 w, h2, H, Stp.refl _ _ _⟩
  | read i o n f =>
    simp only [runD] at hr
    split at hr
    · rename_i cs hcs
      split at hr
      · rename_i v' hv
        simp only [Option.some.injEq, Prod.mk.injEq] at hr
        obtain ⟨rfl, rfl⟩ := hr
        obtain ⟨hun, hd⟩ := hd
        have hg : ∃ blk, h.get i = some blk := by
          unfold AHeap.cellsAt at hcs
          cases hg : h.get i with
          | none => rw [hg] at hcs; cases hcs
          | some blk => exact ⟨blk, rfl⟩
        obtain ⟨blk, hg⟩ := hg
        obtain ⟨b, p, m, hφ, _⟩ := at_of H hg hun
        obtain ⟨vs, t, fz, h1, h2, h3, h4⟩ := loads_of H hcs hφ
        obtain ⟨cv, h5, h6⟩ := hd b p m vs t fz w hφ h1 h2 h4 cs h3 v' hv
        exact ⟨cv, w, φ, h5, h6, H, Stp.refl _ _ _⟩
      · cases hr
    · cases hr
  | readT i o ts v' =>
    simp only [runD] at hr
    split at hr
    · rename_i m c t ro hg
      rw [T.ifB_eq] at hr
      split at hr
      · rename_i hc
        simp only [Option.some.injEq, Prod.mk.injEq] at hr
        obtain ⟨rfl, rfl⟩ := hr
        obtain ⟨hun, hd⟩ := hd
        simp only [Bool.and_eq_true, ble_iff, Bool.not_eq_true', List.any_eq_true, beq_iff] at hc
        obtain ⟨h1, h2, q, hq, hq1, hq2⟩ := hc
        obtain ⟨b, p, n, hφ, vs, u, fz, hb1, hb2, hb3, hb4, hb5, hb6⟩ := at_of H hg hun
        obtain ⟨rfl, rfl⟩ := hb6 (nat_beq_false h2)
        obtain ⟨cv, h5, h6⟩ := hd b n vs u q.2 fz w hφ hb1 (by omega) (by simp only [Nat.succ_eq_add_one] at h1; omega) (by rw [← hq1]; exact hq) (by omega)
        exact ⟨cv, w, φ, h5, h6, H, Stp.refl _ _ _⟩
      · cases hr
    · cases hr
  | readMap i f =>
    simp only [runD] at hr
    split at hr
    · rename_i es clock hg
      split at hr
      · rename_i v' hv
        simp only [Option.some.injEq, Prod.mk.injEq] at hr
        obtain ⟨rfl, rfl⟩ := hr
        obtain ⟨hun, hd⟩ := hd
        obtain ⟨b, p, n, hφ, ces, hb1, hb2⟩ := at_of H hg hun
        obtain ⟨cv, h5, h6⟩ := hd b p n ces clock w hφ hb1 es hb2 v' hv
        exact ⟨cv, w, φ, h5, h6, H, Stp.refl _ _ _⟩
      · cases hr
    · cases hr
  | new b mk =>
    simp only [runD, Option.some.injEq, Prod.mk.injEq] at hr
    obtain ⟨rfl, rfl⟩ := hr
    obtain ⟨o, n, cv, h1, h2, h3⟩ := hd w
    have hext : Ext φ (upd φ h.next (.at w.heap.size 0 n)) := Ext.upd (by rw [H.fresh _ (Nat.le_refl _)]; trivial)
    have hst := step_new H b o n (h2 _ hext)
    exact ⟨cv, _, _, h1, h3 _ _ (upd_same _ _ _), hst.1, hst.2⟩
  | bad => simp [runD] at hr

/-! ### The relation -/

structure Base where
  c₀ : Frame
  rest : List Frame
  cs₀ : List Frame

structure IRel (ng : Nat) (F : Frm) (B : Base) (φ : Phi) (c : Ctx) (e : Env) (s : St) (a : Act) (cs : List Frame) (w : World) : Prop where
  heap : HRel ng φ s.heap w
  ctx : CtxOk φ c e s.regs a.tmps
  sync : ∀ t k, locOf t c 0 = some k → isLive F.np F.live t = true → s.regs.val t = locAt e k
  live : ∀ t, isLive F.np F.live t = false → s.regs.val t = .junk
  size : F.ntmps ≤ a.tmps.size
  defers : DRels φ s.defers a.defers
  below : BelowRel φ B.c₀ B.rest B.cs₀ s.below cs

abbrev SRel (ng : Nat) (F : Frm) (B : Base) (φ : Phi) (s : St) (a : Act) (cs : List Frame) (w : World) : Prop := IRel ng F B φ [] [] s a cs w

def ExRel (φ : Phi) : AEx → Exit → Prop
  | .normal, .normal => True
  | .exit i, .exit j => i = j
  | .ret, .ret => True
  | .panic c, .panic cc => ChRel φ c cc
  | _, _ => False

def EndRel (φ : Phi) : AEnd → Ending → Prop
  | .returned v, .returned cv => VRel φ v cv
  | .panicked c, .panicked cc => ChRel φ c cc
  | _, _ => False

theorem BelowRel.mono {φ φ' : Phi} (h : Ext φ φ') {c₀ : Frame} {rest cs₀ : List Frame} : ∀ {m : Option (Option Chain)} {cs : List Frame}, BelowRel φ c₀ rest cs₀ m cs → BelowRel φ' c₀ rest cs₀ m cs
  | none, _, k => k
  | some _, _, ⟨u, h1, h2⟩ => ⟨u, h1, h2.mono h⟩

theorem CtxOk.mono {φ φ' : Phi} (h : Ext φ φ') {c : Ctx} {e : Env} {r : Regs} {tmps : Array Value} (k : CtxOk φ c e r tmps) : CtxOk φ' c e r tmps :=
  fun t => (k t).mono h

/-- A region's knowledge, at its end. -/
theorem IRel.close {ng : Nat} {F : Frm} {B : Base} {φ : Phi} {c : Ctx} {e : Env} {s : St} {a : Act} {cs : List Frame} {w : World} (h : IRel ng F B φ c e s a cs w) : SRel ng F B φ s a cs w := by
  refine ⟨h.heap, fun t => ?_, fun t k ht => by simp [locOf] at ht, h.live, h.size, h.defers, h.below⟩
  have ht := h.ctx t
  simp only [locOf]
  cases hl : locOf t c 0 with
  | none => rw [hl] at ht; exact ht
  | some k =>
    rw [hl] at ht
    simp only at ht
    cases hlv : isLive F.np F.live t with
    | true => rw [h.sync t k hl hlv]; exact ht
    | false => rw [h.live t hlv]; trivial

theorem locOf_shift (t : Nat) : ∀ (c : Ctx) (k : Nat), locOf t c (k + 1) = (locOf t c k).map (· + 1)
  | [], k => rfl
  | d :: c, k => by
    simp only [locOf]
    split
    · rfl
    · exact locOf_shift t c (k + 1)

theorem locOf_cons (t : Nat) (d : Option Nat) (c : Ctx) : locOf t (d :: c) 0 = if d == some t then some 0 else (locOf t c 0).map (· + 1) := by
  simp only [locOf, locOf_shift t c 0]

/-- What the frame's places become behind an operation. -/
theorem IRel.put {ng : Nat} {F : Frm} {B : Base} {φ φ' : Phi} {c : Ctx} {e : Env} {s : St} {a : Act} {cs : List Frame} {w : World} (h : IRel ng F B φ c e s a cs w) {dst : Option Nat} (hdst : ∀ d, dst = some d → d < F.ntmps)
    {v : AV} {cv : Value} {hp : AHeap} {w' : World} {df : List ADef} {cdf : List Deferred} {bl : Option (Option Chain)} {cs' : List Frame} (hext : Ext φ φ') (hh : HRel ng φ' hp w') (hv : VRel φ' v cv) (hd : DRels φ' df cdf) (hb : BelowRel φ' B.c₀ B.rest B.cs₀ bl cs') :
    IRel ng F B φ' (dst :: c) (v :: e) ⟨match dst.filter (isLive F.np F.live) with | some d => (putFn (Nat.succ d) d).run v s.regs | none => s.regs, hp, df, bl⟩ (({ a with defers := cdf } : Act).put dst cv) cs' w' := by
  have hlive : dst.filter (isLive F.np F.live) = (match dst with | some d => if isLive F.np F.live d then some d else none | none => none) := by cases dst <;> simp [Option.filter]
  have hval : ∀ t, Regs.val (match dst.filter (isLive F.np F.live) with | some d => (putFn (Nat.succ d) d).run v s.regs | none => s.regs) t = if dst = some t ∧ isLive F.np F.live t = true then v else s.regs.val t := by
    intro t
    rw [hlive]
    cases dst with
    | none => simp
    | some d =>
      simp only
      by_cases hl : isLive F.np F.live d = true
      · rw [if_pos hl]
        simp only [putFn_put, val_put]
        by_cases ht : t = d
        · subst ht; simp [hl]
        · rw [if_neg ht, if_neg (by rintro ⟨h1, _⟩; cases h1; exact ht rfl)]
      · rw [if_neg hl]
        simp only
        rw [if_neg]
        rintro ⟨h1, h2⟩
        cases h1; exact hl h2
  have htmps : ∀ t, (({ a with defers := cdf } : Act).put dst cv).tmps.getD t undef = if dst = some t then cv else a.tmps.getD t undef := by
    intro t
    cases dst with
    | none => simp [Act.put]
    | some d =>
      have hd1 : d < a.tmps.size := Nat.lt_of_lt_of_le (hdst d rfl) h.size
      simp only [Act.put, Array.getD_eq_getD_getElem?, Array.getElem?_setIfInBounds]
      by_cases ht : d = t
      · subst ht; simp [hd1]
      · simp [ht]
  refine ⟨hh, fun t => ?_, fun t k hk hl => ?_, fun t hl => ?_, ?_, ?_, hb⟩
  · rw [htmps, locOf_cons]
    by_cases ht : dst = some t
    · subst ht; simp; exact hv
    · rw [if_neg ht]
      have hne : (dst == some t) = false := by simpa using ht
      rw [hne]
      simp only [Bool.false_eq_true, if_false]
      have := (h.ctx t).mono hext
      cases hloc : locOf t c 0 with
      | none =>
        rw [hloc] at this
        simp only [Option.map_none]
        rw [hval, if_neg (by rintro ⟨h1, _⟩; exact ht h1)]
        exact this
      | some k => rw [hloc] at this; simpa using this
  · rw [locOf_cons] at hk
    simp only
    rw [hval]
    by_cases ht : dst = some t
    · subst ht
      simp at hk; subst hk
      rw [if_pos ⟨rfl, hl⟩]; rfl
    · have hne : (dst == some t) = false := by simpa using ht
      rw [hne] at hk
      simp only [Bool.false_eq_true, if_false, Option.map_eq_some_iff] at hk
      obtain ⟨k', hk', rfl⟩ := hk
      rw [if_neg (by rintro ⟨h1, _⟩; exact ht h1)]
      exact h.sync t k' hk' hl
  · simp only
    rw [hval, if_neg (by rintro ⟨_, h2⟩; rw [hl] at h2; cases h2)]
    exact h.live t hl
  · have : (({ a with defers := cdf } : Act).put dst cv).tmps.size = a.tmps.size := by cases dst <;> simp [Act.put]
    rw [this]; exact h.size
  · have : (({ a with defers := cdf } : Act).put dst cv).defers = cdf := by cases dst <;> rfl
    rw [this]; exact hd

end Go.Abs
