/- The abstract machine: each operation that is turned into one that writes nothing old. -/
import Derived.Test.YtbojmpbccibmaaaGreatDoorBAbs14
set_option linter.unusedVariables false
set_option linter.unusedSimpArgs false
set_option linter.unusedSectionVars false
set_option linter.deprecated false
namespace Go.Abs
variable [Val]

section
variable {P : Program} {φ : Phi} {c : Ctx} {e : Env} {r : Regs} {S : Operand → Prop} {ρ : Operand → Value}

theorem nilCheck_ok {x : Opd} {y : Operand} {dst : Option Tmp} {ty : TypeId} {pos : String} {aft : Array Edge} {g : Option (Nat × Bool)} (hx : VRel φ (x.ev e r) (ρ y)) :
    DOk P φ (execOp ρ ⟨dst, .nilCheck y, ty, pos, aft, g⟩) ((dNilCheck x).f e r) := by
  simp only [dNilCheck]
  split
  · rename_i a ex
    rw [ex] at hx
    obtain ⟨i, o⟩ := a
    obtain ⟨a, hv, hp⟩ := hx
    refine .val (.pointer (some a)) (fun w => ?_) ⟨_, rfl, hp⟩
    simp [execOp, hv]
  · rename_i f a b ex
    rw [ex] at hx
    obtain ⟨ca, cb, hv, hp⟩ := hx
    refine .val (.func (.func f) ca cb) (fun w => ?_) ⟨_, _, rfl, hp⟩
    simp [execOp, hv]
  · trivial

/-- A call of a builtin. -/
theorem run_builtin {k : Call} {b : Builtin} {dst : Option Tmp} {ty : TypeId} {pos : String} {aft : Array Edge} {g : Option (Nat × Bool)} (hc : k.callee = .builtin b) :
    ∃ cs, ∀ w, (execOp ρ ⟨dst, .call k, ty, pos, aft, g⟩).run P w = (builtin b k.argTypes ty cs (k.args.map ρ)).run P w := by
  simp only [execOp, resolve, hc, invoke, pure_bind]
  exact ⟨_, fun w => rfl⟩

theorem args1 (H : OpsOk P φ c e r S ρ) {k : Call} {x : Opd} (hSa : ∀ x ∈ k.args.toList, S x) (h : cOpds P c k.args.toList = some [x]) : ∃ cv, k.args.map ρ = #[cv] ∧ VRel φ (x.ev e r) cv := by
  obtain ⟨v, rr, h1, h2, h3⟩ := evs_ok H _ _ hSa h
  simp only [evs, VRels] at h3
  subst h3
  exact ⟨v, Array.toList_inj.1 (by simpa using h1), h2⟩

theorem args2 (H : OpsOk P φ c e r S ρ) {k : Call} {x y : Opd} (hSa : ∀ x ∈ k.args.toList, S x) (h : cOpds P c k.args.toList = some [x, y]) : ∃ cv cw, k.args.map ρ = #[cv, cw] ∧ VRel φ (x.ev e r) cv ∧ VRel φ (y.ev e r) cw := by
  obtain ⟨v, rr, h1, h2, w, rr', h3, h4, h5⟩ := evs_ok H _ _ hSa h
  simp only [evs, VRels] at h5
  subst h5; subst h3
  exact ⟨v, w, Array.toList_inj.1 (by simpa using h1), h2, h4⟩

theorem args3 (H : OpsOk P φ c e r S ρ) {k : Call} {x y z : Opd} (hSa : ∀ x ∈ k.args.toList, S x) (h : cOpds P c k.args.toList = some [x, y, z]) : ∃ cv cw cu, k.args.map ρ = #[cv, cw, cu] ∧ VRel φ (x.ev e r) cv ∧ VRel φ (y.ev e r) cw ∧ VRel φ (z.ev e r) cu := by
  obtain ⟨v, rr, h1, h2, w, rr', h3, h4, u, rr'', h5, h6, h7⟩ := evs_ok H _ _ hSa h
  simp only [evs, VRels] at h7
  subst h7; subst h5; subst h3
  exact ⟨v, w, u, Array.toList_inj.1 (by simpa using h1), h2, h4, h6⟩

theorem types0 {ts : Array TypeId} {t : TypeId} {r : List TypeId} (h : ts.toList = t :: r) : ts[0]? = some t := by
  rw [← Array.getElem?_toList, h]; rfl

theorem types1 {ts : Array TypeId} {t u : TypeId} {r : List TypeId} (h : ts.toList = t :: u :: r) : ts[1]? = some u := by
  rw [← Array.getElem?_toList, h]; rfl

theorem cBuiltin_d (H : OpsOk P φ c e r S ρ) {k : Call} {b : Builtin} {ty : TypeId} {xs : List Opd} {d : DFn} {cs : Array Bool} (hSa : ∀ x ∈ k.args.toList, S x)
    (hxs : cOpds P c k.args.toList = some xs) (h : cBuiltin P b k.argTypes.toList xs = some (.d d)) :
    DOk P φ (builtin b k.argTypes ty cs (k.args.map ρ)) (d.f e r) := by
  generalize hts : k.argTypes.toList = ts at h
  unfold cBuiltin at h
  split at h
  · rename_i t _ x
    obtain ⟨cv, h1, h2⟩ := args1 H hSa hxs
    rw [h1]
    split at h
    · rename_i hu; cases h; exact dLenStr_ok (types0 hts) hu h2
    · rename_i hu; cases h; exact dLenSl_ok (types0 hts) hu h2
    · rename_i hu; cases h; exact dLenMap_ok (types0 hts) hu h2
    · cases h
  · split at h
    · simp only [Option.bind_eq_some_iff] at h; obtain ⟨_, _, _, _, _, _, h⟩ := h; split at h <;> cases h
    · simp only [Option.bind_eq_some_iff] at h; obtain ⟨_, _, _, _, _, _, h⟩ := h; split at h <;> cases h
    · cases h
  · obtain ⟨cv, cw, h1, h2, h3⟩ := args2 H hSa hxs
    rw [h1]
    split at h
    · cases h; exact dMin_ok h2 h3
    · cases h
  · obtain ⟨cv, cw, h1, h2, h3⟩ := args2 H hSa hxs
    rw [h1]
    split at h
    · cases h; exact dMax_ok h2 h3
    · cases h
  · split at h
    · simp only [Option.bind_eq_some_iff] at h; obtain ⟨_, _, h⟩ := h; cases h
    · cases h
  · cases h
  · obtain ⟨cv, h1, h2⟩ := args1 H hSa hxs
    rw [h1]
    cases h
    exact dSliceData_ok h2
  · split at h
    · split at h <;> cases h
    · cases h
  · cases h

theorem cCall_d (H : OpsOk P φ c e r S ρ) {k : Call} (hS : ∀ x ∈ k.operands.toList, S x) {d : DFn} {dst : Option Tmp} {ty : TypeId} {pos : String} {aft : Array Edge} {g : Option (Nat × Bool)} (h : cCall P c k = some (.d d)) :
    DOk P φ (execOp ρ ⟨dst, .call k, ty, pos, aft, g⟩) (d.f e r) := by
  have hSa : ∀ x ∈ k.args.toList, S x := fun x hx => hS x (by simp [Call.operands] at hx ⊢; exact .inr hx)
  simp only [cCall] at h
  cases hxs : cOpds P c k.args.toList with
  | none => rw [hxs] at h; cases h
  | some xs =>
    rw [hxs, Option.bind_some] at h
    split at h
    · cases h
    · rename_i b hb
      obtain ⟨cs, hrun⟩ := run_builtin (ρ := ρ) (dst := dst) (ty := ty) (pos := pos) (aft := aft) (g := g) hb
      exact DOk.congr hrun (cBuiltin_d H hSa hxs h)
    · rename_i f hf
      cases hfn : P.funcs[f]? with
      | none => rw [hfn] at h; cases h
      | some fn =>
        rw [hfn, Option.bind_some] at h
        split at h
        · cases h
        · rename_i h1
          split at h
          · cases h
          · rename_i h2
            split at h
            · rename_i h3
              cases hp : cPrim fn.name with
              | none => rw [hp] at h; cases h
              | some p =>
                rw [hp, Option.bind_some] at h
                exact prim_ok (k := k) H (hS _ (by simp [Call.operands, hf])) hSa rfl hf hfn h1 (by simpa using h2) h3 hp hxs h
            · cases h
    · simp only [Option.bind_eq_some_iff] at h; obtain ⟨_, _, h⟩ := h; cases h

set_option maxHeartbeats 1000000 in
theorem cOp_d (hρ : ∀ v, ρ (.const v) = v) (H : OpsOk P φ c e r S ρ) {o : Oper} (hS : ∀ x ∈ o.op.operands.toList, S x) {d : DFn} (h : cOp P c o.op = some (.d d)) : DOk P φ (execOp ρ o) (d.f e r) := by
  obtain ⟨dst, op, ty, pos, aft, g⟩ := o
  simp only at h hS
  cases op with
  | move x => simp only [cOp, Option.map_eq_some_iff] at h; obtain ⟨_, _, h⟩ := h; cases h
  | assign x => simp only [cOp, Option.map_eq_some_iff] at h; obtain ⟨_, _, h⟩ := h; cases h
  | pick x a b =>
    simp only [cOp, Option.bind_eq_some_iff, Option.map_eq_some_iff] at h
    obtain ⟨x', hx, a', ha, b', hb, h⟩ := h
    cases h
    exact dPick_ok (H _ _ (hS _ (by simp [Op.operands])) hx) (H _ _ (hS _ (by simp [Op.operands])) ha) (H _ _ (hS _ (by simp [Op.operands])) hb)
  | alloc t =>
    simp only [cOp, Option.map_eq_some_iff] at h
    obtain ⟨z, hz, h⟩ := h
    cases h
    exact dAlloc_ok hz
  | box t x =>
    simp only [cOp, Option.map_eq_some_iff] at h
    obtain ⟨x', hx, h⟩ := h
    cases h
    exact dBox_ok (H _ _ (hS _ (by simp [Op.operands])) hx)
  | build t parts =>
    simp only [cOp, Option.bind_eq_some_iff] at h
    obtain ⟨z, hz, h⟩ := h
    split at h
    · rename_i fs hu
      split at h
      · rename_i hall
        simp only [Option.map_eq_some_iff] at h
        obtain ⟨ps, hps, h⟩ := h
        cases h
        exact dBuildStruct_ok H (fun p hp => hS _ (by simp [Op.operands]; exact ⟨p.1, by simpa using hp⟩)) hz hu hall hps
      · cases h
    · rename_i n el hu
      simp only [Option.bind_eq_some_iff, Option.map_eq_some_iff] at h
      obtain ⟨n, hn, ps, hps, h⟩ := h
      cases h
      exact dBuildArr_ok H (fun p hp => hS _ (by simp [Op.operands]; exact ⟨p.1, by simpa using hp⟩)) hz hu hn hps
    · cases h
  | buildSlice t len parts =>
    simp only [cOp] at h
    split at h
    · rename_i el hu
      simp only [Option.bind_eq_some_iff] at h
      obtain ⟨n, hn, z, hz, h⟩ := h
      split at h
      · rename_i hc
        simp only [Option.map_eq_some_iff] at h
        obtain ⟨ps, hps, h⟩ := h
        cases h
        exact dBuildSlice_ok H (fun p hp => hS _ (by simp [Op.operands]; exact ⟨p.1, by simpa using hp⟩)) hz hu hn hc hps
      · cases h
    · cases h
  | insert t m k v =>
    simp only [cOp, cOp.cMapUpdate, Option.bind_eq_some_iff] at h
    obtain ⟨_, _, _, _, _, _, h⟩ := h
    split at h
    · simp only [Option.map_eq_some_iff] at h; obtain ⟨_, _, h⟩ := h; cases h
    · cases h
  | load t a =>
    simp only [cOp, Option.bind_eq_some_iff] at h
    obtain ⟨n, hn, gg, hg, a', ha, h⟩ := h
    split at h
    · rename_i hc; cases h; exact dLoad_ok hn hg hc (H _ _ (hS _ (by simp [Op.operands])) ha)
    · cases h
  | store t a v =>
    simp only [cOp, Option.bind_eq_some_iff, Option.map_eq_some_iff] at h
    obtain ⟨_, _, _, _, _, _, h⟩ := h
    cases h
  | ready g => cases h
  | waits g => cases h
  | nilCheck x =>
    simp only [cOp, Option.map_eq_some_iff] at h
    obtain ⟨x', hx, h⟩ := h
    cases h
    exact nilCheck_ok (H _ _ (hS _ (by simp [Op.operands])) hx)
  | binOp op xt x y yt =>
    simp only [cOp, Option.map_eq_some_iff] at h
    obtain ⟨f, hf, h⟩ := h
    cases h
    exact cBin_ok hρ H (hS _ (by simp [Op.operands])) (hS _ (by simp [Op.operands])) hf
  | unOp op xt x =>
    simp only [cOp, Option.bind_eq_some_iff] at h
    obtain ⟨x', hx, h⟩ := h
    split at h
    · cases h; exact dNeg_ok (H _ _ (hS _ (by simp [Op.operands])) hx) _
    · cases h; exact dBitNot_ok (H _ _ (hS _ (by simp [Op.operands])) hx) _
    · cases h; exact dNot_ok (H _ _ (hS _ (by simp [Op.operands])) hx)
    · cases h
  | convert s dd x =>
    simp only [cOp, Option.bind_eq_some_iff] at h
    obtain ⟨x', hx, h⟩ := h
    split at h
    · rename_i h1 h2; cases h; exact dConv_ok h1 h2 (H _ _ (hS _ (by simp [Op.operands])) hx)
    · rename_i h1 h2; cases h; exact dRuneToStr_ok h1 h2 (H _ _ (hS _ (by simp [Op.operands])) hx)
    · rename_i h1 h2
      split at h
      · rename_i h3; cases h; exact dBytesToStr_ok h1 h3 h2 (H _ _ (hS _ (by simp [Op.operands])) hx)
      · cases h
    · rename_i h1 h2
      simp only [Option.bind_eq_some_iff] at h
      obtain ⟨n, hn, h⟩ := h
      split at h
      · cases h
      · rename_i h0; cases h; exact toUnsafe_ok h1 h2 hn h0 (H _ _ (hS _ (by simp [Op.operands])) hx)
    · rename_i h1 h2
      simp only [Option.bind_eq_some_iff] at h
      obtain ⟨n, hn, h⟩ := h
      split at h
      · cases h
      · rename_i h0; cases h; exact ofUnsafe_ok h1 h2 hn h0 (H _ _ (hS _ (by simp [Op.operands])) hx)
    · split at h
      · split at h <;> cases h
      · cases h
    · cases h
  | makeInterface t x =>
    simp only [cOp] at h
    split at h
    · cases h
    · rename_i dd hnot hu
      simp only [Option.map_eq_some_iff] at h
      obtain ⟨x', hx, h⟩ := h
      cases h
      exact dIface_ok hu hnot (H _ _ (hS _ (by simp [Op.operands])) hx)
    · cases h
  | makeFunc fn first captured =>
    cases fn with
    | func f =>
      simp only [cOp, Option.bind_eq_some_iff, Option.map_eq_some_iff] at h
      obtain ⟨a, ha, b, hb, h⟩ := h
      cases h
      exact dFunc_ok (by simpa using evs_ok H _ _ (fun x hx => hS x (by simp [Op.operands] at hx ⊢; exact .inl hx)) ha) (by simpa using evs_ok H _ _ (fun x hx => hS x (by simp [Op.operands] at hx ⊢; exact .inr hx)) hb)
    | _ => cases h
  | makeMap t rs =>
    cases rs with
    | none => cases h; exact dMkMap_ok
    | some _ => cases h
  | makeSlice t l k =>
    simp only [cOp] at h
    split at h
    · rename_i el hu
      simp only [Option.bind_eq_some_iff] at h
      obtain ⟨n, hn, b, hb, z, hz, l', hl, k', hk, h⟩ := h
      split at h
      · rename_i hc
        cases h
        exact dMkSlice_ok hu hn hb hz hc.1 hc.2 (H _ _ (hS _ (by simp [Op.operands])) hl) (H _ _ (hS _ (by simp [Op.operands])) hk)
      · cases h
    · cases h
  | slice t x lo hi mx =>
    simp only [cOp, Option.bind_eq_some_iff] at h
    obtain ⟨x', hx, lo', hlo, hi', hhi, mx', hmx, h⟩ := h
    split at h
    · rename_i hu
      split at h
      · rename_i hn; cases h; exact dSliceStr_ok hu (H _ _ (hS _ (by simp [Op.operands])) hx) (opdO_ok H (fun z hz => hS _ (by simp [Op.operands, hz])) hlo) (opdO_ok H (fun z hz => hS _ (by simp [Op.operands, hz])) hhi) (opdO_ok H (fun z hz => hS _ (by simp [Op.operands, hz])) hmx) hn
      · cases h
    · rename_i el hu
      simp only [Option.bind_eq_some_iff] at h
      obtain ⟨n, hn, h⟩ := h
      split at h
      · cases h
      · rename_i hc
        cases h
        refine dSliceSl_ok hu hn (H _ _ (hS _ (by simp [Op.operands])) hx) (opdO_ok H (fun z hz => hS _ (by simp [Op.operands, hz])) hlo) (opdO_ok H (fun z hz => hS _ (by simp [Op.operands, hz])) hhi) (opdO_ok H (fun z hz => hS _ (by simp [Op.operands, hz])) hmx) fun hm => ?_
        rw [hm] at hc
        cases hi' <;> simp_all
    · rename_i n el hu
      simp only [Option.bind_eq_some_iff] at h
      obtain ⟨n', hn', h⟩ := h
      split at h
      · rename_i hn; cases h; exact dSliceArr_ok hu hn' (H _ _ (hS _ (by simp [Op.operands])) hx) (opdO_ok H (fun z hz => hS _ (by simp [Op.operands, hz])) hlo) (opdO_ok H (fun z hz => hS _ (by simp [Op.operands, hz])) hhi) (opdO_ok H (fun z hz => hS _ (by simp [Op.operands, hz])) hmx) hn
      · cases h
    · cases h
  | fieldAddr s x f =>
    simp only [cOp] at h
    split at h
    · rename_i fs hu
      simp only [Option.bind_eq_some_iff] at h
      obtain ⟨fld, hf, n, hn, h⟩ := h
      split at h
      · cases h
      · rename_i h0
        simp only [Option.map_eq_some_iff] at h
        obtain ⟨x', hx, h⟩ := h
        cases h
        exact dAddOff_ok hu hf hn h0 (H _ _ (hS _ (by simp [Op.operands])) hx)
    · cases h
  | field t x f =>
    simp only [cOp] at h
    split at h
    · rename_i fs hu
      simp only [Option.bind_eq_some_iff] at h
      obtain ⟨fld, hf, n, hn, gg, hg, x', hx, h⟩ := h
      split at h
      · rename_i hc; cases h; exact dField_ok hu hf hn hg hc (H _ _ (hS _ (by simp [Op.operands])) hx)
      · cases h
    · cases h
  | indexAddr t x i =>
    simp only [cOp, Option.bind_eq_some_iff] at h
    obtain ⟨x', hx, i', hi, h⟩ := h
    split at h
    · rename_i el hu
      simp only [Option.map_eq_some_iff] at h
      obtain ⟨n, hn, h⟩ := h
      cases h
      exact dIdxSl_ok hu hn (H _ _ (hS _ (by simp [Op.operands])) hx) (H _ _ (hS _ (by simp [Op.operands])) hi)
    · rename_i el hu
      simp only [Option.map_eq_some_iff] at h
      obtain ⟨n, hn, h⟩ := h
      cases h
      exact dIdxArr_ok hu hn (H _ _ (hS _ (by simp [Op.operands])) hx) (H _ _ (hS _ (by simp [Op.operands])) hi)
    · cases h
  | index t x i =>
    simp only [cOp, Option.bind_eq_some_iff] at h
    obtain ⟨x', hx, i', hi, h⟩ := h
    split at h
    · rename_i hu; cases h; exact dIdxStr_ok hu (H _ _ (hS _ (by simp [Op.operands])) hx) (H _ _ (hS _ (by simp [Op.operands])) hi)
    · cases h
  | lookup t x i ok =>
    simp only [cOp, Option.bind_eq_some_iff] at h
    obtain ⟨x', hx, i', hi, h⟩ := h
    split at h
    · rename_i kt el hu
      simp only [Option.bind_eq_some_iff, Option.map_eq_some_iff] at h
      obtain ⟨kk, hk, z, hz, h⟩ := h
      cases h
      exact dLookup_ok hu hk hz (H _ _ (hS _ (by simp [Op.operands])) hx) (H _ _ (hS _ (by simp [Op.operands])) hi)
    · cases h
  | mapUpdate t m k v =>
    simp only [cOp, cOp.cMapUpdate, Option.bind_eq_some_iff] at h
    obtain ⟨_, _, _, _, _, _, h⟩ := h
    split at h
    · simp only [Option.map_eq_some_iff] at h; obtain ⟨_, _, h⟩ := h; cases h
    · cases h
  | range t x =>
    simp only [cOp, Option.bind_eq_some_iff] at h
    obtain ⟨x', hx, h⟩ := h
    split at h
    · rename_i hu; cases h; exact dRangeStr_ok hu (H _ _ (hS _ (by simp [Op.operands])) hx)
    · cases h
  | next x s =>
    cases s with
    | true => simp only [cOp, Option.map_eq_some_iff] at h; obtain ⟨_, _, h⟩ := h; cases h
    | false => cases h
  | typeAssert x xt t ok =>
    cases ok with
    | false => cases h
    | true =>
      simp only [cOp, Option.bind_eq_some_iff] at h
      obtain ⟨x', hx, h⟩ := h
      split at h
      · cases h
      · rename_i dd hnot hu
        simp only [Option.map_eq_some_iff] at h
        obtain ⟨z, hz, h⟩ := h
        cases h
        exact dAssert_ok hu hnot hz (H _ _ (hS _ (by simp [Op.operands])) hx)
      · cases h
  | extract x i =>
    simp only [cOp, Option.map_eq_some_iff] at h
    obtain ⟨x', hx, h⟩ := h
    cases h
    exact dExtract_ok (H _ _ (hS _ (by simp [Op.operands])) hx)
  | call k => exact cCall_d H hS h
  | defer k =>
    simp only [cOp] at h
    split at h
    · simp only [Option.bind_eq_some_iff, Option.map_eq_some_iff] at h
      obtain ⟨_, _, _, _, h⟩ := h
      cases h
    · cases h
  | panic x => simp only [cOp, Option.map_eq_some_iff] at h; obtain ⟨_, _, h⟩ := h; cases h
  | _ => cases h

end
end Go.Abs
