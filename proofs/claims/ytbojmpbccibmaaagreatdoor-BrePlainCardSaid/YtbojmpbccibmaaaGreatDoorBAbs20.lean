/- The abstract machine: each operation that is turned into one that writes. -/
import Derived.Test.YtbojmpbccibmaaaGreatDoorBAbs19
set_option linter.unusedVariables false
set_option linter.unusedSimpArgs false
set_option linter.unusedSectionVars false
set_option linter.deprecated false
namespace Go.Abs
variable [Val]

section
variable {P : Program} {ng : Nat} {φ : Phi} {h : AHeap} {w : World} {c : Ctx} {e : Env} {r : Regs} {S : Operand → Prop} {ρ : Operand → Value}

theorem appended_none {size : Nat} : Appended P size w (.slice none 0 0) 0 #[] :=
  ⟨fun w' => rfl, fun w' _ => run_firstCells_none w' size 0 0 0, by simp⟩

theorem appended_some (H : HRel ng φ h w) {i o esz len cap : Nat} {ex : Bool} {cv : Value} (hv : VRel φ (.sl (some (i, o)) esz len cap ex) cv) {cs : List AV} (hcs : h.cellsAt i o (len * esz) = some cs) :
    ∃ news : Array Value, Appended P esz w cv len news ∧ VRels φ cs news.toList := by
  obtain ⟨a, c, rfl, h1, h2, _, hsl⟩ := hv
  have hg : ∃ blk, h.get i = some blk := by
    unfold AHeap.cellsAt at hcs
    cases hg : h.get i with
    | none => rw [hg] at hcs; cases hcs
    | some blk => exact ⟨blk, rfl⟩
  obtain ⟨blk, hg⟩ := hg
  obtain ⟨b, p, nn, hφ, _⟩ := at_of H hg hsl.notUn
  obtain ⟨olds, h3, h4, _, h5⟩ := olds_of (P := P) (sCap := c) H hsl (by omega) hcs hφ
  exact ⟨olds, ⟨fun w' => rfl, h5, h4⟩, h3⟩

theorem appended_str {s : List UInt8} : Appended P 1 w (.string ⟨s.toArray⟩) s.length (s.map fun b : UInt8 => Value.int .u8 b.toNat).toArray := by
  refine ⟨fun w' => ?_, fun w' _ => ?_, by simp⟩
  · simp [Builtin.lenOf, ba_size]
  · have : (⟨s.toArray⟩ : ByteArray).extract 0 s.length = ⟨s.toArray⟩ := by rw [ba_extract]; simp
    simp [Builtin.firstCells, this]

theorem wAppend_ok (H : HRel ng φ h w) {ts : Array TypeId} {t u ty el : TypeId} {n b : Nat} {z : AV} {s x : Opd} {cs cx : Value} (hts0 : ts[0]? = some t) (hts1 : ts[1]? = some u) (ht : P.underlying t = some (.slice el))
    (hu : (∃ e2, P.underlying u = some (.slice e2)) ∨ P.underlying u = some .string) (hn : sizeT P el = some n) (hb : bytesT P el = some b) (hz : zeroT P el = some z) (hpos : 0 < n) (hzl : z.cells.length = n)
    (hs : VRel φ (s.ev e r) cs) (hx : VRel φ (x.ev e r) cx) : WOk P ng φ h w (valued (Builtin.append_ ts ty #[cs, cx])) ((wAppend el n b s x).f e r h) := by
  cases hi : P.info? el with
  | none => simp [sizeT, hi] at hn
  | some i =>
    have hsz : i.size = n := by simpa [sizeT, hi] using hn
    have hby : i.bytes = b := by simpa [bytesT, hi] using hb
    cases hzz : i.zero with
    | none => simp [zeroT, hi, hzz] at hz
    | some cz =>
      have hov : ofValue cz = some z := by simpa [zeroT, hi, hzz] using hz
      have hzc := (ofValue_rel (φ := φ) cz z hov).cells (ofValue_notJunk cz z hov)
      have hzs : cz.cells.size = i.size := by have := hzc.length; simp at this; omega
      subst hsz; subst hby
      have main := fun {k : Nat} {news : Array Value} {new : List AV} (ha : Appended P i.size w cx k news) (hr : VRels φ new news.toList) => aAppend_ok (ty := ty) H hts0 hts1 ht hu hi hzz hzs hpos hs ha hr
      simp only [wAppend]
      split
      · rename_i ex
        rw [ex] at hx
        obtain ⟨rfl, rfl, rfl⟩ := hx
        exact main appended_none rfl
      · rename_i i0 o e' len cap ex' ex
        rw [ex] at hx
        cases he : Nat.beq e' i.size with
        | false => trivial
        | true =>
          rw [beq_iff] at he
          subst he
          simp only [cond_true]
          split
          · rename_i cells hc
            obtain ⟨news, h1, h2⟩ := appended_some H hx hc
            exact main h1 h2
          · trivial
      · rename_i str ex
        rw [ex] at hx
        simp only [VRel] at hx
        subst hx
        cases he : Nat.beq i.size 1 with
        | false => trivial
        | true =>
          rw [beq_iff] at he
          simp only [cond_true]
          exact main (by rw [he]; exact appended_str) (strCells_rels str)
      · rename_i l ex
        rw [ex] at hx
        obtain ⟨str, rfl, hl⟩ := hx
        cases he : Nat.beq i.size 1 with
        | false => trivial
        | true =>
          rw [beq_iff] at he
          simp only [cond_true]
          have hlen := hl.length
          rw [List.length_map] at hlen
          rw [← hlen]
          exact main (by rw [he]; exact appended_str) hl
      · trivial

theorem cBuiltin_w (H : HRel ng φ h w) (ho : OpsOk P φ c e r S ρ) {k : Call} {b : Builtin} {ty : TypeId} {xs : List Opd} {d : WFn} {cs : Array Bool} (hSa : ∀ x ∈ k.args.toList, S x)
    (hxs : cOpds P c k.args.toList = some xs) (hw : cBuiltin P b k.argTypes.toList xs = some (.w d)) :
    WOk P ng φ h w (builtin b k.argTypes ty cs (k.args.map ρ)) (d.f e r h) := by
  generalize hts : k.argTypes.toList = ts at hw
  unfold cBuiltin at hw
  split at hw
  · split at hw <;> cases hw
  · rename_i t u _ s x
    obtain ⟨cv, cw, h1, h2, h3⟩ := args2 ho hSa hxs
    rw [h1]
    split at hw
    · rename_i el e2 hu1 hu2
      simp only [Option.bind_eq_some_iff] at hw
      obtain ⟨n, hn, bb, hb, z, hz, hw⟩ := hw
      split at hw
      · rename_i hc
        cases hw
        exact wAppend_ok H (types0 hts) (types1 hts) hu1 (.inl ⟨_, hu2⟩) hn hb hz hc.1 hc.2 h2 h3
      · cases hw
    · rename_i el hu1 hu2
      simp only [Option.bind_eq_some_iff] at hw
      obtain ⟨n, hn, bb, hb, z, hz, hw⟩ := hw
      split at hw
      · rename_i hc
        cases hw
        exact wAppend_ok H (types0 hts) (types1 hts) hu1 (.inr hu2) hn hb hz hc.1 hc.2 h2 h3
      · cases hw
    · cases hw
  · split at hw <;> cases hw
  · split at hw <;> cases hw
  · rename_i t _ x
    obtain ⟨cv, h1, h2⟩ := args1 ho hSa hxs
    rw [h1]
    split at hw
    · rename_i el hu
      simp only [Option.bind_eq_some_iff] at hw
      obtain ⟨z, hz, hw⟩ := hw
      cases hw
      exact wClear_ok H (types0 hts) hu hz h2
    · cases hw
  · cases hw
    rfl
  · cases hw
  · rename_i t _ x n
    obtain ⟨cv, cw, h1, h2, h3⟩ := args2 ho hSa hxs
    rw [h1]
    split at hw
    · rename_i el hu
      split at hw
      · cases hw
        rename_i hce
        exact wUnsafeStr_ok H hts hu hce h2 h3
      · cases hw
    · cases hw
  · cases hw

theorem evs_array (ho : OpsOk P φ c e r S ρ) {as : Array Operand} {xs : List Opd} (hSa : ∀ x ∈ as.toList, S x) (h : cOpds P c as.toList = some xs) : VRels φ (evs xs e r) (as.map ρ).toList := by
  rw [Array.toList_map]; exact evs_ok ho _ _ hSa h

/-- A call of a function's value. -/
theorem call_value {k : Call} {x : Operand} {dst : Option Tmp} {ty : TypeId} {pos : String} {aft : Array Edge} {g : Option (Nat × Bool)} (hc : k.callee = .value x) {f : FuncId} {a b : Array Value} (hv : ρ x = .func (.func f) a b)
    {fn : Func} (hf : P.funcs[f]? = some fn) (hn : fn.name ≠ "runtime.NumGoroutine") (hb : fn.body.isSome = true) (w : World) :
    (execOp ρ ⟨dst, .call k, ty, pos, aft, g⟩).run P w = .ok (.enter f (a ++ k.args.map ρ ++ b)) w := by
  have hb' : fn.body ≠ none := by intro hh; rw [hh] at hb; cases hb
  simp [execOp, resolve, hc, hv, Deferred.ofValue, invoke, callFunc, hf, hn, hb']

theorem cCall_w (H : HRel ng φ h w) (ho : OpsOk P φ c e r S ρ) {k : Call} (hS : ∀ x ∈ k.operands.toList, S x) {d : WFn} {dst : Option Tmp} {ty : TypeId} {pos : String} {aft : Array Edge} {g : Option (Nat × Bool)}
    (hw : cCall P c k = some (.w d)) : WOk P ng φ h w (execOp ρ ⟨dst, .call k, ty, pos, aft, g⟩) (d.f e r h) := by
  have hSa : ∀ x ∈ k.args.toList, S x := fun x hx => hS x (by simp [Call.operands] at hx ⊢; exact .inr hx)
  simp only [cCall] at hw
  cases hxs : cOpds P c k.args.toList with
  | none => rw [hxs] at hw; cases hw
  | some xs =>
    rw [hxs, Option.bind_some] at hw
    have hargs := evs_array ho hSa hxs
    split at hw
    · cases hw
    · rename_i b hb
      obtain ⟨cs, hrun⟩ := run_builtin (P := P) (ρ := ρ) (dst := dst) (ty := ty) (pos := pos) (aft := aft) (g := g) hb
      exact WOk.congr (hrun w) (cBuiltin_w H ho hSa hxs hw)
    · rename_i f hf
      cases hfn : P.funcs[f]? with
      | none => rw [hfn] at hw; cases hw
      | some fn =>
        rw [hfn, Option.bind_some] at hw
        split at hw
        · cases hw
        · rename_i h1
          split at hw
          · rename_i h2
            cases hw
            obtain ⟨a, b, hfv, ha, hb'⟩ := ho (.func f) (.func f) (hS _ (by simp [Call.operands, hf])) rfl
            simp only [VRels] at ha hb'
            have ha' : a = #[] := Array.toList_eq_nil_iff.1 ha
            have hb'' : b = #[] := Array.toList_eq_nil_iff.1 hb'
            subst ha'; subst hb''
            exact fun _ => ⟨_, call_value hf hfv hfn h1 h2 w, by simpa using hargs⟩
          · rename_i h2
            split at hw
            · rename_i h3
              cases hp : cPrim fn.name with
              | none => rw [hp] at hw; cases hw
              | some p =>
                rw [hp, Option.bind_some] at hw
                exact prim_w (k := k) H ho (hS _ (by simp [Call.operands, hf])) hSa rfl hf hfn h1 (by simpa using h2) h3 hp hxs hw
            · cases hw
    · simp only [Option.bind_eq_some_iff] at hw
      obtain ⟨x', hx, hw⟩ := hw
      cases hw
      simp only [wCallV]
      split
      · rename_i f first captured ex
        have hv := ho _ _ (hS _ (by simp [Call.operands, *])) hx
        rw [ex] at hv
        obtain ⟨a, b, hfv, ha, hb⟩ := hv
        refine fun ⟨fn, h1, h2, h3⟩ => ⟨_, call_value ‹_› hfv h1 h2 h3 w, ?_⟩
        rw [Array.toList_append, Array.toList_append]
        exact (ha.append hargs).append hb
      · trivial

set_option maxHeartbeats 1000000 in
theorem cOp_w (H : HRel ng φ h w) (ho : OpsOk P φ c e r S ρ) {o : Oper} (hS : ∀ x ∈ o.op.operands.toList, S x) {d : WFn} (hw : cOp P c o.op = some (.w d)) : WOk P ng φ h w (execOp ρ o) (d.f e r h) := by
  obtain ⟨dst, op, ty, pos, aft, g⟩ := o
  simp only at hw hS
  cases op with
  | move x => simp only [cOp, Option.map_eq_some_iff] at hw; obtain ⟨_, _, hw⟩ := hw; cases hw
  | assign x => simp only [cOp, Option.map_eq_some_iff] at hw; obtain ⟨_, _, hw⟩ := hw; cases hw
  | pick x a b => simp only [cOp, Option.bind_eq_some_iff, Option.map_eq_some_iff] at hw; obtain ⟨_, _, _, _, _, _, hw⟩ := hw; cases hw
  | alloc t => simp only [cOp, Option.map_eq_some_iff] at hw; obtain ⟨_, _, hw⟩ := hw; cases hw
  | box t x => simp only [cOp, Option.map_eq_some_iff] at hw; obtain ⟨_, _, hw⟩ := hw; cases hw
  | build t parts =>
    simp only [cOp, Option.bind_eq_some_iff] at hw
    obtain ⟨z, hz, hw⟩ := hw
    split at hw
    · split at hw
      · simp only [Option.map_eq_some_iff] at hw; obtain ⟨_, _, hw⟩ := hw; cases hw
      · cases hw
    · simp only [Option.bind_eq_some_iff, Option.map_eq_some_iff] at hw; obtain ⟨_, _, _, _, hw⟩ := hw; cases hw
    · cases hw
  | buildSlice t len parts =>
    simp only [cOp] at hw
    split at hw
    · simp only [Option.bind_eq_some_iff] at hw
      obtain ⟨n, hn, z, hz, hw⟩ := hw
      split at hw
      · simp only [Option.map_eq_some_iff] at hw; obtain ⟨_, _, hw⟩ := hw; cases hw
      · cases hw
    · cases hw
  | insert t m k v =>
    simp only [cOp, cOp.cMapUpdate, Option.bind_eq_some_iff] at hw
    obtain ⟨m', hm, k', hk, v', hv, hw⟩ := hw
    split at hw
    · rename_i kt el hu
      simp only [Option.map_eq_some_iff] at hw
      obtain ⟨kk, hkk, hw⟩ := hw
      cases hw
      exact wMapUpdate_ok H hu hkk (ho _ _ (hS _ (by simp [Op.operands])) hm) (ho _ _ (hS _ (by simp [Op.operands])) hk) (ho _ _ (hS _ (by simp [Op.operands])) hv)
    · cases hw
  | load t a =>
    simp only [cOp, Option.bind_eq_some_iff] at hw
    obtain ⟨_, _, _, _, _, _, hw⟩ := hw
    split at hw <;> cases hw
  | store t a v =>
    simp only [cOp, Option.bind_eq_some_iff, Option.map_eq_some_iff] at hw
    obtain ⟨n, hn, a', ha, v', hv, hw⟩ := hw
    cases hw
    exact wStore_ok H hn (ho _ _ (hS _ (by simp [Op.operands])) ha) (ho _ _ (hS _ (by simp [Op.operands])) hv)
  | nilCheck x => simp only [cOp, Option.map_eq_some_iff] at hw; obtain ⟨_, _, hw⟩ := hw; cases hw
  | binOp op xt x y yt => simp only [cOp, Option.map_eq_some_iff] at hw; obtain ⟨_, _, hw⟩ := hw; cases hw
  | unOp op xt x =>
    simp only [cOp, Option.bind_eq_some_iff] at hw
    obtain ⟨x', hx, hw⟩ := hw
    split at hw <;> cases hw
  | convert s dd x =>
    simp only [cOp, Option.bind_eq_some_iff] at hw
    obtain ⟨x', hx, hw⟩ := hw
    split at hw
    · cases hw
    · cases hw
    · split at hw <;> cases hw
    · simp only [Option.bind_eq_some_iff] at hw
      obtain ⟨n, hn, hw⟩ := hw
      split at hw <;> cases hw
    · simp only [Option.bind_eq_some_iff] at hw
      obtain ⟨n, hn, hw⟩ := hw
      split at hw <;> cases hw
    · rename_i h1 h2
      split at hw
      · rename_i h3
        split at hw
        · rename_i h4
          cases hw
          subst h4
          rw [h1] at h2
          cases h2
          exact wMarkBytes_ok H h1 h3 (ho _ _ (hS _ (by simp [Op.operands])) hx)
        · cases hw
      · cases hw
    · cases hw
  | makeInterface t x =>
    simp only [cOp] at hw
    split at hw
    · cases hw
    · simp only [Option.map_eq_some_iff] at hw; obtain ⟨_, _, hw⟩ := hw; cases hw
    · cases hw
  | makeFunc fn first captured =>
    cases fn with
    | func f => simp only [cOp, Option.bind_eq_some_iff, Option.map_eq_some_iff] at hw; obtain ⟨_, _, _, _, hw⟩ := hw; cases hw
    | _ => cases hw
  | makeMap t rs => cases rs <;> cases hw
  | makeSlice t l k =>
    simp only [cOp] at hw
    split at hw
    · simp only [Option.bind_eq_some_iff] at hw
      obtain ⟨_, _, _, _, _, _, _, _, _, _, hw⟩ := hw
      split at hw <;> cases hw
    · cases hw
  | slice t x lo hi mx =>
    simp only [cOp, Option.bind_eq_some_iff] at hw
    obtain ⟨x', hx, lo', hlo, hi', hhi, mx', hmx, hw⟩ := hw
    split at hw
    · split at hw <;> cases hw
    · simp only [Option.bind_eq_some_iff] at hw
      obtain ⟨n, hn, hw⟩ := hw
      split at hw <;> cases hw
    · simp only [Option.bind_eq_some_iff] at hw
      obtain ⟨n, hn, hw⟩ := hw
      split at hw <;> cases hw
    · cases hw
  | fieldAddr s x f =>
    simp only [cOp] at hw
    split at hw
    · simp only [Option.bind_eq_some_iff] at hw
      obtain ⟨_, _, _, _, hw⟩ := hw
      split at hw
      · cases hw
      · simp only [Option.map_eq_some_iff] at hw; obtain ⟨_, _, hw⟩ := hw; cases hw
    · cases hw
  | field t x f =>
    simp only [cOp] at hw
    split at hw
    · simp only [Option.bind_eq_some_iff] at hw
      obtain ⟨_, _, _, _, _, _, _, _, hw⟩ := hw
      split at hw <;> cases hw
    · cases hw
  | indexAddr t x i =>
    simp only [cOp, Option.bind_eq_some_iff] at hw
    obtain ⟨x', hx, i', hi, hw⟩ := hw
    split at hw
    · simp only [Option.map_eq_some_iff] at hw; obtain ⟨_, _, hw⟩ := hw; cases hw
    · simp only [Option.map_eq_some_iff] at hw; obtain ⟨_, _, hw⟩ := hw; cases hw
    · cases hw
  | index t x i =>
    simp only [cOp, Option.bind_eq_some_iff] at hw
    obtain ⟨x', hx, i', hi, hw⟩ := hw
    split at hw <;> cases hw
  | lookup t x i ok =>
    simp only [cOp, Option.bind_eq_some_iff] at hw
    obtain ⟨x', hx, i', hi, hw⟩ := hw
    split at hw
    · simp only [Option.bind_eq_some_iff, Option.map_eq_some_iff] at hw; obtain ⟨_, _, _, _, hw⟩ := hw; cases hw
    · cases hw
  | mapUpdate t m k v =>
    simp only [cOp, cOp.cMapUpdate, Option.bind_eq_some_iff] at hw
    obtain ⟨m', hm, k', hk, v', hv, hw⟩ := hw
    split at hw
    · rename_i kt el hu
      simp only [Option.map_eq_some_iff] at hw
      obtain ⟨kk, hkk, hw⟩ := hw
      cases hw
      exact wMapUpdate_ok H hu hkk (ho _ _ (hS _ (by simp [Op.operands])) hm) (ho _ _ (hS _ (by simp [Op.operands])) hk) (ho _ _ (hS _ (by simp [Op.operands])) hv)
    · cases hw
  | range t x =>
    simp only [cOp, Option.bind_eq_some_iff] at hw
    obtain ⟨x', hx, hw⟩ := hw
    split at hw <;> cases hw
  | next x s =>
    cases s with
    | true =>
      simp only [cOp, Option.map_eq_some_iff] at hw
      obtain ⟨x', hx, hw⟩ := hw
      cases hw
      exact wNext_ok H (ho _ _ (hS _ (by simp [Op.operands])) hx)
    | false => cases hw
  | typeAssert x xt t ok =>
    cases ok with
    | false => cases hw
    | true =>
      simp only [cOp, Option.bind_eq_some_iff] at hw
      obtain ⟨x', hx, hw⟩ := hw
      split at hw
      · cases hw
      · simp only [Option.map_eq_some_iff] at hw; obtain ⟨_, _, hw⟩ := hw; cases hw
      · cases hw
  | extract x i => simp only [cOp, Option.map_eq_some_iff] at hw; obtain ⟨_, _, hw⟩ := hw; cases hw
  | call k => exact cCall_w H ho hS hw
  | defer k =>
    simp only [cOp] at hw
    split at hw
    · rename_i x hc
      simp only [Option.bind_eq_some_iff, Option.map_eq_some_iff] at hw
      obtain ⟨x', hx, xs, hxs, hw⟩ := hw
      cases hw
      have hSa : ∀ x ∈ k.args.toList, S x := fun x hx => hS x (by simp [Op.operands, Call.operands] at hx ⊢; exact .inr hx)
      have hargs := evs_array ho hSa hxs
      simp only [wDefer]
      split
      · rename_i f first captured ex
        have hv := ho _ _ (hS _ (by simp [Op.operands, Call.operands, hc])) hx
        rw [ex] at hv
        obtain ⟨a, b, hfv, ha, hb⟩ := hv
        refine ⟨{ target := .fn (.func f) b, args := a ++ k.args.map ρ }, ?_, a ++ k.args.map ρ, b, rfl, ?_⟩
        · simp [execOp, resolve, hc, hfv, Deferred.ofValue]
        · rw [Array.toList_append, Array.toList_append]
          exact (ha.append hargs).append hb
      · trivial
    · cases hw
  | panic x =>
    simp only [cOp, Option.map_eq_some_iff] at hw
    obtain ⟨x', hx, hw⟩ := hw
    cases hw
    simp only [wPanic]
    split
    · rename_i t v ex
      have hv := ho _ _ (hS _ (by simp [Op.operands])) hx
      rw [ex] at hv
      have hv' := hv
      obtain ⟨y, hy, _⟩ := hv
      refine ⟨ρ x, ?_, hv'⟩
      simp [execOp, hy, Instr.panic]
    · trivial
  | _ => cases hw

end
end Go.Abs
