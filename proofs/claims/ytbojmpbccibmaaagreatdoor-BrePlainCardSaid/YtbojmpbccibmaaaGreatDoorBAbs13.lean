/- The abstract machine: all operations that write nothing old. -/
import Derived.Test.YtbojmpbccibmaaaGreatDoorBAbs12
set_option linter.unusedVariables false
set_option linter.unusedSimpArgs false
set_option linter.unusedSectionVars false
set_option linter.deprecated false
namespace Go.Abs
variable [Val]

/-- The literal nil of a kind. -/
def NK.nilV : NK → Value
  | .ptr => .pointer none
  | .sl => .slice none 0 0
  | .map => .map none
  | .fn => .nilFunc
  | .iface => .nilIface

theorem nilOpd_eq {k : NK} {x : Operand} (h : nilOpd k x = true) : x = .const k.nilV := by
  cases k <;> simp only [nilOpd] at h <;> split at h <;> first | rfl | cases h

theorem equalIn_nilR {P : Program} {t : TypeId} {d : TypeDesc} {k : NK} (hu : P.underlying t = some d) (hk : nkOf d = some k) {v : Value} {b : Bool} (hv : cvNil k v = some b) (n : Nat) (w : World) :
    (Op.equalIn (n + 1) t v k.nilV).run P w = .ok b w := by
  cases d <;> simp only [nkOf] at hk <;> cases hk <;> cases v <;> simp only [cvNil] at hv <;> cases hv
  case pointer a => cases a <;> simp [Op.equalIn, run_underlying hu, NK.nilV]
  case slice a l c => cases a <;> simp [Op.equalIn, run_underlying hu, NK.nilV]
  case map a => cases a <;> simp [Op.equalIn, run_underlying hu, NK.nilV]
  all_goals simp [Op.equalIn, run_underlying hu, NK.nilV]

theorem equalIn_nilL {P : Program} {t : TypeId} {d : TypeDesc} {k : NK} (hu : P.underlying t = some d) (hk : nkOf d = some k) {v : Value} {b : Bool} (hv : cvNil k v = some b) (n : Nat) (w : World) :
    (Op.equalIn (n + 1) t k.nilV v).run P w = .ok b w := by
  cases d <;> simp only [nkOf] at hk <;> cases hk <;> cases v <;> simp only [cvNil] at hv <;> cases hv
  case pointer a => cases a <;> simp [Op.equalIn, run_underlying hu, NK.nilV]
  case slice a l c => cases a <;> simp [Op.equalIn, run_underlying hu, NK.nilV]
  case map a => cases a <;> simp [Op.equalIn, run_underlying hu, NK.nilV]
  all_goals simp [Op.equalIn, run_underlying hu, NK.nilV]

section
variable {P : Program} {φ : Phi} {c : Ctx} {e : Env} {r : Regs} {S : Operand → Prop} {ρ : Operand → Value}

/-- A nil on one side: no guard. -/
theorem guard_nilR {k : NK} {v : Value} {b : Bool} (hv : cvNil k v = some b) (op : BinOp) (t : TypeId) (x : Operand) : eqGuard op t x (.const k.nilV) v k.nilV = pure () := by
  cases op <;> cases k <;> cases v <;> simp only [cvNil] at hv <;> cases hv <;> first | rfl | (cases x <;> rfl)

theorem guard_nilL {k : NK} {v : Value} {b : Bool} (hv : cvNil k v = some b) (op : BinOp) (t : TypeId) (y : Operand) : eqGuard op t (.const k.nilV) y k.nilV v = pure () := by
  cases op <;> cases k <;> cases v <;> simp only [cvNil] at hv <;> cases hv <;> rfl

theorem binOp_nilR {k : NK} {v : Value} {b : Bool} (hv : cvNil k v = some b) (t : TypeId) (n : Bool) : binOp (if n then .neq else .eql) t v k.nilV = (do let b ← Op.equal t v k.nilV; pure (.bool (if n then !b else b))) := by
  cases n <;> cases k <;> cases v <;> simp only [cvNil] at hv <;> cases hv <;> rfl

theorem binOp_nilL {k : NK} {v : Value} {b : Bool} (hv : cvNil k v = some b) (t : TypeId) (n : Bool) : binOp (if n then .neq else .eql) t k.nilV v = (do let b ← Op.equal t k.nilV v; pure (.bool (if n then !b else b))) := by
  cases n <;> cases k <;> cases v <;> simp only [cvNil] at hv <;> cases hv <;> rfl

theorem cNil_ok (hρ : ∀ v, ρ (.const v) = v) {k : NK} {op : BinOp} {xt : TypeId} {d : TypeDesc} {x y : Operand} {f : DFn} (hSx : S x) (hSy : S y) (hu : P.underlying xt = some d) (hk : nkOf d = some k) (H : OpsOk P φ c e r S ρ) (h : cNil P c k op x y = some f) :
    DOk P φ (valued (binSem ρ op xt x y)) (f.f e r) := by
  simp only [cNil] at h
  cases hz : againstNil k x y with
  | none => rw [hz] at h; cases h
  | some z =>
    rw [hz, Option.bind_some] at h
    cases ha : cOpd P c z with
    | none => rw [ha] at h; cases h
    | some a =>
      rw [ha, Option.bind_some] at h
      have hSz : S z := by
        unfold againstNil at hz
        split at hz
        · cases hz; exact hSx
        · split at hz
          · cases hz; exact hSy
          · cases hz
      have hzv := H z a hSz ha
      have main : ∀ n : Bool, op = (if n then .neq else .eql) → f = dNil k n a → DOk P φ (valued (binSem ρ op xt x y)) (f.f e r) := by
        intro n hop hf
        subst hf
        refine dNil_ok hzv fun b hb w => ?_
        unfold againstNil at hz
        split at hz
        · rename_i hny
          cases hz
          have := nilOpd_eq hny
          subst this
          simp only [binSem, hρ, guard_nilR hb, pure_bind]
          rw [hop, binOp_nilR hb]
          exact run_equal_of (equalIn_nilR hu hk hb 9999 w) n
        · split at hz
          · rename_i hnx
            cases hz
            have := nilOpd_eq hnx
            subst this
            simp only [binSem, hρ, guard_nilL hb, pure_bind]
            rw [hop, binOp_nilL hb]
            exact run_equal_of (equalIn_nilL hu hk hb 9999 w) n
          · cases hz
      cases op <;> simp only at h <;> cases h
      · exact main false rfl rfl
      · exact main true rfl rfl

theorem guard_bool (op : BinOp) (t : TypeId) (x y : Operand) (b : Bool) (v : Value) : eqGuard op t x y (.bool b) v = pure () := by cases op <;> rfl
theorem guard_str (op : BinOp) (t : TypeId) (x y : Operand) (b : ByteArray) (v : Value) : eqGuard op t x y (.string b) v = pure () := by cases op <;> rfl
theorem guard_ptr (op : BinOp) (t : TypeId) (x y : Operand) (b : Option Addr) (v : Value) : eqGuard op t x y (.pointer b) v = pure () := by cases op <;> rfl

theorem ptr_val {φ : Phi} {x : AV} {v : Value} (h : VRel φ x v) (hp : ∃ a, x = .ptr a) : ∃ a, v = .pointer a := by
  obtain ⟨a, rfl⟩ := hp
  cases a with
  | none => exact ⟨none, h⟩
  | some p => obtain ⟨i, o⟩ := p; obtain ⟨a, rfl, _⟩ := h; exact ⟨_, rfl⟩

theorem cBin_ok (hρ : ∀ v, ρ (.const v) = v) (H : OpsOk P φ c e r S ρ) {op : BinOp} {xt : TypeId} {x y : Operand} {f : DFn} (hSx : S x) (hSy : S y) (h : cBin P c op xt x y = some f) :
    DOk P φ (valued (binSem ρ op xt x y)) (f.f e r) := by
  cases hu : P.underlying xt with
  | none => simp [cBin, hu] at h
  | some d =>
    cases d with
    | int k => exact cBin_int H hSx hSy hu h
    | string =>
      simp only [cBin, hu] at h
      cases ha : cOpd P c x with
      | none => rw [ha] at h; cases h
      | some a =>
        cases hb : cOpd P c y with
        | none => rw [ha, hb] at h; cases h
        | some b =>
          rw [ha, hb] at h
          simp only [Option.bind_some] at h
          have hx := H x a hSx ha
          have hy := H y b hSy hb
          cases op <;> simp only at h <;> cases h
          · exact dCat_ok hx hy fun s t e1 e2 => by simp [binSem, e1, e2, guard_str, binOp]
          · exact dStrEq_ok hx hy fun s t e1 e2 w => by simp [binSem, e1, e2, guard_str, binOp, Op.stringOp]
          · exact dStrEq_ok hx hy fun s t e1 e2 w => by simp [binSem, e1, e2, guard_str, binOp, Op.stringOp]
    | bool =>
      simp only [cBin, hu] at h
      cases ha : cOpd P c x with
      | none => rw [ha] at h; cases h
      | some a =>
        cases hb : cOpd P c y with
        | none => rw [ha, hb] at h; cases h
        | some b =>
          rw [ha, hb] at h
          simp only [Option.bind_some] at h
          have hx := H x a hSx ha
          have hy := H y b hSy hb
          cases op <;> simp only at h <;> cases h
          · refine dBoolEq_ok hx hy fun s t e1 e2 w => ?_
            simp only [binSem, e1, e2, guard_bool, binOp, pure_bind]
            exact run_equal_of (run_equalIn_bool w 9999 xt s t hu) false
          · refine dBoolEq_ok hx hy fun s t e1 e2 w => ?_
            simp only [binSem, e1, e2, guard_bool, binOp, pure_bind]
            exact run_equal_of (run_equalIn_bool w 9999 xt s t hu) true
    | pointer el =>
      simp only [cBin, hu] at h
      split at h
      · exact cNil_ok hρ hSx hSy hu rfl H h
      · cases hn : sizeT P el with
        | none => rw [hn] at h; cases h
        | some n =>
          rw [hn, Option.bind_some] at h
          split at h
          · cases h
          · rename_i h0
            cases ha : cOpd P c x with
            | none => rw [ha] at h; cases h
            | some a =>
              cases hb : cOpd P c y with
              | none => rw [ha, hb] at h; cases h
              | some b =>
                rw [ha, hb] at h
                simp only [Option.bind_some] at h
                have hx := H x a hSx ha
                have hy := H y b hSy hb
                have key : ∀ q : Bool, op = (if q then .neq else .eql) → f = dPtrEq q a b → DOk P φ (valued (binSem ρ op xt x y)) (f.f e r) := by
                  intro q hop hf
                  subst hf
                  by_cases hpx : ∃ p, a.ev e r = .ptr p
                  · by_cases hpy : ∃ p, b.ev e r = .ptr p
                    · obtain ⟨p1, e1⟩ := ptr_val hx hpx
                      obtain ⟨p2, e2⟩ := ptr_val hy hpy
                      refine dPtrEq_ok hu hn h0 hx hy ?_
                      simp only [binSem, e1, e2, guard_ptr, pure_bind, hop]
                      cases q <;> rfl
                    · have : (dPtrEq q a b).f e r = .bad := by
                        simp only [dPtrEq]
                        obtain ⟨p1, e1⟩ := hpx
                        rw [e1]
                        cases e2 : b.ev e r <;> first | (cases p1 <;> rfl; done) | exact (hpy ⟨_, e2⟩).elim
                      rw [this]; trivial
                  · have : (dPtrEq q a b).f e r = .bad := by
                      simp only [dPtrEq]
                      cases e1 : a.ev e r <;> first | (rfl; done) | exact (hpx ⟨_, e1⟩).elim
                    rw [this]; trivial
                cases op <;> simp only at h <;> cases h
                · exact key false rfl rfl
                · exact key true rfl rfl
    | slice el => simp only [cBin, hu] at h; exact cNil_ok hρ hSx hSy hu rfl H h
    | map kt el => simp only [cBin, hu] at h; exact cNil_ok hρ hSx hSy hu rfl H h
    | func a b v => simp only [cBin, hu] at h; exact cNil_ok hρ hSx hSy hu rfl H h
    | interface ms => simp only [cBin, hu] at h; exact cNil_ok hρ hSx hSy hu rfl H h
    | struct fs =>
      simp only [cBin, hu] at h
      cases hp : plainStruct P xt with
      | none => rw [hp] at h; cases h
      | some ks =>
        rw [hp, Option.bind_some] at h
        cases ha : cOpd P c x with
        | none => rw [ha] at h; cases h
        | some a =>
          cases hb : cOpd P c y with
          | none => rw [ha, hb] at h; cases h
          | some b =>
            rw [ha, hb] at h
            simp only [Option.bind_some] at h
            have hx := H x a hSx ha
            have hy := H y b hSy hb
            cases op <;> simp only at h <;> cases h
            · refine dStructEq_ok hp hx hy fun xs ys e1 e2 hg w => ?_
              rw [e1, e2]
              simp only [binSem, e1, e2, eqGuard, binOp]
              simp [hg]
            · refine dStructEq_ok hp hx hy fun xs ys e1 e2 hg w => ?_
              rw [e1, e2]
              simp only [binSem, e1, e2, eqGuard, binOp]
              simp [hg]
    | _ => simp [cBin, hu] at h

end
end Go.Abs
