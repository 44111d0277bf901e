/- The abstract machine: operations that write nothing old, continued. -/
import Derived.Test.YtbojmpbccibmaaaGreatDoorAbs6
import Derived.Laws.LoneSync
set_option linter.unusedVariables false
set_option linter.unusedSimpArgs false
set_option linter.unusedSectionVars false
set_option linter.deprecated false
namespace Go.Abs
variable [Val]

/-! ### Types -/

theorem run_sizeT {P : Program} {t : TypeId} {n : Nat} (h : sizeT P t = some n) (w : World) : (sizeOf t).run P w = .ok n w := by
  unfold sizeT at h
  cases hi : P.info? t with
  | none => rw [hi] at h; cases h
  | some i => rw [hi] at h; cases h; simp [sizeOf, typeInfo, hi]

theorem cellsOf_sizeT {P : Program} {t : TypeId} {n : Nat} (h : sizeT P t = some n) : P.cellsOf t = n := by
  unfold sizeT at h
  cases hi : P.info? t with
  | none => rw [hi] at h; cases h
  | some i => rw [hi] at h; cases h; simp [Program.cellsOf, hi]

theorem run_zeroT {P : Program} {t : TypeId} {z : AV} (h : zeroT P t = some z) : ∃ cz, ofValue cz = some z ∧ ∀ w, (zeroValue t).run P w = .ok cz w := by
  unfold zeroT at h
  cases hi : P.info? t with
  | none => rw [hi] at h; cases h
  | some i =>
    rw [hi] at h
    simp only [Option.bind_some] at h
    cases hz : i.zero with
    | none => rw [hz] at h; cases h
    | some cz => rw [hz] at h; exact ⟨cz, h, fun w => by simp [zeroValue, typeInfo, hi, hz]⟩

theorem run_isAggT {P : Program} {t : TypeId} {g : Bool} (h : isAggT P t = some g) (w : World) : (isAgg t).run P w = .ok g w := by
  unfold isAggT at h
  cases hu : P.underlying t with
  | none => rw [hu] at h; cases h
  | some d => rw [hu] at h; cases h; cases d <;> simp [isAgg, run_underlying hu]

theorem ofValue_notJunk : ∀ (v : Value) (x : AV), ofValue v = some x → x.isJunk = false
  | .bool b, x, h => by simp only [ofValue] at h; cases h; rfl
  | .int k n, x, h => by simp only [ofValue] at h; cases h; rfl
  | .string s, x, h => by simp only [ofValue] at h; cases h; rfl
  | .pointer none, x, h => by simp only [ofValue] at h; cases h; rfl
  | .pointer (some _), x, h => by simp only [ofValue] at h; cases h
  | .slice none 0 0, x, h => by simp only [ofValue] at h; cases h; rfl
  | .slice none 0 (_ + 1), x, h => by simp only [ofValue] at h; cases h
  | .slice none (_ + 1) _, x, h => by simp only [ofValue] at h; cases h
  | .slice (some _) _ _, x, h => by simp only [ofValue] at h; cases h
  | .map none, x, h => by simp only [ofValue] at h; cases h; rfl
  | .map (some _), x, h => by simp only [ofValue] at h; cases h
  | .nilFunc, x, h => by simp only [ofValue] at h; cases h; rfl
  | .nilIface, x, h => by simp only [ofValue] at h; cases h; rfl
  | .agg ⟨cs⟩, x, h => by
    simp only [ofValue, Option.map_eq_some_iff] at h
    obtain ⟨_, _, rfl⟩ := h; rfl
  | .tuple ⟨cs⟩, x, h => by
    simp only [ofValue, Option.map_eq_some_iff] at h
    obtain ⟨_, _, rfl⟩ := h; rfl
  | .iface t v, x, h => by
    simp only [ofValue, Option.map_eq_some_iff] at h
    obtain ⟨_, _, rfl⟩ := h; rfl
  | .float _ _, x, h => by simp only [ofValue] at h; cases h
  | .complex _ _ _, x, h => by simp only [ofValue] at h; cases h
  | .chan _, x, h => by simp only [ofValue] at h; cases h
  | .func _ _ _, x, h => by simp only [ofValue] at h; cases h

theorem DOk.val {P : Program} {φ : Phi} {s : Sem Next} {v : AV} (cv : Value) (h : ∀ w, s.run P w = .ok (.value cv) w) (k : VRel φ v cv) : DOk P φ s (.val v) := ⟨cv, h, k⟩

theorem run_valued_ok {P : Program} {s : Sem Value} {v : Value} {w w' : World} (h : s.run P w = .ok v w') : (valued s).run P w = .ok (.value v) w' := by
  rw [run_valued, h]; rfl

section
variable {P : Program} {φ : Phi} {e : Env} {r : Regs}

/-! ### Strings, bools, nil -/

theorem ba_append (a b : List UInt8) : (⟨a.toArray⟩ : ByteArray) ++ ⟨b.toArray⟩ = ⟨(a ++ b).toArray⟩ := by
  apply ByteArray.ext; simp

theorem ba_toList (a : List UInt8) : (⟨a.toArray⟩ : ByteArray).toList = a := by simp [ByteArray.toList_eq]

theorem ba_size (a : List UInt8) : (⟨a.toArray⟩ : ByteArray).size = a.length := by simp [ByteArray.size]

theorem dCat_ok {x y : Opd} {cx cy : Value} (hx : VRel φ (x.ev e r) cx) (hy : VRel φ (y.ev e r) cy) {s : Sem Value}
    (h : ∀ a b, cx = .string a → cy = .string b → s = Op.stringOp .add a b) : DOk P φ (valued s) ((dCat x y).f e r) := by
  simp only [dCat]
  split
  · rename_i a b ex ey
    rw [ex] at hx; rw [ey] at hy
    simp only [VRel] at hx hy
    rw [h _ _ hx hy]
    cases hb : Nat.blt (a.length + b.length) 1152921504606846976 with
    | false => trivial
    | true =>
      rw [blt_iff] at hb
      refine .val_of _ (fun w => ?_) rfl
      rw [run_string_add_sum w ⟨a.toArray⟩ ⟨b.toArray⟩ (by rw [ba_size, ba_size]; omega), ba_append]
  · trivial

theorem dStrEq_ok {x y : Opd} {cx cy : Value} (hx : VRel φ (x.ev e r) cx) (hy : VRel φ (y.ev e r) cy) {n : Bool} {s : Sem Value}
    (h : ∀ a b, cx = .string a → cy = .string b → ∀ w, s.run P w = .ok (.bool (if n then !(a.toList == b.toList) else a.toList == b.toList)) w) : DOk P φ (valued s) ((dStrEq n x y).f e r) := by
  simp only [dStrEq]
  split
  · rename_i a b ex ey
    rw [ex] at hx; rw [ey] at hy
    simp only [VRel] at hx hy
    refine .val_of _ (fun w => h _ _ hx hy w) ?_
    rw [ba_toList, ba_toList, strEq_eq]
    cases n <;> rfl
  · trivial

theorem dBoolEq_ok {x y : Opd} {cx cy : Value} (hx : VRel φ (x.ev e r) cx) (hy : VRel φ (y.ev e r) cy) {n : Bool} {s : Sem Value}
    (h : ∀ a b, cx = .bool a → cy = .bool b → ∀ w, s.run P w = .ok (.bool (if n then !(a == b) else a == b)) w) : DOk P φ (valued s) ((dBoolEq n x y).f e r) := by
  simp only [dBoolEq]
  split
  · rename_i a b ex ey
    rw [ex] at hx; rw [ey] at hy
    simp only [VRel] at hx hy
    refine .val_of _ (fun w => h _ _ hx hy w) ?_
    cases n <;> rfl
  · trivial

/-- Is a value of the model nil? -/
def cvNil (k : NK) (v : Value) : Option Bool :=
  match k with
  | .ptr => match v with | .pointer a => some a.isNone | _ => none
  | .sl => match v with | .slice a _ _ => some a.isNone | _ => none
  | .map => match v with | .map a => some a.isNone | _ => none
  | .fn => match v with | .nilFunc => some true | .func _ _ _ => some false | _ => none
  | .iface => match v with | .nilIface => some true | .iface _ _ => some false | _ => none

theorem isNil_ok {k : NK} {x : AV} {cx : Value} (h : VRel φ x cx) {b : Bool} (hn : isNil k x = some b) : cvNil k cx = some b := by
  cases k
  case ptr =>
    cases x <;> try (cases hn; done)
    rename_i a
    cases a with
    | none => simp only [VRel] at h; subst h; exact hn
    | some p => obtain ⟨i, o⟩ := p; obtain ⟨a, rfl, _⟩ := h; exact hn
  case sl =>
    cases x <;> try (cases hn; done)
    rename_i a _ _ _ _
    cases a with
    | none => obtain ⟨rfl, _⟩ := h; exact hn
    | some p => obtain ⟨i, o⟩ := p; obtain ⟨a, c, rfl, _⟩ := h; exact hn
  case map =>
    cases x <;> try (cases hn; done)
    rename_i a
    cases a with
    | none => simp only [VRel] at h; subst h; exact hn
    | some p => obtain ⟨a, rfl, _⟩ := h; exact hn
  case fn =>
    cases x <;> try (cases hn; done)
    · obtain ⟨_, _, rfl, _⟩ := h; exact hn
    · simp only [VRel] at h; subst h; exact hn
  case iface =>
    cases x <;> try (cases hn; done)
    · obtain ⟨_, rfl, _⟩ := h; exact hn
    · simp only [VRel] at h; subst h; exact hn

theorem dNil_ok {k : NK} {x : Opd} {cx : Value} (hx : VRel φ (x.ev e r) cx) {n : Bool} {s : Sem Value}
    (h : ∀ b, cvNil k cx = some b → ∀ w, s.run P w = .ok (.bool (if n then !b else b)) w) : DOk P φ (valued s) ((dNil k n x).f e r) := by
  simp only [dNil]
  split
  · rename_i b hb
    refine .val_of _ (fun w => h b (isNil_ok hx hb) w) ?_
    cases n <;> rfl
  · trivial

theorem dNeg_ok {x : Opd} {cx : Value} (hx : VRel φ (x.ev e r) cx) (k : IntKind) : DOk P φ (valued (Op.unary .neg cx)) ((dNeg k x).f e r) := by
  simp only [dNeg]
  split
  · rename_i k' n ex
    rw [ex] at hx
    simp only [VRel] at hx
    subst hx
    cases hk : kEq k' k with
    | false => trivial
    | true => rw [kEq_iff] at hk; subst hk; exact .val_of (.int k' (k'.wrap (0 - n))) (fun w => rfl) (by simp [VRel, wrapQ_eq])
  · trivial

theorem dBitNot_ok {x : Opd} {cx : Value} (hx : VRel φ (x.ev e r) cx) (k : IntKind) : DOk P φ (valued (Op.unary .xor cx)) ((dBitNot k x).f e r) := by
  simp only [dBitNot]
  split
  · rename_i k' n ex
    rw [ex] at hx
    simp only [VRel] at hx
    subst hx
    cases hk : kEq k' k with
    | false => trivial
    | true => rw [kEq_iff] at hk; subst hk; exact .val_of (.int k' (bitsOp .xor k' (if k'.signed then -1 else k'.max) n)) (fun w => rfl) rfl
  · trivial

theorem dNot_ok {x : Opd} {cx : Value} (hx : VRel φ (x.ev e r) cx) : DOk P φ (valued (Op.unary .not cx)) ((dNot x).f e r) := by
  simp only [dNot]
  split
  · rename_i b ex
    rw [ex] at hx
    simp only [VRel] at hx
    subst hx
    exact .val_of (.bool !b) (fun w => rfl) rfl
  · trivial

theorem dPick_ok {c x y : Opd} {cc cx cy : Value} (hc : VRel φ (c.ev e r) cc) (hx : VRel φ (x.ev e r) cx) (hy : VRel φ (y.ev e r) cy) :
    DOk P φ (do pure (.value (if ← asBool cc then cx else cy))) ((dPick c x y).f e r) := by
  simp only [dPick]
  split
  · rename_i b eb
    rw [eb] at hc
    simp only [VRel] at hc
    subst hc
    refine .val (if b then cx else cy) (fun w => by simp [asBool]) ?_
    cases b <;> simpa
  · trivial

/-! ### Memory that is made -/

theorem dAlloc_ok {t : TypeId} {z : AV} (hz : zeroT P t = some z) : DOk P φ (valued (Instr.alloc t true (.tuple #[]))) ((dAlloc t z.cells).f e r) := by
  obtain ⟨cz, h1, h2⟩ := run_zeroT hz
  refine .row cz.cells (fun b => .pointer (some ⟨b, 0, none⟩)) (fun w => ?_) ((ofValue_rel cz z h1).cells (ofValue_notJunk cz z h1)) fun φ' b i hi => ⟨_, rfl, ?_⟩
  · simp [Instr.alloc, h2, newVar, newRow]
  · simp [PtrOk, hi]

theorem dBox_ok {t : TypeId} {x : Opd} {cx : Value} (hx : VRel φ (x.ev e r) cx) : DOk P φ (valued (Instr.box t cx)) ((dBox t x).f e r) := by
  simp only [dBox]
  cases hj : (x.ev e r).isJunk with
  | true => trivial
  | false =>
    refine .row cx.cells (fun b => .pointer (some ⟨b, 0, none⟩)) (fun w => ?_) (hx.cells hj) fun φ' b i hi => ⟨_, rfl, ?_⟩
    · simp [Instr.box, newVar, newRow]
    · simp [PtrOk, hi]

theorem dMkMap_ok {t : TypeId} : DOk P φ (valued (Instr.makeMap t none)) (dMkMap.f e r) := by
  intro w
  refine ⟨.map #[] 0, 0, .map (some w.heap.size), run_valued_ok rfl, fun φ' _ => ⟨#[], heap_alloc_new _ _, rfl⟩, fun φ' i hi => ⟨_, rfl, ?_⟩⟩
  · simp [MapOk, hi]

theorem dRangeStr_ok {t : TypeId} {x : Opd} {cx : Value} (hu : P.underlying t = some .string) (hx : VRel φ (x.ev e r) cx) : DOk P φ (valued (Instr.range t cx)) ((dRangeStr x).f e r) := by
  simp only [dRangeStr]
  split
  · rename_i s ex
    rw [ex] at hx
    simp only [VRel] at hx
    subst hx
    intro w
    refine ⟨.stringIter ⟨s.toArray⟩ 0, 0, .pointer (some ⟨w.heap.size, 0, none⟩), run_valued_ok ?_, fun φ' _ => ?_, fun φ' i hi => ⟨_, rfl, ?_⟩⟩
    · simp [Instr.range, run_underlying hu]
    · exact ⟨heap_alloc_new _ _, rfl⟩
    · simp [PtrOk, hi]
  · trivial

end
end Go.Abs
