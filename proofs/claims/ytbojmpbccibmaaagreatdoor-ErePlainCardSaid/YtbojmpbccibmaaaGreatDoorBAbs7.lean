/- The abstract machine: operations that write nothing old, continued. -/
import Derived.Test.YtbojmpbccibmaaaGreatDoorBAbs6
import Derived.Laws.LoneSync
set_option linter.unusedVariables false
set_option linter.unusedSimpArgs false
set_option linter.unusedSectionVars false
set_option linter.deprecated false
namespace Go.Abs
variable [Val]

/-! ### Types -/

theorem run_sizeT {P : Program} {t : TypeId} {n : Nat} (h : sizeT P t = some n) (w : World) : (sizeOf t).run P w = .ok n w := by
  unfold sizeT at h
  cases hi : P.info? t with
  | none => rw [hi] at h; cases h
  | some i => rw [hi] at h; cases h; simp [sizeOf, typeInfo, hi]

theorem cellsOf_sizeT {P : Program} {t : TypeId} {n : Nat} (h : sizeT P t = some n) : P.cellsOf t = n := by
  unfold sizeT at h
  cases hi : P.info? t with
  | none => rw [hi] at h; cases h
  | some i => rw [hi] at h; cases h; simp [Program.cellsOf, hi]

theorem run_zeroT {P : Program} {t : TypeId} {z : AV} (h : zeroT P t = some z) : ∃ cz, ofValue cz = some z ∧ ∀ w, (zeroValue t).run P w = .ok cz w := by
  unfold zeroT at h
  cases hi : P.info? t with
  | none => rw [hi] at h; cases h
  | some i =>
    rw [hi] at h
    simp only [Option.bind_some] at h
    cases hz : i.zero with
    | none => rw [hz] at h; cases h
    | some cz => rw [hz] at h; exact ⟨cz, h, fun w => by simp [zeroValue, typeInfo, hi, hz]⟩

theorem run_isAggT {P : Program} {t : TypeId} {g : Bool} (h : isAggT P t = some g) (w : World) : (isAgg t).run P w = .ok g w := by
  unfold isAggT at h
  cases hu : P.underlying t with
  | none => rw [hu] at h; cases h
  | some d => rw [hu] at h; cases h; cases d <;> simp [isAgg, run_underlying hu]

theorem ofValue_notJunk : ∀ (v : Value) (x : AV), ofValue v = some x → x.isJunk = false
  | .bool b, x, h => by simp only [ofValue] at h; cases h; rfl
  | .int k n, x, h => by simp only [ofValue] at h; cases h; rfl
  | .string s, x, h => by simp only [ofValue] at h; cases h; rfl
  | .pointer none, x, h => by simp only [ofValue] at h; cases h; rfl
  | .pointer (some _), x, h => by simp only [ofValue] at h; cases h
  | .slice none 0 0, x, h => by simp only [ofValue] at h; cases h; rfl
  | .slice none 0 (_ + 1), x, h => by simp only [ofValue] at h; cases h
  | .slice none (_ + 1) _, x, h => by simp only [ofValue] at h; cases h
  | .slice (some _) _ _, x, h => by simp only [ofValue] at h; cases h
  | .map none, x, h => by simp only [ofValue] at h; cases h; rfl
  | .map (some _), x, h => by simp only [ofValue] at h; cases h
  | .nilFunc, x, h => by simp only [ofValue] at h; cases h; rfl
  | .nilIface, x, h => by simp only [ofValue] at h; cases h; rfl
  | .agg ⟨cs⟩, x, h => by
    simp only [ofValue, Option.map_eq_some_iff] at h
    obtain ⟨_, _, rfl⟩ := h; rfl
  | .tuple ⟨cs⟩, x, h => by
    simp only [ofValue, Option.map_eq_some_iff] at h
    obtain ⟨_, _, rfl⟩ := h; rfl
  | .iface t v, x, h => by
    simp only [ofValue, Option.map_eq_some_iff] at h
    obtain ⟨_, _, rfl⟩ := h; rfl
  | .float _ _, x, h => by simp only [ofValue] at h; cases h
  | .complex _ _ _, x, h => by simp only [ofValue] at h; cases h
  | .chan _, x, h => by simp only [ofValue] at h; cases h
  | .func _ _ _, x, h => by simp only [ofValue] at h; cases h

theorem DOk.val {P : Program} {φ : Phi} {s : Sem Next} {v : AV} (cv : Value) (h : ∀ w, s.run P w = .ok (.value cv) w) (k : VRel φ v cv) : DOk P φ s (.val v) := ⟨cv, h, k⟩

theorem run_valued_ok {P : Program} {s : Sem Value} {v : Value} {w w' : World} (h : s.run P w = .ok v w') : (valued s).run P w = .ok (.value v) w' := by
  rw [run_valued, h]; rfl

section
variable {P : Program} {φ : Phi} {e : Env} {r : Regs}

/-! ### Strings, bools, nil -/

theorem ba_append (a b : List UInt8) : (⟨a.toArray⟩ : ByteArray) ++ ⟨b.toArray⟩ = ⟨(a ++ b).toArray⟩ := by
  apply ByteArray.ext; simp

theorem ba_toList (a : List UInt8) : (⟨a.toArray⟩ : ByteArray).toList = a := by simp [ByteArray.toList_eq]

theorem ba_size (a : List UInt8) : (⟨a.toArray⟩ : ByteArray).size = a.length := by simp [ByteArray.size]

theorem strCells_rels {φ : Phi} : ∀ (s : List UInt8), VRels φ (strCells s) (s.map fun b => .int .u8 b.toNat)
  | [] => rfl
  | b :: s => ⟨_, _, rfl, rfl, strCells_rels s⟩

theorem strAV_ok {a : AV} {l : List AV} {v : Value} (h : strAV a = some l) (k : VRel φ a v) : ∃ s : List UInt8, v = .string ⟨s.toArray⟩ ∧ VRels φ l (s.map fun b => .int .u8 b.toNat) := by
  unfold strAV at h
  split at h
  · rename_i s
    cases h
    exact ⟨s, k, strCells_rels s⟩
  · cases h; exact k
  · cases h

theorem symB_val {l : List Bool} {v : AV} (h : symB l = .val v) {j : Nat} {c : Bool} (hj : l[j]? = some c) : v = .bool c := by
  unfold symB at h
  split at h
  · cases h
  · rename_i b r
    rw [T.ifB_eq] at h
    split at h
    · rename_i h1
      cases h
      cases j with
      | zero => simp at hj; rw [hj]
      | succ j => rw [allB_get h1 j c (by simpa using hj)]
    · cases h

theorem cmpS_val {g : Int → Int → Bool} {a b v : AV} (h : cmpS g a b = .val v) {k k' : IntKind} {m n : Int} (ha : VRel φ a (.int k m)) (hb : VRel φ b (.int k' n)) : v = .bool (g m n) := by
  unfold cmpS at h
  split at h
  · obtain ⟨q, hq, hb⟩ := hb
    simp only [VRel] at ha
    cases ha; cases hb
    rw [T.ifB_eq] at h
    split at h
    · exact symB_val h (by rw [List.getElem?_map, hq]; rfl)
    · cases h
  · obtain ⟨q, hq, ha⟩ := ha
    simp only [VRel] at hb
    cases ha; cases hb
    rw [T.ifB_eq] at h
    split at h
    · exact symB_val h (by rw [List.getElem?_map, hq]; rfl)
    · cases h
  · obtain ⟨q, hq, ha⟩ := ha
    obtain ⟨q', hq', hb⟩ := hb
    cases ha; cases hb
    rw [T.ifB_eq, T.ifB_eq] at h
    split at h
    · rename_i h0
      rw [beq_iff] at h0
      subst h0
      split at h
      · exact symB_val h (by rw [List.getElem?_zipWith, hq, hq'])
      · cases h
    · cases h
  · cases h

theorem byteEq_ok {a b : AV} {c : Bool} (h : byteEq a b = some c) {k k' : IntKind} {m n : Int} (ha : VRel φ a (.int k m)) (hb : VRel φ b (.int k' n)) : (m == n) = c := by
  unfold byteEq at h
  split at h
  · simp only [VRel] at ha hb
    cases ha; cases hb
    rw [T.ifB_eq] at h
    split at h
    · cases h; rw [eqQ_eq]
    · cases h
  · unfold symEq at h
    split at h
    · rename_i c' hc
      cases h
      have := cmpS_val hc ha hb
      cases this
      rw [eqQ_eq]
    · cases h

theorem seqB_ok : ∀ (x y : List AV) (s t : List UInt8) (c : Bool), seqB x y = some c → VRels φ x (s.map fun b => .int .u8 b.toNat) → VRels φ y (t.map fun b => .int .u8 b.toNat) → (s == t) = c
  | [], [], s, t, c, h, hx, hy => by
    simp only [VRels, List.map_eq_nil_iff] at hx hy
    subst hx; subst hy
    simp only [seqB, Option.some.injEq] at h
    rw [← h]; rfl
  | [], b :: y, s, t, c, h, hx, hy => by
    simp only [VRels, List.map_eq_nil_iff] at hx
    obtain ⟨v, r, ht, _⟩ := hy
    cases t with
    | nil => simp at ht
    | cons q t =>
      subst hx
      simp only [seqB, Option.some.injEq] at h
      rw [← h]; rfl
  | a :: x, [], s, t, c, h, hx, hy => by
    simp only [VRels, List.map_eq_nil_iff] at hy
    obtain ⟨v, r, hs, _⟩ := hx
    cases s with
    | nil => simp at hs
    | cons q s =>
      subst hy
      simp only [seqB, Option.some.injEq] at h
      rw [← h]; rfl
  | a :: x, b :: y, s, t, c, h, hx, hy => by
    obtain ⟨v, r, hs, hav, hxr⟩ := hx
    obtain ⟨u, r', ht, hbv, hyr⟩ := hy
    cases s with
    | nil => simp at hs
    | cons p s =>
      cases t with
      | nil => simp at ht
      | cons q t =>
        simp only [List.map_cons, List.cons.injEq] at hs ht
        obtain ⟨rfl, rfl⟩ := hs
        obtain ⟨rfl, rfl⟩ := ht
        simp only [seqB] at h
        have hpq : ∀ c, byteEq a b = some c → (p == q) = c := by
          intro c hc
          have := byteEq_ok hc hav hbv
          rw [← this, Bool.eq_iff_iff, beq_iff_eq, beq_iff_eq]
          constructor
          · intro e; rw [e]
          · intro e; exact UInt8.toNat_inj.1 (by omega)
        rw [show ((p :: s) == (q :: t)) = ((p == q) && (s == t)) from rfl]
        cases hb : byteEq a b with
        | none =>
          rw [hb] at h
          simp only at h
          split at h
          · rename_i hr
            cases h
            rw [seqB_ok x y s t false hr hxr hyr, Bool.and_false]
          · cases h
        | some d =>
          rw [hb] at h
          rw [hpq d hb]
          cases d with
          | true => simp only at h; rw [seqB_ok x y s t c h hxr hyr, Bool.true_and]
          | false => simp only [Option.some.injEq] at h; rw [← h]; rfl

theorem dCat_ok {x y : Opd} {cx cy : Value} (hx : VRel φ (x.ev e r) cx) (hy : VRel φ (y.ev e r) cy) {s : Sem Value}
    (h : ∀ a b, cx = .string a → cy = .string b → s = Op.stringOp .add a b) : DOk P φ (valued s) ((dCat x y).f e r) := by
  simp only [dCat]
  split
  · rename_i a b ex ey
    rw [ex] at hx; rw [ey] at hy
    simp only [VRel] at hx hy
    rw [h _ _ hx hy]
    cases hb : Nat.blt (a.length + b.length) 1152921504606846976 with
    | false => trivial
    | true =>
      rw [blt_iff] at hb
      refine .val_of _ (fun w => ?_) rfl
      rw [run_string_add_sum w ⟨a.toArray⟩ ⟨b.toArray⟩ (by rw [ba_size, ba_size]; omega), ba_append]
  · unfold catS
    split
    · rename_i p q hp hq
      obtain ⟨a, rfl, ha⟩ := strAV_ok hp hx
      obtain ⟨b, rfl, hb'⟩ := strAV_ok hq hy
      rw [h _ _ rfl rfl]
      cases hb : Nat.blt (p.length + q.length) 1152921504606846976 with
      | false => trivial
      | true =>
        rw [blt_iff] at hb
        have h1 := ha.length
        have h2 := hb'.length
        rw [List.length_map] at h1 h2
        refine .val_of (.string ⟨(a ++ b).toArray⟩) (fun w => ?_) ⟨a ++ b, rfl, ?_⟩
        · rw [run_string_add_sum w ⟨a.toArray⟩ ⟨b.toArray⟩ (by rw [ba_size, ba_size]; omega), ba_append]
        · rw [List.map_append]; exact ha.append hb'
    · trivial

theorem dStrEq_ok {x y : Opd} {cx cy : Value} (hx : VRel φ (x.ev e r) cx) (hy : VRel φ (y.ev e r) cy) {n : Bool} {s : Sem Value}
    (h : ∀ a b, cx = .string a → cy = .string b → ∀ w, s.run P w = .ok (.bool (if n then !(a.toList == b.toList) else a.toList == b.toList)) w) : DOk P φ (valued s) ((dStrEq n x y).f e r) := by
  simp only [dStrEq]
  split
  · rename_i a b ex ey
    rw [ex] at hx; rw [ey] at hy
    simp only [VRel] at hx hy
    refine .val_of _ (fun w => h _ _ hx hy w) ?_
    rw [ba_toList, ba_toList, strEq_eq]
    cases n <;> rfl
  · unfold eqS
    split
    · rename_i p q hp hq
      obtain ⟨a, rfl, ha⟩ := strAV_ok hp hx
      obtain ⟨b, rfl, hb⟩ := strAV_ok hq hy
      split
      · rename_i c hc
        refine .val_of _ (fun w => h _ _ rfl rfl w) ?_
        rw [ba_toList, ba_toList, seqB_ok p q a b c hc ha hb]
        cases n <;> rfl
      · trivial
    · trivial

theorem dBoolEq_ok {x y : Opd} {cx cy : Value} (hx : VRel φ (x.ev e r) cx) (hy : VRel φ (y.ev e r) cy) {n : Bool} {s : Sem Value}
    (h : ∀ a b, cx = .bool a → cy = .bool b → ∀ w, s.run P w = .ok (.bool (if n then !(a == b) else a == b)) w) : DOk P φ (valued s) ((dBoolEq n x y).f e r) := by
  simp only [dBoolEq]
  split
  · rename_i a b ex ey
    rw [ex] at hx; rw [ey] at hy
    simp only [VRel] at hx hy
    refine .val_of _ (fun w => h _ _ hx hy w) ?_
    cases n <;> rfl
  · trivial

/-- Is a value of the model nil? -/
def cvNil (k : NK) (v : Value) : Option Bool :=
  match k with
  | .ptr => match v with | .pointer a => some a.isNone | _ => none
  | .sl => match v with | .slice a _ _ => some a.isNone | _ => none
  | .map => match v with | .map a => some a.isNone | _ => none
  | .fn => match v with | .nilFunc => some true | .func _ _ _ => some false | _ => none
  | .iface => match v with | .nilIface => some true | .iface _ _ => some false | _ => none

theorem isNil_ok {k : NK} {x : AV} {cx : Value} (h : VRel φ x cx) {b : Bool} (hn : isNil k x = some b) : cvNil k cx = some b := by
  cases k
  case ptr =>
    cases x <;> try (cases hn; done)
    rename_i a
    cases a with
    | none => simp only [VRel] at h; subst h; exact hn
    | some p => obtain ⟨i, o⟩ := p; obtain ⟨a, rfl, _⟩ := h; exact hn
  case sl =>
    cases x <;> try (cases hn; done)
    rename_i a _ _ _ _
    cases a with
    | none => obtain ⟨rfl, _⟩ := h; exact hn
    | some p => obtain ⟨i, o⟩ := p; obtain ⟨a, c, rfl, _⟩ := h; exact hn
  case map =>
    cases x <;> try (cases hn; done)
    rename_i a
    cases a with
    | none => simp only [VRel] at h; subst h; exact hn
    | some p => obtain ⟨a, rfl, _⟩ := h; exact hn
  case fn =>
    cases x <;> try (cases hn; done)
    · obtain ⟨_, _, rfl, _⟩ := h; exact hn
    · simp only [VRel] at h; subst h; exact hn
  case iface =>
    cases x <;> try (cases hn; done)
    · obtain ⟨_, rfl, _⟩ := h; exact hn
    · simp only [VRel] at h; subst h; exact hn

theorem dNil_ok {k : NK} {x : Opd} {cx : Value} (hx : VRel φ (x.ev e r) cx) {n : Bool} {s : Sem Value}
    (h : ∀ b, cvNil k cx = some b → ∀ w, s.run P w = .ok (.bool (if n then !b else b)) w) : DOk P φ (valued s) ((dNil k n x).f e r) := by
  simp only [dNil]
  split
  · rename_i b hb
    refine .val_of _ (fun w => h b (isNil_ok hx hb) w) ?_
    cases n <;> rfl
  · trivial

theorem dNeg_ok {x : Opd} {cx : Value} (hx : VRel φ (x.ev e r) cx) (k : IntKind) : DOk P φ (valued (Op.unary .neg cx)) ((dNeg k x).f e r) := by
  simp only [dNeg]
  split
  · rename_i k' n ex
    rw [ex] at hx
    simp only [VRel] at hx
    subst hx
    cases hk : kEq k' k with
    | false => trivial
    | true => rw [kEq_iff] at hk; subst hk; exact .val_of (.int k' (k'.wrap (0 - n))) (fun w => rfl) (by simp [VRel, wrapQ_eq])
  · trivial

theorem dBitNot_ok {x : Opd} {cx : Value} (hx : VRel φ (x.ev e r) cx) (k : IntKind) : DOk P φ (valued (Op.unary .xor cx)) ((dBitNot k x).f e r) := by
  simp only [dBitNot]
  split
  · rename_i k' n ex
    rw [ex] at hx
    simp only [VRel] at hx
    subst hx
    cases hk : kEq k' k with
    | false => trivial
    | true => rw [kEq_iff] at hk; subst hk; exact .val_of (.int k' (bitsOp .xor k' (if k'.signed then -1 else k'.max) n)) (fun w => rfl) rfl
  · trivial

theorem dNot_ok {x : Opd} {cx : Value} (hx : VRel φ (x.ev e r) cx) : DOk P φ (valued (Op.unary .not cx)) ((dNot x).f e r) := by
  simp only [dNot]
  split
  · rename_i b ex
    rw [ex] at hx
    simp only [VRel] at hx
    subst hx
    exact .val_of (.bool !b) (fun w => rfl) rfl
  · trivial

theorem dPick_ok {c x y : Opd} {cc cx cy : Value} (hc : VRel φ (c.ev e r) cc) (hx : VRel φ (x.ev e r) cx) (hy : VRel φ (y.ev e r) cy) :
    DOk P φ (do pure (.value (if ← asBool cc then cx else cy))) ((dPick c x y).f e r) := by
  simp only [dPick]
  split
  · rename_i b eb
    rw [eb] at hc
    simp only [VRel] at hc
    subst hc
    refine .val (if b then cx else cy) (fun w => by simp [asBool]) ?_
    cases b <;> simpa
  · trivial

/-! ### Memory that is made -/

theorem dAlloc_ok {t : TypeId} {z : AV} (hz : zeroT P t = some z) : DOk P φ (valued (Instr.alloc t true (.tuple #[]))) ((dAlloc t z.cells).f e r) := by
  obtain ⟨cz, h1, h2⟩ := run_zeroT hz
  refine .row cz.cells (fun b => .pointer (some ⟨b, 0, none⟩)) (fun w => ?_) ((ofValue_rel cz z h1).cells (ofValue_notJunk cz z h1)) fun φ' b i hi => ⟨_, rfl, ?_⟩
  · simp [Instr.alloc, h2, newVar, newRow]
  · simp [PtrOk, hi]

theorem dBox_ok {t : TypeId} {x : Opd} {cx : Value} (hx : VRel φ (x.ev e r) cx) : DOk P φ (valued (Instr.box t cx)) ((dBox t x).f e r) := by
  simp only [dBox]
  cases hj : (x.ev e r).isJunk with
  | true => trivial
  | false =>
    refine .row cx.cells (fun b => .pointer (some ⟨b, 0, none⟩)) (fun w => ?_) (hx.cells hj) fun φ' b i hi => ⟨_, rfl, ?_⟩
    · simp [Instr.box, newVar, newRow]
    · simp [PtrOk, hi]

theorem dMkMap_ok {t : TypeId} : DOk P φ (valued (Instr.makeMap t none)) (dMkMap.f e r) := by
  intro w
  refine ⟨.map #[] 0, 0, .map (some w.heap.size), run_valued_ok rfl, fun φ' _ => ⟨#[], heap_alloc_new _ _, rfl⟩, fun φ' i hi => ⟨_, rfl, ?_⟩⟩
  · simp [MapOk, hi]

theorem dRangeStr_ok {t : TypeId} {x : Opd} {cx : Value} (hu : P.underlying t = some .string) (hx : VRel φ (x.ev e r) cx) : DOk P φ (valued (Instr.range t cx)) ((dRangeStr x).f e r) := by
  simp only [dRangeStr]
  split
  · rename_i s ex
    rw [ex] at hx
    simp only [VRel] at hx
    subst hx
    intro w
    refine ⟨.stringIter ⟨s.toArray⟩ 0, 0, .pointer (some ⟨w.heap.size, 0, none⟩), run_valued_ok ?_, fun φ' _ => ?_, fun φ' i hi => ⟨_, rfl, ?_⟩⟩
    · simp [Instr.range, run_underlying hu]
    · exact ⟨heap_alloc_new _ _, rfl⟩
    · simp [PtrOk, hi]
  · trivial

end
end Go.Abs
