/- The abstract machine: operations that write nothing old: interfaces, functions, tuples, maps, comparisons of places and structs. -/
import Derived.Test.YtbojmpbccibmaaaGreatDoorBAbs9
import Derived.LaidEql
import Derived.Laws.StructEq
set_option linter.unusedVariables false
set_option linter.unusedSimpArgs false
set_option linter.unusedSectionVars false
set_option linter.deprecated false
namespace Go.Abs
variable [Val]

section
variable {P : Program} {φ : Phi} {e : Env} {r : Regs}

/-! ### Interfaces, functions, tuples -/

theorem dIface_ok {t : TypeId} {d : TypeDesc} {x : Opd} {cx : Value} (hu : P.underlying t = some d) (hd : ∀ ms, d ≠ .interface ms) (hx : VRel φ (x.ev e r) cx) :
    DOk P φ (valued (Instr.makeInterface t cx)) ((dIface t x).f e r) := by
  refine .val_of (.iface t cx) (fun w => ?_) ⟨_, rfl, hx⟩
  cases d <;> simp_all [Instr.makeInterface, run_underlying hu]

theorem dFunc_ok {f : FuncId} {a b : List Opd} {ca cb : Array Value} (ha : VRels φ (evs a e r) ca.toList) (hb : VRels φ (evs b e r) cb.toList) :
    DOk P φ (valued (Instr.makeFunc (.func f) ca cb)) ((dFunc f a b).f e r) :=
  .val_of (.func (.func f) ca cb) (fun w => rfl) ⟨_, _, rfl, ha, hb⟩

theorem nthV_ok {P : Program} {φ : Phi} {s : Sem Value} : ∀ (vs : List AV) (cs : List Value) (i : Nat), VRels φ vs cs → (∀ v, cs[i]? = some v → ∀ w, s.run P w = .ok v w) → DOk P φ (valued s) (nthV vs i)
  | [], _, _, _, _ => trivial
  | v :: vs, cs, i, h, k => by
    obtain ⟨c, cs, rfl, h1, h2⟩ := h
    cases i with
    | zero => exact .val_of c (k c rfl) h1
    | succ i => exact nthV_ok vs cs i h2 fun v hv => k v (by simpa using hv)

theorem dExtract_ok {x : Opd} {i : Nat} {cx : Value} (hx : VRel φ (x.ev e r) cx) : DOk P φ (valued (Instr.extract cx i)) ((dExtract x i).f e r) := by
  simp only [dExtract]
  split
  · rename_i vs ex
    rw [ex] at hx
    obtain ⟨cs, rfl, h⟩ := hx
    refine nthV_ok vs cs.toList i h fun v hv w => ?_
    rw [Array.getElem?_toList] at hv
    simp [Instr.extract, hv]
  · trivial

theorem dAssert_ok {t xt : TypeId} {d : TypeDesc} {z : AV} {x : Opd} {cx : Value} (hu : P.underlying t = some d) (hd : ∀ ms, d ≠ .interface ms) (hz : zeroT P t = some z) (hx : VRel φ (x.ev e r) cx) :
    DOk P φ (valued (Instr.typeAssert cx xt t true)) ((dAssert t z x).f e r) := by
  obtain ⟨cz, hz1, hz2⟩ := run_zeroT hz
  have hzr : ∀ w, (zeroValue t).run P w = .ok cz w := hz2
  simp only [dAssert]
  split
  · rename_i u v ex
    rw [ex] at hx
    obtain ⟨y, rfl, hy⟩ := hx
    cases hb : Nat.beq u t with
    | true =>
      rw [beq_iff] at hb
      subst hb
      refine .val_of (.tuple #[y, .bool true]) (fun w => ?_) ⟨_, rfl, _, _, rfl, hy, _, _, rfl, rfl, rfl⟩
      cases d <;> simp_all [Instr.typeAssert, run_underlying hu]
    | false =>
      have hne : u ≠ t := by
        intro hc; rw [← beq_iff] at hc; rw [hb] at hc; cases hc
      refine .val_of (.tuple #[cz, .bool false]) (fun w => ?_) ⟨_, rfl, _, _, rfl, ofValue_rel _ _ hz1, _, _, rfl, rfl, rfl⟩
      cases d <;> simp_all [Instr.typeAssert, run_underlying hu]
  · rename_i ex
    rw [ex] at hx
    simp only [VRel] at hx
    subst hx
    refine .val_of (.tuple #[cz, .bool false]) (fun w => ?_) ⟨_, rfl, _, _, rfl, ofValue_rel _ _ hz1, _, _, rfl, rfl, rfl⟩
    cases d <;> simp_all [Instr.typeAssert, run_underlying hu]
  · trivial

/-! ### Plain cells compared -/

def KK.of : KK → TypeDesc → Prop
  | .int, d => ∃ k, d = .int k
  | .str, d => d = .string
  | .bool, d => d = .bool

theorem kindOf_of {t : TypeId} {k : KK} (h : kindOf P t = some k) : ∃ d, P.underlying t = some d ∧ k.of d := by
  unfold kindOf at h
  split at h <;> cases h
  · rename_i k' hu; exact ⟨_, hu, k', rfl⟩
  · rename_i hu; exact ⟨_, hu, rfl⟩
  · rename_i hu; exact ⟨_, hu, rfl⟩

theorem ba_beq (a b : List UInt8) : ((⟨a.toArray⟩ : ByteArray) == ⟨b.toArray⟩) = (a == b) := by
  rw [beq_toListBytes, ba_toList, ba_toList]

/-- Two keys compared: the model's own. -/
theorem sameKey_now {d : TypeDesc} {k : KK} (hd : k.of d) {x y : AV} {cx cy : Value} (hx : VRel φ x cx) (hy : VRel φ y cy) (hk : isKey k x = true) {b : Bool} (h : sameKey x y = some b) : Instr.sameNow d cx cy = some b := by
  cases x with
  | int kk n =>
    cases y with
    | int kk' n' =>
      simp only [VRel] at hx hy
      subst hx; subst hy
      simp only [sameKey, T.ifB_eq] at h
      split at h
      · rename_i he
        rw [kEq_iff] at he
        subst he
        cases h
        cases k <;> simp [isKey] at hk
        obtain ⟨k', rfl⟩ := hd
        simp [Instr.sameNow, eqQ_eq]
      · cases h
    | _ => cases h
  | str s =>
    cases y with
    | str s' =>
      simp only [VRel] at hx hy
      subst hx; subst hy
      simp only [sameKey, Option.some.injEq] at h
      subst h
      cases k <;> simp [isKey] at hk
      simp only [KK.of] at hd
      subst hd
      simp [Instr.sameNow, strEq_eq, ba_beq]
    | _ => cases h
  | bool s =>
    cases y with
    | bool s' =>
      simp only [VRel] at hx hy
      subst hx; subst hy
      simp only [sameKey, Option.some.injEq] at h
      subst h
      cases k <;> simp [isKey] at hk
      simp only [KK.of] at hd
      subst hd
      simp [Instr.sameNow]
    | _ => cases h
  | _ => cases h

theorem equalIn_now {t : TypeId} {d : TypeDesc} {k : KK} (hu : P.underlying t = some d) (hd : k.of d) {cx cy : Value} {b : Bool} (h : Instr.sameNow d cx cy = some b) (n : Nat) (w : World) :
    (Op.equalIn (n + 1) t cx cy).run P w = .ok b w := by
  cases k with
  | int =>
    obtain ⟨k', rfl⟩ := hd
    cases cx <;> cases cy <;> simp [Instr.sameNow] at h
    obtain ⟨rfl, rfl⟩ := h
    simp [Op.equalIn, run_underlying hu]
  | str =>
    simp only [KK.of] at hd; subst hd
    cases cx <;> cases cy <;> simp [Instr.sameNow] at h
    subst h
    simp [Op.equalIn, run_underlying hu]
  | bool =>
    simp only [KK.of] at hd; subst hd
    cases cx <;> cases cy <;> simp [Instr.sameNow] at h
    subst h
    simp [Op.equalIn, run_underlying hu]

/-! ### Maps -/

theorem findKey_now {d : TypeDesc} {k : KK} (hd : k.of d) {x : AV} {cx : Value} (hx : VRel φ x cx) (hk : isKey k x = true) : ∀ (es : List (AV × AV × Nat)) (ces : List MapEntry) (i : Nat) (o : Option (Nat × AV)),
    ERels φ es ces → findKey x es i = some o → ∃ co, Instr.findNow d cx ces i = some co ∧ (match o, co with | none, none => True | some (j, v), some (j', cv) => j = j' ∧ VRel φ v cv | _, _ => False)
  | [], ces, i, o, h, hf => by
    simp only [ERels] at h
    subst h
    simp only [findKey, Option.some.injEq] at hf
    subst hf
    exact ⟨none, rfl, trivial⟩
  | (k', v, n) :: es, ces, i, o, h, hf => by
    obtain ⟨ce, rest, rfl, ⟨h1, h2, h3⟩, h4⟩ := h
    simp only [findKey] at hf
    split at hf
    · rename_i hs
      cases hf
      exact ⟨some (i, ce.val), by simp [Instr.findNow, sameKey_now hd hx h1 hk hs], rfl, h2⟩
    · rename_i hs
      obtain ⟨co, hco, hr⟩ := findKey_now hd hx hk es rest (i + 1) o h4 hf
      exact ⟨co, by simp [Instr.findNow, sameKey_now hd hx h1 hk hs, hco], hr⟩
    · cases hf

theorem run_checkKey_plain' {t : TypeId} {d : TypeDesc} {k : KK} (hu : P.underlying t = some d) (hd : k.of d) (em : Bool) (n : Nat) (v : Value) (w : World) : (Instr.checkKey em (n + 1) t v).run P w = .ok () w := by
  cases k with
  | int => obtain ⟨k', rfl⟩ := hd; simp [Instr.checkKey, run_underlying hu]
  | str => simp only [KK.of] at hd; subst hd; simp [Instr.checkKey, run_underlying hu]
  | bool => simp only [KK.of] at hd; subst hd; simp [Instr.checkKey, run_underlying hu]

theorem run_findKey_now {t : TypeId} {d : TypeDesc} (hu : P.underlying t = some d) {k : Value} {es : List MapEntry} {o : Option (Nat × Value)} (h : Instr.findNow d k es 0 = some o) (w : World) : (Instr.findKey t k es).run P w = .ok o w := by
  simp [Instr.findKey, run_underlying hu, h]

theorem dLookup_ok {t kt el : TypeId} {kk : KK} {z : AV} {ok : Bool} {x i : Opd} {cx ci : Value} (hu : P.underlying t = some (.map kt el)) (hk : kindOf P kt = some kk) (hz : zeroT P el = some z)
    (hx : VRel φ (x.ev e r) cx) (hi : VRel φ (i.ev e r) ci) : DOk P φ (valued (Instr.lookup t cx ci ok)) ((dLookup kk z ok x i).f e r) := by
  obtain ⟨cz, hz1, hz2⟩ := run_zeroT hz
  have hzr := ofValue_rel (φ := φ) _ _ hz1
  obtain ⟨d, hd, hkd⟩ := kindOf_of hk
  simp only [dLookup]
  split
  · rename_i ex
    rw [ex] at hx
    simp only [VRel] at hx
    subst hx
    have hf : Instr.findNow d ci [] 0 = some none := rfl
    refine .val_of (if ok then .tuple #[cz, .bool false] else cz) (fun w => ?_) ?_
    · simp [Instr.lookup, run_underlying hu, run_checkKey_plain' hd hkd, run_findKey_now hd hf, hz2]
    · cases ok
      · exact hzr
      · exact ⟨_, rfl, _, _, rfl, hzr, _, _, rfl, rfl, rfl⟩
  · rename_i m ex
    rw [ex] at hx
    obtain ⟨rr, rfl, hm⟩ := hx
    cases hkey : isKey kk (i.ev e r) with
    | false => trivial
    | true =>
      refine ⟨hm.notUn, ?_⟩
      intro b p m' ces clock w hφ hb es hes v hv
      simp only [MapOk, hφ] at hm
      subst hm
      simp only [lookedUp] at hv
      have hget : (getObj rr).run P w = .ok (.map ces clock) w := by simp [getObj, Sem.run, hb]
      split at hv
      · rename_i j val hf
        obtain ⟨co, hco, hr⟩ := findKey_now hkd hi hkey es ces.toList 0 _ hes hf
        cases co with
        | none => exact hr.elim
        | some q =>
          obtain ⟨j', cv⟩ := q
          obtain ⟨rfl, hcv⟩ := hr
          cases hv
          refine ⟨if ok then .tuple #[cv, .bool true] else cv, run_valued_ok ?_, ?_⟩
          · simp [Instr.lookup, run_underlying hu, run_checkKey_plain' hd hkd, run_findKey_now hd hco, hget]
          · cases ok
            · exact hcv
            · exact ⟨_, rfl, _, _, rfl, hcv, _, _, rfl, rfl, rfl⟩
      · rename_i hf
        obtain ⟨co, hco, hr⟩ := findKey_now hkd hi hkey es ces.toList 0 _ hes hf
        cases co with
        | some q => exact hr.elim
        | none =>
          cases hv
          refine ⟨if ok then .tuple #[cz, .bool false] else cz, run_valued_ok ?_, ?_⟩
          · simp [Instr.lookup, run_underlying hu, run_checkKey_plain' hd hkd, run_findKey_now hd hco, hget, hz2]
          · cases ok
            · exact hzr
            · exact ⟨_, rfl, _, _, rfl, hzr, _, _, rfl, rfl, rfl⟩
      · cases hv
  · trivial

theorem ERels.length {φ : Phi} : ∀ {es : List (AV × AV × Nat)} {ces : List MapEntry}, ERels φ es ces → ces.length = es.length
  | [], _, h => by simp only [ERels] at h; subst h; rfl
  | _ :: _, _, ⟨_, _, e, _, h⟩ => by subst e; simp [ERels.length h]

theorem dLenMap_ok {t ty kt el : TypeId} {ts : Array TypeId} {x : Opd} {cx : Value} (ht : ts[0]? = some t) (hu : P.underlying t = some (.map kt el)) (hx : VRel φ (x.ev e r) cx) :
    DOk P φ (valued (Builtin.len_ ts ty #[cx])) ((dLenMap x).f e r) := by
  simp only [dLenMap]
  split
  · rename_i ex
    rw [ex] at hx
    simp only [VRel] at hx
    subst hx
    refine .val_of (.int .i64 0) (fun w => ?_) rfl
    simp [Builtin.len_, ht, run_underlying hu, goInt]
  · rename_i m ex
    rw [ex] at hx
    obtain ⟨rr, rfl, hm⟩ := hx
    refine ⟨hm.notUn, ?_⟩
    intro b p m' ces clock w hφ hb es hes v hv
    simp only [MapOk, hφ] at hm
    subst hm
    cases hv
    have hget : (getObj rr).run P w = .ok (.map ces clock) w := by simp [getObj, Sem.run, hb]
    refine ⟨.int .i64 ces.size, run_valued_ok ?_, ?_⟩
    · simp [Builtin.len_, ht, run_underlying hu, goInt, hget]
    · have := hes.length
      simp only [Array.length_toList] at this
      simp [VRel, this]
  · trivial

/-! ### Places and structs compared -/

theorem ptrEq_nil {t el : TypeId} (hu : P.underlying t = some (.pointer el)) (b : Option Addr) (n : Nat) (w : World) : (Op.equalIn (n + 1) t (.pointer none) (.pointer b)).run P w = .ok b.isNone w := by
  simp [Op.equalIn, run_underlying hu]

theorem ptrEq_some {t el : TypeId} (hu : P.underlying t = some (.pointer el)) (a : Addr) (n : Nat) (w : World) : (Op.equalIn (n + 1) t (.pointer (some a)) (.pointer none)).run P w = .ok false w := by
  simp [Op.equalIn, run_underlying hu]

theorem ptrEq_both {t el : TypeId} {sz : Nat} (hu : P.underlying t = some (.pointer el)) (hs : sizeT P el = some sz) (h0 : sz ≠ 0) (a b : Addr) (n : Nat) {w : World} {q : Bool} (h : (sameAddr a b).run P w = .ok q w) :
    (Op.equalIn (n + 1) t (.pointer (some a)) (.pointer (some b))).run P w = .ok q w := by
  simp [Op.equalIn, run_underlying hu, run_sizeT hs, h0, h]

theorem run_equal_of {t : TypeId} {x y : Value} {w : World} {q : Bool} (h : (Op.equalIn (9999 + 1) t x y).run P w = .ok q w) (n : Bool) :
    (do let b ← Op.equal t x y; pure (Value.bool (if n then !b else b)) : Sem Value).run P w = .ok (.bool (if n then !q else q)) w := by
  have h' : (Op.equal t x y).run P w = .ok q w := h
  rw [Sem.run_bind, h']; rfl

theorem dPtrEq_ok {t el : TypeId} {sz : Nat} {n : Bool} {x y : Opd} {cx cy : Value} (hu : P.underlying t = some (.pointer el)) (hs : sizeT P el = some sz) (h0 : sz ≠ 0)
    (hx : VRel φ (x.ev e r) cx) (hy : VRel φ (y.ev e r) cy) {s : Sem Value} (h : s = (do let b ← Op.equal t cx cy; pure (.bool (if n then !b else b)))) : DOk P φ (valued s) ((dPtrEq n x y).f e r) := by
  subst h
  simp only [dPtrEq]
  cases ex : x.ev e r <;> try trivial
  rename_i pa
  cases ey : y.ev e r <;> try (cases pa <;> trivial)
  rename_i pb
  rw [ex] at hx; rw [ey] at hy
  cases pa with
  | none =>
    simp only [VRel] at hx
    subst hx
    cases pb with
    | none =>
      simp only [VRel] at hy; subst hy
      exact .val_of _ (fun w => run_equal_of (ptrEq_nil hu none 9999 w) n) (by cases n <;> rfl)
    | some p =>
      obtain ⟨i, o⟩ := p
      obtain ⟨a, rfl, _⟩ := hy
      exact .val_of _ (fun w => run_equal_of (ptrEq_nil hu (some a) 9999 w) n) (by cases n <;> rfl)
  | some p =>
    obtain ⟨i, o⟩ := p
    obtain ⟨a, rfl, ha⟩ := hx
    cases pb with
    | none =>
      simp only [VRel] at hy
      subst hy
      exact .val_of _ (fun w => run_equal_of (ptrEq_some hu a 9999 w) n) (by cases n <;> rfl)
    | some p' =>
      obtain ⟨j, p⟩ := p'
      obtain ⟨a', rfl, ha'⟩ := hy
      cases hb : Nat.beq i j with
      | false => simp [hb, DOk]
      | true =>
        simp only [hb, cond_true]
        rw [beq_iff] at hb
        subst hb
        refine ⟨ha.notUn, ?_⟩
        intro b q m vs u fz w hφ hbk hsz hm cs hcs v hv
        simp only [Option.some.injEq] at hv
        subst hv
        simp only [PtrOk, hφ] at ha ha'
        subst ha; subst ha'
        have hsame : (sameAddr ⟨b, q + o, none⟩ ⟨b, q + p, none⟩).run P w = .ok (Nat.beq o p) w := by
          by_cases hop : o = p
          · subst hop; simp [sameAddr]
          · have : Nat.beq o p = false := by
              cases hc : Nat.beq o p with
              | false => rfl
              | true => rw [beq_iff] at hc; exact absurd hc hop
            rw [this]
            simp [sameAddr, hop]
        exact ⟨_, run_valued_ok (run_equal_of (ptrEq_both hu hs h0 _ _ 9999 hsame) n), by cases n <;> rfl⟩

theorem plainEq_ok (n : Nat) (xs ys : Array Value) : ∀ (fs : List Field) (i : Nat) (ks : List KK) (a b : List AV) (q : Bool), fieldKinds P fs i = some ks → plainEq ks a b = some q →
    VRels φ a (xs.toList.drop i) → VRels φ b (ys.toList.drop i) → ∀ w, (Op.eqFields (n + 1) xs ys fs).run P w = .ok q w
  | [], i, ks, a, b, q, hk, hq, ha, hb, w => by
    simp only [fieldKinds, Option.some.injEq] at hk
    subst hk
    simp only [plainEq] at hq
    split at hq
    · cases hq; simp [Op.eqFields]
    · cases hq
  | f :: fs, i, ks, a, b, q, hk, hq, ha, hb, w => by
    simp only [fieldKinds] at hk
    split at hk
    · rename_i hc
      simp only [Bool.and_eq_true, bne_iff_ne, ne_eq, beq_iff_eq] at hc
      cases hkf : kindOf P f.type with
      | none => rw [hkf] at hk; cases hk
      | some k =>
        rw [hkf] at hk
        simp only [Option.bind_some, Option.map_eq_some_iff] at hk
        obtain ⟨ks', hks, rfl⟩ := hk
        simp only [plainEq] at hq
        split at hq
        · rename_i x a' y b'
          rw [T.ifB_eq] at hq
          split at hq
          · rename_i hkey
            obtain ⟨cx, rx, ex, hx, hrx⟩ := ha
            obtain ⟨cy, ry, ey, hy, hry⟩ := hb
            obtain ⟨d, hd, hkd⟩ := kindOf_of hkf
            have hpx : ∀ w, (part f.type xs f.offset).run P w = .ok cx w := by
              intro w
              have : xs[i]? = some cx := by
                rw [← Array.getElem?_toList, ← List.head?_drop, ex]; rfl
              rw [hc.2]
              cases k with
              | int => obtain ⟨k', rfl⟩ := hkd; simp [part, isAgg, run_underlying hd, this]
              | str => simp only [KK.of] at hkd; subst hkd; simp [part, isAgg, run_underlying hd, this]
              | bool => simp only [KK.of] at hkd; subst hkd; simp [part, isAgg, run_underlying hd, this]
            have hpy : ∀ w, (part f.type ys f.offset).run P w = .ok cy w := by
              intro w
              have : ys[i]? = some cy := by
                rw [← Array.getElem?_toList, ← List.head?_drop, ey]; rfl
              rw [hc.2]
              cases k with
              | int => obtain ⟨k', rfl⟩ := hkd; simp [part, isAgg, run_underlying hd, this]
              | str => simp only [KK.of] at hkd; subst hkd; simp [part, isAgg, run_underlying hd, this]
              | bool => simp only [KK.of] at hkd; subst hkd; simp [part, isAgg, run_underlying hd, this]
            have drop_succ : ∀ (l : List Value) (c : Value) (r : List Value), l.drop i = c :: r → l.drop (i + 1) = r := by
              intro l c r h
              rw [← List.drop_drop, h]; rfl
            split at hq
            · rename_i hs
              have hnow := equalIn_now hd hkd (sameKey_now hkd hx hy hkey hs) n w
              have ih := plainEq_ok n xs ys fs (i + 1) ks' a' b' q hks hq (by rw [drop_succ _ _ _ ex]; exact hrx) (by rw [drop_succ _ _ _ ey]; exact hry) w
              simp [Op.eqFields, hc.1, hpx, hpy, hnow, ih]
            · rename_i hs
              cases hq
              have hnow := equalIn_now hd hkd (sameKey_now hkd hx hy hkey hs) n w
              simp [Op.eqFields, hc.1, hpx, hpy, hnow]
            · cases hq
          · cases hq
        · cases hq
    · cases hk

theorem dStructEq_ok {t : TypeId} {ks : List KK} {n : Bool} {x y : Opd} {cx cy : Value} (hp : plainStruct P t = some ks)
    (hx : VRel φ (x.ev e r) cx) (hy : VRel φ (y.ev e r) cy) {s : Sem Value} (h : ∀ xs ys, cx = .agg xs → cy = .agg ys → P.eqGuardType P.depth t = false → ∀ w, s.run P w = ((Op.equal t cx cy).run P w).andThen fun b w' => .ok (.bool (if n then !b else b)) w') :
    DOk P φ (valued s) ((dStructEq n ks x y).f e r) := by
  unfold plainStruct at hp
  split at hp
  · rename_i fs hu
    split at hp
    · rename_i hc
      simp only [Bool.and_eq_true, Bool.not_eq_true'] at hc
      simp only [dStructEq]
      split
      · rename_i a b ex ey
        rw [ex] at hx; rw [ey] at hy
        obtain ⟨xs, rfl, hxs⟩ := hx
        obtain ⟨ys, rfl, hys⟩ := hy
        split
        · rename_i q hq
          have hfs : P.fieldsOf t = fs := by simp [Program.fieldsOf, hu]
          refine .val_of (.bool (if n then !q else q)) (fun w => ?_) (by cases n <;> rfl)
          rw [h xs ys rfl rfl hc.2 w]
          have he : (Op.equal t (.agg xs) (.agg ys)).run P w = .ok q w := by
            unfold Op.equal Op.maxDepth
            rw [run_equalIn_struct w 9999 t xs ys (by rw [hfs]; exact hu) hc.1, hfs]
            exact plainEq_ok 9998 xs ys fs.toList 0 ks a b q hp hq (by simpa using hxs) (by simpa using hys) w
          rw [he]; rfl
        · trivial
      · trivial
    · cases hp
  · cases hp

end
end Go.Abs
