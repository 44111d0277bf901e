/- The abstract machine: operations that write. -/
import Derived.Test.YtbojmpbccibmaaaGreatDoorBAbs15
import Derived.Laws.RangeString
set_option linter.unusedVariables false
set_option linter.unusedSimpArgs false
set_option linter.unusedSectionVars false
set_option linter.deprecated false
namespace Go.Abs
variable [Val]

/-! ### What they owe -/

theorem HRel.heap_eq {ng : Nat} {φ : Phi} {h : AHeap} {w w' : World} (H : HRel ng φ h w) (e : w'.heap = w.heap) : HRel ng φ h w' :=
  ⟨H.fresh, H.glob, fun i b hb => (H.blk i b hb).imp id fun ⟨c, p, n, h1, h2⟩ => ⟨c, p, n, h1, h2.same (by rw [e])⟩, H.inj, fun i c p n h => by rw [e]; exact H.lt i c p n h, H.dom⟩

theorem Stp.heap_eq {φ : Phi} {h : AHeap} {w w' : World} (e : w'.heap = w.heap) (ho : w'.os = w.os) (ht : w'.tape = w.tape) (hp : w'.output = w.output) : Stp φ h w φ h w' :=
  ⟨Ext.refl _, ho, ht, hp, by rw [e]; exact Nat.le_refl _, fun _ _ _ => by rw [e], fun _ h _ => h, fun _ _ e => ⟨rfl, e⟩, Nat.le_refl _⟩

def DRel (φ : Phi) (d : ADef) (cd : Deferred) : Prop := ∃ ca cb, cd = { target := .fn (.func d.f) cb, args := ca } ∧ VRels φ d.args (ca ++ cb).toList

/-- A function that has a body. -/
def Callable (P : Program) (f : FuncId) : Prop := ∃ fn, P.funcs[f]? = some fn ∧ fn.name ≠ "runtime.NumGoroutine" ∧ fn.body.isSome = true

def WOk (P : Program) (ng : Nat) (φ : Phi) (h : AHeap) (w : World) (s : Sem Next) : Wr → Prop
  | .ok v h' => ∃ nx w' φ', s.run P w = .ok nx w' ∧ ((∃ cv, nx = .value cv ∧ VRel φ' v cv) ∨ (nx = .skip ∧ VRel φ' v Go.undef)) ∧ HRel ng φ' h' w' ∧ Stp φ h w φ' h' w'
  | .enter f args => Callable P f → ∃ cargs, s.run P w = .ok (.enter f cargs) w ∧ VRels φ args cargs.toList
  | .defer d => ∃ cd, s.run P w = .ok (.defer cd) w ∧ DRel φ d cd
  | .panic v => ∃ cv, s.run P w = .halt (.panic cv) w ∧ VRel φ v cv
  | .recover => s.run P w = .ok .recover w
  | .bad => True

theorem WOk.congr {P : Program} {ng : Nat} {φ : Phi} {h : AHeap} {w : World} {s s' : Sem Next} {x : Wr} (e : s.run P w = s'.run P w) (k : WOk P ng φ h w s' x) : WOk P ng φ h w s x := by
  cases x <;> simp only [WOk, e] at * <;> exact k

abbrev skipped (s : Sem Unit) : Sem Next := do s; pure .skip

theorem run_skipped {P : Program} {s : Sem Unit} {w w' : World} (h : s.run P w = .ok () w') : (skipped s).run P w = .ok .skip w' := by
  simp [h]

theorem at_of {ng : Nat} {φ : Phi} {h : AHeap} {w : World} (H : HRel ng φ h w) {i : Nat} {blk : ABlk} (hg : h.get i = some blk) (hu : φ i ≠ .un) : ∃ b p n, φ i = .at b p n ∧ BRel φ blk b p n w := by
  rcases H.blk i blk hg with h | h
  · exact absurd h hu
  · exact h

theorem store_some {h h' : AHeap} {i o : Nat} {vs : List AV} (hs : h.store i o vs = some h') : ∃ blk, h.get i = some blk := by
  unfold AHeap.store at hs
  cases hg : h.get i with
  | none => rw [hg] at hs; cases hs
  | some blk => exact ⟨blk, rfl⟩

section
variable {P : Program} {ng : Nat} {φ : Phi} {h : AHeap} {w : World} {e : Env} {r : Regs}

/-- A store through a pointer. -/
theorem store_ptr (H : HRel ng φ h w) {i o : Nat} {a : Addr} (ha : PtrOk φ i o a) {vs : List AV} {cvs : List Value} (hv : VRels φ vs cvs) {h' : AHeap} (hs : h.store i o vs = some h') :
    ∃ w', (storeCells a cvs).run P w = .ok () w' ∧ HRel ng φ h' w' ∧ Stp φ h w φ h' w' := by
  obtain ⟨blk, hg⟩ := store_some hs
  obtain ⟨b, p, n, hφ, _⟩ := at_of H hg ha.notUn
  simp only [PtrOk, hφ] at ha
  subst ha
  exact stores_of P H hs hφ hv

theorem wStore_ok {t : TypeId} {n : Nat} {x v : Opd} {cx cv : Value} (H : HRel ng φ h w) (hn : sizeT P t = some n) (hx : VRel φ (x.ev e r) cx) (hv : VRel φ (v.ev e r) cv) :
    WOk P ng φ h w (skipped (Instr.storeAt t cx cv)) ((wStore n x v).f e r h) := by
  simp only [wStore]
  split
  · rename_i i o ex
    rw [ex] at hx
    obtain ⟨a, rfl, hp⟩ := hx
    cases hc : (!(v.ev e r).isJunk && Nat.beq (lenQ (v.ev e r).cells) n) with
    | false => trivial
    | true =>
      simp only [Bool.and_eq_true, Bool.not_eq_true', beq_iff, lenQ_eq] at hc
      simp only [cond_true]
      cases hs : h.store i o (v.ev e r).cells with
      | none => trivial
      | some h' =>
        have hcells := hv.cells hc.1
        obtain ⟨w', h1, h2, h3⟩ := store_ptr (P := P) H hp hcells hs
        have hsz : cv.cells.size = n := by have := hcells.length; simp at this; omega
        refine ⟨.skip, w', φ, run_skipped ?_, .inr ⟨rfl, VRel.undef⟩, h2, h3⟩
        simp [Instr.storeAt, Instr.sureAddr, storeVar, run_sizeT hn, hsz, h1]
  · trivial

theorem zeroCells_list (z : Array Value) (n : Nat) : (Builtin.zeroCells z n).toList = (List.replicate n z.toList).flatten := made_block z n

theorem wClear_ok {t ty el : TypeId} {ts : Array TypeId} {z : AV} {x : Opd} {cx : Value} (H : HRel ng φ h w) (ht : ts[0]? = some t) (hu : P.underlying t = some (.slice el)) (hz : zeroT P el = some z) (hx : VRel φ (x.ev e r) cx) :
    WOk P ng φ h w (valued (Builtin.clear_ ts ty #[cx])) ((wClear z.cells x).f e r h) := by
  obtain ⟨cz, hz1, hz2⟩ := run_zeroT hz
  have hzc := (ofValue_rel (φ := φ) _ _ hz1).cells (ofValue_notJunk _ _ hz1)
  simp only [wClear]
  split
  · rename_i ex
    rw [ex] at hx
    obtain ⟨rfl, _⟩ := hx
    refine ⟨_, w, φ, run_valued_ok (v := .tuple #[]) ?_, .inl ⟨_, rfl, ⟨_, rfl, rfl⟩⟩, H, Stp.refl _ _ _⟩
    simp [Builtin.clear_, ht, run_underlying hu]
  · rename_i i o esz len cap ex' ex
    rw [ex] at hx
    obtain ⟨a, c, rfl, h1, h2, _, hsl⟩ := hx
    cases hl : Nat.beq len 0 with
    | true =>
      rw [beq_iff] at hl
      subst hl
      refine ⟨_, w, φ, run_valued_ok (v := .tuple #[]) ?_, .inl ⟨_, rfl, ⟨_, rfl, rfl⟩⟩, H, Stp.refl _ _ _⟩
      simp [Builtin.clear_, ht, run_underlying hu]
    | false =>
      simp only [cond_false]
      have hl0 : len ≠ 0 := by
        intro hh; rw [← beq_iff] at hh; rw [hl] at hh; cases hh
      cases hs : h.store i o (List.replicate len z.cells).flatten with
      | none => trivial
      | some h' =>
        obtain ⟨w', k1, k2, k3⟩ := store_ptr (P := P) H (hsl.ptr (by omega)) (hzc.replicate len) hs
        refine ⟨_, w', φ, run_valued_ok (v := .tuple #[]) ?_, .inl ⟨_, rfl, ⟨_, rfl, rfl⟩⟩, k2, k3⟩
        rw [← zeroCells_list] at k1
        cases len with
        | zero => exact absurd rfl hl0
        | succ len => simp [Builtin.clear_, ht, run_underlying hu, hz2, k1]
  · trivial

/-! ### Maps, iterators -/

theorem run_getObj_of {P : Program} {w : World} {b : Nat} {o : Obj} (h : w.heap[b]? = some o) (hc : ∀ c t f, o ≠ .cells c t f) : (getObj b).run P w = .ok o w := by
  cases o with
  | cells c t f => exact absurd rfl (hc c t f)
  | _ => simp [getObj, Sem.run, h]

theorem run_setObj_of {P : Program} {w : World} {b : Nat} {o : Obj} (o' : Obj) (h : w.heap[b]? = some o) (hc : ∀ c t f, o ≠ .cells c t f) : (setObj b o').run P w = .ok () { w with heap := w.heap.setIfInBounds b o' } := by
  cases o with
  | cells c t f => exact absurd rfl (hc c t f)
  | _ => simp [setObj, Sem.run, h]

theorem ERels.append {φ : Phi} : ∀ {a b : List (AV × AV × Nat)} {c d : List MapEntry}, ERels φ a c → ERels φ b d → ERels φ (a ++ b) (c ++ d)
  | [], _, _, _, h, k => by simp only [ERels] at h; subst h; exact k
  | _ :: _, _, _, _, ⟨e, r, he, h1, h2⟩, k => ⟨e, r ++ _, by rw [he]; rfl, h1, ERels.append h2 k⟩

theorem findKey_at {φ : Phi} {x : AV} : ∀ (es : List (AV × AV × Nat)) (i j : Nat) (v : AV), findKey x es i = some (some (j, v)) → ∃ k, j = i + k ∧ ∃ en, es[k]? = some en ∧ sameKey x en.1 = some true
  | [], i, j, v, h => by simp [findKey] at h
  | (k', v', n) :: es, i, j, v, h => by
    simp only [findKey] at h
    split at h
    · rename_i hs
      simp only [Option.some.injEq, Prod.mk.injEq] at h
      exact ⟨0, by omega, _, rfl, hs⟩
    · obtain ⟨k, hk, en, he, hs⟩ := findKey_at (φ := φ) es (i + 1) j v h
      exact ⟨k + 1, by omega, en, by simpa using he, hs⟩
    · cases h

theorem updEntry_ok {φ : Phi} {v : AV} {cv ck : Value} (hv : VRel φ v cv) : ∀ (es : List (AV × AV × Nat)) (ces : List MapEntry) (k : Nat), ERels φ es ces → (∀ en, es[k]? = some en → VRel φ en.1 ck) →
    ERels φ (updEntry v k es) (ces.modify k fun e => { e with key := ck, val := cv })
  | [], ces, k, h, _ => by simp only [ERels] at h; subst h; cases k <;> simp [updEntry, ERels]
  | x :: es, ces, 0, ⟨e, r, he, h1, h2⟩, hk => by
    obtain ⟨k', v', n⟩ := x
    subst he
    exact ⟨_, _, rfl, ⟨hk (k', v', n) (by simp), hv, h1.2.2⟩, h2⟩
  | x :: es, ces, k + 1, ⟨e, r, he, h1, h2⟩, hk => by
    subst he
    exact ⟨_, _, rfl, h1, updEntry_ok hv es r k h2 fun en he => hk en (by simpa using he)⟩

theorem VRel.key_inj {φ : Phi} {a b : AV} {ca cb : Value} (ha : VRel φ a ca) (hb : VRel φ b cb) (hs : sameKey a b = some true) : ca = cb ∧ VRel φ b ca := by
  cases a with
  | int k n => cases b <;> simp only [sameKey] at hs <;> try cases hs
               simp only [VRel] at ha hb
               rw [T.ifB_eq] at hs
               split at hs
               · rename_i hk
                 rw [kEq_iff] at hk; subst hk
                 simp only [Option.some.injEq, eqQ_eq, beq_iff_eq] at hs
                 subst hs; subst ha; subst hb; exact ⟨rfl, rfl⟩
               · cases hs
  | str s => cases b <;> simp only [sameKey] at hs <;> try cases hs
             simp only [VRel] at ha hb
             simp only [Option.some.injEq, strEq_eq, beq_iff_eq] at hs
             subst hs; subst ha; subst hb; exact ⟨rfl, rfl⟩
  | bool s => cases b <;> simp only [sameKey] at hs <;> try cases hs
              simp only [VRel] at ha hb
              simp only [Option.some.injEq, beq_iff_eq] at hs
              subst hs; subst ha; subst hb; exact ⟨rfl, rfl⟩
  | _ => simp [sameKey] at hs

theorem sameBits_key {φ : Phi} {a : AV} {ca : Value} {k : KK} (ha : VRel φ a ca) (hk : isKey k a = true) : Instr.sameBits 10000 ca ca = true := by
  cases a <;> cases k <;> simp [isKey] at hk <;> (simp only [VRel] at ha; subst ha; simp [Instr.sameBits, ba_beq])

theorem wMapUpdate_ok {t kt el : TypeId} {kk : KK} {m k v : Opd} {cm ck cv : Value} (H : HRel ng φ h w) (hu : P.underlying t = some (.map kt el)) (hk : kindOf P kt = some kk)
    (hm : VRel φ (m.ev e r) cm) (hkv : VRel φ (k.ev e r) ck) (hv : VRel φ (v.ev e r) cv) :
    WOk P ng φ h w (skipped (Instr.mapUpdate t cm ck cv)) ((wMapUpdate kk m k v).f e r h) := by
  obtain ⟨d, hd, hkd⟩ := kindOf_of hk
  simp only [wMapUpdate]
  cases hkey : isKey kk (k.ev e r) with
  | false => trivial
  | true =>
    simp only [cond_true, aMapUpdate]
    split
    · rename_i i em
      rw [em] at hm
      obtain ⟨rr, rfl, hmo⟩ := hm
      split
      · rename_i es clock hg
        obtain ⟨b, p, n, hφ, hb⟩ := at_of H hg hmo.notUn
        simp only [MapOk, hφ] at hmo
        subst hmo
        obtain ⟨ces, hb1, hb2⟩ := hb
        have hnc : ∀ c t f, (Obj.map ces clock) ≠ .cells c t f := by intro _ _ _ h; cases h
        have hget := run_getObj_of (P := P) hb1 hnc
        have hlt : rr < w.heap.size := (Array.getElem?_eq_some_iff.1 hb1).1
        split
        · rename_i j v' hf
          obtain ⟨co, hco, hcr⟩ := findKey_now hkd hkv hkey es ces.toList 0 _ hb2 hf
          cases co with
          | none => exact hcr.elim
          | some q =>
            obtain ⟨j', cv'⟩ := q
            obtain ⟨rfl, _⟩ := hcr
            obtain ⟨k0, hj, en, hen, hsk⟩ := findKey_at (φ := φ) es 0 j v' hf
            have hk0 : k0 = j := by omega
            subst hk0
            have hce : ∃ ce, ces.toList[k0]? = some ce ∧ VRel φ en.1 ce.key := by
              have gen : ∀ (es : List (AV × AV × Nat)) (cl : List MapEntry) (k0 : Nat) (en : AV × AV × Nat), ERels φ es cl → es[k0]? = some en → ∃ ce, cl[k0]? = some ce ∧ VRel φ en.1 ce.key := by
                intro es
                induction es with
                | nil => intro cl k0 en _ h; simp at h
                | cons x es ih =>
                  intro cl k0 en hh h
                  obtain ⟨e0, r0, rfl, h1, h2⟩ := hh
                  cases k0 with
                  | zero => simp at h; subst h; exact ⟨e0, rfl, h1.1⟩
                  | succ k0 => exact ih r0 k0 en h2 (by simpa using h)
              exact gen es ces.toList k0 en hb2 hen
            obtain ⟨ce, hce1, hce2⟩ := hce
            obtain ⟨hkeq, hken⟩ := VRel.key_inj hkv hce2 hsk
            have hces : ces[k0]? = some ce := by rw [← Array.getElem?_toList]; exact hce1
            have hstays : (Instr.keyThatStays (((ces[k0]?).map (·.key)).getD ck) ck).run P w = .ok ck w := by
              rw [hces]
              simp only [Option.map_some, Option.getD_some, ← hkeq]
              simp [Instr.keyThatStays, sameBits_key hkv hkey]
            refine ⟨.skip, { w with heap := w.heap.setIfInBounds rr (.map (ces.modify k0 fun e => { e with key := ck, val := cv }) clock) }, φ, run_skipped ?_, .inr ⟨rfl, VRel.undef⟩, ?_⟩
            · simp only [Instr.mapUpdate, Sem.run_bind, run_underlying hu, Result.andThen_ok, hget, run_checkKey_plain' hd hkd, run_findKey_now hd hco, hstays]
              exact run_setObj_of _ hb1 hnc
            · refine step_set H hg rfl rfl hφ (o := .map (ces.modify k0 fun e => { e with key := ck, val := cv }) clock) ?_ (by simp) (fun k hk => ?_) rfl rfl rfl ⟨ces.modify k0 fun e => { e with key := ck, val := cv }, ?_, ?_⟩
              · simp [hlt]
              · simp [Array.getElem?_setIfInBounds, Ne.symm hk]
              · simp [hlt]
              · rw [Array.toList_modify]
                exact updEntry_ok hv es ces.toList k0 hb2 fun en' he' => by
                  rw [hen] at he'; cases he'; exact hken
        · rename_i hf
          obtain ⟨co, hco, hcr⟩ := findKey_now hkd hkv hkey es ces.toList 0 _ hb2 hf
          cases co with
          | some q => exact hcr.elim
          | none =>
            refine ⟨.skip, { w with heap := w.heap.setIfInBounds rr (.map (ces.push { key := ck, val := cv, born := clock }) (clock + 1)) }, φ, run_skipped ?_, .inr ⟨rfl, VRel.undef⟩, ?_⟩
            · simp only [Instr.mapUpdate, Sem.run_bind, run_underlying hu, Result.andThen_ok, hget, run_checkKey_plain' hd hkd, run_findKey_now hd hco]
              exact run_setObj_of _ hb1 hnc
            · refine step_set H hg rfl rfl hφ (o := .map (ces.push { key := ck, val := cv, born := clock }) (clock + 1)) ?_ (by simp) (fun k hk => ?_) rfl rfl rfl ⟨ces.push { key := ck, val := cv, born := clock }, ?_, ?_⟩
              · simp [hlt]
              · simp [Array.getElem?_setIfInBounds, Ne.symm hk]
              · simp [hlt]
              · rw [Array.toList_push]
                exact hb2.append ⟨_, _, rfl, ⟨hkv, hv, rfl⟩, rfl⟩
        · trivial
      · trivial
    · trivial

theorem decodeAt_eq (s : List UInt8) (pos : Nat) : decodeAt s pos = Utf8.decode ⟨s.toArray⟩ pos := by
  unfold decodeAt
  split
  · rename_i b hb
    rw [atQ_eq] at hb
    obtain ⟨hlt, hbe⟩ := List.getElem?_eq_some_iff.1 hb
    cases h : Nat.blt b.toNat 128 with
    | false => rfl
    | true =>
      rw [blt_iff] at h
      have hsz : pos < (⟨s.toArray⟩ : ByteArray).size := by rw [ba_size]; exact hlt
      have he : (⟨s.toArray⟩ : ByteArray)[pos]'hsz = b := hbe
      have := decode_ascii ⟨s.toArray⟩ pos hsz (by rw [he]; exact h)
      rw [this, he]; rfl
  · rfl

theorem wNext_ok {ty : TypeId} {x : Opd} {cx : Value} (H : HRel ng φ h w) (hx : VRel φ (x.ev e r) cx) : WOk P ng φ h w (valued (Instr.next cx true ty)) ((wNext x).f e r h) := by
  simp only [wNext]
  split
  · rename_i i ex
    rw [ex] at hx
    obtain ⟨a, rfl, hp⟩ := hx
    split
    · rename_i s pos hg
      obtain ⟨b, p, n, hφ, hb, rfl⟩ := at_of H hg hp.notUn
      simp only [PtrOk, hφ] at hp
      subst hp
      have hnc : ∀ c t f, (Obj.stringIter ⟨s.toArray⟩ pos) ≠ .cells c t f := by intro _ _ _ h; cases h
      have hget := run_getObj_of (P := P) hb hnc
      have hlt : b < w.heap.size := (Array.getElem?_eq_some_iff.1 hb).1
      cases hc : Nat.blt pos s.length with
      | true =>
        have hc' := hc
        rw [blt_iff] at hc
        have hset := run_setObj_of (P := P) (.stringIter ⟨s.toArray⟩ (pos + (Utf8.decode ⟨s.toArray⟩ pos).2)) hb hnc
        refine ⟨_, _, φ, run_valued_ok (v := .tuple #[.bool true, .int .i64 pos, .int .i32 (decodeAt s pos).1]) (w' := { w with heap := w.heap.setIfInBounds b (.stringIter ⟨s.toArray⟩ (pos + (decodeAt s pos).2)) }) ?_, .inl ⟨_, rfl, ⟨_, rfl, _, _, rfl, rfl, _, _, rfl, rfl, _, _, rfl, rfl, rfl⟩⟩, ?_⟩
        · simp [Instr.next, hget, ba_size, hc, hset, goInt, decodeAt_eq]
        · refine step_set H hg rfl rfl hφ (o := .stringIter ⟨s.toArray⟩ (pos + (decodeAt s pos).2)) ?_ (by simp) (fun k hk => ?_) rfl rfl rfl ⟨?_, rfl⟩
          · simp [hlt]
          · simp [Array.getElem?_setIfInBounds, Ne.symm hk]
          · simp [hlt]
      | false =>
        have hn : ¬ pos < s.length := by rw [← blt_iff, hc]; simp
        refine ⟨_, w, φ, run_valued_ok (v := .tuple #[.bool false]) ?_, .inl ⟨_, rfl, ⟨_, rfl, _, _, rfl, rfl, rfl⟩⟩, H, Stp.refl _ _ _⟩
        simp [Instr.next, hget, ba_size, hn]
    · trivial
  · trivial

end
end Go.Abs
