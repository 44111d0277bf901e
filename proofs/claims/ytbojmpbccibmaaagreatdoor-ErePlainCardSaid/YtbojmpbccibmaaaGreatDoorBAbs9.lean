/- The abstract machine: operations that write nothing old: slices, conversions, lengths. -/
import Derived.Test.YtbojmpbccibmaaaGreatDoorBAbs8
import Derived.Laws.BytesString
import Derived.Laws.Externs
set_option linter.unusedVariables false
set_option linter.unusedSimpArgs false
set_option linter.unusedSectionVars false
set_option linter.deprecated false
namespace Go.Abs
variable [Val]

section
variable {P : Program} {φ : Phi} {e : Env} {r : Regs}

theorem SlOk.ptr {φ : Phi} {i o esz c : Nat} {a : Addr} (h : SlOk φ i o esz c a) (hc : 0 < c) : PtrOk φ i o a := by
  unfold SlOk at h
  unfold PtrOk
  split at h
  · exact h.elim
  · trivial
  · exact h.1 hc

/-! ### Bounds -/

/-- An operand that may lack. -/
def ORel (φ : Phi) (e : Env) (r : Regs) (x : Option Opd) (c : Option Value) : Prop :=
  match x with
  | none => c = none
  | some x => ∃ v, c = some v ∧ VRel φ (x.ev e r) v

theorem run_sliceBound {k : IntKind} {n : Int} {y : Nat} {code : BoundsCode} {m : Nat} {most : Nat} (hm : idxQ n (most + 1) = some m) (hy : most ≤ y) (w : World) :
    (Instr.sliceBound (.int k n) y code).run P w = .ok m w ∧ m ≤ most := by
  rw [idxQ_some] at hm
  obtain ⟨h0, h1, rfl⟩ := hm
  have : n ≤ (y : Int) := by omega
  constructor
  · simp [Instr.sliceBound, asIntOf, h0, this]
  · omega

theorem bound_ok {x : Option Opd} {c : Option Value} (h : ORel φ e r x c) {most dflt m : Nat} (hm : boundOf x e r most dflt = some m) :
    (c = none ∧ x = none ∧ m = dflt) ∨ ∃ k n, c = some (.int k n) ∧ x.isSome = true ∧ idxQ n (most + 1) = some m := by
  unfold boundOf at hm
  cases x with
  | none => cases hm; exact .inl ⟨h, rfl, rfl⟩
  | some x =>
    obtain ⟨v, rfl, hv⟩ := h
    simp only at hm
    split at hm
    · rename_i k n ex
      rw [ex] at hv
      simp only [VRel] at hv
      subst hv
      exact .inr ⟨k, n, rfl, rfl, hm⟩
    · cases hm

/-- The bounds of a slice: 'c' what there is, 'cap' what is known of it. -/
theorem bounds_ok {isSlice : Bool} {lo hi mx : Option Opd} {clo chi cmx : Option Value} (hlo : ORel φ e r lo clo) (hhi : ORel φ e r hi chi) (hmx : ORel φ e r mx cmx) (hneed : mx.isSome = true → hi.isSome = true)
    {len cap c m h l : Nat} (hlen : len ≤ cap) (hcap : cap ≤ c) (hm : boundOf mx e r cap cap = some m) (hh : boundOf hi e r m len = some h) (hl : boundOf lo e r h 0 = some l) (w : World) :
    ∃ m', (Instr.sliceBounds isSlice len c clo chi cmx).run P w = .ok (l, h, m') w ∧ l ≤ h ∧ h ≤ m ∧ m ≤ m' ∧ m' ≤ c ∧ m ≤ cap ∧ (mx.isSome = true → m' = m) ∧ (mx = none → m' = c ∧ m = cap) := by
  have hl' : ∀ code, (match clo with | some v => Instr.sliceBound v h code | none => pure 0 : Sem Nat).run P w = .ok l w ∧ l ≤ h := by
    intro code
    rcases bound_ok hlo hl with ⟨rfl, _, rfl⟩ | ⟨k, n, rfl, _, hi⟩
    · exact ⟨rfl, Nat.zero_le _⟩
    · exact run_sliceBound hi (Nat.le_refl _) w
  rcases bound_ok hmx hm with ⟨rfl, rfl, rfl⟩ | ⟨km, nm, rfl, hms, hmi⟩
  · have hh' : ∀ code, (match chi with | some v => Instr.sliceBound v c code | none => pure len : Sem Nat).run P w = .ok h w ∧ h ≤ m := by
      intro code
      rcases bound_ok hhi hh with ⟨rfl, _, rfl⟩ | ⟨k, n, rfl, _, hi⟩
      · exact ⟨rfl, hlen⟩
      · exact run_sliceBound hi hcap w
    refine ⟨c, ?_, (hl' .sliceB).2, (hh' .sliceB).2, hcap, Nat.le_refl _, Nat.le_refl _, by simp, fun _ => ⟨rfl, rfl⟩⟩
    have h1 := fun code => (hh' code).1
    have h2 := (hl' .sliceB).1
    cases chi <;> cases clo <;> simp_all [Instr.sliceBounds]
  · have hmb := run_sliceBound (P := P) (k := km) (code := if isSlice then .slice3Acap else .slice3Alen) hmi hcap w
    obtain ⟨hmr, hml⟩ := hmb
    have hhs := hneed hms
    rcases bound_ok hhi hh with ⟨_, rfl, _⟩ | ⟨k, n, rfl, _, hi⟩
    · cases hhs
    · have hhb := run_sliceBound (P := P) (k := k) (code := .slice3B) hi (Nat.le_refl _) w
      obtain ⟨hhr, hhl⟩ := hhb
      refine ⟨m, ?_, (hl' .slice3C).2, hhl, Nat.le_refl _, by omega, hml, fun _ => rfl, ?_⟩
      · have h2 := (hl' .slice3C).1
        cases clo <;> simp_all [Instr.sliceBounds]
      · rintro rfl; cases hms

theorem ba_extract (s : List UInt8) (l h : Nat) : (⟨s.toArray⟩ : ByteArray).extract l h = ⟨((s.take h).drop l).toArray⟩ := by
  apply ByteArray.ext
  simp [ByteArray.data_extract, List.extract, List.drop_take]

theorem allT'_get : ∀ {l : List Bool}, allT' l = true → ∀ (j : Nat) (b : Bool), l[j]? = some b → b = true
  | [], _, j, b, h => by simp at h
  | c :: l, hl, j, b, h => by
    unfold allT' at hl
    cases c with
    | false => cases hl
    | true =>
      cases j with
      | zero => simp at h; exact h
      | succ j => exact allT'_get hl j b (by simpa using h)

theorem sliceStr_run {t : TypeId} (hu : P.underlying t = some .string) (s : List UInt8) (kl kh : IntKind) {l h : Nat} (hl : l ≤ h) (hh : h ≤ s.length) (w : World) :
    (Instr.sliceAt t (.string ⟨s.toArray⟩) (some (.int kl l)) (some (.int kh h)) none).run P w = .ok (.string ⟨((s.take h).drop l).toArray⟩) w := by
  have hlo : ORel (fun _ => .un) [] .nil (some (.const (.int kl l))) (some (.int kl l)) := ⟨_, rfl, rfl⟩
  have hhi : ORel (fun _ => .un) [] .nil (some (.const (.int kh h))) (some (.int kh h)) := ⟨_, rfl, rfl⟩
  have h1 : boundOf (some (.const (.int kh h))) [] .nil s.length s.length = some h := by
    simp only [boundOf, ev_const]
    rw [idxQ_some]; omega
  have h2 : boundOf (some (.const (.int kl l))) [] .nil h 0 = some l := by
    simp only [boundOf, ev_const]
    rw [idxQ_some]; omega
  obtain ⟨m', hr, _⟩ := bounds_ok (P := P) (isSlice := false) hlo hhi (mx := none) rfl (by simp) (Nat.le_refl s.length) (Nat.le_refl s.length) rfl h1 h2 w
  simp [Instr.sliceAt, Instr.slice, run_underlying hu, ba_size, hr, ba_extract]

theorem dSliceStr_ok {t : TypeId} {x : Opd} {lo hi mx : Option Opd} {cx : Value} {clo chi cmx : Option Value} (hu : P.underlying t = some .string) (hx : VRel φ (x.ev e r) cx) (hlo : ORel φ e r lo clo) (hhi : ORel φ e r hi chi)
    (hmx : ORel φ e r mx cmx) (hn : mx.isNone = true) : DOk P φ (valued (Instr.sliceAt t cx clo chi cmx)) ((dSliceStr x lo hi).f e r) := by
  simp only [dSliceStr]
  cases mx with
  | some _ => cases hn
  | none =>
    simp only [ORel] at hmx
    subst hmx
    split
    · rename_i s ex
      rw [ex] at hx
      simp only [VRel] at hx
      subst hx
      split
      · rename_i h hh
        split
        · rename_i l hl
          refine .val_of (.string ⟨((s.take h).drop l).toArray⟩) (fun w => ?_) rfl
          obtain ⟨m', hr, h1, h2, h3, h4, _⟩ := bounds_ok (P := P) (isSlice := false) hlo hhi (mx := none) rfl (by simp) (Nat.le_refl s.length) (Nat.le_refl s.length) rfl hh hl w
          simp [Instr.sliceAt, Instr.slice, run_underlying hu, ba_size, hr, ba_extract]
        · trivial
      · split
        · rename_i lx hx2 hlx hhx
          unfold sliceSym
          split
          · rename_i kl i ls kh j hs el eh
            split
            · rename_i l0 ls' h0 hs'
              rw [T.ifB_eq, T.ifB_eq]
              split
              · rename_i hij
                rw [beq_iff] at hij
                subst hij
                split
                · rename_i hall
                  obtain ⟨vl, rfl, hvl⟩ := hlo
                  obtain ⟨vh, rfl, hvh⟩ := hhi
                  rw [el] at hvl
                  rw [eh] at hvh
                  obtain ⟨nl, hnl, rfl⟩ := hvl
                  obtain ⟨nh, hnh, rfl⟩ := hvh
                  have hw := allT'_get hall _ _ (by rw [List.getElem?_zipWith, hnl, hnh])
                  unfold widthOk at hw
                  split at hw
                  · rename_i a b ha hb
                    rw [beq_iff] at hw
                    rw [idxQ_some] at ha hb
                    obtain ⟨ha0, ha1, rfl⟩ := ha
                    obtain ⟨hb0, hb1, rfl⟩ := hb
                    have e1 : nl = ((nl.toNat : Nat) : Int) := by omega
                    have e2 : nh = ((nh.toNat : Nat) : Int) := by omega
                    refine .val_of (.string ⟨((s.take nh.toNat).drop nl.toNat).toArray⟩) (fun w => ?_) ⟨_, rfl, ?_⟩
                    · have := sliceStr_run (P := P) hu s kl kh (l := nl.toNat) (h := nh.toNat) (by omega) (by omega) w
                      rw [← e1, ← e2] at this
                      exact this
                    · refine .mk (by simp; omega) fun q a c e1 e2 => ?_
                      rw [List.getElem?_map, Option.map_eq_some_iff] at e1 e2
                      obtain ⟨q', hq', rfl⟩ := e1
                      obtain ⟨b, hb, rfl⟩ := e2
                      have hq := (List.getElem?_eq_some_iff.1 hq').1
                      rw [List.length_range] at hq
                      rw [List.getElem?_range hq] at hq'
                      cases hq'
                      refine ⟨_, by rw [List.getElem?_map, hnl]; rfl, ?_⟩
                      rw [List.getElem?_drop, List.getElem?_take, if_pos (by omega)] at hb
                      show Value.int .u8 _ = Value.int .u8 (Int.ofNat ((atQ s (nl.toNat + q)).getD 0).toNat)
                      rw [atQ_eq, hb]; rfl
                  · cases hw
                · trivial
              · trivial
            · trivial
          · trivial
        · trivial
    · rename_i p ex
      rw [ex] at hx
      obtain ⟨s, rfl, hp⟩ := hx
      have hlen := hp.length
      rw [List.length_map] at hlen
      rw [← hlen]
      split
      · rename_i h hh
        split
        · rename_i l hl
          refine .val_of (.string ⟨((s.take h).drop l).toArray⟩) (fun w => ?_) ⟨_, rfl, ?_⟩
          · obtain ⟨m', hr, h1, h2, h3, h4, _⟩ := bounds_ok (P := P) (isSlice := false) hlo hhi (mx := none) rfl (by simp) (Nat.le_refl s.length) (Nat.le_refl s.length) rfl hh hl w
            simp [Instr.sliceAt, Instr.slice, run_underlying hu, ba_size, hr, ba_extract]
          · rw [List.map_drop, List.map_take]; exact (hp.take h).drop l
        · trivial
      · trivial
    · trivial

theorem dSliceSl_ok {t el : TypeId} {sz : Nat} {x : Opd} {lo hi mx : Option Opd} {cx : Value} {clo chi cmx : Option Value} (hu : P.underlying t = some (.slice el)) (hs : sizeT P el = some sz) (hx : VRel φ (x.ev e r) cx)
    (hlo : ORel φ e r lo clo) (hhi : ORel φ e r hi chi) (hmx : ORel φ e r mx cmx) (hneed : mx.isSome = true → hi.isSome = true) : DOk P φ (valued (Instr.sliceAt t cx clo chi cmx)) ((dSliceSl sz x lo hi mx).f e r) := by
  simp only [dSliceSl]
  split
  · rename_i a esz len cap ex ea
    rw [ea] at hx
    cases hg : (Nat.beq esz sz || a.isNone) with
    | false => trivial
    | true =>
      simp only [Bool.not_true, cond_false]
      split
      · rename_i m hm
        split
        · rename_i h hh
          split
          · rename_i l hl
            cases a with
            | none =>
              obtain ⟨rfl, rfl, rfl⟩ := hx
              obtain ⟨m', hr, h1, h2, h3, h4, h5, h6, h7⟩ := bounds_ok (P := P) (isSlice := true) hlo hhi hmx hneed (Nat.le_refl 0) (Nat.le_refl 0) hm hh hl default
              have e1 : m' = 0 := by omega
              have e2 : m = 0 := by omega
              have e3 : h = 0 := by omega
              have e4 : l = 0 := by omega
              subst e1; subst e2; subst e3; subst e4
              refine .val_of (.slice none 0 0) (fun w => ?_) ⟨rfl, rfl, rfl⟩
              obtain ⟨m', hr, h1, h2, h3, h4, h5, h6, h7⟩ := bounds_ok (P := P) (isSlice := true) hlo hhi hmx hneed (Nat.le_refl 0) (Nat.le_refl 0) hm hh hl w
              have e1 : m' = 0 := by omega
              subst e1
              simp [Instr.sliceAt, Instr.slice, run_underlying hu, hr, run_sizeT hs]
            | some p =>
              obtain ⟨i, o⟩ := p
              obtain ⟨ad, c, rfl, hlc, hcc, hex, hsl⟩ := hx
              simp only [Option.isNone_some, Bool.or_false, beq_iff] at hg
              subst hg
              have hb := fun w => bounds_ok (P := P) (isSlice := true) hlo hhi hmx hneed hlc hcc hm hh hl w
              obtain ⟨m', _, h1, h2, h3, h4, h5, h6, h7⟩ := hb default
              refine .val_of (.slice (some (if m' = l then ad else ad.add (l * esz))) (h - l) (m' - l)) (fun w => ?_) ⟨_, m' - l, rfl, by omega, by omega, fun hx => ?_, ?_⟩
              · obtain ⟨m'', hr, k1, k2, k3, k4, k5, k6, k7⟩ := hb w
                have : m'' = m' := by
                  cases mx with
                  | none => rw [(k7 rfl).1, (h7 rfl).1]
                  | some _ => rw [k6 rfl, h6 rfl]
                subst this
                simp only [Instr.sliceAt, Instr.slice, Sem.run_bind, run_underlying hu, Result.andThen_ok, hr, run_sizeT hs, Sem.run_pure, Option.map_some]
                split <;> rfl
              · cases mx with
                | none =>
                  simp only [Option.isSome_none, Bool.or_false] at hx
                  have := hex hx
                  have := h7 rfl
                  omega
                | some _ => rw [h6 rfl]
              · unfold SlOk at hsl ⊢
                split at hsl
                · exact hsl.elim
                · rename_i ed; trivial
                · rename_i b p n ed
                  refine ⟨fun hpos => ?_, ?_⟩
                  · rw [if_neg (by omega), hsl.1 (by omega), add_at]; simp [Nat.add_assoc]
                  · have hmul : l * esz + (m' - l) * esz = m' * esz := by rw [← Nat.add_mul]; congr 1; omega
                    have : m' * esz ≤ c * esz := Nat.mul_le_mul_right _ h4
                    have := hsl.2
                    omega
          · trivial
        · trivial
      · trivial
  · trivial

theorem dSliceArr_ok {t el : TypeId} {n sz : Nat} {x : Opd} {lo hi mx : Option Opd} {cx : Value} {clo chi cmx : Option Value} (hu : P.underlying t = some (.array n el)) (hs : sizeT P el = some sz) (hx : VRel φ (x.ev e r) cx)
    (hlo : ORel φ e r lo clo) (hhi : ORel φ e r hi chi) (hmx : ORel φ e r mx cmx) (hn : mx.isNone = true) : DOk P φ (valued (Instr.sliceAt t cx clo chi cmx)) ((dSliceArr n sz x lo hi).f e r) := by
  simp only [dSliceArr]
  cases mx with
  | some _ => cases hn
  | none =>
    simp only [ORel] at hmx
    subst hmx
    split
    · rename_i i o ea
      rw [ea] at hx
      obtain ⟨ad, rfl, hp⟩ := hx
      split
      · rename_i h hh
        split
        · rename_i l hl
          refine ⟨hp.notUn, ?_⟩
          intro b p m vs u fz w hφ hb hsz hm cs hcs v hv
          simp only [Option.some.injEq] at hv
          subst hv
          simp only [PtrOk, hφ] at hp
          subst hp
          obtain ⟨m', hr, h1, h2, h3, h4, _, _, h7⟩ := bounds_ok (P := P) (isSlice := false) hlo hhi (mx := none) rfl (by simp) (Nat.le_refl n) (Nat.le_refl n) rfl hh hl w
          have : m' = n := (h7 rfl).1
          subst this
          refine ⟨.slice (some (if m' = l then ⟨b, p + o, none⟩ else Addr.add ⟨b, p + o, none⟩ (l * sz))) (h - l) (m' - l), run_valued_ok ?_, ⟨_, m' - l, rfl, by omega, Nat.le_refl _, fun _ => rfl, ?_⟩⟩
          · simp only [Instr.sliceAt, Instr.sureAddr, Sem.run_bind, run_underlying hu, Result.andThen_ok, hr, run_sizeT hs, Sem.run_pure]
          · simp only [SlOk, hφ]
            have hmul : l * sz + (m' - l) * sz = m' * sz := by rw [← Nat.add_mul]; congr 1; omega
            refine ⟨fun hpos => ?_, by omega⟩
            rw [if_neg (by omega), add_at]; simp [Nat.add_assoc]
        · trivial
      · trivial
    · trivial

/-! ### Conversions -/

theorem dConv_ok {s d : TypeId} {k : IntKind} {dk : TypeDesc} {x : Opd} {cx : Value} (hs : P.underlying s = some dk) (hd : P.underlying d = some (.int k)) (hx : VRel φ (x.ev e r) cx) :
    DOk P φ (valued (convert s d cx)) ((dConv k x).f e r) := by
  simp only [dConv]
  split
  · rename_i k' n ex
    rw [ex] at hx
    simp only [VRel] at hx
    subst hx
    refine .val_of (.int k (k.wrap n)) (fun w => ?_) (by simp [VRel, wrapQ_eq])
    simp [convert, run_underlying hs, run_underlying hd, Conv.intToInt]
  · rename_i k' id ns ex
    rw [ex] at hx
    obtain ⟨n, hn, rfl⟩ := hx
    refine symO_ok (o := some (wrapQ k n)) (by rw [List.getElem?_map, hn]; rfl) fun q hq w => ?_
    cases hq
    simp [convert, run_underlying hs, run_underlying hd, Conv.intToInt, wrapQ_eq]
  · trivial

theorem encode_ascii (m : Nat) (h : m < 128) : Utf8.encode (m : Int) = ⟨[UInt8.ofNat m].toArray⟩ := by
  have key : ∀ m : Nat, m < 128 → (Utf8.encode (m : Int)).data.toList = [UInt8.ofNat m] := by decide
  apply ByteArray.ext
  apply Array.toList_inj.1
  rw [key m h]

theorem dRuneToStr_ok {s d : TypeId} {k : IntKind} {x : Opd} {cx : Value} (hs : P.underlying s = some (.int k)) (hd : P.underlying d = some .string) (hx : VRel φ (x.ev e r) cx) :
    DOk P φ (valued (convert s d cx)) ((dRuneToStr x).f e r) := by
  simp only [dRuneToStr]
  split
  · rename_i k' n ex
    rw [ex] at hx
    simp only [VRel] at hx
    subst hx
    split
    · rename_i m hm
      rw [idxQ_some] at hm
      obtain ⟨h0, h1, rfl⟩ := hm
      refine .val_of (.string (Utf8.encode n)) (fun w => ?_) ?_
      · simp [convert, run_underlying hs, run_underlying hd, Conv.intToString]
      · have := encode_ascii n.toNat (by omega)
        rw [Int.toNat_of_nonneg h0] at this
        rw [this]; rfl
    · trivial
  · rename_i k' id ns ex
    rw [ex] at hx
    obtain ⟨n, hn, rfl⟩ := hx
    cases hc : ns.all fun n => (idxQ n 128).isSome with
    | false => trivial
    | true =>
      rw [List.all_eq_true] at hc
      have h1 := hc n (List.mem_of_getElem? hn)
      rw [Option.isSome_iff_exists] at h1
      obtain ⟨m, hm⟩ := h1
      rw [idxQ_some] at hm
      obtain ⟨h0, h1, rfl⟩ := hm
      refine .val_of (.string (Utf8.encode n)) (fun w => ?_) ⟨[UInt8.ofNat n.toNat], ?_, _, [], rfl, ⟨n, hn, ?_⟩, rfl⟩
      · simp [convert, run_underlying hs, run_underlying hd, Conv.intToString]
      · have := encode_ascii n.toNat (by omega)
        rw [Int.toNat_of_nonneg h0] at this
        rw [this]
      · show Value.int .u8 _ = _
        rw [UInt8.toNat_ofNat', Nat.mod_eq_of_lt (by omega)]; congr 1; omega
  · trivial

theorem foldl_push (ns : List Int) : ∀ (b : ByteArray), ns.foldl (fun r n => r.push (UInt8.ofNat n.toNat)) b = b ++ ⟨(ns.map fun n => UInt8.ofNat n.toNat).toArray⟩ := by
  induction ns with
  | nil => intro b; apply ByteArray.ext; simp
  | cons n ns ih => intro b; rw [List.foldl_cons, ih]; apply ByteArray.ext; simp

/-- Cells that are bytes. -/
theorem bytesOf_ok : ∀ (cs : List AV) (vs : List Value) (s : List UInt8), VRels φ cs vs → bytesOf cs = some s → ∃ ns : List Int, vs = ns.map (.int .u8) ∧ s = (ns.map fun n => UInt8.ofNat n.toNat) ∧ ∀ n ∈ ns, 0 ≤ n ∧ n < 256
  | [], vs, s, h, hb => by
    simp only [VRels] at h
    subst h
    simp only [bytesOf, Option.some.injEq] at hb
    exact ⟨[], rfl, hb.symm, by simp⟩
  | c :: cs, vs, s, h, hb => by
    obtain ⟨v, r, rfl, h1, h2⟩ := h
    simp only [bytesOf] at hb
    split at hb
    · rename_i k n
      simp only [VRel] at h1
      subst h1
      cases hk : kEq k .u8 with
      | false => simp [hk] at hb
      | true =>
        rw [hk, cond_true] at hb
        rw [kEq_iff] at hk
        subst hk
        split at hb
        · rename_i m hm
          rw [idxQ_some] at hm
          split at hb
          · rename_i s' hs'
            simp only [Option.some.injEq] at hb
            subst hb
            obtain ⟨ns, rfl, rfl, h3⟩ := bytesOf_ok cs r s' h2 hs'
            refine ⟨n :: ns, rfl, by rw [hm.2.2]; rfl, fun x hx => ?_⟩
            rcases List.mem_cons.1 hx with rfl | hx
            · exact ⟨hm.1, by have := hm.2.1; omega⟩
            · exact h3 x hx
          · cases hb
        · cases hb
    · cases hb

theorem sBytes_ok : ∀ (cs : List AV) (vs : List Value), VRels φ cs vs → cs.all sByte = true → ∃ ns : List Int, vs = ns.map (.int .u8) ∧ ∀ n ∈ ns, 0 ≤ n ∧ n < 256
  | [], vs, h, _ => by
    simp only [VRels] at h
    subst h
    exact ⟨[], rfl, by simp⟩
  | c :: cs, vs, h, hb => by
    obtain ⟨v, r, rfl, h1, h2⟩ := h
    simp only [List.all_cons, Bool.and_eq_true] at hb
    obtain ⟨ns, rfl, h3⟩ := sBytes_ok cs r h2 hb.2
    have hv : ∃ n, v = .int .u8 n ∧ 0 ≤ n ∧ n < 256 := by
      have hs := hb.1
      unfold sByte at hs
      split at hs
      · rename_i k n
        rw [Bool.and_eq_true, kEq_iff, Option.isSome_iff_exists] at hs
        obtain ⟨rfl, m, hm⟩ := hs
        rw [idxQ_some] at hm
        exact ⟨n, h1, hm.1, by have := hm.2.1; omega⟩
      · rename_i k id l
        rw [Bool.and_eq_true, kEq_iff, List.all_eq_true] at hs
        obtain ⟨rfl, hs⟩ := hs
        obtain ⟨n, hn, rfl⟩ := h1
        have := hs n (List.mem_of_getElem? hn)
        rw [Option.isSome_iff_exists] at this
        obtain ⟨m, hm⟩ := this
        rw [idxQ_some] at hm
        exact ⟨n, rfl, hm.1, by have := hm.2.1; omega⟩
      · cases hs
    obtain ⟨n, rfl, hn⟩ := hv
    refine ⟨n :: ns, rfl, fun x hx => ?_⟩
    rcases List.mem_cons.1 hx with rfl | hx
    · exact hn
    · exact h3 x hx

theorem bytesV_ok {cs : List AV} {vs : List Value} {v : AV} (h : VRels φ cs vs) (hb : bytesV cs = some v) : ∃ ns : List Int, vs = ns.map (.int .u8) ∧ (∀ n ∈ ns, 0 ≤ n ∧ n < 256) ∧ VRel φ v (.string ⟨(ns.map fun n : Int => UInt8.ofNat n.toNat).toArray⟩) := by
  unfold bytesV at hb
  split at hb
  · rename_i s hs
    cases hb
    obtain ⟨ns, h1, rfl, h2⟩ := bytesOf_ok cs vs s h hs
    exact ⟨ns, h1, h2, rfl⟩
  · cases hc : cs.all sByte with
    | false => rw [hc] at hb; cases hb
    | true =>
      rw [hc] at hb
      simp only [cond_true, Option.some.injEq] at hb
      subst hb
      obtain ⟨ns, rfl, h2⟩ := sBytes_ok cs vs h hc
      refine ⟨ns, rfl, h2, _, rfl, ?_⟩
      have : (ns.map fun n : Int => UInt8.ofNat n.toNat).map (fun b => Value.int .u8 b.toNat) = ns.map (Value.int .u8) := by
        rw [List.map_map]
        refine List.map_congr_left fun n hn => ?_
        have := h2 n hn
        simp only [Function.comp]
        rw [UInt8.toNat_ofNat', Nat.mod_eq_of_lt (by omega)]
        congr 1; omega
      rw [this]; exact h

theorem dBytesToStr_ok {s d el : TypeId} {x : Opd} {cx : Value} (hs : P.underlying s = some (.slice el)) (he : P.underlying el = some (.int .u8)) (hd : P.underlying d = some .string) (hx : VRel φ (x.ev e r) cx) :
    DOk P φ (valued (convert s d cx)) ((dBytesToStr x).f e r) := by
  simp only [dBytesToStr]
  split
  · rename_i esz len cap ex ea
    rw [ea] at hx
    obtain ⟨rfl, _, _⟩ := hx
    refine .val_of (.string .empty) (fun w => ?_) rfl
    simp [convert, run_underlying hs, run_underlying hd, run_underlying he, Conv.bytesToString]
  · rename_i i o esz len cap ex ea
    rw [ea] at hx
    obtain ⟨a, c, rfl, h1, h2, h3, hsl⟩ := hx
    cases he1 : Nat.beq esz 1 with
    | false => trivial
    | true =>
      refine ⟨hsl.notUn, ?_⟩
      intro b p m vs u fz w hφ hb hsz hm cs hcs v hv
      obtain ⟨ns, hns, _, hvr⟩ := bytesV_ok hcs hv
      refine ⟨.string ⟨(ns.map fun n : Int => UInt8.ofNat n.toNat).toArray⟩, run_valued_ok ?_, hvr⟩
      have hload : (loadCells a len).run P w = .ok (ns.map (Value.int .u8)).toArray w := by
        rw [← hns]
        rcases Nat.eq_zero_or_pos len with hz | hz
        · subst hz
          simp [loadCells, loadCellsFrom]
        · have := hsl.ptr (show 0 < c by omega)
          simp only [PtrOk, hφ] at this
          subst this
          rw [run_loads P hb len hsz]
      simp only [convert, Sem.run_bind, run_underlying hs, run_underlying hd, run_underlying he, Result.andThen_ok]
      rw [run_bytesToString w a len c ns hload, foldl_push]
      congr 2
  · trivial

theorem dLenStr_ok {t ty : TypeId} {ts : Array TypeId} {x : Opd} {cx : Value} (ht : ts[0]? = some t) (hu : P.underlying t = some .string) (hx : VRel φ (x.ev e r) cx) :
    DOk P φ (valued (Builtin.len_ ts ty #[cx])) ((dLenStr x).f e r) := by
  simp only [dLenStr]
  split
  · rename_i s ex
    rw [ex] at hx
    simp only [VRel] at hx
    subst hx
    refine .val_of (.int .i64 s.length) (fun w => ?_) rfl
    simp [Builtin.len_, ht, run_underlying hu, goInt, ba_size]
  · rename_i l ex
    rw [ex] at hx
    obtain ⟨s, rfl, hl⟩ := hx
    have := hl.length
    rw [List.length_map] at this
    rw [← this]
    refine .val_of (.int .i64 s.length) (fun w => ?_) rfl
    simp [Builtin.len_, ht, run_underlying hu, goInt, ba_size]
  · trivial

theorem dLenSl_ok {t ty el : TypeId} {ts : Array TypeId} {x : Opd} {cx : Value} (ht : ts[0]? = some t) (hu : P.underlying t = some (.slice el)) (hx : VRel φ (x.ev e r) cx) :
    DOk P φ (valued (Builtin.len_ ts ty #[cx])) ((dLenSl x).f e r) := by
  simp only [dLenSl]
  split
  · rename_i a esz n cap exx ex
    rw [ex] at hx
    refine .val_of (.int .i64 n) (fun w => ?_) rfl
    cases a with
    | none => obtain ⟨rfl, rfl, rfl⟩ := hx; simp [Builtin.len_, ht, run_underlying hu, goInt]
    | some p => obtain ⟨i, o⟩ := p; obtain ⟨a, c, rfl, _⟩ := hx; simp [Builtin.len_, ht, run_underlying hu, goInt]
  · trivial

end
end Go.Abs
