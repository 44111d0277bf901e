/- The abstract machine: regions that draw their order do what the one run tells; so the runner is sound. -/
import Derived.Test.YtbojmpbccibmaaaGreatDoorBAbs29
set_option linter.unusedVariables false
set_option linter.unusedSimpArgs false
set_option linter.unusedSectionVars false
set_option linter.deprecated false
namespace Go.Abs
variable [Val]

theorem val_junkAll : ∀ (l : List Nat) (r : Regs) (t : Nat), Regs.val (junkAll l r) t = .junk ∨ (t ∉ l ∧ Regs.val (junkAll l r) t = r.val t)
  | [], r, t => .inr ⟨by simp, rfl⟩
  | d :: l, r, t => by
    simp only [junkAll]
    rcases val_junkAll l (T.put r d (some .junk)) t with h | ⟨h1, h2⟩
    · exact .inl h
    · rw [val_put] at h2
      by_cases hd : t = d
      · rw [if_pos hd] at h2; exact .inl h2
      · rw [if_neg hd] at h2; exact .inr ⟨by simp [hd, h1], h2⟩

theorem mem_bindsOf {o : Oper} {j : Nat} : j ∈ bindsOf o ↔ ∃ e ∈ o.after, Region.binds .any e = true ∧ e.on = j := by
  unfold bindsOf
  simp only [List.mem_map, List.mem_filter, Array.mem_toList_iff]
  constructor
  · rintro ⟨e, ⟨h1, h2⟩, h3⟩; exact ⟨e, h1, h2, h3⟩
  · rintro ⟨e, h1, h2, h3⟩; exact ⟨e, ⟨h1, h2⟩, h3⟩

section
variable {P : Program} {ng : Nat} {F : Frm} {ops : Array Oper} {R : Runner} {anc : List (List Nat)} {items : List DItem} {d : Nat → Option Nat} {s0 : St} {x : AEx} {s' : St} {n : Nat} {S : Nat → St} {v : Nat → AV} {L : List Look} {HS : List AHeap}
variable {φ₀ : Phi} {w₀ : World} {a₀ : Act} {Q : Exit → Act → World → Prop}

/-- Where an operation isn't listed yet, one is ready. -/
theorem DS.ready (D : DS P F ops R anc items d s0 x s' n S v L HS) {listed : Array Bool} (hsz : listed.size = ops.size) (hn : Region.ready .any ops listed = []) :
    ∀ (p : Nat) (it : DItem), items[p]? = some it → listed.getD it.1 false = true := by
  intro p
  induction p using Nat.strongRecOn with
  | ind p ih =>
    intro it hit
    cases hl : listed.getD it.1 false with
    | true => rfl
    | false =>
      exfalso
      obtain ⟨o, ho, _, _⟩ := D.it p it hit
      have hlt := (Array.getElem?_eq_some_iff.1 ho).1
      have hmem : it.1 ∈ Region.ready .any ops listed := by
        rw [mem_ready]
        refine ⟨?_, o, ho, fun e he hb => ?_⟩
        · rw [Array.getD_eq_getD_getElem?] at hl ⊢
          rw [Array.getElem?_eq_getElem (by omega)] at hl ⊢
          exact hl
        · obtain ⟨q, iq, hq, hiq, hq2⟩ := D.ahead hit ((checkAnc_spec D.hA ho).1 e.on (mem_bindsOf.2 ⟨e, he, hb, rfl⟩)).1
          rw [← hq2]
          exact ih q hq iq hiq
      rw [hn] at hmem; cases hmem

theorem any_ok (hP : P.globals.size = ng) (hR : CallOk P ng R) (D : DS P F ops R anc items d s0 x s' n S v L HS) (hsz : F.ntmps ≤ a₀.tmps.size) (hs : ∀ t, VRel φ₀ (s0.regs.val t) (a₀.tmps.getD t undef))
    (hfin : ∀ (X : Nat → Prop) φ a w, Inv0 ng ops items d s0 n S v φ₀ w₀ a₀ n X φ a w → (∀ (p : Nat) (it : DItem), items[p]? = some it → X it.1) → n = items.length → x = .normal → s' = S n → Q .normal a w)
    (hout : ∀ (X : Nat → Prop) φ a w φ' ex w', Inv0 ng ops items d s0 n S v φ₀ w₀ a₀ n X φ a w → HRel ng φ' s'.heap w' → Stp φ₀ s0.heap w₀ φ' s'.heap w' → ExRel φ' x ex → s'.regs = (S n).regs → DRels φ' s'.defers a.defers → x ≠ .normal → Q ex a w') :
    ∀ (fuel : Nat) (listed : Array Bool) (m : Nat) (φ : Phi) (a : Act) (w : World), listed.size = ops.size → ((List.range ops.size).filter fun i => !listed.getD i true).length ≤ fuel →
      Inv0 ng ops items d s0 n S v φ₀ w₀ a₀ m (fun i => listed.getD i false = true) φ a w → (∀ it, items[m]? = some it → isW it.2.1 = true) → wpAny P .any ops Q fuel listed a w := by
  intro fuel
  have done : ∀ (listed : Array Bool) (m : Nat) (φ : Phi) (a : Act) (w : World), listed.size = ops.size → Inv0 ng ops items d s0 n S v φ₀ w₀ a₀ m (fun i => listed.getD i false = true) φ a w → (∀ it, items[m]? = some it → isW it.2.1 = true) →
      Region.ready .any ops listed = [] → Q .normal a w := by
    intro listed m φ a w hl h hW hr
    have hall := D.ready hl hr
    have hle := D.tr.le
    rw [List.length_map] at hle
    have hml : items.length ≤ m := by
      rcases Nat.lt_or_ge m items.length with hlt | hge
      · have hit := List.getElem?_eq_getElem hlt
        have := h.xlt m _ hit (hall m _ hit)
        omega
      · exact hge
    have hmn := h.le
    have hnl : n = items.length := by omega
    have hmn' : m = n := by omega
    subst hmn'
    rcases D.tr.fin with ⟨_, h2, h3⟩ | ⟨it, h1, _, _⟩
    · exact hfin _ φ a w h hall hnl h2 h3
    · rw [List.getElem?_eq_none (by rw [List.length_map]; omega)] at h1; cases h1
  induction fuel with
  | zero =>
    intro listed m φ a w hl hf h hW
    have hr : Region.ready .any ops listed = [] := by
      cases hr : Region.ready .any ops listed with
      | nil => rfl
      | cons i r =>
        exfalso
        have hi : i ∈ Region.ready .any ops listed := by rw [hr]; simp
        obtain ⟨h1, o, ho, _⟩ := mem_ready.1 hi
        have hmem : i ∈ (List.range ops.size).filter fun i => !listed.getD i true := List.mem_filter.2 ⟨List.mem_range.2 (Array.getElem?_eq_some_iff.1 ho).1, by rw [h1]; rfl⟩
        have hpos := List.length_pos_of_mem hmem
        omega
    exact ⟨hr, done listed m φ a w hl h hW hr⟩
  | succ fuel ih =>
    intro listed m φ a w hl hf h hW
    refine ⟨done listed m φ a w hl h hW, fun i hi => ?_⟩
    obtain ⟨hun, o, ho, hb⟩ := mem_ready.1 hi
    have hlt := (Array.getElem?_eq_some_iff.1 ho).1
    obtain ⟨p, it, hit, rfl⟩ := D.all hlt
    have hX : ¬ listed.getD it.1 false = true := by
      rw [Array.getD_eq_getD_getElem?] at hun ⊢
      rw [Array.getElem?_eq_getElem (by omega)] at hun ⊢
      simp only [Option.getD_some] at hun ⊢
      rw [hun]; simp
    have hr : ∀ j ∈ bindsOf o, listed.getD j false = true := by
      intro j hj
      obtain ⟨e, he, hbe, rfl⟩ := mem_bindsOf.1 hj
      exact hb e he hbe
    have hset : (fun i => (listed.setIfInBounds it.1 true).getD i false = true) = fun i => listed.getD i false = true ∨ i = it.1 := by
      funext i
      by_cases hij : it.1 = i
      · subst hij
        simp only [eq_iff_iff]
        refine ⟨fun _ => .inr trivial, fun _ => ?_⟩
        rw [Array.getD_eq_getD_getElem?, Array.getElem?_setIfInBounds_self_of_lt (by omega)]; rfl
      · rw [getD_set_ne false hij]
        simp only [eq_iff_iff]
        exact ⟨fun h => .inl h, fun h => h.resolve_right (fun e => hij e.symm)⟩
    have hl' : (listed.setIfInBounds it.1 true).size = ops.size := by simpa using hl
    have hf' : ((List.range ops.size).filter fun i => !(listed.setIfInBounds it.1 true).getD i true).length ≤ fuel := by
      have h1 : ((List.range ops.size).filter fun i => !(listed.setIfInBounds it.1 true).getD i true) = ((List.range ops.size).filter fun i => !listed.getD i true).filter fun i => i != it.1 := by
        rw [List.filter_filter]
        apply List.filter_congr
        intro j hj
        by_cases hij : it.1 = j
        · subst hij
          rw [Array.getD_eq_getD_getElem?, Array.getElem?_setIfInBounds_self_of_lt (by omega)]; simp
        · rw [getD_set_ne true hij]
          have : (j != it.1) = true := by simpa using fun e => hij e.symm
          rw [this]; simp
      have h2 : (((List.range ops.size).filter fun i => !listed.getD i true).filter fun i => i != it.1).length < ((List.range ops.size).filter fun i => !listed.getD i true).length := by
        rw [List.length_filter_lt_length_iff_exists]
        exact ⟨it.1, List.mem_filter.2 ⟨List.mem_range.2 hlt, by rw [hun]; rfl⟩, by simp⟩
      rw [h1]; omega
    cases hw : isW it.2.1 with
    | false =>
      refine h.stepD hP D hsz hs hW hit ho hw hX hr fun φ' a' w' h' => ?_
      rw [← hset] at h'
      exact ih _ m φ' a' w' hl' hf' h' hW
    | true =>
      have hpm : p = m := by
        rcases Nat.lt_trichotomy p m with hlt' | heq | hgt
        · exact absurd (h.xw p it hlt' hit hw) hX
        · exact heq
        · have hlen := (List.getElem?_eq_some_iff.1 hit).1
          have him : items[m]? = some items[m] := List.getElem?_eq_getElem (by omega)
          have h1 := D.W_in h.closed p it hit (D.anc_in h.closed p it o hit ho hr) m _ him hgt (hW _ him)
          have := h.xlt m _ him h1
          omega
      subst hpm
      refine h.stepW hP hR D hsz hs hit ho hw hr (fun φ' a' w' h' => ?_) (fun φ' ex w' h1 h2 h3 h4 h5 h6 h7 => ?_)
      · obtain ⟨m', h'', hW'⟩ := Inv0.adv D φ₀ w₀ a₀ _ φ' a' w' _ _ (Nat.le_refl _) h'
        rw [← hset] at h''
        exact ih _ m' φ' a' w' hl' hf' h'' hW'
      · subst h6
        exact hout _ φ a w φ' ex w' h h1 h2 h3 h4 h5 h7

end

theorem draw_ok {P : Program} {ng : Nat} {R : Runner} (hm : P.follows .mixedOrders = true) (hP : P.globals.size = ng) (hR : CallOk P ng R) : DrawOk P ng R := by
  intro F ops id A x s s' hA hr B φ a cs w h
  obtain ⟨anc, items, d, rfl, hit, hA, hAp, hO, hW, hH⟩ := cDraw_spec hA
  simp only [codeFn] at hr
  cases hrun : (drawFn (items.map (·.2))).run R [] ⟨s.regs, s.heap, s.defers, none⟩ [] 0 [] with
  | none => rw [hrun] at hr; cases hr
  | some q =>
    obtain ⟨x1, s1⟩ := q
    obtain ⟨n, S, v, L, HS, ht, _, _⟩ := trace R _ _ _ _ _ _ _ _ hrun
    have D : DS P F ops R anc items d ⟨s.regs, s.heap, s.defers, none⟩ x1 s1 n S v L HS := ⟨hit, hA, hAp, hO, hW, hH, ht, rfl⟩
    have hs : ∀ t, VRel φ (s.regs.val t) (a.tmps.getD t undef) := fun t => by simpa [locOf] using h.ctx t
    have hs' : ∀ t, VRel φ ((⟨s.regs, s.heap, s.defers, none⟩ : St).regs.val t) (a.tmps.getD t undef) := hs
    -- places that an operation of the region keeps
    have hdst : ∀ p it, items[p]? = some it → ∀ t, d p = some t → t ∈ ops.toList.filterMap (·.dst) := by
      intro p it hp t ht
      obtain ⟨o, ho, hdo, _⟩ := hit p it hp
      exact List.mem_filterMap.2 ⟨o, by rw [Array.mem_toList_iff]; exact Array.mem_of_getElem? ho, by rw [← hdo]; exact ht⟩
    refine wpG_of_wp (wp_region_any hm ?_)
    obtain ⟨m, h0, hW0⟩ := Inv0.adv (ng := ng) D φ w a (fun i => (Array.replicate ops.size false).getD i false = true) φ a { w with drawn := w.drawn + 1 } n 0 (by omega)
      { le := Nat.zero_le _
        xlt := fun p it hp hx => by simp [Array.getElem?_replicate] at hx; split at hx <;> simp at hx
        xw := fun p it hp => by omega
        closed := fun i o ho hx => by simp [Array.getElem?_replicate] at hx; split at hx <;> simp at hx
        heap := by rw [ht.zero]; exact h.heap.heap_eq rfl
        stp := by rw [ht.zero]; exact Stp.heap_eq rfl rfl rfl rfl
        vals := fun p it hp hx => by simp [Array.getElem?_replicate] at hx; split at hx <;> simp at hx
        rest := fun t _ => rfl
        virt := fun p it hp => by omega
        nexts := fun p q hpq hq => by
          have h1 : p = 0 := by omega
          have h2 : q = 0 := by omega
          subst h1; subst h2; exact Nat.le_refl _
        defers := by rw [ht.zero]; exact h.defers
        size := rfl }
    refine any_ok hP hR D h.size hs' ?_ ?_ ops.size _ m φ a _ (by simp) ?_ h0 hW0
    · -- at its end
      intro X φ' a' w' hi hall hnl hx hs1
      subst hx
      rw [hrun] at hr
      simp only [Option.some.injEq, Prod.mk.injEq] at hr
      obtain ⟨rfl, rfl⟩ := hr
      subst hs1
      refine ⟨φ', ⟨hi.heap, fun t => ?_, fun t k hk => by simp [locOf] at hk, fun t hl => ?_, by rw [hi.size]; exact h.size, hi.defers, h.below.mono hi.stp.ext⟩, hi.stp, trivial, rfl⟩
      · simp only [locOf]
        obtain ⟨r1, r2, r3⟩ := D.regs n (Nat.le_refl _) t
        cases hl : isLive F.np F.live t with
        | false => rw [r2 hl]; rw [h.live t hl]; trivial
        | true =>
          by_cases hq : ∃ q, q < n ∧ d q = some t
          · obtain ⟨q, hq1, hq2⟩ := hq
            rw [r3 q hq1 hq2 hl]
            obtain ⟨iq, hiq⟩ := D.get hq1
            exact hi.vals q iq hiq (hall q iq hiq) t hq2
          · rw [r1 fun q hq1 hq2 => hq ⟨q, hq1, hq2⟩]
            rw [hi.rest t fun q iq hiq _ hq2 => hq ⟨q, by rw [hnl]; exact (List.getElem?_eq_some_iff.1 hiq).1, hq2⟩]
            exact (hs t).mono hi.stp.ext
      · rw [(D.regs n (Nat.le_refl _) t).2.1 hl]
        exact h.live t hl
    · -- where it leaves
      intro X φ1 a' w1 φ' ex w' hi hh hst hex hregs hdf hx
      rw [hrun] at hr
      have hr' : x = x1 ∧ s' = ⟨junkAll ((ops.toList.filterMap (·.dst)).filter (isLive F.np F.live)) s1.regs, s1.heap, s1.defers, s.below⟩ := by
        cases x1 <;> first | exact absurd rfl hx | (simp only [Option.some.injEq, Prod.mk.injEq] at hr; exact ⟨hr.1.symm, hr.2.symm⟩)
      obtain ⟨rfl, rfl⟩ := hr'
      have hval : ∀ t, isLive F.np F.live t = false → Regs.val (junkAll ((ops.toList.filterMap (·.dst)).filter (isLive F.np F.live)) s1.regs) t = .junk := by
        intro t hl
        rcases val_junkAll ((ops.toList.filterMap (·.dst)).filter (isLive F.np F.live)) s1.regs t with h1 | ⟨h1, h2⟩
        · exact h1
        · rw [h2, hregs, (D.regs n (Nat.le_refl _) t).2.1 hl]
          exact h.live t hl
      refine ⟨φ', ⟨hh, fun t => ?_, fun t k hk => by simp [locOf] at hk, fun t hl => hval t hl, by rw [hi.size]; exact h.size, hdf, h.below.mono hst.ext⟩, hst, hex, rfl⟩
      simp only [locOf]
      cases hl : isLive F.np F.live t with
      | false => rw [hval t hl]; trivial
      | true =>
        rcases val_junkAll ((ops.toList.filterMap (·.dst)).filter (isLive F.np F.live)) s1.regs t with h1 | ⟨h1, h2⟩
        · rw [h1]; trivial
        · have hno : ∀ p it, items[p]? = some it → d p ≠ some t := fun p it hp hdp => h1 (List.mem_filter.2 ⟨hdst p it hp t hdp, hl⟩)
          rw [h2, hregs, (D.regs n (Nat.le_refl _) t).1 fun q hq => by
            obtain ⟨iq, hiq⟩ := D.get hq
            exact hno q iq hiq]
          rw [hi.rest t fun q iq hiq _ => hno q iq hiq]
          exact (hs t).mono hst.ext
    · exact Nat.le_trans (List.length_filter_le _ _) (by simp)

/-- The runner is sound. -/
theorem runner_sound {P : Program} {ng : Nat} (hm : P.follows .mixedOrders = true) (hP : P.globals.size = ng) {live : FuncId → List Nat} {O : Oracle} (hO : OracleOk P ng O) (n : Nat) : CallOk P ng (runner (progOf P live O) n) :=
  (runner_ok hP hO (fun R hR => draw_ok hm hP hR) n).1

end Go.Abs
