/- Many commands, and a long remark: the law, for every two numbers. -/
import Derived.Test.YtbojmpbccibmaaaGreatDoorDSM6
set_option linter.unusedVariables false
set_option linter.unusedSimpArgs false
set_option linter.unusedSectionVars false
set_option linter.deprecated false
set_option maxRecDepth 100000
namespace Go.Proofs.YtbojmpbccibmaaaGreatDoor
open Go Go.Abs

@[reducible] def nmO (F : Fct) (a b i K : Int) (h : leOk (numL [0, a, b, a % 20, b % 20, i, 2 * i, K]) F.le) (h' : remOk (numL [0, a, b, a % 20, b % 20, i, 2 * i, K]) F.rem) : Names :=
  namesL F [0, a, b, a % 20, b % 20, i, 2 * i, K] cellM rfl h h'

section
variable {a b : Int} (a0 : 0 ≤ a) (a1 : a ≤ 255) (b0' : 0 ≤ b) (b1 : b ≤ 255)
include a0 a1 b0' b1
theorem numsO {i K : Int} (i0 : 0 ≤ i) (i1 : i ≤ 209) (k0 : 0 ≤ K) (k1 : K ≤ 4009) : leOk (numL [0, a, b, a % 20, b % 20, i, 2 * i, K]) lesO :=
  ⟨show (0 : Int) + 0 ≤ a by omega, show a + (-255) ≤ (0 : Int) by omega, show (0 : Int) + 0 ≤ b by omega, show b + (-255) ≤ (0 : Int) by omega, show (0 : Int) + 0 ≤ a % 20 by omega, show a % 20 + (-19) ≤ (0 : Int) by omega,
    show (0 : Int) + 0 ≤ b % 20 by omega, show b % 20 + (-19) ≤ (0 : Int) by omega, show (0 : Int) + 0 ≤ i by omega, show i + (-209) ≤ (0 : Int) by omega, show (0 : Int) + 0 ≤ 2 * i by omega, show 2 * i + (-418) ≤ (0 : Int) by omega,
    show (0 : Int) + 0 ≤ K by omega, show K + (-4009) ≤ (0 : Int) by omega, trivial⟩
theorem remsOk {i K : Int} : remOk (numL [0, a, b, a % 20, b % 20, i, 2 * i, K]) remsO :=
  ⟨⟨a0, by decide, rfl⟩, ⟨b0', by decide, rfl⟩, trivial⟩
end

section
variable {F G : Fct} {a b i K : Int}
theorem eO_ok {h h' k k'} : EqOk (nmO F a b i K h h') (nmO G a b i K k k') eO :=
  eqOk_of ⟨rfl, rfl, rfl, rfl, rfl, rfl, rfl, trivial⟩
theorem eOf_ok {h h' k k'} : EqOk (nmO F a b 0 K h h') (nmO G a b 1 K k k') eOf :=
  eqOk_of ⟨show (0 : Int) + 1 = 1 + 0 from rfl, show (0 : Int) + 2 = 2 * 1 + 0 from rfl, rfl, rfl, rfl, trivial⟩
theorem eOu_ok {h h' k k'} : EqOk (nmO F a b i K h h') (nmO G a b (i + 1) K k k') eOu :=
  eqOk_of ⟨show i + 1 = (i + 1) + 0 by omega, show 2 * i + 2 = 2 * (i + 1) + 0 by omega, rfl, rfl, rfl, trivial⟩
theorem eOm_ok {h h' k k'} : EqOk (nmO F a b i 0 h h') (nmO G a b i 1 k k') eOm :=
  eqOk_of ⟨show (0 : Int) + 1 = 1 + 0 from rfl, rfl, rfl, rfl, rfl, rfl, trivial⟩
theorem eOv_ok {h h' k k'} : EqOk (nmO F a b i K h h') (nmO G a b i (K + 1) k k') eOv :=
  eqOk_of ⟨show K + 1 = (K + 1) + 0 by omega, rfl, rfl, rfl, rfl, rfl, trivial⟩

theorem spFirst {m : Nat} {ρ : Nat → Nat} {h h' k k'} : BlkTo (nmO F a b 0 K h h') (nmO G a b 1 K k k') m ρ (.cells 2 (putsV P2 .nil 0) 43 false) rowL := by
  refine cells_row (k := 2) (by decide) rfl (show 2 * (1 : Int) + 0 = ((2 : Nat) : Int) from rfl) fun j q hj hq φ v hv => ?_
  have hq0 : q = 0 := by omega
  subst hq0
  match j, hj, hv with
  | 0, _, hv => exact hv
  | 1, _, hv => exact hv
  | j + 2, hj, _ => omega
theorem spRound {m : Nat} {ρ : Nat → Nat} {h h' k k'} (hi : 0 ≤ i) : BlkTo (nmO F a b i K h h') (nmO G a b (i + 1) K k k') m ρ (.row 1 1 6 0 [(6, 0, P2)] 43 false) rowL := by
  refine row_fold (m := 2) (id := 6) (off := 0) (by decide) (List.mem_singleton.2 rfl) (show 0 ≤ 2 * i + 0 by omega) rfl rfl (show 2 * (i + 1) + 0 = 2 * i + 0 + ((2 : Nat) : Int) by omega) (fun _ _ _ _ h => h) fun q r x hq hr hx φ v hv => ?_
  have hr0 : r = 0 := by omega
  subst hr0
  have e : ((nmO F a b i K h h').val.num 6 + 0).toNat = 2 * i.toNat := by
    show (2 * i + 0).toNat = _
    omega
  rw [e]
  match q, hq, hx with
  | 0, _, hx =>
    cases hx
    show v = .int .i32 (if (2 * i.toNat + 0) % 2 = 0 then 112 else 10)
    rw [if_pos (by omega)]; exact hv
  | 1, _, hx =>
    cases hx
    show v = .int .i32 (if (2 * i.toNat + 1) % 2 = 0 then 112 else 10)
    rw [if_neg (by omega)]; exact hv
  | q + 2, hq, _ => omega
theorem spM {m : Nat} {ρ : Nat → Nat} {h h' k k'} : BlkTo (nmO F a b i 0 h h') (nmO G a b i 1 k k') m ρ (one (.int .i32 35) 43) rowM := by
  refine cells_row (k := 1) (by decide) rfl (show (1 : Int) + 0 = ((1 : Nat) : Int) from rfl) fun j q hj hq φ v hv => ?_
  have hq0 : q = 0 := by omega
  have hj0 : j = 0 := by omega
  subst hq0; subst hj0
  exact hv
theorem spMr {m : Nat} {ρ : Nat → Nat} {h h' k k'} (hK : 1 ≤ K) : BlkTo (nmO F a b i K h h') (nmO G a b i (K + 1) k k') m ρ (.row 2 1 7 0 [(7, 0, X1)] 43 false) rowM := by
  refine row_fold (m := 1) (id := 7) (off := 0) (by decide) (List.mem_singleton.2 rfl) (show 0 ≤ K + 0 by omega) rfl rfl (show (K + 1) + 0 = K + 0 + ((1 : Nat) : Int) by omega) (fun _ _ _ _ h => h) fun q r x hq hr hx φ v hv => ?_
  have hr0 : r = 0 := by omega
  have hq0 : q = 0 := by omega
  subst hr0; subst hq0
  cases hx
  have e : ((nmO F a b i K h h').val.num 7 + 0).toNat = K.toNat := by
    show (K + 0).toNat = _
    omega
  rw [e]
  show v = .int .i32 (if K.toNat + 0 = 0 then 35 else 120)
  rw [if_neg (by omega)]; exact hv
end

abbrev Sem17 := Sem3 Tryz.prog Tryz.prog.globals.size F17 20

theorem piece17 {N N2 : Names} {f : Fct} {c : Code} {s : St} {xk : AEx} {n : Nat} {regs : List (Nat × AV)} {blocks : XBlocks} {df : List ADef} {l : List (Nat × Nat)} {E : Eqs} {K : List Nat} {sp : Abs.Spec} {ts : List Nat}
    (hf : N.fct = f) (h : pieceB (@RR f O0 2000) (@cCode f Tryz.prog F17 c) s xk 20 n regs blocks df l E K sp ts = true)
    (hE : EqOk N N2 E) (hK : ∀ nm ∈ K, N2.val.cell nm = N.val.cell nm) (hsp : ∀ i b0, specOf sp i = some b0 → ∀ b, (i, b) ∈ blocks → BlkTo N N2 n (rhoL l) b0 b) : Sem17 N c s fun N1 x s1 => x = xk ∧ N1 = N2 ∧ s1 = stX n regs blocks df := by
  subst hf
  exact Sem3.piece rfl (run0 N 2000) hng0 h hE hK hsp ⟨rfl, rfl, rfl⟩

theorem mem30C : ∀ b, (30, b) ∈ bkC → b = rowL := by
  intro b hb
  simp only [bkC, b0, List.mem_cons, List.not_mem_nil, or_false, Prod.mk.injEq] at hb
  rcases hb with h | h
  · omega
  · exact h.2
theorem mem31F : ∀ b, (31, b) ∈ bkF → b = rowM := by
  intro b hb
  simp only [bkF, b0, List.mem_cons, List.not_mem_nil, or_false, Prod.mk.injEq] at hb
  rcases hb with h | h | h
  · omega
  · omega
  · exact h.2

section
variable {a b : Int}
theorem semFirst {K : Int} {k k'} (h h') : Sem17 (nmO fO a b 0 K k k') bodyA stB fun N1 x s1 => x = .normal ∧ N1 = nmO fO a b 1 K h h' ∧ s1 = stC :=
  piece17 (N := nmO fO a b 0 K k k') (N2 := nmO fO a b 1 K h h') rfl runsOk_firstA eOf_ok (fun _ h => by cases h) (spec_one mem30C spFirst)
theorem semRound {i K : Int} {k k'} (h h') (hi : 0 ≤ i) : Sem17 (nmO fOr a b i K k k') bodyA stC fun N1 x s1 => x = .normal ∧ N1 = nmO fO a b (i + 1) K h h' ∧ s1 = stC :=
  piece17 (N := nmO fOr a b i K k k') (N2 := nmO fO a b (i + 1) K h h') rfl runsOk_roundA eOu_ok (fun _ h => by cases h) (spec_one mem30C (spRound hi))
theorem semExit {i K : Int} {k k'} (h h') : Sem17 (nmO fOe a b i K k k') bodyA stC fun N1 x s1 => x = .exit 0 ∧ N1 = nmO fO a b i K h h' ∧ s1 = stD :=
  piece17 (N := nmO fOe a b i K k k') (N2 := nmO fO a b i K h h') rfl runsOk_exitA eO_ok (fun _ _ => rfl) spec_nil
theorem semRoundB {i K : Int} {k k'} (h h') (hK : 1 ≤ K) : Sem17 (nmO fOm a b i K k k') bodyB stF fun N1 x s1 => x = .normal ∧ N1 = nmO fO a b i (K + 1) h h' ∧ s1 = stF :=
  piece17 (N := nmO fOm a b i K k k') (N2 := nmO fO a b i (K + 1) h h') rfl runsOk_roundB eOv_ok (fun _ _ => rfl) (spec_one mem31F (spMr hK))
theorem reC {G : Fct} {i K : Int} {k k' h h'} : Redesc Tryz.prog.globals.size 20 (nmO fO a b i K k k') stC (nmO G a b i K h h') stC :=
  (reX_ok (N1 := nmO fO a b i K k k') (N2 := nmO G a b i K h h') (n0 := 20) (n := 32) (regs := regsC) (blocks := bkC) (df := []) (l := []) (E := eO) (K := [1]) (sp := []) (ts := []) (s := stC) eO_ok (fun _ _ => rfl) spec_nil runsOk_idC).redesc hng0
theorem reF {G : Fct} {i K : Int} {k k' h h'} : Redesc Tryz.prog.globals.size 20 (nmO fO a b i K k k') stF (nmO G a b i K h h') stF :=
  (reX_ok (N1 := nmO fO a b i K k k') (N2 := nmO G a b i K h h') (n0 := 20) (n := 32) (regs := regsF) (blocks := bkF) (df := []) (l := []) (E := eO) (K := [1, 2]) (sp := []) (ts := []) (s := stF) eO_ok (fun _ _ => rfl) spec_nil runsOk_idF).redesc hng0
end

theorem finD_ok {p q : Bool} {f : Fct} (h : finD p q f = true) : ∃ x s1, (codeFn (@cCode f Tryz.prog F17 bodyB)).run (@RR f O0 2000) stF = some (x, s1) ∧ x ≠ .normal ∧
    ∃ x' s' hh, @after f Tryz.prog F17 (@RR f (OP p q) 2000) [1, 0, 0] D17 x s1 = some (x', s') ∧ endOf (@RR f (OP p q) 2000) as17 x' s' = some (.returned (.bool true), hh) := by
  unfold finD at h
  split at h
  · cases h
  · rename_i x s1 hne hr
    split at h
    · rename_i x' s' ha
      split at h
      · rename_i hh he
        exact ⟨x, s1, hr, hne, x', s', hh, ha, he⟩
      · cases h
    · cases h
  · cases h

def QT (N1 : Names) (en : AEnd) (_ : AHeap) : Prop := en = .returned (.bool true)
def QB : QSet := fun N1 x s => ∃ R en h1, RunOk Tryz.prog Tryz.prog.globals.size N1 R ∧ endOf R as17 x s = some (en, h1) ∧ QT N1 en h1
def QAD : QSet := After Tryz.prog Tryz.prog.globals.size F17 [1, 0, 0] D17 QB

theorem runP {N : Names} {p q : Bool} (hO : @OracleOk N.fct N.val Tryz.prog Tryz.prog.globals.size (OP p q)) : RunOk Tryz.prog Tryz.prog.globals.size N (@RR N.fct (OP p q) 2000) := runOk_of hm hO 2000

theorem finD_sem {N : Names} {p q : Bool} {f : Fct} (hf : N.fct = f) (h : finD p q f = true) (hO : @OracleOk N.fct N.val Tryz.prog Tryz.prog.globals.size (OP p q)) {Q1 : QSet} :
    Sem17 N bodyB stF fun N1 x s1 => (x = .normal ∧ Q1 N1 x s1) ∨ (x ≠ .normal ∧ QAD N1 x s1) := by
  subst hf
  obtain ⟨x, s1, hr, hx, x', s', hh, ha, he⟩ := finD_ok h
  exact Sem3.run rfl (run0 N 2000) hr (.inr ⟨hx, _, runP hO, x', s', ha, _, _, _, runP hO, he, rfl⟩)

/-- The row of a remark. -/
theorem rem_row {N N0 : Names} {cid : Nat} {coff : Int} {segs : List (Nat × Int × List AV)} {t : TypeId} {ro : Bool} (hc : N.val.cell 2 = cellM 2) (hc0 : N0.val.cell 2 = cellM 2) (hn : N.val.num cid + coff = N0.val.num 1 + 0) (hl : 1 ≤ N0.val.num 1)
    (φ φ' : Phi) (c p m : Nat) (w : World) (k : @BRel N.fct N.val φ (.row 2 1 cid coff segs t ro) c p m w) : @BRel N0.fct N0.val φ' (blkR H1) c p m w := by
  obtain ⟨vs, u, fz, h1, h2, ⟨h3, h4⟩, h5⟩ := k
  refine ⟨vs, u, fz, h1, h2, ⟨fun j q hj hq => ?_, fun s hs => ?_⟩, fun hh => (by cases hh), fun hh => absurd rfl hh⟩
  · rw [hc0, ← hc]; exact h3 j q (by rw [hn]; exact hj) hq
  · have hs : s ∈ [((0 : Nat), (0 : Int), [AV.int .i32 35])] := hs
    rw [List.mem_singleton] at hs
    subst hs
    have z : N0.val.num 0 + 0 = 0 := by rw [@Val.num0 N0.fct N0.val]; rfl
    simp only [SegOk]
    rw [z]
    refine ⟨Int.le_refl _, fun q a ha => ?_⟩
    have hq : q < 1 := (List.getElem?_eq_some_iff.1 ha).1
    have hq0 : q = 0 := by omega
    subst hq0
    obtain ⟨v, g1, g2⟩ := h3 0 0 (by omega) (by omega)
    rw [hc] at g2
    refine ⟨v, by simpa using g1, ?_⟩
    cases ha
    exact g2

theorem ro_hM : ∀ i b, hM.get i = some b → b.ro = true := by
  intro i b hi
  obtain ⟨x, hx, rfl, rfl⟩ := heapX_get 20 _ i b hi
  rw [List.mem_singleton] at hx
  subst hx; rfl

/-- Parse of a remark, wherever it lies. -/
theorem parse_remark {N : Names} {h : AHeap} {j cid lid : Nat} {segs : List (Nat × Int × List AV)} {t : TypeId} {ro : Bool} {p : Nat × Nat} (hc : N.val.cell 2 = cellM 2) {K : Int} (h0 : 3990 ≤ K) (h1 : K ≤ 4009)
    (hj : h.get j = some (.row 2 1 cid 0 segs t ro)) (hn : N.val.num cid = K) (hl : N.val.num lid = K) :
    @Con N.fct N.val Tryz.prog Tryz.prog.globals.size 31 [.xsl j 0 0 0 1 lid 0, .bool false, .ptr (some p)] h (.returned (if K ≤ 4000 then vMend else vMover)) ⟨h.tbl, h.next + 1⟩ := by
  obtain ⟨N0, e1, e2, hcs⟩ := parse_rem h0 h1
  have z : N.val.num 0 = 0 := @Val.num0 N.fct N.val
  have z0 : N0.val.num 0 = 0 := @Val.num0 N0.fct N0.val
  refine con_renX (n := 20) (ρ := rhoJ j) hcs rfl ro_hM (one_row (by rw [hng]; decide) hj rfl (rem_row hc (by rw [e2]) (by rw [hn, e1]) (by rw [e1]; omega))) ?_ ?_
  · intro φ cargs ha
    obtain ⟨v1, r1, rfl, hv1, v2, r2, rfl, hv2, v3, r3, rfl, hv3, hr⟩ := ha
    obtain ⟨k0, k1, a, c, rfl, k2, k3⟩ := hv1
    obtain ⟨i, o⟩ := p
    obtain ⟨b, rfl, _⟩ := hv3
    refine ⟨_, _, rfl, ⟨?_, ?_, a, c, ?_, ?_, ?_⟩, _, _, rfl, hv2, _, _, rfl, ⟨b, rfl, ?_⟩, hr⟩
    · rw [z0]; simp
    · rw [e1]; omega
    · rw [hl, e1]
    · rw [e1]; rw [hl] at k2; exact k2
    · rw [z] at k3
      rw [z0]
      have e10 : renPhi 20 (rhoJ j) φ 10 = φ j := by simp [renPhi, rhoJ]
      unfold SlOk at k3 ⊢
      rw [e10]
      exact k3
    · have e19 : renPhi 20 (rhoJ j) φ 19 = .dead := by simp [renPhi, rhoJ]
      unfold PtrOk
      rw [e19]; trivial
  · intro N1 en hh hq
    refine ⟨_, hq, fun φ φ' cv hd hu => ?_⟩
    by_cases c : K ≤ 4000
    · rw [if_pos c] at hu ⊢; exact hu
    · rw [if_neg c] at hu ⊢; exact hu

section
variable {a b : Int} (a0 : 0 ≤ a) (a1 : a ≤ 255) (b0' : 0 ≤ b) (b1 : b ≤ 255)
include a0 a1 b0' b1

theorem OP_ok {F : Fct} {p q : Bool} {h h'} (hp : p = decide (190 + a % 20 ≤ 200)) (hq : q = decide (3990 + b % 20 ≤ 4000)) :
    @OracleOk (nmO F a b (190 + a % 20) (3990 + b % 20) h h').fct (nmO F a b (190 + a % 20) (3990 + b % 20) h h').val Tryz.prog Tryz.prog.globals.size (OP p q) := by
  refine @oracle_one F (nmO F a b (190 + a % 20) (3990 + b % 20) h h').val _ _ _ _ _ (@O4_ok F (nmO F a b (190 + a % 20) (3990 + b % 20) h h').val) fun args hh en hh' hr => ?_
  unfold parseC at hr
  split at hr
  · rename_i j lid pp
    split at hr
    · rename_i nm cid segs t ro hj
      simp only [T.ifB_eq, Bool.and_eq_true, beq_iff] at hr
      split at hr
      · rename_i hc
        obtain ⟨rfl, rfl, rfl⟩ := hc
        simp only [Option.some.injEq, Prod.mk.injEq] at hr
        obtain ⟨rfl, rfl⟩ := hr
        refine parse_many (N := nmO F a b (190 + a % 20) (3990 + b % 20) h h') (p := pp) rfl (many := 190 + a % 20) (by omega) (by omega) hj (show 2 * (190 + a % 20) + 0 = 2 * (190 + a % 20) by omega) (show 2 * (190 + a % 20) + 0 = 2 * (190 + a % 20) by omega) ?_
        by_cases c : 190 + a % 20 ≤ 200
        · left
          refine ⟨c, 3, 190, ?_, show a % 20 + 190 = 190 + a % 20 by omega⟩
          rw [hp, if_pos (by simpa using c)]
        · right
          refine ⟨by omega, ?_⟩
          rw [hp, if_neg (by simpa using c)]
      · split at hr
        · rename_i hc
          obtain ⟨rfl, rfl, rfl⟩ := hc
          simp only [Option.some.injEq, Prod.mk.injEq] at hr
          obtain ⟨rfl, rfl⟩ := hr
          have key := parse_remark (N := nmO F a b (190 + a % 20) (3990 + b % 20) h h') (h := hh) (lid := 7) (p := pp) rfl (K := 3990 + b % 20) (by omega) (by omega) hj rfl rfl
          have e : (if q = true then vMend else vMover) = (if 3990 + b % 20 ≤ 4000 then vMend else vMover) := by
            rw [hq]; simp
          rw [e]
          exact key
        · cases hr
    · cases hr
  · cases hr

def InvA (a b : Int) (m : Nat) (N : Names) (s : St) : Prop := ∃ (i : Int) (h : leOk (numL [0, a, b, a % 20, b % 20, i, 2 * i, 0]) fO.le) (h' : remOk (numL [0, a, b, a % 20, b % 20, i, 2 * i, 0]) fO.rem), 1 ≤ i ∧ i ≤ 190 + a % 20 ∧ (m : Int) = 190 + a % 20 - i ∧ N = nmO fO a b i 0 h h' ∧ s = stC
def InvB (a b : Int) (m : Nat) (N : Names) (s : St) : Prop := ∃ (K : Int) (h : leOk (numL [0, a, b, a % 20, b % 20, 190 + a % 20, 2 * (190 + a % 20), K]) fO.le) (h' : remOk (numL [0, a, b, a % 20, b % 20, 190 + a % 20, 2 * (190 + a % 20), K]) fO.rem), 1 ≤ K ∧ K ≤ 3990 + b % 20 ∧ (m : Int) = 3990 + b % 20 - K ∧ N = nmO fO a b (190 + a % 20) K h h' ∧ s = stF

theorem roundA_ok (g g') (m : Nat) (N : Names) (s : St) (hi : InvA a b m N s) : Sem17 N bodyA s fun N1 x s1 => (x = .normal ∧ ∃ m', m' < m ∧ InvA a b m' N1 s1) ∨ (x ≠ .normal ∧ (x = .exit 0 ∧ N1 = nmO fO a b (190 + a % 20) 0 g g' ∧ s1 = stD)) := by
  obtain ⟨i, k, k', g1, g2, hm, rfl, rfl⟩ := hi
  by_cases c : i = 190 + a % 20
  · subst c
    refine Sem3.from (reC (G := fOe) (h := ⟨show (190 + a % 20) + (-190) ≤ a % 20 by omega, show a % 20 + 190 ≤ 190 + a % 20 by omega, numsO a0 a1 b0' b1 (by omega) (by omega) (by omega) (by omega)⟩) (h' := remsOk a0 a1 b0' b1)) (Sem3.mono (semExit g g') fun N1 x s1 hq => .inr ⟨by rw [hq.1]; simp, hq⟩)
  · refine Sem3.from (reC (G := fOr) (h := ⟨show i + (-189) ≤ a % 20 by omega, numsO a0 a1 b0' b1 (by omega) (by omega) (by omega) (by omega)⟩) (h' := remsOk a0 a1 b0' b1)) (Sem3.mono (semRound (numsO a0 a1 b0' b1 (by omega) (by omega) (by omega) (by omega)) (remsOk a0 a1 b0' b1) (by omega)) fun N1 x s1 ⟨e0, e1, e2⟩ => ?_)
    exact .inl ⟨e0, (190 + a % 20 - (i + 1)).toNat, by omega, i + 1, numsO a0 a1 b0' b1 (by omega) (by omega) (by omega) (by omega), remsOk a0 a1 b0' b1, by omega, by omega, by omega, e1, e2⟩

theorem roundB_ok (m : Nat) (N : Names) (s : St) (hi : InvB a b m N s) : Sem17 N bodyB s fun N1 x s1 => (x = .normal ∧ ∃ m', m' < m ∧ InvB a b m' N1 s1) ∨ (x ≠ .normal ∧ QAD N1 x s1) := by
  obtain ⟨K, k, k', g1, g2, hm, rfl, rfl⟩ := hi
  by_cases c : K = 3990 + b % 20
  · subst c
    have base : leOk (numL [0, a, b, a % 20, b % 20, 190 + a % 20, 2 * (190 + a % 20), 3990 + b % 20]) lesO := numsO a0 a1 b0' b1 (by omega) (by omega) (by omega) (by omega)
    have f1 : (3990 + b % 20) + (-3990) ≤ b % 20 := by omega
    have f2 : b % 20 + 3990 ≤ 3990 + b % 20 := by omega
    have hr := remsOk a0 a1 b0' b1 (i := 190 + a % 20) (K := 3990 + b % 20)
    by_cases ca : 190 + a % 20 ≤ 200
    · by_cases cb : 3990 + b % 20 ≤ 4000
      · exact Sem3.from (reF (G := fOx true true) (h := ⟨f1, f2, show a % 20 + (-10) ≤ (0 : Int) by omega, show (3990 + b % 20) + (-4000) ≤ (0 : Int) by omega, base⟩) (h' := hr))
          (finD_sem (f := fOx true true) rfl runsOk_finTT (OP_ok a0 a1 b0' b1 (by simpa using ca) (by simpa using cb)))
      · exact Sem3.from (reF (G := fOx true false) (h := ⟨f1, f2, show a % 20 + (-10) ≤ (0 : Int) by omega, show (0 : Int) + 4001 ≤ 3990 + b % 20 by omega, base⟩) (h' := hr))
          (finD_sem (f := fOx true false) rfl runsOk_finTF (OP_ok a0 a1 b0' b1 (by simpa using ca) (by simpa using cb)))
    · by_cases cb : 3990 + b % 20 ≤ 4000
      · exact Sem3.from (reF (G := fOx false true) (h := ⟨f1, f2, show (0 : Int) + 11 ≤ a % 20 by omega, show (3990 + b % 20) + (-4000) ≤ (0 : Int) by omega, base⟩) (h' := hr))
          (finD_sem (f := fOx false true) rfl runsOk_finFT (OP_ok a0 a1 b0' b1 (by simpa using ca) (by simpa using cb)))
      · exact Sem3.from (reF (G := fOx false false) (h := ⟨f1, f2, show (0 : Int) + 11 ≤ a % 20 by omega, show (0 : Int) + 4001 ≤ 3990 + b % 20 by omega, base⟩) (h' := hr))
          (finD_sem (f := fOx false false) rfl runsOk_finFF (OP_ok a0 a1 b0' b1 (by simpa using ca) (by simpa using cb)))
  · refine Sem3.from (reF (G := fOm) (h := ⟨show K + (-3989) ≤ b % 20 by omega, numsO a0 a1 b0' b1 (by omega) (by omega) (by omega) (by omega)⟩) (h' := remsOk a0 a1 b0' b1)) (Sem3.mono (semRoundB (numsO a0 a1 b0' b1 (by omega) (by omega) (by omega) (by omega)) (remsOk a0 a1 b0' b1) g1) fun N1 x s1 ⟨e0, e1, e2⟩ => ?_)
    exact .inl ⟨e0, (3990 + b % 20 - (K + 1)).toNat, by omega, K + 1, numsO a0 a1 b0' b1 (by omega) (by omega) (by omega) (by omega), remsOk a0 a1 b0' b1, by omega, by omega, by omega, e1, e2⟩

end
end Go.Proofs.YtbojmpbccibmaaaGreatDoor
