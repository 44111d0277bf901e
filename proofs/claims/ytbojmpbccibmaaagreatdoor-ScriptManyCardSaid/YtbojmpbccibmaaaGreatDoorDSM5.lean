/- A script of one remark: Parse's call. -/
import Derived.Test.YtbojmpbccibmaaaGreatDoorDSM4
set_option linter.unusedVariables false
set_option linter.unusedSimpArgs false
set_option linter.unusedSectionVars false
set_option linter.deprecated false
set_option maxRecDepth 100000
namespace Go.Proofs.YtbojmpbccibmaaaGreatDoor
open Go Go.Abs

@[reducible] def nmM (F : Fct) (K p : Int) (h : leOk (numL [0, K, p]) F.le) (h' : remOk (numL [0, K, p]) F.rem) : Names := namesL F [0, K, p] cellM rfl h h'

theorem numsM {K : Int} (h0 : 3990 ≤ K) (h1 : K ≤ 4000) (p : Int) : leOk (numL [0, K, p]) fM.le :=
  ⟨show (0 : Int) + 3990 ≤ K by omega, show K + (-4000) ≤ (0 : Int) by omega, trivial⟩
theorem numsMR {K p : Int} (h0 : 3990 ≤ K) (h1 : K ≤ 4000) (h2 : 1 ≤ p) (h3 : p + 1 ≤ K) : leOk (numL [0, K, p]) fMR.le :=
  ⟨show (0 : Int) + 3990 ≤ K by omega, show K + (-4000) ≤ (0 : Int) by omega, show (0 : Int) + 1 ≤ p by omega, show p + (-4000) ≤ (0 : Int) by omega, show p + 1 ≤ K by omega, trivial⟩
theorem numsMX {K : Int} (h0 : 4001 ≤ K) (h1 : K ≤ 4009) (p : Int) : leOk (numL [0, K, p]) fMX.le :=
  ⟨show (0 : Int) + 4001 ≤ K by omega, show K + (-4009) ≤ (0 : Int) by omega, trivial⟩

section
variable {F G : Fct} {K p : Int}
theorem eMid_ok {h h' k k'} : EqOk (nmM F K p h h') (nmM G K p k k') eMid :=
  eqOk_of ⟨show K + 0 = K + 0 from rfl, show p + 0 = p + 0 from rfl, trivial⟩
theorem eMup_ok {h h' k k'} : EqOk (nmM F K p h h') (nmM G K (p + 1) k k') eMup :=
  eqOk_of ⟨show K + 0 = K + 0 from rfl, show p + 1 = (p + 1) + 0 by omega, trivial⟩
theorem eMfst_ok {h h' k k'} : EqOk (nmM F K 0 h h') (nmM G K 1 k k') eMfst :=
  eqOk_of ⟨show K + 0 = K + 0 from rfl, show (0 : Int) + 1 = 1 + 0 from rfl, trivial⟩
theorem eMend_ok {q : Int} {h h' k k'} (hp : p = K) : EqOk (nmM F K p h h') (nmM G K q k k') eMend :=
  eqOk_of ⟨show K + 0 = K + 0 from rfl, show p + 0 = K + 0 by omega, trivial⟩

theorem winX {q : Int} {h h' k k'} {m : Nat} {ρ : Nat → Nat} {segs : List (Nat × Int × List AV)} (hp : 1 ≤ q) (hl : q + 1 ≤ K) : BlkTo (nmM F K p h h') (nmM G K q k k') m ρ (blkR segs) (blkR [(2, 0, X1)]) := by
  have e2 : (nmM G K q k k').val.num 2 + 0 = q := Int.add_zero q
  refine row_win rfl rfl (by rw [e2]; omega) (by rw [e2]; exact show q + 1 ≤ K + 0 by omega) fun i a ha φ v hv => ?_
  have hi : i < 1 := (List.getElem?_eq_some_iff.1 ha).1
  have hi0 : i = 0 := by omega
  subst hi0
  cases ha
  rw [e2] at hv
  have hv : v = .int .i32 (if q.toNat + 0 = 0 then 35 else 120) := hv
  rw [if_neg (by omega)] at hv
  exact hv

theorem winH {q : Int} {h h' k k'} {m : Nat} {ρ : Nat → Nat} {segs : List (Nat × Int × List AV)} (hl : 1 ≤ K) : BlkTo (nmM F K p h h') (nmM G K q k k') m ρ (blkR segs) (blkR H1) := by
  have e0 : (nmM G K q k k').val.num 0 + 0 = 0 := rfl
  refine row_win rfl rfl (by rw [e0]; omega) (by rw [e0]; exact show (0 : Int) + 1 ≤ K + 0 by omega) fun i a ha φ v hv => ?_
  have hi : i < 1 := (List.getElem?_eq_some_iff.1 ha).1
  have hi0 : i = 0 := by omega
  subst hi0
  cases ha
  rw [e0] at hv
  exact hv

theorem shutX {q : Int} {h h' k k'} {m : Nat} {ρ : Nat → Nat} {segs : List (Nat × Int × List AV)} : BlkTo (nmM F K p h h') (nmM G K q k k') m ρ (blkR segs) (blkR []) := row_shut rfl rfl
end

theorem memU {segs : List (Nat × Int × List AV)} {at_ : AV} : ∀ b, (10, b) ∈ blocksU segs at_ → b = blkR segs := by
  intro b hb
  simp only [blocksU, List.mem_cons, List.not_mem_nil, or_false, Prod.mk.injEq] at hb
  rcases hb with h | h | h | h | h | h | h | h
  · exact h.2
  all_goals omega

theorem hng27 : Tryz.prog.globals.size ≤ 27 := by rw [hng]; decide
abbrev Sem96 := Sem3 Tryz.prog Tryz.prog.globals.size F96 27

theorem piece96 {N N2 : Names} {f : Fct} {s : St} {xk : AEx} {n : Nat} {regs : List (Nat × AV)} {blocks : XBlocks} {df : List ADef} {l : List (Nat × Nat)} {E : Eqs} {K : List Nat} {sp : Abs.Spec} {ts : List Nat}
    (hf : N.fct = f) (h : pieceB (@RR f O0 2000) (@cCode f Tryz.prog F96 body96) s xk 27 n regs blocks df l E K sp ts = true)
    (hE : EqOk N N2 E) (hK : ∀ nm ∈ K, N2.val.cell nm = N.val.cell nm) (hsp : ∀ i b0, specOf sp i = some b0 → ∀ b, (i, b) ∈ blocks → BlkTo N N2 n (rhoL l) b0 b) : Sem96 N body96 s fun N1 x s1 => x = xk ∧ N1 = N2 ∧ s1 = stX n regs blocks df := by
  subst hf
  exact Sem3.piece rfl (run0 N 2000) hng27 h hE hK hsp ⟨rfl, rfl, rfl⟩

theorem firstU {K : Int} {k k'} (h h') : Sem96 (nmM fM K 0 k k') body96 (stU H1 (.int .i64 0)) fun N1 x s1 => x = .normal ∧ N1 = nmM fM K 1 h h' ∧ s1 = stU [] (.ex .i64 2 0) :=
  piece96 (N := nmM fM K 0 k k') (N2 := nmM fM K 1 h h') rfl runsOk_firstU eMfst_ok (fun _ h => by cases h) (spec_one memU shutX)
theorem roundU {K p : Int} {k k'} (h h') : Sem96 (nmM fMR K p k k') body96 (stU [(2, 0, X1)] (.ex .i64 2 0)) fun N1 x s1 => x = .normal ∧ N1 = nmM fM K (p + 1) h h' ∧ s1 = stU [] (.ex .i64 2 0) :=
  piece96 (N := nmM fMR K p k k') (N2 := nmM fM K (p + 1) h h') rfl runsOk_roundU eMup_ok (fun _ h => by cases h) (spec_one memU shutX)
theorem re_winU {K p : Int} {k k' h h'} (hp : 1 ≤ p) (hl : p + 1 ≤ K) : Redesc Tryz.prog.globals.size 27 (nmM fM K p k k') (stU [] (.ex .i64 2 0)) (nmM fMR K p h h') (stU [(2, 0, X1)] (.ex .i64 2 0)) :=
  (reX_ok (n0 := 27) (n := 27) (regs := regsU) (blocks := blocksU [(2, 0, X1)] (.ex .i64 2 0)) (df := []) (l := []) (E := eMid) (K := []) (sp := [(10, blkR [])]) (ts := [0]) (s := stU [] (.ex .i64 2 0)) eMid_ok (fun _ h => by cases h) (spec_one memU (winX hp hl)) runsOk_winU).redesc hng27
theorem re_endU {K p : Int} {k k' h h'} (hp : p = K) (hl : 1 ≤ K) : Redesc Tryz.prog.globals.size 27 (nmM fM K p k k') (stU [] (.ex .i64 2 0)) (nmM fM K 0 h h') (stU H1 (.ex .i64 1 0)) :=
  (reX_ok (n0 := 27) (n := 27) (regs := regsU) (blocks := blocksU H1 (.ex .i64 1 0)) (df := []) (l := []) (E := eMend) (K := []) (sp := [(10, blkR [])]) (ts := [0]) (s := stU [] (.ex .i64 2 0)) (eMend_ok hp) (fun _ h => by cases h) (spec_one memU (winH hl)) runsOk_endU).redesc hng27

theorem blkSame_eq {a b : Option ABlk} (hs : blkSame a b = true) : a = b := by
  letI : @Val noFct := Val.of fun _ => 0
  unfold blkSame at hs
  split at hs
  · rfl
  · simp only [Bool.and_eq_true, beq_iff, beq_iff_eq] at hs
    obtain ⟨k1, k2, k3, k4⟩ := hs
    rw [k1, k2, k3, sameT_eq _ _ k4]
  · simp only [Bool.and_eq_true, beq_iff, beq_iff_eq, eqQ_eq] at hs
    obtain ⟨k1, k2, k3, k4, k5, k6, k7⟩ := hs
    rw [k1, k2, k3, k4, k5, k6, sameSegs_eq _ _ k7]
  · cases hs

/-- Heaps that hold the same. -/
theorem sameH_ok {a b : AHeap} (h : sameH a b = true) : a.next = b.next ∧ ∀ i, i < b.next → a.get i = b.get i := by
  unfold sameH at h
  rw [Bool.and_eq_true, beq_iff, List.all_eq_true] at h
  exact ⟨h.1, fun i hi => blkSame_eq (h.2 i (List.mem_range.2 hi))⟩

theorem hrel_same [Fct] [Val] {ng : Nat} {φ : Phi} {a b : AHeap} {w : World} (hn : a.next = b.next) (hg : ∀ i, i < b.next → a.get i = b.get i) (hb : ∀ i c, b.get i = some c → i < b.next) (H : HRel ng φ a w) : HRel ng φ b w :=
  ⟨fun i hi => H.fresh i (by omega), H.glob, fun i c hc => H.blk i c (by rw [hg i (hb i c hc)]; exact hc), fun i j c d x p m p' m' hi hj hne ei ej => H.inj i j c d x p m p' m' (by rw [hg i (hb i c hi)]; exact hi) (by rw [hg j (hb j d hj)]; exact hj) hne ei ej, H.lt, hb⟩

theorem con_same {N : Names} {P : Program} {ng : Nat} {f : FuncId} {args : List AV} {h h0 h1 : AHeap} {en : AEnd} (hs : sameH h h0 = true) (hd : ∀ i c, h0.get i = some c → i < h0.next) (hc : @Con N.fct N.val P ng f args h0 en h1) : @Con N.fct N.val P ng f args h en h1 := by
  obtain ⟨e1, e2⟩ := sameH_ok hs
  letI := N.fct
  letI := N.val
  refine ⟨hc.1, fun φ w cargs H hv => (hc.2 φ w cargs (hrel_same e1 e2 hd H) hv).mono fun e w' ⟨φ', k1, k2, k3⟩ => ⟨φ', k1, ?_, k3⟩⟩
  refine ⟨k2.ext, k2.os, k2.tape, k2.output, k2.size, fun b hb hr => k2.same b hb ?_, fun b hb hl => ?_, fun i hi e => ?_, by rw [e1]; exact k2.next⟩
  · rintro ⟨i, bl, o, n, hg, hro, e⟩
    exact hr ⟨i, bl, o, n, by rw [e2 i (hd i bl hg)]; exact hg, hro, e⟩
  · obtain ⟨i, bl, o, n, hg, hro, e⟩ := k2.own b hb hl
    exact ⟨i, bl, o, n, by rw [e2 i (hd i bl hg)]; exact hg, hro, e⟩
  · obtain ⟨q1, q2⟩ := k2.virt i (by rw [← e1]; exact hi) e
    exact ⟨q1.trans (e2 i (by rw [← e1]; exact hi)).symm, q2⟩

theorem dom_heapX {n : Nat} {l : XBlocks} (h : l.all (fun x => Nat.blt x.1 n) = true) : ∀ i c, (heapX n l).get i = some c → i < (heapX n l).next := by
  intro i c hi
  obtain ⟨x, hx, rfl, rfl⟩ := heapX_get n l i c hi
  rw [List.all_eq_true] at h
  exact blt_iff.1 (h x hx)

theorem finU_ok {f : Fct} (hf : finU f = true) : ∃ x s1, (codeFn (@cCode f Tryz.prog F96 body96)).run (@RR f O0 2000) (stU H1 (.ex .i64 1 0)) = some (x, s1) ∧ x ≠ .normal ∧
    ∃ x' s' hh, @after f Tryz.prog F96 (@RR f O0 2000) ndU b96 x s1 = some (x', s') ∧ endOf (@RR f O0 2000) as96 x' s' = some (.returned vU, hh) ∧ sameH hh hU1 = true := by
  unfold finU at hf
  split at hf
  · cases hf
  · rename_i x s1 hne hr
    split at hf
    · rename_i x' s' ha
      split at hf
      · rename_i u hh he
        rw [Bool.and_eq_true] at hf
        refine ⟨x, s1, hr, hne, x', s', hh, ha, ?_, hf.2⟩
        rw [he]
        letI : @Val noFct := Val.of fun _ => 0
        rw [@same_eq noFct _ _ _ hf.1]
      · cases hf
    · cases hf
  · cases hf

def QU (K : Int) (N0 : Names) (N1 : Names) (en : AEnd) (h : AHeap) : Prop := N1 = N0 ∧ en = .returned vU ∧ sameH h hU1 = true
def QAU (K : Int) (N0 : Names) : QSet := After Tryz.prog Tryz.prog.globals.size F96 ndU b96 fun N1 x s => ∃ R en h1, RunOk Tryz.prog Tryz.prog.globals.size N1 R ∧ endOf R as96 x s = some (en, h1) ∧ QU K N0 N1 en h1
def InvU (K : Int) (m : Nat) (N : Names) (s : St) : Prop := ∃ (p : Int) (h : leOk (numL [0, K, p]) fM.le) (h' : remOk (numL [0, K, p]) fM.rem), 1 ≤ p ∧ p ≤ K ∧ (m : Int) = K - p ∧ N = nmM fM K p h h' ∧ s = stU [] (.ex .i64 2 0)

theorem finU_sem {K : Int} {N : Names} {f : Fct} (hf : N.fct = f) (h : finU f = true) {Q1 : QSet} : Sem96 N body96 (stU H1 (.ex .i64 1 0)) fun N1 x s1 => (x = .normal ∧ Q1 N1 x s1) ∨ (x ≠ .normal ∧ QAU K N N1 x s1) := by
  subst hf
  obtain ⟨x, s1, hr, hx, x', s', hh, ha, he, hs⟩ := finU_ok h
  exact Sem3.run rfl (run0 N 2000) hr (.inr ⟨hx, _, run0 N 2000, x', s', ha, _, _, _, run0 N 2000, he, rfl, rfl, hs⟩)

section
variable {K : Int} (h0 : 3990 ≤ K) (h1 : K ≤ 4000)
include h0 h1

theorem round_okU (g g') (m : Nat) (N : Names) (s : St) (hi : InvU K m N s) : Sem96 N body96 s fun N1 x s1 => (x = .normal ∧ ∃ m', m' < m ∧ InvU K m' N1 s1) ∨ (x ≠ .normal ∧ QAU K (nmM fM K 0 g g') N1 x s1) := by
  obtain ⟨p, k, k', g1, g2, hm, rfl, rfl⟩ := hi
  by_cases c : p = K
  · exact Sem3.from (re_endU (h := g) (h' := g') c (by omega)) (finU_sem (N := nmM fM K 0 g g') (Q1 := fun N1 _ s1 => ∃ m', m' < m ∧ InvU K m' N1 s1) (f := fM) rfl runsOk_finU)
  · refine Sem3.from (re_winU (h := numsMR h0 h1 g1 (by omega)) (h' := trivial) g1 (by omega)) (Sem3.mono (roundU (numsM h0 h1 _) trivial) fun N1 x s1 ⟨e0, e1, e2⟩ => ?_)
    exact .inl ⟨e0, (K - (p + 1)).toNat, by omega, p + 1, numsM h0 h1 _, trivial, by omega, by omega, by omega, e1, e2⟩

theorem upTo_con (g g') : @Con (nmM fM K 0 g g').fct (nmM fM K 0 g g').val Tryz.prog Tryz.prog.globals.size 96 argsU hU (.returned vU) hU1 := by
  have hc : ConS Tryz.prog Tryz.prog.globals.size (nmM fM K 0 g g') 96 argsU hU (QU K (nmM fM K 0 g g')) := by
    refine call_sem (n0 := 27) (live := live 96) Tryz.func96 hb96 (by decide +kernel) has96 (by decide +kernel) (Nat.le_refl _) ?_
    have hu := runsOk_entryU
    unfold entryU at hu
    split at hu
    · rename_i s1 hs1
      refine Sem3.cut rfl (run0 _ 2000) ndU b96 _ s1 _ hs1 ?_
      rw [loop96]
      have hr := (reX_ok (n0 := 27) (n := 27) (regs := regsU) (blocks := blocksU H1 (.int .i64 0)) (df := []) (l := []) (E := eMid) (K := [2]) (sp := []) (ts := []) (s := s1) (N1 := nmM fM K 0 g g') (N2 := nmM fM K 0 g g') eMid_ok (fun _ _ => rfl) spec_nil hu).redesc hng27
      refine Sem3.from hr (Sem3.loop (firstU (numsM h0 h1 _) trivial) fun N1 x s1 hq => ?_)
      obtain ⟨rfl, rfl, rfl⟩ := hq
      exact .inl ⟨rfl, SemL.inv (round_okU h0 h1 g g') (K - 1).toNat _ _ ⟨1, numsM h0 h1 _, trivial, by omega, by omega, by omega, rfl, rfl⟩⟩
    · cases hu
  refine ⟨hc.1, fun φ w cargs H hv => (hc.2 φ w cargs H hv).mono fun e w' ⟨N1, en, hh, ⟨q1, q2, q3⟩, φ', k1, k2, k3⟩ => ?_⟩
  subst q1; subst q2
  obtain ⟨e1, e2⟩ := sameH_ok q3
  letI := (nmM fM K 0 g g').fct
  letI := (nmM fM K 0 g g').val
  have hd : ∀ i c, hU1.get i = some c → i < hU1.next := dom_heapX (by decide +kernel)
  refine ⟨φ', hrel_same e1 e2 hd k1, ⟨k2.ext, k2.os, k2.tape, k2.output, k2.size, k2.same, fun b ⟨i, bl, o, n, hg, hro, e⟩ hl => k2.own b ⟨i, bl, o, n, by rw [e2 i (hd i bl hg)]; exact hg, hro, e⟩ hl, fun i hi e => ?_, by rw [← e1]; exact k2.next⟩, k3⟩
  obtain ⟨j1, j2⟩ := k2.virt i hi e
  have hin : i < hU1.next := by
    have : hU.next = hU1.next := rfl
    omega
  exact ⟨(e2 i hin).symm.trans j1, j2⟩

theorem OU_ok (g g') : @OracleOk (nmM fM K 0 g g').fct (nmM fM K 0 g g').val Tryz.prog Tryz.prog.globals.size OU := by
  refine @oracle_one (nmM fM K 0 g g').fct (nmM fM K 0 g g').val _ _ _ _ _ (@O0_ok (nmM fM K 0 g g').fct (nmM fM K 0 g g').val) fun args h en h' hr => ?_
  unfold upC at hr
  split at hr
  · rw [T.ifB_eq] at hr
    split at hr
    · rename_i hs
      simp only [Option.some.injEq, Prod.mk.injEq] at hr
      obtain ⟨rfl, rfl⟩ := hr
      exact con_same (N := nmM fM K 0 g g') hs (dom_heapX (by decide +kernel)) (upTo_con h0 h1 g g')
    · cases hr
  · cases hr

end

theorem call_con {f : Fct} {N : Names} (hf : N.fct = f) {O : Oracle} (hO : @OracleOk N.fct N.val Tryz.prog Tryz.prog.globals.size O) {h : AHeap} {v : AV} (hc : callIs f O h v = true) : ∃ h1, @Con N.fct N.val Tryz.prog Tryz.prog.globals.size 31 args31 h (.returned v) h1 := by
  subst hf
  letI := N.fct
  letI := N.val
  unfold callIs at hc
  split at hc
  · rename_i u h1 hr
    have := same_eq _ _ hc
    subst this
    exact ⟨h1, con_run hm hO 2000 hr⟩
  · cases hc

/-- Parse of a remark. -/
theorem parse_rem {K : Int} (h0 : 3990 ≤ K) (h1 : K ≤ 4009) : ∃ N0 : Names, N0.val.num 1 = K ∧ N0.val.cell = cellM ∧ ConS Tryz.prog Tryz.prog.globals.size N0 31 args31 hM fun N1 en _ => en = .returned (if K ≤ 4000 then vMend else vMover) := by
  by_cases c : K ≤ 4000
  · rw [if_pos c]
    obtain ⟨hh, hc⟩ := call_con (N := nmM fM K 0 (numsM h0 c _) trivial) (f := fM) rfl (OU_ok h0 c _ _) runsOk_remark
    exact ⟨nmM fM K 0 (numsM h0 c _) trivial, rfl, rfl, hc.1, fun φ w cargs H hv => (hc.2 φ w cargs H hv).mono fun e w' h => ⟨_, _, _, rfl, h⟩⟩
  · rw [if_neg c]
    obtain ⟨hh, hc⟩ := call_con (N := nmM fMX K 0 (numsMX (by omega) h1 _) trivial) (f := fMX) rfl (@O0_ok fMX (nmM fMX K 0 (numsMX (by omega) h1 _) trivial).val) runsOk_remarkOver
    exact ⟨nmM fMX K 0 (numsMX (by omega) h1 _) trivial, rfl, rfl, hc.1, fun φ w cargs H hv => (hc.2 φ w cargs H hv).mono fun e w' h => ⟨_, _, _, rfl, h⟩⟩

end Go.Proofs.YtbojmpbccibmaaaGreatDoor
