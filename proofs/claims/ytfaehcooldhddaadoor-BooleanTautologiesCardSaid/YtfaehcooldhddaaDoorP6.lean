/- The reference's formulas: the canonical list: the walk; Sub, Compact, Facts. -/
import Derived.Test.YtfaehcooldhddaaDoorP5
set_option linter.unusedSectionVars false
set_option linter.unusedVariables false
set_option linter.unusedSimpArgs false
set_option linter.defProp false
set_option maxRecDepth 20000
namespace Go.Pd
open Go Go.Proofs
open Rs Fm
theorem walk70d {f : List Nd} {nx i : Nat} {objs : List (Nat × Ob)} {kO kD : Nat} {s : CS} {dl : List Int} {k : Int} (hI : InvW f nx objs kO kD s dl) (hi : i < f.length) (hu : ulook (i : Int) s.done = some k) :
    CallT Tryd.prog 70 [.sl 6 (ndR f), .int .i64 i, .ref 0 2 0 0] ⟨nx, objs⟩ (.int .i64 k) ⟨nx, objs⟩ := by
  obtain ⟨hn, h0, hO, ⟨hD0, hDn, hD⟩, dn, rel, pos, fr⟩ := hI
  have hr := rel i hi
  rw [hu, Option.getD_some] at hr
  have hk : 0 ≤ k := pos _ _ hu
  have hrl : (rows IntKind.i64 dl).length = dl.length := rows_len _ _
  have hgd : (rows IntKind.i64 dl).getD i [] = [.int .i64 k] := by
    rw [← hr]; simp [rows, List.getD, dn, hi]
  refine CallT.go_fn mixed Tryd.func70 k70 (by simp) fun hf => ?_
  simp only [Int.reduceToNat, Int.reduceLT, Int.reduceLE, Int.reduceBEq, Int.reduceBNe, St0, argFr, ↓callZ, ↓midZ, ↓unZ, ↓thenW, ↓blockW, ↓opX, ↓opV, ↓pX, ↓pW, ↓putK, ↓putP, ↓atK, ↓normK, ↓postZ, ↓reduceIte, reduceIte, Nat.reduceEqDiff, Nat.reduceAdd, Nat.reduceBEq, Nat.reduceLT, Nat.reduceLeDiff, binW, bodyQ, ressW, resW, ne_eq, forall_const, reduceCtorEq, implies_true, sets, oneAll, setD, rels, fillE, fillD, List.replicate, rowsOf, forall_eq, Nat.reduceMul, ↓zD, zT, h0, wOb, hrl, dn, hD, hgd, hk]
  (repeat refine And.intro (by first | omega | exact ui_nonneg _ | exact Int.natCast_nonneg _ | rfl | exact rows_one' _ _ | exact us_one _ | (intro _ h; cases h; done)) ?_)
  exact .same
theorem finish70 {f : List Nd} {kD : Nat} (hc : ∀ k, k < f.length → nodeE (f.getD k nd0) k = 0) (hlen : f.length ≤ 900) : ∀ (n : Nat) {i nx : Nat} {objs : List (Nat × Ob)} {kO : Nat} {s : CS} {dl : List Int}, i < n → i < f.length → FinOK f s → InvW f nx objs kO kD s dl →
    ∃ nx' objs' kO' dl', InvW f nx' objs' kO' kD (finishS f n i s).2 dl' ∧ nx ≤ nx' ∧ ((kO' = kO ∧ s.out ≠ []) ∨ nx ≤ kO' ∨ (finishS f n i s).2.out = []) ∧ (∀ k, 1 ≤ k → k < nx → k ≠ kD → (k ≠ kO ∨ s.out = []) → St.look objs' k = St.look objs k) ∧
      CallT Tryd.prog 70 [.sl 6 (ndR f), .int .i64 i, .ref 0 2 0 0] ⟨nx, objs⟩ (.int .i64 (finishS f n i s).1) ⟨nx', objs'⟩
  | 0, i, nx, objs, kO, s, dl, h, _, _, _ => by omega
  | n + 1, i, nx, objs, kO, s, dl, h, hi, hs, hI => by
    cases hu : ulook (i : Int) s.done with
    | some k =>
      rw [finishS, hu]
      refine ⟨nx, objs, kO, dl, hI, Nat.le_refl _, ?_, fun _ _ _ _ _ => rfl, walk70d hI hi hu⟩
      by_cases ho : s.out = []
      · exact .inr (.inr ho)
      · exact .inl ⟨rfl, ho⟩
    | none =>
      rw [finishS_eq hu]
      obtain ⟨ox, oy⟩ := node_ops (hc i hi)
      simp only
      generalize hp : f.getD i nd0 = p at ox oy
      have hno : dl.getD i 0 = -1 := by rw [hI.rel i hi, hu]; rfl
      have hn := hI.hn
      have hD := hI.hD
      have hA := hI.alloc (ndOb p.op p.i p.e p.g p.x p.y)
      have hA0 : ∀ k, k < nx → St.look ((nx, ndOb p.op p.i p.e p.g p.x p.y) :: objs) k = St.look objs k := fun k hk => by rw [look_cons, if_neg (by omega)]
      have hAn : St.look ((nx, ndOb p.op p.i p.e p.g p.x p.y) :: objs) nx = some (ndOb p.op p.i p.e p.g p.x p.y) := by rw [look_cons, if_pos rfl]
      have hkO : s.out = [] ∨ kO < nx := by rcases hI.hO with ho | ⟨a, _⟩; exact .inl ho; exact .inr a
      -- the first operand
      have S1 : ∃ nx1 O1 kO1 dl1, InvW f nx1 O1 kO1 kD (if (usesA p.op).1.x = true then finishS f n p.x.toNat s else (p.x, s)).2 dl1 ∧ FinOK f (if (usesA p.op).1.x = true then finishS f n p.x.toNat s else (p.x, s)).2 ∧ nx < nx1 ∧
          ((kO1 = kO ∧ s.out ≠ []) ∨ nx + 1 ≤ kO1 ∨ (if (usesA p.op).1.x = true then finishS f n p.x.toNat s else (p.x, s)).2.out = []) ∧ (∀ k, 1 ≤ k → k < nx → k ≠ kD → (k ≠ kO ∨ s.out = []) → St.look O1 k = St.look objs k) ∧
          (((usesA p.op).1.x = true ∧ ∃ objs1, CallT Tryd.prog 70 [.sl 6 (ndR f), .int .i64 p.x, .ref 0 2 0 0] ⟨nx + 1, (nx, ndOb p.op p.i p.e p.g p.x p.y) :: objs⟩ (.int .i64 (if (usesA p.op).1.x = true then finishS f n p.x.toNat s else (p.x, s)).1) ⟨nx1, objs1⟩ ∧ St.look objs1 nx = some (ndOb p.op p.i p.e p.g p.x p.y) ∧ O1 = setL objs1 nx (ndOb p.op p.i p.e p.g (if (usesA p.op).1.x = true then finishS f n p.x.toNat s else (p.x, s)).1 p.y)) ∨
            ((usesA p.op).1.x = false ∧ (if (usesA p.op).1.x = true then finishS f n p.x.toNat s else (p.x, s)).1 = p.x ∧ nx1 = nx + 1 ∧ O1 = (nx, ndOb p.op p.i p.e p.g p.x p.y) :: objs)) ∧
          St.look O1 nx = some (ndOb p.op p.i p.e p.g (if (usesA p.op).1.x = true then finishS f n p.x.toNat s else (p.x, s)).1 p.y) := by
        by_cases hx : (usesA p.op).1.x = true
        · obtain ⟨hx1, hx2⟩ := ox hx
          have hxn : ((p.x.toNat : Nat) : Int) = p.x := Int.toNat_of_nonneg hx1
          obtain ⟨nx1, objs1, kO1, dl1, I1, l1, k1, f1, c1⟩ := finish70 hc hlen n (i := p.x.toNat) (by omega) (by omega) hs hA
          have g1 := finish_ok hc n (i := p.x.toNat) (s := s) (by omega) (by omega) hs
          rw [if_pos hx]
          rw [hxn] at c1
          have hl : St.look objs1 nx = some (ndOb p.op p.i p.e p.g p.x p.y) := by
            rw [f1 nx hn (by omega) (by omega) (by rcases hkO with h | h; exact .inr h; exact .inl (by omega))]; exact hAn
          have hkn : (finishS f n p.x.toNat s).2.out = [] ∨ nx ≠ kO1 := by
            rcases k1 with ⟨e, ho⟩ | h | h
            · rcases hkO with h | h
              · exact absurd h ho
              · exact .inr (by omega)
            · exact .inr (by omega)
            · exact .inl h
          refine ⟨nx1, _, kO1, dl1, I1.set (j := nx) ⟨by omega, by omega, hkn⟩ _, g1.1, by omega, k1, fun k a1 a2 a3 a4 => ?_, .inl ⟨hx, objs1, c1, hl, rfl⟩, ?_⟩
          · rw [look_setL, if_neg (by omega), f1 k a1 (by omega) a3 a4]; exact hA0 k a2
          · rw [look_setL, if_pos rfl, hl]; rfl
        · rw [if_neg hx]
          refine ⟨nx + 1, _, kO, dl, hA, hs, by omega, ?_, fun k a1 a2 a3 a4 => hA0 k a2, .inr ⟨by simpa using hx, rfl, rfl, rfl⟩, hAn⟩
          by_cases ho : s.out = []
          · exact .inr (.inr ho)
          · exact .inl ⟨rfl, ho⟩
      generalize (if (usesA p.op).1.x = true then finishS f n p.x.toNat s else (p.x, s)) = A at S1
      obtain ⟨nx1, O1, kO1, dl1, I1, F1, l1, k1, f1, c1, n1⟩ := S1
      have hk1 : A.2.out = [] ∨ nx ≠ kO1 := by
        rcases k1 with ⟨e, ho⟩ | h | h
        · rcases hkO with h | h
          · exact absurd h ho
          · exact .inr (by omega)
        · exact .inr (by omega)
        · exact .inl h
      have S2 : ∃ nx2 O2 kO2 dl2, InvW f nx2 O2 kO2 kD (if (usesA p.op).1.y = true then finishS f n p.y.toNat A.2 else (p.y, A.2)).2 dl2 ∧ FinOK f (if (usesA p.op).1.y = true then finishS f n p.y.toNat A.2 else (p.y, A.2)).2 ∧ nx1 ≤ nx2 ∧
          ((kO2 = kO1 ∧ A.2.out ≠ []) ∨ nx1 ≤ kO2 ∨ (if (usesA p.op).1.y = true then finishS f n p.y.toNat A.2 else (p.y, A.2)).2.out = []) ∧ (∀ k, 1 ≤ k → k < nx → k ≠ kD → (k ≠ kO1 ∨ A.2.out = []) → St.look O2 k = St.look O1 k) ∧
          (((usesA p.op).1.y = true ∧ ∃ objs2, CallT Tryd.prog 70 [.sl 6 (ndR f), .int .i64 p.y, .ref 0 2 0 0] ⟨nx1, O1⟩ (.int .i64 (if (usesA p.op).1.y = true then finishS f n p.y.toNat A.2 else (p.y, A.2)).1) ⟨nx2, objs2⟩ ∧ St.look objs2 nx = some (ndOb p.op p.i p.e p.g A.1 p.y) ∧ O2 = setL objs2 nx (ndOb p.op p.i p.e p.g A.1 (if (usesA p.op).1.y = true then finishS f n p.y.toNat A.2 else (p.y, A.2)).1)) ∨
            ((usesA p.op).1.y = false ∧ (if (usesA p.op).1.y = true then finishS f n p.y.toNat A.2 else (p.y, A.2)).1 = p.y ∧ nx2 = nx1 ∧ O2 = O1)) ∧
          St.look O2 nx = some (ndOb p.op p.i p.e p.g A.1 (if (usesA p.op).1.y = true then finishS f n p.y.toNat A.2 else (p.y, A.2)).1) := by
        by_cases hy : (usesA p.op).1.y = true
        · obtain ⟨hy1, hy2⟩ := oy hy
          have hyn : ((p.y.toNat : Nat) : Int) = p.y := Int.toNat_of_nonneg hy1
          obtain ⟨nx2, objs2, kO2, dl2, I2, l2, k2, f2, c2⟩ := finish70 hc hlen n (i := p.y.toNat) (by omega) (by omega) F1 I1
          have g2 := finish_ok hc n (i := p.y.toNat) (s := A.2) (by omega) (by omega) F1
          rw [if_pos hy]
          rw [hyn] at c2
          have hl : St.look objs2 nx = some (ndOb p.op p.i p.e p.g A.1 p.y) := by
            rw [f2 nx hn (by omega) (by omega) (by rcases hk1 with h | h; exact .inr h; exact .inl h)]; exact n1
          have hkn : (finishS f n p.y.toNat A.2).2.out = [] ∨ nx ≠ kO2 := by
            rcases k2 with ⟨e, ho⟩ | h | h
            · rcases hk1 with h | h
              · exact absurd h ho
              · exact .inr (by omega)
            · exact .inr (by omega)
            · exact .inl h
          refine ⟨nx2, _, kO2, dl2, I2.set (j := nx) ⟨by omega, by omega, hkn⟩ _, g2.1, by omega, k2, fun k a1 a2 a3 a4 => ?_, .inl ⟨hy, objs2, c2, hl, rfl⟩, ?_⟩
          · rw [look_setL, if_neg (by omega), f2 k a1 (by omega) a3 a4]
          · rw [look_setL, if_pos rfl, hl]; rfl
        · rw [if_neg hy]
          refine ⟨nx1, _, kO1, dl1, I1, F1, by omega, ?_, fun k a1 a2 a3 a4 => rfl, .inr ⟨by simpa using hy, rfl, rfl, rfl⟩, n1⟩
          by_cases ho : A.2.out = []
          · exact .inr (.inr ho)
          · exact .inl ⟨rfl, ho⟩
      generalize (if (usesA p.op).1.y = true then finishS f n p.y.toNat A.2 else (p.y, A.2)) = B at S2
      obtain ⟨nx2, O2, kO2, dl2, I2, F2, l2, k2, f2, c2, n2⟩ := S2
      have hk2 : B.2.out = [] ∨ kO2 ≠ nx := by
        rcases k2 with ⟨e, ho⟩ | h | h
        · rcases hk1 with h | h
          · exact absurd h ho
          · exact .inr (by omega)
        · exact .inr (by omega)
        · exact .inl h
      obtain ⟨kk, nx', objs', kO', dl', e1, e2, e3, e4, e5, e6, e7⟩ := endF_inv (q := ⟨p.op, p.i, p.e, p.g, A.1, B.1⟩) (i := i) (nx := nx) I2 hi hn (by omega) hk2
      refine ⟨nx', objs', kO', dl', e2, by omega, ?_, fun k a1 a2 a3 a4 => ?_, walk70 hI.h0 hn hD hI.dn hi hp hno c1 n1 c2 n2 e5 I2.hD.2.2 I2.dn e6 (by have := F2.len; omega) (by omega) e1⟩
      · rcases e4 with ⟨a, b⟩ | h
        · rcases k2 with ⟨c, d⟩ | h | h
          · rcases k1 with ⟨c', d'⟩ | h | h
            · exact .inl ⟨by omega, d'⟩
            · exact .inr (.inl (by omega))
            · exact absurd h d
          · exact .inr (.inl (by omega))
          · exact absurd h b
        · exact .inr (.inl (by omega))
      · have ka : k ≠ kO1 ∨ A.2.out = [] := by
          rcases k1 with ⟨c', d'⟩ | h | h
          · rcases a4 with a4 | a4
            · exact .inl (by omega)
            · exact absurd a4 d'
          · exact .inl (by omega)
          · exact .inr h
        have kb : k ≠ kO2 ∨ B.2.out = [] := by
          rcases k2 with ⟨c', d'⟩ | h | h
          · rcases ka with a4 | a4
            · exact .inl (by omega)
            · exact absurd a4 d'
          · exact .inl (by omega)
          · exact .inr h
        rw [e7 k a1 (by omega) a3 kb, f2 k a1 a2 a3 ka, f1 k a1 a2 a3 a4]
end Go.Pd

set_option maxRecDepth 20000
namespace Go.Pd
open Go Go.Proofs
open Rs Fm
theorem refSub48 (f : List Nd) (i : Int) : Runs Tryd.prog 48 [.sl 6 (ndR f), .int .i64 i] (.sl 6 (ndR (subA f i))) := by
  refine CallT.go_fn mixed Tryd.func48 k48 (by simp) fun hf => ?_
  simp only [Int.reduceToNat, Int.reduceLT, Int.reduceLE, Int.reduceBEq, Int.reduceBNe, St0, argFr, ↓callZ, ↓midZ, ↓unZ, ↓thenW, ↓blockW, ↓opX, ↓opV, ↓pX, ↓pW, ↓putK, ↓putP, ↓atK, ↓normK, ↓postZ, ↓reduceIte, reduceIte, Nat.reduceEqDiff, Nat.reduceAdd, Nat.reduceBEq, Nat.reduceLT, Nat.reduceLeDiff, binW, bodyQ, ressW, resW, ne_eq, forall_const, reduceCtorEq, implies_true, sets, oneAll, setD, rels, fillE, fillD, List.replicate, rowsOf, forall_eq, Nat.reduceMul, ↓zD, zT]
  refine .go (CallT.of_runs (Check39 f) (by simp [D.isPureL, D.isPure])) ?_
  by_cases hc : checkF f = 0
  case neg =>
    have e : (checkF f != 0) = true := bne_iff_ne.2 hc
    simp only [Int.reduceToNat, Int.reduceLT, Int.reduceLE, Int.reduceBEq, Int.reduceBNe, St0, argFr, ↓callZ, ↓midZ, ↓unZ, ↓thenW, ↓blockW, ↓opX, ↓opV, ↓pX, ↓pW, ↓putK, ↓putP, ↓atK, ↓normK, ↓postZ, ↓reduceIte, reduceIte, Nat.reduceEqDiff, Nat.reduceAdd, Nat.reduceBEq, Nat.reduceLT, Nat.reduceLeDiff, binW, bodyQ, ressW, resW, ne_eq, forall_const, reduceCtorEq, implies_true, sets, oneAll, setD, rels, fillE, fillD, List.replicate, rowsOf, forall_eq, Nat.reduceMul, ↓zD, zT, e]
    rw [show subA f i = [] from if_pos (.inl hc)]
    exact .drop (by simp) (by simp [vw, ndR])
  have e : (checkF f != 0) = false := by simpa using hc
  by_cases h1 : i < 0
  · simp only [Int.reduceToNat, Int.reduceLT, Int.reduceLE, Int.reduceBEq, Int.reduceBNe, St0, argFr, ↓callZ, ↓midZ, ↓unZ, ↓thenW, ↓blockW, ↓opX, ↓opV, ↓pX, ↓pW, ↓putK, ↓putP, ↓atK, ↓normK, ↓postZ, ↓reduceIte, reduceIte, Nat.reduceEqDiff, Nat.reduceAdd, Nat.reduceBEq, Nat.reduceLT, Nat.reduceLeDiff, binW, bodyQ, ressW, resW, ne_eq, forall_const, reduceCtorEq, implies_true, sets, oneAll, setD, rels, fillE, fillD, List.replicate, rowsOf, forall_eq, Nat.reduceMul, ↓zD, zT, e, h1]
    rw [show subA f i = [] from if_pos (.inr (.inl h1))]
    exact .drop (by simp) (by simp [vw, ndR])
  by_cases h2 : (f.length : Int) ≤ i
  · simp only [Int.reduceToNat, Int.reduceLT, Int.reduceLE, Int.reduceBEq, Int.reduceBNe, St0, argFr, ↓callZ, ↓midZ, ↓unZ, ↓thenW, ↓blockW, ↓opX, ↓opV, ↓pX, ↓pW, ↓putK, ↓putP, ↓atK, ↓normK, ↓postZ, ↓reduceIte, reduceIte, Nat.reduceEqDiff, Nat.reduceAdd, Nat.reduceBEq, Nat.reduceLT, Nat.reduceLeDiff, binW, bodyQ, ressW, resW, ne_eq, forall_const, reduceCtorEq, implies_true, sets, oneAll, setD, rels, fillE, fillD, List.replicate, rowsOf, forall_eq, Nat.reduceMul, ↓zD, zT, e, h1, ndR_len, h2]
    rw [show subA f i = [] from if_pos (.inr (.inr h2))]
    exact .drop (by simp) (by simp [vw, ndR])
  obtain ⟨j, rfl⟩ := Int.eq_ofNat_of_zero_le (show 0 ≤ i by omega)
  obtain ⟨c1, c2, c3⟩ := checkF_zero hc
  rw [show subA f j = compactS f j by rw [subA, if_neg (by omega), Int.toNat_natCast]]
  simp only [Int.reduceToNat, Int.reduceLT, Int.reduceLE, Int.reduceBEq, Int.reduceBNe, St0, argFr, ↓callZ, ↓midZ, ↓unZ, ↓thenW, ↓blockW, ↓opX, ↓opV, ↓pX, ↓pW, ↓putK, ↓putP, ↓atK, ↓normK, ↓postZ, ↓reduceIte, reduceIte, Nat.reduceEqDiff, Nat.reduceAdd, Nat.reduceBEq, Nat.reduceLT, Nat.reduceLeDiff, binW, bodyQ, ressW, resW, ne_eq, forall_const, reduceCtorEq, implies_true, sets, oneAll, setD, rels, fillE, fillD, List.replicate, rowsOf, forall_eq, Nat.reduceMul, ↓zD, zT, e, h1, ndR_len, h2]
  refine wpS_loop (fun k : Nat => [(6, .int .i64 k), (5, .ref 0 2 0 0), (1, .int .i64 j), (0, .sl 6 (ndR f))]) (fun k => ⟨2, growO 1 1 (rows .i64 (List.replicate k (-1))) ++ [(0, ⟨2, [[.nils, growD 1 1 (rows .i64 (List.replicate k (-1)))]]⟩)]⟩) (fun k => k ≤ f.length) (fun k => f.length - k) 0 (Nat.zero_le _) ?_ ?_
  · (refine Weak.ren [] [0] (by simp) (by simp) (by decide) ?_; simp only [stay1, vwL, vw, vwF, sw, St.get, St.look, Fr.get, ↓reduceIte, reduceIte, Nat.reduceEqDiff, Nat.reduceAdd, Nat.reduceBEq, Nat.reduceLT, Nat.reduceLeDiff, exists_eq_left', ne_eq, reduceCtorEq, zR, List.replicate_zero, rows_nil, growD_nil, growO_nil, List.nil_append])
  intro k hk
  refine wpS_go mixed ?_
  by_cases h : k < f.length
  · have hd : ((k : Int) < (f.length : Int)) := by omega
    have hw : IntKind.i64.wrap ((k : Int) + 1) = ((k + 1 : Nat) : Int) := wrap_i64 (by omega)
    have hrl : (rows IntKind.i64 (List.replicate k (-1))).length = k := by simp [rows]
    have hsn : rows IntKind.i64 (List.replicate (k + 1) (-1)) = rows .i64 (List.replicate k (-1)) ++ [[.int .i64 (-1)]] := by
      rw [List.replicate_succ']; simp [rows]
    simp only [Int.reduceToNat, Int.reduceLT, Int.reduceLE, Int.reduceBEq, Int.reduceBNe, St0, argFr, ↓callZ, ↓midZ, ↓unZ, ↓thenW, ↓blockW, ↓opX, ↓opV, ↓pX, ↓pW, ↓putK, ↓putP, ↓atK, ↓normK, ↓postZ, ↓reduceIte, reduceIte, Nat.reduceEqDiff, Nat.reduceAdd, Nat.reduceBEq, Nat.reduceLT, Nat.reduceLeDiff, binW, bodyQ, ressW, resW, ne_eq, forall_const, reduceCtorEq, implies_true, sets, oneAll, setD, rels, fillE, fillD, List.replicate, rowsOf, forall_eq, Nat.reduceMul, ↓zD, zT, hd, ndR_len, hrl]
    (repeat refine And.intro (by first | omega | exact ui_nonneg _ | exact Int.natCast_nonneg _ | rfl | exact rows_one' _ _ | exact us_one _ | (intro _ h; cases h; done)) ?_)
    refine ⟨k + 1, by omega, ?_, by omega⟩
    rw [hsn]
    (refine Weak.ren [(1, 2)] [1, 0] (by simp) (by simp) (by decide) ?_; simp only [stay1, vwL, vw, vwF, sw, St.get, St.look, Fr.get, ↓reduceIte, reduceIte, Nat.reduceEqDiff, Nat.reduceAdd, Nat.reduceBEq, Nat.reduceLT, Nat.reduceLeDiff, exists_eq_left', ne_eq, reduceCtorEq, zR, hw])
  have hd : ¬ ((k : Int) < (f.length : Int)) := by omega
  obtain rfl : k = f.length := by omega
  simp only [Int.reduceToNat, Int.reduceLT, Int.reduceLE, Int.reduceBEq, Int.reduceBNe, St0, argFr, ↓callZ, ↓midZ, ↓unZ, ↓thenW, ↓blockW, ↓opX, ↓opV, ↓pX, ↓pW, ↓putK, ↓putP, ↓atK, ↓normK, ↓postZ, ↓reduceIte, reduceIte, Nat.reduceEqDiff, Nat.reduceAdd, Nat.reduceBEq, Nat.reduceLT, Nat.reduceLeDiff, binW, bodyQ, ressW, resW, ne_eq, forall_const, reduceCtorEq, implies_true, sets, oneAll, setD, rels, fillE, fillD, List.replicate, rowsOf, forall_eq, Nat.reduceMul, ↓zD, zT, hd, ndR_len]
  have hne : 0 < f.length := by cases f with | nil => exact absurd rfl c1 | cons a b => simp
  have hI0 : InvW f 2 (growO 1 1 (rows .i64 (List.replicate f.length (-1))) ++ [(0, ⟨2, [[.nils, growD 1 1 (rows .i64 (List.replicate f.length (-1)))]]⟩)]) 11 1 ⟨[], []⟩ (List.replicate f.length (-1)) := by
    have hcons : ∃ a b, rows IntKind.i64 (List.replicate f.length (-1)) = a :: b := by
      cases hl : f.length with
      | zero => omega
      | succ m => exact ⟨_, _, rfl⟩
    refine ⟨by omega, by rw [look_growO, if_neg (by omega)]; rfl, .inl rfl, ⟨by omega, by omega, ?_⟩, by simp, fun i hi => ?_, fun z k h => (by cases h), fun k hk => ?_⟩
    · obtain ⟨a, b, hab⟩ := hcons
      rw [hab]; rfl
    · simp [List.getD, hi, ulook]
    · rw [look_growO, if_neg (by omega), look_cons, if_neg (by omega)]; rfl
  obtain ⟨nx', objs', kO', dl', I1, _, _, _, cc⟩ := finish70 c3 (by omega) (j + 1) (i := j) (by omega) (show j < f.length by omega) ⟨Nat.le_refl _, by simp, fun p hp => by cases hp⟩ hI0
  have ee : (finishS f (j + 1) j ⟨[], []⟩).2.out = compactS f j := rfl
  have g0 := I1.h0
  have gO := I1.hO
  rw [ee] at g0 gO
  refine .go cc ?_
  simp only [Int.reduceToNat, Int.reduceLT, Int.reduceLE, Int.reduceBEq, Int.reduceBNe, St0, argFr, ↓callZ, ↓midZ, ↓unZ, ↓thenW, ↓blockW, ↓opX, ↓opV, ↓pX, ↓pW, ↓putK, ↓putP, ↓atK, ↓normK, ↓postZ, ↓reduceIte, reduceIte, Nat.reduceEqDiff, Nat.reduceAdd, Nat.reduceBEq, Nat.reduceLT, Nat.reduceLeDiff, binW, bodyQ, ressW, resW, ne_eq, forall_const, reduceCtorEq, implies_true, sets, oneAll, setD, rels, fillE, fillD, List.replicate, rowsOf, forall_eq, Nat.reduceMul, ↓zD, zT, g0, wOb]
  (repeat refine And.intro (by first | omega | exact ui_nonneg _ | exact Int.natCast_nonneg _ | rfl | exact rows_one' _ _ | exact us_one _ | (intro _ h; cases h; done)) ?_)
  rcases gO with hO | ⟨a1, a2, a3, a4⟩
  · rw [hO]
    exact .drop (by simp) (by simp [vw, ndR, growD])
  · exact .drop (by simp) (grow_viewL (by simp) (ndR_pure _) a4)
theorem refCompact40 (f : List Nd) : Runs Tryd.prog 40 [.sl 6 (ndR f)] (.sl 6 (ndR (compactA f))) := by
  refine CallT.go_fn mixed Tryd.func40 k40 (by simp) fun hf => ?_
  simp only [D.factL, D.fact, ndR_len] at hf
  have hlen := hf.1.1
  have e : IntKind.i64.wrap ((f.length : Int) - 1) = (f.length : Int) - 1 := wrap_i64 (by omega)
  simp only [Int.reduceToNat, Int.reduceLT, Int.reduceLE, Int.reduceBEq, Int.reduceBNe, St0, argFr, ↓callZ, ↓midZ, ↓unZ, ↓thenW, ↓blockW, ↓opX, ↓opV, ↓pX, ↓pW, ↓putK, ↓putP, ↓atK, ↓normK, ↓postZ, ↓reduceIte, reduceIte, Nat.reduceEqDiff, Nat.reduceAdd, Nat.reduceBEq, Nat.reduceLT, Nat.reduceLeDiff, binW, bodyQ, ressW, resW, ne_eq, forall_const, reduceCtorEq, implies_true, sets, oneAll, setD, rels, fillE, fillD, List.replicate, rowsOf, forall_eq, Nat.reduceMul, ↓zD, zT, ndR_len, e]
  refine .go (CallT.of_runs (refSub48 f _) (by simp [D.isPureL, D.isPure])) ?_
  simp only [Int.reduceToNat, Int.reduceLT, Int.reduceLE, Int.reduceBEq, Int.reduceBNe, St0, argFr, ↓callZ, ↓midZ, ↓unZ, ↓thenW, ↓blockW, ↓opX, ↓opV, ↓pX, ↓pW, ↓putK, ↓putP, ↓atK, ↓normK, ↓postZ, ↓reduceIte, reduceIte, Nat.reduceEqDiff, Nat.reduceAdd, Nat.reduceBEq, Nat.reduceLT, Nat.reduceLeDiff, binW, bodyQ, ressW, resW, ne_eq, forall_const, reduceCtorEq, implies_true, sets, oneAll, setD, rels, fillE, fillD, List.replicate, rowsOf, forall_eq, Nat.reduceMul, ↓zD, zT]
  exact .same
theorem refFacts42 (f : List Nd) : Runs Tryd.prog 42 [.sl 6 (ndR f)] (.int .i64 (factsA f)) := by
  have hlen := sub_len f ((f.length : Int) - 1)
  rw [show subA f ((f.length : Int) - 1) = compactA f from rfl] at hlen
  have hnd := validC f
  have hall : ∀ p ∈ compactA f, factN p < 4096 := fun p hp => by
    obtain ⟨k, hk⟩ := mem_nd hnd hp
    exact factN_lt hk
  refine CallT.go_fn mixed Tryd.func42 k42 (by simp) fun hf => ?_
  simp only [Int.reduceToNat, Int.reduceLT, Int.reduceLE, Int.reduceBEq, Int.reduceBNe, St0, argFr, ↓callZ, ↓midZ, ↓unZ, ↓thenW, ↓blockW, ↓opX, ↓opV, ↓pX, ↓pW, ↓putK, ↓putP, ↓atK, ↓normK, ↓postZ, ↓reduceIte, reduceIte, Nat.reduceEqDiff, Nat.reduceAdd, Nat.reduceBEq, Nat.reduceLT, Nat.reduceLeDiff, binW, bodyQ, ressW, resW, ne_eq, forall_const, reduceCtorEq, implies_true, sets, oneAll, setD, rels, fillE, fillD, List.replicate, rowsOf, forall_eq, Nat.reduceMul, ↓zD, zT]
  refine .go (CallT.of_runs (refCompact40 f) (by simp [D.isPureL, D.isPure])) ?_
  simp only [Int.reduceToNat, Int.reduceLT, Int.reduceLE, Int.reduceBEq, Int.reduceBNe, St0, argFr, ↓callZ, ↓midZ, ↓unZ, ↓thenW, ↓blockW, ↓opX, ↓opV, ↓pX, ↓pW, ↓putK, ↓putP, ↓atK, ↓normK, ↓postZ, ↓reduceIte, reduceIte, Nat.reduceEqDiff, Nat.reduceAdd, Nat.reduceBEq, Nat.reduceLT, Nat.reduceLeDiff, binW, bodyQ, ressW, resW, ne_eq, forall_const, reduceCtorEq, implies_true, sets, oneAll, setD, rels, fillE, fillD, List.replicate, rowsOf, forall_eq, Nat.reduceMul, ↓zD, zT]
  unfold factsA
  generalize compactA f = c at hlen hnd hall
  refine wpS_loop (fun k : Nat => [(5, .int .i64 k), (4, .int .i64 (unionN factN (c.take k))), (3, .sl 6 (ndR c))]) (fun _ => ⟨0, []⟩) (fun k => k ≤ c.length) (fun k => c.length - k) 0 (Nat.zero_le _) ?_ ?_
  · (refine Weak.same ?_; simp [sameF, Fr.get, unionN])
  intro k hk
  refine wpS_go mixed ?_
  by_cases h : k < c.length
  · have hd : ((k : Int) < (c.length : Int)) := by omega
    have hw : IntKind.i64.wrap ((k : Int) + 1) = ((k + 1 : Nat) : Int) := wrap_i64 (by omega)
    have hg := ndR_get c h
    have hq := hnd k h
    have hlt : unionN factN (c.take k) < 2 ^ 12 := unionN_lt fun p hp => hall p (List.mem_of_mem_take hp)
    have hs : unionN factN (c.take (k + 1)) = unionN factN (c.take k) ||| factN (c.getD k nd0) := by rw [take_snoc (d := nd0) h, unionN_snoc]
    generalize c.getD k nd0 = p at hg hq hs
    have hu := uses_fa p.op
    by_cases h3 : p.op = 3
    · have e3 : (p.op == 3) = true := by simpa using h3
      rw [e3] at hu
      obtain ⟨i0, i7⟩ := nd_fact hq hu.symm
      obtain ⟨m, hm⟩ := Int.eq_ofNat_of_zero_le i0
      have hm7 : m ≤ 7 := by omega
      have hp2 : (2 : Nat) ^ m < 2 ^ 62 := Nat.pow_lt_pow_right (by omega) (by omega)
      have hor := orNat (a := unionN factN (c.take k)) (b := 2 ^ m) (by omega) hp2
      have hfn : factN p = 2 ^ m := by rw [factN, if_pos hu.symm, hm, Int.toNat_natCast]
      simp only [Int.reduceToNat, Int.reduceLT, Int.reduceLE, Int.reduceBEq, Int.reduceBNe, St0, argFr, ↓callZ, ↓midZ, ↓unZ, ↓thenW, ↓blockW, ↓opX, ↓opV, ↓pX, ↓pW, ↓putK, ↓putP, ↓atK, ↓normK, ↓postZ, ↓reduceIte, reduceIte, Nat.reduceEqDiff, Nat.reduceAdd, Nat.reduceBEq, Nat.reduceLT, Nat.reduceLeDiff, binW, bodyQ, ressW, resW, ne_eq, forall_const, reduceCtorEq, implies_true, sets, oneAll, setD, rels, fillE, fillD, List.replicate, rowsOf, forall_eq, Nat.reduceMul, ↓zD, zT, hd, ndR_len, hg, Nd.row, e3, hm, shlN (show m ≤ 61 by omega), hor]
      (repeat refine And.intro (by first | omega | exact ui_nonneg _ | exact Int.natCast_nonneg _ | rfl | exact rows_one' _ _ | exact us_one _ | (intro _ h; cases h; done)) ?_)
      refine ⟨k + 1, by omega, ?_, by omega⟩
      rw [hs, hfn]
      (refine Weak.same ?_; simp only [sameF, Fr.get, ↓reduceIte, reduceIte, Nat.reduceEqDiff, reduceCtorEq, D.int.injEq, D.bool.injEq, D.sl.injEq, and_true, true_and, and_self])
      exact hw
    · have e3 : (p.op == 3) = false := by simpa using h3
      rw [e3] at hu
      have hfn : factN p = 0 := by rw [factN, if_neg (by rw [← hu]; simp)]
      simp only [Int.reduceToNat, Int.reduceLT, Int.reduceLE, Int.reduceBEq, Int.reduceBNe, St0, argFr, ↓callZ, ↓midZ, ↓unZ, ↓thenW, ↓blockW, ↓opX, ↓opV, ↓pX, ↓pW, ↓putK, ↓putP, ↓atK, ↓normK, ↓postZ, ↓reduceIte, reduceIte, Nat.reduceEqDiff, Nat.reduceAdd, Nat.reduceBEq, Nat.reduceLT, Nat.reduceLeDiff, binW, bodyQ, ressW, resW, ne_eq, forall_const, reduceCtorEq, implies_true, sets, oneAll, setD, rels, fillE, fillD, List.replicate, rowsOf, forall_eq, Nat.reduceMul, ↓zD, zT, hd, ndR_len, hg, Nd.row, e3]
      (repeat refine And.intro (by first | omega | exact ui_nonneg _ | exact Int.natCast_nonneg _ | rfl | exact rows_one' _ _ | exact us_one _ | (intro _ h; cases h; done)) ?_)
      refine ⟨k + 1, by omega, ?_, by omega⟩
      rw [hs, hfn, Nat.or_zero]
      (refine Weak.same ?_; simp only [sameF, Fr.get, ↓reduceIte, reduceIte, Nat.reduceEqDiff, reduceCtorEq, D.int.injEq, D.bool.injEq, D.sl.injEq, and_true, true_and, and_self])
      exact hw
  have hd : ¬ ((k : Int) < (c.length : Int)) := by omega
  obtain rfl : k = c.length := by omega
  simp only [Int.reduceToNat, Int.reduceLT, Int.reduceLE, Int.reduceBEq, Int.reduceBNe, St0, argFr, ↓callZ, ↓midZ, ↓unZ, ↓thenW, ↓blockW, ↓opX, ↓opV, ↓pX, ↓pW, ↓putK, ↓putP, ↓atK, ↓normK, ↓postZ, ↓reduceIte, reduceIte, Nat.reduceEqDiff, Nat.reduceAdd, Nat.reduceBEq, Nat.reduceLT, Nat.reduceLeDiff, binW, bodyQ, ressW, resW, ne_eq, forall_const, reduceCtorEq, implies_true, sets, oneAll, setD, rels, fillE, fillD, List.replicate, rowsOf, forall_eq, Nat.reduceMul, ↓zD, zT, hd, ndR_len]
  exact .same
end Go.Pd
