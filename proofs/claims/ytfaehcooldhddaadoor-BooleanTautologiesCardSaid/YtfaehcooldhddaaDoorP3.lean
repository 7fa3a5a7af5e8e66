/- The reference's formulas: the canonical list: put. -/
import Derived.Test.YtfaehcooldhddaaDoorP2
import Derived.Test.YtfaehcooldhddaaDoorG3
set_option linter.unusedSectionVars false
set_option linter.unusedVariables false
set_option linter.unusedSimpArgs false
set_option linter.defProp false
set_option maxRecDepth 20000
namespace Go.Pd
open Go Go.Proofs
open Rs Fm
namespace Fm
/-- The walk's object: the list so far, and the numbers. -/
def wOb (kO kD : Nat) (out : List Nd) (dl : List Int) : Ob := ⟨2, [[growD kO 6 (ndR out), growD kD 1 (rows .i64 dl)]]⟩
/-- The end of put. -/
def EndP (nx : Nat) (objs : List (Nat × Ob)) (kO kD : Nat) (out : List Nd) (dl : List Int) (q : Nd) (d : D) (σ' : St) : Prop :=
  (∃ k : Nat, idxN q out 0 = some k ∧ d = .int .i64 k ∧ σ' = ⟨nx + 1, (nx, ndOb q.op q.i q.e q.g q.x q.y) :: objs⟩) ∨
  (idxN q out 0 = none ∧ d = .int .i64 out.length ∧ σ' = ⟨nx + 1 + 1, growO (nx + 1) 6 (ndR (out ++ [q])) ++ setL (eraseL ((nx, ndOb q.op q.i q.e q.g q.x q.y) :: objs) kO) 0 (wOb (nx + 1) kD (out ++ [q]) dl)⟩)
end Fm
theorem put86 {nx kO kD : Nat} {objs : List (Nat × Ob)} {out : List Nd} {dl : List Int} {q : Nd} {d : D} {σ' : St} (h0 : St.look objs 0 = some (wOb kO kD out dl)) (hn : 1 ≤ nx) (hlen : out.length ≤ 1000) (hk0 : kO ≠ 0) (hk1 : kO ≠ nx) (hk : St.look objs kO = growG 6 (ndR out))
    (h : EndP nx objs kO kD out dl q d σ') : CallT Tryd.prog 86 [.ref 0 2 0 0, .agg q.row] ⟨nx, objs⟩ d σ' := by
  have hx0 : ¬ nx = 0 := by omega
  have hx1 : ¬ nx = kO := fun e => hk1 e.symm
  refine CallT.go_fn mixed Tryd.func86 k86 (by simp) fun hf => ?_
  simp only [Int.reduceToNat, Int.reduceLT, Int.reduceLE, Int.reduceBEq, Int.reduceBNe, St0, argFr, ↓callZ, ↓midZ, ↓unZ, ↓thenW, ↓blockW, ↓opX, ↓opV, ↓pX, ↓pW, ↓putK, ↓putP, ↓atK, ↓normK, ↓postZ, ↓reduceIte, reduceIte, Nat.reduceEqDiff, Nat.reduceAdd, Nat.reduceBEq, Nat.reduceLT, Nat.reduceLeDiff, binW, bodyQ, ressW, resW, ne_eq, forall_const, reduceCtorEq, implies_true, sets, oneAll, setD, rels, fillE, fillD, List.replicate, rowsOf, forall_eq, Nat.reduceMul, ↓zD, zT, Nd.row]
  (repeat refine And.intro (by first | omega | exact ui_nonneg _ | exact Int.natCast_nonneg _ | rfl | exact rows_one' _ _ | exact us_one _ | (intro _ h; cases h; done)) ?_)
  refine wpS_loop (fun k : Nat => [(5, .int .i64 k), (3, .ref nx 6 0 0), (0, .ref 0 2 0 0)]) (fun _ => ⟨nx + 1, (nx, ndOb q.op q.i q.e q.g q.x q.y) :: objs⟩) (fun k => k ≤ out.length ∧ idxN q out 0 = idxN q (out.drop k) k) (fun k => out.length - k) 0 ⟨Nat.zero_le _, rfl⟩ ?_ ?_
  · (refine Weak.same ?_; simp [sameF, Fr.get, ndOb])
  intro k ⟨hkl, hi⟩
  refine wpS_go mixed ?_
  by_cases hlt : k < out.length
  case pos =>
    have hd : (k : Int) < (out.length : Int) := by omega
    have hg := ndR_get out hlt
    rw [drop_cons (d := nd0) hlt, idxN] at hi
    generalize out.getD k nd0 = p at hg hi
    by_cases hqp : q = p
    · subst hqp
      rw [if_pos rfl] at hi
      have hq : decide ([q.op, q.i, q.e, q.g, q.x, q.y] = [q.op, q.i, q.e, q.g, q.x, q.y]) = true := by simp
      simp only [Int.reduceToNat, Int.reduceLT, Int.reduceLE, Int.reduceBEq, Int.reduceBNe, St0, argFr, ↓callZ, ↓midZ, ↓unZ, ↓thenW, ↓blockW, ↓opX, ↓opV, ↓pX, ↓pW, ↓putK, ↓putP, ↓atK, ↓normK, ↓postZ, ↓reduceIte, reduceIte, Nat.reduceEqDiff, Nat.reduceAdd, Nat.reduceBEq, Nat.reduceLT, Nat.reduceLeDiff, binW, bodyQ, ressW, resW, ne_eq, forall_const, reduceCtorEq, implies_true, sets, oneAll, setD, rels, fillE, fillD, List.replicate, rowsOf, forall_eq, Nat.reduceMul, ↓zD, zT, hx0, hx1, h0, wOb, ndR_len, hd, hk, hg, Nd.row, ndOb, intsOf6, hq]
      (repeat refine And.intro (by first | omega | exact ui_nonneg _ | exact Int.natCast_nonneg _ | rfl | exact rows_one' _ _ | exact us_one _ | (intro _ h; cases h; done)) ?_)
      rcases h with ⟨k', e1, rfl, rfl⟩ | ⟨e1, _, _⟩
      · rw [hi] at e1
        cases e1
        simp only [ndOb]
        exact .same
      · rw [hi] at e1; cases e1
    · rw [if_neg hqp] at hi
      have hq : decide ([p.op, p.i, p.e, p.g, p.x, p.y] = [q.op, q.i, q.e, q.g, q.x, q.y]) = false := by
        rw [decide_eq_false_iff_not]
        exact fun h => hqp (key_inj h).symm
      simp only [Int.reduceToNat, Int.reduceLT, Int.reduceLE, Int.reduceBEq, Int.reduceBNe, St0, argFr, ↓callZ, ↓midZ, ↓unZ, ↓thenW, ↓blockW, ↓opX, ↓opV, ↓pX, ↓pW, ↓putK, ↓putP, ↓atK, ↓normK, ↓postZ, ↓reduceIte, reduceIte, Nat.reduceEqDiff, Nat.reduceAdd, Nat.reduceBEq, Nat.reduceLT, Nat.reduceLeDiff, binW, bodyQ, ressW, resW, ne_eq, forall_const, reduceCtorEq, implies_true, sets, oneAll, setD, rels, fillE, fillD, List.replicate, rowsOf, forall_eq, Nat.reduceMul, ↓zD, zT, hx0, hx1, h0, wOb, ndR_len, hd, hk, hg, Nd.row, ndOb, intsOf6, hq]
      (repeat refine And.intro (by first | omega | exact ui_nonneg _ | exact Int.natCast_nonneg _ | rfl | exact rows_one' _ _ | exact us_one _ | (intro _ h; cases h; done)) ?_)
      refine ⟨k + 1, ⟨by omega, hi⟩, ?_, by omega⟩
      (refine Weak.same ?_; simp only [sameF, Fr.get, ↓reduceIte, reduceIte, Nat.reduceEqDiff, reduceCtorEq, D.int.injEq, D.bool.injEq, D.sl.injEq, and_true, true_and, and_self])
      exact wrap_i64 (by omega)
  have hd : ¬ (k : Int) < (out.length : Int) := by omega
  rw [List.drop_eq_nil_of_le (by omega), idxN] at hi
  rcases h with ⟨k', e1, _, _⟩ | ⟨e1, rfl, rfl⟩
  · rw [hi] at e1; cases e1
  have hq0 : ¬ kO = 0 := hk0
  have er : ndR (out ++ [q]) = ndR out ++ [[.int .i64 q.op, .int .i64 q.i, .int .i64 q.e, .int .i64 q.g, .int .i64 q.x, .int .i64 q.y]] := by simp [ndR, Nd.row]
  simp only [Int.reduceToNat, Int.reduceLT, Int.reduceLE, Int.reduceBEq, Int.reduceBNe, St0, argFr, ↓callZ, ↓midZ, ↓unZ, ↓thenW, ↓blockW, ↓opX, ↓opV, ↓pX, ↓pW, ↓putK, ↓putP, ↓atK, ↓normK, ↓postZ, ↓reduceIte, reduceIte, Nat.reduceEqDiff, Nat.reduceAdd, Nat.reduceBEq, Nat.reduceLT, Nat.reduceLeDiff, binW, bodyQ, ressW, resW, ne_eq, forall_const, reduceCtorEq, implies_true, sets, oneAll, setD, rels, fillE, fillD, List.replicate, rowsOf, forall_eq, Nat.reduceMul, ↓zD, zT, hx0, hx1, h0, wOb, ndR_len, hd, hk, Nd.row, ndOb, look_setL, look_eraseL, hq0]
  (repeat refine And.intro (by first | omega | exact ui_nonneg _ | exact Int.natCast_nonneg _ | rfl | exact rows_one' _ _ | exact us_one _ | (intro _ h; cases h; done)) ?_)
  rw [er, show IntKind.i64.wrap (((out.length + 1 : Nat) : Int) - 1) = (out.length : Int) by rw [wrap_i64 (by omega)]; omega]
  exact .same
end Go.Pd
