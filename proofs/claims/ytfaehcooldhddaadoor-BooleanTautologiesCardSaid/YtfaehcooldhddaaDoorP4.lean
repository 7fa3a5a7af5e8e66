/- The reference's formulas: the canonical list: one node of the walk. -/
import Derived.Test.YtfaehcooldhddaaDoorP3
set_option linter.unusedSectionVars false
set_option linter.unusedVariables false
set_option linter.unusedSimpArgs false
set_option linter.defProp false
set_option maxRecDepth 20000
namespace Go.Pd
open Go Go.Proofs
open Rs Fm
namespace Fm
/-- The end of a node's walk. -/
def EndF (i nx2 : Nat) (objs2 : List (Nat × Ob)) (kO kD : Nat) (out : List Nd) (dl : List Int) (q : Nd) (d : D) (σ' : St) : Prop :=
  (∃ k : Nat, idxN q out 0 = some k ∧ d = .int .i64 k ∧ σ' = ⟨nx2 + 1, (nx2, ndOb q.op q.i q.e q.g q.x q.y) :: setL objs2 kD ⟨1, rows .i64 (dl.set i k)⟩⟩) ∨
  (idxN q out 0 = none ∧ d = .int .i64 out.length ∧ σ' = ⟨nx2 + 1 + 1, growO (nx2 + 1) 6 (ndR (out ++ [q])) ++ (nx2, ndOb q.op q.i q.e q.g q.x q.y) :: setL (setL (eraseL objs2 kO) 0 (wOb (nx2 + 1) kD (out ++ [q]) dl)) kD ⟨1, rows .i64 (dl.set i (out.length : Int))⟩⟩)
end Fm
theorem walk70 {f : List Nd} {nx i : Nat} {objs : List (Nat × Ob)} {kO kD : Nat} {s : CS} {dl : List Int} {p : Nd}
    (h0 : St.look objs 0 = some (wOb kO kD s.out dl)) (hn : 1 ≤ nx) (hkD : kD ≠ 0 ∧ kD < nx ∧ St.look objs kD = some ⟨1, rows .i64 dl⟩) (hdl : dl.length = f.length) (hi : i < f.length) (hp : f.getD i nd0 = p) (hno : dl.getD i 0 = -1)
    {a b : Int} {nx1 nx2 : Nat} {O1 O2 : List (Nat × Ob)} {kO2 : Nat} {out2 : List Nd} {dl2 : List Int}
    (h3 : ((usesA p.op).1.x = true ∧ ∃ objs1, CallT Tryd.prog 70 [.sl 6 (ndR f), .int .i64 p.x, .ref 0 2 0 0] ⟨nx + 1, (nx, ndOb p.op p.i p.e p.g p.x p.y) :: objs⟩ (.int .i64 a) ⟨nx1, objs1⟩ ∧ St.look objs1 nx = some (ndOb p.op p.i p.e p.g p.x p.y) ∧ O1 = setL objs1 nx (ndOb p.op p.i p.e p.g a p.y)) ∨
      ((usesA p.op).1.x = false ∧ a = p.x ∧ nx1 = nx + 1 ∧ O1 = (nx, ndOb p.op p.i p.e p.g p.x p.y) :: objs))
    (hN1 : St.look O1 nx = some (ndOb p.op p.i p.e p.g a p.y))
    (h4 : ((usesA p.op).1.y = true ∧ ∃ objs2, CallT Tryd.prog 70 [.sl 6 (ndR f), .int .i64 p.y, .ref 0 2 0 0] ⟨nx1, O1⟩ (.int .i64 b) ⟨nx2, objs2⟩ ∧ St.look objs2 nx = some (ndOb p.op p.i p.e p.g a p.y) ∧ O2 = setL objs2 nx (ndOb p.op p.i p.e p.g a b)) ∨
      ((usesA p.op).1.y = false ∧ b = p.y ∧ nx2 = nx1 ∧ O2 = O1))
    (hN2 : St.look O2 nx = some (ndOb p.op p.i p.e p.g a b)) (g0 : St.look O2 0 = some (wOb kO2 kD out2 dl2)) (gD : St.look O2 kD = some ⟨1, rows .i64 dl2⟩) (gd : dl2.length = f.length) (gO : kO2 ≠ 0 ∧ kO2 ≠ nx ∧ kO2 ≠ nx2 ∧ kO2 ≠ kD ∧ St.look O2 kO2 = growG 6 (ndR out2)) (hlen : out2.length ≤ 1000) (hnx : nx < nx2)
    {d : D} {σ' : St} (h5 : EndF i nx2 O2 kO2 kD out2 dl2 ⟨p.op, p.i, p.e, p.g, a, b⟩ d σ') :
    CallT Tryd.prog 70 [.sl 6 (ndR f), .int .i64 i, .ref 0 2 0 0] ⟨nx, objs⟩ d σ' := by
  have hg := ndR_get f hi
  rw [hp] at hg
  have hx0 : ¬ nx = 0 := by omega
  have hx1 : ¬ nx = kD := by omega
  obtain ⟨hkD0, hkDn, hkD⟩ := hkD
  obtain ⟨gO0, gOn, gO2, gOD, gO⟩ := gO
  have hrl : (rows IntKind.i64 dl).length = dl.length := rows_len _ _
  have hgd : (rows IntKind.i64 dl).getD i [] = [.int .i64 (-1)] := by
    rw [← hno]; simp [rows, List.getD, hdl, hi]
  refine CallT.go_fnS mixed Tryd.func70 k70 (by simp) fun hf => ?_
  refine wpS_seq (wpS_go mixed ?_)
  simp only [Int.reduceToNat, Int.reduceLT, Int.reduceLE, Int.reduceBEq, Int.reduceBNe, St0, argFr, ↓callZ, ↓midZ, ↓unZ, ↓thenW, ↓blockW, ↓opX, ↓opV, ↓pX, ↓pW, ↓putK, ↓putP, ↓atK, ↓normK, ↓postZ, ↓reduceIte, reduceIte, Nat.reduceEqDiff, Nat.reduceAdd, Nat.reduceBEq, Nat.reduceLT, Nat.reduceLeDiff, binW, bodyQ, ressW, resW, ne_eq, forall_const, reduceCtorEq, implies_true, sets, oneAll, setD, rels, fillE, fillD, List.replicate, rowsOf, forall_eq, Nat.reduceMul, ↓zD, zT]
  refine wpS_seq (wpS_go mixed ?_)
  simp only [Int.reduceToNat, Int.reduceLT, Int.reduceLE, Int.reduceBEq, Int.reduceBNe, St0, argFr, ↓callZ, ↓midZ, ↓unZ, ↓thenW, ↓blockW, ↓opX, ↓opV, ↓pX, ↓pW, ↓putK, ↓putP, ↓atK, ↓normK, ↓postZ, ↓reduceIte, reduceIte, Nat.reduceEqDiff, Nat.reduceAdd, Nat.reduceBEq, Nat.reduceLT, Nat.reduceLeDiff, binW, bodyQ, ressW, resW, ne_eq, forall_const, reduceCtorEq, implies_true, sets, oneAll, setD, rels, fillE, fillD, List.replicate, rowsOf, forall_eq, Nat.reduceMul, ↓zD, zT, h0, wOb, hrl, hdl, hkD, hgd]
  (repeat refine And.intro (by first | omega | exact ui_nonneg _ | exact Int.natCast_nonneg _ | rfl | exact rows_one' _ _ | exact us_one _ | (intro _ h; cases h; done)) ?_)
  refine wpS_seq (wpS_go mixed ?_)
  simp only [Int.reduceToNat, Int.reduceLT, Int.reduceLE, Int.reduceBEq, Int.reduceBNe, St0, argFr, ↓callZ, ↓midZ, ↓unZ, ↓thenW, ↓blockW, ↓opX, ↓opV, ↓pX, ↓pW, ↓putK, ↓putP, ↓atK, ↓normK, ↓postZ, ↓reduceIte, reduceIte, Nat.reduceEqDiff, Nat.reduceAdd, Nat.reduceBEq, Nat.reduceLT, Nat.reduceLeDiff, binW, bodyQ, ressW, resW, ne_eq, forall_const, reduceCtorEq, implies_true, sets, oneAll, setD, rels, fillE, fillD, List.replicate, rowsOf, forall_eq, Nat.reduceMul, ↓zD, zT, ndR_len, hg, Nd.row]
  (repeat refine And.intro (by first | omega | exact ui_nonneg _ | exact Int.natCast_nonneg _ | rfl | exact rows_one' _ _ | exact us_one _ | (intro _ h; cases h; done)) ?_)
  refine wpS_cut [(7, .ref nx 6 0 0), (2, .ref 0 2 0 0), (1, .int .i64 i), (0, .sl 6 (ndR f))] ⟨nx1, O1⟩ (wpS_go mixed ?_) ?_
  · simp only [Int.reduceToNat, Int.reduceLT, Int.reduceLE, Int.reduceBEq, Int.reduceBNe, St0, argFr, ↓callZ, ↓midZ, ↓unZ, ↓thenW, ↓blockW, ↓opX, ↓opV, ↓pX, ↓pW, ↓putK, ↓putP, ↓atK, ↓normK, ↓postZ, ↓reduceIte, reduceIte, Nat.reduceEqDiff, Nat.reduceAdd, Nat.reduceBEq, Nat.reduceLT, Nat.reduceLeDiff, binW, bodyQ, ressW, resW, ne_eq, forall_const, reduceCtorEq, implies_true, sets, oneAll, setD, rels, fillE, fillD, List.replicate, rowsOf, forall_eq, Nat.reduceMul, ↓zD, zT]
    refine .go (CallT.of_runs (UsesX26 p.op) rfl) ?_
    rcases h3 with ⟨ux, objs1, hc, hl, rfl⟩ | ⟨ux, rfl, rfl, rfl⟩
    · rw [ux]
      simp only [ndOb] at hc hl
      simp only [Int.reduceToNat, Int.reduceLT, Int.reduceLE, Int.reduceBEq, Int.reduceBNe, St0, argFr, ↓callZ, ↓midZ, ↓unZ, ↓thenW, ↓blockW, ↓opX, ↓opV, ↓pX, ↓pW, ↓putK, ↓putP, ↓atK, ↓normK, ↓postZ, ↓reduceIte, reduceIte, Nat.reduceEqDiff, Nat.reduceAdd, Nat.reduceBEq, Nat.reduceLT, Nat.reduceLeDiff, binW, bodyQ, ressW, resW, ne_eq, forall_const, reduceCtorEq, implies_true, sets, oneAll, setD, rels, fillE, fillD, List.replicate, rowsOf, forall_eq, Nat.reduceMul, ↓zD, zT, ndR_len, hg, Nd.row]
      (repeat refine And.intro (by first | omega | exact ui_nonneg _ | exact Int.natCast_nonneg _ | rfl | exact rows_one' _ _ | exact us_one _ | (intro _ h; cases h; done)) ?_)
      refine .go hc ?_
      simp only [Int.reduceToNat, Int.reduceLT, Int.reduceLE, Int.reduceBEq, Int.reduceBNe, St0, argFr, ↓callZ, ↓midZ, ↓unZ, ↓thenW, ↓blockW, ↓opX, ↓opV, ↓pX, ↓pW, ↓putK, ↓putP, ↓atK, ↓normK, ↓postZ, ↓reduceIte, reduceIte, Nat.reduceEqDiff, Nat.reduceAdd, Nat.reduceBEq, Nat.reduceLT, Nat.reduceLeDiff, binW, bodyQ, ressW, resW, ne_eq, forall_const, reduceCtorEq, implies_true, sets, oneAll, setD, rels, fillE, fillD, List.replicate, rowsOf, forall_eq, Nat.reduceMul, ↓zD, zT, hl]
      (repeat refine And.intro (by first | omega | exact ui_nonneg _ | exact Int.natCast_nonneg _ | rfl | exact rows_one' _ _ | exact us_one _ | (intro _ h; cases h; done)) ?_)
      (refine Weak.same ?_; simp [sameF, Fr.get, ndOb])
    · rw [ux]
      simp only [Int.reduceToNat, Int.reduceLT, Int.reduceLE, Int.reduceBEq, Int.reduceBNe, St0, argFr, ↓callZ, ↓midZ, ↓unZ, ↓thenW, ↓blockW, ↓opX, ↓opV, ↓pX, ↓pW, ↓putK, ↓putP, ↓atK, ↓normK, ↓postZ, ↓reduceIte, reduceIte, Nat.reduceEqDiff, Nat.reduceAdd, Nat.reduceBEq, Nat.reduceLT, Nat.reduceLeDiff, binW, bodyQ, ressW, resW, ne_eq, forall_const, reduceCtorEq, implies_true, sets, oneAll, setD, rels, fillE, fillD, List.replicate, rowsOf, forall_eq, Nat.reduceMul, ↓zD, zT]
      (refine Weak.same ?_; simp [sameF, Fr.get, ndOb])
  refine wpS_cut [(7, .ref nx 6 0 0), (2, .ref 0 2 0 0), (1, .int .i64 i), (0, .sl 6 (ndR f))] ⟨nx2, O2⟩ (wpS_go mixed ?_) ?_
  · simp only [ndOb] at hN1
    simp only [Int.reduceToNat, Int.reduceLT, Int.reduceLE, Int.reduceBEq, Int.reduceBNe, St0, argFr, ↓callZ, ↓midZ, ↓unZ, ↓thenW, ↓blockW, ↓opX, ↓opV, ↓pX, ↓pW, ↓putK, ↓putP, ↓atK, ↓normK, ↓postZ, ↓reduceIte, reduceIte, Nat.reduceEqDiff, Nat.reduceAdd, Nat.reduceBEq, Nat.reduceLT, Nat.reduceLeDiff, binW, bodyQ, ressW, resW, ne_eq, forall_const, reduceCtorEq, implies_true, sets, oneAll, setD, rels, fillE, fillD, List.replicate, rowsOf, forall_eq, Nat.reduceMul, ↓zD, zT, hN1]
    (repeat refine And.intro (by first | omega | exact ui_nonneg _ | exact Int.natCast_nonneg _ | rfl | exact rows_one' _ _ | exact us_one _ | (intro _ h; cases h; done)) ?_)
    refine .go (CallT.of_runs (UsesY27 p.op) rfl) ?_
    rcases h4 with ⟨uy, objs2, hc, hl, rfl⟩ | ⟨uy, rfl, rfl, rfl⟩
    · rw [uy]
      simp only [ndOb] at hc hl
      simp only [Int.reduceToNat, Int.reduceLT, Int.reduceLE, Int.reduceBEq, Int.reduceBNe, St0, argFr, ↓callZ, ↓midZ, ↓unZ, ↓thenW, ↓blockW, ↓opX, ↓opV, ↓pX, ↓pW, ↓putK, ↓putP, ↓atK, ↓normK, ↓postZ, ↓reduceIte, reduceIte, Nat.reduceEqDiff, Nat.reduceAdd, Nat.reduceBEq, Nat.reduceLT, Nat.reduceLeDiff, binW, bodyQ, ressW, resW, ne_eq, forall_const, reduceCtorEq, implies_true, sets, oneAll, setD, rels, fillE, fillD, List.replicate, rowsOf, forall_eq, Nat.reduceMul, ↓zD, zT, ndR_len, hg, Nd.row]
      (repeat refine And.intro (by first | omega | exact ui_nonneg _ | exact Int.natCast_nonneg _ | rfl | exact rows_one' _ _ | exact us_one _ | (intro _ h; cases h; done)) ?_)
      refine .go hc ?_
      simp only [Int.reduceToNat, Int.reduceLT, Int.reduceLE, Int.reduceBEq, Int.reduceBNe, St0, argFr, ↓callZ, ↓midZ, ↓unZ, ↓thenW, ↓blockW, ↓opX, ↓opV, ↓pX, ↓pW, ↓putK, ↓putP, ↓atK, ↓normK, ↓postZ, ↓reduceIte, reduceIte, Nat.reduceEqDiff, Nat.reduceAdd, Nat.reduceBEq, Nat.reduceLT, Nat.reduceLeDiff, binW, bodyQ, ressW, resW, ne_eq, forall_const, reduceCtorEq, implies_true, sets, oneAll, setD, rels, fillE, fillD, List.replicate, rowsOf, forall_eq, Nat.reduceMul, ↓zD, zT, hl]
      (repeat refine And.intro (by first | omega | exact ui_nonneg _ | exact Int.natCast_nonneg _ | rfl | exact rows_one' _ _ | exact us_one _ | (intro _ h; cases h; done)) ?_)
      (refine Weak.same ?_; simp [sameF, Fr.get, ndOb])
    · rw [uy]
      simp only [Int.reduceToNat, Int.reduceLT, Int.reduceLE, Int.reduceBEq, Int.reduceBNe, St0, argFr, ↓callZ, ↓midZ, ↓unZ, ↓thenW, ↓blockW, ↓opX, ↓opV, ↓pX, ↓pW, ↓putK, ↓putP, ↓atK, ↓normK, ↓postZ, ↓reduceIte, reduceIte, Nat.reduceEqDiff, Nat.reduceAdd, Nat.reduceBEq, Nat.reduceLT, Nat.reduceLeDiff, binW, bodyQ, ressW, resW, ne_eq, forall_const, reduceCtorEq, implies_true, sets, oneAll, setD, rels, fillE, fillD, List.replicate, rowsOf, forall_eq, Nat.reduceMul, ↓zD, zT]
      (refine Weak.same ?_; simp [sameF, Fr.get, ndOb])
  refine wpS_go mixed ?_
  have hrl2 : (rows IntKind.i64 dl2).length = dl2.length := rows_len _ _
  have hset : ∀ x : Int, (rows IntKind.i64 dl2).set i [.int .i64 x] = rows .i64 (dl2.set i x) := fun x => by simp [rows, List.map_set]
  have hget : ∀ x : Int, (rows IntKind.i64 (dl2.set i x)).getD i [] = [.int .i64 x] := fun x => by simp [rows, List.getD, gd, hi]
  have y0 : ¬ nx2 = 0 := by omega
  have y1 : ¬ nx2 = nx := by omega
  have y2 : ¬ nx2 = kD := by omega
  have y3 : ¬ nx2 = kO2 := fun e => gO2 e.symm
  have y4 : ¬ nx2 + 1 = 0 := by omega
  have y5 : ¬ nx2 + 1 = nx := by omega
  have y6 : ¬ nx2 + 1 = kD := by omega
  have z1 : ¬ kD = nx2 + 1 := by omega
  have z0 : ¬ 0 = kD := fun e => hkD0 e.symm
  have z2 : ¬ kD = 0 := hkD0
  have z3 : ¬ 0 = nx := by omega
  have z4 : ¬ kD = nx := by omega
  have z5 : ¬ kD = nx2 := by omega
  have hgd2 : (rows IntKind.i64 dl2).getD i [] = [.int .i64 (dl2.getD i 0)] := by simp [rows, List.getD, gd, hi]
  simp only [ndOb] at hN2
  simp only [Int.reduceToNat, Int.reduceLT, Int.reduceLE, Int.reduceBEq, Int.reduceBNe, St0, argFr, ↓callZ, ↓midZ, ↓unZ, ↓thenW, ↓blockW, ↓opX, ↓opV, ↓pX, ↓pW, ↓putK, ↓putP, ↓atK, ↓normK, ↓postZ, ↓reduceIte, reduceIte, Nat.reduceEqDiff, Nat.reduceAdd, Nat.reduceBEq, Nat.reduceLT, Nat.reduceLeDiff, binW, bodyQ, ressW, resW, ne_eq, forall_const, reduceCtorEq, implies_true, sets, oneAll, setD, rels, fillE, fillD, List.replicate, rowsOf, forall_eq, Nat.reduceMul, ↓zD, zT, g0, wOb, hN2]
  (repeat refine And.intro (by first | omega | exact ui_nonneg _ | exact Int.natCast_nonneg _ | rfl | exact rows_one' _ _ | exact us_one _ | (intro _ h; cases h; done)) ?_)
  rcases h5 with ⟨k, e1, rfl, rfl⟩ | ⟨e1, rfl, rfl⟩
  · refine .go (put86 g0 (by omega) hlen gO0 gO2 gO (.inl ⟨k, e1, rfl, rfl⟩)) ?_
    simp only [Int.reduceToNat, Int.reduceLT, Int.reduceLE, Int.reduceBEq, Int.reduceBNe, St0, argFr, ↓callZ, ↓midZ, ↓unZ, ↓thenW, ↓blockW, ↓opX, ↓opV, ↓pX, ↓pW, ↓putK, ↓putP, ↓atK, ↓normK, ↓postZ, ↓reduceIte, reduceIte, Nat.reduceEqDiff, Nat.reduceAdd, Nat.reduceBEq, Nat.reduceLT, Nat.reduceLeDiff, binW, bodyQ, ressW, resW, ne_eq, forall_const, reduceCtorEq, implies_true, sets, oneAll, setD, rels, fillE, fillD, List.replicate, rowsOf, forall_eq, Nat.reduceMul, ↓zD, zT, g0, wOb, hN2, y0, y1, y2, ndOb, gD, hrl2, gd, look_setL, hgd2, hset, hget, z0, z2, z3, z4, z5]
    (repeat refine And.intro (by first | omega | exact ui_nonneg _ | exact Int.natCast_nonneg _ | rfl | exact rows_one' _ _ | exact us_one _ | (intro _ h; cases h; done)) ?_)
    exact .same
  · refine .go (put86 g0 (by omega) hlen gO0 gO2 gO (.inr ⟨e1, rfl, rfl⟩)) ?_
    simp only [Int.reduceToNat, Int.reduceLT, Int.reduceLE, Int.reduceBEq, Int.reduceBNe, St0, argFr, ↓callZ, ↓midZ, ↓unZ, ↓thenW, ↓blockW, ↓opX, ↓opV, ↓pX, ↓pW, ↓putK, ↓putP, ↓atK, ↓normK, ↓postZ, ↓reduceIte, reduceIte, Nat.reduceEqDiff, Nat.reduceAdd, Nat.reduceBEq, Nat.reduceLT, Nat.reduceLeDiff, binW, bodyQ, ressW, resW, ne_eq, forall_const, reduceCtorEq, implies_true, sets, oneAll, setD, rels, fillE, fillD, List.replicate, rowsOf, forall_eq, Nat.reduceMul, ↓zD, zT, g0, wOb, hN2, y0, y1, y2, y3, y4, y5, y6, gO0, gOn, gOD, ndOb, gD, hrl2, gd, look_setL, look_eraseL, hgd2, hset, hget, z0, z1, z2, z3, z4, z5]
    (repeat refine And.intro (by first | omega | exact ui_nonneg _ | exact Int.natCast_nonneg _ | rfl | exact rows_one' _ _ | exact us_one _ | (intro _ h; cases h; done)) ?_)
    exact .same
end Go.Pd
