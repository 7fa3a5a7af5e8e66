/- Merging: the laws: the examples. -/
import Derived.Test.YtjaohaomninnlaaM22
set_option linter.unusedSectionVars false
set_option linter.unusedVariables false
set_option linter.unusedSimpArgs false
set_option linter.defProp false
set_option maxRecDepth 20000
namespace Go.Pd
open Go Go.Proofs
open Mg
def exP : List (BitVec 64) := [8#64, 8#64, 1#64]
theorem ex1 : rankA 1 2 exP = ([4, 3, 3, 2], 0) := by decide +kernel
theorem ex2 : rankA 2 2 exP = ([2, 1, 1, 2], 0) := by decide +kernel
theorem descS_of {l m : List Int} (hp : m.Perm l) (hf : falling m) : descS l = m := (descS_eq hp hf).symm
theorem exL : listsM 2 exP = [[2, 2, 0], [1, 1, 1], [1, 1, 1], [2, 0, 0]] := by
  show [descS (distL 2 exP 0), descS (distL 2 exP 1), descS (distL 2 exP 2), descS (distL 2 exP 3)] = _
  rw [show distL 2 exP 0 = [2, 2, 0] by decide +kernel, show distL 2 exP 1 = [1, 1, 1] by decide +kernel, show distL 2 exP 2 = [1, 1, 1] by decide +kernel, show distL 2 exP 3 = [0, 0, 2] by decide +kernel]
  rw [descS_of (m := [2, 2, 0]) (by decide) (by unfold falling; decide), descS_of (m := [1, 1, 1]) (by decide) (by unfold falling; decide), descS_of (l := [0, 0, 2]) (m := [2, 0, 0]) (by decide) (by unfold falling; decide)]
theorem ex3 : rankA 3 2 exP = ([2, 0, 0, 1], 0) := by
  rw [rankA, if_neg (by decide +kernel), if_neg (by decide)]
  have e : ranksM 3 2 exP = (List.range (2 ^ 2)).map fun v => lexR (listsM 2 exP) v := by
    unfold ranksM
    refine List.map_congr_left fun v _ => ?_
    rw [rankV, if_pos rfl]
  show (ranksM 3 2 exP, (0 : Int)) = _
  rw [e, exL]
  decide +kernel
theorem ex4 : mergeA 1 2 exP 15#64 = (8#64, 0) := by decide +kernel
theorem ex5 : mergeA 2 2 exP 9#64 = (9#64, 0) := by decide +kernel
theorem ex6 : majA 2 [8#64, 8#64] 1#64 15#64 = (3, 0) := by decide +kernel
theorem ex7 : distM 2 exP 3 = ([0, 0, 2], 0) := by decide +kernel
theorem exR1 : Runs Try.prog 19 [.int .i64 1, .int .i64 2, .sl 1 (us exP)] (.tup [.sl 1 (rows .i64 [4, 3, 3, 2]), .int .i64 0]) := by
  have h := Ranks_runs 1 2 exP
  rw [ex1] at h; exact h
theorem exR2 : Runs Try.prog 19 [.int .i64 2, .int .i64 2, .sl 1 (us exP)] (.tup [.sl 1 (rows .i64 [2, 1, 1, 2]), .int .i64 0]) := by
  have h := Ranks_runs 2 2 exP
  rw [ex2] at h; exact h
theorem exR3 : Runs Try.prog 19 [.int .i64 3, .int .i64 2, .sl 1 (us exP)] (.tup [.sl 1 (rows .i64 [2, 0, 0, 1]), .int .i64 0]) := by
  have h := Ranks_runs 3 2 exP
  rw [ex3] at h; exact h
theorem exR4 : Runs Try.prog 11 [.int .i64 1, .int .i64 2, .sl 1 (us exP), .int .u64 (ui 15#64)] (.tup [.int .u64 (ui 8#64), .int .i64 0]) := by
  have h := Merge_runs 1 2 exP 15#64
  rw [ex4] at h; exact h
theorem exR5 : Runs Try.prog 11 [.int .i64 2, .int .i64 2, .sl 1 (us exP), .int .u64 (ui 9#64)] (.tup [.int .u64 (ui 9#64), .int .i64 0]) := by
  have h := Merge_runs 2 2 exP 9#64
  rw [ex5] at h; exact h
theorem exR6 : Runs Try.prog 13 [.int .i64 2, .sl 1 (us [8#64, 8#64]), .int .u64 (ui 1#64), .int .u64 (ui 15#64)] (.tup [.int .i64 3, .int .i64 0]) := by
  have h := Majority_runs 2 [8#64, 8#64] 1#64 15#64
  rw [ex6] at h; exact h
theorem exR7 : Runs Try.prog 17 [.int .i64 2, .sl 1 (us exP), .int .i64 3] (.tup [.sl 1 (rows .i64 [0, 0, 2]), .int .i64 0]) := by
  have h := Distances_runs 2 exP 3
  rw [ex7] at h; exact h
theorem same_self (a : List Int) : Runs Try.prog 25 [.sl 1 (rows .i64 a), .sl 1 (rows .i64 a)] (.bool true) := by
  have h := same_runs a a
  rw [decide_eq_true rfl] at h; exact h
theorem e8 : (8 : Int) = ui 8#64 := rfl
theorem e9 : (9 : Int) = ui 9#64 := rfl
theorem e15 : (15 : Int) = ui 15#64 := rfl
theorem awake_runs : Runs Try.prog 10 [] (.bool true) := by
  refine CallT.go_fn mixed Try.func10 k10 (by simp) fun hf => ?_
  simp (maxSteps := 1000000) only [Int.reduceToNat, Int.reduceLT, Int.reduceLE, Int.reduceBEq, Int.reduceBNe, St0, argFr, ↓callZ, ↓midZ, ↓unZ, ↓thenW, ↓blockW, ↓opX, ↓opV, ↓pX, ↓pW, ↓putK, ↓putP, ↓atK, ↓normK, ↓postZ, ↓reduceIte, reduceIte, Nat.reduceEqDiff, Nat.reduceAdd, Nat.reduceBEq, Nat.reduceLT, Nat.reduceLeDiff, binW, bodyQ, ressW, resW, ne_eq, forall_const, reduceCtorEq, implies_true, sets, oneAll, setD, rels, fillE, fillD, List.replicate, rowsOf, forall_eq, Nat.reduceMul, ↓zD, zT]
  (repeat refine And.intro (by first | omega | exact ui_nonneg _ | exact Int.natCast_nonneg _ | rfl | exact rows_one' _ _ | exact us_one _ | (intro _ h; cases h; done)) ?_)
  refine .go (CallT.of_runs exR1 rfl) ?_
  simp (maxSteps := 1000000) only [Int.reduceToNat, Int.reduceLT, Int.reduceLE, Int.reduceBEq, Int.reduceBNe, St0, argFr, ↓callZ, ↓midZ, ↓unZ, ↓thenW, ↓blockW, ↓opX, ↓opV, ↓pX, ↓pW, ↓putK, ↓putP, ↓atK, ↓normK, ↓postZ, ↓reduceIte, reduceIte, Nat.reduceEqDiff, Nat.reduceAdd, Nat.reduceBEq, Nat.reduceLT, Nat.reduceLeDiff, binW, bodyQ, ressW, resW, ne_eq, forall_const, reduceCtorEq, implies_true, sets, oneAll, setD, rels, fillE, fillD, List.replicate, rowsOf, forall_eq, Nat.reduceMul, ↓zD, zT]
  refine .go (CallT.of_runs exR2 rfl) ?_
  simp (maxSteps := 1000000) only [Int.reduceToNat, Int.reduceLT, Int.reduceLE, Int.reduceBEq, Int.reduceBNe, St0, argFr, ↓callZ, ↓midZ, ↓unZ, ↓thenW, ↓blockW, ↓opX, ↓opV, ↓pX, ↓pW, ↓putK, ↓putP, ↓atK, ↓normK, ↓postZ, ↓reduceIte, reduceIte, Nat.reduceEqDiff, Nat.reduceAdd, Nat.reduceBEq, Nat.reduceLT, Nat.reduceLeDiff, binW, bodyQ, ressW, resW, ne_eq, forall_const, reduceCtorEq, implies_true, sets, oneAll, setD, rels, fillE, fillD, List.replicate, rowsOf, forall_eq, Nat.reduceMul, ↓zD, zT]
  refine .go (CallT.of_runs exR3 rfl) ?_
  simp (maxSteps := 1000000) only [Int.reduceToNat, Int.reduceLT, Int.reduceLE, Int.reduceBEq, Int.reduceBNe, St0, argFr, ↓callZ, ↓midZ, ↓unZ, ↓thenW, ↓blockW, ↓opX, ↓opV, ↓pX, ↓pW, ↓putK, ↓putP, ↓atK, ↓normK, ↓postZ, ↓reduceIte, reduceIte, Nat.reduceEqDiff, Nat.reduceAdd, Nat.reduceBEq, Nat.reduceLT, Nat.reduceLeDiff, binW, bodyQ, ressW, resW, ne_eq, forall_const, reduceCtorEq, implies_true, sets, oneAll, setD, rels, fillE, fillD, List.replicate, rowsOf, forall_eq, Nat.reduceMul, ↓zD, zT]
  (repeat refine And.intro (by first | omega | exact ui_nonneg _ | exact Int.natCast_nonneg _ | rfl | exact rows_one' _ _ | exact us_one _ | (intro _ h; cases h; done)) ?_)
  refine .go (CallT.of_runs (same_self [4, 3, 3, 2]) rfl) ?_
  simp (maxSteps := 1000000) only [Int.reduceToNat, Int.reduceLT, Int.reduceLE, Int.reduceBEq, Int.reduceBNe, St0, argFr, ↓callZ, ↓midZ, ↓unZ, ↓thenW, ↓blockW, ↓opX, ↓opV, ↓pX, ↓pW, ↓putK, ↓putP, ↓atK, ↓normK, ↓postZ, ↓reduceIte, reduceIte, Nat.reduceEqDiff, Nat.reduceAdd, Nat.reduceBEq, Nat.reduceLT, Nat.reduceLeDiff, binW, bodyQ, ressW, resW, ne_eq, forall_const, reduceCtorEq, implies_true, sets, oneAll, setD, rels, fillE, fillD, List.replicate, rowsOf, forall_eq, Nat.reduceMul, ↓zD, zT]
  (repeat refine And.intro (by first | omega | exact ui_nonneg _ | exact Int.natCast_nonneg _ | rfl | exact rows_one' _ _ | exact us_one _ | (intro _ h; cases h; done)) ?_)
  refine .go (CallT.of_runs (same_self [2, 1, 1, 2]) rfl) ?_
  simp (maxSteps := 1000000) only [Int.reduceToNat, Int.reduceLT, Int.reduceLE, Int.reduceBEq, Int.reduceBNe, St0, argFr, ↓callZ, ↓midZ, ↓unZ, ↓thenW, ↓blockW, ↓opX, ↓opV, ↓pX, ↓pW, ↓putK, ↓putP, ↓atK, ↓normK, ↓postZ, ↓reduceIte, reduceIte, Nat.reduceEqDiff, Nat.reduceAdd, Nat.reduceBEq, Nat.reduceLT, Nat.reduceLeDiff, binW, bodyQ, ressW, resW, ne_eq, forall_const, reduceCtorEq, implies_true, sets, oneAll, setD, rels, fillE, fillD, List.replicate, rowsOf, forall_eq, Nat.reduceMul, ↓zD, zT]
  (repeat refine And.intro (by first | omega | exact ui_nonneg _ | exact Int.natCast_nonneg _ | rfl | exact rows_one' _ _ | exact us_one _ | (intro _ h; cases h; done)) ?_)
  refine .go (CallT.of_runs (same_self [2, 0, 0, 1]) rfl) ?_
  simp (maxSteps := 1000000) only [Int.reduceToNat, Int.reduceLT, Int.reduceLE, Int.reduceBEq, Int.reduceBNe, St0, argFr, ↓callZ, ↓midZ, ↓unZ, ↓thenW, ↓blockW, ↓opX, ↓opV, ↓pX, ↓pW, ↓putK, ↓putP, ↓atK, ↓normK, ↓postZ, ↓reduceIte, reduceIte, Nat.reduceEqDiff, Nat.reduceAdd, Nat.reduceBEq, Nat.reduceLT, Nat.reduceLeDiff, binW, bodyQ, ressW, resW, ne_eq, forall_const, reduceCtorEq, implies_true, sets, oneAll, setD, rels, fillE, fillD, List.replicate, rowsOf, forall_eq, Nat.reduceMul, ↓zD, zT]
  refine .go (CallT.of_runs exR4 rfl) ?_
  simp (maxSteps := 1000000) only [Int.reduceToNat, Int.reduceLT, Int.reduceLE, Int.reduceBEq, Int.reduceBNe, St0, argFr, ↓callZ, ↓midZ, ↓unZ, ↓thenW, ↓blockW, ↓opX, ↓opV, ↓pX, ↓pW, ↓putK, ↓putP, ↓atK, ↓normK, ↓postZ, ↓reduceIte, reduceIte, Nat.reduceEqDiff, Nat.reduceAdd, Nat.reduceBEq, Nat.reduceLT, Nat.reduceLeDiff, binW, bodyQ, ressW, resW, ne_eq, forall_const, reduceCtorEq, implies_true, sets, oneAll, setD, rels, fillE, fillD, List.replicate, rowsOf, forall_eq, Nat.reduceMul, ↓zD, zT]
  refine .go (CallT.of_runs exR5 rfl) ?_
  simp (maxSteps := 1000000) only [Int.reduceToNat, Int.reduceLT, Int.reduceLE, Int.reduceBEq, Int.reduceBNe, St0, argFr, ↓callZ, ↓midZ, ↓unZ, ↓thenW, ↓blockW, ↓opX, ↓opV, ↓pX, ↓pW, ↓putK, ↓putP, ↓atK, ↓normK, ↓postZ, ↓reduceIte, reduceIte, Nat.reduceEqDiff, Nat.reduceAdd, Nat.reduceBEq, Nat.reduceLT, Nat.reduceLeDiff, binW, bodyQ, ressW, resW, ne_eq, forall_const, reduceCtorEq, implies_true, sets, oneAll, setD, rels, fillE, fillD, List.replicate, rowsOf, forall_eq, Nat.reduceMul, ↓zD, zT]
  (repeat refine And.intro (by first | omega | exact ui_nonneg _ | exact Int.natCast_nonneg _ | rfl | exact rows_one' _ _ | exact us_one _ | (intro _ h; cases h; done)) ?_)
  refine .go (CallT.of_runs exR6 rfl) ?_
  simp (maxSteps := 1000000) only [Int.reduceToNat, Int.reduceLT, Int.reduceLE, Int.reduceBEq, Int.reduceBNe, St0, argFr, ↓callZ, ↓midZ, ↓unZ, ↓thenW, ↓blockW, ↓opX, ↓opV, ↓pX, ↓pW, ↓putK, ↓putP, ↓atK, ↓normK, ↓postZ, ↓reduceIte, reduceIte, Nat.reduceEqDiff, Nat.reduceAdd, Nat.reduceBEq, Nat.reduceLT, Nat.reduceLeDiff, binW, bodyQ, ressW, resW, ne_eq, forall_const, reduceCtorEq, implies_true, sets, oneAll, setD, rels, fillE, fillD, List.replicate, rowsOf, forall_eq, Nat.reduceMul, ↓zD, zT]
  refine .go (CallT.of_runs exR7 rfl) ?_
  simp (maxSteps := 1000000) only [Int.reduceToNat, Int.reduceLT, Int.reduceLE, Int.reduceBEq, Int.reduceBNe, St0, argFr, ↓callZ, ↓midZ, ↓unZ, ↓thenW, ↓blockW, ↓opX, ↓opV, ↓pX, ↓pW, ↓putK, ↓putP, ↓atK, ↓normK, ↓postZ, ↓reduceIte, reduceIte, Nat.reduceEqDiff, Nat.reduceAdd, Nat.reduceBEq, Nat.reduceLT, Nat.reduceLeDiff, binW, bodyQ, ressW, resW, ne_eq, forall_const, reduceCtorEq, implies_true, sets, oneAll, setD, rels, fillE, fillD, List.replicate, rowsOf, forall_eq, Nat.reduceMul, ↓zD, zT, show (ui 8#64 == 8) = true from rfl, show (ui 9#64 == 9) = true from rfl]
  (repeat refine And.intro (by first | omega | exact ui_nonneg _ | exact Int.natCast_nonneg _ | rfl | exact rows_one' _ _ | exact us_one _ | (intro _ h; cases h; done)) ?_)
  refine .go (CallT.of_runs (same_self [0, 0, 2]) rfl) ?_
  simp (maxSteps := 1000000) only [Int.reduceToNat, Int.reduceLT, Int.reduceLE, Int.reduceBEq, Int.reduceBNe, St0, argFr, ↓callZ, ↓midZ, ↓unZ, ↓thenW, ↓blockW, ↓opX, ↓opV, ↓pX, ↓pW, ↓putK, ↓putP, ↓atK, ↓normK, ↓postZ, ↓reduceIte, reduceIte, Nat.reduceEqDiff, Nat.reduceAdd, Nat.reduceBEq, Nat.reduceLT, Nat.reduceLeDiff, binW, bodyQ, ressW, resW, ne_eq, forall_const, reduceCtorEq, implies_true, sets, oneAll, setD, rels, fillE, fillD, List.replicate, rowsOf, forall_eq, Nat.reduceMul, ↓zD, zT]
  exact .same
end Go.Pd
