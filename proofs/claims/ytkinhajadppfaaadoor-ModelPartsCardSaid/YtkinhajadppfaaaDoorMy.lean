/- Package model: the example that each law asks first. -/
import Derived.Test.YtkinhajadppfaaaDoorMx
set_option linter.unusedSectionVars false
set_option linter.unusedVariables false
set_option linter.unusedSimpArgs false
set_option linter.defProp false
set_option maxRecDepth 20000
namespace Go.Pd
open Go Go.Proofs
theorem lit3 : D.int .u64 3 = D.int .u64 (ui 3#64) := rfl
theorem lit4 : D.int .u64 4 = D.int .u64 (ui 4#64) := rfl
theorem lit6 : D.int .u64 6 = D.int .u64 (ui 6#64) := rfl
theorem lit7 : D.int .u64 7 = D.int .u64 (ui 7#64) := rfl
def exM : Mod := ⟨3, [3#64], [[3#64, 3#64, 4#64], [1#64, 6#64, 6#64]]⟩
def exR : Mod := ⟨2, [1#64], [[1#64, 2#64], [3#64, 3#64]]⟩
def exN : Mod := ⟨3, [6#64], [[1#64, 6#64, 6#64], [3#64, 3#64, 4#64]]⟩
theorem ex_restrict : exM.restrict 6#64 = (exR, [1, 2], 0) := by kernel_rfl
theorem ex_gen1 : exM.generated 1#64 = (7#64, 0) := by kernel_rfl
theorem ex_gen4 : exM.generated 4#64 = (7#64, 0) := by kernel_rfl
theorem ex_rename : exM.rename [2, 1, 0] = (exN, 0) := by kernel_rfl
theorem ex_union : (exM.union exM).2 = 0 ∧ (exM.union exM).1.W = 6 := ⟨by kernel_rfl, by kernel_rfl⟩
theorem ex_group : exM.group 3 false = [3#64, 7#64, 6#64] := by kernel_rfl
theorem ex_meet : exM.group 3 true = [1#64, 2#64, 4#64] := by kernel_rfl
theorem ex_facts2 : exM.facts 2 = 0 := by kernel_rfl
theorem ex_facts1 : exM.facts 1 = 1 := by kernel_rfl
theorem ex_check : exM.check = 0 := by kernel_rfl
theorem ex_same1 : exR.same exR = true := by kernel_rfl
theorem ex_same2 : exN.same exN = true := by kernel_rfl
theorem ex_same3 : exM.same exM = true := by kernel_rfl
theorem example_runs : Runs Tryd.prog 33 [] exM.d := by
  refine CallT.go_fn mixed Tryd.func33 k33 (by simp) fun hf => ?_
  simp only [Int.reduceToNat, Int.reduceLT, Int.reduceLE, Int.reduceBEq, Int.reduceBNe, St0, argFr, ↓thenW, ↓blockW, ↓opX, ↓opV, ↓pX, ↓pW, ↓putK, ↓putP, ↓atK, ↓normK, ↓postZ, evO, Fr.get, Fr.put, ↓reduceIte, reduceIte, Nat.reduceEqDiff, Nat.reduceAdd, Nat.reduceBEq, Nat.reduceLT, Nat.reduceLeDiff, binW, bodyQ, ressW, resW, ne_eq, forall_const, reduceCtorEq, implies_true, sets, oneAll, St.new, St.get, St.look, St.set, setL, setD, rels, fillE, fillD, List.replicate, rowsOf, forall_eq, eraseL, St.erase, Nat.reduceMul, ↓zD, zT, lit3, lit4, lit6]
  (repeat (first | refine And.intro (by omega) ?_ | refine And.intro rfl ?_))
  exact .drop (by simp) (by simp [vw, vwL, exM, Mod.d, sets, rels, us, rr])
theorem awake_runs : Runs Tryd.prog 11 [] (.bool true) := by
  refine CallT.go_fn mixed Tryd.func11 k11 (by simp) fun hf => ?_
  simp only [Int.reduceToNat, Int.reduceLT, Int.reduceLE, Int.reduceBEq, Int.reduceBNe, St0, argFr, ↓thenW, ↓blockW, ↓opX, ↓opV, ↓pX, ↓pW, ↓putK, ↓putP, ↓atK, ↓normK, ↓postZ, evO, Fr.get, Fr.put, ↓reduceIte, reduceIte, Nat.reduceEqDiff, Nat.reduceAdd, Nat.reduceBEq, Nat.reduceLT, Nat.reduceLeDiff, binW, bodyQ, ressW, resW, ne_eq, forall_const, reduceCtorEq, implies_true, sets, oneAll, St.new, St.get, St.look, St.set, setL, setD, rels, fillE, fillD, List.replicate, rowsOf, forall_eq, eraseL, St.erase, Nat.reduceMul, ↓zD, zT]
  refine .go (CallT.of_runs example_runs rfl) ?_
  simp only [Int.reduceToNat, Int.reduceLT, Int.reduceLE, Int.reduceBEq, Int.reduceBNe, St0, argFr, ↓thenW, ↓blockW, ↓opX, ↓opV, ↓pX, ↓pW, ↓putK, ↓putP, ↓atK, ↓normK, ↓postZ, evO, Fr.get, Fr.put, ↓reduceIte, reduceIte, Nat.reduceEqDiff, Nat.reduceAdd, Nat.reduceBEq, Nat.reduceLT, Nat.reduceLeDiff, binW, bodyQ, ressW, resW, ne_eq, forall_const, reduceCtorEq, implies_true, sets, oneAll, St.new, St.get, St.look, St.set, setL, setD, rels, fillE, fillD, List.replicate, rowsOf, forall_eq, eraseL, St.erase, Nat.reduceMul, ↓zD, zT, lit3, lit4, lit6, lit7, Mod.d]
  (repeat (first | refine And.intro (by omega) ?_ | refine And.intro rfl ?_))
  refine .go (CallT.of_runs (restrict_runs exM 6#64) rfl) ?_
  rw [ex_restrict]
  simp only [Int.reduceToNat, Int.reduceLT, Int.reduceLE, Int.reduceBEq, Int.reduceBNe, St0, argFr, ↓thenW, ↓blockW, ↓opX, ↓opV, ↓pX, ↓pW, ↓putK, ↓putP, ↓atK, ↓normK, ↓postZ, evO, Fr.get, Fr.put, ↓reduceIte, reduceIte, Nat.reduceEqDiff, Nat.reduceAdd, Nat.reduceBEq, Nat.reduceLT, Nat.reduceLeDiff, binW, bodyQ, ressW, resW, ne_eq, forall_const, reduceCtorEq, implies_true, sets, oneAll, St.new, St.get, St.look, St.set, setL, setD, rels, fillE, fillD, List.replicate, rowsOf, forall_eq, eraseL, St.erase, Nat.reduceMul, ↓zD, zT, lit3, lit4, lit6, lit7, Mod.d, resD]
  (repeat (first | refine And.intro (by omega) ?_ | refine And.intro rfl ?_))
  refine .go (CallT.of_runs (generated_runs exM 1#64) rfl) ?_
  rw [ex_gen1]
  simp only [Int.reduceToNat, Int.reduceLT, Int.reduceLE, Int.reduceBEq, Int.reduceBNe, St0, argFr, ↓thenW, ↓blockW, ↓opX, ↓opV, ↓pX, ↓pW, ↓putK, ↓putP, ↓atK, ↓normK, ↓postZ, evO, Fr.get, Fr.put, ↓reduceIte, reduceIte, Nat.reduceEqDiff, Nat.reduceAdd, Nat.reduceBEq, Nat.reduceLT, Nat.reduceLeDiff, binW, bodyQ, ressW, resW, ne_eq, forall_const, reduceCtorEq, implies_true, sets, oneAll, St.new, St.get, St.look, St.set, setL, setD, rels, fillE, fillD, List.replicate, rowsOf, forall_eq, eraseL, St.erase, Nat.reduceMul, ↓zD, zT, lit3, lit4, lit6, lit7, Mod.d, genD]
  (repeat (first | refine And.intro (by omega) ?_ | refine And.intro rfl ?_))
  refine .go (CallT.of_runs (generated_runs exM 4#64) rfl) ?_
  rw [ex_gen4]
  simp only [Int.reduceToNat, Int.reduceLT, Int.reduceLE, Int.reduceBEq, Int.reduceBNe, St0, argFr, ↓thenW, ↓blockW, ↓opX, ↓opV, ↓pX, ↓pW, ↓putK, ↓putP, ↓atK, ↓normK, ↓postZ, evO, Fr.get, Fr.put, ↓reduceIte, reduceIte, Nat.reduceEqDiff, Nat.reduceAdd, Nat.reduceBEq, Nat.reduceLT, Nat.reduceLeDiff, binW, bodyQ, ressW, resW, ne_eq, forall_const, reduceCtorEq, implies_true, sets, oneAll, St.new, St.get, St.look, St.set, setL, setD, rels, fillE, fillD, List.replicate, rowsOf, forall_eq, eraseL, St.erase, Nat.reduceMul, ↓zD, zT, lit3, lit4, lit6, lit7, Mod.d, genD]
  (repeat (first | refine And.intro (by omega) ?_ | refine And.intro rfl ?_))
  refine .go (CallT.of_runs (rename_runs exM [2, 1, 0]) rfl) ?_
  rw [ex_rename]
  simp only [Int.reduceToNat, Int.reduceLT, Int.reduceLE, Int.reduceBEq, Int.reduceBNe, St0, argFr, ↓thenW, ↓blockW, ↓opX, ↓opV, ↓pX, ↓pW, ↓putK, ↓putP, ↓atK, ↓normK, ↓postZ, evO, Fr.get, Fr.put, ↓reduceIte, reduceIte, Nat.reduceEqDiff, Nat.reduceAdd, Nat.reduceBEq, Nat.reduceLT, Nat.reduceLeDiff, binW, bodyQ, ressW, resW, ne_eq, forall_const, reduceCtorEq, implies_true, sets, oneAll, St.new, St.get, St.look, St.set, setL, setD, rels, fillE, fillD, List.replicate, rowsOf, forall_eq, eraseL, St.erase, Nat.reduceMul, ↓zD, zT, lit3, lit4, lit6, lit7, Mod.d, unD]
  (repeat (first | refine And.intro (by omega) ?_ | refine And.intro rfl ?_))
  refine .go (CallT.of_runs (union_runs exM exM) rfl) ?_
  have hu1 := ex_union.1
  have hu2 := ex_union.2
  generalize exM.union exM = un at *
  simp only [Int.reduceToNat, Int.reduceLT, Int.reduceLE, Int.reduceBEq, Int.reduceBNe, St0, argFr, ↓thenW, ↓blockW, ↓opX, ↓opV, ↓pX, ↓pW, ↓putK, ↓putP, ↓atK, ↓normK, ↓postZ, evO, Fr.get, Fr.put, ↓reduceIte, reduceIte, Nat.reduceEqDiff, Nat.reduceAdd, Nat.reduceBEq, Nat.reduceLT, Nat.reduceLeDiff, binW, bodyQ, ressW, resW, ne_eq, forall_const, reduceCtorEq, implies_true, sets, oneAll, St.new, St.get, St.look, St.set, setL, setD, rels, fillE, fillD, List.replicate, rowsOf, forall_eq, eraseL, St.erase, Nat.reduceMul, ↓zD, zT, lit3, lit4, lit6, lit7, Mod.d, unD, hu1]
  (repeat (first | refine And.intro (by omega) ?_ | refine And.intro rfl ?_))
  refine .go (CallT.of_runs (refSame_runs exR exR) rfl) ?_
  rw [ex_same1]
  simp only [Int.reduceToNat, Int.reduceLT, Int.reduceLE, Int.reduceBEq, Int.reduceBNe, St0, argFr, ↓thenW, ↓blockW, ↓opX, ↓opV, ↓pX, ↓pW, ↓putK, ↓putP, ↓atK, ↓normK, ↓postZ, evO, Fr.get, Fr.put, ↓reduceIte, reduceIte, Nat.reduceEqDiff, Nat.reduceAdd, Nat.reduceBEq, Nat.reduceLT, Nat.reduceLeDiff, binW, bodyQ, ressW, resW, ne_eq, forall_const, reduceCtorEq, implies_true, sets, oneAll, St.new, St.get, St.look, St.set, setL, setD, rels, fillE, fillD, List.replicate, rowsOf, forall_eq, eraseL, St.erase, Nat.reduceMul, ↓zD, zT, lit3, lit4, lit6, lit7, Mod.d, hu2]
  (repeat (first | refine And.intro (by omega) ?_ | refine And.intro rfl ?_))
  refine .go (CallT.of_runs (group_runs exM 3) rfl) ?_
  rw [ex_group]
  simp only [Int.reduceToNat, Int.reduceLT, Int.reduceLE, Int.reduceBEq, Int.reduceBNe, St0, argFr, ↓thenW, ↓blockW, ↓opX, ↓opV, ↓pX, ↓pW, ↓putK, ↓putP, ↓atK, ↓normK, ↓postZ, evO, Fr.get, Fr.put, ↓reduceIte, reduceIte, Nat.reduceEqDiff, Nat.reduceAdd, Nat.reduceBEq, Nat.reduceLT, Nat.reduceLeDiff, binW, bodyQ, ressW, resW, ne_eq, forall_const, reduceCtorEq, implies_true, sets, oneAll, St.new, St.get, St.look, St.set, setL, setD, rels, fillE, fillD, List.replicate, rowsOf, forall_eq, eraseL, St.erase, Nat.reduceMul, ↓zD, zT, lit3, lit4, lit6, lit7, Mod.d, hu2]
  (repeat (first | refine And.intro (by omega) ?_ | refine And.intro rfl ?_))
  refine .go (CallT.of_runs (sameSets_runs [3#64, 7#64, 6#64] [3#64, 7#64, 6#64]) rfl) ?_
  simp only [Int.reduceToNat, Int.reduceLT, Int.reduceLE, Int.reduceBEq, Int.reduceBNe, St0, argFr, ↓thenW, ↓blockW, ↓opX, ↓opV, ↓pX, ↓pW, ↓putK, ↓putP, ↓atK, ↓normK, ↓postZ, evO, Fr.get, Fr.put, ↓reduceIte, reduceIte, Nat.reduceEqDiff, Nat.reduceAdd, Nat.reduceBEq, Nat.reduceLT, Nat.reduceLeDiff, binW, bodyQ, ressW, resW, ne_eq, forall_const, reduceCtorEq, implies_true, sets, oneAll, St.new, St.get, St.look, St.set, setL, setD, rels, fillE, fillD, List.replicate, rowsOf, forall_eq, eraseL, St.erase, Nat.reduceMul, ↓zD, zT, lit3, lit4, lit6, lit7, Mod.d, hu2]
  (repeat (first | refine And.intro (by omega) ?_ | refine And.intro rfl ?_))
  refine .go (CallT.of_runs (meet_runs exM 3) rfl) ?_
  rw [ex_meet]
  simp only [Int.reduceToNat, Int.reduceLT, Int.reduceLE, Int.reduceBEq, Int.reduceBNe, St0, argFr, ↓thenW, ↓blockW, ↓opX, ↓opV, ↓pX, ↓pW, ↓putK, ↓putP, ↓atK, ↓normK, ↓postZ, evO, Fr.get, Fr.put, ↓reduceIte, reduceIte, Nat.reduceEqDiff, Nat.reduceAdd, Nat.reduceBEq, Nat.reduceLT, Nat.reduceLeDiff, binW, bodyQ, ressW, resW, ne_eq, forall_const, reduceCtorEq, implies_true, sets, oneAll, St.new, St.get, St.look, St.set, setL, setD, rels, fillE, fillD, List.replicate, rowsOf, forall_eq, eraseL, St.erase, Nat.reduceMul, ↓zD, zT, lit3, lit4, lit6, lit7, Mod.d, hu2]
  (repeat (first | refine And.intro (by omega) ?_ | refine And.intro rfl ?_))
  refine .go (CallT.of_runs (sameSets_runs [1#64, 2#64, 4#64] [1#64, 2#64, 4#64]) rfl) ?_
  simp only [Int.reduceToNat, Int.reduceLT, Int.reduceLE, Int.reduceBEq, Int.reduceBNe, St0, argFr, ↓thenW, ↓blockW, ↓opX, ↓opV, ↓pX, ↓pW, ↓putK, ↓putP, ↓atK, ↓normK, ↓postZ, evO, Fr.get, Fr.put, ↓reduceIte, reduceIte, Nat.reduceEqDiff, Nat.reduceAdd, Nat.reduceBEq, Nat.reduceLT, Nat.reduceLeDiff, binW, bodyQ, ressW, resW, ne_eq, forall_const, reduceCtorEq, implies_true, sets, oneAll, St.new, St.get, St.look, St.set, setL, setD, rels, fillE, fillD, List.replicate, rowsOf, forall_eq, eraseL, St.erase, Nat.reduceMul, ↓zD, zT, lit3, lit4, lit6, lit7, Mod.d, hu2]
  (repeat (first | refine And.intro (by omega) ?_ | refine And.intro rfl ?_))
  refine .go (CallT.of_runs (refSame_runs exN exN) rfl) ?_
  rw [ex_same2]
  simp only [Int.reduceToNat, Int.reduceLT, Int.reduceLE, Int.reduceBEq, Int.reduceBNe, St0, argFr, ↓thenW, ↓blockW, ↓opX, ↓opV, ↓pX, ↓pW, ↓putK, ↓putP, ↓atK, ↓normK, ↓postZ, evO, Fr.get, Fr.put, ↓reduceIte, reduceIte, Nat.reduceEqDiff, Nat.reduceAdd, Nat.reduceBEq, Nat.reduceLT, Nat.reduceLeDiff, binW, bodyQ, ressW, resW, ne_eq, forall_const, reduceCtorEq, implies_true, sets, oneAll, St.new, St.get, St.look, St.set, setL, setD, rels, fillE, fillD, List.replicate, rowsOf, forall_eq, eraseL, St.erase, Nat.reduceMul, ↓zD, zT, lit3, lit4, lit6, lit7, Mod.d, hu2]
  (repeat (first | refine And.intro (by omega) ?_ | refine And.intro rfl ?_))
  refine .go (CallT.of_runs (facts_runs exM 2) rfl) ?_
  rw [ex_facts2]
  simp only [Int.reduceToNat, Int.reduceLT, Int.reduceLE, Int.reduceBEq, Int.reduceBNe, St0, argFr, ↓thenW, ↓blockW, ↓opX, ↓opV, ↓pX, ↓pW, ↓putK, ↓putP, ↓atK, ↓normK, ↓postZ, evO, Fr.get, Fr.put, ↓reduceIte, reduceIte, Nat.reduceEqDiff, Nat.reduceAdd, Nat.reduceBEq, Nat.reduceLT, Nat.reduceLeDiff, binW, bodyQ, ressW, resW, ne_eq, forall_const, reduceCtorEq, implies_true, sets, oneAll, St.new, St.get, St.look, St.set, setL, setD, rels, fillE, fillD, List.replicate, rowsOf, forall_eq, eraseL, St.erase, Nat.reduceMul, ↓zD, zT, lit3, lit4, lit6, lit7, Mod.d, hu2]
  (repeat (first | refine And.intro (by omega) ?_ | refine And.intro rfl ?_))
  refine .go (CallT.of_runs (facts_runs exM 1) rfl) ?_
  rw [ex_facts1]
  simp only [Int.reduceToNat, Int.reduceLT, Int.reduceLE, Int.reduceBEq, Int.reduceBNe, St0, argFr, ↓thenW, ↓blockW, ↓opX, ↓opV, ↓pX, ↓pW, ↓putK, ↓putP, ↓atK, ↓normK, ↓postZ, evO, Fr.get, Fr.put, ↓reduceIte, reduceIte, Nat.reduceEqDiff, Nat.reduceAdd, Nat.reduceBEq, Nat.reduceLT, Nat.reduceLeDiff, binW, bodyQ, ressW, resW, ne_eq, forall_const, reduceCtorEq, implies_true, sets, oneAll, St.new, St.get, St.look, St.set, setL, setD, rels, fillE, fillD, List.replicate, rowsOf, forall_eq, eraseL, St.erase, Nat.reduceMul, ↓zD, zT, lit3, lit4, lit6, lit7, Mod.d, hu2]
  (repeat (first | refine And.intro (by omega) ?_ | refine And.intro rfl ?_))
  refine .go (CallT.of_runs (check_runs exM) rfl) ?_
  rw [ex_check]
  simp only [Int.reduceToNat, Int.reduceLT, Int.reduceLE, Int.reduceBEq, Int.reduceBNe, St0, argFr, ↓thenW, ↓blockW, ↓opX, ↓opV, ↓pX, ↓pW, ↓putK, ↓putP, ↓atK, ↓normK, ↓postZ, evO, Fr.get, Fr.put, ↓reduceIte, reduceIte, Nat.reduceEqDiff, Nat.reduceAdd, Nat.reduceBEq, Nat.reduceLT, Nat.reduceLeDiff, binW, bodyQ, ressW, resW, ne_eq, forall_const, reduceCtorEq, implies_true, sets, oneAll, St.new, St.get, St.look, St.set, setL, setD, rels, fillE, fillD, List.replicate, rowsOf, forall_eq, eraseL, St.erase, Nat.reduceMul, ↓zD, zT, lit3, lit4, lit6, lit7, Mod.d, hu2]
  (repeat (first | refine And.intro (by omega) ?_ | refine And.intro rfl ?_))
  refine .go (CallT.of_runs (example_runs) rfl) ?_
  simp only [Int.reduceToNat, Int.reduceLT, Int.reduceLE, Int.reduceBEq, Int.reduceBNe, St0, argFr, ↓thenW, ↓blockW, ↓opX, ↓opV, ↓pX, ↓pW, ↓putK, ↓putP, ↓atK, ↓normK, ↓postZ, evO, Fr.get, Fr.put, ↓reduceIte, reduceIte, Nat.reduceEqDiff, Nat.reduceAdd, Nat.reduceBEq, Nat.reduceLT, Nat.reduceLeDiff, binW, bodyQ, ressW, resW, ne_eq, forall_const, reduceCtorEq, implies_true, sets, oneAll, St.new, St.get, St.look, St.set, setL, setD, rels, fillE, fillD, List.replicate, rowsOf, forall_eq, eraseL, St.erase, Nat.reduceMul, ↓zD, zT, lit3, lit4, lit6, lit7, Mod.d, hu2]
  (repeat (first | refine And.intro (by omega) ?_ | refine And.intro rfl ?_))
  refine .go (CallT.of_runs (same_runs exM exM) rfl) ?_
  rw [ex_same3]
  simp only [Int.reduceToNat, Int.reduceLT, Int.reduceLE, Int.reduceBEq, Int.reduceBNe, St0, argFr, ↓thenW, ↓blockW, ↓opX, ↓opV, ↓pX, ↓pW, ↓putK, ↓putP, ↓atK, ↓normK, ↓postZ, evO, Fr.get, Fr.put, ↓reduceIte, reduceIte, Nat.reduceEqDiff, Nat.reduceAdd, Nat.reduceBEq, Nat.reduceLT, Nat.reduceLeDiff, binW, bodyQ, ressW, resW, ne_eq, forall_const, reduceCtorEq, implies_true, sets, oneAll, St.new, St.get, St.look, St.set, setL, setD, rels, fillE, fillD, List.replicate, rowsOf, forall_eq, eraseL, St.erase, Nat.reduceMul, ↓zD, zT, lit3, lit4, lit6, lit7, Mod.d, hu2]
  (repeat (first | refine And.intro (by omega) ?_ | refine And.intro rfl ?_))
  exact .drop (by simp) (by simp [vw])
end Go.Pd
