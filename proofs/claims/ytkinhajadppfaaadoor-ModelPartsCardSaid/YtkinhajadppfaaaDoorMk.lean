/- Package model: contracts, part k: Clone. -/
import Derived.Test.YtkinhajadppfaaaDoorMj
set_option linter.unusedSectionVars false
set_option linter.unusedVariables false
set_option linter.unusedSimpArgs false
set_option linter.defProp false
set_option maxRecDepth 20000
namespace Go.Pd
open Go Go.Proofs
/-- A clone of a list that is not empty: an object of one's own. -/
theorem clone_runs (s : BitVec 64) (l : List (BitVec 64)) (hl : l.length ≤ 1000) : CallT Tryd.prog 47 [sets (s :: l)] St0 (.osl 0 1 (l.length + 1)) ⟨1, [(0, ⟨1, us (s :: l)⟩)]⟩ := by
  refine CallT.go_fn mixed Tryd.func47 k47 (by simp) fun hf => ?_
  simp only [Int.reduceToNat, Int.reduceLT, Int.reduceLE, Int.reduceBEq, Int.reduceBNe, St0, argFr, ↓thenW, ↓blockW, ↓opX, ↓opV, ↓pX, ↓pW, ↓putK, ↓putP, ↓atK, ↓normK, ↓postZ, evO, Fr.get, Fr.put, ↓reduceIte, reduceIte, Nat.reduceEqDiff, Nat.reduceAdd, Nat.reduceBEq, Nat.reduceLT, Nat.reduceLeDiff, binW, bodyQ, ressW, resW, ne_eq, forall_const, reduceCtorEq, implies_true, sets, oneAll, St.new, St.get, St.look, St.set, setL, setD, rels, fillE, fillD, List.replicate, rowsOf, forall_eq, eraseL, St.erase, Nat.reduceMul, ↓zD, zT]
  exact ⟨by simp, us_one (s :: l), by omega, by omega, RetV.name (n := 0) (by simp) (us_pure (s :: l)) (by simp [vw])⟩
end Go.Pd
