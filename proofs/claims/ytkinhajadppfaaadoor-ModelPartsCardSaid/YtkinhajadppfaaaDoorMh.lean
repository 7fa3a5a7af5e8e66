/- Package model and its specification: contracts, part h: few. -/
import Derived.Test.YtkinhajadppfaaaDoorMg
set_option linter.unusedSectionVars false
set_option linter.unusedVariables false
set_option linter.unusedSimpArgs false
set_option linter.defProp false
set_option maxRecDepth 20000
namespace Go.Pd
open Go Go.Proofs
def Mod.few (m : Mod) : Bool := decide (m.V.length ≤ 20) && decide (m.R.length ≤ 10) && m.R.all fun r => decide (r.length ≤ 70)

theorem Few_runs (m : Mod) : Runs Tryd.prog 35 [m.d, .int .i64 64] (.bool m.few) := by
  refine CallT.go_fn mixed Tryd.func35 k35 (by simp) fun hf => ?_
  simp only [Mod.d, rels, sets, D.factL, D.fact, us_len, rr_len] at hf
  have hla := hf.1.2.2.1.1
  by_cases h2 : (20 : Int) < m.V.length
  · have h2' : ¬ m.V.length ≤ 20 := by omega
    by_cases h1 : 64 < m.W
    · have h1' : ¬ m.W ≤ 64 := by omega
      simp only [Int.reduceToNat, Int.reduceLT, Int.reduceLE, Int.reduceBEq, Int.reduceBNe, St0, argFr, ↓thenW, ↓blockW, ↓opX, ↓opV, ↓pX, ↓pW, ↓putK, ↓putP, ↓atK, ↓normK, ↓postZ, evO, Fr.get, Fr.put, ↓reduceIte, reduceIte, Nat.reduceEqDiff, Nat.reduceAdd, Nat.reduceBEq, Nat.reduceLT, Nat.reduceLeDiff, binW, bodyQ, ressW, resW, ne_eq, forall_const, reduceCtorEq, implies_true, sets, oneAll, St.new, St.get, St.look, St.set, setL, setD, rels, fillE, fillD, List.replicate, rowsOf, forall_eq, eraseL, St.erase, Nat.reduceMul, ↓zD, zT, Mod.d, h1, h1', h2]
      exact .drop (by simp) (by simp [vw, Mod.few, h2'])
    · simp only [Int.reduceToNat, Int.reduceLT, Int.reduceLE, Int.reduceBEq, Int.reduceBNe, St0, argFr, ↓thenW, ↓blockW, ↓opX, ↓opV, ↓pX, ↓pW, ↓putK, ↓putP, ↓atK, ↓normK, ↓postZ, evO, Fr.get, Fr.put, ↓reduceIte, reduceIte, Nat.reduceEqDiff, Nat.reduceAdd, Nat.reduceBEq, Nat.reduceLT, Nat.reduceLeDiff, binW, bodyQ, ressW, resW, ne_eq, forall_const, reduceCtorEq, implies_true, sets, oneAll, St.new, St.get, St.look, St.set, setL, setD, rels, fillE, fillD, List.replicate, rowsOf, forall_eq, eraseL, St.erase, Nat.reduceMul, ↓zD, zT, Mod.d, h1, h2]
      exact .drop (by simp) (by simp [vw, Mod.few, h2'])
  have h2' : m.V.length ≤ 20 := by omega
  by_cases h3 : (10 : Int) < m.R.length
  · have h3' : ¬ m.R.length ≤ 10 := by omega
    by_cases h1 : 64 < m.W
    · have h1' : ¬ m.W ≤ 64 := by omega
      simp only [Int.reduceToNat, Int.reduceLT, Int.reduceLE, Int.reduceBEq, Int.reduceBNe, St0, argFr, ↓thenW, ↓blockW, ↓opX, ↓opV, ↓pX, ↓pW, ↓putK, ↓putP, ↓atK, ↓normK, ↓postZ, evO, Fr.get, Fr.put, ↓reduceIte, reduceIte, Nat.reduceEqDiff, Nat.reduceAdd, Nat.reduceBEq, Nat.reduceLT, Nat.reduceLeDiff, binW, bodyQ, ressW, resW, ne_eq, forall_const, reduceCtorEq, implies_true, sets, oneAll, St.new, St.get, St.look, St.set, setL, setD, rels, fillE, fillD, List.replicate, rowsOf, forall_eq, eraseL, St.erase, Nat.reduceMul, ↓zD, zT, Mod.d, h1, h1', h2, h3]
      exact .drop (by simp) (by simp [vw, Mod.few, h2', h3'])
    · simp only [Int.reduceToNat, Int.reduceLT, Int.reduceLE, Int.reduceBEq, Int.reduceBNe, St0, argFr, ↓thenW, ↓blockW, ↓opX, ↓opV, ↓pX, ↓pW, ↓putK, ↓putP, ↓atK, ↓normK, ↓postZ, evO, Fr.get, Fr.put, ↓reduceIte, reduceIte, Nat.reduceEqDiff, Nat.reduceAdd, Nat.reduceBEq, Nat.reduceLT, Nat.reduceLeDiff, binW, bodyQ, ressW, resW, ne_eq, forall_const, reduceCtorEq, implies_true, sets, oneAll, St.new, St.get, St.look, St.set, setL, setD, rels, fillE, fillD, List.replicate, rowsOf, forall_eq, eraseL, St.erase, Nat.reduceMul, ↓zD, zT, Mod.d, h1, h2, h3]
      exact .drop (by simp) (by simp [vw, Mod.few, h2', h3'])
  have h3' : m.R.length ≤ 10 := by omega
  by_cases h1 : 64 < m.W
  all_goals
    first
      | (have h1' : ¬ m.W ≤ 64 := by omega
         simp only [Int.reduceToNat, Int.reduceLT, Int.reduceLE, Int.reduceBEq, Int.reduceBNe, St0, argFr, ↓thenW, ↓blockW, ↓opX, ↓opV, ↓pX, ↓pW, ↓putK, ↓putP, ↓atK, ↓normK, ↓postZ, evO, Fr.get, Fr.put, ↓reduceIte, reduceIte, Nat.reduceEqDiff, Nat.reduceAdd, Nat.reduceBEq, Nat.reduceLT, Nat.reduceLeDiff, binW, bodyQ, ressW, resW, ne_eq, forall_const, reduceCtorEq, implies_true, sets, oneAll, St.new, St.get, St.look, St.set, setL, setD, rels, fillE, fillD, List.replicate, rowsOf, forall_eq, eraseL, St.erase, Nat.reduceMul, ↓zD, zT, Mod.d, h1, h1', h2, h3])
      | simp only [Int.reduceToNat, Int.reduceLT, Int.reduceLE, Int.reduceBEq, Int.reduceBNe, St0, argFr, ↓thenW, ↓blockW, ↓opX, ↓opV, ↓pX, ↓pW, ↓putK, ↓putP, ↓atK, ↓normK, ↓postZ, evO, Fr.get, Fr.put, ↓reduceIte, reduceIte, Nat.reduceEqDiff, Nat.reduceAdd, Nat.reduceBEq, Nat.reduceLT, Nat.reduceLeDiff, binW, bodyQ, ressW, resW, ne_eq, forall_const, reduceCtorEq, implies_true, sets, oneAll, St.new, St.get, St.look, St.set, setL, setD, rels, fillE, fillD, List.replicate, rowsOf, forall_eq, eraseL, St.erase, Nat.reduceMul, ↓zD, zT, Mod.d, h1, h2, h3]
    refine wpS_loop (fun k : Nat => [(5, .int .i64 k), (2, .ref 0 3 0 0)]) (fun _ => ⟨1, [(0, ⟨3, [[.int .i64 m.W, .sl 1 (us m.V), .sl 1 (rr m.R)]]⟩)]⟩)
      (fun k => k ≤ m.R.length ∧ (m.R.all fun r => decide (r.length ≤ 70)) = ((m.R.drop k).all fun r => decide (r.length ≤ 70))) (fun k => m.R.length - k) 0 ⟨Nat.zero_le _, rfl⟩ ?_ ?_
    · (refine Weak.same ?_; simp [sameF, Fr.get])
    intro k ⟨hk, hi⟩
    refine wpS_go mixed ?_
    by_cases h : k < m.R.length
    · have hd : ((k : Int) < (m.R.length : Int)) := by omega
      have e : m.R.drop k = m.R.getD k [] :: m.R.drop (k + 1) := by simp [List.getD, h]
      rw [e, List.all_cons] at hi
      by_cases hb : (70 : Int) < ((m.R.getD k []).length : Int)
      · simp only [Int.reduceToNat, Int.reduceLT, Int.reduceLE, Int.reduceBEq, Int.reduceBNe, St0, argFr, ↓thenW, ↓blockW, ↓opX, ↓opV, ↓pX, ↓pW, ↓putK, ↓putP, ↓atK, ↓normK, ↓postZ, evO, Fr.get, Fr.put, ↓reduceIte, reduceIte, Nat.reduceEqDiff, Nat.reduceAdd, Nat.reduceBEq, Nat.reduceLT, Nat.reduceLeDiff, binW, bodyQ, ressW, resW, ne_eq, forall_const, reduceCtorEq, implies_true, sets, oneAll, St.new, St.get, St.look, St.set, setL, setD, rels, fillE, fillD, List.replicate, rowsOf, forall_eq, eraseL, St.erase, Nat.reduceMul, ↓zD, zT, hd, rr_get _ h, hb]
        refine ⟨by omega, ?_⟩
        have hb2 : decide ((m.R.getD k []).length ≤ 70) = false := decide_eq_false (by omega)
        rw [hb2, Bool.false_and] at hi
        exact .drop (by simp) (by simp only [vw, Mod.few, hi, Bool.and_false])
      · simp only [Int.reduceToNat, Int.reduceLT, Int.reduceLE, Int.reduceBEq, Int.reduceBNe, St0, argFr, ↓thenW, ↓blockW, ↓opX, ↓opV, ↓pX, ↓pW, ↓putK, ↓putP, ↓atK, ↓normK, ↓postZ, evO, Fr.get, Fr.put, ↓reduceIte, reduceIte, Nat.reduceEqDiff, Nat.reduceAdd, Nat.reduceBEq, Nat.reduceLT, Nat.reduceLeDiff, binW, bodyQ, ressW, resW, ne_eq, forall_const, reduceCtorEq, implies_true, sets, oneAll, St.new, St.get, St.look, St.set, setL, setD, rels, fillE, fillD, List.replicate, rowsOf, forall_eq, eraseL, St.erase, Nat.reduceMul, ↓zD, zT, hd, rr_get _ h, hb]
        have hb2 : decide ((m.R.getD k []).length ≤ 70) = true := decide_eq_true (by omega)
        rw [hb2, Bool.true_and] at hi
        refine ⟨by omega, k + 1, ⟨by omega, hi⟩, ?_, by omega⟩
        (refine Weak.same ?_; simp [sameF, Fr.get])
        exact wrap_i64 (by omega)
    · have hd : ¬ ((k : Int) < (m.R.length : Int)) := by omega
      have hk' : k = m.R.length := by omega
      rw [hk', List.drop_length, List.all_nil] at hi
      simp only [Int.reduceToNat, Int.reduceLT, Int.reduceLE, Int.reduceBEq, Int.reduceBNe, St0, argFr, ↓thenW, ↓blockW, ↓opX, ↓opV, ↓pX, ↓pW, ↓putK, ↓putP, ↓atK, ↓normK, ↓postZ, evO, Fr.get, Fr.put, ↓reduceIte, reduceIte, Nat.reduceEqDiff, Nat.reduceAdd, Nat.reduceBEq, Nat.reduceLT, Nat.reduceLeDiff, binW, bodyQ, ressW, resW, ne_eq, forall_const, reduceCtorEq, implies_true, sets, oneAll, St.new, St.get, St.look, St.set, setL, setD, rels, fillE, fillD, List.replicate, rowsOf, forall_eq, eraseL, St.erase, Nat.reduceMul, ↓zD, zT, hd]
      exact .drop (by simp) (by simp only [vw, Mod.few, hi, h2', h3']; rfl)

theorem few_runs (m : Mod) : Runs Tryd.prog 12 [m.d] (.bool m.few) := by
  refine CallT.go_fn mixed Tryd.func12 k12 (by simp) fun hf => ?_
  simp only [Int.reduceToNat, Int.reduceLT, Int.reduceLE, Int.reduceBEq, Int.reduceBNe, St0, argFr, ↓thenW, ↓blockW, ↓opX, ↓opV, ↓pX, ↓pW, ↓putK, ↓putP, ↓atK, ↓normK, ↓postZ, evO, Fr.get, Fr.put, ↓reduceIte, reduceIte, Nat.reduceEqDiff, Nat.reduceAdd, Nat.reduceBEq, Nat.reduceLT, Nat.reduceLeDiff, binW, bodyQ, ressW, resW, ne_eq, forall_const, reduceCtorEq, implies_true, sets, oneAll, St.new, St.get, St.look, St.set, setL, setD, rels, fillE, fillD, List.replicate, rowsOf, forall_eq, eraseL, St.erase, Nat.reduceMul, ↓zD, zT, Mod.d]
  refine .go (CallT.of_runs (Few_runs m) rfl) ?_
  simp only [Int.reduceToNat, Int.reduceLT, Int.reduceLE, Int.reduceBEq, Int.reduceBNe, St0, argFr, ↓thenW, ↓blockW, ↓opX, ↓opV, ↓pX, ↓pW, ↓putK, ↓putP, ↓atK, ↓normK, ↓postZ, evO, Fr.get, Fr.put, ↓reduceIte, reduceIte, Nat.reduceEqDiff, Nat.reduceAdd, Nat.reduceBEq, Nat.reduceLT, Nat.reduceLeDiff, binW, bodyQ, ressW, resW, ne_eq, forall_const, reduceCtorEq, implies_true, sets, oneAll, St.new, St.get, St.look, St.set, setL, setD, rels, fillE, fillD, List.replicate, rowsOf, forall_eq, eraseL, St.erase, Nat.reduceMul, ↓zD, zT]
  exact .drop (by simp) (by simp only [vw])
end Go.Pd
