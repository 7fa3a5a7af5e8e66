/- Package model and its specification: contracts, part f: equality. -/
import Derived.Test.YtkinhajadppfaaaDoorMe
set_option linter.unusedSectionVars false
set_option linter.unusedVariables false
set_option linter.unusedSimpArgs false
set_option linter.defProp false
set_option maxRecDepth 20000
namespace Go.Pd
open Go Go.Proofs

theorem sameSets_runs (a b : List (BitVec 64)) : Runs Tryd.prog 27 [sets a, sets b] (.bool (a == b)) := by
  refine CallT.go_fn mixed Tryd.func27 k27 (by simp) fun hf => ?_
  simp only [sets, D.factL, D.fact, us_len] at hf
  have hla := hf.1.1
  have hlb := hf.2.1.1
  by_cases hl : a.length = b.length
  case neg =>
    have e : ((a.length : Int) != (b.length : Int)) = true := by simp; omega
    simp only [Int.reduceToNat, Int.reduceLT, Int.reduceLE, Int.reduceBEq, Int.reduceBNe, St0, argFr, ↓thenW, ↓blockW, ↓opX, ↓opV, ↓pX, ↓pW, ↓putK, ↓putP, ↓atK, ↓normK, ↓postZ, evO, Fr.get, Fr.put, ↓reduceIte, reduceIte, Nat.reduceEqDiff, Nat.reduceAdd, Nat.reduceBEq, Nat.reduceLT, Nat.reduceLeDiff, binW, bodyQ, ressW, resW, ne_eq, forall_const, reduceCtorEq, implies_true, sets, oneAll, St.new, St.get, St.look, St.set, setL, setD, rels, fillE, fillD, List.replicate, rowsOf, forall_eq, eraseL, St.erase, Nat.reduceMul, ↓zD, zT, e]
    exact .drop (by simp) (by simp only [vw, (beq_eq_false_iff_ne.2 fun e => hl (congrArg List.length e) : (a == b) = false)])
  have e : ((a.length : Int) != (b.length : Int)) = false := by simp; omega
  simp only [Int.reduceToNat, Int.reduceLT, Int.reduceLE, Int.reduceBEq, Int.reduceBNe, St0, argFr, ↓thenW, ↓blockW, ↓opX, ↓opV, ↓pX, ↓pW, ↓putK, ↓putP, ↓atK, ↓normK, ↓postZ, evO, Fr.get, Fr.put, ↓reduceIte, reduceIte, Nat.reduceEqDiff, Nat.reduceAdd, Nat.reduceBEq, Nat.reduceLT, Nat.reduceLeDiff, binW, bodyQ, ressW, resW, ne_eq, forall_const, reduceCtorEq, implies_true, sets, oneAll, St.new, St.get, St.look, St.set, setL, setD, rels, fillE, fillD, List.replicate, rowsOf, forall_eq, eraseL, St.erase, Nat.reduceMul, ↓zD, zT, e]
  refine wpS_loop (fun k : Nat => [(5, .int .i64 k), (1, .sl 1 (us b)), (0, .sl 1 (us a))]) (fun _ => ⟨0, []⟩) (fun k => k ≤ a.length ∧ (a == b) = (a.drop k == b.drop k)) (fun k => a.length - k) 0 ⟨Nat.zero_le _, rfl⟩ ?_ ?_
  · (refine Weak.same ?_; simp [sameF, Fr.get])
  intro k ⟨hk, hi⟩
  refine wpS_go mixed ?_
  by_cases h : k < a.length
  · have hd : ((k : Int) < (a.length : Int)) := by omega
    have hd2 : ((k : Int) < (b.length : Int)) := by omega
    have hb' : k < b.length := by omega
    have e1 : a.drop k = a.getD k 0 :: a.drop (k + 1) := by simp [List.getD, h]
    have e2 : b.drop k = b.getD k 0 :: b.drop (k + 1) := by simp [List.getD, hb']
    rw [e1, e2] at hi
    simp only [Int.reduceToNat, Int.reduceLT, Int.reduceLE, Int.reduceBEq, Int.reduceBNe, St0, argFr, ↓thenW, ↓blockW, ↓opX, ↓opV, ↓pX, ↓pW, ↓putK, ↓putP, ↓atK, ↓normK, ↓postZ, evO, Fr.get, Fr.put, ↓reduceIte, reduceIte, Nat.reduceEqDiff, Nat.reduceAdd, Nat.reduceBEq, Nat.reduceLT, Nat.reduceLeDiff, binW, bodyQ, ressW, resW, ne_eq, forall_const, reduceCtorEq, implies_true, sets, oneAll, St.new, St.get, St.look, St.set, setL, setD, rels, fillE, fillD, List.replicate, rowsOf, forall_eq, eraseL, St.erase, Nat.reduceMul, ↓zD, zT, hd, us_get _ h, us_get _ hb']
    refine ⟨by omega, by omega, by omega, ?_⟩
    by_cases hb : a.getD k 0 = b.getD k 0
    · have hb2 : (a.getD k 0 != b.getD k 0) = false := by rw [hb]; simp
      rw [if_neg (by rw [hb2]; simp)]
      have hi' : (a == b) = (a.drop (k + 1) == b.drop (k + 1)) := by rw [hi, hb]; simp
      refine ⟨k + 1, ⟨by omega, hi'⟩, ?_, by omega⟩
      (refine Weak.same ?_; simp [sameF, Fr.get])
      exact wrap_i64 (by omega)
    · have hb2 : (a.getD k 0 != b.getD k 0) = true := by simpa using hb
      rw [if_pos hb2]
      have hi' : (a == b) = false := by rw [hi]; simp only [List.cons_beq_cons, beq_eq_false_iff_ne.2 hb, Bool.false_and]
      exact .drop (by simp) (by simp only [vw, hi'])
  · have hd : ¬ ((k : Int) < (a.length : Int)) := by omega
    have hk' : k = a.length := by omega
    simp only [Int.reduceToNat, Int.reduceLT, Int.reduceLE, Int.reduceBEq, Int.reduceBNe, St0, argFr, ↓thenW, ↓blockW, ↓opX, ↓opV, ↓pX, ↓pW, ↓putK, ↓putP, ↓atK, ↓normK, ↓postZ, evO, Fr.get, Fr.put, ↓reduceIte, reduceIte, Nat.reduceEqDiff, Nat.reduceAdd, Nat.reduceBEq, Nat.reduceLT, Nat.reduceLeDiff, binW, bodyQ, ressW, resW, ne_eq, forall_const, reduceCtorEq, implies_true, sets, oneAll, St.new, St.get, St.look, St.set, setL, setD, rels, fillE, fillD, List.replicate, rowsOf, forall_eq, eraseL, St.erase, Nat.reduceMul, ↓zD, zT, hd]
    have hi' : (a == b) = true := by rw [hi, hk', List.drop_length, hl, List.drop_length]; rfl
    exact .drop (by simp) (by simp only [vw, hi'])

theorem equal_runs (a b : List (BitVec 64)) : Runs Tryd.prog 53 [sets a, sets b] (.bool (a == b)) := by
  refine CallT.go_fn mixed Tryd.func53 k53 (by simp) fun hf => ?_
  simp only [sets, D.factL, D.fact, us_len] at hf
  have hla := hf.1.1
  have hlb := hf.2.1.1
  by_cases hl : a.length = b.length
  case neg =>
    have e : ((a.length : Int) != (b.length : Int)) = true := by simp; omega
    simp only [Int.reduceToNat, Int.reduceLT, Int.reduceLE, Int.reduceBEq, Int.reduceBNe, St0, argFr, ↓thenW, ↓blockW, ↓opX, ↓opV, ↓pX, ↓pW, ↓putK, ↓putP, ↓atK, ↓normK, ↓postZ, evO, Fr.get, Fr.put, ↓reduceIte, reduceIte, Nat.reduceEqDiff, Nat.reduceAdd, Nat.reduceBEq, Nat.reduceLT, Nat.reduceLeDiff, binW, bodyQ, ressW, resW, ne_eq, forall_const, reduceCtorEq, implies_true, sets, oneAll, St.new, St.get, St.look, St.set, setL, setD, rels, fillE, fillD, List.replicate, rowsOf, forall_eq, eraseL, St.erase, Nat.reduceMul, ↓zD, zT, e]
    exact .drop (by simp) (by simp only [vw, (beq_eq_false_iff_ne.2 fun e => hl (congrArg List.length e) : (a == b) = false)])
  have e : ((a.length : Int) != (b.length : Int)) = false := by simp; omega
  simp only [Int.reduceToNat, Int.reduceLT, Int.reduceLE, Int.reduceBEq, Int.reduceBNe, St0, argFr, ↓thenW, ↓blockW, ↓opX, ↓opV, ↓pX, ↓pW, ↓putK, ↓putP, ↓atK, ↓normK, ↓postZ, evO, Fr.get, Fr.put, ↓reduceIte, reduceIte, Nat.reduceEqDiff, Nat.reduceAdd, Nat.reduceBEq, Nat.reduceLT, Nat.reduceLeDiff, binW, bodyQ, ressW, resW, ne_eq, forall_const, reduceCtorEq, implies_true, sets, oneAll, St.new, St.get, St.look, St.set, setL, setD, rels, fillE, fillD, List.replicate, rowsOf, forall_eq, eraseL, St.erase, Nat.reduceMul, ↓zD, zT, e]
  refine wpS_loop (fun k : Nat => [(13, .int .i64 k), (12, .int .i64 a.length), (1, .sl 1 (us b)), (0, .sl 1 (us a))]) (fun _ => ⟨0, []⟩) (fun k => k ≤ a.length ∧ (a == b) = (a.drop k == b.drop k)) (fun k => a.length - k) 0 ⟨Nat.zero_le _, rfl⟩ ?_ ?_
  · (refine Weak.same ?_; simp [sameF, Fr.get])
  intro k ⟨hk, hi⟩
  refine wpS_go mixed ?_
  by_cases h : k < a.length
  · have hd : ((k : Int) < (a.length : Int)) := by omega
    have hd2 : ((k : Int) < (b.length : Int)) := by omega
    have hb' : k < b.length := by omega
    have e1 : a.drop k = a.getD k 0 :: a.drop (k + 1) := by simp [List.getD, h]
    have e2 : b.drop k = b.getD k 0 :: b.drop (k + 1) := by simp [List.getD, hb']
    rw [e1, e2] at hi
    simp only [Int.reduceToNat, Int.reduceLT, Int.reduceLE, Int.reduceBEq, Int.reduceBNe, St0, argFr, ↓thenW, ↓blockW, ↓opX, ↓opV, ↓pX, ↓pW, ↓putK, ↓putP, ↓atK, ↓normK, ↓postZ, evO, Fr.get, Fr.put, ↓reduceIte, reduceIte, Nat.reduceEqDiff, Nat.reduceAdd, Nat.reduceBEq, Nat.reduceLT, Nat.reduceLeDiff, binW, bodyQ, ressW, resW, ne_eq, forall_const, reduceCtorEq, implies_true, sets, oneAll, St.new, St.get, St.look, St.set, setL, setD, rels, fillE, fillD, List.replicate, rowsOf, forall_eq, eraseL, St.erase, Nat.reduceMul, ↓zD, zT, hd, us_get _ h, us_get _ hb']
    refine ⟨by omega, by omega, by omega, ?_⟩
    by_cases hb : a.getD k 0 = b.getD k 0
    · have hb2 : (a.getD k 0 != b.getD k 0) = false := by rw [hb]; simp
      rw [if_neg (by rw [hb2]; simp)]
      have hi' : (a == b) = (a.drop (k + 1) == b.drop (k + 1)) := by rw [hi, hb]; simp
      refine ⟨k + 1, ⟨by omega, hi'⟩, ?_, by omega⟩
      (refine Weak.same ?_; simp [sameF, Fr.get])
      exact wrap_i64 (by omega)
    · have hb2 : (a.getD k 0 != b.getD k 0) = true := by simpa using hb
      rw [if_pos hb2]
      have hi' : (a == b) = false := by rw [hi]; simp only [List.cons_beq_cons, beq_eq_false_iff_ne.2 hb, Bool.false_and]
      exact .drop (by simp) (by simp only [vw, hi'])
  · have hd : ¬ ((k : Int) < (a.length : Int)) := by omega
    have hk' : k = a.length := by omega
    simp only [Int.reduceToNat, Int.reduceLT, Int.reduceLE, Int.reduceBEq, Int.reduceBNe, St0, argFr, ↓thenW, ↓blockW, ↓opX, ↓opV, ↓pX, ↓pW, ↓putK, ↓putP, ↓atK, ↓normK, ↓postZ, evO, Fr.get, Fr.put, ↓reduceIte, reduceIte, Nat.reduceEqDiff, Nat.reduceAdd, Nat.reduceBEq, Nat.reduceLT, Nat.reduceLeDiff, binW, bodyQ, ressW, resW, ne_eq, forall_const, reduceCtorEq, implies_true, sets, oneAll, St.new, St.get, St.look, St.set, setL, setD, rels, fillE, fillD, List.replicate, rowsOf, forall_eq, eraseL, St.erase, Nat.reduceMul, ↓zD, zT, hd]
    have hi' : (a == b) = true := by rw [hi, hk', List.drop_length, hl, List.drop_length]; rfl
    exact .drop (by simp) (by simp only [vw, hi'])

theorem lsame_runs (a b : List (Int)) : Runs Tryd.prog 22 [.sl 1 (rows .i64 a), .sl 1 (rows .i64 b)] (.bool (a == b)) := by
  refine CallT.go_fn mixed Tryd.func22 k22 (by simp) fun hf => ?_
  simp only [sets, D.factL, D.fact, rows_len] at hf
  have hla := hf.1.1
  have hlb := hf.2.1.1
  by_cases hl : a.length = b.length
  case neg =>
    have e : ((a.length : Int) != (b.length : Int)) = true := by simp; omega
    simp only [Int.reduceToNat, Int.reduceLT, Int.reduceLE, Int.reduceBEq, Int.reduceBNe, St0, argFr, ↓thenW, ↓blockW, ↓opX, ↓opV, ↓pX, ↓pW, ↓putK, ↓putP, ↓atK, ↓normK, ↓postZ, evO, Fr.get, Fr.put, ↓reduceIte, reduceIte, Nat.reduceEqDiff, Nat.reduceAdd, Nat.reduceBEq, Nat.reduceLT, Nat.reduceLeDiff, binW, bodyQ, ressW, resW, ne_eq, forall_const, reduceCtorEq, implies_true, sets, oneAll, St.new, St.get, St.look, St.set, setL, setD, rels, fillE, fillD, List.replicate, rowsOf, forall_eq, eraseL, St.erase, Nat.reduceMul, ↓zD, zT, e]
    exact .drop (by simp) (by simp only [vw, (beq_eq_false_iff_ne.2 fun e => hl (congrArg List.length e) : (a == b) = false)])
  have e : ((a.length : Int) != (b.length : Int)) = false := by simp; omega
  simp only [Int.reduceToNat, Int.reduceLT, Int.reduceLE, Int.reduceBEq, Int.reduceBNe, St0, argFr, ↓thenW, ↓blockW, ↓opX, ↓opV, ↓pX, ↓pW, ↓putK, ↓putP, ↓atK, ↓normK, ↓postZ, evO, Fr.get, Fr.put, ↓reduceIte, reduceIte, Nat.reduceEqDiff, Nat.reduceAdd, Nat.reduceBEq, Nat.reduceLT, Nat.reduceLeDiff, binW, bodyQ, ressW, resW, ne_eq, forall_const, reduceCtorEq, implies_true, sets, oneAll, St.new, St.get, St.look, St.set, setL, setD, rels, fillE, fillD, List.replicate, rowsOf, forall_eq, eraseL, St.erase, Nat.reduceMul, ↓zD, zT, e]
  refine wpS_loop (fun k : Nat => [(13, .int .i64 k), (12, .int .i64 a.length), (1, .sl 1 (rows .i64 b)), (0, .sl 1 (rows .i64 a))]) (fun _ => ⟨0, []⟩) (fun k => k ≤ a.length ∧ (a == b) = (a.drop k == b.drop k)) (fun k => a.length - k) 0 ⟨Nat.zero_le _, rfl⟩ ?_ ?_
  · (refine Weak.same ?_; simp [sameF, Fr.get])
  intro k ⟨hk, hi⟩
  refine wpS_go mixed ?_
  by_cases h : k < a.length
  · have hd : ((k : Int) < (a.length : Int)) := by omega
    have hd2 : ((k : Int) < (b.length : Int)) := by omega
    have hb' : k < b.length := by omega
    have e1 : a.drop k = a.getD k 0 :: a.drop (k + 1) := by simp [List.getD, h]
    have e2 : b.drop k = b.getD k 0 :: b.drop (k + 1) := by simp [List.getD, hb']
    rw [e1, e2] at hi
    simp only [Int.reduceToNat, Int.reduceLT, Int.reduceLE, Int.reduceBEq, Int.reduceBNe, St0, argFr, ↓thenW, ↓blockW, ↓opX, ↓opV, ↓pX, ↓pW, ↓putK, ↓putP, ↓atK, ↓normK, ↓postZ, evO, Fr.get, Fr.put, ↓reduceIte, reduceIte, Nat.reduceEqDiff, Nat.reduceAdd, Nat.reduceBEq, Nat.reduceLT, Nat.reduceLeDiff, binW, bodyQ, ressW, resW, ne_eq, forall_const, reduceCtorEq, implies_true, sets, oneAll, St.new, St.get, St.look, St.set, setL, setD, rels, fillE, fillD, List.replicate, rowsOf, forall_eq, eraseL, St.erase, Nat.reduceMul, ↓zD, zT, hd, rows_get _ _ h, rows_get _ _ hb']
    refine ⟨by omega, by omega, by omega, ?_⟩
    by_cases hb : a.getD k 0 = b.getD k 0
    · have hb2 : (a.getD k 0 != b.getD k 0) = false := by rw [hb]; simp
      rw [if_neg (by rw [hb2]; simp)]
      have hi' : (a == b) = (a.drop (k + 1) == b.drop (k + 1)) := by rw [hi, hb]; simp
      refine ⟨k + 1, ⟨by omega, hi'⟩, ?_, by omega⟩
      (refine Weak.same ?_; simp [sameF, Fr.get])
      exact wrap_i64 (by omega)
    · have hb2 : (a.getD k 0 != b.getD k 0) = true := by simpa using hb
      rw [if_pos hb2]
      have hi' : (a == b) = false := by rw [hi]; simp only [List.cons_beq_cons, beq_eq_false_iff_ne.2 hb, Bool.false_and]
      exact .drop (by simp) (by simp only [vw, hi'])
  · have hd : ¬ ((k : Int) < (a.length : Int)) := by omega
    have hk' : k = a.length := by omega
    simp only [Int.reduceToNat, Int.reduceLT, Int.reduceLE, Int.reduceBEq, Int.reduceBNe, St0, argFr, ↓thenW, ↓blockW, ↓opX, ↓opV, ↓pX, ↓pW, ↓putK, ↓putP, ↓atK, ↓normK, ↓postZ, evO, Fr.get, Fr.put, ↓reduceIte, reduceIte, Nat.reduceEqDiff, Nat.reduceAdd, Nat.reduceBEq, Nat.reduceLT, Nat.reduceLeDiff, binW, bodyQ, ressW, resW, ne_eq, forall_const, reduceCtorEq, implies_true, sets, oneAll, St.new, St.get, St.look, St.set, setL, setD, rels, fillE, fillD, List.replicate, rowsOf, forall_eq, eraseL, St.erase, Nat.reduceMul, ↓zD, zT, hd]
    have hi' : (a == b) = true := by rw [hi, hk', List.drop_length, hl, List.drop_length]; rfl
    exact .drop (by simp) (by simp only [vw, hi'])
end Go.Pd
