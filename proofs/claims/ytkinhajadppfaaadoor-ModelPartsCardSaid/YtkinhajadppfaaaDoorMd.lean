/- Package model's specification: contracts, part d. -/
import Derived.Test.YtkinhajadppfaaaDoorMc
set_option linter.unusedSectionVars false
set_option linter.unusedVariables false
set_option linter.unusedSimpArgs false
set_option linter.defProp false
set_option maxRecDepth 20000
namespace Go.Pd
open Go Go.Proofs
theorem beyond_runs (l : List (BitVec 64)) (n : Int) (h0 : 0 ≤ n) : Runs Tryd.prog 39 [sets l, .int .i64 n] (.bool (outS n l)) := by
  refine CallT.go_fn mixed Tryd.func39 k39 (by simp) fun hf => ?_
  simp only [sets, D.factL, D.fact, us_len] at hf
  have hlen := hf.1.1
  simp only [Int.reduceToNat, Int.reduceLT, Int.reduceLE, Int.reduceBEq, Int.reduceBNe, St0, argFr, ↓thenW, ↓blockW, ↓opX, ↓opV, ↓pX, ↓pW, ↓putK, ↓putP, ↓atK, ↓normK, ↓postZ, evO, Fr.get, Fr.put, ↓reduceIte, reduceIte, Nat.reduceEqDiff, Nat.reduceAdd, Nat.reduceBEq, Nat.reduceLT, Nat.reduceLeDiff, binW, bodyQ, ressW, resW, ne_eq, forall_const, reduceCtorEq, implies_true, sets, oneAll, St.new, St.get, St.look, St.set, setL, setD, rels, fillE, fillD, List.replicate, rowsOf, forall_eq, eraseL, St.erase, Nat.reduceMul, ↓zD, zT]
  refine wpS_loop (fun k : Nat => [(5, .int .i64 k), (1, .int .i64 n), (0, .sl 1 (us l))]) (fun _ => ⟨0, []⟩) (fun k => k ≤ l.length ∧ outS n l = outS n (l.drop k)) (fun k => l.length - k) 0 ⟨Nat.zero_le _, rfl⟩ ?_ ?_
  · (refine Weak.same ?_; simp [sameF, Fr.get])
  intro k ⟨hk, hi⟩
  refine wpS_go mixed ?_
  by_cases h : k < l.length
  · have hd : ((k : Int) < (l.length : Int)) := by omega
    have e : l.drop k = l.getD k 0 :: l.drop (k + 1) := by simp [List.getD, h]
    rw [e] at hi
    simp only [outS, List.any_cons] at hi
    simp only [Int.reduceToNat, Int.reduceLT, Int.reduceLE, Int.reduceBEq, Int.reduceBNe, St0, argFr, ↓thenW, ↓blockW, ↓opX, ↓opV, ↓pX, ↓pW, ↓putK, ↓putP, ↓atK, ↓normK, ↓postZ, evO, Fr.get, Fr.put, ↓reduceIte, reduceIte, Nat.reduceEqDiff, Nat.reduceAdd, Nat.reduceBEq, Nat.reduceLT, Nat.reduceLeDiff, binW, bodyQ, ressW, resW, ne_eq, forall_const, reduceCtorEq, implies_true, sets, oneAll, St.new, St.get, St.look, St.set, setL, setD, rels, fillE, fillD, List.replicate, rowsOf, forall_eq, eraseL, St.erase, Nat.reduceMul, ↓zD, zT, hd, us_get _ h]
    refine ⟨by omega, .go (CallT.of_runs (refAll_runs n h0) rfl) ?_⟩
    cases hb : l.getD k 0 &&& ~~~(allS n) != 0#64
    · simp only [Int.reduceToNat, Int.reduceLT, Int.reduceLE, Int.reduceBEq, Int.reduceBNe, St0, argFr, ↓thenW, ↓blockW, ↓opX, ↓opV, ↓pX, ↓pW, ↓putK, ↓putP, ↓atK, ↓normK, ↓postZ, evO, Fr.get, Fr.put, ↓reduceIte, reduceIte, Nat.reduceEqDiff, Nat.reduceAdd, Nat.reduceBEq, Nat.reduceLT, Nat.reduceLeDiff, binW, bodyQ, ressW, resW, ne_eq, forall_const, reduceCtorEq, implies_true, sets, oneAll, St.new, St.get, St.look, St.set, setL, setD, rels, fillE, fillD, List.replicate, rowsOf, forall_eq, eraseL, St.erase, Nat.reduceMul, ↓zD, zT, hb]
      rw [hb, Bool.false_or] at hi
      refine ⟨k + 1, ⟨by omega, hi⟩, ?_, by omega⟩
      (refine Weak.same ?_; simp [sameF, Fr.get])
      exact wrap_i64 (by omega)
    · simp only [Int.reduceToNat, Int.reduceLT, Int.reduceLE, Int.reduceBEq, Int.reduceBNe, St0, argFr, ↓thenW, ↓blockW, ↓opX, ↓opV, ↓pX, ↓pW, ↓putK, ↓putP, ↓atK, ↓normK, ↓postZ, evO, Fr.get, Fr.put, ↓reduceIte, reduceIte, Nat.reduceEqDiff, Nat.reduceAdd, Nat.reduceBEq, Nat.reduceLT, Nat.reduceLeDiff, binW, bodyQ, ressW, resW, ne_eq, forall_const, reduceCtorEq, implies_true, sets, oneAll, St.new, St.get, St.look, St.set, setL, setD, rels, fillE, fillD, List.replicate, rowsOf, forall_eq, eraseL, St.erase, Nat.reduceMul, ↓zD, zT, hb]
      rw [hb, Bool.true_or] at hi
      exact .drop (by simp) (by simp [vw, outS, hi])
  · have hd : ¬ ((k : Int) < (l.length : Int)) := by omega
    have hk' : k = l.length := by omega
    subst hk'
    simp only [Int.reduceToNat, Int.reduceLT, Int.reduceLE, Int.reduceBEq, Int.reduceBNe, St0, argFr, ↓thenW, ↓blockW, ↓opX, ↓opV, ↓pX, ↓pW, ↓putK, ↓putP, ↓atK, ↓normK, ↓postZ, evO, Fr.get, Fr.put, ↓reduceIte, reduceIte, Nat.reduceEqDiff, Nat.reduceAdd, Nat.reduceBEq, Nat.reduceLT, Nat.reduceLeDiff, binW, bodyQ, ressW, resW, ne_eq, forall_const, reduceCtorEq, implies_true, sets, oneAll, St.new, St.get, St.look, St.set, setL, setD, rels, fillE, fillD, List.replicate, rowsOf, forall_eq, eraseL, St.erase, Nat.reduceMul, ↓zD, zT, hd]
    rw [List.drop_length] at hi
    exact .drop (by simp) (by simp only [vw, hi]; rfl)

theorem Mod.check_eq (m : Mod) (h1 : ¬ m.W < 1) (h2 : ¬ 64 < m.W) (h3 : ¬ 4 < m.R.length) (h4 : ¬ 8 < m.V.length) :
    m.check = if m.R.any fun r => (r.length : Int) != m.W then 3 else if outS m.W m.V || m.R.any (outS m.W) then 2 else 0 := by
  simp only [Mod.check, if_neg (show ¬ (m.W < 1 ∨ 64 < m.W) by omega), if_neg (show ¬ (4 < m.R.length ∨ 8 < m.V.length) by omega)]

theorem refCheck_runs (m : Mod) : Runs Tryd.prog 14 [m.d] (.int .i64 m.check) := by
  refine CallT.go_fn mixed Tryd.func14 k14 (by simp) fun hf => ?_
  simp only [Mod.d, rels, sets, D.factL, D.fact, us_len, rr_len] at hf
  obtain ⟨⟨hW, hV, hR, -⟩, -⟩ := hf
  have hRl := hR.1
  by_cases h1 : m.W < 1
  · simp only [Int.reduceToNat, Int.reduceLT, Int.reduceLE, Int.reduceBEq, Int.reduceBNe, St0, argFr, ↓thenW, ↓blockW, ↓opX, ↓opV, ↓pX, ↓pW, ↓putK, ↓putP, ↓atK, ↓normK, ↓postZ, evO, Fr.get, Fr.put, ↓reduceIte, reduceIte, Nat.reduceEqDiff, Nat.reduceAdd, Nat.reduceBEq, Nat.reduceLT, Nat.reduceLeDiff, binW, bodyQ, ressW, resW, ne_eq, forall_const, reduceCtorEq, implies_true, sets, oneAll, St.new, St.get, St.look, St.set, setL, setD, rels, fillE, fillD, List.replicate, rowsOf, forall_eq, eraseL, St.erase, Nat.reduceMul, ↓zD, zT, Mod.d, h1]
    exact .drop (by simp) (by simp [vw, Mod.check, h1])
  by_cases h2 : 64 < m.W
  · simp only [Int.reduceToNat, Int.reduceLT, Int.reduceLE, Int.reduceBEq, Int.reduceBNe, St0, argFr, ↓thenW, ↓blockW, ↓opX, ↓opV, ↓pX, ↓pW, ↓putK, ↓putP, ↓atK, ↓normK, ↓postZ, evO, Fr.get, Fr.put, ↓reduceIte, reduceIte, Nat.reduceEqDiff, Nat.reduceAdd, Nat.reduceBEq, Nat.reduceLT, Nat.reduceLeDiff, binW, bodyQ, ressW, resW, ne_eq, forall_const, reduceCtorEq, implies_true, sets, oneAll, St.new, St.get, St.look, St.set, setL, setD, rels, fillE, fillD, List.replicate, rowsOf, forall_eq, eraseL, St.erase, Nat.reduceMul, ↓zD, zT, Mod.d, h1, h2]
    exact .drop (by simp) (by simp [vw, Mod.check, h2])
  by_cases h3 : 4 < m.R.length
  · have h3' : (4 : Int) < (m.R.length : Int) := by omega
    simp only [Int.reduceToNat, Int.reduceLT, Int.reduceLE, Int.reduceBEq, Int.reduceBNe, St0, argFr, ↓thenW, ↓blockW, ↓opX, ↓opV, ↓pX, ↓pW, ↓putK, ↓putP, ↓atK, ↓normK, ↓postZ, evO, Fr.get, Fr.put, ↓reduceIte, reduceIte, Nat.reduceEqDiff, Nat.reduceAdd, Nat.reduceBEq, Nat.reduceLT, Nat.reduceLeDiff, binW, bodyQ, ressW, resW, ne_eq, forall_const, reduceCtorEq, implies_true, sets, oneAll, St.new, St.get, St.look, St.set, setL, setD, rels, fillE, fillD, List.replicate, rowsOf, forall_eq, eraseL, St.erase, Nat.reduceMul, ↓zD, zT, Mod.d, h1, h2, h3']
    exact .drop (by simp) (by simp [vw, Mod.check, h1, h2, h3])
  have h3' : ¬ (4 : Int) < (m.R.length : Int) := by omega
  by_cases h4 : 8 < m.V.length
  · have h4' : (8 : Int) < (m.V.length : Int) := by omega
    simp only [Int.reduceToNat, Int.reduceLT, Int.reduceLE, Int.reduceBEq, Int.reduceBNe, St0, argFr, ↓thenW, ↓blockW, ↓opX, ↓opV, ↓pX, ↓pW, ↓putK, ↓putP, ↓atK, ↓normK, ↓postZ, evO, Fr.get, Fr.put, ↓reduceIte, reduceIte, Nat.reduceEqDiff, Nat.reduceAdd, Nat.reduceBEq, Nat.reduceLT, Nat.reduceLeDiff, binW, bodyQ, ressW, resW, ne_eq, forall_const, reduceCtorEq, implies_true, sets, oneAll, St.new, St.get, St.look, St.set, setL, setD, rels, fillE, fillD, List.replicate, rowsOf, forall_eq, eraseL, St.erase, Nat.reduceMul, ↓zD, zT, Mod.d, h1, h2, h3', h4']
    exact .drop (by simp) (by simp [vw, Mod.check, h1, h2, h3, h4])
  have h4' : ¬ (8 : Int) < (m.V.length : Int) := by omega
  have h0 : 0 ≤ m.W := by omega
  have hc := m.check_eq h1 h2 h3 h4
  simp only [Int.reduceToNat, Int.reduceLT, Int.reduceLE, Int.reduceBEq, Int.reduceBNe, St0, argFr, ↓thenW, ↓blockW, ↓opX, ↓opV, ↓pX, ↓pW, ↓putK, ↓putP, ↓atK, ↓normK, ↓postZ, evO, Fr.get, Fr.put, ↓reduceIte, reduceIte, Nat.reduceEqDiff, Nat.reduceAdd, Nat.reduceBEq, Nat.reduceLT, Nat.reduceLeDiff, binW, bodyQ, ressW, resW, ne_eq, forall_const, reduceCtorEq, implies_true, sets, oneAll, St.new, St.get, St.look, St.set, setL, setD, rels, fillE, fillD, List.replicate, rowsOf, forall_eq, eraseL, St.erase, Nat.reduceMul, ↓zD, zT, Mod.d, h1, h2, h3', h4']
  refine wpS_loop (fun k : Nat => [(3, .int .i64 k), (1, .ref 0 3 0 0)]) (fun _ => ⟨1, [(0, ⟨3, [[.int .i64 m.W, .sl 1 (us m.V), .sl 1 (rr m.R)]]⟩)]⟩)
    (fun k => k ≤ m.R.length ∧ (m.R.any fun r => (r.length : Int) != m.W) = ((m.R.drop k).any fun r => (r.length : Int) != m.W)) (fun k => m.R.length - k) 0 ⟨Nat.zero_le _, rfl⟩ ?_ ?_
  · (refine Weak.same ?_; simp [sameF, Fr.get])
  intro k ⟨hk, hi⟩
  refine wpS_go mixed ?_
  by_cases h : k < m.R.length
  · have hd : ((k : Int) < (m.R.length : Int)) := by omega
    have e : m.R.drop k = m.R.getD k [] :: m.R.drop (k + 1) := by simp [List.getD, h]
    rw [e, List.any_cons] at hi
    simp only [Int.reduceToNat, Int.reduceLT, Int.reduceLE, Int.reduceBEq, Int.reduceBNe, St0, argFr, ↓thenW, ↓blockW, ↓opX, ↓opV, ↓pX, ↓pW, ↓putK, ↓putP, ↓atK, ↓normK, ↓postZ, evO, Fr.get, Fr.put, ↓reduceIte, reduceIte, Nat.reduceEqDiff, Nat.reduceAdd, Nat.reduceBEq, Nat.reduceLT, Nat.reduceLeDiff, binW, bodyQ, ressW, resW, ne_eq, forall_const, reduceCtorEq, implies_true, sets, oneAll, St.new, St.get, St.look, St.set, setL, setD, rels, fillE, fillD, List.replicate, rowsOf, forall_eq, eraseL, St.erase, Nat.reduceMul, ↓zD, zT, hd, rr_get _ h]
    refine ⟨by omega, ?_⟩
    by_cases hb : ((m.R.getD k []).length : Int) != m.W
    · rw [if_pos hb]
      rw [hb, Bool.true_or] at hi
      exact .drop (by simp) (by simp only [vw, hc, hi]; rfl)
    · rw [if_neg hb]
      have hb : (((m.R.getD k []).length : Int) != m.W) = false := by simpa using hb
      rw [hb, Bool.false_or] at hi
      refine ⟨k + 1, ⟨by omega, hi⟩, ?_, by omega⟩
      (refine Weak.same ?_; simp [sameF, Fr.get])
      exact wrap_i64 (by omega)
  · have hd : ¬ ((k : Int) < (m.R.length : Int)) := by omega
    simp only [Int.reduceToNat, Int.reduceLT, Int.reduceLE, Int.reduceBEq, Int.reduceBNe, St0, argFr, ↓thenW, ↓blockW, ↓opX, ↓opV, ↓pX, ↓pW, ↓putK, ↓putP, ↓atK, ↓normK, ↓postZ, evO, Fr.get, Fr.put, ↓reduceIte, reduceIte, Nat.reduceEqDiff, Nat.reduceAdd, Nat.reduceBEq, Nat.reduceLT, Nat.reduceLeDiff, binW, bodyQ, ressW, resW, ne_eq, forall_const, reduceCtorEq, implies_true, sets, oneAll, St.new, St.get, St.look, St.set, setL, setD, rels, fillE, fillD, List.replicate, rowsOf, forall_eq, eraseL, St.erase, Nat.reduceMul, ↓zD, zT, hd]
    have hk' : k = m.R.length := by omega
    rw [hk', List.drop_length, List.any_nil] at hi
    refine .go (CallT.of_runs (beyond_runs m.V m.W h0) rfl) ?_
    cases hV2 : outS m.W m.V
    · simp only [Int.reduceToNat, Int.reduceLT, Int.reduceLE, Int.reduceBEq, Int.reduceBNe, St0, argFr, ↓thenW, ↓blockW, ↓opX, ↓opV, ↓pX, ↓pW, ↓putK, ↓putP, ↓atK, ↓normK, ↓postZ, evO, Fr.get, Fr.put, ↓reduceIte, reduceIte, Nat.reduceEqDiff, Nat.reduceAdd, Nat.reduceBEq, Nat.reduceLT, Nat.reduceLeDiff, binW, bodyQ, ressW, resW, ne_eq, forall_const, reduceCtorEq, implies_true, sets, oneAll, St.new, St.get, St.look, St.set, setL, setD, rels, fillE, fillD, List.replicate, rowsOf, forall_eq, eraseL, St.erase, Nat.reduceMul, ↓zD, zT]
      refine wpS_loop (fun k : Nat => [(4, .int .i64 k), (1, .ref 0 3 0 0)]) (fun _ => ⟨1, [(0, ⟨3, [[.int .i64 m.W, .sl 1 (us m.V), .sl 1 (rr m.R)]]⟩)]⟩)
        (fun k => k ≤ m.R.length ∧ m.R.any (outS m.W) = (m.R.drop k).any (outS m.W)) (fun k => m.R.length - k) 0 ⟨Nat.zero_le _, rfl⟩ ?_ ?_
      · (refine Weak.same ?_; simp [sameF, Fr.get])
      intro k ⟨hk, hi2⟩
      refine wpS_go mixed ?_
      by_cases h : k < m.R.length
      · have hd : ((k : Int) < (m.R.length : Int)) := by omega
        have e : m.R.drop k = m.R.getD k [] :: m.R.drop (k + 1) := by simp [List.getD, h]
        rw [e, List.any_cons] at hi2
        simp only [Int.reduceToNat, Int.reduceLT, Int.reduceLE, Int.reduceBEq, Int.reduceBNe, St0, argFr, ↓thenW, ↓blockW, ↓opX, ↓opV, ↓pX, ↓pW, ↓putK, ↓putP, ↓atK, ↓normK, ↓postZ, evO, Fr.get, Fr.put, ↓reduceIte, reduceIte, Nat.reduceEqDiff, Nat.reduceAdd, Nat.reduceBEq, Nat.reduceLT, Nat.reduceLeDiff, binW, bodyQ, ressW, resW, ne_eq, forall_const, reduceCtorEq, implies_true, sets, oneAll, St.new, St.get, St.look, St.set, setL, setD, rels, fillE, fillD, List.replicate, rowsOf, forall_eq, eraseL, St.erase, Nat.reduceMul, ↓zD, zT, hd, rr_get _ h]
        refine ⟨by omega, .go (CallT.of_runs (beyond_runs (m.R.getD k []) m.W h0) rfl) ?_⟩
        cases hb : outS m.W (m.R.getD k [])
        · simp only [Int.reduceToNat, Int.reduceLT, Int.reduceLE, Int.reduceBEq, Int.reduceBNe, St0, argFr, ↓thenW, ↓blockW, ↓opX, ↓opV, ↓pX, ↓pW, ↓putK, ↓putP, ↓atK, ↓normK, ↓postZ, evO, Fr.get, Fr.put, ↓reduceIte, reduceIte, Nat.reduceEqDiff, Nat.reduceAdd, Nat.reduceBEq, Nat.reduceLT, Nat.reduceLeDiff, binW, bodyQ, ressW, resW, ne_eq, forall_const, reduceCtorEq, implies_true, sets, oneAll, St.new, St.get, St.look, St.set, setL, setD, rels, fillE, fillD, List.replicate, rowsOf, forall_eq, eraseL, St.erase, Nat.reduceMul, ↓zD, zT]
          rw [hb, Bool.false_or] at hi2
          refine ⟨k + 1, ⟨by omega, hi2⟩, ?_, by omega⟩
          (refine Weak.same ?_; simp [sameF, Fr.get])
          exact wrap_i64 (by omega)
        · simp only [Int.reduceToNat, Int.reduceLT, Int.reduceLE, Int.reduceBEq, Int.reduceBNe, St0, argFr, ↓thenW, ↓blockW, ↓opX, ↓opV, ↓pX, ↓pW, ↓putK, ↓putP, ↓atK, ↓normK, ↓postZ, evO, Fr.get, Fr.put, ↓reduceIte, reduceIte, Nat.reduceEqDiff, Nat.reduceAdd, Nat.reduceBEq, Nat.reduceLT, Nat.reduceLeDiff, binW, bodyQ, ressW, resW, ne_eq, forall_const, reduceCtorEq, implies_true, sets, oneAll, St.new, St.get, St.look, St.set, setL, setD, rels, fillE, fillD, List.replicate, rowsOf, forall_eq, eraseL, St.erase, Nat.reduceMul, ↓zD, zT]
          rw [hb, Bool.true_or] at hi2
          exact .drop (by simp) (by simp only [vw, hc, hi, hi2, hV2]; rfl)
      · have hd : ¬ ((k : Int) < (m.R.length : Int)) := by omega
        have hk' : k = m.R.length := by omega
        rw [hk', List.drop_length, List.any_nil] at hi2
        simp only [Int.reduceToNat, Int.reduceLT, Int.reduceLE, Int.reduceBEq, Int.reduceBNe, St0, argFr, ↓thenW, ↓blockW, ↓opX, ↓opV, ↓pX, ↓pW, ↓putK, ↓putP, ↓atK, ↓normK, ↓postZ, evO, Fr.get, Fr.put, ↓reduceIte, reduceIte, Nat.reduceEqDiff, Nat.reduceAdd, Nat.reduceBEq, Nat.reduceLT, Nat.reduceLeDiff, binW, bodyQ, ressW, resW, ne_eq, forall_const, reduceCtorEq, implies_true, sets, oneAll, St.new, St.get, St.look, St.set, setL, setD, rels, fillE, fillD, List.replicate, rowsOf, forall_eq, eraseL, St.erase, Nat.reduceMul, ↓zD, zT, hd]
        exact .drop (by simp) (by simp only [vw, hc, hi, hi2, hV2]; rfl)
    · simp only [Int.reduceToNat, Int.reduceLT, Int.reduceLE, Int.reduceBEq, Int.reduceBNe, St0, argFr, ↓thenW, ↓blockW, ↓opX, ↓opV, ↓pX, ↓pW, ↓putK, ↓putP, ↓atK, ↓normK, ↓postZ, evO, Fr.get, Fr.put, ↓reduceIte, reduceIte, Nat.reduceEqDiff, Nat.reduceAdd, Nat.reduceBEq, Nat.reduceLT, Nat.reduceLeDiff, binW, bodyQ, ressW, resW, ne_eq, forall_const, reduceCtorEq, implies_true, sets, oneAll, St.new, St.get, St.look, St.set, setL, setD, rels, fillE, fillD, List.replicate, rowsOf, forall_eq, eraseL, St.erase, Nat.reduceMul, ↓zD, zT]
      exact .drop (by simp) (by simp only [vw, hc, hi, hV2]; rfl)
end Go.Pd
