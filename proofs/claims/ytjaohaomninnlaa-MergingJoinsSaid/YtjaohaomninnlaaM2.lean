/- Merging: contracts: errors, the count of ones, the best of a set. -/
import Derived.Test.YtjaohaomninnlaaM1
set_option linter.unusedSectionVars false
set_option linter.unusedVariables false
set_option linter.unusedSimpArgs false
set_option linter.defProp false
set_option maxRecDepth 20000
namespace Go.Pd
open Go Go.Proofs
open Mg
theorem ones69 : ∀ k : Nat, k < 16 → Runs Try.prog 69 [.int .u64 (ui (BitVec.ofNat 64 k))] (.int .i64 (hd2 k 0 4)) := by
  intro k hk
  refine CallT.go_fn mixed Try.func69 k69 (by simp) fun hf => ?_
  simp only [Int.reduceToNat, Int.reduceLT, Int.reduceLE, Int.reduceBEq, Int.reduceBNe, St0, argFr, ↓callZ, ↓midZ, ↓unZ, ↓thenW, ↓blockW, ↓opX, ↓opV, ↓pX, ↓pW, ↓putK, ↓putP, ↓atK, ↓normK, ↓postZ, ↓reduceIte, reduceIte, Nat.reduceEqDiff, Nat.reduceAdd, Nat.reduceBEq, Nat.reduceLT, Nat.reduceLeDiff, binW, bodyQ, ressW, resW, ne_eq, forall_const, reduceCtorEq, implies_true, sets, oneAll, setD, rels, fillE, fillD, List.replicate, rowsOf, forall_eq, Nat.reduceMul, ↓zD, zT, show (D.int .u64 6148914691236517205) = D.int .u64 (ui 6148914691236517205#64) from rfl, show (D.int .u64 3689348814741910323) = D.int .u64 (ui 3689348814741910323#64) from rfl, show (D.int .u64 1085102592571150095) = D.int .u64 (ui 1085102592571150095#64) from rfl]
  (repeat refine And.intro (by first | omega | exact ui_nonneg _ | exact Int.natCast_nonneg _ | rfl | exact rows_one' _ _ | exact us_one _ | (intro _ h; cases h; done)) ?_)
  refine .drop (by simp) ?_
  simp only [vw, D.int.injEq, true_and]
  clear hf
  revert k
  decide +kernel
theorem ui_ofNat {k : Nat} (h : k < 18446744073709551616) : ui (BitVec.ofNat 64 k) = (k : Int) := by
  unfold ui; rw [BitVec.toNat_ofNat, Nat.mod_eq_of_lt h]
theorem ones58 {k : Nat} (hk : k < 16) : Runs Try.prog 58 [.int .u64 k] (.int .i64 (hd2 k 0 4)) := by
  rw [← ui_ofNat (show k < 18446744073709551616 by omega)]
  refine CallT.go_fn mixed Try.func58 k58 (by simp) fun hf => ?_
  simp only [Int.reduceToNat, Int.reduceLT, Int.reduceLE, Int.reduceBEq, Int.reduceBNe, St0, argFr, ↓callZ, ↓midZ, ↓unZ, ↓thenW, ↓blockW, ↓opX, ↓opV, ↓pX, ↓pW, ↓putK, ↓putP, ↓atK, ↓normK, ↓postZ, ↓reduceIte, reduceIte, Nat.reduceEqDiff, Nat.reduceAdd, Nat.reduceBEq, Nat.reduceLT, Nat.reduceLeDiff, binW, bodyQ, ressW, resW, ne_eq, forall_const, reduceCtorEq, implies_true, sets, oneAll, setD, rels, fillE, fillD, List.replicate, rowsOf, forall_eq, Nat.reduceMul, ↓zD, zT]
  refine .go (CallT.of_runs (ones69 k hk) rfl) ?_
  simp only [Int.reduceToNat, Int.reduceLT, Int.reduceLE, Int.reduceBEq, Int.reduceBNe, St0, argFr, ↓callZ, ↓midZ, ↓unZ, ↓thenW, ↓blockW, ↓opX, ↓opV, ↓pX, ↓pW, ↓putK, ↓putP, ↓atK, ↓normK, ↓postZ, ↓reduceIte, reduceIte, Nat.reduceEqDiff, Nat.reduceAdd, Nat.reduceBEq, Nat.reduceLT, Nat.reduceLeDiff, binW, bodyQ, ressW, resW, ne_eq, forall_const, reduceCtorEq, implies_true, sets, oneAll, setD, rels, fillE, fillD, List.replicate, rowsOf, forall_eq, Nat.reduceMul, ↓zD, zT]
  exact .same
theorem xor_lt {u v : Nat} (hu : u < 16) (hv : v < 16) : bitI .xor .i64 (u : Int) (v : Int) = ((u ^^^ v : Nat) : Int) ∧ u ^^^ v < 16 := by
  have h : ∀ u : Nat, u < 16 → ∀ v : Nat, v < 16 → bitI .xor .i64 (u : Int) (v : Int) = ((u ^^^ v : Nat) : Int) ∧ u ^^^ v < 16 := by decide +kernel
  exact h u hu v hv
theorem hd2_xor {n u v : Nat} (hn : n ≤ 4) (hu : u < 2 ^ n) (hv : v < 2 ^ n) : hd2 (u ^^^ v) 0 4 = hd2 u v n := by
  have h : ∀ n, n < 5 → ∀ u, u < 2 ^ n → ∀ v, v < 2 ^ n → hd2 (u ^^^ v) 0 4 = hd2 u v n := by decide +kernel
  exact h n (by omega) u hu v hv

theorem check_runs (n : Int) (p : List (BitVec 64)) : Runs Try.prog 23 [.int .i64 n, .sl 1 (us p)] (.int .i64 (checkM n p)) := by
  refine CallT.go_fn mixed Try.func23 k23 (by simp) fun hf => ?_
  simp only [D.factL, D.fact, us_len] at hf
  have hlen := hf.2.1.1
  by_cases h1 : n < 0
  · simp only [Int.reduceToNat, Int.reduceLT, Int.reduceLE, Int.reduceBEq, Int.reduceBNe, St0, argFr, ↓callZ, ↓midZ, ↓unZ, ↓thenW, ↓blockW, ↓opX, ↓opV, ↓pX, ↓pW, ↓putK, ↓putP, ↓atK, ↓normK, ↓postZ, ↓reduceIte, reduceIte, Nat.reduceEqDiff, Nat.reduceAdd, Nat.reduceBEq, Nat.reduceLT, Nat.reduceLeDiff, binW, bodyQ, ressW, resW, ne_eq, forall_const, reduceCtorEq, implies_true, sets, oneAll, setD, rels, fillE, fillD, List.replicate, rowsOf, forall_eq, Nat.reduceMul, ↓zD, zT, h1]
    exact .drop (by simp) (by simp [vw, checkM, h1])
  by_cases h2 : 4 < n
  · simp only [Int.reduceToNat, Int.reduceLT, Int.reduceLE, Int.reduceBEq, Int.reduceBNe, St0, argFr, ↓callZ, ↓midZ, ↓unZ, ↓thenW, ↓blockW, ↓opX, ↓opV, ↓pX, ↓pW, ↓putK, ↓putP, ↓atK, ↓normK, ↓postZ, ↓reduceIte, reduceIte, Nat.reduceEqDiff, Nat.reduceAdd, Nat.reduceBEq, Nat.reduceLT, Nat.reduceLeDiff, binW, bodyQ, ressW, resW, ne_eq, forall_const, reduceCtorEq, implies_true, sets, oneAll, setD, rels, fillE, fillD, List.replicate, rowsOf, forall_eq, Nat.reduceMul, ↓zD, zT, h1, h2]
    exact .drop (by simp) (by simp [vw, checkM, h2])
  by_cases h3 : 8 < p.length
  · have h3' : (8 : Int) < (p.length : Int) := by omega
    simp only [Int.reduceToNat, Int.reduceLT, Int.reduceLE, Int.reduceBEq, Int.reduceBNe, St0, argFr, ↓callZ, ↓midZ, ↓unZ, ↓thenW, ↓blockW, ↓opX, ↓opV, ↓pX, ↓pW, ↓putK, ↓putP, ↓atK, ↓normK, ↓postZ, ↓reduceIte, reduceIte, Nat.reduceEqDiff, Nat.reduceAdd, Nat.reduceBEq, Nat.reduceLT, Nat.reduceLeDiff, binW, bodyQ, ressW, resW, ne_eq, forall_const, reduceCtorEq, implies_true, sets, oneAll, setD, rels, fillE, fillD, List.replicate, rowsOf, forall_eq, Nat.reduceMul, ↓zD, zT, h1, h2, h3']
    exact .drop (by simp) (by simp only [vw, checkM, if_neg (show ¬ (n < 0 ∨ 4 < n) by omega), if_pos h3])
  have h3' : ¬ (8 : Int) < (p.length : Int) := by omega
  obtain ⟨m, rfl⟩ := Int.eq_ofNat_of_zero_le (show 0 ≤ n by omega)
  simp only [Int.reduceToNat, Int.reduceLT, Int.reduceLE, Int.reduceBEq, Int.reduceBNe, St0, argFr, ↓callZ, ↓midZ, ↓unZ, ↓thenW, ↓blockW, ↓opX, ↓opV, ↓pX, ↓pW, ↓putK, ↓putP, ↓atK, ↓normK, ↓postZ, ↓reduceIte, reduceIte, Nat.reduceEqDiff, Nat.reduceAdd, Nat.reduceBEq, Nat.reduceLT, Nat.reduceLeDiff, binW, bodyQ, ressW, resW, ne_eq, forall_const, reduceCtorEq, implies_true, sets, oneAll, setD, rels, fillE, fillD, List.replicate, rowsOf, forall_eq, Nat.reduceMul, ↓zD, zT, h1, h2, h3']
  have ec : checkM (m : Int) p = checkP m p := by rw [checkM, if_neg (show ¬ ((m : Int) < 0 ∨ 4 < (m : Int)) by omega), if_neg h3, Int.toNat_natCast]
  rw [ec]
  refine wpS_loop (fun k : Nat => [(18, .int .i64 k), (17, .int .i64 p.length), (16, .sl 1 (us p)), (0, .int .i64 m)]) (fun _ => ⟨0, []⟩) (fun k => k ≤ p.length ∧ checkP m p = checkP m (p.drop k)) (fun k => p.length - k) 0 ⟨Nat.zero_le _, rfl⟩ ?_ ?_
  · (refine Weak.same ?_; simp [sameF, Fr.get])
  intro k ⟨hk, hi⟩
  refine wpS_go mixed ?_
  by_cases h : k < p.length
  · have hd : ((k : Int) < (p.length : Int)) := by omega
    have e : p.drop k = p.getD k 0 :: p.drop (k + 1) := by simp [List.getD, h]
    rw [e, checkP] at hi
    simp only [Int.reduceToNat, Int.reduceLT, Int.reduceLE, Int.reduceBEq, Int.reduceBNe, St0, argFr, ↓callZ, ↓midZ, ↓unZ, ↓thenW, ↓blockW, ↓opX, ↓opV, ↓pX, ↓pW, ↓putK, ↓putP, ↓atK, ↓normK, ↓postZ, ↓reduceIte, reduceIte, Nat.reduceEqDiff, Nat.reduceAdd, Nat.reduceBEq, Nat.reduceLT, Nat.reduceLeDiff, binW, bodyQ, ressW, resW, ne_eq, forall_const, reduceCtorEq, implies_true, sets, oneAll, setD, rels, fillE, fillD, List.replicate, rowsOf, forall_eq, Nat.reduceMul, ↓zD, zT, hd, us_get _ h]
    (repeat refine And.intro (by first | omega | exact ui_nonneg _ | exact Int.natCast_nonneg _ | rfl | exact rows_one' _ _ | exact us_one _ | (intro _ h; cases h; done)) ?_)
    refine .go (CallT.of_runs (all_runs (n := m) (by omega)) rfl) ?_
    by_cases hb : p.getD k 0 &&& ~~~(allM m) = 0#64
    · by_cases hz : p.getD k 0 = 0#64
      · have e2 : badM m (p.getD k 0) = 11 := by rw [badM, if_neg (by simpa using hb), if_pos hz]
        rw [e2, if_pos (by decide)] at hi
        have hb1 : (p.getD k 0 &&& ~~~(allM m) != 0#64) = false := by simpa using hb
        have hz1 : (p.getD k 0 == 0#64) = true := by simpa using hz
        simp only [Int.reduceToNat, Int.reduceLT, Int.reduceLE, Int.reduceBEq, Int.reduceBNe, St0, argFr, ↓callZ, ↓midZ, ↓unZ, ↓thenW, ↓blockW, ↓opX, ↓opV, ↓pX, ↓pW, ↓putK, ↓putP, ↓atK, ↓normK, ↓postZ, ↓reduceIte, reduceIte, Nat.reduceEqDiff, Nat.reduceAdd, Nat.reduceBEq, Nat.reduceLT, Nat.reduceLeDiff, binW, bodyQ, ressW, resW, ne_eq, forall_const, reduceCtorEq, implies_true, sets, oneAll, setD, rels, fillE, fillD, List.replicate, rowsOf, forall_eq, Nat.reduceMul, ↓zD, zT, hb1, hz1]
        exact .drop (by simp) (by simp only [vw, hi])
      · have e2 : badM m (p.getD k 0) = 0 := by rw [badM, if_neg (by simpa using hb), if_neg hz]
        rw [e2, if_neg (by decide)] at hi
        have hb1 : (p.getD k 0 &&& ~~~(allM m) != 0#64) = false := by simpa using hb
        have hz1 : (p.getD k 0 == 0#64) = false := by simpa using hz
        simp only [Int.reduceToNat, Int.reduceLT, Int.reduceLE, Int.reduceBEq, Int.reduceBNe, St0, argFr, ↓callZ, ↓midZ, ↓unZ, ↓thenW, ↓blockW, ↓opX, ↓opV, ↓pX, ↓pW, ↓putK, ↓putP, ↓atK, ↓normK, ↓postZ, ↓reduceIte, reduceIte, Nat.reduceEqDiff, Nat.reduceAdd, Nat.reduceBEq, Nat.reduceLT, Nat.reduceLeDiff, binW, bodyQ, ressW, resW, ne_eq, forall_const, reduceCtorEq, implies_true, sets, oneAll, setD, rels, fillE, fillD, List.replicate, rowsOf, forall_eq, Nat.reduceMul, ↓zD, zT, hb1, hz1]
        refine ⟨k + 1, ⟨by omega, hi⟩, ?_, by omega⟩
        (refine Weak.same ?_; simp only [sameF, Fr.get, ↓reduceIte, reduceIte, Nat.reduceEqDiff, reduceCtorEq, D.int.injEq, D.bool.injEq, D.sl.injEq, and_true, true_and, and_self])
        exact wrap_i64 (by omega)
    · have e2 : badM m (p.getD k 0) = 2 := by rw [badM, if_pos hb]
      rw [e2, if_pos (by decide)] at hi
      have hb1 : (p.getD k 0 &&& ~~~(allM m) != 0#64) = true := by simpa using hb
      simp only [Int.reduceToNat, Int.reduceLT, Int.reduceLE, Int.reduceBEq, Int.reduceBNe, St0, argFr, ↓callZ, ↓midZ, ↓unZ, ↓thenW, ↓blockW, ↓opX, ↓opV, ↓pX, ↓pW, ↓putK, ↓putP, ↓atK, ↓normK, ↓postZ, ↓reduceIte, reduceIte, Nat.reduceEqDiff, Nat.reduceAdd, Nat.reduceBEq, Nat.reduceLT, Nat.reduceLeDiff, binW, bodyQ, ressW, resW, ne_eq, forall_const, reduceCtorEq, implies_true, sets, oneAll, setD, rels, fillE, fillD, List.replicate, rowsOf, forall_eq, Nat.reduceMul, ↓zD, zT, hb1]
      exact .drop (by simp) (by simp only [vw, hi])
  · have hd : ¬ ((k : Int) < (p.length : Int)) := by omega
    have hk' : k = p.length := by omega
    subst hk'
    rw [List.drop_length, checkP] at hi
    simp only [Int.reduceToNat, Int.reduceLT, Int.reduceLE, Int.reduceBEq, Int.reduceBNe, St0, argFr, ↓callZ, ↓midZ, ↓unZ, ↓thenW, ↓blockW, ↓opX, ↓opV, ↓pX, ↓pW, ↓putK, ↓putP, ↓atK, ↓normK, ↓postZ, ↓reduceIte, reduceIte, Nat.reduceEqDiff, Nat.reduceAdd, Nat.reduceBEq, Nat.reduceLT, Nat.reduceLeDiff, binW, bodyQ, ressW, resW, ne_eq, forall_const, reduceCtorEq, implies_true, sets, oneAll, setD, rels, fillE, fillD, List.replicate, rowsOf, forall_eq, Nat.reduceMul, ↓zD, zT, hd]
    exact .drop (by simp) (by simp only [vw, hi])
theorem refCheck_runs (n : Int) (p : List (BitVec 64)) : Runs Try.prog 24 [.int .i64 n, .sl 1 (us p)] (.int .i64 (checkM n p)) := by
  refine CallT.go_fn mixed Try.func24 k24 (by simp) fun hf => ?_
  simp only [D.factL, D.fact, us_len] at hf
  have hlen := hf.2.1.1
  by_cases h1 : n < 0
  · simp only [Int.reduceToNat, Int.reduceLT, Int.reduceLE, Int.reduceBEq, Int.reduceBNe, St0, argFr, ↓callZ, ↓midZ, ↓unZ, ↓thenW, ↓blockW, ↓opX, ↓opV, ↓pX, ↓pW, ↓putK, ↓putP, ↓atK, ↓normK, ↓postZ, ↓reduceIte, reduceIte, Nat.reduceEqDiff, Nat.reduceAdd, Nat.reduceBEq, Nat.reduceLT, Nat.reduceLeDiff, binW, bodyQ, ressW, resW, ne_eq, forall_const, reduceCtorEq, implies_true, sets, oneAll, setD, rels, fillE, fillD, List.replicate, rowsOf, forall_eq, Nat.reduceMul, ↓zD, zT, h1]
    exact .drop (by simp) (by simp [vw, checkM, h1])
  by_cases h2 : 4 < n
  · simp only [Int.reduceToNat, Int.reduceLT, Int.reduceLE, Int.reduceBEq, Int.reduceBNe, St0, argFr, ↓callZ, ↓midZ, ↓unZ, ↓thenW, ↓blockW, ↓opX, ↓opV, ↓pX, ↓pW, ↓putK, ↓putP, ↓atK, ↓normK, ↓postZ, ↓reduceIte, reduceIte, Nat.reduceEqDiff, Nat.reduceAdd, Nat.reduceBEq, Nat.reduceLT, Nat.reduceLeDiff, binW, bodyQ, ressW, resW, ne_eq, forall_const, reduceCtorEq, implies_true, sets, oneAll, setD, rels, fillE, fillD, List.replicate, rowsOf, forall_eq, Nat.reduceMul, ↓zD, zT, h1, h2]
    exact .drop (by simp) (by simp [vw, checkM, h2])
  by_cases h3 : 8 < p.length
  · have h3' : (8 : Int) < (p.length : Int) := by omega
    simp only [Int.reduceToNat, Int.reduceLT, Int.reduceLE, Int.reduceBEq, Int.reduceBNe, St0, argFr, ↓callZ, ↓midZ, ↓unZ, ↓thenW, ↓blockW, ↓opX, ↓opV, ↓pX, ↓pW, ↓putK, ↓putP, ↓atK, ↓normK, ↓postZ, ↓reduceIte, reduceIte, Nat.reduceEqDiff, Nat.reduceAdd, Nat.reduceBEq, Nat.reduceLT, Nat.reduceLeDiff, binW, bodyQ, ressW, resW, ne_eq, forall_const, reduceCtorEq, implies_true, sets, oneAll, setD, rels, fillE, fillD, List.replicate, rowsOf, forall_eq, Nat.reduceMul, ↓zD, zT, h1, h2, h3']
    exact .drop (by simp) (by simp only [vw, checkM, if_neg (show ¬ (n < 0 ∨ 4 < n) by omega), if_pos h3])
  have h3' : ¬ (8 : Int) < (p.length : Int) := by omega
  obtain ⟨m, rfl⟩ := Int.eq_ofNat_of_zero_le (show 0 ≤ n by omega)
  simp only [Int.reduceToNat, Int.reduceLT, Int.reduceLE, Int.reduceBEq, Int.reduceBNe, St0, argFr, ↓callZ, ↓midZ, ↓unZ, ↓thenW, ↓blockW, ↓opX, ↓opV, ↓pX, ↓pW, ↓putK, ↓putP, ↓atK, ↓normK, ↓postZ, ↓reduceIte, reduceIte, Nat.reduceEqDiff, Nat.reduceAdd, Nat.reduceBEq, Nat.reduceLT, Nat.reduceLeDiff, binW, bodyQ, ressW, resW, ne_eq, forall_const, reduceCtorEq, implies_true, sets, oneAll, setD, rels, fillE, fillD, List.replicate, rowsOf, forall_eq, Nat.reduceMul, ↓zD, zT, h1, h2, h3']
  have ec : checkM (m : Int) p = checkP m p := by rw [checkM, if_neg (show ¬ ((m : Int) < 0 ∨ 4 < (m : Int)) by omega), if_neg h3, Int.toNat_natCast]
  rw [ec]
  refine wpS_loop (fun k : Nat => [(5, .int .i64 k), (1, .sl 1 (us p)), (0, .int .i64 m)]) (fun _ => ⟨0, []⟩) (fun k => k ≤ p.length ∧ checkP m p = checkP m (p.drop k)) (fun k => p.length - k) 0 ⟨Nat.zero_le _, rfl⟩ ?_ ?_
  · (refine Weak.same ?_; simp [sameF, Fr.get])
  intro k ⟨hk, hi⟩
  refine wpS_go mixed ?_
  by_cases h : k < p.length
  · have hd : ((k : Int) < (p.length : Int)) := by omega
    have e : p.drop k = p.getD k 0 :: p.drop (k + 1) := by simp [List.getD, h]
    rw [e, checkP] at hi
    simp only [Int.reduceToNat, Int.reduceLT, Int.reduceLE, Int.reduceBEq, Int.reduceBNe, St0, argFr, ↓callZ, ↓midZ, ↓unZ, ↓thenW, ↓blockW, ↓opX, ↓opV, ↓pX, ↓pW, ↓putK, ↓putP, ↓atK, ↓normK, ↓postZ, ↓reduceIte, reduceIte, Nat.reduceEqDiff, Nat.reduceAdd, Nat.reduceBEq, Nat.reduceLT, Nat.reduceLeDiff, binW, bodyQ, ressW, resW, ne_eq, forall_const, reduceCtorEq, implies_true, sets, oneAll, setD, rels, fillE, fillD, List.replicate, rowsOf, forall_eq, Nat.reduceMul, ↓zD, zT, hd, us_get _ h]
    (repeat refine And.intro (by first | omega | exact ui_nonneg _ | exact Int.natCast_nonneg _ | rfl | exact rows_one' _ _ | exact us_one _ | (intro _ h; cases h; done)) ?_)
    refine .go (CallT.of_runs (refAll_runs (n := m) (by omega)) rfl) ?_
    by_cases hb : p.getD k 0 &&& ~~~(allM m) = 0#64
    · have hb1 : (p.getD k 0 &&& ~~~(allM m) != 0#64) = false := by simpa using hb
      by_cases hz : p.getD k 0 = 0#64
      · have e2 : badM m (p.getD k 0) = 11 := by rw [badM, if_neg (by simpa using hb), if_pos hz]
        rw [e2, if_pos (by decide)] at hi
        have hz1 : (p.getD k 0 == 0#64) = true := by simpa using hz
        simp only [Int.reduceToNat, Int.reduceLT, Int.reduceLE, Int.reduceBEq, Int.reduceBNe, St0, argFr, ↓callZ, ↓midZ, ↓unZ, ↓thenW, ↓blockW, ↓opX, ↓opV, ↓pX, ↓pW, ↓putK, ↓putP, ↓atK, ↓normK, ↓postZ, ↓reduceIte, reduceIte, Nat.reduceEqDiff, Nat.reduceAdd, Nat.reduceBEq, Nat.reduceLT, Nat.reduceLeDiff, binW, bodyQ, ressW, resW, ne_eq, forall_const, reduceCtorEq, implies_true, sets, oneAll, setD, rels, fillE, fillD, List.replicate, rowsOf, forall_eq, Nat.reduceMul, ↓zD, zT, hb1, hz1, hd, us_get _ h]
        (repeat refine And.intro (by first | omega | exact ui_nonneg _ | exact Int.natCast_nonneg _ | rfl | exact rows_one' _ _ | exact us_one _ | (intro _ h; cases h; done)) ?_)
        exact .drop (by simp) (by simp only [vw, hi])
      · have e2 : badM m (p.getD k 0) = 0 := by rw [badM, if_neg (by simpa using hb), if_neg hz]
        rw [e2, if_neg (by decide)] at hi
        have hz1 : (p.getD k 0 == 0#64) = false := by simpa using hz
        simp only [Int.reduceToNat, Int.reduceLT, Int.reduceLE, Int.reduceBEq, Int.reduceBNe, St0, argFr, ↓callZ, ↓midZ, ↓unZ, ↓thenW, ↓blockW, ↓opX, ↓opV, ↓pX, ↓pW, ↓putK, ↓putP, ↓atK, ↓normK, ↓postZ, ↓reduceIte, reduceIte, Nat.reduceEqDiff, Nat.reduceAdd, Nat.reduceBEq, Nat.reduceLT, Nat.reduceLeDiff, binW, bodyQ, ressW, resW, ne_eq, forall_const, reduceCtorEq, implies_true, sets, oneAll, setD, rels, fillE, fillD, List.replicate, rowsOf, forall_eq, Nat.reduceMul, ↓zD, zT, hb1, hz1, hd, us_get _ h]
        (repeat refine And.intro (by first | omega | exact ui_nonneg _ | exact Int.natCast_nonneg _ | rfl | exact rows_one' _ _ | exact us_one _ | (intro _ h; cases h; done)) ?_)
        refine ⟨k + 1, ⟨by omega, hi⟩, ?_, by omega⟩
        (refine Weak.same ?_; simp only [sameF, Fr.get, ↓reduceIte, reduceIte, Nat.reduceEqDiff, reduceCtorEq, D.int.injEq, D.bool.injEq, D.sl.injEq, and_true, true_and, and_self])
        exact wrap_i64 (by omega)
    · have e2 : badM m (p.getD k 0) = 2 := by rw [badM, if_pos hb]
      rw [e2, if_pos (by decide)] at hi
      have hb1 : (p.getD k 0 &&& ~~~(allM m) != 0#64) = true := by simpa using hb
      simp only [Int.reduceToNat, Int.reduceLT, Int.reduceLE, Int.reduceBEq, Int.reduceBNe, St0, argFr, ↓callZ, ↓midZ, ↓unZ, ↓thenW, ↓blockW, ↓opX, ↓opV, ↓pX, ↓pW, ↓putK, ↓putP, ↓atK, ↓normK, ↓postZ, ↓reduceIte, reduceIte, Nat.reduceEqDiff, Nat.reduceAdd, Nat.reduceBEq, Nat.reduceLT, Nat.reduceLeDiff, binW, bodyQ, ressW, resW, ne_eq, forall_const, reduceCtorEq, implies_true, sets, oneAll, setD, rels, fillE, fillD, List.replicate, rowsOf, forall_eq, Nat.reduceMul, ↓zD, zT, hb1]
      exact .drop (by simp) (by simp only [vw, hi])
  · have hd : ¬ ((k : Int) < (p.length : Int)) := by omega
    have hk' : k = p.length := by omega
    subst hk'
    rw [List.drop_length, checkP] at hi
    simp only [Int.reduceToNat, Int.reduceLT, Int.reduceLE, Int.reduceBEq, Int.reduceBNe, St0, argFr, ↓callZ, ↓midZ, ↓unZ, ↓thenW, ↓blockW, ↓opX, ↓opV, ↓pX, ↓pW, ↓putK, ↓putP, ↓atK, ↓normK, ↓postZ, ↓reduceIte, reduceIte, Nat.reduceEqDiff, Nat.reduceAdd, Nat.reduceBEq, Nat.reduceLT, Nat.reduceLeDiff, binW, bodyQ, ressW, resW, ne_eq, forall_const, reduceCtorEq, implies_true, sets, oneAll, setD, rels, fillE, fillD, List.replicate, rowsOf, forall_eq, Nat.reduceMul, ↓zD, zT, hd]
    exact .drop (by simp) (by simp only [vw, hi])

theorem same_runs (a b : List Int) : Runs Try.prog 25 [.sl 1 (rows .i64 a), .sl 1 (rows .i64 b)] (.bool (decide (a = b))) := by
  refine CallT.go_fn mixed Try.func25 k25 (by simp) fun hf => ?_
  simp only [D.factL, D.fact, rows_len] at hf
  have hlen := hf.1.1
  by_cases h1 : a.length = b.length
  case neg =>
    have h1' : ((a.length : Int) != (b.length : Int)) = true := by simp; omega
    simp only [Int.reduceToNat, Int.reduceLT, Int.reduceLE, Int.reduceBEq, Int.reduceBNe, St0, argFr, ↓callZ, ↓midZ, ↓unZ, ↓thenW, ↓blockW, ↓opX, ↓opV, ↓pX, ↓pW, ↓putK, ↓putP, ↓atK, ↓normK, ↓postZ, ↓reduceIte, reduceIte, Nat.reduceEqDiff, Nat.reduceAdd, Nat.reduceBEq, Nat.reduceLT, Nat.reduceLeDiff, binW, bodyQ, ressW, resW, ne_eq, forall_const, reduceCtorEq, implies_true, sets, oneAll, setD, rels, fillE, fillD, List.replicate, rowsOf, forall_eq, Nat.reduceMul, ↓zD, zT, h1']
    exact .drop (by simp) (by simp only [vw, D.bool.injEq]; symm; apply decide_eq_false; rintro rfl; exact h1 rfl)
  have h1' : ((a.length : Int) != (b.length : Int)) = false := by simp; omega
  simp only [Int.reduceToNat, Int.reduceLT, Int.reduceLE, Int.reduceBEq, Int.reduceBNe, St0, argFr, ↓callZ, ↓midZ, ↓unZ, ↓thenW, ↓blockW, ↓opX, ↓opV, ↓pX, ↓pW, ↓putK, ↓putP, ↓atK, ↓normK, ↓postZ, ↓reduceIte, reduceIte, Nat.reduceEqDiff, Nat.reduceAdd, Nat.reduceBEq, Nat.reduceLT, Nat.reduceLeDiff, binW, bodyQ, ressW, resW, ne_eq, forall_const, reduceCtorEq, implies_true, sets, oneAll, setD, rels, fillE, fillD, List.replicate, rowsOf, forall_eq, Nat.reduceMul, ↓zD, zT, h1']
  refine wpS_loop (fun k : Nat => [(5, .int .i64 k), (1, .sl 1 (rows .i64 b)), (0, .sl 1 (rows .i64 a))]) (fun _ => ⟨0, []⟩) (fun k => k ≤ a.length ∧ ∀ i, i < k → a.getD i 0 = b.getD i 0) (fun k => a.length - k) 0 ⟨Nat.zero_le _, fun i hi => by omega⟩ ?_ ?_
  · (refine Weak.same ?_; simp [sameF, Fr.get])
  intro k ⟨hk, hi⟩
  refine wpS_go mixed ?_
  by_cases h : k < a.length
  · have hd : ((k : Int) < (a.length : Int)) := by omega
    have hd2 : ((k : Int) < (b.length : Int)) := by omega
    by_cases hb : a.getD k 0 = b.getD k 0
    · have hb1 : (a.getD k 0 != b.getD k 0) = false := by simp only [hb, bne_self_eq_false]
      simp only [Int.reduceToNat, Int.reduceLT, Int.reduceLE, Int.reduceBEq, Int.reduceBNe, St0, argFr, ↓callZ, ↓midZ, ↓unZ, ↓thenW, ↓blockW, ↓opX, ↓opV, ↓pX, ↓pW, ↓putK, ↓putP, ↓atK, ↓normK, ↓postZ, ↓reduceIte, reduceIte, Nat.reduceEqDiff, Nat.reduceAdd, Nat.reduceBEq, Nat.reduceLT, Nat.reduceLeDiff, binW, bodyQ, ressW, resW, ne_eq, forall_const, reduceCtorEq, implies_true, sets, oneAll, setD, rels, fillE, fillD, List.replicate, rowsOf, forall_eq, Nat.reduceMul, ↓zD, zT, hd, hd2, rows_get _ _ h, rows_get .i64 b (show k < b.length by omega), hb1]
      (repeat refine And.intro (by first | omega | exact ui_nonneg _ | exact Int.natCast_nonneg _ | rfl | exact rows_one' _ _ | exact us_one _ | (intro _ h; cases h; done)) ?_)
      refine ⟨k + 1, ⟨by omega, fun i hi2 => ?_⟩, ?_, by omega⟩
      · by_cases ei : i = k
        · rw [ei, hb]
        · exact hi i (by omega)
      (refine Weak.same ?_; simp only [sameF, Fr.get, ↓reduceIte, reduceIte, Nat.reduceEqDiff, reduceCtorEq, D.int.injEq, D.bool.injEq, D.sl.injEq, and_true, true_and, and_self])
      exact wrap_i64 (by omega)
    · have hb1 : (a.getD k 0 != b.getD k 0) = true := by simpa using hb
      simp only [Int.reduceToNat, Int.reduceLT, Int.reduceLE, Int.reduceBEq, Int.reduceBNe, St0, argFr, ↓callZ, ↓midZ, ↓unZ, ↓thenW, ↓blockW, ↓opX, ↓opV, ↓pX, ↓pW, ↓putK, ↓putP, ↓atK, ↓normK, ↓postZ, ↓reduceIte, reduceIte, Nat.reduceEqDiff, Nat.reduceAdd, Nat.reduceBEq, Nat.reduceLT, Nat.reduceLeDiff, binW, bodyQ, ressW, resW, ne_eq, forall_const, reduceCtorEq, implies_true, sets, oneAll, setD, rels, fillE, fillD, List.replicate, rowsOf, forall_eq, Nat.reduceMul, ↓zD, zT, hd, hd2, rows_get _ _ h, rows_get .i64 b (show k < b.length by omega), hb1]
      (repeat refine And.intro (by first | omega | exact ui_nonneg _ | exact Int.natCast_nonneg _ | rfl | exact rows_one' _ _ | exact us_one _ | (intro _ h; cases h; done)) ?_)
      exact .drop (by simp) (by simp only [vw, D.bool.injEq]; symm; apply decide_eq_false; rintro rfl; exact hb rfl)
  · have hd : ¬ ((k : Int) < (a.length : Int)) := by omega
    have hk' : k = a.length := by omega
    subst hk'
    simp only [Int.reduceToNat, Int.reduceLT, Int.reduceLE, Int.reduceBEq, Int.reduceBNe, St0, argFr, ↓callZ, ↓midZ, ↓unZ, ↓thenW, ↓blockW, ↓opX, ↓opV, ↓pX, ↓pW, ↓putK, ↓putP, ↓atK, ↓normK, ↓postZ, ↓reduceIte, reduceIte, Nat.reduceEqDiff, Nat.reduceAdd, Nat.reduceBEq, Nat.reduceLT, Nat.reduceLeDiff, binW, bodyQ, ressW, resW, ne_eq, forall_const, reduceCtorEq, implies_true, sets, oneAll, setD, rels, fillE, fillD, List.replicate, rowsOf, forall_eq, Nat.reduceMul, ↓zD, zT, hd]
    refine .drop (by simp) ?_
    simp only [vw, D.bool.injEq]; symm; apply decide_eq_true
    refine List.ext_getElem h1 fun i h2 h3 => ?_
    have := hi i h2
    simpa [List.getD, h2, h3] using this
end Go.Pd
