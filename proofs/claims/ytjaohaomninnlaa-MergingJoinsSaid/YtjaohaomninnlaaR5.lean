/- Merging: the law Fair. -/
import Derived.Test.YtjaohaomninnlaaR4
set_option linter.unusedSectionVars false
set_option linter.unusedVariables false
set_option linter.unusedSimpArgs false
set_option linter.defProp false
set_option maxRecDepth 20000
namespace Go.Pd
open Go Go.Proofs
open Mg
theorem bad_of_check {n : Nat} {p : List (BitVec 64)} (hc : checkM n p = 0) {b : BitVec 64} (hb : b ∈ p) : badM n b = 0 := by
  have h := (checkM_zero hc).2.2.2 b hb
  rwa [Int.toNat_natCast] at h
theorem check_of_bad {n : Nat} {p : List (BitVec 64)} (hn : n ≤ 4) (hl : p.length ≤ 8) (h : ∀ b ∈ p, badM n b = 0) : checkM n p = 0 := by
  rw [checkM, if_neg (by omega), if_neg (by omega), checkP_zero, Int.toNat_natCast]
  exact h
theorem bad_sub {n : Nat} {b : BitVec 64} (h : badM n b = 0) : b &&& ~~~(allM n) = 0#64 := by
  by_cases c : b &&& ~~~(allM n) = 0#64
  · exact c
  · rw [badM, if_pos c] at h; cases h
/-- The two constraints. -/
def fairC (n : Nat) (a b : BitVec 64) : List (BitVec 64) := [a ||| b, allM n]
theorem fairC_law {n : Nat} {a b : BitVec 64} (hn : n ≤ 4) (ha : badM n a = 0) (hb : badM n b = 0) {j : Nat} (hj : j < 2) :
    (fairC n a b).getD j 0 &&& ~~~(allM n) = 0#64 ∧ (∀ u, a.getLsbD u = true → ((fairC n a b).getD j 0).getLsbD u = true) ∧ (∀ u, b.getLsbD u = true → ((fairC n a b).getD j 0).getLsbD u = true) := by
  have sa := sub_zero.1 (bad_sub ha)
  have sb := sub_zero.1 (bad_sub hb)
  match j, hj with
  | 0, _ =>
    show (a ||| b) &&& ~~~(allM n) = 0#64 ∧ (∀ u, a.getLsbD u = true → (a ||| b).getLsbD u = true) ∧ (∀ u, b.getLsbD u = true → (a ||| b).getLsbD u = true)
    refine ⟨sub_zero.2 fun i hi => ?_, fun u h => by rw [BitVec.getLsbD_or, h, Bool.true_or], fun u h => by rw [BitVec.getLsbD_or, h, Bool.or_true]⟩
    rw [BitVec.getLsbD_or, Bool.or_eq_true] at hi
    exact hi.elim (sa i) (sb i)
  | 1, _ => exact ⟨sub_zero.2 fun i hi => hi, sa, sb⟩
theorem mergingFair_runs (n : Int) (a b : BitVec 64) : Runs Try.prog 9 [.int .i64 n, .int .u64 (ui a), .int .u64 (ui b)] (.bool true) := by
  refine CallT.go_fn mixed Try.func9 k9 (by simp) fun hf => ?_
  simp only [Int.reduceToNat, Int.reduceLT, Int.reduceLE, Int.reduceBEq, Int.reduceBNe, St0, argFr, ↓callZ, ↓midZ, ↓unZ, ↓thenW, ↓blockW, ↓opX, ↓opV, ↓pX, ↓pW, ↓putK, ↓putP, ↓atK, ↓normK, ↓postZ, ↓reduceIte, reduceIte, Nat.reduceEqDiff, Nat.reduceAdd, Nat.reduceBEq, Nat.reduceLT, Nat.reduceLeDiff, binW, bodyQ, ressW, resW, ne_eq, forall_const, reduceCtorEq, implies_true, sets, oneAll, setD, rels, fillE, fillD, List.replicate, rowsOf, forall_eq, Nat.reduceMul, ↓zD, zT]
  (repeat refine And.intro (by first | omega | exact ui_nonneg _ | exact Int.natCast_nonneg _ | rfl | exact rows_one' _ _ | exact us_one _ | (intro _ h; cases h; done)) ?_)
  refine .go (CallT.of_runs (valid_runs n [a, b] 0#64) rfl) ?_
  cases hv : validM n [a, b] 0#64
  · simp only [Int.reduceToNat, Int.reduceLT, Int.reduceLE, Int.reduceBEq, Int.reduceBNe, St0, argFr, ↓callZ, ↓midZ, ↓unZ, ↓thenW, ↓blockW, ↓opX, ↓opV, ↓pX, ↓pW, ↓putK, ↓putP, ↓atK, ↓normK, ↓postZ, ↓reduceIte, reduceIte, Nat.reduceEqDiff, Nat.reduceAdd, Nat.reduceBEq, Nat.reduceLT, Nat.reduceLeDiff, binW, bodyQ, ressW, resW, ne_eq, forall_const, reduceCtorEq, implies_true, sets, oneAll, setD, rels, fillE, fillD, List.replicate, rowsOf, forall_eq, Nat.reduceMul, ↓zD, zT]
    refine .go (CallT.of_runs awake_runs rfl) ?_
    simp only [Int.reduceToNat, Int.reduceLT, Int.reduceLE, Int.reduceBEq, Int.reduceBNe, St0, argFr, ↓callZ, ↓midZ, ↓unZ, ↓thenW, ↓blockW, ↓opX, ↓opV, ↓pX, ↓pW, ↓putK, ↓putP, ↓atK, ↓normK, ↓postZ, ↓reduceIte, reduceIte, Nat.reduceEqDiff, Nat.reduceAdd, Nat.reduceBEq, Nat.reduceLT, Nat.reduceLeDiff, binW, bodyQ, ressW, resW, ne_eq, forall_const, reduceCtorEq, implies_true, sets, oneAll, setD, rels, fillE, fillD, List.replicate, rowsOf, forall_eq, Nat.reduceMul, ↓zD, zT]
    exact .same
  obtain ⟨hc, _⟩ := valid_sub hv
  obtain ⟨h1, h2, h3, h4⟩ := checkM_zero hc
  obtain ⟨m, rfl⟩ := Int.eq_ofNat_of_zero_le h1
  have hm : m ≤ 4 := by omega
  have ba := bad_of_check hc (b := a) (by simp)
  have bb := bad_of_check hc (b := b) (by simp)
  have hone : checkM m [a] = 0 := check_of_bad hm (by simp) (by intro x hx; rw [List.mem_singleton] at hx; rw [hx]; exact ba)
  have hbs := bad_sub bb
  simp only [Int.reduceToNat, Int.reduceLT, Int.reduceLE, Int.reduceBEq, Int.reduceBNe, St0, argFr, ↓callZ, ↓midZ, ↓unZ, ↓thenW, ↓blockW, ↓opX, ↓opV, ↓pX, ↓pW, ↓putK, ↓putP, ↓atK, ↓normK, ↓postZ, ↓reduceIte, reduceIte, Nat.reduceEqDiff, Nat.reduceAdd, Nat.reduceBEq, Nat.reduceLT, Nat.reduceLeDiff, binW, bodyQ, ressW, resW, ne_eq, forall_const, reduceCtorEq, implies_true, sets, oneAll, setD, rels, fillE, fillD, List.replicate, rowsOf, forall_eq, Nat.reduceMul, ↓zD, zT]
  refine wpS_loop (fun k : Nat => [(7, .int .i64 k), (2, .int .u64 (ui b)), (1, .int .u64 (ui a)), (0, .int .i64 m)]) (fun _ => ⟨0, []⟩) (fun k => 1 ≤ k ∧ k ≤ 4) (fun k => 4 - k) 1 (by omega) ?_ ?_
  · (refine Weak.same ?_; simp only [sameF, Fr.get, ↓reduceIte, reduceIte, Nat.reduceEqDiff, reduceCtorEq, D.int.injEq, D.bool.injEq, D.sl.injEq, and_true, true_and, and_self, Int.natCast_one, Int.cast_ofNat_Int])
    try rfl
  intro k hk
  refine wpS_go mixed ?_
  by_cases h : k < 4
  case neg =>
    have hd : ¬ ((k : Int) ≤ 3) := by omega
    simp (maxSteps := 1000000) only [Int.reduceToNat, Int.reduceLT, Int.reduceLE, Int.reduceBEq, Int.reduceBNe, St0, argFr, ↓callZ, ↓midZ, ↓unZ, ↓thenW, ↓blockW, ↓opX, ↓opV, ↓pX, ↓pW, ↓putK, ↓putP, ↓atK, ↓normK, ↓postZ, ↓reduceIte, reduceIte, Nat.reduceEqDiff, Nat.reduceAdd, Nat.reduceBEq, Nat.reduceLT, Nat.reduceLeDiff, binW, bodyQ, ressW, resW, ne_eq, forall_const, reduceCtorEq, implies_true, sets, oneAll, setD, rels, fillE, fillD, List.replicate, rowsOf, forall_eq, Nat.reduceMul, ↓zD, zT, hd]
    refine .go (CallT.of_runs awake_runs rfl) ?_
    simp (maxSteps := 1000000) only [Int.reduceToNat, Int.reduceLT, Int.reduceLE, Int.reduceBEq, Int.reduceBNe, St0, argFr, ↓callZ, ↓midZ, ↓unZ, ↓thenW, ↓blockW, ↓opX, ↓opV, ↓pX, ↓pW, ↓putK, ↓putP, ↓atK, ↓normK, ↓postZ, ↓reduceIte, reduceIte, Nat.reduceEqDiff, Nat.reduceAdd, Nat.reduceBEq, Nat.reduceLT, Nat.reduceLeDiff, binW, bodyQ, ressW, resW, ne_eq, forall_const, reduceCtorEq, implies_true, sets, oneAll, setD, rels, fillE, fillD, List.replicate, rowsOf, forall_eq, Nat.reduceMul, ↓zD, zT]
    exact .same
  have hd : ((k : Int) ≤ 3) := by omega
  have hw : 1 ≤ (k : Int) ∧ (k : Int) ≤ 3 := by omega
  simp (maxSteps := 1000000) only [Int.reduceToNat, Int.reduceLT, Int.reduceLE, Int.reduceBEq, Int.reduceBNe, St0, argFr, ↓callZ, ↓midZ, ↓unZ, ↓thenW, ↓blockW, ↓opX, ↓opV, ↓pX, ↓pW, ↓putK, ↓putP, ↓atK, ↓normK, ↓postZ, ↓reduceIte, reduceIte, Nat.reduceEqDiff, Nat.reduceAdd, Nat.reduceBEq, Nat.reduceLT, Nat.reduceLeDiff, binW, bodyQ, ressW, resW, ne_eq, forall_const, reduceCtorEq, implies_true, sets, oneAll, setD, rels, fillE, fillD, List.replicate, rowsOf, forall_eq, Nat.reduceMul, ↓zD, zT, hd]
  refine .go (CallT.of_runs (refAll_runs hm) rfl) ?_
  simp (maxSteps := 1000000) only [Int.reduceToNat, Int.reduceLT, Int.reduceLE, Int.reduceBEq, Int.reduceBNe, St0, argFr, ↓callZ, ↓midZ, ↓unZ, ↓thenW, ↓blockW, ↓opX, ↓opV, ↓pX, ↓pW, ↓putK, ↓putP, ↓atK, ↓normK, ↓postZ, ↓reduceIte, reduceIte, Nat.reduceEqDiff, Nat.reduceAdd, Nat.reduceBEq, Nat.reduceLT, Nat.reduceLeDiff, binW, bodyQ, ressW, resW, ne_eq, forall_const, reduceCtorEq, implies_true, sets, oneAll, setD, rels, fillE, fillD, List.replicate, rowsOf, forall_eq, Nat.reduceMul, ↓zD, zT]
  (repeat refine And.intro (by first | omega | exact ui_nonneg _ | exact Int.natCast_nonneg _ | rfl | exact rows_one' _ _ | exact us_one _ | (intro _ h; cases h; done)) ?_)
  refine wpS_loop (fun j : Nat => [(34, .int .i64 j), (33, .int .i64 2), (32, .sl 1 (us (fairC m a b))), (7, .int .i64 k), (2, .int .u64 (ui b)), (1, .int .u64 (ui a)), (0, .int .i64 m)]) (fun _ => ⟨0, []⟩) (fun j => j ≤ 2) (fun j => 2 - j) 0 (Nat.zero_le _) ?_ ?_
  · (refine Weak.same ?_; simp [sameF, Fr.get, fairC, us])
  intro j hj
  refine wpS_go mixed ?_
  by_cases h5 : j < 2
  · have hd5 : ((j : Int) < 2) := by omega
    have hfl : (fairC m a b).length = 2 := rfl
    obtain ⟨f1, f2, f3⟩ := fairC_law hm ba bb h5
    have hf2 := merge_fair (way := (k : Int)) hm ((badM_zero hm ba).2) ((badM_zero hm bb).2) f2 f3
    simp (maxSteps := 1000000) only [Int.reduceToNat, Int.reduceLT, Int.reduceLE, Int.reduceBEq, Int.reduceBNe, St0, argFr, ↓callZ, ↓midZ, ↓unZ, ↓thenW, ↓blockW, ↓opX, ↓opV, ↓pX, ↓pW, ↓putK, ↓putP, ↓atK, ↓normK, ↓postZ, ↓reduceIte, reduceIte, Nat.reduceEqDiff, Nat.reduceAdd, Nat.reduceBEq, Nat.reduceLT, Nat.reduceLeDiff, binW, bodyQ, ressW, resW, ne_eq, forall_const, reduceCtorEq, implies_true, sets, oneAll, setD, rels, fillE, fillD, List.replicate, rowsOf, forall_eq, Nat.reduceMul, ↓zD, zT, hd5, us_get (fairC m a b) (show j < (fairC m a b).length from h5), hfl]
    (repeat refine And.intro (by first | omega | exact ui_nonneg _ | exact Int.natCast_nonneg _ | rfl | exact rows_one' _ _ | exact us_one _ | (intro _ h; cases h; done)) ?_)
    refine .go (CallT.of_runs (Merge_ok hw hc f1) rfl) ?_
    have hbq : (mergeM k m [a, b] ((fairC m a b).getD j 0) &&& a == 0#64) = (mergeM k m [a, b] ((fairC m a b).getD j 0) &&& b == 0#64) := by
      rw [Bool.eq_iff_iff, beq_iff_eq, beq_iff_eq]
      exact hf2
    simp (maxSteps := 1000000) only [Int.reduceToNat, Int.reduceLT, Int.reduceLE, Int.reduceBEq, Int.reduceBNe, St0, argFr, ↓callZ, ↓midZ, ↓unZ, ↓thenW, ↓blockW, ↓opX, ↓opV, ↓pX, ↓pW, ↓putK, ↓putP, ↓atK, ↓normK, ↓postZ, ↓reduceIte, reduceIte, Nat.reduceEqDiff, Nat.reduceAdd, Nat.reduceBEq, Nat.reduceLT, Nat.reduceLeDiff, binW, bodyQ, ressW, resW, ne_eq, forall_const, reduceCtorEq, implies_true, sets, oneAll, setD, rels, fillE, fillD, List.replicate, rowsOf, forall_eq, Nat.reduceMul, ↓zD, zT, hbq]
    refine ⟨j + 1, by omega, ?_, by omega⟩
    (refine Weak.same ?_; simp only [sameF, Fr.get, ↓reduceIte, reduceIte, Nat.reduceEqDiff, reduceCtorEq, D.int.injEq, D.bool.injEq, D.sl.injEq, and_true, true_and, and_self])
    exact wrap_i64 (by omega)
  · have hd5 : ¬ ((j : Int) < 2) := by omega
    have hs := merge_single (way := (k : Int)) (n := m) (a := a) (c := b) hm
    simp (maxSteps := 1000000) only [Int.reduceToNat, Int.reduceLT, Int.reduceLE, Int.reduceBEq, Int.reduceBNe, St0, argFr, ↓callZ, ↓midZ, ↓unZ, ↓thenW, ↓blockW, ↓opX, ↓opV, ↓pX, ↓pW, ↓putK, ↓putP, ↓atK, ↓normK, ↓postZ, ↓reduceIte, reduceIte, Nat.reduceEqDiff, Nat.reduceAdd, Nat.reduceBEq, Nat.reduceLT, Nat.reduceLeDiff, binW, bodyQ, ressW, resW, ne_eq, forall_const, reduceCtorEq, implies_true, sets, oneAll, setD, rels, fillE, fillD, List.replicate, rowsOf, forall_eq, Nat.reduceMul, ↓zD, zT, hd5]
    (repeat refine And.intro (by first | omega | exact ui_nonneg _ | exact Int.natCast_nonneg _ | rfl | exact rows_one' _ _ | exact us_one _ | (intro _ h; cases h; done)) ?_)
    refine .go (CallT.of_runs (Merge_ok (p := [a]) hw hone hbs) rfl) ?_
    simp (maxSteps := 1000000) only [Int.reduceToNat, Int.reduceLT, Int.reduceLE, Int.reduceBEq, Int.reduceBNe, St0, argFr, ↓callZ, ↓midZ, ↓unZ, ↓thenW, ↓blockW, ↓opX, ↓opV, ↓pX, ↓pW, ↓putK, ↓putP, ↓atK, ↓normK, ↓postZ, ↓reduceIte, reduceIte, Nat.reduceEqDiff, Nat.reduceAdd, Nat.reduceBEq, Nat.reduceLT, Nat.reduceLeDiff, binW, bodyQ, ressW, resW, ne_eq, forall_const, reduceCtorEq, implies_true, sets, oneAll, setD, rels, fillE, fillD, List.replicate, rowsOf, forall_eq, Nat.reduceMul, ↓zD, zT]
    refine .go (CallT.of_runs (Dalal_runs hm ba hbs) rfl) ?_
    simp (maxSteps := 1000000) only [Int.reduceToNat, Int.reduceLT, Int.reduceLE, Int.reduceBEq, Int.reduceBNe, St0, argFr, ↓callZ, ↓midZ, ↓unZ, ↓thenW, ↓blockW, ↓opX, ↓opV, ↓pX, ↓pW, ↓putK, ↓putP, ↓atK, ↓normK, ↓postZ, ↓reduceIte, reduceIte, Nat.reduceEqDiff, Nat.reduceAdd, Nat.reduceBEq, Nat.reduceLT, Nat.reduceLeDiff, binW, bodyQ, ressW, resW, ne_eq, forall_const, reduceCtorEq, implies_true, sets, oneAll, setD, rels, fillE, fillD, List.replicate, rowsOf, forall_eq, Nat.reduceMul, ↓zD, zT, hs]
    refine ⟨k + 1, by omega, ?_, by omega⟩
    (refine Weak.same ?_; simp only [sameF, Fr.get, ↓reduceIte, reduceIte, Nat.reduceEqDiff, reduceCtorEq, D.int.injEq, D.bool.injEq, D.sl.injEq, and_true, true_and, and_self])
    exact wrap_i64 (by omega)
end Go.Pd
