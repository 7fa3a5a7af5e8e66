/- Merging: contracts: comparing lists, sorting lists of lists. -/
import Derived.Test.YtjaohaomninnlaaM12
set_option linter.unusedSectionVars false
set_option linter.unusedVariables false
set_option linter.unusedSimpArgs false
set_option linter.defProp false
set_option maxRecDepth 20000
namespace Go.Pd
open Go Go.Proofs
open Mg
theorem nan_runs (a : Int) : Runs Try.prog 90 [.int .i64 a] (.bool false) := by
  refine CallT.go_fn mixed Try.func90 k90 (by simp) fun hf => ?_
  simp only [Int.reduceToNat, Int.reduceLT, Int.reduceLE, Int.reduceBEq, Int.reduceBNe, St0, argFr, ↓callZ, ↓midZ, ↓unZ, ↓thenW, ↓blockW, ↓opX, ↓opV, ↓pX, ↓pW, ↓putK, ↓putP, ↓atK, ↓normK, ↓postZ, ↓reduceIte, reduceIte, Nat.reduceEqDiff, Nat.reduceAdd, Nat.reduceBEq, Nat.reduceLT, Nat.reduceLeDiff, binW, bodyQ, ressW, resW, ne_eq, forall_const, reduceCtorEq, implies_true, sets, oneAll, setD, rels, fillE, fillD, List.replicate, rowsOf, forall_eq, Nat.reduceMul, ↓zD, zT]
  exact .same
theorem cmp64_runs (a b : Int) : Runs Try.prog 64 [.int .i64 a, .int .i64 b] (.int .i64 (if a < b then -1 else if b < a then 1 else 0)) := by
  refine CallT.go_fn mixed Try.func64 k64 (by simp) fun hf => ?_
  simp only [Int.reduceToNat, Int.reduceLT, Int.reduceLE, Int.reduceBEq, Int.reduceBNe, St0, argFr, ↓callZ, ↓midZ, ↓unZ, ↓thenW, ↓blockW, ↓opX, ↓opV, ↓pX, ↓pW, ↓putK, ↓putP, ↓atK, ↓normK, ↓postZ, ↓reduceIte, reduceIte, Nat.reduceEqDiff, Nat.reduceAdd, Nat.reduceBEq, Nat.reduceLT, Nat.reduceLeDiff, binW, bodyQ, ressW, resW, ne_eq, forall_const, reduceCtorEq, implies_true, sets, oneAll, setD, rels, fillE, fillD, List.replicate, rowsOf, forall_eq, Nat.reduceMul, ↓zD, zT]
  refine .go (CallT.of_runs (nan_runs a) rfl) ?_
  simp only [Int.reduceToNat, Int.reduceLT, Int.reduceLE, Int.reduceBEq, Int.reduceBNe, St0, argFr, ↓callZ, ↓midZ, ↓unZ, ↓thenW, ↓blockW, ↓opX, ↓opV, ↓pX, ↓pW, ↓putK, ↓putP, ↓atK, ↓normK, ↓postZ, ↓reduceIte, reduceIte, Nat.reduceEqDiff, Nat.reduceAdd, Nat.reduceBEq, Nat.reduceLT, Nat.reduceLeDiff, binW, bodyQ, ressW, resW, ne_eq, forall_const, reduceCtorEq, implies_true, sets, oneAll, setD, rels, fillE, fillD, List.replicate, rowsOf, forall_eq, Nat.reduceMul, ↓zD, zT]
  refine .go (CallT.of_runs (nan_runs b) rfl) ?_
  by_cases h1 : a < b
  · simp only [Int.reduceToNat, Int.reduceLT, Int.reduceLE, Int.reduceBEq, Int.reduceBNe, St0, argFr, ↓callZ, ↓midZ, ↓unZ, ↓thenW, ↓blockW, ↓opX, ↓opV, ↓pX, ↓pW, ↓putK, ↓putP, ↓atK, ↓normK, ↓postZ, ↓reduceIte, reduceIte, Nat.reduceEqDiff, Nat.reduceAdd, Nat.reduceBEq, Nat.reduceLT, Nat.reduceLeDiff, binW, bodyQ, ressW, resW, ne_eq, forall_const, reduceCtorEq, implies_true, sets, oneAll, setD, rels, fillE, fillD, List.replicate, rowsOf, forall_eq, Nat.reduceMul, ↓zD, zT, h1]
    exact .same
  · by_cases h2 : b < a
    · simp only [Int.reduceToNat, Int.reduceLT, Int.reduceLE, Int.reduceBEq, Int.reduceBNe, St0, argFr, ↓callZ, ↓midZ, ↓unZ, ↓thenW, ↓blockW, ↓opX, ↓opV, ↓pX, ↓pW, ↓putK, ↓putP, ↓atK, ↓normK, ↓postZ, ↓reduceIte, reduceIte, Nat.reduceEqDiff, Nat.reduceAdd, Nat.reduceBEq, Nat.reduceLT, Nat.reduceLeDiff, binW, bodyQ, ressW, resW, ne_eq, forall_const, reduceCtorEq, implies_true, sets, oneAll, setD, rels, fillE, fillD, List.replicate, rowsOf, forall_eq, Nat.reduceMul, ↓zD, zT, h1, h2]
      exact .same
    · simp only [Int.reduceToNat, Int.reduceLT, Int.reduceLE, Int.reduceBEq, Int.reduceBNe, St0, argFr, ↓callZ, ↓midZ, ↓unZ, ↓thenW, ↓blockW, ↓opX, ↓opV, ↓pX, ↓pW, ↓putK, ↓putP, ↓atK, ↓normK, ↓postZ, ↓reduceIte, reduceIte, Nat.reduceEqDiff, Nat.reduceAdd, Nat.reduceBEq, Nat.reduceLT, Nat.reduceLeDiff, binW, bodyQ, ressW, resW, ne_eq, forall_const, reduceCtorEq, implies_true, sets, oneAll, setD, rels, fillE, fillD, List.replicate, rowsOf, forall_eq, Nat.reduceMul, ↓zD, zT, h1, h2]
      exact .same
theorem lexC_nil (b : List Int) : lexC [] b = if b.length = 0 then 0 else -1 := by cases b <;> rfl
theorem lexC_right (x : Int) (a : List Int) : lexC (x :: a) [] = 1 := rfl
theorem lexC_cons (x y : Int) (a b : List Int) : lexC (x :: a) (y :: b) = if x < y then -1 else if y < x then 1 else lexC a b := rfl
theorem Compare_runs (a b : List Int) : Runs Try.prog 46 [.sl 1 (rows .i64 a), .sl 1 (rows .i64 b)] (.int .i64 (lexC a b)) := by
  refine CallT.go_fn mixed Try.func46 k46 (by simp) fun hf => ?_
  simp only [D.factL, D.fact, rows_len] at hf
  have hlen := hf.1.1
  simp only [Int.reduceToNat, Int.reduceLT, Int.reduceLE, Int.reduceBEq, Int.reduceBNe, St0, argFr, ↓callZ, ↓midZ, ↓unZ, ↓thenW, ↓blockW, ↓opX, ↓opV, ↓pX, ↓pW, ↓putK, ↓putP, ↓atK, ↓normK, ↓postZ, ↓reduceIte, reduceIte, Nat.reduceEqDiff, Nat.reduceAdd, Nat.reduceBEq, Nat.reduceLT, Nat.reduceLeDiff, binW, bodyQ, ressW, resW, ne_eq, forall_const, reduceCtorEq, implies_true, sets, oneAll, setD, rels, fillE, fillD, List.replicate, rowsOf, forall_eq, Nat.reduceMul, ↓zD, zT]
  refine wpS_loop (fun k : Nat => [(11, .int .i64 k), (10, .int .i64 a.length), (9, .sl 1 (rows .i64 a)), (1, .sl 1 (rows .i64 b)), (0, .sl 1 (rows .i64 a))]) (fun _ => ⟨0, []⟩) (fun k => k ≤ a.length ∧ k ≤ b.length ∧ lexC a b = lexC (a.drop k) (b.drop k)) (fun k => a.length - k) 0 ⟨Nat.zero_le _, Nat.zero_le _, rfl⟩ ?_ ?_
  · (refine Weak.same ?_; simp [sameF, Fr.get])
  intro k ⟨hk, hk2, hi⟩
  refine wpS_go mixed ?_
  by_cases h : k < a.length
  · have hd : ((k : Int) < (a.length : Int)) := by omega
    have e1 : a.drop k = a.getD k 0 :: a.drop (k + 1) := by simp [List.getD, h]
    rw [e1] at hi
    by_cases h2 : k < b.length
    · have hd2 : ¬ ((b.length : Int) ≤ (k : Int)) := by omega
      have hd3 : ((k : Int) < (b.length : Int)) := by omega
      have e2 : b.drop k = b.getD k 0 :: b.drop (k + 1) := by simp [List.getD, h2]
      rw [e2, lexC_cons] at hi
      simp only [Int.reduceToNat, Int.reduceLT, Int.reduceLE, Int.reduceBEq, Int.reduceBNe, St0, argFr, ↓callZ, ↓midZ, ↓unZ, ↓thenW, ↓blockW, ↓opX, ↓opV, ↓pX, ↓pW, ↓putK, ↓putP, ↓atK, ↓normK, ↓postZ, ↓reduceIte, reduceIte, Nat.reduceEqDiff, Nat.reduceAdd, Nat.reduceBEq, Nat.reduceLT, Nat.reduceLeDiff, binW, bodyQ, ressW, resW, ne_eq, forall_const, reduceCtorEq, implies_true, sets, oneAll, setD, rels, fillE, fillD, List.replicate, rowsOf, forall_eq, Nat.reduceMul, ↓zD, zT, hd, rows_get .i64 a h, hd2, hd3, rows_get .i64 b h2]
      (repeat refine And.intro (by first | omega | exact ui_nonneg _ | exact Int.natCast_nonneg _ | rfl | exact rows_one' _ _ | exact us_one _ | (intro _ h; cases h; done)) ?_)
      refine .go (CallT.of_runs (cmp64_runs (a.getD k 0) (b.getD k 0)) rfl) ?_
      by_cases c1 : a.getD k 0 < b.getD k 0
      · rw [if_pos c1] at hi ⊢
        simp only [Int.reduceToNat, Int.reduceLT, Int.reduceLE, Int.reduceBEq, Int.reduceBNe, St0, argFr, ↓callZ, ↓midZ, ↓unZ, ↓thenW, ↓blockW, ↓opX, ↓opV, ↓pX, ↓pW, ↓putK, ↓putP, ↓atK, ↓normK, ↓postZ, ↓reduceIte, reduceIte, Nat.reduceEqDiff, Nat.reduceAdd, Nat.reduceBEq, Nat.reduceLT, Nat.reduceLeDiff, binW, bodyQ, ressW, resW, ne_eq, forall_const, reduceCtorEq, implies_true, sets, oneAll, setD, rels, fillE, fillD, List.replicate, rowsOf, forall_eq, Nat.reduceMul, ↓zD, zT]
        rw [hi]
        exact .same
      · by_cases c2 : b.getD k 0 < a.getD k 0
        · rw [if_neg c1, if_pos c2] at hi ⊢
          simp only [Int.reduceToNat, Int.reduceLT, Int.reduceLE, Int.reduceBEq, Int.reduceBNe, St0, argFr, ↓callZ, ↓midZ, ↓unZ, ↓thenW, ↓blockW, ↓opX, ↓opV, ↓pX, ↓pW, ↓putK, ↓putP, ↓atK, ↓normK, ↓postZ, ↓reduceIte, reduceIte, Nat.reduceEqDiff, Nat.reduceAdd, Nat.reduceBEq, Nat.reduceLT, Nat.reduceLeDiff, binW, bodyQ, ressW, resW, ne_eq, forall_const, reduceCtorEq, implies_true, sets, oneAll, setD, rels, fillE, fillD, List.replicate, rowsOf, forall_eq, Nat.reduceMul, ↓zD, zT]
          rw [hi]
          exact .same
        · rw [if_neg c1, if_neg c2] at hi ⊢
          simp only [Int.reduceToNat, Int.reduceLT, Int.reduceLE, Int.reduceBEq, Int.reduceBNe, St0, argFr, ↓callZ, ↓midZ, ↓unZ, ↓thenW, ↓blockW, ↓opX, ↓opV, ↓pX, ↓pW, ↓putK, ↓putP, ↓atK, ↓normK, ↓postZ, ↓reduceIte, reduceIte, Nat.reduceEqDiff, Nat.reduceAdd, Nat.reduceBEq, Nat.reduceLT, Nat.reduceLeDiff, binW, bodyQ, ressW, resW, ne_eq, forall_const, reduceCtorEq, implies_true, sets, oneAll, setD, rels, fillE, fillD, List.replicate, rowsOf, forall_eq, Nat.reduceMul, ↓zD, zT]
          refine ⟨k + 1, ⟨by omega, by omega, hi⟩, ?_, by omega⟩
          (refine Weak.same ?_; simp only [sameF, Fr.get, ↓reduceIte, reduceIte, Nat.reduceEqDiff, reduceCtorEq, D.int.injEq, D.bool.injEq, D.sl.injEq, and_true, true_and, and_self])
          exact wrap_i64 (by omega)
    · have hd2 : ((b.length : Int) ≤ (k : Int)) := by omega
      rw [List.drop_eq_nil_of_le (show b.length ≤ k by omega), lexC_right] at hi
      simp only [Int.reduceToNat, Int.reduceLT, Int.reduceLE, Int.reduceBEq, Int.reduceBNe, St0, argFr, ↓callZ, ↓midZ, ↓unZ, ↓thenW, ↓blockW, ↓opX, ↓opV, ↓pX, ↓pW, ↓putK, ↓putP, ↓atK, ↓normK, ↓postZ, ↓reduceIte, reduceIte, Nat.reduceEqDiff, Nat.reduceAdd, Nat.reduceBEq, Nat.reduceLT, Nat.reduceLeDiff, binW, bodyQ, ressW, resW, ne_eq, forall_const, reduceCtorEq, implies_true, sets, oneAll, setD, rels, fillE, fillD, List.replicate, rowsOf, forall_eq, Nat.reduceMul, ↓zD, zT, hd, rows_get .i64 a h, hd2]
      (repeat refine And.intro (by first | omega | exact ui_nonneg _ | exact Int.natCast_nonneg _ | rfl | exact rows_one' _ _ | exact us_one _ | (intro _ h; cases h; done)) ?_)
      rw [hi]
      exact .same
  · have hd : ¬ ((k : Int) < (a.length : Int)) := by omega
    rw [List.drop_eq_nil_of_le (show a.length ≤ k by omega), lexC_nil, List.length_drop] at hi
    by_cases c : a.length < b.length
    · have c' : (a.length : Int) < (b.length : Int) := by omega
      rw [if_neg (by omega)] at hi
      simp only [Int.reduceToNat, Int.reduceLT, Int.reduceLE, Int.reduceBEq, Int.reduceBNe, St0, argFr, ↓callZ, ↓midZ, ↓unZ, ↓thenW, ↓blockW, ↓opX, ↓opV, ↓pX, ↓pW, ↓putK, ↓putP, ↓atK, ↓normK, ↓postZ, ↓reduceIte, reduceIte, Nat.reduceEqDiff, Nat.reduceAdd, Nat.reduceBEq, Nat.reduceLT, Nat.reduceLeDiff, binW, bodyQ, ressW, resW, ne_eq, forall_const, reduceCtorEq, implies_true, sets, oneAll, setD, rels, fillE, fillD, List.replicate, rowsOf, forall_eq, Nat.reduceMul, ↓zD, zT, hd, c']
      rw [hi]
      exact .same
    · have c' : ¬ (a.length : Int) < (b.length : Int) := by omega
      rw [if_pos (by omega)] at hi
      simp only [Int.reduceToNat, Int.reduceLT, Int.reduceLE, Int.reduceBEq, Int.reduceBNe, St0, argFr, ↓callZ, ↓midZ, ↓unZ, ↓thenW, ↓blockW, ↓opX, ↓opV, ↓pX, ↓pW, ↓putK, ↓putP, ↓atK, ↓normK, ↓postZ, ↓reduceIte, reduceIte, Nat.reduceEqDiff, Nat.reduceAdd, Nat.reduceBEq, Nat.reduceLT, Nat.reduceLeDiff, binW, bodyQ, ressW, resW, ne_eq, forall_const, reduceCtorEq, implies_true, sets, oneAll, setD, rels, fillE, fillD, List.replicate, rowsOf, forall_eq, Nat.reduceMul, ↓zD, zT, hd, c']
      rw [hi]
      exact .same
theorem Equal_runs (a b : List Int) : Runs Try.prog 48 [.sl 1 (rows .i64 a), .sl 1 (rows .i64 b)] (.bool (decide (a = b))) := by
  refine CallT.go_fn mixed Try.func48 k48 (by simp) fun hf => ?_
  simp only [D.factL, D.fact, rows_len] at hf
  have hlen := hf.1.1
  by_cases h1 : a.length = b.length
  case neg =>
    have h1' : ((a.length : Int) != (b.length : Int)) = true := by simp; omega
    simp only [Int.reduceToNat, Int.reduceLT, Int.reduceLE, Int.reduceBEq, Int.reduceBNe, St0, argFr, ↓callZ, ↓midZ, ↓unZ, ↓thenW, ↓blockW, ↓opX, ↓opV, ↓pX, ↓pW, ↓putK, ↓putP, ↓atK, ↓normK, ↓postZ, ↓reduceIte, reduceIte, Nat.reduceEqDiff, Nat.reduceAdd, Nat.reduceBEq, Nat.reduceLT, Nat.reduceLeDiff, binW, bodyQ, ressW, resW, ne_eq, forall_const, reduceCtorEq, implies_true, sets, oneAll, setD, rels, fillE, fillD, List.replicate, rowsOf, forall_eq, Nat.reduceMul, ↓zD, zT, h1']
    exact .drop (by simp) (by simp only [vw, D.bool.injEq]; symm; apply decide_eq_false; rintro rfl; exact h1 rfl)
  have h1' : ((a.length : Int) != (b.length : Int)) = false := by simp; omega
  simp only [Int.reduceToNat, Int.reduceLT, Int.reduceLE, Int.reduceBEq, Int.reduceBNe, St0, argFr, ↓callZ, ↓midZ, ↓unZ, ↓thenW, ↓blockW, ↓opX, ↓opV, ↓pX, ↓pW, ↓putK, ↓putP, ↓atK, ↓normK, ↓postZ, ↓reduceIte, reduceIte, Nat.reduceEqDiff, Nat.reduceAdd, Nat.reduceBEq, Nat.reduceLT, Nat.reduceLeDiff, binW, bodyQ, ressW, resW, ne_eq, forall_const, reduceCtorEq, implies_true, sets, oneAll, setD, rels, fillE, fillD, List.replicate, rowsOf, forall_eq, Nat.reduceMul, ↓zD, zT, h1']
  refine wpS_loop (fun k : Nat => [(13, .int .i64 k), (12, .int .i64 a.length), (1, .sl 1 (rows .i64 b)), (0, .sl 1 (rows .i64 a))]) (fun _ => ⟨0, []⟩) (fun k => k ≤ a.length ∧ ∀ i, i < k → a.getD i 0 = b.getD i 0) (fun k => a.length - k) 0 ⟨Nat.zero_le _, fun i hi => by omega⟩ ?_ ?_
  · (refine Weak.same ?_; simp [sameF, Fr.get])
  intro k ⟨hk, hi⟩
  refine wpS_go mixed ?_
  by_cases h : k < a.length
  · have hd : ((k : Int) < (a.length : Int)) := by omega
    by_cases hb : a.getD k 0 = b.getD k 0
    · have hb1 : (a.getD k 0 != b.getD k 0) = false := by simp only [hb, bne_self_eq_false]
      simp only [Int.reduceToNat, Int.reduceLT, Int.reduceLE, Int.reduceBEq, Int.reduceBNe, St0, argFr, ↓callZ, ↓midZ, ↓unZ, ↓thenW, ↓blockW, ↓opX, ↓opV, ↓pX, ↓pW, ↓putK, ↓putP, ↓atK, ↓normK, ↓postZ, ↓reduceIte, reduceIte, Nat.reduceEqDiff, Nat.reduceAdd, Nat.reduceBEq, Nat.reduceLT, Nat.reduceLeDiff, binW, bodyQ, ressW, resW, ne_eq, forall_const, reduceCtorEq, implies_true, sets, oneAll, setD, rels, fillE, fillD, List.replicate, rowsOf, forall_eq, Nat.reduceMul, ↓zD, zT, hd, rows_get _ _ h, rows_get .i64 b (show k < b.length by omega), hb1]
      (repeat refine And.intro (by first | omega | exact ui_nonneg _ | exact Int.natCast_nonneg _ | rfl | exact rows_one' _ _ | exact us_one _ | (intro _ h; cases h; done)) ?_)
      refine ⟨k + 1, ⟨by omega, fun i hi2 => ?_⟩, ?_, by omega⟩
      · by_cases ei : i = k
        · rw [ei, hb]
        · exact hi i (by omega)
      (refine Weak.same ?_; simp only [sameF, Fr.get, ↓reduceIte, reduceIte, Nat.reduceEqDiff, reduceCtorEq, D.int.injEq, D.bool.injEq, D.sl.injEq, and_true, true_and, and_self])
      exact wrap_i64 (by omega)
    · have hb1 : (a.getD k 0 != b.getD k 0) = true := bne_iff_ne.2 hb
      simp only [Int.reduceToNat, Int.reduceLT, Int.reduceLE, Int.reduceBEq, Int.reduceBNe, St0, argFr, ↓callZ, ↓midZ, ↓unZ, ↓thenW, ↓blockW, ↓opX, ↓opV, ↓pX, ↓pW, ↓putK, ↓putP, ↓atK, ↓normK, ↓postZ, ↓reduceIte, reduceIte, Nat.reduceEqDiff, Nat.reduceAdd, Nat.reduceBEq, Nat.reduceLT, Nat.reduceLeDiff, binW, bodyQ, ressW, resW, ne_eq, forall_const, reduceCtorEq, implies_true, sets, oneAll, setD, rels, fillE, fillD, List.replicate, rowsOf, forall_eq, Nat.reduceMul, ↓zD, zT, hd, rows_get _ _ h, rows_get .i64 b (show k < b.length by omega), hb1]
      (repeat refine And.intro (by first | omega | exact ui_nonneg _ | exact Int.natCast_nonneg _ | rfl | exact rows_one' _ _ | exact us_one _ | (intro _ h; cases h; done)) ?_)
      exact .drop (by simp) (by simp only [vw, D.bool.injEq]; symm; apply decide_eq_false; rintro rfl; exact hb rfl)
  · have hd : ¬ ((k : Int) < (a.length : Int)) := by omega
    have hk' : k = a.length := by omega
    subst hk'
    simp only [Int.reduceToNat, Int.reduceLT, Int.reduceLE, Int.reduceBEq, Int.reduceBNe, St0, argFr, ↓callZ, ↓midZ, ↓unZ, ↓thenW, ↓blockW, ↓opX, ↓opV, ↓pX, ↓pW, ↓putK, ↓putP, ↓atK, ↓normK, ↓postZ, ↓reduceIte, reduceIte, Nat.reduceEqDiff, Nat.reduceAdd, Nat.reduceBEq, Nat.reduceLT, Nat.reduceLeDiff, binW, bodyQ, ressW, resW, ne_eq, forall_const, reduceCtorEq, implies_true, sets, oneAll, setD, rels, fillE, fillD, List.replicate, rowsOf, forall_eq, Nat.reduceMul, ↓zD, zT, hd]
    refine .drop (by simp) ?_
    simp only [vw, D.bool.injEq]; symm; apply decide_eq_true
    refine List.ext_getElem h1 fun i h2 h3 => ?_
    have := hi i h2
    simpa [List.getD, h2, h3] using this

/-! ### Lists in ascending order -/
def asc (l : List (List Int)) : Prop := l.Pairwise fun a b => ¬ lexC b a < 0
def ascS (l : List (List Int)) : List (List Int) := l.mergeSort fun a b => decide (¬ lexC b a < 0)
theorem ascS_perm (l : List (List Int)) : (ascS l).Perm l := List.mergeSort_perm l _
theorem lexC_le_total (a b : List Int) : ¬ lexC b a < 0 ∨ ¬ lexC a b < 0 := by have := lexC_anti a b; omega
theorem ascS_asc (l : List (List Int)) : asc (ascS l) := by
  have := List.pairwise_mergeSort (le := fun a b : List Int => decide (¬ lexC b a < 0)) (fun a b c h1 h2 => by simp only [decide_eq_true_eq] at h1 h2 ⊢; exact lexC_ntrans h2 h1) (fun a b => by simp only [Bool.or_eq_true, decide_eq_true_eq]; exact lexC_le_total a b) l
  unfold asc ascS
  exact this.imp fun h => by simpa using h
theorem lexC_both {a b : List Int} (h1 : ¬ lexC b a < 0) (h2 : ¬ lexC a b < 0) : a = b := lexC_zero (by have := lexC_anti a b; omega)
theorem ascS_eq {l m : List (List Int)} (hp : m.Perm l) (hm : asc m) : m = ascS l :=
  List.Perm.eq_of_pairwise (le := fun a b => ¬ lexC b a < 0) (fun x y _ _ h1 h2 => lexC_both h1 h2) hm (ascS_asc l) (hp.trans (ascS_perm l).symm)
def listD : D → List Int
  | .sl _ els => els.map fun e => intD (hd e)
  | _ => []
theorem listD_sl (l : List Int) : listD (.sl 1 (rows .i64 l)) = l := rows_dec l
theorem rl_back {l : List (List Int)} {els : List (List D)} (h : els.Perm (rl l)) : ∃ m : List (List Int), els = rl m ∧ m.Perm l := by
  refine ⟨els.map fun e => listD (hd e), ?_, ?_⟩
  · unfold rl
    rw [List.map_map]
    conv => lhs; rw [← List.map_id els]
    refine List.map_congr_left fun e he => ?_
    have := h.mem_iff.1 he
    simp only [rl, List.mem_map] at this
    obtain ⟨n, _, rfl⟩ := this
    show [D.sl 1 (rows .i64 n)] = [D.sl 1 (rows .i64 (listD (.sl 1 (rows .i64 n))))]
    rw [listD_sl]
  · have := h.map fun e => listD (hd e)
    have e : (rl l).map (fun e => listD (hd e)) = l := by
      unfold rl
      rw [List.map_map]
      conv => rhs; rw [← List.map_id l]
      exact List.map_congr_left fun x _ => listD_sl x
    rw [e] at this
    exact this
theorem hd_rl {l : List (List Int)} {i : Nat} (h : i < l.length) : listD (hd ((rl l).getD i [])) = l.getD i [] := by rw [rl_get _ h]; exact listD_sl _
theorem asc_of {o : List (List Int)} (h : ∀ a b, a < b → b < o.length → ¬ lexC (o.getD b []) (o.getD a []) < 0) : asc o := by
  unfold asc
  rw [List.pairwise_iff_getElem]
  intro i j hi hj hij
  have := h i j hij hj
  simpa [List.getD, hi, hj] using this
theorem sortB_runs {σ : St} {key : Nat} {l : List (List Int)} (hget : σ.get key = some ⟨1, rl l⟩) (hne : l ≠ []) (hlen : l.length ≤ 1000) :
    CallT Try.prog 45 [.osl key 1 l.length, .fn 46 []] σ (.tup []) (σ.set key ⟨1, rl (ascS l)⟩) := by
  have ho : Ordinary Try.prog 45 := ⟨_, Try.func45, by kernel_rfl, by kernel_rfl⟩
  have ho2 : Ordinary Try.prog 46 := ⟨_, Try.func46, by kernel_rfl, by kernel_rfl⟩
  have h := sort_own (P := Try.prog) (ρ := renSortB) laysSortB ho (g := 46) (C := fun d => ∃ l : List Int, d = .sl 1 (rows .i64 l)) (cf := fun x y => lexC (listD x) (listD y)) ho2
    (by rintro x y ⟨a, rfl⟩ ⟨b, rfl⟩; rw [listD_sl, listD_sl]; exact Compare_runs a b) (by intro x _; rw [lexC_self]; omega) (by intro x y z _ _ _ h1 h2; exact lexC_trans h1 h2) (by intro x y z _ _ _ h1 h2; exact lexC_ntrans h1 h2)
    hget (target := rl (ascS l)) (by
      intro e he
      have hp := rl_pure l e he
      simp only [rl, List.mem_map] at he
      obtain ⟨n, hn, rfl⟩ := he
      exact ⟨_, rfl, by simpa [D.isPureL] using hp, n, rfl⟩) (by rw [rl_len]; omega) (by intro c; apply hne; simpa [rl] using c) (by
      intro els' hp hs
      obtain ⟨m, rfl, hm⟩ := rl_back hp
      rw [ascS_eq hm (asc_of fun a b hab hb => ?_)]
      have := hs a b hab (by rw [rl_len]; exact hb)
      change ¬ lexC (listD _) (listD _) < 0 at this
      rw [hd_rl hb, hd_rl (show a < m.length by omega)] at this
      exact this)
  rw [rl_len] at h
  exact h
end Go.Pd
