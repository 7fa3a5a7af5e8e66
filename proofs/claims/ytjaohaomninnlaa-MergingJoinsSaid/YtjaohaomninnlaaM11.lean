/- Merging: contracts: the specification's table of ranks. -/
import Derived.Test.YtjaohaomninnlaaM10
set_option linter.unusedSectionVars false
set_option linter.unusedVariables false
set_option linter.unusedSimpArgs false
set_option linter.defProp false
set_option maxRecDepth 20000
namespace Go.Pd
open Go Go.Proofs
open Mg
theorem okL_listsM {n : Nat} {p : List (BitVec 64)} (hn : n ≤ 4) : okL (listsM n p) p.length := by
  intro x hx
  simp only [listsM, List.mem_map] at hx
  obtain ⟨v, _, rfl⟩ := hx
  refine ⟨by rw [descS_len, distL_len], fun y hy => ?_⟩
  have := distL_range y ((descS_perm _).mem_iff.1 hy)
  omega
/-- The answer of Ranks. -/
def rankA (way n : Int) (p : List (BitVec 64)) : List Int × Int :=
  if checkM n p ≠ 0 then ([], checkM n p) else if way < 1 ∨ 3 < way then ([], 1) else (ranksM way n.toNat p, 0)
theorem rank_lists {n v : Nat} {p : List (BitVec 64)} (way : Int) (hv : v < 2 ^ n) : (if way = 3 then lexR (listsM n p) v else if way = 2 then maxL ((listsM n p).getD v []) else sumL ((listsM n p).getD v [])) = rankV way n p v := by
  unfold rankV
  rw [listsM_at hv, maxL_perm (descS_perm _), sumL_perm (descS_perm _)]
theorem refRanks_own {n : Nat} {p : List (BitVec 64)} (way : Int) (hc : checkM n p = 0) (hw : 1 ≤ way ∧ way ≤ 3) :
    CallT Try.prog 20 [.int .i64 way, .int .i64 n, .sl 1 (us p)] St0 (.tup [.osl 0 1 (2 ^ n), .int .i64 0]) ⟨1, [(0, ⟨1, rows .i64 (ranksM way n p)⟩)]⟩ := by
  refine CallT.go_fn mixed Try.func20 k20 (by simp) fun hf => ?_
  obtain ⟨c1, c2, c3, c4⟩ := checkM_zero hc
  have hn : n ≤ 4 := by omega
  have h16 := pow_le hn
  have hok := okL_listsM (p := p) hn
  have e : (checkM n p != 0) = false := by simpa using hc
  have w1 : ¬ way < 1 := by omega
  have w2 : ¬ (3 : Int) < way := by omega
  simp only [Int.reduceToNat, Int.reduceLT, Int.reduceLE, Int.reduceBEq, Int.reduceBNe, St0, argFr, ↓callZ, ↓midZ, ↓unZ, ↓thenW, ↓blockW, ↓opX, ↓opV, ↓pX, ↓pW, ↓putK, ↓putP, ↓atK, ↓normK, ↓postZ, ↓reduceIte, reduceIte, Nat.reduceEqDiff, Nat.reduceAdd, Nat.reduceBEq, Nat.reduceLT, Nat.reduceLeDiff, binW, bodyQ, ressW, resW, ne_eq, forall_const, reduceCtorEq, implies_true, sets, oneAll, setD, rels, fillE, fillD, List.replicate, rowsOf, forall_eq, Nat.reduceMul, ↓zD, zT]
  refine .go (CallT.of_runs (refCheck_runs n p) rfl) ?_
  simp only [Int.reduceToNat, Int.reduceLT, Int.reduceLE, Int.reduceBEq, Int.reduceBNe, St0, argFr, ↓callZ, ↓midZ, ↓unZ, ↓thenW, ↓blockW, ↓opX, ↓opV, ↓pX, ↓pW, ↓putK, ↓putP, ↓atK, ↓normK, ↓postZ, ↓reduceIte, reduceIte, Nat.reduceEqDiff, Nat.reduceAdd, Nat.reduceBEq, Nat.reduceLT, Nat.reduceLeDiff, binW, bodyQ, ressW, resW, ne_eq, forall_const, reduceCtorEq, implies_true, sets, oneAll, setD, rels, fillE, fillD, List.replicate, rowsOf, forall_eq, Nat.reduceMul, ↓zD, zT, e, w1, w2]
  refine .go (CallT.of_runs (lists_runs hn hc) rfl) ?_
  simp only [Int.reduceToNat, Int.reduceLT, Int.reduceLE, Int.reduceBEq, Int.reduceBNe, St0, argFr, ↓callZ, ↓midZ, ↓unZ, ↓thenW, ↓blockW, ↓opX, ↓opV, ↓pX, ↓pW, ↓putK, ↓putP, ↓atK, ↓normK, ↓postZ, ↓reduceIte, reduceIte, Nat.reduceEqDiff, Nat.reduceAdd, Nat.reduceBEq, Nat.reduceLT, Nat.reduceLeDiff, binW, bodyQ, ressW, resW, ne_eq, forall_const, reduceCtorEq, implies_true, sets, oneAll, setD, rels, fillE, fillD, List.replicate, rowsOf, forall_eq, Nat.reduceMul, ↓zD, zT]
  have hl := listsM_len n p
  have hr := ranksM_len way n p
  refine wpS_loop (fun k : Nat => [(11, .int .i64 k), (10, growD 0 1 (rows .i64 ((ranksM way n p).take k))), (9, .sl 1 (rl (listsM n p))), (0, .int .i64 way)]) (fun k => ⟨1, growO 0 1 (rows .i64 ((ranksM way n p).take k))⟩) (fun k => k ≤ 2 ^ n) (fun k => 2 ^ n - k) 0 (Nat.zero_le _) ?_ ?_
  · exact Weak.view (fun k => k) (by simp) (by simp) (by simp [vwF, vw, Fr.get, rows, growD]) (by simp [stays, rows, growO]) (by simp [apartNames, rows, growO])
  intro k hk
  refine wpS_go mixed ?_
  by_cases h : k < 2 ^ n
  · have hd : ((k : Int) < ((listsM n p).length : Int)) := by omega
    have hk2 : ((ranksM way n p).take k).length = k := by rw [List.length_take]; omega
    simp only [Int.reduceToNat, Int.reduceLT, Int.reduceLE, Int.reduceBEq, Int.reduceBNe, St0, argFr, ↓callZ, ↓midZ, ↓unZ, ↓thenW, ↓blockW, ↓opX, ↓opV, ↓pX, ↓pW, ↓putK, ↓putP, ↓atK, ↓normK, ↓postZ, ↓reduceIte, reduceIte, Nat.reduceEqDiff, Nat.reduceAdd, Nat.reduceBEq, Nat.reduceLT, Nat.reduceLeDiff, binW, bodyQ, ressW, resW, ne_eq, forall_const, reduceCtorEq, implies_true, sets, oneAll, setD, rels, fillE, fillD, List.replicate, rowsOf, forall_eq, Nat.reduceMul, ↓zD, zT, rl_len, hd]
    refine .go (CallT.of_runs (rank_runs way hok (by omega) (show k < (listsM n p).length by omega)) (by simp [D.isPureL, D.isPure])) ?_
    rw [rank_lists way h]
    simp only [Int.reduceToNat, Int.reduceLT, Int.reduceLE, Int.reduceBEq, Int.reduceBNe, St0, argFr, ↓callZ, ↓midZ, ↓unZ, ↓thenW, ↓blockW, ↓opX, ↓opV, ↓pX, ↓pW, ↓putK, ↓putP, ↓atK, ↓normK, ↓postZ, ↓reduceIte, reduceIte, Nat.reduceEqDiff, Nat.reduceAdd, Nat.reduceBEq, Nat.reduceLT, Nat.reduceLeDiff, binW, bodyQ, ressW, resW, ne_eq, forall_const, reduceCtorEq, implies_true, sets, oneAll, setD, rels, fillE, fillD, List.replicate, rowsOf, forall_eq, Nat.reduceMul, ↓zD, zT, hk2]
    (repeat refine And.intro (by first | omega | exact ui_nonneg _ | exact Int.natCast_nonneg _ | rfl | exact rows_one' _ _ | exact us_one _ | (intro _ h; cases h; done)) ?_)
    refine ⟨k + 1, by omega, ?_, by omega⟩
    rw [← ranksM_at h, ← take_snoc (by omega)]
    (refine Weak.ren [(0, 1)] [0] (by simp) (by simp) (by decide) ?_; simp only [stay1, vwL, vw, vwF, sw, St.get, St.look, Fr.get, ↓reduceIte, reduceIte, Nat.reduceEqDiff, Nat.reduceAdd, Nat.reduceBEq, Nat.reduceLT, Nat.reduceLeDiff, exists_eq_left', ne_eq, reduceCtorEq, zR])
    exact wrap_i64 (by omega)
  · have hd : ¬ ((k : Int) < ((listsM n p).length : Int)) := by omega
    have hp0 : 0 < 2 ^ n := Nat.two_pow_pos n
    simp only [Int.reduceToNat, Int.reduceLT, Int.reduceLE, Int.reduceBEq, Int.reduceBNe, St0, argFr, ↓callZ, ↓midZ, ↓unZ, ↓thenW, ↓blockW, ↓opX, ↓opV, ↓pX, ↓pW, ↓putK, ↓putP, ↓atK, ↓normK, ↓postZ, ↓reduceIte, reduceIte, Nat.reduceEqDiff, Nat.reduceAdd, Nat.reduceBEq, Nat.reduceLT, Nat.reduceLeDiff, binW, bodyQ, ressW, resW, ne_eq, forall_const, reduceCtorEq, implies_true, sets, oneAll, setD, rels, fillE, fillD, List.replicate, rowsOf, forall_eq, Nat.reduceMul, ↓zD, zT, rl_len, hd]
    rw [show k = (ranksM way n p).length by omega, List.take_length]
    generalize ranksM way n p = L at hr ⊢
    match L, hr with
    | [], hr => exact absurd hr (by show 0 ≠ _; omega)
    | x :: r, hr =>
      rw [← hr]
      simp only [Int.reduceToNat, Int.reduceLT, Int.reduceLE, Int.reduceBEq, Int.reduceBNe, St0, argFr, ↓callZ, ↓midZ, ↓unZ, ↓thenW, ↓blockW, ↓opX, ↓opV, ↓pX, ↓pW, ↓putK, ↓putP, ↓atK, ↓normK, ↓postZ, ↓reduceIte, reduceIte, Nat.reduceEqDiff, Nat.reduceAdd, Nat.reduceBEq, Nat.reduceLT, Nat.reduceLeDiff, binW, bodyQ, ressW, resW, ne_eq, forall_const, reduceCtorEq, implies_true, sets, oneAll, setD, rels, fillE, fillD, List.replicate, rowsOf, forall_eq, Nat.reduceMul, ↓zD, zT]
      exact .same
theorem refRanks_runs (way n : Int) (p : List (BitVec 64)) : Runs Try.prog 20 [.int .i64 way, .int .i64 n, .sl 1 (us p)] (.tup [.sl 1 (rows .i64 (rankA way n p).1), .int .i64 (rankA way n p).2]) := by
  by_cases hc : checkM n p = 0
  case neg =>
    refine CallT.go_fn mixed Try.func20 k20 (by simp) fun hf => ?_
    simp only [Int.reduceToNat, Int.reduceLT, Int.reduceLE, Int.reduceBEq, Int.reduceBNe, St0, argFr, ↓callZ, ↓midZ, ↓unZ, ↓thenW, ↓blockW, ↓opX, ↓opV, ↓pX, ↓pW, ↓putK, ↓putP, ↓atK, ↓normK, ↓postZ, ↓reduceIte, reduceIte, Nat.reduceEqDiff, Nat.reduceAdd, Nat.reduceBEq, Nat.reduceLT, Nat.reduceLeDiff, binW, bodyQ, ressW, resW, ne_eq, forall_const, reduceCtorEq, implies_true, sets, oneAll, setD, rels, fillE, fillD, List.replicate, rowsOf, forall_eq, Nat.reduceMul, ↓zD, zT]
    refine .go (CallT.of_runs (refCheck_runs n p) rfl) ?_
    have e : (checkM n p != 0) = true := by simpa using hc
    have ed : rankA way n p = ([], checkM n p) := if_pos hc
    simp only [Int.reduceToNat, Int.reduceLT, Int.reduceLE, Int.reduceBEq, Int.reduceBNe, St0, argFr, ↓callZ, ↓midZ, ↓unZ, ↓thenW, ↓blockW, ↓opX, ↓opV, ↓pX, ↓pW, ↓putK, ↓putP, ↓atK, ↓normK, ↓postZ, ↓reduceIte, reduceIte, Nat.reduceEqDiff, Nat.reduceAdd, Nat.reduceBEq, Nat.reduceLT, Nat.reduceLeDiff, binW, bodyQ, ressW, resW, ne_eq, forall_const, reduceCtorEq, implies_true, sets, oneAll, setD, rels, fillE, fillD, List.replicate, rowsOf, forall_eq, Nat.reduceMul, ↓zD, zT, e]
    rw [ed]
    exact .drop (by simp) (by simp [vw, vwL, rows])
  obtain ⟨h1, h2, h3, h4⟩ := checkM_zero hc
  have hc' : ¬ checkM n p ≠ 0 := by simpa using hc
  by_cases hw : 1 ≤ way ∧ way ≤ 3
  · obtain ⟨m, rfl⟩ := Int.eq_ofNat_of_zero_le h1
    have ed : rankA way m p = (ranksM way m p, 0) := by rw [rankA, if_neg hc', if_neg (by omega), Int.toNat_natCast]
    rw [ed]
    refine (refRanks_own way hc hw).ret ?_
    exact .drop (by simp [St0]) ⟨rfl, osl_view (by simp) (rows_pure _ _) (by rw [rows_len, ranksM_len]), by simp [vw], trivial⟩
  · refine CallT.go_fn mixed Try.func20 k20 (by simp) fun hf => ?_
    have e : (checkM n p != 0) = false := by simpa using hc
    have ed : rankA way n p = ([], 1) := by rw [rankA, if_neg hc', if_pos (by omega)]
    simp only [Int.reduceToNat, Int.reduceLT, Int.reduceLE, Int.reduceBEq, Int.reduceBNe, St0, argFr, ↓callZ, ↓midZ, ↓unZ, ↓thenW, ↓blockW, ↓opX, ↓opV, ↓pX, ↓pW, ↓putK, ↓putP, ↓atK, ↓normK, ↓postZ, ↓reduceIte, reduceIte, Nat.reduceEqDiff, Nat.reduceAdd, Nat.reduceBEq, Nat.reduceLT, Nat.reduceLeDiff, binW, bodyQ, ressW, resW, ne_eq, forall_const, reduceCtorEq, implies_true, sets, oneAll, setD, rels, fillE, fillD, List.replicate, rowsOf, forall_eq, Nat.reduceMul, ↓zD, zT]
    refine .go (CallT.of_runs (refCheck_runs n p) rfl) ?_
    by_cases w1 : way < 1
    · simp only [Int.reduceToNat, Int.reduceLT, Int.reduceLE, Int.reduceBEq, Int.reduceBNe, St0, argFr, ↓callZ, ↓midZ, ↓unZ, ↓thenW, ↓blockW, ↓opX, ↓opV, ↓pX, ↓pW, ↓putK, ↓putP, ↓atK, ↓normK, ↓postZ, ↓reduceIte, reduceIte, Nat.reduceEqDiff, Nat.reduceAdd, Nat.reduceBEq, Nat.reduceLT, Nat.reduceLeDiff, binW, bodyQ, ressW, resW, ne_eq, forall_const, reduceCtorEq, implies_true, sets, oneAll, setD, rels, fillE, fillD, List.replicate, rowsOf, forall_eq, Nat.reduceMul, ↓zD, zT, e, w1]
      rw [ed]
      exact .drop (by simp) (by simp [vw, vwL, rows])
    · have w2 : (3 : Int) < way := by omega
      simp only [Int.reduceToNat, Int.reduceLT, Int.reduceLE, Int.reduceBEq, Int.reduceBNe, St0, argFr, ↓callZ, ↓midZ, ↓unZ, ↓thenW, ↓blockW, ↓opX, ↓opV, ↓pX, ↓pW, ↓putK, ↓putP, ↓atK, ↓normK, ↓postZ, ↓reduceIte, reduceIte, Nat.reduceEqDiff, Nat.reduceAdd, Nat.reduceBEq, Nat.reduceLT, Nat.reduceLeDiff, binW, bodyQ, ressW, resW, ne_eq, forall_const, reduceCtorEq, implies_true, sets, oneAll, setD, rels, fillE, fillD, List.replicate, rowsOf, forall_eq, Nat.reduceMul, ↓zD, zT, e, w1, w2]
      rw [ed]
      exact .drop (by simp) (by simp [vw, vwL, rows])
end Go.Pd
