/- Runs: the reference's error of a system; points; local states. -/
import Derived.Test.YthohheekakbpbaaS1
set_option linter.unusedSectionVars false
set_option linter.unusedVariables false
set_option linter.unusedSimpArgs false
set_option linter.defProp false
set_option maxRecDepth 20000
namespace Go.Pd
open Go Go.Proofs
open Ru
theorem refCheck23 (s : SysA) : Runs Try.prog 23 [s.d] (.int .i64 (chk s)) := by
  have hD : s.d = .agg [.int .i64 s.ag, .int .i64 s.fa, .int .i64 s.ln, .sl 2 (runR s.rs)] := rfl
  rw [hD]
  refine CallT.go_fn mixed Try.func23 k23 (by simp) fun hf => ?_
  by_cases a1 : s.ag < 0
  · rw [show chk s = 2 by unfold chk; rw [if_pos (.inl a1)]]
    simp only [Int.reduceToNat, Int.reduceLT, Int.reduceLE, Int.reduceBEq, Int.reduceBNe, St0, argFr, ↓callZ, ↓midZ, ↓unZ, ↓thenW, ↓blockW, ↓opX, ↓opV, ↓pX, ↓pW, ↓putK, ↓putP, ↓atK, ↓normK, ↓postZ, ↓reduceIte, reduceIte, Nat.reduceEqDiff, Nat.reduceAdd, Nat.reduceBEq, Nat.reduceLT, Nat.reduceLeDiff, binW, bodyQ, ressW, resW, ne_eq, forall_const, reduceCtorEq, implies_true, sets, oneAll, setD, rels, fillE, fillD, List.replicate, rowsOf, forall_eq, Nat.reduceMul, ↓zD, zT, a1]
    exact .drop (by simp) (by simp [vw])
  by_cases a2 : 4 < s.ag
  · rw [show chk s = 2 by unfold chk; rw [if_pos (by omega)]]
    simp only [Int.reduceToNat, Int.reduceLT, Int.reduceLE, Int.reduceBEq, Int.reduceBNe, St0, argFr, ↓callZ, ↓midZ, ↓unZ, ↓thenW, ↓blockW, ↓opX, ↓opV, ↓pX, ↓pW, ↓putK, ↓putP, ↓atK, ↓normK, ↓postZ, ↓reduceIte, reduceIte, Nat.reduceEqDiff, Nat.reduceAdd, Nat.reduceBEq, Nat.reduceLT, Nat.reduceLeDiff, binW, bodyQ, ressW, resW, ne_eq, forall_const, reduceCtorEq, implies_true, sets, oneAll, setD, rels, fillE, fillD, List.replicate, rowsOf, forall_eq, Nat.reduceMul, ↓zD, zT, a1, a2]
    exact .drop (by simp) (by simp [vw])
  by_cases a3 : s.fa < 0
  · rw [show chk s = 2 by unfold chk; rw [if_pos (by omega)]]
    simp only [Int.reduceToNat, Int.reduceLT, Int.reduceLE, Int.reduceBEq, Int.reduceBNe, St0, argFr, ↓callZ, ↓midZ, ↓unZ, ↓thenW, ↓blockW, ↓opX, ↓opV, ↓pX, ↓pW, ↓putK, ↓putP, ↓atK, ↓normK, ↓postZ, ↓reduceIte, reduceIte, Nat.reduceEqDiff, Nat.reduceAdd, Nat.reduceBEq, Nat.reduceLT, Nat.reduceLeDiff, binW, bodyQ, ressW, resW, ne_eq, forall_const, reduceCtorEq, implies_true, sets, oneAll, setD, rels, fillE, fillD, List.replicate, rowsOf, forall_eq, Nat.reduceMul, ↓zD, zT, a1, a2, a3]
    exact .drop (by simp) (by simp [vw])
  by_cases a4 : 8 < s.fa
  · rw [show chk s = 2 by unfold chk; rw [if_pos (by omega)]]
    simp only [Int.reduceToNat, Int.reduceLT, Int.reduceLE, Int.reduceBEq, Int.reduceBNe, St0, argFr, ↓callZ, ↓midZ, ↓unZ, ↓thenW, ↓blockW, ↓opX, ↓opV, ↓pX, ↓pW, ↓putK, ↓putP, ↓atK, ↓normK, ↓postZ, ↓reduceIte, reduceIte, Nat.reduceEqDiff, Nat.reduceAdd, Nat.reduceBEq, Nat.reduceLT, Nat.reduceLeDiff, binW, bodyQ, ressW, resW, ne_eq, forall_const, reduceCtorEq, implies_true, sets, oneAll, setD, rels, fillE, fillD, List.replicate, rowsOf, forall_eq, Nat.reduceMul, ↓zD, zT, a1, a2, a3, a4]
    exact .drop (by simp) (by simp [vw])
  by_cases a5 : s.ln < 1
  · rw [show chk s = 2 by unfold chk; rw [if_pos (by omega)]]
    simp only [Int.reduceToNat, Int.reduceLT, Int.reduceLE, Int.reduceBEq, Int.reduceBNe, St0, argFr, ↓callZ, ↓midZ, ↓unZ, ↓thenW, ↓blockW, ↓opX, ↓opV, ↓pX, ↓pW, ↓putK, ↓putP, ↓atK, ↓normK, ↓postZ, ↓reduceIte, reduceIte, Nat.reduceEqDiff, Nat.reduceAdd, Nat.reduceBEq, Nat.reduceLT, Nat.reduceLeDiff, binW, bodyQ, ressW, resW, ne_eq, forall_const, reduceCtorEq, implies_true, sets, oneAll, setD, rels, fillE, fillD, List.replicate, rowsOf, forall_eq, Nat.reduceMul, ↓zD, zT, a1, a2, a3, a4, a5]
    exact .drop (by simp) (by simp [vw])
  by_cases a6 : 16 < s.ln
  · rw [show chk s = 2 by unfold chk; rw [if_pos (by omega)]]
    simp only [Int.reduceToNat, Int.reduceLT, Int.reduceLE, Int.reduceBEq, Int.reduceBNe, St0, argFr, ↓callZ, ↓midZ, ↓unZ, ↓thenW, ↓blockW, ↓opX, ↓opV, ↓pX, ↓pW, ↓putK, ↓putP, ↓atK, ↓normK, ↓postZ, ↓reduceIte, reduceIte, Nat.reduceEqDiff, Nat.reduceAdd, Nat.reduceBEq, Nat.reduceLT, Nat.reduceLeDiff, binW, bodyQ, ressW, resW, ne_eq, forall_const, reduceCtorEq, implies_true, sets, oneAll, setD, rels, fillE, fillD, List.replicate, rowsOf, forall_eq, Nat.reduceMul, ↓zD, zT, a1, a2, a3, a4, a5, a6]
    exact .drop (by simp) (by simp [vw])
  have e0 : chk s = if 64 < (s.rs.length : Int) ∨ 512 < (s.rs.length : Int) * s.ln then 8 else
    if s.rs.length = 0 then 3 else if s.rs.any (badF s) = true then 3 else if s.rs.any (badV s) = true then 2 else 0 := by
    unfold chk; rw [if_neg (by omega)]
  by_cases b1 : 64 < (s.rs.length : Int)
  · rw [e0, if_pos (.inl b1)]
    simp only [Int.reduceToNat, Int.reduceLT, Int.reduceLE, Int.reduceBEq, Int.reduceBNe, St0, argFr, ↓callZ, ↓midZ, ↓unZ, ↓thenW, ↓blockW, ↓opX, ↓opV, ↓pX, ↓pW, ↓putK, ↓putP, ↓atK, ↓normK, ↓postZ, ↓reduceIte, reduceIte, Nat.reduceEqDiff, Nat.reduceAdd, Nat.reduceBEq, Nat.reduceLT, Nat.reduceLeDiff, binW, bodyQ, ressW, resW, ne_eq, forall_const, reduceCtorEq, implies_true, sets, oneAll, setD, rels, fillE, fillD, List.replicate, rowsOf, forall_eq, Nat.reduceMul, ↓zD, zT, a1, a2, a3, a4, a5, a6, runR_len, b1]
    exact .drop (by simp) (by simp [vw])
  have hm : (s.rs.length : Int) * s.ln ≤ 64 * 16 := Int.mul_le_mul (by omega) (by omega) (by omega) (by omega)
  have hm0 : 0 ≤ (s.rs.length : Int) * s.ln := Int.mul_nonneg (by omega) (by omega)
  have hw : IntKind.i64.wrap ((s.rs.length : Int) * s.ln) = (s.rs.length : Int) * s.ln := wrap_i64 (by omega)
  by_cases b2 : 512 < (s.rs.length : Int) * s.ln
  · rw [e0, if_pos (.inr b2)]
    simp only [Int.reduceToNat, Int.reduceLT, Int.reduceLE, Int.reduceBEq, Int.reduceBNe, St0, argFr, ↓callZ, ↓midZ, ↓unZ, ↓thenW, ↓blockW, ↓opX, ↓opV, ↓pX, ↓pW, ↓putK, ↓putP, ↓atK, ↓normK, ↓postZ, ↓reduceIte, reduceIte, Nat.reduceEqDiff, Nat.reduceAdd, Nat.reduceBEq, Nat.reduceLT, Nat.reduceLeDiff, binW, bodyQ, ressW, resW, ne_eq, forall_const, reduceCtorEq, implies_true, sets, oneAll, setD, rels, fillE, fillD, List.replicate, rowsOf, forall_eq, Nat.reduceMul, ↓zD, zT, a1, a2, a3, a4, a5, a6, runR_len, b1, hw, b2]
    exact .drop (by simp) (by simp [vw])
  rw [e0, if_neg (by omega)]
  by_cases b3 : s.rs.length = 0
  · rw [if_pos b3]
    have b3' : ((s.rs.length : Int) == 0) = true := by rw [b3]; rfl
    simp only [Int.reduceToNat, Int.reduceLT, Int.reduceLE, Int.reduceBEq, Int.reduceBNe, St0, argFr, ↓callZ, ↓midZ, ↓unZ, ↓thenW, ↓blockW, ↓opX, ↓opV, ↓pX, ↓pW, ↓putK, ↓putP, ↓atK, ↓normK, ↓postZ, ↓reduceIte, reduceIte, Nat.reduceEqDiff, Nat.reduceAdd, Nat.reduceBEq, Nat.reduceLT, Nat.reduceLeDiff, binW, bodyQ, ressW, resW, ne_eq, forall_const, reduceCtorEq, implies_true, sets, oneAll, setD, rels, fillE, fillD, List.replicate, rowsOf, forall_eq, Nat.reduceMul, ↓zD, zT, a1, a2, a3, a4, a5, a6, runR_len, b1, hw, b2, b3']
    exact .drop (by simp) (by simp [vw])
  rw [if_neg b3]
  have b3' : ((s.rs.length : Int) == 0) = false := by rw [beq_eq_false_iff_ne]; omega
  simp only [Int.reduceToNat, Int.reduceLT, Int.reduceLE, Int.reduceBEq, Int.reduceBNe, St0, argFr, ↓callZ, ↓midZ, ↓unZ, ↓thenW, ↓blockW, ↓opX, ↓opV, ↓pX, ↓pW, ↓putK, ↓putP, ↓atK, ↓normK, ↓postZ, ↓reduceIte, reduceIte, Nat.reduceEqDiff, Nat.reduceAdd, Nat.reduceBEq, Nat.reduceLT, Nat.reduceLeDiff, binW, bodyQ, ressW, resW, ne_eq, forall_const, reduceCtorEq, implies_true, sets, oneAll, setD, rels, fillE, fillD, List.replicate, rowsOf, forall_eq, Nat.reduceMul, ↓zD, zT, a1, a2, a3, a4, a5, a6, runR_len, b1, hw, b2, b3']
  refine wpS_loop (fun k : Nat => [(3, .int .i64 k), (1, .ref 0 4 0 0)]) (fun _ => ⟨1, [(0, ⟨4, [[.int .i64 s.ag, .int .i64 s.fa, .int .i64 s.ln, .sl 2 (runR s.rs)]]⟩)]⟩)
    (fun k => k ≤ s.rs.length ∧ s.rs.any (badF s) = (s.rs.drop k).any (badF s)) (fun k => s.rs.length - k) 0 ⟨Nat.zero_le _, rfl⟩ ?_ ?_
  · (refine Weak.same ?_; simp [sameF, Fr.get])
  intro k ⟨hk, hi⟩
  refine wpS_go mixed ?_
  by_cases hkl : k < s.rs.length
  case neg =>
    have hd : ¬ ((k : Int) < (s.rs.length : Int)) := by omega
    rw [List.drop_eq_nil_of_le (by omega), List.any_nil] at hi
    rw [if_neg (by rw [hi]; simp)]
    simp only [Int.reduceToNat, Int.reduceLT, Int.reduceLE, Int.reduceBEq, Int.reduceBNe, St0, argFr, ↓callZ, ↓midZ, ↓unZ, ↓thenW, ↓blockW, ↓opX, ↓opV, ↓pX, ↓pW, ↓putK, ↓putP, ↓atK, ↓normK, ↓postZ, ↓reduceIte, reduceIte, Nat.reduceEqDiff, Nat.reduceAdd, Nat.reduceBEq, Nat.reduceLT, Nat.reduceLeDiff, binW, bodyQ, ressW, resW, ne_eq, forall_const, reduceCtorEq, implies_true, sets, oneAll, setD, rels, fillE, fillD, List.replicate, rowsOf, forall_eq, Nat.reduceMul, ↓zD, zT, hd, runR_len]
    refine wpS_loop (fun k : Nat => [(5, .int .i64 k), (1, .ref 0 4 0 0)]) (fun _ => ⟨1, [(0, ⟨4, [[.int .i64 s.ag, .int .i64 s.fa, .int .i64 s.ln, .sl 2 (runR s.rs)]]⟩)]⟩)
      (fun k => k ≤ s.rs.length ∧ s.rs.any (badV s) = (s.rs.drop k).any (badV s)) (fun k => s.rs.length - k) 0 ⟨Nat.zero_le _, rfl⟩ ?_ ?_
    · (refine Weak.same ?_; simp [sameF, Fr.get])
    intro k ⟨hk, hv⟩
    refine wpS_go mixed ?_
    by_cases hkl : k < s.rs.length
    case neg =>
      have hd : ¬ ((k : Int) < (s.rs.length : Int)) := by omega
      rw [List.drop_eq_nil_of_le (by omega), List.any_nil] at hv
      rw [if_neg (by rw [hv]; simp)]
      simp only [Int.reduceToNat, Int.reduceLT, Int.reduceLE, Int.reduceBEq, Int.reduceBNe, St0, argFr, ↓callZ, ↓midZ, ↓unZ, ↓thenW, ↓blockW, ↓opX, ↓opV, ↓pX, ↓pW, ↓putK, ↓putP, ↓atK, ↓normK, ↓postZ, ↓reduceIte, reduceIte, Nat.reduceEqDiff, Nat.reduceAdd, Nat.reduceBEq, Nat.reduceLT, Nat.reduceLeDiff, binW, bodyQ, ressW, resW, ne_eq, forall_const, reduceCtorEq, implies_true, sets, oneAll, setD, rels, fillE, fillD, List.replicate, rowsOf, forall_eq, Nat.reduceMul, ↓zD, zT, hd, runR_len]
      exact .drop (by simp) (by simp [vw])
    have hd : ((k : Int) < (s.rs.length : Int)) := by omega
    rw [drop_cons (d := run0) hkl, List.any_cons] at hv
    have hnb : badF s (s.rs.getD k run0) = false := by
      have := List.any_eq_false.1 hi _ (getD_mem (d := run0) hkl)
      simpa using this
    have hg := runR_get s.rs hkl
    generalize s.rs.getD k run0 = r at hg hv hnb
    have hfl : (r.fac.length : Int) = s.ln := by
      simp only [badF, Bool.or_eq_false_iff, Bool.not_eq_false', decide_eq_true_eq] at hnb
      exact hnb.1.2
    simp only [Int.reduceToNat, Int.reduceLT, Int.reduceLE, Int.reduceBEq, Int.reduceBNe, St0, argFr, ↓callZ, ↓midZ, ↓unZ, ↓thenW, ↓blockW, ↓opX, ↓opV, ↓pX, ↓pW, ↓putK, ↓putP, ↓atK, ↓normK, ↓postZ, ↓reduceIte, reduceIte, Nat.reduceEqDiff, Nat.reduceAdd, Nat.reduceBEq, Nat.reduceLT, Nat.reduceLeDiff, binW, bodyQ, ressW, resW, ne_eq, forall_const, reduceCtorEq, implies_true, sets, oneAll, setD, rels, fillE, fillD, List.replicate, rowsOf, forall_eq, Nat.reduceMul, ↓zD, zT, hd, runR_len]
    refine wpS_loop (fun t : Nat => [(6, .int .i64 t), (5, .int .i64 k), (1, .ref 0 4 0 0)]) (fun _ => ⟨1, [(0, ⟨4, [[.int .i64 s.ag, .int .i64 s.fa, .int .i64 s.ln, .sl 2 (runR s.rs)]]⟩)]⟩)
      (fun t => t ≤ r.fac.length ∧ badV s r = (r.fac.drop t).any (fun f => !decide (f >>> s.fa.toNat = 0#64))) (fun t => r.fac.length - t) 0 ⟨Nat.zero_le _, rfl⟩ ?_ ?_
    · (refine Weak.same ?_; simp [sameF, Fr.get])
    intro t ⟨ht, hb⟩
    refine wpS_go mixed ?_
    by_cases htl : t < r.fac.length
    case neg =>
      have hd2 : ¬ ((t : Int) < s.ln) := by omega
      rw [List.drop_eq_nil_of_le (by omega), List.any_nil] at hb
      simp only [Int.reduceToNat, Int.reduceLT, Int.reduceLE, Int.reduceBEq, Int.reduceBNe, St0, argFr, ↓callZ, ↓midZ, ↓unZ, ↓thenW, ↓blockW, ↓opX, ↓opV, ↓pX, ↓pW, ↓putK, ↓putP, ↓atK, ↓normK, ↓postZ, ↓reduceIte, reduceIte, Nat.reduceEqDiff, Nat.reduceAdd, Nat.reduceBEq, Nat.reduceLT, Nat.reduceLeDiff, binW, bodyQ, ressW, resW, ne_eq, forall_const, reduceCtorEq, implies_true, sets, oneAll, setD, rels, fillE, fillD, List.replicate, rowsOf, forall_eq, Nat.reduceMul, ↓zD, zT, hd2, runR_len]
      (repeat refine And.intro (by first | omega | exact ui_nonneg _ | exact Int.natCast_nonneg _ | rfl | exact rows_one' _ _ | exact us_one _ | (intro _ h; cases h; done)) ?_)
      refine ⟨k + 1, ⟨by omega, ?_⟩, ?_, by omega⟩
      · rw [hv, hb, Bool.false_or]
      (refine Weak.same ?_; simp only [sameF, Fr.get, ↓reduceIte, reduceIte, Nat.reduceEqDiff, reduceCtorEq, D.int.injEq, D.bool.injEq, D.sl.injEq, and_true, true_and, and_self])
      exact wrap_i64 (by omega)
    have hd2 : ((t : Int) < s.ln) := by omega
    rw [drop_cons (d := 0) htl, List.any_cons] at hb
    have hgu := us_get r.fac htl
    generalize r.fac.getD t 0 = x at hgu hb
    by_cases hx : x >>> s.fa.toNat = 0#64
    · have ex : (x >>> s.fa.toNat != 0#64) = false := by simpa using hx
      rw [decide_eq_true hx, Bool.not_true, Bool.false_or] at hb
      simp only [Int.reduceToNat, Int.reduceLT, Int.reduceLE, Int.reduceBEq, Int.reduceBNe, St0, argFr, ↓callZ, ↓midZ, ↓unZ, ↓thenW, ↓blockW, ↓opX, ↓opV, ↓pX, ↓pW, ↓putK, ↓putP, ↓atK, ↓normK, ↓postZ, ↓reduceIte, reduceIte, Nat.reduceEqDiff, Nat.reduceAdd, Nat.reduceBEq, Nat.reduceLT, Nat.reduceLeDiff, binW, bodyQ, ressW, resW, ne_eq, forall_const, reduceCtorEq, implies_true, sets, oneAll, setD, rels, fillE, fillD, List.replicate, rowsOf, forall_eq, Nat.reduceMul, ↓zD, zT, hd2, runR_len, hd, hg, RunA.row, us_len, hgu, ex]
      (repeat refine And.intro (by first | omega | exact ui_nonneg _ | exact Int.natCast_nonneg _ | rfl | exact rows_one' _ _ | exact us_one _ | (intro _ h; cases h; done)) ?_)
      refine ⟨t + 1, ⟨by omega, hb⟩, ?_, by omega⟩
      (refine Weak.same ?_; simp only [sameF, Fr.get, ↓reduceIte, reduceIte, Nat.reduceEqDiff, reduceCtorEq, D.int.injEq, D.bool.injEq, D.sl.injEq, and_true, true_and, and_self])
      exact wrap_i64 (by omega)
    · have ex : (x >>> s.fa.toNat != 0#64) = true := by simpa using hx
      rw [decide_eq_false hx, Bool.not_false, Bool.true_or] at hb
      rw [if_pos (by rw [hv, hb, Bool.true_or])]
      simp only [Int.reduceToNat, Int.reduceLT, Int.reduceLE, Int.reduceBEq, Int.reduceBNe, St0, argFr, ↓callZ, ↓midZ, ↓unZ, ↓thenW, ↓blockW, ↓opX, ↓opV, ↓pX, ↓pW, ↓putK, ↓putP, ↓atK, ↓normK, ↓postZ, ↓reduceIte, reduceIte, Nat.reduceEqDiff, Nat.reduceAdd, Nat.reduceBEq, Nat.reduceLT, Nat.reduceLeDiff, binW, bodyQ, ressW, resW, ne_eq, forall_const, reduceCtorEq, implies_true, sets, oneAll, setD, rels, fillE, fillD, List.replicate, rowsOf, forall_eq, Nat.reduceMul, ↓zD, zT, hd2, runR_len, hd, hg, RunA.row, us_len, hgu, ex]
      (repeat refine And.intro (by first | omega | exact ui_nonneg _ | exact Int.natCast_nonneg _ | rfl | exact rows_one' _ _ | exact us_one _ | (intro _ h; cases h; done)) ?_)
      exact .drop (by simp) (by simp [vw])
  have hd : ((k : Int) < (s.rs.length : Int)) := by omega
  rw [drop_cons (d := run0) hkl, List.any_cons] at hi
  have hg := runR_get s.rs hkl
  generalize s.rs.getD k run0 = r at hg hi
  have hend : badF s r = true → s.rs.any (badF s) = true := fun h => by rw [hi, h, Bool.true_or]
  by_cases c1 : (r.loc.length : Int) = s.ln
  case neg =>
    have e1 : ((r.loc.length : Int) != s.ln) = true := by simpa using c1
    rw [if_pos (hend (by unfold badF; simp [c1]))]
    simp only [Int.reduceToNat, Int.reduceLT, Int.reduceLE, Int.reduceBEq, Int.reduceBNe, St0, argFr, ↓callZ, ↓midZ, ↓unZ, ↓thenW, ↓blockW, ↓opX, ↓opV, ↓pX, ↓pW, ↓putK, ↓putP, ↓atK, ↓normK, ↓postZ, ↓reduceIte, reduceIte, Nat.reduceEqDiff, Nat.reduceAdd, Nat.reduceBEq, Nat.reduceLT, Nat.reduceLeDiff, binW, bodyQ, ressW, resW, ne_eq, forall_const, reduceCtorEq, implies_true, sets, oneAll, setD, rels, fillE, fillD, List.replicate, rowsOf, forall_eq, Nat.reduceMul, ↓zD, zT, hd, runR_len, hg, RunA.row, rl_len, e1]
    (repeat refine And.intro (by first | omega | exact ui_nonneg _ | exact Int.natCast_nonneg _ | rfl | exact rows_one' _ _ | exact us_one _ | (intro _ h; cases h; done)) ?_)
    exact .drop (by simp) (by simp [vw])
  have e1 : ((r.loc.length : Int) != s.ln) = false := by simpa using c1
  by_cases c2 : (r.fac.length : Int) = s.ln
  case neg =>
    have e2 : ((r.fac.length : Int) != s.ln) = true := by simpa using c2
    rw [if_pos (hend (by unfold badF; simp [c2]))]
    simp only [Int.reduceToNat, Int.reduceLT, Int.reduceLE, Int.reduceBEq, Int.reduceBNe, St0, argFr, ↓callZ, ↓midZ, ↓unZ, ↓thenW, ↓blockW, ↓opX, ↓opV, ↓pX, ↓pW, ↓putK, ↓putP, ↓atK, ↓normK, ↓postZ, ↓reduceIte, reduceIte, Nat.reduceEqDiff, Nat.reduceAdd, Nat.reduceBEq, Nat.reduceLT, Nat.reduceLeDiff, binW, bodyQ, ressW, resW, ne_eq, forall_const, reduceCtorEq, implies_true, sets, oneAll, setD, rels, fillE, fillD, List.replicate, rowsOf, forall_eq, Nat.reduceMul, ↓zD, zT, hd, runR_len, hg, RunA.row, rl_len, e1, us_len, e2]
    (repeat refine And.intro (by first | omega | exact ui_nonneg _ | exact Int.natCast_nonneg _ | rfl | exact rows_one' _ _ | exact us_one _ | (intro _ h; cases h; done)) ?_)
    exact .drop (by simp) (by simp [vw])
  have e2 : ((r.fac.length : Int) != s.ln) = false := by simpa using c2
  have hbf : badF s r = r.loc.any fun l => !decide ((l.length : Int) = s.ag) := by unfold badF; simp [c1, c2]
  simp only [Int.reduceToNat, Int.reduceLT, Int.reduceLE, Int.reduceBEq, Int.reduceBNe, St0, argFr, ↓callZ, ↓midZ, ↓unZ, ↓thenW, ↓blockW, ↓opX, ↓opV, ↓pX, ↓pW, ↓putK, ↓putP, ↓atK, ↓normK, ↓postZ, ↓reduceIte, reduceIte, Nat.reduceEqDiff, Nat.reduceAdd, Nat.reduceBEq, Nat.reduceLT, Nat.reduceLeDiff, binW, bodyQ, ressW, resW, ne_eq, forall_const, reduceCtorEq, implies_true, sets, oneAll, setD, rels, fillE, fillD, List.replicate, rowsOf, forall_eq, Nat.reduceMul, ↓zD, zT, hd, runR_len, hg, RunA.row, rl_len, e1, us_len, e2]
  (repeat refine And.intro (by first | omega | exact ui_nonneg _ | exact Int.natCast_nonneg _ | rfl | exact rows_one' _ _ | exact us_one _ | (intro _ h; cases h; done)) ?_)
  refine wpS_loop (fun t : Nat => [(4, .int .i64 t), (3, .int .i64 k), (1, .ref 0 4 0 0)]) (fun _ => ⟨1, [(0, ⟨4, [[.int .i64 s.ag, .int .i64 s.fa, .int .i64 s.ln, .sl 2 (runR s.rs)]]⟩)]⟩)
    (fun t => t ≤ r.loc.length ∧ badF s r = (r.loc.drop t).any (fun l => !decide ((l.length : Int) = s.ag))) (fun t => r.loc.length - t) 0 ⟨Nat.zero_le _, hbf⟩ ?_ ?_
  · (refine Weak.same ?_; simp [sameF, Fr.get])
  intro t ⟨ht, hb⟩
  refine wpS_go mixed ?_
  by_cases htl : t < r.loc.length
  case neg =>
    have hd2 : ¬ ((t : Int) < s.ln) := by omega
    rw [List.drop_eq_nil_of_le (by omega), List.any_nil] at hb
    simp only [Int.reduceToNat, Int.reduceLT, Int.reduceLE, Int.reduceBEq, Int.reduceBNe, St0, argFr, ↓callZ, ↓midZ, ↓unZ, ↓thenW, ↓blockW, ↓opX, ↓opV, ↓pX, ↓pW, ↓putK, ↓putP, ↓atK, ↓normK, ↓postZ, ↓reduceIte, reduceIte, Nat.reduceEqDiff, Nat.reduceAdd, Nat.reduceBEq, Nat.reduceLT, Nat.reduceLeDiff, binW, bodyQ, ressW, resW, ne_eq, forall_const, reduceCtorEq, implies_true, sets, oneAll, setD, rels, fillE, fillD, List.replicate, rowsOf, forall_eq, Nat.reduceMul, ↓zD, zT, hd2]
    (repeat refine And.intro (by first | omega | exact ui_nonneg _ | exact Int.natCast_nonneg _ | rfl | exact rows_one' _ _ | exact us_one _ | (intro _ h; cases h; done)) ?_)
    refine ⟨k + 1, ⟨by omega, ?_⟩, ?_, by omega⟩
    · rw [hi, hb, Bool.false_or]
    (refine Weak.same ?_; simp only [sameF, Fr.get, ↓reduceIte, reduceIte, Nat.reduceEqDiff, reduceCtorEq, D.int.injEq, D.bool.injEq, D.sl.injEq, and_true, true_and, and_self])
    exact wrap_i64 (by omega)
  have hd2 : ((t : Int) < s.ln) := by omega
  rw [drop_cons (d := []) htl, List.any_cons] at hb
  have hgu := rl_get r.loc htl
  generalize r.loc.getD t [] = x at hgu hb
  by_cases hx : (x.length : Int) = s.ag
  · have ex : ((x.length : Int) != s.ag) = false := by simpa using hx
    rw [decide_eq_true hx, Bool.not_true, Bool.false_or] at hb
    simp only [Int.reduceToNat, Int.reduceLT, Int.reduceLE, Int.reduceBEq, Int.reduceBNe, St0, argFr, ↓callZ, ↓midZ, ↓unZ, ↓thenW, ↓blockW, ↓opX, ↓opV, ↓pX, ↓pW, ↓putK, ↓putP, ↓atK, ↓normK, ↓postZ, ↓reduceIte, reduceIte, Nat.reduceEqDiff, Nat.reduceAdd, Nat.reduceBEq, Nat.reduceLT, Nat.reduceLeDiff, binW, bodyQ, ressW, resW, ne_eq, forall_const, reduceCtorEq, implies_true, sets, oneAll, setD, rels, fillE, fillD, List.replicate, rowsOf, forall_eq, Nat.reduceMul, ↓zD, zT, hd2, runR_len, hd, hg, RunA.row, rl_len, hgu, rows_len, ex]
    (repeat refine And.intro (by first | omega | exact ui_nonneg _ | exact Int.natCast_nonneg _ | rfl | exact rows_one' _ _ | exact us_one _ | (intro _ h; cases h; done)) ?_)
    refine ⟨t + 1, ⟨by omega, hb⟩, ?_, by omega⟩
    (refine Weak.same ?_; simp only [sameF, Fr.get, ↓reduceIte, reduceIte, Nat.reduceEqDiff, reduceCtorEq, D.int.injEq, D.bool.injEq, D.sl.injEq, and_true, true_and, and_self])
    exact wrap_i64 (by omega)
  · have ex : ((x.length : Int) != s.ag) = true := by simpa using hx
    rw [decide_eq_false hx, Bool.not_false, Bool.true_or] at hb
    rw [if_pos (hend hb)]
    simp only [Int.reduceToNat, Int.reduceLT, Int.reduceLE, Int.reduceBEq, Int.reduceBNe, St0, argFr, ↓callZ, ↓midZ, ↓unZ, ↓thenW, ↓blockW, ↓opX, ↓opV, ↓pX, ↓pW, ↓putK, ↓putP, ↓atK, ↓normK, ↓postZ, ↓reduceIte, reduceIte, Nat.reduceEqDiff, Nat.reduceAdd, Nat.reduceBEq, Nat.reduceLT, Nat.reduceLeDiff, binW, bodyQ, ressW, resW, ne_eq, forall_const, reduceCtorEq, implies_true, sets, oneAll, setD, rels, fillE, fillD, List.replicate, rowsOf, forall_eq, Nat.reduceMul, ↓zD, zT, hd2, runR_len, hd, hg, RunA.row, rl_len, hgu, rows_len, ex]
    (repeat refine And.intro (by first | omega | exact ui_nonneg _ | exact Int.natCast_nonneg _ | rfl | exact rows_one' _ _ | exact us_one _ | (intro _ h; cases h; done)) ?_)
    exact .drop (by simp) (by simp [vw])
end Go.Pd
