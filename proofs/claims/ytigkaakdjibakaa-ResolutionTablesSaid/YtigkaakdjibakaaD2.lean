/- Resolution: contracts: the lines of a refutation. -/
import Derived.Test.YtigkaakdjibakaaD1
set_option linter.unusedSectionVars false
set_option linter.unusedVariables false
set_option linter.unusedSimpArgs false
set_option linter.defProp false
set_option maxRecDepth 20000
namespace Go.Pd
open Go Go.Proofs
open Rs
namespace Rs
structure Ln where
  cl : List Int
  lf : Int
  rt : Int
  on : Int
def ln0 : Ln := ⟨[], 0, 0, 0⟩
def lnRow (p : Ln) : List D := [.sl 1 (rows .i64 p.cl), .int .i64 p.lf, .int .i64 p.rt, .int .i64 p.on]
def lnR (ls : List Ln) : List (List D) := ls.map lnRow
theorem lnR_len (ls : List Ln) : (lnR ls).length = ls.length := by simp [lnR]
theorem lnR_get (ls : List Ln) {i : Nat} (h : i < ls.length) : (lnR ls).getD i [] = lnRow (ls.getD i ln0) := by simp [lnR, List.getD, h]
theorem lnR_pure (ls : List Ln) : ∀ e ∈ lnR ls, D.isPureL e = true := by
  intro e he
  simp only [lnR, List.mem_map] at he
  obtain ⟨p, _, rfl⟩ := he
  simp [lnRow, D.isPureL, D.isPure, rows]
/-- A line is formed: it stands after k lines, there are m clauses. -/
def formedB (k m : Int) (p : Ln) : Bool := if p.lf = -1 then decide (0 ≤ p.rt) && decide (p.rt < m) && decide (p.on = 0) else decide (0 ≤ p.lf) && decide (p.lf < k) && decide (0 ≤ p.rt) && decide (p.rt < k)
end Rs
theorem formed51 {ls : List Ln} {k : Nat} (m : Int) (hk : k < ls.length) : Runs Try.prog 51 [.sl 4 (lnR ls), .int .i64 k, .int .i64 m] (.bool (formedB k m (ls.getD k ln0))) := by
  have hg := lnR_get ls hk
  generalize ls.getD k ln0 = p at hg
  refine CallT.go_fn mixed Try.func51 k51 (by simp) fun hf => ?_
  by_cases h1 : p.lf = -1
  · have e1 : (p.lf == -1) = true := by simpa using h1
    by_cases h2 : 0 ≤ p.rt
    · by_cases h3 : p.rt < m
      · by_cases h4 : p.on = 0
        · simp only [Int.reduceToNat, Int.reduceLT, Int.reduceLE, Int.reduceBEq, Int.reduceBNe, St0, argFr, ↓thenW, ↓blockW, ↓opX, ↓opV, ↓pX, ↓pW, ↓putK, ↓putP, ↓atK, ↓normK, ↓postZ, ↓reduceIte, reduceIte, Nat.reduceEqDiff, Nat.reduceAdd, Nat.reduceBEq, Nat.reduceLT, Nat.reduceLeDiff, binW, bodyQ, ressW, resW, ne_eq, forall_const, reduceCtorEq, implies_true, sets, oneAll, setD, rels, fillE, fillD, List.replicate, rowsOf, forall_eq, Nat.reduceMul, ↓zD, zT, lnR_len, hg, lnRow, e1, h2, h3, h4]
          (repeat (first | refine And.intro (by omega) ?_ | refine And.intro (ui_nonneg _) ?_ | refine And.intro (Int.natCast_nonneg _) ?_ | refine And.intro rfl ?_ | refine And.intro (rows_one' _ _) ?_ | refine And.intro (us_one _) ?_ | refine And.intro (by intro _ h; cases h; done) ?_))
          exact .drop (by simp) (by simp [vw, formedB, h1, h2, h3, h4])
        · have e4 : (p.on == 0) = false := by simpa using h4
          simp only [Int.reduceToNat, Int.reduceLT, Int.reduceLE, Int.reduceBEq, Int.reduceBNe, St0, argFr, ↓thenW, ↓blockW, ↓opX, ↓opV, ↓pX, ↓pW, ↓putK, ↓putP, ↓atK, ↓normK, ↓postZ, ↓reduceIte, reduceIte, Nat.reduceEqDiff, Nat.reduceAdd, Nat.reduceBEq, Nat.reduceLT, Nat.reduceLeDiff, binW, bodyQ, ressW, resW, ne_eq, forall_const, reduceCtorEq, implies_true, sets, oneAll, setD, rels, fillE, fillD, List.replicate, rowsOf, forall_eq, Nat.reduceMul, ↓zD, zT, lnR_len, hg, lnRow, e1, h2, h3, e4]
          (repeat (first | refine And.intro (by omega) ?_ | refine And.intro (ui_nonneg _) ?_ | refine And.intro (Int.natCast_nonneg _) ?_ | refine And.intro rfl ?_ | refine And.intro (rows_one' _ _) ?_ | refine And.intro (us_one _) ?_ | refine And.intro (by intro _ h; cases h; done) ?_))
          exact .drop (by simp) (by simp [vw, formedB, h1, h2, h3, h4])
      · simp only [Int.reduceToNat, Int.reduceLT, Int.reduceLE, Int.reduceBEq, Int.reduceBNe, St0, argFr, ↓thenW, ↓blockW, ↓opX, ↓opV, ↓pX, ↓pW, ↓putK, ↓putP, ↓atK, ↓normK, ↓postZ, ↓reduceIte, reduceIte, Nat.reduceEqDiff, Nat.reduceAdd, Nat.reduceBEq, Nat.reduceLT, Nat.reduceLeDiff, binW, bodyQ, ressW, resW, ne_eq, forall_const, reduceCtorEq, implies_true, sets, oneAll, setD, rels, fillE, fillD, List.replicate, rowsOf, forall_eq, Nat.reduceMul, ↓zD, zT, lnR_len, hg, lnRow, e1, h2, h3]
        (repeat (first | refine And.intro (by omega) ?_ | refine And.intro (ui_nonneg _) ?_ | refine And.intro (Int.natCast_nonneg _) ?_ | refine And.intro rfl ?_ | refine And.intro (rows_one' _ _) ?_ | refine And.intro (us_one _) ?_ | refine And.intro (by intro _ h; cases h; done) ?_))
        exact .drop (by simp) (by simp [vw, formedB, h1, h2, h3])
    · simp only [Int.reduceToNat, Int.reduceLT, Int.reduceLE, Int.reduceBEq, Int.reduceBNe, St0, argFr, ↓thenW, ↓blockW, ↓opX, ↓opV, ↓pX, ↓pW, ↓putK, ↓putP, ↓atK, ↓normK, ↓postZ, ↓reduceIte, reduceIte, Nat.reduceEqDiff, Nat.reduceAdd, Nat.reduceBEq, Nat.reduceLT, Nat.reduceLeDiff, binW, bodyQ, ressW, resW, ne_eq, forall_const, reduceCtorEq, implies_true, sets, oneAll, setD, rels, fillE, fillD, List.replicate, rowsOf, forall_eq, Nat.reduceMul, ↓zD, zT, lnR_len, hg, lnRow, e1, h2]
      (repeat (first | refine And.intro (by omega) ?_ | refine And.intro (ui_nonneg _) ?_ | refine And.intro (Int.natCast_nonneg _) ?_ | refine And.intro rfl ?_ | refine And.intro (rows_one' _ _) ?_ | refine And.intro (us_one _) ?_ | refine And.intro (by intro _ h; cases h; done) ?_))
      exact .drop (by simp) (by simp [vw, formedB, h1, h2])
  · have e1 : (p.lf == -1) = false := by simpa using h1
    by_cases h2 : 0 ≤ p.lf
    · by_cases h3 : p.lf < k
      · by_cases h4 : 0 ≤ p.rt
        · simp only [Int.reduceToNat, Int.reduceLT, Int.reduceLE, Int.reduceBEq, Int.reduceBNe, St0, argFr, ↓thenW, ↓blockW, ↓opX, ↓opV, ↓pX, ↓pW, ↓putK, ↓putP, ↓atK, ↓normK, ↓postZ, ↓reduceIte, reduceIte, Nat.reduceEqDiff, Nat.reduceAdd, Nat.reduceBEq, Nat.reduceLT, Nat.reduceLeDiff, binW, bodyQ, ressW, resW, ne_eq, forall_const, reduceCtorEq, implies_true, sets, oneAll, setD, rels, fillE, fillD, List.replicate, rowsOf, forall_eq, Nat.reduceMul, ↓zD, zT, lnR_len, hg, lnRow, e1, h2, h3, h4]
          (repeat (first | refine And.intro (by omega) ?_ | refine And.intro (ui_nonneg _) ?_ | refine And.intro (Int.natCast_nonneg _) ?_ | refine And.intro rfl ?_ | refine And.intro (rows_one' _ _) ?_ | refine And.intro (us_one _) ?_ | refine And.intro (by intro _ h; cases h; done) ?_))
          exact .drop (by simp) (by simp [vw, formedB, h1, h2, h3, h4])
        · simp only [Int.reduceToNat, Int.reduceLT, Int.reduceLE, Int.reduceBEq, Int.reduceBNe, St0, argFr, ↓thenW, ↓blockW, ↓opX, ↓opV, ↓pX, ↓pW, ↓putK, ↓putP, ↓atK, ↓normK, ↓postZ, ↓reduceIte, reduceIte, Nat.reduceEqDiff, Nat.reduceAdd, Nat.reduceBEq, Nat.reduceLT, Nat.reduceLeDiff, binW, bodyQ, ressW, resW, ne_eq, forall_const, reduceCtorEq, implies_true, sets, oneAll, setD, rels, fillE, fillD, List.replicate, rowsOf, forall_eq, Nat.reduceMul, ↓zD, zT, lnR_len, hg, lnRow, e1, h2, h3, h4]
          (repeat (first | refine And.intro (by omega) ?_ | refine And.intro (ui_nonneg _) ?_ | refine And.intro (Int.natCast_nonneg _) ?_ | refine And.intro rfl ?_ | refine And.intro (rows_one' _ _) ?_ | refine And.intro (us_one _) ?_ | refine And.intro (by intro _ h; cases h; done) ?_))
          exact .drop (by simp) (by simp [vw, formedB, h1, h2, h3, h4])
      · simp only [Int.reduceToNat, Int.reduceLT, Int.reduceLE, Int.reduceBEq, Int.reduceBNe, St0, argFr, ↓thenW, ↓blockW, ↓opX, ↓opV, ↓pX, ↓pW, ↓putK, ↓putP, ↓atK, ↓normK, ↓postZ, ↓reduceIte, reduceIte, Nat.reduceEqDiff, Nat.reduceAdd, Nat.reduceBEq, Nat.reduceLT, Nat.reduceLeDiff, binW, bodyQ, ressW, resW, ne_eq, forall_const, reduceCtorEq, implies_true, sets, oneAll, setD, rels, fillE, fillD, List.replicate, rowsOf, forall_eq, Nat.reduceMul, ↓zD, zT, lnR_len, hg, lnRow, e1, h2, h3]
        (repeat (first | refine And.intro (by omega) ?_ | refine And.intro (ui_nonneg _) ?_ | refine And.intro (Int.natCast_nonneg _) ?_ | refine And.intro rfl ?_ | refine And.intro (rows_one' _ _) ?_ | refine And.intro (us_one _) ?_ | refine And.intro (by intro _ h; cases h; done) ?_))
        exact .drop (by simp) (by simp [vw, formedB, h1, h2, h3])
    · simp only [Int.reduceToNat, Int.reduceLT, Int.reduceLE, Int.reduceBEq, Int.reduceBNe, St0, argFr, ↓thenW, ↓blockW, ↓opX, ↓opV, ↓pX, ↓pW, ↓putK, ↓putP, ↓atK, ↓normK, ↓postZ, ↓reduceIte, reduceIte, Nat.reduceEqDiff, Nat.reduceAdd, Nat.reduceBEq, Nat.reduceLT, Nat.reduceLeDiff, binW, bodyQ, ressW, resW, ne_eq, forall_const, reduceCtorEq, implies_true, sets, oneAll, setD, rels, fillE, fillD, List.replicate, rowsOf, forall_eq, Nat.reduceMul, ↓zD, zT, lnR_len, hg, lnRow, e1, h2]
      (repeat (first | refine And.intro (by omega) ?_ | refine And.intro (ui_nonneg _) ?_ | refine And.intro (Int.natCast_nonneg _) ?_ | refine And.intro rfl ?_ | refine And.intro (rows_one' _ _) ?_ | refine And.intro (us_one _) ?_ | refine And.intro (by intro _ h; cases h; done) ?_))
      exact .drop (by simp) (by simp [vw, formedB, h1, h2])
namespace Rs
/-- A line is right. -/
def rightB (l : List (List Int)) (ls : List Ln) (p : Ln) : Bool := if p.lf = -1 then decide (p.cl = l.getD p.rt.toNat []) else decide ((resolveA (ls.getD p.lf.toNat ln0).cl (ls.getD p.rt.toNat ln0).cl p.on).2 = 0) && decide (p.cl = (resolveA (ls.getD p.lf.toNat ln0).cl (ls.getD p.rt.toNat ln0).cl p.on).1)
theorem formed_in {k m : Int} {p : Ln} (h : formedB k m p = true) (h1 : p.lf = -1) : 0 ≤ p.rt ∧ p.rt < m := by
  simp only [formedB, h1, if_true, Bool.and_eq_true, decide_eq_true_eq] at h
  exact ⟨h.1.1, h.1.2⟩
theorem formed_re {k m : Int} {p : Ln} (h : formedB k m p = true) (h1 : p.lf ≠ -1) : (0 ≤ p.lf ∧ p.lf < k) ∧ 0 ≤ p.rt ∧ p.rt < k := by
  simp only [formedB, if_neg h1, Bool.and_eq_true, decide_eq_true_eq] at h
  exact ⟨⟨h.1.1.1, h.1.1.2⟩, h.1.2, h.2⟩
end Rs
theorem right52 {l : List (List Int)} {ls : List Ln} {k : Nat} (hk : k < ls.length) (hform : formedB k l.length (ls.getD k ln0) = true) : Runs Try.prog 52 [.sl 1 (rl l), .sl 4 (lnR ls), .int .i64 k] (.bool (rightB l ls (ls.getD k ln0))) := by
  have hg := lnR_get ls hk
  generalize ls.getD k ln0 = p at hg hform
  refine CallT.go_fn mixed Try.func52 k52 (by simp) fun hf => ?_
  by_cases h1 : p.lf = -1
  · have e1 : (p.lf == -1) = true := by simpa using h1
    obtain ⟨i1, i2⟩ := formed_in hform h1
    obtain ⟨j, hj⟩ := Int.eq_ofNat_of_zero_le i1
    have hgj := rl_get l (show j < l.length by omega)
    simp only [Int.reduceToNat, Int.reduceLT, Int.reduceLE, Int.reduceBEq, Int.reduceBNe, St0, argFr, ↓thenW, ↓blockW, ↓opX, ↓opV, ↓pX, ↓pW, ↓putK, ↓putP, ↓atK, ↓normK, ↓postZ, ↓reduceIte, reduceIte, Nat.reduceEqDiff, Nat.reduceAdd, Nat.reduceBEq, Nat.reduceLT, Nat.reduceLeDiff, binW, bodyQ, ressW, resW, ne_eq, forall_const, reduceCtorEq, implies_true, sets, oneAll, setD, rels, fillE, fillD, List.replicate, rowsOf, forall_eq, Nat.reduceMul, ↓zD, zT, lnR_len, rl_len, hg, lnRow, e1, hj, hgj]
    (repeat (first | refine And.intro (by omega) ?_ | refine And.intro (ui_nonneg _) ?_ | refine And.intro (Int.natCast_nonneg _) ?_ | refine And.intro rfl ?_ | refine And.intro (rows_one' _ _) ?_ | refine And.intro (us_one _) ?_ | refine And.intro (by intro _ h; cases h; done) ?_))
    refine .go (CallT.of_runs (same17 p.cl (l.getD j [])) (by simp [D.isPureL, D.isPure])) ?_
    simp only [Int.reduceToNat, Int.reduceLT, Int.reduceLE, Int.reduceBEq, Int.reduceBNe, St0, argFr, ↓thenW, ↓blockW, ↓opX, ↓opV, ↓pX, ↓pW, ↓putK, ↓putP, ↓atK, ↓normK, ↓postZ, ↓reduceIte, reduceIte, Nat.reduceEqDiff, Nat.reduceAdd, Nat.reduceBEq, Nat.reduceLT, Nat.reduceLeDiff, binW, bodyQ, ressW, resW, ne_eq, forall_const, reduceCtorEq, implies_true, sets, oneAll, setD, rels, fillE, fillD, List.replicate, rowsOf, forall_eq, Nat.reduceMul, ↓zD, zT]
    have er : rightB l ls p = decide (p.cl = l.getD j []) := by rw [rightB, if_pos h1, hj, Int.toNat_natCast]
    rw [er]
    exact .drop (by simp) (by simp [vw])
  · have e1 : (p.lf == -1) = false := by simpa using h1
    obtain ⟨⟨i1, i2⟩, i3, i4⟩ := formed_re hform h1
    obtain ⟨x, hx⟩ := Int.eq_ofNat_of_zero_le i1
    obtain ⟨y, hy⟩ := Int.eq_ofNat_of_zero_le i3
    have hgx := lnR_get ls (show x < ls.length by omega)
    have hgy := lnR_get ls (show y < ls.length by omega)
    simp only [Int.reduceToNat, Int.reduceLT, Int.reduceLE, Int.reduceBEq, Int.reduceBNe, St0, argFr, ↓thenW, ↓blockW, ↓opX, ↓opV, ↓pX, ↓pW, ↓putK, ↓putP, ↓atK, ↓normK, ↓postZ, ↓reduceIte, reduceIte, Nat.reduceEqDiff, Nat.reduceAdd, Nat.reduceBEq, Nat.reduceLT, Nat.reduceLeDiff, binW, bodyQ, ressW, resW, ne_eq, forall_const, reduceCtorEq, implies_true, sets, oneAll, setD, rels, fillE, fillD, List.replicate, rowsOf, forall_eq, Nat.reduceMul, ↓zD, zT, lnR_len, rl_len, hg, lnRow, e1, hx, hy, hgx, hgy]
    (repeat (first | refine And.intro (by omega) ?_ | refine And.intro (ui_nonneg _) ?_ | refine And.intro (Int.natCast_nonneg _) ?_ | refine And.intro rfl ?_ | refine And.intro (rows_one' _ _) ?_ | refine And.intro (us_one _) ?_ | refine And.intro (by intro _ h; cases h; done) ?_))
    refine .go (CallT.of_runs (Resolve22 (ls.getD x ln0).cl (ls.getD y ln0).cl p.on) (by simp [D.isPureL, D.isPure])) ?_
    have er : rightB l ls p = (decide ((resolveA (ls.getD x ln0).cl (ls.getD y ln0).cl p.on).2 = 0) && decide (p.cl = (resolveA (ls.getD x ln0).cl (ls.getD y ln0).cl p.on).1)) := by rw [rightB, if_neg h1, hx, hy, Int.toNat_natCast, Int.toNat_natCast]
    rw [er]
    generalize resolveA (ls.getD x ln0).cl (ls.getD y ln0).cl p.on = q
    by_cases h5 : q.2 = 0
    · have e5 : (q.2 == 0) = true := by simpa using h5
      simp only [Int.reduceToNat, Int.reduceLT, Int.reduceLE, Int.reduceBEq, Int.reduceBNe, St0, argFr, ↓thenW, ↓blockW, ↓opX, ↓opV, ↓pX, ↓pW, ↓putK, ↓putP, ↓atK, ↓normK, ↓postZ, ↓reduceIte, reduceIte, Nat.reduceEqDiff, Nat.reduceAdd, Nat.reduceBEq, Nat.reduceLT, Nat.reduceLeDiff, binW, bodyQ, ressW, resW, ne_eq, forall_const, reduceCtorEq, implies_true, sets, oneAll, setD, rels, fillE, fillD, List.replicate, rowsOf, forall_eq, Nat.reduceMul, ↓zD, zT, e5]
      (repeat (first | refine And.intro (by omega) ?_ | refine And.intro (ui_nonneg _) ?_ | refine And.intro (Int.natCast_nonneg _) ?_ | refine And.intro rfl ?_ | refine And.intro (rows_one' _ _) ?_ | refine And.intro (us_one _) ?_ | refine And.intro (by intro _ h; cases h; done) ?_))
      refine .go (CallT.of_runs (same17 p.cl q.1) (by simp [D.isPureL, D.isPure])) ?_
      simp only [Int.reduceToNat, Int.reduceLT, Int.reduceLE, Int.reduceBEq, Int.reduceBNe, St0, argFr, ↓thenW, ↓blockW, ↓opX, ↓opV, ↓pX, ↓pW, ↓putK, ↓putP, ↓atK, ↓normK, ↓postZ, ↓reduceIte, reduceIte, Nat.reduceEqDiff, Nat.reduceAdd, Nat.reduceBEq, Nat.reduceLT, Nat.reduceLeDiff, binW, bodyQ, ressW, resW, ne_eq, forall_const, reduceCtorEq, implies_true, sets, oneAll, setD, rels, fillE, fillD, List.replicate, rowsOf, forall_eq, Nat.reduceMul, ↓zD, zT]
      exact .drop (by simp) (by simp [vw, h5])
    · have e5 : (q.2 == 0) = false := by simpa using h5
      simp only [Int.reduceToNat, Int.reduceLT, Int.reduceLE, Int.reduceBEq, Int.reduceBNe, St0, argFr, ↓thenW, ↓blockW, ↓opX, ↓opV, ↓pX, ↓pW, ↓putK, ↓putP, ↓atK, ↓normK, ↓postZ, ↓reduceIte, reduceIte, Nat.reduceEqDiff, Nat.reduceAdd, Nat.reduceBEq, Nat.reduceLT, Nat.reduceLeDiff, binW, bodyQ, ressW, resW, ne_eq, forall_const, reduceCtorEq, implies_true, sets, oneAll, setD, rels, fillE, fillD, List.replicate, rowsOf, forall_eq, Nat.reduceMul, ↓zD, zT, e5]
      (repeat (first | refine And.intro (by omega) ?_ | refine And.intro (ui_nonneg _) ?_ | refine And.intro (Int.natCast_nonneg _) ?_ | refine And.intro rfl ?_ | refine And.intro (rows_one' _ _) ?_ | refine And.intro (us_one _) ?_ | refine And.intro (by intro _ h; cases h; done) ?_))
      exact .drop (by simp) (by simp [vw, h5])
end Go.Pd
