/- Resolution: contracts: refutations are tested. -/
import Derived.Test.YtigkaakdjibakaaD2
set_option linter.unusedSectionVars false
set_option linter.unusedVariables false
set_option linter.unusedSimpArgs false
set_option linter.defProp false
set_option maxRecDepth 20000
namespace Go.Pd
open Go Go.Proofs
open Rs
namespace Rs
def formedFrom (m : Int) : List Ln → Int → Bool
  | [], _ => true
  | p :: r, i => formedB i m p && formedFrom m r (i + 1)
theorem formedFrom_get {m : Int} : ∀ {ls : List Ln} {i : Int}, formedFrom m ls i = true → ∀ k, k < ls.length → formedB (i + k) m (ls.getD k ln0) = true
  | [], _, _, k, hk => by simp at hk
  | p :: r, i, h, k, hk => by
    rw [formedFrom, Bool.and_eq_true] at h
    cases k with
    | zero => simpa using h.1
    | succ k =>
      have := formedFrom_get h.2 k (by simp at hk; omega)
      rw [List.getD_cons_succ, show i + ((k + 1 : Nat) : Int) = i + 1 + k by omega]
      exact this
/-- The answer of Verify. -/
def verifyA (n : Int) (l : List (List Int)) (ls : List Ln) : Int := if checkC n l ≠ 0 then checkC n l else if formedFrom l.length ls 0 = false then 3 else if ls.all (rightB l ls) = false then 13 else if ls = [] ∨ (ls.getD (ls.length - 1) ln0).cl ≠ [] then 13 else 0
end Rs
theorem Verify24 (n : Int) (l : List (List Int)) (ls : List Ln) : Runs Try.prog 24 [.int .i64 n, .sl 1 (rl l), .sl 4 (lnR ls)] (.int .i64 (verifyA n l ls)) := by
  refine CallT.go_fn mixed Try.func24 k24 (by simp) fun hf => ?_
  simp only [D.factL, D.fact, lnR_len] at hf
  have hlen := hf.2.2.1.1
  simp only [Int.reduceToNat, Int.reduceLT, Int.reduceLE, Int.reduceBEq, Int.reduceBNe, St0, argFr, ↓thenW, ↓blockW, ↓opX, ↓opV, ↓pX, ↓pW, ↓putK, ↓putP, ↓atK, ↓normK, ↓postZ, ↓reduceIte, reduceIte, Nat.reduceEqDiff, Nat.reduceAdd, Nat.reduceBEq, Nat.reduceLT, Nat.reduceLeDiff, binW, bodyQ, ressW, resW, ne_eq, forall_const, reduceCtorEq, implies_true, sets, oneAll, setD, rels, fillE, fillD, List.replicate, rowsOf, forall_eq, Nat.reduceMul, ↓zD, zT]
  refine .go (CallT.of_runs (refCheck16 n l) (by simp [D.isPureL, D.isPure])) ?_
  by_cases hc : checkC n l = 0
  case neg =>
    have e : (checkC n l != 0) = true := by simpa using hc
    simp only [Int.reduceToNat, Int.reduceLT, Int.reduceLE, Int.reduceBEq, Int.reduceBNe, St0, argFr, ↓thenW, ↓blockW, ↓opX, ↓opV, ↓pX, ↓pW, ↓putK, ↓putP, ↓atK, ↓normK, ↓postZ, ↓reduceIte, reduceIte, Nat.reduceEqDiff, Nat.reduceAdd, Nat.reduceBEq, Nat.reduceLT, Nat.reduceLeDiff, binW, bodyQ, ressW, resW, ne_eq, forall_const, reduceCtorEq, implies_true, sets, oneAll, setD, rels, fillE, fillD, List.replicate, rowsOf, forall_eq, Nat.reduceMul, ↓zD, zT, e]
    rw [show verifyA n l ls = checkC n l from if_pos hc]
    exact .same
  have e : (checkC n l != 0) = false := by simpa using hc
  obtain ⟨h1, h2, h3, h4⟩ := checkC_zero hc
  have ev : verifyA n l ls = if formedFrom l.length ls 0 = false then 3 else if ls.all (rightB l ls) = false then 13 else if ls = [] ∨ (ls.getD (ls.length - 1) ln0).cl ≠ [] then 13 else 0 := if_neg (by omega)
  rw [ev]
  simp only [Int.reduceToNat, Int.reduceLT, Int.reduceLE, Int.reduceBEq, Int.reduceBNe, St0, argFr, ↓thenW, ↓blockW, ↓opX, ↓opV, ↓pX, ↓pW, ↓putK, ↓putP, ↓atK, ↓normK, ↓postZ, ↓reduceIte, reduceIte, Nat.reduceEqDiff, Nat.reduceAdd, Nat.reduceBEq, Nat.reduceLT, Nat.reduceLeDiff, binW, bodyQ, ressW, resW, ne_eq, forall_const, reduceCtorEq, implies_true, sets, oneAll, setD, rels, fillE, fillD, List.replicate, rowsOf, forall_eq, Nat.reduceMul, ↓zD, zT, e]
  refine wpS_loop (fun k : Nat => [(8, .int .i64 k), (2, .sl 4 (lnR ls)), (1, .sl 1 (rl l))]) (fun _ => ⟨0, []⟩) (fun k => k ≤ ls.length ∧ formedFrom l.length ls 0 = formedFrom l.length (ls.drop k) k) (fun k => ls.length - k) 0 ⟨Nat.zero_le _, rfl⟩ ?_ ?_
  · (refine Weak.same ?_; simp [sameF, Fr.get])
  intro k ⟨hk, hi⟩
  refine wpS_go mixed ?_
  by_cases h : k < ls.length
  · have hd : ((k : Int) < (ls.length : Int)) := by omega
    rw [drop_cons (d := ln0) h, formedFrom] at hi
    simp only [Int.reduceToNat, Int.reduceLT, Int.reduceLE, Int.reduceBEq, Int.reduceBNe, St0, argFr, ↓thenW, ↓blockW, ↓opX, ↓opV, ↓pX, ↓pW, ↓putK, ↓putP, ↓atK, ↓normK, ↓postZ, ↓reduceIte, reduceIte, Nat.reduceEqDiff, Nat.reduceAdd, Nat.reduceBEq, Nat.reduceLT, Nat.reduceLeDiff, binW, bodyQ, ressW, resW, ne_eq, forall_const, reduceCtorEq, implies_true, sets, oneAll, setD, rels, fillE, fillD, List.replicate, rowsOf, forall_eq, Nat.reduceMul, ↓zD, zT, hd, lnR_len, rl_len]
    refine .go (CallT.of_runs (formed51 (l.length : Int) h) (by simp [D.isPureL, D.isPure])) ?_
    cases hx : formedB k l.length (ls.getD k ln0)
    · rw [hx, Bool.false_and] at hi
      simp only [Int.reduceToNat, Int.reduceLT, Int.reduceLE, Int.reduceBEq, Int.reduceBNe, St0, argFr, ↓thenW, ↓blockW, ↓opX, ↓opV, ↓pX, ↓pW, ↓putK, ↓putP, ↓atK, ↓normK, ↓postZ, ↓reduceIte, reduceIte, Nat.reduceEqDiff, Nat.reduceAdd, Nat.reduceBEq, Nat.reduceLT, Nat.reduceLeDiff, binW, bodyQ, ressW, resW, ne_eq, forall_const, reduceCtorEq, implies_true, sets, oneAll, setD, rels, fillE, fillD, List.replicate, rowsOf, forall_eq, Nat.reduceMul, ↓zD, zT]
      rw [if_pos hi]
      exact .same
    · rw [hx, Bool.true_and] at hi
      simp only [Int.reduceToNat, Int.reduceLT, Int.reduceLE, Int.reduceBEq, Int.reduceBNe, St0, argFr, ↓thenW, ↓blockW, ↓opX, ↓opV, ↓pX, ↓pW, ↓putK, ↓putP, ↓atK, ↓normK, ↓postZ, ↓reduceIte, reduceIte, Nat.reduceEqDiff, Nat.reduceAdd, Nat.reduceBEq, Nat.reduceLT, Nat.reduceLeDiff, binW, bodyQ, ressW, resW, ne_eq, forall_const, reduceCtorEq, implies_true, sets, oneAll, setD, rels, fillE, fillD, List.replicate, rowsOf, forall_eq, Nat.reduceMul, ↓zD, zT]
      refine ⟨k + 1, ⟨by omega, hi⟩, ?_, by omega⟩
      (refine Weak.same ?_; simp only [sameF, Fr.get, ↓reduceIte, reduceIte, Nat.reduceEqDiff, reduceCtorEq, D.int.injEq, D.bool.injEq, D.sl.injEq, and_true, true_and, and_self])
      exact wrap_i64 (by omega)
  have hd : ¬ ((k : Int) < (ls.length : Int)) := by omega
  rw [List.drop_eq_nil_of_le (by omega), formedFrom] at hi
  have hform := formedFrom_get hi
  rw [if_neg (by rw [hi]; simp)]
  simp only [Int.reduceToNat, Int.reduceLT, Int.reduceLE, Int.reduceBEq, Int.reduceBNe, St0, argFr, ↓thenW, ↓blockW, ↓opX, ↓opV, ↓pX, ↓pW, ↓putK, ↓putP, ↓atK, ↓normK, ↓postZ, ↓reduceIte, reduceIte, Nat.reduceEqDiff, Nat.reduceAdd, Nat.reduceBEq, Nat.reduceLT, Nat.reduceLeDiff, binW, bodyQ, ressW, resW, ne_eq, forall_const, reduceCtorEq, implies_true, sets, oneAll, setD, rels, fillE, fillD, List.replicate, rowsOf, forall_eq, Nat.reduceMul, ↓zD, zT, hd, lnR_len]
  refine wpS_loop (fun k : Nat => [(9, .int .i64 k), (2, .sl 4 (lnR ls)), (1, .sl 1 (rl l))]) (fun _ => ⟨0, []⟩) (fun k => k ≤ ls.length ∧ ls.all (rightB l ls) = (ls.drop k).all (rightB l ls)) (fun k => ls.length - k) 0 ⟨Nat.zero_le _, rfl⟩ ?_ ?_
  · (refine Weak.same ?_; simp [sameF, Fr.get])
  clear hk hi h hd
  intro k ⟨hk, hi⟩
  refine wpS_go mixed ?_
  by_cases h : k < ls.length
  · have hd : ((k : Int) < (ls.length : Int)) := by omega
    rw [drop_cons (d := ln0) h, List.all_cons] at hi
    have hfk := hform k h
    rw [Int.zero_add] at hfk
    simp only [Int.reduceToNat, Int.reduceLT, Int.reduceLE, Int.reduceBEq, Int.reduceBNe, St0, argFr, ↓thenW, ↓blockW, ↓opX, ↓opV, ↓pX, ↓pW, ↓putK, ↓putP, ↓atK, ↓normK, ↓postZ, ↓reduceIte, reduceIte, Nat.reduceEqDiff, Nat.reduceAdd, Nat.reduceBEq, Nat.reduceLT, Nat.reduceLeDiff, binW, bodyQ, ressW, resW, ne_eq, forall_const, reduceCtorEq, implies_true, sets, oneAll, setD, rels, fillE, fillD, List.replicate, rowsOf, forall_eq, Nat.reduceMul, ↓zD, zT, hd, lnR_len]
    refine .go (CallT.of_runs (right52 h hfk) (by simp [D.isPureL, D.isPure])) ?_
    cases hx : rightB l ls (ls.getD k ln0)
    · rw [hx, Bool.false_and] at hi
      simp only [Int.reduceToNat, Int.reduceLT, Int.reduceLE, Int.reduceBEq, Int.reduceBNe, St0, argFr, ↓thenW, ↓blockW, ↓opX, ↓opV, ↓pX, ↓pW, ↓putK, ↓putP, ↓atK, ↓normK, ↓postZ, ↓reduceIte, reduceIte, Nat.reduceEqDiff, Nat.reduceAdd, Nat.reduceBEq, Nat.reduceLT, Nat.reduceLeDiff, binW, bodyQ, ressW, resW, ne_eq, forall_const, reduceCtorEq, implies_true, sets, oneAll, setD, rels, fillE, fillD, List.replicate, rowsOf, forall_eq, Nat.reduceMul, ↓zD, zT]
      rw [if_pos hi]
      exact .same
    · rw [hx, Bool.true_and] at hi
      simp only [Int.reduceToNat, Int.reduceLT, Int.reduceLE, Int.reduceBEq, Int.reduceBNe, St0, argFr, ↓thenW, ↓blockW, ↓opX, ↓opV, ↓pX, ↓pW, ↓putK, ↓putP, ↓atK, ↓normK, ↓postZ, ↓reduceIte, reduceIte, Nat.reduceEqDiff, Nat.reduceAdd, Nat.reduceBEq, Nat.reduceLT, Nat.reduceLeDiff, binW, bodyQ, ressW, resW, ne_eq, forall_const, reduceCtorEq, implies_true, sets, oneAll, setD, rels, fillE, fillD, List.replicate, rowsOf, forall_eq, Nat.reduceMul, ↓zD, zT]
      refine ⟨k + 1, ⟨by omega, hi⟩, ?_, by omega⟩
      (refine Weak.same ?_; simp only [sameF, Fr.get, ↓reduceIte, reduceIte, Nat.reduceEqDiff, reduceCtorEq, D.int.injEq, D.bool.injEq, D.sl.injEq, and_true, true_and, and_self])
      exact wrap_i64 (by omega)
  have hd : ¬ ((k : Int) < (ls.length : Int)) := by omega
  rw [List.drop_eq_nil_of_le (by omega), List.all_nil] at hi
  rw [if_neg (by rw [hi]; simp)]
  by_cases hz : ls.length = 0
  · have hz0 : ((ls.length : Int) == 0) = true := by simpa using hz
    simp only [Int.reduceToNat, Int.reduceLT, Int.reduceLE, Int.reduceBEq, Int.reduceBNe, St0, argFr, ↓thenW, ↓blockW, ↓opX, ↓opV, ↓pX, ↓pW, ↓putK, ↓putP, ↓atK, ↓normK, ↓postZ, ↓reduceIte, reduceIte, Nat.reduceEqDiff, Nat.reduceAdd, Nat.reduceBEq, Nat.reduceLT, Nat.reduceLeDiff, binW, bodyQ, ressW, resW, ne_eq, forall_const, reduceCtorEq, implies_true, sets, oneAll, setD, rels, fillE, fillD, List.replicate, rowsOf, forall_eq, Nat.reduceMul, ↓zD, zT, hd, lnR_len, hz0]
    rw [if_pos (.inl (List.length_eq_zero_iff.1 hz))]
    exact .same
  · have hz0 : ((ls.length : Int) == 0) = false := by simpa using hz
    have el : IntKind.i64.wrap ((ls.length : Int) - 1) = ((ls.length - 1 : Nat) : Int) := by rw [wrap_i64 (by omega)]; omega
    have hgl := lnR_get ls (show ls.length - 1 < ls.length by omega)
    have hne : ls ≠ [] := fun h => hz (by rw [h]; rfl)
    simp only [Int.reduceToNat, Int.reduceLT, Int.reduceLE, Int.reduceBEq, Int.reduceBNe, St0, argFr, ↓thenW, ↓blockW, ↓opX, ↓opV, ↓pX, ↓pW, ↓putK, ↓putP, ↓atK, ↓normK, ↓postZ, ↓reduceIte, reduceIte, Nat.reduceEqDiff, Nat.reduceAdd, Nat.reduceBEq, Nat.reduceLT, Nat.reduceLeDiff, binW, bodyQ, ressW, resW, ne_eq, forall_const, reduceCtorEq, implies_true, sets, oneAll, setD, rels, fillE, fillD, List.replicate, rowsOf, forall_eq, Nat.reduceMul, ↓zD, zT, hd, lnR_len, hz0, el, hgl, lnRow]
    (repeat (first | refine And.intro (by omega) ?_ | refine And.intro (ui_nonneg _) ?_ | refine And.intro (Int.natCast_nonneg _) ?_ | refine And.intro rfl ?_ | refine And.intro (rows_one' _ _) ?_ | refine And.intro (us_one _) ?_ | refine And.intro (by intro _ h; cases h; done) ?_))
    generalize (ls.getD (ls.length - 1) ln0).cl = c
    cases c with
    | nil =>
      rw [if_neg (by simp), if_neg (by simp [hne])]
      exact .same
    | cons x r =>
      rw [if_pos (by simp), if_pos (.inr (by simp))]
      exact .same
theorem Verify23 (n : Int) (l : List (List Int)) (ls : List Ln) : Runs Try.prog 23 [.int .i64 n, .sl 1 (rl l), .sl 4 (lnR ls)] (.int .i64 (verifyA n l ls)) := by
  refine CallT.go_fn mixed Try.func23 k23 (by simp) fun hf => ?_
  simp only [D.factL, D.fact, lnR_len] at hf
  have hlen := hf.2.2.1.1
  simp only [Int.reduceToNat, Int.reduceLT, Int.reduceLE, Int.reduceBEq, Int.reduceBNe, St0, argFr, ↓thenW, ↓blockW, ↓opX, ↓opV, ↓pX, ↓pW, ↓putK, ↓putP, ↓atK, ↓normK, ↓postZ, ↓reduceIte, reduceIte, Nat.reduceEqDiff, Nat.reduceAdd, Nat.reduceBEq, Nat.reduceLT, Nat.reduceLeDiff, binW, bodyQ, ressW, resW, ne_eq, forall_const, reduceCtorEq, implies_true, sets, oneAll, setD, rels, fillE, fillD, List.replicate, rowsOf, forall_eq, Nat.reduceMul, ↓zD, zT]
  refine .go (CallT.of_runs (check15 n l) (by simp [D.isPureL, D.isPure])) ?_
  by_cases hc : checkC n l = 0
  case neg =>
    have e : (checkC n l != 0) = true := by simpa using hc
    simp only [Int.reduceToNat, Int.reduceLT, Int.reduceLE, Int.reduceBEq, Int.reduceBNe, St0, argFr, ↓thenW, ↓blockW, ↓opX, ↓opV, ↓pX, ↓pW, ↓putK, ↓putP, ↓atK, ↓normK, ↓postZ, ↓reduceIte, reduceIte, Nat.reduceEqDiff, Nat.reduceAdd, Nat.reduceBEq, Nat.reduceLT, Nat.reduceLeDiff, binW, bodyQ, ressW, resW, ne_eq, forall_const, reduceCtorEq, implies_true, sets, oneAll, setD, rels, fillE, fillD, List.replicate, rowsOf, forall_eq, Nat.reduceMul, ↓zD, zT, e]
    rw [show verifyA n l ls = checkC n l from if_pos hc]
    exact .same
  have e : (checkC n l != 0) = false := by simpa using hc
  obtain ⟨h1, h2, h3, h4⟩ := checkC_zero hc
  have ev : verifyA n l ls = if formedFrom l.length ls 0 = false then 3 else if ls.all (rightB l ls) = false then 13 else if ls = [] ∨ (ls.getD (ls.length - 1) ln0).cl ≠ [] then 13 else 0 := if_neg (by omega)
  rw [ev]
  simp only [Int.reduceToNat, Int.reduceLT, Int.reduceLE, Int.reduceBEq, Int.reduceBNe, St0, argFr, ↓thenW, ↓blockW, ↓opX, ↓opV, ↓pX, ↓pW, ↓putK, ↓putP, ↓atK, ↓normK, ↓postZ, ↓reduceIte, reduceIte, Nat.reduceEqDiff, Nat.reduceAdd, Nat.reduceBEq, Nat.reduceLT, Nat.reduceLeDiff, binW, bodyQ, ressW, resW, ne_eq, forall_const, reduceCtorEq, implies_true, sets, oneAll, setD, rels, fillE, fillD, List.replicate, rowsOf, forall_eq, Nat.reduceMul, ↓zD, zT, e]
  refine wpS_loop (fun k : Nat => [(22, .int .i64 k), (21, .int .i64 ls.length), (20, .sl 4 (lnR ls)), (2, .sl 4 (lnR ls)), (1, .sl 1 (rl l))]) (fun _ => ⟨0, []⟩) (fun k => k ≤ ls.length ∧ formedFrom l.length ls 0 = formedFrom l.length (ls.drop k) k) (fun k => ls.length - k) 0 ⟨Nat.zero_le _, rfl⟩ ?_ ?_
  · (refine Weak.same ?_; simp [sameF, Fr.get, lnR_len])
  intro k ⟨hk, hi⟩
  refine wpS_go mixed ?_
  by_cases h : k < ls.length
  · have hd : ((k : Int) < (ls.length : Int)) := by omega
    rw [drop_cons (d := ln0) h, formedFrom] at hi
    have hg := lnR_get ls h
    generalize ls.getD k ln0 = p at hg hi
    cases hx : formedB k l.length p
    · rw [hx, Bool.false_and] at hi
      rw [if_pos hi]
      by_cases h1 : p.lf = -1
      · have e1 : (p.lf == -1) = true := by simpa using h1
        by_cases h2 : p.rt < 0
        · simp only [Int.reduceToNat, Int.reduceLT, Int.reduceLE, Int.reduceBEq, Int.reduceBNe, St0, argFr, ↓thenW, ↓blockW, ↓opX, ↓opV, ↓pX, ↓pW, ↓putK, ↓putP, ↓atK, ↓normK, ↓postZ, ↓reduceIte, reduceIte, Nat.reduceEqDiff, Nat.reduceAdd, Nat.reduceBEq, Nat.reduceLT, Nat.reduceLeDiff, binW, bodyQ, ressW, resW, ne_eq, forall_const, reduceCtorEq, implies_true, sets, oneAll, setD, rels, fillE, fillD, List.replicate, rowsOf, forall_eq, Nat.reduceMul, ↓zD, zT, hd, lnR_len, rl_len, hg, lnRow, e1, h2]
          (repeat (first | refine And.intro (by omega) ?_ | refine And.intro (ui_nonneg _) ?_ | refine And.intro (Int.natCast_nonneg _) ?_ | refine And.intro rfl ?_ | refine And.intro (rows_one' _ _) ?_ | refine And.intro (us_one _) ?_ | refine And.intro (by intro _ h; cases h; done) ?_))
          exact .drop (by simp) (by simp [vw])
        · by_cases h3 : (l.length : Int) ≤ p.rt
          · simp only [Int.reduceToNat, Int.reduceLT, Int.reduceLE, Int.reduceBEq, Int.reduceBNe, St0, argFr, ↓thenW, ↓blockW, ↓opX, ↓opV, ↓pX, ↓pW, ↓putK, ↓putP, ↓atK, ↓normK, ↓postZ, ↓reduceIte, reduceIte, Nat.reduceEqDiff, Nat.reduceAdd, Nat.reduceBEq, Nat.reduceLT, Nat.reduceLeDiff, binW, bodyQ, ressW, resW, ne_eq, forall_const, reduceCtorEq, implies_true, sets, oneAll, setD, rels, fillE, fillD, List.replicate, rowsOf, forall_eq, Nat.reduceMul, ↓zD, zT, hd, lnR_len, rl_len, hg, lnRow, e1, h2, h3]
            (repeat (first | refine And.intro (by omega) ?_ | refine And.intro (ui_nonneg _) ?_ | refine And.intro (Int.natCast_nonneg _) ?_ | refine And.intro rfl ?_ | refine And.intro (rows_one' _ _) ?_ | refine And.intro (us_one _) ?_ | refine And.intro (by intro _ h; cases h; done) ?_))
            exact .drop (by simp) (by simp [vw])
          · have h4 : p.on ≠ 0 := fun h4 => by
              rw [formedB, if_pos h1, h4] at hx
              simp at hx; omega
            have e4 : (p.on != 0) = true := bne_iff_ne.2 h4
            simp only [Int.reduceToNat, Int.reduceLT, Int.reduceLE, Int.reduceBEq, Int.reduceBNe, St0, argFr, ↓thenW, ↓blockW, ↓opX, ↓opV, ↓pX, ↓pW, ↓putK, ↓putP, ↓atK, ↓normK, ↓postZ, ↓reduceIte, reduceIte, Nat.reduceEqDiff, Nat.reduceAdd, Nat.reduceBEq, Nat.reduceLT, Nat.reduceLeDiff, binW, bodyQ, ressW, resW, ne_eq, forall_const, reduceCtorEq, implies_true, sets, oneAll, setD, rels, fillE, fillD, List.replicate, rowsOf, forall_eq, Nat.reduceMul, ↓zD, zT, hd, lnR_len, rl_len, hg, lnRow, e1, h2, h3, e4]
            (repeat (first | refine And.intro (by omega) ?_ | refine And.intro (ui_nonneg _) ?_ | refine And.intro (Int.natCast_nonneg _) ?_ | refine And.intro rfl ?_ | refine And.intro (rows_one' _ _) ?_ | refine And.intro (us_one _) ?_ | refine And.intro (by intro _ h; cases h; done) ?_))
            exact .drop (by simp) (by simp [vw])
      · have e1 : (p.lf == -1) = false := by simpa using h1
        have e1' : (p.lf != -1) = true := bne_iff_ne.2 h1
        by_cases h2 : p.lf < 0
        · simp only [Int.reduceToNat, Int.reduceLT, Int.reduceLE, Int.reduceBEq, Int.reduceBNe, St0, argFr, ↓thenW, ↓blockW, ↓opX, ↓opV, ↓pX, ↓pW, ↓putK, ↓putP, ↓atK, ↓normK, ↓postZ, ↓reduceIte, reduceIte, Nat.reduceEqDiff, Nat.reduceAdd, Nat.reduceBEq, Nat.reduceLT, Nat.reduceLeDiff, binW, bodyQ, ressW, resW, ne_eq, forall_const, reduceCtorEq, implies_true, sets, oneAll, setD, rels, fillE, fillD, List.replicate, rowsOf, forall_eq, Nat.reduceMul, ↓zD, zT, hd, lnR_len, rl_len, hg, lnRow, e1, e1', h2]
          (repeat (first | refine And.intro (by omega) ?_ | refine And.intro (ui_nonneg _) ?_ | refine And.intro (Int.natCast_nonneg _) ?_ | refine And.intro rfl ?_ | refine And.intro (rows_one' _ _) ?_ | refine And.intro (us_one _) ?_ | refine And.intro (by intro _ h; cases h; done) ?_))
          exact .drop (by simp) (by simp [vw])
        · by_cases h3 : (k : Int) ≤ p.lf
          · simp only [Int.reduceToNat, Int.reduceLT, Int.reduceLE, Int.reduceBEq, Int.reduceBNe, St0, argFr, ↓thenW, ↓blockW, ↓opX, ↓opV, ↓pX, ↓pW, ↓putK, ↓putP, ↓atK, ↓normK, ↓postZ, ↓reduceIte, reduceIte, Nat.reduceEqDiff, Nat.reduceAdd, Nat.reduceBEq, Nat.reduceLT, Nat.reduceLeDiff, binW, bodyQ, ressW, resW, ne_eq, forall_const, reduceCtorEq, implies_true, sets, oneAll, setD, rels, fillE, fillD, List.replicate, rowsOf, forall_eq, Nat.reduceMul, ↓zD, zT, hd, lnR_len, rl_len, hg, lnRow, e1, e1', h2, h3]
            (repeat (first | refine And.intro (by omega) ?_ | refine And.intro (ui_nonneg _) ?_ | refine And.intro (Int.natCast_nonneg _) ?_ | refine And.intro rfl ?_ | refine And.intro (rows_one' _ _) ?_ | refine And.intro (us_one _) ?_ | refine And.intro (by intro _ h; cases h; done) ?_))
            exact .drop (by simp) (by simp [vw])
          · by_cases h4 : p.rt < 0
            · simp only [Int.reduceToNat, Int.reduceLT, Int.reduceLE, Int.reduceBEq, Int.reduceBNe, St0, argFr, ↓thenW, ↓blockW, ↓opX, ↓opV, ↓pX, ↓pW, ↓putK, ↓putP, ↓atK, ↓normK, ↓postZ, ↓reduceIte, reduceIte, Nat.reduceEqDiff, Nat.reduceAdd, Nat.reduceBEq, Nat.reduceLT, Nat.reduceLeDiff, binW, bodyQ, ressW, resW, ne_eq, forall_const, reduceCtorEq, implies_true, sets, oneAll, setD, rels, fillE, fillD, List.replicate, rowsOf, forall_eq, Nat.reduceMul, ↓zD, zT, hd, lnR_len, rl_len, hg, lnRow, e1, e1', h2, h3, h4]
              (repeat (first | refine And.intro (by omega) ?_ | refine And.intro (ui_nonneg _) ?_ | refine And.intro (Int.natCast_nonneg _) ?_ | refine And.intro rfl ?_ | refine And.intro (rows_one' _ _) ?_ | refine And.intro (us_one _) ?_ | refine And.intro (by intro _ h; cases h; done) ?_))
              exact .drop (by simp) (by simp [vw])
            · have h5 : (k : Int) ≤ p.rt := by
                rw [formedB, if_neg h1] at hx
                simp at hx; omega
              simp only [Int.reduceToNat, Int.reduceLT, Int.reduceLE, Int.reduceBEq, Int.reduceBNe, St0, argFr, ↓thenW, ↓blockW, ↓opX, ↓opV, ↓pX, ↓pW, ↓putK, ↓putP, ↓atK, ↓normK, ↓postZ, ↓reduceIte, reduceIte, Nat.reduceEqDiff, Nat.reduceAdd, Nat.reduceBEq, Nat.reduceLT, Nat.reduceLeDiff, binW, bodyQ, ressW, resW, ne_eq, forall_const, reduceCtorEq, implies_true, sets, oneAll, setD, rels, fillE, fillD, List.replicate, rowsOf, forall_eq, Nat.reduceMul, ↓zD, zT, hd, lnR_len, rl_len, hg, lnRow, e1, e1', h2, h3, h4, h5]
              (repeat (first | refine And.intro (by omega) ?_ | refine And.intro (ui_nonneg _) ?_ | refine And.intro (Int.natCast_nonneg _) ?_ | refine And.intro rfl ?_ | refine And.intro (rows_one' _ _) ?_ | refine And.intro (us_one _) ?_ | refine And.intro (by intro _ h; cases h; done) ?_))
              exact .drop (by simp) (by simp [vw])
    · rw [hx, Bool.true_and] at hi
      by_cases h1 : p.lf = -1
      · have e1 : (p.lf == -1) = true := by simpa using h1
        have e1' : (p.lf != -1) = false := by simpa using h1
        simp only [formedB, if_pos h1, Bool.and_eq_true, decide_eq_true_eq] at hx
        have h2 : ¬ p.rt < 0 := by omega
        have h3 : ¬ (l.length : Int) ≤ p.rt := by omega
        have e4 : (p.on != 0) = false := by simpa using hx.2
        simp only [Int.reduceToNat, Int.reduceLT, Int.reduceLE, Int.reduceBEq, Int.reduceBNe, St0, argFr, ↓thenW, ↓blockW, ↓opX, ↓opV, ↓pX, ↓pW, ↓putK, ↓putP, ↓atK, ↓normK, ↓postZ, ↓reduceIte, reduceIte, Nat.reduceEqDiff, Nat.reduceAdd, Nat.reduceBEq, Nat.reduceLT, Nat.reduceLeDiff, binW, bodyQ, ressW, resW, ne_eq, forall_const, reduceCtorEq, implies_true, sets, oneAll, setD, rels, fillE, fillD, List.replicate, rowsOf, forall_eq, Nat.reduceMul, ↓zD, zT, hd, lnR_len, rl_len, hg, lnRow, e1, e1', h2, h3, e4]
        (repeat (first | refine And.intro (by omega) ?_ | refine And.intro (ui_nonneg _) ?_ | refine And.intro (Int.natCast_nonneg _) ?_ | refine And.intro rfl ?_ | refine And.intro (rows_one' _ _) ?_ | refine And.intro (us_one _) ?_ | refine And.intro (by intro _ h; cases h; done) ?_))
        refine ⟨k + 1, ⟨by omega, hi⟩, ?_, by omega⟩
        (refine Weak.view (fun k => k) (by simp) (by simp) ?_ (by simp [stays]) (by simp [apartNames]); simp [vwF, vw, vwL, Fr.get])
        exact wrap_i64 (by omega)
      · have e1 : (p.lf == -1) = false := by simpa using h1
        have e1' : (p.lf != -1) = true := bne_iff_ne.2 h1
        simp only [formedB, if_neg h1, Bool.and_eq_true, decide_eq_true_eq] at hx
        have h2 : ¬ p.lf < 0 := by omega
        have h3 : ¬ (k : Int) ≤ p.lf := by omega
        have h4 : ¬ p.rt < 0 := by omega
        have h5 : ¬ (k : Int) ≤ p.rt := by omega
        simp only [Int.reduceToNat, Int.reduceLT, Int.reduceLE, Int.reduceBEq, Int.reduceBNe, St0, argFr, ↓thenW, ↓blockW, ↓opX, ↓opV, ↓pX, ↓pW, ↓putK, ↓putP, ↓atK, ↓normK, ↓postZ, ↓reduceIte, reduceIte, Nat.reduceEqDiff, Nat.reduceAdd, Nat.reduceBEq, Nat.reduceLT, Nat.reduceLeDiff, binW, bodyQ, ressW, resW, ne_eq, forall_const, reduceCtorEq, implies_true, sets, oneAll, setD, rels, fillE, fillD, List.replicate, rowsOf, forall_eq, Nat.reduceMul, ↓zD, zT, hd, lnR_len, rl_len, hg, lnRow, e1, e1', h2, h3, h4, h5]
        (repeat (first | refine And.intro (by omega) ?_ | refine And.intro (ui_nonneg _) ?_ | refine And.intro (Int.natCast_nonneg _) ?_ | refine And.intro rfl ?_ | refine And.intro (rows_one' _ _) ?_ | refine And.intro (us_one _) ?_ | refine And.intro (by intro _ h; cases h; done) ?_))
        refine ⟨k + 1, ⟨by omega, hi⟩, ?_, by omega⟩
        (refine Weak.view (fun k => k) (by simp) (by simp) ?_ (by simp [stays]) (by simp [apartNames]); simp [vwF, vw, vwL, Fr.get])
        exact wrap_i64 (by omega)
  have hd : ¬ ((k : Int) < (ls.length : Int)) := by omega
  rw [List.drop_eq_nil_of_le (by omega), formedFrom] at hi
  have hform := formedFrom_get hi
  rw [if_neg (by rw [hi]; simp)]
  simp only [Int.reduceToNat, Int.reduceLT, Int.reduceLE, Int.reduceBEq, Int.reduceBNe, St0, argFr, ↓thenW, ↓blockW, ↓opX, ↓opV, ↓pX, ↓pW, ↓putK, ↓putP, ↓atK, ↓normK, ↓postZ, ↓reduceIte, reduceIte, Nat.reduceEqDiff, Nat.reduceAdd, Nat.reduceBEq, Nat.reduceLT, Nat.reduceLeDiff, binW, bodyQ, ressW, resW, ne_eq, forall_const, reduceCtorEq, implies_true, sets, oneAll, setD, rels, fillE, fillD, List.replicate, rowsOf, forall_eq, Nat.reduceMul, ↓zD, zT, hd, lnR_len]
  refine wpS_loop (fun k : Nat => [(76, .int .i64 k), (75, .int .i64 ls.length), (74, .sl 4 (lnR ls)), (2, .sl 4 (lnR ls)), (1, .sl 1 (rl l))]) (fun _ => ⟨0, []⟩) (fun k => k ≤ ls.length ∧ ls.all (rightB l ls) = (ls.drop k).all (rightB l ls)) (fun k => ls.length - k) 0 ⟨Nat.zero_le _, rfl⟩ ?_ ?_
  · (refine Weak.same ?_; simp [sameF, Fr.get, lnR_len])
  clear hk hi h hd
  intro k ⟨hk, hi⟩
  refine wpS_go mixed ?_
  by_cases h : k < ls.length
  · have hd : ((k : Int) < (ls.length : Int)) := by omega
    rw [drop_cons (d := ln0) h, List.all_cons] at hi
    have hfk := hform k h
    rw [Int.zero_add] at hfk
    have hg := lnR_get ls h
    generalize ls.getD k ln0 = p at hg hi hfk
    by_cases h1 : p.lf = -1
    · have e1 : (p.lf == -1) = true := by simpa using h1
      obtain ⟨i1, i2⟩ := formed_in hfk h1
      obtain ⟨j, hj⟩ := Int.eq_ofNat_of_zero_le i1
      have hgj := rl_get l (show j < l.length by omega)
      have er : rightB l ls p = decide (p.cl = l.getD j []) := by rw [rightB, if_pos h1, hj, Int.toNat_natCast]
      rw [er] at hi
      simp only [Int.reduceToNat, Int.reduceLT, Int.reduceLE, Int.reduceBEq, Int.reduceBNe, St0, argFr, ↓thenW, ↓blockW, ↓opX, ↓opV, ↓pX, ↓pW, ↓putK, ↓putP, ↓atK, ↓normK, ↓postZ, ↓reduceIte, reduceIte, Nat.reduceEqDiff, Nat.reduceAdd, Nat.reduceBEq, Nat.reduceLT, Nat.reduceLeDiff, binW, bodyQ, ressW, resW, ne_eq, forall_const, reduceCtorEq, implies_true, sets, oneAll, setD, rels, fillE, fillD, List.replicate, rowsOf, forall_eq, Nat.reduceMul, ↓zD, zT, hd, lnR_len, rl_len, hg, lnRow, e1, hj, hgj]
      (repeat (first | refine And.intro (by omega) ?_ | refine And.intro (ui_nonneg _) ?_ | refine And.intro (Int.natCast_nonneg _) ?_ | refine And.intro rfl ?_ | refine And.intro (rows_one' _ _) ?_ | refine And.intro (us_one _) ?_ | refine And.intro (by intro _ h; cases h; done) ?_))
      refine .go (CallT.of_runs (equal50 p.cl (l.getD j [])) (by simp [D.isPureL, D.isPure])) ?_
      by_cases h5 : p.cl = l.getD j []
      · rw [decide_eq_true h5, Bool.true_and] at hi
        simp only [Int.reduceToNat, Int.reduceLT, Int.reduceLE, Int.reduceBEq, Int.reduceBNe, St0, argFr, ↓thenW, ↓blockW, ↓opX, ↓opV, ↓pX, ↓pW, ↓putK, ↓putP, ↓atK, ↓normK, ↓postZ, ↓reduceIte, reduceIte, Nat.reduceEqDiff, Nat.reduceAdd, Nat.reduceBEq, Nat.reduceLT, Nat.reduceLeDiff, binW, bodyQ, ressW, resW, ne_eq, forall_const, reduceCtorEq, implies_true, sets, oneAll, setD, rels, fillE, fillD, List.replicate, rowsOf, forall_eq, Nat.reduceMul, ↓zD, zT, decide_eq_true h5]
        refine ⟨k + 1, ⟨by omega, hi⟩, ?_, by omega⟩
        (refine Weak.view (fun k => k) (by simp) (by simp) ?_ (by simp [stays]) (by simp [apartNames]); simp [vwF, vw, vwL, Fr.get])
        exact wrap_i64 (by omega)
      · rw [decide_eq_false h5, Bool.false_and] at hi
        simp only [Int.reduceToNat, Int.reduceLT, Int.reduceLE, Int.reduceBEq, Int.reduceBNe, St0, argFr, ↓thenW, ↓blockW, ↓opX, ↓opV, ↓pX, ↓pW, ↓putK, ↓putP, ↓atK, ↓normK, ↓postZ, ↓reduceIte, reduceIte, Nat.reduceEqDiff, Nat.reduceAdd, Nat.reduceBEq, Nat.reduceLT, Nat.reduceLeDiff, binW, bodyQ, ressW, resW, ne_eq, forall_const, reduceCtorEq, implies_true, sets, oneAll, setD, rels, fillE, fillD, List.replicate, rowsOf, forall_eq, Nat.reduceMul, ↓zD, zT, decide_eq_false h5]
        rw [if_pos hi]
        exact .drop (by simp) (by simp [vw])
    · have e1 : (p.lf == -1) = false := by simpa using h1
      obtain ⟨⟨i1, i2⟩, i3, i4⟩ := formed_re hfk h1
      obtain ⟨x, hx⟩ := Int.eq_ofNat_of_zero_le i1
      obtain ⟨y, hy⟩ := Int.eq_ofNat_of_zero_le i3
      have hgx := lnR_get ls (show x < ls.length by omega)
      have hgy := lnR_get ls (show y < ls.length by omega)
      have er : rightB l ls p = (decide ((resolveA (ls.getD x ln0).cl (ls.getD y ln0).cl p.on).2 = 0) && decide (p.cl = (resolveA (ls.getD x ln0).cl (ls.getD y ln0).cl p.on).1)) := by rw [rightB, if_neg h1, hx, hy, Int.toNat_natCast, Int.toNat_natCast]
      rw [er] at hi
      simp only [Int.reduceToNat, Int.reduceLT, Int.reduceLE, Int.reduceBEq, Int.reduceBNe, St0, argFr, ↓thenW, ↓blockW, ↓opX, ↓opV, ↓pX, ↓pW, ↓putK, ↓putP, ↓atK, ↓normK, ↓postZ, ↓reduceIte, reduceIte, Nat.reduceEqDiff, Nat.reduceAdd, Nat.reduceBEq, Nat.reduceLT, Nat.reduceLeDiff, binW, bodyQ, ressW, resW, ne_eq, forall_const, reduceCtorEq, implies_true, sets, oneAll, setD, rels, fillE, fillD, List.replicate, rowsOf, forall_eq, Nat.reduceMul, ↓zD, zT, hd, lnR_len, rl_len, hg, lnRow, e1, hx, hy, hgx, hgy]
      (repeat (first | refine And.intro (by omega) ?_ | refine And.intro (ui_nonneg _) ?_ | refine And.intro (Int.natCast_nonneg _) ?_ | refine And.intro rfl ?_ | refine And.intro (rows_one' _ _) ?_ | refine And.intro (us_one _) ?_ | refine And.intro (by intro _ h; cases h; done) ?_))
      refine .go (CallT.of_runs (Resolve21 (ls.getD x ln0).cl (ls.getD y ln0).cl p.on) (by simp [D.isPureL, D.isPure])) ?_
      generalize resolveA (ls.getD x ln0).cl (ls.getD y ln0).cl p.on = q at hi
      by_cases h5 : q.2 = 0
      · have e5 : (q.2 != 0) = false := by simpa using h5
        rw [decide_eq_true h5, Bool.true_and] at hi
        simp only [Int.reduceToNat, Int.reduceLT, Int.reduceLE, Int.reduceBEq, Int.reduceBNe, St0, argFr, ↓thenW, ↓blockW, ↓opX, ↓opV, ↓pX, ↓pW, ↓putK, ↓putP, ↓atK, ↓normK, ↓postZ, ↓reduceIte, reduceIte, Nat.reduceEqDiff, Nat.reduceAdd, Nat.reduceBEq, Nat.reduceLT, Nat.reduceLeDiff, binW, bodyQ, ressW, resW, ne_eq, forall_const, reduceCtorEq, implies_true, sets, oneAll, setD, rels, fillE, fillD, List.replicate, rowsOf, forall_eq, Nat.reduceMul, ↓zD, zT, e5]
        (repeat (first | refine And.intro (by omega) ?_ | refine And.intro (ui_nonneg _) ?_ | refine And.intro (Int.natCast_nonneg _) ?_ | refine And.intro rfl ?_ | refine And.intro (rows_one' _ _) ?_ | refine And.intro (us_one _) ?_ | refine And.intro (by intro _ h; cases h; done) ?_))
        refine .go (CallT.of_runs (equal50 q.1 p.cl) (by simp [D.isPureL, D.isPure])) ?_
        by_cases h6 : p.cl = q.1
        · rw [decide_eq_true h6, Bool.true_and] at hi
          simp only [Int.reduceToNat, Int.reduceLT, Int.reduceLE, Int.reduceBEq, Int.reduceBNe, St0, argFr, ↓thenW, ↓blockW, ↓opX, ↓opV, ↓pX, ↓pW, ↓putK, ↓putP, ↓atK, ↓normK, ↓postZ, ↓reduceIte, reduceIte, Nat.reduceEqDiff, Nat.reduceAdd, Nat.reduceBEq, Nat.reduceLT, Nat.reduceLeDiff, binW, bodyQ, ressW, resW, ne_eq, forall_const, reduceCtorEq, implies_true, sets, oneAll, setD, rels, fillE, fillD, List.replicate, rowsOf, forall_eq, Nat.reduceMul, ↓zD, zT, decide_eq_true h6.symm]
          refine ⟨k + 1, ⟨by omega, hi⟩, ?_, by omega⟩
          (refine Weak.view (fun k => k) (by simp) (by simp) ?_ (by simp [stays]) (by simp [apartNames]); simp [vwF, vw, vwL, Fr.get])
          exact wrap_i64 (by omega)
        · rw [decide_eq_false h6, Bool.false_and] at hi
          simp only [Int.reduceToNat, Int.reduceLT, Int.reduceLE, Int.reduceBEq, Int.reduceBNe, St0, argFr, ↓thenW, ↓blockW, ↓opX, ↓opV, ↓pX, ↓pW, ↓putK, ↓putP, ↓atK, ↓normK, ↓postZ, ↓reduceIte, reduceIte, Nat.reduceEqDiff, Nat.reduceAdd, Nat.reduceBEq, Nat.reduceLT, Nat.reduceLeDiff, binW, bodyQ, ressW, resW, ne_eq, forall_const, reduceCtorEq, implies_true, sets, oneAll, setD, rels, fillE, fillD, List.replicate, rowsOf, forall_eq, Nat.reduceMul, ↓zD, zT, decide_eq_false (show ¬ q.1 = p.cl from fun e => h6 e.symm)]
          rw [if_pos hi]
          exact .drop (by simp) (by simp [vw])
      · have e5 : (q.2 != 0) = true := bne_iff_ne.2 h5
        rw [decide_eq_false h5, Bool.false_and, Bool.false_and] at hi
        simp only [Int.reduceToNat, Int.reduceLT, Int.reduceLE, Int.reduceBEq, Int.reduceBNe, St0, argFr, ↓thenW, ↓blockW, ↓opX, ↓opV, ↓pX, ↓pW, ↓putK, ↓putP, ↓atK, ↓normK, ↓postZ, ↓reduceIte, reduceIte, Nat.reduceEqDiff, Nat.reduceAdd, Nat.reduceBEq, Nat.reduceLT, Nat.reduceLeDiff, binW, bodyQ, ressW, resW, ne_eq, forall_const, reduceCtorEq, implies_true, sets, oneAll, setD, rels, fillE, fillD, List.replicate, rowsOf, forall_eq, Nat.reduceMul, ↓zD, zT, e5]
        (repeat (first | refine And.intro (by omega) ?_ | refine And.intro (ui_nonneg _) ?_ | refine And.intro (Int.natCast_nonneg _) ?_ | refine And.intro rfl ?_ | refine And.intro (rows_one' _ _) ?_ | refine And.intro (us_one _) ?_ | refine And.intro (by intro _ h; cases h; done) ?_))
        rw [if_pos hi]
        exact .drop (by simp) (by simp [vw])
  have hd : ¬ ((k : Int) < (ls.length : Int)) := by omega
  rw [List.drop_eq_nil_of_le (by omega), List.all_nil] at hi
  rw [if_neg (by rw [hi]; simp)]
  by_cases hz : ls.length = 0
  · have hz0 : ((ls.length : Int) == 0) = true := by simpa using hz
    simp only [Int.reduceToNat, Int.reduceLT, Int.reduceLE, Int.reduceBEq, Int.reduceBNe, St0, argFr, ↓thenW, ↓blockW, ↓opX, ↓opV, ↓pX, ↓pW, ↓putK, ↓putP, ↓atK, ↓normK, ↓postZ, ↓reduceIte, reduceIte, Nat.reduceEqDiff, Nat.reduceAdd, Nat.reduceBEq, Nat.reduceLT, Nat.reduceLeDiff, binW, bodyQ, ressW, resW, ne_eq, forall_const, reduceCtorEq, implies_true, sets, oneAll, setD, rels, fillE, fillD, List.replicate, rowsOf, forall_eq, Nat.reduceMul, ↓zD, zT, hd, lnR_len, hz0]
    rw [if_pos (.inl (List.length_eq_zero_iff.1 hz))]
    exact .same
  · have hz0 : ((ls.length : Int) == 0) = false := by simpa using hz
    have el : IntKind.i64.wrap ((ls.length : Int) - 1) = ((ls.length - 1 : Nat) : Int) := by rw [wrap_i64 (by omega)]; omega
    have hgl := lnR_get ls (show ls.length - 1 < ls.length by omega)
    have hne : ls ≠ [] := fun h => hz (by rw [h]; rfl)
    by_cases hcl : (ls.getD (ls.length - 1) ln0).cl = []
    · have e7 : (((ls.getD (ls.length - 1) ln0).cl.length : Int) != 0) = false := by rw [hcl]; rfl
      simp only [Int.reduceToNat, Int.reduceLT, Int.reduceLE, Int.reduceBEq, Int.reduceBNe, St0, argFr, ↓thenW, ↓blockW, ↓opX, ↓opV, ↓pX, ↓pW, ↓putK, ↓putP, ↓atK, ↓normK, ↓postZ, ↓reduceIte, reduceIte, Nat.reduceEqDiff, Nat.reduceAdd, Nat.reduceBEq, Nat.reduceLT, Nat.reduceLeDiff, binW, bodyQ, ressW, resW, ne_eq, forall_const, reduceCtorEq, implies_true, sets, oneAll, setD, rels, fillE, fillD, List.replicate, rowsOf, forall_eq, Nat.reduceMul, ↓zD, zT, hd, lnR_len, hz0, el, hgl, lnRow, e7]
      (repeat (first | refine And.intro (by omega) ?_ | refine And.intro (ui_nonneg _) ?_ | refine And.intro (Int.natCast_nonneg _) ?_ | refine And.intro rfl ?_ | refine And.intro (rows_one' _ _) ?_ | refine And.intro (us_one _) ?_ | refine And.intro (by intro _ h; cases h; done) ?_))
      rw [if_neg (by rintro (h | h); exact hne h; exact h hcl)]
      exact .same
    · have e7 : (((ls.getD (ls.length - 1) ln0).cl.length : Int) != 0) = true := by
        have := List.length_pos_iff.2 hcl
        exact bne_iff_ne.2 (by omega)
      simp only [Int.reduceToNat, Int.reduceLT, Int.reduceLE, Int.reduceBEq, Int.reduceBNe, St0, argFr, ↓thenW, ↓blockW, ↓opX, ↓opV, ↓pX, ↓pW, ↓putK, ↓putP, ↓atK, ↓normK, ↓postZ, ↓reduceIte, reduceIte, Nat.reduceEqDiff, Nat.reduceAdd, Nat.reduceBEq, Nat.reduceLT, Nat.reduceLeDiff, binW, bodyQ, ressW, resW, ne_eq, forall_const, reduceCtorEq, implies_true, sets, oneAll, setD, rels, fillE, fillD, List.replicate, rowsOf, forall_eq, Nat.reduceMul, ↓zD, zT, hd, lnR_len, hz0, el, hgl, lnRow, e7]
      (repeat (first | refine And.intro (by omega) ?_ | refine And.intro (ui_nonneg _) ?_ | refine And.intro (Int.natCast_nonneg _) ?_ | refine And.intro rfl ?_ | refine And.intro (rows_one' _ _) ?_ | refine And.intro (us_one _) ?_ | refine And.intro (by intro _ h; cases h; done) ?_))
      rw [if_pos (.inr hcl)]
      exact .same
end Go.Pd
