/- Merging: contracts: the best of a set, distances. -/
import Derived.Test.YtjaohaomninnlaaM2
set_option linter.unusedSectionVars false
set_option linter.unusedVariables false
set_option linter.unusedSimpArgs false
set_option linter.defProp false
set_option maxRecDepth 20000
namespace Go.Pd
open Go Go.Proofs
open Mg
theorem shl_ne {k : Nat} (hk : k < 64) : (1#64 <<< k) ≠ 0#64 := ne_zero_bit (i := k) ((one_bit hk).2 rfl)
theorem or_ne {s : BitVec 64} {k : Nat} (hk : k < 64) : (s ||| 1#64 <<< k) ≠ 0#64 := ne_zero_bit (i := k) (by rw [BitVec.getLsbD_or, (one_bit hk).2 rfl, Bool.or_true])
/-- One step of the search. -/
def bestStep (a : BitVec 64 × Int) (b : Bool) (k : Nat) (r : Int) : BitVec 64 × Int :=
  if b = false ∨ (a.1 ≠ 0#64 ∧ a.2 < r) then a else if a.1 = 0#64 ∨ r < a.2 then (1#64 <<< k, r) else (a.1 ||| 1#64 <<< k, a.2)
theorem bestTo_succ (r : List Int) (s : BitVec 64) (k : Nat) : bestTo r s (k + 1) = bestStep (bestTo r s k) (s.getLsbD k) k (r.getD k 0) := rfl
theorem best_runs (r : List Int) (s : BitVec 64) (hr : r.length ≤ 64) : Runs Try.prog 31 [.sl 1 (rows .i64 r), .int .u64 (ui s)] (.int .u64 (ui (bestS r s))) := by
  refine CallT.go_fn mixed Try.func31 k31 (by simp) fun hf => ?_
  simp only [Int.reduceToNat, Int.reduceLT, Int.reduceLE, Int.reduceBEq, Int.reduceBNe, St0, argFr, ↓callZ, ↓midZ, ↓unZ, ↓thenW, ↓blockW, ↓opX, ↓opV, ↓pX, ↓pW, ↓putK, ↓putP, ↓atK, ↓normK, ↓postZ, ↓reduceIte, reduceIte, Nat.reduceEqDiff, Nat.reduceAdd, Nat.reduceBEq, Nat.reduceLT, Nat.reduceLeDiff, binW, bodyQ, ressW, resW, ne_eq, forall_const, reduceCtorEq, implies_true, sets, oneAll, setD, rels, fillE, fillD, List.replicate, rowsOf, forall_eq, Nat.reduceMul, ↓zD, zT]
  refine wpS_loop (fun k : Nat => [(11, .int .i64 k), (10, .int .i64 r.length), (9, .sl 1 (rows .i64 r)), (6, .int .i64 (bestTo r s k).2), (5, .int .u64 (ui (bestTo r s k).1)), (1, .int .u64 (ui s))]) (fun _ => ⟨0, []⟩) (fun k => k ≤ r.length) (fun k => r.length - k) 0 (Nat.zero_le _) ?_ ?_
  · (refine Weak.same ?_; simp [sameF, Fr.get, bestTo])
  intro k hk
  refine wpS_go mixed ?_
  by_cases h : k < r.length
  · have hd : ((k : Int) < (r.length : Int)) := by omega
    have hs := bestTo_succ r s k
    generalize bestTo r s k = a at hs ⊢
    obtain ⟨out, least⟩ := a
    cases hb : s.getLsbD k
    · rw [hb] at hs
      have e : bestTo r s (k + 1) = (out, least) := by rw [hs]; simp [bestStep]
      simp only [Int.reduceToNat, Int.reduceLT, Int.reduceLE, Int.reduceBEq, Int.reduceBNe, St0, argFr, ↓callZ, ↓midZ, ↓unZ, ↓thenW, ↓blockW, ↓opX, ↓opV, ↓pX, ↓pW, ↓putK, ↓putP, ↓atK, ↓normK, ↓postZ, ↓reduceIte, reduceIte, Nat.reduceEqDiff, Nat.reduceAdd, Nat.reduceBEq, Nat.reduceLT, Nat.reduceLeDiff, binW, bodyQ, ressW, resW, ne_eq, forall_const, reduceCtorEq, implies_true, sets, oneAll, setD, rels, fillE, fillD, List.replicate, rowsOf, forall_eq, Nat.reduceMul, ↓zD, zT, hd, rows_get _ _ h, bit_and1, hb, show ((0#64 : BitVec 64) == 0#64) = true from rfl]
      (repeat refine And.intro (by first | omega | exact ui_nonneg _ | exact Int.natCast_nonneg _ | rfl | exact rows_one' _ _ | exact us_one _ | (intro _ h; cases h; done)) ?_)
      refine ⟨k + 1, by omega, ?_, by omega⟩
      rw [e]
      (refine Weak.same ?_; simp only [sameF, Fr.get, ↓reduceIte, reduceIte, Nat.reduceEqDiff, reduceCtorEq, D.int.injEq, D.bool.injEq, D.sl.injEq, and_true, true_and, and_self])
      exact wrap_i64 (by omega)
    · rw [hb] at hs
      by_cases hz : out = 0#64
      · subst hz
        have e : bestTo r s (k + 1) = (1#64 <<< k, r.getD k 0) := by rw [hs]; simp [bestStep]
        simp only [Int.reduceToNat, Int.reduceLT, Int.reduceLE, Int.reduceBEq, Int.reduceBNe, St0, argFr, ↓callZ, ↓midZ, ↓unZ, ↓thenW, ↓blockW, ↓opX, ↓opV, ↓pX, ↓pW, ↓putK, ↓putP, ↓atK, ↓normK, ↓postZ, ↓reduceIte, reduceIte, Nat.reduceEqDiff, Nat.reduceAdd, Nat.reduceBEq, Nat.reduceLT, Nat.reduceLeDiff, binW, bodyQ, ressW, resW, ne_eq, forall_const, reduceCtorEq, implies_true, sets, oneAll, setD, rels, fillE, fillD, List.replicate, rowsOf, forall_eq, Nat.reduceMul, ↓zD, zT, hd, rows_get _ _ h, bit_and1, hb, show ((1#64 : BitVec 64) == 0#64) = false from rfl, show ((0#64 : BitVec 64) == 0#64) = true from rfl, show ((0#64 : BitVec 64) != 0#64) = false from rfl]
        (repeat refine And.intro (by first | omega | exact ui_nonneg _ | exact Int.natCast_nonneg _ | rfl | exact rows_one' _ _ | exact us_one _ | (intro _ h; cases h; done)) ?_)
        refine ⟨k + 1, by omega, ?_, by omega⟩
        rw [e]
        (refine Weak.same ?_; simp only [sameF, Fr.get, ↓reduceIte, reduceIte, Nat.reduceEqDiff, reduceCtorEq, D.int.injEq, D.bool.injEq, D.sl.injEq, and_true, true_and, and_self])
        exact wrap_i64 (by omega)
      · have hz1 : (out == 0#64) = false := by simpa using hz
        have hz2 : (out != 0#64) = true := by simpa using hz
        by_cases hw : least < r.getD k 0
        · have e : bestTo r s (k + 1) = (out, least) := by rw [hs]; simp only [bestStep, if_pos (show (true = false ∨ (out ≠ 0#64 ∧ least < r.getD k 0)) from .inr ⟨hz, hw⟩)]
          simp only [Int.reduceToNat, Int.reduceLT, Int.reduceLE, Int.reduceBEq, Int.reduceBNe, St0, argFr, ↓callZ, ↓midZ, ↓unZ, ↓thenW, ↓blockW, ↓opX, ↓opV, ↓pX, ↓pW, ↓putK, ↓putP, ↓atK, ↓normK, ↓postZ, ↓reduceIte, reduceIte, Nat.reduceEqDiff, Nat.reduceAdd, Nat.reduceBEq, Nat.reduceLT, Nat.reduceLeDiff, binW, bodyQ, ressW, resW, ne_eq, forall_const, reduceCtorEq, implies_true, sets, oneAll, setD, rels, fillE, fillD, List.replicate, rowsOf, forall_eq, Nat.reduceMul, ↓zD, zT, hd, rows_get _ _ h, bit_and1, hb, show ((1#64 : BitVec 64) == 0#64) = false from rfl, hz1, hz2, hw]
          (repeat refine And.intro (by first | omega | exact ui_nonneg _ | exact Int.natCast_nonneg _ | rfl | exact rows_one' _ _ | exact us_one _ | (intro _ h; cases h; done)) ?_)
          refine ⟨k + 1, by omega, ?_, by omega⟩
          rw [e]
          (refine Weak.same ?_; simp only [sameF, Fr.get, ↓reduceIte, reduceIte, Nat.reduceEqDiff, reduceCtorEq, D.int.injEq, D.bool.injEq, D.sl.injEq, and_true, true_and, and_self])
          exact wrap_i64 (by omega)
        · have hw' : ¬ (true = false ∨ (out ≠ 0#64 ∧ least < r.getD k 0)) := by rintro (c | ⟨_, c⟩); cases c; exact hw c
          by_cases hl : r.getD k 0 < least
          · have e : bestTo r s (k + 1) = (1#64 <<< k, r.getD k 0) := by rw [hs]; simp only [bestStep, if_neg hw', if_pos (show (out = 0#64 ∨ r.getD k 0 < least) from .inr hl)]
            simp only [Int.reduceToNat, Int.reduceLT, Int.reduceLE, Int.reduceBEq, Int.reduceBNe, St0, argFr, ↓callZ, ↓midZ, ↓unZ, ↓thenW, ↓blockW, ↓opX, ↓opV, ↓pX, ↓pW, ↓putK, ↓putP, ↓atK, ↓normK, ↓postZ, ↓reduceIte, reduceIte, Nat.reduceEqDiff, Nat.reduceAdd, Nat.reduceBEq, Nat.reduceLT, Nat.reduceLeDiff, binW, bodyQ, ressW, resW, ne_eq, forall_const, reduceCtorEq, implies_true, sets, oneAll, setD, rels, fillE, fillD, List.replicate, rowsOf, forall_eq, Nat.reduceMul, ↓zD, zT, hd, rows_get _ _ h, bit_and1, hb, show ((1#64 : BitVec 64) == 0#64) = false from rfl, hz1, hz2, hw, hl]
            (repeat refine And.intro (by first | omega | exact ui_nonneg _ | exact Int.natCast_nonneg _ | rfl | exact rows_one' _ _ | exact us_one _ | (intro _ h; cases h; done)) ?_)
            refine ⟨k + 1, by omega, ?_, by omega⟩
            rw [e]
            (refine Weak.same ?_; simp only [sameF, Fr.get, ↓reduceIte, reduceIte, Nat.reduceEqDiff, reduceCtorEq, D.int.injEq, D.bool.injEq, D.sl.injEq, and_true, true_and, and_self])
            exact wrap_i64 (by omega)
          · have hl' : ¬ (out = 0#64 ∨ r.getD k 0 < least) := by rintro (c | c); exact hz c; exact hl c
            have e : bestTo r s (k + 1) = (out ||| 1#64 <<< k, least) := by rw [hs]; simp only [bestStep, if_neg hw', if_neg hl']
            simp only [Int.reduceToNat, Int.reduceLT, Int.reduceLE, Int.reduceBEq, Int.reduceBNe, St0, argFr, ↓callZ, ↓midZ, ↓unZ, ↓thenW, ↓blockW, ↓opX, ↓opV, ↓pX, ↓pW, ↓putK, ↓putP, ↓atK, ↓normK, ↓postZ, ↓reduceIte, reduceIte, Nat.reduceEqDiff, Nat.reduceAdd, Nat.reduceBEq, Nat.reduceLT, Nat.reduceLeDiff, binW, bodyQ, ressW, resW, ne_eq, forall_const, reduceCtorEq, implies_true, sets, oneAll, setD, rels, fillE, fillD, List.replicate, rowsOf, forall_eq, Nat.reduceMul, ↓zD, zT, hd, rows_get _ _ h, bit_and1, hb, show ((1#64 : BitVec 64) == 0#64) = false from rfl, hz1, hz2, hw, hl]
            (repeat refine And.intro (by first | omega | exact ui_nonneg _ | exact Int.natCast_nonneg _ | rfl | exact rows_one' _ _ | exact us_one _ | (intro _ h; cases h; done)) ?_)
            refine ⟨k + 1, by omega, ?_, by omega⟩
            rw [e]
            (refine Weak.same ?_; simp only [sameF, Fr.get, ↓reduceIte, reduceIte, Nat.reduceEqDiff, reduceCtorEq, D.int.injEq, D.bool.injEq, D.sl.injEq, and_true, true_and, and_self])
            exact wrap_i64 (by omega)
  · have hd : ¬ ((k : Int) < (r.length : Int)) := by omega
    have hk' : k = r.length := by omega
    have e : (bestTo r s k).1 = bestS r s := by rw [hk']; rfl
    rw [e]
    generalize (bestTo r s k).2 = z
    generalize bestS r s = y
    simp only [Int.reduceToNat, Int.reduceLT, Int.reduceLE, Int.reduceBEq, Int.reduceBNe, St0, argFr, ↓callZ, ↓midZ, ↓unZ, ↓thenW, ↓blockW, ↓opX, ↓opV, ↓pX, ↓pW, ↓putK, ↓putP, ↓atK, ↓normK, ↓postZ, ↓reduceIte, reduceIte, Nat.reduceEqDiff, Nat.reduceAdd, Nat.reduceBEq, Nat.reduceLT, Nat.reduceLeDiff, binW, bodyQ, ressW, resW, ne_eq, forall_const, reduceCtorEq, implies_true, sets, oneAll, setD, rels, fillE, fillD, List.replicate, rowsOf, forall_eq, Nat.reduceMul, ↓zD, zT, hd]
    exact .same
/-- revision.least is the same. -/
theorem least_runs (r : List Int) (s : BitVec 64) (hr : r.length ≤ 64) : Runs Try.prog 60 [.sl 1 (rows .i64 r), .int .u64 (ui s)] (.int .u64 (ui (bestS r s))) := by
  refine CallT.go_fn mixed Try.func60 k60 (by simp) fun hf => ?_
  simp only [Int.reduceToNat, Int.reduceLT, Int.reduceLE, Int.reduceBEq, Int.reduceBNe, St0, argFr, ↓callZ, ↓midZ, ↓unZ, ↓thenW, ↓blockW, ↓opX, ↓opV, ↓pX, ↓pW, ↓putK, ↓putP, ↓atK, ↓normK, ↓postZ, ↓reduceIte, reduceIte, Nat.reduceEqDiff, Nat.reduceAdd, Nat.reduceBEq, Nat.reduceLT, Nat.reduceLeDiff, binW, bodyQ, ressW, resW, ne_eq, forall_const, reduceCtorEq, implies_true, sets, oneAll, setD, rels, fillE, fillD, List.replicate, rowsOf, forall_eq, Nat.reduceMul, ↓zD, zT]
  refine wpS_loop (fun k : Nat => [(11, .int .i64 k), (10, .int .i64 r.length), (9, .sl 1 (rows .i64 r)), (6, .int .i64 (bestTo r s k).2), (5, .int .u64 (ui (bestTo r s k).1)), (1, .int .u64 (ui s))]) (fun _ => ⟨0, []⟩) (fun k => k ≤ r.length) (fun k => r.length - k) 0 (Nat.zero_le _) ?_ ?_
  · (refine Weak.same ?_; simp [sameF, Fr.get, bestTo])
  intro k hk
  refine wpS_go mixed ?_
  by_cases h : k < r.length
  · have hd : ((k : Int) < (r.length : Int)) := by omega
    have hs := bestTo_succ r s k
    generalize bestTo r s k = a at hs ⊢
    obtain ⟨out, least⟩ := a
    cases hb : s.getLsbD k
    · rw [hb] at hs
      have e : bestTo r s (k + 1) = (out, least) := by rw [hs]; simp [bestStep]
      simp only [Int.reduceToNat, Int.reduceLT, Int.reduceLE, Int.reduceBEq, Int.reduceBNe, St0, argFr, ↓callZ, ↓midZ, ↓unZ, ↓thenW, ↓blockW, ↓opX, ↓opV, ↓pX, ↓pW, ↓putK, ↓putP, ↓atK, ↓normK, ↓postZ, ↓reduceIte, reduceIte, Nat.reduceEqDiff, Nat.reduceAdd, Nat.reduceBEq, Nat.reduceLT, Nat.reduceLeDiff, binW, bodyQ, ressW, resW, ne_eq, forall_const, reduceCtorEq, implies_true, sets, oneAll, setD, rels, fillE, fillD, List.replicate, rowsOf, forall_eq, Nat.reduceMul, ↓zD, zT, hd, rows_get _ _ h, bit_and1, hb, show ((0#64 : BitVec 64) == 0#64) = true from rfl]
      (repeat refine And.intro (by first | omega | exact ui_nonneg _ | exact Int.natCast_nonneg _ | rfl | exact rows_one' _ _ | exact us_one _ | (intro _ h; cases h; done)) ?_)
      refine ⟨k + 1, by omega, ?_, by omega⟩
      rw [e]
      (refine Weak.same ?_; simp only [sameF, Fr.get, ↓reduceIte, reduceIte, Nat.reduceEqDiff, reduceCtorEq, D.int.injEq, D.bool.injEq, D.sl.injEq, and_true, true_and, and_self])
      exact wrap_i64 (by omega)
    · rw [hb] at hs
      by_cases hz : out = 0#64
      · subst hz
        have e : bestTo r s (k + 1) = (1#64 <<< k, r.getD k 0) := by rw [hs]; simp [bestStep]
        simp only [Int.reduceToNat, Int.reduceLT, Int.reduceLE, Int.reduceBEq, Int.reduceBNe, St0, argFr, ↓callZ, ↓midZ, ↓unZ, ↓thenW, ↓blockW, ↓opX, ↓opV, ↓pX, ↓pW, ↓putK, ↓putP, ↓atK, ↓normK, ↓postZ, ↓reduceIte, reduceIte, Nat.reduceEqDiff, Nat.reduceAdd, Nat.reduceBEq, Nat.reduceLT, Nat.reduceLeDiff, binW, bodyQ, ressW, resW, ne_eq, forall_const, reduceCtorEq, implies_true, sets, oneAll, setD, rels, fillE, fillD, List.replicate, rowsOf, forall_eq, Nat.reduceMul, ↓zD, zT, hd, rows_get _ _ h, bit_and1, hb, show ((1#64 : BitVec 64) == 0#64) = false from rfl, show ((0#64 : BitVec 64) == 0#64) = true from rfl, show ((0#64 : BitVec 64) != 0#64) = false from rfl]
        (repeat refine And.intro (by first | omega | exact ui_nonneg _ | exact Int.natCast_nonneg _ | rfl | exact rows_one' _ _ | exact us_one _ | (intro _ h; cases h; done)) ?_)
        refine ⟨k + 1, by omega, ?_, by omega⟩
        rw [e]
        (refine Weak.same ?_; simp only [sameF, Fr.get, ↓reduceIte, reduceIte, Nat.reduceEqDiff, reduceCtorEq, D.int.injEq, D.bool.injEq, D.sl.injEq, and_true, true_and, and_self])
        exact wrap_i64 (by omega)
      · have hz1 : (out == 0#64) = false := by simpa using hz
        by_cases hw : least < r.getD k 0
        · have e : bestTo r s (k + 1) = (out, least) := by rw [hs]; simp only [bestStep, if_pos (show (true = false ∨ (out ≠ 0#64 ∧ least < r.getD k 0)) from .inr ⟨hz, hw⟩)]
          have hl : ¬ r.getD k 0 < least := by omega
          have he : (r.getD k 0 == least) = false := beq_eq_false_iff_ne.2 (by omega)
          simp only [Int.reduceToNat, Int.reduceLT, Int.reduceLE, Int.reduceBEq, Int.reduceBNe, St0, argFr, ↓callZ, ↓midZ, ↓unZ, ↓thenW, ↓blockW, ↓opX, ↓opV, ↓pX, ↓pW, ↓putK, ↓putP, ↓atK, ↓normK, ↓postZ, ↓reduceIte, reduceIte, Nat.reduceEqDiff, Nat.reduceAdd, Nat.reduceBEq, Nat.reduceLT, Nat.reduceLeDiff, binW, bodyQ, ressW, resW, ne_eq, forall_const, reduceCtorEq, implies_true, sets, oneAll, setD, rels, fillE, fillD, List.replicate, rowsOf, forall_eq, Nat.reduceMul, ↓zD, zT, hd, rows_get _ _ h, bit_and1, hb, show ((1#64 : BitVec 64) == 0#64) = false from rfl, hz1, hl, he]
          (repeat refine And.intro (by first | omega | exact ui_nonneg _ | exact Int.natCast_nonneg _ | rfl | exact rows_one' _ _ | exact us_one _ | (intro _ h; cases h; done)) ?_)
          refine ⟨k + 1, by omega, ?_, by omega⟩
          rw [e]
          (refine Weak.same ?_; simp only [sameF, Fr.get, ↓reduceIte, reduceIte, Nat.reduceEqDiff, reduceCtorEq, D.int.injEq, D.bool.injEq, D.sl.injEq, and_true, true_and, and_self])
          exact wrap_i64 (by omega)
        · have hw' : ¬ (true = false ∨ (out ≠ 0#64 ∧ least < r.getD k 0)) := by rintro (c | ⟨_, c⟩); cases c; exact hw c
          by_cases hl : r.getD k 0 < least
          · have e : bestTo r s (k + 1) = (1#64 <<< k, r.getD k 0) := by rw [hs]; simp only [bestStep, if_neg hw', if_pos (show (out = 0#64 ∨ r.getD k 0 < least) from .inr hl)]
            simp only [Int.reduceToNat, Int.reduceLT, Int.reduceLE, Int.reduceBEq, Int.reduceBNe, St0, argFr, ↓callZ, ↓midZ, ↓unZ, ↓thenW, ↓blockW, ↓opX, ↓opV, ↓pX, ↓pW, ↓putK, ↓putP, ↓atK, ↓normK, ↓postZ, ↓reduceIte, reduceIte, Nat.reduceEqDiff, Nat.reduceAdd, Nat.reduceBEq, Nat.reduceLT, Nat.reduceLeDiff, binW, bodyQ, ressW, resW, ne_eq, forall_const, reduceCtorEq, implies_true, sets, oneAll, setD, rels, fillE, fillD, List.replicate, rowsOf, forall_eq, Nat.reduceMul, ↓zD, zT, hd, rows_get _ _ h, bit_and1, hb, show ((1#64 : BitVec 64) == 0#64) = false from rfl, hz1, hl]
            (repeat refine And.intro (by first | omega | exact ui_nonneg _ | exact Int.natCast_nonneg _ | rfl | exact rows_one' _ _ | exact us_one _ | (intro _ h; cases h; done)) ?_)
            refine ⟨k + 1, by omega, ?_, by omega⟩
            rw [e]
            (refine Weak.same ?_; simp only [sameF, Fr.get, ↓reduceIte, reduceIte, Nat.reduceEqDiff, reduceCtorEq, D.int.injEq, D.bool.injEq, D.sl.injEq, and_true, true_and, and_self])
            exact wrap_i64 (by omega)
          · have hl' : ¬ (out = 0#64 ∨ r.getD k 0 < least) := by rintro (c | c); exact hz c; exact hl c
            have e : bestTo r s (k + 1) = (out ||| 1#64 <<< k, least) := by rw [hs]; simp only [bestStep, if_neg hw', if_neg hl']
            have he : (r.getD k 0 == least) = true := beq_iff_eq.2 (by omega)
            simp only [Int.reduceToNat, Int.reduceLT, Int.reduceLE, Int.reduceBEq, Int.reduceBNe, St0, argFr, ↓callZ, ↓midZ, ↓unZ, ↓thenW, ↓blockW, ↓opX, ↓opV, ↓pX, ↓pW, ↓putK, ↓putP, ↓atK, ↓normK, ↓postZ, ↓reduceIte, reduceIte, Nat.reduceEqDiff, Nat.reduceAdd, Nat.reduceBEq, Nat.reduceLT, Nat.reduceLeDiff, binW, bodyQ, ressW, resW, ne_eq, forall_const, reduceCtorEq, implies_true, sets, oneAll, setD, rels, fillE, fillD, List.replicate, rowsOf, forall_eq, Nat.reduceMul, ↓zD, zT, hd, rows_get _ _ h, bit_and1, hb, show ((1#64 : BitVec 64) == 0#64) = false from rfl, hz1, hl, he]
            (repeat refine And.intro (by first | omega | exact ui_nonneg _ | exact Int.natCast_nonneg _ | rfl | exact rows_one' _ _ | exact us_one _ | (intro _ h; cases h; done)) ?_)
            refine ⟨k + 1, by omega, ?_, by omega⟩
            rw [e]
            (refine Weak.same ?_; simp only [sameF, Fr.get, ↓reduceIte, reduceIte, Nat.reduceEqDiff, reduceCtorEq, D.int.injEq, D.bool.injEq, D.sl.injEq, and_true, true_and, and_self])
            exact wrap_i64 (by omega)
  · have hd : ¬ ((k : Int) < (r.length : Int)) := by omega
    have hk' : k = r.length := by omega
    subst hk'
    simp only [Int.reduceToNat, Int.reduceLT, Int.reduceLE, Int.reduceBEq, Int.reduceBNe, St0, argFr, ↓callZ, ↓midZ, ↓unZ, ↓thenW, ↓blockW, ↓opX, ↓opV, ↓pX, ↓pW, ↓putK, ↓putP, ↓atK, ↓normK, ↓postZ, ↓reduceIte, reduceIte, Nat.reduceEqDiff, Nat.reduceAdd, Nat.reduceBEq, Nat.reduceLT, Nat.reduceLeDiff, binW, bodyQ, ressW, resW, ne_eq, forall_const, reduceCtorEq, implies_true, sets, oneAll, setD, rels, fillE, fillD, List.replicate, rowsOf, forall_eq, Nat.reduceMul, ↓zD, zT, hd]
    exact .same
/-- The specification's least so far: -1 if there is none. -/
def lowR (a : BitVec 64 × Int) : Int := if a.1 = 0#64 then -1 else a.2
theorem lowR_pos {o : BitVec 64} {l : Int} (h : o ≠ 0#64) : lowR (o, l) = l := if_neg h
theorem bestTo_nonneg {r : List Int} {s : BitVec 64} (h0 : ∀ i, 0 ≤ r.getD i 0) : ∀ k, 0 ≤ (bestTo r s k).2
  | 0 => Int.le_refl _
  | k + 1 => by
    rw [bestTo_succ, bestStep]
    have := bestTo_nonneg h0 (s := s) k
    split
    · exact this
    · split
      · exact h0 k
      · exact this
theorem refBest_runs (r : List Int) (s : BitVec 64) (hr : r.length ≤ 64) (h0 : ∀ i, 0 ≤ r.getD i 0) : Runs Try.prog 33 [.sl 1 (rows .i64 r), .int .u64 (ui s)] (.int .u64 (ui (bestS r s))) := by
  refine CallT.go_fn mixed Try.func33 k33 (by simp) fun hf => ?_
  simp only [Int.reduceToNat, Int.reduceLT, Int.reduceLE, Int.reduceBEq, Int.reduceBNe, St0, argFr, ↓callZ, ↓midZ, ↓unZ, ↓thenW, ↓blockW, ↓opX, ↓opV, ↓pX, ↓pW, ↓putK, ↓putP, ↓atK, ↓normK, ↓postZ, ↓reduceIte, reduceIte, Nat.reduceEqDiff, Nat.reduceAdd, Nat.reduceBEq, Nat.reduceLT, Nat.reduceLeDiff, binW, bodyQ, ressW, resW, ne_eq, forall_const, reduceCtorEq, implies_true, sets, oneAll, setD, rels, fillE, fillD, List.replicate, rowsOf, forall_eq, Nat.reduceMul, ↓zD, zT]
  refine wpS_loop (fun k : Nat => [(7, .int .i64 k), (6, .int .u64 (ui (bestTo r s k).1)), (5, .int .i64 (lowR (bestTo r s k))), (1, .int .u64 (ui s)), (0, .sl 1 (rows .i64 r))]) (fun _ => ⟨0, []⟩) (fun k => k ≤ r.length) (fun k => r.length - k) 0 (Nat.zero_le _) ?_ ?_
  · (refine Weak.same ?_; simp [sameF, Fr.get, bestTo, lowR])
  intro k hk
  refine wpS_go mixed ?_
  by_cases h : k < r.length
  · have hd : ((k : Int) < (r.length : Int)) := by omega
    have hs := bestTo_succ r s k
    have hpos := bestTo_nonneg h0 (s := s) k
    generalize bestTo r s k = a at hs hpos ⊢
    obtain ⟨out, least⟩ := a
    simp only at hpos
    simp only [Int.reduceToNat, Int.reduceLT, Int.reduceLE, Int.reduceBEq, Int.reduceBNe, St0, argFr, ↓callZ, ↓midZ, ↓unZ, ↓thenW, ↓blockW, ↓opX, ↓opV, ↓pX, ↓pW, ↓putK, ↓putP, ↓atK, ↓normK, ↓postZ, ↓reduceIte, reduceIte, Nat.reduceEqDiff, Nat.reduceAdd, Nat.reduceBEq, Nat.reduceLT, Nat.reduceLeDiff, binW, bodyQ, ressW, resW, ne_eq, forall_const, reduceCtorEq, implies_true, sets, oneAll, setD, rels, fillE, fillD, List.replicate, rowsOf, forall_eq, Nat.reduceMul, ↓zD, zT, hd]
    refine .go (CallT.of_runs (has_runs s (k : Int)) rfl) ?_
    rw [hasS_nat]
    cases hb : s.getLsbD k
    · rw [hb] at hs
      have e : bestTo r s (k + 1) = (out, least) := by rw [hs]; simp [bestStep]
      simp only [Int.reduceToNat, Int.reduceLT, Int.reduceLE, Int.reduceBEq, Int.reduceBNe, St0, argFr, ↓callZ, ↓midZ, ↓unZ, ↓thenW, ↓blockW, ↓opX, ↓opV, ↓pX, ↓pW, ↓putK, ↓putP, ↓atK, ↓normK, ↓postZ, ↓reduceIte, reduceIte, Nat.reduceEqDiff, Nat.reduceAdd, Nat.reduceBEq, Nat.reduceLT, Nat.reduceLeDiff, binW, bodyQ, ressW, resW, ne_eq, forall_const, reduceCtorEq, implies_true, sets, oneAll, setD, rels, fillE, fillD, List.replicate, rowsOf, forall_eq, Nat.reduceMul, ↓zD, zT]
      (repeat refine And.intro (by first | omega | exact ui_nonneg _ | exact Int.natCast_nonneg _ | rfl | exact rows_one' _ _ | exact us_one _ | (intro _ h; cases h; done)) ?_)
      refine ⟨k + 1, by omega, ?_, by omega⟩
      rw [e]
      (refine Weak.same ?_; simp only [sameF, Fr.get, ↓reduceIte, reduceIte, Nat.reduceEqDiff, reduceCtorEq, D.int.injEq, D.bool.injEq, D.sl.injEq, and_true, true_and, and_self])
      exact wrap_i64 (by omega)
    · rw [hb] at hs
      by_cases hz : out = 0#64
      · subst hz
        have e : bestTo r s (k + 1) = (1#64 <<< k, r.getD k 0) := by rw [hs]; simp [bestStep]
        simp only [Int.reduceToNat, Int.reduceLT, Int.reduceLE, Int.reduceBEq, Int.reduceBNe, St0, argFr, ↓callZ, ↓midZ, ↓unZ, ↓thenW, ↓blockW, ↓opX, ↓opV, ↓pX, ↓pW, ↓putK, ↓putP, ↓atK, ↓normK, ↓postZ, ↓reduceIte, reduceIte, Nat.reduceEqDiff, Nat.reduceAdd, Nat.reduceBEq, Nat.reduceLT, Nat.reduceLeDiff, binW, bodyQ, ressW, resW, ne_eq, forall_const, reduceCtorEq, implies_true, sets, oneAll, setD, rels, fillE, fillD, List.replicate, rowsOf, forall_eq, Nat.reduceMul, ↓zD, zT, show lowR (0#64, least) = -1 from rfl, hd, rows_get _ _ h, convN (show k ≤ 1000000 by omega)]
        (repeat refine And.intro (by first | omega | exact ui_nonneg _ | exact Int.natCast_nonneg _ | rfl | exact rows_one' _ _ | exact us_one _ | (intro _ h; cases h; done)) ?_)
        refine ⟨k + 1, by omega, ?_, by omega⟩
        rw [e, lowR_pos (shl_ne (show k < 64 by omega))]
        (refine Weak.same ?_; simp only [sameF, Fr.get, ↓reduceIte, reduceIte, Nat.reduceEqDiff, reduceCtorEq, D.int.injEq, D.bool.injEq, D.sl.injEq, and_true, true_and, and_self])
        exact ⟨wrap_i64 (by omega), by simp⟩
      · have hz1 : (out == 0#64) = false := by simpa using hz
        have hn0 : ¬ least < 0 := by omega
        have hn1 : least ≥ 0 := by omega
        rw [lowR_pos hz]
        by_cases hw : least < r.getD k 0
        · have e : bestTo r s (k + 1) = (out, least) := by rw [hs]; simp only [bestStep, if_pos (show (true = false ∨ (out ≠ 0#64 ∧ least < r.getD k 0)) from .inr ⟨hz, hw⟩)]
          simp only [Int.reduceToNat, Int.reduceLT, Int.reduceLE, Int.reduceBEq, Int.reduceBNe, St0, argFr, ↓callZ, ↓midZ, ↓unZ, ↓thenW, ↓blockW, ↓opX, ↓opV, ↓pX, ↓pW, ↓putK, ↓putP, ↓atK, ↓normK, ↓postZ, ↓reduceIte, reduceIte, Nat.reduceEqDiff, Nat.reduceAdd, Nat.reduceBEq, Nat.reduceLT, Nat.reduceLeDiff, binW, bodyQ, ressW, resW, ne_eq, forall_const, reduceCtorEq, implies_true, sets, oneAll, setD, rels, fillE, fillD, List.replicate, rowsOf, forall_eq, Nat.reduceMul, ↓zD, zT, hd, rows_get _ _ h, hpos, hn0, hw]
          (repeat refine And.intro (by first | omega | exact ui_nonneg _ | exact Int.natCast_nonneg _ | rfl | exact rows_one' _ _ | exact us_one _ | (intro _ h; cases h; done)) ?_)
          refine ⟨k + 1, by omega, ?_, by omega⟩
          rw [e, lowR_pos hz]
          (refine Weak.same ?_; simp only [sameF, Fr.get, ↓reduceIte, reduceIte, Nat.reduceEqDiff, reduceCtorEq, D.int.injEq, D.bool.injEq, D.sl.injEq, and_true, true_and, and_self])
          exact wrap_i64 (by omega)
        · have hw' : ¬ (true = false ∨ (out ≠ 0#64 ∧ least < r.getD k 0)) := by rintro (c | ⟨_, c⟩); cases c; exact hw c
          by_cases hl : r.getD k 0 < least
          · have e : bestTo r s (k + 1) = (1#64 <<< k, r.getD k 0) := by rw [hs]; simp only [bestStep, if_neg hw', if_pos (show (out = 0#64 ∨ r.getD k 0 < least) from .inr hl)]
            simp only [Int.reduceToNat, Int.reduceLT, Int.reduceLE, Int.reduceBEq, Int.reduceBNe, St0, argFr, ↓callZ, ↓midZ, ↓unZ, ↓thenW, ↓blockW, ↓opX, ↓opV, ↓pX, ↓pW, ↓putK, ↓putP, ↓atK, ↓normK, ↓postZ, ↓reduceIte, reduceIte, Nat.reduceEqDiff, Nat.reduceAdd, Nat.reduceBEq, Nat.reduceLT, Nat.reduceLeDiff, binW, bodyQ, ressW, resW, ne_eq, forall_const, reduceCtorEq, implies_true, sets, oneAll, setD, rels, fillE, fillD, List.replicate, rowsOf, forall_eq, Nat.reduceMul, ↓zD, zT, hd, rows_get _ _ h, hpos, hn0, hw, hl, convN (show k ≤ 1000000 by omega)]
            (repeat refine And.intro (by first | omega | exact ui_nonneg _ | exact Int.natCast_nonneg _ | rfl | exact rows_one' _ _ | exact us_one _ | (intro _ h; cases h; done)) ?_)
            refine ⟨k + 1, by omega, ?_, by omega⟩
            rw [e, lowR_pos (shl_ne (show k < 64 by omega))]
            (refine Weak.same ?_; simp only [sameF, Fr.get, ↓reduceIte, reduceIte, Nat.reduceEqDiff, reduceCtorEq, D.int.injEq, D.bool.injEq, D.sl.injEq, and_true, true_and, and_self])
            exact ⟨wrap_i64 (by omega), by simp⟩
          · have hl' : ¬ (out = 0#64 ∨ r.getD k 0 < least) := by rintro (c | c); exact hz c; exact hl c
            have e : bestTo r s (k + 1) = (out ||| 1#64 <<< k, least) := by rw [hs]; simp only [bestStep, if_neg hw', if_neg hl']
            simp only [Int.reduceToNat, Int.reduceLT, Int.reduceLE, Int.reduceBEq, Int.reduceBNe, St0, argFr, ↓callZ, ↓midZ, ↓unZ, ↓thenW, ↓blockW, ↓opX, ↓opV, ↓pX, ↓pW, ↓putK, ↓putP, ↓atK, ↓normK, ↓postZ, ↓reduceIte, reduceIte, Nat.reduceEqDiff, Nat.reduceAdd, Nat.reduceBEq, Nat.reduceLT, Nat.reduceLeDiff, binW, bodyQ, ressW, resW, ne_eq, forall_const, reduceCtorEq, implies_true, sets, oneAll, setD, rels, fillE, fillD, List.replicate, rowsOf, forall_eq, Nat.reduceMul, ↓zD, zT, hd, rows_get _ _ h, hpos, hn0, hw, hl, convN (show k ≤ 1000000 by omega)]
            (repeat refine And.intro (by first | omega | exact ui_nonneg _ | exact Int.natCast_nonneg _ | rfl | exact rows_one' _ _ | exact us_one _ | (intro _ h; cases h; done)) ?_)
            refine ⟨k + 1, by omega, ?_, by omega⟩
            rw [e, lowR_pos (or_ne (show k < 64 by omega))]
            (refine Weak.same ?_; simp only [sameF, Fr.get, ↓reduceIte, reduceIte, Nat.reduceEqDiff, reduceCtorEq, D.int.injEq, D.bool.injEq, D.sl.injEq, and_true, true_and, and_self])
            exact wrap_i64 (by omega)
  · have hd : ¬ ((k : Int) < (r.length : Int)) := by omega
    have hk' : k = r.length := by omega
    subst hk'
    simp only [Int.reduceToNat, Int.reduceLT, Int.reduceLE, Int.reduceBEq, Int.reduceBNe, St0, argFr, ↓callZ, ↓midZ, ↓unZ, ↓thenW, ↓blockW, ↓opX, ↓opV, ↓pX, ↓pW, ↓putK, ↓putP, ↓atK, ↓normK, ↓postZ, ↓reduceIte, reduceIte, Nat.reduceEqDiff, Nat.reduceAdd, Nat.reduceBEq, Nat.reduceLT, Nat.reduceLeDiff, binW, bodyQ, ressW, resW, ne_eq, forall_const, reduceCtorEq, implies_true, sets, oneAll, setD, rels, fillE, fillD, List.replicate, rowsOf, forall_eq, Nat.reduceMul, ↓zD, zT, hd]
    exact .same
end Go.Pd
