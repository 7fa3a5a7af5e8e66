/- Runs: the law Classes. -/
import Derived.Test.YthohheekakbpbaaSA
set_option linter.unusedSectionVars false
set_option linter.unusedVariables false
set_option linter.unusedSimpArgs false
set_option linter.defProp false
set_option maxRecDepth 20000
namespace Go.Pd
open Go Go.Proofs
open Ru
theorem tdivN (a b : Nat) : ((a : Int)).tdiv (b : Int) = ((a / b : Nat) : Int) := by
  rw [Int.tdiv_eq_ediv_of_nonneg (by omega)]; omega
theorem tmodN (a b : Nat) : ((a : Int)).tmod (b : Int) = ((a % b : Nat) : Int) := by
  rw [Int.tmod_eq_emod_of_nonneg (by omega)]; omega
theorem bit_ne (x y : BitVec 64) (i j : Nat) (h : x.getLsbD i = y.getLsbD j) : (x >>> i &&& 1#64 != y >>> j &&& 1#64) = false := by
  rw [bit_and1, bit_and1, h]; simp
theorem runsClasses_runs (s : SysA) : Runs Try.prog 5 [s.d] (.bool true) := by
  have hD : s.d = .agg [.int .i64 s.ag, .int .i64 s.fa, .int .i64 s.ln, .sl 2 (runR s.rs)] := rfl
  have hF := Few9 s
  have h1 := Model10 s
  have hC := refCheck23 s
  by_cases hz : chk s = 0
  case neg =>
    have e : (chk s != 0) = true := by simpa using hz
    rw [hD] at hF hC ⊢
    refine CallT.go_fn mixed Try.func5 k5 (by simp) fun hf => ?_
    simp only [Int.reduceToNat, Int.reduceLT, Int.reduceLE, Int.reduceBEq, Int.reduceBNe, St0, argFr, ↓callZ, ↓midZ, ↓unZ, ↓thenW, ↓blockW, ↓opX, ↓opV, ↓pX, ↓pW, ↓putK, ↓putP, ↓atK, ↓normK, ↓postZ, ↓reduceIte, reduceIte, Nat.reduceEqDiff, Nat.reduceAdd, Nat.reduceBEq, Nat.reduceLT, Nat.reduceLeDiff, binW, bodyQ, ressW, resW, ne_eq, forall_const, reduceCtorEq, implies_true, sets, oneAll, setD, rels, fillE, fillD, List.replicate, rowsOf, forall_eq, Nat.reduceMul, ↓zD, zT]
    (repeat refine And.intro (by first | omega | exact ui_nonneg _ | exact Int.natCast_nonneg _ | rfl | exact rows_one' _ _ | exact us_one _ | (intro _ h; cases h; done)) ?_)
    refine .go awakeT ?_
    simp only [Int.reduceToNat, Int.reduceLT, Int.reduceLE, Int.reduceBEq, Int.reduceBNe, St0, argFr, ↓callZ, ↓midZ, ↓unZ, ↓thenW, ↓blockW, ↓opX, ↓opV, ↓pX, ↓pW, ↓putK, ↓putP, ↓atK, ↓normK, ↓postZ, ↓reduceIte, reduceIte, Nat.reduceEqDiff, Nat.reduceAdd, Nat.reduceBEq, Nat.reduceLT, Nat.reduceLeDiff, binW, bodyQ, ressW, resW, ne_eq, forall_const, reduceCtorEq, implies_true, sets, oneAll, setD, rels, fillE, fillD, List.replicate, rowsOf, forall_eq, Nat.reduceMul, ↓zD, zT]
    refine .go (CallT.of_runs hF rfl) ?_
    cases fewA s
    · simp only [Int.reduceToNat, Int.reduceLT, Int.reduceLE, Int.reduceBEq, Int.reduceBNe, St0, argFr, ↓callZ, ↓midZ, ↓unZ, ↓thenW, ↓blockW, ↓opX, ↓opV, ↓pX, ↓pW, ↓putK, ↓putP, ↓atK, ↓normK, ↓postZ, ↓reduceIte, reduceIte, Nat.reduceEqDiff, Nat.reduceAdd, Nat.reduceBEq, Nat.reduceLT, Nat.reduceLeDiff, binW, bodyQ, ressW, resW, ne_eq, forall_const, reduceCtorEq, implies_true, sets, oneAll, setD, rels, fillE, fillD, List.replicate, rowsOf, forall_eq, Nat.reduceMul, ↓zD, zT]
      refine .go awakeT ?_
      simp only [Int.reduceToNat, Int.reduceLT, Int.reduceLE, Int.reduceBEq, Int.reduceBNe, St0, argFr, ↓callZ, ↓midZ, ↓unZ, ↓thenW, ↓blockW, ↓opX, ↓opV, ↓pX, ↓pW, ↓putK, ↓putP, ↓atK, ↓normK, ↓postZ, ↓reduceIte, reduceIte, Nat.reduceEqDiff, Nat.reduceAdd, Nat.reduceBEq, Nat.reduceLT, Nat.reduceLeDiff, binW, bodyQ, ressW, resW, ne_eq, forall_const, reduceCtorEq, implies_true, sets, oneAll, setD, rels, fillE, fillD, List.replicate, rowsOf, forall_eq, Nat.reduceMul, ↓zD, zT]
      exact .drop (by simp) (by simp [vw])
    simp only [Int.reduceToNat, Int.reduceLT, Int.reduceLE, Int.reduceBEq, Int.reduceBNe, St0, argFr, ↓callZ, ↓midZ, ↓unZ, ↓thenW, ↓blockW, ↓opX, ↓opV, ↓pX, ↓pW, ↓putK, ↓putP, ↓atK, ↓normK, ↓postZ, ↓reduceIte, reduceIte, Nat.reduceEqDiff, Nat.reduceAdd, Nat.reduceBEq, Nat.reduceLT, Nat.reduceLeDiff, binW, bodyQ, ressW, resW, ne_eq, forall_const, reduceCtorEq, implies_true, sets, oneAll, setD, rels, fillE, fillD, List.replicate, rowsOf, forall_eq, Nat.reduceMul, ↓zD, zT]
    refine .go (CallT.of_runs hC rfl) ?_
    simp only [Int.reduceToNat, Int.reduceLT, Int.reduceLE, Int.reduceBEq, Int.reduceBNe, St0, argFr, ↓callZ, ↓midZ, ↓unZ, ↓thenW, ↓blockW, ↓opX, ↓opV, ↓pX, ↓pW, ↓putK, ↓putP, ↓atK, ↓normK, ↓postZ, ↓reduceIte, reduceIte, Nat.reduceEqDiff, Nat.reduceAdd, Nat.reduceBEq, Nat.reduceLT, Nat.reduceLeDiff, binW, bodyQ, ressW, resW, ne_eq, forall_const, reduceCtorEq, implies_true, sets, oneAll, setD, rels, fillE, fillD, List.replicate, rowsOf, forall_eq, Nat.reduceMul, ↓zD, zT, e]
    refine .go awakeT ?_
    simp only [Int.reduceToNat, Int.reduceLT, Int.reduceLE, Int.reduceBEq, Int.reduceBNe, St0, argFr, ↓callZ, ↓midZ, ↓unZ, ↓thenW, ↓blockW, ↓opX, ↓opV, ↓pX, ↓pW, ↓putK, ↓putP, ↓atK, ↓normK, ↓postZ, ↓reduceIte, reduceIte, Nat.reduceEqDiff, Nat.reduceAdd, Nat.reduceBEq, Nat.reduceLT, Nat.reduceLeDiff, binW, bodyQ, ressW, resW, ne_eq, forall_const, reduceCtorEq, implies_true, sets, oneAll, setD, rels, fillE, fillD, List.replicate, rowsOf, forall_eq, Nat.reduceMul, ↓zD, zT]
    exact .drop (by simp) (by simp [vw])
  obtain ⟨A, F, T, rs, rfl, ok⟩ := chk_sys hz
  obtain ⟨T1, T16⟩ := ok.hT
  obtain ⟨R1, R64⟩ := ok.hR
  have hF8 := ok.hF
  have hA4 := ok.hA
  have ep : ptsA ⟨A, F, T, rs⟩ = ptN T (rs.length * T) := by unfold ptsA; rw [if_neg (by simpa using hz)]; rfl
  have hm : modelM ⟨A, F, T, rs⟩ = if 64 < (ptsA ⟨A, F, T, rs⟩).length then (zeroM, [], 8) else (modM rs (ptsA ⟨A, F, T, rs⟩) A F, ptsA ⟨A, F, T, rs⟩, 0) := by
    unfold modelM; rw [if_neg (by simpa using hz)]; rfl
  rw [hm] at h1
  rw [hz] at hC
  have hln : (ptsA ⟨A, F, T, rs⟩).length = rs.length * T := by rw [ep, ptN_len]
  have hat : ∀ i, i < rs.length * T → (ptsA ⟨A, F, T, rs⟩).getD i (0, 0) = (i / T, i % T) := fun i hi => by rw [ep, ptN_get T hi]
  have hin : Inb rs T (ptsA ⟨A, F, T, rs⟩) := by rw [ep]; exact ptN_in T1 (Nat.le_refl _)
  generalize ptsA ⟨A, F, T, rs⟩ = l at h1 hln hat hin
  rw [hD] at hF h1 hC ⊢
  simp only at hF h1 hC ⊢
  have hmul : IntKind.i64.wrap ((rs.length : Int) * (T : Int)) = ((rs.length * T : Nat) : Int) := by
    rw [← Int.natCast_mul]; exact wrap_i64 (by have := ok.hP; omega)
  by_cases h64 : 64 < l.length
  · rw [if_pos h64] at h1
    have e : (64 : Int) < ((rs.length * T : Nat) : Int) := by omega
    unfold zeroM ModA.d at h1
    refine CallT.go_fn mixed Try.func5 k5 (by simp) fun hf => ?_
    simp only [Int.reduceToNat, Int.reduceLT, Int.reduceLE, Int.reduceBEq, Int.reduceBNe, St0, argFr, ↓callZ, ↓midZ, ↓unZ, ↓thenW, ↓blockW, ↓opX, ↓opV, ↓pX, ↓pW, ↓putK, ↓putP, ↓atK, ↓normK, ↓postZ, ↓reduceIte, reduceIte, Nat.reduceEqDiff, Nat.reduceAdd, Nat.reduceBEq, Nat.reduceLT, Nat.reduceLeDiff, binW, bodyQ, ressW, resW, ne_eq, forall_const, reduceCtorEq, implies_true, sets, oneAll, setD, rels, fillE, fillD, List.replicate, rowsOf, forall_eq, Nat.reduceMul, ↓zD, zT]
    (repeat refine And.intro (by first | omega | exact ui_nonneg _ | exact Int.natCast_nonneg _ | rfl | exact rows_one' _ _ | exact us_one _ | (intro _ h; cases h; done)) ?_)
    refine .go awakeT ?_
    simp only [Int.reduceToNat, Int.reduceLT, Int.reduceLE, Int.reduceBEq, Int.reduceBNe, St0, argFr, ↓callZ, ↓midZ, ↓unZ, ↓thenW, ↓blockW, ↓opX, ↓opV, ↓pX, ↓pW, ↓putK, ↓putP, ↓atK, ↓normK, ↓postZ, ↓reduceIte, reduceIte, Nat.reduceEqDiff, Nat.reduceAdd, Nat.reduceBEq, Nat.reduceLT, Nat.reduceLeDiff, binW, bodyQ, ressW, resW, ne_eq, forall_const, reduceCtorEq, implies_true, sets, oneAll, setD, rels, fillE, fillD, List.replicate, rowsOf, forall_eq, Nat.reduceMul, ↓zD, zT]
    refine .go (CallT.of_runs hF rfl) ?_
    cases fewA ⟨A, F, T, rs⟩
    · simp only [Int.reduceToNat, Int.reduceLT, Int.reduceLE, Int.reduceBEq, Int.reduceBNe, St0, argFr, ↓callZ, ↓midZ, ↓unZ, ↓thenW, ↓blockW, ↓opX, ↓opV, ↓pX, ↓pW, ↓putK, ↓putP, ↓atK, ↓normK, ↓postZ, ↓reduceIte, reduceIte, Nat.reduceEqDiff, Nat.reduceAdd, Nat.reduceBEq, Nat.reduceLT, Nat.reduceLeDiff, binW, bodyQ, ressW, resW, ne_eq, forall_const, reduceCtorEq, implies_true, sets, oneAll, setD, rels, fillE, fillD, List.replicate, rowsOf, forall_eq, Nat.reduceMul, ↓zD, zT]
      refine .go awakeT ?_
      simp only [Int.reduceToNat, Int.reduceLT, Int.reduceLE, Int.reduceBEq, Int.reduceBNe, St0, argFr, ↓callZ, ↓midZ, ↓unZ, ↓thenW, ↓blockW, ↓opX, ↓opV, ↓pX, ↓pW, ↓putK, ↓putP, ↓atK, ↓normK, ↓postZ, ↓reduceIte, reduceIte, Nat.reduceEqDiff, Nat.reduceAdd, Nat.reduceBEq, Nat.reduceLT, Nat.reduceLeDiff, binW, bodyQ, ressW, resW, ne_eq, forall_const, reduceCtorEq, implies_true, sets, oneAll, setD, rels, fillE, fillD, List.replicate, rowsOf, forall_eq, Nat.reduceMul, ↓zD, zT]
      exact .drop (by simp) (by simp [vw])
    simp only [Int.reduceToNat, Int.reduceLT, Int.reduceLE, Int.reduceBEq, Int.reduceBNe, St0, argFr, ↓callZ, ↓midZ, ↓unZ, ↓thenW, ↓blockW, ↓opX, ↓opV, ↓pX, ↓pW, ↓putK, ↓putP, ↓atK, ↓normK, ↓postZ, ↓reduceIte, reduceIte, Nat.reduceEqDiff, Nat.reduceAdd, Nat.reduceBEq, Nat.reduceLT, Nat.reduceLeDiff, binW, bodyQ, ressW, resW, ne_eq, forall_const, reduceCtorEq, implies_true, sets, oneAll, setD, rels, fillE, fillD, List.replicate, rowsOf, forall_eq, Nat.reduceMul, ↓zD, zT]
    refine .go (CallT.of_runs hC rfl) ?_
    simp only [Int.reduceToNat, Int.reduceLT, Int.reduceLE, Int.reduceBEq, Int.reduceBNe, St0, argFr, ↓callZ, ↓midZ, ↓unZ, ↓thenW, ↓blockW, ↓opX, ↓opV, ↓pX, ↓pW, ↓putK, ↓putP, ↓atK, ↓normK, ↓postZ, ↓reduceIte, reduceIte, Nat.reduceEqDiff, Nat.reduceAdd, Nat.reduceBEq, Nat.reduceLT, Nat.reduceLeDiff, binW, bodyQ, ressW, resW, ne_eq, forall_const, reduceCtorEq, implies_true, sets, oneAll, setD, rels, fillE, fillD, List.replicate, rowsOf, forall_eq, Nat.reduceMul, ↓zD, zT]
    refine .go (CallT.of_runs h1 rfl) ?_
    simp only [Int.reduceToNat, Int.reduceLT, Int.reduceLE, Int.reduceBEq, Int.reduceBNe, St0, argFr, ↓callZ, ↓midZ, ↓unZ, ↓thenW, ↓blockW, ↓opX, ↓opV, ↓pX, ↓pW, ↓putK, ↓putP, ↓atK, ↓normK, ↓postZ, ↓reduceIte, reduceIte, Nat.reduceEqDiff, Nat.reduceAdd, Nat.reduceBEq, Nat.reduceLT, Nat.reduceLeDiff, binW, bodyQ, ressW, resW, ne_eq, forall_const, reduceCtorEq, implies_true, sets, oneAll, setD, rels, fillE, fillD, List.replicate, rowsOf, forall_eq, Nat.reduceMul, ↓zD, zT, runR_len, hmul, e]
    exact .drop (by simp) (by simp [vw])
  rw [if_neg h64] at h1
  have hck := modCheck24 (modM_ok ok (l := l) (by rw [hln]; exact Nat.mul_pos R1 T1) (by omega))
  have hvl : (valL rs l F).length = F := by simp [valL]
  have hrl : (relL rs l A).length = A := by simp [relL]
  have hvg : ∀ f, f < F → (us (valL rs l F)).getD f [] = [.int .u64 (ui (valK rs l f l.length))] := fun f hf => by
    rw [us_get _ (by omega)]; simp [valL, List.getD, hf]
  have hrg : ∀ a, a < A → (rr (relL rs l A)).getD a [] = [.sl 1 (us (relR rs l a))] := fun a ha => by
    rw [rr_get _ (by omega)]; simp [relL, List.getD, ha]
  have hrr : ∀ a, (relR rs l a).length = l.length := fun a => by simp [relR]
  have hrx : ∀ a i, i < l.length → (us (relR rs l a)).getD i [] = [.int .u64 (ui (relK rs l a (locA rs a (l.getD i (0, 0))) l.length))] := fun a i hi => by
    rw [us_get _ (by rw [hrr]; exact hi)]; simp [relR, List.getD, hi]
  unfold ModA.d modM at h1 hck
  simp only at h1 hck
  have n1 : ((l.length : Int) != ((rs.length * T : Nat) : Int)) = false := by rw [hln]; simp
  refine CallT.go_fn mixed Try.func5 k5 (by simp) fun hf => ?_
  simp only [Int.reduceToNat, Int.reduceLT, Int.reduceLE, Int.reduceBEq, Int.reduceBNe, St0, argFr, ↓callZ, ↓midZ, ↓unZ, ↓thenW, ↓blockW, ↓opX, ↓opV, ↓pX, ↓pW, ↓putK, ↓putP, ↓atK, ↓normK, ↓postZ, ↓reduceIte, reduceIte, Nat.reduceEqDiff, Nat.reduceAdd, Nat.reduceBEq, Nat.reduceLT, Nat.reduceLeDiff, binW, bodyQ, ressW, resW, ne_eq, forall_const, reduceCtorEq, implies_true, sets, oneAll, setD, rels, fillE, fillD, List.replicate, rowsOf, forall_eq, Nat.reduceMul, ↓zD, zT]
  (repeat refine And.intro (by first | omega | exact ui_nonneg _ | exact Int.natCast_nonneg _ | rfl | exact rows_one' _ _ | exact us_one _ | (intro _ h; cases h; done)) ?_)
  refine .go awakeT ?_
  simp only [Int.reduceToNat, Int.reduceLT, Int.reduceLE, Int.reduceBEq, Int.reduceBNe, St0, argFr, ↓callZ, ↓midZ, ↓unZ, ↓thenW, ↓blockW, ↓opX, ↓opV, ↓pX, ↓pW, ↓putK, ↓putP, ↓atK, ↓normK, ↓postZ, ↓reduceIte, reduceIte, Nat.reduceEqDiff, Nat.reduceAdd, Nat.reduceBEq, Nat.reduceLT, Nat.reduceLeDiff, binW, bodyQ, ressW, resW, ne_eq, forall_const, reduceCtorEq, implies_true, sets, oneAll, setD, rels, fillE, fillD, List.replicate, rowsOf, forall_eq, Nat.reduceMul, ↓zD, zT]
  refine .go (CallT.of_runs hF rfl) ?_
  cases fewA ⟨A, F, T, rs⟩
  · simp only [Int.reduceToNat, Int.reduceLT, Int.reduceLE, Int.reduceBEq, Int.reduceBNe, St0, argFr, ↓callZ, ↓midZ, ↓unZ, ↓thenW, ↓blockW, ↓opX, ↓opV, ↓pX, ↓pW, ↓putK, ↓putP, ↓atK, ↓normK, ↓postZ, ↓reduceIte, reduceIte, Nat.reduceEqDiff, Nat.reduceAdd, Nat.reduceBEq, Nat.reduceLT, Nat.reduceLeDiff, binW, bodyQ, ressW, resW, ne_eq, forall_const, reduceCtorEq, implies_true, sets, oneAll, setD, rels, fillE, fillD, List.replicate, rowsOf, forall_eq, Nat.reduceMul, ↓zD, zT]
    refine .go awakeT ?_
    simp only [Int.reduceToNat, Int.reduceLT, Int.reduceLE, Int.reduceBEq, Int.reduceBNe, St0, argFr, ↓callZ, ↓midZ, ↓unZ, ↓thenW, ↓blockW, ↓opX, ↓opV, ↓pX, ↓pW, ↓putK, ↓putP, ↓atK, ↓normK, ↓postZ, ↓reduceIte, reduceIte, Nat.reduceEqDiff, Nat.reduceAdd, Nat.reduceBEq, Nat.reduceLT, Nat.reduceLeDiff, binW, bodyQ, ressW, resW, ne_eq, forall_const, reduceCtorEq, implies_true, sets, oneAll, setD, rels, fillE, fillD, List.replicate, rowsOf, forall_eq, Nat.reduceMul, ↓zD, zT]
    exact .drop (by simp) (by simp [vw])
  simp only [Int.reduceToNat, Int.reduceLT, Int.reduceLE, Int.reduceBEq, Int.reduceBNe, St0, argFr, ↓callZ, ↓midZ, ↓unZ, ↓thenW, ↓blockW, ↓opX, ↓opV, ↓pX, ↓pW, ↓putK, ↓putP, ↓atK, ↓normK, ↓postZ, ↓reduceIte, reduceIte, Nat.reduceEqDiff, Nat.reduceAdd, Nat.reduceBEq, Nat.reduceLT, Nat.reduceLeDiff, binW, bodyQ, ressW, resW, ne_eq, forall_const, reduceCtorEq, implies_true, sets, oneAll, setD, rels, fillE, fillD, List.replicate, rowsOf, forall_eq, Nat.reduceMul, ↓zD, zT]
  refine .go (CallT.of_runs hC rfl) ?_
  simp only [Int.reduceToNat, Int.reduceLT, Int.reduceLE, Int.reduceBEq, Int.reduceBNe, St0, argFr, ↓callZ, ↓midZ, ↓unZ, ↓thenW, ↓blockW, ↓opX, ↓opV, ↓pX, ↓pW, ↓putK, ↓putP, ↓atK, ↓normK, ↓postZ, ↓reduceIte, reduceIte, Nat.reduceEqDiff, Nat.reduceAdd, Nat.reduceBEq, Nat.reduceLT, Nat.reduceLeDiff, binW, bodyQ, ressW, resW, ne_eq, forall_const, reduceCtorEq, implies_true, sets, oneAll, setD, rels, fillE, fillD, List.replicate, rowsOf, forall_eq, Nat.reduceMul, ↓zD, zT]
  refine .go (CallT.of_runs h1 rfl) ?_
  simp only [Int.reduceToNat, Int.reduceLT, Int.reduceLE, Int.reduceBEq, Int.reduceBNe, St0, argFr, ↓callZ, ↓midZ, ↓unZ, ↓thenW, ↓blockW, ↓opX, ↓opV, ↓pX, ↓pW, ↓putK, ↓putP, ↓atK, ↓normK, ↓postZ, ↓reduceIte, reduceIte, Nat.reduceEqDiff, Nat.reduceAdd, Nat.reduceBEq, Nat.reduceLT, Nat.reduceLeDiff, binW, bodyQ, ressW, resW, ne_eq, forall_const, reduceCtorEq, implies_true, sets, oneAll, setD, rels, fillE, fillD, List.replicate, rowsOf, forall_eq, Nat.reduceMul, ↓zD, zT]
  refine .go (CallT.of_runs hck (by simp [D.isPureL, D.isPure])) ?_
  simp only [Int.reduceToNat, Int.reduceLT, Int.reduceLE, Int.reduceBEq, Int.reduceBNe, St0, argFr, ↓callZ, ↓midZ, ↓unZ, ↓thenW, ↓blockW, ↓opX, ↓opV, ↓pX, ↓pW, ↓putK, ↓putP, ↓atK, ↓normK, ↓postZ, ↓reduceIte, reduceIte, Nat.reduceEqDiff, Nat.reduceAdd, Nat.reduceBEq, Nat.reduceLT, Nat.reduceLeDiff, binW, bodyQ, ressW, resW, ne_eq, forall_const, reduceCtorEq, implies_true, sets, oneAll, setD, rels, fillE, fillD, List.replicate, rowsOf, forall_eq, Nat.reduceMul, ↓zD, zT, ptR_len, us_len, rr_len, hvl, hrl, runR_len, hmul, n1]
  generalize hV : us (valL rs l F) = V at hvg
  generalize hR : rr (relL rs l A) = RR at hrg
  have hVl : V.length = F := by rw [← hV, us_len, hvl]
  have hRl : RR.length = A := by rw [← hR, rr_len, hrl]
  refine wpS_loop (fun i : Nat => [(85, .int .i64 i), (84, .int .i64 l.length), (83, .sl 2 (ptR l)), (4, .sl 2 (ptR l)), (3, .ref 1 3 0 0), (1, .ref 0 4 0 0)])
    (fun _ => ⟨2, [(1, ⟨3, [[.int .i64 l.length, .sl 1 V, .sl 1 RR]]⟩), (0, ⟨4, [[.int .i64 A, .int .i64 F, .int .i64 T, .sl 2 (runR rs)]]⟩)]⟩)
    (fun i => i ≤ l.length) (fun i => l.length - i) 0 (Nat.zero_le _) ?_ ?_
  · (refine Weak.same ?_; simp [sameF, Fr.get])
  intro i hi
  refine wpS_go mixed ?_
  by_cases hil : i < l.length
  case neg =>
    have hd : ¬ ((i : Int) < (l.length : Int)) := by omega
    simp only [Int.reduceToNat, Int.reduceLT, Int.reduceLE, Int.reduceBEq, Int.reduceBNe, St0, argFr, ↓callZ, ↓midZ, ↓unZ, ↓thenW, ↓blockW, ↓opX, ↓opV, ↓pX, ↓pW, ↓putK, ↓putP, ↓atK, ↓normK, ↓postZ, ↓reduceIte, reduceIte, Nat.reduceEqDiff, Nat.reduceAdd, Nat.reduceBEq, Nat.reduceLT, Nat.reduceLeDiff, binW, bodyQ, ressW, resW, ne_eq, forall_const, reduceCtorEq, implies_true, sets, oneAll, setD, rels, fillE, fillD, List.replicate, rowsOf, forall_eq, Nat.reduceMul, ↓zD, zT, hd]
    exact .drop (by simp) (by simp [vw])
  have hd : ((i : Int) < (l.length : Int)) := by omega
  have hpi := hin _ (getD_mem (d := (0, 0)) hil)
  have hpg := ptR_get l hil
  have hxi := fun a => hrx a i hil
  have hvb := fun f => valK_bit (rs := rs) (l := l) (f := f) l.length i (by omega)
  rw [hat i (by omega)] at hpi hpg
  simp only [hat i (by omega : i < rs.length * T)] at hxi hvb
  simp only [decide_eq_true hil, Bool.true_and] at hvb
  have q1 : (IntKind.i64.wrap ((i / T : Nat) : Int)) = ((i / T : Nat) : Int) := wrap_i64 (by have h := Nat.div_le_self i T; generalize i / T = z at h ⊢; omega)
  have hT0 : ((T : Int) ≠ 0) := by omega
  simp only at hpi hpg
  have hmem := getD_mem (d := run0) hpi.1
  have hrg2 := runR_get rs hpi.1
  have hfl := ok.fac _ hmem
  have hll := ok.loc _ hmem
  have hrow := ok.row _ hmem _ (getD_mem (d := []) (show i % T < (rs.getD (i / T) run0).loc.length by omega))
  have hfa : ∀ f : Nat, f = f → facA rs (i / T, i % T) = (rs.getD (i / T) run0).fac.getD (i % T) 0 := fun _ _ => rfl
  have hlo : ∀ a, locA rs a (i / T, i % T) = ((rs.getD (i / T) run0).loc.getD (i % T) []).getD a 0 := fun _ => rfl
  simp only [hfa 0 rfl] at hvb
  simp only [hlo] at hxi
  generalize rs.getD (i / T) run0 = r at hrg2 hfl hll hrow hvb hxi
  have hfg := us_get r.fac (show i % T < r.fac.length by omega)
  have hlg := rl_get r.loc (show i % T < r.loc.length by omega)
  generalize r.fac.getD (i % T) 0 = fx at hfg hvb
  generalize r.loc.getD (i % T) [] = lx at hlg hrow hxi
  clear hfa hlo
  simp only [Int.reduceToNat, Int.reduceLT, Int.reduceLE, Int.reduceBEq, Int.reduceBNe, St0, argFr, ↓callZ, ↓midZ, ↓unZ, ↓thenW, ↓blockW, ↓opX, ↓opV, ↓pX, ↓pW, ↓putK, ↓putP, ↓atK, ↓normK, ↓postZ, ↓reduceIte, reduceIte, Nat.reduceEqDiff, Nat.reduceAdd, Nat.reduceBEq, Nat.reduceLT, Nat.reduceLeDiff, binW, bodyQ, ressW, resW, ne_eq, forall_const, reduceCtorEq, implies_true, sets, oneAll, setD, rels, fillE, fillD, List.replicate, rowsOf, forall_eq, Nat.reduceMul, ↓zD, zT, ptR_len, hd, hpg, tdivN, tmodN, q1, beq_self_eq_true]
  (repeat refine And.intro (by first | omega | exact ui_nonneg _ | exact Int.natCast_nonneg _ | rfl | exact rows_one' _ _ | exact us_one _ | (intro _ h; cases h; done)) ?_)
  refine wpS_loop (fun f : Nat => [(109, .int .i64 f), (108, .int .i64 F), (107, .sl 1 V), (85, .int .i64 i), (84, .int .i64 l.length), (83, .sl 2 (ptR l)), (7, .ref 2 2 0 0), (6, .int .i64 i), (4, .sl 2 (ptR l)), (3, .ref 1 3 0 0), (1, .ref 0 4 0 0)])
    (fun _ => ⟨3, [(2, ⟨2, [[.int .i64 (i / T : Nat), .int .i64 (i % T : Nat)]]⟩), (1, ⟨3, [[.int .i64 l.length, .sl 1 V, .sl 1 RR]]⟩), (0, ⟨4, [[.int .i64 A, .int .i64 F, .int .i64 T, .sl 2 (runR rs)]]⟩)]⟩)
    (fun f => f ≤ F) (fun f => F - f) 0 (Nat.zero_le _) ?_ ?_
  · (refine Weak.same ?_; simp [sameF, Fr.get, hVl])
  intro f hf
  refine wpS_go mixed ?_
  by_cases hff : f < F
  · have hd2 : ((f : Int) < (F : Int)) := by omega
    have hb := bit_ne (valK rs l f l.length) fx i f (hvb f)
    have hg := hvg f hff
    generalize valK rs l f l.length = vv at hb hg
    simp only [Int.reduceToNat, Int.reduceLT, Int.reduceLE, Int.reduceBEq, Int.reduceBNe, St0, argFr, ↓callZ, ↓midZ, ↓unZ, ↓thenW, ↓blockW, ↓opX, ↓opV, ↓pX, ↓pW, ↓putK, ↓putP, ↓atK, ↓normK, ↓postZ, ↓reduceIte, reduceIte, Nat.reduceEqDiff, Nat.reduceAdd, Nat.reduceBEq, Nat.reduceLT, Nat.reduceLeDiff, binW, bodyQ, ressW, resW, ne_eq, forall_const, reduceCtorEq, implies_true, sets, oneAll, setD, rels, fillE, fillD, List.replicate, rowsOf, forall_eq, Nat.reduceMul, ↓zD, zT, hd2, hVl, hg, runR_len, hrg2, RunA.row, us_len, hfl, hfg, hb]
    (repeat refine And.intro (by first | omega | exact ui_nonneg _ | exact Int.natCast_nonneg _ | rfl | exact rows_one' _ _ | exact us_one _ | (intro _ h; cases h; done)) ?_)
    refine ⟨f + 1, by omega, ?_, by omega⟩
    (refine Weak.same ?_; simp only [sameF, Fr.get, ↓reduceIte, reduceIte, Nat.reduceEqDiff, reduceCtorEq, D.int.injEq, D.bool.injEq, D.sl.injEq, and_true, true_and, and_self])
    exact wrap_i64 (by omega)
  have hd2 : ¬ ((f : Int) < (F : Int)) := by omega
  simp only [Int.reduceToNat, Int.reduceLT, Int.reduceLE, Int.reduceBEq, Int.reduceBNe, St0, argFr, ↓callZ, ↓midZ, ↓unZ, ↓thenW, ↓blockW, ↓opX, ↓opV, ↓pX, ↓pW, ↓putK, ↓putP, ↓atK, ↓normK, ↓postZ, ↓reduceIte, reduceIte, Nat.reduceEqDiff, Nat.reduceAdd, Nat.reduceBEq, Nat.reduceLT, Nat.reduceLeDiff, binW, bodyQ, ressW, resW, ne_eq, forall_const, reduceCtorEq, implies_true, sets, oneAll, setD, rels, fillE, fillD, List.replicate, rowsOf, forall_eq, Nat.reduceMul, ↓zD, zT, hd2, ptR_len]
  refine wpS_loop (fun k : Nat => [(136, .int .i64 k), (135, .int .i64 l.length), (134, .sl 2 (ptR l)), (85, .int .i64 i), (84, .int .i64 l.length), (83, .sl 2 (ptR l)), (7, .ref 2 2 0 0), (6, .int .i64 i), (4, .sl 2 (ptR l)), (3, .ref 1 3 0 0), (1, .ref 0 4 0 0)])
    (fun _ => ⟨3, [(2, ⟨2, [[.int .i64 (i / T : Nat), .int .i64 (i % T : Nat)]]⟩), (1, ⟨3, [[.int .i64 l.length, .sl 1 V, .sl 1 RR]]⟩), (0, ⟨4, [[.int .i64 A, .int .i64 F, .int .i64 T, .sl 2 (runR rs)]]⟩)]⟩)
    (fun k => k ≤ l.length) (fun k => l.length - k) 0 (Nat.zero_le _) ?_ ?_
  · (refine Weak.same ?_; simp [sameF, Fr.get])
  intro k hk
  refine wpS_go mixed ?_
  by_cases hkl : k < l.length
  case neg =>
    have hd3 : ¬ ((k : Int) < (l.length : Int)) := by omega
    simp only [Int.reduceToNat, Int.reduceLT, Int.reduceLE, Int.reduceBEq, Int.reduceBNe, St0, argFr, ↓callZ, ↓midZ, ↓unZ, ↓thenW, ↓blockW, ↓opX, ↓opV, ↓pX, ↓pW, ↓putK, ↓putP, ↓atK, ↓normK, ↓postZ, ↓reduceIte, reduceIte, Nat.reduceEqDiff, Nat.reduceAdd, Nat.reduceBEq, Nat.reduceLT, Nat.reduceLeDiff, binW, bodyQ, ressW, resW, ne_eq, forall_const, reduceCtorEq, implies_true, sets, oneAll, setD, rels, fillE, fillD, List.replicate, rowsOf, forall_eq, Nat.reduceMul, ↓zD, zT, hd3]
    (repeat refine And.intro (by first | omega | exact ui_nonneg _ | exact Int.natCast_nonneg _ | rfl | exact rows_one' _ _ | exact us_one _ | (intro _ h; cases h; done)) ?_)
    refine ⟨i + 1, by omega, ?_, by omega⟩
    (refine Weak.ren [] [1, 0] (by simp) (by simp) (by decide) ?_; simp only [stay1, vwL, vw, vwF, sw, St.get, St.look, Fr.get, ↓reduceIte, reduceIte, Nat.reduceEqDiff, Nat.reduceAdd, Nat.reduceBEq, Nat.reduceLT, Nat.reduceLeDiff, exists_eq_left', ne_eq, reduceCtorEq, zR])
    exact wrap_i64 (by omega)
  have hd3 : ((k : Int) < (l.length : Int)) := by omega
  have hpk := hin _ (getD_mem (d := (0, 0)) hkl)
  have hpgk := ptR_get l hkl
  have hkb := fun a x => relK_bit (rs := rs) (l := l) (a := a) (x := x) l.length k (by omega)
  rw [hat k (by omega)] at hpk hpgk
  simp only [hat k (by omega : k < rs.length * T), decide_eq_true hkl, Bool.true_and] at hkb
  have q2 : (IntKind.i64.wrap ((k / T : Nat) : Int)) = ((k / T : Nat) : Int) := wrap_i64 (by have h := Nat.div_le_self k T; generalize k / T = z at h ⊢; omega)
  simp only at hpk hpgk
  have hmemk := getD_mem (d := run0) hpk.1
  have hrgk := runR_get rs hpk.1
  have hllk := ok.loc _ hmemk
  have hrowk := ok.row _ hmemk _ (getD_mem (d := []) (show k % T < (rs.getD (k / T) run0).loc.length by omega))
  have hlok : ∀ a, locA rs a (k / T, k % T) = ((rs.getD (k / T) run0).loc.getD (k % T) []).getD a 0 := fun _ => rfl
  simp only [hlok] at hkb
  generalize rs.getD (k / T) run0 = rk at hrgk hllk hrowk hkb
  have hlgk := rl_get rk.loc (show k % T < rk.loc.length by omega)
  generalize rk.loc.getD (k % T) [] = ly at hlgk hrowk hkb
  clear hlok
  simp only [Int.reduceToNat, Int.reduceLT, Int.reduceLE, Int.reduceBEq, Int.reduceBNe, St0, argFr, ↓callZ, ↓midZ, ↓unZ, ↓thenW, ↓blockW, ↓opX, ↓opV, ↓pX, ↓pW, ↓putK, ↓putP, ↓atK, ↓normK, ↓postZ, ↓reduceIte, reduceIte, Nat.reduceEqDiff, Nat.reduceAdd, Nat.reduceBEq, Nat.reduceLT, Nat.reduceLeDiff, binW, bodyQ, ressW, resW, ne_eq, forall_const, reduceCtorEq, implies_true, sets, oneAll, setD, rels, fillE, fillD, List.replicate, rowsOf, forall_eq, Nat.reduceMul, ↓zD, zT, ptR_len, hd3, hpgk, tdivN, tmodN, q2, beq_self_eq_true, hRl]
  (repeat refine And.intro (by first | omega | exact ui_nonneg _ | exact Int.natCast_nonneg _ | rfl | exact rows_one' _ _ | exact us_one _ | (intro _ h; cases h; done)) ?_)
  refine wpS_loop (fun a : Nat => [(160, .int .i64 a), (159, .int .i64 A), (136, .int .i64 k), (135, .int .i64 l.length), (134, .sl 2 (ptR l)), (85, .int .i64 i), (84, .int .i64 l.length), (83, .sl 2 (ptR l)), (11, .ref 3 2 0 0), (10, .int .i64 k), (7, .ref 2 2 0 0), (6, .int .i64 i), (4, .sl 2 (ptR l)), (3, .ref 1 3 0 0), (1, .ref 0 4 0 0)])
    (fun _ => ⟨4, [(3, ⟨2, [[.int .i64 (k / T : Nat), .int .i64 (k % T : Nat)]]⟩), (2, ⟨2, [[.int .i64 (i / T : Nat), .int .i64 (i % T : Nat)]]⟩), (1, ⟨3, [[.int .i64 l.length, .sl 1 V, .sl 1 RR]]⟩), (0, ⟨4, [[.int .i64 A, .int .i64 F, .int .i64 T, .sl 2 (runR rs)]]⟩)]⟩)
    (fun a => a ≤ A) (fun a => A - a) 0 (Nat.zero_le _) ?_ ?_
  · (refine Weak.same ?_; simp [sameF, Fr.get])
  intro a ha
  refine wpS_go mixed ?_
  by_cases haa : a < A
  case neg =>
    have hd4 : ¬ ((a : Int) < (A : Int)) := by omega
    simp only [Int.reduceToNat, Int.reduceLT, Int.reduceLE, Int.reduceBEq, Int.reduceBNe, St0, argFr, ↓callZ, ↓midZ, ↓unZ, ↓thenW, ↓blockW, ↓opX, ↓opV, ↓pX, ↓pW, ↓putK, ↓putP, ↓atK, ↓normK, ↓postZ, ↓reduceIte, reduceIte, Nat.reduceEqDiff, Nat.reduceAdd, Nat.reduceBEq, Nat.reduceLT, Nat.reduceLeDiff, binW, bodyQ, ressW, resW, ne_eq, forall_const, reduceCtorEq, implies_true, sets, oneAll, setD, rels, fillE, fillD, List.replicate, rowsOf, forall_eq, Nat.reduceMul, ↓zD, zT, hd4]
    (repeat refine And.intro (by first | omega | exact ui_nonneg _ | exact Int.natCast_nonneg _ | rfl | exact rows_one' _ _ | exact us_one _ | (intro _ h; cases h; done)) ?_)
    refine ⟨k + 1, by omega, ?_, by omega⟩
    (refine Weak.ren [] [2, 1, 0] (by simp) (by simp) (by decide) ?_; simp only [stay1, vwL, vw, vwF, sw, St.get, St.look, Fr.get, ↓reduceIte, reduceIte, Nat.reduceEqDiff, Nat.reduceAdd, Nat.reduceBEq, Nat.reduceLT, Nat.reduceLeDiff, exists_eq_left', ne_eq, reduceCtorEq, zR])
    exact wrap_i64 (by omega)
  have hd4 : ((a : Int) < (A : Int)) := by omega
  have hga := hrg a haa
  have hgx := hxi a
  have hlx := rows_get .i64 lx (show a < lx.length by omega)
  have hly := rows_get .i64 ly (show a < ly.length by omega)
  have hbk := hkb a (lx.getD a 0)
  have hra := hrr a
  generalize relK rs l a (lx.getD a 0) l.length = w at hgx hbk
  generalize lx.getD a 0 = x at hlx hbk
  generalize ly.getD a 0 = y at hly hbk
  have hral : (us (relR rs l a)).length = l.length := by rw [us_len, hra]
  generalize us (relR rs l a) = ra at hga hgx hral
  have eb : (x == y) = w.getLsbD k := by
    rw [hbk, Bool.eq_iff_iff, beq_iff_eq, decide_eq_true_iff]; exact ⟨fun h => h.symm, fun h => h.symm⟩
  simp only [Int.reduceToNat, Int.reduceLT, Int.reduceLE, Int.reduceBEq, Int.reduceBNe, St0, argFr, ↓callZ, ↓midZ, ↓unZ, ↓thenW, ↓blockW, ↓opX, ↓opV, ↓pX, ↓pW, ↓putK, ↓putP, ↓atK, ↓normK, ↓postZ, ↓reduceIte, reduceIte, Nat.reduceEqDiff, Nat.reduceAdd, Nat.reduceBEq, Nat.reduceLT, Nat.reduceLeDiff, binW, bodyQ, ressW, resW, ne_eq, forall_const, reduceCtorEq, implies_true, sets, oneAll, setD, rels, fillE, fillD, List.replicate, rowsOf, forall_eq, Nat.reduceMul, ↓zD, zT, hd4, runR_len, hrg2, hrgk, RunA.row, rl_len, hll, hllk, hlg, hlgk, rows_len, hlx, hly, hRl, hga, hral, hgx, eb, bit_and1_eq]
  (repeat refine And.intro (by first | omega | exact ui_nonneg _ | exact Int.natCast_nonneg _ | rfl | exact rows_one' _ _ | exact us_one _ | (intro _ h; cases h; done)) ?_)
  refine ⟨a + 1, by omega, ?_, by omega⟩
  (refine Weak.same ?_; simp only [sameF, Fr.get, ↓reduceIte, reduceIte, Nat.reduceEqDiff, reduceCtorEq, D.int.injEq, D.bool.injEq, D.sl.injEq, and_true, true_and, and_self])
  exact wrap_i64 (by omega)
end Go.Pd
