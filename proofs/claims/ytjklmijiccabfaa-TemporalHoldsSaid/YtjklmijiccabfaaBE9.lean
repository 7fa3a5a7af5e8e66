/- Part E9. -/
import Derived.Test.YtjklmijiccabfaaBE8
set_option linter.unusedSectionVars false
set_option linter.unusedVariables false
set_option linter.unusedSimpArgs false
set_option linter.defProp false
set_option maxRecDepth 20000
set_option maxHeartbeats 1000000
namespace Go.Pd
open Go Go.Proofs
open Int renaming reduceToNat → ZA, reduceLT → ZB, reduceLE → ZC, reduceBEq → ZD, reduceBNe → ZE
open Nat renaming reduceEqDiff → ZF, reduceAdd → ZG, reduceBEq → ZH, reduceLT → ZI, reduceLeDiff → ZJ, reduceMul → ZK
open Rs Fm Ru Te
theorem holds4 (s : SysA) (f : List Nd) : Runs Try.prog 4 [s.d, .sl 6 (ndR f)] (.bool true) := by
  have hD : s.d = .agg [.int .i64 s.ag, .int .i64 s.fa, .int .i64 s.ln, .sl 2 (runR s.rs)] := rfl
  have h0 := Few12 s
  have h1 := Holds13 s f
  have h2 := refHolds14 s f
  have h3 := Valid15 s f
  have h4 := refValid16 s f
  rw [holdsL_eq] at h1 h2
  have h5 := refSame17 _ (holdsL_small s f)
  generalize holdsL s f = l at h1 h2 h5
  generalize reqE s f = e at h1 h2 h3 h4
  generalize validA s f = b at h3 h4
  rw [hD] at h0 h1 h2 h3 h4 ⊢
  refine CallT.go_fn mixed Try.func4 k4 (by simp) fun hf => ?_
  cases hf : fewA s with
  | false =>
    rw [hf] at h0
    simp only [ZA, ZB, ZC, ZD, ZE, ↓reduceIte, reduceIte, ZF, ZG, ZH, ZI, ZJ, ne_eq, forall_const, reduceCtorEq, implies_true, forall_eq, ZK, ↓zU, ↓zD, zV, zT]
    (repeat refine sd ?_)
    refine .go (CallT.of_runs h0 rfl) ?_
    simp only [ZA, ZB, ZC, ZD, ZE, ↓reduceIte, reduceIte, ZF, ZG, ZH, ZI, ZJ, ne_eq, forall_const, reduceCtorEq, implies_true, forall_eq, ZK, ↓zU, ↓zD, zV, zT]
    refine .go (CallT.of_runs awake6 rfl) ?_
    simp only [ZA, ZB, ZC, ZD, ZE, ↓reduceIte, reduceIte, ZF, ZG, ZH, ZI, ZJ, ne_eq, forall_const, reduceCtorEq, implies_true, forall_eq, ZK, ↓zU, ↓zD, zV, zT]
    exact .drop (by simp) (by simp [vw])
  | true =>
    rw [hf] at h0
    by_cases h40 : (40 : Int) < (f.length : Int)
    · simp only [ZA, ZB, ZC, ZD, ZE, ↓reduceIte, reduceIte, ZF, ZG, ZH, ZI, ZJ, ne_eq, forall_const, reduceCtorEq, implies_true, forall_eq, ZK, ↓zU, ↓zD, zV, zT]
      (repeat refine sd ?_)
      refine .go (CallT.of_runs h0 rfl) ?_
      simp only [ZA, ZB, ZC, ZD, ZE, ↓reduceIte, reduceIte, ZF, ZG, ZH, ZI, ZJ, ne_eq, forall_const, reduceCtorEq, implies_true, forall_eq, ZK, ↓zU, ↓zD, zV, zT, ndR_len, h40]
      refine .go (CallT.of_runs awake6 rfl) ?_
      simp only [ZA, ZB, ZC, ZD, ZE, ↓reduceIte, reduceIte, ZF, ZG, ZH, ZI, ZJ, ne_eq, forall_const, reduceCtorEq, implies_true, forall_eq, ZK, ↓zU, ↓zD, zV, zT]
      exact .drop (by simp) (by simp [vw])
    simp only [ZA, ZB, ZC, ZD, ZE, ↓reduceIte, reduceIte, ZF, ZG, ZH, ZI, ZJ, ne_eq, forall_const, reduceCtorEq, implies_true, forall_eq, ZK, ↓zU, ↓zD, zV, zT]
    (repeat refine sd ?_)
    refine .go (CallT.of_runs h0 rfl) ?_
    simp only [ZA, ZB, ZC, ZD, ZE, ↓reduceIte, reduceIte, ZF, ZG, ZH, ZI, ZJ, ne_eq, forall_const, reduceCtorEq, implies_true, forall_eq, ZK, ↓zU, ↓zD, zV, zT, ndR_len, h40]
    (repeat refine sd ?_)
    refine .go (CallT.of_runs h1 (by simp [D.isPureL, D.isPure])) ?_
    simp only [ZA, ZB, ZC, ZD, ZE, ↓reduceIte, reduceIte, ZF, ZG, ZH, ZI, ZJ, ne_eq, forall_const, reduceCtorEq, implies_true, forall_eq, ZK, ↓zU, ↓zD, zV, zT]
    (repeat refine sd ?_)
    refine .go (CallT.of_runs h2 (by simp [D.isPureL, D.isPure])) ?_
    simp only [ZA, ZB, ZC, ZD, ZE, ↓reduceIte, reduceIte, ZF, ZG, ZH, ZI, ZJ, ne_eq, forall_const, reduceCtorEq, implies_true, forall_eq, ZK, ↓zU, ↓zD, zV, zT]
    (repeat refine sd ?_)
    refine .go (CallT.of_runs h3 (by simp [D.isPureL, D.isPure])) ?_
    simp only [ZA, ZB, ZC, ZD, ZE, ↓reduceIte, reduceIte, ZF, ZG, ZH, ZI, ZJ, ne_eq, forall_const, reduceCtorEq, implies_true, forall_eq, ZK, ↓zU, ↓zD, zV, zT]
    (repeat refine sd ?_)
    refine .go (CallT.of_runs h4 (by simp [D.isPureL, D.isPure])) ?_
    simp only [ZA, ZB, ZC, ZD, ZE, ↓reduceIte, reduceIte, ZF, ZG, ZH, ZI, ZJ, ne_eq, forall_const, reduceCtorEq, implies_true, forall_eq, ZK, ↓zU, ↓zD, zV, zT]
    refine .go (CallT.of_runs h5 (by simp [D.isPureL, D.isPure])) ?_
    simp only [ZA, ZB, ZC, ZD, ZE, ↓reduceIte, reduceIte, ZF, ZG, ZH, ZI, ZJ, ne_eq, forall_const, reduceCtorEq, implies_true, forall_eq, ZK, ↓zU, ↓zD, zV, zT]
    refine .go (CallT.of_runs awake6 rfl) ?_
    simp only [ZA, ZB, ZC, ZD, ZE, ↓reduceIte, reduceIte, ZF, ZG, ZH, ZI, ZJ, ne_eq, forall_const, reduceCtorEq, implies_true, forall_eq, ZK, ↓zU, ↓zD, zV, zT]
    exact .drop (by simp) (by simp [vw])
end Go.Pd
