/- Part GR. -/
import Derived.Test.YtjklmijiccabfaaKG1
set_option linter.unusedSectionVars false
set_option linter.unusedVariables false
set_option linter.unusedSimpArgs false
set_option linter.defProp false
set_option maxRecDepth 20000
set_option maxHeartbeats 1000000
namespace Go.Pd
open Go Go.Proofs
open Int renaming reduceToNat → ZA, reduceLT → ZB, reduceLE → ZC, reduceBEq → ZD, reduceBNe → ZE
open Nat renaming reduceEqDiff → ZF, reduceAdd → ZG, reduceBEq → ZH, reduceLT → ZI, reduceLeDiff → ZJ, reduceMul → ZK
section
open Rs Fm
namespace Fm
def notA (f : List Nd) : List Nd := buildA ⟨4, 0, 0, 0, 0, 0⟩ [f]
def knowA (a : Int) (f : List Nd) : List Nd := buildA ⟨9, a, 0, 0, 0, 0⟩ [f]
def factA (i : Int) : List Nd := buildA ⟨3, i, 0, 0, 0, 0⟩ []
def trueA : List Nd := buildA ⟨1, 0, 0, 0, 0, 0⟩ []
end Fm
theorem build58n (x : Nd) : Runs Try.prog 50 [.agg x.row, .nils] (.sl 6 (ndR (buildA x []))) :=
 CallT.give (σ := St0) (objs' := []) (fun _ => False) (build58 x [] (by simp)) ⟨.pure (by simp [D.isPure, D.isPureL, Nd.row]), .nil 1, trivial⟩ (fun k o hk => by cases hk)
theorem Not22 (f : List Nd) : Runs Try.prog 22 [.sl 6 (ndR f)] (.sl 6 (ndR (notA f))) := by
 refine CallT.go_fn mixed Try.func22 k22 (by simp) fun hf => ?_
 simp only [ZA, ZB, ZC, ZD, ZE, ↓reduceIte, reduceIte, ZF, ZG, ZH, ZI, ZJ, ne_eq, forall_const, reduceCtorEq, implies_true, forall_eq, ZK, ↓zU, ↓zD, zV, zT]
 (repeat refine sd ?_)
 refine .go (CallT.of_runs (build58 ⟨4, 0, 0, 0, 0, 0⟩ [f] (by simp)) (by simp [D.isPureL, D.isPure, Nd.row, nl])) ?_
 simp only [ZA, ZB, ZC, ZD, ZE, ↓reduceIte, reduceIte, ZF, ZG, ZH, ZI, ZJ, ne_eq, forall_const, reduceCtorEq, implies_true, forall_eq, ZK, ↓zU, ↓zD, zV, zT]
 exact .same
theorem Know33 (a : Int) (f : List Nd) : Runs Try.prog 25 [.int .i64 a, .sl 6 (ndR f)] (.sl 6 (ndR (knowA a f))) := by
 refine CallT.go_fn mixed Try.func25 k25 (by simp) fun hf => ?_
 simp only [ZA, ZB, ZC, ZD, ZE, ↓reduceIte, reduceIte, ZF, ZG, ZH, ZI, ZJ, ne_eq, forall_const, reduceCtorEq, implies_true, forall_eq, ZK, ↓zU, ↓zD, zV, zT]
 (repeat refine sd ?_)
 refine .go (CallT.of_runs (build58 ⟨9, a, 0, 0, 0, 0⟩ [f] (by simp)) (by simp [D.isPureL, D.isPure, Nd.row, nl])) ?_
 simp only [ZA, ZB, ZC, ZD, ZE, ↓reduceIte, reduceIte, ZF, ZG, ZH, ZI, ZJ, ne_eq, forall_const, reduceCtorEq, implies_true, forall_eq, ZK, ↓zU, ↓zD, zV, zT]
 exact .same
theorem Fact32 (i : Int) : Runs Try.prog 21 [.int .i64 i] (.sl 6 (ndR (factA i))) := by
 refine CallT.go_fn mixed Try.func21 k21 (by simp) fun hf => ?_
 simp only [ZA, ZB, ZC, ZD, ZE, ↓reduceIte, reduceIte, ZF, ZG, ZH, ZI, ZJ, ne_eq, forall_const, reduceCtorEq, implies_true, forall_eq, ZK, ↓zU, ↓zD, zV, zT]
 (repeat refine sd ?_)
 refine .go (CallT.of_runs (build58n ⟨3, i, 0, 0, 0, 0⟩) (by simp [D.isPureL, D.isPure, Nd.row])) ?_
 simp only [ZA, ZB, ZC, ZD, ZE, ↓reduceIte, reduceIte, ZF, ZG, ZH, ZI, ZJ, ne_eq, forall_const, reduceCtorEq, implies_true, forall_eq, ZK, ↓zU, ↓zD, zV, zT]
 exact .same
theorem True81 : Runs Try.prog 28 [] (.sl 6 (ndR trueA)) := by
 refine CallT.go_fn mixed Try.func28 k28 (by simp) fun hf => ?_
 simp only [ZA, ZB, ZC, ZD, ZE, ↓reduceIte, reduceIte, ZF, ZG, ZH, ZI, ZJ, ne_eq, forall_const, reduceCtorEq, implies_true, forall_eq, ZK, ↓zU, ↓zD, zV, zT]
 (repeat refine sd ?_)
 refine .go (CallT.of_runs (build58n ⟨1, 0, 0, 0, 0, 0⟩) (by simp [D.isPureL, D.isPure, Nd.row])) ?_
 simp only [ZA, ZB, ZC, ZD, ZE, ↓reduceIte, reduceIte, ZF, ZG, ZH, ZI, ZJ, ne_eq, forall_const, reduceCtorEq, implies_true, forall_eq, ZK, ↓zU, ↓zD, zV, zT]
 exact .same
end
section
open Rs Fm
namespace Fm
end Fm
end
end Go.Pd
