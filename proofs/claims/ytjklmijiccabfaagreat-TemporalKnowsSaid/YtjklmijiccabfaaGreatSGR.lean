/- Part GR. -/
import Derived.Test.YtjklmijiccabfaaGreatSG1
set_option linter.unusedSectionVars false
set_option linter.unusedVariables false
set_option linter.unusedSimpArgs false
set_option linter.defProp false
set_option maxRecDepth 20000
set_option maxHeartbeats 1000000
namespace Go.Pd
open Go Go.Proofs
open Int renaming reduceToNat → ZA, reduceLT → ZB, reduceLE → ZC, reduceBEq → ZD, reduceBNe → ZE
open Nat renaming reduceEqDiff → ZF, reduceAdd → ZG, reduceBEq → ZH, reduceLT → ZI, reduceLeDiff → ZJ, reduceMul → ZK
section
open Rs Fm
namespace Fm
def notA (f : List Nd) : List Nd := buildA ⟨4, 0, 0, 0, 0, 0⟩ [f]
def andA (f g : List Nd) : List Nd := buildA ⟨5, 0, 0, 0, 0, 0⟩ [f, g]
def orA (f g : List Nd) : List Nd := buildA ⟨6, 0, 0, 0, 0, 0⟩ [f, g]
def impA (f g : List Nd) : List Nd := buildA ⟨7, 0, 0, 0, 0, 0⟩ [f, g]
def knowA (a : Int) (f : List Nd) : List Nd := buildA ⟨9, a, 0, 0, 0, 0⟩ [f]
def factA (i : Int) : List Nd := buildA ⟨3, i, 0, 0, 0, 0⟩ []
def trueA : List Nd := buildA ⟨1, 0, 0, 0, 0, 0⟩ []
end Fm
theorem build58n (x : Nd) : Runs Tryz.prog 32 [.agg x.row, .nils] (.sl 6 (ndR (buildA x []))) :=
 CallT.give (σ := St0) (objs' := []) (fun _ => False) (build58 x [] (by simp)) ⟨.pure (by simp [D.isPure, D.isPureL, Nd.row]), .nil 1, trivial⟩ (fun k o hk => by cases hk)
theorem Not22 (f : List Nd) : Runs Tryz.prog 12 [.sl 6 (ndR f)] (.sl 6 (ndR (notA f))) := by
 refine CallT.go_fn mixed Tryz.func12 k12 (by simp) fun hf => ?_
 simp only [ZA, ZB, ZC, ZD, ZE, ↓reduceIte, reduceIte, ZF, ZG, ZH, ZI, ZJ, ne_eq, forall_const, reduceCtorEq, implies_true, forall_eq, ZK, ↓zU, ↓zD, zV, zT]
 (repeat refine sd ?_)
 refine .go (CallT.of_runs (build58 ⟨4, 0, 0, 0, 0, 0⟩ [f] (by simp)) (by simp [D.isPureL, D.isPure, Nd.row, nl])) ?_
 simp only [ZA, ZB, ZC, ZD, ZE, ↓reduceIte, reduceIte, ZF, ZG, ZH, ZI, ZJ, ne_eq, forall_const, reduceCtorEq, implies_true, forall_eq, ZK, ↓zU, ↓zD, zV, zT]
 exact .same
theorem Know33 (a : Int) (f : List Nd) : Runs Tryz.prog 9 [.int .i64 a, .sl 6 (ndR f)] (.sl 6 (ndR (knowA a f))) := by
 refine CallT.go_fn mixed Tryz.func9 k9 (by simp) fun hf => ?_
 simp only [ZA, ZB, ZC, ZD, ZE, ↓reduceIte, reduceIte, ZF, ZG, ZH, ZI, ZJ, ne_eq, forall_const, reduceCtorEq, implies_true, forall_eq, ZK, ↓zU, ↓zD, zV, zT]
 (repeat refine sd ?_)
 refine .go (CallT.of_runs (build58 ⟨9, a, 0, 0, 0, 0⟩ [f] (by simp)) (by simp [D.isPureL, D.isPure, Nd.row, nl])) ?_
 simp only [ZA, ZB, ZC, ZD, ZE, ↓reduceIte, reduceIte, ZF, ZG, ZH, ZI, ZJ, ne_eq, forall_const, reduceCtorEq, implies_true, forall_eq, ZK, ↓zU, ↓zD, zV, zT]
 exact .same
theorem Fact32 (i : Int) : Runs Tryz.prog 30 [.int .i64 i] (.sl 6 (ndR (factA i))) := by
 refine CallT.go_fn mixed Tryz.func30 k30 (by simp) fun hf => ?_
 simp only [ZA, ZB, ZC, ZD, ZE, ↓reduceIte, reduceIte, ZF, ZG, ZH, ZI, ZJ, ne_eq, forall_const, reduceCtorEq, implies_true, forall_eq, ZK, ↓zU, ↓zD, zV, zT]
 (repeat refine sd ?_)
 refine .go (CallT.of_runs (build58n ⟨3, i, 0, 0, 0, 0⟩) (by simp [D.isPureL, D.isPure, Nd.row])) ?_
 simp only [ZA, ZB, ZC, ZD, ZE, ↓reduceIte, reduceIte, ZF, ZG, ZH, ZI, ZJ, ne_eq, forall_const, reduceCtorEq, implies_true, forall_eq, ZK, ↓zU, ↓zD, zV, zT]
 exact .same
theorem True81 : Runs Tryz.prog 15 [] (.sl 6 (ndR trueA)) := by
 refine CallT.go_fn mixed Tryz.func15 k15 (by simp) fun hf => ?_
 simp only [ZA, ZB, ZC, ZD, ZE, ↓reduceIte, reduceIte, ZF, ZG, ZH, ZI, ZJ, ne_eq, forall_const, reduceCtorEq, implies_true, forall_eq, ZK, ↓zU, ↓zD, zV, zT]
 (repeat refine sd ?_)
 refine .go (CallT.of_runs (build58n ⟨1, 0, 0, 0, 0, 0⟩) (by simp [D.isPureL, D.isPure, Nd.row])) ?_
 simp only [ZA, ZB, ZC, ZD, ZE, ↓reduceIte, reduceIte, ZF, ZG, ZH, ZI, ZJ, ne_eq, forall_const, reduceCtorEq, implies_true, forall_eq, ZK, ↓zU, ↓zD, zV, zT]
 exact .same
end
section
open Rs Fm
namespace Fm
theorem intsOf6 (a b c d e f : Int) : intsOf [.int .i64 a, .int .i64 b, .int .i64 c, .int .i64 d, .int .i64 e, .int .i64 f] = some [a, b, c, d, e, f] := rfl
end Fm
end
end Go.Pd
