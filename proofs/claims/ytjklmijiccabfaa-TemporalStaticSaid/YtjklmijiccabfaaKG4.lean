/- Part G4. -/
import Derived.Test.YtjklmijiccabfaaKGR
set_option linter.unusedSectionVars false
set_option linter.unusedVariables false
set_option linter.unusedSimpArgs false
set_option linter.defProp false
set_option maxRecDepth 20000
set_option maxHeartbeats 1000000
namespace Go.Pd
open Go Go.Proofs
open Int renaming reduceToNat → ZA, reduceLT → ZB, reduceLE → ZC, reduceBEq → ZD, reduceBNe → ZE
open Nat renaming reduceEqDiff → ZF, reduceAdd → ZG, reduceBEq → ZH, reduceLT → ZI, reduceLeDiff → ZJ, reduceMul → ZK
open Rs Fm
namespace Fm
def nextA (f : List Nd) : List Nd := buildA ⟨18, 0, 0, 0, 0, 0⟩ [f]
def untilA (f g : List Nd) : List Nd := buildA ⟨19, 0, 0, 0, 0, 0⟩ [f, g]
def prevA (f : List Nd) : List Nd := buildA ⟨20, 0, 0, 0, 0, 0⟩ [f]
def sinceA (f g : List Nd) : List Nd := buildA ⟨21, 0, 0, 0, 0, 0⟩ [f, g]
def formE (f : List Nd) : List Nd × Int := if f.length = 0 then ([], 3) else (f, 0)
def someA (f : List Nd) : List Nd × Int := formE (untilA trueA f)
def alwaysA (f : List Nd) : List Nd × Int := formE (notA (untilA trueA (notA f)))
end Fm
theorem Next24 (f : List Nd) : Runs Try.prog 24 [.sl 6 (ndR f)] (.sl 6 (ndR (nextA f))) := by
 refine CallT.go_fn mixed Try.func24 k24 (by simp) fun hf => ?_
 simp only [ZA, ZB, ZC, ZD, ZE, ↓reduceIte, reduceIte, ZF, ZG, ZH, ZI, ZJ, ne_eq, forall_const, reduceCtorEq, implies_true, forall_eq, ZK, ↓zU, ↓zD, zV, zT]
 (repeat refine sd ?_)
 refine .go (CallT.of_runs (build58 ⟨18, 0, 0, 0, 0, 0⟩ [f] (by simp)) (by simp [D.isPureL, D.isPure, Nd.row, nl])) ?_
 simp only [ZA, ZB, ZC, ZD, ZE, ↓reduceIte, reduceIte, ZF, ZG, ZH, ZI, ZJ, ne_eq, forall_const, reduceCtorEq, implies_true, forall_eq, ZK, ↓zU, ↓zD, zV, zT]
 exact .same
theorem Prev26 (f : List Nd) : Runs Try.prog 26 [.sl 6 (ndR f)] (.sl 6 (ndR (prevA f))) := by
 refine CallT.go_fn mixed Try.func26 k26 (by simp) fun hf => ?_
 simp only [ZA, ZB, ZC, ZD, ZE, ↓reduceIte, reduceIte, ZF, ZG, ZH, ZI, ZJ, ne_eq, forall_const, reduceCtorEq, implies_true, forall_eq, ZK, ↓zU, ↓zD, zV, zT]
 (repeat refine sd ?_)
 refine .go (CallT.of_runs (build58 ⟨20, 0, 0, 0, 0, 0⟩ [f] (by simp)) (by simp [D.isPureL, D.isPure, Nd.row, nl])) ?_
 simp only [ZA, ZB, ZC, ZD, ZE, ↓reduceIte, reduceIte, ZF, ZG, ZH, ZI, ZJ, ne_eq, forall_const, reduceCtorEq, implies_true, forall_eq, ZK, ↓zU, ↓zD, zV, zT]
 exact .same
theorem Since27 (f g : List Nd) : Runs Try.prog 27 [.sl 6 (ndR f), .sl 6 (ndR g)] (.sl 6 (ndR (sinceA f g))) := by
 refine CallT.go_fn mixed Try.func27 k27 (by simp) fun hf => ?_
 simp only [ZA, ZB, ZC, ZD, ZE, ↓reduceIte, reduceIte, ZF, ZG, ZH, ZI, ZJ, ne_eq, forall_const, reduceCtorEq, implies_true, forall_eq, ZK, ↓zU, ↓zD, zV, zT]
 (repeat refine sd ?_)
 refine .go (CallT.of_runs (build58 ⟨21, 0, 0, 0, 0, 0⟩ [f, g] (by simp)) (by simp [D.isPureL, D.isPure, Nd.row, nl])) ?_
 simp only [ZA, ZB, ZC, ZD, ZE, ↓reduceIte, reduceIte, ZF, ZG, ZH, ZI, ZJ, ne_eq, forall_const, reduceCtorEq, implies_true, forall_eq, ZK, ↓zU, ↓zD, zV, zT]
 exact .same
theorem Until29 (f g : List Nd) : Runs Try.prog 29 [.sl 6 (ndR f), .sl 6 (ndR g)] (.sl 6 (ndR (untilA f g))) := by
 refine CallT.go_fn mixed Try.func29 k29 (by simp) fun hf => ?_
 simp only [ZA, ZB, ZC, ZD, ZE, ↓reduceIte, reduceIte, ZF, ZG, ZH, ZI, ZJ, ne_eq, forall_const, reduceCtorEq, implies_true, forall_eq, ZK, ↓zU, ↓zD, zV, zT]
 (repeat refine sd ?_)
 refine .go (CallT.of_runs (build58 ⟨19, 0, 0, 0, 0, 0⟩ [f, g] (by simp)) (by simp [D.isPureL, D.isPure, Nd.row, nl])) ?_
 simp only [ZA, ZB, ZC, ZD, ZE, ↓reduceIte, reduceIte, ZF, ZG, ZH, ZI, ZJ, ne_eq, forall_const, reduceCtorEq, implies_true, forall_eq, ZK, ↓zU, ↓zD, zV, zT]
 exact .same
theorem Sometime7 (f : List Nd) : Runs Try.prog 7 [.sl 6 (ndR f)] (.tup [.sl 6 (ndR (someA f).1), .int .i64 (someA f).2]) := by
 have h := Until29 trueA f
 unfold someA
 generalize untilA trueA f = u at h
 refine CallT.go_fn mixed Try.func7 k7 (by simp) fun hf => ?_
 simp only [ZA, ZB, ZC, ZD, ZE, ↓reduceIte, reduceIte, ZF, ZG, ZH, ZI, ZJ, ne_eq, forall_const, reduceCtorEq, implies_true, forall_eq, ZK, ↓zU, ↓zD, zV, zT]
 (repeat refine sd ?_)
 refine .go (CallT.of_runs True81 rfl) ?_
 simp only [ZA, ZB, ZC, ZD, ZE, ↓reduceIte, reduceIte, ZF, ZG, ZH, ZI, ZJ, ne_eq, forall_const, reduceCtorEq, implies_true, forall_eq, ZK, ↓zU, ↓zD, zV, zT]
 refine .go (CallT.of_runs h (by simp [D.isPureL, D.isPure])) ?_
 by_cases e : u.length = 0
 ·have e' : ((u.length : Int) == 0) = true := by rw [e]; rfl
  rw [show formE u = ([], 3) from if_pos e]
  simp only [ZA, ZB, ZC, ZD, ZE, ↓reduceIte, reduceIte, ZF, ZG, ZH, ZI, ZJ, ne_eq, forall_const, reduceCtorEq, implies_true, forall_eq, ZK, ↓zU, ↓zD, zV, zT, ndR_len, e']
  exact .drop (by simp) (by simp [vw, vwL, ndR])
 ·have e' : ((u.length : Int) == 0) = false := by rw [beq_eq_false_iff_ne]; omega
  rw [show formE u = (u, 0) from if_neg e]
  simp only [ZA, ZB, ZC, ZD, ZE, ↓reduceIte, reduceIte, ZF, ZG, ZH, ZI, ZJ, ne_eq, forall_const, reduceCtorEq, implies_true, forall_eq, ZK, ↓zU, ↓zD, zV, zT, ndR_len, e']
  exact .drop (by simp) (by simp [vw, vwL])
theorem Always9 (f : List Nd) : Runs Try.prog 9 [.sl 6 (ndR f)] (.tup [.sl 6 (ndR (alwaysA f).1), .int .i64 (alwaysA f).2]) := by
 have h0 := Not22 f
 unfold alwaysA
 generalize notA f = n at h0
 have h := Until29 trueA n
 generalize untilA trueA n = v at h
 have h2 := Not22 v
 generalize notA v = u at h2
 refine CallT.go_fn mixed Try.func9 k9 (by simp) fun hf => ?_
 simp only [ZA, ZB, ZC, ZD, ZE, ↓reduceIte, reduceIte, ZF, ZG, ZH, ZI, ZJ, ne_eq, forall_const, reduceCtorEq, implies_true, forall_eq, ZK, ↓zU, ↓zD, zV, zT]
 (repeat refine sd ?_)
 refine .go (CallT.of_runs True81 rfl) ?_
 simp only [ZA, ZB, ZC, ZD, ZE, ↓reduceIte, reduceIte, ZF, ZG, ZH, ZI, ZJ, ne_eq, forall_const, reduceCtorEq, implies_true, forall_eq, ZK, ↓zU, ↓zD, zV, zT]
 refine .go (CallT.of_runs h0 (by simp [D.isPureL, D.isPure])) ?_
 simp only [ZA, ZB, ZC, ZD, ZE, ↓reduceIte, reduceIte, ZF, ZG, ZH, ZI, ZJ, ne_eq, forall_const, reduceCtorEq, implies_true, forall_eq, ZK, ↓zU, ↓zD, zV, zT]
 refine .go (CallT.of_runs h (by simp [D.isPureL, D.isPure])) ?_
 simp only [ZA, ZB, ZC, ZD, ZE, ↓reduceIte, reduceIte, ZF, ZG, ZH, ZI, ZJ, ne_eq, forall_const, reduceCtorEq, implies_true, forall_eq, ZK, ↓zU, ↓zD, zV, zT]
 refine .go (CallT.of_runs h2 (by simp [D.isPureL, D.isPure])) ?_
 by_cases e : u.length = 0
 ·have e' : ((u.length : Int) == 0) = true := by rw [e]; rfl
  rw [show formE u = ([], 3) from if_pos e]
  simp only [ZA, ZB, ZC, ZD, ZE, ↓reduceIte, reduceIte, ZF, ZG, ZH, ZI, ZJ, ne_eq, forall_const, reduceCtorEq, implies_true, forall_eq, ZK, ↓zU, ↓zD, zV, zT, ndR_len, e']
  exact .drop (by simp) (by simp [vw, vwL, ndR])
 ·have e' : ((u.length : Int) == 0) = false := by rw [beq_eq_false_iff_ne]; omega
  rw [show formE u = (u, 0) from if_neg e]
  simp only [ZA, ZB, ZC, ZD, ZE, ↓reduceIte, reduceIte, ZF, ZG, ZH, ZI, ZJ, ne_eq, forall_const, reduceCtorEq, implies_true, forall_eq, ZK, ↓zU, ↓zD, zV, zT, ndR_len, e']
  exact .drop (by simp) (by simp [vw, vwL])
end Go.Pd
