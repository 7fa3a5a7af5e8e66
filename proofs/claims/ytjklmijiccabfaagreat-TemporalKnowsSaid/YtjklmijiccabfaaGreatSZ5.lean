/- Part Z5. -/
import Derived.Test.YtjklmijiccabfaaGreatSZ3
import Derived.Test.YtjklmijiccabfaaGreatSY1
set_option linter.unusedSectionVars false
set_option linter.unusedVariables false
set_option linter.unusedSimpArgs false
set_option linter.defProp false
set_option maxRecDepth 20000
set_option maxHeartbeats 1000000
namespace Go.Pd
open Go Go.Proofs
open Int renaming reduceToNat → ZA, reduceLT → ZB, reduceLE → ZC, reduceBEq → ZD, reduceBNe → ZE
open Nat renaming reduceEqDiff → ZF, reduceAdd → ZG, reduceBEq → ZH, reduceLT → ZI, reduceLeDiff → ZJ, reduceMul → ZK
open Rs Fm Ru Te
theorem knows3 (s : SysA) (f : List Nd) (n : Nat) (hn : n < 256) : Runs Tryz.prog 3 [s.d, .sl 6 (ndR f), .int .u8 (n : Int)] (.bool true) := by
 have hD : s.d = .agg [.int .i64 s.ag, .int .i64 s.fa, .int .i64 s.ln, .sl 2 (runR s.rs)] := rfl
 have h0 := two7 s f f
 cases hb : twoA s f f with
 | false =>
  rw [hb] at h0
  rw [hD] at h0 ⊢
  refine CallT.go_fn mixed Tryz.func3 k3 (by simp) fun hf => ?_
  simp only [ZA, ZB, ZC, ZD, ZE, ↓reduceIte, reduceIte, ZF, ZG, ZH, ZI, ZJ, ne_eq, forall_const, reduceCtorEq, implies_true, forall_eq, ZK, ↓zU, ↓zD, zV, zT]
  (repeat refine sd ?_)
  refine .go (CallT.of_runs h0 rfl) ?_
  simp only [ZA, ZB, ZC, ZD, ZE, ↓reduceIte, reduceIte, ZF, ZG, ZH, ZI, ZJ, ne_eq, forall_const, reduceCtorEq, implies_true, forall_eq, ZK, ↓zU, ↓zD, zV, zT]
  refine .go (CallT.of_runs awake6 rfl) ?_
  simp only [ZA, ZB, ZC, ZD, ZE, ↓reduceIte, reduceIte, ZF, ZG, ZH, ZI, ZJ, ne_eq, forall_const, reduceCtorEq, implies_true, forall_eq, ZK, ↓zU, ↓zD, zV, zT]
  exact .drop (by simp) (by simp [vw])
 | true =>
  rw [hb] at h0
  obtain ⟨A, F, T, rs, hs, hz, ok, hl, _, hr, _⟩ := two_iff hb
  have hag : s.ag = A := by rw [hs]
  by_cases hA : A = 0
  ·have e : (s.ag == 0) = true := by rw [hag, hA]; rfl
   rw [hD] at h0 ⊢
   refine CallT.go_fn mixed Tryz.func3 k3 (by simp) fun hf => ?_
   simp only [ZA, ZB, ZC, ZD, ZE, ↓reduceIte, reduceIte, ZF, ZG, ZH, ZI, ZJ, ne_eq, forall_const, reduceCtorEq, implies_true, forall_eq, ZK, ↓zU, ↓zD, zV, zT]
   (repeat refine sd ?_)
   refine .go (CallT.of_runs h0 rfl) ?_
   simp only [ZA, ZB, ZC, ZD, ZE, ↓reduceIte, reduceIte, ZF, ZG, ZH, ZI, ZJ, ne_eq, forall_const, reduceCtorEq, implies_true, forall_eq, ZK, ↓zU, ↓zD, zV, zT, e]
   refine .go (CallT.of_runs awake6 rfl) ?_
   simp only [ZA, ZB, ZC, ZD, ZE, ↓reduceIte, reduceIte, ZF, ZG, ZH, ZI, ZJ, ne_eq, forall_const, reduceCtorEq, implies_true, forall_eq, ZK, ↓zU, ↓zD, zV, zT]
   exact .drop (by simp) (by simp [vw])
  have e : (s.ag == 0) = false := by rw [hag, beq_eq_false_iff_ne]; omega
  have e2 : ¬ s.ag = 0 := by simpa using e
  have hA4 := ok.hA
  have ha : n % A < A := Nat.mod_lt _ (by omega)
  have hw : (IntKind.i64.wrap (n : Int)).tmod s.ag = ((n % A : Nat) : Int) := by
   rw [wrap_i64 (by omega), hag, wmod]
  generalize n % A = a at ha hw
  obtain ⟨v1, v2, v3, v4, v5⟩ := knows_law hs hz ok hl hr ha
  have c1 := valid10 s (impA (knowA a f) f)
  have c2 := valid10 s (impA (knowA a f) (knowA a (knowA a f)))
  have c3 := valid10 s (impA (notA (knowA a f)) (knowA a (notA (knowA a f))))
  have c4 := valid10 s f
  have c5 := valid10 s (knowA a (alwaysA f).1)
  rw [v1] at c1; rw [v2] at c2; rw [v3] at c3
  have kk1 := Know33 a f
  have i1 := Imp11 (knowA a f) f
  have kk2 := Know33 a (knowA a f)
  have i2 := Imp11 (knowA a f) (knowA a (knowA a f))
  have n1 := Not22 (knowA a f)
  have kk3 := Know33 a (notA (knowA a f))
  have i3 := Imp11 (notA (knowA a f)) (knowA a (notA (knowA a f)))
  have l1 := Always9 f
  rw [v4] at l1
  have kk4 := Know33 a (alwaysA f).1
  rw [hD] at h0 c1 c2 c3 c4 c5 ⊢
  refine CallT.go_fn mixed Tryz.func3 k3 (by simp) fun hf => ?_
  simp only [ZA, ZB, ZC, ZD, ZE, ↓reduceIte, reduceIte, ZF, ZG, ZH, ZI, ZJ, ne_eq, forall_const, reduceCtorEq, implies_true, forall_eq, ZK, ↓zU, ↓zD, zV, zT]
  (repeat refine sd ?_)
  refine .go (CallT.of_runs h0 rfl) ?_
  simp only [ZA, ZB, ZC, ZD, ZE, ↓reduceIte, reduceIte, ZF, ZG, ZH, ZI, ZJ, ne_eq, forall_const, reduceCtorEq, implies_true, forall_eq, ZK, ↓zU, ↓zD, zV, zT, e, hw]
  (repeat refine sd ?_)
  refine .go (CallT.of_runs kk1 (by simp [D.isPureL, D.isPure])) ?_
  simp only [ZA, ZB, ZC, ZD, ZE, ↓reduceIte, reduceIte, ZF, ZG, ZH, ZI, ZJ, ne_eq, forall_const, reduceCtorEq, implies_true, forall_eq, ZK, ↓zU, ↓zD, zV, zT]
  refine .go (CallT.of_runs i1 (by simp [D.isPureL, D.isPure])) ?_
  simp only [ZA, ZB, ZC, ZD, ZE, ↓reduceIte, reduceIte, ZF, ZG, ZH, ZI, ZJ, ne_eq, forall_const, reduceCtorEq, implies_true, forall_eq, ZK, ↓zU, ↓zD, zV, zT]
  refine .go (CallT.of_runs c1 (by simp [D.isPureL, D.isPure])) ?_
  simp only [ZA, ZB, ZC, ZD, ZE, ↓reduceIte, reduceIte, ZF, ZG, ZH, ZI, ZJ, ne_eq, forall_const, reduceCtorEq, implies_true, forall_eq, ZK, ↓zU, ↓zD, zV, zT]
  refine .go (CallT.of_runs kk2 (by simp [D.isPureL, D.isPure])) ?_
  simp only [ZA, ZB, ZC, ZD, ZE, ↓reduceIte, reduceIte, ZF, ZG, ZH, ZI, ZJ, ne_eq, forall_const, reduceCtorEq, implies_true, forall_eq, ZK, ↓zU, ↓zD, zV, zT]
  refine .go (CallT.of_runs i2 (by simp [D.isPureL, D.isPure])) ?_
  simp only [ZA, ZB, ZC, ZD, ZE, ↓reduceIte, reduceIte, ZF, ZG, ZH, ZI, ZJ, ne_eq, forall_const, reduceCtorEq, implies_true, forall_eq, ZK, ↓zU, ↓zD, zV, zT]
  refine .go (CallT.of_runs c2 (by simp [D.isPureL, D.isPure])) ?_
  simp only [ZA, ZB, ZC, ZD, ZE, ↓reduceIte, reduceIte, ZF, ZG, ZH, ZI, ZJ, ne_eq, forall_const, reduceCtorEq, implies_true, forall_eq, ZK, ↓zU, ↓zD, zV, zT]
  refine .go (CallT.of_runs n1 (by simp [D.isPureL, D.isPure])) ?_
  simp only [ZA, ZB, ZC, ZD, ZE, ↓reduceIte, reduceIte, ZF, ZG, ZH, ZI, ZJ, ne_eq, forall_const, reduceCtorEq, implies_true, forall_eq, ZK, ↓zU, ↓zD, zV, zT]
  refine .go (CallT.of_runs n1 (by simp [D.isPureL, D.isPure])) ?_
  simp only [ZA, ZB, ZC, ZD, ZE, ↓reduceIte, reduceIte, ZF, ZG, ZH, ZI, ZJ, ne_eq, forall_const, reduceCtorEq, implies_true, forall_eq, ZK, ↓zU, ↓zD, zV, zT]
  refine .go (CallT.of_runs kk3 (by simp [D.isPureL, D.isPure])) ?_
  simp only [ZA, ZB, ZC, ZD, ZE, ↓reduceIte, reduceIte, ZF, ZG, ZH, ZI, ZJ, ne_eq, forall_const, reduceCtorEq, implies_true, forall_eq, ZK, ↓zU, ↓zD, zV, zT]
  refine .go (CallT.of_runs i3 (by simp [D.isPureL, D.isPure])) ?_
  simp only [ZA, ZB, ZC, ZD, ZE, ↓reduceIte, reduceIte, ZF, ZG, ZH, ZI, ZJ, ne_eq, forall_const, reduceCtorEq, implies_true, forall_eq, ZK, ↓zU, ↓zD, zV, zT]
  refine .go (CallT.of_runs c3 (by simp [D.isPureL, D.isPure])) ?_
  simp only [ZA, ZB, ZC, ZD, ZE, ↓reduceIte, reduceIte, ZF, ZG, ZH, ZI, ZJ, ne_eq, forall_const, reduceCtorEq, implies_true, forall_eq, ZK, ↓zU, ↓zD, zV, zT]
  refine .go (CallT.of_runs l1 (by simp [D.isPureL, D.isPure])) ?_
  simp only [ZA, ZB, ZC, ZD, ZE, ↓reduceIte, reduceIte, ZF, ZG, ZH, ZI, ZJ, ne_eq, forall_const, reduceCtorEq, implies_true, forall_eq, ZK, ↓zU, ↓zD, zV, zT]
  cases hv : validA s f with
  | false =>
   rw [hv] at c4
   refine .go (CallT.of_runs c4 (by simp [D.isPureL, D.isPure])) ?_
   simp only [ZA, ZB, ZC, ZD, ZE, ↓reduceIte, reduceIte, ZF, ZG, ZH, ZI, ZJ, ne_eq, forall_const, reduceCtorEq, implies_true, forall_eq, ZK, ↓zU, ↓zD, zV, zT]
   refine .go (CallT.of_runs awake6 rfl) ?_
   simp only [ZA, ZB, ZC, ZD, ZE, ↓reduceIte, reduceIte, ZF, ZG, ZH, ZI, ZJ, ne_eq, forall_const, reduceCtorEq, implies_true, forall_eq, ZK, ↓zU, ↓zD, zV, zT]
   exact .drop (by simp) (by simp [vw])
  | true =>
   rw [hv] at c4
   rw [v5 hv] at c5
   refine .go (CallT.of_runs c4 (by simp [D.isPureL, D.isPure])) ?_
   simp only [ZA, ZB, ZC, ZD, ZE, ↓reduceIte, reduceIte, ZF, ZG, ZH, ZI, ZJ, ne_eq, forall_const, reduceCtorEq, implies_true, forall_eq, ZK, ↓zU, ↓zD, zV, zT]
   refine .go (CallT.of_runs kk4 (by simp [D.isPureL, D.isPure])) ?_
   simp only [ZA, ZB, ZC, ZD, ZE, ↓reduceIte, reduceIte, ZF, ZG, ZH, ZI, ZJ, ne_eq, forall_const, reduceCtorEq, implies_true, forall_eq, ZK, ↓zU, ↓zD, zV, zT]
   refine .go (CallT.of_runs c5 (by simp [D.isPureL, D.isPure])) ?_
   simp only [ZA, ZB, ZC, ZD, ZE, ↓reduceIte, reduceIte, ZF, ZG, ZH, ZI, ZJ, ne_eq, forall_const, reduceCtorEq, implies_true, forall_eq, ZK, ↓zU, ↓zD, zV, zT]
   refine .go (CallT.of_runs awake6 rfl) ?_
   simp only [ZA, ZB, ZC, ZD, ZE, ↓reduceIte, reduceIte, ZF, ZG, ZH, ZI, ZJ, ne_eq, forall_const, reduceCtorEq, implies_true, forall_eq, ZK, ↓zU, ↓zD, zV, zT]
   exact .drop (by simp) (by simp [vw])
end Go.Pd
