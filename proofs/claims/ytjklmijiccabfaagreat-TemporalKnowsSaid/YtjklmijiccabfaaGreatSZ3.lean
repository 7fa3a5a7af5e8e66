/- Part Z3. -/
import Derived.Test.YtjklmijiccabfaaGreatSZ2
set_option linter.unusedSectionVars false
set_option linter.unusedVariables false
set_option linter.unusedSimpArgs false
set_option linter.defProp false
set_option maxRecDepth 20000
set_option maxHeartbeats 1000000
namespace Go.Pd
open Go Go.Proofs
open Int renaming reduceToNat → ZA, reduceLT → ZB, reduceLE → ZC, reduceBEq → ZD, reduceBNe → ZE
open Nat renaming reduceEqDiff → ZF, reduceAdd → ZG, reduceBEq → ZH, reduceLT → ZI, reduceLeDiff → ZJ, reduceMul → ZK
open Rs Fm Ru Te
theorem Iff17 (f g : List Nd) : Runs Tryz.prog 17 [.sl 6 (ndR f), .sl 6 (ndR g)] (.sl 6 (ndR (iffA f g))) := by
 refine CallT.go_fn mixed Tryz.func17 k17 (by simp) fun hf => ?_
 simp only [ZA, ZB, ZC, ZD, ZE, ↓reduceIte, reduceIte, ZF, ZG, ZH, ZI, ZJ, ne_eq, forall_const, reduceCtorEq, implies_true, forall_eq, ZK, ↓zU, ↓zD, zV, zT]
 (repeat refine sd ?_)
 refine .go (CallT.of_runs (build58 ⟨8, 0, 0, 0, 0, 0⟩ [f, g] (by simp)) (by simp [D.isPureL, D.isPure, Nd.row, nl])) ?_
 simp only [ZA, ZB, ZC, ZD, ZE, ↓reduceIte, reduceIte, ZF, ZG, ZH, ZI, ZJ, ne_eq, forall_const, reduceCtorEq, implies_true, forall_eq, ZK, ↓zU, ↓zD, zV, zT]
 exact .same
theorem Imp11 (f g : List Nd) : Runs Tryz.prog 11 [.sl 6 (ndR f), .sl 6 (ndR g)] (.sl 6 (ndR (impA f g))) := by
 refine CallT.go_fn mixed Tryz.func11 k11 (by simp) fun hf => ?_
 simp only [ZA, ZB, ZC, ZD, ZE, ↓reduceIte, reduceIte, ZF, ZG, ZH, ZI, ZJ, ne_eq, forall_const, reduceCtorEq, implies_true, forall_eq, ZK, ↓zU, ↓zD, zV, zT]
 (repeat refine sd ?_)
 refine .go (CallT.of_runs (build58 ⟨7, 0, 0, 0, 0, 0⟩ [f, g] (by simp)) (by simp [D.isPureL, D.isPure, Nd.row, nl])) ?_
 simp only [ZA, ZB, ZC, ZD, ZE, ↓reduceIte, reduceIte, ZF, ZG, ZH, ZI, ZJ, ne_eq, forall_const, reduceCtorEq, implies_true, forall_eq, ZK, ↓zU, ↓zD, zV, zT]
 exact .same
theorem And18 (f g : List Nd) : Runs Tryz.prog 18 [.sl 6 (ndR f), .sl 6 (ndR g)] (.sl 6 (ndR (andA f g))) := by
 refine CallT.go_fn mixed Tryz.func18 k18 (by simp) fun hf => ?_
 simp only [ZA, ZB, ZC, ZD, ZE, ↓reduceIte, reduceIte, ZF, ZG, ZH, ZI, ZJ, ne_eq, forall_const, reduceCtorEq, implies_true, forall_eq, ZK, ↓zU, ↓zD, zV, zT]
 (repeat refine sd ?_)
 refine .go (CallT.of_runs (build58 ⟨5, 0, 0, 0, 0, 0⟩ [f, g] (by simp)) (by simp [D.isPureL, D.isPure, Nd.row, nl])) ?_
 simp only [ZA, ZB, ZC, ZD, ZE, ↓reduceIte, reduceIte, ZF, ZG, ZH, ZI, ZJ, ne_eq, forall_const, reduceCtorEq, implies_true, forall_eq, ZK, ↓zU, ↓zD, zV, zT]
 exact .same
theorem Or21 (f g : List Nd) : Runs Tryz.prog 21 [.sl 6 (ndR f), .sl 6 (ndR g)] (.sl 6 (ndR (orA f g))) := by
 refine CallT.go_fn mixed Tryz.func21 k21 (by simp) fun hf => ?_
 simp only [ZA, ZB, ZC, ZD, ZE, ↓reduceIte, reduceIte, ZF, ZG, ZH, ZI, ZJ, ne_eq, forall_const, reduceCtorEq, implies_true, forall_eq, ZK, ↓zU, ↓zD, zV, zT]
 (repeat refine sd ?_)
 refine .go (CallT.of_runs (build58 ⟨6, 0, 0, 0, 0, 0⟩ [f, g] (by simp)) (by simp [D.isPureL, D.isPure, Nd.row, nl])) ?_
 simp only [ZA, ZB, ZC, ZD, ZE, ↓reduceIte, reduceIte, ZF, ZG, ZH, ZI, ZJ, ne_eq, forall_const, reduceCtorEq, implies_true, forall_eq, ZK, ↓zU, ↓zD, zV, zT]
 exact .same
theorem valid10 (s : SysA) (f : List Nd) : Runs Tryz.prog 10 [s.d, .sl 6 (ndR f)] (.bool (validA s f)) := by
 have hD : s.d = .agg [.int .i64 s.ag, .int .i64 s.fa, .int .i64 s.ln, .sl 2 (runR s.rs)] := rfl
 have h := Valid15 s f
 cases hv : validA s f with
 | false =>
  rw [hv] at h
  rw [hD] at h ⊢
  refine CallT.go_fn mixed Tryz.func10 k10 (by simp) fun hf => ?_
  simp only [ZA, ZB, ZC, ZD, ZE, ↓reduceIte, reduceIte, ZF, ZG, ZH, ZI, ZJ, ne_eq, forall_const, reduceCtorEq, implies_true, forall_eq, ZK, ↓zU, ↓zD, zV, zT]
  (repeat refine sd ?_)
  refine .go (CallT.of_runs h rfl) ?_
  simp only [ZA, ZB, ZC, ZD, ZE, ↓reduceIte, reduceIte, ZF, ZG, ZH, ZI, ZJ, ne_eq, forall_const, reduceCtorEq, implies_true, forall_eq, ZK, ↓zU, ↓zD, zV, zT]
  exact .drop (by simp) (by simp [vw])
 | true =>
  rw [hv, (valid_iff.1 hv).1] at h
  rw [hD] at h ⊢
  refine CallT.go_fn mixed Tryz.func10 k10 (by simp) fun hf => ?_
  simp only [ZA, ZB, ZC, ZD, ZE, ↓reduceIte, reduceIte, ZF, ZG, ZH, ZI, ZJ, ne_eq, forall_const, reduceCtorEq, implies_true, forall_eq, ZK, ↓zU, ↓zD, zV, zT]
  (repeat refine sd ?_)
  refine .go (CallT.of_runs h rfl) ?_
  simp only [ZA, ZB, ZC, ZD, ZE, ↓reduceIte, reduceIte, ZF, ZG, ZH, ZI, ZJ, ne_eq, forall_const, reduceCtorEq, implies_true, forall_eq, ZK, ↓zU, ↓zD, zV, zT]
  exact .drop (by simp) (by simp [vw])
namespace Te
def twoA (s : SysA) (f g : List Nd) : Bool := fewA s && (decide (chk s = 0) && (decide ((f.length : Int) ≤ 20) && (decide ((g.length : Int) ≤ 20) && (decide (reqE s f = 0) && decide (reqE s g = 0)))))
theorem two_iff {s : SysA} {f g : List Nd} (h : twoA s f g = true) : ∃ (A F T : Nat) (rs : List RunA), s = ⟨A, F, T, rs⟩ ∧ chk s = 0 ∧ OkR rs A F T ∧ f.length ≤ 20 ∧ g.length ≤ 20 ∧ reqE s f = 0 ∧ reqE s g = 0 := by
 unfold twoA at h
 simp only [Bool.and_eq_true, decide_eq_true_eq] at h
 obtain ⟨_, h2, h3, h4, h5, h6⟩ := h
 obtain ⟨A, F, T, rs, hs, ok⟩ := chk_sys h2
 exact ⟨A, F, T, rs, hs, h2, ok, by omega, by omega, h5, h6⟩
end Te
theorem two7 (s : SysA) (f g : List Nd) : Runs Tryz.prog 7 [s.d, .sl 6 (ndR f), .sl 6 (ndR g)] (.bool (twoA s f g)) := by
 have hD : s.d = .agg [.int .i64 s.ag, .int .i64 s.fa, .int .i64 s.ln, .sl 2 (runR s.rs)] := rfl
 have h0 := Few12 s
 have h1 := Check31 s
 have h2 := refHolds14 s f
 have h3 := refHolds14 s g
 rw [holdsL_eq] at h2 h3
 unfold twoA
 generalize holdsL s f = lf at h2
 generalize holdsL s g = lg at h3
 generalize reqE s f = ef at h2
 generalize reqE s g = eg at h3
 generalize fewA s = b at h0
 generalize chk s = c at h1
 rw [hD] at h0 h1 h2 h3 ⊢
 cases b with
 | false =>
  refine CallT.go_fn mixed Tryz.func7 k7 (by simp) fun hf => ?_
  simp only [ZA, ZB, ZC, ZD, ZE, ↓reduceIte, reduceIte, ZF, ZG, ZH, ZI, ZJ, ne_eq, forall_const, reduceCtorEq, implies_true, forall_eq, ZK, ↓zU, ↓zD, zV, zT]
  (repeat refine sd ?_)
  refine .go (CallT.of_runs h0 rfl) ?_
  simp only [ZA, ZB, ZC, ZD, ZE, ↓reduceIte, reduceIte, ZF, ZG, ZH, ZI, ZJ, ne_eq, forall_const, reduceCtorEq, implies_true, forall_eq, ZK, ↓zU, ↓zD, zV, zT]
  exact .drop (by simp) (by simp [vw])
 | true =>
  rw [Bool.true_and]
  by_cases hc : c = 0
  case neg =>
   have e : (c != 0) = true := by simpa using hc
   rw [decide_eq_false hc, Bool.false_and]
   refine CallT.go_fn mixed Tryz.func7 k7 (by simp) fun hf => ?_
   simp only [ZA, ZB, ZC, ZD, ZE, ↓reduceIte, reduceIte, ZF, ZG, ZH, ZI, ZJ, ne_eq, forall_const, reduceCtorEq, implies_true, forall_eq, ZK, ↓zU, ↓zD, zV, zT]
   (repeat refine sd ?_)
   refine .go (CallT.of_runs h0 rfl) ?_
   simp only [ZA, ZB, ZC, ZD, ZE, ↓reduceIte, reduceIte, ZF, ZG, ZH, ZI, ZJ, ne_eq, forall_const, reduceCtorEq, implies_true, forall_eq, ZK, ↓zU, ↓zD, zV, zT]
   refine .go (CallT.of_runs h1 rfl) ?_
   simp only [ZA, ZB, ZC, ZD, ZE, ↓reduceIte, reduceIte, ZF, ZG, ZH, ZI, ZJ, ne_eq, forall_const, reduceCtorEq, implies_true, forall_eq, ZK, ↓zU, ↓zD, zV, zT, e]
   exact .drop (by simp) (by simp [vw])
  subst hc
  rw [decide_eq_true rfl, Bool.true_and]
  by_cases hf : (f.length : Int) ≤ 20
  case neg =>
   have e : ((20 : Int) < (f.length : Int)) := by omega
   rw [decide_eq_false hf, Bool.false_and]
   refine CallT.go_fn mixed Tryz.func7 k7 (by simp) fun hf => ?_
   simp only [ZA, ZB, ZC, ZD, ZE, ↓reduceIte, reduceIte, ZF, ZG, ZH, ZI, ZJ, ne_eq, forall_const, reduceCtorEq, implies_true, forall_eq, ZK, ↓zU, ↓zD, zV, zT]
   (repeat refine sd ?_)
   refine .go (CallT.of_runs h0 rfl) ?_
   simp only [ZA, ZB, ZC, ZD, ZE, ↓reduceIte, reduceIte, ZF, ZG, ZH, ZI, ZJ, ne_eq, forall_const, reduceCtorEq, implies_true, forall_eq, ZK, ↓zU, ↓zD, zV, zT]
   refine .go (CallT.of_runs h1 rfl) ?_
   simp only [ZA, ZB, ZC, ZD, ZE, ↓reduceIte, reduceIte, ZF, ZG, ZH, ZI, ZJ, ne_eq, forall_const, reduceCtorEq, implies_true, forall_eq, ZK, ↓zU, ↓zD, zV, zT, ndR_len, e]
   exact .drop (by simp) (by simp [vw])
  have ef' : ¬ ((20 : Int) < (f.length : Int)) := by omega
  rw [decide_eq_true hf, Bool.true_and]
  by_cases hg : (g.length : Int) ≤ 20
  case neg =>
   have e : ((20 : Int) < (g.length : Int)) := by omega
   rw [decide_eq_false hg, Bool.false_and]
   refine CallT.go_fn mixed Tryz.func7 k7 (by simp) fun hf => ?_
   simp only [ZA, ZB, ZC, ZD, ZE, ↓reduceIte, reduceIte, ZF, ZG, ZH, ZI, ZJ, ne_eq, forall_const, reduceCtorEq, implies_true, forall_eq, ZK, ↓zU, ↓zD, zV, zT]
   (repeat refine sd ?_)
   refine .go (CallT.of_runs h0 rfl) ?_
   simp only [ZA, ZB, ZC, ZD, ZE, ↓reduceIte, reduceIte, ZF, ZG, ZH, ZI, ZJ, ne_eq, forall_const, reduceCtorEq, implies_true, forall_eq, ZK, ↓zU, ↓zD, zV, zT]
   refine .go (CallT.of_runs h1 rfl) ?_
   simp only [ZA, ZB, ZC, ZD, ZE, ↓reduceIte, reduceIte, ZF, ZG, ZH, ZI, ZJ, ne_eq, forall_const, reduceCtorEq, implies_true, forall_eq, ZK, ↓zU, ↓zD, zV, zT, ndR_len, ef', e]
   exact .drop (by simp) (by simp [vw])
  have eg' : ¬ ((20 : Int) < (g.length : Int)) := by omega
  rw [decide_eq_true hg, Bool.true_and]
  refine CallT.go_fn mixed Tryz.func7 k7 (by simp) fun hf => ?_
  simp only [ZA, ZB, ZC, ZD, ZE, ↓reduceIte, reduceIte, ZF, ZG, ZH, ZI, ZJ, ne_eq, forall_const, reduceCtorEq, implies_true, forall_eq, ZK, ↓zU, ↓zD, zV, zT]
  (repeat refine sd ?_)
  refine .go (CallT.of_runs h0 rfl) ?_
  simp only [ZA, ZB, ZC, ZD, ZE, ↓reduceIte, reduceIte, ZF, ZG, ZH, ZI, ZJ, ne_eq, forall_const, reduceCtorEq, implies_true, forall_eq, ZK, ↓zU, ↓zD, zV, zT]
  refine .go (CallT.of_runs h1 rfl) ?_
  simp only [ZA, ZB, ZC, ZD, ZE, ↓reduceIte, reduceIte, ZF, ZG, ZH, ZI, ZJ, ne_eq, forall_const, reduceCtorEq, implies_true, forall_eq, ZK, ↓zU, ↓zD, zV, zT, ndR_len, ef', eg']
  (repeat refine sd ?_)
  refine .go (CallT.of_runs h2 (by simp [D.isPureL, D.isPure])) ?_
  simp only [ZA, ZB, ZC, ZD, ZE, ↓reduceIte, reduceIte, ZF, ZG, ZH, ZI, ZJ, ne_eq, forall_const, reduceCtorEq, implies_true, forall_eq, ZK, ↓zU, ↓zD, zV, zT]
  (repeat refine sd ?_)
  refine .go (CallT.of_runs h3 (by simp [D.isPureL, D.isPure])) ?_
  by_cases hef : ef = 0
  ·subst hef
   rw [decide_eq_true rfl, Bool.true_and]
   by_cases heg : eg = 0
   ·subst heg
    simp only [ZA, ZB, ZC, ZD, ZE, ↓reduceIte, reduceIte, ZF, ZG, ZH, ZI, ZJ, ne_eq, forall_const, reduceCtorEq, implies_true, forall_eq, ZK, ↓zU, ↓zD, zV, zT]
    exact .drop (by simp) (by simp [vw])
   ·have e : (eg == 0) = false := by simpa using heg
    rw [decide_eq_false heg]
    simp only [ZA, ZB, ZC, ZD, ZE, ↓reduceIte, reduceIte, ZF, ZG, ZH, ZI, ZJ, ne_eq, forall_const, reduceCtorEq, implies_true, forall_eq, ZK, ↓zU, ↓zD, zV, zT, e]
    exact .drop (by simp) (by simp [vw])
  ·have e : (ef == 0) = false := by simpa using hef
   rw [decide_eq_false hef, Bool.false_and]
   simp only [ZA, ZB, ZC, ZD, ZE, ↓reduceIte, reduceIte, ZF, ZG, ZH, ZI, ZJ, ne_eq, forall_const, reduceCtorEq, implies_true, forall_eq, ZK, ↓zU, ↓zD, zV, zT, e]
   exact .drop (by simp) (by simp [vw])
end Go.Pd
