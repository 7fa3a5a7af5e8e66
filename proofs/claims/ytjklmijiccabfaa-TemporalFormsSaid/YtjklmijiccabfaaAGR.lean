/- Lines for the claim RowTemporalForms: part GR. -/
import Derived.Test.YtjklmijiccabfaaAG1
set_option linter.unusedSectionVars false
set_option linter.unusedVariables false
set_option linter.unusedSimpArgs false
set_option linter.defProp false
set_option maxRecDepth 20000
namespace Go.Pd
open Go Go.Proofs
open Int renaming reduceToNat → ZA, reduceLT → ZB, reduceLE → ZC, reduceBEq → ZD, reduceBNe → ZE
open Go.Pd renaming St0 → ZF, argFr → ZG, callZ → ZH, midZ → ZI, unZ → ZJ, thenW → ZK, blockW → ZL, opX → ZM, opV → ZN, pX → ZO, pW → ZP, putK → ZQ, putP → ZR, atK → ZS, normK → ZT, postZ → ZU, binW → YB, bodyQ → YC, ressW → YD, resW → YE, sets → YG, oneAll → YH, setD → YI, rels → YJ, fillE → YK, fillD → YL, rowsOf → YN
open Nat renaming reduceEqDiff → ZW, reduceAdd → ZX, reduceBEq → ZY, reduceLT → ZZ, reduceLeDiff → YA, reduceMul → YO
open List renaming replicate → YM
section
open Rs Fm
namespace Fm
def notA (f : List Nd) : List Nd := buildA ⟨4, 0, 0, 0, 0, 0⟩ [f]
def knowA (a : Int) (f : List Nd) : List Nd := buildA ⟨9, a, 0, 0, 0, 0⟩ [f]
def factA (i : Int) : List Nd := buildA ⟨3, i, 0, 0, 0, 0⟩ []
def trueA : List Nd := buildA ⟨1, 0, 0, 0, 0, 0⟩ []
end Fm
theorem build58n (x : Nd) : Runs Try.prog 50 [.agg x.row, .nils] (.sl 6 (ndR (buildA x []))) :=
  CallT.give (σ := St0) (objs' := []) (fun _ => False) (build58 x [] (by simp)) ⟨.pure (by simp [D.isPure, D.isPureL, Nd.row]), .nil 1, trivial⟩ (fun k o hk => by cases hk)
theorem Not22 (f : List Nd) : Runs Try.prog 22 [.sl 6 (ndR f)] (.sl 6 (ndR (notA f))) := by
  refine CallT.go_fn mixed Try.func22 k22 (by simp) fun hf => ?_
  simp only [ZA, ZB, ZC, ZD, ZE, ZF, ZG, ↓ZH, ↓ZI, ↓ZJ, ↓ZK, ↓ZL, ↓ZM, ↓ZN, ↓ZO, ↓ZP, ↓ZQ, ↓ZR, ↓ZS, ↓ZT, ↓ZU, ↓reduceIte, reduceIte, ZW, ZX, ZY, ZZ, YA, YB, YC, YD, YE, ne_eq, forall_const, reduceCtorEq, implies_true, YG, YH, YI, YJ, YK, YL, YM, YN, forall_eq, YO, ↓zD, zT]
  (repeat refine And.intro (by first | omega | exact ui_nonneg _ | exact Int.natCast_nonneg _ | rfl | exact rows_one' _ _ | exact us_one _ | (intro _ h; cases h; done)) ?_)
  refine .go (CallT.of_runs (build58 ⟨4, 0, 0, 0, 0, 0⟩ [f] (by simp)) (by simp [D.isPureL, D.isPure, Nd.row, nl])) ?_
  simp only [ZA, ZB, ZC, ZD, ZE, ZF, ZG, ↓ZH, ↓ZI, ↓ZJ, ↓ZK, ↓ZL, ↓ZM, ↓ZN, ↓ZO, ↓ZP, ↓ZQ, ↓ZR, ↓ZS, ↓ZT, ↓ZU, ↓reduceIte, reduceIte, ZW, ZX, ZY, ZZ, YA, YB, YC, YD, YE, ne_eq, forall_const, reduceCtorEq, implies_true, YG, YH, YI, YJ, YK, YL, YM, YN, forall_eq, YO, ↓zD, zT]
  exact .same
theorem Know33 (a : Int) (f : List Nd) : Runs Try.prog 25 [.int .i64 a, .sl 6 (ndR f)] (.sl 6 (ndR (knowA a f))) := by
  refine CallT.go_fn mixed Try.func25 k25 (by simp) fun hf => ?_
  simp only [ZA, ZB, ZC, ZD, ZE, ZF, ZG, ↓ZH, ↓ZI, ↓ZJ, ↓ZK, ↓ZL, ↓ZM, ↓ZN, ↓ZO, ↓ZP, ↓ZQ, ↓ZR, ↓ZS, ↓ZT, ↓ZU, ↓reduceIte, reduceIte, ZW, ZX, ZY, ZZ, YA, YB, YC, YD, YE, ne_eq, forall_const, reduceCtorEq, implies_true, YG, YH, YI, YJ, YK, YL, YM, YN, forall_eq, YO, ↓zD, zT]
  (repeat refine And.intro (by first | omega | exact ui_nonneg _ | exact Int.natCast_nonneg _ | rfl | exact rows_one' _ _ | exact us_one _ | (intro _ h; cases h; done)) ?_)
  refine .go (CallT.of_runs (build58 ⟨9, a, 0, 0, 0, 0⟩ [f] (by simp)) (by simp [D.isPureL, D.isPure, Nd.row, nl])) ?_
  simp only [ZA, ZB, ZC, ZD, ZE, ZF, ZG, ↓ZH, ↓ZI, ↓ZJ, ↓ZK, ↓ZL, ↓ZM, ↓ZN, ↓ZO, ↓ZP, ↓ZQ, ↓ZR, ↓ZS, ↓ZT, ↓ZU, ↓reduceIte, reduceIte, ZW, ZX, ZY, ZZ, YA, YB, YC, YD, YE, ne_eq, forall_const, reduceCtorEq, implies_true, YG, YH, YI, YJ, YK, YL, YM, YN, forall_eq, YO, ↓zD, zT]
  exact .same
theorem Fact32 (i : Int) : Runs Try.prog 21 [.int .i64 i] (.sl 6 (ndR (factA i))) := by
  refine CallT.go_fn mixed Try.func21 k21 (by simp) fun hf => ?_
  simp only [ZA, ZB, ZC, ZD, ZE, ZF, ZG, ↓ZH, ↓ZI, ↓ZJ, ↓ZK, ↓ZL, ↓ZM, ↓ZN, ↓ZO, ↓ZP, ↓ZQ, ↓ZR, ↓ZS, ↓ZT, ↓ZU, ↓reduceIte, reduceIte, ZW, ZX, ZY, ZZ, YA, YB, YC, YD, YE, ne_eq, forall_const, reduceCtorEq, implies_true, YG, YH, YI, YJ, YK, YL, YM, YN, forall_eq, YO, ↓zD, zT]
  (repeat refine And.intro (by first | omega | exact ui_nonneg _ | exact Int.natCast_nonneg _ | rfl | exact rows_one' _ _ | exact us_one _ | (intro _ h; cases h; done)) ?_)
  refine .go (CallT.of_runs (build58n ⟨3, i, 0, 0, 0, 0⟩) (by simp [D.isPureL, D.isPure, Nd.row])) ?_
  simp only [ZA, ZB, ZC, ZD, ZE, ZF, ZG, ↓ZH, ↓ZI, ↓ZJ, ↓ZK, ↓ZL, ↓ZM, ↓ZN, ↓ZO, ↓ZP, ↓ZQ, ↓ZR, ↓ZS, ↓ZT, ↓ZU, ↓reduceIte, reduceIte, ZW, ZX, ZY, ZZ, YA, YB, YC, YD, YE, ne_eq, forall_const, reduceCtorEq, implies_true, YG, YH, YI, YJ, YK, YL, YM, YN, forall_eq, YO, ↓zD, zT]
  exact .same
theorem True81 : Runs Try.prog 28 [] (.sl 6 (ndR trueA)) := by
  refine CallT.go_fn mixed Try.func28 k28 (by simp) fun hf => ?_
  simp only [ZA, ZB, ZC, ZD, ZE, ZF, ZG, ↓ZH, ↓ZI, ↓ZJ, ↓ZK, ↓ZL, ↓ZM, ↓ZN, ↓ZO, ↓ZP, ↓ZQ, ↓ZR, ↓ZS, ↓ZT, ↓ZU, ↓reduceIte, reduceIte, ZW, ZX, ZY, ZZ, YA, YB, YC, YD, YE, ne_eq, forall_const, reduceCtorEq, implies_true, YG, YH, YI, YJ, YK, YL, YM, YN, forall_eq, YO, ↓zD, zT]
  (repeat refine And.intro (by first | omega | exact ui_nonneg _ | exact Int.natCast_nonneg _ | rfl | exact rows_one' _ _ | exact us_one _ | (intro _ h; cases h; done)) ?_)
  refine .go (CallT.of_runs (build58n ⟨1, 0, 0, 0, 0, 0⟩) (by simp [D.isPureL, D.isPure, Nd.row])) ?_
  simp only [ZA, ZB, ZC, ZD, ZE, ZF, ZG, ↓ZH, ↓ZI, ↓ZJ, ↓ZK, ↓ZL, ↓ZM, ↓ZN, ↓ZO, ↓ZP, ↓ZQ, ↓ZR, ↓ZS, ↓ZT, ↓ZU, ↓reduceIte, reduceIte, ZW, ZX, ZY, ZZ, YA, YB, YC, YD, YE, ne_eq, forall_const, reduceCtorEq, implies_true, YG, YH, YI, YJ, YK, YL, YM, YN, forall_eq, YO, ↓zD, zT]
  exact .same
end
section
open Rs Fm
namespace Fm
theorem intsOf6 (a b c d e f : Int) : intsOf [.int .i64 a, .int .i64 b, .int .i64 c, .int .i64 d, .int .i64 e, .int .i64 f] = some [a, b, c, d, e, f] := rfl
theorem dec_drop {α : Type} [DecidableEq α] {a b : List α} {k : Nat} {d : α} (ha : k < a.length) (hb : k < b.length) : decide (a.drop k = b.drop k) = (decide (a.getD k d = b.getD k d) && decide (a.drop (k + 1) = b.drop (k + 1))) := by
  rw [drop_cons (d := d) ha, drop_cons (d := d) hb, Bool.eq_iff_iff]
  simp
end Fm
theorem Equal29 (a b : List Nd) : Runs Try.prog 11 [.sl 6 (ndR a), .sl 6 (ndR b)] (.bool (decide (a = b))) := by
  refine CallT.go_fn mixed Try.func11 k11 (by simp) fun hf => ?_
  simp only [D.factL, D.fact, ndR_len] at hf
  have hla := hf.1.1
  by_cases hl : a.length = b.length
  case neg =>
    have e : ((a.length : Int) != (b.length : Int)) = true := by rw [bne_iff_ne]; omega
    simp only [ZA, ZB, ZC, ZD, ZE, ZF, ZG, ↓ZH, ↓ZI, ↓ZJ, ↓ZK, ↓ZL, ↓ZM, ↓ZN, ↓ZO, ↓ZP, ↓ZQ, ↓ZR, ↓ZS, ↓ZT, ↓ZU, ↓reduceIte, reduceIte, ZW, ZX, ZY, ZZ, YA, YB, YC, YD, YE, ne_eq, forall_const, reduceCtorEq, implies_true, YG, YH, YI, YJ, YK, YL, YM, YN, forall_eq, YO, ↓zD, zT, ndR_len, e]
    rw [show decide (a = b) = false by simp; intro h; rw [h] at hl; exact hl rfl]
    exact .same
  have e : ((a.length : Int) != (b.length : Int)) = false := by rw [hl]; simp
  simp only [ZA, ZB, ZC, ZD, ZE, ZF, ZG, ↓ZH, ↓ZI, ↓ZJ, ↓ZK, ↓ZL, ↓ZM, ↓ZN, ↓ZO, ↓ZP, ↓ZQ, ↓ZR, ↓ZS, ↓ZT, ↓ZU, ↓reduceIte, reduceIte, ZW, ZX, ZY, ZZ, YA, YB, YC, YD, YE, ne_eq, forall_const, reduceCtorEq, implies_true, YG, YH, YI, YJ, YK, YL, YM, YN, forall_eq, YO, ↓zD, zT, ndR_len, e]
  refine wpS_loop (fun k : Nat => [(5, .int .i64 k), (1, .sl 6 (ndR b)), (0, .sl 6 (ndR a))]) (fun _ => ⟨0, []⟩) (fun k => k ≤ a.length ∧ decide (a = b) = decide (a.drop k = b.drop k)) (fun k => a.length - k) 0 ⟨Nat.zero_le _, rfl⟩ ?_ ?_
  · (refine Weak.same ?_; simp [sameF, Fr.get])
  intro k ⟨hk, hi⟩
  refine wpS_go mixed ?_
  by_cases h : k < a.length
  case neg =>
    have hd : ¬ ((k : Int) < (a.length : Int)) := by omega
    rw [List.drop_eq_nil_of_le (by omega), List.drop_eq_nil_of_le (by omega)] at hi
    simp only [ZA, ZB, ZC, ZD, ZE, ZF, ZG, ↓ZH, ↓ZI, ↓ZJ, ↓ZK, ↓ZL, ↓ZM, ↓ZN, ↓ZO, ↓ZP, ↓ZQ, ↓ZR, ↓ZS, ↓ZT, ↓ZU, ↓reduceIte, reduceIte, ZW, ZX, ZY, ZZ, YA, YB, YC, YD, YE, ne_eq, forall_const, reduceCtorEq, implies_true, YG, YH, YI, YJ, YK, YL, YM, YN, forall_eq, YO, ↓zD, zT, hd, ndR_len]
    rw [hi]
    exact .same
  have hd : ((k : Int) < (a.length : Int)) := by omega
  have hw : IntKind.i64.wrap ((k : Int) + 1) = ((k + 1 : Nat) : Int) := wrap_i64 (by omega)
  have hga := ndR_get a h
  have hgb := ndR_get b (i := k) (by omega)
  rw [dec_drop (d := nd0) h (by omega)] at hi
  generalize a.getD k nd0 = p at hga hi
  generalize b.getD k nd0 = q at hgb hi
  by_cases hpq : p = q
  · subst hpq
    rw [decide_eq_true rfl, Bool.true_and] at hi
    have hq : decide ([p.op, p.i, p.e, p.g, p.x, p.y] = [p.op, p.i, p.e, p.g, p.x, p.y]) = true := by simp
    simp only [ZA, ZB, ZC, ZD, ZE, ZF, ZG, ↓ZH, ↓ZI, ↓ZJ, ↓ZK, ↓ZL, ↓ZM, ↓ZN, ↓ZO, ↓ZP, ↓ZQ, ↓ZR, ↓ZS, ↓ZT, ↓ZU, ↓reduceIte, reduceIte, ZW, ZX, ZY, ZZ, YA, YB, YC, YD, YE, ne_eq, forall_const, reduceCtorEq, implies_true, YG, YH, YI, YJ, YK, YL, YM, YN, forall_eq, YO, ↓zD, zT, hd, ndR_len, hga, hgb, Nd.row, intsOf6, hq, ← hl]
    (repeat refine And.intro (by first | omega | exact ui_nonneg _ | exact Int.natCast_nonneg _ | rfl | exact rows_one' _ _ | exact us_one _ | (intro _ h; cases h; done)) ?_)
    refine ⟨k + 1, ⟨by omega, hi⟩, ?_, by omega⟩
    (refine Weak.same ?_; simp only [sameF, Fr.get, ↓reduceIte, reduceIte, Nat.reduceEqDiff, reduceCtorEq, D.int.injEq, D.bool.injEq, D.sl.injEq, and_true, true_and, and_self])
    exact hw
  · rw [decide_eq_false hpq, Bool.false_and] at hi
    have hq : decide ([p.op, p.i, p.e, p.g, p.x, p.y] = [q.op, q.i, q.e, q.g, q.x, q.y]) = false := by
      rw [decide_eq_false_iff_not]
      exact fun h => hpq (key_inj h)
    simp only [ZA, ZB, ZC, ZD, ZE, ZF, ZG, ↓ZH, ↓ZI, ↓ZJ, ↓ZK, ↓ZL, ↓ZM, ↓ZN, ↓ZO, ↓ZP, ↓ZQ, ↓ZR, ↓ZS, ↓ZT, ↓ZU, ↓reduceIte, reduceIte, ZW, ZX, ZY, ZZ, YA, YB, YC, YD, YE, ne_eq, forall_const, reduceCtorEq, implies_true, YG, YH, YI, YJ, YK, YL, YM, YN, forall_eq, YO, ↓zD, zT, hd, ndR_len, hga, hgb, Nd.row, intsOf6, hq, ← hl]
    (repeat refine And.intro (by first | omega | exact ui_nonneg _ | exact Int.natCast_nonneg _ | rfl | exact rows_one' _ _ | exact us_one _ | (intro _ h; cases h; done)) ?_)
    rw [hi]
    exact .same
end
end Go.Pd
