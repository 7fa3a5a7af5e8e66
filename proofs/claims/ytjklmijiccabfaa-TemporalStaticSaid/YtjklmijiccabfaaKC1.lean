/- Part C1. -/
import Derived.Test.YtjklmijiccabfaaKS7
set_option linter.unusedSectionVars false
set_option linter.unusedVariables false
set_option linter.unusedSimpArgs false
set_option linter.defProp false
set_option maxRecDepth 20000
set_option maxHeartbeats 1000000
namespace Go.Pd
open Go Go.Proofs
open Int renaming reduceToNat → ZA, reduceLT → ZB, reduceLE → ZC, reduceBEq → ZD, reduceBNe → ZE
open Nat renaming reduceEqDiff → ZF, reduceAdd → ZG, reduceBEq → ZH, reduceLT → ZI, reduceLeDiff → ZJ, reduceMul → ZK
open Ru
theorem cpl_ui (s : BitVec 64) : bitI .xor .u64 (if IntKind.u64.signed = true then -1 else IntKind.u64.max) (ui s) = ui (~~~s) := by
 rw [if_neg (by decide), show IntKind.u64.max = ui (BitVec.allOnes 64) by decide +kernel, ui_xor]
 congr 1
theorem rall129 (n : Nat) : Runs Try.prog 129 [.int .i64 n] (.int .u64 (ui (allW n))) := by
 refine CallT.go_fn mixed Try.func129 k129 (by simp) fun hf => ?_
 unfold allW
 by_cases h : 64 ≤ n
 ·have e : (64 : Int) ≤ (n : Int) := by omega
  rw [if_pos h]
  simp only [ZA, ZB, ZC, ZD, ZE, ↓reduceIte, reduceIte, ZF, ZG, ZH, ZI, ZJ, ne_eq, forall_const, reduceCtorEq, implies_true, forall_eq, ZK, ↓zU, ↓zD, zV, zT, e]
  exact .same
 ·have e : ¬ (64 : Int) ≤ (n : Int) := by omega
  rw [if_neg h]
  simp only [ZA, ZB, ZC, ZD, ZE, ↓reduceIte, reduceIte, ZF, ZG, ZH, ZI, ZJ, ne_eq, forall_const, reduceCtorEq, implies_true, forall_eq, ZK, ↓zU, ↓zD, zV, zT, e]
  (repeat refine sd ?_)
  exact .same
namespace Ru
structure RelOk (r : List (BitVec 64)) : Prop where
 len : r.length ≤ 64
 ins : ∀ x ∈ r, outW r.length x = false
def boxK (r : List (BitVec 64)) (s : BitVec 64) : Nat → BitVec 64
 | 0 => 0#64
 | w + 1 => if (r.getD w 0 &&& ~~~s == 0#64) = true then boxK r s w ||| 1#64 <<< w else boxK r s w
def boxW (r : List (BitVec 64)) (s : BitVec 64) : BitVec 64 := boxK r s r.length
def diaW (r : List (BitVec 64)) (s : BitVec 64) : BitVec 64 := allW r.length &&& ~~~(boxW r (~~~s))
end Ru
theorem relCheck128 {r : List (BitVec 64)} (ok : RelOk r) : Runs Try.prog 128 [.int .i64 r.length, .sl 1 (us r)] (.int .i64 0) := by
 have h1 : ¬ ((r.length : Int) < 0) := by omega
 have h2 : ¬ ((64 : Int) < (r.length : Int)) := by have := ok.len; omega
 have h3 : ((r.length : Int) != (r.length : Int)) = false := by simp
 have ha := rall129 r.length
 refine CallT.go_fn mixed Try.func128 k128 (by simp) fun hf => ?_
 simp only [ZA, ZB, ZC, ZD, ZE, ↓reduceIte, reduceIte, ZF, ZG, ZH, ZI, ZJ, ne_eq, forall_const, reduceCtorEq, implies_true, forall_eq, ZK, ↓zU, ↓zD, zV, zT, us_len, h1, h2, h3]
 refine wpS_loop (fun k : Nat => [(19, .int .i64 k), (18, .int .i64 r.length), (17, .sl 1 (us r)), (0, .int .i64 r.length)]) (fun _ => ⟨0, []⟩) (fun k => k ≤ r.length) (fun k => r.length - k) 0 (Nat.zero_le _) ?_ ?_
 ·(refine Weak.same ?_; simp [sameF, Fr.get])
 intro k hk
 refine wpS_go mixed ?_
 by_cases h : k < r.length
 ·have hd : ((k : Int) < (r.length : Int)) := by omega
  have hx := ok.ins _ (getD_mem (d := 0) h)
  have e : (r.getD k 0 &&& ~~~(allW r.length) != 0#64) = false := by
   have := hx
   unfold outW at this
   rw [bne]
   simpa using this
  have hg := us_get r h
  simp only [ZA, ZB, ZC, ZD, ZE, ↓reduceIte, reduceIte, ZF, ZG, ZH, ZI, ZJ, ne_eq, forall_const, reduceCtorEq, implies_true, forall_eq, ZK, ↓zU, ↓zD, zV, zT, hd, us_len, hg]
  (repeat refine sd ?_)
  refine .go (CallT.of_runs ha rfl) ?_
  simp only [ZA, ZB, ZC, ZD, ZE, ↓reduceIte, reduceIte, ZF, ZG, ZH, ZI, ZJ, ne_eq, forall_const, reduceCtorEq, implies_true, forall_eq, ZK, ↓zU, ↓zD, zV, zT, e]
  (repeat refine sd ?_)
  refine ⟨k + 1, by omega, ?_, by omega⟩
  (refine Weak.same ?_; simp only [sameF, Fr.get, ↓reduceIte, reduceIte, Nat.reduceEqDiff, reduceCtorEq, D.int.injEq, D.bool.injEq, D.sl.injEq, and_true, true_and, and_self])
  exact wrap_i64 (by omega)
 ·have hd : ¬ ((k : Int) < (r.length : Int)) := by omega
  simp only [ZA, ZB, ZC, ZD, ZE, ↓reduceIte, reduceIte, ZF, ZG, ZH, ZI, ZJ, ne_eq, forall_const, reduceCtorEq, implies_true, forall_eq, ZK, ↓zU, ↓zD, zV, zT, hd]
  exact .same
theorem Box117 {r : List (BitVec 64)} (ok : RelOk r) (s : BitVec 64) : Runs Try.prog 117 [.sl 1 (us r), .int .u64 (ui s)] (.int .u64 (ui (boxW r s))) := by
 have hc := relCheck128 ok
 have hl := ok.len
 refine CallT.go_fn mixed Try.func117 k117 (by simp) fun hf => ?_
 simp only [ZA, ZB, ZC, ZD, ZE, ↓reduceIte, reduceIte, ZF, ZG, ZH, ZI, ZJ, ne_eq, forall_const, reduceCtorEq, implies_true, forall_eq, ZK, ↓zU, ↓zD, zV, zT, us_len]
 refine .go (CallT.of_runs hc (by simp [D.isPureL, D.isPure])) ?_
 simp only [ZA, ZB, ZC, ZD, ZE, ↓reduceIte, reduceIte, ZF, ZG, ZH, ZI, ZJ, ne_eq, forall_const, reduceCtorEq, implies_true, forall_eq, ZK, ↓zU, ↓zD, zV, zT, us_len]
 refine wpS_loop (fun k : Nat => [(14, .int .i64 k), (13, .int .i64 r.length), (5, .int .u64 (ui (boxK r s k))), (1, .int .u64 (ui s)), (0, .sl 1 (us r))]) (fun _ => ⟨0, []⟩) (fun k => k ≤ r.length) (fun k => r.length - k) 0 (Nat.zero_le _) ?_ ?_
 ·(refine Weak.same ?_; simp [sameF, Fr.get])
  rfl
 intro k hk
 refine wpS_go mixed ?_
 by_cases h : k < r.length
 ·have hd : ((k : Int) < (r.length : Int)) := by omega
  have hg := us_get r h
  have hs : boxK r s (k + 1) = if (r.getD k 0 &&& ~~~s == 0#64) = true then boxK r s k ||| 1#64 <<< k else boxK r s k := rfl
  cases e : (r.getD k 0 &&& ~~~s == 0#64) with
  | true =>
   rw [e, if_pos rfl] at hs
   simp only [ZA, ZB, ZC, ZD, ZE, ↓reduceIte, reduceIte, ZF, ZG, ZH, ZI, ZJ, ne_eq, forall_const, reduceCtorEq, implies_true, forall_eq, ZK, ↓zU, ↓zD, zV, zT, hd, us_len, hg, e]
   (repeat refine sd ?_)
   refine ⟨k + 1, by omega, ?_, by omega⟩
   rw [hs]
   (refine Weak.same ?_; simp only [sameF, Fr.get, ↓reduceIte, reduceIte, Nat.reduceEqDiff, reduceCtorEq, D.int.injEq, D.bool.injEq, D.sl.injEq, and_true, true_and, and_self])
   exact wrap_i64 (by omega)
  | false =>
   rw [e, if_neg (by simp)] at hs
   simp only [ZA, ZB, ZC, ZD, ZE, ↓reduceIte, reduceIte, ZF, ZG, ZH, ZI, ZJ, ne_eq, forall_const, reduceCtorEq, implies_true, forall_eq, ZK, ↓zU, ↓zD, zV, zT, hd, us_len, hg, e]
   (repeat refine sd ?_)
   refine ⟨k + 1, by omega, ?_, by omega⟩
   rw [hs]
   (refine Weak.same ?_; simp only [sameF, Fr.get, ↓reduceIte, reduceIte, Nat.reduceEqDiff, reduceCtorEq, D.int.injEq, D.bool.injEq, D.sl.injEq, and_true, true_and, and_self])
   exact wrap_i64 (by omega)
 ·have hd : ¬ ((k : Int) < (r.length : Int)) := by omega
  have hk' : k = r.length := by omega
  subst hk'
  simp only [ZA, ZB, ZC, ZD, ZE, ↓reduceIte, reduceIte, ZF, ZG, ZH, ZI, ZJ, ne_eq, forall_const, reduceCtorEq, implies_true, forall_eq, ZK, ↓zU, ↓zD, zV, zT, hd]
  exact .same
theorem Diamond118 {r : List (BitVec 64)} (ok : RelOk r) (s : BitVec 64) : Runs Try.prog 118 [.sl 1 (us r), .int .u64 (ui s)] (.int .u64 (ui (diaW r s))) := by
 have hc := relCheck128 ok
 have ha := rall129 r.length
 have hb := Box117 ok (~~~s)
 refine CallT.go_fn mixed Try.func118 k118 (by simp) fun hf => ?_
 simp only [ZA, ZB, ZC, ZD, ZE, ↓reduceIte, reduceIte, ZF, ZG, ZH, ZI, ZJ, ne_eq, forall_const, reduceCtorEq, implies_true, forall_eq, ZK, ↓zU, ↓zD, zV, zT, us_len]
 refine .go (CallT.of_runs hc (by simp [D.isPureL, D.isPure])) ?_
 simp only [ZA, ZB, ZC, ZD, ZE, ↓reduceIte, reduceIte, ZF, ZG, ZH, ZI, ZJ, ne_eq, forall_const, reduceCtorEq, implies_true, forall_eq, ZK, ↓zU, ↓zD, zV, zT, us_len]
 refine .go (CallT.of_runs ha rfl) ?_
 simp only [ZA, ZB, ZC, ZD, ZE, ↓reduceIte, reduceIte, ZF, ZG, ZH, ZI, ZJ, ne_eq, forall_const, reduceCtorEq, implies_true, forall_eq, ZK, ↓zU, ↓zD, zV, zT, cpl_ui]
 refine .go (CallT.of_runs hb (by simp [D.isPureL, D.isPure])) ?_
 simp only [ZA, ZB, ZC, ZD, ZE, ↓reduceIte, reduceIte, ZF, ZG, ZH, ZI, ZJ, ne_eq, forall_const, reduceCtorEq, implies_true, forall_eq, ZK, ↓zU, ↓zD, zV, zT]
 exact .drop (by simp) (by simp [vw, diaW])
end Go.Pd
