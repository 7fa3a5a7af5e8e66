/- Part S7. -/
import Derived.Test.YtjklmijiccabfaaKS5
set_option linter.unusedSectionVars false
set_option linter.unusedVariables false
set_option linter.unusedSimpArgs false
set_option linter.defProp false
set_option maxRecDepth 20000
set_option maxHeartbeats 1000000
namespace Go.Pd
open Go Go.Proofs
open Int renaming reduceToNat → ZA, reduceLT → ZB, reduceLE → ZC, reduceBEq → ZD, reduceBNe → ZE
open Nat renaming reduceEqDiff → ZF, reduceAdd → ZG, reduceBEq → ZH, reduceLT → ZI, reduceLeDiff → ZJ, reduceMul → ZK
namespace Ru
structure ModA where
 W : Int
 V : List (BitVec 64)
 R : List (List (BitVec 64))
def ModA.d (m : ModA) : D := .agg [.int .i64 m.W, .sl 1 (us m.V), .sl 1 (rr m.R)]
def allW (n : Nat) : BitVec 64 := if 64 ≤ n then 18446744073709551615#64 else 1#64 <<< n - 1#64
def outW (n : Nat) (x : BitVec 64) : Bool := !decide (x &&& ~~~(allW n) = 0#64)
structure ModOk (m : ModA) (W : Nat) : Prop where
 w : m.W = W
 hW : 1 ≤ W ∧ W ≤ 64
 hV : m.V.length ≤ 8
 hR : m.R.length ≤ 4
 row : ∀ r ∈ m.R, r.length = W
 val : ∀ x ∈ m.V, outW W x = false
 rel : ∀ r ∈ m.R, ∀ x ∈ r, outW W x = false
theorem allW_bit {n : Nat} (hn : n ≤ 64) {i : Nat} (hi : i < 64) : (allW n).getLsbD i = decide (i < n) := by
 unfold allW
 by_cases h : 64 ≤ n
 ·rw [if_pos h, show 18446744073709551615#64 = BitVec.allOnes 64 from rfl, BitVec.getLsbD_allOnes]
  simp [hi]; omega
 ·rw [if_neg h]
  have : ∀ n, n < 64 → ∀ i, i < 64 → (1#64 <<< n - 1#64).getLsbD i = decide (i < n) := by decide
  exact this n (by omega) i hi
theorem outW_of {n : Nat} (hn : n ≤ 64) {x : BitVec 64} (h : ∀ i, x.getLsbD i = true → i < n) : outW n x = false := by
 unfold outW
 rw [Bool.not_eq_false', decide_eq_true_iff]
 refine BitVec.eq_of_getLsbD_eq fun i hi => ?_
 rw [BitVec.getLsbD_and, BitVec.getLsbD_not, allW_bit hn hi, BitVec.getLsbD_zero]
 cases hx : x.getLsbD i
 ·rfl
 ·simp [h i hx]
end Ru
open Ru
theorem index65 {σ : St} {g : FuncId} {caps : List D} {f : List (BitVec 64) → Bool} {l : List (List (BitVec 64))} (hl : l.length ≤ 1000) (h : ∀ x ∈ l, CallT Try.prog g ([.sl 1 (us x)] ++ caps) σ (.bool (f x)) σ) : CallT Try.prog 135 [.sl 1 (rr l), .fn g caps] σ (.int .i64 (ixF f l 0)) σ := by
 refine CallT.go_fn mixed Try.func135 k135 (by simp) fun hf => ?_
 simp only [ZA, ZB, ZC, ZD, ZE, ↓reduceIte, reduceIte, ZF, ZG, ZH, ZI, ZJ, ne_eq, forall_const, reduceCtorEq, implies_true, forall_eq, ZK, ↓zU, ↓zD, zV, zT, rr_len]
 refine wpS_loop (fun k : Nat => [(8, .int .i64 k), (7, .int .i64 l.length), (1, .fn g caps), (0, .sl 1 (rr l))]) (fun _ => σ) (fun k => k ≤ l.length ∧ ixF f l 0 = ixF f (l.drop k) k) (fun k => l.length - k) 0 ⟨Nat.zero_le _, rfl⟩ ?_ ?_
 ·(refine Weak.same ?_; simp [sameF, Fr.get])
 intro k ⟨hk, hi⟩
 refine wpS_go mixed ?_
 by_cases hh : k < l.length
 ·have hd : ((k : Int) < (l.length : Int)) := by omega
  rw [drop_cons (d := []) hh, ixF] at hi
  simp only [ZA, ZB, ZC, ZD, ZE, ↓reduceIte, reduceIte, ZF, ZG, ZH, ZI, ZJ, ne_eq, forall_const, reduceCtorEq, implies_true, forall_eq, ZK, ↓zU, ↓zD, zV, zT, hd, rr_len, rr_get _ hh]
  (repeat refine sd ?_)
  refine .go (h _ (getD_mem hh)) ?_
  cases hx : f (l.getD k [])
  ·rw [hx, if_neg (by simp)] at hi
   simp only [ZA, ZB, ZC, ZD, ZE, ↓reduceIte, reduceIte, ZF, ZG, ZH, ZI, ZJ, ne_eq, forall_const, reduceCtorEq, implies_true, forall_eq, ZK, ↓zU, ↓zD, zV, zT]
   refine ⟨k + 1, ⟨by omega, hi⟩, ?_, by omega⟩
   (refine Weak.same ?_; simp only [sameF, Fr.get, ↓reduceIte, reduceIte, Nat.reduceEqDiff, reduceCtorEq, D.int.injEq, D.bool.injEq, D.sl.injEq, and_true, true_and, and_self])
   exact wrap_i64 (by omega)
  ·rw [hx, if_pos rfl] at hi
   simp only [ZA, ZB, ZC, ZD, ZE, ↓reduceIte, reduceIte, ZF, ZG, ZH, ZI, ZJ, ne_eq, forall_const, reduceCtorEq, implies_true, forall_eq, ZK, ↓zU, ↓zD, zV, zT]
   rw [hi]
   exact .same
 ·have hd : ¬ ((k : Int) < (l.length : Int)) := by omega
  rw [List.drop_eq_nil_of_le (by omega), ixF] at hi
  simp only [ZA, ZB, ZC, ZD, ZE, ↓reduceIte, reduceIte, ZF, ZG, ZH, ZI, ZJ, ne_eq, forall_const, reduceCtorEq, implies_true, forall_eq, ZK, ↓zU, ↓zD, zV, zT, hd]
  rw [hi]
  exact .same
theorem contains47 {σ : St} {g : FuncId} {caps : List D} {f : List (BitVec 64) → Bool} {l : List (List (BitVec 64))} (hl : l.length ≤ 1000) (h : ∀ x ∈ l, CallT Try.prog g ([.sl 1 (us x)] ++ caps) σ (.bool (f x)) σ) : CallT Try.prog 126 [.sl 1 (rr l), .fn g caps] σ (.bool (l.any f)) σ := by
 refine CallT.go_fn mixed Try.func126 k126 (by simp) fun hf => ?_
 simp only [ZA, ZB, ZC, ZD, ZE, ↓reduceIte, reduceIte, ZF, ZG, ZH, ZI, ZJ, ne_eq, forall_const, reduceCtorEq, implies_true, forall_eq, ZK, ↓zU, ↓zD, zV, zT]
 refine .go (index65 hl h) ?_
 have hx := ixF_any (f := f) (c := l) (i := 0) (Int.le_refl 0)
 cases ha : l.any f
 ·have h1 : ¬ 0 ≤ ixF f l 0 := fun y => by rw [hx.1 y] at ha; cases ha
  simp only [ZA, ZB, ZC, ZD, ZE, ↓reduceIte, reduceIte, ZF, ZG, ZH, ZI, ZJ, ne_eq, forall_const, reduceCtorEq, implies_true, forall_eq, ZK, ↓zU, ↓zD, zV, zT, h1]
  exact .same
 ·have h1 := hx.2 ha
  simp only [ZA, ZB, ZC, ZD, ZE, ↓reduceIte, reduceIte, ZF, ZG, ZH, ZI, ZJ, ne_eq, forall_const, reduceCtorEq, implies_true, forall_eq, ZK, ↓zU, ↓zD, zV, zT, h1]
  exact .same
theorem all64 (n : Nat) : Runs Try.prog 134 [.int .i64 n] (.int .u64 (ui (allW n))) := by
 refine CallT.go_fn mixed Try.func134 k134 (by simp) fun hf => ?_
 unfold allW
 by_cases h : 64 ≤ n
 ·have e : (64 : Int) ≤ (n : Int) := by omega
  rw [if_pos h]
  simp only [ZA, ZB, ZC, ZD, ZE, ↓reduceIte, reduceIte, ZF, ZG, ZH, ZI, ZJ, ne_eq, forall_const, reduceCtorEq, implies_true, forall_eq, ZK, ↓zU, ↓zD, zV, zT, e]
  exact .same
 ·have e : ¬ (64 : Int) ≤ (n : Int) := by omega
  rw [if_neg h]
  simp only [ZA, ZB, ZC, ZD, ZE, ↓reduceIte, reduceIte, ZF, ZG, ZH, ZI, ZJ, ne_eq, forall_const, reduceCtorEq, implies_true, forall_eq, ZK, ↓zU, ↓zD, zV, zT, e]
  (repeat refine sd ?_)
  exact .same
theorem out63 {n nx : Nat} {objs : List (Nat × Ob)} {k : Nat} (h0 : St.look objs k = some ⟨1, [[.int .i64 n]]⟩) (x : BitVec 64) : CallT Try.prog 133 ([.int .u64 (ui x)] ++ [.ref k 1 0 0]) ⟨nx, objs⟩ (.bool (outW n x)) ⟨nx, objs⟩ := by
 refine CallT.go_fn mixed Try.func133 k133 (by simp) fun hf => ?_
 simp only [ZA, ZB, ZC, ZD, ZE, ↓reduceIte, reduceIte, ZF, ZG, ZH, ZI, ZJ, ne_eq, forall_const, reduceCtorEq, implies_true, forall_eq, ZK, ↓zU, ↓zD, zV, zT, h0]
 (repeat refine sd ?_)
 refine .go (CallT.of_runs (all64 n) rfl) ?_
 simp only [ZA, ZB, ZC, ZD, ZE, ↓reduceIte, reduceIte, ZF, ZG, ZH, ZI, ZJ, ne_eq, forall_const, reduceCtorEq, implies_true, forall_eq, ZK, ↓zU, ↓zD, zV, zT]
 rw [show (x &&& ~~~(allW n) != 0#64) = outW n x by unfold outW; rw [bne]; congr 1]
 exact .same
theorem outside46 {l : List (BitVec 64)} (hl : l.length ≤ 1000) (n : Nat) : Runs Try.prog 125 [.sl 1 (us l), .int .i64 n] (.bool (l.any (outW n))) := by
 refine CallT.go_fn mixed Try.func125 k125 (by simp) fun hf => ?_
 simp only [ZA, ZB, ZC, ZD, ZE, ↓reduceIte, reduceIte, ZF, ZG, ZH, ZI, ZJ, ne_eq, forall_const, reduceCtorEq, implies_true, forall_eq, ZK, ↓zU, ↓zD, zV, zT]
 refine .go (contains53 (caps := [.ref 0 1 0 0]) hl fun x _ => out63 rfl x) ?_
 simp only [ZA, ZB, ZC, ZD, ZE, ↓reduceIte, reduceIte, ZF, ZG, ZH, ZI, ZJ, ne_eq, forall_const, reduceCtorEq, implies_true, forall_eq, ZK, ↓zU, ↓zD, zV, zT]
 exact .drop (by simp) (by simp [vw])
theorem chk48 {m : ModA} {W : Nat} (hw : m.W = W) {nx : Nat} {objs : List (Nat × Ob)} (h0 : St.look objs 0 = some ⟨3, [[.int .i64 m.W, .sl 1 (us m.V), .sl 1 (rr m.R)]]⟩) {x : List (BitVec 64)} (hx : x.length ≤ 1000) : CallT Try.prog 127 ([.sl 1 (us x)] ++ [.ref 0 3 0 0]) ⟨nx, objs⟩ (.bool (x.any (outW W))) ⟨nx, objs⟩ := by
 refine CallT.go_fn mixed Try.func127 k127 (by simp) fun hf => ?_
 simp only [ZA, ZB, ZC, ZD, ZE, ↓reduceIte, reduceIte, ZF, ZG, ZH, ZI, ZJ, ne_eq, forall_const, reduceCtorEq, implies_true, forall_eq, ZK, ↓zU, ↓zD, zV, zT, h0, hw]
 (repeat refine sd ?_)
 refine .go (CallT.of_runs (outside46 hx W) (by simp [D.isPureL, D.isPure])) ?_
 simp only [ZA, ZB, ZC, ZD, ZE, ↓reduceIte, reduceIte, ZF, ZG, ZH, ZI, ZJ, ne_eq, forall_const, reduceCtorEq, implies_true, forall_eq, ZK, ↓zU, ↓zD, zV, zT]
 exact .same
theorem modCheck24 {m : ModA} {W : Nat} (ok : ModOk m W) : Runs Try.prog 116 [m.d] (.int .i64 0) := by
 obtain ⟨W1, W64⟩ := ok.hW
 have h1 : ¬ (W : Int) < 1 := by omega
 have h2 : ¬ (64 : Int) < (W : Int) := by omega
 have h3 : ¬ (4 : Int) < (m.R.length : Int) := by have := ok.hR; omega
 have h4 : ¬ (8 : Int) < (m.V.length : Int) := by have := ok.hV; omega
 have hv : m.V.any (outW W) = false := List.any_eq_false.2 fun x hx => by rw [ok.val x hx]; simp
 have hr : m.R.any (fun x => x.any (outW W)) = false := List.any_eq_false.2 fun x hx => by
  rw [List.any_eq_false.2 fun y hy => by rw [ok.rel x hx y hy]; simp]; simp
 have ho := outside46 (l := m.V) (by have := ok.hV; omega) W
 have hc := contains47 (σ := ⟨1, [(0, ⟨3, [[.int .i64 m.W, .sl 1 (us m.V), .sl 1 (rr m.R)]]⟩)]⟩) (g := 127) (caps := [.ref 0 3 0 0]) (f := fun x => x.any (outW W)) (l := m.R) (by have := ok.hR; omega) fun x hx => chk48 ok.w rfl (by rw [ok.row x hx]; omega)
 rw [hv] at ho
 rw [hr, ok.w] at hc
 unfold ModA.d
 refine CallT.go_fn mixed Try.func116 k116 (by simp) fun hf => ?_
 simp only [ZA, ZB, ZC, ZD, ZE, ↓reduceIte, reduceIte, ZF, ZG, ZH, ZI, ZJ, ne_eq, forall_const, reduceCtorEq, implies_true, forall_eq, ZK, ↓zU, ↓zD, zV, zT, ok.w, h1, h2, rr_len, us_len, h3, h4]
 refine wpS_loop (fun k : Nat => [(26, .int .i64 k), (25, .int .i64 m.R.length), (24, .sl 1 (rr m.R)), (1, .ref 0 3 0 0)]) (fun _ => ⟨1, [(0, ⟨3, [[.int .i64 W, .sl 1 (us m.V), .sl 1 (rr m.R)]]⟩)]⟩)
  (fun k => k ≤ m.R.length) (fun k => m.R.length - k) 0 (Nat.zero_le _) ?_ ?_
 ·(refine Weak.same ?_; simp [sameF, Fr.get])
 intro k hk
 refine wpS_go mixed ?_
 by_cases h : k < m.R.length
 ·have hd : ((k : Int) < (m.R.length : Int)) := by omega
  have hrw := ok.row _ (getD_mem (d := []) h)
  have hg := rr_get m.R h
  generalize m.R.getD k [] = r at hrw hg
  have e : ((r.length : Int) != (W : Int)) = false := by rw [hrw]; simp
  simp only [ZA, ZB, ZC, ZD, ZE, ↓reduceIte, reduceIte, ZF, ZG, ZH, ZI, ZJ, ne_eq, forall_const, reduceCtorEq, implies_true, forall_eq, ZK, ↓zU, ↓zD, zV, zT, hd, rr_len, hg, us_len, e]
  (repeat refine sd ?_)
  refine ⟨k + 1, by omega, ?_, by omega⟩
  (refine Weak.same ?_; simp only [sameF, Fr.get, ↓reduceIte, reduceIte, Nat.reduceEqDiff, reduceCtorEq, D.int.injEq, D.bool.injEq, D.sl.injEq, and_true, true_and, and_self])
  exact wrap_i64 (by omega)
 ·have hd : ¬ ((k : Int) < (m.R.length : Int)) := by omega
  simp only [ZA, ZB, ZC, ZD, ZE, ↓reduceIte, reduceIte, ZF, ZG, ZH, ZI, ZJ, ne_eq, forall_const, reduceCtorEq, implies_true, forall_eq, ZK, ↓zU, ↓zD, zV, zT, hd]
  refine .go (CallT.of_runs ho (by simp [D.isPureL, D.isPure])) ?_
  simp only [ZA, ZB, ZC, ZD, ZE, ↓reduceIte, reduceIte, ZF, ZG, ZH, ZI, ZJ, ne_eq, forall_const, reduceCtorEq, implies_true, forall_eq, ZK, ↓zU, ↓zD, zV, zT]
  refine .go hc ?_
  simp only [ZA, ZB, ZC, ZD, ZE, ↓reduceIte, reduceIte, ZF, ZG, ZH, ZI, ZJ, ne_eq, forall_const, reduceCtorEq, implies_true, forall_eq, ZK, ↓zU, ↓zD, zV, zT]
  exact .drop (by simp) (by simp [vw])
end Go.Pd
