/- Part S5. -/
import Derived.Test.YtjklmijiccabfaaKSQ
set_option linter.unusedSectionVars false
set_option linter.unusedVariables false
set_option linter.unusedSimpArgs false
set_option linter.defProp false
set_option maxRecDepth 20000
set_option maxHeartbeats 1000000
namespace Go.Pd
open Go Go.Proofs
open Int renaming reduceToNat → ZA, reduceLT → ZB, reduceLE → ZC, reduceBEq → ZD, reduceBNe → ZE
open Nat renaming reduceEqDiff → ZF, reduceAdd → ZG, reduceBEq → ZH, reduceLT → ZI, reduceLeDiff → ZJ, reduceMul → ZK
open Ru
namespace Ru
def mixL (F : Nat) (g h : Nat → BitVec 64) (i : Nat) : List (BitVec 64) := (List.range F).map fun f => if f < i then g f else h f
theorem mixL_len (F : Nat) (g h : Nat → BitVec 64) (i : Nat) : (mixL F g h i).length = F := by simp [mixL]
theorem mixL_zero (F : Nat) (g h : Nat → BitVec 64) : mixL F g h 0 = (List.range F).map h := by simp [mixL]
theorem mixL_all (F : Nat) (g h : Nat → BitVec 64) {i : Nat} (hi : F ≤ i) : mixL F g h i = (List.range F).map g := by
 refine List.map_congr_left fun f hf => ?_
 rw [if_pos (by have := List.mem_range.1 hf; omega)]
theorem mixL_get {F : Nat} (g h : Nat → BitVec 64) {i : Nat} (hi : i < F) : (mixL F g h i).getD i 0 = h i := by
 simp [mixL, List.getD, hi]
theorem mixL_set (F : Nat) (g h : Nat → BitVec 64) (i : Nat) : (mixL F g h i).set i (g i) = mixL F g h (i + 1) := by
 refine List.ext_getElem (by simp [mixL]) fun k h1 h2 => ?_
 rw [List.getElem_set]
 simp only [mixL, List.getElem_map, List.getElem_range]
 by_cases e : i = k
 ·subst e; rw [if_pos rfl, if_pos (by omega)]
 ·rw [if_neg e]
  by_cases hk : k < i
  ·rw [if_pos hk, if_pos (by omega)]
  ·rw [if_neg hk, if_neg (by omega)]
theorem bit_shl (x : BitVec 64) (f w : Nat) : (x >>> f &&& 1#64) <<< w = if x.getLsbD f then 1#64 <<< w else 0#64 := by
 rw [bit_and1]
 split
 ·rfl
 ·exact BitVec.zero_shiftLeft _
theorem pureE_mU (u : List (Int × BitVec 64)) : pureE (mrow .i64 (mU u)) = True := eq_true (pureE_mrow fun p hp => by
 simp only [mU, List.mem_map] at hp
 obtain ⟨q, _, rfl⟩ := hp
 rfl)
end Ru
theorem points32 {rs : List RunA} {A F T : Nat} (ok : OkR rs A F T) {l : List (Nat × Nat)} (hl : l.length ≤ 64) (hin : Inb rs T l) : Runs Try.prog 46 [sD A F T rs, .sl 2 (ptR l)] (modD rs l A F) := by
 have hA := ok.hA
 have hF := ok.hF
 have hloc := fun (a : Nat) (ha : a < A) (p : Nat × Nat) (hp : p.1 < rs.length ∧ p.2 < T) => local38 ok ha hp
 unfold sD modD at *
 refine CallT.go_fn mixed Try.func46 k46 (by simp) fun hf => ?_
 have hz : List.replicate F [D.int .u64 (ui 0#64)] = us ((List.range F).map fun f => valK rs l f 0) := by
  simp only [valK, us, List.map_map]
  refine List.ext_getElem (by simp) fun i h1 h2 => ?_
  simp
 simp only [ZA, ZB, ZC, ZD, ZE, ↓reduceIte, reduceIte, ZF, ZG, ZH, ZI, ZJ, ne_eq, forall_const, reduceCtorEq, implies_true, forall_eq, ZK, ↓zU, ↓zD, zV, zT, ptR_len]
 (repeat refine sd ?_)
 refine wpS_loop (fun w : Nat => [(24, .int .i64 w), (23, .int .i64 l.length), (22, .sl 2 (ptR l)), (5, .ref 3 3 0 0), (4, .ref 1 3 0 0), (2, .ref 0 4 0 0), (1, .sl 2 (ptR l))])
  (fun w => ⟨4, [(3, ⟨3, [[.int .i64 l.length, .osl 2 1 F, .nils]]⟩), (2, ⟨1, us ((List.range F).map fun f => valK rs l f w)⟩), (1, ⟨3, [[.int .i64 0, .nils, .nils]]⟩), (0, ⟨4, [[.int .i64 A, .int .i64 F, .int .i64 T, .sl 2 (runR rs)]]⟩)]⟩)
  (fun w => w ≤ l.length) (fun w => l.length - w) 0 (Nat.zero_le _) ?_ ?_
 ·rw [← hz]
  (refine Weak.same ?_; simp [sameF, Fr.get])
 intro w hw
 refine wpS_go mixed ?_
 by_cases hwl : w < l.length
 ·have hd : ((w : Int) < (l.length : Int)) := by omega
  have hp := hin _ (getD_mem (d := (0, 0)) hwl)
  have hpg := ptR_get l hwl
  have hv : ∀ f, valK rs l f (w + 1) = valK rs l f w ||| (if (facA rs (l.getD w (0, 0))).getLsbD f then 1#64 <<< w else 0#64) := fun f => rfl
  generalize l.getD w (0, 0) = q at hp hpg hv
  obtain ⟨q1, q2⟩ := q
  have hm := getD_mem (d := run0) hp.1
  have hg := runR_get rs hp.1
  have h1 := ok.fac _ hm
  unfold facA at hv
  simp only at hp hpg hv hm hg h1
  generalize rs.getD q1 run0 = r at hg h1 hv
  have hg2 := us_get r.fac (show q2 < r.fac.length by omega)
  generalize r.fac.getD q2 0 = x at hg2 hv
  simp only [ZA, ZB, ZC, ZD, ZE, ↓reduceIte, reduceIte, ZF, ZG, ZH, ZI, ZJ, ne_eq, forall_const, reduceCtorEq, implies_true, forall_eq, ZK, ↓zU, ↓zD, zV, zT, hd, ptR_len, hpg]
  (repeat refine sd ?_)
  refine wpS_loop (fun i : Nat => [(32, .int .i64 i), (31, .int .i64 F), (24, .int .i64 w), (23, .int .i64 l.length), (22, .sl 2 (ptR l)), (7, .ref 4 2 0 0), (6, .int .i64 w), (5, .ref 3 3 0 0), (4, .ref 1 3 0 0), (2, .ref 0 4 0 0), (1, .sl 2 (ptR l))])
   (fun i => ⟨5, [(4, ⟨2, [[.int .i64 q1, .int .i64 q2]]⟩), (3, ⟨3, [[.int .i64 l.length, .osl 2 1 F, .nils]]⟩), (2, ⟨1, us (mixL F (fun f => valK rs l f (w + 1)) (fun f => valK rs l f w) i)⟩), (1, ⟨3, [[.int .i64 0, .nils, .nils]]⟩), (0, ⟨4, [[.int .i64 A, .int .i64 F, .int .i64 T, .sl 2 (runR rs)]]⟩)]⟩)
   (fun i => i ≤ F) (fun i => F - i) 0 (Nat.zero_le _) ?_ ?_
  ·rw [mixL_zero]
   (refine Weak.same ?_; simp [sameF, Fr.get])
  intro i hi
  refine wpS_go mixed ?_
  by_cases hil : i < F
  ·have hd2 : ((i : Int) < (F : Int)) := by omega
   have hmg := us_get (mixL F (fun f => valK rs l f (w + 1)) (fun f => valK rs l f w) i) (show i < _ by rw [mixL_len]; exact hil)
   rw [mixL_get _ _ hil] at hmg
   have hms := mixL_set F (fun f => valK rs l f (w + 1)) (fun f => valK rs l f w) i
   simp only [hv i] at hms
   have hml := mixL_len F (fun f => valK rs l f (w + 1)) (fun f => valK rs l f w) i
   generalize mixL F (fun f => valK rs l f (w + 1)) (fun f => valK rs l f w) i = M at hmg hms hml
   simp only [ZA, ZB, ZC, ZD, ZE, ↓reduceIte, reduceIte, ZF, ZG, ZH, ZI, ZJ, ne_eq, forall_const, reduceCtorEq, implies_true, forall_eq, ZK, ↓zU, ↓zD, zV, zT, hd2, us_len, hml, hmg, runR_len, hg, RunA.row, h1, hg2, bit_shl, us_set, hms]
   (repeat refine sd ?_)
   refine ⟨i + 1, by omega, ?_, by omega⟩
   (refine Weak.same ?_; simp only [sameF, Fr.get, ↓reduceIte, reduceIte, Nat.reduceEqDiff, reduceCtorEq, D.int.injEq, D.bool.injEq, D.sl.injEq, and_true, true_and, and_self])
   exact wrap_i64 (by omega)
  ·have hd2 : ¬ ((i : Int) < (F : Int)) := by omega
   rw [mixL_all _ _ _ (by omega : F ≤ i)]
   simp only [ZA, ZB, ZC, ZD, ZE, ↓reduceIte, reduceIte, ZF, ZG, ZH, ZI, ZJ, ne_eq, forall_const, reduceCtorEq, implies_true, forall_eq, ZK, ↓zU, ↓zD, zV, zT, hd2]
   (repeat refine sd ?_)
   refine ⟨w + 1, by omega, ?_, by omega⟩
   (refine Weak.ren [] [3, 2, 1, 0] (by simp) (by simp) (by decide) ?_; simp only [stay1, vwL, vw, vwF, sw, St.get, St.look, Fr.get, ↓reduceIte, reduceIte, Nat.reduceEqDiff, Nat.reduceAdd, Nat.reduceBEq, Nat.reduceLT, Nat.reduceLeDiff, exists_eq_left', ne_eq, reduceCtorEq, zR, pureE_us])
   exact wrap_i64 (by omega)
 have hd : ¬ ((w : Int) < (l.length : Int)) := by omega
 obtain rfl : w = l.length := by omega
 rw [show ((List.range F).map fun f => valK rs l f l.length) = valL rs l F from rfl]
 simp only [ZA, ZB, ZC, ZD, ZE, ↓reduceIte, reduceIte, ZF, ZG, ZH, ZI, ZJ, ne_eq, forall_const, reduceCtorEq, implies_true, forall_eq, ZK, ↓zU, ↓zD, zV, zT, hd]
 refine wpS_loop (fun a : Nat => [(62, .int .i64 a), (61, .int .i64 A), (5, .ref 3 3 0 0), (4, .ref 1 3 0 0), (2, .ref 0 4 0 0), (1, .sl 2 (ptR l))])
  (fun a => ⟨5, growO 4 1 (rr (relL rs l a)) ++ [(3, ⟨3, [[.int .i64 l.length, .osl 2 1 F, growD 4 1 (rr (relL rs l a))]]⟩), (2, ⟨1, us (valL rs l F)⟩), (1, ⟨3, [[.int .i64 0, .nils, .nils]]⟩), (0, ⟨4, [[.int .i64 A, .int .i64 F, .int .i64 T, .sl 2 (runR rs)]]⟩)]⟩)
  (fun a => a ≤ A) (fun a => A - a) 0 (Nat.zero_le _) ?_ ?_
 ·(refine Weak.ren [] [3, 2, 1, 0] (by simp) (by simp) (by decide) ?_; simp only [stay1, vwL, vw, vwF, sw, St.get, St.look, Fr.get, ↓reduceIte, reduceIte, Nat.reduceEqDiff, Nat.reduceAdd, Nat.reduceBEq, Nat.reduceLT, Nat.reduceLeDiff, exists_eq_left', ne_eq, reduceCtorEq, zR, relL, List.range_zero, List.map_nil, growD_nil, growO_nil, List.nil_append, pureE_us, show rr [] = [] from rfl])
 intro a ha
 refine wpS_go mixed ?_
 by_cases hal : a < A
 case neg =>
  have hd2 : ¬ ((a : Int) < (A : Int)) := by omega
  rw [show a = A by omega]
  rw [show a = A by omega] at hd2
  have hvl : (us (valL rs l F)).length = F := by simp [us, valL]
  simp only [ZA, ZB, ZC, ZD, ZE, ↓reduceIte, reduceIte, ZF, ZG, ZH, ZI, ZJ, ne_eq, forall_const, reduceCtorEq, implies_true, forall_eq, ZK, ↓zU, ↓zD, zV, zT, hd2]
  (refine RetV.ren [] [] (by simp) (by simp) (by decide) ?_; simp only [stay1, vwL, vw, vwF, sw, St.get, St.look, Fr.get, ↓reduceIte, reduceIte, Nat.reduceEqDiff, Nat.reduceAdd, Nat.reduceBEq, Nat.reduceLT, Nat.reduceLeDiff, exists_eq_left', ne_eq, reduceCtorEq, zR, pureE_us, pureE_rr])
  exact ⟨fun _ h => h.elim, by omega, (List.take_of_length_le (by omega)).symm, us_pure _⟩
 have hd2 : ((a : Int) < (A : Int)) := by omega
 have hrel : relL rs l (a + 1) = relL rs l a ++ [relR rs l a] := by
  unfold relL; rw [List.range_succ, List.map_append]; rfl
 generalize hRL : relL rs l a = RL at hrel
 simp only [ZA, ZB, ZC, ZD, ZE, ↓reduceIte, reduceIte, ZF, ZG, ZH, ZI, ZJ, ne_eq, forall_const, reduceCtorEq, implies_true, forall_eq, ZK, ↓zU, ↓zD, zV, zT, hd2, ptR_len]
 (repeat refine sd ?_)
 refine wpS_loop (fun w : Nat => [(68, .int .i64 w), (67, .int .i64 l.length), (66, .sl 2 (ptR l)), (62, .int .i64 a), (61, .int .i64 A), (10, .mref 5), (9, .int .i64 a), (5, .ref 3 3 0 0), (4, .ref 1 3 0 0), (2, .ref 0 4 0 0), (1, .sl 2 (ptR l))])
  (fun w => ⟨6, (5, ⟨0, mrow .i64 (mU (uK rs l a w))⟩) :: (growO 4 1 (rr RL) ++ [(3, ⟨3, [[.int .i64 l.length, .osl 2 1 F, growD 4 1 (rr RL)]]⟩), (2, ⟨1, us (valL rs l F)⟩), (1, ⟨3, [[.int .i64 0, .nils, .nils]]⟩), (0, ⟨4, [[.int .i64 A, .int .i64 F, .int .i64 T, .sl 2 (runR rs)]]⟩)])⟩)
  (fun w => w ≤ l.length) (fun w => l.length - w) 0 (Nat.zero_le _) ?_ ?_
 ·(refine Weak.ren [] [5, 4, 3, 2, 1, 0] (by simp) (by simp) (by decide) ?_; simp only [stay1, vwL, vw, vwF, sw, St.get, St.look, Fr.get, ↓reduceIte, reduceIte, Nat.reduceEqDiff, Nat.reduceAdd, Nat.reduceBEq, Nat.reduceLT, Nat.reduceLeDiff, exists_eq_left', ne_eq, reduceCtorEq, zR, uK, mU, List.map_nil, mrow_nil, pureE_us, pureE_rr])
 intro w hw
 refine wpS_go mixed ?_
 by_cases hwl : w < l.length
 ·have hd3 : ((w : Int) < (l.length : Int)) := by omega
  have hp := hin _ (getD_mem (d := (0, 0)) hwl)
  have hpg := ptR_get l hwl
  have hS : uK rs l a (w + 1) = putU (locA rs a (l.getD w (0, 0))) (ulk (locA rs a (l.getD w (0, 0))) (uK rs l a w) ||| 1#64 <<< w) (uK rs l a w) := rfl
  have hlc := hloc a hal _ hp
  generalize l.getD w (0, 0) = q at hp hpg hS hlc
  obtain ⟨q1, q2⟩ := q
  simp only at hpg hlc
  generalize locA rs a (q1, q2) = x at hS hlc
  generalize uK rs l a w = u at hS
  simp only [ZA, ZB, ZC, ZD, ZE, ↓reduceIte, reduceIte, ZF, ZG, ZH, ZI, ZJ, ne_eq, forall_const, reduceCtorEq, implies_true, forall_eq, ZK, ↓zU, ↓zD, zV, zT, hd3, ptR_len, hpg]
  (repeat refine sd ?_)
  refine .go (CallT.of_runs hlc (by simp [D.isPureL, D.isPure])) ?_
  simp only [ZA, ZB, ZC, ZD, ZE, ↓reduceIte, reduceIte, ZF, ZG, ZH, ZI, ZJ, ne_eq, forall_const, reduceCtorEq, implies_true, forall_eq, ZK, ↓zU, ↓zD, zV, zT, mres_mU, aput_mU]
  (repeat refine sd ?_)
  refine ⟨w + 1, by omega, ?_, by omega⟩
  rw [hS]
  (refine Weak.ren [] [5, 4, 3, 2, 1, 0] (by simp) (by simp) (by decide) ?_; simp only [stay1, vwL, vw, vwF, sw, St.get, St.look, Fr.get, ↓reduceIte, reduceIte, Nat.reduceEqDiff, Nat.reduceAdd, Nat.reduceBEq, Nat.reduceLT, Nat.reduceLeDiff, exists_eq_left', ne_eq, reduceCtorEq, zR, pureE_us, pureE_rr, pureE_mU])
  exact wrap_i64 (by omega)
 have hd3 : ¬ ((w : Int) < (l.length : Int)) := by omega
 obtain rfl : w = l.length := by omega
 have hu := fun x => ulk_uK rs l a x l.length
 generalize uK rs l a l.length = u at hu
 simp only [ZA, ZB, ZC, ZD, ZE, ↓reduceIte, reduceIte, ZF, ZG, ZH, ZI, ZJ, ne_eq, forall_const, reduceCtorEq, implies_true, forall_eq, ZK, ↓zU, ↓zD, zV, zT, hd3, ptR_len]
 refine wpS_loopW (fun w : Nat => [(85, .int .i64 w), (84, .int .i64 l.length), (83, .sl 2 (ptR l)), (62, .int .i64 a), (61, .int .i64 A), (13, growD 6 1 (us ((relR rs l a).take w))), (10, .mref 5), (9, .int .i64 a), (5, .ref 3 3 0 0), (4, .ref 1 3 0 0), (2, .ref 0 4 0 0), (1, .sl 2 (ptR l))])
  (fun w => ⟨7, growO 6 1 (us ((relR rs l a).take w)) ++ ((5, ⟨0, mrow .i64 (mU u)⟩) :: (growO 4 1 (rr RL) ++ [(3, ⟨3, [[.int .i64 l.length, .osl 2 1 F, growD 4 1 (rr RL)]]⟩), (2, ⟨1, us (valL rs l F)⟩), (1, ⟨3, [[.int .i64 0, .nils, .nils]]⟩), (0, ⟨4, [[.int .i64 A, .int .i64 F, .int .i64 T, .sl 2 (runR rs)]]⟩)]))⟩)
  (fun w => w ≤ l.length) (fun w => l.length - w) 0 (Nat.zero_le _) ?_ ?_
 ·(refine Weak.ren [] [5, 4, 3, 2, 1, 0] (by simp) (by simp) (by decide) ?_; simp only [stay1, vwL, vw, vwF, sw, St.get, St.look, Fr.get, ↓reduceIte, reduceIte, Nat.reduceEqDiff, Nat.reduceAdd, Nat.reduceBEq, Nat.reduceLT, Nat.reduceLeDiff, exists_eq_left', ne_eq, reduceCtorEq, zR, List.take_zero, us_nil, growD_nil, growO_nil, List.nil_append, pureE_us, pureE_rr, pureE_mU])
 intro w hw
 refine wpS_go mixed ?_
 have hrl := (show (relR rs l a).length = l.length by simp [relR])
 by_cases hwl : w < l.length
 ·have hd3 : ((w : Int) < (l.length : Int)) := by omega
  have hp := hin _ (getD_mem (d := (0, 0)) hwl)
  have hpg := ptR_get l hwl
  have hrg : (relR rs l a).take (w + 1) = (relR rs l a).take w ++ [ulk (locA rs a (l.getD w (0, 0))) u] := by
   rw [take_snoc (d := 0#64) (by omega), hu]
   congr 1
   simp [relR, List.getD, hwl]
  have hlc := hloc a hal _ hp
  generalize l.getD w (0, 0) = q at hp hpg hrg hlc
  obtain ⟨q1, q2⟩ := q
  simp only at hpg hlc
  generalize locA rs a (q1, q2) = x at hrg hlc
  have htl : ((relR rs l a).take w).length = w := by rw [List.length_take]; omega
  generalize (relR rs l a).take w = rw' at hrg htl
  simp only [ZA, ZB, ZC, ZD, ZE, ↓reduceIte, reduceIte, ZF, ZG, ZH, ZI, ZJ, ne_eq, forall_const, reduceCtorEq, implies_true, forall_eq, ZK, ↓zU, ↓zD, zV, zT, hd3, ptR_len, hpg]
  (repeat refine sd ?_)
  refine .go (CallT.of_runs hlc (by simp [D.isPureL, D.isPure])) ?_
  simp only [ZA, ZB, ZC, ZD, ZE, ↓reduceIte, reduceIte, ZF, ZG, ZH, ZI, ZJ, ne_eq, forall_const, reduceCtorEq, implies_true, forall_eq, ZK, ↓zU, ↓zD, zV, zT, mres_mU, us_len, htl]
  (repeat refine sd ?_)
  refine ⟨w + 1, by omega, ?_, by omega⟩
  rw [hrg]
  (refine Weak.ren [(6, 8)] [6, 5, 4, 3, 2, 1, 0] (by simp) (by simp) (by decide) ?_; simp only [stay1, vwL, vw, vwF, sw, St.get, St.look, Fr.get, ↓reduceIte, reduceIte, Nat.reduceEqDiff, Nat.reduceAdd, Nat.reduceBEq, Nat.reduceLT, Nat.reduceLeDiff, exists_eq_left', ne_eq, reduceCtorEq, zR, pureE_us, pureE_rr, pureE_mU])
  exact wrap_i64 (by omega)
 have hd3 : ¬ ((w : Int) < (l.length : Int)) := by omega
 rw [show (relR rs l a).take w = relR rs l a by rw [show w = (relR rs l a).length by omega, List.take_length]]
 simp only [ZA, ZB, ZC, ZD, ZE, ↓reduceIte, reduceIte, ZF, ZG, ZH, ZI, ZJ, ne_eq, forall_const, reduceCtorEq, implies_true, forall_eq, ZK, ↓zU, ↓zD, zV, zT, hd3]
 refine .go [(62, .int .i64 a), (61, .int .i64 A), (13, .sl 1 (us (relR rs l a))), (9, .int .i64 a), (5, .ref 3 3 0 0), (4, .ref 1 3 0 0), (2, .ref 0 4 0 0), (1, .sl 2 (ptR l))]
  ⟨5, growO 4 1 (rr RL) ++ [(3, ⟨3, [[.int .i64 l.length, .osl 2 1 F, growD 4 1 (rr RL)]]⟩), (2, ⟨1, us (valL rs l F)⟩), (1, ⟨3, [[.int .i64 0, .nils, .nils]]⟩), (0, ⟨4, [[.int .i64 A, .int .i64 F, .int .i64 T, .sl 2 (runR rs)]]⟩)]⟩ ?_ ?_
 ·(refine Weak.ren [] [4, 3, 2, 1, 0] (by simp) (by simp) (by decide) ?_; simp only [stay1, vwL, vw, vwF, sw, St.get, St.look, Fr.get, ↓reduceIte, reduceIte, Nat.reduceEqDiff, Nat.reduceAdd, Nat.reduceBEq, Nat.reduceLT, Nat.reduceLeDiff, exists_eq_left', ne_eq, reduceCtorEq, zR, pureE_us, pureE_rr])
 have hRLl : RL.length = a := by rw [← hRL]; simp [relL]
 simp only [ZA, ZB, ZC, ZD, ZE, ↓reduceIte, reduceIte, ZF, ZG, ZH, ZI, ZJ, ne_eq, forall_const, reduceCtorEq, implies_true, forall_eq, ZK, ↓zU, ↓zD, zV, zT, rr_len, hRLl]
 (repeat refine sd ?_)
 refine ⟨a + 1, by omega, ?_, by omega⟩
 rw [hrel]
 (refine Weak.ren [(4, 6)] [4, 3, 2, 1, 0] (by simp) (by simp) (by decide) ?_; simp only [stay1, vwL, vw, vwF, sw, St.get, St.look, Fr.get, ↓reduceIte, reduceIte, Nat.reduceEqDiff, Nat.reduceAdd, Nat.reduceBEq, Nat.reduceLT, Nat.reduceLeDiff, exists_eq_left', ne_eq, reduceCtorEq, zR, pureE_us, pureE_rr])
 exact wrap_i64 (by omega)
end Go.Pd
