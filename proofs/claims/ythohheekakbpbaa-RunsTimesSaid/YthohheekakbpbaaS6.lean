/- Runs: the reference's model of points. -/
import Derived.Test.YthohheekakbpbaaS5
set_option linter.unusedSectionVars false
set_option linter.unusedVariables false
set_option linter.unusedSimpArgs false
set_option linter.defProp false
set_option maxRecDepth 20000
namespace Go.Pd
open Go Go.Proofs
open Ru
theorem refOf34 {rs : List RunA} {A F T : Nat} (ok : OkR rs A F T) {l : List (Nat × Nat)} (hl : l.length ≤ 64) (hin : Inb rs T l) : Runs Try.prog 34 [sD A F T rs, .sl 2 (ptR l)] (modD rs l A F) := by
  have hA := ok.hA
  have hF := ok.hF
  have hloc := fun (a : Nat) (ha : a < A) (p : Nat × Nat) (hp : p.1 < rs.length ∧ p.2 < T) => Local50 ok ha hp
  unfold sD modD at *
  refine CallT.go_fn mixed Try.func34 k34 (by simp) fun hf => ?_
  simp only [Int.reduceToNat, Int.reduceLT, Int.reduceLE, Int.reduceBEq, Int.reduceBNe, St0, argFr, ↓callZ, ↓midZ, ↓unZ, ↓thenW, ↓blockW, ↓opX, ↓opV, ↓pX, ↓pW, ↓putK, ↓putP, ↓atK, ↓normK, ↓postZ, ↓reduceIte, reduceIte, Nat.reduceEqDiff, Nat.reduceAdd, Nat.reduceBEq, Nat.reduceLT, Nat.reduceLeDiff, binW, bodyQ, ressW, resW, ne_eq, forall_const, reduceCtorEq, implies_true, sets, oneAll, setD, rels, fillE, fillD, List.replicate, rowsOf, forall_eq, Nat.reduceMul, ↓zD, zT, ptR_len]
  (repeat refine And.intro (by first | omega | exact ui_nonneg _ | exact Int.natCast_nonneg _ | rfl | exact rows_one' _ _ | exact us_one _ | (intro _ h; cases h; done)) ?_)
  refine wpS_loop (fun f : Nat => [(6, .int .i64 f), (5, .ref 2 3 0 0), (4, .ref 1 3 0 0), (2, .ref 0 4 0 0), (1, .sl 2 (ptR l))])
    (fun f => ⟨4, growO 3 1 (us (valL rs l f)) ++ [(2, ⟨3, [[.int .i64 l.length, growD 3 1 (us (valL rs l f)), .nils]]⟩), (1, ⟨3, [[.int .i64 0, .nils, .nils]]⟩), (0, ⟨4, [[.int .i64 A, .int .i64 F, .int .i64 T, .sl 2 (runR rs)]]⟩)]⟩)
    (fun f => f ≤ F) (fun f => F - f) 0 (Nat.zero_le _) ?_ ?_
  · (refine Weak.ren [] [2, 1, 0] (by simp) (by simp) (by decide) ?_; simp only [stay1, vwL, vw, vwF, sw, St.get, St.look, Fr.get, ↓reduceIte, reduceIte, Nat.reduceEqDiff, Nat.reduceAdd, Nat.reduceBEq, Nat.reduceLT, Nat.reduceLeDiff, exists_eq_left', ne_eq, reduceCtorEq, zR, valL, List.range_zero, List.map_nil, us_nil, growD_nil, growO_nil, List.nil_append])
  intro f hf
  refine wpS_go mixed ?_
  by_cases hfl : f < F
  · have hd : ((f : Int) < (F : Int)) := by omega
    have hvl : (valL rs l f).length = f := by simp [valL]
    have hvs : valL rs l (f + 1) = valL rs l f ++ [valK rs l f l.length] := by unfold valL; rw [List.range_succ, List.map_append]; rfl
    generalize valL rs l f = V at hvl hvs
    simp only [Int.reduceToNat, Int.reduceLT, Int.reduceLE, Int.reduceBEq, Int.reduceBNe, St0, argFr, ↓callZ, ↓midZ, ↓unZ, ↓thenW, ↓blockW, ↓opX, ↓opV, ↓pX, ↓pW, ↓putK, ↓putP, ↓atK, ↓normK, ↓postZ, ↓reduceIte, reduceIte, Nat.reduceEqDiff, Nat.reduceAdd, Nat.reduceBEq, Nat.reduceLT, Nat.reduceLeDiff, binW, bodyQ, ressW, resW, ne_eq, forall_const, reduceCtorEq, implies_true, sets, oneAll, setD, rels, fillE, fillD, List.replicate, rowsOf, forall_eq, Nat.reduceMul, ↓zD, zT, hd]
    refine wpS_loop (fun w : Nat => [(8, .int .i64 w), (7, .int .u64 (ui (valK rs l f w))), (6, .int .i64 f), (5, .ref 2 3 0 0), (4, .ref 1 3 0 0), (2, .ref 0 4 0 0), (1, .sl 2 (ptR l))])
      (fun w => ⟨4, growO 3 1 (us V) ++ [(2, ⟨3, [[.int .i64 l.length, growD 3 1 (us V), .nils]]⟩), (1, ⟨3, [[.int .i64 0, .nils, .nils]]⟩), (0, ⟨4, [[.int .i64 A, .int .i64 F, .int .i64 T, .sl 2 (runR rs)]]⟩)]⟩)
      (fun w => w ≤ l.length) (fun w => l.length - w) 0 (Nat.zero_le _) ?_ ?_
    · (refine Weak.same ?_; simp [sameF, Fr.get, valK])
    intro w hw
    refine wpS_go mixed ?_
    by_cases hwl : w < l.length
    · have hd2 : ((w : Int) < (l.length : Int)) := by omega
      have hp := hin _ (getD_mem (d := (0, 0)) hwl)
      have hpg := ptR_get l hwl
      have hv : valK rs l f (w + 1) = valK rs l f w ||| (if (facA rs (l.getD w (0, 0))).getLsbD f then 1#64 <<< w else 0#64) := rfl
      generalize l.getD w (0, 0) = q at hp hpg hv
      obtain ⟨q1, q2⟩ := q
      have hm := getD_mem (d := run0) hp.1
      have hg := runR_get rs hp.1
      have h1 := ok.fac _ hm
      unfold facA at hv
      simp only at hp hpg hv hm hg h1
      generalize rs.getD q1 run0 = r at hg h1 hv
      have hg2 := us_get r.fac (show q2 < r.fac.length by omega)
      generalize r.fac.getD q2 0 = x at hg2 hv
      generalize valK rs l f w = vv at hv
      cases hb : x.getLsbD f
      · rw [hb, if_neg (by simp), BitVec.or_zero] at hv
        simp only [Int.reduceToNat, Int.reduceLT, Int.reduceLE, Int.reduceBEq, Int.reduceBNe, St0, argFr, ↓callZ, ↓midZ, ↓unZ, ↓thenW, ↓blockW, ↓opX, ↓opV, ↓pX, ↓pW, ↓putK, ↓putP, ↓atK, ↓normK, ↓postZ, ↓reduceIte, reduceIte, Nat.reduceEqDiff, Nat.reduceAdd, Nat.reduceBEq, Nat.reduceLT, Nat.reduceLeDiff, binW, bodyQ, ressW, resW, ne_eq, forall_const, reduceCtorEq, implies_true, sets, oneAll, setD, rels, fillE, fillD, List.replicate, rowsOf, forall_eq, Nat.reduceMul, ↓zD, zT, hd2, ptR_len, hpg, runR_len, hg, RunA.row, us_len, h1, hg2, bit_rem2_eq, hb]
        (repeat refine And.intro (by first | omega | exact ui_nonneg _ | exact Int.natCast_nonneg _ | rfl | exact rows_one' _ _ | exact us_one _ | (intro _ h; cases h; done)) ?_)
        refine ⟨w + 1, by omega, ?_, by omega⟩
        rw [hv]
        (refine Weak.same ?_; simp only [sameF, Fr.get, ↓reduceIte, reduceIte, Nat.reduceEqDiff, reduceCtorEq, D.int.injEq, D.bool.injEq, D.sl.injEq, and_true, true_and, and_self])
        exact wrap_i64 (by omega)
      · rw [hb, if_pos rfl] at hv
        simp only [Int.reduceToNat, Int.reduceLT, Int.reduceLE, Int.reduceBEq, Int.reduceBNe, St0, argFr, ↓callZ, ↓midZ, ↓unZ, ↓thenW, ↓blockW, ↓opX, ↓opV, ↓pX, ↓pW, ↓putK, ↓putP, ↓atK, ↓normK, ↓postZ, ↓reduceIte, reduceIte, Nat.reduceEqDiff, Nat.reduceAdd, Nat.reduceBEq, Nat.reduceLT, Nat.reduceLeDiff, binW, bodyQ, ressW, resW, ne_eq, forall_const, reduceCtorEq, implies_true, sets, oneAll, setD, rels, fillE, fillD, List.replicate, rowsOf, forall_eq, Nat.reduceMul, ↓zD, zT, hd2, ptR_len, hpg, runR_len, hg, RunA.row, us_len, h1, hg2, bit_rem2_eq, hb]
        (repeat refine And.intro (by first | omega | exact ui_nonneg _ | exact Int.natCast_nonneg _ | rfl | exact rows_one' _ _ | exact us_one _ | (intro _ h; cases h; done)) ?_)
        refine ⟨w + 1, by omega, ?_, by omega⟩
        rw [hv]
        (refine Weak.same ?_; simp only [sameF, Fr.get, ↓reduceIte, reduceIte, Nat.reduceEqDiff, reduceCtorEq, D.int.injEq, D.bool.injEq, D.sl.injEq, and_true, true_and, and_self])
        exact wrap_i64 (by omega)
    have hd2 : ¬ ((w : Int) < (l.length : Int)) := by omega
    obtain rfl : w = l.length := by omega
    simp only [Int.reduceToNat, Int.reduceLT, Int.reduceLE, Int.reduceBEq, Int.reduceBNe, St0, argFr, ↓callZ, ↓midZ, ↓unZ, ↓thenW, ↓blockW, ↓opX, ↓opV, ↓pX, ↓pW, ↓putK, ↓putP, ↓atK, ↓normK, ↓postZ, ↓reduceIte, reduceIte, Nat.reduceEqDiff, Nat.reduceAdd, Nat.reduceBEq, Nat.reduceLT, Nat.reduceLeDiff, binW, bodyQ, ressW, resW, ne_eq, forall_const, reduceCtorEq, implies_true, sets, oneAll, setD, rels, fillE, fillD, List.replicate, rowsOf, forall_eq, Nat.reduceMul, ↓zD, zT, hd2, ptR_len, us_len, hvl]
    (repeat refine And.intro (by first | omega | exact ui_nonneg _ | exact Int.natCast_nonneg _ | rfl | exact rows_one' _ _ | exact us_one _ | (intro _ h; cases h; done)) ?_)
    refine ⟨f + 1, by omega, ?_, by omega⟩
    rw [hvs]
    (refine Weak.ren [(3, 4)] [3, 2, 1, 0] (by simp) (by simp) (by decide) ?_; simp only [stay1, vwL, vw, vwF, sw, St.get, St.look, Fr.get, ↓reduceIte, reduceIte, Nat.reduceEqDiff, Nat.reduceAdd, Nat.reduceBEq, Nat.reduceLT, Nat.reduceLeDiff, exists_eq_left', ne_eq, reduceCtorEq, zR, pureE_us])
    exact wrap_i64 (by omega)
  have hd : ¬ ((f : Int) < (F : Int)) := by omega
  obtain rfl : f = F := by omega
  generalize valL rs l f = V
  simp only [Int.reduceToNat, Int.reduceLT, Int.reduceLE, Int.reduceBEq, Int.reduceBNe, St0, argFr, ↓callZ, ↓midZ, ↓unZ, ↓thenW, ↓blockW, ↓opX, ↓opV, ↓pX, ↓pW, ↓putK, ↓putP, ↓atK, ↓normK, ↓postZ, ↓reduceIte, reduceIte, Nat.reduceEqDiff, Nat.reduceAdd, Nat.reduceBEq, Nat.reduceLT, Nat.reduceLeDiff, binW, bodyQ, ressW, resW, ne_eq, forall_const, reduceCtorEq, implies_true, sets, oneAll, setD, rels, fillE, fillD, List.replicate, rowsOf, forall_eq, Nat.reduceMul, ↓zD, zT, hd]
  refine wpS_loop (fun a : Nat => [(9, .int .i64 a), (5, .ref 2 3 0 0), (4, .ref 1 3 0 0), (2, .ref 0 4 0 0), (1, .sl 2 (ptR l))])
    (fun a => ⟨5, growO 4 1 (rr (relL rs l a)) ++ (growO 3 1 (us V) ++ [(2, ⟨3, [[.int .i64 l.length, growD 3 1 (us V), growD 4 1 (rr (relL rs l a))]]⟩), (1, ⟨3, [[.int .i64 0, .nils, .nils]]⟩), (0, ⟨4, [[.int .i64 A, .int .i64 f, .int .i64 T, .sl 2 (runR rs)]]⟩)])⟩)
    (fun a => a ≤ A) (fun a => A - a) 0 (Nat.zero_le _) ?_ ?_
  · (refine Weak.ren [] [3, 2, 1, 0] (by simp) (by simp) (by decide) ?_; simp only [stay1, vwL, vw, vwF, sw, St.get, St.look, Fr.get, ↓reduceIte, reduceIte, Nat.reduceEqDiff, Nat.reduceAdd, Nat.reduceBEq, Nat.reduceLT, Nat.reduceLeDiff, exists_eq_left', ne_eq, reduceCtorEq, zR, relL, List.range_zero, List.map_nil, growD_nil, growO_nil, List.nil_append, pureE_us, show rr [] = [] from rfl])
  intro a ha
  refine wpS_go mixed ?_
  by_cases hal : a < A
  case neg =>
    have hd2 : ¬ ((a : Int) < (A : Int)) := by omega
    rw [show a = A by omega]
    rw [show a = A by omega] at hd2
    simp only [Int.reduceToNat, Int.reduceLT, Int.reduceLE, Int.reduceBEq, Int.reduceBNe, St0, argFr, ↓callZ, ↓midZ, ↓unZ, ↓thenW, ↓blockW, ↓opX, ↓opV, ↓pX, ↓pW, ↓putK, ↓putP, ↓atK, ↓normK, ↓postZ, ↓reduceIte, reduceIte, Nat.reduceEqDiff, Nat.reduceAdd, Nat.reduceBEq, Nat.reduceLT, Nat.reduceLeDiff, binW, bodyQ, ressW, resW, ne_eq, forall_const, reduceCtorEq, implies_true, sets, oneAll, setD, rels, fillE, fillD, List.replicate, rowsOf, forall_eq, Nat.reduceMul, ↓zD, zT, hd2]
    (refine RetV.ren [] [] (by simp) (by simp) (by decide) ?_; simp only [stay1, vwL, vw, vwF, sw, St.get, St.look, Fr.get, ↓reduceIte, reduceIte, Nat.reduceEqDiff, Nat.reduceAdd, Nat.reduceBEq, Nat.reduceLT, Nat.reduceLeDiff, exists_eq_left', ne_eq, reduceCtorEq, zR, pureE_us, pureE_rr])
  have hd2 : ((a : Int) < (A : Int)) := by omega
  have hrel : relL rs l (a + 1) = relL rs l a ++ [relR rs l a] := by
    unfold relL; rw [List.range_succ, List.map_append]; rfl
  have hRLl : (relL rs l a).length = a := by simp [relL]
  generalize relL rs l a = RL at hrel hRLl
  have hrl : (relR rs l a).length = l.length := by simp [relR]
  simp only [Int.reduceToNat, Int.reduceLT, Int.reduceLE, Int.reduceBEq, Int.reduceBNe, St0, argFr, ↓callZ, ↓midZ, ↓unZ, ↓thenW, ↓blockW, ↓opX, ↓opV, ↓pX, ↓pW, ↓putK, ↓putP, ↓atK, ↓normK, ↓postZ, ↓reduceIte, reduceIte, Nat.reduceEqDiff, Nat.reduceAdd, Nat.reduceBEq, Nat.reduceLT, Nat.reduceLeDiff, binW, bodyQ, ressW, resW, ne_eq, forall_const, reduceCtorEq, implies_true, sets, oneAll, setD, rels, fillE, fillD, List.replicate, rowsOf, forall_eq, Nat.reduceMul, ↓zD, zT, hd2]
  refine wpS_loopW (fun i : Nat => [(11, .int .i64 i), (10, growD 5 1 (us ((relR rs l a).take i))), (9, .int .i64 a), (5, .ref 2 3 0 0), (4, .ref 1 3 0 0), (2, .ref 0 4 0 0), (1, .sl 2 (ptR l))])
    (fun i => ⟨6, growO 5 1 (us ((relR rs l a).take i)) ++ (growO 4 1 (rr RL) ++ (growO 3 1 (us V) ++ [(2, ⟨3, [[.int .i64 l.length, growD 3 1 (us V), growD 4 1 (rr RL)]]⟩), (1, ⟨3, [[.int .i64 0, .nils, .nils]]⟩), (0, ⟨4, [[.int .i64 A, .int .i64 f, .int .i64 T, .sl 2 (runR rs)]]⟩)]))⟩)
    (fun i => i ≤ l.length) (fun i => l.length - i) 0 (Nat.zero_le _) ?_ ?_
  · (refine Weak.ren [] [4, 3, 2, 1, 0] (by simp) (by simp) (by decide) ?_; simp only [stay1, vwL, vw, vwF, sw, St.get, St.look, Fr.get, ↓reduceIte, reduceIte, Nat.reduceEqDiff, Nat.reduceAdd, Nat.reduceBEq, Nat.reduceLT, Nat.reduceLeDiff, exists_eq_left', ne_eq, reduceCtorEq, zR, List.take_zero, us_nil, growD_nil, growO_nil, List.nil_append, pureE_us, pureE_rr])
  intro i hi
  refine wpS_go mixed ?_
  by_cases hil : i < l.length
  case neg =>
    have hd3 : ¬ ((i : Int) < (l.length : Int)) := by omega
    rw [show (relR rs l a).take i = relR rs l a by rw [show i = (relR rs l a).length by omega, List.take_length]]
    simp only [Int.reduceToNat, Int.reduceLT, Int.reduceLE, Int.reduceBEq, Int.reduceBNe, St0, argFr, ↓callZ, ↓midZ, ↓unZ, ↓thenW, ↓blockW, ↓opX, ↓opV, ↓pX, ↓pW, ↓putK, ↓putP, ↓atK, ↓normK, ↓postZ, ↓reduceIte, reduceIte, Nat.reduceEqDiff, Nat.reduceAdd, Nat.reduceBEq, Nat.reduceLT, Nat.reduceLeDiff, binW, bodyQ, ressW, resW, ne_eq, forall_const, reduceCtorEq, implies_true, sets, oneAll, setD, rels, fillE, fillD, List.replicate, rowsOf, forall_eq, Nat.reduceMul, ↓zD, zT, hd3, ptR_len]
    refine .go [(10, .sl 1 (us (relR rs l a))), (9, .int .i64 a), (5, .ref 2 3 0 0), (4, .ref 1 3 0 0), (2, .ref 0 4 0 0), (1, .sl 2 (ptR l))]
      ⟨5, growO 4 1 (rr RL) ++ (growO 3 1 (us V) ++ [(2, ⟨3, [[.int .i64 l.length, growD 3 1 (us V), growD 4 1 (rr RL)]]⟩), (1, ⟨3, [[.int .i64 0, .nils, .nils]]⟩), (0, ⟨4, [[.int .i64 A, .int .i64 f, .int .i64 T, .sl 2 (runR rs)]]⟩)])⟩ ?_ ?_
    · (refine Weak.ren [] [4, 3, 2, 1, 0] (by simp) (by simp) (by decide) ?_; simp only [stay1, vwL, vw, vwF, sw, St.get, St.look, Fr.get, ↓reduceIte, reduceIte, Nat.reduceEqDiff, Nat.reduceAdd, Nat.reduceBEq, Nat.reduceLT, Nat.reduceLeDiff, exists_eq_left', ne_eq, reduceCtorEq, zR, pureE_us, pureE_rr])
    simp only [Int.reduceToNat, Int.reduceLT, Int.reduceLE, Int.reduceBEq, Int.reduceBNe, St0, argFr, ↓callZ, ↓midZ, ↓unZ, ↓thenW, ↓blockW, ↓opX, ↓opV, ↓pX, ↓pW, ↓putK, ↓putP, ↓atK, ↓normK, ↓postZ, ↓reduceIte, reduceIte, Nat.reduceEqDiff, Nat.reduceAdd, Nat.reduceBEq, Nat.reduceLT, Nat.reduceLeDiff, binW, bodyQ, ressW, resW, ne_eq, forall_const, reduceCtorEq, implies_true, sets, oneAll, setD, rels, fillE, fillD, List.replicate, rowsOf, forall_eq, Nat.reduceMul, ↓zD, zT, rr_len, hRLl]
    (repeat refine And.intro (by first | omega | exact ui_nonneg _ | exact Int.natCast_nonneg _ | rfl | exact rows_one' _ _ | exact us_one _ | (intro _ h; cases h; done)) ?_)
    refine ⟨a + 1, by omega, ?_, by omega⟩
    rw [hrel]
    (refine Weak.ren [(4, 6)] [4, 3, 2, 1, 0] (by simp) (by simp) (by decide) ?_; simp only [stay1, vwL, vw, vwF, sw, St.get, St.look, Fr.get, ↓reduceIte, reduceIte, Nat.reduceEqDiff, Nat.reduceAdd, Nat.reduceBEq, Nat.reduceLT, Nat.reduceLeDiff, exists_eq_left', ne_eq, reduceCtorEq, zR, pureE_us, pureE_rr])
    exact wrap_i64 (by omega)
  have hd3 : ((i : Int) < (l.length : Int)) := by omega
  have hpi := hin _ (getD_mem (d := (0, 0)) hil)
  have hpgi := ptR_get l hil
  have hrg : (relR rs l a).take (i + 1) = (relR rs l a).take i ++ [relK rs l a (locA rs a (l.getD i (0, 0))) l.length] := by
    rw [take_snoc (d := 0#64) (by omega)]
    congr 1
    simp [relR, List.getD, hil]
  have hlci := hloc a hal _ hpi
  generalize l.getD i (0, 0) = pi at hpi hpgi hrg hlci
  obtain ⟨p1, p2⟩ := pi
  simp only at hpgi hlci
  generalize locA rs a (p1, p2) = x at hrg hlci
  have htl : ((relR rs l a).take i).length = i := by rw [List.length_take]; omega
  generalize (relR rs l a).take i = rw' at hrg htl
  simp only [Int.reduceToNat, Int.reduceLT, Int.reduceLE, Int.reduceBEq, Int.reduceBNe, St0, argFr, ↓callZ, ↓midZ, ↓unZ, ↓thenW, ↓blockW, ↓opX, ↓opV, ↓pX, ↓pW, ↓putK, ↓putP, ↓atK, ↓normK, ↓postZ, ↓reduceIte, reduceIte, Nat.reduceEqDiff, Nat.reduceAdd, Nat.reduceBEq, Nat.reduceLT, Nat.reduceLeDiff, binW, bodyQ, ressW, resW, ne_eq, forall_const, reduceCtorEq, implies_true, sets, oneAll, setD, rels, fillE, fillD, List.replicate, rowsOf, forall_eq, Nat.reduceMul, ↓zD, zT, hd3, ptR_len]
  refine wpS_loop (fun k : Nat => [(13, .int .i64 k), (12, .int .u64 (ui (relK rs l a x k))), (11, .int .i64 i), (10, growD 5 1 (us rw')), (9, .int .i64 a), (5, .ref 2 3 0 0), (4, .ref 1 3 0 0), (2, .ref 0 4 0 0), (1, .sl 2 (ptR l))])
    (fun _ => ⟨6, growO 5 1 (us rw') ++ (growO 4 1 (rr RL) ++ (growO 3 1 (us V) ++ [(2, ⟨3, [[.int .i64 l.length, growD 3 1 (us V), growD 4 1 (rr RL)]]⟩), (1, ⟨3, [[.int .i64 0, .nils, .nils]]⟩), (0, ⟨4, [[.int .i64 A, .int .i64 f, .int .i64 T, .sl 2 (runR rs)]]⟩)]))⟩)
    (fun k => k ≤ l.length) (fun k => l.length - k) 0 (Nat.zero_le _) ?_ ?_
  · (refine Weak.same ?_; simp [sameF, Fr.get, relK])
  intro k hk
  refine wpS_go mixed ?_
  by_cases hkl : k < l.length
  case neg =>
    have hd4 : ¬ ((k : Int) < (l.length : Int)) := by omega
    obtain rfl : k = l.length := by omega
    simp only [Int.reduceToNat, Int.reduceLT, Int.reduceLE, Int.reduceBEq, Int.reduceBNe, St0, argFr, ↓callZ, ↓midZ, ↓unZ, ↓thenW, ↓blockW, ↓opX, ↓opV, ↓pX, ↓pW, ↓putK, ↓putP, ↓atK, ↓normK, ↓postZ, ↓reduceIte, reduceIte, Nat.reduceEqDiff, Nat.reduceAdd, Nat.reduceBEq, Nat.reduceLT, Nat.reduceLeDiff, binW, bodyQ, ressW, resW, ne_eq, forall_const, reduceCtorEq, implies_true, sets, oneAll, setD, rels, fillE, fillD, List.replicate, rowsOf, forall_eq, Nat.reduceMul, ↓zD, zT, hd4, ptR_len, us_len, htl]
    (repeat refine And.intro (by first | omega | exact ui_nonneg _ | exact Int.natCast_nonneg _ | rfl | exact rows_one' _ _ | exact us_one _ | (intro _ h; cases h; done)) ?_)
    refine ⟨i + 1, by omega, ?_, by omega⟩
    rw [hrg]
    (refine Weak.ren [(5, 6)] [5, 4, 3, 2, 1, 0] (by simp) (by simp) (by decide) ?_; simp only [stay1, vwL, vw, vwF, sw, St.get, St.look, Fr.get, ↓reduceIte, reduceIte, Nat.reduceEqDiff, Nat.reduceAdd, Nat.reduceBEq, Nat.reduceLT, Nat.reduceLeDiff, exists_eq_left', ne_eq, reduceCtorEq, zR, pureE_us, pureE_rr])
    exact wrap_i64 (by omega)
  have hd4 : ((k : Int) < (l.length : Int)) := by omega
  have hp := hin _ (getD_mem (d := (0, 0)) hkl)
  have hpg := ptR_get l hkl
  have hS : relK rs l a x (k + 1) = relK rs l a x k ||| (if locA rs a (l.getD k (0, 0)) = x then 1#64 <<< k else 0#64) := rfl
  have hlc := hloc a hal _ hp
  generalize l.getD k (0, 0) = q at hp hpg hS hlc
  obtain ⟨q1, q2⟩ := q
  simp only at hpg hlc
  generalize locA rs a (q1, q2) = y at hS hlc
  generalize relK rs l a x k = vv at hS
  simp only [Int.reduceToNat, Int.reduceLT, Int.reduceLE, Int.reduceBEq, Int.reduceBNe, St0, argFr, ↓callZ, ↓midZ, ↓unZ, ↓thenW, ↓blockW, ↓opX, ↓opV, ↓pX, ↓pW, ↓putK, ↓putP, ↓atK, ↓normK, ↓postZ, ↓reduceIte, reduceIte, Nat.reduceEqDiff, Nat.reduceAdd, Nat.reduceBEq, Nat.reduceLT, Nat.reduceLeDiff, binW, bodyQ, ressW, resW, ne_eq, forall_const, reduceCtorEq, implies_true, sets, oneAll, setD, rels, fillE, fillD, List.replicate, rowsOf, forall_eq, Nat.reduceMul, ↓zD, zT, hd4, ptR_len, hd3, hpgi, hpg]
  (repeat refine And.intro (by first | omega | exact ui_nonneg _ | exact Int.natCast_nonneg _ | rfl | exact rows_one' _ _ | exact us_one _ | (intro _ h; cases h; done)) ?_)
  refine .go (CallT.of_runs hlci (by simp [D.isPureL, D.isPure])) ?_
  simp only [Int.reduceToNat, Int.reduceLT, Int.reduceLE, Int.reduceBEq, Int.reduceBNe, St0, argFr, ↓callZ, ↓midZ, ↓unZ, ↓thenW, ↓blockW, ↓opX, ↓opV, ↓pX, ↓pW, ↓putK, ↓putP, ↓atK, ↓normK, ↓postZ, ↓reduceIte, reduceIte, Nat.reduceEqDiff, Nat.reduceAdd, Nat.reduceBEq, Nat.reduceLT, Nat.reduceLeDiff, binW, bodyQ, ressW, resW, ne_eq, forall_const, reduceCtorEq, implies_true, sets, oneAll, setD, rels, fillE, fillD, List.replicate, rowsOf, forall_eq, Nat.reduceMul, ↓zD, zT, hd4, ptR_len, hd3, hpgi, hpg]
  (repeat refine And.intro (by first | omega | exact ui_nonneg _ | exact Int.natCast_nonneg _ | rfl | exact rows_one' _ _ | exact us_one _ | (intro _ h; cases h; done)) ?_)
  refine .go (CallT.of_runs hlc (by simp [D.isPureL, D.isPure])) ?_
  by_cases e : y = x
  · have e1 : (x == y) = true := by simpa using e.symm
    rw [if_pos e] at hS
    simp only [Int.reduceToNat, Int.reduceLT, Int.reduceLE, Int.reduceBEq, Int.reduceBNe, St0, argFr, ↓callZ, ↓midZ, ↓unZ, ↓thenW, ↓blockW, ↓opX, ↓opV, ↓pX, ↓pW, ↓putK, ↓putP, ↓atK, ↓normK, ↓postZ, ↓reduceIte, reduceIte, Nat.reduceEqDiff, Nat.reduceAdd, Nat.reduceBEq, Nat.reduceLT, Nat.reduceLeDiff, binW, bodyQ, ressW, resW, ne_eq, forall_const, reduceCtorEq, implies_true, sets, oneAll, setD, rels, fillE, fillD, List.replicate, rowsOf, forall_eq, Nat.reduceMul, ↓zD, zT, e1]
    (repeat refine And.intro (by first | omega | exact ui_nonneg _ | exact Int.natCast_nonneg _ | rfl | exact rows_one' _ _ | exact us_one _ | (intro _ h; cases h; done)) ?_)
    refine ⟨k + 1, by omega, ?_, by omega⟩
    rw [hS]
    (refine Weak.same ?_; simp only [sameF, Fr.get, ↓reduceIte, reduceIte, Nat.reduceEqDiff, reduceCtorEq, D.int.injEq, D.bool.injEq, D.sl.injEq, and_true, true_and, and_self])
    exact wrap_i64 (by omega)
  · have e1 : (x == y) = false := by rw [beq_eq_false_iff_ne]; exact fun h => e h.symm
    rw [if_neg e, BitVec.or_zero] at hS
    simp only [Int.reduceToNat, Int.reduceLT, Int.reduceLE, Int.reduceBEq, Int.reduceBNe, St0, argFr, ↓callZ, ↓midZ, ↓unZ, ↓thenW, ↓blockW, ↓opX, ↓opV, ↓pX, ↓pW, ↓putK, ↓putP, ↓atK, ↓normK, ↓postZ, ↓reduceIte, reduceIte, Nat.reduceEqDiff, Nat.reduceAdd, Nat.reduceBEq, Nat.reduceLT, Nat.reduceLeDiff, binW, bodyQ, ressW, resW, ne_eq, forall_const, reduceCtorEq, implies_true, sets, oneAll, setD, rels, fillE, fillD, List.replicate, rowsOf, forall_eq, Nat.reduceMul, ↓zD, zT, e1]
    (repeat refine And.intro (by first | omega | exact ui_nonneg _ | exact Int.natCast_nonneg _ | rfl | exact rows_one' _ _ | exact us_one _ | (intro _ h; cases h; done)) ?_)
    refine ⟨k + 1, by omega, ?_, by omega⟩
    rw [hS]
    (refine Weak.same ?_; simp only [sameF, Fr.get, ↓reduceIte, reduceIte, Nat.reduceEqDiff, reduceCtorEq, D.int.injEq, D.bool.injEq, D.sl.injEq, and_true, true_and, and_self])
    exact wrap_i64 (by omega)
end Go.Pd
