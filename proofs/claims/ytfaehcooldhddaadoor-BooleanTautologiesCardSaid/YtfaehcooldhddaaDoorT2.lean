/- The reference's tautologies: the walk. -/
import Derived.Test.YtfaehcooldhddaaDoorT1
import Derived.Test.YtfaehcooldhddaaDoorCode18
set_option linter.unusedSectionVars false
set_option linter.unusedVariables false
set_option linter.unusedSimpArgs false
set_option linter.defProp false
set_option maxRecDepth 20000
namespace Go.Pd
open Go Go.Proofs
open Rs Fm
theorem refTautology18 (f : List Nd) : Runs Tryd.prog 18 [.sl 6 (ndR f)] (.tup [.bool (tautA f).1, .int .i64 (tautA f).2]) := by
  refine CallT.go_fn mixed Tryd.func18 k18 (by simp) fun hf => ?_
  simp only [Int.reduceToNat, Int.reduceLT, Int.reduceLE, Int.reduceBEq, Int.reduceBNe, St0, argFr, ↓callZ, ↓midZ, ↓unZ, ↓thenW, ↓blockW, ↓opX, ↓opV, ↓pX, ↓pW, ↓putK, ↓putP, ↓atK, ↓normK, ↓postZ, ↓reduceIte, reduceIte, Nat.reduceEqDiff, Nat.reduceAdd, Nat.reduceBEq, Nat.reduceLT, Nat.reduceLeDiff, binW, bodyQ, ressW, resW, ne_eq, forall_const, reduceCtorEq, implies_true, sets, oneAll, setD, rels, fillE, fillD, List.replicate, rowsOf, forall_eq, Nat.reduceMul, ↓zD, zT]
  refine .go (CallT.of_runs (refAtoms15 f) (by simp [D.isPureL, D.isPure])) ?_
  by_cases hc : checkF f = 0
  case neg =>
    have e : (checkF f != 0) = true := by simpa using hc
    rw [show atomsA f = ([], checkF f) from if_pos hc, show tautA f = (false, checkF f) from if_pos hc]
    simp only [Int.reduceToNat, Int.reduceLT, Int.reduceLE, Int.reduceBEq, Int.reduceBNe, St0, argFr, ↓callZ, ↓midZ, ↓unZ, ↓thenW, ↓blockW, ↓opX, ↓opV, ↓pX, ↓pW, ↓putK, ↓putP, ↓atK, ↓normK, ↓postZ, ↓reduceIte, reduceIte, Nat.reduceEqDiff, Nat.reduceAdd, Nat.reduceBEq, Nat.reduceLT, Nat.reduceLeDiff, binW, bodyQ, ressW, resW, ne_eq, forall_const, reduceCtorEq, implies_true, sets, oneAll, setD, rels, fillE, fillD, List.replicate, rowsOf, forall_eq, Nat.reduceMul, ↓zD, zT, e]
    exact .drop (by simp) (by simp [vw, vwL])
  rw [show atomsA f = ((leavesA (compactA f)).map (subA (compactA f)), 0) by rw [atomsA, if_neg (by simpa using hc)]]
  have et : tautA f = if 10 < (leavesA (compactA f)).length then (false, 8) else (tautS (compactA f) (numS (compactA f) (leavesA (compactA f)) (leavesA (compactA f)).length) (2 ^ (leavesA (compactA f)).length), 0) := by rw [tautA, if_neg (by simpa using hc)]
  rw [et]
  clear et
  have hcmp := refCompact40 f
  have hv := validC f
  have hne := compact_ne hc
  have hln : (compactA f).length ≤ 200 := sub_len f _
  have hcc := check_canon hc
  have hdn := (compact_tree hc).2
  generalize compactA f = c at hv hne hln hcc hdn hcmp
  obtain ⟨nd, inn, _⟩ := leaves_facts hv hne
  have hval := fun facts => valueP (facts := facts) hv hne
  generalize numS c (leavesA c) (leavesA c).length = num at hval
  generalize leavesA c = l at nd inn hval
  by_cases h10 : 10 < l.length
  · have h10' : (10 : Int) < (l.length : Int) := by omega
    rw [if_pos h10]
    simp only [Int.reduceToNat, Int.reduceLT, Int.reduceLE, Int.reduceBEq, Int.reduceBNe, St0, argFr, ↓callZ, ↓midZ, ↓unZ, ↓thenW, ↓blockW, ↓opX, ↓opV, ↓pX, ↓pW, ↓putK, ↓putP, ↓atK, ↓normK, ↓postZ, ↓reduceIte, reduceIte, Nat.reduceEqDiff, Nat.reduceAdd, Nat.reduceBEq, Nat.reduceLT, Nat.reduceLeDiff, binW, bodyQ, ressW, resW, ne_eq, forall_const, reduceCtorEq, implies_true, sets, oneAll, setD, rels, fillE, fillD, List.replicate, rowsOf, forall_eq, Nat.reduceMul, ↓zD, zT, nl_len, List.length_map, h10']
    exact .drop (by simp) (by simp [vw, vwL])
  have h10' : ¬ (10 : Int) < (l.length : Int) := by omega
  rw [if_neg h10]
  have hml : (nl (l.map (subA c))).length = l.length := by rw [nl_len, List.length_map]
  have hmg : ∀ {k}, k < l.length → (nl (l.map (subA c))).getD k [] = [.sl 6 (ndR (subA c (l.getD k 0)))] := fun {k} h => by
    rw [nl_get _ (by simpa using h)]
    simp [List.getD, h]
  generalize nl (l.map (subA c)) = L at hml hmg
  simp only [Int.reduceToNat, Int.reduceLT, Int.reduceLE, Int.reduceBEq, Int.reduceBNe, St0, argFr, ↓callZ, ↓midZ, ↓unZ, ↓thenW, ↓blockW, ↓opX, ↓opV, ↓pX, ↓pW, ↓putK, ↓putP, ↓atK, ↓normK, ↓postZ, ↓reduceIte, reduceIte, Nat.reduceEqDiff, Nat.reduceAdd, Nat.reduceBEq, Nat.reduceLT, Nat.reduceLeDiff, binW, bodyQ, ressW, resW, ne_eq, forall_const, reduceCtorEq, implies_true, sets, oneAll, setD, rels, fillE, fillD, List.replicate, rowsOf, forall_eq, Nat.reduceMul, ↓zD, zT, hml, h10']
  refine .go (CallT.of_runs hcmp (by simp [D.isPureL, D.isPure])) ?_
  simp only [Int.reduceToNat, Int.reduceLT, Int.reduceLE, Int.reduceBEq, Int.reduceBNe, St0, argFr, ↓callZ, ↓midZ, ↓unZ, ↓thenW, ↓blockW, ↓opX, ↓opV, ↓pX, ↓pW, ↓putK, ↓putP, ↓atK, ↓normK, ↓postZ, ↓reduceIte, reduceIte, Nat.reduceEqDiff, Nat.reduceAdd, Nat.reduceBEq, Nat.reduceLT, Nat.reduceLeDiff, binW, bodyQ, ressW, resW, ne_eq, forall_const, reduceCtorEq, implies_true, sets, oneAll, setD, rels, fillE, fillD, List.replicate, rowsOf, forall_eq, Nat.reduceMul, ↓zD, zT]
  refine wpS_loop (fun i : Nat => [(7, .int .i64 i), (6, growD 0 1 (rows .i64 ((List.range i).map fun i => atS l i l.length))), (4, .sl 1 L), (0, .sl 6 (ndR c))]) (fun i => ⟨1, growO 0 1 (rows .i64 ((List.range i).map fun i => atS l i l.length))⟩) (fun i => i ≤ c.length) (fun i => c.length - i) 0 (Nat.zero_le _) ?_ ?_
  · exact Weak.view (fun k => k) (by simp) (by simp) (by simp [vwF, vw, Fr.get, rows, growD]) (by simp [stays, rows, growO]) (by simp [apartNames, rows, growO])
  intro i hi
  refine wpS_go mixed ?_
  have hwi : IntKind.i64.wrap ((i : Int) + 1) = ((i + 1 : Nat) : Int) := wrap_i64 (by omega)
  by_cases h : i < c.length
  · have hd : ((i : Int) < (c.length : Int)) := by omega
    have hS : rows .i64 ((List.range (i + 1)).map fun i => atS l i l.length) = rows .i64 ((List.range i).map fun i => atS l i l.length) ++ [[.int .i64 (atS l i l.length)]] := by simp [List.range_succ, rows]
    have hrl : ((List.range i).map fun i => atS l i l.length).length ≤ 1000 := by simp; omega
    generalize ((List.range i).map fun i => atS l i l.length) = r at hS hrl
    simp only [Int.reduceToNat, Int.reduceLT, Int.reduceLE, Int.reduceBEq, Int.reduceBNe, St0, argFr, ↓callZ, ↓midZ, ↓unZ, ↓thenW, ↓blockW, ↓opX, ↓opV, ↓pX, ↓pW, ↓putK, ↓putP, ↓atK, ↓normK, ↓postZ, ↓reduceIte, reduceIte, Nat.reduceEqDiff, Nat.reduceAdd, Nat.reduceBEq, Nat.reduceLT, Nat.reduceLeDiff, binW, bodyQ, ressW, resW, ne_eq, forall_const, reduceCtorEq, implies_true, sets, oneAll, setD, rels, fillE, fillD, List.replicate, rowsOf, forall_eq, Nat.reduceMul, ↓zD, zT, hd, ndR_len]
    refine wpS_loop (fun k : Nat => [(9, .int .i64 k), (8, .int .i64 (atS l i k)), (7, .int .i64 i), (6, growD 0 1 (rows .i64 r)), (4, .sl 1 L), (0, .sl 6 (ndR c))]) (fun k => ⟨1, growO 0 1 (rows .i64 r)⟩) (fun k => k ≤ l.length) (fun k => l.length - k) 0 (Nat.zero_le _) ?_ ?_
    · (refine Weak.same ?_; simp [sameF, Fr.get, atS])
    intro k hk
    refine wpS_go mixed ?_
    have hw : IntKind.i64.wrap ((k : Int) + 1) = ((k + 1 : Nat) : Int) := wrap_i64 (by omega)
    by_cases hkl : k < l.length
    case neg =>
      have hd2 : ¬ ((k : Int) < (l.length : Int)) := by omega
      obtain rfl : k = l.length := by omega
      simp only [Int.reduceToNat, Int.reduceLT, Int.reduceLE, Int.reduceBEq, Int.reduceBNe, St0, argFr, ↓callZ, ↓midZ, ↓unZ, ↓thenW, ↓blockW, ↓opX, ↓opV, ↓pX, ↓pW, ↓putK, ↓putP, ↓atK, ↓normK, ↓postZ, ↓reduceIte, reduceIte, Nat.reduceEqDiff, Nat.reduceAdd, Nat.reduceBEq, Nat.reduceLT, Nat.reduceLeDiff, binW, bodyQ, ressW, resW, ne_eq, forall_const, reduceCtorEq, implies_true, sets, oneAll, setD, rels, fillE, fillD, List.replicate, rowsOf, forall_eq, Nat.reduceMul, ↓zD, zT, hd2, hml]
      (repeat refine And.intro (by first | omega | exact ui_nonneg _ | exact Int.natCast_nonneg _ | rfl | exact rows_one' _ _ | exact us_one _ | (intro _ h; cases h; done)) ?_)
      refine ⟨i + 1, by omega, ?_, by omega⟩
      rw [hS]
      (refine Weak.ren [(0, 1)] [0] (by simp) (by simp) (by decide) ?_; simp only [stay1, vwL, vw, vwF, sw, St.get, St.look, Fr.get, ↓reduceIte, reduceIte, Nat.reduceEqDiff, Nat.reduceAdd, Nat.reduceBEq, Nat.reduceLT, Nat.reduceLeDiff, exists_eq_left', ne_eq, reduceCtorEq, zR, hwi])
    have hd2 : ((k : Int) < (l.length : Int)) := by omega
    have hg := hmg hkl
    obtain ⟨j, q1, q2, _⟩ := inn (l.getD k 0) (by simp only [List.getD, List.getElem?_eq_getElem hkl, Option.getD_some]; exact List.getElem_mem _)
    rw [q1] at hg
    have hat : atS l i (k + 1) = if (j : Int) = (i : Int) then (k : Int) else atS l i k := by rw [atS, q1]
    simp only [Int.reduceToNat, Int.reduceLT, Int.reduceLE, Int.reduceBEq, Int.reduceBNe, St0, argFr, ↓callZ, ↓midZ, ↓unZ, ↓thenW, ↓blockW, ↓opX, ↓opV, ↓pX, ↓pW, ↓putK, ↓putP, ↓atK, ↓normK, ↓postZ, ↓reduceIte, reduceIte, Nat.reduceEqDiff, Nat.reduceAdd, Nat.reduceBEq, Nat.reduceLT, Nat.reduceLeDiff, binW, bodyQ, ressW, resW, ne_eq, forall_const, reduceCtorEq, implies_true, sets, oneAll, setD, rels, fillE, fillD, List.replicate, rowsOf, forall_eq, Nat.reduceMul, ↓zD, zT, hd2, hml, hg]
    (repeat refine And.intro (by first | omega | exact ui_nonneg _ | exact Int.natCast_nonneg _ | rfl | exact rows_one' _ _ | exact us_one _ | (intro _ h; cases h; done)) ?_)
    refine .go (CallT.of_runs (refSub48 c i) (by simp [D.isPureL, D.isPure])) ?_
    simp only [Int.reduceToNat, Int.reduceLT, Int.reduceLE, Int.reduceBEq, Int.reduceBNe, St0, argFr, ↓callZ, ↓midZ, ↓unZ, ↓thenW, ↓blockW, ↓opX, ↓opV, ↓pX, ↓pW, ↓putK, ↓putP, ↓atK, ↓normK, ↓postZ, ↓reduceIte, reduceIte, Nat.reduceEqDiff, Nat.reduceAdd, Nat.reduceBEq, Nat.reduceLT, Nat.reduceLeDiff, binW, bodyQ, ressW, resW, ne_eq, forall_const, reduceCtorEq, implies_true, sets, oneAll, setD, rels, fillE, fillD, List.replicate, rowsOf, forall_eq, Nat.reduceMul, ↓zD, zT]
    refine .go (CallT.of_runs (Equal29 _ _) (by simp [D.isPureL, D.isPure])) ?_
    by_cases hji : j = i
    · subst hji
      rw [if_pos rfl] at hat
      rw [decide_eq_true rfl]
      simp only [Int.reduceToNat, Int.reduceLT, Int.reduceLE, Int.reduceBEq, Int.reduceBNe, St0, argFr, ↓callZ, ↓midZ, ↓unZ, ↓thenW, ↓blockW, ↓opX, ↓opV, ↓pX, ↓pW, ↓putK, ↓putP, ↓atK, ↓normK, ↓postZ, ↓reduceIte, reduceIte, Nat.reduceEqDiff, Nat.reduceAdd, Nat.reduceBEq, Nat.reduceLT, Nat.reduceLeDiff, binW, bodyQ, ressW, resW, ne_eq, forall_const, reduceCtorEq, implies_true, sets, oneAll, setD, rels, fillE, fillD, List.replicate, rowsOf, forall_eq, Nat.reduceMul, ↓zD, zT]
      refine ⟨k + 1, by omega, ?_, by omega⟩
      rw [hat]
      (refine Weak.same ?_; simp only [sameF, Fr.get, ↓reduceIte, reduceIte, Nat.reduceEqDiff, reduceCtorEq, D.int.injEq, D.bool.injEq, D.sl.injEq, and_true, true_and, and_self])
      exact hw
    · rw [if_neg (by omega)] at hat
      rw [decide_eq_false (fun e => hji (sub_inj hcc hdn q2 h e))]
      simp only [Int.reduceToNat, Int.reduceLT, Int.reduceLE, Int.reduceBEq, Int.reduceBNe, St0, argFr, ↓callZ, ↓midZ, ↓unZ, ↓thenW, ↓blockW, ↓opX, ↓opV, ↓pX, ↓pW, ↓putK, ↓putP, ↓atK, ↓normK, ↓postZ, ↓reduceIte, reduceIte, Nat.reduceEqDiff, Nat.reduceAdd, Nat.reduceBEq, Nat.reduceLT, Nat.reduceLeDiff, binW, bodyQ, ressW, resW, ne_eq, forall_const, reduceCtorEq, implies_true, sets, oneAll, setD, rels, fillE, fillD, List.replicate, rowsOf, forall_eq, Nat.reduceMul, ↓zD, zT]
      refine ⟨k + 1, by omega, ?_, by omega⟩
      rw [hat]
      (refine Weak.same ?_; simp only [sameF, Fr.get, ↓reduceIte, reduceIte, Nat.reduceEqDiff, reduceCtorEq, D.int.injEq, D.bool.injEq, D.sl.injEq, and_true, true_and, and_self])
      exact hw
  have hd : ¬ ((i : Int) < (c.length : Int)) := by omega
  obtain rfl : i = c.length := by omega
  have hrl : (rows .i64 ((List.range c.length).map fun i => atS l i l.length)).length = c.length := by rw [rows_len]; simp
  have hrg : ∀ {j}, j < c.length → (rows .i64 ((List.range c.length).map fun i => atS l i l.length)).getD j [] = [.int .i64 (atS l j l.length)] := fun {j} h => by
    rw [rows_get .i64 _ (by simpa using h)]
    simp [List.getD, h]
  have hrp := rows_pure .i64 ((List.range c.length).map fun i => atS l i l.length)
  generalize rows .i64 ((List.range c.length).map fun i => atS l i l.length) = R at hrl hrg hrp
  have hRp : pureE R = True := eq_true hrp
  have hR2 : growD 0 1 R = .osl 0 1 c.length ∧ growO 0 1 R = [(0, ⟨1, R⟩)] := by
    cases R with
    | nil => simp at hrl; omega
    | cons a b => exact ⟨by rw [← hrl]; rfl, rfl⟩
  obtain ⟨hRD, hRO⟩ := hR2
  have h1024 : 2 ^ l.length ≤ 2 ^ 10 := Nat.pow_le_pow_right (by decide) (by omega)
  simp only [Int.reduceToNat, Int.reduceLT, Int.reduceLE, Int.reduceBEq, Int.reduceBNe, St0, argFr, ↓callZ, ↓midZ, ↓unZ, ↓thenW, ↓blockW, ↓opX, ↓opV, ↓pX, ↓pW, ↓putK, ↓putP, ↓atK, ↓normK, ↓postZ, ↓reduceIte, reduceIte, Nat.reduceEqDiff, Nat.reduceAdd, Nat.reduceBEq, Nat.reduceLT, Nat.reduceLeDiff, binW, bodyQ, ressW, resW, ne_eq, forall_const, reduceCtorEq, implies_true, sets, oneAll, setD, rels, fillE, fillD, List.replicate, rowsOf, forall_eq, Nat.reduceMul, ↓zD, zT, hd, ndR_len]
  rw [hRD, hRO]
  refine wpS_loop (fun k : Nat => [(10, .int .i64 k), (6, .osl 0 1 c.length), (4, .sl 1 L), (0, .sl 6 (ndR c))]) (fun _ => ⟨1, [(0, ⟨1, R⟩)]⟩) (fun k => k ≤ 2 ^ l.length ∧ tautS c num k = true) (fun k => 2 ^ l.length - k) 0 ⟨Nat.zero_le _, rfl⟩ ?_ ?_
  · (refine Weak.same ?_; simp [sameF, Fr.get])
  intro k ⟨hk, htk⟩
  refine wpS_go mixed ?_
  have hwk : IntKind.i64.wrap ((k : Int) + 1) = ((k + 1 : Nat) : Int) := wrap_i64 (by omega)
  have hvk := hval k
  by_cases hkm : k < 2 ^ l.length
  case neg =>
    have hd : ¬ ((k : Int) < ((2 ^ l.length : Nat) : Int)) := by omega
    have hke : k = 2 ^ l.length := by omega
    rw [← hke, htk]
    rw [← hke] at hd
    simp only [Int.reduceToNat, Int.reduceLT, Int.reduceLE, Int.reduceBEq, Int.reduceBNe, St0, argFr, ↓callZ, ↓midZ, ↓unZ, ↓thenW, ↓blockW, ↓opX, ↓opV, ↓pX, ↓pW, ↓putK, ↓putP, ↓atK, ↓normK, ↓postZ, ↓reduceIte, reduceIte, Nat.reduceEqDiff, Nat.reduceAdd, Nat.reduceBEq, Nat.reduceLT, Nat.reduceLeDiff, binW, bodyQ, ressW, resW, ne_eq, forall_const, reduceCtorEq, implies_true, sets, oneAll, setD, rels, fillE, fillD, List.replicate, rowsOf, forall_eq, Nat.reduceMul, ↓zD, zT, hml, convN (show l.length ≤ 1000000 by omega), shlN (show l.length ≤ 61 by omega), ← hke, hd]
    (repeat refine And.intro (by first | omega | exact ui_nonneg _ | exact Int.natCast_nonneg _ | rfl | exact rows_one' _ _ | exact us_one _ | (intro _ h; cases h; done)) ?_)
    exact .drop (by simp) (by simp [vw, vwL])
  have hdk : ((k : Int) < ((2 ^ l.length : Nat) : Int)) := by omega
  simp only [Int.reduceToNat, Int.reduceLT, Int.reduceLE, Int.reduceBEq, Int.reduceBNe, St0, argFr, ↓callZ, ↓midZ, ↓unZ, ↓thenW, ↓blockW, ↓opX, ↓opV, ↓pX, ↓pW, ↓putK, ↓putP, ↓atK, ↓normK, ↓postZ, ↓reduceIte, reduceIte, Nat.reduceEqDiff, Nat.reduceAdd, Nat.reduceBEq, Nat.reduceLT, Nat.reduceLeDiff, binW, bodyQ, ressW, resW, ne_eq, forall_const, reduceCtorEq, implies_true, sets, oneAll, setD, rels, fillE, fillD, List.replicate, rowsOf, forall_eq, Nat.reduceMul, ↓zD, zT, hml, convN (show l.length ≤ 1000000 by omega), shlN (show l.length ≤ 61 by omega), hdk]
  (repeat refine And.intro (by first | omega | exact ui_nonneg _ | exact Int.natCast_nonneg _ | rfl | exact rows_one' _ _ | exact us_one _ | (intro _ h; cases h; done)) ?_)
  refine wpS_loop (fun j : Nat => [(12, .int .i64 j), (11, growD 1 1 (rb (valsP c l k j))), (10, .int .i64 k), (6, .osl 0 1 c.length), (4, .sl 1 L), (0, .sl 6 (ndR c))]) (fun j => ⟨2, growO 1 1 (rb (valsP c l k j)) ++ [(0, ⟨1, R⟩)]⟩) (fun j => j ≤ c.length) (fun j => c.length - j) 0 (Nat.zero_le _) ?_ ?_
  · (refine Weak.ren [] [0] (by simp) (by simp) (by decide) ?_; simp only [stay1, vwL, vw, vwF, sw, St.get, St.look, Fr.get, ↓reduceIte, reduceIte, Nat.reduceEqDiff, Nat.reduceAdd, Nat.reduceBEq, Nat.reduceLT, Nat.reduceLeDiff, exists_eq_left', ne_eq, reduceCtorEq, zR, valsP, show rb [] = [] from rfl, growD_nil, growO_nil, List.nil_append, hRp])
  intro j hj
  refine wpS_go mixed ?_
  have hwj : IntKind.i64.wrap ((j : Int) + 1) = ((j + 1 : Nat) : Int) := wrap_i64 (by omega)
  have hll := valsP_len c l k j
  by_cases hjl : j < c.length
  case neg =>
    have hd2 : ¬ ((j : Int) < (c.length : Int)) := by omega
    obtain rfl : j = c.length := by omega
    have hsub : IntKind.i64.wrap ((c.length : Int) - 1) = ((c.length - 1 : Nat) : Int) := by rw [wrap_i64 (by omega)]; omega
    have hgv := rb_get (valsP c l k c.length) (i := c.length - 1) (by omega)
    rw [hvk] at hgv
    cases hb : valueA c (leafN num k)
    · rw [hb] at hgv
      have hfl : tautS c num (2 ^ l.length) = false := tautS_false (k := k + 1) (by rw [tautS, htk, hb]; rfl) (by omega)
      rw [hfl]
      simp only [Int.reduceToNat, Int.reduceLT, Int.reduceLE, Int.reduceBEq, Int.reduceBNe, St0, argFr, ↓callZ, ↓midZ, ↓unZ, ↓thenW, ↓blockW, ↓opX, ↓opV, ↓pX, ↓pW, ↓putK, ↓putP, ↓atK, ↓normK, ↓postZ, ↓reduceIte, reduceIte, Nat.reduceEqDiff, Nat.reduceAdd, Nat.reduceBEq, Nat.reduceLT, Nat.reduceLeDiff, binW, bodyQ, ressW, resW, ne_eq, forall_const, reduceCtorEq, implies_true, sets, oneAll, setD, rels, fillE, fillD, List.replicate, rowsOf, forall_eq, Nat.reduceMul, ↓zD, zT, hd2, ndR_len, hsub, rb_len, hll, hgv]
      (repeat refine And.intro (by first | omega | exact ui_nonneg _ | exact Int.natCast_nonneg _ | rfl | exact rows_one' _ _ | exact us_one _ | (intro _ h; cases h; done)) ?_)
      exact .drop (by simp) (by simp [vw, vwL])
    · rw [hb] at hgv
      simp only [Int.reduceToNat, Int.reduceLT, Int.reduceLE, Int.reduceBEq, Int.reduceBNe, St0, argFr, ↓callZ, ↓midZ, ↓unZ, ↓thenW, ↓blockW, ↓opX, ↓opV, ↓pX, ↓pW, ↓putK, ↓putP, ↓atK, ↓normK, ↓postZ, ↓reduceIte, reduceIte, Nat.reduceEqDiff, Nat.reduceAdd, Nat.reduceBEq, Nat.reduceLT, Nat.reduceLeDiff, binW, bodyQ, ressW, resW, ne_eq, forall_const, reduceCtorEq, implies_true, sets, oneAll, setD, rels, fillE, fillD, List.replicate, rowsOf, forall_eq, Nat.reduceMul, ↓zD, zT, hd2, ndR_len, hsub, rb_len, hll, hgv]
      (repeat refine And.intro (by first | omega | exact ui_nonneg _ | exact Int.natCast_nonneg _ | rfl | exact rows_one' _ _ | exact us_one _ | (intro _ h; cases h; done)) ?_)
      refine ⟨k + 1, ⟨by omega, by rw [tautS, htk, hb]; rfl⟩, ?_, by omega⟩
      (refine Weak.ren [] [0] (by simp) (by simp) (by decide) ?_; simp only [stay1, vwL, vw, vwF, sw, St.get, St.look, Fr.get, ↓reduceIte, reduceIte, Nat.reduceEqDiff, Nat.reduceAdd, Nat.reduceBEq, Nat.reduceLT, Nat.reduceLeDiff, exists_eq_left', ne_eq, reduceCtorEq, zR, hwk, hRp])
  have hd2 : ((j : Int) < (c.length : Int)) := by omega
  have hg := ndR_get c hjl
  have hgR := hrg hjl
  have hq := hv j hjl
  have h1 : 1 ≤ (c.getD j nd0).op := by
    have hok := (nodeE_iff.1 hq).1
    rcases Int.lt_or_le (c.getD j nd0).op 1 with h | h
    · rw [uses_out (.inl h)] at hok; cases hok
    · exact h
  have hsn : valsP c l k (j + 1) = valsP c l k j ++ [valP c l k (valsP c l k j) j] := rfl
  have hrs : ∀ b, rb (valsP c l k j ++ [b]) = rb (valsP c l k j) ++ [[.bool b]] := fun b => by simp [rb]
  have hat := atS_lt l j l.length
  unfold valP at hsn
  generalize c.getD j nd0 = p at hg hq h1 hsn
  by_cases h0 : 0 ≤ atS l j l.length
  · rw [if_pos h0] at hsn
    generalize atS l j l.length = z at h0 hat hgR hsn
    obtain ⟨m, rfl⟩ := Int.eq_ofNat_of_zero_le h0
    rw [Int.toNat_natCast] at hsn
    simp only [Int.reduceToNat, Int.reduceLT, Int.reduceLE, Int.reduceBEq, Int.reduceBNe, St0, argFr, ↓callZ, ↓midZ, ↓unZ, ↓thenW, ↓blockW, ↓opX, ↓opV, ↓pX, ↓pW, ↓putK, ↓putP, ↓atK, ↓normK, ↓postZ, ↓reduceIte, reduceIte, Nat.reduceEqDiff, Nat.reduceAdd, Nat.reduceBEq, Nat.reduceLT, Nat.reduceLeDiff, binW, bodyQ, ressW, resW, ne_eq, forall_const, reduceCtorEq, implies_true, sets, oneAll, setD, rels, fillE, fillD, List.replicate, rowsOf, forall_eq, Nat.reduceMul, ↓zD, zT, hd2, ndR_len, hrl, hgR, h0, convN (show m ≤ 1000000 by omega), shrNat k m (by omega), and1Nat (div_lt62 (show k < 2 ^ 62 by omega) m), bitNat, rb_len, hll]
    (repeat refine And.intro (by first | omega | exact ui_nonneg _ | exact Int.natCast_nonneg _ | rfl | exact rows_one' _ _ | exact us_one _ | (intro _ h; cases h; done)) ?_)
    refine ⟨j + 1, by omega, ?_, by omega⟩
    rw [hsn, ← hrs]
    (refine Weak.ren [(1, 2)] [1, 0] (by simp) (by simp) (by decide) ?_; simp only [stay1, vwL, vw, vwF, sw, St.get, St.look, Fr.get, ↓reduceIte, reduceIte, Nat.reduceEqDiff, Nat.reduceAdd, Nat.reduceBEq, Nat.reduceLT, Nat.reduceLeDiff, exists_eq_left', ne_eq, reduceCtorEq, zR, hwj, pureE_rb, hRp])
  rw [if_neg h0] at hsn
  have hz : atS l j l.length = -1 := by omega
  rw [hz] at hgR
  by_cases h8 : p.op ≤ 8
  · rw [if_pos h8] at hsn
    simp only [Int.reduceToNat, Int.reduceLT, Int.reduceLE, Int.reduceBEq, Int.reduceBNe, St0, argFr, ↓callZ, ↓midZ, ↓unZ, ↓thenW, ↓blockW, ↓opX, ↓opV, ↓pX, ↓pW, ↓putK, ↓putP, ↓atK, ↓normK, ↓postZ, ↓reduceIte, reduceIte, Nat.reduceEqDiff, Nat.reduceAdd, Nat.reduceBEq, Nat.reduceLT, Nat.reduceLeDiff, binW, bodyQ, ressW, resW, ne_eq, forall_const, reduceCtorEq, implies_true, sets, oneAll, setD, rels, fillE, fillD, List.replicate, rowsOf, forall_eq, Nat.reduceMul, ↓zD, zT, hd2, ndR_len, hrl, hgR, hg, Nd.row]
    (repeat refine And.intro (by first | omega | exact ui_nonneg _ | exact Int.natCast_nonneg _ | rfl | exact rows_one' _ _ | exact us_one _ | (intro _ h; cases h; done)) ?_)
    refine .go (CallT.of_runs (Propositional41 p.op) rfl) ?_
    rw [decide_eq_true h1, decide_eq_true h8]
    simp only [Int.reduceToNat, Int.reduceLT, Int.reduceLE, Int.reduceBEq, Int.reduceBNe, St0, argFr, ↓callZ, ↓midZ, ↓unZ, ↓thenW, ↓blockW, ↓opX, ↓opV, ↓pX, ↓pW, ↓putK, ↓putP, ↓atK, ↓normK, ↓postZ, ↓reduceIte, reduceIte, Nat.reduceEqDiff, Nat.reduceAdd, Nat.reduceBEq, Nat.reduceLT, Nat.reduceLeDiff, binW, bodyQ, ressW, resW, ne_eq, forall_const, reduceCtorEq, implies_true, sets, oneAll, setD, rels, fillE, fillD, List.replicate, rowsOf, forall_eq, Nat.reduceMul, ↓zD, zT, hg, Nd.row, ndR_len]
    (repeat refine And.intro (by first | omega | exact ui_nonneg _ | exact Int.natCast_nonneg _ | rfl | exact rows_one' _ _ | exact us_one _ | (intro _ h; cases h; done)) ?_)
    refine .go (CallT.lentS (refValue43 (p := p) (v := valsP c l k j) (facts := 0) (by rw [hll]; exact hq) h8 (by omega)) ⟨.pure (by simp [D.isPureL, D.isPure, Nd.row]), Seen.grow (by simp [St.get, look_growO, look_cons, look_nil]) id (by simp) (fun e he => by simp [rb] at he; rcases he with ⟨_, rfl⟩ | ⟨_, rfl⟩ <;> rfl) (rb_pure _), .pure rfl, trivial⟩ rfl) ?_
    simp only [Int.reduceToNat, Int.reduceLT, Int.reduceLE, Int.reduceBEq, Int.reduceBNe, St0, argFr, ↓callZ, ↓midZ, ↓unZ, ↓thenW, ↓blockW, ↓opX, ↓opV, ↓pX, ↓pW, ↓putK, ↓putP, ↓atK, ↓normK, ↓postZ, ↓reduceIte, reduceIte, Nat.reduceEqDiff, Nat.reduceAdd, Nat.reduceBEq, Nat.reduceLT, Nat.reduceLeDiff, binW, bodyQ, ressW, resW, ne_eq, forall_const, reduceCtorEq, implies_true, sets, oneAll, setD, rels, fillE, fillD, List.replicate, rowsOf, forall_eq, Nat.reduceMul, ↓zD, zT, rb_len, hll]
    (repeat refine And.intro (by first | omega | exact ui_nonneg _ | exact Int.natCast_nonneg _ | rfl | exact rows_one' _ _ | exact us_one _ | (intro _ h; cases h; done)) ?_)
    refine ⟨j + 1, by omega, ?_, by omega⟩
    rw [hsn, ← hrs]
    (refine Weak.ren [(1, 2)] [1, 0] (by simp) (by simp) (by decide) ?_; simp only [stay1, vwL, vw, vwF, sw, St.get, St.look, Fr.get, ↓reduceIte, reduceIte, Nat.reduceEqDiff, Nat.reduceAdd, Nat.reduceBEq, Nat.reduceLT, Nat.reduceLeDiff, exists_eq_left', ne_eq, reduceCtorEq, zR, hwj, pureE_rb, hRp])
  · rw [if_neg h8] at hsn
    simp only [Int.reduceToNat, Int.reduceLT, Int.reduceLE, Int.reduceBEq, Int.reduceBNe, St0, argFr, ↓callZ, ↓midZ, ↓unZ, ↓thenW, ↓blockW, ↓opX, ↓opV, ↓pX, ↓pW, ↓putK, ↓putP, ↓atK, ↓normK, ↓postZ, ↓reduceIte, reduceIte, Nat.reduceEqDiff, Nat.reduceAdd, Nat.reduceBEq, Nat.reduceLT, Nat.reduceLeDiff, binW, bodyQ, ressW, resW, ne_eq, forall_const, reduceCtorEq, implies_true, sets, oneAll, setD, rels, fillE, fillD, List.replicate, rowsOf, forall_eq, Nat.reduceMul, ↓zD, zT, hd2, ndR_len, hrl, hgR, hg, Nd.row]
    (repeat refine And.intro (by first | omega | exact ui_nonneg _ | exact Int.natCast_nonneg _ | rfl | exact rows_one' _ _ | exact us_one _ | (intro _ h; cases h; done)) ?_)
    refine .go (CallT.of_runs (Propositional41 p.op) rfl) ?_
    rw [decide_eq_true h1, decide_eq_false h8]
    simp only [Int.reduceToNat, Int.reduceLT, Int.reduceLE, Int.reduceBEq, Int.reduceBNe, St0, argFr, ↓callZ, ↓midZ, ↓unZ, ↓thenW, ↓blockW, ↓opX, ↓opV, ↓pX, ↓pW, ↓putK, ↓putP, ↓atK, ↓normK, ↓postZ, ↓reduceIte, reduceIte, Nat.reduceEqDiff, Nat.reduceAdd, Nat.reduceBEq, Nat.reduceLT, Nat.reduceLeDiff, binW, bodyQ, ressW, resW, ne_eq, forall_const, reduceCtorEq, implies_true, sets, oneAll, setD, rels, fillE, fillD, List.replicate, rowsOf, forall_eq, Nat.reduceMul, ↓zD, zT, rb_len, hll]
    (repeat refine And.intro (by first | omega | exact ui_nonneg _ | exact Int.natCast_nonneg _ | rfl | exact rows_one' _ _ | exact us_one _ | (intro _ h; cases h; done)) ?_)
    refine ⟨j + 1, by omega, ?_, by omega⟩
    rw [hsn, ← hrs]
    (refine Weak.ren [(1, 2)] [1, 0] (by simp) (by simp) (by decide) ?_; simp only [stay1, vwL, vw, vwF, sw, St.get, St.look, Fr.get, ↓reduceIte, reduceIte, Nat.reduceEqDiff, Nat.reduceAdd, Nat.reduceBEq, Nat.reduceLT, Nat.reduceLeDiff, exists_eq_left', ne_eq, reduceCtorEq, zR, hwj, pureE_rb, hRp])
end Go.Pd
