/- Package model and its specification: contracts, part m: the specification's model of a list of worlds. -/
import Derived.Test.YtkinhajadppfaaaDoorMl
set_option linter.unusedSectionVars false
set_option linter.unusedVariables false
set_option linter.unusedSimpArgs false
set_option linter.defProp false
set_option maxRecDepth 20000
namespace Go.Pd
open Go Go.Proofs
theorem take_runs (m : Mod) (l : List Int) (h0 : ∀ x ∈ l, 0 ≤ x) (h1 : ∀ r ∈ m.R, ∀ x ∈ l, x < r.length) (hV : m.V.length ≤ 1000) (hR : m.R.length ≤ 1000) (hl : l.length ≤ 1000) :
    Runs Tryd.prog 45 [m.d, .sl 1 (rows .i64 l)] (m.take l).d := by
  refine CallT.go_fn mixed Tryd.func45 k45 (by simp) fun hf => ?_
  simp only [Int.reduceToNat, Int.reduceLT, Int.reduceLE, Int.reduceBEq, Int.reduceBNe, St0, argFr, ↓thenW, ↓blockW, ↓opX, ↓opV, ↓pX, ↓pW, ↓putK, ↓putP, ↓atK, ↓normK, ↓postZ, evO, Fr.get, Fr.put, ↓reduceIte, reduceIte, Nat.reduceEqDiff, Nat.reduceAdd, Nat.reduceBEq, Nat.reduceLT, Nat.reduceLeDiff, binW, bodyQ, ressW, resW, ne_eq, forall_const, reduceCtorEq, implies_true, sets, oneAll, St.new, St.get, St.look, St.set, setL, setD, rels, fillE, fillD, List.replicate, rowsOf, forall_eq, eraseL, St.erase, Nat.reduceMul, ↓zD, zT, Mod.d]
  refine wpS_loop (fun k : Nat => [(6, .int .i64 k), (5, .ref 2 3 0 0), (4, .ref 1 3 0 0), (2, .ref 0 3 0 0), (1, .sl 1 (rows .i64 l))])
    (fun k => ⟨4, growO 3 1 (us ((m.V.take k).map fun s => pullS s l)) ++ [(2, ⟨3, [[.int .i64 l.length, growD 3 1 (us ((m.V.take k).map fun s => pullS s l)), .nils]]⟩), (1, ⟨3, [[.int .i64 0, .nils, .nils]]⟩), (0, ⟨3, [[.int .i64 m.W, .sl 1 (us m.V), .sl 1 (rr m.R)]]⟩)]⟩)
    (fun k => k ≤ m.V.length) (fun k => m.V.length - k) 0 (Nat.zero_le _) ?_ ?_
  · (refine Weak.ren [] [3, 2, 1, 0] (by simp) (by simp) (by decide) ?_; simp only [stay1, vwL, vw, vwF, sw, St.get, St.look, Fr.get, ↓reduceIte, reduceIte, Nat.reduceEqDiff, Nat.reduceAdd, Nat.reduceBEq, Nat.reduceLT, Nat.reduceLeDiff, exists_eq_left', ne_eq, reduceCtorEq, zR, List.take_zero, List.map_nil, growO_nil, growD_nil, List.nil_append])
  · intro k hk
    refine wpS_go mixed ?_
    by_cases h : k < m.V.length
    · have hd : ((k : Int) < (m.V.length : Int)) := by omega
      have hw := wrap_up (k := k) (by omega)
      have ht : (m.V.take (k + 1)).map (fun s => pullS s l) = (m.V.take k).map (fun s => pullS s l) ++ [pullS (m.V.getD k 0) l] := by
        rw [take_snoc _ h 0, List.map_append]; rfl
      have hlen : ((m.V.take k).map fun s => pullS s l).length = k := by simp; omega
      generalize hv : (m.V.take k).map (fun s => pullS s l) = v at *
      simp only [Int.reduceToNat, Int.reduceLT, Int.reduceLE, Int.reduceBEq, Int.reduceBNe, St0, argFr, ↓thenW, ↓blockW, ↓opX, ↓opV, ↓pX, ↓pW, ↓putK, ↓putP, ↓atK, ↓normK, ↓postZ, evO, Fr.get, Fr.put, ↓reduceIte, reduceIte, Nat.reduceEqDiff, Nat.reduceAdd, Nat.reduceBEq, Nat.reduceLT, Nat.reduceLeDiff, binW, bodyQ, ressW, resW, ne_eq, forall_const, reduceCtorEq, implies_true, sets, oneAll, St.new, St.get, St.look, St.set, setL, setD, rels, fillE, fillD, List.replicate, rowsOf, forall_eq, eraseL, St.erase, Nat.reduceMul, ↓zD, zT, hd, hw, us_get _ h]
      refine ⟨by omega, .go (CallT.of_runs (squeeze_runs (m.V.getD k 0) l) rfl) ?_⟩
      simp only [Int.reduceToNat, Int.reduceLT, Int.reduceLE, Int.reduceBEq, Int.reduceBNe, St0, argFr, ↓thenW, ↓blockW, ↓opX, ↓opV, ↓pX, ↓pW, ↓putK, ↓putP, ↓atK, ↓normK, ↓postZ, evO, Fr.get, Fr.put, ↓reduceIte, reduceIte, Nat.reduceEqDiff, Nat.reduceAdd, Nat.reduceBEq, Nat.reduceLT, Nat.reduceLeDiff, binW, bodyQ, ressW, resW, ne_eq, forall_const, reduceCtorEq, implies_true, sets, oneAll, St.new, St.get, St.look, St.set, setL, setD, rels, fillE, fillD, List.replicate, rowsOf, forall_eq, eraseL, St.erase, Nat.reduceMul, ↓zD, zT, hw, hlen]
      refine ⟨rfl, by omega, by omega, k + 1, by omega, ?_, by omega⟩
      rw [ht]
      (refine Weak.ren [(3, 4)] [3, 2, 1, 0] (by simp) (by simp) (by decide) ?_; simp only [stay1, vwL, vw, vwF, sw, St.get, St.look, Fr.get, ↓reduceIte, reduceIte, Nat.reduceEqDiff, Nat.reduceAdd, Nat.reduceBEq, Nat.reduceLT, Nat.reduceLeDiff, exists_eq_left', ne_eq, reduceCtorEq, zR])
    · have hd : ¬ ((k : Int) < (m.V.length : Int)) := by omega
      have hk' : k = m.V.length := by omega
      subst hk'
      rw [List.take_length]
      generalize hv : m.V.map (fun s => pullS s l) = v
      simp only [Int.reduceToNat, Int.reduceLT, Int.reduceLE, Int.reduceBEq, Int.reduceBNe, St0, argFr, ↓thenW, ↓blockW, ↓opX, ↓opV, ↓pX, ↓pW, ↓putK, ↓putP, ↓atK, ↓normK, ↓postZ, evO, Fr.get, Fr.put, ↓reduceIte, reduceIte, Nat.reduceEqDiff, Nat.reduceAdd, Nat.reduceBEq, Nat.reduceLT, Nat.reduceLeDiff, binW, bodyQ, ressW, resW, ne_eq, forall_const, reduceCtorEq, implies_true, sets, oneAll, St.new, St.get, St.look, St.set, setL, setD, rels, fillE, fillD, List.replicate, rowsOf, forall_eq, eraseL, St.erase, Nat.reduceMul, ↓zD, zT, hd]
      refine wpS_loop (fun k : Nat => [(7, .int .i64 k), (5, .ref 2 3 0 0), (4, .ref 1 3 0 0), (2, .ref 0 3 0 0), (1, .sl 1 (rows .i64 l))])
        (fun k => ⟨5, growO 4 1 (rr ((m.R.take k).map fun r => rowOf r l)) ++ (growO 3 1 (us v) ++ [(2, ⟨3, [[.int .i64 l.length, growD 3 1 (us v), growD 4 1 (rr ((m.R.take k).map fun r => rowOf r l))]]⟩), (1, ⟨3, [[.int .i64 0, .nils, .nils]]⟩), (0, ⟨3, [[.int .i64 m.W, .sl 1 (us m.V), .sl 1 (rr m.R)]]⟩)])⟩)
        (fun k => k ≤ m.R.length) (fun k => m.R.length - k) 0 (Nat.zero_le _) ?_ ?_
      · (refine Weak.ren [] [4, 3, 2, 1, 0] (by simp) (by simp) (by decide) ?_; simp only [stay1, vwL, vw, vwF, sw, St.get, St.look, Fr.get, ↓reduceIte, reduceIte, Nat.reduceEqDiff, Nat.reduceAdd, Nat.reduceBEq, Nat.reduceLT, Nat.reduceLeDiff, exists_eq_left', ne_eq, reduceCtorEq, zR, List.take_zero, List.map_nil, growO_nil, growD_nil, List.nil_append])
      · intro k hk
        refine wpS_go mixed ?_
        by_cases h : k < m.R.length
        · have hd : ((k : Int) < (m.R.length : Int)) := by omega
          have hw := wrap_up (k := k) (by omega)
          have ht : (m.R.take (k + 1)).map (fun r => rowOf r l) = (m.R.take k).map (fun r => rowOf r l) ++ [rowOf (m.R.getD k []) l] := by
            rw [take_snoc _ h [], List.map_append]; rfl
          have hlen : ((m.R.take k).map fun r => rowOf r l).length = k := by simp; omega
          generalize hv : (m.R.take k).map (fun r => rowOf r l) = u at *
          have hr : m.R.getD k [] ∈ m.R := by simp [List.getD, h]
          generalize hrow : m.R.getD k [] = r at *
          simp only [Int.reduceToNat, Int.reduceLT, Int.reduceLE, Int.reduceBEq, Int.reduceBNe, St0, argFr, ↓thenW, ↓blockW, ↓opX, ↓opV, ↓pX, ↓pW, ↓putK, ↓putP, ↓atK, ↓normK, ↓postZ, evO, Fr.get, Fr.put, ↓reduceIte, reduceIte, Nat.reduceEqDiff, Nat.reduceAdd, Nat.reduceBEq, Nat.reduceLT, Nat.reduceLeDiff, binW, bodyQ, ressW, resW, ne_eq, forall_const, reduceCtorEq, implies_true, sets, oneAll, St.new, St.get, St.look, St.set, setL, setD, rels, fillE, fillD, List.replicate, rowsOf, forall_eq, eraseL, St.erase, Nat.reduceMul, ↓zD, zT, hd, hw]
          refine wpS_loopW (fun i : Nat => [(9, .int .i64 i), (8, growD 5 1 (us ((l.take i).map fun w => pullS (r.getD w.toNat 0) l))), (7, .int .i64 k), (5, .ref 2 3 0 0), (4, .ref 1 3 0 0), (2, .ref 0 3 0 0), (1, .sl 1 (rows .i64 l))])
            (fun i => ⟨6, growO 5 1 (us ((l.take i).map fun w => pullS (r.getD w.toNat 0) l)) ++ (growO 4 1 (rr u) ++ (growO 3 1 (us v) ++ [(2, ⟨3, [[.int .i64 l.length, growD 3 1 (us v), growD 4 1 (rr u)]]⟩), (1, ⟨3, [[.int .i64 0, .nils, .nils]]⟩), (0, ⟨3, [[.int .i64 m.W, .sl 1 (us m.V), .sl 1 (rr m.R)]]⟩)]))⟩)
            (fun i => i ≤ l.length) (fun i => l.length - i) 0 (Nat.zero_le _) ?_ ?_
          · (refine Weak.ren [] [5, 4, 3, 2, 1, 0] (by simp) (by simp) (by decide) ?_; simp only [stay1, vwL, vw, vwF, sw, St.get, St.look, Fr.get, ↓reduceIte, reduceIte, Nat.reduceEqDiff, Nat.reduceAdd, Nat.reduceBEq, Nat.reduceLT, Nat.reduceLeDiff, exists_eq_left', ne_eq, reduceCtorEq, zR, List.take_zero, List.map_nil, growO_nil, growD_nil, List.nil_append])
          intro i hi
          refine wpS_go mixed ?_
          by_cases h2 : i < l.length
          · have hd2 : ((i : Int) < (l.length : Int)) := by omega
            have hw2 := wrap_up (k := i) (by omega)
            have ht2 : (l.take (i + 1)).map (fun w => pullS (r.getD w.toNat 0) l) = (l.take i).map (fun w => pullS (r.getD w.toNat 0) l) ++ [pullS (r.getD (l.getD i 0).toNat 0) l] := by
              rw [take_snoc _ h2 0, List.map_append]; rfl
            have hlen2 : ((l.take i).map fun w => pullS (r.getD w.toNat 0) l).length = i := by simp; omega
            generalize (l.take i).map (fun w => pullS (r.getD w.toNat 0) l) = z at *
            have hx : l.getD i 0 ∈ l := by simp [List.getD, h2]
            generalize hxe : l.getD i 0 = x at *
            have hx0 := h0 x hx
            have hx1 := h1 r hr x hx
            have hx2 : x.toNat < r.length := by omega
            simp only [Int.reduceToNat, Int.reduceLT, Int.reduceLE, Int.reduceBEq, Int.reduceBNe, St0, argFr, ↓thenW, ↓blockW, ↓opX, ↓opV, ↓pX, ↓pW, ↓putK, ↓putP, ↓atK, ↓normK, ↓postZ, evO, Fr.get, Fr.put, ↓reduceIte, reduceIte, Nat.reduceEqDiff, Nat.reduceAdd, Nat.reduceBEq, Nat.reduceLT, Nat.reduceLeDiff, binW, bodyQ, ressW, resW, ne_eq, forall_const, reduceCtorEq, implies_true, sets, oneAll, St.new, St.get, St.look, St.set, setL, setD, rels, fillE, fillD, List.replicate, rowsOf, forall_eq, eraseL, St.erase, Nat.reduceMul, ↓zD, zT, hd2, hw2, rr_get _ h, hrow, rows_get _ _ h2, hxe, us_get _ hx2]
            refine ⟨by omega, by omega, by omega, hx0, by omega, .go (CallT.of_runs (squeeze_runs (r.getD x.toNat 0) l) rfl) ?_⟩
            simp only [Int.reduceToNat, Int.reduceLT, Int.reduceLE, Int.reduceBEq, Int.reduceBNe, St0, argFr, ↓thenW, ↓blockW, ↓opX, ↓opV, ↓pX, ↓pW, ↓putK, ↓putP, ↓atK, ↓normK, ↓postZ, evO, Fr.get, Fr.put, ↓reduceIte, reduceIte, Nat.reduceEqDiff, Nat.reduceAdd, Nat.reduceBEq, Nat.reduceLT, Nat.reduceLeDiff, binW, bodyQ, ressW, resW, ne_eq, forall_const, reduceCtorEq, implies_true, sets, oneAll, St.new, St.get, St.look, St.set, setL, setD, rels, fillE, fillD, List.replicate, rowsOf, forall_eq, eraseL, St.erase, Nat.reduceMul, ↓zD, zT, hw2, hlen2]
            refine ⟨rfl, by omega, by omega, i + 1, by omega, ?_, by omega⟩
            rw [ht2]
            (refine Weak.ren [(5, 6)] [5, 4, 3, 2, 1, 0] (by simp) (by simp) (by decide) ?_; simp only [stay1, vwL, vw, vwF, sw, St.get, St.look, Fr.get, ↓reduceIte, reduceIte, Nat.reduceEqDiff, Nat.reduceAdd, Nat.reduceBEq, Nat.reduceLT, Nat.reduceLeDiff, exists_eq_left', ne_eq, reduceCtorEq, zR])
          · have hd2 : ¬ ((i : Int) < (l.length : Int)) := by omega
            have hi' : i = l.length := by omega
            subst hi'
            rw [List.take_length]
            simp only [Int.reduceToNat, Int.reduceLT, Int.reduceLE, Int.reduceBEq, Int.reduceBNe, St0, argFr, ↓thenW, ↓blockW, ↓opX, ↓opV, ↓pX, ↓pW, ↓putK, ↓putP, ↓atK, ↓normK, ↓postZ, evO, Fr.get, Fr.put, ↓reduceIte, reduceIte, Nat.reduceEqDiff, Nat.reduceAdd, Nat.reduceBEq, Nat.reduceLT, Nat.reduceLeDiff, binW, bodyQ, ressW, resW, ne_eq, forall_const, reduceCtorEq, implies_true, sets, oneAll, St.new, St.get, St.look, St.set, setL, setD, rels, fillE, fillD, List.replicate, rowsOf, forall_eq, eraseL, St.erase, Nat.reduceMul, ↓zD, zT, hd2]
            refine .go [(8, .sl 1 (us (rowOf r l))), (7, .int .i64 k), (5, .ref 2 3 0 0), (4, .ref 1 3 0 0), (2, .ref 0 3 0 0), (1, .sl 1 (rows .i64 l))]
              ⟨6, growO 4 1 (rr u) ++ (growO 3 1 (us v) ++ [(2, ⟨3, [[.int .i64 l.length, growD 3 1 (us v), growD 4 1 (rr u)]]⟩), (1, ⟨3, [[.int .i64 0, .nils, .nils]]⟩), (0, ⟨3, [[.int .i64 m.W, .sl 1 (us m.V), .sl 1 (rr m.R)]]⟩)])⟩ ?_ ?_
            · (refine Weak.ren [] [4, 3, 2, 1, 0] (by simp) (by simp) (by decide) ?_; simp only [stay1, vwL, vw, vwF, sw, St.get, St.look, Fr.get, ↓reduceIte, reduceIte, Nat.reduceEqDiff, Nat.reduceAdd, Nat.reduceBEq, Nat.reduceLT, Nat.reduceLeDiff, exists_eq_left', ne_eq, reduceCtorEq, zR, rowOf])
            simp only [Int.reduceToNat, Int.reduceLT, Int.reduceLE, Int.reduceBEq, Int.reduceBNe, St0, argFr, ↓thenW, ↓blockW, ↓opX, ↓opV, ↓pX, ↓pW, ↓putK, ↓putP, ↓atK, ↓normK, ↓postZ, evO, Fr.get, Fr.put, ↓reduceIte, reduceIte, Nat.reduceEqDiff, Nat.reduceAdd, Nat.reduceBEq, Nat.reduceLT, Nat.reduceLeDiff, binW, bodyQ, ressW, resW, ne_eq, forall_const, reduceCtorEq, implies_true, sets, oneAll, St.new, St.get, St.look, St.set, setL, setD, rels, fillE, fillD, List.replicate, rowsOf, forall_eq, eraseL, St.erase, Nat.reduceMul, ↓zD, zT, hw, hlen]
            refine ⟨rfl, by omega, by omega, k + 1, by omega, ?_, by omega⟩
            rw [ht]
            (refine Weak.ren [(4, 6)] [4, 3, 2, 1, 0] (by simp) (by simp) (by decide) ?_; simp only [stay1, vwL, vw, vwF, sw, St.get, St.look, Fr.get, ↓reduceIte, reduceIte, Nat.reduceEqDiff, Nat.reduceAdd, Nat.reduceBEq, Nat.reduceLT, Nat.reduceLeDiff, exists_eq_left', ne_eq, reduceCtorEq, zR])
        · have hd : ¬ ((k : Int) < (m.R.length : Int)) := by omega
          have hk' : k = m.R.length := by omega
          subst hk'
          rw [List.take_length]
          generalize hu : m.R.map (fun r => rowOf r l) = u
          simp only [Int.reduceToNat, Int.reduceLT, Int.reduceLE, Int.reduceBEq, Int.reduceBNe, St0, argFr, ↓thenW, ↓blockW, ↓opX, ↓opV, ↓pX, ↓pW, ↓putK, ↓putP, ↓atK, ↓normK, ↓postZ, evO, Fr.get, Fr.put, ↓reduceIte, reduceIte, Nat.reduceEqDiff, Nat.reduceAdd, Nat.reduceBEq, Nat.reduceLT, Nat.reduceLeDiff, binW, bodyQ, ressW, resW, ne_eq, forall_const, reduceCtorEq, implies_true, sets, oneAll, St.new, St.get, St.look, St.set, setL, setD, rels, fillE, fillD, List.replicate, rowsOf, forall_eq, eraseL, St.erase, Nat.reduceMul, ↓zD, zT, hd]
          refine .drop (by simp) ?_
          simp only [stay1, vwL, vw, vwF, sw, St.get, St.look, Fr.get, ↓reduceIte, reduceIte, Nat.reduceEqDiff, Nat.reduceAdd, Nat.reduceBEq, Nat.reduceLT, Nat.reduceLeDiff, exists_eq_left', ne_eq, reduceCtorEq, zR, Mod.take, Mod.d, hv, hu, sets, rels]
end Go.Pd
