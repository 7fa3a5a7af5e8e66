/- Package model and its specification: contracts, part u: unions, the program's. -/
import Derived.Test.YtkinhajadppfaaaDoorMt
set_option linter.unusedSectionVars false
set_option linter.unusedVariables false
set_option linter.unusedSimpArgs false
set_option linter.defProp false
set_option maxRecDepth 20000
namespace Go.Pd
open Go Go.Proofs
theorem union_runs (a b : Mod) : Runs Tryd.prog 23 [a.d, b.d] (unD (a.union b)) := by
  refine CallT.go_fn mixed Tryd.func23 k23 (by simp) fun hf => ?_
  simp only [Int.reduceToNat, Int.reduceLT, Int.reduceLE, Int.reduceBEq, Int.reduceBNe, St0, argFr, ↓thenW, ↓blockW, ↓opX, ↓opV, ↓pX, ↓pW, ↓putK, ↓putP, ↓atK, ↓normK, ↓postZ, evO, Fr.get, Fr.put, ↓reduceIte, reduceIte, Nat.reduceEqDiff, Nat.reduceAdd, Nat.reduceBEq, Nat.reduceLT, Nat.reduceLeDiff, binW, bodyQ, ressW, resW, ne_eq, forall_const, reduceCtorEq, implies_true, sets, oneAll, St.new, St.get, St.look, St.set, setL, setD, rels, fillE, fillD, List.replicate, rowsOf, forall_eq, eraseL, St.erase, Nat.reduceMul, ↓zD, zT, Mod.d]
  refine .go (CallT.of_runs (check_runs a) rfl) ?_
  by_cases h1 : a.check = 0
  · simp only [Int.reduceToNat, Int.reduceLT, Int.reduceLE, Int.reduceBEq, Int.reduceBNe, St0, argFr, ↓thenW, ↓blockW, ↓opX, ↓opV, ↓pX, ↓pW, ↓putK, ↓putP, ↓atK, ↓normK, ↓postZ, evO, Fr.get, Fr.put, ↓reduceIte, reduceIte, Nat.reduceEqDiff, Nat.reduceAdd, Nat.reduceBEq, Nat.reduceLT, Nat.reduceLeDiff, binW, bodyQ, ressW, resW, ne_eq, forall_const, reduceCtorEq, implies_true, sets, oneAll, St.new, St.get, St.look, St.set, setL, setD, rels, fillE, fillD, List.replicate, rowsOf, forall_eq, eraseL, St.erase, Nat.reduceMul, ↓zD, zT, h1]
    refine .go (CallT.of_runs (check_runs b) rfl) ?_
    by_cases h2 : b.check = 0
    · obtain ⟨c1, c2, c3, c4, c5, c6, c7⟩ := Mod.check_zero h1
      obtain ⟨d1, d2, d3, d4, d5, d6, d7⟩ := Mod.check_zero h2
      by_cases h3 : a.R.length = b.R.length
      · have h3b : ((a.R.length : Int) != (b.R.length : Int)) = false := by simp [h3]
        by_cases h4 : a.V.length = b.V.length
        · have h4b : ((a.V.length : Int) != (b.V.length : Int)) = false := by simp [h4]
          obtain ⟨A, hA⟩ : ∃ A : Nat, a.W = (A : Int) := ⟨a.W.toNat, by omega⟩
          obtain ⟨B, hB⟩ : ∃ B : Nat, b.W = (B : Int) := ⟨b.W.toNat, by omega⟩
          have hAt : a.W.toNat = A := by omega
          have hwr : IntKind.i64.wrap (a.W + b.W) = a.W + b.W := wrap_i64 (by omega)
          by_cases h5 : 64 < a.W + b.W
          · simp only [Int.reduceToNat, Int.reduceLT, Int.reduceLE, Int.reduceBEq, Int.reduceBNe, St0, argFr, ↓thenW, ↓blockW, ↓opX, ↓opV, ↓pX, ↓pW, ↓putK, ↓putP, ↓atK, ↓normK, ↓postZ, evO, Fr.get, Fr.put, ↓reduceIte, reduceIte, Nat.reduceEqDiff, Nat.reduceAdd, Nat.reduceBEq, Nat.reduceLT, Nat.reduceLeDiff, binW, bodyQ, ressW, resW, ne_eq, forall_const, reduceCtorEq, implies_true, sets, oneAll, St.new, St.get, St.look, St.set, setL, setD, rels, fillE, fillD, List.replicate, rowsOf, forall_eq, eraseL, St.erase, Nat.reduceMul, ↓zD, zT, h2, h3b, h4b, hwr, h5]
            (repeat (first | refine And.intro (by omega) ?_ | refine And.intro rfl ?_))
            refine .drop (by simp) ?_
            simp [vw, vwL, unD, Mod.union, Mod.nil, Mod.d, sets, rels, rr, us, h1, h2, h3, h4, h5]
          · have eun : a.union b = (⟨a.W + b.W, (List.range a.V.length).map (unV a b), (List.range a.R.length).map (unR a b)⟩, 0) := by
              unfold Mod.union
              rw [if_neg (by omega), if_neg (by omega), if_neg (by omega), if_neg h5]
            rw [eun]
            simp only [Int.reduceToNat, Int.reduceLT, Int.reduceLE, Int.reduceBEq, Int.reduceBNe, St0, argFr, ↓thenW, ↓blockW, ↓opX, ↓opV, ↓pX, ↓pW, ↓putK, ↓putP, ↓atK, ↓normK, ↓postZ, evO, Fr.get, Fr.put, ↓reduceIte, reduceIte, Nat.reduceEqDiff, Nat.reduceAdd, Nat.reduceBEq, Nat.reduceLT, Nat.reduceLeDiff, binW, bodyQ, ressW, resW, ne_eq, forall_const, reduceCtorEq, implies_true, sets, oneAll, St.new, St.get, St.look, St.set, setL, setD, rels, fillE, fillD, List.replicate, rowsOf, forall_eq, eraseL, St.erase, Nat.reduceMul, ↓zD, zT, h2, h3b, h4b, hwr, h5]
            (repeat (first | refine And.intro (by omega) ?_ | refine And.intro rfl ?_))
            generalize hS : a.W + b.W = S
            simp only [hA, hB]
            refine wpS_loop (fun k : Nat => [(61, .int .i64 k), (60, .int .i64 a.V.length), (59, .sl 1 (us a.V)), (8, .ref 3 3 0 0), (4, .ref 2 3 0 0), (3, .ref 1 3 0 0), (2, .ref 0 3 0 0)])
              (fun k => ⟨5, growO 4 1 (us ((List.range k).map (unV a b))) ++ [(3, ⟨3, [[.int .i64 S, growD 4 1 (us ((List.range k).map (unV a b))), .nils]]⟩), (2, ⟨3, [[.int .i64 0, .nils, .nils]]⟩), (1, ⟨3, [[.int .i64 B, .sl 1 (us b.V), .sl 1 (rr b.R)]]⟩), (0, ⟨3, [[.int .i64 A, .sl 1 (us a.V), .sl 1 (rr a.R)]]⟩)]⟩) (fun k => k ≤ a.V.length) (fun k => a.V.length - k) 0 (Nat.zero_le _) ?_ ?_
            · (refine Weak.ren [] [4, 3, 2, 1, 0] (by simp) (by simp) (by decide) ?_; simp only [stay1, vwL, vw, vwF, sw, St.get, St.look, Fr.get, ↓reduceIte, reduceIte, Nat.reduceEqDiff, Nat.reduceAdd, Nat.reduceBEq, Nat.reduceLT, Nat.reduceLeDiff, exists_eq_left', ne_eq, reduceCtorEq, zR, List.range_zero, List.map_nil, growO_nil, growD_nil, List.nil_append])
            intro k hk
            refine wpS_go mixed ?_
            by_cases h : k < a.V.length
            · have hd : ((k : Int) < (a.V.length : Int)) := by omega
              have hw := wrap_up (k := k) (by omega)
              have ht := range_snoc (unV a b) k
              have hlen : ((List.range k).map (unV a b)).length = k := by simp
              have hun : a.V.getD k 0 ||| b.V.getD k 0 <<< A = unV a b k := by rw [← hAt]; rfl
              generalize (List.range k).map (unV a b) = v at *
              simp only [Int.reduceToNat, Int.reduceLT, Int.reduceLE, Int.reduceBEq, Int.reduceBNe, St0, argFr, ↓thenW, ↓blockW, ↓opX, ↓opV, ↓pX, ↓pW, ↓putK, ↓putP, ↓atK, ↓normK, ↓postZ, evO, Fr.get, Fr.put, ↓reduceIte, reduceIte, Nat.reduceEqDiff, Nat.reduceAdd, Nat.reduceBEq, Nat.reduceLT, Nat.reduceLeDiff, binW, bodyQ, ressW, resW, ne_eq, forall_const, reduceCtorEq, implies_true, sets, oneAll, St.new, St.get, St.look, St.set, setL, setD, rels, fillE, fillD, List.replicate, rowsOf, forall_eq, eraseL, St.erase, Nat.reduceMul, ↓zD, zT, hd, hw, us_get _ h, us_get b.V (show k < b.V.length by omega), hun, hlen]
              (repeat (first | refine And.intro (by omega) ?_ | refine And.intro rfl ?_))
              refine ⟨k + 1, by omega, ?_, by omega⟩
              rw [ht]
              (refine Weak.ren [(4, 5)] [4, 3, 2, 1, 0] (by simp) (by simp) (by decide) ?_; simp only [stay1, vwL, vw, vwF, sw, St.get, St.look, Fr.get, ↓reduceIte, reduceIte, Nat.reduceEqDiff, Nat.reduceAdd, Nat.reduceBEq, Nat.reduceLT, Nat.reduceLeDiff, exists_eq_left', ne_eq, reduceCtorEq, zR])
            · have hd : ¬ ((k : Int) < (a.V.length : Int)) := by omega
              have hk' : k = a.V.length := by omega
              subst hk'
              generalize hv : (List.range a.V.length).map (unV a b) = v at *
              simp only [Int.reduceToNat, Int.reduceLT, Int.reduceLE, Int.reduceBEq, Int.reduceBNe, St0, argFr, ↓thenW, ↓blockW, ↓opX, ↓opV, ↓pX, ↓pW, ↓putK, ↓putP, ↓atK, ↓normK, ↓postZ, evO, Fr.get, Fr.put, ↓reduceIte, reduceIte, Nat.reduceEqDiff, Nat.reduceAdd, Nat.reduceBEq, Nat.reduceLT, Nat.reduceLeDiff, binW, bodyQ, ressW, resW, ne_eq, forall_const, reduceCtorEq, implies_true, sets, oneAll, St.new, St.get, St.look, St.set, setL, setD, rels, fillE, fillD, List.replicate, rowsOf, forall_eq, eraseL, St.erase, Nat.reduceMul, ↓zD, zT, hd]
              (repeat (first | refine And.intro (by omega) ?_ | refine And.intro rfl ?_))
              refine wpS_loop (fun k : Nat => [(85, .int .i64 k), (84, .int .i64 a.R.length), (83, .sl 1 (rr a.R)), (8, .ref 3 3 0 0), (4, .ref 2 3 0 0), (3, .ref 1 3 0 0), (2, .ref 0 3 0 0)])
                (fun k => ⟨6, growO 5 1 (rr ((List.range k).map (unR a b))) ++ (growO 4 1 (us v) ++ [(3, ⟨3, [[.int .i64 S, growD 4 1 (us v), growD 5 1 (rr ((List.range k).map (unR a b)))]]⟩), (2, ⟨3, [[.int .i64 0, .nils, .nils]]⟩), (1, ⟨3, [[.int .i64 B, .sl 1 (us b.V), .sl 1 (rr b.R)]]⟩), (0, ⟨3, [[.int .i64 A, .sl 1 (us a.V), .sl 1 (rr a.R)]]⟩)])⟩) (fun k => k ≤ a.R.length) (fun k => a.R.length - k) 0 (Nat.zero_le _) ?_ ?_
              · (refine Weak.ren [] [5, 4, 3, 2, 1, 0] (by simp) (by simp) (by decide) ?_; simp only [stay1, vwL, vw, vwF, sw, St.get, St.look, Fr.get, ↓reduceIte, reduceIte, Nat.reduceEqDiff, Nat.reduceAdd, Nat.reduceBEq, Nat.reduceLT, Nat.reduceLeDiff, exists_eq_left', ne_eq, reduceCtorEq, zR, List.range_zero, List.map_nil, growO_nil, growD_nil, List.nil_append])
              intro k hk
              refine wpS_go mixed ?_
              by_cases h : k < a.R.length
              · have hd : ((k : Int) < (a.R.length : Int)) := by omega
                have hw := wrap_up (k := k) (by omega)
                have ht := range_snoc (unR a b) k
                have hlen : ((List.range k).map (unR a b)).length = k := by simp
                have hrb : k < b.R.length := by omega
                have hra := c5 (a.R.getD k []) (by simp [List.getD, h])
                have hrb2 := d5 (b.R.getD k []) (by simp [List.getD, hrb])
                have hun : unR a b k = a.R.getD k [] ++ (b.R.getD k []).map fun (s : BitVec 64) => s <<< A := by rw [← hAt]; rfl
                generalize (List.range k).map (unR a b) = u at *
                generalize hre : a.R.getD k [] = r at *
                generalize hqe : b.R.getD k [] = q at *
                rw [hun] at ht
                simp only [Int.reduceToNat, Int.reduceLT, Int.reduceLE, Int.reduceBEq, Int.reduceBNe, St0, argFr, ↓thenW, ↓blockW, ↓opX, ↓opV, ↓pX, ↓pW, ↓putK, ↓putP, ↓atK, ↓normK, ↓postZ, evO, Fr.get, Fr.put, ↓reduceIte, reduceIte, Nat.reduceEqDiff, Nat.reduceAdd, Nat.reduceBEq, Nat.reduceLT, Nat.reduceLeDiff, binW, bodyQ, ressW, resW, ne_eq, forall_const, reduceCtorEq, implies_true, sets, oneAll, St.new, St.get, St.look, St.set, setL, setD, rels, fillE, fillD, List.replicate, rowsOf, forall_eq, eraseL, St.erase, Nat.reduceMul, ↓zD, zT, hd, rr_get _ h, hre, rr_get _ hrb, hqe]
                (repeat (first | refine And.intro (by omega) ?_ | refine And.intro rfl ?_))
                have hrne : r ≠ [] := by rintro rfl; simp at hra; omega
                refine .go (clone_grow r hrne (by omega)) ?_
                simp only [Int.reduceToNat, Int.reduceLT, Int.reduceLE, Int.reduceBEq, Int.reduceBNe, St0, argFr, ↓thenW, ↓blockW, ↓opX, ↓opV, ↓pX, ↓pW, ↓putK, ↓putP, ↓atK, ↓normK, ↓postZ, evO, Fr.get, Fr.put, ↓reduceIte, reduceIte, Nat.reduceEqDiff, Nat.reduceAdd, Nat.reduceBEq, Nat.reduceLT, Nat.reduceLeDiff, binW, bodyQ, ressW, resW, ne_eq, forall_const, reduceCtorEq, implies_true, sets, oneAll, St.new, St.get, St.look, St.set, setL, setD, rels, fillE, fillD, List.replicate, rowsOf, forall_eq, eraseL, St.erase, Nat.reduceMul, ↓zD, zT, rr_get _ hrb, hqe]
                (repeat (first | refine And.intro (by omega) ?_ | refine And.intro rfl ?_))
                refine wpS_loopW (fun w : Nat => [(98, .int .i64 w), (97, .int .i64 q.length), (96, .sl 1 (us q)), (85, .int .i64 k), (84, .int .i64 a.R.length), (83, .sl 1 (rr a.R)), (13, growD 6 1 (us (r ++ (q.take w).map fun (s : BitVec 64) => s <<< A))), (8, .ref 3 3 0 0), (4, .ref 2 3 0 0), (3, .ref 1 3 0 0), (2, .ref 0 3 0 0)])
                  (fun w => ⟨7, growO 6 1 (us (r ++ (q.take w).map fun (s : BitVec 64) => s <<< A)) ++ (growO 5 1 (rr u) ++ (growO 4 1 (us v) ++ [(3, ⟨3, [[.int .i64 S, growD 4 1 (us v), growD 5 1 (rr u)]]⟩), (2, ⟨3, [[.int .i64 0, .nils, .nils]]⟩), (1, ⟨3, [[.int .i64 B, .sl 1 (us b.V), .sl 1 (rr b.R)]]⟩), (0, ⟨3, [[.int .i64 A, .sl 1 (us a.V), .sl 1 (rr a.R)]]⟩)]))⟩) (fun w => w ≤ q.length) (fun w => q.length - w) 0 (Nat.zero_le _) ?_ ?_
                · (refine Weak.ren [] [6, 5, 4, 3, 2, 1, 0] (by simp) (by simp) (by decide) ?_; simp only [stay1, vwL, vw, vwF, sw, St.get, St.look, Fr.get, ↓reduceIte, reduceIte, Nat.reduceEqDiff, Nat.reduceAdd, Nat.reduceBEq, Nat.reduceLT, Nat.reduceLeDiff, exists_eq_left', ne_eq, reduceCtorEq, zR, List.take_zero, List.map_nil, List.append_nil])
                intro w hw2
                refine wpS_go mixed ?_
                by_cases h7 : w < q.length
                · have hd7 : ((w : Int) < (q.length : Int)) := by omega
                  have hw7 := wrap_up (k := w) (by omega)
                  have ht7 : r ++ (q.take (w + 1)).map (fun (s : BitVec 64) => s <<< A) = (r ++ (q.take w).map (fun (s : BitVec 64) => s <<< A)) ++ [q.getD w 0 <<< A] := by rw [take_snoc q h7 0, List.map_append, List.append_assoc]; rfl
                  have hlen7 : (r ++ (q.take w).map fun (s : BitVec 64) => s <<< A).length = A + w := by simp; omega
                  generalize r ++ (q.take w).map (fun (s : BitVec 64) => s <<< A) = z at *
                  simp only [Int.reduceToNat, Int.reduceLT, Int.reduceLE, Int.reduceBEq, Int.reduceBNe, St0, argFr, ↓thenW, ↓blockW, ↓opX, ↓opV, ↓pX, ↓pW, ↓putK, ↓putP, ↓atK, ↓normK, ↓postZ, evO, Fr.get, Fr.put, ↓reduceIte, reduceIte, Nat.reduceEqDiff, Nat.reduceAdd, Nat.reduceBEq, Nat.reduceLT, Nat.reduceLeDiff, binW, bodyQ, ressW, resW, ne_eq, forall_const, reduceCtorEq, implies_true, sets, oneAll, St.new, St.get, St.look, St.set, setL, setD, rels, fillE, fillD, List.replicate, rowsOf, forall_eq, eraseL, St.erase, Nat.reduceMul, ↓zD, zT, hd7, hw7, us_get _ h7, hlen7]
                  (repeat (first | refine And.intro (by omega) ?_ | refine And.intro rfl ?_))
                  refine ⟨w + 1, by omega, ?_, by omega⟩
                  rw [ht7]
                  (refine Weak.ren [(6, 7)] [6, 5, 4, 3, 2, 1, 0] (by simp) (by simp) (by decide) ?_; simp only [stay1, vwL, vw, vwF, sw, St.get, St.look, Fr.get, ↓reduceIte, reduceIte, Nat.reduceEqDiff, Nat.reduceAdd, Nat.reduceBEq, Nat.reduceLT, Nat.reduceLeDiff, exists_eq_left', ne_eq, reduceCtorEq, zR])
                · have hd7 : ¬ ((w : Int) < (q.length : Int)) := by omega
                  have hq' : q.take w = q := List.take_of_length_le (by omega)
                  rw [hq']
                  simp only [Int.reduceToNat, Int.reduceLT, Int.reduceLE, Int.reduceBEq, Int.reduceBNe, St0, argFr, ↓thenW, ↓blockW, ↓opX, ↓opV, ↓pX, ↓pW, ↓putK, ↓putP, ↓atK, ↓normK, ↓postZ, evO, Fr.get, Fr.put, ↓reduceIte, reduceIte, Nat.reduceEqDiff, Nat.reduceAdd, Nat.reduceBEq, Nat.reduceLT, Nat.reduceLeDiff, binW, bodyQ, ressW, resW, ne_eq, forall_const, reduceCtorEq, implies_true, sets, oneAll, St.new, St.get, St.look, St.set, setL, setD, rels, fillE, fillD, List.replicate, rowsOf, forall_eq, eraseL, St.erase, Nat.reduceMul, ↓zD, zT, hd7]
                  (repeat (first | refine And.intro (by omega) ?_ | refine And.intro rfl ?_))
                  refine .go [(13, .sl 1 (us (r ++ q.map fun (s : BitVec 64) => s <<< A))), (85, .int .i64 k), (84, .int .i64 a.R.length), (83, .sl 1 (rr a.R)), (8, .ref 3 3 0 0), (4, .ref 2 3 0 0), (3, .ref 1 3 0 0), (2, .ref 0 3 0 0)]
                    ⟨7, growO 5 1 (rr u) ++ (growO 4 1 (us v) ++ [(3, ⟨3, [[.int .i64 S, growD 4 1 (us v), growD 5 1 (rr u)]]⟩), (2, ⟨3, [[.int .i64 0, .nils, .nils]]⟩), (1, ⟨3, [[.int .i64 B, .sl 1 (us b.V), .sl 1 (rr b.R)]]⟩), (0, ⟨3, [[.int .i64 A, .sl 1 (us a.V), .sl 1 (rr a.R)]]⟩)])⟩ ?_ ?_
                  · (refine Weak.ren [] [5, 4, 3, 2, 1, 0] (by simp) (by simp) (by decide) ?_; simp only [stay1, vwL, vw, vwF, sw, St.get, St.look, Fr.get, ↓reduceIte, reduceIte, Nat.reduceEqDiff, Nat.reduceAdd, Nat.reduceBEq, Nat.reduceLT, Nat.reduceLeDiff, exists_eq_left', ne_eq, reduceCtorEq, zR])
                  simp only [Int.reduceToNat, Int.reduceLT, Int.reduceLE, Int.reduceBEq, Int.reduceBNe, St0, argFr, ↓thenW, ↓blockW, ↓opX, ↓opV, ↓pX, ↓pW, ↓putK, ↓putP, ↓atK, ↓normK, ↓postZ, evO, Fr.get, Fr.put, ↓reduceIte, reduceIte, Nat.reduceEqDiff, Nat.reduceAdd, Nat.reduceBEq, Nat.reduceLT, Nat.reduceLeDiff, binW, bodyQ, ressW, resW, ne_eq, forall_const, reduceCtorEq, implies_true, sets, oneAll, St.new, St.get, St.look, St.set, setL, setD, rels, fillE, fillD, List.replicate, rowsOf, forall_eq, eraseL, St.erase, Nat.reduceMul, ↓zD, zT, hw, hlen]
                  (repeat (first | refine And.intro (by omega) ?_ | refine And.intro rfl ?_))
                  refine ⟨k + 1, by omega, ?_, by omega⟩
                  rw [ht]
                  (refine Weak.ren [(5, 7)] [5, 4, 3, 2, 1, 0] (by simp) (by simp) (by decide) ?_; simp only [stay1, vwL, vw, vwF, sw, St.get, St.look, Fr.get, ↓reduceIte, reduceIte, Nat.reduceEqDiff, Nat.reduceAdd, Nat.reduceBEq, Nat.reduceLT, Nat.reduceLeDiff, exists_eq_left', ne_eq, reduceCtorEq, zR])
              · have hd : ¬ ((k : Int) < (a.R.length : Int)) := by omega
                have hk' : k = a.R.length := by omega
                subst hk'
                generalize hu : (List.range a.R.length).map (unR a b) = u at *
                simp only [Int.reduceToNat, Int.reduceLT, Int.reduceLE, Int.reduceBEq, Int.reduceBNe, St0, argFr, ↓thenW, ↓blockW, ↓opX, ↓opV, ↓pX, ↓pW, ↓putK, ↓putP, ↓atK, ↓normK, ↓postZ, evO, Fr.get, Fr.put, ↓reduceIte, reduceIte, Nat.reduceEqDiff, Nat.reduceAdd, Nat.reduceBEq, Nat.reduceLT, Nat.reduceLeDiff, binW, bodyQ, ressW, resW, ne_eq, forall_const, reduceCtorEq, implies_true, sets, oneAll, St.new, St.get, St.look, St.set, setL, setD, rels, fillE, fillD, List.replicate, rowsOf, forall_eq, eraseL, St.erase, Nat.reduceMul, ↓zD, zT, hd]
                (repeat (first | refine And.intro (by omega) ?_ | refine And.intro rfl ?_))
                refine .drop (by simp) ?_
                simp only [stay1, vwL, vw, vwF, sw, St.get, St.look, Fr.get, ↓reduceIte, reduceIte, Nat.reduceEqDiff, Nat.reduceAdd, Nat.reduceBEq, Nat.reduceLT, Nat.reduceLeDiff, exists_eq_left', ne_eq, reduceCtorEq, zR, unD, Mod.d, hv, hu, sets, rels]
        · have h4b : ((a.V.length : Int) != (b.V.length : Int)) = true := by simp; omega
          simp only [Int.reduceToNat, Int.reduceLT, Int.reduceLE, Int.reduceBEq, Int.reduceBNe, St0, argFr, ↓thenW, ↓blockW, ↓opX, ↓opV, ↓pX, ↓pW, ↓putK, ↓putP, ↓atK, ↓normK, ↓postZ, evO, Fr.get, Fr.put, ↓reduceIte, reduceIte, Nat.reduceEqDiff, Nat.reduceAdd, Nat.reduceBEq, Nat.reduceLT, Nat.reduceLeDiff, binW, bodyQ, ressW, resW, ne_eq, forall_const, reduceCtorEq, implies_true, sets, oneAll, St.new, St.get, St.look, St.set, setL, setD, rels, fillE, fillD, List.replicate, rowsOf, forall_eq, eraseL, St.erase, Nat.reduceMul, ↓zD, zT, h2, h3b, h4b]
          (repeat (first | refine And.intro (by omega) ?_ | refine And.intro rfl ?_))
          refine .drop (by simp) ?_
          simp [vw, vwL, unD, Mod.union, Mod.nil, Mod.d, sets, rels, rr, us, h1, h2, h3, h4]
      · have h3b : ((a.R.length : Int) != (b.R.length : Int)) = true := by simp; omega
        simp only [Int.reduceToNat, Int.reduceLT, Int.reduceLE, Int.reduceBEq, Int.reduceBNe, St0, argFr, ↓thenW, ↓blockW, ↓opX, ↓opV, ↓pX, ↓pW, ↓putK, ↓putP, ↓atK, ↓normK, ↓postZ, evO, Fr.get, Fr.put, ↓reduceIte, reduceIte, Nat.reduceEqDiff, Nat.reduceAdd, Nat.reduceBEq, Nat.reduceLT, Nat.reduceLeDiff, binW, bodyQ, ressW, resW, ne_eq, forall_const, reduceCtorEq, implies_true, sets, oneAll, St.new, St.get, St.look, St.set, setL, setD, rels, fillE, fillD, List.replicate, rowsOf, forall_eq, eraseL, St.erase, Nat.reduceMul, ↓zD, zT, h2, h3b]
        (repeat (first | refine And.intro (by omega) ?_ | refine And.intro rfl ?_))
        refine .drop (by simp) ?_
        simp [vw, vwL, unD, Mod.union, Mod.nil, Mod.d, sets, rels, rr, us, h1, h2, h3]
    · have h2b : (b.check != 0) = true := by simp [h2]
      simp only [Int.reduceToNat, Int.reduceLT, Int.reduceLE, Int.reduceBEq, Int.reduceBNe, St0, argFr, ↓thenW, ↓blockW, ↓opX, ↓opV, ↓pX, ↓pW, ↓putK, ↓putP, ↓atK, ↓normK, ↓postZ, evO, Fr.get, Fr.put, ↓reduceIte, reduceIte, Nat.reduceEqDiff, Nat.reduceAdd, Nat.reduceBEq, Nat.reduceLT, Nat.reduceLeDiff, binW, bodyQ, ressW, resW, ne_eq, forall_const, reduceCtorEq, implies_true, sets, oneAll, St.new, St.get, St.look, St.set, setL, setD, rels, fillE, fillD, List.replicate, rowsOf, forall_eq, eraseL, St.erase, Nat.reduceMul, ↓zD, zT, h2b]
      exact .drop (by simp) (by simp [vw, vwL, unD, Mod.union, Mod.nil, Mod.d, sets, rels, rr, us, h1, h2])
  · have h1b : (a.check != 0) = true := by simp [h1]
    simp only [Int.reduceToNat, Int.reduceLT, Int.reduceLE, Int.reduceBEq, Int.reduceBNe, St0, argFr, ↓thenW, ↓blockW, ↓opX, ↓opV, ↓pX, ↓pW, ↓putK, ↓putP, ↓atK, ↓normK, ↓postZ, evO, Fr.get, Fr.put, ↓reduceIte, reduceIte, Nat.reduceEqDiff, Nat.reduceAdd, Nat.reduceBEq, Nat.reduceLT, Nat.reduceLeDiff, binW, bodyQ, ressW, resW, ne_eq, forall_const, reduceCtorEq, implies_true, sets, oneAll, St.new, St.get, St.look, St.set, setL, setD, rels, fillE, fillD, List.replicate, rowsOf, forall_eq, eraseL, St.erase, Nat.reduceMul, ↓zD, zT, h1b]
    exact .drop (by simp) (by simp [vw, vwL, unD, Mod.union, Mod.nil, Mod.d, sets, rels, rr, us, h1])
end Go.Pd
