/- Package model and its specification: contracts, part p: Generated. -/
import Derived.Test.YtkinhajadppfaaaDoorMo
set_option linter.unusedSectionVars false
set_option linter.unusedVariables false
set_option linter.unusedSimpArgs false
set_option linter.defProp false
set_option maxRecDepth 20000
namespace Go.Pd
open Go Go.Proofs
theorem orW_snoc (w : Nat) (s : BitVec 64) (R : List (List (BitVec 64))) (r : List (BitVec 64)) : orW w s (R ++ [r]) = orW w s R ||| r.getD w 0 := by simp [orW]
theorem stepW_no {m : Mod} {s : BitVec 64} {w : Nat} (h : s.getLsbD w = false) : stepW m s w = s := by simp [stepW, h]
theorem stepW_yes {m : Mod} {s : BitVec 64} {w : Nat} (h : s.getLsbD w = true) : stepW m s w = orW w s m.R := by simp [stepW, h]

theorem refGenerated_runs (m : Mod) (s : BitVec 64) : Runs Tryd.prog 20 [m.d, .int .u64 (ui s)] (genD (m.generated s)) := by
  refine CallT.go_fn mixed Tryd.func20 k20 (by simp) fun hf => ?_
  simp only [Int.reduceToNat, Int.reduceLT, Int.reduceLE, Int.reduceBEq, Int.reduceBNe, St0, argFr, ↓thenW, ↓blockW, ↓opX, ↓opV, ↓pX, ↓pW, ↓putK, ↓putP, ↓atK, ↓normK, ↓postZ, evO, Fr.get, Fr.put, ↓reduceIte, reduceIte, Nat.reduceEqDiff, Nat.reduceAdd, Nat.reduceBEq, Nat.reduceLT, Nat.reduceLeDiff, binW, bodyQ, ressW, resW, ne_eq, forall_const, reduceCtorEq, implies_true, sets, oneAll, St.new, St.get, St.look, St.set, setL, setD, rels, fillE, fillD, List.replicate, rowsOf, forall_eq, eraseL, St.erase, Nat.reduceMul, ↓zD, zT, Mod.d]
  refine .go (CallT.of_runs (refCheck_runs m) rfl) ?_
  by_cases h1 : m.check = 0
  · obtain ⟨c1, c2, c3, c4, c5, c6, c7⟩ := Mod.check_zero h1
    simp only [Int.reduceToNat, Int.reduceLT, Int.reduceLE, Int.reduceBEq, Int.reduceBNe, St0, argFr, ↓thenW, ↓blockW, ↓opX, ↓opV, ↓pX, ↓pW, ↓putK, ↓putP, ↓atK, ↓normK, ↓postZ, evO, Fr.get, Fr.put, ↓reduceIte, reduceIte, Nat.reduceEqDiff, Nat.reduceAdd, Nat.reduceBEq, Nat.reduceLT, Nat.reduceLeDiff, binW, bodyQ, ressW, resW, ne_eq, forall_const, reduceCtorEq, implies_true, sets, oneAll, St.new, St.get, St.look, St.set, setL, setD, rels, fillE, fillD, List.replicate, rowsOf, forall_eq, eraseL, St.erase, Nat.reduceMul, ↓zD, zT, h1, bne_self_eq_false]
    refine .go (CallT.of_runs (refAll_runs m.W (by omega)) rfl) ?_
    by_cases h2 : s &&& ~~~(allS m.W) = 0#64
    · have h2b : (s &&& ~~~(allS m.W) != 0#64) = false := by simp [h2]
      have eres : m.generated s = (m.gen s, 0) := by simp [Mod.generated, h1, h2]
      rw [eres]
      obtain ⟨W, hW⟩ : ∃ W : Nat, m.W = (W : Int) := ⟨m.W.toNat, by omega⟩
      have hWt : m.W.toNat = W := by omega
      simp only [Int.reduceToNat, Int.reduceLT, Int.reduceLE, Int.reduceBEq, Int.reduceBNe, St0, argFr, ↓thenW, ↓blockW, ↓opX, ↓opV, ↓pX, ↓pW, ↓putK, ↓putP, ↓atK, ↓normK, ↓postZ, evO, Fr.get, Fr.put, ↓reduceIte, reduceIte, Nat.reduceEqDiff, Nat.reduceAdd, Nat.reduceBEq, Nat.reduceLT, Nat.reduceLeDiff, binW, bodyQ, ressW, resW, ne_eq, forall_const, reduceCtorEq, implies_true, sets, oneAll, St.new, St.get, St.look, St.set, setL, setD, rels, fillE, fillD, List.replicate, rowsOf, forall_eq, eraseL, St.erase, Nat.reduceMul, ↓zD, zT, h2b]
      rw [hW]
      refine wpS_loop (fun i : Nat => [(8, .int .i64 i), (7, .int .u64 (ui (genN m s i))), (2, .ref 0 3 0 0)]) (fun _ => ⟨1, [(0, ⟨3, [[.int .i64 W, .sl 1 (us m.V), .sl 1 (rr m.R)]]⟩)]⟩) (fun i => i ≤ W) (fun i => W - i) 0 (Nat.zero_le _) ?_ ?_
      · (refine Weak.same ?_; simp [sameF, Fr.get, genN])
      intro i hi
      refine wpS_go mixed ?_
      by_cases h : i < W
      · have hd : ((i : Int) < (W : Int)) := by omega
        have hw := wrap_up (k := i) (by omega)
        simp only [Int.reduceToNat, Int.reduceLT, Int.reduceLE, Int.reduceBEq, Int.reduceBNe, St0, argFr, ↓thenW, ↓blockW, ↓opX, ↓opV, ↓pX, ↓pW, ↓putK, ↓putP, ↓atK, ↓normK, ↓postZ, evO, Fr.get, Fr.put, ↓reduceIte, reduceIte, Nat.reduceEqDiff, Nat.reduceAdd, Nat.reduceBEq, Nat.reduceLT, Nat.reduceLeDiff, binW, bodyQ, ressW, resW, ne_eq, forall_const, reduceCtorEq, implies_true, sets, oneAll, St.new, St.get, St.look, St.set, setL, setD, rels, fillE, fillD, List.replicate, rowsOf, forall_eq, eraseL, St.erase, Nat.reduceMul, ↓zD, zT, hd]
        (repeat (first | refine And.intro (by omega) ?_ | refine And.intro rfl ?_))
        have eg : genN m s (i + 1) = roundG m (genN m s i) W := by rw [← hWt]; rfl
        generalize genN m s i = g at *
        refine wpS_loop (fun w : Nat => [(9, .int .i64 w), (8, .int .i64 i), (7, .int .u64 (ui (roundG m g w))), (2, .ref 0 3 0 0)]) (fun _ => ⟨1, [(0, ⟨3, [[.int .i64 W, .sl 1 (us m.V), .sl 1 (rr m.R)]]⟩)]⟩) (fun w => w ≤ W) (fun w => W - w) 0 (Nat.zero_le _) ?_ ?_
        · (refine Weak.same ?_; simp [sameF, Fr.get, roundG])
        intro w hwl
        refine wpS_go mixed ?_
        by_cases h3 : w < W
        · have hd3 : ((w : Int) < (W : Int)) := by omega
          have hw3 := wrap_up (k := w) (by omega)
          simp only [Int.reduceToNat, Int.reduceLT, Int.reduceLE, Int.reduceBEq, Int.reduceBNe, St0, argFr, ↓thenW, ↓blockW, ↓opX, ↓opV, ↓pX, ↓pW, ↓putK, ↓putP, ↓atK, ↓normK, ↓postZ, evO, Fr.get, Fr.put, ↓reduceIte, reduceIte, Nat.reduceEqDiff, Nat.reduceAdd, Nat.reduceBEq, Nat.reduceLT, Nat.reduceLeDiff, binW, bodyQ, ressW, resW, ne_eq, forall_const, reduceCtorEq, implies_true, sets, oneAll, St.new, St.get, St.look, St.set, setL, setD, rels, fillE, fillD, List.replicate, rowsOf, forall_eq, eraseL, St.erase, Nat.reduceMul, ↓zD, zT, hd3]
          (repeat (first | refine And.intro (by omega) ?_ | refine And.intro rfl ?_))
          have er : roundG m g (w + 1) = stepW m (roundG m g w) w := rfl
          generalize roundG m g w = u at *
          refine wpS_loop (fun a : Nat => [(10, .int .i64 a), (9, .int .i64 w), (8, .int .i64 i), (7, .int .u64 (ui (if u.getLsbD w = true then orW w u (m.R.take a) else u))), (2, .ref 0 3 0 0)]) (fun _ => ⟨1, [(0, ⟨3, [[.int .i64 W, .sl 1 (us m.V), .sl 1 (rr m.R)]]⟩)]⟩) (fun a => a ≤ m.R.length) (fun a => m.R.length - a) 0 (Nat.zero_le _) ?_ ?_
          · (refine Weak.same ?_; simp [sameF, Fr.get, orW])
          intro a ha
          refine wpS_go mixed ?_
          by_cases hu : u.getLsbD w = true
          · rw [if_pos hu]
            have hb : hasS (orW w u (m.R.take a)) w = true := by rw [hasS_nat, orW_bit, hu]; rfl
            by_cases h4 : a < m.R.length
            · have hd4 : ((a : Int) < (m.R.length : Int)) := by omega
              have hw4 := wrap_up (k := a) (by omega)
              simp only [Int.reduceToNat, Int.reduceLT, Int.reduceLE, Int.reduceBEq, Int.reduceBNe, St0, argFr, ↓thenW, ↓blockW, ↓opX, ↓opV, ↓pX, ↓pW, ↓putK, ↓putP, ↓atK, ↓normK, ↓postZ, evO, Fr.get, Fr.put, ↓reduceIte, reduceIte, Nat.reduceEqDiff, Nat.reduceAdd, Nat.reduceBEq, Nat.reduceLT, Nat.reduceLeDiff, binW, bodyQ, ressW, resW, ne_eq, forall_const, reduceCtorEq, implies_true, sets, oneAll, St.new, St.get, St.look, St.set, setL, setD, rels, fillE, fillD, List.replicate, rowsOf, forall_eq, eraseL, St.erase, Nat.reduceMul, ↓zD, zT, hd4]
              (repeat (first | refine And.intro (by omega) ?_ | refine And.intro rfl ?_))
              refine .go (CallT.of_runs (has_runs _ w) rfl) ?_
              have hr : m.R.getD a [] ∈ m.R := by simp [List.getD, h4]
              have hrl := c5 _ hr
              have hx : w < (m.R.getD a []).length := by omega
              have hx' : (w : Int) < ((m.R.getD a []).length : Int) := by omega
              simp only [Int.reduceToNat, Int.reduceLT, Int.reduceLE, Int.reduceBEq, Int.reduceBNe, St0, argFr, ↓thenW, ↓blockW, ↓opX, ↓opV, ↓pX, ↓pW, ↓putK, ↓putP, ↓atK, ↓normK, ↓postZ, evO, Fr.get, Fr.put, ↓reduceIte, reduceIte, Nat.reduceEqDiff, Nat.reduceAdd, Nat.reduceBEq, Nat.reduceLT, Nat.reduceLeDiff, binW, bodyQ, ressW, resW, ne_eq, forall_const, reduceCtorEq, implies_true, sets, oneAll, St.new, St.get, St.look, St.set, setL, setD, rels, fillE, fillD, List.replicate, rowsOf, forall_eq, eraseL, St.erase, Nat.reduceMul, ↓zD, zT, hb, hd4, rr_get _ h4, us_get _ hx, hw4]
              (repeat (first | refine And.intro (by omega) ?_ | refine And.intro rfl ?_))
              refine ⟨a + 1, by omega, ?_, by omega⟩
              rw [if_pos hu, take_snoc _ h4 [], orW_snoc]
              (refine Weak.same ?_; simp only [sameF, Fr.get, ↓reduceIte, reduceIte, Nat.reduceEqDiff, reduceCtorEq, D.int.injEq, D.bool.injEq, D.sl.injEq, and_true, true_and, and_self])
            · have hd4 : ¬ ((a : Int) < (m.R.length : Int)) := by omega
              have ha' : a = m.R.length := by omega
              subst ha'
              rw [List.take_length] at *
              simp only [Int.reduceToNat, Int.reduceLT, Int.reduceLE, Int.reduceBEq, Int.reduceBNe, St0, argFr, ↓thenW, ↓blockW, ↓opX, ↓opV, ↓pX, ↓pW, ↓putK, ↓putP, ↓atK, ↓normK, ↓postZ, evO, Fr.get, Fr.put, ↓reduceIte, reduceIte, Nat.reduceEqDiff, Nat.reduceAdd, Nat.reduceBEq, Nat.reduceLT, Nat.reduceLeDiff, binW, bodyQ, ressW, resW, ne_eq, forall_const, reduceCtorEq, implies_true, sets, oneAll, St.new, St.get, St.look, St.set, setL, setD, rels, fillE, fillD, List.replicate, rowsOf, forall_eq, eraseL, St.erase, Nat.reduceMul, ↓zD, zT, hd4, hw3]
              (repeat (first | refine And.intro (by omega) ?_ | refine And.intro rfl ?_))
              refine ⟨w + 1, by omega, ?_, by omega⟩
              rw [er, stepW_yes hu]
              (refine Weak.same ?_; simp only [sameF, Fr.get, ↓reduceIte, reduceIte, Nat.reduceEqDiff, reduceCtorEq, D.int.injEq, D.bool.injEq, D.sl.injEq, and_true, true_and, and_self])
          · rw [if_neg hu]
            have hu' : u.getLsbD w = false := by simpa using hu
            have hb : hasS u w = false := by rw [hasS_nat, hu']
            by_cases h4 : a < m.R.length
            · have hd4 : ((a : Int) < (m.R.length : Int)) := by omega
              simp only [Int.reduceToNat, Int.reduceLT, Int.reduceLE, Int.reduceBEq, Int.reduceBNe, St0, argFr, ↓thenW, ↓blockW, ↓opX, ↓opV, ↓pX, ↓pW, ↓putK, ↓putP, ↓atK, ↓normK, ↓postZ, evO, Fr.get, Fr.put, ↓reduceIte, reduceIte, Nat.reduceEqDiff, Nat.reduceAdd, Nat.reduceBEq, Nat.reduceLT, Nat.reduceLeDiff, binW, bodyQ, ressW, resW, ne_eq, forall_const, reduceCtorEq, implies_true, sets, oneAll, St.new, St.get, St.look, St.set, setL, setD, rels, fillE, fillD, List.replicate, rowsOf, forall_eq, eraseL, St.erase, Nat.reduceMul, ↓zD, zT, hd4]
              (repeat (first | refine And.intro (by omega) ?_ | refine And.intro rfl ?_))
              refine .go (CallT.of_runs (has_runs _ w) rfl) ?_
              simp only [Int.reduceToNat, Int.reduceLT, Int.reduceLE, Int.reduceBEq, Int.reduceBNe, St0, argFr, ↓thenW, ↓blockW, ↓opX, ↓opV, ↓pX, ↓pW, ↓putK, ↓putP, ↓atK, ↓normK, ↓postZ, evO, Fr.get, Fr.put, ↓reduceIte, reduceIte, Nat.reduceEqDiff, Nat.reduceAdd, Nat.reduceBEq, Nat.reduceLT, Nat.reduceLeDiff, binW, bodyQ, ressW, resW, ne_eq, forall_const, reduceCtorEq, implies_true, sets, oneAll, St.new, St.get, St.look, St.set, setL, setD, rels, fillE, fillD, List.replicate, rowsOf, forall_eq, eraseL, St.erase, Nat.reduceMul, ↓zD, zT, hb, hw3]
              refine ⟨w + 1, by omega, ?_, by omega⟩
              rw [er, stepW_no hu']
              (refine Weak.same ?_; simp only [sameF, Fr.get, ↓reduceIte, reduceIte, Nat.reduceEqDiff, reduceCtorEq, D.int.injEq, D.bool.injEq, D.sl.injEq, and_true, true_and, and_self])
            · have hd4 : ¬ ((a : Int) < (m.R.length : Int)) := by omega
              simp only [Int.reduceToNat, Int.reduceLT, Int.reduceLE, Int.reduceBEq, Int.reduceBNe, St0, argFr, ↓thenW, ↓blockW, ↓opX, ↓opV, ↓pX, ↓pW, ↓putK, ↓putP, ↓atK, ↓normK, ↓postZ, evO, Fr.get, Fr.put, ↓reduceIte, reduceIte, Nat.reduceEqDiff, Nat.reduceAdd, Nat.reduceBEq, Nat.reduceLT, Nat.reduceLeDiff, binW, bodyQ, ressW, resW, ne_eq, forall_const, reduceCtorEq, implies_true, sets, oneAll, St.new, St.get, St.look, St.set, setL, setD, rels, fillE, fillD, List.replicate, rowsOf, forall_eq, eraseL, St.erase, Nat.reduceMul, ↓zD, zT, hd4, hw3]
              (repeat (first | refine And.intro (by omega) ?_ | refine And.intro rfl ?_))
              refine ⟨w + 1, by omega, ?_, by omega⟩
              rw [er, stepW_no hu']
              (refine Weak.same ?_; simp only [sameF, Fr.get, ↓reduceIte, reduceIte, Nat.reduceEqDiff, reduceCtorEq, D.int.injEq, D.bool.injEq, D.sl.injEq, and_true, true_and, and_self])
        · have hd3 : ¬ ((w : Int) < (W : Int)) := by omega
          have hw' : w = W := by omega
          subst hw'
          simp only [Int.reduceToNat, Int.reduceLT, Int.reduceLE, Int.reduceBEq, Int.reduceBNe, St0, argFr, ↓thenW, ↓blockW, ↓opX, ↓opV, ↓pX, ↓pW, ↓putK, ↓putP, ↓atK, ↓normK, ↓postZ, evO, Fr.get, Fr.put, ↓reduceIte, reduceIte, Nat.reduceEqDiff, Nat.reduceAdd, Nat.reduceBEq, Nat.reduceLT, Nat.reduceLeDiff, binW, bodyQ, ressW, resW, ne_eq, forall_const, reduceCtorEq, implies_true, sets, oneAll, St.new, St.get, St.look, St.set, setL, setD, rels, fillE, fillD, List.replicate, rowsOf, forall_eq, eraseL, St.erase, Nat.reduceMul, ↓zD, zT, hd3, hw]
          (repeat (first | refine And.intro (by omega) ?_ | refine And.intro rfl ?_))
          refine ⟨i + 1, by omega, ?_, by omega⟩
          rw [eg]
          (refine Weak.same ?_; simp only [sameF, Fr.get, ↓reduceIte, reduceIte, Nat.reduceEqDiff, reduceCtorEq, D.int.injEq, D.bool.injEq, D.sl.injEq, and_true, true_and, and_self])
      · have hd : ¬ ((i : Int) < (W : Int)) := by omega
        have hi' : i = W := by omega
        subst hi'
        simp only [Int.reduceToNat, Int.reduceLT, Int.reduceLE, Int.reduceBEq, Int.reduceBNe, St0, argFr, ↓thenW, ↓blockW, ↓opX, ↓opV, ↓pX, ↓pW, ↓putK, ↓putP, ↓atK, ↓normK, ↓postZ, evO, Fr.get, Fr.put, ↓reduceIte, reduceIte, Nat.reduceEqDiff, Nat.reduceAdd, Nat.reduceBEq, Nat.reduceLT, Nat.reduceLeDiff, binW, bodyQ, ressW, resW, ne_eq, forall_const, reduceCtorEq, implies_true, sets, oneAll, St.new, St.get, St.look, St.set, setL, setD, rels, fillE, fillD, List.replicate, rowsOf, forall_eq, eraseL, St.erase, Nat.reduceMul, ↓zD, zT, hd]
        (repeat (first | refine And.intro (by omega) ?_ | refine And.intro rfl ?_))
        exact .drop (by simp) (by simp [vw, vwL, genD, Mod.gen, hWt])
    · have h2b : (s &&& ~~~(allS m.W) != 0#64) = true := by simp [h2]
      simp only [Int.reduceToNat, Int.reduceLT, Int.reduceLE, Int.reduceBEq, Int.reduceBNe, St0, argFr, ↓thenW, ↓blockW, ↓opX, ↓opV, ↓pX, ↓pW, ↓putK, ↓putP, ↓atK, ↓normK, ↓postZ, evO, Fr.get, Fr.put, ↓reduceIte, reduceIte, Nat.reduceEqDiff, Nat.reduceAdd, Nat.reduceBEq, Nat.reduceLT, Nat.reduceLeDiff, binW, bodyQ, ressW, resW, ne_eq, forall_const, reduceCtorEq, implies_true, sets, oneAll, St.new, St.get, St.look, St.set, setL, setD, rels, fillE, fillD, List.replicate, rowsOf, forall_eq, eraseL, St.erase, Nat.reduceMul, ↓zD, zT, h2b]
      exact .drop (by simp) (by simp [vw, vwL, genD, Mod.generated, h1, h2])
  · have h1b : (m.check != 0) = true := by simp [h1]
    simp only [Int.reduceToNat, Int.reduceLT, Int.reduceLE, Int.reduceBEq, Int.reduceBNe, St0, argFr, ↓thenW, ↓blockW, ↓opX, ↓opV, ↓pX, ↓pW, ↓putK, ↓putP, ↓atK, ↓normK, ↓postZ, evO, Fr.get, Fr.put, ↓reduceIte, reduceIte, Nat.reduceEqDiff, Nat.reduceAdd, Nat.reduceBEq, Nat.reduceLT, Nat.reduceLeDiff, binW, bodyQ, ressW, resW, ne_eq, forall_const, reduceCtorEq, implies_true, sets, oneAll, St.new, St.get, St.look, St.set, setL, setD, rels, fillE, fillD, List.replicate, rowsOf, forall_eq, eraseL, St.erase, Nat.reduceMul, ↓zD, zT, h1b]
    exact .drop (by simp) (by simp [vw, vwL, genD, Mod.generated, h1])
end Go.Pd
