/- Package model: the law ModelCloses. -/
import Derived.Test.YtkinhajadppfaaaDoorLp
set_option linter.unusedSectionVars false
set_option linter.unusedVariables false
set_option linter.unusedSimpArgs false
set_option linter.defProp false
set_option maxRecDepth 20000
namespace Go.Pd
open Go Go.Proofs
theorem modelCloses_runs (m : Mod) (s : BitVec 64) : Runs Tryd.prog 8 [m.d, .int .u64 (ui s)] (.bool true) := by
  refine CallT.go_fn mixed Tryd.func8 k8 (by simp) fun hf => ?_
  simp only [Int.reduceToNat, Int.reduceLT, Int.reduceLE, Int.reduceBEq, Int.reduceBNe, St0, argFr, ↓thenW, ↓blockW, ↓opX, ↓opV, ↓pX, ↓pW, ↓putK, ↓putP, ↓atK, ↓normK, ↓postZ, evO, Fr.get, Fr.put, ↓reduceIte, reduceIte, Nat.reduceEqDiff, Nat.reduceAdd, Nat.reduceBEq, Nat.reduceLT, Nat.reduceLeDiff, binW, bodyQ, ressW, resW, ne_eq, forall_const, reduceCtorEq, implies_true, sets, oneAll, St.new, St.get, St.look, St.set, setL, setD, rels, fillE, fillD, List.replicate, rowsOf, forall_eq, eraseL, St.erase, Nat.reduceMul, ↓zD, zT, Mod.d]
  refine .go (CallT.of_runs awake_runs rfl) ?_
  simp only [Int.reduceToNat, Int.reduceLT, Int.reduceLE, Int.reduceBEq, Int.reduceBNe, St0, argFr, ↓thenW, ↓blockW, ↓opX, ↓opV, ↓pX, ↓pW, ↓putK, ↓putP, ↓atK, ↓normK, ↓postZ, evO, Fr.get, Fr.put, ↓reduceIte, reduceIte, Nat.reduceEqDiff, Nat.reduceAdd, Nat.reduceBEq, Nat.reduceLT, Nat.reduceLeDiff, binW, bodyQ, ressW, resW, ne_eq, forall_const, reduceCtorEq, implies_true, sets, oneAll, St.new, St.get, St.look, St.set, setL, setD, rels, fillE, fillD, List.replicate, rowsOf, forall_eq, eraseL, St.erase, Nat.reduceMul, ↓zD, zT, Mod.d]
  refine .go (CallT.of_runs (few_runs m) rfl) ?_
  cases hfew : m.few
  · simp only [Int.reduceToNat, Int.reduceLT, Int.reduceLE, Int.reduceBEq, Int.reduceBNe, St0, argFr, ↓thenW, ↓blockW, ↓opX, ↓opV, ↓pX, ↓pW, ↓putK, ↓putP, ↓atK, ↓normK, ↓postZ, evO, Fr.get, Fr.put, ↓reduceIte, reduceIte, Nat.reduceEqDiff, Nat.reduceAdd, Nat.reduceBEq, Nat.reduceLT, Nat.reduceLeDiff, binW, bodyQ, ressW, resW, ne_eq, forall_const, reduceCtorEq, implies_true, sets, oneAll, St.new, St.get, St.look, St.set, setL, setD, rels, fillE, fillD, List.replicate, rowsOf, forall_eq, eraseL, St.erase, Nat.reduceMul, ↓zD, zT]
    refine .go (CallT.of_runs awake_runs rfl) ?_
    simp only [Int.reduceToNat, Int.reduceLT, Int.reduceLE, Int.reduceBEq, Int.reduceBNe, St0, argFr, ↓thenW, ↓blockW, ↓opX, ↓opV, ↓pX, ↓pW, ↓putK, ↓putP, ↓atK, ↓normK, ↓postZ, evO, Fr.get, Fr.put, ↓reduceIte, reduceIte, Nat.reduceEqDiff, Nat.reduceAdd, Nat.reduceBEq, Nat.reduceLT, Nat.reduceLeDiff, binW, bodyQ, ressW, resW, ne_eq, forall_const, reduceCtorEq, implies_true, sets, oneAll, St.new, St.get, St.look, St.set, setL, setD, rels, fillE, fillD, List.replicate, rowsOf, forall_eq, eraseL, St.erase, Nat.reduceMul, ↓zD, zT]
    exact .drop (by simp) (by simp [vw])
  simp only [Int.reduceToNat, Int.reduceLT, Int.reduceLE, Int.reduceBEq, Int.reduceBNe, St0, argFr, ↓thenW, ↓blockW, ↓opX, ↓opV, ↓pX, ↓pW, ↓putK, ↓putP, ↓atK, ↓normK, ↓postZ, evO, Fr.get, Fr.put, ↓reduceIte, reduceIte, Nat.reduceEqDiff, Nat.reduceAdd, Nat.reduceBEq, Nat.reduceLT, Nat.reduceLeDiff, binW, bodyQ, ressW, resW, ne_eq, forall_const, reduceCtorEq, implies_true, sets, oneAll, St.new, St.get, St.look, St.set, setL, setD, rels, fillE, fillD, List.replicate, rowsOf, forall_eq, eraseL, St.erase, Nat.reduceMul, ↓zD, zT, Mod.d]
  refine .go (CallT.of_runs (refCheck_runs m) rfl) ?_
  by_cases hc : m.check = 0
  · obtain ⟨c1, c2, c3, c4, c5, c6, c7⟩ := Mod.check_zero hc
    simp only [Int.reduceToNat, Int.reduceLT, Int.reduceLE, Int.reduceBEq, Int.reduceBNe, St0, argFr, ↓thenW, ↓blockW, ↓opX, ↓opV, ↓pX, ↓pW, ↓putK, ↓putP, ↓atK, ↓normK, ↓postZ, evO, Fr.get, Fr.put, ↓reduceIte, reduceIte, Nat.reduceEqDiff, Nat.reduceAdd, Nat.reduceBEq, Nat.reduceLT, Nat.reduceLeDiff, binW, bodyQ, ressW, resW, ne_eq, forall_const, reduceCtorEq, implies_true, sets, oneAll, St.new, St.get, St.look, St.set, setL, setD, rels, fillE, fillD, List.replicate, rowsOf, forall_eq, eraseL, St.erase, Nat.reduceMul, ↓zD, zT, hc]
    refine .go (CallT.of_runs (generated_runs m s) rfl) ?_
    by_cases hs : s &&& ~~~(allS m.W) = 0#64
    · have e : m.generated s = (m.gen s, 0) := by simp [Mod.generated, hc, hs]
      rw [e]
      obtain ⟨g1, g2, g3⟩ := gen_isGen hc hs
      have gall : m.gen s &&& ~~~(allS m.W) = 0#64 := sub_bits.2 (g3 _ (sub_bits.1 hs) (closed_all hc))
      have gsub : s &&& ~~~(m.gen s) = 0#64 := sub_bits.2 g1
      have b1 : (m.gen s &&& ~~~(allS m.W) != 0#64) = false := by simp [gall]
      have b2 : (s &&& ~~~(m.gen s) != 0#64) = false := by simp [gsub]
      simp only [Int.reduceToNat, Int.reduceLT, Int.reduceLE, Int.reduceBEq, Int.reduceBNe, St0, argFr, ↓thenW, ↓blockW, ↓opX, ↓opV, ↓pX, ↓pW, ↓putK, ↓putP, ↓atK, ↓normK, ↓postZ, evO, Fr.get, Fr.put, ↓reduceIte, reduceIte, Nat.reduceEqDiff, Nat.reduceAdd, Nat.reduceBEq, Nat.reduceLT, Nat.reduceLeDiff, binW, bodyQ, ressW, resW, ne_eq, forall_const, reduceCtorEq, implies_true, sets, oneAll, St.new, St.get, St.look, St.set, setL, setD, rels, fillE, fillD, List.replicate, rowsOf, forall_eq, eraseL, St.erase, Nat.reduceMul, ↓zD, zT, genD, Mod.d, b2]
      (repeat (first | refine And.intro (by omega) ?_ | refine And.intro rfl ?_))
      refine .go (CallT.of_runs (refAll_runs m.W (by omega)) rfl) ?_
      obtain ⟨W, hW⟩ : ∃ W : Nat, m.W = (W : Int) := ⟨m.W.toNat, by omega⟩
      have hWt : m.W.toNat = W := by omega
      have hlast : genN m s W = m.gen s := by rw [← hWt]; rfl
      generalize m.gen s = g at *
      simp only [Int.reduceToNat, Int.reduceLT, Int.reduceLE, Int.reduceBEq, Int.reduceBNe, St0, argFr, ↓thenW, ↓blockW, ↓opX, ↓opV, ↓pX, ↓pW, ↓putK, ↓putP, ↓atK, ↓normK, ↓postZ, evO, Fr.get, Fr.put, ↓reduceIte, reduceIte, Nat.reduceEqDiff, Nat.reduceAdd, Nat.reduceBEq, Nat.reduceLT, Nat.reduceLeDiff, binW, bodyQ, ressW, resW, ne_eq, forall_const, reduceCtorEq, implies_true, sets, oneAll, St.new, St.get, St.look, St.set, setL, setD, rels, fillE, fillD, List.replicate, rowsOf, forall_eq, eraseL, St.erase, Nat.reduceMul, ↓zD, zT, b1]
      (repeat (first | refine And.intro (by omega) ?_ | refine And.intro rfl ?_))
      rw [hW]
      refine wpS_loop (fun i : Nat => [(56, .int .i64 i), (55, .int .i64 W), (7, .int .u64 (ui (genN m s i))), (5, .int .u64 (ui g)), (2, .ref 0 3 0 0)]) (fun _ => ⟨1, [(0, ⟨3, [[.int .i64 W, .sl 1 (us m.V), .sl 1 (rr m.R)]]⟩)]⟩) (fun i => i ≤ W) (fun i => W - i) 0 (Nat.zero_le _) ?_ ?_
      · (refine Weak.same ?_; simp [sameF, Fr.get, genN])
      intro i hi
      refine wpS_go mixed ?_
      by_cases h : i < W
      · have hd : ((i : Int) < (W : Int)) := by omega
        have hw := wrap_up (k := i) (by omega)
        simp only [Int.reduceToNat, Int.reduceLT, Int.reduceLE, Int.reduceBEq, Int.reduceBNe, St0, argFr, ↓thenW, ↓blockW, ↓opX, ↓opV, ↓pX, ↓pW, ↓putK, ↓putP, ↓atK, ↓normK, ↓postZ, evO, Fr.get, Fr.put, ↓reduceIte, reduceIte, Nat.reduceEqDiff, Nat.reduceAdd, Nat.reduceBEq, Nat.reduceLT, Nat.reduceLeDiff, binW, bodyQ, ressW, resW, ne_eq, forall_const, reduceCtorEq, implies_true, sets, oneAll, St.new, St.get, St.look, St.set, setL, setD, rels, fillE, fillD, List.replicate, rowsOf, forall_eq, eraseL, St.erase, Nat.reduceMul, ↓zD, zT, hd]
        (repeat (first | refine And.intro (by omega) ?_ | refine And.intro rfl ?_))
        have eg : genN m s (i + 1) = roundG m (genN m s i) W := by rw [← hWt]; rfl
        generalize genN m s i = p at *
        refine wpS_loop (fun w : Nat => [(60, .int .i64 w), (59, .int .i64 W), (56, .int .i64 i), (55, .int .i64 W), (7, .int .u64 (ui (roundG m p w))), (5, .int .u64 (ui g)), (2, .ref 0 3 0 0)]) (fun _ => ⟨1, [(0, ⟨3, [[.int .i64 W, .sl 1 (us m.V), .sl 1 (rr m.R)]]⟩)]⟩) (fun w => w ≤ W) (fun w => W - w) 0 (Nat.zero_le _) ?_ ?_
        · (refine Weak.same ?_; simp [sameF, Fr.get, roundG])
        intro w hwl
        refine wpS_go mixed ?_
        by_cases h3 : w < W
        · have hd3 : ((w : Int) < (W : Int)) := by omega
          have hw3 := wrap_up (k := w) (by omega)
          simp only [Int.reduceToNat, Int.reduceLT, Int.reduceLE, Int.reduceBEq, Int.reduceBNe, St0, argFr, ↓thenW, ↓blockW, ↓opX, ↓opV, ↓pX, ↓pW, ↓putK, ↓putP, ↓atK, ↓normK, ↓postZ, evO, Fr.get, Fr.put, ↓reduceIte, reduceIte, Nat.reduceEqDiff, Nat.reduceAdd, Nat.reduceBEq, Nat.reduceLT, Nat.reduceLeDiff, binW, bodyQ, ressW, resW, ne_eq, forall_const, reduceCtorEq, implies_true, sets, oneAll, St.new, St.get, St.look, St.set, setL, setD, rels, fillE, fillD, List.replicate, rowsOf, forall_eq, eraseL, St.erase, Nat.reduceMul, ↓zD, zT, hd3]
          (repeat (first | refine And.intro (by omega) ?_ | refine And.intro rfl ?_))
          have er : roundG m p (w + 1) = stepW m (roundG m p w) w := rfl
          generalize roundG m p w = u at *
          refine wpS_loop (fun a : Nat => [(66, .int .i64 a), (65, .int .i64 m.R.length), (60, .int .i64 w), (59, .int .i64 W), (56, .int .i64 i), (55, .int .i64 W), (8, .int .i64 w), (7, .int .u64 (ui (if u.getLsbD w = true then orW w u (m.R.take a) else u))), (5, .int .u64 (ui g)), (2, .ref 0 3 0 0)]) (fun _ => ⟨1, [(0, ⟨3, [[.int .i64 W, .sl 1 (us m.V), .sl 1 (rr m.R)]]⟩)]⟩) (fun a => a ≤ m.R.length) (fun a => m.R.length - a) 0 (Nat.zero_le _) ?_ ?_
          · (refine Weak.same ?_; simp [sameF, Fr.get, orW])
          intro a ha
          refine wpS_go mixed ?_
          by_cases h4 : a < m.R.length
          · have hd4 : ((a : Int) < (m.R.length : Int)) := by omega
            have hw4 := wrap_up (k := a) (by omega)
            have hr : m.R.getD a [] ∈ m.R := by simp [List.getD, h4]
            have hrl := c5 _ hr
            have hx : w < (m.R.getD a []).length := by omega
            have hx' : (w : Int) < ((m.R.getD a []).length : Int) := by omega
            have hcl : g.getLsbD w = true → ((m.R.getD a []).getD w 0 &&& ~~~g != 0#64) = false := by
              intro hg
              have := sub_bits.2 (g2 w hg _ hr)
              rw [this]; rfl
            by_cases hu : u.getLsbD w = true
            · rw [if_pos hu]
              have hb : (orW w u (m.R.take a)).getLsbD w = true := by rw [orW_bit, hu]; rfl
              have hstep : orW w u (m.R.take (a + 1)) = orW w u (m.R.take a) ||| (m.R.getD a []).getD w 0 := by rw [take_snoc _ h4 [], orW_snoc]
              generalize orW w u (m.R.take a) = z at *
              cases hg : g.getLsbD w with
              | true =>
                have hcl' := hcl hg
                simp only [Int.reduceToNat, Int.reduceLT, Int.reduceLE, Int.reduceBEq, Int.reduceBNe, St0, argFr, ↓thenW, ↓blockW, ↓opX, ↓opV, ↓pX, ↓pW, ↓putK, ↓putP, ↓atK, ↓normK, ↓postZ, evO, Fr.get, Fr.put, ↓reduceIte, reduceIte, Nat.reduceEqDiff, Nat.reduceAdd, Nat.reduceBEq, Nat.reduceLT, Nat.reduceLeDiff, binW, bodyQ, ressW, resW, ne_eq, forall_const, reduceCtorEq, implies_true, sets, oneAll, St.new, St.get, St.look, St.set, setL, setD, rels, fillE, fillD, List.replicate, rowsOf, forall_eq, eraseL, St.erase, Nat.reduceMul, ↓zD, zT, hd4, bit_and1_eq, hb, hg, hcl', rr_get _ h4, us_get _ hx, hw4]
                (repeat (first | refine And.intro (by omega) ?_ | refine And.intro rfl ?_))
                refine ⟨a + 1, by omega, ?_, by omega⟩
                rw [if_pos hu, hstep]
                (refine Weak.same ?_; simp only [sameF, Fr.get, ↓reduceIte, reduceIte, Nat.reduceEqDiff, reduceCtorEq, D.int.injEq, D.bool.injEq, D.sl.injEq, and_true, true_and, and_self])
              | false =>
                simp only [Int.reduceToNat, Int.reduceLT, Int.reduceLE, Int.reduceBEq, Int.reduceBNe, St0, argFr, ↓thenW, ↓blockW, ↓opX, ↓opV, ↓pX, ↓pW, ↓putK, ↓putP, ↓atK, ↓normK, ↓postZ, evO, Fr.get, Fr.put, ↓reduceIte, reduceIte, Nat.reduceEqDiff, Nat.reduceAdd, Nat.reduceBEq, Nat.reduceLT, Nat.reduceLeDiff, binW, bodyQ, ressW, resW, ne_eq, forall_const, reduceCtorEq, implies_true, sets, oneAll, St.new, St.get, St.look, St.set, setL, setD, rels, fillE, fillD, List.replicate, rowsOf, forall_eq, eraseL, St.erase, Nat.reduceMul, ↓zD, zT, hd4, bit_and1_eq, hb, hg, rr_get _ h4, us_get _ hx, hw4]
                (repeat (first | refine And.intro (by omega) ?_ | refine And.intro rfl ?_))
                refine ⟨a + 1, by omega, ?_, by omega⟩
                rw [if_pos hu, hstep]
                (refine Weak.same ?_; simp only [sameF, Fr.get, ↓reduceIte, reduceIte, Nat.reduceEqDiff, reduceCtorEq, D.int.injEq, D.bool.injEq, D.sl.injEq, and_true, true_and, and_self])
            · rw [if_neg hu]
              have hb : u.getLsbD w = false := by simpa using hu
              cases hg : g.getLsbD w with
              | true =>
                have hcl' := hcl hg
                simp only [Int.reduceToNat, Int.reduceLT, Int.reduceLE, Int.reduceBEq, Int.reduceBNe, St0, argFr, ↓thenW, ↓blockW, ↓opX, ↓opV, ↓pX, ↓pW, ↓putK, ↓putP, ↓atK, ↓normK, ↓postZ, evO, Fr.get, Fr.put, ↓reduceIte, reduceIte, Nat.reduceEqDiff, Nat.reduceAdd, Nat.reduceBEq, Nat.reduceLT, Nat.reduceLeDiff, binW, bodyQ, ressW, resW, ne_eq, forall_const, reduceCtorEq, implies_true, sets, oneAll, St.new, St.get, St.look, St.set, setL, setD, rels, fillE, fillD, List.replicate, rowsOf, forall_eq, eraseL, St.erase, Nat.reduceMul, ↓zD, zT, hd4, bit_and1_eq, hb, hg, hcl', rr_get _ h4, us_get _ hx, hw4]
                (repeat (first | refine And.intro (by omega) ?_ | refine And.intro rfl ?_))
                refine ⟨a + 1, by omega, ?_, by omega⟩
                (refine Weak.same ?_; simp only [sameF, Fr.get, ↓reduceIte, reduceIte, Nat.reduceEqDiff, reduceCtorEq, D.int.injEq, D.bool.injEq, D.sl.injEq, and_true, true_and, and_self])
              | false =>
                simp only [Int.reduceToNat, Int.reduceLT, Int.reduceLE, Int.reduceBEq, Int.reduceBNe, St0, argFr, ↓thenW, ↓blockW, ↓opX, ↓opV, ↓pX, ↓pW, ↓putK, ↓putP, ↓atK, ↓normK, ↓postZ, evO, Fr.get, Fr.put, ↓reduceIte, reduceIte, Nat.reduceEqDiff, Nat.reduceAdd, Nat.reduceBEq, Nat.reduceLT, Nat.reduceLeDiff, binW, bodyQ, ressW, resW, ne_eq, forall_const, reduceCtorEq, implies_true, sets, oneAll, St.new, St.get, St.look, St.set, setL, setD, rels, fillE, fillD, List.replicate, rowsOf, forall_eq, eraseL, St.erase, Nat.reduceMul, ↓zD, zT, hd4, bit_and1_eq, hb, hg, hw4]
                (repeat (first | refine And.intro (by omega) ?_ | refine And.intro rfl ?_))
                refine ⟨a + 1, by omega, ?_, by omega⟩
                (refine Weak.same ?_; simp only [sameF, Fr.get, ↓reduceIte, reduceIte, Nat.reduceEqDiff, reduceCtorEq, D.int.injEq, D.bool.injEq, D.sl.injEq, and_true, true_and, and_self])
          · have hd4 : ¬ ((a : Int) < (m.R.length : Int)) := by omega
            have ha' : a = m.R.length := by omega
            subst ha'
            rw [List.take_length]
            simp only [Int.reduceToNat, Int.reduceLT, Int.reduceLE, Int.reduceBEq, Int.reduceBNe, St0, argFr, ↓thenW, ↓blockW, ↓opX, ↓opV, ↓pX, ↓pW, ↓putK, ↓putP, ↓atK, ↓normK, ↓postZ, evO, Fr.get, Fr.put, ↓reduceIte, reduceIte, Nat.reduceEqDiff, Nat.reduceAdd, Nat.reduceBEq, Nat.reduceLT, Nat.reduceLeDiff, binW, bodyQ, ressW, resW, ne_eq, forall_const, reduceCtorEq, implies_true, sets, oneAll, St.new, St.get, St.look, St.set, setL, setD, rels, fillE, fillD, List.replicate, rowsOf, forall_eq, eraseL, St.erase, Nat.reduceMul, ↓zD, zT, hd4, hw3]
            (repeat (first | refine And.intro (by omega) ?_ | refine And.intro rfl ?_))
            refine ⟨w + 1, by omega, ?_, by omega⟩
            rw [er]
            unfold stepW
            (refine Weak.same ?_; simp only [sameF, Fr.get, ↓reduceIte, reduceIte, Nat.reduceEqDiff, reduceCtorEq, D.int.injEq, D.bool.injEq, D.sl.injEq, and_true, true_and, and_self])
        · have hd3 : ¬ ((w : Int) < (W : Int)) := by omega
          have hw' : w = W := by omega
          subst hw'
          simp only [Int.reduceToNat, Int.reduceLT, Int.reduceLE, Int.reduceBEq, Int.reduceBNe, St0, argFr, ↓thenW, ↓blockW, ↓opX, ↓opV, ↓pX, ↓pW, ↓putK, ↓putP, ↓atK, ↓normK, ↓postZ, evO, Fr.get, Fr.put, ↓reduceIte, reduceIte, Nat.reduceEqDiff, Nat.reduceAdd, Nat.reduceBEq, Nat.reduceLT, Nat.reduceLeDiff, binW, bodyQ, ressW, resW, ne_eq, forall_const, reduceCtorEq, implies_true, sets, oneAll, St.new, St.get, St.look, St.set, setL, setD, rels, fillE, fillD, List.replicate, rowsOf, forall_eq, eraseL, St.erase, Nat.reduceMul, ↓zD, zT, hd3, hw]
          (repeat (first | refine And.intro (by omega) ?_ | refine And.intro rfl ?_))
          refine ⟨i + 1, by omega, ?_, by omega⟩
          rw [eg]
          (refine Weak.same ?_; simp only [sameF, Fr.get, ↓reduceIte, reduceIte, Nat.reduceEqDiff, reduceCtorEq, D.int.injEq, D.bool.injEq, D.sl.injEq, and_true, true_and, and_self])
      · have hd : ¬ ((i : Int) < (W : Int)) := by omega
        have hi' : i = W := by omega
        subst hi'
        simp only [Int.reduceToNat, Int.reduceLT, Int.reduceLE, Int.reduceBEq, Int.reduceBNe, St0, argFr, ↓thenW, ↓blockW, ↓opX, ↓opV, ↓pX, ↓pW, ↓putK, ↓putP, ↓atK, ↓normK, ↓postZ, evO, Fr.get, Fr.put, ↓reduceIte, reduceIte, Nat.reduceEqDiff, Nat.reduceAdd, Nat.reduceBEq, Nat.reduceLT, Nat.reduceLeDiff, binW, bodyQ, ressW, resW, ne_eq, forall_const, reduceCtorEq, implies_true, sets, oneAll, St.new, St.get, St.look, St.set, setL, setD, rels, fillE, fillD, List.replicate, rowsOf, forall_eq, eraseL, St.erase, Nat.reduceMul, ↓zD, zT, hd, hlast]
        (repeat (first | refine And.intro (by omega) ?_ | refine And.intro rfl ?_))
        exact .drop (by simp) (by simp [vw])
    · have e : m.generated s = (0#64, 2) := by simp [Mod.generated, hc, hs]
      have b1 : (s &&& ~~~(allS m.W) != 0#64) = true := by simp [hs]
      rw [e]
      simp only [Int.reduceToNat, Int.reduceLT, Int.reduceLE, Int.reduceBEq, Int.reduceBNe, St0, argFr, ↓thenW, ↓blockW, ↓opX, ↓opV, ↓pX, ↓pW, ↓putK, ↓putP, ↓atK, ↓normK, ↓postZ, evO, Fr.get, Fr.put, ↓reduceIte, reduceIte, Nat.reduceEqDiff, Nat.reduceAdd, Nat.reduceBEq, Nat.reduceLT, Nat.reduceLeDiff, binW, bodyQ, ressW, resW, ne_eq, forall_const, reduceCtorEq, implies_true, sets, oneAll, St.new, St.get, St.look, St.set, setL, setD, rels, fillE, fillD, List.replicate, rowsOf, forall_eq, eraseL, St.erase, Nat.reduceMul, ↓zD, zT, genD, Mod.d]
      (repeat (first | refine And.intro (by omega) ?_ | refine And.intro rfl ?_))
      refine .go (CallT.of_runs (refAll_runs m.W (by omega)) rfl) ?_
      simp only [Int.reduceToNat, Int.reduceLT, Int.reduceLE, Int.reduceBEq, Int.reduceBNe, St0, argFr, ↓thenW, ↓blockW, ↓opX, ↓opV, ↓pX, ↓pW, ↓putK, ↓putP, ↓atK, ↓normK, ↓postZ, evO, Fr.get, Fr.put, ↓reduceIte, reduceIte, Nat.reduceEqDiff, Nat.reduceAdd, Nat.reduceBEq, Nat.reduceLT, Nat.reduceLeDiff, binW, bodyQ, ressW, resW, ne_eq, forall_const, reduceCtorEq, implies_true, sets, oneAll, St.new, St.get, St.look, St.set, setL, setD, rels, fillE, fillD, List.replicate, rowsOf, forall_eq, eraseL, St.erase, Nat.reduceMul, ↓zD, zT, b1]
      (repeat (first | refine And.intro (by omega) ?_ | refine And.intro rfl ?_))
      exact .drop (by simp) (by simp [vw])
  · have hb : (m.check != 0) = true := by simp [hc]
    simp only [Int.reduceToNat, Int.reduceLT, Int.reduceLE, Int.reduceBEq, Int.reduceBNe, St0, argFr, ↓thenW, ↓blockW, ↓opX, ↓opV, ↓pX, ↓pW, ↓putK, ↓putP, ↓atK, ↓normK, ↓postZ, evO, Fr.get, Fr.put, ↓reduceIte, reduceIte, Nat.reduceEqDiff, Nat.reduceAdd, Nat.reduceBEq, Nat.reduceLT, Nat.reduceLeDiff, binW, bodyQ, ressW, resW, ne_eq, forall_const, reduceCtorEq, implies_true, sets, oneAll, St.new, St.get, St.look, St.set, setL, setD, rels, fillE, fillD, List.replicate, rowsOf, forall_eq, eraseL, St.erase, Nat.reduceMul, ↓zD, zT, hb]
    refine .go (CallT.of_runs awake_runs rfl) ?_
    simp only [Int.reduceToNat, Int.reduceLT, Int.reduceLE, Int.reduceBEq, Int.reduceBNe, St0, argFr, ↓thenW, ↓blockW, ↓opX, ↓opV, ↓pX, ↓pW, ↓putK, ↓putP, ↓atK, ↓normK, ↓postZ, evO, Fr.get, Fr.put, ↓reduceIte, reduceIte, Nat.reduceEqDiff, Nat.reduceAdd, Nat.reduceBEq, Nat.reduceLT, Nat.reduceLeDiff, binW, bodyQ, ressW, resW, ne_eq, forall_const, reduceCtorEq, implies_true, sets, oneAll, St.new, St.get, St.look, St.set, setL, setD, rels, fillE, fillD, List.replicate, rowsOf, forall_eq, eraseL, St.erase, Nat.reduceMul, ↓zD, zT]
    exact .drop (by simp) (by simp [vw])
end Go.Pd
