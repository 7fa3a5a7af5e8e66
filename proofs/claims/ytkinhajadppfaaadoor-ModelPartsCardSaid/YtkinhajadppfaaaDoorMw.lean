/- Package model and its specification: contracts, part w: Inverse and Rename. -/
import Derived.Test.YtkinhajadppfaaaDoorMv
set_option linter.unusedSectionVars false
set_option linter.unusedVariables false
set_option linter.unusedSimpArgs false
set_option linter.defProp false
set_option maxRecDepth 20000
namespace Go.Pd
open Go Go.Proofs
def invR (to : List Int) (n : Int) : List Int × Bool := if (to.length : Int) ≠ n then ([], false) else if isPerm to then (invK to to.length, true) else ([], false)
theorem inverse_runs (to : List Int) (n : Int) (hl : to.length ≤ 1000) : Runs Tryd.prog 48 [.sl 1 (rows .i64 to), .int .i64 n] (.tup [.sl 1 (rows .i64 (invR to n).1), .bool (invR to n).2]) := by
  refine CallT.go_fn mixed Tryd.func48 k48 (by simp) fun hf => ?_
  by_cases h1 : (to.length : Int) = n
  · subst h1
    simp only [Int.reduceToNat, Int.reduceLT, Int.reduceLE, Int.reduceBEq, Int.reduceBNe, St0, argFr, ↓thenW, ↓blockW, ↓opX, ↓opV, ↓pX, ↓pW, ↓putK, ↓putP, ↓atK, ↓normK, ↓postZ, evO, Fr.get, Fr.put, ↓reduceIte, reduceIte, Nat.reduceEqDiff, Nat.reduceAdd, Nat.reduceBEq, Nat.reduceLT, Nat.reduceLeDiff, binW, bodyQ, ressW, resW, ne_eq, forall_const, reduceCtorEq, implies_true, sets, oneAll, St.new, St.get, St.look, St.set, setL, setD, rels, fillE, fillD, List.replicate, rowsOf, forall_eq, eraseL, St.erase, Nat.reduceMul, ↓zD, zT]
    have einv : invR to (to.length : Int) = if isPerm to then (invK to to.length, true) else ([], false) := by simp [invR]
    rw [einv]
    refine wpS_loop (fun i : Nat => [(7, .int .i64 i), (6, growD 0 1 (rows .i64 (invK to i))), (1, .int .i64 to.length), (0, .sl 1 (rows .i64 to))]) (fun i => ⟨1, growO 0 1 (rows .i64 (invK to i))⟩)
      (fun i => i ≤ to.length ∧ ∀ j, j < i → (hits to j).length = 1) (fun i => to.length - i) 0 ⟨Nat.zero_le _, by intro j hj; omega⟩ ?_ ?_
    · (refine Weak.ren [] [0] (by simp) (by simp) (by decide) ?_; simp only [stay1, vwL, vw, vwF, sw, St.get, St.look, Fr.get, ↓reduceIte, reduceIte, Nat.reduceEqDiff, Nat.reduceAdd, Nat.reduceBEq, Nat.reduceLT, Nat.reduceLeDiff, exists_eq_left', ne_eq, reduceCtorEq, zR, invK, List.range_zero, List.map_nil, growO_nil, growD_nil])
    rintro i ⟨hi, hI⟩
    refine wpS_go mixed ?_
    by_cases h : i < to.length
    · have hd : ((i : Int) < (to.length : Int)) := by omega
      have hu := wrap_up (k := i) (by omega)
      have hk := invK_len to i
      have hone := invK_one (to := to) (i := i)
      generalize invK to i = v at *
      simp only [Int.reduceToNat, Int.reduceLT, Int.reduceLE, Int.reduceBEq, Int.reduceBNe, St0, argFr, ↓thenW, ↓blockW, ↓opX, ↓opV, ↓pX, ↓pW, ↓putK, ↓putP, ↓atK, ↓normK, ↓postZ, evO, Fr.get, Fr.put, ↓reduceIte, reduceIte, Nat.reduceEqDiff, Nat.reduceAdd, Nat.reduceBEq, Nat.reduceLT, Nat.reduceLeDiff, binW, bodyQ, ressW, resW, ne_eq, forall_const, reduceCtorEq, implies_true, sets, oneAll, St.new, St.get, St.look, St.set, setL, setD, rels, fillE, fillD, List.replicate, rowsOf, forall_eq, eraseL, St.erase, Nat.reduceMul, ↓zD, zT, hd]
      refine wpS_loop (fun w : Nat => [(8, .int .i64 w), (7, .int .i64 i), (6, growD 0 1 (rows .i64 (v ++ hitsW to i w))), (1, .int .i64 to.length), (0, .sl 1 (rows .i64 to))]) (fun w => ⟨1, growO 0 1 (rows .i64 (v ++ hitsW to i w))⟩)
        (fun w => w ≤ to.length) (fun w => to.length - w) 0 (Nat.zero_le _) ?_ ?_
      · have e0 : hitsW to i 0 = [] := rfl
        simp only [e0, List.append_nil]
        (refine Weak.same ?_; simp [sameF, Fr.get])
      intro w hw
      refine wpS_go mixed ?_
      by_cases h2 : w < to.length
      · have hd2 : ((w : Int) < (to.length : Int)) := by omega
        have hu2 := wrap_up (k := w) (by omega)
        have hhl := hitsW_len to i w
        have hlen : (v ++ hitsW to i w).length = v.length + (hitsW to i w).length := List.length_append
        by_cases e : to.getD w 0 = (i : Int)
        · have hb : (to.getD w 0 == (i : Int)) = true := by rw [e]; simp
          have hy : v ++ hitsW to i (w + 1) = (v ++ hitsW to i w) ++ [(w : Int)] := by rw [hitsW_yes e, List.append_assoc]
          generalize v ++ hitsW to i w = z at *
          simp only [Int.reduceToNat, Int.reduceLT, Int.reduceLE, Int.reduceBEq, Int.reduceBNe, St0, argFr, ↓thenW, ↓blockW, ↓opX, ↓opV, ↓pX, ↓pW, ↓putK, ↓putP, ↓atK, ↓normK, ↓postZ, evO, Fr.get, Fr.put, ↓reduceIte, reduceIte, Nat.reduceEqDiff, Nat.reduceAdd, Nat.reduceBEq, Nat.reduceLT, Nat.reduceLeDiff, binW, bodyQ, ressW, resW, ne_eq, forall_const, reduceCtorEq, implies_true, sets, oneAll, St.new, St.get, St.look, St.set, setL, setD, rels, fillE, fillD, List.replicate, rowsOf, forall_eq, eraseL, St.erase, Nat.reduceMul, ↓zD, zT, hd2, hu2, rows_get _ _ h2, hb]
          (repeat (first | refine And.intro (by omega) ?_ | refine And.intro rfl ?_))
          refine ⟨w + 1, by omega, ?_, by omega⟩
          rw [hy]
          (refine Weak.ren [(0, 1)] [0] (by simp) (by simp) (by decide) ?_; simp only [stay1, vwL, vw, vwF, sw, St.get, St.look, Fr.get, ↓reduceIte, reduceIte, Nat.reduceEqDiff, Nat.reduceAdd, Nat.reduceBEq, Nat.reduceLT, Nat.reduceLeDiff, exists_eq_left', ne_eq, reduceCtorEq, zR])
        · have hb : (to.getD w 0 == (i : Int)) = false := by simpa using e
          have hy : hitsW to i (w + 1) = hitsW to i w := hitsW_no e
          simp only [Int.reduceToNat, Int.reduceLT, Int.reduceLE, Int.reduceBEq, Int.reduceBNe, St0, argFr, ↓thenW, ↓blockW, ↓opX, ↓opV, ↓pX, ↓pW, ↓putK, ↓putP, ↓atK, ↓normK, ↓postZ, evO, Fr.get, Fr.put, ↓reduceIte, reduceIte, Nat.reduceEqDiff, Nat.reduceAdd, Nat.reduceBEq, Nat.reduceLT, Nat.reduceLeDiff, binW, bodyQ, ressW, resW, ne_eq, forall_const, reduceCtorEq, implies_true, sets, oneAll, St.new, St.get, St.look, St.set, setL, setD, rels, fillE, fillD, List.replicate, rowsOf, forall_eq, eraseL, St.erase, Nat.reduceMul, ↓zD, zT, hd2, hu2, rows_get _ _ h2, hb]
          (repeat (first | refine And.intro (by omega) ?_ | refine And.intro rfl ?_))
          refine ⟨w + 1, by omega, ?_, by omega⟩
          rw [hy]
          (refine Weak.same ?_; simp only [sameF, Fr.get, ↓reduceIte, reduceIte, Nat.reduceEqDiff, reduceCtorEq, D.int.injEq, D.bool.injEq, D.sl.injEq, and_true, true_and, and_self])
      · have hd2 : ¬ ((w : Int) < (to.length : Int)) := by omega
        have hw' : w = to.length := by omega
        subst hw'
        have eh : hitsW to i to.length = hits to i := rfl
        rw [eh]
        have hlen : (v ++ hits to i).length = i + (hits to i).length := by rw [List.length_append, hk]
        by_cases e : (hits to i).length = 1
        · have hb : (((v ++ hits to i).length : Int) != ((i + 1 : Nat) : Int)) = false := by rw [hlen, e]; simp
          rw [← hone e] at hb ⊢
          simp only [Int.reduceToNat, Int.reduceLT, Int.reduceLE, Int.reduceBEq, Int.reduceBNe, St0, argFr, ↓thenW, ↓blockW, ↓opX, ↓opV, ↓pX, ↓pW, ↓putK, ↓putP, ↓atK, ↓normK, ↓postZ, evO, Fr.get, Fr.put, ↓reduceIte, reduceIte, Nat.reduceEqDiff, Nat.reduceAdd, Nat.reduceBEq, Nat.reduceLT, Nat.reduceLeDiff, binW, bodyQ, ressW, resW, ne_eq, forall_const, reduceCtorEq, implies_true, sets, oneAll, St.new, St.get, St.look, St.set, setL, setD, rels, fillE, fillD, List.replicate, rowsOf, forall_eq, eraseL, St.erase, Nat.reduceMul, ↓zD, zT, hd2, hu, hb]
          refine ⟨i + 1, ⟨by omega, fun j hj => ?_⟩, ?_, by omega⟩
          · by_cases ej : j = i
            · rw [ej]; exact e
            · exact hI j (by omega)
          (refine Weak.same ?_; simp only [sameF, Fr.get, ↓reduceIte, reduceIte, Nat.reduceEqDiff, reduceCtorEq, D.int.injEq, D.bool.injEq, D.sl.injEq, and_true, true_and, and_self])
        · have hb : (((v.length + (hits to i).length : Nat) : Int) != ((i + 1 : Nat) : Int)) = true := by rw [hk]; simp; omega
          have hp : isPerm to = false := by
            cases hp : isPerm to with
            | false => rfl
            | true => exact absurd (isPerm_one.1 hp i h) e
          simp only [Int.reduceToNat, Int.reduceLT, Int.reduceLE, Int.reduceBEq, Int.reduceBNe, St0, argFr, ↓thenW, ↓blockW, ↓opX, ↓opV, ↓pX, ↓pW, ↓putK, ↓putP, ↓atK, ↓normK, ↓postZ, evO, Fr.get, Fr.put, ↓reduceIte, reduceIte, Nat.reduceEqDiff, Nat.reduceAdd, Nat.reduceBEq, Nat.reduceLT, Nat.reduceLeDiff, binW, bodyQ, ressW, resW, ne_eq, forall_const, reduceCtorEq, implies_true, sets, oneAll, St.new, St.get, St.look, St.set, setL, setD, rels, fillE, fillD, List.replicate, rowsOf, forall_eq, eraseL, St.erase, Nat.reduceMul, ↓zD, zT, hd2, hu, hb]
          exact .drop (by simp) (by simp [vw, vwL, hp, rows])
    · have hd : ¬ ((i : Int) < (to.length : Int)) := by omega
      have hi' : i = to.length := by omega
      subst hi'
      have hp : isPerm to = true := isPerm_one.2 hI
      simp only [Int.reduceToNat, Int.reduceLT, Int.reduceLE, Int.reduceBEq, Int.reduceBNe, St0, argFr, ↓thenW, ↓blockW, ↓opX, ↓opV, ↓pX, ↓pW, ↓putK, ↓putP, ↓atK, ↓normK, ↓postZ, evO, Fr.get, Fr.put, ↓reduceIte, reduceIte, Nat.reduceEqDiff, Nat.reduceAdd, Nat.reduceBEq, Nat.reduceLT, Nat.reduceLeDiff, binW, bodyQ, ressW, resW, ne_eq, forall_const, reduceCtorEq, implies_true, sets, oneAll, St.new, St.get, St.look, St.set, setL, setD, rels, fillE, fillD, List.replicate, rowsOf, forall_eq, eraseL, St.erase, Nat.reduceMul, ↓zD, zT, hd]
      refine .drop (by simp) ?_
      simp only [stay1, vwL, vw, vwF, sw, St.get, St.look, Fr.get, ↓reduceIte, reduceIte, Nat.reduceEqDiff, Nat.reduceAdd, Nat.reduceBEq, Nat.reduceLT, Nat.reduceLeDiff, exists_eq_left', ne_eq, reduceCtorEq, zR, hp, if_pos]
  · have h1b : ((to.length : Int) != n) = true := by simp [h1]
    simp only [Int.reduceToNat, Int.reduceLT, Int.reduceLE, Int.reduceBEq, Int.reduceBNe, St0, argFr, ↓thenW, ↓blockW, ↓opX, ↓opV, ↓pX, ↓pW, ↓putK, ↓putP, ↓atK, ↓normK, ↓postZ, evO, Fr.get, Fr.put, ↓reduceIte, reduceIte, Nat.reduceEqDiff, Nat.reduceAdd, Nat.reduceBEq, Nat.reduceLT, Nat.reduceLeDiff, binW, bodyQ, ressW, resW, ne_eq, forall_const, reduceCtorEq, implies_true, sets, oneAll, St.new, St.get, St.look, St.set, setL, setD, rels, fillE, fillD, List.replicate, rowsOf, forall_eq, eraseL, St.erase, Nat.reduceMul, ↓zD, zT, h1b]
    exact .drop (by simp) (by simp [vw, vwL, invR, h1, rows])

theorem refRename_runs (m : Mod) (to : List Int) (hl : to.length ≤ 1000) : Runs Tryd.prog 26 [m.d, .sl 1 (rows .i64 to)] (unD (m.rename to)) := by
  refine CallT.go_fn mixed Tryd.func26 k26 (by simp) fun hf => ?_
  simp only [Int.reduceToNat, Int.reduceLT, Int.reduceLE, Int.reduceBEq, Int.reduceBNe, St0, argFr, ↓thenW, ↓blockW, ↓opX, ↓opV, ↓pX, ↓pW, ↓putK, ↓putP, ↓atK, ↓normK, ↓postZ, evO, Fr.get, Fr.put, ↓reduceIte, reduceIte, Nat.reduceEqDiff, Nat.reduceAdd, Nat.reduceBEq, Nat.reduceLT, Nat.reduceLeDiff, binW, bodyQ, ressW, resW, ne_eq, forall_const, reduceCtorEq, implies_true, sets, oneAll, St.new, St.get, St.look, St.set, setL, setD, rels, fillE, fillD, List.replicate, rowsOf, forall_eq, eraseL, St.erase, Nat.reduceMul, ↓zD, zT, Mod.d]
  refine .go (CallT.of_runs (refCheck_runs m) rfl) ?_
  by_cases h1 : m.check = 0
  · obtain ⟨c1, c2, c3, c4, c5, c6, c7⟩ := Mod.check_zero h1
    simp only [Int.reduceToNat, Int.reduceLT, Int.reduceLE, Int.reduceBEq, Int.reduceBNe, St0, argFr, ↓thenW, ↓blockW, ↓opX, ↓opV, ↓pX, ↓pW, ↓putK, ↓putP, ↓atK, ↓normK, ↓postZ, evO, Fr.get, Fr.put, ↓reduceIte, reduceIte, Nat.reduceEqDiff, Nat.reduceAdd, Nat.reduceBEq, Nat.reduceLT, Nat.reduceLeDiff, binW, bodyQ, ressW, resW, ne_eq, forall_const, reduceCtorEq, implies_true, sets, oneAll, St.new, St.get, St.look, St.set, setL, setD, rels, fillE, fillD, List.replicate, rowsOf, forall_eq, eraseL, St.erase, Nat.reduceMul, ↓zD, zT, h1]
    refine .go (CallT.of_runs (inverse_runs to m.W hl) rfl) ?_
    by_cases h2 : (to.length : Int) = m.W
    · by_cases h3 : isPerm to = true
      · have hi : invR to m.W = (invK to to.length, true) := by simp [invR, h2, h3]
        rw [hi]
        simp only [Int.reduceToNat, Int.reduceLT, Int.reduceLE, Int.reduceBEq, Int.reduceBNe, St0, argFr, ↓thenW, ↓blockW, ↓opX, ↓opV, ↓pX, ↓pW, ↓putK, ↓putP, ↓atK, ↓normK, ↓postZ, evO, Fr.get, Fr.put, ↓reduceIte, reduceIte, Nat.reduceEqDiff, Nat.reduceAdd, Nat.reduceBEq, Nat.reduceLT, Nat.reduceLeDiff, binW, bodyQ, ressW, resW, ne_eq, forall_const, reduceCtorEq, implies_true, sets, oneAll, St.new, St.get, St.look, St.set, setL, setD, rels, fillE, fillD, List.replicate, rowsOf, forall_eq, eraseL, St.erase, Nat.reduceMul, ↓zD, zT]
        refine .go (CallT.of_runs (take_runs m (invK to to.length) (fun x hx => (invK_mem h3 x hx).1) (fun r hr x hx => by have := invK_mem h3 x hx; have := c5 r hr; omega) (by omega) (by omega) (by rw [invK_len]; omega)) (by simp [D.isPureL, D.isPure, Mod.d, sets, rels])) ?_
        simp only [Int.reduceToNat, Int.reduceLT, Int.reduceLE, Int.reduceBEq, Int.reduceBNe, St0, argFr, ↓thenW, ↓blockW, ↓opX, ↓opV, ↓pX, ↓pW, ↓putK, ↓putP, ↓atK, ↓normK, ↓postZ, evO, Fr.get, Fr.put, ↓reduceIte, reduceIte, Nat.reduceEqDiff, Nat.reduceAdd, Nat.reduceBEq, Nat.reduceLT, Nat.reduceLeDiff, binW, bodyQ, ressW, resW, ne_eq, forall_const, reduceCtorEq, implies_true, sets, oneAll, St.new, St.get, St.look, St.set, setL, setD, rels, fillE, fillD, List.replicate, rowsOf, forall_eq, eraseL, St.erase, Nat.reduceMul, ↓zD, zT, Mod.d]
        exact .drop (by simp) (by simp [vw, vwL, unD, Mod.rename, h1, h2, h3, Mod.d, sets, rels])
      · have hi : invR to m.W = ([], false) := by simp [invR, h2, h3]
        rw [hi]
        simp only [Int.reduceToNat, Int.reduceLT, Int.reduceLE, Int.reduceBEq, Int.reduceBNe, St0, argFr, ↓thenW, ↓blockW, ↓opX, ↓opV, ↓pX, ↓pW, ↓putK, ↓putP, ↓atK, ↓normK, ↓postZ, evO, Fr.get, Fr.put, ↓reduceIte, reduceIte, Nat.reduceEqDiff, Nat.reduceAdd, Nat.reduceBEq, Nat.reduceLT, Nat.reduceLeDiff, binW, bodyQ, ressW, resW, ne_eq, forall_const, reduceCtorEq, implies_true, sets, oneAll, St.new, St.get, St.look, St.set, setL, setD, rels, fillE, fillD, List.replicate, rowsOf, forall_eq, eraseL, St.erase, Nat.reduceMul, ↓zD, zT]
        exact .drop (by simp) (by simp [vw, vwL, unD, Mod.rename, Mod.nil, h1, h2, h3, Mod.d, sets, rels, us, rr])
    · have hi : invR to m.W = ([], false) := by simp [invR, h2]
      rw [hi]
      simp only [Int.reduceToNat, Int.reduceLT, Int.reduceLE, Int.reduceBEq, Int.reduceBNe, St0, argFr, ↓thenW, ↓blockW, ↓opX, ↓opV, ↓pX, ↓pW, ↓putK, ↓putP, ↓atK, ↓normK, ↓postZ, evO, Fr.get, Fr.put, ↓reduceIte, reduceIte, Nat.reduceEqDiff, Nat.reduceAdd, Nat.reduceBEq, Nat.reduceLT, Nat.reduceLeDiff, binW, bodyQ, ressW, resW, ne_eq, forall_const, reduceCtorEq, implies_true, sets, oneAll, St.new, St.get, St.look, St.set, setL, setD, rels, fillE, fillD, List.replicate, rowsOf, forall_eq, eraseL, St.erase, Nat.reduceMul, ↓zD, zT]
      exact .drop (by simp) (by simp [vw, vwL, unD, Mod.rename, Mod.nil, h1, h2, Mod.d, sets, rels, us, rr])
  · have h1b : (m.check != 0) = true := by simp [h1]
    simp only [Int.reduceToNat, Int.reduceLT, Int.reduceLE, Int.reduceBEq, Int.reduceBNe, St0, argFr, ↓thenW, ↓blockW, ↓opX, ↓opV, ↓pX, ↓pW, ↓putK, ↓putP, ↓atK, ↓normK, ↓postZ, evO, Fr.get, Fr.put, ↓reduceIte, reduceIte, Nat.reduceEqDiff, Nat.reduceAdd, Nat.reduceBEq, Nat.reduceLT, Nat.reduceLeDiff, binW, bodyQ, ressW, resW, ne_eq, forall_const, reduceCtorEq, implies_true, sets, oneAll, St.new, St.get, St.look, St.set, setL, setD, rels, fillE, fillD, List.replicate, rowsOf, forall_eq, eraseL, St.erase, Nat.reduceMul, ↓zD, zT, h1b]
    exact .drop (by simp) (by simp [vw, vwL, unD, Mod.rename, Mod.nil, h1, Mod.d, sets, rels, us, rr])
end Go.Pd
