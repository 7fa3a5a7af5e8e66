/- Merging: contracts: the specification's Majority. -/
import Derived.Test.YtjaohaomninnlaaM19
set_option linter.unusedSectionVars false
set_option linter.unusedVariables false
set_option linter.unusedSimpArgs false
set_option linter.defProp false
set_option maxRecDepth 20000
namespace Go.Pd
open Go Go.Proofs
open Mg
theorem sumsK_pos {n : Nat} {p : List (BitVec 64)} {b : BitVec 64} (hn : n ≤ 4) (hp : p.length ≤ 8) {k : Nat} (hk : k ≤ 100) (i : Nat) : 0 ≤ (sumsK n p b k).getD i 0 := by
  by_cases h : i < 2 ^ n
  · exact (sums_range hn hp hk h).1
  · rw [List.getD, List.getElem?_eq_none (by rw [sumsK_len]; omega)]; exact Int.le_refl _
theorem ownL_pos (n : Nat) (b : BitVec 64) (i : Nat) : 0 ≤ (ownL n b).getD i 0 := by
  by_cases h : i < 2 ^ n
  · rw [ownL_at h]; exact (distB_range n b i).1
  · rw [List.getD, List.getElem?_eq_none (by rw [ownL_len]; omega)]; exact Int.le_refl _
theorem refMajority_runs (n : Int) (p : List (BitVec 64)) (b c : BitVec 64) : Runs Try.prog 14 [.int .i64 n, .sl 1 (us p), .int .u64 (ui b), .int .u64 (ui c)] (.tup [.int .i64 (majA n p b c).1, .int .i64 (majA n p b c).2]) := by
  refine CallT.go_fn mixed Try.func14 k14 (by simp) fun hf => ?_
  simp only [Int.reduceToNat, Int.reduceLT, Int.reduceLE, Int.reduceBEq, Int.reduceBNe, St0, argFr, ↓callZ, ↓midZ, ↓unZ, ↓thenW, ↓blockW, ↓opX, ↓opV, ↓pX, ↓pW, ↓putK, ↓putP, ↓atK, ↓normK, ↓postZ, ↓reduceIte, reduceIte, Nat.reduceEqDiff, Nat.reduceAdd, Nat.reduceBEq, Nat.reduceLT, Nat.reduceLeDiff, binW, bodyQ, ressW, resW, ne_eq, forall_const, reduceCtorEq, implies_true, sets, oneAll, setD, rels, fillE, fillD, List.replicate, rowsOf, forall_eq, Nat.reduceMul, ↓zD, zT]
  by_cases hc : checkM n p = 0
  case neg =>
    refine .go (CallT.of_runs (refRanks_runs 1 n p) rfl) ?_
    have er : rankA 1 n p = ([], checkM n p) := if_pos hc
    have e : (checkM n p != 0) = true := by simpa using hc
    have ed : majA n p b c = (0, checkM n p) := if_pos hc
    rw [er, ed]
    simp only [Int.reduceToNat, Int.reduceLT, Int.reduceLE, Int.reduceBEq, Int.reduceBNe, St0, argFr, ↓callZ, ↓midZ, ↓unZ, ↓thenW, ↓blockW, ↓opX, ↓opV, ↓pX, ↓pW, ↓putK, ↓putP, ↓atK, ↓normK, ↓postZ, ↓reduceIte, reduceIte, Nat.reduceEqDiff, Nat.reduceAdd, Nat.reduceBEq, Nat.reduceLT, Nat.reduceLeDiff, binW, bodyQ, ressW, resW, ne_eq, forall_const, reduceCtorEq, implies_true, sets, oneAll, setD, rels, fillE, fillD, List.replicate, rowsOf, forall_eq, Nat.reduceMul, ↓zD, zT, e]
    exact .same
  have hc' : ¬ checkM n p ≠ 0 := by simpa using hc
  obtain ⟨h1, h2, h3, h4⟩ := checkM_zero hc
  obtain ⟨m, rfl⟩ := Int.eq_ofNat_of_zero_le h1
  have hm : m ≤ 4 := by omega
  have h16 := pow_le hm
  have hp0 : 0 < 2 ^ m := Nat.two_pow_pos m
  refine .go (refRanks_own 1 hc (by omega)) ?_
  simp only [Int.reduceToNat, Int.reduceLT, Int.reduceLE, Int.reduceBEq, Int.reduceBNe, St0, argFr, ↓callZ, ↓midZ, ↓unZ, ↓thenW, ↓blockW, ↓opX, ↓opV, ↓pX, ↓pW, ↓putK, ↓putP, ↓atK, ↓normK, ↓postZ, ↓reduceIte, reduceIte, Nat.reduceEqDiff, Nat.reduceAdd, Nat.reduceBEq, Nat.reduceLT, Nat.reduceLeDiff, binW, bodyQ, ressW, resW, ne_eq, forall_const, reduceCtorEq, implies_true, sets, oneAll, setD, rels, fillE, fillD, List.replicate, rowsOf, forall_eq, Nat.reduceMul, ↓zD, zT]
  refine .go (CallT.of_runs (refAll_runs hm) rfl) ?_
  by_cases hb : (b ||| c) &&& ~~~(allM m) = 0#64
  case neg =>
    have ed : majA m p b c = (0, 2) := by rw [majA, if_neg hc', Int.toNat_natCast, if_pos hb]
    have hb1 : ((b ||| c) &&& ~~~(allM m) != 0#64) = true := by simpa using hb
    simp only [Int.reduceToNat, Int.reduceLT, Int.reduceLE, Int.reduceBEq, Int.reduceBNe, St0, argFr, ↓callZ, ↓midZ, ↓unZ, ↓thenW, ↓blockW, ↓opX, ↓opV, ↓pX, ↓pW, ↓putK, ↓putP, ↓atK, ↓normK, ↓postZ, ↓reduceIte, reduceIte, Nat.reduceEqDiff, Nat.reduceAdd, Nat.reduceBEq, Nat.reduceLT, Nat.reduceLeDiff, binW, bodyQ, ressW, resW, ne_eq, forall_const, reduceCtorEq, implies_true, sets, oneAll, setD, rels, fillE, fillD, List.replicate, rowsOf, forall_eq, Nat.reduceMul, ↓zD, zT, hb1]
    rw [ed]
    exact .drop (by simp) (by simp only [vw, vwL, and_self])
  have hb1 : ((b ||| c) &&& ~~~(allM m) != 0#64) = false := by simpa using hb
  by_cases hb0 : b = 0#64
  · have ed : majA m p b c = (0, 11) := by rw [majA, if_neg hc', Int.toNat_natCast, if_neg (by simpa using hb), if_pos (.inl hb0)]
    have hb2 : (b == 0#64) = true := by simpa using hb0
    simp only [Int.reduceToNat, Int.reduceLT, Int.reduceLE, Int.reduceBEq, Int.reduceBNe, St0, argFr, ↓callZ, ↓midZ, ↓unZ, ↓thenW, ↓blockW, ↓opX, ↓opV, ↓pX, ↓pW, ↓putK, ↓putP, ↓atK, ↓normK, ↓postZ, ↓reduceIte, reduceIte, Nat.reduceEqDiff, Nat.reduceAdd, Nat.reduceBEq, Nat.reduceLT, Nat.reduceLeDiff, binW, bodyQ, ressW, resW, ne_eq, forall_const, reduceCtorEq, implies_true, sets, oneAll, setD, rels, fillE, fillD, List.replicate, rowsOf, forall_eq, Nat.reduceMul, ↓zD, zT, hb1, hb2]
    rw [ed]
    exact .drop (by simp) (by simp only [vw, vwL, and_self])
  have hb2 : (b == 0#64) = false := by simpa using hb0
  by_cases hc0 : c = 0#64
  · have ed : majA m p b c = (0, 11) := by rw [majA, if_neg hc', Int.toNat_natCast, if_neg (by simpa using hb), if_pos (.inr hc0)]
    have hb3 : (c == 0#64) = true := by simpa using hc0
    simp only [Int.reduceToNat, Int.reduceLT, Int.reduceLE, Int.reduceBEq, Int.reduceBNe, St0, argFr, ↓callZ, ↓midZ, ↓unZ, ↓thenW, ↓blockW, ↓opX, ↓opV, ↓pX, ↓pW, ↓putK, ↓putP, ↓atK, ↓normK, ↓postZ, ↓reduceIte, reduceIte, Nat.reduceEqDiff, Nat.reduceAdd, Nat.reduceBEq, Nat.reduceLT, Nat.reduceLeDiff, binW, bodyQ, ressW, resW, ne_eq, forall_const, reduceCtorEq, implies_true, sets, oneAll, setD, rels, fillE, fillD, List.replicate, rowsOf, forall_eq, Nat.reduceMul, ↓zD, zT, hb1, hb2, hb3]
    rw [ed]
    exact .drop (by simp) (by simp only [vw, vwL, and_self])
  have hb3 : (c == 0#64) = false := by simpa using hc0
  have ed : majA m p b c = (((majK m p b c : Nat) : Int), 0) := by rw [majA, if_neg hc', Int.toNat_natCast, if_neg (by simpa using hb), if_neg (by intro x; rcases x with x | x; exact hb0 x; exact hc0 x)]
  have hbits : ∀ u, b.getLsbD u = true → u < 2 ^ m := fun u hu => (allM_bit hm u).1 (sub_zero.1 (or_sub hb).1 u hu)
  rw [ranks_sums m p b]
  simp only [Int.reduceToNat, Int.reduceLT, Int.reduceLE, Int.reduceBEq, Int.reduceBNe, St0, argFr, ↓callZ, ↓midZ, ↓unZ, ↓thenW, ↓blockW, ↓opX, ↓opV, ↓pX, ↓pW, ↓putK, ↓putP, ↓atK, ↓normK, ↓postZ, ↓reduceIte, reduceIte, Nat.reduceEqDiff, Nat.reduceAdd, Nat.reduceBEq, Nat.reduceLT, Nat.reduceLeDiff, binW, bodyQ, ressW, resW, ne_eq, forall_const, reduceCtorEq, implies_true, sets, oneAll, setD, rels, fillE, fillD, List.replicate, rowsOf, forall_eq, Nat.reduceMul, ↓zD, zT, hb1, hb2, hb3]
  have ho := ownL_len m b
  have hs0 := sumsK_len m p b 0
  refine wpS_loop (fun k : Nat => [(13, .int .i64 k), (12, growD 1 1 (rows .i64 ((ownL m b).take k))), (10, .osl 0 1 (2 ^ m)), (3, .int .u64 (ui c)), (2, .int .u64 (ui b)), (0, .int .i64 m)]) (fun k => ⟨2, growO 1 1 (rows .i64 ((ownL m b).take k)) ++ [(0, ⟨1, rows .i64 (sumsK m p b 0)⟩)]⟩) (fun k => k ≤ 2 ^ m) (fun k => 2 ^ m - k) 0 (Nat.zero_le _) ?_ ?_
  · (refine Weak.ren [] [0] (by simp) (by simp) (by decide) ?_; simp only [stay1, vwL, vw, vwF, sw, St.get, St.look, Fr.get, ↓reduceIte, reduceIte, Nat.reduceEqDiff, Nat.reduceAdd, Nat.reduceBEq, Nat.reduceLT, Nat.reduceLeDiff, exists_eq_left', ne_eq, reduceCtorEq, zR, List.take_zero, growD_nil, growO_nil, List.nil_append])
  intro k hk
  refine wpS_go mixed ?_
  by_cases h : k < 2 ^ m
  · have hd : ((k : Int) < ((2 ^ m : Nat) : Int)) := by omega
    have hk2 : ((ownL m b).take k).length = k := by rw [List.length_take]; omega
    simp only [Int.reduceToNat, Int.reduceLT, Int.reduceLE, Int.reduceBEq, Int.reduceBNe, St0, argFr, ↓callZ, ↓midZ, ↓unZ, ↓thenW, ↓blockW, ↓opX, ↓opV, ↓pX, ↓pW, ↓putK, ↓putP, ↓atK, ↓normK, ↓postZ, ↓reduceIte, reduceIte, Nat.reduceEqDiff, Nat.reduceAdd, Nat.reduceBEq, Nat.reduceLT, Nat.reduceLeDiff, binW, bodyQ, ressW, resW, ne_eq, forall_const, reduceCtorEq, implies_true, sets, oneAll, setD, rels, fillE, fillD, List.replicate, rowsOf, forall_eq, Nat.reduceMul, ↓zD, zT, hd]
    refine .go (CallT.of_runs (refDistance_runs b hm h hbits) rfl) ?_
    simp only [Int.reduceToNat, Int.reduceLT, Int.reduceLE, Int.reduceBEq, Int.reduceBNe, St0, argFr, ↓callZ, ↓midZ, ↓unZ, ↓thenW, ↓blockW, ↓opX, ↓opV, ↓pX, ↓pW, ↓putK, ↓putP, ↓atK, ↓normK, ↓postZ, ↓reduceIte, reduceIte, Nat.reduceEqDiff, Nat.reduceAdd, Nat.reduceBEq, Nat.reduceLT, Nat.reduceLeDiff, binW, bodyQ, ressW, resW, ne_eq, forall_const, reduceCtorEq, implies_true, sets, oneAll, setD, rels, fillE, fillD, List.replicate, rowsOf, forall_eq, Nat.reduceMul, ↓zD, zT, hk2]
    (repeat refine And.intro (by first | omega | exact ui_nonneg _ | exact Int.natCast_nonneg _ | rfl | exact rows_one' _ _ | exact us_one _ | (intro _ h; cases h; done)) ?_)
    refine ⟨k + 1, by omega, ?_, by omega⟩
    rw [← ownL_at h, ← take_snoc (by omega)]
    (refine Weak.ren [(1, 2)] [1, 0] (by simp) (by simp) (by decide) ?_; simp only [stay1, vwL, vw, vwF, sw, St.get, St.look, Fr.get, ↓reduceIte, reduceIte, Nat.reduceEqDiff, Nat.reduceAdd, Nat.reduceBEq, Nat.reduceLT, Nat.reduceLeDiff, exists_eq_left', ne_eq, reduceCtorEq, zR])
    exact wrap_i64 (by omega)
  have hd : ¬ ((k : Int) < ((2 ^ m : Nat) : Int)) := by omega
  simp only [Int.reduceToNat, Int.reduceLT, Int.reduceLE, Int.reduceBEq, Int.reduceBNe, St0, argFr, ↓callZ, ↓midZ, ↓unZ, ↓thenW, ↓blockW, ↓opX, ↓opV, ↓pX, ↓pW, ↓putK, ↓putP, ↓atK, ↓normK, ↓postZ, ↓reduceIte, reduceIte, Nat.reduceEqDiff, Nat.reduceAdd, Nat.reduceBEq, Nat.reduceLT, Nat.reduceLeDiff, binW, bodyQ, ressW, resW, ne_eq, forall_const, reduceCtorEq, implies_true, sets, oneAll, setD, rels, fillE, fillD, List.replicate, rowsOf, forall_eq, Nat.reduceMul, ↓zD, zT, hd]
  rw [show (ownL m b).take k = ownL m b by rw [show k = (ownL m b).length by omega, List.take_length]]
  have hne : rows .i64 (ownL m b) ≠ [] := ne_of_len (by rw [rows_len]; omega)
  have eD : growD 1 1 (rows .i64 (ownL m b)) = .osl 1 1 (2 ^ m) := by rw [growD_ne hne, rows_len, ho]
  rw [eD, growO_ne hne]
  obtain ⟨law1, law2, law3⟩ := majK_law (p := p) (b := b) (c := c) hm
  refine wpS_loop (fun k : Nat => [(14, .int .i64 k), (12, .osl 1 1 (2 ^ m)), (10, .osl 0 1 (2 ^ m)), (3, .int .u64 (ui c))]) (fun k => ⟨2, [(1, ⟨1, rows .i64 (ownL m b)⟩), (0, ⟨1, rows .i64 (sumsK m p b k)⟩)]⟩) (fun k => k ≤ majK m p b c) (fun k => majK m p b c - k) 0 (Nat.zero_le _) ?_ ?_
  · (refine Weak.same ?_; simp [sameF, Fr.get])
  clear hd hk h k
  intro k hk
  refine wpS_go mixed ?_
  have hs := sumsK_len m p b k
  simp only [Int.reduceToNat, Int.reduceLT, Int.reduceLE, Int.reduceBEq, Int.reduceBNe, St0, argFr, ↓callZ, ↓midZ, ↓unZ, ↓thenW, ↓blockW, ↓opX, ↓opV, ↓pX, ↓pW, ↓putK, ↓putP, ↓atK, ↓normK, ↓postZ, ↓reduceIte, reduceIte, Nat.reduceEqDiff, Nat.reduceAdd, Nat.reduceBEq, Nat.reduceLT, Nat.reduceLeDiff, binW, bodyQ, ressW, resW, ne_eq, forall_const, reduceCtorEq, implies_true, sets, oneAll, setD, rels, fillE, fillD, List.replicate, rowsOf, forall_eq, Nat.reduceMul, ↓zD, zT]
  refine .go (CallT.lent (refBest_runs (sumsK m p b k) c (by omega) (sumsK_pos hm h3 (by omega))) ⟨lend_rows (by simp [St.get, St.look]) hs.symm, lend_int _ _, trivial⟩ rfl) ?_
  simp only [Int.reduceToNat, Int.reduceLT, Int.reduceLE, Int.reduceBEq, Int.reduceBNe, St0, argFr, ↓callZ, ↓midZ, ↓unZ, ↓thenW, ↓blockW, ↓opX, ↓opV, ↓pX, ↓pW, ↓putK, ↓putP, ↓atK, ↓normK, ↓postZ, ↓reduceIte, reduceIte, Nat.reduceEqDiff, Nat.reduceAdd, Nat.reduceBEq, Nat.reduceLT, Nat.reduceLeDiff, binW, bodyQ, ressW, resW, ne_eq, forall_const, reduceCtorEq, implies_true, sets, oneAll, setD, rels, fillE, fillD, List.replicate, rowsOf, forall_eq, Nat.reduceMul, ↓zD, zT]
  refine .go (CallT.lent (refBest_runs (ownL m b) c (by omega) (ownL_pos m b)) ⟨lend_rows (by simp [St.get, St.look]) ho.symm, lend_int _ _, trivial⟩ rfl) ?_
  cases hst : stopK m p b c k
  case true =>
    have ek := majK_unique hm hst fun j hj => law3 j (by omega)
    have hst' : (bestS (sumsK m p b k) c &&& ~~~(bestS (ownL m b) c) != 0#64) = false := by simpa [stopK] using hst
    simp only [Int.reduceToNat, Int.reduceLT, Int.reduceLE, Int.reduceBEq, Int.reduceBNe, St0, argFr, ↓callZ, ↓midZ, ↓unZ, ↓thenW, ↓blockW, ↓opX, ↓opV, ↓pX, ↓pW, ↓putK, ↓putP, ↓atK, ↓normK, ↓postZ, ↓reduceIte, reduceIte, Nat.reduceEqDiff, Nat.reduceAdd, Nat.reduceBEq, Nat.reduceLT, Nat.reduceLeDiff, binW, bodyQ, ressW, resW, ne_eq, forall_const, reduceCtorEq, implies_true, sets, oneAll, setD, rels, fillE, fillD, List.replicate, rowsOf, forall_eq, Nat.reduceMul, ↓zD, zT, hst']
    rw [ed, ek]
    exact .drop (by simp) (by simp only [vw, vwL, and_self])
  have hlt : k < majK m p b c := by
    by_cases c : k = majK m p b c
    · rw [← c] at law2; rw [law2] at hst; cases hst
    · omega
  have hst' : (bestS (sumsK m p b k) c &&& ~~~(bestS (ownL m b) c) != 0#64) = true := by simpa [stopK] using hst
  simp only [Int.reduceToNat, Int.reduceLT, Int.reduceLE, Int.reduceBEq, Int.reduceBNe, St0, argFr, ↓callZ, ↓midZ, ↓unZ, ↓thenW, ↓blockW, ↓opX, ↓opV, ↓pX, ↓pW, ↓putK, ↓putP, ↓atK, ↓normK, ↓postZ, ↓reduceIte, reduceIte, Nat.reduceEqDiff, Nat.reduceAdd, Nat.reduceBEq, Nat.reduceLT, Nat.reduceLeDiff, binW, bodyQ, ressW, resW, ne_eq, forall_const, reduceCtorEq, implies_true, sets, oneAll, setD, rels, fillE, fillD, List.replicate, rowsOf, forall_eq, Nat.reduceMul, ↓zD, zT, hst']
  have hs1 := sumsK_len m p b (k + 1)
  refine wpS_loop (fun v : Nat => [(15, .int .i64 v), (14, .int .i64 k), (12, .osl 1 1 (2 ^ m)), (10, .osl 0 1 (2 ^ m)), (3, .int .u64 (ui c))]) (fun v => ⟨2, [(1, ⟨1, rows .i64 (ownL m b)⟩), (0, ⟨1, rows .i64 (mixL (sumsK m p b (k + 1)) (sumsK m p b k) v)⟩)]⟩) (fun v => v ≤ 2 ^ m) (fun v => 2 ^ m - v) 0 (Nat.zero_le _) ?_ ?_
  · (refine Weak.same ?_; simp [sameF, Fr.get, mixL_zero])
  intro v hv
  refine wpS_go mixed ?_
  by_cases h : v < 2 ^ m
  · have hd : ((v : Int) < ((2 ^ m : Nat) : Int)) := by omega
    have hlen := mixL_len (v := v) hs1 hs
    have hg := rows_get .i64 (mixL (sumsK m p b (k + 1)) (sumsK m p b k) v) (i := v) (by omega)
    rw [mixL_at hs1 hs h] at hg
    have hgo := rows_get .i64 (ownL m b) (i := v) (by omega)
    rw [ownL_at h] at hgo
    have hsum := sums_range (n := m) (p := p) (b := b) hm h3 (show k ≤ 100 by omega) h
    have hdr := distB_range m b v
    have ew : IntKind.i64.wrap ((sumsK m p b k).getD v 0 + distB m b v) = (sumsK m p b (k + 1)).getD v 0 := by rw [sumsK_succ h]; exact wrap_i64 (by omega)
    simp only [Int.reduceToNat, Int.reduceLT, Int.reduceLE, Int.reduceBEq, Int.reduceBNe, St0, argFr, ↓callZ, ↓midZ, ↓unZ, ↓thenW, ↓blockW, ↓opX, ↓opV, ↓pX, ↓pW, ↓putK, ↓putP, ↓atK, ↓normK, ↓postZ, ↓reduceIte, reduceIte, Nat.reduceEqDiff, Nat.reduceAdd, Nat.reduceBEq, Nat.reduceLT, Nat.reduceLeDiff, binW, bodyQ, ressW, resW, ne_eq, forall_const, reduceCtorEq, implies_true, sets, oneAll, setD, rels, fillE, fillD, List.replicate, rowsOf, forall_eq, Nat.reduceMul, ↓zD, zT, hd, hg, hgo, hlen, ho, ew]
    (repeat refine And.intro (by first | omega | exact ui_nonneg _ | exact Int.natCast_nonneg _ | rfl | exact rows_one' _ _ | exact us_one _ | (intro _ h; cases h; done)) ?_)
    refine ⟨v + 1, by omega, ?_, by omega⟩
    rw [rows_set, mixL_set hs1 hs h]
    (refine Weak.same ?_; simp only [sameF, Fr.get, ↓reduceIte, reduceIte, Nat.reduceEqDiff, reduceCtorEq, D.int.injEq, D.bool.injEq, D.sl.injEq, and_true, true_and, and_self])
    exact wrap_i64 (by omega)
  · have hd : ¬ ((v : Int) < ((2 ^ m : Nat) : Int)) := by omega
    simp only [Int.reduceToNat, Int.reduceLT, Int.reduceLE, Int.reduceBEq, Int.reduceBNe, St0, argFr, ↓callZ, ↓midZ, ↓unZ, ↓thenW, ↓blockW, ↓opX, ↓opV, ↓pX, ↓pW, ↓putK, ↓putP, ↓atK, ↓normK, ↓postZ, ↓reduceIte, reduceIte, Nat.reduceEqDiff, Nat.reduceAdd, Nat.reduceBEq, Nat.reduceLT, Nat.reduceLeDiff, binW, bodyQ, ressW, resW, ne_eq, forall_const, reduceCtorEq, implies_true, sets, oneAll, setD, rels, fillE, fillD, List.replicate, rowsOf, forall_eq, Nat.reduceMul, ↓zD, zT, hd]
    rw [show v = 2 ^ m by omega, mixL_end hs1 hs]
    refine ⟨k + 1, by omega, ?_, by omega⟩
    (refine Weak.same ?_; simp only [sameF, Fr.get, ↓reduceIte, reduceIte, Nat.reduceEqDiff, reduceCtorEq, D.int.injEq, D.bool.injEq, D.sl.injEq, and_true, true_and, and_self])
    exact wrap_i64 (by omega)
end Go.Pd
