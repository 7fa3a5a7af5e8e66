/- Merging: contracts: Majority. -/
import Derived.Test.YtjaohaomninnlaaM18
set_option linter.unusedSectionVars false
set_option linter.unusedVariables false
set_option linter.unusedSimpArgs false
set_option linter.defProp false
set_option maxRecDepth 20000
namespace Go.Pd
open Go Go.Proofs
open Mg
/-- A table of which the first v are new. -/
def mixL (a b : List Int) (v : Nat) : List Int := a.take v ++ b.drop v
theorem mixL_len {a b : List Int} {v N : Nat} (ha : a.length = N) (hb : b.length = N) : (mixL a b v).length = N := by
  unfold mixL; rw [List.length_append, List.length_take, List.length_drop]; omega
theorem mixL_at {a b : List Int} {v N : Nat} (ha : a.length = N) (hb : b.length = N) (h : v < N) : (mixL a b v).getD v 0 = b.getD v 0 := by
  have h1 : (a.take v).length = v := by rw [List.length_take]; omega
  unfold mixL
  simp [List.getD, List.getElem?_append_right (show (a.take v).length ≤ v by omega), h1]
theorem mixL_set {a b : List Int} {v N : Nat} (ha : a.length = N) (hb : b.length = N) (h : v < N) : (mixL a b v).set v (a.getD v 0) = mixL a b (v + 1) := by
  have h1 : (a.take v).length = v := by rw [List.length_take]; omega
  have h2 : b.drop v = b.getD v 0 :: b.drop (v + 1) := by simp [List.getD, show v < b.length by omega]
  unfold mixL
  rw [List.set_append_right _ _ (by omega), h1, Nat.sub_self, h2, List.set_cons_zero, take_snoc (d := 0) (by omega), List.append_assoc]
  rfl
theorem mixL_zero (a b : List Int) : mixL a b 0 = b := by simp [mixL]
theorem mixL_end {a b : List Int} {N : Nat} (ha : a.length = N) (hb : b.length = N) : mixL a b N = a := by
  unfold mixL
  rw [show a.take N = a by rw [← ha, List.take_length], List.drop_eq_nil_of_le (by omega), List.append_nil]
theorem sumsK_len (n : Nat) (p : List (BitVec 64)) (b : BitVec 64) (k : Nat) : (sumsK n p b k).length = 2 ^ n := by simp [sumsK]
/-- The answer of Majority. -/
def majA (n : Int) (p : List (BitVec 64)) (b c : BitVec 64) : Int × Int :=
  if checkM n p ≠ 0 then (0, checkM n p) else if (b ||| c) &&& ~~~(allM n.toNat) ≠ 0#64 then (0, 2) else if b = 0#64 ∨ c = 0#64 then (0, 11) else (((majK n.toNat p b c : Nat) : Int), 0)
theorem or_sub {b c m : BitVec 64} (h : (b ||| c) &&& ~~~m = 0#64) : b &&& ~~~m = 0#64 ∧ c &&& ~~~m = 0#64 := by
  rw [sub_zero] at h
  refine ⟨sub_zero.2 fun i hi => h i ?_, sub_zero.2 fun i hi => h i ?_⟩
  · rw [BitVec.getLsbD_or, hi, Bool.true_or]
  · rw [BitVec.getLsbD_or, hi, Bool.or_true]
theorem check_one {n : Nat} {b : BitVec 64} (hn : n ≤ 4) (h : b &&& ~~~(allM n) = 0#64) (hz : b ≠ 0#64) : checkM n [b] = 0 := by
  rw [checkM, if_neg (by omega), if_neg (by simp), Int.toNat_natCast, checkP_zero]
  intro x hx
  rw [List.mem_singleton] at hx
  subst hx
  rw [badM, if_neg (by simpa using h), if_neg hz]
theorem Majority_runs (n : Int) (p : List (BitVec 64)) (b c : BitVec 64) : Runs Try.prog 13 [.int .i64 n, .sl 1 (us p), .int .u64 (ui b), .int .u64 (ui c)] (.tup [.int .i64 (majA n p b c).1, .int .i64 (majA n p b c).2]) := by
  refine CallT.go_fn mixed Try.func13 k13 (by simp) fun hf => ?_
  simp only [Int.reduceToNat, Int.reduceLT, Int.reduceLE, Int.reduceBEq, Int.reduceBNe, St0, argFr, ↓callZ, ↓midZ, ↓unZ, ↓thenW, ↓blockW, ↓opX, ↓opV, ↓pX, ↓pW, ↓putK, ↓putP, ↓atK, ↓normK, ↓postZ, ↓reduceIte, reduceIte, Nat.reduceEqDiff, Nat.reduceAdd, Nat.reduceBEq, Nat.reduceLT, Nat.reduceLeDiff, binW, bodyQ, ressW, resW, ne_eq, forall_const, reduceCtorEq, implies_true, sets, oneAll, setD, rels, fillE, fillD, List.replicate, rowsOf, forall_eq, Nat.reduceMul, ↓zD, zT]
  refine .go (CallT.of_runs (check_runs n p) rfl) ?_
  by_cases hc : checkM n p = 0
  case neg =>
    have e : (checkM n p != 0) = true := by simpa using hc
    have ed : majA n p b c = (0, checkM n p) := if_pos hc
    simp only [Int.reduceToNat, Int.reduceLT, Int.reduceLE, Int.reduceBEq, Int.reduceBNe, St0, argFr, ↓callZ, ↓midZ, ↓unZ, ↓thenW, ↓blockW, ↓opX, ↓opV, ↓pX, ↓pW, ↓putK, ↓putP, ↓atK, ↓normK, ↓postZ, ↓reduceIte, reduceIte, Nat.reduceEqDiff, Nat.reduceAdd, Nat.reduceBEq, Nat.reduceLT, Nat.reduceLeDiff, binW, bodyQ, ressW, resW, ne_eq, forall_const, reduceCtorEq, implies_true, sets, oneAll, setD, rels, fillE, fillD, List.replicate, rowsOf, forall_eq, Nat.reduceMul, ↓zD, zT, e]
    rw [ed]
    exact .same
  have e : (checkM n p != 0) = false := by simpa using hc
  have hc' : ¬ checkM n p ≠ 0 := by simpa using hc
  obtain ⟨h1, h2, h3, h4⟩ := checkM_zero hc
  obtain ⟨m, rfl⟩ := Int.eq_ofNat_of_zero_le h1
  have hm : m ≤ 4 := by omega
  have h16 := pow_le hm
  simp only [Int.reduceToNat, Int.reduceLT, Int.reduceLE, Int.reduceBEq, Int.reduceBNe, St0, argFr, ↓callZ, ↓midZ, ↓unZ, ↓thenW, ↓blockW, ↓opX, ↓opV, ↓pX, ↓pW, ↓putK, ↓putP, ↓atK, ↓normK, ↓postZ, ↓reduceIte, reduceIte, Nat.reduceEqDiff, Nat.reduceAdd, Nat.reduceBEq, Nat.reduceLT, Nat.reduceLeDiff, binW, bodyQ, ressW, resW, ne_eq, forall_const, reduceCtorEq, implies_true, sets, oneAll, setD, rels, fillE, fillD, List.replicate, rowsOf, forall_eq, Nat.reduceMul, ↓zD, zT, e]
  refine .go (CallT.of_runs (all_runs hm) rfl) ?_
  by_cases hb : (b ||| c) &&& ~~~(allM m) = 0#64
  case neg =>
    have ed : majA m p b c = (0, 2) := by rw [majA, if_neg hc', Int.toNat_natCast, if_pos hb]
    have hb1 : ((b ||| c) &&& ~~~(allM m) != 0#64) = true := by simpa using hb
    simp only [Int.reduceToNat, Int.reduceLT, Int.reduceLE, Int.reduceBEq, Int.reduceBNe, St0, argFr, ↓callZ, ↓midZ, ↓unZ, ↓thenW, ↓blockW, ↓opX, ↓opV, ↓pX, ↓pW, ↓putK, ↓putP, ↓atK, ↓normK, ↓postZ, ↓reduceIte, reduceIte, Nat.reduceEqDiff, Nat.reduceAdd, Nat.reduceBEq, Nat.reduceLT, Nat.reduceLeDiff, binW, bodyQ, ressW, resW, ne_eq, forall_const, reduceCtorEq, implies_true, sets, oneAll, setD, rels, fillE, fillD, List.replicate, rowsOf, forall_eq, Nat.reduceMul, ↓zD, zT, hb1]
    rw [ed]
    exact .same
  have hb1 : ((b ||| c) &&& ~~~(allM m) != 0#64) = false := by simpa using hb
  by_cases hb0 : b = 0#64
  · have ed : majA m p b c = (0, 11) := by rw [majA, if_neg hc', Int.toNat_natCast, if_neg (by simpa using hb), if_pos (.inl hb0)]
    have hb2 : (b == 0#64) = true := by simpa using hb0
    simp only [Int.reduceToNat, Int.reduceLT, Int.reduceLE, Int.reduceBEq, Int.reduceBNe, St0, argFr, ↓callZ, ↓midZ, ↓unZ, ↓thenW, ↓blockW, ↓opX, ↓opV, ↓pX, ↓pW, ↓putK, ↓putP, ↓atK, ↓normK, ↓postZ, ↓reduceIte, reduceIte, Nat.reduceEqDiff, Nat.reduceAdd, Nat.reduceBEq, Nat.reduceLT, Nat.reduceLeDiff, binW, bodyQ, ressW, resW, ne_eq, forall_const, reduceCtorEq, implies_true, sets, oneAll, setD, rels, fillE, fillD, List.replicate, rowsOf, forall_eq, Nat.reduceMul, ↓zD, zT, hb1, hb2]
    rw [ed]
    exact .same
  have hb2 : (b == 0#64) = false := by simpa using hb0
  by_cases hc0 : c = 0#64
  · have ed : majA m p b c = (0, 11) := by rw [majA, if_neg hc', Int.toNat_natCast, if_neg (by simpa using hb), if_pos (.inr hc0)]
    have hb3 : (c == 0#64) = true := by simpa using hc0
    simp only [Int.reduceToNat, Int.reduceLT, Int.reduceLE, Int.reduceBEq, Int.reduceBNe, St0, argFr, ↓callZ, ↓midZ, ↓unZ, ↓thenW, ↓blockW, ↓opX, ↓opV, ↓pX, ↓pW, ↓putK, ↓putP, ↓atK, ↓normK, ↓postZ, ↓reduceIte, reduceIte, Nat.reduceEqDiff, Nat.reduceAdd, Nat.reduceBEq, Nat.reduceLT, Nat.reduceLeDiff, binW, bodyQ, ressW, resW, ne_eq, forall_const, reduceCtorEq, implies_true, sets, oneAll, setD, rels, fillE, fillD, List.replicate, rowsOf, forall_eq, Nat.reduceMul, ↓zD, zT, hb1, hb2, hb3]
    rw [ed]
    exact .same
  have hb3 : (c == 0#64) = false := by simpa using hc0
  have ed : majA m p b c = (((majK m p b c : Nat) : Int), 0) := by rw [majA, if_neg hc', Int.toNat_natCast, if_neg (by simpa using hb), if_neg (by intro x; rcases x with x | x; exact hb0 x; exact hc0 x)]
  have hone := check_one hm (or_sub hb).1 hb0
  simp only [Int.reduceToNat, Int.reduceLT, Int.reduceLE, Int.reduceBEq, Int.reduceBNe, St0, argFr, ↓callZ, ↓midZ, ↓unZ, ↓thenW, ↓blockW, ↓opX, ↓opV, ↓pX, ↓pW, ↓putK, ↓putP, ↓atK, ↓normK, ↓postZ, ↓reduceIte, reduceIte, Nat.reduceEqDiff, Nat.reduceAdd, Nat.reduceBEq, Nat.reduceLT, Nat.reduceLeDiff, binW, bodyQ, ressW, resW, ne_eq, forall_const, reduceCtorEq, implies_true, sets, oneAll, setD, rels, fillE, fillD, List.replicate, rowsOf, forall_eq, Nat.reduceMul, ↓zD, zT, hb1, hb2, hb3]
  refine .go (CallT.own1' (ranks_runs 1 hc (by omega)) rfl (rows_pure _ _)) ?_
  simp only [Int.reduceToNat, Int.reduceLT, Int.reduceLE, Int.reduceBEq, Int.reduceBNe, St0, argFr, ↓callZ, ↓midZ, ↓unZ, ↓thenW, ↓blockW, ↓opX, ↓opV, ↓pX, ↓pW, ↓putK, ↓putP, ↓atK, ↓normK, ↓postZ, ↓reduceIte, reduceIte, Nat.reduceEqDiff, Nat.reduceAdd, Nat.reduceBEq, Nat.reduceLT, Nat.reduceLeDiff, binW, bodyQ, ressW, resW, ne_eq, forall_const, reduceCtorEq, implies_true, sets, oneAll, setD, rels, fillE, fillD, List.replicate, rowsOf, forall_eq, Nat.reduceMul, ↓zD, zT]
  (repeat refine And.intro (by first | omega | exact ui_nonneg _ | exact Int.natCast_nonneg _ | rfl | exact rows_one' _ _ | exact us_one _ | (intro _ h; cases h; done)) ?_)
  refine .go (CallT.own1' (ranks_runs (p := [b]) 1 hone (by omega)) rfl (rows_pure _ _)) ?_
  rw [ranks_own, ranks_sums]
  simp only [Int.reduceToNat, Int.reduceLT, Int.reduceLE, Int.reduceBEq, Int.reduceBNe, St0, argFr, ↓callZ, ↓midZ, ↓unZ, ↓thenW, ↓blockW, ↓opX, ↓opV, ↓pX, ↓pW, ↓putK, ↓putP, ↓atK, ↓normK, ↓postZ, ↓reduceIte, reduceIte, Nat.reduceEqDiff, Nat.reduceAdd, Nat.reduceBEq, Nat.reduceLT, Nat.reduceLeDiff, binW, bodyQ, ressW, resW, ne_eq, forall_const, reduceCtorEq, implies_true, sets, oneAll, setD, rels, fillE, fillD, List.replicate, rowsOf, forall_eq, Nat.reduceMul, ↓zD, zT]
  have ho := ownL_len m b
  refine .go (CallT.lent (best_runs (ownL m b) c (by omega)) ⟨lend_rows (by simp [St.get, St.look]) ho.symm, lend_int _ _, trivial⟩ rfl) ?_
  simp only [Int.reduceToNat, Int.reduceLT, Int.reduceLE, Int.reduceBEq, Int.reduceBNe, St0, argFr, ↓callZ, ↓midZ, ↓unZ, ↓thenW, ↓blockW, ↓opX, ↓opV, ↓pX, ↓pW, ↓putK, ↓putP, ↓atK, ↓normK, ↓postZ, ↓reduceIte, reduceIte, Nat.reduceEqDiff, Nat.reduceAdd, Nat.reduceBEq, Nat.reduceLT, Nat.reduceLeDiff, binW, bodyQ, ressW, resW, ne_eq, forall_const, reduceCtorEq, implies_true, sets, oneAll, setD, rels, fillE, fillD, List.replicate, rowsOf, forall_eq, Nat.reduceMul, ↓zD, zT]
  obtain ⟨law1, law2, law3⟩ := majK_law (p := p) (b := b) (c := c) hm
  refine wpS_loop (fun k : Nat => [(14, .int .i64 k), (13, .int .u64 (ui (bestS (ownL m b) c))), (12, .osl 1 1 (2 ^ m)), (11, .osl 0 1 (2 ^ m)), (3, .int .u64 (ui c))]) (fun k => ⟨2, [(1, ⟨1, rows .i64 (ownL m b)⟩), (0, ⟨1, rows .i64 (sumsK m p b k)⟩)]⟩) (fun k => k ≤ majK m p b c) (fun k => majK m p b c - k) 0 (Nat.zero_le _) ?_ ?_
  · (refine Weak.same ?_; simp [sameF, Fr.get])
  intro k hk
  refine wpS_go mixed ?_
  have hs := sumsK_len m p b k
  simp only [Int.reduceToNat, Int.reduceLT, Int.reduceLE, Int.reduceBEq, Int.reduceBNe, St0, argFr, ↓callZ, ↓midZ, ↓unZ, ↓thenW, ↓blockW, ↓opX, ↓opV, ↓pX, ↓pW, ↓putK, ↓putP, ↓atK, ↓normK, ↓postZ, ↓reduceIte, reduceIte, Nat.reduceEqDiff, Nat.reduceAdd, Nat.reduceBEq, Nat.reduceLT, Nat.reduceLeDiff, binW, bodyQ, ressW, resW, ne_eq, forall_const, reduceCtorEq, implies_true, sets, oneAll, setD, rels, fillE, fillD, List.replicate, rowsOf, forall_eq, Nat.reduceMul, ↓zD, zT]
  refine .go (CallT.lent (best_runs (sumsK m p b k) c (by omega)) ⟨lend_rows (by simp [St.get, St.look]) hs.symm, lend_int _ _, trivial⟩ rfl) ?_
  cases hst : stopK m p b c k
  case true =>
    have ek := majK_unique hm hst fun j hj => law3 j (by omega)
    have hst' : (bestS (sumsK m p b k) c &&& ~~~(bestS (ownL m b) c) == 0#64) = true := hst
    simp only [Int.reduceToNat, Int.reduceLT, Int.reduceLE, Int.reduceBEq, Int.reduceBNe, St0, argFr, ↓callZ, ↓midZ, ↓unZ, ↓thenW, ↓blockW, ↓opX, ↓opV, ↓pX, ↓pW, ↓putK, ↓putP, ↓atK, ↓normK, ↓postZ, ↓reduceIte, reduceIte, Nat.reduceEqDiff, Nat.reduceAdd, Nat.reduceBEq, Nat.reduceLT, Nat.reduceLeDiff, binW, bodyQ, ressW, resW, ne_eq, forall_const, reduceCtorEq, implies_true, sets, oneAll, setD, rels, fillE, fillD, List.replicate, rowsOf, forall_eq, Nat.reduceMul, ↓zD, zT, hst']
    rw [ed, ek]
    exact .drop (by simp) (by simp only [vw, vwL, and_self])
  have hlt : k < majK m p b c := by
    by_cases c : k = majK m p b c
    · rw [← c] at law2; rw [law2] at hst; cases hst
    · omega
  have hst' : (bestS (sumsK m p b k) c &&& ~~~(bestS (ownL m b) c) == 0#64) = false := hst
  simp only [Int.reduceToNat, Int.reduceLT, Int.reduceLE, Int.reduceBEq, Int.reduceBNe, St0, argFr, ↓callZ, ↓midZ, ↓unZ, ↓thenW, ↓blockW, ↓opX, ↓opV, ↓pX, ↓pW, ↓putK, ↓putP, ↓atK, ↓normK, ↓postZ, ↓reduceIte, reduceIte, Nat.reduceEqDiff, Nat.reduceAdd, Nat.reduceBEq, Nat.reduceLT, Nat.reduceLeDiff, binW, bodyQ, ressW, resW, ne_eq, forall_const, reduceCtorEq, implies_true, sets, oneAll, setD, rels, fillE, fillD, List.replicate, rowsOf, forall_eq, Nat.reduceMul, ↓zD, zT, hst']
  have hs1 := sumsK_len m p b (k + 1)
  refine wpS_loop (fun v : Nat => [(56, .int .i64 v), (55, .int .i64 ((2 ^ m : Nat) : Int)), (14, .int .i64 k), (13, .int .u64 (ui (bestS (ownL m b) c))), (12, .osl 1 1 (2 ^ m)), (11, .osl 0 1 (2 ^ m)), (3, .int .u64 (ui c))]) (fun v => ⟨2, [(1, ⟨1, rows .i64 (ownL m b)⟩), (0, ⟨1, rows .i64 (mixL (sumsK m p b (k + 1)) (sumsK m p b k) v)⟩)]⟩) (fun v => v ≤ 2 ^ m) (fun v => 2 ^ m - v) 0 (Nat.zero_le _) ?_ ?_
  · (refine Weak.same ?_; simp [sameF, Fr.get, mixL_zero])
  intro v hv
  refine wpS_go mixed ?_
  by_cases h : v < 2 ^ m
  · have hd : ((v : Int) < ((2 ^ m : Nat) : Int)) := by omega
    have hlen := mixL_len (v := v) hs1 hs
    have hg := rows_get .i64 (mixL (sumsK m p b (k + 1)) (sumsK m p b k) v) (i := v) (by omega)
    rw [mixL_at hs1 hs h] at hg
    have hgo := rows_get .i64 (ownL m b) (i := v) (by omega)
    rw [ownL_at h] at hgo
    have hsum := sums_range (n := m) (p := p) (b := b) hm h3 (show k ≤ 100 by omega) h
    have hdr := distB_range m b v
    have ew : IntKind.i64.wrap ((sumsK m p b k).getD v 0 + distB m b v) = (sumsK m p b (k + 1)).getD v 0 := by rw [sumsK_succ h]; exact wrap_i64 (by omega)
    simp only [Int.reduceToNat, Int.reduceLT, Int.reduceLE, Int.reduceBEq, Int.reduceBNe, St0, argFr, ↓callZ, ↓midZ, ↓unZ, ↓thenW, ↓blockW, ↓opX, ↓opV, ↓pX, ↓pW, ↓putK, ↓putP, ↓atK, ↓normK, ↓postZ, ↓reduceIte, reduceIte, Nat.reduceEqDiff, Nat.reduceAdd, Nat.reduceBEq, Nat.reduceLT, Nat.reduceLeDiff, binW, bodyQ, ressW, resW, ne_eq, forall_const, reduceCtorEq, implies_true, sets, oneAll, setD, rels, fillE, fillD, List.replicate, rowsOf, forall_eq, Nat.reduceMul, ↓zD, zT, hd, hg, hgo, hlen, ho, ew]
    (repeat refine And.intro (by first | omega | exact ui_nonneg _ | exact Int.natCast_nonneg _ | rfl | exact rows_one' _ _ | exact us_one _ | (intro _ h; cases h; done)) ?_)
    refine ⟨v + 1, by omega, ?_, by omega⟩
    rw [rows_set, mixL_set hs1 hs h]
    (refine Weak.same ?_; simp only [sameF, Fr.get, ↓reduceIte, reduceIte, Nat.reduceEqDiff, reduceCtorEq, D.int.injEq, D.bool.injEq, D.sl.injEq, and_true, true_and, and_self])
    exact wrap_i64 (by omega)
  · have hd : ¬ ((v : Int) < ((2 ^ m : Nat) : Int)) := by omega
    simp only [Int.reduceToNat, Int.reduceLT, Int.reduceLE, Int.reduceBEq, Int.reduceBNe, St0, argFr, ↓callZ, ↓midZ, ↓unZ, ↓thenW, ↓blockW, ↓opX, ↓opV, ↓pX, ↓pW, ↓putK, ↓putP, ↓atK, ↓normK, ↓postZ, ↓reduceIte, reduceIte, Nat.reduceEqDiff, Nat.reduceAdd, Nat.reduceBEq, Nat.reduceLT, Nat.reduceLeDiff, binW, bodyQ, ressW, resW, ne_eq, forall_const, reduceCtorEq, implies_true, sets, oneAll, setD, rels, fillE, fillD, List.replicate, rowsOf, forall_eq, Nat.reduceMul, ↓zD, zT, hd]
    rw [show v = 2 ^ m by omega, mixL_end hs1 hs]
    refine ⟨k + 1, by omega, ?_, by omega⟩
    (refine Weak.same ?_; simp only [sameF, Fr.get, ↓reduceIte, reduceIte, Nat.reduceEqDiff, reduceCtorEq, D.int.injEq, D.bool.injEq, D.sl.injEq, and_true, true_and, and_self])
    exact wrap_i64 (by omega)
end Go.Pd
