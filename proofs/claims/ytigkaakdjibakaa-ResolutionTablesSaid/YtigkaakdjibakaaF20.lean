/- Resolution: contract: the clauses of a formula. -/
import Derived.Test.YtigkaakdjibakaaF18
set_option linter.unusedSectionVars false
set_option linter.unusedVariables false
set_option linter.unusedSimpArgs false
set_option linter.defProp false
set_option maxRecDepth 20000
namespace Go.Pd
open Go Go.Proofs
open Rs Fm
namespace Fm
theorem table_zero {f : List Nd} {n : Int} (h : (tableA f n).2 = 0) : ∃ m : Nat, n = m ∧ m ≤ 6 := by
  unfold tableA at h
  by_cases h1 : checkF f ≠ 0
  · rw [if_pos h1] at h; exact absurd h h1
  rw [if_neg h1] at h
  by_cases h2 : fragsA f ≠ 0
  · rw [if_pos h2] at h; cases h
  rw [if_neg h2] at h
  by_cases h3 : n < 0 ∨ 6 < n ∨ fitsB f 0 n = false
  · rw [if_pos h3] at h; cases h
  exact ⟨n.toNat, by omega, by omega⟩
/-- The clause that just one valuation does not satisfy. -/
def clS (v : Nat) : Nat → List Int
  | 0 => []
  | k + 1 => clS v k ++ [if v.testBit k = true then -((k : Int) + 1) else (k : Int) + 1]
theorem clS_len (v : Nat) : ∀ k, (clS v k).length = k
  | 0 => rfl
  | k + 1 => by simp [clS, clS_len v k]
def clausesS (t : BitVec 64) (n : Nat) : Nat → List (List Int)
  | 0 => []
  | k + 1 => if t.getLsbD k = true then clausesS t n k else clausesS t n k ++ [clS k n]
theorem clausesS_len (t : BitVec 64) (n : Nat) : ∀ k, (clausesS t n k).length ≤ k
  | 0 => Nat.le_refl _
  | k + 1 => by
    have := clausesS_len t n k
    unfold clausesS
    split
    · omega
    · rw [List.length_append, List.length_singleton]; omega
def clausesA (f : List Nd) (n : Int) : List (List Int) × Int := if (tableA f n).2 ≠ 0 then ([], (tableA f n).2) else (clausesS (tableA f n).1 n.toNat (2 ^ n.toNat), 0)
theorem pureE_rl (l : List (List Int)) : pureE (rl l) = True := eq_true (rl_pure l)
theorem growO_key {k sz : Nat} {els : List (List D)} : ∀ p ∈ growO k sz els, p.1 = k := by
  cases els <;> simp [growO]
theorem rl_snoc (l : List (List Int)) (c : List Int) : rl l ++ [[.sl 1 (rows .i64 c)]] = rl (l ++ [c]) := by simp [rl]
end Fm
theorem Clauses33 (f : List Nd) (n : Int) : Runs Try.prog 33 [.sl 6 (ndR f), .int .i64 n] (.tup [.sl 1 (rl (clausesA f n).1), .int .i64 (clausesA f n).2]) := by
  refine CallT.go_fn mixed Try.func33 k33 (by simp) fun hf => ?_
  simp only [Int.reduceToNat, Int.reduceLT, Int.reduceLE, Int.reduceBEq, Int.reduceBNe, St0, argFr, ↓thenW, ↓blockW, ↓opX, ↓opV, ↓pX, ↓pW, ↓putK, ↓putP, ↓atK, ↓normK, ↓postZ, ↓reduceIte, reduceIte, Nat.reduceEqDiff, Nat.reduceAdd, Nat.reduceBEq, Nat.reduceLT, Nat.reduceLeDiff, binW, bodyQ, ressW, resW, ne_eq, forall_const, reduceCtorEq, implies_true, sets, oneAll, setD, rels, fillE, fillD, List.replicate, rowsOf, forall_eq, Nat.reduceMul, ↓zD, zT]
  refine .go (CallT.of_runs (Table34 f n) (by simp [D.isPureL, D.isPure])) ?_
  by_cases hc : (tableA f n).2 = 0
  case neg =>
    have e : ((tableA f n).2 != 0) = true := by simpa using hc
    simp only [Int.reduceToNat, Int.reduceLT, Int.reduceLE, Int.reduceBEq, Int.reduceBNe, St0, argFr, ↓thenW, ↓blockW, ↓opX, ↓opV, ↓pX, ↓pW, ↓putK, ↓putP, ↓atK, ↓normK, ↓postZ, ↓reduceIte, reduceIte, Nat.reduceEqDiff, Nat.reduceAdd, Nat.reduceBEq, Nat.reduceLT, Nat.reduceLeDiff, binW, bodyQ, ressW, resW, ne_eq, forall_const, reduceCtorEq, implies_true, sets, oneAll, setD, rels, fillE, fillD, List.replicate, rowsOf, forall_eq, Nat.reduceMul, ↓zD, zT, e]
    rw [show clausesA f n = ([], (tableA f n).2) from if_pos hc]
    exact .drop (by simp) (by simp [vw, vwL, rl])
  have e : ((tableA f n).2 != 0) = false := by simpa using hc
  obtain ⟨m, rfl, hm⟩ := table_zero hc
  rw [show clausesA f m = (clausesS (tableA f m).1 m (2 ^ m), 0) by rw [clausesA, if_neg (by simpa using hc), Int.toNat_natCast]]
  have h64 : 2 ^ m ≤ 2 ^ 6 := Nat.pow_le_pow_right (by decide) hm
  simp only [Int.reduceToNat, Int.reduceLT, Int.reduceLE, Int.reduceBEq, Int.reduceBNe, St0, argFr, ↓thenW, ↓blockW, ↓opX, ↓opV, ↓pX, ↓pW, ↓putK, ↓putP, ↓atK, ↓normK, ↓postZ, ↓reduceIte, reduceIte, Nat.reduceEqDiff, Nat.reduceAdd, Nat.reduceBEq, Nat.reduceLT, Nat.reduceLeDiff, binW, bodyQ, ressW, resW, ne_eq, forall_const, reduceCtorEq, implies_true, sets, oneAll, setD, rels, fillE, fillD, List.replicate, rowsOf, forall_eq, Nat.reduceMul, ↓zD, zT, e, shlN (show m ≤ 61 by omega)]
  (repeat (first | refine And.intro (by omega) ?_ | refine And.intro (ui_nonneg _) ?_ | refine And.intro (Int.natCast_nonneg _) ?_ | refine And.intro rfl ?_ | refine And.intro (rows_one' _ _) ?_ | refine And.intro (us_one _) ?_ | refine And.intro (by intro _ h; cases h; done) ?_))
  generalize (tableA f m).1 = t
  refine wpS_loop (fun k : Nat => [(24, .int .i64 k), (23, .int .i64 ((2 ^ m : Nat) : Int)), (8, growD 0 1 (rl (clausesS t m k))), (6, .int .u64 (ui t)), (1, .int .i64 m)]) (fun k => ⟨1, growO 0 1 (rl (clausesS t m k))⟩) (fun k => k ≤ 2 ^ m) (fun k => 2 ^ m - k) 0 (Nat.zero_le _) ?_ ?_
  · exact Weak.view (fun k => k) (by simp) (by simp) (by simp [vwF, vw, Fr.get, rl, growD, clausesS]) (by simp [stays, rl, growO, clausesS]) (by simp [apartNames, rl, growO, clausesS])
  intro k hk
  refine wpS_go mixed ?_
  have hw : IntKind.i64.wrap ((k : Int) + 1) = ((k + 1 : Nat) : Int) := wrap_i64 (by omega)
  have hcl := clausesS_len t m k
  by_cases h : k < 2 ^ m
  case neg =>
    have ek : k = 2 ^ m := by omega
    have hd : ¬ (k : Int) < ((2 ^ m : Nat) : Int) := by omega
    simp only [Int.reduceToNat, Int.reduceLT, Int.reduceLE, Int.reduceBEq, Int.reduceBNe, St0, argFr, ↓thenW, ↓blockW, ↓opX, ↓opV, ↓pX, ↓pW, ↓putK, ↓putP, ↓atK, ↓normK, ↓postZ, ↓reduceIte, reduceIte, Nat.reduceEqDiff, Nat.reduceAdd, Nat.reduceBEq, Nat.reduceLT, Nat.reduceLeDiff, binW, bodyQ, ressW, resW, ne_eq, forall_const, reduceCtorEq, implies_true, sets, oneAll, setD, rels, fillE, fillD, List.replicate, rowsOf, forall_eq, Nat.reduceMul, ↓zD, zT, hd]
    rw [← ek]
    exact .drop (by simp) ⟨rfl, grow_viewL (by simp) (rl_pure _) (by cases rl (clausesS t m k) <;> simp [growO, growG, St.look]), by simp [vw], trivial⟩
  have hd : ((k : Int) < ((2 ^ m : Nat) : Int)) := by omega
  cases hb : t.getLsbD k
  case true =>
    simp only [Int.reduceToNat, Int.reduceLT, Int.reduceLE, Int.reduceBEq, Int.reduceBNe, St0, argFr, ↓thenW, ↓blockW, ↓opX, ↓opV, ↓pX, ↓pW, ↓putK, ↓putP, ↓atK, ↓normK, ↓postZ, ↓reduceIte, reduceIte, Nat.reduceEqDiff, Nat.reduceAdd, Nat.reduceBEq, Nat.reduceLT, Nat.reduceLeDiff, binW, bodyQ, ressW, resW, ne_eq, forall_const, reduceCtorEq, implies_true, sets, oneAll, setD, rels, fillE, fillD, List.replicate, rowsOf, forall_eq, Nat.reduceMul, ↓zD, zT, hd, bit_and1_eq, hb]
    (repeat (first | refine And.intro (by omega) ?_ | refine And.intro (ui_nonneg _) ?_ | refine And.intro (Int.natCast_nonneg _) ?_ | refine And.intro rfl ?_ | refine And.intro (rows_one' _ _) ?_ | refine And.intro (us_one _) ?_ | refine And.intro (by intro _ h; cases h; done) ?_))
    refine ⟨k + 1, by omega, ?_, by omega⟩
    rw [show clausesS t m (k + 1) = clausesS t m k by rw [clausesS, if_pos hb]]
    (refine Weak.same ?_; simp only [sameF, Fr.get, ↓reduceIte, reduceIte, Nat.reduceEqDiff, reduceCtorEq, D.int.injEq, D.bool.injEq, D.sl.injEq, and_true, true_and, and_self])
    exact hw
  simp only [Int.reduceToNat, Int.reduceLT, Int.reduceLE, Int.reduceBEq, Int.reduceBNe, St0, argFr, ↓thenW, ↓blockW, ↓opX, ↓opV, ↓pX, ↓pW, ↓putK, ↓putP, ↓atK, ↓normK, ↓postZ, ↓reduceIte, reduceIte, Nat.reduceEqDiff, Nat.reduceAdd, Nat.reduceBEq, Nat.reduceLT, Nat.reduceLeDiff, binW, bodyQ, ressW, resW, ne_eq, forall_const, reduceCtorEq, implies_true, sets, oneAll, setD, rels, fillE, fillD, List.replicate, rowsOf, forall_eq, Nat.reduceMul, ↓zD, zT, hd, bit_and1_eq, hb]
  (repeat (first | refine And.intro (by omega) ?_ | refine And.intro (ui_nonneg _) ?_ | refine And.intro (Int.natCast_nonneg _) ?_ | refine And.intro rfl ?_ | refine And.intro (rows_one' _ _) ?_ | refine And.intro (us_one _) ?_ | refine And.intro (by intro _ h; cases h; done) ?_))
  refine wpS_loopW (fun j : Nat => [(34, .int .i64 j), (33, .int .i64 m), (24, .int .i64 k), (23, .int .i64 ((2 ^ m : Nat) : Int)), (10, .osl 1 1 (clS k j).length), (9, .int .i64 k), (8, growD 0 1 (rl (clausesS t m k))), (6, .int .u64 (ui t)), (1, .int .i64 m)]) (fun j => ⟨2, (1, ⟨1, rows .i64 (clS k j)⟩) :: growO 0 1 (rl (clausesS t m k))⟩) (fun j => j ≤ m) (fun j => m - j) 0 (Nat.zero_le _) ?_ ?_
  · (refine Weak.same ?_; simp [sameF, Fr.get, clS])
  intro j hj
  refine wpS_go mixed ?_
  have hjl := clS_len k j
  by_cases h2 : j < m
  · have hd2 : ((j : Int) < (m : Int)) := by omega
    have hw1 : IntKind.i64.wrap ((j : Int) + 1) = (j : Int) + 1 := wrap_i64 (by omega)
    have hw2 : IntKind.i64.wrap (0 - ((j : Int) + 1)) = -((j : Int) + 1) := wrap_i64 (by omega)
    cases hb2 : k.testBit j
    · simp only [Int.reduceToNat, Int.reduceLT, Int.reduceLE, Int.reduceBEq, Int.reduceBNe, St0, argFr, ↓thenW, ↓blockW, ↓opX, ↓opV, ↓pX, ↓pW, ↓putK, ↓putP, ↓atK, ↓normK, ↓postZ, ↓reduceIte, reduceIte, Nat.reduceEqDiff, Nat.reduceAdd, Nat.reduceBEq, Nat.reduceLT, Nat.reduceLeDiff, binW, bodyQ, ressW, resW, ne_eq, forall_const, reduceCtorEq, implies_true, sets, oneAll, setD, rels, fillE, fillD, List.replicate, rowsOf, forall_eq, Nat.reduceMul, ↓zD, zT, hd2, hw1, shrNat k j (by omega), and1Nat (div_lt62 (show k < 2 ^ 62 by omega) j), bitNat, hb2]
      (repeat (first | refine And.intro (by omega) ?_ | refine And.intro (ui_nonneg _) ?_ | refine And.intro (Int.natCast_nonneg _) ?_ | refine And.intro rfl ?_ | refine And.intro (rows_one' _ _) ?_ | refine And.intro (us_one _) ?_ | refine And.intro (by intro _ h; cases h; done) ?_))
      refine ⟨j + 1, by omega, ?_, by omega⟩
      rw [show clS k (j + 1) = clS k j ++ [(j : Int) + 1] by rw [clS, hb2, if_neg (by simp)]]
      (refine Weak.ren [(1, 2)] [1, 0] (by simp) (by simp) (by decide) ?_; simp only [stay1, vwL, vw, vwF, sw, St.get, St.look, Fr.get, ↓reduceIte, reduceIte, Nat.reduceEqDiff, Nat.reduceAdd, Nat.reduceBEq, Nat.reduceLT, Nat.reduceLeDiff, exists_eq_left', ne_eq, reduceCtorEq, zR, pureE_rl])
      simp
    · simp only [Int.reduceToNat, Int.reduceLT, Int.reduceLE, Int.reduceBEq, Int.reduceBNe, St0, argFr, ↓thenW, ↓blockW, ↓opX, ↓opV, ↓pX, ↓pW, ↓putK, ↓putP, ↓atK, ↓normK, ↓postZ, ↓reduceIte, reduceIte, Nat.reduceEqDiff, Nat.reduceAdd, Nat.reduceBEq, Nat.reduceLT, Nat.reduceLeDiff, binW, bodyQ, ressW, resW, ne_eq, forall_const, reduceCtorEq, implies_true, sets, oneAll, setD, rels, fillE, fillD, List.replicate, rowsOf, forall_eq, Nat.reduceMul, ↓zD, zT, hd2, hw1, hw2, shrNat k j (by omega), and1Nat (div_lt62 (show k < 2 ^ 62 by omega) j), bitNat, hb2]
      (repeat (first | refine And.intro (by omega) ?_ | refine And.intro (ui_nonneg _) ?_ | refine And.intro (Int.natCast_nonneg _) ?_ | refine And.intro rfl ?_ | refine And.intro (rows_one' _ _) ?_ | refine And.intro (us_one _) ?_ | refine And.intro (by intro _ h; cases h; done) ?_))
      refine ⟨j + 1, by omega, ?_, by omega⟩
      rw [show clS k (j + 1) = clS k j ++ [-((j : Int) + 1)] by rw [clS, hb2, if_pos rfl]]
      (refine Weak.ren [(1, 2)] [1, 0] (by simp) (by simp) (by decide) ?_; simp only [stay1, vwL, vw, vwF, sw, St.get, St.look, Fr.get, ↓reduceIte, reduceIte, Nat.reduceEqDiff, Nat.reduceAdd, Nat.reduceBEq, Nat.reduceLT, Nat.reduceLeDiff, exists_eq_left', ne_eq, reduceCtorEq, zR, pureE_rl])
      simp
  · have hd2 : ¬ ((j : Int) < (m : Int)) := by omega
    obtain rfl : j = m := by omega
    simp only [Int.reduceToNat, Int.reduceLT, Int.reduceLE, Int.reduceBEq, Int.reduceBNe, St0, argFr, ↓thenW, ↓blockW, ↓opX, ↓opV, ↓pX, ↓pW, ↓putK, ↓putP, ↓atK, ↓normK, ↓postZ, ↓reduceIte, reduceIte, Nat.reduceEqDiff, Nat.reduceAdd, Nat.reduceBEq, Nat.reduceLT, Nat.reduceLeDiff, binW, bodyQ, ressW, resW, ne_eq, forall_const, reduceCtorEq, implies_true, sets, oneAll, setD, rels, fillE, fillD, List.replicate, rowsOf, forall_eq, Nat.reduceMul, ↓zD, zT, hd2]
    refine .go [(24, .int .i64 k), (23, .int .i64 ((2 ^ j : Nat) : Int)), (10, .sl 1 (rows .i64 (clS k j))), (8, growD 0 1 (rl (clausesS t j k))), (6, .int .u64 (ui t)), (1, .int .i64 j)] ⟨1, growO 0 1 (rl (clausesS t j k))⟩ ?_ ?_
    · (refine Weak.ren [] [0] (by simp) (by simp) (by decide) ?_; simp only [stay1, vwL, vw, vwF, sw, St.get, St.look, Fr.get, ↓reduceIte, reduceIte, Nat.reduceEqDiff, Nat.reduceAdd, Nat.reduceBEq, Nat.reduceLT, Nat.reduceLeDiff, exists_eq_left', ne_eq, reduceCtorEq, zR, pureE_rl])
      exact ⟨fun p hp h1 => absurd ((growO_key p hp).symm.trans h1) (by decide), by rw [rows_len]; omega, by rw [← rows_len .i64 (clS k j), List.take_length], rows_pure _ _⟩
    simp only [Int.reduceToNat, Int.reduceLT, Int.reduceLE, Int.reduceBEq, Int.reduceBNe, St0, argFr, ↓thenW, ↓blockW, ↓opX, ↓opV, ↓pX, ↓pW, ↓putK, ↓putP, ↓atK, ↓normK, ↓postZ, ↓reduceIte, reduceIte, Nat.reduceEqDiff, Nat.reduceAdd, Nat.reduceBEq, Nat.reduceLT, Nat.reduceLeDiff, binW, bodyQ, ressW, resW, ne_eq, forall_const, reduceCtorEq, implies_true, sets, oneAll, setD, rels, fillE, fillD, List.replicate, rowsOf, forall_eq, Nat.reduceMul, ↓zD, zT, rl_len]
    (repeat (first | refine And.intro (by omega) ?_ | refine And.intro (ui_nonneg _) ?_ | refine And.intro (Int.natCast_nonneg _) ?_ | refine And.intro rfl ?_ | refine And.intro (rows_one' _ _) ?_ | refine And.intro (us_one _) ?_ | refine And.intro (by intro _ h; cases h; done) ?_))
    refine ⟨k + 1, by omega, ?_, by omega⟩
    rw [show clausesS t j (k + 1) = clausesS t j k ++ [clS k j] by rw [clausesS, if_neg (by simp [hb])]]
    (refine Weak.ren [(0, 1)] [0] (by simp) (by simp) (by decide) ?_; simp only [stay1, vwL, vw, vwF, sw, St.get, St.look, Fr.get, ↓reduceIte, reduceIte, Nat.reduceEqDiff, Nat.reduceAdd, Nat.reduceBEq, Nat.reduceLT, Nat.reduceLeDiff, exists_eq_left', ne_eq, reduceCtorEq, zR, pureE_rl, rl_snoc, hw])
end Go.Pd

set_option maxRecDepth 20000
namespace Go.Pd
open Go Go.Proofs
open Rs Fm
namespace Fm
theorem clS_ok (u : Nat) : ∀ {k : Nat}, k ≤ 12 → ∀ x ∈ clS u k, litOk 12 x = true
  | 0, _, x, hx => by cases hx
  | k + 1, h, x, hx => by
    unfold clS at hx
    rcases List.mem_append.1 hx with hx | hx
    · exact clS_ok u (by omega) x hx
    · rw [List.mem_singleton] at hx
      rw [litOk_iff]
      split at hx <;> omega
theorem mkB_p (v idx : Nat) : mkB v ((idx : Int) + 1) = v.testBit idx := by
  unfold mkB varI
  rw [if_neg (by omega), decide_eq_true (by omega), show ((idx : Int) + 1 - 1).toNat = idx by omega]; simp
theorem mkB_n (v idx : Nat) : mkB v (-((idx : Int) + 1)) = !v.testBit idx := by
  unfold mkB varI
  rw [if_pos (by omega), decide_eq_false (by omega), show (-(-((idx : Int) + 1)) - 1).toNat = idx by omega]; simp
theorem satC_clS (u v : Nat) : ∀ k, satC v (clS u k) = true ↔ ∃ i, i < k ∧ v.testBit i ≠ u.testBit i
  | 0 => by simp [clS, satC]
  | k + 1 => by
    have ih := satC_clS u v k
    have e : satC v (clS u (k + 1)) = (satC v (clS u k) || (v.testBit k != u.testBit k)) := by
      show (clS u k ++ [_]).any (mkB v) = _
      rw [List.any_append, List.any_cons, List.any_nil, Bool.or_false]
      congr 1
      cases hb : u.testBit k
      · rw [if_neg (by simp), mkB_p]; simp
      · rw [if_pos rfl, mkB_n]; simp
    rw [e, Bool.or_eq_true, ih]
    constructor
    · rintro (⟨i, h1, h2⟩ | h)
      · exact ⟨i, by omega, h2⟩
      · exact ⟨k, by omega, by simpa using h⟩
    · rintro ⟨i, h1, h2⟩
      by_cases hi : i = k
      · subst hi; exact .inr (by simpa using h2)
      · exact .inl ⟨i, by omega, h2⟩
theorem satC_ne {u v m : Nat} (hu : u < 2 ^ m) (hv : v < 2 ^ m) : satC v (clS u m) = decide (v ≠ u) := by
  rw [Bool.eq_iff_iff, satC_clS, decide_eq_true_iff]
  constructor
  · rintro ⟨i, _, h⟩ rfl
    exact h rfl
  · intro h
    refine Classical.byContradiction fun hn => h (Nat.eq_of_testBit_eq fun i => ?_)
    by_cases hi : i < m
    · exact Classical.byContradiction fun hb => hn ⟨i, hi, hb⟩
    · have : 2 ^ m ≤ 2 ^ i := Nat.pow_le_pow_right (by decide) (by omega)
      rw [Nat.testBit_lt_two_pow (Nat.lt_of_lt_of_le hu this), Nat.testBit_lt_two_pow (Nat.lt_of_lt_of_le hv this)]
theorem sat_clauses {t : BitVec 64} {m v : Nat} (hv : v < 2 ^ m) : ∀ K, K ≤ 2 ^ m → satL v (clausesS t m K) = !(decide (v < K) && !t.getLsbD v)
  | 0, _ => by simp [clausesS, satL]
  | K + 1, hK => by
    have ih := sat_clauses (t := t) hv K (by omega)
    unfold clausesS
    cases hb : t.getLsbD K
    · rw [if_neg (by simp)]
      show (clausesS t m K ++ [clS K m]).all (satC v) = _
      rw [List.all_append]
      show (satL v (clausesS t m K) && _) = _
      rw [ih, List.all_cons, List.all_nil, Bool.and_true, satC_ne (by omega) hv]
      by_cases h : v = K
      · subst h; simp [hb]
      · have e : decide (v < K + 1) = decide (v < K) := by rw [Bool.eq_iff_iff]; simp; omega
        rw [e]; simp [h]
    · rw [if_pos rfl, ih]
      by_cases h : v = K
      · subst h; simp [hb]
      · have e : decide (v < K + 1) = decide (v < K) := by rw [Bool.eq_iff_iff]; simp; omega
        rw [e]
theorem clauses_mem {t : BitVec 64} {m : Nat} : ∀ {K : Nat} {c : List Int}, c ∈ clausesS t m K → ∃ u, c = clS u m
  | 0, c, h => by cases h
  | K + 1, c, h => by
    unfold clausesS at h
    split at h
    · exact clauses_mem h
    · rcases List.mem_append.1 h with h | h
      · exact clauses_mem h
      · exact ⟨K, by simpa using h⟩
end Fm
theorem resolutionTables_runs (f : List Nd) (n : Int) : Runs Try.prog 11 [.sl 6 (ndR f), .int .i64 n] (.bool true) := by
  refine CallT.go_fn mixed Try.func11 k11 (by simp) fun hf => ?_
  by_cases h1 : 24 < f.length
  · have h1' : (24 : Int) < (f.length : Int) := by omega
    simp only [Int.reduceToNat, Int.reduceLT, Int.reduceLE, Int.reduceBEq, Int.reduceBNe, St0, argFr, ↓thenW, ↓blockW, ↓opX, ↓opV, ↓pX, ↓pW, ↓putK, ↓putP, ↓atK, ↓normK, ↓postZ, ↓reduceIte, reduceIte, Nat.reduceEqDiff, Nat.reduceAdd, Nat.reduceBEq, Nat.reduceLT, Nat.reduceLeDiff, binW, bodyQ, ressW, resW, ne_eq, forall_const, reduceCtorEq, implies_true, sets, oneAll, setD, rels, fillE, fillD, List.replicate, rowsOf, forall_eq, Nat.reduceMul, ↓zD, zT, ndR_len, h1']
    refine .go awakeT ?_
    simp only [Int.reduceToNat, Int.reduceLT, Int.reduceLE, Int.reduceBEq, Int.reduceBNe, St0, argFr, ↓thenW, ↓blockW, ↓opX, ↓opV, ↓pX, ↓pW, ↓putK, ↓putP, ↓atK, ↓normK, ↓postZ, ↓reduceIte, reduceIte, Nat.reduceEqDiff, Nat.reduceAdd, Nat.reduceBEq, Nat.reduceLT, Nat.reduceLeDiff, binW, bodyQ, ressW, resW, ne_eq, forall_const, reduceCtorEq, implies_true, sets, oneAll, setD, rels, fillE, fillD, List.replicate, rowsOf, forall_eq, Nat.reduceMul, ↓zD, zT]
    exact .same
  have h1' : ¬ (24 : Int) < (f.length : Int) := by omega
  simp only [Int.reduceToNat, Int.reduceLT, Int.reduceLE, Int.reduceBEq, Int.reduceBNe, St0, argFr, ↓thenW, ↓blockW, ↓opX, ↓opV, ↓pX, ↓pW, ↓putK, ↓putP, ↓atK, ↓normK, ↓postZ, ↓reduceIte, reduceIte, Nat.reduceEqDiff, Nat.reduceAdd, Nat.reduceBEq, Nat.reduceLT, Nat.reduceLeDiff, binW, bodyQ, ressW, resW, ne_eq, forall_const, reduceCtorEq, implies_true, sets, oneAll, setD, rels, fillE, fillD, List.replicate, rowsOf, forall_eq, Nat.reduceMul, ↓zD, zT, ndR_len, h1']
  refine .go (CallT.of_runs (Clauses33 f n) (by simp [D.isPureL, D.isPure])) ?_
  simp only [Int.reduceToNat, Int.reduceLT, Int.reduceLE, Int.reduceBEq, Int.reduceBNe, St0, argFr, ↓thenW, ↓blockW, ↓opX, ↓opV, ↓pX, ↓pW, ↓putK, ↓putP, ↓atK, ↓normK, ↓postZ, ↓reduceIte, reduceIte, Nat.reduceEqDiff, Nat.reduceAdd, Nat.reduceBEq, Nat.reduceLT, Nat.reduceLeDiff, binW, bodyQ, ressW, resW, ne_eq, forall_const, reduceCtorEq, implies_true, sets, oneAll, setD, rels, fillE, fillD, List.replicate, rowsOf, forall_eq, Nat.reduceMul, ↓zD, zT]
  refine .go (CallT.of_runs (Table34 f n) (by simp [D.isPureL, D.isPure])) ?_
  by_cases hc : (tableA f n).2 = 0
  case neg =>
    have ea : clausesA f n = ([], (tableA f n).2) := if_pos hc
    have e : ((tableA f n).2 != 0) = true := by simpa using hc
    have e0 : ((tableA f n).2 != (tableA f n).2) = false := by simp
    have e1 : ((tableA f n).2 == (tableA f n).2) = true := by simp
    have e2 : rl [] = [] := rfl
    rw [ea]
    simp only [Int.reduceToNat, Int.reduceLT, Int.reduceLE, Int.reduceBEq, Int.reduceBNe, St0, argFr, ↓thenW, ↓blockW, ↓opX, ↓opV, ↓pX, ↓pW, ↓putK, ↓putP, ↓atK, ↓normK, ↓postZ, ↓reduceIte, reduceIte, Nat.reduceEqDiff, Nat.reduceAdd, Nat.reduceBEq, Nat.reduceLT, Nat.reduceLeDiff, binW, bodyQ, ressW, resW, ne_eq, forall_const, reduceCtorEq, implies_true, sets, oneAll, setD, rels, fillE, fillD, List.replicate, rowsOf, forall_eq, Nat.reduceMul, ↓zD, zT, e, e0, e1, e2]
    refine .go awakeT ?_
    simp only [Int.reduceToNat, Int.reduceLT, Int.reduceLE, Int.reduceBEq, Int.reduceBNe, St0, argFr, ↓thenW, ↓blockW, ↓opX, ↓opV, ↓pX, ↓pW, ↓putK, ↓putP, ↓atK, ↓normK, ↓postZ, ↓reduceIte, reduceIte, Nat.reduceEqDiff, Nat.reduceAdd, Nat.reduceBEq, Nat.reduceLT, Nat.reduceLeDiff, binW, bodyQ, ressW, resW, ne_eq, forall_const, reduceCtorEq, implies_true, sets, oneAll, setD, rels, fillE, fillD, List.replicate, rowsOf, forall_eq, Nat.reduceMul, ↓zD, zT]
    exact .same
  obtain ⟨m, rfl, hm⟩ := table_zero hc
  have ea : clausesA f m = (clausesS (tableA f m).1 m (2 ^ m), 0) := by rw [clausesA, if_neg (by simpa using hc), Int.toNat_natCast]
  rw [ea, hc]
  generalize (tableA f m).1 = t
  have h64 : 2 ^ m ≤ 2 ^ 6 := Nat.pow_le_pow_right (by decide) hm
  have hlen := clausesS_len t m (2 ^ m)
  have hmem := @clauses_mem t m (2 ^ m)
  have hsat := fun v hv => sat_clauses (t := t) (v := v) hv (2 ^ m) (Nat.le_refl _)
  generalize clausesS t m (2 ^ m) = l at hlen hmem hsat
  have h3 : ¬ (m : Int) < 0 := by omega
  have h4 : ¬ (6 : Int) < (m : Int) := by omega
  have h5 : ¬ (64 : Int) < (l.length : Int) := by omega
  simp only [Int.reduceToNat, Int.reduceLT, Int.reduceLE, Int.reduceBEq, Int.reduceBNe, St0, argFr, ↓thenW, ↓blockW, ↓opX, ↓opV, ↓pX, ↓pW, ↓putK, ↓putP, ↓atK, ↓normK, ↓postZ, ↓reduceIte, reduceIte, Nat.reduceEqDiff, Nat.reduceAdd, Nat.reduceBEq, Nat.reduceLT, Nat.reduceLeDiff, binW, bodyQ, ressW, resW, ne_eq, forall_const, reduceCtorEq, implies_true, sets, oneAll, setD, rels, fillE, fillD, List.replicate, rowsOf, forall_eq, Nat.reduceMul, ↓zD, zT, h3, h4, rl_len, h5, convN (show m ≤ 1000000 by omega), shlN (show m ≤ 61 by omega)]
  (repeat (first | refine And.intro (by omega) ?_ | refine And.intro (ui_nonneg _) ?_ | refine And.intro (Int.natCast_nonneg _) ?_ | refine And.intro rfl ?_ | refine And.intro (rows_one' _ _) ?_ | refine And.intro (us_one _) ?_ | refine And.intro (by intro _ h; cases h; done) ?_))
  refine wpS_loop (fun v : Nat => [(61, .int .i64 v), (60, .int .i64 ((2 ^ m : Nat) : Int)), (7, .int .u64 (ui t)), (5, .sl 1 (rl l))]) (fun _ => ⟨0, []⟩) (fun v => v ≤ 2 ^ m) (fun v => 2 ^ m - v) 0 (Nat.zero_le _) ?_ ?_
  · (refine Weak.same ?_; simp [sameF, Fr.get])
  intro v hv2
  refine wpS_go mixed ?_
  by_cases hvl : v < 2 ^ m
  case neg =>
    have hd : ¬ ((v : Int) < ((2 ^ m : Nat) : Int)) := by omega
    simp only [Int.reduceToNat, Int.reduceLT, Int.reduceLE, Int.reduceBEq, Int.reduceBNe, St0, argFr, ↓thenW, ↓blockW, ↓opX, ↓opV, ↓pX, ↓pW, ↓putK, ↓putP, ↓atK, ↓normK, ↓postZ, ↓reduceIte, reduceIte, Nat.reduceEqDiff, Nat.reduceAdd, Nat.reduceBEq, Nat.reduceLT, Nat.reduceLeDiff, binW, bodyQ, ressW, resW, ne_eq, forall_const, reduceCtorEq, implies_true, sets, oneAll, setD, rels, fillE, fillD, List.replicate, rowsOf, forall_eq, Nat.reduceMul, ↓zD, zT, hd]
    refine .go awakeT ?_
    simp only [Int.reduceToNat, Int.reduceLT, Int.reduceLE, Int.reduceBEq, Int.reduceBNe, St0, argFr, ↓thenW, ↓blockW, ↓opX, ↓opV, ↓pX, ↓pW, ↓putK, ↓putP, ↓atK, ↓normK, ↓postZ, ↓reduceIte, reduceIte, Nat.reduceEqDiff, Nat.reduceAdd, Nat.reduceBEq, Nat.reduceLT, Nat.reduceLeDiff, binW, bodyQ, ressW, resW, ne_eq, forall_const, reduceCtorEq, implies_true, sets, oneAll, setD, rels, fillE, fillD, List.replicate, rowsOf, forall_eq, Nat.reduceMul, ↓zD, zT]
    exact .same
  have hd : ((v : Int) < ((2 ^ m : Nat) : Int)) := by omega
  have hw : IntKind.i64.wrap ((v : Int) + 1) = ((v + 1 : Nat) : Int) := wrap_i64 (by omega)
  simp only [Int.reduceToNat, Int.reduceLT, Int.reduceLE, Int.reduceBEq, Int.reduceBNe, St0, argFr, ↓thenW, ↓blockW, ↓opX, ↓opV, ↓pX, ↓pW, ↓putK, ↓putP, ↓atK, ↓normK, ↓postZ, ↓reduceIte, reduceIte, Nat.reduceEqDiff, Nat.reduceAdd, Nat.reduceBEq, Nat.reduceLT, Nat.reduceLeDiff, binW, bodyQ, ressW, resW, ne_eq, forall_const, reduceCtorEq, implies_true, sets, oneAll, setD, rels, fillE, fillD, List.replicate, rowsOf, forall_eq, Nat.reduceMul, ↓zD, zT, hd, rl_len]
  refine wpS_loop (fun k : Nat => [(66, .int .i64 k), (65, .int .i64 l.length), (64, .sl 1 (rl l)), (61, .int .i64 v), (60, .int .i64 ((2 ^ m : Nat) : Int)), (10, .bool (satL v (l.take k))), (9, .int .i64 v), (7, .int .u64 (ui t)), (5, .sl 1 (rl l))]) (fun _ => ⟨0, []⟩) (fun k => k ≤ l.length) (fun k => l.length - k) 0 (Nat.zero_le _) ?_ ?_
  · (refine Weak.same ?_; simp [sameF, Fr.get, satL])
  intro k hk
  refine wpS_go mixed ?_
  have hwk : IntKind.i64.wrap ((k : Int) + 1) = ((k + 1 : Nat) : Int) := wrap_i64 (by omega)
  by_cases hkl2 : k < l.length
  · have hd2 : ((k : Int) < (l.length : Int)) := by omega
    have hs := satL_snoc (v := v) hkl2
    obtain ⟨u, hu⟩ := hmem (getD_mem (d := []) hkl2)
    have hcl := clS_len u m
    have hck := clS_ok u (k := m) (by omega)
    rw [← hu] at hcl hck
    cases ha : satL v (l.take k)
    · rw [ha, Bool.false_and] at hs
      simp only [Int.reduceToNat, Int.reduceLT, Int.reduceLE, Int.reduceBEq, Int.reduceBNe, St0, argFr, ↓thenW, ↓blockW, ↓opX, ↓opV, ↓pX, ↓pW, ↓putK, ↓putP, ↓atK, ↓normK, ↓postZ, ↓reduceIte, reduceIte, Nat.reduceEqDiff, Nat.reduceAdd, Nat.reduceBEq, Nat.reduceLT, Nat.reduceLeDiff, binW, bodyQ, ressW, resW, ne_eq, forall_const, reduceCtorEq, implies_true, sets, oneAll, setD, rels, fillE, fillD, List.replicate, rowsOf, forall_eq, Nat.reduceMul, ↓zD, zT, hd2, rl_len, rl_get l hkl2]
      (repeat (first | refine And.intro (by omega) ?_ | refine And.intro (ui_nonneg _) ?_ | refine And.intro (Int.natCast_nonneg _) ?_ | refine And.intro rfl ?_ | refine And.intro (rows_one' _ _) ?_ | refine And.intro (us_one _) ?_ | refine And.intro (by intro _ h; cases h; done) ?_))
      refine ⟨k + 1, by omega, ?_, by omega⟩
      rw [hs]
      (refine Weak.same ?_; simp only [sameF, Fr.get, ↓reduceIte, reduceIte, Nat.reduceEqDiff, reduceCtorEq, D.int.injEq, D.bool.injEq, D.sl.injEq, and_true, true_and, and_self])
      exact hwk
    · rw [ha, Bool.true_and] at hs
      simp only [Int.reduceToNat, Int.reduceLT, Int.reduceLE, Int.reduceBEq, Int.reduceBNe, St0, argFr, ↓thenW, ↓blockW, ↓opX, ↓opV, ↓pX, ↓pW, ↓putK, ↓putP, ↓atK, ↓normK, ↓postZ, ↓reduceIte, reduceIte, Nat.reduceEqDiff, Nat.reduceAdd, Nat.reduceBEq, Nat.reduceLT, Nat.reduceLeDiff, binW, bodyQ, ressW, resW, ne_eq, forall_const, reduceCtorEq, implies_true, sets, oneAll, setD, rels, fillE, fillD, List.replicate, rowsOf, forall_eq, Nat.reduceMul, ↓zD, zT, hd2, rl_len, rl_get l hkl2]
      (repeat (first | refine And.intro (by omega) ?_ | refine And.intro (ui_nonneg _) ?_ | refine And.intro (Int.natCast_nonneg _) ?_ | refine And.intro rfl ?_ | refine And.intro (rows_one' _ _) ?_ | refine And.intro (us_one _) ?_ | refine And.intro (by intro _ h; cases h; done) ?_))
      refine .go (CallT.of_runs (satisfied25 (v := v) (by omega) (by omega) hck) (by simp [D.isPureL, D.isPure])) ?_
      simp only [Int.reduceToNat, Int.reduceLT, Int.reduceLE, Int.reduceBEq, Int.reduceBNe, St0, argFr, ↓thenW, ↓blockW, ↓opX, ↓opV, ↓pX, ↓pW, ↓putK, ↓putP, ↓atK, ↓normK, ↓postZ, ↓reduceIte, reduceIte, Nat.reduceEqDiff, Nat.reduceAdd, Nat.reduceBEq, Nat.reduceLT, Nat.reduceLeDiff, binW, bodyQ, ressW, resW, ne_eq, forall_const, reduceCtorEq, implies_true, sets, oneAll, setD, rels, fillE, fillD, List.replicate, rowsOf, forall_eq, Nat.reduceMul, ↓zD, zT]
      refine ⟨k + 1, by omega, ?_, by omega⟩
      rw [hs]
      (refine Weak.same ?_; simp only [sameF, Fr.get, ↓reduceIte, reduceIte, Nat.reduceEqDiff, reduceCtorEq, D.int.injEq, D.bool.injEq, D.sl.injEq, and_true, true_and, and_self])
      exact hwk
  have hd2 : ¬ ((k : Int) < (l.length : Int)) := by omega
  have hb : satL v l = t.getLsbD v := by
    rw [hsat v hvl]
    simp [hvl]
  rw [take_all (show k = l.length by omega), hb]
  have hx : ∀ b : Bool, (b != b) = false := by intro b; cases b <;> rfl
  simp only [Int.reduceToNat, Int.reduceLT, Int.reduceLE, Int.reduceBEq, Int.reduceBNe, St0, argFr, ↓thenW, ↓blockW, ↓opX, ↓opV, ↓pX, ↓pW, ↓putK, ↓putP, ↓atK, ↓normK, ↓postZ, ↓reduceIte, reduceIte, Nat.reduceEqDiff, Nat.reduceAdd, Nat.reduceBEq, Nat.reduceLT, Nat.reduceLeDiff, binW, bodyQ, ressW, resW, ne_eq, forall_const, reduceCtorEq, implies_true, sets, oneAll, setD, rels, fillE, fillD, List.replicate, rowsOf, forall_eq, Nat.reduceMul, ↓zD, zT, hd2, convN (show v ≤ 1000000 by omega), bit_and1_eq, hx]
  (repeat (first | refine And.intro (by omega) ?_ | refine And.intro (ui_nonneg _) ?_ | refine And.intro (Int.natCast_nonneg _) ?_ | refine And.intro rfl ?_ | refine And.intro (rows_one' _ _) ?_ | refine And.intro (us_one _) ?_ | refine And.intro (by intro _ h; cases h; done) ?_))
  refine ⟨v + 1, by omega, ?_, by omega⟩
  (refine Weak.same ?_; simp only [sameF, Fr.get, ↓reduceIte, reduceIte, Nat.reduceEqDiff, reduceCtorEq, D.int.injEq, D.bool.injEq, D.sl.injEq, and_true, true_and, and_self])
  exact hw
end Go.Pd
