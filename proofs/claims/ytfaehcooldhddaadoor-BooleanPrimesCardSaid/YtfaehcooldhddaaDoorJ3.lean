/- Boolean: the reference's implicants; the law Primes. -/
import Derived.Test.YtfaehcooldhddaaDoorJ2
set_option linter.unusedSectionVars false
set_option linter.unusedVariables false
set_option linter.unusedSimpArgs false
set_option linter.defProp false
set_option maxRecDepth 20000
namespace Go.Pd
open Go Go.Proofs
open Rs Fm
namespace Fm
/-- The primes ahead of a cube, in order. -/
def rowN (t : BitVec 64) (n c k : Nat) : List (Nat × Nat) := ((List.range k).filter fun v => primeB t n (c, v)).map fun v => (c, v)
def headN (t : BitVec 64) (n c : Nat) : List (Nat × Nat) := (List.range c).flatMap fun c => rowN t n c (2 ^ n)
theorem headN_all (t : BitVec 64) (n : Nat) : headN t n (2 ^ n) = primesN t n := rfl
theorem headN_succ (t : BitVec 64) (n c : Nat) : headN t n (c + 1) = headN t n c ++ rowN t n c (2 ^ n) := by simp [headN, List.range_succ]
theorem rowN_succ (t : BitVec 64) (n c k : Nat) : rowN t n c (k + 1) = if primeB t n (c, k) = true then rowN t n c k ++ [(c, k)] else rowN t n c k := by
  unfold rowN
  rw [List.range_succ, List.filter_append, List.map_append]
  split
  · rename_i h; simp [h]
  · rename_i h; simp [h]
theorem rowN_len (t : BitVec 64) (n c : Nat) : ∀ k, (rowN t n c k).length ≤ k
  | 0 => by simp [rowN]
  | k + 1 => by
    have := rowN_len t n c k
    rw [rowN_succ]
    split
    · rw [List.length_append, List.length_singleton]; omega
    · omega
theorem headN_len (t : BitVec 64) (n : Nat) : ∀ c, (headN t n c).length ≤ c * 2 ^ n
  | 0 => by simp [headN]
  | c + 1 => by
    have h1 := headN_len t n c
    have h2 := rowN_len t n c (2 ^ n)
    rw [headN_succ, List.length_append, Nat.succ_mul]
    omega
/-- Is it prime, as far as the first bits say? -/
def primeTo (t : BitVec 64) (n c v : Nat) : Nat → Bool
  | 0 => true
  | i + 1 => if c.testBit i = true ∧ insideB t n (clr c i) (clr v i) = true then false else primeTo t n c v i
theorem primeTo_iff {t : BitVec 64} {n c v : Nat} : ∀ {k}, primeTo t n c v k = true ↔ ∀ i, i < k → ¬ (c.testBit i = true ∧ insideB t n (clr c i) (clr v i) = true)
  | 0 => by simp [primeTo]
  | k + 1 => by
    have ih := primeTo_iff (t := t) (n := n) (c := c) (v := v) (k := k)
    unfold primeTo
    split
    · rename_i h
      exact ⟨fun h => by simp at h, fun h2 => absurd h (h2 k (by omega))⟩
    · rename_i h
      rw [ih]
      refine ⟨fun h2 i hi => ?_, fun h2 i hi => h2 i (by omega)⟩
      by_cases e : i = k
      · rw [e]; exact h
      · exact h2 i (by omega)
theorem prime_to {t : BitVec 64} {n c v : Nat} (hn : n ≤ 6) (hc : c < 2 ^ n) (hv : v &&& c = v) (hi : insideB t n c v = true) : primeB t n (c, v) = primeTo t n c v n := by
  have h64 := two64 hn
  have hcube : cubeB t n (c, v) = true := by unfold cubeB; simp [hc, hv, hi]
  have hcb : ∀ b, cubeB t n (clr c b, clr v b) = insideB t n (clr c b) (clr v b) := fun b => by
    unfold cubeB
    simp only
    rw [decide_eq_true (clr_lt hc), decide_eq_true (clr_sub hv)]; rfl
  rw [Bool.eq_iff_iff, prime_iff, primeTo_iff]
  constructor
  · rintro ⟨_, h⟩ i hi2 ⟨h1, h2⟩
    have := h i (bit_lt6 (by omega) h1) h1
    simp only at this
    rw [hcb, h2] at this; cases this
  · intro h
    refine ⟨hcube, fun b hb h1 => ?_⟩
    simp only at h1 ⊢
    rw [hcb]
    by_cases hbn : b < n
    · cases hib : insideB t n (clr c b) (clr v b)
      · rfl
      · exact absurd ⟨h1, hib⟩ (h b hbn)
    · rw [hi_bit hc (by omega)] at h1; cases h1
theorem prime_not {t : BitVec 64} {n c v : Nat} (h : ¬ (v &&& c = v ∧ insideB t n c v = true)) : primeB t n (c, v) = false := by
  cases hp : primeB t n (c, v)
  · rfl
  · obtain ⟨_, h2, _⟩ := cube_iff.1 (prime_iff.1 hp).1
    have h3 := (prime_iff.1 hp).1
    unfold cubeB at h3
    simp only [Bool.and_eq_true] at h3
    exact absurd ⟨h2, h3.2⟩ h
theorem and_two (c i : Nat) : c &&& 2 ^ i = if c.testBit i = true then 2 ^ i else 0 := by
  refine Nat.eq_of_testBit_eq fun j => ?_
  rw [Nat.testBit_and, Nat.testBit_two_pow]
  by_cases e : i = j
  · subst e
    cases h : c.testBit i <;> simp
  · split <;> simp [e, Nat.testBit_two_pow]
theorem and_pow (c i : Nat) : (((c &&& 2 ^ i : Nat) : Int) != 0) = c.testBit i := by
  rw [and_two]
  cases h : c.testBit i
  · simp
  · have : 0 < 2 ^ i := Nat.two_pow_pos i
    rw [if_pos rfl, bne_iff_ne]
    omega
end Fm
theorem refImplicants20 (t : BitVec 64) (n : Int) : Runs Tryd.prog 20 [.int .u64 (ui t), .int .i64 n] (.tup [.sl 2 (prR (implA t n).1), .int .i64 (implA t n).2]) := by
  refine CallT.go_fn mixed Tryd.func20 k20 (by simp) fun hf => ?_
  simp only [Int.reduceToNat, Int.reduceLT, Int.reduceLE, Int.reduceBEq, Int.reduceBNe, St0, argFr, ↓thenW, ↓blockW, ↓opX, ↓opV, ↓pX, ↓pW, ↓putK, ↓putP, ↓atK, ↓normK, ↓postZ, ↓reduceIte, reduceIte, Nat.reduceEqDiff, Nat.reduceAdd, Nat.reduceBEq, Nat.reduceLT, Nat.reduceLeDiff, binW, bodyQ, ressW, resW, ne_eq, forall_const, reduceCtorEq, implies_true, sets, oneAll, setD, rels, fillE, fillD, List.replicate, rowsOf, forall_eq, Nat.reduceMul, ↓zD, zT]
  refine .go (CallT.of_runs (request56 t n) rfl) ?_
  by_cases hc : tableErr t n = 0
  case neg =>
    have e : (tableErr t n != 0) = true := by simpa using hc
    simp only [Int.reduceToNat, Int.reduceLT, Int.reduceLE, Int.reduceBEq, Int.reduceBNe, St0, argFr, ↓thenW, ↓blockW, ↓opX, ↓opV, ↓pX, ↓pW, ↓putK, ↓putP, ↓atK, ↓normK, ↓postZ, ↓reduceIte, reduceIte, Nat.reduceEqDiff, Nat.reduceAdd, Nat.reduceBEq, Nat.reduceLT, Nat.reduceLeDiff, binW, bodyQ, ressW, resW, ne_eq, forall_const, reduceCtorEq, implies_true, sets, oneAll, setD, rels, fillE, fillD, List.replicate, rowsOf, forall_eq, Nat.reduceMul, ↓zD, zT, e]
    rw [show implA t n = ([], tableErr t n) from if_pos hc]
    exact .drop (by simp) (by simp [vw, vwL, prR])
  have e : (tableErr t n != 0) = false := by simpa using hc
  obtain ⟨m, rfl, hm⟩ : ∃ m : Nat, n = m ∧ m ≤ 6 := by
    unfold tableErr at hc
    by_cases h : n < 0 ∨ 6 < n
    · rw [if_pos h] at hc; cases hc
    · exact ⟨n.toNat, by omega, by omega⟩
  rw [show implA t m = (pairI (primesN t m), 0) by rw [implA, if_neg (by simpa using hc), Int.toNat_natCast]]
  have h64 := two64 hm
  have cn : IntKind.u64.wrap (m : Int) = (m : Int) := convN (by omega)
  have sn := shlN (show m ≤ 61 by omega)
  rw [← headN_all]
  simp only [Int.reduceToNat, Int.reduceLT, Int.reduceLE, Int.reduceBEq, Int.reduceBNe, St0, argFr, ↓thenW, ↓blockW, ↓opX, ↓opV, ↓pX, ↓pW, ↓putK, ↓putP, ↓atK, ↓normK, ↓postZ, ↓reduceIte, reduceIte, Nat.reduceEqDiff, Nat.reduceAdd, Nat.reduceBEq, Nat.reduceLT, Nat.reduceLeDiff, binW, bodyQ, ressW, resW, ne_eq, forall_const, reduceCtorEq, implies_true, sets, oneAll, setD, rels, fillE, fillD, List.replicate, rowsOf, forall_eq, Nat.reduceMul, ↓zD, zT, e]
  refine wpS_loop (fun c : Nat => [(8, .int .i64 c), (7, growD 0 2 (prR (pairI (headN t m c)))), (1, .int .i64 m), (0, .int .u64 (ui t))]) (fun c => ⟨1, growO 0 2 (prR (pairI (headN t m c)))⟩) (fun c => c ≤ 2 ^ m) (fun c => 2 ^ m - c) 0 (Nat.zero_le _) ?_ ?_
  · exact Weak.view (fun k => k) (by simp) (by simp) (by simp [vwF, vw, Fr.get, prR, pairI, growD, headN]) (by simp [stays, prR, pairI, growO, headN]) (by simp [apartNames, prR, pairI, growO, headN])
  intro c hc2
  refine wpS_go mixed ?_
  have hwc : IntKind.i64.wrap ((c : Int) + 1) = ((c + 1 : Nat) : Int) := wrap_i64 (by omega)
  have hhl := headN_len t m c
  have hcm : c * 2 ^ m ≤ 64 * 64 := Nat.mul_le_mul (by omega) h64
  by_cases h : c < 2 ^ m
  case neg =>
    have hd : ¬ ((c : Int) < ((2 ^ m : Nat) : Int)) := by omega
    rw [show c = 2 ^ m by omega]
    rw [show c = 2 ^ m by omega] at hd
    simp only [Int.reduceToNat, Int.reduceLT, Int.reduceLE, Int.reduceBEq, Int.reduceBNe, St0, argFr, ↓thenW, ↓blockW, ↓opX, ↓opV, ↓pX, ↓pW, ↓putK, ↓putP, ↓atK, ↓normK, ↓postZ, ↓reduceIte, reduceIte, Nat.reduceEqDiff, Nat.reduceAdd, Nat.reduceBEq, Nat.reduceLT, Nat.reduceLeDiff, binW, bodyQ, ressW, resW, ne_eq, forall_const, reduceCtorEq, implies_true, sets, oneAll, setD, rels, fillE, fillD, List.replicate, rowsOf, forall_eq, Nat.reduceMul, ↓zD, zT, cn, sn, hd]
    (repeat (first | refine And.intro (by omega) ?_ | refine And.intro (ui_nonneg _) ?_ | refine And.intro (Int.natCast_nonneg _) ?_ | refine And.intro rfl ?_ | refine And.intro (rows_one' _ _) ?_ | refine And.intro (us_one _) ?_ | refine And.intro (by intro _ h; cases h; done) ?_))
    exact .drop (by simp) ⟨rfl, grow_viewL (by simp) (prR_pure _) (by cases prR (pairI (headN t m (2 ^ m))) <;> simp [growO, growG, St.look]), by simp [vw], trivial⟩
  have hd : ((c : Int) < ((2 ^ m : Nat) : Int)) := by omega
  simp only [Int.reduceToNat, Int.reduceLT, Int.reduceLE, Int.reduceBEq, Int.reduceBNe, St0, argFr, ↓thenW, ↓blockW, ↓opX, ↓opV, ↓pX, ↓pW, ↓putK, ↓putP, ↓atK, ↓normK, ↓postZ, ↓reduceIte, reduceIte, Nat.reduceEqDiff, Nat.reduceAdd, Nat.reduceBEq, Nat.reduceLT, Nat.reduceLeDiff, binW, bodyQ, ressW, resW, ne_eq, forall_const, reduceCtorEq, implies_true, sets, oneAll, setD, rels, fillE, fillD, List.replicate, rowsOf, forall_eq, Nat.reduceMul, ↓zD, zT, cn, sn, hd]
  (repeat (first | refine And.intro (by omega) ?_ | refine And.intro (ui_nonneg _) ?_ | refine And.intro (Int.natCast_nonneg _) ?_ | refine And.intro rfl ?_ | refine And.intro (rows_one' _ _) ?_ | refine And.intro (us_one _) ?_ | refine And.intro (by intro _ h; cases h; done) ?_))
  refine wpS_loop (fun v : Nat => [(9, .int .i64 v), (8, .int .i64 c), (7, growD 0 2 (prR (pairI (headN t m c ++ rowN t m c v)))), (1, .int .i64 m), (0, .int .u64 (ui t))]) (fun v => ⟨1, growO 0 2 (prR (pairI (headN t m c ++ rowN t m c v)))⟩) (fun v => v ≤ 2 ^ m) (fun v => 2 ^ m - v) 0 (Nat.zero_le _) ?_ ?_
  · rw [show headN t m c ++ rowN t m c 0 = headN t m c by simp [rowN]]
    (refine Weak.same ?_; simp [sameF, Fr.get])
  intro v hv2
  refine wpS_go mixed ?_
  have hwv : IntKind.i64.wrap ((v : Int) + 1) = ((v + 1 : Nat) : Int) := wrap_i64 (by omega)
  by_cases hv : v < 2 ^ m
  case neg =>
    have hd2 : ¬ ((v : Int) < ((2 ^ m : Nat) : Int)) := by omega
    rw [show v = 2 ^ m by omega, ← headN_succ]
    rw [show v = 2 ^ m by omega] at hd2
    simp only [Int.reduceToNat, Int.reduceLT, Int.reduceLE, Int.reduceBEq, Int.reduceBNe, St0, argFr, ↓thenW, ↓blockW, ↓opX, ↓opV, ↓pX, ↓pW, ↓putK, ↓putP, ↓atK, ↓normK, ↓postZ, ↓reduceIte, reduceIte, Nat.reduceEqDiff, Nat.reduceAdd, Nat.reduceBEq, Nat.reduceLT, Nat.reduceLeDiff, binW, bodyQ, ressW, resW, ne_eq, forall_const, reduceCtorEq, implies_true, sets, oneAll, setD, rels, fillE, fillD, List.replicate, rowsOf, forall_eq, Nat.reduceMul, ↓zD, zT, cn, sn, hd2]
    (repeat (first | refine And.intro (by omega) ?_ | refine And.intro (ui_nonneg _) ?_ | refine And.intro (Int.natCast_nonneg _) ?_ | refine And.intro rfl ?_ | refine And.intro (rows_one' _ _) ?_ | refine And.intro (us_one _) ?_ | refine And.intro (by intro _ h; cases h; done) ?_))
    refine ⟨c + 1, by omega, ?_, by omega⟩
    (refine Weak.same ?_; simp only [sameF, Fr.get, ↓reduceIte, reduceIte, Nat.reduceEqDiff, reduceCtorEq, D.int.injEq, D.bool.injEq, D.sl.injEq, and_true, true_and, and_self])
    exact hwc
  have hd2 : ((v : Int) < ((2 ^ m : Nat) : Int)) := by omega
  have hrow := rowN_succ t m c v
  have hrl := rowN_len t m c v
  have han := andNotAll v (by omega) c (by omega)
  have hol : (headN t m c ++ rowN t m c v).length ≤ 5000 := by rw [List.length_append]; omega
  by_cases hsub : v &&& c = v
  case neg =>
    have e1 : (((v ^^^ (v &&& c) : Nat) : Int) != 0) = true := by
      rw [bne_iff_ne]
      intro h0
      exact hsub (xor_and_zero.1 (by omega))
    rw [prime_not (fun h => hsub h.1), if_neg (by simp)] at hrow
    simp only [Int.reduceToNat, Int.reduceLT, Int.reduceLE, Int.reduceBEq, Int.reduceBNe, St0, argFr, ↓thenW, ↓blockW, ↓opX, ↓opV, ↓pX, ↓pW, ↓putK, ↓putP, ↓atK, ↓normK, ↓postZ, ↓reduceIte, reduceIte, Nat.reduceEqDiff, Nat.reduceAdd, Nat.reduceBEq, Nat.reduceLT, Nat.reduceLeDiff, binW, bodyQ, ressW, resW, ne_eq, forall_const, reduceCtorEq, implies_true, sets, oneAll, setD, rels, fillE, fillD, List.replicate, rowsOf, forall_eq, Nat.reduceMul, ↓zD, zT, cn, sn, hd2, han, e1]
    (repeat (first | refine And.intro (by omega) ?_ | refine And.intro (ui_nonneg _) ?_ | refine And.intro (Int.natCast_nonneg _) ?_ | refine And.intro rfl ?_ | refine And.intro (rows_one' _ _) ?_ | refine And.intro (us_one _) ?_ | refine And.intro (by intro _ h; cases h; done) ?_))
    refine ⟨v + 1, by omega, ?_, by omega⟩
    rw [hrow]
    (refine Weak.same ?_; simp only [sameF, Fr.get, ↓reduceIte, reduceIte, Nat.reduceEqDiff, reduceCtorEq, D.int.injEq, D.bool.injEq, D.sl.injEq, and_true, true_and, and_self])
    exact hwv
  have e1 : (((v ^^^ (v &&& c) : Nat) : Int) != 0) = false := by rw [xor_and_zero.2 hsub]; rfl
  simp only [Int.reduceToNat, Int.reduceLT, Int.reduceLE, Int.reduceBEq, Int.reduceBNe, St0, argFr, ↓thenW, ↓blockW, ↓opX, ↓opV, ↓pX, ↓pW, ↓putK, ↓putP, ↓atK, ↓normK, ↓postZ, ↓reduceIte, reduceIte, Nat.reduceEqDiff, Nat.reduceAdd, Nat.reduceBEq, Nat.reduceLT, Nat.reduceLeDiff, binW, bodyQ, ressW, resW, ne_eq, forall_const, reduceCtorEq, implies_true, sets, oneAll, setD, rels, fillE, fillD, List.replicate, rowsOf, forall_eq, Nat.reduceMul, ↓zD, zT, cn, sn, hd2, han, e1]
  (repeat (first | refine And.intro (by omega) ?_ | refine And.intro (ui_nonneg _) ?_ | refine And.intro (Int.natCast_nonneg _) ?_ | refine And.intro rfl ?_ | refine And.intro (rows_one' _ _) ?_ | refine And.intro (us_one _) ?_ | refine And.intro (by intro _ h; cases h; done) ?_))
  refine .go (CallT.of_runs (inside57 (t := t) hm (show c < 64 by omega) (show v < 64 by omega)) rfl) ?_
  cases hin : insideB t m c v
  · rw [prime_not (fun h => by rw [hin] at h; cases h.2), if_neg (by simp)] at hrow
    simp only [Int.reduceToNat, Int.reduceLT, Int.reduceLE, Int.reduceBEq, Int.reduceBNe, St0, argFr, ↓thenW, ↓blockW, ↓opX, ↓opV, ↓pX, ↓pW, ↓putK, ↓putP, ↓atK, ↓normK, ↓postZ, ↓reduceIte, reduceIte, Nat.reduceEqDiff, Nat.reduceAdd, Nat.reduceBEq, Nat.reduceLT, Nat.reduceLeDiff, binW, bodyQ, ressW, resW, ne_eq, forall_const, reduceCtorEq, implies_true, sets, oneAll, setD, rels, fillE, fillD, List.replicate, rowsOf, forall_eq, Nat.reduceMul, ↓zD, zT]
    refine ⟨v + 1, by omega, ?_, by omega⟩
    rw [hrow]
    (refine Weak.same ?_; simp only [sameF, Fr.get, ↓reduceIte, reduceIte, Nat.reduceEqDiff, reduceCtorEq, D.int.injEq, D.bool.injEq, D.sl.injEq, and_true, true_and, and_self])
    exact hwv
  rw [prime_to hm h hsub hin] at hrow
  simp only [Int.reduceToNat, Int.reduceLT, Int.reduceLE, Int.reduceBEq, Int.reduceBNe, St0, argFr, ↓thenW, ↓blockW, ↓opX, ↓opV, ↓pX, ↓pW, ↓putK, ↓putP, ↓atK, ↓normK, ↓postZ, ↓reduceIte, reduceIte, Nat.reduceEqDiff, Nat.reduceAdd, Nat.reduceBEq, Nat.reduceLT, Nat.reduceLeDiff, binW, bodyQ, ressW, resW, ne_eq, forall_const, reduceCtorEq, implies_true, sets, oneAll, setD, rels, fillE, fillD, List.replicate, rowsOf, forall_eq, Nat.reduceMul, ↓zD, zT]
  generalize hol2 : headN t m c ++ rowN t m c v = o at hol
  refine wpS_loop (fun i : Nat => [(11, .int .i64 i), (10, .bool (primeTo t m c v i)), (9, .int .i64 v), (8, .int .i64 c), (7, growD 0 2 (prR (pairI o))), (1, .int .i64 m), (0, .int .u64 (ui t))]) (fun _ => ⟨1, growO 0 2 (prR (pairI o))⟩) (fun i => i ≤ m) (fun i => m - i) 0 (Nat.zero_le _) ?_ ?_
  · (refine Weak.same ?_; simp [sameF, Fr.get, primeTo])
  intro i hi
  refine wpS_go mixed ?_
  have hwi : IntKind.i64.wrap ((i : Int) + 1) = ((i + 1 : Nat) : Int) := wrap_i64 (by omega)
  by_cases him : i < m
  case neg =>
    have hd3 : ¬ ((i : Int) < (m : Int)) := by omega
    obtain rfl : i = m := by omega
    cases hp : primeTo t i c v i
    · rw [hp, if_neg (by simp)] at hrow
      simp only [Int.reduceToNat, Int.reduceLT, Int.reduceLE, Int.reduceBEq, Int.reduceBNe, St0, argFr, ↓thenW, ↓blockW, ↓opX, ↓opV, ↓pX, ↓pW, ↓putK, ↓putP, ↓atK, ↓normK, ↓postZ, ↓reduceIte, reduceIte, Nat.reduceEqDiff, Nat.reduceAdd, Nat.reduceBEq, Nat.reduceLT, Nat.reduceLeDiff, binW, bodyQ, ressW, resW, ne_eq, forall_const, reduceCtorEq, implies_true, sets, oneAll, setD, rels, fillE, fillD, List.replicate, rowsOf, forall_eq, Nat.reduceMul, ↓zD, zT, hd3]
      refine ⟨v + 1, by omega, ?_, by omega⟩
      rw [hrow, hol2]
      (refine Weak.same ?_; simp only [sameF, Fr.get, ↓reduceIte, reduceIte, Nat.reduceEqDiff, reduceCtorEq, D.int.injEq, D.bool.injEq, D.sl.injEq, and_true, true_and, and_self])
      exact hwv
    · rw [hp, if_pos rfl] at hrow
      simp only [Int.reduceToNat, Int.reduceLT, Int.reduceLE, Int.reduceBEq, Int.reduceBNe, St0, argFr, ↓thenW, ↓blockW, ↓opX, ↓opV, ↓pX, ↓pW, ↓putK, ↓putP, ↓atK, ↓normK, ↓postZ, ↓reduceIte, reduceIte, Nat.reduceEqDiff, Nat.reduceAdd, Nat.reduceBEq, Nat.reduceLT, Nat.reduceLeDiff, binW, bodyQ, ressW, resW, ne_eq, forall_const, reduceCtorEq, implies_true, sets, oneAll, setD, rels, fillE, fillD, List.replicate, rowsOf, forall_eq, Nat.reduceMul, ↓zD, zT, hd3, prR_len, pairI_len]
      (repeat (first | refine And.intro (by omega) ?_ | refine And.intro (ui_nonneg _) ?_ | refine And.intro (Int.natCast_nonneg _) ?_ | refine And.intro rfl ?_ | refine And.intro (rows_one' _ _) ?_ | refine And.intro (us_one _) ?_ | refine And.intro (by intro _ h; cases h; done) ?_))
      refine ⟨v + 1, by omega, ?_, by omega⟩
      rw [hrow, ← List.append_assoc, hol2]
      (refine Weak.ren [(0, 1)] [0] (by simp) (by simp) (by decide) ?_; simp only [stay1, vwL, vw, vwF, sw, St.get, St.look, Fr.get, ↓reduceIte, reduceIte, Nat.reduceEqDiff, Nat.reduceAdd, Nat.reduceBEq, Nat.reduceLT, Nat.reduceLeDiff, exists_eq_left', ne_eq, reduceCtorEq, zR, pureE_prR, prR_snoc, hwv])
  have hd3 : ((i : Int) < (m : Int)) := by omega
  have ci : IntKind.u64.wrap (i : Int) = (i : Int) := convN (by omega)
  have si := shlN (show i ≤ 61 by omega)
  have hb64 : 2 ^ i < 64 := by
    have : 2 ^ i ≤ 2 ^ 5 := Nat.pow_le_pow_right (by decide) (by omega)
    omega
  have ha := andNat c (by omega) (2 ^ i) hb64
  have hp := and_pow c i
  cases hb : c.testBit i
  · rw [hb] at hp
    have hnx : primeTo t m c v (i + 1) = primeTo t m c v i := by rw [primeTo, hb, if_neg (by simp)]
    simp only [Int.reduceToNat, Int.reduceLT, Int.reduceLE, Int.reduceBEq, Int.reduceBNe, St0, argFr, ↓thenW, ↓blockW, ↓opX, ↓opV, ↓pX, ↓pW, ↓putK, ↓putP, ↓atK, ↓normK, ↓postZ, ↓reduceIte, reduceIte, Nat.reduceEqDiff, Nat.reduceAdd, Nat.reduceBEq, Nat.reduceLT, Nat.reduceLeDiff, binW, bodyQ, ressW, resW, ne_eq, forall_const, reduceCtorEq, implies_true, sets, oneAll, setD, rels, fillE, fillD, List.replicate, rowsOf, forall_eq, Nat.reduceMul, ↓zD, zT, hd3, ci, si, ha, hp]
    (repeat (first | refine And.intro (by omega) ?_ | refine And.intro (ui_nonneg _) ?_ | refine And.intro (Int.natCast_nonneg _) ?_ | refine And.intro rfl ?_ | refine And.intro (rows_one' _ _) ?_ | refine And.intro (us_one _) ?_ | refine And.intro (by intro _ h; cases h; done) ?_))
    refine ⟨i + 1, by omega, ?_, by omega⟩
    rw [hnx]
    (refine Weak.same ?_; simp only [sameF, Fr.get, ↓reduceIte, reduceIte, Nat.reduceEqDiff, reduceCtorEq, D.int.injEq, D.bool.injEq, D.sl.injEq, and_true, true_and, and_self])
    exact hwi
  · rw [hb] at hp
    have c1 := andNotNat c (by omega) i (by omega)
    have c2 := andNotNat v (by omega) i (by omega)
    have hlt1 : clr c i < 64 := clr_lt (n := 6) (by omega)
    have hlt2 : clr v i < 64 := clr_lt (n := 6) (by omega)
    simp only [Int.reduceToNat, Int.reduceLT, Int.reduceLE, Int.reduceBEq, Int.reduceBNe, St0, argFr, ↓thenW, ↓blockW, ↓opX, ↓opV, ↓pX, ↓pW, ↓putK, ↓putP, ↓atK, ↓normK, ↓postZ, ↓reduceIte, reduceIte, Nat.reduceEqDiff, Nat.reduceAdd, Nat.reduceBEq, Nat.reduceLT, Nat.reduceLeDiff, binW, bodyQ, ressW, resW, ne_eq, forall_const, reduceCtorEq, implies_true, sets, oneAll, setD, rels, fillE, fillD, List.replicate, rowsOf, forall_eq, Nat.reduceMul, ↓zD, zT, hd3, ci, si, ha, hp, c1, c2]
    (repeat (first | refine And.intro (by omega) ?_ | refine And.intro (ui_nonneg _) ?_ | refine And.intro (Int.natCast_nonneg _) ?_ | refine And.intro rfl ?_ | refine And.intro (rows_one' _ _) ?_ | refine And.intro (us_one _) ?_ | refine And.intro (by intro _ h; cases h; done) ?_))
    refine .go (CallT.of_runs (inside57 (t := t) hm hlt1 hlt2) rfl) ?_
    cases hii : insideB t m (clr c i) (clr v i)
    · have hnx : primeTo t m c v (i + 1) = primeTo t m c v i := by rw [primeTo, hb, hii, if_neg (by simp)]
      simp only [Int.reduceToNat, Int.reduceLT, Int.reduceLE, Int.reduceBEq, Int.reduceBNe, St0, argFr, ↓thenW, ↓blockW, ↓opX, ↓opV, ↓pX, ↓pW, ↓putK, ↓putP, ↓atK, ↓normK, ↓postZ, ↓reduceIte, reduceIte, Nat.reduceEqDiff, Nat.reduceAdd, Nat.reduceBEq, Nat.reduceLT, Nat.reduceLeDiff, binW, bodyQ, ressW, resW, ne_eq, forall_const, reduceCtorEq, implies_true, sets, oneAll, setD, rels, fillE, fillD, List.replicate, rowsOf, forall_eq, Nat.reduceMul, ↓zD, zT]
      refine ⟨i + 1, by omega, ?_, by omega⟩
      rw [hnx]
      (refine Weak.same ?_; simp only [sameF, Fr.get, ↓reduceIte, reduceIte, Nat.reduceEqDiff, reduceCtorEq, D.int.injEq, D.bool.injEq, D.sl.injEq, and_true, true_and, and_self])
      exact hwi
    · have hnx : primeTo t m c v (i + 1) = false := by rw [primeTo, hb, hii, if_pos ⟨rfl, rfl⟩]
      simp only [Int.reduceToNat, Int.reduceLT, Int.reduceLE, Int.reduceBEq, Int.reduceBNe, St0, argFr, ↓thenW, ↓blockW, ↓opX, ↓opV, ↓pX, ↓pW, ↓putK, ↓putP, ↓atK, ↓normK, ↓postZ, ↓reduceIte, reduceIte, Nat.reduceEqDiff, Nat.reduceAdd, Nat.reduceBEq, Nat.reduceLT, Nat.reduceLeDiff, binW, bodyQ, ressW, resW, ne_eq, forall_const, reduceCtorEq, implies_true, sets, oneAll, setD, rels, fillE, fillD, List.replicate, rowsOf, forall_eq, Nat.reduceMul, ↓zD, zT]
      refine ⟨i + 1, by omega, ?_, by omega⟩
      rw [hnx]
      (refine Weak.same ?_; simp only [sameF, Fr.get, ↓reduceIte, reduceIte, Nat.reduceEqDiff, reduceCtorEq, D.int.injEq, D.bool.injEq, D.sl.injEq, and_true, true_and, and_self])
      exact hwi
theorem awakeT {σ : St} : CallT Tryd.prog 11 [] σ (.bool true) σ := CallT.of_runs awake11 rfl
theorem booleanPrimes_runs (t : BitVec 64) (n : Int) : Runs Tryd.prog 6 [.int .u64 (ui t), .int .i64 n] (.bool true) := by
  refine CallT.go_fn mixed Tryd.func6 k6 (by simp) fun hf => ?_
  by_cases h5 : n = 5
  · subst h5
    simp only [Int.reduceToNat, Int.reduceLT, Int.reduceLE, Int.reduceBEq, Int.reduceBNe, St0, argFr, ↓thenW, ↓blockW, ↓opX, ↓opV, ↓pX, ↓pW, ↓putK, ↓putP, ↓atK, ↓normK, ↓postZ, ↓reduceIte, reduceIte, Nat.reduceEqDiff, Nat.reduceAdd, Nat.reduceBEq, Nat.reduceLT, Nat.reduceLeDiff, binW, bodyQ, ressW, resW, ne_eq, forall_const, reduceCtorEq, implies_true, sets, oneAll, setD, rels, fillE, fillD, List.replicate, rowsOf, forall_eq, Nat.reduceMul, ↓zD, zT]
    refine .go awakeT ?_
    simp only [Int.reduceToNat, Int.reduceLT, Int.reduceLE, Int.reduceBEq, Int.reduceBNe, St0, argFr, ↓thenW, ↓blockW, ↓opX, ↓opV, ↓pX, ↓pW, ↓putK, ↓putP, ↓atK, ↓normK, ↓postZ, ↓reduceIte, reduceIte, Nat.reduceEqDiff, Nat.reduceAdd, Nat.reduceBEq, Nat.reduceLT, Nat.reduceLeDiff, binW, bodyQ, ressW, resW, ne_eq, forall_const, reduceCtorEq, implies_true, sets, oneAll, setD, rels, fillE, fillD, List.replicate, rowsOf, forall_eq, Nat.reduceMul, ↓zD, zT]
    exact .same
  have e5 : (n == 5) = false := by simpa using h5
  by_cases h6 : n = 6
  · subst h6
    simp only [Int.reduceToNat, Int.reduceLT, Int.reduceLE, Int.reduceBEq, Int.reduceBNe, St0, argFr, ↓thenW, ↓blockW, ↓opX, ↓opV, ↓pX, ↓pW, ↓putK, ↓putP, ↓atK, ↓normK, ↓postZ, ↓reduceIte, reduceIte, Nat.reduceEqDiff, Nat.reduceAdd, Nat.reduceBEq, Nat.reduceLT, Nat.reduceLeDiff, binW, bodyQ, ressW, resW, ne_eq, forall_const, reduceCtorEq, implies_true, sets, oneAll, setD, rels, fillE, fillD, List.replicate, rowsOf, forall_eq, Nat.reduceMul, ↓zD, zT, e5]
    refine .go awakeT ?_
    simp only [Int.reduceToNat, Int.reduceLT, Int.reduceLE, Int.reduceBEq, Int.reduceBNe, St0, argFr, ↓thenW, ↓blockW, ↓opX, ↓opV, ↓pX, ↓pW, ↓putK, ↓putP, ↓atK, ↓normK, ↓postZ, ↓reduceIte, reduceIte, Nat.reduceEqDiff, Nat.reduceAdd, Nat.reduceBEq, Nat.reduceLT, Nat.reduceLeDiff, binW, bodyQ, ressW, resW, ne_eq, forall_const, reduceCtorEq, implies_true, sets, oneAll, setD, rels, fillE, fillD, List.replicate, rowsOf, forall_eq, Nat.reduceMul, ↓zD, zT]
    exact .same
  have e6 : (n == 6) = false := by simpa using h6
  have hs := SameCubes21 (implA t n).1 (implA t n).1
  rw [decide_eq_true rfl] at hs
  have he : ((implA t n).2 == (implA t n).2) = true := by simp
  simp only [Int.reduceToNat, Int.reduceLT, Int.reduceLE, Int.reduceBEq, Int.reduceBNe, St0, argFr, ↓thenW, ↓blockW, ↓opX, ↓opV, ↓pX, ↓pW, ↓putK, ↓putP, ↓atK, ↓normK, ↓postZ, ↓reduceIte, reduceIte, Nat.reduceEqDiff, Nat.reduceAdd, Nat.reduceBEq, Nat.reduceLT, Nat.reduceLeDiff, binW, bodyQ, ressW, resW, ne_eq, forall_const, reduceCtorEq, implies_true, sets, oneAll, setD, rels, fillE, fillD, List.replicate, rowsOf, forall_eq, Nat.reduceMul, ↓zD, zT, e5, e6]
  refine .go (CallT.of_runs (Implicants19 t n) rfl) ?_
  simp only [Int.reduceToNat, Int.reduceLT, Int.reduceLE, Int.reduceBEq, Int.reduceBNe, St0, argFr, ↓thenW, ↓blockW, ↓opX, ↓opV, ↓pX, ↓pW, ↓putK, ↓putP, ↓atK, ↓normK, ↓postZ, ↓reduceIte, reduceIte, Nat.reduceEqDiff, Nat.reduceAdd, Nat.reduceBEq, Nat.reduceLT, Nat.reduceLeDiff, binW, bodyQ, ressW, resW, ne_eq, forall_const, reduceCtorEq, implies_true, sets, oneAll, setD, rels, fillE, fillD, List.replicate, rowsOf, forall_eq, Nat.reduceMul, ↓zD, zT]
  refine .go (CallT.of_runs (refImplicants20 t n) rfl) ?_
  simp only [Int.reduceToNat, Int.reduceLT, Int.reduceLE, Int.reduceBEq, Int.reduceBNe, St0, argFr, ↓thenW, ↓blockW, ↓opX, ↓opV, ↓pX, ↓pW, ↓putK, ↓putP, ↓atK, ↓normK, ↓postZ, ↓reduceIte, reduceIte, Nat.reduceEqDiff, Nat.reduceAdd, Nat.reduceBEq, Nat.reduceLT, Nat.reduceLeDiff, binW, bodyQ, ressW, resW, ne_eq, forall_const, reduceCtorEq, implies_true, sets, oneAll, setD, rels, fillE, fillD, List.replicate, rowsOf, forall_eq, Nat.reduceMul, ↓zD, zT, he]
  refine .go (CallT.of_runs hs (by simp [D.isPureL, D.isPure])) ?_
  simp only [Int.reduceToNat, Int.reduceLT, Int.reduceLE, Int.reduceBEq, Int.reduceBNe, St0, argFr, ↓thenW, ↓blockW, ↓opX, ↓opV, ↓pX, ↓pW, ↓putK, ↓putP, ↓atK, ↓normK, ↓postZ, ↓reduceIte, reduceIte, Nat.reduceEqDiff, Nat.reduceAdd, Nat.reduceBEq, Nat.reduceLT, Nat.reduceLeDiff, binW, bodyQ, ressW, resW, ne_eq, forall_const, reduceCtorEq, implies_true, sets, oneAll, setD, rels, fillE, fillD, List.replicate, rowsOf, forall_eq, Nat.reduceMul, ↓zD, zT]
  refine .go awakeT ?_
  simp only [Int.reduceToNat, Int.reduceLT, Int.reduceLE, Int.reduceBEq, Int.reduceBNe, St0, argFr, ↓thenW, ↓blockW, ↓opX, ↓opV, ↓pX, ↓pW, ↓putK, ↓putP, ↓atK, ↓normK, ↓postZ, ↓reduceIte, reduceIte, Nat.reduceEqDiff, Nat.reduceAdd, Nat.reduceBEq, Nat.reduceLT, Nat.reduceLeDiff, binW, bodyQ, ressW, resW, ne_eq, forall_const, reduceCtorEq, implies_true, sets, oneAll, setD, rels, fillE, fillD, List.replicate, rowsOf, forall_eq, Nat.reduceMul, ↓zD, zT]
  exact .same
end Go.Pd
