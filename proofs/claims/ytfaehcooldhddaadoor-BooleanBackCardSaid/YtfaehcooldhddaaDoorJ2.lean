/- Boolean: contracts: the reference's implicants; the law Primes. -/
import Derived.Test.YtfaehcooldhddaaDoorJ1
import Derived.Test.YtfaehcooldhddaaDoorCode20
set_option linter.unusedSectionVars false
set_option linter.unusedVariables false
set_option linter.unusedSimpArgs false
set_option linter.defProp false
set_option maxRecDepth 20000
namespace Go.Pd
open Go Go.Proofs
open Rs Fm
theorem bit_and1_eq0 (s : BitVec 64) (w : Nat) : (s >>> w &&& 1#64 == 0#64) = !s.getLsbD w := by
  rw [bit_and1]
  cases s.getLsbD w <;> rfl
theorem andNotAll : ∀ a, a < 64 → ∀ b, b < 64 → bitI .andNot .i64 ((a : Nat) : Int) ((b : Nat) : Int) = ((a ^^^ (a &&& b) : Nat) : Int) := by decide +kernel
namespace Fm
theorem mask_bits : ∀ n, n ≤ 5 → ∀ i, i < 64 → ((1#64 <<< (2 ^ n)) - 1#64).getLsbD i = decide (i < 2 ^ n) := by decide
theorem shr_zero {t : BitVec 64} {n : Nat} (hn : n ≤ 5) : t >>> (2 ^ n) = 0#64 ↔ t &&& ~~~(fullS n) = 0#64 := by
  have hf : fullS n = (1#64 <<< (2 ^ n)) - 1#64 := if_neg (by omega)
  rw [hf]
  constructor
  · intro h
    refine BitVec.eq_of_getLsbD_eq fun i hi => ?_
    rw [BitVec.getLsbD_and, BitVec.getLsbD_not, mask_bits n hn i hi]
    by_cases hl : i < 2 ^ n
    · simp [hl]
    · have := congrArg (fun s => s.getLsbD (i - 2 ^ n)) h
      simp only [BitVec.getLsbD_ushiftRight, BitVec.getLsbD_zero] at this
      rw [show 2 ^ n + (i - 2 ^ n) = i by omega] at this
      rw [this]; simp
  · intro h
    refine BitVec.eq_of_getLsbD_eq fun i hi => ?_
    rw [BitVec.getLsbD_ushiftRight, BitVec.getLsbD_zero]
    by_cases hl : 2 ^ n + i < 64
    · have := congrArg (fun s => s.getLsbD (2 ^ n + i)) h
      simp only [BitVec.getLsbD_and, BitVec.getLsbD_not, mask_bits n hn _ hl, BitVec.getLsbD_zero] at this
      rw [decide_eq_false (show ¬ 2 ^ n + i < 2 ^ n by omega)] at this
      cases hb : t.getLsbD (2 ^ n + i)
      · rfl
      · rw [hb] at this; simp at this; omega
    · exact BitVec.getLsbD_of_ge _ _ (by omega)
theorem xor_and_zero {a b : Nat} : a ^^^ (a &&& b) = 0 ↔ a &&& b = a := by
  constructor
  · intro h
    refine Nat.eq_of_testBit_eq fun i => ?_
    have := bit_at h i
    rw [Nat.testBit_xor, Nat.testBit_and, Nat.zero_testBit] at this
    rw [Nat.testBit_and]
    cases ha : a.testBit i <;> cases hb : b.testBit i <;> simp_all
  · intro h
    rw [h, Nat.xor_self]
end Fm
theorem request56 (t : BitVec 64) (n : Int) : Runs Tryd.prog 56 [.int .u64 (ui t), .int .i64 n] (.int .i64 (tableErr t n)) := by
  refine CallT.go_fn mixed Tryd.func56 k56 (by simp) fun hf => ?_
  by_cases h1 : n < 0
  · simp only [Int.reduceToNat, Int.reduceLT, Int.reduceLE, Int.reduceBEq, Int.reduceBNe, St0, argFr, ↓callZ, ↓midZ, ↓unZ, ↓thenW, ↓blockW, ↓opX, ↓opV, ↓pX, ↓pW, ↓putK, ↓putP, ↓atK, ↓normK, ↓postZ, ↓reduceIte, reduceIte, Nat.reduceEqDiff, Nat.reduceAdd, Nat.reduceBEq, Nat.reduceLT, Nat.reduceLeDiff, binW, bodyQ, ressW, resW, ne_eq, forall_const, reduceCtorEq, implies_true, sets, oneAll, setD, rels, fillE, fillD, List.replicate, rowsOf, forall_eq, Nat.reduceMul, ↓zD, zT, h1]
    rw [show tableErr t n = 2 from if_pos (.inl h1)]
    exact .same
  by_cases h2 : 6 < n
  · simp only [Int.reduceToNat, Int.reduceLT, Int.reduceLE, Int.reduceBEq, Int.reduceBNe, St0, argFr, ↓callZ, ↓midZ, ↓unZ, ↓thenW, ↓blockW, ↓opX, ↓opV, ↓pX, ↓pW, ↓putK, ↓putP, ↓atK, ↓normK, ↓postZ, ↓reduceIte, reduceIte, Nat.reduceEqDiff, Nat.reduceAdd, Nat.reduceBEq, Nat.reduceLT, Nat.reduceLeDiff, binW, bodyQ, ressW, resW, ne_eq, forall_const, reduceCtorEq, implies_true, sets, oneAll, setD, rels, fillE, fillD, List.replicate, rowsOf, forall_eq, Nat.reduceMul, ↓zD, zT, h1, h2]
    rw [show tableErr t n = 2 from if_pos (.inr h2)]
    exact .same
  obtain ⟨m, rfl⟩ := Int.eq_ofNat_of_zero_le (show 0 ≤ n by omega)
  rw [show tableErr t m = if t &&& ~~~(fullS m) ≠ 0#64 then 1 else 0 by unfold tableErr; rw [if_neg (by omega), Int.toNat_natCast]]
  by_cases h6 : m < 6
  case neg =>
    have h6' : ¬ (m : Int) < 6 := by omega
    obtain rfl : m = 6 := by omega
    rw [show (t &&& ~~~(fullS 6)) = 0#64 by rw [show fullS 6 = 18446744073709551615#64 from rfl, show ~~~(18446744073709551615#64) = 0#64 from rfl]; simp, if_neg (by simp)]
    simp only [Int.reduceToNat, Int.reduceLT, Int.reduceLE, Int.reduceBEq, Int.reduceBNe, St0, argFr, ↓callZ, ↓midZ, ↓unZ, ↓thenW, ↓blockW, ↓opX, ↓opV, ↓pX, ↓pW, ↓putK, ↓putP, ↓atK, ↓normK, ↓postZ, ↓reduceIte, reduceIte, Nat.reduceEqDiff, Nat.reduceAdd, Nat.reduceBEq, Nat.reduceLT, Nat.reduceLeDiff, binW, bodyQ, ressW, resW, ne_eq, forall_const, reduceCtorEq, implies_true, sets, oneAll, setD, rels, fillE, fillD, List.replicate, rowsOf, forall_eq, Nat.reduceMul, ↓zD, zT, h1, h2, h6']
    exact .same
  have h6' : (m : Int) < 6 := by omega
  have hp : 2 ^ m ≤ 2 ^ 6 := Nat.pow_le_pow_right (by decide) (by omega)
  have e1 : ui (1#64 <<< m) = ((2 ^ m : Nat) : Int) := uiPow (by omega)
  have hz := shr_zero (t := t) (n := m) (by omega)
  by_cases h3 : t >>> (2 ^ m) = 0#64
  · have e : (t >>> (2 ^ m) != 0#64) = false := by simpa using h3
    rw [if_neg (by simpa using hz.1 h3)]
    simp only [Int.reduceToNat, Int.reduceLT, Int.reduceLE, Int.reduceBEq, Int.reduceBNe, St0, argFr, ↓callZ, ↓midZ, ↓unZ, ↓thenW, ↓blockW, ↓opX, ↓opV, ↓pX, ↓pW, ↓putK, ↓putP, ↓atK, ↓normK, ↓postZ, ↓reduceIte, reduceIte, Nat.reduceEqDiff, Nat.reduceAdd, Nat.reduceBEq, Nat.reduceLT, Nat.reduceLeDiff, binW, bodyQ, ressW, resW, ne_eq, forall_const, reduceCtorEq, implies_true, sets, oneAll, setD, rels, fillE, fillD, List.replicate, rowsOf, forall_eq, Nat.reduceMul, ↓zD, zT, h1, h2, h6', convN (show m ≤ 1000000 by omega), e1, e]
    (repeat refine And.intro (by first | omega | exact ui_nonneg _ | exact Int.natCast_nonneg _ | rfl | exact rows_one' _ _ | exact us_one _ | (intro _ h; cases h; done)) ?_)
    exact .drop (by simp) (by simp [vw])
  · have e : (t >>> (2 ^ m) != 0#64) = true := by simpa using h3
    rw [if_pos (fun h => h3 (hz.2 h))]
    simp only [Int.reduceToNat, Int.reduceLT, Int.reduceLE, Int.reduceBEq, Int.reduceBNe, St0, argFr, ↓callZ, ↓midZ, ↓unZ, ↓thenW, ↓blockW, ↓opX, ↓opV, ↓pX, ↓pW, ↓putK, ↓putP, ↓atK, ↓normK, ↓postZ, ↓reduceIte, reduceIte, Nat.reduceEqDiff, Nat.reduceAdd, Nat.reduceBEq, Nat.reduceLT, Nat.reduceLeDiff, binW, bodyQ, ressW, resW, ne_eq, forall_const, reduceCtorEq, implies_true, sets, oneAll, setD, rels, fillE, fillD, List.replicate, rowsOf, forall_eq, Nat.reduceMul, ↓zD, zT, h1, h2, h6', convN (show m ≤ 1000000 by omega), e1, e]
    (repeat refine And.intro (by first | omega | exact ui_nonneg _ | exact Int.natCast_nonneg _ | rfl | exact rows_one' _ _ | exact us_one _ | (intro _ h; cases h; done)) ?_)
    exact .drop (by simp) (by simp [vw])
theorem inside57 {t : BitVec 64} {n c v : Nat} (hn : n ≤ 6) (hc : c < 64) (hv : v < 64) : Runs Tryd.prog 57 [.int .u64 (ui t), .int .i64 n, .int .i64 c, .int .i64 v] (.bool (insideB t n c v)) := by
  have h64 := two64 hn
  refine CallT.go_fn mixed Tryd.func57 k57 (by simp) fun hf => ?_
  simp only [Int.reduceToNat, Int.reduceLT, Int.reduceLE, Int.reduceBEq, Int.reduceBNe, St0, argFr, ↓callZ, ↓midZ, ↓unZ, ↓thenW, ↓blockW, ↓opX, ↓opV, ↓pX, ↓pW, ↓putK, ↓putP, ↓atK, ↓normK, ↓postZ, ↓reduceIte, reduceIte, Nat.reduceEqDiff, Nat.reduceAdd, Nat.reduceBEq, Nat.reduceLT, Nat.reduceLeDiff, binW, bodyQ, ressW, resW, ne_eq, forall_const, reduceCtorEq, implies_true, sets, oneAll, setD, rels, fillE, fillD, List.replicate, rowsOf, forall_eq, Nat.reduceMul, ↓zD, zT]
  refine wpS_loop (fun k : Nat => [(9, .int .i64 k), (3, .int .i64 v), (2, .int .i64 c), (1, .int .i64 n), (0, .int .u64 (ui t))]) (fun _ => ⟨0, []⟩) (fun k => k ≤ 2 ^ n ∧ ∀ u, u < k → u &&& c = v → t.getLsbD u = true) (fun k => 2 ^ n - k) 0 ⟨Nat.zero_le _, fun u hu => by omega⟩ ?_ ?_
  · (refine Weak.same ?_; simp [sameF, Fr.get])
  intro k ⟨hk, hi⟩
  refine wpS_go mixed ?_
  by_cases h : k < 2 ^ n
  case neg =>
    have hd : ¬ ((k : Int) < ((2 ^ n : Nat) : Int)) := by omega
    have hb : insideB t n c v = true := inside_iff.2 fun u hu => hi u (by omega)
    rw [hb]
    simp only [Int.reduceToNat, Int.reduceLT, Int.reduceLE, Int.reduceBEq, Int.reduceBNe, St0, argFr, ↓callZ, ↓midZ, ↓unZ, ↓thenW, ↓blockW, ↓opX, ↓opV, ↓pX, ↓pW, ↓putK, ↓putP, ↓atK, ↓normK, ↓postZ, ↓reduceIte, reduceIte, Nat.reduceEqDiff, Nat.reduceAdd, Nat.reduceBEq, Nat.reduceLT, Nat.reduceLeDiff, binW, bodyQ, ressW, resW, ne_eq, forall_const, reduceCtorEq, implies_true, sets, oneAll, setD, rels, fillE, fillD, List.replicate, rowsOf, forall_eq, Nat.reduceMul, ↓zD, zT, convN (show n ≤ 1000000 by omega), shlN (show n ≤ 61 by omega), hd]
    (repeat refine And.intro (by first | omega | exact ui_nonneg _ | exact Int.natCast_nonneg _ | rfl | exact rows_one' _ _ | exact us_one _ | (intro _ h; cases h; done)) ?_)
    exact .same
  have hd : ((k : Int) < ((2 ^ n : Nat) : Int)) := by omega
  have hw : IntKind.i64.wrap ((k : Int) + 1) = ((k + 1 : Nat) : Int) := wrap_i64 (by omega)
  have hand := andNat k (by omega) c hc
  by_cases he : k &&& c = v
  · have e1 : (((k &&& c : Nat) : Int) == (v : Int)) = true := by rw [he]; simp
    cases hb : t.getLsbD k
    · have hf : insideB t n c v = false := by
        cases hib : insideB t n c v
        · rfl
        · have := inside_iff.1 hib k h he
          rw [this] at hb; cases hb
      rw [hf]
      simp only [Int.reduceToNat, Int.reduceLT, Int.reduceLE, Int.reduceBEq, Int.reduceBNe, St0, argFr, ↓callZ, ↓midZ, ↓unZ, ↓thenW, ↓blockW, ↓opX, ↓opV, ↓pX, ↓pW, ↓putK, ↓putP, ↓atK, ↓normK, ↓postZ, ↓reduceIte, reduceIte, Nat.reduceEqDiff, Nat.reduceAdd, Nat.reduceBEq, Nat.reduceLT, Nat.reduceLeDiff, binW, bodyQ, ressW, resW, ne_eq, forall_const, reduceCtorEq, implies_true, sets, oneAll, setD, rels, fillE, fillD, List.replicate, rowsOf, forall_eq, Nat.reduceMul, ↓zD, zT, convN (show n ≤ 1000000 by omega), convN (show k ≤ 1000000 by omega), shlN (show n ≤ 61 by omega), hd, hand, e1, bit_and1_eq0, hb]
      (repeat refine And.intro (by first | omega | exact ui_nonneg _ | exact Int.natCast_nonneg _ | rfl | exact rows_one' _ _ | exact us_one _ | (intro _ h; cases h; done)) ?_)
      exact .same
    · simp only [Int.reduceToNat, Int.reduceLT, Int.reduceLE, Int.reduceBEq, Int.reduceBNe, St0, argFr, ↓callZ, ↓midZ, ↓unZ, ↓thenW, ↓blockW, ↓opX, ↓opV, ↓pX, ↓pW, ↓putK, ↓putP, ↓atK, ↓normK, ↓postZ, ↓reduceIte, reduceIte, Nat.reduceEqDiff, Nat.reduceAdd, Nat.reduceBEq, Nat.reduceLT, Nat.reduceLeDiff, binW, bodyQ, ressW, resW, ne_eq, forall_const, reduceCtorEq, implies_true, sets, oneAll, setD, rels, fillE, fillD, List.replicate, rowsOf, forall_eq, Nat.reduceMul, ↓zD, zT, convN (show n ≤ 1000000 by omega), convN (show k ≤ 1000000 by omega), shlN (show n ≤ 61 by omega), hd, hand, e1, bit_and1_eq0, hb]
      (repeat refine And.intro (by first | omega | exact ui_nonneg _ | exact Int.natCast_nonneg _ | rfl | exact rows_one' _ _ | exact us_one _ | (intro _ h; cases h; done)) ?_)
      refine ⟨k + 1, ⟨by omega, fun u hu eu => ?_⟩, ?_, by omega⟩
      · by_cases e : u = k
        · rw [e]; exact hb
        · exact hi u (by omega) eu
      · (refine Weak.same ?_; simp only [sameF, Fr.get, ↓reduceIte, reduceIte, Nat.reduceEqDiff, reduceCtorEq, D.int.injEq, D.bool.injEq, D.sl.injEq, and_true, true_and, and_self])
        exact hw
  · have e1 : (((k &&& c : Nat) : Int) == (v : Int)) = false := by rw [beq_eq_false_iff_ne]; omega
    simp only [Int.reduceToNat, Int.reduceLT, Int.reduceLE, Int.reduceBEq, Int.reduceBNe, St0, argFr, ↓callZ, ↓midZ, ↓unZ, ↓thenW, ↓blockW, ↓opX, ↓opV, ↓pX, ↓pW, ↓putK, ↓putP, ↓atK, ↓normK, ↓postZ, ↓reduceIte, reduceIte, Nat.reduceEqDiff, Nat.reduceAdd, Nat.reduceBEq, Nat.reduceLT, Nat.reduceLeDiff, binW, bodyQ, ressW, resW, ne_eq, forall_const, reduceCtorEq, implies_true, sets, oneAll, setD, rels, fillE, fillD, List.replicate, rowsOf, forall_eq, Nat.reduceMul, ↓zD, zT, convN (show n ≤ 1000000 by omega), shlN (show n ≤ 61 by omega), hd, hand, e1]
    (repeat refine And.intro (by first | omega | exact ui_nonneg _ | exact Int.natCast_nonneg _ | rfl | exact rows_one' _ _ | exact us_one _ | (intro _ h; cases h; done)) ?_)
    refine ⟨k + 1, ⟨by omega, fun u hu eu => ?_⟩, ?_, by omega⟩
    · by_cases e : u = k
      · rw [e] at eu; exact absurd eu he
      · exact hi u (by omega) eu
    · (refine Weak.same ?_; simp only [sameF, Fr.get, ↓reduceIte, reduceIte, Nat.reduceEqDiff, reduceCtorEq, D.int.injEq, D.bool.injEq, D.sl.injEq, and_true, true_and, and_self])
      exact hw
end Go.Pd
