/- Resolution: what several laws share: few, the example, a clause tested at a valuation. -/
import Derived.Test.YtigkaakdjibakaaD7
set_option linter.unusedSectionVars false
set_option linter.unusedVariables false
set_option linter.unusedSimpArgs false
set_option linter.defProp false
set_option maxRecDepth 20000
namespace Go.Pd
open Go Go.Proofs
open Rs
namespace Rs
def fewA (n : Int) (l : List (List Int)) : Bool := if 9 < n ∨ 30 < l.length then false else l.all fun c => decide (c.length ≤ 20)
theorem fewA_true {n : Int} {l : List (List Int)} (h : fewA n l = true) : n ≤ 9 ∧ l.length ≤ 30 ∧ ∀ c ∈ l, c.length ≤ 20 := by
  unfold fewA at h
  by_cases h1 : 9 < n ∨ 30 < l.length
  · rw [if_pos h1] at h; cases h
  · rw [if_neg h1] at h
    simp only [List.all_eq_true, decide_eq_true_eq] at h
    exact ⟨by omega, by omega, h⟩
end Rs
theorem few18 (n : Int) (l : List (List Int)) : Runs Try.prog 18 [.int .i64 n, .sl 1 (rl l)] (.bool (fewA n l)) := by
  refine CallT.go_fn mixed Try.func18 k18 (by simp) fun hf => ?_
  simp only [D.factL, D.fact, rl_len] at hf
  have hlen := hf.2.1.1
  by_cases h1 : 9 < n
  · simp only [Int.reduceToNat, Int.reduceLT, Int.reduceLE, Int.reduceBEq, Int.reduceBNe, St0, argFr, ↓thenW, ↓blockW, ↓opX, ↓opV, ↓pX, ↓pW, ↓putK, ↓putP, ↓atK, ↓normK, ↓postZ, ↓reduceIte, reduceIte, Nat.reduceEqDiff, Nat.reduceAdd, Nat.reduceBEq, Nat.reduceLT, Nat.reduceLeDiff, binW, bodyQ, ressW, resW, ne_eq, forall_const, reduceCtorEq, implies_true, sets, oneAll, setD, rels, fillE, fillD, List.replicate, rowsOf, forall_eq, Nat.reduceMul, ↓zD, zT, h1]
    rw [show fewA n l = false from if_pos (.inl h1)]
    exact .same
  by_cases h2 : 30 < l.length
  · have h2' : (30 : Int) < (l.length : Int) := by omega
    simp only [Int.reduceToNat, Int.reduceLT, Int.reduceLE, Int.reduceBEq, Int.reduceBNe, St0, argFr, ↓thenW, ↓blockW, ↓opX, ↓opV, ↓pX, ↓pW, ↓putK, ↓putP, ↓atK, ↓normK, ↓postZ, ↓reduceIte, reduceIte, Nat.reduceEqDiff, Nat.reduceAdd, Nat.reduceBEq, Nat.reduceLT, Nat.reduceLeDiff, binW, bodyQ, ressW, resW, ne_eq, forall_const, reduceCtorEq, implies_true, sets, oneAll, setD, rels, fillE, fillD, List.replicate, rowsOf, forall_eq, Nat.reduceMul, ↓zD, zT, h1, rl_len, h2']
    rw [show fewA n l = false from if_pos (.inr h2)]
    exact .same
  have h2' : ¬ (30 : Int) < (l.length : Int) := by omega
  rw [show fewA n l = l.all fun c => decide (c.length ≤ 20) from if_neg (by omega)]
  simp only [Int.reduceToNat, Int.reduceLT, Int.reduceLE, Int.reduceBEq, Int.reduceBNe, St0, argFr, ↓thenW, ↓blockW, ↓opX, ↓opV, ↓pX, ↓pW, ↓putK, ↓putP, ↓atK, ↓normK, ↓postZ, ↓reduceIte, reduceIte, Nat.reduceEqDiff, Nat.reduceAdd, Nat.reduceBEq, Nat.reduceLT, Nat.reduceLeDiff, binW, bodyQ, ressW, resW, ne_eq, forall_const, reduceCtorEq, implies_true, sets, oneAll, setD, rels, fillE, fillD, List.replicate, rowsOf, forall_eq, Nat.reduceMul, ↓zD, zT, h1, rl_len, h2']
  refine wpS_loop (fun k : Nat => [(16, .int .i64 k), (15, .int .i64 l.length), (14, .sl 1 (rl l))]) (fun _ => ⟨0, []⟩) (fun k => k ≤ l.length ∧ (l.all fun c => decide (c.length ≤ 20)) = (l.drop k).all fun c => decide (c.length ≤ 20)) (fun k => l.length - k) 0 ⟨Nat.zero_le _, rfl⟩ ?_ ?_
  · (refine Weak.same ?_; simp [sameF, Fr.get])
  intro k ⟨hk, hi⟩
  refine wpS_go mixed ?_
  by_cases h : k < l.length
  · have hd : ((k : Int) < (l.length : Int)) := by omega
    rw [drop_cons (d := []) h, List.all_cons] at hi
    have hget := rl_get l h
    generalize l.getD k [] = c at hi hget
    by_cases h3 : c.length ≤ 20
    · have h3' : ¬ (20 : Int) < (c.length : Int) := by omega
      rw [decide_eq_true h3, Bool.true_and] at hi
      simp only [Int.reduceToNat, Int.reduceLT, Int.reduceLE, Int.reduceBEq, Int.reduceBNe, St0, argFr, ↓thenW, ↓blockW, ↓opX, ↓opV, ↓pX, ↓pW, ↓putK, ↓putP, ↓atK, ↓normK, ↓postZ, ↓reduceIte, reduceIte, Nat.reduceEqDiff, Nat.reduceAdd, Nat.reduceBEq, Nat.reduceLT, Nat.reduceLeDiff, binW, bodyQ, ressW, resW, ne_eq, forall_const, reduceCtorEq, implies_true, sets, oneAll, setD, rels, fillE, fillD, List.replicate, rowsOf, forall_eq, Nat.reduceMul, ↓zD, zT, hd, rl_len, hget, h3']
      (repeat (first | refine And.intro (by omega) ?_ | refine And.intro (ui_nonneg _) ?_ | refine And.intro (Int.natCast_nonneg _) ?_ | refine And.intro rfl ?_ | refine And.intro (rows_one' _ _) ?_ | refine And.intro (us_one _) ?_ | refine And.intro (by intro _ h; cases h; done) ?_))
      refine ⟨k + 1, ⟨by omega, hi⟩, ?_, by omega⟩
      (refine Weak.same ?_; simp only [sameF, Fr.get, ↓reduceIte, reduceIte, Nat.reduceEqDiff, reduceCtorEq, D.int.injEq, D.bool.injEq, D.sl.injEq, and_true, true_and, and_self])
      exact wrap_i64 (by omega)
    · have h3' : (20 : Int) < (c.length : Int) := by omega
      rw [decide_eq_false h3, Bool.false_and] at hi
      simp only [Int.reduceToNat, Int.reduceLT, Int.reduceLE, Int.reduceBEq, Int.reduceBNe, St0, argFr, ↓thenW, ↓blockW, ↓opX, ↓opV, ↓pX, ↓pW, ↓putK, ↓putP, ↓atK, ↓normK, ↓postZ, ↓reduceIte, reduceIte, Nat.reduceEqDiff, Nat.reduceAdd, Nat.reduceBEq, Nat.reduceLT, Nat.reduceLeDiff, binW, bodyQ, ressW, resW, ne_eq, forall_const, reduceCtorEq, implies_true, sets, oneAll, setD, rels, fillE, fillD, List.replicate, rowsOf, forall_eq, Nat.reduceMul, ↓zD, zT, hd, rl_len, hget, h3']
      (repeat (first | refine And.intro (by omega) ?_ | refine And.intro (ui_nonneg _) ?_ | refine And.intro (Int.natCast_nonneg _) ?_ | refine And.intro rfl ?_ | refine And.intro (rows_one' _ _) ?_ | refine And.intro (us_one _) ?_ | refine And.intro (by intro _ h; cases h; done) ?_))
      rw [hi]
      exact .same
  · have hd : ¬ ((k : Int) < (l.length : Int)) := by omega
    rw [List.drop_eq_nil_of_le (by omega), List.all_nil] at hi
    simp only [Int.reduceToNat, Int.reduceLT, Int.reduceLE, Int.reduceBEq, Int.reduceBNe, St0, argFr, ↓thenW, ↓blockW, ↓opX, ↓opV, ↓pX, ↓pW, ↓putK, ↓putP, ↓atK, ↓normK, ↓postZ, ↓reduceIte, reduceIte, Nat.reduceEqDiff, Nat.reduceAdd, Nat.reduceBEq, Nat.reduceLT, Nat.reduceLeDiff, binW, bodyQ, ressW, resW, ne_eq, forall_const, reduceCtorEq, implies_true, sets, oneAll, setD, rels, fillE, fillD, List.replicate, rowsOf, forall_eq, Nat.reduceMul, ↓zD, zT, hd]
    rw [hi]
    exact .same
theorem awakeT {σ : St} : CallT Try.prog 12 [] σ (.bool true) σ := CallT.of_runs awake12 rfl
theorem satisfied25 {v : Nat} {c : List Int} (hv : v < 4096) (hl : c.length ≤ 1000) (h : ∀ x ∈ c, litOk 12 x = true) : Runs Try.prog 25 [.sl 1 (rows .i64 c), .int .i64 v] (.bool (satC v c)) := by
  refine CallT.go_fn mixed Try.func25 k25 (by simp) fun hf => ?_
  simp only [Int.reduceToNat, Int.reduceLT, Int.reduceLE, Int.reduceBEq, Int.reduceBNe, St0, argFr, ↓thenW, ↓blockW, ↓opX, ↓opV, ↓pX, ↓pW, ↓putK, ↓putP, ↓atK, ↓normK, ↓postZ, ↓reduceIte, reduceIte, Nat.reduceEqDiff, Nat.reduceAdd, Nat.reduceBEq, Nat.reduceLT, Nat.reduceLeDiff, binW, bodyQ, ressW, resW, ne_eq, forall_const, reduceCtorEq, implies_true, sets, oneAll, setD, rels, fillE, fillD, List.replicate, rowsOf, forall_eq, Nat.reduceMul, ↓zD, zT]
  refine wpS_loop (fun k : Nat => [(9, .int .i64 k), (8, .int .i64 c.length), (7, .sl 1 (rows .i64 c)), (1, .int .i64 v)]) (fun _ => ⟨0, []⟩) (fun k => k ≤ c.length ∧ satC v c = satC v (c.drop k)) (fun k => c.length - k) 0 ⟨Nat.zero_le _, rfl⟩ ?_ ?_
  · (refine Weak.same ?_; simp [sameF, Fr.get])
  intro k ⟨hk, hi⟩
  refine wpS_go mixed ?_
  by_cases hh : k < c.length
  case neg =>
    have hd : ¬ ((k : Int) < (c.length : Int)) := by omega
    rw [List.drop_eq_nil_of_le (by omega)] at hi
    simp only [Int.reduceToNat, Int.reduceLT, Int.reduceLE, Int.reduceBEq, Int.reduceBNe, St0, argFr, ↓thenW, ↓blockW, ↓opX, ↓opV, ↓pX, ↓pW, ↓putK, ↓putP, ↓atK, ↓normK, ↓postZ, ↓reduceIte, reduceIte, Nat.reduceEqDiff, Nat.reduceAdd, Nat.reduceBEq, Nat.reduceLT, Nat.reduceLeDiff, binW, bodyQ, ressW, resW, ne_eq, forall_const, reduceCtorEq, implies_true, sets, oneAll, setD, rels, fillE, fillD, List.replicate, rowsOf, forall_eq, Nat.reduceMul, ↓zD, zT, hd]
    rw [hi]
    exact .same
  have hd : ((k : Int) < (c.length : Int)) := by omega
  have hx := h _ (getD_mem (d := 0) hh)
  have hget := rows_get .i64 c hh
  have hs : satC v (c.drop k) = (mkB v (c.getD k 0) || satC v (c.drop (k + 1))) := by rw [drop_cons (d := 0) hh]; rfl
  rw [hs] at hi
  generalize c.getD k 0 = x at hx hget hi
  have hxl := litOk_iff.1 hx
  have hr := varI_range hx
  obtain ⟨w, hw⟩ := Int.eq_ofNat_of_zero_le hr.1
  have hmk : mkB v x = (v.testBit w == decide (0 < x)) := by rw [mkB, hw, Int.toNat_natCast]
  by_cases hpos : 0 < x
  · have e1 : IntKind.i64.wrap (x - 1) = (w : Int) := by
      unfold varI at hw
      rw [if_neg (by omega)] at hw
      rw [wrap_i64 (by omega)]; exact hw
    have h20 : x ≤ 20 := by omega
    have hneg : ¬ x < 0 := by omega
    rw [decide_eq_true hpos] at hmk
    cases hb : v.testBit w
    · rw [hmk, hb, show (false == true) = false from rfl, Bool.false_or] at hi
      simp only [Int.reduceToNat, Int.reduceLT, Int.reduceLE, Int.reduceBEq, Int.reduceBNe, St0, argFr, ↓thenW, ↓blockW, ↓opX, ↓opV, ↓pX, ↓pW, ↓putK, ↓putP, ↓atK, ↓normK, ↓postZ, ↓reduceIte, reduceIte, Nat.reduceEqDiff, Nat.reduceAdd, Nat.reduceBEq, Nat.reduceLT, Nat.reduceLeDiff, binW, bodyQ, ressW, resW, ne_eq, forall_const, reduceCtorEq, implies_true, sets, oneAll, setD, rels, fillE, fillD, List.replicate, rowsOf, forall_eq, Nat.reduceMul, ↓zD, zT, hd, hget, hpos, h20, e1, convN (show w ≤ 1000000 by omega), shrNat v w (by omega), and1Nat (div_lt62 (show v < 2 ^ 62 by omega) w), bitNat, hb, hneg]
      (repeat (first | refine And.intro (by omega) ?_ | refine And.intro (ui_nonneg _) ?_ | refine And.intro (Int.natCast_nonneg _) ?_ | refine And.intro rfl ?_ | refine And.intro (rows_one' _ _) ?_ | refine And.intro (us_one _) ?_ | refine And.intro (by intro _ h; cases h; done) ?_))
      refine ⟨k + 1, ⟨by omega, hi⟩, ?_, by omega⟩
      (refine Weak.same ?_; simp only [sameF, Fr.get, ↓reduceIte, reduceIte, Nat.reduceEqDiff, reduceCtorEq, D.int.injEq, D.bool.injEq, D.sl.injEq, and_true, true_and, and_self])
      exact wrap_i64 (by omega)
    · rw [hmk, hb, show (true == true) = true from rfl, Bool.true_or] at hi
      simp only [Int.reduceToNat, Int.reduceLT, Int.reduceLE, Int.reduceBEq, Int.reduceBNe, St0, argFr, ↓thenW, ↓blockW, ↓opX, ↓opV, ↓pX, ↓pW, ↓putK, ↓putP, ↓atK, ↓normK, ↓postZ, ↓reduceIte, reduceIte, Nat.reduceEqDiff, Nat.reduceAdd, Nat.reduceBEq, Nat.reduceLT, Nat.reduceLeDiff, binW, bodyQ, ressW, resW, ne_eq, forall_const, reduceCtorEq, implies_true, sets, oneAll, setD, rels, fillE, fillD, List.replicate, rowsOf, forall_eq, Nat.reduceMul, ↓zD, zT, hd, hget, hpos, h20, e1, convN (show w ≤ 1000000 by omega), shrNat v w (by omega), and1Nat (div_lt62 (show v < 2 ^ 62 by omega) w), bitNat, hb]
      (repeat (first | refine And.intro (by omega) ?_ | refine And.intro (ui_nonneg _) ?_ | refine And.intro (Int.natCast_nonneg _) ?_ | refine And.intro rfl ?_ | refine And.intro (rows_one' _ _) ?_ | refine And.intro (us_one _) ?_ | refine And.intro (by intro _ h; cases h; done) ?_))
      rw [hi]
      exact .same
  · have hneg : x < 0 := by omega
    have e0 : IntKind.i64.wrap (0 - x) = -x := negw (by omega)
    have e1 : IntKind.i64.wrap (-x - 1) = (w : Int) := by
      unfold varI at hw
      rw [if_pos (by omega)] at hw
      rw [wrap_i64 (by omega)]; exact hw
    have h20 : -20 ≤ x := by omega
    rw [decide_eq_false hpos] at hmk
    cases hb : v.testBit w
    · rw [hmk, hb, show (false == false) = true from rfl, Bool.true_or] at hi
      simp only [Int.reduceToNat, Int.reduceLT, Int.reduceLE, Int.reduceBEq, Int.reduceBNe, St0, argFr, ↓thenW, ↓blockW, ↓opX, ↓opV, ↓pX, ↓pW, ↓putK, ↓putP, ↓atK, ↓normK, ↓postZ, ↓reduceIte, reduceIte, Nat.reduceEqDiff, Nat.reduceAdd, Nat.reduceBEq, Nat.reduceLT, Nat.reduceLeDiff, binW, bodyQ, ressW, resW, ne_eq, forall_const, reduceCtorEq, implies_true, sets, oneAll, setD, rels, fillE, fillD, List.replicate, rowsOf, forall_eq, Nat.reduceMul, ↓zD, zT, hd, hget, hpos, h20, e0, e1, convN (show w ≤ 1000000 by omega), shrNat v w (by omega), and1Nat (div_lt62 (show v < 2 ^ 62 by omega) w), bitNat0, hb, hneg]
      (repeat (first | refine And.intro (by omega) ?_ | refine And.intro (ui_nonneg _) ?_ | refine And.intro (Int.natCast_nonneg _) ?_ | refine And.intro rfl ?_ | refine And.intro (rows_one' _ _) ?_ | refine And.intro (us_one _) ?_ | refine And.intro (by intro _ h; cases h; done) ?_))
      rw [hi]
      exact .same
    · rw [hmk, hb, show (true == false) = false from rfl, Bool.false_or] at hi
      simp only [Int.reduceToNat, Int.reduceLT, Int.reduceLE, Int.reduceBEq, Int.reduceBNe, St0, argFr, ↓thenW, ↓blockW, ↓opX, ↓opV, ↓pX, ↓pW, ↓putK, ↓putP, ↓atK, ↓normK, ↓postZ, ↓reduceIte, reduceIte, Nat.reduceEqDiff, Nat.reduceAdd, Nat.reduceBEq, Nat.reduceLT, Nat.reduceLeDiff, binW, bodyQ, ressW, resW, ne_eq, forall_const, reduceCtorEq, implies_true, sets, oneAll, setD, rels, fillE, fillD, List.replicate, rowsOf, forall_eq, Nat.reduceMul, ↓zD, zT, hd, hget, hpos, h20, e0, e1, convN (show w ≤ 1000000 by omega), shrNat v w (by omega), and1Nat (div_lt62 (show v < 2 ^ 62 by omega) w), bitNat0, hb, hneg]
      (repeat (first | refine And.intro (by omega) ?_ | refine And.intro (ui_nonneg _) ?_ | refine And.intro (Int.natCast_nonneg _) ?_ | refine And.intro rfl ?_ | refine And.intro (rows_one' _ _) ?_ | refine And.intro (us_one _) ?_ | refine And.intro (by intro _ h; cases h; done) ?_))
      refine ⟨k + 1, ⟨by omega, hi⟩, ?_, by omega⟩
      (refine Weak.same ?_; simp only [sameF, Fr.get, ↓reduceIte, reduceIte, Nat.reduceEqDiff, reduceCtorEq, D.int.injEq, D.bool.injEq, D.sl.injEq, and_true, true_and, and_self])
      exact wrap_i64 (by omega)
namespace Rs
theorem satL_snoc {v : Nat} {l : List (List Int)} {k : Nat} (h : k < l.length) : satL v (l.take (k + 1)) = (satL v (l.take k) && satC v (l.getD k [])) := by
  unfold satL; rw [take_snoc (d := []) h, List.all_append]; simp
end Rs
end Go.Pd
