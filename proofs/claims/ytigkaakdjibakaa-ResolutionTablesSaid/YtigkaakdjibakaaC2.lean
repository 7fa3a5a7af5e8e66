/- Resolution: contracts: unit propagation as specified. -/
import Derived.Test.YtigkaakdjibakaaC1
set_option linter.unusedSectionVars false
set_option linter.unusedVariables false
set_option linter.unusedSimpArgs false
set_option linter.defProp false
set_option maxRecDepth 20000
namespace Go.Pd
open Go Go.Proofs
open Rs
namespace Rs
theorem freeL_snoc {K c : List Int} {x : Int} : freeL K (c ++ [x]) = freeL K c ++ if -x ∈ K then [] else [x] := by
  unfold freeL negIn
  rw [List.filter_append, List.filter_cons, List.filter_nil]
  by_cases h : -x ∈ K <;> simp [h]
theorem lastI_snoc {l : List Int} {x : Int} : lastI (l ++ [x]) = x := by simp [lastI, List.getLastD_eq_getLast?]
theorem stateA_in {K c : List Int} {x : Int} (hx : x ∈ c) (hk : x ∈ K) : stateA K c = (true, 0, 0) := by
  unfold stateA
  rw [if_pos (List.any_eq_true.2 ⟨x, hx, by simpa using hk⟩)]
theorem stateA_out {K c : List Int} (h : ∀ x ∈ c, x ∉ K) : stateA K c = (false, ((freeL K c).length : Int), lastI (freeL K c)) := by
  unfold stateA
  rw [if_neg]
  simp only [List.any_eq_true, decide_eq_true_eq, not_exists, not_and]
  exact h
def propK (l : List (List Int)) (K : List Int) : List Int := limK l (13 - K.length) K
theorem propK_step {l : List (List Int)} {K : List Int} {u : Int} (hg : good (K ++ [u])) (h : stepK l K = some u) : propK l K = propK l (K ++ [u]) := by
  have hl := good_len hg
  simp only [List.length_append, List.length_singleton] at hl
  unfold propK
  rw [show 13 - K.length = (13 - (K ++ [u]).length) + 1 by simp; omega, limK, h]
theorem propK_stop {l : List (List Int)} {K : List Int} (hg : good K) (h : stepK l K = none) : propK l K = K := by
  have hl := good_len hg
  unfold propK
  rw [show 13 - K.length = (12 - K.length) + 1 by omega, limK, h]
/-- The answer of Propagate. -/
def propA (n : Int) (l : List (List Int)) (g : List Int) : List Int × Int × Int := if checkC n l ≠ 0 then ([], 0, checkC n l) else if normE n (-1) g ≠ 0 then ([], 0, 1) else (canon (propK l g), confR (propK l g) l 0, 0)
theorem stateA_len {K c : List Int} : 0 ≤ (stateA K c).2.1 ∧ (stateA K c).2.1 ≤ c.length := by
  unfold stateA
  split
  · simp
  · have : (freeL K c).length ≤ c.length := List.length_filter_le _ _
    simp; omega
end Rs
theorem state67 {c K : List Int} (hl : c.length ≤ 1000) (h : ∀ x ∈ c, litOk 12 x = true) : Runs Try.prog 67 [.sl 1 (rows .i64 c), .sl 1 (rows .i64 K)] (.tup [.bool (stateA K c).1, .int .i64 (stateA K c).2.1, .int .i64 (stateA K c).2.2]) := by
  refine CallT.go_fn mixed Try.func67 k67 (by simp) fun hf => ?_
  simp only [Int.reduceToNat, Int.reduceLT, Int.reduceLE, Int.reduceBEq, Int.reduceBNe, St0, argFr, ↓thenW, ↓blockW, ↓opX, ↓opV, ↓pX, ↓pW, ↓putK, ↓putP, ↓atK, ↓normK, ↓postZ, ↓reduceIte, reduceIte, Nat.reduceEqDiff, Nat.reduceAdd, Nat.reduceBEq, Nat.reduceLT, Nat.reduceLeDiff, binW, bodyQ, ressW, resW, ne_eq, forall_const, reduceCtorEq, implies_true, sets, oneAll, setD, rels, fillE, fillD, List.replicate, rowsOf, forall_eq, Nat.reduceMul, ↓zD, zT]
  refine wpS_loop (fun k : Nat => [(9, .int .i64 k), (8, .int .i64 (lastI (freeL K (c.take k)))), (7, .int .i64 ((freeL K (c.take k)).length : Int)), (1, .sl 1 (rows .i64 K)), (0, .sl 1 (rows .i64 c))]) (fun _ => ⟨0, []⟩) (fun k => k ≤ c.length ∧ ∀ x ∈ c.take k, x ∉ K) (fun k => c.length - k) 0 ⟨Nat.zero_le _, by simp⟩ ?_ ?_
  · (refine Weak.same ?_; simp only [sameF, Fr.get, ↓reduceIte, reduceIte, Nat.reduceEqDiff, reduceCtorEq, D.int.injEq, D.bool.injEq, D.sl.injEq, and_true, true_and, and_self, List.take_zero])
    exact ⟨rfl, rfl, rfl⟩
  intro k ⟨hk, hi⟩
  refine wpS_go mixed ?_
  by_cases hh : k < c.length
  case neg =>
    have hd : ¬ ((k : Int) < (c.length : Int)) := by omega
    rw [take_all (show k = c.length by omega)] at hi ⊢
    simp only [Int.reduceToNat, Int.reduceLT, Int.reduceLE, Int.reduceBEq, Int.reduceBNe, St0, argFr, ↓thenW, ↓blockW, ↓opX, ↓opV, ↓pX, ↓pW, ↓putK, ↓putP, ↓atK, ↓normK, ↓postZ, ↓reduceIte, reduceIte, Nat.reduceEqDiff, Nat.reduceAdd, Nat.reduceBEq, Nat.reduceLT, Nat.reduceLeDiff, binW, bodyQ, ressW, resW, ne_eq, forall_const, reduceCtorEq, implies_true, sets, oneAll, setD, rels, fillE, fillD, List.replicate, rowsOf, forall_eq, Nat.reduceMul, ↓zD, zT, hd]
    rw [stateA_out hi]
    exact .same
  have hd : ((k : Int) < (c.length : Int)) := by omega
  have hx := h _ (getD_mem (d := 0) hh)
  have hlx := litOk_iff.1 hx
  have hvx := varI_range hx
  have hfl : (freeL K (c.take k)).length ≤ (c.take k).length := List.length_filter_le _ _
  rw [List.length_take] at hfl
  have hs : freeL K (c.take (k + 1)) = freeL K (c.take k) ++ if -c.getD k 0 ∈ K then [] else [c.getD k 0] := by rw [take_snoc (d := 0) hh, freeL_snoc]
  have hi2 : c.getD k 0 ∉ K → ∀ x ∈ c.take (k + 1), x ∉ K := fun hn x hx => by
    rw [take_snoc (d := 0) hh] at hx
    rcases List.mem_append.1 hx with e | e
    · exact hi x e
    · rw [List.mem_singleton.1 e]; exact hn
  have en : IntKind.i64.wrap (0 - c.getD k 0) = -c.getD k 0 := negw (by omega)
  simp only [Int.reduceToNat, Int.reduceLT, Int.reduceLE, Int.reduceBEq, Int.reduceBNe, St0, argFr, ↓thenW, ↓blockW, ↓opX, ↓opV, ↓pX, ↓pW, ↓putK, ↓putP, ↓atK, ↓normK, ↓postZ, ↓reduceIte, reduceIte, Nat.reduceEqDiff, Nat.reduceAdd, Nat.reduceBEq, Nat.reduceLT, Nat.reduceLeDiff, binW, bodyQ, ressW, resW, ne_eq, forall_const, reduceCtorEq, implies_true, sets, oneAll, setD, rels, fillE, fillD, List.replicate, rowsOf, forall_eq, Nat.reduceMul, ↓zD, zT, hd, rows_get _ _ hh]
  (repeat (first | refine And.intro (by omega) ?_ | refine And.intro (ui_nonneg _) ?_ | refine And.intro (Int.natCast_nonneg _) ?_ | refine And.intro rfl ?_ | refine And.intro (rows_one' _ _) ?_ | refine And.intro (us_one _) ?_ | refine And.intro (by intro _ h; cases h; done) ?_))
  refine .go (CallT.of_runs (has49 K (c.getD k 0)) (by simp [D.isPureL, D.isPure])) ?_
  by_cases h1 : c.getD k 0 ∈ K
  · simp only [Int.reduceToNat, Int.reduceLT, Int.reduceLE, Int.reduceBEq, Int.reduceBNe, St0, argFr, ↓thenW, ↓blockW, ↓opX, ↓opV, ↓pX, ↓pW, ↓putK, ↓putP, ↓atK, ↓normK, ↓postZ, ↓reduceIte, reduceIte, Nat.reduceEqDiff, Nat.reduceAdd, Nat.reduceBEq, Nat.reduceLT, Nat.reduceLeDiff, binW, bodyQ, ressW, resW, ne_eq, forall_const, reduceCtorEq, implies_true, sets, oneAll, setD, rels, fillE, fillD, List.replicate, rowsOf, forall_eq, Nat.reduceMul, ↓zD, zT, decide_eq_true h1]
    rw [stateA_in (getD_mem hh) h1]
    exact .same
  simp only [Int.reduceToNat, Int.reduceLT, Int.reduceLE, Int.reduceBEq, Int.reduceBNe, St0, argFr, ↓thenW, ↓blockW, ↓opX, ↓opV, ↓pX, ↓pW, ↓putK, ↓putP, ↓atK, ↓normK, ↓postZ, ↓reduceIte, reduceIte, Nat.reduceEqDiff, Nat.reduceAdd, Nat.reduceBEq, Nat.reduceLT, Nat.reduceLeDiff, binW, bodyQ, ressW, resW, ne_eq, forall_const, reduceCtorEq, implies_true, sets, oneAll, setD, rels, fillE, fillD, List.replicate, rowsOf, forall_eq, Nat.reduceMul, ↓zD, zT, decide_eq_false h1, hd, rows_get _ _ hh, en]
  (repeat (first | refine And.intro (by omega) ?_ | refine And.intro (ui_nonneg _) ?_ | refine And.intro (Int.natCast_nonneg _) ?_ | refine And.intro rfl ?_ | refine And.intro (rows_one' _ _) ?_ | refine And.intro (us_one _) ?_ | refine And.intro (by intro _ h; cases h; done) ?_))
  refine .go (CallT.of_runs (has49 K (-c.getD k 0)) (by simp [D.isPureL, D.isPure])) ?_
  by_cases h2 : -c.getD k 0 ∈ K
  · rw [if_pos h2, List.append_nil] at hs
    simp only [Int.reduceToNat, Int.reduceLT, Int.reduceLE, Int.reduceBEq, Int.reduceBNe, St0, argFr, ↓thenW, ↓blockW, ↓opX, ↓opV, ↓pX, ↓pW, ↓putK, ↓putP, ↓atK, ↓normK, ↓postZ, ↓reduceIte, reduceIte, Nat.reduceEqDiff, Nat.reduceAdd, Nat.reduceBEq, Nat.reduceLT, Nat.reduceLeDiff, binW, bodyQ, ressW, resW, ne_eq, forall_const, reduceCtorEq, implies_true, sets, oneAll, setD, rels, fillE, fillD, List.replicate, rowsOf, forall_eq, Nat.reduceMul, ↓zD, zT, decide_eq_true h2]
    refine ⟨k + 1, ⟨by omega, hi2 h1⟩, ?_, by omega⟩
    rw [hs]
    (refine Weak.same ?_; simp only [sameF, Fr.get, ↓reduceIte, reduceIte, Nat.reduceEqDiff, reduceCtorEq, D.int.injEq, D.bool.injEq, D.sl.injEq, and_true, true_and, and_self])
    exact wrap_i64 (by omega)
  · rw [if_neg h2] at hs
    simp only [Int.reduceToNat, Int.reduceLT, Int.reduceLE, Int.reduceBEq, Int.reduceBNe, St0, argFr, ↓thenW, ↓blockW, ↓opX, ↓opV, ↓pX, ↓pW, ↓putK, ↓putP, ↓atK, ↓normK, ↓postZ, ↓reduceIte, reduceIte, Nat.reduceEqDiff, Nat.reduceAdd, Nat.reduceBEq, Nat.reduceLT, Nat.reduceLeDiff, binW, bodyQ, ressW, resW, ne_eq, forall_const, reduceCtorEq, implies_true, sets, oneAll, setD, rels, fillE, fillD, List.replicate, rowsOf, forall_eq, Nat.reduceMul, ↓zD, zT, decide_eq_false h2, hd, rows_get _ _ hh]
    (repeat (first | refine And.intro (by omega) ?_ | refine And.intro (ui_nonneg _) ?_ | refine And.intro (Int.natCast_nonneg _) ?_ | refine And.intro rfl ?_ | refine And.intro (rows_one' _ _) ?_ | refine And.intro (us_one _) ?_ | refine And.intro (by intro _ h; cases h; done) ?_))
    refine ⟨k + 1, ⟨by omega, hi2 h1⟩, ?_, by omega⟩
    rw [hs, lastI_snoc]
    (refine Weak.same ?_; simp only [sameF, Fr.get, ↓reduceIte, reduceIte, Nat.reduceEqDiff, reduceCtorEq, D.int.injEq, D.bool.injEq, D.sl.injEq, and_true, true_and, and_self, List.length_append, List.length_singleton])
    refine ⟨wrap_i64 (by omega), ?_⟩
    rw [wrap_i64 (by omega)]; omega
theorem conflict47 {l : List (List Int)} {K : List Int} (hl : l.length ≤ 1000) (h : litsOk l) : Runs Try.prog 47 [.sl 1 (rl l), .sl 1 (rows .i64 K)] (.int .i64 (confR K l 0)) := by
  refine CallT.go_fn mixed Try.func47 k47 (by simp) fun hf => ?_
  simp only [Int.reduceToNat, Int.reduceLT, Int.reduceLE, Int.reduceBEq, Int.reduceBNe, St0, argFr, ↓thenW, ↓blockW, ↓opX, ↓opV, ↓pX, ↓pW, ↓putK, ↓putP, ↓atK, ↓normK, ↓postZ, ↓reduceIte, reduceIte, Nat.reduceEqDiff, Nat.reduceAdd, Nat.reduceBEq, Nat.reduceLT, Nat.reduceLeDiff, binW, bodyQ, ressW, resW, ne_eq, forall_const, reduceCtorEq, implies_true, sets, oneAll, setD, rels, fillE, fillD, List.replicate, rowsOf, forall_eq, Nat.reduceMul, ↓zD, zT]
  refine wpS_loop (fun k : Nat => [(5, .int .i64 k), (1, .sl 1 (rows .i64 K)), (0, .sl 1 (rl l))]) (fun _ => ⟨0, []⟩) (fun k => k ≤ l.length ∧ confR K l 0 = confR K (l.drop k) k) (fun k => l.length - k) 0 ⟨Nat.zero_le _, rfl⟩ ?_ ?_
  · (refine Weak.same ?_; simp [sameF, Fr.get])
  intro k ⟨hk, hi⟩
  refine wpS_go mixed ?_
  by_cases hh : k < l.length
  case neg =>
    have hd : ¬ ((k : Int) < (l.length : Int)) := by omega
    rw [List.drop_eq_nil_of_le (by omega), confR] at hi
    simp only [Int.reduceToNat, Int.reduceLT, Int.reduceLE, Int.reduceBEq, Int.reduceBNe, St0, argFr, ↓thenW, ↓blockW, ↓opX, ↓opV, ↓pX, ↓pW, ↓putK, ↓putP, ↓atK, ↓normK, ↓postZ, ↓reduceIte, reduceIte, Nat.reduceEqDiff, Nat.reduceAdd, Nat.reduceBEq, Nat.reduceLT, Nat.reduceLeDiff, binW, bodyQ, ressW, resW, ne_eq, forall_const, reduceCtorEq, implies_true, sets, oneAll, setD, rels, fillE, fillD, List.replicate, rowsOf, forall_eq, Nat.reduceMul, ↓zD, zT, rl_len, hd]
    rw [hi]
    exact .same
  have hd : ((k : Int) < (l.length : Int)) := by omega
  rw [drop_cons (d := []) hh, confR] at hi
  have hc := h _ (getD_mem (d := []) hh)
  simp only [Int.reduceToNat, Int.reduceLT, Int.reduceLE, Int.reduceBEq, Int.reduceBNe, St0, argFr, ↓thenW, ↓blockW, ↓opX, ↓opV, ↓pX, ↓pW, ↓putK, ↓putP, ↓atK, ↓normK, ↓postZ, ↓reduceIte, reduceIte, Nat.reduceEqDiff, Nat.reduceAdd, Nat.reduceBEq, Nat.reduceLT, Nat.reduceLeDiff, binW, bodyQ, ressW, resW, ne_eq, forall_const, reduceCtorEq, implies_true, sets, oneAll, setD, rels, fillE, fillD, List.replicate, rowsOf, forall_eq, Nat.reduceMul, ↓zD, zT, rl_len, hd, rl_get _ hh]
  (repeat (first | refine And.intro (by omega) ?_ | refine And.intro (ui_nonneg _) ?_ | refine And.intro (Int.natCast_nonneg _) ?_ | refine And.intro rfl ?_ | refine And.intro (rows_one' _ _) ?_ | refine And.intro (us_one _) ?_ | refine And.intro (by intro _ h; cases h; done) ?_))
  refine .go (CallT.of_runs (state67 (K := K) (by omega) hc.2) (by simp [D.isPureL, D.isPure])) ?_
  cases hs : (stateA K (l.getD k [])).1
  · by_cases h0 : (stateA K (l.getD k [])).2.1 = 0
    · rw [if_pos (by rw [conf1, hs, h0]; rfl)] at hi
      simp only [Int.reduceToNat, Int.reduceLT, Int.reduceLE, Int.reduceBEq, Int.reduceBNe, St0, argFr, ↓thenW, ↓blockW, ↓opX, ↓opV, ↓pX, ↓pW, ↓putK, ↓putP, ↓atK, ↓normK, ↓postZ, ↓reduceIte, reduceIte, Nat.reduceEqDiff, Nat.reduceAdd, Nat.reduceBEq, Nat.reduceLT, Nat.reduceLeDiff, binW, bodyQ, ressW, resW, ne_eq, forall_const, reduceCtorEq, implies_true, sets, oneAll, setD, rels, fillE, fillD, List.replicate, rowsOf, forall_eq, Nat.reduceMul, ↓zD, zT, hs, h0]
      rw [hi]
      exact .same
    · rw [if_neg (by rw [conf1, hs]; simpa using h0)] at hi
      have h0' : ((stateA K (l.getD k [])).2.1 == 0) = false := by simpa using h0
      simp only [Int.reduceToNat, Int.reduceLT, Int.reduceLE, Int.reduceBEq, Int.reduceBNe, St0, argFr, ↓thenW, ↓blockW, ↓opX, ↓opV, ↓pX, ↓pW, ↓putK, ↓putP, ↓atK, ↓normK, ↓postZ, ↓reduceIte, reduceIte, Nat.reduceEqDiff, Nat.reduceAdd, Nat.reduceBEq, Nat.reduceLT, Nat.reduceLeDiff, binW, bodyQ, ressW, resW, ne_eq, forall_const, reduceCtorEq, implies_true, sets, oneAll, setD, rels, fillE, fillD, List.replicate, rowsOf, forall_eq, Nat.reduceMul, ↓zD, zT, hs, h0']
      refine ⟨k + 1, ⟨by omega, hi⟩, ?_, by omega⟩
      (refine Weak.same ?_; simp only [sameF, Fr.get, ↓reduceIte, reduceIte, Nat.reduceEqDiff, reduceCtorEq, D.int.injEq, D.bool.injEq, D.sl.injEq, and_true, true_and, and_self])
      exact wrap_i64 (by omega)
  · rw [if_neg (by rw [conf1, hs]; simp)] at hi
    simp only [Int.reduceToNat, Int.reduceLT, Int.reduceLE, Int.reduceBEq, Int.reduceBNe, St0, argFr, ↓thenW, ↓blockW, ↓opX, ↓opV, ↓pX, ↓pW, ↓putK, ↓putP, ↓atK, ↓normK, ↓postZ, ↓reduceIte, reduceIte, Nat.reduceEqDiff, Nat.reduceAdd, Nat.reduceBEq, Nat.reduceLT, Nat.reduceLeDiff, binW, bodyQ, ressW, resW, ne_eq, forall_const, reduceCtorEq, implies_true, sets, oneAll, setD, rels, fillE, fillD, List.replicate, rowsOf, forall_eq, Nat.reduceMul, ↓zD, zT, hs]
    refine ⟨k + 1, ⟨by omega, hi⟩, ?_, by omega⟩
    (refine Weak.same ?_; simp only [sameF, Fr.get, ↓reduceIte, reduceIte, Nat.reduceEqDiff, reduceCtorEq, D.int.injEq, D.bool.injEq, D.sl.injEq, and_true, true_and, and_self])
    exact wrap_i64 (by omega)
theorem unit48 {l : List (List Int)} {K : List Int} (hl : l.length ≤ 1000) (h : litsOk l) : Runs Try.prog 48 [.sl 1 (rl l), .sl 1 (rows .i64 K)] (.int .i64 (unitR K l)) := by
  refine CallT.go_fn mixed Try.func48 k48 (by simp) fun hf => ?_
  simp only [Int.reduceToNat, Int.reduceLT, Int.reduceLE, Int.reduceBEq, Int.reduceBNe, St0, argFr, ↓thenW, ↓blockW, ↓opX, ↓opV, ↓pX, ↓pW, ↓putK, ↓putP, ↓atK, ↓normK, ↓postZ, ↓reduceIte, reduceIte, Nat.reduceEqDiff, Nat.reduceAdd, Nat.reduceBEq, Nat.reduceLT, Nat.reduceLeDiff, binW, bodyQ, ressW, resW, ne_eq, forall_const, reduceCtorEq, implies_true, sets, oneAll, setD, rels, fillE, fillD, List.replicate, rowsOf, forall_eq, Nat.reduceMul, ↓zD, zT]
  refine wpS_loop (fun k : Nat => [(5, .int .i64 k), (1, .sl 1 (rows .i64 K)), (0, .sl 1 (rl l))]) (fun _ => ⟨0, []⟩) (fun k => k ≤ l.length ∧ unitR K l = unitR K (l.drop k)) (fun k => l.length - k) 0 ⟨Nat.zero_le _, rfl⟩ ?_ ?_
  · (refine Weak.same ?_; simp [sameF, Fr.get])
  intro k ⟨hk, hi⟩
  refine wpS_go mixed ?_
  by_cases hh : k < l.length
  case neg =>
    have hd : ¬ ((k : Int) < (l.length : Int)) := by omega
    rw [List.drop_eq_nil_of_le (by omega), unitR] at hi
    simp only [Int.reduceToNat, Int.reduceLT, Int.reduceLE, Int.reduceBEq, Int.reduceBNe, St0, argFr, ↓thenW, ↓blockW, ↓opX, ↓opV, ↓pX, ↓pW, ↓putK, ↓putP, ↓atK, ↓normK, ↓postZ, ↓reduceIte, reduceIte, Nat.reduceEqDiff, Nat.reduceAdd, Nat.reduceBEq, Nat.reduceLT, Nat.reduceLeDiff, binW, bodyQ, ressW, resW, ne_eq, forall_const, reduceCtorEq, implies_true, sets, oneAll, setD, rels, fillE, fillD, List.replicate, rowsOf, forall_eq, Nat.reduceMul, ↓zD, zT, rl_len, hd]
    rw [hi]
    exact .same
  have hd : ((k : Int) < (l.length : Int)) := by omega
  rw [drop_cons (d := []) hh, unitR] at hi
  have hc := h _ (getD_mem (d := []) hh)
  simp only [Int.reduceToNat, Int.reduceLT, Int.reduceLE, Int.reduceBEq, Int.reduceBNe, St0, argFr, ↓thenW, ↓blockW, ↓opX, ↓opV, ↓pX, ↓pW, ↓putK, ↓putP, ↓atK, ↓normK, ↓postZ, ↓reduceIte, reduceIte, Nat.reduceEqDiff, Nat.reduceAdd, Nat.reduceBEq, Nat.reduceLT, Nat.reduceLeDiff, binW, bodyQ, ressW, resW, ne_eq, forall_const, reduceCtorEq, implies_true, sets, oneAll, setD, rels, fillE, fillD, List.replicate, rowsOf, forall_eq, Nat.reduceMul, ↓zD, zT, rl_len, hd, rl_get _ hh]
  (repeat (first | refine And.intro (by omega) ?_ | refine And.intro (ui_nonneg _) ?_ | refine And.intro (Int.natCast_nonneg _) ?_ | refine And.intro rfl ?_ | refine And.intro (rows_one' _ _) ?_ | refine And.intro (us_one _) ?_ | refine And.intro (by intro _ h; cases h; done) ?_))
  refine .go (CallT.of_runs (state67 (K := K) (by omega) hc.2) (by simp [D.isPureL, D.isPure])) ?_
  cases hs : (stateA K (l.getD k [])).1
  · by_cases h0 : (stateA K (l.getD k [])).2.1 = 1
    · rw [if_pos (by rw [unit1, hs, h0]; rfl)] at hi
      simp only [Int.reduceToNat, Int.reduceLT, Int.reduceLE, Int.reduceBEq, Int.reduceBNe, St0, argFr, ↓thenW, ↓blockW, ↓opX, ↓opV, ↓pX, ↓pW, ↓putK, ↓putP, ↓atK, ↓normK, ↓postZ, ↓reduceIte, reduceIte, Nat.reduceEqDiff, Nat.reduceAdd, Nat.reduceBEq, Nat.reduceLT, Nat.reduceLeDiff, binW, bodyQ, ressW, resW, ne_eq, forall_const, reduceCtorEq, implies_true, sets, oneAll, setD, rels, fillE, fillD, List.replicate, rowsOf, forall_eq, Nat.reduceMul, ↓zD, zT, hs, h0]
      rw [hi]
      exact .same
    · rw [if_neg (by rw [unit1, hs]; simpa using h0)] at hi
      have h0' : ((stateA K (l.getD k [])).2.1 == 1) = false := by simpa using h0
      simp only [Int.reduceToNat, Int.reduceLT, Int.reduceLE, Int.reduceBEq, Int.reduceBNe, St0, argFr, ↓thenW, ↓blockW, ↓opX, ↓opV, ↓pX, ↓pW, ↓putK, ↓putP, ↓atK, ↓normK, ↓postZ, ↓reduceIte, reduceIte, Nat.reduceEqDiff, Nat.reduceAdd, Nat.reduceBEq, Nat.reduceLT, Nat.reduceLeDiff, binW, bodyQ, ressW, resW, ne_eq, forall_const, reduceCtorEq, implies_true, sets, oneAll, setD, rels, fillE, fillD, List.replicate, rowsOf, forall_eq, Nat.reduceMul, ↓zD, zT, hs, h0']
      refine ⟨k + 1, ⟨by omega, hi⟩, ?_, by omega⟩
      (refine Weak.same ?_; simp only [sameF, Fr.get, ↓reduceIte, reduceIte, Nat.reduceEqDiff, reduceCtorEq, D.int.injEq, D.bool.injEq, D.sl.injEq, and_true, true_and, and_self])
      exact wrap_i64 (by omega)
  · rw [if_neg (by rw [unit1, hs]; simp)] at hi
    simp only [Int.reduceToNat, Int.reduceLT, Int.reduceLE, Int.reduceBEq, Int.reduceBNe, St0, argFr, ↓thenW, ↓blockW, ↓opX, ↓opV, ↓pX, ↓pW, ↓putK, ↓putP, ↓atK, ↓normK, ↓postZ, ↓reduceIte, reduceIte, Nat.reduceEqDiff, Nat.reduceAdd, Nat.reduceBEq, Nat.reduceLT, Nat.reduceLeDiff, binW, bodyQ, ressW, resW, ne_eq, forall_const, reduceCtorEq, implies_true, sets, oneAll, setD, rels, fillE, fillD, List.replicate, rowsOf, forall_eq, Nat.reduceMul, ↓zD, zT, hs]
    refine ⟨k + 1, ⟨by omega, hi⟩, ?_, by omega⟩
    (refine Weak.same ?_; simp only [sameF, Fr.get, ↓reduceIte, reduceIte, Nat.reduceEqDiff, reduceCtorEq, D.int.injEq, D.bool.injEq, D.sl.injEq, and_true, true_and, and_self])
    exact wrap_i64 (by omega)
end Go.Pd
