/- Merging: contracts: the specification's ranks. -/
import Derived.Test.YtjaohaomninnlaaM9
set_option linter.unusedSectionVars false
set_option linter.unusedVariables false
set_option linter.unusedSimpArgs false
set_option linter.defProp false
set_option maxRecDepth 20000
namespace Go.Pd
open Go Go.Proofs
open Mg
theorem getD_mem {α : Type} {l : List α} {k : Nat} {d : α} (h : k < l.length) : l.getD k d ∈ l := by simp [List.getD, h]
/-- The lists among which ranks are counted: of one length, and of small numbers. -/
def okL (l : List (List Int)) (m : Nat) : Prop := ∀ x ∈ l, x.length = m ∧ ∀ y ∈ x, 0 ≤ y ∧ y ≤ 1000
theorem okL_at {l : List (List Int)} {m k : Nat} (h : okL l m) (hk : k < l.length) : (l.getD k []).length = m ∧ ∀ y ∈ l.getD k [], 0 ≤ y ∧ y ≤ 1000 := h _ (by simp [List.getD, hk])
/-- How many of the first k are first and smaller. -/
def smallTo (l : List (List Int)) (v k : Nat) : Nat := ((firstsTo l k).filter fun x => decide (lexC x (l.getD v []) < 0)).length
theorem smallTo_succ (l : List (List Int)) (v k : Nat) : smallTo l v (k + 1) = smallTo l v k + if (List.range k).any (fun i => l.getD i [] == l.getD k []) = false ∧ lexC (l.getD k []) (l.getD v []) < 0 then 1 else 0 := by
  unfold smallTo
  rw [firstsTo]
  cases h : (List.range k).any (fun i => l.getD i [] == l.getD k [])
  · by_cases h2 : lexC (l.getD k []) (l.getD v []) < 0
    · rw [if_neg (by simp), if_pos ⟨rfl, h2⟩, List.filter_append, List.length_append, List.filter_cons, if_pos (decide_eq_true h2)]
      rfl
    · rw [if_neg (by simp), if_neg (by rintro ⟨_, c⟩; exact h2 c), List.filter_append, List.length_append, List.filter_cons, if_neg (by simpa using h2)]
      rfl
  · simp
theorem any_succ (f : Nat → Bool) (k : Nat) : (List.range (k + 1)).any f = ((List.range k).any f || f k) := by
  rw [List.range_succ, List.any_append]; simp
theorem smallTo_le (l : List (List Int)) (v : Nat) : ∀ k, smallTo l v k ≤ k
  | 0 => by simp [smallTo, firstsTo]
  | k + 1 => by rw [smallTo_succ]; have := smallTo_le l v k; split <;> omega
theorem smaller_runs {l : List (List Int)} {m v : Nat} (hl : okL l m) (hv : v < l.length) : Runs Try.prog 55 [.sl 1 (rl l), .int .i64 v] (.int .i64 (lexR l v)) := by
  refine CallT.go_fn mixed Try.func55 k55 (by simp) fun hf => ?_
  simp only [D.factL, D.fact, rl_len] at hf
  have hlen := hf.1.1
  simp only [Int.reduceToNat, Int.reduceLT, Int.reduceLE, Int.reduceBEq, Int.reduceBNe, St0, argFr, ↓callZ, ↓midZ, ↓unZ, ↓thenW, ↓blockW, ↓opX, ↓opV, ↓pX, ↓pW, ↓putK, ↓putP, ↓atK, ↓normK, ↓postZ, ↓reduceIte, reduceIte, Nat.reduceEqDiff, Nat.reduceAdd, Nat.reduceBEq, Nat.reduceLT, Nat.reduceLeDiff, binW, bodyQ, ressW, resW, ne_eq, forall_const, reduceCtorEq, implies_true, sets, oneAll, setD, rels, fillE, fillD, List.replicate, rowsOf, forall_eq, Nat.reduceMul, ↓zD, zT]
  refine wpS_loop (fun k : Nat => [(6, .int .i64 k), (5, .int .i64 (smallTo l v k)), (1, .int .i64 v), (0, .sl 1 (rl l))]) (fun _ => ⟨0, []⟩) (fun k => k ≤ l.length) (fun k => l.length - k) 0 (Nat.zero_le _) ?_ ?_
  · (refine Weak.same ?_; simp [sameF, Fr.get, smallTo, firstsTo])
  intro k hk
  have hsm := smallTo_le l v k
  have hss := smallTo_succ l v k
  refine wpS_go mixed ?_
  by_cases h : k < l.length
  · have hd : ((k : Int) < (l.length : Int)) := by omega
    obtain ⟨k1, k2⟩ := okL_at hl h
    obtain ⟨v1, v2⟩ := okL_at hl hv
    simp only [Int.reduceToNat, Int.reduceLT, Int.reduceLE, Int.reduceBEq, Int.reduceBNe, St0, argFr, ↓callZ, ↓midZ, ↓unZ, ↓thenW, ↓blockW, ↓opX, ↓opV, ↓pX, ↓pW, ↓putK, ↓putP, ↓atK, ↓normK, ↓postZ, ↓reduceIte, reduceIte, Nat.reduceEqDiff, Nat.reduceAdd, Nat.reduceBEq, Nat.reduceLT, Nat.reduceLeDiff, binW, bodyQ, ressW, resW, ne_eq, forall_const, reduceCtorEq, implies_true, sets, oneAll, setD, rels, fillE, fillD, List.replicate, rowsOf, forall_eq, Nat.reduceMul, ↓zD, zT, rl_len, hd]
    refine wpS_loop (fun j : Nat => [(8, .int .i64 j), (7, .bool (!(List.range j).any (fun i => l.getD i [] == l.getD k []))), (6, .int .i64 k), (5, .int .i64 (smallTo l v k)), (1, .int .i64 v), (0, .sl 1 (rl l))]) (fun _ => ⟨0, []⟩) (fun j => j ≤ k) (fun j => k - j) 0 (Nat.zero_le _) ?_ ?_
    · (refine Weak.same ?_; simp [sameF, Fr.get])
    intro j hj
    refine wpS_go mixed ?_
    by_cases h2 : j < k
    · have hd2 : ((j : Int) < (k : Int)) := by omega
      obtain ⟨j1, j2⟩ := okL_at hl (show j < l.length by omega)
      have ha := any_succ (fun i => l.getD i [] == l.getD k []) j
      cases hx : (List.range j).any (fun i => l.getD i [] == l.getD k [])
      · simp only [Int.reduceToNat, Int.reduceLT, Int.reduceLE, Int.reduceBEq, Int.reduceBNe, St0, argFr, ↓callZ, ↓midZ, ↓unZ, ↓thenW, ↓blockW, ↓opX, ↓opV, ↓pX, ↓pW, ↓putK, ↓putP, ↓atK, ↓normK, ↓postZ, ↓reduceIte, reduceIte, Nat.reduceEqDiff, Nat.reduceAdd, Nat.reduceBEq, Nat.reduceLT, Nat.reduceLeDiff, binW, bodyQ, ressW, resW, ne_eq, forall_const, reduceCtorEq, implies_true, sets, oneAll, setD, rels, fillE, fillD, List.replicate, rowsOf, forall_eq, Nat.reduceMul, ↓zD, zT, hd2, rl_len, rl_get l h, rl_get l (show j < l.length by omega)]
        (repeat refine And.intro (by first | omega | exact ui_nonneg _ | exact Int.natCast_nonneg _ | rfl | exact rows_one' _ _ | exact us_one _ | (intro _ h; cases h; done)) ?_)
        refine .go (CallT.of_runs (compare_runs (by rw [j1, k1]) j2 k2) (by simp [D.isPureL, D.isPure])) ?_
        have hc : (cmpR (l.getD j []) (l.getD k []) != 0) = !(l.getD j [] == l.getD k []) := by
          have := (cmpR_lex (show (l.getD j []).length = (l.getD k []).length by rw [j1, k1])).2
          rw [Bool.eq_iff_iff]; simp only [bne_iff_ne, ne_eq, Bool.not_eq_true', beq_eq_false_iff_ne]; exact not_congr this
        simp only [Int.reduceToNat, Int.reduceLT, Int.reduceLE, Int.reduceBEq, Int.reduceBNe, St0, argFr, ↓callZ, ↓midZ, ↓unZ, ↓thenW, ↓blockW, ↓opX, ↓opV, ↓pX, ↓pW, ↓putK, ↓putP, ↓atK, ↓normK, ↓postZ, ↓reduceIte, reduceIte, Nat.reduceEqDiff, Nat.reduceAdd, Nat.reduceBEq, Nat.reduceLT, Nat.reduceLeDiff, binW, bodyQ, ressW, resW, ne_eq, forall_const, reduceCtorEq, implies_true, sets, oneAll, setD, rels, fillE, fillD, List.replicate, rowsOf, forall_eq, Nat.reduceMul, ↓zD, zT, hc]
        (repeat refine And.intro (by first | omega | exact ui_nonneg _ | exact Int.natCast_nonneg _ | rfl | exact rows_one' _ _ | exact us_one _ | (intro _ h; cases h; done)) ?_)
        refine ⟨j + 1, by omega, ?_, by omega⟩
        rw [hx, Bool.false_or] at ha
        (refine Weak.same ?_; simp only [sameF, Fr.get, ↓reduceIte, reduceIte, Nat.reduceEqDiff, reduceCtorEq, D.int.injEq, D.bool.injEq, D.sl.injEq, and_true, true_and, and_self, ha])
        exact wrap_i64 (by omega)
      · simp only [Int.reduceToNat, Int.reduceLT, Int.reduceLE, Int.reduceBEq, Int.reduceBNe, St0, argFr, ↓callZ, ↓midZ, ↓unZ, ↓thenW, ↓blockW, ↓opX, ↓opV, ↓pX, ↓pW, ↓putK, ↓putP, ↓atK, ↓normK, ↓postZ, ↓reduceIte, reduceIte, Nat.reduceEqDiff, Nat.reduceAdd, Nat.reduceBEq, Nat.reduceLT, Nat.reduceLeDiff, binW, bodyQ, ressW, resW, ne_eq, forall_const, reduceCtorEq, implies_true, sets, oneAll, setD, rels, fillE, fillD, List.replicate, rowsOf, forall_eq, Nat.reduceMul, ↓zD, zT, hd2]
        (repeat refine And.intro (by first | omega | exact ui_nonneg _ | exact Int.natCast_nonneg _ | rfl | exact rows_one' _ _ | exact us_one _ | (intro _ h; cases h; done)) ?_)
        refine ⟨j + 1, by omega, ?_, by omega⟩
        rw [hx, Bool.true_or] at ha
        (refine Weak.same ?_; simp only [sameF, Fr.get, ↓reduceIte, reduceIte, Nat.reduceEqDiff, reduceCtorEq, D.int.injEq, D.bool.injEq, D.sl.injEq, and_true, true_and, and_self, ha, Bool.not_true])
        exact wrap_i64 (by omega)
    · have hd2 : ¬ ((j : Int) < (k : Int)) := by omega
      have hj' : j = k := by omega
      subst hj'
      cases hx : (List.range j).any (fun i => l.getD i [] == l.getD j [])
      · rw [hx] at hss
        simp only [Int.reduceToNat, Int.reduceLT, Int.reduceLE, Int.reduceBEq, Int.reduceBNe, St0, argFr, ↓callZ, ↓midZ, ↓unZ, ↓thenW, ↓blockW, ↓opX, ↓opV, ↓pX, ↓pW, ↓putK, ↓putP, ↓atK, ↓normK, ↓postZ, ↓reduceIte, reduceIte, Nat.reduceEqDiff, Nat.reduceAdd, Nat.reduceBEq, Nat.reduceLT, Nat.reduceLeDiff, binW, bodyQ, ressW, resW, ne_eq, forall_const, reduceCtorEq, implies_true, sets, oneAll, setD, rels, fillE, fillD, List.replicate, rowsOf, forall_eq, Nat.reduceMul, ↓zD, zT, hd2, rl_len, rl_get l h, rl_get l hv]
        (repeat refine And.intro (by first | omega | exact ui_nonneg _ | exact Int.natCast_nonneg _ | rfl | exact rows_one' _ _ | exact us_one _ | (intro _ h; cases h; done)) ?_)
        refine .go (CallT.of_runs (compare_runs (by rw [k1, v1]) k2 v2) (by simp [D.isPureL, D.isPure])) ?_
        have hc := (cmpR_lex (show (l.getD j []).length = (l.getD v []).length by rw [k1, v1])).1
        by_cases hlt : lexC (l.getD j []) (l.getD v []) < 0
        · have hlt' := hc.2 hlt
          rw [if_pos ⟨rfl, hlt⟩] at hss
          simp only [Int.reduceToNat, Int.reduceLT, Int.reduceLE, Int.reduceBEq, Int.reduceBNe, St0, argFr, ↓callZ, ↓midZ, ↓unZ, ↓thenW, ↓blockW, ↓opX, ↓opV, ↓pX, ↓pW, ↓putK, ↓putP, ↓atK, ↓normK, ↓postZ, ↓reduceIte, reduceIte, Nat.reduceEqDiff, Nat.reduceAdd, Nat.reduceBEq, Nat.reduceLT, Nat.reduceLeDiff, binW, bodyQ, ressW, resW, ne_eq, forall_const, reduceCtorEq, implies_true, sets, oneAll, setD, rels, fillE, fillD, List.replicate, rowsOf, forall_eq, Nat.reduceMul, ↓zD, zT, hlt']
          (repeat refine And.intro (by first | omega | exact ui_nonneg _ | exact Int.natCast_nonneg _ | rfl | exact rows_one' _ _ | exact us_one _ | (intro _ h; cases h; done)) ?_)
          refine ⟨j + 1, by omega, ?_, by omega⟩
          (refine Weak.same ?_; simp only [sameF, Fr.get, ↓reduceIte, reduceIte, Nat.reduceEqDiff, reduceCtorEq, D.int.injEq, D.bool.injEq, D.sl.injEq, and_true, true_and, and_self, hss])
          exact ⟨wrap_i64 (by omega), wrap_i64 (by omega)⟩
        · have hlt' : ¬ cmpR (l.getD j []) (l.getD v []) < 0 := fun c => hlt (hc.1 c)
          rw [if_neg (by rintro ⟨_, c⟩; exact hlt c)] at hss
          simp only [Int.reduceToNat, Int.reduceLT, Int.reduceLE, Int.reduceBEq, Int.reduceBNe, St0, argFr, ↓callZ, ↓midZ, ↓unZ, ↓thenW, ↓blockW, ↓opX, ↓opV, ↓pX, ↓pW, ↓putK, ↓putP, ↓atK, ↓normK, ↓postZ, ↓reduceIte, reduceIte, Nat.reduceEqDiff, Nat.reduceAdd, Nat.reduceBEq, Nat.reduceLT, Nat.reduceLeDiff, binW, bodyQ, ressW, resW, ne_eq, forall_const, reduceCtorEq, implies_true, sets, oneAll, setD, rels, fillE, fillD, List.replicate, rowsOf, forall_eq, Nat.reduceMul, ↓zD, zT, hlt']
          (repeat refine And.intro (by first | omega | exact ui_nonneg _ | exact Int.natCast_nonneg _ | rfl | exact rows_one' _ _ | exact us_one _ | (intro _ h; cases h; done)) ?_)
          refine ⟨j + 1, by omega, ?_, by omega⟩
          (refine Weak.same ?_; simp only [sameF, Fr.get, ↓reduceIte, reduceIte, Nat.reduceEqDiff, reduceCtorEq, D.int.injEq, D.bool.injEq, D.sl.injEq, and_true, true_and, and_self, hss])
          first | exact wrap_i64 (by omega) | exact ⟨wrap_i64 (by omega), by simp⟩
      · rw [hx, if_neg (by rintro ⟨c, _⟩; cases c)] at hss
        simp only [Int.reduceToNat, Int.reduceLT, Int.reduceLE, Int.reduceBEq, Int.reduceBNe, St0, argFr, ↓callZ, ↓midZ, ↓unZ, ↓thenW, ↓blockW, ↓opX, ↓opV, ↓pX, ↓pW, ↓putK, ↓putP, ↓atK, ↓normK, ↓postZ, ↓reduceIte, reduceIte, Nat.reduceEqDiff, Nat.reduceAdd, Nat.reduceBEq, Nat.reduceLT, Nat.reduceLeDiff, binW, bodyQ, ressW, resW, ne_eq, forall_const, reduceCtorEq, implies_true, sets, oneAll, setD, rels, fillE, fillD, List.replicate, rowsOf, forall_eq, Nat.reduceMul, ↓zD, zT, hd2]
        (repeat refine And.intro (by first | omega | exact ui_nonneg _ | exact Int.natCast_nonneg _ | rfl | exact rows_one' _ _ | exact us_one _ | (intro _ h; cases h; done)) ?_)
        refine ⟨j + 1, by omega, ?_, by omega⟩
        (refine Weak.same ?_; simp only [sameF, Fr.get, ↓reduceIte, reduceIte, Nat.reduceEqDiff, reduceCtorEq, D.int.injEq, D.bool.injEq, D.sl.injEq, and_true, true_and, and_self, hss])
        first | exact wrap_i64 (by omega) | exact ⟨wrap_i64 (by omega), by simp⟩
  · have hd : ¬ ((k : Int) < (l.length : Int)) := by omega
    simp only [Int.reduceToNat, Int.reduceLT, Int.reduceLE, Int.reduceBEq, Int.reduceBNe, St0, argFr, ↓callZ, ↓midZ, ↓unZ, ↓thenW, ↓blockW, ↓opX, ↓opV, ↓pX, ↓pW, ↓putK, ↓putP, ↓atK, ↓normK, ↓postZ, ↓reduceIte, reduceIte, Nat.reduceEqDiff, Nat.reduceAdd, Nat.reduceBEq, Nat.reduceLT, Nat.reduceLeDiff, binW, bodyQ, ressW, resW, ne_eq, forall_const, reduceCtorEq, implies_true, sets, oneAll, setD, rels, fillE, fillD, List.replicate, rowsOf, forall_eq, Nat.reduceMul, ↓zD, zT, rl_len, hd]
    rw [show k = l.length by omega]
    exact .same

theorem sumL_snoc (l : List Int) (x : Int) : sumL (l ++ [x]) = sumL l + x := by rw [sumL_append, sumL_cons, sumL_nil]; omega
theorem maxL_snoc (l : List Int) (x : Int) (hx : 0 ≤ x) : maxL (l ++ [x]) = max (maxL l) x := by
  rw [maxL_append, maxL_cons, maxL_nil]; have := maxL_nonneg l; omega
theorem mx_max (x y : Int) : (if x < y then y else x) = max x y := by rw [Int.max_def]; split <;> split <;> omega
theorem sumL_take {l : List Int} {c : Int} (h : ∀ x ∈ l, 0 ≤ x ∧ x ≤ c) (k : Nat) : 0 ≤ sumL (l.take k) ∧ sumL (l.take k) ≤ (l.take k).length * c := sum_range fun x hx => h x (List.mem_of_mem_take hx)
theorem rank_runs {l : List (List Int)} {m v : Nat} (way : Int) (hl : okL l m) (hm : m ≤ 100) (hv : v < l.length) : Runs Try.prog 38 [.int .i64 way, .sl 1 (rl l), .int .i64 v] (.int .i64 (if way = 3 then lexR l v else if way = 2 then maxL (l.getD v []) else sumL (l.getD v []))) := by
  refine CallT.go_fn mixed Try.func38 k38 (by simp) fun hf => ?_
  by_cases h3 : way = 3
  · subst h3
    simp only [Int.reduceToNat, Int.reduceLT, Int.reduceLE, Int.reduceBEq, Int.reduceBNe, St0, argFr, ↓callZ, ↓midZ, ↓unZ, ↓thenW, ↓blockW, ↓opX, ↓opV, ↓pX, ↓pW, ↓putK, ↓putP, ↓atK, ↓normK, ↓postZ, ↓reduceIte, reduceIte, Nat.reduceEqDiff, Nat.reduceAdd, Nat.reduceBEq, Nat.reduceLT, Nat.reduceLeDiff, binW, bodyQ, ressW, resW, ne_eq, forall_const, reduceCtorEq, implies_true, sets, oneAll, setD, rels, fillE, fillD, List.replicate, rowsOf, forall_eq, Nat.reduceMul, ↓zD, zT]
    refine .go (CallT.of_runs (smaller_runs hl hv) (by simp [D.isPureL, D.isPure])) ?_
    simp only [Int.reduceToNat, Int.reduceLT, Int.reduceLE, Int.reduceBEq, Int.reduceBNe, St0, argFr, ↓callZ, ↓midZ, ↓unZ, ↓thenW, ↓blockW, ↓opX, ↓opV, ↓pX, ↓pW, ↓putK, ↓putP, ↓atK, ↓normK, ↓postZ, ↓reduceIte, reduceIte, Nat.reduceEqDiff, Nat.reduceAdd, Nat.reduceBEq, Nat.reduceLT, Nat.reduceLeDiff, binW, bodyQ, ressW, resW, ne_eq, forall_const, reduceCtorEq, implies_true, sets, oneAll, setD, rels, fillE, fillD, List.replicate, rowsOf, forall_eq, Nat.reduceMul, ↓zD, zT]
    exact .drop (by simp) (by simp [vw])
  have e3 : (way == 3) = false := beq_eq_false_iff_ne.2 h3
  obtain ⟨v1, v2⟩ := okL_at hl hv
  have hpos : ∀ x ∈ l.getD v [], 0 ≤ x ∧ x ≤ 1000 := v2
  rw [if_neg h3]
  by_cases h2 : way = 2
  · subst h2
    simp only [Int.reduceToNat, Int.reduceLT, Int.reduceLE, Int.reduceBEq, Int.reduceBNe, St0, argFr, ↓callZ, ↓midZ, ↓unZ, ↓thenW, ↓blockW, ↓opX, ↓opV, ↓pX, ↓pW, ↓putK, ↓putP, ↓atK, ↓normK, ↓postZ, ↓reduceIte, reduceIte, Nat.reduceEqDiff, Nat.reduceAdd, Nat.reduceBEq, Nat.reduceLT, Nat.reduceLeDiff, binW, bodyQ, ressW, resW, ne_eq, forall_const, reduceCtorEq, implies_true, sets, oneAll, setD, rels, fillE, fillD, List.replicate, rowsOf, forall_eq, Nat.reduceMul, ↓zD, zT, e3]
    refine wpS_loop (fun k : Nat => [(8, .int .i64 k), (7, .int .i64 (maxL ((l.getD v []).take k))), (2, .int .i64 v), (1, .sl 1 (rl l)), (0, .int .i64 2)]) (fun _ => ⟨0, []⟩) (fun k => k ≤ m) (fun k => m - k) 0 (Nat.zero_le _) ?_ ?_
    · (refine Weak.same ?_; simp [sameF, Fr.get, maxL])
    intro k hk
    refine wpS_go mixed ?_
    by_cases h : k < m
    · have hd : ((k : Int) < ((l.getD v []).length : Int)) := by omega
      simp only [Int.reduceToNat, Int.reduceLT, Int.reduceLE, Int.reduceBEq, Int.reduceBNe, St0, argFr, ↓callZ, ↓midZ, ↓unZ, ↓thenW, ↓blockW, ↓opX, ↓opV, ↓pX, ↓pW, ↓putK, ↓putP, ↓atK, ↓normK, ↓postZ, ↓reduceIte, reduceIte, Nat.reduceEqDiff, Nat.reduceAdd, Nat.reduceBEq, Nat.reduceLT, Nat.reduceLeDiff, binW, bodyQ, ressW, resW, ne_eq, forall_const, reduceCtorEq, implies_true, sets, oneAll, setD, rels, fillE, fillD, List.replicate, rowsOf, forall_eq, Nat.reduceMul, ↓zD, zT, rl_len, rl_get l hv, hd, rows_get .i64 (l.getD v []) (show k < (l.getD v []).length by omega)]
      (repeat refine And.intro (by first | omega | exact ui_nonneg _ | exact Int.natCast_nonneg _ | rfl | exact rows_one' _ _ | exact us_one _ | (intro _ h; cases h; done)) ?_)
      refine ⟨k + 1, by omega, ?_, by omega⟩
      rw [take_snoc (d := 0) (show k < (l.getD v []).length by omega)]
      rw [maxL_snoc _ _ (hpos _ (getD_mem (show k < (l.getD v []).length by omega))).1]
      (refine Weak.same ?_; simp only [sameF, Fr.get, ↓reduceIte, reduceIte, Nat.reduceEqDiff, reduceCtorEq, D.int.injEq, D.bool.injEq, D.sl.injEq, and_true, true_and, and_self])
      exact ⟨wrap_i64 (by omega), by rw [mx_max]⟩
    · have hd : ¬ ((k : Int) < ((l.getD v []).length : Int)) := by omega
      simp only [Int.reduceToNat, Int.reduceLT, Int.reduceLE, Int.reduceBEq, Int.reduceBNe, St0, argFr, ↓callZ, ↓midZ, ↓unZ, ↓thenW, ↓blockW, ↓opX, ↓opV, ↓pX, ↓pW, ↓putK, ↓putP, ↓atK, ↓normK, ↓postZ, ↓reduceIte, reduceIte, Nat.reduceEqDiff, Nat.reduceAdd, Nat.reduceBEq, Nat.reduceLT, Nat.reduceLeDiff, binW, bodyQ, ressW, resW, ne_eq, forall_const, reduceCtorEq, implies_true, sets, oneAll, setD, rels, fillE, fillD, List.replicate, rowsOf, forall_eq, Nat.reduceMul, ↓zD, zT, rl_len, rl_get l hv, hd]
      (repeat refine And.intro (by first | omega | exact ui_nonneg _ | exact Int.natCast_nonneg _ | rfl | exact rows_one' _ _ | exact us_one _ | (intro _ h; cases h; done)) ?_)
      rw [show k = (l.getD v []).length by omega, List.take_length]
      exact .same
  · have e2 : (way == 2) = false := beq_eq_false_iff_ne.2 h2
    rw [if_neg h2]
    simp only [Int.reduceToNat, Int.reduceLT, Int.reduceLE, Int.reduceBEq, Int.reduceBNe, St0, argFr, ↓callZ, ↓midZ, ↓unZ, ↓thenW, ↓blockW, ↓opX, ↓opV, ↓pX, ↓pW, ↓putK, ↓putP, ↓atK, ↓normK, ↓postZ, ↓reduceIte, reduceIte, Nat.reduceEqDiff, Nat.reduceAdd, Nat.reduceBEq, Nat.reduceLT, Nat.reduceLeDiff, binW, bodyQ, ressW, resW, ne_eq, forall_const, reduceCtorEq, implies_true, sets, oneAll, setD, rels, fillE, fillD, List.replicate, rowsOf, forall_eq, Nat.reduceMul, ↓zD, zT, e3]
    refine wpS_loop (fun k : Nat => [(8, .int .i64 k), (7, .int .i64 (sumL ((l.getD v []).take k))), (2, .int .i64 v), (1, .sl 1 (rl l)), (0, .int .i64 way)]) (fun _ => ⟨0, []⟩) (fun k => k ≤ m) (fun k => m - k) 0 (Nat.zero_le _) ?_ ?_
    · (refine Weak.same ?_; simp [sameF, Fr.get, sumL])
    intro k hk
    refine wpS_go mixed ?_
    by_cases h : k < m
    · have hd : ((k : Int) < ((l.getD v []).length : Int)) := by omega
      simp only [Int.reduceToNat, Int.reduceLT, Int.reduceLE, Int.reduceBEq, Int.reduceBNe, St0, argFr, ↓callZ, ↓midZ, ↓unZ, ↓thenW, ↓blockW, ↓opX, ↓opV, ↓pX, ↓pW, ↓putK, ↓putP, ↓atK, ↓normK, ↓postZ, ↓reduceIte, reduceIte, Nat.reduceEqDiff, Nat.reduceAdd, Nat.reduceBEq, Nat.reduceLT, Nat.reduceLeDiff, binW, bodyQ, ressW, resW, ne_eq, forall_const, reduceCtorEq, implies_true, sets, oneAll, setD, rels, fillE, fillD, List.replicate, rowsOf, forall_eq, Nat.reduceMul, ↓zD, zT, rl_len, rl_get l hv, hd, rows_get .i64 (l.getD v []) (show k < (l.getD v []).length by omega), e2]
      (repeat refine And.intro (by first | omega | exact ui_nonneg _ | exact Int.natCast_nonneg _ | rfl | exact rows_one' _ _ | exact us_one _ | (intro _ h; cases h; done)) ?_)
      refine ⟨k + 1, by omega, ?_, by omega⟩
      have hs := sumL_take hpos k
      have hk2 : ((l.getD v []).take k).length = k := by rw [List.length_take]; omega
      rw [hk2] at hs
      have hx := hpos ((l.getD v []).getD k 0) (getD_mem (show k < (l.getD v []).length by omega))
      rw [take_snoc (d := 0) (show k < (l.getD v []).length by omega), sumL_snoc]
      (refine Weak.same ?_; simp only [sameF, Fr.get, ↓reduceIte, reduceIte, Nat.reduceEqDiff, reduceCtorEq, D.int.injEq, D.bool.injEq, D.sl.injEq, and_true, true_and, and_self])
      exact ⟨wrap_i64 (by omega), wrap_i64 (by omega)⟩
    · have hd : ¬ ((k : Int) < ((l.getD v []).length : Int)) := by omega
      simp only [Int.reduceToNat, Int.reduceLT, Int.reduceLE, Int.reduceBEq, Int.reduceBNe, St0, argFr, ↓callZ, ↓midZ, ↓unZ, ↓thenW, ↓blockW, ↓opX, ↓opV, ↓pX, ↓pW, ↓putK, ↓putP, ↓atK, ↓normK, ↓postZ, ↓reduceIte, reduceIte, Nat.reduceEqDiff, Nat.reduceAdd, Nat.reduceBEq, Nat.reduceLT, Nat.reduceLeDiff, binW, bodyQ, ressW, resW, ne_eq, forall_const, reduceCtorEq, implies_true, sets, oneAll, setD, rels, fillE, fillD, List.replicate, rowsOf, forall_eq, Nat.reduceMul, ↓zD, zT, rl_len, rl_get l hv, hd]
      (repeat refine And.intro (by first | omega | exact ui_nonneg _ | exact Int.natCast_nonneg _ | rfl | exact rows_one' _ _ | exact us_one _ | (intro _ h; cases h; done)) ?_)
      rw [show k = (l.getD v []).length by omega, List.take_length]
      exact .same
end Go.Pd
