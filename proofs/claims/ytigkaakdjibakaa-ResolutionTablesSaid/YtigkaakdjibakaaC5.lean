/- Resolution: contracts: what unit propagation calls. -/
import Derived.Test.YtigkaakdjibakaaC4
set_option linter.unusedSectionVars false
set_option linter.unusedVariables false
set_option linter.unusedSimpArgs false
set_option linter.defProp false
set_option maxRecDepth 20000
namespace Go.Pd
open Go Go.Proofs
open Rs
namespace Rs
/-- The known literals, as the program holds them. -/
def kd (b : Bool) (K : List Int) : D := if b then .osl 0 1 K.length else .nils
def ko (b : Bool) (K : List Int) : List (Nat × Ob) := if b then [(0, ⟨1, rows .i64 K⟩)] else []
end Rs
theorem lend_kd {b : Bool} {K : List Int} {m : Nat} {r : List (Nat × Ob)} (hr : ∀ p ∈ r, p.1 ≠ 0) (hb : b = false → K = []) : lend ⟨m, r ++ ko b K⟩ (kd b K) (.sl 1 (rows .i64 K)) := by
  cases b
  · rw [hb rfl]; exact lend_nil 1
  · refine lend_rows ?_ rfl
    show St.look _ 0 = _
    induction r with
    | nil => simp [ko, St.look]
    | cons p r ih =>
      have := hr p (by simp)
      rw [List.cons_append]
      obtain ⟨k, o⟩ := p
      simp only at this
      rw [St.look, if_neg (by simpa using this)]
      exact ih fun p hp => hr p (by simp [hp])
theorem literal44 {σ : St} {kb : Nat} {d : D} {K : List Int} {x : Int} (hx : -100 ≤ x ∧ x ≤ 100) (hb : σ.get kb = some ⟨1, [[d]]⟩) (hk : lend σ d (.sl 1 (rows .i64 K))) : CallT Try.prog 44 [.int .i64 x, .ref kb 1 0 0] σ (.bool (negIn K x)) σ := by
  obtain ⟨nx, objs⟩ := σ
  have hg : St.look objs kb = some ⟨1, [[d]]⟩ := hb
  have en : IntKind.i64.wrap (0 - x) = -x := negw (by omega)
  refine CallT.go_fn mixed Try.func44 k44 (by simp) fun hf => ?_
  simp only [Int.reduceToNat, Int.reduceLT, Int.reduceLE, Int.reduceBEq, Int.reduceBNe, St0, argFr, ↓thenW, ↓blockW, ↓opX, ↓opV, ↓pX, ↓pW, ↓putK, ↓putP, ↓atK, ↓normK, ↓postZ, ↓reduceIte, reduceIte, Nat.reduceEqDiff, Nat.reduceAdd, Nat.reduceBEq, Nat.reduceLT, Nat.reduceLeDiff, binW, bodyQ, ressW, resW, ne_eq, forall_const, reduceCtorEq, implies_true, sets, oneAll, setD, rels, fillE, fillD, List.replicate, rowsOf, forall_eq, Nat.reduceMul, ↓zD, zT, hg, en]
  (repeat (first | refine And.intro (by omega) ?_ | refine And.intro (ui_nonneg _) ?_ | refine And.intro (Int.natCast_nonneg _) ?_ | refine And.intro rfl ?_ | refine And.intro (rows_one' _ _) ?_ | refine And.intro (us_one _) ?_ | refine And.intro (by intro _ h; cases h; done) ?_))
  refine .go (CallT.lent (contains45 K (-x)) (show lendL ⟨nx, objs⟩ [d, .int .i64 (-x)] [.sl 1 (rows .i64 K), .int .i64 (-x)] from ⟨hk, lend_int _ _, trivial⟩) rfl) ?_
  simp only [Int.reduceToNat, Int.reduceLT, Int.reduceLE, Int.reduceBEq, Int.reduceBNe, St0, argFr, ↓thenW, ↓blockW, ↓opX, ↓opV, ↓pX, ↓pW, ↓putK, ↓putP, ↓atK, ↓normK, ↓postZ, ↓reduceIte, reduceIte, Nat.reduceEqDiff, Nat.reduceAdd, Nat.reduceBEq, Nat.reduceLT, Nat.reduceLeDiff, binW, bodyQ, ressW, resW, ne_eq, forall_const, reduceCtorEq, implies_true, sets, oneAll, setD, rels, fillE, fillD, List.replicate, rowsOf, forall_eq, Nat.reduceMul, ↓zD, zT]
  exact .same
/-- Nothing is taken out of nothing. -/
theorem delete_nil {σ : St} {g : FuncId} {caps : List D} : CallT Try.prog 43 [.sl 1 [], .fn g caps] σ (.sl 1 []) σ := by
  refine CallT.go_fn mixed Try.func43 k43 (by simp) fun hf => ?_
  simp only [Int.reduceToNat, Int.reduceLT, Int.reduceLE, Int.reduceBEq, Int.reduceBNe, St0, argFr, ↓thenW, ↓blockW, ↓opX, ↓opV, ↓pX, ↓pW, ↓putK, ↓putP, ↓atK, ↓normK, ↓postZ, ↓reduceIte, reduceIte, Nat.reduceEqDiff, Nat.reduceAdd, Nat.reduceBEq, Nat.reduceLT, Nat.reduceLeDiff, binW, bodyQ, ressW, resW, ne_eq, forall_const, reduceCtorEq, implies_true, sets, oneAll, setD, rels, fillE, fillD, List.replicate, rowsOf, forall_eq, Nat.reduceMul, ↓zD, zT]
  refine .go (index65 (f := fun _ => false) (c := []) (by simp) (fun x hx => by cases hx)) ?_
  simp only [Int.reduceToNat, Int.reduceLT, Int.reduceLE, Int.reduceBEq, Int.reduceBNe, St0, argFr, ↓thenW, ↓blockW, ↓opX, ↓opV, ↓pX, ↓pW, ↓putK, ↓putP, ↓atK, ↓normK, ↓postZ, ↓reduceIte, reduceIte, Nat.reduceEqDiff, Nat.reduceAdd, Nat.reduceBEq, Nat.reduceLT, Nat.reduceLeDiff, binW, bodyQ, ressW, resW, ne_eq, forall_const, reduceCtorEq, implies_true, sets, oneAll, setD, rels, fillE, fillD, List.replicate, rowsOf, forall_eq, Nat.reduceMul, ↓zD, zT, ixF]
  exact .same
/-! ### Ordering nothing -/
theorem order_of_nil {σ : St} {a : D} (h : CallT Try.prog 42 [a] σ (.sl 1 []) σ) : CallT Try.prog 37 [a] σ (.sl 1 []) σ := by
  refine CallT.go_fn mixed Try.func37 k37 (by simp) fun hf => ?_
  simp only [Int.reduceToNat, Int.reduceLT, Int.reduceLE, Int.reduceBEq, Int.reduceBNe, St0, argFr, ↓thenW, ↓blockW, ↓opX, ↓opV, ↓pX, ↓pW, ↓putK, ↓putP, ↓atK, ↓normK, ↓postZ, ↓reduceIte, reduceIte, Nat.reduceEqDiff, Nat.reduceAdd, Nat.reduceBEq, Nat.reduceLT, Nat.reduceLeDiff, binW, bodyQ, ressW, resW, ne_eq, forall_const, reduceCtorEq, implies_true, sets, oneAll, setD, rels, fillE, fillD, List.replicate, rowsOf, forall_eq, Nat.reduceMul, ↓zD, zT]
  refine .go h ?_
  simp only [Int.reduceToNat, Int.reduceLT, Int.reduceLE, Int.reduceBEq, Int.reduceBNe, St0, argFr, ↓thenW, ↓blockW, ↓opX, ↓opV, ↓pX, ↓pW, ↓putK, ↓putP, ↓atK, ↓normK, ↓postZ, ↓reduceIte, reduceIte, Nat.reduceEqDiff, Nat.reduceAdd, Nat.reduceBEq, Nat.reduceLT, Nat.reduceLeDiff, binW, bodyQ, ressW, resW, ne_eq, forall_const, reduceCtorEq, implies_true, sets, oneAll, setD, rels, fillE, fillD, List.replicate, rowsOf, forall_eq, Nat.reduceMul, ↓zD, zT]
  have ho : Ordinary Try.prog 62 := ⟨_, Try.func62, by kernel_rfl, by kernel_rfl⟩
  refine .go (sort_noneP (ρ := renSortA) (g := 63) { laysSortA with } ho) ?_
  simp only [Int.reduceToNat, Int.reduceLT, Int.reduceLE, Int.reduceBEq, Int.reduceBNe, St0, argFr, ↓thenW, ↓blockW, ↓opX, ↓opV, ↓pX, ↓pW, ↓putK, ↓putP, ↓atK, ↓normK, ↓postZ, ↓reduceIte, reduceIte, Nat.reduceEqDiff, Nat.reduceAdd, Nat.reduceBEq, Nat.reduceLT, Nat.reduceLeDiff, binW, bodyQ, ressW, resW, ne_eq, forall_const, reduceCtorEq, implies_true, sets, oneAll, setD, rels, fillE, fillD, List.replicate, rowsOf, forall_eq, Nat.reduceMul, ↓zD, zT]
  have hc : Runs Try.prog 64 [.sl 1 []] (.sl 1 []) := by
    refine CallT.go_fn mixed Try.func64 k64 (by simp) fun hf => ?_
    simp only [Int.reduceToNat, Int.reduceLT, Int.reduceLE, Int.reduceBEq, Int.reduceBNe, St0, argFr, ↓thenW, ↓blockW, ↓opX, ↓opV, ↓pX, ↓pW, ↓putK, ↓putP, ↓atK, ↓normK, ↓postZ, ↓reduceIte, reduceIte, Nat.reduceEqDiff, Nat.reduceAdd, Nat.reduceBEq, Nat.reduceLT, Nat.reduceLeDiff, binW, bodyQ, ressW, resW, ne_eq, forall_const, reduceCtorEq, implies_true, sets, oneAll, setD, rels, fillE, fillD, List.replicate, rowsOf, forall_eq, Nat.reduceMul, ↓zD, zT]
    exact .same
  refine .go (CallT.of_runs hc rfl) ?_
  simp only [Int.reduceToNat, Int.reduceLT, Int.reduceLE, Int.reduceBEq, Int.reduceBNe, St0, argFr, ↓thenW, ↓blockW, ↓opX, ↓opV, ↓pX, ↓pW, ↓putK, ↓putP, ↓atK, ↓normK, ↓postZ, ↓reduceIte, reduceIte, Nat.reduceEqDiff, Nat.reduceAdd, Nat.reduceBEq, Nat.reduceLT, Nat.reduceLeDiff, binW, bodyQ, ressW, resW, ne_eq, forall_const, reduceCtorEq, implies_true, sets, oneAll, setD, rels, fillE, fillD, List.replicate, rowsOf, forall_eq, Nat.reduceMul, ↓zD, zT]
  exact .same
theorem clone_nils : Runs Try.prog 42 [.nils] (.sl 1 []) := by
  refine CallT.go_fn mixed Try.func42 k42 (by simp) fun hf => ?_
  simp only [Int.reduceToNat, Int.reduceLT, Int.reduceLE, Int.reduceBEq, Int.reduceBNe, St0, argFr, ↓thenW, ↓blockW, ↓opX, ↓opV, ↓pX, ↓pW, ↓putK, ↓putP, ↓atK, ↓normK, ↓postZ, ↓reduceIte, reduceIte, Nat.reduceEqDiff, Nat.reduceAdd, Nat.reduceBEq, Nat.reduceLT, Nat.reduceLeDiff, binW, bodyQ, ressW, resW, ne_eq, forall_const, reduceCtorEq, implies_true, sets, oneAll, setD, rels, fillE, fillD, List.replicate, rowsOf, forall_eq, Nat.reduceMul, ↓zD, zT]
  exact .drop (by simp) (by simp [vw])
theorem clone_nilsO : CallT Try.prog 42 [.nils] St0 .nils ⟨1, []⟩ := by
  refine CallT.go_fn mixed Try.func42 k42 (by simp) fun hf => ?_
  simp only [Int.reduceToNat, Int.reduceLT, Int.reduceLE, Int.reduceBEq, Int.reduceBNe, St0, argFr, ↓thenW, ↓blockW, ↓opX, ↓opV, ↓pX, ↓pW, ↓putK, ↓putP, ↓atK, ↓normK, ↓postZ, ↓reduceIte, reduceIte, Nat.reduceEqDiff, Nat.reduceAdd, Nat.reduceBEq, Nat.reduceLT, Nat.reduceLeDiff, binW, bodyQ, ressW, resW, ne_eq, forall_const, reduceCtorEq, implies_true, sets, oneAll, setD, rels, fillE, fillD, List.replicate, rowsOf, forall_eq, Nat.reduceMul, ↓zD, zT]
  exact .drop (by simp) (by simp [vw])
theorem clone_empO : CallT Try.prog 42 [.emp] St0 (.osl 0 1 0) ⟨1, [(0, ⟨1, []⟩)]⟩ := by
  refine CallT.go_fn mixed Try.func42 k42 (by simp) fun hf => ?_
  simp only [Int.reduceToNat, Int.reduceLT, Int.reduceLE, Int.reduceBEq, Int.reduceBNe, St0, argFr, ↓thenW, ↓blockW, ↓opX, ↓opV, ↓pX, ↓pW, ↓putK, ↓putP, ↓atK, ↓normK, ↓postZ, ↓reduceIte, reduceIte, Nat.reduceEqDiff, Nat.reduceAdd, Nat.reduceBEq, Nat.reduceLT, Nat.reduceLeDiff, binW, bodyQ, ressW, resW, ne_eq, forall_const, reduceCtorEq, implies_true, sets, oneAll, setD, rels, fillE, fillD, List.replicate, rowsOf, forall_eq, Nat.reduceMul, ↓zD, zT]
  (repeat (first | refine And.intro (by omega) ?_ | refine And.intro (ui_nonneg _) ?_ | refine And.intro (Int.natCast_nonneg _) ?_ | refine And.intro rfl ?_ | refine And.intro (rows_one' _ _) ?_ | refine And.intro (us_one _) ?_ | refine And.intro (by intro _ h; cases h; done) ?_))
  exact RetV.name (n := 0) (by simp) (by intro _ h; cases h) (by simp [vw])
end Go.Pd
