/- Resolution: contract: unit propagation. -/
import Derived.Test.YtigkaakdjibakaaC6
set_option linter.unusedSectionVars false
set_option linter.unusedVariables false
set_option linter.unusedSimpArgs false
set_option linter.defProp false
set_option maxRecDepth 20000
namespace Go.Pd
open Go Go.Proofs
open Rs
namespace Rs
/-- What one clause does to the unit found so far. -/
def unitU (K c : List Int) (u : Int) : Int := if u = 0 ∧ (freeL K c).length = 1 ∧ (freeL K c).getD 0 0 ∉ K then (freeL K c).getD 0 0 else u
theorem kd_cells (b : Bool) (K : List Int) : (kd b K).cells = [kd b K] := by cases b <;> rfl
theorem kd_one (b : Bool) (K : List Int) : (kd b K).one = true := by cases b <;> rfl
theorem freeL_keep (K c : List Int) : keepF (negIn K) c = freeL K c := rfl
theorem ko_get {b : Bool} {K : List Int} {m : Nat} {r : List (Nat × Ob)} (hr : ∀ p ∈ r, p.1 ≠ 0) (hb : b = true) : St.get ⟨m, r ++ ko b K⟩ 0 = some ⟨1, rows .i64 K⟩ := by
  subst hb
  show St.look _ 0 = _
  induction r with
  | nil => simp [ko, St.look]
  | cons p r ih =>
    have := hr p (by simp)
    rw [List.cons_append]
    obtain ⟨k, o⟩ := p
    simp only at this
    rw [St.look, if_neg (by simpa using this)]
    exact ih fun p hp => hr p (by simp [hp])
theorem stays_kd (b : Bool) (K : List Int) (m : Nat) (o : Ob) : stays ⟨m, (2, o) :: (1, ⟨1, [[kd b K]]⟩) :: ko b K⟩ ⟨2, (1, ⟨1, [[kd b K]]⟩) :: ko b K⟩ (fun k => k) := by
  cases b
  · simp only [stays, ko, kd, Bool.false_eq_true, if_false, List.forall_mem_singleton]
    refine ⟨by omega, ⟨1, [[.nils]]⟩, by simp [St.get, St.look], rfl, ?_⟩
    exact .cons rfl (by simp [vwL, vw]) .nil
  · intro p hp
    simp only [ko, if_true, List.mem_cons, List.not_mem_nil, or_false] at hp
    rcases hp with rfl | rfl
    · refine ⟨by simp, ⟨1, [[kd true K]]⟩, by simp [St.get, St.look], rfl, ?_⟩
      exact .cons rfl (by simp [vwL, vw, kd]) .nil
    · refine ⟨by simp, ⟨1, rows .i64 K⟩, by simp [St.get, St.look, ko], rfl, .same (rows_pure _ _)⟩
theorem apart_kd (b : Bool) (K : List Int) (m : Nat) (B : Ob) : apartNames ⟨m, (1, B) :: ko b K⟩ (fun k => k) := fun p _ q _ h => h
/-- What is known stays, or grows by a unit. -/
theorem unitU_eq (K c : List Int) (u : Int) : (if u = 0 ∧ (freeL K c).length = 1 ∧ (freeL K c).getD 0 0 ∉ K then (freeL K c).getD 0 0 else u) = unitU K c u := rfl
end Rs
/-- Ordering what is known: two cases. -/
theorem order_kd {b : Bool} {K : List Int} {m : Nat} {r : List (Nat × Ob)} (hm : 0 < m) (hr : ∀ p ∈ r, p.1 ≠ 0) (hb : b = false → K = []) (hK : good K) :
    (K = [] ∧ CallT Try.prog 37 [kd b K] ⟨m, r ++ ko b K⟩ (.sl 1 []) ⟨m, r ++ ko b K⟩) ∨ (K ≠ [] ∧ CallT Try.prog 37 [kd b K] ⟨m, r ++ ko b K⟩ (.osl m 1 (canon K).length) ⟨m + 1, (m, ⟨1, rows .i64 (ordZ K)⟩) :: (r ++ ko b K)⟩) := by
  have hKl := good_len hK
  cases b
  · exact .inl ⟨hb rfl, order_of_nil (CallT.of_runs clone_nils rfl)⟩
  · have hg := ko_get (m := m) (K := K) hr rfl
    by_cases h : K = []
    · subst h
      exact .inl ⟨rfl, order_osl0 hm hg⟩
    · exact .inr ⟨h, order_lent h (by omega) hK.1 hg⟩
theorem walk19 {n : Int} {l : List (List Int)} {g : List Int} {ga : D} {b0 : Bool} {d : D} {S : St}     (hnorm : ∀ σ, CallT Try.prog 40 [.int .i64 n, ga] σ (.int .i64 (normE n (-1) g)) σ)
    (hclone : CallT Try.prog 42 [ga] St0 (kd b0 g) ⟨1, ko b0 g⟩) (hb0 : b0 = false → g = [])
    (hc : checkC n l = 0) (hn : normE n (-1) g = 0)
    (hfin : ∀ m key r, propK l g ≠ [] → RetV 0 ⟨m, (key, ⟨1, rows .i64 (ordZ (propK l g))⟩) :: r⟩ (.tup [.osl key 1 (canon (propK l g)).length, .int .i64 (confR (propK l g) l 0), .int .i64 0]) S d)
    (hfin0 : ∀ m r, propK l g = [] → RetV 0 ⟨m, r⟩ (.tup [.sl 1 [], .int .i64 (confR (propK l g) l 0), .int .i64 0]) S d) :
    CallT Try.prog 19 [.int .i64 n, .sl 1 (rl l), ga] St0 d S := by
  have e : (checkC n l != 0) = false := by simpa using hc
  have en : (normE n (-1) g != 0) = false := by simpa using hn
  have hok := check_lits hc
  obtain ⟨h1, h2, h3, h4⟩ := checkC_zero hc
  have hgood := norm_good h2 hn
  have hgl := good_len hgood
  refine CallT.go_fn mixed Try.func19 k19 (by simp) fun hf => ?_
  simp only [Int.reduceToNat, Int.reduceLT, Int.reduceLE, Int.reduceBEq, Int.reduceBNe, St0, argFr, ↓thenW, ↓blockW, ↓opX, ↓opV, ↓pX, ↓pW, ↓putK, ↓putP, ↓atK, ↓normK, ↓postZ, ↓reduceIte, reduceIte, Nat.reduceEqDiff, Nat.reduceAdd, Nat.reduceBEq, Nat.reduceLT, Nat.reduceLeDiff, binW, bodyQ, ressW, resW, ne_eq, forall_const, reduceCtorEq, implies_true, sets, oneAll, setD, rels, fillE, fillD, List.replicate, rowsOf, forall_eq, Nat.reduceMul, ↓zD, zT]
  refine .go (CallT.of_runs (check15 n l) (by simp [D.isPureL, D.isPure])) ?_
  simp only [Int.reduceToNat, Int.reduceLT, Int.reduceLE, Int.reduceBEq, Int.reduceBNe, St0, argFr, ↓thenW, ↓blockW, ↓opX, ↓opV, ↓pX, ↓pW, ↓putK, ↓putP, ↓atK, ↓normK, ↓postZ, ↓reduceIte, reduceIte, Nat.reduceEqDiff, Nat.reduceAdd, Nat.reduceBEq, Nat.reduceLT, Nat.reduceLeDiff, binW, bodyQ, ressW, resW, ne_eq, forall_const, reduceCtorEq, implies_true, sets, oneAll, setD, rels, fillE, fillD, List.replicate, rowsOf, forall_eq, Nat.reduceMul, ↓zD, zT, e]
  refine .go (hnorm _) ?_
  simp only [Int.reduceToNat, Int.reduceLT, Int.reduceLE, Int.reduceBEq, Int.reduceBNe, St0, argFr, ↓thenW, ↓blockW, ↓opX, ↓opV, ↓pX, ↓pW, ↓putK, ↓putP, ↓atK, ↓normK, ↓postZ, ↓reduceIte, reduceIte, Nat.reduceEqDiff, Nat.reduceAdd, Nat.reduceBEq, Nat.reduceLT, Nat.reduceLeDiff, binW, bodyQ, ressW, resW, ne_eq, forall_const, reduceCtorEq, implies_true, sets, oneAll, setD, rels, fillE, fillD, List.replicate, rowsOf, forall_eq, Nat.reduceMul, ↓zD, zT, en]
  refine .go hclone ?_
  simp only [Int.reduceToNat, Int.reduceLT, Int.reduceLE, Int.reduceBEq, Int.reduceBNe, St0, argFr, ↓thenW, ↓blockW, ↓opX, ↓opV, ↓pX, ↓pW, ↓putK, ↓putP, ↓atK, ↓normK, ↓postZ, ↓reduceIte, reduceIte, Nat.reduceEqDiff, Nat.reduceAdd, Nat.reduceBEq, Nat.reduceLT, Nat.reduceLeDiff, binW, bodyQ, ressW, resW, ne_eq, forall_const, reduceCtorEq, implies_true, sets, oneAll, setD, rels, fillE, fillD, List.replicate, rowsOf, forall_eq, Nat.reduceMul, ↓zD, zT, kd_cells, kd_one]
  (repeat (first | refine And.intro (by omega) ?_ | refine And.intro (ui_nonneg _) ?_ | refine And.intro (Int.natCast_nonneg _) ?_ | refine And.intro rfl ?_ | refine And.intro (rows_one' _ _) ?_ | refine And.intro (us_one _) ?_ | refine And.intro (by intro _ h; cases h; done) ?_))
  refine wpS_loop (fun _ : Bool × List Int => [(10, .ref 1 1 0 0), (1, .sl 1 (rl l))]) (fun a => ⟨2, (1, ⟨1, [[kd a.1 a.2]]⟩) :: ko a.1 a.2⟩) (fun a => good a.2 ∧ propK l g = propK l a.2 ∧ (a.1 = false → a.2 = [])) (fun a => 13 - a.2.length) (b0, g) ⟨hgood, rfl, hb0⟩ ?_ ?_
  · (refine Weak.same ?_; simp [sameF, Fr.get])
  intro ⟨b, K⟩ ⟨hK, hp, hb⟩
  simp only at hK hp hb
  refine wpS_go mixed ?_
  have hKl := good_len hK
  simp only [Int.reduceToNat, Int.reduceLT, Int.reduceLE, Int.reduceBEq, Int.reduceBNe, St0, argFr, ↓thenW, ↓blockW, ↓opX, ↓opV, ↓pX, ↓pW, ↓putK, ↓putP, ↓atK, ↓normK, ↓postZ, ↓reduceIte, reduceIte, Nat.reduceEqDiff, Nat.reduceAdd, Nat.reduceBEq, Nat.reduceLT, Nat.reduceLeDiff, binW, bodyQ, ressW, resW, ne_eq, forall_const, reduceCtorEq, implies_true, sets, oneAll, setD, rels, fillE, fillD, List.replicate, rowsOf, forall_eq, Nat.reduceMul, ↓zD, zT]
  refine wpS_loop (fun a : Nat × Int => [(30, .int .i64 a.1), (29, .int .i64 l.length), (28, .sl 1 (rl l)), (12, .int .i64 a.2), (11, .int .i64 (-1)), (10, .ref 1 1 0 0), (1, .sl 1 (rl l))]) (fun _ => ⟨2, (1, ⟨1, [[kd b K]]⟩) :: ko b K⟩) (fun a => a.1 ≤ l.length ∧ scan K l 0 0 = scan K (l.drop a.1) a.1 a.2) (fun a => l.length - a.1) (0, 0) ⟨Nat.zero_le _, rfl⟩ ?_ ?_
  · (refine Weak.same ?_; simp [sameF, Fr.get, rl_len])
  intro ⟨k, u⟩ ⟨hk, hi⟩
  simp only at hk hi
  refine wpS_go mixed ?_
  have hz : ∀ c ∈ l, ∀ x ∈ c, x ≠ 0 := fun c hc x hx => (litOk_iff.1 ((hok c hc).2 x hx)).1
  have hlaw := scan_law hK l 0 0 (Int.le_refl 0) hz
  rw [if_pos rfl] at hlaw
  by_cases hh : k < l.length
  case neg =>
    have hd : ¬ ((k : Int) < (l.length : Int)) := by omega
    rw [List.drop_eq_nil_of_le (by omega), scan] at hi
    rw [hi] at hlaw
    have hcf : confR K l 0 = -1 := hlaw.1.symm
    have hu : u = unitR K l := hlaw.2 (by omega)
    by_cases hu0 : u = 0
    · have hs : stepK l K = none := if_neg fun h => h.2 (by rw [← hu, hu0])
      have hst : propK l g = K := by rw [hp, propK_stop hK hs]
      rw [hst, hcf] at hfin hfin0
      subst hu0
      rcases order_kd (m := 2) (r := [(1, ⟨1, [[kd b K]]⟩)]) (by omega) (by simp) hb hK with ⟨he, ho⟩ | ⟨he, ho⟩
      · simp only [Int.reduceToNat, Int.reduceLT, Int.reduceLE, Int.reduceBEq, Int.reduceBNe, St0, argFr, ↓thenW, ↓blockW, ↓opX, ↓opV, ↓pX, ↓pW, ↓putK, ↓putP, ↓atK, ↓normK, ↓postZ, ↓reduceIte, reduceIte, Nat.reduceEqDiff, Nat.reduceAdd, Nat.reduceBEq, Nat.reduceLT, Nat.reduceLeDiff, binW, bodyQ, ressW, resW, ne_eq, forall_const, reduceCtorEq, implies_true, sets, oneAll, setD, rels, fillE, fillD, List.replicate, rowsOf, forall_eq, Nat.reduceMul, ↓zD, zT, hd, kd_cells]
        refine .go ho ?_
        simp only [Int.reduceToNat, Int.reduceLT, Int.reduceLE, Int.reduceBEq, Int.reduceBNe, St0, argFr, ↓thenW, ↓blockW, ↓opX, ↓opV, ↓pX, ↓pW, ↓putK, ↓putP, ↓atK, ↓normK, ↓postZ, ↓reduceIte, reduceIte, Nat.reduceEqDiff, Nat.reduceAdd, Nat.reduceBEq, Nat.reduceLT, Nat.reduceLeDiff, binW, bodyQ, ressW, resW, ne_eq, forall_const, reduceCtorEq, implies_true, sets, oneAll, setD, rels, fillE, fillD, List.replicate, rowsOf, forall_eq, Nat.reduceMul, ↓zD, zT]
        exact hfin0 _ _ he
      · simp only [Int.reduceToNat, Int.reduceLT, Int.reduceLE, Int.reduceBEq, Int.reduceBNe, St0, argFr, ↓thenW, ↓blockW, ↓opX, ↓opV, ↓pX, ↓pW, ↓putK, ↓putP, ↓atK, ↓normK, ↓postZ, ↓reduceIte, reduceIte, Nat.reduceEqDiff, Nat.reduceAdd, Nat.reduceBEq, Nat.reduceLT, Nat.reduceLeDiff, binW, bodyQ, ressW, resW, ne_eq, forall_const, reduceCtorEq, implies_true, sets, oneAll, setD, rels, fillE, fillD, List.replicate, rowsOf, forall_eq, Nat.reduceMul, ↓zD, zT, hd, kd_cells]
        refine .go ho ?_
        simp only [Int.reduceToNat, Int.reduceLT, Int.reduceLE, Int.reduceBEq, Int.reduceBNe, St0, argFr, ↓thenW, ↓blockW, ↓opX, ↓opV, ↓pX, ↓pW, ↓putK, ↓putP, ↓atK, ↓normK, ↓postZ, ↓reduceIte, reduceIte, Nat.reduceEqDiff, Nat.reduceAdd, Nat.reduceBEq, Nat.reduceLT, Nat.reduceLeDiff, binW, bodyQ, ressW, resW, ne_eq, forall_const, reduceCtorEq, implies_true, sets, oneAll, setD, rels, fillE, fillD, List.replicate, rowsOf, forall_eq, Nat.reduceMul, ↓zD, zT]
        exact hfin _ _ _ he
    · have hu1 : (u == 0) = false := by simpa using hu0
      have hs : stepK l K = some u := by rw [hu]; exact if_pos ⟨by omega, by rw [← hu]; exact hu0⟩
      have hg2 := step_good hok hK hs
      have hl2 := good_len hg2
      simp only [List.length_append, List.length_singleton] at hl2
      cases b
      · have hKe := hb rfl
        subst hKe
        simp only [kd, ko, Bool.false_eq_true, if_false]
        simp only [Int.reduceToNat, Int.reduceLT, Int.reduceLE, Int.reduceBEq, Int.reduceBNe, St0, argFr, ↓thenW, ↓blockW, ↓opX, ↓opV, ↓pX, ↓pW, ↓putK, ↓putP, ↓atK, ↓normK, ↓postZ, ↓reduceIte, reduceIte, Nat.reduceEqDiff, Nat.reduceAdd, Nat.reduceBEq, Nat.reduceLT, Nat.reduceLeDiff, binW, bodyQ, ressW, resW, ne_eq, forall_const, reduceCtorEq, implies_true, sets, oneAll, setD, rels, fillE, fillD, List.replicate, rowsOf, forall_eq, Nat.reduceMul, ↓zD, zT, hd, hu1]
        (repeat (first | refine And.intro (by omega) ?_ | refine And.intro (ui_nonneg _) ?_ | refine And.intro (Int.natCast_nonneg _) ?_ | refine And.intro rfl ?_ | refine And.intro (rows_one' _ _) ?_ | refine And.intro (us_one _) ?_ | refine And.intro (by intro _ h; cases h; done) ?_))
        refine ⟨(true, [u]), ⟨hg2, by rw [hp, propK_step hg2 hs]; rfl, fun h => by cases h⟩, ?_, by simp⟩
        simp only [kd, ko, if_true]
        (refine Weak.ren [(0, 2)] [1, 0] (by simp) (by simp) (by decide) ?_; simp only [stay1, vwL, vw, vwF, sw, St.get, St.look, Fr.get, ↓reduceIte, reduceIte, Nat.reduceEqDiff, Nat.reduceAdd, Nat.reduceBEq, Nat.reduceLT, Nat.reduceLeDiff, exists_eq_left', ne_eq, reduceCtorEq, zR])
        try simp
      · simp only [kd, ko, if_true]
        simp only [Int.reduceToNat, Int.reduceLT, Int.reduceLE, Int.reduceBEq, Int.reduceBNe, St0, argFr, ↓thenW, ↓blockW, ↓opX, ↓opV, ↓pX, ↓pW, ↓putK, ↓putP, ↓atK, ↓normK, ↓postZ, ↓reduceIte, reduceIte, Nat.reduceEqDiff, Nat.reduceAdd, Nat.reduceBEq, Nat.reduceLT, Nat.reduceLeDiff, binW, bodyQ, ressW, resW, ne_eq, forall_const, reduceCtorEq, implies_true, sets, oneAll, setD, rels, fillE, fillD, List.replicate, rowsOf, forall_eq, Nat.reduceMul, ↓zD, zT, hd, hu1]
        (repeat (first | refine And.intro (by omega) ?_ | refine And.intro (ui_nonneg _) ?_ | refine And.intro (Int.natCast_nonneg _) ?_ | refine And.intro rfl ?_ | refine And.intro (rows_one' _ _) ?_ | refine And.intro (us_one _) ?_ | refine And.intro (by intro _ h; cases h; done) ?_))
        refine ⟨(true, K ++ [u]), ⟨hg2, by rw [hp, propK_step hg2 hs], fun h => by cases h⟩, ?_, by simp; omega⟩
        simp only [kd, ko, if_true]
        (refine Weak.ren [(0, 2)] [1, 0] (by simp) (by simp) (by decide) ?_; simp only [stay1, vwL, vw, vwF, sw, St.get, St.look, Fr.get, ↓reduceIte, reduceIte, Nat.reduceEqDiff, Nat.reduceAdd, Nat.reduceBEq, Nat.reduceLT, Nat.reduceLeDiff, exists_eq_left', ne_eq, reduceCtorEq, zR])
        try simp
  have hd : ((k : Int) < (l.length : Int)) := by omega
  have hcl := hok _ (getD_mem (d := []) hh)
  have hget := rl_get l hh
  rw [drop_cons (d := []) hh, scan] at hi
  generalize l.getD k [] = c at hcl hget hi
  by_cases hcn : c = []
  · subst hcn
    rw [if_pos (show freeL K [] = [] from rfl)] at hi
    rw [hi] at hlaw
    have hcf : confR K l 0 = k := hlaw.1.symm
    have hs : stepK l K = none := if_neg fun h => by omega
    have hst : propK l g = K := by rw [hp, propK_stop hK hs]
    rw [hst, hcf] at hfin hfin0
    rcases order_kd (m := 2) (r := [(1, ⟨1, [[kd b K]]⟩)]) (by omega) (by simp) hb hK with ⟨he, ho⟩ | ⟨he, ho⟩
    · simp only [Int.reduceToNat, Int.reduceLT, Int.reduceLE, Int.reduceBEq, Int.reduceBNe, St0, argFr, ↓thenW, ↓blockW, ↓opX, ↓opV, ↓pX, ↓pW, ↓putK, ↓putP, ↓atK, ↓normK, ↓postZ, ↓reduceIte, reduceIte, Nat.reduceEqDiff, Nat.reduceAdd, Nat.reduceBEq, Nat.reduceLT, Nat.reduceLeDiff, binW, bodyQ, ressW, resW, ne_eq, forall_const, reduceCtorEq, implies_true, sets, oneAll, setD, rels, fillE, fillD, List.replicate, rowsOf, forall_eq, Nat.reduceMul, ↓zD, zT, hd, hget, rl_len]
      (repeat (first | refine And.intro (by omega) ?_ | refine And.intro (ui_nonneg _) ?_ | refine And.intro (Int.natCast_nonneg _) ?_ | refine And.intro rfl ?_ | refine And.intro (rows_one' _ _) ?_ | refine And.intro (us_one _) ?_ | refine And.intro (by intro _ h; cases h; done) ?_))
      refine .go (CallT.of_runs clone_nil rfl) ?_
      simp only [Int.reduceToNat, Int.reduceLT, Int.reduceLE, Int.reduceBEq, Int.reduceBNe, St0, argFr, ↓thenW, ↓blockW, ↓opX, ↓opV, ↓pX, ↓pW, ↓putK, ↓putP, ↓atK, ↓normK, ↓postZ, ↓reduceIte, reduceIte, Nat.reduceEqDiff, Nat.reduceAdd, Nat.reduceBEq, Nat.reduceLT, Nat.reduceLeDiff, binW, bodyQ, ressW, resW, ne_eq, forall_const, reduceCtorEq, implies_true, sets, oneAll, setD, rels, fillE, fillD, List.replicate, rowsOf, forall_eq, Nat.reduceMul, ↓zD, zT]
      refine .go delete_nil ?_
      simp only [Int.reduceToNat, Int.reduceLT, Int.reduceLE, Int.reduceBEq, Int.reduceBNe, St0, argFr, ↓thenW, ↓blockW, ↓opX, ↓opV, ↓pX, ↓pW, ↓putK, ↓putP, ↓atK, ↓normK, ↓postZ, ↓reduceIte, reduceIte, Nat.reduceEqDiff, Nat.reduceAdd, Nat.reduceBEq, Nat.reduceLT, Nat.reduceLeDiff, binW, bodyQ, ressW, resW, ne_eq, forall_const, reduceCtorEq, implies_true, sets, oneAll, setD, rels, fillE, fillD, List.replicate, rowsOf, forall_eq, Nat.reduceMul, ↓zD, zT, kd_cells]
      refine .go ho ?_
      simp only [Int.reduceToNat, Int.reduceLT, Int.reduceLE, Int.reduceBEq, Int.reduceBNe, St0, argFr, ↓thenW, ↓blockW, ↓opX, ↓opV, ↓pX, ↓pW, ↓putK, ↓putP, ↓atK, ↓normK, ↓postZ, ↓reduceIte, reduceIte, Nat.reduceEqDiff, Nat.reduceAdd, Nat.reduceBEq, Nat.reduceLT, Nat.reduceLeDiff, binW, bodyQ, ressW, resW, ne_eq, forall_const, reduceCtorEq, implies_true, sets, oneAll, setD, rels, fillE, fillD, List.replicate, rowsOf, forall_eq, Nat.reduceMul, ↓zD, zT]
      exact hfin0 _ _ he
    · simp only [Int.reduceToNat, Int.reduceLT, Int.reduceLE, Int.reduceBEq, Int.reduceBNe, St0, argFr, ↓thenW, ↓blockW, ↓opX, ↓opV, ↓pX, ↓pW, ↓putK, ↓putP, ↓atK, ↓normK, ↓postZ, ↓reduceIte, reduceIte, Nat.reduceEqDiff, Nat.reduceAdd, Nat.reduceBEq, Nat.reduceLT, Nat.reduceLeDiff, binW, bodyQ, ressW, resW, ne_eq, forall_const, reduceCtorEq, implies_true, sets, oneAll, setD, rels, fillE, fillD, List.replicate, rowsOf, forall_eq, Nat.reduceMul, ↓zD, zT, hd, hget, rl_len]
      (repeat (first | refine And.intro (by omega) ?_ | refine And.intro (ui_nonneg _) ?_ | refine And.intro (Int.natCast_nonneg _) ?_ | refine And.intro rfl ?_ | refine And.intro (rows_one' _ _) ?_ | refine And.intro (us_one _) ?_ | refine And.intro (by intro _ h; cases h; done) ?_))
      refine .go (CallT.of_runs clone_nil rfl) ?_
      simp only [Int.reduceToNat, Int.reduceLT, Int.reduceLE, Int.reduceBEq, Int.reduceBNe, St0, argFr, ↓thenW, ↓blockW, ↓opX, ↓opV, ↓pX, ↓pW, ↓putK, ↓putP, ↓atK, ↓normK, ↓postZ, ↓reduceIte, reduceIte, Nat.reduceEqDiff, Nat.reduceAdd, Nat.reduceBEq, Nat.reduceLT, Nat.reduceLeDiff, binW, bodyQ, ressW, resW, ne_eq, forall_const, reduceCtorEq, implies_true, sets, oneAll, setD, rels, fillE, fillD, List.replicate, rowsOf, forall_eq, Nat.reduceMul, ↓zD, zT]
      refine .go delete_nil ?_
      simp only [Int.reduceToNat, Int.reduceLT, Int.reduceLE, Int.reduceBEq, Int.reduceBNe, St0, argFr, ↓thenW, ↓blockW, ↓opX, ↓opV, ↓pX, ↓pW, ↓putK, ↓putP, ↓atK, ↓normK, ↓postZ, ↓reduceIte, reduceIte, Nat.reduceEqDiff, Nat.reduceAdd, Nat.reduceBEq, Nat.reduceLT, Nat.reduceLeDiff, binW, bodyQ, ressW, resW, ne_eq, forall_const, reduceCtorEq, implies_true, sets, oneAll, setD, rels, fillE, fillD, List.replicate, rowsOf, forall_eq, Nat.reduceMul, ↓zD, zT, kd_cells]
      refine .go ho ?_
      simp only [Int.reduceToNat, Int.reduceLT, Int.reduceLE, Int.reduceBEq, Int.reduceBNe, St0, argFr, ↓thenW, ↓blockW, ↓opX, ↓opV, ↓pX, ↓pW, ↓putK, ↓putP, ↓atK, ↓normK, ↓postZ, ↓reduceIte, reduceIte, Nat.reduceEqDiff, Nat.reduceAdd, Nat.reduceBEq, Nat.reduceLT, Nat.reduceLeDiff, binW, bodyQ, ressW, resW, ne_eq, forall_const, reduceCtorEq, implies_true, sets, oneAll, setD, rels, fillE, fillD, List.replicate, rowsOf, forall_eq, Nat.reduceMul, ↓zD, zT]
      exact hfin _ _ _ he
  · have hcl1 : CallT Try.prog 42 [.sl 1 (rows .i64 c)] ⟨2, (1, ⟨1, [[kd b K]]⟩) :: ko b K⟩ (.osl 2 1 c.length) ⟨3, (2, ⟨1, rows .i64 c⟩) :: (1, ⟨1, [[kd b K]]⟩) :: ko b K⟩ := CallT.own1' (clone_own hcn (by omega)) (by simp [D.isPureL, D.isPure]) (rows_pure _ _)
    have hdel := delete43 (σ := ⟨3, (2, ⟨1, rows .i64 c⟩) :: (1, ⟨1, [[kd b K]]⟩) :: ko b K⟩) (key := 2) (g := 44) (caps := [.ref 1 1 0 0]) (f := negIn K) (c := c) (by simp [St.get, St.look]) (by omega) hcn fun x hx ob => by
      have hx2 := litOk_iff.1 (hcl.2 x hx)
      rw [set_mk]
      simp only [setL, if_true, reduceIte, BEq.rfl]
      exact literal44 (by omega) (by simp [St.get, St.look]) (lend_kd (r := [(2, ob), (1, ⟨1, [[kd b K]]⟩)]) (by simp) hb)
    rw [set_mk, freeL_keep] at hdel
    simp only [setL, if_true, reduceIte, BEq.rfl] at hdel
    by_cases hf : freeL K c = []
    · rw [if_pos hf] at hi
      rw [hi] at hlaw
      have hcf : confR K l 0 = k := hlaw.1.symm
      have hs : stepK l K = none := if_neg fun h => by omega
      have hst : propK l g = K := by rw [hp, propK_stop hK hs]
      rw [hst, hcf] at hfin hfin0
      have hl0 : (freeL K c).length = 0 := by rw [hf]; rfl
      rcases order_kd (m := 3) (r := [(2, ⟨1, rows .i64 (keepZ (negIn K) c)⟩), (1, ⟨1, [[kd b K]]⟩)]) (by omega) (by simp) hb hK with ⟨he, ho⟩ | ⟨he, ho⟩
      · simp only [Int.reduceToNat, Int.reduceLT, Int.reduceLE, Int.reduceBEq, Int.reduceBNe, St0, argFr, ↓thenW, ↓blockW, ↓opX, ↓opV, ↓pX, ↓pW, ↓putK, ↓putP, ↓atK, ↓normK, ↓postZ, ↓reduceIte, reduceIte, Nat.reduceEqDiff, Nat.reduceAdd, Nat.reduceBEq, Nat.reduceLT, Nat.reduceLeDiff, binW, bodyQ, ressW, resW, ne_eq, forall_const, reduceCtorEq, implies_true, sets, oneAll, setD, rels, fillE, fillD, List.replicate, rowsOf, forall_eq, Nat.reduceMul, ↓zD, zT, hd, hget, rl_len]
        (repeat (first | refine And.intro (by omega) ?_ | refine And.intro (ui_nonneg _) ?_ | refine And.intro (Int.natCast_nonneg _) ?_ | refine And.intro rfl ?_ | refine And.intro (rows_one' _ _) ?_ | refine And.intro (us_one _) ?_ | refine And.intro (by intro _ h; cases h; done) ?_))
        refine .go hcl1 ?_
        simp only [Int.reduceToNat, Int.reduceLT, Int.reduceLE, Int.reduceBEq, Int.reduceBNe, St0, argFr, ↓thenW, ↓blockW, ↓opX, ↓opV, ↓pX, ↓pW, ↓putK, ↓putP, ↓atK, ↓normK, ↓postZ, ↓reduceIte, reduceIte, Nat.reduceEqDiff, Nat.reduceAdd, Nat.reduceBEq, Nat.reduceLT, Nat.reduceLeDiff, binW, bodyQ, ressW, resW, ne_eq, forall_const, reduceCtorEq, implies_true, sets, oneAll, setD, rels, fillE, fillD, List.replicate, rowsOf, forall_eq, Nat.reduceMul, ↓zD, zT]
        refine .go hdel ?_
        simp only [Int.reduceToNat, Int.reduceLT, Int.reduceLE, Int.reduceBEq, Int.reduceBNe, St0, argFr, ↓thenW, ↓blockW, ↓opX, ↓opV, ↓pX, ↓pW, ↓putK, ↓putP, ↓atK, ↓normK, ↓postZ, ↓reduceIte, reduceIte, Nat.reduceEqDiff, Nat.reduceAdd, Nat.reduceBEq, Nat.reduceLT, Nat.reduceLeDiff, binW, bodyQ, ressW, resW, ne_eq, forall_const, reduceCtorEq, implies_true, sets, oneAll, setD, rels, fillE, fillD, List.replicate, rowsOf, forall_eq, Nat.reduceMul, ↓zD, zT, kd_cells, hl0]
        refine .go ho ?_
        simp only [Int.reduceToNat, Int.reduceLT, Int.reduceLE, Int.reduceBEq, Int.reduceBNe, St0, argFr, ↓thenW, ↓blockW, ↓opX, ↓opV, ↓pX, ↓pW, ↓putK, ↓putP, ↓atK, ↓normK, ↓postZ, ↓reduceIte, reduceIte, Nat.reduceEqDiff, Nat.reduceAdd, Nat.reduceBEq, Nat.reduceLT, Nat.reduceLeDiff, binW, bodyQ, ressW, resW, ne_eq, forall_const, reduceCtorEq, implies_true, sets, oneAll, setD, rels, fillE, fillD, List.replicate, rowsOf, forall_eq, Nat.reduceMul, ↓zD, zT]
        exact hfin0 _ _ he
      · simp only [Int.reduceToNat, Int.reduceLT, Int.reduceLE, Int.reduceBEq, Int.reduceBNe, St0, argFr, ↓thenW, ↓blockW, ↓opX, ↓opV, ↓pX, ↓pW, ↓putK, ↓putP, ↓atK, ↓normK, ↓postZ, ↓reduceIte, reduceIte, Nat.reduceEqDiff, Nat.reduceAdd, Nat.reduceBEq, Nat.reduceLT, Nat.reduceLeDiff, binW, bodyQ, ressW, resW, ne_eq, forall_const, reduceCtorEq, implies_true, sets, oneAll, setD, rels, fillE, fillD, List.replicate, rowsOf, forall_eq, Nat.reduceMul, ↓zD, zT, hd, hget, rl_len]
        (repeat (first | refine And.intro (by omega) ?_ | refine And.intro (ui_nonneg _) ?_ | refine And.intro (Int.natCast_nonneg _) ?_ | refine And.intro rfl ?_ | refine And.intro (rows_one' _ _) ?_ | refine And.intro (us_one _) ?_ | refine And.intro (by intro _ h; cases h; done) ?_))
        refine .go hcl1 ?_
        simp only [Int.reduceToNat, Int.reduceLT, Int.reduceLE, Int.reduceBEq, Int.reduceBNe, St0, argFr, ↓thenW, ↓blockW, ↓opX, ↓opV, ↓pX, ↓pW, ↓putK, ↓putP, ↓atK, ↓normK, ↓postZ, ↓reduceIte, reduceIte, Nat.reduceEqDiff, Nat.reduceAdd, Nat.reduceBEq, Nat.reduceLT, Nat.reduceLeDiff, binW, bodyQ, ressW, resW, ne_eq, forall_const, reduceCtorEq, implies_true, sets, oneAll, setD, rels, fillE, fillD, List.replicate, rowsOf, forall_eq, Nat.reduceMul, ↓zD, zT]
        refine .go hdel ?_
        simp only [Int.reduceToNat, Int.reduceLT, Int.reduceLE, Int.reduceBEq, Int.reduceBNe, St0, argFr, ↓thenW, ↓blockW, ↓opX, ↓opV, ↓pX, ↓pW, ↓putK, ↓putP, ↓atK, ↓normK, ↓postZ, ↓reduceIte, reduceIte, Nat.reduceEqDiff, Nat.reduceAdd, Nat.reduceBEq, Nat.reduceLT, Nat.reduceLeDiff, binW, bodyQ, ressW, resW, ne_eq, forall_const, reduceCtorEq, implies_true, sets, oneAll, setD, rels, fillE, fillD, List.replicate, rowsOf, forall_eq, Nat.reduceMul, ↓zD, zT, kd_cells, hl0]
        refine .go ho ?_
        simp only [Int.reduceToNat, Int.reduceLT, Int.reduceLE, Int.reduceBEq, Int.reduceBNe, St0, argFr, ↓thenW, ↓blockW, ↓opX, ↓opV, ↓pX, ↓pW, ↓putK, ↓putP, ↓atK, ↓normK, ↓postZ, ↓reduceIte, reduceIte, Nat.reduceEqDiff, Nat.reduceAdd, Nat.reduceBEq, Nat.reduceLT, Nat.reduceLeDiff, binW, bodyQ, ressW, resW, ne_eq, forall_const, reduceCtorEq, implies_true, sets, oneAll, setD, rels, fillE, fillD, List.replicate, rowsOf, forall_eq, Nat.reduceMul, ↓zD, zT]
        exact hfin _ _ _ he
    · rw [if_neg hf] at hi
      have hlp : 0 < (freeL K c).length := List.length_pos_iff.2 hf
      have hl0 : ((freeL K c).length : Int) ≠ 0 := by omega
      have hl0' : (((freeL K c).length : Int) == 0) = false := by simpa using hl0
      have hkz : keepZ (negIn K) c = freeL K c ++ List.replicate (c.length - (freeL K c).length) 0 := rfl
      have hgz : (keepZ (negIn K) c).getD 0 0 = (freeL K c).getD 0 0 := by
        rw [hkz]
        simp [List.getD, List.getElem?_append_left hlp]
      have hzl : 0 < (keepZ (negIn K) c).length := by rw [hkz, List.length_append]; omega
      by_cases hu0 : u = 0
      · subst hu0
        by_cases h1 : (freeL K c).length = 1
        · have hl1 : (((freeL K c).length : Int) == 1) = true := by simp [h1]
          have hcon : CallT Try.prog 45 [kd b K, .int .i64 ((freeL K c).getD 0 0)] ⟨3, (2, ⟨1, rows .i64 (keepZ (negIn K) c)⟩) :: (1, ⟨1, [[kd b K]]⟩) :: ko b K⟩ (.bool (decide ((freeL K c).getD 0 0 ∈ K))) ⟨3, (2, ⟨1, rows .i64 (keepZ (negIn K) c)⟩) :: (1, ⟨1, [[kd b K]]⟩) :: ko b K⟩ :=
            CallT.lent (contains45 K ((freeL K c).getD 0 0)) (show lendL _ [kd b K, .int .i64 ((freeL K c).getD 0 0)] [.sl 1 (rows .i64 K), .int .i64 ((freeL K c).getD 0 0)] from ⟨lend_kd (r := [(2, ⟨1, rows .i64 (keepZ (negIn K) c)⟩), (1, ⟨1, [[kd b K]]⟩)]) (by simp) hb, lend_int _ _, trivial⟩) rfl
          simp only [Int.reduceToNat, Int.reduceLT, Int.reduceLE, Int.reduceBEq, Int.reduceBNe, St0, argFr, ↓thenW, ↓blockW, ↓opX, ↓opV, ↓pX, ↓pW, ↓putK, ↓putP, ↓atK, ↓normK, ↓postZ, ↓reduceIte, reduceIte, Nat.reduceEqDiff, Nat.reduceAdd, Nat.reduceBEq, Nat.reduceLT, Nat.reduceLeDiff, binW, bodyQ, ressW, resW, ne_eq, forall_const, reduceCtorEq, implies_true, sets, oneAll, setD, rels, fillE, fillD, List.replicate, rowsOf, forall_eq, Nat.reduceMul, ↓zD, zT, hd, hget, rl_len]
          (repeat (first | refine And.intro (by omega) ?_ | refine And.intro (ui_nonneg _) ?_ | refine And.intro (Int.natCast_nonneg _) ?_ | refine And.intro rfl ?_ | refine And.intro (rows_one' _ _) ?_ | refine And.intro (us_one _) ?_ | refine And.intro (by intro _ h; cases h; done) ?_))
          refine .go hcl1 ?_
          simp only [Int.reduceToNat, Int.reduceLT, Int.reduceLE, Int.reduceBEq, Int.reduceBNe, St0, argFr, ↓thenW, ↓blockW, ↓opX, ↓opV, ↓pX, ↓pW, ↓putK, ↓putP, ↓atK, ↓normK, ↓postZ, ↓reduceIte, reduceIte, Nat.reduceEqDiff, Nat.reduceAdd, Nat.reduceBEq, Nat.reduceLT, Nat.reduceLeDiff, binW, bodyQ, ressW, resW, ne_eq, forall_const, reduceCtorEq, implies_true, sets, oneAll, setD, rels, fillE, fillD, List.replicate, rowsOf, forall_eq, Nat.reduceMul, ↓zD, zT]
          refine .go hdel ?_
          simp only [Int.reduceToNat, Int.reduceLT, Int.reduceLE, Int.reduceBEq, Int.reduceBNe, St0, argFr, ↓thenW, ↓blockW, ↓opX, ↓opV, ↓pX, ↓pW, ↓putK, ↓putP, ↓atK, ↓normK, ↓postZ, ↓reduceIte, reduceIte, Nat.reduceEqDiff, Nat.reduceAdd, Nat.reduceBEq, Nat.reduceLT, Nat.reduceLeDiff, binW, bodyQ, ressW, resW, ne_eq, forall_const, reduceCtorEq, implies_true, sets, oneAll, setD, rels, fillE, fillD, List.replicate, rowsOf, forall_eq, Nat.reduceMul, ↓zD, zT, kd_cells, hl0', hl1, rows_get .i64 (keepZ (negIn K) c) hzl, hgz, rows_len]
          (repeat (first | refine And.intro (by omega) ?_ | refine And.intro (ui_nonneg _) ?_ | refine And.intro (Int.natCast_nonneg _) ?_ | refine And.intro rfl ?_ | refine And.intro (rows_one' _ _) ?_ | refine And.intro (us_one _) ?_ | refine And.intro (by intro _ h; cases h; done) ?_))
          refine .go hcon ?_
          by_cases hin : (freeL K c).getD 0 0 ∈ K
          · rw [if_neg (fun h => h.2.2 hin)] at hi
            simp only [Int.reduceToNat, Int.reduceLT, Int.reduceLE, Int.reduceBEq, Int.reduceBNe, St0, argFr, ↓thenW, ↓blockW, ↓opX, ↓opV, ↓pX, ↓pW, ↓putK, ↓putP, ↓atK, ↓normK, ↓postZ, ↓reduceIte, reduceIte, Nat.reduceEqDiff, Nat.reduceAdd, Nat.reduceBEq, Nat.reduceLT, Nat.reduceLeDiff, binW, bodyQ, ressW, resW, ne_eq, forall_const, reduceCtorEq, implies_true, sets, oneAll, setD, rels, fillE, fillD, List.replicate, rowsOf, forall_eq, Nat.reduceMul, ↓zD, zT, decide_eq_true hin]
            refine ⟨(k + 1, 0), ⟨by show k + 1 ≤ l.length; omega, hi⟩, ?_, by show l.length - (k + 1) < l.length - k; omega⟩
            exact Weak.view (fun k => k) (by simp) (by simp) (by simp [vwF, vw, Fr.get]; exact wrap_i64 (by omega)) (stays_kd _ _ _ _) (apart_kd _ _ _ _)
          · rw [if_pos ⟨rfl, h1, hin⟩] at hi
            simp only [Int.reduceToNat, Int.reduceLT, Int.reduceLE, Int.reduceBEq, Int.reduceBNe, St0, argFr, ↓thenW, ↓blockW, ↓opX, ↓opV, ↓pX, ↓pW, ↓putK, ↓putP, ↓atK, ↓normK, ↓postZ, ↓reduceIte, reduceIte, Nat.reduceEqDiff, Nat.reduceAdd, Nat.reduceBEq, Nat.reduceLT, Nat.reduceLeDiff, binW, bodyQ, ressW, resW, ne_eq, forall_const, reduceCtorEq, implies_true, sets, oneAll, setD, rels, fillE, fillD, List.replicate, rowsOf, forall_eq, Nat.reduceMul, ↓zD, zT, decide_eq_false hin, rows_get .i64 (keepZ (negIn K) c) hzl, hgz, rows_len]
            (repeat (first | refine And.intro (by omega) ?_ | refine And.intro (ui_nonneg _) ?_ | refine And.intro (Int.natCast_nonneg _) ?_ | refine And.intro rfl ?_ | refine And.intro (rows_one' _ _) ?_ | refine And.intro (us_one _) ?_ | refine And.intro (by intro _ h; cases h; done) ?_))
            refine ⟨(k + 1, (freeL K c).getD 0 0), ⟨by show k + 1 ≤ l.length; omega, hi⟩, ?_, by show l.length - (k + 1) < l.length - k; omega⟩
            exact Weak.view (fun k => k) (by simp) (by simp) (by simp [vwF, vw, Fr.get]; exact wrap_i64 (by omega)) (stays_kd _ _ _ _) (apart_kd _ _ _ _)
        · have hl1 : (((freeL K c).length : Int) == 1) = false := by simpa using (show ((freeL K c).length : Int) ≠ 1 by omega)
          rw [if_neg (fun h => h1 h.2.1)] at hi
          simp only [Int.reduceToNat, Int.reduceLT, Int.reduceLE, Int.reduceBEq, Int.reduceBNe, St0, argFr, ↓thenW, ↓blockW, ↓opX, ↓opV, ↓pX, ↓pW, ↓putK, ↓putP, ↓atK, ↓normK, ↓postZ, ↓reduceIte, reduceIte, Nat.reduceEqDiff, Nat.reduceAdd, Nat.reduceBEq, Nat.reduceLT, Nat.reduceLeDiff, binW, bodyQ, ressW, resW, ne_eq, forall_const, reduceCtorEq, implies_true, sets, oneAll, setD, rels, fillE, fillD, List.replicate, rowsOf, forall_eq, Nat.reduceMul, ↓zD, zT, hd, hget, rl_len]
          (repeat (first | refine And.intro (by omega) ?_ | refine And.intro (ui_nonneg _) ?_ | refine And.intro (Int.natCast_nonneg _) ?_ | refine And.intro rfl ?_ | refine And.intro (rows_one' _ _) ?_ | refine And.intro (us_one _) ?_ | refine And.intro (by intro _ h; cases h; done) ?_))
          refine .go hcl1 ?_
          simp only [Int.reduceToNat, Int.reduceLT, Int.reduceLE, Int.reduceBEq, Int.reduceBNe, St0, argFr, ↓thenW, ↓blockW, ↓opX, ↓opV, ↓pX, ↓pW, ↓putK, ↓putP, ↓atK, ↓normK, ↓postZ, ↓reduceIte, reduceIte, Nat.reduceEqDiff, Nat.reduceAdd, Nat.reduceBEq, Nat.reduceLT, Nat.reduceLeDiff, binW, bodyQ, ressW, resW, ne_eq, forall_const, reduceCtorEq, implies_true, sets, oneAll, setD, rels, fillE, fillD, List.replicate, rowsOf, forall_eq, Nat.reduceMul, ↓zD, zT]
          refine .go hdel ?_
          simp only [Int.reduceToNat, Int.reduceLT, Int.reduceLE, Int.reduceBEq, Int.reduceBNe, St0, argFr, ↓thenW, ↓blockW, ↓opX, ↓opV, ↓pX, ↓pW, ↓putK, ↓putP, ↓atK, ↓normK, ↓postZ, ↓reduceIte, reduceIte, Nat.reduceEqDiff, Nat.reduceAdd, Nat.reduceBEq, Nat.reduceLT, Nat.reduceLeDiff, binW, bodyQ, ressW, resW, ne_eq, forall_const, reduceCtorEq, implies_true, sets, oneAll, setD, rels, fillE, fillD, List.replicate, rowsOf, forall_eq, Nat.reduceMul, ↓zD, zT, kd_cells, hl0', hl1]
          refine ⟨(k + 1, 0), ⟨by show k + 1 ≤ l.length; omega, hi⟩, ?_, by show l.length - (k + 1) < l.length - k; omega⟩
          exact Weak.view (fun k => k) (by simp) (by simp) (by simp [vwF, vw, Fr.get]; exact wrap_i64 (by omega)) (stays_kd _ _ _ _) (apart_kd _ _ _ _)
      · have hu1 : (u == 0) = false := by simpa using hu0
        rw [if_neg (fun h => hu0 h.1)] at hi
        simp only [Int.reduceToNat, Int.reduceLT, Int.reduceLE, Int.reduceBEq, Int.reduceBNe, St0, argFr, ↓thenW, ↓blockW, ↓opX, ↓opV, ↓pX, ↓pW, ↓putK, ↓putP, ↓atK, ↓normK, ↓postZ, ↓reduceIte, reduceIte, Nat.reduceEqDiff, Nat.reduceAdd, Nat.reduceBEq, Nat.reduceLT, Nat.reduceLeDiff, binW, bodyQ, ressW, resW, ne_eq, forall_const, reduceCtorEq, implies_true, sets, oneAll, setD, rels, fillE, fillD, List.replicate, rowsOf, forall_eq, Nat.reduceMul, ↓zD, zT, hd, hget, rl_len]
        (repeat (first | refine And.intro (by omega) ?_ | refine And.intro (ui_nonneg _) ?_ | refine And.intro (Int.natCast_nonneg _) ?_ | refine And.intro rfl ?_ | refine And.intro (rows_one' _ _) ?_ | refine And.intro (us_one _) ?_ | refine And.intro (by intro _ h; cases h; done) ?_))
        refine .go hcl1 ?_
        simp only [Int.reduceToNat, Int.reduceLT, Int.reduceLE, Int.reduceBEq, Int.reduceBNe, St0, argFr, ↓thenW, ↓blockW, ↓opX, ↓opV, ↓pX, ↓pW, ↓putK, ↓putP, ↓atK, ↓normK, ↓postZ, ↓reduceIte, reduceIte, Nat.reduceEqDiff, Nat.reduceAdd, Nat.reduceBEq, Nat.reduceLT, Nat.reduceLeDiff, binW, bodyQ, ressW, resW, ne_eq, forall_const, reduceCtorEq, implies_true, sets, oneAll, setD, rels, fillE, fillD, List.replicate, rowsOf, forall_eq, Nat.reduceMul, ↓zD, zT]
        refine .go hdel ?_
        simp only [Int.reduceToNat, Int.reduceLT, Int.reduceLE, Int.reduceBEq, Int.reduceBNe, St0, argFr, ↓thenW, ↓blockW, ↓opX, ↓opV, ↓pX, ↓pW, ↓putK, ↓putP, ↓atK, ↓normK, ↓postZ, ↓reduceIte, reduceIte, Nat.reduceEqDiff, Nat.reduceAdd, Nat.reduceBEq, Nat.reduceLT, Nat.reduceLeDiff, binW, bodyQ, ressW, resW, ne_eq, forall_const, reduceCtorEq, implies_true, sets, oneAll, setD, rels, fillE, fillD, List.replicate, rowsOf, forall_eq, Nat.reduceMul, ↓zD, zT, kd_cells, hl0', hu1]
        refine ⟨(k + 1, u), ⟨by show k + 1 ≤ l.length; omega, hi⟩, ?_, by show l.length - (k + 1) < l.length - k; omega⟩
        exact Weak.view (fun k => k) (by simp) (by simp) (by simp [vwF, vw, Fr.get]; exact wrap_i64 (by omega)) (stays_kd _ _ _ _) (apart_kd _ _ _ _)
end Go.Pd
