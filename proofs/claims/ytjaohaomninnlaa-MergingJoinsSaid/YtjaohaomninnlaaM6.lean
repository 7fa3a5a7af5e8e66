/- Merging: contracts: lists of distances. -/
import Derived.Test.YtjaohaomninnlaaM5
set_option linter.unusedSectionVars false
set_option linter.unusedVariables false
set_option linter.unusedSimpArgs false
set_option linter.defProp false
set_option maxRecDepth 20000
namespace Go.Pd
open Go Go.Proofs
open Mg
/-- A contract whose result is one fresh slice of ints. -/
theorem CallT.own1 {P : Program} {g : FuncId} {args : List D} {σ : St} {len : Nat} {l : List Int} (hc : CallT P g args St0 (.osl 0 1 len) ⟨1, [(0, ⟨1, rows .i64 l⟩)]⟩) (hp : D.isPureL args = true) :
    CallT P g args σ (.osl σ.nx 1 len) ⟨σ.nx + 1, (σ.nx, ⟨1, rows .i64 l⟩) :: σ.objs⟩ := by
  have h := CallT.own (σ := σ) hc hp
  have e : (rows .i64 l).map (D.shiftL σ.nx) = rows .i64 l := by
    unfold rows
    rw [List.map_map]
    apply List.map_congr_left
    intro x _
    simp [D.shiftL, D.shift]
  simpa [shiftObjs, Ob.shift, e, D.shift] using h
theorem osl_view {key m n sz len : Nat} {els : List (List D)} (hs : 0 < sz) (hp : ∀ e ∈ els, D.isPureL e = true) (hl : len = els.length) {ρ : Nat → Nat} {r : List (Nat × Ob)} : vw ⟨m, (key, ⟨sz, els⟩) :: r⟩ ⟨n, []⟩ ρ (.osl key sz len) (.sl sz els) := by
  subst hl
  simp only [vw]
  exact ⟨trivial, hs, by simp, ⟨sz, els⟩, by simp [St.get, St.look], rfl, Nat.le_refl _, by simp, hp⟩
theorem distL_at {n : Nat} {p : List (BitVec 64)} {v k : Nat} (h : k < p.length) : (distL n p v).getD k 0 = distB n (p.getD k 0) v := by simp [distL, List.getD, h]
theorem distL_take {n : Nat} {p : List (BitVec 64)} {v k : Nat} (h : k < p.length) : (distL n p v).take (k + 1) = (distL n p v).take k ++ [distB n (p.getD k 0) v] := by
  have hl : k < (distL n p v).length := by rw [distL_len]; exact h
  rw [List.take_add_one, ← distL_at (n := n) (v := v) h]
  simp [List.getD, hl]
theorem distances_runs {n v : Nat} (p : List (BitVec 64)) (hn : n ≤ 4) (hv : v < 2 ^ n) (hp : p.length ≤ 100) :
    CallT Try.prog 35 [.int .i64 n, .sl 1 (us p), .int .i64 v] St0 (.osl 0 1 p.length) ⟨1, [(0, ⟨1, rows .i64 (distL n p v)⟩)]⟩ := by
  refine CallT.go_fn mixed Try.func35 k35 (by simp) fun hf => ?_
  simp only [Int.reduceToNat, Int.reduceLT, Int.reduceLE, Int.reduceBEq, Int.reduceBNe, St0, argFr, ↓callZ, ↓midZ, ↓unZ, ↓thenW, ↓blockW, ↓opX, ↓opV, ↓pX, ↓pW, ↓putK, ↓putP, ↓atK, ↓normK, ↓postZ, ↓reduceIte, reduceIte, Nat.reduceEqDiff, Nat.reduceAdd, Nat.reduceBEq, Nat.reduceLT, Nat.reduceLeDiff, binW, bodyQ, ressW, resW, ne_eq, forall_const, reduceCtorEq, implies_true, sets, oneAll, setD, rels, fillE, fillD, List.replicate, rowsOf, forall_eq, Nat.reduceMul, ↓zD, zT]
  (repeat refine And.intro (by first | omega | exact ui_nonneg _ | exact Int.natCast_nonneg _ | rfl | exact rows_one' _ _ | exact us_one _ | (intro _ h; cases h; done)) ?_)
  refine wpS_loop (fun k : Nat => [(13, .int .i64 k), (12, .int .i64 p.length), (11, .sl 1 (us p)), (7, .osl 0 1 k), (2, .int .i64 v), (0, .int .i64 n)]) (fun k => ⟨1, [(0, ⟨1, rows .i64 ((distL n p v).take k)⟩)]⟩) (fun k => k ≤ p.length) (fun k => p.length - k) 0 (Nat.zero_le _) ?_ ?_
  · (refine Weak.same ?_; simp [sameF, Fr.get])
  intro k hk
  have hl := distL_len n p v
  refine wpS_go mixed ?_
  by_cases h : k < p.length
  · have hd : ((k : Int) < (p.length : Int)) := by omega
    have hk2 : ((distL n p v).take k).length = k := by rw [List.length_take]; omega
    simp only [Int.reduceToNat, Int.reduceLT, Int.reduceLE, Int.reduceBEq, Int.reduceBNe, St0, argFr, ↓callZ, ↓midZ, ↓unZ, ↓thenW, ↓blockW, ↓opX, ↓opV, ↓pX, ↓pW, ↓putK, ↓putP, ↓atK, ↓normK, ↓postZ, ↓reduceIte, reduceIte, Nat.reduceEqDiff, Nat.reduceAdd, Nat.reduceBEq, Nat.reduceLT, Nat.reduceLeDiff, binW, bodyQ, ressW, resW, ne_eq, forall_const, reduceCtorEq, implies_true, sets, oneAll, setD, rels, fillE, fillD, List.replicate, rowsOf, forall_eq, Nat.reduceMul, ↓zD, zT, hd, us_get _ h]
    (repeat refine And.intro (by first | omega | exact ui_nonneg _ | exact Int.natCast_nonneg _ | rfl | exact rows_one' _ _ | exact us_one _ | (intro _ h; cases h; done)) ?_)
    refine .go (CallT.of_runs (distance_runs (p.getD k 0) hn hv) rfl) ?_
    simp only [Int.reduceToNat, Int.reduceLT, Int.reduceLE, Int.reduceBEq, Int.reduceBNe, St0, argFr, ↓callZ, ↓midZ, ↓unZ, ↓thenW, ↓blockW, ↓opX, ↓opV, ↓pX, ↓pW, ↓putK, ↓putP, ↓atK, ↓normK, ↓postZ, ↓reduceIte, reduceIte, Nat.reduceEqDiff, Nat.reduceAdd, Nat.reduceBEq, Nat.reduceLT, Nat.reduceLeDiff, binW, bodyQ, ressW, resW, ne_eq, forall_const, reduceCtorEq, implies_true, sets, oneAll, setD, rels, fillE, fillD, List.replicate, rowsOf, forall_eq, Nat.reduceMul, ↓zD, zT, hk2]
    (repeat refine And.intro (by first | omega | exact ui_nonneg _ | exact Int.natCast_nonneg _ | rfl | exact rows_one' _ _ | exact us_one _ | (intro _ h; cases h; done)) ?_)
    refine ⟨k + 1, by omega, ?_, by omega⟩
    rw [distL_take h]
    (refine Weak.ren [(0, 1)] [0] (by simp) (by simp) (by decide) ?_; simp only [stay1, vwL, vw, vwF, sw, St.get, St.look, Fr.get, ↓reduceIte, reduceIte, Nat.reduceEqDiff, Nat.reduceAdd, Nat.reduceBEq, Nat.reduceLT, Nat.reduceLeDiff, exists_eq_left', ne_eq, reduceCtorEq, zR, hk2, List.take_take, Nat.min_self])
    exact wrap_i64 (by omega)
  · have hd : ¬ ((k : Int) < (p.length : Int)) := by omega
    have hk' : k = p.length := by omega
    simp only [Int.reduceToNat, Int.reduceLT, Int.reduceLE, Int.reduceBEq, Int.reduceBNe, St0, argFr, ↓callZ, ↓midZ, ↓unZ, ↓thenW, ↓blockW, ↓opX, ↓opV, ↓pX, ↓pW, ↓putK, ↓putP, ↓atK, ↓normK, ↓postZ, ↓reduceIte, reduceIte, Nat.reduceEqDiff, Nat.reduceAdd, Nat.reduceBEq, Nat.reduceLT, Nat.reduceLeDiff, binW, bodyQ, ressW, resW, ne_eq, forall_const, reduceCtorEq, implies_true, sets, oneAll, setD, rels, fillE, fillD, List.replicate, rowsOf, forall_eq, Nat.reduceMul, ↓zD, zT, hd]
    rw [hk', ← hl, List.take_length]
    exact .same

theorem refDistances_runs {n v : Nat} (p : List (BitVec 64)) (hn : n ≤ 4) (hv : v < 2 ^ n) (hp : p.length ≤ 100) (hb : ∀ b ∈ p, ∀ u, b.getLsbD u = true → u < 2 ^ n) :
    Runs Try.prog 36 [.int .i64 n, .sl 1 (us p), .int .i64 v] (.sl 1 (rows .i64 (distL n p v))) := by
  refine CallT.go_fn mixed Try.func36 k36 (by simp) fun hf => ?_
  simp only [Int.reduceToNat, Int.reduceLT, Int.reduceLE, Int.reduceBEq, Int.reduceBNe, St0, argFr, ↓callZ, ↓midZ, ↓unZ, ↓thenW, ↓blockW, ↓opX, ↓opV, ↓pX, ↓pW, ↓putK, ↓putP, ↓atK, ↓normK, ↓postZ, ↓reduceIte, reduceIte, Nat.reduceEqDiff, Nat.reduceAdd, Nat.reduceBEq, Nat.reduceLT, Nat.reduceLeDiff, binW, bodyQ, ressW, resW, ne_eq, forall_const, reduceCtorEq, implies_true, sets, oneAll, setD, rels, fillE, fillD, List.replicate, rowsOf, forall_eq, Nat.reduceMul, ↓zD, zT]
  refine wpS_loop (fun k : Nat => [(8, .int .i64 k), (7, growD 0 1 (rows .i64 ((distL n p v).take k))), (2, .int .i64 v), (1, .sl 1 (us p)), (0, .int .i64 n)]) (fun k => ⟨1, growO 0 1 (rows .i64 ((distL n p v).take k))⟩) (fun k => k ≤ p.length) (fun k => p.length - k) 0 (Nat.zero_le _) ?_ ?_
  · exact Weak.view (fun k => k) (by simp) (by simp) (by simp [vwF, vw, Fr.get, rows, growD]) (by simp [stays, rows, growO]) (by simp [apartNames, rows, growO])
  intro k hk
  have hl := distL_len n p v
  refine wpS_go mixed ?_
  by_cases h : k < p.length
  · have hd : ((k : Int) < (p.length : Int)) := by omega
    have hk2 : ((distL n p v).take k).length = k := by rw [List.length_take]; omega
    simp only [Int.reduceToNat, Int.reduceLT, Int.reduceLE, Int.reduceBEq, Int.reduceBNe, St0, argFr, ↓callZ, ↓midZ, ↓unZ, ↓thenW, ↓blockW, ↓opX, ↓opV, ↓pX, ↓pW, ↓putK, ↓putP, ↓atK, ↓normK, ↓postZ, ↓reduceIte, reduceIte, Nat.reduceEqDiff, Nat.reduceAdd, Nat.reduceBEq, Nat.reduceLT, Nat.reduceLeDiff, binW, bodyQ, ressW, resW, ne_eq, forall_const, reduceCtorEq, implies_true, sets, oneAll, setD, rels, fillE, fillD, List.replicate, rowsOf, forall_eq, Nat.reduceMul, ↓zD, zT, hd, us_get _ h]
    (repeat refine And.intro (by first | omega | exact ui_nonneg _ | exact Int.natCast_nonneg _ | rfl | exact rows_one' _ _ | exact us_one _ | (intro _ h; cases h; done)) ?_)
    refine .go (CallT.of_runs (refDistance_runs (p.getD k 0) hn hv (hb _ (by simp [List.getD, h]))) rfl) ?_
    simp only [Int.reduceToNat, Int.reduceLT, Int.reduceLE, Int.reduceBEq, Int.reduceBNe, St0, argFr, ↓callZ, ↓midZ, ↓unZ, ↓thenW, ↓blockW, ↓opX, ↓opV, ↓pX, ↓pW, ↓putK, ↓putP, ↓atK, ↓normK, ↓postZ, ↓reduceIte, reduceIte, Nat.reduceEqDiff, Nat.reduceAdd, Nat.reduceBEq, Nat.reduceLT, Nat.reduceLeDiff, binW, bodyQ, ressW, resW, ne_eq, forall_const, reduceCtorEq, implies_true, sets, oneAll, setD, rels, fillE, fillD, List.replicate, rowsOf, forall_eq, Nat.reduceMul, ↓zD, zT, hk2]
    (repeat refine And.intro (by first | omega | exact ui_nonneg _ | exact Int.natCast_nonneg _ | rfl | exact rows_one' _ _ | exact us_one _ | (intro _ h; cases h; done)) ?_)
    refine ⟨k + 1, by omega, ?_, by omega⟩
    rw [distL_take h]
    (refine Weak.ren [(0, 1)] [0] (by simp) (by simp) (by decide) ?_; simp only [stay1, vwL, vw, vwF, sw, St.get, St.look, Fr.get, ↓reduceIte, reduceIte, Nat.reduceEqDiff, Nat.reduceAdd, Nat.reduceBEq, Nat.reduceLT, Nat.reduceLeDiff, exists_eq_left', ne_eq, reduceCtorEq, zR])
    exact wrap_i64 (by omega)
  · have hd : ¬ ((k : Int) < (p.length : Int)) := by omega
    have hk' : k = p.length := by omega
    simp only [Int.reduceToNat, Int.reduceLT, Int.reduceLE, Int.reduceBEq, Int.reduceBNe, St0, argFr, ↓callZ, ↓midZ, ↓unZ, ↓thenW, ↓blockW, ↓opX, ↓opV, ↓pX, ↓pW, ↓putK, ↓putP, ↓atK, ↓normK, ↓postZ, ↓reduceIte, reduceIte, Nat.reduceEqDiff, Nat.reduceAdd, Nat.reduceBEq, Nat.reduceLT, Nat.reduceLeDiff, binW, bodyQ, ressW, resW, ne_eq, forall_const, reduceCtorEq, implies_true, sets, oneAll, setD, rels, fillE, fillD, List.replicate, rowsOf, forall_eq, Nat.reduceMul, ↓zD, zT, hd]
    rw [hk', ← hl, List.take_length]
    exact .drop (by simp) (grow_view (by simp) (rows_pure _ _))
theorem refDistances_all {n v : Nat} {p : List (BitVec 64)} (hn : n ≤ 4) (hv : v < 2 ^ n) (hc : checkM n p = 0) : Runs Try.prog 36 [.int .i64 n, .sl 1 (us p), .int .i64 v] (.sl 1 (rows .i64 (distL n p v))) := by
  obtain ⟨h1, h2, h3, h4⟩ := checkM_zero hc
  exact refDistances_runs p hn hv (by omega) fun b hb => (badM_zero hn (h4 b hb)).1

/-- The answer of Distances. -/
def distM (n : Int) (p : List (BitVec 64)) (v : Int) : List Int × Int :=
  if checkM n p ≠ 0 then ([], checkM n p) else if v < 0 ∨ 2 ^ n.toNat ≤ v then ([], 2) else (distL n.toNat p v.toNat, 0)
theorem Distances_runs (n : Int) (p : List (BitVec 64)) (v : Int) : Runs Try.prog 17 [.int .i64 n, .sl 1 (us p), .int .i64 v] (.tup [.sl 1 (rows .i64 (distM n p v).1), .int .i64 (distM n p v).2]) := by
  refine CallT.go_fn mixed Try.func17 k17 (by simp) fun hf => ?_
  simp only [Int.reduceToNat, Int.reduceLT, Int.reduceLE, Int.reduceBEq, Int.reduceBNe, St0, argFr, ↓callZ, ↓midZ, ↓unZ, ↓thenW, ↓blockW, ↓opX, ↓opV, ↓pX, ↓pW, ↓putK, ↓putP, ↓atK, ↓normK, ↓postZ, ↓reduceIte, reduceIte, Nat.reduceEqDiff, Nat.reduceAdd, Nat.reduceBEq, Nat.reduceLT, Nat.reduceLeDiff, binW, bodyQ, ressW, resW, ne_eq, forall_const, reduceCtorEq, implies_true, sets, oneAll, setD, rels, fillE, fillD, List.replicate, rowsOf, forall_eq, Nat.reduceMul, ↓zD, zT]
  refine .go (CallT.of_runs (check_runs n p) rfl) ?_
  by_cases hc : checkM n p = 0
  case neg =>
    have e : (checkM n p != 0) = true := by simpa using hc
    have ed : distM n p v = ([], checkM n p) := if_pos hc
    simp only [Int.reduceToNat, Int.reduceLT, Int.reduceLE, Int.reduceBEq, Int.reduceBNe, St0, argFr, ↓callZ, ↓midZ, ↓unZ, ↓thenW, ↓blockW, ↓opX, ↓opV, ↓pX, ↓pW, ↓putK, ↓putP, ↓atK, ↓normK, ↓postZ, ↓reduceIte, reduceIte, Nat.reduceEqDiff, Nat.reduceAdd, Nat.reduceBEq, Nat.reduceLT, Nat.reduceLeDiff, binW, bodyQ, ressW, resW, ne_eq, forall_const, reduceCtorEq, implies_true, sets, oneAll, setD, rels, fillE, fillD, List.replicate, rowsOf, forall_eq, Nat.reduceMul, ↓zD, zT, e]
    rw [ed]
    exact .drop (by simp) (by simp [vw, vwL, rows])
  have e : (checkM n p != 0) = false := by simpa using hc
  obtain ⟨h1, h2, h3, h4⟩ := checkM_zero hc
  obtain ⟨m, rfl⟩ := Int.eq_ofNat_of_zero_le h1
  have hm : m ≤ 4 := by omega
  have h16 := pow_le hm
  have ep : ((2 : Int) ^ ((m : Int)).toNat) = ((2 ^ m : Nat) : Int) := by simp
  by_cases hv0 : v < 0
  · have ed : distM m p v = ([], 2) := by rw [distM, if_neg (by simpa using hc), if_pos (.inl hv0)]
    simp only [Int.reduceToNat, Int.reduceLT, Int.reduceLE, Int.reduceBEq, Int.reduceBNe, St0, argFr, ↓callZ, ↓midZ, ↓unZ, ↓thenW, ↓blockW, ↓opX, ↓opV, ↓pX, ↓pW, ↓putK, ↓putP, ↓atK, ↓normK, ↓postZ, ↓reduceIte, reduceIte, Nat.reduceEqDiff, Nat.reduceAdd, Nat.reduceBEq, Nat.reduceLT, Nat.reduceLeDiff, binW, bodyQ, ressW, resW, ne_eq, forall_const, reduceCtorEq, implies_true, sets, oneAll, setD, rels, fillE, fillD, List.replicate, rowsOf, forall_eq, Nat.reduceMul, ↓zD, zT, e, hv0]
    rw [ed]
    exact .drop (by simp) (by simp [vw, vwL, rows])
  obtain ⟨u, rfl⟩ := Int.eq_ofNat_of_zero_le (show 0 ≤ v by omega)
  by_cases hv1 : ((2 ^ m : Nat) : Int) ≤ (u : Int)
  · have ed : distM m p u = ([], 2) := by rw [distM, if_neg (by simpa using hc), if_pos (.inr (by rw [ep]; exact hv1))]
    simp only [Int.reduceToNat, Int.reduceLT, Int.reduceLE, Int.reduceBEq, Int.reduceBNe, St0, argFr, ↓callZ, ↓midZ, ↓unZ, ↓thenW, ↓blockW, ↓opX, ↓opV, ↓pX, ↓pW, ↓putK, ↓putP, ↓atK, ↓normK, ↓postZ, ↓reduceIte, reduceIte, Nat.reduceEqDiff, Nat.reduceAdd, Nat.reduceBEq, Nat.reduceLT, Nat.reduceLeDiff, binW, bodyQ, ressW, resW, ne_eq, forall_const, reduceCtorEq, implies_true, sets, oneAll, setD, rels, fillE, fillD, List.replicate, rowsOf, forall_eq, Nat.reduceMul, ↓zD, zT, e, hv0, shlN (show m ≤ 61 by omega), hv1]
    (repeat refine And.intro (by first | omega | exact ui_nonneg _ | exact Int.natCast_nonneg _ | rfl | exact rows_one' _ _ | exact us_one _ | (intro _ h; cases h; done)) ?_)
    rw [ed]
    exact .drop (by simp) (by simp [vw, vwL, rows])
  · have hu : u < 2 ^ m := by omega
    have ed : distM m p u = (distL m p u, 0) := by rw [distM, if_neg (by simpa using hc), if_neg (by rw [ep]; omega), Int.toNat_natCast, Int.toNat_natCast]
    simp only [Int.reduceToNat, Int.reduceLT, Int.reduceLE, Int.reduceBEq, Int.reduceBNe, St0, argFr, ↓callZ, ↓midZ, ↓unZ, ↓thenW, ↓blockW, ↓opX, ↓opV, ↓pX, ↓pW, ↓putK, ↓putP, ↓atK, ↓normK, ↓postZ, ↓reduceIte, reduceIte, Nat.reduceEqDiff, Nat.reduceAdd, Nat.reduceBEq, Nat.reduceLT, Nat.reduceLeDiff, binW, bodyQ, ressW, resW, ne_eq, forall_const, reduceCtorEq, implies_true, sets, oneAll, setD, rels, fillE, fillD, List.replicate, rowsOf, forall_eq, Nat.reduceMul, ↓zD, zT, e, hv0, shlN (show m ≤ 61 by omega), hv1]
    (repeat refine And.intro (by first | omega | exact ui_nonneg _ | exact Int.natCast_nonneg _ | rfl | exact rows_one' _ _ | exact us_one _ | (intro _ h; cases h; done)) ?_)
    refine .go (CallT.own1 (distances_runs p hm hu (by omega)) rfl) ?_
    simp only [Int.reduceToNat, Int.reduceLT, Int.reduceLE, Int.reduceBEq, Int.reduceBNe, St0, argFr, ↓callZ, ↓midZ, ↓unZ, ↓thenW, ↓blockW, ↓opX, ↓opV, ↓pX, ↓pW, ↓putK, ↓putP, ↓atK, ↓normK, ↓postZ, ↓reduceIte, reduceIte, Nat.reduceEqDiff, Nat.reduceAdd, Nat.reduceBEq, Nat.reduceLT, Nat.reduceLeDiff, binW, bodyQ, ressW, resW, ne_eq, forall_const, reduceCtorEq, implies_true, sets, oneAll, setD, rels, fillE, fillD, List.replicate, rowsOf, forall_eq, Nat.reduceMul, ↓zD, zT]
    rw [ed]
    exact .drop (by simp) ⟨rfl, osl_view (by simp) (rows_pure _ _) (by rw [rows_len, distL_len]), by simp [vw], trivial⟩
theorem refDistances'_runs (n : Int) (p : List (BitVec 64)) (v : Int) : Runs Try.prog 18 [.int .i64 n, .sl 1 (us p), .int .i64 v] (.tup [.sl 1 (rows .i64 (distM n p v).1), .int .i64 (distM n p v).2]) := by
  refine CallT.go_fn mixed Try.func18 k18 (by simp) fun hf => ?_
  simp only [Int.reduceToNat, Int.reduceLT, Int.reduceLE, Int.reduceBEq, Int.reduceBNe, St0, argFr, ↓callZ, ↓midZ, ↓unZ, ↓thenW, ↓blockW, ↓opX, ↓opV, ↓pX, ↓pW, ↓putK, ↓putP, ↓atK, ↓normK, ↓postZ, ↓reduceIte, reduceIte, Nat.reduceEqDiff, Nat.reduceAdd, Nat.reduceBEq, Nat.reduceLT, Nat.reduceLeDiff, binW, bodyQ, ressW, resW, ne_eq, forall_const, reduceCtorEq, implies_true, sets, oneAll, setD, rels, fillE, fillD, List.replicate, rowsOf, forall_eq, Nat.reduceMul, ↓zD, zT]
  refine .go (CallT.of_runs (refCheck_runs n p) rfl) ?_
  by_cases hc : checkM n p = 0
  case neg =>
    have e : (checkM n p != 0) = true := by simpa using hc
    have ed : distM n p v = ([], checkM n p) := if_pos hc
    simp only [Int.reduceToNat, Int.reduceLT, Int.reduceLE, Int.reduceBEq, Int.reduceBNe, St0, argFr, ↓callZ, ↓midZ, ↓unZ, ↓thenW, ↓blockW, ↓opX, ↓opV, ↓pX, ↓pW, ↓putK, ↓putP, ↓atK, ↓normK, ↓postZ, ↓reduceIte, reduceIte, Nat.reduceEqDiff, Nat.reduceAdd, Nat.reduceBEq, Nat.reduceLT, Nat.reduceLeDiff, binW, bodyQ, ressW, resW, ne_eq, forall_const, reduceCtorEq, implies_true, sets, oneAll, setD, rels, fillE, fillD, List.replicate, rowsOf, forall_eq, Nat.reduceMul, ↓zD, zT, e]
    rw [ed]
    exact .drop (by simp) (by simp [vw, vwL, rows])
  have e : (checkM n p != 0) = false := by simpa using hc
  obtain ⟨h1, h2, h3, h4⟩ := checkM_zero hc
  obtain ⟨m, rfl⟩ := Int.eq_ofNat_of_zero_le h1
  have hm : m ≤ 4 := by omega
  have h16 := pow_le hm
  have ep : ((2 : Int) ^ ((m : Int)).toNat) = ((2 ^ m : Nat) : Int) := by simp
  by_cases hv0 : v < 0
  · have ed : distM m p v = ([], 2) := by rw [distM, if_neg (by simpa using hc), if_pos (.inl hv0)]
    simp only [Int.reduceToNat, Int.reduceLT, Int.reduceLE, Int.reduceBEq, Int.reduceBNe, St0, argFr, ↓callZ, ↓midZ, ↓unZ, ↓thenW, ↓blockW, ↓opX, ↓opV, ↓pX, ↓pW, ↓putK, ↓putP, ↓atK, ↓normK, ↓postZ, ↓reduceIte, reduceIte, Nat.reduceEqDiff, Nat.reduceAdd, Nat.reduceBEq, Nat.reduceLT, Nat.reduceLeDiff, binW, bodyQ, ressW, resW, ne_eq, forall_const, reduceCtorEq, implies_true, sets, oneAll, setD, rels, fillE, fillD, List.replicate, rowsOf, forall_eq, Nat.reduceMul, ↓zD, zT, e, hv0]
    rw [ed]
    exact .drop (by simp) (by simp [vw, vwL, rows])
  obtain ⟨u, rfl⟩ := Int.eq_ofNat_of_zero_le (show 0 ≤ v by omega)
  by_cases hv1 : ((2 ^ m : Nat) : Int) ≤ (u : Int)
  · have ed : distM m p u = ([], 2) := by rw [distM, if_neg (by simpa using hc), if_pos (.inr (by rw [ep]; exact hv1))]
    simp only [Int.reduceToNat, Int.reduceLT, Int.reduceLE, Int.reduceBEq, Int.reduceBNe, St0, argFr, ↓callZ, ↓midZ, ↓unZ, ↓thenW, ↓blockW, ↓opX, ↓opV, ↓pX, ↓pW, ↓putK, ↓putP, ↓atK, ↓normK, ↓postZ, ↓reduceIte, reduceIte, Nat.reduceEqDiff, Nat.reduceAdd, Nat.reduceBEq, Nat.reduceLT, Nat.reduceLeDiff, binW, bodyQ, ressW, resW, ne_eq, forall_const, reduceCtorEq, implies_true, sets, oneAll, setD, rels, fillE, fillD, List.replicate, rowsOf, forall_eq, Nat.reduceMul, ↓zD, zT, e, hv0, convN (show m ≤ 1000000 by omega), shlN (show m ≤ 61 by omega), hv1]
    (repeat refine And.intro (by first | omega | exact ui_nonneg _ | exact Int.natCast_nonneg _ | rfl | exact rows_one' _ _ | exact us_one _ | (intro _ h; cases h; done)) ?_)
    rw [ed]
    exact .drop (by simp) (by simp [vw, vwL, rows])
  · have hu : u < 2 ^ m := by omega
    have ed : distM m p u = (distL m p u, 0) := by rw [distM, if_neg (by simpa using hc), if_neg (by rw [ep]; omega), Int.toNat_natCast, Int.toNat_natCast]
    simp only [Int.reduceToNat, Int.reduceLT, Int.reduceLE, Int.reduceBEq, Int.reduceBNe, St0, argFr, ↓callZ, ↓midZ, ↓unZ, ↓thenW, ↓blockW, ↓opX, ↓opV, ↓pX, ↓pW, ↓putK, ↓putP, ↓atK, ↓normK, ↓postZ, ↓reduceIte, reduceIte, Nat.reduceEqDiff, Nat.reduceAdd, Nat.reduceBEq, Nat.reduceLT, Nat.reduceLeDiff, binW, bodyQ, ressW, resW, ne_eq, forall_const, reduceCtorEq, implies_true, sets, oneAll, setD, rels, fillE, fillD, List.replicate, rowsOf, forall_eq, Nat.reduceMul, ↓zD, zT, e, hv0, convN (show m ≤ 1000000 by omega), shlN (show m ≤ 61 by omega), hv1]
    (repeat refine And.intro (by first | omega | exact ui_nonneg _ | exact Int.natCast_nonneg _ | rfl | exact rows_one' _ _ | exact us_one _ | (intro _ h; cases h; done)) ?_)
    refine .go (CallT.of_runs (refDistances_all hm hu hc) rfl) ?_
    simp only [Int.reduceToNat, Int.reduceLT, Int.reduceLE, Int.reduceBEq, Int.reduceBNe, St0, argFr, ↓callZ, ↓midZ, ↓unZ, ↓thenW, ↓blockW, ↓opX, ↓opV, ↓pX, ↓pW, ↓putK, ↓putP, ↓atK, ↓normK, ↓postZ, ↓reduceIte, reduceIte, Nat.reduceEqDiff, Nat.reduceAdd, Nat.reduceBEq, Nat.reduceLT, Nat.reduceLeDiff, binW, bodyQ, ressW, resW, ne_eq, forall_const, reduceCtorEq, implies_true, sets, oneAll, setD, rels, fillE, fillD, List.replicate, rowsOf, forall_eq, Nat.reduceMul, ↓zD, zT]
    rw [ed]
    exact .same
end Go.Pd
