/- Resolution: contract: unit propagation, both ways. -/
import Derived.Test.YtigkaakdjibakaaC7
set_option linter.unusedSectionVars false
set_option linter.unusedVariables false
set_option linter.unusedSimpArgs false
set_option linter.defProp false
set_option maxRecDepth 20000
namespace Go.Pd
open Go Go.Proofs
open Rs
theorem normal40_at {n : Int} {a : D} {g : List Int} (hn0 : 0 ≤ n) (hn : n ≤ 12) (ha : ∀ σ, lend σ a (.sl 1 (rows .i64 g))) (σ : St) : CallT Try.prog 40 [.int .i64 n, a] σ (.int .i64 (normE n (-1) g)) σ :=
  CallT.lent (normal40 g ⟨hn0, hn⟩) (show lendL σ [.int .i64 n, a] [.int .i64 n, .sl 1 (rows .i64 g)] from ⟨lend_int _ _, ha σ, trivial⟩) rfl
theorem limK_good {l : List (List Int)} (ho : litsOk l) : ∀ (m : Nat) {K : List Int}, good K → good (limK l m K)
  | 0, K, h => h
  | m + 1, K, h => by
    unfold limK
    cases hs : stepK l K with
    | none => exact h
    | some u => exact limK_good ho m (step_good ho h hs)
theorem propK_good {l : List (List Int)} {K : List Int} (ho : litsOk l) (h : good K) : good (propK l K) := limK_good ho _ h
theorem canon_nil : canon [] = [] := by decide
theorem RetV.first {m key len : Nat} {els : List (List D)} {r : List (Nat × Ob)} {x y : Int} (h : ∀ e ∈ els, D.isPureL e = true) : RetV 0 ⟨m, (key, ⟨1, els⟩) :: r⟩ (.tup [.osl key 1 len, .int .i64 x, .int .i64 y]) ⟨1, [(0, ⟨1, els⟩)]⟩ (.tup [.osl 0 1 len, .int .i64 x, .int .i64 y]) := by
  refine .inr ⟨fun k => if k = 0 then key else k, by simp, fun k hk => by omega, ?_, ?_, ?_⟩
  · simp [vw, vwL]
  · simp only [stays, List.forall_mem_singleton]
    exact ⟨by omega, ⟨1, els⟩, by simp [St.get, St.look], rfl, .same h⟩
  · simp [apartNames]
/-- From known literals on, what comes back is one's own. -/
theorem Propagate_own {n : Int} {l : List (List Int)} {g : List Int} (hg : g ≠ []) (hc : checkC n l = 0) (hn : normE n (-1) g = 0) (hk : propK l g ≠ []) :
    CallT Try.prog 19 [.int .i64 n, .sl 1 (rl l), .sl 1 (rows .i64 g)] St0 (.tup [.osl 0 1 (canon (propK l g)).length, .int .i64 (confR (propK l g) l 0), .int .i64 0]) ⟨1, [(0, ⟨1, rows .i64 (ordZ (propK l g))⟩)]⟩ := by
  obtain ⟨h1, h2, h3, h4⟩ := checkC_zero hc
  have hgl := good_len (norm_good h2 hn)
  refine walk19 (b0 := true) (normal40_at h1 h2 fun σ => lend_sl 1 _) (clone_own hg (by omega)) (fun h => by cases h) hc hn (fun m key r _ => ?_) (fun m r h => absurd h hk)
  exact RetV.first (rows_pure _ _)
theorem Propagate19 (n : Int) (l : List (List Int)) (g : List Int) : Runs Try.prog 19 [.int .i64 n, .sl 1 (rl l), .sl 1 (rows .i64 g)] (.tup [.sl 1 (rows .i64 (propA n l g).1), .int .i64 (propA n l g).2.1, .int .i64 (propA n l g).2.2]) := by
  by_cases hc : checkC n l = 0
  case neg =>
    have e : (checkC n l != 0) = true := by simpa using hc
    refine CallT.go_fn mixed Try.func19 k19 (by simp) fun hf => ?_
    simp only [Int.reduceToNat, Int.reduceLT, Int.reduceLE, Int.reduceBEq, Int.reduceBNe, St0, argFr, ↓thenW, ↓blockW, ↓opX, ↓opV, ↓pX, ↓pW, ↓putK, ↓putP, ↓atK, ↓normK, ↓postZ, ↓reduceIte, reduceIte, Nat.reduceEqDiff, Nat.reduceAdd, Nat.reduceBEq, Nat.reduceLT, Nat.reduceLeDiff, binW, bodyQ, ressW, resW, ne_eq, forall_const, reduceCtorEq, implies_true, sets, oneAll, setD, rels, fillE, fillD, List.replicate, rowsOf, forall_eq, Nat.reduceMul, ↓zD, zT]
    refine .go (CallT.of_runs (check15 n l) (by simp [D.isPureL, D.isPure])) ?_
    simp only [Int.reduceToNat, Int.reduceLT, Int.reduceLE, Int.reduceBEq, Int.reduceBNe, St0, argFr, ↓thenW, ↓blockW, ↓opX, ↓opV, ↓pX, ↓pW, ↓putK, ↓putP, ↓atK, ↓normK, ↓postZ, ↓reduceIte, reduceIte, Nat.reduceEqDiff, Nat.reduceAdd, Nat.reduceBEq, Nat.reduceLT, Nat.reduceLeDiff, binW, bodyQ, ressW, resW, ne_eq, forall_const, reduceCtorEq, implies_true, sets, oneAll, setD, rels, fillE, fillD, List.replicate, rowsOf, forall_eq, Nat.reduceMul, ↓zD, zT, e]
    rw [show propA n l g = ([], 0, checkC n l) from if_pos hc]
    exact .drop (by simp) (by simp [vw, vwL, rows])
  have e : (checkC n l != 0) = false := by simpa using hc
  obtain ⟨h1, h2, h3, h4⟩ := checkC_zero hc
  by_cases hn : normE n (-1) g = 0
  case neg =>
    have en : (normE n (-1) g != 0) = true := by simpa using hn
    refine CallT.go_fn mixed Try.func19 k19 (by simp) fun hf => ?_
    simp only [Int.reduceToNat, Int.reduceLT, Int.reduceLE, Int.reduceBEq, Int.reduceBNe, St0, argFr, ↓thenW, ↓blockW, ↓opX, ↓opV, ↓pX, ↓pW, ↓putK, ↓putP, ↓atK, ↓normK, ↓postZ, ↓reduceIte, reduceIte, Nat.reduceEqDiff, Nat.reduceAdd, Nat.reduceBEq, Nat.reduceLT, Nat.reduceLeDiff, binW, bodyQ, ressW, resW, ne_eq, forall_const, reduceCtorEq, implies_true, sets, oneAll, setD, rels, fillE, fillD, List.replicate, rowsOf, forall_eq, Nat.reduceMul, ↓zD, zT]
    refine .go (CallT.of_runs (check15 n l) (by simp [D.isPureL, D.isPure])) ?_
    simp only [Int.reduceToNat, Int.reduceLT, Int.reduceLE, Int.reduceBEq, Int.reduceBNe, St0, argFr, ↓thenW, ↓blockW, ↓opX, ↓opV, ↓pX, ↓pW, ↓putK, ↓putP, ↓atK, ↓normK, ↓postZ, ↓reduceIte, reduceIte, Nat.reduceEqDiff, Nat.reduceAdd, Nat.reduceBEq, Nat.reduceLT, Nat.reduceLeDiff, binW, bodyQ, ressW, resW, ne_eq, forall_const, reduceCtorEq, implies_true, sets, oneAll, setD, rels, fillE, fillD, List.replicate, rowsOf, forall_eq, Nat.reduceMul, ↓zD, zT, e]
    refine .go (CallT.of_runs (normal40 g ⟨h1, h2⟩) (by simp [D.isPureL, D.isPure])) ?_
    simp only [Int.reduceToNat, Int.reduceLT, Int.reduceLE, Int.reduceBEq, Int.reduceBNe, St0, argFr, ↓thenW, ↓blockW, ↓opX, ↓opV, ↓pX, ↓pW, ↓putK, ↓putP, ↓atK, ↓normK, ↓postZ, ↓reduceIte, reduceIte, Nat.reduceEqDiff, Nat.reduceAdd, Nat.reduceBEq, Nat.reduceLT, Nat.reduceLeDiff, binW, bodyQ, ressW, resW, ne_eq, forall_const, reduceCtorEq, implies_true, sets, oneAll, setD, rels, fillE, fillD, List.replicate, rowsOf, forall_eq, Nat.reduceMul, ↓zD, zT, en]
    rw [show propA n l g = ([], 0, 1) by rw [propA, if_neg (by simpa using hc), if_pos hn]]
    exact .drop (by simp) (by simp [vw, vwL, rows])
  have ea : propA n l g = (canon (propK l g), confR (propK l g) l 0, 0) := by rw [propA, if_neg (by simpa using hc), if_neg (by simpa using hn)]
  rw [ea]
  have hgd := norm_good h2 hn
  have hgl := good_len hgd
  have hkg := propK_good (check_lits hc) hgd
  have hfin : ∀ (m key : Nat) (r : List (Nat × Ob)), propK l g ≠ [] → RetV 0 ⟨m, (key, ⟨1, rows .i64 (ordZ (propK l g))⟩) :: r⟩ (.tup [.osl key 1 (canon (propK l g)).length, .int .i64 (confR (propK l g) l 0), .int .i64 0]) ⟨0, []⟩ (.tup [.sl 1 (rows .i64 (canon (propK l g))), .int .i64 (confR (propK l g) l 0), .int .i64 0]) := fun m key r _ => by
    refine .drop (by simp) ⟨rfl, osl_view_take (by omega) (rows_pure _ _) ?_ ?_, by simp [vw], by simp [vw], trivial⟩
    · rw [rows_len, ordZ, List.length_append]; omega
    · rw [rows_take, ordZ, List.take_append_of_le_length (Nat.le_refl _), List.take_length]
  have hfin0 : ∀ (m : Nat) (r : List (Nat × Ob)), propK l g = [] → RetV 0 ⟨m, r⟩ (.tup [.sl 1 [], .int .i64 (confR (propK l g) l 0), .int .i64 0]) ⟨0, []⟩ (.tup [.sl 1 (rows .i64 (canon (propK l g))), .int .i64 (confR (propK l g) l 0), .int .i64 0]) := fun m r h => by
    rw [h, canon_nil]
    exact .drop (by simp) (by simp [vw, vwL, rows])
  by_cases hg : g = []
  · subst hg
    refine CallT.split (pre := [.int .i64 n, .sl 1 (rl l)]) (post := []) ?_ ?_
    · exact walk19 (b0 := false) (normal40_at h1 h2 fun σ => lend_nil 1) clone_nilsO (fun _ => rfl) hc hn hfin hfin0
    · exact walk19 (b0 := true) (normal40_at h1 h2 fun σ => by simp [lend, rows]) (show CallT Try.prog 42 [.emp] St0 (kd true []) ⟨1, ko true []⟩ from clone_empO) (fun h => by cases h) hc hn hfin hfin0
  · exact walk19 (b0 := true) (normal40_at h1 h2 fun σ => lend_sl 1 _) (clone_own hg (by omega)) (fun h => by cases h) hc hn hfin hfin0
end Go.Pd
