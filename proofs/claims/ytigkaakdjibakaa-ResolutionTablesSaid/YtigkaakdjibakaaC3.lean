/- Resolution: contract: unit propagation as specified, whole. -/
import Derived.Test.YtigkaakdjibakaaC2
set_option linter.unusedSectionVars false
set_option linter.unusedVariables false
set_option linter.unusedSimpArgs false
set_option linter.defProp false
set_option maxRecDepth 20000
namespace Go.Pd
open Go Go.Proofs
open Rs
theorem collect_own {c : List Int} (hnb : bothTo c 12 = false) : CallT Try.prog 39 [.sl 1 (rows .i64 c)] St0 (.tup [growD 0 1 (rows .i64 (canon c)), .bool false]) ⟨1, growO 0 1 (rows .i64 (canon c))⟩ := by
  refine CallT.go_fn mixed Try.func39 k39 (by simp) fun hf => ?_
  simp only [Int.reduceToNat, Int.reduceLT, Int.reduceLE, Int.reduceBEq, Int.reduceBNe, St0, argFr, ↓thenW, ↓blockW, ↓opX, ↓opV, ↓pX, ↓pW, ↓putK, ↓putP, ↓atK, ↓normK, ↓postZ, ↓reduceIte, reduceIte, Nat.reduceEqDiff, Nat.reduceAdd, Nat.reduceBEq, Nat.reduceLT, Nat.reduceLeDiff, binW, bodyQ, ressW, resW, ne_eq, forall_const, reduceCtorEq, implies_true, sets, oneAll, setD, rels, fillE, fillD, List.replicate, rowsOf, forall_eq, Nat.reduceMul, ↓zD, zT]
  refine wpS_loop (fun k : Nat => [(5, .int .i64 k), (4, growD 0 1 (rows .i64 (canonTo c k))), (0, .sl 1 (rows .i64 c))]) (fun k => ⟨1, growO 0 1 (rows .i64 (canonTo c k))⟩) (fun k => k ≤ 12) (fun k => 12 - k) 0 (Nat.zero_le _) ?_ ?_
  · exact Weak.view (fun k => k) (by simp) (by simp) (by simp [vwF, vw, Fr.get, canonTo, rows, growD]) (by simp [stays, canonTo, rows, growO]) (by simp [apartNames, canonTo, rows, growO])
  intro k hk
  refine wpS_go mixed ?_
  have hcl := canonTo_len c k
  by_cases h : k < 12
  case neg =>
    have hd : ¬ ((k : Int) < 12) := by omega
    have e : k = 12 := by omega
    subst e
    simp only [Int.reduceToNat, Int.reduceLT, Int.reduceLE, Int.reduceBEq, Int.reduceBNe, St0, argFr, ↓thenW, ↓blockW, ↓opX, ↓opV, ↓pX, ↓pW, ↓putK, ↓putP, ↓atK, ↓normK, ↓postZ, ↓reduceIte, reduceIte, Nat.reduceEqDiff, Nat.reduceAdd, Nat.reduceBEq, Nat.reduceLT, Nat.reduceLeDiff, binW, bodyQ, ressW, resW, ne_eq, forall_const, reduceCtorEq, implies_true, sets, oneAll, setD, rels, fillE, fillD, List.replicate, rowsOf, forall_eq, Nat.reduceMul, ↓zD, zT, hd]
    exact .same
  have hd : ((k : Int) < 12) := by omega
  have e1 : IntKind.i64.wrap ((k : Int) + 1) = (k : Int) + 1 := wrap_i64 (by omega)
  have e2 : IntKind.i64.wrap (0 - (k : Int)) = -(k : Int) := negw (by omega)
  have e3 : IntKind.i64.wrap (-(k : Int) - 1) = -(k : Int) - 1 := wrap_i64 (by omega)
  simp only [Int.reduceToNat, Int.reduceLT, Int.reduceLE, Int.reduceBEq, Int.reduceBNe, St0, argFr, ↓thenW, ↓blockW, ↓opX, ↓opV, ↓pX, ↓pW, ↓putK, ↓putP, ↓atK, ↓normK, ↓postZ, ↓reduceIte, reduceIte, Nat.reduceEqDiff, Nat.reduceAdd, Nat.reduceBEq, Nat.reduceLT, Nat.reduceLeDiff, binW, bodyQ, ressW, resW, ne_eq, forall_const, reduceCtorEq, implies_true, sets, oneAll, setD, rels, fillE, fillD, List.replicate, rowsOf, forall_eq, Nat.reduceMul, ↓zD, zT, hd, e1]
  refine .go (CallT.of_runs (has49 c ((k : Int) + 1)) (by simp [D.isPureL, D.isPure])) ?_
  simp only [Int.reduceToNat, Int.reduceLT, Int.reduceLE, Int.reduceBEq, Int.reduceBNe, St0, argFr, ↓thenW, ↓blockW, ↓opX, ↓opV, ↓pX, ↓pW, ↓putK, ↓putP, ↓atK, ↓normK, ↓postZ, ↓reduceIte, reduceIte, Nat.reduceEqDiff, Nat.reduceAdd, Nat.reduceBEq, Nat.reduceLT, Nat.reduceLeDiff, binW, bodyQ, ressW, resW, ne_eq, forall_const, reduceCtorEq, implies_true, sets, oneAll, setD, rels, fillE, fillD, List.replicate, rowsOf, forall_eq, Nat.reduceMul, ↓zD, zT, e2, e3]
  refine .go (CallT.of_runs (has49 c (-(k : Int) - 1)) (by simp [D.isPureL, D.isPure])) ?_
  have hbs : bothTo c (k + 1) = false := by
    cases hb : bothTo c (k + 1)
    · rfl
    · rw [bothTo_mono (show k + 1 ≤ 12 by omega) hb] at hnb; cases hnb
  have hbb : bothB c k = false := by rw [bothTo_succ] at hbs; exact (Bool.or_eq_false_iff.1 hbs).2
  by_cases h1 : (k : Int) + 1 ∈ c <;> by_cases h2 : -(k : Int) - 1 ∈ c
  · rw [show bothB c k = true by simp [bothB, h1, h2]] at hbb; cases hbb
  · have ec : canonTo c (k + 1) = canonTo c k ++ [(k : Int) + 1] := by rw [canonTo, canonAt, if_neg h2, if_pos h1]; rfl
    simp only [Int.reduceToNat, Int.reduceLT, Int.reduceLE, Int.reduceBEq, Int.reduceBNe, St0, argFr, ↓thenW, ↓blockW, ↓opX, ↓opV, ↓pX, ↓pW, ↓putK, ↓putP, ↓atK, ↓normK, ↓postZ, ↓reduceIte, reduceIte, Nat.reduceEqDiff, Nat.reduceAdd, Nat.reduceBEq, Nat.reduceLT, Nat.reduceLeDiff, binW, bodyQ, ressW, resW, ne_eq, forall_const, reduceCtorEq, implies_true, sets, oneAll, setD, rels, fillE, fillD, List.replicate, rowsOf, forall_eq, Nat.reduceMul, ↓zD, zT, decide_eq_true h1, decide_eq_false h2, e1]
    (repeat (first | refine And.intro (by omega) ?_ | refine And.intro (ui_nonneg _) ?_ | refine And.intro (Int.natCast_nonneg _) ?_ | refine And.intro rfl ?_ | refine And.intro (rows_one' _ _) ?_ | refine And.intro (us_one _) ?_ | refine And.intro (by intro _ h; cases h; done) ?_))
    refine ⟨k + 1, by omega, ?_, by omega⟩
    rw [ec]
    (refine Weak.ren [(0, 1)] [0] (by simp) (by simp) (by decide) ?_; simp only [stay1, vwL, vw, vwF, sw, St.get, St.look, Fr.get, ↓reduceIte, reduceIte, Nat.reduceEqDiff, Nat.reduceAdd, Nat.reduceBEq, Nat.reduceLT, Nat.reduceLeDiff, exists_eq_left', ne_eq, reduceCtorEq, zR])
    omega
  · have ec : canonTo c (k + 1) = canonTo c k ++ [-(k : Int) - 1] := by rw [canonTo, canonAt, if_pos h2, if_neg h1]; rfl
    simp only [Int.reduceToNat, Int.reduceLT, Int.reduceLE, Int.reduceBEq, Int.reduceBNe, St0, argFr, ↓thenW, ↓blockW, ↓opX, ↓opV, ↓pX, ↓pW, ↓putK, ↓putP, ↓atK, ↓normK, ↓postZ, ↓reduceIte, reduceIte, Nat.reduceEqDiff, Nat.reduceAdd, Nat.reduceBEq, Nat.reduceLT, Nat.reduceLeDiff, binW, bodyQ, ressW, resW, ne_eq, forall_const, reduceCtorEq, implies_true, sets, oneAll, setD, rels, fillE, fillD, List.replicate, rowsOf, forall_eq, Nat.reduceMul, ↓zD, zT, decide_eq_false h1, decide_eq_true h2, e1, e2, e3]
    (repeat (first | refine And.intro (by omega) ?_ | refine And.intro (ui_nonneg _) ?_ | refine And.intro (Int.natCast_nonneg _) ?_ | refine And.intro rfl ?_ | refine And.intro (rows_one' _ _) ?_ | refine And.intro (us_one _) ?_ | refine And.intro (by intro _ h; cases h; done) ?_))
    refine ⟨k + 1, by omega, ?_, by omega⟩
    rw [ec]
    (refine Weak.ren [(0, 1)] [0] (by simp) (by simp) (by decide) ?_; simp only [stay1, vwL, vw, vwF, sw, St.get, St.look, Fr.get, ↓reduceIte, reduceIte, Nat.reduceEqDiff, Nat.reduceAdd, Nat.reduceBEq, Nat.reduceLT, Nat.reduceLeDiff, exists_eq_left', ne_eq, reduceCtorEq, zR])
    omega
  · have ec : canonTo c (k + 1) = canonTo c k := by rw [canonTo, canonAt, if_neg h2, if_neg h1]; simp
    simp only [Int.reduceToNat, Int.reduceLT, Int.reduceLE, Int.reduceBEq, Int.reduceBNe, St0, argFr, ↓thenW, ↓blockW, ↓opX, ↓opV, ↓pX, ↓pW, ↓putK, ↓putP, ↓atK, ↓normK, ↓postZ, ↓reduceIte, reduceIte, Nat.reduceEqDiff, Nat.reduceAdd, Nat.reduceBEq, Nat.reduceLT, Nat.reduceLeDiff, binW, bodyQ, ressW, resW, ne_eq, forall_const, reduceCtorEq, implies_true, sets, oneAll, setD, rels, fillE, fillD, List.replicate, rowsOf, forall_eq, Nat.reduceMul, ↓zD, zT, decide_eq_false h1, decide_eq_false h2, e1]
    refine ⟨k + 1, by omega, ?_, by omega⟩
    rw [ec]
    (refine Weak.same ?_; simp only [sameF, Fr.get, ↓reduceIte, reduceIte, Nat.reduceEqDiff, reduceCtorEq, D.int.injEq, D.bool.injEq, D.sl.injEq, and_true, true_and, and_self])
    omega
theorem growD_shift (k s c : Nat) (els : List (List D)) : (growD k s els).shift c = growD (c + k) s els := by cases els <;> rfl
theorem growO_shift (k s c : Nat) {els : List (List D)} (h : ∀ e ∈ els, D.isPureL e = true) : shiftObjs c (growO k s els) = growO (c + k) s els := by
  cases els with
  | nil => rfl
  | cons e r => simp [growO, shiftObjs, Ob.shift, shiftE_pure _ h]
theorem growO_get {k j : Nat} (hne : j ≠ k) (m s : Nat) (els : List (List D)) (r : List (Nat × Ob)) : (⟨m, growO k s els ++ r⟩ : St).get j = (⟨m, r⟩ : St).get j := by
  cases els with
  | nil => rfl
  | cons e t => simp [growO, St.get, St.look, Ne.symm hne]
theorem grow_viewR {key m n sz : Nat} {els : List (List D)} {r : List (Nat × Ob)} (hs : 0 < sz) (hp : ∀ e ∈ els, D.isPureL e = true) {ρ : Nat → Nat} : vw ⟨m, growO key sz els ++ r⟩ ⟨n, []⟩ ρ (growD key sz els) (.sl sz els) := by
  cases els with
  | nil => simp [growD, vw]
  | cons e t => exact osl_view hs hp rfl
theorem fl_grow (k s : Nat) (els : List (List D)) : (growD k s els).fl = true := by cases els <;> simp [growD, D.fl]
theorem collect_lent {σ : St} {c : List Int} {k0 : Nat} (hnb : bothTo c 12 = false) (hg : σ.get k0 = some ⟨1, rows .i64 c⟩) : CallT Try.prog 39 [.osl k0 1 c.length] σ (.tup [growD σ.nx 1 (rows .i64 (canon c)), .bool false]) ⟨σ.nx + 1, growO σ.nx 1 (rows .i64 (canon c)) ++ σ.objs⟩ := by
  refine CallT.lent1 (collect_own hnb) (show lendL σ [.osl k0 1 c.length] [.sl 1 (rows .i64 c)] from ⟨lend_rows hg rfl, trivial⟩) ?_ ?_ ?_ ?_
  · simp [D.fl, D.flL, fl_grow]
  · intro p hp e he
    cases hcc : rows .i64 (canon c) with
    | nil => rw [hcc] at hp; cases hp
    | cons a r =>
      rw [hcc, growO, List.mem_singleton] at hp
      subst hp
      exact rows_fl .i64 (canon c) e (by rw [hcc]; exact he)
  · simp [D.shift, D.shiftL, growD_shift]
  · rw [growO_shift _ _ _ (rows_pure _ _)]; rfl
theorem Propagate20 (n : Int) (l : List (List Int)) (g : List Int) : Runs Try.prog 20 [.int .i64 n, .sl 1 (rl l), .sl 1 (rows .i64 g)] (.tup [.sl 1 (rows .i64 (propA n l g).1), .int .i64 (propA n l g).2.1, .int .i64 (propA n l g).2.2]) := by
  refine CallT.go_fn mixed Try.func20 k20 (by simp) fun hf => ?_
  simp only [Int.reduceToNat, Int.reduceLT, Int.reduceLE, Int.reduceBEq, Int.reduceBNe, St0, argFr, ↓thenW, ↓blockW, ↓opX, ↓opV, ↓pX, ↓pW, ↓putK, ↓putP, ↓atK, ↓normK, ↓postZ, ↓reduceIte, reduceIte, Nat.reduceEqDiff, Nat.reduceAdd, Nat.reduceBEq, Nat.reduceLT, Nat.reduceLeDiff, binW, bodyQ, ressW, resW, ne_eq, forall_const, reduceCtorEq, implies_true, sets, oneAll, setD, rels, fillE, fillD, List.replicate, rowsOf, forall_eq, Nat.reduceMul, ↓zD, zT]
  refine .go (CallT.of_runs (refCheck16 n l) (by simp [D.isPureL, D.isPure])) ?_
  by_cases hc : checkC n l = 0
  case neg =>
    have e : (checkC n l != 0) = true := by simpa using hc
    simp only [Int.reduceToNat, Int.reduceLT, Int.reduceLE, Int.reduceBEq, Int.reduceBNe, St0, argFr, ↓thenW, ↓blockW, ↓opX, ↓opV, ↓pX, ↓pW, ↓putK, ↓putP, ↓atK, ↓normK, ↓postZ, ↓reduceIte, reduceIte, Nat.reduceEqDiff, Nat.reduceAdd, Nat.reduceBEq, Nat.reduceLT, Nat.reduceLeDiff, binW, bodyQ, ressW, resW, ne_eq, forall_const, reduceCtorEq, implies_true, sets, oneAll, setD, rels, fillE, fillD, List.replicate, rowsOf, forall_eq, Nat.reduceMul, ↓zD, zT, e]
    rw [show propA n l g = ([], 0, checkC n l) from if_pos hc]
    exact .drop (by simp) (by simp [vw, vwL, rows])
  have e : (checkC n l != 0) = false := by simpa using hc
  have hok := check_lits hc
  obtain ⟨h1, h2, h3, h4⟩ := checkC_zero hc
  simp only [Int.reduceToNat, Int.reduceLT, Int.reduceLE, Int.reduceBEq, Int.reduceBNe, St0, argFr, ↓thenW, ↓blockW, ↓opX, ↓opV, ↓pX, ↓pW, ↓putK, ↓putP, ↓atK, ↓normK, ↓postZ, ↓reduceIte, reduceIte, Nat.reduceEqDiff, Nat.reduceAdd, Nat.reduceBEq, Nat.reduceLT, Nat.reduceLeDiff, binW, bodyQ, ressW, resW, ne_eq, forall_const, reduceCtorEq, implies_true, sets, oneAll, setD, rels, fillE, fillD, List.replicate, rowsOf, forall_eq, Nat.reduceMul, ↓zD, zT, e]
  refine .go (CallT.of_runs (refNormal46 g ⟨h1, h2⟩) (by simp [D.isPureL, D.isPure])) ?_
  by_cases hn : normE n (-1) g = 0
  case neg =>
    simp only [Int.reduceToNat, Int.reduceLT, Int.reduceLE, Int.reduceBEq, Int.reduceBNe, St0, argFr, ↓thenW, ↓blockW, ↓opX, ↓opV, ↓pX, ↓pW, ↓putK, ↓putP, ↓atK, ↓normK, ↓postZ, ↓reduceIte, reduceIte, Nat.reduceEqDiff, Nat.reduceAdd, Nat.reduceBEq, Nat.reduceLT, Nat.reduceLeDiff, binW, bodyQ, ressW, resW, ne_eq, forall_const, reduceCtorEq, implies_true, sets, oneAll, setD, rels, fillE, fillD, List.replicate, rowsOf, forall_eq, Nat.reduceMul, ↓zD, zT, decide_eq_false hn]
    rw [show propA n l g = ([], 0, 1) by rw [propA, if_neg (by simpa using hc), if_pos hn]]
    exact .drop (by simp) (by simp [vw, vwL, rows])
  have hgood := norm_good h2 hn
  have ea : propA n l g = (canon (propK l g), confR (propK l g) l 0, 0) := by rw [propA, if_neg (by simpa using hc), if_neg (by simpa using hn)]
  rw [ea]
  simp only [Int.reduceToNat, Int.reduceLT, Int.reduceLE, Int.reduceBEq, Int.reduceBNe, St0, argFr, ↓thenW, ↓blockW, ↓opX, ↓opV, ↓pX, ↓pW, ↓putK, ↓putP, ↓atK, ↓normK, ↓postZ, ↓reduceIte, reduceIte, Nat.reduceEqDiff, Nat.reduceAdd, Nat.reduceBEq, Nat.reduceLT, Nat.reduceLeDiff, binW, bodyQ, ressW, resW, ne_eq, forall_const, reduceCtorEq, implies_true, sets, oneAll, setD, rels, fillE, fillD, List.replicate, rowsOf, forall_eq, Nat.reduceMul, ↓zD, zT, decide_eq_true hn]
  have hgl := good_len hgood
  (repeat (first | refine And.intro (by omega) ?_ | refine And.intro (ui_nonneg _) ?_ | refine And.intro (Int.natCast_nonneg _) ?_ | refine And.intro rfl ?_ | refine And.intro (rows_one' _ _) ?_ | refine And.intro (us_one _) ?_ | refine And.intro (by intro _ h; cases h; done) ?_))
  refine wpS_loop (fun K : List Int => [(10, .osl 1 1 K.length), (1, .sl 1 (rl l))]) (fun K => ⟨2, [(1, ⟨1, rows .i64 K⟩)]⟩) (fun K => good K ∧ propK l g = propK l K) (fun K => 13 - K.length) g ⟨hgood, rfl⟩ ?_ ?_
  · (refine Weak.same ?_; simp [sameF, Fr.get])
  intro K ⟨hK, hp⟩
  refine wpS_go mixed ?_
  have hKl := good_len hK
  have lent : lendL ⟨2, [(1, ⟨1, rows .i64 K⟩)]⟩ [.sl 1 (rl l), .osl 1 1 K.length] [.sl 1 (rl l), .sl 1 (rows .i64 K)] := ⟨lend_sl 1 _, lend_rows (by simp [St.get, St.look]) rfl, trivial⟩
  have hconf := CallT.lent (conflict47 (K := K) (by omega) hok) lent rfl
  have hunit := CallT.lent (unit48 (K := K) (by omega) hok) lent rfl
  simp only [Int.reduceToNat, Int.reduceLT, Int.reduceLE, Int.reduceBEq, Int.reduceBNe, St0, argFr, ↓thenW, ↓blockW, ↓opX, ↓opV, ↓pX, ↓pW, ↓putK, ↓putP, ↓atK, ↓normK, ↓postZ, ↓reduceIte, reduceIte, Nat.reduceEqDiff, Nat.reduceAdd, Nat.reduceBEq, Nat.reduceLT, Nat.reduceLeDiff, binW, bodyQ, ressW, resW, ne_eq, forall_const, reduceCtorEq, implies_true, sets, oneAll, setD, rels, fillE, fillD, List.replicate, rowsOf, forall_eq, Nat.reduceMul, ↓zD, zT]
  refine .go hconf ?_
  by_cases h5 : confR K l 0 < 0 ∧ unitR K l ≠ 0
  · have hs : stepK l K = some (unitR K l) := if_pos h5
    have hg2 := step_good hok hK hs
    have hu : (unitR K l != 0) = true := bne_iff_ne.2 h5.2
    have hl2 := good_len hg2
    simp only [List.length_append, List.length_singleton] at hl2
    simp only [Int.reduceToNat, Int.reduceLT, Int.reduceLE, Int.reduceBEq, Int.reduceBNe, St0, argFr, ↓thenW, ↓blockW, ↓opX, ↓opV, ↓pX, ↓pW, ↓putK, ↓putP, ↓atK, ↓normK, ↓postZ, ↓reduceIte, reduceIte, Nat.reduceEqDiff, Nat.reduceAdd, Nat.reduceBEq, Nat.reduceLT, Nat.reduceLeDiff, binW, bodyQ, ressW, resW, ne_eq, forall_const, reduceCtorEq, implies_true, sets, oneAll, setD, rels, fillE, fillD, List.replicate, rowsOf, forall_eq, Nat.reduceMul, ↓zD, zT, h5.1]
    refine .go hunit ?_
    simp only [Int.reduceToNat, Int.reduceLT, Int.reduceLE, Int.reduceBEq, Int.reduceBNe, St0, argFr, ↓thenW, ↓blockW, ↓opX, ↓opV, ↓pX, ↓pW, ↓putK, ↓putP, ↓atK, ↓normK, ↓postZ, ↓reduceIte, reduceIte, Nat.reduceEqDiff, Nat.reduceAdd, Nat.reduceBEq, Nat.reduceLT, Nat.reduceLeDiff, binW, bodyQ, ressW, resW, ne_eq, forall_const, reduceCtorEq, implies_true, sets, oneAll, setD, rels, fillE, fillD, List.replicate, rowsOf, forall_eq, Nat.reduceMul, ↓zD, zT, hu]
    refine .go hunit ?_
    simp only [Int.reduceToNat, Int.reduceLT, Int.reduceLE, Int.reduceBEq, Int.reduceBNe, St0, argFr, ↓thenW, ↓blockW, ↓opX, ↓opV, ↓pX, ↓pW, ↓putK, ↓putP, ↓atK, ↓normK, ↓postZ, ↓reduceIte, reduceIte, Nat.reduceEqDiff, Nat.reduceAdd, Nat.reduceBEq, Nat.reduceLT, Nat.reduceLeDiff, binW, bodyQ, ressW, resW, ne_eq, forall_const, reduceCtorEq, implies_true, sets, oneAll, setD, rels, fillE, fillD, List.replicate, rowsOf, forall_eq, Nat.reduceMul, ↓zD, zT]
    (repeat (first | refine And.intro (by omega) ?_ | refine And.intro (ui_nonneg _) ?_ | refine And.intro (Int.natCast_nonneg _) ?_ | refine And.intro rfl ?_ | refine And.intro (rows_one' _ _) ?_ | refine And.intro (us_one _) ?_ | refine And.intro (by intro _ h; cases h; done) ?_))
    refine ⟨K ++ [unitR K l], ⟨hg2, by rw [hp, propK_step hg2 hs]⟩, ?_, by simp; omega⟩
    (refine Weak.ren [(1, 2)] [1] (by simp) (by simp) (by decide) ?_; simp only [stay1, vwL, vw, vwF, sw, St.get, St.look, Fr.get, ↓reduceIte, reduceIte, Nat.reduceEqDiff, Nat.reduceAdd, Nat.reduceBEq, Nat.reduceLT, Nat.reduceLeDiff, exists_eq_left', ne_eq, reduceCtorEq, zR])
    simp
  · have hs : stepK l K = none := if_neg h5
    rw [hp, propK_stop hK hs]
    have hcol := collect_lent (σ := ⟨2, [(1, ⟨1, rows .i64 K⟩)]⟩) (good_both hK) (show St.get ⟨2, [(1, ⟨1, rows .i64 K⟩)]⟩ 1 = some ⟨1, rows .i64 K⟩ by simp [St.get, St.look])
    have lent2 : lendL ⟨3, growO 2 1 (rows .i64 (canon K)) ++ [(1, ⟨1, rows .i64 K⟩)]⟩ [.sl 1 (rl l), .osl 1 1 K.length] [.sl 1 (rl l), .sl 1 (rows .i64 K)] := ⟨lend_sl 1 _, lend_rows (by rw [growO_get (by omega)]; simp [St.get, St.look]) rfl, trivial⟩
    have hconf2 := CallT.lent (conflict47 (K := K) (by omega) hok) lent2 rfl
    by_cases h6 : confR K l 0 < 0
    · have hu : (unitR K l != 0) = false := by
        have : unitR K l = 0 := by omega
        simpa using this
      simp only [Int.reduceToNat, Int.reduceLT, Int.reduceLE, Int.reduceBEq, Int.reduceBNe, St0, argFr, ↓thenW, ↓blockW, ↓opX, ↓opV, ↓pX, ↓pW, ↓putK, ↓putP, ↓atK, ↓normK, ↓postZ, ↓reduceIte, reduceIte, Nat.reduceEqDiff, Nat.reduceAdd, Nat.reduceBEq, Nat.reduceLT, Nat.reduceLeDiff, binW, bodyQ, ressW, resW, ne_eq, forall_const, reduceCtorEq, implies_true, sets, oneAll, setD, rels, fillE, fillD, List.replicate, rowsOf, forall_eq, Nat.reduceMul, ↓zD, zT, h6]
      refine .go hunit ?_
      simp only [Int.reduceToNat, Int.reduceLT, Int.reduceLE, Int.reduceBEq, Int.reduceBNe, St0, argFr, ↓thenW, ↓blockW, ↓opX, ↓opV, ↓pX, ↓pW, ↓putK, ↓putP, ↓atK, ↓normK, ↓postZ, ↓reduceIte, reduceIte, Nat.reduceEqDiff, Nat.reduceAdd, Nat.reduceBEq, Nat.reduceLT, Nat.reduceLeDiff, binW, bodyQ, ressW, resW, ne_eq, forall_const, reduceCtorEq, implies_true, sets, oneAll, setD, rels, fillE, fillD, List.replicate, rowsOf, forall_eq, Nat.reduceMul, ↓zD, zT, hu]
      refine .go hcol ?_
      simp only [Int.reduceToNat, Int.reduceLT, Int.reduceLE, Int.reduceBEq, Int.reduceBNe, St0, argFr, ↓thenW, ↓blockW, ↓opX, ↓opV, ↓pX, ↓pW, ↓putK, ↓putP, ↓atK, ↓normK, ↓postZ, ↓reduceIte, reduceIte, Nat.reduceEqDiff, Nat.reduceAdd, Nat.reduceBEq, Nat.reduceLT, Nat.reduceLeDiff, binW, bodyQ, ressW, resW, ne_eq, forall_const, reduceCtorEq, implies_true, sets, oneAll, setD, rels, fillE, fillD, List.replicate, rowsOf, forall_eq, Nat.reduceMul, ↓zD, zT]
      refine .go hconf2 ?_
      simp only [Int.reduceToNat, Int.reduceLT, Int.reduceLE, Int.reduceBEq, Int.reduceBNe, St0, argFr, ↓thenW, ↓blockW, ↓opX, ↓opV, ↓pX, ↓pW, ↓putK, ↓putP, ↓atK, ↓normK, ↓postZ, ↓reduceIte, reduceIte, Nat.reduceEqDiff, Nat.reduceAdd, Nat.reduceBEq, Nat.reduceLT, Nat.reduceLeDiff, binW, bodyQ, ressW, resW, ne_eq, forall_const, reduceCtorEq, implies_true, sets, oneAll, setD, rels, fillE, fillD, List.replicate, rowsOf, forall_eq, Nat.reduceMul, ↓zD, zT]
      exact .drop (by simp) ⟨rfl, grow_viewR (by simp) (rows_pure _ _), by simp [vw], by simp [vw], trivial⟩
    · simp only [Int.reduceToNat, Int.reduceLT, Int.reduceLE, Int.reduceBEq, Int.reduceBNe, St0, argFr, ↓thenW, ↓blockW, ↓opX, ↓opV, ↓pX, ↓pW, ↓putK, ↓putP, ↓atK, ↓normK, ↓postZ, ↓reduceIte, reduceIte, Nat.reduceEqDiff, Nat.reduceAdd, Nat.reduceBEq, Nat.reduceLT, Nat.reduceLeDiff, binW, bodyQ, ressW, resW, ne_eq, forall_const, reduceCtorEq, implies_true, sets, oneAll, setD, rels, fillE, fillD, List.replicate, rowsOf, forall_eq, Nat.reduceMul, ↓zD, zT, h6]
      refine .go hcol ?_
      simp only [Int.reduceToNat, Int.reduceLT, Int.reduceLE, Int.reduceBEq, Int.reduceBNe, St0, argFr, ↓thenW, ↓blockW, ↓opX, ↓opV, ↓pX, ↓pW, ↓putK, ↓putP, ↓atK, ↓normK, ↓postZ, ↓reduceIte, reduceIte, Nat.reduceEqDiff, Nat.reduceAdd, Nat.reduceBEq, Nat.reduceLT, Nat.reduceLeDiff, binW, bodyQ, ressW, resW, ne_eq, forall_const, reduceCtorEq, implies_true, sets, oneAll, setD, rels, fillE, fillD, List.replicate, rowsOf, forall_eq, Nat.reduceMul, ↓zD, zT]
      refine .go hconf2 ?_
      simp only [Int.reduceToNat, Int.reduceLT, Int.reduceLE, Int.reduceBEq, Int.reduceBNe, St0, argFr, ↓thenW, ↓blockW, ↓opX, ↓opV, ↓pX, ↓pW, ↓putK, ↓putP, ↓atK, ↓normK, ↓postZ, ↓reduceIte, reduceIte, Nat.reduceEqDiff, Nat.reduceAdd, Nat.reduceBEq, Nat.reduceLT, Nat.reduceLeDiff, binW, bodyQ, ressW, resW, ne_eq, forall_const, reduceCtorEq, implies_true, sets, oneAll, setD, rels, fillE, fillD, List.replicate, rowsOf, forall_eq, Nat.reduceMul, ↓zD, zT]
      exact .drop (by simp) ⟨rfl, grow_viewR (by simp) (rows_pure _ _), by simp [vw], by simp [vw], trivial⟩
end Go.Pd
