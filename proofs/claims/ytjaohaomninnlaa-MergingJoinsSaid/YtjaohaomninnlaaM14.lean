/- Merging: contracts: cloning, searching. -/
import Derived.Test.YtjaohaomninnlaaM13
set_option linter.unusedSectionVars false
set_option linter.unusedVariables false
set_option linter.unusedSimpArgs false
set_option linter.defProp false
set_option maxRecDepth 20000
namespace Go.Pd
open Go Go.Proofs
open Mg
theorem Clone44_runs (x : List Int) (l : List (List Int)) (hl : l.length ≤ 1000) : CallT Try.prog 44 [.sl 1 (rl (x :: l))] St0 (.osl 0 1 (l.length + 1)) ⟨1, [(0, ⟨1, rl (x :: l)⟩)]⟩ := by
  refine CallT.go_fn mixed Try.func44 k44 (by simp) fun hf => ?_
  have e : rl (x :: l) = [.sl 1 (rows .i64 x)] :: rl l := rfl
  have h1 : ∀ e ∈ [.sl 1 (rows .i64 x)] :: rl l, oneAll e = true := e ▸ rl_one (x :: l)
  rw [e]
  simp only [Int.reduceToNat, Int.reduceLT, Int.reduceLE, Int.reduceBEq, Int.reduceBNe, St0, argFr, ↓callZ, ↓midZ, ↓unZ, ↓thenW, ↓blockW, ↓opX, ↓opV, ↓pX, ↓pW, ↓putK, ↓putP, ↓atK, ↓normK, ↓postZ, ↓reduceIte, reduceIte, Nat.reduceEqDiff, Nat.reduceAdd, Nat.reduceBEq, Nat.reduceLT, Nat.reduceLeDiff, binW, bodyQ, ressW, resW, ne_eq, forall_const, reduceCtorEq, implies_true, sets, oneAll, setD, rels, fillE, fillD, List.replicate, rowsOf, forall_eq, Nat.reduceMul, ↓zD, zT, rl_len]
  refine ⟨by simp, h1, by omega, by omega, ?_⟩
  rw [← e]
  (refine RetV.ren [(0, 1)] [0] (by simp) (by simp) (by decide) ?_; simp only [stay1, vwL, vw, vwF, sw, St.get, St.look, Fr.get, ↓reduceIte, reduceIte, Nat.reduceEqDiff, Nat.reduceAdd, Nat.reduceBEq, Nat.reduceLT, Nat.reduceLeDiff, exists_eq_left', ne_eq, reduceCtorEq, zR, pureE_rl])
/-- How many of a list are smaller. -/
def below (m : List (List Int)) (x : List Int) : Nat := (m.filter fun y => decide (lexC y x < 0)).length
theorem below_eq {x : List Int} : ∀ {m : List (List Int)} {i : Nat}, i ≤ m.length → (∀ a, a < i → lexC (m.getD a []) x < 0) → (∀ a, i ≤ a → a < m.length → ¬ lexC (m.getD a []) x < 0) → below m x = i
  | [], i, h, _, _ => by simp at h; simp [below, h]
  | y :: m, 0, _, _, h2 => by
    have h0 := h2 0 (Nat.le_refl _) (by simp)
    have ih := below_eq (x := x) (m := m) (i := 0) (Nat.zero_le _) (fun a ha => by omega) (fun a _ ha => by simpa using h2 (a + 1) (by omega) (by simp; omega))
    unfold below at ih ⊢
    rw [List.filter_cons, if_neg (by simpa using h0), ih]
  | y :: m, i + 1, hi, h1, h2 => by
    have h0 := h1 0 (by omega)
    have ih := below_eq (x := x) (m := m) (i := i) (by simpa using hi) (fun a ha => by simpa using h1 (a + 1) (by omega)) (fun a ha hb => by simpa using h2 (a + 1) (by omega) (by simp; omega))
    unfold below at ih ⊢
    rw [List.filter_cons, if_pos (by simpa using h0), List.length_cons, ih]
theorem shr_half {n : Nat} (h : n ≤ 1000000) : shrI .u64 (n : Int) (ui 1#64) = ((n / 2 : Nat) : Int) := by
  unfold shrI
  have e : min (ui 1#64).toNat IntKind.u64.bits = 1 := rfl
  rw [e]
  show ((n : Int)).fdiv 2 = _
  rw [Int.fdiv_eq_ediv_of_nonneg _ (by decide)]
  omega
theorem asc_lt {m : List (List Int)} {x : List Int} (hm : asc m) {a b : Nat} (hab : a ≤ b) (hb : b < m.length) (h : lexC (m.getD b []) x < 0) : lexC (m.getD a []) x < 0 := by
  by_cases e : a = b
  · rw [e]; exact h
  · have hp := List.pairwise_iff_getElem.1 hm a b (by omega) hb (by omega)
    have e1 : m.getD a [] = m[a]'(by omega) := by simp [List.getD, show a < m.length by omega]
    have e2 : m.getD b [] = m[b] := by simp [List.getD, hb]
    rw [e1]; rw [e2] at h
    by_cases c : lexC (m[a]'(by omega)) x < 0
    · exact c
    · exact absurd h (lexC_ntrans hp c)
theorem search_runs {m : List (List Int)} (x : List Int) (hm : asc m) (hl : m.length ≤ 1000) : ∃ b : Bool, Runs Try.prog 49 [.sl 1 (rl m), .sl 1 (rows .i64 x), .fn 46 []] (.tup [.int .i64 (below m x), .bool b]) := by
  refine ⟨decide (below m x < m.length) && decide (lexC (m.getD (below m x) []) x = 0), ?_⟩
  refine CallT.go_fn mixed Try.func49 k49 (by simp) fun hf => ?_
  simp only [Int.reduceToNat, Int.reduceLT, Int.reduceLE, Int.reduceBEq, Int.reduceBNe, St0, argFr, ↓callZ, ↓midZ, ↓unZ, ↓thenW, ↓blockW, ↓opX, ↓opV, ↓pX, ↓pW, ↓putK, ↓putP, ↓atK, ↓normK, ↓postZ, ↓reduceIte, reduceIte, Nat.reduceEqDiff, Nat.reduceAdd, Nat.reduceBEq, Nat.reduceLT, Nat.reduceLeDiff, binW, bodyQ, ressW, resW, ne_eq, forall_const, reduceCtorEq, implies_true, sets, oneAll, setD, rels, fillE, fillD, List.replicate, rowsOf, forall_eq, Nat.reduceMul, ↓zD, zT, rl_len]
  refine wpS_loop (fun a : Nat × Nat => [(10, .int .i64 a.2), (9, .int .i64 a.1), (8, .int .i64 m.length), (2, .fn 46 []), (1, .sl 1 (rows .i64 x)), (0, .sl 1 (rl m))]) (fun _ => ⟨0, []⟩) (fun a => a.1 ≤ a.2 ∧ a.2 ≤ m.length ∧ (∀ i, i < a.1 → lexC (m.getD i []) x < 0) ∧ (∀ i, a.2 ≤ i → i < m.length → ¬ lexC (m.getD i []) x < 0)) (fun a => a.2 - a.1) (0, m.length) ⟨Nat.zero_le _, Nat.le_refl _, fun i hi => by omega, fun i h1 h2 => by omega⟩ ?_ ?_
  · (refine Weak.same ?_; simp [sameF, Fr.get])
  intro ⟨lo, hi⟩ ⟨h1, h2, h3, h4⟩
  simp only at h1 h2 h3 h4
  refine wpS_go mixed ?_
  by_cases h : lo < hi
  · have hd : ((lo : Int) < (hi : Int)) := by omega
    have es : IntKind.i64.wrap ((lo : Int) + (hi : Int)) = ((lo + hi : Nat) : Int) := by rw [wrap_i64 (by omega)]; omega
    have ew : IntKind.i64.wrap (((lo + hi) / 2 : Nat) : Int) = (((lo + hi) / 2 : Nat) : Int) := wrap_i64 (by omega)
    have hmid : (lo + hi) / 2 < m.length := by omega
    simp only [Int.reduceToNat, Int.reduceLT, Int.reduceLE, Int.reduceBEq, Int.reduceBNe, St0, argFr, ↓callZ, ↓midZ, ↓unZ, ↓thenW, ↓blockW, ↓opX, ↓opV, ↓pX, ↓pW, ↓putK, ↓putP, ↓atK, ↓normK, ↓postZ, ↓reduceIte, reduceIte, Nat.reduceEqDiff, Nat.reduceAdd, Nat.reduceBEq, Nat.reduceLT, Nat.reduceLeDiff, binW, bodyQ, ressW, resW, ne_eq, forall_const, reduceCtorEq, implies_true, sets, oneAll, setD, rels, fillE, fillD, List.replicate, rowsOf, forall_eq, Nat.reduceMul, ↓zD, zT, hd, es, convN (show lo + hi ≤ 1000000 by omega), shr_half (show lo + hi ≤ 1000000 by omega), ew, rl_len, rl_get m hmid]
    (repeat refine And.intro (by first | omega | exact ui_nonneg _ | exact Int.natCast_nonneg _ | rfl | exact rows_one' _ _ | exact us_one _ | (intro _ h; cases h; done)) ?_)
    refine .go (CallT.of_runs (Compare_runs (m.getD ((lo + hi) / 2) []) x) (by simp [D.isPureL, D.isPure])) ?_
    by_cases c : lexC (m.getD ((lo + hi) / 2) []) x < 0
    · simp only [Int.reduceToNat, Int.reduceLT, Int.reduceLE, Int.reduceBEq, Int.reduceBNe, St0, argFr, ↓callZ, ↓midZ, ↓unZ, ↓thenW, ↓blockW, ↓opX, ↓opV, ↓pX, ↓pW, ↓putK, ↓putP, ↓atK, ↓normK, ↓postZ, ↓reduceIte, reduceIte, Nat.reduceEqDiff, Nat.reduceAdd, Nat.reduceBEq, Nat.reduceLT, Nat.reduceLeDiff, binW, bodyQ, ressW, resW, ne_eq, forall_const, reduceCtorEq, implies_true, sets, oneAll, setD, rels, fillE, fillD, List.replicate, rowsOf, forall_eq, Nat.reduceMul, ↓zD, zT, c]
      refine ⟨((lo + hi) / 2 + 1, hi), ⟨by show (lo + hi) / 2 + 1 ≤ hi; omega, h2, fun i hi2 => asc_lt hm (show i ≤ (lo + hi) / 2 by change i < (lo + hi) / 2 + 1 at hi2; omega) hmid c, h4⟩, ?_, by show hi - ((lo + hi) / 2 + 1) < hi - lo; omega⟩
      (refine Weak.same ?_; simp only [sameF, Fr.get, ↓reduceIte, reduceIte, Nat.reduceEqDiff, reduceCtorEq, D.int.injEq, D.bool.injEq, D.sl.injEq, and_true, true_and, and_self])
      exact wrap_i64 (by omega)
    · simp only [Int.reduceToNat, Int.reduceLT, Int.reduceLE, Int.reduceBEq, Int.reduceBNe, St0, argFr, ↓callZ, ↓midZ, ↓unZ, ↓thenW, ↓blockW, ↓opX, ↓opV, ↓pX, ↓pW, ↓putK, ↓putP, ↓atK, ↓normK, ↓postZ, ↓reduceIte, reduceIte, Nat.reduceEqDiff, Nat.reduceAdd, Nat.reduceBEq, Nat.reduceLT, Nat.reduceLeDiff, binW, bodyQ, ressW, resW, ne_eq, forall_const, reduceCtorEq, implies_true, sets, oneAll, setD, rels, fillE, fillD, List.replicate, rowsOf, forall_eq, Nat.reduceMul, ↓zD, zT, c]
      refine ⟨(lo, (lo + hi) / 2), ⟨by show lo ≤ (lo + hi) / 2; omega, by show (lo + hi) / 2 ≤ m.length; omega, h3, fun i hi2 hi3 hc => c (asc_lt hm hi2 hi3 hc)⟩, ?_, by show (lo + hi) / 2 - lo < hi - lo; omega⟩
      (refine Weak.same ?_; simp only [sameF, Fr.get, ↓reduceIte, reduceIte, Nat.reduceEqDiff, reduceCtorEq, D.int.injEq, D.bool.injEq, D.sl.injEq, and_true, true_and, and_self])
  · have hd : ¬ ((lo : Int) < (hi : Int)) := by omega
    have e : below m x = lo := below_eq (by omega) h3 fun a ha hb => h4 a (by omega) hb
    rw [e]
    by_cases hlen : lo < m.length
    · have hd2 : ((lo : Int) < (m.length : Int)) := by omega
      simp only [Int.reduceToNat, Int.reduceLT, Int.reduceLE, Int.reduceBEq, Int.reduceBNe, St0, argFr, ↓callZ, ↓midZ, ↓unZ, ↓thenW, ↓blockW, ↓opX, ↓opV, ↓pX, ↓pW, ↓putK, ↓putP, ↓atK, ↓normK, ↓postZ, ↓reduceIte, reduceIte, Nat.reduceEqDiff, Nat.reduceAdd, Nat.reduceBEq, Nat.reduceLT, Nat.reduceLeDiff, binW, bodyQ, ressW, resW, ne_eq, forall_const, reduceCtorEq, implies_true, sets, oneAll, setD, rels, fillE, fillD, List.replicate, rowsOf, forall_eq, Nat.reduceMul, ↓zD, zT, hd, hd2, rl_len, rl_get m hlen]
      (repeat refine And.intro (by first | omega | exact ui_nonneg _ | exact Int.natCast_nonneg _ | rfl | exact rows_one' _ _ | exact us_one _ | (intro _ h; cases h; done)) ?_)
      refine .go (CallT.of_runs (Compare_runs (m.getD lo []) x) (by simp [D.isPureL, D.isPure])) ?_
      simp only [Int.reduceToNat, Int.reduceLT, Int.reduceLE, Int.reduceBEq, Int.reduceBNe, St0, argFr, ↓callZ, ↓midZ, ↓unZ, ↓thenW, ↓blockW, ↓opX, ↓opV, ↓pX, ↓pW, ↓putK, ↓putP, ↓atK, ↓normK, ↓postZ, ↓reduceIte, reduceIte, Nat.reduceEqDiff, Nat.reduceAdd, Nat.reduceBEq, Nat.reduceLT, Nat.reduceLeDiff, binW, bodyQ, ressW, resW, ne_eq, forall_const, reduceCtorEq, implies_true, sets, oneAll, setD, rels, fillE, fillD, List.replicate, rowsOf, forall_eq, Nat.reduceMul, ↓zD, zT]
      exact .drop (by simp) (by simp only [vw, vwL, and_true, D.bool.injEq, true_and, List.length_cons, List.length_nil, decide_eq_true hlen, Bool.true_and]; rfl)
    · have hd2 : ¬ ((lo : Int) < (m.length : Int)) := by omega
      simp only [Int.reduceToNat, Int.reduceLT, Int.reduceLE, Int.reduceBEq, Int.reduceBNe, St0, argFr, ↓callZ, ↓midZ, ↓unZ, ↓thenW, ↓blockW, ↓opX, ↓opV, ↓pX, ↓pW, ↓putK, ↓putP, ↓atK, ↓normK, ↓postZ, ↓reduceIte, reduceIte, Nat.reduceEqDiff, Nat.reduceAdd, Nat.reduceBEq, Nat.reduceLT, Nat.reduceLeDiff, binW, bodyQ, ressW, resW, ne_eq, forall_const, reduceCtorEq, implies_true, sets, oneAll, setD, rels, fillE, fillD, List.replicate, rowsOf, forall_eq, Nat.reduceMul, ↓zD, zT, hd, hd2]
      exact .drop (by simp) (by simp only [vw, vwL, and_true, D.bool.injEq, true_and, List.length_cons, List.length_nil, decide_eq_false hlen, Bool.false_and])
end Go.Pd
