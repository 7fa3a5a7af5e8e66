/- Merging: contracts: the specification's lists, comparisons and ranks. -/
import Derived.Test.YtjaohaomninnlaaM8
set_option linter.unusedSectionVars false
set_option linter.unusedVariables false
set_option linter.unusedSimpArgs false
set_option linter.defProp false
set_option maxRecDepth 20000
namespace Go.Pd
open Go Go.Proofs
open Mg
theorem listsM_len (n : Nat) (p : List (BitVec 64)) : (listsM n p).length = 2 ^ n := by simp [listsM]
theorem take_snoc {α : Type} {l : List α} {k : Nat} {d : α} (h : k < l.length) : l.take (k + 1) = l.take k ++ [l.getD k d] := by
  rw [List.take_add_one]; simp [List.getD, h]
theorem lists_runs {n : Nat} {p : List (BitVec 64)} (hn : n ≤ 4) (hc : checkM n p = 0) : Runs Try.prog 37 [.int .i64 n, .sl 1 (us p)] (.sl 1 (rl (listsM n p))) := by
  refine CallT.go_fn mixed Try.func37 k37 (by simp) fun hf => ?_
  have h16 := pow_le hn
  obtain ⟨c1, c2, c3, c4⟩ := checkM_zero hc
  simp only [Int.reduceToNat, Int.reduceLT, Int.reduceLE, Int.reduceBEq, Int.reduceBNe, St0, argFr, ↓callZ, ↓midZ, ↓unZ, ↓thenW, ↓blockW, ↓opX, ↓opV, ↓pX, ↓pW, ↓putK, ↓putP, ↓atK, ↓normK, ↓postZ, ↓reduceIte, reduceIte, Nat.reduceEqDiff, Nat.reduceAdd, Nat.reduceBEq, Nat.reduceLT, Nat.reduceLeDiff, binW, bodyQ, ressW, resW, ne_eq, forall_const, reduceCtorEq, implies_true, sets, oneAll, setD, rels, fillE, fillD, List.replicate, rowsOf, forall_eq, Nat.reduceMul, ↓zD, zT]
  refine wpS_loop (fun k : Nat => [(6, .int .i64 k), (5, growD 0 1 (rl ((listsM n p).take k))), (1, .sl 1 (us p)), (0, .int .i64 n)]) (fun k => ⟨1, growO 0 1 (rl ((listsM n p).take k))⟩) (fun k => k ≤ 2 ^ n) (fun k => 2 ^ n - k) 0 (Nat.zero_le _) ?_ ?_
  · exact Weak.view (fun k => k) (by simp) (by simp) (by simp [vwF, vw, Fr.get, rl, growD]) (by simp [stays, rl, growO]) (by simp [apartNames, rl, growO])
  intro k hk
  have hl := listsM_len n p
  refine wpS_go mixed ?_
  by_cases h : k < 2 ^ n
  · have hd : ((k : Int) < ((2 ^ n : Nat) : Int)) := by omega
    have hk2 : ((listsM n p).take k).length = k := by rw [List.length_take]; omega
    simp only [Int.reduceToNat, Int.reduceLT, Int.reduceLE, Int.reduceBEq, Int.reduceBNe, St0, argFr, ↓callZ, ↓midZ, ↓unZ, ↓thenW, ↓blockW, ↓opX, ↓opV, ↓pX, ↓pW, ↓putK, ↓putP, ↓atK, ↓normK, ↓postZ, ↓reduceIte, reduceIte, Nat.reduceEqDiff, Nat.reduceAdd, Nat.reduceBEq, Nat.reduceLT, Nat.reduceLeDiff, binW, bodyQ, ressW, resW, ne_eq, forall_const, reduceCtorEq, implies_true, sets, oneAll, setD, rels, fillE, fillD, List.replicate, rowsOf, forall_eq, Nat.reduceMul, ↓zD, zT, convN (show n ≤ 1000000 by omega), shlN (show n ≤ 61 by omega), hd]
    (repeat refine And.intro (by first | omega | exact ui_nonneg _ | exact Int.natCast_nonneg _ | rfl | exact rows_one' _ _ | exact us_one _ | (intro _ h; cases h; done)) ?_)
    refine .go (CallT.of_runs (refDistances_all hn h hc) rfl) ?_
    simp only [Int.reduceToNat, Int.reduceLT, Int.reduceLE, Int.reduceBEq, Int.reduceBNe, St0, argFr, ↓callZ, ↓midZ, ↓unZ, ↓thenW, ↓blockW, ↓opX, ↓opV, ↓pX, ↓pW, ↓putK, ↓putP, ↓atK, ↓normK, ↓postZ, ↓reduceIte, reduceIte, Nat.reduceEqDiff, Nat.reduceAdd, Nat.reduceBEq, Nat.reduceLT, Nat.reduceLeDiff, binW, bodyQ, ressW, resW, ne_eq, forall_const, reduceCtorEq, implies_true, sets, oneAll, setD, rels, fillE, fillD, List.replicate, rowsOf, forall_eq, Nat.reduceMul, ↓zD, zT]
    refine .go (CallT.of_runs (descending_runs (distL n p k) (by rw [distL_len]; omega)) (by simp [D.isPureL, D.isPure])) ?_
    simp only [Int.reduceToNat, Int.reduceLT, Int.reduceLE, Int.reduceBEq, Int.reduceBNe, St0, argFr, ↓callZ, ↓midZ, ↓unZ, ↓thenW, ↓blockW, ↓opX, ↓opV, ↓pX, ↓pW, ↓putK, ↓putP, ↓atK, ↓normK, ↓postZ, ↓reduceIte, reduceIte, Nat.reduceEqDiff, Nat.reduceAdd, Nat.reduceBEq, Nat.reduceLT, Nat.reduceLeDiff, binW, bodyQ, ressW, resW, ne_eq, forall_const, reduceCtorEq, implies_true, sets, oneAll, setD, rels, fillE, fillD, List.replicate, rowsOf, forall_eq, Nat.reduceMul, ↓zD, zT, rl_len, hk2]
    (repeat refine And.intro (by first | omega | exact ui_nonneg _ | exact Int.natCast_nonneg _ | rfl | exact rows_one' _ _ | exact us_one _ | (intro _ h; cases h; done)) ?_)
    refine ⟨k + 1, by omega, ?_, by omega⟩
    rw [rl_snoc, ← listsM_at h, ← take_snoc (by omega)]
    (refine Weak.ren [(0, 2)] [0] (by simp) (by simp) (by decide) ?_; simp only [stay1, vwL, vw, vwF, sw, St.get, St.look, Fr.get, ↓reduceIte, reduceIte, Nat.reduceEqDiff, Nat.reduceAdd, Nat.reduceBEq, Nat.reduceLT, Nat.reduceLeDiff, exists_eq_left', ne_eq, reduceCtorEq, zR, pureE_rl])
    exact wrap_i64 (by omega)
  · have hd : ¬ ((k : Int) < ((2 ^ n : Nat) : Int)) := by omega
    simp only [Int.reduceToNat, Int.reduceLT, Int.reduceLE, Int.reduceBEq, Int.reduceBNe, St0, argFr, ↓callZ, ↓midZ, ↓unZ, ↓thenW, ↓blockW, ↓opX, ↓opV, ↓pX, ↓pW, ↓putK, ↓putP, ↓atK, ↓normK, ↓postZ, ↓reduceIte, reduceIte, Nat.reduceEqDiff, Nat.reduceAdd, Nat.reduceBEq, Nat.reduceLT, Nat.reduceLeDiff, binW, bodyQ, ressW, resW, ne_eq, forall_const, reduceCtorEq, implies_true, sets, oneAll, setD, rels, fillE, fillD, List.replicate, rowsOf, forall_eq, Nat.reduceMul, ↓zD, zT, convN (show n ≤ 1000000 by omega), shlN (show n ≤ 61 by omega), hd]
    (repeat refine And.intro (by first | omega | exact ui_nonneg _ | exact Int.natCast_nonneg _ | rfl | exact rows_one' _ _ | exact us_one _ | (intro _ h; cases h; done)) ?_)
    rw [show k = (listsM n p).length by omega, List.take_length]
    exact .drop (by simp) (grow_view (by simp) (rl_pure _))

/-- The specification's comparison: the first difference. -/
def cmpR : List Int → List Int → Int
  | x :: a, y :: b => if x ≠ y then x - y else cmpR a b
  | _, _ => 0
theorem cmpR_lex : ∀ {a b : List Int}, a.length = b.length → (cmpR a b < 0 ↔ lexC a b < 0) ∧ (cmpR a b = 0 ↔ a = b)
  | [], [], _ => by simp [cmpR, lexC]
  | x :: a, y :: b, h => by
    obtain ⟨h1, h2⟩ := cmpR_lex (a := a) (b := b) (by simpa using h)
    by_cases e : x = y
    · subst e
      simp only [cmpR, lexC, ne_eq, not_true_eq_false, if_false, Int.lt_irrefl]
      exact ⟨h1, by rw [h2]; simp⟩
    · have : cmpR (x :: a) (y :: b) = x - y := if_pos e
      rw [this]
      unfold lexC
      constructor
      · by_cases hlt : x < y
        · rw [if_pos hlt]; omega
        · rw [if_neg hlt, if_pos (by omega)]; omega
      · constructor
        · intro h; omega
        · intro h; injection h with h3; exact absurd h3 e
theorem compare_runs {a b : List Int} (hl : a.length = b.length) (ha : ∀ x ∈ a, 0 ≤ x ∧ x ≤ 1000) (hb : ∀ x ∈ b, 0 ≤ x ∧ x ≤ 1000) : Runs Try.prog 65 [.sl 1 (rows .i64 a), .sl 1 (rows .i64 b)] (.int .i64 (cmpR a b)) := by
  refine CallT.go_fn mixed Try.func65 k65 (by simp) fun hf => ?_
  simp only [D.factL, D.fact, rows_len] at hf
  have hlen := hf.1.1
  simp only [Int.reduceToNat, Int.reduceLT, Int.reduceLE, Int.reduceBEq, Int.reduceBNe, St0, argFr, ↓callZ, ↓midZ, ↓unZ, ↓thenW, ↓blockW, ↓opX, ↓opV, ↓pX, ↓pW, ↓putK, ↓putP, ↓atK, ↓normK, ↓postZ, ↓reduceIte, reduceIte, Nat.reduceEqDiff, Nat.reduceAdd, Nat.reduceBEq, Nat.reduceLT, Nat.reduceLeDiff, binW, bodyQ, ressW, resW, ne_eq, forall_const, reduceCtorEq, implies_true, sets, oneAll, setD, rels, fillE, fillD, List.replicate, rowsOf, forall_eq, Nat.reduceMul, ↓zD, zT]
  refine wpS_loop (fun k : Nat => [(5, .int .i64 k), (1, .sl 1 (rows .i64 b)), (0, .sl 1 (rows .i64 a))]) (fun _ => ⟨0, []⟩) (fun k => k ≤ a.length ∧ cmpR a b = cmpR (a.drop k) (b.drop k)) (fun k => a.length - k) 0 ⟨Nat.zero_le _, rfl⟩ ?_ ?_
  · (refine Weak.same ?_; simp [sameF, Fr.get])
  intro k ⟨hk, hi⟩
  refine wpS_go mixed ?_
  by_cases h : k < a.length
  · have hd : ((k : Int) < (a.length : Int)) := by omega
    have e1 : a.drop k = a.getD k 0 :: a.drop (k + 1) := by simp [List.getD, h]
    have e2 : b.drop k = b.getD k 0 :: b.drop (k + 1) := by simp [List.getD, show k < b.length by omega]
    rw [e1, e2, cmpR] at hi
    have hx := ha (a.getD k 0) (by simp [List.getD, h])
    have hy := hb (b.getD k 0) (by simp [List.getD, show k < b.length by omega])
    by_cases e : a.getD k 0 = b.getD k 0
    · have e3 : (a.getD k 0 != b.getD k 0) = false := by simp only [e, bne_self_eq_false]
      rw [if_neg (by simpa using e)] at hi
      simp only [Int.reduceToNat, Int.reduceLT, Int.reduceLE, Int.reduceBEq, Int.reduceBNe, St0, argFr, ↓callZ, ↓midZ, ↓unZ, ↓thenW, ↓blockW, ↓opX, ↓opV, ↓pX, ↓pW, ↓putK, ↓putP, ↓atK, ↓normK, ↓postZ, ↓reduceIte, reduceIte, Nat.reduceEqDiff, Nat.reduceAdd, Nat.reduceBEq, Nat.reduceLT, Nat.reduceLeDiff, binW, bodyQ, ressW, resW, ne_eq, forall_const, reduceCtorEq, implies_true, sets, oneAll, setD, rels, fillE, fillD, List.replicate, rowsOf, forall_eq, Nat.reduceMul, ↓zD, zT, hd, rows_get .i64 a h, rows_get .i64 b (show k < b.length by omega), e3]
      (repeat refine And.intro (by first | omega | exact ui_nonneg _ | exact Int.natCast_nonneg _ | rfl | exact rows_one' _ _ | exact us_one _ | (intro _ h; cases h; done)) ?_)
      refine ⟨k + 1, ⟨by omega, hi⟩, ?_, by omega⟩
      (refine Weak.same ?_; simp only [sameF, Fr.get, ↓reduceIte, reduceIte, Nat.reduceEqDiff, reduceCtorEq, D.int.injEq, D.bool.injEq, D.sl.injEq, and_true, true_and, and_self])
      exact wrap_i64 (by omega)
    · have e3 : (a.getD k 0 != b.getD k 0) = true := bne_iff_ne.2 e
      rw [if_pos e] at hi
      simp only [Int.reduceToNat, Int.reduceLT, Int.reduceLE, Int.reduceBEq, Int.reduceBNe, St0, argFr, ↓callZ, ↓midZ, ↓unZ, ↓thenW, ↓blockW, ↓opX, ↓opV, ↓pX, ↓pW, ↓putK, ↓putP, ↓atK, ↓normK, ↓postZ, ↓reduceIte, reduceIte, Nat.reduceEqDiff, Nat.reduceAdd, Nat.reduceBEq, Nat.reduceLT, Nat.reduceLeDiff, binW, bodyQ, ressW, resW, ne_eq, forall_const, reduceCtorEq, implies_true, sets, oneAll, setD, rels, fillE, fillD, List.replicate, rowsOf, forall_eq, Nat.reduceMul, ↓zD, zT, hd, rows_get .i64 a h, rows_get .i64 b (show k < b.length by omega), e3]
      (repeat refine And.intro (by first | omega | exact ui_nonneg _ | exact Int.natCast_nonneg _ | rfl | exact rows_one' _ _ | exact us_one _ | (intro _ h; cases h; done)) ?_)
      rw [hi]
      exact .drop (by simp) (by simp only [vw, D.int.injEq, true_and, wrap_i64 (show -9223372036854775808 ≤ a.getD k 0 - b.getD k 0 ∧ a.getD k 0 - b.getD k 0 ≤ 9223372036854775807 by omega)])
  · have hd : ¬ ((k : Int) < (a.length : Int)) := by omega
    simp only [Int.reduceToNat, Int.reduceLT, Int.reduceLE, Int.reduceBEq, Int.reduceBNe, St0, argFr, ↓callZ, ↓midZ, ↓unZ, ↓thenW, ↓blockW, ↓opX, ↓opV, ↓pX, ↓pW, ↓putK, ↓putP, ↓atK, ↓normK, ↓postZ, ↓reduceIte, reduceIte, Nat.reduceEqDiff, Nat.reduceAdd, Nat.reduceBEq, Nat.reduceLT, Nat.reduceLeDiff, binW, bodyQ, ressW, resW, ne_eq, forall_const, reduceCtorEq, implies_true, sets, oneAll, setD, rels, fillE, fillD, List.replicate, rowsOf, forall_eq, Nat.reduceMul, ↓zD, zT, hd]
    rw [hi, List.drop_eq_nil_of_le (by omega), cmpR]
    · exact .same
    · intro x a y b h; cases h
end Go.Pd
