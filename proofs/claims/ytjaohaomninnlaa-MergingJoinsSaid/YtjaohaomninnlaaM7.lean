/- Merging: contracts: lists in descending order. -/
import Derived.Test.YtjaohaomninnlaaM6
set_option linter.unusedSectionVars false
set_option linter.unusedVariables false
set_option linter.unusedSimpArgs false
set_option linter.defProp false
set_option maxRecDepth 20000
namespace Go.Pd
open Go Go.Proofs
open Mg
theorem getD_set (o : List Int) (i j : Nat) (x : Int) : (o.set i x).getD j 0 = if i = j ∧ j < o.length then x else o.getD j 0 := by
  simp only [List.getD, List.getElem?_set]
  split
  · rename_i h; subst h; by_cases hj : i < o.length
    · simp [hj]
    · simp [hj]
  · rename_i h; simp [h]
theorem rows_set (k : IntKind) (l : List Int) (i : Nat) (n : Int) : (rows k l).set i [.int k n] = rows k (l.set i n) := by simp [rows, List.map_set]
/-- Two neighbours exchanged. -/
def swapL (o : List Int) (k : Nat) : List Int := (o.set k (o.getD (k - 1) 0)).set (k - 1) (o.getD k 0)
theorem swapL_perm {o : List Int} {k : Nat} (hk : k < o.length) : (swapL o k).Perm o := by
  have h := List.set_set_perm hk (show k - 1 < o.length by omega)
  have e1 : o.getD (k - 1) 0 = o[k - 1]'(by omega) := by simp [List.getD, show k - 1 < o.length by omega]
  have e2 : o.getD k 0 = o[k] := by simp [List.getD, hk]
  unfold swapL
  rw [e1, e2]
  exact h
theorem swapL_at {o : List Int} {k : Nat} (h0 : 0 < k) (hk : k < o.length) (j : Nat) : (swapL o k).getD j 0 = if j = k then o.getD (k - 1) 0 else if j = k - 1 then o.getD k 0 else o.getD j 0 := by
  unfold swapL
  rw [getD_set, getD_set, List.length_set]
  by_cases h1 : j = k
  · subst h1
    rw [if_neg (by omega), if_pos ⟨rfl, hk⟩, if_pos rfl]
  · by_cases h2 : j = k - 1
    · subst h2
      rw [if_pos ⟨rfl, by omega⟩, if_neg (by omega), if_pos rfl]
    · rw [if_neg (by omega), if_neg (by omega), if_neg h1, if_neg h2]
/-- Falling up to i, but for the pairs that end in k. -/
def nearly (o : List Int) (i k : Nat) : Prop := ∀ a b, a < b → b ≤ i → b ≠ k → o.getD b 0 ≤ o.getD a 0
theorem nearly_swap {o : List Int} {i k : Nat} (hi : i < o.length) (hk : k ≤ i) (h0 : 0 < k) (h : nearly o i k) (hlt : o.getD (k - 1) 0 < o.getD k 0) : nearly (swapL o k) i (k - 1) := by
  intro a b hab hb hne
  rw [swapL_at h0 (by omega), swapL_at h0 (by omega)]
  by_cases e1 : b = k
  · subst e1
    rw [if_pos rfl, if_neg (by omega)]
    by_cases e2 : a = b - 1
    · rw [if_pos e2]; omega
    · rw [if_neg e2]
      exact h a (b - 1) (by omega) (by omega) (by omega)
  · rw [if_neg e1, if_neg hne]
    by_cases e2 : a = k
    · subst e2
      rw [if_pos rfl]
      exact h (a - 1) b (by omega) hb e1
    · rw [if_neg e2]
      by_cases e3 : a = k - 1
      · rw [if_pos e3]
        exact h k b (by omega) hb e1
      · rw [if_neg e3]
        exact h a b hab hb e1
theorem nearly_done {o : List Int} {i k : Nat} (hk : k ≤ i) (h : nearly o i k) (hstop : k = 0 ∨ o.getD k 0 ≤ o.getD (k - 1) 0) : ∀ a b, a < b → b < i + 1 → o.getD b 0 ≤ o.getD a 0 := by
  intro a b hab hb
  by_cases e : b = k
  · subst e
    rcases hstop with h0 | h0
    · omega
    · by_cases e2 : a = b - 1
      · rw [e2]; exact h0
      · have := h a (b - 1) (by omega) (by omega) (by omega); omega
  · exact h a b hab (by omega) e
theorem falling_of {o : List Int} (h : ∀ a b, a < b → b < o.length → o.getD b 0 ≤ o.getD a 0) : falling o := by
  unfold falling
  rw [List.pairwise_iff_getElem]
  intro i j hi hj hij
  have := h i j hij hj
  simpa [List.getD, hi, hj] using this

theorem descending_runs (l : List Int) (hl : l.length ≤ 1000) : Runs Try.prog 54 [.sl 1 (rows .i64 l)] (.sl 1 (rows .i64 (descS l))) := by
  refine CallT.go_fn mixed Try.func54 k54 (by simp) fun hf => ?_
  simp only [Int.reduceToNat, Int.reduceLT, Int.reduceLE, Int.reduceBEq, Int.reduceBNe, St0, argFr, ↓callZ, ↓midZ, ↓unZ, ↓thenW, ↓blockW, ↓opX, ↓opV, ↓pX, ↓pW, ↓putK, ↓putP, ↓atK, ↓normK, ↓postZ, ↓reduceIte, reduceIte, Nat.reduceEqDiff, Nat.reduceAdd, Nat.reduceBEq, Nat.reduceLT, Nat.reduceLeDiff, binW, bodyQ, ressW, resW, ne_eq, forall_const, reduceCtorEq, implies_true, sets, oneAll, setD, rels, fillE, fillD, List.replicate, rowsOf, forall_eq, Nat.reduceMul, ↓zD, zT]
  (repeat refine And.intro (by first | omega | exact ui_nonneg _ | exact Int.natCast_nonneg _ | rfl | exact rows_one' _ _ | exact us_one _ | (intro _ h; cases h; done)) ?_)
  refine wpS_loop (fun a : Nat × List Int => [(4, .int .i64 a.1), (3, .osl 0 1 l.length)]) (fun a => ⟨1, [(0, ⟨1, rows .i64 a.2⟩)]⟩) (fun a => a.1 ≤ l.length ∧ a.2.Perm l ∧ ∀ x y, x < y → y < a.1 → a.2.getD y 0 ≤ a.2.getD x 0) (fun a => l.length - a.1) (0, l) ⟨Nat.zero_le _, .refl _, fun x y h1 h2 => by omega⟩ ?_ ?_
  · (refine Weak.ren [(0, 1)] [0] (by simp) (by simp) (by decide) ?_; simp only [stay1, vwL, vw, vwF, sw, St.get, St.look, Fr.get, ↓reduceIte, reduceIte, Nat.reduceEqDiff, Nat.reduceAdd, Nat.reduceBEq, Nat.reduceLT, Nat.reduceLeDiff, exists_eq_left', ne_eq, reduceCtorEq, zR])
  intro ⟨i, o⟩ ⟨hi, hp, hf1⟩
  simp only at hi hp hf1
  have hlen := hp.length_eq
  refine wpS_go mixed ?_
  by_cases h : i < l.length
  · have hd : ((i : Int) < (l.length : Int)) := by omega
    simp only [Int.reduceToNat, Int.reduceLT, Int.reduceLE, Int.reduceBEq, Int.reduceBNe, St0, argFr, ↓callZ, ↓midZ, ↓unZ, ↓thenW, ↓blockW, ↓opX, ↓opV, ↓pX, ↓pW, ↓putK, ↓putP, ↓atK, ↓normK, ↓postZ, ↓reduceIte, reduceIte, Nat.reduceEqDiff, Nat.reduceAdd, Nat.reduceBEq, Nat.reduceLT, Nat.reduceLeDiff, binW, bodyQ, ressW, resW, ne_eq, forall_const, reduceCtorEq, implies_true, sets, oneAll, setD, rels, fillE, fillD, List.replicate, rowsOf, forall_eq, Nat.reduceMul, ↓zD, zT, hd]
    refine wpS_loop (fun a : Nat × List Int => [(5, .int .i64 a.1), (4, .int .i64 i), (3, .osl 0 1 l.length)]) (fun a => ⟨1, [(0, ⟨1, rows .i64 a.2⟩)]⟩) (fun a => a.1 ≤ i ∧ a.2.Perm l ∧ nearly a.2 i a.1) (fun a => a.1) (i, o) ⟨Nat.le_refl _, hp, fun x y h1 h2 h3 => hf1 x y h1 (by omega)⟩ ?_ ?_
    · (refine Weak.same ?_; simp [sameF, Fr.get])
    intro ⟨k, q⟩ ⟨hk, hq, hn⟩
    simp only at hk hq hn
    have hql := hq.length_eq
    refine wpS_go mixed ?_
    by_cases h0 : 0 < k
    · have hd0 : (0 : Int) < (k : Int) := by omega
      have ek : IntKind.i64.wrap ((k : Int) - 1) = ((k - 1 : Nat) : Int) := by rw [wrap_i64 (by omega)]; omega
      by_cases hlt : q.getD (k - 1) 0 < q.getD k 0
      · simp only [Int.reduceToNat, Int.reduceLT, Int.reduceLE, Int.reduceBEq, Int.reduceBNe, St0, argFr, ↓callZ, ↓midZ, ↓unZ, ↓thenW, ↓blockW, ↓opX, ↓opV, ↓pX, ↓pW, ↓putK, ↓putP, ↓atK, ↓normK, ↓postZ, ↓reduceIte, reduceIte, Nat.reduceEqDiff, Nat.reduceAdd, Nat.reduceBEq, Nat.reduceLT, Nat.reduceLeDiff, binW, bodyQ, ressW, resW, ne_eq, forall_const, reduceCtorEq, implies_true, sets, oneAll, setD, rels, fillE, fillD, List.replicate, rowsOf, forall_eq, Nat.reduceMul, ↓zD, zT, hd0, ek, rows_get .i64 q (show k < q.length by omega), rows_get .i64 q (show k - 1 < q.length by omega), hlt, rows_set, rows_get .i64 (q.set k (q.getD (k - 1) 0)) (show k - 1 < (q.set k (q.getD (k - 1) 0)).length by rw [List.length_set]; omega)]
        (repeat refine And.intro (by first | omega | exact ui_nonneg _ | exact Int.natCast_nonneg _ | rfl | exact rows_one' _ _ | exact us_one _ | (intro _ h; cases h; done)) ?_)
        refine ⟨(k - 1, swapL q k), ⟨by show k - 1 ≤ i; omega, (swapL_perm (by omega)).trans hq, nearly_swap (by omega) hk h0 hn hlt⟩, ?_, by show k - 1 < k; omega⟩
        unfold swapL
        (refine Weak.same ?_; simp only [sameF, Fr.get, ↓reduceIte, reduceIte, Nat.reduceEqDiff, reduceCtorEq, D.int.injEq, D.bool.injEq, D.sl.injEq, and_true, true_and, and_self])
      · simp only [Int.reduceToNat, Int.reduceLT, Int.reduceLE, Int.reduceBEq, Int.reduceBNe, St0, argFr, ↓callZ, ↓midZ, ↓unZ, ↓thenW, ↓blockW, ↓opX, ↓opV, ↓pX, ↓pW, ↓putK, ↓putP, ↓atK, ↓normK, ↓postZ, ↓reduceIte, reduceIte, Nat.reduceEqDiff, Nat.reduceAdd, Nat.reduceBEq, Nat.reduceLT, Nat.reduceLeDiff, binW, bodyQ, ressW, resW, ne_eq, forall_const, reduceCtorEq, implies_true, sets, oneAll, setD, rels, fillE, fillD, List.replicate, rowsOf, forall_eq, Nat.reduceMul, ↓zD, zT, hd0, ek, rows_get .i64 q (show k < q.length by omega), rows_get .i64 q (show k - 1 < q.length by omega), hlt]
        (repeat refine And.intro (by first | omega | exact ui_nonneg _ | exact Int.natCast_nonneg _ | rfl | exact rows_one' _ _ | exact us_one _ | (intro _ h; cases h; done)) ?_)
        refine ⟨(i + 1, q), ⟨by show i + 1 ≤ l.length; omega, hq, nearly_done hk hn (.inr (show q.getD k 0 ≤ q.getD (k - 1) 0 by omega))⟩, ?_, by show l.length - (i + 1) < l.length - i; omega⟩
        (refine Weak.same ?_; simp only [sameF, Fr.get, ↓reduceIte, reduceIte, Nat.reduceEqDiff, reduceCtorEq, D.int.injEq, D.bool.injEq, D.sl.injEq, and_true, true_and, and_self])
        exact wrap_i64 (by omega)
    · have hd0 : ¬ (0 : Int) < (k : Int) := by omega
      simp only [Int.reduceToNat, Int.reduceLT, Int.reduceLE, Int.reduceBEq, Int.reduceBNe, St0, argFr, ↓callZ, ↓midZ, ↓unZ, ↓thenW, ↓blockW, ↓opX, ↓opV, ↓pX, ↓pW, ↓putK, ↓putP, ↓atK, ↓normK, ↓postZ, ↓reduceIte, reduceIte, Nat.reduceEqDiff, Nat.reduceAdd, Nat.reduceBEq, Nat.reduceLT, Nat.reduceLeDiff, binW, bodyQ, ressW, resW, ne_eq, forall_const, reduceCtorEq, implies_true, sets, oneAll, setD, rels, fillE, fillD, List.replicate, rowsOf, forall_eq, Nat.reduceMul, ↓zD, zT, hd0]
      (repeat refine And.intro (by first | omega | exact ui_nonneg _ | exact Int.natCast_nonneg _ | rfl | exact rows_one' _ _ | exact us_one _ | (intro _ h; cases h; done)) ?_)
      refine ⟨(i + 1, q), ⟨by show i + 1 ≤ l.length; omega, hq, nearly_done hk hn (.inl (by omega))⟩, ?_, by show l.length - (i + 1) < l.length - i; omega⟩
      (refine Weak.same ?_; simp only [sameF, Fr.get, ↓reduceIte, reduceIte, Nat.reduceEqDiff, reduceCtorEq, D.int.injEq, D.bool.injEq, D.sl.injEq, and_true, true_and, and_self])
      exact wrap_i64 (by omega)
  · have hd : ¬ ((i : Int) < (l.length : Int)) := by omega
    simp only [Int.reduceToNat, Int.reduceLT, Int.reduceLE, Int.reduceBEq, Int.reduceBNe, St0, argFr, ↓callZ, ↓midZ, ↓unZ, ↓thenW, ↓blockW, ↓opX, ↓opV, ↓pX, ↓pW, ↓putK, ↓putP, ↓atK, ↓normK, ↓postZ, ↓reduceIte, reduceIte, Nat.reduceEqDiff, Nat.reduceAdd, Nat.reduceBEq, Nat.reduceLT, Nat.reduceLeDiff, binW, bodyQ, ressW, resW, ne_eq, forall_const, reduceCtorEq, implies_true, sets, oneAll, setD, rels, fillE, fillD, List.replicate, rowsOf, forall_eq, Nat.reduceMul, ↓zD, zT, hd]
    have e : o = descS l := descS_eq hp (falling_of fun a b h1 h2 => hf1 a b h1 (by omega))
    rw [← e]
    exact .drop (by simp) (osl_view (by simp) (rows_pure _ _) (by rw [rows_len]; omega))
end Go.Pd
