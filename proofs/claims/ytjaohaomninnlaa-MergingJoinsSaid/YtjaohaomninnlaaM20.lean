/- Merging: contracts: clones and reversals of a profile; checks of belief sets and of ranks. -/
import Derived.Test.YtjaohaomninnlaaM11
set_option linter.unusedSectionVars false
set_option linter.unusedVariables false
set_option linter.unusedSimpArgs false
set_option linter.defProp false
set_option maxRecDepth 20000
namespace Go.Pd
open Go Go.Proofs
open Mg
theorem lend_rows {σ : St} {k0 n : Nat} {k : IntKind} {l : List Int} (hg : σ.get k0 = some ⟨1, rows k l⟩) (hn : n = l.length) : lend σ (.osl k0 1 n) (.sl 1 (rows k l)) := by
  subst hn
  simp only [lend]
  exact ⟨trivial, by omega, ⟨1, rows k l⟩, hg, rfl, by rw [rows_len]; exact Nat.le_refl _, by rw [← rows_len k l, List.take_length], rows_pure k l⟩
theorem lend_int {σ : St} (k : IntKind) (x : Int) : lend σ (.int k x) (.int k x) := by simp [lend, D.isPure]
theorem clone16 {p : List (BitVec 64)} (hne : p ≠ []) (hl : p.length ≤ 1000) : CallT Try.prog 16 [.sl 1 (us p)] St0 (.osl 0 1 p.length) ⟨1, [(0, ⟨1, us p⟩)]⟩ := by
  match p, hne with
  | s :: l, _ =>
    refine CallT.go_fn mixed Try.func16 k16 (by simp) fun hf => ?_
    have hl' : l.length ≤ 999 := by simp at hl; omega
    simp only [Int.reduceToNat, Int.reduceLT, Int.reduceLE, Int.reduceBEq, Int.reduceBNe, St0, argFr, ↓callZ, ↓midZ, ↓unZ, ↓thenW, ↓blockW, ↓opX, ↓opV, ↓pX, ↓pW, ↓putK, ↓putP, ↓atK, ↓normK, ↓postZ, ↓reduceIte, reduceIte, Nat.reduceEqDiff, Nat.reduceAdd, Nat.reduceBEq, Nat.reduceLT, Nat.reduceLeDiff, binW, bodyQ, ressW, resW, ne_eq, forall_const, reduceCtorEq, implies_true, sets, oneAll, setD, rels, fillE, fillD, List.replicate, rowsOf, forall_eq, Nat.reduceMul, ↓zD, zT]
    refine ⟨by simp, us_one (s :: l), by omega, by omega, RetV.name (n := 0) (by simp) (us_pure (s :: l)) (by simp [vw])⟩
theorem clone16_nil : Runs Try.prog 16 [.sl 1 []] (.sl 1 []) := by
  refine CallT.split1 ?_ ?_
  · refine CallT.go_fn mixed Try.func16 k16 (by simp) fun hf => ?_
    simp only [Int.reduceToNat, Int.reduceLT, Int.reduceLE, Int.reduceBEq, Int.reduceBNe, St0, argFr, ↓callZ, ↓midZ, ↓unZ, ↓thenW, ↓blockW, ↓opX, ↓opV, ↓pX, ↓pW, ↓putK, ↓putP, ↓atK, ↓normK, ↓postZ, ↓reduceIte, reduceIte, Nat.reduceEqDiff, Nat.reduceAdd, Nat.reduceBEq, Nat.reduceLT, Nat.reduceLeDiff, binW, bodyQ, ressW, resW, ne_eq, forall_const, reduceCtorEq, implies_true, sets, oneAll, setD, rels, fillE, fillD, List.replicate, rowsOf, forall_eq, Nat.reduceMul, ↓zD, zT]
    exact .drop (by simp) (by simp [vw])
  · refine CallT.go_fn mixed Try.func16 k16 (by simp) fun hf => ?_
    simp only [Int.reduceToNat, Int.reduceLT, Int.reduceLE, Int.reduceBEq, Int.reduceBNe, St0, argFr, ↓callZ, ↓midZ, ↓unZ, ↓thenW, ↓blockW, ↓opX, ↓opV, ↓pX, ↓pW, ↓putK, ↓putP, ↓atK, ↓normK, ↓postZ, ↓reduceIte, reduceIte, Nat.reduceEqDiff, Nat.reduceAdd, Nat.reduceBEq, Nat.reduceLT, Nat.reduceLeDiff, binW, bodyQ, ressW, resW, ne_eq, forall_const, reduceCtorEq, implies_true, sets, oneAll, setD, rels, fillE, fillD, List.replicate, rowsOf, forall_eq, Nat.reduceMul, ↓zD, zT]
    (repeat refine And.intro (by first | omega | exact ui_nonneg _ | exact Int.natCast_nonneg _ | rfl | exact rows_one' _ _ | exact us_one _ | (intro _ h; cases h; done)) ?_)
    exact .drop (by simp) (osl_view (by simp) (by intro _ h; cases h) rfl)
theorem getD_setB (o : List (BitVec 64)) (i j : Nat) (x : BitVec 64) : (o.set i x).getD j 0 = if i = j ∧ j < o.length then x else o.getD j 0 := by
  simp only [List.getD, List.getElem?_set]
  split
  · rename_i h; subst h; by_cases hj : i < o.length
    · simp [hj]
    · simp [hj]
  · rename_i h; simp [h]
/-- After so many exchanges. -/
def revTo (p : List (BitVec 64)) : Nat → List (BitVec 64)
  | 0 => p
  | k + 1 => ((revTo p k).set k ((revTo p k).getD (p.length - 1 - k) 0)).set (p.length - 1 - k) ((revTo p k).getD k 0)
theorem revTo_len (p : List (BitVec 64)) : ∀ k, (revTo p k).length = p.length
  | 0 => rfl
  | k + 1 => by rw [revTo, List.length_set, List.length_set, revTo_len p k]
theorem revTo_perm (p : List (BitVec 64)) : ∀ k, 2 * k ≤ p.length → (revTo p k).Perm p
  | 0, _ => List.Perm.refl _
  | k + 1, h => by
    have ih := revTo_perm p k (by omega)
    have hl := revTo_len p k
    have h1 : k < (revTo p k).length := by omega
    have h2 : p.length - 1 - k < (revTo p k).length := by omega
    have hs := List.set_set_perm h1 h2
    have e1 : (revTo p k).getD (p.length - 1 - k) 0 = (revTo p k)[p.length - 1 - k]'h2 := by simp [List.getD, h2]
    have e2 : (revTo p k).getD k 0 = (revTo p k)[k]'h1 := by simp [List.getD, h1]
    rw [revTo, e1, e2]
    exact hs.trans ih
def revP (p : List (BitVec 64)) : List (BitVec 64) := revTo p (p.length / 2)
theorem revP_perm (p : List (BitVec 64)) : (revP p).Perm p := revTo_perm p _ (by omega)
theorem reverse_nil : Runs Try.prog 26 [.sl 1 []] (.tup []) := by
  refine CallT.go_fn mixed Try.func26 k26 (by simp) fun hf => ?_
  simp only [Int.reduceToNat, Int.reduceLT, Int.reduceLE, Int.reduceBEq, Int.reduceBNe, St0, argFr, ↓callZ, ↓midZ, ↓unZ, ↓thenW, ↓blockW, ↓opX, ↓opV, ↓pX, ↓pW, ↓putK, ↓putP, ↓atK, ↓normK, ↓postZ, ↓reduceIte, reduceIte, Nat.reduceEqDiff, Nat.reduceAdd, Nat.reduceBEq, Nat.reduceLT, Nat.reduceLeDiff, binW, bodyQ, ressW, resW, ne_eq, forall_const, reduceCtorEq, implies_true, sets, oneAll, setD, rels, fillE, fillD, List.replicate, rowsOf, forall_eq, Nat.reduceMul, ↓zD, zT, show IntKind.i64.wrap ((0 : Int) - 1) = -1 from rfl]
  refine wpS_loop (fun _ : Nat => [(3, .int .i64 (-1)), (2, .int .i64 0), (0, .sl 1 [])]) (fun _ => ⟨0, []⟩) (fun _ => True) (fun _ => 0) 0 trivial ?_ ?_
  · (refine Weak.same ?_; simp [sameF, Fr.get])
  intro k _
  refine wpS_go mixed ?_
  simp only [Int.reduceToNat, Int.reduceLT, Int.reduceLE, Int.reduceBEq, Int.reduceBNe, St0, argFr, ↓callZ, ↓midZ, ↓unZ, ↓thenW, ↓blockW, ↓opX, ↓opV, ↓pX, ↓pW, ↓putK, ↓putP, ↓atK, ↓normK, ↓postZ, ↓reduceIte, reduceIte, Nat.reduceEqDiff, Nat.reduceAdd, Nat.reduceBEq, Nat.reduceLT, Nat.reduceLeDiff, binW, bodyQ, ressW, resW, ne_eq, forall_const, reduceCtorEq, implies_true, sets, oneAll, setD, rels, fillE, fillD, List.replicate, rowsOf, forall_eq, Nat.reduceMul, ↓zD, zT]
  exact .same
theorem reverse_runs {nx key : Nat} {rest : List (Nat × Ob)} {p : List (BitVec 64)} (hne : 0 < p.length) (hl : p.length ≤ 1000) :
    CallT Try.prog 26 [.osl key 1 p.length] ⟨nx, (key, ⟨1, us p⟩) :: rest⟩ (.tup []) ⟨nx, (key, ⟨1, us (revP p)⟩) :: rest⟩ := by
  refine CallT.go_fn mixed Try.func26 k26 (by simp) fun hf => ?_
  simp only [Int.reduceToNat, Int.reduceLT, Int.reduceLE, Int.reduceBEq, Int.reduceBNe, St0, argFr, ↓callZ, ↓midZ, ↓unZ, ↓thenW, ↓blockW, ↓opX, ↓opV, ↓pX, ↓pW, ↓putK, ↓putP, ↓atK, ↓normK, ↓postZ, ↓reduceIte, reduceIte, Nat.reduceEqDiff, Nat.reduceAdd, Nat.reduceBEq, Nat.reduceLT, Nat.reduceLeDiff, binW, bodyQ, ressW, resW, ne_eq, forall_const, reduceCtorEq, implies_true, sets, oneAll, setD, rels, fillE, fillD, List.replicate, rowsOf, forall_eq, Nat.reduceMul, ↓zD, zT]
  refine wpS_loop (fun k : Nat => [(3, .int .i64 ((p.length - 1 - k : Nat) : Int)), (2, .int .i64 (k : Int)), (0, .osl key 1 p.length)]) (fun k => ⟨nx, (key, ⟨1, us (revTo p k)⟩) :: rest⟩) (fun k => k ≤ p.length / 2) (fun k => p.length / 2 - k) 0 (Nat.zero_le _) ?_ ?_
  · (refine Weak.same ?_; simp only [sameF, Fr.get, ↓reduceIte, reduceIte, Nat.reduceEqDiff, reduceCtorEq, D.int.injEq, D.bool.injEq, D.sl.injEq, and_true, true_and, and_self, revTo])
    refine ⟨?_, rfl⟩
    rw [wrap_i64 (by omega)]
    omega
  intro k hk
  have hL := revTo_len p k
  refine wpS_go mixed ?_
  by_cases h : k < p.length / 2
  · have hd : ((k : Int) < ((p.length - 1 - k : Nat) : Int)) := by omega
    simp only [Int.reduceToNat, Int.reduceLT, Int.reduceLE, Int.reduceBEq, Int.reduceBNe, St0, argFr, ↓callZ, ↓midZ, ↓unZ, ↓thenW, ↓blockW, ↓opX, ↓opV, ↓pX, ↓pW, ↓putK, ↓putP, ↓atK, ↓normK, ↓postZ, ↓reduceIte, reduceIte, Nat.reduceEqDiff, Nat.reduceAdd, Nat.reduceBEq, Nat.reduceLT, Nat.reduceLeDiff, binW, bodyQ, ressW, resW, ne_eq, forall_const, reduceCtorEq, implies_true, sets, oneAll, setD, rels, fillE, fillD, List.replicate, rowsOf, forall_eq, Nat.reduceMul, ↓zD, zT, hd, us_get (revTo p k) (show k < (revTo p k).length by omega), us_get (revTo p k) (show p.length - 1 - k < (revTo p k).length by omega), hL, us_set]
    (repeat refine And.intro (by first | omega | exact ui_nonneg _ | exact Int.natCast_nonneg _ | rfl | exact rows_one' _ _ | exact us_one _ | (intro _ h; cases h; done)) ?_)
    refine ⟨k + 1, by omega, ?_, by omega⟩
    rw [us_get _ (by rw [List.length_set]; omega), List.set_cons_zero, us_set, revTo]
    (refine Weak.same ?_; simp only [sameF, Fr.get, ↓reduceIte, reduceIte, Nat.reduceEqDiff, reduceCtorEq, D.int.injEq, D.bool.injEq, D.sl.injEq, and_true, true_and, and_self])
    exact ⟨by rw [wrap_i64 (by omega)]; omega, by rw [wrap_i64 (by omega)]; omega⟩
  · have hd : ¬ ((k : Int) < ((p.length - 1 - k : Nat) : Int)) := by omega
    simp only [Int.reduceToNat, Int.reduceLT, Int.reduceLE, Int.reduceBEq, Int.reduceBNe, St0, argFr, ↓callZ, ↓midZ, ↓unZ, ↓thenW, ↓blockW, ↓opX, ↓opV, ↓pX, ↓pW, ↓putK, ↓putP, ↓atK, ↓normK, ↓postZ, ↓reduceIte, reduceIte, Nat.reduceEqDiff, Nat.reduceAdd, Nat.reduceBEq, Nat.reduceLT, Nat.reduceLeDiff, binW, bodyQ, ressW, resW, ne_eq, forall_const, reduceCtorEq, implies_true, sets, oneAll, setD, rels, fillE, fillD, List.replicate, rowsOf, forall_eq, Nat.reduceMul, ↓zD, zT, hd]
    rw [show k = p.length / 2 by omega]
    exact .same
end Go.Pd
