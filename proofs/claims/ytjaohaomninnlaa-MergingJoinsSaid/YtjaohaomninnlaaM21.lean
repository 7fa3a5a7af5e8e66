/- Merging: contracts: revision by ranks, Dalal's revision. -/
import Derived.Test.YtjaohaomninnlaaM20
set_option linter.unusedSectionVars false
set_option linter.unusedVariables false
set_option linter.unusedSimpArgs false
set_option linter.defProp false
set_option maxRecDepth 20000
namespace Go.Pd
open Go Go.Proofs
open Mg
theorem valid66 {n : Nat} (hn : n ≤ 4) : Runs Try.prog 66 [.int .i64 n] (.bool true) := by
  refine CallT.go_fn mixed Try.func66 k66 (by simp) fun hf => ?_
  have h1 : (0 : Int) ≤ (n : Int) := by omega
  have h2 : (n : Int) ≤ 4 := by omega
  simp only [Int.reduceToNat, Int.reduceLT, Int.reduceLE, Int.reduceBEq, Int.reduceBNe, St0, argFr, ↓callZ, ↓midZ, ↓unZ, ↓thenW, ↓blockW, ↓opX, ↓opV, ↓pX, ↓pW, ↓putK, ↓putP, ↓atK, ↓normK, ↓postZ, ↓reduceIte, reduceIte, Nat.reduceEqDiff, Nat.reduceAdd, Nat.reduceBEq, Nat.reduceLT, Nat.reduceLeDiff, binW, bodyQ, ressW, resW, ne_eq, forall_const, reduceCtorEq, implies_true, sets, oneAll, setD, rels, fillE, fillD, List.replicate, rowsOf, forall_eq, Nat.reduceMul, ↓zD, zT, h1, h2]
  exact .same
theorem beliefCheck {n : Nat} (s : BitVec 64) (hn : n ≤ 4) : Runs Try.prog 57 [.int .u64 (ui s), .int .i64 n] (.int .i64 (if s &&& ~~~(allM n) ≠ 0#64 then 2 else 0)) := by
  refine CallT.go_fn mixed Try.func57 k57 (by simp) fun hf => ?_
  simp only [Int.reduceToNat, Int.reduceLT, Int.reduceLE, Int.reduceBEq, Int.reduceBNe, St0, argFr, ↓callZ, ↓midZ, ↓unZ, ↓thenW, ↓blockW, ↓opX, ↓opV, ↓pX, ↓pW, ↓putK, ↓putP, ↓atK, ↓normK, ↓postZ, ↓reduceIte, reduceIte, Nat.reduceEqDiff, Nat.reduceAdd, Nat.reduceBEq, Nat.reduceLT, Nat.reduceLeDiff, binW, bodyQ, ressW, resW, ne_eq, forall_const, reduceCtorEq, implies_true, sets, oneAll, setD, rels, fillE, fillD, List.replicate, rowsOf, forall_eq, Nat.reduceMul, ↓zD, zT]
  refine .go (CallT.of_runs (valid66 hn) rfl) ?_
  simp only [Int.reduceToNat, Int.reduceLT, Int.reduceLE, Int.reduceBEq, Int.reduceBNe, St0, argFr, ↓callZ, ↓midZ, ↓unZ, ↓thenW, ↓blockW, ↓opX, ↓opV, ↓pX, ↓pW, ↓putK, ↓putP, ↓atK, ↓normK, ↓postZ, ↓reduceIte, reduceIte, Nat.reduceEqDiff, Nat.reduceAdd, Nat.reduceBEq, Nat.reduceLT, Nat.reduceLeDiff, binW, bodyQ, ressW, resW, ne_eq, forall_const, reduceCtorEq, implies_true, sets, oneAll, setD, rels, fillE, fillD, List.replicate, rowsOf, forall_eq, Nat.reduceMul, ↓zD, zT]
  refine .go (CallT.of_runs (all67 hn) rfl) ?_
  by_cases hb : s &&& ~~~(allM n) = 0#64
  · have hb1 : (s &&& ~~~(allM n) != 0#64) = false := by simpa using hb
    simp only [Int.reduceToNat, Int.reduceLT, Int.reduceLE, Int.reduceBEq, Int.reduceBNe, St0, argFr, ↓callZ, ↓midZ, ↓unZ, ↓thenW, ↓blockW, ↓opX, ↓opV, ↓pX, ↓pW, ↓putK, ↓putP, ↓atK, ↓normK, ↓postZ, ↓reduceIte, reduceIte, Nat.reduceEqDiff, Nat.reduceAdd, Nat.reduceBEq, Nat.reduceLT, Nat.reduceLeDiff, binW, bodyQ, ressW, resW, ne_eq, forall_const, reduceCtorEq, implies_true, sets, oneAll, setD, rels, fillE, fillD, List.replicate, rowsOf, forall_eq, Nat.reduceMul, ↓zD, zT, hb1]
    rw [if_neg (by simpa using hb)]
    exact .same
  · have hb1 : (s &&& ~~~(allM n) != 0#64) = true := by simpa using hb
    simp only [Int.reduceToNat, Int.reduceLT, Int.reduceLE, Int.reduceBEq, Int.reduceBNe, St0, argFr, ↓callZ, ↓midZ, ↓unZ, ↓thenW, ↓blockW, ↓opX, ↓opV, ↓pX, ↓pW, ↓putK, ↓putP, ↓atK, ↓normK, ↓postZ, ↓reduceIte, reduceIte, Nat.reduceEqDiff, Nat.reduceAdd, Nat.reduceBEq, Nat.reduceLT, Nat.reduceLeDiff, binW, bodyQ, ressW, resW, ne_eq, forall_const, reduceCtorEq, implies_true, sets, oneAll, setD, rels, fillE, fillD, List.replicate, rowsOf, forall_eq, Nat.reduceMul, ↓zD, zT, hb1]
    rw [if_pos hb]
    exact .same
theorem rank71 {x : Int} (h : 0 ≤ x ∧ x ≤ 1000) : Runs Try.prog 71 [.int .i64 x] (.bool false) := by
  refine CallT.go_fn mixed Try.func71 k71 (by simp) fun hf => ?_
  have h1 : ¬ x < 0 := by omega
  have h2 : ¬ (1000 : Int) < x := by omega
  simp only [Int.reduceToNat, Int.reduceLT, Int.reduceLE, Int.reduceBEq, Int.reduceBNe, St0, argFr, ↓callZ, ↓midZ, ↓unZ, ↓thenW, ↓blockW, ↓opX, ↓opV, ↓pX, ↓pW, ↓putK, ↓putP, ↓atK, ↓normK, ↓postZ, ↓reduceIte, reduceIte, Nat.reduceEqDiff, Nat.reduceAdd, Nat.reduceBEq, Nat.reduceLT, Nat.reduceLeDiff, binW, bodyQ, ressW, resW, ne_eq, forall_const, reduceCtorEq, implies_true, sets, oneAll, setD, rels, fillE, fillD, List.replicate, rowsOf, forall_eq, Nat.reduceMul, ↓zD, zT, h1, h2]
  exact .same
theorem index91 {r : List Int} (hr : ∀ x ∈ r, 0 ≤ x ∧ x ≤ 1000) (hl : r.length ≤ 1000) : Runs Try.prog 91 [.sl 1 (rows .i64 r), .fn 71 []] (.int .i64 (-1)) := by
  refine CallT.go_fn mixed Try.func91 k91 (by simp) fun hf => ?_
  simp only [Int.reduceToNat, Int.reduceLT, Int.reduceLE, Int.reduceBEq, Int.reduceBNe, St0, argFr, ↓callZ, ↓midZ, ↓unZ, ↓thenW, ↓blockW, ↓opX, ↓opV, ↓pX, ↓pW, ↓putK, ↓putP, ↓atK, ↓normK, ↓postZ, ↓reduceIte, reduceIte, Nat.reduceEqDiff, Nat.reduceAdd, Nat.reduceBEq, Nat.reduceLT, Nat.reduceLeDiff, binW, bodyQ, ressW, resW, ne_eq, forall_const, reduceCtorEq, implies_true, sets, oneAll, setD, rels, fillE, fillD, List.replicate, rowsOf, forall_eq, Nat.reduceMul, ↓zD, zT]
  refine wpS_loop (fun k : Nat => [(8, .int .i64 k), (7, .int .i64 r.length), (1, .fn 71 []), (0, .sl 1 (rows .i64 r))]) (fun _ => ⟨0, []⟩) (fun k => k ≤ r.length) (fun k => r.length - k) 0 (Nat.zero_le _) ?_ ?_
  · (refine Weak.same ?_; simp [sameF, Fr.get])
  intro k hk
  refine wpS_go mixed ?_
  by_cases h : k < r.length
  · have hd : ((k : Int) < (r.length : Int)) := by omega
    simp only [Int.reduceToNat, Int.reduceLT, Int.reduceLE, Int.reduceBEq, Int.reduceBNe, St0, argFr, ↓callZ, ↓midZ, ↓unZ, ↓thenW, ↓blockW, ↓opX, ↓opV, ↓pX, ↓pW, ↓putK, ↓putP, ↓atK, ↓normK, ↓postZ, ↓reduceIte, reduceIte, Nat.reduceEqDiff, Nat.reduceAdd, Nat.reduceBEq, Nat.reduceLT, Nat.reduceLeDiff, binW, bodyQ, ressW, resW, ne_eq, forall_const, reduceCtorEq, implies_true, sets, oneAll, setD, rels, fillE, fillD, List.replicate, rowsOf, forall_eq, Nat.reduceMul, ↓zD, zT, hd, rows_get _ _ h]
    (repeat refine And.intro (by first | omega | exact ui_nonneg _ | exact Int.natCast_nonneg _ | rfl | exact rows_one' _ _ | exact us_one _ | (intro _ h; cases h; done)) ?_)
    refine .go (CallT.of_runs (rank71 (hr _ (getD_mem h))) rfl) ?_
    simp only [Int.reduceToNat, Int.reduceLT, Int.reduceLE, Int.reduceBEq, Int.reduceBNe, St0, argFr, ↓callZ, ↓midZ, ↓unZ, ↓thenW, ↓blockW, ↓opX, ↓opV, ↓pX, ↓pW, ↓putK, ↓putP, ↓atK, ↓normK, ↓postZ, ↓reduceIte, reduceIte, Nat.reduceEqDiff, Nat.reduceAdd, Nat.reduceBEq, Nat.reduceLT, Nat.reduceLeDiff, binW, bodyQ, ressW, resW, ne_eq, forall_const, reduceCtorEq, implies_true, sets, oneAll, setD, rels, fillE, fillD, List.replicate, rowsOf, forall_eq, Nat.reduceMul, ↓zD, zT]
    refine ⟨k + 1, by omega, ?_, by omega⟩
    (refine Weak.same ?_; simp only [sameF, Fr.get, ↓reduceIte, reduceIte, Nat.reduceEqDiff, reduceCtorEq, D.int.injEq, D.bool.injEq, D.sl.injEq, and_true, true_and, and_self])
    exact wrap_i64 (by omega)
  · have hd : ¬ ((k : Int) < (r.length : Int)) := by omega
    simp only [Int.reduceToNat, Int.reduceLT, Int.reduceLE, Int.reduceBEq, Int.reduceBNe, St0, argFr, ↓callZ, ↓midZ, ↓unZ, ↓thenW, ↓blockW, ↓opX, ↓opV, ↓pX, ↓pW, ↓putK, ↓putP, ↓atK, ↓normK, ↓postZ, ↓reduceIte, reduceIte, Nat.reduceEqDiff, Nat.reduceAdd, Nat.reduceBEq, Nat.reduceLT, Nat.reduceLeDiff, binW, bodyQ, ressW, resW, ne_eq, forall_const, reduceCtorEq, implies_true, sets, oneAll, setD, rels, fillE, fillD, List.replicate, rowsOf, forall_eq, Nat.reduceMul, ↓zD, zT, hd]
    exact .same
theorem contains70 {r : List Int} (hr : ∀ x ∈ r, 0 ≤ x ∧ x ≤ 1000) (hl : r.length ≤ 1000) : Runs Try.prog 70 [.sl 1 (rows .i64 r), .fn 71 []] (.bool false) := by
  refine CallT.go_fn mixed Try.func70 k70 (by simp) fun hf => ?_
  simp only [Int.reduceToNat, Int.reduceLT, Int.reduceLE, Int.reduceBEq, Int.reduceBNe, St0, argFr, ↓callZ, ↓midZ, ↓unZ, ↓thenW, ↓blockW, ↓opX, ↓opV, ↓pX, ↓pW, ↓putK, ↓putP, ↓atK, ↓normK, ↓postZ, ↓reduceIte, reduceIte, Nat.reduceEqDiff, Nat.reduceAdd, Nat.reduceBEq, Nat.reduceLT, Nat.reduceLeDiff, binW, bodyQ, ressW, resW, ne_eq, forall_const, reduceCtorEq, implies_true, sets, oneAll, setD, rels, fillE, fillD, List.replicate, rowsOf, forall_eq, Nat.reduceMul, ↓zD, zT]
  refine .go (CallT.of_runs (index91 hr hl) (by simp [D.isPureL, D.isPure])) ?_
  simp only [Int.reduceToNat, Int.reduceLT, Int.reduceLE, Int.reduceBEq, Int.reduceBNe, St0, argFr, ↓callZ, ↓midZ, ↓unZ, ↓thenW, ↓blockW, ↓opX, ↓opV, ↓pX, ↓pW, ↓putK, ↓putP, ↓atK, ↓normK, ↓postZ, ↓reduceIte, reduceIte, Nat.reduceEqDiff, Nat.reduceAdd, Nat.reduceBEq, Nat.reduceLT, Nat.reduceLeDiff, binW, bodyQ, ressW, resW, ne_eq, forall_const, reduceCtorEq, implies_true, sets, oneAll, setD, rels, fillE, fillD, List.replicate, rowsOf, forall_eq, Nat.reduceMul, ↓zD, zT]
  exact .same
theorem rankCheck {n : Nat} {r : List Int} (hn : n ≤ 4) (hl : r.length = 2 ^ n) (hr : ∀ x ∈ r, 0 ≤ x ∧ x ≤ 1000) : Runs Try.prog 59 [.int .i64 n, .sl 1 (rows .i64 r)] (.int .i64 0) := by
  refine CallT.go_fn mixed Try.func59 k59 (by simp) fun hf => ?_
  have h16 := pow_le hn
  have h1 : ¬ (n : Int) < 0 := by omega
  have h2 : ¬ (4 : Int) < (n : Int) := by omega
  have h3 : ((r.length : Int) != ((2 ^ n : Nat) : Int)) = false := by rw [hl]; simp
  simp only [Int.reduceToNat, Int.reduceLT, Int.reduceLE, Int.reduceBEq, Int.reduceBNe, St0, argFr, ↓callZ, ↓midZ, ↓unZ, ↓thenW, ↓blockW, ↓opX, ↓opV, ↓pX, ↓pW, ↓putK, ↓putP, ↓atK, ↓normK, ↓postZ, ↓reduceIte, reduceIte, Nat.reduceEqDiff, Nat.reduceAdd, Nat.reduceBEq, Nat.reduceLT, Nat.reduceLeDiff, binW, bodyQ, ressW, resW, ne_eq, forall_const, reduceCtorEq, implies_true, sets, oneAll, setD, rels, fillE, fillD, List.replicate, rowsOf, forall_eq, Nat.reduceMul, ↓zD, zT, h1, h2, shlN (show n ≤ 61 by omega), h3]
  (repeat refine And.intro (by first | omega | exact ui_nonneg _ | exact Int.natCast_nonneg _ | rfl | exact rows_one' _ _ | exact us_one _ | (intro _ h; cases h; done)) ?_)
  refine .go (CallT.of_runs (contains70 hr (by omega)) (by simp [D.isPureL, D.isPure])) ?_
  simp only [Int.reduceToNat, Int.reduceLT, Int.reduceLE, Int.reduceBEq, Int.reduceBNe, St0, argFr, ↓callZ, ↓midZ, ↓unZ, ↓thenW, ↓blockW, ↓opX, ↓opV, ↓pX, ↓pW, ↓putK, ↓putP, ↓atK, ↓normK, ↓postZ, ↓reduceIte, reduceIte, Nat.reduceEqDiff, Nat.reduceAdd, Nat.reduceBEq, Nat.reduceLT, Nat.reduceLeDiff, binW, bodyQ, ressW, resW, ne_eq, forall_const, reduceCtorEq, implies_true, sets, oneAll, setD, rels, fillE, fillD, List.replicate, rowsOf, forall_eq, Nat.reduceMul, ↓zD, zT]
  exact .same
theorem Revise_runs {n : Nat} {r : List Int} (c : BitVec 64) (hn : n ≤ 4) (hl : r.length = 2 ^ n) (hr : ∀ x ∈ r, 0 ≤ x ∧ x ≤ 1000) :
    Runs Try.prog 41 [.int .i64 n, .sl 1 (rows .i64 r), .int .u64 (ui c)] (.tup [.int .u64 (ui (if c &&& ~~~(allM n) ≠ 0#64 then 0#64 else bestS r c)), .int .i64 (if c &&& ~~~(allM n) ≠ 0#64 then 1 else 0)]) := by
  refine CallT.go_fn mixed Try.func41 k41 (by simp) fun hf => ?_
  have h16 := pow_le hn
  simp only [Int.reduceToNat, Int.reduceLT, Int.reduceLE, Int.reduceBEq, Int.reduceBNe, St0, argFr, ↓callZ, ↓midZ, ↓unZ, ↓thenW, ↓blockW, ↓opX, ↓opV, ↓pX, ↓pW, ↓putK, ↓putP, ↓atK, ↓normK, ↓postZ, ↓reduceIte, reduceIte, Nat.reduceEqDiff, Nat.reduceAdd, Nat.reduceBEq, Nat.reduceLT, Nat.reduceLeDiff, binW, bodyQ, ressW, resW, ne_eq, forall_const, reduceCtorEq, implies_true, sets, oneAll, setD, rels, fillE, fillD, List.replicate, rowsOf, forall_eq, Nat.reduceMul, ↓zD, zT]
  refine .go (CallT.of_runs (rankCheck hn hl hr) (by simp [D.isPureL, D.isPure])) ?_
  simp only [Int.reduceToNat, Int.reduceLT, Int.reduceLE, Int.reduceBEq, Int.reduceBNe, St0, argFr, ↓callZ, ↓midZ, ↓unZ, ↓thenW, ↓blockW, ↓opX, ↓opV, ↓pX, ↓pW, ↓putK, ↓putP, ↓atK, ↓normK, ↓postZ, ↓reduceIte, reduceIte, Nat.reduceEqDiff, Nat.reduceAdd, Nat.reduceBEq, Nat.reduceLT, Nat.reduceLeDiff, binW, bodyQ, ressW, resW, ne_eq, forall_const, reduceCtorEq, implies_true, sets, oneAll, setD, rels, fillE, fillD, List.replicate, rowsOf, forall_eq, Nat.reduceMul, ↓zD, zT]
  refine .go (CallT.of_runs (beliefCheck c hn) rfl) ?_
  by_cases hb : c &&& ~~~(allM n) = 0#64
  · rw [if_neg (by simpa using hb), if_neg (by simpa using hb), if_neg (by simpa using hb)]
    simp only [Int.reduceToNat, Int.reduceLT, Int.reduceLE, Int.reduceBEq, Int.reduceBNe, St0, argFr, ↓callZ, ↓midZ, ↓unZ, ↓thenW, ↓blockW, ↓opX, ↓opV, ↓pX, ↓pW, ↓putK, ↓putP, ↓atK, ↓normK, ↓postZ, ↓reduceIte, reduceIte, Nat.reduceEqDiff, Nat.reduceAdd, Nat.reduceBEq, Nat.reduceLT, Nat.reduceLeDiff, binW, bodyQ, ressW, resW, ne_eq, forall_const, reduceCtorEq, implies_true, sets, oneAll, setD, rels, fillE, fillD, List.replicate, rowsOf, forall_eq, Nat.reduceMul, ↓zD, zT]
    refine .go (CallT.of_runs (least_runs r c (by omega)) (by simp [D.isPureL, D.isPure])) ?_
    simp only [Int.reduceToNat, Int.reduceLT, Int.reduceLE, Int.reduceBEq, Int.reduceBNe, St0, argFr, ↓callZ, ↓midZ, ↓unZ, ↓thenW, ↓blockW, ↓opX, ↓opV, ↓pX, ↓pW, ↓putK, ↓putP, ↓atK, ↓normK, ↓postZ, ↓reduceIte, reduceIte, Nat.reduceEqDiff, Nat.reduceAdd, Nat.reduceBEq, Nat.reduceLT, Nat.reduceLeDiff, binW, bodyQ, ressW, resW, ne_eq, forall_const, reduceCtorEq, implies_true, sets, oneAll, setD, rels, fillE, fillD, List.replicate, rowsOf, forall_eq, Nat.reduceMul, ↓zD, zT]
    exact .same
  · rw [if_pos hb, if_pos hb, if_pos hb]
    simp only [Int.reduceToNat, Int.reduceLT, Int.reduceLE, Int.reduceBEq, Int.reduceBNe, St0, argFr, ↓callZ, ↓midZ, ↓unZ, ↓thenW, ↓blockW, ↓opX, ↓opV, ↓pX, ↓pW, ↓putK, ↓putP, ↓atK, ↓normK, ↓postZ, ↓reduceIte, reduceIte, Nat.reduceEqDiff, Nat.reduceAdd, Nat.reduceBEq, Nat.reduceLT, Nat.reduceLeDiff, binW, bodyQ, ressW, resW, ne_eq, forall_const, reduceCtorEq, implies_true, sets, oneAll, setD, rels, fillE, fillD, List.replicate, rowsOf, forall_eq, Nat.reduceMul, ↓zD, zT]
    exact .same
/-! ### Distances -/
/-- What stands at a place after so many valuations. -/
def oneV (n : Nat) (b : BitVec 64) (v : Nat) : Nat → Int
  | 0 => 0
  | u + 1 => if b.getLsbD u = true ∧ (oneV n b v u = 0 ∨ (hd2 u v n : Int) + 1 < oneV n b v u) then (hd2 u v n : Int) + 1 else oneV n b v u
theorem oneV_law (n : Nat) (b : BitVec 64) (v : Nat) : ∀ k, (oneV n b v k = 0 ∧ minF (fun u => (hd2 u v n : Int)) (fun u => b.getLsbD u) n k = n ∧ ∀ u, u < k → b.getLsbD u = false) ∨ oneV n b v k = minF (fun u => (hd2 u v n : Int)) (fun u => b.getLsbD u) n k + 1
  | 0 => .inl ⟨rfl, rfl, fun u h => by omega⟩
  | k + 1 => by
    have ih := oneV_law n b v k
    have hle := hd2_le k v n
    have h0 : 0 ≤ minF (fun u => (hd2 u v n : Int)) (fun u => b.getLsbD u) n k := minF_ge (by omega) (fun i => by omega) k
    have e0 : minF (fun u => (hd2 u v n : Int)) (fun u => b.getLsbD u) n (k + 1) = if b.getLsbD k then min (minF (fun u => (hd2 u v n : Int)) (fun u => b.getLsbD u) n k) (hd2 k v n) else minF (fun u => (hd2 u v n : Int)) (fun u => b.getLsbD u) n k := rfl
    rw [e0, oneV]
    generalize minF (fun u => (hd2 u v n : Int)) (fun u => b.getLsbD u) n k = m at ih h0 ⊢
    cases hb : b.getLsbD k
    · rw [if_neg (by simp), if_neg (by simp)]
      rcases ih with ⟨h1, h2, h3⟩ | h1
      · exact .inl ⟨h1, h2, fun u hu => by
          by_cases e : u = k
          · rw [e]; exact hb
          · exact h3 u (by omega)⟩
      · exact .inr h1
    · rw [if_pos rfl]
      right
      rcases ih with ⟨h1, h2, h3⟩ | h1
      · rw [if_pos ⟨rfl, .inl h1⟩]; omega
      · by_cases c : (hd2 k v n : Int) + 1 < oneV n b v k
        · rw [if_pos ⟨rfl, .inr c⟩]; omega
        · rw [if_neg (fun x => by rcases x.2 with y | y <;> omega)]; omega
theorem oneV_end {n : Nat} {b : BitVec 64} (hb : ∃ u, u < 2 ^ n ∧ b.getLsbD u = true) (v : Nat) : oneV n b v (2 ^ n) = distB n b v + 1 := by
  rcases oneV_law n b v (2 ^ n) with ⟨_, _, h⟩ | h
  · obtain ⟨u, h1, h2⟩ := hb
    rw [h u h1] at h2; cases h2
  · exact h
theorem oneV_range (n : Nat) (b : BitVec 64) (v : Nat) : ∀ k, 0 ≤ oneV n b v k ∧ oneV n b v k ≤ n + 1
  | 0 => by simp [oneV]; omega
  | k + 1 => by
    have := oneV_range n b v k
    have := hd2_le k v n
    rw [oneV]; split <;> omega
theorem ownL_len (n : Nat) (b : BitVec 64) : (ownL n b).length = 2 ^ n := by simp [ownL]
theorem ownL_at {n : Nat} {b : BitVec 64} {v : Nat} (h : v < 2 ^ n) : (ownL n b).getD v 0 = distB n b v := by simp [ownL, List.getD, h]
/-- The table, filled below v, x at v. -/
def fillL (n : Nat) (b : BitVec 64) (v : Nat) (x : Int) : List Int := (ownL n b).take v ++ x :: List.replicate (2 ^ n - v - 1) 0
theorem fillL_at {n : Nat} {b : BitVec 64} {v : Nat} (h : v < 2 ^ n) (x : Int) : (fillL n b v x).getD v 0 = x := by
  have : ((ownL n b).take v).length = v := by rw [List.length_take, ownL_len]; omega
  unfold fillL
  simp [List.getD, List.getElem?_append_right (show ((ownL n b).take v).length ≤ v by omega), this]
theorem fillL_set {n : Nat} {b : BitVec 64} {v : Nat} (h : v < 2 ^ n) (x y : Int) : (fillL n b v x).set v y = fillL n b v y := by
  have : ((ownL n b).take v).length = v := by rw [List.length_take, ownL_len]; omega
  unfold fillL
  rw [List.set_append_right _ _ (by omega), this, Nat.sub_self, List.set_cons_zero]
theorem fillL_len {n : Nat} {b : BitVec 64} {v : Nat} (h : v < 2 ^ n) (x : Int) : (fillL n b v x).length = 2 ^ n := by
  have : ((ownL n b).take v).length = v := by rw [List.length_take, ownL_len]; omega
  unfold fillL
  rw [List.length_append, List.length_cons, List.length_replicate]; omega
theorem fillL_next {n : Nat} {b : BitVec 64} {v : Nat} (h : v < 2 ^ n) : fillL n b v (distB n b v) = (ownL n b).take (v + 1) ++ List.replicate (2 ^ n - (v + 1)) 0 := by
  unfold fillL
  rw [take_snoc (d := 0) (by rw [ownL_len]; exact h), ownL_at h, List.append_assoc]
  rfl
theorem fillL_first {n : Nat} {b : BitVec 64} {v : Nat} (h : v < 2 ^ n) : (ownL n b).take v ++ List.replicate (2 ^ n - v) 0 = fillL n b v 0 := by
  unfold fillL
  rw [show 2 ^ n - v = (2 ^ n - v - 1) + 1 by omega, List.replicate_succ]
  rfl
theorem rows_replicate (k : IntKind) (n : Nat) (s : Int) : List.replicate n [D.int k s] = rows k (List.replicate n s) := by simp [rows]
theorem RDist_runs {n : Nat} {b : BitVec 64} (hn : n ≤ 4) (hb0 : badM n b = 0) : CallT Try.prog 40 [.int .i64 n, .int .u64 (ui b)] St0 (.tup [.osl 0 1 (2 ^ n), .int .i64 0]) ⟨1, [(0, ⟨1, rows .i64 (ownL n b)⟩)]⟩ := by
  refine CallT.go_fn mixed Try.func40 k40 (by simp) fun hf => ?_
  have h16 := pow_le hn
  have hp0 : 0 < 2 ^ n := Nat.two_pow_pos n
  have hex := (badM_zero hn hb0).2
  have hbz : b &&& ~~~(allM n) = 0#64 := by
    by_cases c : b &&& ~~~(allM n) = 0#64
    · exact c
    · rw [badM, if_pos c] at hb0; cases hb0
  have h1 : ¬ (n : Int) < 0 := by omega
  have h2 : ¬ (4 : Int) < (n : Int) := by omega
  simp only [Int.reduceToNat, Int.reduceLT, Int.reduceLE, Int.reduceBEq, Int.reduceBNe, St0, argFr, ↓callZ, ↓midZ, ↓unZ, ↓thenW, ↓blockW, ↓opX, ↓opV, ↓pX, ↓pW, ↓putK, ↓putP, ↓atK, ↓normK, ↓postZ, ↓reduceIte, reduceIte, Nat.reduceEqDiff, Nat.reduceAdd, Nat.reduceBEq, Nat.reduceLT, Nat.reduceLeDiff, binW, bodyQ, ressW, resW, ne_eq, forall_const, reduceCtorEq, implies_true, sets, oneAll, setD, rels, fillE, fillD, List.replicate, rowsOf, forall_eq, Nat.reduceMul, ↓zD, zT, h1, h2]
  refine .go (CallT.of_runs (beliefCheck b hn) rfl) ?_
  rw [if_neg (by simpa using hbz)]
  simp only [Int.reduceToNat, Int.reduceLT, Int.reduceLE, Int.reduceBEq, Int.reduceBNe, St0, argFr, ↓callZ, ↓midZ, ↓unZ, ↓thenW, ↓blockW, ↓opX, ↓opV, ↓pX, ↓pW, ↓putK, ↓putP, ↓atK, ↓normK, ↓postZ, ↓reduceIte, reduceIte, Nat.reduceEqDiff, Nat.reduceAdd, Nat.reduceBEq, Nat.reduceLT, Nat.reduceLeDiff, binW, bodyQ, ressW, resW, ne_eq, forall_const, reduceCtorEq, implies_true, sets, oneAll, setD, rels, fillE, fillD, List.replicate, rowsOf, forall_eq, Nat.reduceMul, ↓zD, zT, shlN (show n ≤ 61 by omega)]
  (repeat refine And.intro (by first | omega | exact ui_nonneg _ | exact Int.natCast_nonneg _ | rfl | exact rows_one' _ _ | exact us_one _ | (intro _ h; cases h; done)) ?_)
  rw [rows_replicate]
  refine wpS_loop (fun k : Nat => [(25, .int .i64 k), (24, .int .i64 ((2 ^ n : Nat) : Int)), (6, .osl 0 1 (2 ^ n)), (1, .int .u64 (ui b))]) (fun k => ⟨1, [(0, ⟨1, rows .i64 ((ownL n b).take k ++ List.replicate (2 ^ n - k) 0)⟩)]⟩) (fun k => k ≤ 2 ^ n) (fun k => 2 ^ n - k) 0 (Nat.zero_le _) ?_ ?_
  · (refine Weak.same ?_; simp only [sameF, Fr.get, ↓reduceIte, reduceIte, Nat.reduceEqDiff, reduceCtorEq, D.int.injEq, D.bool.injEq, D.sl.injEq, and_true, true_and, and_self, List.take_zero, List.nil_append, Nat.sub_zero, Int.natCast_zero, Int.cast_ofNat_Int, cast0])
  intro k hk
  refine wpS_go mixed ?_
  by_cases h : k < 2 ^ n
  case neg =>
    have hd : ¬ ((k : Int) < ((2 ^ n : Nat) : Int)) := by omega
    simp only [Int.reduceToNat, Int.reduceLT, Int.reduceLE, Int.reduceBEq, Int.reduceBNe, St0, argFr, ↓callZ, ↓midZ, ↓unZ, ↓thenW, ↓blockW, ↓opX, ↓opV, ↓pX, ↓pW, ↓putK, ↓putP, ↓atK, ↓normK, ↓postZ, ↓reduceIte, reduceIte, Nat.reduceEqDiff, Nat.reduceAdd, Nat.reduceBEq, Nat.reduceLT, Nat.reduceLeDiff, binW, bodyQ, ressW, resW, ne_eq, forall_const, reduceCtorEq, implies_true, sets, oneAll, setD, rels, fillE, fillD, List.replicate, rowsOf, forall_eq, Nat.reduceMul, ↓zD, zT, hd]
    rw [show k = 2 ^ n by omega, Nat.sub_self, List.replicate_zero, List.append_nil, show (ownL n b).take (2 ^ n) = ownL n b by rw [← ownL_len n b, List.take_length]]
    exact .same
  have hd : ((k : Int) < ((2 ^ n : Nat) : Int)) := by omega
  rw [fillL_first h]
  simp only [Int.reduceToNat, Int.reduceLT, Int.reduceLE, Int.reduceBEq, Int.reduceBNe, St0, argFr, ↓callZ, ↓midZ, ↓unZ, ↓thenW, ↓blockW, ↓opX, ↓opV, ↓pX, ↓pW, ↓putK, ↓putP, ↓atK, ↓normK, ↓postZ, ↓reduceIte, reduceIte, Nat.reduceEqDiff, Nat.reduceAdd, Nat.reduceBEq, Nat.reduceLT, Nat.reduceLeDiff, binW, bodyQ, ressW, resW, ne_eq, forall_const, reduceCtorEq, implies_true, sets, oneAll, setD, rels, fillE, fillD, List.replicate, rowsOf, forall_eq, Nat.reduceMul, ↓zD, zT, hd]
  refine wpS_loop (fun u : Nat => [(30, .int .i64 u), (29, .int .i64 ((2 ^ n : Nat) : Int)), (25, .int .i64 k), (24, .int .i64 ((2 ^ n : Nat) : Int)), (7, .int .i64 k), (6, .osl 0 1 (2 ^ n)), (1, .int .u64 (ui b))]) (fun u => ⟨1, [(0, ⟨1, rows .i64 (fillL n b k (oneV n b k u))⟩)]⟩) (fun u => u ≤ 2 ^ n) (fun u => 2 ^ n - u) 0 (Nat.zero_le _) ?_ ?_
  · (refine Weak.same ?_; simp [sameF, Fr.get, oneV])
  intro u hu
  refine wpS_go mixed ?_
  have hL := fillL_len (b := b) h (oneV n b k u)
  have hg := rows_get .i64 (fillL n b k (oneV n b k u)) (i := k) (by omega)
  rw [fillL_at h] at hg
  have hr := oneV_range n b k u
  by_cases h3 : u < 2 ^ n
  · have hd3 : ((u : Int) < ((2 ^ n : Nat) : Int)) := by omega
    have hx := xor_lt (show u < 16 by omega) (show k < 16 by omega)
    have hle := hd2_le u k n
    simp only [Int.reduceToNat, Int.reduceLT, Int.reduceLE, Int.reduceBEq, Int.reduceBNe, St0, argFr, ↓callZ, ↓midZ, ↓unZ, ↓thenW, ↓blockW, ↓opX, ↓opV, ↓pX, ↓pW, ↓putK, ↓putP, ↓atK, ↓normK, ↓postZ, ↓reduceIte, reduceIte, Nat.reduceEqDiff, Nat.reduceAdd, Nat.reduceBEq, Nat.reduceLT, Nat.reduceLeDiff, binW, bodyQ, ressW, resW, ne_eq, forall_const, reduceCtorEq, implies_true, sets, oneAll, setD, rels, fillE, fillD, List.replicate, rowsOf, forall_eq, Nat.reduceMul, ↓zD, zT, hd3, bit_and1_eq, hx.1, convN (show u ^^^ k ≤ 1000000 by omega)]
    (repeat refine And.intro (by first | omega | exact ui_nonneg _ | exact Int.natCast_nonneg _ | rfl | exact rows_one' _ _ | exact us_one _ | (intro _ h; cases h; done)) ?_)
    refine .go (CallT.of_runs (ones58 (k := u ^^^ k) hx.2) rfl) ?_
    rw [hd2_xor hn h3 h]
    have e0 : oneV n b k (u + 1) = if b.getLsbD u = true ∧ (oneV n b k u = 0 ∨ (hd2 u k n : Int) + 1 < oneV n b k u) then (hd2 u k n : Int) + 1 else oneV n b k u := rfl
    have ew : IntKind.i64.wrap ((hd2 u k n : Int) + 1) = (hd2 u k n : Int) + 1 := wrap_i64 (by omega)
    cases hb : b.getLsbD u
    · rw [hb, if_neg (by simp)] at e0
      simp only [Int.reduceToNat, Int.reduceLT, Int.reduceLE, Int.reduceBEq, Int.reduceBNe, St0, argFr, ↓callZ, ↓midZ, ↓unZ, ↓thenW, ↓blockW, ↓opX, ↓opV, ↓pX, ↓pW, ↓putK, ↓putP, ↓atK, ↓normK, ↓postZ, ↓reduceIte, reduceIte, Nat.reduceEqDiff, Nat.reduceAdd, Nat.reduceBEq, Nat.reduceLT, Nat.reduceLeDiff, binW, bodyQ, ressW, resW, ne_eq, forall_const, reduceCtorEq, implies_true, sets, oneAll, setD, rels, fillE, fillD, List.replicate, rowsOf, forall_eq, Nat.reduceMul, ↓zD, zT, bit_and1_eq, hb]
      (repeat refine And.intro (by first | omega | exact ui_nonneg _ | exact Int.natCast_nonneg _ | rfl | exact rows_one' _ _ | exact us_one _ | (intro _ h; cases h; done)) ?_)
      refine ⟨u + 1, by omega, ?_, by omega⟩
      rw [e0]
      (refine Weak.same ?_; simp only [sameF, Fr.get, ↓reduceIte, reduceIte, Nat.reduceEqDiff, reduceCtorEq, D.int.injEq, D.bool.injEq, D.sl.injEq, and_true, true_and, and_self])
      exact wrap_i64 (by omega)
    · rw [hb] at e0
      by_cases hz : oneV n b k u = 0
      · rw [if_pos ⟨rfl, .inl hz⟩] at e0
        have hz1 : (oneV n b k u == 0) = true := by simpa using hz
        simp only [Int.reduceToNat, Int.reduceLT, Int.reduceLE, Int.reduceBEq, Int.reduceBNe, St0, argFr, ↓callZ, ↓midZ, ↓unZ, ↓thenW, ↓blockW, ↓opX, ↓opV, ↓pX, ↓pW, ↓putK, ↓putP, ↓atK, ↓normK, ↓postZ, ↓reduceIte, reduceIte, Nat.reduceEqDiff, Nat.reduceAdd, Nat.reduceBEq, Nat.reduceLT, Nat.reduceLeDiff, binW, bodyQ, ressW, resW, ne_eq, forall_const, reduceCtorEq, implies_true, sets, oneAll, setD, rels, fillE, fillD, List.replicate, rowsOf, forall_eq, Nat.reduceMul, ↓zD, zT, bit_and1_eq, hb, hg, hL, hz1, ew]
        (repeat refine And.intro (by first | omega | exact ui_nonneg _ | exact Int.natCast_nonneg _ | rfl | exact rows_one' _ _ | exact us_one _ | (intro _ h; cases h; done)) ?_)
        refine ⟨u + 1, by omega, ?_, by omega⟩
        rw [rows_set, fillL_set h, e0]
        (refine Weak.same ?_; simp only [sameF, Fr.get, ↓reduceIte, reduceIte, Nat.reduceEqDiff, reduceCtorEq, D.int.injEq, D.bool.injEq, D.sl.injEq, and_true, true_and, and_self])
        exact wrap_i64 (by omega)
      · have hz1 : (oneV n b k u == 0) = false := by simpa using hz
        by_cases hl : (hd2 u k n : Int) + 1 < oneV n b k u
        · rw [if_pos ⟨rfl, .inr hl⟩] at e0
          simp only [Int.reduceToNat, Int.reduceLT, Int.reduceLE, Int.reduceBEq, Int.reduceBNe, St0, argFr, ↓callZ, ↓midZ, ↓unZ, ↓thenW, ↓blockW, ↓opX, ↓opV, ↓pX, ↓pW, ↓putK, ↓putP, ↓atK, ↓normK, ↓postZ, ↓reduceIte, reduceIte, Nat.reduceEqDiff, Nat.reduceAdd, Nat.reduceBEq, Nat.reduceLT, Nat.reduceLeDiff, binW, bodyQ, ressW, resW, ne_eq, forall_const, reduceCtorEq, implies_true, sets, oneAll, setD, rels, fillE, fillD, List.replicate, rowsOf, forall_eq, Nat.reduceMul, ↓zD, zT, bit_and1_eq, hb, hg, hL, hz1, ew, hl]
          (repeat refine And.intro (by first | omega | exact ui_nonneg _ | exact Int.natCast_nonneg _ | rfl | exact rows_one' _ _ | exact us_one _ | (intro _ h; cases h; done)) ?_)
          refine ⟨u + 1, by omega, ?_, by omega⟩
          rw [rows_set, fillL_set h, e0]
          (refine Weak.same ?_; simp only [sameF, Fr.get, ↓reduceIte, reduceIte, Nat.reduceEqDiff, reduceCtorEq, D.int.injEq, D.bool.injEq, D.sl.injEq, and_true, true_and, and_self])
          exact wrap_i64 (by omega)
        · rw [if_neg (fun x => by rcases x.2 with y | y <;> omega)] at e0
          simp only [Int.reduceToNat, Int.reduceLT, Int.reduceLE, Int.reduceBEq, Int.reduceBNe, St0, argFr, ↓callZ, ↓midZ, ↓unZ, ↓thenW, ↓blockW, ↓opX, ↓opV, ↓pX, ↓pW, ↓putK, ↓putP, ↓atK, ↓normK, ↓postZ, ↓reduceIte, reduceIte, Nat.reduceEqDiff, Nat.reduceAdd, Nat.reduceBEq, Nat.reduceLT, Nat.reduceLeDiff, binW, bodyQ, ressW, resW, ne_eq, forall_const, reduceCtorEq, implies_true, sets, oneAll, setD, rels, fillE, fillD, List.replicate, rowsOf, forall_eq, Nat.reduceMul, ↓zD, zT, bit_and1_eq, hb, hg, hL, hz1, ew, hl]
          (repeat refine And.intro (by first | omega | exact ui_nonneg _ | exact Int.natCast_nonneg _ | rfl | exact rows_one' _ _ | exact us_one _ | (intro _ h; cases h; done)) ?_)
          refine ⟨u + 1, by omega, ?_, by omega⟩
          rw [e0]
          (refine Weak.same ?_; simp only [sameF, Fr.get, ↓reduceIte, reduceIte, Nat.reduceEqDiff, reduceCtorEq, D.int.injEq, D.bool.injEq, D.sl.injEq, and_true, true_and, and_self])
          exact wrap_i64 (by omega)
  · have hd3 : ¬ ((u : Int) < ((2 ^ n : Nat) : Int)) := by omega
    obtain rfl : u = 2 ^ n := by omega
    rw [oneV_end hex] at hg hL ⊢
    have hdr := distB_range n b k
    have ew : IntKind.i64.wrap (distB n b k + 1 - 1) = distB n b k := by rw [wrap_i64 (by omega)]; omega
    have hmx : (if (0 : Int) < distB n b k then distB n b k else 0) = distB n b k := by split <;> omega
    simp only [Int.reduceToNat, Int.reduceLT, Int.reduceLE, Int.reduceBEq, Int.reduceBNe, St0, argFr, ↓callZ, ↓midZ, ↓unZ, ↓thenW, ↓blockW, ↓opX, ↓opV, ↓pX, ↓pW, ↓putK, ↓putP, ↓atK, ↓normK, ↓postZ, ↓reduceIte, reduceIte, Nat.reduceEqDiff, Nat.reduceAdd, Nat.reduceBEq, Nat.reduceLT, Nat.reduceLeDiff, binW, bodyQ, ressW, resW, ne_eq, forall_const, reduceCtorEq, implies_true, sets, oneAll, setD, rels, fillE, fillD, List.replicate, rowsOf, forall_eq, Nat.reduceMul, ↓zD, zT, hd3, hg, hL, ew, hmx]
    (repeat refine And.intro (by first | omega | exact ui_nonneg _ | exact Int.natCast_nonneg _ | rfl | exact rows_one' _ _ | exact us_one _ | (intro _ h; cases h; done)) ?_)
    refine ⟨k + 1, by omega, ?_, by omega⟩
    rw [rows_set, fillL_set h, fillL_next h]
    (refine Weak.same ?_; simp only [sameF, Fr.get, ↓reduceIte, reduceIte, Nat.reduceEqDiff, reduceCtorEq, D.int.injEq, D.bool.injEq, D.sl.injEq, and_true, true_and, and_self])
    exact wrap_i64 (by omega)
/-- The least rank in a table. -/
theorem Dalal_runs {n : Nat} {b c : BitVec 64} (hn : n ≤ 4) (hb : badM n b = 0) (hc : c &&& ~~~(allM n) = 0#64) :
    Runs Try.prog 28 [.int .i64 n, .int .u64 (ui b), .int .u64 (ui c)] (.tup [.int .u64 (ui (bestS (ownL n b) c)), .int .i64 0]) := by
  refine CallT.go_fn mixed Try.func28 k28 (by simp) fun hf => ?_
  have h16 := pow_le hn
  simp only [Int.reduceToNat, Int.reduceLT, Int.reduceLE, Int.reduceBEq, Int.reduceBNe, St0, argFr, ↓callZ, ↓midZ, ↓unZ, ↓thenW, ↓blockW, ↓opX, ↓opV, ↓pX, ↓pW, ↓putK, ↓putP, ↓atK, ↓normK, ↓postZ, ↓reduceIte, reduceIte, Nat.reduceEqDiff, Nat.reduceAdd, Nat.reduceBEq, Nat.reduceLT, Nat.reduceLeDiff, binW, bodyQ, ressW, resW, ne_eq, forall_const, reduceCtorEq, implies_true, sets, oneAll, setD, rels, fillE, fillD, List.replicate, rowsOf, forall_eq, Nat.reduceMul, ↓zD, zT]
  have hd := RDist_runs hn hb
  refine .go hd ?_
  simp only [Int.reduceToNat, Int.reduceLT, Int.reduceLE, Int.reduceBEq, Int.reduceBNe, St0, argFr, ↓callZ, ↓midZ, ↓unZ, ↓thenW, ↓blockW, ↓opX, ↓opV, ↓pX, ↓pW, ↓putK, ↓putP, ↓atK, ↓normK, ↓postZ, ↓reduceIte, reduceIte, Nat.reduceEqDiff, Nat.reduceAdd, Nat.reduceBEq, Nat.reduceLT, Nat.reduceLeDiff, binW, bodyQ, ressW, resW, ne_eq, forall_const, reduceCtorEq, implies_true, sets, oneAll, setD, rels, fillE, fillD, List.replicate, rowsOf, forall_eq, Nat.reduceMul, ↓zD, zT]
  have hr := Revise_runs (r := ownL n b) c hn (ownL_len n b) (fun x hx => by
    simp only [ownL, List.mem_map] at hx
    obtain ⟨v, _, rfl⟩ := hx
    have := distB_range n b v
    omega)
  rw [if_neg (by simpa using hc), if_neg (by simpa using hc)] at hr
  refine .go (CallT.lent hr ⟨lend_int _ _, lend_rows (by simp [St.get, St.look]) (ownL_len n b).symm, lend_int _ _, trivial⟩ rfl) ?_
  simp only [Int.reduceToNat, Int.reduceLT, Int.reduceLE, Int.reduceBEq, Int.reduceBNe, St0, argFr, ↓callZ, ↓midZ, ↓unZ, ↓thenW, ↓blockW, ↓opX, ↓opV, ↓pX, ↓pW, ↓putK, ↓putP, ↓atK, ↓normK, ↓postZ, ↓reduceIte, reduceIte, Nat.reduceEqDiff, Nat.reduceAdd, Nat.reduceBEq, Nat.reduceLT, Nat.reduceLeDiff, binW, bodyQ, ressW, resW, ne_eq, forall_const, reduceCtorEq, implies_true, sets, oneAll, setD, rels, fillE, fillD, List.replicate, rowsOf, forall_eq, Nat.reduceMul, ↓zD, zT]
  exact .drop (by simp) (by simp only [vw, vwL, and_self])
end Go.Pd
