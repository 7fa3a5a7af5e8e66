/- Merging: contracts: distances. -/
import Derived.Test.YtjaohaomninnlaaM4
set_option linter.unusedSectionVars false
set_option linter.unusedVariables false
set_option linter.unusedSimpArgs false
set_option linter.defProp false
set_option maxRecDepth 20000
namespace Go.Pd
open Go Go.Proofs
open Mg
theorem mn_min (x y : Int) : (if y < x then y else x) = min x y := by rw [Int.min_def]; split <;> split <;> omega
theorem shr_bit {u i : Nat} (hu : u < 16) (hi : i < 4) : (shrI .i64 (u : Int) (i : Int)).tmod 2 = if u.testBit i then 1 else 0 := by
  have h : ∀ u : Nat, u < 16 → ∀ i : Nat, i < 4 → (shrI .i64 (u : Int) (i : Int)).tmod 2 = if u.testBit i then 1 else 0 := by decide +kernel
  exact h u hu i hi
theorem Distance_runs {n u v : Nat} (hn : n ≤ 4) (hu : u < 2 ^ n) (hv : v < 2 ^ n) : Runs Try.prog 52 [.int .i64 u, .int .i64 v, .int .i64 n] (.int .i64 (hd2 u v n)) := by
  refine CallT.go_fn mixed Try.func52 k52 (by simp) fun hf => ?_
  have h16 := pow_le hn
  have a1 : ¬ (n : Int) < 0 := by omega
  have a2 : ¬ (4 : Int) < (n : Int) := by omega
  have a3 : ¬ (u : Int) < 0 := by omega
  have a4 : ¬ ((2 ^ n : Nat) : Int) ≤ (u : Int) := by omega
  have a5 : ¬ (v : Int) < 0 := by omega
  have a6 : ¬ ((2 ^ n : Nat) : Int) ≤ (v : Int) := by omega
  simp only [Int.reduceToNat, Int.reduceLT, Int.reduceLE, Int.reduceBEq, Int.reduceBNe, St0, argFr, ↓callZ, ↓midZ, ↓unZ, ↓thenW, ↓blockW, ↓opX, ↓opV, ↓pX, ↓pW, ↓putK, ↓putP, ↓atK, ↓normK, ↓postZ, ↓reduceIte, reduceIte, Nat.reduceEqDiff, Nat.reduceAdd, Nat.reduceBEq, Nat.reduceLT, Nat.reduceLeDiff, binW, bodyQ, ressW, resW, ne_eq, forall_const, reduceCtorEq, implies_true, sets, oneAll, setD, rels, fillE, fillD, List.replicate, rowsOf, forall_eq, Nat.reduceMul, ↓zD, zT, shlN (show n ≤ 61 by omega), a1, a2, a3, a4, a5, a6]
  (repeat refine And.intro (by first | omega | exact ui_nonneg _ | exact Int.natCast_nonneg _ | rfl | exact rows_one' _ _ | exact us_one _ | (intro _ h; cases h; done)) ?_)
  refine wpS_loop (fun k : Nat => [(8, .int .i64 k), (7, .int .i64 (hd2 u v k)), (2, .int .i64 n), (1, .int .i64 v), (0, .int .i64 u)]) (fun _ => ⟨0, []⟩) (fun k => k ≤ n) (fun k => n - k) 0 (Nat.zero_le _) ?_ ?_
  · (refine Weak.same ?_; simp [sameF, Fr.get, hd2])
  intro k hk
  refine wpS_go mixed ?_
  have hle := hd2_le u v k
  by_cases h : k < n
  · have hd : ((k : Int) < (n : Int)) := by omega
    cases hb : u.testBit k != v.testBit k
    · have e : (shrI .i64 (u : Int) (k : Int)).tmod 2 = (shrI .i64 (v : Int) (k : Int)).tmod 2 := by
        rw [shr_bit (by omega) (by omega), shr_bit (by omega) (by omega)]
        have : u.testBit k = v.testBit k := by simpa using hb
        rw [this]
      simp only [Int.reduceToNat, Int.reduceLT, Int.reduceLE, Int.reduceBEq, Int.reduceBNe, St0, argFr, ↓callZ, ↓midZ, ↓unZ, ↓thenW, ↓blockW, ↓opX, ↓opV, ↓pX, ↓pW, ↓putK, ↓putP, ↓atK, ↓normK, ↓postZ, ↓reduceIte, reduceIte, Nat.reduceEqDiff, Nat.reduceAdd, Nat.reduceBEq, Nat.reduceLT, Nat.reduceLeDiff, binW, bodyQ, ressW, resW, ne_eq, forall_const, reduceCtorEq, implies_true, sets, oneAll, setD, rels, fillE, fillD, List.replicate, rowsOf, forall_eq, Nat.reduceMul, ↓zD, zT, hd, e]
      (repeat refine And.intro (by first | omega | exact ui_nonneg _ | exact Int.natCast_nonneg _ | rfl | exact rows_one' _ _ | exact us_one _ | (intro _ h; cases h; done)) ?_)
      refine ⟨k + 1, by omega, ?_, by omega⟩
      (refine Weak.same ?_; simp only [sameF, Fr.get, ↓reduceIte, reduceIte, Nat.reduceEqDiff, reduceCtorEq, D.int.injEq, D.bool.injEq, D.sl.injEq, and_true, true_and, and_self, hd2, hb])
      exact ⟨wrap_i64 (by omega), by simp⟩
    · have e : ((shrI .i64 (u : Int) (k : Int)).tmod 2 != (shrI .i64 (v : Int) (k : Int)).tmod 2) = true := by
        rw [shr_bit (by omega) (by omega), shr_bit (by omega) (by omega)]
        revert hb
        cases u.testBit k <;> cases v.testBit k <;> simp
      simp only [Int.reduceToNat, Int.reduceLT, Int.reduceLE, Int.reduceBEq, Int.reduceBNe, St0, argFr, ↓callZ, ↓midZ, ↓unZ, ↓thenW, ↓blockW, ↓opX, ↓opV, ↓pX, ↓pW, ↓putK, ↓putP, ↓atK, ↓normK, ↓postZ, ↓reduceIte, reduceIte, Nat.reduceEqDiff, Nat.reduceAdd, Nat.reduceBEq, Nat.reduceLT, Nat.reduceLeDiff, binW, bodyQ, ressW, resW, ne_eq, forall_const, reduceCtorEq, implies_true, sets, oneAll, setD, rels, fillE, fillD, List.replicate, rowsOf, forall_eq, Nat.reduceMul, ↓zD, zT, hd, e]
      (repeat refine And.intro (by first | omega | exact ui_nonneg _ | exact Int.natCast_nonneg _ | rfl | exact rows_one' _ _ | exact us_one _ | (intro _ h; cases h; done)) ?_)
      refine ⟨k + 1, by omega, ?_, by omega⟩
      (refine Weak.same ?_; simp only [sameF, Fr.get, ↓reduceIte, reduceIte, Nat.reduceEqDiff, reduceCtorEq, D.int.injEq, D.bool.injEq, D.sl.injEq, and_true, true_and, and_self, hd2, hb])
      exact ⟨wrap_i64 (by omega), wrap_i64 (by omega)⟩
  · have hd : ¬ ((k : Int) < (n : Int)) := by omega
    have hk' : k = n := by omega
    subst hk'
    simp only [Int.reduceToNat, Int.reduceLT, Int.reduceLE, Int.reduceBEq, Int.reduceBNe, St0, argFr, ↓callZ, ↓midZ, ↓unZ, ↓thenW, ↓blockW, ↓opX, ↓opV, ↓pX, ↓pW, ↓putK, ↓putP, ↓atK, ↓normK, ↓postZ, ↓reduceIte, reduceIte, Nat.reduceEqDiff, Nat.reduceAdd, Nat.reduceBEq, Nat.reduceLT, Nat.reduceLeDiff, binW, bodyQ, ressW, resW, ne_eq, forall_const, reduceCtorEq, implies_true, sets, oneAll, setD, rels, fillE, fillD, List.replicate, rowsOf, forall_eq, Nat.reduceMul, ↓zD, zT, hd]
    exact .same

theorem distance_runs {n v : Nat} (b : BitVec 64) (hn : n ≤ 4) (hv : v < 2 ^ n) : Runs Try.prog 53 [.int .i64 n, .int .u64 (ui b), .int .i64 v] (.int .i64 (distB n b v)) := by
  refine CallT.go_fn mixed Try.func53 k53 (by simp) fun hf => ?_
  have h16 := pow_le hn
  simp only [Int.reduceToNat, Int.reduceLT, Int.reduceLE, Int.reduceBEq, Int.reduceBNe, St0, argFr, ↓callZ, ↓midZ, ↓unZ, ↓thenW, ↓blockW, ↓opX, ↓opV, ↓pX, ↓pW, ↓putK, ↓putP, ↓atK, ↓normK, ↓postZ, ↓reduceIte, reduceIte, Nat.reduceEqDiff, Nat.reduceAdd, Nat.reduceBEq, Nat.reduceLT, Nat.reduceLeDiff, binW, bodyQ, ressW, resW, ne_eq, forall_const, reduceCtorEq, implies_true, sets, oneAll, setD, rels, fillE, fillD, List.replicate, rowsOf, forall_eq, Nat.reduceMul, ↓zD, zT, shlN (show n ≤ 61 by omega)]
  (repeat refine And.intro (by first | omega | exact ui_nonneg _ | exact Int.natCast_nonneg _ | rfl | exact rows_one' _ _ | exact us_one _ | (intro _ h; cases h; done)) ?_)
  refine wpS_loop (fun k : Nat => [(12, .int .i64 k), (11, .int .i64 ((2 ^ n : Nat) : Int)), (7, .int .i64 (minF (fun u => (hd2 u v n : Int)) (fun u => b.getLsbD u) n k)), (2, .int .i64 v), (1, .int .u64 (ui b))]) (fun _ => ⟨0, []⟩) (fun k => k ≤ 2 ^ n) (fun k => 2 ^ n - k) 0 (Nat.zero_le _) ?_ ?_
  · (refine Weak.same ?_; simp [sameF, Fr.get, minF])
  intro k hk
  refine wpS_go mixed ?_
  have e0 : minF (fun u => (hd2 u v n : Int)) (fun u => b.getLsbD u) n (k + 1) = if b.getLsbD k then min (minF (fun u => (hd2 u v n : Int)) (fun u => b.getLsbD u) n k) (hd2 k v n) else minF (fun u => (hd2 u v n : Int)) (fun u => b.getLsbD u) n k := rfl
  by_cases h : k < 2 ^ n
  · have hd : ((k : Int) < ((2 ^ n : Nat) : Int)) := by omega
    cases hb : b.getLsbD k
    · rw [hb] at e0
      simp only [Int.reduceToNat, Int.reduceLT, Int.reduceLE, Int.reduceBEq, Int.reduceBNe, St0, argFr, ↓callZ, ↓midZ, ↓unZ, ↓thenW, ↓blockW, ↓opX, ↓opV, ↓pX, ↓pW, ↓putK, ↓putP, ↓atK, ↓normK, ↓postZ, ↓reduceIte, reduceIte, Nat.reduceEqDiff, Nat.reduceAdd, Nat.reduceBEq, Nat.reduceLT, Nat.reduceLeDiff, binW, bodyQ, ressW, resW, ne_eq, forall_const, reduceCtorEq, implies_true, sets, oneAll, setD, rels, fillE, fillD, List.replicate, rowsOf, forall_eq, Nat.reduceMul, ↓zD, zT, hd, bit_and1_eq, hb]
      (repeat refine And.intro (by first | omega | exact ui_nonneg _ | exact Int.natCast_nonneg _ | rfl | exact rows_one' _ _ | exact us_one _ | (intro _ h; cases h; done)) ?_)
      refine ⟨k + 1, by omega, ?_, by omega⟩
      (refine Weak.same ?_; simp only [sameF, Fr.get, ↓reduceIte, reduceIte, Nat.reduceEqDiff, reduceCtorEq, D.int.injEq, D.bool.injEq, D.sl.injEq, and_true, true_and, and_self, e0])
      first | exact wrap_i64 (by omega) | exact ⟨wrap_i64 (by omega), by simp⟩
    · rw [hb] at e0
      have hx := xor_lt (show k < 16 by omega) (show v < 16 by omega)
      simp only [Int.reduceToNat, Int.reduceLT, Int.reduceLE, Int.reduceBEq, Int.reduceBNe, St0, argFr, ↓callZ, ↓midZ, ↓unZ, ↓thenW, ↓blockW, ↓opX, ↓opV, ↓pX, ↓pW, ↓putK, ↓putP, ↓atK, ↓normK, ↓postZ, ↓reduceIte, reduceIte, Nat.reduceEqDiff, Nat.reduceAdd, Nat.reduceBEq, Nat.reduceLT, Nat.reduceLeDiff, binW, bodyQ, ressW, resW, ne_eq, forall_const, reduceCtorEq, implies_true, sets, oneAll, setD, rels, fillE, fillD, List.replicate, rowsOf, forall_eq, Nat.reduceMul, ↓zD, zT, hd, bit_and1_eq, hb, hx.1, convN (show k ^^^ v ≤ 1000000 by omega)]
      (repeat refine And.intro (by first | omega | exact ui_nonneg _ | exact Int.natCast_nonneg _ | rfl | exact rows_one' _ _ | exact us_one _ | (intro _ h; cases h; done)) ?_)
      refine .go (CallT.of_runs (ones58 (k := k ^^^ v) hx.2) rfl) ?_
      rw [hd2_xor hn h hv]
      simp only [Int.reduceToNat, Int.reduceLT, Int.reduceLE, Int.reduceBEq, Int.reduceBNe, St0, argFr, ↓callZ, ↓midZ, ↓unZ, ↓thenW, ↓blockW, ↓opX, ↓opV, ↓pX, ↓pW, ↓putK, ↓putP, ↓atK, ↓normK, ↓postZ, ↓reduceIte, reduceIte, Nat.reduceEqDiff, Nat.reduceAdd, Nat.reduceBEq, Nat.reduceLT, Nat.reduceLeDiff, binW, bodyQ, ressW, resW, ne_eq, forall_const, reduceCtorEq, implies_true, sets, oneAll, setD, rels, fillE, fillD, List.replicate, rowsOf, forall_eq, Nat.reduceMul, ↓zD, zT]
      (repeat refine And.intro (by first | omega | exact ui_nonneg _ | exact Int.natCast_nonneg _ | rfl | exact rows_one' _ _ | exact us_one _ | (intro _ h; cases h; done)) ?_)
      refine ⟨k + 1, by omega, ?_, by omega⟩
      (refine Weak.same ?_; simp only [sameF, Fr.get, ↓reduceIte, reduceIte, Nat.reduceEqDiff, reduceCtorEq, D.int.injEq, D.bool.injEq, D.sl.injEq, and_true, true_and, and_self, e0])
      exact ⟨wrap_i64 (by omega), by rw [mn_min]⟩
  · have hd : ¬ ((k : Int) < ((2 ^ n : Nat) : Int)) := by omega
    have hk' : k = 2 ^ n := by omega
    subst hk'
    simp only [Int.reduceToNat, Int.reduceLT, Int.reduceLE, Int.reduceBEq, Int.reduceBNe, St0, argFr, ↓callZ, ↓midZ, ↓unZ, ↓thenW, ↓blockW, ↓opX, ↓opV, ↓pX, ↓pW, ↓putK, ↓putP, ↓atK, ↓normK, ↓postZ, ↓reduceIte, reduceIte, Nat.reduceEqDiff, Nat.reduceAdd, Nat.reduceBEq, Nat.reduceLT, Nat.reduceLeDiff, binW, bodyQ, ressW, resW, ne_eq, forall_const, reduceCtorEq, implies_true, sets, oneAll, setD, rels, fillE, fillD, List.replicate, rowsOf, forall_eq, Nat.reduceMul, ↓zD, zT, hd]
    exact .same

theorem minF_fold (f : Nat → Int) (p : Nat → Bool) (n0 : Int) : ∀ m, ((List.range m).filter p).foldl (fun a u => min a (f u)) n0 = minF f p n0 m
  | 0 => rfl
  | m + 1 => by
    rw [List.range_succ, List.filter_append, List.foldl_append, minF_fold f p n0 m, minF]
    cases h : p m <;> simp only [List.filter_cons, List.filter_nil, h, if_true, Bool.false_eq_true, if_false, List.foldl_cons, List.foldl_nil]
theorem minF_far (f : Nat → Int) (p : Nat → Bool) (n0 : Int) {m : Nat} (h : ∀ u, p u = true → u < m) : ∀ k, minF f p n0 (m + k) = minF f p n0 m
  | 0 => rfl
  | k + 1 => by
    show minF f p n0 ((m + k) + 1) = _
    unfold minF
    rw [if_neg (fun c => by have := h _ c; omega), minF_far f p n0 h k]
    cases m <;> rfl
theorem refDistance_runs {n v : Nat} (b : BitVec 64) (hn : n ≤ 4) (hv : v < 2 ^ n) (hb : ∀ u, b.getLsbD u = true → u < 2 ^ n) : Runs Try.prog 34 [.int .i64 n, .int .u64 (ui b), .int .i64 v] (.int .i64 (distB n b v)) := by
  refine CallT.go_fn mixed Try.func34 k34 (by simp) fun hf => ?_
  have h16 := pow_le hn
  simp only [Int.reduceToNat, Int.reduceLT, Int.reduceLE, Int.reduceBEq, Int.reduceBNe, St0, argFr, ↓callZ, ↓midZ, ↓unZ, ↓thenW, ↓blockW, ↓opX, ↓opV, ↓pX, ↓pW, ↓putK, ↓putP, ↓atK, ↓normK, ↓postZ, ↓reduceIte, reduceIte, Nat.reduceEqDiff, Nat.reduceAdd, Nat.reduceBEq, Nat.reduceLT, Nat.reduceLeDiff, binW, bodyQ, ressW, resW, ne_eq, forall_const, reduceCtorEq, implies_true, sets, oneAll, setD, rels, fillE, fillD, List.replicate, rowsOf, forall_eq, Nat.reduceMul, ↓zD, zT]
  refine .go (CallT.of_runs (Members_runs b) rfl) ?_
  simp only [Int.reduceToNat, Int.reduceLT, Int.reduceLE, Int.reduceBEq, Int.reduceBNe, St0, argFr, ↓callZ, ↓midZ, ↓unZ, ↓thenW, ↓blockW, ↓opX, ↓opV, ↓pX, ↓pW, ↓putK, ↓putP, ↓atK, ↓normK, ↓postZ, ↓reduceIte, reduceIte, Nat.reduceEqDiff, Nat.reduceAdd, Nat.reduceBEq, Nat.reduceLT, Nat.reduceLeDiff, binW, bodyQ, ressW, resW, ne_eq, forall_const, reduceCtorEq, implies_true, sets, oneAll, setD, rels, fillE, fillD, List.replicate, rowsOf, forall_eq, Nat.reduceMul, ↓zD, zT]
  have hl : ∀ u ∈ (List.range 64).filter (fun i => b.getLsbD i), u < 2 ^ n := fun u hu => hb u (by simpa using (List.mem_filter.1 hu).2)
  have hlen := memTo_len b 64
  have efin : ((List.range 64).filter fun i => b.getLsbD i).foldl (fun a u => min a (hd2 u v n : Int)) n = distB n b v := by
    have hf := minF_far (fun u => (hd2 u v n : Int)) (fun u => b.getLsbD u) n hb (64 - 2 ^ n)
    rw [show 2 ^ n + (64 - 2 ^ n) = 64 by omega] at hf
    rw [minF_fold, hf]
    rfl
  unfold mems
  have em : memTo b 64 = ((List.range 64).filter fun i => b.getLsbD i).map Int.ofNat := rfl
  rw [em] at hlen ⊢
  generalize ((List.range 64).filter fun i => b.getLsbD i) = L at *
  rw [List.length_map] at hlen
  refine wpS_loop (fun k : Nat => [(9, .int .i64 k), (8, .int .i64 ((L.take k).foldl (fun a u => min a (hd2 u v n : Int)) n)), (7, .sl 1 (rows .i64 (L.map Int.ofNat))), (2, .int .i64 v), (0, .int .i64 n)]) (fun _ => ⟨0, []⟩) (fun k => k ≤ L.length) (fun k => L.length - k) 0 (Nat.zero_le _) ?_ ?_
  · (refine Weak.same ?_; simp [sameF, Fr.get])
  intro k hk
  refine wpS_go mixed ?_
  by_cases h : k < L.length
  · have hd : ((k : Int) < ((L.map Int.ofNat).length : Int)) := by rw [List.length_map]; omega
    have eg : (L.map Int.ofNat).getD k 0 = ((L.getD k 0 : Nat) : Int) := by simp [List.getD, h]
    have hm : L.getD k 0 < 2 ^ n := hl _ (by simp [List.getD, h])
    simp only [Int.reduceToNat, Int.reduceLT, Int.reduceLE, Int.reduceBEq, Int.reduceBNe, St0, argFr, ↓callZ, ↓midZ, ↓unZ, ↓thenW, ↓blockW, ↓opX, ↓opV, ↓pX, ↓pW, ↓putK, ↓putP, ↓atK, ↓normK, ↓postZ, ↓reduceIte, reduceIte, Nat.reduceEqDiff, Nat.reduceAdd, Nat.reduceBEq, Nat.reduceLT, Nat.reduceLeDiff, binW, bodyQ, ressW, resW, ne_eq, forall_const, reduceCtorEq, implies_true, sets, oneAll, setD, rels, fillE, fillD, List.replicate, rowsOf, forall_eq, Nat.reduceMul, ↓zD, zT, hd, rows_get .i64 (L.map Int.ofNat) (show k < (L.map Int.ofNat).length by rw [List.length_map]; exact h), eg]
    (repeat refine And.intro (by first | omega | exact ui_nonneg _ | exact Int.natCast_nonneg _ | rfl | exact rows_one' _ _ | exact us_one _ | (intro _ h; cases h; done)) ?_)
    refine .go (CallT.of_runs (Distance_runs hn hv hm) rfl) ?_
    simp only [Int.reduceToNat, Int.reduceLT, Int.reduceLE, Int.reduceBEq, Int.reduceBNe, St0, argFr, ↓callZ, ↓midZ, ↓unZ, ↓thenW, ↓blockW, ↓opX, ↓opV, ↓pX, ↓pW, ↓putK, ↓putP, ↓atK, ↓normK, ↓postZ, ↓reduceIte, reduceIte, Nat.reduceEqDiff, Nat.reduceAdd, Nat.reduceBEq, Nat.reduceLT, Nat.reduceLeDiff, binW, bodyQ, ressW, resW, ne_eq, forall_const, reduceCtorEq, implies_true, sets, oneAll, setD, rels, fillE, fillD, List.replicate, rowsOf, forall_eq, Nat.reduceMul, ↓zD, zT]
    refine ⟨k + 1, by omega, ?_, by omega⟩
    have et : L.take (k + 1) = L.take k ++ [L.getD k 0] := by rw [List.take_add_one]; simp [List.getD, h]
    (refine Weak.same ?_; simp only [sameF, Fr.get, ↓reduceIte, reduceIte, Nat.reduceEqDiff, reduceCtorEq, D.int.injEq, D.bool.injEq, D.sl.injEq, and_true, true_and, and_self, et, List.foldl_append, List.foldl_cons, List.foldl_nil])
    rw [hd2_comm]
    exact ⟨wrap_i64 (by omega), mn_min _ _⟩
  · have hd : ¬ ((k : Int) < ((L.map Int.ofNat).length : Int)) := by rw [List.length_map]; omega
    simp only [Int.reduceToNat, Int.reduceLT, Int.reduceLE, Int.reduceBEq, Int.reduceBNe, St0, argFr, ↓callZ, ↓midZ, ↓unZ, ↓thenW, ↓blockW, ↓opX, ↓opV, ↓pX, ↓pW, ↓putK, ↓putP, ↓atK, ↓normK, ↓postZ, ↓reduceIte, reduceIte, Nat.reduceEqDiff, Nat.reduceAdd, Nat.reduceBEq, Nat.reduceLT, Nat.reduceLeDiff, binW, bodyQ, ressW, resW, ne_eq, forall_const, reduceCtorEq, implies_true, sets, oneAll, setD, rels, fillE, fillD, List.replicate, rowsOf, forall_eq, Nat.reduceMul, ↓zD, zT, hd]
    rw [show L.take k = L by rw [show k = L.length by omega, List.take_length], efin]
    exact .same
end Go.Pd
