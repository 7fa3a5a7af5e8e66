/- Package model and its specification: contracts, part i: lists of worlds. -/
import Derived.Test.YtkinhajadppfaaaDoorMh
set_option linter.unusedSectionVars false
set_option linter.unusedVariables false
set_option linter.unusedSimpArgs false
set_option linter.defProp false
set_option maxRecDepth 20000
namespace Go.Pd
open Go Go.Proofs
/-- The positions in a list of the worlds that a set contains, as a set. -/
def pullTo (s : BitVec 64) (l : List Int) : Nat → BitVec 64
  | 0 => 0#64
  | k + 1 => pullTo s l k ||| (if hasS s (l.getD k 0) then 1#64 else 0#64) <<< k
def pullS (s : BitVec 64) (l : List Int) : BitVec 64 := pullTo s l l.length

theorem pull_runs (s : BitVec 64) (l : List Int) (hl : ∀ x ∈ l, 0 ≤ x) : Runs Tryd.prog 59 [.int .u64 (ui s), .sl 1 (rows .i64 l)] (.int .u64 (ui (pullS s l))) := by
  refine CallT.go_fn mixed Tryd.func59 k59 (by simp) fun hf => ?_
  simp only [D.factL, D.fact, rows_len] at hf
  have hlen := hf.2.1.1
  simp only [Int.reduceToNat, Int.reduceLT, Int.reduceLE, Int.reduceBEq, Int.reduceBNe, St0, argFr, ↓thenW, ↓blockW, ↓opX, ↓opV, ↓pX, ↓pW, ↓putK, ↓putP, ↓atK, ↓normK, ↓postZ, evO, Fr.get, Fr.put, ↓reduceIte, reduceIte, Nat.reduceEqDiff, Nat.reduceAdd, Nat.reduceBEq, Nat.reduceLT, Nat.reduceLeDiff, binW, bodyQ, ressW, resW, ne_eq, forall_const, reduceCtorEq, implies_true, sets, oneAll, St.new, St.get, St.look, St.set, setL, setD, rels, fillE, fillD, List.replicate, rowsOf, forall_eq, eraseL, St.erase, Nat.reduceMul, ↓zD, zT]
  refine wpS_loop (fun k : Nat => [(10, .int .i64 k), (9, .int .i64 l.length), (8, .sl 1 (rows .i64 l)), (5, .int .u64 (ui (pullTo s l k))), (0, .int .u64 (ui s))]) (fun _ => ⟨0, []⟩) (fun k => k ≤ l.length) (fun k => l.length - k) 0 (Nat.zero_le _) ?_ ?_
  · (refine Weak.same ?_; simp [sameF, Fr.get, pullTo])
  intro k hk
  refine wpS_go mixed ?_
  by_cases h : k < l.length
  · have hd : ((k : Int) < (l.length : Int)) := by omega
    have h0 : 0 ≤ l.getD k 0 := hl _ (by simp [List.getD, h])
    simp only [Int.reduceToNat, Int.reduceLT, Int.reduceLE, Int.reduceBEq, Int.reduceBNe, St0, argFr, ↓thenW, ↓blockW, ↓opX, ↓opV, ↓pX, ↓pW, ↓putK, ↓putP, ↓atK, ↓normK, ↓postZ, evO, Fr.get, Fr.put, ↓reduceIte, reduceIte, Nat.reduceEqDiff, Nat.reduceAdd, Nat.reduceBEq, Nat.reduceLT, Nat.reduceLeDiff, binW, bodyQ, ressW, resW, ne_eq, forall_const, reduceCtorEq, implies_true, sets, oneAll, St.new, St.get, St.look, St.set, setL, setD, rels, fillE, fillD, List.replicate, rowsOf, forall_eq, eraseL, St.erase, Nat.reduceMul, ↓zD, zT, hd, rows_get _ _ h]
    refine ⟨by omega, h0, by omega, k + 1, by omega, ?_, by omega⟩
    (refine Weak.same ?_; simp only [sameF, Fr.get, ↓reduceIte, reduceIte, Nat.reduceEqDiff, reduceCtorEq, D.int.injEq, D.bool.injEq, D.sl.injEq, and_true, true_and, and_self, pullTo])
    refine ⟨wrap_i64 (by omega), ?_⟩
    rw [bit_and1]
    have : hasS s (l.getD k 0) = s.getLsbD (l.getD k 0).toNat := by unfold hasS; rw [decide_eq_true h0, Bool.true_and]
    rw [this]
  · have hd : ¬ ((k : Int) < (l.length : Int)) := by omega
    have hk' : k = l.length := by omega
    subst hk'
    simp only [Int.reduceToNat, Int.reduceLT, Int.reduceLE, Int.reduceBEq, Int.reduceBNe, St0, argFr, ↓thenW, ↓blockW, ↓opX, ↓opV, ↓pX, ↓pW, ↓putK, ↓putP, ↓atK, ↓normK, ↓postZ, evO, Fr.get, Fr.put, ↓reduceIte, reduceIte, Nat.reduceEqDiff, Nat.reduceAdd, Nat.reduceBEq, Nat.reduceLT, Nat.reduceLeDiff, binW, bodyQ, ressW, resW, ne_eq, forall_const, reduceCtorEq, implies_true, sets, oneAll, St.new, St.get, St.look, St.set, setL, setD, rels, fillE, fillD, List.replicate, rowsOf, forall_eq, eraseL, St.erase, Nat.reduceMul, ↓zD, zT, hd]
    exact .same

theorem squeeze_runs (s : BitVec 64) (l : List Int) : Runs Tryd.prog 60 [.int .u64 (ui s), .sl 1 (rows .i64 l)] (.int .u64 (ui (pullS s l))) := by
  refine CallT.go_fn mixed Tryd.func60 k60 (by simp) fun hf => ?_
  simp only [D.factL, D.fact, rows_len] at hf
  have hlen := hf.2.1.1
  simp only [Int.reduceToNat, Int.reduceLT, Int.reduceLE, Int.reduceBEq, Int.reduceBNe, St0, argFr, ↓thenW, ↓blockW, ↓opX, ↓opV, ↓pX, ↓pW, ↓putK, ↓putP, ↓atK, ↓normK, ↓postZ, evO, Fr.get, Fr.put, ↓reduceIte, reduceIte, Nat.reduceEqDiff, Nat.reduceAdd, Nat.reduceBEq, Nat.reduceLT, Nat.reduceLeDiff, binW, bodyQ, ressW, resW, ne_eq, forall_const, reduceCtorEq, implies_true, sets, oneAll, St.new, St.get, St.look, St.set, setL, setD, rels, fillE, fillD, List.replicate, rowsOf, forall_eq, eraseL, St.erase, Nat.reduceMul, ↓zD, zT]
  refine wpS_loop (fun k : Nat => [(6, .int .i64 k), (5, .int .u64 (ui (pullTo s l k))), (1, .sl 1 (rows .i64 l)), (0, .int .u64 (ui s))]) (fun _ => ⟨0, []⟩) (fun k => k ≤ l.length) (fun k => l.length - k) 0 (Nat.zero_le _) ?_ ?_
  · (refine Weak.same ?_; simp [sameF, Fr.get, pullTo])
  intro k hk
  refine wpS_go mixed ?_
  by_cases h : k < l.length
  · have hd : ((k : Int) < (l.length : Int)) := by omega
    simp only [Int.reduceToNat, Int.reduceLT, Int.reduceLE, Int.reduceBEq, Int.reduceBNe, St0, argFr, ↓thenW, ↓blockW, ↓opX, ↓opV, ↓pX, ↓pW, ↓putK, ↓putP, ↓atK, ↓normK, ↓postZ, evO, Fr.get, Fr.put, ↓reduceIte, reduceIte, Nat.reduceEqDiff, Nat.reduceAdd, Nat.reduceBEq, Nat.reduceLT, Nat.reduceLeDiff, binW, bodyQ, ressW, resW, ne_eq, forall_const, reduceCtorEq, implies_true, sets, oneAll, St.new, St.get, St.look, St.set, setL, setD, rels, fillE, fillD, List.replicate, rowsOf, forall_eq, eraseL, St.erase, Nat.reduceMul, ↓zD, zT, hd, rows_get _ _ h]
    refine ⟨by omega, .go (CallT.of_runs (has_runs s (l.getD k 0)) rfl) ?_⟩
    cases hb : hasS s (l.getD k 0)
    · simp only [Int.reduceToNat, Int.reduceLT, Int.reduceLE, Int.reduceBEq, Int.reduceBNe, St0, argFr, ↓thenW, ↓blockW, ↓opX, ↓opV, ↓pX, ↓pW, ↓putK, ↓putP, ↓atK, ↓normK, ↓postZ, evO, Fr.get, Fr.put, ↓reduceIte, reduceIte, Nat.reduceEqDiff, Nat.reduceAdd, Nat.reduceBEq, Nat.reduceLT, Nat.reduceLeDiff, binW, bodyQ, ressW, resW, ne_eq, forall_const, reduceCtorEq, implies_true, sets, oneAll, St.new, St.get, St.look, St.set, setL, setD, rels, fillE, fillD, List.replicate, rowsOf, forall_eq, eraseL, St.erase, Nat.reduceMul, ↓zD, zT]
      refine ⟨k + 1, by omega, ?_, by omega⟩
      (refine Weak.same ?_; simp only [sameF, Fr.get, ↓reduceIte, reduceIte, Nat.reduceEqDiff, reduceCtorEq, D.int.injEq, D.bool.injEq, D.sl.injEq, and_true, true_and, and_self, pullTo, hb])
      exact ⟨wrap_i64 (by omega), by simp⟩
    · simp only [Int.reduceToNat, Int.reduceLT, Int.reduceLE, Int.reduceBEq, Int.reduceBNe, St0, argFr, ↓thenW, ↓blockW, ↓opX, ↓opV, ↓pX, ↓pW, ↓putK, ↓putP, ↓atK, ↓normK, ↓postZ, evO, Fr.get, Fr.put, ↓reduceIte, reduceIte, Nat.reduceEqDiff, Nat.reduceAdd, Nat.reduceBEq, Nat.reduceLT, Nat.reduceLeDiff, binW, bodyQ, ressW, resW, ne_eq, forall_const, reduceCtorEq, implies_true, sets, oneAll, St.new, St.get, St.look, St.set, setL, setD, rels, fillE, fillD, List.replicate, rowsOf, forall_eq, eraseL, St.erase, Nat.reduceMul, ↓zD, zT]
      refine ⟨by omega, k + 1, by omega, ?_, by omega⟩
      (refine Weak.same ?_; simp only [sameF, Fr.get, ↓reduceIte, reduceIte, Nat.reduceEqDiff, reduceCtorEq, D.int.injEq, D.bool.injEq, D.sl.injEq, and_true, true_and, and_self, pullTo, hb])
      exact wrap_i64 (by omega)
  · have hd : ¬ ((k : Int) < (l.length : Int)) := by omega
    have hk' : k = l.length := by omega
    subst hk'
    simp only [Int.reduceToNat, Int.reduceLT, Int.reduceLE, Int.reduceBEq, Int.reduceBNe, St0, argFr, ↓thenW, ↓blockW, ↓opX, ↓opV, ↓pX, ↓pW, ↓putK, ↓putP, ↓atK, ↓normK, ↓postZ, evO, Fr.get, Fr.put, ↓reduceIte, reduceIte, Nat.reduceEqDiff, Nat.reduceAdd, Nat.reduceBEq, Nat.reduceLT, Nat.reduceLeDiff, binW, bodyQ, ressW, resW, ne_eq, forall_const, reduceCtorEq, implies_true, sets, oneAll, St.new, St.get, St.look, St.set, setL, setD, rels, fillE, fillD, List.replicate, rowsOf, forall_eq, eraseL, St.erase, Nat.reduceMul, ↓zD, zT, hd]
    exact .same

/-- The worlds of a set that are less than n. -/
def memTo (s : BitVec 64) (n : Nat) : List Int := ((List.range n).filter fun i => s.getLsbD i).map Int.ofNat
def mems (s : BitVec 64) : List Int := memTo s 64
theorem memTo_yes {s : BitVec 64} {k : Nat} (h : s.getLsbD k = true) : memTo s (k + 1) = memTo s k ++ [(k : Int)] := by
  simp [memTo, List.range_succ, h]
theorem memTo_no {s : BitVec 64} {k : Nat} (h : s.getLsbD k = false) : memTo s (k + 1) = memTo s k := by
  simp [memTo, List.range_succ, h]

theorem Members_runs (s : BitVec 64) : Runs Tryd.prog 44 [.int .u64 (ui s)] (.sl 1 (rows .i64 (mems s))) := by
  refine CallT.go_fn mixed Tryd.func44 k44 (by simp) fun hf => ?_
  simp only [Int.reduceToNat, Int.reduceLT, Int.reduceLE, Int.reduceBEq, Int.reduceBNe, St0, argFr, ↓thenW, ↓blockW, ↓opX, ↓opV, ↓pX, ↓pW, ↓putK, ↓putP, ↓atK, ↓normK, ↓postZ, evO, Fr.get, Fr.put, ↓reduceIte, reduceIte, Nat.reduceEqDiff, Nat.reduceAdd, Nat.reduceBEq, Nat.reduceLT, Nat.reduceLeDiff, binW, bodyQ, ressW, resW, ne_eq, forall_const, reduceCtorEq, implies_true, sets, oneAll, St.new, St.get, St.look, St.set, setL, setD, rels, fillE, fillD, List.replicate, rowsOf, forall_eq, eraseL, St.erase, Nat.reduceMul, ↓zD, zT]
  refine wpS_loop (fun k : Nat => [(4, .int .i64 k), (3, growD 0 1 (rows .i64 (memTo s k))), (0, .int .u64 (ui s))]) (fun k => ⟨1, growO 0 1 (rows .i64 (memTo s k))⟩) (fun k => k ≤ 64) (fun k => 64 - k) 0 (Nat.zero_le _) ?_ ?_
  · exact Weak.view (fun k => k) (by simp) (by simp) (by simp [vwF, vw, Fr.get, memTo, rows, growD]) (by simp [stays, memTo, rows, growO]) (by simp [apartNames, memTo, rows, growO])
  intro k hk
  refine wpS_go mixed ?_
  by_cases h : k < 64
  · have hd : ((k : Int) < 64) := by omega
    simp only [Int.reduceToNat, Int.reduceLT, Int.reduceLE, Int.reduceBEq, Int.reduceBNe, St0, argFr, ↓thenW, ↓blockW, ↓opX, ↓opV, ↓pX, ↓pW, ↓putK, ↓putP, ↓atK, ↓normK, ↓postZ, evO, Fr.get, Fr.put, ↓reduceIte, reduceIte, Nat.reduceEqDiff, Nat.reduceAdd, Nat.reduceBEq, Nat.reduceLT, Nat.reduceLeDiff, binW, bodyQ, ressW, resW, ne_eq, forall_const, reduceCtorEq, implies_true, sets, oneAll, St.new, St.get, St.look, St.set, setL, setD, rels, fillE, fillD, List.replicate, rowsOf, forall_eq, eraseL, St.erase, Nat.reduceMul, ↓zD, zT, hd]
    refine .go (CallT.of_runs (has_runs s k) rfl) ?_
    rw [hasS_nat]
    cases hb : s.getLsbD k
    · simp only [Int.reduceToNat, Int.reduceLT, Int.reduceLE, Int.reduceBEq, Int.reduceBNe, St0, argFr, ↓thenW, ↓blockW, ↓opX, ↓opV, ↓pX, ↓pW, ↓putK, ↓putP, ↓atK, ↓normK, ↓postZ, evO, Fr.get, Fr.put, ↓reduceIte, reduceIte, Nat.reduceEqDiff, Nat.reduceAdd, Nat.reduceBEq, Nat.reduceLT, Nat.reduceLeDiff, binW, bodyQ, ressW, resW, ne_eq, forall_const, reduceCtorEq, implies_true, sets, oneAll, St.new, St.get, St.look, St.set, setL, setD, rels, fillE, fillD, List.replicate, rowsOf, forall_eq, eraseL, St.erase, Nat.reduceMul, ↓zD, zT]
      refine ⟨k + 1, by omega, ?_, by omega⟩
      rw [memTo_no hb]
      (refine Weak.same ?_; simp only [sameF, Fr.get, ↓reduceIte, reduceIte, Nat.reduceEqDiff, reduceCtorEq, D.int.injEq, D.bool.injEq, D.sl.injEq, and_true, true_and, and_self])
      exact wrap_i64 (by omega)
    · have hy := memTo_yes hb
      cases hm : memTo s k with
      | nil =>
        rw [hm] at hy
        simp only [Int.reduceToNat, Int.reduceLT, Int.reduceLE, Int.reduceBEq, Int.reduceBNe, St0, argFr, ↓thenW, ↓blockW, ↓opX, ↓opV, ↓pX, ↓pW, ↓putK, ↓putP, ↓atK, ↓normK, ↓postZ, evO, Fr.get, Fr.put, ↓reduceIte, reduceIte, Nat.reduceEqDiff, Nat.reduceAdd, Nat.reduceBEq, Nat.reduceLT, Nat.reduceLeDiff, binW, bodyQ, ressW, resW, ne_eq, forall_const, reduceCtorEq, implies_true, sets, oneAll, St.new, St.get, St.look, St.set, setL, setD, rels, fillE, fillD, List.replicate, rowsOf, forall_eq, eraseL, St.erase, Nat.reduceMul, ↓zD, zT]
        refine ⟨rfl, k + 1, by omega, ?_, by omega⟩
        rw [hy]
        refine Weak.grow (n := 0) (by simp) (rows_pure _ [(k : Int)]) ?_
        simp only [vwF, vw, Fr.get, ↓reduceIte, reduceIte, Nat.reduceEqDiff, and_true, true_and, D.int.injEq, List.nil_append, rows_cons, rows_nil, growD_cons, List.length_nil, Nat.zero_add, Nat.zero_lt_succ]
        exact wrap_i64 (by omega)
      | cons a r =>
        rw [hm] at hy
        have hlen : (memTo s k).length ≤ k := by
          unfold memTo
          rw [List.length_map]
          exact Nat.le_trans (List.length_filter_le _ _) (by simp)
        rw [hm, List.length_cons] at hlen
        simp only [Int.reduceToNat, Int.reduceLT, Int.reduceLE, Int.reduceBEq, Int.reduceBNe, St0, argFr, ↓thenW, ↓blockW, ↓opX, ↓opV, ↓pX, ↓pW, ↓putK, ↓putP, ↓atK, ↓normK, ↓postZ, evO, Fr.get, Fr.put, ↓reduceIte, reduceIte, Nat.reduceEqDiff, Nat.reduceAdd, Nat.reduceBEq, Nat.reduceLT, Nat.reduceLeDiff, binW, bodyQ, ressW, resW, ne_eq, forall_const, reduceCtorEq, implies_true, sets, oneAll, St.new, St.get, St.look, St.set, setL, setD, rels, fillE, fillD, List.replicate, rowsOf, forall_eq, eraseL, St.erase, Nat.reduceMul, ↓zD, zT]
        refine ⟨rfl, by omega, by omega, k + 1, by omega, ?_, by omega⟩
        rw [hy]
        refine Weak.grow (n := 0) (by simp) (rows_pure _ (a :: r ++ [(k : Int)])) ?_
        simp only [vwF, vw, Fr.get, ↓reduceIte, reduceIte, Nat.reduceEqDiff, and_true, true_and, D.int.injEq, List.cons_append, rows_cons, rows_nil, growD_cons, List.length_nil, Nat.zero_add, Nat.zero_lt_succ, rows_len, List.length_append, List.length_cons]
        exact wrap_i64 (by omega)
  · have hd : ¬ ((k : Int) < 64) := by omega
    have hk' : k = 64 := by omega
    subst hk'
    simp only [Int.reduceToNat, Int.reduceLT, Int.reduceLE, Int.reduceBEq, Int.reduceBNe, St0, argFr, ↓thenW, ↓blockW, ↓opX, ↓opV, ↓pX, ↓pW, ↓putK, ↓putP, ↓atK, ↓normK, ↓postZ, evO, Fr.get, Fr.put, ↓reduceIte, reduceIte, Nat.reduceEqDiff, Nat.reduceAdd, Nat.reduceBEq, Nat.reduceLT, Nat.reduceLeDiff, binW, bodyQ, ressW, resW, ne_eq, forall_const, reduceCtorEq, implies_true, sets, oneAll, St.new, St.get, St.look, St.set, setL, setD, rels, fillE, fillD, List.replicate, rowsOf, forall_eq, eraseL, St.erase, Nat.reduceMul, ↓zD, zT, hd]
    exact .drop (by simp) (grow_view (by simp) (rows_pure _ _))
end Go.Pd
