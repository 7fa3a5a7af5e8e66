/- Package model and its specification: contracts, part n: restrictions. -/
import Derived.Test.YtkinhajadppfaaaDoorMm
set_option linter.unusedSectionVars false
set_option linter.unusedVariables false
set_option linter.unusedSimpArgs false
set_option linter.defProp false
set_option maxRecDepth 20000
namespace Go.Pd
open Go Go.Proofs
theorem allS_bit (n : Int) (i : Nat) : (allS n).getLsbD i = (decide (i < 64) && decide ((i : Int) < n)) := by
  unfold allS
  split
  · rename_i h
    have : (18446744073709551615#64) = BitVec.allOnes 64 := by decide
    rw [this, BitVec.getLsbD_allOnes]
    by_cases hi : i < 64
    · have : (i : Int) < n := by omega
      simp [hi, this]
    · simp [hi]
  · rename_i h
    have hn : n.toNat < 64 := by omega
    have hp : 0 < 2 ^ n.toNat := Nat.two_pow_pos _
    have hlt : 2 ^ n.toNat < 2 ^ 64 := Nat.pow_lt_pow_right (by omega) hn
    have e : (1#64 <<< n.toNat - 1#64).toNat = 2 ^ n.toNat - 1 := by
      have e1 : (1#64 <<< n.toNat).toNat = 2 ^ n.toNat := by
        rw [BitVec.toNat_shiftLeft, Nat.shiftLeft_eq]
        show 1 * 2 ^ n.toNat % 2 ^ 64 = _
        rw [Nat.one_mul, Nat.mod_eq_of_lt hlt]
      rw [BitVec.toNat_sub_of_le (by rw [BitVec.le_def, e1]; exact hp), e1]
      rfl
    unfold BitVec.getLsbD
    rw [e, Nat.testBit_two_pow_sub_one]
    by_cases hi : i < n.toNat
    · have h1 : i < 64 := by omega
      have h2 : (i : Int) < n := by omega
      simp [hi, h1, h2]
    · have h2 : ¬ (i : Int) < n := by omega
      simp [hi, h2]
theorem sub_bits {s t : BitVec 64} : s &&& ~~~t = 0#64 ↔ ∀ i, s.getLsbD i = true → t.getLsbD i = true := by
  constructor
  · intro h i hs
    have := congrArg (fun x : BitVec 64 => x.getLsbD i) h
    simp only [BitVec.getLsbD_and, BitVec.getLsbD_not, hs, Bool.true_and, BitVec.getLsbD_zero] at this
    by_cases hi : i < 64
    · simpa [hi] using this
    · rw [BitVec.getLsbD_of_ge _ _ (by omega)] at hs; cases hs
  · intro h
    apply BitVec.eq_of_getLsbD_eq
    intro i hi
    rw [BitVec.getLsbD_and, BitVec.getLsbD_not, BitVec.getLsbD_zero]
    cases hs : s.getLsbD i with
    | false => rfl
    | true => simp [h i hs]
theorem mems_mem {s : BitVec 64} {x : Int} : x ∈ mems s ↔ ∃ i : Nat, i < 64 ∧ s.getLsbD i = true ∧ x = i := by
  simp only [mems, memTo, List.mem_map, List.mem_filter, List.mem_range]
  constructor
  · rintro ⟨i, ⟨h1, h2⟩, rfl⟩; exact ⟨i, h1, h2, rfl⟩
  · rintro ⟨i, h1, h2, rfl⟩; exact ⟨i, ⟨h1, h2⟩, rfl⟩
theorem mems_len (s : BitVec 64) : (mems s).length ≤ 64 := by
  unfold mems memTo
  rw [List.length_map]
  exact Nat.le_trans (List.length_filter_le _ _) (by simp)
theorem mems_nonneg (s : BitVec 64) : ∀ x ∈ mems s, 0 ≤ x := by
  intro x hx
  obtain ⟨i, _, _, rfl⟩ := mems_mem.1 hx
  omega
theorem mems_lt {s : BitVec 64} {n : Int} (h : s &&& ~~~(allS n) = 0#64) : ∀ x ∈ mems s, x < n := by
  intro x hx
  obtain ⟨i, h1, h2, rfl⟩ := mems_mem.1 hx
  have := sub_bits.1 h i h2
  rw [allS_bit] at this
  simp at this
  exact this.2

def Mod.nil : Mod := ⟨0, [], []⟩
def Mod.restrict (m : Mod) (s : BitVec 64) : Mod × List Int × Int :=
  if m.check ≠ 0 then (.nil, [], m.check) else if s &&& ~~~(allS m.W) ≠ 0#64 then (.nil, [], 2) else if s = 0#64 then (.nil, [], 6) else (m.take (mems s), mems s, 0)
def resD (r : Mod × List Int × Int) : D := .tup [r.1.d, .sl 1 (rows .i64 r.2.1), .int .i64 r.2.2]

theorem restrict_runs (m : Mod) (s : BitVec 64) : Runs Tryd.prog 17 [m.d, .int .u64 (ui s)] (resD (m.restrict s)) := by
  refine CallT.go_fn mixed Tryd.func17 k17 (by simp) fun hf => ?_
  simp only [Int.reduceToNat, Int.reduceLT, Int.reduceLE, Int.reduceBEq, Int.reduceBNe, St0, argFr, ↓thenW, ↓blockW, ↓opX, ↓opV, ↓pX, ↓pW, ↓putK, ↓putP, ↓atK, ↓normK, ↓postZ, evO, Fr.get, Fr.put, ↓reduceIte, reduceIte, Nat.reduceEqDiff, Nat.reduceAdd, Nat.reduceBEq, Nat.reduceLT, Nat.reduceLeDiff, binW, bodyQ, ressW, resW, ne_eq, forall_const, reduceCtorEq, implies_true, sets, oneAll, St.new, St.get, St.look, St.set, setL, setD, rels, fillE, fillD, List.replicate, rowsOf, forall_eq, eraseL, St.erase, Nat.reduceMul, ↓zD, zT, Mod.d]
  refine .go (CallT.of_runs (check_runs m) rfl) ?_
  by_cases h1 : m.check = 0
  · obtain ⟨c1, c2, c3, c4, c5, c6, c7⟩ := Mod.check_zero h1
    simp only [Int.reduceToNat, Int.reduceLT, Int.reduceLE, Int.reduceBEq, Int.reduceBNe, St0, argFr, ↓thenW, ↓blockW, ↓opX, ↓opV, ↓pX, ↓pW, ↓putK, ↓putP, ↓atK, ↓normK, ↓postZ, evO, Fr.get, Fr.put, ↓reduceIte, reduceIte, Nat.reduceEqDiff, Nat.reduceAdd, Nat.reduceBEq, Nat.reduceLT, Nat.reduceLeDiff, binW, bodyQ, ressW, resW, ne_eq, forall_const, reduceCtorEq, implies_true, sets, oneAll, St.new, St.get, St.look, St.set, setL, setD, rels, fillE, fillD, List.replicate, rowsOf, forall_eq, eraseL, St.erase, Nat.reduceMul, ↓zD, zT, h1, bne_self_eq_false]
    refine .go (CallT.of_runs (all_runs m.W (by omega)) rfl) ?_
    by_cases h2 : s &&& ~~~(allS m.W) = 0#64
    · have h2b : (s &&& ~~~(allS m.W) != 0#64) = false := by simp [h2]
      by_cases h3 : s = 0#64
      · have h3b : (s == 0#64) = true := by simp [h3]
        simp only [Int.reduceToNat, Int.reduceLT, Int.reduceLE, Int.reduceBEq, Int.reduceBNe, St0, argFr, ↓thenW, ↓blockW, ↓opX, ↓opV, ↓pX, ↓pW, ↓putK, ↓putP, ↓atK, ↓normK, ↓postZ, evO, Fr.get, Fr.put, ↓reduceIte, reduceIte, Nat.reduceEqDiff, Nat.reduceAdd, Nat.reduceBEq, Nat.reduceLT, Nat.reduceLeDiff, binW, bodyQ, ressW, resW, ne_eq, forall_const, reduceCtorEq, implies_true, sets, oneAll, St.new, St.get, St.look, St.set, setL, setD, rels, fillE, fillD, List.replicate, rowsOf, forall_eq, eraseL, St.erase, Nat.reduceMul, ↓zD, zT, h2b, h3b]
        exact .drop (by simp) (by simp [vw, vwL, resD, Mod.restrict, Mod.nil, h1, h2, h3, rr, us, rows, Mod.d, sets, rels])
      · have h3b : (s == 0#64) = false := by simp [h3]
        simp only [Int.reduceToNat, Int.reduceLT, Int.reduceLE, Int.reduceBEq, Int.reduceBNe, St0, argFr, ↓thenW, ↓blockW, ↓opX, ↓opV, ↓pX, ↓pW, ↓putK, ↓putP, ↓atK, ↓normK, ↓postZ, evO, Fr.get, Fr.put, ↓reduceIte, reduceIte, Nat.reduceEqDiff, Nat.reduceAdd, Nat.reduceBEq, Nat.reduceLT, Nat.reduceLeDiff, binW, bodyQ, ressW, resW, ne_eq, forall_const, reduceCtorEq, implies_true, sets, oneAll, St.new, St.get, St.look, St.set, setL, setD, rels, fillE, fillD, List.replicate, rowsOf, forall_eq, eraseL, St.erase, Nat.reduceMul, ↓zD, zT, h2b, h3b]
        refine .go (CallT.of_runs (members_runs s) rfl) ?_
        simp only [Int.reduceToNat, Int.reduceLT, Int.reduceLE, Int.reduceBEq, Int.reduceBNe, St0, argFr, ↓thenW, ↓blockW, ↓opX, ↓opV, ↓pX, ↓pW, ↓putK, ↓putP, ↓atK, ↓normK, ↓postZ, evO, Fr.get, Fr.put, ↓reduceIte, reduceIte, Nat.reduceEqDiff, Nat.reduceAdd, Nat.reduceBEq, Nat.reduceLT, Nat.reduceLeDiff, binW, bodyQ, ressW, resW, ne_eq, forall_const, reduceCtorEq, implies_true, sets, oneAll, St.new, St.get, St.look, St.set, setL, setD, rels, fillE, fillD, List.replicate, rowsOf, forall_eq, eraseL, St.erase, Nat.reduceMul, ↓zD, zT]
        refine .go (CallT.of_runs (arrange_runs m (mems s) (mems_nonneg s) (fun r hr x hx => by have := mems_lt h2 x hx; have := c5 r hr; omega) (by omega) (by omega) (by have := mems_len s; omega)) (by simp [D.isPureL, D.isPure, Mod.d, sets, rels])) ?_
        simp only [Int.reduceToNat, Int.reduceLT, Int.reduceLE, Int.reduceBEq, Int.reduceBNe, St0, argFr, ↓thenW, ↓blockW, ↓opX, ↓opV, ↓pX, ↓pW, ↓putK, ↓putP, ↓atK, ↓normK, ↓postZ, evO, Fr.get, Fr.put, ↓reduceIte, reduceIte, Nat.reduceEqDiff, Nat.reduceAdd, Nat.reduceBEq, Nat.reduceLT, Nat.reduceLeDiff, binW, bodyQ, ressW, resW, ne_eq, forall_const, reduceCtorEq, implies_true, sets, oneAll, St.new, St.get, St.look, St.set, setL, setD, rels, fillE, fillD, List.replicate, rowsOf, forall_eq, eraseL, St.erase, Nat.reduceMul, ↓zD, zT, Mod.d]
        exact .drop (by simp) (by simp [vw, vwL, resD, Mod.restrict, h1, h2, h3, Mod.d, sets, rels])
    · have h2b : (s &&& ~~~(allS m.W) != 0#64) = true := by simp [h2]
      simp only [Int.reduceToNat, Int.reduceLT, Int.reduceLE, Int.reduceBEq, Int.reduceBNe, St0, argFr, ↓thenW, ↓blockW, ↓opX, ↓opV, ↓pX, ↓pW, ↓putK, ↓putP, ↓atK, ↓normK, ↓postZ, evO, Fr.get, Fr.put, ↓reduceIte, reduceIte, Nat.reduceEqDiff, Nat.reduceAdd, Nat.reduceBEq, Nat.reduceLT, Nat.reduceLeDiff, binW, bodyQ, ressW, resW, ne_eq, forall_const, reduceCtorEq, implies_true, sets, oneAll, St.new, St.get, St.look, St.set, setL, setD, rels, fillE, fillD, List.replicate, rowsOf, forall_eq, eraseL, St.erase, Nat.reduceMul, ↓zD, zT, h2b]
      exact .drop (by simp) (by simp [vw, vwL, resD, Mod.restrict, Mod.nil, h1, h2, rr, us, rows, Mod.d, sets, rels])
  · have h1b : (m.check != 0) = true := by simp [h1]
    simp only [Int.reduceToNat, Int.reduceLT, Int.reduceLE, Int.reduceBEq, Int.reduceBNe, St0, argFr, ↓thenW, ↓blockW, ↓opX, ↓opV, ↓pX, ↓pW, ↓putK, ↓putP, ↓atK, ↓normK, ↓postZ, evO, Fr.get, Fr.put, ↓reduceIte, reduceIte, Nat.reduceEqDiff, Nat.reduceAdd, Nat.reduceBEq, Nat.reduceLT, Nat.reduceLeDiff, binW, bodyQ, ressW, resW, ne_eq, forall_const, reduceCtorEq, implies_true, sets, oneAll, St.new, St.get, St.look, St.set, setL, setD, rels, fillE, fillD, List.replicate, rowsOf, forall_eq, eraseL, St.erase, Nat.reduceMul, ↓zD, zT, h1b]
    exact .drop (by simp) (by simp [vw, vwL, resD, Mod.restrict, Mod.nil, h1, rr, us, rows, Mod.d, sets, rels])
theorem refRestrict_runs (m : Mod) (s : BitVec 64) : Runs Tryd.prog 18 [m.d, .int .u64 (ui s)] (resD (m.restrict s)) := by
  refine CallT.go_fn mixed Tryd.func18 k18 (by simp) fun hf => ?_
  simp only [Int.reduceToNat, Int.reduceLT, Int.reduceLE, Int.reduceBEq, Int.reduceBNe, St0, argFr, ↓thenW, ↓blockW, ↓opX, ↓opV, ↓pX, ↓pW, ↓putK, ↓putP, ↓atK, ↓normK, ↓postZ, evO, Fr.get, Fr.put, ↓reduceIte, reduceIte, Nat.reduceEqDiff, Nat.reduceAdd, Nat.reduceBEq, Nat.reduceLT, Nat.reduceLeDiff, binW, bodyQ, ressW, resW, ne_eq, forall_const, reduceCtorEq, implies_true, sets, oneAll, St.new, St.get, St.look, St.set, setL, setD, rels, fillE, fillD, List.replicate, rowsOf, forall_eq, eraseL, St.erase, Nat.reduceMul, ↓zD, zT, Mod.d]
  refine .go (CallT.of_runs (refCheck_runs m) rfl) ?_
  by_cases h1 : m.check = 0
  · obtain ⟨c1, c2, c3, c4, c5, c6, c7⟩ := Mod.check_zero h1
    simp only [Int.reduceToNat, Int.reduceLT, Int.reduceLE, Int.reduceBEq, Int.reduceBNe, St0, argFr, ↓thenW, ↓blockW, ↓opX, ↓opV, ↓pX, ↓pW, ↓putK, ↓putP, ↓atK, ↓normK, ↓postZ, evO, Fr.get, Fr.put, ↓reduceIte, reduceIte, Nat.reduceEqDiff, Nat.reduceAdd, Nat.reduceBEq, Nat.reduceLT, Nat.reduceLeDiff, binW, bodyQ, ressW, resW, ne_eq, forall_const, reduceCtorEq, implies_true, sets, oneAll, St.new, St.get, St.look, St.set, setL, setD, rels, fillE, fillD, List.replicate, rowsOf, forall_eq, eraseL, St.erase, Nat.reduceMul, ↓zD, zT, h1, bne_self_eq_false]
    refine .go (CallT.of_runs (refAll_runs m.W (by omega)) rfl) ?_
    by_cases h2 : s &&& ~~~(allS m.W) = 0#64
    · have h2b : (s &&& ~~~(allS m.W) != 0#64) = false := by simp [h2]
      by_cases h3 : s = 0#64
      · have h3b : (s == 0#64) = true := by simp [h3]
        simp only [Int.reduceToNat, Int.reduceLT, Int.reduceLE, Int.reduceBEq, Int.reduceBNe, St0, argFr, ↓thenW, ↓blockW, ↓opX, ↓opV, ↓pX, ↓pW, ↓putK, ↓putP, ↓atK, ↓normK, ↓postZ, evO, Fr.get, Fr.put, ↓reduceIte, reduceIte, Nat.reduceEqDiff, Nat.reduceAdd, Nat.reduceBEq, Nat.reduceLT, Nat.reduceLeDiff, binW, bodyQ, ressW, resW, ne_eq, forall_const, reduceCtorEq, implies_true, sets, oneAll, St.new, St.get, St.look, St.set, setL, setD, rels, fillE, fillD, List.replicate, rowsOf, forall_eq, eraseL, St.erase, Nat.reduceMul, ↓zD, zT, h2b, h3b]
        exact .drop (by simp) (by simp [vw, vwL, resD, Mod.restrict, Mod.nil, h1, h2, h3, rr, us, rows, Mod.d, sets, rels])
      · have h3b : (s == 0#64) = false := by simp [h3]
        simp only [Int.reduceToNat, Int.reduceLT, Int.reduceLE, Int.reduceBEq, Int.reduceBNe, St0, argFr, ↓thenW, ↓blockW, ↓opX, ↓opV, ↓pX, ↓pW, ↓putK, ↓putP, ↓atK, ↓normK, ↓postZ, evO, Fr.get, Fr.put, ↓reduceIte, reduceIte, Nat.reduceEqDiff, Nat.reduceAdd, Nat.reduceBEq, Nat.reduceLT, Nat.reduceLeDiff, binW, bodyQ, ressW, resW, ne_eq, forall_const, reduceCtorEq, implies_true, sets, oneAll, St.new, St.get, St.look, St.set, setL, setD, rels, fillE, fillD, List.replicate, rowsOf, forall_eq, eraseL, St.erase, Nat.reduceMul, ↓zD, zT, h2b, h3b]
        refine .go (CallT.of_runs (Members_runs s) rfl) ?_
        simp only [Int.reduceToNat, Int.reduceLT, Int.reduceLE, Int.reduceBEq, Int.reduceBNe, St0, argFr, ↓thenW, ↓blockW, ↓opX, ↓opV, ↓pX, ↓pW, ↓putK, ↓putP, ↓atK, ↓normK, ↓postZ, evO, Fr.get, Fr.put, ↓reduceIte, reduceIte, Nat.reduceEqDiff, Nat.reduceAdd, Nat.reduceBEq, Nat.reduceLT, Nat.reduceLeDiff, binW, bodyQ, ressW, resW, ne_eq, forall_const, reduceCtorEq, implies_true, sets, oneAll, St.new, St.get, St.look, St.set, setL, setD, rels, fillE, fillD, List.replicate, rowsOf, forall_eq, eraseL, St.erase, Nat.reduceMul, ↓zD, zT]
        refine .go (CallT.of_runs (take_runs m (mems s) (mems_nonneg s) (fun r hr x hx => by have := mems_lt h2 x hx; have := c5 r hr; omega) (by omega) (by omega) (by have := mems_len s; omega)) (by simp [D.isPureL, D.isPure, Mod.d, sets, rels])) ?_
        simp only [Int.reduceToNat, Int.reduceLT, Int.reduceLE, Int.reduceBEq, Int.reduceBNe, St0, argFr, ↓thenW, ↓blockW, ↓opX, ↓opV, ↓pX, ↓pW, ↓putK, ↓putP, ↓atK, ↓normK, ↓postZ, evO, Fr.get, Fr.put, ↓reduceIte, reduceIte, Nat.reduceEqDiff, Nat.reduceAdd, Nat.reduceBEq, Nat.reduceLT, Nat.reduceLeDiff, binW, bodyQ, ressW, resW, ne_eq, forall_const, reduceCtorEq, implies_true, sets, oneAll, St.new, St.get, St.look, St.set, setL, setD, rels, fillE, fillD, List.replicate, rowsOf, forall_eq, eraseL, St.erase, Nat.reduceMul, ↓zD, zT, Mod.d]
        exact .drop (by simp) (by simp [vw, vwL, resD, Mod.restrict, h1, h2, h3, Mod.d, sets, rels])
    · have h2b : (s &&& ~~~(allS m.W) != 0#64) = true := by simp [h2]
      simp only [Int.reduceToNat, Int.reduceLT, Int.reduceLE, Int.reduceBEq, Int.reduceBNe, St0, argFr, ↓thenW, ↓blockW, ↓opX, ↓opV, ↓pX, ↓pW, ↓putK, ↓putP, ↓atK, ↓normK, ↓postZ, evO, Fr.get, Fr.put, ↓reduceIte, reduceIte, Nat.reduceEqDiff, Nat.reduceAdd, Nat.reduceBEq, Nat.reduceLT, Nat.reduceLeDiff, binW, bodyQ, ressW, resW, ne_eq, forall_const, reduceCtorEq, implies_true, sets, oneAll, St.new, St.get, St.look, St.set, setL, setD, rels, fillE, fillD, List.replicate, rowsOf, forall_eq, eraseL, St.erase, Nat.reduceMul, ↓zD, zT, h2b]
      exact .drop (by simp) (by simp [vw, vwL, resD, Mod.restrict, Mod.nil, h1, h2, rr, us, rows, Mod.d, sets, rels])
  · have h1b : (m.check != 0) = true := by simp [h1]
    simp only [Int.reduceToNat, Int.reduceLT, Int.reduceLE, Int.reduceBEq, Int.reduceBNe, St0, argFr, ↓thenW, ↓blockW, ↓opX, ↓opV, ↓pX, ↓pW, ↓putK, ↓putP, ↓atK, ↓normK, ↓postZ, evO, Fr.get, Fr.put, ↓reduceIte, reduceIte, Nat.reduceEqDiff, Nat.reduceAdd, Nat.reduceBEq, Nat.reduceLT, Nat.reduceLeDiff, binW, bodyQ, ressW, resW, ne_eq, forall_const, reduceCtorEq, implies_true, sets, oneAll, St.new, St.get, St.look, St.set, setL, setD, rels, fillE, fillD, List.replicate, rowsOf, forall_eq, eraseL, St.erase, Nat.reduceMul, ↓zD, zT, h1b]
    exact .drop (by simp) (by simp [vw, vwL, resD, Mod.restrict, Mod.nil, h1, rr, us, rows, Mod.d, sets, rels])
end Go.Pd
