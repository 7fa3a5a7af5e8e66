/- Package model: contracts, part j: members. -/
import Derived.Test.YtkinhajadppfaaaDoorMi
set_option linter.unusedSectionVars false
set_option linter.unusedVariables false
set_option linter.unusedSimpArgs false
set_option linter.defProp false
set_option maxRecDepth 20000
namespace Go.Pd
open Go Go.Proofs
/-- A list whose first is at t. -/
theorem filter_first {p p' : Nat → Bool} {t : Nat} (h0 : ∀ i, i < t → p i = false) (h1 : p t = true) (h2 : ∀ i, p' i = (p i && i != t)) : ∀ n, t < n → (List.range n).filter p = t :: (List.range n).filter p' := by
  have z : ∀ n, n ≤ t → (List.range n).filter p = [] ∧ (List.range n).filter p' = [] := by
    intro n hn
    constructor
    · rw [List.filter_eq_nil_iff]; intro i hi; rw [List.mem_range] at hi; rw [h0 i (by omega)]; simp
    · rw [List.filter_eq_nil_iff]; intro i hi; rw [List.mem_range] at hi; rw [h2, h0 i (by omega)]; simp
  intro n
  induction n with
  | zero => intro h; omega
  | succ n ih =>
    intro h
    rw [List.range_succ, List.filter_append, List.filter_append]
    by_cases e : n = t
    · subst e
      rw [(z n (Nat.le_refl _)).1, (z n (Nat.le_refl _)).2]
      simp [h1, h2]
    · rw [ih (by omega)]
      have : p' n = p n := by rw [h2]; simp [e]
      simp [List.filter_cons, this]

theorem tz_first {s : BitVec 64} (h : s ≠ 0#64) : tz s < 64 ∧ s.getLsbD (tz s) = true ∧ (∀ i, i < tz s → s.getLsbD i = false) ∧ ∀ i, (s &&& (s - 1#64)).getLsbD i = (s.getLsbD i && i != tz s) := by
  have h0 : s.toNat ≠ 0 := fun e => h (BitVec.eq_of_toNat_eq (by rw [e]; rfl))
  have hs := s.isLt
  obtain ⟨m, hm, ht⟩ := Lib.ctzFrom_spec 64 s.toNat (by omega) hs
  have et : tz s = Lib.ctzFrom 64 s.toNat := by unfold tz Lib.ctz; rw [if_neg h0]
  rw [← et] at hm ht
  have hp : 0 < 2 ^ tz s := Nat.two_pow_pos _
  have e1 : (s - 1#64).toNat = 2 ^ (tz s) * (2 * m) + (2 ^ tz s - 1) := by
    rw [BitVec.toNat_sub_of_le (by rw [BitVec.le_def]; show 1 ≤ s.toNat; omega)]
    show s.toNat - 1 = _
    rw [hm, Nat.mul_add, Nat.mul_one]; omega
  have e2 : s.toNat = 2 ^ (tz s) * (2 * m + 1) + 0 := by omega
  have b1 : ∀ i, s.toNat.testBit i = if i < tz s then false else (2 * m + 1).testBit (i - tz s) := by
    intro i
    rw [e2, Nat.testBit_two_pow_mul_add _ hp]
    simp
  have b2 : ∀ i, (s - 1#64).toNat.testBit i = if i < tz s then true else (2 * m).testBit (i - tz s) := by
    intro i
    rw [e1, Nat.testBit_two_pow_mul_add _ (by omega)]
    split
    · rw [Nat.testBit_two_pow_sub_one]; simpa
    · rfl
  refine ⟨ht, ?_, ?_, ?_⟩
  · unfold BitVec.getLsbD; rw [b1, if_neg (by omega), Nat.sub_self]; simp
  · intro i hi; unfold BitVec.getLsbD; rw [b1, if_pos hi]
  · intro i
    rw [BitVec.getLsbD_and]
    unfold BitVec.getLsbD
    rw [b1, b2]
    by_cases hi : i < tz s
    · simp [hi]
    · rw [if_neg hi, if_neg hi]
      by_cases e : i = tz s
      · subst e; simp
      · have e3 : i - tz s = (i - tz s - 1) + 1 := by omega
        rw [e3, Nat.testBit_succ, Nat.testBit_succ]
        have f1 : (2 * m + 1) / 2 = m := by omega
        have f2 : 2 * m / 2 = m := by omega
        have f3 : (i != tz s) = true := by simpa using e
        rw [f1, f2, f3, Bool.and_true, Bool.and_self]

theorem mems_step {s : BitVec 64} (h : s ≠ 0#64) : mems s = (tz s : Int) :: mems (s &&& (s - 1#64)) := by
  obtain ⟨h1, h2, h3, h4⟩ := tz_first h
  unfold mems memTo
  rw [filter_first h3 h2 h4 64 h1]
  rfl
theorem mems_zero : mems 0#64 = [] := by simp [mems, memTo]

theorem andLess {s : BitVec 64} (h : s ≠ 0#64) : (s &&& (s - 1#64)).toNat < s.toNat := by
  have h0 : s.toNat ≠ 0 := fun e => h (BitVec.eq_of_toNat_eq (by rw [e]; rfl))
  rw [BitVec.toNat_and]
  have : (s - 1#64).toNat = s.toNat - 1 := by
    rw [BitVec.toNat_sub_of_le (by rw [BitVec.le_def]; show 1 ≤ s.toNat; omega)]; rfl
  have := Nat.and_le_right (n := s.toNat) (m := (s - 1#64).toNat)
  omega

theorem members_runs (s : BitVec 64) : Runs Tryd.prog 42 [.int .u64 (ui s)] (.sl 1 (rows .i64 (mems s))) := by
  refine CallT.go_fn mixed Tryd.func42 k42 (by simp) fun hf => ?_
  simp only [Int.reduceToNat, Int.reduceLT, Int.reduceLE, Int.reduceBEq, Int.reduceBNe, St0, argFr, ↓thenW, ↓blockW, ↓opX, ↓opV, ↓pX, ↓pW, ↓putK, ↓putP, ↓atK, ↓normK, ↓postZ, evO, Fr.get, Fr.put, ↓reduceIte, reduceIte, Nat.reduceEqDiff, Nat.reduceAdd, Nat.reduceBEq, Nat.reduceLT, Nat.reduceLeDiff, binW, bodyQ, ressW, resW, ne_eq, forall_const, reduceCtorEq, implies_true, sets, oneAll, St.new, St.get, St.look, St.set, setL, setD, rels, fillE, fillD, List.replicate, rowsOf, forall_eq, eraseL, St.erase, Nat.reduceMul, ↓zD, zT]
  refine wpS_loop (fun p : BitVec 64 × List Int => [(3, growD 0 1 (rows .i64 p.2)), (0, .int .u64 (ui p.1))]) (fun p => ⟨1, growO 0 1 (rows .i64 p.2)⟩) (fun p => mems s = p.2 ++ mems p.1) (fun p => p.1.toNat) (s, []) rfl ?_ ?_
  · exact Weak.view (fun k => k) (by simp) (by simp) (by simp [vwF, vw, Fr.get, rows, growD]) (by simp [stays, rows, growO]) (by simp [apartNames, rows, growO])
  intro ⟨t, l⟩ hi
  simp only at hi
  refine wpS_go mixed ?_
  by_cases h : t = 0#64
  · have hd : (t != 0#64) = false := by simp [h]
    simp only [Int.reduceToNat, Int.reduceLT, Int.reduceLE, Int.reduceBEq, Int.reduceBNe, St0, argFr, ↓thenW, ↓blockW, ↓opX, ↓opV, ↓pX, ↓pW, ↓putK, ↓putP, ↓atK, ↓normK, ↓postZ, evO, Fr.get, Fr.put, ↓reduceIte, reduceIte, Nat.reduceEqDiff, Nat.reduceAdd, Nat.reduceBEq, Nat.reduceLT, Nat.reduceLeDiff, binW, bodyQ, ressW, resW, ne_eq, forall_const, reduceCtorEq, implies_true, sets, oneAll, St.new, St.get, St.look, St.set, setL, setD, rels, fillE, fillD, List.replicate, rowsOf, forall_eq, eraseL, St.erase, Nat.reduceMul, ↓zD, zT, hd]
    rw [h, mems_zero, List.append_nil] at hi
    rw [hi]
    exact .drop (by simp) (grow_view (by simp) (rows_pure _ _))
  · have hd : (t != 0#64) = true := by simp [h]
    have hlen : (mems s).length ≤ 64 := by
      unfold mems memTo
      rw [List.length_map]
      exact Nat.le_trans (List.length_filter_le _ _) (by simp)
    rw [hi, List.length_append] at hlen
    have hi' : mems s = (l ++ [(tz t : Int)]) ++ mems (t &&& (t - 1#64)) := by rw [hi, mems_step h]; simp
    simp only [Int.reduceToNat, Int.reduceLT, Int.reduceLE, Int.reduceBEq, Int.reduceBNe, St0, argFr, ↓thenW, ↓blockW, ↓opX, ↓opV, ↓pX, ↓pW, ↓putK, ↓putP, ↓atK, ↓normK, ↓postZ, evO, Fr.get, Fr.put, ↓reduceIte, reduceIte, Nat.reduceEqDiff, Nat.reduceAdd, Nat.reduceBEq, Nat.reduceLT, Nat.reduceLeDiff, binW, bodyQ, ressW, resW, ne_eq, forall_const, reduceCtorEq, implies_true, sets, oneAll, St.new, St.get, St.look, St.set, setL, setD, rels, fillE, fillD, List.replicate, rowsOf, forall_eq, eraseL, St.erase, Nat.reduceMul, ↓zD, zT, hd]
    refine .go (CallT.of_runs (tz_runs t) rfl) ?_
    cases l with
    | nil =>
      simp only [Int.reduceToNat, Int.reduceLT, Int.reduceLE, Int.reduceBEq, Int.reduceBNe, St0, argFr, ↓thenW, ↓blockW, ↓opX, ↓opV, ↓pX, ↓pW, ↓putK, ↓putP, ↓atK, ↓normK, ↓postZ, evO, Fr.get, Fr.put, ↓reduceIte, reduceIte, Nat.reduceEqDiff, Nat.reduceAdd, Nat.reduceBEq, Nat.reduceLT, Nat.reduceLeDiff, binW, bodyQ, ressW, resW, ne_eq, forall_const, reduceCtorEq, implies_true, sets, oneAll, St.new, St.get, St.look, St.set, setL, setD, rels, fillE, fillD, List.replicate, rowsOf, forall_eq, eraseL, St.erase, Nat.reduceMul, ↓zD, zT]
      refine ⟨rfl, (t &&& (t - 1#64), [(tz t : Int)]), hi', ?_, andLess h⟩
      refine Weak.grow (n := 0) (by simp) (rows_pure _ [(tz t : Int)]) ?_
      simp only [vwF, vw, Fr.get, ↓reduceIte, reduceIte, Nat.reduceEqDiff, and_true, true_and, D.int.injEq, List.nil_append, rows_cons, rows_nil, growD_cons, List.length_nil, Nat.zero_add, Nat.zero_lt_succ]
    | cons a r =>
      rw [List.length_cons] at hlen
      simp only [Int.reduceToNat, Int.reduceLT, Int.reduceLE, Int.reduceBEq, Int.reduceBNe, St0, argFr, ↓thenW, ↓blockW, ↓opX, ↓opV, ↓pX, ↓pW, ↓putK, ↓putP, ↓atK, ↓normK, ↓postZ, evO, Fr.get, Fr.put, ↓reduceIte, reduceIte, Nat.reduceEqDiff, Nat.reduceAdd, Nat.reduceBEq, Nat.reduceLT, Nat.reduceLeDiff, binW, bodyQ, ressW, resW, ne_eq, forall_const, reduceCtorEq, implies_true, sets, oneAll, St.new, St.get, St.look, St.set, setL, setD, rels, fillE, fillD, List.replicate, rowsOf, forall_eq, eraseL, St.erase, Nat.reduceMul, ↓zD, zT]
      refine ⟨rfl, by omega, by omega, (t &&& (t - 1#64), a :: r ++ [(tz t : Int)]), hi', ?_, andLess h⟩
      refine Weak.grow (n := 0) (by simp) (rows_pure _ (a :: r ++ [(tz t : Int)])) ?_
      simp only [vwF, vw, Fr.get, ↓reduceIte, reduceIte, Nat.reduceEqDiff, and_true, true_and, D.int.injEq, List.cons_append, rows_cons, rows_nil, growD_cons, List.length_nil, Nat.zero_add, Nat.zero_lt_succ, rows_len, List.length_append, List.length_cons]

end Go.Pd
