/- Boolean: the law Covers. -/
import Derived.Test.YtfaehcooldhddaaDoorJ2
import Derived.Test.YtfaehcooldhddaaDoorCode7
import Derived.Test.YtfaehcooldhddaaDoorC1
set_option linter.unusedSectionVars false
set_option linter.unusedVariables false
set_option linter.unusedSimpArgs false
set_option linter.defProp false
set_option maxRecDepth 20000
namespace Go.Pd
open Go Go.Proofs
open Rs Fm
theorem shrNat16 (v w : Nat) (hw : w ≤ 15) : shrI .u16 (v : Int) (w : Int) = ((v / 2 ^ w : Nat) : Int) := by
  unfold shrI
  have e : min (w : Int).toNat IntKind.u16.bits = w := by
    have : IntKind.u16.bits = 16 := rfl
    rw [this, Int.toNat_natCast]; omega
  rw [e, Int.fdiv_eq_ediv_of_nonneg _ (by have : (0 : Int) < 2 ^ w := Int.pow_pos (by decide); omega)]
  simp
theorem and1Nat16 {a : Nat} (h : a < 65536) : bitI .and .u16 (a : Int) 1 = ((a % 2 : Nat) : Int) := by
  show IntKind.u16.wrap ((BitVec.ofInt 16 (a : Int) &&& BitVec.ofInt 16 1).toNat : Int) = _
  rw [BitVec.ofInt_natCast, BitVec.toNat_and, BitVec.toNat_ofNat, Nat.mod_eq_of_lt (by omega)]
  have : (BitVec.ofInt 16 1).toNat = 1 := rfl
  rw [this, Nat.and_one_is_mod]
  simp [IntKind.wrap, IntKind.signed, IntKind.bits]
  omega
theorem natBeq (a b : Nat) : ((a : Int) == (b : Int)) = decide (a = b) := by
  rw [Bool.eq_iff_iff, beq_iff_eq, decide_eq_true_iff]; omega
theorem natBne (a b : Nat) : ((a : Int) != (b : Int)) = !decide (a = b) := by
  rw [bne, natBeq]
namespace Fm
theorem prN_get (l : List (Nat × Nat)) {k : Nat} (h : k < l.length) : (prR (pairI l)).getD k [] = [.int .i64 ((l.getD k (0, 0)).1 : Int), .int .i64 ((l.getD k (0, 0)).2 : Int)] := by
  simp [prR, pairI, List.getD, h]
theorem getD_memP {l : List (Nat × Nat)} {k : Nat} (h : k < l.length) : l.getD k (0, 0) ∈ l := by
  simp only [List.getD, List.getElem?_eq_getElem h, Option.getD_some]; exact List.getElem_mem _
theorem getD_injP {l : List (Nat × Nat)} (hn : l.Nodup) {i j : Nat} (hi : i < l.length) (hj : j < l.length) (h : l.getD i (0, 0) = l.getD j (0, 0)) : i = j := by
  simp only [List.getD, List.getElem?_eq_getElem hi, List.getElem?_eq_getElem hj, Option.getD_some] at h
  exact nodup_inj hn hi hj h
def outS (m : Nat) (p : Nat × Nat) (b v : Nat) : Bool := (List.range v).any fun u => decide (u &&& clr p.1 b = clr p.2 b) && !m.testBit u
theorem outS_succ (m : Nat) (p : Nat × Nat) (b v : Nat) : outS m p b (v + 1) = (outS m p b v || (decide (v &&& clr p.1 b = clr p.2 b) && !m.testBit v)) := by
  unfold outS
  rw [List.range_succ, List.any_append]
  simp
theorem and_pow {x b : Nat} : x &&& 2 ^ b = if x.testBit b then 2 ^ b else 0 := by
  refine Nat.eq_of_testBit_eq fun i => ?_
  rw [Nat.testBit_and, Nat.testBit_two_pow]
  by_cases e : b = i
  · subst e
    cases h : x.testBit b <;> simp [Nat.testBit_two_pow_self]
  · cases h : x.testBit b
    · simp [e]
    · simp [e, Nat.testBit_two_pow]
end Fm
theorem booleanCovers_runs (m : Nat) (hm : m < 65536) : Runs Tryd.prog 7 [.int .u16 (m : Int)] (.bool true) := by
  have hI := Implicants19 (BitVec.ofNat 64 m) 4
  have hui : ui (BitVec.ofNat 64 m) = (m : Int) := by
    unfold ui; rw [BitVec.toNat_ofNat, Nat.mod_eq_of_lt (by omega)]
  have hbit : ∀ v, v < 16 → (BitVec.ofNat 64 m).getLsbD v = m.testBit v := fun v hv => by
    rw [BitVec.getLsbD_ofNat]; simp; omega
  have hte : tableErr (BitVec.ofNat 64 m) 4 = 0 := by
    unfold tableErr
    rw [if_neg (by omega), if_neg]
    refine fun hne => hne ((shr_zero (n := 4) (by omega)).1 (BitVec.eq_of_toNat_eq ?_))
    rw [BitVec.toNat_ushiftRight, BitVec.toNat_ofNat, Nat.mod_eq_of_lt (by omega), Nat.shiftRight_eq_div_pow, Nat.div_eq_of_lt (by omega)]
    rfl
  rw [show implA (BitVec.ofNat 64 m) 4 = (pairI (primesN (BitVec.ofNat 64 m) 4), 0) from by unfold implA; rw [if_neg (by simpa using hte)]; rfl, hui] at hI
  have hfew := few_primes (BitVec.ofNat 64 m)
  have hcov : ∀ u, u < 16 → ((primesN (BitVec.ofNat 64 m) 4).any fun p => decide (u &&& p.1 = p.2)) = m.testBit u := fun u hu => by rw [covers (by omega) (show u < 2 ^ 4 by omega), hbit u hu]
  have hnd := primesN_nodup (BitVec.ofNat 64 m) 4
  have hpr : ∀ p ∈ primesN (BitVec.ofNat 64 m) 4, primeB (BitVec.ofNat 64 m) 4 p = true := fun p hp => primesN_mem.1 hp
  generalize primesN (BitVec.ofNat 64 m) 4 = l at hI hfew hcov hnd hpr
  have hlt : ∀ k, k < l.length → (l.getD k (0, 0)).1 < 16 ∧ (l.getD k (0, 0)).2 < 16 := fun k hk => by
    obtain ⟨c1, c2, _⟩ := cube_iff.1 (prime_iff.1 (hpr _ (getD_memP hk))).1
    have := sub_le c2
    have h16 : (l.getD k (0, 0)).1 < 2 ^ 4 := c1
    omega
  have hap : ∀ i k, i < l.length → k < l.length → i ≠ k → (l.getD k (0, 0)).1 &&& (l.getD i (0, 0)).1 = (l.getD k (0, 0)).1 → (l.getD i (0, 0)).2 &&& (l.getD k (0, 0)).1 ≠ (l.getD k (0, 0)).2 := fun i k hi hk hne h1 h2 =>
    hne (getD_injP hnd hi hk (apart (by omega) (hpr _ (getD_memP hi)) (hpr _ (getD_memP hk)) h1 h2))
  have hneed : ∀ i b, i < l.length → b < 4 → (l.getD i (0, 0)).1.testBit b = true → outS m (l.getD i (0, 0)) b 16 = true := fun i b hi hb h => by
    obtain ⟨u, u1, u2, u3⟩ := needed (hpr _ (getD_memP hi)) (show b < 6 by omega) h
    rw [hbit u u1] at u3
    unfold outS
    exact List.any_eq_true.2 ⟨u, List.mem_range.2 u1, by rw [decide_eq_true u2, u3]; rfl⟩
  have hG := fun k h => prN_get l (k := k) h
  have hL : (prR (pairI l)).length = l.length := by rw [prR_len, pairI_len]
  rw [show (pairI l, (0 : Int)).1 = pairI l from rfl, show (pairI l, (0 : Int)).2 = 0 from rfl] at hI
  generalize prR (pairI l) = L at hI hG hL
  have h100 : ¬ (100 : Int) < (l.length : Int) := by omega
  refine CallT.go_fn mixed Tryd.func7 k7 (by simp) fun hf => ?_
  simp only [Int.reduceToNat, Int.reduceLT, Int.reduceLE, Int.reduceBEq, Int.reduceBNe, St0, argFr, ↓callZ, ↓midZ, ↓unZ, ↓thenW, ↓blockW, ↓opX, ↓opV, ↓pX, ↓pW, ↓putK, ↓putP, ↓atK, ↓normK, ↓postZ, ↓reduceIte, reduceIte, Nat.reduceEqDiff, Nat.reduceAdd, Nat.reduceBEq, Nat.reduceLT, Nat.reduceLeDiff, binW, bodyQ, ressW, resW, ne_eq, forall_const, reduceCtorEq, implies_true, sets, oneAll, setD, rels, fillE, fillD, List.replicate, rowsOf, forall_eq, Nat.reduceMul, ↓zD, zT, convN (show m ≤ 1000000 by omega)]
  refine .go (CallT.of_runs hI (by simp [D.isPureL, D.isPure])) ?_
  simp only [Int.reduceToNat, Int.reduceLT, Int.reduceLE, Int.reduceBEq, Int.reduceBNe, St0, argFr, ↓callZ, ↓midZ, ↓unZ, ↓thenW, ↓blockW, ↓opX, ↓opV, ↓pX, ↓pW, ↓putK, ↓putP, ↓atK, ↓normK, ↓postZ, ↓reduceIte, reduceIte, Nat.reduceEqDiff, Nat.reduceAdd, Nat.reduceBEq, Nat.reduceLT, Nat.reduceLeDiff, binW, bodyQ, ressW, resW, ne_eq, forall_const, reduceCtorEq, implies_true, sets, oneAll, setD, rels, fillE, fillD, List.replicate, rowsOf, forall_eq, Nat.reduceMul, ↓zD, zT, hL, h100]
  refine wpS_loop (fun v : Nat => [(5, .int .i64 v), (3, .sl 2 L), (0, .int .u16 m)]) (fun _ => ⟨0, []⟩) (fun v => v ≤ 16) (fun v => 16 - v) 0 (Nat.zero_le _) ?_ ?_
  · (refine Weak.same ?_; simp [sameF, Fr.get])
  intro v hv
  refine wpS_go mixed ?_
  by_cases hv16 : v < 16
  · have hd : ((v : Int) < 16) := by omega
    simp only [Int.reduceToNat, Int.reduceLT, Int.reduceLE, Int.reduceBEq, Int.reduceBNe, St0, argFr, ↓callZ, ↓midZ, ↓unZ, ↓thenW, ↓blockW, ↓opX, ↓opV, ↓pX, ↓pW, ↓putK, ↓putP, ↓atK, ↓normK, ↓postZ, ↓reduceIte, reduceIte, Nat.reduceEqDiff, Nat.reduceAdd, Nat.reduceBEq, Nat.reduceLT, Nat.reduceLeDiff, binW, bodyQ, ressW, resW, ne_eq, forall_const, reduceCtorEq, implies_true, sets, oneAll, setD, rels, fillE, fillD, List.replicate, rowsOf, forall_eq, Nat.reduceMul, ↓zD, zT, hd]
    refine wpS_loop (fun k : Nat => [(7, .int .i64 k), (6, .bool ((l.take k).any fun p => decide (v &&& p.1 = p.2))), (5, .int .i64 v), (3, .sl 2 L), (0, .int .u16 m)]) (fun _ => ⟨0, []⟩) (fun k => k ≤ l.length) (fun k => l.length - k) 0 (Nat.zero_le _) ?_ ?_
    · (refine Weak.same ?_; simp [sameF, Fr.get])
    intro k hk
    refine wpS_go mixed ?_
    by_cases hkl : k < l.length
    case neg =>
      have hd2 : ¬ ((k : Int) < (l.length : Int)) := by omega
      rw [show k = l.length by omega] at hd2 ⊢
      rw [List.take_length, hcov v hv16]
      cases hb : m.testBit v <;>
      (simp only [Int.reduceToNat, Int.reduceLT, Int.reduceLE, Int.reduceBEq, Int.reduceBNe, St0, argFr, ↓callZ, ↓midZ, ↓unZ, ↓thenW, ↓blockW, ↓opX, ↓opV, ↓pX, ↓pW, ↓putK, ↓putP, ↓atK, ↓normK, ↓postZ, ↓reduceIte, reduceIte, Nat.reduceEqDiff, Nat.reduceAdd, Nat.reduceBEq, Nat.reduceLT, Nat.reduceLeDiff, binW, bodyQ, ressW, resW, ne_eq, forall_const, reduceCtorEq, implies_true, sets, oneAll, setD, rels, fillE, fillD, List.replicate, rowsOf, forall_eq, Nat.reduceMul, ↓zD, zT, hd2, hL, convN (show v ≤ 1000000 by omega), shrNat16 m v (by omega), and1Nat16 (Nat.lt_of_le_of_lt (Nat.div_le_self m (2 ^ v)) hm), bitNat, hb]
       (repeat refine And.intro (by first | omega | exact ui_nonneg _ | exact Int.natCast_nonneg _ | rfl | exact rows_one' _ _ | exact us_one _ | (intro _ h; cases h; done)) ?_)
       refine ⟨v + 1, by omega, ?_, by omega⟩
       (refine Weak.same ?_; simp only [sameF, Fr.get, ↓reduceIte, reduceIte, Nat.reduceEqDiff, reduceCtorEq, D.int.injEq, D.bool.injEq, D.sl.injEq, and_true, true_and, and_self])
       exact wrap_i64 (by omega))
    have hd2 : ((k : Int) < (l.length : Int)) := by omega
    have hg := hG k hkl
    have hb := hlt k hkl
    have hS : ((l.take (k + 1)).any fun p => decide (v &&& p.1 = p.2)) = (((l.take k).any fun p => decide (v &&& p.1 = p.2)) || decide (v &&& (l.getD k (0, 0)).1 = (l.getD k (0, 0)).2)) := by
      rw [take_snoc (d := (0, 0)) hkl, List.any_append]; simp
    generalize l.getD k (0, 0) = p at hg hb hS
    have hand := andNat v (by omega) p.1 (by omega)
    cases hc : (l.take k).any fun p => decide (v &&& p.1 = p.2)
    · rw [hc, Bool.false_or] at hS
      simp only [Int.reduceToNat, Int.reduceLT, Int.reduceLE, Int.reduceBEq, Int.reduceBNe, St0, argFr, ↓callZ, ↓midZ, ↓unZ, ↓thenW, ↓blockW, ↓opX, ↓opV, ↓pX, ↓pW, ↓putK, ↓putP, ↓atK, ↓normK, ↓postZ, ↓reduceIte, reduceIte, Nat.reduceEqDiff, Nat.reduceAdd, Nat.reduceBEq, Nat.reduceLT, Nat.reduceLeDiff, binW, bodyQ, ressW, resW, ne_eq, forall_const, reduceCtorEq, implies_true, sets, oneAll, setD, rels, fillE, fillD, List.replicate, rowsOf, forall_eq, Nat.reduceMul, ↓zD, zT, hd2, hL, hg, hand, natBeq]
      (repeat refine And.intro (by first | omega | exact ui_nonneg _ | exact Int.natCast_nonneg _ | rfl | exact rows_one' _ _ | exact us_one _ | (intro _ h; cases h; done)) ?_)
      refine ⟨k + 1, by omega, ?_, by omega⟩
      rw [hS]
      (refine Weak.same ?_; simp only [sameF, Fr.get, ↓reduceIte, reduceIte, Nat.reduceEqDiff, reduceCtorEq, D.int.injEq, D.bool.injEq, D.sl.injEq, and_true, true_and, and_self])
      exact wrap_i64 (by omega)
    · rw [hc, Bool.true_or] at hS
      simp only [Int.reduceToNat, Int.reduceLT, Int.reduceLE, Int.reduceBEq, Int.reduceBNe, St0, argFr, ↓callZ, ↓midZ, ↓unZ, ↓thenW, ↓blockW, ↓opX, ↓opV, ↓pX, ↓pW, ↓putK, ↓putP, ↓atK, ↓normK, ↓postZ, ↓reduceIte, reduceIte, Nat.reduceEqDiff, Nat.reduceAdd, Nat.reduceBEq, Nat.reduceLT, Nat.reduceLeDiff, binW, bodyQ, ressW, resW, ne_eq, forall_const, reduceCtorEq, implies_true, sets, oneAll, setD, rels, fillE, fillD, List.replicate, rowsOf, forall_eq, Nat.reduceMul, ↓zD, zT, hd2, hL]
      (repeat refine And.intro (by first | omega | exact ui_nonneg _ | exact Int.natCast_nonneg _ | rfl | exact rows_one' _ _ | exact us_one _ | (intro _ h; cases h; done)) ?_)
      refine ⟨k + 1, by omega, ?_, by omega⟩
      rw [hS]
      (refine Weak.same ?_; simp only [sameF, Fr.get, ↓reduceIte, reduceIte, Nat.reduceEqDiff, reduceCtorEq, D.int.injEq, D.bool.injEq, D.sl.injEq, and_true, true_and, and_self])
      exact wrap_i64 (by omega)
  have hd : ¬ ((v : Int) < 16) := by omega
  simp only [Int.reduceToNat, Int.reduceLT, Int.reduceLE, Int.reduceBEq, Int.reduceBNe, St0, argFr, ↓callZ, ↓midZ, ↓unZ, ↓thenW, ↓blockW, ↓opX, ↓opV, ↓pX, ↓pW, ↓putK, ↓putP, ↓atK, ↓normK, ↓postZ, ↓reduceIte, reduceIte, Nat.reduceEqDiff, Nat.reduceAdd, Nat.reduceBEq, Nat.reduceLT, Nat.reduceLeDiff, binW, bodyQ, ressW, resW, ne_eq, forall_const, reduceCtorEq, implies_true, sets, oneAll, setD, rels, fillE, fillD, List.replicate, rowsOf, forall_eq, Nat.reduceMul, ↓zD, zT, hd]
  refine wpS_loop (fun i : Nat => [(8, .int .i64 i), (3, .sl 2 L), (0, .int .u16 m)]) (fun _ => ⟨0, []⟩) (fun i => i ≤ l.length) (fun i => l.length - i) 0 (Nat.zero_le _) ?_ ?_
  · (refine Weak.same ?_; simp [sameF, Fr.get])
  intro i hi
  refine wpS_go mixed ?_
  by_cases hil : i < l.length
  case neg =>
    have hd2 : ¬ ((i : Int) < (l.length : Int)) := by omega
    simp only [Int.reduceToNat, Int.reduceLT, Int.reduceLE, Int.reduceBEq, Int.reduceBNe, St0, argFr, ↓callZ, ↓midZ, ↓unZ, ↓thenW, ↓blockW, ↓opX, ↓opV, ↓pX, ↓pW, ↓putK, ↓putP, ↓atK, ↓normK, ↓postZ, ↓reduceIte, reduceIte, Nat.reduceEqDiff, Nat.reduceAdd, Nat.reduceBEq, Nat.reduceLT, Nat.reduceLeDiff, binW, bodyQ, ressW, resW, ne_eq, forall_const, reduceCtorEq, implies_true, sets, oneAll, setD, rels, fillE, fillD, List.replicate, rowsOf, forall_eq, Nat.reduceMul, ↓zD, zT, hd2, hL]
    refine .go awakeT ?_
    simp only [Int.reduceToNat, Int.reduceLT, Int.reduceLE, Int.reduceBEq, Int.reduceBNe, St0, argFr, ↓callZ, ↓midZ, ↓unZ, ↓thenW, ↓blockW, ↓opX, ↓opV, ↓pX, ↓pW, ↓putK, ↓putP, ↓atK, ↓normK, ↓postZ, ↓reduceIte, reduceIte, Nat.reduceEqDiff, Nat.reduceAdd, Nat.reduceBEq, Nat.reduceLT, Nat.reduceLeDiff, binW, bodyQ, ressW, resW, ne_eq, forall_const, reduceCtorEq, implies_true, sets, oneAll, setD, rels, fillE, fillD, List.replicate, rowsOf, forall_eq, Nat.reduceMul, ↓zD, zT]
    exact .same
  have hd2 : ((i : Int) < (l.length : Int)) := by omega
  have hgi := hG i hil
  have hbi := hlt i hil
  have hapi := fun k hk => hap i k hil hk
  have hni := fun b hb => hneed i b hil hb
  generalize l.getD i (0, 0) = p at hgi hbi hapi hni
  simp only [Int.reduceToNat, Int.reduceLT, Int.reduceLE, Int.reduceBEq, Int.reduceBNe, St0, argFr, ↓callZ, ↓midZ, ↓unZ, ↓thenW, ↓blockW, ↓opX, ↓opV, ↓pX, ↓pW, ↓putK, ↓putP, ↓atK, ↓normK, ↓postZ, ↓reduceIte, reduceIte, Nat.reduceEqDiff, Nat.reduceAdd, Nat.reduceBEq, Nat.reduceLT, Nat.reduceLeDiff, binW, bodyQ, ressW, resW, ne_eq, forall_const, reduceCtorEq, implies_true, sets, oneAll, setD, rels, fillE, fillD, List.replicate, rowsOf, forall_eq, Nat.reduceMul, ↓zD, zT, hd2, hL]
  refine wpS_loop (fun k : Nat => [(9, .int .i64 k), (8, .int .i64 i), (3, .sl 2 L), (0, .int .u16 m)]) (fun _ => ⟨0, []⟩) (fun k => k ≤ l.length) (fun k => l.length - k) 0 (Nat.zero_le _) ?_ ?_
  · (refine Weak.same ?_; simp [sameF, Fr.get])
  intro k hk
  refine wpS_go mixed ?_
  by_cases hkl : k < l.length
  · have hd3 : ((k : Int) < (l.length : Int)) := by omega
    by_cases hik : i = k
    · have e1 : ((i : Int) != (k : Int)) = false := by rw [hik]; simp
      simp only [Int.reduceToNat, Int.reduceLT, Int.reduceLE, Int.reduceBEq, Int.reduceBNe, St0, argFr, ↓callZ, ↓midZ, ↓unZ, ↓thenW, ↓blockW, ↓opX, ↓opV, ↓pX, ↓pW, ↓putK, ↓putP, ↓atK, ↓normK, ↓postZ, ↓reduceIte, reduceIte, Nat.reduceEqDiff, Nat.reduceAdd, Nat.reduceBEq, Nat.reduceLT, Nat.reduceLeDiff, binW, bodyQ, ressW, resW, ne_eq, forall_const, reduceCtorEq, implies_true, sets, oneAll, setD, rels, fillE, fillD, List.replicate, rowsOf, forall_eq, Nat.reduceMul, ↓zD, zT, hd3, hL, e1]
      (repeat refine And.intro (by first | omega | exact ui_nonneg _ | exact Int.natCast_nonneg _ | rfl | exact rows_one' _ _ | exact us_one _ | (intro _ h; cases h; done)) ?_)
      refine ⟨k + 1, by omega, ?_, by omega⟩
      (refine Weak.same ?_; simp only [sameF, Fr.get, ↓reduceIte, reduceIte, Nat.reduceEqDiff, reduceCtorEq, D.int.injEq, D.bool.injEq, D.sl.injEq, and_true, true_and, and_self])
      exact wrap_i64 (by omega)
    have e1 : ((i : Int) != (k : Int)) = true := by rw [bne_iff_ne]; omega
    have hgk := hG k hkl
    have hbk := hlt k hkl
    have hak := hapi k hkl hik
    generalize l.getD k (0, 0) = q at hgk hbk hak
    have ha1 := andNotAll q.1 (by omega) p.1 (by omega)
    have ha2 := andNat p.2 (by omega) q.1 (by omega)
    by_cases h1 : q.1 &&& p.1 = q.1
    · have e2 : (((q.1 ^^^ (q.1 &&& p.1) : Nat) : Int) == 0) = true := by rw [xor_and_zero.2 h1]; rfl
      have e3 : decide (p.2 &&& q.1 = q.2) = false := decide_eq_false (hak h1)
      simp only [Int.reduceToNat, Int.reduceLT, Int.reduceLE, Int.reduceBEq, Int.reduceBNe, St0, argFr, ↓callZ, ↓midZ, ↓unZ, ↓thenW, ↓blockW, ↓opX, ↓opV, ↓pX, ↓pW, ↓putK, ↓putP, ↓atK, ↓normK, ↓postZ, ↓reduceIte, reduceIte, Nat.reduceEqDiff, Nat.reduceAdd, Nat.reduceBEq, Nat.reduceLT, Nat.reduceLeDiff, binW, bodyQ, ressW, resW, ne_eq, forall_const, reduceCtorEq, implies_true, sets, oneAll, setD, rels, fillE, fillD, List.replicate, rowsOf, forall_eq, Nat.reduceMul, ↓zD, zT, hd3, hL, hgi, hgk, hd2, e1, ha1, e2, ha2, natBeq, e3]
      (repeat refine And.intro (by first | omega | exact ui_nonneg _ | exact Int.natCast_nonneg _ | rfl | exact rows_one' _ _ | exact us_one _ | (intro _ h; cases h; done)) ?_)
      refine ⟨k + 1, by omega, ?_, by omega⟩
      (refine Weak.same ?_; simp only [sameF, Fr.get, ↓reduceIte, reduceIte, Nat.reduceEqDiff, reduceCtorEq, D.int.injEq, D.bool.injEq, D.sl.injEq, and_true, true_and, and_self])
      exact wrap_i64 (by omega)
    · have e2 : (((q.1 ^^^ (q.1 &&& p.1) : Nat) : Int) == 0) = false := by
        rw [beq_eq_false_iff_ne]
        intro h
        exact h1 (xor_and_zero.1 (by omega))
      simp only [Int.reduceToNat, Int.reduceLT, Int.reduceLE, Int.reduceBEq, Int.reduceBNe, St0, argFr, ↓callZ, ↓midZ, ↓unZ, ↓thenW, ↓blockW, ↓opX, ↓opV, ↓pX, ↓pW, ↓putK, ↓putP, ↓atK, ↓normK, ↓postZ, ↓reduceIte, reduceIte, Nat.reduceEqDiff, Nat.reduceAdd, Nat.reduceBEq, Nat.reduceLT, Nat.reduceLeDiff, binW, bodyQ, ressW, resW, ne_eq, forall_const, reduceCtorEq, implies_true, sets, oneAll, setD, rels, fillE, fillD, List.replicate, rowsOf, forall_eq, Nat.reduceMul, ↓zD, zT, hd3, hL, hgi, hgk, hd2, e1, ha1, e2]
      (repeat refine And.intro (by first | omega | exact ui_nonneg _ | exact Int.natCast_nonneg _ | rfl | exact rows_one' _ _ | exact us_one _ | (intro _ h; cases h; done)) ?_)
      refine ⟨k + 1, by omega, ?_, by omega⟩
      (refine Weak.same ?_; simp only [sameF, Fr.get, ↓reduceIte, reduceIte, Nat.reduceEqDiff, reduceCtorEq, D.int.injEq, D.bool.injEq, D.sl.injEq, and_true, true_and, and_self])
      exact wrap_i64 (by omega)
  have hd3 : ¬ ((k : Int) < (l.length : Int)) := by omega
  simp only [Int.reduceToNat, Int.reduceLT, Int.reduceLE, Int.reduceBEq, Int.reduceBNe, St0, argFr, ↓callZ, ↓midZ, ↓unZ, ↓thenW, ↓blockW, ↓opX, ↓opV, ↓pX, ↓pW, ↓putK, ↓putP, ↓atK, ↓normK, ↓postZ, ↓reduceIte, reduceIte, Nat.reduceEqDiff, Nat.reduceAdd, Nat.reduceBEq, Nat.reduceLT, Nat.reduceLeDiff, binW, bodyQ, ressW, resW, ne_eq, forall_const, reduceCtorEq, implies_true, sets, oneAll, setD, rels, fillE, fillD, List.replicate, rowsOf, forall_eq, Nat.reduceMul, ↓zD, zT, hd3, hL]
  refine wpS_loop (fun b : Nat => [(10, .int .i64 (2 ^ b : Nat)), (8, .int .i64 i), (3, .sl 2 L), (0, .int .u16 m)]) (fun _ => ⟨0, []⟩) (fun b => b ≤ 4) (fun b => 4 - b) 0 (Nat.zero_le _) ?_ ?_
  · (refine Weak.same ?_; simp [sameF, Fr.get])
  intro b hb
  refine wpS_go mixed ?_
  by_cases hb4 : b < 4
  case neg =>
    obtain rfl : b = 4 := by omega
    have hd4 : ¬ (((2 ^ 4 : Nat) : Int) < 16) := by decide
    simp only [Int.reduceToNat, Int.reduceLT, Int.reduceLE, Int.reduceBEq, Int.reduceBNe, St0, argFr, ↓callZ, ↓midZ, ↓unZ, ↓thenW, ↓blockW, ↓opX, ↓opV, ↓pX, ↓pW, ↓putK, ↓putP, ↓atK, ↓normK, ↓postZ, ↓reduceIte, reduceIte, Nat.reduceEqDiff, Nat.reduceAdd, Nat.reduceBEq, Nat.reduceLT, Nat.reduceLeDiff, binW, bodyQ, ressW, resW, ne_eq, forall_const, reduceCtorEq, implies_true, sets, oneAll, setD, rels, fillE, fillD, List.replicate, rowsOf, forall_eq, Nat.reduceMul, ↓zD, zT, hd4]
    refine ⟨i + 1, by omega, ?_, by omega⟩
    (refine Weak.same ?_; simp only [sameF, Fr.get, ↓reduceIte, reduceIte, Nat.reduceEqDiff, reduceCtorEq, D.int.injEq, D.bool.injEq, D.sl.injEq, and_true, true_and, and_self])
    exact wrap_i64 (by omega)
  have h2b : 2 ^ b ≤ 2 ^ 3 := Nat.pow_le_pow_right (by decide) (by omega)
  have hd4 : (((2 ^ b : Nat) : Int) < 16) := by omega
  have hwb : IntKind.i64.wrap (((2 ^ b : Nat) : Int) * 2) = ((2 ^ (b + 1) : Nat) : Int) := by rw [Nat.pow_succ]; generalize 2 ^ b = w at h2b ⊢; rw [wrap_i64 (by omega)]; omega
  simp only [Int.reduceToNat, Int.reduceLT, Int.reduceLE, Int.reduceBEq, Int.reduceBNe, St0, argFr, ↓callZ, ↓midZ, ↓unZ, ↓thenW, ↓blockW, ↓opX, ↓opV, ↓pX, ↓pW, ↓putK, ↓putP, ↓atK, ↓normK, ↓postZ, ↓reduceIte, reduceIte, Nat.reduceEqDiff, Nat.reduceAdd, Nat.reduceBEq, Nat.reduceLT, Nat.reduceLeDiff, binW, bodyQ, ressW, resW, ne_eq, forall_const, reduceCtorEq, implies_true, sets, oneAll, setD, rels, fillE, fillD, List.replicate, rowsOf, forall_eq, Nat.reduceMul, ↓zD, zT, hd4]
  refine wpS_loop (fun v : Nat => [(12, .int .i64 v), (11, .bool (outS m p b v)), (10, .int .i64 (2 ^ b : Nat)), (8, .int .i64 i), (3, .sl 2 L), (0, .int .u16 m)]) (fun _ => ⟨0, []⟩) (fun v => v ≤ 16) (fun v => 16 - v) 0 (Nat.zero_le _) ?_ ?_
  · (refine Weak.same ?_; simp [sameF, Fr.get, outS])
  intro u hu
  refine wpS_go mixed ?_
  have hap1 := andNat p.1 (by omega) (2 ^ b) (by omega)
  by_cases hu16 : u < 16
  case neg =>
    obtain rfl : u = 16 := by omega
    have hd5 : ¬ (((16 : Nat) : Int) < 16) := by decide
    cases hpb : p.1.testBit b
    · have e1 : (((p.1 &&& 2 ^ b : Nat) : Int) != 0) = false := by rw [and_pow, hpb]; rfl
      simp only [Int.reduceToNat, Int.reduceLT, Int.reduceLE, Int.reduceBEq, Int.reduceBNe, St0, argFr, ↓callZ, ↓midZ, ↓unZ, ↓thenW, ↓blockW, ↓opX, ↓opV, ↓pX, ↓pW, ↓putK, ↓putP, ↓atK, ↓normK, ↓postZ, ↓reduceIte, reduceIte, Nat.reduceEqDiff, Nat.reduceAdd, Nat.reduceBEq, Nat.reduceLT, Nat.reduceLeDiff, binW, bodyQ, ressW, resW, ne_eq, forall_const, reduceCtorEq, implies_true, sets, oneAll, setD, rels, fillE, fillD, List.replicate, rowsOf, forall_eq, Nat.reduceMul, ↓zD, zT, hd5, hd2, hL, hgi, hap1, e1, hwb]
      (repeat refine And.intro (by first | omega | exact ui_nonneg _ | exact Int.natCast_nonneg _ | rfl | exact rows_one' _ _ | exact us_one _ | (intro _ h; cases h; done)) ?_)
      refine ⟨b + 1, by omega, ?_, by omega⟩
      (refine Weak.same ?_; simp only [sameF, Fr.get, ↓reduceIte, reduceIte, Nat.reduceEqDiff, reduceCtorEq, D.int.injEq, D.bool.injEq, D.sl.injEq, and_true, true_and, and_self])
      all_goals skip
    · have e1 : (((p.1 &&& 2 ^ b : Nat) : Int) != 0) = true := by
        rw [and_pow, hpb, if_pos rfl, bne_iff_ne]
        have := Nat.two_pow_pos b
        omega
      rw [hni b hb4 hpb]
      simp only [Int.reduceToNat, Int.reduceLT, Int.reduceLE, Int.reduceBEq, Int.reduceBNe, St0, argFr, ↓callZ, ↓midZ, ↓unZ, ↓thenW, ↓blockW, ↓opX, ↓opV, ↓pX, ↓pW, ↓putK, ↓putP, ↓atK, ↓normK, ↓postZ, ↓reduceIte, reduceIte, Nat.reduceEqDiff, Nat.reduceAdd, Nat.reduceBEq, Nat.reduceLT, Nat.reduceLeDiff, binW, bodyQ, ressW, resW, ne_eq, forall_const, reduceCtorEq, implies_true, sets, oneAll, setD, rels, fillE, fillD, List.replicate, rowsOf, forall_eq, Nat.reduceMul, ↓zD, zT, hd5, hd2, hL, hgi, hap1, e1, hwb]
      (repeat refine And.intro (by first | omega | exact ui_nonneg _ | exact Int.natCast_nonneg _ | rfl | exact rows_one' _ _ | exact us_one _ | (intro _ h; cases h; done)) ?_)
      refine ⟨b + 1, by omega, ?_, by omega⟩
      (refine Weak.same ?_; simp only [sameF, Fr.get, ↓reduceIte, reduceIte, Nat.reduceEqDiff, reduceCtorEq, D.int.injEq, D.bool.injEq, D.sl.injEq, and_true, true_and, and_self])
      all_goals skip
  have hd5 : ((u : Int) < 16) := by omega
  have hS := outS_succ m p b u
  have hc1 : clr p.1 b < 16 := clr_lt (n := 4) hbi.1
  have hn1 : bitI .andNot .i64 (p.1 : Int) ((2 ^ b : Nat) : Int) = (clr p.1 b : Int) := andNotAll p.1 (by omega) (2 ^ b) (by omega)
  have hn2 : bitI .andNot .i64 (p.2 : Int) ((2 ^ b : Nat) : Int) = (clr p.2 b : Int) := andNotAll p.2 (by omega) (2 ^ b) (by omega)
  have hau := andNat u (by omega) (clr p.1 b) (by omega)
  cases ho : outS m p b u
  · rw [ho, Bool.false_or] at hS
    by_cases he : u &&& clr p.1 b = clr p.2 b
    · rw [decide_eq_true he, Bool.true_and] at hS
      have e3 : decide (u &&& clr p.1 b = clr p.2 b) = true := decide_eq_true he
      simp only [Int.reduceToNat, Int.reduceLT, Int.reduceLE, Int.reduceBEq, Int.reduceBNe, St0, argFr, ↓callZ, ↓midZ, ↓unZ, ↓thenW, ↓blockW, ↓opX, ↓opV, ↓pX, ↓pW, ↓putK, ↓putP, ↓atK, ↓normK, ↓postZ, ↓reduceIte, reduceIte, Nat.reduceEqDiff, Nat.reduceAdd, Nat.reduceBEq, Nat.reduceLT, Nat.reduceLeDiff, binW, bodyQ, ressW, resW, ne_eq, forall_const, reduceCtorEq, implies_true, sets, oneAll, setD, rels, fillE, fillD, List.replicate, rowsOf, forall_eq, Nat.reduceMul, ↓zD, zT, hd5, hd2, hL, hgi, hn1, hn2, hau, natBeq, e3, convN (show u ≤ 1000000 by omega), shrNat16 m u (by omega), and1Nat16 (Nat.lt_of_le_of_lt (Nat.div_le_self m (2 ^ u)) hm), bitNat0]
      (repeat refine And.intro (by first | omega | exact ui_nonneg _ | exact Int.natCast_nonneg _ | rfl | exact rows_one' _ _ | exact us_one _ | (intro _ h; cases h; done)) ?_)
      refine ⟨u + 1, by omega, ?_, by omega⟩
      rw [hS]
      (refine Weak.same ?_; simp only [sameF, Fr.get, ↓reduceIte, reduceIte, Nat.reduceEqDiff, reduceCtorEq, D.int.injEq, D.bool.injEq, D.sl.injEq, and_true, true_and, and_self])
      exact wrap_i64 (by omega)
    · rw [decide_eq_false he, Bool.false_and] at hS
      have e3 : decide (u &&& clr p.1 b = clr p.2 b) = false := decide_eq_false he
      simp only [Int.reduceToNat, Int.reduceLT, Int.reduceLE, Int.reduceBEq, Int.reduceBNe, St0, argFr, ↓callZ, ↓midZ, ↓unZ, ↓thenW, ↓blockW, ↓opX, ↓opV, ↓pX, ↓pW, ↓putK, ↓putP, ↓atK, ↓normK, ↓postZ, ↓reduceIte, reduceIte, Nat.reduceEqDiff, Nat.reduceAdd, Nat.reduceBEq, Nat.reduceLT, Nat.reduceLeDiff, binW, bodyQ, ressW, resW, ne_eq, forall_const, reduceCtorEq, implies_true, sets, oneAll, setD, rels, fillE, fillD, List.replicate, rowsOf, forall_eq, Nat.reduceMul, ↓zD, zT, hd5, hd2, hL, hgi, hn1, hn2, hau, natBeq, e3]
      (repeat refine And.intro (by first | omega | exact ui_nonneg _ | exact Int.natCast_nonneg _ | rfl | exact rows_one' _ _ | exact us_one _ | (intro _ h; cases h; done)) ?_)
      refine ⟨u + 1, by omega, ?_, by omega⟩
      rw [hS]
      (refine Weak.same ?_; simp only [sameF, Fr.get, ↓reduceIte, reduceIte, Nat.reduceEqDiff, reduceCtorEq, D.int.injEq, D.bool.injEq, D.sl.injEq, and_true, true_and, and_self])
      exact wrap_i64 (by omega)
  · rw [ho, Bool.true_or] at hS
    simp only [Int.reduceToNat, Int.reduceLT, Int.reduceLE, Int.reduceBEq, Int.reduceBNe, St0, argFr, ↓callZ, ↓midZ, ↓unZ, ↓thenW, ↓blockW, ↓opX, ↓opV, ↓pX, ↓pW, ↓putK, ↓putP, ↓atK, ↓normK, ↓postZ, ↓reduceIte, reduceIte, Nat.reduceEqDiff, Nat.reduceAdd, Nat.reduceBEq, Nat.reduceLT, Nat.reduceLeDiff, binW, bodyQ, ressW, resW, ne_eq, forall_const, reduceCtorEq, implies_true, sets, oneAll, setD, rels, fillE, fillD, List.replicate, rowsOf, forall_eq, Nat.reduceMul, ↓zD, zT, hd5, hd2]
    (repeat refine And.intro (by first | omega | exact ui_nonneg _ | exact Int.natCast_nonneg _ | rfl | exact rows_one' _ _ | exact us_one _ | (intro _ h; cases h; done)) ?_)
    refine ⟨u + 1, by omega, ?_, by omega⟩
    rw [hS]
    (refine Weak.same ?_; simp only [sameF, Fr.get, ↓reduceIte, reduceIte, Nat.reduceEqDiff, reduceCtorEq, D.int.injEq, D.bool.injEq, D.sl.injEq, and_true, true_and, and_self])
    exact wrap_i64 (by omega)
end Go.Pd
