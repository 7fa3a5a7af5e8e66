/- Resolution: the law Sound. -/
import Derived.Test.YtigkaakdjibakaaE3
set_option linter.unusedSectionVars false
set_option linter.unusedVariables false
set_option linter.unusedSimpArgs false
set_option linter.defProp false
set_option maxRecDepth 20000
namespace Go.Pd
open Go Go.Proofs
open Rs
namespace Rs
theorem resolve_zero {a b c : List Int} {on : Int} (h : resolveA a b on = (c, 0)) : normE 12 (-1) a = 0 ∧ normE 12 (-1) b = 0 ∧ 0 ≤ on ∧ on < 12 ∧ on + 1 ∈ a ∧ -on - 1 ∈ b ∧ bothTo (mergeR a b on) 12 = false ∧ c = canon (mergeR a b on) := by
  unfold resolveA at h
  by_cases h1 : normE 12 (-1) a ≠ 0 ∨ normE 12 (-1) b ≠ 0
  · rw [if_pos h1] at h; cases h
  rw [if_neg h1] at h
  by_cases h2 : on < 0 ∨ 12 ≤ on ∨ on + 1 ∉ a ∨ -on - 1 ∉ b
  · rw [if_pos h2] at h; cases h
  rw [if_neg h2] at h
  by_cases h3 : (collectA (mergeR a b on)).2 = true
  · rw [if_pos h3] at h; cases h
  rw [if_neg h3] at h
  have hb : bothTo (mergeR a b on) 12 = false := by
    cases hb : bothTo (mergeR a b on) 12
    · rfl
    · exact absurd (by unfold collectA; rw [if_pos hb]) h3
  have hc : (collectA (mergeR a b on)).1 = canon (mergeR a b on) := by unfold collectA; rw [if_neg (by rw [hb]; simp)]
  rw [hc] at h
  simp only [not_or, Decidable.not_not, Prod.mk.injEq, and_true] at h1 h2 h
  exact ⟨h1.1, h1.2, by omega, by omega, h2.2.2.1, h2.2.2.2, hb, h.symm⟩
theorem resolve_sound {a b c : List Int} {on : Int} {v : Nat} (h : resolveA a b on = (c, 0)) (ha : satC v a = true) (hb : satC v b = true) : satC v c = true := by
  obtain ⟨n1, n2, o1, o2, i1, i2, hbt, rfl⟩ := resolve_zero h
  simp only [satC, List.any_eq_true] at ha hb ⊢
  obtain ⟨y, hy, my⟩ := ha
  obtain ⟨z, hz, mz⟩ := hb
  have ly := ((normE_zero.1 n1).1 y hy).1
  have lz := ((normE_zero.1 n2).1 z hz).1
  by_cases ey : y = on + 1
  · by_cases ez : z = -on - 1
    · have := mkB_neg (v := v) (x := on + 1) (by omega)
      rw [show -(on + 1) = z by omega, mz, ← ey, my] at this
      cases this
    · exact ⟨z, mem_canon lz (List.mem_append.2 (.inr (delL_mem.2 ⟨hz, ez⟩))), mz⟩
  · exact ⟨y, mem_canon ly (List.mem_append.2 (.inl (delL_mem.2 ⟨hy, ey⟩))), my⟩
theorem verify_zero {n : Int} {l : List (List Int)} {ls : List Ln} (h : verifyA n l ls = 0) : checkC n l = 0 ∧ formedFrom l.length ls 0 = true ∧ ls.all (rightB l ls) = true ∧ ls ≠ [] ∧ (ls.getD (ls.length - 1) ln0).cl = [] := by
  unfold verifyA at h
  by_cases h1 : checkC n l ≠ 0
  · rw [if_pos h1] at h; exact absurd h h1
  rw [if_neg h1] at h
  by_cases h2 : formedFrom l.length ls 0 = false
  · rw [if_pos h2] at h; cases h
  rw [if_neg h2] at h
  by_cases h3 : ls.all (rightB l ls) = false
  · rw [if_pos h3] at h; cases h
  rw [if_neg h3] at h
  by_cases h4 : ls = [] ∨ (ls.getD (ls.length - 1) ln0).cl ≠ []
  · rw [if_pos h4] at h; cases h
  exact ⟨by omega, by simpa using h2, by simpa using h3, fun e => h4 (.inl e), Decidable.not_not.1 fun e => h4 (.inr e)⟩
theorem lines_sound {l : List (List Int)} {ls : List Ln} {v : Nat} (hf : formedFrom l.length ls 0 = true) (hr : ls.all (rightB l ls) = true) (hs : satL v l = true) : ∀ k, k < ls.length → satC v (ls.getD k ln0).cl = true := by
  intro k
  induction k using Nat.strongRecOn with
  | ind k ih =>
    intro hk
    have hfk := formedFrom_get hf k hk
    rw [Int.zero_add] at hfk
    have hrk := List.all_eq_true.1 hr _ (getD_mem (d := ln0) hk)
    generalize ls.getD k ln0 = p at hfk hrk
    unfold rightB at hrk
    by_cases h1 : p.lf = -1
    · rw [if_pos h1, decide_eq_true_eq] at hrk
      obtain ⟨i1, i2⟩ := formed_in hfk h1
      rw [hrk]
      exact List.all_eq_true.1 hs _ (getD_mem (by omega))
    · rw [if_neg h1, Bool.and_eq_true, decide_eq_true_eq, decide_eq_true_eq] at hrk
      obtain ⟨⟨i1, i2⟩, i3, i4⟩ := formed_re hfk h1
      have ha := ih p.lf.toNat (by omega) (by omega)
      have hb := ih p.rt.toNat (by omega) (by omega)
      rw [hrk.2]
      refine resolve_sound (a := (ls.getD p.lf.toNat ln0).cl) (b := (ls.getD p.rt.toNat ln0).cl) (on := p.on) ?_ ha hb
      rw [← hrk.1]
theorem verify_sound {n : Int} {l : List (List Int)} {ls : List Ln} (h : verifyA n l ls = 0) (v : Nat) : satL v l = false := by
  obtain ⟨h1, h2, h3, h4, h5⟩ := verify_zero h
  cases hs : satL v l
  · rfl
  · have := lines_sound h2 h3 hs (ls.length - 1) (by have := List.length_pos_iff.2 h4; omega)
    rw [h5] at this
    cases this
end Rs
theorem resolutionSound_runs (n : Int) (l : List (List Int)) (ls : List Ln) : Runs Try.prog 7 [.int .i64 n, .sl 1 (rl l), .sl 4 (lnR ls)] (.bool true) := by
  refine CallT.go_fn mixed Try.func7 k7 (by simp) fun hf => ?_
  simp only [Int.reduceToNat, Int.reduceLT, Int.reduceLE, Int.reduceBEq, Int.reduceBNe, St0, argFr, ↓thenW, ↓blockW, ↓opX, ↓opV, ↓pX, ↓pW, ↓putK, ↓putP, ↓atK, ↓normK, ↓postZ, ↓reduceIte, reduceIte, Nat.reduceEqDiff, Nat.reduceAdd, Nat.reduceBEq, Nat.reduceLT, Nat.reduceLeDiff, binW, bodyQ, ressW, resW, ne_eq, forall_const, reduceCtorEq, implies_true, sets, oneAll, setD, rels, fillE, fillD, List.replicate, rowsOf, forall_eq, Nat.reduceMul, ↓zD, zT]
  refine .go (CallT.of_runs (few18 n l) (by simp [D.isPureL, D.isPure])) ?_
  cases hfew : fewA n l
  · simp only [Int.reduceToNat, Int.reduceLT, Int.reduceLE, Int.reduceBEq, Int.reduceBNe, St0, argFr, ↓thenW, ↓blockW, ↓opX, ↓opV, ↓pX, ↓pW, ↓putK, ↓putP, ↓atK, ↓normK, ↓postZ, ↓reduceIte, reduceIte, Nat.reduceEqDiff, Nat.reduceAdd, Nat.reduceBEq, Nat.reduceLT, Nat.reduceLeDiff, binW, bodyQ, ressW, resW, ne_eq, forall_const, reduceCtorEq, implies_true, sets, oneAll, setD, rels, fillE, fillD, List.replicate, rowsOf, forall_eq, Nat.reduceMul, ↓zD, zT]
    refine .go awakeT ?_
    simp only [Int.reduceToNat, Int.reduceLT, Int.reduceLE, Int.reduceBEq, Int.reduceBNe, St0, argFr, ↓thenW, ↓blockW, ↓opX, ↓opV, ↓pX, ↓pW, ↓putK, ↓putP, ↓atK, ↓normK, ↓postZ, ↓reduceIte, reduceIte, Nat.reduceEqDiff, Nat.reduceAdd, Nat.reduceBEq, Nat.reduceLT, Nat.reduceLeDiff, binW, bodyQ, ressW, resW, ne_eq, forall_const, reduceCtorEq, implies_true, sets, oneAll, setD, rels, fillE, fillD, List.replicate, rowsOf, forall_eq, Nat.reduceMul, ↓zD, zT]
    exact .same
  obtain ⟨f1, f2, f3⟩ := fewA_true hfew
  by_cases h2 : (200 : Int) < (ls.length : Int)
  · simp only [Int.reduceToNat, Int.reduceLT, Int.reduceLE, Int.reduceBEq, Int.reduceBNe, St0, argFr, ↓thenW, ↓blockW, ↓opX, ↓opV, ↓pX, ↓pW, ↓putK, ↓putP, ↓atK, ↓normK, ↓postZ, ↓reduceIte, reduceIte, Nat.reduceEqDiff, Nat.reduceAdd, Nat.reduceBEq, Nat.reduceLT, Nat.reduceLeDiff, binW, bodyQ, ressW, resW, ne_eq, forall_const, reduceCtorEq, implies_true, sets, oneAll, setD, rels, fillE, fillD, List.replicate, rowsOf, forall_eq, Nat.reduceMul, ↓zD, zT, lnR_len, h2]
    refine .go awakeT ?_
    simp only [Int.reduceToNat, Int.reduceLT, Int.reduceLE, Int.reduceBEq, Int.reduceBNe, St0, argFr, ↓thenW, ↓blockW, ↓opX, ↓opV, ↓pX, ↓pW, ↓putK, ↓putP, ↓atK, ↓normK, ↓postZ, ↓reduceIte, reduceIte, Nat.reduceEqDiff, Nat.reduceAdd, Nat.reduceBEq, Nat.reduceLT, Nat.reduceLeDiff, binW, bodyQ, ressW, resW, ne_eq, forall_const, reduceCtorEq, implies_true, sets, oneAll, setD, rels, fillE, fillD, List.replicate, rowsOf, forall_eq, Nat.reduceMul, ↓zD, zT]
    exact .same
  simp only [Int.reduceToNat, Int.reduceLT, Int.reduceLE, Int.reduceBEq, Int.reduceBNe, St0, argFr, ↓thenW, ↓blockW, ↓opX, ↓opV, ↓pX, ↓pW, ↓putK, ↓putP, ↓atK, ↓normK, ↓postZ, ↓reduceIte, reduceIte, Nat.reduceEqDiff, Nat.reduceAdd, Nat.reduceBEq, Nat.reduceLT, Nat.reduceLeDiff, binW, bodyQ, ressW, resW, ne_eq, forall_const, reduceCtorEq, implies_true, sets, oneAll, setD, rels, fillE, fillD, List.replicate, rowsOf, forall_eq, Nat.reduceMul, ↓zD, zT, lnR_len, h2]
  refine .go (CallT.of_runs (Verify23 n l ls) (by simp [D.isPureL, D.isPure])) ?_
  by_cases hv : verifyA n l ls = 0
  case neg =>
    have e : (verifyA n l ls != 0) = true := by simpa using hv
    simp only [Int.reduceToNat, Int.reduceLT, Int.reduceLE, Int.reduceBEq, Int.reduceBNe, St0, argFr, ↓thenW, ↓blockW, ↓opX, ↓opV, ↓pX, ↓pW, ↓putK, ↓putP, ↓atK, ↓normK, ↓postZ, ↓reduceIte, reduceIte, Nat.reduceEqDiff, Nat.reduceAdd, Nat.reduceBEq, Nat.reduceLT, Nat.reduceLeDiff, binW, bodyQ, ressW, resW, ne_eq, forall_const, reduceCtorEq, implies_true, sets, oneAll, setD, rels, fillE, fillD, List.replicate, rowsOf, forall_eq, Nat.reduceMul, ↓zD, zT, e]
    refine .go awakeT ?_
    simp only [Int.reduceToNat, Int.reduceLT, Int.reduceLE, Int.reduceBEq, Int.reduceBNe, St0, argFr, ↓thenW, ↓blockW, ↓opX, ↓opV, ↓pX, ↓pW, ↓putK, ↓putP, ↓atK, ↓normK, ↓postZ, ↓reduceIte, reduceIte, Nat.reduceEqDiff, Nat.reduceAdd, Nat.reduceBEq, Nat.reduceLT, Nat.reduceLeDiff, binW, bodyQ, ressW, resW, ne_eq, forall_const, reduceCtorEq, implies_true, sets, oneAll, setD, rels, fillE, fillD, List.replicate, rowsOf, forall_eq, Nat.reduceMul, ↓zD, zT]
    exact .same
  have e : (verifyA n l ls != 0) = false := by simpa using hv
  obtain ⟨hc, _, _, hne, _⟩ := verify_zero hv
  have hok := check_lits hc
  obtain ⟨c1, c2, c3, c4⟩ := checkC_zero hc
  obtain ⟨m, rfl⟩ := Int.eq_ofNat_of_zero_le c1
  have hsound := verify_sound hv
  have h3 : ¬ (m : Int) < 0 := by omega
  have hm9 : m ≤ 9 := by omega
  have hpw : 2 ^ m ≤ 512 := Nat.pow_le_pow_right (n := 2) (by omega) hm9
  simp only [Int.reduceToNat, Int.reduceLT, Int.reduceLE, Int.reduceBEq, Int.reduceBNe, St0, argFr, ↓thenW, ↓blockW, ↓opX, ↓opV, ↓pX, ↓pW, ↓putK, ↓putP, ↓atK, ↓normK, ↓postZ, ↓reduceIte, reduceIte, Nat.reduceEqDiff, Nat.reduceAdd, Nat.reduceBEq, Nat.reduceLT, Nat.reduceLeDiff, binW, bodyQ, ressW, resW, ne_eq, forall_const, reduceCtorEq, implies_true, sets, oneAll, setD, rels, fillE, fillD, List.replicate, rowsOf, forall_eq, Nat.reduceMul, ↓zD, zT, e, h3, convN (show m ≤ 1000000 by omega), shlN (show m ≤ 61 by omega)]
  (repeat (first | refine And.intro (by omega) ?_ | refine And.intro (ui_nonneg _) ?_ | refine And.intro (Int.natCast_nonneg _) ?_ | refine And.intro rfl ?_ | refine And.intro (rows_one' _ _) ?_ | refine And.intro (us_one _) ?_ | refine And.intro (by intro _ h; cases h; done) ?_))
  refine wpS_loop (fun v : Nat => [(35, .int .i64 v), (34, .int .i64 ((2 ^ m : Nat) : Int)), (2, .sl 4 (lnR ls)), (1, .sl 1 (rl l))]) (fun _ => ⟨0, []⟩) (fun v => v ≤ 2 ^ m) (fun v => 2 ^ m - v) 0 (Nat.zero_le _) ?_ ?_
  · (refine Weak.same ?_; simp [sameF, Fr.get])
  intro v hv2
  refine wpS_go mixed ?_
  by_cases hvl : v < 2 ^ m
  case neg =>
    have hd : ¬ ((v : Int) < ((2 ^ m : Nat) : Int)) := by omega
    have hl0 : (0 : Int) < (ls.length : Int) := by
      have := List.length_pos_iff.2 hne
      omega
    simp only [Int.reduceToNat, Int.reduceLT, Int.reduceLE, Int.reduceBEq, Int.reduceBNe, St0, argFr, ↓thenW, ↓blockW, ↓opX, ↓opV, ↓pX, ↓pW, ↓putK, ↓putP, ↓atK, ↓normK, ↓postZ, ↓reduceIte, reduceIte, Nat.reduceEqDiff, Nat.reduceAdd, Nat.reduceBEq, Nat.reduceLT, Nat.reduceLeDiff, binW, bodyQ, ressW, resW, ne_eq, forall_const, reduceCtorEq, implies_true, sets, oneAll, setD, rels, fillE, fillD, List.replicate, rowsOf, forall_eq, Nat.reduceMul, ↓zD, zT, hd, lnR_len, hl0]
    refine .go awakeT ?_
    simp only [Int.reduceToNat, Int.reduceLT, Int.reduceLE, Int.reduceBEq, Int.reduceBNe, St0, argFr, ↓thenW, ↓blockW, ↓opX, ↓opV, ↓pX, ↓pW, ↓putK, ↓putP, ↓atK, ↓normK, ↓postZ, ↓reduceIte, reduceIte, Nat.reduceEqDiff, Nat.reduceAdd, Nat.reduceBEq, Nat.reduceLT, Nat.reduceLeDiff, binW, bodyQ, ressW, resW, ne_eq, forall_const, reduceCtorEq, implies_true, sets, oneAll, setD, rels, fillE, fillD, List.replicate, rowsOf, forall_eq, Nat.reduceMul, ↓zD, zT]
    exact .same
  have hd : ((v : Int) < ((2 ^ m : Nat) : Int)) := by omega
  simp only [Int.reduceToNat, Int.reduceLT, Int.reduceLE, Int.reduceBEq, Int.reduceBNe, St0, argFr, ↓thenW, ↓blockW, ↓opX, ↓opV, ↓pX, ↓pW, ↓putK, ↓putP, ↓atK, ↓normK, ↓postZ, ↓reduceIte, reduceIte, Nat.reduceEqDiff, Nat.reduceAdd, Nat.reduceBEq, Nat.reduceLT, Nat.reduceLeDiff, binW, bodyQ, ressW, resW, ne_eq, forall_const, reduceCtorEq, implies_true, sets, oneAll, setD, rels, fillE, fillD, List.replicate, rowsOf, forall_eq, Nat.reduceMul, ↓zD, zT, hd, rl_len]
  refine wpS_loop (fun k : Nat => [(40, .int .i64 k), (39, .int .i64 l.length), (38, .sl 1 (rl l)), (35, .int .i64 v), (34, .int .i64 ((2 ^ m : Nat) : Int)), (8, .bool (satL v (l.take k))), (7, .int .i64 v), (2, .sl 4 (lnR ls)), (1, .sl 1 (rl l))]) (fun _ => ⟨0, []⟩) (fun k => k ≤ l.length) (fun k => l.length - k) 0 (Nat.zero_le _) ?_ ?_
  · (refine Weak.same ?_; simp [sameF, Fr.get, satL])
  intro k hk
  refine wpS_go mixed ?_
  by_cases hkl2 : k < l.length
  · have hd2 : ((k : Int) < (l.length : Int)) := by omega
    have hs := satL_snoc (v := v) hkl2
    have hcc := hok _ (getD_mem (d := []) hkl2)
    cases ha : satL v (l.take k)
    · rw [ha, Bool.false_and] at hs
      simp only [Int.reduceToNat, Int.reduceLT, Int.reduceLE, Int.reduceBEq, Int.reduceBNe, St0, argFr, ↓thenW, ↓blockW, ↓opX, ↓opV, ↓pX, ↓pW, ↓putK, ↓putP, ↓atK, ↓normK, ↓postZ, ↓reduceIte, reduceIte, Nat.reduceEqDiff, Nat.reduceAdd, Nat.reduceBEq, Nat.reduceLT, Nat.reduceLeDiff, binW, bodyQ, ressW, resW, ne_eq, forall_const, reduceCtorEq, implies_true, sets, oneAll, setD, rels, fillE, fillD, List.replicate, rowsOf, forall_eq, Nat.reduceMul, ↓zD, zT, hd2, rl_len, rl_get l hkl2]
      (repeat (first | refine And.intro (by omega) ?_ | refine And.intro (ui_nonneg _) ?_ | refine And.intro (Int.natCast_nonneg _) ?_ | refine And.intro rfl ?_ | refine And.intro (rows_one' _ _) ?_ | refine And.intro (us_one _) ?_ | refine And.intro (by intro _ h; cases h; done) ?_))
      refine ⟨k + 1, by omega, ?_, by omega⟩
      rw [hs]
      (refine Weak.same ?_; simp only [sameF, Fr.get, ↓reduceIte, reduceIte, Nat.reduceEqDiff, reduceCtorEq, D.int.injEq, D.bool.injEq, D.sl.injEq, and_true, true_and, and_self])
      exact wrap_i64 (by omega)
    · rw [ha, Bool.true_and] at hs
      simp only [Int.reduceToNat, Int.reduceLT, Int.reduceLE, Int.reduceBEq, Int.reduceBNe, St0, argFr, ↓thenW, ↓blockW, ↓opX, ↓opV, ↓pX, ↓pW, ↓putK, ↓putP, ↓atK, ↓normK, ↓postZ, ↓reduceIte, reduceIte, Nat.reduceEqDiff, Nat.reduceAdd, Nat.reduceBEq, Nat.reduceLT, Nat.reduceLeDiff, binW, bodyQ, ressW, resW, ne_eq, forall_const, reduceCtorEq, implies_true, sets, oneAll, setD, rels, fillE, fillD, List.replicate, rowsOf, forall_eq, Nat.reduceMul, ↓zD, zT, hd2, rl_len, rl_get l hkl2]
      (repeat (first | refine And.intro (by omega) ?_ | refine And.intro (ui_nonneg _) ?_ | refine And.intro (Int.natCast_nonneg _) ?_ | refine And.intro rfl ?_ | refine And.intro (rows_one' _ _) ?_ | refine And.intro (us_one _) ?_ | refine And.intro (by intro _ h; cases h; done) ?_))
      refine .go (CallT.of_runs (satisfied25 (v := v) (by omega) (by omega) hcc.2) (by simp [D.isPureL, D.isPure])) ?_
      simp only [Int.reduceToNat, Int.reduceLT, Int.reduceLE, Int.reduceBEq, Int.reduceBNe, St0, argFr, ↓thenW, ↓blockW, ↓opX, ↓opV, ↓pX, ↓pW, ↓putK, ↓putP, ↓atK, ↓normK, ↓postZ, ↓reduceIte, reduceIte, Nat.reduceEqDiff, Nat.reduceAdd, Nat.reduceBEq, Nat.reduceLT, Nat.reduceLeDiff, binW, bodyQ, ressW, resW, ne_eq, forall_const, reduceCtorEq, implies_true, sets, oneAll, setD, rels, fillE, fillD, List.replicate, rowsOf, forall_eq, Nat.reduceMul, ↓zD, zT]
      refine ⟨k + 1, by omega, ?_, by omega⟩
      rw [hs]
      (refine Weak.same ?_; simp only [sameF, Fr.get, ↓reduceIte, reduceIte, Nat.reduceEqDiff, reduceCtorEq, D.int.injEq, D.bool.injEq, D.sl.injEq, and_true, true_and, and_self])
      exact wrap_i64 (by omega)
  have hd2 : ¬ ((k : Int) < (l.length : Int)) := by omega
  rw [take_all (show k = l.length by omega), hsound v]
  simp only [Int.reduceToNat, Int.reduceLT, Int.reduceLE, Int.reduceBEq, Int.reduceBNe, St0, argFr, ↓thenW, ↓blockW, ↓opX, ↓opV, ↓pX, ↓pW, ↓putK, ↓putP, ↓atK, ↓normK, ↓postZ, ↓reduceIte, reduceIte, Nat.reduceEqDiff, Nat.reduceAdd, Nat.reduceBEq, Nat.reduceLT, Nat.reduceLeDiff, binW, bodyQ, ressW, resW, ne_eq, forall_const, reduceCtorEq, implies_true, sets, oneAll, setD, rels, fillE, fillD, List.replicate, rowsOf, forall_eq, Nat.reduceMul, ↓zD, zT, hd2]
  refine ⟨v + 1, by omega, ?_, by omega⟩
  (refine Weak.same ?_; simp only [sameF, Fr.get, ↓reduceIte, reduceIte, Nat.reduceEqDiff, reduceCtorEq, D.int.injEq, D.bool.injEq, D.sl.injEq, and_true, true_and, and_self])
  exact wrap_i64 (by omega)
end Go.Pd
