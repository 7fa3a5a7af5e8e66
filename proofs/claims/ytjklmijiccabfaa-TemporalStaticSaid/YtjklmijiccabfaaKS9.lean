/- Part S9. -/
import Derived.Test.YtjklmijiccabfaaKS7
set_option linter.unusedSectionVars false
set_option linter.unusedVariables false
set_option linter.unusedSimpArgs false
set_option linter.defProp false
set_option maxRecDepth 20000
set_option maxHeartbeats 1000000
namespace Go.Pd
open Go Go.Proofs
open Int renaming reduceToNat → ZA, reduceLT → ZB, reduceLE → ZC, reduceBEq → ZD, reduceBNe → ZE
open Nat renaming reduceEqDiff → ZF, reduceAdd → ZG, reduceBEq → ZH, reduceLT → ZI, reduceLeDiff → ZJ, reduceMul → ZK
open Ru
namespace Ru
def zeroM : ModA := ⟨0, [], []⟩
def modM (rs : List RunA) (l : List (Nat × Nat)) (A F : Nat) : ModA := ⟨(l.length : Int), valL rs l F, relL rs l A⟩
def modelM (s : SysA) : ModA × List (Nat × Nat) × Int :=
 if chk s ≠ 0 then (zeroM, [], chk s) else if 64 < (ptsA s).length then (zeroM, [], 8) else (modM s.rs (ptsA s) s.ag.toNat s.fa.toNat, ptsA s, 0)
theorem one_bitE {k : Nat} (hk : k < 64) (i : Nat) : (1#64 <<< k).getLsbD i = decide (i = k) := by
 by_cases hi : i < 64
 ·have : ∀ k, k < 64 → ∀ i, i < 64 → (1#64 <<< k).getLsbD i = decide (i = k) := by decide
  exact this k hk i hi
 ·rw [BitVec.getLsbD_of_ge _ _ (by omega)]
  exact (decide_eq_false (by omega)).symm
theorem valK_bit {rs : List RunA} {l : List (Nat × Nat)} {f : Nat} : ∀ (k i : Nat), k ≤ 64 → (valK rs l f k).getLsbD i = (decide (i < k) && (facA rs (l.getD i (0, 0))).getLsbD f)
 | 0, i, _ => by simp [valK]
 | k + 1, i, hk => by
  unfold valK
  rw [BitVec.getLsbD_or, valK_bit k i (by omega)]
  by_cases e : i = k
  ·subst e
   cases hb : (facA rs (l.getD i (0, 0))).getLsbD f
   ·simp
   ·rw [if_pos rfl, one_bitE (by omega)]
    simp
  ·have h2 : (if (facA rs (l.getD k (0, 0))).getLsbD f = true then 1#64 <<< k else 0#64).getLsbD i = false := by
    split
    ·rw [one_bitE (by omega)]; exact decide_eq_false e
    ·exact BitVec.getLsbD_zero
   rw [h2, Bool.or_false]
   congr 1
   rw [Bool.eq_iff_iff, decide_eq_true_iff, decide_eq_true_iff]; omega
theorem relK_bit {rs : List RunA} {l : List (Nat × Nat)} {a : Nat} {x : Int} : ∀ (k i : Nat), k ≤ 64 → (relK rs l a x k).getLsbD i = (decide (i < k) && decide (locA rs a (l.getD i (0, 0)) = x))
 | 0, i, _ => by simp [relK]
 | k + 1, i, hk => by
  unfold relK
  rw [BitVec.getLsbD_or, relK_bit k i (by omega)]
  by_cases e : i = k
  ·subst e
   by_cases hb : locA rs a (l.getD i (0, 0)) = x
   ·rw [if_pos hb, one_bitE (by omega), decide_eq_true hb]
    simp
   ·rw [if_neg hb, decide_eq_false hb]
    simp
  ·have h2 : (if locA rs a (l.getD k (0, 0)) = x then 1#64 <<< k else 0#64).getLsbD i = false := by
    split
    ·rw [one_bitE (by omega)]; exact decide_eq_false e
    ·exact BitVec.getLsbD_zero
   rw [h2, Bool.or_false]
   congr 1
   rw [Bool.eq_iff_iff, decide_eq_true_iff, decide_eq_true_iff]; omega
theorem modM_ok {rs : List RunA} {A F T : Nat} (ok : OkR rs A F T) {l : List (Nat × Nat)} (h1 : 1 ≤ l.length) (h2 : l.length ≤ 64) : ModOk (modM rs l A F) l.length where
 w := rfl
 hW := ⟨h1, h2⟩
 hV := by have := ok.hF; simp [modM, valL]; exact this
 hR := by have := ok.hA; simp [modM, relL]; exact this
 row := fun r hr => by
  simp only [modM, relL, List.mem_map] at hr
  obtain ⟨a, _, rfl⟩ := hr
  simp [relR]
 val := fun x hx => by
  simp only [modM, valL, List.mem_map] at hx
  obtain ⟨f, _, rfl⟩ := hx
  refine outW_of h2 fun i hi => ?_
  rw [valK_bit _ _ h2, Bool.and_eq_true] at hi
  exact of_decide_eq_true hi.1
 rel := fun r hr x hx => by
  simp only [modM, relL, List.mem_map] at hr
  obtain ⟨a, _, rfl⟩ := hr
  simp only [relR, List.mem_map] at hx
  obtain ⟨p, _, rfl⟩ := hx
  refine outW_of h2 fun i hi => ?_
  rw [relK_bit _ _ h2, Bool.and_eq_true] at hi
  exact of_decide_eq_true hi.1
end Ru
theorem Model10 (s : SysA) : Runs Try.prog 18 [s.d] (.tup [(modelM s).1.d, .sl 2 (ptR (modelM s).2.1), .int .i64 (modelM s).2.2]) := by
 have hC := Check31 s
 have hP := Points29 s
 have hD : s.d = .agg [.int .i64 s.ag, .int .i64 s.fa, .int .i64 s.ln, .sl 2 (runR s.rs)] := rfl
 by_cases hz : chk s = 0
 case neg =>
  have e : (chk s != 0) = true := by simpa using hz
  rw [show modelM s = (zeroM, [], chk s) from if_pos hz]
  rw [hD] at hC ⊢
  refine CallT.go_fn mixed Try.func18 k18 (by simp) fun hf => ?_
  simp only [ZA, ZB, ZC, ZD, ZE, ↓reduceIte, reduceIte, ZF, ZG, ZH, ZI, ZJ, ne_eq, forall_const, reduceCtorEq, implies_true, forall_eq, ZK, ↓zU, ↓zD, zV, zT]
  (repeat refine sd ?_)
  refine .go (CallT.of_runs hC rfl) ?_
  simp only [ZA, ZB, ZC, ZD, ZE, ↓reduceIte, reduceIte, ZF, ZG, ZH, ZI, ZJ, ne_eq, forall_const, reduceCtorEq, implies_true, forall_eq, ZK, ↓zU, ↓zD, zV, zT, e]
  exact .drop (by simp) (by simp [vw, vwL, ptR, zeroM, ModA.d, us, rr])
 obtain ⟨A, F, T, rs, rfl, ok⟩ := chk_sys hz
 obtain ⟨T1, T16⟩ := ok.hT
 obtain ⟨R1, R64⟩ := ok.hR
 have ep : ptsA ⟨A, F, T, rs⟩ = ptN T (rs.length * T) := by unfold ptsA; rw [if_neg (by simpa using hz)]; rfl
 have hin : Inb rs T (ptsA ⟨A, F, T, rs⟩) := by rw [ep]; exact ptN_in T1 (Nat.le_refl _)
 have hm : modelM ⟨A, F, T, rs⟩ = if 64 < (ptsA ⟨A, F, T, rs⟩).length then (zeroM, [], 8) else (modM rs (ptsA ⟨A, F, T, rs⟩) A F, ptsA ⟨A, F, T, rs⟩, 0) := by
  unfold modelM; rw [if_neg (by simpa using hz)]; rfl
 rw [hm]
 rw [hz] at hC
 have hpt := fun h => points32 ok (l := ptsA ⟨A, F, T, rs⟩) h hin
 generalize ptsA ⟨A, F, T, rs⟩ = l at hP hpt
 rw [hD] at hC hP ⊢
 simp only at hC hP ⊢
 by_cases h64 : 64 < l.length
 ·have e : (64 : Int) < (l.length : Int) := by omega
  rw [if_pos h64]
  refine CallT.go_fn mixed Try.func18 k18 (by simp) fun hf => ?_
  simp only [ZA, ZB, ZC, ZD, ZE, ↓reduceIte, reduceIte, ZF, ZG, ZH, ZI, ZJ, ne_eq, forall_const, reduceCtorEq, implies_true, forall_eq, ZK, ↓zU, ↓zD, zV, zT]
  (repeat refine sd ?_)
  refine .go (CallT.of_runs hC rfl) ?_
  simp only [ZA, ZB, ZC, ZD, ZE, ↓reduceIte, reduceIte, ZF, ZG, ZH, ZI, ZJ, ne_eq, forall_const, reduceCtorEq, implies_true, forall_eq, ZK, ↓zU, ↓zD, zV, zT]
  refine .go (CallT.of_runs hP rfl) ?_
  simp only [ZA, ZB, ZC, ZD, ZE, ↓reduceIte, reduceIte, ZF, ZG, ZH, ZI, ZJ, ne_eq, forall_const, reduceCtorEq, implies_true, forall_eq, ZK, ↓zU, ↓zD, zV, zT, ptR_len, e]
  exact .drop (by simp) (by simp [vw, vwL, ptR, zeroM, ModA.d, us, rr])
 ·have e : ¬ (64 : Int) < (l.length : Int) := by omega
  have hpt := hpt (by omega)
  rw [if_neg h64]
  unfold sD modD at hpt
  refine CallT.go_fn mixed Try.func18 k18 (by simp) fun hf => ?_
  simp only [ZA, ZB, ZC, ZD, ZE, ↓reduceIte, reduceIte, ZF, ZG, ZH, ZI, ZJ, ne_eq, forall_const, reduceCtorEq, implies_true, forall_eq, ZK, ↓zU, ↓zD, zV, zT]
  (repeat refine sd ?_)
  refine .go (CallT.of_runs hC rfl) ?_
  simp only [ZA, ZB, ZC, ZD, ZE, ↓reduceIte, reduceIte, ZF, ZG, ZH, ZI, ZJ, ne_eq, forall_const, reduceCtorEq, implies_true, forall_eq, ZK, ↓zU, ↓zD, zV, zT]
  refine .go (CallT.of_runs hP rfl) ?_
  simp only [ZA, ZB, ZC, ZD, ZE, ↓reduceIte, reduceIte, ZF, ZG, ZH, ZI, ZJ, ne_eq, forall_const, reduceCtorEq, implies_true, forall_eq, ZK, ↓zU, ↓zD, zV, zT, ptR_len, e]
  refine .go (CallT.of_runs hpt (by simp [D.isPureL, D.isPure])) ?_
  simp only [ZA, ZB, ZC, ZD, ZE, ↓reduceIte, reduceIte, ZF, ZG, ZH, ZI, ZJ, ne_eq, forall_const, reduceCtorEq, implies_true, forall_eq, ZK, ↓zU, ↓zD, zV, zT]
  exact .drop (by simp) (by simp [vw, vwL, ModA.d, modM])
end Go.Pd
