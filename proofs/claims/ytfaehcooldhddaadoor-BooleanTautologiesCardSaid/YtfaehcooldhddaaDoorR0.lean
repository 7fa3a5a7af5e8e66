/- The reference's value of a node. -/
import Derived.Test.YtfaehcooldhddaaDoorP6
import Derived.Test.YtfaehcooldhddaaDoorP8
import Derived.Test.YtfaehcooldhddaaDoorX9
set_option linter.unusedSectionVars false
set_option linter.unusedVariables false
set_option linter.unusedSimpArgs false
set_option linter.defProp false
set_option maxRecDepth 20000
namespace Go.Pd
open Go Go.Proofs
open Rs Fm
namespace Fm
def valN (p : Nd) (v : List Bool) (facts : Nat) : Bool := if p.op = 3 then facts.testBit p.i.toNat else combB p.op (v.getD p.x.toNat false) (v.getD p.y.toNat false)
def valsR (c : List Nd) (facts : Nat) : Nat → List Bool
  | 0 => []
  | k + 1 => valsR c facts k ++ [valN (c.getD k nd0) (valsR c facts k) facts]
theorem valsR_len (c : List Nd) (facts : Nat) : ∀ k, (valsR c facts k).length = k
  | 0 => rfl
  | k + 1 => by simp [valsR, valsR_len c facts k]
theorem valsR_eq {c : List Nd} {facts : Nat} (hv : validL c) (hp : ∀ p ∈ c, p.op ≤ 8) : ∀ k, k ≤ c.length → ∀ j, j < k → (valsS c (leafT c facts) k).getD j false = (valsR c facts k).getD j false
  | 0, _, j, h => by omega
  | k + 1, hk, j, hj => by
    have ih := valsR_eq (facts := facts) hv hp k (by omega)
    unfold valsS valsR
    by_cases e : j = k
    · subst e
      obtain ⟨ox, oy, zx, zy⟩ := node_ops' (hv j (by omega))
      have h8 := hp (c.getD j nd0) (by simp only [List.getD, List.getElem?_eq_getElem (show j < c.length by omega), Option.getD_some]; exact List.getElem_mem _)
      have hl := valsS_len c (leafT c facts) j
      have hr := valsR_len c facts j
      have e1 : ∀ x : Bool, ((valsS c (leafT c facts) j).set j x).getD j false = x := fun x => by
        simp only [List.getD, List.getElem?_set_self (show j < (valsS c (leafT c facts) j).length by omega), Option.getD_some]
      rw [e1]
      have e2 : (valsR c facts j ++ [valN (c.getD j nd0) (valsR c facts j) facts]).getD j false = valN (c.getD j nd0) (valsR c facts j) facts := by
        simp [List.getD, hr]
      rw [e2]
      unfold valN
      by_cases h3 : (c.getD j nd0).op = 3
      · rw [if_pos (.inl h3), if_pos h3]; rfl
      · rw [if_neg (by omega), if_neg h3]
        have hx : (usesA (c.getD j nd0).op).1.x = true → (valsS c (leafT c facts) j).getD (c.getD j nd0).x.toNat false = (valsR c facts j).getD (c.getD j nd0).x.toNat false := fun h => ih _ (ox h).2
        have hy : (usesA (c.getD j nd0).op).1.y = true → (valsS c (leafT c facts) j).getD (c.getD j nd0).y.toNat false = (valsR c facts j).getD (c.getD j nd0).y.toNat false := fun h => ih _ (oy h).2
        generalize (c.getD j nd0).op = op at h8 h3 hx hy
        by_cases ux : (usesA op).1.x = true
        · rw [hx ux]
          by_cases uy : (usesA op).1.y = true
          · rw [hy uy]
          · rw [uses_x] at ux
            simp only [Bool.and_eq_true, decide_eq_true_eq] at ux
            have : op = 4 ∨ op = 5 ∨ op = 6 ∨ op = 7 ∨ op = 8 := by omega
            rcases this with rfl | rfl | rfl | rfl | rfl
            · rfl
            all_goals exact absurd rfl uy
        · rw [uses_x] at ux
          simp only [Bool.and_eq_true, decide_eq_true_eq] at ux
          simp only [combB, if_neg (show ¬ op = 4 by omega), if_neg (show ¬ op = 5 by omega), if_neg (show ¬ op = 6 by omega), if_neg (show ¬ op = 7 by omega), if_neg (show ¬ op = 8 by omega)]
    · have h1 : ∀ x, ((valsS c (leafT c facts) k).set k x).getD j false = (valsS c (leafT c facts) k).getD j false := fun x => by
        simp only [List.getD, List.getElem?_set_ne (Ne.symm e)]
      rw [h1, ih j (by omega)]
      have := valsR_len c facts k
      simp only [List.getD, List.getElem?_append_left (show j < (valsR c facts k).length by omega)]
theorem valueR {c : List Nd} {facts : Nat} (hv : validL c) (hp : ∀ p ∈ c, p.op ≤ 8) (hn : 0 < c.length) : (valsR c facts c.length).getD (c.length - 1) false = valueA c (leafT c facts) :=
  (valsR_eq hv hp c.length (Nat.le_refl _) _ (by omega)).symm
end Fm
theorem refValue43 {p : Nd} {v : List Bool} {facts : Nat} (hp : nodeE p v.length = 0) (h8 : p.op ≤ 8) (hf : facts < 2 ^ 60) : Runs Tryd.prog 43 [.agg p.row, .sl 1 (rb v), .int .i64 facts] (.bool (valN p v facts)) := by
  obtain ⟨ox, oy, zx, zy⟩ := node_ops' hp
  have hok := (nodeE_iff.1 hp).1
  have hi := nd_i hp
  have hlen := rb_len v
  obtain ⟨op, i, e, g, x, y⟩ := p
  simp only at ox oy zx zy hok hi h8
  unfold valN
  simp only [Nd.row]
  have hop : op = 1 ∨ op = 2 ∨ op = 3 ∨ op = 4 ∨ op = 5 ∨ op = 6 ∨ op = 7 ∨ op = 8 := by
    rcases Int.lt_or_le op 1 with h | h
    · rw [uses_out (.inl h)] at hok; cases hok
    · omega
  rcases hop with rfl | rfl | rfl | rfl | rfl | rfl | rfl | rfl
  · refine CallT.go_fn mixed Tryd.func43 k43 (by simp) fun hf => ?_
    simp only [Int.reduceToNat, Int.reduceLT, Int.reduceLE, Int.reduceBEq, Int.reduceBNe, St0, argFr, ↓callZ, ↓midZ, ↓unZ, ↓thenW, ↓blockW, ↓opX, ↓opV, ↓pX, ↓pW, ↓putK, ↓putP, ↓atK, ↓normK, ↓postZ, ↓reduceIte, reduceIte, Nat.reduceEqDiff, Nat.reduceAdd, Nat.reduceBEq, Nat.reduceLT, Nat.reduceLeDiff, binW, bodyQ, ressW, resW, ne_eq, forall_const, reduceCtorEq, implies_true, sets, oneAll, setD, rels, fillE, fillD, List.replicate, rowsOf, forall_eq, Nat.reduceMul, ↓zD, zT]
    (repeat refine And.intro (by first | omega | exact ui_nonneg _ | exact Int.natCast_nonneg _ | rfl | exact rows_one' _ _ | exact us_one _ | (intro _ h; cases h; done)) ?_)
    exact .drop (by simp) (by simp [vw, combB])
  · refine CallT.go_fn mixed Tryd.func43 k43 (by simp) fun hf => ?_
    simp only [Int.reduceToNat, Int.reduceLT, Int.reduceLE, Int.reduceBEq, Int.reduceBNe, St0, argFr, ↓callZ, ↓midZ, ↓unZ, ↓thenW, ↓blockW, ↓opX, ↓opV, ↓pX, ↓pW, ↓putK, ↓putP, ↓atK, ↓normK, ↓postZ, ↓reduceIte, reduceIte, Nat.reduceEqDiff, Nat.reduceAdd, Nat.reduceBEq, Nat.reduceLT, Nat.reduceLeDiff, binW, bodyQ, ressW, resW, ne_eq, forall_const, reduceCtorEq, implies_true, sets, oneAll, setD, rels, fillE, fillD, List.replicate, rowsOf, forall_eq, Nat.reduceMul, ↓zD, zT]
    (repeat refine And.intro (by first | omega | exact ui_nonneg _ | exact Int.natCast_nonneg _ | rfl | exact rows_one' _ _ | exact us_one _ | (intro _ h; cases h; done)) ?_)
    exact .drop (by simp) (by simp [vw, combB])
  · obtain ⟨w, rfl⟩ := Int.eq_ofNat_of_zero_le hi.1
    refine CallT.go_fn mixed Tryd.func43 k43 (by simp) fun hf => ?_
    simp only [Int.reduceToNat, Int.reduceLT, Int.reduceLE, Int.reduceBEq, Int.reduceBNe, St0, argFr, ↓callZ, ↓midZ, ↓unZ, ↓thenW, ↓blockW, ↓opX, ↓opV, ↓pX, ↓pW, ↓putK, ↓putP, ↓atK, ↓normK, ↓postZ, ↓reduceIte, reduceIte, Nat.reduceEqDiff, Nat.reduceAdd, Nat.reduceBEq, Nat.reduceLT, Nat.reduceLeDiff, binW, bodyQ, ressW, resW, ne_eq, forall_const, reduceCtorEq, implies_true, sets, oneAll, setD, rels, fillE, fillD, List.replicate, rowsOf, forall_eq, Nat.reduceMul, ↓zD, zT, convN (show w ≤ 1000000 by omega), shrNat facts w (by omega), and1Nat (div_lt62 (show facts < 2 ^ 62 by omega) w), bitNat]
    (repeat refine And.intro (by first | omega | exact ui_nonneg _ | exact Int.natCast_nonneg _ | rfl | exact rows_one' _ _ | exact us_one _ | (intro _ h; cases h; done)) ?_)
    exact .drop (by simp) (by simp [vw])
  · obtain ⟨x0, x1⟩ := ox rfl
    obtain ⟨a, rfl⟩ := Int.eq_ofNat_of_zero_le x0
    rw [Int.toNat_natCast] at x1
    refine CallT.go_fn mixed Tryd.func43 k43 (by simp) fun hf => ?_
    simp only [Int.reduceToNat, Int.reduceLT, Int.reduceLE, Int.reduceBEq, Int.reduceBNe, St0, argFr, ↓callZ, ↓midZ, ↓unZ, ↓thenW, ↓blockW, ↓opX, ↓opV, ↓pX, ↓pW, ↓putK, ↓putP, ↓atK, ↓normK, ↓postZ, ↓reduceIte, reduceIte, Nat.reduceEqDiff, Nat.reduceAdd, Nat.reduceBEq, Nat.reduceLT, Nat.reduceLeDiff, binW, bodyQ, ressW, resW, ne_eq, forall_const, reduceCtorEq, implies_true, sets, oneAll, setD, rels, fillE, fillD, List.replicate, rowsOf, forall_eq, Nat.reduceMul, ↓zD, zT, hlen, rb_get v x1]
    (repeat refine And.intro (by first | omega | exact ui_nonneg _ | exact Int.natCast_nonneg _ | rfl | exact rows_one' _ _ | exact us_one _ | (intro _ h; cases h; done)) ?_)
    exact .drop (by simp) (by simp [vw, combB])
  all_goals
    obtain ⟨x0, x1⟩ := ox rfl
    obtain ⟨y0, y1⟩ := oy rfl
    obtain ⟨a, rfl⟩ := Int.eq_ofNat_of_zero_le x0
    obtain ⟨b, rfl⟩ := Int.eq_ofNat_of_zero_le y0
    rw [Int.toNat_natCast] at x1 y1
    refine CallT.go_fn mixed Tryd.func43 k43 (by simp) fun hf => ?_
    cases hva : v.getD a false <;> cases hvb : v.getD b false <;>
    (simp only [Int.reduceToNat, Int.reduceLT, Int.reduceLE, Int.reduceBEq, Int.reduceBNe, St0, argFr, ↓callZ, ↓midZ, ↓unZ, ↓thenW, ↓blockW, ↓opX, ↓opV, ↓pX, ↓pW, ↓putK, ↓putP, ↓atK, ↓normK, ↓postZ, ↓reduceIte, reduceIte, Nat.reduceEqDiff, Nat.reduceAdd, Nat.reduceBEq, Nat.reduceLT, Nat.reduceLeDiff, binW, bodyQ, ressW, resW, ne_eq, forall_const, reduceCtorEq, implies_true, sets, oneAll, setD, rels, fillE, fillD, List.replicate, rowsOf, forall_eq, Nat.reduceMul, ↓zD, zT, hlen, rb_get v x1, rb_get v y1, hva, hvb]
     (repeat refine And.intro (by first | omega | exact ui_nonneg _ | exact Int.natCast_nonneg _ | rfl | exact rows_one' _ _ | exact us_one _ | (intro _ h; cases h; done)) ?_)
     exact .drop (by simp) (by simp [vw, combB, hva, hvb, -List.getD_eq_getElem?_getD]))
end Go.Pd
