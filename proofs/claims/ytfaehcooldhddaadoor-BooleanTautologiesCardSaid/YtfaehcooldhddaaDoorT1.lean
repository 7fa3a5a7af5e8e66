/- The reference's tautologies: plain. -/
import Derived.Test.YtfaehcooldhddaaDoorA2
import Derived.Test.YtfaehcooldhddaaDoorR0
import Derived.Test.YtfaehcooldhddaaDoorV2
set_option linter.unusedSectionVars false
set_option linter.unusedVariables false
set_option linter.unusedSimpArgs false
set_option linter.defProp false
set_option maxRecDepth 20000
namespace Go.Pd
open Go Go.Proofs
open Rs Fm
namespace Fm
/-- The place of a node among the leaves: of the first ones, the last. -/
def atS (l : List Int) (i : Nat) : Nat → Int
  | 0 => -1
  | k + 1 => if l.getD k 0 = (i : Int) then (k : Int) else atS l i k
theorem atS_lt (l : List Int) (i : Nat) : ∀ k, -1 ≤ atS l i k ∧ atS l i k < k
  | 0 => by simp [atS]
  | k + 1 => by
    have := atS_lt l i k
    unfold atS
    split <;> omega
theorem atS_in {l : List Int} {i : Nat} : ∀ k, 0 ≤ atS l i k → (atS l i k).toNat < k ∧ l.getD (atS l i k).toNat 0 = (i : Int)
  | 0, h => by simp [atS] at h
  | k + 1, h => by
    unfold atS at h ⊢
    split
    · rename_i e; rw [Int.toNat_natCast]; exact ⟨by omega, e⟩
    · rename_i e
      rw [if_neg e] at h
      have := atS_in k h
      exact ⟨by omega, this.2⟩
theorem atS_not {l : List Int} {i : Nat} : ∀ k, k ≤ l.length → atS l i k < 0 → ∀ j, j < k → l.getD j 0 ≠ (i : Int)
  | 0, _, _, j, h => by omega
  | k + 1, hk, h, j, hj => by
    unfold atS at h
    split at h
    · omega
    · rename_i e
      by_cases e2 : j = k
      · rw [e2]; exact e
      · exact atS_not k (by omega) h j (by omega)
/-- The valuation that the reference reads off the places. -/
def leafP (l : List Int) (facts i : Nat) : Bool := decide (0 ≤ atS l i l.length) && facts.testBit (atS l i l.length).toNat
def valP (c : List Nd) (l : List Int) (facts : Nat) (v : List Bool) (i : Nat) : Bool := if 0 ≤ atS l i l.length then facts.testBit (atS l i l.length).toNat else if (c.getD i nd0).op ≤ 8 then valN (c.getD i nd0) v 0 else false
def valsP (c : List Nd) (l : List Int) (facts : Nat) : Nat → List Bool
  | 0 => []
  | k + 1 => valsP c l facts k ++ [valP c l facts (valsP c l facts k) k]
theorem valsP_len (c : List Nd) (l : List Int) (facts : Nat) : ∀ k, (valsP c l facts k).length = k
  | 0 => rfl
  | k + 1 => by simp [valsP, valsP_len c l facts k]
theorem valsP_eq {c : List Nd} {l : List Int} {facts : Nat} (hv : validL c) (hl : ∀ z ∈ l, ∃ j : Nat, z = j ∧ j < c.length ∧ atomN (c.getD j nd0)) : ∀ k, k ≤ c.length → ∀ j, j < k → (valsS c (leafP l facts) k).getD j false = (valsP c l facts k).getD j false
  | 0, _, j, h => by omega
  | k + 1, hk, j, hj => by
    have ih := valsP_eq (facts := facts) hv hl k (by omega)
    unfold valsS valsP
    by_cases e : j = k
    · subst e
      have hmo := mid_ops hv (i := j) (by omega)
      have hlen := valsS_len c (leafP l facts) j
      have hr := valsP_len c l facts j
      have e1 : ∀ x : Bool, ((valsS c (leafP l facts) j).set j x).getD j false = x := fun x => by
        simp only [List.getD, List.getElem?_set_self (show j < (valsS c (leafP l facts) j).length by omega), Option.getD_some]
      rw [e1]
      have e2 : (valsP c l facts j ++ [valP c l facts (valsP c l facts j) j]).getD j false = valP c l facts (valsP c l facts j) j := by
        simp [List.getD, hr]
      rw [e2]
      unfold valP
      by_cases hp : (c.getD j nd0).op = 3 ∨ 8 < (c.getD j nd0).op
      · rw [if_pos hp]
        unfold leafP
        by_cases h0 : 0 ≤ atS l j l.length
        · rw [if_pos h0, decide_eq_true h0, Bool.true_and]
        · rw [if_neg h0, decide_eq_false h0, Bool.false_and]
          by_cases h8 : (c.getD j nd0).op ≤ 8
          · rw [if_pos h8]
            unfold valN
            rw [if_pos (by omega), Nat.zero_testBit]
          · rw [if_neg h8]
      · rw [if_neg hp]
        have h0 : ¬ 0 ≤ atS l j l.length := fun h0 => by
          obtain ⟨a, b⟩ := atS_in _ h0
          obtain ⟨i, q1, q2, q3⟩ := hl (l.getD (atS l j l.length).toNat 0) (by simp only [List.getD, List.getElem?_eq_getElem a, Option.getD_some]; exact List.getElem_mem _)
          rw [b] at q1
          obtain rfl : j = i := by omega
          exact hp q3
        obtain ⟨ox, oy⟩ := hmo hp
        rw [if_neg h0, if_pos (by omega)]
        unfold valN
        rw [if_neg (by omega)]
        by_cases h4 : 4 ≤ (c.getD j nd0).op
        case neg => exact comb_low (by omega) _ _ _ _
        rw [ih _ (ox h4).2]
        by_cases h5 : 5 ≤ (c.getD j nd0).op
        case neg => exact comb_not (by omega) _ _ _
        rw [ih _ (oy h5).2]
    · have h1 : ∀ x, ((valsS c (leafP l facts) k).set k x).getD j false = (valsS c (leafP l facts) k).getD j false := fun x => by
        simp only [List.getD, List.getElem?_set_ne (Ne.symm e)]
      rw [h1, ih j (by omega)]
      have := valsP_len c l facts k
      simp only [List.getD, List.getElem?_append_left (show j < (valsP c l facts k).length by omega)]
theorem valueP {c : List Nd} {facts : Nat} (hv : validL c) (hn : 0 < c.length) : (valsP c (leavesA c) facts c.length).getD (c.length - 1) false = valueA c (leafN (numS c (leavesA c) (leavesA c).length) facts) := by
  obtain ⟨nd, inn, asks⟩ := leaves_facts hv hn
  rw [← valsP_eq hv inn c.length (Nat.le_refl _) _ (by omega)]
  refine asks (leafP (leavesA c) facts) _ fun j hj => ?_
  obtain ⟨k, hk, e⟩ := List.mem_iff_getElem.1 hj
  have hgk : (leavesA c).getD k 0 = (j : Int) := by simp [List.getD, hk, e]
  have hnum := numS_get nd (fun z hz => let ⟨j, a, b, _⟩ := inn z hz; ⟨j, a, b⟩) _ (Nat.le_refl _) k hk
  rw [hgk, Int.toNat_natCast] at hnum
  have h0 : 0 ≤ atS (leavesA c) j (leavesA c).length := by
    by_cases h0 : 0 ≤ atS (leavesA c) j (leavesA c).length
    · exact h0
    · exact absurd hgk (atS_not _ (Nat.le_refl _) (by omega) k hk)
  obtain ⟨a, b⟩ := atS_in _ h0
  have hkk : (atS (leavesA c) j (leavesA c).length).toNat = k := by
    refine nodup_inj nd a hk ?_
    rw [e]
    simpa [List.getD, a] using b
  unfold leafP leafN
  rw [decide_eq_true h0, Bool.true_and, hkk, hnum, Int.toNat_natCast]
end Fm
end Go.Pd
