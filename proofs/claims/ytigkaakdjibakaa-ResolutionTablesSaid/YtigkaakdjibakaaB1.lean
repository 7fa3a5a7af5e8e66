/- Resolution: plain laws: literals, clauses, errors. -/
import Derived.Test.YtigkaakdjibakaaX9
set_option linter.unusedSectionVars false
set_option linter.unusedVariables false
set_option linter.unusedSimpArgs false
set_option linter.defProp false
set_option maxRecDepth 20000
namespace Go.Pd
open Go Go.Proofs
namespace Rs
/-- A literal of a variable below n. -/
def litOk (n x : Int) : Bool := decide (x ≠ 0) && decide (-n ≤ x) && decide (x ≤ n)
theorem litOk_iff {n x : Int} : litOk n x = true ↔ x ≠ 0 ∧ -n ≤ x ∧ x ≤ n := by simp [litOk, and_assoc]
def varI (x : Int) : Int := if x < 0 then -x - 1 else x - 1
theorem varI_range {n x : Int} (h : litOk n x = true) : 0 ≤ varI x ∧ varI x < n := by
  rw [litOk_iff] at h; unfold varI; split <;> omega
/-- The error of a clause whose variables come behind the last one. -/
def normE (n : Int) : Int → List Int → Int
  | _, [] => 0
  | last, x :: c => if litOk n x = false then 2 else if varI x ≤ last then 9 else normE n (varI x) c
def checkL (n : Int) : List (List Int) → Int
  | [] => 0
  | c :: l => if normE n (-1) c ≠ 0 then normE n (-1) c else checkL n l
def checkC (n : Int) (l : List (List Int)) : Int := if n < 0 ∨ 12 < n then 2 else if 64 < l.length then 8 else checkL n l
theorem checkL_zero {n : Int} : ∀ {l : List (List Int)}, checkL n l = 0 ↔ ∀ c ∈ l, normE n (-1) c = 0
  | [] => by simp [checkL]
  | c :: l => by
    unfold checkL
    by_cases h : normE n (-1) c = 0
    · rw [if_neg (by simpa using h), checkL_zero]; simp [h]
    · rw [if_pos h]; simp [h]
theorem checkC_zero {n : Int} {l : List (List Int)} (h : checkC n l = 0) : 0 ≤ n ∧ n ≤ 12 ∧ l.length ≤ 64 ∧ ∀ c ∈ l, normE n (-1) c = 0 := by
  unfold checkC at h
  by_cases h1 : n < 0 ∨ 12 < n
  · rw [if_pos h1] at h; cases h
  · rw [if_neg h1] at h
    by_cases h2 : 64 < l.length
    · rw [if_pos h2] at h; cases h
    · rw [if_neg h2, checkL_zero] at h
      exact ⟨by omega, by omega, by omega, h⟩
/-- A clause in normal form: literals whose variables rise. -/
theorem normE_zero {n : Int} : ∀ {c : List Int} {last : Int}, normE n last c = 0 ↔ (∀ x ∈ c, litOk n x = true ∧ last < varI x) ∧ c.Pairwise fun a b => varI a < varI b
  | [], last => by simp [normE]
  | x :: c, last => by
    unfold normE
    by_cases h1 : litOk n x = false
    · rw [if_pos h1]; simp [h1]
    · rw [if_neg h1]
      have h1' : litOk n x = true := by simpa using h1
      by_cases h2 : varI x ≤ last
      · rw [if_pos h2]
        simp only [List.mem_cons, forall_eq_or_imp]
        constructor
        · intro h; cases h
        · rintro ⟨⟨⟨_, h⟩, _⟩, _⟩; omega
      · rw [if_neg h2, normE_zero, List.pairwise_cons]
        simp only [List.mem_cons, forall_eq_or_imp]
        constructor
        · rintro ⟨h3, h4⟩
          exact ⟨⟨⟨h1', by omega⟩, fun y hy => ⟨(h3 y hy).1, by have := (h3 y hy).2; omega⟩⟩, fun y hy => (h3 y hy).2, h4⟩
        · rintro ⟨⟨_, h3⟩, h4, h5⟩
          exact ⟨fun y hy => ⟨(h3 y hy).1, h4 y hy⟩, h5⟩
theorem normE_snoc {n : Int} (x : Int) : ∀ {c : List Int} {last : Int}, normE n last c = 0 → normE n last (c ++ [x]) = normE n ((c.map varI).getLastD last) [x]
  | [], last, _ => rfl
  | y :: c, last, h => by
    unfold normE at h
    by_cases h1 : litOk n y = false
    · rw [if_pos h1] at h; cases h
    · rw [if_neg h1] at h
      by_cases h2 : varI y ≤ last
      · rw [if_pos h2] at h; cases h
      · rw [if_neg h2] at h
        rw [List.cons_append, normE, if_neg h1, if_neg h2, normE_snoc x h]
        simp [List.getLastD]
        cases c <;> simp
theorem litOk_mono {n m x : Int} (h : n ≤ m) (hx : litOk n x = true) : litOk m x = true := by
  rw [litOk_iff] at *; omega
theorem varI_inj {x y : Int} (hx : x ≠ 0) (hy : y ≠ 0) (h : varI x = varI y) : x = y ∨ x = -y := by
  unfold varI at h; split at h <;> split at h <;> omega
theorem varI_neg {x : Int} (hx : x ≠ 0) : varI (-x) = varI x := by unfold varI; split <;> split <;> omega
end Rs
end Go.Pd
