/- Part V0. -/
import Derived.Test.YtjklmijiccabfaaKG1
set_option linter.unusedSectionVars false
set_option linter.unusedVariables false
set_option linter.unusedSimpArgs false
set_option linter.defProp false
set_option maxRecDepth 20000
set_option maxHeartbeats 1000000
namespace Go.Pd
open Go Go.Proofs
open Rs Fm
namespace Fm
theorem op_cases (op : Int) : op = 1 ∨ op = 2 ∨ op = 3 ∨ op = 4 ∨ op = 5 ∨ op = 6 ∨ op = 7 ∨ op = 8 ∨ op = 9 ∨ op = 10 ∨ op = 11 ∨ op = 12 ∨ op = 13 ∨ op = 14 ∨ op = 15 ∨ op = 16 ∨ op = 17 ∨ op = 18 ∨ op = 19 ∨ op = 20 ∨ op = 21 ∨ op < 1 ∨ 21 < op := by omega
theorem uses_out {op : Int} (h : op < 1 ∨ 21 < op) : usesA op = (none0, false) := if_pos h
theorem uses_x (op : Int) : (usesA op).1.x = (decide (4 ≤ op) && decide (op ≤ 21)) := by
 rcases op_cases op with rfl | rfl | rfl | rfl | rfl | rfl | rfl | rfl | rfl | rfl | rfl | rfl | rfl | rfl | rfl | rfl | rfl | rfl | rfl | rfl | rfl | h | h
 rotate_right 2
 ·rw [uses_out (.inl h), decide_eq_false (by omega)]; rfl
 ·rw [uses_out (.inr h), decide_eq_false (show ¬ op ≤ 21 by omega), Bool.and_false]; rfl
 all_goals rfl
theorem unionN_zero {m : Nd → Nat} : ∀ {l : List Nd}, unionN m l = 0 ↔ ∀ p ∈ l, m p = 0 := by
 intro l
 have key : ∀ (l : List Nd) (a : Nat), l.foldl (fun a p => a ||| m p) a = 0 ↔ a = 0 ∧ ∀ p ∈ l, m p = 0 := by
  intro l
  induction l with
  | nil => simp
  | cons p r ih =>
   intro a
   simp only [List.foldl_cons, ih, List.mem_cons, forall_eq_or_imp]
   rw [Nat.or_eq_zero_iff]
   constructor
   ·rintro ⟨⟨h1, h2⟩, h3⟩; exact ⟨h1, h2, h3⟩
   ·rintro ⟨h1, h2, h3⟩; exact ⟨⟨h1, h2⟩, h3⟩
 rw [unionN, key]
 simp
end Fm
end Go.Pd
