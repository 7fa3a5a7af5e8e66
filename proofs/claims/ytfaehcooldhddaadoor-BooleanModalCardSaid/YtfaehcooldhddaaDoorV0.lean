/- Formulas: plain: the operators and what they use; formulas that are propositional. -/
import Derived.Test.YtfaehcooldhddaaDoorG1
set_option linter.unusedSectionVars false
set_option linter.unusedVariables false
set_option linter.unusedSimpArgs false
set_option linter.defProp false
set_option maxRecDepth 20000
namespace Go.Pd
open Go Go.Proofs
open Rs Fm
namespace Fm
theorem op_cases (op : Int) : op = 1 ∨ op = 2 ∨ op = 3 ∨ op = 4 ∨ op = 5 ∨ op = 6 ∨ op = 7 ∨ op = 8 ∨ op = 9 ∨ op = 10 ∨ op = 11 ∨ op = 12 ∨ op = 13 ∨ op = 14 ∨ op = 15 ∨ op = 16 ∨ op = 17 ∨ op = 18 ∨ op = 19 ∨ op = 20 ∨ op = 21 ∨ op < 1 ∨ 21 < op := by omega
theorem uses_out {op : Int} (h : op < 1 ∨ 21 < op) : usesA op = (none0, false) := if_pos h
theorem uses_x (op : Int) : (usesA op).1.x = (decide (4 ≤ op) && decide (op ≤ 21)) := by
  rcases op_cases op with rfl | rfl | rfl | rfl | rfl | rfl | rfl | rfl | rfl | rfl | rfl | rfl | rfl | rfl | rfl | rfl | rfl | rfl | rfl | rfl | rfl | h | h
  rotate_right 2
  · rw [uses_out (.inl h), decide_eq_false (by omega)]; rfl
  · rw [uses_out (.inr h), decide_eq_false (show ¬ op ≤ 21 by omega), Bool.and_false]; rfl
  all_goals rfl
theorem uses_g (op : Int) : (usesA op).1.gr = (decide (11 ≤ op) && decide (op ≤ 13)) := by
  rcases op_cases op with rfl | rfl | rfl | rfl | rfl | rfl | rfl | rfl | rfl | rfl | rfl | rfl | rfl | rfl | rfl | rfl | rfl | rfl | rfl | rfl | rfl | h | h
  rotate_right 2
  · rw [uses_out (.inl h), decide_eq_false (by omega)]; rfl
  · rw [uses_out (.inr h), decide_eq_false (show ¬ op ≤ 13 by omega), Bool.and_false]; rfl
  all_goals rfl
theorem uses_fa (op : Int) : (op == 3) = (usesA op).1.fa := by
  rcases op_cases op with rfl | rfl | rfl | rfl | rfl | rfl | rfl | rfl | rfl | rfl | rfl | rfl | rfl | rfl | rfl | rfl | rfl | rfl | rfl | rfl | rfl | h | h
  rotate_right 2
  · rw [uses_out (.inl h)]; simp [none0]; omega
  · rw [uses_out (.inr h)]; simp [none0]; omega
  all_goals rfl
theorem uses_ev (op : Int) : (op == 17) = (usesA op).1.ev := by
  rcases op_cases op with rfl | rfl | rfl | rfl | rfl | rfl | rfl | rfl | rfl | rfl | rfl | rfl | rfl | rfl | rfl | rfl | rfl | rfl | rfl | rfl | rfl | h | h
  rotate_right 2
  · rw [uses_out (.inl h)]; simp [none0]; omega
  · rw [uses_out (.inr h)]; simp [none0]; omega
  all_goals rfl
theorem uses_ok {op : Int} (h1 : ¬ op < 1) (h2 : ¬ 21 < op) : (usesA op).2 = true := by
  rcases op_cases op with rfl | rfl | rfl | rfl | rfl | rfl | rfl | rfl | rfl | rfl | rfl | rfl | rfl | rfl | rfl | rfl | rfl | rfl | rfl | rfl | rfl | h | h
  rotate_right 2
  · omega
  · omega
  all_goals rfl
theorem frag_zero {p : Nd} {k : Int} (h : nodeE p k = 0) : fragN p = 0 ↔ p.op ≤ 8 := by
  have hok := (nodeE_iff.1 h).1
  unfold fragN
  generalize p.op = op at hok
  rcases op_cases op with rfl | rfl | rfl | rfl | rfl | rfl | rfl | rfl | rfl | rfl | rfl | rfl | rfl | rfl | rfl | rfl | rfl | rfl | rfl | rfl | rfl | h | h
  rotate_right 2
  · rw [uses_out (.inl h)] at hok; cases hok
  · rw [uses_out (.inr h)] at hok; cases hok
  all_goals simp [usesA, none0]
theorem unionN_zero {m : Nd → Nat} : ∀ {l : List Nd}, unionN m l = 0 ↔ ∀ p ∈ l, m p = 0 := by
  intro l
  have key : ∀ (l : List Nd) (a : Nat), l.foldl (fun a p => a ||| m p) a = 0 ↔ a = 0 ∧ ∀ p ∈ l, m p = 0 := by
    intro l
    induction l with
    | nil => simp
    | cons p r ih =>
      intro a
      simp only [List.foldl_cons, ih, List.mem_cons, forall_eq_or_imp]
      rw [Nat.or_eq_zero_iff]
      constructor
      · rintro ⟨⟨h1, h2⟩, h3⟩; exact ⟨h1, h2, h3⟩
      · rintro ⟨h1, h2, h3⟩; exact ⟨⟨h1, h2⟩, h3⟩
  rw [unionN, key]
  simp
theorem frags_zero {f : List Nd} : fragsA f = 0 ↔ ∀ p ∈ compactA f, p.op ≤ 8 := by
  unfold fragsA
  rw [unionN_zero]
  constructor
  · intro h p hp
    obtain ⟨k, hk⟩ := mem_nd (validC f) hp
    exact (frag_zero hk).1 (h p hp)
  · intro h p hp
    obtain ⟨k, hk⟩ := mem_nd (validC f) hp
    exact (frag_zero hk).2 (h p hp)
theorem agent_zero {p : Nd} {k : Int} (h : nodeE p k = 0) (h8 : p.op ≤ 8) : agentN p = 0 := by
  obtain ⟨hok, _, _, h4, _⟩ := nodeE_iff.1 h
  unfold agentN
  generalize p.op = op at hok h4 h8
  rcases op_cases op with rfl | rfl | rfl | rfl | rfl | rfl | rfl | rfl | rfl | rfl | rfl | rfl | rfl | rfl | rfl | rfl | rfl | rfl | rfl | rfl | rfl | h | h
  rotate_right 2
  · rw [uses_out (.inl h)] at hok; cases hok
  · omega
  all_goals first | omega | (simp [usesA, none0] at h4 ⊢; omega)
theorem agents_zero {f : List Nd} (h : fragsA f = 0) : agentsA f = 0 := by
  unfold agentsA
  rw [unionN_zero]
  intro p hp
  obtain ⟨k, hk⟩ := mem_nd (validC f) hp
  exact agent_zero hk (frags_zero.1 h p hp)
theorem fits_prop {f : List Nd} {n : Nat} (hc : checkF f = 0) (h : fragsA f = 0) (hn : n ≤ 6) : fitsB f 0 n = decide (factsA f / 2 ^ n = 0) := by
  unfold fitsB belowB
  rw [agents_zero h, decide_eq_true hc, decide_eq_false (show ¬ (31 : Int) ≤ (n : Int) by omega), Int.toNat_natCast]
  simp
end Fm
end Go.Pd
