/- Resolution: contract: the search for a refutation. -/
import Derived.Test.YtigkaakdjibakaaD4
set_option linter.unusedSectionVars false
set_option linter.unusedVariables false
set_option linter.unusedSimpArgs false
set_option linter.defProp false
set_option maxRecDepth 20000
namespace Go.Pd
open Go Go.Proofs
open Rs
namespace Rs
/-- A literal below idx that the valuation makes false. -/
def falseL (idx : Int) (v : Nat) (x : Int) : Bool := decide (varI x < idx) && !mkB v x
def ffalse (idx : Int) (v : Nat) : List (List Int) → Nat → Option Nat
  | [], _ => none
  | c :: r, i => if c.all (falseL idx v) = true then some i else ffalse idx v r (i + 1)
theorem ffalse_lt {idx : Int} {v : Nat} : ∀ {l : List (List Int)} {i j : Nat}, ffalse idx v l i = some j → i ≤ j ∧ j < i + l.length
  | [], _, _, h => by cases h
  | c :: r, i, j, h => by
    unfold ffalse at h
    by_cases hc : c.all (falseL idx v) = true
    · rw [if_pos hc] at h; cases h; simp
    · rw [if_neg hc] at h
      have := ffalse_lt h
      rw [List.length_cons]; omega
/-- The search. -/
def refuteS (l : List (List Int)) : Nat → Nat → Nat → RS → Int × RS
  | m, idx, v, s => match ffalse idx v l 0 with
    | some i => inputS l i s
    | none => match m with
      | 0 => (-1, s)
      | m + 1 =>
        let p := refuteS l m (idx + 1) v s
        if p.1 < 0 ∨ (idx : Int) + 1 ∉ (p.2.ls.getD p.1.toNat ln0).cl then p else
        let q := refuteS l m (idx + 1) (v + 2 ^ idx) p.2
        if q.1 < 0 ∨ -(idx : Int) - 1 ∉ (q.2.ls.getD q.1.toNat ln0).cl then q else
        (q.2.ls.length, ⟨q.2.ls ++ [⟨(resolveA (q.2.ls.getD p.1.toNat ln0).cl (q.2.ls.getD q.1.toNat ln0).cl idx).1, p.1, q.1, idx⟩], q.2.us⟩)
/-- What is used is there. -/
def okS (s : RS) : Prop := ∀ x y, ulook x s.us = some y → 0 ≤ y ∧ y < s.ls.length
theorem ulook_snoc {x k y : Int} : ∀ {u : List (Int × Int)}, ulook x (u ++ [(k, y)]) = (ulook x u).or (if x = k then some y else none)
  | [] => by simp [ulook]
  | (k', y') :: r => by
    show ulook x ((k', y') :: (r ++ [(k, y)])) = _
    unfold ulook
    by_cases h : x = k'
    · rw [if_pos h, if_pos h]; rfl
    · rw [if_neg h, if_neg h]; exact ulook_snoc
theorem input_ok {l : List (List Int)} {i : Nat} {s : RS} (h : okS s) : okS (inputS l i s).2 ∧ 0 ≤ (inputS l i s).1 ∧ (inputS l i s).1 < (inputS l i s).2.ls.length ∧ s.ls.length ≤ (inputS l i s).2.ls.length ∧ (inputS l i s).2.ls.length ≤ s.ls.length + 1 := by
  unfold inputS
  cases hu : ulook i s.us with
  | some y => exact ⟨h, (h _ _ hu).1, (h _ _ hu).2, Nat.le_refl _, Nat.le_succ _⟩
  | none =>
    refine ⟨fun x y hxy => ?_, by simp, by simp; omega, by simp, by simp⟩
    simp only at hxy ⊢
    rw [ulook_snoc] at hxy
    rw [List.length_append, List.length_singleton]
    cases hx : ulook x s.us with
    | some z => rw [hx] at hxy; simp at hxy; subst hxy; have := h _ _ hx; omega
    | none =>
      rw [hx] at hxy
      simp at hxy
      omega
theorem refute_ok {l : List (List Int)} : ∀ {m idx v : Nat} {s : RS}, okS s → okS (refuteS l m idx v s).2 ∧ -1 ≤ (refuteS l m idx v s).1 ∧ (refuteS l m idx v s).1 < (refuteS l m idx v s).2.ls.length ∧ s.ls.length ≤ (refuteS l m idx v s).2.ls.length ∧ (refuteS l m idx v s).2.ls.length + 1 ≤ s.ls.length + 2 ^ (m + 1) := by
  intro m
  induction m with
  | zero =>
    intro idx v s h
    unfold refuteS
    cases hf : ffalse idx v l 0 with
    | some i =>
      obtain ⟨h1, h2, h3, h4, h5⟩ := input_ok (l := l) (i := i) h
      exact ⟨h1, by simp only; omega, h3, h4, by simp only; omega⟩
    | none => exact ⟨h, by simp, by simp only; omega, Nat.le_refl _, by simp⟩
  | succ m ih =>
    intro idx v s h
    have hp2 : 2 ^ (m + 1 + 1) = 2 ^ (m + 1) + 2 ^ (m + 1) := by rw [Nat.pow_succ 2 (m + 1)]; omega
    have hp0 : 0 < 2 ^ (m + 1) := Nat.two_pow_pos _
    unfold refuteS
    cases hf : ffalse idx v l 0 with
    | some i =>
      obtain ⟨h1, h2, h3, h4, h5⟩ := input_ok (l := l) (i := i) h
      exact ⟨h1, by simp only; omega, h3, h4, by simp only; omega⟩
    | none =>
      simp only
      obtain ⟨a1, a2, a3, a4, a5⟩ := ih (idx := idx + 1) (v := v) h
      generalize refuteS l m (idx + 1) v s = p at a1 a2 a3 a4 a5
      by_cases hc : p.1 < 0 ∨ (idx : Int) + 1 ∉ (p.2.ls.getD p.1.toNat ln0).cl
      · rw [if_pos hc]; exact ⟨a1, a2, a3, a4, by omega⟩
      · rw [if_neg hc]
        obtain ⟨b1, b2, b3, b4, b5⟩ := ih (idx := idx + 1) (v := v + 2 ^ idx) a1
        generalize refuteS l m (idx + 1) (v + 2 ^ idx) p.2 = q at b1 b2 b3 b4 b5
        by_cases hd : q.1 < 0 ∨ -(idx : Int) - 1 ∉ (q.2.ls.getD q.1.toNat ln0).cl
        · rw [if_pos hd]; exact ⟨b1, b2, b3, by omega, by omega⟩
        · rw [if_neg hd]
          refine ⟨fun x y hxy => ?_, by simp only; omega, by simp; omega, by simp; omega, by simp; omega⟩
          have := b1 x y hxy
          simp only [List.length_append, List.length_singleton]
          omega
end Rs
end Go.Pd
