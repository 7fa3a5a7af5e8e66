/- Merging: the plain laws: distances, ranks by sum and by max, best valuations. Of no program. -/
import Derived.Test.YtjaohaomninnlaaX6
set_option linter.unusedSectionVars false
set_option linter.unusedVariables false
set_option linter.unusedSimpArgs false
set_option linter.defProp false
set_option maxRecDepth 20000
namespace Go.Pd.Mg
open Go

/-! ### Folds by the least and the greatest -/
def minF (f : Nat → Int) (p : Nat → Bool) (n0 : Int) : Nat → Int
  | 0 => n0
  | k + 1 => if p k then min (minF f p n0 k) (f k) else minF f p n0 k
theorem minF_le {f : Nat → Int} {p : Nat → Bool} {n0 : Int} : ∀ k, minF f p n0 k ≤ n0 ∧ ∀ i, i < k → p i = true → minF f p n0 k ≤ f i
  | 0 => ⟨Int.le_refl _, fun i hi => by omega⟩
  | k + 1 => by
    obtain ⟨h1, h2⟩ := minF_le (f := f) (p := p) (n0 := n0) k
    unfold minF
    split
    · refine ⟨by omega, fun i hi hp => ?_⟩
      by_cases e : i = k
      · subst e; omega
      · have := h2 i (by omega) hp; omega
    · rename_i hk
      refine ⟨h1, fun i hi hp => ?_⟩
      by_cases e : i = k
      · subst e; exact absurd hp hk
      · exact h2 i (by omega) hp
theorem minF_ex {f : Nat → Int} {p : Nat → Bool} {n0 : Int} : ∀ k, minF f p n0 k = n0 ∨ ∃ i, i < k ∧ p i = true ∧ minF f p n0 k = f i
  | 0 => .inl rfl
  | k + 1 => by
    unfold minF
    split
    · rename_i hk
      rcases minF_ex (f := f) (p := p) (n0 := n0) k with h | ⟨i, hi, hp, h⟩
      · by_cases h2 : f k < minF f p n0 k
        · exact .inr ⟨k, by omega, hk, by omega⟩
        · exact .inl (by omega)
      · by_cases h2 : f k < minF f p n0 k
        · exact .inr ⟨k, by omega, hk, by omega⟩
        · exact .inr ⟨i, by omega, hp, by omega⟩
    · rcases minF_ex (f := f) (p := p) (n0 := n0) k with h | ⟨i, hi, hp, h⟩
      · exact .inl h
      · exact .inr ⟨i, by omega, hp, h⟩
theorem minF_ge {f : Nat → Int} {p : Nat → Bool} {n0 b : Int} (h0 : b ≤ n0) (h : ∀ i, b ≤ f i) (k : Nat) : b ≤ minF f p n0 k := by
  rcases minF_ex (f := f) (p := p) (n0 := n0) k with e | ⟨i, _, _, e⟩
  · rw [e]; exact h0
  · rw [e]; exact h i

/-! ### How far two valuations are apart -/
def hd2 (u v : Nat) : Nat → Nat
  | 0 => 0
  | k + 1 => hd2 u v k + if u.testBit k != v.testBit k then 1 else 0
theorem hd2_comm (u v : Nat) : ∀ k, hd2 u v k = hd2 v u k
  | 0 => rfl
  | k + 1 => by
    have : (u.testBit k != v.testBit k) = (v.testBit k != u.testBit k) := by cases u.testBit k <;> cases v.testBit k <;> rfl
    unfold hd2; rw [hd2_comm u v k, this]
theorem hd2_le (u v : Nat) : ∀ k, hd2 u v k ≤ k
  | 0 => Nat.le_refl _
  | k + 1 => by have := hd2_le u v k; unfold hd2; split <;> omega
theorem hd2_self (u : Nat) : ∀ k, hd2 u u k = 0
  | 0 => rfl
  | k + 1 => by unfold hd2; rw [hd2_self u k]; simp
theorem hd2_zero {u v : Nat} : ∀ {k}, hd2 u v k = 0 → ∀ i, i < k → u.testBit i = v.testBit i
  | 0, _, i, hi => by omega
  | k + 1, h, i, hi => by
    unfold hd2 at h
    by_cases e : i = k
    · subst e
      cases hu : u.testBit i <;> cases hv : v.testBit i <;> simp_all
    · exact hd2_zero (k := k) (by omega) i (by omega)
theorem hd2_eq {n u v : Nat} (hu : u < 2 ^ n) (hv : v < 2 ^ n) (h : hd2 u v n = 0) : u = v := by
  apply Nat.eq_of_testBit_eq
  intro i
  by_cases hi : i < n
  · exact hd2_zero h i hi
  · have h1 : 2 ^ n ≤ 2 ^ i := Nat.pow_le_pow_right (by omega) (by omega)
    rw [Nat.testBit_lt_two_pow (by omega), Nat.testBit_lt_two_pow (by omega)]

/-- The distance of a valuation from a belief. -/
def distB (n : Nat) (b : BitVec 64) (v : Nat) : Int := minF (fun u => (hd2 u v n : Int)) (fun u => b.getLsbD u) n (2 ^ n)
theorem distB_range (n : Nat) (b : BitVec 64) (v : Nat) : 0 ≤ distB n b v ∧ distB n b v ≤ n :=
  ⟨minF_ge (by omega) (fun i => by omega) _, (minF_le _).1⟩
theorem distB_le {n : Nat} {b : BitVec 64} {u : Nat} (hu : u < 2 ^ n) (hb : b.getLsbD u = true) (v : Nat) : distB n b v ≤ hd2 u v n := (minF_le _).2 u hu hb
theorem distB_ex {n : Nat} {b : BitVec 64} (hb : ∃ u, u < 2 ^ n ∧ b.getLsbD u = true) (v : Nat) : ∃ u, u < 2 ^ n ∧ b.getLsbD u = true ∧ distB n b v = hd2 u v n := by
  rcases minF_ex (f := fun u => (hd2 u v n : Int)) (p := fun u => b.getLsbD u) (n0 := (n : Int)) (2 ^ n) with h | ⟨u, hu, hp, h⟩
  · obtain ⟨u, hu, hp⟩ := hb
    refine ⟨u, hu, hp, ?_⟩
    have h1 := distB_le hu hp v
    have h2 := hd2_le u v n
    have h3 : distB n b v = n := h
    omega
  · exact ⟨u, hu, hp, h⟩
theorem distB_zero {n : Nat} {b : BitVec 64} (hb : ∃ u, u < 2 ^ n ∧ b.getLsbD u = true) {v : Nat} (hv : v < 2 ^ n) : distB n b v = 0 ↔ b.getLsbD v = true := by
  constructor
  · intro h
    obtain ⟨u, hu, hp, e⟩ := distB_ex hb v
    have : u = v := hd2_eq hu hv (by omega)
    rw [← this]; exact hp
  · intro h
    have h1 := distB_le hv h v
    rw [hd2_self] at h1
    have := (distB_range n b v).1
    omega
/-- Two beliefs: to each of the one there is one of the other that is no farther from it than that is from this. -/
theorem distB_back {n : Nat} {a b : BitVec 64} (hb : ∃ u, u < 2 ^ n ∧ b.getLsbD u = true) {v : Nat} (hv : v < 2 ^ n) (ha : a.getLsbD v = true) : ∃ u, u < 2 ^ n ∧ b.getLsbD u = true ∧ distB n a u ≤ distB n b v := by
  obtain ⟨u, hu, hp, e⟩ := distB_ex hb v
  refine ⟨u, hu, hp, ?_⟩
  have := distB_le hv ha u
  rw [hd2_comm] at this
  omega

/-- The distances of a valuation from all beliefs. -/
def distL (n : Nat) (p : List (BitVec 64)) (v : Nat) : List Int := p.map fun b => distB n b v
def sumL (l : List Int) : Int := l.foldl (· + ·) 0
def maxL (l : List Int) : Int := l.foldl max 0

/-! ### The best of a set -/
/-- A valuation of a set whose rank is the least there. -/
def isBest (r : List Int) (s : BitVec 64) (k v : Nat) : Prop := v < k ∧ s.getLsbD v = true ∧ ∀ u, u < k → s.getLsbD u = true → r.getD v 0 ≤ r.getD u 0
/-- The program's way: the set so far, the least rank so far. -/
def bestTo (r : List Int) (s : BitVec 64) : Nat → BitVec 64 × Int
  | 0 => (0#64, 0)
  | v + 1 =>
    if s.getLsbD v = false ∨ ((bestTo r s v).1 ≠ 0#64 ∧ (bestTo r s v).2 < r.getD v 0) then bestTo r s v
    else if (bestTo r s v).1 = 0#64 ∨ r.getD v 0 < (bestTo r s v).2 then (1#64 <<< v, r.getD v 0)
    else ((bestTo r s v).1 ||| 1#64 <<< v, (bestTo r s v).2)
def bestS (r : List Int) (s : BitVec 64) : BitVec 64 := (bestTo r s r.length).1
theorem one_bit {t j : Nat} (ht : t < 64) : (1#64 <<< t).getLsbD j = true ↔ j = t := by
  rw [BitVec.getLsbD_shiftLeft]
  by_cases hk : j < 64
  · by_cases hkt : j < t
    · simp [hk, hkt]; omega
    · simp only [hk, hkt, decide_true, Bool.true_and, decide_false, Bool.not_false]
      by_cases e : j = t
      · subst e; simp
      · have : j - t ≠ 0 := by omega
        simp [e]; omega
  · simp [hk]; omega
theorem ne_zero_bit {s : BitVec 64} {i : Nat} (h : s.getLsbD i = true) : s ≠ 0#64 := by rintro rfl; simp at h
theorem zero_of_bits {s : BitVec 64} (h : ∀ i, s.getLsbD i = false) : s = 0#64 := by
  apply BitVec.eq_of_getLsbD_eq
  intro i _
  rw [h]; simp
theorem bestTo_law (r : List Int) (s : BitVec 64) : ∀ k, k ≤ 64 → (∀ v, (bestTo r s k).1.getLsbD v = true ↔ isBest r s k v) ∧ ((bestTo r s k).1 = 0#64 ↔ ∀ v, v < k → s.getLsbD v = false) ∧ ((bestTo r s k).1 ≠ 0#64 → (∃ v, v < k ∧ s.getLsbD v = true ∧ (bestTo r s k).2 = r.getD v 0) ∧ ∀ u, u < k → s.getLsbD u = true → (bestTo r s k).2 ≤ r.getD u 0)
  | 0, _ => ⟨fun v => by simp [bestTo, isBest], by simp [bestTo], fun h => absurd rfl h⟩
  | k + 1, hk => by
    obtain ⟨h1, h2, h3⟩ := bestTo_law r s k (by omega)
    generalize hp : bestTo r s k = p at *
    obtain ⟨out, least⟩ := p
    simp only at h1 h2 h3
    have e : bestTo r s (k + 1) = if s.getLsbD k = false ∨ (out ≠ 0#64 ∧ least < r.getD k 0) then (out, least) else if out = 0#64 ∨ r.getD k 0 < least then (1#64 <<< k, r.getD k 0) else (out ||| 1#64 <<< k, least) := by
      rw [bestTo, hp]
    rw [e]
    by_cases hb : s.getLsbD k = false
    · rw [if_pos (.inl hb)]
      have same : ∀ v, isBest r s k v ↔ isBest r s (k + 1) v := by
        intro v
        unfold isBest
        constructor
        · rintro ⟨a, b, c⟩
          refine ⟨by omega, b, fun u hu hs => ?_⟩
          by_cases eu : u = k
          · subst eu; rw [hb] at hs; cases hs
          · exact c u (by omega) hs
        · rintro ⟨a, b, c⟩
          have : v ≠ k := by rintro rfl; rw [hb] at b; cases b
          exact ⟨by omega, b, fun u hu hs => c u (by omega) hs⟩
      refine ⟨fun v => (h1 v).trans (same v), h2.trans ⟨fun h v hv => ?_, fun h v hv => h v (by omega)⟩, fun hn => ?_⟩
      · by_cases ev : v = k
        · rw [ev]; exact hb
        · exact h v (by omega)
      · obtain ⟨⟨v, a, b, c⟩, d⟩ := h3 hn
        refine ⟨⟨v, by omega, b, c⟩, fun u hu hs => ?_⟩
        by_cases eu : u = k
        · subst eu; rw [hb] at hs; cases hs
        · exact d u (by omega) hs
    · have hb' : s.getLsbD k = true := by simpa using hb
      by_cases hworse : out ≠ 0#64 ∧ least < r.getD k 0
      · rw [if_pos (.inr hworse)]
        obtain ⟨⟨v0, a0, b0, c0⟩, d0⟩ := h3 hworse.1
        refine ⟨fun v => (h1 v).trans ?_, ?_, fun _ => ⟨⟨v0, by omega, b0, c0⟩, fun u hu hs => ?_⟩⟩
        · unfold isBest
          constructor
          · rintro ⟨a, b, c⟩
            refine ⟨by omega, b, fun u hu hs => ?_⟩
            by_cases eu : u = k
            · subst eu; have := c v0 a0 b0; omega
            · exact c u (by omega) hs
          · rintro ⟨a, b, c⟩
            have : v ≠ k := by rintro rfl; have := c v0 (by omega) b0; omega
            exact ⟨by omega, b, fun u hu hs => c u (by omega) hs⟩
        · constructor
          · intro h; exact absurd h hworse.1
          · intro h; have := h k (by omega); rw [hb'] at this; cases this
        · by_cases eu : u = k
          · subst eu; omega
          · exact d0 u (by omega) hs
      · rw [if_neg (by rintro (h | h); exact hb h; exact hworse h)]
        by_cases hbet : out = 0#64 ∨ r.getD k 0 < least
        · rw [if_pos hbet]
          have all : ∀ u, u < k → s.getLsbD u = true → r.getD k 0 < r.getD u 0 := by
            intro u hu hs
            rcases hbet with h | h
            · have := h2.1 h u hu; rw [hs] at this; cases this
            · by_cases ho : out = 0#64
              · have := h2.1 ho u hu; rw [hs] at this; cases this
              · have := (h3 ho).2 u hu hs; omega
          refine ⟨fun v => ?_, ?_, fun _ => ⟨⟨k, by omega, hb', rfl⟩, fun u hu hs => ?_⟩⟩
          · simp only
            rw [one_bit (by omega)]
            unfold isBest
            constructor
            · rintro rfl
              refine ⟨by omega, hb', fun u hu hs => ?_⟩
              by_cases eu : u = v
              · subst eu; omega
              · have := all u (by omega) hs; omega
            · rintro ⟨a, b, c⟩
              apply Classical.byContradiction
              intro hne
              have h1 := all v (by omega) b
              have h2 := c k (by omega) hb'
              omega
          · constructor
            · intro h
              exact absurd h (ne_zero_bit (i := k) ((one_bit (by omega)).2 rfl))
            · intro h; have := h k (by omega); rw [hb'] at this; cases this
          · by_cases eu : u = k
            · subst eu; simp only; omega
            · have := all u (by omega) hs; simp only; omega
        · rw [if_neg hbet]
          have ho : out ≠ 0#64 := fun h => hbet (.inl h)
          obtain ⟨⟨v0, a0, b0, c0⟩, d0⟩ := h3 ho
          have heq : r.getD k 0 = least := by
            have : ¬ r.getD k 0 < least := fun h => hbet (.inr h)
            have : ¬ least < r.getD k 0 := fun h => hworse ⟨ho, h⟩
            omega
          refine ⟨fun v => ?_, ?_, fun _ => ⟨⟨v0, by omega, b0, c0⟩, fun u hu hs => ?_⟩⟩
          · simp only
            rw [BitVec.getLsbD_or, Bool.or_eq_true, h1, one_bit (by omega)]
            unfold isBest
            constructor
            · rintro (⟨a, b, c⟩ | rfl)
              · refine ⟨by omega, b, fun u hu hs => ?_⟩
                by_cases eu : u = k
                · subst eu; have := c v0 a0 b0; omega
                · exact c u (by omega) hs
              · refine ⟨by omega, hb', fun u hu hs => ?_⟩
                by_cases eu : u = v
                · subst eu; omega
                · have := d0 u (by omega) hs; omega
            · rintro ⟨a, b, c⟩
              by_cases ev : v = k
              · exact .inr ev
              · exact .inl ⟨by omega, b, fun u hu hs => c u (by omega) hs⟩
          · constructor
            · intro h
              have hne : (out ||| 1#64 <<< k).getLsbD k = true := by
                rw [BitVec.getLsbD_or, Bool.or_eq_true]; exact .inr ((one_bit (by omega)).2 rfl)
              exact absurd h (ne_zero_bit hne)
            · intro h; have := h k (by omega); rw [hb'] at this; cases this
          · by_cases eu : u = k
            · subst eu; simp only; omega
            · exact d0 u (by omega) hs
theorem bestS_bit {r : List Int} {s : BitVec 64} (hl : r.length ≤ 64) (v : Nat) : (bestS r s).getLsbD v = true ↔ isBest r s r.length v := (bestTo_law r s r.length hl).1 v
theorem bestS_zero {r : List Int} {s : BitVec 64} (hl : r.length ≤ 64) : bestS r s = 0#64 ↔ ∀ v, v < r.length → s.getLsbD v = false := (bestTo_law r s r.length hl).2.1
end Go.Pd.Mg
