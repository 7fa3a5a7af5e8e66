/- Boolean: plain: what the prime implicants cover. -/
import Derived.Test.YtfaehcooldhddaaDoorH3
set_option linter.unusedSectionVars false
set_option linter.unusedVariables false
set_option linter.unusedSimpArgs false
set_option linter.defProp false
set_option maxRecDepth 20000
namespace Go.Pd
open Go Go.Proofs
open Rs Fm
namespace Fm
theorem clr_le (x b : Nat) : ∀ i, (clr x b).testBit i = true → x.testBit i = true := fun i h => by
  rw [clr_bit, Bool.and_eq_true] at h; exact h.1
/-- Below a cube that covers a valuation, a prime covers it. -/
theorem prime_above {t : BitVec 64} {n u : Nat} (hn : n ≤ 6) : ∀ (k : Nat) (p : Nat × Nat), cubeB t n p = true → pc p.1 = k → u &&& p.1 = p.2 → ∃ q, primeB t n q = true ∧ u &&& q.1 = q.2
  | 0, p, hp, hk, hu => ⟨p, prime_iff.2 ⟨hp, fun b hb hb1 => by
      obtain ⟨c1, _, _⟩ := cube_iff.1 hp
      have := pc_clr p.1 (by have := two64 hn; omega) b hb hb1
      omega⟩, hu⟩
  | k + 1, p, hp, hk, hu => by
    by_cases h : primeB t n p = true
    · exact ⟨p, h, hu⟩
    have h2 : ∃ b, b < 6 ∧ p.1.testBit b = true ∧ cubeB t n (clr p.1 b, clr p.2 b) = true := by
      refine Classical.byContradiction fun hn2 => h (prime_iff.2 ⟨hp, fun b hb hb1 => ?_⟩)
      cases hc : cubeB t n (clr p.1 b, clr p.2 b)
      · rfl
      · exact absurd ⟨b, hb, hb1, hc⟩ hn2
    obtain ⟨b, hb, hb1, hc⟩ := h2
    obtain ⟨c1, _, _⟩ := cube_iff.1 hp
    have := pc_clr p.1 (by have := two64 hn; omega) b hb hb1
    refine prime_above hn k (clr p.1 b, clr p.2 b) hc (by simp only; omega) (Nat.eq_of_testBit_eq fun i => ?_)
    have e := bit_at hu i
    rw [Nat.testBit_and] at e ⊢
    simp only
    rw [clr_bit, clr_bit, ← e, Bool.and_assoc]
/-- The primes cover just the table. -/
theorem covers {t : BitVec 64} {n u : Nat} (hn : n ≤ 6) (hu : u < 2 ^ n) : ((primesN t n).any fun p => decide (u &&& p.1 = p.2)) = t.getLsbD u := by
  rw [Bool.eq_iff_iff, List.any_eq_true]
  constructor
  · rintro ⟨p, hp, he⟩
    exact (cube_iff.1 (prime_iff.1 (primesN_mem.1 hp)).1).2.2 u hu (of_decide_eq_true he)
  · intro h
    have hc : cubeB t n (2 ^ n - 1, u) = true := by
      refine cube_iff.2 ⟨by have := Nat.two_pow_pos n; simp only; omega, Nat.and_two_pow_sub_one_of_lt_two_pow hu, fun v hv e => ?_⟩
      rw [Nat.and_two_pow_sub_one_of_lt_two_pow hv] at e
      rw [e]; exact h
    obtain ⟨q, h1, h2⟩ := prime_above hn _ (2 ^ n - 1, u) hc rfl (Nat.and_two_pow_sub_one_of_lt_two_pow hu)
    exact ⟨q, primesN_mem.2 h1, decide_eq_true h2⟩
theorem diff_bit {a b : Nat} (h : a &&& b ≠ a) : ∃ i, a.testBit i = true ∧ b.testBit i = false := by
  refine Classical.byContradiction fun hn => h (Nat.eq_of_testBit_eq fun i => ?_)
  rw [Nat.testBit_and]
  cases ha : a.testBit i
  · rfl
  · cases hb : b.testBit i
    · exact absurd ⟨i, ha, hb⟩ hn
    · rfl
/-- No prime is contained in another one. -/
theorem apart {t : BitVec 64} {n : Nat} (hn : n ≤ 6) {p q : Nat × Nat} (hp : primeB t n p = true) (hq : primeB t n q = true) (h1 : q.1 &&& p.1 = q.1) (h2 : p.2 &&& q.1 = q.2) : p = q := by
  obtain ⟨hpc, hpm⟩ := prime_iff.1 hp
  obtain ⟨c1, c2, c3⟩ := cube_iff.1 hpc
  obtain ⟨d1, d2, d3⟩ := cube_iff.1 (prime_iff.1 hq).1
  have h64 := two64 hn
  by_cases e : p.1 &&& q.1 = p.1
  · have e1 : p.1 = q.1 := by rw [← h1, ← e, Nat.and_comm, ← Nat.and_assoc, Nat.and_self]
    exact Prod.ext e1 (by rw [← h2, ← e1]; exact c2.symm)
  · obtain ⟨b, b1, b2⟩ := diff_bit e
    have hb6 := bit_lt6 (c := p.1) (by omega) b1
    have := hpm b hb6 b1
    rw [cube_iff.2 ⟨clr_lt c1, clr_sub c2, fun u hu eu => d3 u hu (Nat.eq_of_testBit_eq fun i => ?_)⟩] at this
    · cases this
    · have a1 := bit_at eu i
      have a2 := bit_at h1 i
      have a3 := bit_at h2 i
      simp only at a1
      rw [Nat.testBit_and, clr_bit, clr_bit] at a1
      rw [Nat.testBit_and] at a2 a3 ⊢
      by_cases hi : b = i
      · subst hi
        rw [b2] at a3 ⊢
        simp at a3 ⊢; exact a3
      · cases hq1 : q.1.testBit i
        · rw [hq1] at a3; simp at a3 ⊢; exact a3
        · rw [hq1] at a2 a3
          simp only [Bool.true_and] at a2
          rw [a2] at a1
          simp [hi] at a1 a3 ⊢
          rw [a1, ← a3]
/-- No fact of a prime can be left out. -/
theorem needed {t : BitVec 64} {n : Nat} {p : Nat × Nat} {b : Nat} (hp : primeB t n p = true) (hb : b < 6) (h : p.1.testBit b = true) : ∃ u, u < 2 ^ n ∧ u &&& clr p.1 b = clr p.2 b ∧ t.getLsbD u = false := by
  obtain ⟨hpc, hpm⟩ := prime_iff.1 hp
  obtain ⟨c1, c2, c3⟩ := cube_iff.1 hpc
  refine Classical.byContradiction fun hn => ?_
  have := hpm b hb h
  rw [cube_iff.2 ⟨clr_lt c1, clr_sub c2, fun u hu eu => ?_⟩] at this
  · cases this
  · cases hg : t.getLsbD u
    · exact absurd ⟨u, hu, eu, hg⟩ hn
    · rfl
def allC : List (Nat × Nat) := (List.range 16).flatMap fun c => ((List.range 16).filter fun v => decide (v &&& c = v)).map fun v => (c, v)
theorem allC_len : allC.length = 81 := by decide +kernel
theorem few_primes (t : BitVec 64) : (primesN t 4).length ≤ 81 := by
  rw [← allC_len]
  have hin : ∀ p ∈ primesN t 4, p ∈ allC := fun p hp => by
    obtain ⟨c1, c2, _⟩ := cube_iff.1 (prime_iff.1 (primesN_mem.1 hp)).1
    have := sub_le c2
    unfold allC
    simp only [List.mem_flatMap, List.mem_range, List.mem_map, List.mem_filter]
    exact ⟨p.1, by simpa using c1, p.2, ⟨by have : p.1 < 2 ^ 4 := c1; omega, decide_eq_true c2⟩, rfl⟩
  have := nodup_le allC.length ((primesN t 4).map fun p => allC.idxOf p) ?_ ?_
  · simpa using this
  · have hd := primesN_nodup t 4
    unfold List.Nodup at hd ⊢
    rw [List.pairwise_map]
    refine hd.imp_of_mem fun {a b} ha hb hne e => hne ?_
    have e1 := List.getElem_idxOf (List.idxOf_lt_length_iff.2 (hin a ha))
    have e2 := List.getElem_idxOf (List.idxOf_lt_length_iff.2 (hin b hb))
    rw [← e1, ← e2]
    congr 1
  · intro x hx
    obtain ⟨p, hp, rfl⟩ := List.mem_map.1 hx
    exact List.idxOf_lt_length_iff.2 (hin p hp)
end Fm
end Go.Pd
