/- Merging: the plain laws: errors, majorities. Of no program. -/
import Derived.Test.YtjaohaomninnlaaG3
set_option linter.unusedSectionVars false
set_option linter.unusedVariables false
set_option linter.unusedSimpArgs false
set_option linter.defProp false
set_option maxRecDepth 20000
namespace Go.Pd.Mg
open Go
/-- All valuations of n facts. -/
def allM (n : Nat) : BitVec 64 := 1#64 <<< (2 ^ n) - 1#64
theorem allM_bit {n : Nat} (hn : n ≤ 4) (v : Nat) : (allM n).getLsbD v = true ↔ v < 2 ^ n := by
  have h16 := pow_le hn
  have hlt : 2 ^ 2 ^ n < 2 ^ 64 := Nat.pow_lt_pow_right (by omega) (by omega)
  have hp : 0 < 2 ^ 2 ^ n := Nat.two_pow_pos _
  have e : (allM n).toNat = 2 ^ 2 ^ n - 1 := by
    unfold allM
    have e1 : (1#64 <<< (2 ^ n)).toNat = 2 ^ 2 ^ n := by
      rw [BitVec.toNat_shiftLeft, Nat.shiftLeft_eq]
      show 1 * 2 ^ 2 ^ n % 2 ^ 64 = _
      rw [Nat.one_mul, Nat.mod_eq_of_lt hlt]
    rw [BitVec.toNat_sub_of_le (by rw [BitVec.le_def, e1]; exact hp), e1]
    rfl
  unfold BitVec.getLsbD
  rw [e, Nat.testBit_two_pow_sub_one]
  simp
def badM (n : Nat) (b : BitVec 64) : Int := if b &&& ~~~(allM n) ≠ 0#64 then 2 else if b = 0#64 then 11 else 0
def checkP (n : Nat) : List (BitVec 64) → Int
  | [] => 0
  | b :: p => if badM n b ≠ 0 then badM n b else checkP n p
def checkM (n : Int) (p : List (BitVec 64)) : Int := if n < 0 ∨ 4 < n then 2 else if 8 < p.length then 8 else checkP n.toNat p
theorem checkP_zero {n : Nat} : ∀ {p : List (BitVec 64)}, checkP n p = 0 ↔ ∀ b ∈ p, badM n b = 0
  | [] => by simp [checkP]
  | b :: p => by
    unfold checkP
    by_cases h : badM n b = 0
    · rw [if_neg (by omega), checkP_zero]; simp [h]
    · rw [if_pos h]; simp [h]
theorem badM_zero {n : Nat} {b : BitVec 64} (hn : n ≤ 4) (h : badM n b = 0) : (∀ v, b.getLsbD v = true → v < 2 ^ n) ∧ ∃ v, v < 2 ^ n ∧ b.getLsbD v = true := by
  unfold badM at h
  split at h
  · cases h
  · rename_i h1
    split at h
    · cases h
    · rename_i h2
      have h1' : b &&& ~~~(allM n) = 0#64 := by simpa using h1
      have hs : ∀ v, b.getLsbD v = true → v < 2 ^ n := fun v hv => (allM_bit hn v).1 (sub_zero.1 h1' v hv)
      obtain ⟨v, hv⟩ := nonzero_bit h2
      exact ⟨hs, v, hs v hv, hv⟩
theorem checkM_zero {n : Int} {p : List (BitVec 64)} (h : checkM n p = 0) : 0 ≤ n ∧ n ≤ 4 ∧ p.length ≤ 8 ∧ ∀ b ∈ p, badM n.toNat b = 0 := by
  unfold checkM at h
  split at h
  · cases h
  · split at h
    · cases h
    · exact ⟨by omega, by omega, by omega, checkP_zero.1 h⟩
theorem checkM_ne {n : Int} {p : List (BitVec 64)} (h : checkM n p = 0) : ∀ b ∈ p, ∃ u, u < 2 ^ n.toNat ∧ b.getLsbD u = true := by
  obtain ⟨h1, h2, h3, h4⟩ := checkM_zero h
  exact fun b hb => (badM_zero (by omega) (h4 b hb)).2

/-! ### The least number that passes a test -/
def leastF (f : Nat → Bool) : Nat → Nat → Nat
  | 0, k => k
  | fuel + 1, k => if f k then k else leastF f fuel (k + 1)
theorem leastF_law {f : Nat → Bool} {m : Nat} (h : f m = true) (hb : ∀ j, j < m → f j = false) : ∀ fuel k, k ≤ m → m - k ≤ fuel → leastF f fuel k = m
  | 0, k, h1, h2 => by unfold leastF; omega
  | fuel + 1, k, h1, h2 => by
    unfold leastF
    by_cases e : k = m
    · rw [e, if_pos h]
    · rw [if_neg (by rw [hb k (by omega)]; simp)]
      exact leastF_law h hb fuel (k + 1) (by omega) (by omega)

/-! ### Majorities -/
def ownL (n : Nat) (b : BitVec 64) : List Int := (List.range (2 ^ n)).map fun v => distB n b v
def sumsK (n : Nat) (p : List (BitVec 64)) (b : BitVec 64) (k : Nat) : List Int := (List.range (2 ^ n)).map fun v => sumL (distL n p v) + k * distB n b v
def stopK (n : Nat) (p : List (BitVec 64)) (b c : BitVec 64) (k : Nat) : Bool := bestS (sumsK n p b k) c &&& ~~~(bestS (ownL n b) c) == 0#64
theorem ranks_own (n : Nat) (b : BitVec 64) : ranksM 1 n [b] = ownL n b := by
  unfold ranksM ownL
  refine List.map_congr_left fun v _ => ?_
  unfold rankV
  simp [distL, sumL_cons, sumL_nil]
theorem ranks_sums (n : Nat) (p : List (BitVec 64)) (b : BitVec 64) : ranksM 1 n p = sumsK n p b 0 := by
  unfold ranksM sumsK
  refine List.map_congr_left fun v _ => ?_
  unfold rankV
  simp
theorem sum_range {m : Int} : ∀ {l : List Int}, (∀ x ∈ l, 0 ≤ x ∧ x ≤ m) → 0 ≤ sumL l ∧ sumL l ≤ l.length * m
  | [], _ => by simp [sumL_nil]
  | x :: l, h => by
    have h1 := sum_range (l := l) fun y hy => h y (by simp [hy])
    have h2 := h x (by simp)
    rw [sumL_cons, List.length_cons, Int.natCast_succ, Int.add_mul]
    omega
theorem stop_last {n : Nat} {p : List (BitVec 64)} {b c : BitVec 64} (hn : n ≤ 4) : stopK n p b c (4 * p.length + 1) = true := by
  have h16 := pow_le hn
  unfold stopK
  rw [beq_iff_eq, sub_zero]
  intro v hv
  rw [bestS_bit (by simp [sumsK]; omega)] at hv
  rw [bestS_bit (by simp [ownL]; omega)]
  obtain ⟨h1, h2, h3⟩ := hv
  have hlen : (sumsK n p b (4 * p.length + 1)).length = 2 ^ n := by simp [sumsK]
  have hlen2 : (ownL n b).length = 2 ^ n := by simp [ownL]
  rw [hlen] at h1 h3
  refine ⟨by omega, h2, fun u hu hc => ?_⟩
  rw [hlen2] at hu
  have hk := h3 u hu hc
  have e1 : ∀ w, w < 2 ^ n → (sumsK n p b (4 * p.length + 1)).getD w 0 = sumL (distL n p w) + ((4 * p.length + 1 : Nat) : Int) * distB n b w := fun w hw => by simp [sumsK, List.getD, hw]
  have e2 : ∀ w, w < 2 ^ n → (ownL n b).getD w 0 = distB n b w := fun w hw => by simp [ownL, List.getD, hw]
  rw [e1 v h1, e1 u hu] at hk
  rw [e2 v h1, e2 u hu]
  apply Classical.byContradiction
  intro hlt
  have s1 := sum_range (m := 4) (l := distL n p v) fun x hx => by have := distL_range x hx; omega
  have s2 := sum_range (m := 4) (l := distL n p u) fun x hx => by have := distL_range x hx; omega
  rw [distL_len] at s1 s2
  have hm : ((4 * p.length + 1 : Nat) : Int) * (distB n b u + 1) ≤ ((4 * p.length + 1 : Nat) : Int) * distB n b v := Int.mul_le_mul_of_nonneg_left (by omega) (by omega)
  rw [Int.mul_add, Int.mul_one] at hm
  generalize ((4 * p.length + 1 : Nat) : Int) * distB n b u = A at *
  generalize ((4 * p.length + 1 : Nat) : Int) * distB n b v = B at *
  omega
def majK (n : Nat) (p : List (BitVec 64)) (b c : BitVec 64) : Nat := leastF (stopK n p b c) (4 * p.length + 1) 0
theorem least_ex {f : Nat → Bool} : ∀ {m : Nat}, f m = true → ∃ k, k ≤ m ∧ f k = true ∧ ∀ j, j < k → f j = false
  | 0, h => ⟨0, Nat.le_refl _, h, fun j hj => by omega⟩
  | m + 1, h => by
    by_cases e : ∃ j, j ≤ m ∧ f j = true
    · obtain ⟨j, hj, hfj⟩ := e
      obtain ⟨k, h1, h2, h3⟩ := least_ex (m := j) hfj
      exact ⟨k, by omega, h2, h3⟩
    · refine ⟨m + 1, Nat.le_refl _, h, fun j hj => ?_⟩
      cases hf : f j with
      | false => rfl
      | true => exact absurd ⟨j, by omega, hf⟩ e
theorem majK_law {n : Nat} {p : List (BitVec 64)} {b c : BitVec 64} (hn : n ≤ 4) : majK n p b c ≤ 4 * p.length + 1 ∧ stopK n p b c (majK n p b c) = true ∧ ∀ j, j < majK n p b c → stopK n p b c j = false := by
  obtain ⟨k, h1, h2, h3⟩ := least_ex (stop_last (p := p) (b := b) (c := c) hn)
  have : majK n p b c = k := leastF_law h2 h3 _ 0 (Nat.zero_le _) (by omega)
  rw [this]
  exact ⟨h1, h2, h3⟩
theorem majK_unique {n : Nat} {p : List (BitVec 64)} {b c : BitVec 64} (hn : n ≤ 4) {k : Nat} (h2 : stopK n p b c k = true) (h3 : ∀ j, j < k → stopK n p b c j = false) : majK n p b c = k := by
  obtain ⟨a1, a2, a3⟩ := majK_law (p := p) (b := b) (c := c) hn
  by_cases h : k < majK n p b c
  · rw [a3 k h] at h2; cases h2
  · by_cases h' : majK n p b c < k
    · rw [h3 _ h'] at a2; cases a2
    · omega
theorem sumsK_succ {n : Nat} {p : List (BitVec 64)} {b : BitVec 64} {k v : Nat} (h : v < 2 ^ n) : (sumsK n p b (k + 1)).getD v 0 = (sumsK n p b k).getD v 0 + distB n b v := by
  simp only [sumsK, List.getD, List.getElem?_map, List.getElem?_range h, Option.map_some, Option.getD_some]
  rw [Int.natCast_succ, Int.add_mul, Int.one_mul]; omega
theorem sums_range {n : Nat} {p : List (BitVec 64)} {b : BitVec 64} (hn : n ≤ 4) (hp : p.length ≤ 8) {k v : Nat} (hk : k ≤ 100) (h : v < 2 ^ n) : 0 ≤ (sumsK n p b k).getD v 0 ∧ (sumsK n p b k).getD v 0 ≤ 1000 := by
  have e : (sumsK n p b k).getD v 0 = sumL (distL n p v) + k * distB n b v := by simp [sumsK, List.getD, h]
  rw [e]
  have s1 := sum_range (m := 4) (l := distL n p v) fun x hx => by have := distL_range x hx; omega
  rw [distL_len] at s1
  have s2 := distB_range n b v
  have h1 : 0 ≤ (k : Int) * distB n b v := Int.mul_nonneg (by omega) s2.1
  have h2 : (k : Int) * distB n b v ≤ 100 * 4 := Int.mul_le_mul (by omega) (by omega) s2.1 (by omega)
  omega

/-! ### A single belief -/
theorem key_one {way : Int} {x y : Int} (hx : 0 ≤ x) (hy : 0 ≤ y) : keyL way [x] ≤ keyL way [y] ↔ x ≤ y := by
  unfold keyL
  simp only [wt, maxL_cons, maxL_nil, sumL_cons, sumL_nil]
  split
  · constructor
    · intro h
      apply Classical.byContradiction
      intro hlt
      have : 64 ^ (y.toNat + 1) ≤ 64 ^ x.toNat := Nat.pow_le_pow_right (by omega) (by omega)
      have e : 64 ^ (y.toNat + 1) = 64 ^ y.toNat * 64 := Nat.pow_succ ..
      have : 0 < 64 ^ y.toNat := Nat.pow_pos (by omega)
      omega
    · intro h
      have : 64 ^ x.toNat ≤ 64 ^ y.toNat := Nat.pow_le_pow_right (by omega) (by omega)
      omega
  · split <;> omega
theorem merge_single {way : Int} {n : Nat} {a c : BitVec 64} (hn : n ≤ 4) : mergeM way n [a] c = bestS (ownL n a) c := by
  have h16 := pow_le hn
  refine bits_eq fun v => ?_
  rw [mergeM_bit hn (by simp), bestS_bit (by simp [ownL]; omega), isBest]
  have hlen : (ownL n a).length = 2 ^ n := by simp [ownL]
  have e2 : ∀ w, w < 2 ^ n → (ownL n a).getD w 0 = distB n a w := fun w hw => by simp [ownL, List.getD, hw]
  have k : ∀ u, keyV way n [a] v ≤ keyV way n [a] u ↔ distB n a v ≤ distB n a u := fun u => key_one (distB_range n a v).1 (distB_range n a u).1
  rw [hlen]
  constructor
  · rintro ⟨h1, h2, h3⟩
    exact ⟨h1, h2, fun u hu hc => by rw [e2 v h1, e2 u hu]; exact (k u).1 (h3 u hu hc)⟩
  · rintro ⟨h1, h2, h3⟩
    exact ⟨h1, h2, fun u hu hc => (k u).2 (by have := h3 u hu hc; rw [e2 v h1, e2 u hu] at this; exact this)⟩
end Go.Pd.Mg
