/- Boolean: plain: prime implicants, level by level. -/
import Derived.Test.YtfaehcooldhddaaDoorH1
set_option linter.unusedSectionVars false
set_option linter.unusedVariables false
set_option linter.unusedSimpArgs false
set_option linter.defProp false
set_option maxRecDepth 20000
namespace Go.Pd
open Go Go.Proofs
open Rs Fm
namespace Fm
/-- Without a bit. -/
def clr (x b : Nat) : Nat := x ^^^ (x &&& 2 ^ b)
theorem clr_bit (x b i : Nat) : (clr x b).testBit i = (x.testBit i && !decide (b = i)) := by
  unfold clr
  rw [Nat.testBit_xor, Nat.testBit_and, Nat.testBit_two_pow]
  cases x.testBit i <;> cases h : decide (b = i) <;> simp
def insideB (t : BitVec 64) (n c v : Nat) : Bool := (List.range (2 ^ n)).all fun u => !decide (u &&& c = v) || t.getLsbD u
def cubeB (t : BitVec 64) (n : Nat) (p : Nat × Nat) : Bool := decide (p.1 < 2 ^ n) && decide (p.2 &&& p.1 = p.2) && insideB t n p.1 p.2
theorem inside_iff {t : BitVec 64} {n c v : Nat} : insideB t n c v = true ↔ ∀ u, u < 2 ^ n → u &&& c = v → t.getLsbD u = true := by
  unfold insideB
  simp only [List.all_eq_true, List.mem_range, Bool.or_eq_true, Bool.not_eq_true', decide_eq_false_iff_not]
  exact ⟨fun h u hu e => (h u hu).resolve_left (fun hn => hn e), fun h u hu => by
    by_cases e : u &&& c = v
    · exact .inr (h u hu e)
    · exact .inl e⟩
theorem cube_iff {t : BitVec 64} {n : Nat} {p : Nat × Nat} : cubeB t n p = true ↔ p.1 < 2 ^ n ∧ p.2 &&& p.1 = p.2 ∧ ∀ u, u < 2 ^ n → u &&& p.1 = p.2 → t.getLsbD u = true := by
  unfold cubeB
  rw [Bool.and_eq_true, Bool.and_eq_true, decide_eq_true_iff, decide_eq_true_iff, inside_iff, and_assoc]
theorem sub_bit {c v : Nat} (h : v &&& c = v) (i : Nat) : v.testBit i = true → c.testBit i = true := by
  intro hv
  rw [← h, Nat.testBit_and, Bool.and_eq_true] at hv
  exact hv.2
theorem bit_at {x y : Nat} (h : x = y) (i : Nat) : x.testBit i = y.testBit i := by rw [h]
theorem hi_bit {x n i : Nat} (h : x < 2 ^ n) (hi : n ≤ i) : x.testBit i = false := Nat.testBit_lt_two_pow (Nat.lt_of_lt_of_le h (Nat.pow_le_pow_right (by decide) hi))
theorem clr_lt {x b n : Nat} (h : x < 2 ^ n) : clr x b < 2 ^ n := by
  refine Nat.lt_pow_two_of_testBit _ fun i hi => ?_
  rw [clr_bit, hi_bit h hi]; rfl
theorem clr_sub {c v b : Nat} (h : v &&& c = v) : clr v b &&& clr c b = clr v b := by
  refine Nat.eq_of_testBit_eq fun i => ?_
  have := bit_at h i
  rw [Nat.testBit_and] at this ⊢
  rw [clr_bit, clr_bit]
  cases hv : v.testBit i <;> cases hc : c.testBit i <;> cases decide (b = i) <;> simp_all
theorem flip_bit (v b i : Nat) : (v ^^^ 2 ^ b).testBit i = (v.testBit i ^^ decide (b = i)) := by rw [Nat.testBit_xor, Nat.testBit_two_pow]
theorem flip_sub {c v b : Nat} (h : v &&& c = v) (hb : c.testBit b = true) : (v ^^^ 2 ^ b) &&& c = v ^^^ 2 ^ b := by
  refine Nat.eq_of_testBit_eq fun i => ?_
  have := bit_at h i
  rw [Nat.testBit_and] at this ⊢
  rw [flip_bit]
  by_cases e : b = i
  · subst e
    simp [hb]
  · simp [e]; simpa using this
/-- Two cubes that differ in one bit are one without it. -/
theorem cube_merge {t : BitVec 64} {n c v b : Nat} (hc : c < 2 ^ n) (hv : v &&& c = v) (hb : c.testBit b = true) : cubeB t n (clr c b, clr v b) = true ↔ cubeB t n (c, v) = true ∧ cubeB t n (c, v ^^^ 2 ^ b) = true := by
  rw [cube_iff, cube_iff, cube_iff]
  simp only
  constructor
  · rintro ⟨h1, h2, h3⟩
    refine ⟨⟨hc, hv, fun u hu e => h3 u hu ?_⟩, hc, flip_sub hv hb, fun u hu e => h3 u hu ?_⟩
    · refine Nat.eq_of_testBit_eq fun i => ?_
      have := bit_at e i
      rw [Nat.testBit_and] at this ⊢
      rw [clr_bit, clr_bit, ← this, Bool.and_assoc]
    · refine Nat.eq_of_testBit_eq fun i => ?_
      have := bit_at e i
      rw [Nat.testBit_and, flip_bit] at this
      rw [Nat.testBit_and, clr_bit, clr_bit]
      by_cases hi : b = i
      · simp [hi]
      · simp [hi] at this ⊢; exact this
  · rintro ⟨⟨_, _, h3⟩, _, _, h6⟩
    refine ⟨clr_lt hc, clr_sub hv, fun u hu e => ?_⟩
    by_cases hub : u.testBit b = v.testBit b
    · refine h3 u hu (Nat.eq_of_testBit_eq fun i => ?_)
      have := bit_at e i
      rw [Nat.testBit_and, clr_bit, clr_bit] at this
      rw [Nat.testBit_and]
      by_cases hi : b = i
      · subst hi; rw [hb, hub]; simp
      · simp [hi] at this; exact this
    · refine h6 u hu (Nat.eq_of_testBit_eq fun i => ?_)
      have := bit_at e i
      rw [Nat.testBit_and, clr_bit, clr_bit] at this
      rw [Nat.testBit_and, flip_bit]
      by_cases hi : b = i
      · subst hi
        rw [hb]
        cases hv1 : v.testBit b <;> cases hu1 : u.testBit b <;> simp_all
      · simp [hi] at this ⊢; exact this
/-- How many bits. -/
def pc (c : Nat) : Nat := (List.range 6).countP fun i => c.testBit i
theorem pc_clr : ∀ c, c < 64 → ∀ b, b < 6 → c.testBit b = true → pc (clr c b) + 1 = pc c := by decide
theorem pc_some : ∀ n, n ≤ 6 → ∀ c, c < 64 → c < 2 ^ n → pc c < n → ∃ b, b < n ∧ c.testBit b = false := by decide
theorem pc_full : ∀ n, n ≤ 6 → ∀ c, c < 2 ^ n → (pc c = n ↔ c = 2 ^ n - 1) := by decide
theorem pc_le : ∀ n, n ≤ 6 → ∀ c, c < 2 ^ n → pc c ≤ n := by decide
/-- The lowest bit. -/
theorem low_bit : ∀ m, m < 64 → m ≠ 0 → Lib.ctz 64 m < 6 ∧ m.testBit (Lib.ctz 64 m) = true ∧ m &&& (m - 1) = clr m (Lib.ctz 64 m) := by decide
theorem bit_lt6 {c b : Nat} (hc : c < 64) (h : c.testBit b = true) : b < 6 := by
  refine Classical.byContradiction fun hn => ?_
  rw [hi_bit (n := 6) (by omega) (by omega)] at h
  cases h
def primeB (t : BitVec 64) (n : Nat) (p : Nat × Nat) : Bool := cubeB t n p && (List.range 6).all fun b => !(p.1.testBit b) || !cubeB t n (clr p.1 b, clr p.2 b)
theorem prime_iff {t : BitVec 64} {n : Nat} {p : Nat × Nat} : primeB t n p = true ↔ cubeB t n p = true ∧ ∀ b, b < 6 → p.1.testBit b = true → cubeB t n (clr p.1 b, clr p.2 b) = false := by
  unfold primeB
  simp only [Bool.and_eq_true, List.all_eq_true, List.mem_range, Bool.or_eq_true, Bool.not_eq_true']
  refine and_congr_right fun _ => ⟨fun h b hb hp => (h b hb).resolve_left (by simp [hp]), fun h b hb => ?_⟩
  cases hp : p.1.testBit b
  · exact .inl rfl
  · exact .inr (h b hb hp)
/-- The cubes of a level. -/
def NowOK (t : BitVec 64) (n r : Nat) (l : List (Nat × Nat)) : Prop := l.Nodup ∧ ∀ p, p ∈ l ↔ cubeB t n p = true ∧ pc p.1 + r = n
theorem two64 {n : Nat} (hn : n ≤ 6) : 2 ^ n ≤ 64 := Nat.le_trans (Nat.pow_le_pow_right (by decide) hn) (by decide)
/-- In a level, the neighbour is there just where the merged cube is one. -/
theorem neigh {t : BitVec 64} {n r : Nat} {l : List (Nat × Nat)} (hn : n ≤ 6) (hl : NowOK t n r l) {p : Nat × Nat} (hp : p ∈ l) {b : Nat} (hb : p.1.testBit b = true) : (p.1, p.2 ^^^ 2 ^ b) ∈ l ↔ cubeB t n (clr p.1 b, clr p.2 b) = true := by
  obtain ⟨h1, h2⟩ := (hl.2 p).1 hp
  obtain ⟨c1, c2, _⟩ := cube_iff.1 h1
  rw [cube_merge c1 c2 hb, hl.2]
  exact ⟨fun h => ⟨h1, h.1⟩, fun h => ⟨h.2, h2⟩⟩
/-- The next level: what is merged out of this one. -/
theorem next_ok {t : BitVec 64} {n r : Nat} {l nx : List (Nat × Nat)} (hn : n ≤ 6) (hl : NowOK t n r l) (hd : nx.Nodup) (hx : ∀ q, q ∈ nx ↔ ∃ p, p ∈ l ∧ ∃ b, p.1.testBit b = true ∧ (p.1, p.2 ^^^ 2 ^ b) ∈ l ∧ q = (clr p.1 b, clr p.2 b)) : NowOK t n (r + 1) nx := by
  have h64 := two64 hn
  refine ⟨hd, fun q => ?_⟩
  rw [hx]
  constructor
  · rintro ⟨p, hp, b, hb, hm, rfl⟩
    obtain ⟨h1, h2⟩ := (hl.2 p).1 hp
    obtain ⟨c1, c2, _⟩ := cube_iff.1 h1
    refine ⟨(neigh hn hl hp hb).1 hm, ?_⟩
    have := pc_clr p.1 (by omega) b (bit_lt6 (by omega) hb) hb
    simp only
    omega
  · rintro ⟨h1, h2⟩
    obtain ⟨c1, c2, _⟩ := cube_iff.1 h1
    obtain ⟨b, hb1, hb2⟩ := pc_some n hn q.1 (by omega) c1 (by omega)
    have e1 : clr (q.1 ^^^ 2 ^ b) b = q.1 := Nat.eq_of_testBit_eq fun i => by
      rw [clr_bit, flip_bit]
      by_cases hi : b = i
      · subst hi; simp [hb2]
      · simp [hi]
    have hvb : q.2.testBit b = false := by
      cases h : q.2.testBit b
      · rfl
      · rw [sub_bit c2 b h] at hb2; cases hb2
    have e2 : clr q.2 b = q.2 := Nat.eq_of_testBit_eq fun i => by
      rw [clr_bit]
      by_cases hi : b = i
      · subst hi; simp [hvb]
      · simp [hi]
    have hcb : (q.1 ^^^ 2 ^ b).testBit b = true := by rw [flip_bit, hb2]; simp
    have hlt : q.1 ^^^ 2 ^ b < 2 ^ n := by
      refine Nat.lt_pow_two_of_testBit _ fun i hi => ?_
      rw [flip_bit, hi_bit c1 hi]
      simp; omega
    have hsub : q.2 &&& (q.1 ^^^ 2 ^ b) = q.2 := Nat.eq_of_testBit_eq fun i => by
      have := bit_at c2 i
      rw [Nat.testBit_and] at this ⊢
      rw [flip_bit]
      by_cases hi : b = i
      · subst hi; simp [hvb]
      · simp [hi]; simpa using this
    have hm := cube_merge (t := t) hlt hsub hcb
    rw [e1, e2] at hm
    obtain ⟨m1, m2⟩ := hm.1 h1
    have hpc : pc (q.1 ^^^ 2 ^ b) + r = n := by
      have := pc_clr (q.1 ^^^ 2 ^ b) (by omega) b (by omega) hcb
      rw [e1] at this
      omega
    exact ⟨(q.1 ^^^ 2 ^ b, q.2), (hl.2 _).2 ⟨m1, hpc⟩, b, hcb, (hl.2 _).2 ⟨m2, hpc⟩, by rw [e1, e2]⟩
/-- The primes that the levels above have given. -/
def OutOK (t : BitVec 64) (n r : Nat) (l : List (Nat × Nat)) : Prop := l.Nodup ∧ ∀ p, p ∈ l ↔ primeB t n p = true ∧ n < pc p.1 + r
theorem now_empty {t : BitVec 64} {n r : Nat} (hn : n ≤ 6) (h : NowOK t n r []) : ∀ p, cubeB t n p = true → n < pc p.1 + r := by
  have h64 := two64 hn
  have key : ∀ k p, cubeB t n p = true → pc p.1 + r + k = n → False := by
    intro k
    induction k with
    | zero => intro p hp hk; exact absurd ((h.2 p).2 ⟨hp, by omega⟩) (by simp)
    | succ k ih =>
      intro p hp hk
      obtain ⟨c1, c2, c3⟩ := cube_iff.1 hp
      obtain ⟨b, hb1, hb2⟩ := pc_some n hn p.1 (by omega) c1 (by omega)
      have hcb : (p.1 ^^^ 2 ^ b).testBit b = true := by rw [flip_bit, hb2]; simp
      have hlt : p.1 ^^^ 2 ^ b < 2 ^ n := by
        refine Nat.lt_pow_two_of_testBit _ fun i hi => ?_
        rw [flip_bit, hi_bit c1 hi]
        simp; omega
      have hvb : p.2.testBit b = false := by
        cases h : p.2.testBit b
        · rfl
        · rw [sub_bit c2 b h] at hb2; cases hb2
      have e1 : clr (p.1 ^^^ 2 ^ b) b = p.1 := Nat.eq_of_testBit_eq fun i => by
        rw [clr_bit, flip_bit]
        by_cases hi : b = i
        · subst hi; simp [hb2]
        · simp [hi]
      have e2 : clr p.2 b = p.2 := Nat.eq_of_testBit_eq fun i => by
        rw [clr_bit]
        by_cases hi : b = i
        · subst hi; simp [hvb]
        · simp [hi]
      have hsub : p.2 &&& (p.1 ^^^ 2 ^ b) = p.2 := Nat.eq_of_testBit_eq fun i => by
        have := bit_at c2 i
        rw [Nat.testBit_and] at this ⊢
        rw [flip_bit]
        by_cases hi : b = i
        · subst hi; simp [hvb]
        · simp [hi]; simpa using this
      have hm := cube_merge (t := t) hlt hsub hcb
      rw [e1, e2] at hm
      have := pc_clr (p.1 ^^^ 2 ^ b) (by omega) b (by omega) hcb
      rw [e1] at this
      exact ih (p.1 ^^^ 2 ^ b, p.2) (hm.1 hp).1 (by simp only; omega)
  intro p hp
  refine Classical.byContradiction fun hn2 => key (n - (pc p.1 + r)) p hp (by omega)
end Fm
end Go.Pd
