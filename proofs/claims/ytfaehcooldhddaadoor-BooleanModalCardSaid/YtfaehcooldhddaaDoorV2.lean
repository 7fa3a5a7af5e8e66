/- Boolean: plain: tautologies and full tables; the table of a negation. -/
import Derived.Test.YtfaehcooldhddaaDoorV0
import Derived.Test.YtfaehcooldhddaaDoorV1
set_option linter.unusedSectionVars false
set_option linter.unusedVariables false
set_option linter.unusedSimpArgs false
set_option linter.defProp false
set_option maxRecDepth 20000
namespace Go.Pd
open Go Go.Proofs
open Rs Fm
namespace Fm
/-- The number with given bits. -/
def bitsN (f : Nat → Bool) : Nat → Nat
  | 0 => 0
  | k + 1 => bitsN f k + if f k then 2 ^ k else 0
theorem bitsN_lt (f : Nat → Bool) : ∀ k, bitsN f k < 2 ^ k
  | 0 => by simp [bitsN]
  | k + 1 => by
    have := bitsN_lt f k
    unfold bitsN
    rw [Nat.pow_succ]
    split <;> omega
theorem bitsN_bit (f : Nat → Bool) : ∀ k i, i < k → (bitsN f k).testBit i = f i
  | 0, _, h => by omega
  | k + 1, i, h => by
    have hl := bitsN_lt f k
    unfold bitsN
    by_cases e : i = k
    · subst e
      cases hf : f i
      · simp only [Bool.false_eq_true, ↓reduceIte, Nat.add_zero]
        exact Nat.testBit_lt_two_pow hl
      · simp only [↓reduceIte]
        rw [Nat.add_comm, Nat.testBit_two_pow_add_eq, Nat.testBit_lt_two_pow hl]; rfl
    · rw [← bitsN_bit f k i (by omega)]
      split
      · rw [Nat.add_comm, Nat.testBit_two_pow_add_gt (by omega)]
      · rw [Nat.add_zero]
theorem nodup_le : ∀ (n : Nat) (l : List Nat), l.Nodup → (∀ x ∈ l, x < n) → l.length ≤ n
  | 0, l, _, h => by
    cases l with
    | nil => simp
    | cons a r => exact absurd (h a (by simp)) (by omega)
  | n + 1, l, hn, h => by
    have h1 := nodup_le n (l.erase n) (hn.erase n) fun x hx => by
      have h2 := h x (List.mem_of_mem_erase hx)
      have h3 : x ≠ n := fun e => by rw [e] at hx; exact (List.Nodup.mem_erase_iff hn).1 hx |>.1 rfl
      omega
    have := List.length_erase_le (a := n) (l := l)
    by_cases hm : n ∈ l
    · rw [List.length_erase_of_mem hm] at h1; omega
    · rw [List.erase_of_not_mem hm] at h1; omega
theorem nodup_inj {α : Type} {l : List α} (hn : l.Nodup) {i j : Nat} (hi : i < l.length) (hj : j < l.length) (h : l[i] = l[j]) : i = j := by
  rw [List.Nodup, List.pairwise_iff_getElem] at hn
  rcases Nat.lt_trichotomy i j with h1 | h1 | h1
  · exact absurd h (hn i j hi hj h1)
  · exact h1
  · exact absurd h.symm (hn j i hj hi h1)
/-- The number of a leaf is its place. -/
theorem numS_get {c : List Nd} {l : List Int} (hn : l.Nodup) (hl : ∀ z ∈ l, ∃ j : Nat, z = j ∧ j < c.length) : ∀ (m : Nat), m ≤ l.length → ∀ k, k < m → (numS c l m).getD (l.getD k 0).toNat 0 = k
  | 0, _, _, h => by omega
  | m + 1, hm, k, hk => by
    have hlen := numS_len c l m
    have hk2 : k < l.length := by omega
    have hgk : l.getD k 0 = l[k] := by simp [List.getD, hk2]
    obtain ⟨j, e1, e2⟩ := hl l[k] (List.getElem_mem hk2)
    unfold numS
    rw [hgk, e1, Int.toNat_natCast]
    by_cases e : k = m
    · subst e
      rw [hgk, e1, Int.toNat_natCast]
      simp [List.getD, hlen, e2]
    · have hm2 : m < l.length := by omega
      have hgm : l.getD m 0 = l[m] := by simp [List.getD, hm2]
      obtain ⟨j', f1, f2⟩ := hl l[m] (List.getElem_mem hm2)
      have hne : j' ≠ j := fun h => by
        have : l[m] = l[k] := by rw [e1, f1, h]
        exact e (nodup_inj hn _ _ this).symm
      rw [hgm, f1, Int.toNat_natCast]
      have ih := numS_get hn hl m (by omega) k (by omega)
      rw [hgk, e1, Int.toNat_natCast] at ih
      rw [← ih]
      simp only [List.getD, List.getElem?_set_ne hne]
theorem tautS_iff {c : List Nd} {num : List Int} : ∀ {k}, tautS c num k = true ↔ ∀ v, v < k → valueA c (leafN num v) = true
  | 0 => by simp [tautS]
  | k + 1 => by
    unfold tautS
    rw [Bool.and_eq_true, tautS_iff (k := k)]
    constructor
    · rintro ⟨h1, h2⟩ v hv
      by_cases e : v = k
      · rw [e]; exact h2
      · exact h1 v (by omega)
    · exact fun h => ⟨fun v hv => h v (by omega), h k (by omega)⟩
/-- A tautology is true whatever its leaves are. -/
theorem taut_all {c : List Nd} (hv : validL c) (hn : 0 < c.length) : tautS c (numS c (leavesA c) (leavesA c).length) (2 ^ (leavesA c).length) = true ↔ ∀ leaf, valueA c leaf = true := by
  obtain ⟨nd, inn, asks⟩ := leaves_facts hv hn
  rw [tautS_iff]
  refine ⟨fun h leaf => ?_, fun h v _ => h _⟩
  rw [← h (bitsN (fun k => leaf ((leavesA c).getD k 0).toNat) (leavesA c).length) (bitsN_lt _ _)]
  refine asks _ _ fun j hj => ?_
  obtain ⟨k, hk, e⟩ := List.mem_iff_getElem.1 hj
  have hgk : (leavesA c).getD k 0 = (j : Int) := by simp [List.getD, hk, e]
  have hnum := numS_get nd (fun z hz => let ⟨j, a, b, _⟩ := inn z hz; ⟨j, a, b⟩) _ (Nat.le_refl _) k hk
  rw [hgk, Int.toNat_natCast] at hnum
  unfold leafN
  rw [hnum, Int.toNat_natCast, bitsN_bit _ _ _ hk]
  simp only [hgk, Int.toNat_natCast]
/-- The bits of a table. -/
theorem tabS_bit (c : List Nd) : ∀ k, k ≤ 64 → ∀ j, j < 64 → (tabS c k).getLsbD j = (decide (j < k) && valueA c (leafT c j))
  | 0, _, j, _ => by simp [tabS]
  | k + 1, hk, j, hj => by
    have ih := tabS_bit c k (by omega) j hj
    have hb : (1#64 <<< k).getLsbD j = decide (j = k) := by
      rw [BitVec.getLsbD_shiftLeft]
      by_cases e : j = k
      · subst e; simp [hj]
      · rcases Nat.lt_or_gt_of_ne e with h | h
        · simp [e, h]
        · simp only [e, decide_false, show ¬ j < k by omega, Bool.not_false, Bool.and_true, hj, decide_true, Bool.true_and]
          rw [BitVec.getLsbD_one]
          simp; omega
    unfold tabS
    by_cases e : j = k
    · subst e
      cases hv : valueA c (leafT c j)
      · rw [if_neg (by simp), ih]; simp
      · rw [if_pos rfl, BitVec.getLsbD_or, hb]; simp
    · have : decide (j < k + 1) = decide (j < k) := by rw [decide_eq_decide]; omega
      rw [this, ← ih]
      split
      · rw [BitVec.getLsbD_or, hb]; simp [e]
      · rfl
theorem tabS_full (c : List Nd) : tabS c 64 = BitVec.allOnes 64 ↔ ∀ v, v < 64 → valueA c (leafT c v) = true := by
  constructor
  · intro h v hv
    have := tabS_bit c 64 (Nat.le_refl _) v hv
    rw [h, BitVec.getLsbD_allOnes] at this
    simpa [hv] using this.symm
  · intro h
    refine BitVec.eq_of_getLsbD_eq fun j hj => ?_
    rw [tabS_bit c 64 (Nat.le_refl _) j hj, BitVec.getLsbD_allOnes, h j hj]; simp [hj]
theorem fact_node {p : Nd} {k : Int} (h : nodeE p k = 0) (h3 : p.op = 3) : p = ⟨3, p.i, 0, 0, 0, 0⟩ ∧ 0 ≤ p.i ∧ p.i ≤ 7 := by
  have hi := nd_i h
  obtain ⟨_, h1, h2, h4, _⟩ := nodeE_iff.1 h
  obtain ⟨op, i, e, g, x, y⟩ := p
  simp only at h3 h1 h2 h4 hi
  subst h3
  simp [usesA, operandB] at h1 h2 h4
  obtain ⟨rfl, rfl⟩ := h4
  subst h1 h2
  exact ⟨rfl, hi⟩
theorem getD_mem {c : List Nd} {j : Nat} (h : j < c.length) : c.getD j nd0 ∈ c := by
  simp only [List.getD, List.getElem?_eq_getElem h, Option.getD_some]; exact List.getElem_mem _
theorem getD_inj {c : List Nd} (hn : c.Nodup) {i j : Nat} (hi : i < c.length) (hj : j < c.length) (h : c.getD i nd0 = c.getD j nd0) : i = j := by
  simp only [List.getD, List.getElem?_eq_getElem hi, List.getElem?_eq_getElem hj, Option.getD_some] at h
  exact nodup_inj hn hi hj h
/-- A propositional formula of the first facts: its leaves are facts, each once. -/
theorem leaves_props {c : List Nd} (hv : validL c) (hd : c.Nodup) (hn : 0 < c.length) (hp : ∀ p ∈ c, p.op ≤ 8) :
    (leavesA c).length ≤ 8 ∧ ∀ i j : Nat, (i : Int) ∈ leavesA c → (j : Int) ∈ leavesA c → (c.getD i nd0).i.toNat = (c.getD j nd0).i.toNat → i = j := by
  obtain ⟨nd, inn, _⟩ := leaves_facts hv hn
  have fact : ∀ j : Nat, (j : Int) ∈ leavesA c → j < c.length ∧ c.getD j nd0 = ⟨3, (c.getD j nd0).i, 0, 0, 0, 0⟩ ∧ 0 ≤ (c.getD j nd0).i ∧ (c.getD j nd0).i ≤ 7 := fun j hj => by
    obtain ⟨k, e1, e2, e3⟩ := inn j hj
    obtain rfl : j = k := by omega
    have h8 := hp _ (getD_mem e2)
    unfold atomN at e3
    exact ⟨e2, fact_node (hv j e2) (by omega)⟩
  have inj : ∀ i j : Nat, (i : Int) ∈ leavesA c → (j : Int) ∈ leavesA c → (c.getD i nd0).i.toNat = (c.getD j nd0).i.toNat → i = j := fun i j hi hj h => by
    obtain ⟨a1, a2, a3, _⟩ := fact i hi
    obtain ⟨b1, b2, b3, _⟩ := fact j hj
    refine getD_inj hd a1 b1 ?_
    rw [a2, b2, show (c.getD i nd0).i = (c.getD j nd0).i by omega]
  refine ⟨?_, inj⟩
  have h1 := nodup_le 8 ((leavesA c).map fun z => (c.getD z.toNat nd0).i.toNat) ?_ ?_
  · simpa using h1
  · refine List.pairwise_map.2 (List.Pairwise.imp_of_mem (fun {a b} ha hb hne => ?_) nd)
    obtain ⟨i, rfl, _⟩ := inn a ha
    obtain ⟨j, rfl, _⟩ := inn b hb
    rw [Int.toNat_natCast, Int.toNat_natCast]
    exact fun e => hne (by rw [inj i j ha hb e])
  · intro x hx
    obtain ⟨z, hz, rfl⟩ := List.mem_map.1 hx
    obtain ⟨i, rfl, _⟩ := inn z hz
    rw [Int.toNat_natCast]
    have := (fact i hz).2.2
    omega
/-- A propositional formula of the first six facts is a tautology exactly if its table is full. -/
theorem taut_full {c : List Nd} (hv : validL c) (hd : c.Nodup) (hn : 0 < c.length) (hp : ∀ p ∈ c, p.op ≤ 8) (h6 : ∀ p ∈ c, p.op = 3 → p.i < 6) :
    tautS c (numS c (leavesA c) (leavesA c).length) (2 ^ (leavesA c).length) = decide (tabS c 64 = BitVec.allOnes 64) := by
  obtain ⟨nd, inn, asks⟩ := leaves_facts hv hn
  obtain ⟨_, inj⟩ := leaves_props hv hd hn hp
  rw [Bool.eq_iff_iff, taut_all hv hn, decide_eq_true_iff, tabS_full]
  refine ⟨fun h v _ => h _, fun h leaf => ?_⟩
  have hb := bitsN_lt (fun i => (leavesA c).any fun z => (c.getD z.toNat nd0).i.toNat == i && leaf z.toNat) 6
  rw [← h _ hb]
  refine asks _ _ fun j hj => ?_
  unfold leafT
  obtain ⟨k, e1, e2, e3⟩ := inn j hj
  obtain rfl : j = k := by omega
  have h8 := hp _ (getD_mem e2)
  have h3 : (c.getD j nd0).op = 3 := by unfold atomN at e3; omega
  have hi := h6 _ (getD_mem e2) h3
  have hi2 := (fact_node (hv j e2) h3).2
  rw [bitsN_bit _ _ _ (by omega)]
  rw [Bool.eq_iff_iff, List.any_eq_true]
  constructor
  · intro hl
    exact ⟨j, hj, by simp [hl]⟩
  · rintro ⟨z, hz, hz2⟩
    obtain ⟨i, rfl, _⟩ := inn z hz
    simp only [Int.toNat_natCast, Bool.and_eq_true, beq_iff_eq] at hz2
    rw [← inj i j hz hj hz2.1]; exact hz2.2
end Fm
end Go.Pd
