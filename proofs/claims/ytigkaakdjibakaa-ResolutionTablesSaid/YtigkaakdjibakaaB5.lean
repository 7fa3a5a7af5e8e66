/- Resolution: plain laws: clauses in normal form. -/
import Derived.Test.YtigkaakdjibakaaB4
set_option linter.unusedSectionVars false
set_option linter.unusedVariables false
set_option linter.unusedSimpArgs false
set_option linter.defProp false
set_option maxRecDepth 20000
namespace Go.Pd
open Go Go.Proofs
namespace Rs
/-- Literals in order: by their variables, the negative one first. -/
def keyI (x : Int) : Int := 2 * varI x + if 0 < x then 1 else 0
theorem keyI_inj {x y : Int} (hx : x ≠ 0) (hy : y ≠ 0) (h : keyI x = keyI y) : x = y := by
  unfold keyI varI at h
  split at h <;> split at h <;> split at h <;> split at h <;> omega
/-- What the program's order says. -/
def cfI (x y : Int) : Int := if varI x ≠ varI y then varI x - varI y else x - y
theorem cfI_key {x y : Int} (hx : x ≠ 0) (hy : y ≠ 0) : cfI x y < 0 ↔ keyI x < keyI y := by
  unfold cfI keyI varI
  split <;> split <;> split <;> split <;> split <;> omega
def strictK (l : List Int) : Prop := l.Pairwise fun a b => keyI a < keyI b
theorem strictK_eq {a b : List Int} (ha : strictK a) (hb : strictK b) (h : ∀ x, x ∈ a ↔ x ∈ b) : a = b := by
  have na : a.Nodup := ha.imp fun h e => by rw [e] at h; omega
  have nb : b.Nodup := hb.imp fun h e => by rw [e] at h; omega
  have hp : a.Perm b := (List.perm_ext_iff_of_nodup na nb).2 h
  exact List.Perm.eq_of_pairwise (le := fun x y => keyI x < keyI y) (fun x y _ _ h1 h2 => by omega) ha hb hp
/-! ### The literals of a list, variable by variable -/
def canonAt (c : List Int) (v : Nat) : List Int := (if -(v : Int) - 1 ∈ c then [-(v : Int) - 1] else []) ++ (if (v : Int) + 1 ∈ c then [(v : Int) + 1] else [])
def canonTo (c : List Int) : Nat → List Int
  | 0 => []
  | k + 1 => canonTo c k ++ canonAt c k
def canon (c : List Int) : List Int := canonTo c 12
theorem canonAt_mem {c : List Int} {v : Nat} {x : Int} : x ∈ canonAt c v ↔ x ∈ c ∧ (x = -(v : Int) - 1 ∨ x = (v : Int) + 1) := by
  unfold canonAt
  by_cases h1 : -(v : Int) - 1 ∈ c <;> by_cases h2 : (v : Int) + 1 ∈ c <;> simp only [h1, h2, if_true, if_false, List.mem_append, List.mem_singleton, List.not_mem_nil, or_false, false_or]
  · exact ⟨fun h => h.elim (fun e => ⟨e ▸ h1, .inl e⟩) (fun e => ⟨e ▸ h2, .inr e⟩), fun h => h.2⟩
  · exact ⟨fun e => ⟨e ▸ h1, .inl e⟩, fun h => h.2.elim id fun e => absurd (e ▸ h.1) h2⟩
  · exact ⟨fun e => ⟨e ▸ h2, .inr e⟩, fun h => h.2.elim (fun e => absurd (e ▸ h.1) h1) id⟩
  · exact ⟨False.elim, fun h => h.2.elim (fun e => h1 (e ▸ h.1)) (fun e => h2 (e ▸ h.1))⟩
theorem varI_two {x : Int} {v : Nat} : (x = -(v : Int) - 1 ∨ x = (v : Int) + 1) ↔ x ≠ 0 ∧ varI x = v := by
  unfold varI; split <;> omega
theorem canonTo_mem {c : List Int} {x : Int} : ∀ {k : Nat}, x ∈ canonTo c k ↔ x ∈ c ∧ x ≠ 0 ∧ varI x < k
  | 0 => by
    simp only [canonTo, List.not_mem_nil, false_iff]
    rintro ⟨_, h1, h2⟩
    unfold varI at h2; split at h2 <;> omega
  | k + 1 => by
    rw [canonTo, List.mem_append, canonTo_mem, canonAt_mem, varI_two]
    constructor
    · rintro (⟨h1, h2, h3⟩ | ⟨h1, h2, h3⟩)
      · exact ⟨h1, h2, by omega⟩
      · exact ⟨h1, h2, by omega⟩
    · rintro ⟨h1, h2, h3⟩
      by_cases e : varI x = k
      · exact .inr ⟨h1, h2, e⟩
      · exact .inl ⟨h1, h2, by omega⟩
theorem canonTo_strict (c : List Int) : ∀ k, strictK (canonTo c k)
  | 0 => List.Pairwise.nil
  | k + 1 => by
    unfold strictK
    rw [canonTo, List.pairwise_append]
    refine ⟨canonTo_strict c k, ?_, fun x hx y hy => ?_⟩
    · unfold canonAt
      rw [List.pairwise_append]
      refine ⟨by split <;> simp, by split <;> simp, fun x hx y hy => ?_⟩
      have hx : x = -(k : Int) - 1 := by split at hx <;> simp at hx; exact hx
      have hy : y = (k : Int) + 1 := by split at hy <;> simp at hy; exact hy
      subst hx; subst hy
      unfold keyI varI
      split <;> split <;> split <;> split <;> omega
    · obtain ⟨_, h1, h2⟩ := canonTo_mem.1 hx
      obtain ⟨_, h3⟩ := canonAt_mem.1 hy
      obtain ⟨h4, h5⟩ := varI_two.1 h3
      unfold keyI
      split <;> split <;> omega
theorem canonTo_len (c : List Int) : ∀ k, (canonTo c k).length ≤ 2 * k
  | 0 => Nat.le_refl _
  | k + 1 => by
    rw [canonTo, List.length_append]
    have := canonTo_len c k
    have : (canonAt c k).length ≤ 2 := by unfold canonAt; rw [List.length_append]; split <;> split <;> simp
    omega
/-- Both literals of a variable. -/
def bothB (c : List Int) (v : Nat) : Bool := decide ((v : Int) + 1 ∈ c) && decide (-(v : Int) - 1 ∈ c)
def bothTo (c : List Int) (k : Nat) : Bool := (List.range k).any (bothB c)
theorem bothTo_succ (c : List Int) (k : Nat) : bothTo c (k + 1) = (bothTo c k || bothB c k) := by
  unfold bothTo; rw [List.range_succ, List.any_append]; simp
theorem bothTo_mono {c : List Int} {k m : Nat} (h : k ≤ m) (hb : bothTo c k = true) : bothTo c m = true := by
  unfold bothTo at *
  rw [List.any_eq_true] at *
  obtain ⟨v, h1, h2⟩ := hb
  exact ⟨v, by simp at *; omega, h2⟩
/-- What collect answers. -/
def collectA (c : List Int) : List Int × Bool := if bothTo c 12 = true then ([], true) else (canon c, false)
/-- What Normal answers. -/
def normA (c : List Int) : List Int × Bool × Int := if 64 < c.length then ([], false, 8) else if c.all (litOk 12) = false then ([], false, 2) else ((collectA c).1, (collectA c).2, 0)

/-! ### Dropping what equals what stands ahead of it -/
def ddI (l : List Int) : Nat → List Int
  | 0 => []
  | k + 1 => if 0 < k ∧ l.getD k 0 = l.getD (k - 1) 0 then ddI l k else ddI l k ++ [l.getD k 0]
def dedupI (l : List Int) : List Int := ddI l l.length
theorem ddI_same {l : List Int} : ∀ {k : Nat}, k ≤ l.length → (∀ i, 0 < i → i < k → l.getD i 0 ≠ l.getD (i - 1) 0) → ddI l k = l.take k
  | 0, _, _ => by simp [ddI]
  | k + 1, h, hn => by
    rw [ddI, if_neg (fun c => hn k c.1 (by omega) c.2), ddI_same (by omega) (fun i h1 h2 => hn i h1 (by omega)), ← take_snoc (by omega)]
theorem ddI_le (l : List Int) : ∀ k, (ddI l k).length ≤ k
  | 0 => Nat.le_refl _
  | k + 1 => by
    have := ddI_le l k
    rw [ddI]
    split
    · omega
    · rw [List.length_append]; simp; omega
theorem ddI_grow (l : List Int) (k : Nat) : (ddI l k).length ≤ (ddI l (k + 1)).length := by
  rw [ddI]; split
  · exact Nat.le_refl _
  · rw [List.length_append]; omega
theorem ddI_pos (l : List Int) : ∀ k, 0 < (ddI l (k + 1)).length
  | 0 => by rw [ddI, if_neg (by omega), List.length_append]; simp
  | k + 1 => Nat.lt_of_lt_of_le (ddI_pos l k) (ddI_grow l (k + 1))
theorem ddI_mem {l : List Int} : ∀ {k : Nat} {x : Int}, x ∈ ddI l k ↔ ∃ i, i < k ∧ l.getD i 0 = x
  | 0, x => by simp [ddI]
  | k + 1, x => by
    rw [ddI]
    by_cases h : 0 < k ∧ l.getD k 0 = l.getD (k - 1) 0
    · rw [if_pos h, ddI_mem]
      refine ⟨fun ⟨i, hi, e⟩ => ⟨i, by omega, e⟩, fun ⟨i, hi, e⟩ => ?_⟩
      by_cases ei : i = k
      · exact ⟨k - 1, by omega, by rw [← h.2, ← ei]; exact e⟩
      · exact ⟨i, by omega, e⟩
    · rw [if_neg h, List.mem_append, ddI_mem, List.mem_singleton]
      refine ⟨fun c => c.elim (fun ⟨i, hi, e⟩ => ⟨i, by omega, e⟩) (fun e => ⟨k, by omega, e.symm⟩), fun ⟨i, hi, e⟩ => ?_⟩
      by_cases ei : i = k
      · exact .inr (by rw [← e, ei])
      · exact .inl ⟨i, by omega, e⟩
theorem dedupI_mem {l : List Int} {x : Int} : x ∈ dedupI l ↔ x ∈ l := by
  unfold dedupI
  rw [ddI_mem]
  constructor
  · rintro ⟨i, hi, rfl⟩; exact getD_mem hi
  · intro h
    obtain ⟨i, hi, e⟩ := List.mem_iff_getElem.1 h
    exact ⟨i, hi, by simp [List.getD, hi, e]⟩
def sortedK (l : List Int) : Prop := l.Pairwise fun a b => keyI a ≤ keyI b
theorem ddI_strict {l : List Int} (h : sortedK l) (hz : ∀ x ∈ l, x ≠ 0) : ∀ {k : Nat}, k ≤ l.length → strictK (ddI l k)
  | 0, _ => List.Pairwise.nil
  | k + 1, hk => by
    rw [ddI]
    by_cases c : 0 < k ∧ l.getD k 0 = l.getD (k - 1) 0
    · rw [if_pos c]; exact ddI_strict h hz (by omega)
    · rw [if_neg c]
      refine List.pairwise_append.2 ⟨ddI_strict h hz (by omega), List.pairwise_singleton _ _, fun x hx y hy => ?_⟩
      rw [List.mem_singleton] at hy
      subst hy
      obtain ⟨i, hi, rfl⟩ := ddI_mem.1 hx
      have le : ∀ a b, a < b → b < l.length → keyI (l.getD a 0) ≤ keyI (l.getD b 0) := fun a b hab hb => by
        have := List.pairwise_iff_getElem.1 h a b (by omega) hb hab
        simpa [List.getD, hb, show a < l.length by omega] using this
      have h1 := le i k hi (by omega)
      by_cases e : keyI (l.getD i 0) = keyI (l.getD k 0)
      · exfalso
        have eq := keyI_inj (hz _ (getD_mem (show i < l.length by omega))) (hz _ (getD_mem (show k < l.length by omega))) e
        by_cases e2 : i = k - 1
        · exact c ⟨by omega, by rw [← eq, e2]⟩
        · have h2 := le i (k - 1) (by omega) (by omega)
          have h3 := le (k - 1) k (by omega) (by omega)
          exact c ⟨by omega, keyI_inj (hz _ (getD_mem (show k < l.length by omega))) (hz _ (getD_mem (show k - 1 < l.length by omega))) (by omega)⟩
      · omega
def sortI (l : List Int) : List Int := l.mergeSort fun a b => decide (keyI a ≤ keyI b)
theorem sortI_perm (l : List Int) : (sortI l).Perm l := List.mergeSort_perm l _
theorem sortI_sorted (l : List Int) : sortedK (sortI l) := by
  have := List.pairwise_mergeSort (le := fun a b : Int => decide (keyI a ≤ keyI b)) (fun a b c h1 h2 => by simp at h1 h2 ⊢; omega) (fun a b => by simp; omega) l
  exact this.imp fun h => by simpa using h
theorem sortI_eq {l m : List Int} (hz : ∀ x ∈ l, x ≠ 0) (hp : m.Perm l) (hs : sortedK m) : m = sortI l :=
  List.Perm.eq_of_pairwise (le := fun x y => keyI x ≤ keyI y) (fun x y hx hy h1 h2 => keyI_inj (hz _ (hp.mem_iff.1 hx)) (hz _ ((sortI_perm l).mem_iff.1 hy)) (by omega)) hs (sortI_sorted l) (hp.trans (sortI_perm l).symm)
/-- Sorted and compacted: the literals, variable by variable. -/
theorem order_canon {c : List Int} (h : ∀ x ∈ c, litOk 12 x = true) : dedupI (sortI c) = canon c := by
  have hz : ∀ x ∈ sortI c, x ≠ 0 := fun x hx => (litOk_iff.1 (h x ((sortI_perm c).mem_iff.1 hx))).1
  refine strictK_eq (ddI_strict (sortI_sorted c) hz (Nat.le_refl _)) (canonTo_strict c 12) fun x => ?_
  rw [dedupI_mem, (sortI_perm c).mem_iff]
  unfold canon
  rw [canonTo_mem]
  exact ⟨fun hx => ⟨hx, (litOk_iff.1 (h x hx)).1, (varI_range (h x hx)).2⟩, fun hx => hx.1⟩
/-- Neighbours that are opposite. -/
theorem canon_both {c : List Int} (hb : ∃ v, v < 12 ∧ bothB c v = true) : ∃ i, 0 < i ∧ i < (canon c).length ∧ (canon c).getD i 0 = -(canon c).getD (i - 1) 0 := by
  obtain ⟨v, hv, hb⟩ := hb
  simp only [bothB, Bool.and_eq_true, decide_eq_true_eq] at hb
  have key : ∀ m, canonTo c (v + 1 + m) = canonTo c v ++ [-(v : Int) - 1, (v : Int) + 1] ++ (canonTo c (v + 1 + m)).drop ((canonTo c v).length + 2) := by
    intro m
    induction m with
    | zero =>
      have : canonAt c v = [-(v : Int) - 1, (v : Int) + 1] := by unfold canonAt; rw [if_pos hb.2, if_pos hb.1]; rfl
      rw [Nat.add_zero, canonTo, this, List.drop_eq_nil_of_le (by simp)]; simp
    | succ m ih =>
      rw [show v + 1 + (m + 1) = (v + 1 + m) + 1 by omega, canonTo]
      have hl : (canonTo c v).length + 2 ≤ (canonTo c (v + 1 + m)).length := by rw [ih]; simp
      rw [List.drop_append_of_le_length hl, ← List.append_assoc, ← ih]
  have k := key (11 - v)
  rw [show v + 1 + (11 - v) = 12 by omega] at k
  refine ⟨(canonTo c v).length + 1, by omega, ?_, ?_⟩
  · unfold canon; rw [k]; simp
  · unfold canon
    rw [k, Nat.add_sub_cancel]
    simp [List.getD, List.getElem?_append_right]
    omega
theorem canon_apart {c : List Int} {i : Nat} (h0 : 0 < i) (hi : i < (canon c).length) (he : (canon c).getD i 0 = -(canon c).getD (i - 1) 0) : ∃ v, v < 12 ∧ bothB c v = true := by
  have m1 := canonTo_mem.1 (show (canon c).getD i 0 ∈ canonTo c 12 from getD_mem hi)
  have m2 := canonTo_mem.1 (show (canon c).getD (i - 1) 0 ∈ canonTo c 12 from getD_mem (show i - 1 < (canon c).length by omega))
  generalize (canon c).getD i 0 = x at *
  generalize (canon c).getD (i - 1) 0 = y at *
  obtain ⟨a1, a2, a3⟩ := m1
  obtain ⟨b1, b2, b3⟩ := m2
  have h0 : 0 ≤ varI x := by unfold varI; split <;> omega
  refine ⟨(varI x).toNat, by omega, ?_⟩
  simp only [bothB, Bool.and_eq_true, decide_eq_true_eq, Int.toNat_of_nonneg h0]
  unfold varI
  by_cases hx : x < 0
  · rw [if_pos hx]
    exact ⟨by rw [show -x - 1 + 1 = y by omega]; exact b1, by rw [show -(-x - 1) - 1 = x by omega]; exact a1⟩
  · rw [if_neg hx]
    exact ⟨by rw [show x - 1 + 1 = x by omega]; exact a1, by rw [show -(x - 1) - 1 = y by omega]; exact b1⟩
theorem bothTo_iff {c : List Int} {k : Nat} : bothTo c k = true ↔ ∃ v, v < k ∧ bothB c v = true := by
  unfold bothTo; rw [List.any_eq_true]; simp
end Rs
end Go.Pd
