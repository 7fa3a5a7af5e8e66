/- Boolean: plain: the canonical list of a tree; the negation's table. -/
import Derived.Test.YtfaehcooldhddaaDoorV2
set_option linter.unusedSectionVars false
set_option linter.unusedVariables false
set_option linter.unusedSimpArgs false
set_option linter.defProp false
set_option maxRecDepth 20000
namespace Go.Pd
open Go Go.Proofs
open Rs Fm
namespace Fm
/-- The valuation that a number stands for, on trees. -/
def facT (v : Nat) : Tr → Bool
  | .nil => false
  | .nd _ i _ _ _ _ => v.testBit i.toNat
theorem value_tree {c : List Nd} (hv : validL c) (hn : 0 < c.length) (v : Nat) : valueA c (leafT c v) = evT (facT v) (tree c (c.length - 1)) := by
  rw [valueA_I]
  refine valI_tree hv (fun i hi _ => ?_) _ (by omega)
  rw [tree_eq hv hi]; rfl
theorem canon_check {T : Tr} (h : wfT T) (hl : (canon T).length ≤ 200) : checkF (canon T) = 0 ∧ compactA (canon T) = canon T := by
  obtain ⟨a, _, b, d⟩ := canon_spec h
  have hc := checkF_ok b hl a
  exact ⟨hc, by rw [compactA_eq hc, d]⟩
theorem shiftN_zero (p : Nd) : shiftN 0 p = p := by
  obtain ⟨op, i, e, g, x, y⟩ := p
  simp [shiftN]
theorem map_shift0 (c : List Nd) : c.map (shiftN 0) = c := by
  rw [show shiftN 0 = id from funext shiftN_zero, List.map_id]
/-- One operand. -/
theorem build_one {x : Nd} {f : List Nd} (hc : checkF f = 0) (hx : (usesA x.op).1.x = true) (hy : (usesA x.op).1.y = false) (hw : nodeE ⟨x.op, x.i, x.e, x.g, 0, 0⟩ 1 = 0) (hx0 : x.y = 0) :
    buildA x [f] = if 200 < (canon (.nd x.op x.i x.e x.g (treeF f) .nil)).length then [] else canon (.nd x.op x.i x.e x.g (treeF f) .nil) := by
  have hv := validC f
  have hn := compact_ne hc
  have ht := (compact_tree hc).1
  generalize hcd : compactA f = c at hv hn ht
  have hq : nodeE ⟨x.op, x.i, x.e, x.g, (c.length : Int) - 1, x.y⟩ c.length = 0 := by
    refine nodeE_ops (p := ⟨x.op, x.i, x.e, x.g, 0, 0⟩) hw ?_ ?_
    · simp only [hx, ↓reduceIte]; omega
    · simp only [hy, Bool.false_eq_true, ↓reduceIte]; exact hx0
  have hva : validL (c ++ [⟨x.op, x.i, x.e, x.g, (c.length : Int) - 1, x.y⟩]) := validL_snoc hv hq
  have hb : buildL 0 [f] [] x = some (c, ⟨x.op, x.i, x.e, x.g, (c.length : Int) - 1, x.y⟩) := by
    unfold buildL
    rw [if_neg (by simpa using hc), hcd]
    simp only [List.nil_append, List.length_nil, map_shift0]
    unfold buildL setOp
    rw [if_pos rfl]
  have htr : tree (c ++ [⟨x.op, x.i, x.e, x.g, (c.length : Int) - 1, x.y⟩]) c.length = .nd x.op x.i x.e x.g (treeF f) .nil := by
    rw [tree_eq hva (by simp)]
    have hgl : (c ++ [(⟨x.op, x.i, x.e, x.g, (c.length : Int) - 1, x.y⟩ : Nd)]).getD c.length nd0 = ⟨x.op, x.i, x.e, x.g, (c.length : Int) - 1, x.y⟩ := by simp [List.getD]
    rw [hgl]
    simp only [hx, hy, Bool.false_eq_true, ↓reduceIte]
    rw [tree_app hva _ (by omega), show ((c.length : Int) - 1).toNat = c.length - 1 by omega, ht]
  unfold buildA
  rw [hb]
  simp only
  rw [if_neg (by simpa using hq), compactS_canon hva (by simp), htr]
theorem unionN_or (m : Nd → Nat) (l : List Nd) (p : Nd) (h : m p = 0) : unionN m (l ++ [p]) = unionN m l := by rw [unionN_snoc, h, Nat.or_zero]
/-- The list of a negation: that of what is negated, perhaps with one node more. -/
theorem canon_not (t : Tr) : canon (.nd 4 0 0 0 t .nil) = canon t ∨ ∃ k : Int, canon (.nd 4 0 0 0 t .nil) = canon t ++ [⟨4, 0, 0, 0, k, 0⟩] := by
  unfold canon
  conv => lhs; lhs; unfold finT
  conv => rhs; rhs; intro k; lhs; unfold finT
  simp only [show (usesA 4).1.x = true from rfl, show (usesA 4).1.y = false from rfl, ↓reduceIte, Bool.false_eq_true]
  split
  · exact .inl rfl
  · exact .inr ⟨_, rfl⟩
theorem unionN_bit (m : Nd → Nat) (b : Nat) : ∀ (l : List Nd) (a : Nat), (l.foldl (fun a p => a ||| m p) a).testBit b = (a.testBit b || l.any fun p => (m p).testBit b)
  | [], a => by simp
  | p :: r, a => by
    rw [List.foldl_cons, unionN_bit m b r, Nat.testBit_or, List.any_cons, Bool.or_assoc]
theorem facts_lt {c : List Nd} (hv : validL c) {n : Nat} (h : unionN factN c / 2 ^ n = 0) : ∀ p ∈ c, p.op = 3 → p.i < n := by
  intro p hp h3
  obtain ⟨k, hk⟩ := mem_nd hv hp
  obtain ⟨_, h1, h2⟩ := fact_node hk h3
  by_cases hi : p.i < n
  · exact hi
  have hlt : unionN factN c < 2 ^ n := by
    rcases Nat.div_eq_zero_iff.1 h with h | h
    · have := Nat.two_pow_pos n; omega
    · exact h
  have hb := unionN_bit factN p.i.toNat c 0
  have h0 : (unionN factN c).testBit p.i.toNat = false := Nat.testBit_lt_two_pow (Nat.lt_of_lt_of_le hlt (Nat.pow_le_pow_right (by decide) (by omega)))
  have ha : (c.any fun q => (factN q).testBit p.i.toNat) = true := List.any_eq_true.2 ⟨p, hp, by
    unfold factN
    rw [h3, if_pos (by rfl)]
    exact Nat.testBit_two_pow_self⟩
  unfold unionN at h0
  rw [h0, ha] at hb
  simp at hb
/-- A table of a formula without error. -/
theorem table_ok {f : List Nd} {n : Nat} (hz : (tableA f n).2 = 0) : checkF f = 0 ∧ fragsA f = 0 ∧ n ≤ 6 ∧ factsA f / 2 ^ n = 0 ∧ tableA f n = (tabS (compactA f) (2 ^ n), 0) := by
  unfold tableA at hz ⊢
  by_cases h1 : checkF f = 0
  case neg => rw [if_pos h1] at hz; exact absurd hz h1
  rw [if_neg (by simpa using h1)] at hz ⊢
  by_cases h2 : fragsA f = 0
  case neg => rw [if_pos h2] at hz; cases hz
  rw [if_neg (by simpa using h2)] at hz ⊢
  by_cases h3 : (n : Int) < 0 ∨ 6 < (n : Int) ∨ fitsB f 0 n = false
  · rw [if_pos h3] at hz; cases hz
  rw [if_neg h3, Int.toNat_natCast]
  have hn : n ≤ 6 := by omega
  refine ⟨h1, h2, hn, ?_, rfl⟩
  have h4 : fitsB f 0 n = true := by
    cases h : fitsB f 0 n
    · exact absurd (.inr (.inr h)) h3
    · rfl
  rw [fits_prop h1 h2 hn] at h4
  exact of_decide_eq_true h4
theorem table_is {f : List Nd} {n : Nat} (h1 : checkF f = 0) (h2 : fragsA f = 0) (hn : n ≤ 6) (h3 : factsA f / 2 ^ n = 0) : tableA f n = (tabS (compactA f) (2 ^ n), 0) := by
  unfold tableA
  rw [if_neg (by simpa using h1), if_neg (by simpa using h2), if_neg, Int.toNat_natCast]
  rw [fits_prop h1 h2 hn, decide_eq_true h3]
  simp; omega
theorem canon_le {f : List Nd} (h : checkF f = 0) : (canon (treeF f)).length ≤ f.length := by
  obtain ⟨h1, h2, h3⟩ := checkF_zero h
  have hl : 0 < f.length := by cases f with | nil => exact absurd rfl h1 | cons a b => simp
  have := finish_len h3 (i := f.length - 1) (by omega)
  rwa [compactS_canon h3 (by omega)] at this
/-- The law: a tautology exactly if the table is full; the table of the negation is the complement. -/
theorem full_law {f : List Nd} (h40 : f.length ≤ 40) (hz : (tableA f 6).2 = 0) :
    (tautA f).2 = 0 ∧ (tautA f).1 = decide ((tableA f 6).1 = BitVec.allOnes 64) ∧ (tableA (notA f) 6).2 = 0 ∧ (tableA (notA f) 6).1 = ~~~ (tableA f 6).1 := by
  obtain ⟨hc, hf, _, h6, ht⟩ := table_ok (n := 6) hz
  have hv := validC f
  have hn := compact_ne hc
  obtain ⟨htr, hd⟩ := compact_tree hc
  have hp := frags_zero.1 hf
  have hf6 := facts_lt hv h6
  obtain ⟨h8, _⟩ := leaves_props hv hd hn hp
  have e1 := taut_full hv hd hn hp hf6
  have hta : tautA f = (decide ((tableA f 6).1 = BitVec.allOnes 64), 0) := by
    unfold tautA
    rw [if_neg (by simpa using hc), if_neg (by omega), e1, show tableA f 6 = _ from ht]
  refine ⟨by rw [hta], by rw [hta], ?_⟩
  have hw4 : wfT (.nd 4 0 0 0 (treeF f) .nil) := ⟨by decide, by simp only [show (usesA 4).1.x = true from rfl, ↓reduceIte]; exact treeF_wf hc, by simp only [show (usesA 4).1.y = false from rfl, ↓reduceIte, Bool.false_eq_true]⟩
  have hcf := compactA_eq hc
  have hcl := canon_le hc
  rw [show tree f (f.length - 1) = treeF f from rfl] at hcf
  have hno := canon_not (treeF f)
  have hlen : (canon (.nd 4 0 0 0 (treeF f) .nil)).length ≤ 41 := by
    rcases hno with h | ⟨k, h⟩
    · rw [h]; omega
    · rw [h, List.length_append, List.length_singleton]; omega
  have hnot : notA f = canon (.nd 4 0 0 0 (treeF f) .nil) := by
    unfold notA
    rw [build_one hc rfl rfl (by decide) rfl, if_neg (by simp only; omega)]
  have hcc := canon_check hw4 (by omega)
  obtain ⟨sv, sn, sl, st⟩ := canon_spec hw4
  have h6' := h6
  unfold factsA at h6'
  rw [hcf] at hp h6' hv hn htr
  have hfrag : fragsA (notA f) = 0 := by
    rw [frags_zero, hnot, hcc.2]
    intro p hq
    rcases hno with h | ⟨k, h⟩
    · rw [h] at hq; exact hp p hq
    · rw [h] at hq
      rcases List.mem_append.1 hq with hq | hq
      · exact hp p hq
      · rw [List.mem_singleton] at hq; rw [hq]; show (4 : Int) ≤ 8; decide
  have hfac : factsA (notA f) = factsA f := by
    unfold factsA
    rw [hnot, hcc.2, hcf]
    rcases hno with h | ⟨k, h⟩
    · rw [h]
    · rw [h]; exact unionN_or _ _ _ rfl
  have htn := table_is (f := notA f) (n := 6) (by rw [hnot]; exact hcc.1) hfrag (Nat.le_refl _) (by rw [hfac]; exact h6)
  rw [show tableA (notA f) 6 = _ from htn, show tableA f 6 = _ from ht]
  refine ⟨rfl, ?_⟩
  simp only
  rw [hnot, hcc.2, hcf]
  refine BitVec.eq_of_getLsbD_eq fun j hj => ?_
  have e64 : 2 ^ 6 = 64 := rfl
  rw [e64, BitVec.getLsbD_not, tabS_bit _ 64 (Nat.le_refl _) j hj, tabS_bit _ 64 (Nat.le_refl _) j hj, value_tree sv sl, value_tree hv hn, st, htr]
  simp only [hj, decide_true, Bool.true_and]
  conv => lhs; unfold evT
  rw [if_neg (by decide)]
  rfl
end Fm
end Go.Pd
