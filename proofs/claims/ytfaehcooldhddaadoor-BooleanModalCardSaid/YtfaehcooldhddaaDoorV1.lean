/- Boolean: plain: the value of a formula, by its nodes, by its tree; which leaves it asks. -/
import Derived.Test.YtfaehcooldhddaaDoorP8
import Derived.Test.YtfaehcooldhddaaDoorG6
set_option linter.unusedSectionVars false
set_option linter.unusedVariables false
set_option linter.unusedSimpArgs false
set_option linter.defProp false
set_option maxRecDepth 20000
namespace Go.Pd
open Go Go.Proofs
open Rs Fm
namespace Fm
def atomN (p : Nd) : Prop := p.op = 3 ∨ 8 < p.op
instance (p : Nd) : Decidable (atomN p) := by unfold atomN; infer_instance
/-- The value of a node. -/
def valI (c : List Nd) (leaf : Nat → Bool) (i : Nat) : Bool := (valsS c leaf c.length).getD i false
theorem getD_set_ne {l : List Bool} {i k : Nat} {b : Bool} (h : k ≠ i) : (l.set k b).getD i false = l.getD i false := by
  simp only [List.getD, List.getElem?_set_ne h]
theorem vals_stay (c : List Nd) (leaf : Nat → Bool) {i : Nat} : ∀ (k : Nat), i < k → (valsS c leaf k).getD i false = (valsS c leaf (i + 1)).getD i false
  | 0, h => by omega
  | k + 1, h => by
    by_cases e : i = k
    · rw [e]
    · rw [← vals_stay c leaf k (by omega)]
      conv => lhs; unfold valsS
      exact getD_set_ne (by omega)
theorem valI_eq {c : List Nd} (hv : validL c) (leaf : Nat → Bool) {i : Nat} (hi : i < c.length) : valI c leaf i = if atomN (c.getD i nd0) then leaf i else combB (c.getD i nd0).op (valI c leaf (c.getD i nd0).x.toNat) (valI c leaf (c.getD i nd0).y.toNat) := by
  obtain ⟨ox, oy, zx, zy⟩ := node_ops' (hv i hi)
  unfold valI
  rw [vals_stay c leaf c.length hi]
  conv => lhs; unfold valsS
  have hl := valsS_len c leaf i
  rw [show ∀ b : Bool, ((valsS c leaf i).set i b).getD i false = b from fun b => by simp [List.getD, hl, hi]]
  by_cases ha : (c.getD i nd0).op = 3 ∨ 8 < (c.getD i nd0).op
  · rw [if_pos ha, if_pos (show atomN (c.getD i nd0) from ha)]
  rw [if_neg ha, if_neg (show ¬ atomN (c.getD i nd0) from ha)]
  have hx : (c.getD i nd0).x.toNat < i ∨ (usesA (c.getD i nd0).op).1.x = false := by
    cases h : (usesA (c.getD i nd0).op).1.x
    · exact .inr rfl
    · exact .inl (ox h).2
  have hy : (c.getD i nd0).y.toNat < i ∨ (usesA (c.getD i nd0).op).1.y = false := by
    cases h : (usesA (c.getD i nd0).op).1.y
    · exact .inr rfl
    · exact .inl (oy h).2
  generalize c.getD i nd0 = p at ha hx hy
  by_cases h4 : 4 ≤ p.op
  case neg =>
    have hc : ∀ a b : Bool, combB p.op a b = decide (p.op = 1) := fun a b => by
      unfold combB
      by_cases h1 : p.op = 1
      · rw [if_pos h1, decide_eq_true h1]
      · rw [if_neg h1, if_neg (by omega), if_neg (by omega), if_neg (by omega), if_neg (by omega), if_neg (by omega), decide_eq_false h1]
    rw [hc, hc]
  obtain ⟨ux, uy⟩ := uses_mid h4 (by omega)
  have hx' : p.x.toNat < i := by rcases hx with h | h; exact h; rw [ux] at h; cases h
  rw [vals_stay c leaf i hx', ← vals_stay c leaf c.length (by omega)]
  by_cases h5 : 5 ≤ p.op
  case neg =>
    have hop : p.op = 4 := by omega
    rw [hop]; rfl
  have hy' : p.y.toNat < i := by rcases hy with h | h; exact h; rw [uy h5] at h; cases h
  rw [vals_stay c leaf i hy', ← vals_stay c leaf c.length (by omega)]
theorem valueA_I (c : List Nd) (leaf : Nat → Bool) : valueA c leaf = valI c leaf (c.length - 1) := rfl
/-- Of an operator between: its operands. -/
theorem mid_ops {c : List Nd} (hv : validL c) {i : Nat} (hi : i < c.length) (ha : ¬ atomN (c.getD i nd0)) : (4 ≤ (c.getD i nd0).op → 0 ≤ (c.getD i nd0).x ∧ (c.getD i nd0).x.toNat < i) ∧ (5 ≤ (c.getD i nd0).op → 0 ≤ (c.getD i nd0).y ∧ (c.getD i nd0).y.toNat < i) := by
  obtain ⟨ox, oy, _, _⟩ := node_ops' (hv i hi)
  unfold atomN at ha
  refine ⟨fun h => ox (uses_mid h (by omega)).1, fun h => oy ((uses_mid (by omega) (by omega)).2 h)⟩
theorem comb_low {op : Int} (h : op < 4) (a b a' b' : Bool) : combB op a b = combB op a' b' := by
  unfold combB
  by_cases h1 : op = 1
  · rw [if_pos h1, if_pos h1]
  · rw [if_neg h1, if_neg (by omega), if_neg (by omega), if_neg (by omega), if_neg (by omega), if_neg (by omega), if_neg h1, if_neg (by omega), if_neg (by omega), if_neg (by omega), if_neg (by omega), if_neg (by omega)]
theorem comb_not {op : Int} (h : op = 4) (a b b' : Bool) : combB op a b = combB op a b' := by rw [h]; rfl
/-- The value by the tree. -/
def evT (φ : Tr → Bool) : Tr → Bool
  | .nil => false
  | .nd op i e g x y => if op = 3 ∨ 8 < op then φ (.nd op i e g x y) else combB op (evT φ x) (evT φ y)
theorem valI_tree {c : List Nd} (hv : validL c) {leaf : Nat → Bool} {φ : Tr → Bool} (hl : ∀ i, i < c.length → atomN (c.getD i nd0) → leaf i = φ (tree c i)) : ∀ i, i < c.length → valI c leaf i = evT φ (tree c i) := by
  intro i
  induction i using Nat.strongRecOn with
  | _ i ih =>
    intro hi
    have h1 := hl i hi
    have h2 := mid_ops hv hi
    rw [valI_eq hv leaf hi]
    have ht := tree_eq hv hi
    rw [ht] at h1 ⊢
    unfold evT
    by_cases ha : atomN (c.getD i nd0)
    · rw [if_pos ha, if_pos (show (c.getD i nd0).op = 3 ∨ 8 < (c.getD i nd0).op from ha)]; exact h1 ha
    have ha' : ¬ ((c.getD i nd0).op = 3 ∨ 8 < (c.getD i nd0).op) := ha
    rw [if_neg ha, if_neg ha']
    obtain ⟨ox, oy⟩ := h2 ha
    by_cases h4 : 4 ≤ (c.getD i nd0).op
    case neg => exact comb_low (by omega) _ _ _ _
    obtain ⟨ux, uy⟩ := uses_mid h4 (by omega)
    rw [if_pos ux, ih _ (ox h4).2 (by have := (ox h4).2; omega)]
    by_cases h5 : 5 ≤ (c.getD i nd0).op
    case neg => exact comb_not (by omega) _ _ _
    rw [if_pos (uy h5), ih _ (oy h5).2 (by have := (oy h5).2; omega)]
/-- The leaves that a walk collects: what has been seen below a node has its operands seen and, if it is a leaf, is collected. -/
def shutI (c : List Nd) (s : List Bool × List Int) (j : Nat) : Prop :=
  s.1.getD j false = true → (atomN (c.getD j nd0) → (j : Int) ∈ s.2) ∧ (¬ atomN (c.getD j nd0) → (4 ≤ (c.getD j nd0).op → s.1.getD (c.getD j nd0).x.toNat false = true) ∧ (5 ≤ (c.getD j nd0).op → s.1.getD (c.getD j nd0).y.toNat false = true))
structure Grow (c : List Nd) (i : Nat) (s s' : List Bool × List Int) : Prop where
  len : s'.1.length = s.1.length
  seen : ∀ j, s.1.getD j false = true → s'.1.getD j false = true
  up : ∀ j, i < j → s'.1.getD j false = s.1.getD j false
  out : ∃ l, s'.2 = s.2 ++ l ∧ l.Nodup ∧ ∀ z ∈ l, ∃ j : Nat, z = j ∧ j ≤ i ∧ s.1.getD j false = false ∧ s'.1.getD j false = true ∧ atomN (c.getD j nd0)
theorem Grow.refl {c : List Nd} {i : Nat} {s : List Bool × List Int} : Grow c i s s := ⟨rfl, fun _ h => h, fun _ _ => rfl, [], by simp⟩
theorem Grow.trans {c : List Nd} {a b i : Nat} {s1 s2 s3 : List Bool × List Int} (h1 : Grow c a s1 s2) (h2 : Grow c b s2 s3) (ha : a ≤ i) (hb : b ≤ i) : Grow c i s1 s3 := by
  obtain ⟨p1, p2, p3, l, p4, p5, p6⟩ := h1
  obtain ⟨q1, q2, q3, m, q4, q5, q6⟩ := h2
  refine ⟨by rw [q1, p1], fun j h => q2 j (p2 j h), fun j h => by rw [q3 j (by omega), p3 j (by omega)], l ++ m, by rw [q4, p4, List.append_assoc], ?_, fun z hz => ?_⟩
  · rw [List.nodup_append]
    refine ⟨p5, q5, fun x hx y hy e => ?_⟩
    obtain ⟨j, e1, _, _, e2, _⟩ := p6 x hx
    obtain ⟨k, f1, _, f2, _⟩ := q6 y hy
    obtain rfl : j = k := by omega
    rw [e2] at f2; cases f2
  · rcases List.mem_append.1 hz with hz | hz
    · obtain ⟨j, e1, e2, e3, e4, e5⟩ := p6 z hz
      exact ⟨j, e1, by omega, e3, q2 j e4, e5⟩
    · obtain ⟨j, e1, e2, e3, e4, e5⟩ := q6 z hz
      refine ⟨j, e1, by omega, ?_, e4, e5⟩
      cases h : s1.1.getD j false
      · rfl
      · rw [p2 j h] at e3; cases e3
theorem shut_grow {c : List Nd} {i : Nat} {s s' : List Bool × List Int} (h : Grow c i s s') {j : Nat} (hj : i < j) (hs : shutI c s j) : shutI c s' j := by
  obtain ⟨_, p2, p3, l, p4, _⟩ := h
  intro hq
  rw [p3 j hj] at hq
  obtain ⟨a, b⟩ := hs hq
  refine ⟨fun h => by rw [p4]; exact List.mem_append_left _ (a h), fun h => ⟨fun h4 => p2 _ ((b h).1 h4), fun h5 => p2 _ ((b h).2 h5)⟩⟩
theorem leavesS_shut {c : List Nd} (hv : validL c) : ∀ (n : Nat) {i : Nat} {s : List Bool × List Int}, i < n → i < c.length → s.1.length = c.length → (∀ j, j ≤ i → shutI c s j) →
    Grow c i s (leavesS c n i s) ∧ (leavesS c n i s).1.getD i false = true ∧ ∀ j, j ≤ i → shutI c (leavesS c n i s) j
  | 0, i, s, h, _, _, _ => by omega
  | n + 1, i, s, h, hi, hl, hs => by
    unfold leavesS
    cases hb : s.1.getD i false
    case true => rw [if_pos rfl]; exact ⟨.refl, hb, hs⟩
    rw [if_neg (by simp)]
    have hm := mid_ops hv hi
    have hset : (s.1.set i true).getD i false = true := by simp [List.getD, hl, hi]
    have hne : ∀ j, j ≠ i → (s.1.set i true).getD j false = s.1.getD j false := fun j hj => getD_set_ne (by omega)
    have hseen : ∀ j, s.1.getD j false = true → (s.1.set i true).getD j false = true := fun j hj => by
      by_cases e : j = i
      · rw [e]; exact hset
      · rw [hne j e]; exact hj
    have hg0 : Grow c i s (s.1.set i true, s.2) := ⟨by simp, hseen, fun j hj => hne j (by omega), [], by simp⟩
    by_cases hp : (c.getD i nd0).op = 3 ∨ 8 < (c.getD i nd0).op
    · rw [if_pos hp]
      refine ⟨⟨by simp, hseen, fun j hj => hne j (by omega), [(i : Int)], rfl, by simp, fun z hz => ?_⟩, hset, fun j hj => ?_⟩
      · rw [List.mem_singleton] at hz
        exact ⟨i, hz, Nat.le_refl _, hb, hset, hp⟩
      · intro hq
        by_cases e : j = i
        · rw [e]
          exact ⟨fun _ => by simp, fun h => absurd hp h⟩
        · have hq' : s.1.getD j false = true := by rw [← hne j e]; exact hq
          obtain ⟨a, b⟩ := hs j hj hq'
          exact ⟨fun h => List.mem_append_left _ (a h), fun h => ⟨fun h4 => hseen _ ((b h).1 h4), fun h5 => hseen _ ((b h).2 h5)⟩⟩
    rw [if_neg hp]
    obtain ⟨ox, oy⟩ := hm hp
    have hlow : ∀ j, j < i → shutI c (s.1.set i true, s.2) j := fun j hj hq => by
      simp only at hq
      rw [hne j (by omega)] at hq
      obtain ⟨a, b⟩ := hs j (by omega) hq
      exact ⟨a, fun h => ⟨fun h4 => hseen _ ((b h).1 h4), fun h5 => hseen _ ((b h).2 h5)⟩⟩
    by_cases h4 : 4 ≤ (c.getD i nd0).op
    case neg =>
      simp only [if_neg h4, if_neg (show ¬ 5 ≤ (c.getD i nd0).op by omega)]
      refine ⟨hg0, hset, fun j hj => ?_⟩
      by_cases e : j = i
      · rw [e]
        exact fun _ => ⟨fun h => absurd h hp, fun _ => ⟨fun h => absurd h h4, fun h => by omega⟩⟩
      · exact hlow j (by omega)
    simp only [if_pos h4]
    obtain ⟨g1, g2, g3⟩ := leavesS_shut hv n (i := (c.getD i nd0).x.toNat) (s := (s.1.set i true, s.2)) (by have := (ox h4).2; omega) (by have := (ox h4).2; omega) (by simpa using hl) (fun j hj => hlow j (by have := (ox h4).2; omega))
    generalize leavesS c n (c.getD i nd0).x.toNat (s.1.set i true, s.2) = s1 at g1 g2 g3
    have g0 := hg0.trans g1 (Nat.le_refl _) (Nat.le_of_lt (ox h4).2)
    have hi1 : s1.1.getD i false = true := g1.seen _ hset
    have low1 : ∀ j, j < i → shutI c s1 j := fun j hj => by
      by_cases e : j ≤ (c.getD i nd0).x.toNat
      · exact g3 j e
      · exact shut_grow g1 (by omega) (hlow j hj)
    by_cases h5 : 5 ≤ (c.getD i nd0).op
    case neg =>
      rw [if_neg h5]
      refine ⟨g0, hi1, fun j hj => ?_⟩
      by_cases e : j = i
      · rw [e]
        exact fun _ => ⟨fun h => absurd h hp, fun _ => ⟨fun _ => g2, fun h => absurd h h5⟩⟩
      · exact low1 j (by omega)
    rw [if_pos h5]
    obtain ⟨k1, k2, k3⟩ := leavesS_shut hv n (i := (c.getD i nd0).y.toNat) (s := s1) (by have := (oy h5).2; omega) (by have := (oy h5).2; omega) (by rw [g0.len]; exact hl) (fun j hj => low1 j (by have := (oy h5).2; omega))
    generalize leavesS c n (c.getD i nd0).y.toNat s1 = s2 at k1 k2 k3
    refine ⟨g0.trans k1 (Nat.le_refl _) (Nat.le_of_lt (oy h5).2), k1.seen _ hi1, fun j hj => ?_⟩
    by_cases e : j = i
    · rw [e]
      exact fun _ => ⟨fun h => absurd h hp, fun _ => ⟨fun _ => k1.seen _ g2, fun _ => k2⟩⟩
    · by_cases e2 : j ≤ (c.getD i nd0).y.toNat
      · exact k3 j e2
      · exact shut_grow k1 (by omega) (low1 j (by omega))
/-- What the leaves are: atoms, each once; the value asks no other. -/
theorem leaves_facts {c : List Nd} (hv : validL c) (hn : 0 < c.length) : (leavesA c).Nodup ∧ (∀ z ∈ leavesA c, ∃ j : Nat, z = j ∧ j < c.length ∧ atomN (c.getD j nd0)) ∧
    ∀ leaf leaf' : Nat → Bool, (∀ j : Nat, (j : Int) ∈ leavesA c → leaf j = leaf' j) → valueA c leaf = valueA c leaf' := by
  obtain ⟨⟨_, _, _, l, e, d, at'⟩, hr, hsh⟩ := leavesS_shut hv c.length (i := c.length - 1) (s := (List.replicate c.length false, [])) (by omega) (by omega) (by simp) (fun j hj hq => by simp [List.getD, List.getElem?_replicate] at hq; split at hq <;> simp at hq)
  have e' : leavesA c = l := by unfold leavesA; rw [e]; rfl
  refine ⟨by rw [e']; exact d, fun z hz => ?_, fun leaf leaf' hll => ?_⟩
  · rw [e'] at hz
    obtain ⟨j, q1, q2, _, _, q5⟩ := at' z hz
    exact ⟨j, q1, by omega, q5⟩
  · rw [valueA_I, valueA_I]
    have key : ∀ i, i < c.length → (leavesS c c.length (c.length - 1) (List.replicate c.length false, [])).1.getD i false = true → valI c leaf i = valI c leaf' i := by
      intro i
      induction i using Nat.strongRecOn with
      | _ i ih =>
        intro hi hs
        obtain ⟨a, b⟩ := hsh i (by omega) hs
        have hm := mid_ops hv hi
        rw [valI_eq hv leaf hi, valI_eq hv leaf' hi]
        by_cases ha : atomN (c.getD i nd0)
        · rw [if_pos ha, if_pos ha]; exact hll i (a ha)
        rw [if_neg ha, if_neg ha]
        obtain ⟨ox, oy⟩ := hm ha
        obtain ⟨bx, by'⟩ := b ha
        by_cases h4 : 4 ≤ (c.getD i nd0).op
        case neg => exact comb_low (by omega) _ _ _ _
        rw [ih _ (ox h4).2 (by have := (ox h4).2; omega) (bx h4)]
        by_cases h5 : 5 ≤ (c.getD i nd0).op
        case neg => exact comb_not (by omega) _ _ _
        rw [ih _ (oy h5).2 (by have := (oy h5).2; omega) (by' h5)]
    exact key _ (by omega) hr
/-- The tree of a formula that passes its checks. -/
def treeF (f : List Nd) : Tr := tree f (f.length - 1)
theorem treeF_wf {f : List Nd} (h : checkF f = 0) : wfT (treeF f) := by
  obtain ⟨h1, h2, h3⟩ := checkF_zero h
  have hl : 0 < f.length := by cases f with | nil => exact absurd rfl h1 | cons a b => simp
  exact tree_wf h3 _ (by omega)
theorem compact_tree {f : List Nd} (h : checkF f = 0) : tree (compactA f) ((compactA f).length - 1) = treeF f ∧ (compactA f).Nodup := by
  rw [compactA_eq h]
  obtain ⟨_, b, _, d⟩ := canon_spec (treeF_wf h)
  exact ⟨d, b⟩
end Fm
end Go.Pd
