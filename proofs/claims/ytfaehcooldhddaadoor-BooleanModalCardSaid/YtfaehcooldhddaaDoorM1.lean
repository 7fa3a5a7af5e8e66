/- Boolean: plain: the leaves of a tree; tautologies by the tree; an excluded middle. -/
import Derived.Test.YtfaehcooldhddaaDoorV3
set_option linter.unusedSectionVars false
set_option linter.unusedVariables false
set_option linter.unusedSimpArgs false
set_option linter.defProp false
set_option maxRecDepth 20000
namespace Go.Pd
open Go Go.Proofs
open Rs Fm
namespace Fm
/-- The leaves of a tree. -/
def lvT : Tr → List Tr
  | .nil => []
  | .nd op i e g x y => if op = 3 ∨ 8 < op then [.nd op i e g x y] else lvT x ++ lvT y
theorem lvT_atom {c : List Nd} (hv : validL c) {i : Nat} (hi : i < c.length) (ha : atomN (c.getD i nd0)) : lvT (tree c i) = [tree c i] := by
  rw [tree_eq hv hi]
  unfold lvT
  rw [if_pos (show (c.getD i nd0).op = 3 ∨ 8 < (c.getD i nd0).op from ha)]
/-- Of an operator between: the leaves of its operands. -/
theorem lvT_mid {c : List Nd} (hv : validL c) {i : Nat} (hi : i < c.length) (ha : ¬ atomN (c.getD i nd0)) (t : Tr) : t ∈ lvT (tree c i) ↔ (4 ≤ (c.getD i nd0).op ∧ t ∈ lvT (tree c (c.getD i nd0).x.toNat)) ∨ (5 ≤ (c.getD i nd0).op ∧ t ∈ lvT (tree c (c.getD i nd0).y.toNat)) := by
  rw [tree_eq hv hi]
  conv => lhs; unfold lvT
  rw [if_neg (show ¬ ((c.getD i nd0).op = 3 ∨ 8 < (c.getD i nd0).op) from ha), List.mem_append]
  unfold atomN at ha
  by_cases h4 : 4 ≤ (c.getD i nd0).op
  case neg =>
    have hx : (usesA (c.getD i nd0).op).1.x = false := by
      have hok := (nodeE_iff.1 (hv i hi)).1
      rcases Int.lt_or_le (c.getD i nd0).op 1 with h | h
      · rw [uses_out (.inl h)] at hok; cases hok
      · have : (c.getD i nd0).op = 1 ∨ (c.getD i nd0).op = 2 := by omega
        rcases this with h | h <;> rw [h] <;> rfl
    have hy : (usesA (c.getD i nd0).op).1.y = false := by
      have hok := (nodeE_iff.1 (hv i hi)).1
      rcases Int.lt_or_le (c.getD i nd0).op 1 with h | h
      · rw [uses_out (.inl h)] at hok; cases hok
      · have : (c.getD i nd0).op = 1 ∨ (c.getD i nd0).op = 2 := by omega
        rcases this with h | h <;> rw [h] <;> rfl
    rw [hx, hy]
    simp only [Bool.false_eq_true, ↓reduceIte]
    constructor
    · rintro (h | h) <;> simp [lvT] at h
    · rintro (h | h)
      · exact absurd h.1 h4
      · have := h.1; omega
  obtain ⟨ux, uy⟩ := uses_mid h4 (by omega)
  rw [if_pos ux]
  by_cases h5 : 5 ≤ (c.getD i nd0).op
  · rw [if_pos (uy h5)]
    exact or_congr ⟨fun h => ⟨h4, h⟩, fun h => h.2⟩ ⟨fun h => ⟨h5, h⟩, fun h => h.2⟩
  · have h40 : (c.getD i nd0).op = 4 := by omega
    rw [show (usesA (c.getD i nd0).op).1.y = false by rw [h40]; rfl]
    simp only [Bool.false_eq_true, ↓reduceIte]
    constructor
    · rintro (h | h)
      · exact .inl ⟨h4, h⟩
      · simp [lvT] at h
    · rintro (h | h)
      · exact .inl h.2
      · exact absurd h.1 h5
/-- What a walk collects are leaves of the tree. -/
theorem leavesS_sub {c : List Nd} (hv : validL c) : ∀ (n : Nat) {i : Nat} {s : List Bool × List Int}, i < n → i < c.length → ∀ z ∈ (leavesS c n i s).2, z ∈ s.2 ∨ ∃ j : Nat, z = j ∧ j < c.length ∧ tree c j ∈ lvT (tree c i)
  | 0, i, s, h, _, _, _ => by omega
  | n + 1, i, s, h, hi, z, hz => by
    unfold leavesS at hz
    cases hb : s.1.getD i false
    case true => rw [hb, if_pos rfl] at hz; exact .inl hz
    rw [hb, if_neg (by simp)] at hz
    by_cases hp : (c.getD i nd0).op = 3 ∨ 8 < (c.getD i nd0).op
    · rw [if_pos hp] at hz
      rcases List.mem_append.1 hz with hz | hz
      · exact .inl hz
      · rw [List.mem_singleton] at hz
        exact .inr ⟨i, hz, hi, by rw [lvT_atom hv hi hp]; simp⟩
    rw [if_neg hp] at hz
    obtain ⟨ox, oy⟩ := mid_ops hv hi hp
    have hm := fun t => lvT_mid hv hi hp t
    by_cases h4 : 4 ≤ (c.getD i nd0).op
    case neg => simp only [if_neg h4, if_neg (show ¬ 5 ≤ (c.getD i nd0).op by omega)] at hz; exact .inl hz
    simp only [if_pos h4] at hz
    have hx := ox h4
    have r1 := leavesS_sub hv n (i := (c.getD i nd0).x.toNat) (s := (s.1.set i true, s.2)) (by omega) (by omega)
    have one : ∀ z ∈ (leavesS c n (c.getD i nd0).x.toNat (s.1.set i true, s.2)).2, z ∈ s.2 ∨ ∃ j : Nat, z = j ∧ j < c.length ∧ tree c j ∈ lvT (tree c i) := fun z hz => by
      rcases r1 z hz with h | ⟨j, e1, e2, e3⟩
      · exact .inl h
      · exact .inr ⟨j, e1, e2, (hm _).2 (.inl ⟨h4, e3⟩)⟩
    by_cases h5 : 5 ≤ (c.getD i nd0).op
    case neg => rw [if_neg h5] at hz; exact one z hz
    rw [if_pos h5] at hz
    have hy := oy h5
    rcases leavesS_sub hv n (i := (c.getD i nd0).y.toNat) (by omega) (by omega) z hz with h | ⟨j, e1, e2, e3⟩
    · exact one z h
    · exact .inr ⟨j, e1, e2, (hm _).2 (.inr ⟨h5, e3⟩)⟩
/-- The leaves of the root's tree: each is the tree of a leaf. -/
theorem leaves_tree {c : List Nd} (hv : validL c) (hn : 0 < c.length) (t : Tr) : t ∈ (leavesA c).map (fun z => tree c z.toNat) ↔ t ∈ lvT (tree c (c.length - 1)) := by
  constructor
  · intro h
    obtain ⟨z, hz, rfl⟩ := List.mem_map.1 h
    rcases leavesS_sub hv c.length (i := c.length - 1) (by omega) (by omega) z hz with h | ⟨j, e1, e2, e3⟩
    · simp at h
    · rw [e1, Int.toNat_natCast]; exact e3
  · obtain ⟨_, hr, hsh⟩ := leavesS_shut hv c.length (i := c.length - 1) (s := (List.replicate c.length false, [])) (by omega) (by omega) (by simp) (fun j hj hq => by simp [List.getD, List.getElem?_replicate] at hq; split at hq <;> simp at hq)
    have key : ∀ i, i < c.length → (leavesS c c.length (c.length - 1) (List.replicate c.length false, [])).1.getD i false = true → ∀ t, t ∈ lvT (tree c i) → t ∈ (leavesA c).map (fun z => tree c z.toNat) := by
      intro i
      induction i using Nat.strongRecOn with
      | _ i ih =>
        intro hi hs t ht
        obtain ⟨a, b⟩ := hsh i (by omega) hs
        by_cases ha : atomN (c.getD i nd0)
        · rw [lvT_atom hv hi ha, List.mem_singleton] at ht
          exact List.mem_map.2 ⟨(i : Int), a ha, by rw [Int.toNat_natCast, ht]⟩
        obtain ⟨ox, oy⟩ := mid_ops hv hi ha
        obtain ⟨bx, by'⟩ := b ha
        rcases (lvT_mid hv hi ha t).1 ht with ⟨h4, h⟩ | ⟨h5, h⟩
        · exact ih _ (ox h4).2 (by have := (ox h4).2; omega) (bx h4) t h
        · exact ih _ (oy h5).2 (by have := (oy h5).2; omega) (by' h5) t h
    exact key _ (by omega) hr t
theorem leaves_treeN {c : List Nd} (hv : validL c) (hd : c.Nodup) (hn : 0 < c.length) : ((leavesA c).map fun z => tree c z.toNat).Nodup := by
  obtain ⟨nd, inn, _⟩ := leaves_facts hv hn
  unfold List.Nodup at nd ⊢
  rw [List.pairwise_map]
  refine nd.imp_of_mem fun {a b} ha hb hne e => hne ?_
  obtain ⟨i, rfl, hi, _⟩ := inn a ha
  obtain ⟨j, rfl, hj, _⟩ := inn b hb
  rw [Int.toNat_natCast, Int.toNat_natCast] at e
  rw [tree_inj hv hd hi hj e]
theorem nodup_sub {α : Type} : ∀ {l m : List α}, l.Nodup → (∀ x ∈ l, x ∈ m) → l.length ≤ m.length
  | [], m, _, _ => by simp
  | a :: r, m, hn, h => by
    obtain ⟨m1, m2, rfl⟩ := List.append_of_mem (h a (by simp))
    obtain ⟨h1, h2⟩ := List.nodup_cons.1 hn
    have := nodup_sub (m := m1 ++ m2) h2 fun x hx => by
      have := h x (by simp [hx])
      simp only [List.mem_append, List.mem_cons] at this ⊢
      rcases this with h | h | h
      · exact .inl h
      · subst h; exact absurd hx h1
      · exact .inr h
    simp only [List.length_cons, List.length_append] at this ⊢
    omega
/-- True whatever the leaves are: by the tree. -/
theorem all_tree {c : List Nd} (hv : validL c) (hd : c.Nodup) (hn : 0 < c.length) : (∀ leaf, valueA c leaf = true) ↔ ∀ φ, evT φ (tree c (c.length - 1)) = true := by
  classical
  constructor
  · intro h φ
    have := h fun i => φ (tree c i)
    rw [valueA_I, valI_tree hv (φ := φ) (fun _ _ _ => rfl) _ (by omega)] at this
    exact this
  · intro h leaf
    rw [valueA_I, valI_tree hv (φ := fun t => decide (∃ j, j < c.length ∧ tree c j = t ∧ leaf j = true)) (fun i hi _ => ?_) _ (by omega)]
    · exact h _
    · rw [Bool.eq_iff_iff, decide_eq_true_iff]
      exact ⟨fun hl => ⟨i, hi, rfl, hl⟩, fun ⟨j, hj, e, hl⟩ => by rw [← tree_inj hv hd hj hi e]; exact hl⟩
/-- A tautology, by the tree. -/
theorem taut_tree {f : List Nd} (hc : checkF f = 0) (hl : (leavesA (compactA f)).length ≤ 10) : (tautA f).2 = 0 ∧ ((tautA f).1 = true ↔ ∀ φ, evT φ (treeF f) = true) := by
  have hv := validC f
  have hn := compact_ne hc
  obtain ⟨ht, hd⟩ := compact_tree hc
  have h1 := taut_all hv hn
  have h2 := all_tree hv hd hn
  rw [ht] at h2
  unfold tautA
  rw [if_neg (by simpa using hc), if_neg (by omega)]
  exact ⟨rfl, by simp only; rw [h1, h2]⟩
/-- How many leaves. -/
theorem leaves_le {f : List Nd} (hc : checkF f = 0) {m : List Tr} (h : ∀ t ∈ lvT (treeF f), t ∈ m) : (leavesA (compactA f)).length ≤ m.length := by
  have hv := validC f
  have hn := compact_ne hc
  obtain ⟨ht, hd⟩ := compact_tree hc
  have := nodup_sub (leaves_treeN hv hd hn) (m := m) fun t ht' => by
    have := (leaves_tree hv hn t).1 ht'
    rw [ht] at this
    exact h t this
  simpa using this
/-- Two lists, one behind the other. -/
theorem tree_shift {l c : List Nd} (hl : validL l) (hc : validL c) : ∀ k, k < c.length → tree (l ++ c.map (shiftN l.length)) (l.length + k) = tree c k := by
  have hv := validL_app hl hc
  intro k
  induction k using Nat.strongRecOn with
  | _ k ih =>
    intro hk
    obtain ⟨ox, oy, _, _⟩ := node_ops' (hc k hk)
    have hg : (l ++ c.map (shiftN l.length)).getD (l.length + k) nd0 = shiftN l.length (c.getD k nd0) := by
      simp [List.getD, hk]
    rw [tree_eq hv (by simp; omega), tree_eq hc hk, hg]
    generalize c.getD k nd0 = p at ox oy
    unfold shiftN
    simp only
    congr 1
    · by_cases hx : (usesA p.op).1.x = true
      · have := ox hx
        rw [if_pos hx, if_pos hx, if_pos hx, show (p.x + (l.length : Int)).toNat = l.length + p.x.toNat by omega]
        exact ih _ (by omega) (by omega)
      · rw [if_neg hx, if_neg hx]
    · by_cases hy : (usesA p.op).1.y = true
      · have := oy hy
        rw [if_pos hy, if_pos hy, if_pos hy, show (p.y + (l.length : Int)).toNat = l.length + p.y.toNat by omega]
        exact ih _ (by omega) (by omega)
      · rw [if_neg hy, if_neg hy]
/-- Two operands. -/
theorem build_two {x : Nd} {f g : List Nd} (hf : checkF f = 0) (hg : checkF g = 0) (hx : (usesA x.op).1.x = true) (hy : (usesA x.op).1.y = true) (hw : nodeE ⟨x.op, x.i, x.e, x.g, 0, 0⟩ 1 = 0) :
    buildA x [f, g] = if 200 < (canon (.nd x.op x.i x.e x.g (treeF f) (treeF g))).length then [] else canon (.nd x.op x.i x.e x.g (treeF f) (treeF g)) := by
  have hv := validC f
  have hn := compact_ne hf
  have ht := (compact_tree hf).1
  have hv2 := validC g
  have hn2 := compact_ne hg
  have ht2 := (compact_tree hg).1
  generalize hcd : compactA f = c at hv hn ht
  generalize hce : compactA g = d at hv2 hn2 ht2
  have hva := validL_app hv hv2
  have hsh := tree_shift hv hv2 (d.length - 1) (by omega)
  have hlen : (c ++ d.map (shiftN c.length)).length = c.length + d.length := by simp
  have hb : buildL 0 [f, g] [] x = some (c ++ d.map (shiftN c.length), ⟨x.op, x.i, x.e, x.g, (c.length : Int) - 1, ((c.length + d.length : Nat) : Int) - 1⟩) := by
    unfold buildL
    rw [if_neg (by simpa using hf), hcd]
    simp only [List.nil_append, List.length_nil, map_shift0]
    unfold buildL
    rw [if_neg (by simpa using hg), hce]
    unfold buildL setOp
    rw [if_pos rfl, if_neg (by omega), hlen]
  have htl : tree (c ++ d.map (shiftN c.length)) (c.length - 1) = treeF f := by rw [tree_app hva _ (by omega), ht]
  generalize hcd2 : c ++ d.map (shiftN c.length) = cc at hva hsh hlen hb htl
  have hq : nodeE ⟨x.op, x.i, x.e, x.g, (c.length : Int) - 1, ((c.length + d.length : Nat) : Int) - 1⟩ cc.length = 0 := by
    refine nodeE_ops (p := ⟨x.op, x.i, x.e, x.g, 0, 0⟩) hw ?_ ?_
    · simp only [hx, ↓reduceIte]; omega
    · simp only [hy, ↓reduceIte]; omega
  have hvs : validL (cc ++ [⟨x.op, x.i, x.e, x.g, (c.length : Int) - 1, ((c.length + d.length : Nat) : Int) - 1⟩]) := validL_snoc hva hq
  have htr : tree (cc ++ [⟨x.op, x.i, x.e, x.g, (c.length : Int) - 1, ((c.length + d.length : Nat) : Int) - 1⟩]) cc.length = .nd x.op x.i x.e x.g (treeF f) (treeF g) := by
    rw [tree_eq hvs (by simp)]
    have hgl : (cc ++ [(⟨x.op, x.i, x.e, x.g, (c.length : Int) - 1, ((c.length + d.length : Nat) : Int) - 1⟩ : Nd)]).getD cc.length nd0 = ⟨x.op, x.i, x.e, x.g, (c.length : Int) - 1, ((c.length + d.length : Nat) : Int) - 1⟩ := by simp [List.getD]
    rw [hgl]
    simp only [hx, hy, ↓reduceIte]
    rw [tree_app hvs _ (by omega), tree_app hvs _ (by omega), show ((c.length : Int) - 1).toNat = c.length - 1 by omega, show (((c.length + d.length : Nat) : Int) - 1).toNat = c.length + (d.length - 1) by omega, htl, hsh, ht2]
  unfold buildA
  rw [hb]
  simp only
  rw [if_neg (by simpa using hq), compactS_canon hvs (by simp), htr]
/-- Walking a tree behind its list. -/
theorem finT_again {t : Tr} (h : wfT t) : ∃ k : Nat, finT t [] = ((k : Int), canon t) ∧ finT t (canon t) = ((k : Int), canon t) := by
  obtain ⟨v, n, _, k, e1, e2, e3, _⟩ := finT_spec t [] h (fun k h => by simp at h) .nil
  exact ⟨k, by rw [← e1]; rfl, finT_have t _ k v n e2 e3⟩
theorem or_not_len {t : Tr} (h : wfT t) : (canon (.nd 6 0 0 0 t (.nd 4 0 0 0 t .nil))).length ≤ (canon t).length + 2 := by
  obtain ⟨k, e1, e2⟩ := finT_again h
  have hN : (finT (.nd 4 0 0 0 t .nil) (canon t)).2.length ≤ (canon t).length + 1 := by
    unfold finT
    simp only [show (usesA 4).1.x = true from rfl, show (usesA 4).1.y = false from rfl, ↓reduceIte, Bool.false_eq_true, e2]
    split
    · simp only; omega
    · simp
  conv => lhs; unfold canon finT
  simp only [show (usesA 6).1.x = true from rfl, show (usesA 6).1.y = true from rfl, ↓reduceIte, e1]
  split
  · simp only; omega
  · simp only [List.length_append, List.length_singleton]; omega
theorem wf_not {t : Tr} (h : wfT t) : wfT (.nd 4 0 0 0 t .nil) := ⟨by decide, by simp only [show (usesA 4).1.x = true from rfl, ↓reduceIte]; exact h, by simp only [show (usesA 4).1.y = false from rfl, ↓reduceIte, Bool.false_eq_true]⟩
theorem wf_two {op : Int} {t u : Tr} (h : wfT t) (h' : wfT u) (ho : op = 5 ∨ op = 6 ∨ op = 7 ∨ op = 8) : wfT (.nd op 0 0 0 t u) := by
  rcases ho with rfl | rfl | rfl | rfl <;> exact ⟨by decide, by rw [if_pos (by decide)]; exact h, by rw [if_pos (by decide)]; exact h'⟩
/-- The negation of a formula. -/
theorem not_is {f : List Nd} (hc : checkF f = 0) (hl : f.length ≤ 100) : notA f = canon (.nd 4 0 0 0 (treeF f) .nil) ∧ checkF (notA f) = 0 ∧ treeF (notA f) = .nd 4 0 0 0 (treeF f) .nil := by
  have hw := wf_not (treeF_wf hc)
  have hcl := canon_le hc
  have hlen : (canon (.nd 4 0 0 0 (treeF f) .nil)).length ≤ 101 := by
    rcases canon_not (treeF f) with h | ⟨k, h⟩
    · rw [h]; omega
    · rw [h, List.length_append, List.length_singleton]; omega
  have hnot : notA f = canon (.nd 4 0 0 0 (treeF f) .nil) := by
    unfold notA
    rw [build_one hc rfl rfl (by decide) rfl, if_neg (by simp only; omega)]
  refine ⟨hnot, by rw [hnot]; exact (canon_check hw (by omega)).1, ?_⟩
  unfold treeF
  rw [hnot]
  exact (canon_spec hw).2.2.2
/-- An excluded middle is a tautology. -/
theorem middle {f : List Nd} (hc : checkF f = 0) (hl : f.length ≤ 100) (h10 : (leavesA (compactA f)).length ≤ 10) : tautA (orA f (notA f)) = (true, 0) := by
  obtain ⟨n1, n2, n3⟩ := not_is hc hl
  have hw := treeF_wf hc
  have hwo := wf_two (op := 6) hw (wf_not hw) (.inr (.inl rfl))
  have hlen := or_not_len hw
  have hcl := canon_le hc
  have hor : orA f (notA f) = canon (.nd 6 0 0 0 (treeF f) (.nd 4 0 0 0 (treeF f) .nil)) := by
    unfold orA
    rw [build_two hc n2 rfl rfl (by decide), n3, if_neg (by simp only; omega)]
  have hcc : checkF (orA f (notA f)) = 0 := by rw [hor]; exact (canon_check hwo (by omega)).1
  have htr : treeF (orA f (notA f)) = .nd 6 0 0 0 (treeF f) (.nd 4 0 0 0 (treeF f) .nil) := by
    unfold treeF
    rw [hor]
    exact (canon_spec hwo).2.2.2
  have hll := leaves_le hcc (m := (leavesA (compactA f)).map fun z => tree (compactA f) z.toNat) fun t ht => by
    rw [htr] at ht
    have h1 : t ∈ lvT (treeF f) := by simpa [lvT] using ht
    rw [leaves_tree (validC f) (compact_ne hc), (compact_tree hc).1]
    exact h1
  rw [List.length_map] at hll
  obtain ⟨t1, t2⟩ := taut_tree hcc (by omega)
  have t3 : (tautA (orA f (notA f))).1 = true := t2.2 fun φ => by
    rw [htr]
    conv => lhs; unfold evT
    rw [if_neg (by decide)]
    conv => lhs; rhs; unfold evT
    rw [if_neg (by decide)]
    show (evT φ (treeF f) || !evT φ (treeF f)) = true
    simp
  exact Prod.ext t3 t1
end Fm
end Go.Pd
