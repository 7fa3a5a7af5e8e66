/- Boolean: plain: facts replaced by knowledge. -/
import Derived.Test.YtfaehcooldhddaaDoorM1
set_option linter.unusedSectionVars false
set_option linter.unusedVariables false
set_option linter.unusedSimpArgs false
set_option linter.defProp false
set_option maxRecDepth 20000
namespace Go.Pd
open Go Go.Proofs
open Rs Fm
namespace Fm
def subT (a : Int) : Tr → Tr
  | .nil => .nil
  | .nd op i e g x y => if op = 3 then .nd 9 a 0 0 (.nd op i e g x y) .nil else .nd op i e g (subT a x) (subT a y)
theorem subT_nil (a : Int) : subT a .nil = .nil := rfl
def subX (to : List Int) (p : Nd) : Nd := ⟨p.op, p.i, p.e, p.g, if (usesA p.op).1.x = true then to.getD p.x.toNat 0 else p.x, if (usesA p.op).1.y = true then to.getD p.y.toNat 0 else p.y⟩
def subS (f : List Nd) (a : Int) : Nat → List Nd × List Int
  | 0 => ([], [])
  | k + 1 => if (f.getD k nd0).op = 3 then ((subS f a k).1 ++ [f.getD k nd0, ⟨9, a, 0, 0, ((subS f a k).1.length : Int), 0⟩], (subS f a k).2 ++ [(((subS f a k).1.length + 1 : Nat) : Int)])
    else ((subS f a k).1 ++ [subX (subS f a k).2 (f.getD k nd0)], (subS f a k).2 ++ [((subS f a k).1.length : Int)])
structure SubI (f : List Nd) (a : Int) (k : Nat) (out : List Nd) (to : List Int) : Prop where
  v : validL out
  l1 : k ≤ out.length
  l2 : out.length ≤ 2 * k
  len : to.length = k
  at_ : ∀ j, j < k → ∃ n : Nat, to.getD j 0 = n ∧ n < out.length ∧ tree out n = subT a (tree f j)
  last : ∀ j, j + 1 = k → to.getD j 0 = ((out.length - 1 : Nat) : Int)
theorem know_ok {a : Int} (ha : 0 ≤ a ∧ a ≤ 3) {n k : Nat} (h : n < k) : nodeE ⟨9, a, 0, 0, (n : Int), 0⟩ k = 0 := by
  have h1 : a = 0 ∨ a = 1 ∨ a = 2 ∨ a = 3 := by omega
  have h2 : nodeE ⟨9, a, 0, 0, 0, 0⟩ 1 = 0 := by rcases h1 with rfl | rfl | rfl | rfl <;> decide
  exact nodeE_ops (p := ⟨9, a, 0, 0, 0, 0⟩) h2 (by simp only [show (usesA 9).1.x = true from rfl, ↓reduceIte]; omega) (by simp only [show (usesA 9).1.y = false from rfl, Bool.false_eq_true, ↓reduceIte])
theorem getD_snoc {l : List Int} {x : Int} {j : Nat} : (l ++ [x]).getD j 0 = if j < l.length then l.getD j 0 else if j = l.length then x else 0 := by
  by_cases h : j < l.length
  · rw [if_pos h]; simp only [List.getD, List.getElem?_append_left h]
  · rw [if_neg h]
    by_cases e : j = l.length
    · rw [if_pos e, e]; simp [List.getD]
    · rw [if_neg e]; simp only [List.getD]; rw [List.getElem?_eq_none (by simp; omega)]; rfl
theorem getD_last {l : List Nd} {p : Nd} : (l ++ [p]).getD l.length nd0 = p := by simp [List.getD]
theorem subS_inv {f : List Nd} (hv : validL f) {a : Int} (ha : 0 ≤ a ∧ a ≤ 3) : ∀ k, k ≤ f.length → SubI f a k (subS f a k).1 (subS f a k).2
  | 0, _ => ⟨fun k h => by simp [subS] at h, Nat.le_refl _, Nat.le_refl _, rfl, fun j h => by omega, fun j h => by omega⟩
  | k + 1, hk => by
    obtain ⟨v, l1, l2, len, at', _⟩ := subS_inv hv ha k (by omega)
    unfold subS
    generalize subS f a k = s at v l1 l2 len at'
    obtain ⟨out, to⟩ := s
    simp only at v l1 l2 len at'
    have hq := hv k (by omega)
    have htk := tree_eq hv (i := k) (by omega)
    obtain ⟨ox, oy, zx, zy⟩ := node_ops' hq
    generalize f.getD k nd0 = p at hq htk ox oy zx zy
    by_cases h3 : p.op = 3
    · rw [if_pos h3]
      have e1 : out ++ [p, ⟨9, a, 0, 0, (out.length : Int), 0⟩] = out ++ [p] ++ [⟨9, a, 0, 0, (out.length : Int), 0⟩] := by simp
      have v1 : validL (out ++ [p]) := validL_snoc v (nodeE_ops hq (by rw [h3]; simp only [show (usesA 3).1.x = false from rfl, Bool.false_eq_true, ↓reduceIte]) (by rw [h3]; simp only [show (usesA 3).1.y = false from rfl, Bool.false_eq_true, ↓reduceIte]))
      have v2 : validL (out ++ [p] ++ [⟨9, a, 0, 0, (out.length : Int), 0⟩]) := validL_snoc v1 (know_ok ha (by simp))
      have hl2 : (out ++ [p] ++ [(⟨9, a, 0, 0, (out.length : Int), 0⟩ : Nd)]).length = out.length + 2 := by simp
      show SubI f a (k + 1) (out ++ [p, ⟨9, a, 0, 0, (out.length : Int), 0⟩]) (to ++ [((out.length + 1 : Nat) : Int)])
      rw [e1]
      refine ⟨v2, by omega, by omega, by simp [len], fun j hj => ?_, fun j hj => ?_⟩
      · by_cases e : j < k
        · obtain ⟨n, n1, n2, n3⟩ := at' j e
          refine ⟨n, by rw [getD_snoc, if_pos (by omega)]; exact n1, by omega, ?_⟩
          rw [tree_app v2 _ (by simp; omega), tree_app v1 _ n2]; exact n3
        · obtain rfl : j = k := by omega
          refine ⟨out.length + 1, by rw [getD_snoc, if_neg (by omega), if_pos (by omega)], by omega, ?_⟩
          rw [tree_eq v2 (by omega)]
          have hg : (out ++ [p] ++ [(⟨9, a, 0, 0, (out.length : Int), 0⟩ : Nd)]).getD (out.length + 1) nd0 = ⟨9, a, 0, 0, (out.length : Int), 0⟩ := by
            have := getD_last (l := out ++ [p]) (p := ⟨9, a, 0, 0, (out.length : Int), 0⟩)
            rwa [show (out ++ [p]).length = out.length + 1 by simp] at this
          rw [hg]
          simp only [show (usesA 9).1.x = true from rfl, show (usesA 9).1.y = false from rfl, ↓reduceIte, Bool.false_eq_true, Int.toNat_natCast]
          rw [tree_app v2 _ (by simp), tree_eq v1 (by simp), getD_last, htk]
          rw [h3]
          simp only [show (usesA 3).1.x = false from rfl, show (usesA 3).1.y = false from rfl, ↓reduceIte, Bool.false_eq_true]
          unfold subT
          rw [if_pos rfl]
      · rw [getD_snoc, if_neg (by omega), if_pos (by omega), hl2]; rfl
    · rw [if_neg h3]
      have hqn : nodeE (subX to p) out.length = 0 := by
        unfold subX
        refine nodeE_ops hq ?_ ?_
        · split
          · rename_i hx
            obtain ⟨n, n1, n2, _⟩ := at' p.x.toNat (ox hx).2
            rw [n1]; omega
          · rfl
        · split
          · rename_i hy
            obtain ⟨n, n1, n2, _⟩ := at' p.y.toNat (oy hy).2
            rw [n1]; omega
          · rfl
      have v1 : validL (out ++ [subX to p]) := validL_snoc v hqn
      have hl1 : (out ++ [subX to p]).length = out.length + 1 := by simp
      show SubI f a (k + 1) (out ++ [subX to p]) (to ++ [(out.length : Int)])
      refine ⟨v1, by omega, by omega, by simp [len], fun j hj => ?_, fun j hj => ?_⟩
      · by_cases e : j < k
        · obtain ⟨n, n1, n2, n3⟩ := at' j e
          refine ⟨n, by rw [getD_snoc, if_pos (by omega)]; exact n1, by omega, ?_⟩
          rw [tree_app v1 _ n2]; exact n3
        · obtain rfl : j = k := by omega
          refine ⟨out.length, by rw [getD_snoc, if_neg (by omega), if_pos (by omega)], by omega, ?_⟩
          rw [tree_eq v1 (by omega), getD_last, htk]
          show Tr.nd p.op p.i p.e p.g (if (usesA p.op).1.x = true then tree (out ++ [subX to p]) (subX to p).x.toNat else .nil) (if (usesA p.op).1.y = true then tree (out ++ [subX to p]) (subX to p).y.toNat else .nil) = _
          unfold subT
          rw [if_neg h3]
          congr 1
          · by_cases hx : (usesA p.op).1.x = true
            · rw [if_pos hx, if_pos hx]
              obtain ⟨n, n1, n2, n3⟩ := at' p.x.toNat (ox hx).2
              have hsx : (subX to p).x = (n : Int) := by rw [← n1]; exact if_pos hx
              rw [hsx, Int.toNat_natCast, ← n3, tree_app v1 _ n2]
            · rw [if_neg hx, if_neg hx, subT_nil]
          · by_cases hy : (usesA p.op).1.y = true
            · rw [if_pos hy, if_pos hy]
              obtain ⟨n, n1, n2, n3⟩ := at' p.y.toNat (oy hy).2
              have hsy : (subX to p).y = (n : Int) := by rw [← n1]; exact if_pos hy
              rw [hsy, Int.toNat_natCast, ← n3, tree_app v1 _ n2]
            · rw [if_neg hy, if_neg hy, subT_nil]
      · rw [getD_snoc, if_neg (by omega), if_pos (by omega), hl1]; rfl
/-- Only facts are leaves. -/
def propT : Tr → Prop
  | .nil => True
  | .nd op _ _ _ x y => op ≤ 8 ∧ propT x ∧ propT y
theorem prop_tree {c : List Nd} (hv : validL c) (hp : ∀ p ∈ c, p.op ≤ 8) : ∀ i, i < c.length → propT (tree c i) := by
  intro i
  induction i using Nat.strongRecOn with
  | _ i ih =>
    intro hi
    obtain ⟨ox, oy, _, _⟩ := node_ops' (hv i hi)
    rw [tree_eq hv hi]
    refine ⟨hp _ (getD_mem hi), ?_, ?_⟩
    · split
      · rename_i h; exact ih _ (ox h).2 (by have := (ox h).2; omega)
      · trivial
    · split
      · rename_i h; exact ih _ (oy h).2 (by have := (oy h).2; omega)
      · trivial
def kn (a : Int) (t : Tr) : Tr := .nd 9 a 0 0 t .nil
theorem ev_sub (a : Int) (φ : Tr → Bool) : ∀ {t : Tr}, propT t → evT φ (subT a t) = evT (fun t => φ (kn a t)) t
  | .nil, _ => rfl
  | .nd op i e g x y, ⟨h8, hx, hy⟩ => by
    have e1 := ev_sub a φ hx
    have e2 := ev_sub a φ hy
    unfold subT
    by_cases h3 : op = 3
    · rw [if_pos h3]
      unfold evT
      rw [if_pos (by omega), if_pos (by omega)]
      rfl
    · rw [if_neg h3]
      unfold evT
      rw [if_neg (by omega), if_neg (by omega), e1, e2]
theorem lv_sub (a : Int) : ∀ {t : Tr}, propT t → lvT (subT a t) = (lvT t).map (kn a)
  | .nil, _ => rfl
  | .nd op i e g x y, ⟨h8, hx, hy⟩ => by
    have e1 := lv_sub a hx
    have e2 := lv_sub a hy
    unfold subT
    by_cases h3 : op = 3
    · rw [if_pos h3]
      unfold lvT
      rw [if_pos (by omega), if_pos (by omega)]
      rfl
    · rw [if_neg h3]
      unfold lvT
      rw [if_neg (by omega), if_neg (by omega), e1, e2, List.map_append]
theorem all_sub {a : Int} {t : Tr} (hp : propT t) : (∀ φ, evT φ (subT a t) = true) ↔ ∀ φ, evT φ t = true := by
  constructor
  · intro h φ
    have := h fun u => match u with | .nd _ _ _ _ x _ => φ x | .nil => false
    rw [ev_sub a _ hp] at this
    exact this
  · intro h φ
    rw [ev_sub a φ hp]
    exact h _
/-- The law: it remains a tautology, or none. -/
theorem modal_law {f : List Nd} {a : Int} (ha : 0 ≤ a ∧ a ≤ 3) (hc : checkF f = 0) (h20 : f.length ≤ 20) (h10 : (leavesA (compactA f)).length ≤ 10) (hf : fragsA f = 0) :
    (tautA f).2 = 0 ∧ (tautA (subS f a f.length).1).2 = 0 ∧ (tautA f).1 = (tautA (subS f a f.length).1).1 := by
  obtain ⟨c1, _, hv⟩ := checkF_zero hc
  have hl : 0 < f.length := by cases f with | nil => exact absurd rfl c1 | cons a b => simp
  obtain ⟨v, l1, l2, len, at', last⟩ := subS_inv hv ha f.length (Nat.le_refl _)
  generalize subS f a f.length = s at v l1 l2 len at' last
  obtain ⟨out, to⟩ := s
  simp only at v l1 l2 len at' last
  have hco : checkF out = 0 := checkF_ok (by omega) (by omega) v
  have htr : treeF out = subT a (treeF f) := by
    obtain ⟨n, n1, n2, n3⟩ := at' (f.length - 1) (by omega)
    rw [last (f.length - 1) (by omega)] at n1
    obtain rfl : n = out.length - 1 := by omega
    exact n3
  have hp : propT (treeF f) := by
    rw [← (compact_tree hc).1]
    exact prop_tree (validC f) (frags_zero.1 hf) _ (by have := compact_ne hc; omega)
  obtain ⟨t1, t2⟩ := taut_tree hc h10
  have hll := leaves_le hco (m := ((leavesA (compactA f)).map fun z => tree (compactA f) z.toNat).map (kn a)) fun t ht => by
    rw [htr, lv_sub a hp] at ht
    obtain ⟨u, hu, rfl⟩ := List.mem_map.1 ht
    refine List.mem_map.2 ⟨u, ?_, rfl⟩
    rw [leaves_tree (validC f) (compact_ne hc), (compact_tree hc).1]
    exact hu
  rw [List.length_map, List.length_map] at hll
  obtain ⟨u1, u2⟩ := taut_tree hco (by omega)
  refine ⟨t1, u1, ?_⟩
  rw [Bool.eq_iff_iff, t2, u2, htr, all_sub hp]
end Fm
end Go.Pd
