/- Part Z1. -/
import Derived.Test.YtjklmijiccabfaaKE8
set_option linter.unusedSectionVars false
set_option linter.unusedVariables false
set_option linter.unusedSimpArgs false
set_option linter.defProp false
set_option maxRecDepth 20000
set_option maxHeartbeats 1000000
namespace Go.Pd
open Go Go.Proofs
open Rs Fm Ru Te
namespace Te
def evT (rs : List RunA) (A T : Nat) : Tr → Tab
 | .nil => fun _ => false
 | .nd op i e g x y => nodeP rs A T ⟨op, i, e, g, 0, 0⟩ (evT rs A T x) (evT rs A T y)
theorem nodeP_ops {rs : List RunA} {A T : Nat} {n m : Nd} {x y x' y' : Tab} (h1 : n.op = m.op) (h2 : n.i = m.i) (h3 : n.g = m.g) (hx : (usesA n.op).1.x = true → x = x') (hy : (usesA n.op).1.y = true → y = y') :
  nodeP rs A T n x y = nodeP rs A T m x' y' := by
 obtain ⟨op, i, e, g, a, b⟩ := n
 obtain ⟨op', i', e', g', a', b'⟩ := m
 simp only at h1 h2 h3 hx hy
 subst h1 h2 h3
 rcases op_cases op with rfl | rfl | rfl | rfl | rfl | rfl | rfl | rfl | rfl | rfl | rfl | rfl | rfl | rfl | rfl | rfl | rfl | rfl | rfl | rfl | rfl | h | h
 all_goals first
  | (have hx' := hx rfl; have hy' := hy rfl; subst hx' hy'; rfl)
  | (have hx' := hx rfl; subst hx'; rfl)
  | rfl
  | (unfold nodeP boolP; simp only; funext p; repeat rw [if_neg (by omega)])
theorem tabsP_old {rs : List RunA} {A T : Nat} {c : List Nd} {k : Nat} : ∀ (m : Nat) {i : Nat}, i < k → (tabsP rs A T c (k + m)).getD i (fun _ => false) = (tabsP rs A T c k).getD i fun _ => false
 | 0, _, _ => rfl
 | m + 1, i, h => by
  rw [show k + (m + 1) = (k + m) + 1 from rfl, tabsP, List.getD, List.getElem?_append_left (by rw [tabsP_len]; omega)]
  exact tabsP_old m h
theorem tabsP_new {rs : List RunA} {A T : Nat} {c : List Nd} {k n : Nat} (h : k < n) : (tabsP rs A T c n).getD k (fun _ => false) = nodeP rs A T (c.getD k nd0) ((tabsP rs A T c k).getD (c.getD k nd0).x.toNat fun _ => false) ((tabsP rs A T c k).getD (c.getD k nd0).y.toNat fun _ => false) := by
 obtain ⟨m, rfl⟩ := Nat.exists_eq_add_of_le (show k + 1 ≤ n by omega)
 rw [tabsP_old m (by omega), tabsP, List.getD, List.getElem?_append_right (by rw [tabsP_len]; omega), tabsP_len, Nat.sub_self]
 rfl
theorem tabsP_tree {rs : List RunA} {A T : Nat} {c : List Nd} (hv : validL c) {n : Nat} (hn : n ≤ c.length) : ∀ (i : Nat), i < n → (tabsP rs A T c n).getD i (fun _ => false) = evT rs A T (tree c i) := by
 intro i
 induction i using Nat.strongRecOn with
 | _ i ih =>
  intro hi
  obtain ⟨ox, oy, _, _⟩ := node_ops' (hv i (by omega))
  rw [tabsP_new hi, tree_eq hv (by omega)]
  show _ = nodeP _ _ _ _ _ _
  refine nodeP_ops rfl rfl rfl (fun hx => ?_) fun hy => ?_
  ·have := ox hx
   obtain ⟨m, hm⟩ := Nat.exists_eq_add_of_le (show i ≤ n by omega)
   rw [if_pos hx, ← ih _ (by omega) (by omega), hm, tabsP_old m (by omega)]
  ·have := oy hy
   obtain ⟨m, hm⟩ := Nat.exists_eq_add_of_le (show i ≤ n by omega)
   rw [if_pos hy, ← ih _ (by omega) (by omega), hm, tabsP_old m (by omega)]
theorem lastT_tree {rs : List RunA} {A T : Nat} {f : List Nd} (h : checkF f = 0) : lastT rs A T f = evT rs A T (treeF f) := by
 unfold lastT
 have := compact_ne h
 rw [tabsP_tree (validC f) (Nat.le_refl _) _ (by omega), (compact_tree h).1]
def okN (A F : Nat) (p : Nd) : Bool := decide (fragN p &&& 3824 = 0) && decide (agentN p / 2 ^ A = 0) && decide (factN p / 2 ^ F = 0)
theorem unionN_map {m : Nd → Nat} {φ : Nat → Nat} (h0 : φ 0 = 0) (h : ∀ a b, φ (a ||| b) = φ a ||| φ b) (l : List Nd) : φ (unionN m l) = unionN (fun p => φ (m p)) l := by
 have key : ∀ (l : List Nd) (a : Nat), φ (l.foldl (fun a p => a ||| m p) a) = l.foldl (fun a p => a ||| φ (m p)) (φ a) := by
  intro l
  induction l with
  | nil => intro a; rfl
  | cons p r ih => intro a; rw [List.foldl_cons, List.foldl_cons, ih, h]
 unfold unionN
 rw [key, h0]
theorem frag_not {n : Nat} (h : n < 4096) : (bitI .andNot .i64 (n : Int) 271 != 0) = !decide (n &&& 3824 = 0) := by
 have : ∀ n : Fin 4096, (bitI .andNot .i64 ((n.val : Nat) : Int) 271 != 0) = !decide (n.val &&& 3824 = 0) := by decide +kernel
 exact this ⟨n, h⟩
theorem req_iff {s : SysA} {A F T : Nat} {rs : List RunA} (hs : s = ⟨A, F, T, rs⟩) (hz : chk s = 0) (ok : OkR rs A F T) {f : List Nd} (hc : checkF f = 0) : reqE s f = 0 ↔ ∀ p ∈ compactA f, okN A F p = true := by
 have hlt : fragsA f < 4096 := by
  refine unionN_lt fun p _ => ?_
  have := uses_fr p.op
  unfold fragN; omega
 have e1 : (fragsA f &&& 3824 = 0) ↔ ∀ p ∈ compactA f, fragN p &&& 3824 = 0 := by
  unfold fragsA
  rw [unionN_map (φ := fun n => n &&& 3824) (by decide) (fun a b => Nat.and_or_distrib_right a b 3824), unionN_zero]
 have dv : ∀ n a b : Nat, (a ||| b) / 2 ^ n = a / 2 ^ n ||| b / 2 ^ n := fun n a b => by
  rw [← Nat.shiftRight_eq_div_pow, ← Nat.shiftRight_eq_div_pow, ← Nat.shiftRight_eq_div_pow, Nat.shiftRight_or_distrib]
 have e2 : agentsA f / 2 ^ A = 0 ↔ ∀ p ∈ compactA f, agentN p / 2 ^ A = 0 := by
  unfold agentsA
  rw [unionN_map (φ := fun n => n / 2 ^ A) (by simp) (dv A), unionN_zero]
 have e3 : factsA f / 2 ^ F = 0 ↔ ∀ p ∈ compactA f, factN p / 2 ^ F = 0 := by
  unfold factsA
  rw [unionN_map (φ := fun n => n / 2 ^ F) (by simp) (dv F), unionN_zero]
 have hA := ok.hA
 have hF := ok.hF
 have ef : fitsB f s.ag s.fa = true ↔ agentsA f / 2 ^ A = 0 ∧ factsA f / 2 ^ F = 0 := by
  subst hs
  unfold fitsB belowB
  simp only [Bool.and_eq_true, Bool.or_eq_true, decide_eq_true_eq, Int.toNat_natCast]
  constructor
  ·rintro ⟨⟨_, h1⟩, h2⟩; exact ⟨h1.resolve_left (by omega), h2.resolve_left (by omega)⟩
  ·rintro ⟨h1, h2⟩; exact ⟨⟨hc, .inr h1⟩, .inr h2⟩
 unfold reqE
 rw [if_neg (by simpa using hz), if_neg (by simpa using hc), frag_not hlt]
 constructor
 ·intro h p hp
  by_cases c : fragsA f &&& 3824 = 0
  ·rw [if_neg (by simp [c])] at h
   cases h2 : fitsB f s.ag s.fa with
   | false => rw [h2, if_pos rfl] at h; cases h
   | true =>
    have h3 := ef.1 h2
    unfold okN
    simp only [Bool.and_eq_true, decide_eq_true_eq]
    exact ⟨⟨e1.1 c p hp, e2.1 h3.1 p hp⟩, e3.1 h3.2 p hp⟩
  ·rw [if_pos (by simp [c])] at h; cases h
 ·intro h
  have h' : ∀ p ∈ compactA f, (fragN p &&& 3824 = 0 ∧ agentN p / 2 ^ A = 0) ∧ factN p / 2 ^ F = 0 := fun p hp => by simpa [okN] using h p hp
  have c : fragsA f &&& 3824 = 0 := e1.2 fun p hp => (h' p hp).1.1
  rw [if_neg (by simp [c]), ef.2 ⟨e2.2 fun p hp => (h' p hp).1.2, e3.2 fun p hp => (h' p hp).2⟩, if_neg (by decide)]
end Te
namespace Fm
end Fm
namespace Te
end Te
end Go.Pd
