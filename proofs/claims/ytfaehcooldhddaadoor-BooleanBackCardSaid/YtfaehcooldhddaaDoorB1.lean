/- Boolean: plain: the formula of a table. -/
import Derived.Test.YtfaehcooldhddaaDoorM1
set_option linter.unusedSectionVars false
set_option linter.unusedVariables false
set_option linter.unusedSimpArgs false
set_option linter.defProp false
set_option maxRecDepth 20000
namespace Go.Pd
open Go Go.Proofs
open Rs Fm
namespace Fm
def fitsT (t : BitVec 64) (n : Nat) : Prop := ∀ j, t.getLsbD j = true → j < 2 ^ n
def trT : Tr := .nd 1 0 0 0 .nil .nil
def flT : Tr := .nd 2 0 0 0 .nil .nil
def pT (n : Nat) : Tr := .nd 3 n 0 0 .nil .nil
def noT (x : Tr) : Tr := .nd 4 0 0 0 x .nil
def biT (op : Int) (x y : Tr) : Tr := .nd op 0 0 0 x y
def fullW (n : Nat) : BitVec 64 := if n = 6 then 18446744073709551615#64 else (1#64 <<< (2 ^ n)) - 1#64
/-- The formula of a table. -/
def decT : Nat → BitVec 64 → Tr
  | 0, t => if t = 0#64 then flT else trT
  | n + 1, t => if t = 0#64 then flT else if t = fullW (n + 1) then trT else
    if t &&& fullW n = t >>> (2 ^ n) then decT n (t &&& fullW n) else
    if t &&& fullW n = 0#64 ∧ t >>> (2 ^ n) = fullW n then pT n else
    if t >>> (2 ^ n) = 0#64 ∧ t &&& fullW n = fullW n then noT (pT n) else
    if t &&& fullW n = 0#64 then biT 5 (pT n) (decT n (t >>> (2 ^ n))) else
    if t >>> (2 ^ n) = 0#64 then biT 5 (noT (pT n)) (decT n (t &&& fullW n)) else
    if t &&& fullW n = fullW n then biT 7 (pT n) (decT n (t >>> (2 ^ n))) else
    if t >>> (2 ^ n) = fullW n then biT 6 (pT n) (decT n (t &&& fullW n)) else
    biT 5 (biT 7 (pT n) (decT n (t >>> (2 ^ n)))) (biT 6 (pT n) (decT n (t &&& fullW n)))
theorem full_bit : ∀ n, n ≤ 6 → ∀ j, j < 64 → (fullW n).getLsbD j = decide (j < 2 ^ n) := by decide
theorem full_bit' {n : Nat} (hn : n ≤ 6) (j : Nat) : (fullW n).getLsbD j = decide (j < 2 ^ n) := by
  by_cases h : j < 64
  · exact full_bit n hn j h
  · rw [BitVec.getLsbD_of_ge _ _ (by omega)]
    have : 2 ^ n ≤ 2 ^ 6 := Nat.pow_le_pow_right (by decide) hn
    exact (decide_eq_false (by omega)).symm
theorem low_bitT {t : BitVec 64} {n : Nat} (hn : n ≤ 6) (j : Nat) : (t &&& fullW n).getLsbD j = (t.getLsbD j && decide (j < 2 ^ n)) := by rw [BitVec.getLsbD_and, full_bit' hn]
theorem high_bitT {t : BitVec 64} {n : Nat} (j : Nat) : (t >>> (2 ^ n)).getLsbD j = t.getLsbD (2 ^ n + j) := BitVec.getLsbD_ushiftRight ..
theorem fits_low {t : BitVec 64} {n : Nat} (hn : n ≤ 6) : fitsT (t &&& fullW n) n := fun j h => by
  rw [low_bitT hn, Bool.and_eq_true] at h; exact of_decide_eq_true h.2
theorem fits_high {t : BitVec 64} {n : Nat} (h : fitsT t (n + 1)) : fitsT (t >>> (2 ^ n)) n := fun j hj => by
  rw [high_bitT] at hj
  have := h _ hj
  rw [Nat.pow_succ] at this
  omega
theorem mod_bit (v n : Nat) : v % 2 ^ (n + 1) = if v.testBit n then 2 ^ n + v % 2 ^ n else v % 2 ^ n := by
  have hp := Nat.two_pow_pos n
  rw [Nat.pow_succ, Nat.mod_mul, Nat.testBit_eq_decide_div_mod_eq]
  rcases Nat.mod_two_eq_zero_or_one (v / 2 ^ n) with h | h
  · rw [h]; simp
  · rw [h]; simp; omega
theorem bit_split {t : BitVec 64} {n : Nat} (hn : n ≤ 6) (v : Nat) : t.getLsbD (v % 2 ^ (n + 1)) = if v.testBit n then (t >>> (2 ^ n)).getLsbD (v % 2 ^ n) else (t &&& fullW n).getLsbD (v % 2 ^ n) := by
  have hp := Nat.two_pow_pos n
  rw [mod_bit, low_bitT hn, high_bitT, decide_eq_true (Nat.mod_lt v hp), Bool.and_true]
  split <;> rfl
theorem ev_bi (φ : Tr → Bool) {op : Int} (h : 4 ≤ op ∧ op ≤ 8) (x y : Tr) : evT φ (biT op x y) = combB op (evT φ x) (evT φ y) := by
  unfold biT
  conv => lhs; unfold evT
  rw [if_neg (by omega)]
theorem ev_no (φ : Tr → Bool) (x : Tr) : evT φ (noT x) = !evT φ x := by
  unfold noT
  conv => lhs; unfold evT
  rw [if_neg (by decide)]; rfl
theorem ev_p (v n : Nat) : evT (facT v) (pT n) = v.testBit n := by
  unfold pT evT
  rw [if_pos (by decide)]
  show v.testBit ((n : Int)).toNat = _
  rw [Int.toNat_natCast]
theorem decT_ev (v : Nat) : ∀ (n : Nat) (t : BitVec 64), n ≤ 6 → fitsT t n → evT (facT v) (decT n t) = t.getLsbD (v % 2 ^ n)
  | 0, t, _, h => by
    unfold decT
    rw [Nat.pow_zero, Nat.mod_one]
    by_cases h0 : t = 0#64
    · rw [if_pos h0, h0]; simp [flT, evT, combB]
    · rw [if_neg h0]
      have : t.getLsbD 0 = true := by
        cases hb : t.getLsbD 0
        · refine absurd (BitVec.eq_of_getLsbD_eq fun j hj => ?_) h0
          rw [BitVec.getLsbD_zero]
          cases hj2 : t.getLsbD j
          · rfl
          · have := h j hj2
            rw [show j = 0 by simpa using this, hb] at hj2; cases hj2
        · rfl
      rw [this]; rfl
  | n + 1, t, hn, h => by
    have hs := bit_split (t := t) (n := n) (by omega) v
    have ih1 := decT_ev v n (t &&& fullW n) (by omega) (fits_low (by omega))
    have ih2 := decT_ev v n (t >>> (2 ^ n)) (by omega) (fits_high h)
    have hfull : (fullW n).getLsbD (v % 2 ^ n) = true := by rw [full_bit' (by omega)]; exact decide_eq_true (Nat.mod_lt v (Nat.two_pow_pos n))
    unfold decT
    by_cases h0 : t = 0#64
    · rw [if_pos h0, h0]; simp [flT, evT, combB]
    rw [if_neg h0]
    by_cases h1 : t = fullW (n + 1)
    · rw [if_pos h1]
      conv => rhs; rw [h1]
      rw [full_bit' hn, decide_eq_true (Nat.mod_lt v (Nat.two_pow_pos (n + 1)))]; rfl
    rw [if_neg h1, hs]
    generalize t &&& fullW n = lo at ih1 hs
    generalize t >>> (2 ^ n) = hi at ih2 hs
    by_cases h2 : lo = hi
    · rw [if_pos h2, ih1, h2]; split <;> rfl
    rw [if_neg h2]
    by_cases h3 : lo = 0#64 ∧ hi = fullW n
    · rw [if_pos h3, h3.1, h3.2, hfull, ev_p]; cases v.testBit n <;> simp
    rw [if_neg h3]
    by_cases h4 : hi = 0#64 ∧ lo = fullW n
    · rw [if_pos h4, h4.1, h4.2, hfull, ev_no, ev_p]; cases v.testBit n <;> simp
    rw [if_neg h4]
    by_cases h5 : lo = 0#64
    · rw [if_pos h5, ev_bi _ (by decide), ih2, ev_p, h5]
      show (v.testBit n && hi.getLsbD (v % 2 ^ n)) = _
      cases v.testBit n <;> simp
    rw [if_neg h5]
    by_cases h6 : hi = 0#64
    · rw [if_pos h6, ev_bi _ (by decide), ih1, ev_no, ev_p, h6]
      show (!v.testBit n && lo.getLsbD (v % 2 ^ n)) = _
      cases v.testBit n <;> simp
    rw [if_neg h6]
    by_cases h7 : lo = fullW n
    · rw [if_pos h7, ev_bi _ (by decide), ih2, ev_p, h7, hfull]
      show (!v.testBit n || hi.getLsbD (v % 2 ^ n)) = _
      cases v.testBit n <;> simp
    rw [if_neg h7]
    by_cases h8 : hi = fullW n
    · rw [if_pos h8, ev_bi _ (by decide), ih1, ev_p, h8, hfull]
      show (v.testBit n || lo.getLsbD (v % 2 ^ n)) = _
      cases v.testBit n <;> simp
    rw [if_neg h8, ev_bi _ (by decide), ev_bi _ (by decide), ev_bi _ (by decide), ih1, ih2, ev_p]
    show ((!v.testBit n || hi.getLsbD (v % 2 ^ n)) && (v.testBit n || lo.getLsbD (v % 2 ^ n))) = _
    cases v.testBit n <;> simp
theorem wf_p {n : Nat} (hn : n ≤ 7) : wfT (pT n) := by
  refine ⟨?_, rfl, rfl⟩
  have : n = 0 ∨ n = 1 ∨ n = 2 ∨ n = 3 ∨ n = 4 ∨ n = 5 ∨ n = 6 ∨ n = 7 := by omega
  rcases this with rfl | rfl | rfl | rfl | rfl | rfl | rfl | rfl <;> decide
theorem wf_tr : wfT trT := ⟨by decide, rfl, rfl⟩
theorem wf_fl : wfT flT := ⟨by decide, rfl, rfl⟩
theorem decT_wf : ∀ (n : Nat) (t : BitVec 64), n ≤ 6 → wfT (decT n t)
  | 0, t, _ => by unfold decT; split; exact wf_fl; exact wf_tr
  | n + 1, t, hn => by
    have i1 := decT_wf n (t &&& fullW n) (by omega)
    have i2 := decT_wf n (t >>> (2 ^ n)) (by omega)
    have hp := wf_p (n := n) (by omega)
    unfold decT
    split; exact wf_fl
    split; exact wf_tr
    split; exact i1
    split; exact hp
    split; exact wf_not hp
    split; exact wf_two hp i2 (by decide)
    split; exact wf_two (wf_not hp) i1 (by decide)
    split; exact wf_two hp i2 (by decide)
    split; exact wf_two hp i1 (by decide)
    exact wf_two (wf_two hp i2 (by decide)) (wf_two hp i1 (by decide)) (by decide)
/-- What all nodes of a tree are. -/
def allT (P : Int → Int → Prop) : Tr → Prop
  | .nil => True
  | .nd op i _ _ x y => P op i ∧ allT P x ∧ allT P y
theorem finT_all {P : Int → Int → Prop} : ∀ (t : Tr) (out : List Nd), allT P t → ∀ p ∈ (finT t out).2, p ∈ out ∨ P p.op p.i
  | .nil, out, _, p, hp => .inl hp
  | .nd op i e g x y, out, ⟨h1, h2, h3⟩, p, hp => by
    have A : ∀ p ∈ (if (usesA op).1.x = true then finT x out else (0, out)).2, p ∈ out ∨ P p.op p.i := fun p hp => by
      split at hp
      · exact finT_all x out h2 p hp
      · exact .inl hp
    have B : ∀ o, ∀ p ∈ (if (usesA op).1.y = true then finT y o else (0, o)).2, p ∈ o ∨ P p.op p.i := fun o p hp => by
      split at hp
      · exact finT_all y o h3 p hp
      · exact .inl hp
    unfold finT at hp
    simp only at hp
    generalize (if (usesA op).1.x = true then finT x out else (0, out)) = a at A hp
    have B' := B a.2
    generalize (if (usesA op).1.y = true then finT y a.2 else (0, a.2)) = b at B' hp
    have C : ∀ p ∈ b.2, p ∈ out ∨ P p.op p.i := fun p hp => by
      rcases B' p hp with h | h
      · exact A p h
      · exact .inr h
    split at hp
    · exact C p hp
    · rcases List.mem_append.1 hp with hp | hp
      · exact C p hp
      · rw [List.mem_singleton] at hp; rw [hp]; exact .inr h1
theorem all_mono {P Q : Int → Int → Prop} (h : ∀ a b, P a b → Q a b) : ∀ {t : Tr}, allT P t → allT Q t
  | .nil, _ => trivial
  | .nd .., ⟨h1, h2, h3⟩ => ⟨h _ _ h1, all_mono h h2, all_mono h h3⟩
theorem decT_all : ∀ (n : Nat) (t : BitVec 64), allT (fun op i => op ≤ 8 ∧ (op = 3 → 0 ≤ i ∧ i < n)) (decT n t)
  | 0, t => by
    unfold decT
    split
    · exact ⟨⟨by decide, fun h => by cases h⟩, trivial, trivial⟩
    · exact ⟨⟨by decide, fun h => by cases h⟩, trivial, trivial⟩
  | n + 1, t => by
    have up : ∀ {t}, allT (fun op i => op ≤ 8 ∧ (op = 3 → 0 ≤ i ∧ i < (n : Int))) t → allT (fun op i => op ≤ 8 ∧ (op = 3 → 0 ≤ i ∧ i < ((n + 1 : Nat) : Int))) t := fun h => all_mono (fun a b ⟨h1, h2⟩ => ⟨h1, fun e => by have := h2 e; omega⟩) h
    have i1 := up (decT_all n (t &&& fullW n))
    have i2 := up (decT_all n (t >>> (2 ^ n)))
    have hp : allT (fun op i => op ≤ 8 ∧ (op = 3 → 0 ≤ i ∧ i < ((n + 1 : Nat) : Int))) (pT n) := ⟨⟨by decide, fun _ => by omega⟩, trivial, trivial⟩
    have hno : ∀ {x}, allT (fun op i => op ≤ 8 ∧ (op = 3 → 0 ≤ i ∧ i < ((n + 1 : Nat) : Int))) x → allT (fun op i => op ≤ 8 ∧ (op = 3 → 0 ≤ i ∧ i < ((n + 1 : Nat) : Int))) (noT x) := fun h => ⟨⟨by decide, fun h => by cases h⟩, h, trivial⟩
    have hbi : ∀ {op : Int} {x y}, op = 5 ∨ op = 6 ∨ op = 7 → allT (fun op i => op ≤ 8 ∧ (op = 3 → 0 ≤ i ∧ i < ((n + 1 : Nat) : Int))) x → allT (fun op i => op ≤ 8 ∧ (op = 3 → 0 ≤ i ∧ i < ((n + 1 : Nat) : Int))) y → allT (fun op i => op ≤ 8 ∧ (op = 3 → 0 ≤ i ∧ i < ((n + 1 : Nat) : Int))) (biT op x y) := fun h hx hy => ⟨⟨by omega, fun e => by omega⟩, hx, hy⟩
    unfold decT
    split; exact ⟨⟨by decide, fun h => by cases h⟩, trivial, trivial⟩
    split; exact ⟨⟨by decide, fun h => by cases h⟩, trivial, trivial⟩
    split; exact i1
    split; exact hp
    split; exact hno hp
    split; exact hbi (by decide) hp i2
    split; exact hbi (by decide) (hno hp) i1
    split; exact hbi (by decide) hp i2
    split; exact hbi (by decide) hp i1
    exact hbi (by decide) (hbi (by decide) hp i2) (hbi (by decide) hp i1)
/-- How many nodes a tree adds to a list at most. -/
def gr (t : Tr) (k : Nat) : Prop := wfT t ∧ ∀ out, validL out → out.Nodup → (finT t out).2.length ≤ out.length + k
theorem gr_len {t : Tr} {k : Nat} (h : gr t k) : (canon t).length ≤ k := by
  have := h.2 [] (fun k h => by simp at h) .nil
  unfold canon
  simpa using this
theorem gr_mono {t : Tr} {k m : Nat} (h : gr t k) (hk : k ≤ m) : gr t m := ⟨h.1, fun out v n => by have := h.2 out v n; omega⟩
theorem gr_leaf {op i : Int} (hw : wfT (.nd op i 0 0 .nil .nil)) (hx : (usesA op).1.x = false) (hy : (usesA op).1.y = false) : gr (.nd op i 0 0 .nil .nil) 1 := ⟨hw, fun out v n => by
  unfold finT
  simp only [hx, hy, Bool.false_eq_true, ↓reduceIte]
  split
  · simp only; omega
  · simp⟩
theorem gr_no {x : Tr} {k : Nat} (h : gr x k) : gr (noT x) (k + 1) := ⟨wf_not h.1, fun out v n => by
  have := h.2 out v n
  unfold noT finT
  simp only [show (usesA 4).1.x = true from rfl, show (usesA 4).1.y = false from rfl, ↓reduceIte, Bool.false_eq_true]
  split
  · simp only; omega
  · simp only [List.length_append, List.length_singleton]; omega⟩
theorem bi_use {op : Int} (h : op = 5 ∨ op = 6 ∨ op = 7) : (usesA op).1.x = true ∧ (usesA op).1.y = true := by rcases h with rfl | rfl | rfl <;> exact ⟨rfl, rfl⟩
theorem gr_bi {op : Int} (ho : op = 5 ∨ op = 6 ∨ op = 7) {x y : Tr} {a b : Nat} (hx : gr x a) (hy : gr y b) : gr (biT op x y) (a + b + 1) := ⟨wf_two hx.1 hy.1 (by omega), fun out v n => by
  obtain ⟨u1, u2⟩ := bi_use ho
  have h1 := hx.2 out v n
  obtain ⟨v1, n1, _, _⟩ := finT_spec x out hx.1 v n
  have h2 := hy.2 _ v1 n1
  unfold biT
  conv => lhs; unfold finT
  simp only [u1, u2, ↓reduceIte]
  split
  · simp only; omega
  · simp only [List.length_append, List.length_singleton]; omega⟩
/-- Twice the same fact. -/
theorem gr_cross {p x y : Tr} {a b c : Nat} (hp : gr p c) (hx : gr x a) (hy : gr y b) : gr (biT 5 (biT 7 p x) (biT 6 p y)) (a + b + c + 3) := ⟨wf_two (wf_two hp.1 hx.1 (by decide)) (wf_two hp.1 hy.1 (by decide)) (by decide), fun out v n => by
  have h7 : (finT (biT 7 p x) out).2.length ≤ out.length + c + a + 1 ∧ validL (finT (biT 7 p x) out).2 ∧ (finT (biT 7 p x) out).2.Nodup ∧ ∃ k, k < (finT (biT 7 p x) out).2.length ∧ tree (finT (biT 7 p x) out).2 k = p := by
    have hl := (gr_bi (op := 7) (by decide) hp hx).2 out v n
    obtain ⟨v1, n1, _, k, _, k1, k2, _⟩ := finT_spec p out hp.1 v n
    obtain ⟨v2, n2, ⟨l2, e2⟩, _⟩ := finT_spec x (finT p out).2 hx.1 v1 n1
    obtain ⟨v3, n3, _, _⟩ := finT_spec (biT 7 p x) out (wf_two hp.1 hx.1 (by decide)) v n
    refine ⟨by omega, v3, n3, ?_⟩
    have hpre : ∃ l, (finT (biT 7 p x) out).2 = (finT p out).2 ++ l := by
      unfold biT
      conv => rhs; intro l; lhs; unfold finT
      simp only [show (usesA 7).1.x = true from rfl, show (usesA 7).1.y = true from rfl, ↓reduceIte, e2]
      split
      · exact ⟨l2, rfl⟩
      · exact ⟨l2 ++ _, List.append_assoc ..⟩
    obtain ⟨l, e⟩ := hpre
    rw [e] at v3 ⊢
    exact ⟨k, by simp; omega, by rw [tree_app v3 _ k1]; exact k2⟩
  obtain ⟨h1, v1, n1, k, k1, k2⟩ := h7
  have hsame := finT_have p _ k v1 n1 k1 k2
  have h6 : (finT (biT 6 p y) (finT (biT 7 p x) out).2).2.length ≤ (finT (biT 7 p x) out).2.length + b + 1 := by
    have h2 := hy.2 _ v1 n1
    unfold biT at h2 hsame ⊢
    conv => lhs; unfold finT
    simp only [show (usesA 6).1.x = true from rfl, show (usesA 6).1.y = true from rfl, ↓reduceIte, hsame]
    split
    · simp only; omega
    · simp only [List.length_append, List.length_singleton]; omega
  unfold biT at h6 h1 ⊢
  conv => lhs; unfold finT
  simp only [show (usesA 5).1.x = true from rfl, show (usesA 5).1.y = true from rfl, ↓reduceIte]
  split
  · simp only; omega
  · simp only [List.length_append, List.length_singleton]; omega⟩
def mostN : Nat → Nat
  | 0 => 1
  | 1 => 2
  | n + 2 => 4 + 2 * mostN (n + 1)
theorem gr_p {n : Nat} (hn : n ≤ 7) : gr (pT n) 1 := gr_leaf (wf_p hn) rfl rfl
theorem two_val {t : BitVec 64} (h : fitsT t 0) : t = 0#64 ∨ t = fullW 0 := by
  by_cases h0 : t.getLsbD 0 = true
  · refine .inr (BitVec.eq_of_getLsbD_eq fun j hj => ?_)
    rw [full_bit' (by omega)]
    by_cases e : j = 0
    · rw [e, h0]; rfl
    · cases hj2 : t.getLsbD j
      · exact (decide_eq_false (by simp; omega)).symm
      · have := h j hj2; simp at this; omega
  · refine .inl (BitVec.eq_of_getLsbD_eq fun j hj => ?_)
    rw [BitVec.getLsbD_zero]
    cases hj2 : t.getLsbD j
    · rfl
    · have := h j hj2
      rw [show j = 0 by simpa using this] at hj2
      exact absurd hj2 h0
theorem decT_gr : ∀ (n : Nat) (t : BitVec 64), n ≤ 6 → fitsT t n → gr (decT n t) (mostN n)
  | 0, t, _, _ => by unfold decT; split; exact gr_leaf wf_fl rfl rfl; exact gr_leaf wf_tr rfl rfl
  | 1, t, _, h => by
    have i1 := decT_gr 0 (t &&& fullW 0) (by omega) (fits_low (by omega))
    have hp := gr_p (n := 0) (by omega)
    have hl := two_val (fits_low (t := t) (n := 0) (by omega))
    have hh := two_val (fits_high (n := 0) h)
    unfold decT
    split; exact gr_mono (gr_leaf wf_fl rfl rfl) (by decide)
    split; exact gr_mono (gr_leaf wf_tr rfl rfl) (by decide)
    split; exact gr_mono i1 (by decide)
    rename_i hne
    split; exact gr_mono hp (by decide)
    rename_i h1
    split; exact gr_no hp
    rename_i h2
    exfalso
    rcases hl with hl | hl <;> rcases hh with hh | hh
    · exact hne (by rw [hl, hh])
    · exact h1 ⟨hl, hh⟩
    · exact h2 ⟨hh, hl⟩
    · exact hne (by rw [hl, hh])
  | n + 2, t, hn, h => by
    have i1 := decT_gr (n + 1) (t &&& fullW (n + 1)) (by omega) (fits_low (by omega))
    have i2 := decT_gr (n + 1) (t >>> (2 ^ (n + 1))) (by omega) (fits_high h)
    have hp := gr_p (n := n + 1) (by omega)
    have hm : mostN (n + 2) = 4 + 2 * mostN (n + 1) := rfl
    unfold decT
    split; exact gr_mono (gr_leaf wf_fl rfl rfl) (by omega)
    split; exact gr_mono (gr_leaf wf_tr rfl rfl) (by omega)
    split; exact gr_mono i1 (by omega)
    split; exact gr_mono hp (by omega)
    split; exact gr_mono (gr_no hp) (by omega)
    split; exact gr_mono (gr_bi (by decide) hp i2) (by omega)
    split; exact gr_mono (gr_bi (by decide) (gr_no hp) i1) (by omega)
    split; exact gr_mono (gr_bi (by decide) hp i2) (by omega)
    split; exact gr_mono (gr_bi (by decide) hp i1) (by omega)
    exact gr_mono (gr_cross hp i2 i1) (by omega)
theorem mostN_le : ∀ n, n ≤ 6 → mostN n ≤ 188 := by decide
/-- The canonical list of a tree as an operand. -/
theorem canon_op {T : Tr} {k : Nat} (h : gr T k) (hk : k ≤ 200) : checkF (canon T) = 0 ∧ compactA (canon T) = canon T ∧ treeF (canon T) = T := by
  obtain ⟨a, b⟩ := canon_check h.1 (by have := gr_len h; omega)
  exact ⟨a, b, (canon_spec h.1).2.2.2⟩
theorem no_is {x : Tr} {k : Nat} (h : gr x k) (hk : k ≤ 199) : notA (canon x) = canon (noT x) := by
  obtain ⟨a, _, b⟩ := canon_op h (by omega)
  have := gr_len (gr_no h)
  unfold notA
  rw [build_one a rfl rfl (by decide) rfl, b, if_neg (by simp only; unfold noT at this; omega)]
  rfl
theorem bi_is {op : Int} (ho : op = 5 ∨ op = 6 ∨ op = 7) {x y : Tr} {a b c : Nat} (hx : gr x a) (hy : gr y b) (hb : gr (biT op x y) c) (h1 : a ≤ 200) (h2 : b ≤ 200) (h3 : c ≤ 200) : buildA ⟨op, 0, 0, 0, 0, 0⟩ [canon x, canon y] = canon (biT op x y) := by
  obtain ⟨a1, _, b1⟩ := canon_op hx h1
  obtain ⟨a2, _, b2⟩ := canon_op hy h2
  obtain ⟨u1, u2⟩ := bi_use ho
  have := gr_len hb
  rw [build_two a1 a2 u1 u2 (by rcases ho with rfl | rfl | rfl <;> decide), b1, b2, if_neg (by simp only; unfold biT at this; omega)]
  rfl
theorem tr_is : trueA = canon trT := by kernel_rfl
theorem fl_is : falseA = canon flT := by kernel_rfl
theorem p_is0 : factA 0 = canon (pT 0) := by kernel_rfl
theorem p_is1 : factA 1 = canon (pT 1) := by kernel_rfl
theorem p_is2 : factA 2 = canon (pT 2) := by kernel_rfl
theorem p_is3 : factA 3 = canon (pT 3) := by kernel_rfl
theorem p_is4 : factA 4 = canon (pT 4) := by kernel_rfl
theorem p_is5 : factA 5 = canon (pT 5) := by kernel_rfl
theorem p_is {n : Nat} (hn : n ≤ 5) : factA n = canon (pT n) := by
  have : n = 0 ∨ n = 1 ∨ n = 2 ∨ n = 3 ∨ n = 4 ∨ n = 5 := by omega
  rcases this with rfl | rfl | rfl | rfl | rfl | rfl
  · exact p_is0
  · exact p_is1
  · exact p_is2
  · exact p_is3
  · exact p_is4
  · exact p_is5
theorem facts_below {c : List Nd} {n : Nat} (hv : validL c) (h : ∀ p ∈ c, p.op = 3 → p.i < n) : unionN factN c / 2 ^ n = 0 := by
  refine Nat.div_eq_of_lt (Nat.lt_pow_two_of_testBit _ fun b hb => ?_)
  unfold unionN
  rw [unionN_bit factN b c 0, Nat.zero_testBit, Bool.false_or, List.any_eq_false]
  intro p hp hb2
  obtain ⟨k, hk⟩ := mem_nd hv hp
  unfold factN at hb2
  split at hb2
  · rename_i hfa
    have h3 : p.op = 3 := by
      have := uses_fa p.op
      rw [hfa] at this
      simpa using this
    obtain ⟨_, h1, h2⟩ := fact_node hk h3
    have := h p hp h3
    rw [Nat.testBit_two_pow] at hb2
    have := of_decide_eq_true hb2
    omega
  · simp at hb2
/-- The law. -/
theorem back_law {t : BitVec 64} {n : Nat} (hn : n ≤ 6) (h : fitsT t n) : checkF (canon (decT n t)) = 0 ∧ fragsA (canon (decT n t)) = 0 ∧ compactA (canon (decT n t)) = canon (decT n t) ∧ factsA (canon (decT n t)) / 2 ^ n = 0 ∧ tableA (canon (decT n t)) n = (t, 0) := by
  have hg := decT_gr n t hn h
  have hm := mostN_le n hn
  obtain ⟨c1, c2, c3⟩ := canon_op hg (by omega)
  obtain ⟨cv, cd, cl, ct⟩ := canon_spec hg.1
  have hall : ∀ p ∈ canon (decT n t), p.op ≤ 8 ∧ (p.op = 3 → 0 ≤ p.i ∧ p.i < n) := fun p hp => by
    rcases finT_all _ [] (decT_all n t) p hp with h | h
    · simp at h
    · exact h
  have hfr : fragsA (canon (decT n t)) = 0 := frags_zero.2 (by rw [c2]; exact fun p hp => (hall p hp).1)
  have hfa : factsA (canon (decT n t)) / 2 ^ n = 0 := by
    unfold factsA
    rw [c2]
    exact facts_below cv fun p hp h3 => ((hall p hp).2 h3).2
  refine ⟨c1, hfr, c2, hfa, ?_⟩
  rw [table_is c1 hfr hn hfa, c2]
  have h64 : 2 ^ n ≤ 64 := Nat.le_trans (Nat.pow_le_pow_right (by decide) hn) (by decide)
  refine Prod.ext (BitVec.eq_of_getLsbD_eq fun j hj => ?_) rfl
  show (tabS (canon (decT n t)) (2 ^ n)).getLsbD j = _
  rw [tabS_bit _ _ h64 j hj, value_tree cv cl, ct, decT_ev j n t hn h]
  by_cases hjn : j < 2 ^ n
  · rw [decide_eq_true hjn, Bool.true_and, Nat.mod_eq_of_lt hjn]
  · rw [decide_eq_false hjn, Bool.false_and]
    cases hb : t.getLsbD j
    · rfl
    · exact absurd (h j hb) hjn
end Fm
end Go.Pd
