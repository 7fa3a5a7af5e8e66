/- Resolution: plain laws: the search finds a valuation or a refutation. -/
import Derived.Test.YtigkaakdjibakaaE4
set_option linter.unusedSectionVars false
set_option linter.unusedVariables false
set_option linter.unusedSimpArgs false
set_option linter.defProp false
set_option maxRecDepth 20000
namespace Go.Pd
open Go Go.Proofs
open Rs
namespace Rs
theorem formedFrom_of {m : Int} : ∀ {ls : List Ln} {i : Int}, (∀ k, k < ls.length → formedB (i + k) m (ls.getD k ln0) = true) → formedFrom m ls i = true
  | [], _, _ => rfl
  | p :: r, i, h => by
    rw [formedFrom, Bool.and_eq_true]
    refine ⟨by simpa using h 0 (by simp), formedFrom_of fun k hk => ?_⟩
    have := h (k + 1) (by simp; omega)
    rw [List.getD_cons_succ] at this
    rw [show i + 1 + (k : Int) = i + ((k + 1 : Nat) : Int) by omega]
    exact this
theorem getD_app {α : Type} {a b : List α} {d : α} {k : Nat} (h : k < a.length) : (a ++ b).getD k d = a.getD k d := by simp [List.getD, List.getElem?_append_left h]
theorem getD_last {α : Type} {a : List α} {x d : α} : (a ++ [x]).getD a.length d = x := by simp [List.getD]
theorem right_app {l : List (List Int)} {ls t : List Ln} {p : Ln} {k : Nat} (hf : formedB k l.length p = true) (hk : k ≤ ls.length) : rightB l (ls ++ t) p = rightB l ls p := by
  unfold rightB
  by_cases h1 : p.lf = -1
  · rw [if_pos h1, if_pos h1]
  · obtain ⟨⟨i1, i2⟩, i3, i4⟩ := formed_re hf h1
    rw [if_neg h1, if_neg h1, getD_app (show p.lf.toNat < ls.length by omega), getD_app (show p.rt.toNat < ls.length by omega)]
structure WF (l : List (List Int)) (s : RS) : Prop where
  fo : ∀ k, k < s.ls.length → formedB k l.length (s.ls.getD k ln0) = true
  ri : ∀ k, k < s.ls.length → rightB l s.ls (s.ls.getD k ln0) = true
  no : ∀ k, k < s.ls.length → normE 12 (-1) (s.ls.getD k ln0).cl = 0
  us : ∀ (i : Nat) y, ulook i s.us = some y → 0 ≤ y ∧ y < s.ls.length ∧ (s.ls.getD y.toNat ln0).cl = l.getD i []
def full (s : RS) : Prop := ∀ k, k < s.ls.length → (s.ls.getD k ln0).cl ≠ []
/-- One line more. -/
theorem WF.add {l : List (List Int)} {s : RS} {p : Ln} {u : List (Int × Int)} (h : WF l s) (hf : formedB s.ls.length l.length p = true) (hr : rightB l s.ls p = true) (hn : normE 12 (-1) p.cl = 0)
    (hu : ∀ (i : Nat) y, ulook i u = some y → 0 ≤ y ∧ y < s.ls.length + 1 ∧ ((s.ls ++ [p]).getD y.toNat ln0).cl = l.getD i []) : WF l ⟨s.ls ++ [p], u⟩ := by
  have hk : ∀ k, k < (s.ls ++ [p]).length → (k < s.ls.length ∧ (s.ls ++ [p]).getD k ln0 = s.ls.getD k ln0) ∨ (k = s.ls.length ∧ (s.ls ++ [p]).getD k ln0 = p) := by
    intro k hk
    simp only [List.length_append, List.length_singleton] at hk
    by_cases e : k = s.ls.length
    · subst e; exact .inr ⟨rfl, getD_last⟩
    · exact .inl ⟨by omega, getD_app (by omega)⟩
  refine ⟨fun k h1 => ?_, fun k h1 => ?_, fun k h1 => ?_, fun i y h1 => ?_⟩
  · rcases hk k h1 with ⟨h2, e⟩ | ⟨rfl, e⟩
    · show formedB k l.length ((s.ls ++ [p]).getD k ln0) = true
      rw [e]; exact h.fo k h2
    · show formedB s.ls.length l.length ((s.ls ++ [p]).getD s.ls.length ln0) = true
      rw [e]; exact hf
  · rcases hk k h1 with ⟨h2, e⟩ | ⟨rfl, e⟩
    · show rightB l (s.ls ++ [p]) ((s.ls ++ [p]).getD k ln0) = true
      rw [e, right_app (h.fo k h2) (by omega)]; exact h.ri k h2
    · show rightB l (s.ls ++ [p]) ((s.ls ++ [p]).getD s.ls.length ln0) = true
      rw [e, right_app hf (Nat.le_refl _)]; exact hr
  · rcases hk k h1 with ⟨h2, e⟩ | ⟨rfl, e⟩
    · show normE 12 (-1) ((s.ls ++ [p]).getD k ln0).cl = 0
      rw [e]; exact h.no k h2
    · show normE 12 (-1) ((s.ls ++ [p]).getD s.ls.length ln0).cl = 0
      rw [e]; exact hn
  · have := hu i y h1
    refine ⟨this.1, ?_, this.2.2⟩
    show y < ((s.ls ++ [p]).length : Int)
    simp only [List.length_append, List.length_singleton]; omega
theorem full_add {s : RS} {p : Ln} {u : List (Int × Int)} (h : full s) (hp : p.cl ≠ []) : full ⟨s.ls ++ [p], u⟩ := by
  intro k hk
  show ((s.ls ++ [p]).getD k ln0).cl ≠ []
  have hk' : k < s.ls.length + 1 := by simpa using hk
  by_cases e : k = s.ls.length
  · subst e; rw [getD_last]; exact hp
  · rw [getD_app (by omega)]; exact h k (by omega)
def fallC (idx : Int) (v : Nat) (c : List Int) : Prop := ∀ x ∈ c, varI x < idx ∧ mkB v x = false
theorem fallC_iff {idx : Int} {v : Nat} {c : List Int} : c.all (falseL idx v) = true ↔ fallC idx v c := by
  simp only [List.all_eq_true, falseL, Bool.and_eq_true, decide_eq_true_eq, Bool.not_eq_true', fallC]
theorem normE_up {n : Int} {c : List Int} (hn : n ≤ 12) (h : normE n (-1) c = 0) : normE 12 (-1) c = 0 :=
  normE_zero.2 ⟨fun x hx => ⟨litOk_mono hn ((normE_zero.1 h).1 x hx).1, ((normE_zero.1 h).1 x hx).2⟩, (normE_zero.1 h).2⟩
theorem canon_norm {c : List Int} (h : ∀ x ∈ c, litOk 12 x = true) (hb : bothTo c 12 = false) : normE 12 (-1) (canon c) = 0 :=
  normE_zero.2 ⟨fun x hx => ⟨h x (canon_in hx), by have := varI_range (h x (canon_in hx)); omega⟩, canon_rise hb⟩
theorem bit_hi {idx v : Nat} (hv : v < 2 ^ idx) : v.testBit idx = false := Nat.testBit_lt_two_pow hv
theorem bit_add {idx v : Nat} (hv : v < 2 ^ idx) : (v + 2 ^ idx).testBit idx = true := by
  rw [Nat.add_comm, Nat.testBit_two_pow_add_eq, bit_hi hv]; rfl
theorem bit_lo {idx v w : Nat} (h : w < idx) : (v + 2 ^ idx).testBit w = v.testBit w := by
  rw [Nat.add_comm, Nat.testBit_two_pow_add_gt h]
theorem mkB_pos (v idx : Nat) : mkB v ((idx : Int) + 1) = v.testBit idx := by
  unfold mkB varI
  rw [if_neg (by omega), decide_eq_true (by omega), show ((idx : Int) + 1 - 1).toNat = idx by omega]; simp
theorem mkB_negv (v idx : Nat) : mkB v (-(idx : Int) - 1) = !v.testBit idx := by
  unfold mkB varI
  rw [if_pos (by omega), decide_eq_false (by omega), show (-(-(idx : Int) - 1) - 1).toNat = idx by omega]; simp
theorem var_at {x : Int} {idx : Nat} (hx : x ≠ 0) (h : varI x = idx) : x = idx + 1 ∨ x = -(idx : Int) - 1 := by
  unfold varI at h; split at h <;> omega
/-- Going back by one variable: the bit was 0. -/
theorem fall_back0 {idx v : Nat} {c : List Int} (hv : v < 2 ^ idx) (hz : ∀ x ∈ c, x ≠ 0) (h : fallC (idx + 1 : Nat) v c) : ∀ x ∈ c, x ≠ idx + 1 → varI x < idx ∧ mkB v x = false := fun x hx hne => by
  obtain ⟨h1, h2⟩ := h x hx
  refine ⟨?_, h2⟩
  by_cases e : varI x = idx
  · rcases var_at (hz x hx) e with e | e
    · exact absurd e hne
    · rw [e, mkB_negv, bit_hi hv] at h2; cases h2
  · omega
theorem fall_back1 {idx v : Nat} {c : List Int} (hv : v < 2 ^ idx) (hz : ∀ x ∈ c, litOk 12 x = true) (h : fallC (idx + 1 : Nat) (v + 2 ^ idx) c) : ∀ x ∈ c, x ≠ -(idx : Int) - 1 → varI x < idx ∧ mkB v x = false := fun x hx hne => by
  obtain ⟨h1, h2⟩ := h x hx
  have hr := varI_range (hz x hx)
  have hlt : varI x < idx := by
    by_cases e : varI x = idx
    · rcases var_at (litOk_iff.1 (hz x hx)).1 e with e | e
      · rw [e, mkB_pos, bit_add hv] at h2; cases h2
      · exact absurd e hne
    · omega
  refine ⟨hlt, ?_⟩
  unfold mkB at h2 ⊢
  rw [bit_lo (by omega)] at h2; exact h2
theorem ffalse_none {idx : Int} {v : Nat} : ∀ {l : List (List Int)} {i : Nat}, ffalse idx v l i = none → ∀ c ∈ l, ¬ fallC idx v c
  | [], _, _, c, hc => by cases hc
  | d :: r, i, h, c, hc => by
    unfold ffalse at h
    by_cases hd : d.all (falseL idx v) = true
    · rw [if_pos hd] at h; cases h
    · rw [if_neg hd] at h
      rcases List.mem_cons.1 hc with rfl | hc
      · exact fun hf => hd (fallC_iff.2 hf)
      · exact ffalse_none h c hc
theorem ffalse_some {idx : Int} {v : Nat} : ∀ {l : List (List Int)} {i j : Nat}, ffalse idx v l i = some j → fallC idx v (l.getD (j - i) [])
  | [], _, _, h => by cases h
  | d :: r, i, j, h => by
    unfold ffalse at h
    by_cases hd : d.all (falseL idx v) = true
    · rw [if_pos hd] at h; cases h
      rw [Nat.sub_self]; exact fallC_iff.1 hd
    · rw [if_neg hd] at h
      have h1 := ffalse_lt h
      have h2 := ffalse_some h
      rw [show j - i = (j - (i + 1)) + 1 by omega, List.getD_cons_succ]
      exact h2
/-- What is said of the search's result. -/
structure Good (n : Nat) (l : List (List Int)) (idx v : Nat) (s : RS) (r : Int) (s' : RS) : Prop where
  wf : WF l s'
  ext : ∃ t, s'.ls = s.ls ++ t
  no : r < 0 → full s' ∧ ∃ w, w < 2 ^ n ∧ satL w l = true
  yes : 0 ≤ r → r < s'.ls.length ∧ fallC idx v (s'.ls.getD r.toNat ln0).cl ∧ (full s' ∨ (r + 1 = s'.ls.length ∧ (s'.ls.getD r.toNat ln0).cl = []))
theorem input_good {n : Nat} {l : List (List Int)} (hc : checkC n l = 0) {idx v i : Nat} {s : RS} (hw : WF l s) (hfu : full s) (hf : ffalse idx v l 0 = some i) : Good n l idx v s (inputS l i s).1 (inputS l i s).2 := by
  obtain ⟨c1, c2, c3, c4⟩ := checkC_zero hc
  have hi := ffalse_lt hf
  have hfal := ffalse_some hf
  rw [Nat.sub_zero] at hfal
  have hil : i < l.length := by omega
  unfold inputS
  cases hu : ulook i s.us with
  | some y =>
    obtain ⟨h1, h2, h3⟩ := hw.us i y hu
    exact ⟨hw, ⟨[], by simp⟩, fun h => by simp only at h; omega, fun _ => ⟨h2, by simp only; rw [h3]; exact hfal, .inl hfu⟩⟩
  | none =>
    have hlast : ((s.ls ++ [⟨l.getD i [], -1, i, 0⟩] : List Ln).getD s.ls.length ln0) = ⟨l.getD i [], -1, i, 0⟩ := getD_last
    refine ⟨hw.add ?_ ?_ ?_ ?_, ⟨_, rfl⟩, fun h => by simp only at h; omega, fun _ => ⟨by simp; omega, ?_, ?_⟩⟩
    · simp [formedB]; omega
    · simp [rightB]
    · exact normE_up c2 (c4 _ (getD_mem hil))
    · intro x y hxy
      rw [ulook_snoc] at hxy
      cases hx : ulook x s.us with
      | some z =>
        rw [hx] at hxy; simp at hxy; subst hxy
        obtain ⟨h1, h2, h3⟩ := hw.us x z hx
        exact ⟨h1, by omega, by rw [getD_app (by omega)]; exact h3⟩
      | none =>
        rw [hx] at hxy
        simp at hxy
        obtain ⟨e1, e2⟩ := hxy
        have e1' : x = i := by omega
        subst e1' e2
        exact ⟨by omega, by omega, by rw [Int.toNat_natCast, hlast]⟩
    · simp only [Int.toNat_natCast]; rw [hlast]; exact hfal
    · by_cases he : l.getD i [] = []
      · exact .inr ⟨by simp, by simp only [Int.toNat_natCast]; rw [hlast]; exact he⟩
      · exact .inl (full_add hfu he)
end Rs
end Go.Pd
