/- Package model and its specification: contracts, part o: the generated worlds. -/
import Derived.Test.YtkinhajadppfaaaDoorMn
set_option linter.unusedSectionVars false
set_option linter.unusedVariables false
set_option linter.unusedSimpArgs false
set_option linter.defProp false
set_option maxRecDepth 20000
namespace Go.Pd
open Go Go.Proofs
/-! ### The plain law -/
def bsub (s t : BitVec 64) : Prop := ∀ i, s.getLsbD i = true → t.getLsbD i = true
theorem bsub_refl (s : BitVec 64) : bsub s s := fun _ h => h
theorem bsub_trans {s t u : BitVec 64} (h : bsub s t) (h' : bsub t u) : bsub s u := fun i hi => h' i (h i hi)
theorem bsub_anti {s t : BitVec 64} (h : bsub s t) (h' : bsub t s) : s = t := by
  apply BitVec.eq_of_getLsbD_eq
  intro i _
  have h1 := h i
  have h2 := h' i
  cases hs : s.getLsbD i <;> cases ht : t.getLsbD i <;> simp_all
def orW (w : Nat) (s : BitVec 64) (R : List (List (BitVec 64))) : BitVec 64 := R.foldl (fun s r => s ||| r.getD w 0) s
theorem orW_bit (w i : Nat) : ∀ (R : List (List (BitVec 64))) (s : BitVec 64), (orW w s R).getLsbD i = (s.getLsbD i || R.any fun r => (r.getD w 0).getLsbD i)
  | [], s => by simp [orW]
  | r :: R, s => by
    show (orW w (s ||| r.getD w 0) R).getLsbD i = _
    rw [orW_bit w i R, BitVec.getLsbD_or, List.any_cons, Bool.or_assoc]
def stepW (m : Mod) (s : BitVec 64) (w : Nat) : BitVec 64 := if s.getLsbD w then orW w s m.R else s
def roundG (m : Mod) (s : BitVec 64) : Nat → BitVec 64
  | 0 => s
  | k + 1 => stepW m (roundG m s k) k
def genN (m : Mod) (s : BitVec 64) : Nat → BitVec 64
  | 0 => s
  | k + 1 => roundG m (genN m s k) m.W.toNat
def Mod.gen (m : Mod) (s : BitVec 64) : BitVec 64 := genN m s m.W.toNat
def closedW (m : Mod) (t : BitVec 64) : Prop := ∀ w, t.getLsbD w = true → ∀ r ∈ m.R, bsub (r.getD w 0) t
def isGen (m : Mod) (s g : BitVec 64) : Prop := bsub s g ∧ closedW m g ∧ ∀ t, bsub s t → closedW m t → bsub g t
theorem isGen_unique {m : Mod} {s g g' : BitVec 64} (h : isGen m s g) (h' : isGen m s g') : g = g' := bsub_anti (h.2.2 _ h'.1 h'.2.1) (h'.2.2 _ h.1 h.2.1)

theorem stepW_ge (m : Mod) (s : BitVec 64) (w : Nat) : bsub s (stepW m s w) := by
  intro i hi
  unfold stepW
  split
  · rw [orW_bit, hi]; rfl
  · exact hi
theorem stepW_le {m : Mod} {s t : BitVec 64} (w : Nat) (h : bsub s t) (hc : closedW m t) : bsub (stepW m s w) t := by
  intro i hi
  unfold stepW at hi
  split at hi
  · rename_i hw
    rw [orW_bit, Bool.or_eq_true, List.any_eq_true] at hi
    rcases hi with hi | ⟨r, hr, hi⟩
    · exact h i hi
    · exact hc w (h w hw) r hr i hi
  · exact h i hi
theorem roundG_ge (m : Mod) (s : BitVec 64) : ∀ k, bsub s (roundG m s k)
  | 0 => bsub_refl s
  | k + 1 => bsub_trans (roundG_ge m s k) (stepW_ge m _ k)
theorem roundG_le {m : Mod} {s t : BitVec 64} (h : bsub s t) (hc : closedW m t) : ∀ k, bsub (roundG m s k) t
  | 0 => h
  | k + 1 => stepW_le k (roundG_le h hc k) hc
theorem genN_ge (m : Mod) (s : BitVec 64) : ∀ k, bsub s (genN m s k)
  | 0 => bsub_refl s
  | k + 1 => bsub_trans (genN_ge m s k) (roundG_ge m _ _)
theorem genN_le {m : Mod} {s t : BitVec 64} (h : bsub s t) (hc : closedW m t) : ∀ k, bsub (genN m s k) t
  | 0 => h
  | k + 1 => roundG_le (genN_le h hc k) hc _
theorem roundG_mono (m : Mod) (s : BitVec 64) {k n : Nat} (h : k ≤ n) : bsub (roundG m s k) (roundG m s n) := by
  obtain ⟨d, rfl⟩ := Nat.exists_eq_add_of_le h
  clear h
  induction d with
  | zero => exact bsub_refl _
  | succ d ih => exact bsub_trans ih (stepW_ge m _ (k + d))
theorem roundG_fix {m : Mod} {s : BitVec 64} {n : Nat} (hl : ∀ r ∈ m.R, r.length ≤ n) (h : roundG m s n = s) : closedW m s := by
  intro w hw r hr i hi
  by_cases hn : w < n
  · have h1 : roundG m s w = s := bsub_anti (by have := roundG_mono m s (Nat.le_of_lt hn); rw [h] at this; exact this) (roundG_ge m s w)
    have h2 : bsub (roundG m s (w + 1)) s := by have := roundG_mono m s (show w + 1 ≤ n from hn); rw [h] at this; exact this
    refine h2 i ?_
    show (stepW m (roundG m s w) w).getLsbD i = true
    rw [h1]
    unfold stepW
    rw [if_pos hw, orW_bit, Bool.or_eq_true, List.any_eq_true]
    exact .inr ⟨r, hr, hi⟩
  · have hlr := hl r hr
    have : r.getD w 0 = 0#64 := by simp [List.getD, show r[w]? = none from List.getElem?_eq_none (by omega)]
    rw [this] at hi
    simp at hi

def card (s : BitVec 64) : Nat := ((List.range 64).filter fun i => s.getLsbD i).length
theorem filter_lt {α : Type} {p q : α → Bool} : ∀ {l : List α}, (∀ x ∈ l, p x = true → q x = true) → (l.filter p).length ≤ (l.filter q).length ∧ ((∃ x ∈ l, q x = true ∧ p x = false) → (l.filter p).length < (l.filter q).length)
  | [], _ => ⟨Nat.le_refl _, by rintro ⟨x, hx, _⟩; simp at hx⟩
  | a :: l, h => by
    obtain ⟨h1, h2⟩ := filter_lt (l := l) fun x hx => h x (by simp [hx])
    have ha := h a (by simp)
    cases hp : p a <;> cases hq : q a <;> simp only [List.filter_cons, hp, hq, List.length_cons, if_true, if_false, Bool.false_eq_true]
    · refine ⟨h1, ?_⟩
      rintro ⟨x, hx, h3, h4⟩
      rcases List.mem_cons.1 hx with rfl | hx
      · rw [hq] at h3; cases h3
      · exact h2 ⟨x, hx, h3, h4⟩
    · exact ⟨by omega, fun _ => by omega⟩
    · rw [ha hp] at hq; cases hq
    · refine ⟨by omega, ?_⟩
      rintro ⟨x, hx, h3, h4⟩
      rcases List.mem_cons.1 hx with rfl | hx
      · rw [hp] at h4; cases h4
      · have := h2 ⟨x, hx, h3, h4⟩; omega
theorem card_lt {s t : BitVec 64} (h : bsub s t) (hne : t ≠ s) : card s < card t := by
  refine (filter_lt fun i _ hi => h i hi).2 ?_
  apply Classical.byContradiction
  intro hn
  refine hne (bsub_anti (fun i hi => ?_) h)
  by_cases h64 : i < 64
  · cases hs : s.getLsbD i with
    | true => rfl
    | false => exact absurd ⟨i, List.mem_range.2 h64, hi, hs⟩ hn
  · rw [BitVec.getLsbD_of_ge _ _ (by omega)] at hi; cases hi
theorem card_le {s : BitVec 64} {W : Nat} (h : ∀ i, s.getLsbD i = true → i < W) : card s ≤ W := by
  have key : ∀ n, ((List.range n).filter fun i => s.getLsbD i).length ≤ min n W := by
    intro n
    induction n with
    | zero => simp
    | succ n ih =>
      rw [List.range_succ, List.filter_append, List.length_append]
      cases hn : s.getLsbD n with
      | true => have := h n hn; simp [hn]; omega
      | false => simp [hn]; omega
  have := key 64
  unfold card
  omega
theorem genN_card (m : Mod) (s : BitVec 64) (h0 : s ≠ 0#64) : ∀ k, roundG m (genN m s k) m.W.toNat = genN m s k ∨ k + 1 ≤ card (genN m s k)
  | 0 => by
    refine .inr ?_
    have h1 : bsub 0#64 s := by intro i hi; simp at hi
    have := card_lt h1 h0
    show 1 ≤ card s
    omega
  | k + 1 => by
    by_cases h : roundG m (genN m s (k + 1)) m.W.toNat = genN m s (k + 1)
    · exact .inl h
    · refine .inr ?_
      have hk : roundG m (genN m s k) m.W.toNat ≠ genN m s k := by
        intro e
        have e' : genN m s (k + 1) = genN m s k := e
        rw [e'] at h
        exact h e
      rcases genN_card m s h0 k with h1 | h1
      · exact absurd h1 hk
      · have : card (genN m s k) < card (genN m s (k + 1)) := card_lt (roundG_ge m _ _) hk
        omega
theorem closed_all {m : Mod} (hc : m.check = 0) : closedW m (allS m.W) := by
  obtain ⟨c1, c2, c3, c4, c5, c6, c7⟩ := Mod.check_zero hc
  intro w hw r hr i hi
  have h := c7 r hr
  unfold outS at h
  by_cases hn : w < r.length
  · have hm : r.getD w 0 ∈ r := by simp [List.getD, hn]
    have := List.any_eq_false.1 h _ hm
    simp only [bne_iff_ne, ne_eq, Decidable.not_not] at this
    exact sub_bits.1 this i hi
  · have : r.getD w 0 = 0#64 := by simp [List.getD, show r[w]? = none from List.getElem?_eq_none (by omega)]
    rw [this] at hi
    simp at hi
theorem gen_isGen {m : Mod} {s : BitVec 64} (hc : m.check = 0) (hs : s &&& ~~~(allS m.W) = 0#64) : isGen m s (m.gen s) := by
  have hcl := closed_all hc
  obtain ⟨c1, c2, c3, c4, c5, c6, c7⟩ := Mod.check_zero hc
  have hl : ∀ r ∈ m.R, r.length ≤ m.W.toNat := fun r hr => by have := c5 r hr; omega
  refine ⟨genN_ge m s _, ?_, fun t h1 h2 => genN_le h1 h2 _⟩
  refine roundG_fix hl ?_
  by_cases h0 : s = 0#64
  · subst h0
    have hz : closedW m 0#64 := by intro w hw; simp at hw
    have e : ∀ k, genN m 0#64 k = 0#64 := fun k => bsub_anti (genN_le (bsub_refl _) hz k) (genN_ge m _ k)
    unfold Mod.gen
    rw [e]
    exact bsub_anti (roundG_le (bsub_refl _) hz _) (roundG_ge m _ _)
  · rcases genN_card m s h0 m.W.toNat with h | h
    · exact h
    · exfalso
      have hsub : bsub (genN m s m.W.toNat) (allS m.W) := genN_le (sub_bits.1 hs) hcl _
      have : card (genN m s m.W.toNat) ≤ m.W.toNat := card_le fun i hi => by
        have := hsub i hi
        rw [allS_bit] at this
        simp at this
        omega
      omega
def Mod.generated (m : Mod) (s : BitVec 64) : BitVec 64 × Int :=
  if m.check ≠ 0 then (0#64, m.check) else if s &&& ~~~(allS m.W) ≠ 0#64 then (0#64, 2) else (m.gen s, 0)
def genD (r : BitVec 64 × Int) : D := .tup [.int .u64 (ui r.1), .int .i64 r.2]
end Go.Pd
