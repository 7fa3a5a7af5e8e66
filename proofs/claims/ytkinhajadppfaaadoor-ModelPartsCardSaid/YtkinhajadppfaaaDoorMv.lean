/- Package model and its specification: contracts, part v: renamings, the plain law and the specification's. -/
import Derived.Test.YtkinhajadppfaaaDoorMu
set_option linter.unusedSectionVars false
set_option linter.unusedVariables false
set_option linter.unusedSimpArgs false
set_option linter.defProp false
set_option maxRecDepth 20000
namespace Go.Pd
open Go Go.Proofs
/-- The places (below w) of a list at which a number stands. -/
def hitsW (to : List Int) (i : Nat) (w : Nat) : List Int := ((List.range w).filter fun v => to.getD v 0 == (i : Int)).map Int.ofNat
def hits (to : List Int) (i : Nat) : List Int := hitsW to i to.length
def isPerm (to : List Int) : Bool := (List.range to.length).all fun i => (hits to i).length == 1
def invK (to : List Int) (k : Nat) : List Int := (List.range k).map fun i => (hits to i).headD 0
def Mod.rename (m : Mod) (to : List Int) : Mod × Int :=
  if m.check ≠ 0 then (.nil, m.check) else if (to.length : Int) ≠ m.W then (.nil, 1) else if isPerm to then (m.take (invK to to.length), 0) else (.nil, 1)
theorem hitsW_yes {to : List Int} {i w : Nat} (h : to.getD w 0 = (i : Int)) : hitsW to i (w + 1) = hitsW to i w ++ [(w : Int)] := by
  unfold hitsW
  have hb : (to.getD w 0 == (i : Int)) = true := by rw [h]; simp
  rw [List.range_succ, List.filter_append, List.map_append, List.filter_cons, hb]
  rfl
theorem hitsW_no {to : List Int} {i w : Nat} (h : to.getD w 0 ≠ (i : Int)) : hitsW to i (w + 1) = hitsW to i w := by
  unfold hitsW
  have hb : (to.getD w 0 == (i : Int)) = false := by simpa using h
  rw [List.range_succ, List.filter_append, List.map_append, List.filter_cons, hb]
  simp
theorem hitsW_mem {to : List Int} {i w : Nat} {x : Int} : x ∈ hitsW to i w ↔ ∃ v : Nat, v < w ∧ to.getD v 0 = (i : Int) ∧ x = v := by
  simp only [hitsW, List.mem_map, List.mem_filter, List.mem_range]
  constructor
  · rintro ⟨v, ⟨h1, h2⟩, rfl⟩; exact ⟨v, h1, eq_of_beq h2, rfl⟩
  · rintro ⟨v, h1, h2, rfl⟩; exact ⟨v, ⟨h1, by rw [h2]; simp⟩, rfl⟩
theorem hitsW_len (to : List Int) (i w : Nat) : (hitsW to i w).length ≤ w := by
  unfold hitsW
  rw [List.length_map]
  exact Nat.le_trans (List.length_filter_le _ _) (by simp)
theorem invK_one {to : List Int} {i : Nat} (h : (hits to i).length = 1) : invK to (i + 1) = invK to i ++ hits to i := by
  unfold invK
  rw [range_snoc]
  congr 1
  match hits to i, h with
  | [x], _ => rfl
theorem invK_len (to : List Int) (k : Nat) : (invK to k).length = k := by simp [invK]
theorem isPerm_one {to : List Int} : isPerm to = true ↔ ∀ i, i < to.length → (hits to i).length = 1 := by
  simp only [isPerm, List.all_eq_true, List.mem_range, beq_iff_eq]
/-- How many places hold a number below m: the sum. -/
def sumH (to : List Int) : Nat → Nat
  | 0 => 0
  | k + 1 => sumH to k + (hits to k).length
theorem filter_or {α : Type} {p q r : α → Bool} (hd : ∀ x, p x = true → q x = false) (hr : ∀ x, r x = (p x || q x)) : ∀ l : List α, (l.filter r).length = (l.filter p).length + (l.filter q).length
  | [] => rfl
  | a :: l => by
    have ih := filter_or hd hr l
    have h1 := hd a
    have h2 := hr a
    cases hp : p a <;> cases hq : q a <;> rw [hp, hq] at h2 <;> simp only [List.filter_cons, hp, hq, h2, Bool.or_true, Bool.or_false, Bool.true_or, if_true, if_false, Bool.false_eq_true, List.length_cons, ih] <;> first | omega | (exfalso; have := h1 hp; rw [hq] at this; cases this)
theorem sumH_eq (to : List Int) : ∀ m, sumH to m = ((List.range to.length).filter fun v => decide (0 ≤ to.getD v 0) && decide (to.getD v 0 < (m : Int))).length
  | 0 => by
    have : ((List.range to.length).filter fun v => decide (0 ≤ to.getD v 0) && decide (to.getD v 0 < ((0 : Nat) : Int))) = [] := by
      rw [List.filter_eq_nil_iff]; intro v _; generalize to.getD v 0 = x; simp; try omega
    rw [this]; rfl
  | m + 1 => by
    rw [sumH, sumH_eq to m]
    have e : (hits to m).length = ((List.range to.length).filter fun v => to.getD v 0 == (m : Int)).length := by simp [hits, hitsW]
    rw [e]
    symm
    refine filter_or (fun v h => ?_) (fun v => ?_) _
    · generalize to.getD v 0 = x at *
      simp at h ⊢; omega
    · generalize to.getD v 0 = x
      rw [Bool.eq_iff_iff]
      simp only [Bool.and_eq_true, Bool.or_eq_true, decide_eq_true_eq, beq_iff_eq]
      omega
theorem perm_range {to : List Int} (h : isPerm to = true) : ∀ v, v < to.length → 0 ≤ to.getD v 0 ∧ to.getD v 0 < to.length := by
  have h1 := isPerm_one.1 h
  have hs : ∀ m, m ≤ to.length → sumH to m = m := by
    intro m
    induction m with
    | zero => intro _; rfl
    | succ m ih => intro hm; rw [sumH, ih (by omega), h1 m (by omega)]
  have h2 := sumH_eq to to.length
  rw [hs _ (Nat.le_refl _)] at h2
  have h3 := List.length_filter_eq_length_iff.1 (h2.symm.trans (List.length_range).symm)
  intro v hv
  have := h3 v (List.mem_range.2 hv)
  simp at this
  exact this
theorem perm_dup {to : List Int} (h : isPerm to = true) {v w : Nat} (hv : v < w) (hw : w < to.length) : to.getD v 0 ≠ to.getD w 0 := by
  intro e
  have hr := perm_range h w hw
  have h1 := isPerm_one.1 h (to.getD w 0).toNat (by omega)
  have ei : (((to.getD w 0).toNat : Nat) : Int) = to.getD w 0 := by omega
  have m1 : (v : Int) ∈ hits to (to.getD w 0).toNat := hitsW_mem.2 ⟨v, by omega, by rw [ei]; exact e, rfl⟩
  have m2 : (w : Int) ∈ hits to (to.getD w 0).toNat := hitsW_mem.2 ⟨w, hw, by rw [ei], rfl⟩
  match hits to (to.getD w 0).toNat, h1, m1, m2 with
  | [x], _, m1, m2 =>
    simp at m1 m2
    omega
theorem perm_of {to : List Int} (hr : ∀ v, v < to.length → 0 ≤ to.getD v 0 ∧ to.getD v 0 < to.length) (hd : ∀ v w, v < w → w < to.length → to.getD v 0 ≠ to.getD w 0) : isPerm to = true := by
  have hc : ∀ i, (hits to i).length ≤ 1 := by
    intro i
    have nd : ∀ w, w ≤ to.length → (hitsW to i w).length ≤ 1 := by
      intro w
      induction w with
      | zero => intro _; simp [hitsW]
      | succ w ih =>
        intro hw
        by_cases e : to.getD w 0 = (i : Int)
        · rw [hitsW_yes e]
          have : hitsW to i w = [] := by
            apply List.eq_nil_iff_forall_not_mem.2
            intro x hx
            obtain ⟨v, h1, h2, _⟩ := hitsW_mem.1 hx
            exact hd v w h1 (by omega) (h2.trans e.symm)
          rw [this]; simp
        · rw [hitsW_no e]; exact ih (by omega)
    exact nd _ (Nat.le_refl _)
  have hsum : sumH to to.length = to.length := by
    rw [sumH_eq]
    conv => rhs; rw [← List.length_range (n := to.length)]
    apply List.length_filter_eq_length_iff.2
    intro v hv
    have := hr v (List.mem_range.1 hv)
    generalize to.getD v 0 = x at *
    simp [this]
  have hle : ∀ m, sumH to m ≤ m := by
    intro m
    induction m with
    | zero => exact Nat.le_refl _
    | succ m ih => have := hc m; rw [sumH]; omega
  have hup : ∀ d m, sumH to (m + d) ≤ sumH to m + d := by
    intro d m
    induction d with
    | zero => exact Nat.le_refl _
    | succ d ih => have := hc (m + d); show sumH to (m + d) + (hits to (m + d)).length ≤ _; omega
  refine isPerm_one.2 fun i hi => ?_
  have h1 := hle i
  have h2 := hup (to.length - (i + 1)) (i + 1)
  have e : i + 1 + (to.length - (i + 1)) = to.length := by omega
  rw [e, hsum] at h2
  have h3 : sumH to (i + 1) = sumH to i + (hits to i).length := rfl
  have := hc i
  omega
theorem invK_at {to : List Int} {i v : Nat} (h : isPerm to = true) (hv : v < to.length) (e : to.getD v 0 = (i : Int)) : (invK to to.length).getD i 0 = v := by
  have hr := perm_range h v hv
  have hi : i < to.length := by omega
  unfold invK
  rw [getD_range_map _ _ _ _ hi]
  have h1 := isPerm_one.1 h i hi
  have m1 : (v : Int) ∈ hits to i := hitsW_mem.2 ⟨v, hv, e, rfl⟩
  match hits to i, h1, m1 with
  | [x], _, m1 => simp at m1; simp [m1]
theorem perm_hit {to : List Int} (h : isPerm to = true) {i : Nat} (hi : i < to.length) : ∃ v, v < to.length ∧ to.getD v 0 = (i : Int) := by
  have h1 := isPerm_one.1 h i hi
  match hh : hits to i, h1 with
  | [x], _ =>
    have : x ∈ hits to i := by rw [hh]; simp
    obtain ⟨v, h1, h2, _⟩ := hitsW_mem.1 this
    exact ⟨v, h1, h2⟩
theorem invK_mem {to : List Int} (h : isPerm to = true) : ∀ x ∈ invK to to.length, 0 ≤ x ∧ x < to.length := by
  intro x hx
  simp only [invK, List.mem_map, List.mem_range] at hx
  obtain ⟨i, hi, rfl⟩ := hx
  have h1 := isPerm_one.1 h i hi
  match hh : hits to i, h1 with
  | [x], _ =>
    have : x ∈ hits to i := by rw [hh]; simp
    obtain ⟨v, h1, h2, rfl⟩ := hitsW_mem.1 this
    simp; omega
end Go.Pd
