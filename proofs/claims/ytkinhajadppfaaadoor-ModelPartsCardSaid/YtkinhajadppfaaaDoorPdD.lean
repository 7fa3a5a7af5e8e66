/-
  PURE DATA, part D: what a still operation yields over data, it yields in the model. Over any program.
-/
import Derived.Test.YtkinhajadppfaaaDoorPdC
namespace Go.Pd
open Go
set_option linter.unusedSectionVars false
variable [Tabs]

section inv
variable {M : Nat → Prop} {w : World} {ι : Nat → Nat} {n : Nat} {v : Value}
theorem R.int_inv {k : IntKind} {x : Int} (h : R M w ι n v (.int k x)) : v = .int k x ∧ k.min ≤ x ∧ x ≤ k.max := by
  cases h with | pure h => cases h with | int h => exact ⟨rfl, h⟩
theorem R.bool_inv {b : Bool} (h : R M w ι n v (.bool b)) : v = .bool b := by
  cases h with | pure h => cases h; rfl
theorem R.nils_inv (h : R M w ι n v .nils) : v = .slice none 0 0 := by
  cases h with | pure h => cases h; rfl
theorem R.emp_inv (h : R M w ι n v .emp) : ∃ a cap, v = .slice (some a) 0 cap := by
  cases h with | pure h => cases h; exact ⟨_, _, rfl⟩
theorem R.und_inv (h : R M w ι n v .und) : v = undef := by
  cases h with | pure h => cases h; rfl
theorem R.ref_inv {key sz i off : Nat} (h : R M w ι n v (.ref key sz i off)) : v = .pointer (some ⟨ι key, i * sz + off, none⟩) ∧ key < n := by
  cases h with
  | pure h => cases h
  | ref hk => exact ⟨rfl, hk⟩
theorem R.osl_inv {key sz len : Nat} (h : R M w ι n v (.osl key sz len)) :
    ∃ (cap : Nat) (cur : Array Value) (e : TypeId), v = .slice (some ⟨ι key, 0, none⟩) len cap ∧ key < n ∧ len ≤ cap ∧ cap ≤ maxLen ∧ w.heap[ι key]? = some (Obj.cells cur e (0, 0)) ∧ cap * sz = cur.size := by
  cases h with
  | pure h => cases h
  | osl hk h1 h2 h3 h4 => exact ⟨_, _, _, rfl, hk, h1, h2, h3, h4⟩
theorem R.ptr_inv {cs : List D} (h : R M w ι n v (.ptr cs)) : ∃ (b off : Nat) (vs : Nat → Value), v = .pointer (some ⟨b, off, none⟩) ∧ 0 < cs.length ∧ ¬ M b ∧ (∀ j, j < cs.length → w.cell? ⟨b, off + j, none⟩ = some (vs j)) ∧ ∀ j, j < cs.length → RP M w (vs j) (cs.getD j .top) := by
  cases h with | pure h => cases h with | ptr vs hs hM hc hr => exact ⟨_, _, vs, rfl, hs, hM, hc, hr⟩
theorem R.sl_inv {sz : Nat} {els : List (List D)} (h : R M w ι n v (.sl sz els)) :
    (∃ a cap, v = .slice a 0 cap ∧ els = [] ∧ (a = none → cap = 0)) ∨ ∃ (b off cap : Nat) (vs : Nat → Nat → Value), v = .slice (some ⟨b, off, none⟩) els.length cap ∧ 0 < sz ∧ ¬ M b ∧ els.length ≤ cap ∧ cap ≤ maxLen ∧ (∀ e ∈ els, e.length = sz) ∧
      (∀ i, i < els.length → ∀ j, j < sz → w.cell? ⟨b, off + i * sz + j, none⟩ = some (vs i j)) ∧ ∀ i, i < els.length → ∀ j, j < sz → RP M w (vs i j) ((els.getD i []).getD j .top) := by
  cases h with
  | pure h =>
    cases h with
    | sl0 a cap sz h => exact .inl ⟨a, cap, rfl, rfl, h⟩
    | sl vs hs hM hc hm hl hcell hr => exact .inr ⟨_, _, _, vs, rfl, hs, hM, hc, hm, hl, hcell, hr⟩
theorem R.agg_inv {cs : List D} (h : R M w ι n v (.agg cs)) : ∃ vs : Array Value, v = .agg vs ∧ vs.size = cs.length ∧ ∀ j, j < cs.length → R M w ι n (vs.getD j undef) (cs.getD j .top) := by
  cases h with
  | pure h => cases h with | agg hl hr => exact ⟨_, rfl, hl, fun j hj => .pure (hr j hj)⟩
  | agg hl hr => exact ⟨_, rfl, hl, hr⟩
theorem R.tup_inv {cs : List D} (h : R M w ι n v (.tup cs)) : ∃ vs : Array Value, v = .tuple vs ∧ vs.size = cs.length ∧ ∀ j, j < cs.length → R M w ι n (vs.getD j undef) (cs.getD j .top) := by
  cases h with
  | pure h => cases h with | tup hl hr => exact ⟨_, rfl, hl, fun j hj => .pure (hr j hj)⟩
  | tup hl hr => exact ⟨_, rfl, hl, hr⟩
theorem R.fn_inv {f : FuncId} {cs : List D} (h : R M w ι n v (.fn f cs)) : ∃ vs : Array Value, v = .func (.func f) #[] vs ∧ vs.size = cs.length ∧ ∀ j, j < cs.length → R M w ι n (vs.getD j undef) (cs.getD j .top) := by
  cases h with
  | pure h => cases h with | fn hl hr => exact ⟨_, rfl, hl, fun j hj => .pure (hr j hj)⟩
  | fn hl hr => exact ⟨_, rfl, hl, hr⟩
end inv

/-! ### Wraps stay in range -/
theorem wrap_range (k : IntKind) (x : Int) : k.min ≤ k.wrap x ∧ k.wrap x ≤ k.max := by
  cases k <;> simp [IntKind.min, IntKind.max, IntKind.wrap, IntKind.signed, IntKind.bits] <;> (try split) <;> omega

theorem RP.wrap {M : Nat → Prop} {w : World} (k : IntKind) (x : Int) : RP M w (.int k (k.wrap x)) (.int k (k.wrap x)) := .int (wrap_range k x)

theorem fdiv_range {k : IntKind} {x : Int} (h : k.min ≤ x ∧ x ≤ k.max) (m : Nat) : k.min ≤ x.fdiv (2 ^ m) ∧ x.fdiv (2 ^ m) ≤ k.max := by
  have h2 : (0 : Int) < 2 ^ m := Int.pow_pos (by decide)
  have e : x.fdiv (2 ^ m) = x / 2 ^ m := Int.fdiv_eq_ediv_of_nonneg _ (Int.le_of_lt h2)
  rw [e]
  have hle : ∀ y : Int, 0 ≤ y → y / 2 ^ m ≤ y := fun y hy => Int.ediv_le_self _ hy
  have h1 : (1 : Int) ≤ 2 ^ m := h2
  constructor
  · by_cases hx : 0 ≤ x
    · have := Int.ediv_nonneg hx (Int.le_of_lt h2)
      have hm : k.min ≤ 0 := by cases k <;> decide
      omega
    · have : x ≤ x / 2 ^ m := by
        refine (Int.le_ediv_iff_mul_le h2).2 ?_
        have := Int.mul_le_mul_of_nonpos_left (show x ≤ 0 by omega) h1
        omega
      omega
  · by_cases hx : 0 ≤ x
    · have := hle x hx; omega
    · have : x / 2 ^ m < 0 := Int.ediv_neg_of_neg_of_pos (by omega) h2
      have hm : 0 ≤ k.max := by cases k <;> decide
      omega

theorem tmod_range {k : IntKind} {x y : Int} (h : k.min ≤ x ∧ x ≤ k.max) : k.min ≤ x.tmod y ∧ x.tmod y ≤ k.max := by
  have hm : k.min ≤ 0 := by cases k <;> decide
  have hM : 0 ≤ k.max := by cases k <;> decide
  rcases Int.le_total 0 x with hx | hx
  · have h1 := Int.tmod_nonneg y hx
    have h2 : x.tmod y ≤ x := by
      have := Int.natAbs_tmod x y
      have h3 := Nat.mod_le x.natAbs y.natAbs
      omega
    omega
  · have h1 : x.tmod y ≤ 0 := by
      have := Int.tmod_nonneg (a := -x) y (by omega)
      rw [Int.neg_tmod] at this
      omega
    have h2 : x ≤ x.tmod y := by
      have := Int.natAbs_tmod x y
      have h3 := Nat.mod_le x.natAbs y.natAbs
      omega
    omega

/-! ### Operands -/
theorem RP_leaf {M : Nat → Prop} {w : World} {v : Value} {d : D} (h : D.leaf v = some d) : RP M w v d := by
  unfold D.leaf at h
  split at h <;> simp at h <;> (try subst h) <;> try constructor
  obtain ⟨h1, rfl⟩ := h
  exact .int h1

theorem getD_toList {vs : Array Value} {j : Nat} {v : Value} (h : vs.toList[j]? = some v) : vs.getD j undef = v := by
  have h' : vs[j]? = some v := by simpa using h
  simp [h']

theorem RP_ofValue {M : Nat → Prop} {w : World} {v : Value} {d : D} (h : D.ofValue v = some d) : RP M w v d := by
  unfold D.ofValue at h
  split at h
  · rename_i cs
    simp at h
    obtain ⟨ds, h1, rfl⟩ := h
    obtain ⟨hl, hg⟩ := mapO_spec h1
    refine .agg (by simpa using hl.symm) fun j hj => ?_
    have hj' : j < cs.toList.length := by omega
    obtain ⟨b, hb, hf⟩ := hg j _ (List.getElem?_eq_getElem hj')
    have e1 : ds.getD j .top = b := by simp [List.getD, hb]
    rw [e1, getD_toList (List.getElem?_eq_getElem hj')]
    exact RP_leaf hf
  · exact RP_leaf h

theorem evO_sound {M : Nat → Prop} {w : World} {ι : Nat → Nat} {n N : Nat} {a : Act} {f : Fr} (hf : FrR M w ι n a.tmps f) {x : Operand} {y : Opd} (h : mkOpd N x = some y) : R M w ι n (a.eval x) (evO f y) := by
  cases x with
  | tmp t =>
    simp [mkOpd] at h
    obtain ⟨_, rfl⟩ := h
    exact hf t
  | const v =>
    simp [mkOpd] at h
    obtain ⟨d, hd, rfl⟩ := h
    exact .pure (RP_ofValue hd)
  | func f =>
    simp [mkOpd] at h
    subst h
    exact .pure (.fn (by simp) (by simp))
  | global g => simp [mkOpd] at h
end Go.Pd
