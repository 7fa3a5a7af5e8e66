/-
  PURE DATA, part F: literals in the model. Over any program.
-/
import Derived.Test.YtkinhajadppfaaaDoorPdE
import Derived.Laws.Tables
import Derived.Great.BuildSlice
namespace Go.Pd
open Go
set_option linter.unusedSectionVars false
variable [Tabs]
set_option linter.unusedSimpArgs false
set_option linter.unusedVariables false

theorem isPureL_get : ∀ {cs : List D} (_ : D.isPureL cs = true) (j : Nat), (cs.getD j .top).isPure = true
  | [], _, j => by simp [D.isPure]
  | d :: r, h, j => by
    simp only [D.isPureL, Bool.and_eq_true] at h
    cases j with
    | zero => simpa using h.1
    | succ j => simpa using isPureL_get h.2 j

theorem R.toRP {M : Nat → Prop} {w : World} {ι : Nat → Nat} {n : Nat} {v : Value} {d : D} (h : R M w ι n v d) (hp : d.isPure = true) : RP M w v d := by
  induction h with
  | pure h => exact h
  | ref _ => simp [D.isPure] at hp
  | osl _ _ _ _ _ => simp [D.isPure] at hp
  | mref _ => simp [D.isPure] at hp
  | agg hl hr ih => simp only [D.isPure] at hp; exact .agg hl fun j hj => ih j hj (isPureL_get hp j)
  | tup hl hr ih => simp only [D.isPure] at hp; exact .tup hl fun j hj => ih j hj (isPureL_get hp j)
  | fn hl hr ih => simp only [D.isPure] at hp; exact .fn hl fun j hj => ih j hj (isPureL_get hp j)

/-! ### Cells put into a row -/
def putA (cells : Array Value) (off : Nat) : List Value → Array Value
  | [] => cells
  | v :: r => putA (cells.setIfInBounds off v) (off + 1) r

theorem putA_size : ∀ (vs : List Value) (cells : Array Value) (off : Nat), (putA cells off vs).size = cells.size
  | [], _, _ => rfl
  | v :: r, cells, off => by simp [putA, putA_size r]

theorem putA_get : ∀ (vs : List Value) (cells : Array Value) (off j : Nat), off + vs.length ≤ cells.size → (putA cells off vs).getD j undef = if off ≤ j ∧ j < off + vs.length then vs.getD (j - off) undef else cells.getD j undef
  | [], cells, off, j, _ => by simp [putA]; intro h1 h2; omega
  | v :: r, cells, off, j, h => by
    simp only [List.length_cons] at h
    rw [putA, putA_get r _ _ _ (by simp; omega)]
    by_cases h1 : j = off
    · subst h1
      have : j < cells.size := by omega
      simp [this]
      intro h1 h2; omega
    · by_cases h2 : off + 1 ≤ j ∧ j < off + 1 + r.length
      · have h3 : off ≤ j ∧ j < off + (r.length + 1) := by omega
        have h4 : j - off = (j - (off + 1)) + 1 := by omega
        simp [h2, h3, h4]
      · have h3 : ¬ (off ≤ j ∧ j < off + (r.length + 1)) := by omega
        rw [if_neg h2, if_neg (by simpa using h3)]
        have hne : off ≠ j := fun e => h1 e.symm
        simp [Array.getElem?_setIfInBounds_ne hne]

theorem foldl_putA : ∀ (vs : List Value) (cells : Array Value) (off k : Nat), (vs.zipIdx k).foldl (fun cs (x : Value × Nat) => cs.setIfInBounds (off + x.2) x.1) cells = putA cells (off + k) vs
  | [], _, _, _ => rfl
  | v :: r, cells, off, k => by
    simp only [List.zipIdx_cons, List.foldl_cons, putA]
    rw [foldl_putA r _ off (k + 1)]
    rfl

theorem setD_len : ∀ (ds cs : List D) (o : Nat), (setD cs o ds).length = cs.length
  | [], _, _ => rfl
  | d :: r, cs, o => by simp [setD, setD_len r]

theorem setD_get : ∀ (ds cs : List D) (o j : Nat), o + ds.length ≤ cs.length → (setD cs o ds).getD j .top = if o ≤ j ∧ j < o + ds.length then ds.getD (j - o) .top else cs.getD j .top
  | [], cs, o, j, _ => by simp [setD]; intro h1 h2; omega
  | d :: r, cs, o, j, h => by
    simp only [List.length_cons] at h
    rw [setD, setD_get r _ _ _ (by simp; omega)]
    by_cases h1 : j = o
    · subst h1
      have : j < cs.length := by omega
      simp [this]
      intro h1 h2; omega
    · by_cases h2 : o + 1 ≤ j ∧ j < o + 1 + r.length
      · have h3 : o ≤ j ∧ j < o + (r.length + 1) := by omega
        have h4 : j - o = (j - (o + 1)) + 1 := by omega
        simp [h2, h3, h4]
      · have h3 : ¬ (o ≤ j ∧ j < o + (r.length + 1)) := by omega
        rw [if_neg h2, if_neg (by simpa using h3)]
        have hne : o ≠ j := fun e => h1 e.symm
        simp [List.getElem?_set_ne hne]

section
variable {M : Nat → Prop} {w : World} {ι : Nat → Nat} {n : Nat}

/-- A row of cells over data. -/
def CRel (M : Nat → Prop) (w : World) (ι : Nat → Nat) (n : Nat) (cs : Array Value) (ds : List D) : Prop := cs.size = ds.length ∧ ∀ j, j < ds.length → R M w ι n (cs.getD j undef) (ds.getD j .top)

theorem cells_rel {v : Value} {d : D} (h : R M w ι n v d) {ds : List D} (hd : d.cells = some ds) : CRel M w ι n v.cells ds := by
  have lone : ∀ v' : Value, (∀ cs, v' ≠ .agg cs) → v'.cells = #[v'] := by intro v' hv; cases v' <;> first | rfl | exact absurd rfl (hv _)
  have one : ∀ v' d', R M w ι n v' d' → (∀ cs, v' ≠ .agg cs) → CRel M w ι n v'.cells [d'] := by
    intro v' d' hr hv
    rw [lone v' hv]
    refine ⟨rfl, fun j hj => ?_⟩
    have : j = 0 := by simp at hj; exact hj
    subst this
    exact hr
  have hh := h
  cases d <;> simp [D.cells] at hd <;> subst hd
  case agg cs =>
    obtain ⟨vs, rfl, h1, h2⟩ := h.agg_inv
    exact ⟨h1, h2⟩
  all_goals
    refine one _ _ hh fun cs e => ?_
    subst e
    cases h with
    | pure h => cases h

theorem one_rel {v : Value} {d : D} (h : R M w ι n v d) (hd : d.one = true) : v.oneCell' = true := by
  cases h with
  | pure h => cases h <;> simp [D.one] at hd <;> rfl
  | ref _ => rfl
  | osl _ _ _ _ _ => rfl
  | mref _ => rfl
  | agg _ _ => simp [D.one] at hd
  | tup _ _ => simp [D.one] at hd
  | fn _ _ => rfl

theorem CRel.put {cs vs : Array Value} {ds es : List D} {o : Nat} (h : CRel M w ι n cs ds) (h' : CRel M w ι n vs es) (ho : o + es.length ≤ ds.length) : CRel M w ι n (putA cs o vs.toList) (setD ds o es) := by
  obtain ⟨h1, h2⟩ := h
  obtain ⟨h3, h4⟩ := h'
  refine ⟨by rw [putA_size, setD_len, h1], fun j hj => ?_⟩
  rw [setD_len] at hj
  rw [putA_get _ _ _ _ (by simp; omega), setD_get _ _ _ _ ho]
  simp only [Array.length_toList, h3]
  split
  · rename_i hj'
    have := h4 (j - o) (by omega)
    simpa using this
  · exact h2 j hj

/-- The parts of a literal. -/
def Par (M : Nat → Prop) (w : World) (ι : Nat → Nat) (n : Nat) (place : Nat → Option (Nat × Nat)) : List (Nat × Value) → List (Nat × Nat × D) → Prop
  | [], [] => True
  | p :: ps, q :: qs => place p.1 = some (q.1, q.2.1) ∧ R M w ι n p.2 q.2.2 ∧ Par M w ι n place ps qs
  | _, _ => False

theorem fill_rel (place : Nat → Option (Nat × Nat)) : ∀ (ps : List (Nat × Value)) (qs : List (Nat × Nat × D)) (cs : Array Value) (ds ds' : List D), CRel M w ι n cs ds → Par M w ι n place ps qs → fillD ds qs = some ds' →
    ∃ cs', Instr.fill place cs ps = some cs' ∧ CRel M w ι n cs' ds'
  | [], [], cs, ds, ds', h, _, hf => by simp [fillD] at hf; subst hf; exact ⟨cs, rfl, h⟩
  | [], q :: qs, _, _, _, _, hp, _ => hp.elim
  | p :: ps, [], _, _, _, _, hp, _ => hp.elim
  | (i, v) :: ps, (o, s, d) :: qs, cs, ds, ds', h, ⟨h1, h2, h3⟩, hf => by
    simp only [fillD] at hf
    cases hd : d.cells with
    | none => simp [hd] at hf
    | some es =>
      simp only [hd] at hf
      split at hf
      · rename_i hc
        obtain ⟨hc1, hc2⟩ := hc
        have hv := cells_rel h2 hd
        have h4 : ¬ (v.cells.size ≠ s ∨ o + v.cells.size > cs.size) := by rw [hv.1, h.1]; omega
        simp only at h1
        have e : v.cells.zipIdx.foldl (fun cs (x : Value × Nat) => cs.setIfInBounds (o + x.2) x.1) cs = putA cs o v.cells.toList := by
          rw [← Array.foldl_toList]
          have := foldl_putA v.cells.toList cs o 0
          simpa using this
        obtain ⟨cs', hf', hr'⟩ := fill_rel place ps qs (putA cs o v.cells.toList) _ ds' (h.put hv (by rw [hc1]; exact hc2)) h3 hf
        refine ⟨cs', ?_, hr'⟩
        have h5 : v.cells.size = s := by rw [hv.1]; exact hc1
        have h6 : o + s ≤ cs.size := by rw [h.1]; exact hc2
        simp only [Instr.fill, h1]
        rw [if_neg (by simp [h5]; omega)]
        rw [← hf', ← e]
      · simp at hf

/-- Rows of cells over data. -/
def ERel (M : Nat → Prop) (w : World) (ι : Nat → Nat) (n sz : Nat) (cs : Array Value) (es : List (List D)) : Prop :=
  cs.size = es.length * sz ∧ (∀ e ∈ es, e.length = sz) ∧ ∀ i, i < es.length → ∀ j, j < sz → R M w ι n (cs.getD (i * sz + j) undef) ((es.getD i []).getD j .top)

theorem lin_lt {i j sz m : Nat} (hi : i < m) (hj : j < sz) : i * sz + j < m * sz := by
  have : (i + 1) * sz ≤ m * sz := Nat.mul_le_mul_right _ hi
  rw [Nat.add_mul] at this
  omega
theorem lin_inj {i i' j sz : Nat} (hj : j < sz) (h1 : i * sz ≤ i' * sz + j) (h2 : i' * sz + j < i * sz + sz) : i' = i := by
  have h0 : 0 < sz := by omega
  rcases Nat.lt_trichotomy i' i with h | h | h
  · have : (i' + 1) * sz ≤ i * sz := Nat.mul_le_mul_right _ h
    rw [Nat.add_mul] at this
    omega
  · exact h
  · have : (i + 1) * sz ≤ i' * sz := Nat.mul_le_mul_right _ h
    rw [Nat.add_mul] at this
    omega

theorem ERel.put {sz : Nat} {cs vs : Array Value} {es : List (List D)} {ds : List D} {i : Nat} (h : ERel M w ι n sz cs es) (h' : CRel M w ι n vs ds) (hl : ds.length = sz) (hi : i < es.length) :
    ERel M w ι n sz (putA cs (i * sz) vs.toList) (es.set i ds) := by
  obtain ⟨h1, h2, h3⟩ := h
  obtain ⟨h4, h5⟩ := h'
  have hb : i * sz + sz ≤ cs.size := by
    rw [h1]
    have : (i + 1) * sz ≤ es.length * sz := Nat.mul_le_mul_right _ hi
    rw [Nat.add_mul] at this
    omega
  refine ⟨by rw [putA_size, h1]; simp, fun e he => ?_, fun i' hi' j hj => ?_⟩
  · rcases List.mem_or_eq_of_mem_set he with h | rfl
    · exact h2 e h
    · exact hl
  · simp only [List.length_set] at hi'
    rw [putA_get _ _ _ _ (by simp; omega)]
    simp only [Array.length_toList, h4, hl]
    by_cases hc : i' = i
    · subst hc
      rw [if_pos (by omega)]
      have e1 : (es.set i' ds).getD i' [] = ds := by simp [List.getD, hi']
      rw [e1]
      have := h5 j (by omega)
      have e2 : i' * sz + j - i' * sz = j := by omega
      simpa [e2] using this
    · rw [if_neg (by intro hh; exact hc (lin_inj hj hh.1 hh.2))]
      have e1 : (es.set i ds).getD i' [] = es.getD i' [] := by simp [List.getD, List.getElem?_set_ne (fun e => hc e.symm)]
      rw [e1]
      exact h3 i' hi' j hj

def ParE (M : Nat → Prop) (w : World) (ι : Nat → Nat) (n : Nat) : List (Nat × Value) → List (Nat × D) → Prop
  | [], [] => True
  | p :: ps, q :: qs => p.1 = q.1 ∧ R M w ι n p.2 q.2 ∧ ParE M w ι n ps qs
  | _, _ => False

theorem fillE_rel (sz : Nat) : ∀ (ps : List (Nat × Value)) (qs : List (Nat × D)) (cs : Array Value) (es es' : List (List D)), ERel M w ι n sz cs es → ParE M w ι n ps qs → fillE sz es qs = some es' →
    ∃ cs', Instr.fill (fun i => some (i * sz, sz)) cs ps = some cs' ∧ ERel M w ι n sz cs' es' ∧ es'.length = es.length
  | [], [], cs, es, es', h, _, hf => by simp [fillE] at hf; subst hf; exact ⟨cs, rfl, h, rfl⟩
  | [], q :: qs, _, _, _, _, hp, _ => hp.elim
  | p :: ps, [], _, _, _, _, hp, _ => hp.elim
  | (i, v) :: ps, (i', d) :: qs, cs, es, es', h, ⟨h1, h2, h3⟩, hf => by
    simp only at h1 h2
    subst h1
    simp only [fillE] at hf
    cases hd : d.cells with
    | none => simp [hd] at hf
    | some ds =>
      simp only [hd] at hf
      split at hf
      · rename_i hc
        obtain ⟨hc1, hc2⟩ := hc
        have hv := cells_rel h2 hd
        have hb : i * sz + sz ≤ cs.size := by
          rw [h.1]
          have : (i + 1) * sz ≤ es.length * sz := Nat.mul_le_mul_right _ hc2
          rw [Nat.add_mul] at this
          omega
        have e : v.cells.zipIdx.foldl (fun cs (x : Value × Nat) => cs.setIfInBounds (i * sz + x.2) x.1) cs = putA cs (i * sz) v.cells.toList := by
          rw [← Array.foldl_toList]
          have := foldl_putA v.cells.toList cs (i * sz) 0
          simpa using this
        obtain ⟨cs', hf', hr', hl'⟩ := fillE_rel sz ps qs (putA cs (i * sz) v.cells.toList) _ es' (h.put hv hc1 hc2) h3 hf
        refine ⟨cs', ?_, hr', by simpa using hl'⟩
        have h5 : v.cells.size = sz := by rw [hv.1]; exact hc1
        simp only [Instr.fill]
        rw [if_neg (by simp [h5]; omega)]
        rw [← hf', ← e]
      · simp at hf

/-- The zero row. -/
theorem zero_rel {z : Array Value} {ds : List D} (h : mapO D.leaf z.toList = some ds) {sz : Nat} (hs : ds.length = sz) (len : Nat) :
    ERel M w ι n sz ((Array.range (len * sz)).map (z[· % z.size]!)) (List.replicate len ds) := by
  obtain ⟨hl, hg⟩ := mapO_spec h
  have hz : z.size = sz := by rw [← hs, hl]; simp
  refine ⟨by simp, fun e he => by rw [List.eq_of_mem_replicate he]; exact hs, fun i hi j hj => ?_⟩
  simp only [List.length_replicate] at hi
  have hlt := lin_lt hi hj
  have e1 : (List.replicate len ds).getD i [] = ds := by simp [List.getD, hi]
  have e2 : (i * sz + j) % z.size = j := by rw [hz, Nat.mul_comm, Nat.mul_add_mod]; exact Nat.mod_eq_of_lt hj
  have hj' : j < z.size := by omega
  have e3 : ((Array.range (len * sz)).map (z[· % z.size]!)).getD (i * sz + j) undef = z[j] := by
    simp [hlt, e2, hj']
  rw [e1, e3]
  obtain ⟨b, hb, hf⟩ := hg j z[j] (by simp [hj'])
  have e4 : ds.getD j .top = b := by simp [List.getD, hb]
  rw [e4]
  exact .pure (RP_leaf hf)
end
end Go.Pd
