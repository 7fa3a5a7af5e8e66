/- Package model: the law ModelParts. -/
import Derived.Test.YtkinhajadppfaaaDoorLb
set_option linter.unusedSectionVars false
set_option linter.unusedVariables false
set_option linter.unusedSimpArgs false
set_option linter.defProp false
set_option maxRecDepth 20000
namespace Go.Pd
open Go Go.Proofs
def shL (A B : Nat) : List Int := (List.range B).map fun i => ((A + i : Nat) : Int)
theorem shL_len (A B : Nat) : (shL A B).length = B := by simp [shL]
theorem shL_at {A B i : Nat} (h : i < B) : (shL A B).getD i 0 = ((A + i : Nat) : Int) := getD_range_map _ _ _ _ h
theorem idL_rising (n : Nat) : rising (idL n) := List.Pairwise.map _ (fun _ _ h => Int.ofNat_lt.2 h) List.pairwise_lt_range
theorem shL_rising (A B : Nat) : rising (shL A B) := List.Pairwise.map _ (fun _ _ h => Int.ofNat_lt.2 (Nat.add_lt_add_left h A)) List.pairwise_lt_range
def rightS (A B : Nat) : BitVec 64 := allS ((A : Int) + (B : Int)) &&& ~~~(allS (A : Int))
theorem rightS_bit {A B i : Nat} (h : A + B ≤ 64) : (rightS A B).getLsbD i = true ↔ A ≤ i ∧ i < A + B := by
  unfold rightS
  rw [BitVec.getLsbD_and, BitVec.getLsbD_not, allS_bit, allS_bit]
  simp
  omega
theorem leftS_bit {A i : Nat} (h : A ≤ 64) : (allS (A : Int)).getLsbD i = true ↔ i < A := by
  rw [allS_bit]
  simp
  omega
theorem mems_left {A : Nat} (h : A ≤ 64) : mems (allS (A : Int)) = idL A := by
  refine rising_eq (mems_rising _) (idL_rising A) fun x => ?_
  rw [mems_mem]
  simp only [idL, List.mem_map, List.mem_range]
  constructor
  · rintro ⟨i, _, hb, rfl⟩
    exact ⟨i, (leftS_bit h).1 hb, rfl⟩
  · rintro ⟨i, hi, rfl⟩
    exact ⟨i, by omega, (leftS_bit h).2 hi, rfl⟩
theorem mems_right {A B : Nat} (h : A + B ≤ 64) : mems (rightS A B) = shL A B := by
  refine rising_eq (mems_rising _) (shL_rising A B) fun x => ?_
  rw [mems_mem]
  simp only [shL, List.mem_map, List.mem_range]
  constructor
  · rintro ⟨i, _, hb, rfl⟩
    have := (rightS_bit h).1 hb
    exact ⟨i - A, by omega, by omega⟩
  · rintro ⟨i, hi, rfl⟩
    exact ⟨A + i, by omega, (rightS_bit h).2 ⟨by omega, by omega⟩, rfl⟩
theorem bsub_lt {A i : Nat} {s : BitVec 64} (h : bsub s (allS (A : Int))) (hi : s.getLsbD i = true) : i < A := by
  have := h i hi
  rw [allS_bit] at this
  simp at this
  omega
theorem pull_left {A : Nat} {s t : BitVec 64} (hs : bsub s (allS (A : Int))) : pullS (s ||| t <<< A) (idL A) = s := by
  apply BitVec.eq_of_getLsbD_eq
  intro i h64
  rw [pullS_bit, idL_len]
  by_cases hi : i < A
  · rw [idL_at hi, hasS_nat, BitVec.getLsbD_or, BitVec.getLsbD_shiftLeft]
    simp [h64, hi]
  · cases e : s.getLsbD i with
    | false => simp [hi]
    | true => exact absurd (bsub_lt hs e) hi
theorem pull_right {A B : Nat} {s t : BitVec 64} (h : A + B ≤ 64) (hs : bsub s (allS (A : Int))) (ht : bsub t (allS (B : Int))) : pullS (s ||| t <<< A) (shL A B) = t := by
  apply BitVec.eq_of_getLsbD_eq
  intro i h64
  rw [pullS_bit, shL_len]
  by_cases hi : i < B
  · rw [shL_at hi, hasS_nat, BitVec.getLsbD_or, BitVec.getLsbD_shiftLeft]
    have h1 : A + i < 64 := by omega
    have h2 : s.getLsbD (A + i) = false := by
      cases e : s.getLsbD (A + i) with
      | false => rfl
      | true => have := bsub_lt hs e; omega
    have h3 : A + i - A = i := by omega
    rw [h2, h3]
    simp [h64, hi, h1]
  · cases e : t.getLsbD i with
    | false => simp [hi]
    | true => exact absurd (bsub_lt ht e) hi
theorem bsub_zero (t : BitVec 64) : bsub 0#64 t := by intro i hi; simp at hi
theorem getD_ext {α : Type} {l k : List α} (d : α) (hl : l.length = k.length) (h : ∀ i, i < l.length → l.getD i d = k.getD i d) : l = k := by
  refine List.ext_getElem hl fun i h1 h2 => ?_
  have := h i h1
  simpa only [List.getD, List.getElem?_eq_getElem h1, List.getElem?_eq_getElem h2, Option.getD_some] using this
section
variable {a b : Mod} {A B : Nat} (ha : a.check = 0) (hb : b.check = 0) (hA : a.W = (A : Int)) (hB : b.W = (B : Int)) (hR : a.R.length = b.R.length) (hV : a.V.length = b.V.length) (h64 : A + B ≤ 64)
def unM (a b : Mod) : Mod := ⟨a.W + b.W, (List.range a.V.length).map (unV a b), (List.range a.R.length).map (unR a b)⟩
include ha hA in
theorem aV {i : Nat} (h : i < a.V.length) : bsub (a.V.getD i 0) (allS (A : Int)) := by
  obtain ⟨c1, c2, c3, c4, c5, c6, c7⟩ := Mod.check_zero ha
  rw [← hA]; exact outS_sub c6 (getD_mem 0 h)
include ha hA in
theorem aR {i : Nat} (h : i < a.R.length) : (a.R.getD i []).length = A ∧ ∀ w, bsub ((a.R.getD i []).getD w 0) (allS (A : Int)) := by
  obtain ⟨c1, c2, c3, c4, c5, c6, c7⟩ := Mod.check_zero ha
  have hm := getD_mem (l := a.R) [] h
  have hl := c5 _ hm
  refine ⟨by omega, fun w => ?_⟩
  by_cases hw : w < (a.R.getD i []).length
  · rw [← hA]; exact outS_sub (c7 _ hm) (getD_mem 0 hw)
  · have : (a.R.getD i []).getD w 0 = 0#64 := by
      simp only [List.getD] at hw ⊢
      rw [List.getElem?_eq_none (by omega)]; rfl
    rw [this]; exact bsub_zero _
include hA in
theorem unR_left {i w : Nat} (hl : (a.R.getD i []).length = A) (hw : w < A) : (unR a b i).getD w 0 = (a.R.getD i []).getD w 0 := by
  unfold unR
  generalize a.R.getD i [] = r at *
  simp only [List.getD]
  rw [List.getElem?_append_left (by omega)]
include hA in
theorem unR_right {i w : Nat} (hl : (a.R.getD i []).length = A) (hw : w < (b.R.getD i []).length) : (unR a b i).getD (A + w) 0 = (b.R.getD i []).getD w 0 <<< A := by
  unfold unR
  have e : a.W.toNat = A := by omega
  rw [e]
  generalize a.R.getD i [] = r at *
  generalize b.R.getD i [] = q at *
  simp only [List.getD]
  rw [List.getElem?_append_right (by omega)]
  have : A + w - r.length = w := by omega
  rw [this]
  simp [hw]
include ha hb hA hB hV hR h64 in
theorem unM_left : (unM a b).take (idL A) = a := by
  have e : a.W.toNat = A := by omega
  obtain ⟨W, V, R⟩ := a
  unfold Mod.take unM
  simp only [idL_len, List.map_map] at *
  refine Mod.mk.injEq .. |>.mpr ⟨hA.symm, ?_, ?_⟩
  · refine getD_ext 0 (by simp) fun i hi => ?_
    have hi' : i < V.length := by simpa using hi
    rw [getD_range_map _ _ _ _ hi']
    simp only [Function.comp, unV, e]
    exact pull_left (aV ha hA hi')
  · refine getD_ext [] (by simp) fun i hi => ?_
    have hi' : i < R.length := by simpa using hi
    rw [getD_range_map _ _ _ _ hi']
    simp only [Function.comp]
    obtain ⟨r1, r2⟩ := aR ha hA hi'
    refine getD_ext 0 (by simp only [rowOf, List.length_map, idL_len]; exact r1.symm) fun w hw => ?_
    have hw' : w < A := by simpa [rowOf, idL] using hw
    rw [row_at (by rw [idL_len]; exact hw'), idL_at hw', Int.toNat_natCast, unR_left hA r1 hw']
    exact pull_id (r2 w)
include ha hb hA hB hV hR h64 in
theorem unM_right : (unM a b).take (shL A B) = b := by
  have e : a.W.toNat = A := by omega
  obtain ⟨W, V, R⟩ := b
  unfold Mod.take unM
  simp only [shL_len, List.map_map] at *
  refine Mod.mk.injEq .. |>.mpr ⟨hB.symm, ?_, ?_⟩
  · refine getD_ext 0 (by simp [hV]) fun i hi => ?_
    have hi' : i < a.V.length := by simpa using hi
    rw [getD_range_map _ _ _ _ hi']
    simp only [Function.comp, unV, e]
    exact pull_right h64 (aV ha hA hi') (aV hb hB (by simp only; omega))
  · refine getD_ext [] (by simp [hR]) fun i hi => ?_
    have hi' : i < a.R.length := by simpa using hi
    rw [getD_range_map _ _ _ _ hi']
    simp only [Function.comp]
    obtain ⟨r1, r2⟩ := aR ha hA hi'
    obtain ⟨q1, q2⟩ := aR hb hB (i := i) (by simp only; omega)
    simp only at q1 q2
    refine getD_ext 0 (by simp only [rowOf, List.length_map, shL_len]; exact q1.symm) fun w hw => ?_
    have hw' : w < B := by simpa [rowOf, shL] using hw
    rw [row_at (by rw [shL_len]; exact hw'), shL_at hw', Int.toNat_natCast, unR_right hA r1 (by simp only; omega)]
    have := pull_right (s := 0#64) h64 (bsub_zero _) (q2 w)
    rw [BitVec.zero_or] at this
    exact this
include ha hb hA hB hV hR h64 in
theorem unM_check : (unM a b).check = 0 := by
  obtain ⟨c1, c2, c3, c4, c5, c6, c7⟩ := Mod.check_zero ha
  obtain ⟨d1, d2, d3, d4, d5, d6, d7⟩ := Mod.check_zero hb
  have e : a.W.toNat = A := by omega
  have eW : (unM a b).W = ((A + B : Nat) : Int) := by show a.W + b.W = _; omega
  have shl : ∀ t : BitVec 64, bsub t (allS (B : Int)) → bsub (t <<< A) (allS ((A + B : Nat) : Int)) := by
    intro t ht i hi
    rw [BitVec.getLsbD_shiftLeft] at hi
    simp at hi
    have := bsub_lt ht hi.2
    exact (leftS_bit h64).2 (by omega)
  have up : ∀ s : BitVec 64, bsub s (allS (A : Int)) → bsub s (allS ((A + B : Nat) : Int)) := fun s hs i hi => (leftS_bit h64).2 (by have := bsub_lt hs hi; omega)
  refine check_mk (by rw [eW]; omega) (by rw [eW]; omega) (by simpa [unM] using c3) (by simpa [unM] using c4) ?_ ?_ ?_
  · intro r hr
    simp only [unM, List.mem_map, List.mem_range] at hr
    obtain ⟨i, hi, rfl⟩ := hr
    obtain ⟨r1, _⟩ := aR ha hA hi
    obtain ⟨q1, _⟩ := aR hb hB (i := i) (by omega)
    rw [eW]
    simp only [unR, List.length_append, List.length_map]
    omega
  · intro s hs
    simp only [unM, List.mem_map, List.mem_range] at hs
    obtain ⟨i, hi, rfl⟩ := hs
    rw [eW]
    intro j hj
    unfold unV at hj
    rw [e, BitVec.getLsbD_or, Bool.or_eq_true] at hj
    rcases hj with hj | hj
    · exact up _ (aV ha hA hi) j hj
    · exact shl _ (aV hb hB (by omega)) j hj
  · intro r hr s hs
    simp only [unM, List.mem_map, List.mem_range] at hr
    obtain ⟨i, hi, rfl⟩ := hr
    obtain ⟨r1, r2⟩ := aR ha hA hi
    obtain ⟨q1, q2⟩ := aR hb hB (i := i) (by omega)
    rw [eW]
    unfold unR at hs
    rw [e] at hs
    generalize a.R.getD i [] = r at *
    generalize b.R.getD i [] = q at *
    rcases List.mem_append.1 hs with hs | hs
    · obtain ⟨w, hw, rfl⟩ := List.getElem_of_mem hs
      have := r2 w
      simp only [List.getD, List.getElem?_eq_getElem hw, Option.getD_some] at this
      exact up _ this
    · simp only [List.mem_map] at hs
      obtain ⟨t, ht, rfl⟩ := hs
      obtain ⟨w, hw, rfl⟩ := List.getElem_of_mem ht
      have := q2 w
      simp only [List.getD, List.getElem?_eq_getElem hw, Option.getD_some] at this
      exact shl _ this
include ha hb hA hB hV hR h64 in
theorem unM_gen_left : (unM a b).gen (allS (A : Int)) = allS (A : Int) := by
  have hc := unM_check ha hb hA hB hR hV h64
  have hs : allS (A : Int) &&& ~~~(allS (unM a b).W) = 0#64 := by
    rw [sub_bits]
    intro i hi
    have := (leftS_bit (by omega)).1 hi
    rw [allS_bit]
    show (decide (i < 64) && decide ((i : Int) < a.W + b.W)) = true
    simp
    omega
  refine isGen_unique (gen_isGen hc hs) ⟨bsub_refl _, fun w hw r hr => ?_, fun t h _ => h⟩
  have hw' := (leftS_bit (by omega)).1 hw
  simp only [unM, List.mem_map, List.mem_range] at hr
  obtain ⟨i, hi, rfl⟩ := hr
  obtain ⟨r1, r2⟩ := aR ha hA hi
  rw [unR_left hA r1 hw']
  exact r2 w
include ha hb hA hB hV hR h64 in
theorem unM_gen_right : (unM a b).gen (rightS A B) = rightS A B := by
  have hc := unM_check ha hb hA hB hR hV h64
  have hs : rightS A B &&& ~~~(allS (unM a b).W) = 0#64 := by
    rw [sub_bits]
    intro i hi
    have := (rightS_bit h64).1 hi
    rw [allS_bit]
    show (decide (i < 64) && decide ((i : Int) < a.W + b.W)) = true
    simp
    omega
  refine isGen_unique (gen_isGen hc hs) ⟨bsub_refl _, fun w hw r hr => ?_, fun t h _ => h⟩
  have hw' := (rightS_bit h64).1 hw
  simp only [unM, List.mem_map, List.mem_range] at hr
  obtain ⟨i, hi, rfl⟩ := hr
  obtain ⟨r1, r2⟩ := aR ha hA hi
  obtain ⟨q1, q2⟩ := aR hb hB (i := i) (by omega)
  have ew : w = A + (w - A) := by omega
  rw [ew, unR_right hA r1 (by omega)]
  intro j hj
  rw [BitVec.getLsbD_shiftLeft] at hj
  simp at hj
  have := bsub_lt (q2 (w - A)) hj.2
  exact (rightS_bit h64).2 ⟨by omega, by omega⟩
end

theorem union_cases (a b : Mod) : (a.check = 0 ∧ b.check = 0 ∧ a.R.length = b.R.length ∧ a.V.length = b.V.length ∧ a.W + b.W ≤ 64 ∧ a.union b = (unM a b, 0)) ∨ ∃ e : Int, e ≠ 0 ∧ a.union b = (.nil, e) := by
  unfold Mod.union
  by_cases h1 : a.check = 0
  · rw [if_neg (by omega)]
    by_cases h2 : b.check = 0
    · rw [if_neg (by omega)]
      by_cases h3 : a.R.length ≠ b.R.length ∨ a.V.length ≠ b.V.length
      · rw [if_pos h3]; exact .inr ⟨1, by omega, rfl⟩
      · rw [if_neg h3]
        by_cases h4 : 64 < a.W + b.W
        · rw [if_pos h4]; exact .inr ⟨8, by omega, rfl⟩
        · rw [if_neg h4]
          refine .inl ⟨h1, h2, ?_, ?_, by omega, rfl⟩ <;> omega
    · rw [if_pos h2]; exact .inr ⟨_, h2, rfl⟩
  · rw [if_pos h1]; exact .inr ⟨_, h1, rfl⟩

theorem modelParts_runs (a b : Mod) : Runs Tryd.prog 10 [a.d, b.d] (.bool true) := by
  refine CallT.go_fn mixed Tryd.func10 k10 (by simp) fun hf => ?_
  simp only [Int.reduceToNat, Int.reduceLT, Int.reduceLE, Int.reduceBEq, Int.reduceBNe, St0, argFr, ↓thenW, ↓blockW, ↓opX, ↓opV, ↓pX, ↓pW, ↓putK, ↓putP, ↓atK, ↓normK, ↓postZ, evO, Fr.get, Fr.put, ↓reduceIte, reduceIte, Nat.reduceEqDiff, Nat.reduceAdd, Nat.reduceBEq, Nat.reduceLT, Nat.reduceLeDiff, binW, bodyQ, ressW, resW, ne_eq, forall_const, reduceCtorEq, implies_true, sets, oneAll, St.new, St.get, St.look, St.set, setL, setD, rels, fillE, fillD, List.replicate, rowsOf, forall_eq, eraseL, St.erase, Nat.reduceMul, ↓zD, zT, Mod.d]
  refine .go (CallT.of_runs awake_runs rfl) ?_
  simp only [Int.reduceToNat, Int.reduceLT, Int.reduceLE, Int.reduceBEq, Int.reduceBNe, St0, argFr, ↓thenW, ↓blockW, ↓opX, ↓opV, ↓pX, ↓pW, ↓putK, ↓putP, ↓atK, ↓normK, ↓postZ, evO, Fr.get, Fr.put, ↓reduceIte, reduceIte, Nat.reduceEqDiff, Nat.reduceAdd, Nat.reduceBEq, Nat.reduceLT, Nat.reduceLeDiff, binW, bodyQ, ressW, resW, ne_eq, forall_const, reduceCtorEq, implies_true, sets, oneAll, St.new, St.get, St.look, St.set, setL, setD, rels, fillE, fillD, List.replicate, rowsOf, forall_eq, eraseL, St.erase, Nat.reduceMul, ↓zD, zT, Mod.d]
  refine .go (CallT.of_runs (few_runs a) rfl) ?_
  cases hfew : a.few
  · simp only [Int.reduceToNat, Int.reduceLT, Int.reduceLE, Int.reduceBEq, Int.reduceBNe, St0, argFr, ↓thenW, ↓blockW, ↓opX, ↓opV, ↓pX, ↓pW, ↓putK, ↓putP, ↓atK, ↓normK, ↓postZ, evO, Fr.get, Fr.put, ↓reduceIte, reduceIte, Nat.reduceEqDiff, Nat.reduceAdd, Nat.reduceBEq, Nat.reduceLT, Nat.reduceLeDiff, binW, bodyQ, ressW, resW, ne_eq, forall_const, reduceCtorEq, implies_true, sets, oneAll, St.new, St.get, St.look, St.set, setL, setD, rels, fillE, fillD, List.replicate, rowsOf, forall_eq, eraseL, St.erase, Nat.reduceMul, ↓zD, zT]
    refine .go (CallT.of_runs awake_runs rfl) ?_
    simp only [Int.reduceToNat, Int.reduceLT, Int.reduceLE, Int.reduceBEq, Int.reduceBNe, St0, argFr, ↓thenW, ↓blockW, ↓opX, ↓opV, ↓pX, ↓pW, ↓putK, ↓putP, ↓atK, ↓normK, ↓postZ, evO, Fr.get, Fr.put, ↓reduceIte, reduceIte, Nat.reduceEqDiff, Nat.reduceAdd, Nat.reduceBEq, Nat.reduceLT, Nat.reduceLeDiff, binW, bodyQ, ressW, resW, ne_eq, forall_const, reduceCtorEq, implies_true, sets, oneAll, St.new, St.get, St.look, St.set, setL, setD, rels, fillE, fillD, List.replicate, rowsOf, forall_eq, eraseL, St.erase, Nat.reduceMul, ↓zD, zT]
    exact .drop (by simp) (by simp [vw])
  simp only [Int.reduceToNat, Int.reduceLT, Int.reduceLE, Int.reduceBEq, Int.reduceBNe, St0, argFr, ↓thenW, ↓blockW, ↓opX, ↓opV, ↓pX, ↓pW, ↓putK, ↓putP, ↓atK, ↓normK, ↓postZ, evO, Fr.get, Fr.put, ↓reduceIte, reduceIte, Nat.reduceEqDiff, Nat.reduceAdd, Nat.reduceBEq, Nat.reduceLT, Nat.reduceLeDiff, binW, bodyQ, ressW, resW, ne_eq, forall_const, reduceCtorEq, implies_true, sets, oneAll, St.new, St.get, St.look, St.set, setL, setD, rels, fillE, fillD, List.replicate, rowsOf, forall_eq, eraseL, St.erase, Nat.reduceMul, ↓zD, zT, Mod.d]
  refine .go (CallT.of_runs (few_runs b) rfl) ?_
  cases hfew : b.few
  · simp only [Int.reduceToNat, Int.reduceLT, Int.reduceLE, Int.reduceBEq, Int.reduceBNe, St0, argFr, ↓thenW, ↓blockW, ↓opX, ↓opV, ↓pX, ↓pW, ↓putK, ↓putP, ↓atK, ↓normK, ↓postZ, evO, Fr.get, Fr.put, ↓reduceIte, reduceIte, Nat.reduceEqDiff, Nat.reduceAdd, Nat.reduceBEq, Nat.reduceLT, Nat.reduceLeDiff, binW, bodyQ, ressW, resW, ne_eq, forall_const, reduceCtorEq, implies_true, sets, oneAll, St.new, St.get, St.look, St.set, setL, setD, rels, fillE, fillD, List.replicate, rowsOf, forall_eq, eraseL, St.erase, Nat.reduceMul, ↓zD, zT]
    refine .go (CallT.of_runs awake_runs rfl) ?_
    simp only [Int.reduceToNat, Int.reduceLT, Int.reduceLE, Int.reduceBEq, Int.reduceBNe, St0, argFr, ↓thenW, ↓blockW, ↓opX, ↓opV, ↓pX, ↓pW, ↓putK, ↓putP, ↓atK, ↓normK, ↓postZ, evO, Fr.get, Fr.put, ↓reduceIte, reduceIte, Nat.reduceEqDiff, Nat.reduceAdd, Nat.reduceBEq, Nat.reduceLT, Nat.reduceLeDiff, binW, bodyQ, ressW, resW, ne_eq, forall_const, reduceCtorEq, implies_true, sets, oneAll, St.new, St.get, St.look, St.set, setL, setD, rels, fillE, fillD, List.replicate, rowsOf, forall_eq, eraseL, St.erase, Nat.reduceMul, ↓zD, zT]
    exact .drop (by simp) (by simp [vw])
  simp only [Int.reduceToNat, Int.reduceLT, Int.reduceLE, Int.reduceBEq, Int.reduceBNe, St0, argFr, ↓thenW, ↓blockW, ↓opX, ↓opV, ↓pX, ↓pW, ↓putK, ↓putP, ↓atK, ↓normK, ↓postZ, evO, Fr.get, Fr.put, ↓reduceIte, reduceIte, Nat.reduceEqDiff, Nat.reduceAdd, Nat.reduceBEq, Nat.reduceLT, Nat.reduceLeDiff, binW, bodyQ, ressW, resW, ne_eq, forall_const, reduceCtorEq, implies_true, sets, oneAll, St.new, St.get, St.look, St.set, setL, setD, rels, fillE, fillD, List.replicate, rowsOf, forall_eq, eraseL, St.erase, Nat.reduceMul, ↓zD, zT, Mod.d]
  refine .go (CallT.of_runs (union_runs a b) rfl) ?_
  rcases union_cases a b with ⟨ha, hb, hR, hV, h64, e⟩ | ⟨er, her, e⟩
  · obtain ⟨c1, c2, c3, c4, c5, c6, c7⟩ := Mod.check_zero ha
    obtain ⟨d1, d2, d3, d4, d5, d6, d7⟩ := Mod.check_zero hb
    obtain ⟨A, hA⟩ : ∃ A : Nat, a.W = (A : Int) := ⟨a.W.toNat, by omega⟩
    obtain ⟨B, hB⟩ : ∃ B : Nat, b.W = (B : Int) := ⟨b.W.toNat, by omega⟩
    have h64' : A + B ≤ 64 := by omega
    have hUc := unM_check ha hb hA hB hR hV h64'
    have hUl := unM_left ha hb hA hB hR hV h64'
    have hUr := unM_right ha hb hA hB hR hV h64'
    have hGl := unM_gen_left ha hb hA hB hR hV h64'
    have hGr := unM_gen_right ha hb hA hB hR hV h64'
    have hUW : (unM a b).W = (A : Int) + (B : Int) := by show a.W + b.W = _; omega
    have z : mems 0#64 = [] := by kernel_rfl
    have l0 : allS (A : Int) ≠ 0#64 := by
      intro e
      have h1 := mems_left (A := A) (by omega)
      rw [e, z] at h1
      have := congrArg List.length h1
      rw [idL_len] at this
      simp at this; omega
    have r0 : rightS A B ≠ 0#64 := by
      intro e
      have h1 := mems_right h64'
      rw [e, z] at h1
      have := congrArg List.length h1
      rw [shL_len] at this
      simp at this; omega
    have ls : allS (A : Int) &&& ~~~(allS (unM a b).W) = 0#64 := by
      rw [hUW, sub_bits]
      intro i hi
      have := (leftS_bit (by omega)).1 hi
      rw [allS_bit]; simp; omega
    have rs : rightS A B &&& ~~~(allS (unM a b).W) = 0#64 := by
      rw [hUW, sub_bits]
      intro i hi
      have := (rightS_bit h64').1 hi
      rw [allS_bit]; simp; omega
    have e1 : (unM a b).restrict (allS (A : Int)) = (a, idL A, 0) := by rw [restrict_yes hUc ls l0, mems_left (by omega), hUl]
    have e2 : (unM a b).restrict (rightS A B) = (b, shL A B, 0) := by rw [restrict_yes hUc rs r0, mems_right h64', hUr]
    have e3 : (unM a b).generated (allS (A : Int)) = (allS (A : Int), 0) := by
      unfold Mod.generated; rw [if_neg (by omega), if_neg (by simp [ls]), hGl]
    have e4 : (unM a b).generated (rightS A B) = (rightS A B, 0) := by
      unfold Mod.generated; rw [if_neg (by omega), if_neg (by simp [rs]), hGr]
    rw [e]
    generalize unM a b = U at *
    have t1 : ¬ (A : Int) < 1 := by omega
    have t2 : ¬ (B : Int) < 1 := by omega
    have t3 : IntKind.i64.wrap ((A : Int) + (B : Int)) = (A : Int) + (B : Int) := wrap_i64 (by omega)
    have t4 : ¬ (64 : Int) < (A : Int) + (B : Int) := by omega
    simp only [Int.reduceToNat, Int.reduceLT, Int.reduceLE, Int.reduceBEq, Int.reduceBNe, St0, argFr, ↓thenW, ↓blockW, ↓opX, ↓opV, ↓pX, ↓pW, ↓putK, ↓putP, ↓atK, ↓normK, ↓postZ, evO, Fr.get, Fr.put, ↓reduceIte, reduceIte, Nat.reduceEqDiff, Nat.reduceAdd, Nat.reduceBEq, Nat.reduceLT, Nat.reduceLeDiff, binW, bodyQ, ressW, resW, ne_eq, forall_const, reduceCtorEq, implies_true, sets, oneAll, St.new, St.get, St.look, St.set, setL, setD, rels, fillE, fillD, List.replicate, rowsOf, forall_eq, eraseL, St.erase, Nat.reduceMul, ↓zD, zT, unD, Mod.d, hA, hB, hUW, t1, t2, t3, t4]
    (repeat (first | refine And.intro (by omega) ?_ | refine And.intro rfl ?_))
    refine .go (CallT.of_runs (refAll_runs (A : Int) (by omega)) rfl) ?_
    simp only [Int.reduceToNat, Int.reduceLT, Int.reduceLE, Int.reduceBEq, Int.reduceBNe, St0, argFr, ↓thenW, ↓blockW, ↓opX, ↓opV, ↓pX, ↓pW, ↓putK, ↓putP, ↓atK, ↓normK, ↓postZ, evO, Fr.get, Fr.put, ↓reduceIte, reduceIte, Nat.reduceEqDiff, Nat.reduceAdd, Nat.reduceBEq, Nat.reduceLT, Nat.reduceLeDiff, binW, bodyQ, ressW, resW, ne_eq, forall_const, reduceCtorEq, implies_true, sets, oneAll, St.new, St.get, St.look, St.set, setL, setD, rels, fillE, fillD, List.replicate, rowsOf, forall_eq, eraseL, St.erase, Nat.reduceMul, ↓zD, zT]
    (repeat (first | refine And.intro (by omega) ?_ | refine And.intro rfl ?_))
    refine .go (CallT.of_runs (refAll_runs ((A : Int) + (B : Int)) (by omega)) rfl) ?_
    have er : allS ((A : Int) + (B : Int)) &&& ~~~(allS (A : Int)) = rightS A B := rfl
    simp only [Int.reduceToNat, Int.reduceLT, Int.reduceLE, Int.reduceBEq, Int.reduceBNe, St0, argFr, ↓thenW, ↓blockW, ↓opX, ↓opV, ↓pX, ↓pW, ↓putK, ↓putP, ↓atK, ↓normK, ↓postZ, evO, Fr.get, Fr.put, ↓reduceIte, reduceIte, Nat.reduceEqDiff, Nat.reduceAdd, Nat.reduceBEq, Nat.reduceLT, Nat.reduceLeDiff, binW, bodyQ, ressW, resW, ne_eq, forall_const, reduceCtorEq, implies_true, sets, oneAll, St.new, St.get, St.look, St.set, setL, setD, rels, fillE, fillD, List.replicate, rowsOf, forall_eq, eraseL, St.erase, Nat.reduceMul, ↓zD, zT, er]
    (repeat (first | refine And.intro (by omega) ?_ | refine And.intro rfl ?_))
    rw [← hUW]
    refine .go (CallT.of_runs (restrict_runs U (allS (A : Int))) rfl) ?_
    rw [e1]
    simp only [Int.reduceToNat, Int.reduceLT, Int.reduceLE, Int.reduceBEq, Int.reduceBNe, St0, argFr, ↓thenW, ↓blockW, ↓opX, ↓opV, ↓pX, ↓pW, ↓putK, ↓putP, ↓atK, ↓normK, ↓postZ, evO, Fr.get, Fr.put, ↓reduceIte, reduceIte, Nat.reduceEqDiff, Nat.reduceAdd, Nat.reduceBEq, Nat.reduceLT, Nat.reduceLeDiff, binW, bodyQ, ressW, resW, ne_eq, forall_const, reduceCtorEq, implies_true, sets, oneAll, St.new, St.get, St.look, St.set, setL, setD, rels, fillE, fillD, List.replicate, rowsOf, forall_eq, eraseL, St.erase, Nat.reduceMul, ↓zD, zT, resD, Mod.d]
    (repeat (first | refine And.intro (by omega) ?_ | refine And.intro rfl ?_))
    refine .go (CallT.of_runs (restrict_runs U (rightS A B)) rfl) ?_
    rw [e2]
    simp only [Int.reduceToNat, Int.reduceLT, Int.reduceLE, Int.reduceBEq, Int.reduceBNe, St0, argFr, ↓thenW, ↓blockW, ↓opX, ↓opV, ↓pX, ↓pW, ↓putK, ↓putP, ↓atK, ↓normK, ↓postZ, evO, Fr.get, Fr.put, ↓reduceIte, reduceIte, Nat.reduceEqDiff, Nat.reduceAdd, Nat.reduceBEq, Nat.reduceLT, Nat.reduceLeDiff, binW, bodyQ, ressW, resW, ne_eq, forall_const, reduceCtorEq, implies_true, sets, oneAll, St.new, St.get, St.look, St.set, setL, setD, rels, fillE, fillD, List.replicate, rowsOf, forall_eq, eraseL, St.erase, Nat.reduceMul, ↓zD, zT, resD, Mod.d]
    (repeat (first | refine And.intro (by omega) ?_ | refine And.intro rfl ?_))
    refine .go (CallT.of_runs (generated_runs U (allS (A : Int))) rfl) ?_
    rw [e3]
    simp only [Int.reduceToNat, Int.reduceLT, Int.reduceLE, Int.reduceBEq, Int.reduceBNe, St0, argFr, ↓thenW, ↓blockW, ↓opX, ↓opV, ↓pX, ↓pW, ↓putK, ↓putP, ↓atK, ↓normK, ↓postZ, evO, Fr.get, Fr.put, ↓reduceIte, reduceIte, Nat.reduceEqDiff, Nat.reduceAdd, Nat.reduceBEq, Nat.reduceLT, Nat.reduceLeDiff, binW, bodyQ, ressW, resW, ne_eq, forall_const, reduceCtorEq, implies_true, sets, oneAll, St.new, St.get, St.look, St.set, setL, setD, rels, fillE, fillD, List.replicate, rowsOf, forall_eq, eraseL, St.erase, Nat.reduceMul, ↓zD, zT, genD]
    (repeat (first | refine And.intro (by omega) ?_ | refine And.intro rfl ?_))
    refine .go (CallT.of_runs (generated_runs U (rightS A B)) rfl) ?_
    rw [e4]
    simp only [Int.reduceToNat, Int.reduceLT, Int.reduceLE, Int.reduceBEq, Int.reduceBNe, St0, argFr, ↓thenW, ↓blockW, ↓opX, ↓opV, ↓pX, ↓pW, ↓putK, ↓putP, ↓atK, ↓normK, ↓postZ, evO, Fr.get, Fr.put, ↓reduceIte, reduceIte, Nat.reduceEqDiff, Nat.reduceAdd, Nat.reduceBEq, Nat.reduceLT, Nat.reduceLeDiff, binW, bodyQ, ressW, resW, ne_eq, forall_const, reduceCtorEq, implies_true, sets, oneAll, St.new, St.get, St.look, St.set, setL, setD, rels, fillE, fillD, List.replicate, rowsOf, forall_eq, eraseL, St.erase, Nat.reduceMul, ↓zD, zT, genD]
    (repeat (first | refine And.intro (by omega) ?_ | refine And.intro rfl ?_))
    rw [← hA]
    refine .go (CallT.of_runs (refSame_runs a a) rfl) ?_
    rw [same_self]
    simp only [Int.reduceToNat, Int.reduceLT, Int.reduceLE, Int.reduceBEq, Int.reduceBNe, St0, argFr, ↓thenW, ↓blockW, ↓opX, ↓opV, ↓pX, ↓pW, ↓putK, ↓putP, ↓atK, ↓normK, ↓postZ, evO, Fr.get, Fr.put, ↓reduceIte, reduceIte, Nat.reduceEqDiff, Nat.reduceAdd, Nat.reduceBEq, Nat.reduceLT, Nat.reduceLeDiff, binW, bodyQ, ressW, resW, ne_eq, forall_const, reduceCtorEq, implies_true, sets, oneAll, St.new, St.get, St.look, St.set, setL, setD, rels, fillE, fillD, List.replicate, rowsOf, forall_eq, eraseL, St.erase, Nat.reduceMul, ↓zD, zT]
    (repeat (first | refine And.intro (by omega) ?_ | refine And.intro rfl ?_))
    rw [← hB]
    refine .go (CallT.of_runs (refSame_runs b b) rfl) ?_
    rw [same_self]
    simp only [Int.reduceToNat, Int.reduceLT, Int.reduceLE, Int.reduceBEq, Int.reduceBNe, St0, argFr, ↓thenW, ↓blockW, ↓opX, ↓opV, ↓pX, ↓pW, ↓putK, ↓putP, ↓atK, ↓normK, ↓postZ, evO, Fr.get, Fr.put, ↓reduceIte, reduceIte, Nat.reduceEqDiff, Nat.reduceAdd, Nat.reduceBEq, Nat.reduceLT, Nat.reduceLeDiff, binW, bodyQ, ressW, resW, ne_eq, forall_const, reduceCtorEq, implies_true, sets, oneAll, St.new, St.get, St.look, St.set, setL, setD, rels, fillE, fillD, List.replicate, rowsOf, forall_eq, eraseL, St.erase, Nat.reduceMul, ↓zD, zT]
    exact .drop (by simp) (by simp [vw])
  · have hb : (er != 0) = true := by simp [her]
    rw [e]
    simp only [Int.reduceToNat, Int.reduceLT, Int.reduceLE, Int.reduceBEq, Int.reduceBNe, St0, argFr, ↓thenW, ↓blockW, ↓opX, ↓opV, ↓pX, ↓pW, ↓putK, ↓putP, ↓atK, ↓normK, ↓postZ, evO, Fr.get, Fr.put, ↓reduceIte, reduceIte, Nat.reduceEqDiff, Nat.reduceAdd, Nat.reduceBEq, Nat.reduceLT, Nat.reduceLeDiff, binW, bodyQ, ressW, resW, ne_eq, forall_const, reduceCtorEq, implies_true, sets, oneAll, St.new, St.get, St.look, St.set, setL, setD, rels, fillE, fillD, List.replicate, rowsOf, forall_eq, eraseL, St.erase, Nat.reduceMul, ↓zD, zT, unD, Mod.d, Mod.nil, hb]
    (repeat (first | refine And.intro (by omega) ?_ | refine And.intro rfl ?_))
    exact .drop (by simp) (by simp [vw])
end Go.Pd
