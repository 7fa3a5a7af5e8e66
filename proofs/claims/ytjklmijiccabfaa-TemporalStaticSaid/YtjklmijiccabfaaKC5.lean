/- Part C5. -/
import Derived.Test.YtjklmijiccabfaaKC4
import Derived.Test.YtjklmijiccabfaaKS9
import Derived.Test.YtjklmijiccabfaaKZ1
set_option linter.unusedSectionVars false
set_option linter.unusedVariables false
set_option linter.unusedSimpArgs false
set_option linter.defProp false
set_option maxRecDepth 20000
set_option maxHeartbeats 1000000
namespace Go.Pd
open Go Go.Proofs
open Rs Fm Ru Te
namespace Te
def mskK (φ : Nat → Bool) : Nat → BitVec 64
 | 0 => 0#64
 | k + 1 => mskK φ k ||| (if φ k = true then 1#64 <<< k else 0#64)
theorem mskK_bit {φ : Nat → Bool} : ∀ (k i : Nat), k ≤ 64 → (mskK φ k).getLsbD i = (decide (i < k) && φ i)
 | 0, i, _ => by simp [mskK]
 | k + 1, i, hk => by
  unfold mskK
  rw [BitVec.getLsbD_or, mskK_bit k i (by omega)]
  by_cases e : i = k
  ·subst e
   cases hb : φ i
   ·simp
   ·rw [if_pos rfl, one_bitE (by omega)]
    simp
  ·have h2 : (if φ k = true then 1#64 <<< k else 0#64).getLsbD i = false := by
    split
    ·rw [one_bitE (by omega)]; exact decide_eq_false e
    ·exact BitVec.getLsbD_zero
   rw [h2, Bool.or_false]
   congr 1
   exact decide_eq_decide.2 (by omega)
def mskT (T W : Nat) (x : Tab) : BitVec 64 := mskK (fun w => x (pt T w)) W
theorem mskT_bit {T W : Nat} {x : Tab} (hW : W ≤ 64) (i : Nat) : (mskT T W x).getLsbD i = (decide (i < W) && x (pt T i)) := mskK_bit W i hW
theorem bits_eq {a b : BitVec 64} (h : ∀ i, i < 64 → a.getLsbD i = b.getLsbD i) : a = b := BitVec.eq_of_getLsbD_eq h
theorem boxK_bit (r : List (BitVec 64)) (s : BitVec 64) : ∀ (k i : Nat), k ≤ 64 → (boxK r s k).getLsbD i = (decide (i < k) && (r.getD i 0 &&& ~~~s == 0#64))
 | 0, i, _ => by simp [boxK]
 | k + 1, i, hk => by
  unfold boxK
  have e1 : (if (r.getD k 0 &&& ~~~s == 0#64) = true then boxK r s k ||| 1#64 <<< k else boxK r s k) = boxK r s k ||| (if (r.getD k 0 &&& ~~~s == 0#64) = true then 1#64 <<< k else 0#64) := by
   split
   ·rfl
   ·exact BitVec.or_zero.symm
  rw [e1, BitVec.getLsbD_or, boxK_bit r s k i (by omega)]
  by_cases e : i = k
  ·subst e
   cases hb : (r.getD i 0 &&& ~~~s == 0#64)
   ·simp
   ·rw [if_pos rfl, one_bitE (by omega)]
    simp
  ·have h2 : (if (r.getD k 0 &&& ~~~s == 0#64) = true then 1#64 <<< k else 0#64).getLsbD i = false := by
    split
    ·rw [one_bitE (by omega)]; exact decide_eq_false e
    ·exact BitVec.getLsbD_zero
   rw [h2, Bool.or_false]
   congr 1
   exact decide_eq_decide.2 (by omega)
theorem sub_iff {a s : BitVec 64} : (a &&& ~~~s == 0#64) = true ↔ ∀ v, v < 64 → a.getLsbD v = true → s.getLsbD v = true := by
 rw [beq_iff_eq]
 constructor
 ·intro h v hv ha
  have := congrArg (·.getLsbD v) h
  simp only [BitVec.getLsbD_and, BitVec.getLsbD_not, ha, hv, BitVec.getLsbD_zero] at this
  simpa using this
 ·intro h
  refine bits_eq fun v hv => ?_
  rw [BitVec.getLsbD_and, BitVec.getLsbD_not, BitVec.getLsbD_zero]
  cases ha : a.getLsbD v
  ·rfl
  ·rw [h v hv ha]; simp
theorem ptl_at {rs : List RunA} {T v : Nat} (h : v < rs.length * T) : (ptl rs T).getD v (0, 0) = pt T v := ptN_get T h
theorem all_ptl {rs : List RunA} {T : Nat} {P : Nat × Nat → Bool} : (ptl rs T).all P = true ↔ ∀ v, v < rs.length * T → P (pt T v) = true := by
 rw [List.all_eq_true]
 constructor
 ·intro h v hv
  refine h _ ?_
  unfold ptl ptN
  exact List.mem_map.2 ⟨v, List.mem_range.2 hv, rfl⟩
 ·intro h q hq
  unfold ptl ptN at hq
  obtain ⟨v, hv, rfl⟩ := List.mem_map.1 hq
  exact h v (List.mem_range.1 hv)
def RelT (rs : List RunA) (T : Nat) (r : List (BitVec 64)) (ρ : Nat × Nat → Nat × Nat → Bool) : Prop :=
 r.length = rs.length * T ∧ ∀ w, w < rs.length * T → ∀ v, (r.getD w 0).getLsbD v = (decide (v < rs.length * T) && ρ (pt T w) (pt T v))
theorem box_tab {rs : List RunA} {T : Nat} (hW : rs.length * T ≤ 64) {r : List (BitVec 64)} {ρ : Nat × Nat → Nat × Nat → Bool} (h : RelT rs T r ρ) {s : BitVec 64} {x : Tab} (hs : ∀ v, v < rs.length * T → s.getLsbD v = x (pt T v)) :
  boxW r s = mskT T (rs.length * T) fun p => (ptl rs T).all fun q => !ρ p q || x q := by
 obtain ⟨hl, hr⟩ := h
 refine bits_eq fun i _ => ?_
 rw [mskT_bit hW, boxW, boxK_bit r s _ i (by omega), hl]
 by_cases hi : i < rs.length * T
 ·rw [decide_eq_true hi, Bool.true_and, Bool.true_and, Bool.eq_iff_iff, sub_iff, all_ptl]
  constructor
  ·intro h v hv
   cases e : ρ (pt T i) (pt T v) with
   | false => rfl
   | true =>
    have := h v (by omega) (by rw [hr i hi v, decide_eq_true hv, e]; rfl)
    rw [hs v hv] at this
    simpa using this
  ·intro h v _ ha
   rw [hr i hi v, Bool.and_eq_true] at ha
   have hv := of_decide_eq_true ha.1
   have := h v hv
   rw [ha.2] at this
   rw [hs v hv]
   simpa using this
 ·rw [decide_eq_false hi, Bool.false_and, Bool.false_and]
section
variable {rs : List RunA} {A F T : Nat}
theorem rel_know {a : Nat} (ha : a < A) (hW : rs.length * T ≤ 64) : RelT rs T ((modM rs (ptl rs T) A F).R.getD a []) fun p q => decide (locA rs a q = locA rs a p) := by
 have hl : (ptl rs T).length = rs.length * T := ptN_len T _
 have hg : (modM rs (ptl rs T) A F).R.getD a [] = relR rs (ptl rs T) a := by
  show (relL rs (ptl rs T) A).getD a [] = _
  simp [relL, List.getD, ha]
 rw [hg]
 refine ⟨by simp [relR, hl], fun w hw v => ?_⟩
 have hw' : (relR rs (ptl rs T) a).getD w 0 = Ru.relK rs (ptl rs T) a (locA rs a (pt T w)) (rs.length * T) := by
  have h1 : w < (ptl rs T).length := by omega
  have h2 := ptl_at (rs := rs) hw
  rw [List.getD, List.getElem?_eq_getElem h1] at h2
  simp only [Option.getD_some] at h2
  simp only [relR, List.getD, List.getElem?_map, List.getElem?_eq_getElem h1, Option.map_some, Option.getD_some, h2, hl]
 rw [hw', relK_bit _ _ hW]
 by_cases hv : v < rs.length * T
 ·rw [decide_eq_true hv, ptl_at hv]
 ·rw [decide_eq_false hv, Bool.false_and, Bool.false_and]
theorem group_rel {m : ModA} {W : Nat} (ok : ModOk m W) (hW : rs.length * T = W) (hR : m.R.length = A) {g : Nat} (hg : 1 ≤ g ∧ g < 2 ^ m.R.length) (meet : Bool) (hk : ∀ a, a < A → RelT rs T (m.R.getD a []) fun p q => decide (locA rs a q = locA rs a p)) :
  RelT rs T (groupW m g meet) fun p q => if meet = true then togP rs A g p q else relP rs A g p q := by
 obtain ⟨⟨a0, ha0, hb0⟩, hl, hv⟩ := groupW_bits ok hg meet
 refine ⟨by rw [hl, hW], fun w hw v => ?_⟩
 rw [hv w (by omega) v]
 unfold bitG
 rw [hR] at ha0 ⊢
 have hbit : ∀ a, a < A → ((m.R.getD a []).getD w 0).getLsbD v = (decide (v < rs.length * T) && decide (locA rs a (pt T w) = locA rs a (pt T v))) := fun a ha => by
  rw [(hk a ha).2 w hw v]
  congr 1
  exact decide_eq_decide.2 ⟨fun h => h.symm, fun h => h.symm⟩
 cases meet with
 | true =>
  show _ = (decide (v < rs.length * T) && togP rs A g (pt T w) (pt T v))
  rw [if_pos rfl]
  unfold togP
  by_cases hvw : v < rs.length * T
  ·rw [decide_eq_true hvw, Bool.true_and]
   refine all_iff fun a ha => ?_
   rw [hbit a (List.mem_range.1 ha), decide_eq_true hvw, Bool.true_and]
  ·rw [decide_eq_false hvw, Bool.false_and]
   refine Bool.eq_false_iff.2 fun h => ?_
   rw [List.all_eq_true] at h
   have := h a0 (List.mem_range.2 ha0)
   rw [hb0, hbit a0 ha0, decide_eq_false hvw] at this
   simp at this
 | false =>
  show _ = (decide (v < rs.length * T) && relP rs A g (pt T w) (pt T v))
  rw [if_neg (by decide)]
  unfold relP
  by_cases hvw : v < rs.length * T
  ·rw [decide_eq_true hvw, Bool.true_and, Bool.eq_iff_iff, List.any_eq_true, List.any_eq_true]
   constructor
   ·rintro ⟨a, ha, h⟩
    refine ⟨a, ha, ?_⟩
    rwa [hbit a (List.mem_range.1 ha), decide_eq_true hvw, Bool.true_and] at h
   ·rintro ⟨a, ha, h⟩
    refine ⟨a, ha, ?_⟩
    rwa [hbit a (List.mem_range.1 ha), decide_eq_true hvw, Bool.true_and]
  ·rw [decide_eq_false hvw, Bool.false_and]
   refine Bool.eq_false_iff.2 fun h => ?_
   rw [List.any_eq_true] at h
   obtain ⟨a, ha, h⟩ := h
   rw [hbit a (List.mem_range.1 ha), decide_eq_false hvw] at h
   simp at h
theorem every_all {g : Nat} {x : Tab} {p : Nat × Nat} : everyP rs A T g x p = (ptl rs T).all fun q => !relP rs A g p q || x q := by
 rw [Bool.eq_iff_iff, everyP_iff, List.all_eq_true]
 constructor
 ·intro h q hq
  cases e : relP rs A g p q with
  | false => rfl
  | true => rw [h q hq e]; rfl
 ·intro h q hq e
  have := h q hq
  rw [e] at this
  simpa using this
theorem allW_msk {W T : Nat} (hW : W ≤ 64) : allW W = mskT T W fun _ => true := by
 refine bits_eq fun i hi => ?_
 rw [allW_bit hW hi, mskT_bit hW, Bool.and_true]
theorem common_tab {m : ModA} {W : Nat} (ok : ModOk m W) (hW : rs.length * T = W) (hR : m.R.length = A) {g : Nat} (hg : 1 ≤ g ∧ g < 2 ^ m.R.length) (hk : ∀ a, a < A → RelT rs T (m.R.getD a []) fun p q => decide (locA rs a q = locA rs a p)) (x y : Tab) :
  ∀ n, comW (groupW m g false) (allW W) (mskT T W x) (mskT T W y) n = mskT T W (comK rs A T g x y n)
 | 0 => by have := ok.hW; exact allW_msk this.2
 | n + 1 => by
  have hW64 := ok.hW.2
  show boxW _ _ = _
  rw [common_tab ok hW hR hg hk x y n]
  have hrel := group_rel ok hW hR hg false hk
  rw [box_tab (by omega) hrel (x := fun q => !x q || (y q && comK rs A T g x y n q)) fun v hv => ?_]
  ·rw [hW]
   congr 1
   funext p
   simp only [Bool.false_eq_true, ↓reduceIte]
   rw [← every_all]
   rfl
  ·rw [hW] at hv
   simp only [BitVec.getLsbD_or, BitVec.getLsbD_and, BitVec.getLsbD_not, allW_bit hW64 (show v < 64 by omega), mskT_bit hW64, decide_eq_true hv, decide_eq_true (show v < 64 by omega), Bool.true_and]
end
end Te
end Go.Pd
