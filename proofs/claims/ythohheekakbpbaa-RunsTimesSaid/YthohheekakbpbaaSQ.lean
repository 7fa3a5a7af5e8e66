/- Runs: Clock twice is Clock once. -/
import Derived.Test.YthohheekakbpbaaSP
set_option linter.unusedSectionVars false
set_option linter.unusedVariables false
set_option linter.unusedSimpArgs false
set_option linter.defProp false
set_option maxRecDepth 20000
namespace Go.Pd
open Go Go.Proofs
namespace Ru
theorem nodup_len {α : Type} [DecidableEq α] : ∀ {a b : List α}, a.Nodup → b.Nodup → (∀ x, x ∈ a ↔ x ∈ b) → a.length = b.length
  | [], b, _, _, h => by
    cases b with
    | nil => rfl
    | cons y b => have := (h y).2 (by simp); simp at this
  | x :: a, b, ha, hb, h => by
    have ha' := List.nodup_cons.1 ha
    have hx : x ∈ b := (h x).1 (by simp)
    have := nodup_len (a := a) (b := b.erase x) ha'.2 (hb.erase x) fun z => by
      rw [List.Nodup.mem_erase_iff hb]
      constructor
      · intro hz
        exact ⟨fun e => ha'.1 (e ▸ hz), (h z).1 (by simp [hz])⟩
      · rintro ⟨hne, hz⟩
        rcases List.mem_cons.1 ((h z).2 hz) with e | e
        · exact absurd e hne
        · exact e
    rw [List.length_erase_of_mem hx] at this
    have hpos : 0 < b.length := List.length_pos_of_mem hx
    simp only [List.length_cons]
    omega
/-- Where an element stands for the first time. -/
def firstsI (L : List (List Int)) : List Nat := (List.range L.length).filter fun i => !(List.range i).any fun j => decide (L.getD j [] = L.getD i [])
theorem firstsI_mem {L : List (List Int)} {i : Nat} : i ∈ firstsI L ↔ i < L.length ∧ ∀ j, j < i → L.getD j [] ≠ L.getD i [] := by
  unfold firstsI
  rw [List.mem_filter, List.mem_range]
  simp
theorem firstsI_ex {L : List (List Int)} : ∀ (n i : Nat), i ≤ n → i < L.length → ∃ j, j ∈ firstsI L ∧ L.getD j [] = L.getD i []
  | 0, i, h, hl => ⟨i, firstsI_mem.2 ⟨hl, fun j hj => by omega⟩, rfl⟩
  | n + 1, i, h, hl => by
    by_cases e : ∃ j, j < i ∧ L.getD j [] = L.getD i []
    · obtain ⟨j, hj, e⟩ := e
      obtain ⟨u, hu, eu⟩ := firstsI_ex (L := L) n j (by omega) (by omega)
      exact ⟨u, hu, eu.trans e⟩
    · exact ⟨i, firstsI_mem.2 ⟨hl, fun j hj c => e ⟨j, hj, c⟩⟩, rfl⟩
theorem below_count (L : List (List Int)) (x : List Int) : below (dedup (ascS L)) x = ((firstsI L).filter fun i => decide (kc (L.getD i []) x < 0)).length := by
  have hn : ((firstsI L).map fun i => L.getD i []).Nodup := by
    unfold List.Nodup
    rw [List.pairwise_map]
    have hp : (firstsI L).Pairwise (· < ·) := by
      unfold firstsI
      exact List.pairwise_lt_range.filter _
    refine hp.imp_of_mem fun {a b} ha hb hab => ?_
    exact (firstsI_mem.1 hb).2 a hab
  have e : ((firstsI L).filter fun i => decide (kc (L.getD i []) x < 0)).length = (((firstsI L).map fun i => L.getD i []).filter fun y => decide (kc y x < 0)).length := by
    rw [List.filter_map, List.length_map]
    rfl
  rw [e]
  unfold below
  refine nodup_len ((dedup_nodup (ascS_asc L)).filter _) (hn.filter _) fun y => ?_
  rw [List.mem_filter, List.mem_filter]
  refine and_congr_left fun _ => ?_
  rw [dedup_mem, (ascS_perm L).mem_iff, List.mem_map]
  constructor
  · intro h
    obtain ⟨i, hi, rfl⟩ := List.getElem_of_mem h
    obtain ⟨j, hj, ej⟩ := firstsI_ex i i (Nat.le_refl _) hi
    exact ⟨j, hj, by rw [ej]; simp [List.getD, hi]⟩
  · rintro ⟨i, hi, rfl⟩
    exact getD_mem (firstsI_mem.1 hi).1
theorem kc_eq_iff {x y : List Int} : x = y ↔ ¬ kc x y < 0 ∧ ¬ kc y x < 0 := by
  have := kc_anti x y
  constructor
  · rintro rfl; rw [kc_self]; omega
  · intro h; exact kc_zero (by omega)
theorem below_iso {L L' : List (List Int)} (hl : L'.length = L.length) (h : ∀ i j, i < L.length → j < L.length → (kc (L.getD i []) (L.getD j []) < 0 ↔ kc (L'.getD i []) (L'.getD j []) < 0)) {v : Nat} (hv : v < L.length) :
    below (dedup (ascS L)) (L.getD v []) = below (dedup (ascS L')) (L'.getD v []) := by
  rw [below_count, below_count]
  have he : ∀ i j, i < L.length → j < L.length → (L.getD i [] = L.getD j [] ↔ L'.getD i [] = L'.getD j []) := fun i j hi hj => by
    rw [kc_eq_iff, kc_eq_iff, h i j hi hj, h j i hj hi]
  have hf : firstsI L = firstsI L' := by
    unfold firstsI
    rw [hl]
    refine List.filter_congr fun i hi => ?_
    have hi' := List.mem_range.1 hi
    congr 1
    rw [Bool.eq_iff_iff, List.any_eq_true, List.any_eq_true]
    constructor
    · rintro ⟨j, hj, e⟩
      exact ⟨j, hj, decide_eq_true ((he j i (by have := List.mem_range.1 hj; omega) hi').1 (of_decide_eq_true e))⟩
    · rintro ⟨j, hj, e⟩
      exact ⟨j, hj, decide_eq_true ((he j i (by have := List.mem_range.1 hj; omega) hi').2 (of_decide_eq_true e))⟩
  rw [← hf]
  congr 1
  refine List.filter_congr fun i hi => ?_
  rw [Bool.eq_iff_iff, decide_eq_true_iff, decide_eq_true_iff]
  exact h i v (firstsI_mem.1 hi).1 hv
theorem kc2 (s x t y : Int) : kc [s, x] [t, y] < 0 ↔ s < t ∨ (s = t ∧ x < y) := by
  unfold kc
  rw [if_neg (by simp), if_neg (by simp), lexC, lexC, lexC]
  by_cases h1 : s < t
  · rw [if_pos h1]; simp [h1]
  · by_cases h2 : t < s
    · rw [if_neg h1, if_pos h2]; simp [h1]; omega
    · rw [if_neg h1, if_neg h2]
      by_cases h3 : x < y
      · rw [if_pos h3]; simp [h1]; omega
      · rw [if_neg h3]
        split <;> simp [h1] <;> omega
theorem twice_rank {rs : List RunA} {A T a : Nat} {p : Nat × Nat} (ha : a < A) (hp : p.1 < rs.length ∧ p.2 < T) (hT : 1 ≤ T) :
    rankA (clockK (renN rs A T (clockK rs))) (ptN T (rs.length * T)) a p = rankA (clockK rs) (ptN T (rs.length * T)) a p := by
  have hin : Inb rs T (ptN T (rs.length * T)) := ptN_in hT (Nat.le_refl _)
  have hmem := ptN_mem hp
  obtain ⟨v, hv, rfl⟩ := List.getElem_of_mem hmem
  have hcmp : ∀ p q : Nat × Nat, p.1 < rs.length ∧ p.2 < T → q.1 < rs.length ∧ q.2 < T → (kc (clockK rs a p) (clockK rs a q) < 0 ↔ kc (clockK (renN rs A T (clockK rs)) a p) (clockK (renN rs A T (clockK rs)) a q) < 0) := fun p q hp hq => by
    have hlt := rank_lt (kf := clockK rs) (a := a) hp hq
    have e1 : clockK (renN rs A T (clockK rs)) a p = [(p.2 : Int), rankA (clockK rs) (ptN T (rs.length * T)) a p] := by unfold clockK; rw [show locA (renN rs A T fun a p => [(p.2 : Int), locA rs a p]) a p = _ from renR_loc ha hp]
    have e2 : clockK (renN rs A T (clockK rs)) a q = [(q.2 : Int), rankA (clockK rs) (ptN T (rs.length * T)) a q] := by unfold clockK; rw [show locA (renN rs A T fun a p => [(p.2 : Int), locA rs a p]) a q = _ from renR_loc ha hq]
    rw [e1, e2, kc2, hlt]
    unfold clockK
    rw [kc2]
    omega
  have hi := below_iso (L := (ptN T (rs.length * T)).map (clockK rs a)) (L' := (ptN T (rs.length * T)).map (clockK (renN rs A T (clockK rs)) a)) (by simp) (fun i j h1 h2 => by
    rw [List.length_map] at h1 h2
    have g1 := hin _ (getD_mem (d := (0, 0)) h1)
    have g2 := hin _ (getD_mem (d := (0, 0)) h2)
    have := hcmp _ _ g1 g2
    simpa [List.getD, h1, h2] using this) (v := v) (by rw [List.length_map]; exact hv)
  have f1 : ∀ K : Nat × Nat → List Int, ((ptN T (rs.length * T)).map K).getD v [] = K ((ptN T (rs.length * T))[v]) := fun K => by simp [List.getD, hv]
  rw [f1, f1] at hi
  unfold rankA
  rw [hi]
theorem twice_eq {rs : List RunA} {A T : Nat} (hT : 1 ≤ T) : renN (renN rs A T (clockK rs)) A T (clockK (renN rs A T (clockK rs))) = renN rs A T (clockK rs) := by
  have hl := renN_len rs A T (clockK rs)
  have hfac : ∀ i, i < rs.length → ((renN rs A T (clockK rs)).getD i run0).fac = (rs.getD i run0).fac := fun i hi => by unfold renN; rw [renR_get hi]
  have hrk := fun (a : Nat) (ha : a < A) (p : Nat × Nat) (hp : p.1 < rs.length ∧ p.2 < T) => twice_rank (rs := rs) ha hp hT
  generalize hc : renN rs A T (clockK rs) = c at hl hfac hrk
  rw [← hc]
  conv => rhs; unfold renN
  rw [hc]
  unfold renN
  rw [hl]
  unfold renR
  rw [hl]
  refine List.map_congr_left fun i hi => ?_
  have hi' := List.mem_range.1 hi
  rw [hfac i hi']
  congr 1
  refine List.map_congr_left fun t ht => List.map_congr_left fun a ha => ?_
  exact hrk a (List.mem_range.1 ha) (i, t) ⟨hi', List.mem_range.1 ht⟩
end Ru
end Go.Pd
