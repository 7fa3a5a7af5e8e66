/- Part Z2. -/
import Derived.Test.YtjklmijiccabfaaGreatSZ1
set_option linter.unusedSectionVars false
set_option linter.unusedVariables false
set_option linter.unusedSimpArgs false
set_option linter.defProp false
set_option maxRecDepth 20000
set_option maxHeartbeats 1000000
namespace Go.Pd
open Go Go.Proofs
open Rs Fm Ru Te
namespace Te
abbrev nT (t : Tr) : Tr := .nd 4 0 0 0 t .nil
abbrev andT (t u : Tr) : Tr := .nd 5 0 0 0 t u
abbrev orT (t u : Tr) : Tr := .nd 6 0 0 0 t u
abbrev impT (t u : Tr) : Tr := .nd 7 0 0 0 t u
abbrev iffT (t u : Tr) : Tr := .nd 8 0 0 0 t u
abbrev knT (a : Int) (t : Tr) : Tr := .nd 9 a 0 0 t .nil
abbrev nxT (t : Tr) : Tr := .nd 18 0 0 0 t .nil
abbrev unT (t u : Tr) : Tr := .nd 19 0 0 0 t u
abbrev pvT (t : Tr) : Tr := .nd 20 0 0 0 t .nil
abbrev snT (t u : Tr) : Tr := .nd 21 0 0 0 t u
abbrev trT : Tr := .nd 1 0 0 0 .nil .nil
def iffA (f g : List Nd) : List Nd := buildA ⟨8, 0, 0, 0, 0, 0⟩ [f, g]
theorem ok0 {A F : Nat} {p : Nd} (h1 : fragN p &&& 3824 = 0) (h2 : agentN p = 0) (h3 : factN p = 0) : okN A F p = true := by
 simp [okN, h1, h2, h3]
section
variable {A F : Nat} {f g : List Nd} {t u : Tr}
theorem is_not (h : Is A F f t) (hl : szT t < 200) : Is A F (notA f) (nT t) ∧ szT (nT t) ≤ szT t + 1 := h.un (x := ⟨4, 0, 0, 0, 0, 0⟩) rfl rfl (by decide) rfl (ok0 (by decide) (by decide) (by decide)) hl
theorem is_next (h : Is A F f t) (hl : szT t < 200) : Is A F (nextA f) (nxT t) ∧ szT (nxT t) ≤ szT t + 1 := h.un (x := ⟨18, 0, 0, 0, 0, 0⟩) rfl rfl (by decide) rfl (ok0 (by decide) (by decide) (by decide)) hl
theorem is_prev (h : Is A F f t) (hl : szT t < 200) : Is A F (prevA f) (pvT t) ∧ szT (pvT t) ≤ szT t + 1 := h.un (x := ⟨20, 0, 0, 0, 0, 0⟩) rfl rfl (by decide) rfl (ok0 (by decide) (by decide) (by decide)) hl
theorem is_know {a : Nat} (ha : a < A) (hA : A ≤ 4) (h : Is A F f t) (hl : szT t < 200) : Is A F (knowA a f) (knT a t) ∧ szT (knT a t) ≤ szT t + 1 := by
 refine h.un (x := ⟨9, a, 0, 0, 0, 0⟩) rfl rfl ?_ rfl ?_ hl
 ·have : a = 0 ∨ a = 1 ∨ a = 2 ∨ a = 3 := by omega
  rcases this with rfl | rfl | rfl | rfl <;> decide
 ·have h1 : fragN ⟨9, (a : Int), 0, 0, 0, 0⟩ &&& 3824 = 0 := show (1 : Nat) &&& 3824 = 0 by decide
  have h2 : agentN ⟨9, a, 0, 0, 0, 0⟩ / 2 ^ A = 0 := by
   have : agentN ⟨9, a, 0, 0, 0, 0⟩ = 2 ^ a := rfl
   rw [this]
   exact Nat.div_eq_of_lt (Nat.pow_lt_pow_right (by decide) ha)
  have h3 : factN ⟨9, a, 0, 0, 0, 0⟩ = 0 := rfl
  simp [okN, h1, h2, h3]
theorem is_and (h : Is A F f t) (h2 : Is A F g u) (hl : szT t + szT u < 200) : Is A F (andA f g) (andT t u) ∧ szT (andT t u) ≤ szT t + szT u + 1 := h.bin (x := ⟨5, 0, 0, 0, 0, 0⟩) h2 rfl rfl (by decide) (ok0 (by decide) (by decide) (by decide)) hl
theorem is_or (h : Is A F f t) (h2 : Is A F g u) (hl : szT t + szT u < 200) : Is A F (orA f g) (orT t u) ∧ szT (orT t u) ≤ szT t + szT u + 1 := h.bin (x := ⟨6, 0, 0, 0, 0, 0⟩) h2 rfl rfl (by decide) (ok0 (by decide) (by decide) (by decide)) hl
theorem is_imp (h : Is A F f t) (h2 : Is A F g u) (hl : szT t + szT u < 200) : Is A F (impA f g) (impT t u) ∧ szT (impT t u) ≤ szT t + szT u + 1 := h.bin (x := ⟨7, 0, 0, 0, 0, 0⟩) h2 rfl rfl (by decide) (ok0 (by decide) (by decide) (by decide)) hl
theorem is_iff (h : Is A F f t) (h2 : Is A F g u) (hl : szT t + szT u < 200) : Is A F (iffA f g) (iffT t u) ∧ szT (iffT t u) ≤ szT t + szT u + 1 := h.bin (x := ⟨8, 0, 0, 0, 0, 0⟩) h2 rfl rfl (by decide) (ok0 (by decide) (by decide) (by decide)) hl
theorem is_until (h : Is A F f t) (h2 : Is A F g u) (hl : szT t + szT u < 200) : Is A F (untilA f g) (unT t u) ∧ szT (unT t u) ≤ szT t + szT u + 1 := h.bin (x := ⟨19, 0, 0, 0, 0, 0⟩) h2 rfl rfl (by decide) (ok0 (by decide) (by decide) (by decide)) hl
theorem is_since (h : Is A F f t) (h2 : Is A F g u) (hl : szT t + szT u < 200) : Is A F (sinceA f g) (snT t u) ∧ szT (snT t u) ≤ szT t + szT u + 1 := h.bin (x := ⟨21, 0, 0, 0, 0, 0⟩) h2 rfl rfl (by decide) (ok0 (by decide) (by decide) (by decide)) hl
theorem is_true : Is A F trueA trT ∧ szT trT ≤ 1 := by
 rw [true_is]
 exact ⟨⟨by decide, rfl, ok0 (by decide) (by decide) (by decide), trivial, trivial⟩, by decide⟩
end
theorem form_ok {A F : Nat} {f : List Nd} {t : Tr} (h : Is A F f t) : formE f = (f, 0) := by
 have := tree_ne h.c
 unfold formE
 rw [if_neg (by omega)]
theorem is_some {A F : Nat} {f : List Nd} {t : Tr} (h : Is A F f t) (hl : szT t < 190) : Is A F (someA f).1 (unT trT t) ∧ szT (unT trT t) ≤ szT t + 2 ∧ (someA f).2 = 0 := by
 obtain ⟨h1, h2⟩ := is_true (A := A) (F := F)
 obtain ⟨h3, h4⟩ := is_until h1 h (by omega)
 unfold someA
 rw [form_ok h3]
 exact ⟨h3, by omega, rfl⟩
theorem is_always {A F : Nat} {f : List Nd} {t : Tr} (h : Is A F f t) (hl : szT t < 190) : Is A F (alwaysA f).1 (nT (unT trT (nT t))) ∧ szT (nT (unT trT (nT t))) ≤ szT t + 4 ∧ (alwaysA f).2 = 0 := by
 obtain ⟨h1, h2⟩ := is_true (A := A) (F := F)
 obtain ⟨h5, h6⟩ := is_not h (by omega)
 obtain ⟨h3, h4⟩ := is_until h1 h5 (by omega)
 obtain ⟨h7, h8⟩ := is_not h3 (by omega)
 unfold alwaysA
 rw [form_ok h7]
 exact ⟨h7, by omega, rfl⟩
theorem valid_of {s : SysA} {A F T : Nat} {rs : List RunA} (hs : s = ⟨A, F, T, rs⟩) (hz : chk s = 0) (ok : OkR rs A F T) {f : List Nd} {t : Tr} (h : Is A F f t) (hv : ∀ i, i < rs.length → ∀ u, u < T → evT rs A T t (i, u) = true) : validA s f = true := by
 refine valid_iff.2 ⟨h.req hs hz ok, ?_⟩
 rw [h.e]
 subst hs
 exact hv
theorem of_valid {s : SysA} {A F T : Nat} {rs : List RunA} (hs : s = ⟨A, F, T, rs⟩) {f : List Nd} {t : Tr} (h : Is A F f t) (hv : validA s f = true) : ∀ i, i < rs.length → ∀ u, u < T → evT rs A T t (i, u) = true := by
 have := (valid_iff.1 hv).2
 rw [h.e] at this
 subst hs
 exact this
section
variable {rs : List RunA} {A T : Nat} {t u : Tr} {p : Nat × Nat}
theorem ev_not : evT rs A T (nT t) p = !evT rs A T t p := rfl
theorem ev_and : evT rs A T (andT t u) p = (evT rs A T t p && evT rs A T u p) := rfl
theorem ev_or : evT rs A T (orT t u) p = (evT rs A T t p || evT rs A T u p) := rfl
theorem ev_imp : evT rs A T (impT t u) p = (!evT rs A T t p || evT rs A T u p) := rfl
theorem ev_iff : evT rs A T (iffT t u) p = (evT rs A T t p == evT rs A T u p) := rfl
theorem ev_know {a : Nat} : evT rs A T (knT a t) p = knowP rs T a (evT rs A T t) p := rfl
theorem ev_next : evT rs A T (nxT t) p = shP T 1 (evT rs A T t) p := rfl
theorem ev_prev : evT rs A T (pvT t) p = shP T (-1) (evT rs A T t) p := rfl
theorem ev_until : evT rs A T (unT t u) p = untP T 1 (evT rs A T t) (evT rs A T u) p := rfl
theorem ev_since : evT rs A T (snT t u) p = untP T (-1) (evT rs A T t) (evT rs A T u) p := rfl
theorem ev_true : evT rs A T trT p = true := rfl
end
theorem next_at {T : Nat} {x : Tab} {i t : Nat} : shP T 1 x (i, t) = (decide (t + 1 < T) && x (i, t + 1)) := by
 unfold shP
 have e : (((t : Int)) + 1).toNat = t + 1 := by omega
 have e1 : decide (0 ≤ (t : Int) + 1) = true := decide_eq_true (by omega)
 have e2 : decide ((t : Int) + 1 < T) = decide (t + 1 < T) := decide_eq_decide.2 (by omega)
 simp only [e, e1, e2, Bool.true_and]
theorem prev_at {T : Nat} {x : Tab} {i t : Nat} (ht : t < T) : shP T (-1) x (i, t) = (decide (0 < t) && x (i, t - 1)) := by
 unfold shP
 have e : (((t : Int)) + -1).toNat = t - 1 := by omega
 have e1 : decide (0 ≤ (t : Int) + -1) = decide (0 < t) := decide_eq_decide.2 (by omega)
 have e2 : decide ((t : Int) + -1 < T) = true := decide_eq_true (by omega)
 simp only [e, e1, e2, Bool.true_and]
theorem until_step {T : Nat} {x y : Tab} {i t : Nat} (ht : t < T) : untP T 1 x y (i, t) = (y (i, t) || (x (i, t) && shP T 1 (untP T 1 x y) (i, t))) := by
 rw [next_at]
 unfold untP
 simp only [show (0 : Int) < 1 from by decide, ↓reduceIte]
 rw [show T - t = (T - (t + 1)) + 1 by omega, runU, show tmU T 1 (T - (t + 1)) = t by unfold tmU; rw [if_pos (by decide)]; omega]
 by_cases h : t + 1 < T
 ·rw [decide_eq_true h, Bool.true_and]
 ·rw [decide_eq_false h, Bool.false_and, show T - (t + 1) = 0 by omega, runU]
theorem since_step {T : Nat} {x y : Tab} {i t : Nat} (ht : t < T) : untP T (-1) x y (i, t) = (y (i, t) || (x (i, t) && shP T (-1) (untP T (-1) x y) (i, t))) := by
 rw [prev_at ht]
 unfold untP
 simp only [show ¬ (0 : Int) < -1 from by decide, ↓reduceIte]
 rw [runU, show tmU T (-1) t = t by unfold tmU; rw [if_neg (by decide)]]
 by_cases h : 0 < t
 ·rw [decide_eq_true h, Bool.true_and, show t - 1 + 1 = t by omega]
 ·rw [decide_eq_false h, Bool.false_and, show t = 0 by omega, runU]
theorem know_iff {rs : List RunA} {T a : Nat} {x : Tab} {p : Nat × Nat} : knowP rs T a x p = true ↔ ∀ q ∈ ptl rs T, locA rs a q = locA rs a p → x q = true := by
 unfold knowP
 simp only [List.all_eq_true, Bool.or_eq_true, Bool.not_eq_true', decide_eq_false_iff_not]
 constructor
 ·intro h q hq e; exact (h q hq).resolve_left (fun n => n e)
 ·intro h q hq
  by_cases e : locA rs a q = locA rs a p
  ·exact .inr (h q hq e)
  ·exact .inl e
theorem know_same {rs : List RunA} {T a : Nat} {x : Tab} {p q : Nat × Nat} (h : locA rs a q = locA rs a p) : knowP rs T a x q = knowP rs T a x p := by
 rw [Bool.eq_iff_iff, know_iff, know_iff, h]
theorem runU_false {T : Nat} {x y : Tab} {i : Nat} (h : ∀ t, t < T → y (i, t) = false) : ∀ k, k ≤ T → runU T 1 x y i k = false
 | 0, _ => rfl
 | k + 1, hk => by rw [runU, h _ (by unfold tmU; rw [if_pos (by decide)]; omega), runU_false h k (by omega)]; simp
theorem knows_law {s : SysA} {A F T : Nat} {rs : List RunA} (hs : s = ⟨A, F, T, rs⟩) (hz : chk s = 0) (ok : OkR rs A F T) {f : List Nd} (hl : f.length ≤ 20) (hf : reqE s f = 0) {a : Nat} (ha : a < A) :
  validA s (impA (knowA a f) f) = true ∧ validA s (impA (knowA a f) (knowA a (knowA a f))) = true ∧ validA s (impA (notA (knowA a f)) (knowA a (notA (knowA a f)))) = true ∧
   (alwaysA f).2 = 0 ∧ (validA s f = true → validA s (knowA a (alwaysA f).1) = true) := by
 have I := Is.start hs hz ok hf
 have hsz : szT (treeF f) ≤ 20 := Nat.le_trans (sz_le I.c) hl
 generalize treeF f = t at I hsz
 have hA := ok.hA
 have hT := ok.hT.1
 obtain ⟨I1, z1⟩ := is_know ha hA I (by omega)
 obtain ⟨I2, z2⟩ := is_imp I1 I (by omega)
 obtain ⟨I3, z3⟩ := is_know ha hA I1 (by omega)
 obtain ⟨I4, z4⟩ := is_imp I1 I3 (by omega)
 obtain ⟨I5, z5⟩ := is_not I1 (by omega)
 obtain ⟨I6, z6⟩ := is_know ha hA I5 (by omega)
 obtain ⟨I7, z7⟩ := is_imp I5 I6 (by omega)
 obtain ⟨I8, z8, e8⟩ := is_always I (by omega)
 obtain ⟨I9, z9⟩ := is_know ha hA I8 (by omega)
 refine ⟨valid_of hs hz ok I2 fun i hi u hu => ?_, valid_of hs hz ok I4 fun i hi u hu => ?_, valid_of hs hz ok I7 fun i hi u hu => ?_, e8, fun hv => valid_of hs hz ok I9 fun i hi u hu => ?_⟩
 ·rw [ev_imp, ev_know]
  cases h : knowP rs T a (evT rs A T t) (i, u) with
  | false => rfl
  | true => rw [know_iff.1 h _ (mem_ptl hT hi hu) rfl]; rfl
 ·rw [ev_imp, ev_know, ev_know]
  cases h : knowP rs T a (evT rs A T t) (i, u) with
  | false => rfl
  | true =>
   have : knowP rs T a (evT rs A T (knT a t)) (i, u) = true := know_iff.2 fun q hq e => by
    rw [ev_know, know_same e]; exact h
   rw [this]; rfl
 ·rw [ev_imp, ev_not, ev_know, ev_know]
  cases h : knowP rs T a (evT rs A T t) (i, u) with
  | true => rfl
  | false =>
   have : knowP rs T a (evT rs A T (nT (knT a t))) (i, u) = true := know_iff.2 fun q hq e => by
    rw [ev_not, ev_know, know_same e, h]; rfl
   rw [this]; rfl
 ·rw [ev_know]
  have hv' := of_valid hs I hv
  refine know_iff.2 fun q hq _ => ?_
  have hq' := ptl_in hT hq
  rw [ev_not, ev_until]
  unfold untP
  rw [if_pos (by decide), runU_false (fun t' ht' => by rw [ev_not, hv' _ hq'.1 _ ht']; rfl) _ (by omega)]; rfl
theorem steps_law {s : SysA} {A F T : Nat} {rs : List RunA} (hs : s = ⟨A, F, T, rs⟩) (hz : chk s = 0) (ok : OkR rs A F T) {f : List Nd} (hl : f.length ≤ 20) (hf : reqE s f = 0) :
  validA s (iffA (nextA (prevA f)) (andA f (nextA trueA))) = true ∧ validA s (iffA (prevA (nextA f)) (andA f (prevA trueA))) = true ∧ validA s (iffA (nextA (notA f)) (andA (nextA trueA) (notA (nextA f)))) = true := by
 have I := Is.start hs hz ok hf
 have hsz : szT (treeF f) ≤ 20 := Nat.le_trans (sz_le I.c) hl
 generalize treeF f = t at I hsz
 obtain ⟨J, y⟩ := is_true (A := A) (F := F)
 obtain ⟨I1, z1⟩ := is_next J (by omega)
 obtain ⟨I2, z2⟩ := is_prev J (by omega)
 obtain ⟨I3, z3⟩ := is_prev I (by omega)
 obtain ⟨I4, z4⟩ := is_next I3 (by omega)
 obtain ⟨I5, z5⟩ := is_and I I1 (by omega)
 obtain ⟨I6, z6⟩ := is_iff I4 I5 (by omega)
 obtain ⟨I7, z7⟩ := is_next I (by omega)
 obtain ⟨I8, z8⟩ := is_prev I7 (by omega)
 obtain ⟨I9, z9⟩ := is_and I I2 (by omega)
 obtain ⟨J1, y1⟩ := is_iff I8 I9 (by omega)
 obtain ⟨J2, y2⟩ := is_not I (by omega)
 obtain ⟨J3, y3⟩ := is_next J2 (by omega)
 obtain ⟨J4, y4⟩ := is_not I7 (by omega)
 obtain ⟨J5, y5⟩ := is_and I1 J4 (by omega)
 obtain ⟨J6, y6⟩ := is_iff J3 J5 (by omega)
 refine ⟨valid_of hs hz ok I6 fun i hi u hu => ?_, valid_of hs hz ok J1 fun i hi u hu => ?_, valid_of hs hz ok J6 fun i hi u hu => ?_⟩
 ·rw [ev_iff, ev_next, ev_and, ev_next, next_at, next_at, ev_true]
  by_cases h : u + 1 < T
  ·rw [ev_prev, prev_at h, decide_eq_true h, decide_eq_true (show 0 < u + 1 by omega), Nat.add_sub_cancel]
   cases evT rs A T t (i, u) <;> rfl
  ·rw [decide_eq_false h]; cases evT rs A T t (i, u) <;> rfl
 ·rw [ev_iff, ev_prev, ev_and, ev_prev, prev_at hu, prev_at hu, ev_true]
  by_cases h : 0 < u
  ·rw [ev_next, next_at, decide_eq_true h, show u - 1 + 1 = u by omega, decide_eq_true hu]
   cases evT rs A T t (i, u) <;> rfl
  ·rw [decide_eq_false h]; cases evT rs A T t (i, u) <;> rfl
 ·rw [ev_iff, ev_next, ev_and, ev_next, ev_not, ev_next, next_at, next_at, next_at, ev_true, ev_not]
  cases decide (u + 1 < T) <;> cases evT rs A T t (i, u + 1) <;> rfl
theorem unfolds_law {s : SysA} {A F T : Nat} {rs : List RunA} (hs : s = ⟨A, F, T, rs⟩) (hz : chk s = 0) (ok : OkR rs A F T) {f g : List Nd} (hl : f.length ≤ 20) (hl2 : g.length ≤ 20) (hf : reqE s f = 0) (hg : reqE s g = 0) :
  validA s (iffA (untilA f g) (orA g (andA f (nextA (untilA f g))))) = true ∧ validA s (iffA (sinceA f g) (orA g (andA f (prevA (sinceA f g))))) = true ∧
   (alwaysA f).2 = 0 ∧ (someA (notA f)).2 = 0 ∧ validA s (iffA (alwaysA f).1 (notA (someA (notA f)).1)) = true ∧
   validA s (iffA (alwaysA f).1 (andA f (orA (notA (nextA trueA)) (nextA (alwaysA f).1)))) = true := by
 have I := Is.start hs hz ok hf
 have hsz : szT (treeF f) ≤ 20 := Nat.le_trans (sz_le I.c) hl
 generalize treeF f = t at I hsz
 have K := Is.start hs hz ok hg
 have hsz2 : szT (treeF g) ≤ 20 := Nat.le_trans (sz_le K.c) hl2
 generalize treeF g = w at K hsz2
 obtain ⟨J, y⟩ := is_true (A := A) (F := F)
 obtain ⟨I1, z1⟩ := is_until I K (by omega)
 obtain ⟨I2, z2⟩ := is_next I1 (by omega)
 obtain ⟨I3, z3⟩ := is_and I I2 (by omega)
 obtain ⟨I4, z4⟩ := is_or K I3 (by omega)
 obtain ⟨I5, z5⟩ := is_iff I1 I4 (by omega)
 obtain ⟨K1, x1⟩ := is_since I K (by omega)
 obtain ⟨K2, x2⟩ := is_prev K1 (by omega)
 obtain ⟨K3, x3⟩ := is_and I K2 (by omega)
 obtain ⟨K4, x4⟩ := is_or K K3 (by omega)
 obtain ⟨K5, x5⟩ := is_iff K1 K4 (by omega)
 obtain ⟨L1, w1, e1⟩ := is_always I (by omega)
 obtain ⟨L2, w2⟩ := is_not I (by omega)
 obtain ⟨L3, w3, e3⟩ := is_some L2 (by omega)
 obtain ⟨L4, w4⟩ := is_not L3 (by omega)
 obtain ⟨L5, w5⟩ := is_iff L1 L4 (by omega)
 obtain ⟨M1, v1⟩ := is_next J (by omega)
 obtain ⟨M2, v2⟩ := is_not M1 (by omega)
 obtain ⟨M3, v3⟩ := is_next L1 (by omega)
 obtain ⟨M4, v4⟩ := is_or M2 M3 (by omega)
 obtain ⟨M5, v5⟩ := is_and I M4 (by omega)
 obtain ⟨M6, v6⟩ := is_iff L1 M5 (by omega)
 refine ⟨valid_of hs hz ok I5 fun i hi u hu => ?_, valid_of hs hz ok K5 fun i hi u hu => ?_, e1, e3, valid_of hs hz ok L5 fun i hi u hu => ?_, valid_of hs hz ok M6 fun i hi u hu => ?_⟩
 ·rw [ev_iff, ev_or, ev_and, ev_next, ev_until, until_step hu, beq_iff_eq]; rfl
 ·rw [ev_iff, ev_or, ev_and, ev_prev, ev_since, since_step hu, beq_iff_eq]; rfl
 ·rw [ev_iff]; exact beq_self_eq_true _
 ·rw [ev_iff, ev_and, ev_or, ev_not, ev_next, ev_not, ev_next, next_at, next_at, ev_true, ev_not, ev_until, until_step hu, next_at, ev_not, ev_true, ev_until]
  cases decide (u + 1 < T) <;> cases evT rs A T t (i, u) <;> cases untP T 1 (evT rs A T trT) (evT rs A T (nT t)) (i, u + 1) <;> rfl
end Te
end Go.Pd
