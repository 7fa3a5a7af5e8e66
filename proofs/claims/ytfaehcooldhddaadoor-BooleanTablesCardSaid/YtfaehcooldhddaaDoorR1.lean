/- The reference's truth tables. -/
import Derived.Test.YtfaehcooldhddaaDoorP6
import Derived.Test.YtfaehcooldhddaaDoorP8
import Derived.Test.YtfaehcooldhddaaDoorX9
set_option linter.unusedSectionVars false
set_option linter.unusedVariables false
set_option linter.unusedSimpArgs false
set_option linter.defProp false
set_option maxRecDepth 20000
namespace Go.Pd
open Go Go.Proofs
open Rs Fm
namespace Fm
def valN (p : Nd) (v : List Bool) (facts : Nat) : Bool := if p.op = 3 then facts.testBit p.i.toNat else combB p.op (v.getD p.x.toNat false) (v.getD p.y.toNat false)
def valsR (c : List Nd) (facts : Nat) : Nat → List Bool
  | 0 => []
  | k + 1 => valsR c facts k ++ [valN (c.getD k nd0) (valsR c facts k) facts]
theorem valsR_len (c : List Nd) (facts : Nat) : ∀ k, (valsR c facts k).length = k
  | 0 => rfl
  | k + 1 => by simp [valsR, valsR_len c facts k]
theorem valsR_eq {c : List Nd} {facts : Nat} (hv : validL c) (hp : ∀ p ∈ c, p.op ≤ 8) : ∀ k, k ≤ c.length → ∀ j, j < k → (valsS c (leafT c facts) k).getD j false = (valsR c facts k).getD j false
  | 0, _, j, h => by omega
  | k + 1, hk, j, hj => by
    have ih := valsR_eq (facts := facts) hv hp k (by omega)
    unfold valsS valsR
    by_cases e : j = k
    · subst e
      obtain ⟨ox, oy, zx, zy⟩ := node_ops' (hv j (by omega))
      have h8 := hp (c.getD j nd0) (by simp only [List.getD, List.getElem?_eq_getElem (show j < c.length by omega), Option.getD_some]; exact List.getElem_mem _)
      have hl := valsS_len c (leafT c facts) j
      have hr := valsR_len c facts j
      have e1 : ∀ x : Bool, ((valsS c (leafT c facts) j).set j x).getD j false = x := fun x => by
        simp only [List.getD, List.getElem?_set_self (show j < (valsS c (leafT c facts) j).length by omega), Option.getD_some]
      rw [e1]
      have e2 : (valsR c facts j ++ [valN (c.getD j nd0) (valsR c facts j) facts]).getD j false = valN (c.getD j nd0) (valsR c facts j) facts := by
        simp [List.getD, hr]
      rw [e2]
      unfold valN
      by_cases h3 : (c.getD j nd0).op = 3
      · rw [if_pos (.inl h3), if_pos h3]; rfl
      · rw [if_neg (by omega), if_neg h3]
        have hx : (usesA (c.getD j nd0).op).1.x = true → (valsS c (leafT c facts) j).getD (c.getD j nd0).x.toNat false = (valsR c facts j).getD (c.getD j nd0).x.toNat false := fun h => ih _ (ox h).2
        have hy : (usesA (c.getD j nd0).op).1.y = true → (valsS c (leafT c facts) j).getD (c.getD j nd0).y.toNat false = (valsR c facts j).getD (c.getD j nd0).y.toNat false := fun h => ih _ (oy h).2
        generalize (c.getD j nd0).op = op at h8 h3 hx hy
        by_cases ux : (usesA op).1.x = true
        · rw [hx ux]
          by_cases uy : (usesA op).1.y = true
          · rw [hy uy]
          · rw [uses_x] at ux
            simp only [Bool.and_eq_true, decide_eq_true_eq] at ux
            have : op = 4 ∨ op = 5 ∨ op = 6 ∨ op = 7 ∨ op = 8 := by omega
            rcases this with rfl | rfl | rfl | rfl | rfl
            · rfl
            all_goals exact absurd rfl uy
        · rw [uses_x] at ux
          simp only [Bool.and_eq_true, decide_eq_true_eq] at ux
          simp only [combB, if_neg (show ¬ op = 4 by omega), if_neg (show ¬ op = 5 by omega), if_neg (show ¬ op = 6 by omega), if_neg (show ¬ op = 7 by omega), if_neg (show ¬ op = 8 by omega)]
    · have h1 : ∀ x, ((valsS c (leafT c facts) k).set k x).getD j false = (valsS c (leafT c facts) k).getD j false := fun x => by
        simp only [List.getD, List.getElem?_set_ne (Ne.symm e)]
      rw [h1, ih j (by omega)]
      have := valsR_len c facts k
      simp only [List.getD, List.getElem?_append_left (show j < (valsR c facts k).length by omega)]
theorem valueR {c : List Nd} {facts : Nat} (hv : validL c) (hp : ∀ p ∈ c, p.op ≤ 8) (hn : 0 < c.length) : (valsR c facts c.length).getD (c.length - 1) false = valueA c (leafT c facts) :=
  (valsR_eq hv hp c.length (Nat.le_refl _) _ (by omega)).symm
end Fm
theorem refValue43 {p : Nd} {v : List Bool} {facts : Nat} (hp : nodeE p v.length = 0) (h8 : p.op ≤ 8) (hf : facts < 2 ^ 60) : Runs Tryd.prog 43 [.agg p.row, .sl 1 (rb v), .int .i64 facts] (.bool (valN p v facts)) := by
  obtain ⟨ox, oy, zx, zy⟩ := node_ops' hp
  have hok := (nodeE_iff.1 hp).1
  have hi := nd_i hp
  have hlen := rb_len v
  obtain ⟨op, i, e, g, x, y⟩ := p
  simp only at ox oy zx zy hok hi h8
  unfold valN
  simp only [Nd.row]
  have hop : op = 1 ∨ op = 2 ∨ op = 3 ∨ op = 4 ∨ op = 5 ∨ op = 6 ∨ op = 7 ∨ op = 8 := by
    rcases Int.lt_or_le op 1 with h | h
    · rw [uses_out (.inl h)] at hok; cases hok
    · omega
  rcases hop with rfl | rfl | rfl | rfl | rfl | rfl | rfl | rfl
  · refine CallT.go_fn mixed Tryd.func43 k43 (by simp) fun hf => ?_
    simp only [Int.reduceToNat, Int.reduceLT, Int.reduceLE, Int.reduceBEq, Int.reduceBNe, St0, argFr, ↓callZ, ↓midZ, ↓unZ, ↓thenW, ↓blockW, ↓opX, ↓opV, ↓pX, ↓pW, ↓putK, ↓putP, ↓atK, ↓normK, ↓postZ, ↓reduceIte, reduceIte, Nat.reduceEqDiff, Nat.reduceAdd, Nat.reduceBEq, Nat.reduceLT, Nat.reduceLeDiff, binW, bodyQ, ressW, resW, ne_eq, forall_const, reduceCtorEq, implies_true, sets, oneAll, setD, rels, fillE, fillD, List.replicate, rowsOf, forall_eq, Nat.reduceMul, ↓zD, zT]
    (repeat refine And.intro (by first | omega | exact ui_nonneg _ | exact Int.natCast_nonneg _ | rfl | exact rows_one' _ _ | exact us_one _ | (intro _ h; cases h; done)) ?_)
    exact .drop (by simp) (by simp [vw, combB])
  · refine CallT.go_fn mixed Tryd.func43 k43 (by simp) fun hf => ?_
    simp only [Int.reduceToNat, Int.reduceLT, Int.reduceLE, Int.reduceBEq, Int.reduceBNe, St0, argFr, ↓callZ, ↓midZ, ↓unZ, ↓thenW, ↓blockW, ↓opX, ↓opV, ↓pX, ↓pW, ↓putK, ↓putP, ↓atK, ↓normK, ↓postZ, ↓reduceIte, reduceIte, Nat.reduceEqDiff, Nat.reduceAdd, Nat.reduceBEq, Nat.reduceLT, Nat.reduceLeDiff, binW, bodyQ, ressW, resW, ne_eq, forall_const, reduceCtorEq, implies_true, sets, oneAll, setD, rels, fillE, fillD, List.replicate, rowsOf, forall_eq, Nat.reduceMul, ↓zD, zT]
    (repeat refine And.intro (by first | omega | exact ui_nonneg _ | exact Int.natCast_nonneg _ | rfl | exact rows_one' _ _ | exact us_one _ | (intro _ h; cases h; done)) ?_)
    exact .drop (by simp) (by simp [vw, combB])
  · obtain ⟨w, rfl⟩ := Int.eq_ofNat_of_zero_le hi.1
    refine CallT.go_fn mixed Tryd.func43 k43 (by simp) fun hf => ?_
    simp only [Int.reduceToNat, Int.reduceLT, Int.reduceLE, Int.reduceBEq, Int.reduceBNe, St0, argFr, ↓callZ, ↓midZ, ↓unZ, ↓thenW, ↓blockW, ↓opX, ↓opV, ↓pX, ↓pW, ↓putK, ↓putP, ↓atK, ↓normK, ↓postZ, ↓reduceIte, reduceIte, Nat.reduceEqDiff, Nat.reduceAdd, Nat.reduceBEq, Nat.reduceLT, Nat.reduceLeDiff, binW, bodyQ, ressW, resW, ne_eq, forall_const, reduceCtorEq, implies_true, sets, oneAll, setD, rels, fillE, fillD, List.replicate, rowsOf, forall_eq, Nat.reduceMul, ↓zD, zT, convN (show w ≤ 1000000 by omega), shrNat facts w (by omega), and1Nat (div_lt62 (show facts < 2 ^ 62 by omega) w), bitNat]
    (repeat refine And.intro (by first | omega | exact ui_nonneg _ | exact Int.natCast_nonneg _ | rfl | exact rows_one' _ _ | exact us_one _ | (intro _ h; cases h; done)) ?_)
    exact .drop (by simp) (by simp [vw])
  · obtain ⟨x0, x1⟩ := ox rfl
    obtain ⟨a, rfl⟩ := Int.eq_ofNat_of_zero_le x0
    rw [Int.toNat_natCast] at x1
    refine CallT.go_fn mixed Tryd.func43 k43 (by simp) fun hf => ?_
    simp only [Int.reduceToNat, Int.reduceLT, Int.reduceLE, Int.reduceBEq, Int.reduceBNe, St0, argFr, ↓callZ, ↓midZ, ↓unZ, ↓thenW, ↓blockW, ↓opX, ↓opV, ↓pX, ↓pW, ↓putK, ↓putP, ↓atK, ↓normK, ↓postZ, ↓reduceIte, reduceIte, Nat.reduceEqDiff, Nat.reduceAdd, Nat.reduceBEq, Nat.reduceLT, Nat.reduceLeDiff, binW, bodyQ, ressW, resW, ne_eq, forall_const, reduceCtorEq, implies_true, sets, oneAll, setD, rels, fillE, fillD, List.replicate, rowsOf, forall_eq, Nat.reduceMul, ↓zD, zT, hlen, rb_get v x1]
    (repeat refine And.intro (by first | omega | exact ui_nonneg _ | exact Int.natCast_nonneg _ | rfl | exact rows_one' _ _ | exact us_one _ | (intro _ h; cases h; done)) ?_)
    exact .drop (by simp) (by simp [vw, combB])
  all_goals
    obtain ⟨x0, x1⟩ := ox rfl
    obtain ⟨y0, y1⟩ := oy rfl
    obtain ⟨a, rfl⟩ := Int.eq_ofNat_of_zero_le x0
    obtain ⟨b, rfl⟩ := Int.eq_ofNat_of_zero_le y0
    rw [Int.toNat_natCast] at x1 y1
    refine CallT.go_fn mixed Tryd.func43 k43 (by simp) fun hf => ?_
    cases hva : v.getD a false <;> cases hvb : v.getD b false <;>
    (simp only [Int.reduceToNat, Int.reduceLT, Int.reduceLE, Int.reduceBEq, Int.reduceBNe, St0, argFr, ↓callZ, ↓midZ, ↓unZ, ↓thenW, ↓blockW, ↓opX, ↓opV, ↓pX, ↓pW, ↓putK, ↓putP, ↓atK, ↓normK, ↓postZ, ↓reduceIte, reduceIte, Nat.reduceEqDiff, Nat.reduceAdd, Nat.reduceBEq, Nat.reduceLT, Nat.reduceLeDiff, binW, bodyQ, ressW, resW, ne_eq, forall_const, reduceCtorEq, implies_true, sets, oneAll, setD, rels, fillE, fillD, List.replicate, rowsOf, forall_eq, Nat.reduceMul, ↓zD, zT, hlen, rb_get v x1, rb_get v y1, hva, hvb]
     (repeat refine And.intro (by first | omega | exact ui_nonneg _ | exact Int.natCast_nonneg _ | rfl | exact rows_one' _ _ | exact us_one _ | (intro _ h; cases h; done)) ?_)
     exact .drop (by simp) (by simp [vw, combB, hva, hvb, -List.getD_eq_getElem?_getD]))
theorem refTable13 (f : List Nd) (n : Int) : Runs Tryd.prog 13 [.sl 6 (ndR f), .int .i64 n] (.tup [.int .u64 (ui (tableA f n).1), .int .i64 (tableA f n).2]) := by
  refine CallT.go_fn mixed Tryd.func13 k13 (by simp) fun hf => ?_
  simp only [Int.reduceToNat, Int.reduceLT, Int.reduceLE, Int.reduceBEq, Int.reduceBNe, St0, argFr, ↓callZ, ↓midZ, ↓unZ, ↓thenW, ↓blockW, ↓opX, ↓opV, ↓pX, ↓pW, ↓putK, ↓putP, ↓atK, ↓normK, ↓postZ, ↓reduceIte, reduceIte, Nat.reduceEqDiff, Nat.reduceAdd, Nat.reduceBEq, Nat.reduceLT, Nat.reduceLeDiff, binW, bodyQ, ressW, resW, ne_eq, forall_const, reduceCtorEq, implies_true, sets, oneAll, setD, rels, fillE, fillD, List.replicate, rowsOf, forall_eq, Nat.reduceMul, ↓zD, zT]
  refine .go (CallT.of_runs (Check39 f) (by simp [D.isPureL, D.isPure])) ?_
  by_cases hc : checkF f = 0
  case neg =>
    have e : (checkF f != 0) = true := by simpa using hc
    simp only [Int.reduceToNat, Int.reduceLT, Int.reduceLE, Int.reduceBEq, Int.reduceBNe, St0, argFr, ↓callZ, ↓midZ, ↓unZ, ↓thenW, ↓blockW, ↓opX, ↓opV, ↓pX, ↓pW, ↓putK, ↓putP, ↓atK, ↓normK, ↓postZ, ↓reduceIte, reduceIte, Nat.reduceEqDiff, Nat.reduceAdd, Nat.reduceBEq, Nat.reduceLT, Nat.reduceLeDiff, binW, bodyQ, ressW, resW, ne_eq, forall_const, reduceCtorEq, implies_true, sets, oneAll, setD, rels, fillE, fillD, List.replicate, rowsOf, forall_eq, Nat.reduceMul, ↓zD, zT, e]
    rw [show tableA f n = (0#64, checkF f) from if_pos hc]
    exact .same
  have e : (checkF f != 0) = false := by simpa using hc
  simp only [Int.reduceToNat, Int.reduceLT, Int.reduceLE, Int.reduceBEq, Int.reduceBNe, St0, argFr, ↓callZ, ↓midZ, ↓unZ, ↓thenW, ↓blockW, ↓opX, ↓opV, ↓pX, ↓pW, ↓putK, ↓putP, ↓atK, ↓normK, ↓postZ, ↓reduceIte, reduceIte, Nat.reduceEqDiff, Nat.reduceAdd, Nat.reduceBEq, Nat.reduceLT, Nat.reduceLeDiff, binW, bodyQ, ressW, resW, ne_eq, forall_const, reduceCtorEq, implies_true, sets, oneAll, setD, rels, fillE, fillD, List.replicate, rowsOf, forall_eq, Nat.reduceMul, ↓zD, zT, e]
  refine .go (CallT.of_runs (refCompact40 f) (by simp [D.isPureL, D.isPure])) ?_
  simp only [Int.reduceToNat, Int.reduceLT, Int.reduceLE, Int.reduceBEq, Int.reduceBNe, St0, argFr, ↓callZ, ↓midZ, ↓unZ, ↓thenW, ↓blockW, ↓opX, ↓opV, ↓pX, ↓pW, ↓putK, ↓putP, ↓atK, ↓normK, ↓postZ, ↓reduceIte, reduceIte, Nat.reduceEqDiff, Nat.reduceAdd, Nat.reduceBEq, Nat.reduceLT, Nat.reduceLeDiff, binW, bodyQ, ressW, resW, ne_eq, forall_const, reduceCtorEq, implies_true, sets, oneAll, setD, rels, fillE, fillD, List.replicate, rowsOf, forall_eq, Nat.reduceMul, ↓zD, zT]
  have hfi := refFacts42 (compactA f)
  rw [facts_idem hc] at hfi
  have hfz := @frags_zero f
  have hfp := @fits_prop f
  have hE : ∀ x, tableA f n = x → tableA f n = x := fun _ h => h
  have hTab : tableA f n = if fragsA f ≠ 0 then (0#64, 10) else if n < 0 ∨ 6 < n ∨ fitsB f 0 n = false then (0#64, 2) else (tabS (compactA f) (2 ^ n.toNat), 0) := by rw [tableA, if_neg (by simpa using hc)]
  have hv := validC f
  have hne := compact_ne hc
  have hln : (compactA f).length ≤ 200 := sub_len f ((f.length : Int) - 1)
  rw [hTab]
  generalize compactA f = c at hfi hfz hv hne hln
  refine wpS_loop (fun k : Nat => [(7, .int .i64 k), (1, .int .i64 n), (0, .sl 6 (ndR c))]) (fun _ => ⟨0, []⟩) (fun k => k ≤ c.length ∧ ∀ p ∈ c.take k, p.op ≤ 8) (fun k => c.length - k) 0 ⟨Nat.zero_le _, by simp⟩ ?_ ?_
  · (refine Weak.same ?_; simp [sameF, Fr.get])
  intro k ⟨hk, hi⟩
  refine wpS_go mixed ?_
  have hw : IntKind.i64.wrap ((k : Int) + 1) = ((k + 1 : Nat) : Int) := wrap_i64 (by omega)
  by_cases h : k < c.length
  · have hd : ((k : Int) < (c.length : Int)) := by omega
    have hg := ndR_get c h
    have hq := hv k h
    have hmem : c.getD k nd0 ∈ c := by
      simp only [List.getD, List.getElem?_eq_getElem h, Option.getD_some]; exact List.getElem_mem _
    have hsn := take_snoc (d := nd0) h
    generalize c.getD k nd0 = p at hg hq hmem hsn
    have h1 : 1 ≤ p.op := by
      have hok := (nodeE_iff.1 hq).1
      rcases Int.lt_or_le p.op 1 with h | h
      · rw [uses_out (.inl h)] at hok; cases hok
      · exact h
    simp only [Int.reduceToNat, Int.reduceLT, Int.reduceLE, Int.reduceBEq, Int.reduceBNe, St0, argFr, ↓callZ, ↓midZ, ↓unZ, ↓thenW, ↓blockW, ↓opX, ↓opV, ↓pX, ↓pW, ↓putK, ↓putP, ↓atK, ↓normK, ↓postZ, ↓reduceIte, reduceIte, Nat.reduceEqDiff, Nat.reduceAdd, Nat.reduceBEq, Nat.reduceLT, Nat.reduceLeDiff, binW, bodyQ, ressW, resW, ne_eq, forall_const, reduceCtorEq, implies_true, sets, oneAll, setD, rels, fillE, fillD, List.replicate, rowsOf, forall_eq, Nat.reduceMul, ↓zD, zT, hd, ndR_len, hg, Nd.row]
    (repeat refine And.intro (by first | omega | exact ui_nonneg _ | exact Int.natCast_nonneg _ | rfl | exact rows_one' _ _ | exact us_one _ | (intro _ h; cases h; done)) ?_)
    refine .go (CallT.of_runs (Propositional41 p.op) rfl) ?_
    by_cases h8 : p.op ≤ 8
    · rw [decide_eq_true h1, decide_eq_true h8]
      simp only [Int.reduceToNat, Int.reduceLT, Int.reduceLE, Int.reduceBEq, Int.reduceBNe, St0, argFr, ↓callZ, ↓midZ, ↓unZ, ↓thenW, ↓blockW, ↓opX, ↓opV, ↓pX, ↓pW, ↓putK, ↓putP, ↓atK, ↓normK, ↓postZ, ↓reduceIte, reduceIte, Nat.reduceEqDiff, Nat.reduceAdd, Nat.reduceBEq, Nat.reduceLT, Nat.reduceLeDiff, binW, bodyQ, ressW, resW, ne_eq, forall_const, reduceCtorEq, implies_true, sets, oneAll, setD, rels, fillE, fillD, List.replicate, rowsOf, forall_eq, Nat.reduceMul, ↓zD, zT]
      refine ⟨k + 1, ⟨by omega, fun q hq => ?_⟩, ?_, by omega⟩
      · rw [hsn, List.mem_append, List.mem_singleton] at hq
        rcases hq with hq | rfl
        · exact hi q hq
        · exact h8
      · (refine Weak.same ?_; simp only [sameF, Fr.get, ↓reduceIte, reduceIte, Nat.reduceEqDiff, reduceCtorEq, D.int.injEq, D.bool.injEq, D.sl.injEq, and_true, true_and, and_self])
        exact hw
    · rw [decide_eq_true h1, decide_eq_false h8]
      have hfr : fragsA f ≠ 0 := fun e => h8 (hfz.1 e p hmem)
      rw [if_pos hfr]
      simp only [Int.reduceToNat, Int.reduceLT, Int.reduceLE, Int.reduceBEq, Int.reduceBNe, St0, argFr, ↓callZ, ↓midZ, ↓unZ, ↓thenW, ↓blockW, ↓opX, ↓opV, ↓pX, ↓pW, ↓putK, ↓putP, ↓atK, ↓normK, ↓postZ, ↓reduceIte, reduceIte, Nat.reduceEqDiff, Nat.reduceAdd, Nat.reduceBEq, Nat.reduceLT, Nat.reduceLeDiff, binW, bodyQ, ressW, resW, ne_eq, forall_const, reduceCtorEq, implies_true, sets, oneAll, setD, rels, fillE, fillD, List.replicate, rowsOf, forall_eq, Nat.reduceMul, ↓zD, zT]
      exact .same
  obtain rfl : k = c.length := by omega
  rw [List.take_length] at hi
  have hd : ¬ ((c.length : Int) < (c.length : Int)) := by omega
  have hfr : fragsA f = 0 := hfz.2 hi
  rw [if_neg (by simpa using hfr)]
  by_cases h1 : n < 0
  · rw [if_pos (.inl h1)]
    simp only [Int.reduceToNat, Int.reduceLT, Int.reduceLE, Int.reduceBEq, Int.reduceBNe, St0, argFr, ↓callZ, ↓midZ, ↓unZ, ↓thenW, ↓blockW, ↓opX, ↓opV, ↓pX, ↓pW, ↓putK, ↓putP, ↓atK, ↓normK, ↓postZ, ↓reduceIte, reduceIte, Nat.reduceEqDiff, Nat.reduceAdd, Nat.reduceBEq, Nat.reduceLT, Nat.reduceLeDiff, binW, bodyQ, ressW, resW, ne_eq, forall_const, reduceCtorEq, implies_true, sets, oneAll, setD, rels, fillE, fillD, List.replicate, rowsOf, forall_eq, Nat.reduceMul, ↓zD, zT, hd, ndR_len, h1]
    exact .same
  by_cases h2 : 6 < n
  · rw [if_pos (.inr (.inl h2))]
    simp only [Int.reduceToNat, Int.reduceLT, Int.reduceLE, Int.reduceBEq, Int.reduceBNe, St0, argFr, ↓callZ, ↓midZ, ↓unZ, ↓thenW, ↓blockW, ↓opX, ↓opV, ↓pX, ↓pW, ↓putK, ↓putP, ↓atK, ↓normK, ↓postZ, ↓reduceIte, reduceIte, Nat.reduceEqDiff, Nat.reduceAdd, Nat.reduceBEq, Nat.reduceLT, Nat.reduceLeDiff, binW, bodyQ, ressW, resW, ne_eq, forall_const, reduceCtorEq, implies_true, sets, oneAll, setD, rels, fillE, fillD, List.replicate, rowsOf, forall_eq, Nat.reduceMul, ↓zD, zT, hd, ndR_len, h1, h2]
    exact .same
  obtain ⟨m, rfl⟩ := Int.eq_ofNat_of_zero_le (show 0 ≤ n by omega)
  have hm : m ≤ 6 := by omega
  simp only [Int.reduceToNat, Int.reduceLT, Int.reduceLE, Int.reduceBEq, Int.reduceBNe, St0, argFr, ↓callZ, ↓midZ, ↓unZ, ↓thenW, ↓blockW, ↓opX, ↓opV, ↓pX, ↓pW, ↓putK, ↓putP, ↓atK, ↓normK, ↓postZ, ↓reduceIte, reduceIte, Nat.reduceEqDiff, Nat.reduceAdd, Nat.reduceBEq, Nat.reduceLT, Nat.reduceLeDiff, binW, bodyQ, ressW, resW, ne_eq, forall_const, reduceCtorEq, implies_true, sets, oneAll, setD, rels, fillE, fillD, List.replicate, rowsOf, forall_eq, Nat.reduceMul, ↓zD, zT, hd, ndR_len, h1, h2]
  refine .go (CallT.of_runs hfi (by simp [D.isPureL, D.isPure])) ?_
  have hft := hfp hc hfr hm
  by_cases hz : factsA f / 2 ^ m = 0
  case neg =>
    rw [decide_eq_false hz] at hft
    rw [if_pos (.inr (.inr hft))]
    have e1 : ((factsA f / 2 ^ m : Nat) : Int) != 0 := by rw [bne_iff_ne]; omega
    simp only [Int.reduceToNat, Int.reduceLT, Int.reduceLE, Int.reduceBEq, Int.reduceBNe, St0, argFr, ↓callZ, ↓midZ, ↓unZ, ↓thenW, ↓blockW, ↓opX, ↓opV, ↓pX, ↓pW, ↓putK, ↓putP, ↓atK, ↓normK, ↓postZ, ↓reduceIte, reduceIte, Nat.reduceEqDiff, Nat.reduceAdd, Nat.reduceBEq, Nat.reduceLT, Nat.reduceLeDiff, binW, bodyQ, ressW, resW, ne_eq, forall_const, reduceCtorEq, implies_true, sets, oneAll, setD, rels, fillE, fillD, List.replicate, rowsOf, forall_eq, Nat.reduceMul, ↓zD, zT, convN (show m ≤ 1000000 by omega), shrNat (factsA f) m (by omega), e1]
    (repeat refine And.intro (by first | omega | exact ui_nonneg _ | exact Int.natCast_nonneg _ | rfl | exact rows_one' _ _ | exact us_one _ | (intro _ h; cases h; done)) ?_)
    exact .same
  rw [decide_eq_true hz] at hft
  rw [if_neg (by simp [h1, h2, hft])]
  have e1 : (((factsA f / 2 ^ m : Nat) : Int) != 0) = false := by rw [hz]; rfl
  have h64 : 2 ^ m ≤ 2 ^ 6 := Nat.pow_le_pow_right (by decide) hm
  simp only [Int.reduceToNat, Int.reduceLT, Int.reduceLE, Int.reduceBEq, Int.reduceBNe, St0, argFr, ↓callZ, ↓midZ, ↓unZ, ↓thenW, ↓blockW, ↓opX, ↓opV, ↓pX, ↓pW, ↓putK, ↓putP, ↓atK, ↓normK, ↓postZ, ↓reduceIte, reduceIte, Nat.reduceEqDiff, Nat.reduceAdd, Nat.reduceBEq, Nat.reduceLT, Nat.reduceLeDiff, binW, bodyQ, ressW, resW, ne_eq, forall_const, reduceCtorEq, implies_true, sets, oneAll, setD, rels, fillE, fillD, List.replicate, rowsOf, forall_eq, Nat.reduceMul, ↓zD, zT, convN (show m ≤ 1000000 by omega), shrNat (factsA f) m (by omega), e1]
  (repeat refine And.intro (by first | omega | exact ui_nonneg _ | exact Int.natCast_nonneg _ | rfl | exact rows_one' _ _ | exact us_one _ | (intro _ h; cases h; done)) ?_)
  refine wpS_loop (fun k : Nat => [(9, .int .i64 k), (8, .int .u64 (ui (tabS c k))), (1, .int .i64 m), (0, .sl 6 (ndR c))]) (fun _ => ⟨0, []⟩) (fun k => k ≤ 2 ^ m) (fun k => 2 ^ m - k) 0 (Nat.zero_le _) ?_ ?_
  · (refine Weak.same ?_; simp [sameF, Fr.get, tabS])
  intro k hk
  refine wpS_go mixed ?_
  have hwk : IntKind.i64.wrap ((k : Int) + 1) = ((k + 1 : Nat) : Int) := wrap_i64 (by omega)
  by_cases hkm : k < 2 ^ m
  case neg =>
    have hd : ¬ ((k : Int) < ((2 ^ m : Nat) : Int)) := by omega
    obtain rfl : k = 2 ^ m := by omega
    simp only [Int.reduceToNat, Int.reduceLT, Int.reduceLE, Int.reduceBEq, Int.reduceBNe, St0, argFr, ↓callZ, ↓midZ, ↓unZ, ↓thenW, ↓blockW, ↓opX, ↓opV, ↓pX, ↓pW, ↓putK, ↓putP, ↓atK, ↓normK, ↓postZ, ↓reduceIte, reduceIte, Nat.reduceEqDiff, Nat.reduceAdd, Nat.reduceBEq, Nat.reduceLT, Nat.reduceLeDiff, binW, bodyQ, ressW, resW, ne_eq, forall_const, reduceCtorEq, implies_true, sets, oneAll, setD, rels, fillE, fillD, List.replicate, rowsOf, forall_eq, Nat.reduceMul, ↓zD, zT, convN (show m ≤ 1000000 by omega), shlN (show m ≤ 61 by omega), hd]
    (repeat refine And.intro (by first | omega | exact ui_nonneg _ | exact Int.natCast_nonneg _ | rfl | exact rows_one' _ _ | exact us_one _ | (intro _ h; cases h; done)) ?_)
    exact .same
  have hdk : ((k : Int) < ((2 ^ m : Nat) : Int)) := by omega
  simp only [Int.reduceToNat, Int.reduceLT, Int.reduceLE, Int.reduceBEq, Int.reduceBNe, St0, argFr, ↓callZ, ↓midZ, ↓unZ, ↓thenW, ↓blockW, ↓opX, ↓opV, ↓pX, ↓pW, ↓putK, ↓putP, ↓atK, ↓normK, ↓postZ, ↓reduceIte, reduceIte, Nat.reduceEqDiff, Nat.reduceAdd, Nat.reduceBEq, Nat.reduceLT, Nat.reduceLeDiff, binW, bodyQ, ressW, resW, ne_eq, forall_const, reduceCtorEq, implies_true, sets, oneAll, setD, rels, fillE, fillD, List.replicate, rowsOf, forall_eq, Nat.reduceMul, ↓zD, zT, convN (show m ≤ 1000000 by omega), shlN (show m ≤ 61 by omega), hdk]
  (repeat refine And.intro (by first | omega | exact ui_nonneg _ | exact Int.natCast_nonneg _ | rfl | exact rows_one' _ _ | exact us_one _ | (intro _ h; cases h; done)) ?_)
  refine wpS_loop (fun j : Nat => [(11, .int .i64 j), (10, growD 0 1 (rb (valsR c k j))), (9, .int .i64 k), (8, .int .u64 (ui (tabS c k))), (1, .int .i64 m), (0, .sl 6 (ndR c))]) (fun j => ⟨1, growO 0 1 (rb (valsR c k j))⟩) (fun j => j ≤ c.length) (fun j => c.length - j) 0 (Nat.zero_le _) ?_ ?_
  · exact Weak.view (fun k => k) (by simp) (by simp) (by simp [vwF, vw, Fr.get, valsR, rb, growD]) (by simp [stays, valsR, rb, growO]) (by simp [apartNames, valsR, rb, growO])
  intro j hj
  refine wpS_go mixed ?_
  have hwj : IntKind.i64.wrap ((j : Int) + 1) = ((j + 1 : Nat) : Int) := wrap_i64 (by omega)
  have hll := valsR_len c k j
  by_cases hjl : j < c.length
  · have hd2 : ((j : Int) < (c.length : Int)) := by omega
    have hg := ndR_get c hjl
    have hq := hv j hjl
    have h8 := hi (c.getD j nd0) (by simp only [List.getD, List.getElem?_eq_getElem hjl, Option.getD_some]; exact List.getElem_mem _)
    have hsn : valsR c k (j + 1) = valsR c k j ++ [valN (c.getD j nd0) (valsR c k j) k] := rfl
    generalize c.getD j nd0 = p at hg hq h8 hsn
    have hrs : rb (valsR c k j ++ [valN p (valsR c k j) k]) = rb (valsR c k j) ++ [[.bool (valN p (valsR c k j) k)]] := by simp [rb]
    simp only [Int.reduceToNat, Int.reduceLT, Int.reduceLE, Int.reduceBEq, Int.reduceBNe, St0, argFr, ↓callZ, ↓midZ, ↓unZ, ↓thenW, ↓blockW, ↓opX, ↓opV, ↓pX, ↓pW, ↓putK, ↓putP, ↓atK, ↓normK, ↓postZ, ↓reduceIte, reduceIte, Nat.reduceEqDiff, Nat.reduceAdd, Nat.reduceBEq, Nat.reduceLT, Nat.reduceLeDiff, binW, bodyQ, ressW, resW, ne_eq, forall_const, reduceCtorEq, implies_true, sets, oneAll, setD, rels, fillE, fillD, List.replicate, rowsOf, forall_eq, Nat.reduceMul, ↓zD, zT, hd2, ndR_len, hg, Nd.row]
    (repeat refine And.intro (by first | omega | exact ui_nonneg _ | exact Int.natCast_nonneg _ | rfl | exact rows_one' _ _ | exact us_one _ | (intro _ h; cases h; done)) ?_)
    refine .go (CallT.lentS (refValue43 (p := p) (v := valsR c k j) (facts := k) (by rw [hll]; exact hq) h8 (by omega)) ⟨.pure (by simp [D.isPureL, D.isPure, Nd.row]), Seen.grow (by simp [St.get, look_growO1]) id (by simp) (fun e he => by simp [rb] at he; rcases he with ⟨_, rfl⟩ | ⟨_, rfl⟩ <;> rfl) (rb_pure _), .pure rfl, trivial⟩ rfl) ?_
    simp only [Int.reduceToNat, Int.reduceLT, Int.reduceLE, Int.reduceBEq, Int.reduceBNe, St0, argFr, ↓callZ, ↓midZ, ↓unZ, ↓thenW, ↓blockW, ↓opX, ↓opV, ↓pX, ↓pW, ↓putK, ↓putP, ↓atK, ↓normK, ↓postZ, ↓reduceIte, reduceIte, Nat.reduceEqDiff, Nat.reduceAdd, Nat.reduceBEq, Nat.reduceLT, Nat.reduceLeDiff, binW, bodyQ, ressW, resW, ne_eq, forall_const, reduceCtorEq, implies_true, sets, oneAll, setD, rels, fillE, fillD, List.replicate, rowsOf, forall_eq, Nat.reduceMul, ↓zD, zT, rb_len, hll]
    (repeat refine And.intro (by first | omega | exact ui_nonneg _ | exact Int.natCast_nonneg _ | rfl | exact rows_one' _ _ | exact us_one _ | (intro _ h; cases h; done)) ?_)
    refine ⟨j + 1, by omega, ?_, by omega⟩
    rw [hsn, ← hrs]
    (refine Weak.ren [(0, 1)] [0] (by simp) (by simp) (by decide) ?_; simp only [stay1, vwL, vw, vwF, sw, St.get, St.look, Fr.get, ↓reduceIte, reduceIte, Nat.reduceEqDiff, Nat.reduceAdd, Nat.reduceBEq, Nat.reduceLT, Nat.reduceLeDiff, exists_eq_left', ne_eq, reduceCtorEq, zR, hwj, pureE_rb])
  obtain rfl : j = c.length := by omega
  have hd2 : ¬ ((c.length : Int) < (c.length : Int)) := by omega
  have hval := valueR (facts := k) hv hi hne
  have hsub : IntKind.i64.wrap ((c.length : Int) - 1) = ((c.length - 1 : Nat) : Int) := by rw [wrap_i64 (by omega)]; omega
  have hgv := rb_get (valsR c k c.length) (i := c.length - 1) (by omega)
  rw [hval] at hgv
  cases hb : valueA c (leafT c k)
  · rw [hb] at hgv
    simp only [Int.reduceToNat, Int.reduceLT, Int.reduceLE, Int.reduceBEq, Int.reduceBNe, St0, argFr, ↓callZ, ↓midZ, ↓unZ, ↓thenW, ↓blockW, ↓opX, ↓opV, ↓pX, ↓pW, ↓putK, ↓putP, ↓atK, ↓normK, ↓postZ, ↓reduceIte, reduceIte, Nat.reduceEqDiff, Nat.reduceAdd, Nat.reduceBEq, Nat.reduceLT, Nat.reduceLeDiff, binW, bodyQ, ressW, resW, ne_eq, forall_const, reduceCtorEq, implies_true, sets, oneAll, setD, rels, fillE, fillD, List.replicate, rowsOf, forall_eq, Nat.reduceMul, ↓zD, zT, hd2, ndR_len, hsub, rb_len, hll, hgv]
    (repeat refine And.intro (by first | omega | exact ui_nonneg _ | exact Int.natCast_nonneg _ | rfl | exact rows_one' _ _ | exact us_one _ | (intro _ h; cases h; done)) ?_)
    refine ⟨k + 1, by omega, ?_, by omega⟩
    rw [show tabS c (k + 1) = tabS c k by rw [tabS, hb, if_neg (by simp)]]
    (refine Weak.ren [] [] (by simp) (by simp) (by decide) ?_; simp only [stay1, vwL, vw, vwF, sw, St.get, St.look, Fr.get, ↓reduceIte, reduceIte, Nat.reduceEqDiff, Nat.reduceAdd, Nat.reduceBEq, Nat.reduceLT, Nat.reduceLeDiff, exists_eq_left', ne_eq, reduceCtorEq, zR, hwk])
  · rw [hb] at hgv
    simp only [Int.reduceToNat, Int.reduceLT, Int.reduceLE, Int.reduceBEq, Int.reduceBNe, St0, argFr, ↓callZ, ↓midZ, ↓unZ, ↓thenW, ↓blockW, ↓opX, ↓opV, ↓pX, ↓pW, ↓putK, ↓putP, ↓atK, ↓normK, ↓postZ, ↓reduceIte, reduceIte, Nat.reduceEqDiff, Nat.reduceAdd, Nat.reduceBEq, Nat.reduceLT, Nat.reduceLeDiff, binW, bodyQ, ressW, resW, ne_eq, forall_const, reduceCtorEq, implies_true, sets, oneAll, setD, rels, fillE, fillD, List.replicate, rowsOf, forall_eq, Nat.reduceMul, ↓zD, zT, hd2, ndR_len, hsub, rb_len, hll, hgv, convN (show k ≤ 1000000 by omega)]
    (repeat refine And.intro (by first | omega | exact ui_nonneg _ | exact Int.natCast_nonneg _ | rfl | exact rows_one' _ _ | exact us_one _ | (intro _ h; cases h; done)) ?_)
    refine ⟨k + 1, by omega, ?_, by omega⟩
    rw [show tabS c (k + 1) = tabS c k ||| (1#64 <<< k) by rw [tabS, hb, if_pos rfl]]
    (refine Weak.ren [] [] (by simp) (by simp) (by decide) ?_; simp only [stay1, vwL, vw, vwF, sw, St.get, St.look, Fr.get, ↓reduceIte, reduceIte, Nat.reduceEqDiff, Nat.reduceAdd, Nat.reduceBEq, Nat.reduceLT, Nat.reduceLeDiff, exists_eq_left', ne_eq, reduceCtorEq, zR, hwk])
end Go.Pd
