/- Boolean: contract: the value of a formula. -/
import Derived.Test.YtfaehcooldhddaaDoorF16
set_option linter.unusedSectionVars false
set_option linter.unusedVariables false
set_option linter.unusedSimpArgs false
set_option linter.defProp false
set_option maxRecDepth 20000
namespace Go.Pd
open Go Go.Proofs
open Rs Fm
theorem vwL_pure {σ σ' : St} {ρ : Nat → Nat} {cs : List D} (h : D.isPureL cs = true) : vwL σ σ' ρ cs cs := by
  refine D.rec_2 (motive_1 := fun d => d.isPure = true → vw σ σ' ρ d d) (motive_2 := fun _ => True) (motive_3 := fun cs => D.isPureL cs = true → vwL σ σ' ρ cs cs)
    ?top ?und ?int ?bool ?str ?sl ?nils ?emp ?agg ?tup ?fn ?ref ?osl ?sub ?ptr ?mref ?nilp ?nilm ?nilf ?adr trivial (fun _ _ _ _ => trivial) ?nil ?cons cs h
  case agg => intro cs ih h; simp only [D.isPure] at h; simp only [vw]; exact ⟨trivial, ih h⟩
  case tup => intro cs ih h; simp only [D.isPure] at h; simp only [vw]; exact ⟨trivial, ih h⟩
  case fn => intro f cs ih h; simp only [D.isPure] at h; simp only [vw]; exact ⟨trivial, trivial, ih h⟩
  case nil => intro _; simp [vwL]
  case cons =>
    intro c cs ih1 ih2 h
    simp only [D.isPureL, Bool.and_eq_true] at h
    simp only [vwL]
    exact ⟨ih1 h.1, ih2 h.2⟩
  case ref => intro _ _ _ _ h; simp [D.isPure] at h
  case osl => intro _ _ _ h; simp [D.isPure] at h
  case sub => intro _ _ _ _ h; simp [D.isPure] at h
  case mref => intro _ h; simp [D.isPure] at h
  all_goals (intros; simp [vw])
namespace Fm
def rb (l : List Bool) : List (List D) := l.map fun b => [.bool b]
theorem rb_len (l : List Bool) : (rb l).length = l.length := by simp [rb]
theorem rb_get (l : List Bool) {i : Nat} (h : i < l.length) : (rb l).getD i [] = [.bool (l.getD i false)] := by simp [rb, List.getD, h]
theorem rb_set (l : List Bool) (i : Nat) (b : Bool) : (rb l).set i [.bool b] = rb (l.set i b) := by simp [rb, List.map_set]
theorem rb_replicate (n : Nat) (b : Bool) : List.replicate n [D.bool b] = rb (List.replicate n b) := by simp [rb]
theorem rb_pure (l : List Bool) : ∀ e ∈ rb l, D.isPureL e = true := by
  intro e he
  simp only [rb, List.mem_map] at he
  obtain ⟨n, _, rfl⟩ := he
  rfl
theorem pureE_rb (l : List Bool) : pureE (rb l) = True := eq_true (rb_pure l)
theorem set1 (a b : D) : List.set [a] 0 b = [b] := rfl
/-- The values of the first nodes. -/
def valsS (c : List Nd) (leaf : Nat → Bool) : Nat → List Bool
  | 0 => List.replicate c.length false
  | k + 1 => (valsS c leaf k).set k (if (c.getD k nd0).op = 3 ∨ 8 < (c.getD k nd0).op then leaf k else combB (c.getD k nd0).op ((valsS c leaf k).getD (c.getD k nd0).x.toNat false) ((valsS c leaf k).getD (c.getD k nd0).y.toNat false))
theorem valsS_len (c : List Nd) (leaf : Nat → Bool) : ∀ k, (valsS c leaf k).length = c.length
  | 0 => by simp [valsS]
  | k + 1 => by simp [valsS, valsS_len c leaf k]
def valueA (c : List Nd) (leaf : Nat → Bool) : Bool := (valsS c leaf c.length).getD (c.length - 1) false
/-- The operands of a valid node, used or not, are places of the list. -/
theorem node_xy {p : Nd} {k : Nat} (h : nodeE p k = 0) : (∃ x : Nat, p.x = x ∧ x ≤ k) ∧ (∃ y : Nat, p.y = y ∧ y ≤ k) := by
  obtain ⟨_, h2, h3, _⟩ := nodeE_iff.1 h
  refine ⟨?_, ?_⟩
  · unfold operandB at h2
    split at h2
    · simp only [Bool.and_eq_true, decide_eq_true_eq] at h2
      exact ⟨p.x.toNat, by omega, by omega⟩
    · simp only [decide_eq_true_eq] at h2
      exact ⟨0, by omega, by omega⟩
  · unfold operandB at h3
    split at h3
    · simp only [Bool.and_eq_true, decide_eq_true_eq] at h3
      exact ⟨p.y.toNat, by omega, by omega⟩
    · simp only [decide_eq_true_eq] at h3
      exact ⟨0, by omega, by omega⟩
end Fm
theorem value60 {c : List Nd} {g : FuncId} {caps : List D} {leaf : Nat → Bool} (hc : ∀ k, k < c.length → nodeE (c.getD k nd0) k = 0) (hn : 0 < c.length) (hlen : c.length ≤ 1000) (hp : D.isPureL caps = true)
    (hl : ∀ i, i < c.length → ((c.getD i nd0).op = 3 ∨ 8 < (c.getD i nd0).op) → Runs Tryd.prog g (.int .i64 i :: caps) (.bool (leaf i))) : Runs Tryd.prog 37 [.sl 6 (ndR c), .fn g caps] (.bool (valueA c leaf)) := by
  refine CallT.go_fn mixed Tryd.func37 k37 (by simp) fun hf => ?_
  have hcv : ∀ σ σ' ρ, vwL σ σ' ρ caps caps = True := fun σ σ' ρ => eq_true (vwL_pure hp)
  simp only [Int.reduceToNat, Int.reduceLT, Int.reduceLE, Int.reduceBEq, Int.reduceBNe, St0, argFr, ↓callZ, ↓midZ, ↓unZ, ↓thenW, ↓blockW, ↓opX, ↓opV, ↓pX, ↓pW, ↓putK, ↓putP, ↓atK, ↓normK, ↓postZ, ↓reduceIte, reduceIte, Nat.reduceEqDiff, Nat.reduceAdd, Nat.reduceBEq, Nat.reduceLT, Nat.reduceLeDiff, binW, bodyQ, ressW, resW, ne_eq, forall_const, reduceCtorEq, implies_true, sets, oneAll, setD, rels, fillE, fillD, List.replicate, rowsOf, forall_eq, Nat.reduceMul, ↓zD, zT, ndR_len]
  (repeat refine And.intro (by first | omega | exact ui_nonneg _ | exact Int.natCast_nonneg _ | rfl | exact rows_one' _ _ | exact us_one _ | (intro _ h; cases h; done)) ?_)
  rw [rb_replicate]
  refine wpS_loop (fun k : Nat => [(13, .int .i64 k), (12, .int .i64 c.length), (11, .sl 6 (ndR c)), (5, .osl 0 1 c.length), (1, .fn g caps), (0, .sl 6 (ndR c))]) (fun k => ⟨1, [(0, ⟨1, rb (valsS c leaf k)⟩)]⟩) (fun k => k ≤ c.length) (fun k => c.length - k) 0 (Nat.zero_le _) ?_ ?_
  · (refine Weak.ren [] [0] (by simp) (by simp) (by decide) ?_; simp only [stay1, vwL, vw, vwF, sw, St.get, St.look, Fr.get, ↓reduceIte, reduceIte, Nat.reduceEqDiff, Nat.reduceAdd, Nat.reduceBEq, Nat.reduceLT, Nat.reduceLeDiff, exists_eq_left', ne_eq, reduceCtorEq, zR, pureE_rb, hcv, valsS])
  intro k hk
  refine wpS_go mixed ?_
  have hvl := valsS_len c leaf k
  by_cases h : k < c.length
  case neg =>
    have hd : ¬ ((k : Int) < (c.length : Int)) := by omega
    have ek : k = c.length := by omega
    subst ek
    have ew : IntKind.i64.wrap ((c.length : Int) - 1) = ((c.length - 1 : Nat) : Int) := by rw [wrap_i64 (by omega)]; omega
    simp only [Int.reduceToNat, Int.reduceLT, Int.reduceLE, Int.reduceBEq, Int.reduceBNe, St0, argFr, ↓callZ, ↓midZ, ↓unZ, ↓thenW, ↓blockW, ↓opX, ↓opV, ↓pX, ↓pW, ↓putK, ↓putP, ↓atK, ↓normK, ↓postZ, ↓reduceIte, reduceIte, Nat.reduceEqDiff, Nat.reduceAdd, Nat.reduceBEq, Nat.reduceLT, Nat.reduceLeDiff, binW, bodyQ, ressW, resW, ne_eq, forall_const, reduceCtorEq, implies_true, sets, oneAll, setD, rels, fillE, fillD, List.replicate, rowsOf, forall_eq, Nat.reduceMul, ↓zD, zT, hd, ndR_len, ew, rb_len, hvl, rb_get (valsS c leaf c.length) (i := c.length - 1) (by omega)]
    (repeat refine And.intro (by first | omega | exact ui_nonneg _ | exact Int.natCast_nonneg _ | rfl | exact rows_one' _ _ | exact us_one _ | (intro _ h; cases h; done)) ?_)
    exact .drop (by simp) (by simp [vw, valueA])
  have hd : ((k : Int) < (c.length : Int)) := by omega
  have hnk := hc k h
  have hlk := hl k h
  obtain ⟨⟨x, hx, hxk⟩, ⟨y, hy, hyk⟩⟩ := node_xy hnk
  have hg := ndR_get c h
  have hs : valsS c leaf (k + 1) = (valsS c leaf k).set k (if (c.getD k nd0).op = 3 ∨ 8 < (c.getD k nd0).op then leaf k else combB (c.getD k nd0).op ((valsS c leaf k).getD x false) ((valsS c leaf k).getD y false)) := by
    rw [valsS, hx, hy]; rfl
  generalize c.getD k nd0 = p at hnk hx hy hg hs hlk
  have hw : IntKind.i64.wrap ((k : Int) + 1) = ((k + 1 : Nat) : Int) := wrap_i64 (by omega)
  by_cases h3 : p.op = 3
  · have e3 : (p.op == 3) = true := by simpa using h3
    rw [if_pos (.inl h3)] at hs
    simp only [Int.reduceToNat, Int.reduceLT, Int.reduceLE, Int.reduceBEq, Int.reduceBNe, St0, argFr, ↓callZ, ↓midZ, ↓unZ, ↓thenW, ↓blockW, ↓opX, ↓opV, ↓pX, ↓pW, ↓putK, ↓putP, ↓atK, ↓normK, ↓postZ, ↓reduceIte, reduceIte, Nat.reduceEqDiff, Nat.reduceAdd, Nat.reduceBEq, Nat.reduceLT, Nat.reduceLeDiff, binW, bodyQ, ressW, resW, ne_eq, forall_const, reduceCtorEq, implies_true, sets, oneAll, setD, rels, fillE, fillD, List.replicate, rowsOf, forall_eq, Nat.reduceMul, ↓zD, zT, hd, ndR_len, hg, Nd.row, e3]
    (repeat refine And.intro (by first | omega | exact ui_nonneg _ | exact Int.natCast_nonneg _ | rfl | exact rows_one' _ _ | exact us_one _ | (intro _ h; cases h; done)) ?_)
    refine .go (CallT.of_runs (hlk (.inl h3)) (by simpa [D.isPureL, D.isPure] using hp)) ?_
    simp only [Int.reduceToNat, Int.reduceLT, Int.reduceLE, Int.reduceBEq, Int.reduceBNe, St0, argFr, ↓callZ, ↓midZ, ↓unZ, ↓thenW, ↓blockW, ↓opX, ↓opV, ↓pX, ↓pW, ↓putK, ↓putP, ↓atK, ↓normK, ↓postZ, ↓reduceIte, reduceIte, Nat.reduceEqDiff, Nat.reduceAdd, Nat.reduceBEq, Nat.reduceLT, Nat.reduceLeDiff, binW, bodyQ, ressW, resW, ne_eq, forall_const, reduceCtorEq, implies_true, sets, oneAll, setD, rels, fillE, fillD, List.replicate, rowsOf, forall_eq, Nat.reduceMul, ↓zD, zT, rb_len, hvl, h, rb_get (valsS c leaf k) (i := k) (by omega), set1, rb_set, ← hs]
    (repeat refine And.intro (by first | omega | exact ui_nonneg _ | exact Int.natCast_nonneg _ | rfl | exact rows_one' _ _ | exact us_one _ | (intro _ h; cases h; done)) ?_)
    refine ⟨k + 1, by omega, ?_, by omega⟩
    (refine Weak.ren [] [0] (by simp) (by simp) (by decide) ?_; simp only [stay1, vwL, vw, vwF, sw, St.get, St.look, Fr.get, ↓reduceIte, reduceIte, Nat.reduceEqDiff, Nat.reduceAdd, Nat.reduceBEq, Nat.reduceLT, Nat.reduceLeDiff, exists_eq_left', ne_eq, reduceCtorEq, zR, pureE_rb, hcv, hw])
  have e3 : (p.op == 3) = false := by simpa using h3
  by_cases h8 : p.op ≤ 8
  case neg =>
    have e8 : decide (p.op ≤ 8) = false := by simpa using h8
    rw [if_pos (.inr (by omega))] at hs
    simp only [Int.reduceToNat, Int.reduceLT, Int.reduceLE, Int.reduceBEq, Int.reduceBNe, St0, argFr, ↓callZ, ↓midZ, ↓unZ, ↓thenW, ↓blockW, ↓opX, ↓opV, ↓pX, ↓pW, ↓putK, ↓putP, ↓atK, ↓normK, ↓postZ, ↓reduceIte, reduceIte, Nat.reduceEqDiff, Nat.reduceAdd, Nat.reduceBEq, Nat.reduceLT, Nat.reduceLeDiff, binW, bodyQ, ressW, resW, ne_eq, forall_const, reduceCtorEq, implies_true, sets, oneAll, setD, rels, fillE, fillD, List.replicate, rowsOf, forall_eq, Nat.reduceMul, ↓zD, zT, hd, ndR_len, hg, Nd.row, e3]
    (repeat refine And.intro (by first | omega | exact ui_nonneg _ | exact Int.natCast_nonneg _ | rfl | exact rows_one' _ _ | exact us_one _ | (intro _ h; cases h; done)) ?_)
    refine .go (CallT.of_runs (isProp81 p.op) rfl) ?_
    simp only [Int.reduceToNat, Int.reduceLT, Int.reduceLE, Int.reduceBEq, Int.reduceBNe, St0, argFr, ↓callZ, ↓midZ, ↓unZ, ↓thenW, ↓blockW, ↓opX, ↓opV, ↓pX, ↓pW, ↓putK, ↓putP, ↓atK, ↓normK, ↓postZ, ↓reduceIte, reduceIte, Nat.reduceEqDiff, Nat.reduceAdd, Nat.reduceBEq, Nat.reduceLT, Nat.reduceLeDiff, binW, bodyQ, ressW, resW, ne_eq, forall_const, reduceCtorEq, implies_true, sets, oneAll, setD, rels, fillE, fillD, List.replicate, rowsOf, forall_eq, Nat.reduceMul, ↓zD, zT, e8]
    (repeat refine And.intro (by first | omega | exact ui_nonneg _ | exact Int.natCast_nonneg _ | rfl | exact rows_one' _ _ | exact us_one _ | (intro _ h; cases h; done)) ?_)
    refine .go (CallT.of_runs (hlk (.inr (by omega))) (by simpa [D.isPureL, D.isPure] using hp)) ?_
    simp only [Int.reduceToNat, Int.reduceLT, Int.reduceLE, Int.reduceBEq, Int.reduceBNe, St0, argFr, ↓callZ, ↓midZ, ↓unZ, ↓thenW, ↓blockW, ↓opX, ↓opV, ↓pX, ↓pW, ↓putK, ↓putP, ↓atK, ↓normK, ↓postZ, ↓reduceIte, reduceIte, Nat.reduceEqDiff, Nat.reduceAdd, Nat.reduceBEq, Nat.reduceLT, Nat.reduceLeDiff, binW, bodyQ, ressW, resW, ne_eq, forall_const, reduceCtorEq, implies_true, sets, oneAll, setD, rels, fillE, fillD, List.replicate, rowsOf, forall_eq, Nat.reduceMul, ↓zD, zT, rb_len, hvl, h, rb_get (valsS c leaf k) (i := k) (by omega), set1, rb_set, ← hs]
    (repeat refine And.intro (by first | omega | exact ui_nonneg _ | exact Int.natCast_nonneg _ | rfl | exact rows_one' _ _ | exact us_one _ | (intro _ h; cases h; done)) ?_)
    refine ⟨k + 1, by omega, ?_, by omega⟩
    (refine Weak.ren [] [0] (by simp) (by simp) (by decide) ?_; simp only [stay1, vwL, vw, vwF, sw, St.get, St.look, Fr.get, ↓reduceIte, reduceIte, Nat.reduceEqDiff, Nat.reduceAdd, Nat.reduceBEq, Nat.reduceLT, Nat.reduceLeDiff, exists_eq_left', ne_eq, reduceCtorEq, zR, pureE_rb, hcv, hw])
  have e8 : decide (p.op ≤ 8) = true := by simpa using h8
  rw [if_neg (by omega)] at hs
  simp only [Int.reduceToNat, Int.reduceLT, Int.reduceLE, Int.reduceBEq, Int.reduceBNe, St0, argFr, ↓callZ, ↓midZ, ↓unZ, ↓thenW, ↓blockW, ↓opX, ↓opV, ↓pX, ↓pW, ↓putK, ↓putP, ↓atK, ↓normK, ↓postZ, ↓reduceIte, reduceIte, Nat.reduceEqDiff, Nat.reduceAdd, Nat.reduceBEq, Nat.reduceLT, Nat.reduceLeDiff, binW, bodyQ, ressW, resW, ne_eq, forall_const, reduceCtorEq, implies_true, sets, oneAll, setD, rels, fillE, fillD, List.replicate, rowsOf, forall_eq, Nat.reduceMul, ↓zD, zT, hd, ndR_len, hg, Nd.row, e3]
  (repeat refine And.intro (by first | omega | exact ui_nonneg _ | exact Int.natCast_nonneg _ | rfl | exact rows_one' _ _ | exact us_one _ | (intro _ h; cases h; done)) ?_)
  refine .go (CallT.of_runs (isProp81 p.op) rfl) ?_
  simp only [Int.reduceToNat, Int.reduceLT, Int.reduceLE, Int.reduceBEq, Int.reduceBNe, St0, argFr, ↓callZ, ↓midZ, ↓unZ, ↓thenW, ↓blockW, ↓opX, ↓opV, ↓pX, ↓pW, ↓putK, ↓putP, ↓atK, ↓normK, ↓postZ, ↓reduceIte, reduceIte, Nat.reduceEqDiff, Nat.reduceAdd, Nat.reduceBEq, Nat.reduceLT, Nat.reduceLeDiff, binW, bodyQ, ressW, resW, ne_eq, forall_const, reduceCtorEq, implies_true, sets, oneAll, setD, rels, fillE, fillD, List.replicate, rowsOf, forall_eq, Nat.reduceMul, ↓zD, zT, e8, hx, hy, rb_len, hvl, rb_get (valsS c leaf k) (i := x) (by omega), rb_get (valsS c leaf k) (i := y) (by omega)]
  (repeat refine And.intro (by first | omega | exact ui_nonneg _ | exact Int.natCast_nonneg _ | rfl | exact rows_one' _ _ | exact us_one _ | (intro _ h; cases h; done)) ?_)
  refine .go (CallT.of_runs (combine82 p.op _ _) rfl) ?_
  simp only [Int.reduceToNat, Int.reduceLT, Int.reduceLE, Int.reduceBEq, Int.reduceBNe, St0, argFr, ↓callZ, ↓midZ, ↓unZ, ↓thenW, ↓blockW, ↓opX, ↓opV, ↓pX, ↓pW, ↓putK, ↓putP, ↓atK, ↓normK, ↓postZ, ↓reduceIte, reduceIte, Nat.reduceEqDiff, Nat.reduceAdd, Nat.reduceBEq, Nat.reduceLT, Nat.reduceLeDiff, binW, bodyQ, ressW, resW, ne_eq, forall_const, reduceCtorEq, implies_true, sets, oneAll, setD, rels, fillE, fillD, List.replicate, rowsOf, forall_eq, Nat.reduceMul, ↓zD, zT, rb_len, hvl, h, rb_get (valsS c leaf k) (i := k) (by omega), set1, rb_set, ← hs]
  (repeat refine And.intro (by first | omega | exact ui_nonneg _ | exact Int.natCast_nonneg _ | rfl | exact rows_one' _ _ | exact us_one _ | (intro _ h; cases h; done)) ?_)
  refine ⟨k + 1, by omega, ?_, by omega⟩
  (refine Weak.ren [] [0] (by simp) (by simp) (by decide) ?_; simp only [stay1, vwL, vw, vwF, sw, St.get, St.look, Fr.get, ↓reduceIte, reduceIte, Nat.reduceEqDiff, Nat.reduceAdd, Nat.reduceBEq, Nat.reduceLT, Nat.reduceLeDiff, exists_eq_left', ne_eq, reduceCtorEq, zR, pureE_rb, hcv, hw])
end Go.Pd

set_option maxRecDepth 20000
namespace Go.Pd
open Go Go.Proofs
open Rs Fm
namespace Fm
theorem nd_i {p : Nd} {k : Int} (h : nodeE p k = 0) : 0 ≤ p.i ∧ p.i ≤ 7 := by
  have h1 := (nodeE_iff.1 h).2.2.2.2
  have h2 := (nodeE_iff.1 h).2.2.2.1
  have hk := uses_kinds p.op
  simp only [outsideB, Bool.or_eq_false_iff, Bool.and_eq_false_iff, Bool.not_eq_false', Bool.or_eq_true, decide_eq_false_iff_not] at h1 h2
  rcases hk with ⟨a, b, c, d⟩ | ⟨a, b, c, d⟩ | ⟨a, b, c, d⟩ | ⟨a, b, c, d⟩ | ⟨a, b, c, d⟩ <;> simp only [a, b, c, d] at h1 h2 <;> simp at h1 h2 <;> omega
def leafT (c : List Nd) (v i : Nat) : Bool := v.testBit (c.getD i nd0).i.toNat
def tabS (c : List Nd) : Nat → BitVec 64
  | 0 => 0#64
  | k + 1 => if valueA c (leafT c k) = true then tabS c k ||| (1#64 <<< k) else tabS c k
def tableA (f : List Nd) (n : Int) : BitVec 64 × Int :=
  if checkF f ≠ 0 then (0#64, checkF f) else if fragsA f ≠ 0 then (0#64, 10) else if n < 0 ∨ 6 < n ∨ fitsB f 0 n = false then (0#64, 2) else (tabS (compactA f) (2 ^ n.toNat), 0)
end Fm
theorem leaf61 {c : List Nd} {v i : Nat} (hv : v < 2 ^ 60) (hi : i < c.length) (h : 0 ≤ (c.getD i nd0).i ∧ (c.getD i nd0).i ≤ 7) : Runs Tryd.prog 38 [.int .i64 i, .ptr [.int .i64 v], .ptr [.sl 6 (ndR c)]] (.bool (leafT c v i)) := by
  refine CallT.go_fn mixed Tryd.func38 k38 (by simp) fun hf => ?_
  have hg := ndR_get c hi
  unfold leafT
  generalize c.getD i nd0 = p at h hg
  obtain ⟨w, hw⟩ := Int.eq_ofNat_of_zero_le h.1
  have e : (p.i.toNat : Nat) = w := by omega
  simp only [Int.reduceToNat, Int.reduceLT, Int.reduceLE, Int.reduceBEq, Int.reduceBNe, St0, argFr, ↓callZ, ↓midZ, ↓unZ, ↓thenW, ↓blockW, ↓opX, ↓opV, ↓pX, ↓pW, ↓putK, ↓putP, ↓atK, ↓normK, ↓postZ, ↓reduceIte, reduceIte, Nat.reduceEqDiff, Nat.reduceAdd, Nat.reduceBEq, Nat.reduceLT, Nat.reduceLeDiff, binW, bodyQ, ressW, resW, ne_eq, forall_const, reduceCtorEq, implies_true, sets, oneAll, setD, rels, fillE, fillD, List.replicate, rowsOf, forall_eq, Nat.reduceMul, ↓zD, zT, ndR_len, hg, Nd.row, hw, shrNat v w (by omega), and1Nat (div_lt62 (show v < 2 ^ 62 by omega) w), bitNat]
  (repeat refine And.intro (by first | omega | exact ui_nonneg _ | exact Int.natCast_nonneg _ | rfl | exact rows_one' _ _ | exact us_one _ | (intro _ h; cases h; done)) ?_)
  exact .drop (by simp) (by simp [vw])
theorem Table34 (f : List Nd) (n : Int) : Runs Tryd.prog 12 [.sl 6 (ndR f), .int .i64 n] (.tup [.int .u64 (ui (tableA f n).1), .int .i64 (tableA f n).2]) := by
  refine CallT.go_fn mixed Tryd.func12 k12 (by simp) fun hf => ?_
  simp only [Int.reduceToNat, Int.reduceLT, Int.reduceLE, Int.reduceBEq, Int.reduceBNe, St0, argFr, ↓callZ, ↓midZ, ↓unZ, ↓thenW, ↓blockW, ↓opX, ↓opV, ↓pX, ↓pW, ↓putK, ↓putP, ↓atK, ↓normK, ↓postZ, ↓reduceIte, reduceIte, Nat.reduceEqDiff, Nat.reduceAdd, Nat.reduceBEq, Nat.reduceLT, Nat.reduceLeDiff, binW, bodyQ, ressW, resW, ne_eq, forall_const, reduceCtorEq, implies_true, sets, oneAll, setD, rels, fillE, fillD, List.replicate, rowsOf, forall_eq, Nat.reduceMul, ↓zD, zT]
  refine .go (CallT.of_runs (checkF56 f) (by simp [D.isPureL, D.isPure])) ?_
  by_cases hc : checkF f = 0
  case neg =>
    have e : (checkF f != 0) = true := by simpa using hc
    simp only [Int.reduceToNat, Int.reduceLT, Int.reduceLE, Int.reduceBEq, Int.reduceBNe, St0, argFr, ↓callZ, ↓midZ, ↓unZ, ↓thenW, ↓blockW, ↓opX, ↓opV, ↓pX, ↓pW, ↓putK, ↓putP, ↓atK, ↓normK, ↓postZ, ↓reduceIte, reduceIte, Nat.reduceEqDiff, Nat.reduceAdd, Nat.reduceBEq, Nat.reduceLT, Nat.reduceLeDiff, binW, bodyQ, ressW, resW, ne_eq, forall_const, reduceCtorEq, implies_true, sets, oneAll, setD, rels, fillE, fillD, List.replicate, rowsOf, forall_eq, Nat.reduceMul, ↓zD, zT, e]
    rw [show tableA f n = (0#64, checkF f) from if_pos hc]
    exact .same
  have e : (checkF f != 0) = false := by simpa using hc
  simp only [Int.reduceToNat, Int.reduceLT, Int.reduceLE, Int.reduceBEq, Int.reduceBNe, St0, argFr, ↓callZ, ↓midZ, ↓unZ, ↓thenW, ↓blockW, ↓opX, ↓opV, ↓pX, ↓pW, ↓putK, ↓putP, ↓atK, ↓normK, ↓postZ, ↓reduceIte, reduceIte, Nat.reduceEqDiff, Nat.reduceAdd, Nat.reduceBEq, Nat.reduceLT, Nat.reduceLeDiff, binW, bodyQ, ressW, resW, ne_eq, forall_const, reduceCtorEq, implies_true, sets, oneAll, setD, rels, fillE, fillD, List.replicate, rowsOf, forall_eq, Nat.reduceMul, ↓zD, zT, e]
  refine .go (CallT.of_runs (Frags57 f) (by simp [D.isPureL, D.isPure])) ?_
  by_cases hf0 : fragsA f = 0
  case neg =>
    have e2 : ((fragsA f : Int) != 0) = true := by rw [bne_iff_ne]; omega
    simp only [Int.reduceToNat, Int.reduceLT, Int.reduceLE, Int.reduceBEq, Int.reduceBNe, St0, argFr, ↓callZ, ↓midZ, ↓unZ, ↓thenW, ↓blockW, ↓opX, ↓opV, ↓pX, ↓pW, ↓putK, ↓putP, ↓atK, ↓normK, ↓postZ, ↓reduceIte, reduceIte, Nat.reduceEqDiff, Nat.reduceAdd, Nat.reduceBEq, Nat.reduceLT, Nat.reduceLeDiff, binW, bodyQ, ressW, resW, ne_eq, forall_const, reduceCtorEq, implies_true, sets, oneAll, setD, rels, fillE, fillD, List.replicate, rowsOf, forall_eq, Nat.reduceMul, ↓zD, zT, e2]
    rw [show tableA f n = (0#64, 10) by rw [tableA, if_neg (by simpa using hc), if_pos hf0]]
    exact .same
  have e2 : ((fragsA f : Int) != 0) = false := by rw [hf0]; rfl
  by_cases h1 : n < 0
  · simp only [Int.reduceToNat, Int.reduceLT, Int.reduceLE, Int.reduceBEq, Int.reduceBNe, St0, argFr, ↓callZ, ↓midZ, ↓unZ, ↓thenW, ↓blockW, ↓opX, ↓opV, ↓pX, ↓pW, ↓putK, ↓putP, ↓atK, ↓normK, ↓postZ, ↓reduceIte, reduceIte, Nat.reduceEqDiff, Nat.reduceAdd, Nat.reduceBEq, Nat.reduceLT, Nat.reduceLeDiff, binW, bodyQ, ressW, resW, ne_eq, forall_const, reduceCtorEq, implies_true, sets, oneAll, setD, rels, fillE, fillD, List.replicate, rowsOf, forall_eq, Nat.reduceMul, ↓zD, zT, e2, h1]
    rw [show tableA f n = (0#64, 2) by rw [tableA, if_neg (by simpa using hc), if_neg (by simpa using hf0), if_pos (.inl h1)]]
    exact .same
  by_cases h2 : 6 < n
  · simp only [Int.reduceToNat, Int.reduceLT, Int.reduceLE, Int.reduceBEq, Int.reduceBNe, St0, argFr, ↓callZ, ↓midZ, ↓unZ, ↓thenW, ↓blockW, ↓opX, ↓opV, ↓pX, ↓pW, ↓putK, ↓putP, ↓atK, ↓normK, ↓postZ, ↓reduceIte, reduceIte, Nat.reduceEqDiff, Nat.reduceAdd, Nat.reduceBEq, Nat.reduceLT, Nat.reduceLeDiff, binW, bodyQ, ressW, resW, ne_eq, forall_const, reduceCtorEq, implies_true, sets, oneAll, setD, rels, fillE, fillD, List.replicate, rowsOf, forall_eq, Nat.reduceMul, ↓zD, zT, e2, h1, h2]
    rw [show tableA f n = (0#64, 2) by rw [tableA, if_neg (by simpa using hc), if_neg (by simpa using hf0), if_pos (.inr (.inl h2))]]
    exact .same
  simp only [Int.reduceToNat, Int.reduceLT, Int.reduceLE, Int.reduceBEq, Int.reduceBNe, St0, argFr, ↓callZ, ↓midZ, ↓unZ, ↓thenW, ↓blockW, ↓opX, ↓opV, ↓pX, ↓pW, ↓putK, ↓putP, ↓atK, ↓normK, ↓postZ, ↓reduceIte, reduceIte, Nat.reduceEqDiff, Nat.reduceAdd, Nat.reduceBEq, Nat.reduceLT, Nat.reduceLeDiff, binW, bodyQ, ressW, resW, ne_eq, forall_const, reduceCtorEq, implies_true, sets, oneAll, setD, rels, fillE, fillD, List.replicate, rowsOf, forall_eq, Nat.reduceMul, ↓zD, zT, e2, h1, h2]
  refine .go (CallT.of_runs (Fits58 f 0 n) (by simp [D.isPureL, D.isPure])) ?_
  cases h3 : fitsB f 0 n
  · simp only [Int.reduceToNat, Int.reduceLT, Int.reduceLE, Int.reduceBEq, Int.reduceBNe, St0, argFr, ↓callZ, ↓midZ, ↓unZ, ↓thenW, ↓blockW, ↓opX, ↓opV, ↓pX, ↓pW, ↓putK, ↓putP, ↓atK, ↓normK, ↓postZ, ↓reduceIte, reduceIte, Nat.reduceEqDiff, Nat.reduceAdd, Nat.reduceBEq, Nat.reduceLT, Nat.reduceLeDiff, binW, bodyQ, ressW, resW, ne_eq, forall_const, reduceCtorEq, implies_true, sets, oneAll, setD, rels, fillE, fillD, List.replicate, rowsOf, forall_eq, Nat.reduceMul, ↓zD, zT]
    rw [show tableA f n = (0#64, 2) by rw [tableA, if_neg (by simpa using hc), if_neg (by simpa using hf0), if_pos (.inr (.inr h3))]]
    exact .same
  rw [show tableA f n = (tabS (compactA f) (2 ^ n.toNat), 0) by rw [tableA, if_neg (by simpa using hc), if_neg (by simpa using hf0), if_neg (by simp [h1, h2, h3])]]
  simp only [Int.reduceToNat, Int.reduceLT, Int.reduceLE, Int.reduceBEq, Int.reduceBNe, St0, argFr, ↓callZ, ↓midZ, ↓unZ, ↓thenW, ↓blockW, ↓opX, ↓opV, ↓pX, ↓pW, ↓putK, ↓putP, ↓atK, ↓normK, ↓postZ, ↓reduceIte, reduceIte, Nat.reduceEqDiff, Nat.reduceAdd, Nat.reduceBEq, Nat.reduceLT, Nat.reduceLeDiff, binW, bodyQ, ressW, resW, ne_eq, forall_const, reduceCtorEq, implies_true, sets, oneAll, setD, rels, fillE, fillD, List.replicate, rowsOf, forall_eq, Nat.reduceMul, ↓zD, zT]
  refine .go (CallT.of_runs (Compact59 f) (by simp [D.isPureL, D.isPure])) ?_
  obtain ⟨m, rfl⟩ := Int.eq_ofNat_of_zero_le (show 0 ≤ n by omega)
  have hm : m ≤ 6 := by omega
  have hnd := sub_nd f ((f.length : Int) - 1)
  have hne := compact_ne hc
  have hln := sub_len f ((f.length : Int) - 1)
  have hcd : compactA f = subA f ((f.length : Int) - 1) := rfl
  rw [← hcd] at hnd hln
  generalize compactA f = c at hnd hln hne
  rw [Int.toNat_natCast]
  have h64 : 2 ^ m ≤ 2 ^ 6 := Nat.pow_le_pow_right (by decide) hm
  simp only [Int.reduceToNat, Int.reduceLT, Int.reduceLE, Int.reduceBEq, Int.reduceBNe, St0, argFr, ↓callZ, ↓midZ, ↓unZ, ↓thenW, ↓blockW, ↓opX, ↓opV, ↓pX, ↓pW, ↓putK, ↓putP, ↓atK, ↓normK, ↓postZ, ↓reduceIte, reduceIte, Nat.reduceEqDiff, Nat.reduceAdd, Nat.reduceBEq, Nat.reduceLT, Nat.reduceLeDiff, binW, bodyQ, ressW, resW, ne_eq, forall_const, reduceCtorEq, implies_true, sets, oneAll, setD, rels, fillE, fillD, List.replicate, rowsOf, forall_eq, Nat.reduceMul, ↓zD, zT, shlN (show m ≤ 61 by omega)]
  (repeat refine And.intro (by first | omega | exact ui_nonneg _ | exact Int.natCast_nonneg _ | rfl | exact rows_one' _ _ | exact us_one _ | (intro _ h; cases h; done)) ?_)
  refine wpS_loop (fun k : Nat => [(34, .int .i64 k), (33, .int .i64 ((2 ^ m : Nat) : Int)), (8, .int .u64 (ui (tabS c k))), (7, .ref 0 1 0 0)]) (fun _ => ⟨1, [(0, ⟨1, [[.sl 6 (ndR c)]]⟩)]⟩) (fun k => k ≤ 2 ^ m) (fun k => 2 ^ m - k) 0 (Nat.zero_le _) ?_ ?_
  · (refine Weak.same ?_; simp [sameF, Fr.get, tabS])
  intro k hk
  refine wpS_go mixed ?_
  have hw : IntKind.i64.wrap ((k : Int) + 1) = ((k + 1 : Nat) : Int) := wrap_i64 (by omega)
  by_cases h : k < 2 ^ m
  case neg =>
    have hd : ¬ ((k : Int) < ((2 ^ m : Nat) : Int)) := by omega
    rw [show k = 2 ^ m by omega]
    have hd : ¬ (((2 ^ m : Nat) : Int) < ((2 ^ m : Nat) : Int)) := by omega
    simp only [Int.reduceToNat, Int.reduceLT, Int.reduceLE, Int.reduceBEq, Int.reduceBNe, St0, argFr, ↓callZ, ↓midZ, ↓unZ, ↓thenW, ↓blockW, ↓opX, ↓opV, ↓pX, ↓pW, ↓putK, ↓putP, ↓atK, ↓normK, ↓postZ, ↓reduceIte, reduceIte, Nat.reduceEqDiff, Nat.reduceAdd, Nat.reduceBEq, Nat.reduceLT, Nat.reduceLeDiff, binW, bodyQ, ressW, resW, ne_eq, forall_const, reduceCtorEq, implies_true, sets, oneAll, setD, rels, fillE, fillD, List.replicate, rowsOf, forall_eq, Nat.reduceMul, ↓zD, zT, hd]
    exact .drop (by simp) (by simp [vw, vwL])
  have hd : ((k : Int) < ((2 ^ m : Nat) : Int)) := by omega
  have hcall : CallT Tryd.prog 37 [.sl 6 (ndR c), .fn 38 [.ref 1 1 0 0, .ref 0 1 0 0]] ⟨2, [(1, ⟨1, [[.int .i64 k]]⟩), (0, ⟨1, [[.sl 6 (ndR c)]]⟩)]⟩ (.bool (valueA c (leafT c k))) ⟨2, [(1, ⟨1, [[.int .i64 k]]⟩), (0, ⟨1, [[.sl 6 (ndR c)]]⟩)]⟩ := by
    refine CallT.lentS (value60 (g := 38) (caps := [.ptr [.int .i64 k], .ptr [.sl 6 (ndR c)]]) (leaf := leafT c k) hnd hne (by omega) (by simp [D.isPureL, D.isPure]) fun i hi _ => leaf61 (by omega) hi (nd_i (hnd i hi))) ⟨.pure rfl, .fn ⟨?_, ?_, trivial⟩, trivial⟩ rfl
    · exact Seen.ref (ob := ⟨1, [[.int .i64 k]]⟩) (by simp [St.get, St.look]) id rfl (by simp) (by simp) (by simp) fun j hj => by
        obtain rfl : j = 0 := by simpa using hj
        exact .pure rfl
    · exact Seen.ref (ob := ⟨1, [[.sl 6 (ndR c)]]⟩) (by simp [St.get, St.look]) id rfl (by simp) (by simp) (by simp) fun j hj => by
        obtain rfl : j = 0 := by simpa using hj
        exact .pure rfl
  simp only [Int.reduceToNat, Int.reduceLT, Int.reduceLE, Int.reduceBEq, Int.reduceBNe, St0, argFr, ↓callZ, ↓midZ, ↓unZ, ↓thenW, ↓blockW, ↓opX, ↓opV, ↓pX, ↓pW, ↓putK, ↓putP, ↓atK, ↓normK, ↓postZ, ↓reduceIte, reduceIte, Nat.reduceEqDiff, Nat.reduceAdd, Nat.reduceBEq, Nat.reduceLT, Nat.reduceLeDiff, binW, bodyQ, ressW, resW, ne_eq, forall_const, reduceCtorEq, implies_true, sets, oneAll, setD, rels, fillE, fillD, List.replicate, rowsOf, forall_eq, Nat.reduceMul, ↓zD, zT, hd]
  refine .go hcall ?_
  cases hv : valueA c (leafT c k)
  · simp only [Int.reduceToNat, Int.reduceLT, Int.reduceLE, Int.reduceBEq, Int.reduceBNe, St0, argFr, ↓callZ, ↓midZ, ↓unZ, ↓thenW, ↓blockW, ↓opX, ↓opV, ↓pX, ↓pW, ↓putK, ↓putP, ↓atK, ↓normK, ↓postZ, ↓reduceIte, reduceIte, Nat.reduceEqDiff, Nat.reduceAdd, Nat.reduceBEq, Nat.reduceLT, Nat.reduceLeDiff, binW, bodyQ, ressW, resW, ne_eq, forall_const, reduceCtorEq, implies_true, sets, oneAll, setD, rels, fillE, fillD, List.replicate, rowsOf, forall_eq, Nat.reduceMul, ↓zD, zT]
    refine ⟨k + 1, by omega, ?_, by omega⟩
    rw [show tabS c (k + 1) = tabS c k by rw [tabS, hv, if_neg (by simp)]]
    (refine Weak.ren [] [0] (by simp) (by simp) (by decide) ?_; simp only [stay1, vwL, vw, vwF, sw, St.get, St.look, Fr.get, ↓reduceIte, reduceIte, Nat.reduceEqDiff, Nat.reduceAdd, Nat.reduceBEq, Nat.reduceLT, Nat.reduceLeDiff, exists_eq_left', ne_eq, reduceCtorEq, zR, hw])
  · simp only [Int.reduceToNat, Int.reduceLT, Int.reduceLE, Int.reduceBEq, Int.reduceBNe, St0, argFr, ↓callZ, ↓midZ, ↓unZ, ↓thenW, ↓blockW, ↓opX, ↓opV, ↓pX, ↓pW, ↓putK, ↓putP, ↓atK, ↓normK, ↓postZ, ↓reduceIte, reduceIte, Nat.reduceEqDiff, Nat.reduceAdd, Nat.reduceBEq, Nat.reduceLT, Nat.reduceLeDiff, binW, bodyQ, ressW, resW, ne_eq, forall_const, reduceCtorEq, implies_true, sets, oneAll, setD, rels, fillE, fillD, List.replicate, rowsOf, forall_eq, Nat.reduceMul, ↓zD, zT]
    (repeat refine And.intro (by first | omega | exact ui_nonneg _ | exact Int.natCast_nonneg _ | rfl | exact rows_one' _ _ | exact us_one _ | (intro _ h; cases h; done)) ?_)
    refine ⟨k + 1, by omega, ?_, by omega⟩
    rw [show tabS c (k + 1) = tabS c k ||| (1#64 <<< k) by rw [tabS, hv, if_pos rfl]]
    (refine Weak.ren [] [0] (by simp) (by simp) (by decide) ?_; simp only [stay1, vwL, vw, vwF, sw, St.get, St.look, Fr.get, ↓reduceIte, reduceIte, Nat.reduceEqDiff, Nat.reduceAdd, Nat.reduceBEq, Nat.reduceLT, Nat.reduceLeDiff, exists_eq_left', ne_eq, reduceCtorEq, zR, hw])
end Go.Pd
