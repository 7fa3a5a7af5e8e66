/- Boolean: contracts: sorting cubes; small functions. -/
import Derived.Test.YtfaehcooldhddaaDoorG6
import Derived.Test.YtfaehcooldhddaaDoorXK
set_option linter.unusedSectionVars false
set_option linter.unusedVariables false
set_option linter.unusedSimpArgs false
set_option linter.defProp false
set_option maxRecDepth 20000
namespace Go.Pd
open Go Go.Proofs
open Rs Fm
open Go.Shelf
def renC : Go.Shelf.Ren where
  f := fun x => match x with | 6 => 52 | 15 => 75 | 14 => 74 | 28 => 95 | 29 => 96 | 20 => 87 | 21 => 88 | 22 => 89 | 23 => 90 | 24 => 91 | 25 => 92 | 26 => 93 | 27 => 94 | 46 => 97 | 47 => 98 | 48 => 99 | 49 => 100 | 50 => 101 | 57 => 102 | n => n
  t := fun x => match x with | 22 => 35 | 24 => 42 | 25 => 72 | 39 => 43 | 53 => 89 | 55 => 24 | 46 => 106 | 45 => 105 | 50 => 100 | 66 => 111 | 70 => 115 | 76 => 117 | 77 => 118 | n => n
  g := fun x => x

theorem laysC : SlLaysF0.n6 Tryd.prog renC where
  mixed := by kernel_rfl
  f6 := ⟨ "slices.SortFunc[[]witting/api.Cube,witting/api.Cube]", by decide, Tryd.func52.trans (congrArg some (by kernel_rfl))⟩
  f14 := ⟨ "slices.pdqsortCmpFunc[witting/api.Cube]", by decide, Tryd.func74.trans (congrArg some (by kernel_rfl))⟩
  f15 := Tryd.func75.trans (congrArg some (by kernel_rfl))
  f20 := ⟨ "slices.insertionSortCmpFunc[witting/api.Cube]", by decide, Tryd.func87.trans (congrArg some (by kernel_rfl))⟩
  f21 := ⟨ "slices.heapSortCmpFunc[witting/api.Cube]", by decide, Tryd.func88.trans (congrArg some (by kernel_rfl))⟩
  f22 := ⟨ "slices.breakPatternsCmpFunc[witting/api.Cube]", by decide, Tryd.func89.trans (congrArg some (by kernel_rfl))⟩
  f23 := ⟨ "slices.choosePivotCmpFunc[witting/api.Cube]", by decide, Tryd.func90.trans (congrArg some (by kernel_rfl))⟩
  f24 := ⟨ "slices.reverseRangeCmpFunc[witting/api.Cube]", by decide, Tryd.func91.trans (congrArg some (by kernel_rfl))⟩
  f25 := ⟨ "slices.partialInsertionSortCmpFunc[witting/api.Cube]", by decide, Tryd.func92.trans (congrArg some (by kernel_rfl))⟩
  f26 := ⟨ "slices.partitionEqualCmpFunc[witting/api.Cube]", by decide, Tryd.func93.trans (congrArg some (by kernel_rfl))⟩
  f27 := ⟨ "slices.partitionCmpFunc[witting/api.Cube]", by decide, Tryd.func94.trans (congrArg some (by kernel_rfl))⟩
  f28 := Tryd.func95.trans (congrArg some (by kernel_rfl))
  f29 := Tryd.func96.trans (congrArg some (by kernel_rfl))
  f46 := ⟨ "slices.siftDownCmpFunc[witting/api.Cube]", by decide, Tryd.func97.trans (congrArg some (by kernel_rfl))⟩
  f47 := Tryd.func98.trans (congrArg some (by kernel_rfl))
  f48 := Tryd.func99.trans (congrArg some (by kernel_rfl))
  f49 := ⟨ "slices.medianAdjacentCmpFunc[witting/api.Cube]", by decide, Tryd.func100.trans (congrArg some (by kernel_rfl))⟩
  f50 := ⟨ "slices.medianCmpFunc[witting/api.Cube]", by decide, Tryd.func101.trans (congrArg some (by kernel_rfl))⟩
  f57 := ⟨ "slices.order2CmpFunc[witting/api.Cube]", by decide, Tryd.func102.trans (congrArg some (by kernel_rfl))⟩
  t0 := Tryd.underlying0
  a0 := Tryd.isAgg0
  z0 := Tryd.sizeOf0
  v0 := Tryd.zeroValue0
  t3 := Tryd.underlying3
  a3 := Tryd.isAgg3
  z3 := Tryd.sizeOf3
  v3 := Tryd.zeroValue3
  t4 := Tryd.underlying4
  a4 := Tryd.isAgg4
  z4 := Tryd.sizeOf4
  v4 := Tryd.zeroValue4
  t5 := Tryd.underlying5
  a5 := Tryd.isAgg5
  z5 := Tryd.sizeOf5
  v5 := Tryd.zeroValue5
  t9 := Tryd.underlying9
  a9 := Tryd.isAgg9
  z9 := Tryd.sizeOf9
  v9 := Tryd.zeroValue9
  t22 := Tryd.underlying35
  a22 := Tryd.isAgg35
  z22 := Tryd.sizeOf35
  v22 := Tryd.zeroValue35
  t25 := Tryd.underlying72
  a25 := Tryd.isAgg72
  z25 := Tryd.sizeOf72
  v25 := Tryd.zeroValue72
  t39 := Tryd.underlying43
  a39 := Tryd.isAgg43
  z39 := Tryd.sizeOf43
  v39 := Tryd.zeroValue43
  t45 := Tryd.underlying105
  a45 := Tryd.isAgg105
  z45 := Tryd.sizeOf105
  v45 := Tryd.zeroValue105
  t46 := Tryd.underlying106
  a46 := Tryd.isAgg106
  z46 := Tryd.sizeOf106
  v46 := Tryd.zeroValue106
  t50 := Tryd.underlying100
  a50 := Tryd.isAgg100
  z50 := Tryd.sizeOf100
  v50 := Tryd.zeroValue100
  t53 := Tryd.underlying89
  a53 := Tryd.isAgg89
  z53 := Tryd.sizeOf89
  v53 := Tryd.zeroValue89
  t55 := Tryd.underlying24
  a55 := Tryd.isAgg24
  z55 := Tryd.sizeOf24
  v55 := Tryd.zeroValue24
  t66 := Tryd.underlying111
  a66 := Tryd.isAgg111
  z66 := Tryd.sizeOf111
  v66 := Tryd.zeroValue111
  t70 := Tryd.underlying115
  a70 := Tryd.isAgg115
  z70 := Tryd.sizeOf115
  v70 := Tryd.zeroValue115
  t76 := Tryd.underlying117
  a76 := Tryd.isAgg117
  z76 := Tryd.sizeOf117
  v76 := Tryd.zeroValue117
  t77 := Tryd.underlying118
  a77 := Tryd.isAgg118
  z77 := Tryd.sizeOf118
  v77 := Tryd.zeroValue118

theorem sort_none {P : Program} {ρ : Ren} (L : SlLaysF0.n6 P ρ) (hord : Ordinary P (ρ.f 6)) {g : FuncId} {σ : St} {key sz : Nat} : CallT P (ρ.f 6) [.osl key sz 0, .fn g []] σ (.tup []) σ := by
  refine ⟨hord, fun M0 w ι vals hS hl hv => ?_⟩
  have h0 := hv 0 (by simp)
  have h1 := hv 1 (by simp)
  simp only [List.getD_cons_zero, List.getD_cons_succ] at h0 h1
  obtain ⟨cap, cur0, e0, e1, kk, a1, a2, a3, a4⟩ := h0.osl_inv
  obtain ⟨cb, f1, f2, f3⟩ := h1.fn_inv
  have hvals : vals = #[.slice (some ⟨ι key, 0, none⟩) 0 cap, .func (.func g) #[] cb] := by
    obtain ⟨l⟩ := vals
    match l, hl with
    | [x, y], _ =>
      simp at e1 f1
      rw [e1, f1]
  subst hvals
  refine (AnyF.slices_SortFunc_none L _ cap _ w).mono fun e' w' hh => ?_
  obtain ⟨rfl, rfl⟩ := hh
  exact ⟨.tuple #[], ι, rfl, Kept.refl _ _, hS, Nat.le_refl _, fun _ _ => rfl, fun k o hk => .inr ⟨k, o, hk, rfl⟩, .tup rfl (fun j hj => by simp at hj)⟩

theorem sort_noneP {P : Program} {ρ : Ren} (L : SlLaysF0.n6 P ρ) (hord : Ordinary P (ρ.f 6)) {g : FuncId} {σ : St} {sz : Nat} : CallT P (ρ.f 6) [.sl sz [], .fn g []] σ (.tup []) σ := by
  refine ⟨hord, fun M0 w ι vals hS hl hv => ?_⟩
  have h0 := hv 0 (by simp)
  have h1 := hv 1 (by simp)
  simp only [List.getD_cons_zero, List.getD_cons_succ] at h0 h1
  obtain ⟨ad, cap, e1⟩ : ∃ ad cap, vals.getD 0 undef = .slice ad 0 cap := by
    rcases h0.sl_inv with ⟨ad, cap, e1, _⟩ | ⟨b, off, cap, vs, e1, _⟩
    · exact ⟨ad, cap, e1⟩
    · exact ⟨_, cap, e1⟩
  obtain ⟨cb, f1, f2, f3⟩ := h1.fn_inv
  have hvals : vals = #[.slice ad 0 cap, .func (.func g) #[] cb] := by
    obtain ⟨l⟩ := vals
    match l, hl with
    | [x, y], _ =>
      simp at e1 f1
      rw [e1, f1]
  subst hvals
  refine (AnyF.slices_SortFunc_none L ad cap _ w).mono fun e' w' hh => ?_
  obtain ⟨rfl, rfl⟩ := hh
  exact ⟨.tuple #[], ι, rfl, Kept.refl _ _, hS, Nat.le_refl _, fun _ _ => rfl, fun k o hk => .inr ⟨k, o, hk, rfl⟩, .tup rfl (fun j hj => by simp at hj)⟩


namespace Fm
def cmpI (x y : Int) : Int := if x < y then -1 else if y < x then 1 else 0
def orL : List Int → Int
  | [] => 0
  | x :: r => if x ≠ 0 then x else orL r
def cmpC (p q : Int × Int) : Int := if cmpI p.1 q.1 ≠ 0 then cmpI p.1 q.1 else cmpI p.2 q.2
theorem cmpC_lt {p q : Int × Int} : cmpC p q < 0 ↔ p.1 < q.1 ∨ (p.1 = q.1 ∧ p.2 < q.2) := by
  unfold cmpC cmpI
  by_cases h1 : p.1 < q.1
  · simp [h1]
  · by_cases h2 : q.1 < p.1
    · simp [h1, h2]; omega
    · have : p.1 = q.1 := by omega
      by_cases h3 : p.2 < q.2
      · simp [this, h3]
      · by_cases h4 : q.2 < p.2 <;> simp [this, h3, h4]
end Fm
theorem isNaN76 (x : Int) : Runs Tryd.prog 76 [.int .i64 x] (.bool false) := by
  refine CallT.go_fn mixed Tryd.func76 k76 (by simp) fun hf => ?_
  simp only [Int.reduceToNat, Int.reduceLT, Int.reduceLE, Int.reduceBEq, Int.reduceBNe, St0, argFr, ↓callZ, ↓midZ, ↓unZ, ↓thenW, ↓blockW, ↓opX, ↓opV, ↓pX, ↓pW, ↓putK, ↓putP, ↓atK, ↓normK, ↓postZ, ↓reduceIte, reduceIte, Nat.reduceEqDiff, Nat.reduceAdd, Nat.reduceBEq, Nat.reduceLT, Nat.reduceLeDiff, binW, bodyQ, ressW, resW, ne_eq, forall_const, reduceCtorEq, implies_true, sets, oneAll, setD, rels, fillE, fillD, List.replicate, rowsOf, forall_eq, Nat.reduceMul, ↓zD, zT]
  exact .same
theorem Compare55 (x y : Int) : Runs Tryd.prog 55 [.int .i64 x, .int .i64 y] (.int .i64 (cmpI x y)) := by
  refine CallT.go_fn mixed Tryd.func55 k55 (by simp) fun hf => ?_
  simp only [Int.reduceToNat, Int.reduceLT, Int.reduceLE, Int.reduceBEq, Int.reduceBNe, St0, argFr, ↓callZ, ↓midZ, ↓unZ, ↓thenW, ↓blockW, ↓opX, ↓opV, ↓pX, ↓pW, ↓putK, ↓putP, ↓atK, ↓normK, ↓postZ, ↓reduceIte, reduceIte, Nat.reduceEqDiff, Nat.reduceAdd, Nat.reduceBEq, Nat.reduceLT, Nat.reduceLeDiff, binW, bodyQ, ressW, resW, ne_eq, forall_const, reduceCtorEq, implies_true, sets, oneAll, setD, rels, fillE, fillD, List.replicate, rowsOf, forall_eq, Nat.reduceMul, ↓zD, zT]
  refine .go (CallT.of_runs (isNaN76 x) rfl) ?_
  simp only [Int.reduceToNat, Int.reduceLT, Int.reduceLE, Int.reduceBEq, Int.reduceBNe, St0, argFr, ↓callZ, ↓midZ, ↓unZ, ↓thenW, ↓blockW, ↓opX, ↓opV, ↓pX, ↓pW, ↓putK, ↓putP, ↓atK, ↓normK, ↓postZ, ↓reduceIte, reduceIte, Nat.reduceEqDiff, Nat.reduceAdd, Nat.reduceBEq, Nat.reduceLT, Nat.reduceLeDiff, binW, bodyQ, ressW, resW, ne_eq, forall_const, reduceCtorEq, implies_true, sets, oneAll, setD, rels, fillE, fillD, List.replicate, rowsOf, forall_eq, Nat.reduceMul, ↓zD, zT]
  refine .go (CallT.of_runs (isNaN76 y) rfl) ?_
  by_cases h1 : x < y
  · simp only [Int.reduceToNat, Int.reduceLT, Int.reduceLE, Int.reduceBEq, Int.reduceBNe, St0, argFr, ↓callZ, ↓midZ, ↓unZ, ↓thenW, ↓blockW, ↓opX, ↓opV, ↓pX, ↓pW, ↓putK, ↓putP, ↓atK, ↓normK, ↓postZ, ↓reduceIte, reduceIte, Nat.reduceEqDiff, Nat.reduceAdd, Nat.reduceBEq, Nat.reduceLT, Nat.reduceLeDiff, binW, bodyQ, ressW, resW, ne_eq, forall_const, reduceCtorEq, implies_true, sets, oneAll, setD, rels, fillE, fillD, List.replicate, rowsOf, forall_eq, Nat.reduceMul, ↓zD, zT, h1]
    rw [show cmpI x y = -1 from if_pos h1]
    exact .same
  by_cases h2 : y < x
  · simp only [Int.reduceToNat, Int.reduceLT, Int.reduceLE, Int.reduceBEq, Int.reduceBNe, St0, argFr, ↓callZ, ↓midZ, ↓unZ, ↓thenW, ↓blockW, ↓opX, ↓opV, ↓pX, ↓pW, ↓putK, ↓putP, ↓atK, ↓normK, ↓postZ, ↓reduceIte, reduceIte, Nat.reduceEqDiff, Nat.reduceAdd, Nat.reduceBEq, Nat.reduceLT, Nat.reduceLeDiff, binW, bodyQ, ressW, resW, ne_eq, forall_const, reduceCtorEq, implies_true, sets, oneAll, setD, rels, fillE, fillD, List.replicate, rowsOf, forall_eq, Nat.reduceMul, ↓zD, zT, h1, h2]
    rw [show cmpI x y = 1 by unfold cmpI; rw [if_neg h1, if_pos h2]]
    exact .same
  simp only [Int.reduceToNat, Int.reduceLT, Int.reduceLE, Int.reduceBEq, Int.reduceBNe, St0, argFr, ↓callZ, ↓midZ, ↓unZ, ↓thenW, ↓blockW, ↓opX, ↓opV, ↓pX, ↓pW, ↓putK, ↓putP, ↓atK, ↓normK, ↓postZ, ↓reduceIte, reduceIte, Nat.reduceEqDiff, Nat.reduceAdd, Nat.reduceBEq, Nat.reduceLT, Nat.reduceLeDiff, binW, bodyQ, ressW, resW, ne_eq, forall_const, reduceCtorEq, implies_true, sets, oneAll, setD, rels, fillE, fillD, List.replicate, rowsOf, forall_eq, Nat.reduceMul, ↓zD, zT, h1, h2]
  rw [show cmpI x y = 0 by unfold cmpI; rw [if_neg h1, if_neg h2]]
  exact .same
theorem Or54 (l : List Int) (hl : l.length ≤ 1000) : Runs Tryd.prog 54 [.sl 1 (rows .i64 l)] (.int .i64 (orL l)) := by
  refine CallT.go_fn mixed Tryd.func54 k54 (by simp) fun hf => ?_
  simp only [Int.reduceToNat, Int.reduceLT, Int.reduceLE, Int.reduceBEq, Int.reduceBNe, St0, argFr, ↓callZ, ↓midZ, ↓unZ, ↓thenW, ↓blockW, ↓opX, ↓opV, ↓pX, ↓pW, ↓putK, ↓putP, ↓atK, ↓normK, ↓postZ, ↓reduceIte, reduceIte, Nat.reduceEqDiff, Nat.reduceAdd, Nat.reduceBEq, Nat.reduceLT, Nat.reduceLeDiff, binW, bodyQ, ressW, resW, ne_eq, forall_const, reduceCtorEq, implies_true, sets, oneAll, setD, rels, fillE, fillD, List.replicate, rowsOf, forall_eq, Nat.reduceMul, ↓zD, zT, rows_len]
  refine wpS_loop (fun k : Nat => [(8, .int .i64 k), (7, .int .i64 l.length), (6, .sl 1 (rows .i64 l)), (3, .int .i64 0)]) (fun _ => ⟨0, []⟩) (fun k => k ≤ l.length ∧ orL l = orL (l.drop k)) (fun k => l.length - k) 0 ⟨Nat.zero_le _, rfl⟩ ?_ ?_
  · (refine Weak.same ?_; simp [sameF, Fr.get])
  intro k ⟨hk, hi⟩
  refine wpS_go mixed ?_
  by_cases h : k < l.length
  case neg =>
    have hd : ¬ ((k : Int) < (l.length : Int)) := by omega
    rw [List.drop_eq_nil_of_le (by omega), orL] at hi
    simp only [Int.reduceToNat, Int.reduceLT, Int.reduceLE, Int.reduceBEq, Int.reduceBNe, St0, argFr, ↓callZ, ↓midZ, ↓unZ, ↓thenW, ↓blockW, ↓opX, ↓opV, ↓pX, ↓pW, ↓putK, ↓putP, ↓atK, ↓normK, ↓postZ, ↓reduceIte, reduceIte, Nat.reduceEqDiff, Nat.reduceAdd, Nat.reduceBEq, Nat.reduceLT, Nat.reduceLeDiff, binW, bodyQ, ressW, resW, ne_eq, forall_const, reduceCtorEq, implies_true, sets, oneAll, setD, rels, fillE, fillD, List.replicate, rowsOf, forall_eq, Nat.reduceMul, ↓zD, zT, hd]
    rw [hi]
    exact .same
  have hd : ((k : Int) < (l.length : Int)) := by omega
  have hw : IntKind.i64.wrap ((k : Int) + 1) = ((k + 1 : Nat) : Int) := wrap_i64 (by omega)
  have hg := rows_get .i64 l h
  rw [drop_cons (d := 0) h, orL] at hi
  generalize l.getD k 0 = x at hg hi
  by_cases hx : x = 0
  · have e : (x != 0) = false := by simpa using hx
    rw [if_neg (by simpa using hx)] at hi
    simp only [Int.reduceToNat, Int.reduceLT, Int.reduceLE, Int.reduceBEq, Int.reduceBNe, St0, argFr, ↓callZ, ↓midZ, ↓unZ, ↓thenW, ↓blockW, ↓opX, ↓opV, ↓pX, ↓pW, ↓putK, ↓putP, ↓atK, ↓normK, ↓postZ, ↓reduceIte, reduceIte, Nat.reduceEqDiff, Nat.reduceAdd, Nat.reduceBEq, Nat.reduceLT, Nat.reduceLeDiff, binW, bodyQ, ressW, resW, ne_eq, forall_const, reduceCtorEq, implies_true, sets, oneAll, setD, rels, fillE, fillD, List.replicate, rowsOf, forall_eq, Nat.reduceMul, ↓zD, zT, hd, rows_len, hg, e]
    (repeat refine And.intro (by first | omega | exact ui_nonneg _ | exact Int.natCast_nonneg _ | rfl | exact rows_one' _ _ | exact us_one _ | (intro _ h; cases h; done)) ?_)
    refine ⟨k + 1, ⟨by omega, hi⟩, ?_, by omega⟩
    (refine Weak.same ?_; simp only [sameF, Fr.get, ↓reduceIte, reduceIte, Nat.reduceEqDiff, reduceCtorEq, D.int.injEq, D.bool.injEq, D.sl.injEq, and_true, true_and, and_self])
    exact hw
  · have e : (x != 0) = true := by simpa using hx
    rw [if_pos hx] at hi
    simp only [Int.reduceToNat, Int.reduceLT, Int.reduceLE, Int.reduceBEq, Int.reduceBNe, St0, argFr, ↓callZ, ↓midZ, ↓unZ, ↓thenW, ↓blockW, ↓opX, ↓opV, ↓pX, ↓pW, ↓putK, ↓putP, ↓atK, ↓normK, ↓postZ, ↓reduceIte, reduceIte, Nat.reduceEqDiff, Nat.reduceAdd, Nat.reduceBEq, Nat.reduceLT, Nat.reduceLeDiff, binW, bodyQ, ressW, resW, ne_eq, forall_const, reduceCtorEq, implies_true, sets, oneAll, setD, rels, fillE, fillD, List.replicate, rowsOf, forall_eq, Nat.reduceMul, ↓zD, zT, hd, rows_len, hg, e]
    (repeat refine And.intro (by first | omega | exact ui_nonneg _ | exact Int.natCast_nonneg _ | rfl | exact rows_one' _ _ | exact us_one _ | (intro _ h; cases h; done)) ?_)
    rw [hi]
    exact .same
theorem cmpC53 (p q : Int × Int) : Runs Tryd.prog 53 [.agg [.int .i64 p.1, .int .i64 p.2], .agg [.int .i64 q.1, .int .i64 q.2]] (.int .i64 (cmpC p q)) := by
  refine CallT.go_fn mixed Tryd.func53 k53 (by simp) fun hf => ?_
  simp only [Int.reduceToNat, Int.reduceLT, Int.reduceLE, Int.reduceBEq, Int.reduceBNe, St0, argFr, ↓callZ, ↓midZ, ↓unZ, ↓thenW, ↓blockW, ↓opX, ↓opV, ↓pX, ↓pW, ↓putK, ↓putP, ↓atK, ↓normK, ↓postZ, ↓reduceIte, reduceIte, Nat.reduceEqDiff, Nat.reduceAdd, Nat.reduceBEq, Nat.reduceLT, Nat.reduceLeDiff, binW, bodyQ, ressW, resW, ne_eq, forall_const, reduceCtorEq, implies_true, sets, oneAll, setD, rels, fillE, fillD, List.replicate, rowsOf, forall_eq, Nat.reduceMul, ↓zD, zT]
  (repeat refine And.intro (by first | omega | exact ui_nonneg _ | exact Int.natCast_nonneg _ | rfl | exact rows_one' _ _ | exact us_one _ | (intro _ h; cases h; done)) ?_)
  refine .go (CallT.of_runs (Compare55 p.1 q.1) rfl) ?_
  simp only [Int.reduceToNat, Int.reduceLT, Int.reduceLE, Int.reduceBEq, Int.reduceBNe, St0, argFr, ↓callZ, ↓midZ, ↓unZ, ↓thenW, ↓blockW, ↓opX, ↓opV, ↓pX, ↓pW, ↓putK, ↓putP, ↓atK, ↓normK, ↓postZ, ↓reduceIte, reduceIte, Nat.reduceEqDiff, Nat.reduceAdd, Nat.reduceBEq, Nat.reduceLT, Nat.reduceLeDiff, binW, bodyQ, ressW, resW, ne_eq, forall_const, reduceCtorEq, implies_true, sets, oneAll, setD, rels, fillE, fillD, List.replicate, rowsOf, forall_eq, Nat.reduceMul, ↓zD, zT]
  (repeat refine And.intro (by first | omega | exact ui_nonneg _ | exact Int.natCast_nonneg _ | rfl | exact rows_one' _ _ | exact us_one _ | (intro _ h; cases h; done)) ?_)
  refine .go (CallT.of_runs (Compare55 p.2 q.2) rfl) ?_
  simp only [Int.reduceToNat, Int.reduceLT, Int.reduceLE, Int.reduceBEq, Int.reduceBNe, St0, argFr, ↓callZ, ↓midZ, ↓unZ, ↓thenW, ↓blockW, ↓opX, ↓opV, ↓pX, ↓pW, ↓putK, ↓putP, ↓atK, ↓normK, ↓postZ, ↓reduceIte, reduceIte, Nat.reduceEqDiff, Nat.reduceAdd, Nat.reduceBEq, Nat.reduceLT, Nat.reduceLeDiff, binW, bodyQ, ressW, resW, ne_eq, forall_const, reduceCtorEq, implies_true, sets, oneAll, setD, rels, fillE, fillD, List.replicate, rowsOf, forall_eq, Nat.reduceMul, ↓zD, zT]
  (repeat refine And.intro (by first | omega | exact ui_nonneg _ | exact Int.natCast_nonneg _ | rfl | exact rows_one' _ _ | exact us_one _ | (intro _ h; cases h; done)) ?_)
  refine .go (CallT.of_runs (Or54 [cmpI p.1 q.1, cmpI p.2 q.2] (by simp)) rfl) ?_
  simp only [Int.reduceToNat, Int.reduceLT, Int.reduceLE, Int.reduceBEq, Int.reduceBNe, St0, argFr, ↓callZ, ↓midZ, ↓unZ, ↓thenW, ↓blockW, ↓opX, ↓opV, ↓pX, ↓pW, ↓putK, ↓putP, ↓atK, ↓normK, ↓postZ, ↓reduceIte, reduceIte, Nat.reduceEqDiff, Nat.reduceAdd, Nat.reduceBEq, Nat.reduceLT, Nat.reduceLeDiff, binW, bodyQ, ressW, resW, ne_eq, forall_const, reduceCtorEq, implies_true, sets, oneAll, setD, rels, fillE, fillD, List.replicate, rowsOf, forall_eq, Nat.reduceMul, ↓zD, zT]
  have e : orL [cmpI p.1 q.1, cmpI p.2 q.2] = cmpC p q := by
    unfold orL orL orL cmpC
    by_cases h : cmpI p.1 q.1 = 0
    · simp only [h, ne_eq, not_true_eq_false, if_false]
      by_cases h2 : cmpI p.2 q.2 = 0 <;> simp [h2]
    · simp [h]
  rw [e]
  exact .drop (by simp) (by simp [vw])
theorem sort52 {σ : St} {key : Nat} {l target : List (Int × Int)} (hget : σ.get key = some ⟨2, prR l⟩) (hlen : l.length ≤ 1000000) (hp : target.Perm l) (hs : target.Pairwise fun a b => cmpC a b < 0) :
    CallT Tryd.prog 52 [.osl key 2 l.length, .fn 53 []] σ (.tup []) (σ.set key ⟨2, prR target⟩) := by
  have ho : Ordinary Tryd.prog 52 := ⟨_, Tryd.func52, by kernel_rfl, by kernel_rfl⟩
  have ho2 : Ordinary Tryd.prog 53 := ⟨_, Tryd.func53, by kernel_rfl, by kernel_rfl⟩
  refine sort_pairs (P := Tryd.prog) (ρ := renC) laysC Tryd.isAgg42 Tryd.sizeOf42 ho (g := 53) (cf := cmpC) ho2 cmpC53 (fun x => by rw [cmpC_lt]; omega) (fun x y z h1 h2 => by rw [cmpC_lt] at *; omega) (fun x y z h1 h2 => by rw [cmpC_lt] at *; omega) hget (by omega) fun l' h1 h2 => ?_
  refine List.Perm.eq_of_pairwise (le := fun a b => ¬ cmpC b a < 0) (fun a b _ _ h1 h2 => ?_) ?_ ?_ (h1.trans hp.symm)
  · rw [cmpC_lt] at h1 h2
    obtain ⟨a1, a2⟩ := a
    obtain ⟨b1, b2⟩ := b
    simp only at h1 h2
    have : a1 = b1 := by omega
    have : a2 = b2 := by omega
    simp [*]
  · refine List.pairwise_iff_getElem.2 fun i j hi hj hij => ?_
    have := h2 i j hij hj
    rwa [show l'.getD j (0, 0) = l'[j] by simp [List.getD, hj], show l'.getD i (0, 0) = l'[i] by simp [List.getD, hi]] at this
  · refine hs.imp fun {a b} h => ?_
    rw [cmpC_lt] at h ⊢
    omega
theorem sort52n {σ : St} : CallT Tryd.prog 52 [.nils, .fn 53 []] σ (.tup []) σ := by
  have ho : Ordinary Tryd.prog 52 := ⟨_, Tryd.func52, by kernel_rfl, by kernel_rfl⟩
  have h : Runs Tryd.prog 52 [.sl 2 [], .fn 53 []] (.tup []) := sort_noneP (σ := St0) (sz := 2) (g := 53) laysC ho
  exact CallT.lentS (args' := [.sl 2 [], .fn 53 []]) h ⟨.nil 2, .pure rfl, trivial⟩ rfl
theorem tz51 (s : BitVec 64) : Runs Tryd.prog 51 [.int .u64 (ui s)] (.int .i64 (tz s)) := by
  refine CallT.go_fn mixed Tryd.func51 k51 (by simp) fun hf => ?_
  simp only [Int.reduceToNat, Int.reduceLT, Int.reduceLE, Int.reduceBEq, Int.reduceBNe, St0, argFr, ↓callZ, ↓midZ, ↓unZ, ↓thenW, ↓blockW, ↓opX, ↓opV, ↓pX, ↓pW, ↓putK, ↓putP, ↓atK, ↓normK, ↓postZ, ↓reduceIte, reduceIte, Nat.reduceEqDiff, Nat.reduceAdd, Nat.reduceBEq, Nat.reduceLT, Nat.reduceLeDiff, binW, bodyQ, ressW, resW, ne_eq, forall_const, reduceCtorEq, implies_true, sets, oneAll, setD, rels, fillE, fillD, List.replicate, rowsOf, forall_eq, Nat.reduceMul, ↓zD, zT]
  refine .go (CallT.of_runs (tz_runs s) rfl) ?_
  simp only [Int.reduceToNat, Int.reduceLT, Int.reduceLE, Int.reduceBEq, Int.reduceBNe, St0, argFr, ↓callZ, ↓midZ, ↓unZ, ↓thenW, ↓blockW, ↓opX, ↓opV, ↓pX, ↓pW, ↓putK, ↓putP, ↓atK, ↓normK, ↓postZ, ↓reduceIte, reduceIte, Nat.reduceEqDiff, Nat.reduceAdd, Nat.reduceBEq, Nat.reduceLT, Nat.reduceLeDiff, binW, bodyQ, ressW, resW, ne_eq, forall_const, reduceCtorEq, implies_true, sets, oneAll, setD, rels, fillE, fillD, List.replicate, rowsOf, forall_eq, Nat.reduceMul, ↓zD, zT]
  exact .same
namespace Fm
def fullS (n : Nat) : BitVec 64 := if n = 6 then 18446744073709551615#64 else (1#64 <<< (2 ^ n)) - 1#64
def tableErr (t : BitVec 64) (n : Int) : Int := if n < 0 ∨ 6 < n then 2 else if t &&& ~~~(fullS n.toNat) ≠ 0#64 then 1 else 0
end Fm
theorem full71 {n : Nat} (hn : n ≤ 6) : Runs Tryd.prog 71 [.int .i64 n] (.int .u64 (ui (fullS n))) := by
  refine CallT.go_fn mixed Tryd.func71 k71 (by simp) fun hf => ?_
  by_cases h : n = 6
  · subst h
    simp only [Int.reduceToNat, Int.reduceLT, Int.reduceLE, Int.reduceBEq, Int.reduceBNe, St0, argFr, ↓callZ, ↓midZ, ↓unZ, ↓thenW, ↓blockW, ↓opX, ↓opV, ↓pX, ↓pW, ↓putK, ↓putP, ↓atK, ↓normK, ↓postZ, ↓reduceIte, reduceIte, Nat.reduceEqDiff, Nat.reduceAdd, Nat.reduceBEq, Nat.reduceLT, Nat.reduceLeDiff, binW, bodyQ, ressW, resW, ne_eq, forall_const, reduceCtorEq, implies_true, sets, oneAll, setD, rels, fillE, fillD, List.replicate, rowsOf, forall_eq, Nat.reduceMul, ↓zD, zT]
    exact .same
  · have e : ((n : Int) == 6) = false := by rw [beq_eq_false_iff_ne]; omega
    have hp : 2 ^ n ≤ 2 ^ 6 := Nat.pow_le_pow_right (by decide) hn
    have e1 : ui (1#64 <<< n) = ((2 ^ n : Nat) : Int) := uiPow (by omega)
    rw [show fullS n = (1#64 <<< (2 ^ n)) - 1#64 from if_neg h]
    simp only [Int.reduceToNat, Int.reduceLT, Int.reduceLE, Int.reduceBEq, Int.reduceBNe, St0, argFr, ↓callZ, ↓midZ, ↓unZ, ↓thenW, ↓blockW, ↓opX, ↓opV, ↓pX, ↓pW, ↓putK, ↓putP, ↓atK, ↓normK, ↓postZ, ↓reduceIte, reduceIte, Nat.reduceEqDiff, Nat.reduceAdd, Nat.reduceBEq, Nat.reduceLT, Nat.reduceLeDiff, binW, bodyQ, ressW, resW, ne_eq, forall_const, reduceCtorEq, implies_true, sets, oneAll, setD, rels, fillE, fillD, List.replicate, rowsOf, forall_eq, Nat.reduceMul, ↓zD, zT, e, e1]
    (repeat refine And.intro (by first | omega | exact ui_nonneg _ | exact Int.natCast_nonneg _ | rfl | exact rows_one' _ _ | exact us_one _ | (intro _ h; cases h; done)) ?_)
    exact .same
theorem tableErr50 (t : BitVec 64) (n : Int) : Runs Tryd.prog 50 [.int .u64 (ui t), .int .i64 n] (.int .i64 (tableErr t n)) := by
  refine CallT.go_fn mixed Tryd.func50 k50 (by simp) fun hf => ?_
  by_cases h1 : n < 0
  · simp only [Int.reduceToNat, Int.reduceLT, Int.reduceLE, Int.reduceBEq, Int.reduceBNe, St0, argFr, ↓callZ, ↓midZ, ↓unZ, ↓thenW, ↓blockW, ↓opX, ↓opV, ↓pX, ↓pW, ↓putK, ↓putP, ↓atK, ↓normK, ↓postZ, ↓reduceIte, reduceIte, Nat.reduceEqDiff, Nat.reduceAdd, Nat.reduceBEq, Nat.reduceLT, Nat.reduceLeDiff, binW, bodyQ, ressW, resW, ne_eq, forall_const, reduceCtorEq, implies_true, sets, oneAll, setD, rels, fillE, fillD, List.replicate, rowsOf, forall_eq, Nat.reduceMul, ↓zD, zT, h1]
    rw [show tableErr t n = 2 from if_pos (.inl h1)]
    exact .same
  by_cases h2 : 6 < n
  · simp only [Int.reduceToNat, Int.reduceLT, Int.reduceLE, Int.reduceBEq, Int.reduceBNe, St0, argFr, ↓callZ, ↓midZ, ↓unZ, ↓thenW, ↓blockW, ↓opX, ↓opV, ↓pX, ↓pW, ↓putK, ↓putP, ↓atK, ↓normK, ↓postZ, ↓reduceIte, reduceIte, Nat.reduceEqDiff, Nat.reduceAdd, Nat.reduceBEq, Nat.reduceLT, Nat.reduceLeDiff, binW, bodyQ, ressW, resW, ne_eq, forall_const, reduceCtorEq, implies_true, sets, oneAll, setD, rels, fillE, fillD, List.replicate, rowsOf, forall_eq, Nat.reduceMul, ↓zD, zT, h1, h2]
    rw [show tableErr t n = 2 from if_pos (.inr h2)]
    exact .same
  obtain ⟨m, rfl⟩ := Int.eq_ofNat_of_zero_le (show 0 ≤ n by omega)
  rw [show tableErr t m = if t &&& ~~~(fullS m) ≠ 0#64 then 1 else 0 by unfold tableErr; rw [if_neg (by omega), Int.toNat_natCast]]
  simp only [Int.reduceToNat, Int.reduceLT, Int.reduceLE, Int.reduceBEq, Int.reduceBNe, St0, argFr, ↓callZ, ↓midZ, ↓unZ, ↓thenW, ↓blockW, ↓opX, ↓opV, ↓pX, ↓pW, ↓putK, ↓putP, ↓atK, ↓normK, ↓postZ, ↓reduceIte, reduceIte, Nat.reduceEqDiff, Nat.reduceAdd, Nat.reduceBEq, Nat.reduceLT, Nat.reduceLeDiff, binW, bodyQ, ressW, resW, ne_eq, forall_const, reduceCtorEq, implies_true, sets, oneAll, setD, rels, fillE, fillD, List.replicate, rowsOf, forall_eq, Nat.reduceMul, ↓zD, zT, h1, h2]
  refine .go (CallT.of_runs (full71 (n := m) (by omega)) rfl) ?_
  by_cases h3 : t &&& ~~~(fullS m) = 0#64
  · have e : (t &&& ~~~(fullS m) != 0#64) = false := by simpa using h3
    rw [if_neg (by simpa using h3)]
    simp only [Int.reduceToNat, Int.reduceLT, Int.reduceLE, Int.reduceBEq, Int.reduceBNe, St0, argFr, ↓callZ, ↓midZ, ↓unZ, ↓thenW, ↓blockW, ↓opX, ↓opV, ↓pX, ↓pW, ↓putK, ↓putP, ↓atK, ↓normK, ↓postZ, ↓reduceIte, reduceIte, Nat.reduceEqDiff, Nat.reduceAdd, Nat.reduceBEq, Nat.reduceLT, Nat.reduceLeDiff, binW, bodyQ, ressW, resW, ne_eq, forall_const, reduceCtorEq, implies_true, sets, oneAll, setD, rels, fillE, fillD, List.replicate, rowsOf, forall_eq, Nat.reduceMul, ↓zD, zT, e]
    exact .same
  · have e : (t &&& ~~~(fullS m) != 0#64) = true := by simpa using h3
    rw [if_pos h3]
    simp only [Int.reduceToNat, Int.reduceLT, Int.reduceLE, Int.reduceBEq, Int.reduceBNe, St0, argFr, ↓callZ, ↓midZ, ↓unZ, ↓thenW, ↓blockW, ↓opX, ↓opV, ↓pX, ↓pW, ↓putK, ↓putP, ↓atK, ↓normK, ↓postZ, ↓reduceIte, reduceIte, Nat.reduceEqDiff, Nat.reduceAdd, Nat.reduceBEq, Nat.reduceLT, Nat.reduceLeDiff, binW, bodyQ, ressW, resW, ne_eq, forall_const, reduceCtorEq, implies_true, sets, oneAll, setD, rels, fillE, fillD, List.replicate, rowsOf, forall_eq, Nat.reduceMul, ↓zD, zT, e]
    exact .same
end Go.Pd
