/- Runs: keys sorted. -/
import Derived.Test.YthohheekakbpbaaSC
import Derived.Test.YthohheekakbpbaaX7
set_option linter.unusedSectionVars false
set_option linter.unusedVariables false
set_option linter.unusedSimpArgs false
set_option linter.defProp false
set_option maxRecDepth 100000
namespace Go.Pd
open Go Go.Proofs Go.Shelf Go.Sort
open Ru
def renSortB : Go.Shelf.Ren where
  f := fun x => match x with | 6 => 55 | 15 => 69 | 14 => 68 | 28 => 82 | 29 => 83 | 20 => 74 | 21 => 75 | 22 => 76 | 23 => 77 | 24 => 78 | 25 => 79 | 26 => 80 | 27 => 81 | 46 => 85 | 47 => 86 | 48 => 87 | 49 => 88 | 50 => 89 | 57 => 90 | n => n
  t := fun x => match x with | 22 => 48 | 24 => 51 | 25 => 78 | 39 => 89 | 53 => 100 | 55 => 47 | 46 => 94 | 45 => 93 | 50 => 80 | 66 => 103 | 70 => 107 | 76 => 109 | 77 => 110 | n => n
  g := fun x => x

theorem laysSortB : SlLaysF.n6 Try.prog renSortB where
  mixed := by kernel_rfl
  f6 := ⟨ "slices.SortFunc[[][]int,[]int]", by decide, Try.func55.trans (congrArg some (by kernel_rfl))⟩
  f14 := ⟨ "slices.pdqsortCmpFunc[[]int]", by decide, Try.func68.trans (congrArg some (by kernel_rfl))⟩
  f15 := Try.func69.trans (congrArg some (by kernel_rfl))
  f20 := ⟨ "slices.insertionSortCmpFunc[[]int]", by decide, Try.func74.trans (congrArg some (by kernel_rfl))⟩
  f21 := ⟨ "slices.heapSortCmpFunc[[]int]", by decide, Try.func75.trans (congrArg some (by kernel_rfl))⟩
  f22 := ⟨ "slices.breakPatternsCmpFunc[[]int]", by decide, Try.func76.trans (congrArg some (by kernel_rfl))⟩
  f23 := ⟨ "slices.choosePivotCmpFunc[[]int]", by decide, Try.func77.trans (congrArg some (by kernel_rfl))⟩
  f24 := ⟨ "slices.reverseRangeCmpFunc[[]int]", by decide, Try.func78.trans (congrArg some (by kernel_rfl))⟩
  f25 := ⟨ "slices.partialInsertionSortCmpFunc[[]int]", by decide, Try.func79.trans (congrArg some (by kernel_rfl))⟩
  f26 := ⟨ "slices.partitionEqualCmpFunc[[]int]", by decide, Try.func80.trans (congrArg some (by kernel_rfl))⟩
  f27 := ⟨ "slices.partitionCmpFunc[[]int]", by decide, Try.func81.trans (congrArg some (by kernel_rfl))⟩
  f28 := Try.func82.trans (congrArg some (by kernel_rfl))
  f29 := Try.func83.trans (congrArg some (by kernel_rfl))
  f46 := ⟨ "slices.siftDownCmpFunc[[]int]", by decide, Try.func85.trans (congrArg some (by kernel_rfl))⟩
  f47 := Try.func86.trans (congrArg some (by kernel_rfl))
  f48 := Try.func87.trans (congrArg some (by kernel_rfl))
  f49 := ⟨ "slices.medianAdjacentCmpFunc[[]int]", by decide, Try.func88.trans (congrArg some (by kernel_rfl))⟩
  f50 := ⟨ "slices.medianCmpFunc[[]int]", by decide, Try.func89.trans (congrArg some (by kernel_rfl))⟩
  f57 := ⟨ "slices.order2CmpFunc[[]int]", by decide, Try.func90.trans (congrArg some (by kernel_rfl))⟩
  t0 := Try.underlying0
  a0 := Try.isAgg0
  z0 := Try.sizeOf0
  v0 := Try.zeroValue0
  t3 := Try.underlying3
  a3 := Try.isAgg3
  z3 := Try.sizeOf3
  v3 := Try.zeroValue3
  t4 := Try.underlying4
  a4 := Try.isAgg4
  z4 := Try.sizeOf4
  v4 := Try.zeroValue4
  t5 := Try.underlying5
  a5 := Try.isAgg5
  z5 := Try.sizeOf5
  v5 := Try.zeroValue5
  t9 := Try.underlying9
  a9 := Try.isAgg9
  z9 := Try.sizeOf9
  v9 := Try.zeroValue9
  t22 := Try.underlying48
  a22 := Try.isAgg48
  z22 := Try.sizeOf48
  v22 := Try.zeroValue48
  a24 := Try.isAgg51
  z24 := Try.sizeOf51
  t25 := Try.underlying78
  a25 := Try.isAgg78
  z25 := Try.sizeOf78
  v25 := Try.zeroValue78
  t39 := Try.underlying89
  a39 := Try.isAgg89
  z39 := Try.sizeOf89
  v39 := Try.zeroValue89
  t45 := Try.underlying93
  a45 := Try.isAgg93
  z45 := Try.sizeOf93
  v45 := Try.zeroValue93
  t46 := Try.underlying94
  a46 := Try.isAgg94
  z46 := Try.sizeOf94
  v46 := Try.zeroValue94
  t50 := Try.underlying80
  a50 := Try.isAgg80
  z50 := Try.sizeOf80
  v50 := Try.zeroValue80
  t53 := Try.underlying100
  a53 := Try.isAgg100
  z53 := Try.sizeOf100
  v53 := Try.zeroValue100
  t55 := Try.underlying47
  a55 := Try.isAgg47
  z55 := Try.sizeOf47
  v55 := Try.zeroValue47
  t66 := Try.underlying103
  a66 := Try.isAgg103
  z66 := Try.sizeOf103
  v66 := Try.zeroValue103
  t70 := Try.underlying107
  a70 := Try.isAgg107
  z70 := Try.sizeOf107
  v70 := Try.zeroValue107
  t76 := Try.underlying109
  a76 := Try.isAgg109
  z76 := Try.sizeOf109
  v76 := Try.zeroValue109
  t77 := Try.underlying110
  a77 := Try.isAgg110
  z77 := Try.sizeOf110
  v77 := Try.zeroValue110

def intD : D → Int
  | .int _ n => n
  | _ => 0
theorem rows_dec (l : List Int) : (rows .i64 l).map (fun e => intD (hd e)) = l := by
  unfold rows
  rw [List.map_map]
  conv => rhs; rw [← List.map_id l]
  exact List.map_congr_left fun x _ => rfl
theorem setL_same {k : Nat} {o : Ob} : ∀ {r : List (Nat × Ob)}, St.look r k = some o → setL r k o = r
  | [], h => by cases h
  | (j, o') :: r, h => by
    rw [look_cons] at h
    rw [setL_cons]
    by_cases e : j = k
    · rw [if_pos e] at h ⊢
      injection h with h; rw [h]
    · rw [if_neg e] at h ⊢
      rw [setL_same h]
/-! ### Lists in ascending order -/
def asc (l : List (List Int)) : Prop := l.Pairwise fun a b => ¬ kc b a < 0
def ascS (l : List (List Int)) : List (List Int) := l.mergeSort fun a b => decide (¬ kc b a < 0)
theorem ascS_perm (l : List (List Int)) : (ascS l).Perm l := List.mergeSort_perm l _
theorem kc_le_total (a b : List Int) : ¬ kc b a < 0 ∨ ¬ kc a b < 0 := by have := kc_anti a b; omega
theorem ascS_asc (l : List (List Int)) : asc (ascS l) := by
  have := List.pairwise_mergeSort (le := fun a b : List Int => decide (¬ kc b a < 0)) (fun a b c h1 h2 => by simp only [decide_eq_true_eq] at h1 h2 ⊢; exact kc_ntrans h2 h1) (fun a b => by simp only [Bool.or_eq_true, decide_eq_true_eq]; exact kc_le_total a b) l
  unfold asc ascS
  exact this.imp fun h => by simpa using h
theorem kc_both {a b : List Int} (h1 : ¬ kc b a < 0) (h2 : ¬ kc a b < 0) : a = b := kc_zero (by have := kc_anti a b; omega)
theorem ascS_eq {l m : List (List Int)} (hp : m.Perm l) (hm : asc m) : m = ascS l :=
  List.Perm.eq_of_pairwise (le := fun a b => ¬ kc b a < 0) (fun x y _ _ h1 h2 => kc_both h1 h2) hm (ascS_asc l) (hp.trans (ascS_perm l).symm)
def listD : D → List Int
  | .sl _ els => els.map fun e => intD (hd e)
  | _ => []
theorem listD_sl (l : List Int) : listD (.sl 1 (rows .i64 l)) = l := rows_dec l
theorem rl_back {l : List (List Int)} {els : List (List D)} (h : els.Perm (rl l)) : ∃ m : List (List Int), els = rl m ∧ m.Perm l := by
  refine ⟨els.map fun e => listD (hd e), ?_, ?_⟩
  · unfold rl
    rw [List.map_map]
    conv => lhs; rw [← List.map_id els]
    refine List.map_congr_left fun e he => ?_
    have := h.mem_iff.1 he
    simp only [rl, List.mem_map] at this
    obtain ⟨n, _, rfl⟩ := this
    show [D.sl 1 (rows .i64 n)] = [D.sl 1 (rows .i64 (listD (.sl 1 (rows .i64 n))))]
    rw [listD_sl]
  · have := h.map fun e => listD (hd e)
    have e : (rl l).map (fun e => listD (hd e)) = l := by
      unfold rl
      rw [List.map_map]
      conv => rhs; rw [← List.map_id l]
      exact List.map_congr_left fun x _ => listD_sl x
    rw [e] at this
    exact this
theorem hd_rl {l : List (List Int)} {i : Nat} (h : i < l.length) : listD (hd ((rl l).getD i [])) = l.getD i [] := by rw [rl_get _ h]; exact listD_sl _
theorem asc_of {o : List (List Int)} (h : ∀ a b, a < b → b < o.length → ¬ kc (o.getD b []) (o.getD a []) < 0) : asc o := by
  unfold asc
  rw [List.pairwise_iff_getElem]
  intro i j hi hj hij
  have := h i j hij hj
  simpa [List.getD, hi, hj] using this
theorem sortB_runs {σ : St} {key : Nat} {l : List (List Int)} (hget : σ.get key = some ⟨1, rl l⟩) (hne : l ≠ []) (hlen : l.length ≤ 1000) :
    CallT Try.prog 55 [.osl key 1 l.length, .fn 56 []] σ (.tup []) (σ.set key ⟨1, rl (ascS l)⟩) := by
  have ho : Ordinary Try.prog 55 := ⟨_, Try.func55, by kernel_rfl, by kernel_rfl⟩
  have ho2 : Ordinary Try.prog 56 := ⟨_, Try.func56, by kernel_rfl, by kernel_rfl⟩
  have h := sort_own (P := Try.prog) (ρ := renSortB) laysSortB ho (g := 56) (C := fun d => ∃ l : List Int, d = .sl 1 (rows .i64 l)) (cf := fun x y => kc (listD x) (listD y)) ho2
    (by rintro x y ⟨a, rfl⟩ ⟨b, rfl⟩; rw [listD_sl, listD_sl]; exact compare56 a b) (by intro x _; rw [kc_self]; omega) (by intro x y z _ _ _ h1 h2; exact kc_trans h1 h2) (by intro x y z _ _ _ h1 h2; exact kc_ntrans h1 h2)
    hget (target := rl (ascS l)) (by
      intro e he
      have hp := rl_pure l e he
      simp only [rl, List.mem_map] at he
      obtain ⟨n, hn, rfl⟩ := he
      exact ⟨_, rfl, by simpa [D.isPureL] using hp, n, rfl⟩) (by rw [rl_len]; omega) (by intro c; apply hne; simpa [rl] using c) (by
      intro els' hp hs
      obtain ⟨m, rfl, hm⟩ := rl_back hp
      rw [ascS_eq hm (asc_of fun a b hab hb => ?_)]
      have := hs a b hab (by rw [rl_len]; exact hb)
      change ¬ kc (listD _) (listD _) < 0 at this
      rw [hd_rl hb, hd_rl (show a < m.length by omega)] at this
      exact this)
  rw [rl_len] at h
  exact h
end Go.Pd
