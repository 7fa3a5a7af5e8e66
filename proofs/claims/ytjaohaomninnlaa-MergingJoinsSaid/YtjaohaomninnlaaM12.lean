/- Merging: contracts: sorting and comparing. -/
import Derived.Test.YtjaohaomninnlaaM11
import Derived.Test.YtjaohaomninnlaaX7
set_option linter.unusedSectionVars false
set_option linter.unusedVariables false
set_option linter.unusedSimpArgs false
set_option linter.defProp false
set_option maxRecDepth 100000
namespace Go.Pd
open Go Go.Proofs Go.Shelf Go.Sort
open Mg
def renSortA : Go.Shelf.Ren where
  f := fun x => match x with | 6 => 42 | 15 => 62 | 14 => 61 | 28 => 80 | 29 => 81 | 20 => 72 | 21 => 73 | 22 => 74 | 23 => 75 | 24 => 76 | 25 => 77 | 26 => 78 | 27 => 79 | 46 => 92 | 47 => 93 | 48 => 94 | 49 => 95 | 50 => 96 | 57 => 100 | n => n
  t := fun x => match x with | 22 => 39 | 24 => 3 | 25 => 63 | 39 => 56 | 53 => 81 | 55 => 23 | 46 => 86 | 45 => 85 | 50 => 68 | 66 => 97 | 70 => 101 | 76 => 105 | 77 => 31 | n => n
  g := fun x => x

theorem laysSortA : SlLaysF.n6 Try.prog renSortA where
  mixed := by kernel_rfl
  f6 := ⟨ "slices.SortFunc[[]int,int]", by decide, Try.func42.trans (congrArg some (by kernel_rfl))⟩
  f14 := ⟨ "slices.pdqsortCmpFunc[int]", by decide, Try.func61.trans (congrArg some (by kernel_rfl))⟩
  f15 := Try.func62.trans (congrArg some (by kernel_rfl))
  f20 := ⟨ "slices.insertionSortCmpFunc[int]", by decide, Try.func72.trans (congrArg some (by kernel_rfl))⟩
  f21 := ⟨ "slices.heapSortCmpFunc[int]", by decide, Try.func73.trans (congrArg some (by kernel_rfl))⟩
  f22 := ⟨ "slices.breakPatternsCmpFunc[int]", by decide, Try.func74.trans (congrArg some (by kernel_rfl))⟩
  f23 := ⟨ "slices.choosePivotCmpFunc[int]", by decide, Try.func75.trans (congrArg some (by kernel_rfl))⟩
  f24 := ⟨ "slices.reverseRangeCmpFunc[int]", by decide, Try.func76.trans (congrArg some (by kernel_rfl))⟩
  f25 := ⟨ "slices.partialInsertionSortCmpFunc[int]", by decide, Try.func77.trans (congrArg some (by kernel_rfl))⟩
  f26 := ⟨ "slices.partitionEqualCmpFunc[int]", by decide, Try.func78.trans (congrArg some (by kernel_rfl))⟩
  f27 := ⟨ "slices.partitionCmpFunc[int]", by decide, Try.func79.trans (congrArg some (by kernel_rfl))⟩
  f28 := Try.func80.trans (congrArg some (by kernel_rfl))
  f29 := Try.func81.trans (congrArg some (by kernel_rfl))
  f46 := ⟨ "slices.siftDownCmpFunc[int]", by decide, Try.func92.trans (congrArg some (by kernel_rfl))⟩
  f47 := Try.func93.trans (congrArg some (by kernel_rfl))
  f48 := Try.func94.trans (congrArg some (by kernel_rfl))
  f49 := ⟨ "slices.medianAdjacentCmpFunc[int]", by decide, Try.func95.trans (congrArg some (by kernel_rfl))⟩
  f50 := ⟨ "slices.medianCmpFunc[int]", by decide, Try.func96.trans (congrArg some (by kernel_rfl))⟩
  f57 := ⟨ "slices.order2CmpFunc[int]", by decide, Try.func100.trans (congrArg some (by kernel_rfl))⟩
  t0 := Try.underlying0
  a0 := Try.isAgg0
  z0 := Try.sizeOf0
  v0 := Try.zeroValue0
  t3 := Try.underlying3
  a3 := Try.isAgg3
  z3 := Try.sizeOf3
  v3 := Try.zeroValue3
  t4 := Try.underlying4
  a4 := Try.isAgg4
  z4 := Try.sizeOf4
  v4 := Try.zeroValue4
  t5 := Try.underlying5
  a5 := Try.isAgg5
  z5 := Try.sizeOf5
  v5 := Try.zeroValue5
  t9 := Try.underlying9
  a9 := Try.isAgg9
  z9 := Try.sizeOf9
  v9 := Try.zeroValue9
  t22 := Try.underlying39
  a22 := Try.isAgg39
  z22 := Try.sizeOf39
  v22 := Try.zeroValue39
  a24 := Try.isAgg3
  z24 := Try.sizeOf3
  t25 := Try.underlying63
  a25 := Try.isAgg63
  z25 := Try.sizeOf63
  v25 := Try.zeroValue63
  t39 := Try.underlying56
  a39 := Try.isAgg56
  z39 := Try.sizeOf56
  v39 := Try.zeroValue56
  t45 := Try.underlying85
  a45 := Try.isAgg85
  z45 := Try.sizeOf85
  v45 := Try.zeroValue85
  t46 := Try.underlying86
  a46 := Try.isAgg86
  z46 := Try.sizeOf86
  v46 := Try.zeroValue86
  t50 := Try.underlying68
  a50 := Try.isAgg68
  z50 := Try.sizeOf68
  v50 := Try.zeroValue68
  t53 := Try.underlying81
  a53 := Try.isAgg81
  z53 := Try.sizeOf81
  v53 := Try.zeroValue81
  t55 := Try.underlying23
  a55 := Try.isAgg23
  z55 := Try.sizeOf23
  v55 := Try.zeroValue23
  t66 := Try.underlying97
  a66 := Try.isAgg97
  z66 := Try.sizeOf97
  v66 := Try.zeroValue97
  t70 := Try.underlying101
  a70 := Try.isAgg101
  z70 := Try.sizeOf101
  v70 := Try.zeroValue101
  t76 := Try.underlying105
  a76 := Try.isAgg105
  z76 := Try.sizeOf105
  v76 := Try.zeroValue105
  t77 := Try.underlying31
  a77 := Try.isAgg31
  z77 := Try.sizeOf31
  v77 := Try.zeroValue31

def renSortB : Go.Shelf.Ren where
  f := fun x => match x with | 6 => 45 | 15 => 62 | 14 => 63 | 28 => 80 | 29 => 81 | 20 => 82 | 21 => 83 | 22 => 84 | 23 => 85 | 24 => 86 | 25 => 87 | 26 => 88 | 27 => 89 | 46 => 97 | 47 => 93 | 48 => 94 | 49 => 98 | 50 => 99 | 57 => 101 | n => n
  t := fun x => match x with | 22 => 57 | 24 => 39 | 25 => 66 | 39 => 56 | 53 => 81 | 55 => 23 | 46 => 86 | 45 => 85 | 50 => 68 | 66 => 97 | 70 => 101 | 76 => 105 | 77 => 31 | n => n
  g := fun x => x

theorem laysSortB : SlLaysF.n6 Try.prog renSortB where
  mixed := by kernel_rfl
  f6 := ⟨ "slices.SortFunc[[][]int,[]int]", by decide, Try.func45.trans (congrArg some (by kernel_rfl))⟩
  f14 := ⟨ "slices.pdqsortCmpFunc[[]int]", by decide, Try.func63.trans (congrArg some (by kernel_rfl))⟩
  f15 := Try.func62.trans (congrArg some (by kernel_rfl))
  f20 := ⟨ "slices.insertionSortCmpFunc[[]int]", by decide, Try.func82.trans (congrArg some (by kernel_rfl))⟩
  f21 := ⟨ "slices.heapSortCmpFunc[[]int]", by decide, Try.func83.trans (congrArg some (by kernel_rfl))⟩
  f22 := ⟨ "slices.breakPatternsCmpFunc[[]int]", by decide, Try.func84.trans (congrArg some (by kernel_rfl))⟩
  f23 := ⟨ "slices.choosePivotCmpFunc[[]int]", by decide, Try.func85.trans (congrArg some (by kernel_rfl))⟩
  f24 := ⟨ "slices.reverseRangeCmpFunc[[]int]", by decide, Try.func86.trans (congrArg some (by kernel_rfl))⟩
  f25 := ⟨ "slices.partialInsertionSortCmpFunc[[]int]", by decide, Try.func87.trans (congrArg some (by kernel_rfl))⟩
  f26 := ⟨ "slices.partitionEqualCmpFunc[[]int]", by decide, Try.func88.trans (congrArg some (by kernel_rfl))⟩
  f27 := ⟨ "slices.partitionCmpFunc[[]int]", by decide, Try.func89.trans (congrArg some (by kernel_rfl))⟩
  f28 := Try.func80.trans (congrArg some (by kernel_rfl))
  f29 := Try.func81.trans (congrArg some (by kernel_rfl))
  f46 := ⟨ "slices.siftDownCmpFunc[[]int]", by decide, Try.func97.trans (congrArg some (by kernel_rfl))⟩
  f47 := Try.func93.trans (congrArg some (by kernel_rfl))
  f48 := Try.func94.trans (congrArg some (by kernel_rfl))
  f49 := ⟨ "slices.medianAdjacentCmpFunc[[]int]", by decide, Try.func98.trans (congrArg some (by kernel_rfl))⟩
  f50 := ⟨ "slices.medianCmpFunc[[]int]", by decide, Try.func99.trans (congrArg some (by kernel_rfl))⟩
  f57 := ⟨ "slices.order2CmpFunc[[]int]", by decide, Try.func101.trans (congrArg some (by kernel_rfl))⟩
  t0 := Try.underlying0
  a0 := Try.isAgg0
  z0 := Try.sizeOf0
  v0 := Try.zeroValue0
  t3 := Try.underlying3
  a3 := Try.isAgg3
  z3 := Try.sizeOf3
  v3 := Try.zeroValue3
  t4 := Try.underlying4
  a4 := Try.isAgg4
  z4 := Try.sizeOf4
  v4 := Try.zeroValue4
  t5 := Try.underlying5
  a5 := Try.isAgg5
  z5 := Try.sizeOf5
  v5 := Try.zeroValue5
  t9 := Try.underlying9
  a9 := Try.isAgg9
  z9 := Try.sizeOf9
  v9 := Try.zeroValue9
  t22 := Try.underlying57
  a22 := Try.isAgg57
  z22 := Try.sizeOf57
  v22 := Try.zeroValue57
  a24 := Try.isAgg39
  z24 := Try.sizeOf39
  t25 := Try.underlying66
  a25 := Try.isAgg66
  z25 := Try.sizeOf66
  v25 := Try.zeroValue66
  t39 := Try.underlying56
  a39 := Try.isAgg56
  z39 := Try.sizeOf56
  v39 := Try.zeroValue56
  t45 := Try.underlying85
  a45 := Try.isAgg85
  z45 := Try.sizeOf85
  v45 := Try.zeroValue85
  t46 := Try.underlying86
  a46 := Try.isAgg86
  z46 := Try.sizeOf86
  v46 := Try.zeroValue86
  t50 := Try.underlying68
  a50 := Try.isAgg68
  z50 := Try.sizeOf68
  v50 := Try.zeroValue68
  t53 := Try.underlying81
  a53 := Try.isAgg81
  z53 := Try.sizeOf81
  v53 := Try.zeroValue81
  t55 := Try.underlying23
  a55 := Try.isAgg23
  z55 := Try.sizeOf23
  v55 := Try.zeroValue23
  t66 := Try.underlying97
  a66 := Try.isAgg97
  z66 := Try.sizeOf97
  v66 := Try.zeroValue97
  t70 := Try.underlying101
  a70 := Try.isAgg101
  z70 := Try.sizeOf101
  v70 := Try.zeroValue101
  t76 := Try.underlying105
  a76 := Try.isAgg105
  z76 := Try.sizeOf105
  v76 := Try.zeroValue105
  t77 := Try.underlying31
  a77 := Try.isAgg31
  z77 := Try.sizeOf31
  v77 := Try.zeroValue31

/-- slices.SortFunc over an empty object. -/
theorem sort_none {P : Program} {ρ : Ren} (L : SlLaysF0.n6 P ρ) (hord : Ordinary P (ρ.f 6)) {g : FuncId} {σ : St} {key sz : Nat} : CallT P (ρ.f 6) [.osl key sz 0, .fn g []] σ (.tup []) σ := by
  refine ⟨hord, fun M0 w ι vals hS hl hv => ?_⟩
  have h0 := hv 0 (by simp)
  have h1 := hv 1 (by simp)
  simp only [List.getD_cons_zero, List.getD_cons_succ] at h0 h1
  obtain ⟨cap, cur0, e0, e1, kk, a1, a2, a3, a4⟩ := h0.osl_inv
  obtain ⟨cb, f1, f2, f3⟩ := h1.fn_inv
  have hvals : vals = #[.slice (some ⟨ι key, 0, none⟩) 0 cap, .func (.func g) #[] cb] := by
    obtain ⟨l⟩ := vals
    match l, hl with
    | [x, y], _ =>
      simp at e1 f1
      rw [e1, f1]
  subst hvals
  refine (AnyF.slices_SortFunc_none L _ cap _ w).mono fun e' w' hh => ?_
  obtain ⟨rfl, rfl⟩ := hh
  exact ⟨.tuple #[], ι, rfl, Kept.refl _ _, hS, Nat.le_refl _, fun _ _ => rfl, fun k o hk => .inr ⟨k, o, hk, rfl⟩, .tup rfl (fun j hj => by simp at hj)⟩

theorem sub43_runs {a b : Int} (ha : 0 ≤ a ∧ a ≤ 1000) (hb : 0 ≤ b ∧ b ≤ 1000) : Runs Try.prog 43 [.int .i64 a, .int .i64 b] (.int .i64 (b - a)) := by
  refine CallT.go_fn mixed Try.func43 k43 (by simp) fun hf => ?_
  simp only [Int.reduceToNat, Int.reduceLT, Int.reduceLE, Int.reduceBEq, Int.reduceBNe, St0, argFr, ↓callZ, ↓midZ, ↓unZ, ↓thenW, ↓blockW, ↓opX, ↓opV, ↓pX, ↓pW, ↓putK, ↓putP, ↓atK, ↓normK, ↓postZ, ↓reduceIte, reduceIte, Nat.reduceEqDiff, Nat.reduceAdd, Nat.reduceBEq, Nat.reduceLT, Nat.reduceLeDiff, binW, bodyQ, ressW, resW, ne_eq, forall_const, reduceCtorEq, implies_true, sets, oneAll, setD, rels, fillE, fillD, List.replicate, rowsOf, forall_eq, Nat.reduceMul, ↓zD, zT]
  exact .drop (by simp) (by simp only [vw, D.int.injEq, true_and, wrap_i64 (show -9223372036854775808 ≤ b - a ∧ b - a ≤ 9223372036854775807 by omega)])
def intD : D → Int
  | .int _ n => n
  | _ => 0
def smallD (d : D) : Prop := ∃ n : Int, d = .int .i64 n ∧ 0 ≤ n ∧ n ≤ 1000
theorem rows_dec (l : List Int) : (rows .i64 l).map (fun e => intD (hd e)) = l := by
  unfold rows
  rw [List.map_map]
  conv => rhs; rw [← List.map_id l]
  exact List.map_congr_left fun x _ => rfl
theorem rows_back {l : List Int} {els : List (List D)} (h : els.Perm (rows .i64 l)) : ∃ m : List Int, els = rows .i64 m ∧ m.Perm l := by
  refine ⟨els.map fun e => intD (hd e), ?_, ?_⟩
  · unfold rows
    rw [List.map_map]
    conv => lhs; rw [← List.map_id els]
    refine List.map_congr_left fun e he => ?_
    have := h.mem_iff.1 he
    simp only [rows, List.mem_map] at this
    obtain ⟨n, _, rfl⟩ := this
    rfl
  · have := h.map fun e => intD (hd e)
    rw [rows_dec] at this
    exact this
theorem hd_rows {l : List Int} {i : Nat} (h : i < l.length) : intD (hd ((rows .i64 l).getD i [])) = l.getD i 0 := by rw [rows_get _ _ h]; rfl
theorem setL_same {k : Nat} {o : Ob} : ∀ {r : List (Nat × Ob)}, St.look r k = some o → setL r k o = r
  | [], h => by cases h
  | (j, o') :: r, h => by
    rw [look_cons] at h
    rw [setL_cons]
    by_cases e : j = k
    · rw [if_pos e] at h ⊢
      injection h with h; rw [h]
    · rw [if_neg e] at h ⊢
      rw [setL_same h]
theorem set_same {σ : St} {k : Nat} {o : Ob} (h : σ.get k = some o) : σ.set k o = σ := by
  obtain ⟨n, r⟩ := σ
  show St.mk n (setL r k o) = _
  rw [setL_same h]
/-- Sorting a list of small numbers in descending order. -/
theorem sortA_runs {σ : St} {key : Nat} {l : List Int} (hget : σ.get key = some ⟨1, rows .i64 l⟩) (hl : ∀ x ∈ l, 0 ≤ x ∧ x ≤ 1000) (hlen : l.length ≤ 1000) :
    CallT Try.prog 42 [.osl key 1 l.length, .fn 43 []] σ (.tup []) (σ.set key ⟨1, rows .i64 (descS l)⟩) := by
  have ho : Ordinary Try.prog 42 := ⟨_, Try.func42, by kernel_rfl, by kernel_rfl⟩
  have ho2 : Ordinary Try.prog 43 := ⟨_, Try.func43, by kernel_rfl, by kernel_rfl⟩
  by_cases hne : l = []
  · subst hne
    have h := sort_none (ρ := renSortA) (σ := σ) (key := key) (sz := 1) (g := 43) { laysSortA with } ho
    have e : σ.set key ⟨1, rows .i64 (descS [])⟩ = σ := by
      have : rows .i64 (descS []) = rows .i64 [] := by rw [show descS [] = [] from List.eq_nil_of_length_eq_zero (by rw [descS_len]; rfl)]
      rw [this]
      exact set_same hget
    rw [e]
    exact h
  have h := sort_own (P := Try.prog) (ρ := renSortA) laysSortA ho (g := 43) (C := smallD) (cf := fun x y => intD y - intD x) ho2
    (by rintro x y ⟨a, rfl, ha⟩ ⟨b, rfl, hb⟩; exact sub43_runs ha hb) (by intro x _; omega) (by intro x y z _ _ _ h1 h2; omega) (by intro x y z _ _ _ h1 h2; omega)
    hget (target := rows .i64 (descS l)) (by
      intro e he
      simp only [rows, List.mem_map] at he
      obtain ⟨n, hn, rfl⟩ := he
      exact ⟨_, rfl, rfl, n, rfl, hl n hn⟩) (by rw [rows_len]; omega) (by intro c; apply hne; simpa [rows] using c) (by
      intro els' hp hs
      obtain ⟨m, rfl, hm⟩ := rows_back hp
      rw [descS_eq hm (falling_of fun a b hab hb => ?_)]
      have := hs a b hab (by rw [rows_len]; exact hb)
      change ¬ intD _ - intD _ < 0 at this
      rw [hd_rows hb, hd_rows (show a < m.length by omega)] at this
      omega)
  rw [rows_len] at h
  exact h
end Go.Pd
