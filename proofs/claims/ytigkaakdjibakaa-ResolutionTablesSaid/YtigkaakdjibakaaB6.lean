/- Resolution: contracts: clauses in order. -/
import Derived.Test.YtigkaakdjibakaaB5
import Derived.Test.YtigkaakdjibakaaX7
set_option linter.unusedSectionVars false
set_option linter.unusedVariables false
set_option linter.unusedSimpArgs false
set_option linter.defProp false
set_option maxRecDepth 100000
namespace Go.Pd
open Go Go.Proofs Go.Shelf Go.Sort
open Rs
def renSortA : Go.Shelf.Ren where
  f := fun x => match x with | 6 => 62 | 15 => 84 | 14 => 83 | 28 => 100 | 29 => 101 | 20 => 92 | 21 => 93 | 22 => 94 | 23 => 95 | 24 => 96 | 25 => 97 | 26 => 98 | 27 => 99 | 46 => 103 | 47 => 104 | 48 => 105 | 49 => 106 | 50 => 107 | 57 => 108 | n => n
  t := fun x => match x with | 22 => 23 | 24 => 3 | 25 => 76 | 39 => 41 | 53 => 114 | 55 => 53 | 46 => 108 | 45 => 107 | 50 => 58 | 66 => 117 | 70 => 121 | 76 => 123 | 77 => 45 | n => n
  g := fun x => x

theorem laysSortA : SlLaysF.n6 Try.prog renSortA where
  mixed := by kernel_rfl
  f6 := ⟨ "slices.SortFunc[[]int,int]", by decide, Try.func62.trans (congrArg some (by kernel_rfl))⟩
  f14 := ⟨ "slices.pdqsortCmpFunc[int]", by decide, Try.func83.trans (congrArg some (by kernel_rfl))⟩
  f15 := Try.func84.trans (congrArg some (by kernel_rfl))
  f20 := ⟨ "slices.insertionSortCmpFunc[int]", by decide, Try.func92.trans (congrArg some (by kernel_rfl))⟩
  f21 := ⟨ "slices.heapSortCmpFunc[int]", by decide, Try.func93.trans (congrArg some (by kernel_rfl))⟩
  f22 := ⟨ "slices.breakPatternsCmpFunc[int]", by decide, Try.func94.trans (congrArg some (by kernel_rfl))⟩
  f23 := ⟨ "slices.choosePivotCmpFunc[int]", by decide, Try.func95.trans (congrArg some (by kernel_rfl))⟩
  f24 := ⟨ "slices.reverseRangeCmpFunc[int]", by decide, Try.func96.trans (congrArg some (by kernel_rfl))⟩
  f25 := ⟨ "slices.partialInsertionSortCmpFunc[int]", by decide, Try.func97.trans (congrArg some (by kernel_rfl))⟩
  f26 := ⟨ "slices.partitionEqualCmpFunc[int]", by decide, Try.func98.trans (congrArg some (by kernel_rfl))⟩
  f27 := ⟨ "slices.partitionCmpFunc[int]", by decide, Try.func99.trans (congrArg some (by kernel_rfl))⟩
  f28 := Try.func100.trans (congrArg some (by kernel_rfl))
  f29 := Try.func101.trans (congrArg some (by kernel_rfl))
  f46 := ⟨ "slices.siftDownCmpFunc[int]", by decide, Try.func103.trans (congrArg some (by kernel_rfl))⟩
  f47 := Try.func104.trans (congrArg some (by kernel_rfl))
  f48 := Try.func105.trans (congrArg some (by kernel_rfl))
  f49 := ⟨ "slices.medianAdjacentCmpFunc[int]", by decide, Try.func106.trans (congrArg some (by kernel_rfl))⟩
  f50 := ⟨ "slices.medianCmpFunc[int]", by decide, Try.func107.trans (congrArg some (by kernel_rfl))⟩
  f57 := ⟨ "slices.order2CmpFunc[int]", by decide, Try.func108.trans (congrArg some (by kernel_rfl))⟩
  t0 := Try.underlying0
  a0 := Try.isAgg0
  z0 := Try.sizeOf0
  v0 := Try.zeroValue0
  t3 := Try.underlying3
  a3 := Try.isAgg3
  z3 := Try.sizeOf3
  v3 := Try.zeroValue3
  t4 := Try.underlying4
  a4 := Try.isAgg4
  z4 := Try.sizeOf4
  v4 := Try.zeroValue4
  t5 := Try.underlying5
  a5 := Try.isAgg5
  z5 := Try.sizeOf5
  v5 := Try.zeroValue5
  t9 := Try.underlying9
  a9 := Try.isAgg9
  z9 := Try.sizeOf9
  v9 := Try.zeroValue9
  t22 := Try.underlying23
  a22 := Try.isAgg23
  z22 := Try.sizeOf23
  v22 := Try.zeroValue23
  a24 := Try.isAgg3
  z24 := Try.sizeOf3
  t25 := Try.underlying76
  a25 := Try.isAgg76
  z25 := Try.sizeOf76
  v25 := Try.zeroValue76
  t39 := Try.underlying41
  a39 := Try.isAgg41
  z39 := Try.sizeOf41
  v39 := Try.zeroValue41
  t45 := Try.underlying107
  a45 := Try.isAgg107
  z45 := Try.sizeOf107
  v45 := Try.zeroValue107
  t46 := Try.underlying108
  a46 := Try.isAgg108
  z46 := Try.sizeOf108
  v46 := Try.zeroValue108
  t50 := Try.underlying58
  a50 := Try.isAgg58
  z50 := Try.sizeOf58
  v50 := Try.zeroValue58
  t53 := Try.underlying114
  a53 := Try.isAgg114
  z53 := Try.sizeOf114
  v53 := Try.zeroValue114
  t55 := Try.underlying53
  a55 := Try.isAgg53
  z55 := Try.sizeOf53
  v55 := Try.zeroValue53
  t66 := Try.underlying117
  a66 := Try.isAgg117
  z66 := Try.sizeOf117
  v66 := Try.zeroValue117
  t70 := Try.underlying121
  a70 := Try.isAgg121
  z70 := Try.sizeOf121
  v70 := Try.zeroValue121
  t76 := Try.underlying123
  a76 := Try.isAgg123
  z76 := Try.sizeOf123
  v76 := Try.zeroValue123
  t77 := Try.underlying45
  a77 := Try.isAgg45
  z77 := Try.sizeOf45
  v77 := Try.zeroValue45

theorem sort_none {P : Program} {ρ : Ren} (L : SlLaysF0.n6 P ρ) (hord : Ordinary P (ρ.f 6)) {g : FuncId} {σ : St} {key sz : Nat} : CallT P (ρ.f 6) [.osl key sz 0, .fn g []] σ (.tup []) σ := by
  refine ⟨hord, fun M0 w ι vals hS hl hv => ?_⟩
  have h0 := hv 0 (by simp)
  have h1 := hv 1 (by simp)
  simp only [List.getD_cons_zero, List.getD_cons_succ] at h0 h1
  obtain ⟨cap, cur0, e0, e1, kk, a1, a2, a3, a4⟩ := h0.osl_inv
  obtain ⟨cb, f1, f2, f3⟩ := h1.fn_inv
  have hvals : vals = #[.slice (some ⟨ι key, 0, none⟩) 0 cap, .func (.func g) #[] cb] := by
    obtain ⟨l⟩ := vals
    match l, hl with
    | [x, y], _ =>
      simp at e1 f1
      rw [e1, f1]
  subst hvals
  refine (AnyF.slices_SortFunc_none L _ cap _ w).mono fun e' w' hh => ?_
  obtain ⟨rfl, rfl⟩ := hh
  exact ⟨.tuple #[], ι, rfl, Kept.refl _ _, hS, Nat.le_refl _, fun _ _ => rfl, fun k o hk => .inr ⟨k, o, hk, rfl⟩, .tup rfl (fun j hj => by simp at hj)⟩

theorem sort_noneP {P : Program} {ρ : Ren} (L : SlLaysF0.n6 P ρ) (hord : Ordinary P (ρ.f 6)) {g : FuncId} {σ : St} {sz : Nat} : CallT P (ρ.f 6) [.sl sz [], .fn g []] σ (.tup []) σ := by
  refine ⟨hord, fun M0 w ι vals hS hl hv => ?_⟩
  have h0 := hv 0 (by simp)
  have h1 := hv 1 (by simp)
  simp only [List.getD_cons_zero, List.getD_cons_succ] at h0 h1
  obtain ⟨ad, cap, e1⟩ : ∃ ad cap, vals.getD 0 undef = .slice ad 0 cap := by
    rcases h0.sl_inv with ⟨ad, cap, e1, _⟩ | ⟨b, off, cap, vs, e1, _⟩
    · exact ⟨ad, cap, e1⟩
    · exact ⟨_, cap, e1⟩
  obtain ⟨cb, f1, f2, f3⟩ := h1.fn_inv
  have hvals : vals = #[.slice ad 0 cap, .func (.func g) #[] cb] := by
    obtain ⟨l⟩ := vals
    match l, hl with
    | [x, y], _ =>
      simp at e1 f1
      rw [e1, f1]
  subst hvals
  refine (AnyF.slices_SortFunc_none L ad cap _ w).mono fun e' w' hh => ?_
  obtain ⟨rfl, rfl⟩ := hh
  exact ⟨.tuple #[], ι, rfl, Kept.refl _ _, hS, Nat.le_refl _, fun _ _ => rfl, fun k o hk => .inr ⟨k, o, hk, rfl⟩, .tup rfl (fun j hj => by simp at hj)⟩

def intD : D → Int
  | .int _ n => n
  | _ => 0
theorem rows_dec (l : List Int) : (rows .i64 l).map (fun e => intD (hd e)) = l := by
  unfold rows
  rw [List.map_map]
  conv => rhs; rw [← List.map_id l]
  exact List.map_congr_left fun x _ => rfl
theorem rows_back {l : List Int} {els : List (List D)} (h : els.Perm (rows .i64 l)) : ∃ m : List Int, els = rows .i64 m ∧ m.Perm l := by
  refine ⟨els.map fun e => intD (hd e), ?_, ?_⟩
  · unfold rows
    rw [List.map_map]
    conv => lhs; rw [← List.map_id els]
    refine List.map_congr_left fun e he => ?_
    have := h.mem_iff.1 he
    simp only [rows, List.mem_map] at this
    obtain ⟨n, _, rfl⟩ := this
    rfl
  · have := h.map fun e => intD (hd e)
    rw [rows_dec] at this
    exact this
theorem hd_rows {l : List Int} {i : Nat} (h : i < l.length) : intD (hd ((rows .i64 l).getD i [])) = l.getD i 0 := by rw [rows_get _ _ h]; rfl
theorem setL_same {k : Nat} {o : Ob} : ∀ {r : List (Nat × Ob)}, St.look r k = some o → setL r k o = r
  | [], h => by cases h
  | (j, o') :: r, h => by
    rw [look_cons] at h
    rw [setL_cons]
    by_cases e : j = k
    · rw [if_pos e] at h ⊢
      injection h with h; rw [h]
    · rw [if_neg e] at h ⊢
      rw [setL_same h]
theorem set_same {σ : St} {k : Nat} {o : Ob} (h : σ.get k = some o) : σ.set k o = σ := by
  obtain ⟨n, r⟩ := σ
  show St.mk n (setL r k o) = _
  rw [setL_same h]
theorem look_set1 {k : Nat} {o o' : Ob} : ∀ {r : List (Nat × Ob)}, St.look r k = some o → St.look (setL r k o') k = some o'
  | [], h => by cases h
  | (j, ob) :: r, h => by
    rw [look_cons] at h
    rw [setL_cons]
    by_cases e : j = k
    · rw [if_pos e, look_cons, if_pos e]
    · rw [if_neg e] at h
      rw [if_neg e, look_cons, if_neg e, look_set1 h]
theorem setL_setL (k : Nat) (a b : Ob) : ∀ r : List (Nat × Ob), setL (setL r k a) k b = setL r k b
  | [] => rfl
  | (j, ob) :: r => by
    rw [setL_cons, setL_cons]
    by_cases e : j = k
    · rw [if_pos e, if_pos e, setL_cons, if_pos e]
    · rw [if_neg e, if_neg e, setL_cons, if_neg e, setL_setL k a b r]

theorem cmp63 {x y : Int} (hx : litOk 12 x = true) (hy : litOk 12 y = true) : Runs Try.prog 63 [.int .i64 x, .int .i64 y] (.int .i64 (cfI x y)) := by
  refine CallT.go_fn mixed Try.func63 k63 (by simp) fun hf => ?_
  have hbx := litOk_iff.1 hx
  have hby := litOk_iff.1 hy
  have hvx := varI_range hx
  have hvy := varI_range hy
  simp only [Int.reduceToNat, Int.reduceLT, Int.reduceLE, Int.reduceBEq, Int.reduceBNe, St0, argFr, ↓thenW, ↓blockW, ↓opX, ↓opV, ↓pX, ↓pW, ↓putK, ↓putP, ↓atK, ↓normK, ↓postZ, ↓reduceIte, reduceIte, Nat.reduceEqDiff, Nat.reduceAdd, Nat.reduceBEq, Nat.reduceLT, Nat.reduceLeDiff, binW, bodyQ, ressW, resW, ne_eq, forall_const, reduceCtorEq, implies_true, sets, oneAll, setD, rels, fillE, fillD, List.replicate, rowsOf, forall_eq, Nat.reduceMul, ↓zD, zT]
  refine .go (CallT.of_runs (var36 x (by omega)) rfl) ?_
  rw [hx, if_pos rfl]
  simp only [Int.reduceToNat, Int.reduceLT, Int.reduceLE, Int.reduceBEq, Int.reduceBNe, St0, argFr, ↓thenW, ↓blockW, ↓opX, ↓opV, ↓pX, ↓pW, ↓putK, ↓putP, ↓atK, ↓normK, ↓postZ, ↓reduceIte, reduceIte, Nat.reduceEqDiff, Nat.reduceAdd, Nat.reduceBEq, Nat.reduceLT, Nat.reduceLeDiff, binW, bodyQ, ressW, resW, ne_eq, forall_const, reduceCtorEq, implies_true, sets, oneAll, setD, rels, fillE, fillD, List.replicate, rowsOf, forall_eq, Nat.reduceMul, ↓zD, zT]
  refine .go (CallT.of_runs (var36 y (by omega)) rfl) ?_
  rw [hy, if_pos rfl]
  by_cases h : varI x = varI y
  · have h1 : (varI x != varI y) = false := by simpa using h
    simp only [Int.reduceToNat, Int.reduceLT, Int.reduceLE, Int.reduceBEq, Int.reduceBNe, St0, argFr, ↓thenW, ↓blockW, ↓opX, ↓opV, ↓pX, ↓pW, ↓putK, ↓putP, ↓atK, ↓normK, ↓postZ, ↓reduceIte, reduceIte, Nat.reduceEqDiff, Nat.reduceAdd, Nat.reduceBEq, Nat.reduceLT, Nat.reduceLeDiff, binW, bodyQ, ressW, resW, ne_eq, forall_const, reduceCtorEq, implies_true, sets, oneAll, setD, rels, fillE, fillD, List.replicate, rowsOf, forall_eq, Nat.reduceMul, ↓zD, zT, h1, show IntKind.i64.wrap (x - y) = x - y from wrap_i64 (by omega)]
    exact .drop (by simp) (by simp [vw, cfI, h])
  · have h1 : (varI x != varI y) = true := by simpa using h
    simp only [Int.reduceToNat, Int.reduceLT, Int.reduceLE, Int.reduceBEq, Int.reduceBNe, St0, argFr, ↓thenW, ↓blockW, ↓opX, ↓opV, ↓pX, ↓pW, ↓putK, ↓putP, ↓atK, ↓normK, ↓postZ, ↓reduceIte, reduceIte, Nat.reduceEqDiff, Nat.reduceAdd, Nat.reduceBEq, Nat.reduceLT, Nat.reduceLeDiff, binW, bodyQ, ressW, resW, ne_eq, forall_const, reduceCtorEq, implies_true, sets, oneAll, setD, rels, fillE, fillD, List.replicate, rowsOf, forall_eq, Nat.reduceMul, ↓zD, zT, h1, show IntKind.i64.wrap (varI x - varI y) = varI x - varI y from wrap_i64 (by omega)]
    exact .drop (by simp) (by simp [vw, cfI, h])
def litD (d : D) : Prop := ∃ n : Int, d = .int .i64 n ∧ litOk 12 n = true
theorem sort62 {σ : St} {key : Nat} {l : List Int} (hget : σ.get key = some ⟨1, rows .i64 l⟩) (hl : ∀ x ∈ l, litOk 12 x = true) (hlen : l.length ≤ 1000) (hne : l ≠ []) :
    CallT Try.prog 62 [.osl key 1 l.length, .fn 63 []] σ (.tup []) (σ.set key ⟨1, rows .i64 (sortI l)⟩) := by
  have ho : Ordinary Try.prog 62 := ⟨_, Try.func62, by kernel_rfl, by kernel_rfl⟩
  have ho2 : Ordinary Try.prog 63 := ⟨_, Try.func63, by kernel_rfl, by kernel_rfl⟩
  have nz : ∀ {x : Int}, litOk 12 x = true → x ≠ 0 := fun h => (litOk_iff.1 h).1
  have h := sort_own (P := Try.prog) (ρ := renSortA) laysSortA ho (g := 63) (C := litD) (cf := fun x y => cfI (intD x) (intD y)) ho2
    (by rintro x y ⟨a, rfl, ha⟩ ⟨b, rfl, hb⟩; exact cmp63 ha hb)
    (by rintro x ⟨a, rfl, ha⟩; simp only [intD]; rw [cfI_key (nz ha) (nz ha)]; omega)
    (by rintro x y z ⟨a, rfl, ha⟩ ⟨b, rfl, hb⟩ ⟨c, rfl, hc⟩ h1 h2; simp only [intD] at *; rw [cfI_key (nz ha) (nz hb)] at h1; rw [cfI_key (nz hb) (nz hc)] at h2; rw [cfI_key (nz ha) (nz hc)]; omega)
    (by rintro x y z ⟨a, rfl, ha⟩ ⟨b, rfl, hb⟩ ⟨c, rfl, hc⟩ h1 h2; simp only [intD] at *; rw [cfI_key (nz ha) (nz hb)] at h1; rw [cfI_key (nz hb) (nz hc)] at h2; rw [cfI_key (nz ha) (nz hc)]; omega)
    hget (target := rows .i64 (sortI l)) (by
      intro e he
      simp only [rows, List.mem_map] at he
      obtain ⟨n, hn, rfl⟩ := he
      exact ⟨_, rfl, rfl, n, rfl, hl n hn⟩) (by rw [rows_len]; omega) (by intro c; apply hne; simpa [rows] using c) (by
      intro els' hp hs
      obtain ⟨m, rfl, hm⟩ := rows_back hp
      have hz : ∀ x ∈ l, x ≠ 0 := fun x hx => nz (hl x hx)
      rw [sortI_eq hz hm ?_]
      refine List.pairwise_iff_getElem.2 fun a b ha hb hab => ?_
      have := hs a b hab (by rw [rows_len]; exact hb)
      change ¬ cfI (intD _) (intD _) < 0 at this
      rw [hd_rows hb, hd_rows (show a < m.length by omega)] at this
      have ea : m.getD a 0 = m[a] := by simp [List.getD, ha]
      have eb : m.getD b 0 = m[b] := by simp [List.getD, hb]
      rw [ea, eb, cfI_key (hz _ (hm.mem_iff.1 (List.getElem_mem hb))) (hz _ (hm.mem_iff.1 (List.getElem_mem ha)))] at this
      omega)
  rw [rows_len] at h
  exact h
/-- What the object holds behind. -/
def ddZ (l : List Int) : List Int := dedupI l ++ List.replicate (l.length - (dedupI l).length) 0
theorem compact64 {σ : St} {key : Nat} {l : List Int} (hget : σ.get key = some ⟨1, rows .i64 l⟩) (hlen : l.length ≤ 1000) (hne : l ≠ []) :
    CallT Try.prog 64 [.osl key 1 l.length] σ (.osl key 1 (dedupI l).length) (σ.set key ⟨1, rows .i64 (ddZ l)⟩) := by
  obtain ⟨nx, objs⟩ := σ
  have hpos : 0 < l.length := List.length_pos_iff.2 hne
  have hg : St.look objs key = some ⟨1, rows .i64 l⟩ := hget
  have whole : dedupI l = l → (.osl key 1 (dedupI l).length = D.osl key 1 l.length ∧ (⟨nx, setL objs key ⟨1, rows .i64 (ddZ l)⟩⟩ : St) = ⟨nx, objs⟩) := by
    intro e
    refine ⟨by rw [e], ?_⟩
    have : rows .i64 (ddZ l) = rows .i64 l := by unfold ddZ; rw [e]; simp
    rw [this, setL_same hg]
  refine CallT.go_fn mixed Try.func64 k64 (by simp) fun hf => ?_
  by_cases h2 : l.length < 2
  · have hd : (l.length : Int) < 2 := by omega
    simp only [Int.reduceToNat, Int.reduceLT, Int.reduceLE, Int.reduceBEq, Int.reduceBNe, St0, argFr, ↓thenW, ↓blockW, ↓opX, ↓opV, ↓pX, ↓pW, ↓putK, ↓putP, ↓atK, ↓normK, ↓postZ, ↓reduceIte, reduceIte, Nat.reduceEqDiff, Nat.reduceAdd, Nat.reduceBEq, Nat.reduceLT, Nat.reduceLeDiff, binW, bodyQ, ressW, resW, ne_eq, forall_const, reduceCtorEq, implies_true, sets, oneAll, setD, rels, fillE, fillD, List.replicate, rowsOf, forall_eq, Nat.reduceMul, ↓zD, zT, hd]
    have e : dedupI l = l := by
      unfold dedupI
      rw [ddI_same (Nat.le_refl _) (fun i h1 h3 => by omega), List.take_length]
    obtain ⟨e1, e2⟩ := whole e
    exact .inl ⟨e1, e2⟩
  have hd : ¬ (l.length : Int) < 2 := by omega
  simp only [Int.reduceToNat, Int.reduceLT, Int.reduceLE, Int.reduceBEq, Int.reduceBNe, St0, argFr, ↓thenW, ↓blockW, ↓opX, ↓opV, ↓pX, ↓pW, ↓putK, ↓putP, ↓atK, ↓normK, ↓postZ, ↓reduceIte, reduceIte, Nat.reduceEqDiff, Nat.reduceAdd, Nat.reduceBEq, Nat.reduceLT, Nat.reduceLeDiff, binW, bodyQ, ressW, resW, ne_eq, forall_const, reduceCtorEq, implies_true, sets, oneAll, setD, rels, fillE, fillD, List.replicate, rowsOf, forall_eq, Nat.reduceMul, ↓zD, zT, hd]
  refine wpS_loop (fun k : Nat => [(3, .int .i64 k), (0, .osl key 1 l.length)]) (fun _ => ⟨nx, objs⟩) (fun k => 1 ≤ k ∧ k ≤ l.length ∧ ∀ i, 0 < i → i < k → l.getD i 0 ≠ l.getD (i - 1) 0) (fun k => l.length - k) 1 ⟨Nat.le_refl _, by omega, fun i h1 h2 => by omega⟩ ?_ ?_
  · (refine Weak.same ?_; simp [sameF, Fr.get])
  intro i0 ⟨hi1, hi2, hi3⟩
  refine wpS_go mixed ?_
  by_cases h : i0 < l.length
  case neg =>
    have hd : ¬ ((i0 : Int) < (l.length : Int)) := by omega
    have e : dedupI l = l := by
      unfold dedupI
      rw [ddI_same (Nat.le_refl _) (fun i h1 h3 => hi3 i h1 (by omega)), List.take_length]
    obtain ⟨e1, e2⟩ := whole e
    simp only [Int.reduceToNat, Int.reduceLT, Int.reduceLE, Int.reduceBEq, Int.reduceBNe, St0, argFr, ↓thenW, ↓blockW, ↓opX, ↓opV, ↓pX, ↓pW, ↓putK, ↓putP, ↓atK, ↓normK, ↓postZ, ↓reduceIte, reduceIte, Nat.reduceEqDiff, Nat.reduceAdd, Nat.reduceBEq, Nat.reduceLT, Nat.reduceLeDiff, binW, bodyQ, ressW, resW, ne_eq, forall_const, reduceCtorEq, implies_true, sets, oneAll, setD, rels, fillE, fillD, List.replicate, rowsOf, forall_eq, Nat.reduceMul, ↓zD, zT, hd]
    exact .inl ⟨e1, e2⟩
  have hd : ((i0 : Int) < (l.length : Int)) := by omega
  have em : IntKind.i64.wrap ((i0 : Int) - 1) = ((i0 - 1 : Nat) : Int) := by rw [wrap_i64 (by omega)]; omega
  by_cases hq : l.getD i0 0 = l.getD (i0 - 1) 0
  case neg =>
    have hq1 : (l.getD i0 0 == l.getD (i0 - 1) 0) = false := by simpa using hq
    simp only [Int.reduceToNat, Int.reduceLT, Int.reduceLE, Int.reduceBEq, Int.reduceBNe, St0, argFr, ↓thenW, ↓blockW, ↓opX, ↓opV, ↓pX, ↓pW, ↓putK, ↓putP, ↓atK, ↓normK, ↓postZ, ↓reduceIte, reduceIte, Nat.reduceEqDiff, Nat.reduceAdd, Nat.reduceBEq, Nat.reduceLT, Nat.reduceLeDiff, binW, bodyQ, ressW, resW, ne_eq, forall_const, reduceCtorEq, implies_true, sets, oneAll, setD, rels, fillE, fillD, List.replicate, rowsOf, forall_eq, Nat.reduceMul, ↓zD, zT, hd, hg, rows_get .i64 l h, em, rows_len, rows_get .i64 l (show i0 - 1 < l.length by omega), hq1]
    (repeat (first | refine And.intro (by omega) ?_ | refine And.intro (ui_nonneg _) ?_ | refine And.intro (Int.natCast_nonneg _) ?_ | refine And.intro rfl ?_ | refine And.intro (rows_one' _ _) ?_ | refine And.intro (us_one _) ?_ | refine And.intro (by intro _ h; cases h; done) ?_))
    refine ⟨i0 + 1, ⟨by omega, by omega, fun i h1 h3 => ?_⟩, ?_, by omega⟩
    · by_cases e : i = i0
      · rw [e]; exact hq
      · exact hi3 i h1 (by omega)
    (refine Weak.same ?_; simp only [sameF, Fr.get, ↓reduceIte, reduceIte, Nat.reduceEqDiff, reduceCtorEq, D.int.injEq, D.bool.injEq, D.sl.injEq, and_true, true_and, and_self])
    exact wrap_i64 (by omega)
  have hq1 : (l.getD i0 0 == l.getD (i0 - 1) 0) = true := by simpa using hq
  simp only [Int.reduceToNat, Int.reduceLT, Int.reduceLE, Int.reduceBEq, Int.reduceBNe, St0, argFr, ↓thenW, ↓blockW, ↓opX, ↓opV, ↓pX, ↓pW, ↓putK, ↓putP, ↓atK, ↓normK, ↓postZ, ↓reduceIte, reduceIte, Nat.reduceEqDiff, Nat.reduceAdd, Nat.reduceBEq, Nat.reduceLT, Nat.reduceLeDiff, binW, bodyQ, ressW, resW, ne_eq, forall_const, reduceCtorEq, implies_true, sets, oneAll, setD, rels, fillE, fillD, List.replicate, rowsOf, forall_eq, Nat.reduceMul, ↓zD, zT, hd, hg, rows_get .i64 l h, em, rows_len, rows_get .i64 l (show i0 - 1 < l.length by omega), hq1]
  (repeat (first | refine And.intro (by omega) ?_ | refine And.intro (ui_nonneg _) ?_ | refine And.intro (Int.natCast_nonneg _) ?_ | refine And.intro rfl ?_ | refine And.intro (rows_one' _ _) ?_ | refine And.intro (us_one _) ?_ | refine And.intro (by intro _ h; cases h; done) ?_))
  have ei : ¬ (i0 : Int) = 0 := by omega
  have ei2 : ¬ (i0 : Int) = (l.length : Int) := by omega
  refine ⟨i0, l.length, rfl, rfl, by omega, by omega, by omega, ?_⟩
  simp only [Int.toNat_natCast, if_neg ei, if_neg ei2]
  have d1 : ddI l (i0 + 1) = l.take i0 := by rw [ddI, if_pos ⟨by omega, hq⟩, ddI_same (by omega) hi3]
  refine wpS_loop (fun a : Nat × List Int => [(5, .int .i64 a.1), (4, .sub key 1 i0 (l.length - i0)), (3, .int .i64 (ddI l (i0 + a.1)).length), (0, .osl key 1 l.length)]) (fun a => ⟨nx, setL objs key ⟨1, rows .i64 a.2⟩⟩)
    (fun a => 1 ≤ a.1 ∧ i0 + a.1 ≤ l.length ∧ a.2.length = l.length ∧ (ddI l (i0 + a.1)).length < i0 + a.1 ∧ a.2.take (ddI l (i0 + a.1)).length = ddI l (i0 + a.1) ∧ ∀ j, i0 + a.1 - 1 ≤ j → a.2.getD j 0 = l.getD j 0) (fun a => l.length - a.1) (1, l)
    ⟨Nat.le_refl _, by omega, rfl, by rw [d1, List.length_take]; omega, by rw [d1, List.length_take, Nat.min_eq_left (by omega)], fun j _ => rfl⟩ ?_ ?_
  · rw [setL_same hg]
    (refine Weak.same ?_; simp [sameF, Fr.get, d1])
    omega
  intro ⟨q, o⟩ ⟨q1, q2, q3, q4, q5, q6⟩
  simp only at q1 q2 q3 q4 q5 q6
  have hlk : ∀ ob : Ob, St.look (setL objs key ob) key = some ob := fun ob => look_set1 hg
  refine wpS_go mixed ?_
  by_cases hp : i0 + q < l.length
  · have hd3 : ((q : Int) < ((l.length - i0 : Nat) : Int)) := by omega
    have eq1 : IntKind.i64.wrap ((q : Int) - 1) = ((q - 1 : Nat) : Int) := by rw [wrap_i64 (by omega)]; omega
    have a1 : o.getD (i0 + q) 0 = l.getD (i0 + q) 0 := q6 _ (by omega)
    have a2 : o.getD (i0 + (q - 1)) 0 = l.getD (i0 + q - 1) 0 := by rw [q6 _ (by omega)]; congr 1; omega
    by_cases hq2 : l.getD (i0 + q) 0 = l.getD (i0 + q - 1) 0
    · have dd : ddI l (i0 + (q + 1)) = ddI l (i0 + q) := by
        show ddI l ((i0 + q) + 1) = _
        rw [ddI, if_pos ⟨by omega, hq2⟩]
      have hq3 : (l.getD (i0 + q) 0 != l.getD (i0 + q - 1) 0) = false := by simpa using hq2
      simp only [Int.reduceToNat, Int.reduceLT, Int.reduceLE, Int.reduceBEq, Int.reduceBNe, St0, argFr, ↓thenW, ↓blockW, ↓opX, ↓opV, ↓pX, ↓pW, ↓putK, ↓putP, ↓atK, ↓normK, ↓postZ, ↓reduceIte, reduceIte, Nat.reduceEqDiff, Nat.reduceAdd, Nat.reduceBEq, Nat.reduceLT, Nat.reduceLeDiff, binW, bodyQ, ressW, resW, ne_eq, forall_const, reduceCtorEq, implies_true, sets, oneAll, setD, rels, fillE, fillD, List.replicate, rowsOf, forall_eq, Nat.reduceMul, ↓zD, zT, hd3, hlk, eq1, rows_len, rows_get .i64 o (show i0 + q < o.length by omega), rows_get .i64 o (show i0 + (q - 1) < o.length by omega), a1, a2, hq3]
      (repeat (first | refine And.intro (by omega) ?_ | refine And.intro (ui_nonneg _) ?_ | refine And.intro (Int.natCast_nonneg _) ?_ | refine And.intro rfl ?_ | refine And.intro (rows_one' _ _) ?_ | refine And.intro (us_one _) ?_ | refine And.intro (by intro _ h; cases h; done) ?_))
      refine ⟨(q + 1, o), ⟨by show 1 ≤ q + 1; omega, by show i0 + (q + 1) ≤ l.length; omega, q3, by show (ddI l (i0 + (q + 1))).length < i0 + (q + 1); rw [dd]; omega, by show o.take (ddI l (i0 + (q + 1))).length = ddI l (i0 + (q + 1)); rw [dd, q5], fun j hj => q6 j (by change i0 + (q + 1) - 1 ≤ j at hj; omega)⟩, ?_, by show l.length - (q + 1) < l.length - q; omega⟩
      (refine Weak.same ?_; simp only [sameF, Fr.get, ↓reduceIte, reduceIte, Nat.reduceEqDiff, reduceCtorEq, D.int.injEq, D.bool.injEq, D.sl.injEq, and_true, true_and, and_self, dd])
      exact wrap_i64 (by omega)
    · have dd : ddI l (i0 + (q + 1)) = ddI l (i0 + q) ++ [l.getD (i0 + q) 0] := by
        show ddI l ((i0 + q) + 1) = _
        rw [ddI, if_neg (fun c => hq2 c.2)]
      have dl : (ddI l (i0 + (q + 1))).length = (ddI l (i0 + q)).length + 1 := by rw [dd, List.length_append]; rfl
      have hq3 : (l.getD (i0 + q) 0 != l.getD (i0 + q - 1) 0) = true := by simpa using hq2
      simp only [Int.reduceToNat, Int.reduceLT, Int.reduceLE, Int.reduceBEq, Int.reduceBNe, St0, argFr, ↓thenW, ↓blockW, ↓opX, ↓opV, ↓pX, ↓pW, ↓putK, ↓putP, ↓atK, ↓normK, ↓postZ, ↓reduceIte, reduceIte, Nat.reduceEqDiff, Nat.reduceAdd, Nat.reduceBEq, Nat.reduceLT, Nat.reduceLeDiff, binW, bodyQ, ressW, resW, ne_eq, forall_const, reduceCtorEq, implies_true, sets, oneAll, setD, rels, fillE, fillD, List.replicate, rowsOf, forall_eq, Nat.reduceMul, ↓zD, zT, hd3, hlk, eq1, rows_len, rows_get .i64 o (show i0 + q < o.length by omega), rows_get .i64 o (show i0 + (q - 1) < o.length by omega), a1, a2, hq3]
      (repeat (first | refine And.intro (by omega) ?_ | refine And.intro (ui_nonneg _) ?_ | refine And.intro (Int.natCast_nonneg _) ?_ | refine And.intro rfl ?_ | refine And.intro (rows_one' _ _) ?_ | refine And.intro (us_one _) ?_ | refine And.intro (by intro _ h; cases h; done) ?_))
      have c1 : (ddI l (i0 + q)).length < o.length := by omega
      have eset : (rows .i64 o).set (ddI l (i0 + q)).length (((rows .i64 o).getD (ddI l (i0 + q)).length []).set 0 (D.int .i64 (l.getD (i0 + q) 0))) = rows .i64 (o.set (ddI l (i0 + q)).length (l.getD (i0 + q) 0)) := by
        rw [rows_get .i64 o c1]
        exact rows_set _ _ _ _
      refine ⟨(q + 1, o.set (ddI l (i0 + q)).length (l.getD (i0 + q) 0)), ⟨by show 1 ≤ q + 1; omega, by show i0 + (q + 1) ≤ l.length; omega, by show (o.set _ _).length = _; rw [List.length_set]; exact q3, by show (ddI l (i0 + (q + 1))).length < i0 + (q + 1); omega, ?_, fun j hj => ?_⟩, ?_, by show l.length - (q + 1) < l.length - q; omega⟩
      · show (o.set (ddI l (i0 + q)).length (l.getD (i0 + q) 0)).take (ddI l (i0 + (q + 1))).length = _
        rw [dl, take_snoc (d := 0) (by rw [List.length_set]; exact c1), getD_set, if_pos ⟨rfl, c1⟩, dd, List.take_set_of_le (Nat.le_refl _), q5]
      · change i0 + (q + 1) - 1 ≤ j at hj
        show (o.set (ddI l (i0 + q)).length (l.getD (i0 + q) 0)).getD j 0 = _
        rw [getD_set, if_neg (by omega)]
        exact q6 j (by omega)
      · simp only [setL_setL, eset]
        (refine Weak.same ?_; simp only [sameF, Fr.get, ↓reduceIte, reduceIte, Nat.reduceEqDiff, reduceCtorEq, D.int.injEq, D.bool.injEq, D.sl.injEq, and_true, true_and, and_self, dl])
        exact ⟨wrap_i64 (by omega), wrap_i64 (by omega)⟩
  · have hd3 : ¬ ((q : Int) < ((l.length - i0 : Nat) : Int)) := by omega
    have ed : ddI l (i0 + q) = dedupI l := by unfold dedupI; rw [show i0 + q = l.length by omega]
    have c0 : 0 < (dedupI l).length := by
      have := ddI_pos l (l.length - 1)
      rw [show l.length - 1 + 1 = l.length by omega] at this
      exact this
    rw [ed] at q4 q5
    simp only [Int.reduceToNat, Int.reduceLT, Int.reduceLE, Int.reduceBEq, Int.reduceBNe, St0, argFr, ↓thenW, ↓blockW, ↓opX, ↓opV, ↓pX, ↓pW, ↓putK, ↓putP, ↓atK, ↓normK, ↓postZ, ↓reduceIte, reduceIte, Nat.reduceEqDiff, Nat.reduceAdd, Nat.reduceBEq, Nat.reduceLT, Nat.reduceLeDiff, binW, bodyQ, ressW, resW, ne_eq, forall_const, reduceCtorEq, implies_true, sets, oneAll, setD, rels, fillE, fillD, List.replicate, rowsOf, forall_eq, Nat.reduceMul, ↓zD, zT, hd3, ed]
    refine ⟨(dedupI l).length, l.length, rfl, rfl, by omega, by omega, by omega, ?_⟩
    rw [if_neg (show ¬ ((dedupI l).length : Int) = 0 by omega), if_neg (show ¬ ((dedupI l).length : Int) = (l.length : Int) by omega)]
    simp only [Int.toNat_natCast, hlk, rows_len, true_and]
    refine ⟨by omega, by omega, ?_⟩
    refine ⟨0, (dedupI l).length, rfl, rfl, by omega, by omega, by omega, ?_⟩
    rw [if_pos rfl]
    refine .inl ⟨by rw [Int.toNat_natCast], ?_⟩
    have e2 : (rows .i64 o).take (dedupI l).length = rows .i64 (dedupI l) := by rw [rows_take, q5]
    have e3 : (rows .i64 o).drop ((dedupI l).length + (l.length - (dedupI l).length)) = [] := List.drop_eq_nil_of_le (by rw [rows_len]; omega)
    have e4 : rows .i64 (ddZ l) = (rows .i64 o).take (dedupI l).length ++ (List.replicate (l.length - (dedupI l).length) [D.int .i64 0] ++ (rows .i64 o).drop ((dedupI l).length + (l.length - (dedupI l).length))) := by
      rw [e2, e3, List.append_nil, rows_replicate, ← rows_app]; rfl
    rw [e4]
    simp only [setL_setL]
end Go.Pd
