/- Runs: the model of points, plain; local states; the reference's points. -/
import Derived.Test.YthohheekakbpbaaS3
set_option linter.unusedSectionVars false
set_option linter.unusedVariables false
set_option linter.unusedSimpArgs false
set_option linter.defProp false
set_option maxRecDepth 20000
namespace Go.Pd
open Go Go.Proofs
namespace Ru
def locA (rs : List RunA) (a : Nat) (p : Nat × Nat) : Int := ((rs.getD p.1 run0).loc.getD p.2 []).getD a 0
def facA (rs : List RunA) (p : Nat × Nat) : BitVec 64 := (rs.getD p.1 run0).fac.getD p.2 0
/-- Where a fact is true, among the first points. -/
def valK (rs : List RunA) (l : List (Nat × Nat)) (f : Nat) : Nat → BitVec 64
  | 0 => 0#64
  | k + 1 => valK rs l f k ||| (if (facA rs (l.getD k (0, 0))).getLsbD f then 1#64 <<< k else 0#64)
/-- Where an agent has a local state, among the first points. -/
def relK (rs : List RunA) (l : List (Nat × Nat)) (a : Nat) (x : Int) : Nat → BitVec 64
  | 0 => 0#64
  | k + 1 => relK rs l a x k ||| (if locA rs a (l.getD k (0, 0)) = x then 1#64 <<< k else 0#64)
def valL (rs : List RunA) (l : List (Nat × Nat)) (F : Nat) : List (BitVec 64) := (List.range F).map fun f => valK rs l f l.length
def relR (rs : List RunA) (l : List (Nat × Nat)) (a : Nat) : List (BitVec 64) := l.map fun p => relK rs l a (locA rs a p) l.length
def relL (rs : List RunA) (l : List (Nat × Nat)) (A : Nat) : List (List (BitVec 64)) := (List.range A).map (relR rs l)
def modD (rs : List RunA) (l : List (Nat × Nat)) (A F : Nat) : D := .agg [.int .i64 (l.length : Int), .sl 1 (us (valL rs l F)), .sl 1 (rr (relL rs l A))]
/-- A system's runs without an error. -/
structure OkR (rs : List RunA) (A F T : Nat) : Prop where
  hA : A ≤ 4
  hF : F ≤ 8
  hT : 1 ≤ T ∧ T ≤ 16
  hR : 1 ≤ rs.length ∧ rs.length ≤ 64
  hP : rs.length * T ≤ 512
  loc : ∀ r ∈ rs, r.loc.length = T
  fac : ∀ r ∈ rs, r.fac.length = T
  row : ∀ r ∈ rs, ∀ l ∈ r.loc, l.length = A
  val : ∀ r ∈ rs, ∀ f ∈ r.fac, f >>> F = 0#64
theorem chk_sys {s : SysA} (h : chk s = 0) : ∃ (A F T : Nat) (rs : List RunA), s = ⟨A, F, T, rs⟩ ∧ OkR rs A F T := by
  obtain ⟨A, F, T, ok⟩ := chk_zero h
  obtain ⟨ag, fa, ln, rs⟩ := s
  obtain ⟨h1, h2, h3, h4, h5, h6, h7, h8, h9, h10, h11, h12⟩ := ok
  simp only at h1 h2 h3 h7 h8 h9 h10 h11 h12
  subst h1 h2 h3
  exact ⟨A, F, T, rs, rfl, ⟨h4, h5, h6, h7, h8, h9, h10, h11, h12⟩⟩
def Inb (rs : List RunA) (T : Nat) (l : List (Nat × Nat)) : Prop := ∀ p ∈ l, p.1 < rs.length ∧ p.2 < T
theorem ptN_in {rs : List RunA} {T n : Nat} (hT : 1 ≤ T) (hn : n ≤ rs.length * T) : Inb rs T (ptN T n) := fun p hp => by
  simp only [ptN, List.mem_map, List.mem_range] at hp
  obtain ⟨i, hi, rfl⟩ := hp
  refine ⟨(Nat.div_lt_iff_lt_mul (by omega)).2 (by omega), Nat.mod_lt _ (by omega)⟩
def sD (A F T : Nat) (rs : List RunA) : D := .agg [.int .i64 (A : Int), .int .i64 (F : Int), .int .i64 (T : Int), .sl 2 (runR rs)]
/-- Maps of words. -/
def mU (u : List (Int × BitVec 64)) : List (Int × D) := u.map fun p => (p.1, .int .u64 (ui p.2))
def ulk (x : Int) : List (Int × BitVec 64) → BitVec 64
  | [] => 0#64
  | (k, v) :: r => if x = k then v else ulk x r
def putU (x : Int) (v : BitVec 64) : List (Int × BitVec 64) → List (Int × BitVec 64)
  | [] => [(x, v)]
  | (k, w) :: r => if x = k then (x, v) :: r else (k, w) :: putU x v r
theorem ulk_put (x y : Int) (v : BitVec 64) : ∀ u, ulk y (putU x v u) = if y = x then v else ulk y u
  | [] => by simp [putU, ulk]
  | (k, w) :: r => by
    unfold putU
    by_cases h : x = k
    · rw [if_pos h]
      subst h
      by_cases e : y = x
      · simp [ulk, e]
      · simp [ulk, e]
    · rw [if_neg h, ulk, ulk_put x y v r]
      by_cases e : y = k
      · subst e
        rw [if_pos rfl, if_neg (fun e => h e.symm)]
        simp [ulk]
      · rw [if_neg e]
        simp [ulk, e]
theorem afind_shift (x : Int) : ∀ (l : List (Int × D)) (i : Nat), afind x l i = (afind x l 0).map fun p => (p.1 + i, p.2)
  | [], i => rfl
  | (k, d) :: r, i => by
    unfold afind
    by_cases h : x = k
    · rw [if_pos h, if_pos h]; simp
    · rw [if_neg h, if_neg h, afind_shift x r (i + 1), afind_shift x r (0 + 1)]
      cases afind x r 0 with
      | none => rfl
      | some p => simp; omega
theorem mres_mU (x : Int) : ∀ u, mres false (.int .u64 (ui 0#64)) (afind x (mU u) 0) = .int .u64 (ui (ulk x u))
  | [] => rfl
  | (k, v) :: r => by
    show mres false _ (afind x ((k, .int .u64 (ui v)) :: mU r) 0) = _
    unfold afind ulk
    by_cases h : x = k
    · rw [if_pos h, if_pos h]; rfl
    · rw [if_neg h, if_neg h, ← mres_mU x r, afind_shift]
      cases afind x (mU r) 0 with
      | none => rfl
      | some p => rfl
theorem aput_mU (x : Int) (v : BitVec 64) : ∀ u, aput (mU u) x (.int .u64 (ui v)) = mU (putU x v u)
  | [] => rfl
  | (k, w) :: r => by
    have ih := aput_mU x v r
    show aput ((k, .int .u64 (ui w)) :: mU r) x _ = _
    unfold aput at ih ⊢
    unfold afind putU
    by_cases h : x = k
    · rw [if_pos h, if_pos h]; rfl
    · rw [if_neg h, if_neg h, afind_shift]
      cases hf : afind x (mU r) 0 with
      | none => rw [hf] at ih; simp only [Option.map_none] at ih ⊢; rw [List.cons_append, ih]; rfl
      | some p => rw [hf] at ih; simp only [Option.map_some] at ih ⊢; rw [List.set_cons_succ, ih]; rfl
/-- The map after the first points. -/
def uK (rs : List RunA) (l : List (Nat × Nat)) (a : Nat) : Nat → List (Int × BitVec 64)
  | 0 => []
  | k + 1 => putU (locA rs a (l.getD k (0, 0))) (ulk (locA rs a (l.getD k (0, 0))) (uK rs l a k) ||| 1#64 <<< k) (uK rs l a k)
theorem ulk_uK (rs : List RunA) (l : List (Nat × Nat)) (a : Nat) (x : Int) : ∀ k, ulk x (uK rs l a k) = relK rs l a x k
  | 0 => rfl
  | k + 1 => by
    unfold uK relK
    rw [ulk_put, ulk_uK rs l a x k]
    by_cases e : x = locA rs a (l.getD k (0, 0))
    · rw [if_pos e, if_pos e.symm, ← e, ulk_uK rs l a x k]
    · rw [if_neg e, if_neg (fun h => e h.symm), BitVec.or_zero]
end Ru
open Ru
theorem local38 {rs : List RunA} {A F T : Nat} (ok : OkR rs A F T) {a : Nat} (ha : a < A) {p : Nat × Nat} (hp : p.1 < rs.length ∧ p.2 < T) : Runs Try.prog 38 [sD A F T rs, .int .i64 a, .agg [.int .i64 (p.1 : Int), .int .i64 (p.2 : Int)]] (.int .i64 (locA rs a p)) := by
  have hm := getD_mem (d := run0) hp.1
  have hg := runR_get rs hp.1
  have h1 := ok.loc _ hm
  have h2 := ok.row _ hm _ (getD_mem (d := []) (show p.2 < (rs.getD p.1 run0).loc.length by omega))
  unfold locA sD
  generalize rs.getD p.1 run0 = r at hg h1 h2
  have hg2 := rl_get r.loc (show p.2 < r.loc.length by omega)
  generalize r.loc.getD p.2 [] = x at hg2 h2
  have hg3 := rows_get .i64 x (show a < x.length by omega)
  refine CallT.go_fn mixed Try.func38 k38 (by simp) fun hf => ?_
  simp only [Int.reduceToNat, Int.reduceLT, Int.reduceLE, Int.reduceBEq, Int.reduceBNe, St0, argFr, ↓callZ, ↓midZ, ↓unZ, ↓thenW, ↓blockW, ↓opX, ↓opV, ↓pX, ↓pW, ↓putK, ↓putP, ↓atK, ↓normK, ↓postZ, ↓reduceIte, reduceIte, Nat.reduceEqDiff, Nat.reduceAdd, Nat.reduceBEq, Nat.reduceLT, Nat.reduceLeDiff, binW, bodyQ, ressW, resW, ne_eq, forall_const, reduceCtorEq, implies_true, sets, oneAll, setD, rels, fillE, fillD, List.replicate, rowsOf, forall_eq, Nat.reduceMul, ↓zD, zT, runR_len, hg, RunA.row, rl_len, hg2, rows_len, hg3]
  (repeat refine And.intro (by first | omega | exact ui_nonneg _ | exact Int.natCast_nonneg _ | rfl | exact rows_one' _ _ | exact us_one _ | (intro _ h; cases h; done)) ?_)
  exact .drop (by simp) (by simp [vw])
theorem Local50 {rs : List RunA} {A F T : Nat} (ok : OkR rs A F T) {a : Nat} (ha : a < A) {p : Nat × Nat} (hp : p.1 < rs.length ∧ p.2 < T) : Runs Try.prog 50 [sD A F T rs, .int .i64 a, .agg [.int .i64 (p.1 : Int), .int .i64 (p.2 : Int)]] (.int .i64 (locA rs a p)) := by
  have hm := getD_mem (d := run0) hp.1
  have hg := runR_get rs hp.1
  have h1 := ok.loc _ hm
  have h2 := ok.row _ hm _ (getD_mem (d := []) (show p.2 < (rs.getD p.1 run0).loc.length by omega))
  unfold locA sD
  generalize rs.getD p.1 run0 = r at hg h1 h2
  have hg2 := rl_get r.loc (show p.2 < r.loc.length by omega)
  generalize r.loc.getD p.2 [] = x at hg2 h2
  have hg3 := rows_get .i64 x (show a < x.length by omega)
  refine CallT.go_fn mixed Try.func50 k50 (by simp) fun hf => ?_
  simp only [Int.reduceToNat, Int.reduceLT, Int.reduceLE, Int.reduceBEq, Int.reduceBNe, St0, argFr, ↓callZ, ↓midZ, ↓unZ, ↓thenW, ↓blockW, ↓opX, ↓opV, ↓pX, ↓pW, ↓putK, ↓putP, ↓atK, ↓normK, ↓postZ, ↓reduceIte, reduceIte, Nat.reduceEqDiff, Nat.reduceAdd, Nat.reduceBEq, Nat.reduceLT, Nat.reduceLeDiff, binW, bodyQ, ressW, resW, ne_eq, forall_const, reduceCtorEq, implies_true, sets, oneAll, setD, rels, fillE, fillD, List.replicate, rowsOf, forall_eq, Nat.reduceMul, ↓zD, zT, runR_len, hg, RunA.row, rl_len, hg2, rows_len, hg3]
  (repeat refine And.intro (by first | omega | exact ui_nonneg _ | exact Int.natCast_nonneg _ | rfl | exact rows_one' _ _ | exact us_one _ | (intro _ h; cases h; done)) ?_)
  exact .drop (by simp) (by simp [vw])
theorem refPoints33 (s : SysA) : Runs Try.prog 33 [s.d] (.sl 2 (ptR (ptsA s))) := by
  have hD : s.d = .agg [.int .i64 s.ag, .int .i64 s.fa, .int .i64 s.ln, .sl 2 (runR s.rs)] := rfl
  have hC := refCheck23 s
  rw [hD] at hC ⊢
  refine CallT.go_fn mixed Try.func33 k33 (by simp) fun hf => ?_
  simp only [Int.reduceToNat, Int.reduceLT, Int.reduceLE, Int.reduceBEq, Int.reduceBNe, St0, argFr, ↓callZ, ↓midZ, ↓unZ, ↓thenW, ↓blockW, ↓opX, ↓opV, ↓pX, ↓pW, ↓putK, ↓putP, ↓atK, ↓normK, ↓postZ, ↓reduceIte, reduceIte, Nat.reduceEqDiff, Nat.reduceAdd, Nat.reduceBEq, Nat.reduceLT, Nat.reduceLeDiff, binW, bodyQ, ressW, resW, ne_eq, forall_const, reduceCtorEq, implies_true, sets, oneAll, setD, rels, fillE, fillD, List.replicate, rowsOf, forall_eq, Nat.reduceMul, ↓zD, zT]
  (repeat refine And.intro (by first | omega | exact ui_nonneg _ | exact Int.natCast_nonneg _ | rfl | exact rows_one' _ _ | exact us_one _ | (intro _ h; cases h; done)) ?_)
  refine .go (CallT.of_runs hC rfl) ?_
  by_cases hz : chk s = 0
  case neg =>
    have e : (chk s != 0) = true := by simpa using hz
    rw [show ptsA s = [] by unfold ptsA; rw [if_pos hz]]
    simp only [Int.reduceToNat, Int.reduceLT, Int.reduceLE, Int.reduceBEq, Int.reduceBNe, St0, argFr, ↓callZ, ↓midZ, ↓unZ, ↓thenW, ↓blockW, ↓opX, ↓opV, ↓pX, ↓pW, ↓putK, ↓putP, ↓atK, ↓normK, ↓postZ, ↓reduceIte, reduceIte, Nat.reduceEqDiff, Nat.reduceAdd, Nat.reduceBEq, Nat.reduceLT, Nat.reduceLeDiff, binW, bodyQ, ressW, resW, ne_eq, forall_const, reduceCtorEq, implies_true, sets, oneAll, setD, rels, fillE, fillD, List.replicate, rowsOf, forall_eq, Nat.reduceMul, ↓zD, zT, e]
    exact .drop (by simp) (by simp [vw, ptR])
  have e : (chk s != 0) = false := by simpa using hz
  obtain ⟨A, F, T, ok⟩ := chk_zero hz
  rw [ptsA_ok ok hz]
  obtain ⟨T1, T16⟩ := ok.hT
  obtain ⟨R1, R64⟩ := ok.hR
  simp only [Int.reduceToNat, Int.reduceLT, Int.reduceLE, Int.reduceBEq, Int.reduceBNe, St0, argFr, ↓callZ, ↓midZ, ↓unZ, ↓thenW, ↓blockW, ↓opX, ↓opV, ↓pX, ↓pW, ↓putK, ↓putP, ↓atK, ↓normK, ↓postZ, ↓reduceIte, reduceIte, Nat.reduceEqDiff, Nat.reduceAdd, Nat.reduceBEq, Nat.reduceLT, Nat.reduceLeDiff, binW, bodyQ, ressW, resW, ne_eq, forall_const, reduceCtorEq, implies_true, sets, oneAll, setD, rels, fillE, fillD, List.replicate, rowsOf, forall_eq, Nat.reduceMul, ↓zD, zT, e, ok.ln, ok.ag, ok.fa, runR_len]
  refine wpS_loop (fun r : Nat => [(4, .int .i64 r), (3, growD 1 2 (ptR (ptN T (r * T)))), (1, .ref 0 4 0 0)]) (fun r => ⟨2, growO 1 2 (ptR (ptN T (r * T))) ++ [(0, ⟨4, [[.int .i64 A, .int .i64 F, .int .i64 T, .sl 2 (runR s.rs)]]⟩)]⟩)
    (fun r => r ≤ s.rs.length) (fun r => s.rs.length - r) 0 (Nat.zero_le _) ?_ ?_
  · rw [Nat.zero_mul]
    (refine Weak.ren [] [0] (by simp) (by simp) (by decide) ?_; simp only [stay1, vwL, vw, vwF, sw, St.get, St.look, Fr.get, ↓reduceIte, reduceIte, Nat.reduceEqDiff, Nat.reduceAdd, Nat.reduceBEq, Nat.reduceLT, Nat.reduceLeDiff, exists_eq_left', ne_eq, reduceCtorEq, zR, ptN, List.range_zero, List.map_nil, ptR_nil, growD_nil, growO_nil, List.nil_append])
  intro r hr
  refine wpS_go mixed ?_
  by_cases hrl : r < s.rs.length
  case neg =>
    have hd : ¬ ((r : Int) < (s.rs.length : Int)) := by omega
    rw [show r = s.rs.length by omega] at hd ⊢
    simp only [Int.reduceToNat, Int.reduceLT, Int.reduceLE, Int.reduceBEq, Int.reduceBNe, St0, argFr, ↓callZ, ↓midZ, ↓unZ, ↓thenW, ↓blockW, ↓opX, ↓opV, ↓pX, ↓pW, ↓putK, ↓putP, ↓atK, ↓normK, ↓postZ, ↓reduceIte, reduceIte, Nat.reduceEqDiff, Nat.reduceAdd, Nat.reduceBEq, Nat.reduceLT, Nat.reduceLeDiff, binW, bodyQ, ressW, resW, ne_eq, forall_const, reduceCtorEq, implies_true, sets, oneAll, setD, rels, fillE, fillD, List.replicate, rowsOf, forall_eq, Nat.reduceMul, ↓zD, zT, hd, runR_len]
    exact .drop (by simp) (grow_viewL (by decide) (ptR_pure _) (by simp [St.look, look_growO1, look_growO]))
  have hd : ((r : Int) < (s.rs.length : Int)) := by omega
  simp only [Int.reduceToNat, Int.reduceLT, Int.reduceLE, Int.reduceBEq, Int.reduceBNe, St0, argFr, ↓callZ, ↓midZ, ↓unZ, ↓thenW, ↓blockW, ↓opX, ↓opV, ↓pX, ↓pW, ↓putK, ↓putP, ↓atK, ↓normK, ↓postZ, ↓reduceIte, reduceIte, Nat.reduceEqDiff, Nat.reduceAdd, Nat.reduceBEq, Nat.reduceLT, Nat.reduceLeDiff, binW, bodyQ, ressW, resW, ne_eq, forall_const, reduceCtorEq, implies_true, sets, oneAll, setD, rels, fillE, fillD, List.replicate, rowsOf, forall_eq, Nat.reduceMul, ↓zD, zT, hd, runR_len]
  refine wpS_loop (fun t : Nat => [(5, .int .i64 t), (4, .int .i64 r), (3, growD 1 2 (ptR (ptN T (r * T + t)))), (1, .ref 0 4 0 0)]) (fun t => ⟨2, growO 1 2 (ptR (ptN T (r * T + t))) ++ [(0, ⟨4, [[.int .i64 A, .int .i64 F, .int .i64 T, .sl 2 (runR s.rs)]]⟩)]⟩)
    (fun t => t ≤ T) (fun t => T - t) 0 (Nat.zero_le _) ?_ ?_
  · rw [Nat.add_zero]
    (refine Weak.ren [] [1, 0] (by simp) (by simp) (by decide) ?_; simp only [stay1, vwL, vw, vwF, sw, St.get, St.look, Fr.get, ↓reduceIte, reduceIte, Nat.reduceEqDiff, Nat.reduceAdd, Nat.reduceBEq, Nat.reduceLT, Nat.reduceLeDiff, exists_eq_left', ne_eq, reduceCtorEq, zR, pureE_ptR])
  intro t ht
  refine wpS_go mixed ?_
  by_cases htl : t < T
  case neg =>
    have hd2 : ¬ ((t : Int) < (T : Int)) := by omega
    have et : t = T := by omega
    simp only [Int.reduceToNat, Int.reduceLT, Int.reduceLE, Int.reduceBEq, Int.reduceBNe, St0, argFr, ↓callZ, ↓midZ, ↓unZ, ↓thenW, ↓blockW, ↓opX, ↓opV, ↓pX, ↓pW, ↓putK, ↓putP, ↓atK, ↓normK, ↓postZ, ↓reduceIte, reduceIte, Nat.reduceEqDiff, Nat.reduceAdd, Nat.reduceBEq, Nat.reduceLT, Nat.reduceLeDiff, binW, bodyQ, ressW, resW, ne_eq, forall_const, reduceCtorEq, implies_true, sets, oneAll, setD, rels, fillE, fillD, List.replicate, rowsOf, forall_eq, Nat.reduceMul, ↓zD, zT, hd2]
    (repeat refine And.intro (by first | omega | exact ui_nonneg _ | exact Int.natCast_nonneg _ | rfl | exact rows_one' _ _ | exact us_one _ | (intro _ h; cases h; done)) ?_)
    refine ⟨r + 1, by omega, ?_, by omega⟩
    rw [show (r + 1) * T = r * T + t by rw [Nat.add_mul, et]; omega]
    (refine Weak.ren [] [1, 0] (by simp) (by simp) (by decide) ?_; simp only [stay1, vwL, vw, vwF, sw, St.get, St.look, Fr.get, ↓reduceIte, reduceIte, Nat.reduceEqDiff, Nat.reduceAdd, Nat.reduceBEq, Nat.reduceLT, Nat.reduceLeDiff, exists_eq_left', ne_eq, reduceCtorEq, zR, pureE_ptR])
    exact wrap_i64 (by omega)
  have hd2 : ((t : Int) < (T : Int)) := by omega
  have hlen : r * T + t < 1024 := by
    have : r * T ≤ 64 * 16 - 16 := by
      have := Nat.mul_le_mul (show r ≤ 63 by omega) T16
      omega
    omega
  have hS := ptN_succ T r t htl
  have hln := ptN_len T (r * T + t)
  have hw : IntKind.i64.wrap ((t : Int) + 1) = ((t + 1 : Nat) : Int) := wrap_i64 (by omega)
  generalize ptN T (r * T + t) = l at hS hln
  simp only [Int.reduceToNat, Int.reduceLT, Int.reduceLE, Int.reduceBEq, Int.reduceBNe, St0, argFr, ↓callZ, ↓midZ, ↓unZ, ↓thenW, ↓blockW, ↓opX, ↓opV, ↓pX, ↓pW, ↓putK, ↓putP, ↓atK, ↓normK, ↓postZ, ↓reduceIte, reduceIte, Nat.reduceEqDiff, Nat.reduceAdd, Nat.reduceBEq, Nat.reduceLT, Nat.reduceLeDiff, binW, bodyQ, ressW, resW, ne_eq, forall_const, reduceCtorEq, implies_true, sets, oneAll, setD, rels, fillE, fillD, List.replicate, rowsOf, forall_eq, Nat.reduceMul, ↓zD, zT, hd2, ptR_len, hln]
  (repeat refine And.intro (by first | omega | exact ui_nonneg _ | exact Int.natCast_nonneg _ | rfl | exact rows_one' _ _ | exact us_one _ | (intro _ h; cases h; done)) ?_)
  refine ⟨t + 1, by omega, ?_, by omega⟩
  rw [hS, ptR_snoc]
  (refine Weak.ren [(1, 2)] [1, 0] (by simp) (by simp) (by decide) ?_; simp only [stay1, vwL, vw, vwF, sw, St.get, St.look, Fr.get, ↓reduceIte, reduceIte, Nat.reduceEqDiff, Nat.reduceAdd, Nat.reduceBEq, Nat.reduceLT, Nat.reduceLeDiff, exists_eq_left', ne_eq, reduceCtorEq, zR, pureE_ptR, hw])
end Go.Pd
