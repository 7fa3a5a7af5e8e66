/- Boolean: contract: tautologies. -/
import Derived.Test.YtfaehcooldhddaaDoorG5
set_option linter.unusedSectionVars false
set_option linter.unusedVariables false
set_option linter.unusedSimpArgs false
set_option linter.defProp false
set_option maxRecDepth 20000
namespace Go.Pd
open Go Go.Proofs
open Rs Fm
namespace Fm
/-- The number of the atom of each node. -/
def numS (c : List Nd) (l : List Int) : Nat → List Int
  | 0 => List.replicate c.length 0
  | k + 1 => (numS c l k).set (l.getD k 0).toNat (k : Int)
theorem numS_len (c : List Nd) (l : List Int) : ∀ k, (numS c l k).length = c.length
  | 0 => by simp [numS]
  | k + 1 => by simp [numS, numS_len c l k]
theorem numS_in (c : List Nd) (l : List Int) : ∀ k, ∀ x ∈ numS c l k, 0 ≤ x ∧ (x = 0 ∨ x < k)
  | 0, x, hx => by
    simp only [numS, List.mem_replicate] at hx
    omega
  | k + 1, x, hx => by
    unfold numS at hx
    rcases List.mem_or_eq_of_mem_set hx with hx | rfl
    · have := numS_in c l k x hx; omega
    · omega
def leafN (num : List Int) (v i : Nat) : Bool := v.testBit (num.getD i 0).toNat
/-- Is a formula true whatever its atoms are: for the first valuations. -/
def tautS (c : List Nd) (num : List Int) : Nat → Bool
  | 0 => true
  | k + 1 => tautS c num k && valueA c (leafN num k)
def tautA (f : List Nd) : Bool × Int :=
  if checkF f ≠ 0 then (false, checkF f) else if 10 < (leavesA (compactA f)).length then (false, 8) else
  (tautS (compactA f) (numS (compactA f) (leavesA (compactA f)) (leavesA (compactA f)).length) (2 ^ (leavesA (compactA f)).length), 0)
theorem tautS_false {c : List Nd} {num : List Int} {k : Nat} (h : tautS c num k = false) : ∀ {j : Nat}, k ≤ j → tautS c num j = false
  | 0, hj => by rw [show (0 : Nat) = k by omega]; exact h
  | j + 1, hj => by
    by_cases e : k = j + 1
    · rw [← e]; exact h
    · unfold tautS
      rw [tautS_false h (j := j) (by omega), Bool.false_and]
end Fm
theorem leaf49 {num : List Int} {v i : Nat} (hv : v < 2 ^ 60) (hi : i < num.length) (h : 0 ≤ num.getD i 0 ∧ num.getD i 0 ≤ 60) : Runs Tryd.prog 49 [.int .i64 i, .ptr [.int .i64 v], .ptr [.sl 1 (rows .i64 num)]] (.bool (leafN num v i)) := by
  refine CallT.go_fn mixed Tryd.func49 k49 (by simp) fun hf => ?_
  have hg := rows_get .i64 num hi
  unfold leafN
  generalize num.getD i 0 = x at h hg
  obtain ⟨w, hw⟩ := Int.eq_ofNat_of_zero_le h.1
  subst hw
  simp only [Int.reduceToNat, Int.reduceLT, Int.reduceLE, Int.reduceBEq, Int.reduceBNe, St0, argFr, ↓callZ, ↓midZ, ↓unZ, ↓thenW, ↓blockW, ↓opX, ↓opV, ↓pX, ↓pW, ↓putK, ↓putP, ↓atK, ↓normK, ↓postZ, ↓reduceIte, reduceIte, Nat.reduceEqDiff, Nat.reduceAdd, Nat.reduceBEq, Nat.reduceLT, Nat.reduceLeDiff, binW, bodyQ, ressW, resW, ne_eq, forall_const, reduceCtorEq, implies_true, sets, oneAll, setD, rels, fillE, fillD, List.replicate, rowsOf, forall_eq, Nat.reduceMul, ↓zD, zT, rows_len, hg, shrNat v w (by omega), and1Nat (div_lt62 (show v < 2 ^ 62 by omega) w), bitNat]
  (repeat refine And.intro (by first | omega | exact ui_nonneg _ | exact Int.natCast_nonneg _ | rfl | exact rows_one' _ _ | exact us_one _ | (intro _ h; cases h; done)) ?_)
  exact .drop (by simp) (by simp [vw])
theorem Tautology17 (f : List Nd) : Runs Tryd.prog 17 [.sl 6 (ndR f)] (.tup [.bool (tautA f).1, .int .i64 (tautA f).2]) := by
  refine CallT.go_fn mixed Tryd.func17 k17 (by simp) fun hf => ?_
  simp only [Int.reduceToNat, Int.reduceLT, Int.reduceLE, Int.reduceBEq, Int.reduceBNe, St0, argFr, ↓callZ, ↓midZ, ↓unZ, ↓thenW, ↓blockW, ↓opX, ↓opV, ↓pX, ↓pW, ↓putK, ↓putP, ↓atK, ↓normK, ↓postZ, ↓reduceIte, reduceIte, Nat.reduceEqDiff, Nat.reduceAdd, Nat.reduceBEq, Nat.reduceLT, Nat.reduceLeDiff, binW, bodyQ, ressW, resW, ne_eq, forall_const, reduceCtorEq, implies_true, sets, oneAll, setD, rels, fillE, fillD, List.replicate, rowsOf, forall_eq, Nat.reduceMul, ↓zD, zT]
  refine .go (CallT.of_runs (checkF56 f) (by simp [D.isPureL, D.isPure])) ?_
  by_cases hc : checkF f = 0
  case neg =>
    have e : (checkF f != 0) = true := by simpa using hc
    simp only [Int.reduceToNat, Int.reduceLT, Int.reduceLE, Int.reduceBEq, Int.reduceBNe, St0, argFr, ↓callZ, ↓midZ, ↓unZ, ↓thenW, ↓blockW, ↓opX, ↓opV, ↓pX, ↓pW, ↓putK, ↓putP, ↓atK, ↓normK, ↓postZ, ↓reduceIte, reduceIte, Nat.reduceEqDiff, Nat.reduceAdd, Nat.reduceBEq, Nat.reduceLT, Nat.reduceLeDiff, binW, bodyQ, ressW, resW, ne_eq, forall_const, reduceCtorEq, implies_true, sets, oneAll, setD, rels, fillE, fillD, List.replicate, rowsOf, forall_eq, Nat.reduceMul, ↓zD, zT, e]
    rw [show tautA f = (false, checkF f) from if_pos hc]
    exact .same
  have e : (checkF f != 0) = false := by simpa using hc
  have et : tautA f = if 10 < (leavesA (compactA f)).length then (false, 8) else (tautS (compactA f) (numS (compactA f) (leavesA (compactA f)) (leavesA (compactA f)).length) (2 ^ (leavesA (compactA f)).length), 0) := by rw [tautA, if_neg (by simpa using hc)]
  rw [et]
  simp only [Int.reduceToNat, Int.reduceLT, Int.reduceLE, Int.reduceBEq, Int.reduceBNe, St0, argFr, ↓callZ, ↓midZ, ↓unZ, ↓thenW, ↓blockW, ↓opX, ↓opV, ↓pX, ↓pW, ↓putK, ↓putP, ↓atK, ↓normK, ↓postZ, ↓reduceIte, reduceIte, Nat.reduceEqDiff, Nat.reduceAdd, Nat.reduceBEq, Nat.reduceLT, Nat.reduceLeDiff, binW, bodyQ, ressW, resW, ne_eq, forall_const, reduceCtorEq, implies_true, sets, oneAll, setD, rels, fillE, fillD, List.replicate, rowsOf, forall_eq, Nat.reduceMul, ↓zD, zT, e]
  refine .go (CallT.of_runs (Compact59 f) (by simp [D.isPureL, D.isPure])) ?_
  have hv := validC f
  have hne := compact_ne hc
  have hln : (compactA f).length ≤ 200 := sub_len f _
  clear et
  generalize compactA f = c at hv hne hln
  obtain ⟨nx, objs, ko, hcall, hnx, hko, hk⟩ := leavesC hv hne (by omega)
  obtain ⟨hin, hll⟩ := leavesA_in hv hne
  generalize leavesA c = l at hcall hko hk hin hll
  have ew : IntKind.i64.wrap ((c.length : Int) - 1) = ((c.length - 1 : Nat) : Int) := by rw [wrap_i64 (by omega)]; omega
  simp only [Int.reduceToNat, Int.reduceLT, Int.reduceLE, Int.reduceBEq, Int.reduceBNe, St0, argFr, ↓callZ, ↓midZ, ↓unZ, ↓thenW, ↓blockW, ↓opX, ↓opV, ↓pX, ↓pW, ↓putK, ↓putP, ↓atK, ↓normK, ↓postZ, ↓reduceIte, reduceIte, Nat.reduceEqDiff, Nat.reduceAdd, Nat.reduceBEq, Nat.reduceLT, Nat.reduceLeDiff, binW, bodyQ, ressW, resW, ne_eq, forall_const, reduceCtorEq, implies_true, sets, oneAll, setD, rels, fillE, fillD, List.replicate, rowsOf, forall_eq, Nat.reduceMul, ↓zD, zT, ndR_len, ew]
  (repeat refine And.intro (by first | omega | exact ui_nonneg _ | exact Int.natCast_nonneg _ | rfl | exact rows_one' _ _ | exact us_one _ | (intro _ h; cases h; done)) ?_)
  rw [rb_replicate]
  refine .go hcall ?_
  by_cases h10 : 10 < l.length
  · have h10' : (10 : Int) < (l.length : Int) := by omega
    rw [if_pos h10]
    simp only [Int.reduceToNat, Int.reduceLT, Int.reduceLE, Int.reduceBEq, Int.reduceBNe, St0, argFr, ↓callZ, ↓midZ, ↓unZ, ↓thenW, ↓blockW, ↓opX, ↓opV, ↓pX, ↓pW, ↓putK, ↓putP, ↓atK, ↓normK, ↓postZ, ↓reduceIte, reduceIte, Nat.reduceEqDiff, Nat.reduceAdd, Nat.reduceBEq, Nat.reduceLT, Nat.reduceLeDiff, binW, bodyQ, ressW, resW, ne_eq, forall_const, reduceCtorEq, implies_true, sets, oneAll, setD, rels, fillE, fillD, List.replicate, rowsOf, forall_eq, Nat.reduceMul, ↓zD, zT, rows_len, h10']
    exact .drop (by simp) (by simp [vw, vwL])
  have h10' : ¬ (10 : Int) < (l.length : Int) := by omega
  rw [if_neg h10]
  simp only [Int.reduceToNat, Int.reduceLT, Int.reduceLE, Int.reduceBEq, Int.reduceBNe, St0, argFr, ↓callZ, ↓midZ, ↓unZ, ↓thenW, ↓blockW, ↓opX, ↓opV, ↓pX, ↓pW, ↓putK, ↓putP, ↓atK, ↓normK, ↓postZ, ↓reduceIte, reduceIte, Nat.reduceEqDiff, Nat.reduceAdd, Nat.reduceBEq, Nat.reduceLT, Nat.reduceLeDiff, binW, bodyQ, ressW, resW, ne_eq, forall_const, reduceCtorEq, implies_true, sets, oneAll, setD, rels, fillE, fillD, List.replicate, rowsOf, forall_eq, Nat.reduceMul, ↓zD, zT, rows_len, h10', ndR_len]
  (repeat refine And.intro (by first | omega | exact ui_nonneg _ | exact Int.natCast_nonneg _ | rfl | exact rows_one' _ _ | exact us_one _ | (intro _ h; cases h; done)) ?_)
  rw [rows_replicate]
  have hnl : ∀ k, (numS c l k).length = c.length := numS_len c l
  have hni := numS_in c l
  have h1024 : 2 ^ l.length ≤ 2 ^ 10 := Nat.pow_le_pow_right (by decide) (by omega)
  refine wpS_loop (fun k : Nat => [(34, .int .i64 k), (33, .int .i64 l.length), (32, .sl 1 (rows .i64 l)), (7, .ref 1 1 0 0), (6, .sl 1 (rows .i64 l)), (5, .sl 6 (ndR c))]) (fun k => ⟨2, [(1, ⟨1, [[.osl 0 1 c.length]]⟩), (0, ⟨1, rows .i64 (numS c l k)⟩)]⟩) (fun k => k ≤ l.length) (fun k => l.length - k) 0 (Nat.zero_le _) ?_ ?_
  · have hlk : St.look ((nx + 1, (⟨1, [[.osl nx 1 c.length]]⟩ : Ob)) :: (nx, ⟨1, rows .i64 (List.replicate c.length 0)⟩) :: objs) (nx + 1) = some ⟨1, [[.osl nx 1 c.length]]⟩ := by rw [look_cons, if_pos rfl]
    have hlk2 : St.look ((nx + 1, (⟨1, [[.osl nx 1 c.length]]⟩ : Ob)) :: (nx, ⟨1, rows .i64 (List.replicate c.length 0)⟩) :: objs) nx = some ⟨1, rows .i64 (List.replicate c.length 0)⟩ := by rw [look_cons, if_neg (by omega), look_cons, if_pos rfl]
    have hseen : Seen ⟨nx + 1 + 1, (nx + 1, ⟨1, [[.osl nx 1 c.length]]⟩) :: (nx, ⟨1, rows .i64 (List.replicate c.length 0)⟩) :: objs⟩ (fun k => k = nx ∨ k = nx + 1) (growD ko 1 (rows .i64 l)) (.sl 1 (rows .i64 l)) := by
      rcases hk with hk | hk
      · rw [hk]; exact .nil 1
      · refine Seen.grow ?_ (by omega) (by omega) (fun e he => by simp only [rows, List.mem_map] at he; obtain ⟨x, _, rfl⟩ := he; rfl) (rows_pure _ _)
        show St.look _ ko = _
        rw [look_cons, if_neg (by omega), look_cons, if_neg (by omega)]
        exact hko
    refine Weak.then_ (Weak.deep (f' := [(34, .int .i64 0), (33, .int .i64 l.length), (32, .sl 1 (rows .i64 l)), (7, .ref (nx + 1) 1 0 0), (6, .sl 1 (rows .i64 l)), (5, .sl 6 (ndR c))]) (objs' := [(nx + 1, ⟨1, [[.osl nx 1 c.length]]⟩), (nx, ⟨1, rows .i64 (List.replicate c.length 0)⟩)]) (fun k => k = nx ∨ k = nx + 1)
      ⟨⟨.inr rfl, _, hlk, rfl, rfl, fun i _ => ⟨rfl, fun j => .inl rfl⟩⟩, ⟨.inl rfl, _, hlk2, rfl, rfl, fun i _ => ⟨rfl, fun j => .inl rfl⟩⟩, trivial⟩
      ⟨.inl (by simp [Fr.get]), .inl (by simp [Fr.get]), .inr ?_, .inl (by simp [Fr.get]), .inr ?_, .inl (by simp [Fr.get]), trivial⟩) ?_
    · simp only [Fr.get, ↓reduceIte, reduceIte, Nat.reduceEqDiff]; exact hseen
    · simp only [Fr.get, ↓reduceIte, reduceIte, Nat.reduceEqDiff]; exact hseen
    · refine Weak.view (fun k => if k = 0 then nx else if k = 1 then nx + 1 else k) (by simp) (by simp) (by simp [vwF, vw, Fr.get]) ?_ ?_
      · intro p hp
        simp only [List.mem_cons, List.not_mem_nil, or_false] at hp
        rcases hp with rfl | rfl
        · exact ⟨by show (1 : Nat) < 2; omega, ⟨1, [[.osl nx 1 c.length]]⟩, by show St.look _ (nx + 1) = _; rw [look_cons, if_pos rfl], rfl, .cons rfl ⟨⟨by show (0 : Nat) < 2; omega, rfl⟩, trivial⟩ .nil⟩
        · exact ⟨by show (0 : Nat) < 2; omega, ⟨1, rows .i64 (List.replicate c.length 0)⟩, by show St.look _ nx = _; rw [look_cons, if_neg (by omega), look_cons, if_pos rfl], rfl, .same (rows_pure _ _)⟩
      · intro p hp q hq h
        simp only [List.mem_cons, List.not_mem_nil, or_false] at hp hq
        rcases hp with rfl | rfl <;> rcases hq with rfl | rfl
        · rfl
        · have h : nx + 1 = nx := h; omega
        · have h : nx = nx + 1 := h; omega
        · rfl
  intro k hk2
  refine wpS_go mixed ?_
  have hw : IntKind.i64.wrap ((k : Int) + 1) = ((k + 1 : Nat) : Int) := wrap_i64 (by omega)
  by_cases h : k < l.length
  · have hd : ((k : Int) < (l.length : Int)) := by omega
    have hg := rows_get .i64 l h
    have hx := hin _ (getD_mem (d := 0) h)
    have hs : numS c l (k + 1) = (numS c l k).set (l.getD k 0).toNat (k : Int) := rfl
    generalize l.getD k 0 = x at hg hs hx
    obtain ⟨j, rfl⟩ := Int.eq_ofNat_of_zero_le hx.1
    rw [Int.toNat_natCast] at hs
    have hjl : j < c.length := by omega
    have hgj := rows_get .i64 (numS c l k) (i := j) (by rw [hnl]; omega)
    simp only [Int.reduceToNat, Int.reduceLT, Int.reduceLE, Int.reduceBEq, Int.reduceBNe, St0, argFr, ↓callZ, ↓midZ, ↓unZ, ↓thenW, ↓blockW, ↓opX, ↓opV, ↓pX, ↓pW, ↓putK, ↓putP, ↓atK, ↓normK, ↓postZ, ↓reduceIte, reduceIte, Nat.reduceEqDiff, Nat.reduceAdd, Nat.reduceBEq, Nat.reduceLT, Nat.reduceLeDiff, binW, bodyQ, ressW, resW, ne_eq, forall_const, reduceCtorEq, implies_true, sets, oneAll, setD, rels, fillE, fillD, List.replicate, rowsOf, forall_eq, Nat.reduceMul, ↓zD, zT, hd, rows_len, hg, hnl, hgj, set1, rows_set]
    (repeat refine And.intro (by first | omega | exact ui_nonneg _ | exact Int.natCast_nonneg _ | rfl | exact rows_one' _ _ | exact us_one _ | (intro _ h; cases h; done)) ?_)
    refine ⟨k + 1, by omega, ?_, by omega⟩
    rw [hs]
    (refine Weak.ren [] [1, 0] (by simp) (by simp) (by decide) ?_; simp only [stay1, vwL, vw, vwF, sw, St.get, St.look, Fr.get, ↓reduceIte, reduceIte, Nat.reduceEqDiff, Nat.reduceAdd, Nat.reduceBEq, Nat.reduceLT, Nat.reduceLeDiff, exists_eq_left', ne_eq, reduceCtorEq, zR, hw])
  have hd : ¬ ((k : Int) < (l.length : Int)) := by omega
  rw [show k = l.length by omega]
  rw [show k = l.length by omega] at hd
  have hnum := hnl l.length
  have hnin := hni l.length
  generalize numS c l l.length = num at hnum hnin
  simp only [Int.reduceToNat, Int.reduceLT, Int.reduceLE, Int.reduceBEq, Int.reduceBNe, St0, argFr, ↓callZ, ↓midZ, ↓unZ, ↓thenW, ↓blockW, ↓opX, ↓opV, ↓pX, ↓pW, ↓putK, ↓putP, ↓atK, ↓normK, ↓postZ, ↓reduceIte, reduceIte, Nat.reduceEqDiff, Nat.reduceAdd, Nat.reduceBEq, Nat.reduceLT, Nat.reduceLeDiff, binW, bodyQ, ressW, resW, ne_eq, forall_const, reduceCtorEq, implies_true, sets, oneAll, setD, rels, fillE, fillD, List.replicate, rowsOf, forall_eq, Nat.reduceMul, ↓zD, zT, hd, rows_len, shlN (show l.length ≤ 61 by omega)]
  (repeat refine And.intro (by first | omega | exact ui_nonneg _ | exact Int.natCast_nonneg _ | rfl | exact rows_one' _ _ | exact us_one _ | (intro _ h; cases h; done)) ?_)
  refine wpS_loop (fun v : Nat => [(47, .int .i64 v), (46, .int .i64 ((2 ^ l.length : Nat) : Int)), (7, .ref 1 1 0 0), (5, .sl 6 (ndR c))]) (fun _ => ⟨2, [(1, ⟨1, [[.osl 0 1 c.length]]⟩), (0, ⟨1, rows .i64 num⟩)]⟩) (fun v => v ≤ 2 ^ l.length ∧ tautS c num v = true) (fun v => 2 ^ l.length - v) 0 ⟨Nat.zero_le _, rfl⟩ ?_ ?_
  · (refine Weak.same ?_; simp [sameF, Fr.get])
  intro v ⟨hv2, hi2⟩
  refine wpS_go mixed ?_
  have hwv : IntKind.i64.wrap ((v : Int) + 1) = ((v + 1 : Nat) : Int) := wrap_i64 (by omega)
  by_cases hvl : v < 2 ^ l.length
  case neg =>
    have hd2 : ¬ ((v : Int) < ((2 ^ l.length : Nat) : Int)) := by omega
    have ev : v = 2 ^ l.length := by omega
    have hi3 : tautS c num (2 ^ l.length) = true := by rw [← ev]; exact hi2
    rw [hi3]
    simp only [Int.reduceToNat, Int.reduceLT, Int.reduceLE, Int.reduceBEq, Int.reduceBNe, St0, argFr, ↓callZ, ↓midZ, ↓unZ, ↓thenW, ↓blockW, ↓opX, ↓opV, ↓pX, ↓pW, ↓putK, ↓putP, ↓atK, ↓normK, ↓postZ, ↓reduceIte, reduceIte, Nat.reduceEqDiff, Nat.reduceAdd, Nat.reduceBEq, Nat.reduceLT, Nat.reduceLeDiff, binW, bodyQ, ressW, resW, ne_eq, forall_const, reduceCtorEq, implies_true, sets, oneAll, setD, rels, fillE, fillD, List.replicate, rowsOf, forall_eq, Nat.reduceMul, ↓zD, zT, hd2]
    exact .drop (by simp) (by simp [vw, vwL])
  have hd2 : ((v : Int) < ((2 ^ l.length : Nat) : Int)) := by omega
  have hcall : CallT Tryd.prog 37 [.sl 6 (ndR c), .fn 49 [.ref 2 1 0 0, .ref 1 1 0 0]] ⟨3, [(2, ⟨1, [[.int .i64 v]]⟩), (1, ⟨1, [[.osl 0 1 c.length]]⟩), (0, ⟨1, rows .i64 num⟩)]⟩ (.bool (valueA c (leafN num v))) ⟨3, [(2, ⟨1, [[.int .i64 v]]⟩), (1, ⟨1, [[.osl 0 1 c.length]]⟩), (0, ⟨1, rows .i64 num⟩)]⟩ := by
    refine CallT.lentS (value60 (g := 49) (caps := [.ptr [.int .i64 v], .ptr [.sl 1 (rows .i64 num)]]) (leaf := leafN num v) hv hne (by omega) (by simp [D.isPureL, D.isPure]) fun i hi _ => leaf49 (by omega) (by omega) (by have := hnin _ (getD_mem (d := 0) (show i < num.length by omega)); omega)) ⟨.pure rfl, .fn ⟨?_, ?_, trivial⟩, trivial⟩ rfl
    · exact Seen.ref (ob := ⟨1, [[.int .i64 v]]⟩) (by simp [St.get, St.look]) id rfl (by simp) (by simp) (by simp) fun j hj => by
        obtain rfl : j = 0 := by simpa using hj
        exact .pure rfl
    · refine Seen.ref (ob := ⟨1, [[.osl 0 1 c.length]]⟩) (by simp [St.get, St.look]) id rfl (by simp) (by simp) (by simp) fun j hj => ?_
      obtain rfl : j = 0 := by simpa using hj
      exact Seen.rows (by simp [St.get, St.look]) id (by omega) (by rw [rows_len]; omega) (fun e he => by simp only [rows, List.mem_map] at he; obtain ⟨x, _, rfl⟩ := he; rfl) (rows_pure _ _)
  simp only [Int.reduceToNat, Int.reduceLT, Int.reduceLE, Int.reduceBEq, Int.reduceBNe, St0, argFr, ↓callZ, ↓midZ, ↓unZ, ↓thenW, ↓blockW, ↓opX, ↓opV, ↓pX, ↓pW, ↓putK, ↓putP, ↓atK, ↓normK, ↓postZ, ↓reduceIte, reduceIte, Nat.reduceEqDiff, Nat.reduceAdd, Nat.reduceBEq, Nat.reduceLT, Nat.reduceLeDiff, binW, bodyQ, ressW, resW, ne_eq, forall_const, reduceCtorEq, implies_true, sets, oneAll, setD, rels, fillE, fillD, List.replicate, rowsOf, forall_eq, Nat.reduceMul, ↓zD, zT, hd2]
  (repeat refine And.intro (by first | omega | exact ui_nonneg _ | exact Int.natCast_nonneg _ | rfl | exact rows_one' _ _ | exact us_one _ | (intro _ h; cases h; done)) ?_)
  refine .go hcall ?_
  cases hval : valueA c (leafN num v)
  · simp only [Int.reduceToNat, Int.reduceLT, Int.reduceLE, Int.reduceBEq, Int.reduceBNe, St0, argFr, ↓callZ, ↓midZ, ↓unZ, ↓thenW, ↓blockW, ↓opX, ↓opV, ↓pX, ↓pW, ↓putK, ↓putP, ↓atK, ↓normK, ↓postZ, ↓reduceIte, reduceIte, Nat.reduceEqDiff, Nat.reduceAdd, Nat.reduceBEq, Nat.reduceLT, Nat.reduceLeDiff, binW, bodyQ, ressW, resW, ne_eq, forall_const, reduceCtorEq, implies_true, sets, oneAll, setD, rels, fillE, fillD, List.replicate, rowsOf, forall_eq, Nat.reduceMul, ↓zD, zT]
    rw [tautS_false (k := v + 1) (by rw [tautS, hi2, hval]; rfl) (show v + 1 ≤ 2 ^ l.length by omega)]
    exact .drop (by simp) (by simp [vw, vwL])
  · simp only [Int.reduceToNat, Int.reduceLT, Int.reduceLE, Int.reduceBEq, Int.reduceBNe, St0, argFr, ↓callZ, ↓midZ, ↓unZ, ↓thenW, ↓blockW, ↓opX, ↓opV, ↓pX, ↓pW, ↓putK, ↓putP, ↓atK, ↓normK, ↓postZ, ↓reduceIte, reduceIte, Nat.reduceEqDiff, Nat.reduceAdd, Nat.reduceBEq, Nat.reduceLT, Nat.reduceLeDiff, binW, bodyQ, ressW, resW, ne_eq, forall_const, reduceCtorEq, implies_true, sets, oneAll, setD, rels, fillE, fillD, List.replicate, rowsOf, forall_eq, Nat.reduceMul, ↓zD, zT]
    refine ⟨v + 1, ⟨by omega, by rw [tautS, hi2, hval]; rfl⟩, ?_, by omega⟩
    (refine Weak.ren [] [1, 0] (by simp) (by simp) (by decide) ?_; simp only [stay1, vwL, vw, vwF, sw, St.get, St.look, Fr.get, ↓reduceIte, reduceIte, Nat.reduceEqDiff, Nat.reduceAdd, Nat.reduceBEq, Nat.reduceLT, Nat.reduceLeDiff, exists_eq_left', ne_eq, reduceCtorEq, zR, hwv])
end Go.Pd
