/- Resolution: contract: a clause becomes a line of the refutation. -/
import Derived.Test.YtigkaakdjibakaaD3
set_option linter.unusedSectionVars false
set_option linter.unusedVariables false
set_option linter.unusedSimpArgs false
set_option linter.defProp false
set_option maxRecDepth 20000
namespace Go.Pd
open Go Go.Proofs
open Rs
namespace Rs
/-- What the search has: lines, and which clauses are among them. -/
structure RS where
  ls : List Ln
  us : List (Int × Int)
def mo (u : List (Int × Int)) : List (Int × D) := u.map fun p => (p.1, .int .i64 p.2)
def ulook (x : Int) : List (Int × Int) → Option Int
  | [] => none
  | (k, y) :: r => if x = k then some y else ulook x r
theorem afind_mo (x : Int) : ∀ (u : List (Int × Int)) (i : Nat), (ulook x u = none ∧ afind x (mo u) i = none) ∨ ∃ y j, ulook x u = some y ∧ afind x (mo u) i = some (j, .int .i64 y)
  | [], i => .inl ⟨rfl, rfl⟩
  | (k, y) :: r, i => by
    show (ulook x ((k, y) :: r) = none ∧ afind x ((k, .int .i64 y) :: mo r) i = none) ∨ ∃ y' j, ulook x ((k, y) :: r) = some y' ∧ afind x ((k, .int .i64 y) :: mo r) i = some (j, .int .i64 y')
    unfold ulook afind
    by_cases h : x = k
    · rw [if_pos h, if_pos h]; exact .inr ⟨y, i, rfl, rfl⟩
    · rw [if_neg h, if_neg h]; exact afind_mo x r (i + 1)
theorem aput_mo {x y : Int} {u : List (Int × Int)} (h : afind x (mo u) 0 = none) : aput (mo u) x (.int .i64 y) = mo (u ++ [(x, y)]) := by
  unfold aput
  rw [h]
  simp [mo]
def inputS (l : List (List Int)) (i : Nat) (s : RS) : Int × RS := match ulook i s.us with
  | some y => (y, s)
  | none => (s.ls.length, ⟨s.ls ++ [⟨l.getD i [], -1, i, 0⟩], s.us ++ [((i : Int), (s.ls.length : Int))]⟩)
/-- The program's state holds the search's. -/
structure InvR (n : Int) (l : List (List Int)) (σ : St) (s : RS) : Prop where
  hn : 2 ≤ σ.nx
  ex : ∃ key, 2 ≤ key ∧ St.look σ.objs 1 = some ⟨4, [[.int .i64 n, .sl 1 (rl l), growD key 4 (lnR s.ls), .mref 0]]⟩ ∧ St.look σ.objs key = growG 4 (lnR s.ls) ∧ St.look σ.objs 0 = some ⟨0, mrow .i64 (mo s.us)⟩
end Rs
namespace Rs
theorem lnR_snoc (ls : List Ln) (c : List Int) (a b v : Int) : lnR ls ++ [[.sl 1 (rows .i64 c), .int .i64 a, .int .i64 b, .int .i64 v]] = lnR (ls ++ [⟨c, a, b, v⟩]) := by simp [lnR, lnRow]
theorem ne_snoc (ls : List Ln) (p : Ln) : ∃ e r, lnR (ls ++ [p]) = e :: r := by
  cases h : lnR (ls ++ [p]) with
  | nil => simp [lnR] at h
  | cons e r => exact ⟨e, r, rfl⟩
/-- The state with one line more. -/
def addSt (n : Int) (l : List (List Int)) (nx : Nat) (objs : List (Nat × Ob)) (key : Nat) (ls : List Ln) : St := ⟨nx + 1, growO nx 4 (lnR ls) ++ setL (eraseL objs key) 1 ⟨4, [[.int .i64 n, .sl 1 (rl l), growD nx 4 (lnR ls), .mref 0]]⟩⟩
def addStM (n : Int) (l : List (List Int)) (nx : Nat) (objs : List (Nat × Ob)) (key : Nat) (ls : List Ln) (u : List (Int × Int)) : St := ⟨nx + 1, growO nx 4 (lnR ls) ++ setL (setL (eraseL objs key) 1 ⟨4, [[.int .i64 n, .sl 1 (rl l), growD nx 4 (lnR ls), .mref 0]]⟩) 0 ⟨0, mrow .i64 (mo u)⟩⟩
theorem addSt_inv {n : Int} {l : List (List Int)} {nx : Nat} {objs : List (Nat × Ob)} {key : Nat} {ls : List Ln} {p : Ln} {u : List (Int × Int)} {B : Ob} (hn : 2 ≤ nx) (hk : 2 ≤ key) (hb : St.look objs 1 = some B) (hm : St.look objs 0 = some ⟨0, mrow .i64 (mo u)⟩) : InvR n l (addSt n l nx objs key (ls ++ [p])) ⟨ls ++ [p], u⟩ := by
  refine ⟨by show 2 ≤ nx + 1; omega, nx, hn, ?_, ?_, ?_⟩
  · show St.look (growO _ _ _ ++ _) 1 = _
    rw [look_growO, if_neg (by omega), look_setL, if_pos rfl, look_eraseL, if_neg (by omega), hb]; rfl
  · show St.look (growO _ _ _ ++ _) nx = _
    obtain ⟨e, r, he⟩ := ne_snoc ls p
    rw [look_growO, if_pos rfl]
    show (growG 4 (lnR (ls ++ [p]))).or _ = growG 4 (lnR (ls ++ [p]))
    rw [he]; rfl
  · show St.look (growO _ _ _ ++ _) 0 = _
    rw [look_growO, if_neg (by omega), look_setL, if_neg (by omega), look_eraseL, if_neg (by omega), hm]
theorem addStM_inv {n : Int} {l : List (List Int)} {nx : Nat} {objs : List (Nat × Ob)} {key : Nat} {ls : List Ln} {p : Ln} {u : List (Int × Int)} {B B0 : Ob} (hn : 2 ≤ nx) (hk : 2 ≤ key) (hb : St.look objs 1 = some B) (hm : St.look objs 0 = some B0) : InvR n l (addStM n l nx objs key (ls ++ [p]) u) ⟨ls ++ [p], u⟩ := by
  refine ⟨by show 2 ≤ nx + 1; omega, nx, hn, ?_, ?_, ?_⟩
  · show St.look (growO _ _ _ ++ _) 1 = _
    rw [look_growO, if_neg (by omega), look_setL, if_neg (by omega), look_setL, if_pos rfl, look_eraseL, if_neg (by omega), hb]; rfl
  · show St.look (growO _ _ _ ++ _) nx = _
    obtain ⟨e, r, he⟩ := ne_snoc ls p
    rw [look_growO, if_pos rfl]
    show (growG 4 (lnR (ls ++ [p]))).or _ = growG 4 (lnR (ls ++ [p]))
    rw [he]; rfl
  · show St.look (growO _ _ _ ++ _) 0 = _
    rw [look_growO, if_neg (by omega), look_setL, if_pos rfl, look_setL, if_neg (by omega), look_eraseL, if_neg (by omega), hm]; rfl
end Rs
theorem input73 {n : Int} {l : List (List Int)} {σ : St} {s : RS} {i : Nat} (hi : i < l.length) (hlen : s.ls.length ≤ 100000) (hI : InvR n l σ s) (hl : litsOk l) :
    ∃ σ', InvR n l σ' (inputS l i s).2 ∧ σ.nx ≤ σ'.nx ∧ CallT Try.prog 73 [.ref 1 4 0 0, .int .i64 i] σ (.int .i64 (inputS l i s).1) σ' := by
  obtain ⟨nx, objs⟩ := σ
  obtain ⟨hn, key, hk, hb, hkk, hm⟩ := hI
  simp only at hn hb hkk hm
  rcases afind_mo (i : Int) s.us 0 with ⟨h1, h2⟩ | ⟨y, j, h1, h2⟩
  · rw [show inputS l i s = ((s.ls.length : Int), (⟨s.ls ++ [⟨l.getD i [], -1, i, 0⟩], s.us ++ [((i : Int), (s.ls.length : Int))]⟩ : RS)) by rw [inputS, h1]]
    refine ⟨addStM n l nx objs key (s.ls ++ [⟨l.getD i [], -1, i, 0⟩]) (s.us ++ [((i : Int), (s.ls.length : Int))]), addStM_inv hn hk hb hm, by show nx ≤ nx + 1; omega, ?_⟩
    · have hcl := clone42 (c := l.getD i []) (by have := (hl _ (getD_mem (d := []) hi)).1; omega)
      refine CallT.go_fn mixed Try.func73 k73 (by simp) fun hf => ?_
      simp only [Int.reduceToNat, Int.reduceLT, Int.reduceLE, Int.reduceBEq, Int.reduceBNe, St0, argFr, ↓thenW, ↓blockW, ↓opX, ↓opV, ↓pX, ↓pW, ↓putK, ↓putP, ↓atK, ↓normK, ↓postZ, ↓reduceIte, reduceIte, Nat.reduceEqDiff, Nat.reduceAdd, Nat.reduceBEq, Nat.reduceLT, Nat.reduceLeDiff, binW, bodyQ, ressW, resW, ne_eq, forall_const, reduceCtorEq, implies_true, sets, oneAll, setD, rels, fillE, fillD, List.replicate, rowsOf, forall_eq, Nat.reduceMul, ↓zD, zT, hb, hm, h2]
      (repeat (first | refine And.intro (by omega) ?_ | refine And.intro (ui_nonneg _) ?_ | refine And.intro (Int.natCast_nonneg _) ?_ | refine And.intro rfl ?_ | refine And.intro (rows_one' _ _) ?_ | refine And.intro (us_one _) ?_ | refine And.intro (by intro _ h; cases h; done) ?_))
      simp only [Int.reduceToNat, Int.reduceLT, Int.reduceLE, Int.reduceBEq, Int.reduceBNe, St0, argFr, ↓thenW, ↓blockW, ↓opX, ↓opV, ↓pX, ↓pW, ↓putK, ↓putP, ↓atK, ↓normK, ↓postZ, ↓reduceIte, reduceIte, Nat.reduceEqDiff, Nat.reduceAdd, Nat.reduceBEq, Nat.reduceLT, Nat.reduceLeDiff, binW, bodyQ, ressW, resW, ne_eq, forall_const, reduceCtorEq, implies_true, sets, oneAll, setD, rels, fillE, fillD, List.replicate, rowsOf, forall_eq, Nat.reduceMul, ↓zD, zT, hb, rl_len, rl_get l hi]
      (repeat (first | refine And.intro (by omega) ?_ | refine And.intro (ui_nonneg _) ?_ | refine And.intro (Int.natCast_nonneg _) ?_ | refine And.intro rfl ?_ | refine And.intro (rows_one' _ _) ?_ | refine And.intro (us_one _) ?_ | refine And.intro (by intro _ h; cases h; done) ?_))
      refine .go (CallT.of_runs hcl (by simp [D.isPureL, D.isPure])) ?_
      have he1 : St.look (eraseL objs key) 1 = some ⟨4, [[.int .i64 n, .sl 1 (rl l), growD key 4 (lnR s.ls), .mref 0]]⟩ := by rw [look_eraseL, if_neg (by omega)]; exact hb
      have he0 : St.look (eraseL objs key) 0 = some ⟨0, mrow .i64 (mo s.us)⟩ := by rw [look_eraseL, if_neg (by omega)]; exact hm
      have hx1 : ¬ nx = 1 := by omega
      have hx0 : ¬ nx = 0 := by omega
      have hpz : D.isPureL [.sl 1 (rows .i64 (l.getD i [])), .int .i64 (-1), .int .i64 (i : Int), .int .i64 0] = true := by simp [D.isPureL, D.isPure, rows]
      simp only [Int.reduceToNat, Int.reduceLT, Int.reduceLE, Int.reduceBEq, Int.reduceBNe, St0, argFr, ↓thenW, ↓blockW, ↓opX, ↓opV, ↓pX, ↓pW, ↓putK, ↓putP, ↓atK, ↓normK, ↓postZ, ↓reduceIte, reduceIte, Nat.reduceEqDiff, Nat.reduceAdd, Nat.reduceBEq, Nat.reduceLT, Nat.reduceLeDiff, binW, bodyQ, ressW, resW, ne_eq, forall_const, reduceCtorEq, implies_true, sets, oneAll, setD, rels, fillE, fillD, List.replicate, rowsOf, forall_eq, Nat.reduceMul, ↓zD, zT, hb, hkk, he1, he0, hx0, hx1, hpz, lnR_len, look_setL]
      (repeat (first | refine And.intro (by omega) ?_ | refine And.intro (ui_nonneg _) ?_ | refine And.intro (Int.natCast_nonneg _) ?_ | refine And.intro rfl ?_ | refine And.intro (rows_one' _ _) ?_ | refine And.intro (us_one _) ?_ | refine And.intro (by intro _ h; cases h; done) ?_))
      have el : IntKind.i64.wrap (((s.ls.length + 1 : Nat) : Int) - 1) = (s.ls.length : Int) := by rw [wrap_i64 (by omega)]; omega
      rw [el, aput_mo h2, lnR_snoc]
      exact .same
  · rw [show inputS l i s = (y, s) by rw [inputS, h1]]
    refine ⟨⟨nx, objs⟩, ⟨hn, key, hk, hb, hkk, hm⟩, Nat.le_refl _, ?_⟩
    refine CallT.go_fn mixed Try.func73 k73 (by simp) fun hf => ?_
    simp only [Int.reduceToNat, Int.reduceLT, Int.reduceLE, Int.reduceBEq, Int.reduceBNe, St0, argFr, ↓thenW, ↓blockW, ↓opX, ↓opV, ↓pX, ↓pW, ↓putK, ↓putP, ↓atK, ↓normK, ↓postZ, ↓reduceIte, reduceIte, Nat.reduceEqDiff, Nat.reduceAdd, Nat.reduceBEq, Nat.reduceLT, Nat.reduceLeDiff, binW, bodyQ, ressW, resW, ne_eq, forall_const, reduceCtorEq, implies_true, sets, oneAll, setD, rels, fillE, fillD, List.replicate, rowsOf, forall_eq, Nat.reduceMul, ↓zD, zT, hb, hm, h2]
    exact .same
end Go.Pd
