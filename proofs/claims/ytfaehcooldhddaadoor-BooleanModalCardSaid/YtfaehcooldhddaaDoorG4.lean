/- Boolean: contract: the atoms in order. -/
import Derived.Test.YtfaehcooldhddaaDoorG3
set_option linter.unusedSectionVars false
set_option linter.unusedVariables false
set_option linter.unusedSimpArgs false
set_option linter.defProp false
set_option maxRecDepth 20000
namespace Go.Pd
open Go Go.Proofs
open Rs Fm
namespace Fm
/-- The walk that collects the atoms: what has been seen, what has been found. -/
def leavesS (c : List Nd) : Nat → Nat → List Bool × List Int → List Bool × List Int
  | 0, _, s => s
  | n + 1, i, s =>
    if s.1.getD i false = true then s else
    if (c.getD i nd0).op = 3 ∨ 8 < (c.getD i nd0).op then (s.1.set i true, s.2 ++ [(i : Int)]) else
    let s2 := if 4 ≤ (c.getD i nd0).op then leavesS c n (c.getD i nd0).x.toNat (s.1.set i true, s.2) else (s.1.set i true, s.2)
    if 5 ≤ (c.getD i nd0).op then leavesS c n (c.getD i nd0).y.toNat s2 else s2
theorem uses_mid {op : Int} (h4 : 4 ≤ op) (h8 : op ≤ 8) : (usesA op).1.x = true ∧ (5 ≤ op → (usesA op).1.y = true) := by
  have hc : op = 4 ∨ op = 5 ∨ op = 6 ∨ op = 7 ∨ op = 8 := by omega
  rcases hc with rfl | rfl | rfl | rfl | rfl <;> simp [usesA]
structure InvL (c : List Nd) (ks ko nx : Nat) (objs : List (Nat × Ob)) (s : List Bool × List Int) : Prop where
  hks : ks < nx
  hs : St.look objs ks = some ⟨1, rb s.1⟩
  hl : s.1.length = c.length
  ho : St.look objs ko = growG 1 (rows .i64 s.2)
  hne : ko ≠ ks
  hc : s.2.length + s.1.count false ≤ 1000
  hfr : ∀ k, nx ≤ k → St.look objs k = none
theorem InvL.rekey {c : List Nd} {ks ko nx : Nat} {objs : List (Nat × Ob)} {s : List Bool × List Int} (h : InvL c ks ko nx objs s) : ∃ ko', InvL c ks ko' nx objs s ∧ growD ko' 1 (rows .i64 s.2) = growD ko 1 (rows .i64 s.2) ∧ ((s.2 = [] ∧ ko' = nx + 4) ∨ (s.2 ≠ [] ∧ ko' = ko ∧ ko < nx)) := by
  obtain ⟨h1, h2, h3, h4, h5, h6, h7⟩ := h
  by_cases ho : s.2 = []
  · refine ⟨nx + 4, ⟨h1, h2, h3, ?_, by omega, h6, h7⟩, ?_, .inl ⟨ho, rfl⟩⟩
    · rw [h7 _ (by omega), ho]; rfl
    · rw [ho]; rfl
  · refine ⟨ko, ⟨h1, h2, h3, h4, h5, h6, h7⟩, rfl, .inr ⟨ho, rfl, ?_⟩⟩
    by_cases hlt : ko < nx
    · exact hlt
    · rw [h7 ko (by omega)] at h4
      cases hd : s.2 with
      | nil => exact absurd hd ho
      | cons e r => rw [hd] at h4; cases h4
theorem count_set {l : List Bool} : ∀ {i : Nat}, i < l.length → l.getD i false = false → (l.set i true).count false + 1 = l.count false := by
  induction l with
  | nil => intro i h; simp at h
  | cons b r ih =>
    intro i hi hb
    cases i with
    | zero =>
      simp only [List.getD_cons_zero] at hb
      subst hb
      simp
    | succ i =>
      have := ih (i := i) (by simpa using hi) (by simpa using hb)
      simp only [List.set_cons_succ, List.count_cons]
      omega
end Fm
theorem leaves44a {c : List Nd} {ks ko nx : Nat} {objs : List (Nat × Ob)} {s : List Bool × List Int} {i : Nat} (hI : InvL c ks ko nx objs s) (hi : i < c.length) (hlen : c.length ≤ 1000) (hs : s.1.getD i false = true) :
    CallT Tryd.prog 44 [.sl 6 (ndR c), .int .i64 i, .osl ks 1 c.length, growD ko 1 (rows .i64 s.2)] ⟨nx, objs⟩ (growD ko 1 (rows .i64 s.2)) ⟨nx, objs⟩ := by
  have hlk := hI.hs
  have hl := hI.hl
  have hg := rb_get s.1 (i := i) (by omega)
  rw [hs] at hg
  refine CallT.go_fn mixed Tryd.func44 k44 (by simp) fun hf => ?_
  simp only [Int.reduceToNat, Int.reduceLT, Int.reduceLE, Int.reduceBEq, Int.reduceBNe, St0, argFr, ↓callZ, ↓midZ, ↓unZ, ↓thenW, ↓blockW, ↓opX, ↓opV, ↓pX, ↓pW, ↓putK, ↓putP, ↓atK, ↓normK, ↓postZ, ↓reduceIte, reduceIte, Nat.reduceEqDiff, Nat.reduceAdd, Nat.reduceBEq, Nat.reduceLT, Nat.reduceLeDiff, binW, bodyQ, ressW, resW, ne_eq, forall_const, reduceCtorEq, implies_true, sets, oneAll, setD, rels, fillE, fillD, List.replicate, rowsOf, forall_eq, Nat.reduceMul, ↓zD, zT, hlk, rb_len, hl, hg]
  (repeat refine And.intro (by first | omega | exact ui_nonneg _ | exact Int.natCast_nonneg _ | rfl | exact rows_one' _ _ | exact us_one _ | (intro _ h; cases h; done)) ?_)
  exact .same
namespace Fm
def ndO (p : Nd) : Ob := ⟨6, [[.int .i64 p.op, .int .i64 p.i, .int .i64 p.e, .int .i64 p.g, .int .i64 p.x, .int .i64 p.y]]⟩
def markO (nx ks : Nat) (objs : List (Nat × Ob)) (s : List Bool) (i : Nat) (p : Nd) : List (Nat × Ob) := (nx, ndO p) :: setL objs ks ⟨1, rb (s.set i true)⟩
def leafO (nx ks ko : Nat) (objs : List (Nat × Ob)) (s : List Bool × List Int) (i : Nat) (p : Nd) : List (Nat × Ob) := growO (nx + 1) 1 (rows .i64 (s.2 ++ [(i : Int)])) ++ (nx, ndO p) :: eraseL (setL objs ks ⟨1, rb (s.1.set i true)⟩) ko
theorem InvL.mark {c : List Nd} {ks ko nx : Nat} {objs : List (Nat × Ob)} {s : List Bool × List Int} {i : Nat} (h : InvL c ks ko nx objs s) (hk : (s.2 = [] ∧ ko = nx + 4) ∨ (s.2 ≠ [] ∧ ko < nx)) (hi : i < c.length) (hs : s.1.getD i false = false) (p : Nd) :
    InvL c ks ko (nx + 1) (markO nx ks objs s.1 i p) (s.1.set i true, s.2) ∧ ∀ k, k < nx → k ≠ ks → St.look (markO nx ks objs s.1 i p) k = St.look objs k := by
  obtain ⟨h1, h2, h3, h4, h5, h6, h7⟩ := h
  have hl : ∀ k, k ≠ nx → k ≠ ks → St.look (markO nx ks objs s.1 i p) k = St.look objs k := fun k a b => by
    unfold markO
    rw [look_cons, if_neg (fun e => a e.symm), look_setL, if_neg (fun e => b e.symm)]
  have hct := count_set (l := s.1) (i := i) (by omega) hs
  refine ⟨⟨by omega, ?_, by simpa using h3, ?_, h5, by simp only; omega, fun k hk => ?_⟩, fun k a b => hl k (by omega) b⟩
  · unfold markO
    rw [look_cons, if_neg (by omega), look_setL, if_pos rfl, h2]; rfl
  · rw [hl ko (by omega) h5]; exact h4
  · rw [hl k (by omega) (by omega)]; exact h7 k (by omega)
theorem InvL.leaf {c : List Nd} {ks ko nx : Nat} {objs : List (Nat × Ob)} {s : List Bool × List Int} {i : Nat} (h : InvL c ks ko nx objs s) (hk : (s.2 = [] ∧ ko = nx + 4) ∨ (s.2 ≠ [] ∧ ko < nx)) (hi : i < c.length) (hs : s.1.getD i false = false) (p : Nd) :
    InvL c ks (nx + 1) (nx + 1 + 1) (leafO nx ks ko objs s i p) (s.1.set i true, s.2 ++ [(i : Int)]) ∧ ∀ k, k < nx → k ≠ ks → k ≠ ko → St.look (leafO nx ks ko objs s i p) k = St.look objs k := by
  obtain ⟨h1, h2, h3, h4, h5, h6, h7⟩ := h
  have hl : ∀ k, k ≠ nx + 1 → k ≠ nx → k ≠ ks → k ≠ ko → St.look (leafO nx ks ko objs s i p) k = St.look objs k := fun k a b d e => by
    unfold leafO
    rw [look_growO, if_neg (fun e => a e.symm), look_cons, if_neg (fun e => b e.symm), look_eraseL, if_neg (fun q => e q.symm), look_setL, if_neg (fun e => d e.symm)]
  have hct := count_set (l := s.1) (i := i) (by omega) hs
  refine ⟨⟨by omega, ?_, by simpa using h3, ?_, by omega, by simp only [List.length_append, List.length_singleton]; omega, fun k hk2 => ?_⟩, fun k a b d => hl k (by omega) (by omega) b d⟩
  · unfold leafO
    rw [look_growO, if_neg (by omega), look_cons, if_neg (by omega), look_eraseL, if_neg (fun e => h5 e), look_setL, if_pos rfl, h2]; rfl
  · unfold leafO
    rw [look_growO, if_pos rfl]
    cases hr : rows .i64 (s.2 ++ [(i : Int)]) with
    | nil => simp [rows] at hr
    | cons e r => rfl
  · unfold leafO
    rw [look_growO, if_neg (by omega), look_cons, if_neg (by omega), look_eraseL]
    split
    · rfl
    · rw [look_setL, if_neg (by omega)]; exact h7 k (by omega)
end Fm
theorem leaves44b {c : List Nd} {ks ko nx : Nat} {objs : List (Nat × Ob)} {s : List Bool × List Int} {i : Nat} {p : Nd} (hI : InvL c ks ko nx objs s) (hk : (s.2 = [] ∧ ko = nx + 4) ∨ (s.2 ≠ [] ∧ ko < nx)) (hi : i < c.length) (hlen : c.length ≤ 1000) (hs : s.1.getD i false = false)
    (hgp : c.getD i nd0 = p) (hp : p.op = 3 ∨ 8 < p.op) :
    CallT Tryd.prog 44 [.sl 6 (ndR c), .int .i64 i, .osl ks 1 c.length, growD ko 1 (rows .i64 s.2)] ⟨nx, objs⟩ (growD (nx + 1) 1 (rows .i64 (s.2 ++ [(i : Int)]))) ⟨nx + 1 + 1, leafO nx ks ko objs s i p⟩ := by
  have hlk := hI.hs
  have hl := hI.hl
  have ho := hI.ho
  have hks := hI.hks
  have hc := hI.hc
  have hne := hI.hne
  have hne2 : ¬ ks = ko := fun e => hne e.symm
  have hg := rb_get s.1 (i := i) (by omega)
  rw [hs] at hg
  have hgc := ndR_get c hi
  rw [hgp] at hgc
  have x1 : ¬ nx = ks := by omega
  have x2 : ¬ nx = ko := by omega
  have x3 : ¬ ks = nx := by omega
  unfold leafO ndO
  refine CallT.go_fn mixed Tryd.func44 k44 (by simp) fun hf => ?_
  by_cases h3 : p.op = 3
  · have e3 : (p.op == 3) = true := by simpa using h3
    simp only [Int.reduceToNat, Int.reduceLT, Int.reduceLE, Int.reduceBEq, Int.reduceBNe, St0, argFr, ↓callZ, ↓midZ, ↓unZ, ↓thenW, ↓blockW, ↓opX, ↓opV, ↓pX, ↓pW, ↓putK, ↓putP, ↓atK, ↓normK, ↓postZ, ↓reduceIte, reduceIte, Nat.reduceEqDiff, Nat.reduceAdd, Nat.reduceBEq, Nat.reduceLT, Nat.reduceLeDiff, binW, bodyQ, ressW, resW, ne_eq, forall_const, reduceCtorEq, implies_true, sets, oneAll, setD, rels, fillE, fillD, List.replicate, rowsOf, forall_eq, Nat.reduceMul, ↓zD, zT, hlk, rb_len, hl, hg, ndR_len, hgc, Nd.row, e3, x1, x2, x3, look_setL, ho, hne, hne2, rb_set, set1]
    (repeat refine And.intro (by first | omega | exact ui_nonneg _ | exact Int.natCast_nonneg _ | rfl | exact rows_one' _ _ | exact us_one _ | (intro _ h; cases h; done)) ?_)
    exact .same
  · have e3 : (p.op == 3) = false := by simpa using h3
    have e8 : decide (p.op ≤ 8) = false := by rw [decide_eq_false_iff_not]; omega
    simp only [Int.reduceToNat, Int.reduceLT, Int.reduceLE, Int.reduceBEq, Int.reduceBNe, St0, argFr, ↓callZ, ↓midZ, ↓unZ, ↓thenW, ↓blockW, ↓opX, ↓opV, ↓pX, ↓pW, ↓putK, ↓putP, ↓atK, ↓normK, ↓postZ, ↓reduceIte, reduceIte, Nat.reduceEqDiff, Nat.reduceAdd, Nat.reduceBEq, Nat.reduceLT, Nat.reduceLeDiff, binW, bodyQ, ressW, resW, ne_eq, forall_const, reduceCtorEq, implies_true, sets, oneAll, setD, rels, fillE, fillD, List.replicate, rowsOf, forall_eq, Nat.reduceMul, ↓zD, zT, hlk, rb_len, hl, hg, ndR_len, hgc, Nd.row, e3, x1, x2, x3, look_setL, ho, hne, hne2, rb_set, set1]
    (repeat refine And.intro (by first | omega | exact ui_nonneg _ | exact Int.natCast_nonneg _ | rfl | exact rows_one' _ _ | exact us_one _ | (intro _ h; cases h; done)) ?_)
    refine .go (CallT.of_runs (isProp81 p.op) rfl) ?_
    simp only [Int.reduceToNat, Int.reduceLT, Int.reduceLE, Int.reduceBEq, Int.reduceBNe, St0, argFr, ↓callZ, ↓midZ, ↓unZ, ↓thenW, ↓blockW, ↓opX, ↓opV, ↓pX, ↓pW, ↓putK, ↓putP, ↓atK, ↓normK, ↓postZ, ↓reduceIte, reduceIte, Nat.reduceEqDiff, Nat.reduceAdd, Nat.reduceBEq, Nat.reduceLT, Nat.reduceLeDiff, binW, bodyQ, ressW, resW, ne_eq, forall_const, reduceCtorEq, implies_true, sets, oneAll, setD, rels, fillE, fillD, List.replicate, rowsOf, forall_eq, Nat.reduceMul, ↓zD, zT, e8, x1, x2, x3, look_setL, ho, hne, hne2]
    (repeat refine And.intro (by first | omega | exact ui_nonneg _ | exact Int.natCast_nonneg _ | rfl | exact rows_one' _ _ | exact us_one _ | (intro _ h; cases h; done)) ?_)
    exact .same
theorem leaves44c {c : List Nd} {ks ko nx : Nat} {objs : List (Nat × Ob)} {s : List Bool × List Int} {i : Nat} {p : Nd} (hI : InvL c ks ko nx objs s) (hi : i < c.length) (hlen : c.length ≤ 1000) (hs : s.1.getD i false = false)
    (hgp : c.getD i nd0 = p) (h3 : p.op ≠ 3) (h4 : p.op < 4) :
    CallT Tryd.prog 44 [.sl 6 (ndR c), .int .i64 i, .osl ks 1 c.length, growD ko 1 (rows .i64 s.2)] ⟨nx, objs⟩ (growD ko 1 (rows .i64 s.2)) ⟨nx + 1, markO nx ks objs s.1 i p⟩ := by
  have hlk := hI.hs
  have hl := hI.hl
  have hks := hI.hks
  have hg := rb_get s.1 (i := i) (by omega)
  rw [hs] at hg
  have hgc := ndR_get c hi
  rw [hgp] at hgc
  have x1 : ¬ nx = ks := by omega
  have x3 : ¬ ks = nx := by omega
  have e3 : (p.op == 3) = false := by simpa using h3
  have e8 : decide (p.op ≤ 8) = true := by rw [decide_eq_true_iff]; omega
  have e4 : ¬ (4 : Int) ≤ p.op := by omega
  have e5 : ¬ (5 : Int) ≤ p.op := by omega
  unfold markO ndO
  refine CallT.go_fn mixed Tryd.func44 k44 (by simp) fun hf => ?_
  simp only [Int.reduceToNat, Int.reduceLT, Int.reduceLE, Int.reduceBEq, Int.reduceBNe, St0, argFr, ↓callZ, ↓midZ, ↓unZ, ↓thenW, ↓blockW, ↓opX, ↓opV, ↓pX, ↓pW, ↓putK, ↓putP, ↓atK, ↓normK, ↓postZ, ↓reduceIte, reduceIte, Nat.reduceEqDiff, Nat.reduceAdd, Nat.reduceBEq, Nat.reduceLT, Nat.reduceLeDiff, binW, bodyQ, ressW, resW, ne_eq, forall_const, reduceCtorEq, implies_true, sets, oneAll, setD, rels, fillE, fillD, List.replicate, rowsOf, forall_eq, Nat.reduceMul, ↓zD, zT, hlk, rb_len, hl, hg, ndR_len, hgc, Nd.row, e3, x1, x3, look_setL, rb_set, set1]
  (repeat refine And.intro (by first | omega | exact ui_nonneg _ | exact Int.natCast_nonneg _ | rfl | exact rows_one' _ _ | exact us_one _ | (intro _ h; cases h; done)) ?_)
  refine .go (CallT.of_runs (isProp81 p.op) rfl) ?_
  simp only [Int.reduceToNat, Int.reduceLT, Int.reduceLE, Int.reduceBEq, Int.reduceBNe, St0, argFr, ↓callZ, ↓midZ, ↓unZ, ↓thenW, ↓blockW, ↓opX, ↓opV, ↓pX, ↓pW, ↓putK, ↓putP, ↓atK, ↓normK, ↓postZ, ↓reduceIte, reduceIte, Nat.reduceEqDiff, Nat.reduceAdd, Nat.reduceBEq, Nat.reduceLT, Nat.reduceLeDiff, binW, bodyQ, ressW, resW, ne_eq, forall_const, reduceCtorEq, implies_true, sets, oneAll, setD, rels, fillE, fillD, List.replicate, rowsOf, forall_eq, Nat.reduceMul, ↓zD, zT, e8, e4, e5]
  (repeat refine And.intro (by first | omega | exact ui_nonneg _ | exact Int.natCast_nonneg _ | rfl | exact rows_one' _ _ | exact us_one _ | (intro _ h; cases h; done)) ?_)
  exact .same
theorem leaves44d {c : List Nd} {ks ko nx : Nat} {objs : List (Nat × Ob)} {s : List Bool × List Int} {i : Nat} {p : Nd} (hI : InvL c ks ko nx objs s) (hi : i < c.length) (hlen : c.length ≤ 1000) (hs : s.1.getD i false = false)
    (hgp : c.getD i nd0 = p) (h4 : p.op = 4) {d : D} {nx1 : Nat} {objs1 : List (Nat × Ob)}
    (hcall : CallT Tryd.prog 44 [.sl 6 (ndR c), .int .i64 p.x, .osl ks 1 c.length, growD ko 1 (rows .i64 s.2)] ⟨nx + 1, markO nx ks objs s.1 i p⟩ d ⟨nx1, objs1⟩) (hN : St.look objs1 nx = some (ndO p)) :
    CallT Tryd.prog 44 [.sl 6 (ndR c), .int .i64 i, .osl ks 1 c.length, growD ko 1 (rows .i64 s.2)] ⟨nx, objs⟩ d ⟨nx1, objs1⟩ := by
  have hlk := hI.hs
  have hl := hI.hl
  have hks := hI.hks
  have hg := rb_get s.1 (i := i) (by omega)
  rw [hs] at hg
  have hgc := ndR_get c hi
  rw [hgp] at hgc
  have x1 : ¬ nx = ks := by omega
  have x3 : ¬ ks = nx := by omega
  have e3 : (p.op == 3) = false := by rw [h4]; rfl
  have e8 : decide (p.op ≤ 8) = true := by rw [h4]; rfl
  have e4 : (4 : Int) ≤ p.op := by omega
  have e5 : ¬ (5 : Int) ≤ p.op := by omega
  unfold markO at hcall
  unfold ndO at hcall hN
  refine CallT.go_fn mixed Tryd.func44 k44 (by simp) fun hf => ?_
  simp only [Int.reduceToNat, Int.reduceLT, Int.reduceLE, Int.reduceBEq, Int.reduceBNe, St0, argFr, ↓callZ, ↓midZ, ↓unZ, ↓thenW, ↓blockW, ↓opX, ↓opV, ↓pX, ↓pW, ↓putK, ↓putP, ↓atK, ↓normK, ↓postZ, ↓reduceIte, reduceIte, Nat.reduceEqDiff, Nat.reduceAdd, Nat.reduceBEq, Nat.reduceLT, Nat.reduceLeDiff, binW, bodyQ, ressW, resW, ne_eq, forall_const, reduceCtorEq, implies_true, sets, oneAll, setD, rels, fillE, fillD, List.replicate, rowsOf, forall_eq, Nat.reduceMul, ↓zD, zT, hlk, rb_len, hl, hg, ndR_len, hgc, Nd.row, e3, x1, x3, look_setL, rb_set, set1]
  (repeat refine And.intro (by first | omega | exact ui_nonneg _ | exact Int.natCast_nonneg _ | rfl | exact rows_one' _ _ | exact us_one _ | (intro _ h; cases h; done)) ?_)
  refine .go (CallT.of_runs (isProp81 p.op) rfl) ?_
  simp only [Int.reduceToNat, Int.reduceLT, Int.reduceLE, Int.reduceBEq, Int.reduceBNe, St0, argFr, ↓callZ, ↓midZ, ↓unZ, ↓thenW, ↓blockW, ↓opX, ↓opV, ↓pX, ↓pW, ↓putK, ↓putP, ↓atK, ↓normK, ↓postZ, ↓reduceIte, reduceIte, Nat.reduceEqDiff, Nat.reduceAdd, Nat.reduceBEq, Nat.reduceLT, Nat.reduceLeDiff, binW, bodyQ, ressW, resW, ne_eq, forall_const, reduceCtorEq, implies_true, sets, oneAll, setD, rels, fillE, fillD, List.replicate, rowsOf, forall_eq, Nat.reduceMul, ↓zD, zT, e8, e4]
  (repeat refine And.intro (by first | omega | exact ui_nonneg _ | exact Int.natCast_nonneg _ | rfl | exact rows_one' _ _ | exact us_one _ | (intro _ h; cases h; done)) ?_)
  refine .go hcall ?_
  simp only [Int.reduceToNat, Int.reduceLT, Int.reduceLE, Int.reduceBEq, Int.reduceBNe, St0, argFr, ↓callZ, ↓midZ, ↓unZ, ↓thenW, ↓blockW, ↓opX, ↓opV, ↓pX, ↓pW, ↓putK, ↓putP, ↓atK, ↓normK, ↓postZ, ↓reduceIte, reduceIte, Nat.reduceEqDiff, Nat.reduceAdd, Nat.reduceBEq, Nat.reduceLT, Nat.reduceLeDiff, binW, bodyQ, ressW, resW, ne_eq, forall_const, reduceCtorEq, implies_true, sets, oneAll, setD, rels, fillE, fillD, List.replicate, rowsOf, forall_eq, Nat.reduceMul, ↓zD, zT, hN, e5]
  (repeat refine And.intro (by first | omega | exact ui_nonneg _ | exact Int.natCast_nonneg _ | rfl | exact rows_one' _ _ | exact us_one _ | (intro _ h; cases h; done)) ?_)
  exact .same
theorem leaves44e {c : List Nd} {ks ko nx : Nat} {objs : List (Nat × Ob)} {s : List Bool × List Int} {i : Nat} {p : Nd} (hI : InvL c ks ko nx objs s) (hi : i < c.length) (hlen : c.length ≤ 1000) (hs : s.1.getD i false = false)
    (hgp : c.getD i nd0 = p) (h5 : 5 ≤ p.op) (h8 : p.op ≤ 8) {d : D} {nx1 : Nat} {objs1 : List (Nat × Ob)}
    (hcall : CallT Tryd.prog 44 [.sl 6 (ndR c), .int .i64 p.x, .osl ks 1 c.length, growD ko 1 (rows .i64 s.2)] ⟨nx + 1, markO nx ks objs s.1 i p⟩ d ⟨nx1, objs1⟩) (hN : St.look objs1 nx = some (ndO p))
    {d2 : D} {nx2 : Nat} {objs2 : List (Nat × Ob)} (hcall2 : CallT Tryd.prog 44 [.sl 6 (ndR c), .int .i64 p.y, .osl ks 1 c.length, d] ⟨nx1, objs1⟩ d2 ⟨nx2, objs2⟩) :
    CallT Tryd.prog 44 [.sl 6 (ndR c), .int .i64 i, .osl ks 1 c.length, growD ko 1 (rows .i64 s.2)] ⟨nx, objs⟩ d2 ⟨nx2, objs2⟩ := by
  have hlk := hI.hs
  have hl := hI.hl
  have hks := hI.hks
  have hg := rb_get s.1 (i := i) (by omega)
  rw [hs] at hg
  have hgc := ndR_get c hi
  rw [hgp] at hgc
  have x1 : ¬ nx = ks := by omega
  have x3 : ¬ ks = nx := by omega
  have e3 : (p.op == 3) = false := by rw [beq_eq_false_iff_ne]; omega
  have e8 : decide (p.op ≤ 8) = true := decide_eq_true h8
  have e4 : (4 : Int) ≤ p.op := by omega
  unfold markO at hcall
  unfold ndO at hcall hN
  refine CallT.go_fn mixed Tryd.func44 k44 (by simp) fun hf => ?_
  simp only [Int.reduceToNat, Int.reduceLT, Int.reduceLE, Int.reduceBEq, Int.reduceBNe, St0, argFr, ↓callZ, ↓midZ, ↓unZ, ↓thenW, ↓blockW, ↓opX, ↓opV, ↓pX, ↓pW, ↓putK, ↓putP, ↓atK, ↓normK, ↓postZ, ↓reduceIte, reduceIte, Nat.reduceEqDiff, Nat.reduceAdd, Nat.reduceBEq, Nat.reduceLT, Nat.reduceLeDiff, binW, bodyQ, ressW, resW, ne_eq, forall_const, reduceCtorEq, implies_true, sets, oneAll, setD, rels, fillE, fillD, List.replicate, rowsOf, forall_eq, Nat.reduceMul, ↓zD, zT, hlk, rb_len, hl, hg, ndR_len, hgc, Nd.row, e3, x1, x3, look_setL, rb_set, set1]
  (repeat refine And.intro (by first | omega | exact ui_nonneg _ | exact Int.natCast_nonneg _ | rfl | exact rows_one' _ _ | exact us_one _ | (intro _ h; cases h; done)) ?_)
  refine .go (CallT.of_runs (isProp81 p.op) rfl) ?_
  simp only [Int.reduceToNat, Int.reduceLT, Int.reduceLE, Int.reduceBEq, Int.reduceBNe, St0, argFr, ↓callZ, ↓midZ, ↓unZ, ↓thenW, ↓blockW, ↓opX, ↓opV, ↓pX, ↓pW, ↓putK, ↓putP, ↓atK, ↓normK, ↓postZ, ↓reduceIte, reduceIte, Nat.reduceEqDiff, Nat.reduceAdd, Nat.reduceBEq, Nat.reduceLT, Nat.reduceLeDiff, binW, bodyQ, ressW, resW, ne_eq, forall_const, reduceCtorEq, implies_true, sets, oneAll, setD, rels, fillE, fillD, List.replicate, rowsOf, forall_eq, Nat.reduceMul, ↓zD, zT, e8, e4]
  (repeat refine And.intro (by first | omega | exact ui_nonneg _ | exact Int.natCast_nonneg _ | rfl | exact rows_one' _ _ | exact us_one _ | (intro _ h; cases h; done)) ?_)
  refine .go hcall ?_
  simp only [Int.reduceToNat, Int.reduceLT, Int.reduceLE, Int.reduceBEq, Int.reduceBNe, St0, argFr, ↓callZ, ↓midZ, ↓unZ, ↓thenW, ↓blockW, ↓opX, ↓opV, ↓pX, ↓pW, ↓putK, ↓putP, ↓atK, ↓normK, ↓postZ, ↓reduceIte, reduceIte, Nat.reduceEqDiff, Nat.reduceAdd, Nat.reduceBEq, Nat.reduceLT, Nat.reduceLeDiff, binW, bodyQ, ressW, resW, ne_eq, forall_const, reduceCtorEq, implies_true, sets, oneAll, setD, rels, fillE, fillD, List.replicate, rowsOf, forall_eq, Nat.reduceMul, ↓zD, zT, hN, h5]
  (repeat refine And.intro (by first | omega | exact ui_nonneg _ | exact Int.natCast_nonneg _ | rfl | exact rows_one' _ _ | exact us_one _ | (intro _ h; cases h; done)) ?_)
  refine .go hcall2 ?_
  simp only [Int.reduceToNat, Int.reduceLT, Int.reduceLE, Int.reduceBEq, Int.reduceBNe, St0, argFr, ↓callZ, ↓midZ, ↓unZ, ↓thenW, ↓blockW, ↓opX, ↓opV, ↓pX, ↓pW, ↓putK, ↓putP, ↓atK, ↓normK, ↓postZ, ↓reduceIte, reduceIte, Nat.reduceEqDiff, Nat.reduceAdd, Nat.reduceBEq, Nat.reduceLT, Nat.reduceLeDiff, binW, bodyQ, ressW, resW, ne_eq, forall_const, reduceCtorEq, implies_true, sets, oneAll, setD, rels, fillE, fillD, List.replicate, rowsOf, forall_eq, Nat.reduceMul, ↓zD, zT]
  exact .same
theorem leaves44 {c : List Nd} (hv : validL c) (hlen : c.length ≤ 1000) : ∀ (n : Nat) {ks ko i nx : Nat} {objs : List (Nat × Ob)} {s : List Bool × List Int}, i < n → i < c.length → InvL c ks ko nx objs s →
    ∃ nx' objs' ko', InvL c ks ko' nx' objs' (leavesS c n i s) ∧ nx ≤ nx' ∧ ((leavesS c n i s).2 = [] ∨ ko' = ko ∨ nx ≤ ko') ∧ (∀ k, k < nx → k ≠ ks → k ≠ ko → St.look objs' k = St.look objs k) ∧
      CallT Tryd.prog 44 [.sl 6 (ndR c), .int .i64 i, .osl ks 1 c.length, growD ko 1 (rows .i64 s.2)] ⟨nx, objs⟩ (growD ko' 1 (rows .i64 (leavesS c n i s).2)) ⟨nx', objs'⟩
  | 0, ks, ko, i, nx, objs, s, h, _, _ => by omega
  | n + 1, ks, ko, i, nx, objs, s, h, hi, hI => by
    unfold leavesS
    cases hs : s.1.getD i false
    case true =>
      rw [if_pos rfl]
      exact ⟨nx, objs, ko, hI, Nat.le_refl _, .inr (.inl rfl), fun _ _ _ _ => rfl, leaves44a hI hi hlen hs⟩
    rw [if_neg (by simp)]
    obtain ⟨ko0, hI0, hkd, hk0⟩ := hI.rekey
    rw [← hkd]
    have hko : s.2 = [] ∨ ko0 = ko := by
      rcases hk0 with ⟨h1, _⟩ | ⟨_, h1, _⟩
      · exact .inl h1
      · exact .inr h1
    have hk1 : (s.2 = [] ∧ ko0 = nx + 4) ∨ (s.2 ≠ [] ∧ ko0 < nx) := by
      rcases hk0 with ⟨h1, h2⟩ | ⟨h1, h2, h3⟩
      · exact .inl ⟨h1, h2⟩
      · exact .inr ⟨h1, by omega⟩
    have hfrk : ∀ k, k < nx → k ≠ ko → k ≠ ko0 := by
      intro k a b
      rcases hk0 with ⟨_, h2⟩ | ⟨_, h2, _⟩
      · omega
      · omega
    have hnd := hv i hi
    have hops := node_xy hnd
    obtain ⟨ox, oy⟩ := node_ops hnd
    generalize hgp : c.getD i nd0 = p at hnd hops ox oy
    by_cases hp : p.op = 3 ∨ 8 < p.op
    · rw [if_pos hp]
      obtain ⟨e1, e2⟩ := hI0.leaf hk1 hi hs p
      exact ⟨_, _, _, e1, by omega, .inr (.inr (by omega)), fun k a b d => e2 k a b (hfrk k a d), leaves44b hI0 hk1 hi hlen hs hgp hp⟩
    rw [if_neg hp]
    obtain ⟨m1, m2⟩ := hI0.mark hk1 hi hs p
    by_cases h4 : 4 ≤ p.op
    case neg =>
      simp only [if_neg h4, if_neg (show ¬ 5 ≤ p.op by omega)]
      refine ⟨_, _, ko0, m1, by omega, ?_, fun k a b d => m2 k a b, leaves44c hI0 hi hlen hs hgp (by omega) (by omega)⟩
      rcases hko with h | h
      · exact .inl h
      · exact .inr (.inl h)
    obtain ⟨ux, uy⟩ := uses_mid h4 (by omega)
    have hx := ox ux
    obtain ⟨nx1, objs1, ko1, I1, l1, q1, fr1, c1⟩ := leaves44 hv hlen n (i := p.x.toNat) (by omega) (by omega) m1
    rw [Int.toNat_of_nonneg hx.1] at c1
    have hN : St.look objs1 nx = some (ndO p) := by
      have hks := hI.hks
      rw [fr1 nx (by omega) (by omega) (by omega)]
      unfold markO
      rw [look_cons, if_pos rfl]
    simp only [if_pos h4]
    generalize leavesS c n p.x.toNat (s.1.set i true, s.2) = s1 at I1 q1 c1
    by_cases h5 : 5 ≤ p.op
    case neg =>
      rw [if_neg h5]
      refine ⟨nx1, objs1, ko1, I1, by omega, ?_, fun k a b d => ?_, leaves44d hI0 hi hlen hs hgp (by omega) c1 hN⟩
      · rcases q1 with q | q | q
        · exact .inl q
        · rcases hk0 with ⟨_, h2⟩ | ⟨_, h2, _⟩
          · exact .inr (.inr (by omega))
          · exact .inr (.inl (by omega))
        · exact .inr (.inr (by omega))
      · rw [fr1 k (by omega) b (hfrk k a d), m2 k a b]
    rw [if_pos h5]
    have hy := oy (uy h5)
    obtain ⟨ko2, I2, kd2, k2⟩ := I1.rekey
    obtain ⟨nx3, objs3, ko3, I3, l3, q3, fr3, c3⟩ := leaves44 hv hlen n (i := p.y.toNat) (by omega) (by omega) I2
    rw [Int.toNat_of_nonneg hy.1, kd2] at c3
    generalize leavesS c n p.y.toNat s1 = s3 at I3 q3 c3
    have hk2 : ∀ k, k < nx → k ≠ ko → k ≠ ko2 := by
      intro k a b
      rcases k2 with ⟨_, h2⟩ | ⟨h1, h2, _⟩
      · omega
      · rcases q1 with q | q | q
        · exact absurd q h1
        · have := hfrk k a b; omega
        · omega
    refine ⟨nx3, objs3, ko3, I3, by omega, ?_, fun k a b d => ?_, leaves44e hI0 hi hlen hs hgp h5 (by omega) c1 hN c3⟩
    · rcases q3 with q | q | q
      · exact .inl q
      · rcases k2 with ⟨_, h2⟩ | ⟨h1, h2, _⟩
        · exact .inr (.inr (by omega))
        · rcases q1 with q1 | q1 | q1
          · exact absurd q1 h1
          · rcases hk0 with ⟨_, h2⟩ | ⟨_, h2, _⟩
            · exact .inr (.inr (by omega))
            · exact .inr (.inl (by omega))
          · exact .inr (.inr (by omega))
      · exact .inr (.inr (by omega))
    · rw [fr3 k (by omega) b (hk2 k a d), fr1 k (by omega) b (hfrk k a d), m2 k a b]
end Go.Pd
