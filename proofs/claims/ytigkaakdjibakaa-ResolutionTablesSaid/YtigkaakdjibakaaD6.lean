/- Resolution: contract: the search for a refutation, walked. -/
import Derived.Test.YtigkaakdjibakaaD5
set_option linter.unusedSectionVars false
set_option linter.unusedVariables false
set_option linter.unusedSimpArgs false
set_option linter.defProp false
set_option maxRecDepth 20000
namespace Go.Pd
open Go Go.Proofs
open Rs
namespace Rs
def stopL (s : RS) (a y : Int) : Prop := a < 0 ∨ y ∉ (s.ls.getD a.toNat ln0).cl
instance (s : RS) (a y : Int) : Decidable (stopL s a y) := by unfold stopL; infer_instance
/-- The state holds the lines, so named. -/
structure InvK (n : Int) (l : List (List Int)) (nx : Nat) (objs : List (Nat × Ob)) (key : Nat) (s : RS) : Prop where
  hn : 2 ≤ nx
  hk : 2 ≤ key
  hb : St.look objs 1 = some ⟨4, [[.int .i64 n, .sl 1 (rl l), growD key 4 (lnR s.ls), .mref 0]]⟩
  hl : St.look objs key = growG 4 (lnR s.ls)
  hm : St.look objs 0 = some ⟨0, mrow .i64 (mo s.us)⟩
/-- What follows when no clause is false. -/
def TailR (P : Program) (n : Nat) (l : List (List Int)) (idx v : Nat) (σ : St) (d : D) (σ' : St) : Prop :=
  (idx = n ∧ d = .int .i64 (-1) ∧ σ' = σ) ∨ (idx < n ∧ ∃ a nx1 objs1 key1 s1, CallT P 55 [.ref 1 4 0 0, .int .i64 (idx + 1 : Nat), .int .i64 v] σ (.int .i64 a) ⟨nx1, objs1⟩ ∧ InvK n l nx1 objs1 key1 s1 ∧ a < s1.ls.length ∧
    ((stopL s1 a (idx + 1 : Nat) ∧ d = .int .i64 a ∧ σ' = ⟨nx1, objs1⟩) ∨ (¬ stopL s1 a (idx + 1 : Nat) ∧ ∃ b nx2 objs2 key2 s2, CallT P 55 [.ref 1 4 0 0, .int .i64 (idx + 1 : Nat), .int .i64 (v + 2 ^ idx : Nat)] ⟨nx1, objs1⟩ (.int .i64 b) ⟨nx2, objs2⟩ ∧ InvK n l nx2 objs2 key2 s2 ∧ b < s2.ls.length ∧ s1.ls.length ≤ s2.ls.length ∧
      ((stopL s2 b (-idx - 1) ∧ d = .int .i64 b ∧ σ' = ⟨nx2, objs2⟩) ∨ (¬ stopL s2 b (-idx - 1) ∧ s2.ls.length ≤ 90000 ∧ d = .int .i64 s2.ls.length ∧ σ' = addSt n l nx2 objs2 key2 (s2.ls ++ [⟨(resolveA (s2.ls.getD a.toNat ln0).cl (s2.ls.getD b.toNat ln0).cl idx).1, a, b, idx⟩]))))))
theorem all_snoc {f : Int → Bool} {c : List Int} {j : Nat} (h : j < c.length) : (c.take (j + 1)).all f = ((c.take j).all f && f (c.getD j 0)) := by
  rw [take_snoc (d := 0) h, List.all_append]; simp
theorem growD_osl {key : Nat} {ls : List Ln} (h : ls ≠ []) : growD key 4 (lnR ls) = .osl key 4 ls.length := by
  rw [growD_ne (by simpa [lnR] using h), lnR_len]
theorem growG_some {ls : List Ln} (h : ls ≠ []) : growG 4 (lnR ls) = some ⟨4, lnR ls⟩ := by
  cases hh : lnR ls with
  | nil => simp [lnR] at hh; exact absurd hh h
  | cons e r => rfl
end Rs
theorem walk55 {n : Nat} {l : List (List Int)} (hc : checkC n l = 0) {idx v : Nat} {nx : Nat} {objs : List (Nat × Ob)} {key : Nat} {s : RS} {d : D} {σ' : St} (hidx : idx ≤ n) (hv : v < 2 ^ idx) (hI : InvK n l nx objs key s)
    (h : (∃ i, ffalse idx v l 0 = some i ∧ CallT Try.prog 73 [.ref 1 4 0 0, .int .i64 i] ⟨nx, objs⟩ d σ') ∨ (ffalse idx v l 0 = none ∧ TailR Try.prog n l idx v ⟨nx, objs⟩ d σ')) :
    CallT Try.prog 55 [.ref 1 4 0 0, .int .i64 idx, .int .i64 v] ⟨nx, objs⟩ d σ' := by
  have hok := check_lits hc
  obtain ⟨c1, c2, c3, c4⟩ := checkC_zero hc
  have hlit : ∀ c ∈ l, ∀ x ∈ c, litOk n x = true := fun c hcl x hx => ((normE_zero.1 (c4 c hcl)).1 x hx).1
  have hv12 : v < 4096 := Nat.lt_of_lt_of_le hv (pow12 (by omega))
  obtain ⟨hn, hk, hb, hkk, hm⟩ := hI
  refine CallT.go_fn mixed Try.func55 k55 (by simp) fun hf => ?_
  simp only [Int.reduceToNat, Int.reduceLT, Int.reduceLE, Int.reduceBEq, Int.reduceBNe, St0, argFr, ↓thenW, ↓blockW, ↓opX, ↓opV, ↓pX, ↓pW, ↓putK, ↓putP, ↓atK, ↓normK, ↓postZ, ↓reduceIte, reduceIte, Nat.reduceEqDiff, Nat.reduceAdd, Nat.reduceBEq, Nat.reduceLT, Nat.reduceLeDiff, binW, bodyQ, ressW, resW, ne_eq, forall_const, reduceCtorEq, implies_true, sets, oneAll, setD, rels, fillE, fillD, List.replicate, rowsOf, forall_eq, Nat.reduceMul, ↓zD, zT, hb]
  refine wpS_loop (fun k : Nat => [(23, .int .i64 k), (22, .int .i64 l.length), (21, .sl 1 (rl l)), (2, .int .i64 v), (1, .int .i64 idx), (0, .ref 1 4 0 0)]) (fun _ => ⟨nx, objs⟩) (fun k => k ≤ l.length ∧ ffalse idx v l 0 = ffalse idx v (l.drop k) k) (fun k => l.length - k) 0 ⟨Nat.zero_le _, rfl⟩ ?_ ?_
  · (refine Weak.same ?_; simp [sameF, Fr.get, rl_len])
  intro k ⟨hk1, hi⟩
  refine wpS_go mixed ?_
  by_cases hh : k < l.length
  case neg =>
    have hd : ¬ ((k : Int) < (l.length : Int)) := by omega
    rw [List.drop_eq_nil_of_le (by omega), ffalse] at hi
    rcases h with ⟨i, h1, _⟩ | ⟨_, ht⟩
    · rw [h1] at hi; cases hi
    have ei : IntKind.i64.wrap ((idx : Int) + 1) = ((idx + 1 : Nat) : Int) := by rw [wrap_i64 (by omega)]; omega
    have ei2 : IntKind.i64.wrap (0 - (idx : Int)) = -(idx : Int) := negw (by omega)
    have ei3 : IntKind.i64.wrap (-(idx : Int) - 1) = -(idx : Int) - 1 := wrap_i64 (by omega)
    rcases ht with ⟨e1, e2, e3⟩ | ⟨e1, a, nx1, objs1, key1, s1, hcall1, ⟨hn1, hk1', hb1, hl1, hm1⟩, ha, hrest⟩
    · subst e1 e2 e3
      have en : ((idx : Int) == (idx : Int)) = true := by simp
      simp only [Int.reduceToNat, Int.reduceLT, Int.reduceLE, Int.reduceBEq, Int.reduceBNe, St0, argFr, ↓thenW, ↓blockW, ↓opX, ↓opV, ↓pX, ↓pW, ↓putK, ↓putP, ↓atK, ↓normK, ↓postZ, ↓reduceIte, reduceIte, Nat.reduceEqDiff, Nat.reduceAdd, Nat.reduceBEq, Nat.reduceLT, Nat.reduceLeDiff, binW, bodyQ, ressW, resW, ne_eq, forall_const, reduceCtorEq, implies_true, sets, oneAll, setD, rels, fillE, fillD, List.replicate, rowsOf, forall_eq, Nat.reduceMul, ↓zD, zT, hd, hb, en]
      exact .same
    have en : ((idx : Int) == (n : Int)) = false := by
      have : (idx : Int) ≠ n := by omega
      simpa using this
    by_cases ha0 : a < 0
    · rcases hrest with ⟨_, e2, e3⟩ | ⟨hs, _⟩
      · subst e2 e3
        simp only [Int.reduceToNat, Int.reduceLT, Int.reduceLE, Int.reduceBEq, Int.reduceBNe, St0, argFr, ↓thenW, ↓blockW, ↓opX, ↓opV, ↓pX, ↓pW, ↓putK, ↓putP, ↓atK, ↓normK, ↓postZ, ↓reduceIte, reduceIte, Nat.reduceEqDiff, Nat.reduceAdd, Nat.reduceBEq, Nat.reduceLT, Nat.reduceLeDiff, binW, bodyQ, ressW, resW, ne_eq, forall_const, reduceCtorEq, implies_true, sets, oneAll, setD, rels, fillE, fillD, List.replicate, rowsOf, forall_eq, Nat.reduceMul, ↓zD, zT, hd, hb, en, ei]
        refine .go hcall1 ?_
        simp only [Int.reduceToNat, Int.reduceLT, Int.reduceLE, Int.reduceBEq, Int.reduceBNe, St0, argFr, ↓thenW, ↓blockW, ↓opX, ↓opV, ↓pX, ↓pW, ↓putK, ↓putP, ↓atK, ↓normK, ↓postZ, ↓reduceIte, reduceIte, Nat.reduceEqDiff, Nat.reduceAdd, Nat.reduceBEq, Nat.reduceLT, Nat.reduceLeDiff, binW, bodyQ, ressW, resW, ne_eq, forall_const, reduceCtorEq, implies_true, sets, oneAll, setD, rels, fillE, fillD, List.replicate, rowsOf, forall_eq, Nat.reduceMul, ↓zD, zT, ha0]
        exact .same
      · exact absurd (.inl ha0) hs
    obtain ⟨x, rfl⟩ := Int.eq_ofNat_of_zero_le (show 0 ≤ a by omega)
    have hx : x < s1.ls.length := by omega
    have hne1 : s1.ls ≠ [] := ne_of_len (by omega)
    have hb1' := hb1
    have hl1' := hl1
    rw [growD_osl hne1] at hb1'
    rw [growG_some hne1] at hl1'
    have hg1 := lnR_get s1.ls hx
    by_cases hin : ((idx + 1 : Nat) : Int) ∈ (s1.ls.getD x ln0).cl
    case neg =>
      rcases hrest with ⟨_, e2, e3⟩ | ⟨hs, _⟩
      · subst e2 e3
        simp only [Int.reduceToNat, Int.reduceLT, Int.reduceLE, Int.reduceBEq, Int.reduceBNe, St0, argFr, ↓thenW, ↓blockW, ↓opX, ↓opV, ↓pX, ↓pW, ↓putK, ↓putP, ↓atK, ↓normK, ↓postZ, ↓reduceIte, reduceIte, Nat.reduceEqDiff, Nat.reduceAdd, Nat.reduceBEq, Nat.reduceLT, Nat.reduceLeDiff, binW, bodyQ, ressW, resW, ne_eq, forall_const, reduceCtorEq, implies_true, sets, oneAll, setD, rels, fillE, fillD, List.replicate, rowsOf, forall_eq, Nat.reduceMul, ↓zD, zT, hd, hb, en, ei]
        refine .go hcall1 ?_
        simp only [Int.reduceToNat, Int.reduceLT, Int.reduceLE, Int.reduceBEq, Int.reduceBNe, St0, argFr, ↓thenW, ↓blockW, ↓opX, ↓opV, ↓pX, ↓pW, ↓putK, ↓putP, ↓atK, ↓normK, ↓postZ, ↓reduceIte, reduceIte, Nat.reduceEqDiff, Nat.reduceAdd, Nat.reduceBEq, Nat.reduceLT, Nat.reduceLeDiff, binW, bodyQ, ressW, resW, ne_eq, forall_const, reduceCtorEq, implies_true, sets, oneAll, setD, rels, fillE, fillD, List.replicate, rowsOf, forall_eq, Nat.reduceMul, ↓zD, zT, ha0, hb1', hl1', lnR_len, hg1, lnRow, ei]
        (repeat (first | refine And.intro (by omega) ?_ | refine And.intro (ui_nonneg _) ?_ | refine And.intro (Int.natCast_nonneg _) ?_ | refine And.intro rfl ?_ | refine And.intro (rows_one' _ _) ?_ | refine And.intro (us_one _) ?_ | refine And.intro (by intro _ h; cases h; done) ?_))
        refine .go (CallT.of_runs (contains45 (s1.ls.getD x ln0).cl ((idx + 1 : Nat) : Int)) (by simp [D.isPureL, D.isPure])) ?_
        simp only [Int.reduceToNat, Int.reduceLT, Int.reduceLE, Int.reduceBEq, Int.reduceBNe, St0, argFr, ↓thenW, ↓blockW, ↓opX, ↓opV, ↓pX, ↓pW, ↓putK, ↓putP, ↓atK, ↓normK, ↓postZ, ↓reduceIte, reduceIte, Nat.reduceEqDiff, Nat.reduceAdd, Nat.reduceBEq, Nat.reduceLT, Nat.reduceLeDiff, binW, bodyQ, ressW, resW, ne_eq, forall_const, reduceCtorEq, implies_true, sets, oneAll, setD, rels, fillE, fillD, List.replicate, rowsOf, forall_eq, Nat.reduceMul, ↓zD, zT, decide_eq_false hin]
        exact .same
      · exact absurd (.inr (by rw [Int.toNat_natCast]; exact hin)) hs
    rcases hrest with ⟨hs, _⟩ | ⟨_, b, nx2, objs2, key2, s2, hcall2, ⟨hn2, hk2, hb2, hl2, hm2⟩, hbl, hle, hrest⟩
    · rcases hs with hs | hs
      · exact absurd hs ha0
      · rw [Int.toNat_natCast] at hs; exact absurd hin hs
    simp only [Int.reduceToNat, Int.reduceLT, Int.reduceLE, Int.reduceBEq, Int.reduceBNe, St0, argFr, ↓thenW, ↓blockW, ↓opX, ↓opV, ↓pX, ↓pW, ↓putK, ↓putP, ↓atK, ↓normK, ↓postZ, ↓reduceIte, reduceIte, Nat.reduceEqDiff, Nat.reduceAdd, Nat.reduceBEq, Nat.reduceLT, Nat.reduceLeDiff, binW, bodyQ, ressW, resW, ne_eq, forall_const, reduceCtorEq, implies_true, sets, oneAll, setD, rels, fillE, fillD, List.replicate, rowsOf, forall_eq, Nat.reduceMul, ↓zD, zT, hd, hb, en, ei]
    refine .go hcall1 ?_
    simp only [Int.reduceToNat, Int.reduceLT, Int.reduceLE, Int.reduceBEq, Int.reduceBNe, St0, argFr, ↓thenW, ↓blockW, ↓opX, ↓opV, ↓pX, ↓pW, ↓putK, ↓putP, ↓atK, ↓normK, ↓postZ, ↓reduceIte, reduceIte, Nat.reduceEqDiff, Nat.reduceAdd, Nat.reduceBEq, Nat.reduceLT, Nat.reduceLeDiff, binW, bodyQ, ressW, resW, ne_eq, forall_const, reduceCtorEq, implies_true, sets, oneAll, setD, rels, fillE, fillD, List.replicate, rowsOf, forall_eq, Nat.reduceMul, ↓zD, zT, ha0, hb1', hl1', lnR_len, hg1, lnRow, ei]
    (repeat (first | refine And.intro (by omega) ?_ | refine And.intro (ui_nonneg _) ?_ | refine And.intro (Int.natCast_nonneg _) ?_ | refine And.intro rfl ?_ | refine And.intro (rows_one' _ _) ?_ | refine And.intro (us_one _) ?_ | refine And.intro (by intro _ h; cases h; done) ?_))
    refine .go (CallT.of_runs (contains45 (s1.ls.getD x ln0).cl ((idx + 1 : Nat) : Int)) (by simp [D.isPureL, D.isPure])) ?_
    simp only [Int.reduceToNat, Int.reduceLT, Int.reduceLE, Int.reduceBEq, Int.reduceBNe, St0, argFr, ↓thenW, ↓blockW, ↓opX, ↓opV, ↓pX, ↓pW, ↓putK, ↓putP, ↓atK, ↓normK, ↓postZ, ↓reduceIte, reduceIte, Nat.reduceEqDiff, Nat.reduceAdd, Nat.reduceBEq, Nat.reduceLT, Nat.reduceLeDiff, binW, bodyQ, ressW, resW, ne_eq, forall_const, reduceCtorEq, implies_true, sets, oneAll, setD, rels, fillE, fillD, List.replicate, rowsOf, forall_eq, Nat.reduceMul, ↓zD, zT, decide_eq_true hin, ei, or_pow hv (show idx < 62 by omega)]
    (repeat (first | refine And.intro (by omega) ?_ | refine And.intro (ui_nonneg _) ?_ | refine And.intro (Int.natCast_nonneg _) ?_ | refine And.intro rfl ?_ | refine And.intro (rows_one' _ _) ?_ | refine And.intro (us_one _) ?_ | refine And.intro (by intro _ h; cases h; done) ?_))
    refine .go hcall2 ?_
    by_cases hb0 : b < 0
    · rcases hrest with ⟨_, e2, e3⟩ | ⟨hs, _⟩
      · subst e2 e3
        simp only [Int.reduceToNat, Int.reduceLT, Int.reduceLE, Int.reduceBEq, Int.reduceBNe, St0, argFr, ↓thenW, ↓blockW, ↓opX, ↓opV, ↓pX, ↓pW, ↓putK, ↓putP, ↓atK, ↓normK, ↓postZ, ↓reduceIte, reduceIte, Nat.reduceEqDiff, Nat.reduceAdd, Nat.reduceBEq, Nat.reduceLT, Nat.reduceLeDiff, binW, bodyQ, ressW, resW, ne_eq, forall_const, reduceCtorEq, implies_true, sets, oneAll, setD, rels, fillE, fillD, List.replicate, rowsOf, forall_eq, Nat.reduceMul, ↓zD, zT, hb0]
        exact .same
      · exact absurd (.inl hb0) hs
    obtain ⟨y, rfl⟩ := Int.eq_ofNat_of_zero_le (show 0 ≤ b by omega)
    have hy : y < s2.ls.length := by omega
    have hx2 : x < s2.ls.length := by omega
    have hne2 : s2.ls ≠ [] := ne_of_len (by omega)
    have hb2' := hb2
    have hl2' := hl2
    rw [growD_osl hne2] at hb2'
    rw [growG_some hne2] at hl2'
    have hg2 := lnR_get s2.ls hy
    have hg3 := lnR_get s2.ls hx2
    by_cases hin2 : -(idx : Int) - 1 ∈ (s2.ls.getD y ln0).cl
    case neg =>
      rcases hrest with ⟨_, e2, e3⟩ | ⟨hs, _⟩
      · subst e2 e3
        simp only [Int.reduceToNat, Int.reduceLT, Int.reduceLE, Int.reduceBEq, Int.reduceBNe, St0, argFr, ↓thenW, ↓blockW, ↓opX, ↓opV, ↓pX, ↓pW, ↓putK, ↓putP, ↓atK, ↓normK, ↓postZ, ↓reduceIte, reduceIte, Nat.reduceEqDiff, Nat.reduceAdd, Nat.reduceBEq, Nat.reduceLT, Nat.reduceLeDiff, binW, bodyQ, ressW, resW, ne_eq, forall_const, reduceCtorEq, implies_true, sets, oneAll, setD, rels, fillE, fillD, List.replicate, rowsOf, forall_eq, Nat.reduceMul, ↓zD, zT, hb0, hb2', hl2', lnR_len, hg2, lnRow, ei2, ei3]
        (repeat (first | refine And.intro (by omega) ?_ | refine And.intro (ui_nonneg _) ?_ | refine And.intro (Int.natCast_nonneg _) ?_ | refine And.intro rfl ?_ | refine And.intro (rows_one' _ _) ?_ | refine And.intro (us_one _) ?_ | refine And.intro (by intro _ h; cases h; done) ?_))
        refine .go (CallT.of_runs (contains45 (s2.ls.getD y ln0).cl (-(idx : Int) - 1)) (by simp [D.isPureL, D.isPure])) ?_
        simp only [Int.reduceToNat, Int.reduceLT, Int.reduceLE, Int.reduceBEq, Int.reduceBNe, St0, argFr, ↓thenW, ↓blockW, ↓opX, ↓opV, ↓pX, ↓pW, ↓putK, ↓putP, ↓atK, ↓normK, ↓postZ, ↓reduceIte, reduceIte, Nat.reduceEqDiff, Nat.reduceAdd, Nat.reduceBEq, Nat.reduceLT, Nat.reduceLeDiff, binW, bodyQ, ressW, resW, ne_eq, forall_const, reduceCtorEq, implies_true, sets, oneAll, setD, rels, fillE, fillD, List.replicate, rowsOf, forall_eq, Nat.reduceMul, ↓zD, zT, decide_eq_false hin2]
        exact .same
      · exact absurd (.inr (by rw [Int.toNat_natCast]; exact hin2)) hs
    rcases hrest with ⟨hs, _⟩ | ⟨_, hlen2, e2, e3⟩
    · rcases hs with hs | hs
      · exact absurd hs hb0
      · rw [Int.toNat_natCast] at hs; exact absurd hin2 hs
    rw [Int.toNat_natCast, Int.toNat_natCast] at e3
    subst e2 e3
    simp only [Int.reduceToNat, Int.reduceLT, Int.reduceLE, Int.reduceBEq, Int.reduceBNe, St0, argFr, ↓thenW, ↓blockW, ↓opX, ↓opV, ↓pX, ↓pW, ↓putK, ↓putP, ↓atK, ↓normK, ↓postZ, ↓reduceIte, reduceIte, Nat.reduceEqDiff, Nat.reduceAdd, Nat.reduceBEq, Nat.reduceLT, Nat.reduceLeDiff, binW, bodyQ, ressW, resW, ne_eq, forall_const, reduceCtorEq, implies_true, sets, oneAll, setD, rels, fillE, fillD, List.replicate, rowsOf, forall_eq, Nat.reduceMul, ↓zD, zT, hb0, hb2', hl2', lnR_len, hg2, lnRow, ei2, ei3]
    (repeat (first | refine And.intro (by omega) ?_ | refine And.intro (ui_nonneg _) ?_ | refine And.intro (Int.natCast_nonneg _) ?_ | refine And.intro rfl ?_ | refine And.intro (rows_one' _ _) ?_ | refine And.intro (us_one _) ?_ | refine And.intro (by intro _ h; cases h; done) ?_))
    refine .go (CallT.of_runs (contains45 (s2.ls.getD y ln0).cl (-(idx : Int) - 1)) (by simp [D.isPureL, D.isPure])) ?_
    simp only [Int.reduceToNat, Int.reduceLT, Int.reduceLE, Int.reduceBEq, Int.reduceBNe, St0, argFr, ↓thenW, ↓blockW, ↓opX, ↓opV, ↓pX, ↓pW, ↓putK, ↓putP, ↓atK, ↓normK, ↓postZ, ↓reduceIte, reduceIte, Nat.reduceEqDiff, Nat.reduceAdd, Nat.reduceBEq, Nat.reduceLT, Nat.reduceLeDiff, binW, bodyQ, ressW, resW, ne_eq, forall_const, reduceCtorEq, implies_true, sets, oneAll, setD, rels, fillE, fillD, List.replicate, rowsOf, forall_eq, Nat.reduceMul, ↓zD, zT, decide_eq_true hin2, hb2', hl2', lnR_len, hg2, hg3, lnRow]
    (repeat (first | refine And.intro (by omega) ?_ | refine And.intro (ui_nonneg _) ?_ | refine And.intro (Int.natCast_nonneg _) ?_ | refine And.intro rfl ?_ | refine And.intro (rows_one' _ _) ?_ | refine And.intro (us_one _) ?_ | refine And.intro (by intro _ h; cases h; done) ?_))
    refine .go (CallT.of_runs (Resolve21 (s2.ls.getD x ln0).cl (s2.ls.getD y ln0).cl idx) (by simp [D.isPureL, D.isPure])) ?_
    generalize resolveA (s2.ls.getD x ln0).cl (s2.ls.getD y ln0).cl idx = q
    have he1 : St.look (eraseL objs2 key2) 1 = some ⟨4, [[.int .i64 n, .sl 1 (rl l), growD key2 4 (lnR s2.ls), .mref 0]]⟩ := by rw [look_eraseL, if_neg (by omega)]; exact hb2
    have hx1 : ¬ nx2 = 1 := by omega
    have hpz : D.isPureL [.sl 1 (rows .i64 q.1), .int .i64 (x : Int), .int .i64 (y : Int), .int .i64 (idx : Int)] = true := by simp [D.isPureL, D.isPure, rows]
    have el : IntKind.i64.wrap (((s2.ls.length + 1 : Nat) : Int) - 1) = (s2.ls.length : Int) := by rw [wrap_i64 (by omega)]; omega
    simp only [Int.reduceToNat, Int.reduceLT, Int.reduceLE, Int.reduceBEq, Int.reduceBNe, St0, argFr, ↓thenW, ↓blockW, ↓opX, ↓opV, ↓pX, ↓pW, ↓putK, ↓putP, ↓atK, ↓normK, ↓postZ, ↓reduceIte, reduceIte, Nat.reduceEqDiff, Nat.reduceAdd, Nat.reduceBEq, Nat.reduceLT, Nat.reduceLeDiff, binW, bodyQ, ressW, resW, ne_eq, forall_const, reduceCtorEq, implies_true, sets, oneAll, setD, rels, fillE, fillD, List.replicate, rowsOf, forall_eq, Nat.reduceMul, ↓zD, zT, hb2, hl2, he1, hx1, hpz, lnR_len, look_setL]
    (repeat (first | refine And.intro (by omega) ?_ | refine And.intro (ui_nonneg _) ?_ | refine And.intro (Int.natCast_nonneg _) ?_ | refine And.intro rfl ?_ | refine And.intro (rows_one' _ _) ?_ | refine And.intro (us_one _) ?_ | refine And.intro (by intro _ h; cases h; done) ?_))
    rw [el, lnR_snoc]
    exact .same
  have hd : ((k : Int) < (l.length : Int)) := by omega
  rw [drop_cons (d := []) hh, ffalse] at hi
  have hcl := hok _ (getD_mem (d := []) hh)
  have hcn := hlit _ (getD_mem (d := []) hh)
  have hget := rl_get l hh
  generalize l.getD k [] = c at hcl hcn hget hi
  simp only [Int.reduceToNat, Int.reduceLT, Int.reduceLE, Int.reduceBEq, Int.reduceBNe, St0, argFr, ↓thenW, ↓blockW, ↓opX, ↓opV, ↓pX, ↓pW, ↓putK, ↓putP, ↓atK, ↓normK, ↓postZ, ↓reduceIte, reduceIte, Nat.reduceEqDiff, Nat.reduceAdd, Nat.reduceBEq, Nat.reduceLT, Nat.reduceLeDiff, binW, bodyQ, ressW, resW, ne_eq, forall_const, reduceCtorEq, implies_true, sets, oneAll, setD, rels, fillE, fillD, List.replicate, rowsOf, forall_eq, Nat.reduceMul, ↓zD, zT, hd, hget, rl_len]
  (repeat (first | refine And.intro (by omega) ?_ | refine And.intro (ui_nonneg _) ?_ | refine And.intro (Int.natCast_nonneg _) ?_ | refine And.intro rfl ?_ | refine And.intro (rows_one' _ _) ?_ | refine And.intro (us_one _) ?_ | refine And.intro (by intro _ h; cases h; done) ?_))
  refine wpS_loop (fun j : Nat => [(30, .int .i64 j), (29, .int .i64 c.length), (28, .sl 1 (rows .i64 c)), (23, .int .i64 k), (22, .int .i64 l.length), (21, .sl 1 (rl l)), (9, .bool ((c.take j).all (falseL idx v))), (7, .int .i64 k), (2, .int .i64 v), (1, .int .i64 idx), (0, .ref 1 4 0 0)]) (fun _ => ⟨nx, objs⟩) (fun j => j ≤ c.length) (fun j => c.length - j) 0 (Nat.zero_le _) ?_ ?_
  · (refine Weak.same ?_; simp [sameF, Fr.get])
  intro j hj
  refine wpS_go mixed ?_
  by_cases h2 : j < c.length
  case neg =>
    have hd2 : ¬ ((j : Int) < (c.length : Int)) := by omega
    rw [take_all (show j = c.length by omega)]
    cases ha : c.all (falseL idx v)
    · rw [if_neg (by rw [ha]; simp)] at hi
      simp only [Int.reduceToNat, Int.reduceLT, Int.reduceLE, Int.reduceBEq, Int.reduceBNe, St0, argFr, ↓thenW, ↓blockW, ↓opX, ↓opV, ↓pX, ↓pW, ↓putK, ↓putP, ↓atK, ↓normK, ↓postZ, ↓reduceIte, reduceIte, Nat.reduceEqDiff, Nat.reduceAdd, Nat.reduceBEq, Nat.reduceLT, Nat.reduceLeDiff, binW, bodyQ, ressW, resW, ne_eq, forall_const, reduceCtorEq, implies_true, sets, oneAll, setD, rels, fillE, fillD, List.replicate, rowsOf, forall_eq, Nat.reduceMul, ↓zD, zT, hd2]
      refine ⟨k + 1, ⟨by omega, hi⟩, ?_, by omega⟩
      (refine Weak.same ?_; simp only [sameF, Fr.get, ↓reduceIte, reduceIte, Nat.reduceEqDiff, reduceCtorEq, D.int.injEq, D.bool.injEq, D.sl.injEq, and_true, true_and, and_self])
      exact wrap_i64 (by omega)
    · rw [if_pos ha] at hi
      rcases h with ⟨i, h1, h3⟩ | ⟨h1, _⟩
      · rw [h1] at hi
        cases hi
        simp only [Int.reduceToNat, Int.reduceLT, Int.reduceLE, Int.reduceBEq, Int.reduceBNe, St0, argFr, ↓thenW, ↓blockW, ↓opX, ↓opV, ↓pX, ↓pW, ↓putK, ↓putP, ↓atK, ↓normK, ↓postZ, ↓reduceIte, reduceIte, Nat.reduceEqDiff, Nat.reduceAdd, Nat.reduceBEq, Nat.reduceLT, Nat.reduceLeDiff, binW, bodyQ, ressW, resW, ne_eq, forall_const, reduceCtorEq, implies_true, sets, oneAll, setD, rels, fillE, fillD, List.replicate, rowsOf, forall_eq, Nat.reduceMul, ↓zD, zT, hd2]
        refine .go h3 ?_
        simp only [Int.reduceToNat, Int.reduceLT, Int.reduceLE, Int.reduceBEq, Int.reduceBNe, St0, argFr, ↓thenW, ↓blockW, ↓opX, ↓opV, ↓pX, ↓pW, ↓putK, ↓putP, ↓atK, ↓normK, ↓postZ, ↓reduceIte, reduceIte, Nat.reduceEqDiff, Nat.reduceAdd, Nat.reduceBEq, Nat.reduceLT, Nat.reduceLeDiff, binW, bodyQ, ressW, resW, ne_eq, forall_const, reduceCtorEq, implies_true, sets, oneAll, setD, rels, fillE, fillD, List.replicate, rowsOf, forall_eq, Nat.reduceMul, ↓zD, zT]
        exact .same
      · rw [h1] at hi; cases hi
  have hd2 : ((j : Int) < (c.length : Int)) := by omega
  have hx := hcn _ (getD_mem (d := 0) h2)
  have hsn := all_snoc (f := falseL idx v) h2
  have hr := varI_range hx
  have hvar := var36 (n := n) (c.getD j 0) ⟨c1, c2⟩
  rw [if_pos hx, hx] at hvar
  obtain ⟨w, hw⟩ := Int.eq_ofNat_of_zero_le hr.1
  have hmk : mkB v (c.getD j 0) = (v.testBit w == decide (0 < c.getD j 0)) := by rw [mkB, hw, Int.toNat_natCast]
  cases ha : (c.take j).all (falseL idx v)
  · rw [ha, Bool.false_and] at hsn
    simp only [Int.reduceToNat, Int.reduceLT, Int.reduceLE, Int.reduceBEq, Int.reduceBNe, St0, argFr, ↓thenW, ↓blockW, ↓opX, ↓opV, ↓pX, ↓pW, ↓putK, ↓putP, ↓atK, ↓normK, ↓postZ, ↓reduceIte, reduceIte, Nat.reduceEqDiff, Nat.reduceAdd, Nat.reduceBEq, Nat.reduceLT, Nat.reduceLeDiff, binW, bodyQ, ressW, resW, ne_eq, forall_const, reduceCtorEq, implies_true, sets, oneAll, setD, rels, fillE, fillD, List.replicate, rowsOf, forall_eq, Nat.reduceMul, ↓zD, zT, hd2, rows_get .i64 c h2, hb]
    (repeat (first | refine And.intro (by omega) ?_ | refine And.intro (ui_nonneg _) ?_ | refine And.intro (Int.natCast_nonneg _) ?_ | refine And.intro rfl ?_ | refine And.intro (rows_one' _ _) ?_ | refine And.intro (us_one _) ?_ | refine And.intro (by intro _ h; cases h; done) ?_))
    refine .go (CallT.of_runs hvar rfl) ?_
    simp only [Int.reduceToNat, Int.reduceLT, Int.reduceLE, Int.reduceBEq, Int.reduceBNe, St0, argFr, ↓thenW, ↓blockW, ↓opX, ↓opV, ↓pX, ↓pW, ↓putK, ↓putP, ↓atK, ↓normK, ↓postZ, ↓reduceIte, reduceIte, Nat.reduceEqDiff, Nat.reduceAdd, Nat.reduceBEq, Nat.reduceLT, Nat.reduceLeDiff, binW, bodyQ, ressW, resW, ne_eq, forall_const, reduceCtorEq, implies_true, sets, oneAll, setD, rels, fillE, fillD, List.replicate, rowsOf, forall_eq, Nat.reduceMul, ↓zD, zT]
    refine ⟨j + 1, by omega, ?_, by omega⟩
    rw [hsn]
    (refine Weak.same ?_; simp only [sameF, Fr.get, ↓reduceIte, reduceIte, Nat.reduceEqDiff, reduceCtorEq, D.int.injEq, D.bool.injEq, D.sl.injEq, and_true, true_and, and_self])
    exact wrap_i64 (by omega)
  · rw [ha, Bool.true_and, falseL, hw, hmk] at hsn
    by_cases h4 : w < idx
    · have h4' : ((w : Int) < (idx : Int)) := by omega
      rw [decide_eq_true h4', Bool.true_and] at hsn
      simp only [Int.reduceToNat, Int.reduceLT, Int.reduceLE, Int.reduceBEq, Int.reduceBNe, St0, argFr, ↓thenW, ↓blockW, ↓opX, ↓opV, ↓pX, ↓pW, ↓putK, ↓putP, ↓atK, ↓normK, ↓postZ, ↓reduceIte, reduceIte, Nat.reduceEqDiff, Nat.reduceAdd, Nat.reduceBEq, Nat.reduceLT, Nat.reduceLeDiff, binW, bodyQ, ressW, resW, ne_eq, forall_const, reduceCtorEq, implies_true, sets, oneAll, setD, rels, fillE, fillD, List.replicate, rowsOf, forall_eq, Nat.reduceMul, ↓zD, zT, hd2, rows_get .i64 c h2, hb]
      (repeat (first | refine And.intro (by omega) ?_ | refine And.intro (ui_nonneg _) ?_ | refine And.intro (Int.natCast_nonneg _) ?_ | refine And.intro rfl ?_ | refine And.intro (rows_one' _ _) ?_ | refine And.intro (us_one _) ?_ | refine And.intro (by intro _ h; cases h; done) ?_))
      refine .go (CallT.of_runs hvar rfl) ?_
      rw [hw]
      simp only [Int.reduceToNat, Int.reduceLT, Int.reduceLE, Int.reduceBEq, Int.reduceBNe, St0, argFr, ↓thenW, ↓blockW, ↓opX, ↓opV, ↓pX, ↓pW, ↓putK, ↓putP, ↓atK, ↓normK, ↓postZ, ↓reduceIte, reduceIte, Nat.reduceEqDiff, Nat.reduceAdd, Nat.reduceBEq, Nat.reduceLT, Nat.reduceLeDiff, binW, bodyQ, ressW, resW, ne_eq, forall_const, reduceCtorEq, implies_true, sets, oneAll, setD, rels, fillE, fillD, List.replicate, rowsOf, forall_eq, Nat.reduceMul, ↓zD, zT, h4', shrNat v w (by omega), and1Nat (div_lt62 (show v < 2 ^ 62 by omega) w), bitNat]
      (repeat (first | refine And.intro (by omega) ?_ | refine And.intro (ui_nonneg _) ?_ | refine And.intro (Int.natCast_nonneg _) ?_ | refine And.intro rfl ?_ | refine And.intro (rows_one' _ _) ?_ | refine And.intro (us_one _) ?_ | refine And.intro (by intro _ h; cases h; done) ?_))
      refine ⟨j + 1, by omega, ?_, by omega⟩
      rw [hsn]
      (refine Weak.same ?_; simp only [sameF, Fr.get, ↓reduceIte, reduceIte, Nat.reduceEqDiff, reduceCtorEq, D.int.injEq, D.bool.injEq, D.sl.injEq, and_true, true_and, and_self])
      exact ⟨wrap_i64 (by omega), rfl⟩
    · have h4' : ¬ ((w : Int) < (idx : Int)) := by omega
      rw [decide_eq_false h4', Bool.false_and] at hsn
      simp only [Int.reduceToNat, Int.reduceLT, Int.reduceLE, Int.reduceBEq, Int.reduceBNe, St0, argFr, ↓thenW, ↓blockW, ↓opX, ↓opV, ↓pX, ↓pW, ↓putK, ↓putP, ↓atK, ↓normK, ↓postZ, ↓reduceIte, reduceIte, Nat.reduceEqDiff, Nat.reduceAdd, Nat.reduceBEq, Nat.reduceLT, Nat.reduceLeDiff, binW, bodyQ, ressW, resW, ne_eq, forall_const, reduceCtorEq, implies_true, sets, oneAll, setD, rels, fillE, fillD, List.replicate, rowsOf, forall_eq, Nat.reduceMul, ↓zD, zT, hd2, rows_get .i64 c h2, hb]
      (repeat (first | refine And.intro (by omega) ?_ | refine And.intro (ui_nonneg _) ?_ | refine And.intro (Int.natCast_nonneg _) ?_ | refine And.intro rfl ?_ | refine And.intro (rows_one' _ _) ?_ | refine And.intro (us_one _) ?_ | refine And.intro (by intro _ h; cases h; done) ?_))
      refine .go (CallT.of_runs hvar rfl) ?_
      rw [hw]
      simp only [Int.reduceToNat, Int.reduceLT, Int.reduceLE, Int.reduceBEq, Int.reduceBNe, St0, argFr, ↓thenW, ↓blockW, ↓opX, ↓opV, ↓pX, ↓pW, ↓putK, ↓putP, ↓atK, ↓normK, ↓postZ, ↓reduceIte, reduceIte, Nat.reduceEqDiff, Nat.reduceAdd, Nat.reduceBEq, Nat.reduceLT, Nat.reduceLeDiff, binW, bodyQ, ressW, resW, ne_eq, forall_const, reduceCtorEq, implies_true, sets, oneAll, setD, rels, fillE, fillD, List.replicate, rowsOf, forall_eq, Nat.reduceMul, ↓zD, zT, h4']
      refine ⟨j + 1, by omega, ?_, by omega⟩
      rw [hsn]
      (refine Weak.same ?_; simp only [sameF, Fr.get, ↓reduceIte, reduceIte, Nat.reduceEqDiff, reduceCtorEq, D.int.injEq, D.bool.injEq, D.sl.injEq, and_true, true_and, and_self])
      exact wrap_i64 (by omega)
theorem refute55 {n : Nat} {l : List (List Int)} (hc : checkC n l = 0) : ∀ (m : Nat) {idx v : Nat} {s : RS} {σ : St}, idx + m = n → v < 2 ^ idx → okS s → s.ls.length + 2 ^ (m + 1) ≤ 90000 → InvR n l σ s →
    ∃ σ', InvR n l σ' (refuteS l m idx v s).2 ∧ CallT Try.prog 55 [.ref 1 4 0 0, .int .i64 idx, .int .i64 v] σ (.int .i64 (refuteS l m idx v s).1) σ' := by
  have hok := check_lits hc
  have found : ∀ {idx v : Nat} {s : RS} {σ : St} {i : Nat}, idx ≤ n → v < 2 ^ idx → s.ls.length + 2 ≤ 90000 → InvR n l σ s → ffalse idx v l 0 = some i →
      ∃ σ', InvR n l σ' (inputS l i s).2 ∧ CallT Try.prog 55 [.ref 1 4 0 0, .int .i64 idx, .int .i64 v] σ (.int .i64 (inputS l i s).1) σ' := fun {idx v s σ i} h1 h2 h3 hI hf => by
    have hi := ffalse_lt hf
    obtain ⟨σ', a1, _, a3⟩ := input73 (i := i) (by omega) (by omega) hI hok
    refine ⟨σ', a1, ?_⟩
    obtain ⟨nx, objs⟩ := σ
    obtain ⟨hn, key, hk, hb, hkk, hm⟩ := hI
    exact walk55 hc h1 h2 ⟨hn, hk, hb, hkk, hm⟩ (.inl ⟨i, hf, a3⟩)
  intro m
  induction m with
  | zero =>
    intro idx v s σ hidx hv hs hlen hI
    cases hf : ffalse idx v l 0 with
    | some i =>
      rw [show refuteS l 0 idx v s = inputS l i s by rw [refuteS, hf]]
      exact found (by omega) hv hlen hI hf
    | none =>
      rw [show refuteS l 0 idx v s = (-1, s) by rw [refuteS, hf]]
      refine ⟨σ, hI, ?_⟩
      obtain ⟨nx, objs⟩ := σ
      obtain ⟨hn, key, hk, hb, hkk, hm⟩ := hI
      exact walk55 hc (by omega) hv ⟨hn, hk, hb, hkk, hm⟩ (.inr ⟨hf, .inl ⟨by omega, rfl, rfl⟩⟩)
  | succ m ih =>
    intro idx v s σ hidx hv hs hlen hI
    have hp2 : 2 ^ (m + 1 + 1) = 2 ^ (m + 1) + 2 ^ (m + 1) := by rw [Nat.pow_succ 2 (m + 1)]; omega
    have hp0 : 0 < 2 ^ (m + 1) := Nat.two_pow_pos _
    have hpi : 2 ^ (idx + 1) = 2 ^ idx + 2 ^ idx := by rw [Nat.pow_succ]; omega
    cases hf : ffalse idx v l 0 with
    | some i =>
      rw [show refuteS l (m + 1) idx v s = inputS l i s by rw [refuteS, hf]]
      exact found (by omega) hv (by omega) hI hf
    | none =>
      obtain ⟨σ1, I1, call1⟩ := ih (idx := idx + 1) (v := v) (s := s) (σ := σ) (by omega) (by omega) hs (by omega) hI
      obtain ⟨a1, a2, a3, a4, a5⟩ := refute_ok (l := l) (m := m) (idx := idx + 1) (v := v) hs
      have er : refuteS l (m + 1) idx v s = if stopL (refuteS l m (idx + 1) v s).2 (refuteS l m (idx + 1) v s).1 (idx + 1 : Nat) then refuteS l m (idx + 1) v s else
          if stopL (refuteS l m (idx + 1) (v + 2 ^ idx) (refuteS l m (idx + 1) v s).2).2 (refuteS l m (idx + 1) (v + 2 ^ idx) (refuteS l m (idx + 1) v s).2).1 (-idx - 1) then refuteS l m (idx + 1) (v + 2 ^ idx) (refuteS l m (idx + 1) v s).2 else
          ((refuteS l m (idx + 1) (v + 2 ^ idx) (refuteS l m (idx + 1) v s).2).2.ls.length, ⟨(refuteS l m (idx + 1) (v + 2 ^ idx) (refuteS l m (idx + 1) v s).2).2.ls ++ [⟨(resolveA ((refuteS l m (idx + 1) (v + 2 ^ idx) (refuteS l m (idx + 1) v s).2).2.ls.getD (refuteS l m (idx + 1) v s).1.toNat ln0).cl ((refuteS l m (idx + 1) (v + 2 ^ idx) (refuteS l m (idx + 1) v s).2).2.ls.getD (refuteS l m (idx + 1) (v + 2 ^ idx) (refuteS l m (idx + 1) v s).2).1.toNat ln0).cl idx).1, (refuteS l m (idx + 1) v s).1, (refuteS l m (idx + 1) (v + 2 ^ idx) (refuteS l m (idx + 1) v s).2).1, idx⟩], (refuteS l m (idx + 1) (v + 2 ^ idx) (refuteS l m (idx + 1) v s).2).2.us⟩) := by
        rw [refuteS, hf]; rfl
      rw [er]; clear er
      generalize refuteS l m (idx + 1) v s = p at I1 call1 a1 a2 a3 a4 a5
      obtain ⟨a, s1⟩ := p
      simp only at I1 call1 a1 a2 a3 a4 a5
      obtain ⟨nx1, objs1⟩ := σ1
      obtain ⟨hn1, key1, hk1, hb1, hkk1, hm1⟩ := id I1
      by_cases hst : stopL s1 a (idx + 1 : Nat)
      · rw [if_pos hst]
        refine ⟨⟨nx1, objs1⟩, I1, ?_⟩
        obtain ⟨nx, objs⟩ := σ
        obtain ⟨hn, key, hk, hb, hkk, hm⟩ := hI
        exact walk55 hc (by omega) hv ⟨hn, hk, hb, hkk, hm⟩ (.inr ⟨hf, .inr ⟨by omega, a, nx1, objs1, key1, s1, call1, ⟨hn1, hk1, hb1, hkk1, hm1⟩, a3, .inl ⟨hst, rfl, rfl⟩⟩⟩)
      rw [if_neg hst]
      obtain ⟨σ2, I2, call2⟩ := ih (idx := idx + 1) (v := v + 2 ^ idx) (s := s1) (σ := ⟨nx1, objs1⟩) (by omega) (by omega) a1 (by omega) I1
      obtain ⟨b1, b2, b3, b4, b5⟩ := refute_ok (l := l) (m := m) (idx := idx + 1) (v := v + 2 ^ idx) a1
      simp only
      generalize refuteS l m (idx + 1) (v + 2 ^ idx) s1 = q at I2 call2 b1 b2 b3 b4 b5
      obtain ⟨b, s2⟩ := q
      simp only at I2 call2 b1 b2 b3 b4 b5
      obtain ⟨nx2, objs2⟩ := σ2
      obtain ⟨hn2, key2, hk2, hb2, hkk2, hm2⟩ := id I2
      by_cases hst2 : stopL s2 b (-idx - 1)
      · rw [if_pos hst2]
        refine ⟨⟨nx2, objs2⟩, I2, ?_⟩
        obtain ⟨nx, objs⟩ := σ
        obtain ⟨hn, key, hk, hb, hkk, hm⟩ := hI
        exact walk55 hc (by omega) hv ⟨hn, hk, hb, hkk, hm⟩ (.inr ⟨hf, .inr ⟨by omega, a, nx1, objs1, key1, s1, call1, ⟨hn1, hk1, hb1, hkk1, hm1⟩, a3, .inr ⟨hst, b, nx2, objs2, key2, s2, call2, ⟨hn2, hk2, hb2, hkk2, hm2⟩, b3, b4, .inl ⟨hst2, rfl, rfl⟩⟩⟩⟩)
      rw [if_neg hst2]
      refine ⟨addSt n l nx2 objs2 key2 _, addSt_inv hn2 hk2 hb2 hm2, ?_⟩
      obtain ⟨nx, objs⟩ := σ
      obtain ⟨hn, key, hk, hb, hkk, hm⟩ := hI
      exact walk55 hc (by omega) hv ⟨hn, hk, hb, hkk, hm⟩ (.inr ⟨hf, .inr ⟨by omega, a, nx1, objs1, key1, s1, call1, ⟨hn1, hk1, hb1, hkk1, hm1⟩, a3, .inr ⟨hst, b, nx2, objs2, key2, s2, call2, ⟨hn2, hk2, hb2, hkk2, hm2⟩, b3, b4, .inr ⟨hst2, by omega, rfl, rfl⟩⟩⟩⟩)
end Go.Pd
