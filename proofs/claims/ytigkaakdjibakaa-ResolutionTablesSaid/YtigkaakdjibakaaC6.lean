/- Resolution: contract: unit propagation. -/
import Derived.Test.YtigkaakdjibakaaC5
set_option linter.unusedSectionVars false
set_option linter.unusedVariables false
set_option linter.unusedSimpArgs false
set_option linter.defProp false
set_option maxRecDepth 20000
namespace Go.Pd
open Go Go.Proofs
open Rs
theorem clone_osl0 {n : Nat} (hn : 0 < n) : CallT Try.prog 42 [.osl 0 1 0] ⟨n, [(0, ⟨1, []⟩)]⟩ (.sl 1 []) ⟨n, [(0, ⟨1, []⟩)]⟩ := by
  have h0 : ¬ n = 0 := by omega
  refine CallT.go_fn mixed Try.func42 k42 (by simp) fun hf => ?_
  simp only [Int.reduceToNat, Int.reduceLT, Int.reduceLE, Int.reduceBEq, Int.reduceBNe, St0, argFr, ↓thenW, ↓blockW, ↓opX, ↓opV, ↓pX, ↓pW, ↓putK, ↓putP, ↓atK, ↓normK, ↓postZ, ↓reduceIte, reduceIte, Nat.reduceEqDiff, Nat.reduceAdd, Nat.reduceBEq, Nat.reduceLT, Nat.reduceLeDiff, binW, bodyQ, ressW, resW, ne_eq, forall_const, reduceCtorEq, implies_true, sets, oneAll, setD, rels, fillE, fillD, List.replicate, rowsOf, forall_eq, Nat.reduceMul, ↓zD, zT, h0]
  (repeat (first | refine And.intro (by omega) ?_ | refine And.intro (ui_nonneg _) ?_ | refine And.intro (Int.natCast_nonneg _) ?_ | refine And.intro rfl ?_ | refine And.intro (rows_one' _ _) ?_ | refine And.intro (us_one _) ?_ | refine And.intro (by intro _ h; cases h; done) ?_))
  refine .inr ⟨fun k => k, Nat.le_refl _, fun k _ => rfl, ?_, ?_, ?_⟩
  · simp [vw, St.get, St.look, h0]
  · simp only [stays, List.forall_mem_singleton]
    refine ⟨hn, ⟨1, []⟩, ?_, rfl, .nil⟩
    simp [St.get, St.look, show ¬ 0 = n by omega]
  · simp [apartNames]
/-- Ordering nothing, of one's own. -/
theorem order_osl0 {σ : St} (hn : 0 < σ.nx) (hg : σ.get 0 = some ⟨1, []⟩) : CallT Try.prog 37 [.osl 0 1 0] σ (.sl 1 []) σ := by
  refine CallT.frame (h := ⟨σ.nx, [(0, ⟨1, []⟩)]⟩) (h' := ⟨σ.nx, [(0, ⟨1, []⟩)]⟩) (order_of_nil (clone_osl0 hn)) rfl ?_ rfl ?_ ?_
  · intro k o hk
    by_cases e : k = 0
    · subst e; rw [hg]; simpa [St.get, St.look] using hk
    · simp [St.get, St.look, Ne.symm e] at hk
  · intro k o hk
    by_cases e : k = 0
    · subst e; rw [hg]; simpa [St.get, St.look] using hk
    · simp [St.get, St.look, Ne.symm e] at hk
  · intro k o hk
    by_cases e : k = 0
    · subst e
      rw [hg] at hk
      exact .inl (by simpa [St.get, St.look] using hk)
    · exact .inr ⟨by simp [St.get, St.look, Ne.symm e], hk⟩
theorem order_lent {σ : St} {k0 : Nat} {c : List Int} (hne : c ≠ []) (hl : c.length ≤ 1000) (h : ∀ x ∈ c, litOk 12 x = true) (hg : σ.get k0 = some ⟨1, rows .i64 c⟩) : CallT Try.prog 37 [.osl k0 1 c.length] σ (.osl σ.nx 1 (canon c).length) ⟨σ.nx + 1, (σ.nx, ⟨1, rows .i64 (ordZ c)⟩) :: σ.objs⟩ := by
  refine CallT.lent1 (order_own hne hl h) (show lendL σ [.osl k0 1 c.length] [.sl 1 (rows .i64 c)] from ⟨lend_rows hg rfl, trivial⟩) ?_ ?_ ?_ ?_
  · simp [D.fl]
  · intro p hp e he
    rw [List.mem_singleton] at hp
    subst hp
    exact rows_fl .i64 _ e he
  · simp [D.shift]
  · simp [shiftObjs, Ob.shift, shiftE_pure _ (rows_pure .i64 (ordZ c))]
end Go.Pd
