/- Merging: contracts: the lists of all valuations, the specification's ranks. -/
import Derived.Test.YtjaohaomninnlaaM7
set_option linter.unusedSectionVars false
set_option linter.unusedVariables false
set_option linter.unusedSimpArgs false
set_option linter.defProp false
set_option maxRecDepth 20000
namespace Go.Pd
open Go Go.Proofs
open Mg
/-- A contract may show less of what comes back. -/
theorem CallT.ret {P : Program} {g : FuncId} {args : List D} {σ σ1 σ' : St} {d1 d : D} (hc : CallT P g args σ d1 σ1) (hr : RetV σ.nx σ1 d1 σ' d) : CallT P g args σ d σ' := by
  refine ⟨hc.ord, fun M0 w ι vals hS hl hv => (hc.run M0 w ι vals hS hl hv).mono fun e w' hh => ?_⟩
  obtain ⟨v, ι1, he, kept, sim, nx, stay, mine, hR⟩ := hh
  rcases hr with ⟨rfl, rfl⟩ | ⟨ρ, r1, r2, r3, r4, r5⟩
  · exact ⟨v, ι1, he, kept, sim, nx, stay, mine, hR⟩
  · have hlive : ∀ p ∈ σ'.objs, ∃ ob, σ1.get (ρ p.1) = some ob := fun p hp => by
      obtain ⟨_, ob, h, _⟩ := r4 p hp
      exact ⟨ob, h⟩
    refine ⟨v, fun k => ι1 (ρ k), he, kept, sim.view r4 r5, r1, fun k hk => ?_, fun k o hk => ?_, vw_sound sim hlive _ _ hR r3⟩
    · show ι1 (ρ k) = ι k
      rw [r2 k hk]; exact stay k hk
    · obtain ⟨ob, h⟩ := hlive _ (look_mem hk)
      exact mine _ _ h

/-! ### Lists of lists -/
def rl (ll : List (List Int)) : List (List D) := ll.map fun l => [.sl 1 (rows .i64 l)]
theorem rl_len (l : List (List Int)) : (rl l).length = l.length := by simp [rl]
theorem rl_get (l : List (List Int)) {i : Nat} (h : i < l.length) : (rl l).getD i [] = [.sl 1 (rows .i64 (l.getD i []))] := by simp [rl, List.getD, h]
theorem rl_take (l : List (List Int)) (n : Nat) : (rl l).take n = rl (l.take n) := by simp [rl, List.map_take]
theorem rl_snoc (l : List (List Int)) (r : List Int) : rl l ++ [[.sl 1 (rows .i64 r)]] = rl (l ++ [r]) := by simp [rl]
theorem rl_nil : rl [] = [] := rfl
theorem rl_pure (l : List (List Int)) : ∀ e ∈ rl l, D.isPureL e = true := by
  intro e he
  simp only [rl, List.mem_map] at he
  obtain ⟨r, _, rfl⟩ := he
  have h : ∀ e ∈ rows .i64 r, D.isPureL e = true := rows_pure _ r
  have : (rows .i64 r).all D.isPureL = true := List.all_eq_true.2 h
  simp [D.isPureL, D.isPure, this]
theorem rl_one (l : List (List Int)) : ∀ e ∈ rl l, oneAll e = true := by
  intro e he
  simp only [rl, List.mem_map] at he
  obtain ⟨r, _, rfl⟩ := he
  rfl
theorem pureE_rl (l : List (List Int)) : pureE (rl l) := rl_pure l
end Go.Pd
