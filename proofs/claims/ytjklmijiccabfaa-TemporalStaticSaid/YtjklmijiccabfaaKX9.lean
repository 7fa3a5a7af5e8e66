/- Part X9. -/
import Derived.Test.YtjklmijiccabfaaKX8
import Derived.Test.YtjklmijiccabfaaKCode
set_option linter.unusedSectionVars false
set_option linter.unusedVariables false
set_option linter.unusedSimpArgs false
set_option linter.defProp false
set_option maxRecDepth 20000
set_option maxHeartbeats 1000000
namespace Go.Pd
open Go Go.Proofs
theorem shlN {n : Nat} (hn : n ≤ 61) : shlI .i64 1 (n : Int) = ((2 ^ n : Nat) : Int) := shl_one (by omega)
theorem convN {n : Nat} (hn : n ≤ 1000000) : IntKind.u64.wrap (n : Int) = (n : Int) := wrap_u64 (by omega)
theorem take_snoc {α : Type} {l : List α} {k : Nat} {d : α} (h : k < l.length) : l.take (k + 1) = l.take k ++ [l.getD k d] := by
 rw [List.take_add_one]; simp [List.getD, h]
theorem drop_cons {α : Type} {l : List α} {k : Nat} {d : α} (h : k < l.length) : l.drop k = l.getD k d :: l.drop (k + 1) := by simp [List.getD, h]
theorem getD_mem {α : Type} {l : List α} {k : Nat} {d : α} (h : k < l.length) : l.getD k d ∈ l := by simp [List.getD, h]
theorem take_all {α : Type} {l : List α} {k : Nat} (h : k = l.length) : l.take k = l := by rw [h, List.take_length]
theorem mx_max (x y : Int) : (if x < y then y else x) = max x y := by rw [Int.max_def]; split <;> split <;> omega
variable [Tabs]
theorem CallT.ret {P : Program} {g : FuncId} {args : List D} {σ σ1 σ' : St} {d1 d : D} (hc : CallT P g args σ d1 σ1) (hr : RetV σ.nx σ1 d1 σ' d) : CallT P g args σ d σ' := by
 refine ⟨hc.ord, fun M0 w ι vals hS hl hv => (hc.run M0 w ι vals hS hl hv).mono fun e w' hh => ?_⟩
 obtain ⟨v, ι1, he, kept, sim, nx, stay, mine, hR⟩ := hh
 rcases hr with ⟨rfl, rfl⟩ | ⟨ρ, r1, r2, r3, r4, r5⟩
 ·exact ⟨v, ι1, he, kept, sim, nx, stay, mine, hR⟩
 ·have hlive : ∀ p ∈ σ'.objs, ∃ ob, σ1.get (ρ p.1) = some ob := fun p hp => by
   obtain ⟨_, ob, h, _⟩ := r4 p hp
   exact ⟨ob, h⟩
  refine ⟨v, fun k => ι1 (ρ k), he, kept, sim.view r4 r5, r1, fun k hk => ?_, fun k o hk => ?_, vw_sound sim hlive _ _ hR r3⟩
  ·show ι1 (ρ k) = ι k
   rw [r2 k hk]; exact stay k hk
  ·obtain ⟨ob, h⟩ := hlive _ (look_mem hk)
   exact mine _ _ h
theorem growD_ne {k s : Nat} {els : List (List D)} (h : els ≠ []) : growD k s els = .osl k s els.length := by cases els with
 | nil => exact absurd rfl h
 | cons e r => rfl
theorem growO_ne {k s : Nat} {els : List (List D)} (h : els ≠ []) : growO k s els = [(k, ⟨s, els⟩)] := by cases els with
 | nil => exact absurd rfl h
 | cons e r => rfl
def rl (ll : List (List Int)) : List (List D) := ll.map fun l => [.sl 1 (rows .i64 l)]
theorem rl_len (l : List (List Int)) : (rl l).length = l.length := by simp [rl]
theorem rl_get (l : List (List Int)) {i : Nat} (h : i < l.length) : (rl l).getD i [] = [.sl 1 (rows .i64 (l.getD i []))] := by simp [rl, List.getD, h]
end Go.Pd
