/- Part E1. -/
import Derived.Test.YtjklmijiccabfaaKQA
set_option linter.unusedSectionVars false
set_option linter.unusedVariables false
set_option linter.unusedSimpArgs false
set_option linter.defProp false
set_option maxRecDepth 20000
set_option maxHeartbeats 1000000
namespace Go.Pd
open Go Go.Proofs
open Rs Fm Ru Te
namespace Te
def pt (T p : Nat) : Nat × Nat := (p / T, p % T)
theorem pt_in {rs : List RunA} {T p : Nat} (hT : 1 ≤ T) (h : p < rs.length * T) : (pt T p).1 < rs.length ∧ (pt T p).2 < T :=
 ⟨(Nat.div_lt_iff_lt_mul (by omega)).2 h, Nat.mod_lt _ (by omega)⟩
def relK (rs : List RunA) (g : Nat) (m : Bool) (p q : Nat × Nat) (a : Nat) : Bool := (List.range a).all fun b => !g.testBit b || (decide (locA rs b p = locA rs b q) == m)
end Te
end Go.Pd
