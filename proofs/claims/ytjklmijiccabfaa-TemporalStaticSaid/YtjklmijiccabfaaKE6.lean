/- Part E6. -/
import Derived.Test.YtjklmijiccabfaaKE5
set_option linter.unusedSectionVars false
set_option linter.unusedVariables false
set_option linter.unusedSimpArgs false
set_option linter.defProp false
set_option maxRecDepth 20000
set_option maxHeartbeats 1000000
namespace Go.Pd
open Go Go.Proofs
open Rs Fm Ru Te
namespace Fm
theorem frag_time (op : Int) (h : 18 ≤ op ∧ op ≤ 21) : (usesA op).1.fr = 256 := by
 have hc : op = 18 ∨ op = 19 ∨ op = 20 ∨ op = 21 := by omega
 rcases hc with rfl | rfl | rfl | rfl <;> decide
end Fm
end Go.Pd
