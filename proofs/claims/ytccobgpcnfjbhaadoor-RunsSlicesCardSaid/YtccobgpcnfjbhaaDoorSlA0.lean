/- Part A0. -/
import Derived.Test.YtccobgpcnfjbhaaDoorSlTab
set_option linter.unusedSectionVars false
set_option linter.unusedVariables false
set_option linter.unusedSimpArgs false
set_option linter.defProp false
set_option maxRecDepth 20000
set_option maxHeartbeats 1000000
namespace Go.Pd
open Go Go.Proofs
theorem aa : wP Tryd.prog 4 [] (.bool true):=reckon mixed j6 x7 40 rfl (by kernel_rfl)
end Go.Pd
