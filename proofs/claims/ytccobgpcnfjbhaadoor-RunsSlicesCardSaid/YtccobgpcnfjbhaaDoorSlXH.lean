/- Part XH. -/
import Derived.Test.YtccobgpcnfjbhaaDoorSlXG
set_option linter.unusedSectionVars false
set_option linter.unusedVariables false
set_option linter.unusedSimpArgs false
set_option linter.defProp false
set_option maxRecDepth 20000
set_option maxHeartbeats 1000000
namespace Go.Pd
open Go Go.Proofs
section
variable [zJ]
end
end Go.Pd
