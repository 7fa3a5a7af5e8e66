/- Part XG. -/
import Derived.Test.YtjklmijiccabfaaKX9
set_option linter.unusedSectionVars false
set_option linter.unusedVariables false
set_option linter.unusedSimpArgs false
set_option linter.defProp false
set_option maxRecDepth 20000
set_option maxHeartbeats 1000000
namespace Go.Pd
open Go Go.Proofs
section
variable [Tabs]
end
end Go.Pd
