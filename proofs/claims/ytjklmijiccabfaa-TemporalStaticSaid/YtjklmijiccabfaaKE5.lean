/- Part E5. -/
import Derived.Test.YtjklmijiccabfaaKE4
set_option linter.unusedSectionVars false
set_option linter.unusedVariables false
set_option linter.unusedSimpArgs false
set_option linter.defProp false
set_option maxRecDepth 20000
set_option maxHeartbeats 1000000
namespace Go.Pd
open Go Go.Proofs
open Rs Fm Ru Te
namespace Te
variable {rs : List RunA} {A T : Nat}
end Te
end Go.Pd
