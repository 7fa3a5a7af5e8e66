/- Part E2. -/
import Derived.Test.YtjklmijiccabfaaKE1
set_option linter.unusedSectionVars false
set_option linter.unusedVariables false
set_option linter.unusedSimpArgs false
set_option linter.defProp false
set_option maxRecDepth 20000
set_option maxHeartbeats 1000000
namespace Go.Pd
open Go Go.Proofs
open Rs Fm Ru Te
namespace Te
variable {rs : List RunA} {A T g : Nat} {x : Tab} {N p : Nat} {m : Nat → Bool} {todo : List Nat} {here k : Nat}
end Te
end Go.Pd
