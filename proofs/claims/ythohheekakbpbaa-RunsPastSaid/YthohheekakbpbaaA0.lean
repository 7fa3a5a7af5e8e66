/- Runs: the example. -/
import Derived.Test.YthohheekakbpbaaTab
set_option linter.unusedSectionVars false
set_option linter.unusedVariables false
set_option linter.unusedSimpArgs false
set_option linter.defProp false
set_option maxRecDepth 20000
namespace Go.Pd
open Go Go.Proofs
theorem awake8 : Runs Try.prog 8 [] (.bool true) := reckon mixed Tb_ok Orc_ok 40 rfl (by kernel_rfl)
theorem awakeT {σ : St} : CallT Try.prog 8 [] σ (.bool true) σ := CallT.of_runs awake8 rfl
end Go.Pd
