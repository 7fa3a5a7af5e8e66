/- Part PQ. -/
import Derived.Test.YtjklmijiccabfaaKV0
import Derived.Test.YtjklmijiccabfaaKGR
set_option linter.unusedSectionVars false
set_option linter.unusedVariables false
set_option linter.unusedSimpArgs false
set_option linter.defProp false
set_option maxRecDepth 20000
set_option maxHeartbeats 1000000
namespace Go.Pd
open Go Go.Proofs
section
open Rs Fm
end
section
open Rs Fm
open Rs Fm
end
section
open Rs Fm
namespace Fm
end Fm
end
section
open Rs Fm
namespace Fm
end Fm
end
section
open Rs Fm
namespace Fm
end Fm
end
section
open Rs Fm
open Rs Fm
end
end Go.Pd
