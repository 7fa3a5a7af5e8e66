/- Part GQ. -/
import Derived.Test.YtjklmijiccabfaaKG4
import Derived.Test.YtjklmijiccabfaaKPQ
import Derived.Test.YtjklmijiccabfaaKP8
set_option linter.unusedSectionVars false
set_option linter.unusedVariables false
set_option linter.unusedSimpArgs false
set_option linter.defProp false
set_option maxRecDepth 20000
set_option maxHeartbeats 1000000
namespace Go.Pd
open Go Go.Proofs
section
open Rs Fm
namespace Fm
end Fm
end
section
open Rs Fm
namespace Fm
def treeF (f : List Nd) : Tr := tree f (f.length - 1)
theorem treeF_wf {f : List Nd} (h : checkF f = 0) : wfT (treeF f) := by
 obtain ⟨h1, h2, h3⟩ := checkF_zero h
 have hl : 0 < f.length := by cases f with | nil => exact absurd rfl h1 | cons a b => simp
 exact tree_wf h3 _ (by omega)
theorem compact_tree {f : List Nd} (h : checkF f = 0) : tree (compactA f) ((compactA f).length - 1) = treeF f ∧ (compactA f).Nodup := by
 rw [compactA_eq h]
 obtain ⟨_, b, _, d⟩ := canon_spec (treeF_wf h)
 exact ⟨d, b⟩
end Fm
end
section
open Rs Fm
namespace Fm
end Fm
end
section
open Rs Fm
namespace Fm
end Fm
end
section
open Rs Fm
namespace Fm
end Fm
end
end Go.Pd
