/- Part F18. -/
import Derived.Test.YtjklmijiccabfaaGreatRF16
set_option linter.unusedSectionVars false
set_option linter.unusedVariables false
set_option linter.unusedSimpArgs false
set_option linter.defProp false
set_option maxRecDepth 20000
set_option maxHeartbeats 1000000
namespace Go.Pd
open Go Go.Proofs
open Rs Fm
namespace Fm
theorem node_xy {p:Nd} {k:Nat} (h:nodeE p k=0):(∃ x:Nat,p.x=x/\x<=k)/\ (∃ y:Nat,p.y=y/\y<=k):=by
 obtain⟨_,h2,h3,_⟩:=nodeE_iff.1 h
 refine⟨?_,?_⟩
 ·unfold operandB at h2
  split at h2
  ·simp only [Bool.and_eq_true,decide_eq_true_eq] at h2
   exact⟨p.x.toNat,by omega,by omega⟩
  ·simp only [decide_eq_true_eq] at h2
   exact⟨0,by omega,by omega⟩
 ·unfold operandB at h3
  split at h3
  ·simp only [Bool.and_eq_true,decide_eq_true_eq] at h3
   exact⟨p.y.toNat,by omega,by omega⟩
  ·simp only [decide_eq_true_eq] at h3
   exact⟨0,by omega,by omega⟩
end Fm
open Rs Fm
namespace Fm
end Fm
end Go.Pd
