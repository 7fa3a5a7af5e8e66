/- Part P7. -/
import Derived.Test.YtjklmijiccabfaaBG1
set_option linter.unusedSectionVars false
set_option linter.unusedVariables false
set_option linter.unusedSimpArgs false
set_option linter.defProp false
set_option maxRecDepth 20000
set_option maxHeartbeats 1000000
namespace Go.Pd
open Go Go.Proofs
open Rs Fm
namespace Fm
theorem node_ops' {p : Nd} {k : Nat} (h : nodeE p k = 0) : ((usesA p.op).1.x = true → 0 ≤ p.x ∧ p.x.toNat < k) ∧ ((usesA p.op).1.y = true → 0 ≤ p.y ∧ p.y.toNat < k) ∧ ((usesA p.op).1.x = false → p.x = 0) ∧ ((usesA p.op).1.y = false → p.y = 0) := by
  obtain ⟨h1, h2⟩ := node_ops h
  rw [nodeE_iff] at h
  obtain ⟨_, h3, h4, _⟩ := h
  refine ⟨fun hx => ?_, fun hy => ?_, fun hx => ?_, fun hy => ?_⟩
  · have := h1 hx; omega
  · have := h2 hy; omega
  · rw [hx] at h3; simpa [operandB] using h3
  · rw [hy] at h4; simpa [operandB] using h4
end Fm
end Go.Pd
