/- PURE DATA: the framework, part XG: two allocations in a region's head; states named by their look-ups. Over any program. -/
import Derived.Test.YthohheekakbpbaaX9
set_option linter.unusedSectionVars false
set_option linter.unusedVariables false
set_option linter.unusedSimpArgs false
set_option linter.defProp false
set_option maxRecDepth 20000
namespace Go.Pd
open Go Go.Proofs
section
variable [Tabs]
def mid2Z (C : Cx) (pre mid1 : List DOp) (f f1 fd : Fr) (dst2 : Option Nat) (mid2 post : List DOp) (Q : Exit → Fr → St → Prop) (f2 : Fr) (d2 : D) (σ2 : St) : Prop :=
  preZ C σ2 pre (eqF f1) f ∧ preZ C σ2 mid1 (eqF f2) fd ∧ preZ C σ2 mid2 (postZ C post Q σ2) (f2.put dst2 d2)
def mid1Z (C : Cx) (pre : List DOp) (dst : Option Nat) (mid1 : List DOp) (dst2 : Option Nat) (k2 : DK) (mid2 post : List DOp) (Q : Exit → Fr → St → Prop) (f : Fr) (f1 : Fr) (d1 : D) (σ1 : St) : Prop :=
  preZ C σ1 pre (eqF f1) f ∧ preZ C σ1 mid1 (callZ C k2 (mid2Z C pre mid1 f f1 (f1.put dst d1) dst2 mid2 post Q) σ1) (f1.put dst d1)
theorem wpZ_regc {C : Cx} {σ : St} {f : Fr} {Q : Exit → Fr → St → Prop} {pre mid1 mid2 post : List DOp} {dst dst2 : Option Nat} {g g2 : Option (Nat × Bool)} {k k2 : DK} :
    wpZ C (.regc pre ⟨dst, g, k⟩ mid1 ⟨dst2, g2, k2⟩ mid2 post) Q f σ = preZ C σ pre (callZ C k (mid1Z C pre dst mid1 dst2 k2 mid2 post Q f) σ) f := by
  rw [wpZ_eq]
  show wpD C _ f σ Q = _
  unfold wpD
  rw [preZ_eq, ← preX_eq]
  have : (fun f1 => opV C σ (evO f1) k fun d1 σ1 => preW C σ1 pre f (fun g => g = f1) ∧ preW C σ1 mid1 (f1.put dst d1) fun f2 => opV C σ1 (evO f2) k2 fun d2 σ2 =>
      preW C σ2 pre f (fun g => g = f1) ∧ preW C σ2 mid1 (f1.put dst d1) (fun g => g = f2) ∧ preW C σ2 mid2 (f2.put dst2 d2) fun f3 => opsW C post f3 σ2 fun f σ => Q .normal f σ) = callZ C k (mid1Z C pre dst mid1 dst2 k2 mid2 post Q f) σ := by
    funext f1
    unfold callZ
    rw [opX_eq]
    congr 1
    funext d1 σ1
    unfold mid1Z
    rw [preZ_eq, preX_eq, preX_eq]
    have e2 : (fun f2 => opV C σ1 (evO f2) k2 fun d2 σ2 =>
        preW C σ2 pre f (fun g => g = f1) ∧ preW C σ2 mid1 (f1.put dst d1) (fun g => g = f2) ∧ preW C σ2 mid2 (f2.put dst2 d2) fun f3 => opsW C post f3 σ2 fun f σ => Q .normal f σ) = callZ C k2 (mid2Z C pre mid1 f f1 (f1.put dst d1) dst2 mid2 post Q) σ1 := by
      funext f2
      unfold callZ
      rw [opX_eq]
      congr 1
      funext d2 σ2
      unfold mid2Z postZ
      rw [preZ_eq, opsZ_eq, preX_eq, preX_eq, preX_eq]
      have e3 : opsX C post (normK Q) = fun f σ => opsW C post f σ fun f σ => Q .normal f σ := by
        funext f σ; rw [opsX_eq]; rfl
      rw [e3]
      rfl
    rw [e2]
    rfl
  rw [this]
end
end Go.Pd
