/- Part XG. -/
import Derived.Test.YtccobgpcnfjbhaaDoorSlX9
set_option linter.unusedSectionVars false
set_option linter.unusedVariables false
set_option linter.unusedSimpArgs false
set_option linter.defProp false
set_option maxRecDepth 20000
set_option maxHeartbeats 1000000
namespace Go.Pd
open Go Go.Proofs
section
variable [zJ]
def cG (C:Cx) (pre mid1:List xT) (f f1 fd:Fr) (dst2:Option Nat) (mid2 post:List xT) (Q:Exit->Fr->St->Prop) (f2:Fr) (d2:D) (σ2:St):Prop:= oJ C σ2 pre (ez f1) f/\oJ C σ2 mid1 (ez f2) fd/\oJ C σ2 mid2 (gL C post Q σ2) (f2.put dst2 d2)
def cF (C:Cx) (pre:List xT) (dst:Option Nat) (mid1:List xT) (dst2:Option Nat) (k2:DK) (mid2 post:List xT) (Q:Exit->Fr->St->Prop) (f:Fr) (f1:Fr) (d1:D) (σ1:St):Prop:= oJ C σ1 pre (ez f1) f/\oJ C σ1 mid1 (oE C k2 (cG C pre mid1 f f1 (f1.put dst d1) dst2 mid2 post Q) σ1) (f1.put dst d1)
theorem bW {C:Cx} {σ:St} {f:Fr} {Q:Exit->Fr->St->Prop} {pre mid1 mid2 post:List xT} {dst dst2:Option Nat} {g g2:Option (Nat × Bool)} {k k2:DK} :
  gX C (.mB pre ⟨dst,g,k⟩ mid1 ⟨dst2,g2,k2⟩ mid2 post) Q f σ=oJ C σ pre (oE C k (cF C pre dst mid1 dst2 k2 mid2 post Q f) σ) f:=by
 rw [vA];show rR C _ f σ Q=_;unfold rR;rw [tQ,<- vO]
 have:(λf1=>wX C σ (wJ f1) k λd1 σ1=>yC C σ1 pre f (λg=>g=f1)/\ yC C σ1 mid1 (f1.put dst d1) λf2=>wX C σ1 (wJ f2) k2 λd2 σ2=> yC C σ2 pre f (λg=>g=f1)/\ yC C σ2 mid1 (f1.put dst d1) (λg=>g=f2)/\ yC C σ2 mid2 (f2.put dst2 d2) λf3=>wU C post f3 σ2 λf σ=>Q .normal f σ)= oE C k (cF C pre dst mid1 dst2 k2 mid2 post Q f) σ:=by
  funext f1;unfold oE;rw [eT];congr 1;funext d1 σ1;unfold cF;rw [tQ,vO,vO]
  have e2:(λf2=>wX C σ1 (wJ f2) k2 λd2 σ2=> yC C σ2 pre f (λg=>g=f1)/\ yC C σ2 mid1 (f1.put dst d1) (λg=>g=f2)/\ yC C σ2 mid2 (f2.put dst2 d2) λf3=>wU C post f3 σ2 λf σ=>Q .normal f σ)= oE C k2 (cG C pre mid1 f f1 (f1.put dst d1) dst2 mid2 post Q) σ1:=by
   funext f2;unfold oE;rw [eT];congr 1;funext d2 σ2;unfold cG gL;rw [tQ,oZ,vO,vO,vO]
   have e3:lY C post (nC Q)= λf σ=>wU C post f σ λf σ=>Q .normal f σ:=by funext f σ; rw [mY]; rfl
   rw [e3];rfl
  rw [e2];rfl
 rw [this]
end
end Go.Pd
