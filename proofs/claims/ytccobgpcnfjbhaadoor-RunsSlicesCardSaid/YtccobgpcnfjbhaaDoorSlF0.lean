/- Part F0. -/
import Derived.Test.YtccobgpcnfjbhaaDoorSlX9
import Derived.Test.YtccobgpcnfjbhaaDoorSlXH
import Derived.Shelf.Spec.TrailingZeros
set_option linter.unusedSectionVars false
set_option linter.unusedVariables false
set_option linter.unusedSimpArgs false
set_option linter.defProp false
set_option maxRecDepth 20000
set_option maxHeartbeats 1000000
open Go.Proofs.Tryd
namespace Go.Pd
open Go Go.Proofs
theorem mixed : prog.follows .mixedOrders=true:=by kernel_rfl
instance Yc : zJ := ⟨[(0, Lib.deBruijn64tab.map λ(n : Nat) => Value.int .u8 (n : Int))]⟩
theorem wZ {g:FuncId} {fn:Func} {own:List Nat} {N:Nat} {dc:DC} {rs:List rO} {args:List D} {σ:St} {d:D} {σ':St} (hf:prog.funcs[g]?=some fn) (hc:xW prog own fn=some (N,dc,rs))
  (h:D.vU args->gX ⟨prog,N,σ.nx,own,none⟩ dc (bY ⟨prog,N,σ.nx,own,none⟩ rs d σ') (rL 0 args) σ) (hla:args.length<=N:=by simp):xS prog g args σ d σ':=xS.l6 mixed hf hc hla h
namespace Rs
def mo (u:List (Int × Int)):List (Int × D):=u.map λp=>(p.1,.int .i64 p.2)
theorem iJ {nx n key sz:Nat} {xZ:List (Nat × Ob)} {xX:List (List D)} (hs:0<sz) (hp:∀ e ∈ xX,D.xR e=true) (h:St.look xZ key=vR sz xX) {ρ:Nat->Nat}:vw ⟨nx,xZ⟩ ⟨n,[]⟩ ρ (xI key sz xX) (.sl sz xX):=by
 cases xX with
 | nil=>simp [xI,vw]
 | cons e t=> simp only [xI,vw];exact⟨trivial,hs,by simp,⟨sz,e :: t⟩,h,rfl,Nat.le_refl _,by simp,hp⟩
end Rs
end Go.Pd
