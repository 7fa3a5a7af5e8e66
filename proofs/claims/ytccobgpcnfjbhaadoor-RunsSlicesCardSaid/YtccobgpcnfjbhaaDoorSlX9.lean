/- Part X9. -/
import Derived.Test.YtccobgpcnfjbhaaDoorSlX8
import Derived.Test.YtccobgpcnfjbhaaDoorSlCode
set_option linter.unusedSectionVars false
set_option linter.unusedVariables false
set_option linter.unusedSimpArgs false
set_option linter.defProp false
set_option maxRecDepth 20000
set_option maxHeartbeats 1000000
namespace Go.Pd
open Go Go.Proofs
theorem tJ {α:Type} {l:List α} {k:Nat} {d:α} (h:k<l.length):l.take (k+1)= l.take k ++ [l.getD k d]:=by rw [List.take_add_one]; simp [List.getD,h]
theorem drop_cons {α:Type} {l:List α} {k:Nat} {d:α} (h:k<l.length):l.drop k=l.getD k d :: l.drop (k+1):=by simp [List.getD,h]
theorem zF {α:Type} {l:List α} {k:Nat} {d:α} (h:k<l.length):l.getD k d ∈ l:=by simp [List.getD,h]
variable [zJ]
theorem bG {key m n sz len:Nat} {xX:List (List D)} (hs:0<sz) (hp:∀ e ∈ xX,D.xR e=true) (hl:len=xX.length) {ρ:Nat->Nat} {r:List (Nat × Ob)}:vw ⟨m,(key,⟨sz,xX⟩) :: r⟩ ⟨n,[]⟩ ρ (.zZ key sz len) (.sl sz xX):=by subst hl;simp only [vw];exact⟨trivial,hs,by simp,⟨sz,xX⟩,by simp [St.get,St.look],rfl,Nat.le_refl _,by simp,hp⟩
theorem xS.ret {P:Program} {g:FuncId} {args:List D} {σ σ1 σ':St} {d1 d:D} (hc:xS P g args σ d1 σ1) (hr:nW σ.nx σ1 d1 σ' d):xS P g args σ d σ':=by
 refine⟨hc.ord,λM0 w ι vals hS hl hv=>(hc.run M0 w ι vals hS hl hv).mono λe w' hh=>?_⟩;obtain⟨v,ι1,he,kept,sL,nx,stay,vC,hR⟩:=hh
 rcases hr with ⟨rfl,rfl⟩ | ⟨ρ,r1,r2,r3,r4,r5⟩
 ·exact⟨v,ι1,he,kept,sL,nx,stay,vC,hR⟩
 ·have hlive:∀ p ∈ σ'.xZ,∃ ob,σ1.get (ρ p.1)= some ob:=λp hp=>by obtain⟨_,ob,h,_⟩:=r4 p hp;exact⟨ob,h⟩
  refine⟨v,λk=>ι1 (ρ k),he,kept,sL.view r4 r5,r1,λk hk=>?_,λk o hk=>?_,rH sL hlive _ _ hR r3⟩
  ·show ι1 (ρ k)= ι k;rw [r2 k hk]; exact stay k hk
  ·obtain⟨ob,h⟩:=hlive _ (yD hk);exact vC _ _ h
def rl (ll:List (List Int)):List (List D):=ll.map λl=>[.sl 1 (rows .i64 l)]
theorem yR (l:List (List Int)):(rl l).length=l.length:=by simp [rl]
theorem lU (l:List (List Int)) {i:Nat} (h:i<l.length):(rl l).getD i [] = [.sl 1 (rows .i64 (l.getD i []))]:=by simp [rl,List.getD,h]
theorem iw (l:List (List Int)) (r:List Int):rl l ++ [[.sl 1 (rows .i64 r)]]=rl (l ++ [r]):=by simp [rl]
theorem bc : rl [] = []:=rfl
theorem iv (l:List (List Int)):∀ e ∈ rl l,D.xR e=true:=by intro e he;simp only [rl,List.mem_map] at he;obtain⟨r,_,rfl⟩:=he;have h:∀ e ∈ rows .i64 r,D.xR e=true:=uL _ r;have:(rows .i64 r).all D.xR=true:=List.all_eq_true.2 h;simp [D.xR,D.xQ,this]
theorem bM (l:List (List Int)):vZ (rl l):=iv l
end Go.Pd
