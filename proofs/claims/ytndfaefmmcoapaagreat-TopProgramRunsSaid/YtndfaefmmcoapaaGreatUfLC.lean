/- Part LC. -/
import Derived.Test.YtndfaefmmcoapaaGreatUfKU
import Derived.Test.YtndfaefmmcoapaaGreatUfX6
import Derived.Test.YtndfaefmmcoapaaGreatUfXA
import Derived.Test.YtndfaefmmcoapaaGreatUfX9
import Derived.Shelf.Small.Bits
import Derived.Test.YtndfaefmmcoapaaGreatUfSC
import Derived.Test.YtndfaefmmcoapaaGreatUfC2
set_option linter.unusedSectionVars false
set_option linter.unusedVariables false
set_option linter.unusedSimpArgs false
set_option linter.defProp false
set_option maxRecDepth 20000
set_option maxHeartbeats 1000000
open Go.Proofs.Tryz
open List renaming mem_range->γ,range_succ->δ,nil_append->ε,map_append->ζ,map_congr_left->η,take_of_length_le->θ,mem_map->κ,range_zero->μ,mem_cons_of_mem->ν,pairwise_cons->ξ,map_nil->ο,ext_getElem->π,map_inj_right->τ,foldl_append->υ,findIdx_cons->χ,any_eq_false->ω,getElem_set->Aa,all_eq_true->Ab
open Nat renaming zero_le->Ac
open Bool renaming not_eq_true'->Ad,and_eq_true->Ae,or_eq_true->Af
namespace Go.Pd
open Go Go.Proofs
open BitVec renaming isValue -> ZA
open Rs Fm Ru Te Kb
namespace Kb
def tf (sts:List (List (BitVec 64))):List xC:=sts.map λst=>⟨[],st⟩
def tO (xN:List (BitVec 64)) (sts:List (List (BitVec 64))) (T:Nat):List xC:=YI (tf sts) xN.length T (lC xN sts)
def ke (l:List (List (List Int))):List (List D):=l.map λm=>[.sl 1 (pI m)]
theorem WE (l:List (List (List Int))):(ke l).length=l.length:=by simp [ke]
theorem On {l:List (List (List Int))} {i:Nat} (h:i<l.length):(ke l).getD i [] = [.sl 1 (pI (l.getD i []))]:=by simp [ke,List.getD,h]
theorem RK (l:List (List (List Int))) (m:List (List Int)):ke l ++ [[.sl 1 (pI m)]]=ke (l ++ [m]):=by simp [ke]
theorem RJ (l:List (List (List Int))):∀ e ∈ ke l,D.xP e=true:=by intro e he;simp only [ke,κ] at he;obtain⟨m,_,rfl⟩:=he;rfl
theorem iy (l:List (List (List Int))):tK (ke l):=RJ l
theorem Oo : ke [] = []:=rfl
theorem Ut (l:List xC) (r:xC):wM l ++ [[.sl 1 (rl r.loc),.sl 1 (us r.cU)]]=wM (l ++ [r]):=by simp [wM,xC.row]
theorem rT (l:List xC):tK (wM l):=Us l
theorem RS : wM [] = []:=rfl
theorem fW (sts:List (List (BitVec 64))):(tf sts).length=sts.length:=by simp [tf]
theorem aN (xN:List (BitVec 64)) (sts:List (List (BitVec 64))) (T:Nat):(tO xN sts T).length=sts.length:=by unfold tO; rw [RG,fW]
theorem aM {xN:List (BitVec 64)} {sts:List (List (BitVec 64))} {T i:Nat} (hi:i<sts.length) :
  (tO xN sts T).getD i rI=⟨(List.range T).map λt=>(List.range xN.length).map λa=>((below (p3 xN sts T a) (lC xN sts a (i,t)):Nat):Int),vN sts i⟩:=by
 unfold tO YI;rw [b7 (by rw [fW]; exact hi),fW];have:((tf sts).getD i rI).cU=vN sts i:=by simp [tf,vN,List.getD,hi]
 rw [this];rfl
end Kb
theorem Zl {α:Type} {l:List α} {k:Nat} {d:α} (h:k<l.length):l.take (k+1)= l.take k ++ [l.getD k d]:=vW h
theorem Rm {p:yF} {F:Nat} (hv:zd p F) {sts:List (List (BitVec 64))} {T:Nat} (hT:1<=T/\T<=16) (hR:1<=sts.length/\sts.length<=16) (hl:∀ st ∈ sts,st.length=T) :
  yW prog 70 [vr p sts] (sD p.xN.length F T (tO p.xN sts T)):=by
 have hA:=hv.hA
 have hh:∀ a r t,a<p.xN.length->r<sts.length->t<T->yW prog 75 [vr p sts,.int .i64 a,.int .i64 r,.int .i64 t] (.sl 1 (rows .u64 (lC p.xN sts a (r,t)))):=λa r t ha hr ht=>by have:=yj (zt p ha hr (show t<(sts.getD r []).length by have:=hl _ (xK (d:=[]) hr); omega) (by omega));rw [vc] at this;exact this
 have hw1:IntKind.i64.wrap ((T:Int)-1)= ((T:Int)-1):=wrap_i64 (by omega);have h73:=λa ha=>Yg (p:=p) (sts:=sts) (a:=a) (T:=T) ha hT hR λst hs=>by rw [hl st hs]; exact Nat.le_refl _
 have hasc:∀ a,r7 (p3 p.xN sts T a):=λa=>U1 (XG _)
 have hak:∀ a,(p3 p.xN sts T a).length<=1000:=λa=>by have h1:(p3 p.xN sts T a).length<=(cO ((qF T (sts.length*T)).map (lC p.xN sts a))).length:=Vq _ _;have h2:=(eF ((qF T (sts.length*T)).map (lC p.xN sts a))).length_eq;rw [List.length_map,tA] at h2;have hle:sts.length*T<=16*16:=Nat.mul_le_mul hR.2 hT.2;omega
 have hS:=λi (hi:i<sts.length)=>aM (xN:=p.xN) (T:=T) hi;have hSl:=aN p.xN sts T;have hst:∀ r,r<sts.length->(vN sts r).length=T:=λr hr=>hl _ (xK (d:=[]) hr);generalize lC p.xN sts=kf at *;generalize p3 p.xN sts T=al at *;generalize tO p.xN sts T=S at *;have hg0:=kY sts (show 0<sts.length by omega);have hd0:(0:Int)<(sts.length:Int):=by omega
 have hl0:=hst 0 (by omega);unfold vN at hl0;unfold vr Pb sD at *;rw [hv.fe] at *;refine xY.xQ mixed func70 FD (by simp) λhf=>?_;simp only [simprocAttr,-ZA,↓zU,↓zD,zV,zT,zW,wO,hd0,hg0,xH,hl0]
 (repeat refine sd ?_)
 refine wH (λa:Nat=>[(41,.int .i64 a),(40,.int .i64 p.xN.length),(5,xA 2 1 (ke ((List.range a).map al))),(4,.ref 1 4 0 0),(3,.int .i64 T),(2,.ref 0 4 0 0),(0,.ptr [.int .i64 F,.sl 1 (us p.init),.sl 1 (us p.xN),.sl 1 (qY p.xM),.sl 1 (qZ p.code),.sl 1 (rr sts)])])
  (λa=>⟨3,yV 2 1 (ke ((List.range a).map al))++ [(1,⟨4,[[.int .i64 p.xN.length,.int .i64 F,.int .i64 T,.xJ]]⟩),(0,⟨4,[[.int .i64 0,.int .i64 0,.int .i64 0,.xJ]]⟩)]⟩) (λa=>a<=p.xN.length) (λa=>p.xN.length-a) 0 (Ac _) ?_ ?_
 ·(refine xT.sZ [] [1,0] (by simp) (by simp) (by decide) ?_; simp only [yT,zQ,simprocAttr,-ZA,exists_eq_left',ne_eq,zR,μ,ο,Oo,vU,vV,ε])
 intro a ha;refine xL mixed ?_;by_cases hal:a<p.xN.length
 case pos=>
  have hd:((a:Int)<(p.xN.length:Int)):=by omega
  have h1:=h73 a hal;have hsu:(List.range (a+1)).map al=(List.range a).map al ++ [al a]:=by rw [δ,ζ]; rfl
  have hla:((List.range a).map al).length=a:=by simp
  generalize (List.range a).map al=L at *;simp only [simprocAttr,-ZA,↓zU,↓zD,zV,zT,zW,hd,hw1];refine .go (cr h1) ?_;simp only [simprocAttr,-ZA,↓zU,↓zD,zV,zT,zW,WE,hla]
  (repeat refine sd ?_)
  refine⟨a+1,by omega,?_,by omega⟩;rw [hsu]
  (refine xT.sZ [(2,3)] [2,1,0] (by simp) (by simp) (by decide) ?_; simp only [yT,zQ,simprocAttr,-ZA,exists_eq_left',ne_eq,zR,RK,iy])
  exact zI (by omega)
 have hd:¬ ((a:Int)<(p.xN.length:Int)):=by omega
 obtain rfl:a=p.xN.length:=by omega
 have hlal:((List.range p.xN.length).map al).length=p.xN.length:=by simp
 have hgal:∀ a,a<p.xN.length->(ke ((List.range p.xN.length).map al)).getD a [] = [.sl 1 (pI (al a))]:=λa ha=>by rw [On (by rw [hlal]; exact ha)]; simp [List.getD,ha]
 generalize (List.range p.xN.length).map al=L at *;simp only [simprocAttr,-ZA,↓zU,↓zD,zV,zT,zW,hd]
 refine .go [(5,.sl 1 (ke L)),(4,.ref 1 4 0 0),(3,.int .i64 T),(2,.ref 0 4 0 0),(0,.ptr [.int .i64 F,.sl 1 (us p.init),.sl 1 (us p.xN),.sl 1 (qY p.xM),.sl 1 (qZ p.code),.sl 1 (rr sts)])] ⟨2,[(1,⟨4,[[.int .i64 p.xN.length,.int .i64 F,.int .i64 T,.xJ]]⟩),(0,⟨4,[[.int .i64 0,.int .i64 0,.int .i64 0,.xJ]]⟩)]⟩ ?_ ?_
 ·(refine xT.sZ [] [1,0] (by simp) (by simp) (by decide) ?_; simp only [yT,zQ,simprocAttr,-ZA,exists_eq_left',ne_eq,zR,iy])
 simp only [simprocAttr,-ZA,↓zU,↓zD,zV,zT,zW,wO]
 refine xO (λr:Nat=>[(58,.int .i64 r),(57,.int .i64 sts.length),(56,.sl 1 (rr sts)),(5,.sl 1 (ke L)),(4,.ref 1 4 0 0),(3,.int .i64 T),(2,.ref 0 4 0 0),(0,.ptr [.int .i64 F,.sl 1 (us p.init),.sl 1 (us p.xN),.sl 1 (qY p.xM),.sl 1 (qZ p.code),.sl 1 (rr sts)])])
  (λr=>⟨3,yV 2 2 (wM (S.take r))++ [(1,⟨4,[[.int .i64 p.xN.length,.int .i64 F,.int .i64 T,xA 2 2 (wM (S.take r))]]⟩),(0,⟨4,[[.int .i64 0,.int .i64 0,.int .i64 0,.xJ]]⟩)]⟩) (λr=>r<=sts.length) (λr=>sts.length-r) 0 (Ac _) ?_ ?_
 ·(refine xT.sZ [] [1,0] (by simp) (by simp) (by decide) ?_; simp only [yT,zQ,simprocAttr,-ZA,exists_eq_left',ne_eq,zR,List.take_zero,RS,vU,vV,ε])
 intro r hr;refine xL mixed ?_;by_cases hrl:r<sts.length
 case neg=>
  have hd2:¬ ((r:Int)<(sts.length:Int)):=by omega
  rw [θ (show S.length<=r by omega)];simp only [simprocAttr,-ZA,↓zU,↓zD,zV,zT,zW,hd2]
  (refine oK.sZ [] [] (by simp) (by simp) (by decide) ?_; simp only [yT,zQ,simprocAttr,-ZA,exists_eq_left',ne_eq,zR,rT])
 have hd2:((r:Int)<(sts.length:Int)):=by omega
 have hgr:=kY sts hrl;have hlr:=hst r hrl;have hSr:=hS r hrl;have hSs:=Zl (l:=S) (d:=rI) (show r<S.length by omega);rw [hSr] at hSs;have hSl2:(S.take r).length=r:=by rw [List.length_take]; omega
 unfold vN at hlr hSs;have hcl:=Nb (c:=sts.getD r []) (by omega) (by omega);generalize sts.getD r []=st at *;generalize S.take r=S0 at *;simp only [simprocAttr,-ZA,↓zU,↓zD,zV,zT,zW,hd2,wO,hgr]
 (repeat refine sd ?_)
 refine .go (cr hcl) ?_;simp only [simprocAttr,-ZA,↓zU,↓zD,zV,zT,zW]
 (repeat refine sd ?_)
 let lrow:Nat->List Int:=(λt=>(List.range p.xN.length).map λa=>((below (al a) (kf a (r,t)):Nat):Int))
 have hlw:((List.range T).map λt=>(List.range p.xN.length).map λa=>((below (al a) (kf a (r,t)):Nat):Int))= (List.range T).map lrow:=rfl;rw [hlw] at hSs
 refine wH (λt:Nat=>[(67,.int .i64 t),(66,.int .i64 T),(58,.int .i64 r),(57,.int .i64 sts.length),(56,.sl 1 (rr sts)),(9,.ref 3 2 0 0),(7,.int .i64 r),(5,.sl 1 (ke L)),(4,.ref 1 4 0 0),(3,.int .i64 T),(2,.ref 0 4 0 0),(0,.ptr [.int .i64 F,.sl 1 (us p.init),.sl 1 (us p.xN),.sl 1 (qY p.xM),.sl 1 (qZ p.code),.sl 1 (rr sts)])])
  (λt=>⟨5,yV 4 1 (rl ((List.range t).map lrow))++ ((3,⟨2,[[xA 4 1 (rl ((List.range t).map lrow)),.sl 1 (us st)]]⟩) :: (yV 2 2 (wM S0)++ [(1,⟨4,[[.int .i64 p.xN.length,.int .i64 F,.int .i64 T,xA 2 2 (wM S0)]]⟩),(0,⟨4,[[.int .i64 0,.int .i64 0,.int .i64 0,.xJ]]⟩)]))⟩) (λt=>t<=T) (λt=>T-t) 0 (Ac _) ?_ ?_
 ·(refine xT.sZ [] [3,2,1,0] (by simp) (by simp) (by decide) ?_; simp only [yT,zQ,simprocAttr,-ZA,exists_eq_left',ne_eq,zR,μ,ο,Lt,vU,vV,ε,rT])
 intro t ht;refine xL mixed ?_;by_cases htl:t<T
 case neg=>
  have hd3:¬ ((t:Int)<(T:Int)):=by omega
  obtain rfl:t=T:=by omega
  generalize (List.range t).map lrow=LL at *;simp only [simprocAttr,-ZA,↓zU,↓zD,zV,zT,zW,hd3]
  refine .go [(58,.int .i64 r),(57,.int .i64 sts.length),(56,.sl 1 (rr sts)),(9,.ref 3 2 0 0),(5,.sl 1 (ke L)),(4,.ref 1 4 0 0),(3,.int .i64 t),(2,.ref 0 4 0 0),(0,.ptr [.int .i64 F,.sl 1 (us p.init),.sl 1 (us p.xN),.sl 1 (qY p.xM),.sl 1 (qZ p.code),.sl 1 (rr sts)])]
   ⟨4,(3,⟨2,[[.sl 1 (rl LL),.sl 1 (us st)]]⟩) :: (yV 2 2 (wM S0)++ [(1,⟨4,[[.int .i64 p.xN.length,.int .i64 F,.int .i64 t,xA 2 2 (wM S0)]]⟩),(0,⟨4,[[.int .i64 0,.int .i64 0,.int .i64 0,.xJ]]⟩)])⟩ ?_ ?_
  ·(refine xT.sZ [] [3,2,1,0] (by simp) (by simp) (by decide) ?_; simp only [yT,zQ,simprocAttr,-ZA,exists_eq_left',ne_eq,zR,rT,gA])
  simp only [simprocAttr,-ZA,↓zU,↓zD,zV,zT,zW,wV,hSl2]
  (repeat refine sd ?_)
  refine⟨r+1,by omega,?_,by omega⟩;rw [hSs];have hsn:=Ut S0 ⟨LL,st⟩;simp only at hsn
  (refine xT.sZ [(2,4)] [2,1,0] (by simp) (by simp) (by decide) ?_; simp only [yT,zQ,simprocAttr,-ZA,exists_eq_left',ne_eq,zR,hsn,rT])
  exact zI (by omega)
 have hd3:((t:Int)<(T:Int)):=by omega
 have hsu:(List.range (t+1)).map lrow=(List.range t).map lrow ++ [lrow t]:=by rw [δ,ζ]; rfl
 have hll:((List.range t).map lrow).length=t:=by simp
 generalize (List.range t).map lrow=LL at *;simp only [simprocAttr,-ZA,↓zU,↓zD,zV,zT,zW,hd3,xH]
 refine wH (λa:Nat=>[(76,.int .i64 a),(75,.int .i64 p.xN.length),(67,.int .i64 t),(66,.int .i64 T),(58,.int .i64 r),(57,.int .i64 sts.length),(56,.sl 1 (rr sts)),(11,xA 5 1 (rows .i64 ((List.range a).map λa=>((below (al a) (kf a (r,t)):Nat):Int)))),(10,.int .i64 t),(9,.ref 3 2 0 0),(7,.int .i64 r),(5,.sl 1 (ke L)),(4,.ref 1 4 0 0),(3,.int .i64 T),(2,.ref 0 4 0 0),(0,.ptr [.int .i64 F,.sl 1 (us p.init),.sl 1 (us p.xN),.sl 1 (qY p.xM),.sl 1 (qZ p.code),.sl 1 (rr sts)])])
  (λa=>⟨6,yV 5 1 (rows .i64 ((List.range a).map λa=>((below (al a) (kf a (r,t)):Nat):Int)))++ (yV 4 1 (rl LL)++ ((3,⟨2,[[xA 4 1 (rl LL),.sl 1 (us st)]]⟩) :: (yV 2 2 (wM S0)++ [(1,⟨4,[[.int .i64 p.xN.length,.int .i64 F,.int .i64 T,xA 2 2 (wM S0)]]⟩),(0,⟨4,[[.int .i64 0,.int .i64 0,.int .i64 0,.xJ]]⟩)])))⟩) (λa=>a<=p.xN.length) (λa=>p.xN.length-a) 0 (Ac _) ?_ ?_
 ·(refine xT.sZ [] [4,3,2,1,0] (by simp) (by simp) (by decide) ?_; simp only [yT,zQ,simprocAttr,-ZA,exists_eq_left',ne_eq,zR,μ,ο,jZ,vU,vV,ε,rT,gA])
 intro a ha;refine xL mixed ?_;by_cases hal:a<p.xN.length
 case neg=>
  have hd4:¬ ((a:Int)<(p.xN.length:Int)):=by omega
  obtain rfl:a=p.xN.length:=by omega
  have hlr2:((List.range p.xN.length).map λa=>((below (al a) (kf a (r,t)):Nat):Int))= lrow t:=rfl;rw [hlr2];generalize lrow t=x at *;simp only [simprocAttr,-ZA,↓zU,↓zD,zV,zT,zW,hd4]
  refine .go [(67,.int .i64 t),(66,.int .i64 T),(58,.int .i64 r),(57,.int .i64 sts.length),(56,.sl 1 (rr sts)),(11,.sl 1 (rows .i64 x)),(9,.ref 3 2 0 0),(7,.int .i64 r),(5,.sl 1 (ke L)),(4,.ref 1 4 0 0),(3,.int .i64 T),(2,.ref 0 4 0 0),(0,.ptr [.int .i64 F,.sl 1 (us p.init),.sl 1 (us p.xN),.sl 1 (qY p.xM),.sl 1 (qZ p.code),.sl 1 (rr sts)])]
   ⟨5,yV 4 1 (rl LL)++ ((3,⟨2,[[xA 4 1 (rl LL),.sl 1 (us st)]]⟩) :: (yV 2 2 (wM S0)++ [(1,⟨4,[[.int .i64 p.xN.length,.int .i64 F,.int .i64 T,xA 2 2 (wM S0)]]⟩),(0,⟨4,[[.int .i64 0,.int .i64 0,.int .i64 0,.xJ]]⟩)]))⟩ ?_ ?_
  ·(refine xT.sZ [] [4,3,2,1,0] (by simp) (by simp) (by decide) ?_; simp only [yT,zQ,simprocAttr,-ZA,exists_eq_left',ne_eq,zR,rT,gA])
  simp only [simprocAttr,-ZA,↓zU,↓zD,zV,zT,zW,pQ,hll]
  (repeat refine sd ?_)
  refine⟨t+1,by omega,?_,by omega⟩;rw [hsu]
  (refine xT.sZ [(4,5)] [4,3,2,1,0] (by simp) (by simp) (by decide) ?_; simp only [yT,zQ,simprocAttr,-ZA,exists_eq_left',ne_eq,zR,Om,rT,gA])
  exact zI (by omega)
 have hd4:((a:Int)<(p.xN.length:Int)):=by omega
 have hga:=hgal a hal;obtain⟨bb,hse⟩:=Uu (kf a (r,t)) (hasc a) (hak a);have h75:=hh a r t hal hrl htl;have hsu2:(List.range (a+1)).map (λa=>((below (al a) (kf a (r,t)):Nat):Int))= (List.range a).map (λa=>((below (al a) (kf a (r,t)):Nat):Int))++ [((below (al a) (kf a (r,t)):Nat):Int)]:=by rw [δ,ζ]; rfl
 have hla2:((List.range a).map λa=>((below (al a) (kf a (r,t)):Nat):Int)).length=a:=by simp
 have hdL:((a:Int)<(L.length:Int)):=by omega
 generalize (List.range a).map (λa=>((below (al a) (kf a (r,t)):Nat):Int))= W at *;simp only [simprocAttr,-ZA,↓zU,↓zD,zV,zT,zW,hd4,WE,hdL,hga]
 (repeat refine sd ?_)
 refine .go (cr h75) ?_;simp only [simprocAttr,-ZA,↓zU,↓zD,zV,zT,zW];refine .go (cr hse) ?_;simp only [simprocAttr,-ZA,↓zU,↓zD,zV,zT,zW,zK,hla2]
 (repeat refine sd ?_)
 refine⟨a+1,by omega,?_,by omega⟩;rw [hsu2]
 (refine xT.sZ [(5,6)] [5,4,3,2,1,0] (by simp) (by simp) (by decide) ?_; simp only [yT,zQ,simprocAttr,-ZA,exists_eq_left',ne_eq,zR,rT,gA])
 exact zI (by omega)
namespace Kb
def xp (p:yF) (n:Int):Int:=if uD p≠0 then uD p else if n<1\/6<n then 2 else 0
theorem aI {p:yF} {n:Int} (h:xp p n=0):∃ F k:Nat,zd p F/\n=((k+1:Nat):Int)/\ k<=5:=by
 unfold xp at h
 split at h
 ·rename_i h1; exact absurd h h1
 ·rename_i h1
  split at h
  ·cases h
  ·obtain⟨F,hv⟩:=fc (by simpa using h1);exact⟨F,(n-1).toNat,hv,by omega,by omega⟩
def bG (p:yF) (n:Int):sC:=if xp p n≠0 then⟨0,0,0,[]⟩ else⟨p.xN.length,p.F,n,tO p.xN (yS p (n.toNat-1)) n.toNat⟩
end Kb
theorem Uk (p:yF) (sm:gG p) (n:Int):yW prog 68 [p.d,.int .i64 n] (.int .i64 (xp p n)):=by
 have hC:=NJ p sm;unfold yF.d yF.cells xp at *;refine xY.xQ mixed func68 FB (by simp) λhf=>?_;simp only [simprocAttr,-ZA,↓zU,↓zD,zV,zT,zW]
 (repeat refine sd ?_)
 refine .go (cr hC) ?_;by_cases c:uD p=0
 case neg=>
  have c':(uD p != 0)= true:=by simpa using c
  rw [if_pos c];simp only [simprocAttr,-ZA,↓zU,↓zD,zV,zT,zW,c'];exact .dv
 have c':(uD p != 0)= false:=by simpa using c
 rw [if_neg (by simpa using c)]
 by_cases h1:n<1
 ·rw [if_pos (.inl h1)];simp only [simprocAttr,-ZA,↓zU,↓zD,zV,zT,zW,c',h1];exact .dv
 by_cases h2:6<n
 ·rw [if_pos (.inr h2)];simp only [simprocAttr,-ZA,↓zU,↓zD,zV,zT,zW,c',h1,h2];exact .dv
 rw [if_neg (by omega)];simp only [simprocAttr,-ZA,↓zU,↓zD,zV,zT,zW,c',h1,h2];exact .dv
theorem Yv {p:yF} {F k:Nat} (hv:zd p F) (hk:k<=5) {sts:List (List (BitVec 64))} (hS:YS p F sts k):yW prog 70 [vr p sts] (sD p.xN.length F (k+1) (tO p.xN sts (k+1))):= Rm hv ⟨by omega,by omega⟩ (by rw [hS.len]; exact hv.hI) hS.run
theorem SS (p:yF) (sm:gG p) (n:Int):yW prog 19 [p.d,.int .i64 n] (.wE [(bG p n).d,.int .i64 (xp p n)]):=by
 have hR:=Uk p sm n;by_cases c:xp p n=0
 case neg=>
  have c':(xp p n != 0)= true:=by simpa using c
  have hD:(bG p n).d = .agg [.int .i64 0,.int .i64 0,.int .i64 0,.sl 2 []]:=by unfold bG; rw [if_pos c]; rfl
  rw [hD];unfold yF.d yF.cells at *;refine xY.xQ mixed func19 FV (by simp) λhf=>?_;simp only [simprocAttr,-ZA,↓zU,↓zD,zV,zT,zW]
  (repeat refine sd ?_)
  refine .go (cr hR) ?_;simp only [simprocAttr,-ZA,↓zU,↓zD,zV,zT,zW,c']
  (repeat refine sd ?_)
  exact .drop (by simp) (by simp [vw,uR])
 have c':(xp p n != 0)= false:=by simpa using c
 obtain⟨F,k,hv,rfl,hk⟩:=aI c;have hP:=R9 hv (n:=k) (by omega);have hS:=Yv hv hk (iV hv k)
 have hD:(bG p ((k+1:Nat):Int)).d=sD p.xN.length F (k+1) (tO p.xN (yS p k) (k+1)):=by unfold bG;rw [if_neg (by simpa using c),Int.toNat_natCast,show k+1-1=k by omega];show D.agg [_,_,_,_]=D.agg [_,_,_,_];rw [hv.fe]
 rw [hD];generalize tO p.xN (yS p k) (k+1)= S at *;generalize yS p k=sts at *;unfold yF.d yF.cells vr Pb sD at *;refine xY.xQ mixed func19 FV (by simp) λhf=>?_;simp only [simprocAttr,-ZA,↓zU,↓zD,zV,zT,zW]
 (repeat refine sd ?_)
 refine .go (cr hR) ?_;simp only [simprocAttr,-ZA,↓zU,↓zD,zV,zT,zW,c'];refine .go (cr hP) ?_;simp only [simprocAttr,-ZA,↓zU,↓zD,zV,zT,zW];refine .go (cr hS) ?_;simp only [simprocAttr,-ZA,↓zU,↓zD,zV,zT,zW]
 (repeat refine sd ?_)
 exact .drop (by simp) (by simp [vw,uR]; simpa using c.symm)
end Go.Pd

/- Part XE. -/
namespace Go.Pd
open Go
variable [uC]
end Go.Pd

/- Part XF. -/
namespace Go.Pd
open Go
variable [uC]
def dd (mask:Nat):Fr->Fr
 | []=>[]
 | (t,d) :: r=>if mask.testBit t=true then dd mask r else(t,d) :: dd (mask ||| 2 ^ t) r
end Go.Pd

/- Part B0. -/
namespace Go.Pd
open Go Go.Proofs
open Go.Shelf
open Rs Fm Ru Te Kb
namespace Kb
theorem XZ {xN:List (BitVec 64)} {sts:List (List (BitVec 64))} {a r t:Nat} (h:t<(vN sts r).length):(lC xN sts a (r,t)).length=t+1:=by unfold lC;rw [List.length_map];exact qn h
end Kb
open Rs Fm Ru Te Kb
namespace Kb
end Kb
open Rs Fm Ru Te Kb
namespace Kb
end Kb
open Rs Fm Ru Te Kb
namespace Kb
end Kb
open Rs Fm Ru Te Kb
namespace Kb
end Kb
open Rs Fm Ru Te Kb
namespace Kb
structure vq (n : Nat) (sts sts' : List (List (BitVec 64))) : Prop where
 len:sts'.length=sts.length
 run:∀ i,i<sts.length->(vN sts' i).take n=(vN sts i).take n
theorem vq.refl (n:Nat) (sts:List (List (BitVec 64))):vq n sts sts:=⟨rfl,λ_ _=>rfl⟩
theorem vq.trans {n:Nat} {a b c:List (List (BitVec 64))} (h:vq n a b) (h':vq n b c):vq n a c:=⟨h'.len.trans h.len,λi hi=>(h'.run i (by rw [h.len]; exact hi)).trans (h.run i hi)⟩
theorem vq.mono {n m:Nat} {a b:List (List (BitVec 64))} (h:vq n a b) (hm:m<=n):vq m a b:=⟨h.len,λi hi=>by
 have:=congrArg (List.take m) (h.run i hi)
 rwa [List.take_take,List.take_take,Nat.min_eq_left hm] at this⟩
section
variable {n t : Nat} {sts sts' : List (List (BitVec 64))} {xN : List (BitVec 64)}
theorem vq.YU (h:vq n sts sts') (ht:t<n) {a r:Nat} (hr:r<sts.length):tN xN (vN sts' r) a t=tN xN (vN sts r) a t:=by have:=(h.mono (show t+1<=n from ht)).run r hr;unfold tN;rw [this]
theorem vq.state (h:vq n sts sts') (ht:t<n) {r:Nat} (hr:r<sts.length):(vN sts' r).getD t 0=(vN sts r).getD t 0:=by have:=(h.mono (show t+1<=n from ht)).run r hr;have e:=congrArg (λl:List (BitVec 64)=>l[t]?) this;simp only [List.getElem?_take,show t<t+1 by omega,↓reduceIte] at e;simp only [List.getD,e]
theorem vq.loc (h:vq n sts sts') (ht:t<n) {a w:Nat} (hw:w<sts.length):tq xN sts' t a w=tq xN sts t a w:=by
 unfold tq;rw [h.len,h.YU ht hw]
 have key:∀ (l:List Nat),(∀ v ∈ l,v<sts.length)->l.findIdx (λv=>decide (tN xN (vN sts' v) a t=tN xN (vN sts w) a t))= l.findIdx (λv=>decide (tN xN (vN sts v) a t=tN xN (vN sts w) a t)):=by
  intro l
  induction l with
  | nil=>intro _; rfl
  | cons v r ih=> intro hv;rw [χ,χ,h.YU ht (hv v (by simp)),ih λu hu=>hv u (by simp [hu])]
 exact key _ λv hv=>γ.1 hv
theorem vq.time (h:vq n sts sts') (ht:t<n):wD xN sts' t=wD xN sts t:=by unfold wD;rw [h.len];refine η λw hw=>?_;have hw:=γ.1 hw;rw [h.state ht hw];congr 2;refine η λa _=>?_;rw [h.loc ht hw]
theorem all_congr {α:Type} {l:List α} {f g:α->Bool} (h:∀ x ∈ l,f x=g x):l.all f=l.all g:=by
 induction l with
 | nil=>rfl
 | cons x r ih=>rw [List.all_cons,List.all_cons,h x (by simp),ih λy hy=>h y (by simp [hy])]
theorem vq.PO (h:vq n sts sts') (ht:t<n) {a w:Nat} (hw:w<sts.length) (f:List Nd):uf xN sts' t a f w=uf xN sts t a f w:=by unfold uf TR;rw [h.len,h.time ht];refine all_congr λv hv=>?_;rw [h.YU ht (γ.1 hv),h.YU ht hw]
theorem vq.uN (h:vq n sts sts') (ht:t<n) {a w:Nat} (hw:w<sts.length):∀ l,uN xN sts' t a w l=uN xN sts t a w l
 | []=>rfl
 | c :: r=>by unfold Kb.uN;rw [h.PO ht hw,h.uN ht hw r]
variable {p : yF}
theorem vq.za (h:vq n sts sts') (ht:t<n) {a w:Nat} (hw:w<sts.length):za p sts' t a w=za p sts t a w:=h.uN ht hw _
theorem Q7 {mv:List (List Int)} (hl:∀ st ∈ sts,n<=st.length):vq n sts (jH p sts mv) where
 len:=by simp [jH]
 run:=λi hi=>by
  have e:vN (jH p sts mv) i=vN sts i ++ [vl p sts mv i]:=by simp [vN,jH,List.getD,hi]
  rw [e,List.take_append_of_le_length (hl _ (pO hi))]
end
theorem qh {p:yF} {F:Nat} (hv:zd p F) {n:Nat}:∀ {m:Nat},n<=m->vq (n+1) (yS p n) (yS p m)
 | 0,h=>by
  have:n=0:=by omega
  subst this; exact .refl _ _
 | m+1,h=>by
  by_cases e:n=m+1
  ·subst e; exact .refl _ _
  ·exact(qh hv (m:=m) (by omega)).trans (Q7 λst hs=>by rw [(iV hv m).run st hs]; omega)
end Kb
open Rs Fm Ru Te Kb
namespace Kb
end Kb
end Go.Pd

/- Part SG. -/
namespace Go.Pd
open Go Go.Proofs
namespace Ru
end Ru
open Ru
open Ru
namespace Ru
end Ru
end Go.Pd

/- Part SP. -/
namespace Go.Pd
open Go Go.Proofs
namespace Ru
def hT (f:Nat->Int):Nat->List Int
 | 0=>[]
 | k+1=>if 0<k/\f k=f (k-1) then hT f k else hT f k ++ [f k]
end Ru
open Rs Fm Ru Te Kb
namespace Kb
instance : DecidableEq xC := λa b => decidable_of_iff (a.loc = b.loc /\ a.cU = b.cU) (by cases a; cases b; simp)
instance : DecidableEq sC := λa b => decidable_of_iff (a.ag = b.ag /\ a.fa = b.fa /\ a.ln = b.ln /\ a.rs = b.rs) (by cases a; cases b; simp)
def YE (x:List Int):List (List Int)->List (List Int)
 | []=>[x]
 | y :: l=>if kc y x<0 then y :: YE x l else x :: y :: l
def VI : List (List Int)->List (List Int)
 | []=>[]
 | x :: l=>YE x (VI l)
theorem zu (x:List Int):∀ l,(YE x l).Perm (x :: l)
 | []=>List.Perm.refl _
 | y :: l=>by
  unfold YE
  split
  ·exact((zu x l).cons y).trans (List.Perm.swap x y l)
  ·exact List.Perm.refl _
theorem ez : ∀ l,(VI l).Perm l
 | []=>List.Perm.refl _
 | x :: l=>(zu x _).trans ((ez l).cons x)
theorem Xb (x:List Int):∀ l,r7 l->r7 (YE x l)
 | [],_=>by unfold YE r7; simp
 | y :: l,h=>by
  have h1:=ξ.1 h;unfold YE
  split
  ·rename_i hc;refine ξ.2 ⟨λz hz=>?_,Xb x l h1.2⟩
   rcases List.mem_cons.1 ((zu x l).mem_iff.1 hz) with rfl | hz
   ·have:=lO y z; omega
   ·exact h1.1 z hz
  ·rename_i hc;refine ξ.2 ⟨λz hz=>?_,h⟩
   rcases List.mem_cons.1 hz with rfl | hz
   ·exact hc
   ·exact eL (h1.1 z hz) hc
theorem XC : ∀ l,r7 (VI l)
 | []=>List.Pairwise.nil
 | x :: l=>Xb x _ (XC l)
theorem Pk (l:List (List Int)):cO l=VI l:=(Vl (ez l) (XC l)).symm
theorem Th : cO=VI:=funext Pk
def Kj (xN:List (BitVec 64)) (sts:List (List (BitVec 64))) (T:Nat):List xC:= YJ (tf sts) xN.length T λa p=>below (dedup (VI ((qF T ((tf sts).length*T)).map (lC xN sts a)))) (lC xN sts a p)
theorem Rl (xN:List (BitVec 64)) (sts:List (List (BitVec 64))) (T:Nat):tO xN sts T=Kj xN sts T:=by unfold tO YI Kj o8;rw [Th]
def FT : List Nd:=PK (rZ 0) (VQ (pS 1 (rZ 0)))
def N9 : yF:=⟨2,[0#64,1#64],[1#64,2#64],[[⟨1,rZ 0⟩]],[[⟨FT,0⟩],[]]⟩
def Kz : sC:=⟨2,2,3,[⟨[[0,0],[2,1],[4,3]],[0#64,0#64,0#64]⟩,⟨[[1,0],[3,2],[5,4]],[1#64,3#64,3#64]⟩]⟩
theorem U5 : yS N9 2 = [[0#64,0#64,0#64],[1#64,3#64,3#64]]:=by decide +kernel
theorem Sc : xp N9 3=0:=by decide +kernel
theorem Nj : bG N9 3=Kz:=by unfold bG;rw [if_neg (by rw [Sc]; simp),show (3:Int).toNat=3 from rfl,U5,Rl];decide +kernel
end Kb
end Go.Pd

/- Part AX. -/
namespace Go.Pd
open Go Go.Proofs
open BitVec renaming isValue -> ZA
open Rs Fm Ru Te Kb
def Nw (d d':D):Prop:=∀ (M:Nat->Prop) (w:World) (v:Value),RP M w v d->RP M w v d'
theorem Nw.refl (d:D):Nw d d:=λ_ _ _ h=>h
theorem Nw.xJ (sz:Nat):Nw .xJ (.sl sz []):=λ_ _ v h=>by cases h;exact .mq _ _ _ (by simp)
theorem Nw.sl {sz:Nat} {xV els':List (List D)} (hl:xV.length=els'.length) (hw:∀ e ∈ els',e.length=sz)
  (h:∀ i,i<xV.length->∀ j,j<sz->Nw ((xV.getD i []).getD j .top) ((els'.getD i []).getD j .top)):Nw (.sl sz xV) (.sl sz els'):=λM w v hv=>by
 cases hv with
 | mq a cap sz hh=> have:els' = []:=List.length_eq_zero_iff.1 (by simpa using hl.symm);subst this;exact .mq _ _ _ hh
 | sl vs hs hM hc hm hl2 hcell hr=>
  have:=RP.sl (M:=M) (w:=w) (sz:=sz) (xV:=els') vs hs hM (by omega) hm hw (by rw [<- hl]; exact hcell) (by rw [<- hl]; exact λi hi j hj=>h i hi j hj M w _ (hr i hi j hj))
  rwa [<- hl] at this
theorem Nw.agg {ds cs:List D} (hl:ds.length=cs.length) (h:∀ j,j<cs.length->Nw (ds.getD j .top) (cs.getD j .top)):Nw (.agg ds) (.agg cs):=λM w v hv=>by
 cases hv with
 | agg h1 h2=>exact .agg (by omega) λj hj=>h j hj M w _ (h2 j (by omega))
theorem Nw.seen {σ:St} {K:Nat->Prop} {d d':D} (h:Nw d d') (hp:d.xD=true):Seen σ K d d':=λM0 w ι v hS hR=>h _ _ _ (Seen.pure hp M0 w ι v hS hR)
theorem yW.seen {P:Program} {g:FuncId} {args args':List D} {d:D} (hc:yW P g args' d) (h:kF gR (λ_=>False) args args'):yW P g args d:= xY.MV (σ:=gR) (objs':=[]) (λ_=>False) hc h λk o hk=>by cases hk
theorem JX (f g:List Nd):yW prog 92 [.sl 6 (zG f),.sl 6 (zG g)] (.sl 6 (zG (PK f g))):=by
 refine xY.xQ mixed func92 FK (by simp) λhf=>?_;simp only [simprocAttr,-ZA,↓zU,↓zD,zV,zT,zW]
 (repeat refine sd ?_)
 refine .go (xY.zP (uj ⟨5,0,0,0,0,0⟩ [f,g] (by simp)) (by simp [D.xP,D.xD,Nd.row,nl])) ?_;simp only [simprocAttr,-ZA,↓zU,↓zD,zV,zT,zW];exact .same
open Rs Fm Ru Te Kb
namespace Kb
instance : DecidableEq VU := λa b => decidable_of_iff (a.ag = b.ag /\ a.seen = b.seen /\ a.mv = b.mv) (by cases a; cases b; simp)
theorem Q6 : gG N9:=⟨by decide,by decide,by decide⟩
end Kb
open Rs Fm Ru Te Kb
def Md : D:=.agg [.int .i64 2,.sl 1 (us [0#64,1#64]),.sl 1 (us [1#64,2#64]),.sl 1 (qY [[⟨1,rZ 0⟩]]),.sl 1 [[.sl 2 (r8 [⟨FT,0⟩])],[.xJ]]]
theorem LY : Nw Md N9.d:=by
 refine Nw.agg rfl λj hj=>?_
 match j,hj with
 | 0,_=>exact Nw.refl _
 | 1,_=>exact Nw.refl _
 | 2,_=>exact Nw.refl _
 | 3,_=>exact Nw.refl _
 | 4,_=>
  refine Nw.sl rfl (by decide) λi hi j hj=>?_;have e:j=0:=by omega
  subst e
  match i,hi with
  | 0,_=>exact Nw.refl _
  | 1,_=>exact Nw.xJ 2
open Rs Fm Ru Te Kb
theorem LG (p:yF):yW prog 16 [p.d,.xJ] (.bool (nA p [])):=yW.seen (args':=[p.d,.sl 3 (TS [])]) (Ja p []) ⟨Seen.pure rfl,Seen.nil 3,trivial⟩
theorem ns {p:yF} {l:List VU} (h:nA p l=true):gG p:=by obtain⟨h1,h2,h3⟩:=U6 h;exact⟨h1,h2,h3⟩
open Rs Fm Ru Te Kb
namespace Kb
theorem Xt {p:yF} {F:Nat} (hv:zd p F) (k:Nat) {i:Nat} (hi:i<(yS p k).length):(vN (yS p k) i).length=k+1:=(iV hv k).run _ (pO hi)
theorem Y9 {p:yF} {F k:Nat} (hv:zd p F) (hk:k<=5) {sts:List (List (BitVec 64))} (hS:YS p F sts k):kQ (tO p.xN sts (k+1)) p.xN.length F (k+1):=by
 have hl:=aN p.xN sts (k+1);have hR:=hv.hI;have hn:=hS.len
 have key:∀ r ∈ tO p.xN sts (k+1),∃ i,i<sts.length/\r=⟨(List.range (k+1)).map λt=>(List.range p.xN.length).map λa=>((below (p3 p.xN sts (k+1) a) (lC p.xN sts a (i,t)):Nat):Int),vN sts i⟩:=λr hr=>by
  obtain⟨i,hi,rfl⟩:=List.getElem_of_mem hr;have hi':i<sts.length:=by omega
  refine⟨i,hi',?_⟩;rw [<- aM hi'];simp [List.getD,hi]
 refine⟨hv.hA.2,hv.hF,⟨by omega,by omega⟩,⟨by omega,by omega⟩,?_,?_,?_,?_,?_⟩
 ·rw [hl];have:sts.length*(k+1)<=16*6:=Nat.mul_le_mul (by omega) (by omega);omega
 ·intro r hr;obtain⟨i,hi,rfl⟩:=key r hr;simp
 ·intro r hr;obtain⟨i,hi,rfl⟩:=key r hr;exact hS.run _ (pO hi)
 ·intro r hr l hm;obtain⟨i,hi,rfl⟩:=key r hr;simp only [κ] at hm;obtain⟨t,_,rfl⟩:=hm;simp
 ·intro r hr f hm;obtain⟨i,hi,rfl⟩:=key r hr;exact hS.val _ (pO hi) f hm
theorem uv {xN:List (BitVec 64)} {sts:List (List (BitVec 64))} {T a:Nat} {x y:Nat × Nat} (ha:a<xN.length) (hx:x.1<sts.length/\x.2<T) (hy:y.1<sts.length/\y.2<T) :
  yO (tO xN sts T) a x=yO (tO xN sts T) a y ↔ lC xN sts a x=lC xN sts a y:=RH ha (by rw [fW]; exact hx) (by rw [fW]; exact hy)
theorem gq {p:yF} {F k:Nat} {sts:List (List (BitVec 64))} (hS:YS p F sts k) {a:Nat} {x y:Nat × Nat} (hx:x.1<sts.length/\x.2<k+1) (hy:y.1<sts.length/\y.2<k+1) (h:lC p.xN sts a x=lC p.xN sts a y):x.2=y.2:=by obtain⟨i,t⟩:=x;obtain⟨j,u⟩:=y;have h1:=XZ (xN:=p.xN) (a:=a) (sts:=sts) (r:=i) (t:=t) (by rw [show (vN sts i).length=k+1 from hS.run _ (pO hx.1)]; exact hx.2);have h2:=XZ (xN:=p.xN) (a:=a) (sts:=sts) (r:=j) (t:=u) (by rw [show (vN sts j).length=k+1 from hS.run _ (pO hy.1)]; exact hy.2);rw [h] at h1;show t=u;omega
theorem ZE {p:yF} {k:Nat} (h:uD p=0) (hk:k<=5):xp p ((k+1:Nat):Int)= 0/\∃ F,zd p F/\bG p ((k+1:Nat):Int)= ⟨p.xN.length,F,((k+1:Nat):Int),tO p.xN (yS p k) (k+1)⟩:=by
 have h1:xp p ((k+1:Nat):Int)= 0:=by unfold xp;rw [if_neg (by simpa using h),if_neg (by omega)]
 obtain⟨F,hv⟩:=fc h;refine⟨h1,F,hv,?_⟩;unfold bG;rw [if_neg (by simpa using h1),hv.fe];rfl
end Kb
end Go.Pd

/- Part Z2. -/
namespace Go.Pd
open Go Go.Proofs
open Rs Fm Ru Te
namespace Te
abbrev uf (a:Int) (t:Tr):Tr:=.nd 9 a 0 0 t .nil
section
variable {A F : Nat} {f g : List Nd} {t u : Tr}
theorem O5 {a:Nat} (ha:a<A) (hA:A<=4) (h:Is A F f t) (hl:VY t<200):Is A F (pS a f) (uf a t)/\ VY (uf a t)<=VY t+1:=by
 refine h.un (x:=⟨9,a,0,0,0,0⟩) rfl rfl ?_ rfl ?_ hl
 ·have:a=0\/a=1\/a=2\/a=3:=by omega
  rcases this with rfl | rfl | rfl | rfl <;> decide
 ·have h1:sN ⟨9,(a:Int),0,0,0,0⟩&&& 3824=0:=show (1:Nat)&&& 3824=0 by decide
  have h2:vX ⟨9,a,0,0,0,0⟩/ 2 ^ A=0:=by have:vX ⟨9,a,0,0,0,0⟩= 2 ^ a:=rfl;rw [this];exact Nat.div_eq_of_lt (Nat.pow_lt_pow_right (by decide) ha)
  have h3:rK ⟨9,a,0,0,0,0⟩= 0:=rfl;simp [Wj,h1,h2,h3]
end
section
variable {rs : List xC} {A T : Nat} {t u : Tr} {p : Nat × Nat}
theorem Nh {a:Nat}:eD rs A T (uf a t) p=wS rs T a (eD rs A T t) p:=rfl
end
theorem QJ {rs:List xC} {T a:Nat} {x:tJ} {p:Nat × Nat}:wS rs T a x p=true ↔ ∀ q ∈ wQ rs T,yO rs a q=yO rs a p->x q=true:=by
 unfold wS;simp only [Ab,Af,Ad,decide_eq_false_iff_not]
 constructor
 ·intro h q hq e; exact(h q hq).resolve_left (λn=>n e)
 ·intro h q hq
  by_cases e:yO rs a q=yO rs a p
  ·exact .inr (h q hq e)
  ·exact .inl e
end Te
open Rs Fm Ru Te Kb
namespace Kb
section
variable {rs rs' : List xC} {A : Nat} (hl : rs'.length = rs.length) (hf : ∀ j, j < rs.length -> lZ rs' (j, 0) = lZ rs (j, 0)) (hloc : ∀ a, a < A -> ∀ i, i < rs.length -> ∀ j, j < rs.length -> (yO rs' a (i, 0) = yO rs' a (j, 0) ↔ yO rs a (i, 0) = yO rs a (j, 0)))
include hl
theorem Vz : wQ rs' 1=wQ rs 1:=by unfold wQ; rw [hl]
theorem Sl {q:Nat × Nat} (hq:q ∈ wQ rs 1):∃ j,j<rs.length/\q=(j,0):=by
 obtain⟨j,u⟩:=q;obtain⟨hj,hu⟩:=cK (Nat.le_refl 1) hq;simp only at hj hu;obtain rfl:u=0:=by omega
 exact⟨j,hj,rfl⟩
include hloc
theorem qq {a:Nat} (ha:a<A) {x y:tJ} (h:∀ j,j<rs.length->x (j,0)= y (j,0)) {i:Nat} (hi:i<rs.length):wS rs' 1 a x (i,0)= wS rs 1 a y (i,0):=by unfold wS;rw [Vz hl];refine nO λq hq=>?_;obtain⟨j,hj,rfl⟩:=Sl hl hq;rw [h j hj,decide_eq_decide.2 (hloc a ha j hj i hi)]
theorem fm {g:Nat} {x y:tJ} (h:∀ j,j<rs.length->x (j,0)= y (j,0)) {i:Nat} (hi:i<rs.length):uX rs' A 1 g x (i,0)= uX rs A 1 g y (i,0):=by unfold uX;refine nO λa ha=>?_;rw [qq hl hloc (γ.1 ha) h hi]
theorem Vo {g:Nat} {x y x' y':tJ} (h:∀ j,j<rs.length->x (j,0)= x' (j,0)) (h':∀ j,j<rs.length->y (j,0)= y' (j,0)):∀ (n:Nat) {i:Nat},i<rs.length->wJ rs' A 1 g x y n (i,0)= wJ rs A 1 g x' y' n (i,0)
 | 0,_,_=>rfl
 | n+1,i,hi=>by show uX rs' A 1 g _ (i,0)= uX rs A 1 g _ (i,0);refine fm hl hloc (λj hj=>?_) hi;show (!x (j,0) || (y (j,0)&& wJ rs' A 1 g x y n (j,0)))= (!x' (j,0) || (y' (j,0)&& wJ rs A 1 g x' y' n (j,0)));rw [h j hj,h' j hj,Vo h h' n hj]
theorem Q0 {g:Nat} {x y:tJ} (h:∀ j,j<rs.length->x (j,0)= y (j,0)) {i:Nat} (hi:i<rs.length):kG rs' A 1 g x (i,0)= kG rs A 1 g y (i,0):=by
 unfold kG;rw [Vz hl];refine nO λq hq=>?_;obtain⟨j,hj,rfl⟩:=Sl hl hq
 have:bR rs' A g (i,0) (j,0)= bR rs A g (i,0) (j,0):=by unfold bR;refine nO λa ha=>?_;rw [decide_eq_decide.2 (hloc a (γ.1 ha) i hi j hj)]
 rw [this,h j hj]
include hf
theorem Qp {F:Nat} {n:Nd} (hn:yM n 1=0) (hst:rL A F n=true) {x y x' y':tJ} (hx:∀ j,j<rs.length->x (j,0)= x' (j,0)) (hy:∀ j,j<rs.length->y (j,0)= y' (j,0)) {i:Nat} (hi:i<rs.length) :
  zL rs' A 1 n x y (i,0)= zL rs A 1 n x' y' (i,0):=by
 have hi0:n.op=9\/n.op=10->0<=n.i:=λh=>by
  rcases h with h | h
  ·exact(uJ hn (by rw [h]; rfl)).1
  ·exact(uJ hn (by rw [h]; rfl)).1
 obtain⟨op,a,e,g,p,q⟩:=n;have hop:=aK (A:=A) (F:=F) (op:=op) (i:=a) (e:=e) (g:=g) hst;have:op=1\/op=2\/op=3\/op=4\/op=5\/op=6\/op=7\/op=8\/op=9\/op=10\/op=11\/op=12\/op=13:=by omega
 rcases this with rfl | rfl | rfl | rfl | rfl | rfl | rfl | rfl | rfl | rfl | rfl | rfl | rfl
 ·rfl
 ·rfl
 ·show (lZ rs' (i,0)).getLsbD a.toNat=(lZ rs (i,0)).getLsbD a.toNat;rw [hf i hi]
 ·show (!x (i,0))= !x' (i,0);rw [hx i hi]
 ·show (x (i,0)&& y (i,0))= (x' (i,0)&& y' (i,0));rw [hx i hi,hy i hi]
 ·show (x (i,0) || y (i,0))= (x' (i,0) || y' (i,0));rw [hx i hi,hy i hi]
 ·show (!x (i,0) || y (i,0))= (!x' (i,0) || y' (i,0));rw [hx i hi,hy i hi]
 ·show (x (i,0)== y (i,0))= (x' (i,0)== y' (i,0));rw [hx i hi,hy i hi]
 ·have h0:0<=a:=hi0 (.inl rfl);have h1:a<(A:Int):=of_decide_eq_true hst;exact qq hl hloc (show a.toNat<A by omega) hx hi
 ·have h0:0<=a:=hi0 (.inr rfl);have h1:a<(A:Int):=of_decide_eq_true hst;show (!wS rs' 1 a.toNat (λq=>!x q) (i,0))= !wS rs 1 a.toNat (λq=>!x' q) (i,0);rw [qq hl hloc (show a.toNat<A by omega) (x:=λq=>!x q) (y:=λq=>!x' q) (λj hj=>by rw [hx j hj]) hi]
 ·exact fm hl hloc hx hi
 ·exact Q0 hl hloc hx hi
 ·show wJ rs' A 1 g.toNat x y (rs'.length*1) (i,0)= wJ rs A 1 g.toNat x' y' (rs.length*1) (i,0);rw [hl];exact Vo hl hloc hx hy _ hi
theorem Zx {F:Nat}:∀ (x:Tr),Ta x->tT A F x=true->∀ {i:Nat},i<rs.length->eD rs' A 1 x (i,0)= eD rs A 1 x (i,0)
 | .nil,_,_,_,_=>rfl
 | .nd op i e g x y,hw,hfi,j,hj=>by
  obtain⟨hn,hwx,hwy⟩:=hw;have hf':(rL A F ⟨op,i,e,g,0,0⟩&& (tT A F x&&tT A F y))= true:=hfi;simp only [Ae] at hf';obtain⟨h1,h2,h3⟩:=hf';show zL rs' A 1 ⟨op,i,e,g,0,0⟩ (eD rs' A 1 x) (eD rs' A 1 y) (j,0)= zL rs A 1 ⟨op,i,e,g,0,0⟩ (eD rs A 1 x) (eD rs A 1 y) (j,0)
  refine Qp hl hf hloc hn h1 (λi hi=>?_) (λi hi=>?_) hj
  ·split at hwx
   ·exact Zx x hwx h2 hi
   ·rw [hwx]; rfl
  ·split at hwy
   ·exact Zx y hwy h3 hi
   ·rw [hwy]; rfl
end
theorem QI {p:yF} {F k:Nat} (hv:zd p F) (hk:k<=5) {sts:List (List (BitVec 64))} (hS:YS p F sts k) {t:Nat} (ht:t<k+1) {a:Nat} (ha:a<p.xN.length) {f:List Nd} (hE:ze p f 15=0) {r:Nat} (hr:r<sts.length) :
  eD (tO p.xN sts (k+1)) p.xN.length (k+1) (Te.uf a (uE f)) (r,t)= Kb.uf p.xN sts t a f r:=by
 obtain⟨h1,h2,h3⟩:=aU hE;rw [hv.fe] at h3;have ok:=Y9 hv hk hS;have hl:=aN p.xN sts (k+1)
 have hsy:N5 (tO p.xN sts (k+1)) p.xN.length (k+1):=λa ha x y hx hy h=>by rw [hl] at hx hy;exact gq hS hx hy ((uv ha hx hy).1 h)
 have hG:=YS.VK hv hS (show t<=k by omega) (by omega);have hfine:=yx ok h1 h2 h3
 have hval:∀ v,v<sts.length->eD (tO p.xN sts (k+1)) p.xN.length (k+1) (uE f) (v,t)= TR p.xN sts t f v:=λv hv2=>by
  rw [<- Y0 hsy ok.hT.1 ht _ (aP h1) hfine (by rw [hl]; exact hv2)]
  refine Zx (rs:=wD p.xN sts t) (by rw [lR,hl,qM]) (λj hj=>?_) (λb hb i hi j hj=>?_) _ (aP h1) hfine (by rw [qM]; exact hv2)
  ·rw [qM] at hj;rw [W8 (by rw [hl]; exact hj),j7 hj];unfold lZ;rw [aM hj]
  ·rw [qM] at hi hj;rw [nQ (by rw [hl]; exact hi),nQ (by rw [hl]; exact hj),uv hb ⟨hi,ht⟩ ⟨hj,ht⟩,aO hb hi hj];unfold lC;exact τ λx y=>ct.1
 rw [Nh,Bool.eq_iff_iff,QJ];unfold Kb.uf;simp only [Ab,γ,Af,Ad,decide_eq_false_iff_not]
 constructor
 ·intro h v hv2
  by_cases e:tN p.xN (vN sts v) a t=tN p.xN (vN sts r) a t
  ·refine .inr ?_;rw [<- hval v hv2];refine h (v,t) (lP ok.hT.1 (by rw [hl]; exact hv2) ht) ((uv ha ⟨hv2,ht⟩ ⟨hr,ht⟩).2 ?_);unfold lC;rw [e]
  ·exact .inl e
 ·intro h q hq e;obtain⟨j,u⟩:=q;obtain⟨hj,hu⟩:=cK ok.hT.1 hq;simp only at hj hu;rw [hl] at hj;have e1:=(uv ha ⟨hj,hu⟩ ⟨hr,ht⟩).1 e;have e2:u=t:=gq hS ⟨hj,hu⟩ ⟨hr,ht⟩ e1;subst e2;rw [hval j hj];refine(h j hj).resolve_left λn=>n ?_;unfold lC at e1;exact(τ λx y=>ct.1).1 e1
end Kb
end Go.Pd

/- Part NI. -/
namespace Go.Pd
open Go Go.Proofs
open BitVec renaming isValue -> ZA
open Rs Fm Ru Te Kb
namespace Kb
def cP (q:Nat->Bool):List eC->Nat->Int
 | [],_=>-1
 | c :: l,k=>if q k=true then c.mv else cP q l (k+1)
theorem Jl {p:yF} {c:eC} (h:lE p c=0):-1<=c.mv/\c.mv<p.xM.length:=by
 unfold lE at h
 split at h
 ·rename_i h1; exact absurd h h1
 ·split at h
  ·cases h
  ·omega
theorem gh {xN:List (BitVec 64)} {sts:List (List (BitVec 64))} {t a w:Nat}:∀ (l:List eC) (k:Nat) (q:Nat->Bool),(∀ i,i<l.length->q (k+i)= Kb.uf xN sts t a (l.getD i vf).test w)->cP q l k=uN xN sts t a w l
 | [],_,_,_=>rfl
 | c :: l,k,q,h=>by
  have h0:q k=Kb.uf xN sts t a c.test w:=h 0 (by simp);unfold cP uN;rw [h0]
  split
  ·rfl
  ·exact gh l (k+1) q λi hi=>by have:=h (i+1) (by simpa using hi);rw [show k+1+i=k+(i+1) by omega];exact this
theorem OR {M:BitVec 64} {n v:Nat}:(M >>> v &&& 1#64) <<< n=if M.getLsbD v=true then 1#64 <<< n else 0#64:=by rw [qe];cases M.getLsbD v <;> simp
end Kb
theorem NP {p:yF} {F:Nat} (hv:zd p F) (hF4:F<=4) {A T:Int} {rs TT L:List (List D)} {st:List (BitVec 64)} {r t:Nat} (hr:r<rs.length) (hrow:rs.getD r [] = [.sl 1 L,.sl 1 (us st)]) (ht:t<st.length) (hs:st.getD t 0#64 >>> F=0#64)
  {q:Nat->Nat->Bool} (hpT:∀ e ∈ TT,D.xP e=true) (hlT:TT.length=p.code.length) (hcell:∀ a,a<p.code.length->∀ k,k<(p.code.getD a []).length->∃ X Y Z,TT.getD a [] = [.sl 1 X]/\X.getD k [] = [.sl 1 Y]/\Y.getD r [] = [.sl 1 Z]/\Z.getD t [] = [.bool (q a k)]/\k<X.length/\r<Y.length/\t<Z.length)
  (hr9:r<1000) (ht9:t<1000) :
  yW prog 45 [p.d,.agg [.int .i64 A,.int .i64 F,.int .i64 T,.sl 2 rs],.sl 1 TT,.int .i64 r,.int .i64 t] (.wE [.int .u64 (ui (mc p (st.getD t 0#64) ((List.range p.code.length).map λa=>cP (q a) (p.code.getD a []) 0))),.bool true]):=by
 have hg1:=vL st ht;have hM:=λ(f:List Nd) hE=>UQ (p:=p) (f:=f) hv.fe hF4 hE
 have hD:p.d = .agg [.int .i64 F,.sl 1 (us p.init),.sl 1 (us p.xN),.sl 1 (qY p.xM),.sl 1 (qZ p.code)]:=by rw [<- hv.fe]; rfl
 have hC4:p.code.length<=4:=by have:=hv.hC; have:=hv.hA; omega
 have hs':st.getD t 0 >>> F=0#64:=hs;have hsE:st.getD t 0#64=st.getD t 0:=rfl;rw [hsE];generalize st.getD t 0=s0 at *;rw [hD];refine xY.xQ mixed func45 Es (by simp) λhf=>?_;simp only [simprocAttr,-ZA,↓zU,↓zD,zV,zT,zW,xH,hrow,hg1,zN]
 (repeat refine sd ?_)
 refine xO (λa:Nat=>[(34,.int .i64 a),(33,.int .i64 p.code.length),(13,.int .u64 (ui (((List.range a).map λa=>cP (q a) (p.code.getD a []) 0).foldl (kM p s0) s0))),(12,.int .u64 (ui s0)),(5,.ref 0 5 0 0),(4,.int .i64 t),(3,.int .i64 r),(2,.sl 1 TT)])
  (λ_=>⟨1,[(0,⟨5,[[.int .i64 F,.sl 1 (us p.init),.sl 1 (us p.xN),.sl 1 (qY p.xM),.sl 1 (qZ p.code)]]⟩)]⟩)
  (λa=>a<=p.code.length) (λa=>p.code.length-a) 0 (Ac _) ?_ ?_
 ·(refine xT.sZ [] [0] (by simp) (by simp) (by decide) ?_; simp only [yT,zQ,simprocAttr,-ZA,exists_eq_left',ne_eq,zR,μ,ο,List.foldl_nil])
 intro a ha;refine xL mixed ?_;by_cases hal:a<p.code.length
 case neg=>
  have hd:¬ ((a:Int)<(p.code.length:Int)):=by omega
  obtain rfl:a=p.code.length:=by omega
  simp only [simprocAttr,-ZA,↓zU,↓zD,zV,zT,zW,hd];exact .drop (by simp) (by simp [vw,uR,mc])
 have hd:((a:Int)<(p.code.length:Int)):=by omega
 have hcell:=hcell a hal;have hg2:=lN p.code hal;have hmem:=xK (d:=[]) hal;have hcl:=hv.cl _ hmem;have hcE:=hv.code _ hmem
 have hfo:((List.range (a+1)).map λa=>cP (q a) (p.code.getD a []) 0).foldl (kM p s0) s0=kM p s0 (((List.range a).map λa=>cP (q a) (p.code.getD a []) 0).foldl (kM p s0) s0) (cP (q a) (p.code.getD a []) 0):=by rw [δ,ζ,υ]; rfl
 generalize ((List.range a).map λa=>cP (q a) (p.code.getD a []) 0).foldl (kM p s0) s0=out0 at *;generalize p.code.getD a []=l at *;generalize q a=qa at *;simp only [simprocAttr,-ZA,↓zU,↓zD,zV,zT,zW,hd,zN,hg2,wG]
 (repeat refine sd ?_)
 refine xO (λk:Nat=>[(43,.int .i64 k),(42,.int .i64 l.length),(41,.sl 2 (r8 l)),(34,.int .i64 a),(33,.int .i64 p.code.length),(14,.int .i64 a),(13,.int .u64 (ui out0)),(12,.int .u64 (ui s0)),(5,.ref 0 5 0 0),(4,.int .i64 t),(3,.int .i64 r),(2,.sl 1 TT)])
  (λ_=>⟨1,[(0,⟨5,[[.int .i64 F,.sl 1 (us p.init),.sl 1 (us p.xN),.sl 1 (qY p.xM),.sl 1 (qZ p.code)]]⟩)]⟩)
  (λk=>k<=l.length/\cP qa l 0=cP qa (l.drop k) k) (λk=>l.length-k) 0 ⟨Ac _,rfl⟩ ?_ ?_
 ·(refine xT.same ?_; simp [xR,Fr.get])
 rintro k ⟨hk,hfk⟩;refine xL mixed ?_;by_cases hkl:k<l.length
 case neg=>
  have hd2:¬ ((k:Int)<(l.length:Int)):=by omega
  have hm1:cP qa l 0 = -1:=by rw [hfk,List.drop_eq_nil_of_le (by omega)]; rfl
  rw [hm1,show kM p s0 out0 (-1)= out0 from if_pos (by decide)] at hfo;simp only [simprocAttr,-ZA,↓zU,↓zD,zV,zT,zW,hd2];refine⟨a+1,by omega,?_,by omega⟩;rw [hfo]
  (refine xT.same ?_; simp only [xR,Fr.get,simprocAttr,-ZA,zS])
  exact zI (by omega)
 have hd2:((k:Int)<(l.length:Int)):=by omega
 have hgk:=eV l hkl;obtain⟨X,Y,Z,x1,x2,x3,x4,x5,x6,x7⟩:=hcell k hkl;obtain⟨m0,m1⟩:=Jl (hcE _ (xK (d:=vf) hkl));rw [drop_cons (d:=vf) hkl,cP] at hfk;unfold eC.row at hgk;generalize l.getD k vf=c at *;generalize hqb:qa k=b at *
 cases b with
 | false=>
  rw [if_neg (by decide)] at hfk;simp only [simprocAttr,-ZA,↓zU,↓zD,zV,zT,zW,hd2,wG,hgk,x1,x2,x3,x4,hlT]
  (repeat refine sd ?_)
  refine⟨k+1,⟨hkl,hfk⟩,?_,by omega⟩
  (refine xT.sZ [] [0] (by simp) (by simp) (by decide) ?_; simp only [yT,zQ,simprocAttr,-ZA,exists_eq_left',ne_eq,zR,zI (show k<=1000000000 by omega)])
 | true=>
 rw [if_pos rfl] at hfk;rw [hfk] at hfo;by_cases hq:0<=c.mv
 case neg=>
  rw [show kM p s0 out0 c.mv=out0 from if_pos (by omega)] at hfo;simp only [simprocAttr,-ZA,↓zU,↓zD,zV,zT,zW,hd2,wG,hgk,x1,x2,x3,x4,hlT,hq]
  (repeat refine sd ?_)
  refine⟨a+1,by omega,?_,by omega⟩;rw [hfo]
  (refine xT.sZ [] [0] (by simp) (by simp) (by decide) ?_; simp only [yT,zQ,simprocAttr,-ZA,exists_eq_left',ne_eq,zR,zI (show a<=1000000000 by omega)])
 have hqn:c.mv.toNat<p.xM.length:=by omega
 have hgm:=iT p.xM hqn;have hmm:=xK (d:=[]) hqn;have hml8:=XD hv hmm;have hmA:=hv.mv _ hmm;rw [show kM p s0 out0 c.mv=(p.xM.getD c.mv.toNat []).foldl (gS p.xN.length s0) out0 from if_neg (by omega)] at hfo;generalize p.xM.getD c.mv.toNat []=m at *;simp only [simprocAttr,-ZA,↓zU,↓zD,zV,zT,zW,hd2,wG,hgk,x1,x2,x3,x4,hlT,hq,yE,hgm,vS]
 (repeat refine sd ?_)
 refine xO (λj:Nat=>[(73,.int .i64 j),(72,.int .i64 m.length),(71,.sl 2 (p9 m)),(34,.int .i64 a),(33,.int .i64 p.code.length),(13,.int .u64 (ui ((m.take j).foldl (gS p.xN.length s0) out0))),(12,.int .u64 (ui s0)),(5,.ref 0 5 0 0),(4,.int .i64 t),(3,.int .i64 r),(2,.sl 1 TT)])
  (λ_=>⟨1,[(0,⟨5,[[.int .i64 F,.sl 1 (us p.init),.sl 1 (us p.xN),.sl 1 (qY p.xM),.sl 1 (qZ p.code)]]⟩)]⟩)
  (λj=>j<=m.length) (λj=>m.length-j) 0 (Ac _) ?_ ?_
 ·(refine xT.sZ [] [0] (by simp) (by simp) (by decide) ?_; simp only [yT,zQ,simprocAttr,-ZA,exists_eq_left',ne_eq,zR,List.take_zero,List.foldl_nil])
 intro j hj;refine xL mixed ?_;by_cases hjl:j<m.length
 case neg=>
  have hd3:¬ ((j:Int)<(m.length:Int)):=by omega
  rw [θ (by omega)];simp only [simprocAttr,-ZA,↓zU,↓zD,zV,zT,zW,hd3];refine⟨a+1,by omega,?_,by omega⟩;rw [hfo]
  (refine xT.same ?_; simp only [xR,Fr.get,simprocAttr,-ZA,zS])
  exact zI (by omega)
 have hd3:((j:Int)<(m.length:Int)):=by omega
 have hgj:=lM m hjl
 have hfo2:(m.take (j+1)).foldl (gS p.xN.length s0) out0=gS p.xN.length s0 ((m.take j).foldl (gS p.xN.length s0) out0) (m.getD j bV):=by rw [vW (d:=bV) hjl,υ]; rfl
 obtain⟨a1,a2,a3⟩:=qc hv.fe (hmA _ (xK (d:=bV) hjl));unfold gQ.row at hgj;generalize (m.take j).foldl (gS p.xN.length s0) out0=out1 at *;generalize m.getD j bV=x at *;obtain⟨M,hM1,hM2⟩:=hM x.to a3;simp only [simprocAttr,-ZA,↓zU,↓zD,zV,zT,zW,hd3,vS,hgj]
 (repeat refine sd ?_)
 refine .go (cq hM1) ?_;simp only [simprocAttr,-ZA,↓zU,↓zD,zV,zT,zW]
 (repeat refine sd ?_)
 have hv0:(ui s0).toNat<2 ^ F:=by
  have h1:=congrArg BitVec.toNat hs';rw [BitVec.toNat_ushiftRight,Nat.shiftRight_eq_div_pow] at h1;have h2:s0.toNat / 2 ^ F=0:=h1
  rcases Nat.div_eq_zero_iff.1 h2 with h3 | h3
  ·exact absurd h3 (Nat.pos_iff_ne_zero.1 (Nat.two_pow_pos F))
  ·exact h3
 have hone:=OR (M:=M) (n:=x.fact.toNat) (v:=(ui s0).toNat);rw [hM2 _ hv0,show BitVec.ofNat 64 (ui s0).toNat=s0 from BitVec.eq_of_toNat_eq (by rw [BitVec.toNat_ofNat]; exact Nat.mod_eq_of_lt s0.isLt)] at hone;refine⟨j+1,hjl,?_,by omega⟩;rw [hfo2];unfold gS;rw [<- hone]
 (refine xT.sZ [] [0] (by simp) (by simp) (by decide) ?_; simp only [yT,zQ,simprocAttr,-ZA,exists_eq_left',ne_eq,zR,zI (show j<=1000000000 by omega)])
open Rs Fm Ru Te Kb
theorem Ti : yW prog 96 [] Md:=by
 have c1:=SR 0;have c2:=Zu 1 (rZ 0);have c3:=Jb (pS 1 (rZ 0));have c4:=JX (rZ 0) (VQ (pS 1 (rZ 0)));have hD:Md = .agg [.int .i64 2,.sl 1 (us [0#64,1#64]),.sl 1 (us [1#64,2#64]),.sl 1 [[.sl 2 [[.int .i64 1,.sl 6 (zG (rZ 0))]]]],.sl 1 [[.sl 2 [[.sl 6 (zG (PK (rZ 0) (VQ (pS 1 (rZ 0))))),.int .i64 0]]],[.xJ]]]:=rfl;rw [hD];generalize PK (rZ 0) (VQ (pS 1 (rZ 0)))= g1 at *;generalize VQ (pS 1 (rZ 0))= g2 at *;generalize pS 1 (rZ 0)= g3 at *;generalize rZ 0=g4 at *;refine xY.xQ mixed func96 FM (by simp) λhf=>?_;simp only [simprocAttr,-ZA,↓zU,↓zD,zV,zT,zW];refine .go (cq c1) ?_;simp only [simprocAttr,-ZA,↓zU,↓zD,zV,zT,zW]
 (repeat refine sd ?_)
 refine .go (cr c2) ?_;simp only [simprocAttr,-ZA,↓zU,↓zD,zV,zT,zW];refine .go (cr c3) ?_;simp only [simprocAttr,-ZA,↓zU,↓zD,zV,zT,zW];refine .go (cr c4) ?_;simp only [simprocAttr,-ZA,↓zU,↓zD,zV,zT,zW]
 (repeat refine sd ?_)
 exact .drop (by simp) (by simp [vw,uR,us,ui])
namespace Kb
theorem Ni : xe Kz (pS 1 (rZ 0))= [[.sl 1 [[.bool false],[.bool false],[.bool false]]],[.sl 1 [[.bool false],[.bool true],[.bool true]]]]:=by kernel_rfl
theorem Q5 : jG Kz (pS 1 (rZ 0))= 0:=by decide +kernel
end Kb
theorem Zj : yW prog 41 [] (.bool true):=by
 have hp:Md.xD=true:=rfl;have S1:Seen gR (λ_=>False) Md N9.d:=LY.seen hp;have hP:yW prog 19 [Md,.int .i64 3] (.wE [Kz.d,.int .i64 0]):=yW.seen (args':=[N9.d,.int .i64 3]) (by have:=SS N9 Q6 3; rwa [Nj,Sc] at this) ⟨S1,Seen.pure rfl,trivial⟩;have hH:=Va Kz (pS 1 (rZ 0));rw [Ni,Q5] at hH;have c1:=SR 0;have c2:=Zu 1 (rZ 0);have hE:=Ti;have eS:∃ rs,Kz.d = .agg [.int .i64 2,.int .i64 2,.int .i64 3,.sl 2 rs]:=⟨_,rfl⟩;obtain⟨rs,eS⟩:=eS;rw [eS] at hP hH;generalize Md=d at *;generalize pS 1 (rZ 0)= g1 at *;generalize rZ 0=g2 at *;have hrs:D.xP [D.agg [.int .i64 2,.int .i64 2,.int .i64 3,.sl 2 rs],.sl 6 (zG g1)]=true:=by simp [D.xP,D.xD]
 refine xY.xQ mixed func41 Eo (by simp) λhf=>?_;simp only [simprocAttr,-ZA,↓zU,↓zD,zV,zT,zW];refine .go (cq hE) ?_;simp only [simprocAttr,-ZA,↓zU,↓zD,zV,zT,zW];refine .go (xY.zP hP (by simp [D.xP,D.xD,hp])) ?_;simp only [simprocAttr,-ZA,↓zU,↓zD,zV,zT,zW]
 (repeat refine sd ?_)
 refine .go (cq c1) ?_;simp only [simprocAttr,-ZA,↓zU,↓zD,zV,zT,zW];refine .go (cr c2) ?_;simp only [simprocAttr,-ZA,↓zU,↓zD,zV,zT,zW];refine .go (xY.zP hH hrs) ?_;simp only [simprocAttr,-ZA,↓zU,↓zD,zV,zT,zW]
 (repeat refine sd ?_)
 exact .dv
end Go.Pd

/- Part MI. -/
namespace Go.Pd
open Go Go.Proofs
open Rs Fm Ru Te
namespace Ru
end Ru
namespace Te
end Te
end Go.Pd

/- Part ST. -/
namespace Go.Pd
open Go Go.Proofs
open Ru
end Go.Pd

/- Part TP. -/
namespace Go.Pd
open Go Go.Proofs
open BitVec renaming isValue -> ZA
open Rs Fm Ru Te Kb
namespace Kb
def cm (p:yF):Bool:=nA p []&&(decide (p.init.length<=6)&& (decide (p.F<=4)&& decide (uD p=0)))
end Kb
theorem Oj (p:yF):yW prog 42 [p.d] (.bool (cm p)):=by
 have hD:p.d = .agg [.int .i64 p.F,.sl 1 (us p.init),.sl 1 (us p.xN),.sl 1 (qY p.xM),.sl 1 (qZ p.code)]:=rfl;have hF:=LG p;have hS:=λh=>ns (p:=p) (l:=[]) h;have hR:=λsm=>ZW p sm;unfold cm;rw [hD] at *;generalize nA p []=b at *;refine xY.xQ mixed func42 Ep (by simp) λhf=>?_
 cases b with
 | false=> simp only [simprocAttr,-ZA,↓zU,↓zD,zV,zT,zW];refine .go (cq hF) ?_;simp only [simprocAttr,-ZA,↓zU,↓zD,zV,zT,zW];exact .dv
 | true=>
  have hR:=hR (hS rfl);by_cases c1:p.init.length<=6
  case neg=>
   have c1':¬ ((p.init.length:Int)<=6):=by omega
   rw [decide_eq_false c1];simp only [simprocAttr,-ZA,↓zU,↓zD,zV,zT,zW];refine .go (cq hF) ?_;simp only [simprocAttr,-ZA,↓zU,↓zD,zV,zT,zW,xH,c1'];exact .dv
  have c1':((p.init.length:Int)<=6):=by omega
  by_cases c2:p.F<=4
  case neg=> rw [decide_eq_true c1,decide_eq_false c2];simp only [simprocAttr,-ZA,↓zU,↓zD,zV,zT,zW];refine .go (cq hF) ?_;simp only [simprocAttr,-ZA,↓zU,↓zD,zV,zT,zW,xH,c1',c2];exact .dv
  rw [decide_eq_true c1,decide_eq_true c2];simp only [simprocAttr,-ZA,↓zU,↓zD,zV,zT,zW];refine .go (cq hF) ?_;simp only [simprocAttr,-ZA,↓zU,↓zD,zV,zT,zW,xH,c1',c2];refine .go (cq hR) ?_;simp only [simprocAttr,-ZA,↓zU,↓zD,zV,zT,zW]
  exact .drop (by simp) (by
   simp only [vw,D.bool.injEq]
   by_cases hz:uD p=0
   ·rw [hz]; rfl
   ·rw [decide_eq_false hz];simpa using hz)
open Rs Fm Ru Te Kb
namespace Kb
theorem RW {p:yF} {F:Nat} (hv:zd p F) {k t r:Nat} (ht:t<k) (hr:r<p.init.length) :
  (vN (yS p k) r).getD (t+1) 0=mc p ((vN (yS p k) r).getD t 0) ((List.range p.code.length).map λa=>za p (yS p k) t a r):=by
 have E1:=qh hv (n:=t+1) (m:=k) (by omega);have E0:=qh hv (n:=t) (m:=k) (by omega);have hl0:=oG hv t;have hl1:=oG hv (t+1);have hlr:(vN (yS p t) r).length=t+1:=Xt hv t (by omega);rw [E1.state (t:=t+1) (by omega) (by omega),E0.state (t:=t) (by omega) (by omega)]
 have e:vN (yS p (t+1)) r=vN (yS p t) r ++ [vl p (yS p t) (rC p (yS p t) t) r]:=by show vN (jH p (yS p t) (rC p (yS p t) t)) r=_;simp [vN,jH,List.getD,show r<(yS p t).length by omega]
 have e2:(vN (yS p (t+1)) r).getD (t+1) 0=vl p (yS p t) (rC p (yS p t) t) r:=by rw [e];simp [List.getD,List.getElem?_append_right,hlr]
 rw [e2]
 have e3:((List.range p.code.length).map λa=>za p (yS p k) t a r)= (rC p (yS p t) t).map λm=>m.getD r 0:=by unfold rC;rw [hv.hC,List.map_map];refine η λa _=>?_;rw [E0.za (t:=t) (by omega) (by omega)];simp [List.getD,show r<(yS p t).length by omega]
 rw [e3];unfold vl jo;rw [hlr];rfl
def s8 (R T:Nat) (φ:Nat->tJ) (k:Nat):List (List D):=(List.range k).map λi=>[.sl 1 (yR R T (φ i))]
def bU (X:Nat->List (List D)) (n a:Nat):List (List D):=(List.range n).map λi=>if i<a then [.sl 1 (X i)] else [.xJ]
section
variable {R T k n a : Nat} {φ : Nat -> tJ} {X : Nat -> List (List D)}
theorem Rq : s8 R T φ 0 = []:=rfl
theorem Ro : s8 R T φ (k+1)= s8 R T φ k ++ [[.sl 1 (yR R T (φ k))]]:=by unfold s8; rw [δ,ζ]; rfl
theorem WN : (s8 R T φ k).length=k:=by simp [s8]
theorem Oz {i:Nat} (h:i<k):(s8 R T φ k).getD i [] = [.sl 1 (yR R T (φ i))]:=by simp [s8,List.getD,h]
theorem j8 : ∀ e ∈ s8 R T φ k,D.xP e=true:=λe he=>by simp only [s8,κ] at he;obtain⟨i,_,rfl⟩:=he;rfl
theorem WQ : (bU X n a).length=n:=by simp [bU]
theorem WR (h:a<n):(bU X n a).getD a [] = [.xJ]:=by simp [bU,List.getD,h]
theorem P0 {i:Nat} (h:i<n) (hi:i<a):(bU X n a).getD i [] = [.sl 1 (X i)]:=by simp [bU,List.getD,h,hi]
theorem j9 : ∀ e ∈ bU X n a,D.xP e=true:=λe he=>by simp only [bU,κ] at he;obtain⟨i,_,rfl⟩:=he;split <;> rfl
theorem Rt : List.replicate n [D.xJ]=bU X n 0:=by refine π (by simp [bU]) λi h1 h2=>?_;simp [bU]
theorem P1 (h:a<n):(bU X n a).set a [.sl 1 (X a)]=bU X n (a+1):=by
 refine π (by simp [bU]) λi h1 h2=>?_;simp only [bU,Aa,List.getElem_map,List.getElem_range]
 by_cases e:a=i
 ·subst e;rw [if_pos rfl,if_pos (by omega)]
 ·rw [if_neg e]
  by_cases e2:i<a
  ·rw [if_pos e2,if_pos (by omega)]
  ·rw [if_neg e2,if_neg (by omega)]
theorem Rr (h:a<n):(bU X n a).set a [.xJ]=bU X n a:=by
 refine π (by simp) λi h1 h2=>?_;rw [Aa]
 split
 ·rename_i e;subst e;have:=WR (X:=X) h;simp only [List.getD,h2,List.getElem?_eq_getElem,Option.getD_some] at this;exact this.symm
 ·rfl
end
end Kb
theorem bu {σ σ':St} {ρ:Nat->Nat} {x y:D} (h:uR σ σ' ρ [x] [y]):∀ {B:List (List D)} {i:Nat},tK B->(∀ e ∈ B,e.length=1)->s9 σ σ' ρ (B.set i [x]) (B.set i [y])
 | [],_,_,_=>.nil
 | b :: B,0,hp,hl=>.cons rfl h (.same λe he=>hp e (ν _ he))
 | b :: B,i+1,hp,hl=>.cons rfl (rm (hp b (by simp))) (bu h (λe he=>hp e (ν _ he)) λe he=>hl e (ν _ he))
theorem M9 {p:yF} {F k:Nat} (hv:zd p F) (hk:k<=5) {sts:List (List (BitVec 64))} (hS:YS p F sts k) {a:Nat} (ha:a<p.xN.length) {f:List Nd} (hl:f.length<=40) (hE:ze p f 15=0) :
  yW prog 44 [.agg [.int .i64 p.xN.length,.int .i64 F,.int .i64 (k+1:Nat),.sl 2 (wM (tO p.xN sts (k+1)))],.sl 6 (zG (pS a f))]
   (.wE [.sl 1 (yR (tO p.xN sts (k+1)).length (k+1) (eD (tO p.xN sts (k+1)) p.xN.length (k+1) (Te.uf a (uE f)))),.int .i64 0]):=by
 obtain⟨h1,h2,h3⟩:=aU hE;rw [hv.fe] at h3;have ok:=Y9 hv hk hS;have ha16:∀ n:Fin 16,n.val &&& 3824=0/\n.val &&& 256=0:=by decide
 have h16:zH f<16:=Sg ⟨zH f,oD f⟩ h2
 have hE:jG ⟨p.xN.length,F,((k+1:Nat):Int),tO p.xN sts (k+1)⟩ f=0:=by unfold jG;rw [if_neg (by simpa using fA ok),if_neg (by simpa using h1),aD (oD f),if_neg (by simp [(ha16 ⟨zH f,h16⟩).1])];simp only;rw [if_neg (by rw [h3]; simp)]
 have I:=Is.start rfl (fA ok) ok hE;have hsz:VY (uE f)<=40:=Nat.le_trans (K7 I.c) hl;obtain⟨I2,_⟩:=O5 ha hv.hA.2 I (by omega);have hE2:=I2.FR rfl (fA ok) ok;have h:=Va ⟨p.xN.length,F,((k+1:Nat):Int),tO p.xN sts (k+1)⟩ (pS a f);rw [hE2] at h
 have hR:xe ⟨p.xN.length,F,((k+1:Nat):Int),tO p.xN sts (k+1)⟩ (pS a f)= yR (tO p.xN sts (k+1)).length (k+1) (eD (tO p.xN sts (k+1)) p.xN.length (k+1) (Te.uf a (uE f))):=by unfold xe;rw [if_neg (by simpa using hE2),od I2.c,I2.e];rfl
 rw [hR] at h;exact h
open Rs Fm Ru Te Kb
theorem M6 (p:yF) (n:Nat) (hn:n<256):yW prog 11 [p.d,.int .u8 (n:Int)] (.bool true):=by
 have hD:p.d = .agg [.int .i64 p.F,.sl 1 (us p.init),.sl 1 (us p.xN),.sl 1 (qY p.xM),.sl 1 (qZ p.code)]:=rfl;have hB:=Oj p;have hA:=Zj;have hP:=λsm=>SS p sm ((n % 3+1:Nat):Int);have e1:IntKind.i64.wrap (n:Int)= (n:Int):=wrap_i64 (by omega)
 have e2:((n:Int)).tmod 3=((n % 3:Nat):Int):=by rw [Int.tmod_eq_emod_of_nonneg (by omega)]; omega
 have e3:IntKind.i64.wrap (1+((n % 3:Nat):Int))= ((n % 3+1:Nat):Int):=by rw [wrap_i64 (by omega)]; omega
 cases hb:cm p with
 | false=> rw [hb] at hB;rw [hD] at *;refine xY.xQ mixed func11 FU (by simp) λhf=>?_;simp only [simprocAttr,-ZA,↓zU,↓zD,zV,zT,zW];refine .go (cq hA) ?_;simp only [simprocAttr,-ZA,↓zU,↓zD,zV,zT,zW];refine .go (cq hB) ?_;simp only [simprocAttr,-ZA,↓zU,↓zD,zV,zT,zW];refine .go (cq hA) ?_;simp only [simprocAttr,-ZA,↓zU,↓zD,zV,zT,zW];exact .dv
 | true=>
 rw [hb] at hB;unfold cm at hb;simp only [Ae,decide_eq_true_eq] at hb;obtain⟨b1,b2,b3,hz⟩:=hb;have hP:=hP (ns b1)
 have h40:∀ l ∈ p.code,∀ c ∈ l,c.test.length<=40:=λl hl c hc=>by unfold nA at b1;simp only [Ae,decide_eq_true_eq,Ad] at b1;have h1:=ω.1 b1.1.2 l hl;unfold cz at h1;simp only [Af,decide_eq_true_eq,not_or] at h1;have h2:=ω.1 (Bool.eq_false_iff.2 h1.2) c hc;simpa using h2
 obtain⟨h0,F,hv,hs⟩:=ZE (k:=n % 3) hz (by omega);have hS:=iV hv (n % 3);have ok:=Y9 hv (show n % 3<=5 by omega) hS;have hF4:F<=4:=by have:=hv.fe; omega
 have hA4:=hv.hA;have hC:=hv.hC;have hI:=hv.hI;have hl:(tO p.xN (yS p (n % 3)) (n % 3+1)).length=p.init.length:=(aN p.xN (yS p (n % 3)) (n % 3+1)).trans (oG hv (n % 3));have h43:=ae ⟨p.xN.length,F,((n % 3+1:Nat):Int),tO p.xN (yS p (n % 3)) (n % 3+1)⟩;rw [fA ok] at h43
 have hT:∀ a,a<p.code.length->∀ c ∈ p.code.getD a [],yW prog 44 [.agg [.int .i64 p.xN.length,.int .i64 F,.int .i64 (n % 3+1:Nat),.sl 2 (wM (tO p.xN (yS p (n % 3)) (n % 3+1)))],.sl 6 (zG (pS a c.test))]
   (.wE [.sl 1 (yR (tO p.xN (yS p (n % 3)) (n % 3+1)).length (n % 3+1) (eD (tO p.xN (yS p (n % 3)) (n % 3+1)) p.xN.length (n % 3+1) (Te.uf a (uE c.test)))),.int .i64 0]):=λa ha c hc=>by
  have hm:=xK (d:=[]) ha;refine M9 hv (by omega) hS (by omega) (h40 _ hm c hc) ?_;have:=hv.code _ hm c hc;unfold lE at this
  split at this
  ·rename_i h; exact absurd this h
  ·rename_i h; simpa using h
 have hrow:∀ r,r<p.init.length->(wM (tO p.xN (yS p (n % 3)) (n % 3+1))).getD r [] = [.sl 1 (rl ((tO p.xN (yS p (n % 3)) (n % 3+1)).getD r rI).loc),.sl 1 (us (vN (yS p (n % 3)) r))]:=λi hi=>by rw [mR _ (by omega),aM (by rw [oG hv]; exact hi)];rfl
 have hlen:∀ r,r<p.init.length->(vN (yS p (n % 3)) r).length=n % 3+1:=λr hr=>Xt hv _ (by rw [oG hv]; exact hr);have hval:∀ r,r<p.init.length->∀ t,t<n % 3+1->(vN (yS p (n % 3)) r).getD t 0#64 >>> F=0#64:=λr hr t ht=>hS.val _ (pO (by rw [oG hv]; exact hr)) _ (xK (by rw [hlen r hr]; exact ht))
 have hnext:∀ r,r<p.init.length->∀ t,t<n % 3->(vN (yS p (n % 3)) r).getD (t+1) 0=mc p ((vN (yS p (n % 3)) r).getD t 0#64) ((List.range p.code.length).map λ(a:Nat)=>cP (λk=>eD (tO p.xN (yS p (n % 3)) (n % 3+1)) p.xN.length (n % 3+1) (Te.uf a (uE ((p.code.getD a []).getD k vf).test)) (r,t)) (p.code.getD a []) 0):=λr hr t ht=>by
  rw [RW hv ht hr];congr 1;refine η λa ha=>?_;have ha:=γ.1 ha;unfold za;refine(gh _ 0 _ λi hi=>?_).symm;have hm:=xK (d:=[]) ha;have:=hv.code _ hm _ (xK (d:=vf) hi);rw [Nat.zero_add];refine QI hv (by omega) hS (by omega) (by omega) ?_ (by rw [oG hv]; exact hr);unfold lE at this
  split at this
  ·rename_i h; exact absurd this h
  ·rename_i h; simpa using h
 rw [h0,hs] at hP;unfold sC.d sC.cells at hP h43;simp only at hP h43;clear hs;generalize hφ:(λa k:Nat=>eD (tO p.xN (yS p (n % 3)) (n % 3+1)) p.xN.length (n % 3+1) (Te.uf ((a:Nat):Int) (uE ((p.code.getD a []).getD k vf).test)))= φ at *;have hφ':∀ a k:Nat,eD (tO p.xN (yS p (n % 3)) (n % 3+1)) p.xN.length (n % 3+1) (Te.uf ((a:Nat):Int) (uE ((p.code.getD a []).getD k vf).test))= φ a k:=λa k=>by rw [<- hφ]
 have hT:∀ a,a<p.code.length->∀ k,k<(p.code.getD a []).length->yW prog 44 [.agg [.int .i64 p.xN.length,.int .i64 F,.int .i64 (n % 3+1:Nat),.sl 2 (wM (tO p.xN (yS p (n % 3)) (n % 3+1)))],.sl 6 (zG (pS a ((p.code.getD a []).getD k vf).test))]
   (.wE [.sl 1 (yR (tO p.xN (yS p (n % 3)) (n % 3+1)).length (n % 3+1) (φ a k)),.int .i64 0]):=λa ha k hk=>by
  rw [<- hφ' a k];exact hT a ha _ (xK (d:=vf) hk)
 have hnext2:∀ r,r<p.init.length->∀ t,t<n % 3->(vN (yS p (n % 3)) r).getD (t+1) 0=mc p ((vN (yS p (n % 3)) r).getD t 0#64) ((List.range p.code.length).map λa=>cP (λk=>φ a k (r,t)) (p.code.getD a []) 0):=λr hr t ht=>by rw [hnext r hr t ht];simp only [hφ']
 clear hφ hφ';generalize tO p.xN (yS p (n % 3)) (n % 3+1)= rs at *;generalize yS p (n % 3)= sts at *;have hN:=λ{r t:Nat} (hr:r<p.init.length) (ht:t<n % 3) {TT:List (List D)} h1 h2 h3=>NP hv hF4 (A:=p.xN.length) (T:=((n % 3+1:Nat):Int)) (rs:=wM rs) (TT:=TT) (r:=r) (t:=t) (by rw [wV]; omega) (hrow r hr) (by rw [hlen r hr]; omega) (hval r hr t (by omega)) (q:=λa k=>φ a k (r,t)) h1 h2 h3 (by omega) (by omega)
 have hDF:p.d = .agg [.int .i64 F,.sl 1 (us p.init),.sl 1 (us p.xN),.sl 1 (qY p.xM),.sl 1 (qZ p.code)]:=by rw [<- hv.fe]; rfl
 have hq0:(((n % 3+1:Nat):Int) != ((n % 3+1:Nat):Int))= false:=by simp
 have hq1:((p.xN.length:Int) != (p.xN.length:Int))= false:=by simp
 have hq2:((rs.length:Int) != (p.init.length:Int))= false:=by rw [hl]; simp
 obtain⟨X,hX⟩:∃ X:Nat->List (List D),∀ a,X a=s8 rs.length (n % 3+1) (φ a) (p.code.getD a []).length:=⟨_,λ_=>rfl⟩;have hz0:List.replicate p.code.length [D.xJ]=bU X p.code.length 0:=Rt;rw [hDF] at hB hP hN ⊢;refine xY.xQ mixed func11 FU (by simp) λhf=>?_;simp only [simprocAttr,-ZA,↓zU,↓zD,zV,zT,zW];refine .go (cq hA) ?_;simp only [simprocAttr,-ZA,↓zU,↓zD,zV,zT,zW];refine .go (cq hB) ?_;simp only [simprocAttr,-ZA,↓zU,↓zD,zV,zT,zW,e1,e2,e3]
 (repeat refine sd ?_)
 refine .go (cq hP) ?_;simp only [simprocAttr,-ZA,↓zU,↓zD,zV,zT,zW]
 (repeat refine sd ?_)
 refine .go (cq h43) ?_;simp only [simprocAttr,-ZA,↓zU,↓zD,zV,zT,zW,xH,wV,hq0,hq1,hq2,zN,hz0]
 (repeat refine sd ?_)
 refine wH (λa:Nat=>[(75,.int .i64 a),(74,.int .i64 p.code.length),(8,.yD 2 1 p.code.length),(6,.ref 1 4 0 0),(5,.int .i64 ((n % 3+1:Nat):Int)),(2,.ref 0 5 0 0)])
  (λa=>⟨3,[(2,⟨1,bU X p.code.length a⟩),(1,⟨4,[[.int .i64 p.xN.length,.int .i64 F,.int .i64 ((n % 3+1:Nat):Int),.sl 2 (wM rs)]]⟩),(0,⟨5,[[.int .i64 F,.sl 1 (us p.init),.sl 1 (us p.xN),.sl 1 (qY p.xM),.sl 1 (qZ p.code)]]⟩)]⟩)
  (λa=>a<=p.code.length) (λa=>p.code.length-a) 0 (Ac _) ?_ ?_
 ·(refine xT.same ?_; simp [xR,Fr.get])
 intro a ha;refine xL mixed ?_;by_cases hal:a<p.code.length
 case neg=>
  have hd:¬ ((a:Int)<(p.code.length:Int)):=by omega
  obtain rfl:a=p.code.length:=by omega
  have hpT:∀ e ∈ bU X p.code.length p.code.length,D.xP e=true:=j9;have hlT:(bU X p.code.length p.code.length).length=p.code.length:=WQ
  have hN:∀ r,r<p.init.length->∀ t,t<n % 3->yW prog 45 [.agg [.int .i64 F,.sl 1 (us p.init),.sl 1 (us p.xN),.sl 1 (qY p.xM),.sl 1 (qZ p.code)],.agg [.int .i64 p.xN.length,.int .i64 F,.int .i64 ((n % 3+1:Nat):Int),.sl 2 (wM rs)],.sl 1 (bU X p.code.length p.code.length),.int .i64 r,.int .i64 t]
    (.wE [.int .u64 (ui ((vN sts r).getD (t+1) 0)),.bool true]):=λr hr t ht=>by
   rw [hnext2 r hr t ht];refine hN hr ht hpT hlT λa ha k hk=>⟨s8 rs.length (n % 3+1) (φ a) (p.code.getD a []).length,_,_,by rw [P0 ha ha,hX],Oz hk,vJ (by omega),tP (by omega),by rw [WN]; exact hk,by rw [wR]; omega,by rw [vO]; simp; omega⟩
  clear hT hnext hnext2;generalize bU X p.code.length p.code.length=TT at *;simp only [simprocAttr,-ZA,↓zU,↓zD,zV,zT,zW,hd]
  refine .go [(8,.sl 1 TT),(6,.ref 1 4 0 0),(5,.int .i64 ((n % 3+1:Nat):Int)),(2,.ref 0 5 0 0)] ⟨2,[(1,⟨4,[[.int .i64 p.xN.length,.int .i64 F,.int .i64 ((n % 3+1:Nat):Int),.sl 2 (wM rs)]]⟩),(0,⟨5,[[.int .i64 F,.sl 1 (us p.init),.sl 1 (us p.xN),.sl 1 (qY p.xM),.sl 1 (qZ p.code)]]⟩)]⟩ ?_ ?_
  ·(refine xT.sZ [] [1,0] (by simp) (by simp) (by decide) ?_; simp only [yT,zQ,simprocAttr,-ZA,exists_eq_left',ne_eq,zR])
   have w1:TT=List.take p.code.length TT:=(θ (by omega)).symm;refine⟨?_,by omega,w1,hpT⟩;intro q hq
   rcases hq with h | h | h
   ·rw [h]; simp
   ·rw [h]; simp
   ·cases h
  simp only [simprocAttr,-ZA,↓zU,↓zD,zV,zT,zW,wV]
  refine xO (λr:Nat=>[(133,.int .i64 r),(132,.int .i64 rs.length),(8,.sl 1 TT),(6,.ref 1 4 0 0),(5,.int .i64 ((n % 3+1:Nat):Int)),(2,.ref 0 5 0 0)])
   (λ_=>⟨2,[(1,⟨4,[[.int .i64 p.xN.length,.int .i64 F,.int .i64 ((n % 3+1:Nat):Int),.sl 2 (wM rs)]]⟩),(0,⟨5,[[.int .i64 F,.sl 1 (us p.init),.sl 1 (us p.xN),.sl 1 (qY p.xM),.sl 1 (qZ p.code)]]⟩)]⟩)
   (λr=>r<=rs.length) (λr=>rs.length-r) 0 (Ac _) ?_ ?_
  ·(refine xT.same ?_; simp [xR,Fr.get])
  intro r hr;refine xL mixed ?_;by_cases hrl:r<rs.length
  case neg=>
   have hd1:¬ ((r:Int)<(rs.length:Int)):=by omega
   simp only [simprocAttr,-ZA,↓zU,↓zD,zV,zT,zW,hd1];exact .dv
  have hd1:((r:Int)<(rs.length:Int)):=by omega
  have hri:r<p.init.length:=by omega
  have e5:IntKind.i64.wrap (((n % 3+1:Nat):Int)-1)= ((n % 3:Nat):Int):=by rw [wrap_i64 (by omega)]; omega
  have hg1:=hrow r hri;have hl1:=hlen r hri;have hN:=hN r hri;simp only [simprocAttr,-ZA,↓zU,↓zD,zV,zT,zW,hd1,e5]
  refine xO (λt:Nat=>[(138,.int .i64 t),(137,.int .i64 ((n % 3:Nat):Int)),(133,.int .i64 r),(132,.int .i64 rs.length),(16,.int .i64 r),(8,.sl 1 TT),(6,.ref 1 4 0 0),(5,.int .i64 ((n % 3+1:Nat):Int)),(2,.ref 0 5 0 0)])
   (λ_=>⟨2,[(1,⟨4,[[.int .i64 p.xN.length,.int .i64 F,.int .i64 ((n % 3+1:Nat):Int),.sl 2 (wM rs)]]⟩),(0,⟨5,[[.int .i64 F,.sl 1 (us p.init),.sl 1 (us p.xN),.sl 1 (qY p.xM),.sl 1 (qZ p.code)]]⟩)]⟩)
   (λt=>t<=n % 3) (λt=>n % 3-t) 0 (Ac _) ?_ ?_
  ·(refine xT.same ?_; simp [xR,Fr.get])
  intro t ht;refine xL mixed ?_;by_cases htl:t<n % 3
  case neg=>
   have hd2:¬ ((t:Int)<((n % 3:Nat):Int)):=by omega
   simp only [simprocAttr,-ZA,↓zU,↓zD,zV,zT,zW,hd2];refine⟨r+1,hrl,?_,by omega⟩
   (refine xT.same ?_; simp only [xR,Fr.get,simprocAttr,-ZA,zS])
   exact zI (by omega)
  have hd2:((t:Int)<((n % 3:Nat):Int)):=by omega
  have hN:=hN t htl;have e6:IntKind.i64.wrap ((t:Int)+ 1)= ((t+1:Nat):Int):=zI (by omega);have hg2:=vL (vN sts r) (show t+1<_ by omega);generalize vN sts r=st at *;generalize st.getD (t+1) 0=y at *
  have hpT2:D.xP [.agg [.int .i64 F,.sl 1 (us p.init),.sl 1 (us p.xN),.sl 1 (qY p.xM),.sl 1 (qZ p.code)],.agg [.int .i64 p.xN.length,.int .i64 F,.int .i64 ((n % 3+1:Nat):Int),.sl 2 (wM rs)],.sl 1 TT,.int .i64 r,.int .i64 t]=true:=by simp [D.xP,D.xD]
  simp only [simprocAttr,-ZA,↓zU,↓zD,zV,zT,zW,hd2]
  (repeat refine sd ?_)
  refine .go (xY.zP hN hpT2) ?_;simp only [simprocAttr,-ZA,↓zU,↓zD,zV,zT,zW,wV,xH,hg1,hg2,e6]
  (repeat refine sd ?_)
  refine⟨t+1,htl,?_,by omega⟩
  (refine xT.same ?_; simp only [xR,Fr.get,simprocAttr,-ZA,zS])
 have hd:((a:Int)<(p.code.length:Int)):=by omega
 have hT:=hT a hal;have hg2:=lN p.code hal;have hcl:=hv.cl _ (xK (d:=[]) hal);have hBn:=WR (X:=X) hal;have hBs:=Rr (X:=X) hal;have hBl:=WQ (X:=X) (n:=p.code.length) (a:=a);have hBp:∀ e ∈ bU X p.code.length a,D.xP e=true:=j9
 have hB1:∀ e ∈ bU X p.code.length a,e.length=1:=λe he=>by simp only [bU,κ] at he;obtain⟨i,_,rfl⟩:=he;split <;> rfl
 have hBx:(bU X p.code.length a).set a [.sl 1 (X a)]=bU X p.code.length (a+1):=P1 hal;rw [hX a] at hBx;generalize bU X p.code.length a=B at *;generalize p.code.getD a []=l at *;generalize φ a=ψ at *;simp only [simprocAttr,-ZA,↓zU,↓zD,zV,zT,zW,hd,zN,hg2,wG]
 (repeat refine sd ?_)
 refine xO (λk:Nat=>[(84,.int .i64 k),(83,.int .i64 l.length),(82,.sl 2 (r8 l)),(75,.int .i64 a),(74,.int .i64 p.code.length),(9,.int .i64 a),(8,.yD 2 1 p.code.length),(6,.ref 1 4 0 0),(5,.int .i64 ((n % 3+1:Nat):Int)),(2,.ref 0 5 0 0)])
  (λk=>⟨4,yV 3 1 (s8 rs.length (n % 3+1) ψ k)++ [(2,⟨1,B.set a [xA 3 1 (s8 rs.length (n % 3+1) ψ k)]⟩),(1,⟨4,[[.int .i64 p.xN.length,.int .i64 F,.int .i64 ((n % 3+1:Nat):Int),.sl 2 (wM rs)]]⟩),(0,⟨5,[[.int .i64 F,.sl 1 (us p.init),.sl 1 (us p.xN),.sl 1 (qY p.xM),.sl 1 (qZ p.code)]]⟩)]⟩)
  (λk=>k<=l.length) (λk=>l.length-k) 0 (Ac _) ?_ ?_
 ·(refine xT.sZ [] [2,1,0] (by simp) (by simp) (by decide) ?_; simp only [yT,zQ,simprocAttr,-ZA,exists_eq_left',ne_eq,zR,Rq,vU,vV,ε,hBs])
  exact s9.same hBp
 intro k hk;refine xL mixed ?_;by_cases hkl:k<l.length
 case neg=>
  have hd2:¬ ((k:Int)<(l.length:Int)):=by omega
  obtain rfl:k=l.length:=by omega
  generalize hel:s8 rs.length (n % 3+1) ψ l.length=xV at *;have hep:∀ e ∈ xV,D.xP e=true:=by rw [<- hel]; exact j8
  simp only [simprocAttr,-ZA,↓zU,↓zD,zV,zT,zW,hd2];refine⟨a+1,by omega,?_,by omega⟩;rw [<- hBx]
  (refine xT.sZ [] [2,1,0] (by simp) (by simp) (by decide) ?_; simp only [yT,zQ,simprocAttr,-ZA,exists_eq_left',ne_eq,zR,zI (show a<=1000000000 by omega)])
  refine bu ?_ hBp hB1;simp only [uR,and_true];rw [pv (by decide) (by simp [MT,sw]) (by simp [St.get,St.look,yQ]) hep];trivial
 have hd2:((k:Int)<(l.length:Int)):=by omega
 have hg3:=eV l hkl;have hTk:=hT k hkl;have hsn:=Ro (R:=rs.length) (T:=n % 3+1) (k:=k) (φ:=ψ);have hTl:=wR rs.length (n % 3+1) (ψ k);have hTg:∀ i,i<rs.length->∃ Z:List (List D),(yR rs.length (n % 3+1) (ψ k)).getD i [] = [.sl 1 Z]/\Z.length=n % 3+1:=λi hi=>⟨_,vJ hi,by rw [vO]; simp⟩;have hqq:((rs.length:Int) != (rs.length:Int))= false:=by simp
 have hep:∀ e ∈ s8 rs.length (n % 3+1) ψ k,D.xP e=true:=j8;have hel:(s8 rs.length (n % 3+1) ψ k).length=k:=WN;unfold eC.row at hg3;generalize s8 rs.length (n % 3+1) ψ k=xV at *;generalize yR rs.length (n % 3+1) (ψ k)= TB at *;generalize l.getD k vf=c at *
 have hcell:(B.set a [xA 3 1 xV]).getD a [] = [xA 3 1 xV]:=by rw [List.getD,List.getElem?_set_self (by omega)];rfl
 have hcl2:∀ x,(B.set a x).length=p.code.length:=λx=>by rw [List.length_set,hBl]
 have k1:=Zu a c.test;generalize pS a c.test=kf at *;simp only [simprocAttr,-ZA,↓zU,↓zD,zV,zT,zW,hd2,wG,hg3]
 (repeat refine sd ?_)
 refine .go (cq k1) ?_;simp only [simprocAttr,-ZA,↓zU,↓zD,zV,zT,zW];refine .go (cr hTk) ?_;simp only [simprocAttr,-ZA,↓zU,↓zD,zV,zT,zW,hTl,wV,hqq]
 refine xO (λi:Nat=>[(109,.int .i64 i),(108,.int .i64 rs.length),(107,.sl 1 TB),(84,.int .i64 k),(83,.int .i64 l.length),(82,.sl 2 (r8 l)),(75,.int .i64 a),(74,.int .i64 p.code.length),(12,.sl 1 TB),(9,.int .i64 a),(8,.yD 2 1 p.code.length),(6,.ref 1 4 0 0),(5,.int .i64 ((n % 3+1:Nat):Int)),(2,.ref 0 5 0 0)])
  (λ_=>⟨5,(4,⟨2,[[.sl 6 (zG c.test),.int .i64 c.mv]]⟩) :: (yV 3 1 xV ++ [(2,⟨1,B.set a [xA 3 1 xV]⟩),(1,⟨4,[[.int .i64 p.xN.length,.int .i64 F,.int .i64 ((n % 3+1:Nat):Int),.sl 2 (wM rs)]]⟩),(0,⟨5,[[.int .i64 F,.sl 1 (us p.init),.sl 1 (us p.xN),.sl 1 (qY p.xM),.sl 1 (qZ p.code)]]⟩)])⟩)
  (λi=>i<=rs.length) (λi=>rs.length-i) 0 (Ac _) ?_ ?_
 ·(refine xT.same ?_; simp [xR,Fr.get])
 intro i hi;refine xL mixed ?_;by_cases hil:i<rs.length
 case pos=>
  have hd3:((i:Int)<(rs.length:Int)):=by omega
  obtain⟨Z,z1,z2⟩:=hTg i hil;simp only [simprocAttr,-ZA,↓zU,↓zD,zV,zT,zW,hd3,hTl,z1,z2,hq0]
  (repeat refine sd ?_)
  refine⟨i+1,hil,?_,by omega⟩
  (refine xT.same ?_; simp only [xR,Fr.get,simprocAttr,-ZA,zS])
  exact zI (by omega)
 have hd3:¬ ((i:Int)<(rs.length:Int)):=by omega
 simp only [simprocAttr,-ZA,↓zU,↓zD,zV,zT,zW,hd3,hcell,hcl2,List.set_set]
 (repeat refine sd ?_)
 refine⟨k+1,hkl,?_,by omega⟩;rw [hsn]
 have hep2:tK (xV ++ [[.sl 1 TB]]):=λe he=>by
  rcases List.mem_append.1 he with h | h
  ·exact hep e h
  ·rw [List.mem_singleton.1 h]; rfl
 (refine xT.sZ [(3,5)] [3,2,1,0] (by simp) (by simp) (by decide) ?_; simp only [yT,zQ,simprocAttr,-ZA,exists_eq_left',ne_eq,zR,hep2,zI (show k<=1000000000 by omega)])
 refine bu ?_ hBp hB1;simp only [uR,and_true];rw [bw];exact .inr ⟨by simp [sw],by simp [sw]⟩
end Go.Pd
