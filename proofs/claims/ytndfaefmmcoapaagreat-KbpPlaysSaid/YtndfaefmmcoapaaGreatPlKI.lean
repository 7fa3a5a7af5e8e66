/- Part KI. -/
import Derived.Test.YtndfaefmmcoapaaGreatPlC4
import Derived.Test.YtndfaefmmcoapaaGreatPlXA
import Derived.Test.YtndfaefmmcoapaaGreatPlX9
import Derived.Test.YtndfaefmmcoapaaGreatPlXS
import Derived.Test.YtndfaefmmcoapaaGreatPlSC
set_option linter.unusedSectionVars false
set_option linter.unusedVariables false
set_option linter.unusedSimpArgs false
set_option linter.defProp false
set_option maxRecDepth 20000
set_option maxHeartbeats 1000000
open Go.Proofs.Tryz
open List renaming mem_singleton->γ,any_eq_false->δ,length_take->ε,nil_append->ζ,mem_range->η,getElem?_eq_getElem->θ,eq_of_mem_replicate->κ,drop_replicate->μ,take_length->ν,any_eq_true->ξ
open Nat renaming min_eq_right->ο,zero_le->π,mod_eq_of_lt->τ,le_refl->υ,and_or_distrib_right->χ
open Bool renaming eq_false_iff->ψ,and_eq_true->ω,not_eq_true->Aa
open BitVec renaming ofInt_natCast->Ab,toNat_ofNat->Ac
open Int renaming toNat_natCast->Ad
namespace Go.Pd
open Go Go.Proofs
open BitVec renaming isValue -> ZA
open Rs Fm Ru Te Kb
structure Kz (p : yT) (F : Nat) (sts : List (List (BitVec 64))) (t : Nat) : Prop where
 fe:p.F=(F:Int)
 hF:F<=8
 hA:p.xW.length<=4
 hR:sts.length<=64
 len:∀ st ∈ sts,t<st.length
 ht:t<=1000
theorem VP {a b:List (BitVec 64)}:xA prog 74 [.sl 1 (us a),.sl 1 (us b)] (.bool (decide (a.map ui=b.map ui))):=by rw [qF,qF];exact oo _ _
theorem Qn {p:yT} {F:Nat} {sts:List (List (BitVec 64))} {t:Nat} (ok:Kz p F sts t):xA prog 130 [nC p sts,.int .i64 t] (lB p.xW sts t F):=by
 have hF:=ok.hF;have hA:=ok.hA;have hR:=ok.hR;have ht:=ok.ht;have hl:∀ i,i<sts.length->t<(vQ sts i).length:=λi hi=>ok.len _ (xK hi);have hist:∀ a w,a<p.xW.length->w<sts.length->xA prog 75 [nC p sts,.int .i64 a,.int .i64 w,.int .i64 t] (.sl 1 (us (uQ p.xW (vQ sts w) a t))):=λa w ha hw=>rV (iP p ha hw (hl w hw) ht);have hkey:=λa v w (ha:a<p.xW.length) (hv:v<sts.length) (hw:w<sts.length)=>OG (xW:=p.xW) (t:=t) ha hv hw;have hfac:=λw (hw:w<sts.length)=>Xk (xW:=p.xW) (t:=t) hw;unfold lB rh;have hll:(wX sts.length 0).length=sts.length:=oE _ _;have hlg:∀ i,i<sts.length->(wX sts.length 0).getD i (0,0)= (i,0):=λi hi=>mG hi;generalize zA p.xW sts t=rs at *;generalize wX sts.length 0=l at *;unfold nC bn at *;rw [ok.fe] at *;refine xI func130 Ig λhf=>?_
 have hz:List.replicate F [D.int .u64 (ui 0#64)]=us ((List.range F).map λf=>oN rs l f 0):=by simp only [oN,us,List.map_map];refine List.ext_getElem (by simp) λi h1 h2=>?_;simp
 simp only [simprocAttr,-ZA,↓zU,↓zD,zV,zT,zW,yZ,↓Xs]
 (refine il mixed ?_; unfold Xx; simp only [simprocAttr,-ZA,↓zU,↓zD,zV,zT,zW,↓V2,↓V3,↓Lc,↓Ld,↓Le,↓Lf,↓Lg,↓Lh,↓rm,kL,gS,yZ])
 refine⟨by omega,by omega,by omega,by omega,?_,?_⟩
 ·rw [hz];exact yf [(1,2),(2,1)] [2,1,0] yE
 refine xU (λw:Nat=>[(31,.int .i64 w),(30,.int .i64 sts.length),(29,.sl 1 (rr sts)),(5,.ref 2 3 0 0),(4,.ref 0 3 0 0),(1,.int .i64 t),(0,.ptr [.int .i64 F,.sl 1 (us p.init),.sl 1 (us p.xW),.sl 1 (uH p.xO),.sl 1 (uG p.code),.sl 1 (rr sts)])])
  (λw=>⟨3,[(2,⟨3,[[.int .i64 sts.length,.yD 1 1 F,.xL]]⟩),(1,⟨1,us ((List.range F).map λf=>oN rs l f w)⟩),(0,⟨3,[[.int .i64 0,.xL,.xL]]⟩)]⟩)
  (λw=>w<=sts.length) (λw=>sts.length-w) 0 (π _) ?_ ?_
 ·rw [<- hz];exact wE
 intro w hw;refine xN mixed ?_
 by_cases hwl:w<sts.length
 ·have hd:((w:Int)<(sts.length:Int)):=by omega
  have hg:=tY sts hwl
  have hv:∀ f,oN rs l f (w+1)= oN rs l f w ||| (if ((vQ sts w).getD t 0).getLsbD f then 1#64 <<< w else 0#64):=λf=>by rw [<- hfac w hwl,<- hlg w hwl]; rfl
  have hlw:=hl w hwl;unfold vQ at hv hlw;generalize sts.getD w []=st at hg hv hlw;have hg2:=zX st hlw;have hd0:((t:Int)<(st.length:Int)):=by omega
  generalize st.getD t 0=x at hg2 hv;refine sT hd yZ hg ?_
  refine xU (λi:Nat=>[(39,.int .i64 i),(38,.int .i64 F),(31,.int .i64 w),(30,.int .i64 sts.length),(29,.sl 1 (rr sts)),(7,.sl 1 (us st)),(6,.int .i64 w),(5,.ref 2 3 0 0),(4,.ref 0 3 0 0),(1,.int .i64 t),(0,.ptr [.int .i64 F,.sl 1 (us p.init),.sl 1 (us p.xW),.sl 1 (uH p.xO),.sl 1 (uG p.code),.sl 1 (rr sts)])])
   (λi=>⟨3,[(2,⟨3,[[.int .i64 sts.length,.yD 1 1 F,.xL]]⟩),(1,⟨1,us (fU F (λf=>oN rs l f (w+1)) (λf=>oN rs l f w) i)⟩),(0,⟨3,[[.int .i64 0,.xL,.xL]]⟩)]⟩)
   (λi=>i<=F) (λi=>F-i) 0 (π _) ?_ ?_
  ·rw [ft];exact wE
  intro i hi;refine xN mixed ?_
  by_cases hil:i<F
  ·have hd2:((i:Int)<(F:Int)):=by omega
   have hmg:=zX (fU F (λf=>oN rs l f (w+1)) (λf=>oN rs l f w) i) (show i<_ by rw [pd]; exact hil);rw [Yx _ _ hil] at hmg;have hms:=X0 F (λf=>oN rs l f (w+1)) (λf=>oN rs l f w) i;simp only [hv i] at hms;have hml:=pd F (λf=>oN rs l f (w+1)) (λf=>oN rs l f w) i;generalize fU F (λf=>oN rs l f (w+1)) (λf=>oN rs l f w) i=M at hmg hms hml;refine j4 hd2 xT hml hmg hd0 hg2 Nu iK hms ?_;refine⟨i+1,by omega,?_,by omega⟩;exact yH
  ·have hd2:¬ ((i:Int)<(F:Int)):=by omega
   rw [Yy _ _ _ (by omega:F<=i)];refine wA hd2 ?_;refine⟨w+1,by omega,?_,by omega⟩;exact yf [] [2,1,0] yE
 have hd:¬ ((w:Int)<(sts.length:Int)):=by omega
 obtain rfl:w=sts.length:=by omega
 rw [show ((List.range F).map λf=>oN rs l f sts.length)= rG rs l F by rw [<- hll]; rfl];refine xG hd ?_
 refine xU (λa:Nat=>[(66,.int .i64 a),(65,.int .i64 p.xW.length),(5,.ref 2 3 0 0),(4,.ref 0 3 0 0),(1,.int .i64 t),(0,.ptr [.int .i64 F,.sl 1 (us p.init),.sl 1 (us p.xW),.sl 1 (uH p.xO),.sl 1 (uG p.code),.sl 1 (rr sts)])])
  (λa=>⟨4,yX 3 1 (rr (tP rs l a))++ [(2,⟨3,[[.int .i64 sts.length,.yD 1 1 F,xD 3 1 (rr (tP rs l a))]]⟩),(1,⟨1,us (rG rs l F)⟩),(0,⟨3,[[.int .i64 0,.xL,.xL]]⟩)]⟩)
  (λa=>a<=p.xW.length) (λa=>p.xW.length-a) 0 (π _) ?_ ?_
 ·(refine sS [] [2,1,0] ?_; simp only [wY,zQ,simprocAttr,-ZA,exists_eq_left',ne_eq,zR,tP,List.range_zero,List.map_nil,yA,yB,ζ,yE,show rr [] = [] from rfl])
 intro a ha;refine xN mixed ?_;by_cases hal:a<p.xW.length
 case neg=>
  have hd2:¬ ((a:Int)<(p.xW.length:Int)):=by omega
  obtain rfl:a=p.xW.length:=by omega
  have hvl:(us (rG rs l F)).length=F:=by simp [us,rG]
  rw [hll];refine xG hd2 ?_
  (refine sJ.W7 [] [] (by simp) (by simp) (by decide) ?_; simp only [wY,zQ,simprocAttr,-ZA,exists_eq_left',ne_eq,zR,yE,nJ])
  exact⟨λ_ h=>h.elim,by omega,(List.take_of_length_le (by omega)).symm,vD _⟩
 have hd2:((a:Int)<(p.xW.length:Int)):=by omega
 have hrel:tP rs l (a+1)= tP rs l a ++ [tQ rs l a]:=by unfold tP; rw [List.range_succ,List.map_append]; rfl
 generalize hRL:tP rs l a=RL at hrel;have hrl:(tQ rs l a).length=sts.length:=by simp [tQ,hll]
 have hrlg:∀ w,w<sts.length->(tQ rs l a).getD w 0#64=Ru.pG rs l a (vL rs a (w,0)) sts.length:=λw hw=>by rw [<- hll] at hw ⊢;have:=hlg w (by omega);simp only [List.getD,hw,θ,Option.getD_some] at this;simp [tQ,List.getD,hw,this]
 refine yM yZ hd2 ?_
 refine sZ (λw:Nat=>[(74,.int .i64 w),(73,.int .i64 sts.length),(66,.int .i64 a),(65,.int .i64 p.xW.length),(10,xD 4 1 (us ((tQ rs l a).take w))),(9,.int .i64 a),(5,.ref 2 3 0 0),(4,.ref 0 3 0 0),(1,.int .i64 t),(0,.ptr [.int .i64 F,.sl 1 (us p.init),.sl 1 (us p.xW),.sl 1 (uH p.xO),.sl 1 (uG p.code),.sl 1 (rr sts)])])
  (λw=>⟨5,yX 4 1 (us ((tQ rs l a).take w))++ (yX 3 1 (rr RL)++ [(2,⟨3,[[.int .i64 sts.length,.yD 1 1 F,xD 3 1 (rr RL)]]⟩),(1,⟨1,us (rG rs l F)⟩),(0,⟨3,[[.int .i64 0,.xL,.xL]]⟩)])⟩)
  (λw=>w<=sts.length) (λw=>sts.length-w) 0 (π _) ?_ ?_
 ·(refine sS [] [3,2,1,0] ?_; simp only [wY,zQ,simprocAttr,-ZA,exists_eq_left',ne_eq,zR,List.take_zero,iJ,yA,yB,ζ,yE,nJ])
 intro w hw;refine xN mixed ?_;by_cases hwl:w<sts.length
 case neg=>
  have hd3:¬ ((w:Int)<(sts.length:Int)):=by omega
  rw [show (tQ rs l a).take w=tQ rs l a by rw [show w=(tQ rs l a).length by omega,ν]];refine xG hd3 ?_
  refine .go [(66,.int .i64 a),(65,.int .i64 p.xW.length),(10,.sl 1 (us (tQ rs l a))),(9,.int .i64 a),(5,.ref 2 3 0 0),(4,.ref 0 3 0 0),(1,.int .i64 t),(0,.ptr [.int .i64 F,.sl 1 (us p.init),.sl 1 (us p.xW),.sl 1 (uH p.xO),.sl 1 (uG p.code),.sl 1 (rr sts)])]
   ⟨4,yX 3 1 (rr RL)++ [(2,⟨3,[[.int .i64 sts.length,.yD 1 1 F,xD 3 1 (rr RL)]]⟩),(1,⟨1,us (rG rs l F)⟩),(0,⟨3,[[.int .i64 0,.xL,.xL]]⟩)]⟩ ?_ ?_
  ·exact qW [] [3,2,1,0] yE nJ
  have hRLl:RL.length=a:=by rw [<- hRL]; simp [tP]
  refine nQ yZ hRLl ?_;refine⟨a+1,by omega,?_,by omega⟩;rw [hrel];exact qW [(3,4)] [3,2,1,0] yE nJ
 have hd3:((w:Int)<(sts.length:Int)):=by omega
 have hrg:(tQ rs l a).take (w+1)= (tQ rs l a).take w ++ [Ru.pG rs l a (vL rs a (w,0)) sts.length]:=by rw [yC (d:=0#64) (by omega),hrlg w hwl]
 have htl:((tQ rs l a).take w).length=w:=by rw [ε]; omega
 generalize (tQ rs l a).take w=rw' at hrg htl;refine yM hd3 yZ ?_
 refine xU (λv:Nat=>[(82,.int .i64 v),(81,.int .i64 sts.length),(74,.int .i64 w),(73,.int .i64 sts.length),(66,.int .i64 a),(65,.int .i64 p.xW.length),(12,.int .u64 (ui (Ru.pG rs l a (vL rs a (w,0)) v))),(11,.int .i64 w),(10,xD 4 1 (us rw')),(9,.int .i64 a),(5,.ref 2 3 0 0),(4,.ref 0 3 0 0),(1,.int .i64 t),(0,.ptr [.int .i64 F,.sl 1 (us p.init),.sl 1 (us p.xW),.sl 1 (uH p.xO),.sl 1 (uG p.code),.sl 1 (rr sts)])])
  (λ_=>⟨5,yX 4 1 (us rw')++ (yX 3 1 (rr RL)++ [(2,⟨3,[[.int .i64 sts.length,.yD 1 1 F,xD 3 1 (rr RL)]]⟩),(1,⟨1,us (rG rs l F)⟩),(0,⟨3,[[.int .i64 0,.xL,.xL]]⟩)])⟩)
  (λv=>v<=sts.length) (λv=>sts.length-v) 0 (π _) ?_ ?_
 ·(refine yR.same ?_; simp only [yS,Fr.get,simprocAttr,-ZA,zS,Ru.pG])
  all_goals rfl
 intro v hv;refine xN mixed ?_;by_cases hvl:v<sts.length
 case neg=>
  have hd4:¬ ((v:Int)<(sts.length:Int)):=by omega
  obtain rfl:v=sts.length:=by omega
  refine sT hd4 xT htl ?_;refine⟨w+1,by omega,?_,by omega⟩;rw [hrg];exact qW [(4,5)] [4,3,2,1,0] yE nJ
 have hd4:((v:Int)<(sts.length:Int)):=by omega
 have hrk:Ru.pG rs l a (vL rs a (w,0)) (v+1)= Ru.pG rs l a (vL rs a (w,0)) v ||| (if vL rs a (v,0)= vL rs a (w,0) then 1#64 <<< v else 0#64):=by rw [<- hlg v hvl]; rfl
 have heq:=VP (a:=uQ p.xW (vQ sts w) a t) (b:=uQ p.xW (vQ sts v) a t);rw [hkey a v w hal hvl hwl] at heq;have h1:=hist a w hal hwl;have h2:=hist a v hal hvl;generalize uQ p.xW (vQ sts w) a t=x1 at heq h1;generalize uQ p.xW (vQ sts v) a t=x2 at heq h2;refine xG hd4 ?_;refine .go (cr h1) ?_;refine xJ ?_;refine .go (cr h2) ?_;refine xJ ?_;refine .go (cr heq) ?_
 by_cases c:vL rs a (v,0)= vL rs a (w,0)
 ·rw [if_pos c] at hrk;rw [decide_eq_true c];refine zC ?_;refine⟨v+1,by omega,?_,by omega⟩
  (refine yR.same ?_; simp only [yS,Fr.get,simprocAttr,-ZA,zS,hrk])
  exact wrap_i64 (by omega)
 ·rw [if_neg c,BitVec.or_zero] at hrk;rw [decide_eq_false c];refine xJ ?_;refine⟨v+1,by omega,?_,by omega⟩
  (refine yR.same ?_; simp only [yS,Fr.get,simprocAttr,-ZA,zS,hrk])
  exact wrap_i64 (by omega)
end Go.Pd

/- Part KR. -/
namespace Go.Pd
open Go Go.Proofs
open BitVec renaming isValue -> ZA
def Sw (x y:BitVec 64):BitVec 64:=
 let x0:=x &&& 4294967295#64
 let x1:=x >>> 32
 let y0:=y &&& 4294967295#64
 let y1:=y >>> 32
 let w0:=x0*y0
 let t:=x1*y0+w0 >>> 32
 let w1:=(t &&& 4294967295#64)+ x0*y1
 let w2:=t >>> 32
 x1*y1+w2+w1 >>> 32
theorem UB : ∀ n:Fin 65,Sw 1#64 (BitVec.ofNat 64 n.val)= 0#64:=by decide +kernel
theorem Kc : D.int .u64 4294967295=D.int .u64 (ui 4294967295#64):=rfl
theorem MN (x y:BitVec 64):xA prog 238 [.int .u64 (ui x),.int .u64 (ui y)] (.wH [.int .u64 (ui (Sw x y)),.int .u64 (ui (x*y))]):=by refine xI func238 JY λhf=>?_;refine wA Kc ?_;exact .same
theorem Sb {n:Nat} (hn:n<=64):xA prog 190 [.int .u64 1,.int .u64 (n:Int)] (.wH [.int .u64 0,.int .u64 (n:Int)]):=by have h:=MN 1#64 (BitVec.ofNat 64 n);have e1:Sw 1#64 (BitVec.ofNat 64 n)= 0#64:=UB ⟨n,by omega⟩;have e2:1#64*BitVec.ofNat 64 n=BitVec.ofNat 64 n:=BitVec.one_mul _;rw [e1,e2,Rm (k:=n) (by omega)] at h;refine xI func190 J8 λhf=>?_;simp only [Pc,Pb] at *;refine xJ ?_;refine .go (cr h) ?_;refine xJ ?_;exact .same
theorem Xa {xV:List (List D)} {n c:Nat} (h:c<=xV.length):rowsOf ⟨n,[(0,⟨1,xV⟩)]⟩ 1 (.yD 0 1 c)= some (xV.take c):=by show (if (1:Nat)= 1 then(if 1=1/\c<=xV.length then some (xV.take c) else none) else none)= _;rw [if_pos rfl,if_pos ⟨rfl,h⟩]
def pP (d z:D) (n c:Nat):List (List D):=List.replicate c [d]++List.replicate (n-c) [z]
theorem dm {d z:D} {n c:Nat} (h:c<=n):(pP d z n c).length=n:=by simp [pP]; omega
theorem aS {d z:D} {n c:Nat}:(pP d z n c).take c=List.replicate c [d]:=by unfold pP;rw [List.take_left' (by simp)]
theorem lq {d z:D} {n c:Nat} (h:c<n):(pP d z n c).take c++(((pP d z n c).take c).take (min (n-c) c)++ (pP d z n c).drop (c+min (n-c) c))= pP d z n (c+min (n-c) c):=by
 rw [aS]
 have e:(pP d z n c).drop (c+min (n-c) c)= List.replicate (n-(c+min (n-c) c)) [z]:=by unfold pP;rw [List.drop_append,List.length_replicate,List.drop_eq_nil_of_le (by simp),ζ,μ];congr 1;omega
 rw [e,List.take_replicate,show min (min (n-c) c) c=min (n-c) c by omega];unfold pP;rw [<- List.append_assoc,List.replicate_append_replicate]
theorem um {d z:D} {n:Nat} (h:1<=n):[[d]].take (min n 1)++ (List.replicate n [z]).drop (min n 1)= pP d z n 1:=by rw [ο h,μ];rfl
theorem US {d:D} (hd:d.xF=true) (h1:d.one=true) {n:Nat} (hn:1<=n/\n<=64):xP prog 131 [.sl 1 [[d]],.int .i64 (n:Int)] jN (.yD 0 1 n) ⟨1,[(0,⟨1,List.replicate n [d]⟩)]⟩:=by
 have hM:=Sb hn.2;have hw:=Sp (n:=n) (by omega);have hw1:IntKind.u64.wrap ((1:Nat):Int)= 1:=by decide
 have hw2:IntKind.i64.wrap (n:Int)= (n:Int):=wrap_i64 (by omega);have hneg:¬ ((n:Int)<0):=by omega
 refine xI func131 Ih λhf=>?_;simp only [simprocAttr,-ZA,↓zU,↓zD,zV,zT,zW,hneg,hw1,hw,show (1:Nat)= 1 from rfl];simp only [Pc,Pb,show IntKind.u64.wrap 1=1 from by decide] at *;refine .go (cr hM) ?_;have hz:¬ (ui 0#64<ui 0#64):=Int.lt_irrefl _;have hb:¬ ((9223372036854775807:Int)<(n:Int)):=by omega
 have hp1:D.xR [d]=true:=by simp [D.xR,hd]
 refine cI hz hb hw2 h1 ?_;refine⟨by omega,by omega,by simp,by omega,?_⟩;rw [ο hn.1];have hstart:=um (d:=d) (z:=D.int .i64 0) hn.1;rw [ο hn.1] at hstart;have hlr:(List.replicate n [D.int .i64 0]).length=n:=by simp
 refine xU (λc:Nat=>[(8,.int .i64 c),(7,.yD 0 1 n)]) (λc=>⟨1,[(0,⟨1,pP d (D.int .i64 0) n c⟩)]⟩) (λc=>1<=c/\c<=n) (λc=>n-c) 1 ⟨υ _,hn.1⟩ ?_ ?_
 ·rw [<- hstart];exact wE
 intro c ⟨hc1,hc2⟩;refine xN mixed ?_;have hL:=dm (d:=d) (z:=D.int .i64 0) hc2
 by_cases hcn:c<n
 ·have hd1:((c:Int)<(n:Int)):=by omega
  refine xG hd1 ?_;have i1:¬ ((c:Int)= 0):=by omega
  have i2:¬ ((c:Int)= (n:Int)):=by omega
  have hst:=lq (d:=d) (z:=D.int .i64 0) hcn;have htk:=aS (d:=d) (z:=D.int .i64 0) (n:=n) (c:=c);generalize pP d (D.int .i64 0) n c=xV at hL hst htk ⊢;refine⟨(c:Int),(n:Int),rfl,rfl,by omega,by omega,by omega,0,(c:Int),rfl,rfl,by omega,by omega,by omega,?_⟩;simp only [↓reduceIte,if_neg i1,if_neg i2,Ad];first | rw [if_pos ⟨trivial,by omega⟩] | rw [Xa (by omega)]
  refine⟨λr hr=>?_,trivial,trivial,by omega,?_⟩
  ·rw [htk] at hr;rw [κ hr];simp [h1]
  have hm:(min (n-c) (xV.take c).length)= min (n-c) c:=by rw [ε]; omega
  rw [hm];have em:(n:Int).toNat-c=n-c:=by omega
  refine⟨by omega,c+min (n-c) c,⟨by omega,by omega⟩,?_,by omega⟩;rw [hst]
  (refine yR.same ?_; simp only [yS,Fr.get,simprocAttr,-ZA,zS])
  rw [wrap_i64 (by omega)];omega
 ·have hd1:¬ ((c:Int)<(n:Int)):=by omega
  obtain rfl:c=n:=by omega
  have he:pP d (D.int .i64 0) c c=List.replicate c [d]:=by simp [pP]
  rw [he];refine xG hd1 ?_;exact .same
theorem UT {d:D} (hd:d.xF=true) (h1:d.one=true) {n:Nat} (hn:1<=n/\n<=64):xP prog 224 [.sl 1 [[d]],.int .i64 (n:Int)] jN (.yD 0 1 n) ⟨1,[(0,⟨1,List.replicate n [d]⟩)]⟩:=by
 have hM:=Sb hn.2;have hw:=Sp (n:=n) (by omega);have hw1:IntKind.u64.wrap ((1:Nat):Int)= 1:=by decide
 have hw2:IntKind.i64.wrap (n:Int)= (n:Int):=wrap_i64 (by omega);have hneg:¬ ((n:Int)<0):=by omega
 refine xI func224 JU λhf=>?_;simp only [simprocAttr,-ZA,↓zU,↓zD,zV,zT,zW,hneg,hw1,hw,show (1:Nat)= 1 from rfl];simp only [Pc,Pb,show IntKind.u64.wrap 1=1 from by decide] at *;refine .go (cr hM) ?_;have hz:¬ (ui 0#64<ui 0#64):=Int.lt_irrefl _;have hb:¬ ((9223372036854775807:Int)<(n:Int)):=by omega
 have hp1:D.xR [d]=true:=by simp [D.xR,hd]
 refine cI hz hb hw2 h1 ?_;refine⟨by omega,by omega,by simp,by omega,?_⟩;rw [ο hn.1];have hstart:=um (d:=d) (z:=D.xL) hn.1;rw [ο hn.1] at hstart;have hlr:(List.replicate n [D.xL]).length=n:=by simp
 refine xU (λc:Nat=>[(8,.int .i64 c),(7,.yD 0 1 n)]) (λc=>⟨1,[(0,⟨1,pP d (D.xL) n c⟩)]⟩) (λc=>1<=c/\c<=n) (λc=>n-c) 1 ⟨υ _,hn.1⟩ ?_ ?_
 ·rw [<- hstart];exact wE
 intro c ⟨hc1,hc2⟩;refine xN mixed ?_;have hL:=dm (d:=d) (z:=D.xL) hc2
 by_cases hcn:c<n
 ·have hd1:((c:Int)<(n:Int)):=by omega
  refine xG hd1 ?_;have i1:¬ ((c:Int)= 0):=by omega
  have i2:¬ ((c:Int)= (n:Int)):=by omega
  have hst:=lq (d:=d) (z:=D.xL) hcn;have htk:=aS (d:=d) (z:=D.xL) (n:=n) (c:=c);generalize pP d (D.xL) n c=xV at hL hst htk ⊢;refine⟨(c:Int),(n:Int),rfl,rfl,by omega,by omega,by omega,0,(c:Int),rfl,rfl,by omega,by omega,by omega,?_⟩;simp only [↓reduceIte,if_neg i1,if_neg i2,Ad];first | rw [if_pos ⟨trivial,by omega⟩] | rw [Xa (by omega)]
  refine⟨λr hr=>?_,trivial,trivial,by omega,?_⟩
  ·rw [htk] at hr;rw [κ hr];simp [h1]
  have hm:(min (n-c) (xV.take c).length)= min (n-c) c:=by rw [ε]; omega
  rw [hm];have em:(n:Int).toNat-c=n-c:=by omega
  refine⟨by omega,c+min (n-c) c,⟨by omega,by omega⟩,?_,by omega⟩;rw [hst]
  (refine yR.same ?_; simp only [yS,Fr.get,simprocAttr,-ZA,zS])
  rw [wrap_i64 (by omega)];omega
 ·have hd1:¬ ((c:Int)<(n:Int)):=by omega
  obtain rfl:c=n:=by omega
  have he:pP d (D.xL) c c=List.replicate c [d]:=by simp [pP]
  rw [he];refine xG hd1 ?_;exact .same
theorem Oc (n:Nat):List.replicate n [D.int .i64 (-1)]=rows .i64 (List.replicate n (-1)):=by simp [rows]
theorem Oo (n:Nat):List.replicate n [D.sl 1 (us [1#64])]=rr (List.replicate n [1#64]):=by simp [rr,V5]
open Rs Fm Ru Te
namespace Te
theorem Tm {A F:Nat} {c:List Nd} (hv:vR c) (h:∀ p ∈ c,qR A F p=true):∀ i,i<c.length->rP A F (tree c i)= true:=by
 intro i
 induction i using Nat.strongRecOn with
 | _ i ih=>
  intro hi;obtain⟨ox,oy,_,_⟩:=tO (hv i hi);have hs:=h (c.getD i vW) (by rw [List.getD,θ hi]; exact List.getElem_mem hi);rw [sH hv hi];show (qR A F _&&(rP A F _&&rP A F _))= true;rw [show qR A F ⟨(c.getD i vW).op,(c.getD i vW).i,(c.getD i vW).e,(c.getD i vW).g,0,0⟩= qR A F (c.getD i vW) from rfl,hs,Bool.true_and,ω]
  constructor
  ·split
   ·rename_i hx; have:=ox hx; exact ih _ (by omega) (by omega)
   ·rfl
  ·split
   ·rename_i hy; have:=oy hy; exact ih _ (by omega) (by omega)
   ·rfl
theorem ia {A F:Nat} {p:Nd} {k:Int} (hn:zK p k=0) (ho:N5 A F p=true) (ht:rB p &&& 256=0):qR A F p=true:=by
 unfold N5 at ho;simp only [ω,decide_eq_true_eq] at ho;obtain⟨⟨h1,h2⟩,h3⟩:=ho
 have hi0:p.op=3\/p.op=9\/p.op=10->0<=p.i:=λh=>by
  rcases h with h | h | h
  ·exact(mN hn (by rw [h]; rfl)).1
  ·exact(rZ hn (by rw [h]; rfl)).1
  ·exact(rZ hn (by rw [h]; rfl)).1
 have hg0:=eW hn;have hu:=(vU.1 hn).1
 have lt_of:∀ {a b:Nat},2 ^ a / 2 ^ b=0->a<b:=λ{a b} h=>Decidable.byContradiction λhh=>by have:=Nat.pow_le_pow_right (n:=2) (by decide) (show b<=a by omega);have:=Nat.div_pos this (Nat.two_pow_pos b);omega
 obtain⟨op,i,e,g,a,b⟩:=p;simp only at hi0 hg0 hu
 rcases rY op with rfl | rfl | rfl | rfl | rfl | rfl | rfl | rfl | rfl | rfl | rfl | rfl | rfl | rfl | rfl | rfl | rfl | rfl | rfl | rfl | rfl | h | h
 ·rfl
 ·rfl
 ·have h3:2 ^ i.toNat / 2 ^ F=0:=h3;have:=lt_of h3;have h0:=hi0 (.inl rfl);show decide (i<(F:Int))= true;exact decide_eq_true (by omega)
 ·rfl
 ·rfl
 ·rfl
 ·rfl
 ·rfl
 ·have h2:2 ^ i.toNat / 2 ^ A=0:=h2;have:=lt_of h2;have h0:=hi0 (.inr (.inl rfl));show decide (i<(A:Int))= true;exact decide_eq_true (by omega)
 ·have h2:2 ^ i.toNat / 2 ^ A=0:=h2;have:=lt_of h2;have h0:=hi0 (.inr (.inr rfl));show decide (i<(A:Int))= true;exact decide_eq_true (by omega)
 iterate 3
  ·have h2:g.toNat / 2 ^ A=0:=h2;have:=(Nat.div_eq_zero_iff.1 h2).resolve_left (by have:=Nat.two_pow_pos A; omega);show decide (g<((2 ^ A:Nat):Int))= true;exact decide_eq_true (by omega)
 ·exact absurd h1 (show ¬ (16:Nat)&&& 3824=0 by decide)
 ·exact absurd h1 (show ¬ (32:Nat)&&& 3824=0 by decide)
 ·exact absurd h1 (show ¬ (64:Nat)&&& 3824=0 by decide)
 ·exact absurd h1 (show ¬ (128:Nat)&&& 3824=0 by decide)
 iterate 4
  ·exact absurd ht (show ¬ (256:Nat)&&& 256=0 by decide)
 ·rw [vN (.inl h)] at hu; cases hu
 ·rw [vN (.inr h)] at hu; cases hu
theorem Lv {a b:Nat} (ha:a<2 ^ 62) (hb:b<2 ^ 62):tB .and .i64 (a:Int) (b:Int)= ((a &&& b:Nat):Int):=by show IntKind.i64.wrap ((BitVec.ofInt 64 (a:Int)&&& BitVec.ofInt 64 (b:Int)).toNat:Int)= _;rw [Ab,Ab,BitVec.toNat_and,Ac,Ac,τ (by omega),τ (by omega)];have:a &&& b<=a:=Nat.and_le_left;exact wrap_i64 (by omega)
theorem du {n:Nat} (h:n<4096):(tB .and .i64 (n:Int) 256 != 0)= !decide (n &&& 256=0):=by
 have e:=Lv (a:=n) (b:=256) (by omega) (by decide);rw [show ((256:Nat):Int)= 256 from rfl] at e;rw [e];generalize n &&& 256=z
 by_cases hz:z=0
 ·subst hz; rfl
 ·rw [decide_eq_false hz];have:((z:Int) != 0)= true:=by rw [bne_iff_ne]; omega
  rw [this]; rfl
theorem To {n:Nat} (h:n<4096) (h1:n &&& 3824=0) (h2:n &&& 256=0):(tB .andNot .i64 (n:Int) 15 != 0)= false:=by
 have h16:∀ n:Fin 4096,n.val &&& 3824=0->n.val &&& 256=0->n.val<16:=by decide +kernel
 have:∀ n:Fin 16,(tB .andNot .i64 ((n.val:Nat):Int) 15 != 0)= false:=by decide +kernel
 exact this ⟨n,h16 ⟨n,h⟩ h1 h2⟩
theorem nF (f:List Nd):zP f<4096:=by refine mH λp _=>?_;have:=eF p.op;unfold rB; omega
theorem vd {s:jW} {A F T:Nat} {rs:List zB} (hs:s=⟨A,F,T,rs⟩) (hz:Nb s=0) (ok:j5 rs A F T) {f:List Nd} (hE:jt s f=0) (ht:zP f &&& 256=0) :
  rP A F (mV f)= true/\(tB .andNot .i64 (zP f:Int) 15 != 0)= false/\sO f A F=true:=by
 have hc:=(qI hE).2;have hN:=(w8 hs hz ok hc).1 hE
 have hT:∀ p ∈ xB f,rB p &&& 256=0:=by
  have:=ht;unfold zP at this
  rwa [pT (φ:=λn=>n &&& 256) (by decide) (λa b=>χ a b 256),sN] at this
 have h38:zP f &&& 3824=0:=by unfold zP;rw [pT (φ:=λn=>n &&& 3824) (by decide) (λa b=>χ a b 3824),sN];intro p hp;have:=hN p hp;unfold N5 at this;simp only [ω,decide_eq_true_eq] at this;exact this.1.1
 refine⟨?_,To (nF f) h38 ht,?_⟩
 ·have hl:=gQ hc;rw [<- (gH hc).1];refine Tm (bG f) (λp hp=>?_) _ (by omega);obtain⟨k,hk⟩:=jT (iI f _) hp;exact ia hk (hN p hp) (hT p hp)
 ·unfold jt at hE;rw [if_neg (by simpa using hz),if_neg (by simpa using hc),yy (nF f),if_neg (by simp [h38])] at hE;subst hs
  cases hf:sO f A F with
  | true=>rfl
  | false=>simp only [hf,↓reduceIte] at hE; cases hE
end Te
end Go.Pd

/- Part KQ. -/
namespace Go.Pd
open Go Go.Proofs
namespace Kb
theorem SU : ∀ n:Fin 4096,(tB .andNot .i64 ((n.val:Nat):Int) 15 != 0)= false->n.val<16:=by decide +kernel
theorem NP : ∀ n:Fin 4096,(tB .andNot .i64 ((n.val:Nat):Int) 0 != 0)= false->n.val=0:=by decide +kernel
end Kb
open Ru
namespace Ru
def b9 (rs:List zB) (a r t:Nat):List Int:=(List.range t).map λi=>vL rs a (r,i)
end Ru
end Go.Pd

/- Part SH. -/
namespace Go.Pd
open Go Go.Proofs
open BitVec renaming isValue -> ZA
open Ru
namespace Ru
theorem wc {α:Type} (a b:List α) (d:α) {n:Nat} (h:n<a.length):(a++b).getD n d=a.getD n d:=by simp [List.getD,List.getElem?_append_left h]
end Ru
theorem O3 {c:List (BitVec 64)} (hc:c.length<=1000) (h0:0<c.length):xA prog 122 [.sl 1 (us c)] (.sl 1 (us c)):=by
 obtain⟨x,l,rfl⟩:∃ x l,c=x :: l:=by
  cases c with
  | nil=>simp at h0
  | cons x l=>exact⟨x,l,rfl⟩
 refine xI func122 L7 λhf=>?_;have hl:(us (x :: l)).length=l.length+1:=by simp [us]
 have h1:=ZR (x :: l);have e:us (x :: l)= [.int .u64 (ui x)] :: us l:=rfl;simp only [List.length_cons] at hc;rw [e] at hl h1 ⊢;refine xJ ?_;refine⟨by simp,h1,by omega,by omega,.drop (by simp) ?_⟩;have hp:=vD (x :: l);rw [e] at hp;have ht:([D.int .u64 (ui x)] :: us l).take (l.length+1)= [D.int .u64 (ui x)] :: us l:=by rw [<- hl,ν]
 simp only [vw];exact⟨trivial,by decide,by simp,⟨1,[D.int .u64 (ui x)] :: us l⟩,rfl,rfl,by simp only; omega,ht.symm,hp⟩
open Ru
namespace Ru
def NV (kf:Nat->Nat × Nat->List Int) (l:List (Nat × Nat)) (a:Nat) (p:Nat × Nat):Int:=below (dedup (fK (l.map (kf a)))) (kf a p)
def V1 (rs:List zB) (A T:Nat) (num:Nat->Nat × Nat->Int):List zB:=(List.range rs.length).map λi=>⟨(List.range T).map λt=>(List.range A).map λa=>num a (i,t),(rs.getD i pH).yi⟩
end Ru
open Ru
namespace Ru
end Ru
open Ru
theorem yz {l:List (List Int)}:∀ {k:Nat} {x:List Int},x ∈ uB l k ↔ ∃ i,i<k/\l.getD i []=x
 | 0,x=>by simp [uB]
 | k+1,x=>by
  rw [uB]
  by_cases h:0<k/\l.getD k []=l.getD (k-1) []
  ·rw [if_pos h,yz];refine⟨λ⟨i,hi,e⟩=>⟨i,by omega,e⟩,λ⟨i,hi,e⟩=>?_⟩
   by_cases ei:i=k
   ·exact⟨k-1,by omega,by rw [<- h.2,<- ei]; exact e⟩
   ·exact⟨i,by omega,e⟩
  ·rw [if_neg h,List.mem_append,yz,γ];refine⟨λc=>c.elim (λ⟨i,hi,e⟩=>⟨i,by omega,e⟩) (λe=>⟨k,by omega,e.symm⟩),λ⟨i,hi,e⟩=>?_⟩
   by_cases ei:i=k
   ·exact .inr (by rw [<- e,ei])
   ·exact .inl ⟨i,by omega,e⟩
theorem ZH {l:List (List Int)} (h:bh l) {i j:Nat} (hij:i<j) (hj:j<l.length):¬ kc (l.getD j []) (l.getD i [])<0:=by have:=List.pairwise_iff_getElem.1 h i j (by omega) hj hij;simpa [List.getD,hj,show i<l.length by omega] using this
theorem kK {l:List (List Int)} (h:bh l):∀ {k:Nat},k<=l.length->(uB l k).Pairwise λa b=>kc a b<0
 | 0,_=>List.Pairwise.nil
 | k + 1,hk=>by
  rw [uB]
  by_cases c:0<k/\l.getD k []=l.getD (k-1) []
  ·rw [if_pos c]; exact kK h (by omega)
  ·rw [if_neg c];refine List.pairwise_append.2 ⟨kK h (by omega),List.pairwise_singleton _ _,λx hx y hy=>?_⟩;rw [γ] at hy;subst hy;obtain⟨i,hi,rfl⟩:=yz.1 hx;have h1:=ZH h hi (show k<l.length by omega)
   by_cases e:kc (l.getD i []) (l.getD k [])<0
   ·exact e
   ·exfalso;have eq:l.getD i []=l.getD k []:=u0 h1 e
    by_cases e2:i=k-1
    ·exact c ⟨by omega,by rw [<- eq,e2]⟩
    ·have h2:=ZH h (show i<k-1 by omega) (show k-1<l.length by omega);have h3:=ZH h (show k-1<k by omega) (show k<l.length by omega);rw [eq] at h2;exact c ⟨by omega,u0 h3 h2 |>.symm⟩
theorem cu {l:List (List Int)} (h:bh l):bh (dedup l):=by have:=kK h (υ l.length);exact this.imp λ{a b} h=>by have:=mM a b; omega
theorem Zy {l:List (List Int)} (h:bh l):(dedup l).Nodup:=by have:=kK h (υ l.length);refine this.imp λ{a b} h e=>?_;rw [e,dU] at h;omega
theorem cv {l:List (List Int)} {x:List Int}:x ∈ dedup l ↔ x ∈ l:=by
 unfold dedup;rw [yz]
 constructor
 ·rintro ⟨i,hi,rfl⟩; exact xK hi
 ·intro h;obtain⟨i,hi,e⟩:=List.mem_iff_getElem.1 h;exact⟨i,hi,by simp [List.getD,hi,e]⟩
open Ru
theorem eA {rs:List zB} {A F T:Nat} (ok:j5 rs A F T):Nb ⟨A,F,T,rs⟩= 0:=by
 obtain⟨h1,h2,h3,h4,h5,h6,h7,h8,h9⟩:=ok;unfold Nb;simp only;have hp:((rs.length*T:Nat):Int)<=512:=by omega
 rw [Int.natCast_mul] at hp
 rw [if_neg (by omega),if_neg (by omega),if_neg (by omega),if_neg,if_neg]
 ·rw [Aa,δ];intro r hr;simp only [L3,Ad,ξ,not_exists,not_and];intro f hf;simp [h9 r hr f hf]
 ·rw [Aa,δ];intro r hr;have hrow:=h8 r hr;simp only [L2,h6 r hr,h7 r hr,decide_true,Bool.not_true,Bool.false_or,ξ,not_exists,not_and];intro l hl;simp [hrow l hl]
open Ru
namespace Ru
def Pg (rs:List zB) (A T:Nat) (kf:Nat->Nat × Nat->List Int):List zB:=V1 rs A T (NV kf (iO T (rs.length*T)))
theorem RO (rs:List zB) (A T:Nat) (num:Nat->Nat × Nat->Int):(V1 rs A T num).length=rs.length:=by simp [V1]
theorem RM {rs:List zB} {A T:Nat} {num:Nat->Nat × Nat->Int} {i:Nat} (h:i<rs.length):(V1 rs A T num).getD i pH=⟨(List.range T).map λt=>(List.range A).map λa=>num a (i,t),(rs.getD i pH).yi⟩:=by simp [V1,List.getD,h]
theorem Oy {T R:Nat} {p:Nat × Nat} (hp:p.1<R/\p.2<T):p ∈ iO T (R*T):=by obtain⟨r,t⟩:=p;simp only at hp;simp only [iO,List.mem_map,η];have hm:=Nat.mul_le_mul_right T (show r+1<=R from hp.1);rw [Nat.succ_mul] at hm;refine⟨r*T+t,by omega,?_⟩;rw [Nat.mul_comm,Nat.mul_add_div (by omega),Nat.div_eq_of_lt hp.2,Nat.mul_add_mod,τ hp.2];rfl
theorem RK (rs:List zB) (A T:Nat) (kf:Nat->Nat × Nat->List Int):(Pg rs A T kf).length=rs.length:=RO _ _ _ _
end Ru
open Rs Fm Ru Te Kb
namespace Kb
theorem ij {rs:List zB} {A F T:Nat} (ok:j5 rs A F T) {f:List Nd} (hc:yW f=0) (hfr:(tB .andNot .i64 (zP f:Int) 15 != 0)= false) (hft:sO f A F=true):rP A F (mV f)= true:=by
 have h16:zP f<16:=SU ⟨zP f,nF f⟩ hfr;have ha:∀ n:Fin 16,n.val &&& 3824=0/\n.val &&& 256=0:=by decide
 have hE:jt ⟨A,F,T,rs⟩ f=0:=by unfold jt;rw [if_neg (by simpa using eA ok),if_neg (by simpa using hc),yy (nF f),if_neg (by simp [(ha ⟨zP f,h16⟩).1])];simp only;rw [if_neg (by rw [hft]; simp)]
 exact(vd rfl (eA ok) ok hE (ha ⟨zP f,h16⟩).2).1
theorem si {p:yT} {f:List Nd} {fr:Int} (h:vq p f fr=0):yW f=0/\(tB .andNot .i64 (zP f:Int) fr != 0)= false/\sO f p.xW.length p.F=true:=by
 unfold vq at h
 by_cases h1:yW f=0
 ·rw [if_neg (by simpa using h1)] at h
  cases h2:(tB .andNot .i64 (zP f:Int) fr != 0) with
  | true=>rw [h2,if_pos rfl] at h; cases h
  | false=>
   rw [h2,if_neg (by simp)] at h
   cases h3:sO f p.xW.length p.F with
   | true=>exact⟨h1,rfl,rfl⟩
   | false=>rw [h3] at h; cases h
 ·rw [if_pos h1] at h; exact absurd h h1
structure W6 (p : yT) (F : Nat) (sts : List (List (BitVec 64))) (t : Nat) : Prop where
 fe:p.F=(F:Int)
 hF:F<=8
 hA:1<=p.xW.length/\p.xW.length<=4
 hR:1<=sts.length/\sts.length<=16
 len:∀ st ∈ sts,t<st.length
 ht:t<=1000
 val:∀ st ∈ sts,∀ s ∈ st,s >>> F=0#64
theorem W6.ok {p:yT} {F:Nat} {sts:List (List (BitVec 64))} {t:Nat} (h:W6 p F sts t):Kz p F sts t:=⟨h.fe,h.hF,h.hA.2,by have:=h.hR.2; omega,h.len,h.ht⟩
theorem W6.time {p:yT} {F:Nat} {sts:List (List (BitVec 64))} {t:Nat} (h:W6 p F sts t):j5 (zA p.xW sts t) p.xW.length F 1:= PD h.hA.2 h.hF ⟨h.hR.1,by have:=h.hR.2; omega⟩ λw hw=>h.val _ (xK hw) _ (xK (h.len _ (xK hw)))
def N3 (xW:List (BitVec 64)) (sts:List (List (BitVec 64))) (t:Nat) (f:List Nd) (v:Nat):Bool:=bl (zA xW sts t) xW.length 1 (mV f) (v,0)
def Nf (xW:List (BitVec 64)) (sts:List (List (BitVec 64))) (t a:Nat) (f:List Nd) (w:Nat):Bool:=(List.range sts.length).all λv=>!decide (uQ xW (vQ sts v) a t=uQ xW (vQ sts w) a t) || N3 xW sts t f v
def V4 (xW:List (BitVec 64)) (sts:List (List (BitVec 64))) (t:Nat) (f:List Nd):BitVec 64:=tC 1 sts.length (bl (zA xW sts t) xW.length 1 (mV f))
def uF (xW:List (BitVec 64)) (sts:List (List (BitVec 64))) (t a w:Nat):List bP->Int
 | []=>-1
 | c :: r=>if Nf xW sts t a c.test w=true then c.mv else uF xW sts t a w r
def sC (p:yT) (sts:List (List (BitVec 64))) (t a w:Nat):Int:=uF p.xW sts t a w (p.code.getD a [])
def vE (p:yT) (sts:List (List (BitVec 64))) (t:Nat):List (List Int):=(List.range p.xW.length).map λa=>(List.range sts.length).map λw=>sC p sts t a w
def vF (A:Nat) (s:BitVec 64):List zB:=[⟨[List.replicate A 0],[s]⟩]
def bf (A:Nat) (f:List Nd) (s:BitVec 64):Bool:=bl (vF A s) A 1 (mV f) (0,0)
def fS (A:Nat) (s0:BitVec 64) (out:BitVec 64) (a:fQ):BitVec 64:=out &&& ~~~(1#64 <<< a.fact.toNat) ||| (if bf A a.to s0=true then 1#64 <<< a.fact.toNat else 0#64)
def jX (p:yT) (s0:BitVec 64) (out:BitVec 64) (k:Int):BitVec 64:=if k<0 then out else(p.xO.getD k.toNat []).foldl (fS p.xW.length s0) out
def e8 (p:yT) (s0:BitVec 64) (mv:List Int):BitVec 64:=mv.foldl (jX p s0) s0
theorem PA {A F:Nat} {s:BitVec 64} (hA:A<=4) (hF:F<=8) (hs:s >>> F=0#64):j5 (vF A s) A F 1 where
 hA:=hA
 hF:=hF
 hT:=⟨by omega,by omega⟩
 hR:=⟨by simp [vF],by simp [vF]⟩
 hP:=by simp [vF]
 loc:=λr hr=>by simp only [vF,γ] at hr; subst hr; rfl
 yi:=λr hr=>by simp only [vF,γ] at hr; subst hr; rfl
 row:=λr hr l hl=>by simp only [vF,γ] at hr; subst hr;simp only [γ] at hl; subst hl;simp
 val:=λr hr x hx=>by simp only [vF,γ] at hr; subst hr;simp only [γ] at hx; subst hx;exact hs
end Kb
theorem OH {p:yT} {F:Nat} {sts:List (List (BitVec 64))} {t:Nat} (h:W6 p F sts t) {f:List Nd} (hE:vq p f 15=0):xA prog 54 [lB p.xW sts t F,.sl 6 (wP f)] (.wH [.int .u64 (ui (V4 p.xW sts t f)),.int .i64 0]):=by
 obtain⟨h1,h2,h3⟩:=si hE;rw [h.fe] at h3;have ok:=h.time;have hl:(zA p.xW sts t).length*1=sts.length:=by rw [iW,Nat.mul_one]
 have hh:=YZ ok (by rw [hl]; have:=h.hR.2; omega) h1 h2 h3;unfold yg at hh;rw [if_pos (ij ok h1 h2 h3),hl,Xl] at hh;exact hh
theorem Xf {p:yT} {F:Nat} {sts:List (List (BitVec 64))} {t:Nat} (h:W6 p F sts t) {a w:Nat} (ha:a<p.xW.length) (hw:w<sts.length) (f:List Nd) :
  (Ru.pG (zA p.xW sts t) (wX sts.length 0) a (vL (zA p.xW sts t) a (w,0)) sts.length &&& ~~~V4 p.xW sts t f==0#64)= Nf p.xW sts t a f w:=by
 have hR:=h.hR.2;rw [Bool.eq_iff_iff,eE];unfold Nf V4;simp only [List.all_eq_true,η]
 constructor
 ·intro hh v hv
  by_cases e:uQ p.xW (vQ sts v) a t=uQ p.xW (vQ sts w) a t
  ·have h1:=hh v (by omega);rw [eX _ _ (by omega),mG hv,zM (by omega)] at h1;have h2:=(xg (t:=t) ha hv hw).2 e;simp only [decide_eq_true hv,decide_eq_true h2,Bool.true_and,true_implies] at h1;unfold N3;rw [decide_eq_true e,show pt 1 v=(v,0) by unfold pt; rw [Nat.div_one,Nat.mod_one]] at *;rw [h1]; rfl
  ·rw [decide_eq_false e]; rfl
 ·intro hh v hv hb;rw [eX _ _ (by omega)] at hb;simp only [ω,decide_eq_true_eq] at hb;obtain⟨hv2,hb⟩:=hb;rw [mG hv2] at hb;have h1:=hh v hv2;rw [decide_eq_true ((xg (t:=t) ha hv2 hw).1 hb)] at h1;rw [zM (by omega),decide_eq_true hv2,show pt 1 v=(v,0) by unfold pt; rw [Nat.div_one,Nat.mod_one]];simpa [N3] using h1
open Rs Fm Ru Te Kb
namespace Kb
structure aN (p : yT) (F : Nat) : Prop where
 fe:p.F=(F:Int)
 hF:F<=8
 hA:1<=p.xW.length/\p.xW.length<=4
 hI:1<=p.init.length/\p.init.length<=16
 hM:p.xO.length<=8
 hC:p.code.length=p.xW.length
 cl:∀ l ∈ p.code,l.length<=6
 init:∀ s ∈ p.init,s >>> F=0#64
 xW:∀ s ∈ p.xW,s >>> F=0#64
 bh:jl p.init=true
 GQ:∀ m ∈ p.xO,bX m=true
 mv:∀ m ∈ p.xO,∀ a ∈ m,mS p a=0
 code:∀ l ∈ p.code,∀ c ∈ l,jO p c=0
theorem nf {p:yT} {F:Nat} (h:p.F=(F:Int)) {s:BitVec 64} (hs:pF p s=false):s >>> F=0#64:=by unfold pF at hs;rw [h] at hs;simpa using hs
theorem Tb {p:yT} (h:uA p=0):∃ F,aN p F:=by
 unfold uA at h
 split at h
 ·rename_i h0; exact absurd h h0
 rename_i h0;have h0:wN p=0:=by simpa using h0
 split at h
 ·rename_i h1; exact absurd h h1
 rename_i h1;have h1:wQ (wQ (mS p)) p.xO=0:=by simpa using h1
 unfold wN at h0
 split at h0
 ·cases h0
 rename_i q1
 split at h0
 ·cases h0
 rename_i q2
 split at h0
 ·cases h0
 rename_i q3
 split at h0
 ·cases h0
 rename_i q4;simp only [not_or] at q1 q2 q3 q4;obtain⟨F,hF⟩:∃ F:Nat,p.F=(F:Int):=⟨p.F.toNat,by omega⟩
 refine⟨F,hF,by omega,by omega,by omega,by omega,by have:=q3.2.2.1; omega,λl hl=>?_,λs hs=>nf hF ?_,λs hs=>nf hF ?_,by simpa using q4.1,λm hm=>?_,λm hm a ha=>?_,λl hl c hc=>?_⟩
 ·have:=δ.1 (ψ.2 q2.2.2.2) l hl;simpa using this
 ·have:=δ.1 (ψ.2 q3.2.2.2.1) s hs;simpa using this
 ·have:=δ.1 (ψ.2 q3.2.2.2.2) s hs;simpa using this
 ·have:=δ.1 (ψ.2 q4.2) m hm;simpa using this
 ·exact oA.1 (oA.1 h1 m hm) a ha
 ·exact oA.1 (oA.1 h l hl) c hc
theorem YT {p:yT} {F:Nat} (h:aN p F) {m:List fQ} (hm:m ∈ p.xO):m.length<=8:=by
 have ha:=Px.1 (h.GQ m hm)
 have hf:∀ i,i<m.length->0<=(m.getD i aO).fact/\(m.getD i aO).fact<F:=λi hi=>by
  have:=h.mv m hm _ (xK (d:=aO) hi);unfold mS at this
  split at this
  ·cases this
  ·rename_i q; have:=h.fe; omega
 have hg:∀ i,i<m.length->(m.map (·.fact)).getD i 0=(m.getD i aO).fact:=λi hi=>by simp [List.getD,hi]
 have key:∀ i,i<m.length->(i:Int)<=(m.getD i aO).fact:=by
  intro i
  induction i with
  | zero=>intro hi; exact(hf 0 hi).1
  | succ i ih=> intro hi;have h1:=ih (by omega);have h2:=ha i (by simpa using hi);rw [hg i (by omega),hg (i+1) hi] at h2;omega
 by_cases h0:m.length=0
 ·omega
 ·have h1:=key (m.length-1) (by omega);have h2:=hf (m.length-1) (by omega);have:=h.hF;omega
end Kb
theorem Z5 (A F:Nat) (s:BitVec 64):rh (vF A s) (wX 1 0) A F = .agg [.int .i64 1,.sl 1 (us ((List.range F).map λi=>s >>> i &&& 1#64)),.sl 1 (rr (List.replicate A [1#64]))]:=by
 unfold rh
 have h1:rG (vF A s) (wX 1 0) F=(List.range F).map λi=>s >>> i &&& 1#64:=by refine List.map_congr_left λi _=>?_;rw [yw];show 0#64 ||| (if s.getLsbD i then 1#64 <<< 0 else 0#64)= _;cases s.getLsbD i <;> rfl
 have h2:tP (vF A s) (wX 1 0) A=List.replicate A [1#64]:=by refine List.eq_replicate_iff.2 ⟨by simp [tP],λr hr=>?_⟩;simp only [tP,List.mem_map,η] at hr;obtain⟨a,ha,rfl⟩:=hr;show [0#64 ||| (if vL (vF A s) a (0,0)= vL (vF A s) a (0,0) then 1#64 <<< 0 else 0#64)]=_;rw [if_pos rfl];rfl
 rw [h1,h2];rfl
theorem Rc (A:Nat) (f:List Nd) (s:BitVec 64) (n:Nat):tC 1 1 (bl (vF A s) A 1 (mV f)) <<< n=if bf A f s=true then 1#64 <<< n else 0#64:=by show (0#64 ||| (if bf A f s=true then 1#64 <<< 0 else 0#64)) <<< n=_;split <;> simp
theorem Z1 {n:Nat} (hn:1<=n/\n<=64):xA prog 224 [.sl 1 [[.sl 1 (us [1#64])]],.int .i64 (n:Int)] (.sl 1 (rr (List.replicate n [1#64]))):=by have h:=UT (d:=.sl 1 (us [1#64])) rfl rfl hn;rw [Oo] at h;exact xP.ret h (.drop (π _) (XM (by decide) (w9 _) (by simp [rr])))
end Go.Pd
