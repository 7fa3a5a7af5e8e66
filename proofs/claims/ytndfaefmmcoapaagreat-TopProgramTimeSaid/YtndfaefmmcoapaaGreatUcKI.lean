/- Part KI. -/
import Derived.Test.YtndfaefmmcoapaaGreatUcJB
import Derived.Test.YtndfaefmmcoapaaGreatUcX9
import Derived.Test.YtndfaefmmcoapaaGreatUcX6
import Derived.Test.YtndfaefmmcoapaaGreatUcSC
import Derived.Test.YtndfaefmmcoapaaGreatUcKG
set_option linter.unusedSectionVars false
set_option linter.unusedVariables false
set_option linter.unusedSimpArgs false
set_option linter.defProp false
set_option maxRecDepth 20000
set_option maxHeartbeats 1000000
open Go.Proofs.Tryz
open List renaming map_congr_left->γ,mem_range->δ,length_append->ε,length_take->ζ,nil_append->η,mem_cons->θ,take_length->κ,range_succ->μ,map_append->ν,length_map->ξ,ext_getElem->ο,getElem?_eq_getElem->π,eq_of_mem_replicate->τ,map_map->υ,drop_eq_nil_of_le->χ,length_replicate->ω,mem_cons_of_mem->Aa,drop_replicate->Ab,mem_singleton->Ac,any_eq_false->Ad,not_mem_nil->Ae,cons_append->Af,any_eq_true->Ag
open Nat renaming le_refl->Ah,zero_le->Ai,not_lt_zero->Aj,min_eq_right->Ak,mod_eq_of_lt->Al,mul_comm->Am,and_or_distrib_right->An
open Int renaming toNat_natCast->Ao
open Bool renaming and_eq_true->Ap,not_eq_true->Aq
open BitVec renaming ofInt_natCast->Ar,toNat_ofNat->As
namespace Go.Pd
open Go Go.Proofs
open BitVec renaming isValue -> ZA
open Rs Fm Ru Te Kb
structure Kg (p : yA) (F : Nat) (sts : List (List (BitVec 64))) (t : Nat) : Prop where
 fe:p.F=(F:Int)
 hF:F<=8
 hA:p.xK.length<=4
 hR:sts.length<=64
 len:∀ st ∈ sts,t<st.length
 ht:t<=1000
theorem Nm {a b:List (BitVec 64)}:yU prog 74 [.sl 1 (us a),.sl 1 (us b)] (.bool (decide (a.map ui=b.map ui))):=by rw [vv,vv];exact XP _ _
theorem Qb {p:yA} {F:Nat} {sts:List (List (BitVec 64))} {t:Nat} (ok:Kg p F sts t):yU prog 130 [wm p sts,.int .i64 t] (Wc p.xK sts t F):=by
 have hF:=ok.hF;have hA:=ok.hA;have hR:=ok.hR;have ht:=ok.ht;have hl:∀ i,i<sts.length->t<(tA sts i).length:=λi hi=>ok.len _ (xL hi);have hist:∀ a w,a<p.xK.length->w<sts.length->yU prog 75 [wm p sts,.int .i64 a,.int .i64 w,.int .i64 t] (.sl 1 (us (rM p.xK (tA sts w) a t))):=λa w ha hw=>xa (yp p ha hw (hl w hw) ht);have hkey:=λa v w (ha:a<p.xK.length) (hv:v<sts.length) (hw:w<sts.length)=>O5 (xK:=p.xK) (t:=t) ha hv hw;have hfac:=λw (hw:w<sts.length)=>Rk (xK:=p.xK) (t:=t) hw;unfold Wc ez;have hll:(zM sts.length 0).length=sts.length:=qN _ _;have hlg:∀ i,i<sts.length->(zM sts.length 0).getD i (0,0)= (i,0):=λi hi=>jP hi;generalize vV p.xK sts t=rs at *;generalize zM sts.length 0=l at *;unfold wm Pj at *;rw [ok.fe] at *;refine xY.xN mixed func130 IW (by simp) λhf=>?_
 have hz:List.replicate F [D.int .u64 (ui 0#64)]=us ((List.range F).map λf=>tO rs l f 0):=by simp only [tO,us,υ];refine ο (by simp) λi h1 h2=>?_;simp
 simp only [simprocAttr,-ZA,↓zU,↓zD,zV,zT,zW,zE,↓o6]
 (refine jt mixed ?_; unfold p7; simp only [simprocAttr,-ZA,↓zU,↓zD,zV,zT,zW,↓VZ,↓VY,↓LD,↓LF,↓LG,↓LH,↓LI,↓LJ,↓uz,lI,iN,zE])
 refine⟨by omega,by omega,by omega,by omega,?_,?_⟩
 ·rw [hz]
  (refine xT.tP [(1,2),(2,1)] [2,1,0] (by simp) (by simp) (by decide) ?_; simp only [yQ,zQ,simprocAttr,-ZA,exists_eq_left',ne_eq,zR,yJ])
 refine xP (λw:Nat=>[(31,.int .i64 w),(30,.int .i64 sts.length),(29,.sl 1 (rr sts)),(5,.ref 2 3 0 0),(4,.ref 0 3 0 0),(1,.int .i64 t),(0,.ptr [.int .i64 F,.sl 1 (us p.init),.sl 1 (us p.xK),.sl 1 (oB p.xJ),.sl 1 (oA p.code),.sl 1 (rr sts)])])
  (λw=>⟨3,[(2,⟨3,[[.int .i64 sts.length,.yM 1 1 F,.xO]]⟩),(1,⟨1,us ((List.range F).map λf=>tO rs l f w)⟩),(0,⟨3,[[.int .i64 0,.xO,.xO]]⟩)]⟩)
  (λw=>w<=sts.length) (λw=>sts.length-w) 0 (Ai _) ?_ ?_
 ·rw [<- hz]
  (refine xT.same ?_; simp [xS,Fr.get])
 intro w hw;refine xM mixed ?_
 by_cases hwl:w<sts.length
 ·have hd:((w:Int)<(sts.length:Int)):=by omega
  have hg:=nC sts hwl
  have hv:∀ f,tO rs l f (w+1)= tO rs l f w ||| (if ((tA sts w).getD t 0).getLsbD f then 1#64 <<< w else 0#64):=λf=>by rw [<- hfac w hwl,<- hlg w hwl]; rfl
  have hlw:=hl w hwl;unfold tA at hv hlw;generalize sts.getD w []=st at hg hv hlw;have hg2:=vX st hlw;have hd0:((t:Int)<(st.length:Int)):=by omega
  generalize st.getD t 0=x at hg2 hv;simp only [simprocAttr,-ZA,↓zU,↓zD,zV,zT,zW,hd,zE,hg]
  (repeat refine sd ?_)
  refine xP (λi:Nat=>[(39,.int .i64 i),(38,.int .i64 F),(31,.int .i64 w),(30,.int .i64 sts.length),(29,.sl 1 (rr sts)),(7,.sl 1 (us st)),(6,.int .i64 w),(5,.ref 2 3 0 0),(4,.ref 0 3 0 0),(1,.int .i64 t),(0,.ptr [.int .i64 F,.sl 1 (us p.init),.sl 1 (us p.xK),.sl 1 (oB p.xJ),.sl 1 (oA p.code),.sl 1 (rr sts)])])
   (λi=>⟨3,[(2,⟨3,[[.int .i64 sts.length,.yM 1 1 F,.xO]]⟩),(1,⟨1,us (lD F (λf=>tO rs l f (w+1)) (λf=>tO rs l f w) i)⟩),(0,⟨3,[[.int .i64 0,.xO,.xO]]⟩)]⟩)
   (λi=>i<=F) (λi=>F-i) 0 (Ai _) ?_ ?_
  ·rw [yu]
   (refine xT.same ?_; simp [xS,Fr.get])
  intro i hi;refine xM mixed ?_
  by_cases hil:i<F
  ·have hd2:((i:Int)<(F:Int)):=by omega
   have hmg:=vX (lD F (λf=>tO rs l f (w+1)) (λf=>tO rs l f w) i) (show i<_ by rw [gG]; exact hil);rw [rm _ _ hil] at hmg;have hms:=rn F (λf=>tO rs l f (w+1)) (λf=>tO rs l f w) i;simp only [hv i] at hms;have hml:=gG F (λf=>tO rs l f (w+1)) (λf=>tO rs l f w) i;generalize lD F (λf=>tO rs l f (w+1)) (λf=>tO rs l f w) i=M at hmg hms hml;simp only [simprocAttr,-ZA,↓zU,↓zD,zV,zT,zW,hd2,xI,hml,hmg,hd0,hg2,Vq,lA,hms]
   (repeat refine sd ?_)
   refine⟨i+1,by omega,?_,by omega⟩
   (refine xT.same ?_; simp only [xS,Fr.get,simprocAttr,-ZA,zS])
   exact wrap_i64 (by omega)
  ·have hd2:¬ ((i:Int)<(F:Int)):=by omega
   rw [rk _ _ _ (by omega:F<=i)];simp only [simprocAttr,-ZA,↓zU,↓zD,zV,zT,zW,hd2]
   (repeat refine sd ?_)
   refine⟨w+1,by omega,?_,by omega⟩
   (refine xT.tP [] [2,1,0] (by simp) (by simp) (by decide) ?_; simp only [yQ,zQ,simprocAttr,-ZA,exists_eq_left',ne_eq,zR,yJ])
   exact wrap_i64 (by omega)
 have hd:¬ ((w:Int)<(sts.length:Int)):=by omega
 obtain rfl:w=sts.length:=by omega
 rw [show ((List.range F).map λf=>tO rs l f sts.length)= qE rs l F by rw [<- hll]; rfl];simp only [simprocAttr,-ZA,↓zU,↓zD,zV,zT,zW,hd]
 refine xP (λa:Nat=>[(66,.int .i64 a),(65,.int .i64 p.xK.length),(5,.ref 2 3 0 0),(4,.ref 0 3 0 0),(1,.int .i64 t),(0,.ptr [.int .i64 F,.sl 1 (us p.init),.sl 1 (us p.xK),.sl 1 (oB p.xJ),.sl 1 (oA p.code),.sl 1 (rr sts)])])
  (λa=>⟨4,yZ 3 1 (rr (uY rs l a))++ [(2,⟨3,[[.int .i64 sts.length,.yM 1 1 F,xB 3 1 (rr (uY rs l a))]]⟩),(1,⟨1,us (qE rs l F)⟩),(0,⟨3,[[.int .i64 0,.xO,.xO]]⟩)]⟩)
  (λa=>a<=p.xK.length) (λa=>p.xK.length-a) 0 (Ai _) ?_ ?_
 ·(refine xT.tP [] [2,1,0] (by simp) (by simp) (by decide) ?_; simp only [yQ,zQ,simprocAttr,-ZA,exists_eq_left',ne_eq,zR,uY,List.range_zero,List.map_nil,wR,wS,η,yJ,show rr [] = [] from rfl])
 intro a ha;refine xM mixed ?_;by_cases hal:a<p.xK.length
 case neg=>
  have hd2:¬ ((a:Int)<(p.xK.length:Int)):=by omega
  obtain rfl:a=p.xK.length:=by omega
  have hvl:(us (qE rs l F)).length=F:=by simp [us,qE]
  rw [hll];simp only [simprocAttr,-ZA,↓zU,↓zD,zV,zT,zW,hd2]
  (refine pC.tP [] [] (by simp) (by simp) (by decide) ?_; simp only [yQ,zQ,simprocAttr,-ZA,exists_eq_left',ne_eq,zR,yJ,uU])
  exact⟨λ_ h=>h.elim,by omega,(List.take_of_length_le (by omega)).symm,pP _⟩
 have hd2:((a:Int)<(p.xK.length:Int)):=by omega
 have hrel:uY rs l (a+1)= uY rs l a ++ [uL rs l a]:=by unfold uY; rw [μ,ν]; rfl
 generalize hRL:uY rs l a=RL at hrel;have hrl:(uL rs l a).length=sts.length:=by simp [uL,hll]
 have hrlg:∀ w,w<sts.length->(uL rs l a).getD w 0#64=Ru.lF rs l a (yV rs a (w,0)) sts.length:=λw hw=>by rw [<- hll] at hw ⊢;have:=hlg w (by omega);simp only [List.getD,hw,π,Option.getD_some] at this;simp [uL,List.getD,hw,this]
 simp only [simprocAttr,-ZA,↓zU,↓zD,zV,zT,zW,zE,hd2]
 refine uZ (λw:Nat=>[(74,.int .i64 w),(73,.int .i64 sts.length),(66,.int .i64 a),(65,.int .i64 p.xK.length),(10,xB 4 1 (us ((uL rs l a).take w))),(9,.int .i64 a),(5,.ref 2 3 0 0),(4,.ref 0 3 0 0),(1,.int .i64 t),(0,.ptr [.int .i64 F,.sl 1 (us p.init),.sl 1 (us p.xK),.sl 1 (oB p.xJ),.sl 1 (oA p.code),.sl 1 (rr sts)])])
  (λw=>⟨5,yZ 4 1 (us ((uL rs l a).take w))++ (yZ 3 1 (rr RL)++ [(2,⟨3,[[.int .i64 sts.length,.yM 1 1 F,xB 3 1 (rr RL)]]⟩),(1,⟨1,us (qE rs l F)⟩),(0,⟨3,[[.int .i64 0,.xO,.xO]]⟩)])⟩)
  (λw=>w<=sts.length) (λw=>sts.length-w) 0 (Ai _) ?_ ?_
 ·(refine xT.tP [] [3,2,1,0] (by simp) (by simp) (by decide) ?_; simp only [yQ,zQ,simprocAttr,-ZA,exists_eq_left',ne_eq,zR,List.take_zero,ud,wR,wS,η,yJ,uU])
 intro w hw;refine xM mixed ?_;by_cases hwl:w<sts.length
 case neg=>
  have hd3:¬ ((w:Int)<(sts.length:Int)):=by omega
  rw [show (uL rs l a).take w=uL rs l a by rw [show w=(uL rs l a).length by omega,κ]];simp only [simprocAttr,-ZA,↓zU,↓zD,zV,zT,zW,hd3]
  refine .go [(66,.int .i64 a),(65,.int .i64 p.xK.length),(10,.sl 1 (us (uL rs l a))),(9,.int .i64 a),(5,.ref 2 3 0 0),(4,.ref 0 3 0 0),(1,.int .i64 t),(0,.ptr [.int .i64 F,.sl 1 (us p.init),.sl 1 (us p.xK),.sl 1 (oB p.xJ),.sl 1 (oA p.code),.sl 1 (rr sts)])]
   ⟨4,yZ 3 1 (rr RL)++ [(2,⟨3,[[.int .i64 sts.length,.yM 1 1 F,xB 3 1 (rr RL)]]⟩),(1,⟨1,us (qE rs l F)⟩),(0,⟨3,[[.int .i64 0,.xO,.xO]]⟩)]⟩ ?_ ?_
  ·(refine xT.tP [] [3,2,1,0] (by simp) (by simp) (by decide) ?_; simp only [yQ,zQ,simprocAttr,-ZA,exists_eq_left',ne_eq,zR,yJ,uU])
  have hRLl:RL.length=a:=by rw [<- hRL]; simp [uY]
  simp only [simprocAttr,-ZA,↓zU,↓zD,zV,zT,zW,zE,hRLl]
  (repeat refine sd ?_)
  refine⟨a+1,by omega,?_,by omega⟩;rw [hrel]
  (refine xT.tP [(3,4)] [3,2,1,0] (by simp) (by simp) (by decide) ?_; simp only [yQ,zQ,simprocAttr,-ZA,exists_eq_left',ne_eq,zR,yJ,uU])
  exact wrap_i64 (by omega)
 have hd3:((w:Int)<(sts.length:Int)):=by omega
 have hrg:(uL rs l a).take (w+1)= (uL rs l a).take w ++ [Ru.lF rs l a (yV rs a (w,0)) sts.length]:=by rw [zA (d:=0#64) (by omega),hrlg w hwl]
 have htl:((uL rs l a).take w).length=w:=by rw [ζ]; omega
 generalize (uL rs l a).take w=rw' at hrg htl;simp only [simprocAttr,-ZA,↓zU,↓zD,zV,zT,zW,hd3,zE]
 refine xP (λv:Nat=>[(82,.int .i64 v),(81,.int .i64 sts.length),(74,.int .i64 w),(73,.int .i64 sts.length),(66,.int .i64 a),(65,.int .i64 p.xK.length),(12,.int .u64 (ui (Ru.lF rs l a (yV rs a (w,0)) v))),(11,.int .i64 w),(10,xB 4 1 (us rw')),(9,.int .i64 a),(5,.ref 2 3 0 0),(4,.ref 0 3 0 0),(1,.int .i64 t),(0,.ptr [.int .i64 F,.sl 1 (us p.init),.sl 1 (us p.xK),.sl 1 (oB p.xJ),.sl 1 (oA p.code),.sl 1 (rr sts)])])
  (λ_=>⟨5,yZ 4 1 (us rw')++ (yZ 3 1 (rr RL)++ [(2,⟨3,[[.int .i64 sts.length,.yM 1 1 F,xB 3 1 (rr RL)]]⟩),(1,⟨1,us (qE rs l F)⟩),(0,⟨3,[[.int .i64 0,.xO,.xO]]⟩)])⟩)
  (λv=>v<=sts.length) (λv=>sts.length-v) 0 (Ai _) ?_ ?_
 ·(refine xT.same ?_; simp only [xS,Fr.get,simprocAttr,-ZA,zS,Ru.lF])
  all_goals rfl
 intro v hv;refine xM mixed ?_;by_cases hvl:v<sts.length
 case neg=>
  have hd4:¬ ((v:Int)<(sts.length:Int)):=by omega
  obtain rfl:v=sts.length:=by omega
  simp only [simprocAttr,-ZA,↓zU,↓zD,zV,zT,zW,hd4,xI,htl]
  (repeat refine sd ?_)
  refine⟨w+1,by omega,?_,by omega⟩;rw [hrg]
  (refine xT.tP [(4,5)] [4,3,2,1,0] (by simp) (by simp) (by decide) ?_; simp only [yQ,zQ,simprocAttr,-ZA,exists_eq_left',ne_eq,zR,yJ,uU])
  exact wrap_i64 (by omega)
 have hd4:((v:Int)<(sts.length:Int)):=by omega
 have hrk:Ru.lF rs l a (yV rs a (w,0)) (v+1)= Ru.lF rs l a (yV rs a (w,0)) v ||| (if yV rs a (v,0)= yV rs a (w,0) then 1#64 <<< v else 0#64):=by rw [<- hlg v hvl]; rfl
 have heq:=Nm (a:=rM p.xK (tA sts w) a t) (b:=rM p.xK (tA sts v) a t);rw [hkey a v w hal hvl hwl] at heq;have h1:=hist a w hal hwl;have h2:=hist a v hal hvl;generalize rM p.xK (tA sts w) a t=x1 at heq h1;generalize rM p.xK (tA sts v) a t=x2 at heq h2;simp only [simprocAttr,-ZA,↓zU,↓zD,zV,zT,zW,hd4];refine .go (cr h1) ?_;simp only [simprocAttr,-ZA,↓zU,↓zD,zV,zT,zW];refine .go (cr h2) ?_;simp only [simprocAttr,-ZA,↓zU,↓zD,zV,zT,zW];refine .go (cr heq) ?_
 by_cases c:yV rs a (v,0)= yV rs a (w,0)
 ·rw [if_pos c] at hrk;rw [decide_eq_true c];simp only [simprocAttr,-ZA,↓zU,↓zD,zV,zT,zW]
  (repeat refine sd ?_)
  refine⟨v+1,by omega,?_,by omega⟩
  (refine xT.same ?_; simp only [xS,Fr.get,simprocAttr,-ZA,zS,hrk])
  exact wrap_i64 (by omega)
 ·rw [if_neg c,BitVec.or_zero] at hrk;rw [decide_eq_false c];simp only [simprocAttr,-ZA,↓zU,↓zD,zV,zT,zW];refine⟨v+1,by omega,?_,by omega⟩
  (refine xT.same ?_; simp only [xS,Fr.get,simprocAttr,-ZA,zS,hrk])
  exact wrap_i64 (by omega)
end Go.Pd

/- Part KR. -/
namespace Go.Pd
open Go Go.Proofs
open BitVec renaming isValue -> ZA
def T9 (x y:BitVec 64):BitVec 64:=
 let x0:=x &&& 4294967295#64
 let x1:=x >>> 32
 let y0:=y &&& 4294967295#64
 let y1:=y >>> 32
 let w0:=x0*y0
 let t:=x1*y0+w0 >>> 32
 let w1:=(t &&& 4294967295#64)+ x0*y1
 let w2:=t >>> 32
 x1*y1+w2+w1 >>> 32
theorem US : ∀ n:Fin 65,T9 1#64 (BitVec.ofNat 64 n.val)= 0#64:=by decide +kernel
theorem KA : D.int .u64 4294967295=D.int .u64 (ui 4294967295#64):=rfl
theorem Lz (x y:BitVec 64):yU prog 238 [.int .u64 (ui x),.int .u64 (ui y)] (.wK [.int .u64 (ui (T9 x y)),.int .u64 (ui (x*y))]):=by
 refine xY.xN mixed func238 JP (by simp) λhf=>?_;simp only [simprocAttr,-ZA,↓zU,↓zD,zV,zT,zW,KA]
 (repeat refine sd ?_)
 exact .same
theorem Sj {n:Nat} (hn:n<=64):yU prog 190 [.int .u64 1,.int .u64 (n:Int)] (.wK [.int .u64 0,.int .u64 (n:Int)]):=by have h:=Lz 1#64 (BitVec.ofNat 64 n);have e1:T9 1#64 (BitVec.ofNat 64 n)= 0#64:=US ⟨n,by omega⟩;have e2:1#64*BitVec.ofNat 64 n=BitVec.ofNat 64 n:=BitVec.one_mul _;rw [e1,e2,Rn (k:=n) (by omega)] at h;refine xY.xN mixed func190 J3 (by simp) λhf=>?_;simp only [PS,PR] at *;simp only [simprocAttr,-ZA,↓zU,↓zD,zV,zT,zW];refine .go (cr h) ?_;simp only [simprocAttr,-ZA,↓zU,↓zD,zV,zT,zW];exact .same
theorem j0 {xV:List (List D)} {n c:Nat} (h:c<=xV.length):rowsOf ⟨n,[(0,⟨1,xV⟩)]⟩ 1 (.yM 0 1 c)= some (xV.take c):=by show (if (1:Nat)= 1 then(if 1=1/\c<=xV.length then some (xV.take c) else none) else none)= _;rw [if_pos rfl,if_pos ⟨rfl,h⟩]
def qQ (d z:D) (n c:Nat):List (List D):=List.replicate c [d]++List.replicate (n-c) [z]
theorem gq {d z:D} {n c:Nat} (h:c<=n):(qQ d z n c).length=n:=by simp [qQ]; omega
theorem cL {d z:D} {n c:Nat}:(qQ d z n c).take c=List.replicate c [d]:=by unfold qQ;rw [List.take_left' (by simp)]
theorem oz {d z:D} {n c:Nat} (h:c<n):(qQ d z n c).take c++(((qQ d z n c).take c).take (min (n-c) c)++ (qQ d z n c).drop (c+min (n-c) c))= qQ d z n (c+min (n-c) c):=by
 rw [cL]
 have e:(qQ d z n c).drop (c+min (n-c) c)= List.replicate (n-(c+min (n-c) c)) [z]:=by unfold qQ;rw [List.drop_append,ω,χ (by simp),η,Ab];congr 1;omega
 rw [e,List.take_replicate,show min (min (n-c) c) c=min (n-c) c by omega];unfold qQ;rw [<- List.append_assoc,List.replicate_append_replicate]
theorem wz {d z:D} {n:Nat} (h:1<=n):[[d]].take (min n 1)++ (List.replicate n [z]).drop (min n 1)= qQ d z n 1:=by rw [Ak h,Ab];rfl
theorem Ui {d:D} (hd:d.xD=true) (h1:d.one=true) {n:Nat} (hn:1<=n/\n<=64):xY prog 131 [.sl 1 [[d]],.int .i64 (n:Int)] gY (.yM 0 1 n) ⟨1,[(0,⟨1,List.replicate n [d]⟩)]⟩:=by
 have hM:=Sj hn.2;have hw:=WU (n:=n) (by omega);have hw1:IntKind.u64.wrap ((1:Nat):Int)= 1:=by decide
 have hw2:IntKind.i64.wrap (n:Int)= (n:Int):=wrap_i64 (by omega);have hneg:¬ ((n:Int)<0):=by omega
 refine xY.xN mixed func131 IZ (by simp) λhf=>?_;simp only [simprocAttr,-ZA,↓zU,↓zD,zV,zT,zW,hneg,hw1,hw,show (1:Nat)= 1 from rfl];simp only [PS,PR,show IntKind.u64.wrap 1=1 from by decide] at *;refine .go (cr hM) ?_;have hz:¬ (ui 0#64<ui 0#64):=Int.lt_irrefl _;have hb:¬ ((9223372036854775807:Int)<(n:Int)):=by omega
 have hp1:D.xR [d]=true:=by simp [D.xR,hd]
 simp only [simprocAttr,-ZA,↓zU,↓zD,zV,zT,zW,hz,hb,hw2,h1];refine⟨by omega,by omega,by simp,by omega,?_⟩;rw [Ak hn.1];have hstart:=wz (d:=d) (z:=D.int .i64 0) hn.1;rw [Ak hn.1] at hstart;have hlr:(List.replicate n [D.int .i64 0]).length=n:=by simp
 refine xP (λc:Nat=>[(8,.int .i64 c),(7,.yM 0 1 n)]) (λc=>⟨1,[(0,⟨1,qQ d (D.int .i64 0) n c⟩)]⟩) (λc=>1<=c/\c<=n) (λc=>n-c) 1 ⟨Ah _,hn.1⟩ ?_ ?_
 ·rw [<- hstart]
  (refine xT.same ?_; simp [xS,Fr.get])
 intro c ⟨hc1,hc2⟩;refine xM mixed ?_;have hL:=gq (d:=d) (z:=D.int .i64 0) hc2
 by_cases hcn:c<n
 ·have hd1:((c:Int)<(n:Int)):=by omega
  simp only [simprocAttr,-ZA,↓zU,↓zD,zV,zT,zW,hd1];have i1:¬ ((c:Int)= 0):=by omega
  have i2:¬ ((c:Int)= (n:Int)):=by omega
  have hst:=oz (d:=d) (z:=D.int .i64 0) hcn;have htk:=cL (d:=d) (z:=D.int .i64 0) (n:=n) (c:=c);generalize qQ d (D.int .i64 0) n c=xV at hL hst htk ⊢;refine⟨(c:Int),(n:Int),rfl,rfl,by omega,by omega,by omega,0,(c:Int),rfl,rfl,by omega,by omega,by omega,?_⟩;simp only [↓reduceIte,if_neg i1,if_neg i2,Ao];first | rw [if_pos ⟨trivial,by omega⟩] | rw [j0 (by omega)]
  refine⟨λr hr=>?_,trivial,trivial,by omega,?_⟩
  ·rw [htk] at hr;rw [τ hr];simp [h1]
  have hm:(min (n-c) (xV.take c).length)= min (n-c) c:=by rw [ζ]; omega
  rw [hm];have em:(n:Int).toNat-c=n-c:=by omega
  refine⟨by omega,c+min (n-c) c,⟨by omega,by omega⟩,?_,by omega⟩;rw [hst]
  (refine xT.same ?_; simp only [xS,Fr.get,simprocAttr,-ZA,zS])
  rw [wrap_i64 (by omega)];omega
 ·have hd1:¬ ((c:Int)<(n:Int)):=by omega
  obtain rfl:c=n:=by omega
  have he:qQ d (D.int .i64 0) c c=List.replicate c [d]:=by simp [qQ]
  rw [he];simp only [simprocAttr,-ZA,↓zU,↓zD,zV,zT,zW,hd1];exact .same
theorem Uj {d:D} (hd:d.xD=true) (h1:d.one=true) {n:Nat} (hn:1<=n/\n<=64):xY prog 224 [.sl 1 [[d]],.int .i64 (n:Int)] gY (.yM 0 1 n) ⟨1,[(0,⟨1,List.replicate n [d]⟩)]⟩:=by
 have hM:=Sj hn.2;have hw:=WU (n:=n) (by omega);have hw1:IntKind.u64.wrap ((1:Nat):Int)= 1:=by decide
 have hw2:IntKind.i64.wrap (n:Int)= (n:Int):=wrap_i64 (by omega);have hneg:¬ ((n:Int)<0):=by omega
 refine xY.xN mixed func224 JM (by simp) λhf=>?_;simp only [simprocAttr,-ZA,↓zU,↓zD,zV,zT,zW,hneg,hw1,hw,show (1:Nat)= 1 from rfl];simp only [PS,PR,show IntKind.u64.wrap 1=1 from by decide] at *;refine .go (cr hM) ?_;have hz:¬ (ui 0#64<ui 0#64):=Int.lt_irrefl _;have hb:¬ ((9223372036854775807:Int)<(n:Int)):=by omega
 have hp1:D.xR [d]=true:=by simp [D.xR,hd]
 simp only [simprocAttr,-ZA,↓zU,↓zD,zV,zT,zW,hz,hb,hw2,h1];refine⟨by omega,by omega,by simp,by omega,?_⟩;rw [Ak hn.1];have hstart:=wz (d:=d) (z:=D.xO) hn.1;rw [Ak hn.1] at hstart;have hlr:(List.replicate n [D.xO]).length=n:=by simp
 refine xP (λc:Nat=>[(8,.int .i64 c),(7,.yM 0 1 n)]) (λc=>⟨1,[(0,⟨1,qQ d (D.xO) n c⟩)]⟩) (λc=>1<=c/\c<=n) (λc=>n-c) 1 ⟨Ah _,hn.1⟩ ?_ ?_
 ·rw [<- hstart]
  (refine xT.same ?_; simp [xS,Fr.get])
 intro c ⟨hc1,hc2⟩;refine xM mixed ?_;have hL:=gq (d:=d) (z:=D.xO) hc2
 by_cases hcn:c<n
 ·have hd1:((c:Int)<(n:Int)):=by omega
  simp only [simprocAttr,-ZA,↓zU,↓zD,zV,zT,zW,hd1];have i1:¬ ((c:Int)= 0):=by omega
  have i2:¬ ((c:Int)= (n:Int)):=by omega
  have hst:=oz (d:=d) (z:=D.xO) hcn;have htk:=cL (d:=d) (z:=D.xO) (n:=n) (c:=c);generalize qQ d (D.xO) n c=xV at hL hst htk ⊢;refine⟨(c:Int),(n:Int),rfl,rfl,by omega,by omega,by omega,0,(c:Int),rfl,rfl,by omega,by omega,by omega,?_⟩;simp only [↓reduceIte,if_neg i1,if_neg i2,Ao];first | rw [if_pos ⟨trivial,by omega⟩] | rw [j0 (by omega)]
  refine⟨λr hr=>?_,trivial,trivial,by omega,?_⟩
  ·rw [htk] at hr;rw [τ hr];simp [h1]
  have hm:(min (n-c) (xV.take c).length)= min (n-c) c:=by rw [ζ]; omega
  rw [hm];have em:(n:Int).toNat-c=n-c:=by omega
  refine⟨by omega,c+min (n-c) c,⟨by omega,by omega⟩,?_,by omega⟩;rw [hst]
  (refine xT.same ?_; simp only [xS,Fr.get,simprocAttr,-ZA,zS])
  rw [wrap_i64 (by omega)];omega
 ·have hd1:¬ ((c:Int)<(n:Int)):=by omega
  obtain rfl:c=n:=by omega
  have he:qQ d (D.xO) c c=List.replicate c [d]:=by simp [qQ]
  rw [he];simp only [simprocAttr,-ZA,↓zU,↓zD,zV,zT,zW,hd1];exact .same
theorem OS (n:Nat):List.replicate n [D.int .i64 (-1)]=rows .i64 (List.replicate n (-1)):=by simp [rows]
theorem Of (n:Nat):List.replicate n [D.sl 1 (us [1#64])]=rr (List.replicate n [1#64]):=by simp [rr,VX]
open Rs Fm Ru Te
namespace Te
theorem U3 {A F:Nat} {c:List Nd} (hv:vU c) (h:∀ p ∈ c,pG A F p=true):∀ i,i<c.length->rN A F (tree c i)= true:=by
 intro i
 induction i using Nat.strongRecOn with
 | _ i ih=>
  intro hi;obtain⟨ox,oy,_,_⟩:=rS (hv i hi);have hs:=h (c.getD i wA) (by rw [List.getD,π hi]; exact List.getElem_mem hi);rw [rA hv hi];show (pG A F _&&(rN A F _&&rN A F _))= true;rw [show pG A F ⟨(c.getD i wA).op,(c.getD i wA).i,(c.getD i wA).e,(c.getD i wA).g,0,0⟩= pG A F (c.getD i wA) from rfl,hs,Bool.true_and,Ap]
  constructor
  ·split
   ·rename_i hx; have:=ox hx; exact ih _ (by omega) (by omega)
   ·rfl
  ·split
   ·rename_i hy; have:=oy hy; exact ih _ (by omega) (by omega)
   ·rfl
theorem V5 {A F:Nat} {p:Nd} {k:Int} (hn:zY p k=0) (ho:LC A F p=true) (ht:rF p &&& 256=0):pG A F p=true:=by
 unfold LC at ho;simp only [Ap,decide_eq_true_eq] at ho;obtain⟨⟨h1,h2⟩,h3⟩:=ho
 have hi0:p.op=3\/p.op=9\/p.op=10->0<=p.i:=λh=>by
  rcases h with h | h | h
  ·exact(lP hn (by rw [h]; rfl)).1
  ·exact(sF hn (by rw [h]; rfl)).1
  ·exact(sF hn (by rw [h]; rfl)).1
 have hg0:=jS hn;have hu:=(vN.1 hn).1
 have lt_of:∀ {a b:Nat},2 ^ a / 2 ^ b=0->a<b:=λ{a b} h=>Decidable.byContradiction λhh=>by have:=Nat.pow_le_pow_right (n:=2) (by decide) (show b<=a by omega);have:=Nat.div_pos this (Nat.two_pow_pos b);omega
 obtain⟨op,i,e,g,a,b⟩:=p;simp only at hi0 hg0 hu
 rcases sG op with rfl | rfl | rfl | rfl | rfl | rfl | rfl | rfl | rfl | rfl | rfl | rfl | rfl | rfl | rfl | rfl | rfl | rfl | rfl | rfl | rfl | h | h
 ·rfl
 ·rfl
 ·have h3:2 ^ i.toNat / 2 ^ F=0:=h3;have:=lt_of h3;have h0:=hi0 (.inl rfl);show decide (i<(F:Int))= true;exact decide_eq_true (by omega)
 ·rfl
 ·rfl
 ·rfl
 ·rfl
 ·rfl
 ·have h2:2 ^ i.toNat / 2 ^ A=0:=h2;have:=lt_of h2;have h0:=hi0 (.inr (.inl rfl));show decide (i<(A:Int))= true;exact decide_eq_true (by omega)
 ·have h2:2 ^ i.toNat / 2 ^ A=0:=h2;have:=lt_of h2;have h0:=hi0 (.inr (.inr rfl));show decide (i<(A:Int))= true;exact decide_eq_true (by omega)
 iterate 3
  ·have h2:g.toNat / 2 ^ A=0:=h2;have:=(Nat.div_eq_zero_iff.1 h2).resolve_left (by have:=Nat.two_pow_pos A; omega);show decide (g<((2 ^ A:Nat):Int))= true;exact decide_eq_true (by omega)
 ·exact absurd h1 (show ¬ (16:Nat)&&& 3824=0 by decide)
 ·exact absurd h1 (show ¬ (32:Nat)&&& 3824=0 by decide)
 ·exact absurd h1 (show ¬ (64:Nat)&&& 3824=0 by decide)
 ·exact absurd h1 (show ¬ (128:Nat)&&& 3824=0 by decide)
 iterate 4
  ·exact absurd ht (show ¬ (256:Nat)&&& 256=0 by decide)
 ·rw [vS (.inl h)] at hu; cases hu
 ·rw [vS (.inr h)] at hu; cases hu
theorem La {a b:Nat} (ha:a<2 ^ 62) (hb:b<2 ^ 62):tY .and .i64 (a:Int) (b:Int)= ((a &&& b:Nat):Int):=by show IntKind.i64.wrap ((BitVec.ofInt 64 (a:Int)&&& BitVec.ofInt 64 (b:Int)).toNat:Int)= _;rw [Ar,Ar,BitVec.toNat_and,As,As,Al (by omega),Al (by omega)];have:a &&& b<=a:=Nat.and_le_left;exact wrap_i64 (by omega)
theorem gw {n:Nat} (h:n<4096):(tY .and .i64 (n:Int) 256 != 0)= !decide (n &&& 256=0):=by
 have e:=La (a:=n) (b:=256) (by omega) (by decide);rw [show ((256:Nat):Int)= 256 from rfl] at e;rw [e];generalize n &&& 256=z
 by_cases hz:z=0
 ·subst hz; rfl
 ·rw [decide_eq_false hz];have:((z:Int) != 0)= true:=by rw [bne_iff_ne]; omega
  rw [this]; rfl
theorem U5 {n:Nat} (h:n<4096) (h1:n &&& 3824=0) (h2:n &&& 256=0):(tY .andNot .i64 (n:Int) 15 != 0)= false:=by
 have h16:∀ n:Fin 4096,n.val &&& 3824=0->n.val &&& 256=0->n.val<16:=by decide +kernel
 have:∀ n:Fin 16,(tY .andNot .i64 ((n.val:Nat):Int) 15 != 0)= false:=by decide +kernel
 exact this ⟨n,h16 ⟨n,h⟩ h1 h2⟩
theorem gC (f:List Nd):wT f<4096:=by refine nK λp _=>?_;have:=fO p.op;unfold rF; omega
theorem Yq {s:tB} {A F T:Nat} {rs:List xC} (hs:s=⟨A,F,T,rs⟩) (hz:lY s=0) (ok:jH rs A F T) {f:List Nd} (hE:dR s f=0) (ht:wT f &&& 256=0) :
  rN A F (iD f)= true/\(tY .andNot .i64 (wT f:Int) 15 != 0)= false/\tU f A F=true:=by
 have hc:=(si hE).2;have hN:=(Ot hs hz ok hc).1 hE
 have hT:∀ p ∈ yY f,rF p &&& 256=0:=by
  have:=ht;unfold wT at this
  rwa [mL (φ:=λn=>n &&& 256) (by decide) (λa b=>An a b 256),oF] at this
 have h38:wT f &&& 3824=0:=by unfold wT;rw [mL (φ:=λn=>n &&& 3824) (by decide) (λa b=>An a b 3824),oF];intro p hp;have:=hN p hp;unfold LC at this;simp only [Ap,decide_eq_true_eq] at this;exact this.1.1
 refine⟨?_,U5 (gC f) h38 ht,?_⟩
 ·have hl:=ot hc;rw [<- (u7 hc).1];refine U3 (xv f) (λp hp=>?_) _ (by omega);obtain⟨k,hk⟩:=kY (jC f _) hp;exact V5 hk (hN p hp) (hT p hp)
 ·unfold dR at hE;rw [if_neg (by simpa using hz),if_neg (by simpa using hc),qw (gC f),if_neg (by simp [h38])] at hE;subst hs
  cases hf:tU f A F with
  | true=>rfl
  | false=>simp only [hf,↓reduceIte] at hE; cases hE
end Te
end Go.Pd

/- Part KQ. -/
namespace Go.Pd
open Go Go.Proofs
namespace Kb
theorem Ln : ∀ n:Fin 4096,(tY .andNot .i64 ((n.val:Nat):Int) 15 != 0)= false->n.val<16:=by decide +kernel
theorem K5 : ∀ n:Fin 4096,(tY .andNot .i64 ((n.val:Nat):Int) 0 != 0)= false->n.val=0:=by decide +kernel
end Kb
end Go.Pd

/- Part SF. -/
namespace Go.Pd
open Go Go.Proofs
open BitVec renaming isValue -> ZA
open Ru
def uJ (l:List Int):Nat->List Int
 | 0=>[]
 | k+1=>if 0<k/\l.getD k 0=l.getD (k-1) 0 then uJ l k else uJ l k ++ [l.getD k 0]
def qZ (l:List Int):List Int:=uJ l l.length
theorem eK {l:List Int}:∀ {k:Nat},k<=l.length->(∀ i,0<i->i<k->l.getD i 0≠l.getD (i-1) 0)->uJ l k=l.take k
 | 0,_,_=>by simp [uJ]
 | k+1,h,hn=>by rw [uJ,if_neg (λc=>hn k c.1 (by omega) c.2),eK (by omega) (λi h1 h2=>hn i h1 (by omega)),<- zA (by omega)]
theorem bd (l:List Int):∀ k,(uJ l k).length<=k
 | 0=>Ah _
 | k+1=>by
  have:=bd l k;rw [uJ]
  split
  ·omega
  ·rw [ε]; simp; omega
theorem Tz (l:List Int) (k:Nat):(uJ l k).length<=(uJ l (k+1)).length:=by
 rw [uJ]; split
 ·exact Ah _
 ·rw [ε]; omega
theorem Un (l:List Int) (i:Nat) (x:Int):(rows .i64 l).set i [.int .i64 x]=rows .i64 (l.set i x):=by simp [rows,List.map_set]
theorem ia (o:List Int) (i j:Nat) (x:Int):(o.set i x).getD j 0=if i=j/\j<o.length then x else o.getD j 0:=by
 simp only [List.getD,List.getElem?_set]
 split
 ·rename_i h; subst h; by_cases hj:i<o.length
  ·simp [hj]
  ·simp [hj]
 ·rename_i h; simp [h]
theorem qq (l:List Int):∀ k,0<(uJ l (k+1)).length
 | 0=>by rw [uJ,if_neg (by omega),ε]; simp
 | k+1=>Nat.lt_of_lt_of_le (qq l k) (Tz l (k+1))
def TR (l:List Int):List (List D):=rows .i64 (qZ l)++ List.replicate (l.length-(qZ l).length) [.int .i64 0]
theorem Nk (l:List Int):(TR l).length=l.length:=by have:=bd l l.length;unfold TR qZ;rw [ε,yO,ω];omega
theorem Tu {σ:St} {key:Nat} {l:List Int} (hget:σ.get key=some ⟨1,rows .i64 l⟩) (hlen:l.length<=1000) (hne:l ≠ []) :
  xY prog 144 [.yM key 1 l.length] σ (.yM key 1 (qZ l).length) (σ.set key ⟨1,TR l⟩):=by
 obtain⟨nx,xZ⟩:=σ;have hpos:0<l.length:=List.length_pos_iff.2 hne;have hg:St.look xZ key=some ⟨1,rows .i64 l⟩:=hget
 have whole:qZ l=l->(.yM key 1 (qZ l).length=D.yM key 1 l.length/\(⟨nx,zL xZ key ⟨1,TR l⟩⟩:St)= ⟨nx,xZ⟩):=by
  intro e;refine⟨by rw [e],?_⟩;have:TR l=rows .i64 l:=by unfold TR; rw [e]; simp
  rw [this,pA hg]
 refine xY.xN mixed func144 If (by simp) λhf=>?_
 by_cases h2:l.length<2
 ·have hd:(l.length:Int)<2:=by omega
  simp only [simprocAttr,-ZA,↓zU,↓zD,zV,zT,zW,hd]
  have e:qZ l=l:=by unfold qZ;rw [eK (Ah _) (λi h1 h3=>by omega),κ]
  obtain⟨e1,e2⟩:=whole e;exact .inl ⟨e1,e2⟩
 have hd:¬ (l.length:Int)<2:=by omega
 simp only [simprocAttr,-ZA,↓zU,↓zD,zV,zT,zW,hd]
 refine xP (λk:Nat=>[(3,.int .i64 k),(0,.yM key 1 l.length)]) (λ_=>⟨nx,xZ⟩) (λk=>1<=k/\k<=l.length/\∀ i,0<i->i<k->l.getD i 0≠l.getD (i-1) 0) (λk=>l.length-k) 1 ⟨Ah _,by omega,λi h1 h2=>by omega⟩ ?_ ?_
 ·(refine xT.same ?_; simp [xS,Fr.get])
 intro i0 ⟨hi1,hi2,hi3⟩;refine xM mixed ?_;by_cases h:i0<l.length
 case neg=>
  have hd:¬ ((i0:Int)<(l.length:Int)):=by omega
  have e:qZ l=l:=by unfold qZ;rw [eK (Ah _) (λi h1 h3=>hi3 i h1 (by omega)),κ]
  obtain⟨e1,e2⟩:=whole e;simp only [simprocAttr,-ZA,↓zU,↓zD,zV,zT,zW,hd];exact .inl ⟨e1,e2⟩
 have hd:((i0:Int)<(l.length:Int)):=by omega
 have em:IntKind.i64.wrap ((i0:Int)-1)= ((i0-1:Nat):Int):=by rw [wrap_i64 (by omega)]; omega
 by_cases hq:l.getD i0 0=l.getD (i0-1) 0
 case neg=>
  have hq':(l.getD i0 0==l.getD (i0-1) 0)= false:=by simpa using hq
  simp only [simprocAttr,-ZA,↓zU,↓zD,zV,zT,zW,hd,hg,yP .i64 l h,em,yP .i64 l (show i0-1<l.length by omega),hq']
  (repeat refine sd ?_)
  refine⟨i0+1,⟨by omega,by omega,λi h1 h3=>?_⟩,?_,by omega⟩
  ·by_cases e:i=i0
   ·rw [e]; exact hq
   ·exact hi3 i h1 (by omega)
  (refine xT.same ?_; simp only [xS,Fr.get,simprocAttr,-ZA,zS])
  exact wrap_i64 (by omega)
 have hq':(l.getD i0 0==l.getD (i0-1) 0)= true:=by simpa using hq
 simp only [simprocAttr,-ZA,↓zU,↓zD,zV,zT,zW,hd,hg,yP .i64 l h,em,yP .i64 l (show i0-1<l.length by omega),hq']
 (repeat refine sd ?_)
 have ei:¬ (i0:Int)= 0:=by omega
 have ei2:¬ (i0:Int)= (l.length:Int):=by omega
 refine⟨i0,l.length,rfl,rfl,by omega,by omega,by omega,?_⟩;simp only [Ao,if_neg ei,if_neg ei2];have d1:uJ l (i0+1)= l.take i0:=by rw [uJ,if_pos ⟨by omega,hq⟩,eK (by omega) hi3]
 refine xP (λa:Nat × List Int=>[(5,.int .i64 a.1),(4,.sub key 1 i0 (l.length-i0)),(3,.int .i64 (uJ l (i0+a.1)).length),(0,.yM key 1 l.length)]) (λa=>⟨nx,zL xZ key ⟨1,rows .i64 a.2⟩⟩)
  (λa=>1<=a.1/\i0+a.1<=l.length/\a.2.length=l.length/\(uJ l (i0+a.1)).length<i0+a.1/\a.2.take (uJ l (i0+a.1)).length=uJ l (i0+a.1)/\ ∀ j,i0+a.1-1<=j->a.2.getD j 0=l.getD j 0) (λa=>l.length-a.1) (1,l)
  ⟨Ah _,by omega,rfl,by rw [d1,ζ]; omega,by rw [d1,ζ,Nat.min_eq_left (by omega)],λj _=>rfl⟩ ?_ ?_
 ·rw [pA hg]
  (refine xT.same ?_; simp [xS,Fr.get,d1])
  omega
 intro ⟨q,o⟩ ⟨q1,q2,q3,q4,q5,q6⟩;simp only at q1 q2 q3 q4 q5 q6;have hlk:∀ ob:Ob,St.look (zL xZ key ob) key=some ob:=λob=>qM hg;refine xM mixed ?_
 by_cases hp:i0+q<l.length
 ·have hd3:((q:Int)<((l.length-i0:Nat):Int)):=by omega
  have eq1:IntKind.i64.wrap ((q:Int)-1)= ((q-1:Nat):Int):=by rw [wrap_i64 (by omega)]; omega
  have a1:o.getD (i0+q) 0=l.getD (i0+q) 0:=q6 _ (by omega);have a2:o.getD (i0+(q-1)) 0=l.getD (i0+q-1) 0:=by rw [q6 _ (by omega)]; congr 1; omega
  by_cases hq2:l.getD (i0+q) 0=l.getD (i0+q-1) 0
  ·have dd:uJ l (i0+(q+1))= uJ l (i0+q):=by show uJ l ((i0+q)+ 1)= _;rw [uJ,if_pos ⟨by omega,hq2⟩]
   have hq3:(l.getD (i0+q) 0 != l.getD (i0+q-1) 0)= false:=by simpa using hq2
   simp only [simprocAttr,-ZA,↓zU,↓zD,zV,zT,zW,hd3,hlk,eq1,yP .i64 o (show i0+q<o.length by omega),yP .i64 o (show i0+(q-1)<o.length by omega),a1,a2,hq3]
   (repeat refine sd ?_)
   refine⟨(q+1,o),⟨by show 1<=q+1; omega,by show i0+(q+1)<=l.length; omega,q3,by show (uJ l (i0+(q+1))).length<i0+(q+1); rw [dd]; omega,by show o.take (uJ l (i0+(q+1))).length=uJ l (i0+(q+1)); rw [dd,q5],λj hj=>q6 j (by change i0+(q+1)-1<=j at hj; omega)⟩,?_,by show l.length-(q+1)<l.length-q; omega⟩
   (refine xT.same ?_; simp only [xS,Fr.get,simprocAttr,-ZA,zS,dd])
   exact wrap_i64 (by omega)
  ·have dd:uJ l (i0+(q+1))= uJ l (i0+q)++ [l.getD (i0+q) 0]:=by show uJ l ((i0+q)+ 1)= _;rw [uJ,if_neg (λc=>hq2 c.2)]
   have dl:(uJ l (i0+(q+1))).length=(uJ l (i0+q)).length+1:=by rw [dd,ε]; rfl
   have hq3:(l.getD (i0+q) 0 != l.getD (i0+q-1) 0)= true:=by simpa using hq2
   simp only [simprocAttr,-ZA,↓zU,↓zD,zV,zT,zW,hd3,hlk,eq1,yP .i64 o (show i0+q<o.length by omega),yP .i64 o (show i0+(q-1)<o.length by omega),a1,a2,hq3]
   (repeat refine sd ?_)
   have c1:(uJ l (i0+q)).length<o.length:=by omega
   have eset:(rows .i64 o).set (uJ l (i0+q)).length (((rows .i64 o).getD (uJ l (i0+q)).length []).set 0 (D.int .i64 (l.getD (i0+q) 0)))= rows .i64 (o.set (uJ l (i0+q)).length (l.getD (i0+q) 0)):=by rw [yP .i64 o c1];exact Un _ _ _
   refine⟨(q+1,o.set (uJ l (i0+q)).length (l.getD (i0+q) 0)),⟨by show 1<=q+1; omega,by show i0+(q+1)<=l.length; omega,by show (o.set _ _).length=_; rw [List.length_set]; exact q3,by show (uJ l (i0+(q+1))).length<i0+(q+1); omega,?_,λj hj=>?_⟩,?_,by show l.length-(q+1)<l.length-q; omega⟩
   ·show (o.set (uJ l (i0+q)).length (l.getD (i0+q) 0)).take (uJ l (i0+(q+1))).length=_;rw [dl,zA (d:=0) (by rw [List.length_set]; exact c1),ia,if_pos ⟨rfl,c1⟩,dd,List.take_set_of_le (Ah _),q5]
   ·change i0+(q+1)-1<=j at hj;show (o.set (uJ l (i0+q)).length (l.getD (i0+q) 0)).getD j 0=_;rw [ia,if_neg (by omega)];exact q6 j (by omega)
   ·simp only [pB,eset]
    (refine xT.same ?_; simp only [xS,Fr.get,simprocAttr,-ZA,zS,dl])
    exact⟨wrap_i64 (by omega),wrap_i64 (by omega)⟩
 ·have hd3:¬ ((q:Int)<((l.length-i0:Nat):Int)):=by omega
  have ed:uJ l (i0+q)= qZ l:=by unfold qZ; rw [show i0+q=l.length by omega]
  have c0:0<(qZ l).length:=by have:=qq l (l.length-1);rw [show l.length-1+1=l.length by omega] at this;exact this
  rw [ed] at q4 q5;simp only [simprocAttr,-ZA,↓zU,↓zD,zV,zT,zW,hd3,ed];refine⟨(qZ l).length,l.length,rfl,rfl,by omega,by omega,by omega,?_⟩;rw [if_neg (show ¬ ((qZ l).length:Int)= 0 by omega),if_neg (show ¬ ((qZ l).length:Int)= (l.length:Int) by omega)];simp only [Ao,hlk,yO,true_and];refine⟨by omega,by omega,?_⟩;refine⟨0,(qZ l).length,rfl,rfl,by omega,by omega,by omega,?_⟩;rw [if_pos rfl];refine .inl ⟨by rw [Ao],?_⟩;have e2:(rows .i64 o).take (qZ l).length=rows .i64 (qZ l):=by rw [jj,q5]
  have e3:(rows .i64 o).drop ((qZ l).length+(l.length-(qZ l).length))= []:=χ (by rw [yO]; omega)
  have e4:TR l=(rows .i64 o).take (qZ l).length++(List.replicate (l.length-(qZ l).length) [D.int .i64 0]++(rows .i64 o).drop ((qZ l).length+(l.length-(qZ l).length))):=by rw [e2,e3,List.append_nil]; rfl
  rw [e4];simp only [pB]
namespace Ru
def kM (rs:List xC) (a r t:Nat):List Int:=(List.range t).map λi=>yV rs a (r,i)
def nQ (rs:List xC) (a:Nat) (p:Nat × Nat):List Int:=qZ (kM rs a p.1 (p.2+1))
theorem ri (rs:List xC) (a r t:Nat):(kM rs a r t).length=t:=by simp [kM]
theorem UJ (rs:List xC) (a r t:Nat):kM rs a r (t+1)= kM rs a r t ++ [yV rs a (r,t)]:=by unfold kM; rw [μ,ν]; rfl
end Ru
theorem U8 {rs:List xC} {A F T:Nat} (ok:jH rs A F T) {a:Nat} (ha:a<A) {p:Nat × Nat} (hp:p.1<rs.length/\p.2<T):yU prog 95 [sD A F T rs,.int .i64 a,.agg [.int .i64 (p.1:Int),.int .i64 (p.2:Int)]] (.sl 1 (rows .i64 (nQ rs a p))):=by
 obtain⟨T1,T16⟩:=ok.hT;have hm:=xL (d:=uX) hp.1;have hg:=pL rs hp.1;have h1:=ok.loc _ hm;have h2:=λ(t:Nat) (ht:t<T)=>ok.row _ hm _ (xL (d:=[]) (show t<(rs.getD p.1 uX).loc.length by omega));obtain⟨r,t⟩:=p;simp only at hp hm hg h1 h2 ⊢;have hloc:∀ i,yV rs a (r,i)= ((rs.getD r uX).loc.getD i []).getD a 0:=λi=>rfl;unfold sD nQ;generalize rs.getD r uX=R at hg h1 h2 hloc;have hw:IntKind.i64.wrap ((t:Int)+ 1)= ((t+1:Nat):Int):=wrap_i64 (by omega);refine xY.xN mixed func95 Fx (by simp) λhf=>?_;simp only [simprocAttr,-ZA,↓zU,↓zD,zV,zT,zW,hw]
 refine xP (λk:Nat=>[(12,.int .i64 k),(11,.int .i64 ((t+1:Nat):Int)),(7,xB 2 1 (rows .i64 (kM rs a r k))),(5,.ref 1 2 0 0),(3,.ref 0 4 0 0),(1,.int .i64 a)])
  (λk=>⟨3,yZ 2 1 (rows .i64 (kM rs a r k))++ [(1,⟨2,[[.int .i64 r,.int .i64 t]]⟩),(0,⟨4,[[.int .i64 A,.int .i64 F,.int .i64 T,.sl 2 (zK rs)]]⟩)]⟩)
  (λk=>k<=t+1) (λk=>t+1-k) 0 (Ai _) ?_ ?_
 ·(refine xT.tP [] [1,0] (by simp) (by simp) (by decide) ?_; simp only [yQ,zQ,simprocAttr,-ZA,exists_eq_left',ne_eq,zR,kM,List.range_zero,List.map_nil,wR,wS,η])
 intro k hk;refine xM mixed ?_
 by_cases hkl:k<t+1
 ·have hd:((k:Int)<((t+1:Nat):Int)):=by omega
  have hS:=UJ rs a r k;rw [hloc k] at hS;have hln:=ri rs a r k;have hg2:=pS R.loc (show k<R.loc.length by omega);have h3:=h2 k (by omega);generalize R.loc.getD k []=x at hg2 h3 hS;have hg3:=yP .i64 x (show a<x.length by omega);generalize kM rs a r k=l at hS hln;simp only [simprocAttr,-ZA,↓zU,↓zD,zV,zT,zW,hd,wP,hg,xC.row,wG,hg2,hg3,hln]
  (repeat refine sd ?_)
  refine⟨k+1,by omega,?_,by omega⟩;rw [hS]
  (refine xT.tP [(2,3)] [2,1,0] (by simp) (by simp) (by decide) ?_; simp only [yQ,zQ,simprocAttr,-ZA,exists_eq_left',ne_eq,zR])
  exact wrap_i64 (by omega)
 have hd:¬ ((k:Int)<((t+1:Nat):Int)):=by omega
 obtain rfl:k=t+1:=by omega
 have hln:=ri rs a r (t+1);generalize kM rs a r (t+1)= l at hln ⊢
 obtain⟨x,l',rfl⟩:∃ x l',l=x :: l':=by
  cases l with
  | nil=>simp at hln
  | cons x l'=>exact⟨x,l',rfl⟩
 have hc:=Tu (σ:=⟨3,[(2,⟨1,rows .i64 (x :: l')⟩),(1,⟨2,[[.int .i64 r,.int .i64 t]]⟩),(0,⟨4,[[.int .i64 A,.int .i64 F,.int .i64 T,.sl 2 (zK rs)]]⟩)]⟩) (key:=2) (l:=x :: l') rfl (by omega) (by simp)
 have hne:0<(qZ (x :: l')).length:=by have:=qq (x :: l') l'.length;exact this
 simp only [simprocAttr,-ZA,↓zU,↓zD,zV,zT,zW,hd];refine .go hc ?_;simp only [simprocAttr,-ZA,↓zU,↓zD,zV,zT,zW];refine .drop (by simp) ?_;have hl1:=Nk (x :: l');have hl2:(TR (x :: l')).take (qZ (x :: l')).length=rows .i64 (qZ (x :: l')):=by unfold TR; rw [List.take_left' (yO _ _)]
 simp only [vw];refine⟨trivial,by decide,by simp,⟨1,TR (x :: l')⟩,rfl,rfl,?_,hl2.symm,tI _ _⟩;have:=bd (x :: l') (x :: l').length;show (qZ (x :: l')).length<=(TR (x :: l')).length;rw [hl1]; exact this
open Ru
namespace Ru
def Mh (A F T:Nat) (rs:List xC):Ob:=⟨4,[[.int .i64 (A:Int),.int .i64 (F:Int),.int .i64 (T:Int),.sl 2 (zK rs)]]⟩
def pQ (rs:List xC) (a:Nat) (p:Nat × Nat):List Int:=[(p.2:Int),yV rs a p]
def Sw (g:FuncId) (A F T:Nat) (rs:List xC) (kf:Nat->Nat × Nat->List Int):Prop:=
 ∀ (σ:St) (a:Nat) (p:Nat × Nat),0<σ.nx->St.look σ.xZ 0=some (Mh A F T rs)->a<A->p.1<rs.length/\p.2<T ->
  xY prog g ([.int .i64 (a:Int),.agg [.int .i64 (p.1:Int),.int .i64 (p.2:Int)]] ++ [.ref 0 4 0 0]) σ (.sl 1 (rows .i64 (kf a p))) ⟨σ.nx+1,(σ.nx,⟨2,[[.int .i64 (p.1:Int),.int .i64 (p.2:Int)]]⟩) :: σ.xZ⟩
theorem eO {α:Type} (a b:List α) (d:α) {n:Nat} (h:n<a.length):(a++b).getD n d=a.getD n d:=by simp [List.getD,List.getElem?_append_left h]
end Ru
theorem Ni {rs:List xC} {A F T:Nat} (ok:jH rs A F T):Sw 109 A F T rs (pQ rs):=by
 intro σ a p hx h0 ha hp;obtain⟨nx,xZ⟩:=σ;have hx0:¬ nx=0:=by simp only at hx; omega
 have hl:=W4 ok ha hp;obtain⟨r,t⟩:=p;simp only at hp hl h0 ⊢;unfold sD at hl;unfold Mh at h0;unfold pQ;simp only;generalize yV rs a (r,t)= x at hl;refine xY.xN mixed func109 ID (by simp) λhf=>?_;simp only [simprocAttr,-ZA,↓zU,↓zD,zV,zT,zW,h0,hx0]
 (repeat refine sd ?_)
 refine .go (cr hl) ?_;simp only [simprocAttr,-ZA,↓zU,↓zD,zV,zT,zW];exact⟨by simp [D.xR,D.xD],.same⟩
theorem ZW {rs:List xC} {A F T:Nat} (ok:jH rs A F T):Sw 110 A F T rs (nQ rs):=by
 intro σ a p hx h0 ha hp;obtain⟨nx,xZ⟩:=σ;have hx0:¬ nx=0:=by simp only at hx; omega
 have hl:=U8 ok ha hp;obtain⟨r,t⟩:=p;simp only at hp hl h0 ⊢;unfold sD at hl;unfold Mh at h0;generalize nQ rs a (r,t)= x at hl;refine xY.xN mixed func110 IE (by simp) λhf=>?_;simp only [simprocAttr,-ZA,↓zU,↓zD,zV,zT,zW,h0,hx0]
 (repeat refine sd ?_)
 refine .go (cr hl) ?_;simp only [simprocAttr,-ZA,↓zU,↓zD,zV,zT,zW];exact .same
theorem Vu {c:List (BitVec 64)} (hc:c.length<=1000) (h0:0<c.length):yU prog 122 [.sl 1 (us c)] (.sl 1 (us c)):=by
 obtain⟨x,l,rfl⟩:∃ x l,c=x :: l:=by
  cases c with
  | nil=>simp at h0
  | cons x l=>exact⟨x,l,rfl⟩
 refine xY.xN mixed func122 Km (by simp) λhf=>?_;have hl:(us (x :: l)).length=l.length+1:=by simp [us]
 have h1:=Y7 (x :: l);have e:us (x :: l)= [.int .u64 (ui x)] :: us l:=rfl;simp only [List.length_cons] at hc;rw [e] at hl h1 ⊢;simp only [simprocAttr,-ZA,↓zU,↓zD,zV,zT,zW];refine⟨by simp,h1,by omega,by omega,.drop (by simp) ?_⟩;have hp:=pP (x :: l);rw [e] at hp;have ht:([D.int .u64 (ui x)] :: us l).take (l.length+1)= [D.int .u64 (ui x)] :: us l:=by rw [<- hl,κ]
 simp only [vw];exact⟨trivial,by decide,by simp,⟨1,[D.int .u64 (ui x)] :: us l⟩,rfl,rfl,by simp only; omega,ht.symm,hp⟩
theorem Uy {σ:St} {key:Nat} {m:List (List Int)} {more:List (List D)} (x:List Int) (hget:σ.get key=some ⟨1,rl m++more⟩) (hm:fc m) (hl:m.length<=1000):∃ b:Bool,xY prog 175 [.yM key 1 m.length,.sl 1 (rows .i64 x),.fn 172 []] σ (.wK [.int .i64 (below m x),.bool b]) σ:=by
 refine⟨decide (below m x<m.length)&& decide (kc (m.getD (below m x) []) x=0),?_⟩;obtain⟨nx,xZ⟩:=σ;have hg:St.look xZ key=some ⟨1,rl m++more⟩:=hget;have hgl:m.length<=(rl m++more).length:=by rw [ε,wG]; omega
 have hge:∀ i,i<m.length->(rl m++more).getD i [] = [.sl 1 (rows .i64 (m.getD i []))]:=λi hi=>by rw [eO _ _ _ (by rw [wG]; exact hi),pS m hi]
 generalize rl m++more=E at hg hgl hge;refine xY.xN mixed func175 It (by simp) λhf=>?_;simp only [simprocAttr,-ZA,↓zU,↓zD,zV,zT,zW,wG]
 refine xP (λa:Nat × Nat=>[(10,.int .i64 a.2),(9,.int .i64 a.1),(8,.int .i64 m.length),(2,.fn 172 []),(1,.sl 1 (rows .i64 x)),(0,.yM key 1 m.length)]) (λ_=>⟨nx,xZ⟩) (λa=>a.1<=a.2/\a.2<=m.length/\(∀ i,i<a.1->kc (m.getD i []) x<0)/\ (∀ i,a.2<=i->i<m.length->¬ kc (m.getD i []) x<0)) (λa=>a.2-a.1) (0,m.length) ⟨Ai _,Ah _,λi hi=>by omega,λi h1 h2=>by omega⟩ ?_ ?_
 ·(refine xT.same ?_; simp [xS,Fr.get])
 intro ⟨lo,hi⟩ ⟨h1,h2,h3,h4⟩;simp only at h1 h2 h3 h4;refine xM mixed ?_
 by_cases h:lo<hi
 ·have hd:((lo:Int)<(hi:Int)):=by omega
  have es:IntKind.i64.wrap ((lo:Int)+ (hi:Int))= ((lo+hi:Nat):Int):=by rw [wrap_i64 (by omega)]; omega
  have ew:IntKind.i64.wrap (((lo+hi)/ 2:Nat):Int)= (((lo+hi)/ 2:Nat):Int):=wrap_i64 (by omega);have hmid:(lo+hi)/ 2<m.length:=by omega
  simp only [simprocAttr,-ZA,↓zU,↓zD,zV,zT,zW,hd,es,WU (show lo+hi<=1000000 by omega),j8 (show lo+hi<=1000000 by omega),ew,hg,hge _ hmid]
  (repeat refine sd ?_)
  refine .go (xY.yH (yg (m.getD ((lo+hi)/ 2) []) x) (by simp [D.xR,D.xD])) ?_
  by_cases c:kc (m.getD ((lo+hi)/ 2) []) x<0
  ·simp only [simprocAttr,-ZA,↓zU,↓zD,zV,zT,zW,c];refine⟨((lo+hi)/ 2+1,hi),⟨by show (lo+hi)/ 2+1<=hi; omega,h2,λi hi2=>df hm (show i<=(lo+hi)/ 2 by change i<(lo+hi)/ 2+1 at hi2; omega) hmid c,h4⟩,?_,by show hi-((lo+hi)/ 2+1)<hi-lo; omega⟩
   (refine xT.same ?_; simp only [xS,Fr.get,simprocAttr,-ZA,zS])
   exact wrap_i64 (by omega)
  ·simp only [simprocAttr,-ZA,↓zU,↓zD,zV,zT,zW,c];refine⟨(lo,(lo+hi)/ 2),⟨by show lo<=(lo+hi)/ 2; omega,by show (lo+hi)/ 2<=m.length; omega,h3,λi hi2 hi3 hc=>c (df hm hi2 hi3 hc)⟩,?_,by show (lo+hi)/ 2-lo<hi-lo; omega⟩
   (refine xT.same ?_; simp only [xS,Fr.get,simprocAttr,-ZA,zS])
 ·have hd:¬ ((lo:Int)<(hi:Int)):=by omega
  have e:below m x=lo:=aP (by omega) h3 λa ha hb=>h4 a (by omega) hb;rw [e]
  by_cases hlen:lo<m.length
  ·have hd2:((lo:Int)<(m.length:Int)):=by omega
   simp only [simprocAttr,-ZA,↓zU,↓zD,zV,zT,zW,hd,hd2,hg,hge _ hlen]
   (repeat refine sd ?_)
   refine .go (xY.yH (yg (m.getD lo []) x) (by simp [D.xR,D.xD])) ?_;simp only [simprocAttr,-ZA,↓zU,↓zD,zV,zT,zW];simp only [decide_eq_true hlen,Bool.true_and];exact .same
  ·have hd2:¬ ((lo:Int)<(m.length:Int)):=by omega
   simp only [simprocAttr,-ZA,↓zU,↓zD,zV,zT,zW,hd,hd2];simp only [decide_eq_false hlen,Bool.false_and];exact .same
open Ru
namespace Ru
def sY (kf:Nat->Nat × Nat->List Int) (l:List (Nat × Nat)) (a:Nat) (p:Nat × Nat):Int:=below (dedup (tK (l.map (kf a)))) (kf a p)
def kP (rs:List xC) (A T:Nat) (num:Nat->Nat × Nat->Int):List xC:=(List.range rs.length).map λi=>⟨(List.range T).map λt=>(List.range A).map λa=>num a (i,t),(rs.getD i uX).nW⟩
def nX (num:Nat->Nat × Nat->Int) (A T a w i t:Nat):List Int:=(List.range A).map λb=>if b<a\/(b=a/\i*T+t<w) then num b (i,t) else 0
def VW (rs:List xC) (T:Nat) (kl:Nat->Nat) (i:Nat):List D:=[.yM (kl i) 1 T,.sl 1 (us (rs.getD i uX).nW)]
def qR (rs:List xC) (T:Nat) (kl:Nat->Nat) (r:Nat):List (List D):=(List.range r).map (VW rs T kl)
def jF (A:Nat) (k:Nat->Nat) (t:Nat):List (List D):=(List.range t).map λi=>[D.yM (k i) 1 A]
theorem rT (rs:List xC) (T:Nat) (kl:Nat->Nat) (r:Nat):(qR rs T kl r).length=r:=by simp [qR]
theorem Uo (rs:List xC) (T:Nat) (kl:Nat->Nat) {r i:Nat} (h:i<r):(qR rs T kl r).getD i [] = [.yM (kl i) 1 T,.sl 1 (us (rs.getD i uX).nW)]:=by simp [qR,VW,List.getD,h]
theorem jW (A:Nat) (k:Nat->Nat) (t:Nat):(jF A k t).length=t:=by simp [jF]
theorem RN (A:Nat) (k:Nat->Nat) {t i:Nat} (h:i<t):(jF A k t).getD i [] = [D.yM (k i) 1 A]:=by simp [jF,List.getD,h]
theorem Zb (rs:List xC) (T:Nat) (kl:Nat->Nat) (r n:Nat):qR rs T (λi=>if i=r then n else kl i) (r+1)= qR rs T kl r ++ [[.yM n 1 T,.sl 1 (us (rs.getD r uX).nW)]]:=by
 unfold qR;rw [μ,ν]
 congr 1
 ·refine γ λi hi=>?_;have hi':=δ.1 hi;unfold VW;simp only [if_neg (show ¬ i=r by omega)]
 ·simp [VW]
theorem Um (A:Nat) (k:Nat->Nat) (t n:Nat):jF A (λi=>if i=t then n else k i) (t+1)= jF A k t ++ [[D.yM n 1 A]]:=by
 unfold jF;rw [μ,ν]
 congr 1
 ·refine γ λi hi=>?_;have hi':=δ.1 hi;simp only [if_neg (show ¬ i=t by omega)]
 ·simp
theorem ra {key sz:Nat} {xV:List (List D)} (h:0<xV.length):xB key sz xV = .yM key sz xV.length:=by
 cases xV with
 | nil=>simp at h
 | cons e r=>rfl
theorem rQ {sz:Nat} {xV:List (List D)} (h:0<xV.length):wU sz xV=some ⟨sz,xV⟩:=by
 cases xV with
 | nil=>simp at h
 | cons e r=>rfl
structure NI (rs : List xC) (A F T nb r kr : Nat) (kl : Nat -> Nat) (ki : Nat -> Nat -> Nat) (v : Nat -> Nat -> List Int) (xZ : List (Nat × Ob)) : Prop where
 l0:St.look xZ 0=some ⟨4,[[.int .i64 (A:Int),.int .i64 (F:Int),.int .i64 (T:Int),.sl 2 (zK rs)]]⟩
 l1:St.look xZ 1=some ⟨4,[[.int .i64 0,.int .i64 0,.int .i64 0,.xO]]⟩
 l2:St.look xZ 2=some ⟨4,[[.int .i64 (A:Int),.int .i64 (F:Int),.int .i64 (T:Int),.sl 2 (zK rs)]]⟩
 l3:St.look xZ 3=some ⟨4,[[.int .i64 0,.int .i64 0,.int .i64 0,.xO]]⟩
 l4:St.look xZ 4=some ⟨4,[[.int .i64 (A:Int),.int .i64 (F:Int),.int .i64 (T:Int),xB kr 2 (qR rs T kl r)]]⟩
 fr:St.look xZ 1000000=none
 lr:St.look xZ kr=wU 2 (qR rs T kl r)
 k5:5<=nb
 hk:5<=kr/\(kr<nb\/kr=1000000)
 ll:∀ i,i<r->5<=kl i/\kl i<nb/\kl i≠kr/\St.look xZ (kl i)= some ⟨1,jF A (ki i) T⟩
 li:∀ i t,i<r->t<T->5<=ki i t/\ki i t<nb/\ki i t≠kr/\St.look xZ (ki i t)= some ⟨1,rows .i64 (v i t)⟩
 dl:∀ i j,i<r->j<r->kl i=kl j->i=j
 dm:∀ i j t,i<r->j<r->t<T->kl i≠ki j t
 di:∀ i j t u,i<r->j<r->t<T->u<T->ki i t=ki j u->i=j/\t=u
theorem NI.frame {rs:List xC} {A F T nb r kr:Nat} {kl:Nat->Nat} {ki:Nat->Nat->Nat} {v:Nat->Nat->List Int} {xZ objs':List (Nat × Ob)} (h:NI rs A F T nb r kr kl ki v xZ)
  (hs:∀ k,k<nb->St.look objs' k=St.look xZ k) (hf:St.look objs' 1000000=none):NI rs A F T nb r kr kl ki v objs' where
 l0:=by rw [hs _ (by have:=h.k5; omega)]; exact h.l0
 l1:=by rw [hs _ (by have:=h.k5; omega)]; exact h.l1
 l2:=by rw [hs _ (by have:=h.k5; omega)]; exact h.l2
 l3:=by rw [hs _ (by have:=h.k5; omega)]; exact h.l3
 l4:=by rw [hs _ (by have:=h.k5; omega)]; exact h.l4
 fr:=hf
 lr:=by
  rcases h.hk.2 with e | e
  ·rw [hs _ e]; exact h.lr
  ·have:=h.lr;rw [e,h.fr] at this;rw [e,hf]; exact this
 k5:=h.k5
 hk:=h.hk
 ll:=λi hi=>by obtain⟨a,b,c,d⟩:=h.ll i hi; exact⟨a,b,c,by rw [hs _ b]; exact d⟩
 li:=λi t hi ht=>by obtain⟨a,b,c,d⟩:=h.li i t hi ht; exact⟨a,b,c,by rw [hs _ b]; exact d⟩
 dl:=h.dl
 dm:=h.dm
 di:=h.di
theorem NI.more {rs:List xC} {A F T nb r kr:Nat} {kl:Nat->Nat} {ki:Nat->Nat->Nat} {v:Nat->Nat->List Int} {xZ objs':List (Nat × Ob)} (h:NI rs A F T nb r kr kl ki v xZ)
  {nb' kr' kL:Nat} {kj:Nat->Nat} (hn:nb<=nb') (hb:nb'<1000000) (h4:St.look objs' 4=some ⟨4,[[.int .i64 (A:Int),.int .i64 (F:Int),.int .i64 (T:Int),xB kr' 2 (qR rs T (λi=>if i=r then kL else kl i) (r+1))]]⟩)
  (hs:∀ k,k<nb->k≠4->k≠kr->St.look objs' k=St.look xZ k) (hf:St.look objs' 1000000=none)
  (hr:St.look objs' kr'=wU 2 (qR rs T (λi=>if i=r then kL else kl i) (r+1))) (hkr:nb<=kr'/\kr'<nb')
  (hL:nb<=kL/\kL<nb'/\kL≠kr'/\St.look objs' kL=some ⟨1,jF A kj T⟩)
  (hj:∀ t,t<T->nb<=kj t/\kj t<nb'/\kj t≠kr'/\kj t≠kL/\St.look objs' (kj t)= some ⟨1,rows .i64 (v r t)⟩)
  (hd:∀ t u,t<T->u<T->kj t=kj u->t=u):NI rs A F T nb' (r+1) kr' (λi=>if i=r then kL else kl i) (λi=>if i=r then kj else ki i) v objs' where
 l0:=by rw [hs _ (by have:=h.k5; omega) (by omega) (by have:=h.hk.1; omega)]; exact h.l0
 l1:=by rw [hs _ (by have:=h.k5; omega) (by omega) (by have:=h.hk.1; omega)]; exact h.l1
 l2:=by rw [hs _ (by have:=h.k5; omega) (by omega) (by have:=h.hk.1; omega)]; exact h.l2
 l3:=by rw [hs _ (by have:=h.k5; omega) (by omega) (by have:=h.hk.1; omega)]; exact h.l3
 l4:=h4
 fr:=hf
 lr:=hr
 k5:=by have:=h.k5; omega
 hk:=by have:=h.k5; omega
 ll:=λi hi=>by
  have:=h.k5
  by_cases e:i=r
  ·subst e;simp only [if_true];obtain⟨a,b,c,d⟩:=hL;exact⟨by omega,b,c,d⟩
  ·simp only [if_neg e];obtain⟨a,b,c,d⟩:=h.ll i (by omega);exact⟨a,by omega,by omega,by rw [hs _ b (by omega) c]; exact d⟩
 li:=λi t hi ht=>by
  have:=h.k5
  by_cases e:i=r
  ·subst e;simp only [if_true];obtain⟨a,b,c,_,d⟩:=hj t ht;exact⟨by omega,b,c,d⟩
  ·simp only [if_neg e];obtain⟨a,b,c,d⟩:=h.li i t (by omega) ht;exact⟨a,by omega,by omega,by rw [hs _ b (by omega) c]; exact d⟩
 dl:=λi j hi hj' e=>by
  by_cases ei:i=r <;> by_cases ej:j=r
  ·omega
  ·subst ei;simp only [if_true,if_neg ej] at e;have:=h.ll j (by omega);omega
  ·subst ej;simp only [if_true,if_neg ei] at e;have:=h.ll i (by omega);omega
  ·simp only [if_neg ei,if_neg ej] at e;exact h.dl i j (by omega) (by omega) e
 dm:=λi j t hi hj' ht=>by
  by_cases ei:i=r <;> by_cases ej:j=r
  ·subst ei; subst ej;simp only [if_true];have:=hj t ht;omega
  ·subst ei;simp only [if_true,if_neg ej];have:=h.li j t (by omega) ht;omega
  ·subst ej;simp only [if_true,if_neg ei];have:=h.ll i (by omega);have:=hj t ht;omega
  ·simp only [if_neg ei,if_neg ej];exact h.dm i j t (by omega) (by omega) ht
 di:=λi j t u hi hj' ht hu e=>by
  by_cases ei:i=r <;> by_cases ej:j=r
  ·subst ei; subst ej;simp only [if_true] at e;exact⟨rfl,hd t u ht hu e⟩
  ·subst ei;simp only [if_true,if_neg ej] at e;have:=h.li j u (by omega) hu;have:=hj t ht;omega
  ·subst ej;simp only [if_true,if_neg ei] at e;have:=h.li i t (by omega) ht;have:=hj u hu;omega
  ·simp only [if_neg ei,if_neg ej] at e;exact h.di i j t u (by omega) (by omega) ht hu e
structure BI (A nb : Nat) (nW : List (BitVec 64)) (t kL : Nat) (kj : Nat -> Nat) (nx : Nat) (objs0 xZ : List (Nat × Ob)) : Prop where
 n2:nb+2<=nx/\nx<=nb+2+3*t
 ln:St.look xZ (nb+1)= some ⟨2,[[xB kL 1 (jF A kj t),.sl 1 (us nW)]]⟩
 lL:St.look xZ kL=wU 1 (jF A kj t)
 hL:(nb+2<=kL/\kL<nx)\/kL=1000000
 lj:∀ i,i<t->nb+2<=kj i/\kj i<nx/\kj i≠kL/\St.look xZ (kj i)= some ⟨1,List.replicate A [.int .i64 0]⟩
 dj:∀ i j,i<t->j<t->kj i=kj j->i=j
 sO:∀ k,k<nb->St.look xZ k=St.look objs0 k
 fr:St.look xZ 1000000=none
end Ru
open Ru
namespace Ru
theorem l8 (num:Nat->Nat × Nat->Int) (A T a w i t:Nat):(nX num A T a w i t).length=A:=by simp [nX]
theorem Ro {num:Nat->Nat × Nat->Int} {A T a n i t:Nat} (h:i*T+t<n):nX num A T a n i t=nX num A T (a+1) 0 i t:=by
 unfold nX;refine γ λb _=>?_
 by_cases e:b<a+1
 ·rw [if_pos (by omega),if_pos (.inl e)]
 ·rw [if_neg (by omega),if_neg (by omega)]
theorem Rr {num:Nat->Nat × Nat->Int} {A T a w i t:Nat} (h:i*T+t=w):(nX num A T a w i t).set a (num a (i,t))= nX num A T a (w+1) i t:=by
 refine ο (by simp [nX]) λk h1 h2=>?_;rw [List.getElem_set];simp only [nX,List.getElem_map,List.getElem_range]
 by_cases e:a=k
 ·subst e; rw [if_pos rfl,if_pos (by omega)]
 ·rw [if_neg e]
  by_cases hk:k<a
  ·rw [if_pos (by omega),if_pos (by omega)]
  ·rw [if_neg (by omega),if_neg (by omega)]
theorem P9 {num:Nat->Nat × Nat->Int} {A T a w i t:Nat} (h:i*T+t≠w):nX num A T a w i t=nX num A T a (w+1) i t:=by
 unfold nX;refine γ λb _=>?_
 by_cases e:b<a\/(b=a/\i*T+t<w)
 ·rw [if_pos e,if_pos (by omega)]
 ·rw [if_neg e,if_neg (by omega)]
theorem Rq (num:Nat->Nat × Nat->Int) (A T i t:Nat):nX num A T A 0 i t=(List.range A).map λa=>num a (i,t):=by unfold nX;refine γ λb hb=>?_;rw [if_pos (.inl (δ.1 hb))]
theorem NI.val {rs:List xC} {A F T nb r kr:Nat} {kl:Nat->Nat} {ki:Nat->Nat->Nat} {v v':Nat->Nat->List Int} {xZ:List (Nat × Ob)} (h:NI rs A F T nb r kr kl ki v xZ)
  (hv:∀ i t,i<r->t<T->v i t=v' i t):NI rs A F T nb r kr kl ki v' xZ:=
 { h with li:=λi t hi ht=>by rw [<- hv i t hi ht]; exact h.li i t hi ht }
theorem NI.Jg {rs:List xC} {A F T nb r kr:Nat} {kl:Nat->Nat} {ki:Nat->Nat->Nat} {v v':Nat->Nat->List Int} {xZ objs':List (Nat × Ob)} (h:NI rs A F T nb r kr kl ki v xZ) {i t:Nat} (hi:i<r) (ht:t<T)
  (hn:∀ j u,j<r->u<T->¬ (j=i/\u=t)->v j u=v' j u) (hx:St.look objs' (ki i t)= some ⟨1,rows .i64 (v' i t)⟩)
  (hs:∀ k,k<nb->k≠ki i t->St.look objs' k=St.look xZ k) (hf:St.look objs' 1000000=none):NI rs A F T nb r kr kl ki v' objs':=by
 obtain⟨q1,q2,q3,q4⟩:=h.li i t hi ht;have k5:=h.k5
 refine⟨by rw [hs _ (by omega) (by omega)]; exact h.l0,by rw [hs _ (by omega) (by omega)]; exact h.l1,by rw [hs _ (by omega) (by omega)]; exact h.l2,by rw [hs _ (by omega) (by omega)]; exact h.l3,by rw [hs _ (by omega) (by omega)]; exact h.l4,hf,?_,k5,h.hk,λj hj=>?_,λj u hj hu=>?_,h.dl,h.dm,h.di⟩
 ·rcases h.hk.2 with e | e
  ·rw [hs _ e (by omega)]; exact h.lr
  ·have:=h.lr;rw [e,h.fr] at this;rw [e,hf]; exact this
 ·obtain⟨a,b,c,d⟩:=h.ll j hj;exact⟨a,b,c,by rw [hs _ b (h.dm j i t hj hi ht)]; exact d⟩
 ·obtain⟨a,b,c,d⟩:=h.li j u hj hu;refine⟨a,b,c,?_⟩
  by_cases e:j=i/\u=t
  ·obtain⟨rfl,rfl⟩:=e;exact hx
  ·rw [hs _ b (λe2=>e (h.di j i u t hj hi hu ht e2)),d,hn j u hj hu e]
theorem oQ {σ σ':St} {ρ:Nat->Nat} {α:Type} {f g:α->List D}:∀ {l:List α},(∀ i ∈ l,(f i).length=(g i).length/\vI σ σ' ρ (f i) (g i))->u6 σ σ' ρ (l.map f) (l.map g)
 | [],_=>.nil
 | x :: l,h=>.cons (h x (by simp)).1 (h x (by simp)).2 (oQ λi hi=>h i (Aa _ hi))
theorem Xd {α:Type} {k:α->Nat} {o:α->Ob}:∀ {l:List α} {x:α},x ∈ l->(∀ y ∈ l,k y=k x->y=x)->St.look (l.map λi=>(k i,o i)) (k x)= some (o x)
 | [],x,h,_=>by cases h
 | y :: l,x,h,hi=>by
  rw [List.map_cons,xX]
  by_cases e:k y=k x
  ·rw [if_pos e,hi y (by simp) e]
  ·rw [if_neg e];refine Xd ?_ λz hz=>hi z (Aa _ hz)
   rcases θ.1 h with e2 | e2
   ·exact absurd (by rw [e2]) e
   ·exact e2
theorem yS {j k:Nat} {o:Ob} {r:List (Nat × Ob)} (h:¬ j=k):St.look ((j,o) :: r) k=St.look r k:=by rw [xX,if_neg h]
def Wf (rs:List xC) (A F T kr:Nat) (kl:Nat->Nat) (v:Nat->Nat->List Int):List (Nat × Ob):=
 (4,⟨4,[[.int .i64 (A:Int),.int .i64 (F:Int),.int .i64 (T:Int),.yM kr 2 rs.length]]⟩) :: (kr,⟨2,qR rs T kl rs.length⟩) :: (3,⟨4,[[.int .i64 0,.int .i64 0,.int .i64 0,.xO]]⟩) :: (1,⟨4,[[.int .i64 0,.int .i64 0,.int .i64 0,.xO]]⟩) ::
  (0,⟨4,[[.int .i64 (A:Int),.int .i64 (F:Int),.int .i64 (T:Int),.sl 2 (zK rs)]]⟩) :: (List.range rs.length).map λi=>(kl i,⟨1,rl ((List.range T).map (v i))⟩)
def Ji (rs rs':List xC) (A F T kr:Nat):List (Nat × Ob):=
 [(4,⟨4,[[.int .i64 (A:Int),.int .i64 (F:Int),.int .i64 (T:Int),.yM kr 2 rs.length]]⟩),(kr,⟨2,zK rs'⟩),(3,⟨4,[[.int .i64 0,.int .i64 0,.int .i64 0,.xO]]⟩),(1,⟨4,[[.int .i64 0,.int .i64 0,.int .i64 0,.xO]]⟩),
  (0,⟨4,[[.int .i64 (A:Int),.int .i64 (F:Int),.int .i64 (T:Int),.sl 2 (zK rs)]]⟩)]
theorem Ns {C:Cx} {f:Fr} {rs:List xC} {A F T nb kr nx:Nat} {kl:Nat->Nat} {ki:Nat->Nat->Nat} {v:Nat->Nat->List Int} {xZ:List (Nat × Ob)} (hI:NI rs A F T nb rs.length kr kl ki v xZ) (hc:C.n0=2) (hx:nb<=nx)
  (hR:0<rs.length) (hv:∀ i t,i<rs.length->t<T->(v i t).length=A) (h4:f.get 4 = .ref 3 4 0 0) (h7:f.get 7 = .ref 4 4 0 0):xT C f ⟨nx,xZ⟩ [(4,.ref 3 4 0 0),(7,.ref 4 4 0 0)] ⟨nx,Wf rs A F T kr kl v⟩:=by
 have k5:=hI.k5
 have hkr:kr<nb:=by
  rcases hI.hk.2 with e | e
  ·exact e
  ·have:=hI.lr;rw [e,hI.fr,rQ (by rw [rT]; exact hR)] at this;cases this
 have hg:xB kr 2 (qR rs T kl rs.length)= .yM kr 2 rs.length:=by rw [ra (by rw [rT]; exact hR),rT]
 have l4:=hI.l4;rw [hg] at l4;have lr:=hI.lr;rw [rQ (by rw [rT]; exact hR)] at lr
 refine xT.view (λk=>k) (by rw [hc]; show 2<=nx; omega) (λ_ _=>rfl) ?_ ?_ (λp _ q _ e=>e)
 ·simp only [YR,vw,h4,h7];exact⟨⟨by omega,trivial⟩,⟨by omega,trivial⟩,trivial⟩
 ·intro p hp;simp only [Wf,θ,List.mem_map,δ] at hp
  rcases hp with rfl | rfl | rfl | rfl | rfl | ⟨i,hi,rfl⟩
  ·refine⟨by show 4<nx; omega,_,l4,rfl,.cons rfl ?_ .nil⟩;simp only [vI,vw,and_true,true_and];omega
  ·refine⟨by show kr<nx; omega,_,lr,rfl,?_⟩;refine oQ λi hi=>⟨rfl,?_⟩;have:=hI.ll i (δ.1 hi);simp only [VW,vI,vw,and_true,true_and];omega
  ·exact⟨by show 3<nx; omega,_,hI.l3,rfl,.same (by simp [D.xR,D.xD])⟩
  ·exact⟨by show 1<nx; omega,_,hI.l1,rfl,.same (by simp [D.xR,D.xD])⟩
  ·exact⟨by show 0<nx; omega,_,hI.l0,rfl,.same (by simp [D.xR,D.xD])⟩
  ·obtain⟨a,b,c,d⟩:=hI.ll i hi;refine⟨by show kl i<nx; omega,_,d,rfl,?_⟩;show u6 _ _ _ (jF A (ki i) T) (rl ((List.range T).map (v i)));unfold rl jF;rw [υ];refine oQ λt ht=>⟨rfl,?_⟩;have ht':=δ.1 ht;obtain⟨a',b',c',d'⟩:=hI.li i t hi ht';simp only [Function.comp,vI,vw,and_true]
   refine⟨trivial,by decide,λq hq=>?_,_,d',rfl,?_,?_,tI _ _⟩
   ·simp only [Wf,θ,List.mem_map,δ] at hq
    rcases hq with rfl | rfl | rfl | rfl | rfl | ⟨j,hj,rfl⟩
    ·show 4≠ki i t; omega
    ·exact λe=>c' e.symm
    ·show 3≠ki i t; omega
    ·show 1≠ki i t; omega
    ·show 0≠ki i t; omega
    ·exact hI.dm j i t hj hi ht'
   ·rw [yO,hv i t hi ht']; exact Ah _
   ·exact(pM (by rw [yO,hv i t hi ht'])).symm
theorem Nt {C:Cx} {rs rs':List xC} {A F T nb kr nx:Nat} {kl:Nat->Nat} {ki:Nat->Nat->Nat} {v v0:Nat->Nat->List Int} {xZ:List (Nat × Ob)} (hI:NI rs A F T nb rs.length kr kl ki v0 xZ) (hc:C.n0=2) (hx:nb<=nx) (hkr:kr<nx)
  (hT:∀ i,i<rs.length->(rl ((List.range T).map (v i))).length=T)
  (hr:rs'=(List.range rs.length).map λi=>⟨(List.range T).map (v i),(rs.getD i uX).nW⟩):xT C [(4,.ref 3 4 0 0),(7,.ref 4 4 0 0)] ⟨nx,Wf rs A F T kr kl v⟩ [(4,.ref 3 4 0 0),(7,.ref 4 4 0 0)] ⟨nx,Ji rs rs' A F T kr⟩:=by
 have k5:=hI.k5;have hk:=hI.hk.1
 refine xT.view (λk=>k) (by rw [hc]; show 2<=nx; omega) (λ_ _=>rfl) ?_ ?_ (λp _ q _ e=>e)
 ·simp only [YR,vw,Fr.get,reduceIte,Nat.reduceEqDiff];exact⟨⟨by omega,trivial⟩,⟨by omega,trivial⟩,trivial⟩
 ·intro p hp;simp only [Ji,θ,Ae,or_false] at hp
  rcases hp with rfl | rfl | rfl | rfl | rfl
  ·refine⟨by show 4<nx; omega,_,rfl,rfl,.cons rfl ?_ .nil⟩;simp only [vI,vw,and_true,true_and];omega
  ·have e:St.look (Wf rs A F T kr kl v) kr=some ⟨2,qR rs T kl rs.length⟩:=by unfold Wf; rw [yS (by omega),xX,if_pos rfl]
   refine⟨by show kr<nx; omega,_,e,rfl,?_⟩;show u6 _ _ _ (qR rs T kl rs.length) (zK rs');rw [hr];unfold qR zK;rw [υ];refine oQ λi hi=>⟨rfl,?_⟩;have hi':=δ.1 hi;obtain⟨a,b,c,_⟩:=hI.ll i hi'
   have hl:St.look (Wf rs A F T kr kl v) (kl i)= some ⟨1,rl ((List.range T).map (v i))⟩:=by unfold Wf;rw [yS (by omega),yS (λe=>c e.symm),yS (by omega),yS (by omega),yS (by omega)];exact Xd (o:=λi=>⟨1,rl ((List.range T).map (v i))⟩) hi λj hj e=>hI.dl j i (δ.1 hj) hi' e
   have hh:=hT i hi';simp only [VW,Function.comp,xC.row,vI,vw,and_true,true_and]
   refine⟨by decide,λq hq=>?_,_,hl,rfl,?_,?_,ca _⟩
   ·simp only [Ji,θ,Ae,or_false] at hq
    rcases hq with rfl | rfl | rfl | rfl | rfl
    ·show 4≠kl i; omega
    ·exact λe=>c e.symm
    ·show 3≠kl i; omega
    ·show 1≠kl i; omega
    ·show 0≠kl i; omega
   ·show T<=(rl _).length;rw [hh]; exact Ah _
   ·exact(pM hh.symm).symm
  ·have e:St.look (Wf rs A F T kr kl v) 3=some ⟨4,[[.int .i64 0,.int .i64 0,.int .i64 0,.xO]]⟩:=by unfold Wf; rw [yS (by omega),yS (by omega)]; rfl
   exact⟨by show 3<nx; omega,_,e,rfl,.same (by simp [D.xR,D.xD])⟩
  ·have e:St.look (Wf rs A F T kr kl v) 1=some ⟨4,[[.int .i64 0,.int .i64 0,.int .i64 0,.xO]]⟩:=by unfold Wf; rw [yS (by omega),yS (by omega)]; rfl
   exact⟨by show 1<nx; omega,_,e,rfl,.same (by simp [D.xR,D.xD])⟩
  ·have e:St.look (Wf rs A F T kr kl v) 0=some ⟨4,[[.int .i64 (A:Int),.int .i64 (F:Int),.int .i64 (T:Int),.sl 2 (zK rs)]]⟩:=by unfold Wf; rw [yS (by omega),yS (by omega)]; rfl
   exact⟨by show 0<nx; omega,_,e,rfl,.same (by simp [D.xR,D.xD])⟩
end Ru
open Ru
theorem aQ {l:List (List Int)}:∀ {k:Nat} {x:List Int},x ∈ zF l k ↔ ∃ i,i<k/\l.getD i []=x
 | 0,x=>by simp [zF]
 | k+1,x=>by
  rw [zF]
  by_cases h:0<k/\l.getD k []=l.getD (k-1) []
  ·rw [if_pos h,aQ];refine⟨λ⟨i,hi,e⟩=>⟨i,by omega,e⟩,λ⟨i,hi,e⟩=>?_⟩
   by_cases ei:i=k
   ·exact⟨k-1,by omega,by rw [<- h.2,<- ei]; exact e⟩
   ·exact⟨i,by omega,e⟩
  ·rw [if_neg h,List.mem_append,aQ,Ac];refine⟨λc=>c.elim (λ⟨i,hi,e⟩=>⟨i,by omega,e⟩) (λe=>⟨k,by omega,e.symm⟩),λ⟨i,hi,e⟩=>?_⟩
   by_cases ei:i=k
   ·exact .inr (by rw [<- e,ei])
   ·exact .inl ⟨i,by omega,e⟩
theorem Zy {l:List (List Int)} (h:fc l) {i j:Nat} (hij:i<j) (hj:j<l.length):¬ kc (l.getD j []) (l.getD i [])<0:=by have:=List.pairwise_iff_getElem.1 h i j (by omega) hj hij;simpa [List.getD,hj,show i<l.length by omega] using this
theorem fT {l:List (List Int)} (h:fc l):∀ {k:Nat},k<=l.length->(zF l k).Pairwise λa b=>kc a b<0
 | 0,_=>List.Pairwise.nil
 | k + 1,hk=>by
  rw [zF]
  by_cases c:0<k/\l.getD k []=l.getD (k-1) []
  ·rw [if_pos c]; exact fT h (by omega)
  ·rw [if_neg c];refine List.pairwise_append.2 ⟨fT h (by omega),List.pairwise_singleton _ _,λx hx y hy=>?_⟩;rw [Ac] at hy;subst hy;obtain⟨i,hi,rfl⟩:=aQ.1 hx;have h1:=Zy h hi (show k<l.length by omega)
   by_cases e:kc (l.getD i []) (l.getD k [])<0
   ·exact e
   ·exfalso;have eq:l.getD i []=l.getD k []:=bj h1 e
    by_cases e2:i=k-1
    ·exact c ⟨by omega,by rw [<- eq,e2]⟩
    ·have h2:=Zy h (show i<k-1 by omega) (show k-1<l.length by omega);have h3:=Zy h (show k-1<k by omega) (show k<l.length by omega);rw [eq] at h2;exact c ⟨by omega,bj h3 h2 |>.symm⟩
theorem gj {l:List (List Int)} (h:fc l):fc (dedup l):=by have:=fT h (Ah l.length);exact this.imp λ{a b} h=>by have:=lO a b; omega
theorem Tw {l:List (List Int)} {x:List Int}:x ∈ dedup l ↔ x ∈ l:=by
 unfold dedup;rw [aQ]
 constructor
 ·rintro ⟨i,hi,rfl⟩; exact xL hi
 ·intro h;obtain⟨i,hi,e⟩:=List.mem_iff_getElem.1 h;exact⟨i,hi,by simp [List.getD,hi,e]⟩
open Ru
theorem bK {rs:List xC} {A F T:Nat} (ok:jH rs A F T):lY ⟨A,F,T,rs⟩= 0:=by
 obtain⟨h1,h2,h3,h4,h5,h6,h7,h8,h9⟩:=ok;unfold lY;simp only;have hp:((rs.length*T:Nat):Int)<=512:=by omega
 rw [Int.natCast_mul] at hp
 rw [if_neg (by omega),if_neg (by omega),if_neg (by omega),if_neg,if_neg]
 ·rw [Aq,Ad];intro r hr;simp only [ec,Ao,Ag,not_exists,not_and];intro f hf;simp [h9 r hr f hf]
 ·rw [Aq,Ad];intro r hr;have hrow:=h8 r hr;simp only [eF,h6 r hr,h7 r hr,decide_true,Bool.not_true,Bool.false_or,Ag,not_exists,not_and];intro l hl;simp [hrow l hl]
theorem Uv (A:Nat):rows .i64 ((List.range A).map λ_=>(0:Int))= List.replicate A [.int .i64 0]:=by refine ο (by simp [rows]) λi h1 h2=>by simp [rows]
theorem qd {rs:List xC} {A F T:Nat} (ok:jH rs A F T) {g:FuncId} {kf:Nat->Nat × Nat->List Int} (hkf:Sw g A F T rs kf) :
  xY prog 108 [sD A F T rs,.fn g [.ref 0 4 0 0]] ⟨2,[(1,⟨4,[[.int .i64 0,.int .i64 0,.int .i64 0,.xO]]⟩),(0,⟨4,[[.int .i64 (A:Int),.int .i64 (F:Int),.int .i64 (T:Int),.sl 2 (zK rs)]]⟩)]⟩
   (.wK [sD A F T (kP rs A T (sY kf (rO T (rs.length*T)))),.int .i64 0]) ⟨2,[(1,⟨4,[[.int .i64 0,.int .i64 0,.int .i64 0,.xO]]⟩),(0,⟨4,[[.int .i64 (A:Int),.int .i64 (F:Int),.int .i64 (T:Int),.sl 2 (zK rs)]]⟩)]⟩:=by
 have hC:=vg ⟨A,F,T,rs⟩;have hP:=X0 ⟨A,F,T,rs⟩;obtain⟨T1,T16⟩:=ok.hT;obtain⟨R1,R64⟩:=ok.hR;have hz:=bK ok;rw [hz] at hC;have ep:aC ⟨A,F,T,rs⟩= rO T (rs.length*T):=by unfold aC; rw [if_neg (by simpa using hz)]; rfl
 rw [ep] at hP;have hD:tB.d ⟨A,F,T,rs⟩= .agg [.int .i64 (A:Int),.int .i64 (F:Int),.int .i64 (T:Int),.sl 2 (zK rs)]:=rfl;rw [hD] at hC hP;have hA:=ok.hA;have hin:NG rs T (rO T (rs.length*T)):=xq T1 (Ah _);have hln:=rV T (rs.length*T);have hlg:∀ w,w<rs.length*T->(rO T (rs.length*T)).getD w (0,0)= (w / T,w % T):=λw h=>bu T h;have hRT:=ok.hP;have hRT1:1<=rs.length*T:=Nat.mul_le_mul R1 T1;generalize rO T (rs.length*T)= l at hP hin hln hlg ⊢;unfold sD;refine xY.xN mixed func108 IC (by simp) λhf=>?_;simp only [simprocAttr,-ZA,↓zU,↓zD,zV,zT,zW]
 (repeat refine sd ?_)
 refine .go (cq hC) ?_;simp only [simprocAttr,-ZA,↓zU,↓zD,zV,zT,zW,wP]
 refine xP (λa:Nat × Nat × List (Nat × Ob)=>[(34,.int .i64 a.1),(33,.int .i64 rs.length),(32,.sl 2 (zK rs)),(7,.ref 4 4 0 0),(4,.ref 3 4 0 0),(2,.ref 2 4 0 0),(1,.fn g [.ref 0 4 0 0])]) (λa=>⟨a.2.1,a.2.2⟩)
  (λa=>a.1<=rs.length/\a.2.1<=5+60*a.1/\∃ kr kl ki,NI rs A F T a.2.1 a.1 kr kl ki (nX (sY kf l) A T 0 0) a.2.2) (λa=>rs.length-a.1) (0,5,[(4,⟨4,[[.int .i64 (A:Int),.int .i64 (F:Int),.int .i64 (T:Int),.xO]]⟩),(3,⟨4,[[.int .i64 0,.int .i64 0,.int .i64 0,.xO]]⟩),(2,⟨4,[[.int .i64 (A:Int),.int .i64 (F:Int),.int .i64 (T:Int),.sl 2 (zK rs)]]⟩),(1,⟨4,[[.int .i64 0,.int .i64 0,.int .i64 0,.xO]]⟩),(0,⟨4,[[.int .i64 (A:Int),.int .i64 (F:Int),.int .i64 (T:Int),.sl 2 (zK rs)]]⟩)]) ⟨Ai _,by simp,1000000,λ_=>0,λ_ _=>0,?_⟩ ?_ ?_
 ·exact⟨rfl,rfl,rfl,rfl,rfl,rfl,rfl,by simp,by simp,λi h=>absurd h (Aj _),λi t h=>absurd h (Aj _),λi j h=>absurd h (Aj _),λi j t h=>absurd h (Aj _),λi j t u h=>absurd h (Aj _)⟩
 ·(refine xT.same ?_; simp [xS,Fr.get])
 intro ⟨r,nb,xZ⟩ ⟨hr,hnb,kr,kl,ki,hI⟩;simp only at hr hnb hI ⊢;refine xM mixed ?_;by_cases hrl:r<rs.length
 case neg=>
  have hd:¬ ((r:Int)<(rs.length:Int)):=by omega
  obtain rfl:rs.length=r:=by omega
  have hl2:=hI.l2;simp only [simprocAttr,-ZA,↓zU,↓zD,zV,zT,zW,hd,hl2];refine .go (cq hP) ?_;simp only [simprocAttr,-ZA,↓zU,↓zD,zV,zT,zW,hl2]
  refine uZ (λa:Nat × Nat × List (Nat × Ob)=>[(66,.int .i64 a.1),(65,.int .i64 A),(11,.sl 2 (pF l)),(7,.ref 4 4 0 0),(4,.ref 3 4 0 0),(1,.fn g [.ref 0 4 0 0])]) (λa=>⟨a.2.1,a.2.2⟩)
   (λa=>a.1<=A/\nb<=a.2.1/\a.2.1<=5000+4000*a.1/\NI rs A F T nb rs.length kr kl ki (nX (sY kf l) A T a.1 0) a.2.2) (λa=>A-a.1) (0,nb,xZ) ⟨Ai _,Ah _,by simp only; omega,hI⟩ ?_ ?_
  ·(refine xT.same ?_; simp [xS,Fr.get])
  clear hI hl2;intro ⟨a,nx,xZ⟩ ⟨ha,hx1,hx2,hI⟩;simp only at ha hx1 hx2 hI ⊢;have k5:=hI.k5;refine xM mixed ?_;by_cases hal:a<A
  case neg=>
   have hd:¬ ((a:Int)<(A:Int)):=by omega
   obtain rfl:A=a:=by omega
   have hkr:kr<nb:=by
    rcases hI.hk.2 with e | e
    ·exact e
    ·have:=hI.lr;rw [e,hI.fr,rQ (by rw [rT]; omega)] at this;cases this
   have hk5:=hI.hk.1
   have hren:kP rs A T (sY kf l)= (List.range rs.length).map λi=>⟨(List.range T).map (nX (sY kf l) A T A 0 i),(rs.getD i uX).nW⟩:=by unfold kP;refine γ λi _=>?_;congr 1;exact γ λt _=>(Rq _ _ _ _ _).symm
   have hrl':(zK (kP rs A T (sY kf l))).length=rs.length:=by simp [zK,kP]
   generalize kP rs A T (sY kf l)= rs' at hren hrl' ⊢;simp only [simprocAttr,-ZA,↓zU,↓zD,zV,zT,zW,hd];refine .go _ _ ((Ns hI rfl hx1 (by omega) (λi t _ _=>l8 _ _ _ _ _ _ _) (by simp [Fr.get]) (by simp [Fr.get])).trans (Nt (rs':=rs') hI rfl hx1 (by omega) (λi _=>by simp [rl]) hren)) ?_;unfold Ji;have z1:¬ kr=3:=by omega
   have z2:¬ kr=4:=by omega
   simp only [simprocAttr,-ZA,↓zU,↓zD,zV,zT,zW,z1,z2];have z3:¬ kr=1:=by omega
   have z4:¬ kr=0:=by omega
   (refine pC.tP [] [1,0] (by simp) (by simp) (by decide) ?_; simp only [yQ,zQ,simprocAttr,-ZA,exists_eq_left',ne_eq,zR,z1,z2,z3,z4])
   refine⟨λp hp=>?_,⟨2,zK rs'⟩,by rw [if_neg (by omega)],rfl,by rw [hrl']; exact Ah _,(pM hrl'.symm).symm,jk rs'⟩
   rcases hp with rfl | rfl | h
   ·exact λe=>z3 e.symm
   ·exact λe=>z4 e.symm
   ·exact h.elim
  have hd:((a:Int)<(A:Int)):=by omega
  simp only [simprocAttr,-ZA,↓zU,↓zD,zV,zT,zW,hd]
  refine xP (λb:Nat × Nat × List (Nat × Ob) × Nat=>[(71,.int .i64 b.1),(70,.int .i64 l.length),(69,.sl 2 (pF l)),(66,.int .i64 a),(65,.int .i64 A),(13,xB b.2.2.2 1 (rl ((l.map (kf a)).take b.1))),(12,.int .i64 a),(11,.sl 2 (pF l)),(7,.ref 4 4 0 0),(4,.ref 3 4 0 0),(1,.fn g [.ref 0 4 0 0])]) (λb=>⟨b.2.1,b.2.2.1⟩)
   (λb=>b.1<=l.length/\nx<=b.2.1/\b.2.1<=nx+4*b.1/\(∀ k,k<nx->St.look b.2.2.1 k=St.look xZ k)/\ St.look b.2.2.1 1000000=none/\St.look b.2.2.1 b.2.2.2=wU 1 (rl ((l.map (kf a)).take b.1))/\ ((nx<=b.2.2.2/\b.2.2.2<b.2.1)\/b.2.2.2=1000000)) (λb=>l.length-b.1) (0,nx,xZ,1000000)
   ⟨Ai _,Ah _,by simp only; omega,λ_ _=>rfl,hI.fr,hI.fr,.inr rfl⟩ ?_ ?_
  ·(refine xT.same ?_; simp [xS,Fr.get,wM,rl,xB])
  intro ⟨w,nx1,objs1,kk⟩ ⟨hw,w1,w2,w3,w4,w5,w6⟩;simp only at hw w1 w2 w3 w4 w5 w6 ⊢;refine xM mixed ?_
  by_cases hwl:w<l.length
  ·have hd2:((w:Int)<(l.length:Int)):=by omega
   have hp:=hin _ (xL (d:=(0,0)) hwl);have hpg:=lS l hwl
   have hS:(l.map (kf a)).take (w+1)= (l.map (kf a)).take w ++ [kf a (l.getD w (0,0))]:=by rw [zA (d:=[]) (by rw [ξ]; exact hwl)];congr 2;simp [List.getD,hwl]
   have htl:((l.map (kf a)).take w).length=w:=by rw [ζ,ξ]; omega
   generalize l.getD w (0,0)= p at hp hpg hS;obtain⟨p1,p2⟩:=p;simp only at hp hpg;have hk1:=hkf ⟨nx1+1,(nx1,⟨2,[[.int .i64 p1,.int .i64 p2]]⟩) :: objs1⟩ a (p1,p2) (by simp) (by rw [yS (by omega),w3 0 (by omega)]; exact hI.l0) hal hp;simp only [Af,η] at hk1;generalize kf a (p1,p2)= key at hk1 hS;generalize (l.map (kf a)).take w=ks at hS htl w5;have y6:¬ nx1=kk:=by omega
   have y7:¬ nx1+1=kk:=by omega
   have y8:¬ nx1+1+1=kk:=by omega
   simp only [simprocAttr,-ZA,↓zU,↓zD,zV,zT,zW,hd2,wM,hpg]
   (repeat refine sd ?_)
   refine .go hk1 ?_;simp only [simprocAttr,-ZA,↓zU,↓zD,zV,zT,zW,w5,y6,y7,y8,wG,htl];refine⟨by omega,by omega,⟨(w+1,?znc,?zoc,nx1+1+1+1),?e1,?e2,by show l.length-(w+1)<l.length-w; omega⟩⟩
   case e2=>
    simp only [hS,<- cd]
    (refine xT.same ?_; simp only [xS,Fr.get,simprocAttr,-ZA,zS])
    exact wrap_i64 (by omega)
   case e1=>
    have hpos:0<(rl ks ++ [[D.sl 1 (rows .i64 key)]]).length:=by simp
    refine⟨by show w+1<=l.length; omega,by show nx<=nx1+1+1+1+1; omega,by show nx1+1+1+1+1<=nx+4*(w+1); omega,λk hk=>?_,?_,?_,.inl ⟨by show nx<=nx1+1+1+1; omega,by show nx1+1+1+1<nx1+1+1+1+1; omega⟩⟩
    ·show St.look (yZ _ _ _++_) _=_;rw [xA,if_neg (by omega),yS (by omega),yS (by omega),yS (by omega),xF,if_neg (by omega),w3 k hk]
    ·show St.look (yZ _ _ _++_) _=_;rw [xA,if_neg (by omega),yS (by omega),yS (by omega),yS (by omega),xF]
     split
     ·rfl
     ·exact w4
    ·show St.look (yZ _ _ _++_) (nx1+1+1+1)= wU 1 (rl (List.take (w+1) _));rw [hS,<- cd,xA,if_pos rfl,rQ hpos]; rfl
  have hd2:¬ ((w:Int)<(l.length:Int)):=by omega
  have hmp:(l.map (kf a)).take w=l.map (kf a):=pM (by rw [ξ]; omega);rw [hmp] at w5 ⊢;have hnum:∀ p,sY kf l a p=below (dedup (tK (l.map (kf a)))) (kf a p):=λp=>rfl;have hLl:(l.map (kf a)).length=rs.length*T:=by rw [ξ,hln]
  generalize hLe:l.map (kf a)= L at w5 hnum hLl;have hgk:xB kk 1 (rl L)= .yM kk 1 L.length:=by rw [ra (by rw [wG]; omega),wG]
  rw [rQ (by rw [wG]; omega)] at w5
  have hkk:nx<=kk/\kk<nx1:=by
   rcases w6 with e | e
   ·exact e
   ·rw [e,w4] at w5; cases w5
  have hsl:(tK L).length=L.length:=(jI L).length_eq;have hso:=Zf (σ:=⟨nx1,objs1⟩) (key:=kk) (l:=L) w5 (by intro e; rw [e] at hLl; simp at hLl; omega) (by omega);have hco:=Tt (σ:=⟨nx1,zL objs1 kk ⟨1,rl (tK L)⟩⟩) (key:=kk) (l:=tK L) (qM w5) (by omega) (by intro e; rw [e] at hsl; simp at hsl; omega);rw [hsl] at hco;have hasc:=qn L;have hma:fc (dedup (tK L)):=gj hasc
  have hml:(dedup (tK L)).length<=1000:=by have:=az (tK L) (tK L).length;unfold dedup; omega
  have hlk2:St.look (zL (zL objs1 kk ⟨1,rl (tK L)⟩) kk ⟨1,Pa (tK L)⟩) kk=some ⟨1,rl (dedup (tK L))++ List.replicate ((tK L).length-(dedup (tK L)).length) [.xO]⟩:=qM (qM w5)
  have hold2:∀ k,k<nx->St.look (zL (zL objs1 kk ⟨1,rl (tK L)⟩) kk ⟨1,Pa (tK L)⟩) k=St.look xZ k:=λk hk=>by rw [xU,if_neg (by omega),xU,if_neg (by omega),w3 k hk]
  have hfr2:St.look (zL (zL objs1 kk ⟨1,rl (tK L)⟩) kk ⟨1,Pa (tK L)⟩) 1000000=none:=by rw [xU,if_neg (by omega),xU,if_neg (by omega),w4]
  simp only [simprocAttr,-ZA,↓zU,↓zD,zV,zT,zW,hd2,hgk];refine .go hso ?_;simp only [simprocAttr,-ZA,↓zU,↓zD,zV,zT,zW];refine .go hco ?_;simp only [set_mk];generalize zL (zL objs1 kk ⟨1,rl (tK L)⟩) kk ⟨1,Pa (tK L)⟩= objs2 at hlk2 hold2 hfr2 ⊢;have hI2:=hI.frame (objs':=objs2) (λk hk=>hold2 k (by omega)) hfr2;generalize hMe:dedup (tK L)= M at hma hml hlk2 hnum ⊢;generalize List.replicate ((tK L).length-M.length) [D.xO]=more at hlk2;simp only [simprocAttr,-ZA,↓zU,↓zD,zV,zT,zW,wM]
  refine xP (λb:Nat × Nat × List (Nat × Ob)=>[(89,.int .i64 b.1),(88,.int .i64 l.length),(87,.sl 2 (pF l)),(66,.int .i64 a),(65,.int .i64 A),(13,.yM kk 1 M.length),(12,.int .i64 a),(11,.sl 2 (pF l)),(7,.ref 4 4 0 0),(4,.ref 3 4 0 0),(1,.fn g [.ref 0 4 0 0])]) (λb=>⟨b.2.1,b.2.2⟩)
   (λb=>b.1<=l.length/\nx1<=b.2.1/\b.2.1<=nx1+2*b.1/\NI rs A F T nb rs.length kr kl ki (nX (sY kf l) A T a b.1) b.2.2/\St.look b.2.2 kk=some ⟨1,rl M++more⟩) (λb=>l.length-b.1) (0,nx1,objs2)
   ⟨Ai _,Ah _,by simp only; omega,hI2,hlk2⟩ ?_ ?_
  ·(refine xT.same ?_; simp [xS,Fr.get])
  clear hI hI2 hlk2 hold2 hfr2;intro ⟨w,nx2,objs3⟩ ⟨hw,v1,v2,hI,hlk⟩;simp only at hw v1 v2 hI hlk ⊢;refine xM mixed ?_
  by_cases hwl:w<l.length
  ·have hd3:((w:Int)<(l.length:Int)):=by omega
   have hp:=hin _ (xL (d:=(0,0)) hwl);have hpg:=lS l hwl;have hpe:=hlg w (by omega);have hwe:(w / T)* T+w % T=w:=by rw [Am]; exact Nat.div_add_mod w T
   rw [hpe] at hp hpg;generalize w / T=i at hp hpg hwe;generalize w % T=t at hp hpg hwe;simp only at hp hpg;obtain⟨hp1,hp2⟩:=hp;obtain⟨a1,a2,a3,a4⟩:=hI.ll i hp1;obtain⟨c1,c2,c3,c4⟩:=hI.li i t hp1 hp2;have hdm:=hI.dm i i t hp1 hp1 hp2;have hk5:=hI.k5
   have hkr:kr<nb:=by
    rcases hI.hk.2 with e | e
    ·exact e
    ·have:=hI.lr;rw [e,hI.fr,rQ (by rw [rT]; omega)] at this;cases this
   have b4:=hI.l4;have br:=hI.lr;have hrow:=Uo rs T kl hp1;have hrowL:=RN A (ki i) hp2;have hvl:=l8 (sY kf l) A T a w i t;have hvs:=Rr (num:=sY kf l) (A:=A) (a:=a) hwe
   have hne:∀ j u,j<rs.length->u<T->¬ (j=i/\u=t)->nX (sY kf l) A T a w j u=nX (sY kf l) A T a (w+1) j u:=λj u hj hu hne=>P9 (λe=>hne (by
    have h1:(j*T+u)/ T=j:=by rw [Am,Nat.mul_add_div (by omega),Nat.div_eq_of_lt hu]; rfl
    have h2:(i*T+t)/ T=i:=by rw [Am,Nat.mul_add_div (by omega),Nat.div_eq_of_lt hp2]; rfl
    have h3:(j*T+u) % T=u:=by rw [Am,Nat.mul_add_mod,Al hu]
    have h4:(i*T+t) % T=t:=by rw [Am,Nat.mul_add_mod,Al hp2]
    rw [e] at h1 h3;rw [hwe] at h2 h4;exact⟨by omega,by omega⟩))
   rw [hnum (i,t)] at hvs;have hk1:=hkf ⟨nx2+1,(nx2,⟨2,[[.int .i64 i,.int .i64 t]]⟩) :: objs3⟩ a (i,t) (by simp) (by rw [yS (by omega)]; exact hI.l0) hal ⟨hp1,hp2⟩;simp only [Af,η] at hk1;generalize kf a (i,t)= key at hk1 hvs;obtain⟨bb,hse⟩:=Uy (σ:=⟨nx2+1+1,(nx2+1,⟨2,[[.int .i64 i,.int .i64 t]]⟩) :: (nx2,⟨2,[[.int .i64 i,.int .i64 t]]⟩) :: objs3⟩) (key:=kk) (m:=M) (more:=more) key (by show St.look _ _=_; rw [yS (by omega),yS (by omega)]; exact hlk) hma hml;have hvg:=yP .i64 (nX (sY kf l) A T a w i t) (show a<_ by rw [hvl]; exact hal);have hset:=j4 .i64 (nX (sY kf l) A T a w i t) a (below M key);rw [hvs] at hset;generalize hV:nX (sY kf l) A T a w i t=V at c4 hvl hvg hset;have y1:¬ nx2=4:=by omega
   have y2:¬ nx2+1=4:=by omega
   have y3:¬ nx2=kr:=by omega
   have y4:¬ nx2+1=kr:=by omega
   have y5:¬ nx2=kl i:=by omega
   have y6:¬ nx2+1=kl i:=by omega
   have y7:¬ nx2=ki i t:=by omega
   have y8:¬ nx2+1=ki i t:=by omega
   have y9:¬ nx2+1=nx2:=by omega
   simp only [simprocAttr,-ZA,↓zU,↓zD,zV,zT,zW,hd3,wM,hpg,b4,br,a4,c4,hrow,hrowL,rT,jW,hvl,y1,y2,y3,y4,y5,y6,y7,y8]
   (repeat refine sd ?_)
   refine .go hk1 ?_;simp only [simprocAttr,-ZA,↓zU,↓zD,zV,zT,zW,hd3,wM,hpg,b4,br,a4,c4,hrow,hrowL,rT,jW,hvl,y1,y2,y3,y4,y5,y6,y7,y8,y9]
   (repeat refine sd ?_)
   refine .go hse ?_;simp only [simprocAttr,-ZA,↓zU,↓zD,zV,zT,zW,c4,hvl,y7,y8]
   (repeat refine sd ?_)
   have hsg:(rows .i64 V).set a (((rows .i64 V).getD a []).set 0 (D.int .i64 (below M key)))= rows .i64 (nX (sY kf l) A T a (w+1) i t):=by rw [hvg]; exact hset
   simp only [hsg];refine⟨(w+1,?znd,?zod),?ze1,?ze2,by show l.length-(w+1)<l.length-w; omega⟩
   case ze2=>
    (refine xT.same ?_; simp only [xS,Fr.get,simprocAttr,-ZA,zS])
    exact wrap_i64 (by omega)
   case ze1=>
    have hb:nx2+1<1000000:=by omega
    refine⟨by show w+1<=l.length; omega,by show nx1<=nx2+1+1; omega,by show nx2+1+1<=nx1+2*(w+1); omega,?_,?_⟩
    ·refine hI.Jg hp1 hp2 hne ?_ (λk hk1 hk2=>?_) ?_
     ·show St.look _ _=_;rw [yS y8,yS y7]; exact qM c4
     ·show St.look _ _=_;rw [yS (by omega),yS (by omega),xU,if_neg (λe=>hk2 e.symm)]
     ·show St.look _ _=_;rw [yS (by omega),yS (by omega),xU,if_neg (by omega)]; exact hI.fr
    ·show St.look _ _=_;rw [yS (by omega),yS (by omega),xU,if_neg (by omega)]; exact hlk
  have hd3:¬ ((w:Int)<(l.length:Int)):=by omega
  simp only [simprocAttr,-ZA,↓zU,↓zD,zV,zT,zW,hd3]
  (repeat refine sd ?_)
  refine⟨(a+1,nx2,objs3),⟨by show a+1<=A; omega,by show nb<=nx2; omega,by show nx2<=5000+4000*(a+1); omega,hI.val λi t hi ht=>Ro (by have:=Nat.mul_le_mul_right T (show i+1<=rs.length from hi);rw [Nat.succ_mul] at this;omega)⟩,?_,by show A-(a+1)<A-a; omega⟩
  (refine xT.same ?_; simp only [xS,Fr.get,simprocAttr,-ZA,zS])
  exact wrap_i64 (by omega)
 have hd:((r:Int)<(rs.length:Int)):=by omega
 have hg:=pL rs hrl;have hm:=xL (d:=uX) hrl;have h1:=ok.nW _ hm;have hmore:=λ{nb' kr' kL:Nat} {kj:Nat->Nat} {objs':List (Nat × Ob)}=>hI.more (objs':=objs') (nb':=nb') (kr':=kr') (kL:=kL) (kj:=kj);generalize hrun:rs.getD r uX=run at hg h1;have hcl:=Vu (c:=run.nW) (by omega) (by omega);have k5:=hI.k5;have l2:=hI.l2;have l4:=hI.l4;have x1:¬ nb=4:=by omega
 have x2:¬ nb=2:=by omega
 have x3:¬ nb+1=2:=by omega
 have x4:¬ nb+1=4:=by omega
 simp only [simprocAttr,-ZA,↓zU,↓zD,zV,zT,zW,hd,wP,hg,xC.row]
 (repeat refine sd ?_)
 refine .go (cr hcl) ?_;simp only [simprocAttr,-ZA,↓zU,↓zD,zV,zT,zW,l2,x1,x2,x3,x4]
 refine xP (λa:Nat × Nat × List (Nat × Ob)=>[(44,.int .i64 a.1),(43,.int .i64 T),(34,.int .i64 r),(33,.int .i64 rs.length),(32,.sl 2 (zK rs)),(10,.ref (nb+1) 2 0 0),(7,.ref 4 4 0 0),(4,.ref 3 4 0 0),(2,.ref 2 4 0 0),(1,.fn g [.ref 0 4 0 0])]) (λa=>⟨a.2.1,a.2.2⟩)
  (λa=>a.1<=T/\∃ kL kj,BI A nb run.nW a.1 kL kj a.2.1 xZ a.2.2) (λa=>T-a.1) (0,nb+2,(nb+1,⟨2,[[.xO,.sl 1 (us run.nW)]]⟩) :: (nb,⟨2,[run.row]⟩) :: xZ) ⟨Ai _,1000000,λ_=>0,?_⟩ ?_ ?_
 ·refine⟨by simp,?_,?_,by simp,λi h=>absurd h (Aj _),λi j h=>absurd h (Aj _),λk hk=>?_,?_⟩
  ·simp [xX,jF,xB]
  ·simp only; rw [yS (by omega),yS (by omega)]; exact hI.fr
  ·simp only; rw [yS (by omega),yS (by omega)]
  ·simp only; rw [yS (by omega),yS (by omega)]; exact hI.fr
 ·(refine xT.same ?_; simp [xS,Fr.get,xC.row])
 intro ⟨t,nx,objs1⟩ ⟨ht,kL,kj,hB⟩;simp only at ht hB ⊢;refine xM mixed ?_
 by_cases htl:t<T
 ·have hd2:((t:Int)<(T:Int)):=by omega
  obtain⟨n1,n2⟩:=hB.n2;have ln:=hB.ln;have lL:=hB.lL;have hLk:=hB.hL;have b2:St.look objs1 2=some ⟨4,[[.int .i64 (A:Int),.int .i64 (F:Int),.int .i64 (T:Int),.sl 2 (zK rs)]]⟩:=by rw [hB.sO 2 (by omega)]; exact l2
  have y1:¬ nx=2:=by omega
  have y2:¬ nx+1=2:=by omega
  have y3:¬ nx=nb+1:=by omega
  have y4:¬ nx+1=nb+1:=by omega
  have y5:¬ nx+2=nb+1:=by omega
  have y6:¬ nx=kL:=by omega
  have y7:¬ nx+1=kL:=by omega
  have y8:¬ kL=nb+1:=by omega
  have e1:St.look (yC objs1 kL) (nb+1)= some ⟨2,[[xB kL 1 (jF A kj t),.sl 1 (us run.nW)]]⟩:=by rw [xF,if_neg y8]; exact ln
  simp only [simprocAttr,-ZA,↓zU,↓zD,zV,zT,zW,↓SA,↓WZ,↓WY,hd2,ln,lL,b2,y1,y2,y3,y4,y5,y6,y7,y8,e1,jW];refine⟨by omega,by omega,by omega,by omega,⟨(t+1,?zna,?zoa),?h1,?h2,by show T-(t+1)<T-t; omega⟩⟩
  case h2 => 
   (refine xT.same ?_; simp only [xS,Fr.get,simprocAttr,-ZA,zS])
   exact wrap_i64 (by omega)
  case h1=>
   have hrow:=Um A kj t nx;have hpos:0<(jF A kj t ++ [[D.yM nx 1 A]]).length:=by simp
   refine⟨by show t+1<=T; omega,nx+1+1,λi=>if i=t then nx else kj i,?_⟩
   refine⟨by show nb+2<=nx+1+1+1/\nx+1+1+1<=nb+2+3*(t+1); omega,?_,?_,.inl ⟨by omega,by show nx+1+1<nx+1+1+1; omega⟩,λi hi=>?_,λi j hi hj he=>?_,λk hk=>?_,?_⟩
   ·show St.look (yZ _ _ _++_) _=_;rw [hrow,xA,if_neg (by omega),yS (by omega),yS (by omega),xU,if_pos rfl,e1]; rfl
   ·show St.look (yZ _ _ _++_) _=_;rw [hrow,xA,if_pos rfl,rQ hpos]; rfl
   ·change i<t+1 at hi;show nb+2<=(if i=t then nx else kj i)/\ (if i=t then nx else kj i)<nx+1+1+1/\(if i=t then nx else kj i)≠ nx+1+1/\St.look (yZ _ _ _++_) (if i=t then nx else kj i)= _
    by_cases e:i=t
    ·rw [if_pos e];exact⟨by omega,by omega,by omega,by rw [xA,if_neg (by omega),yS (by omega),xX,if_pos rfl]⟩
    ·rw [if_neg e];obtain⟨a,b,c,d⟩:=hB.lj i (by omega);exact⟨a,by omega,by omega,by rw [xA,if_neg (by omega),yS (by omega),yS (by omega),xU,if_neg (by omega),xF,if_neg (by omega),d]⟩
   ·change i<t+1 at hi;change j<t+1 at hj
    by_cases e:i=t <;> by_cases e2:j=t
    ·omega
    ·rw [if_pos e,if_neg e2] at he;have:=hB.lj j (by omega);omega
    ·rw [if_neg e,if_pos e2] at he;have:=hB.lj i (by omega);omega
    ·rw [if_neg e,if_neg e2] at he;exact hB.dj i j (by omega) (by omega) he
   ·show St.look (yZ _ _ _++_) _=_;rw [xA,if_neg (by omega),yS (by omega),yS (by omega),xU,if_neg (by omega),xF,if_neg (by omega),hB.sO k hk]
   ·show St.look (yZ _ _ _++_) _=_;rw [xA,if_neg (by omega),yS (by omega),yS (by omega),xU,if_neg (by omega),xF]
    split
    ·rfl
    ·exact hB.fr
 have hd2:¬ ((t:Int)<(T:Int)):=by omega
 obtain rfl:T=t:=by omega
 obtain⟨n1,n2⟩:=hB.n2;have hgp:xB kL 1 (jF A kj T)= .yM kL 1 T:=by rw [ra (by rw [jW]; omega),jW]
 have hgp2:wU 1 (jF A kj T)= some ⟨1,jF A kj T⟩:=rQ (by rw [jW]; omega);have ln:=hB.ln;rw [hgp] at ln;have lL:=hB.lL;rw [hgp2] at lL
 have hLk:nb+2<=kL/\kL<nx:=by
  rcases hB.hL with e | e
  ·exact e
  ·rw [e,hB.fr] at lL; cases lL
 have b4:St.look objs1 4=some ⟨4,[[.int .i64 (A:Int),.int .i64 (F:Int),.int .i64 (T:Int),xB kr 2 (qR rs T kl r)]]⟩:=by rw [hB.sO 4 (by omega)]; exact l4
 have hk:=hI.hk
 have br:St.look objs1 kr=wU 2 (qR rs T kl r):=by
  rcases hk.2 with e | e
  ·rw [hB.sO kr e]; exact hI.lr
  ·have:=hI.lr;rw [e,hI.fr] at this;rw [e,hB.fr]; exact this
 have y1:¬ nx=4:=by omega
 have y2:¬ nx+1=4:=by omega
 have y3:¬ nx=nb+1:=by omega
 have y4:¬ nx+1=nb+1:=by omega
 have y5:¬ nx=kr:=by omega
 have y6:¬ kr=4:=by omega
 have e1:St.look (yC objs1 kr) 4=some ⟨4,[[.int .i64 (A:Int),.int .i64 (F:Int),.int .i64 (T:Int),xB kr 2 (qR rs T kl r)]]⟩:=by rw [xF,if_neg y6]; exact b4
 simp only [simprocAttr,-ZA,↓zU,↓zD,zV,zT,zW,hd2,ln,b4,br,y1,y2,y3,y4,y5,y6,e1,rT];refine⟨by omega,by omega,⟨(r+1,?znb,?zob),?g1,?g2,by show rs.length-(r+1)<rs.length-r; omega⟩⟩
 case g2=>
  (refine xT.same ?_; simp only [xS,Fr.get,simprocAttr,-ZA,zS])
  exact wrap_i64 (by omega)
 case g1=>
  have hrow:=Zb rs T kl r kL;rw [hrun] at hrow;have hpos:0<(qR rs T kl r ++ [[D.yM kL 1 T,.sl 1 (us run.nW)]]).length:=by simp
  refine⟨by show r+1<=rs.length; omega,by show nx+1+1<=5+60*(r+1); omega,nx+1,λi=>if i=r then kL else kl i,λi=>if i=r then kj else ki i,?_⟩
  refine hmore (by show nb<=nx+1+1; omega) (by show nx+1+1<1000000; omega) ?_ (λk hk1 hk2 hk3=>?_) ?_ ?_ ⟨by omega,by show nx+1<nx+1+1; omega⟩ ⟨by omega,by show kL<nx+1+1; omega,by omega,?_⟩ (λt ht=>?_) (λi j hi hj he=>hB.dj i j hi hj he)
  ·show St.look (yZ _ _ _++_) _=_;rw [hrow,xA,if_neg (by omega),yS (by omega),xU,if_pos rfl,e1]; rfl
  ·show St.look (yZ _ _ _++_) _=_;rw [xA,if_neg (by omega),yS (by omega),xU,if_neg (by omega),xF,if_neg (by omega),hB.sO k hk1]
  ·show St.look (yZ _ _ _++_) _=_;rw [xA,if_neg (by omega),yS (by omega),xU,if_neg (by omega),xF]
   split
   ·rfl
   ·exact hB.fr
  ·show St.look (yZ _ _ _++_) _=_;rw [hrow,xA,if_pos rfl,rQ hpos]; rfl
  ·show St.look (yZ _ _ _++_) _=_;rw [xA,if_neg (by omega),yS (by omega),xU,if_neg (by omega),xF,if_neg (by omega),lL]
  ·obtain⟨a,b,c,d⟩:=hB.lj t ht;refine⟨by omega,by show kj t<nx+1+1; omega,by omega,c,?_⟩;show St.look (yZ _ _ _++_) _=_;rw [xA,if_neg (by omega),yS (by omega),xU,if_neg (by omega),xF,if_neg (by omega),d];simp only [nX,Aj,false_or,and_false,if_false,Option.some.injEq,Ob.mk.injEq,true_and];exact(Uv A).symm
end Go.Pd
