/- Part AY. -/
import Derived.Test.YtndfaefmmcoapaaGreatUoLI
set_option linter.unusedSectionVars false
set_option linter.unusedVariables false
set_option linter.unusedSimpArgs false
set_option linter.defProp false
set_option maxRecDepth 20000
set_option maxHeartbeats 1000000
namespace Go.Pd
open Go Go.Proofs
open BitVec renaming isValue -> ZA
open Rs Fm Ru Te Kb
namespace Kb
instance : DecidableEq ChA := fun a b => decidable_of_iff (a.ag = b.ag /\ a.seen = b.seen /\ a.mv = b.mv) (by cases a; cases b; simp)
def exL : List ChA:=[⟨0,[0#64],-1⟩,⟨0,[1#64],0⟩,⟨0,[0#64,0#64],-1⟩,⟨0,[1#64,1#64],-1⟩,⟨1,[0#64],-1⟩,⟨1,[0#64,0#64],-1⟩,⟨1,[0#64,2#64],-1⟩]
theorem aQx : bX exP 3=exL:=by unfold bX;rw [if_neg (by rw [aUy]; simp),show (3:Int).toNat-1=2 from rfl,aZe];unfold vC oD;simp only [aGa];decide +kernel
theorem aVf : mX exP exL 3=0:=by decide +kernel
theorem aD4 : vD exP exL 2 = [[0#64,0#64,0#64],[1#64,3#64,3#64]]:=by decide +kernel
theorem bXf : aPy exP exL 3=exS:=by unfold aPy;rw [if_neg (by rw [aVf]; simp),show (3:Int).toNat=3 from rfl,aD4,aU8];decide +kernel
theorem bXe : aPq exP exL 3=true:=by decide +kernel
theorem mG : qO exP:=⟨by decide,by decide,by decide⟩
theorem aZf : gX exL:=⟨by decide,by decide⟩
theorem bXg : tJ exP=0:=by decide +kernel
theorem aLp : aUt exS:=by unfold aUt; decide
end Kb
end Go.Pd

/- Part AZ. -/
namespace Go.Pd
open Go Go.Proofs
open BitVec renaming isValue -> ZA
open Rs Fm Ru Te Kb
def exD : D:=.agg [.int .i64 2,.sl 1 (us [0#64,1#64]),.sl 1 (us [1#64,2#64]),.sl 1 (mvR [[⟨1,qC 0⟩]]),.sl 1 [[.sl 2 (clR [⟨exT,0⟩])],[.xH]]]
theorem bXh : Nw exD exP.d:=by
 refine Nw.agg rfl fun j hj=>?_
 match j,hj with
 | 0,_=>exact Nw.refl _
 | 1,_=>exact Nw.refl _
 | 2,_=>exact Nw.refl _
 | 3,_=>exact Nw.refl _
 | 4,_=>
  refine Nw.sl rfl (by decide) fun i hi j hj=>?_;have e:j=0:=by omega
  subst e
  match i,hi with
  | 0,_=>exact Nw.refl _
  | 1,_=>exact Nw.xH 2
theorem aLo : yT Tryz.prog 36 [] exD:=by
 have c1:=bXu 0;have c2:=bXt 1 (qC 0);have c3:=bZl (aXq 1 (qC 0));have c4:=bZn (qC 0) (aC4 (aXq 1 (qC 0)));have hD:exD = .agg [.int .i64 2,.sl 1 (us [0#64,1#64]),.sl 1 (us [1#64,2#64]),.sl 1 [[.sl 2 [[.int .i64 1,.sl 6 (ndR (qC 0))]]]],.sl 1 [[.sl 2 [[.sl 6 (ndR (bYb (qC 0) (aC4 (aXq 1 (qC 0))))),.int .i64 0]]],[.xH]]]:=rfl;rw [hD];generalize bYb (qC 0) (aC4 (aXq 1 (qC 0)))= g1 at *;generalize aC4 (aXq 1 (qC 0))= g2 at *;generalize aXq 1 (qC 0)= g3 at *;generalize qC 0=g4 at *;refine xX.xR mixed Tryz.func36 k36 (by simp) fun hf=>?_;simp only [simprocAttr,-ZA,↓zU,↓zD,zV,zT,zW];refine .go (cq c1) ?_;simp only [simprocAttr,-ZA,↓zU,↓zD,zV,zT,zW]
 (repeat refine sd ?_)
 refine .go (cr c2) ?_;simp only [simprocAttr,-ZA,↓zU,↓zD,zV,zT,zW];refine .go (cr c3) ?_;simp only [simprocAttr,-ZA,↓zU,↓zD,zV,zT,zW];refine .go (cr c4) ?_;simp only [simprocAttr,-ZA,↓zU,↓zD,zV,zT,zW]
 (repeat refine sd ?_)
 exact .drop (by simp) (by simp [vw,vwL,us,ui])
theorem aCj : yT Tryz.prog 15 [] (.bool true):=by
 have hp:exD.xG=true:=rfl;have S1:Seen St0 (fun _=>False) exD exP.d:=bXh.seen hp;have hP:yT Tryz.prog 19 [exD,.int .i64 3] (.tup [exS.d,.int .i64 0]):=yT.seen (args':=[exP.d,.int .i64 3]) (by have:=aG8 exP mG 3; rwa [aD3,aUy] at this) ⟨S1,Seen.pure rfl,trivial⟩;have hL:yT Tryz.prog 21 [exD,.int .i64 3] (.tup [.sl 3 (chR exL),.int .i64 0]):=yT.seen (args':=[exP.d,.int .i64 3]) (by have:=cE exP mG 3; rwa [aQx,aUy] at this) ⟨S1,Seen.pure rfl,trivial⟩;have hG:yT Tryz.prog 25 [exD,.sl 3 (chR exL),.int .i64 3] (.tup [exS.d,.int .i64 0]):=yT.seen (args':=[exP.d,.sl 3 (chR exL),.int .i64 3]) (by have:=cD exP mG exL aZf 3; rwa [bXf,aVf] at this) ⟨S1,Seen.pure rfl,Seen.pure rfl,trivial⟩;have hI:yT Tryz.prog 27 [exD,.sl 3 (chR exL),.int .i64 3] (.tup [.bool true,.int .i64 0]):=yT.seen (args':=[exP.d,.sl 3 (chR exL),.int .i64 3]) (by have:=jF exP mG exL aZf 3; rwa [bXe,aVf] at this) ⟨S1,Seen.pure rfl,Seen.pure rfl,trivial⟩;have hC:yT Tryz.prog 17 [exD] (.int .i64 0):=yT.seen (args':=[exP.d]) (by have:=aNt exP mG; rwa [bXg] at this) ⟨S1,trivial⟩;have hS:yT Tryz.prog 23 [exS.d,exS.d] (.bool true):=by have:=aG7 exS exS aLp; simpa using this
 have hE:=aLo;have eL:chR exL = [[.int .i64 0,.sl 1 (us [0#64]),.int .i64 (-1)],[.int .i64 0,.sl 1 (us [1#64]),.int .i64 0],[.int .i64 0,.sl 1 (us [0#64,0#64]),.int .i64 (-1)],[.int .i64 0,.sl 1 (us [1#64,1#64]),.int .i64 (-1)],[.int .i64 1,.sl 1 (us [0#64]),.int .i64 (-1)],[.int .i64 1,.sl 1 (us [0#64,0#64]),.int .i64 (-1)],[.int .i64 1,.sl 1 (us [0#64,2#64]),.int .i64 (-1)]]:=rfl;have eS:exS.d = .agg [.int .i64 2,.int .i64 2,.int .i64 3,.sl 2 [[.sl 1 [[.sl 1 [[.int .i64 0],[.int .i64 0]]],[.sl 1 [[.int .i64 2],[.int .i64 1]]],[.sl 1 [[.int .i64 4],[.int .i64 3]]]],.sl 1 [[.int .u64 0],[.int .u64 0],[.int .u64 0]]],[.sl 1 [[.sl 1 [[.int .i64 1],[.int .i64 0]]],[.sl 1 [[.int .i64 3],[.int .i64 2]]],[.sl 1 [[.int .i64 5],[.int .i64 4]]]],.sl 1 [[.int .u64 1],[.int .u64 3],[.int .u64 3]]]]]:=rfl;rw [eS] at hP hG hS;generalize exD=d at *;generalize hl:chR exL=cl at *;refine xX.xR mixed Tryz.func15 k15 (by simp) fun hf=>?_;simp only [simprocAttr,-ZA,↓zU,↓zD,zV,zT,zW];refine .go (cq hE) ?_;simp only [simprocAttr,-ZA,↓zU,↓zD,zV,zT,zW];refine .go (xX.yR hP (by simp [D.xU,D.xG,hp])) ?_;simp only [simprocAttr,-ZA,↓zU,↓zD,zV,zT,zW];refine .go (cq hE) ?_;simp only [simprocAttr,-ZA,↓zU,↓zD,zV,zT,zW];refine .go (xX.yR hL (by simp [D.xU,D.xG,hp])) ?_;simp only [simprocAttr,-ZA,↓zU,↓zD,zV,zT,zW];refine .go (cq hE) ?_;simp only [simprocAttr,-ZA,↓zU,↓zD,zV,zT,zW];refine .go (xX.yR hG (by simp [D.xU,D.xG,hp])) ?_;simp only [simprocAttr,-ZA,↓zU,↓zD,zV,zT,zW];refine .go (cq hE) ?_;simp only [simprocAttr,-ZA,↓zU,↓zD,zV,zT,zW];refine .go (xX.yR hI (by simp [D.xU,D.xG,hp])) ?_;simp only [simprocAttr,-ZA,↓zU,↓zD,zV,zT,zW]
 (repeat refine sd ?_)
 refine .go (cr hS) ?_;simp only [simprocAttr,-ZA,↓zU,↓zD,zV,zT,zW];refine .go (cr hS) ?_;simp only [simprocAttr,-ZA,↓zU,↓zD,zV,zT,zW,eL]
 (repeat refine sd ?_)
 refine .go (cq hE) ?_;simp only [simprocAttr,-ZA,↓zU,↓zD,zV,zT,zW];refine .go (xX.yR hC (by simp [D.xU,D.xG,hp])) ?_;simp only [simprocAttr,-ZA,↓zU,↓zD,zV,zT,zW];exact .drop (by simp) (by simp [vw])
open Rs Fm Ru Te Kb
theorem aQu {p:PrA} {l:List ChA} (h:eN p l=true):qO p:=by obtain⟨h1,h2,h3⟩:=aLn h;exact⟨h1,h2,h3⟩
open Rs Fm Ru Te Kb
namespace Kb
theorem aAp {p:PrA} {F k:Nat} (hv:PrV p F) (hk:k<=5) {sts:List (List (BitVec 64))} (hS:PlS p F sts k):OkR (eC p.see sts (k+1)) p.see.length F (k+1):=by
 have hl:=aU7 p.see sts (k+1);have hR:=hv.hI;have hn:=hS.len
 have key:∀ r ∈ eC p.see sts (k+1),∃ i,i<sts.length/\r=⟨(List.range (k+1)).map fun t=>(List.range p.see.length).map fun a=>((below (lB p.see sts (k+1) a) (qJ p.see sts a (i,t)):Nat):Int),stR sts i⟩:=fun r hr=>by
  obtain⟨i,hi,rfl⟩:=List.getElem_of_mem hr;have hi':i<sts.length:=by omega
  refine⟨i,hi',?_⟩;rw [<- aU9 hi'];simp [List.getD,hi]
 refine⟨hv.hA.2,hv.hF,⟨by omega,by omega⟩,⟨by omega,by omega⟩,?_,?_,?_,?_,?_⟩
 ·rw [hl];have:sts.length*(k+1)<=16*6:=Nat.mul_le_mul (by omega) (by omega);omega
 ·intro r hr;obtain⟨i,hi,rfl⟩:=key r hr;simp
 ·intro r hr;obtain⟨i,hi,rfl⟩:=key r hr;exact hS.run _ (uP hi)
 ·intro r hr l hm;obtain⟨i,hi,rfl⟩:=key r hr;simp only [List.mem_map] at hm;obtain⟨t,_,rfl⟩:=hm;simp
 ·intro r hr f hm;obtain⟨i,hi,rfl⟩:=key r hr;exact hS.val _ (uP hi) f hm
theorem aQq {p:PrA} {k:Nat} (h:tJ p=0) (hk:k<=5):lD p ((k+1:Nat):Int)= 0/\∃ F,PrV p F/\oC p ((k+1:Nat):Int)= ⟨p.see.length,F,((k+1:Nat):Int),eC p.see (yN p k) (k+1)⟩:=by
 have h1:lD p ((k+1:Nat):Int)= 0:=by unfold lD;rw [if_neg (by simpa using h),if_neg (by omega)]
 obtain⟨F,hv⟩:=aZm h;refine⟨h1,F,hv,?_⟩;unfold oC;rw [if_neg (by simpa using h1),hv.fe];rfl
end Kb
open Rs Fm Ru Te Kb
open Rs Fm Ru Te Kb
namespace Kb
theorem aOi {α:Type} {f:α->Bool} {d:α}:∀ {c:List α} {i:Int},0<=i->0<=ixF f c i->f (c.getD (ixF f c i-i).toNat d)= true
 | [],i,_,h=>by simp [ixF] at h
 | x :: r,i,hi,h=>by
  unfold ixF at h ⊢
  by_cases hx:f x=true
  ·rw [if_pos hx,Int.sub_self]; exact hx
  ·rw [if_neg hx] at h ⊢;have h1:=aOi (d:=d) (c:=r) (i:=i+1) (by omega) h
   rcases fZ (f:=f) (c:=r) (i:=i+1) (by omega) with h2 | h2
   ·omega
   ·rw [show (ixF f r (i+1)-i).toNat=(ixF f r (i+1)-(i+1)).toNat+1 by omega];simpa [List.getD] using h1
theorem gG {see:List (BitVec 64)} {sts:List (List (BitVec 64))} {t a v w:Nat} (h:uQ see (stR sts v) a t=uQ see (stR sts w) a t):∀ l,vM see sts t a v l=vM see sts t a w l
 | []=>rfl
 | c :: r=>by unfold vM knT;rw [h,gG h r]
section
variable {p : PrA} {sts : List (List (BitVec 64))} {T : Nat}
theorem nN (hl:∀ st ∈ sts,T<=st.length) {a r t:Nat} (hr:r<sts.length) (ht:t<T):aWh p sts a (qJ p.see sts a (r,t))= ⟨a,uQ p.see (stR sts r) a t,sN p sts t a r⟩:=by have hm:qJ p.see sts a (r,t)∈ lB p.see sts T a:=qZ.2 ⟨r,t,hr,ht,rfl⟩;have hlen:=aSd (see:=p.see) (a:=a) (sts:=sts) (r:=r) (t:=t) (by have:=hl _ (uP hr); omega);obtain⟨h1,h2,h3,h4⟩:=dJ hm hl;unfold aWh;rw [hlen,Nat.add_sub_cancel] at *;have e:=congrArg bvL h2;rw [bK,bK] at e;rw [bK];congr 1;exact gG e _
theorem pN {x:ChA}:x ∈ vC p sts T ↔ ∃ a r t,a<p.see.length/\r<sts.length/\t<T/\x=aWh p sts a (qJ p.see sts a (r,t)):=by
 unfold vC oD;simp only [List.mem_flatMap,List.mem_range,List.mem_map]
 constructor
 ·rintro ⟨a,ha,h,hm,rfl⟩;obtain⟨r,t,hr,ht,rfl⟩:=qZ.1 hm;exact⟨a,r,t,ha,hr,ht,rfl⟩
 ·rintro ⟨a,r,t,ha,hr,ht,rfl⟩;exact⟨a,ha,_,qZ.2 ⟨r,t,hr,ht,rfl⟩,rfl⟩
theorem sZ {ag:Int} {h:List (BitVec 64)} {d:ChA}:tI ag h d=true ↔ d.ag=ag/\d.seen=h:=by unfold tI;simp only [Bool.and_eq_true,decide_eq_true_eq]
theorem aYl (hl:∀ st ∈ sts,T<=st.length) {a r t:Nat} (ha:a<p.see.length) (hr:r<sts.length) (ht:t<T) :
  0<=iZ (vC p sts T) a (lG p sts t a r)/\ mvC (vC p sts T) a (lG p sts t a r)= sN p sts t a r:=by
 have h0:0<=iZ (vC p sts T) a (lG p sts t a r):=by unfold iZ;rw [nO (Int.le_refl 0),List.any_eq_true];refine⟨_,pN.2 ⟨a,r,t,ha,hr,ht,rfl⟩,?_⟩;rw [nN hl hr ht];exact sZ.2 ⟨rfl,rfl⟩
 refine⟨h0,?_⟩;have h1:=aOi (d:=ch0) (f:=tI a (lG p sts t a r)) (c:=vC p sts T) (i:=0) (Int.le_refl 0) h0;have h2:=bN h0;unfold mvC;rw [Int.sub_zero] at h1;have hm:=xK (d:=ch0) h2.1;unfold iZ at hm ⊢;obtain⟨a',r',t',ha',hr',ht',e⟩:=pN.1 hm;rw [nN hl hr' ht'] at e;rw [e] at h1 ⊢;obtain⟨q1,q2⟩:=sZ.1 h1;have q1:(a':Int)= (a:Int):=q1;have q1:a'=a:=by omega
 subst q1;have q2:uQ p.see (stR sts r') a' t'=uQ p.see (stR sts r) a' t:=q2;have l1:=oS (see:=p.see) (st:=stR sts r') (a:=a') (t:=t') (by have:=hl _ (uP hr'); omega);have l2:=oS (see:=p.see) (st:=stR sts r) (a:=a') (t:=t) (by have:=hl _ (uP hr); omega);rw [q2,l2] at l1;have:t'=t:=by omega
 subst this;exact gG q2 _
theorem aMs (hl:∀ st ∈ sts,T<=st.length) {t:Nat} (ht:t<T):mZ p (vC p sts T) sts t=true:=by unfold mZ;rw [List.all_eq_true];intro a ha;rw [List.all_eq_true];intro r hr;exact decide_eq_true (aYl hl (List.mem_range.1 ha) (List.mem_range.1 hr) ht).1
theorem aYm (hl:∀ st ∈ sts,T<=st.length) {t:Nat} (ht:t<T):rX p (vC p sts T) sts t=wV p sts t:=by unfold rX wV mvG;refine List.map_congr_left fun a ha=>List.map_congr_left fun r hr=>?_;exact(aYl hl (List.mem_range.1 ha) (List.mem_range.1 hr) ht).2
theorem aR9 (hl:∀ st ∈ sts,T<=st.length):(vC p sts T).Pairwise fun x y=>¬ (x.ag=y.ag/\x.seen=y.seen):=by
 unfold vC oD;rw [List.pairwise_flatMap]
 refine⟨fun a _=>?_,?_⟩
 ·rw [List.pairwise_map];refine(aV8 (aF _)).imp_of_mem fun {x y} hx hy hne h=>hne ?_;have hx:x ∈ lB p.see sts T a:=hx;have hy:y ∈ lB p.see sts T a:=hy;obtain⟨r,t,hr,ht,rfl⟩:=qZ.1 hx;obtain⟨r',t',hr',ht',rfl⟩:=qZ.1 hy;rw [nN hl hr ht,nN hl hr' ht'] at h;have h2:uQ p.see (stR sts r) a t=uQ p.see (stR sts r') a t':=h.2;show (uQ p.see (stR sts r) a t).map ui=(uQ p.see (stR sts r') a t').map ui;rw [h2]
 ·refine List.pairwise_iff_getElem.2 fun i j hi hj hij x hx y hy h=>?_;simp only [List.mem_map] at hx hy;obtain⟨_,_,rfl⟩:=hx;obtain⟨_,_,rfl⟩:=hy;have h1:=h.1;simp only [aWh,List.getElem_range] at h1;omega
end
theorem aTj {p:PrA} {F:Nat} (hv:PrV p F) (k:Nat):∀ j,j<=k->oA p (vC p (yN p k) k) j=some (yN p j)
 | 0,_=>rfl
 | j+1,h=>by
  have hl:∀ st ∈ yN p k,k<=st.length:=fun st hs=>by rw [(tV hv k).run st hs]; omega
  have he:=aSn hv (n:=j) (m:=k) (by omega);unfold oA;rw [aTj hv k j (by omega)];simp only;rw [if_pos (by rw [<- he.mZ (by omega)]; exact aMs hl (by omega)),<- he.rX (by omega),aYm hl (by omega),he.wV (by omega)];rfl
theorem aMr {p:PrA} {F:Nat} (hv:PrV p F) (k:Nat):yA p (vC p (yN p k) k)= 0:=by
 have hl:∀ st ∈ yN p k,k<=st.length:=fun st hs=>by rw [(tV hv k).run st hs]; omega
 unfold yA;rw [uS];intro i hi;have hi:=List.mem_range.1 hi;have hm:=xK (d:=ch0) hi;have hP:=List.pairwise_iff_getElem.1 (aR9 (p:=p) hl);obtain⟨a,r,t,ha,hr,ht,e⟩:=pN.1 hm;rw [nN hl hr ht] at e;have hpm:=aZ (p:=p) (sts:=yN p k) (t:=t) (a:=a) (w:=r) (l:=p.code.getD a []) fun c hc=>hv.code _ (xK (d:=[]) (by rw [hv.hC]; exact ha)) c hc;have hrl:=hl _ (uP hr);unfold chE
 rw [e,if_neg,if_neg,if_neg]
 ·intro c;rw [List.any_eq_true] at c;obtain⟨x,hx,hs⟩:=c;obtain⟨q1,q2⟩:=sZ.1 hs;obtain⟨j,hj,rfl⟩:=List.getElem_of_mem hx;rw [List.length_take] at hj;have:=hP j i (by omega) hi (by omega);rw [List.getElem_take] at q1 q2;have e2:(vC p (yN p k) k)[i]=⟨a,uQ p.see (stR (yN p k) r) a t,sN p (yN p k) t a r⟩:=by rw [<- e]; simp [List.getD,hi]
  rw [e2] at this;exact this ⟨q1,q2⟩
 ·simp only [aBl,uQ,List.any_map,Bool.not_eq_true,List.any_eq_false,Function.comp,Int.toNat_natCast];intro x _
  have:x &&& p.see.getD a 0 &&& ~~~(p.see.getD a 0)= 0#64:=by rw [BitVec.and_assoc,BitVec.and_not_self];exact BitVec.and_zero
  simpa [List.getD] using decide_eq_true this
 ·have hn:=aNa (see:=p.see) (a:=a) (st:=stR (yN p k) r) (t:=t) (by omega);have hn':¬ (uQ p.see (stR (yN p k) r) a t).length=0:=fun c=>hn (List.length_eq_zero_iff.1 c);have h1:¬ ((p.xM.length:Int)<=sN p (yN p k) t a r):=by unfold sN; omega
  have h2:¬ (sN p (yN p k) t a r < -1):=by unfold sN; omega
  simp only [aRa,decide_eq_false hn',decide_eq_false h1,decide_eq_false h2,Bool.or_false];rw [decide_eq_false (show ¬ ((a:Int)<0) by omega),decide_eq_false (show ¬ ((p.see.length:Int)<=(a:Int)) by omega)];simp
theorem aR8 {p:PrA} {F:Nat} (hv:PrV p F) {k:Nat} (hk:k<=5):(vC p (yN p k) k).length<=p.see.length*(p.init.length*k)/\ gX (vC p (yN p k) k):=by
 have hl:∀ st ∈ yN p k,k<=st.length:=fun st hs=>by rw [(tV hv k).run st hs]; omega
 have h1:=aYn (p:=p) (sts:=yN p k) (T:=k) (n:=p.see.length);rw [aTo hv] at h1;have hA:=hv.hA;have hI:=hv.hI;have hb:p.see.length*(p.init.length*k)<=4*(16*5):=Nat.mul_le_mul hA.2 (Nat.mul_le_mul hI.2 hk);refine⟨h1,⟨by show (vC p (yN p k) k).length<=_; unfold vC; omega,fun c hc=>?_⟩⟩;obtain⟨a,r,t,ha,hr,ht,rfl⟩:=pN.1 hc;rw [nN hl hr ht];have:=oS (see:=p.see) (st:=stR (yN p k) r) (a:=a) (t:=t) (by have:=hl _ (uP hr); omega);show (uQ p.see (stR (yN p k) r) a t).length<=1000;omega
theorem aIe {p:PrA} {F:Nat} (hv:PrV p F) {k:Nat} (hk:k<=5) (h0:lD p ((k+1:Nat):Int)= 0) :
  bX p ((k+1:Nat):Int)= vC p (yN p k) k/\mX p (vC p (yN p k) k) ((k+1:Nat):Int)= 0/\aPy p (vC p (yN p k) k) ((k+1:Nat):Int)= oC p ((k+1:Nat):Int)/\ aPq p (vC p (yN p k) k) ((k+1:Nat):Int)= true:=by
 have hl:∀ st ∈ yN p k,k<=st.length:=fun st hs=>by rw [(tV hv k).run st hs]; omega
 have ek:((k+1:Nat):Int).toNat-1=k:=by rw [Int.toNat_natCast,Nat.add_sub_cancel]
 have hg:=aTj hv k k (Nat.le_refl k)
 have hE:mX p (vC p (yN p k) k) ((k+1:Nat):Int)= 0:=by unfold mX;rw [if_neg (by simpa using h0),if_neg (by rw [aMr hv]; simp),ek,hg];rfl
 have hS:vD p (vC p (yN p k) k) k=yN p k:=by unfold vD; rw [hg]; rfl
 refine⟨?_,hE,?_,?_⟩
 ·unfold bX;rw [if_neg (by simpa using h0),ek]
 ·unfold aPy oC;rw [if_neg (by simpa using hE),if_neg (by simpa using h0),ek,hS]
 ·unfold aPq;rw [decide_eq_true hE,ek,hS,Bool.true_and,List.all_eq_true];exact fun t ht=>decide_eq_true (aYm hl (List.mem_range.1 ht))
end Kb
open Rs Fm Ru Te Kb
theorem aIo {rs:List wC} {A F T:Nat} (ok:OkR rs A F T):aUt ⟨A,F,T,rs⟩:=by have hT:=ok.hT;have hR:=ok.hR;have hA:=ok.hA;refine⟨by show rs.length<=_; omega,fun r hr=>⟨by rw [ok.fac r hr]; omega,by rw [ok.loc r hr]; omega,fun l hl=>by rw [ok.row r hr l hl]; omega⟩⟩
open Rs Fm Ru Te Kb
namespace Kb
theorem aQv {p:PrA} {l:List ChA} (h:eN p l=true):gX l:=by unfold eN at h;simp only [Bool.and_eq_true,decide_eq_true_eq,Bool.not_eq_true'] at h;refine⟨by omega,fun c hc=>?_⟩;have:=List.any_eq_false.1 h.2 c hc;simp only [decide_eq_true_eq] at this;omega
theorem aU6 {p:PrA} {F:Nat} (hv:PrV p F) {l:List ChA} (hc:yA p l=0) {k:Nat} (hs:(oA p l k).isSome=true) (hi:∀ t,t<k->rX p l (vD p l k) t=wV p (vD p l k) t):∀ j,j<=k->vD p l j=yN p j
 | 0,_=>rfl
 | j+1,h=>by have h3:=(aO hv hc hs (t:=j) (by omega)).2;have he:=aVe hv hc (n:=j) (m:=k) (by omega) hs;rw [h3,hi j (by omega),he.wV (by omega),aU6 hv hc hs hi j (by omega)];rfl
theorem cP {p:PrA} {l:List ChA} {k:Nat} (h:mX p l ((k+1:Nat):Int)= 0):yA p l=0/\(oA p l k).isSome=true:=by
 obtain⟨F,j,h1,h2,h3,h4,h5⟩:=fT h;have:j=k:=by omega
 subst this;exact⟨h4,h5⟩
theorem aLh {p:PrA} {l:List ChA} {k:Nat} (h:aPq p l ((k+1:Nat):Int)= true):∀ t,t<k->rX p l (vD p l k) t=wV p (vD p l k) t:=by
 have ek:((k+1:Nat):Int).toNat-1=k:=by rw [Int.toNat_natCast,Nat.add_sub_cancel]
 unfold aPq at h;rw [ek] at h;simp only [Bool.and_eq_true,decide_eq_true_eq,List.all_eq_true,List.mem_range] at h;exact h.2
theorem aJd {p:PrA} {F:Nat} (hv:PrV p F) {l:List ChA} {k:Nat} (h0:lD p ((k+1:Nat):Int)= 0) (hE:mX p l ((k+1:Nat):Int)= 0) (hI:aPq p l ((k+1:Nat):Int)= true) :
  aPy p l ((k+1:Nat):Int)= oC p ((k+1:Nat):Int)/\ ∀ x ∈ vC p (yN p k) k,∃ a:Nat,x.ag=a/\0<=iZ l a x.seen/\mvC l a x.seen=x.mv:=by
 have ek:((k+1:Nat):Int).toNat-1=k:=by rw [Int.toNat_natCast,Nat.add_sub_cancel]
 obtain⟨hc,hs⟩:=cP hE;have hi:=aLh hI;have hg:=aU6 hv hc hs hi k (Nat.le_refl k)
 refine⟨?_,fun x hx=>?_⟩
 ·unfold aPy oC;rw [if_neg (by simpa using hE),if_neg (by simpa using h0),ek,hg]
 ·have hl:∀ st ∈ yN p k,k<=st.length:=fun st hs=>by rw [(tV hv k).run st hs]; omega
  obtain⟨a,r,t,ha,hr,ht,rfl⟩:=pN.1 hx;rw [nN hl hr ht];have hB:=(aO hv hc hs ht).1;have hM:=hi t ht;rw [hg] at hB hM
  refine⟨a,rfl,?_,?_⟩
  ·unfold mZ at hB;have:=List.all_eq_true.1 (List.all_eq_true.1 hB a (List.mem_range.2 ha)) r (List.mem_range.2 hr);exact of_decide_eq_true this
  ·have h1:=congrArg (fun m:List (List Int)=>(m.getD a []).getD r 0) hM;simp only [rX,wV,mvG,List.getD,List.getElem?_map,List.getElem?_range ha,List.getElem?_range hr,Option.map_some,Option.getD_some] at h1;exact h1
theorem aYe {p:PrA} {l:List ChA} (hc:yA p l=0) {ag:Int} {h:List (BitVec 64)} {i j:Nat} (hij:i<j) (hj:j<l.length) (h1:tI ag h (l.getD i ch0)= true) (h2:tI ag h (l.getD j ch0)= true):False:=by
 unfold yA at hc;have hz:=uS.1 hc j (List.mem_range.2 hj);unfold chE at hz
 split at hz
 ·cases hz
 split at hz
 ·cases hz
 split at hz
 ·cases hz
 ·rename_i hn
  refine hn (List.any_eq_true.2 ⟨l.getD i ch0,?_,?_⟩)
  ·rw [List.mem_take_iff_getElem];exact⟨i,by omega,by simp [List.getD,show i<l.length by omega]⟩
  ·obtain⟨q1,q2⟩:=sZ.1 h2;rw [q1,q2]; exact h1
end Kb
theorem aEc (p:PrA) (l:List ChA) (n:Nat) (hn:n<256):yT Tryz.prog 7 [p.d,.sl 3 (chR l),.int .u8 (n:Int)] (.bool true):=by
 have hD:p.d = .agg [.int .i64 p.F,.sl 1 (us p.init),.sl 1 (us p.see),.sl 1 (mvR p.xM),.sl 1 (cdR p.code)]:=rfl;have hF:=bZm p l;have hS:=fun h=>aQu (p:=p) (l:=l) h;have hR:=fun sm=>aR6 p sm;have hA:=aCj;have hP:=fun sm=>aG8 p sm ((n % 4+1:Nat):Int);have hL:=fun sm=>cE p sm ((n % 4+1:Nat):Int);have hG:=fun sm l sc=>cD p sm l sc ((n % 4+1:Nat):Int);have hI:=fun sm l sc=>jF p sm l sc ((n % 4+1:Nat):Int);have e1:IntKind.i64.wrap (n:Int)= (n:Int):=wrap_i64 (by omega)
 have e2:((n:Int)).tmod 4=((n % 4:Nat):Int):=by rw [Int.tmod_eq_emod_of_nonneg (by omega)]; omega
 have e3:IntKind.i64.wrap (1+((n % 4:Nat):Int))= ((n % 4+1:Nat):Int):=by rw [wrap_i64 (by omega)]; omega
 rw [hD] at *;have hSC:=fun h=>aQv (p:=p) (l:=l) h;generalize eN p l=b at *;refine xX.xR mixed Tryz.func7 k7 (by simp) fun hf=>?_
 cases b with
 | false=> simp only [simprocAttr,-ZA,↓zU,↓zD,zV,zT,zW];refine .go (cq hA) ?_;simp only [simprocAttr,-ZA,↓zU,↓zD,zV,zT,zW];refine .go (cq hF) ?_;simp only [simprocAttr,-ZA,↓zU,↓zD,zV,zT,zW];refine .go (cq hA) ?_;simp only [simprocAttr,-ZA,↓zU,↓zD,zV,zT,zW];exact .drop (by simp) (by simp [vw])
 | true=>
  have sm:=hS rfl;have hR:=hR sm;have sc:=hSC rfl;have hP:=hP sm;have hL:=hL sm;have hG:=hG sm l sc;have hI:=hI sm l sc
  by_cases c6:6<p.init.length
  ·have c6':(6:Int)<(p.init.length:Int):=by omega
   simp only [simprocAttr,-ZA,↓zU,↓zD,zV,zT,zW];refine .go (cq hA) ?_;simp only [simprocAttr,-ZA,↓zU,↓zD,zV,zT,zW];refine .go (cq hF) ?_;simp only [simprocAttr,-ZA,↓zU,↓zD,zV,zT,zW,xQ,c6'];refine .go (cq hA) ?_;simp only [simprocAttr,-ZA,↓zU,↓zD,zV,zT,zW];exact .drop (by simp) (by simp [vw])
  have c6':¬ (6:Int)<(p.init.length:Int):=by omega
  by_cases hz:tJ p=0
  case neg=>
   have hz':(tJ p != 0)= true:=by simpa using hz
   simp only [simprocAttr,-ZA,↓zU,↓zD,zV,zT,zW];refine .go (cq hA) ?_;simp only [simprocAttr,-ZA,↓zU,↓zD,zV,zT,zW];refine .go (cq hF) ?_;simp only [simprocAttr,-ZA,↓zU,↓zD,zV,zT,zW,xQ,c6'];refine .go (cq hR) ?_;simp only [simprocAttr,-ZA,↓zU,↓zD,zV,zT,zW,hz'];refine .go (cq hA) ?_;simp only [simprocAttr,-ZA,↓zU,↓zD,zV,zT,zW];exact .drop (by simp) (by simp [vw])
  have hz':(tJ p != 0)= false:=by simpa using hz
  obtain⟨h0,F,hv,hs⟩:=aQq (k:=n % 4) hz (by omega);by_cases hE:mX p l ((n % 4+1:Nat):Int)= 0
  case neg=>
   have hE':(mX p l ((n % 4+1:Nat):Int) != 0)= true:=by simpa using hE
   simp only [simprocAttr,-ZA,↓zU,↓zD,zV,zT,zW];refine .go (cq hA) ?_;simp only [simprocAttr,-ZA,↓zU,↓zD,zV,zT,zW];refine .go (cq hF) ?_;simp only [simprocAttr,-ZA,↓zU,↓zD,zV,zT,zW,xQ,c6'];refine .go (cq hR) ?_;simp only [simprocAttr,-ZA,↓zU,↓zD,zV,zT,zW,hz',e1,e2,e3]
   (repeat refine sd ?_)
   refine .go (cq hI) ?_;simp only [simprocAttr,-ZA,↓zU,↓zD,zV,zT,zW,hE'];exact .drop (by simp) (by simp [vw])
  have hE':(mX p l ((n % 4+1:Nat):Int) != 0)= false:=by simpa using hE
  cases hB:aPq p l ((n % 4+1:Nat):Int) with
  | false=>
   rw [hB] at hI;simp only [simprocAttr,-ZA,↓zU,↓zD,zV,zT,zW];refine .go (cq hA) ?_;simp only [simprocAttr,-ZA,↓zU,↓zD,zV,zT,zW];refine .go (cq hF) ?_;simp only [simprocAttr,-ZA,↓zU,↓zD,zV,zT,zW,xQ,c6'];refine .go (cq hR) ?_;simp only [simprocAttr,-ZA,↓zU,↓zD,zV,zT,zW,hz',e1,e2,e3]
   (repeat refine sd ?_)
   refine .go (cq hI) ?_;simp only [simprocAttr,-ZA,↓zU,↓zD,zV,zT,zW,hE'];exact .drop (by simp) (by simp [vw])
  | true=>
  have ok:=aAp hv (show n % 4<=5 by omega) (tV hv (n % 4));obtain⟨q3,hU⟩:=aJd hv h0 hE hB;obtain⟨s1,sco⟩:=aR8 hv (show n % 4<=5 by omega);have q1:=(aIe hv (show n % 4<=5 by omega) h0).1;have hc:=(cP hE).1;rw [q3,hE] at hG;rw [hB,hE] at hI;rw [q1,h0] at hL;rw [h0] at hP;have hQ:=aG7 (oC p ((n % 4+1:Nat):Int)) (oC p ((n % 4+1:Nat):Int)) (by rw [hs]; exact aIo ok);rw [decide_eq_true rfl] at hQ;have hM:(oC p ((n % 4+1:Nat):Int)).d = .agg [.int .i64 p.see.length,.int .i64 F,.int .i64 (n % 4+1:Nat),.sl 2 (nE (eC p.see (yN p (n % 4)) (n % 4+1)))]:=by rw [hs]; rfl
  rw [hM] at hP hG hQ;clear hs ok hM q1 q3 s1 hE hE' hB;generalize eC p.see (yN p (n % 4)) (n % 4+1)= rs at *;generalize vC p (yN p (n % 4)) (n % 4)= own at *;have hol:=sco.len;have hll:=sc.len;simp only [simprocAttr,-ZA,↓zU,↓zD,zV,zT,zW];refine .go (cq hA) ?_;simp only [simprocAttr,-ZA,↓zU,↓zD,zV,zT,zW];refine .go (cq hF) ?_;simp only [simprocAttr,-ZA,↓zU,↓zD,zV,zT,zW,xQ,c6'];refine .go (cq hR) ?_;simp only [simprocAttr,-ZA,↓zU,↓zD,zV,zT,zW,hz',e1,e2,e3]
  (repeat refine sd ?_)
  refine .go (cq hI) ?_;simp only [simprocAttr,-ZA,↓zU,↓zD,zV,zT,zW];refine .go (cq hP) ?_;simp only [simprocAttr,-ZA,↓zU,↓zD,zV,zT,zW]
  (repeat refine sd ?_)
  refine .go (cq hG) ?_;simp only [simprocAttr,-ZA,↓zU,↓zD,zV,zT,zW]
  (repeat refine sd ?_)
  refine .go (cq hL) ?_;simp only [simprocAttr,-ZA,↓zU,↓zD,zV,zT,zW];refine .go (cq hQ) ?_;simp only [simprocAttr,-ZA,↓zU,↓zD,zV,zT,zW,zJ]
  refine xW (fun i:Nat=>[(95,.int .i64 i),(94,.int .i64 own.length),(93,.sl 3 (chR own)),(1,.sl 3 (chR l))]) (fun _=>⟨0,[]⟩) (fun i=>i<=own.length) (fun i=>own.length-i) 0 (Nat.zero_le _) ?_ ?_
  ·(refine xI.ren [] [] (by simp) (by simp) (by decide) ?_; simp only [yJ,vwL,vw,vwF,sw,St.get,St.look,Fr.get,↓reduceIte,reduceIte,Nat.reduceEqDiff,Nat.reduceAdd,Nat.reduceBEq,Nat.reduceLT,Nat.reduceLeDiff,exists_eq_left',ne_eq,reduceCtorEq,zR])
  intro i hi;refine xN mixed ?_;by_cases h:i<own.length
  case neg=>
   have hd:¬ ((i:Int)<(own.length:Int)):=by omega
   simp only [simprocAttr,-ZA,↓zU,↓zD,zV,zT,zW,hd];exact .drop (by simp) (by simp [vw])
  have hd:((i:Int)<(own.length:Int)):=by omega
  obtain⟨a,u1,u2,u3⟩:=hU _ (xK (d:=ch0) h);have hsl:=sco.seen _ (xK (d:=ch0) h);have g1:(chR own).getD i [] = [.int .i64 (own.getD i ch0).ag,.sl 1 (us (own.getD i ch0).seen),.int .i64 (own.getD i ch0).mv]:=by rw [kJ own h]; rfl
  generalize own.getD i ch0=x at *;obtain⟨xa,xs,xm⟩:=x;simp only at u1 u2 u3 g1 hsl;simp only [simprocAttr,-ZA,↓zU,↓zD,zV,zT,zW,hd,zJ,g1]
  (repeat refine sd ?_)
  subst u1;have b1:=bN u2;have b2:=aOi (d:=ch0) (f:=tI (a:Int) xs) (c:=l) (i:=0) (Int.le_refl 0) u2;rw [Int.sub_zero] at b2;have b2:tI (a:Int) xs (l.getD (iZ l a xs).toNat ch0)= true:=b2;have b3:(l.getD (iZ l a xs).toNat ch0).mv=xm:=u3;generalize (iZ l a xs).toNat=i0 at *;have b1:=b1.1;clear u2 u3
  refine xW (fun j:Nat=>[(101,.int .i64 j),(100,.int .i64 l.length),(99,.sl 3 (chR l)),(18,.bool (decide (i0<j))),(17,.ref 0 3 0 0),(95,.int .i64 i),(94,.int .i64 own.length),(93,.sl 3 (chR own)),(1,.sl 3 (chR l))])
   (fun _=>⟨1,[(0,⟨3,[[.int .i64 a,.sl 1 (us xs),.int .i64 xm]]⟩)]⟩) (fun j=>j<=l.length) (fun j=>l.length-j) 0 (Nat.zero_le _) ?_ ?_
  ·(refine xI.same ?_; simp [xP,Fr.get])
  intro j hj;refine xN mixed ?_;by_cases hjl:j<l.length
  case neg=>
   have hd2:¬ ((j:Int)<(l.length:Int)):=by omega
   have hfd:decide (i0<j)= true:=decide_eq_true (by omega);simp only [simprocAttr,-ZA,↓zU,↓zD,zV,zT,zW,hd2,hfd];refine⟨i+1,h,?_,by omega⟩
   (refine xI.ren [] [] (by simp) (by simp) (by decide) ?_; simp only [yJ,vwL,vw,vwF,sw,St.get,St.look,Fr.get,↓reduceIte,reduceIte,Nat.reduceEqDiff,Nat.reduceAdd,Nat.reduceBEq,Nat.reduceLT,Nat.reduceLeDiff,exists_eq_left',ne_eq,reduceCtorEq,zR,zI (show i<=1000000000 by omega)])
  have hd2:((j:Int)<(l.length:Int)):=by omega
  have g2:(chR l).getD j [] = [.int .i64 (l.getD j ch0).ag,.sl 1 (us (l.getD j ch0).seen),.int .i64 (l.getD j ch0).mv]:=by rw [kJ l hjl]; rfl
  have hOr:=aCm (xs.map ui) ((l.getD j ch0).seen.map ui);rw [<- pR,<- pR] at hOr
  have hst:tI (a:Int) xs (l.getD j ch0)= true->j=i0:=fun hc2=>by
   rcases Nat.lt_trichotomy j i0 with hlt | he | hgt
   ·exact(aYe hc hlt b1 hc2 b2).elim
   ·exact he
   ·exact(aYe hc hgt hjl b2 hc2).elim
  have hne:tI (a:Int) xs (l.getD j ch0)= false->decide (i0<j)= decide (i0<j+1):=fun hc2=>by
   have:j≠i0:=fun e=>by rw [e,b2] at hc2; cases hc2
   rw [decide_eq_decide]; omega
  have hmv:j=i0->(l.getD j ch0).mv=xm:=fun e=>by rw [e]; exact b3
  generalize l.getD j ch0=y at *;obtain⟨ya,ys,ym⟩:=y;simp only at g2 hOr hmv;by_cases ca:(a:Int)= ya
  case neg=>
   have ca':((a:Int)== ya)= false:=by simpa using ca
   have hq:=hne (by
    cases hcs:tI (a:Int) xs ⟨ya,ys,ym⟩ with
    | false=>rfl
    | true=>exact(ca (sZ.1 hcs).1.symm).elim)
   rw [hq];simp only [simprocAttr,-ZA,↓zU,↓zD,zV,zT,zW,hd2,zJ,g2,ca']
   (repeat refine sd ?_)
   refine⟨j+1,hjl,?_,by omega⟩
   (refine xI.ren [] [0] (by simp) (by simp) (by decide) ?_; simp only [yJ,vwL,vw,vwF,sw,St.get,St.look,Fr.get,↓reduceIte,reduceIte,Nat.reduceEqDiff,Nat.reduceAdd,Nat.reduceBEq,Nat.reduceLT,Nat.reduceLeDiff,exists_eq_left',ne_eq,reduceCtorEq,zR,zI (show j<=1000000000 by omega)])
  subst ca;have ca':((a:Int)== (a:Int))= true:=by simp
  by_cases ck:kc (xs.map ui) (ys.map ui)= 0
  ·have ck':(kc (xs.map ui) (ys.map ui)== 0)= true:=by simpa using ck
   have he:xs=ys:=by have:=bP ck;exact(List.map_inj_right fun x y hxy=>aUs.1 hxy).1 this
   have hji:=hst (sZ.2 ⟨rfl,he.symm⟩)
   have hm:(xm==ym)= true:=by have:ym=xm:=hmv hji;rw [this]; simp
   have hfd:decide (i0<j+1)= true:=decide_eq_true (by omega);simp only [simprocAttr,-ZA,↓zU,↓zD,zV,zT,zW,hd2,zJ,g2,ca']
   (repeat refine sd ?_)
   refine .go (cq hOr) ?_;simp only [simprocAttr,-ZA,↓zU,↓zD,zV,zT,zW,ck',hm];refine⟨j+1,hjl,?_,by omega⟩;rw [hfd]
   (refine xI.ren [] [0] (by simp) (by simp) (by decide) ?_; simp only [yJ,vwL,vw,vwF,sw,St.get,St.look,Fr.get,↓reduceIte,reduceIte,Nat.reduceEqDiff,Nat.reduceAdd,Nat.reduceBEq,Nat.reduceLT,Nat.reduceLeDiff,exists_eq_left',ne_eq,reduceCtorEq,zR,zI (show j<=1000000000 by omega)])
  ·have ck':(kc (xs.map ui) (ys.map ui)== 0)= false:=by simpa using ck
   have hq:=hne (by
    cases hcs:tI (a:Int) xs ⟨a,ys,ym⟩ with
    | false=>rfl
    | true=>exact(ck (by rw [show ys=xs from(sZ.1 hcs).2]; exact aVb _)).elim)
   rw [hq];simp only [simprocAttr,-ZA,↓zU,↓zD,zV,zT,zW,hd2,zJ,g2,ca']
   (repeat refine sd ?_)
   refine .go (cq hOr) ?_;simp only [simprocAttr,-ZA,↓zU,↓zD,zV,zT,zW,ck'];refine⟨j+1,hjl,?_,by omega⟩
   (refine xI.ren [] [0] (by simp) (by simp) (by decide) ?_; simp only [yJ,vwL,vw,vwF,sw,St.get,St.look,Fr.get,↓reduceIte,reduceIte,Nat.reduceEqDiff,Nat.reduceAdd,Nat.reduceBEq,Nat.reduceLT,Nat.reduceLeDiff,exists_eq_left',ne_eq,reduceCtorEq,zR,zI (show j<=1000000000 by omega)])
end Go.Pd
