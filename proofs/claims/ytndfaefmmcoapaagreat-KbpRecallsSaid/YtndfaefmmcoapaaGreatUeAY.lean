/- Part AY. -/
import Derived.Test.YtndfaefmmcoapaaGreatUeSO
set_option linter.unusedSectionVars false
set_option linter.unusedVariables false
set_option linter.unusedSimpArgs false
set_option linter.defProp false
set_option maxRecDepth 20000
set_option maxHeartbeats 1000000
namespace Go.Pd
open Go Go.Proofs
open Rs Fm Ru Te Kb
namespace Kb
instance : DecidableEq ChA := fun a b => decidable_of_iff (a.ag = b.ag /\ a.seen = b.seen /\ a.mv = b.mv) (by cases a; cases b; simp)
def exL : List ChA:=[⟨0,[0#64],-1⟩,⟨0,[1#64],0⟩,⟨0,[0#64,0#64],-1⟩,⟨0,[1#64,1#64],-1⟩,⟨1,[0#64],-1⟩,⟨1,[0#64,0#64],-1⟩,⟨1,[0#64,2#64],-1⟩]
theorem aPr : aVd exP 3=exL:=by unfold aVd;rw [if_neg (by rw [aTo]; simp),show (3:Int).toNat-1=2 from rfl,aZ1];unfold aJ7 mW;simp only [aFt];decide +kernel
theorem aV4 : dY exP exL 3=0:=by decide +kernel
theorem aBu : uD exP exL 2 = [[0#64,0#64,0#64],[1#64,3#64,3#64]]:=by decide +kernel
theorem bY5 : aE7 exP exL 3=exS:=by unfold aE7;rw [if_neg (by rw [aV4]; simp),show (3:Int).toNat=3 from rfl,aBu,aTw];decide +kernel
theorem bY4 : aAy exP exL 3=true:=by decide +kernel
theorem mD : qO exP:=⟨by decide,by decide,by decide⟩
theorem aZ2 : aYr exL:=⟨by decide,by decide⟩
theorem bY6 : tH exP=0:=by decide +kernel
theorem aK0 : aNa exS:=by unfold aNa; decide
end Kb
end Go.Pd

/- Part AZ. -/
namespace Go.Pd
open Go Go.Proofs
open BitVec renaming isValue -> ZA
open Rs Fm Ru Te Kb
def exD : D:=.agg [.int .i64 2,.sl 1 (us [0#64,1#64]),.sl 1 (us [1#64,2#64]),.sl 1 (mvR [[⟨1,qC 0⟩]]),.sl 1 [[.sl 2 (clR [⟨exT,0⟩])],[.xH]]]
theorem bY7 : Nw exD exP.d:=by
 refine Nw.agg rfl fun j hj=>?_
 match j,hj with
 | 0,_=>exact Nw.refl _
 | 1,_=>exact Nw.refl _
 | 2,_=>exact Nw.refl _
 | 3,_=>exact Nw.refl _
 | 4,_=>
  refine Nw.sl rfl (by decide) fun i hi j hj=>?_;have e:j=0:=by omega
  subst e
  match i,hi with
  | 0,_=>exact Nw.refl _
  | 1,_=>exact Nw.xH 2
theorem aKz : yV Tryz.prog 36 [] exD:=by
 have c1:=bZl 0;have c2:=bZj 1 (qC 0);have c3:=bVd (aYc 1 (qC 0));have c4:=bVf (qC 0) (aAt (aYc 1 (qC 0)));have hD:exD = .agg [.int .i64 2,.sl 1 (us [0#64,1#64]),.sl 1 (us [1#64,2#64]),.sl 1 [[.sl 2 [[.int .i64 1,.sl 6 (ndR (qC 0))]]]],.sl 1 [[.sl 2 [[.sl 6 (ndR (bZ1 (qC 0) (aAt (aYc 1 (qC 0))))),.int .i64 0]]],[.xH]]]:=rfl;rw [hD];generalize bZ1 (qC 0) (aAt (aYc 1 (qC 0)))= g1 at *;generalize aAt (aYc 1 (qC 0))= g2 at *;generalize aYc 1 (qC 0)= g3 at *;generalize qC 0=g4 at *;refine xX.xP mixed Tryz.func36 k36 (by simp) fun hf=>?_;simp only [simprocAttr,-ZA,↓zU,↓zD,zV,zT,zW];refine .go (cq c1) ?_;simp only [simprocAttr,-ZA,↓zU,↓zD,zV,zT,zW]
 (repeat refine sd ?_)
 refine .go (cr c2) ?_;simp only [simprocAttr,-ZA,↓zU,↓zD,zV,zT,zW];refine .go (cr c3) ?_;simp only [simprocAttr,-ZA,↓zU,↓zD,zV,zT,zW];refine .go (cr c4) ?_;simp only [simprocAttr,-ZA,↓zU,↓zD,zV,zT,zW]
 (repeat refine sd ?_)
 exact .drop (by simp) (by simp [vw,vwL,us,ui])
theorem aAa : yV Tryz.prog 15 [] (.bool true):=by
 have hp:exD.xG=true:=rfl;have S1:Seen St0 (fun _=>False) exD exP.d:=bY7.seen hp;have hP:yV Tryz.prog 19 [exD,.int .i64 3] (.tup [exS.d,.int .i64 0]):=yV.seen (args':=[exP.d,.int .i64 3]) (by have:=aEt exP mD 3; rwa [aBt,aTo] at this) ⟨S1,Seen.pure rfl,trivial⟩;have hL:yV Tryz.prog 21 [exD,.int .i64 3] (.tup [.sl 3 (chR exL),.int .i64 0]):=yV.seen (args':=[exP.d,.int .i64 3]) (by have:=aOf exP mD 3; rwa [aPr,aTo] at this) ⟨S1,Seen.pure rfl,trivial⟩;have hG:yV Tryz.prog 25 [exD,.sl 3 (chR exL),.int .i64 3] (.tup [exS.d,.int .i64 0]):=yV.seen (args':=[exP.d,.sl 3 (chR exL),.int .i64 3]) (by have:=aOg exP mD exL aZ2 3; rwa [bY5,aV4] at this) ⟨S1,Seen.pure rfl,Seen.pure rfl,trivial⟩;have hI:yV Tryz.prog 27 [exD,.sl 3 (chR exL),.int .i64 3] (.tup [.bool true,.int .i64 0]):=yV.seen (args':=[exP.d,.sl 3 (chR exL),.int .i64 3]) (by have:=aW1 exP mD exL aZ2 3; rwa [bY4,aV4] at this) ⟨S1,Seen.pure rfl,Seen.pure rfl,trivial⟩;have hC:yV Tryz.prog 17 [exD] (.int .i64 0):=yV.seen (args':=[exP.d]) (by have:=aMz exP mD; rwa [bY6] at this) ⟨S1,trivial⟩;have hS:yV Tryz.prog 23 [exS.d,exS.d] (.bool true):=by have:=bZi exS exS aK0; simpa using this
 have hE:=aKz;have eL:chR exL = [[.int .i64 0,.sl 1 (us [0#64]),.int .i64 (-1)],[.int .i64 0,.sl 1 (us [1#64]),.int .i64 0],[.int .i64 0,.sl 1 (us [0#64,0#64]),.int .i64 (-1)],[.int .i64 0,.sl 1 (us [1#64,1#64]),.int .i64 (-1)],[.int .i64 1,.sl 1 (us [0#64]),.int .i64 (-1)],[.int .i64 1,.sl 1 (us [0#64,0#64]),.int .i64 (-1)],[.int .i64 1,.sl 1 (us [0#64,2#64]),.int .i64 (-1)]]:=rfl;have eS:exS.d = .agg [.int .i64 2,.int .i64 2,.int .i64 3,.sl 2 [[.sl 1 [[.sl 1 [[.int .i64 0],[.int .i64 0]]],[.sl 1 [[.int .i64 2],[.int .i64 1]]],[.sl 1 [[.int .i64 4],[.int .i64 3]]]],.sl 1 [[.int .u64 0],[.int .u64 0],[.int .u64 0]]],[.sl 1 [[.sl 1 [[.int .i64 1],[.int .i64 0]]],[.sl 1 [[.int .i64 3],[.int .i64 2]]],[.sl 1 [[.int .i64 5],[.int .i64 4]]]],.sl 1 [[.int .u64 1],[.int .u64 3],[.int .u64 3]]]]]:=rfl;rw [eS] at hP hG hS;generalize exD=d at *;generalize hl:chR exL=cl at *;refine xX.xP mixed Tryz.func15 k15 (by simp) fun hf=>?_;simp only [simprocAttr,-ZA,↓zU,↓zD,zV,zT,zW];refine .go (cq hE) ?_;simp only [simprocAttr,-ZA,↓zU,↓zD,zV,zT,zW];refine .go (xX.yN hP (by simp [D.xU,D.xG,hp])) ?_;simp only [simprocAttr,-ZA,↓zU,↓zD,zV,zT,zW];refine .go (cq hE) ?_;simp only [simprocAttr,-ZA,↓zU,↓zD,zV,zT,zW];refine .go (xX.yN hL (by simp [D.xU,D.xG,hp])) ?_;simp only [simprocAttr,-ZA,↓zU,↓zD,zV,zT,zW];refine .go (cq hE) ?_;simp only [simprocAttr,-ZA,↓zU,↓zD,zV,zT,zW];refine .go (xX.yN hG (by simp [D.xU,D.xG,hp])) ?_;simp only [simprocAttr,-ZA,↓zU,↓zD,zV,zT,zW];refine .go (cq hE) ?_;simp only [simprocAttr,-ZA,↓zU,↓zD,zV,zT,zW];refine .go (xX.yN hI (by simp [D.xU,D.xG,hp])) ?_;simp only [simprocAttr,-ZA,↓zU,↓zD,zV,zT,zW]
 (repeat refine sd ?_)
 refine .go (cr hS) ?_;simp only [simprocAttr,-ZA,↓zU,↓zD,zV,zT,zW];refine .go (cr hS) ?_;simp only [simprocAttr,-ZA,↓zU,↓zD,zV,zT,zW,eL]
 (repeat refine sd ?_)
 refine .go (cq hE) ?_;simp only [simprocAttr,-ZA,↓zU,↓zD,zV,zT,zW];refine .go (xX.yN hC (by simp [D.xU,D.xG,hp])) ?_;simp only [simprocAttr,-ZA,↓zU,↓zD,zV,zT,zW];exact .dv
open Rs Fm Ru Te Kb
theorem bZk (p:PrA):yV Tryz.prog 16 [p.d,.xH] (.bool (dZ p [])):=yV.seen (args':=[p.d,.sl 3 (chR [])]) (bVe p []) ⟨Seen.pure rfl,Seen.nil 3,trivial⟩
theorem aPp {p:PrA} {l:List ChA} (h:dZ p l=true):qO p:=by obtain⟨h1,h2,h3⟩:=aKy h;exact⟨h1,h2,h3⟩
open Rs Fm Ru Te Kb
namespace Kb
theorem aSg {p:PrA} {F:Nat} (hv:PrV p F) (k:Nat) {i:Nat} (hi:i<(zQ p k).length):(stR (zQ p k) i).length=k+1:=(rA hv k).run _ (sX hi)
theorem aF9 {p:PrA} {F k:Nat} (hv:PrV p F) (hk:k<=5) {sts:List (List (BitVec 64))} (hS:PlS p F sts k):OkR (lD p.see sts (k+1)) p.see.length F (k+1):=by
 have hl:=mM p.see sts (k+1);have hR:=hv.hI;have hn:=hS.len
 have key:∀ r ∈ lD p.see sts (k+1),∃ i,i<sts.length/\r=⟨(List.range (k+1)).map fun t=>(List.range p.see.length).map fun a=>((below (iQ p.see sts (k+1) a) (sJ p.see sts a (i,t)):Nat):Int),stR sts i⟩:=fun r hr=>by
  obtain⟨i,hi,rfl⟩:=List.getElem_of_mem hr;have hi':i<sts.length:=by omega
  refine⟨i,hi',?_⟩;rw [<- aH hi'];simp [List.getD,hi]
 refine⟨hv.hA.2,hv.hF,⟨by omega,by omega⟩,⟨by omega,by omega⟩,?_,?_,?_,?_,?_⟩
 ·rw [hl];have:sts.length*(k+1)<=16*6:=Nat.mul_le_mul (by omega) (by omega);omega
 ·intro r hr;obtain⟨i,hi,rfl⟩:=key r hr;simp
 ·intro r hr;obtain⟨i,hi,rfl⟩:=key r hr;exact hS.run _ (sX hi)
 ·intro r hr l hm;obtain⟨i,hi,rfl⟩:=key r hr;simp only [List.mem_map] at hm;obtain⟨t,_,rfl⟩:=hm;simp
 ·intro r hr f hm;obtain⟨i,hi,rfl⟩:=key r hr;exact hS.val _ (sX hi) f hm
theorem aVp {see:List (BitVec 64)} {sts:List (List (BitVec 64))} {T a:Nat} {x y:Nat × Nat} (ha:a<see.length) (hx:x.1<sts.length/\x.2<T) (hy:y.1<sts.length/\y.2<T) :
  zH (lD see sts T) a x=zH (lD see sts T) a y ↔ sJ see sts a x=sJ see sts a y:=aHo ha (by rw [mA]; exact hx) (by rw [mA]; exact hy)
theorem aZp {p:PrA} {F k:Nat} {sts:List (List (BitVec 64))} (hS:PlS p F sts k) {a:Nat} {x y:Nat × Nat} (hx:x.1<sts.length/\x.2<k+1) (hy:y.1<sts.length/\y.2<k+1) (h:sJ p.see sts a x=sJ p.see sts a y):x.2=y.2:=by obtain⟨i,t⟩:=x;obtain⟨j,u⟩:=y;have h1:=aXi (see:=p.see) (a:=a) (sts:=sts) (r:=i) (t:=t) (by rw [show (stR sts i).length=k+1 from hS.run _ (sX hx.1)]; exact hx.2);have h2:=aXi (see:=p.see) (a:=a) (sts:=sts) (r:=j) (t:=u) (by rw [show (stR sts j).length=k+1 from hS.run _ (sX hy.1)]; exact hy.2);rw [h] at h1;show t=u;omega
theorem aKt {see:List (BitVec 64)} {sts:List (List (BitVec 64))} {a i j t u:Nat} (h:sJ see sts a (i,t)= sJ see sts a (j,t)) (hu:u<=t):sJ see sts a (i,u)= sJ see sts a (j,u):=by
 have e:∀ i,sJ see sts a (i,u)= (sJ see sts a (i,t)).take (u+1):=fun i=>by unfold sJ rC;rw [<- List.map_take,<- List.map_take,List.take_take,Nat.min_eq_left (by omega)]
 rw [e,e,h]
theorem aS4 {f g:Nat->Int}:∀ {k:Nat},(∀ u,u<k->f u=g u)->hT f k=hT g k
 | 0,_=>rfl
 | k+1,h=>by
  unfold hT;rw [h k (by omega),aS4 fun u hu=>h u (by omega)]
  by_cases c:0<k
  ·rw [h (k-1) (by omega)]
  ·rw [if_neg (fun e=>c e.1),if_neg (fun e=>c e.1)]
theorem aIy {p:PrA} {F k:Nat} (hv:PrV p F) (hk:k<=5) {sts:List (List (BitVec 64))} (hS:PlS p F sts k):bE ⟨p.see.length,F,((k+1:Nat):Int),lD p.see sts (k+1)⟩= true:=
 aQo (aF9 hv hk hS) fun a x y ha hx hy hne h=>by rw [mM] at hx hy;exact hne (aZp hS hx hy ((aVp ha hx hy).1 h))
theorem aD3 {p:PrA} {F k:Nat} {sts:List (List (BitVec 64))} (hS:PlS p F sts k):bXd (lD p.see sts (k+1)) p.see.length (ptN (k+1) ((lD p.see sts (k+1)).length*(k+1)))= true:=
 aLw (by omega) fun a x y ha hx hy h=>by rw [mM] at hx hy;have h1:=(aVp ha hx hy).1 h;have e:=aZp hS hx hy h1;obtain⟨i,t⟩:=x;obtain⟨j,u⟩:=y;simp only at hx hy e;subst e;rw [aEi,aEi];exact aS4 fun v hv=>(aVp ha ⟨hx.1,by show v<k+1; omega⟩ ⟨hy.1,by show v<k+1; omega⟩).2 (aKt h1 (by omega))
theorem aZa {p:PrA} {F:Nat} (hv:PrV p F):∀ (k:Nat) {i:Nat},i<p.init.length->(stR (zQ p k) i).getD 0 0#64=p.init.getD i 0#64
 | 0,i,hi=>by simp [zQ,bF,stR,List.getD,hi]
 | k+1,i,hi=>by
  have hl:i<(zQ p k).length:=by rw [mJ hv]; exact hi
  have hr:=aSg hv k hl
  have e:stR (zQ p (k+1)) i=stR (zQ p k) i ++ [aJt p (zQ p k) (vN p (zQ p k) k) i]:=by
   show stR (kZ p (zQ p k) (vN p (zQ p k) k)) i=_;unfold kZ;generalize zQ p k=q at hl ⊢;conv=>lhs; unfold stR
   simp [stR,List.getD,hl]
  rw [e,<- aZa hv k hi];simp only [List.getD];rw [List.getElem?_append_left (by omega)]
theorem aPl {p:PrA} {k:Nat} (h:tH p=0) (hk:k<=5):jB p ((k+1:Nat):Int)= 0/\∃ F,PrV p F/\bD p ((k+1:Nat):Int)= ⟨p.see.length,F,((k+1:Nat):Int),lD p.see (zQ p k) (k+1)⟩:=by
 have h1:jB p ((k+1:Nat):Int)= 0:=by unfold jB;rw [if_neg (by simpa using h),if_neg (by omega)]
 obtain⟨F,hv⟩:=aWa h;refine⟨h1,F,hv,?_⟩;unfold bD;rw [if_neg (by simpa using h1),hv.fe];rfl
end Kb
open Rs Fm Ru Te Kb
theorem aLv (p:PrA) (n:Nat) (hn:n<256):yV Tryz.prog 10 [p.d,.int .u8 (n:Int)] (.bool true):=by
 have hD:p.d = .agg [.int .i64 p.F,.sl 1 (us p.init),.sl 1 (us p.see),.sl 1 (mvR p.xL),.sl 1 (cdR p.code)]:=rfl;have hF:=bZk p;have hS:=fun h=>aPp (p:=p) (l:=[]) h;have hR:=fun sm=>aQ2 p sm;have hA:=aAa;have hP:=fun sm=>aEt p sm ((n % 4+1:Nat):Int);have e1:IntKind.i64.wrap (n:Int)= (n:Int):=wrap_i64 (by omega)
 have e2:((n:Int)).tmod 4=((n % 4:Nat):Int):=by rw [Int.tmod_eq_emod_of_nonneg (by omega)]; omega
 have e3:IntKind.i64.wrap (1+((n % 4:Nat):Int))= ((n % 4+1:Nat):Int):=by rw [wrap_i64 (by omega)]; omega
 rw [hD] at *;generalize dZ p []=b at *;refine xX.xP mixed Tryz.func10 k10 (by simp) fun hf=>?_
 cases b with
 | false=> simp only [simprocAttr,-ZA,↓zU,↓zD,zV,zT,zW];refine .go (cq hA) ?_;simp only [simprocAttr,-ZA,↓zU,↓zD,zV,zT,zW];refine .go (cq hF) ?_;simp only [simprocAttr,-ZA,↓zU,↓zD,zV,zT,zW];refine .go (cq hA) ?_;simp only [simprocAttr,-ZA,↓zU,↓zD,zV,zT,zW];exact .dv
 | true=>
  have sm:=hS rfl;have hR:=hR sm;have hP:=hP sm
  by_cases c6:6<p.init.length
  ·have c6':(6:Int)<(p.init.length:Int):=by omega
   simp only [simprocAttr,-ZA,↓zU,↓zD,zV,zT,zW];refine .go (cq hA) ?_;simp only [simprocAttr,-ZA,↓zU,↓zD,zV,zT,zW];refine .go (cq hF) ?_;simp only [simprocAttr,-ZA,↓zU,↓zD,zV,zT,zW,xO,c6'];refine .go (cq hA) ?_;simp only [simprocAttr,-ZA,↓zU,↓zD,zV,zT,zW];exact .dv
  have c6':¬ (6:Int)<(p.init.length:Int):=by omega
  by_cases hz:tH p=0
  case neg=>
   have hz':(tH p != 0)= true:=by simpa using hz
   simp only [simprocAttr,-ZA,↓zU,↓zD,zV,zT,zW];refine .go (cq hA) ?_;simp only [simprocAttr,-ZA,↓zU,↓zD,zV,zT,zW];refine .go (cq hF) ?_;simp only [simprocAttr,-ZA,↓zU,↓zD,zV,zT,zW,xO,c6'];refine .go (cq hR) ?_;simp only [simprocAttr,-ZA,↓zU,↓zD,zV,zT,zW,hz'];refine .go (cq hA) ?_;simp only [simprocAttr,-ZA,↓zU,↓zD,zV,zT,zW];exact .dv
  have hz':(tH p != 0)= false:=by simpa using hz
  obtain⟨h0,F,hv,hs⟩:=aPl (k:=n % 4) hz (by omega);have ok:=aF9 hv (show n % 4<=5 by omega) (rA hv (n % 4));have h38:=aQ1 ⟨p.see.length,F,((n % 4+1:Nat):Int),lD p.see (zQ p (n % 4)) (n % 4+1)⟩;have h39:=bYe ⟨p.see.length,F,((n % 4+1:Nat):Int),lD p.see (zQ p (n % 4)) (n % 4+1)⟩;have h40:=aLu ok;rw [gK ok] at h38;rw [aIy hv (show n % 4<=5 by omega) (rA hv (n % 4))] at h39;rw [aD3 (rA hv (n % 4))] at h40;have hl:=(mM p.see (zQ p (n % 4)) (n % 4+1)).trans (mJ hv (n % 4))
  have hg:∀ i,i<p.init.length->(uP (lD p.see (zQ p (n % 4)) (n % 4+1))).getD i [] = [.sl 1 (rl ((lD p.see (zQ p (n % 4)) (n % 4+1)).getD i tN).loc),.sl 1 (us (stR (zQ p (n % 4)) i))]:=fun i hi=>by rw [tQ _ (by omega),aH (by rw [mJ hv]; exact hi)];rfl
  have hh:∀ i,i<p.init.length->(us (stR (zQ p (n % 4)) i)).getD 0 [] = [.int .u64 (ui (p.init.getD i 0))]/\0<(stR (zQ p (n % 4)) i).length:=fun i hi=>by have hr:=aSg hv (n % 4) (show i<(zQ p (n % 4)).length by rw [mJ hv]; exact hi);refine⟨?_,by omega⟩;rw [zE _ (by omega)];have:=aZa hv (n % 4) hi;rw [show (stR (zQ p (n % 4)) i).getD 0 0=p.init.getD i 0 from this]
  rw [h0,hs] at hP;unfold qL.d qL.cells at hP h38 h39;unfold sD at h40;simp only at hP h38 h39;clear hs ok;generalize lD p.see (zQ p (n % 4)) (n % 4+1)= rs at *;have hq:((rs.length:Int) != (p.init.length:Int))= false:=by rw [hl]; simp
  simp only [simprocAttr,-ZA,↓zU,↓zD,zV,zT,zW];refine .go (cq hA) ?_;simp only [simprocAttr,-ZA,↓zU,↓zD,zV,zT,zW];refine .go (cq hF) ?_;simp only [simprocAttr,-ZA,↓zU,↓zD,zV,zT,zW,xO,c6'];refine .go (cq hR) ?_;simp only [simprocAttr,-ZA,↓zU,↓zD,zV,zT,zW,hz',e1,e2,e3]
  (repeat refine sd ?_)
  refine .go (cq hP) ?_;simp only [simprocAttr,-ZA,↓zU,↓zD,zV,zT,zW]
  (repeat refine sd ?_)
  refine .go (cq h38) ?_;simp only [simprocAttr,-ZA,↓zU,↓zD,zV,zT,zW];refine .go (cq h39) ?_;simp only [simprocAttr,-ZA,↓zU,↓zD,zV,zT,zW];refine .go (cq h40) ?_;simp only [simprocAttr,-ZA,↓zU,↓zD,zV,zT,zW,xA,xO,hq]
  refine xW (fun i:Nat=>[(66,.int .i64 i),(65,.int .i64 rs.length),(64,.sl 2 (uP rs)),(2,.ref 0 5 0 0)])
   (fun _=>⟨2,[(1,⟨4,[[.int .i64 p.see.length,.int .i64 F,.int .i64 (n % 4+1:Nat),.sl 2 (uP rs)]]⟩),(0,⟨5,[[.int .i64 p.F,.sl 1 (us p.init),.sl 1 (us p.see),.sl 1 (mvR p.xL),.sl 1 (cdR p.code)]]⟩)]⟩)
   (fun i=>i<=rs.length) (fun i=>rs.length-i) 0 (Nat.zero_le _) ?_ ?_
  ·(refine xI.same ?_; simp [xR,Fr.get])
  intro i hi;refine xQ mixed ?_;by_cases h:i<rs.length
  case neg=>
   have hd:¬ ((i:Int)<(rs.length:Int)):=by omega
   simp only [simprocAttr,-ZA,↓zU,↓zD,zV,zT,zW,hd];exact .dv
  have hd:((i:Int)<(rs.length:Int)):=by omega
  have hip:i<p.init.length:=by omega
  have g1:=hg i hip;obtain⟨g2,g3⟩:=hh i hip;have g4:=zE p.init hip;simp only [simprocAttr,-ZA,↓zU,↓zD,zV,zT,zW,hd,xA,xO,g1,g2,g4]
  (repeat refine sd ?_)
  refine⟨i+1,h,?_,by omega⟩
  (refine xI.ren [] [1,0] (by simp) (by simp) (by decide) ?_; simp only [yQ,vwL,vw,vwF,sw,St.get,St.look,Fr.get,simprocAttr,-ZA,exists_eq_left',ne_eq,zR,wI (show i<=1000000000 by omega)])
end Go.Pd
