/- Part MH. -/
import Derived.Test.YtndfaefmmcoapaaGreatUdSP
import Derived.Test.YtndfaefmmcoapaaGreatUdE1
import Derived.Test.YtndfaefmmcoapaaGreatUdX6
import Derived.SizedLaws
set_option linter.unusedSectionVars false
set_option linter.unusedVariables false
set_option linter.unusedSimpArgs false
set_option linter.defProp false
set_option maxRecDepth 20000
set_option maxHeartbeats 1000000
namespace Go.Pd
open Go Go.Proofs
open BitVec renaming isValue -> ZA
open Rs Fm Ru Te Kb
namespace Kb
def exQ : PrA:=⟨1,[0#64,1#64],[1#64],[],[[]]⟩
def aNk : tZ:=⟨1,1,2,[⟨[[0],[2]],[0#64,0#64]⟩,⟨[[1],[3]],[1#64,1#64]⟩]⟩
def sPq : tZ:=⟨1,1,2,[⟨[[0],[1]],[0#64,1#64]⟩,⟨[[0],[1]],[1#64,1#64]⟩]⟩
theorem aOf : vL exQ 1 = [[0#64,0#64],[1#64,1#64]]:=by decide +kernel
theorem aLg : aVz exQ 2=0:=by decide +kernel
theorem aEo : gI exQ 2=aNk:=by unfold gI;rw [if_neg (by rw [aLg]; simp),show (2:Int).toNat=2 from rfl,aOf,aH5];decide +kernel
theorem aJz : aZl exQ:=⟨by decide,by decide,by decide⟩
theorem aEn : lZ aNk=true:=by decide +kernel
theorem bXf : chk aNk=0:=by decide +kernel
theorem bW1 : OkR aNk.rs 1 1 2:=by obtain⟨A,F,T,rs,h,ok⟩:=aXn bXf;have h1:((1:Int)= A/\(1:Int)= F/\(2:Int)= T)/\ aNk.rs=rs:=⟨⟨congrArg tZ.ag h,congrArg tZ.fa h,congrArg tZ.ln h⟩,congrArg tZ.rs h⟩;obtain⟨⟨a1,a2,a3⟩,a4⟩:=h1;rw [a4,show 1=A by omega,show A=F by omega,show 2=T by omega];rw [show A=F by omega] at ok;exact ok
theorem bXe : aIy aNk.rs 1 (ptN 2 (aNk.rs.length*2))= true:=by decide +kernel
theorem aEr : lV sPq (aI0 (wB 0 (tQ (sS 0))) (tQ (wB 0 (sS 0))))= true:=by decide +kernel
theorem aJ5 : kF sPq (aI0 (wB 0 (tQ (sS 0))) (tQ (wB 0 (sS 0))))= 0:=by decide +kernel
theorem bXl : bZ sPq (wB 0 (sS 0))= [[.sl 1 [[.bool false],[.bool true]]],[.sl 1 [[.bool false],[.bool true]]]]:=by kernel_rfl
theorem aEs : kF sPq (wB 0 (sS 0))= 0:=by decide +kernel
def bZb : D:=.agg [.int .i64 1,.sl 1 (us [0#64,1#64]),.sl 1 (us [1#64]),.xO,.sl 1 [[.xO]]]
theorem bXg : Nw bZb exQ.d:=by
 refine Nw.agg rfl fun j hj=>?_
 match j,hj with
 | 0,_=>exact Nw.refl _
 | 1,_=>exact Nw.refl _
 | 2,_=>exact Nw.refl _
 | 3,_=>exact Nw.xO 1
 | 4,_=>
  refine Nw.sl rfl (by decide) fun i hi j hj=>?_;have e:j=0:=by omega
  subst e
  match i,hi with
  | 0,_=>exact Nw.xO 2
end Kb
theorem aOj : yB Tryz.prog 107 [] sPq.d:=by
 refine xY.xR mixed Tryz.func107 bR2 (by simp) fun hf=>?_;simp only [simprocAttr,-ZA,↓zU,↓zD,zV,zT,zW]
 (repeat refine sd ?_)
 exact .drop (by simp) (by simp [vw,vwL,tZ.d,tZ.cells,sPq,vF,xD.row,rl,rows,us,ui])
theorem aEt : yB Tryz.prog 46 [] (.bool true):=by
 have hp:bZb.xL=true:=rfl;have S1:Seen St0 (fun _=>False) bZb exQ.d:=bXg.seen hp;have hP:yB Tryz.prog 19 [bZb,.int .i64 2] (.tup [aNk.d,.int .i64 0]):=yB.seen (args':=[exQ.d,.int .i64 2]) (by have:=aCi exQ aJz 2; rwa [aEo,aLg] at this) ⟨S1,Seen.pure rfl,trivial⟩;have hV:=aLt sPq (aI0 (wB 0 (tQ (sS 0))) (tQ (wB 0 (sS 0))));rw [aEr,aJ5] at hV;have hH:=aTc sPq (wB 0 (sS 0));rw [bXl,aEs] at hH;have hS:=aDw aNk;rw [aEn] at hS;have hR:yB Tryz.prog 40 [aNk.d] (.bool true):=by have:=aZ4 bW1; rwa [bXe] at this
 have c1:=bVd 0;have c2:=aSt (sS 0);have c3:=aZn 0 (tQ (sS 0));have c4:=aZn 0 (sS 0);have c5:=aSt (wB 0 (sS 0));have c6:=aC9 (wB 0 (tQ (sS 0))) (tQ (wB 0 (sS 0)));have hD:=aOj;have hdp:sPq.d.xL=true:=rfl;have eS:aNk.d = .agg [.int .i64 1,.int .i64 1,.int .i64 2,.sl 2 [[.sl 1 (rl [[0],[2]]),.sl 1 (us [0#64,0#64])],[.sl 1 (rl [[1],[3]]),.sl 1 (us [1#64,1#64])]]]:=rfl;have eQ:bZb = .agg [.int .i64 1,.sl 1 [[.int .u64 0],[.int .u64 1]],.sl 1 [[.int .u64 1]],.xO,.sl 1 [[.xO]]]:=rfl;rw [eS] at hP hS hR;rw [eQ] at hP;generalize sPq.d=ds at *;generalize aI0 (wB 0 (tQ (sS 0))) (tQ (wB 0 (sS 0)))= g1 at *;generalize tQ (wB 0 (sS 0))= g2 at *;generalize wB 0 (tQ (sS 0))= g3 at *;generalize tQ (sS 0)= g4 at *;generalize wB 0 (sS 0)= g5 at *;generalize sS 0=g6 at *;have w0:IntKind.i64.wrap (0+0)= 0:=rfl;refine xY.xR mixed Tryz.func46 k46 (by simp) fun hf=>?_;simp only [simprocAttr,-ZA,↓zU,↓zD,zV,zT,zW];refine .go (cq c1) ?_;simp only [simprocAttr,-ZA,↓zU,↓zD,zV,zT,zW];refine .go (cq hD) ?_;simp only [simprocAttr,-ZA,↓zU,↓zD,zV,zT,zW];refine .go (cr c2) ?_;simp only [simprocAttr,-ZA,↓zU,↓zD,zV,zT,zW];refine .go (cr c3) ?_;simp only [simprocAttr,-ZA,↓zU,↓zD,zV,zT,zW];refine .go (cr c4) ?_;simp only [simprocAttr,-ZA,↓zU,↓zD,zV,zT,zW];refine .go (cr c5) ?_;simp only [simprocAttr,-ZA,↓zU,↓zD,zV,zT,zW];refine .go (cr c6) ?_;simp only [simprocAttr,-ZA,↓zU,↓zD,zV,zT,zW];refine .go (xY.yM hV (by simp [D.xU,D.xL,hdp])) ?_;simp only [simprocAttr,-ZA,↓zU,↓zD,zV,zT,zW];refine .go (cq hD) ?_;simp only [simprocAttr,-ZA,↓zU,↓zD,zV,zT,zW];refine .go (cr c4) ?_;simp only [simprocAttr,-ZA,↓zU,↓zD,zV,zT,zW];refine .go (xY.yM hH (by simp [D.xU,D.xL,hdp])) ?_;simp only [simprocAttr,-ZA,↓zU,↓zD,zV,zT,zW]
 (repeat refine sd ?_)
 refine .go (cr hP) ?_;simp only [simprocAttr,-ZA,↓zU,↓zD,zV,zT,zW,w0]
 (repeat refine sd ?_)
 refine .go (cr hS) ?_;simp only [simprocAttr,-ZA,↓zU,↓zD,zV,zT,zW];refine .go (cr hR) ?_;simp only [simprocAttr,-ZA,↓zU,↓zD,zV,zT,zW];exact .dv
open Rs Fm Ru Te Kb
theorem aKw (p:PrA) (f:List Nd) (n:Nat) (hn:n<256) (hm:∀ s ∈ p.xF,s.length<=4400000000000):yB Tryz.prog 12 [p.d,.sl 6 (ndR f),.int .u8 (n:Int)] (.bool true):=by
 have hD:p.d = .agg [.int .i64 p.F,.sl 1 (us p.init),.sl 1 (us p.see),.sl 1 (mvR p.xF),.sl 1 (cdR p.code)]:=rfl;have hA:=aEt;have hP:=fun sm=>aCi p sm ((n % 4+1:Nat):Int);have e1:IntKind.i64.wrap (n:Int)= (n:Int):=wrap_i64 (by omega)
 have e2:((n:Int)).tmod 4=((n % 4:Nat):Int):=by rw [Int.tmod_eq_emod_of_nonneg (by omega)]; omega
 have e3:IntKind.i64.wrap (1+((n % 4:Nat):Int))= ((n % 4+1:Nat):Int):=by rw [wrap_i64 (by omega)]; omega
 by_cases c1:20<f.length
 ·have c1':(20:Int)<(f.length:Int):=by omega
  rw [hD] at *;refine xY.xR mixed Tryz.func12 k12 (by simp) fun hf=>?_;simp only [simprocAttr,-ZA,↓zU,↓zD,zV,zT,zW,xI,e1,e2,e3,c1']
  (repeat refine sd ?_)
  refine .go (cq hA) ?_;simp only [simprocAttr,-ZA,↓zU,↓zD,zV,zT,zW];exact .dv
 have c1':¬ (20:Int)<(f.length:Int):=by omega
 by_cases c2:6<p.init.length
 ·have c2':(6:Int)<(p.init.length:Int):=by omega
  rw [hD] at *;refine xY.xR mixed Tryz.func12 k12 (by simp) fun hf=>?_;simp only [simprocAttr,-ZA,↓zU,↓zD,zV,zT,zW,xI,xK,e1,e2,e3,c1',c2']
  (repeat refine sd ?_)
  refine .go (cq hA) ?_;simp only [simprocAttr,-ZA,↓zU,↓zD,zV,zT,zW];exact .dv
 have c2':¬ (6:Int)<(p.init.length:Int):=by omega
 by_cases c3:4<p.code.length
 ·have c3':(4:Int)<(p.code.length:Int):=by omega
  rw [hD] at *;refine xY.xR mixed Tryz.func12 k12 (by simp) fun hf=>?_;simp only [simprocAttr,-ZA,↓zU,↓zD,zV,zT,zW,xI,xK,tJ,e1,e2,e3,c1',c2',c3']
  (repeat refine sd ?_)
  refine .go (cq hA) ?_;simp only [simprocAttr,-ZA,↓zU,↓zD,zV,zT,zW];exact .dv
 have c3':¬ (4:Int)<(p.code.length:Int):=by omega
 have sm:aZl p:=⟨by omega,by omega,hm⟩;have hP:=hP sm;by_cases hz:qU p=0
 case neg=>
  have h0:aVz p ((n % 4+1:Nat):Int)= qU p:=by unfold aVz; rw [if_pos hz]
  have h0':gI p ((n % 4+1:Nat):Int)= ⟨0,0,0,[]⟩:=by unfold gI; rw [if_pos (by rw [h0]; exact hz)]
  have hz':(qU p != 0)= true:=by simpa using hz
  rw [h0,h0'] at hP;unfold tZ.d tZ.cells at hP;rw [hD] at *;refine xY.xR mixed Tryz.func12 k12 (by simp) fun hf=>?_;simp only [simprocAttr,-ZA,↓zU,↓zD,zV,zT,zW,xI,xK,tJ,e1,e2,e3,c1',c2',c3']
  (repeat refine sd ?_)
  refine .go (cq hP) ?_;simp only [simprocAttr,-ZA,↓zU,↓zD,zV,zT,zW,hz']
  (repeat refine sd ?_)
  refine .go (cq hA) ?_;simp only [simprocAttr,-ZA,↓zU,↓zD,zV,zT,zW];exact .dv
 obtain⟨h0,F,hv,hs⟩:=aOb (k:=n % 4) hz (by omega);have hPS:=fV hv (n % 4);have ok:=aDv hv (show n % 4<=5 by omega) hPS;have hsy:=aH4 hv (show n % 4<=5 by omega) hPS;have hre:=aBp hPS;have h39:=aDw ⟨p.see.length,F,((n % 4+1:Nat):Int),iC p.see (vL p (n % 4)) (n % 4+1)⟩;have h40:=aZ4 ok;have h44:=aTc ⟨p.see.length,F,((n % 4+1:Nat):Int),iC p.see (vL p (n % 4)) (n % 4+1)⟩ f;have h49:=fun g=>aLt ⟨p.see.length,F,((n % 4+1:Nat):Int),iC p.see (vL p (n % 4)) (n % 4+1)⟩ g;rw [hsy] at h39;rw [hre] at h40;rw [h0,hs] at hP;have hA4:=hv.hA;unfold tZ.d tZ.cells at hP h39 h44 h49;unfold sD at h40;simp only at hP h39 h44 h49;clear hs;generalize iC p.see (vL p (n % 4)) (n % 4+1)= rs at *;by_cases hE:kF ⟨p.see.length,F,((n % 4+1:Nat):Int),rs⟩ f=0
 case neg=>
  have hE':(kF ⟨p.see.length,F,((n % 4+1:Nat):Int),rs⟩ f != 0)= true:=by simpa using hE
  rw [hD] at *;refine xY.xR mixed Tryz.func12 k12 (by simp) fun hf=>?_;simp only [simprocAttr,-ZA,↓zU,↓zD,zV,zT,zW,xI,xK,tJ,e1,e2,e3,c1',c2',c3']
  (repeat refine sd ?_)
  refine .go (cq hP) ?_;simp only [simprocAttr,-ZA,↓zU,↓zD,zV,zT,zW]
  (repeat refine sd ?_)
  refine .go (cq h39) ?_;simp only [simprocAttr,-ZA,↓zU,↓zD,zV,zT,zW];refine .go (cq h40) ?_;simp only [simprocAttr,-ZA,↓zU,↓zD,zV,zT,zW];refine .go (cq h44) ?_;simp only [simprocAttr,-ZA,↓zU,↓zD,zV,zT,zW,hE'];refine .go (cq hA) ?_;simp only [simprocAttr,-ZA,↓zU,↓zD,zV,zT,zW];exact .dv
 have I:=Is.start rfl (mQ ok) ok hE;have hsz:szT (uQ f)<=20:=Nat.le_trans (bUi I.c) (by omega);have hV1:=fun a (ha:a<p.see.length)=>aTr ok hsy hre I hsz ha;have hV2:=fun a (ha:a<p.see.length)=>aE6 ok hsy hre I hsz ha
 have h49:∀ g,lV ⟨p.see.length,F,((n % 4+1:Nat):Int),rs⟩ g=true->yB Tryz.prog 49 [.agg [.int .i64 (p.see.length:Int),.int .i64 (F:Int),.int .i64 ((n % 4+1:Nat):Int),.sl 2 (vF rs)],.sl 6 (ndR g)] (.tup [.bool true,.int .i64 0]):=fun g hg=>by have:=h49 g;rw [hg,(aZt.1 hg).1] at this;exact this
 rw [hE] at h44;rw [hD] at *;refine xY.xR mixed Tryz.func12 k12 (by simp) fun hf=>?_;simp only [simprocAttr,-ZA,↓zU,↓zD,zV,zT,zW,xI,xK,tJ,e1,e2,e3,c1',c2',c3']
 (repeat refine sd ?_)
 refine .go (cq hP) ?_;simp only [simprocAttr,-ZA,↓zU,↓zD,zV,zT,zW]
 (repeat refine sd ?_)
 refine .go (cq h39) ?_;simp only [simprocAttr,-ZA,↓zU,↓zD,zV,zT,zW];refine .go (cq h40) ?_;simp only [simprocAttr,-ZA,↓zU,↓zD,zV,zT,zW];refine .go (cq h44) ?_;simp only [simprocAttr,-ZA,↓zU,↓zD,zV,zT,zW]
 refine xQ (fun a:Nat=>[(12,.int .i64 a),(8,.ref 1 4 0 0),(1,.sl 6 (ndR f))])
  (fun _=>⟨2,[(1,⟨4,[[.int .i64 p.see.length,.int .i64 F,.int .i64 ((n % 4+1:Nat):Int),.sl 2 (vF rs)]]⟩),(0,⟨5,[[.int .i64 p.F,.sl 1 (us p.init),.sl 1 (us p.see),.sl 1 (mvR p.xF),.sl 1 (cdR p.code)]]⟩)]⟩)
  (fun a=>a<=p.see.length) (fun a=>p.see.length-a) 0 (Nat.zero_le _) ?_ ?_
 ·(refine xM.same ?_; simp [xP,Fr.get])
 intro a ha;refine xN mixed ?_;by_cases hal:a<p.see.length
 case neg=>
  have hd:¬ ((a:Int)<(p.see.length:Int)):=by omega
  simp only [simprocAttr,-ZA,↓zU,↓zD,zV,zT,zW,hd];refine .go (cq hA) ?_;simp only [simprocAttr,-ZA,↓zU,↓zD,zV,zT,zW];exact .dv
 have hd:((a:Int)<(p.see.length:Int)):=by omega
 have hd4:((a:Int)<4):=by omega
 have v1:=h49 _ (hV1 a hal);have v2:=h49 _ (hV2 a hal);have k1:=aZn a f;have k2:=aSt f;have k3:=aZn a (tQ f);have k4:=aSt (wB a f);have k5:=aC9 (wB a (tQ f)) (tQ (wB a f));have k6:=aCh (wB a f);have k7:=aCh f;have k8:=aZn a (iH f);have k9:=aC9 (iH (wB a f)) (wB a (iH f));generalize aI0 (wB a (tQ f)) (tQ (wB a f))= x1 at *;generalize aI0 (iH (wB a f)) (wB a (iH f))= x2 at *;generalize wB a (tQ f)= x3 at *;generalize wB a (iH f)= x4 at *;generalize iH (wB a f)= x5 at *;generalize tQ (wB a f)= x6 at *;generalize wB a f=x7 at *;generalize tQ f=x8 at *;generalize iH f=x9 at *;simp only [simprocAttr,-ZA,↓zU,↓zD,zV,zT,zW,hd,hd4];refine .go (cq k1) ?_;simp only [simprocAttr,-ZA,↓zU,↓zD,zV,zT,zW];refine .go (cq k2) ?_;simp only [simprocAttr,-ZA,↓zU,↓zD,zV,zT,zW];refine .go (cq k3) ?_;simp only [simprocAttr,-ZA,↓zU,↓zD,zV,zT,zW];refine .go (cq k4) ?_;simp only [simprocAttr,-ZA,↓zU,↓zD,zV,zT,zW];refine .go (cq k5) ?_;simp only [simprocAttr,-ZA,↓zU,↓zD,zV,zT,zW];refine .go (cq k6) ?_;simp only [simprocAttr,-ZA,↓zU,↓zD,zV,zT,zW];refine .go (cq k7) ?_;simp only [simprocAttr,-ZA,↓zU,↓zD,zV,zT,zW];refine .go (cq k8) ?_;simp only [simprocAttr,-ZA,↓zU,↓zD,zV,zT,zW];refine .go (cq k9) ?_;simp only [simprocAttr,-ZA,↓zU,↓zD,zV,zT,zW];refine .go (cq v1) ?_;simp only [simprocAttr,-ZA,↓zU,↓zD,zV,zT,zW];refine .go (cq v2) ?_;simp only [simprocAttr,-ZA,↓zU,↓zD,zV,zT,zW];refine⟨a+1,hal,?_,by omega⟩
 (refine xM.same ?_; simp only [xP,Fr.get,simprocAttr,-ZA,zS])
 exact qJ (by omega)
end Go.Pd

/- Part XW. -/
namespace Go.Pd
open Go
open Go.ChangeShapes Go.WideShapes Go.ChangeAt Go.RowKit
mutual
def vH (B:Nat) (P:Program):Nat->TypeId->List D->Prop
 | 0,_,_=>False
 | n+1,t,ds=>match P.underlying t with
  | some .bool=>∃ b,ds = [.bool b]
  | some (.int k)=>∃ i,ds = [.int k i]
  | some .string=>∃ s,ds = [.str s]
  | some (.slice e)=>∃ els,ds = [.sl (P.cellsOf e) els]/\els.length*P.bytesOf e<=B/\∀ row ∈ els,vH B P n e row
  | some (.struct fs)=>uN B P n (fs.toList.map fun f=>f.type) ds
  | some (.array k e)=>uN B P n (List.replicate k e) ds
  | _=>False
def uN (B:Nat) (P:Program):Nat->List TypeId->List D->Prop
 | _,[],ds=>ds = []
 | n,f :: fs,ds=>∃ a b,ds=a++b/\vH B P n f a/\uN B P n fs b
end
def mU (B:Nat) (P:Program) (n:Nat) (t:TypeId) (d:D):Prop:=
 match P.underlying t with
 | some (.struct _)=>∃ ds,d = .agg ds/\vH B P n t ds
 | some (.array _ _)=>∃ ds,d = .agg ds/\vH B P n t ds
 | _=>vH B P n t [d]
def aUl (B:Nat) (P:Program) (n:Nat):List TypeId->List D->Prop
 | [],asx=>asx = []
 | t :: ts,asx=>∃ a r,asx=a :: r/\mU B P n t a/\aUl B P n ts r
theorem rK {H:Type} {P:Program} {e:TypeId} {d:DataW H} {k:Nat}:∀ {l:List (DataW H)},d ∈ l->k ∈ d.weights P e->k ∈ DataW.weightsAll P e l
 | x :: l,h,hk=>by
  rw [DataW.weightsAll]
  rcases List.mem_cons.1 h with rfl | h
  ·exact List.mem_append_left _ hk
  ·exact List.mem_append_right _ (rK h hk)
section
variable {B : Nat} {P : Program}
theorem fC {n:Nat} (key:∀ t ds,vH B P n t ds->zX P n t ds):∀ (l:List TypeId) (ds:List D),uN B P n l ds->pM P n l ds
 | [],ds,h=>by simpa [uN,pM] using h
 | f :: l,ds,h=>by simp only [uN] at h;simp only [pM];obtain⟨a,b,e,h1,h2⟩:=h;exact⟨a,b,e,key _ _ h1,fC key l b h2⟩
theorem rD : ∀ (n:Nat) (t:TypeId) (ds:List D),vH B P n t ds->zX P n t ds
 | 0,t,ds,h=>by simp [vH] at h
 | n+1,t,ds,h=>by
  unfold vH at h;unfold zX
  split at h
  ·rename_i hu; simp only [hu]; exact h
  ·rename_i k hu; simp only [hu]; exact h
  ·rename_i hu; simp only [hu]; exact h
  ·rename_i e hu;simp only [hu];obtain⟨els,e,_,h2⟩:=h;exact⟨els,e,fun row hr=>rD n _ row (h2 row hr)⟩
  ·rename_i fs hu; simp only [hu]; exact fC (rD n) _ _ h
  ·rename_i k e hu; simp only [hu]; exact fC (rD n) _ _ h
  ·exact h.elim
theorem fD {n:Nat} {t:TypeId} {d:D} (h:mU B P n t d):iR P n t d:=by
 unfold mU at h;unfold iR
 split at h <;> rename_i hu <;> simp only [hu]
 ·obtain⟨ds,e,h1⟩:=h;exact⟨ds,e,rD _ _ _ h1⟩
 ·obtain⟨ds,e,h1⟩:=h;exact⟨ds,e,rD _ _ _ h1⟩
 ·exact rD _ _ _ h
end
section
variable {H : Type} {enc : TypeId × Value -> H} {P : Program} {w : World} {sp : Nat -> Bool} {held : Bool} {B : Nat}
theorem aP {n:Nat} (key:∀ (t:TypeId) (cs:List Value) (fuel:Nat) (x:DataW H × List MemPlace),sQ P n t=true->DataW.trod enc P w 0 sp held fuel t cs=some x->(∀ k ∈ x.1.weights P t,k<=B)->∃ ds,aNf w cs ds/\vH B P n t ds) {cs:List Value} {fuel:Nat} :
  ∀ (fl:List Field) (o:Nat),(fl.all fun f=>sQ P n f.type)= true->aZk (fl.map fun f=>(f.offset,P.cellsOf f.type)) o cs.length=true ->
   (∀ f ∈ fl,∃ x,DataW.trod enc P w 0 sp held fuel f.type ((cs.drop f.offset).take (P.cellsOf f.type))= some x/\∀ k ∈ x.1.weights P f.type,k<=B)->∃ ds,aNf w (cs.drop o) ds/\uN B P n (fl.map fun f=>f.type) ds
 | [],o,_,hc,_=>by simp only [List.map_nil,aZk,beq_iff_eq] at hc;subst hc;exact⟨[],by simp [aNf],by simp [uN]⟩
 | f :: fl,o,hp,hc,hx=>by
  simp only [List.all_cons,Bool.and_eq_true] at hp;simp only [List.map_cons,aZk,Bool.and_eq_true,beq_iff_eq] at hc;obtain⟨x,h1,hk⟩:=hx f (by simp);obtain⟨a,ha,hsa⟩:=key _ _ _ _ hp.1 h1 hk;obtain⟨b,hb,hsb⟩:=aP key fl (o+P.cellsOf f.type) hp.2 hc.2 fun g hg=>hx g (by simp [hg]);refine⟨a++b,?_,by simp only [List.map_cons,uN]; exact⟨a,b,rfl,hsa,hsb⟩⟩;rw [hc.1] at ha
  have e:cs.drop o=(cs.drop o).take (P.cellsOf f.type)++ cs.drop (o+P.cellsOf f.type):=by rw [<- List.drop_drop,List.take_append_drop]
  rw [e];exact dR ha hb
theorem aLq {n:Nat} (key:∀ (t:TypeId) (cs:List Value) (fuel:Nat) (x:DataW H × List MemPlace),sQ P n t=true->DataW.trod enc P w 0 sp held fuel t cs=some x->(∀ k ∈ x.1.weights P t,k<=B)->∃ ds,aNf w cs ds/\vH B P n t ds) {cs:List Value} {fuel:Nat} {e:TypeId} (hp:sQ P n e=true) :
  ∀ (k o:Nat),cs.length=(o+k)* P.cellsOf e ->
   (∀ i,o<=i->i<o+k->∃ x,DataW.trod enc P w 0 sp held fuel e ((cs.drop (i*P.cellsOf e)).take (P.cellsOf e))= some x/\∀ k ∈ x.1.weights P e,k<=B)->∃ ds,aNf w (cs.drop (o*P.cellsOf e)) ds/\uN B P n (List.replicate k e) ds
 | 0,o,hl,_=>⟨[],by rw [List.drop_eq_nil_of_le (by rw [hl]; simp)]; simp [aNf],by simp [uN]⟩
 | k+1,o,hl,hx=>by
  obtain⟨x,h1,hk⟩:=hx o (Nat.le_refl _) (by omega);obtain⟨a,ha,hsa⟩:=key _ _ _ _ hp h1 hk;obtain⟨b,hb,hsb⟩:=aLq key hp k (o+1) (by rw [hl]; congr 1; omega) fun i h1 h2=>hx i (by omega) (by omega);refine⟨a++b,?_,by simp only [List.replicate_succ,uN]; exact⟨a,b,rfl,hsa,hsb⟩⟩
  have e1:cs.drop (o*P.cellsOf e)= (cs.drop (o*P.cellsOf e)).take (P.cellsOf e)++ cs.drop ((o+1)* P.cellsOf e):=by rw [Nat.succ_mul,<- List.drop_drop,List.take_append_drop]
  rw [e1];exact dR ha hb
theorem gX : ∀ (n:Nat) (t:TypeId) (cs:List Value) (fuel:Nat) (x:DataW H × List MemPlace),sQ P n t=true->DataW.trod enc P w 0 sp held fuel t cs=some x->(∀ k ∈ x.1.weights P t,k<=B)->∃ ds,aNf w cs ds/\vH B P n t ds
 | 0,t,cs,fuel,x,hp,_,_=>by simp [sQ] at hp
 | n + 1,t,cs,fuel,x,hp,h,hk=>by
  unfold sQ at hp;unfold vH
  split at hp
  ·rename_i hu;simp only [hu];obtain⟨b,rfl,_⟩:=DataW.trod_bool hu h;exact⟨[.bool b],⟨rfl,fun j hj=>by simp at hj; subst hj; exact .bool b⟩,⟨b,rfl⟩⟩
  ·rename_i k hu;simp only [hu];obtain⟨i,rfl,_,hw⟩:=DataW.trod_int hu h;refine⟨[.int k i],⟨rfl,fun j hj=>?_⟩,⟨i,rfl⟩⟩;simp at hj; subst hj;simp only [Lit.wf,Bool.and_eq_true,decide_eq_true_eq] at hw;exact .int hw
  ·rename_i hu;simp only [hu];obtain⟨s,rfl,_,hs⟩:=DataW.trod_string hu h;exact⟨[.str s],⟨rfl,fun j hj=>by simp at hj; subst hj; exact .str hs⟩,⟨s,rfl⟩⟩
  ·rename_i e hu;simp only [hu];simp only [Bool.and_eq_true,decide_eq_true_eq] at hp
   rcases Deep.open_slice hu h with ⟨rfl,_⟩ | ⟨a,len,cap,m,fu,Dd,Pl,rfl,_,hl,hm,hmm,hxe,hx⟩
   ·exact⟨[.sl (P.cellsOf e) []],⟨rfl,fun j hj=>by simp at hj; subst hj; exact .sl0 none 0 _ (fun _=>rfl)⟩,⟨[],rfl,by simp,by simp⟩⟩
   ·have hle:len<=m:=by rw [hmm]; split <;> omega
    have hwt:x.1.weights P t=((List.range len).map Dd++((List.range (m-len)).map fun j=>Dd (len+j))).length*P.bytesOf e :: (DataW.weightsAll P e ((List.range len).map Dd)++ DataW.weightsAll P e ((List.range (m-len)).map fun j=>Dd (len+j))):=by rw [hxe];simp [DataW.weights,hu]
    have hB:len*P.bytesOf e<=B:=by refine Nat.le_trans (Nat.mul_le_mul_right _ ?_) (hk _ (by rw [hwt]; exact List.mem_cons_self));simp
    have hkE:∀ i,i<len->∀ k ∈ (Dd i).weights P e,k<=B:=fun i hi k hk2=>hk k (by rw [hwt];exact List.mem_cons_of_mem _ (List.mem_append_left _ (rK (List.mem_map.2 ⟨i,List.mem_range.2 hi,rfl⟩) hk2)))
    by_cases h0:len=0
    ·subst h0;exact⟨[.sl (P.cellsOf e) []],⟨rfl,fun j hj=>by simp at hj; subst hj; exact .sl0 (some a) cap _ (fun h=>by cases h)⟩,⟨[],rfl,by simp,by simp⟩⟩
    ·obtain⟨f,hf⟩:=Deep.choose_lt (α:=List Value × List D) (n:=len) (p:=fun i y=>w.cells? 0 (a.add (i*P.cellsOf e)) (P.cellsOf e)= some y.1/\aNf w y.1 y.2/\vH B P n e y.2) fun i hi=>by obtain⟨cs',h1,h2⟩:=hx i (by omega);obtain⟨ds,h3,h4⟩:=gX n e cs' fu _ hp.1 h2 (hkE i hi);exact⟨(cs',ds),h1,h3,h4⟩
     have hcells:∀ i,i<len->∀ j,j<P.cellsOf e->w.cell? ((a.add (i*P.cellsOf e)).add j)= some ((f i).1.getD j undef):=by intro i hi j hj;obtain⟨_,h2,h3⟩:=World.cells?_some (hf i hi).1;rw [h3 j hj];simp [List.getD,show j<(f i).1.length by omega]
     have hlen:∀ i,i<len->(f i).1.length=P.cellsOf e:=fun i hi=>(World.cells?_some (hf i hi).1).2.1
     have hspot:a.spot=none:=by have:=World.cell?_spot (hcells 0 (by omega) 0 hp.2);simpa [Addr.add] using this
     obtain⟨b,off,spot⟩:=a;simp only at hspot;subst hspot
     have hadd:∀ i j,((⟨b,off,none⟩:Addr).add i).add j=⟨b,off+i+j,none⟩:=by
      intro i j;rw [Deep.add_add];unfold Addr.add
      by_cases h:i+j=0
      ·have h1:i=0:=by omega
       have h2:j=0:=by omega
       subst h1; subst h2; rfl
      ·rw [if_neg h]; simp [Nat.add_assoc]
     have els:∀ i,i<len->((List.range len).map fun i=>(f i).2).getD i []=(f i).2:=by intro i hi;simp [List.getD,hi]
     refine⟨[.sl (P.cellsOf e) ((List.range len).map fun i=>(f i).2)],⟨rfl,fun j hj=>?_⟩,⟨_,rfl,by simpa using hB,?_⟩⟩
     ·simp at hj; subst hj;simp only [List.getD_cons_zero]
      have:=RP.sl (M:=fun _=>False) (w:=w) (b:=b) (off:=off) (cap:=cap) (sz:=P.cellsOf e) (els:=(List.range len).map fun i=>(f i).2) (fun i j=>(f i).1.getD j undef) hp.2 (fun h=>h) (by simpa using hl) hm ?_ ?_ ?_
      ·simpa using this
      ·intro x hx';simp only [List.mem_map,List.mem_range] at hx';obtain⟨i,hi,rfl⟩:=hx';rw [(hf i hi).2.1.1,hlen i hi]
      ·intro i hi j hj;have hi':i<len:=by simpa using hi
       have:=hcells i hi' j hj;rw [hadd] at this;exact this
      ·intro i hi j hj;have hi':i<len:=by simpa using hi
       rw [els i hi'];exact(hf i hi').2.1.2 j (by rw [(hf i hi').2.1.1,hlen i hi']; exact hj)
     ·intro row hrow;simp only [List.mem_map,List.mem_range] at hrow;obtain⟨i,hi,rfl⟩:=hrow;exact(hf i hi).2.2
  ·rename_i fs hu;simp only [hu];simp only [Bool.and_eq_true] at hp;obtain⟨xs,n',_,hxe,hlen,hsz,hf⟩:=DataW.trod_struct hu h;rw [<- hlen] at hp
   obtain⟨ds,h1,h2⟩:=aP (fun t cs fuel x=>gX n t cs fuel x) (fuel:=n') fs.toList 0 hp.1 hp.2 fun g hg=>by
    obtain⟨i,hi,rfl⟩:=List.getElem_of_mem hg;have hi':i<fs.size:=by simpa using hi
    have:=hf i fs[i] (by simp [hi'])
    refine⟨xs[i]'(by omega),?_,fun k hk2=>hk k ?_⟩
    ·simp only [Array.getElem_toList];rw [this];simp [show i<xs.length by omega]
    ·rw [hxe];simp only [DataW.weights,hu];exact DataW.weights_mem_each (j:=i) (t:=fs.toList[i].type) (d:=(xs[i]'(by omega)).1) (by simp [hi']) (by simp [show i<xs.length by omega]) k hk2
   exact⟨ds,by simpa using h1,h2⟩
  ·rename_i k e hu;simp only [hu];simp only [Bool.and_eq_true,beq_iff_eq] at hp;obtain⟨xs,m,_,hxe,hlen,hxs,hf⟩:=DataW.trod_array hu h
   obtain⟨ds,h1,h2⟩:=aLq (fun t cs fuel x=>gX n t cs fuel x) (fuel:=m) hp.1 k 0 (by rw [hlen,hp.2]; simp) fun i _ hi=>by
    have:=hf i (by omega)
    refine⟨xs[i]'(by omega),?_,fun k hk2=>hk k ?_⟩
    ·rw [this];simp [show i<xs.length by omega]
    ·rw [hxe];simp only [DataW.weights,hu];exact rK (List.mem_map.2 ⟨_,List.getElem_mem (by omega),rfl⟩) hk2
   exact⟨ds,by simpa using h1,h2⟩
  ·cases hp
end
section
variable {H : Type} {enc : TypeId × Value -> H} {P : Program} {w : World} {sp : Nat -> Bool} {held : Bool} {B : Nat}
theorem bXy {n:Nat} {b:Nat} {t:TypeId} {v:Value} {d:DataW H} {ps:List MemPlace} (hp:sQ P n t=true) (hv:Value.okWide P w .any b t v) (h:DataW.Trod enc P w 0 sp held t v d ps) (hk:∀ k ∈ d.weights P t,k<=B):∃ a,RP (fun _=>False) w v a/\mU B P n t a:=by
 obtain⟨fuel,h⟩:=h;obtain⟨ds,h1,h2⟩:=gX n t _ fuel _ hp h hk;unfold mU
 split
 ·rename_i fs hu;obtain⟨cs,rfl,_⟩:=okWide_struct hu hv;refine⟨.agg ds,.agg (by rw [h1.1]; rfl) fun j hj=>?_,ds,rfl,h2⟩;have:=h1.2 j hj
  have e:(Value.agg cs).cells.toList.getD j undef=cs.getD j undef:=by simp [Value.cells,List.getD,Array.getD];by_cases hj:j<cs.size <;> simp [hj]
  rw [e] at this;exact this
 ·rename_i k e hu;obtain⟨cs,rfl,_⟩:=aVo hu hv;refine⟨.agg ds,.agg (by rw [h1.1]; rfl) fun j hj=>?_,ds,rfl,h2⟩;have:=h1.2 j hj
  have e:(Value.agg cs).cells.toList.getD j undef=cs.getD j undef:=by simp [Value.cells,List.getD,Array.getD];by_cases hj:j<cs.size <;> simp [hj]
  rw [e] at this;exact this
 ·rename_i hns hna
  have one:∃ x,ds = [x]:=by
   cases n with
   | zero=>simp [sQ] at hp
   | succ n=>
    unfold vH at h2
    split at h2
    ·obtain⟨b,rfl⟩:=h2; exact⟨_,rfl⟩
    ·obtain⟨b,rfl⟩:=h2; exact⟨_,rfl⟩
    ·obtain⟨b,rfl⟩:=h2; exact⟨_,rfl⟩
    ·obtain⟨b,rfl,_⟩:=h2; exact⟨_,rfl⟩
    ·rename_i fs hu; exact absurd hu (hns fs)
    ·rename_i k e hu; exact absurd hu (hna k e)
    ·cases h2
  obtain⟨x,rfl⟩:=one;refine⟨x,?_,h2⟩;have hx:=h1.2 0 (by simp);simp only [List.getD_cons_zero] at hx;have hlen:=h1.1
  cases v with
  | agg cs=>
   exfalso;unfold Value.okWide at hv
   split at hv
   ·rename_i fs hu; exact absurd hu (hns fs)
   ·rename_i k e hu; exact absurd hu (hna k e)
   ·rename_i h3 h4
    cases n with
    | zero=>simp [sQ] at hp
    | succ n=>
     unfold sQ at hp;unfold Cell.okWide at hv;split at hp <;> rename_i hu <;> simp [hu,Cell.ok] at hv
     all_goals first | exact absurd hu (hns _) | exact absurd hu (hna _ _) | cases hp
  | _=>simpa [Value.cells] using hx
theorem aQp {n:Nat} {b:Nat}:∀ {ts:List TypeId} {vs:List Value} {ds:List (DataW H)} {ps:List MemPlace},(ts.all fun t=>sQ P n t)= true->(∀ (j:Nat) t v,ts[j]?=some t->vs[j]?=some v->Value.okWide P w .any b t v) ->
  DataW.TrodAll enc P w 0 sp held ts vs ds ps->(∀ k ∈ DataW.weightsEach P ts ds,k<=B)->∃ asx,asx.length=vs.length/\vs.length=ts.length/\ds.length=ts.length/\(∀ j,j<asx.length->RP (fun _=>False) w (vs.getD j undef) (asx.getD j .top))/\ aUl B P n ts asx
 | [],vs,ds,ps,_,_,h,_=>by obtain⟨rfl,rfl,rfl⟩:=trodAll_nil h;exact⟨[],rfl,rfl,rfl,fun j hj=>by simp at hj,rfl⟩
 | t :: ts,vs,ds,ps,hp,hv,h,hk=>by
  obtain⟨v,vs',d,ds',p,q,rfl,rfl,rfl,h1,h2⟩:=trodAll_cons h;simp only [List.all_cons,Bool.and_eq_true] at hp;obtain⟨a,r1,s1⟩:=bXy hp.1 (hv 0 t v rfl rfl) h1 (fun k hk2=>hk k (List.mem_append_left _ hk2));obtain⟨asx,l1,l2,l3,r2,s2⟩:=aQp hp.2 (fun j t v h1 h2=>hv (j+1) t v h1 h2) h2 (fun k hk2=>hk k (List.mem_append_right _ hk2));refine⟨a :: asx,by simp [l1],by simp [l2],by simp [l3],fun j hj=>?_,a,asx,rfl,s1,s2⟩
  cases j with
  | zero=>exact r1
  | succ j=>exact r2 j (by simpa using hj)
end
end Go.Pd
