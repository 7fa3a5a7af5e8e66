/- Part C8. -/
import Derived.Test.YtndfaefmmcoapaaGreatKaC6
import Derived.Test.YtndfaefmmcoapaaGreatKaKG
set_option linter.unusedSectionVars false
set_option linter.unusedVariables false
set_option linter.unusedSimpArgs false
set_option linter.defProp false
set_option maxRecDepth 20000
set_option maxHeartbeats 1000000
namespace Go.Pd
open Go Go.Proofs
open Int renaming reduceToNat -> ZA, reduceLT -> ZB, reduceLE -> ZC, reduceBEq -> ZD, reduceBNe -> ZE
open Nat renaming reduceEqDiff -> ZF, reduceAdd -> ZG, reduceBEq -> ZH, reduceLT -> ZI, reduceLeDiff -> ZJ, reduceMul -> ZK
open Rs Fm Ru Te
theorem aPw {m:pR} {W:Nat} (ok:oN m W) {f:List Nd} (hc:xH f=0) (hfr:(rQ .andNot .i64 (zY f:Int) 15 != 0)= false) (hft:sV f m.R.length m.V.length=true):yX Tryz.prog 176 [m.d,.sl 6 (ndR f)] (.int .i64 0):=by
 have h1:=fM ok;have h2:=oA f;have h3:=aQ4 f;have h4:=aIi f m.R.length m.V.length;rw [hc] at h2;rw [hft] at h4;unfold pR.d at h1 ⊢;refine xX.go_fn mixed Tryz.func176 bX8 (by simp) fun hf=>?_;simp only [ZA,ZB,ZC,ZD,ZE,↓reduceIte,ZF,ZG,ZH,ZI,ZJ,reduceCtorEq,ZK,↓zU,↓zD,zV,zT,zW]
 (repeat refine sd ?_)
 refine .go (cr h1) ?_;simp only [ZA,ZB,ZC,ZD,ZE,↓reduceIte,ZF,ZG,ZH,ZI,ZJ,reduceCtorEq,ZK,↓zU,↓zD,zV,zT,zW];refine .go (cr h2) ?_;simp only [ZA,ZB,ZC,ZD,ZE,↓reduceIte,ZF,ZG,ZH,ZI,ZJ,reduceCtorEq,ZK,↓zU,↓zD,zV,zT,zW];refine .go (cr h3) ?_;simp only [ZA,ZB,ZC,ZD,ZE,↓reduceIte,ZF,ZG,ZH,ZI,ZJ,reduceCtorEq,ZK,↓zU,↓zD,zV,zT,zW,hfr,yF,xR]
 (repeat refine sd ?_)
 refine .go (cr h4) ?_;simp only [ZA,ZB,ZC,ZD,ZE,↓reduceIte,ZF,ZG,ZH,ZI,ZJ,reduceCtorEq,ZK,↓zU,↓zD,zV,zT,zW];exact .drop (by simp) (by simp [vw])
namespace Te
def tO (A F:Nat):Tr->Bool
 | .nil=>true
 | .nd op i e g x y=>rS A F ⟨op,i,e,g,0,0⟩&& (tO A F x&&tO A F y)
def aUt (rs:List wO) (A F T:Nat) (t:Tr):BitVec 64:=if tO A F t=true then qQ T (rs.length*T) (evT rs A T t) else 0#64
def aCz (rs:List wO) (A F T:Nat) (t:Tr):Tab:=if tO A F t=true then evT rs A T t else fun _=>false
theorem aM8 (rs:List wO) (A F T:Nat) (hW:rs.length*T<=64) (t:Tr):aUt rs A F T t=qQ T (rs.length*T) (aCz rs A F T t):=by
 unfold aUt aCz
 split
 ·rfl
 ·refine mI fun i _=>?_;rw [xC hW,Bool.and_false,BitVec.getLsbD_zero]
theorem aW2 {A F:Nat} {op i e g:Int} (h:rS A F ⟨op,i,e,g,0,0⟩= true):1<=op/\op<=13:=by
 unfold rS at h;simp only at h
 refine⟨Decidable.byContradiction fun hh=>?_,Decidable.byContradiction fun hh=>?_⟩
 ·rw [if_pos (by omega)] at h; cases h
 ·rw [if_neg (by omega),if_neg (by omega),if_neg (by omega),if_neg (by omega),if_neg (by omega)] at h; cases h
theorem aUi {op:Int} (h1:1<=op) (h2:op<=13):(xZ op).1.y=aNs op/\(xZ op).1.x=decide (4<=op):=by
 have:op=1\/op=2\/op=3\/op=4\/op=5\/op=6\/op=7\/op=8\/op=9\/op=10\/op=11\/op=12\/op=13:=by omega
 rcases this with rfl | rfl | rfl | rfl | rfl | rfl | rfl | rfl | rfl | rfl | rfl | rfl | rfl <;> exact⟨rfl,rfl⟩
end Te
theorem aUf {rs:List wO} {A F T:Nat} (ok:OkR rs A F T) (hW:rs.length*T<=64) {f:List Nd} (hc:xH f=0) (hfr:(rQ .andNot .i64 (zY f:Int) 15 != 0)= false) (hft:sV f A F=true) :
  yX Tryz.prog 54 [(lV rs (ptl rs T) A F).d,.sl 6 (ndR f)] (.tup [.int .u64 (ui (aUt rs A F T (lI f))),.int .i64 0]):=by
 have hl:(ptl rs T).length=rs.length*T:=sJ T _;have h1:1<=rs.length*T:=Nat.mul_pos ok.hR.1 ok.hT.1;have hm:=aZa (F:=F) ok (l:=ptl rs T) (by omega) (by omega);rw [hl] at hm;have hRl:(lV rs (ptl rs T) A F).R.length=A:=by show (oU rs (ptl rs T) A).length=A; simp [oU]
 have hVl:(lV rs (ptl rs T) A F).V.length=F:=by show (eR rs (ptl rs T) F).length=F; simp [eR]
 obtain⟨c1,c2,c3⟩:=zJ hc;have hn:0<f.length:=List.length_pos_iff.2 c1;have hreq:=aPw hm hc hfr (by rw [hRl,hVl]; exact hft);have hS:=aCp (sv:=fun k=>aUt rs A F T (tree f k)) (fv:=fun k=>tO A F (tree f k)) hc hreq (fun k hk hok x y hx hy=>?_) fun k hk hno=>?_
 rotate_left
 ·have hnd:=c3 k hk;have ht:=uS c3 hk;unfold okF at hok;dsimp only at hok;generalize f.getD k nd0=n at hnd ht hok hx hy ⊢;rw [aM8 rs A F T hW] at hx hy
  have hcom:n.op=13->n.g<(2 ^ (lV rs (ptl rs T) A F).R.length:Nat)->oR (zZ (lV rs (ptl rs T) A F) n.g.toNat false) (rM (rs.length*T)) x y (rs.length*T+1)= oR (zZ (lV rs (ptl rs T) A F) n.g.toNat false) (rM (rs.length*T)) x y (rs.length*T):=fun h13 hg=>by
   have hu:(xZ n.op).1.x=true/\(xZ n.op).1.y=true/\(xZ n.op).1.gr=true:=by rw [h13]; exact⟨rfl,rfl,rfl⟩
   have h1:=(zP.1 hnd).2.2.2.2;simp only [Bool.or_eq_false_iff,hu.2.2,xT,Bool.true_and,decide_eq_false_iff_not] at h1;rw [hRl] at hg;rw [hx hu.1,hy hu.2.1];exact aFd ok hW (by omega) _ _
  have hv:=aHd hm hnd (x:=x) (y:=y) hcom;have hs:=aMo ok hW (F:=F) hnd hx hy
  have key:(rT (lV rs (ptl rs T) A F) (rs.length*T) n x y)= (aUt rs A F T (tree f k),tO A F (tree f k)):=by
   rw [hs,ht];unfold aUt;show _=(if (rS A F ⟨n.op,n.i,n.e,n.g,0,0⟩&& (tO A F (if (xZ n.op).1.x=true then tree f n.x.toNat else .nil)&& tO A F (if (xZ n.op).1.y=true then tree f n.y.toNat else .nil)))= true then _ else _,rS A F ⟨n.op,n.i,n.e,n.g,0,0⟩&& (tO A F (if (xZ n.op).1.x=true then tree f n.x.toNat else .nil)&& tO A F (if (xZ n.op).1.y=true then tree f n.y.toNat else .nil)));have hst:rS A F ⟨n.op,n.i,n.e,n.g,0,0⟩= rS A F n:=rfl;rw [hst]
   cases hst2:rS A F n with
   | false=>rfl
   | true=>
    obtain⟨o1,o2⟩:=aW2 (hst.trans hst2);obtain⟨uy,ux⟩:=aUi o1 o2;rw [<- uy] at hok
    have fx:(xZ n.op).1.x=true->tO A F (tree f n.x.toNat)= true:=fun h=>by
     rw [ux,decide_eq_true_iff] at h;rw [if_pos h,Bool.and_eq_true] at hok;exact hok.1
    have fy:(xZ n.op).1.y=true->tO A F (tree f n.y.toNat)= true:=fun h=>by
     rw [if_pos h,Bool.and_eq_true] at hok;exact hok.2
    have fx':tO A F (if (xZ n.op).1.x=true then tree f n.x.toNat else .nil)= true:=by
     split
     ·rename_i h; exact fx h
     ·rfl
    have fy':tO A F (if (xZ n.op).1.y=true then tree f n.y.toNat else .nil)= true:=by
     split
     ·rename_i h; exact fy h
     ·rfl
    rw [fx',fy',if_pos rfl,if_pos (show (true&&(true&&true))= true from rfl)];refine Prod.ext ?_ rfl;refine congrArg (qQ T (rs.length*T)) ?_;show _=aU3 rs A T ⟨n.op,n.i,n.e,n.g,0,0⟩ _ _
    refine aOb rfl rfl rfl (fun h=>?_) fun h=>?_
    ·rw [if_pos h,aCz,if_pos (fx h)]
    ·rw [if_pos h,aCz,if_pos (fy h)]
  rw [key] at hv;exact hv
 ·have ht:=uS c3 hk;unfold okF at hno;dsimp only at hno;generalize f.getD k nd0=n at ht hno
  have hf:tO A F (tree f k)= false:=by
   rw [ht];show (rS A F ⟨n.op,n.i,n.e,n.g,0,0⟩&& (tO A F (if (xZ n.op).1.x=true then tree f n.x.toNat else .nil)&& tO A F (if (xZ n.op).1.y=true then tree f n.y.toNat else .nil)))= false
   cases hst:rS A F ⟨n.op,n.i,n.e,n.g,0,0⟩ with
   | false=>rfl
   | true=>
    obtain⟨o1,o2⟩:=aW2 hst;obtain⟨uy,ux⟩:=aUi o1 o2;rw [<- uy] at hno;rw [Bool.true_and]
    by_cases h4:4<=n.op
    ·rw [if_pos h4] at hno;rw [if_pos (by rw [ux,decide_eq_true h4])]
     cases hy:(xZ n.op).1.y with
     | true=>rw [hy,if_pos rfl] at hno; rw [if_pos rfl]; exact hno
     | false=>rw [hy,if_neg (by decide),Bool.and_true] at hno; rw [hno]; rfl
    ·rw [if_neg h4] at hno
     cases hy:(xZ n.op).1.y with
     | true=>rw [hy,if_pos rfl,Bool.true_and] at hno; rw [if_pos rfl,hno,Bool.and_false]
     | false=>rw [hy] at hno; cases hno
  exact⟨by unfold aUt; rw [hf,if_neg (by decide)],hf⟩
 have hlast:((List.range f.length).map fun k=>aUt rs A F T (tree f k)).getD (f.length-1) 0=aUt rs A F T (lI f):=by
  have:f.length-1<f.length:=by omega
  simp [List.getD,this,lI]
 have hlen:((List.range f.length).map fun k=>aUt rs A F T (tree f k)).length=f.length:=by simp
 generalize ((List.range f.length).map fun k=>aUt rs A F T (tree f k))= l at hS hlast hlen;have hg:=zI l (show f.length-1<l.length by omega);rw [hlast] at hg;have hw:IntKind.i64.wrap ((l.length:Int)-1)= ((f.length-1:Nat):Int):=by rw [hlen,wrap_i64 (by omega)]; omega
 have hlt:((f.length-1:Nat):Int)<(l.length:Int):=by omega
 unfold pR.d at hS ⊢;refine xX.go_fn mixed Tryz.func54 k54 (by simp) fun hf=>?_;simp only [ZA,ZB,ZC,ZD,ZE,↓reduceIte,ZF,ZG,ZH,ZI,ZJ,reduceCtorEq,ZK,↓zU,↓zD,zV,zT,zW]
 (repeat refine sd ?_)
 refine .go (cr hS) ?_;simp only [ZA,ZB,ZC,ZD,ZE,↓reduceIte,ZF,ZG,ZH,ZI,ZJ,reduceCtorEq,ZK,↓zU,↓zD,zV,zT,zW,xR,hw,hg,hlt]
 (repeat refine sd ?_)
 exact .drop (by simp) (by simp [vw,vwL])
open Rs Fm Ru Te
namespace Te
def aC4 (rs:List wO) (t:Nat):List wO:=rs.map fun r=>⟨[r.loc.getD t []],[r.fac.getD t 0]⟩
section
variable {rs : List wO} {A F T t : Nat}
theorem aGb {i:Nat} (hi:i<rs.length):(aC4 rs t).getD i nE=⟨[(rs.getD i nE).loc.getD t []],[(rs.getD i nE).fac.getD t 0]⟩:=by
 simp [aC4,List.getD,hi]
theorem aH9 {a i:Nat} (hi:i<rs.length):uT (aC4 rs t) a (i,0)= uT rs a (i,t):=by
 unfold uT;simp only [aGb hi];rfl
theorem rC {R i:Nat} (hi:i<R):(vY R t).getD i (0,0)= (i,t):=by simp [vY,List.getD,hi]
theorem rD (a:Nat) (x:Int):∀ k,k<=rs.length->Ru.relK (aC4 rs t) (vY rs.length 0) a x k=Ru.relK rs (vY rs.length t) a x k
 | 0,_=>rfl
 | k+1,h=>by
  unfold Ru.relK;rw [rD a x k (by omega),rC (by omega),rC (by omega),aH9 (by omega)]
end
end Te
open Rs Fm Ru Te Kb
namespace Kb
def stR (sts:List (List (BitVec 64))) (i:Nat):List (BitVec 64):=sts.getD i []
def aJu (see:List (BitVec 64)) (sts:List (List (BitVec 64))) (t a w:Nat):Nat:=(List.range sts.length).findIdx fun v=>decide (rV see (stR sts v) a t=rV see (stR sts w) a t)
def wM (see:List (BitVec 64)) (sts:List (List (BitVec 64))) (t:Nat):List wO:=(List.range sts.length).map fun w=>⟨[(List.range see.length).map fun a=>((aJu see sts t a w:Nat):Int)],[(stR sts w).getD t 0]⟩
section
variable {see : List (BitVec 64)} {sts : List (List (BitVec 64))} {t : Nat}
theorem nU : (wM see sts t).length=sts.length:=by simp [wM]
theorem jR {i:Nat} (hi:i<sts.length):(wM see sts t).getD i nE=⟨[(List.range see.length).map fun a=>((aJu see sts t a i:Nat):Int)],[(stR sts i).getD t 0]⟩:=by
 simp [wM,List.getD,hi]
theorem nG {n:Nat} {q:Nat->Bool} (h:∃ i,i<n/\q i=true):(List.range n).findIdx q<n/\q ((List.range n).findIdx q)= true:=by
 obtain⟨i,hi,hq⟩:=h;have h1:(List.range n).findIdx q<(List.range n).length:=List.findIdx_lt_length.2 ⟨i,List.mem_range.2 hi,hq⟩;refine⟨by simpa using h1,?_⟩;have:=List.findIdx_getElem (p:=q) (w:=h1);simpa using this
theorem aM {a w:Nat} (hw:w<sts.length):aJu see sts t a w<sts.length/\rV see (stR sts (aJu see sts t a w)) a t=rV see (stR sts w) a t:=by
 have:=nG (n:=sts.length) (q:=fun v=>decide (rV see (stR sts v) a t=rV see (stR sts w) a t)) ⟨w,hw,by simp⟩;refine⟨this.1,?_⟩;have h2:=this.2;simp only [decide_eq_true_eq] at h2;exact h2
theorem aKl {a v w:Nat} (hv:v<sts.length) (hw:w<sts.length):aJu see sts t a v=aJu see sts t a w ↔ rV see (stR sts v) a t=rV see (stR sts w) a t:=by
 constructor
 ·intro h;rw [<- (aM (see:=see) (t:=t) (a:=a) hv).2,<- (aM (see:=see) (t:=t) (a:=a) hw).2,h]
 ·intro h;unfold aJu;rw [h]
theorem dZ {a v w:Nat} (ha:a<see.length) (hv:v<sts.length) (hw:w<sts.length):uT (wM see sts t) a (v,0)= uT (wM see sts t) a (w,0) ↔ rV see (stR sts v) a t=rV see (stR sts w) a t:=by
 unfold uT;simp only [jR hv,jR hw];rw [<- aKl hv hw];simp [List.getD,ha];omega
theorem aMs {w:Nat} (hw:w<sts.length):aNy (wM see sts t) (w,0)= (stR sts w).getD t 0:=by
 unfold aNy;simp only [jR hw];rfl
theorem aMr : ptl (wM see sts t) 1=vY sts.length 0:=by
 unfold ptl ptN vY;rw [nU,Nat.mul_one];refine List.map_congr_left fun i _=>?_;rw [Nat.div_one,Nat.mod_one]
theorem aHi {F:Nat} (hA:see.length<=4) (hF:F<=8) (hR:1<=sts.length/\sts.length<=64) (hv:∀ w,w<sts.length->(stR sts w).getD t 0 >>> F=0#64):OkR (wM see sts t) see.length F 1 where
 hA:=hA
 hF:=hF
 hT:=⟨by omega,by omega⟩
 hR:=by rw [nU]; exact hR
 hP:=by rw [nU]; omega
 loc:=fun r hr=>by
  simp only [wM,List.mem_map] at hr;obtain⟨i,_,rfl⟩:=hr;rfl
 fac:=fun r hr=>by
  simp only [wM,List.mem_map] at hr;obtain⟨i,_,rfl⟩:=hr;rfl
 row:=fun r hr l hl=>by
  simp only [wM,List.mem_map] at hr;obtain⟨i,_,rfl⟩:=hr;simp only [List.mem_singleton] at hl;subst hl;simp
 val:=fun r hr x hx=>by
  simp only [wM,List.mem_map,List.mem_range] at hr;obtain⟨i,hi,rfl⟩:=hr;simp only [List.mem_singleton] at hx;subst hx;exact hv i hi
end
def aN1 (see:List (BitVec 64)) (sts:List (List (BitVec 64))) (t F:Nat):D:=aEc (wM see sts t) (vY sts.length 0) see.length F
end Kb
theorem aG0 {see:List (BitVec 64)} {sts:List (List (BitVec 64))} {t a v w:Nat} (ha:a<see.length) (hv:v<sts.length) (hw:w<sts.length) :
  decide ((rV see (stR sts w) a t).map ui=(rV see (stR sts v) a t).map ui)= decide (uT (wM see sts t) a (v,0)= uT (wM see sts t) a (w,0)):=by
 have h1:=dZ (see:=see) (sts:=sts) (t:=t) ha hv hw
 have h2:(rV see (stR sts w) a t).map ui=(rV see (stR sts v) a t).map ui ↔ rV see (stR sts v) a t=rV see (stR sts w) a t:=
  ⟨fun h=>((List.map_inj_right fun x y=>aRq.1).1 h).symm,fun h=>by rw [h]⟩
 rw [Bool.eq_iff_iff,decide_eq_true_eq,decide_eq_true_eq,h2,h1]
end Go.Pd
