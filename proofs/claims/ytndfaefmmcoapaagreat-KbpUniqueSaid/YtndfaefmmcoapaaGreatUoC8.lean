/- Part C8. -/
import Derived.Test.YtndfaefmmcoapaaGreatUoC6
import Derived.Test.YtndfaefmmcoapaaGreatUoKG
set_option linter.unusedSectionVars false
set_option linter.unusedVariables false
set_option linter.unusedSimpArgs false
set_option linter.defProp false
set_option maxRecDepth 20000
set_option maxHeartbeats 1000000
namespace Go.Pd
open Go Go.Proofs
open BitVec renaming isValue -> ZA
open Rs Fm Ru Te
theorem aMk {m:oE} {W:Nat} (ok:mU m W) {f:List Nd} (hc:xA f=0) (hfr:(qI .andNot .i64 (zG f:Int) 15 != 0)= false) (hft:rQ f m.R.length m.V.length=true):yT Tryz.prog 176 [m.d,.sl 6 (ndR f)] (.int .i64 0):=by
 have h1:=cX ok;have h2:=mE f;have h3:=aNr f;have h4:=aG9 f m.R.length m.V.length;rw [hc] at h2;rw [hft] at h4;unfold oE.d at h1 ⊢;refine xX.xR mixed Tryz.func176 bVk (by simp) fun hf=>?_;simp only [simprocAttr,-ZA,↓zU,↓zD,zV,zT,zW]
 (repeat refine sd ?_)
 refine .go (cr h1) ?_;simp only [simprocAttr,-ZA,↓zU,↓zD,zV,zT,zW];refine .go (cr h2) ?_;simp only [simprocAttr,-ZA,↓zU,↓zD,zV,zT,zW];refine .go (cr h3) ?_;simp only [simprocAttr,-ZA,↓zU,↓zD,zV,zT,zW,hfr,zQ,xQ]
 (repeat refine sd ?_)
 refine .go (cr h4) ?_;simp only [simprocAttr,-ZA,↓zU,↓zD,zV,zT,zW];exact .drop (by simp) (by simp [vw])
namespace Te
def sM (A F:Nat):Tr->Bool
 | .nil=>true
 | .nd op i e g x y=>qM A F ⟨op,i,e,g,0,0⟩&& (sM A F x&&sM A F y)
def aS5 (rs:List wC) (A F T:Nat) (t:Tr):BitVec 64:=if sM A F t=true then pB T (rs.length*T) (evT rs A T t) else 0#64
def bX0 (rs:List wC) (A F T:Nat) (t:Tr):Tab:=if sM A F t=true then evT rs A T t else fun _=>false
theorem aJv (rs:List wC) (A F T:Nat) (hW:rs.length*T<=64) (t:Tr):aS5 rs A F T t=pB T (rs.length*T) (bX0 rs A F T t):=by
 unfold aS5 bX0
 split
 ·rfl
 ·refine kG fun i _=>?_;rw [yW hW,Bool.and_false,BitVec.getLsbD_zero]
theorem aTa {A F:Nat} {op i e g:Int} (h:qM A F ⟨op,i,e,g,0,0⟩= true):1<=op/\op<=13:=by
 unfold qM at h;simp only at h
 refine⟨Decidable.byContradiction fun hh=>?_,Decidable.byContradiction fun hh=>?_⟩
 ·rw [if_pos (by omega)] at h; cases h
 ·rw [if_neg (by omega),if_neg (by omega),if_neg (by omega),if_neg (by omega),if_neg (by omega)] at h; cases h
theorem aSw {op:Int} (h1:1<=op) (h2:op<=13):(xZ op).1.y=aKg op/\(xZ op).1.x=decide (4<=op):=by
 have:op=1\/op=2\/op=3\/op=4\/op=5\/op=6\/op=7\/op=8\/op=9\/op=10\/op=11\/op=12\/op=13:=by omega
 rcases this with rfl | rfl | rfl | rfl | rfl | rfl | rfl | rfl | rfl | rfl | rfl | rfl | rfl <;> exact⟨rfl,rfl⟩
end Te
theorem aSt {rs:List wC} {A F T:Nat} (ok:OkR rs A F T) (hW:rs.length*T<=64) {f:List Nd} (hc:xA f=0) (hfr:(qI .andNot .i64 (zG f:Int) 15 != 0)= false) (hft:rQ f A F=true) :
  yT Tryz.prog 54 [(jR rs (ptl rs T) A F).d,.sl 6 (ndR f)] (.tup [.int .u64 (ui (aS5 rs A F T (jD f))),.int .i64 0]):=by
 have hl:(ptl rs T).length=rs.length*T:=rD T _;have h1:1<=rs.length*T:=Nat.mul_pos ok.hR.1 ok.hT.1;have hm:=aVa (F:=F) ok (l:=ptl rs T) (by omega) (by omega);rw [hl] at hm;have hRl:(jR rs (ptl rs T) A F).R.length=A:=by show (nC rs (ptl rs T) A).length=A; simp [nC]
 have hVl:(jR rs (ptl rs T) A F).V.length=F:=by show (cC rs (ptl rs T) F).length=F; simp [cC]
 obtain⟨c1,c2,c3⟩:=wT hc;have hn:0<f.length:=List.length_pos_iff.2 c1;have hreq:=aMk hm hc hfr (by rw [hRl,hVl]; exact hft);have hS:=bXs (sv:=fun k=>aS5 rs A F T (tree f k)) (fv:=fun k=>sM A F (tree f k)) hc hreq (fun k hk hok x y hx hy=>?_) fun k hk hno=>?_
 rotate_left
 ·have hnd:=c3 k hk;have ht:=tW c3 hk;unfold okF at hok;dsimp only at hok;generalize f.getD k nd0=n at hnd ht hok hx hy ⊢;rw [aJv rs A F T hW] at hx hy
  have hcom:n.op=13->n.g<(2 ^ (jR rs (ptl rs T) A F).R.length:Nat)->mY (zC (jR rs (ptl rs T) A F) n.g.toNat false) (qE (rs.length*T)) x y (rs.length*T+1)= mY (zC (jR rs (ptl rs T) A F) n.g.toNat false) (qE (rs.length*T)) x y (rs.length*T):=fun h13 hg=>by
   have hu:(xZ n.op).1.x=true/\(xZ n.op).1.y=true/\(xZ n.op).1.gr=true:=by rw [h13]; exact⟨rfl,rfl,rfl⟩
   have h1:=(zA.1 hnd).2.2.2.2;simp only [Bool.or_eq_false_iff,hu.2.2,xO,Bool.true_and,decide_eq_false_iff_not] at h1;rw [hRl] at hg;rw [hx hu.1,hy hu.2.1];exact aD7 ok hW (by omega) _ _
  have hv:=aF7 hm hnd (x:=x) (y:=y) hcom;have hs:=aJc ok hW (F:=F) hnd hx hy
  have key:(qN (jR rs (ptl rs T) A F) (rs.length*T) n x y)= (aS5 rs A F T (tree f k),sM A F (tree f k)):=by
   rw [hs,ht];unfold aS5;show _=(if (qM A F ⟨n.op,n.i,n.e,n.g,0,0⟩&& (sM A F (if (xZ n.op).1.x=true then tree f n.x.toNat else .nil)&& sM A F (if (xZ n.op).1.y=true then tree f n.y.toNat else .nil)))= true then _ else _,qM A F ⟨n.op,n.i,n.e,n.g,0,0⟩&& (sM A F (if (xZ n.op).1.x=true then tree f n.x.toNat else .nil)&& sM A F (if (xZ n.op).1.y=true then tree f n.y.toNat else .nil)));have hst:qM A F ⟨n.op,n.i,n.e,n.g,0,0⟩= qM A F n:=rfl;rw [hst]
   cases hst2:qM A F n with
   | false=>rfl
   | true=>
    obtain⟨o1,o2⟩:=aTa (hst.trans hst2);obtain⟨uy,ux⟩:=aSw o1 o2;rw [<- uy] at hok
    have fx:(xZ n.op).1.x=true->sM A F (tree f n.x.toNat)= true:=fun h=>by rw [ux,decide_eq_true_iff] at h;rw [if_pos h,Bool.and_eq_true] at hok;exact hok.1
    have fy:(xZ n.op).1.y=true->sM A F (tree f n.y.toNat)= true:=fun h=>by rw [if_pos h,Bool.and_eq_true] at hok;exact hok.2
    have fx':sM A F (if (xZ n.op).1.x=true then tree f n.x.toNat else .nil)= true:=by
     split
     ·rename_i h; exact fx h
     ·rfl
    have fy':sM A F (if (xZ n.op).1.y=true then tree f n.y.toNat else .nil)= true:=by
     split
     ·rename_i h; exact fy h
     ·rfl
    rw [fx',fy',if_pos rfl,if_pos (show (true&&(true&&true))= true from rfl)];refine Prod.ext ?_ rfl;refine congrArg (pB T (rs.length*T)) ?_;show _=aRg rs A T ⟨n.op,n.i,n.e,n.g,0,0⟩ _ _
    refine aM0 rfl rfl rfl (fun h=>?_) fun h=>?_
    ·rw [if_pos h,bX0,if_pos (fx h)]
    ·rw [if_pos h,bX0,if_pos (fy h)]
  rw [key] at hv;exact hv
 ·have ht:=tW c3 hk;unfold okF at hno;dsimp only at hno;generalize f.getD k nd0=n at ht hno
  have hf:sM A F (tree f k)= false:=by
   rw [ht];show (qM A F ⟨n.op,n.i,n.e,n.g,0,0⟩&& (sM A F (if (xZ n.op).1.x=true then tree f n.x.toNat else .nil)&& sM A F (if (xZ n.op).1.y=true then tree f n.y.toNat else .nil)))= false
   cases hst:qM A F ⟨n.op,n.i,n.e,n.g,0,0⟩ with
   | false=>rfl
   | true=>
    obtain⟨o1,o2⟩:=aTa hst;obtain⟨uy,ux⟩:=aSw o1 o2;rw [<- uy] at hno;rw [Bool.true_and]
    by_cases h4:4<=n.op
    ·rw [if_pos h4] at hno;rw [if_pos (by rw [ux,decide_eq_true h4])]
     cases hy:(xZ n.op).1.y with
     | true=>rw [hy,if_pos rfl] at hno; rw [if_pos rfl]; exact hno
     | false=>rw [hy,if_neg (by decide),Bool.and_true] at hno; rw [hno]; rfl
    ·rw [if_neg h4] at hno
     cases hy:(xZ n.op).1.y with
     | true=>rw [hy,if_pos rfl,Bool.true_and] at hno; rw [if_pos rfl,hno,Bool.and_false]
     | false=>rw [hy] at hno; cases hno
  exact⟨by unfold aS5; rw [hf,if_neg (by decide)],hf⟩
 have hlast:((List.range f.length).map fun k=>aS5 rs A F T (tree f k)).getD (f.length-1) 0=aS5 rs A F T (jD f):=by
  have:f.length-1<f.length:=by omega
  simp [List.getD,this,jD]
 have hlen:((List.range f.length).map fun k=>aS5 rs A F T (tree f k)).length=f.length:=by simp
 generalize ((List.range f.length).map fun k=>aS5 rs A F T (tree f k))= l at hS hlast hlen;have hg:=wS l (show f.length-1<l.length by omega);rw [hlast] at hg;have hw:IntKind.i64.wrap ((l.length:Int)-1)= ((f.length-1:Nat):Int):=by rw [hlen,wrap_i64 (by omega)]; omega
 have hlt:((f.length-1:Nat):Int)<(l.length:Int):=by omega
 unfold oE.d at hS ⊢;refine xX.xR mixed Tryz.func54 k54 (by simp) fun hf=>?_;simp only [simprocAttr,-ZA,↓zU,↓zD,zV,zT,zW]
 (repeat refine sd ?_)
 refine .go (cr hS) ?_;simp only [simprocAttr,-ZA,↓zU,↓zD,zV,zT,zW,xQ,hw,hg,hlt]
 (repeat refine sd ?_)
 exact .drop (by simp) (by simp [vw,vwL])
open Rs Fm Ru Te
namespace Te
def bX4 (rs:List wC) (t:Nat):List wC:=rs.map fun r=>⟨[r.loc.getD t []],[r.fac.getD t 0]⟩
section
variable {rs : List wC} {A F T t : Nat}
theorem aE7 {i:Nat} (hi:i<rs.length):(bX4 rs t).getD i lJ=⟨[(rs.getD i lJ).loc.getD t []],[(rs.getD i lJ).fac.getD t 0]⟩:=by simp [bX4,List.getD,hi]
theorem aE5 {a i:Nat} (hi:i<rs.length):tZ (bX4 rs t) a (i,0)= tZ rs a (i,t):=by unfold tZ;simp only [aE7 hi];rfl
theorem pO {R i:Nat} (hi:i<R):(vJ R t).getD i (0,0)= (i,t):=by simp [vJ,List.getD,hi]
theorem pP (a:Nat) (x:Int):∀ k,k<=rs.length->Ru.cB (bX4 rs t) (vJ rs.length 0) a x k=Ru.cB rs (vJ rs.length t) a x k
 | 0,_=>rfl
 | k+1,h=>by unfold Ru.cB;rw [pP a x k (by omega),pO (by omega),pO (by omega),aE5 (by omega)]
end
end Te
open Rs Fm Ru Te Kb
namespace Kb
def stR (sts:List (List (BitVec 64))) (i:Nat):List (BitVec 64):=sts.getD i []
def aPx (see:List (BitVec 64)) (sts:List (List (BitVec 64))) (t a w:Nat):Nat:=(List.range sts.length).findIdx fun v=>decide (uQ see (stR sts v) a t=uQ see (stR sts w) a t)
def wH (see:List (BitVec 64)) (sts:List (List (BitVec 64))) (t:Nat):List wC:=(List.range sts.length).map fun w=>⟨[(List.range see.length).map fun a=>((aPx see sts t a w:Nat):Int)],[(stR sts w).getD t 0]⟩
section
variable {see : List (BitVec 64)} {sts : List (List (BitVec 64))} {t : Nat}
theorem lY : (wH see sts t).length=sts.length:=by simp [wH]
theorem gR {i:Nat} (hi:i<sts.length):(wH see sts t).getD i lJ=⟨[(List.range see.length).map fun a=>((aPx see sts t a i:Nat):Int)],[(stR sts i).getD t 0]⟩:=by simp [wH,List.getD,hi]
theorem lL {n:Nat} {q:Nat->Bool} (h:∃ i,i<n/\q i=true):(List.range n).findIdx q<n/\q ((List.range n).findIdx q)= true:=by obtain⟨i,hi,hq⟩:=h;have h1:(List.range n).findIdx q<(List.range n).length:=List.findIdx_lt_length.2 ⟨i,List.mem_range.2 hi,hq⟩;refine⟨by simpa using h1,?_⟩;have:=List.findIdx_getElem (p:=q) (w:=h1);simpa using this
theorem aYy {a w:Nat} (hw:w<sts.length):aPx see sts t a w<sts.length/\uQ see (stR sts (aPx see sts t a w)) a t=uQ see (stR sts w) a t:=by have:=lL (n:=sts.length) (q:=fun v=>decide (uQ see (stR sts v) a t=uQ see (stR sts w) a t)) ⟨w,hw,by simp⟩;refine⟨this.1,?_⟩;have h2:=this.2;simp only [decide_eq_true_eq] at h2;exact h2
theorem aHa {a v w:Nat} (hv:v<sts.length) (hw:w<sts.length):aPx see sts t a v=aPx see sts t a w ↔ uQ see (stR sts v) a t=uQ see (stR sts w) a t:=by
 constructor
 ·intro h;rw [<- (aYy (see:=see) (t:=t) (a:=a) hv).2,<- (aYy (see:=see) (t:=t) (a:=a) hw).2,h]
 ·intro h;unfold aPx;rw [h]
theorem bD {a v w:Nat} (ha:a<see.length) (hv:v<sts.length) (hw:w<sts.length):tZ (wH see sts t) a (v,0)= tZ (wH see sts t) a (w,0) ↔ uQ see (stR sts v) a t=uQ see (stR sts w) a t:=by unfold tZ;simp only [gR hv,gR hw];rw [<- aHa hv hw];simp [List.getD,ha];omega
theorem aJh {w:Nat} (hw:w<sts.length):aKn (wH see sts t) (w,0)= (stR sts w).getD t 0:=by unfold aKn;simp only [gR hw];rfl
theorem aJg : ptl (wH see sts t) 1=vJ sts.length 0:=by unfold ptl ptN vJ;rw [lY,Nat.mul_one];refine List.map_congr_left fun i _=>?_;rw [Nat.div_one,Nat.mod_one]
theorem aEe {F:Nat} (hA:see.length<=4) (hF:F<=8) (hR:1<=sts.length/\sts.length<=64) (hv:∀ w,w<sts.length->(stR sts w).getD t 0 >>> F=0#64):OkR (wH see sts t) see.length F 1 where
 hA:=hA
 hF:=hF
 hT:=⟨by omega,by omega⟩
 hR:=by rw [lY]; exact hR
 hP:=by rw [lY]; omega
 loc:=fun r hr=>by simp only [wH,List.mem_map] at hr;obtain⟨i,_,rfl⟩:=hr;rfl
 fac:=fun r hr=>by simp only [wH,List.mem_map] at hr;obtain⟨i,_,rfl⟩:=hr;rfl
 row:=fun r hr l hl=>by simp only [wH,List.mem_map] at hr;obtain⟨i,_,rfl⟩:=hr;simp only [List.mem_singleton] at hl;subst hl;simp
 val:=fun r hr x hx=>by simp only [wH,List.mem_map,List.mem_range] at hr;obtain⟨i,hi,rfl⟩:=hr;simp only [List.mem_singleton] at hx;subst hx;exact hv i hi
end
def aKq (see:List (BitVec 64)) (sts:List (List (BitVec 64))) (t F:Nat):D:=aC6 (wH see sts t) (vJ sts.length 0) see.length F
end Kb
theorem aDv {see:List (BitVec 64)} {sts:List (List (BitVec 64))} {t a v w:Nat} (ha:a<see.length) (hv:v<sts.length) (hw:w<sts.length) :
  decide ((uQ see (stR sts w) a t).map ui=(uQ see (stR sts v) a t).map ui)= decide (tZ (wH see sts t) a (v,0)= tZ (wH see sts t) a (w,0)):=by
 have h1:=bD (see:=see) (sts:=sts) (t:=t) ha hv hw
 have h2:(uQ see (stR sts w) a t).map ui=(uQ see (stR sts v) a t).map ui ↔ uQ see (stR sts v) a t=uQ see (stR sts w) a t:=⟨fun h=>((List.map_inj_right fun x y=>aUs.1).1 h).symm,fun h=>by rw [h]⟩
 rw [Bool.eq_iff_iff,decide_eq_true_eq,decide_eq_true_eq,h2,h1]
end Go.Pd
