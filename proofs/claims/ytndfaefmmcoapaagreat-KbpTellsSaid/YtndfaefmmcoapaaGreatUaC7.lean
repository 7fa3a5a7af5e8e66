/- Part C7. -/
import Derived.Test.YtndfaefmmcoapaaGreatUaC4
import Derived.Test.YtndfaefmmcoapaaGreatUaC5
import Derived.Test.YtndfaefmmcoapaaGreatUaKG
set_option linter.unusedSectionVars false
set_option linter.unusedVariables false
set_option linter.unusedSimpArgs false
set_option linter.defProp false
set_option maxRecDepth 20000
set_option maxHeartbeats 1000000
namespace Go.Pd
open Go Go.Proofs
open BitVec renaming isValue -> ZA
open Rs Fm Ru Te
namespace Te
def gE {α:Type} (L:Nat) (g h:Nat->α) (k:Nat):List α:=(List.range L).map fun i=>if i<k then g i else h i
theorem aS8 {α:Type} (L:Nat) (g h:Nat->α) (k:Nat):(gE L g h k).length=L:=by simp [gE]
theorem gN {α:Type} {L:Nat} (g h:Nat->α) (k:Nat) {i:Nat} (hi:i<L) (d:α):(gE L g h k).getD i d=if i<k then g i else h i:=by simp [gE,List.getD,hi]
theorem aS7 {α:Type} (L:Nat) (g h:Nat->α) (k:Nat):(gE L g h k).set k (g k)= gE L g h (k+1):=by
 refine List.ext_getElem (by simp [gE]) fun i h1 h2=>?_;rw [List.getElem_set];simp only [gE,List.getElem_map,List.getElem_range]
 by_cases e:k=i
 ·subst e; rw [if_pos rfl,if_pos (by omega)]
 ·rw [if_neg e]
  by_cases hk:i<k
  ·rw [if_pos hk,if_pos (by omega)]
  ·rw [if_neg hk,if_neg (by omega)]
theorem aZw {α:Type} {L:Nat} {g h:Nat->α} {k:Nat} (e:g k=h k):gE L g h k=gE L g h (k+1):=by
 unfold gE;refine List.map_congr_left fun i _=>?_
 by_cases hk:i<k
 ·rw [if_pos hk,if_pos (by omega)]
 ·rw [if_neg hk]
  by_cases e2:i=k
  ·subst e2; rw [if_pos (by omega),e]
  ·rw [if_neg (by omega)]
theorem aZv {α:Type} (L:Nat) (g:Nat->α) (c:α):gE L g (fun _=>c) 0=List.replicate L c:=by refine List.ext_getElem (by simp [gE]) fun i h1 h2=>by simp [gE]
theorem aS9 {α:Type} (L:Nat) (g h:Nat->α):gE L g h L=(List.range L).map g:=by refine List.map_congr_left fun f hf=>?_;rw [if_pos (List.mem_range.1 hf)]
def aIe (op:Int):Bool:=(decide (5<=op)&& decide (op<=8)) || decide (op=13)
def okF (f:List Nd) (fv:Nat->Bool) (k:Nat):Bool:=(if 4<=(f.getD k nd0).op then fv (f.getD k nd0).x.toNat else true)&& (if aIe (f.getD k nd0).op=true then fv (f.getD k nd0).y.toNat else true)
end Te
theorem bWh {m:qL} {f:List Nd} (hc:xC f=0) (hreq:yU Tryz.prog 176 [m.d,.sl 6 (ndR f)] (.int .i64 0)) {sv:Nat->BitVec 64} {fv:Nat->Bool}
  (hcall:∀ k,k<f.length->okF f fv k=true->∀ x y,((xZ (f.getD k nd0).op).1.x=true->x=sv (f.getD k nd0).x.toNat)->((xZ (f.getD k nd0).op).1.y=true->y=sv (f.getD k nd0).y.toNat) ->
   yU Tryz.prog 177 [m.d,.agg (f.getD k nd0).row,.int .u64 (ui x),.int .u64 (ui y)] (.tup [.int .u64 (ui (sv k)),.bool (fv k)]))
  (hno:∀ k,k<f.length->okF f fv k=false->sv k=0#64/\fv k=false) :
  yU Tryz.prog 113 [m.d,.sl 6 (ndR f)] (.tup [.sl 1 (us ((List.range f.length).map sv)),.int .i64 0]):=by
 obtain⟨c1,c2,c3⟩:=wN hc;have hn:0<f.length:=List.length_pos_iff.2 c1;unfold qL.d at hreq hcall ⊢;refine xX.xQ mixed Tryz.func113 bS6 (by simp) fun hf=>?_;simp only [simprocAttr,-ZA,↓zU,↓zD,zV,zT,zW]
 (repeat refine sd ?_)
 refine .go (cr hreq) ?_;simp only [simprocAttr,-ZA,↓zU,↓zD,zV,zT,zW,xI]
 (repeat refine sd ?_)
 refine xW (fun k:Nat=>[(26,.int .i64 k),(25,.int .i64 f.length),(24,.sl 6 (ndR f)),(8,.osl 2 1 f.length),(7,.osl 1 1 f.length),(2,.ref 0 3 0 0)])
  (fun k=>⟨3,[(2,⟨1,rb (gE f.length fv (fun _=>false) k)⟩),(1,⟨1,us (gE f.length sv (fun _=>0#64) k)⟩),(0,⟨3,[[.int .i64 m.W,.sl 1 (us m.V),.sl 1 (rr m.R)]]⟩)]⟩)
  (fun k=>k<=f.length) (fun k=>f.length-k) 0 (Nat.zero_le _) ?_ ?_
 ·rw [aZv,aZv,<- iK,<- aVb]
  (refine xH.same ?_; simp [xO,Fr.get])
 intro k hk;refine xP mixed ?_;by_cases hkl:k<f.length
 case neg=>
  have hd:¬ ((k:Int)<(f.length:Int)):=by omega
  have hke:k=f.length:=by omega
  subst hke;rw [aS9,aS9];have hlen:((List.range f.length).map sv).length=f.length:=by simp
  generalize (List.range f.length).map sv=l at hlen ⊢;simp only [simprocAttr,-ZA,↓zU,↓zD,zV,zT,zW,hd];refine .drop (by simp) ?_;simp only [vw,vwL];exact⟨rfl,⟨trivial,by decide,by simp,⟨1,us l⟩,rfl,rfl,by simp only [xR]; omega,by rw [<- hlen,<- xR,List.take_length],tE l⟩,trivial,trivial⟩
 have hd:((k:Int)<(f.length:Int)):=by omega
 have hcall:=hcall k hkl;have hno:=hno k hkl;have hnd:=c3 k hkl;have hg:=uB f hkl;have hux:=aEw (f.getD k nd0).op;obtain⟨hox,hoy⟩:=pV hnd;obtain⟨⟨x,hx,hxk⟩,⟨y,hy,hyk⟩⟩:=aMk hnd;unfold okF at hcall hno;generalize f.getD k nd0=p at hcall hno hnd hg hux hox hoy hx hy;obtain⟨op,i,e,g,px,py⟩:=p;simp only at hx hy;subst hx hy;have hrow:(Nd.row ⟨op,i,e,g,x,y⟩)= [.int .i64 op,.int .i64 i,.int .i64 e,.int .i64 g,.int .i64 x,.int .i64 y]:=rfl;rw [hrow] at hg hcall;have hxl:x<f.length:=by omega
 have hyl:y<f.length:=by omega
 have hxl':((x:Int)<(f.length:Int)):=by omega
 have hyl':((y:Int)<(f.length:Int)):=by omega
 have hSx:=gN sv (fun _=>0#64) k hxl 0#64;have hSy:=gN sv (fun _=>0#64) k hyl 0#64;have hBx:=gN fv (fun _=>false) k hxl false;have hBy:=gN fv (fun _=>false) k hyl false;have hSl:=aS8 f.length sv (fun _=>0#64) k;have hBl:=aS8 f.length fv (fun _=>false) k;have hSs:=aS7 f.length sv (fun _=>0#64) k;have hBs:=aS7 f.length fv (fun _=>false) k;have hSk:sv k=0#64->gE f.length sv (fun _=>0#64) k=gE f.length sv (fun _=>0#64) (k+1):=fun h=>aZw h;have hBk:fv k=false->gE f.length fv (fun _=>false) k=gE f.length fv (fun _=>false) (k+1):=fun h=>aZw h;generalize gE f.length sv (fun _=>0#64) k=S at hSx hSy hSl hSs hSk ⊢;generalize gE f.length fv (fun _=>false) k=B at hBx hBy hBl hBs hBk ⊢;simp only [Int.toNat_natCast] at hcall hno hux hox hoy;have gSx:=zH S (show x<S.length by omega);have gSy:=zH S (show y<S.length by omega);have gBx:=aNk B (show x<B.length by omega);have gBy:=aNk B (show y<B.length by omega)
 have hop:1<=op/\op<=21:=by have h2:=(wR.1 hnd).1;simp only at h2;refine Decidable.byContradiction fun hh=>?_;rw [wT (by omega)] at h2;cases h2
 have hxu:(xZ op).1.x=true->S.getD x 0#64=sv x:=fun h=>by rw [hSx,if_pos (by have:=hox h; omega)]
 have hyu:(xZ op).1.y=true->S.getD y 0#64=sv y:=fun h=>by rw [hSy,if_pos (by have:=hoy h; omega)]
 have hfx:4<=op->B.getD x false=fv x:=fun h=>by
  have hu:(xZ op).1.x=true:=by rw [hux,decide_eq_true h,decide_eq_true hop.2]; rfl
  rw [hBx,if_pos (by have:=hox hu; omega)]
 have hby:aIe op=true->(xZ op).1.y=true:=fun h=>by
  unfold aIe at h;simp only [Bool.or_eq_true,Bool.and_eq_true,decide_eq_true_eq] at h;have:op=5\/op=6\/op=7\/op=8\/op=13:=by omega
  rcases this with rfl | rfl | rfl | rfl | rfl <;> rfl
 have hfy:aIe op=true->B.getD y false=fv y:=fun h=>by rw [hBy,if_pos (by have:=hoy (hby h); omega)]
 have hc':=fun h=>hcall h (S.getD x 0#64) (S.getD y 0#64) hxu hyu;clear hcall hxu hyu hSx hSy hBx hBy;generalize S.getD x 0#64=sx at gSx hc';generalize S.getD y 0#64=sy at gSy hc';generalize B.getD x false=bx at gBx hfx;generalize B.getD y false=by' at gBy hfy
 have hwu:IntKind.i64.wrap ((k:Int)+ 1)= ((k+1:Nat):Int):=wrap_i64 (by omega);have gSk:=zH S (show k<S.length by omega);have gBk:=aNk B (show k<B.length by omega);by_cases h4:4<=op
 case neg=>
  have h5:¬ (5:Int)<=op:=by omega
  have h13:(op==13)= false:=by rw [beq_eq_false_iff_ne]; omega
  have hb:aIe op=false:=by unfold aIe; rw [decide_eq_false h5,decide_eq_false (show ¬ op=13 by omega)]; rfl
  simp only [simprocAttr,-ZA,↓zU,↓zD,zV,zT,zW,hd,hwu,xI,hg,xR,tC,hSl,hBl,hxl',hyl',gSx,gSy,gBx,gBy,gSk,gBk,aVi,h4,h5,h13]
  (repeat refine sd ?_)
  refine .go (xX.yT (hc' (by rw [if_neg h4,hb]; rfl)) (by simp [D.xV,D.xG])) ?_;simp only [simprocAttr,-ZA,↓zU,↓zD,zV,zT,zW,hd,hwu,xI,hg,xR,tC,hSl,hBl,hxl',hyl',gSx,gSy,gBx,gBy,gSk,gBk,aVi,h4,h5,h13,nH,aY0,hSs,hBs]
  (repeat refine sd ?_)
  refine⟨k+1,by omega,?_,by omega⟩
  (refine xH.ren [] [2,1,0] (by simp) (by simp) (by decide) ?_; simp only [yZ,vwL,vw,vwF,sw,St.get,St.look,Fr.get,simprocAttr,-ZA,exists_eq_left',ne_eq,zR,yW,uM])
 have hfx:=hfx h4;subst hfx;rw [if_pos h4] at hc' hno
 cases hb:aIe op with
 | false=>
  rw [hb,if_neg (by decide),Bool.and_true] at hc' hno
  have h13:(op==13)= false:=by rw [beq_eq_false_iff_ne]; rintro rfl; cases hb
  have h58:¬ (5<=op/\op<=8):=by rintro ⟨z1,z2⟩; unfold aIe at hb; rw [decide_eq_true z1,decide_eq_true z2] at hb; cases hb
  by_cases h5:5<=op
  ·have h8:¬ op<=8:=by omega
   cases hf:fv x with
   | true=>
    simp only [simprocAttr,-ZA,↓zU,↓zD,zV,zT,zW,hd,hwu,xI,hg,xR,tC,hSl,hBl,hxl',hyl',gSx,gSy,gBx,gBy,gSk,gBk,aVi,h4,h5,h8,h13,hf]
    (repeat refine sd ?_)
    refine .go (cr (hc' hf)) ?_;simp only [simprocAttr,-ZA,↓zU,↓zD,zV,zT,zW,hd,hwu,xI,hg,xR,tC,hSl,hBl,hxl',hyl',gSx,gSy,gBx,gBy,gSk,gBk,aVi,h4,h5,h8,h13,hf,nH,aY0,hSs,hBs]
    (repeat refine sd ?_)
    refine⟨k+1,by omega,?_,by omega⟩
    (refine xH.ren [] [2,1,0] (by simp) (by simp) (by decide) ?_; simp only [yZ,vwL,vw,vwF,sw,St.get,St.look,Fr.get,simprocAttr,-ZA,exists_eq_left',ne_eq,zR,yW,uM])
   | false=>
    simp only [simprocAttr,-ZA,↓zU,↓zD,zV,zT,zW,hd,hwu,xI,hg,xR,tC,hSl,hBl,hxl',hyl',gSx,gSy,gBx,gBy,gSk,gBk,aVi,h4,h5,h8,h13,hf]
    (repeat refine sd ?_)
    obtain⟨q1,q2⟩:=hno hf;rw [hSk q1,hBk q2];refine⟨k+1,by omega,?_,by omega⟩
    (refine xH.ren [] [2,1,0] (by simp) (by simp) (by decide) ?_; simp only [yZ,vwL,vw,vwF,sw,St.get,St.look,Fr.get,simprocAttr,-ZA,exists_eq_left',ne_eq,zR,yW,uM])
  ·cases hf:fv x with
   | true=>
    simp only [simprocAttr,-ZA,↓zU,↓zD,zV,zT,zW,hd,hwu,xI,hg,xR,tC,hSl,hBl,hxl',hyl',gSx,gSy,gBx,gBy,gSk,gBk,aVi,h4,h5,h13,hf]
    (repeat refine sd ?_)
    refine .go (cr (hc' hf)) ?_;simp only [simprocAttr,-ZA,↓zU,↓zD,zV,zT,zW,hd,hwu,xI,hg,xR,tC,hSl,hBl,hxl',hyl',gSx,gSy,gBx,gBy,gSk,gBk,aVi,h4,h5,h13,hf,nH,aY0,hSs,hBs]
    (repeat refine sd ?_)
    refine⟨k+1,by omega,?_,by omega⟩
    (refine xH.ren [] [2,1,0] (by simp) (by simp) (by decide) ?_; simp only [yZ,vwL,vw,vwF,sw,St.get,St.look,Fr.get,simprocAttr,-ZA,exists_eq_left',ne_eq,zR,yW,uM])
   | false=>
    simp only [simprocAttr,-ZA,↓zU,↓zD,zV,zT,zW,hd,hwu,xI,hg,xR,tC,hSl,hBl,hxl',hyl',gSx,gSy,gBx,gBy,gSk,gBk,aVi,h4,h5,h13,hf]
    (repeat refine sd ?_)
    obtain⟨q1,q2⟩:=hno hf;rw [hSk q1,hBk q2];refine⟨k+1,by omega,?_,by omega⟩
    (refine xH.ren [] [2,1,0] (by simp) (by simp) (by decide) ?_; simp only [yZ,vwL,vw,vwF,sw,St.get,St.look,Fr.get,simprocAttr,-ZA,exists_eq_left',ne_eq,zR,yW,uM])
 | true=>
  have hfy:=hfy hb;subst hfy;rw [hb,if_pos rfl] at hc' hno
  by_cases h13:op=13
  ·subst h13
   cases hf:fv x with
   | false=>
    simp only [simprocAttr,-ZA,↓zU,↓zD,zV,zT,zW,hd,hwu,xI,hg,xR,tC,hSl,hBl,hxl',hyl',gSx,gSy,gBx,gBy,gSk,gBk,aVi,hf]
    (repeat refine sd ?_)
    obtain⟨q1,q2⟩:=hno (by rw [hf]; rfl);rw [hSk q1,hBk q2];refine⟨k+1,by omega,?_,by omega⟩
    (refine xH.ren [] [2,1,0] (by simp) (by simp) (by decide) ?_; simp only [yZ,vwL,vw,vwF,sw,St.get,St.look,Fr.get,simprocAttr,-ZA,exists_eq_left',ne_eq,zR,yW,uM])
   | true=>
    cases hf2:fv y with
    | true=>
     simp only [simprocAttr,-ZA,↓zU,↓zD,zV,zT,zW,hd,hwu,xI,hg,xR,tC,hSl,hBl,hxl',hyl',gSx,gSy,gBx,gBy,gSk,gBk,aVi,hf,hf2]
     (repeat refine sd ?_)
     refine .go (xX.yT (hc' (by rw [hf,hf2]; rfl)) (by simp [D.xV,D.xG])) ?_;simp only [simprocAttr,-ZA,↓zU,↓zD,zV,zT,zW,hd,hwu,xI,hg,xR,tC,hSl,hBl,hxl',hyl',gSx,gSy,gBx,gBy,gSk,gBk,aVi,hf,hf2,nH,aY0,hSs,hBs]
     (repeat refine sd ?_)
     refine⟨k+1,by omega,?_,by omega⟩
     (refine xH.ren [] [2,1,0] (by simp) (by simp) (by decide) ?_; simp only [yZ,vwL,vw,vwF,sw,St.get,St.look,Fr.get,simprocAttr,-ZA,exists_eq_left',ne_eq,zR,yW,uM])
    | false=>
     simp only [simprocAttr,-ZA,↓zU,↓zD,zV,zT,zW,hd,hwu,xI,hg,xR,tC,hSl,hBl,hxl',hyl',gSx,gSy,gBx,gBy,gSk,gBk,aVi,hf,hf2]
     (repeat refine sd ?_)
     obtain⟨q1,q2⟩:=hno (by rw [hf,hf2]; rfl);rw [hSk q1,hBk q2];refine⟨k+1,by omega,?_,by omega⟩
     (refine xH.ren [] [2,1,0] (by simp) (by simp) (by decide) ?_; simp only [yZ,vwL,vw,vwF,sw,St.get,St.look,Fr.get,simprocAttr,-ZA,exists_eq_left',ne_eq,zR,yW,uM])
  ·have h58:5<=op/\op<=8:=by unfold aIe at hb; rw [decide_eq_false h13,Bool.or_false,Bool.and_eq_true] at hb; exact⟨of_decide_eq_true hb.1,of_decide_eq_true hb.2⟩
   have h5:=h58.1;have h8:=h58.2
   cases hf:fv x with
   | false=>
    simp only [simprocAttr,-ZA,↓zU,↓zD,zV,zT,zW,hd,hwu,xI,hg,xR,tC,hSl,hBl,hxl',hyl',gSx,gSy,gBx,gBy,gSk,gBk,aVi,h4,h5,h8,hf]
    (repeat refine sd ?_)
    obtain⟨q1,q2⟩:=hno (by rw [hf]; rfl);rw [hSk q1,hBk q2];refine⟨k+1,by omega,?_,by omega⟩
    (refine xH.ren [] [2,1,0] (by simp) (by simp) (by decide) ?_; simp only [yZ,vwL,vw,vwF,sw,St.get,St.look,Fr.get,simprocAttr,-ZA,exists_eq_left',ne_eq,zR,yW,uM])
   | true=>
    cases hf2:fv y with
    | true=>
     simp only [simprocAttr,-ZA,↓zU,↓zD,zV,zT,zW,hd,hwu,xI,hg,xR,tC,hSl,hBl,hxl',hyl',gSx,gSy,gBx,gBy,gSk,gBk,aVi,h4,h5,h8,hf,hf2]
     (repeat refine sd ?_)
     refine .go (xX.yT (hc' (by rw [hf,hf2]; rfl)) (by simp [D.xV,D.xG])) ?_;simp only [simprocAttr,-ZA,↓zU,↓zD,zV,zT,zW,hd,hwu,xI,hg,xR,tC,hSl,hBl,hxl',hyl',gSx,gSy,gBx,gBy,gSk,gBk,aVi,h4,h5,h8,hf,hf2,nH,aY0,hSs,hBs]
     (repeat refine sd ?_)
     refine⟨k+1,by omega,?_,by omega⟩
     (refine xH.ren [] [2,1,0] (by simp) (by simp) (by decide) ?_; simp only [yZ,vwL,vw,vwF,sw,St.get,St.look,Fr.get,simprocAttr,-ZA,exists_eq_left',ne_eq,zR,yW,uM])
    | false=>
     simp only [simprocAttr,-ZA,↓zU,↓zD,zV,zT,zW,hd,hwu,xI,hg,xR,tC,hSl,hBl,hxl',hyl',gSx,gSy,gBx,gBy,gSk,gBk,aVi,h4,h5,h8,hf,hf2]
     (repeat refine sd ?_)
     obtain⟨q1,q2⟩:=hno (by rw [hf,hf2]; rfl);rw [hSk q1,hBk q2];refine⟨k+1,by omega,?_,by omega⟩
     (refine xH.ren [] [2,1,0] (by simp) (by simp) (by decide) ?_; simp only [yZ,vwL,vw,vwF,sw,St.get,St.look,Fr.get,simprocAttr,-ZA,exists_eq_left',ne_eq,zR,yW,uM])
open Rs Fm Ru Te
theorem aKc {m:qL} {W:Nat} (ok:lZ m W) {f:List Nd} (hc:xC f=0) (hfr:(rB .andNot .i64 (zF f:Int) 15 != 0)= false) (hft:rU f m.R.length m.V.length=true):yU Tryz.prog 176 [m.d,.sl 6 (ndR f)] (.int .i64 0):=by
 have h1:=jD ok;have h2:=lH f;have h3:=aLg f;have h4:=aDk f m.R.length m.V.length;rw [hc] at h2;rw [hft] at h4;unfold qL.d at h1 ⊢;refine xX.xQ mixed Tryz.func176 bSd (by simp) fun hf=>?_;simp only [simprocAttr,-ZA,↓zU,↓zD,zV,zT,zW]
 (repeat refine sd ?_)
 refine .go (cr h1) ?_;simp only [simprocAttr,-ZA,↓zU,↓zD,zV,zT,zW];refine .go (cr h2) ?_;simp only [simprocAttr,-ZA,↓zU,↓zD,zV,zT,zW];refine .go (cr h3) ?_;simp only [simprocAttr,-ZA,↓zU,↓zD,zV,zT,zW,hfr,zK,xR]
 (repeat refine sd ?_)
 refine .go (cr h4) ?_;simp only [simprocAttr,-ZA,↓zU,↓zD,zV,zT,zW];exact .dv
namespace Te
def rT (A F:Nat):Tr->Bool
 | .nil=>true
 | .nd op i e g x y=>pJ A F ⟨op,i,e,g,0,0⟩&& (rT A F x&&rT A F y)
def aTv (rs:List zG) (A F T:Nat) (t:Tr):BitVec 64:=if rT A F t=true then pH T (rs.length*T) (evT rs A T t) else 0#64
def bWo (rs:List zG) (A F T:Nat) (t:Tr):Tab:=if rT A F t=true then evT rs A T t else fun _=>false
theorem aHv (rs:List zG) (A F T:Nat) (hW:rs.length*T<=64) (t:Tr):aTv rs A F T t=pH T (rs.length*T) (bWo rs A F T t):=by
 unfold aTv bWo
 split
 ·rfl
 ·refine jI fun i _=>?_;rw [yV hW,Bool.and_false,BitVec.getLsbD_zero]
theorem aSj {A F:Nat} {op i e g:Int} (h:pJ A F ⟨op,i,e,g,0,0⟩= true):1<=op/\op<=13:=by
 unfold pJ at h;simp only at h
 refine⟨Decidable.byContradiction fun hh=>?_,Decidable.byContradiction fun hh=>?_⟩
 ·rw [if_pos (by omega)] at h; cases h
 ·rw [if_neg (by omega),if_neg (by omega),if_neg (by omega),if_neg (by omega),if_neg (by omega)] at h; cases h
theorem aRy {op:Int} (h1:1<=op) (h2:op<=13):(xZ op).1.y=aIe op/\(xZ op).1.x=decide (4<=op):=by
 have:op=1\/op=2\/op=3\/op=4\/op=5\/op=6\/op=7\/op=8\/op=9\/op=10\/op=11\/op=12\/op=13:=by omega
 rcases this with rfl | rfl | rfl | rfl | rfl | rfl | rfl | rfl | rfl | rfl | rfl | rfl | rfl <;> exact⟨rfl,rfl⟩
end Te
theorem aX9 {rs:List zG} {A F T:Nat} (ok:OkR rs A F T) (hW:rs.length*T<=64) {f:List Nd} (hc:xC f=0) (hfr:(rB .andNot .i64 (zF f:Int) 15 != 0)= false) (hft:rU f A F=true) :
  yU Tryz.prog 54 [(qJ rs (ptl rs T) A F).d,.sl 6 (ndR f)] (.tup [.int .u64 (ui (aTv rs A F T (uV f))),.int .i64 0]):=by
 have hl:(ptl rs T).length=rs.length*T:=qE T _;have h1:1<=rs.length*T:=Nat.mul_pos ok.hR.1 ok.hT.1;have hm:=aB (F:=F) ok (l:=ptl rs T) (by omega) (by omega);rw [hl] at hm;have hRl:(qJ rs (ptl rs T) A F).R.length=A:=by show (rC rs (ptl rs T) A).length=A; simp [rC]
 have hVl:(qJ rs (ptl rs T) A F).V.length=F:=by show (mG rs (ptl rs T) F).length=F; simp [mG]
 obtain⟨c1,c2,c3⟩:=wN hc;have hn:0<f.length:=List.length_pos_iff.2 c1;have hreq:=aKc hm hc hfr (by rw [hRl,hVl]; exact hft);have hS:=bWh (sv:=fun k=>aTv rs A F T (tree f k)) (fv:=fun k=>rT A F (tree f k)) hc hreq (fun k hk hok x y hx hy=>?_) fun k hk hno=>?_
 rotate_left
 ·have hnd:=c3 k hk;have ht:=vV c3 hk;unfold okF at hok;dsimp only at hok;generalize f.getD k nd0=n at hnd ht hok hx hy ⊢;rw [aHv rs A F T hW] at hx hy
  have hcom:n.op=13->n.g<(2 ^ (qJ rs (ptl rs T) A F).R.length:Nat)->mB (wU (qJ rs (ptl rs T) A F) n.g.toNat false) (pG (rs.length*T)) x y (rs.length*T+1)= mB (wU (qJ rs (ptl rs T) A F) n.g.toNat false) (pG (rs.length*T)) x y (rs.length*T):=fun h13 hg=>by
   have hu:(xZ n.op).1.x=true/\(xZ n.op).1.y=true/\(xZ n.op).1.gr=true:=by rw [h13]; exact⟨rfl,rfl,rfl⟩
   have h1:=(wR.1 hnd).2.2.2.2;simp only [Bool.or_eq_false_iff,hu.2.2,xM,Bool.true_and,decide_eq_false_iff_not] at h1;rw [hRl] at hg;rw [hx hu.1,hy hu.2.1];exact aAm ok hW (by omega) _ _
  have hv:=aCk hm hnd (x:=x) (y:=y) hcom;have hs:=aHc ok hW (F:=F) hnd hx hy
  have key:(pL (qJ rs (ptl rs T) A F) (rs.length*T) n x y)= (aTv rs A F T (tree f k),rT A F (tree f k)):=by
   rw [hs,ht];unfold aTv;show _=(if (pJ A F ⟨n.op,n.i,n.e,n.g,0,0⟩&& (rT A F (if (xZ n.op).1.x=true then tree f n.x.toNat else .nil)&& rT A F (if (xZ n.op).1.y=true then tree f n.y.toNat else .nil)))= true then _ else _,pJ A F ⟨n.op,n.i,n.e,n.g,0,0⟩&& (rT A F (if (xZ n.op).1.x=true then tree f n.x.toNat else .nil)&& rT A F (if (xZ n.op).1.y=true then tree f n.y.toNat else .nil)));have hst:pJ A F ⟨n.op,n.i,n.e,n.g,0,0⟩= pJ A F n:=rfl;rw [hst]
   cases hst2:pJ A F n with
   | false=>rfl
   | true=>
    obtain⟨o1,o2⟩:=aSj (hst.trans hst2);obtain⟨uy,ux⟩:=aRy o1 o2;rw [<- uy] at hok
    have fx:(xZ n.op).1.x=true->rT A F (tree f n.x.toNat)= true:=fun h=>by rw [ux,decide_eq_true_iff] at h;rw [if_pos h,Bool.and_eq_true] at hok;exact hok.1
    have fy:(xZ n.op).1.y=true->rT A F (tree f n.y.toNat)= true:=fun h=>by rw [if_pos h,Bool.and_eq_true] at hok;exact hok.2
    have fx':rT A F (if (xZ n.op).1.x=true then tree f n.x.toNat else .nil)= true:=by
     split
     ·rename_i h; exact fx h
     ·rfl
    have fy':rT A F (if (xZ n.op).1.y=true then tree f n.y.toNat else .nil)= true:=by
     split
     ·rename_i h; exact fy h
     ·rfl
    rw [fx',fy',if_pos rfl,if_pos (show (true&&(true&&true))= true from rfl)];refine Prod.ext ?_ rfl;refine congrArg (pH T (rs.length*T)) ?_;show _=aQl rs A T ⟨n.op,n.i,n.e,n.g,0,0⟩ _ _
    refine aKs rfl rfl rfl (fun h=>?_) fun h=>?_
    ·rw [if_pos h,bWo,if_pos (fx h)]
    ·rw [if_pos h,bWo,if_pos (fy h)]
  rw [key] at hv;exact hv
 ·have ht:=vV c3 hk;unfold okF at hno;dsimp only at hno;generalize f.getD k nd0=n at ht hno
  have hf:rT A F (tree f k)= false:=by
   rw [ht];show (pJ A F ⟨n.op,n.i,n.e,n.g,0,0⟩&& (rT A F (if (xZ n.op).1.x=true then tree f n.x.toNat else .nil)&& rT A F (if (xZ n.op).1.y=true then tree f n.y.toNat else .nil)))= false
   cases hst:pJ A F ⟨n.op,n.i,n.e,n.g,0,0⟩ with
   | false=>rfl
   | true=>
    obtain⟨o1,o2⟩:=aSj hst;obtain⟨uy,ux⟩:=aRy o1 o2;rw [<- uy] at hno;rw [Bool.true_and]
    by_cases h4:4<=n.op
    ·rw [if_pos h4] at hno;rw [if_pos (by rw [ux,decide_eq_true h4])]
     cases hy:(xZ n.op).1.y with
     | true=>rw [hy,if_pos rfl] at hno; rw [if_pos rfl]; exact hno
     | false=>rw [hy,if_neg (by decide),Bool.and_true] at hno; rw [hno]; rfl
    ·rw [if_neg h4] at hno
     cases hy:(xZ n.op).1.y with
     | true=>rw [hy,if_pos rfl,Bool.true_and] at hno; rw [if_pos rfl,hno,Bool.and_false]
     | false=>rw [hy] at hno; cases hno
  exact⟨by unfold aTv; rw [hf,if_neg (by decide)],hf⟩
 have hlast:((List.range f.length).map fun k=>aTv rs A F T (tree f k)).getD (f.length-1) 0=aTv rs A F T (uV f):=by
  have:f.length-1<f.length:=by omega
  simp [List.getD,this,uV]
 have hlen:((List.range f.length).map fun k=>aTv rs A F T (tree f k)).length=f.length:=by simp
 generalize ((List.range f.length).map fun k=>aTv rs A F T (tree f k))= l at hS hlast hlen;have hg:=zH l (show f.length-1<l.length by omega);rw [hlast] at hg;have hw:IntKind.i64.wrap ((l.length:Int)-1)= ((f.length-1:Nat):Int):=by rw [hlen,wrap_i64 (by omega)]; omega
 have hlt:((f.length-1:Nat):Int)<(l.length:Int):=by omega
 unfold qL.d at hS ⊢;refine xX.xQ mixed Tryz.func54 k54 (by simp) fun hf=>?_;simp only [simprocAttr,-ZA,↓zU,↓zD,zV,zT,zW]
 (repeat refine sd ?_)
 refine .go (cr hS) ?_;simp only [simprocAttr,-ZA,↓zU,↓zD,zV,zT,zW,xR,hw,hg,hlt]
 (repeat refine sd ?_)
 exact .drop (by simp) (by simp [vw,vwL])
open Rs Fm Ru Te
namespace Te
def nL (rs:List zG) (t:Nat):List zG:=rs.map fun r=>⟨[r.loc.getD t []],[r.fac.getD t 0]⟩
section
variable {rs : List zG} {A F T t : Nat}
theorem mV : (nL rs t).length=rs.length:=by simp [nL]
theorem aMg {i:Nat} (hi:i<rs.length):(nL rs t).getD i qK=⟨[(rs.getD i qK).loc.getD t []],[(rs.getD i qK).fac.getD t 0]⟩:=by simp [nL,List.getD,hi]
theorem jP {a i:Nat} (hi:i<rs.length):wE (nL rs t) a (i,0)= wE rs a (i,t):=by unfold wE;simp only [aMg hi];rfl
theorem aUg {i:Nat} (hi:i<rs.length):aYo (nL rs t) (i,0)= aYo rs (i,t):=by unfold aYo;simp only [aMg hi];rfl
theorem aBf : ptl (nL rs t) 1=yM rs.length 0:=by unfold ptl ptN yM;rw [mV,Nat.mul_one];refine List.map_congr_left fun i _=>?_;rw [Nat.div_one,Nat.mod_one]
theorem sH {R i:Nat} (hi:i<R):(yM R t).getD i (0,0)= (i,t):=by simp [yM,List.getD,hi]
theorem aMf (f:Nat):∀ k,k<=rs.length->rD (nL rs t) (yM rs.length 0) f k=rD rs (yM rs.length t) f k
 | 0,_=>rfl
 | k+1,h=>by unfold rD;rw [aMf f k (by omega),sH (by omega),sH (by omega),aUg (by omega)]
theorem qD (a:Nat) (x:Int):∀ k,k<=rs.length->Ru.gG (nL rs t) (yM rs.length 0) a x k=Ru.gG rs (yM rs.length t) a x k
 | 0,_=>rfl
 | k+1,h=>by unfold Ru.gG;rw [qD a x k (by omega),sH (by omega),sH (by omega),jP (by omega)]
theorem aKp : qJ (nL rs t) (ptl (nL rs t) 1) A F=qJ rs (yM rs.length t) A F:=by
 rw [aBf]
 have h1:mG (nL rs t) (yM rs.length 0) F=mG rs (yM rs.length t) F:=by unfold mG;refine List.map_congr_left fun f _=>?_;rw [wH,wH,aMf f _ (Nat.le_refl _)]
 have h2:rC (nL rs t) (yM rs.length 0) A=rC rs (yM rs.length t) A:=by unfold rC;refine List.map_congr_left fun a _=>?_;unfold rI;rw [wH,wH];unfold yM;rw [List.map_map,List.map_map];refine List.map_congr_left fun i hi=>?_;have:=List.mem_range.1 hi;show Ru.gG (nL rs t) (yM rs.length 0) a (wE (nL rs t) a (i,0)) rs.length=Ru.gG rs (yM rs.length t) a (wE rs a (i,t)) rs.length;rw [jP this,qD a _ _ (Nat.le_refl _)]
 unfold qJ;rw [h1,h2,wH,wH]
theorem bZg (ok:OkR rs A F T) (ht:t<T):OkR (nL rs t) A F 1:=by
 have hm:∀ r ∈ nL rs t,∃ q ∈ rs,r=⟨[q.loc.getD t []],[q.fac.getD t 0]⟩:=fun r hr=>by obtain⟨q,hq,e⟩:=List.mem_map.1 hr;exact⟨q,hq,e.symm⟩
 have hR:=ok.hR
 refine⟨ok.hA,ok.hF,⟨Nat.le_refl _,by decide⟩,by rw [mV]; exact hR,by rw [mV]; omega,?_,?_,?_,?_⟩
 ·intro r hr;obtain⟨q,hq,rfl⟩:=hm r hr;rfl
 ·intro r hr;obtain⟨q,hq,rfl⟩:=hm r hr;rfl
 ·intro r hr l hl;obtain⟨q,hq,rfl⟩:=hm r hr;have:l=q.loc.getD t []:=by simpa using hl
  subst this;have hlen:=ok.loc q hq;exact ok.row q hq _ (by rw [List.getD,List.getElem?_eq_getElem (by omega)]; exact List.getElem_mem _)
 ·intro r hr l hl;obtain⟨q,hq,rfl⟩:=hm r hr;have:l=q.fac.getD t 0:=by simpa using hl
  subst this;have hlen:=ok.fac q hq;exact ok.val q hq _ (by rw [List.getD,List.getElem?_eq_getElem (by omega)]; exact List.getElem_mem _)
end
end Te
open Rs Fm Ru Te Kb
namespace Kb
def stR (sts:List (List (BitVec 64))) (i:Nat):List (BitVec 64):=sts.getD i []
def aOs (see:List (BitVec 64)) (sts:List (List (BitVec 64))) (t a w:Nat):Nat:=(List.range sts.length).findIdx fun v=>decide (sR see (stR sts v) a t=sR see (stR sts w) a t)
def vM (see:List (BitVec 64)) (sts:List (List (BitVec 64))) (t:Nat):List zG:=(List.range sts.length).map fun w=>⟨[(List.range see.length).map fun a=>((aOs see sts t a w:Nat):Int)],[(stR sts w).getD t 0]⟩
section
variable {see : List (BitVec 64)} {sts : List (List (BitVec 64))} {t : Nat}
theorem lA : (vM see sts t).length=sts.length:=by simp [vM]
theorem fJ {i:Nat} (hi:i<sts.length):(vM see sts t).getD i qK=⟨[(List.range see.length).map fun a=>((aOs see sts t a i:Nat):Int)],[(stR sts i).getD t 0]⟩:=by simp [vM,List.getD,hi]
theorem kJ {n:Nat} {q:Nat->Bool} (h:∃ i,i<n/\q i=true):(List.range n).findIdx q<n/\q ((List.range n).findIdx q)= true:=by obtain⟨i,hi,hq⟩:=h;have h1:(List.range n).findIdx q<(List.range n).length:=List.findIdx_lt_length.2 ⟨i,List.mem_range.2 hi,hq⟩;refine⟨by simpa using h1,?_⟩;have:=List.findIdx_getElem (p:=q) (w:=h1);simpa using this
theorem aZz {a w:Nat} (hw:w<sts.length):aOs see sts t a w<sts.length/\sR see (stR sts (aOs see sts t a w)) a t=sR see (stR sts w) a t:=by have:=kJ (n:=sts.length) (q:=fun v=>decide (sR see (stR sts v) a t=sR see (stR sts w) a t)) ⟨w,hw,by simp⟩;refine⟨this.1,?_⟩;have h2:=this.2;simp only [decide_eq_true_eq] at h2;exact h2
theorem aFg {a v w:Nat} (hv:v<sts.length) (hw:w<sts.length):aOs see sts t a v=aOs see sts t a w ↔ sR see (stR sts v) a t=sR see (stR sts w) a t:=by
 constructor
 ·intro h;rw [<- (aZz (see:=see) (t:=t) (a:=a) hv).2,<- (aZz (see:=see) (t:=t) (a:=a) hw).2,h]
 ·intro h;unfold aOs;rw [h]
theorem aXj {a v w:Nat} (ha:a<see.length) (hv:v<sts.length) (hw:w<sts.length):wE (vM see sts t) a (v,0)= wE (vM see sts t) a (w,0) ↔ sR see (stR sts v) a t=sR see (stR sts w) a t:=by unfold wE;simp only [fJ hv,fJ hw];rw [<- aFg hv hw];simp [List.getD,ha];omega
theorem aHf {w:Nat} (hw:w<sts.length):aYo (vM see sts t) (w,0)= (stR sts w).getD t 0:=by unfold aYo;simp only [fJ hw];rfl
theorem aHe : ptl (vM see sts t) 1=yM sts.length 0:=by unfold ptl ptN yM;rw [lA,Nat.mul_one];refine List.map_congr_left fun i _=>?_;rw [Nat.div_one,Nat.mod_one]
theorem aCq {F:Nat} (hA:see.length<=4) (hF:F<=8) (hR:1<=sts.length/\sts.length<=64) (hv:∀ w,w<sts.length->(stR sts w).getD t 0 >>> F=0#64):OkR (vM see sts t) see.length F 1 where
 hA:=hA
 hF:=hF
 hT:=⟨by omega,by omega⟩
 hR:=by rw [lA]; exact hR
 hP:=by rw [lA]; omega
 loc:=fun r hr=>by simp only [vM,List.mem_map] at hr;obtain⟨i,_,rfl⟩:=hr;rfl
 fac:=fun r hr=>by simp only [vM,List.mem_map] at hr;obtain⟨i,_,rfl⟩:=hr;rfl
 row:=fun r hr l hl=>by simp only [vM,List.mem_map] at hr;obtain⟨i,_,rfl⟩:=hr;simp only [List.mem_singleton] at hl;subst hl;simp
 val:=fun r hr x hx=>by simp only [vM,List.mem_map,List.mem_range] at hr;obtain⟨i,hi,rfl⟩:=hr;simp only [List.mem_singleton] at hx;subst hx;exact hv i hi
end
def aIn (see:List (BitVec 64)) (sts:List (List (BitVec 64))) (t F:Nat):D:=aIi (vM see sts t) (yM sts.length 0) see.length F
end Kb
theorem aB9 {see:List (BitVec 64)} {sts:List (List (BitVec 64))} {t a v w:Nat} (ha:a<see.length) (hv:v<sts.length) (hw:w<sts.length) :
  decide ((sR see (stR sts w) a t).map ui=(sR see (stR sts v) a t).map ui)= decide (wE (vM see sts t) a (v,0)= wE (vM see sts t) a (w,0)):=by
 have h1:=aXj (see:=see) (sts:=sts) (t:=t) ha hv hw
 have h2:(sR see (stR sts w) a t).map ui=(sR see (stR sts v) a t).map ui ↔ sR see (stR sts v) a t=sR see (stR sts w) a t:=⟨fun h=>((List.map_inj_right fun x y=>aYz.1).1 h).symm,fun h=>by rw [h]⟩
 rw [Bool.eq_iff_iff,decide_eq_true_eq,decide_eq_true_eq,h2,h1]
end Go.Pd
