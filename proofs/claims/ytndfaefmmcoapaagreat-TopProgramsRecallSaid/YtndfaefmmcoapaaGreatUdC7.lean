/- Part C7. -/
import Derived.Test.YtndfaefmmcoapaaGreatUdC2
import Derived.Test.YtndfaefmmcoapaaGreatUdC5
import Derived.Test.YtndfaefmmcoapaaGreatUdKG
set_option linter.unusedSectionVars false
set_option linter.unusedVariables false
set_option linter.unusedSimpArgs false
set_option linter.defProp false
set_option maxRecDepth 20000
set_option maxHeartbeats 1000000
namespace Go.Pd
open Go Go.Proofs
open BitVec renaming isValue -> ZA
open Rs Fm Ru Te
namespace Te
def gL {α:Type} (L:Nat) (g h:Nat->α) (k:Nat):List α:=(List.range L).map fun i=>if i<k then g i else h i
theorem aR0 {α:Type} (L:Nat) (g h:Nat->α) (k:Nat):(gL L g h k).length=L:=by simp [gL]
theorem gU {α:Type} {L:Nat} (g h:Nat->α) (k:Nat) {i:Nat} (hi:i<L) (d:α):(gL L g h k).getD i d=if i<k then g i else h i:=by simp [gL,List.getD,hi]
theorem aRz {α:Type} (L:Nat) (g h:Nat->α) (k:Nat):(gL L g h k).set k (g k)= gL L g h (k+1):=by
 refine List.ext_getElem (by simp [gL]) fun i h1 h2=>?_;rw [List.getElem_set];simp only [gL,List.getElem_map,List.getElem_range]
 by_cases e:k=i
 ·subst e; rw [if_pos rfl,if_pos (by omega)]
 ·rw [if_neg e]
  by_cases hk:i<k
  ·rw [if_pos hk,if_pos (by omega)]
  ·rw [if_neg hk,if_neg (by omega)]
theorem aWg {α:Type} {L:Nat} {g h:Nat->α} {k:Nat} (e:g k=h k):gL L g h k=gL L g h (k+1):=by
 unfold gL;refine List.map_congr_left fun i _=>?_
 by_cases hk:i<k
 ·rw [if_pos hk,if_pos (by omega)]
 ·rw [if_neg hk]
  by_cases e2:i=k
  ·subst e2; rw [if_pos (by omega),e]
  ·rw [if_neg (by omega)]
theorem aWf {α:Type} (L:Nat) (g:Nat->α) (c:α):gL L g (fun _=>c) 0=List.replicate L c:=by refine List.ext_getElem (by simp [gL]) fun i h1 h2=>by simp [gL]
theorem aR1 {α:Type} (L:Nat) (g h:Nat->α):gL L g h L=(List.range L).map g:=by refine List.map_congr_left fun f hf=>?_;rw [if_pos (List.mem_range.1 hf)]
def aI3 (op:Int):Bool:=(decide (5<=op)&& decide (op<=8)) || decide (op=13)
def okF (f:List Nd) (fv:Nat->Bool) (k:Nat):Bool:=(if 4<=(f.getD k nd0).op then fv (f.getD k nd0).x.toNat else true)&& (if aI3 (f.getD k nd0).op=true then fv (f.getD k nd0).y.toNat else true)
end Te
theorem bVb {m:nI} {f:List Nd} (hc:xB f=0) (hreq:yB Tryz.prog 176 [m.d,.sl 6 (ndR f)] (.int .i64 0)) {sv:Nat->BitVec 64} {fv:Nat->Bool}
  (hcall:∀ k,k<f.length->okF f fv k=true->∀ x y,((xW (f.getD k nd0).op).1.x=true->x=sv (f.getD k nd0).x.toNat)->((xW (f.getD k nd0).op).1.y=true->y=sv (f.getD k nd0).y.toNat) ->
   yB Tryz.prog 177 [m.d,.agg (f.getD k nd0).row,.int .u64 (ui x),.int .u64 (ui y)] (.tup [.int .u64 (ui (sv k)),.bool (fv k)]))
  (hno:∀ k,k<f.length->okF f fv k=false->sv k=0#64/\fv k=false) :
  yB Tryz.prog 113 [m.d,.sl 6 (ndR f)] (.tup [.sl 1 (us ((List.range f.length).map sv)),.int .i64 0]):=by
 obtain⟨c1,c2,c3⟩:=wQ hc;have hn:0<f.length:=List.length_pos_iff.2 c1;unfold nI.d at hreq hcall ⊢;refine xY.xR mixed Tryz.func113 bRz (by simp) fun hf=>?_;simp only [simprocAttr,-ZA,↓zU,↓zD,zV,zT,zW]
 (repeat refine sd ?_)
 refine .go (cr hreq) ?_;simp only [simprocAttr,-ZA,↓zU,↓zD,zV,zT,zW,xI]
 (repeat refine sd ?_)
 refine xQ (fun k:Nat=>[(26,.int .i64 k),(25,.int .i64 f.length),(24,.sl 6 (ndR f)),(8,.osl 2 1 f.length),(7,.osl 1 1 f.length),(2,.ref 0 3 0 0)])
  (fun k=>⟨3,[(2,⟨1,rb (gL f.length fv (fun _=>false) k)⟩),(1,⟨1,us (gL f.length sv (fun _=>0#64) k)⟩),(0,⟨3,[[.int .i64 m.W,.sl 1 (us m.V),.sl 1 (rr m.R)]]⟩)]⟩)
  (fun k=>k<=f.length) (fun k=>f.length-k) 0 (Nat.zero_le _) ?_ ?_
 ·rw [aWf,aWf,<- iM,<- aVl]
  (refine xM.same ?_; simp [xP,Fr.get])
 intro k hk;refine xN mixed ?_;by_cases hkl:k<f.length
 case neg=>
  have hd:¬ ((k:Int)<(f.length:Int)):=by omega
  have hke:k=f.length:=by omega
  subst hke;rw [aR1,aR1];have hlen:((List.range f.length).map sv).length=f.length:=by simp
  generalize (List.range f.length).map sv=l at hlen ⊢;simp only [simprocAttr,-ZA,↓zU,↓zD,zV,zT,zW,hd];refine .drop (by simp) ?_;simp only [vw,vwL];exact⟨rfl,⟨trivial,by decide,by simp,⟨1,us l⟩,rfl,rfl,by simp only [xK]; omega,by rw [<- hlen,<- xK,List.take_length],rN l⟩,trivial,trivial⟩
 have hd:((k:Int)<(f.length:Int)):=by omega
 have hcall:=hcall k hkl;have hno:=hno k hkl;have hnd:=c3 k hkl;have hg:=pC f hkl;have hux:=bZt (f.getD k nd0).op;obtain⟨hox,hoy⟩:=oD hnd;obtain⟨⟨x,hx,hxk⟩,⟨y,hy,hyk⟩⟩:=aM3 hnd;unfold okF at hcall hno;generalize f.getD k nd0=p at hcall hno hnd hg hux hox hoy hx hy;obtain⟨op,i,e,g,px,py⟩:=p;simp only at hx hy;subst hx hy;have hrow:(Nd.row ⟨op,i,e,g,x,y⟩)= [.int .i64 op,.int .i64 i,.int .i64 e,.int .i64 g,.int .i64 x,.int .i64 y]:=rfl;rw [hrow] at hg hcall;have hxl:x<f.length:=by omega
 have hyl:y<f.length:=by omega
 have hxl':((x:Int)<(f.length:Int)):=by omega
 have hyl':((y:Int)<(f.length:Int)):=by omega
 have hSx:=gU sv (fun _=>0#64) k hxl 0#64;have hSy:=gU sv (fun _=>0#64) k hyl 0#64;have hBx:=gU fv (fun _=>false) k hxl false;have hBy:=gU fv (fun _=>false) k hyl false;have hSl:=aR0 f.length sv (fun _=>0#64) k;have hBl:=aR0 f.length fv (fun _=>false) k;have hSs:=aRz f.length sv (fun _=>0#64) k;have hBs:=aRz f.length fv (fun _=>false) k;have hSk:sv k=0#64->gL f.length sv (fun _=>0#64) k=gL f.length sv (fun _=>0#64) (k+1):=fun h=>aWg h;have hBk:fv k=false->gL f.length fv (fun _=>false) k=gL f.length fv (fun _=>false) (k+1):=fun h=>aWg h;generalize gL f.length sv (fun _=>0#64) k=S at hSx hSy hSl hSs hSk ⊢;generalize gL f.length fv (fun _=>false) k=B at hBx hBy hBl hBs hBk ⊢;simp only [Int.toNat_natCast] at hcall hno hux hox hoy;have gSx:=uW S (show x<S.length by omega);have gSy:=uW S (show y<S.length by omega);have gBx:=aNy B (show x<B.length by omega);have gBy:=aNy B (show y<B.length by omega)
 have hop:1<=op/\op<=21:=by have h2:=(vZ.1 hnd).1;simp only at h2;refine Decidable.byContradiction fun hh=>?_;rw [lP (by omega)] at h2;cases h2
 have hxu:(xW op).1.x=true->S.getD x 0#64=sv x:=fun h=>by rw [hSx,if_pos (by have:=hox h; omega)]
 have hyu:(xW op).1.y=true->S.getD y 0#64=sv y:=fun h=>by rw [hSy,if_pos (by have:=hoy h; omega)]
 have hfx:4<=op->B.getD x false=fv x:=fun h=>by
  have hu:(xW op).1.x=true:=by rw [hux,decide_eq_true h,decide_eq_true hop.2]; rfl
  rw [hBx,if_pos (by have:=hox hu; omega)]
 have hby:aI3 op=true->(xW op).1.y=true:=fun h=>by
  unfold aI3 at h;simp only [Bool.or_eq_true,Bool.and_eq_true,decide_eq_true_eq] at h;have:op=5\/op=6\/op=7\/op=8\/op=13:=by omega
  rcases this with rfl | rfl | rfl | rfl | rfl <;> rfl
 have hfy:aI3 op=true->B.getD y false=fv y:=fun h=>by rw [hBy,if_pos (by have:=hoy (hby h); omega)]
 have hc':=fun h=>hcall h (S.getD x 0#64) (S.getD y 0#64) hxu hyu;clear hcall hxu hyu hSx hSy hBx hBy;generalize S.getD x 0#64=sx at gSx hc';generalize S.getD y 0#64=sy at gSy hc';generalize B.getD x false=bx at gBx hfx;generalize B.getD y false=by' at gBy hfy
 have hwu:IntKind.i64.wrap ((k:Int)+ 1)= ((k+1:Nat):Int):=wrap_i64 (by omega);have gSk:=uW S (show k<S.length by omega);have gBk:=aNy B (show k<B.length by omega);by_cases h4:4<=op
 case neg=>
  have h5:¬ (5:Int)<=op:=by omega
  have h13:(op==13)= false:=by rw [beq_eq_false_iff_ne]; omega
  have hb:aI3 op=false:=by unfold aI3; rw [decide_eq_false h5,decide_eq_false (show ¬ op=13 by omega)]; rfl
  simp only [simprocAttr,-ZA,↓zU,↓zD,zV,zT,zW,hd,hwu,xI,hg,xK,tG,hSl,hBl,hxl',hyl',gSx,gSy,gBx,gBy,gSk,gBk,aVt,h4,h5,h13]
  (repeat refine sd ?_)
  refine .go (xY.yM (hc' (by rw [if_neg h4,hb]; rfl)) (by simp [D.xU,D.xL])) ?_;simp only [simprocAttr,-ZA,↓zU,↓zD,zV,zT,zW,hd,hwu,xI,hg,xK,tG,hSl,hBl,hxl',hyl',gSx,gSy,gBx,gBy,gSk,gBk,aVt,h4,h5,h13,lU,aZa,hSs,hBs]
  (repeat refine sd ?_)
  refine⟨k+1,by omega,?_,by omega⟩
  (refine xM.ren [] [2,1,0] (by simp) (by simp) (by decide) ?_; simp only [yK,vwL,vw,vwF,sw,St.get,St.look,Fr.get,simprocAttr,-ZA,exists_eq_left',ne_eq,zR,yD,uJ])
 have hfx:=hfx h4;subst hfx;rw [if_pos h4] at hc' hno
 cases hb:aI3 op with
 | false=>
  rw [hb,if_neg (by decide),Bool.and_true] at hc' hno
  have h13:(op==13)= false:=by rw [beq_eq_false_iff_ne]; rintro rfl; cases hb
  have h58:¬ (5<=op/\op<=8):=by rintro ⟨z1,z2⟩; unfold aI3 at hb; rw [decide_eq_true z1,decide_eq_true z2] at hb; cases hb
  by_cases h5:5<=op
  ·have h8:¬ op<=8:=by omega
   cases hf:fv x with
   | true=>
    simp only [simprocAttr,-ZA,↓zU,↓zD,zV,zT,zW,hd,hwu,xI,hg,xK,tG,hSl,hBl,hxl',hyl',gSx,gSy,gBx,gBy,gSk,gBk,aVt,h4,h5,h8,h13,hf]
    (repeat refine sd ?_)
    refine .go (cr (hc' hf)) ?_;simp only [simprocAttr,-ZA,↓zU,↓zD,zV,zT,zW,hd,hwu,xI,hg,xK,tG,hSl,hBl,hxl',hyl',gSx,gSy,gBx,gBy,gSk,gBk,aVt,h4,h5,h8,h13,hf,lU,aZa,hSs,hBs]
    (repeat refine sd ?_)
    refine⟨k+1,by omega,?_,by omega⟩
    (refine xM.ren [] [2,1,0] (by simp) (by simp) (by decide) ?_; simp only [yK,vwL,vw,vwF,sw,St.get,St.look,Fr.get,simprocAttr,-ZA,exists_eq_left',ne_eq,zR,yD,uJ])
   | false=>
    simp only [simprocAttr,-ZA,↓zU,↓zD,zV,zT,zW,hd,hwu,xI,hg,xK,tG,hSl,hBl,hxl',hyl',gSx,gSy,gBx,gBy,gSk,gBk,aVt,h4,h5,h8,h13,hf]
    (repeat refine sd ?_)
    obtain⟨q1,q2⟩:=hno hf;rw [hSk q1,hBk q2];refine⟨k+1,by omega,?_,by omega⟩
    (refine xM.ren [] [2,1,0] (by simp) (by simp) (by decide) ?_; simp only [yK,vwL,vw,vwF,sw,St.get,St.look,Fr.get,simprocAttr,-ZA,exists_eq_left',ne_eq,zR,yD,uJ])
  ·cases hf:fv x with
   | true=>
    simp only [simprocAttr,-ZA,↓zU,↓zD,zV,zT,zW,hd,hwu,xI,hg,xK,tG,hSl,hBl,hxl',hyl',gSx,gSy,gBx,gBy,gSk,gBk,aVt,h4,h5,h13,hf]
    (repeat refine sd ?_)
    refine .go (cr (hc' hf)) ?_;simp only [simprocAttr,-ZA,↓zU,↓zD,zV,zT,zW,hd,hwu,xI,hg,xK,tG,hSl,hBl,hxl',hyl',gSx,gSy,gBx,gBy,gSk,gBk,aVt,h4,h5,h13,hf,lU,aZa,hSs,hBs]
    (repeat refine sd ?_)
    refine⟨k+1,by omega,?_,by omega⟩
    (refine xM.ren [] [2,1,0] (by simp) (by simp) (by decide) ?_; simp only [yK,vwL,vw,vwF,sw,St.get,St.look,Fr.get,simprocAttr,-ZA,exists_eq_left',ne_eq,zR,yD,uJ])
   | false=>
    simp only [simprocAttr,-ZA,↓zU,↓zD,zV,zT,zW,hd,hwu,xI,hg,xK,tG,hSl,hBl,hxl',hyl',gSx,gSy,gBx,gBy,gSk,gBk,aVt,h4,h5,h13,hf]
    (repeat refine sd ?_)
    obtain⟨q1,q2⟩:=hno hf;rw [hSk q1,hBk q2];refine⟨k+1,by omega,?_,by omega⟩
    (refine xM.ren [] [2,1,0] (by simp) (by simp) (by decide) ?_; simp only [yK,vwL,vw,vwF,sw,St.get,St.look,Fr.get,simprocAttr,-ZA,exists_eq_left',ne_eq,zR,yD,uJ])
 | true=>
  have hfy:=hfy hb;subst hfy;rw [hb,if_pos rfl] at hc' hno
  by_cases h13:op=13
  ·subst h13
   cases hf:fv x with
   | false=>
    simp only [simprocAttr,-ZA,↓zU,↓zD,zV,zT,zW,hd,hwu,xI,hg,xK,tG,hSl,hBl,hxl',hyl',gSx,gSy,gBx,gBy,gSk,gBk,aVt,hf]
    (repeat refine sd ?_)
    obtain⟨q1,q2⟩:=hno (by rw [hf]; rfl);rw [hSk q1,hBk q2];refine⟨k+1,by omega,?_,by omega⟩
    (refine xM.ren [] [2,1,0] (by simp) (by simp) (by decide) ?_; simp only [yK,vwL,vw,vwF,sw,St.get,St.look,Fr.get,simprocAttr,-ZA,exists_eq_left',ne_eq,zR,yD,uJ])
   | true=>
    cases hf2:fv y with
    | true=>
     simp only [simprocAttr,-ZA,↓zU,↓zD,zV,zT,zW,hd,hwu,xI,hg,xK,tG,hSl,hBl,hxl',hyl',gSx,gSy,gBx,gBy,gSk,gBk,aVt,hf,hf2]
     (repeat refine sd ?_)
     refine .go (xY.yM (hc' (by rw [hf,hf2]; rfl)) (by simp [D.xU,D.xL])) ?_;simp only [simprocAttr,-ZA,↓zU,↓zD,zV,zT,zW,hd,hwu,xI,hg,xK,tG,hSl,hBl,hxl',hyl',gSx,gSy,gBx,gBy,gSk,gBk,aVt,hf,hf2,lU,aZa,hSs,hBs]
     (repeat refine sd ?_)
     refine⟨k+1,by omega,?_,by omega⟩
     (refine xM.ren [] [2,1,0] (by simp) (by simp) (by decide) ?_; simp only [yK,vwL,vw,vwF,sw,St.get,St.look,Fr.get,simprocAttr,-ZA,exists_eq_left',ne_eq,zR,yD,uJ])
    | false=>
     simp only [simprocAttr,-ZA,↓zU,↓zD,zV,zT,zW,hd,hwu,xI,hg,xK,tG,hSl,hBl,hxl',hyl',gSx,gSy,gBx,gBy,gSk,gBk,aVt,hf,hf2]
     (repeat refine sd ?_)
     obtain⟨q1,q2⟩:=hno (by rw [hf,hf2]; rfl);rw [hSk q1,hBk q2];refine⟨k+1,by omega,?_,by omega⟩
     (refine xM.ren [] [2,1,0] (by simp) (by simp) (by decide) ?_; simp only [yK,vwL,vw,vwF,sw,St.get,St.look,Fr.get,simprocAttr,-ZA,exists_eq_left',ne_eq,zR,yD,uJ])
  ·have h58:5<=op/\op<=8:=by unfold aI3 at hb; rw [decide_eq_false h13,Bool.or_false,Bool.and_eq_true] at hb; exact⟨of_decide_eq_true hb.1,of_decide_eq_true hb.2⟩
   have h5:=h58.1;have h8:=h58.2
   cases hf:fv x with
   | false=>
    simp only [simprocAttr,-ZA,↓zU,↓zD,zV,zT,zW,hd,hwu,xI,hg,xK,tG,hSl,hBl,hxl',hyl',gSx,gSy,gBx,gBy,gSk,gBk,aVt,h4,h5,h8,hf]
    (repeat refine sd ?_)
    obtain⟨q1,q2⟩:=hno (by rw [hf]; rfl);rw [hSk q1,hBk q2];refine⟨k+1,by omega,?_,by omega⟩
    (refine xM.ren [] [2,1,0] (by simp) (by simp) (by decide) ?_; simp only [yK,vwL,vw,vwF,sw,St.get,St.look,Fr.get,simprocAttr,-ZA,exists_eq_left',ne_eq,zR,yD,uJ])
   | true=>
    cases hf2:fv y with
    | true=>
     simp only [simprocAttr,-ZA,↓zU,↓zD,zV,zT,zW,hd,hwu,xI,hg,xK,tG,hSl,hBl,hxl',hyl',gSx,gSy,gBx,gBy,gSk,gBk,aVt,h4,h5,h8,hf,hf2]
     (repeat refine sd ?_)
     refine .go (xY.yM (hc' (by rw [hf,hf2]; rfl)) (by simp [D.xU,D.xL])) ?_;simp only [simprocAttr,-ZA,↓zU,↓zD,zV,zT,zW,hd,hwu,xI,hg,xK,tG,hSl,hBl,hxl',hyl',gSx,gSy,gBx,gBy,gSk,gBk,aVt,h4,h5,h8,hf,hf2,lU,aZa,hSs,hBs]
     (repeat refine sd ?_)
     refine⟨k+1,by omega,?_,by omega⟩
     (refine xM.ren [] [2,1,0] (by simp) (by simp) (by decide) ?_; simp only [yK,vwL,vw,vwF,sw,St.get,St.look,Fr.get,simprocAttr,-ZA,exists_eq_left',ne_eq,zR,yD,uJ])
    | false=>
     simp only [simprocAttr,-ZA,↓zU,↓zD,zV,zT,zW,hd,hwu,xI,hg,xK,tG,hSl,hBl,hxl',hyl',gSx,gSy,gBx,gBy,gSk,gBk,aVt,h4,h5,h8,hf,hf2]
     (repeat refine sd ?_)
     obtain⟨q1,q2⟩:=hno (by rw [hf,hf2]; rfl);rw [hSk q1,hBk q2];refine⟨k+1,by omega,?_,by omega⟩
     (refine xM.ren [] [2,1,0] (by simp) (by simp) (by decide) ?_; simp only [yK,vwL,vw,vwF,sw,St.get,St.look,Fr.get,simprocAttr,-ZA,exists_eq_left',ne_eq,zR,yD,uJ])
open Rs Fm Ru Te
theorem aKs {m:nI} {W:Nat} (ok:lW m W) {f:List Nd} (hc:xB f=0) (hfr:(pT .andNot .i64 (zC f:Int) 15 != 0)= false) (hft:sT f m.R.length m.V.length=true):yB Tryz.prog 176 [m.d,.sl 6 (ndR f)] (.int .i64 0):=by
 have h1:=bB ok;have h2:=oB f;have h3:=aTd f;have h4:=aMc f m.R.length m.V.length;rw [hc] at h2;rw [hft] at h4;unfold nI.d at h1 ⊢;refine xY.xR mixed Tryz.func176 bSs (by simp) fun hf=>?_;simp only [simprocAttr,-ZA,↓zU,↓zD,zV,zT,zW]
 (repeat refine sd ?_)
 refine .go (cr h1) ?_;simp only [simprocAttr,-ZA,↓zU,↓zD,zV,zT,zW];refine .go (cr h2) ?_;simp only [simprocAttr,-ZA,↓zU,↓zD,zV,zT,zW];refine .go (cr h3) ?_;simp only [simprocAttr,-ZA,↓zU,↓zD,zV,zT,zW,hfr,zP,xK]
 (repeat refine sd ?_)
 refine .go (cr h4) ?_;simp only [simprocAttr,-ZA,↓zU,↓zD,zV,zT,zW];exact .dv
namespace Te
def rX (A F:Nat):Tr->Bool
 | .nil=>true
 | .nd op i e g x y=>pS A F ⟨op,i,e,g,0,0⟩&& (rX A F x&&rX A F y)
def aQv (rs:List xD) (A F T:Nat) (t:Tr):BitVec 64:=if rX A F t=true then oL T (rs.length*T) (evT rs A T t) else 0#64
def bVh (rs:List xD) (A F T:Nat) (t:Tr):Tab:=if rX A F t=true then evT rs A T t else fun _=>false
theorem aGi (rs:List xD) (A F T:Nat) (hW:rs.length*T<=64) (t:Tr):aQv rs A F T t=oL T (rs.length*T) (bVh rs A F T t):=by
 unfold aQv bVh
 split
 ·rfl
 ·refine jL fun i _=>?_;rw [yV hW,Bool.and_false,BitVec.getLsbD_zero]
theorem aS4 {A F:Nat} {op i e g:Int} (h:pS A F ⟨op,i,e,g,0,0⟩= true):1<=op/\op<=13:=by
 unfold pS at h;simp only at h
 refine⟨Decidable.byContradiction fun hh=>?_,Decidable.byContradiction fun hh=>?_⟩
 ·rw [if_pos (by omega)] at h; cases h
 ·rw [if_neg (by omega),if_neg (by omega),if_neg (by omega),if_neg (by omega),if_neg (by omega)] at h; cases h
theorem aQj {op:Int} (h1:1<=op) (h2:op<=13):(xW op).1.y=aI3 op/\(xW op).1.x=decide (4<=op):=by
 have:op=1\/op=2\/op=3\/op=4\/op=5\/op=6\/op=7\/op=8\/op=9\/op=10\/op=11\/op=12\/op=13:=by omega
 rcases this with rfl | rfl | rfl | rfl | rfl | rfl | rfl | rfl | rfl | rfl | rfl | rfl | rfl <;> exact⟨rfl,rfl⟩
end Te
theorem aQg {rs:List xD} {A F T:Nat} (ok:OkR rs A F T) (hW:rs.length*T<=64) {f:List Nd} (hc:xB f=0) (hfr:(pT .andNot .i64 (zC f:Int) 15 != 0)= false) (hft:sT f A F=true) :
  yB Tryz.prog 54 [(iZ rs (ptl rs T) A F).d,.sl 6 (ndR f)] (.tup [.int .u64 (ui (aQv rs A F T (uQ f))),.int .i64 0]):=by
 have hl:(ptl rs T).length=rs.length*T:=vN T _;have h1:1<=rs.length*T:=Nat.mul_pos ok.hR.1 ok.hT.1;have hm:=aUy (F:=F) ok (l:=ptl rs T) (by omega) (by omega);rw [hl] at hm;have hRl:(iZ rs (ptl rs T) A F).R.length=A:=by show (mA rs (ptl rs T) A).length=A; simp [mA]
 have hVl:(iZ rs (ptl rs T) A F).V.length=F:=by show (aH rs (ptl rs T) F).length=F; simp [aH]
 obtain⟨c1,c2,c3⟩:=wQ hc;have hn:0<f.length:=List.length_pos_iff.2 c1;have hreq:=aKs hm hc hfr (by rw [hRl,hVl]; exact hft);have hS:=bVb (sv:=fun k=>aQv rs A F T (tree f k)) (fv:=fun k=>rX A F (tree f k)) hc hreq (fun k hk hok x y hx hy=>?_) fun k hk hno=>?_
 rotate_left
 ·have hnd:=c3 k hk;have ht:=wN c3 hk;unfold okF at hok;dsimp only at hok;generalize f.getD k nd0=n at hnd ht hok hx hy ⊢;rw [aGi rs A F T hW] at hx hy
  have hcom:n.op=13->n.g<(2 ^ (iZ rs (ptl rs T) A F).R.length:Nat)->lY (wU (iZ rs (ptl rs T) A F) n.g.toNat false) (pO (rs.length*T)) x y (rs.length*T+1)= lY (wU (iZ rs (ptl rs T) A F) n.g.toNat false) (pO (rs.length*T)) x y (rs.length*T):=fun h13 hg=>by
   have hu:(xW n.op).1.x=true/\(xW n.op).1.y=true/\(xW n.op).1.gr=true:=by rw [h13]; exact⟨rfl,rfl,rfl⟩
   have h1:=(vZ.1 hnd).2.2.2.2;simp only [Bool.or_eq_false_iff,hu.2.2,xC,Bool.true_and,decide_eq_false_iff_not] at h1;rw [hRl] at hg;rw [hx hu.1,hy hu.2.1];exact bXm ok hW (by omega) _ _
  have hv:=aBg hm hnd (x:=x) (y:=y) hcom;have hs:=aHw ok hW (F:=F) hnd hx hy
  have key:(pV (iZ rs (ptl rs T) A F) (rs.length*T) n x y)= (aQv rs A F T (tree f k),rX A F (tree f k)):=by
   rw [hs,ht];unfold aQv;show _=(if (pS A F ⟨n.op,n.i,n.e,n.g,0,0⟩&& (rX A F (if (xW n.op).1.x=true then tree f n.x.toNat else .nil)&& rX A F (if (xW n.op).1.y=true then tree f n.y.toNat else .nil)))= true then _ else _,pS A F ⟨n.op,n.i,n.e,n.g,0,0⟩&& (rX A F (if (xW n.op).1.x=true then tree f n.x.toNat else .nil)&& rX A F (if (xW n.op).1.y=true then tree f n.y.toNat else .nil)));have hst:pS A F ⟨n.op,n.i,n.e,n.g,0,0⟩= pS A F n:=rfl;rw [hst]
   cases hst2:pS A F n with
   | false=>rfl
   | true=>
    obtain⟨o1,o2⟩:=aS4 (hst.trans hst2);obtain⟨uy,ux⟩:=aQj o1 o2;rw [<- uy] at hok
    have fx:(xW n.op).1.x=true->rX A F (tree f n.x.toNat)= true:=fun h=>by rw [ux,decide_eq_true_iff] at h;rw [if_pos h,Bool.and_eq_true] at hok;exact hok.1
    have fy:(xW n.op).1.y=true->rX A F (tree f n.y.toNat)= true:=fun h=>by rw [if_pos h,Bool.and_eq_true] at hok;exact hok.2
    have fx':rX A F (if (xW n.op).1.x=true then tree f n.x.toNat else .nil)= true:=by
     split
     ·rename_i h; exact fx h
     ·rfl
    have fy':rX A F (if (xW n.op).1.y=true then tree f n.y.toNat else .nil)= true:=by
     split
     ·rename_i h; exact fy h
     ·rfl
    rw [fx',fy',if_pos rfl,if_pos (show (true&&(true&&true))= true from rfl)];refine Prod.ext ?_ rfl;refine congrArg (oL T (rs.length*T)) ?_;show _=zH rs A T ⟨n.op,n.i,n.e,n.g,0,0⟩ _ _
    refine aWc rfl rfl rfl (fun h=>?_) fun h=>?_
    ·rw [if_pos h,bVh,if_pos (fx h)]
    ·rw [if_pos h,bVh,if_pos (fy h)]
  rw [key] at hv;exact hv
 ·have ht:=wN c3 hk;unfold okF at hno;dsimp only at hno;generalize f.getD k nd0=n at ht hno
  have hf:rX A F (tree f k)= false:=by
   rw [ht];show (pS A F ⟨n.op,n.i,n.e,n.g,0,0⟩&& (rX A F (if (xW n.op).1.x=true then tree f n.x.toNat else .nil)&& rX A F (if (xW n.op).1.y=true then tree f n.y.toNat else .nil)))= false
   cases hst:pS A F ⟨n.op,n.i,n.e,n.g,0,0⟩ with
   | false=>rfl
   | true=>
    obtain⟨o1,o2⟩:=aS4 hst;obtain⟨uy,ux⟩:=aQj o1 o2;rw [<- uy] at hno;rw [Bool.true_and]
    by_cases h4:4<=n.op
    ·rw [if_pos h4] at hno;rw [if_pos (by rw [ux,decide_eq_true h4])]
     cases hy:(xW n.op).1.y with
     | true=>rw [hy,if_pos rfl] at hno; rw [if_pos rfl]; exact hno
     | false=>rw [hy,if_neg (by decide),Bool.and_true] at hno; rw [hno]; rfl
    ·rw [if_neg h4] at hno
     cases hy:(xW n.op).1.y with
     | true=>rw [hy,if_pos rfl,Bool.true_and] at hno; rw [if_pos rfl,hno,Bool.and_false]
     | false=>rw [hy] at hno; cases hno
  exact⟨by unfold aQv; rw [hf,if_neg (by decide)],hf⟩
 have hlast:((List.range f.length).map fun k=>aQv rs A F T (tree f k)).getD (f.length-1) 0=aQv rs A F T (uQ f):=by
  have:f.length-1<f.length:=by omega
  simp [List.getD,this,uQ]
 have hlen:((List.range f.length).map fun k=>aQv rs A F T (tree f k)).length=f.length:=by simp
 generalize ((List.range f.length).map fun k=>aQv rs A F T (tree f k))= l at hS hlast hlen;have hg:=uW l (show f.length-1<l.length by omega);rw [hlast] at hg;have hw:IntKind.i64.wrap ((l.length:Int)-1)= ((f.length-1:Nat):Int):=by rw [hlen,wrap_i64 (by omega)]; omega
 have hlt:((f.length-1:Nat):Int)<(l.length:Int):=by omega
 unfold nI.d at hS ⊢;refine xY.xR mixed Tryz.func54 k54 (by simp) fun hf=>?_;simp only [simprocAttr,-ZA,↓zU,↓zD,zV,zT,zW]
 (repeat refine sd ?_)
 refine .go (cr hS) ?_;simp only [simprocAttr,-ZA,↓zU,↓zD,zV,zT,zW,xK,hw,hg,hlt]
 (repeat refine sd ?_)
 exact .drop (by simp) (by simp [vw,vwL])
open Rs Fm Ru Te
namespace Te
def bVk (rs:List xD) (t:Nat):List xD:=rs.map fun r=>⟨[r.loc.getD t []],[r.fac.getD t 0]⟩
section
variable {rs : List xD} {A F T t : Nat}
theorem aAb {i:Nat} (hi:i<rs.length):(bVk rs t).getD i qT=⟨[(rs.getD i qT).loc.getD t []],[(rs.getD i qT).fac.getD t 0]⟩:=by simp [bVk,List.getD,hi]
theorem aB9 {a i:Nat} (hi:i<rs.length):yQ (bVk rs t) a (i,0)= yQ rs a (i,t):=by unfold yQ;simp only [aAb hi];rfl
theorem oY {R i:Nat} (hi:i<R):(vA R t).getD i (0,0)= (i,t):=by simp [vA,List.getD,hi]
theorem pD (a:Nat) (x:Int):∀ k,k<=rs.length->Ru.aF (bVk rs t) (vA rs.length 0) a x k=Ru.aF rs (vA rs.length t) a x k
 | 0,_=>rfl
 | k+1,h=>by unfold Ru.aF;rw [pD a x k (by omega),oY (by omega),oY (by omega),aB9 (by omega)]
end
end Te
open Rs Fm Ru Te Kb
namespace Kb
def stR (sts:List (List (BitVec 64))) (i:Nat):List (BitVec 64):=sts.getD i []
def cC (see:List (BitVec 64)) (sts:List (List (BitVec 64))) (t a w:Nat):Nat:=(List.range sts.length).findIdx fun v=>decide (nJ see (stR sts v) a t=nJ see (stR sts w) a t)
def vP (see:List (BitVec 64)) (sts:List (List (BitVec 64))) (t:Nat):List xD:=(List.range sts.length).map fun w=>⟨[(List.range see.length).map fun a=>((cC see sts t a w:Nat):Int)],[(stR sts w).getD t 0]⟩
section
variable {see : List (BitVec 64)} {sts : List (List (BitVec 64))} {t : Nat}
theorem lB : (vP see sts t).length=sts.length:=by simp [vP]
theorem fH {i:Nat} (hi:i<sts.length):(vP see sts t).getD i qT=⟨[(List.range see.length).map fun a=>((cC see sts t a i:Nat):Int)],[(stR sts i).getD t 0]⟩:=by simp [vP,List.getD,hi]
theorem aYw {n:Nat} {q:Nat->Bool} (h:∃ i,i<n/\q i=true):(List.range n).findIdx q<n/\q ((List.range n).findIdx q)= true:=by obtain⟨i,hi,hq⟩:=h;have h1:(List.range n).findIdx q<(List.range n).length:=List.findIdx_lt_length.2 ⟨i,List.mem_range.2 hi,hq⟩;refine⟨by simpa using h1,?_⟩;have:=List.findIdx_getElem (p:=q) (w:=h1);simpa using this
theorem aWj {a w:Nat} (hw:w<sts.length):cC see sts t a w<sts.length/\nJ see (stR sts (cC see sts t a w)) a t=nJ see (stR sts w) a t:=by have:=aYw (n:=sts.length) (q:=fun v=>decide (nJ see (stR sts v) a t=nJ see (stR sts w) a t)) ⟨w,hw,by simp⟩;refine⟨this.1,?_⟩;have h2:=this.2;simp only [decide_eq_true_eq] at h2;exact h2
theorem aF7 {a v w:Nat} (hv:v<sts.length) (hw:w<sts.length):cC see sts t a v=cC see sts t a w ↔ nJ see (stR sts v) a t=nJ see (stR sts w) a t:=by
 constructor
 ·intro h;rw [<- (aWj (see:=see) (t:=t) (a:=a) hv).2,<- (aWj (see:=see) (t:=t) (a:=a) hw).2,h]
 ·intro h;unfold cC;rw [h]
theorem aXv {a v w:Nat} (ha:a<see.length) (hv:v<sts.length) (hw:w<sts.length):yQ (vP see sts t) a (v,0)= yQ (vP see sts t) a (w,0) ↔ nJ see (stR sts v) a t=nJ see (stR sts w) a t:=by unfold yQ;simp only [fH hv,fH hw];rw [<- aF7 hv hw];simp [List.getD,ha];omega
theorem aH2 {w:Nat} (hw:w<sts.length):aO9 (vP see sts t) (w,0)= (stR sts w).getD t 0:=by unfold aO9;simp only [fH hw];rfl
theorem aH1 : ptl (vP see sts t) 1=vA sts.length 0:=by unfold ptl ptN vA;rw [lB,Nat.mul_one];refine List.map_congr_left fun i _=>?_;rw [Nat.div_one,Nat.mod_one]
theorem aBn {F:Nat} (hA:see.length<=4) (hF:F<=8) (hR:1<=sts.length/\sts.length<=64) (hv:∀ w,w<sts.length->(stR sts w).getD t 0 >>> F=0#64):OkR (vP see sts t) see.length F 1 where
 hA:=hA
 hF:=hF
 hT:=⟨by omega,by omega⟩
 hR:=by rw [lB]; exact hR
 hP:=by rw [lB]; omega
 loc:=fun r hr=>by simp only [vP,List.mem_map] at hr;obtain⟨i,_,rfl⟩:=hr;rfl
 fac:=fun r hr=>by simp only [vP,List.mem_map] at hr;obtain⟨i,_,rfl⟩:=hr;rfl
 row:=fun r hr l hl=>by simp only [vP,List.mem_map] at hr;obtain⟨i,_,rfl⟩:=hr;simp only [List.mem_singleton] at hl;subst hl;simp
 val:=fun r hr x hx=>by simp only [vP,List.mem_map,List.mem_range] at hr;obtain⟨i,hi,rfl⟩:=hr;simp only [List.mem_singleton] at hx;subst hx;exact hv i hi
end
def aI9 (see:List (BitVec 64)) (sts:List (List (BitVec 64))) (t F:Nat):D:=bYj (vP see sts t) (vA sts.length 0) see.length F
end Kb
theorem aA4 {see:List (BitVec 64)} {sts:List (List (BitVec 64))} {t a v w:Nat} (ha:a<see.length) (hv:v<sts.length) (hw:w<sts.length) :
  decide ((nJ see (stR sts w) a t).map ui=(nJ see (stR sts v) a t).map ui)= decide (yQ (vP see sts t) a (v,0)= yQ (vP see sts t) a (w,0)):=by
 have h1:=aXv (see:=see) (sts:=sts) (t:=t) ha hv hw
 have h2:(nJ see (stR sts w) a t).map ui=(nJ see (stR sts v) a t).map ui ↔ nJ see (stR sts v) a t=nJ see (stR sts w) a t:=⟨fun h=>((List.map_inj_right fun x y=>aDt.1).1 h).symm,fun h=>by rw [h]⟩
 rw [Bool.eq_iff_iff,decide_eq_true_eq,decide_eq_true_eq,h2,h1]
end Go.Pd
