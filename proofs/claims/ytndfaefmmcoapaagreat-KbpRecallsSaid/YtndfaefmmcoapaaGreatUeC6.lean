/- Part C6. -/
import Derived.Test.YtndfaefmmcoapaaGreatUeQA
import Derived.Test.YtndfaefmmcoapaaGreatUeC2
import Derived.Test.YtndfaefmmcoapaaGreatUeKG
set_option linter.unusedSectionVars false
set_option linter.unusedVariables false
set_option linter.unusedSimpArgs false
set_option linter.defProp false
set_option maxRecDepth 20000
set_option maxHeartbeats 1000000
namespace Go.Pd
open Go Go.Proofs
open Rs Fm Ru Te
namespace Te
def qK (A F:Nat) (n:Nd):Bool:= if n.op<1 then false else if n.op=3 then decide (n.i<(F:Int)) else if n.op<=8 then true else if n.op<=10 then decide (n.i<(A:Int)) else if n.op<=13 then decide (n.g<((2 ^ A:Nat):Int)) else false
theorem aI3 {A F:Nat} {n:Nd} (h:n.op<1\/21<n.op):qK A F n=false:=by rcases h with h | h <;> unfold qK <;> repeat (first | rw [if_pos (by omega)] | rw [if_neg (by omega)])
theorem aDw {m:oB} {W:Nat} {n:Nd} {x y:BitVec 64} (h:n.op<1\/21<n.op):qN m W n x y=(0#64,false):=by unfold qN; repeat rw [if_neg (by omega)]
theorem cH {T W:Nat} {x y:Tab} (h:∀ v,v<W->x (pt T v)= y (pt T v)) (hW:W<=64):pB T W x=pB T W y:=by
 refine jX fun i _=>?_;rw [yT hW,yT hW]
 by_cases hi:i<W
 ·rw [h i hi]
 ·rw [decide_eq_false hi,Bool.false_and,Bool.false_and]
theorem aCh {rs:List zZ} {T v:Nat} (hv:v<rs.length*T):pt T v ∈ ptl rs T:=by unfold ptl ptN;exact List.mem_map.2 ⟨v,List.mem_range.2 hv,rfl⟩
theorem aFb (rs:List zZ) (A T g:Nat) (x y:Tab) {p:Nat × Nat} (hp:p ∈ ptl rs T):eA rs A T g x y (rs.length*T+1) p=eA rs A T g x y (rs.length*T) p:=by obtain⟨n,h1,h2⟩:=aFc (rs:=rs) (A:=A) (T:=T) g x y;obtain⟨m,hm⟩:=Nat.exists_eq_add_of_le h1;rw [hm,fA h2 m p hp,show n+m+1=n+(m+1) by omega,fA h2 (m+1) p hp]
section
variable {rs : List zZ} {A F T : Nat}
theorem aBx (ok:OkR rs A F T) (hW:rs.length*T<=64) {g:Nat} (hg:1<=g/\g<2 ^ A) (x y:Tab) :
  mZ (wW (jN rs (ptl rs T) A F) g false) (qE (rs.length*T)) (pB T (rs.length*T) x) (pB T (rs.length*T) y) (rs.length*T+1)= mZ (wW (jN rs (ptl rs T) A F) g false) (qE (rs.length*T)) (pB T (rs.length*T) x) (pB T (rs.length*T) y) (rs.length*T):=by
 have hl:(ptl rs T).length=rs.length*T:=tV T _;have h1:1<=rs.length*T:=Nat.mul_pos ok.hR.1 ok.hT.1;have hm:=aV0 (F:=F) ok (l:=ptl rs T) (by omega) (by omega);rw [hl] at hm;have hRl:(jN rs (ptl rs T) A F).R.length=A:=by show (nA rs (ptl rs T) A).length=A; simp [nA]
 have hk:∀ a,a<A->aDa rs T ((jN rs (ptl rs T) A F).R.getD a []) fun p q=>decide (zH rs a q=zH rs a p):=fun a ha=>aT5 ha hW;rw [oG hm rfl hRl (by rw [hRl]; exact hg) hk,oG hm rfl hRl (by rw [hRl]; exact hg) hk];exact cH (fun v hv=>aFb rs A T g x y (aCh hv)) hW
theorem aIs (ok:OkR rs A F T) (hW:rs.length*T<=64) {n:Nd} {k:Int} (hn:yA n k=0) {x y:BitVec 64} {tx ty:Tab} (hx:(xZ n.op).1.x=true->x=pB T (rs.length*T) tx) (hy:(xZ n.op).1.y=true->y=pB T (rs.length*T) ty) :
  qN (jN rs (ptl rs T) A F) (rs.length*T) n x y=if qK A F n=true then(pB T (rs.length*T) (aQa rs A T n tx ty),true) else(0#64,false):=by
 have hl:(ptl rs T).length=rs.length*T:=tV T _;have h1:1<=rs.length*T:=Nat.mul_pos ok.hR.1 ok.hT.1;have hm:=aV0 (F:=F) ok (l:=ptl rs T) (by omega) (by omega);rw [hl] at hm;have hRl:(jN rs (ptl rs T) A F).R.length=A:=by show (nA rs (ptl rs T) A).length=A; simp [nA]
 have hVl:(jN rs (ptl rs T) A F).V.length=F:=by show (bJ rs (ptl rs T) F).length=F; simp [bJ]
 have hk:∀ a,a<A->aDa rs T ((jN rs (ptl rs T) A F).R.getD a []) fun p q=>decide (zH rs a q=zH rs a p):=fun a ha=>aT5 ha hW
 have hVg:∀ f,f<F->∀ i,((jN rs (ptl rs T) A F).V.getD f 0).getLsbD i=(decide (i<rs.length*T)&& (aJ1 rs (pt T i)).getLsbD f):=fun f hf i=>by
  have e:(jN rs (ptl rs T) A F).V.getD f 0=eB rs (ptl rs T) f (ptl rs T).length:=by show (bJ rs (ptl rs T) F).getD f 0=_;simp [bJ,List.getD,hf]
  rw [e,hl,aJ _ _ hW]
  by_cases hi:i<rs.length*T
  ·rw [aNc hi]
  ·rw [decide_eq_false hi,Bool.false_and,Bool.false_and]
 have hi0:n.op=3\/n.op=9\/n.op=10->0<=n.i:=fun h=>by
  rcases h with h | h | h
  ·exact(nO hn (by rw [h]; rfl)).1
  ·exact(uG hn (by rw [h]; rfl)).1
  ·exact(uG hn (by rw [h]; rfl)).1
 have hg0:n.op=11\/n.op=12\/n.op=13->1<=n.g/\n.g<=15:=fun h=>by
  have hgr:(xZ n.op).1.gr=true:=by rcases h with h | h | h <;> rw [h] <;> rfl
  have h1:=(wT.1 hn).2.2.2.2;simp only [Bool.or_eq_false_iff,hgr,xM,Bool.true_and,decide_eq_false_iff_not] at h1;omega
 obtain⟨op,i,e,g,a,b⟩:=n;simp only at hi0 hg0 hx hy;generalize hm':jN rs (ptl rs T) A F=m at *;generalize hWW:rs.length*T=W at *;have fin:∀ {p q:BitVec 64},(∀ v,v<64->p.getLsbD v=q.getLsbD v)->(p,true)= (q,true):=fun h=>by rw [jX h]
 rcases uV op with rfl | rfl | rfl | rfl | rfl | rfl | rfl | rfl | rfl | rfl | rfl | rfl | rfl | rfl | rfl | rfl | rfl | rfl | rfl | rfl | rfl | h | h
 ·show (qE W,true)= (pB T W fun _=>true,true);rw [aRs hW]
 ·show (0#64,true)= (pB T W fun _=>false,true);refine fin fun v _=>?_;rw [yT hW,Bool.and_false,BitVec.getLsbD_zero]
 ·have h0:=hi0 (.inl rfl);show (if i<(m.V.length:Int) then(m.V.getD i.toNat 0,true) else(0#64,false))= if decide (i<(F:Int))= true then(pB T W fun p=>(aJ1 rs p).getLsbD i.toNat,true) else(0#64,false);rw [hVl]
  by_cases hlt:i<(F:Int)
  ·rw [if_pos hlt,if_pos (decide_eq_true hlt)];refine fin fun v _=>?_;rw [hVg i.toNat (by omega),yT hW]
  ·rw [if_neg hlt,if_neg (by simpa using hlt)]
 ·have hx:=hx rfl;show (qE W &&& ~~~x,true)= (pB T W fun p=>!tx p,true);refine fin fun v hv=>?_;rw [hx,BitVec.getLsbD_and,BitVec.getLsbD_not,rX hW hv,yT hW,yT hW,decide_eq_true hv];cases decide (v<W) <;> simp
 ·have hx:=hx rfl;have hy:=hy rfl;show (x &&& y,true)= (pB T W fun p=>tx p&&ty p,true);refine fin fun v hv=>?_;rw [hx,hy,BitVec.getLsbD_and,yT hW,yT hW,yT hW];cases decide (v<W) <;> simp
 ·have hx:=hx rfl;have hy:=hy rfl;show (x ||| y,true)= (pB T W fun p=>tx p || ty p,true);refine fin fun v hv=>?_;rw [hx,hy,BitVec.getLsbD_or,yT hW,yT hW,yT hW];cases decide (v<W) <;> simp
 ·have hx:=hx rfl;have hy:=hy rfl;show (qE W &&& ~~~x ||| y,true)= (pB T W fun p=>!tx p || ty p,true);refine fin fun v hv=>?_;rw [hx,hy,BitVec.getLsbD_or,BitVec.getLsbD_and,BitVec.getLsbD_not,rX hW hv,yT hW,yT hW,yT hW,decide_eq_true hv];cases decide (v<W) <;> simp
 ·have hx:=hx rfl;have hy:=hy rfl;show (qE W &&& ~~~(x ^^^ y),true)= (pB T W fun p=>tx p==ty p,true);refine fin fun v hv=>?_;rw [hx,hy,BitVec.getLsbD_and,BitVec.getLsbD_not,BitVec.getLsbD_xor,rX hW hv,yT hW,yT hW,yT hW,decide_eq_true hv];cases decide (v<W) <;> cases tx (pt T v) <;> cases ty (pt T v) <;> rfl
 ·have h0:=hi0 (.inr (.inl rfl));have hx:=hx rfl;show (if i<(m.R.length:Int) then(aX7 (m.R.getD i.toNat []) x,true) else(0#64,false))= if decide (i<(A:Int))= true then(pB T W (dR rs T i.toNat tx),true) else(0#64,false);rw [hRl]
  by_cases hlt:i<(A:Int)
  ·rw [if_pos hlt,if_pos (decide_eq_true hlt)];have:=gG (by omega) (hk i.toNat (by omega)) (s:=x) (x:=tx) fun v hv=>by rw [hx,yT hW,decide_eq_true (by omega),Bool.true_and]
   rw [this,hWW];rfl
  ·rw [if_neg hlt,if_neg (by simpa using hlt)]
 ·have h0:=hi0 (.inr (.inr rfl));have hx:=hx rfl;show (if i<(m.R.length:Int) then(aAz (m.R.getD i.toNat []) x,true) else(0#64,false))= if decide (i<(A:Int))= true then(pB T W fun p=>!dR rs T i.toNat (fun q=>!tx q) p,true) else(0#64,false);rw [hRl]
  by_cases hlt:i<(A:Int)
  ·rw [if_pos hlt,if_pos (decide_eq_true hlt)];have hkk:=hk i.toNat (by omega);have:=gG (by omega) hkk (s:= ~~~x) (x:=fun q=>!tx q) fun v hv=>by rw [hx,BitVec.getLsbD_not,yT hW,decide_eq_true (show v<64 by omega),decide_eq_true (show v<W by omega),Bool.true_and,Bool.true_and]
   unfold aAz;rw [this,hkk.1,hWW];refine fin fun v hv=>?_;rw [BitVec.getLsbD_and,BitVec.getLsbD_not,rX hW hv,yT hW,yT hW,decide_eq_true hv];show (decide (v<W)&& (true&&!(decide (v<W)&& dR rs T i.toNat (fun q=>!tx q) (pt T v))))= _;cases decide (v<W) <;> simp
  ·rw [if_neg hlt,if_neg (by simpa using hlt)]
 ·have h0:=hg0 (.inl rfl);have hx:=hx rfl;show (if g<((2 ^ m.R.length:Nat):Int) then(aX7 (wW m g.toNat false) x,true) else(0#64,false))= if decide (g<((2 ^ A:Nat):Int))= true then(pB T W (pU rs A T g.toNat tx),true) else(0#64,false);rw [hRl]
  by_cases hlt:g<((2 ^ A:Nat):Int)
  ·rw [if_pos hlt,if_pos (decide_eq_true hlt)];have hrel:=fI hm hWW hRl (g:=g.toNat) (by rw [hRl]; omega) false hk;have:=gG (by omega) hrel (s:=x) (x:=tx) fun v hv=>by rw [hx,yT hW,decide_eq_true (by omega),Bool.true_and]
   rw [this,hWW];refine congrArg (fun z=>(z,true)) (cH (fun v _=>?_) hW);rw [aZ3];rfl
  ·rw [if_neg hlt,if_neg (by simpa using hlt)]
 ·have h0:=hg0 (.inr (.inl rfl));have hx:=hx rfl;show (if g<((2 ^ m.R.length:Nat):Int) then(aX7 (wW m g.toNat true) x,true) else(0#64,false))= if decide (g<((2 ^ A:Nat):Int))= true then(pB T W (bXs rs A T g.toNat tx),true) else(0#64,false);rw [hRl]
  by_cases hlt:g<((2 ^ A:Nat):Int)
  ·rw [if_pos hlt,if_pos (decide_eq_true hlt)];have hrel:=fI hm hWW hRl (g:=g.toNat) (by rw [hRl]; omega) true hk;have:=gG (by omega) hrel (s:=x) (x:=tx) fun v hv=>by rw [hx,yT hW,decide_eq_true (by omega),Bool.true_and]
   rw [this,hWW];rfl
  ·rw [if_neg hlt,if_neg (by simpa using hlt)]
 ·have h0:=hg0 (.inr (.inr rfl));have hx:=hx rfl;have hy:=hy rfl;show (if g<((2 ^ m.R.length:Nat):Int) then(mZ (wW m g.toNat false) (qE W) x y W,true) else(0#64,false))= if decide (g<((2 ^ A:Nat):Int))= true then(pB T W (aV9 rs A T g.toNat tx ty),true) else(0#64,false);rw [hRl]
  by_cases hlt:g<((2 ^ A:Nat):Int)
  ·rw [if_pos hlt,if_pos (decide_eq_true hlt),hx,hy,oG hm hWW hRl (by rw [hRl]; omega) hk];unfold aV9;rw [hWW]
  ·rw [if_neg hlt,if_neg (by simpa using hlt)]
 all_goals first
  | rfl
  | (rw [aI3 (by first | exact .inl h | exact .inr h),if_neg (by decide)]; exact aDw (by first | exact .inl h | exact .inr h))
end
end Te
end Go.Pd

/- Part C7. -/
namespace Go.Pd
open Go Go.Proofs
open BitVec renaming isValue -> ZA
open Rs Fm Ru Te
namespace Te
def gY {α:Type} (L:Nat) (g h:Nat->α) (k:Nat):List α:=(List.range L).map fun i=>if i<k then g i else h i
theorem aSu {α:Type} (L:Nat) (g h:Nat->α) (k:Nat):(gY L g h k).length=L:=by simp [gY]
theorem iI {α:Type} {L:Nat} (g h:Nat->α) (k:Nat) {i:Nat} (hi:i<L) (d:α):(gY L g h k).getD i d=if i<k then g i else h i:=by simp [gY,List.getD,hi]
theorem aSt {α:Type} (L:Nat) (g h:Nat->α) (k:Nat):(gY L g h k).set k (g k)= gY L g h (k+1):=by
 refine List.ext_getElem (by simp [gY]) fun i h1 h2=>?_;rw [List.getElem_set];simp only [gY,List.getElem_map,List.getElem_range]
 by_cases e:k=i
 ·subst e; rw [if_pos rfl,if_pos (by omega)]
 ·rw [if_neg e]
  by_cases hk:i<k
  ·rw [if_pos hk,if_pos (by omega)]
  ·rw [if_neg hk,if_neg (by omega)]
theorem aZg {α:Type} {L:Nat} {g h:Nat->α} {k:Nat} (e:g k=h k):gY L g h k=gY L g h (k+1):=by
 unfold gY;refine List.map_congr_left fun i _=>?_
 by_cases hk:i<k
 ·rw [if_pos hk,if_pos (by omega)]
 ·rw [if_neg hk]
  by_cases e2:i=k
  ·subst e2; rw [if_pos (by omega),e]
  ·rw [if_neg (by omega)]
theorem aZf {α:Type} (L:Nat) (g:Nat->α) (c:α):gY L g (fun _=>c) 0=List.replicate L c:=by refine List.ext_getElem (by simp [gY]) fun i h1 h2=>by simp [gY]
theorem aSv {α:Type} (L:Nat) (g h:Nat->α):gY L g h L=(List.range L).map g:=by refine List.map_congr_left fun f hf=>?_;rw [if_pos (List.mem_range.1 hf)]
def aJv (op:Int):Bool:=(decide (5<=op)&& decide (op<=8)) || decide (op=13)
def okF (f:List Nd) (fv:Nat->Bool) (k:Nat):Bool:=(if 4<=(f.getD k nd0).op then fv (f.getD k nd0).x.toNat else true)&& (if aJv (f.getD k nd0).op=true then fv (f.getD k nd0).y.toNat else true)
end Te
theorem bZh {m:oB} {f:List Nd} (hc:yY f=0) (hreq:yV Tryz.prog 176 [m.d,.sl 6 (ndR f)] (.int .i64 0)) {sv:Nat->BitVec 64} {fv:Nat->Bool}
  (hcall:∀ k,k<f.length->okF f fv k=true->∀ x y,((xZ (f.getD k nd0).op).1.x=true->x=sv (f.getD k nd0).x.toNat)->((xZ (f.getD k nd0).op).1.y=true->y=sv (f.getD k nd0).y.toNat) ->
   yV Tryz.prog 177 [m.d,.agg (f.getD k nd0).row,.int .u64 (ui x),.int .u64 (ui y)] (.tup [.int .u64 (ui (sv k)),.bool (fv k)]))
  (hno:∀ k,k<f.length->okF f fv k=false->sv k=0#64/\fv k=false) :
  yV Tryz.prog 113 [m.d,.sl 6 (ndR f)] (.tup [.sl 1 (us ((List.range f.length).map sv)),.int .i64 0]):=by
 obtain⟨c1,c2,c3⟩:=wP hc;have hn:0<f.length:=List.length_pos_iff.2 c1;unfold oB.d at hreq hcall ⊢;refine xX.xP mixed Tryz.func113 bT3 (by simp) fun hf=>?_;simp only [simprocAttr,-ZA,↓zU,↓zD,zV,zT,zW]
 (repeat refine sd ?_)
 refine .go (cr hreq) ?_;simp only [simprocAttr,-ZA,↓zU,↓zD,zV,zT,zW,xJ]
 (repeat refine sd ?_)
 refine xW (fun k:Nat=>[(26,.int .i64 k),(25,.int .i64 f.length),(24,.sl 6 (ndR f)),(8,.osl 2 1 f.length),(7,.osl 1 1 f.length),(2,.ref 0 3 0 0)])
  (fun k=>⟨3,[(2,⟨1,rb (gY f.length fv (fun _=>false) k)⟩),(1,⟨1,us (gY f.length sv (fun _=>0#64) k)⟩),(0,⟨3,[[.int .i64 m.W,.sl 1 (us m.V),.sl 1 (rr m.R)]]⟩)]⟩)
  (fun k=>k<=f.length) (fun k=>f.length-k) 0 (Nat.zero_le _) ?_ ?_
 ·rw [aZf,aZf,<- jH,<- aWu]
  (refine xI.same ?_; simp [xR,Fr.get])
 intro k hk;refine xQ mixed ?_;by_cases hkl:k<f.length
 case neg=>
  have hd:¬ ((k:Int)<(f.length:Int)):=by omega
  have hke:k=f.length:=by omega
  subst hke;rw [aSv,aSv];have hlen:((List.range f.length).map sv).length=f.length:=by simp
  generalize (List.range f.length).map sv=l at hlen ⊢;simp only [simprocAttr,-ZA,↓zU,↓zD,zV,zT,zW,hd];refine .drop (by simp) ?_;simp only [vw,vwL];exact⟨rfl,⟨trivial,by decide,by simp,⟨1,us l⟩,rfl,rfl,by simp only [xO]; omega,by rw [<- hlen,<- xO,List.take_length],rT l⟩,trivial,trivial⟩
 have hd:((k:Int)<(f.length:Int)):=by omega
 have hcall:=hcall k hkl;have hno:=hno k hkl;have hnd:=c3 k hkl;have hg:=uN f hkl;have hux:=aF6 (f.getD k nd0).op;obtain⟨hox,hoy⟩:=qZ hnd;obtain⟨⟨x,hx,hxk⟩,⟨y,hy,hyk⟩⟩:=aN4 hnd;unfold okF at hcall hno;generalize f.getD k nd0=p at hcall hno hnd hg hux hox hoy hx hy;obtain⟨op,i,e,g,px,py⟩:=p;simp only at hx hy;subst hx hy;have hrow:(Nd.row ⟨op,i,e,g,x,y⟩)= [.int .i64 op,.int .i64 i,.int .i64 e,.int .i64 g,.int .i64 x,.int .i64 y]:=rfl;rw [hrow] at hg hcall;have hxl:x<f.length:=by omega
 have hyl:y<f.length:=by omega
 have hxl':((x:Int)<(f.length:Int)):=by omega
 have hyl':((y:Int)<(f.length:Int)):=by omega
 have hSx:=iI sv (fun _=>0#64) k hxl 0#64;have hSy:=iI sv (fun _=>0#64) k hyl 0#64;have hBx:=iI fv (fun _=>false) k hxl false;have hBy:=iI fv (fun _=>false) k hyl false;have hSl:=aSu f.length sv (fun _=>0#64) k;have hBl:=aSu f.length fv (fun _=>false) k;have hSs:=aSt f.length sv (fun _=>0#64) k;have hBs:=aSt f.length fv (fun _=>false) k;have hSk:sv k=0#64->gY f.length sv (fun _=>0#64) k=gY f.length sv (fun _=>0#64) (k+1):=fun h=>aZg h;have hBk:fv k=false->gY f.length fv (fun _=>false) k=gY f.length fv (fun _=>false) (k+1):=fun h=>aZg h;generalize gY f.length sv (fun _=>0#64) k=S at hSx hSy hSl hSs hSk ⊢;generalize gY f.length fv (fun _=>false) k=B at hBx hBy hBl hBs hBk ⊢;simp only [Int.toNat_natCast] at hcall hno hux hox hoy;have gSx:=zE S (show x<S.length by omega);have gSy:=zE S (show y<S.length by omega);have gBx:=aNb B (show x<B.length by omega);have gBy:=aNb B (show y<B.length by omega)
 have hop:1<=op/\op<=21:=by have h2:=(wT.1 hnd).1;simp only at h2;refine Decidable.byContradiction fun hh=>?_;rw [wV (by omega)] at h2;cases h2
 have hxu:(xZ op).1.x=true->S.getD x 0#64=sv x:=fun h=>by rw [hSx,if_pos (by have:=hox h; omega)]
 have hyu:(xZ op).1.y=true->S.getD y 0#64=sv y:=fun h=>by rw [hSy,if_pos (by have:=hoy h; omega)]
 have hfx:4<=op->B.getD x false=fv x:=fun h=>by
  have hu:(xZ op).1.x=true:=by rw [hux,decide_eq_true h,decide_eq_true hop.2]; rfl
  rw [hBx,if_pos (by have:=hox hu; omega)]
 have hby:aJv op=true->(xZ op).1.y=true:=fun h=>by
  unfold aJv at h;simp only [Bool.or_eq_true,Bool.and_eq_true,decide_eq_true_eq] at h;have:op=5\/op=6\/op=7\/op=8\/op=13:=by omega
  rcases this with rfl | rfl | rfl | rfl | rfl <;> rfl
 have hfy:aJv op=true->B.getD y false=fv y:=fun h=>by rw [hBy,if_pos (by have:=hoy (hby h); omega)]
 have hc':=fun h=>hcall h (S.getD x 0#64) (S.getD y 0#64) hxu hyu;clear hcall hxu hyu hSx hSy hBx hBy;generalize S.getD x 0#64=sx at gSx hc';generalize S.getD y 0#64=sy at gSy hc';generalize B.getD x false=bx at gBx hfx;generalize B.getD y false=by' at gBy hfy
 have hwu:IntKind.i64.wrap ((k:Int)+ 1)= ((k+1:Nat):Int):=wrap_i64 (by omega);have gSk:=zE S (show k<S.length by omega);have gBk:=aNb B (show k<B.length by omega);by_cases h4:4<=op
 case neg=>
  have h5:¬ (5:Int)<=op:=by omega
  have h13:(op==13)= false:=by rw [beq_eq_false_iff_ne]; omega
  have hb:aJv op=false:=by unfold aJv; rw [decide_eq_false h5,decide_eq_false (show ¬ op=13 by omega)]; rfl
  simp only [simprocAttr,-ZA,↓zU,↓zD,zV,zT,zW,hd,hwu,xJ,hg,xO,tT,hSl,hBl,hxl',hyl',gSx,gSy,gBx,gBy,gSk,gBk,aW2,h4,h5,h13]
  (repeat refine sd ?_)
  refine .go (xX.yN (hc' (by rw [if_neg h4,hb]; rfl)) (by simp [D.xU,D.xG])) ?_;simp only [simprocAttr,-ZA,↓zU,↓zD,zV,zT,zW,hd,hwu,xJ,hg,xO,tT,hSl,hBl,hxl',hyl',gSx,gSy,gBx,gBy,gSk,gBk,aW2,h4,h5,h13,mS,aYh,hSs,hBs]
  (repeat refine sd ?_)
  refine⟨k+1,by omega,?_,by omega⟩
  (refine xI.ren [] [2,1,0] (by simp) (by simp) (by decide) ?_; simp only [yQ,vwL,vw,vwF,sw,St.get,St.look,Fr.get,simprocAttr,-ZA,exists_eq_left',ne_eq,zR,yC,uW])
 have hfx:=hfx h4;subst hfx;rw [if_pos h4] at hc' hno
 cases hb:aJv op with
 | false=>
  rw [hb,if_neg (by decide),Bool.and_true] at hc' hno
  have h13:(op==13)= false:=by rw [beq_eq_false_iff_ne]; rintro rfl; cases hb
  have h58:¬ (5<=op/\op<=8):=by rintro ⟨z1,z2⟩; unfold aJv at hb; rw [decide_eq_true z1,decide_eq_true z2] at hb; cases hb
  by_cases h5:5<=op
  ·have h8:¬ op<=8:=by omega
   cases hf:fv x with
   | true=>
    simp only [simprocAttr,-ZA,↓zU,↓zD,zV,zT,zW,hd,hwu,xJ,hg,xO,tT,hSl,hBl,hxl',hyl',gSx,gSy,gBx,gBy,gSk,gBk,aW2,h4,h5,h8,h13,hf]
    (repeat refine sd ?_)
    refine .go (cr (hc' hf)) ?_;simp only [simprocAttr,-ZA,↓zU,↓zD,zV,zT,zW,hd,hwu,xJ,hg,xO,tT,hSl,hBl,hxl',hyl',gSx,gSy,gBx,gBy,gSk,gBk,aW2,h4,h5,h8,h13,hf,mS,aYh,hSs,hBs]
    (repeat refine sd ?_)
    refine⟨k+1,by omega,?_,by omega⟩
    (refine xI.ren [] [2,1,0] (by simp) (by simp) (by decide) ?_; simp only [yQ,vwL,vw,vwF,sw,St.get,St.look,Fr.get,simprocAttr,-ZA,exists_eq_left',ne_eq,zR,yC,uW])
   | false=>
    simp only [simprocAttr,-ZA,↓zU,↓zD,zV,zT,zW,hd,hwu,xJ,hg,xO,tT,hSl,hBl,hxl',hyl',gSx,gSy,gBx,gBy,gSk,gBk,aW2,h4,h5,h8,h13,hf]
    (repeat refine sd ?_)
    obtain⟨q1,q2⟩:=hno hf;rw [hSk q1,hBk q2];refine⟨k+1,by omega,?_,by omega⟩
    (refine xI.ren [] [2,1,0] (by simp) (by simp) (by decide) ?_; simp only [yQ,vwL,vw,vwF,sw,St.get,St.look,Fr.get,simprocAttr,-ZA,exists_eq_left',ne_eq,zR,yC,uW])
  ·cases hf:fv x with
   | true=>
    simp only [simprocAttr,-ZA,↓zU,↓zD,zV,zT,zW,hd,hwu,xJ,hg,xO,tT,hSl,hBl,hxl',hyl',gSx,gSy,gBx,gBy,gSk,gBk,aW2,h4,h5,h13,hf]
    (repeat refine sd ?_)
    refine .go (cr (hc' hf)) ?_;simp only [simprocAttr,-ZA,↓zU,↓zD,zV,zT,zW,hd,hwu,xJ,hg,xO,tT,hSl,hBl,hxl',hyl',gSx,gSy,gBx,gBy,gSk,gBk,aW2,h4,h5,h13,hf,mS,aYh,hSs,hBs]
    (repeat refine sd ?_)
    refine⟨k+1,by omega,?_,by omega⟩
    (refine xI.ren [] [2,1,0] (by simp) (by simp) (by decide) ?_; simp only [yQ,vwL,vw,vwF,sw,St.get,St.look,Fr.get,simprocAttr,-ZA,exists_eq_left',ne_eq,zR,yC,uW])
   | false=>
    simp only [simprocAttr,-ZA,↓zU,↓zD,zV,zT,zW,hd,hwu,xJ,hg,xO,tT,hSl,hBl,hxl',hyl',gSx,gSy,gBx,gBy,gSk,gBk,aW2,h4,h5,h13,hf]
    (repeat refine sd ?_)
    obtain⟨q1,q2⟩:=hno hf;rw [hSk q1,hBk q2];refine⟨k+1,by omega,?_,by omega⟩
    (refine xI.ren [] [2,1,0] (by simp) (by simp) (by decide) ?_; simp only [yQ,vwL,vw,vwF,sw,St.get,St.look,Fr.get,simprocAttr,-ZA,exists_eq_left',ne_eq,zR,yC,uW])
 | true=>
  have hfy:=hfy hb;subst hfy;rw [hb,if_pos rfl] at hc' hno
  by_cases h13:op=13
  ·subst h13
   cases hf:fv x with
   | false=>
    simp only [simprocAttr,-ZA,↓zU,↓zD,zV,zT,zW,hd,hwu,xJ,hg,xO,tT,hSl,hBl,hxl',hyl',gSx,gSy,gBx,gBy,gSk,gBk,aW2,hf]
    (repeat refine sd ?_)
    obtain⟨q1,q2⟩:=hno (by rw [hf]; rfl);rw [hSk q1,hBk q2];refine⟨k+1,by omega,?_,by omega⟩
    (refine xI.ren [] [2,1,0] (by simp) (by simp) (by decide) ?_; simp only [yQ,vwL,vw,vwF,sw,St.get,St.look,Fr.get,simprocAttr,-ZA,exists_eq_left',ne_eq,zR,yC,uW])
   | true=>
    cases hf2:fv y with
    | true=>
     simp only [simprocAttr,-ZA,↓zU,↓zD,zV,zT,zW,hd,hwu,xJ,hg,xO,tT,hSl,hBl,hxl',hyl',gSx,gSy,gBx,gBy,gSk,gBk,aW2,hf,hf2]
     (repeat refine sd ?_)
     refine .go (xX.yN (hc' (by rw [hf,hf2]; rfl)) (by simp [D.xU,D.xG])) ?_;simp only [simprocAttr,-ZA,↓zU,↓zD,zV,zT,zW,hd,hwu,xJ,hg,xO,tT,hSl,hBl,hxl',hyl',gSx,gSy,gBx,gBy,gSk,gBk,aW2,hf,hf2,mS,aYh,hSs,hBs]
     (repeat refine sd ?_)
     refine⟨k+1,by omega,?_,by omega⟩
     (refine xI.ren [] [2,1,0] (by simp) (by simp) (by decide) ?_; simp only [yQ,vwL,vw,vwF,sw,St.get,St.look,Fr.get,simprocAttr,-ZA,exists_eq_left',ne_eq,zR,yC,uW])
    | false=>
     simp only [simprocAttr,-ZA,↓zU,↓zD,zV,zT,zW,hd,hwu,xJ,hg,xO,tT,hSl,hBl,hxl',hyl',gSx,gSy,gBx,gBy,gSk,gBk,aW2,hf,hf2]
     (repeat refine sd ?_)
     obtain⟨q1,q2⟩:=hno (by rw [hf,hf2]; rfl);rw [hSk q1,hBk q2];refine⟨k+1,by omega,?_,by omega⟩
     (refine xI.ren [] [2,1,0] (by simp) (by simp) (by decide) ?_; simp only [yQ,vwL,vw,vwF,sw,St.get,St.look,Fr.get,simprocAttr,-ZA,exists_eq_left',ne_eq,zR,yC,uW])
  ·have h58:5<=op/\op<=8:=by unfold aJv at hb; rw [decide_eq_false h13,Bool.or_false,Bool.and_eq_true] at hb; exact⟨of_decide_eq_true hb.1,of_decide_eq_true hb.2⟩
   have h5:=h58.1;have h8:=h58.2
   cases hf:fv x with
   | false=>
    simp only [simprocAttr,-ZA,↓zU,↓zD,zV,zT,zW,hd,hwu,xJ,hg,xO,tT,hSl,hBl,hxl',hyl',gSx,gSy,gBx,gBy,gSk,gBk,aW2,h4,h5,h8,hf]
    (repeat refine sd ?_)
    obtain⟨q1,q2⟩:=hno (by rw [hf]; rfl);rw [hSk q1,hBk q2];refine⟨k+1,by omega,?_,by omega⟩
    (refine xI.ren [] [2,1,0] (by simp) (by simp) (by decide) ?_; simp only [yQ,vwL,vw,vwF,sw,St.get,St.look,Fr.get,simprocAttr,-ZA,exists_eq_left',ne_eq,zR,yC,uW])
   | true=>
    cases hf2:fv y with
    | true=>
     simp only [simprocAttr,-ZA,↓zU,↓zD,zV,zT,zW,hd,hwu,xJ,hg,xO,tT,hSl,hBl,hxl',hyl',gSx,gSy,gBx,gBy,gSk,gBk,aW2,h4,h5,h8,hf,hf2]
     (repeat refine sd ?_)
     refine .go (xX.yN (hc' (by rw [hf,hf2]; rfl)) (by simp [D.xU,D.xG])) ?_;simp only [simprocAttr,-ZA,↓zU,↓zD,zV,zT,zW,hd,hwu,xJ,hg,xO,tT,hSl,hBl,hxl',hyl',gSx,gSy,gBx,gBy,gSk,gBk,aW2,h4,h5,h8,hf,hf2,mS,aYh,hSs,hBs]
     (repeat refine sd ?_)
     refine⟨k+1,by omega,?_,by omega⟩
     (refine xI.ren [] [2,1,0] (by simp) (by simp) (by decide) ?_; simp only [yQ,vwL,vw,vwF,sw,St.get,St.look,Fr.get,simprocAttr,-ZA,exists_eq_left',ne_eq,zR,yC,uW])
    | false=>
     simp only [simprocAttr,-ZA,↓zU,↓zD,zV,zT,zW,hd,hwu,xJ,hg,xO,tT,hSl,hBl,hxl',hyl',gSx,gSy,gBx,gBy,gSk,gBk,aW2,h4,h5,h8,hf,hf2]
     (repeat refine sd ?_)
     obtain⟨q1,q2⟩:=hno (by rw [hf,hf2]; rfl);rw [hSk q1,hBk q2];refine⟨k+1,by omega,?_,by omega⟩
     (refine xI.ren [] [2,1,0] (by simp) (by simp) (by decide) ?_; simp only [yQ,vwL,vw,vwF,sw,St.get,St.look,Fr.get,simprocAttr,-ZA,exists_eq_left',ne_eq,zR,yC,uW])
open Rs Fm Ru Te
theorem aLq {m:oB} {W:Nat} (ok:mT m W) {f:List Nd} (hc:yY f=0) (hfr:(qI .andNot .i64 (wX f:Int) 15 != 0)= false) (hft:rO f m.R.length m.V.length=true):yV Tryz.prog 176 [m.d,.sl 6 (ndR f)] (.int .i64 0):=by
 have h1:=cE ok;have h2:=mB f;have h3:=aMx f;have h4:=aEu f m.R.length m.V.length;rw [hc] at h2;rw [hft] at h4;unfold oB.d at h1 ⊢;refine xX.xP mixed Tryz.func176 bU9 (by simp) fun hf=>?_;simp only [simprocAttr,-ZA,↓zU,↓zD,zV,zT,zW]
 (repeat refine sd ?_)
 refine .go (cr h1) ?_;simp only [simprocAttr,-ZA,↓zU,↓zD,zV,zT,zW];refine .go (cr h2) ?_;simp only [simprocAttr,-ZA,↓zU,↓zD,zV,zT,zW];refine .go (cr h3) ?_;simp only [simprocAttr,-ZA,↓zU,↓zD,zV,zT,zW,hfr,zM,xO]
 (repeat refine sd ?_)
 refine .go (cr h4) ?_;simp only [simprocAttr,-ZA,↓zU,↓zD,zV,zT,zW];exact .dv
namespace Te
def sK (A F:Nat):Tr->Bool
 | .nil=>true
 | .nd op i e g x y=>qK A F ⟨op,i,e,g,0,0⟩&& (sK A F x&&sK A F y)
def aRz (rs:List zZ) (A F T:Nat) (t:Tr):BitVec 64:=if sK A F t=true then pB T (rs.length*T) (evT rs A T t) else 0#64
def bZq (rs:List zZ) (A F T:Nat) (t:Tr):Tab:=if sK A F t=true then evT rs A T t else fun _=>false
theorem aHc (rs:List zZ) (A F T:Nat) (hW:rs.length*T<=64) (t:Tr):aRz rs A F T t=pB T (rs.length*T) (bZq rs A F T t):=by
 unfold aRz bZq
 split
 ·rfl
 ·refine jX fun i _=>?_;rw [yT hW,Bool.and_false,BitVec.getLsbD_zero]
theorem aTx {A F:Nat} {op i e g:Int} (h:qK A F ⟨op,i,e,g,0,0⟩= true):1<=op/\op<=13:=by
 unfold qK at h;simp only at h
 refine⟨Decidable.byContradiction fun hh=>?_,Decidable.byContradiction fun hh=>?_⟩
 ·rw [if_pos (by omega)] at h; cases h
 ·rw [if_neg (by omega),if_neg (by omega),if_neg (by omega),if_neg (by omega),if_neg (by omega)] at h; cases h
theorem aRl {op:Int} (h1:1<=op) (h2:op<=13):(xZ op).1.y=aJv op/\(xZ op).1.x=decide (4<=op):=by
 have:op=1\/op=2\/op=3\/op=4\/op=5\/op=6\/op=7\/op=8\/op=9\/op=10\/op=11\/op=12\/op=13:=by omega
 rcases this with rfl | rfl | rfl | rfl | rfl | rfl | rfl | rfl | rfl | rfl | rfl | rfl | rfl <;> exact⟨rfl,rfl⟩
end Te
theorem aRi {rs:List zZ} {A F T:Nat} (ok:OkR rs A F T) (hW:rs.length*T<=64) {f:List Nd} (hc:yY f=0) (hfr:(qI .andNot .i64 (wX f:Int) 15 != 0)= false) (hft:rO f A F=true) :
  yV Tryz.prog 54 [(jN rs (ptl rs T) A F).d,.sl 6 (ndR f)] (.tup [.int .u64 (ui (aRz rs A F T (iX f))),.int .i64 0]):=by
 have hl:(ptl rs T).length=rs.length*T:=tV T _;have h1:1<=rs.length*T:=Nat.mul_pos ok.hR.1 ok.hT.1;have hm:=aV0 (F:=F) ok (l:=ptl rs T) (by omega) (by omega);rw [hl] at hm;have hRl:(jN rs (ptl rs T) A F).R.length=A:=by show (nA rs (ptl rs T) A).length=A; simp [nA]
 have hVl:(jN rs (ptl rs T) A F).V.length=F:=by show (bJ rs (ptl rs T) F).length=F; simp [bJ]
 obtain⟨c1,c2,c3⟩:=wP hc;have hn:0<f.length:=List.length_pos_iff.2 c1;have hreq:=aLq hm hc hfr (by rw [hRl,hVl]; exact hft);have hS:=bZh (sv:=fun k=>aRz rs A F T (tree f k)) (fv:=fun k=>sK A F (tree f k)) hc hreq (fun k hk hok x y hx hy=>?_) fun k hk hno=>?_
 rotate_left
 ·have hnd:=c3 k hk;have ht:=tW c3 hk;unfold okF at hok;dsimp only at hok;generalize f.getD k nd0=n at hnd ht hok hx hy ⊢;rw [aHc rs A F T hW] at hx hy
  have hcom:n.op=13->n.g<(2 ^ (jN rs (ptl rs T) A F).R.length:Nat)->mZ (wW (jN rs (ptl rs T) A F) n.g.toNat false) (qE (rs.length*T)) x y (rs.length*T+1)= mZ (wW (jN rs (ptl rs T) A F) n.g.toNat false) (qE (rs.length*T)) x y (rs.length*T):=fun h13 hg=>by
   have hu:(xZ n.op).1.x=true/\(xZ n.op).1.y=true/\(xZ n.op).1.gr=true:=by rw [h13]; exact⟨rfl,rfl,rfl⟩
   have h1:=(wT.1 hnd).2.2.2.2;simp only [Bool.or_eq_false_iff,hu.2.2,xM,Bool.true_and,decide_eq_false_iff_not] at h1;rw [hRl] at hg;rw [hx hu.1,hy hu.2.1];exact aBx ok hW (by omega) _ _
  have hv:=aDv hm hnd (x:=x) (y:=y) hcom;have hs:=aIs ok hW (F:=F) hnd hx hy
  have key:(qN (jN rs (ptl rs T) A F) (rs.length*T) n x y)= (aRz rs A F T (tree f k),sK A F (tree f k)):=by
   rw [hs,ht];unfold aRz;show _=(if (qK A F ⟨n.op,n.i,n.e,n.g,0,0⟩&& (sK A F (if (xZ n.op).1.x=true then tree f n.x.toNat else .nil)&& sK A F (if (xZ n.op).1.y=true then tree f n.y.toNat else .nil)))= true then _ else _,qK A F ⟨n.op,n.i,n.e,n.g,0,0⟩&& (sK A F (if (xZ n.op).1.x=true then tree f n.x.toNat else .nil)&& sK A F (if (xZ n.op).1.y=true then tree f n.y.toNat else .nil)));have hst:qK A F ⟨n.op,n.i,n.e,n.g,0,0⟩= qK A F n:=rfl;rw [hst]
   cases hst2:qK A F n with
   | false=>rfl
   | true=>
    obtain⟨o1,o2⟩:=aTx (hst.trans hst2);obtain⟨uy,ux⟩:=aRl o1 o2;rw [<- uy] at hok
    have fx:(xZ n.op).1.x=true->sK A F (tree f n.x.toNat)= true:=fun h=>by rw [ux,decide_eq_true_iff] at h;rw [if_pos h,Bool.and_eq_true] at hok;exact hok.1
    have fy:(xZ n.op).1.y=true->sK A F (tree f n.y.toNat)= true:=fun h=>by rw [if_pos h,Bool.and_eq_true] at hok;exact hok.2
    have fx':sK A F (if (xZ n.op).1.x=true then tree f n.x.toNat else .nil)= true:=by
     split
     ·rename_i h; exact fx h
     ·rfl
    have fy':sK A F (if (xZ n.op).1.y=true then tree f n.y.toNat else .nil)= true:=by
     split
     ·rename_i h; exact fy h
     ·rfl
    rw [fx',fy',if_pos rfl,if_pos (show (true&&(true&&true))= true from rfl)];refine Prod.ext ?_ rfl;refine congrArg (pB T (rs.length*T)) ?_;show _=aQa rs A T ⟨n.op,n.i,n.e,n.g,0,0⟩ _ _
    refine aL8 rfl rfl rfl (fun h=>?_) fun h=>?_
    ·rw [if_pos h,bZq,if_pos (fx h)]
    ·rw [if_pos h,bZq,if_pos (fy h)]
  rw [key] at hv;exact hv
 ·have ht:=tW c3 hk;unfold okF at hno;dsimp only at hno;generalize f.getD k nd0=n at ht hno
  have hf:sK A F (tree f k)= false:=by
   rw [ht];show (qK A F ⟨n.op,n.i,n.e,n.g,0,0⟩&& (sK A F (if (xZ n.op).1.x=true then tree f n.x.toNat else .nil)&& sK A F (if (xZ n.op).1.y=true then tree f n.y.toNat else .nil)))= false
   cases hst:qK A F ⟨n.op,n.i,n.e,n.g,0,0⟩ with
   | false=>rfl
   | true=>
    obtain⟨o1,o2⟩:=aTx hst;obtain⟨uy,ux⟩:=aRl o1 o2;rw [<- uy] at hno;rw [Bool.true_and]
    by_cases h4:4<=n.op
    ·rw [if_pos h4] at hno;rw [if_pos (by rw [ux,decide_eq_true h4])]
     cases hy:(xZ n.op).1.y with
     | true=>rw [hy,if_pos rfl] at hno; rw [if_pos rfl]; exact hno
     | false=>rw [hy,if_neg (by decide),Bool.and_true] at hno; rw [hno]; rfl
    ·rw [if_neg h4] at hno
     cases hy:(xZ n.op).1.y with
     | true=>rw [hy,if_pos rfl,Bool.true_and] at hno; rw [if_pos rfl,hno,Bool.and_false]
     | false=>rw [hy] at hno; cases hno
  exact⟨by unfold aRz; rw [hf,if_neg (by decide)],hf⟩
 have hlast:((List.range f.length).map fun k=>aRz rs A F T (tree f k)).getD (f.length-1) 0=aRz rs A F T (iX f):=by
  have:f.length-1<f.length:=by omega
  simp [List.getD,this,iX]
 have hlen:((List.range f.length).map fun k=>aRz rs A F T (tree f k)).length=f.length:=by simp
 generalize ((List.range f.length).map fun k=>aRz rs A F T (tree f k))= l at hS hlast hlen;have hg:=zE l (show f.length-1<l.length by omega);rw [hlast] at hg;have hw:IntKind.i64.wrap ((l.length:Int)-1)= ((f.length-1:Nat):Int):=by rw [hlen,wrap_i64 (by omega)]; omega
 have hlt:((f.length-1:Nat):Int)<(l.length:Int):=by omega
 unfold oB.d at hS ⊢;refine xX.xP mixed Tryz.func54 k54 (by simp) fun hf=>?_;simp only [simprocAttr,-ZA,↓zU,↓zD,zV,zT,zW]
 (repeat refine sd ?_)
 refine .go (cr hS) ?_;simp only [simprocAttr,-ZA,↓zU,↓zD,zV,zT,zW,xO,hw,hg,hlt]
 (repeat refine sd ?_)
 exact .drop (by simp) (by simp [vw,vwL])
open Rs Fm Ru Te
namespace Te
def bZu (rs:List zZ) (t:Nat):List zZ:=rs.map fun r=>⟨[r.loc.getD t []],[r.fac.getD t 0]⟩
section
variable {rs : List zZ} {A F T t : Nat}
theorem aCv {i:Nat} (hi:i<rs.length):(bZu rs t).getD i tN=⟨[(rs.getD i tN).loc.getD t []],[(rs.getD i tN).fac.getD t 0]⟩:=by simp [bZu,List.getD,hi]
theorem aCt {a i:Nat} (hi:i<rs.length):zH (bZu rs t) a (i,0)= zH rs a (i,t):=by unfold zH;simp only [aCv hi];rfl
theorem pO {R i:Nat} (hi:i<R):(vF R t).getD i (0,0)= (i,t):=by simp [vF,List.getD,hi]
theorem pQ (a:Nat) (x:Int):∀ k,k<=rs.length->Ru.bH (bZu rs t) (vF rs.length 0) a x k=Ru.bH rs (vF rs.length t) a x k
 | 0,_=>rfl
 | k+1,h=>by unfold Ru.bH;rw [pQ a x k (by omega),pO (by omega),pO (by omega),aCt (by omega)]
end
end Te
open Rs Fm Ru Te Kb
namespace Kb
def stR (sts:List (List (BitVec 64))) (i:Nat):List (BitVec 64):=sts.getD i []
def cY (see:List (BitVec 64)) (sts:List (List (BitVec 64))) (t a w:Nat):Nat:=(List.range sts.length).findIdx fun v=>decide (rC see (stR sts v) a t=rC see (stR sts w) a t)
def vT (see:List (BitVec 64)) (sts:List (List (BitVec 64))) (t:Nat):List zZ:=(List.range sts.length).map fun w=>⟨[(List.range see.length).map fun a=>((cY see sts t a w:Nat):Int)],[(stR sts w).getD t 0]⟩
section
variable {see : List (BitVec 64)} {sts : List (List (BitVec 64))} {t : Nat}
theorem lU : (vT see sts t).length=sts.length:=by simp [vT]
theorem gE {i:Nat} (hi:i<sts.length):(vT see sts t).getD i tN=⟨[(List.range see.length).map fun a=>((cY see sts t a i:Nat):Int)],[(stR sts i).getD t 0]⟩:=by simp [vT,List.getD,hi]
theorem lF {n:Nat} {q:Nat->Bool} (h:∃ i,i<n/\q i=true):(List.range n).findIdx q<n/\q ((List.range n).findIdx q)= true:=by obtain⟨i,hi,hq⟩:=h;have h1:(List.range n).findIdx q<(List.range n).length:=List.findIdx_lt_length.2 ⟨i,List.mem_range.2 hi,hq⟩;refine⟨by simpa using h1,?_⟩;have:=List.findIdx_getElem (p:=q) (w:=h1);simpa using this
theorem aZi {a w:Nat} (hw:w<sts.length):cY see sts t a w<sts.length/\rC see (stR sts (cY see sts t a w)) a t=rC see (stR sts w) a t:=by have:=lF (n:=sts.length) (q:=fun v=>decide (rC see (stR sts v) a t=rC see (stR sts w) a t)) ⟨w,hw,by simp⟩;refine⟨this.1,?_⟩;have h2:=this.2;simp only [decide_eq_true_eq] at h2;exact h2
theorem aGr {a v w:Nat} (hv:v<sts.length) (hw:w<sts.length):cY see sts t a v=cY see sts t a w ↔ rC see (stR sts v) a t=rC see (stR sts w) a t:=by
 constructor
 ·intro h;rw [<- (aZi (see:=see) (t:=t) (a:=a) hv).2,<- (aZi (see:=see) (t:=t) (a:=a) hw).2,h]
 ·intro h;unfold cY;rw [h]
theorem aI {a v w:Nat} (ha:a<see.length) (hv:v<sts.length) (hw:w<sts.length):zH (vT see sts t) a (v,0)= zH (vT see sts t) a (w,0) ↔ rC see (stR sts v) a t=rC see (stR sts w) a t:=by unfold zH;simp only [gE hv,gE hw];rw [<- aGr hv hw];simp [List.getD,ha];omega
theorem aIw {w:Nat} (hw:w<sts.length):aJ1 (vT see sts t) (w,0)= (stR sts w).getD t 0:=by unfold aJ1;simp only [gE hw];rfl
theorem aIv : ptl (vT see sts t) 1=vF sts.length 0:=by unfold ptl ptN vF;rw [lU,Nat.mul_one];refine List.map_congr_left fun i _=>?_;rw [Nat.div_one,Nat.mod_one]
theorem aD1 {F:Nat} (hA:see.length<=4) (hF:F<=8) (hR:1<=sts.length/\sts.length<=64) (hv:∀ w,w<sts.length->(stR sts w).getD t 0 >>> F=0#64):OkR (vT see sts t) see.length F 1 where
 hA:=hA
 hF:=hF
 hT:=⟨by omega,by omega⟩
 hR:=by rw [lU]; exact hR
 hP:=by rw [lU]; omega
 loc:=fun r hr=>by simp only [vT,List.mem_map] at hr;obtain⟨i,_,rfl⟩:=hr;rfl
 fac:=fun r hr=>by simp only [vT,List.mem_map] at hr;obtain⟨i,_,rfl⟩:=hr;rfl
 row:=fun r hr l hl=>by simp only [vT,List.mem_map] at hr;obtain⟨i,_,rfl⟩:=hr;simp only [List.mem_singleton] at hl;subst hl;simp
 val:=fun r hr x hx=>by simp only [vT,List.mem_map,List.mem_range] at hr;obtain⟨i,hi,rfl⟩:=hr;simp only [List.mem_singleton] at hx;subst hx;exact hv i hi
end
def aJ4 (see:List (BitVec 64)) (sts:List (List (BitVec 64))) (t F:Nat):D:=aAv (vT see sts t) (vF sts.length 0) see.length F
end Kb
theorem aBk {see:List (BitVec 64)} {sts:List (List (BitVec 64))} {t a v w:Nat} (ha:a<see.length) (hv:v<sts.length) (hw:w<sts.length) :
  decide ((rC see (stR sts w) a t).map ui=(rC see (stR sts v) a t).map ui)= decide (zH (vT see sts t) a (v,0)= zH (vT see sts t) a (w,0)):=by
 have h1:=aI (see:=see) (sts:=sts) (t:=t) ha hv hw
 have h2:(rC see (stR sts w) a t).map ui=(rC see (stR sts v) a t).map ui ↔ rC see (stR sts v) a t=rC see (stR sts w) a t:=⟨fun h=>((List.map_inj_right fun x y=>aO9.1).1 h).symm,fun h=>by rw [h]⟩
 rw [Bool.eq_iff_iff,decide_eq_true_eq,decide_eq_true_eq,h2,h1]
end Go.Pd
