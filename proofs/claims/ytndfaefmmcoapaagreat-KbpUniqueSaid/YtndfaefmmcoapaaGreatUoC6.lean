/- Part C6. -/
import Derived.Test.YtndfaefmmcoapaaGreatUoC4
set_option linter.unusedSectionVars false
set_option linter.unusedVariables false
set_option linter.unusedSimpArgs false
set_option linter.defProp false
set_option maxRecDepth 20000
set_option maxHeartbeats 1000000
namespace Go.Pd
open Go Go.Proofs
open BitVec renaming isValue -> ZA
open Rs Fm Ru Te
namespace Te
def qM (A F:Nat) (n:Nd):Bool:= if n.op<1 then false else if n.op=3 then decide (n.i<(F:Int)) else if n.op<=8 then true else if n.op<=10 then decide (n.i<(A:Int)) else if n.op<=13 then decide (n.g<((2 ^ A:Nat):Int)) else false
theorem aJm {A F:Nat} {n:Nd} (h:n.op<1\/21<n.op):qM A F n=false:=by rcases h with h | h <;> unfold qM <;> repeat (first | rw [if_pos (by omega)] | rw [if_neg (by omega)])
theorem aF8 {m:oE} {W:Nat} {n:Nd} {x y:BitVec 64} (h:n.op<1\/21<n.op):qN m W n x y=(0#64,false):=by unfold qN; repeat rw [if_neg (by omega)]
theorem dD {T W:Nat} {x y:Tab} (h:∀ v,v<W->x (pt T v)= y (pt T v)) (hW:W<=64):pB T W x=pB T W y:=by
 refine kG fun i _=>?_;rw [yW hW,yW hW]
 by_cases hi:i<W
 ·rw [h i hi]
 ·rw [decide_eq_false hi,Bool.false_and,Bool.false_and]
theorem aEs {rs:List wC} {T v:Nat} (hv:v<rs.length*T):pt T v ∈ ptl rs T:=by unfold ptl ptN;exact List.mem_map.2 ⟨v,List.mem_range.2 hv,rfl⟩
theorem aHs (rs:List wC) (A T g:Nat) (x y:Tab) {p:Nat × Nat} (hp:p ∈ ptl rs T):eM rs A T g x y (rs.length*T+1) p=eM rs A T g x y (rs.length*T) p:=by obtain⟨n,h1,h2⟩:=aHt (rs:=rs) (A:=A) (T:=T) g x y;obtain⟨m,hm⟩:=Nat.exists_eq_add_of_le h1;rw [hm,fN h2 m p hp,show n+m+1=n+(m+1) by omega,fN h2 (m+1) p hp]
section
variable {rs : List wC} {A F T : Nat}
theorem aD7 (ok:OkR rs A F T) (hW:rs.length*T<=64) {g:Nat} (hg:1<=g/\g<2 ^ A) (x y:Tab) :
  mY (zC (jR rs (ptl rs T) A F) g false) (qE (rs.length*T)) (pB T (rs.length*T) x) (pB T (rs.length*T) y) (rs.length*T+1)= mY (zC (jR rs (ptl rs T) A F) g false) (qE (rs.length*T)) (pB T (rs.length*T) x) (pB T (rs.length*T) y) (rs.length*T):=by
 have hl:(ptl rs T).length=rs.length*T:=rD T _;have h1:1<=rs.length*T:=Nat.mul_pos ok.hR.1 ok.hT.1;have hm:=aVa (F:=F) ok (l:=ptl rs T) (by omega) (by omega);rw [hl] at hm;have hRl:(jR rs (ptl rs T) A F).R.length=A:=by show (nC rs (ptl rs T) A).length=A; simp [nC]
 have hk:∀ a,a<A->aFm rs T ((jR rs (ptl rs T) A F).R.getD a []) fun p q=>decide (tZ rs a q=tZ rs a p):=fun a ha=>aTh ha hW;rw [oI hm rfl hRl (by rw [hRl]; exact hg) hk,oI hm rfl hRl (by rw [hRl]; exact hg) hk];exact dD (fun v hv=>aHs rs A T g x y (aEs hv)) hW
theorem aJc (ok:OkR rs A F T) (hW:rs.length*T<=64) {n:Nd} {k:Int} (hn:zX n k=0) {x y:BitVec 64} {tx ty:Tab} (hx:(xZ n.op).1.x=true->x=pB T (rs.length*T) tx) (hy:(xZ n.op).1.y=true->y=pB T (rs.length*T) ty) :
  qN (jR rs (ptl rs T) A F) (rs.length*T) n x y=if qM A F n=true then(pB T (rs.length*T) (aRg rs A T n tx ty),true) else(0#64,false):=by
 have hl:(ptl rs T).length=rs.length*T:=rD T _;have h1:1<=rs.length*T:=Nat.mul_pos ok.hR.1 ok.hT.1;have hm:=aVa (F:=F) ok (l:=ptl rs T) (by omega) (by omega);rw [hl] at hm;have hRl:(jR rs (ptl rs T) A F).R.length=A:=by show (nC rs (ptl rs T) A).length=A; simp [nC]
 have hVl:(jR rs (ptl rs T) A F).V.length=F:=by show (cC rs (ptl rs T) F).length=F; simp [cC]
 have hk:∀ a,a<A->aFm rs T ((jR rs (ptl rs T) A F).R.getD a []) fun p q=>decide (tZ rs a q=tZ rs a p):=fun a ha=>aTh ha hW
 have hVg:∀ f,f<F->∀ i,((jR rs (ptl rs T) A F).V.getD f 0).getLsbD i=(decide (i<rs.length*T)&& (aKn rs (pt T i)).getLsbD f):=fun f hf i=>by
  have e:(jR rs (ptl rs T) A F).V.getD f 0=eO rs (ptl rs T) f (ptl rs T).length:=by show (cC rs (ptl rs T) F).getD f 0=_;simp [cC,List.getD,hf]
  rw [e,hl,bE _ _ hW]
  by_cases hi:i<rs.length*T
  ·rw [aOd hi]
  ·rw [decide_eq_false hi,Bool.false_and,Bool.false_and]
 have hi0:n.op=3\/n.op=9\/n.op=10->0<=n.i:=fun h=>by
  rcases h with h | h | h
  ·exact(nR hn (by rw [h]; rfl)).1
  ·exact(uI hn (by rw [h]; rfl)).1
  ·exact(uI hn (by rw [h]; rfl)).1
 have hg0:n.op=11\/n.op=12\/n.op=13->1<=n.g/\n.g<=15:=fun h=>by
  have hgr:(xZ n.op).1.gr=true:=by rcases h with h | h | h <;> rw [h] <;> rfl
  have h1:=(zA.1 hn).2.2.2.2;simp only [Bool.or_eq_false_iff,hgr,xO,Bool.true_and,decide_eq_false_iff_not] at h1;omega
 obtain⟨op,i,e,g,a,b⟩:=n;simp only at hi0 hg0 hx hy;generalize hm':jR rs (ptl rs T) A F=m at *;generalize hWW:rs.length*T=W at *;have fin:∀ {p q:BitVec 64},(∀ v,v<64->p.getLsbD v=q.getLsbD v)->(p,true)= (q,true):=fun h=>by rw [kG h]
 rcases uW op with rfl | rfl | rfl | rfl | rfl | rfl | rfl | rfl | rfl | rfl | rfl | rfl | rfl | rfl | rfl | rfl | rfl | rfl | rfl | rfl | rfl | h | h
 ·show (qE W,true)= (pB T W fun _=>true,true);rw [aS1 hW]
 ·show (0#64,true)= (pB T W fun _=>false,true);refine fin fun v _=>?_;rw [yW hW,Bool.and_false,BitVec.getLsbD_zero]
 ·have h0:=hi0 (.inl rfl);show (if i<(m.V.length:Int) then(m.V.getD i.toNat 0,true) else(0#64,false))= if decide (i<(F:Int))= true then(pB T W fun p=>(aKn rs p).getLsbD i.toNat,true) else(0#64,false);rw [hVl]
  by_cases hlt:i<(F:Int)
  ·rw [if_pos hlt,if_pos (decide_eq_true hlt)];refine fin fun v _=>?_;rw [hVg i.toNat (by omega),yW hW]
  ·rw [if_neg hlt,if_neg (by simpa using hlt)]
 ·have hx:=hx rfl;show (qE W &&& ~~~x,true)= (pB T W fun p=>!tx p,true);refine fin fun v hv=>?_;rw [hx,BitVec.getLsbD_and,BitVec.getLsbD_not,sG hW hv,yW hW,yW hW,decide_eq_true hv];cases decide (v<W) <;> simp
 ·have hx:=hx rfl;have hy:=hy rfl;show (x &&& y,true)= (pB T W fun p=>tx p&&ty p,true);refine fin fun v hv=>?_;rw [hx,hy,BitVec.getLsbD_and,yW hW,yW hW,yW hW];cases decide (v<W) <;> simp
 ·have hx:=hx rfl;have hy:=hy rfl;show (x ||| y,true)= (pB T W fun p=>tx p || ty p,true);refine fin fun v hv=>?_;rw [hx,hy,BitVec.getLsbD_or,yW hW,yW hW,yW hW];cases decide (v<W) <;> simp
 ·have hx:=hx rfl;have hy:=hy rfl;show (qE W &&& ~~~x ||| y,true)= (pB T W fun p=>!tx p || ty p,true);refine fin fun v hv=>?_;rw [hx,hy,BitVec.getLsbD_or,BitVec.getLsbD_and,BitVec.getLsbD_not,sG hW hv,yW hW,yW hW,yW hW,decide_eq_true hv];cases decide (v<W) <;> simp
 ·have hx:=hx rfl;have hy:=hy rfl;show (qE W &&& ~~~(x ^^^ y),true)= (pB T W fun p=>tx p==ty p,true);refine fin fun v hv=>?_;rw [hx,hy,BitVec.getLsbD_and,BitVec.getLsbD_not,BitVec.getLsbD_xor,sG hW hv,yW hW,yW hW,yW hW,decide_eq_true hv];cases decide (v<W) <;> cases tx (pt T v) <;> cases ty (pt T v) <;> rfl
 ·have h0:=hi0 (.inr (.inl rfl));have hx:=hx rfl;show (if i<(m.R.length:Int) then(aXm (m.R.getD i.toNat []) x,true) else(0#64,false))= if decide (i<(A:Int))= true then(pB T W (eH rs T i.toNat tx),true) else(0#64,false);rw [hRl]
  by_cases hlt:i<(A:Int)
  ·rw [if_pos hlt,if_pos (decide_eq_true hlt)];have:=gS (by omega) (hk i.toNat (by omega)) (s:=x) (x:=tx) fun v hv=>by rw [hx,yW hW,decide_eq_true (by omega),Bool.true_and]
   rw [this,hWW];rfl
  ·rw [if_neg hlt,if_neg (by simpa using hlt)]
 ·have h0:=hi0 (.inr (.inr rfl));have hx:=hx rfl;show (if i<(m.R.length:Int) then(aC9 (m.R.getD i.toNat []) x,true) else(0#64,false))= if decide (i<(A:Int))= true then(pB T W fun p=>!eH rs T i.toNat (fun q=>!tx q) p,true) else(0#64,false);rw [hRl]
  by_cases hlt:i<(A:Int)
  ·rw [if_pos hlt,if_pos (decide_eq_true hlt)];have hkk:=hk i.toNat (by omega);have:=gS (by omega) hkk (s:= ~~~x) (x:=fun q=>!tx q) fun v hv=>by rw [hx,BitVec.getLsbD_not,yW hW,decide_eq_true (show v<64 by omega),decide_eq_true (show v<W by omega),Bool.true_and,Bool.true_and]
   unfold aC9;rw [this,hkk.1,hWW];refine fin fun v hv=>?_;rw [BitVec.getLsbD_and,BitVec.getLsbD_not,sG hW hv,yW hW,yW hW,decide_eq_true hv];show (decide (v<W)&& (true&&!(decide (v<W)&& eH rs T i.toNat (fun q=>!tx q) (pt T v))))= _;cases decide (v<W) <;> simp
  ·rw [if_neg hlt,if_neg (by simpa using hlt)]
 ·have h0:=hg0 (.inl rfl);have hx:=hx rfl;show (if g<((2 ^ m.R.length:Nat):Int) then(aXm (zC m g.toNat false) x,true) else(0#64,false))= if decide (g<((2 ^ A:Nat):Int))= true then(pB T W (pU rs A T g.toNat tx),true) else(0#64,false);rw [hRl]
  by_cases hlt:g<((2 ^ A:Nat):Int)
  ·rw [if_pos hlt,if_pos (decide_eq_true hlt)];have hrel:=fV hm hWW hRl (g:=g.toNat) (by rw [hRl]; omega) false hk;have:=gS (by omega) hrel (s:=x) (x:=tx) fun v hv=>by rw [hx,yW hW,decide_eq_true (by omega),Bool.true_and]
   rw [this,hWW];refine congrArg (fun z=>(z,true)) (dD (fun v _=>?_) hW);rw [aZg];rfl
  ·rw [if_neg hlt,if_neg (by simpa using hlt)]
 ·have h0:=hg0 (.inr (.inl rfl));have hx:=hx rfl;show (if g<((2 ^ m.R.length:Nat):Int) then(aXm (zC m g.toNat true) x,true) else(0#64,false))= if decide (g<((2 ^ A:Nat):Int))= true then(pB T W (aB3 rs A T g.toNat tx),true) else(0#64,false);rw [hRl]
  by_cases hlt:g<((2 ^ A:Nat):Int)
  ·rw [if_pos hlt,if_pos (decide_eq_true hlt)];have hrel:=fV hm hWW hRl (g:=g.toNat) (by rw [hRl]; omega) true hk;have:=gS (by omega) hrel (s:=x) (x:=tx) fun v hv=>by rw [hx,yW hW,decide_eq_true (by omega),Bool.true_and]
   rw [this,hWW];rfl
  ·rw [if_neg hlt,if_neg (by simpa using hlt)]
 ·have h0:=hg0 (.inr (.inr rfl));have hx:=hx rfl;have hy:=hy rfl;show (if g<((2 ^ m.R.length:Nat):Int) then(mY (zC m g.toNat false) (qE W) x y W,true) else(0#64,false))= if decide (g<((2 ^ A:Nat):Int))= true then(pB T W (aVi rs A T g.toNat tx ty),true) else(0#64,false);rw [hRl]
  by_cases hlt:g<((2 ^ A:Nat):Int)
  ·rw [if_pos hlt,if_pos (decide_eq_true hlt),hx,hy,oI hm hWW hRl (by rw [hRl]; omega) hk];unfold aVi;rw [hWW]
  ·rw [if_neg hlt,if_neg (by simpa using hlt)]
 all_goals first
  | rfl
  | (rw [aJm (by first | exact .inl h | exact .inr h),if_neg (by decide)]; exact aF8 (by first | exact .inl h | exact .inr h))
end
end Te
end Go.Pd

/- Part C7. -/
namespace Go.Pd
open Go Go.Proofs
open BitVec renaming isValue -> ZA
open Rs Fm Ru Te
namespace Te
def iG {α:Type} (L:Nat) (g h:Nat->α) (k:Nat):List α:=(List.range L).map fun i=>if i<k then g i else h i
theorem aT2 {α:Type} (L:Nat) (g h:Nat->α) (k:Nat):(iG L g h k).length=L:=by simp [iG]
theorem iP {α:Type} {L:Nat} (g h:Nat->α) (k:Nat) {i:Nat} (hi:i<L) (d:α):(iG L g h k).getD i d=if i<k then g i else h i:=by simp [iG,List.getD,hi]
theorem aT1 {α:Type} (L:Nat) (g h:Nat->α) (k:Nat):(iG L g h k).set k (g k)= iG L g h (k+1):=by
 refine List.ext_getElem (by simp [iG]) fun i h1 h2=>?_;rw [List.getElem_set];simp only [iG,List.getElem_map,List.getElem_range]
 by_cases e:k=i
 ·subst e; rw [if_pos rfl,if_pos (by omega)]
 ·rw [if_neg e]
  by_cases hk:i<k
  ·rw [if_pos hk,if_pos (by omega)]
  ·rw [if_neg hk,if_neg (by omega)]
theorem aYv {α:Type} {L:Nat} {g h:Nat->α} {k:Nat} (e:g k=h k):iG L g h k=iG L g h (k+1):=by
 unfold iG;refine List.map_congr_left fun i _=>?_
 by_cases hk:i<k
 ·rw [if_pos hk,if_pos (by omega)]
 ·rw [if_neg hk]
  by_cases e2:i=k
  ·subst e2; rw [if_pos (by omega),e]
  ·rw [if_neg (by omega)]
theorem aYu {α:Type} (L:Nat) (g:Nat->α) (c:α):iG L g (fun _=>c) 0=List.replicate L c:=by refine List.ext_getElem (by simp [iG]) fun i h1 h2=>by simp [iG]
theorem aT3 {α:Type} (L:Nat) (g h:Nat->α):iG L g h L=(List.range L).map g:=by refine List.map_congr_left fun f hf=>?_;rw [if_pos (List.mem_range.1 hf)]
def aKg (op:Int):Bool:=(decide (5<=op)&& decide (op<=8)) || decide (op=13)
def okF (f:List Nd) (fv:Nat->Bool) (k:Nat):Bool:=(if 4<=(f.getD k nd0).op then fv (f.getD k nd0).x.toNat else true)&& (if aKg (f.getD k nd0).op=true then fv (f.getD k nd0).y.toNat else true)
end Te
theorem bXs {m:oE} {f:List Nd} (hc:xA f=0) (hreq:yT Tryz.prog 176 [m.d,.sl 6 (ndR f)] (.int .i64 0)) {sv:Nat->BitVec 64} {fv:Nat->Bool}
  (hcall:∀ k,k<f.length->okF f fv k=true->∀ x y,((xZ (f.getD k nd0).op).1.x=true->x=sv (f.getD k nd0).x.toNat)->((xZ (f.getD k nd0).op).1.y=true->y=sv (f.getD k nd0).y.toNat) ->
   yT Tryz.prog 177 [m.d,.agg (f.getD k nd0).row,.int .u64 (ui x),.int .u64 (ui y)] (.tup [.int .u64 (ui (sv k)),.bool (fv k)]))
  (hno:∀ k,k<f.length->okF f fv k=false->sv k=0#64/\fv k=false) :
  yT Tryz.prog 113 [m.d,.sl 6 (ndR f)] (.tup [.sl 1 (us ((List.range f.length).map sv)),.int .i64 0]):=by
 obtain⟨c1,c2,c3⟩:=wT hc;have hn:0<f.length:=List.length_pos_iff.2 c1;unfold oE.d at hreq hcall ⊢;refine xX.xR mixed Tryz.func113 bUc (by simp) fun hf=>?_;simp only [simprocAttr,-ZA,↓zU,↓zD,zV,zT,zW]
 (repeat refine sd ?_)
 refine .go (cr hreq) ?_;simp only [simprocAttr,-ZA,↓zU,↓zD,zV,zT,zW,xJ]
 (repeat refine sd ?_)
 refine xW (fun k:Nat=>[(26,.int .i64 k),(25,.int .i64 f.length),(24,.sl 6 (ndR f)),(8,.osl 2 1 f.length),(7,.osl 1 1 f.length),(2,.ref 0 3 0 0)])
  (fun k=>⟨3,[(2,⟨1,rb (iG f.length fv (fun _=>false) k)⟩),(1,⟨1,us (iG f.length sv (fun _=>0#64) k)⟩),(0,⟨3,[[.int .i64 m.W,.sl 1 (us m.V),.sl 1 (rr m.R)]]⟩)]⟩)
  (fun k=>k<=f.length) (fun k=>f.length-k) 0 (Nat.zero_le _) ?_ ?_
 ·rw [aYu,aYu,<- jL,<- aZ6]
  (refine xI.same ?_; simp [xP,Fr.get])
 intro k hk;refine xN mixed ?_;by_cases hkl:k<f.length
 case neg=>
  have hd:¬ ((k:Int)<(f.length:Int)):=by omega
  have hke:k=f.length:=by omega
  subst hke;rw [aT3,aT3];have hlen:((List.range f.length).map sv).length=f.length:=by simp
  generalize (List.range f.length).map sv=l at hlen ⊢;simp only [simprocAttr,-ZA,↓zU,↓zD,zV,zT,zW,hd];refine .drop (by simp) ?_;simp only [vw,vwL];exact⟨rfl,⟨trivial,by decide,by simp,⟨1,us l⟩,rfl,rfl,by simp only [xQ]; omega,by rw [<- hlen,<- xQ,List.take_length],rV l⟩,trivial,trivial⟩
 have hd:((k:Int)<(f.length:Int)):=by omega
 have hcall:=hcall k hkl;have hno:=hno k hkl;have hnd:=c3 k hkl;have hg:=uO f hkl;have hux:=aGm (f.getD k nd0).op;obtain⟨hox,hoy⟩:=rA hnd;obtain⟨⟨x,hx,hxk⟩,⟨y,hy,hyk⟩⟩:=aO3 hnd;unfold okF at hcall hno;generalize f.getD k nd0=p at hcall hno hnd hg hux hox hoy hx hy;obtain⟨op,i,e,g,px,py⟩:=p;simp only at hx hy;subst hx hy;have hrow:(Nd.row ⟨op,i,e,g,x,y⟩)= [.int .i64 op,.int .i64 i,.int .i64 e,.int .i64 g,.int .i64 x,.int .i64 y]:=rfl;rw [hrow] at hg hcall;have hxl:x<f.length:=by omega
 have hyl:y<f.length:=by omega
 have hxl':((x:Int)<(f.length:Int)):=by omega
 have hyl':((y:Int)<(f.length:Int)):=by omega
 have hSx:=iP sv (fun _=>0#64) k hxl 0#64;have hSy:=iP sv (fun _=>0#64) k hyl 0#64;have hBx:=iP fv (fun _=>false) k hxl false;have hBy:=iP fv (fun _=>false) k hyl false;have hSl:=aT2 f.length sv (fun _=>0#64) k;have hBl:=aT2 f.length fv (fun _=>false) k;have hSs:=aT1 f.length sv (fun _=>0#64) k;have hBs:=aT1 f.length fv (fun _=>false) k;have hSk:sv k=0#64->iG f.length sv (fun _=>0#64) k=iG f.length sv (fun _=>0#64) (k+1):=fun h=>aYv h;have hBk:fv k=false->iG f.length fv (fun _=>false) k=iG f.length fv (fun _=>false) (k+1):=fun h=>aYv h;generalize iG f.length sv (fun _=>0#64) k=S at hSx hSy hSl hSs hSk ⊢;generalize iG f.length fv (fun _=>false) k=B at hBx hBy hBl hBs hBk ⊢;simp only [Int.toNat_natCast] at hcall hno hux hox hoy;have gSx:=wS S (show x<S.length by omega);have gSy:=wS S (show y<S.length by omega);have gBx:=aOc B (show x<B.length by omega);have gBy:=aOc B (show y<B.length by omega)
 have hop:1<=op/\op<=21:=by have h2:=(zA.1 hnd).1;simp only at h2;refine Decidable.byContradiction fun hh=>?_;rw [zB (by omega)] at h2;cases h2
 have hxu:(xZ op).1.x=true->S.getD x 0#64=sv x:=fun h=>by rw [hSx,if_pos (by have:=hox h; omega)]
 have hyu:(xZ op).1.y=true->S.getD y 0#64=sv y:=fun h=>by rw [hSy,if_pos (by have:=hoy h; omega)]
 have hfx:4<=op->B.getD x false=fv x:=fun h=>by
  have hu:(xZ op).1.x=true:=by rw [hux,decide_eq_true h,decide_eq_true hop.2]; rfl
  rw [hBx,if_pos (by have:=hox hu; omega)]
 have hby:aKg op=true->(xZ op).1.y=true:=fun h=>by
  unfold aKg at h;simp only [Bool.or_eq_true,Bool.and_eq_true,decide_eq_true_eq] at h;have:op=5\/op=6\/op=7\/op=8\/op=13:=by omega
  rcases this with rfl | rfl | rfl | rfl | rfl <;> rfl
 have hfy:aKg op=true->B.getD y false=fv y:=fun h=>by rw [hBy,if_pos (by have:=hoy (hby h); omega)]
 have hc':=fun h=>hcall h (S.getD x 0#64) (S.getD y 0#64) hxu hyu;clear hcall hxu hyu hSx hSy hBx hBy;generalize S.getD x 0#64=sx at gSx hc';generalize S.getD y 0#64=sy at gSy hc';generalize B.getD x false=bx at gBx hfx;generalize B.getD y false=by' at gBy hfy
 have hwu:IntKind.i64.wrap ((k:Int)+ 1)= ((k+1:Nat):Int):=wrap_i64 (by omega);have gSk:=wS S (show k<S.length by omega);have gBk:=aOc B (show k<B.length by omega);by_cases h4:4<=op
 case neg=>
  have h5:¬ (5:Int)<=op:=by omega
  have h13:(op==13)= false:=by rw [beq_eq_false_iff_ne]; omega
  have hb:aKg op=false:=by unfold aKg; rw [decide_eq_false h5,decide_eq_false (show ¬ op=13 by omega)]; rfl
  simp only [simprocAttr,-ZA,↓zU,↓zD,zV,zT,zW,hd,hwu,xJ,hg,xQ,tT,hSl,hBl,hxl',hyl',gSx,gSy,gBx,gBy,gSk,gBk,aWd,h4,h5,h13]
  (repeat refine sd ?_)
  refine .go (xX.yR (hc' (by rw [if_neg h4,hb]; rfl)) (by simp [D.xU,D.xG])) ?_;simp only [simprocAttr,-ZA,↓zU,↓zD,zV,zT,zW,hd,hwu,xJ,hg,xQ,tT,hSl,hBl,hxl',hyl',gSx,gSy,gBx,gBy,gSk,gBk,aWd,h4,h5,h13,mT,aXv,hSs,hBs]
  (repeat refine sd ?_)
  refine⟨k+1,by omega,?_,by omega⟩
  (refine xI.ren [] [2,1,0] (by simp) (by simp) (by decide) ?_; simp only [yJ,vwL,vw,vwF,sw,St.get,St.look,Fr.get,↓reduceIte,reduceIte,Nat.reduceEqDiff,Nat.reduceAdd,Nat.reduceBEq,Nat.reduceLT,Nat.reduceLeDiff,exists_eq_left',ne_eq,reduceCtorEq,zR,yB,uZ])
 have hfx:=hfx h4;subst hfx;rw [if_pos h4] at hc' hno
 cases hb:aKg op with
 | false=>
  rw [hb,if_neg (by decide),Bool.and_true] at hc' hno
  have h13:(op==13)= false:=by rw [beq_eq_false_iff_ne]; rintro rfl; cases hb
  have h58:¬ (5<=op/\op<=8):=by rintro ⟨z1,z2⟩; unfold aKg at hb; rw [decide_eq_true z1,decide_eq_true z2] at hb; cases hb
  by_cases h5:5<=op
  ·have h8:¬ op<=8:=by omega
   cases hf:fv x with
   | true=>
    simp only [simprocAttr,-ZA,↓zU,↓zD,zV,zT,zW,hd,hwu,xJ,hg,xQ,tT,hSl,hBl,hxl',hyl',gSx,gSy,gBx,gBy,gSk,gBk,aWd,h4,h5,h8,h13,hf]
    (repeat refine sd ?_)
    refine .go (cr (hc' hf)) ?_;simp only [simprocAttr,-ZA,↓zU,↓zD,zV,zT,zW,hd,hwu,xJ,hg,xQ,tT,hSl,hBl,hxl',hyl',gSx,gSy,gBx,gBy,gSk,gBk,aWd,h4,h5,h8,h13,hf,mT,aXv,hSs,hBs]
    (repeat refine sd ?_)
    refine⟨k+1,by omega,?_,by omega⟩
    (refine xI.ren [] [2,1,0] (by simp) (by simp) (by decide) ?_; simp only [yJ,vwL,vw,vwF,sw,St.get,St.look,Fr.get,↓reduceIte,reduceIte,Nat.reduceEqDiff,Nat.reduceAdd,Nat.reduceBEq,Nat.reduceLT,Nat.reduceLeDiff,exists_eq_left',ne_eq,reduceCtorEq,zR,yB,uZ])
   | false=>
    simp only [simprocAttr,-ZA,↓zU,↓zD,zV,zT,zW,hd,hwu,xJ,hg,xQ,tT,hSl,hBl,hxl',hyl',gSx,gSy,gBx,gBy,gSk,gBk,aWd,h4,h5,h8,h13,hf]
    (repeat refine sd ?_)
    obtain⟨q1,q2⟩:=hno hf;rw [hSk q1,hBk q2];refine⟨k+1,by omega,?_,by omega⟩
    (refine xI.ren [] [2,1,0] (by simp) (by simp) (by decide) ?_; simp only [yJ,vwL,vw,vwF,sw,St.get,St.look,Fr.get,↓reduceIte,reduceIte,Nat.reduceEqDiff,Nat.reduceAdd,Nat.reduceBEq,Nat.reduceLT,Nat.reduceLeDiff,exists_eq_left',ne_eq,reduceCtorEq,zR,yB,uZ])
  ·cases hf:fv x with
   | true=>
    simp only [simprocAttr,-ZA,↓zU,↓zD,zV,zT,zW,hd,hwu,xJ,hg,xQ,tT,hSl,hBl,hxl',hyl',gSx,gSy,gBx,gBy,gSk,gBk,aWd,h4,h5,h13,hf]
    (repeat refine sd ?_)
    refine .go (cr (hc' hf)) ?_;simp only [simprocAttr,-ZA,↓zU,↓zD,zV,zT,zW,hd,hwu,xJ,hg,xQ,tT,hSl,hBl,hxl',hyl',gSx,gSy,gBx,gBy,gSk,gBk,aWd,h4,h5,h13,hf,mT,aXv,hSs,hBs]
    (repeat refine sd ?_)
    refine⟨k+1,by omega,?_,by omega⟩
    (refine xI.ren [] [2,1,0] (by simp) (by simp) (by decide) ?_; simp only [yJ,vwL,vw,vwF,sw,St.get,St.look,Fr.get,↓reduceIte,reduceIte,Nat.reduceEqDiff,Nat.reduceAdd,Nat.reduceBEq,Nat.reduceLT,Nat.reduceLeDiff,exists_eq_left',ne_eq,reduceCtorEq,zR,yB,uZ])
   | false=>
    simp only [simprocAttr,-ZA,↓zU,↓zD,zV,zT,zW,hd,hwu,xJ,hg,xQ,tT,hSl,hBl,hxl',hyl',gSx,gSy,gBx,gBy,gSk,gBk,aWd,h4,h5,h13,hf]
    (repeat refine sd ?_)
    obtain⟨q1,q2⟩:=hno hf;rw [hSk q1,hBk q2];refine⟨k+1,by omega,?_,by omega⟩
    (refine xI.ren [] [2,1,0] (by simp) (by simp) (by decide) ?_; simp only [yJ,vwL,vw,vwF,sw,St.get,St.look,Fr.get,↓reduceIte,reduceIte,Nat.reduceEqDiff,Nat.reduceAdd,Nat.reduceBEq,Nat.reduceLT,Nat.reduceLeDiff,exists_eq_left',ne_eq,reduceCtorEq,zR,yB,uZ])
 | true=>
  have hfy:=hfy hb;subst hfy;rw [hb,if_pos rfl] at hc' hno
  by_cases h13:op=13
  ·subst h13
   cases hf:fv x with
   | false=>
    simp only [simprocAttr,-ZA,↓zU,↓zD,zV,zT,zW,hd,hwu,xJ,hg,xQ,tT,hSl,hBl,hxl',hyl',gSx,gSy,gBx,gBy,gSk,gBk,aWd,hf]
    (repeat refine sd ?_)
    obtain⟨q1,q2⟩:=hno (by rw [hf]; rfl);rw [hSk q1,hBk q2];refine⟨k+1,by omega,?_,by omega⟩
    (refine xI.ren [] [2,1,0] (by simp) (by simp) (by decide) ?_; simp only [yJ,vwL,vw,vwF,sw,St.get,St.look,Fr.get,↓reduceIte,reduceIte,Nat.reduceEqDiff,Nat.reduceAdd,Nat.reduceBEq,Nat.reduceLT,Nat.reduceLeDiff,exists_eq_left',ne_eq,reduceCtorEq,zR,yB,uZ])
   | true=>
    cases hf2:fv y with
    | true=>
     simp only [simprocAttr,-ZA,↓zU,↓zD,zV,zT,zW,hd,hwu,xJ,hg,xQ,tT,hSl,hBl,hxl',hyl',gSx,gSy,gBx,gBy,gSk,gBk,aWd,hf,hf2]
     (repeat refine sd ?_)
     refine .go (xX.yR (hc' (by rw [hf,hf2]; rfl)) (by simp [D.xU,D.xG])) ?_;simp only [simprocAttr,-ZA,↓zU,↓zD,zV,zT,zW,hd,hwu,xJ,hg,xQ,tT,hSl,hBl,hxl',hyl',gSx,gSy,gBx,gBy,gSk,gBk,aWd,hf,hf2,mT,aXv,hSs,hBs]
     (repeat refine sd ?_)
     refine⟨k+1,by omega,?_,by omega⟩
     (refine xI.ren [] [2,1,0] (by simp) (by simp) (by decide) ?_; simp only [yJ,vwL,vw,vwF,sw,St.get,St.look,Fr.get,↓reduceIte,reduceIte,Nat.reduceEqDiff,Nat.reduceAdd,Nat.reduceBEq,Nat.reduceLT,Nat.reduceLeDiff,exists_eq_left',ne_eq,reduceCtorEq,zR,yB,uZ])
    | false=>
     simp only [simprocAttr,-ZA,↓zU,↓zD,zV,zT,zW,hd,hwu,xJ,hg,xQ,tT,hSl,hBl,hxl',hyl',gSx,gSy,gBx,gBy,gSk,gBk,aWd,hf,hf2]
     (repeat refine sd ?_)
     obtain⟨q1,q2⟩:=hno (by rw [hf,hf2]; rfl);rw [hSk q1,hBk q2];refine⟨k+1,by omega,?_,by omega⟩
     (refine xI.ren [] [2,1,0] (by simp) (by simp) (by decide) ?_; simp only [yJ,vwL,vw,vwF,sw,St.get,St.look,Fr.get,↓reduceIte,reduceIte,Nat.reduceEqDiff,Nat.reduceAdd,Nat.reduceBEq,Nat.reduceLT,Nat.reduceLeDiff,exists_eq_left',ne_eq,reduceCtorEq,zR,yB,uZ])
  ·have h58:5<=op/\op<=8:=by unfold aKg at hb; rw [decide_eq_false h13,Bool.or_false,Bool.and_eq_true] at hb; exact⟨of_decide_eq_true hb.1,of_decide_eq_true hb.2⟩
   have h5:=h58.1;have h8:=h58.2
   cases hf:fv x with
   | false=>
    simp only [simprocAttr,-ZA,↓zU,↓zD,zV,zT,zW,hd,hwu,xJ,hg,xQ,tT,hSl,hBl,hxl',hyl',gSx,gSy,gBx,gBy,gSk,gBk,aWd,h4,h5,h8,hf]
    (repeat refine sd ?_)
    obtain⟨q1,q2⟩:=hno (by rw [hf]; rfl);rw [hSk q1,hBk q2];refine⟨k+1,by omega,?_,by omega⟩
    (refine xI.ren [] [2,1,0] (by simp) (by simp) (by decide) ?_; simp only [yJ,vwL,vw,vwF,sw,St.get,St.look,Fr.get,↓reduceIte,reduceIte,Nat.reduceEqDiff,Nat.reduceAdd,Nat.reduceBEq,Nat.reduceLT,Nat.reduceLeDiff,exists_eq_left',ne_eq,reduceCtorEq,zR,yB,uZ])
   | true=>
    cases hf2:fv y with
    | true=>
     simp only [simprocAttr,-ZA,↓zU,↓zD,zV,zT,zW,hd,hwu,xJ,hg,xQ,tT,hSl,hBl,hxl',hyl',gSx,gSy,gBx,gBy,gSk,gBk,aWd,h4,h5,h8,hf,hf2]
     (repeat refine sd ?_)
     refine .go (xX.yR (hc' (by rw [hf,hf2]; rfl)) (by simp [D.xU,D.xG])) ?_;simp only [simprocAttr,-ZA,↓zU,↓zD,zV,zT,zW,hd,hwu,xJ,hg,xQ,tT,hSl,hBl,hxl',hyl',gSx,gSy,gBx,gBy,gSk,gBk,aWd,h4,h5,h8,hf,hf2,mT,aXv,hSs,hBs]
     (repeat refine sd ?_)
     refine⟨k+1,by omega,?_,by omega⟩
     (refine xI.ren [] [2,1,0] (by simp) (by simp) (by decide) ?_; simp only [yJ,vwL,vw,vwF,sw,St.get,St.look,Fr.get,↓reduceIte,reduceIte,Nat.reduceEqDiff,Nat.reduceAdd,Nat.reduceBEq,Nat.reduceLT,Nat.reduceLeDiff,exists_eq_left',ne_eq,reduceCtorEq,zR,yB,uZ])
    | false=>
     simp only [simprocAttr,-ZA,↓zU,↓zD,zV,zT,zW,hd,hwu,xJ,hg,xQ,tT,hSl,hBl,hxl',hyl',gSx,gSy,gBx,gBy,gSk,gBk,aWd,h4,h5,h8,hf,hf2]
     (repeat refine sd ?_)
     obtain⟨q1,q2⟩:=hno (by rw [hf,hf2]; rfl);rw [hSk q1,hBk q2];refine⟨k+1,by omega,?_,by omega⟩
     (refine xI.ren [] [2,1,0] (by simp) (by simp) (by decide) ?_; simp only [yJ,vwL,vw,vwF,sw,St.get,St.look,Fr.get,↓reduceIte,reduceIte,Nat.reduceEqDiff,Nat.reduceAdd,Nat.reduceBEq,Nat.reduceLT,Nat.reduceLeDiff,exists_eq_left',ne_eq,reduceCtorEq,zR,yB,uZ])
end Go.Pd
