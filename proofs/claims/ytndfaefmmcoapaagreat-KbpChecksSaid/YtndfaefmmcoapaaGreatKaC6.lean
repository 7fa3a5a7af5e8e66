/- Part C6. -/
import Derived.Test.YtndfaefmmcoapaaGreatKaQA
import Derived.Test.YtndfaefmmcoapaaGreatKaC4
set_option linter.unusedSectionVars false
set_option linter.unusedVariables false
set_option linter.unusedSimpArgs false
set_option linter.defProp false
set_option maxRecDepth 20000
set_option maxHeartbeats 1000000
namespace Go.Pd
open Go Go.Proofs
open Int renaming reduceToNat -> ZA, reduceLT -> ZB, reduceLE -> ZC, reduceBEq -> ZD, reduceBNe -> ZE
open Nat renaming reduceEqDiff -> ZF, reduceAdd -> ZG, reduceBEq -> ZH, reduceLT -> ZI, reduceLeDiff -> ZJ, reduceMul -> ZK
open Rs Fm Ru Te
namespace Te
def rS (A F:Nat) (n:Nd):Bool:=
 if n.op<1 then false else if n.op=3 then decide (n.i<(F:Int)) else if n.op<=8 then true else if n.op<=10 then decide (n.i<(A:Int)) else if n.op<=13 then decide (n.g<((2 ^ A:Nat):Int)) else false
theorem aMz {A F:Nat} {n:Nd} (h:n.op<1\/21<n.op):rS A F n=false:=by
 rcases h with h | h <;> unfold rS <;> repeat (first | rw [if_pos (by omega)] | rw [if_neg (by omega)])
theorem aHe {m:pR} {W:Nat} {n:Nd} {x y:BitVec 64} (h:n.op<1\/21<n.op):rT m W n x y=(0#64,false):=by
 unfold rT; repeat rw [if_neg (by omega)]
theorem fP {T W:Nat} {x y:Tab} (h:∀ v,v<W->x (pt T v)= y (pt T v)) (hW:W<=64):qQ T W x=qQ T W y:=by
 refine mI fun i _=>?_;rw [xC hW,xC hW]
 by_cases hi:i<W
 ·rw [h i hi]
 ·rw [decide_eq_false hi,Bool.false_and,Bool.false_and]
theorem aHw {rs:List wO} {T v:Nat} (hv:v<rs.length*T):pt T v ∈ ptl rs T:=by
 unfold ptl ptN;exact List.mem_map.2 ⟨v,List.mem_range.2 hv,rfl⟩
theorem aK6 (rs:List wO) (A T g:Nat) (x y:Tab) {p:Nat × Nat} (hp:p ∈ ptl rs T):gT rs A T g x y (rs.length*T+1) p=gT rs A T g x y (rs.length*T) p:=by
 obtain⟨n,h1,h2⟩:=aK7 (rs:=rs) (A:=A) (T:=T) g x y;obtain⟨m,hm⟩:=Nat.exists_eq_add_of_le h1;rw [hm,iS h2 m p hp,show n+m+1=n+(m+1) by omega,iS h2 (m+1) p hp]
section
variable {rs : List wO} {A F T : Nat}
theorem aFd (ok:OkR rs A F T) (hW:rs.length*T<=64) {g:Nat} (hg:1<=g/\g<2 ^ A) (x y:Tab) :
  oR (zZ (lV rs (ptl rs T) A F) g false) (rM (rs.length*T)) (qQ T (rs.length*T) x) (qQ T (rs.length*T) y) (rs.length*T+1)= oR (zZ (lV rs (ptl rs T) A F) g false) (rM (rs.length*T)) (qQ T (rs.length*T) x) (qQ T (rs.length*T) y) (rs.length*T):=by
 have hl:(ptl rs T).length=rs.length*T:=sJ T _;have h1:1<=rs.length*T:=Nat.mul_pos ok.hR.1 ok.hT.1;have hm:=aZa (F:=F) ok (l:=ptl rs T) (by omega) (by omega);rw [hl] at hm;have hRl:(lV rs (ptl rs T) A F).R.length=A:=by show (oU rs (ptl rs T) A).length=A; simp [oU]
 have hk:∀ a,a<A->aIt rs T ((lV rs (ptl rs T) A F).R.getD a []) fun p q=>decide (uT rs a q=uT rs a p):=fun a ha=>aW9 ha hW;rw [pV hm rfl hRl (by rw [hRl]; exact hg) hk,pV hm rfl hRl (by rw [hRl]; exact hg) hk];exact fP (fun v hv=>aK6 rs A T g x y (aHw hv)) hW
theorem aMo (ok:OkR rs A F T) (hW:rs.length*T<=64) {n:Nd} {k:Int} (hn:yK n k=0) {x y:BitVec 64} {tx ty:Tab} (hx:(xZ n.op).1.x=true->x=qQ T (rs.length*T) tx) (hy:(xZ n.op).1.y=true->y=qQ T (rs.length*T) ty) :
  rT (lV rs (ptl rs T) A F) (rs.length*T) n x y=if rS A F n=true then(qQ T (rs.length*T) (aU3 rs A T n tx ty),true) else(0#64,false):=by
 have hl:(ptl rs T).length=rs.length*T:=sJ T _;have h1:1<=rs.length*T:=Nat.mul_pos ok.hR.1 ok.hT.1;have hm:=aZa (F:=F) ok (l:=ptl rs T) (by omega) (by omega);rw [hl] at hm;have hRl:(lV rs (ptl rs T) A F).R.length=A:=by show (oU rs (ptl rs T) A).length=A; simp [oU]
 have hVl:(lV rs (ptl rs T) A F).V.length=F:=by show (eR rs (ptl rs T) F).length=F; simp [eR]
 have hk:∀ a,a<A->aIt rs T ((lV rs (ptl rs T) A F).R.getD a []) fun p q=>decide (uT rs a q=uT rs a p):=fun a ha=>aW9 ha hW
 have hVg:∀ f,f<F->∀ i,((lV rs (ptl rs T) A F).V.getD f 0).getLsbD i=(decide (i<rs.length*T)&& (aNy rs (pt T i)).getLsbD f):=fun f hf i=>by
  have e:(lV rs (ptl rs T) A F).V.getD f 0=gV rs (ptl rs T) f (ptl rs T).length:=by
   show (eR rs (ptl rs T) F).getD f 0=_;simp [eR,List.getD,hf]
  rw [e,hl,dY _ _ hW]
  by_cases hi:i<rs.length*T
  ·rw [aRt hi]
  ·rw [decide_eq_false hi,Bool.false_and,Bool.false_and]
 have hi0:n.op=3\/n.op=9\/n.op=10->0<=n.i:=fun h=>by
  rcases h with h | h | h
  ·exact(pH hn (by rw [h]; rfl)).1
  ·exact(vE hn (by rw [h]; rfl)).1
  ·exact(vE hn (by rw [h]; rfl)).1
 have hg0:n.op=11\/n.op=12\/n.op=13->1<=n.g/\n.g<=15:=fun h=>by
  have hgr:(xZ n.op).1.gr=true:=by rcases h with h | h | h <;> rw [h] <;> rfl
  have h1:=(zP.1 hn).2.2.2.2;simp only [Bool.or_eq_false_iff,hgr,xT,Bool.true_and,decide_eq_false_iff_not] at h1;omega
 obtain⟨op,i,e,g,a,b⟩:=n;simp only at hi0 hg0 hx hy;generalize hm':lV rs (ptl rs T) A F=m at *;generalize hWW:rs.length*T=W at *;have fin:∀ {p q:BitVec 64},(∀ v,v<64->p.getLsbD v=q.getLsbD v)->(p,true)= (q,true):=fun h=>by rw [mI h]
 rcases vP op with rfl | rfl | rfl | rfl | rfl | rfl | rfl | rfl | rfl | rfl | rfl | rfl | rfl | rfl | rfl | rfl | rfl | rfl | rfl | rfl | rfl | h | h
 ·show (rM W,true)= (qQ T W fun _=>true,true);rw [aUo hW]
 ·show (0#64,true)= (qQ T W fun _=>false,true);refine fin fun v _=>?_;rw [xC hW,Bool.and_false,BitVec.getLsbD_zero]
 ·have h0:=hi0 (.inl rfl);show (if i<(m.V.length:Int) then(m.V.getD i.toNat 0,true) else(0#64,false))= if decide (i<(F:Int))= true then(qQ T W fun p=>(aNy rs p).getLsbD i.toNat,true) else(0#64,false);rw [hVl]
  by_cases hlt:i<(F:Int)
  ·rw [if_pos hlt,if_pos (decide_eq_true hlt)];refine fin fun v _=>?_;rw [hVg i.toNat (by omega),xC hW]
  ·rw [if_neg hlt,if_neg (by simpa using hlt)]
 ·have hx:=hx rfl;show (rM W &&& ~~~x,true)= (qQ T W fun p=>!tx p,true);refine fin fun v hv=>?_;rw [hx,BitVec.getLsbD_and,BitVec.getLsbD_not,tI hW hv,xC hW,xC hW,decide_eq_true hv];cases decide (v<W) <;> simp
 ·have hx:=hx rfl;have hy:=hy rfl;show (x &&& y,true)= (qQ T W fun p=>tx p&&ty p,true);refine fin fun v hv=>?_;rw [hx,hy,BitVec.getLsbD_and,xC hW,xC hW,xC hW];cases decide (v<W) <;> simp
 ·have hx:=hx rfl;have hy:=hy rfl;show (x ||| y,true)= (qQ T W fun p=>tx p || ty p,true);refine fin fun v hv=>?_;rw [hx,hy,BitVec.getLsbD_or,xC hW,xC hW,xC hW];cases decide (v<W) <;> simp
 ·have hx:=hx rfl;have hy:=hy rfl;show (rM W &&& ~~~x ||| y,true)= (qQ T W fun p=>!tx p || ty p,true);refine fin fun v hv=>?_;rw [hx,hy,BitVec.getLsbD_or,BitVec.getLsbD_and,BitVec.getLsbD_not,tI hW hv,xC hW,xC hW,xC hW,decide_eq_true hv];cases decide (v<W) <;> simp
 ·have hx:=hx rfl;have hy:=hy rfl;show (rM W &&& ~~~(x ^^^ y),true)= (qQ T W fun p=>tx p==ty p,true);refine fin fun v hv=>?_;rw [hx,hy,BitVec.getLsbD_and,BitVec.getLsbD_not,BitVec.getLsbD_xor,tI hW hv,xC hW,xC hW,xC hW,decide_eq_true hv];cases decide (v<W) <;> cases tx (pt T v) <;> cases ty (pt T v) <;> rfl
 ·have h0:=hi0 (.inr (.inl rfl));have hx:=hx rfl;show (if i<(m.R.length:Int) then(cE (m.R.getD i.toNat []) x,true) else(0#64,false))= if decide (i<(A:Int))= true then(qQ T W (gM rs T i.toNat tx),true) else(0#64,false);rw [hRl]
  by_cases hlt:i<(A:Int)
  ·rw [if_pos hlt,if_pos (decide_eq_true hlt)];have:=jS (by omega) (hk i.toNat (by omega)) (s:=x) (x:=tx) fun v hv=>by rw [hx,xC hW,decide_eq_true (by omega),Bool.true_and]
   rw [this,hWW];rfl
  ·rw [if_neg hlt,if_neg (by simpa using hlt)]
 ·have h0:=hi0 (.inr (.inr rfl));have hx:=hx rfl;show (if i<(m.R.length:Int) then(aEg (m.R.getD i.toNat []) x,true) else(0#64,false))= if decide (i<(A:Int))= true then(qQ T W fun p=>!gM rs T i.toNat (fun q=>!tx q) p,true) else(0#64,false);rw [hRl]
  by_cases hlt:i<(A:Int)
  ·rw [if_pos hlt,if_pos (decide_eq_true hlt)];have hkk:=hk i.toNat (by omega);have:=jS (by omega) hkk (s:= ~~~x) (x:=fun q=>!tx q) fun v hv=>by rw [hx,BitVec.getLsbD_not,xC hW,decide_eq_true (show v<64 by omega),decide_eq_true (show v<W by omega),Bool.true_and,Bool.true_and]
   unfold aEg;rw [this,hkk.1,hWW];refine fin fun v hv=>?_;rw [BitVec.getLsbD_and,BitVec.getLsbD_not,tI hW hv,xC hW,xC hW,decide_eq_true hv];show (decide (v<W)&& (true&&!(decide (v<W)&& gM rs T i.toNat (fun q=>!tx q) (pt T v))))= _;cases decide (v<W) <;> simp
  ·rw [if_neg hlt,if_neg (by simpa using hlt)]
 ·have h0:=hg0 (.inl rfl);have hx:=hx rfl;show (if g<((2 ^ m.R.length:Nat):Int) then(cE (zZ m g.toNat false) x,true) else(0#64,false))= if decide (g<((2 ^ A:Nat):Int))= true then(qQ T W (rG rs A T g.toNat tx),true) else(0#64,false);rw [hRl]
  by_cases hlt:g<((2 ^ A:Nat):Int)
  ·rw [if_pos hlt,if_pos (decide_eq_true hlt)];have hrel:=iX hm hWW hRl (g:=g.toNat) (by rw [hRl]; omega) false hk;have:=jS (by omega) hrel (s:=x) (x:=tx) fun v hv=>by rw [hx,xC hW,decide_eq_true (by omega),Bool.true_and]
   rw [this,hWW];refine congrArg (fun z=>(z,true)) (fP (fun v _=>?_) hW);rw [aXg];rfl
  ·rw [if_neg hlt,if_neg (by simpa using hlt)]
 ·have h0:=hg0 (.inr (.inl rfl));have hx:=hx rfl;show (if g<((2 ^ m.R.length:Nat):Int) then(cE (zZ m g.toNat true) x,true) else(0#64,false))= if decide (g<((2 ^ A:Nat):Int))= true then(qQ T W (aE5 rs A T g.toNat tx),true) else(0#64,false);rw [hRl]
  by_cases hlt:g<((2 ^ A:Nat):Int)
  ·rw [if_pos hlt,if_pos (decide_eq_true hlt)];have hrel:=iX hm hWW hRl (g:=g.toNat) (by rw [hRl]; omega) true hk;have:=jS (by omega) hrel (s:=x) (x:=tx) fun v hv=>by rw [hx,xC hW,decide_eq_true (by omega),Bool.true_and]
   rw [this,hWW];rfl
  ·rw [if_neg hlt,if_neg (by simpa using hlt)]
 ·have h0:=hg0 (.inr (.inr rfl));have hx:=hx rfl;have hy:=hy rfl;show (if g<((2 ^ m.R.length:Nat):Int) then(oR (zZ m g.toNat false) (rM W) x y W,true) else(0#64,false))= if decide (g<((2 ^ A:Nat):Int))= true then(qQ T W (aZh rs A T g.toNat tx ty),true) else(0#64,false);rw [hRl]
  by_cases hlt:g<((2 ^ A:Nat):Int)
  ·rw [if_pos hlt,if_pos (decide_eq_true hlt),hx,hy,pV hm hWW hRl (by rw [hRl]; omega) hk];unfold aZh;rw [hWW]
  ·rw [if_neg hlt,if_neg (by simpa using hlt)]
 all_goals first
  | rfl
  | (rw [aMz (by first | exact .inl h | exact .inr h),if_neg (by decide)]; exact aHe (by first | exact .inl h | exact .inr h))
end
end Te
open Rs Fm Ru Te
namespace Te
def kH {α:Type} (L:Nat) (g h:Nat->α) (k:Nat):List α:=(List.range L).map fun i=>if i<k then g i else h i
theorem aVt {α:Type} (L:Nat) (g h:Nat->α) (k:Nat):(kH L g h k).length=L:=by simp [kH]
theorem kT {α:Type} {L:Nat} (g h:Nat->α) (k:Nat) {i:Nat} (hi:i<L) (d:α):(kH L g h k).getD i d=if i<k then g i else h i:=by
 simp [kH,List.getD,hi]
theorem aVs {α:Type} (L:Nat) (g h:Nat->α) (k:Nat):(kH L g h k).set k (g k)= kH L g h (k+1):=by
 refine List.ext_getElem (by simp [kH]) fun i h1 h2=>?_;rw [List.getElem_set];simp only [kH,List.getElem_map,List.getElem_range]
 by_cases e:k=i
 ·subst e; rw [if_pos rfl,if_pos (by omega)]
 ·rw [if_neg e]
  by_cases hk:i<k
  ·rw [if_pos hk,if_pos (by omega)]
  ·rw [if_neg hk,if_neg (by omega)]
theorem aP {α:Type} {L:Nat} {g h:Nat->α} {k:Nat} (e:g k=h k):kH L g h k=kH L g h (k+1):=by
 unfold kH;refine List.map_congr_left fun i _=>?_
 by_cases hk:i<k
 ·rw [if_pos hk,if_pos (by omega)]
 ·rw [if_neg hk]
  by_cases e2:i=k
  ·subst e2; rw [if_pos (by omega),e]
  ·rw [if_neg (by omega)]
theorem aQ {α:Type} (L:Nat) (g:Nat->α) (c:α):kH L g (fun _=>c) 0=List.replicate L c:=by
 refine List.ext_getElem (by simp [kH]) fun i h1 h2=>by simp [kH]
theorem aVu {α:Type} (L:Nat) (g h:Nat->α):kH L g h L=(List.range L).map g:=by
 refine List.map_congr_left fun f hf=>?_;rw [if_pos (List.mem_range.1 hf)]
def aNs (op:Int):Bool:=(decide (5<=op)&& decide (op<=8)) || decide (op=13)
def okF (f:List Nd) (fv:Nat->Bool) (k:Nat):Bool:=(if 4<=(f.getD k nd0).op then fv (f.getD k nd0).x.toNat else true)&& (if aNs (f.getD k nd0).op=true then fv (f.getD k nd0).y.toNat else true)
end Te
theorem aCp {m:pR} {f:List Nd} (hc:xH f=0) (hreq:yX Tryz.prog 176 [m.d,.sl 6 (ndR f)] (.int .i64 0)) {sv:Nat->BitVec 64} {fv:Nat->Bool}
  (hcall:∀ k,k<f.length->okF f fv k=true->∀ x y,((xZ (f.getD k nd0).op).1.x=true->x=sv (f.getD k nd0).x.toNat)->((xZ (f.getD k nd0).op).1.y=true->y=sv (f.getD k nd0).y.toNat) ->
   yX Tryz.prog 177 [m.d,.agg (f.getD k nd0).row,.int .u64 (ui x),.int .u64 (ui y)] (.tup [.int .u64 (ui (sv k)),.bool (fv k)]))
  (hno:∀ k,k<f.length->okF f fv k=false->sv k=0#64/\fv k=false) :
  yX Tryz.prog 113 [m.d,.sl 6 (ndR f)] (.tup [.sl 1 (us ((List.range f.length).map sv)),.int .i64 0]):=by
 obtain⟨c1,c2,c3⟩:=zJ hc;have hn:0<f.length:=List.length_pos_iff.2 c1;unfold pR.d at hreq hcall ⊢;refine xX.go_fn mixed Tryz.func113 bY0 (by simp) fun hf=>?_;simp only [ZA,ZB,ZC,ZD,ZE,↓reduceIte,ZF,ZG,ZH,ZI,ZJ,reduceCtorEq,ZK,↓zU,↓zD,zV,zT,zW]
 (repeat refine sd ?_)
 refine .go (cr hreq) ?_;simp only [ZA,ZB,ZC,ZD,ZE,↓reduceIte,ZF,ZG,ZH,ZI,ZJ,reduceCtorEq,ZK,↓zU,↓zD,zV,zT,zW,xO]
 (repeat refine sd ?_)
 refine xV (fun k:Nat=>[(26,.int .i64 k),(25,.int .i64 f.length),(24,.sl 6 (ndR f)),(8,.osl 2 1 f.length),(7,.osl 1 1 f.length),(2,.ref 0 3 0 0)])
  (fun k=>⟨3,[(2,⟨1,rb (kH f.length fv (fun _=>false) k)⟩),(1,⟨1,us (kH f.length sv (fun _=>0#64) k)⟩),(0,⟨3,[[.int .i64 m.W,.sl 1 (us m.V),.sl 1 (rr m.R)]]⟩)]⟩)
  (fun k=>k<=f.length) (fun k=>f.length-k) 0 (Nat.zero_le _) ?_ ?_
 ·rw [aQ,aQ,<- lP,<- aX5]
  (refine xM.same ?_; simp [xS,Fr.get])
 intro k hk;refine xQ mixed ?_;by_cases hkl:k<f.length
 case neg=>
  have hd:¬ ((k:Int)<(f.length:Int)):=by omega
  have hke:k=f.length:=by omega
  subst hke;rw [aVu,aVu];have hlen:((List.range f.length).map sv).length=f.length:=by simp
  generalize (List.range f.length).map sv=l at hlen ⊢;simp only [ZA,ZB,ZC,ZD,ZE,↓reduceIte,ZF,ZG,ZH,ZI,ZJ,reduceCtorEq,ZK,↓zU,↓zD,zV,zT,zW,hd];refine .drop (by simp) ?_;simp only [vw,vwL];exact⟨rfl,⟨trivial,by decide,by simp,⟨1,us l⟩,rfl,rfl,by simp only [xR]; omega,by rw [<- hlen,<- xR,List.take_length],tA l⟩,trivial,trivial⟩
 have hd:((k:Int)<(f.length:Int)):=by omega
 have hcall:=hcall k hkl;have hno:=hno k hkl;have hnd:=c3 k hkl;have hg:=vK f hkl;have hux:=aJz (f.getD k nd0).op;obtain⟨hox,hoy⟩:=sG hnd;obtain⟨⟨x,hx,hxk⟩,⟨y,hy,hyk⟩⟩:=aQg hnd;unfold okF at hcall hno;generalize f.getD k nd0=p at hcall hno hnd hg hux hox hoy hx hy;obtain⟨op,i,e,g,px,py⟩:=p;simp only at hx hy;subst hx hy;have hrow:(Nd.row ⟨op,i,e,g,x,y⟩)= [.int .i64 op,.int .i64 i,.int .i64 e,.int .i64 g,.int .i64 x,.int .i64 y]:=rfl;rw [hrow] at hg hcall;have hxl:x<f.length:=by omega
 have hyl:y<f.length:=by omega
 have hxl':((x:Int)<(f.length:Int)):=by omega
 have hyl':((y:Int)<(f.length:Int)):=by omega
 have hSx:=kT sv (fun _=>0#64) k hxl 0#64;have hSy:=kT sv (fun _=>0#64) k hyl 0#64;have hBx:=kT fv (fun _=>false) k hxl false;have hBy:=kT fv (fun _=>false) k hyl false;have hSl:=aVt f.length sv (fun _=>0#64) k;have hBl:=aVt f.length fv (fun _=>false) k;have hSs:=aVs f.length sv (fun _=>0#64) k;have hBs:=aVs f.length fv (fun _=>false) k;have hSk:sv k=0#64->kH f.length sv (fun _=>0#64) k=kH f.length sv (fun _=>0#64) (k+1):=fun h=>aP h;have hBk:fv k=false->kH f.length fv (fun _=>false) k=kH f.length fv (fun _=>false) (k+1):=fun h=>aP h;generalize kH f.length sv (fun _=>0#64) k=S at hSx hSy hSl hSs hSk ⊢;generalize kH f.length fv (fun _=>false) k=B at hBx hBy hBl hBs hBk ⊢;simp only [Int.toNat_natCast] at hcall hno hux hox hoy;have gSx:=zI S (show x<S.length by omega);have gSy:=zI S (show y<S.length by omega);have gBx:=aRs B (show x<B.length by omega);have gBy:=aRs B (show y<B.length by omega)
 have hop:1<=op/\op<=21:=by
  have h2:=(zP.1 hnd).1;simp only at h2;refine Decidable.byContradiction fun hh=>?_;rw [zS (by omega)] at h2;cases h2
 have hxu:(xZ op).1.x=true->S.getD x 0#64=sv x:=fun h=>by rw [hSx,if_pos (by have:=hox h; omega)]
 have hyu:(xZ op).1.y=true->S.getD y 0#64=sv y:=fun h=>by rw [hSy,if_pos (by have:=hoy h; omega)]
 have hfx:4<=op->B.getD x false=fv x:=fun h=>by
  have hu:(xZ op).1.x=true:=by rw [hux,decide_eq_true h,decide_eq_true hop.2]; rfl
  rw [hBx,if_pos (by have:=hox hu; omega)]
 have hby:aNs op=true->(xZ op).1.y=true:=fun h=>by
  unfold aNs at h;simp only [Bool.or_eq_true,Bool.and_eq_true,decide_eq_true_eq] at h;have:op=5\/op=6\/op=7\/op=8\/op=13:=by omega
  rcases this with rfl | rfl | rfl | rfl | rfl <;> rfl
 have hfy:aNs op=true->B.getD y false=fv y:=fun h=>by rw [hBy,if_pos (by have:=hoy (hby h); omega)]
 have hc':=fun h=>hcall h (S.getD x 0#64) (S.getD y 0#64) hxu hyu;clear hcall hxu hyu hSx hSy hBx hBy;generalize S.getD x 0#64=sx at gSx hc';generalize S.getD y 0#64=sy at gSy hc';generalize B.getD x false=bx at gBx hfx;generalize B.getD y false=by' at gBy hfy
 have hwu:IntKind.i64.wrap ((k:Int)+ 1)= ((k+1:Nat):Int):=wrap_i64 (by omega);have gSk:=zI S (show k<S.length by omega);have gBk:=aRs B (show k<B.length by omega);by_cases h4:4<=op
 case neg=>
  have h5:¬ (5:Int)<=op:=by omega
  have h13:(op==13)= false:=by rw [beq_eq_false_iff_ne]; omega
  have hb:aNs op=false:=by unfold aNs; rw [decide_eq_false h5,decide_eq_false (show ¬ op=13 by omega)]; rfl
  simp only [ZA,ZB,ZC,ZD,ZE,↓reduceIte,ZF,ZG,ZH,ZI,ZJ,reduceCtorEq,ZK,↓zU,↓zD,zV,zT,zW,hd,hwu,xO,hg,xR,uQ,hSl,hBl,hxl',hyl',gSx,gSy,gBx,gBy,gSk,gBk,aYd,h4,h5,h13]
  (repeat refine sd ?_)
  refine .go (xX.of_runs (hc' (by rw [if_neg h4,hb]; rfl)) (by simp [D.isPureL,D.isPure])) ?_;simp only [ZA,ZB,ZC,ZD,ZE,↓reduceIte,ZF,ZG,ZH,ZI,ZJ,reduceCtorEq,ZK,↓zU,↓zD,zV,zT,zW,hd,hwu,xO,hg,xR,uQ,hSl,hBl,hxl',hyl',gSx,gSy,gBx,gBy,gSk,gBk,aYd,h4,h5,h13,oM,bW,hSs,hBs]
  (repeat refine sd ?_)
  refine⟨k+1,by omega,?_,by omega⟩
  (refine xM.ren [] [2,1,0] (by simp) (by simp) (by decide) ?_; simp only [yP,vwL,vw,vwF,sw,St.get,St.look,Fr.get,↓reduceIte,reduceIte,Nat.reduceEqDiff,Nat.reduceAdd,Nat.reduceBEq,Nat.reduceLT,Nat.reduceLeDiff,exists_eq_left',ne_eq,reduceCtorEq,zR,yL,vQ])
 have hfx:=hfx h4;subst hfx;rw [if_pos h4] at hc' hno
 cases hb:aNs op with
 | false=>
  rw [hb,if_neg (by decide),Bool.and_true] at hc' hno
  have h13:(op==13)= false:=by
   rw [beq_eq_false_iff_ne]; rintro rfl; cases hb
  have h58:¬ (5<=op/\op<=8):=by
   rintro ⟨z1,z2⟩; unfold aNs at hb; rw [decide_eq_true z1,decide_eq_true z2] at hb; cases hb
  by_cases h5:5<=op
  ·have h8:¬ op<=8:=by omega
   cases hf:fv x with
   | true=>
    simp only [ZA,ZB,ZC,ZD,ZE,↓reduceIte,ZF,ZG,ZH,ZI,ZJ,reduceCtorEq,ZK,↓zU,↓zD,zV,zT,zW,hd,hwu,xO,hg,xR,uQ,hSl,hBl,hxl',hyl',gSx,gSy,gBx,gBy,gSk,gBk,aYd,h4,h5,h8,h13,hf]
    (repeat refine sd ?_)
    refine .go (cr (hc' hf)) ?_;simp only [ZA,ZB,ZC,ZD,ZE,↓reduceIte,ZF,ZG,ZH,ZI,ZJ,reduceCtorEq,ZK,↓zU,↓zD,zV,zT,zW,hd,hwu,xO,hg,xR,uQ,hSl,hBl,hxl',hyl',gSx,gSy,gBx,gBy,gSk,gBk,aYd,h4,h5,h8,h13,hf,oM,bW,hSs,hBs]
    (repeat refine sd ?_)
    refine⟨k+1,by omega,?_,by omega⟩
    (refine xM.ren [] [2,1,0] (by simp) (by simp) (by decide) ?_; simp only [yP,vwL,vw,vwF,sw,St.get,St.look,Fr.get,↓reduceIte,reduceIte,Nat.reduceEqDiff,Nat.reduceAdd,Nat.reduceBEq,Nat.reduceLT,Nat.reduceLeDiff,exists_eq_left',ne_eq,reduceCtorEq,zR,yL,vQ])
   | false=>
    simp only [ZA,ZB,ZC,ZD,ZE,↓reduceIte,ZF,ZG,ZH,ZI,ZJ,reduceCtorEq,ZK,↓zU,↓zD,zV,zT,zW,hd,hwu,xO,hg,xR,uQ,hSl,hBl,hxl',hyl',gSx,gSy,gBx,gBy,gSk,gBk,aYd,h4,h5,h8,h13,hf]
    (repeat refine sd ?_)
    obtain⟨q1,q2⟩:=hno hf;rw [hSk q1,hBk q2];refine⟨k+1,by omega,?_,by omega⟩
    (refine xM.ren [] [2,1,0] (by simp) (by simp) (by decide) ?_; simp only [yP,vwL,vw,vwF,sw,St.get,St.look,Fr.get,↓reduceIte,reduceIte,Nat.reduceEqDiff,Nat.reduceAdd,Nat.reduceBEq,Nat.reduceLT,Nat.reduceLeDiff,exists_eq_left',ne_eq,reduceCtorEq,zR,yL,vQ])
  ·cases hf:fv x with
   | true=>
    simp only [ZA,ZB,ZC,ZD,ZE,↓reduceIte,ZF,ZG,ZH,ZI,ZJ,reduceCtorEq,ZK,↓zU,↓zD,zV,zT,zW,hd,hwu,xO,hg,xR,uQ,hSl,hBl,hxl',hyl',gSx,gSy,gBx,gBy,gSk,gBk,aYd,h4,h5,h13,hf]
    (repeat refine sd ?_)
    refine .go (cr (hc' hf)) ?_;simp only [ZA,ZB,ZC,ZD,ZE,↓reduceIte,ZF,ZG,ZH,ZI,ZJ,reduceCtorEq,ZK,↓zU,↓zD,zV,zT,zW,hd,hwu,xO,hg,xR,uQ,hSl,hBl,hxl',hyl',gSx,gSy,gBx,gBy,gSk,gBk,aYd,h4,h5,h13,hf,oM,bW,hSs,hBs]
    (repeat refine sd ?_)
    refine⟨k+1,by omega,?_,by omega⟩
    (refine xM.ren [] [2,1,0] (by simp) (by simp) (by decide) ?_; simp only [yP,vwL,vw,vwF,sw,St.get,St.look,Fr.get,↓reduceIte,reduceIte,Nat.reduceEqDiff,Nat.reduceAdd,Nat.reduceBEq,Nat.reduceLT,Nat.reduceLeDiff,exists_eq_left',ne_eq,reduceCtorEq,zR,yL,vQ])
   | false=>
    simp only [ZA,ZB,ZC,ZD,ZE,↓reduceIte,ZF,ZG,ZH,ZI,ZJ,reduceCtorEq,ZK,↓zU,↓zD,zV,zT,zW,hd,hwu,xO,hg,xR,uQ,hSl,hBl,hxl',hyl',gSx,gSy,gBx,gBy,gSk,gBk,aYd,h4,h5,h13,hf]
    (repeat refine sd ?_)
    obtain⟨q1,q2⟩:=hno hf;rw [hSk q1,hBk q2];refine⟨k+1,by omega,?_,by omega⟩
    (refine xM.ren [] [2,1,0] (by simp) (by simp) (by decide) ?_; simp only [yP,vwL,vw,vwF,sw,St.get,St.look,Fr.get,↓reduceIte,reduceIte,Nat.reduceEqDiff,Nat.reduceAdd,Nat.reduceBEq,Nat.reduceLT,Nat.reduceLeDiff,exists_eq_left',ne_eq,reduceCtorEq,zR,yL,vQ])
 | true=>
  have hfy:=hfy hb;subst hfy;rw [hb,if_pos rfl] at hc' hno
  by_cases h13:op=13
  ·subst h13
   cases hf:fv x with
   | false=>
    simp only [ZA,ZB,ZC,ZD,ZE,↓reduceIte,ZF,ZG,ZH,ZI,ZJ,reduceCtorEq,ZK,↓zU,↓zD,zV,zT,zW,hd,hwu,xO,hg,xR,uQ,hSl,hBl,hxl',hyl',gSx,gSy,gBx,gBy,gSk,gBk,aYd,hf]
    (repeat refine sd ?_)
    obtain⟨q1,q2⟩:=hno (by rw [hf]; rfl);rw [hSk q1,hBk q2];refine⟨k+1,by omega,?_,by omega⟩
    (refine xM.ren [] [2,1,0] (by simp) (by simp) (by decide) ?_; simp only [yP,vwL,vw,vwF,sw,St.get,St.look,Fr.get,↓reduceIte,reduceIte,Nat.reduceEqDiff,Nat.reduceAdd,Nat.reduceBEq,Nat.reduceLT,Nat.reduceLeDiff,exists_eq_left',ne_eq,reduceCtorEq,zR,yL,vQ])
   | true=>
    cases hf2:fv y with
    | true=>
     simp only [ZA,ZB,ZC,ZD,ZE,↓reduceIte,ZF,ZG,ZH,ZI,ZJ,reduceCtorEq,ZK,↓zU,↓zD,zV,zT,zW,hd,hwu,xO,hg,xR,uQ,hSl,hBl,hxl',hyl',gSx,gSy,gBx,gBy,gSk,gBk,aYd,hf,hf2]
     (repeat refine sd ?_)
     refine .go (xX.of_runs (hc' (by rw [hf,hf2]; rfl)) (by simp [D.isPureL,D.isPure])) ?_;simp only [ZA,ZB,ZC,ZD,ZE,↓reduceIte,ZF,ZG,ZH,ZI,ZJ,reduceCtorEq,ZK,↓zU,↓zD,zV,zT,zW,hd,hwu,xO,hg,xR,uQ,hSl,hBl,hxl',hyl',gSx,gSy,gBx,gBy,gSk,gBk,aYd,hf,hf2,oM,bW,hSs,hBs]
     (repeat refine sd ?_)
     refine⟨k+1,by omega,?_,by omega⟩
     (refine xM.ren [] [2,1,0] (by simp) (by simp) (by decide) ?_; simp only [yP,vwL,vw,vwF,sw,St.get,St.look,Fr.get,↓reduceIte,reduceIte,Nat.reduceEqDiff,Nat.reduceAdd,Nat.reduceBEq,Nat.reduceLT,Nat.reduceLeDiff,exists_eq_left',ne_eq,reduceCtorEq,zR,yL,vQ])
    | false=>
     simp only [ZA,ZB,ZC,ZD,ZE,↓reduceIte,ZF,ZG,ZH,ZI,ZJ,reduceCtorEq,ZK,↓zU,↓zD,zV,zT,zW,hd,hwu,xO,hg,xR,uQ,hSl,hBl,hxl',hyl',gSx,gSy,gBx,gBy,gSk,gBk,aYd,hf,hf2]
     (repeat refine sd ?_)
     obtain⟨q1,q2⟩:=hno (by rw [hf,hf2]; rfl);rw [hSk q1,hBk q2];refine⟨k+1,by omega,?_,by omega⟩
     (refine xM.ren [] [2,1,0] (by simp) (by simp) (by decide) ?_; simp only [yP,vwL,vw,vwF,sw,St.get,St.look,Fr.get,↓reduceIte,reduceIte,Nat.reduceEqDiff,Nat.reduceAdd,Nat.reduceBEq,Nat.reduceLT,Nat.reduceLeDiff,exists_eq_left',ne_eq,reduceCtorEq,zR,yL,vQ])
  ·have h58:5<=op/\op<=8:=by
    unfold aNs at hb; rw [decide_eq_false h13,Bool.or_false,Bool.and_eq_true] at hb; exact⟨of_decide_eq_true hb.1,of_decide_eq_true hb.2⟩
   have h5:=h58.1;have h8:=h58.2
   cases hf:fv x with
   | false=>
    simp only [ZA,ZB,ZC,ZD,ZE,↓reduceIte,ZF,ZG,ZH,ZI,ZJ,reduceCtorEq,ZK,↓zU,↓zD,zV,zT,zW,hd,hwu,xO,hg,xR,uQ,hSl,hBl,hxl',hyl',gSx,gSy,gBx,gBy,gSk,gBk,aYd,h4,h5,h8,hf]
    (repeat refine sd ?_)
    obtain⟨q1,q2⟩:=hno (by rw [hf]; rfl);rw [hSk q1,hBk q2];refine⟨k+1,by omega,?_,by omega⟩
    (refine xM.ren [] [2,1,0] (by simp) (by simp) (by decide) ?_; simp only [yP,vwL,vw,vwF,sw,St.get,St.look,Fr.get,↓reduceIte,reduceIte,Nat.reduceEqDiff,Nat.reduceAdd,Nat.reduceBEq,Nat.reduceLT,Nat.reduceLeDiff,exists_eq_left',ne_eq,reduceCtorEq,zR,yL,vQ])
   | true=>
    cases hf2:fv y with
    | true=>
     simp only [ZA,ZB,ZC,ZD,ZE,↓reduceIte,ZF,ZG,ZH,ZI,ZJ,reduceCtorEq,ZK,↓zU,↓zD,zV,zT,zW,hd,hwu,xO,hg,xR,uQ,hSl,hBl,hxl',hyl',gSx,gSy,gBx,gBy,gSk,gBk,aYd,h4,h5,h8,hf,hf2]
     (repeat refine sd ?_)
     refine .go (xX.of_runs (hc' (by rw [hf,hf2]; rfl)) (by simp [D.isPureL,D.isPure])) ?_;simp only [ZA,ZB,ZC,ZD,ZE,↓reduceIte,ZF,ZG,ZH,ZI,ZJ,reduceCtorEq,ZK,↓zU,↓zD,zV,zT,zW,hd,hwu,xO,hg,xR,uQ,hSl,hBl,hxl',hyl',gSx,gSy,gBx,gBy,gSk,gBk,aYd,h4,h5,h8,hf,hf2,oM,bW,hSs,hBs]
     (repeat refine sd ?_)
     refine⟨k+1,by omega,?_,by omega⟩
     (refine xM.ren [] [2,1,0] (by simp) (by simp) (by decide) ?_; simp only [yP,vwL,vw,vwF,sw,St.get,St.look,Fr.get,↓reduceIte,reduceIte,Nat.reduceEqDiff,Nat.reduceAdd,Nat.reduceBEq,Nat.reduceLT,Nat.reduceLeDiff,exists_eq_left',ne_eq,reduceCtorEq,zR,yL,vQ])
    | false=>
     simp only [ZA,ZB,ZC,ZD,ZE,↓reduceIte,ZF,ZG,ZH,ZI,ZJ,reduceCtorEq,ZK,↓zU,↓zD,zV,zT,zW,hd,hwu,xO,hg,xR,uQ,hSl,hBl,hxl',hyl',gSx,gSy,gBx,gBy,gSk,gBk,aYd,h4,h5,h8,hf,hf2]
     (repeat refine sd ?_)
     obtain⟨q1,q2⟩:=hno (by rw [hf,hf2]; rfl);rw [hSk q1,hBk q2];refine⟨k+1,by omega,?_,by omega⟩
     (refine xM.ren [] [2,1,0] (by simp) (by simp) (by decide) ?_; simp only [yP,vwL,vw,vwF,sw,St.get,St.look,Fr.get,↓reduceIte,reduceIte,Nat.reduceEqDiff,Nat.reduceAdd,Nat.reduceBEq,Nat.reduceLT,Nat.reduceLeDiff,exists_eq_left',ne_eq,reduceCtorEq,zR,yL,vQ])
end Go.Pd
