/- Part KZ. -/
import Derived.Test.YtndfaefmmcoapaaGreatKaKX
set_option linter.unusedSectionVars false
set_option linter.unusedVariables false
set_option linter.unusedSimpArgs false
set_option linter.defProp false
set_option maxRecDepth 20000
set_option maxHeartbeats 1000000
namespace Go.Pd
open Go Go.Proofs
open Int renaming reduceToNat -> ZA, reduceLT -> ZB, reduceLE -> ZC, reduceBEq -> ZD, reduceBNe -> ZE
open Nat renaming reduceEqDiff -> ZF, reduceAdd -> ZG, reduceBEq -> ZH, reduceLT -> ZI, reduceLeDiff -> ZJ, reduceMul -> ZK
open Rs Fm Ru Te Kb
namespace Kb
def aRk (st:List (BitVec 64)):BitVec 64:=st.getD (st.length-1) 0
def aNw (p:PrA) (sts:List (List (BitVec 64))) (mv:List (List Int)) (i:Nat):BitVec 64:=aEu p (aRk (stR sts i)) (mv.map fun m=>m.getD i 0)
def cK (p:PrA) (sts:List (List (BitVec 64))) (mv:List (List Int)) (r:Nat):List (List (BitVec 64)):=(List.range sts.length).map fun i=>if i<r then stR sts i ++ [aNw p sts mv i] else stR sts i
def lJ (p:PrA) (sts:List (List (BitVec 64))) (mv:List (List Int)):List (List (BitVec 64)):=(List.range sts.length).map fun i=>stR sts i ++ [aNw p sts mv i]
section
variable {p : PrA} {sts : List (List (BitVec 64))} {mv : List (List Int)} {r : Nat}
theorem yD : (cK p sts mv r).length=sts.length:=by simp [cK]
theorem kY {i:Nat} (hi:i<sts.length):stR (cK p sts mv r) i=if i<r then stR sts i ++ [aNw p sts mv i] else stR sts i:=by
 simp [stR,cK,List.getD,hi]
theorem aPf : cK p sts mv 0=sts:=by
 refine List.ext_getElem (by simp [cK]) fun i h1 h2=>?_;simp [cK,stR,List.getD,h2]
theorem aMx (h:sts.length<=r):cK p sts mv r=lJ p sts mv:=by
 refine List.map_congr_left fun i hi=>?_;rw [if_pos (by have:=List.mem_range.1 hi; omega)]
theorem aMw (hr:r<sts.length):((cK p sts mv r).map us).set r (us (stR sts r ++ [aNw p sts mv r]))= (cK p sts mv (r+1)).map us:=by
 refine List.ext_getElem (by simp [cK]) fun k h1 h2=>?_;rw [List.getElem_set];simp only [cK,List.getElem_map,List.getElem_range]
 by_cases e:r=k
 ·subst e; rw [if_pos rfl,if_pos (by omega)]
 ·rw [if_neg e]
  by_cases hk:k<r
  ·rw [if_pos hk,if_pos (by omega)]
  ·rw [if_neg hk,if_neg (by omega)]
end
structure AP where
 r:Nat
 nx:Nat
 ks:List Nat
 objs:List (Nat × Ob)
structure IA (p : PrA) (sts : List (List (BitVec 64))) (mv : List (List Int)) (n0 : Nat) (x : AP) : Prop where
 hr:x.r<=sts.length
 hn:n0<=x.nx
 pl:PlI p (cK p sts mv x.r) 0 1 x.ks x.objs
 lt:∀ k ∈ x.ks,k<x.nx
theorem aM6 {l:List Nat} {i j x:Nat} (hj:j<l.length):(l.set i x).getD j 0=if i=j then x else l.getD j 0:=by
 simp only [List.getD,List.getElem?_set]
 split
 ·rename_i h; subst h; simp [hj]
 ·rfl
theorem mC {l:List Nat} {i x k:Nat} (h:k ∈ l.set i x):k=x\/k ∈ l:=(List.mem_or_eq_of_mem_set h).symm
theorem aOa {l:List Nat} (hd:l.Nodup) {i x:Nat} (hx:x ∉ l):(l.set i x).Nodup:=by
 unfold List.Nodup at hd ⊢;rw [List.pairwise_iff_getElem] at hd ⊢;intro a b ha hb hab;rw [List.length_set] at ha hb;rw [List.getElem_set,List.getElem_set]
 split
 ·rw [if_neg (by omega)];exact fun e=>hx (e ▸ List.getElem_mem _)
 ·split
  ·exact fun e=>hx (e ▸ List.getElem_mem _)
  ·exact hd a b ha hb hab
theorem IA.step {p:PrA} {sts:List (List (BitVec 64))} {mv:List (List Int)} {n0:Nat} {x:AP} (h:IA p sts mv n0 x) (hr:x.r<sts.length) {m:Nat} (hm:x.nx<=m) (h2:2<=x.nx) {ob:List (Nat × Ob)}
  (hout:St.look ob 1=some ⟨1,(sZ x.ks ((cK p sts mv x.r).map us)).set x.r [.osl m 1 ((stR sts x.r).length+1)]⟩) (hnew:St.look ob m=some ⟨1,us (stR sts x.r ++ [aNw p sts mv x.r])⟩)
  (hold:∀ k,k<x.nx->k≠1->k≠x.ks.getD x.r 0->St.look ob k=St.look x.objs k):IA p sts mv n0 ⟨x.r+1,m+1,x.ks.set x.r m,ob⟩:=by
 have hl:=h.pl.nst.len;rw [List.length_map,yD] at hl;have hnx:=h.hn;have hmk:m ∉ x.ks:=fun hk=>by have:=h.lt m hk; omega
 have hmr:=vN (l:=x.ks) (i:=x.r) (by omega)
 refine⟨by show x.r+1<=_; omega,by show n0<=m+1; omega,⟨?_,?_,aOa h.pl.nd hmk,by decide,fun hk=>?_,fun hk=>?_⟩,fun k hk=>?_⟩
 ·show St.look ob 0=_;rw [hold 0 (by omega) (by decide) fun e=>h.pl.xs (e ▸ hmr),h.pl.hx,yD,yD]
 ·show Nst ob 1 (x.ks.set x.r m) ((cK p sts mv (x.r+1)).map us);have hsl:(cK p sts mv x.r).length=sts.length:=yD
  refine⟨?_,by rw [List.length_set,List.length_map,yD]; exact hl,fun i hi=>?_⟩
  ·have:=aL2 h.pl.nst.len (i:=x.r) (by rw [List.length_map,yD]; exact hr) m (us (stR sts x.r ++ [aNw p sts mv x.r]));rw [xR,List.length_append,List.length_singleton,aMw hr] at this;rw [hout,this]
  ·rw [List.length_map,yD] at hi;rw [aM6 (by omega)]
   by_cases e:x.r=i
   ·subst e;rw [if_pos rfl,hnew,vI (by rw [yD]; exact hi),kY hi,if_pos (by omega)]
   ·rw [if_neg e,hold _ (h.lt _ (vN (by omega))) (fun c=>h.pl.ss (c ▸ vN (by omega))) fun c=>e (aZd h.pl.nd (by omega) (by omega) c.symm)];have:=h.pl.nst.each i (by rw [List.length_map,yD]; exact hi);rw [this,vI (by rw [yD]; exact hi),vI (by rw [yD]; exact hi),kY hi,kY hi]
    by_cases c:i<x.r
    ·rw [if_pos c,if_pos (by omega)]
    ·rw [if_neg c,if_neg (by omega)]
 ·rcases mC hk with e | e
  ·omega
  ·exact h.pl.xs e
 ·rcases mC hk with e | e
  ·omega
  ·exact h.pl.ss e
 ·show k<m+1
  rcases mC hk with e | e
  ·omega
  ·have:=h.lt k e; omega
end Kb
theorem aDv {b:Nat} {ks:List Nat} {k:Nat} (h:k<b):plR b 0 1 ks k=k:=by
 unfold plR
 by_cases h0:k=0
 ·rw [if_pos h0,h0]
 ·rw [if_neg h0]
  by_cases h1:k=1
  ·rw [if_pos h1,h1]
  ·rw [if_neg h1,if_neg (by omega)]
structure OP where
 j:Nat
 m:Nat
 kW:Nat
 ob:List (Nat × Ob)
structure IO (objs : List (Nat × Ob)) (n1 : Nat) (own : List Int) (x : OP) : Prop where
 hj:x.j<=own.length
 hm:n1<=x.m
 kW:x.j≠0->n1<=x.kW/\x.kW<x.m/\St.look x.ob x.kW=some ⟨1,rows .i64 (own.take x.j)⟩
 old:∀ k,k<n1->St.look x.ob k=St.look objs k
theorem eT {p:PrA} {F:Nat} (hv:PrV p F) {sts:List (List (BitVec 64))} (hR:1<=sts.length/\sts.length<=16) (hL:∀ st ∈ sts,1<=st.length/\st.length<=100) (hval:∀ st ∈ sts,∀ s ∈ st,s >>> F=0#64)
  {mv:List (List Int)} (hmA:1<=mv.length/\mv.length<=100) (hmR:∀ m ∈ mv,m.length=sts.length) (hmv:∀ m ∈ mv,∀ k ∈ m,k<p.moves.length) {nx:Nat} (hnx:2+sts.length<=nx) :
  xX Tryz.prog 121 [.ref 0 6 0 0,.sl 1 (rl mv)] ⟨nx,plL p 2 sts⟩ (.tup []) ⟨nx+sts.length,plL p nx (lJ p sts mv)⟩:=by
 have hsl:(lJ p sts mv).length=sts.length:=by simp [lJ]
 have hP0:=mP p (Nat.le_refl 2) sts;refine xX.go_fn mixed Tryz.func121 bYs (by simp) fun hf=>?_;have h00:=hP0.hx;unfold plO at h00;simp only [ZA,ZB,ZC,ZD,ZE,↓reduceIte,ZF,ZG,ZH,ZI,ZJ,reduceCtorEq,ZK,↓zU,↓zD,zV,zT,zW,h00]
 (repeat refine sd ?_)
 refine xV (fun x:AP=>[(13,.int .i64 x.r),(12,.int .i64 sts.length),(11,.osl 1 1 sts.length),(1,.sl 1 (rl mv)),(0,.ref 0 6 0 0)]) (fun x=>⟨x.nx,x.objs⟩) (IA p sts mv nx) (fun x=>sts.length-x.r)
  ⟨0,nx,List.range' 2 sts.length,plL p 2 sts⟩ ⟨Nat.zero_le _,Nat.le_refl _,by show PlI p (cK p sts mv 0) _ _ _ _; rw [aPf]; exact hP0,fun k hk=>by have:=List.mem_range'_1.1 hk; show k<nx; omega⟩ ?_ ?_
 ·(refine xM.same ?_; simp [xS,Fr.get])
 rintro ⟨r,n1,ks,objs⟩ hI;obtain⟨hr,hn,hpl,hlt⟩:=id hI;simp only at hr hn hpl hlt;refine xQ mixed ?_;by_cases hrl:r<sts.length
 case neg=>
  have hd:¬ ((r:Int)<(sts.length:Int)):=by omega
  rw [aMx (by omega)] at hpl;simp only [ZA,ZB,ZC,ZD,ZE,↓reduceIte,ZF,ZG,ZH,ZI,ZJ,reduceCtorEq,ZK,↓zU,↓zD,zV,zT,zW,hd];have hr:=nA.play (b:=nx) (n0:=nx) (nx:=n1) (d1:=.tup []) (d:=.tup []) hpl (by omega) (by omega) (fun k hk=>aDv hk) (by simp only [vw,vwL]; exact⟨trivial,trivial⟩);rw [hsl] at hr;exact hr
 have hd:((r:Int)<(sts.length:Int)):=by omega
 have hnl:=hpl.nst.len;rw [List.length_map,yD] at hnl;have hnr:=vO hpl.nst.len;rw [List.length_map,yD] at hnr;have hgr:=qK hpl.nst.len (i:=r) (by rw [List.length_map,yD]; exact hrl);have hst:=kY (p:=p) (mv:=mv) (r:=r) hrl;rw [if_neg (Nat.lt_irrefl r)] at hst;rw [vI (by rw [yD]; exact hrl),hst,xR] at hgr;have hkr:=hpl.nst.each r (by rw [List.length_map,yD]; exact hrl);rw [vI (by rw [yD]; exact hrl),hst] at hkr;have hmem:=vN (l:=ks) (i:=r) (by omega);have hkr0:ks.getD r 0≠0:=fun e=>hpl.xs (e ▸ hmem);have hkr1:ks.getD r 0≠1:=fun e=>hpl.ss (e ▸ hmem);have hkrn:=hlt _ hmem;have hout:=hpl.nst.out;have h0:=hpl.hx;unfold plO at h0;rw [yD] at h0;have hstep:=fun m hm ob=>@IA.step p sts mv nx ⟨r,n1,ks,objs⟩ hI hrl m hm (by show 2<=n1; omega) ob;simp only at hstep;have hnw:aNw p sts mv r=aEu p (aRk (stR sts r)) (mv.map fun m=>m.getD r 0):=rfl;have hLr:1<=(stR sts r).length/\(stR sts r).length<=100:=hL _ (xN (d:=[]) hrl);have hvr:∀ s ∈ stR sts r,s >>> F=0#64:=hval _ (xN (d:=[]) hrl);have hls:=hvr (aRk (stR sts r)) (xN (by omega));have hgl:=zI (stR sts r) (show (stR sts r).length-1<_ by omega);have hwl:IntKind.i64.wrap ((stR sts r).length-1:Int)= (((stR sts r).length-1:Nat):Int):=by rw [wrap_i64 (by omega)]; omega
 have hSk:=yD (p:=p) (sts:=sts) (mv:=mv) (r:=r);change (us (stR sts r)).getD _ [] = [.int .u64 (ui (aRk (stR sts r)))] at hgl;generalize cK p sts mv r=sk at *;generalize ks.getD r 0=kr at *;generalize stR sts r=st at *;generalize aRk st=s at *;have hmd:∀ m ∈ mv,m.getD r 0<p.moves.length:=fun m hm=>hmv m hm _ (xN (by rw [hmR m hm]; exact hrl))
 have hnext:=aGe hv sk hls (mv:=mv.map fun m=>m.getD r 0) (by rw [List.length_map]; omega) fun k hk=>by
  simp only [List.mem_map] at hk;obtain⟨m,hm,rfl⟩:=hk;exact hmd m hm
 rw [<- hnw] at hnext;generalize aNw p sts mv r=y at *;have hown:(mv.map fun m=>m.getD r 0).length=mv.length:=List.length_map _;have howg:∀ j,j<mv.length->(mv.map fun m=>m.getD r 0).getD j 0=(mv.getD j []).getD r 0:=fun j hj=>by simp [List.getD,hj]
 generalize (mv.map fun m=>m.getD r 0)= own at *;simp only [ZA,ZB,ZC,ZD,ZE,↓reduceIte,ZF,ZG,ZH,ZI,ZJ,reduceCtorEq,ZK,↓zU,↓zD,zV,zT,zW,hd,hout,hnr,hgr,vL]
 (repeat refine sd ?_)
 refine xV (fun x:OP=>[(20,.int .i64 x.j),(19,.int .i64 mv.length),(13,.int .i64 r),(12,.int .i64 sts.length),(11,.osl 1 1 sts.length),(6,rP x.kW x.j),(5,.osl kr 1 st.length),(4,.int .i64 r),(1,.sl 1 (rl mv)),(0,.ref 0 6 0 0)]) (fun x=>⟨x.m,x.ob⟩)
  (IO objs n1 own) (fun x=>mv.length-x.j) ⟨0,n1,0,objs⟩ ⟨Nat.zero_le _,Nat.le_refl _,fun h=>absurd rfl h,fun _ _=>rfl⟩ ?_ ?_
 ·(refine xM.same ?_; simp [xS,Fr.get,rP])
 rintro ⟨j,m,kW,ob⟩ ⟨hj,hm,hkW,hold⟩;simp only at hj hm hkW hold;have g0:St.look ob 0=some ⟨6,[[.int .i64 p.F,.sl 1 (us p.init),.sl 1 (us p.see),.sl 1 (mvR p.moves),.sl 1 (cdR p.code),.osl 1 1 sts.length]]⟩:=by rw [hold 0 (by omega)]; exact h0
 have g1:St.look ob 1=some ⟨1,sZ ks (sk.map us)⟩:=by rw [hold 1 (by omega)]; exact hout
 have g2:St.look ob kr=some ⟨1,us st⟩:=by rw [hold kr hkrn]; exact hkr
 refine xQ mixed ?_;by_cases hjl:j<mv.length
 case pos=>
  have hd2:((j:Int)<(mv.length:Int)):=by omega
  have hgm:=gE mv hjl;have hml:=hmR _ (xN (d:=[]) hjl);have hrm:((r:Int)<((mv.getD j []).length:Int)):=by omega
  have hge:=yM .i64 (mv.getD j []) (show r<_ by omega);rw [<- howg j hjl] at hge;have htk:=yE (d:=0) (show j<own.length by omega);generalize mv.getD j []=e at *;generalize own.getD j 0=z at *
  by_cases hj0:j=0
  ·subst hj0;have hd20:(0:Int)<(mv.length:Int):=by omega
   unfold rP;simp only [ZA,ZB,ZC,ZD,ZE,↓reduceIte,ZF,ZG,ZH,ZI,ZJ,reduceCtorEq,ZK,↓zU,↓zD,zV,zT,zW,hd20,vL,hgm,hrm,xF,hge]
   (repeat refine sd ?_)
   refine⟨⟨0+1,m+1,m,(m,⟨1,[[.int .i64 z]]⟩) :: ob⟩,⟨by show 0+1<=_; omega,by show n1<=m+1; omega,fun _=>⟨hm,by show m<m+1; omega,?_⟩,fun k hk=>by show St.look ((m,_) :: ob) k=_; rw [xY,if_neg (by omega)]; exact hold k hk⟩,?_,by show mv.length-(0+1)<_; omega⟩
   ·show St.look ((m,_) :: ob) m=_;rw [xY,if_pos rfl];show _=some (Ob.mk 1 (rows .i64 (own.take (0+1))));rw [htk]; rfl
   ·(refine xM.same ?_; simp only [xS,Fr.get,↓reduceIte,reduceIte,Nat.reduceEqDiff,reduceCtorEq,D.int.injEq,D.bool.injEq,D.sl.injEq,and_true,true_and,and_self,Nat.zero_add,Nat.one_ne_zero])
    rfl
  ·obtain⟨w1,w2,w3⟩:=hkW hj0;have hol:(own.take j).length=j:=by rw [List.length_take]; omega
   unfold rP;rw [if_neg hj0];have q1:¬ (m=kW):=by omega
   have htt:(own.take j).take j=own.take j:=by rw [List.take_take,Nat.min_self]
   simp only [ZA,ZB,ZC,ZD,ZE,↓reduceIte,ZF,ZG,ZH,ZI,ZJ,reduceCtorEq,ZK,↓zU,↓zD,zV,zT,zW,hd2,vL,hgm,hrm,xF,hge,w3,hol,htt]
   (repeat refine sd ?_)
   refine⟨⟨j+1,m+1,m,(m,⟨1,rows .i64 (own.take j ++ [z])⟩) :: yR ob kW⟩,⟨by show j+1<=_; omega,by show n1<=m+1; omega,fun _=>⟨hm,by show m<m+1; omega,?_⟩,fun k hk=>by show St.look ((m,_) :: yR ob kW) k=_; rw [xY,if_neg (by omega),xL,if_neg (by omega)]; exact hold k hk⟩,?_,by show mv.length-(j+1)<_; omega⟩
   ·show St.look ((m,_) :: _) m=_;rw [xY,if_pos rfl];show _=some (Ob.mk 1 (rows .i64 (own.take (j+1))));rw [htk]
   ·simp only [Nat.add_one_ne_zero,↓reduceIte]
    (refine xM.same ?_; simp only [xS,Fr.get,↓reduceIte,reduceIte,Nat.reduceEqDiff,reduceCtorEq,D.int.injEq,D.bool.injEq,D.sl.injEq,and_true,true_and,and_self])
    exact wrap_i64 (by omega)
 have hd2:¬ ((j:Int)<(mv.length:Int)):=by omega
 obtain rfl:j=mv.length:=by omega
 have hj0:mv.length≠0:=by omega
 obtain⟨w1,w2,w3⟩:=hkW hj0;unfold rP;rw [if_neg hj0];have how:own.take mv.length=own:=List.take_of_length_le (by omega);rw [how] at w3
 have hKP:PlI p sk 0 1 ks ob:=⟨by show _=some (plO p 1 sk.length); rw [g0,hSk]; rfl,⟨g1,hpl.nst.len,fun i hi=>by
  have hik:i<ks.length:=by have:=hpl.nst.len; omega
  rw [hold _ (hlt _ (vN hik))]; exact hpl.nst.each i hi⟩,hpl.nd,hpl.ne,hpl.xs,hpl.ss⟩
 have hcall:xX Tryz.prog 183 [.ref 0 6 0 0,.int .u64 (ui s),.osl kW 1 mv.length] ⟨m,ob⟩ (.int .u64 (ui y)) ⟨m,ob⟩:=
  xX.lentS hnext ⟨hKP.seen (fun h=>h) (fun h=>h) fun _ _ h=>h,.pure rfl,Seen.rows w3 (fun h=>h) (by decide) (by rw [xF]; omega) (fun e he=>by
   simp only [rows,List.mem_map] at he;obtain⟨x,_,rfl⟩:=he;rfl) (uY _ _),trivial⟩ rfl
 have hlt2:(((st.length-1:Nat):Int)<(st.length:Int)):=by omega
 have hlt3:st.length-1<st.length:=by omega
 simp only [ZA,ZB,ZC,ZD,ZE,↓reduceIte,ZF,ZG,ZH,ZI,ZJ,reduceCtorEq,ZK,↓zU,↓zD,zV,zT,zW,hd2,↓aMb]
 (refine aPa mixed ?_; simp only [ZA,ZB,ZC,ZD,ZE,↓reduceIte,ZF,ZG,ZH,ZI,ZJ,reduceCtorEq,ZK,↓zU,↓zD,zV,zT,zW,↓rv1,↓aVe,↓aV,↓fS,g0,g1,g2,hwl,hgl,hlt2,hlt3,xR])
 (repeat refine sd ?_)
 refine bX.go hcall ?_;have e0:St.look (yR ob kr) 0=some ⟨6,[[.int .i64 p.F,.sl 1 (us p.init),.sl 1 (us p.see),.sl 1 (mvR p.moves),.sl 1 (cdR p.code),.osl 1 1 sts.length]]⟩:=by rw [xL,if_neg hkr0]; exact g0
 have e1:St.look (yR ob kr) 1=some ⟨1,sZ ks (sk.map us)⟩:=by rw [xL,if_neg hkr1]; exact g1
 have q0:¬ (m=0):=by omega
 have q1:¬ (m=1):=by omega
 have q2:¬ (m=kr):=by omega
 have htk:(us st).take st.length=us st:=List.take_of_length_le (by rw [xR]; exact Nat.le_refl _)
 (simp only [ZA,ZB,ZC,ZD,ZE,↓reduceIte,ZF,ZG,ZH,ZI,ZJ,reduceCtorEq,ZK,↓zU,↓zD,zV,zT,zW,↓rv1,↓aVe,↓aV,↓fS,g0,g1,g2,e0,e1,q0,q1,q2,xR,htk,hnr,hgr,hd,aYy])
 (repeat refine sd ?_)
 refine⟨⟨r+1,m+1,ks.set r m,(m,⟨1,us (st ++ [y])⟩) :: wG (yR ob kr) 1 ⟨1,(sZ ks (sk.map us)).set r [.osl m 1 (st.length+1)]⟩⟩,hstep m hm _ ?_ ?_ fun k hk h1 h2=>?_,?_,by show sts.length-(r+1)<_; omega⟩
 ·rw [xY,if_neg q1,xW,if_pos rfl,e1]; rfl
 ·rw [xY,if_pos rfl]
 ·rw [xY,if_neg (by omega),xW,if_neg (fun e=>h1 e.symm),xL,if_neg (fun e=>h2 e.symm)];exact hold k hk
 ·(refine xM.same ?_; simp only [xS,Fr.get,↓reduceIte,reduceIte,Nat.reduceEqDiff,reduceCtorEq,D.int.injEq,D.bool.injEq,D.sl.injEq,and_true,true_and,and_self])
  exact wrap_i64 (by omega)
end Go.Pd
