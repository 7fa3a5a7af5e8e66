/- Part KZ. -/
import Derived.Test.YtndfaefmmcoapaaGreatGeKV
import Derived.Test.YtndfaefmmcoapaaGreatGeXA
import Derived.Test.YtndfaefmmcoapaaGreatGeXS
import Derived.Test.YtndfaefmmcoapaaGreatGeX9
import Derived.Shelf.Small.Bits
set_option linter.unusedSectionVars false
set_option linter.unusedVariables false
set_option linter.unusedSimpArgs false
set_option linter.defProp false
set_option maxRecDepth 20000
set_option maxHeartbeats 1000000
open Go.Proofs.Tryz
open List renaming length_map->γ,mem_map->δ,length_append->ε,take_of_length_le->ζ,range_zero->η,range_succ->θ,map_append->κ,mem_range->μ,map_nil->ν,nil_append->ξ,length_take->ο,getElem_set->π,map_congr_left->τ,flatMap_append->υ,mem_singleton->χ,getElem_mem->ψ,flatMap_nil->ω,ext_getElem->Aa
open Nat renaming zero_le->Ab,le_refl->Ac,mul_le_mul->Ad,not_lt_zero->Ae,succ_mul->Af,add_sub_cancel->Ag
open BitVec renaming getLsbD_zero->Ah,getLsbD_ushiftRight->Ai
namespace Go.Pd
open Go Go.Proofs
open BitVec renaming isValue -> ZA
open Rs Fm Ru Te Kb
namespace Kb
def vm (st:List (BitVec 64)):BitVec 64:=st.getD (st.length-1) 0
def zr (p:yT) (sts:List (List (BitVec 64))) (mv:List (List Int)) (i:Nat):BitVec 64:=j7 p (vm (vK sts i)) (mv.map λm=>m.getD i 0)
def nB (p:yT) (sts:List (List (BitVec 64))) (mv:List (List Int)) (r:Nat):List (List (BitVec 64)):=(List.range sts.length).map λi=>if i<r then vK sts i ++ [zr p sts mv i] else vK sts i
def nP (p:yT) (sts:List (List (BitVec 64))) (mv:List (List Int)):List (List (BitVec 64)):=(List.range sts.length).map λi=>vK sts i ++ [zr p sts mv i]
section
variable {p : yT} {sts : List (List (BitVec 64))} {mv : List (List Int)} {r : Nat}
theorem yM : (nB p sts mv r).length=sts.length:=by simp [nB]
theorem nL {i:Nat} (hi:i<sts.length):vK (nB p sts mv r) i=if i<r then vK sts i ++ [zr p sts mv i] else vK sts i:=by simp [vK,nB,List.getD,hi]
theorem ir : nB p sts mv 0=sts:=by refine Aa (by simp [nB]) λi h1 h2=>?_;simp [nB,vK,List.getD,h2]
theorem Xl (h:sts.length<=r):nB p sts mv r=nP p sts mv:=by refine τ λi hi=>?_;rw [if_pos (by have:=μ.1 hi; omega)]
theorem Xm (hr:r<sts.length):((nB p sts mv r).map us).set r (us (vK sts r ++ [zr p sts mv r]))= (nB p sts mv (r+1)).map us:=by
 refine Aa (by simp [nB]) λk h1 h2=>?_;rw [π];simp only [nB,List.getElem_map,List.getElem_range]
 by_cases e:r=k
 ·subst e; rw [if_pos rfl,if_pos (by omega)]
 ·rw [if_neg e]
  by_cases hk:k<r
  ·rw [if_pos hk,if_pos (by omega)]
  ·rw [if_neg hk,if_neg (by omega)]
end
structure AP where
 r:Nat
 nx:Nat
 ks:List Nat
 xZ:List (Nat × Ob)
structure IA (p : yT) (sts : List (List (BitVec 64))) (mv : List (List Int)) (n0 : Nat) (x : AP) : Prop where
 hr:x.r<=sts.length
 hn:n0<=x.nx
 pl:Zl p (nB p sts mv x.r) 0 1 x.ks x.xZ
 lt:∀ k ∈ x.ks,k<x.nx
theorem Xi {l:List Nat} {i j x:Nat} (hj:j<l.length):(l.set i x).getD j 0=if i=j then x else l.getD j 0:=by
 simp only [List.getD,List.getElem?_set]
 split
 ·rename_i h; subst h; simp [hj]
 ·rfl
theorem nZ {l:List Nat} {i x k:Nat} (h:k ∈ l.set i x):k=x\/k ∈ l:=(List.mem_or_eq_of_mem_set h).symm
theorem gj {l:List Nat} (hd:l.Nodup) {i x:Nat} (hx:x ∉ l):(l.set i x).Nodup:=by
 unfold List.Nodup at hd ⊢;rw [List.pairwise_iff_getElem] at hd ⊢;intro a b ha hb hab;rw [List.length_set] at ha hb;rw [π,π]
 split
 ·rw [if_neg (by omega)];exact λe=>hx (e ▸ ψ _)
 ·split
  ·exact λe=>hx (e ▸ ψ _)
  ·exact hd a b ha hb hab
theorem IA.step {p:yT} {sts:List (List (BitVec 64))} {mv:List (List Int)} {n0:Nat} {x:AP} (h:IA p sts mv n0 x) (hr:x.r<sts.length) {m:Nat} (hm:x.nx<=m) (h2:2<=x.nx) {ob:List (Nat × Ob)}
  (hout:St.look ob 1=some ⟨1,(vQ x.ks ((nB p sts mv x.r).map us)).set x.r [.yD m 1 ((vK sts x.r).length+1)]⟩) (hnew:St.look ob m=some ⟨1,us (vK sts x.r ++ [zr p sts mv x.r])⟩)
  (hold:∀ k,k<x.nx->k≠1->k≠x.ks.getD x.r 0->St.look ob k=St.look x.xZ k):IA p sts mv n0 ⟨x.r+1,m+1,x.ks.set x.r m,ob⟩:=by
 have hl:=h.pl.jT.len;rw [γ,yM] at hl;have hnx:=h.hn;have hmk:m ∉ x.ks:=λhk=>by have:=h.lt m hk; omega
 have hmr:=uZ (l:=x.ks) (i:=x.r) (by omega)
 refine⟨by show x.r+1<=_; omega,by show n0<=m+1; omega,⟨?_,?_,gj h.pl.nd hmk,by decide,λhk=>?_,λhk=>?_⟩,λk hk=>?_⟩
 ·show St.look ob 0=_;rw [hold 0 (by omega) (by decide) λe=>h.pl.xs (e ▸ hmr),h.pl.hx,yM,yM]
 ·show fQ ob 1 (x.ks.set x.r m) ((nB p sts mv (x.r+1)).map us);have hsl:(nB p sts mv x.r).length=sts.length:=yM
  refine⟨?_,by rw [List.length_set,γ,yM]; exact hl,λi hi=>?_⟩
  ·have:=XN h.pl.jT.len (i:=x.r) (by rw [γ,yM]; exact hr) m (us (vK sts x.r ++ [zr p sts mv x.r]));rw [xT,ε,List.length_singleton,Xm hr] at this;rw [hout,this]
  ·rw [γ,yM] at hi;rw [Xi (by omega)]
   by_cases e:x.r=i
   ·subst e;rw [if_pos rfl,hnew,uO (by rw [yM]; exact hi),nL hi,if_pos (by omega)]
   ·rw [if_neg e,hold _ (h.lt _ (uZ (by omega))) (λc=>h.pl.ss (c ▸ uZ (by omega))) λc=>e (xp h.pl.nd (by omega) (by omega) c.symm)];have:=h.pl.jT.each i (by rw [γ,yM]; exact hi);rw [this,uO (by rw [yM]; exact hi),uO (by rw [yM]; exact hi),nL hi,nL hi]
    by_cases c:i<x.r
    ·rw [if_pos c,if_pos (by omega)]
    ·rw [if_neg c,if_neg (by omega)]
 ·rcases nZ hk with e | e
  ·omega
  ·exact h.pl.xs e
 ·rcases nZ hk with e | e
  ·omega
  ·exact h.pl.ss e
 ·show k<m+1
  rcases nZ hk with e | e
  ·omega
  ·have:=h.lt k e; omega
end Kb
theorem MQ {b:Nat} {ks:List Nat} {k:Nat} (h:k<b):l7 b 0 1 ks k=k:=by
 unfold l7
 by_cases h0:k=0
 ·rw [if_pos h0,h0]
 ·rw [if_neg h0]
  by_cases h1:k=1
  ·rw [if_pos h1,h1]
  ·rw [if_neg h1,if_neg (by omega)]
structure OP where
 j:Nat
 m:Nat
 kW:Nat
 ob:List (Nat × Ob)
structure IO (xZ : List (Nat × Ob)) (n1 : Nat) (own : List Int) (x : OP) : Prop where
 hj:x.j<=own.length
 hm:n1<=x.m
 kW:x.j≠0->n1<=x.kW/\x.kW<x.m/\St.look x.ob x.kW=some ⟨1,rows .i64 (own.take x.j)⟩
 oJ:∀ k,k<n1->St.look x.ob k=St.look xZ k
theorem lq {p:yT} {F:Nat} (hv:zz p F) {sts:List (List (BitVec 64))} (hR:1<=sts.length/\sts.length<=16) (hL:∀ st ∈ sts,1<=st.length/\st.length<=100) (hval:∀ st ∈ sts,∀ s ∈ st,s >>> F=0#64)
  {mv:List (List Int)} (hmA:1<=mv.length/\mv.length<=100) (hmR:∀ m ∈ mv,m.length=sts.length) (hmv:∀ m ∈ mv,∀ k ∈ m,k<p.xO.length) {nx:Nat} (hnx:2+sts.length<=nx) :
  xQ prog 121 [.ref 0 6 0 0,.sl 1 (rl mv)] ⟨nx,ko p 2 sts⟩ (.wF []) ⟨nx+sts.length,ko p nx (nP p sts mv)⟩:=by
 have hsl:(nP p sts mv).length=sts.length:=by simp [nP]
 have hP0:=dY p (Ac 2) sts;refine xI func121 IR λhf=>?_;have h00:=hP0.hx;unfold N4 at h00;refine vR h00 ?_
 refine xU (λx:AP=>[(13,.int .i64 x.r),(12,.int .i64 sts.length),(11,.yD 1 1 sts.length),(1,.sl 1 (rl mv)),(0,.ref 0 6 0 0)]) (λx=>⟨x.nx,x.xZ⟩) (IA p sts mv nx) (λx=>sts.length-x.r)
  ⟨0,nx,List.range' 2 sts.length,ko p 2 sts⟩ ⟨Ab _,Ac _,by show Zl p (nB p sts mv 0) _ _ _ _; rw [ir]; exact hP0,λk hk=>by have:=List.mem_range'_1.1 hk; show k<nx; omega⟩ ?_ ?_
 ·exact wO
 rintro ⟨r,n1,ks,xZ⟩ hI;obtain⟨hr,hn,hpl,hlt⟩:=id hI;simp only at hr hn hpl hlt;refine xN mixed ?_;by_cases hrl:r<sts.length
 case neg=>
  have hd:¬ ((r:Int)<(sts.length:Int)):=by omega
  rw [Xl (by omega)] at hpl;refine xH hd ?_;have hr:=sH.ZY (b:=nx) (n0:=nx) (nx:=n1) (d1:=.wF []) (d:=.wF []) hpl (by omega) (by omega) (λk hk=>MQ hk) (by simp only [vw,vC]; exact⟨trivial,trivial⟩);rw [hsl] at hr;exact hr
 have hd:((r:Int)<(sts.length:Int)):=by omega
 have hnl:=hpl.jT.len;rw [γ,yM] at hnl;have hnr:=uY hpl.jT.len;rw [γ,yM] at hnr;have hgr:=oT hpl.jT.len (i:=r) (by rw [γ,yM]; exact hrl);have hst:=nL (p:=p) (mv:=mv) (r:=r) hrl;rw [if_neg (Nat.lt_irrefl r)] at hst;rw [uO (by rw [yM]; exact hrl),hst,xT] at hgr;have hkr:=hpl.jT.each r (by rw [γ,yM]; exact hrl);rw [uO (by rw [yM]; exact hrl),hst] at hkr;have hmem:=uZ (l:=ks) (i:=r) (by omega);have hkr0:ks.getD r 0≠0:=λe=>hpl.xs (e ▸ hmem);have hkr1:ks.getD r 0≠1:=λe=>hpl.ss (e ▸ hmem);have hkrn:=hlt _ hmem;have hout:=hpl.jT.out;have h0:=hpl.hx;unfold N4 at h0;rw [yM] at h0;have hstep:=λm hm ob=>@IA.step p sts mv nx ⟨r,n1,ks,xZ⟩ hI hrl m hm (by show 2<=n1; omega) ob;simp only at hstep;have hnw:zr p sts mv r=j7 p (vm (vK sts r)) (mv.map λm=>m.getD r 0):=rfl;have hLr:1<=(vK sts r).length/\(vK sts r).length<=100:=hL _ (xK (d:=[]) hrl);have hvr:∀ s ∈ vK sts r,s >>> F=0#64:=hval _ (xK (d:=[]) hrl);have hls:=hvr (vm (vK sts r)) (xK (by omega));have hgl:=yF (vK sts r) (show (vK sts r).length-1<_ by omega);have hwl:IntKind.i64.wrap ((vK sts r).length-1:Int)= (((vK sts r).length-1:Nat):Int):=by rw [wrap_i64 (by omega)]; omega
 have hSk:=yM (p:=p) (sts:=sts) (mv:=mv) (r:=r);change (us (vK sts r)).getD _ [] = [.int .u64 (ui (vm (vK sts r)))] at hgl;generalize nB p sts mv r=sk at *;generalize ks.getD r 0=kr at *;generalize vK sts r=st at *;generalize vm st=s at *;have hmd:∀ m ∈ mv,m.getD r 0<p.xO.length:=λm hm=>hmv m hm _ (xK (by rw [hmR m hm]; exact hrl))
 have hnext:=OX hv sk hls (mv:=mv.map λm=>m.getD r 0) (by rw [γ]; omega) λk hk=>by simp only [δ] at hk;obtain⟨m,hm,rfl⟩:=hk;exact hmd m hm
 rw [<- hnw] at hnext;generalize zr p sts mv r=y at *;have hown:(mv.map λm=>m.getD r 0).length=mv.length:=γ _;have howg:∀ j,j<mv.length->(mv.map λm=>m.getD r 0).getD j 0=(mv.getD j []).getD r 0:=λj hj=>by simp [List.getD,hj]
 generalize (mv.map λm=>m.getD r 0)= own at *;refine rI hd hout hnr hgr sG ?_
 refine xU (λx:OP=>[(20,.int .i64 x.j),(19,.int .i64 mv.length),(13,.int .i64 r),(12,.int .i64 sts.length),(11,.yD 1 1 sts.length),(6,wE x.kW x.j),(5,.yD kr 1 st.length),(4,.int .i64 r),(1,.sl 1 (rl mv)),(0,.ref 0 6 0 0)]) (λx=>⟨x.m,x.ob⟩)
  (IO xZ n1 own) (λx=>mv.length-x.j) ⟨0,n1,0,xZ⟩ ⟨Ab _,Ac _,λh=>absurd rfl h,λ_ _=>rfl⟩ ?_ ?_
 ·(refine yR.same ?_; simp [yS,Fr.get,wE])
 rintro ⟨j,m,kW,ob⟩ ⟨hj,hm,hkW,hold⟩;simp only at hj hm hkW hold;have g0:St.look ob 0=some ⟨6,[[.int .i64 p.F,.sl 1 (us p.init),.sl 1 (us p.xV),.sl 1 (uK p.xO),.sl 1 (uJ p.code),.yD 1 1 sts.length]]⟩:=by rw [hold 0 (by omega)]; exact h0
 have g1:St.look ob 1=some ⟨1,vQ ks (sk.map us)⟩:=by rw [hold 1 (by omega)]; exact hout
 have g2:St.look ob kr=some ⟨1,us st⟩:=by rw [hold kr hkrn]; exact hkr
 refine xN mixed ?_;by_cases hjl:j<mv.length
 case pos=>
  have hd2:((j:Int)<(mv.length:Int)):=by omega
  have hgm:=zm mv hjl;have hml:=hmR _ (xK (d:=[]) hjl);have hrm:((r:Int)<((mv.getD j []).length:Int)):=by omega
  have hge:=wU .i64 (mv.getD j []) (show r<_ by omega);rw [<- howg j hjl] at hge;have htk:=yE (d:=0) (show j<own.length by omega);generalize mv.getD j []=e at *;generalize own.getD j 0=z at *
  by_cases hj0:j=0
  ·subst hj0;have hd20:(0:Int)<(mv.length:Int):=by omega
   unfold wE;refine pH hd20 sG hgm hrm yU hge ?_
   refine⟨⟨0+1,m+1,m,(m,⟨1,[[.int .i64 z]]⟩) :: ob⟩,⟨by show 0+1<=_; omega,by show n1<=m+1; omega,λ_=>⟨hm,by show m<m+1; omega,?_⟩,λk hk=>by show St.look ((m,_) :: ob) k=_; rw [xX,if_neg (by omega)]; exact hold k hk⟩,?_,by show mv.length-(0+1)<_; omega⟩
   ·show St.look ((m,_) :: ob) m=_;rw [xX,if_pos rfl];show _=some (Ob.mk 1 (rows .i64 (own.take (0+1))));rw [htk]; rfl
   ·(refine yR.same ?_; simp only [yS,Fr.get,simprocAttr,-ZA,zS,Nat.zero_add,Nat.one_ne_zero])
    all_goals rfl
  ·obtain⟨w1,w2,w3⟩:=hkW hj0;have hol:(own.take j).length=j:=by rw [ο]; omega
   unfold wE;rw [if_neg hj0];have q1:¬ (m=kW):=by omega
   have htt:(own.take j).take j=own.take j:=by rw [List.take_take,Nat.min_self]
   refine j9 hd2 sG hgm hrm yU hge w3 hol htt ?_
   refine⟨⟨j+1,m+1,m,(m,⟨1,rows .i64 (own.take j ++ [z])⟩) :: yN ob kW⟩,⟨by show j+1<=_; omega,by show n1<=m+1; omega,λ_=>⟨hm,by show m<m+1; omega,?_⟩,λk hk=>by show St.look ((m,_) :: yN ob kW) k=_; rw [xX,if_neg (by omega),xC,if_neg (by omega)]; exact hold k hk⟩,?_,by show mv.length-(j+1)<_; omega⟩
   ·show St.look ((m,_) :: _) m=_;rw [xX,if_pos rfl];show _=some (Ob.mk 1 (rows .i64 (own.take (j+1))));rw [htk]
   ·simp only [Nat.add_one_ne_zero,↓reduceIte];exact yL
 have hd2:¬ ((j:Int)<(mv.length:Int)):=by omega
 obtain rfl:j=mv.length:=by omega
 have hj0:mv.length≠0:=by omega
 obtain⟨w1,w2,w3⟩:=hkW hj0;unfold wE;rw [if_neg hj0];have how:own.take mv.length=own:=ζ (by omega);rw [how] at w3
 have hKP:Zl p sk 0 1 ks ob:=⟨by show _=some (N4 p 1 sk.length); rw [g0,hSk]; rfl,⟨g1,hpl.jT.len,λi hi=>by
  have hik:i<ks.length:=by have:=hpl.jT.len; omega
  rw [hold _ (hlt _ (uZ hik))]; exact hpl.jT.each i hi⟩,hpl.nd,hpl.ne,hpl.xs,hpl.ss⟩
 have hcall:xQ prog 183 [.ref 0 6 0 0,.int .u64 (ui s),.yD kW 1 mv.length] ⟨m,ob⟩ (.int .u64 (ui y)) ⟨m,ob⟩:=
  xQ.Sq hnext ⟨hKP.seen (λh=>h) (λh=>h) λ_ _ h=>h,.pure rfl,Seen.rows w3 (λh=>h) (by decide) (by rw [yU]; omega) (λe he=>by simp only [rows,δ] at he;obtain⟨x,_,rfl⟩:=he;rfl) (qS _ _),trivial⟩ rfl
 have hlt2:(((st.length-1:Nat):Int)<(st.length:Int)):=by omega
 have hlt3:st.length-1<st.length:=by omega
 simp only [simprocAttr,-ZA,↓zU,↓zD,zV,zT,zW,hd2,↓S5]
 (refine Uo mixed ?_; simp only [simprocAttr,-ZA,↓zU,↓zD,zV,zT,zW,↓LK,↓XU,↓gn,↓nr,g0,g1,g2,hwl,hgl,hlt2,hlt3,xT])
 (repeat refine sd ?_)
 refine aD.go hcall ?_;have e0:St.look (yN ob kr) 0=some ⟨6,[[.int .i64 p.F,.sl 1 (us p.init),.sl 1 (us p.xV),.sl 1 (uK p.xO),.sl 1 (uJ p.code),.yD 1 1 sts.length]]⟩:=by rw [xC,if_neg hkr0]; exact g0
 have e1:St.look (yN ob kr) 1=some ⟨1,vQ ks (sk.map us)⟩:=by rw [xC,if_neg hkr1]; exact g1
 have q0:¬ (m=0):=by omega
 have q1:¬ (m=1):=by omega
 have q2:¬ (m=kr):=by omega
 have htk:(us st).take st.length=us st:=ζ (by rw [xT]; exact Ac _)
 (simp only [simprocAttr,-ZA,↓zU,↓zD,zV,zT,zW,↓LK,↓XU,↓gn,↓nr,g0,g1,g2,e0,e1,q0,q1,q2,xT,htk,hnr,hgr,hd,tm])
 (repeat refine sd ?_)
 refine⟨⟨r+1,m+1,ks.set r m,(m,⟨1,us (st ++ [y])⟩) :: zC (yN ob kr) 1 ⟨1,(vQ ks (sk.map us)).set r [.yD m 1 (st.length+1)]⟩⟩,hstep m hm _ ?_ ?_ λk hk h1 h2=>?_,?_,by show sts.length-(r+1)<_; omega⟩
 ·rw [xX,if_neg q1,xP,if_pos rfl,e1]; rfl
 ·rw [xX,if_pos rfl]
 ·rw [xX,if_neg (by omega),xP,if_neg (λe=>h1 e.symm),xC,if_neg (λe=>h2 e.symm)];exact hold k hk
 ·exact yL
open Rs Fm Ru Te Kb
namespace Kb
def uF (p:yT):Nat->List (List (BitVec 64))
 | 0=>qC p
 | n+1=>nP p (uF p n) (vB p (uF p n) n)
theorem No {x:BitVec 64} {F:Nat}:x >>> F=0#64 ↔ ∀ i,F<=i->x.getLsbD i=false:=by
 constructor
 ·intro h i hi;have:=congrArg (λy:BitVec 64=>y.getLsbD (i-F)) h;simp only [Ai,Ah] at this
  rwa [show F+(i-F)= i by omega] at this
 ·intro h;refine BitVec.eq_of_getLsbD_eq λi _=>?_;rw [Ai,Ah];exact h _ (by omega)
theorem Pw {A F:Nat} {s0 out:BitVec 64} {a:fP} (ho:out >>> F=0#64) (hf:a.fact.toNat<F):fR A s0 out a >>> F=0#64:=by
 rw [No] at ho ⊢;intro i hi;unfold fR;rw [BitVec.getLsbD_or,BitVec.getLsbD_and,ho i hi,Bool.false_and,Bool.false_or]
 split
 ·rw [BitVec.getLsbD_shiftLeft]
  by_cases h:i<64
  ·rw [show (1#64).getLsbD (i-a.fact.toNat)= false by
    have:i-a.fact.toNat≠0:=by omega
    simp [this]]
   simp
  ·simp [h]
 ·exact Ah
theorem Qw {p:yT} {F:Nat} (hv:zz p F) {s:BitVec 64} (hs:s >>> F=0#64) {mv:List Int} (hmv:∀ k ∈ mv,k<p.xO.length):j7 p s mv >>> F=0#64:=by
 have key:∀ (l:List Int) (out:BitVec 64),(∀ k ∈ l,k<p.xO.length)->out >>> F=0#64->l.foldl (kC p s) out >>> F=0#64:=by
  intro l
  induction l with
  | nil=>intro out _ h; exact h
  | cons k r ih=>
   intro out hk h;refine ih _ (λk hk2=>hk k (by simp [hk2])) ?_;unfold kC
   split
   ·exact h
   ·have hkm:=hk k (by simp);have hm:=xK (l:=p.xO) (d:=[]) (k:=k.toNat) (by omega);generalize p.xO.getD k.toNat []=m at hm
    have:∀ (l:List fP) (out:BitVec 64),(∀ a ∈ l,mV p a=0)->out >>> F=0#64->l.foldl (fR p.xV.length s) out >>> F=0#64:=by
     intro l
     induction l with
     | nil=>intro out _ h; exact h
     | cons a r ih2=> intro out ha h;have h1:=oo hv.fe (ha a (by simp));exact ih2 _ (λb hb=>ha b (by simp [hb])) (Pw h (by omega))
    exact this m out (hv.mv m hm) h
 exact key mv s hmv hs
theorem XW {p:yT} {sts:List (List (BitVec 64))} {t a w:Nat}:∀ {l:List bL},(∀ c ∈ l,jS p c=0)->tI p.xV sts t a w l<p.xO.length /\ -1<=tI p.xV sts t a w l
 | [],_=>⟨by unfold tI; omega,by unfold tI; omega⟩
 | c :: r,h=>by
  unfold tI
  split
  ·have:=h c (by simp);unfold jS at this
   split at this
   ·rename_i h1; exact absurd this h1
   ·split at this
    ·cases this
    ·rename_i h2; omega
  ·exact XW λd hd=>h d (by simp [hd])
theorem cR (p:yT) (sts:List (List (BitVec 64))) (t:Nat):(vB p sts t).length=p.xV.length:=by simp [vB]
theorem gp {p:yT} {sts:List (List (BitVec 64))} {t:Nat}:∀ m ∈ vB p sts t,m.length=sts.length:=λm hm=>by simp only [vB,δ] at hm;obtain⟨a,_,rfl⟩:=hm;simp
theorem XZ {p:yT} {F:Nat} (hv:zz p F) {sts:List (List (BitVec 64))} {t:Nat}:∀ m ∈ vB p sts t,∀ k ∈ m,k<p.xO.length:=λm hm k hk=>by simp only [vB,δ,μ] at hm;obtain⟨a,ha,rfl⟩:=hm;simp only [δ] at hk;obtain⟨w,_,rfl⟩:=hk;exact(XW λc hc=>hv.code _ (xK (d:=[]) (by rw [hv.hC]; exact ha)) c hc).1
structure Zc (p : yT) (F : Nat) (sts : List (List (BitVec 64))) (n : Nat) : Prop where
 len:sts.length=p.init.length
 run:∀ st ∈ sts,st.length=n+1
 val:∀ st ∈ sts,∀ s ∈ st,s >>> F=0#64
theorem Zc.Fw {p:yT} {F:Nat} (hv:zz p F):Zc p F (qC p) 0 where
 len:=by simp [qC]
 run:=λst hs=>by simp only [qC,δ] at hs;obtain⟨s,_,rfl⟩:=hs;rfl
 val:=λst hs s hs2=>by simp only [qC,δ] at hs;obtain⟨x,hx,rfl⟩:=hs;rw [χ.1 hs2];exact hv.init x hx
theorem nU {sts:List (List (BitVec 64))} {i:Nat} (h:i<sts.length):vK sts i ∈ sts:=xK h
theorem Zc.step {p:yT} {F:Nat} (hv:zz p F) {sts:List (List (BitVec 64))} {n:Nat} (h:Zc p F sts n) {mv:List (List Int)} (hmR:∀ m ∈ mv,m.length=sts.length) (hmv:∀ m ∈ mv,∀ k ∈ m,k<p.xO.length):Zc p F (nP p sts mv) (n+1) where
 len:=by rw [<- h.len]; simp [nP]
 run:=λst hs=>by simp only [nP,δ,μ] at hs;obtain⟨i,hi,rfl⟩:=hs;rw [ε,h.run _ (nU hi)];rfl
 val:=λst hs s hs2=>by
  simp only [nP,δ,μ] at hs;obtain⟨i,hi,rfl⟩:=hs;have hr:=h.run _ (nU hi)
  rcases List.mem_append.1 hs2 with h1 | h1
  ·exact h.val _ (nU hi) s h1
  ·rw [χ.1 h1];refine Qw hv (h.val _ (nU hi) _ (xK (by omega))) λk hk=>?_;simp only [δ] at hk;obtain⟨m,hm,rfl⟩:=hk;exact hmv m hm _ (xK (by rw [hmR m hm]; exact hi))
theorem Zc.j0 {p:yT} {F:Nat} (hv:zz p F) {sts:List (List (BitVec 64))} {n t:Nat} (h:Zc p F sts n) (ht:t<=n) (hn:n<=1000):W5 p F sts t:=⟨hv.fe,hv.hF,hv.hA,by rw [h.len]; exact hv.hI,λst hs=>by rw [h.run st hs]; omega,by omega,h.val⟩
theorem xv {p:yT} {F:Nat} (hv:zz p F):∀ n,Zc p F (uF p n) n
 | 0=>Zc.Fw hv
 | n+1=>Zc.step hv (xv hv n) gp (XZ hv)
theorem R8 {p:yT} {F:Nat} (hv:zz p F) (n:Nat):(uF p n).length=p.init.length:=(xv hv n).len
theorem Zl.shift {p:yT} {sts:List (List (BitVec 64))} {kx kS c:Nat} {ks:List Nat} {xZ r:List (Nat × Ob)} (h:Zl p sts kx kS ks xZ):Zl p sts (c+kx) (c+kS) (ks.map (c + ·)) (yH c xZ++r) where
 hx:=by rw [sX,pM c h.hx]; rfl
 jT:=Go.Pd.fQ.shift h.jT λe he r hr=>(iH e he r hr).2
 nd:=by have:=h.nd;unfold List.Nodup at this ⊢;rw [List.pairwise_map];exact this.imp λh e=>h (by omega)
 ne:=λe=>h.ne (by omega)
 xs:=λhk=>by simp only [δ] at hk;obtain⟨k,hk,e⟩:=hk;exact h.xs ((show k=kx by omega) ▸ hk)
 ss:=λhk=>by simp only [δ] at hk;obtain⟨k,hk,e⟩:=hk;exact h.ss ((show k=kS by omega) ▸ hk)
end Kb
theorem xd {p:yT} {b nx:Nat} (hb:2<=b) {sts:List (List (BitVec 64))} {K:Nat->Prop} (hK:∀ k,¬ K k):Seen ⟨nx,ko p b sts⟩ K (.ref 0 6 0 0) (nD p sts):=(dY p hb sts).seen (hK 0) (hK 1) λk _=>hK k
theorem nY {mv:List (List Int)}:∀ e ∈ mv.map (rows .i64),∀ r ∈ e,r.length=1/\D.xR r=true:=λe he r hr=>by simp only [δ] at he;obtain⟨s,_,rfl⟩:=he;refine⟨?_,qS _ s r hr⟩;simp only [rows,δ] at hr;obtain⟨x,_,rfl⟩:=hr;rfl
theorem XI {mv:List (List Int)}:∀ e ∈ mv.map (rows .i64),∀ r ∈ e,D.Zn r=true:=λe he r hr=>by simp only [δ] at he;obtain⟨s,_,rfl⟩:=he;simp only [rows,δ] at hr;obtain⟨x,_,rfl⟩:=hr;simp [D.Zn,D.fl]
theorem Wn {g:FuncId} {args args':List D} {mv:List (List Int)} {nx n:Nat} {ob:List (Nat × Ob)} (hn:n=mv.length) (hc:xQ prog g args' jR (.yD 0 1 n) ⟨1+n,lE (mv.map (rows .i64))⟩) (hl:mW ⟨nx,ob⟩ (λ_=>False) args args') :
  xQ prog g args ⟨nx,ob⟩ (.sl 1 (rl mv)) ⟨nx+(1+n),ob⟩:=by
 subst hn;refine xQ.yx hc hl (by simp [D.fl]) (v8 XI) ?_;have hN:=fQ.shift (c:=nx) (r:=ob) (lO (mv.map (rows .i64))) λe he r hr=>(nY e he r hr).2
 have:=fQ.seen (nx:=nx+(1+mv.length)) (K:=λk=>k<nx) (n:=mv.length) hN (γ _).symm (by omega) (λk hk=>by simp only [δ] at hk;obtain⟨j,_,rfl⟩:=hk;omega) nY
 rw [ZN] at this;exact this
theorem XT {p:yT} {F:Nat} (hv:zz p F) {n:Nat} (hn:n<=100):xA prog 69 [p.d,.int .i64 ((n+1:Nat):Int)] (nD p (uF p n)):=by
 have hB:=YX hv;have hI:=hv.hI;have hA:=hv.hA;have hD:p.d = .agg [.int .i64 p.F,.sl 1 (us p.init),.sl 1 (us p.xV),.sl 1 (uK p.xO),.sl 1 (uJ p.code)]:=rfl;have hw:IntKind.i64.wrap (((n+1:Nat):Int)-1)= (n:Int):=by rw [wrap_i64 (by omega)]; omega
 have hB1:=xQ.own (σ:=⟨1,[(0,⟨5,[p.cells]⟩)]⟩) hB (by simp [D.xR,D.xF,yT.d,yT.cells]);have hlen:=λt=>R8 hv t;have hPS:=(dY p (Ac 2) (qC p)).shift (c:=1) (r:=[(0,⟨5,[p.cells]⟩)]);have hbl:(qC p).length=p.init.length:=by simp [qC]
 unfold yT.cells at hB1 hPS;rw [hD] at *;refine xI func69 FZ λhf=>?_;refine zI ?_;refine .go hB1 ?_;refine xH hw ?_
 refine sP (λt:Nat=>[(11,.int .i64 t),(10,.int .i64 n),(5,.ref 0 6 0 0)]) (λt=>⟨2+(uF p t).length,ko p 2 (uF p t)⟩) (λt=>t<=n) (λt=>n-t) 0 (Ab _) ?_ ?_
 ·refine yR.ZY hPS (Ac _) (Ab _) (λk hk=>absurd hk (Ae _)) ?_;simp only [bw,vw,Fr.get,↓reduceIte,reduceIte,Nat.reduceEqDiff,D.shift,and_true,true_and];exact⟨rfl,by omega,rfl⟩
 intro t ht;refine xN mixed ?_;have hS:=xv hv t;have hl:=hlen t;by_cases htn:t<n
 case neg=>
  have hd:¬ ((t:Int)<(n:Int)):=by omega
  obtain rfl:t=n:=by omega
  refine xH hd ?_
  refine .go [(5,nD p (uF p t))] ⟨2+(uF p t).length,[]⟩ ?_ ?_
  ·refine yR.deep (λ_=>False) trivial ⟨.inr ?_,trivial⟩;exact xd (Ac 2) λ_ h=>h
  refine xJ ?_;exact .drop (by simp) (by simp [vw,nD])
 have hd:((t:Int)<(n:Int)):=by omega
 have h76:=yj hv (hS.j0 hv (Ac t) (by omega));have hpl:=cR p (uF p t) t;have h76l:=Wn (nx:=2+(uF p t).length) (ob:=ko p 2 (uF p t)) (args:=[.ref 0 6 0 0,.int .i64 t]) hpl.symm h76 ⟨xd (Ac 2) λ_ h=>h,.pure rfl,trivial⟩;have h121:=lq hv (sts:=uF p t) (by rw [hl]; exact hI) (λst hs=>by rw [hS.run st hs]; omega) hS.val (mv:=vB p (uF p t) t) (by rw [hpl]; omega) gp (XZ hv) (nx:=2+(uF p t).length+(1+p.xV.length)) (by omega);have hnext:uF p (t+1)= nP p (uF p t) (vB p (uF p t) t):=rfl;have hsl:(nP p (uF p t) (vB p (uF p t) t)).length=(uF p t).length:=by simp [nP]
 have hPI:=dY p (b:=2+(uF p t).length+(1+p.xV.length)) (by omega) (nP p (uF p t) (vB p (uF p t) t));refine xH hd ?_;refine .go h76l ?_;refine xJ ?_;refine .go h121 ?_;refine xJ ?_;refine⟨t+1,by omega,?_,by omega⟩;rw [hnext];refine yR.ZY hPI (Ac _) (Ab _) (λk hk=>absurd hk (Ae _)) ?_;simp only [bw,vw,Fr.get,↓reduceIte,reduceIte,Nat.reduceEqDiff,and_true,true_and];exact⟨by rw [wrap_i64 (by omega)]; rfl,by omega,rfl⟩
open Rs Fm Ru Te Kb
namespace Kb
def tN (xV:List (BitVec 64)) (sts:List (List (BitVec 64))) (a:Nat) (q:Nat × Nat):List Int:=(vG xV (vK sts q.1) a q.2).map ui
def oL (xV:List (BitVec 64)) (sts:List (List (BitVec 64))) (T a:Nat):List (List Int):=dedup (fH ((iS T (sts.length*T)).map (tN xV sts a)))
theorem ti : rX [] = []:=rfl
end Kb
theorem eY {k:Nat} (h:k<=1000000000):IntKind.i64.wrap ((k:Int)+ 1)= ((k+1:Nat):Int):=by rw [wrap_i64 (by omega)]; rfl
theorem uo {p:yT} {sts:List (List (BitVec 64))} {a T:Nat} (ha:a<p.xV.length) (hT:1<=T/\T<=16) (hR:1<=sts.length/\sts.length<=16) (hl:∀ st ∈ sts,T<=st.length) :
  xA prog 73 [nD p sts,.int .i64 a,.int .i64 (T-1:Int)] (.sl 1 (rX (oL p.xV sts T a))):=by
 have hh:∀ r t,r<sts.length->t<T->xA prog 75 [nD p sts,.int .i64 a,.int .i64 r,.int .i64 t] (.sl 1 (rows .u64 (tN p.xV sts a (r,t)))):=λr t hr ht=>by have:=rS (iU p ha hr (show t<(sts.getD r []).length by have:=hl _ (xK (d:=[]) hr); omega) (by omega));rw [rN] at this;exact this
 have hne:1<=sts.length*T:=Ad hR.1 hT.1;have hle:sts.length*T<=16*16:=Ad hR.2 hT.2;have hw0:IntKind.i64.wrap (((T:Int)-1)+ 1)= (T:Int):=by rw [wrap_i64 (by omega)]; omega
 unfold oL;generalize tN p.xV sts a=kf at *;have hlen:((iS T (sts.length*T)).map kf).length=sts.length*T:=by rw [γ,nT]
 unfold nD bu at *;refine xI func73 GC λhf=>?_;refine xH yZ ?_
 refine xU (λr:Nat=>[(15,.int .i64 r),(14,.int .i64 sts.length),(7,xB 0 1 (rX ((iS T (r*T)).map kf))),(2,.int .i64 (T-1:Int)),(1,.int .i64 a),(0,.ptr [.int .i64 p.F,.sl 1 (us p.init),.sl 1 (us p.xV),.sl 1 (uK p.xO),.sl 1 (uJ p.code),.sl 1 (rr sts)])])
  (λr=>⟨1,yX 0 1 (rX ((iS T (r*T)).map kf))⟩) (λr=>r<=sts.length) (λr=>sts.length-r) 0 (Ab _) ?_ ?_
 ·(refine rZ [] [] ?_; simp only [wR,zQ,simprocAttr,-ZA,exists_eq_left',ne_eq,zR,iS,Nat.zero_mul,η,ν,ti,zK,zL])
 intro r hr;refine xN mixed ?_;by_cases hrl:r<sts.length
 case neg=>
  have hd:¬ ((r:Int)<(sts.length:Int)):=by omega
  obtain rfl:r=sts.length:=by omega
  generalize (iS T (sts.length*T)).map kf=l at *;have hln:l ≠ []:=λc=>by rw [c] at hlen; simp at hlen; omega
  have hln2:rX l ≠ []:=λc=>hln (by simpa [rX] using c);rw [eQ hln2,lN hln2,wD];have hs:=YK (σ:=⟨1,[(0,⟨1,rX l⟩)]⟩) (key:=0) (l:=l) rfl hln (by omega);have hal:(fH l).length=l.length:=(mF l).length_eq;have hc:=WL (σ:=⟨1,[(0,⟨1,rX (fH l)⟩)]⟩) (key:=0) (l:=fH l) rfl (by omega) (λc=>by rw [c] at hal; simp at hal; omega);rw [hal] at hc;refine xH hd ?_;refine .go hs ?_;refine xJ ?_;refine .go hc ?_;refine xJ ?_;exact .drop (by simp) (js (by decide) (pz _) (by unfold ZV; rw [ε,wD]; omega) (by unfold ZV; rw [List.take_left' (wD _)]))
 have hd:((r:Int)<(sts.length:Int)):=by omega
 refine yO hd hw0 ?_
 refine xU (λt:Nat=>[(20,.int .i64 t),(19,.int .i64 T),(15,.int .i64 r),(14,.int .i64 sts.length),(8,.int .i64 r),(7,xB 0 1 (rX ((iS T (r*T+t)).map kf))),(2,.int .i64 (T-1:Int)),(1,.int .i64 a),(0,.ptr [.int .i64 p.F,.sl 1 (us p.init),.sl 1 (us p.xV),.sl 1 (uK p.xO),.sl 1 (uJ p.code),.sl 1 (rr sts)])])
  (λt=>⟨1,yX 0 1 (rX ((iS T (r*T+t)).map kf))⟩) (λt=>t<=T) (λt=>T-t) 0 (Ab _) ?_ ?_
 ·(refine yR.same ?_; simp only [yS,Fr.get,simprocAttr,-ZA,zS,Nat.add_zero])
  all_goals rfl
 intro t ht;refine xN mixed ?_;by_cases htl:t<T
 case neg=>
  have hd2:¬ ((t:Int)<(T:Int)):=by omega
  obtain rfl:t=T:=by omega
  refine xH hd2 ?_;refine⟨r+1,by omega,?_,by omega⟩;rw [show (r+1)* t=r*t+t by rw [Af]];exact yL
 have hd2:((t:Int)<(T:Int)):=by omega
 have hs:(iS T (r*T+(t+1))).map kf=(iS T (r*T+t)).map kf ++ [kf (r,t)]:=by rw [R9 T r t htl,κ]; rfl
 have hlk:((iS T (r*T+t)).map kf).length=r*T+t:=by rw [γ,nT]
 have hle2:r*T+t<=16*16:=by have:=Nat.mul_le_mul_right T (show r+1<=sts.length from hrl);rw [Af] at this;omega
 have h75:=hh r t hrl htl;generalize (iS T (r*T+t)).map kf=l at *;generalize kf (r,t)= x at *;refine xH hd2 ?_;refine .go (cr h75) ?_;refine nQ wD hlk ?_;refine⟨t+1,by omega,?_,by omega⟩;rw [hs];exact qN [(0,1)] [0] eW sO
open Rs Fm Ru Te Kb
namespace Kb
def qy (sts:List (List (BitVec 64))):List wX:=sts.map λst=>⟨[],st⟩
def kG (xV:List (BitVec 64)) (sts:List (List (BitVec 64))) (T:Nat):List wX:=Pc (qy sts) xV.length T (tN xV sts)
def aM (l:List (List (List Int))):List (List D):=l.map λm=>[.sl 1 (rX m)]
theorem xw (l:List (List (List Int))):(aM l).length=l.length:=by simp [aM]
theorem Vn {l:List (List (List Int))} {i:Nat} (h:i<l.length):(aM l).getD i [] = [.sl 1 (rX (l.getD i []))]:=by simp [aM,List.getD,h]
theorem Xc (l:List (List (List Int))) (m:List (List Int)):aM l ++ [[.sl 1 (rX m)]]=aM (l ++ [m]):=by simp [aM]
theorem RQ (l:List (List (List Int))):∀ e ∈ aM l,D.xR e=true:=by intro e he;simp only [aM,δ] at he;obtain⟨m,_,rfl⟩:=he;rfl
theorem cS (l:List (List (List Int))):rP (aM l):=RQ l
theorem Vo : aM [] = []:=rfl
theorem ic (l:List wX) (r:wX):sY l ++ [[.sl 1 (rl r.loc),.sl 1 (us r.ye)]]=sY (l ++ [r]):=by simp [sY,wX.row]
theorem wB (l:List wX):rP (sY l):=UX l
theorem Xh : sY [] = []:=rfl
theorem ou (sts:List (List (BitVec 64))):(qy sts).length=sts.length:=by simp [qy]
theorem qd (xV:List (BitVec 64)) (sts:List (List (BitVec 64))) (T:Nat):(kG xV sts T).length=sts.length:=by unfold kG; rw [RK,ou]
theorem qc {xV:List (BitVec 64)} {sts:List (List (BitVec 64))} {T i:Nat} (hi:i<sts.length) :
  (kG xV sts T).getD i pG=⟨(List.range T).map λt=>(List.range xV.length).map λa=>((below (oL xV sts T a) (tN xV sts a (i,t)):Nat):Int),vK sts i⟩:=by
 unfold kG Pc;rw [RM (by rw [ou]; exact hi),ou];have:((qy sts).getD i pG).ye=vK sts i:=by simp [qy,vK,List.getD,hi]
 rw [this];rfl
end Kb
theorem lJ {α:Type} {l:List α} {k:Nat} {d:α} (h:k<l.length):l.take (k+1)= l.take k ++ [l.getD k d]:=yE h
theorem Rk {p:yT} {F:Nat} (hv:zz p F) {sts:List (List (BitVec 64))} {T:Nat} (hT:1<=T/\T<=16) (hR:1<=sts.length/\sts.length<=16) (hl:∀ st ∈ sts,st.length=T) :
  xA prog 70 [nD p sts] (sD p.xV.length F T (kG p.xV sts T)):=by
 have hA:=hv.hA
 have hh:∀ a r t,a<p.xV.length->r<sts.length->t<T->xA prog 75 [nD p sts,.int .i64 a,.int .i64 r,.int .i64 t] (.sl 1 (rows .u64 (tN p.xV sts a (r,t)))):=λa r t ha hr ht=>by have:=rS (iU p ha hr (show t<(sts.getD r []).length by have:=hl _ (xK (d:=[]) hr); omega) (by omega));rw [rN] at this;exact this
 have hw1:IntKind.i64.wrap ((T:Int)-1)= ((T:Int)-1):=wrap_i64 (by omega);have h73:=λa ha=>uo (p:=p) (sts:=sts) (a:=a) (T:=T) ha hT hR λst hs=>by rw [hl st hs]; exact Ac _
 have hasc:∀ a,bq (oL p.xV sts T a):=λa=>dg (ot _)
 have hak:∀ a,(oL p.xV sts T a).length<=1000:=λa=>by have h1:(oL p.xV sts T a).length<=(fH ((iS T (sts.length*T)).map (tN p.xV sts a))).length:=s9 _ _;have h2:=(mF ((iS T (sts.length*T)).map (tN p.xV sts a))).length_eq;rw [γ,nT] at h2;have hle:sts.length*T<=16*16:=Ad hR.2 hT.2;omega
 have hS:=λi (hi:i<sts.length)=>qc (xV:=p.xV) (T:=T) hi;have hSl:=qd p.xV sts T;have hst:∀ r,r<sts.length->(vK sts r).length=T:=λr hr=>hl _ (xK (d:=[]) hr);generalize tN p.xV sts=kf at *;generalize oL p.xV sts T=al at *;generalize kG p.xV sts T=S at *;have hg0:=tZ sts (show 0<sts.length by omega);have hd0:(0:Int)<(sts.length:Int):=by omega
 have hl0:=hst 0 (by omega);unfold vK at hl0;unfold nD bu sD at *;rw [hv.fe] at *;refine xI func70 FY λhf=>?_;refine rI yZ hd0 hg0 xT hl0 ?_
 refine sP (λa:Nat=>[(41,.int .i64 a),(40,.int .i64 p.xV.length),(5,xB 2 1 (aM ((List.range a).map al))),(4,.ref 1 4 0 0),(3,.int .i64 T),(2,.ref 0 4 0 0),(0,.ptr [.int .i64 F,.sl 1 (us p.init),.sl 1 (us p.xV),.sl 1 (uK p.xO),.sl 1 (uJ p.code),.sl 1 (rr sts)])])
  (λa=>⟨3,yX 2 1 (aM ((List.range a).map al))++ [(1,⟨4,[[.int .i64 p.xV.length,.int .i64 F,.int .i64 T,.xL]]⟩),(0,⟨4,[[.int .i64 0,.int .i64 0,.int .i64 0,.xL]]⟩)]⟩) (λa=>a<=p.xV.length) (λa=>p.xV.length-a) 0 (Ab _) ?_ ?_
 ·(refine rZ [] [1,0] ?_; simp only [wR,zQ,simprocAttr,-ZA,exists_eq_left',ne_eq,zR,η,ν,Vo,zK,zL,ξ])
 intro a ha;refine xN mixed ?_;by_cases hal:a<p.xV.length
 case pos=>
  have hd:((a:Int)<(p.xV.length:Int)):=by omega
  have h1:=h73 a hal;have hsu:(List.range (a+1)).map al=(List.range a).map al ++ [al a]:=by rw [θ,κ]; rfl
  have hla:((List.range a).map al).length=a:=by simp
  generalize (List.range a).map al=L at *;refine yO hd hw1 ?_;refine .go (cr h1) ?_;refine nQ xw hla ?_;refine⟨a+1,by omega,?_,by omega⟩;rw [hsu];exact qN [(2,3)] [2,1,0] Xc cS
 have hd:¬ ((a:Int)<(p.xV.length:Int)):=by omega
 obtain rfl:a=p.xV.length:=by omega
 have hlal:((List.range p.xV.length).map al).length=p.xV.length:=by simp
 have hgal:∀ a,a<p.xV.length->(aM ((List.range p.xV.length).map al)).getD a [] = [.sl 1 (rX (al a))]:=λa ha=>by rw [Vn (by rw [hlal]; exact ha)]; simp [List.getD,ha]
 generalize (List.range p.xV.length).map al=L at *;refine xH hd ?_
 refine .go [(5,.sl 1 (aM L)),(4,.ref 1 4 0 0),(3,.int .i64 T),(2,.ref 0 4 0 0),(0,.ptr [.int .i64 F,.sl 1 (us p.init),.sl 1 (us p.xV),.sl 1 (uK p.xO),.sl 1 (uJ p.code),.sl 1 (rr sts)])] ⟨2,[(1,⟨4,[[.int .i64 p.xV.length,.int .i64 F,.int .i64 T,.xL]]⟩),(0,⟨4,[[.int .i64 0,.int .i64 0,.int .i64 0,.xL]]⟩)]⟩ ?_ ?_
 ·exact bj [] [1,0] cS
 refine xH yZ ?_
 refine xU (λr:Nat=>[(58,.int .i64 r),(57,.int .i64 sts.length),(56,.sl 1 (rr sts)),(5,.sl 1 (aM L)),(4,.ref 1 4 0 0),(3,.int .i64 T),(2,.ref 0 4 0 0),(0,.ptr [.int .i64 F,.sl 1 (us p.init),.sl 1 (us p.xV),.sl 1 (uK p.xO),.sl 1 (uJ p.code),.sl 1 (rr sts)])])
  (λr=>⟨3,yX 2 2 (sY (S.take r))++ [(1,⟨4,[[.int .i64 p.xV.length,.int .i64 F,.int .i64 T,xB 2 2 (sY (S.take r))]]⟩),(0,⟨4,[[.int .i64 0,.int .i64 0,.int .i64 0,.xL]]⟩)]⟩) (λr=>r<=sts.length) (λr=>sts.length-r) 0 (Ab _) ?_ ?_
 ·(refine rZ [] [1,0] ?_; simp only [wR,zQ,simprocAttr,-ZA,exists_eq_left',ne_eq,zR,List.take_zero,Xh,zK,zL,ξ])
 intro r hr;refine xN mixed ?_;by_cases hrl:r<sts.length
 case neg=>
  have hd2:¬ ((r:Int)<(sts.length:Int)):=by omega
  rw [ζ (show S.length<=r by omega)];refine xH hd2 ?_
  (refine sH.VB [] [] (by simp) (by simp) (by decide) ?_; simp only [wR,zQ,simprocAttr,-ZA,exists_eq_left',ne_eq,zR,wB])
 have hd2:((r:Int)<(sts.length:Int)):=by omega
 have hgr:=tZ sts hrl;have hlr:=hst r hrl;have hSr:=hS r hrl;have hSs:=lJ (l:=S) (d:=pG) (show r<S.length by omega);rw [hSr] at hSs;have hSl2:(S.take r).length=r:=by rw [ο]; omega
 unfold vK at hlr hSs;have hcl:=Ny (c:=sts.getD r []) (by omega) (by omega);generalize sts.getD r []=st at *;generalize S.take r=S0 at *;refine rF hd2 yZ hgr ?_;refine .go (cr hcl) ?_;refine zI ?_
 let lrow:Nat->List Int:=(λt=>(List.range p.xV.length).map λa=>((below (al a) (kf a (r,t)):Nat):Int))
 have hlw:((List.range T).map λt=>(List.range p.xV.length).map λa=>((below (al a) (kf a (r,t)):Nat):Int))= (List.range T).map lrow:=rfl;rw [hlw] at hSs
 refine sP (λt:Nat=>[(67,.int .i64 t),(66,.int .i64 T),(58,.int .i64 r),(57,.int .i64 sts.length),(56,.sl 1 (rr sts)),(9,.ref 3 2 0 0),(7,.int .i64 r),(5,.sl 1 (aM L)),(4,.ref 1 4 0 0),(3,.int .i64 T),(2,.ref 0 4 0 0),(0,.ptr [.int .i64 F,.sl 1 (us p.init),.sl 1 (us p.xV),.sl 1 (uK p.xO),.sl 1 (uJ p.code),.sl 1 (rr sts)])])
  (λt=>⟨5,yX 4 1 (rl ((List.range t).map lrow))++ ((3,⟨2,[[xB 4 1 (rl ((List.range t).map lrow)),.sl 1 (us st)]]⟩) :: (yX 2 2 (sY S0)++ [(1,⟨4,[[.int .i64 p.xV.length,.int .i64 F,.int .i64 T,xB 2 2 (sY S0)]]⟩),(0,⟨4,[[.int .i64 0,.int .i64 0,.int .i64 0,.xL]]⟩)]))⟩) (λt=>t<=T) (λt=>T-t) 0 (Ab _) ?_ ?_
 ·(refine rZ [] [3,2,1,0] ?_; simp only [wR,zQ,simprocAttr,-ZA,exists_eq_left',ne_eq,zR,η,ν,MT,zK,zL,ξ,wB])
 intro t ht;refine xN mixed ?_;by_cases htl:t<T
 case neg=>
  have hd3:¬ ((t:Int)<(T:Int)):=by omega
  obtain rfl:t=T:=by omega
  generalize (List.range t).map lrow=LL at *;refine xH hd3 ?_
  refine .go [(58,.int .i64 r),(57,.int .i64 sts.length),(56,.sl 1 (rr sts)),(9,.ref 3 2 0 0),(5,.sl 1 (aM L)),(4,.ref 1 4 0 0),(3,.int .i64 t),(2,.ref 0 4 0 0),(0,.ptr [.int .i64 F,.sl 1 (us p.init),.sl 1 (us p.xV),.sl 1 (uK p.xO),.sl 1 (uJ p.code),.sl 1 (rr sts)])]
   ⟨4,(3,⟨2,[[.sl 1 (rl LL),.sl 1 (us st)]]⟩) :: (yX 2 2 (sY S0)++ [(1,⟨4,[[.int .i64 p.xV.length,.int .i64 F,.int .i64 t,xB 2 2 (sY S0)]]⟩),(0,⟨4,[[.int .i64 0,.int .i64 0,.int .i64 0,.xL]]⟩)])⟩ ?_ ?_
  ·exact qN [] [3,2,1,0] wB qF
  refine nQ oU hSl2 ?_;refine⟨r+1,by omega,?_,by omega⟩;rw [hSs];have hsn:=ic S0 ⟨LL,st⟩;simp only at hsn;exact qN [(2,4)] [2,1,0] hsn wB
 have hd3:((t:Int)<(T:Int)):=by omega
 have hsu:(List.range (t+1)).map lrow=(List.range t).map lrow ++ [lrow t]:=by rw [θ,κ]; rfl
 have hll:((List.range t).map lrow).length=t:=by simp
 generalize (List.range t).map lrow=LL at *;refine yO hd3 xT ?_
 refine sP (λa:Nat=>[(76,.int .i64 a),(75,.int .i64 p.xV.length),(67,.int .i64 t),(66,.int .i64 T),(58,.int .i64 r),(57,.int .i64 sts.length),(56,.sl 1 (rr sts)),(11,xB 5 1 (rows .i64 ((List.range a).map λa=>((below (al a) (kf a (r,t)):Nat):Int)))),(10,.int .i64 t),(9,.ref 3 2 0 0),(7,.int .i64 r),(5,.sl 1 (aM L)),(4,.ref 1 4 0 0),(3,.int .i64 T),(2,.ref 0 4 0 0),(0,.ptr [.int .i64 F,.sl 1 (us p.init),.sl 1 (us p.xV),.sl 1 (uK p.xO),.sl 1 (uJ p.code),.sl 1 (rr sts)])])
  (λa=>⟨6,yX 5 1 (rows .i64 ((List.range a).map λa=>((below (al a) (kf a (r,t)):Nat):Int)))++ (yX 4 1 (rl LL)++ ((3,⟨2,[[xB 4 1 (rl LL),.sl 1 (us st)]]⟩) :: (yX 2 2 (sY S0)++ [(1,⟨4,[[.int .i64 p.xV.length,.int .i64 F,.int .i64 T,xB 2 2 (sY S0)]]⟩),(0,⟨4,[[.int .i64 0,.int .i64 0,.int .i64 0,.xL]]⟩)])))⟩) (λa=>a<=p.xV.length) (λa=>p.xV.length-a) 0 (Ab _) ?_ ?_
 ·(refine rZ [] [4,3,2,1,0] ?_; simp only [wR,zQ,simprocAttr,-ZA,exists_eq_left',ne_eq,zR,η,ν,lQ,zK,zL,ξ,wB,qF])
 intro a ha;refine xN mixed ?_;by_cases hal:a<p.xV.length
 case neg=>
  have hd4:¬ ((a:Int)<(p.xV.length:Int)):=by omega
  obtain rfl:a=p.xV.length:=by omega
  have hlr2:((List.range p.xV.length).map λa=>((below (al a) (kf a (r,t)):Nat):Int))= lrow t:=rfl;rw [hlr2];generalize lrow t=x at *;refine xH hd4 ?_
  refine .go [(67,.int .i64 t),(66,.int .i64 T),(58,.int .i64 r),(57,.int .i64 sts.length),(56,.sl 1 (rr sts)),(11,.sl 1 (rows .i64 x)),(9,.ref 3 2 0 0),(7,.int .i64 r),(5,.sl 1 (aM L)),(4,.ref 1 4 0 0),(3,.int .i64 T),(2,.ref 0 4 0 0),(0,.ptr [.int .i64 F,.sl 1 (us p.init),.sl 1 (us p.xV),.sl 1 (uK p.xO),.sl 1 (uJ p.code),.sl 1 (rr sts)])]
   ⟨5,yX 4 1 (rl LL)++ ((3,⟨2,[[xB 4 1 (rl LL),.sl 1 (us st)]]⟩) :: (yX 2 2 (sY S0)++ [(1,⟨4,[[.int .i64 p.xV.length,.int .i64 F,.int .i64 T,xB 2 2 (sY S0)]]⟩),(0,⟨4,[[.int .i64 0,.int .i64 0,.int .i64 0,.xL]]⟩)]))⟩ ?_ ?_
  ·exact qN [] [4,3,2,1,0] wB qF
  refine nQ sG hll ?_;refine⟨t+1,by omega,?_,by omega⟩;rw [hsu];exact L9 [(4,5)] [4,3,2,1,0] Vm wB qF
 have hd4:((a:Int)<(p.xV.length:Int)):=by omega
 have hga:=hgal a hal;obtain⟨bb,hse⟩:=Ub (kf a (r,t)) (hasc a) (hak a);have h75:=hh a r t hal hrl htl;have hsu2:(List.range (a+1)).map (λa=>((below (al a) (kf a (r,t)):Nat):Int))= (List.range a).map (λa=>((below (al a) (kf a (r,t)):Nat):Int))++ [((below (al a) (kf a (r,t)):Nat):Int)]:=by rw [θ,κ]; rfl
 have hla2:((List.range a).map λa=>((below (al a) (kf a (r,t)):Nat):Int)).length=a:=by simp
 have hdL:((a:Int)<(L.length:Int)):=by omega
 generalize (List.range a).map (λa=>((below (al a) (kf a (r,t)):Nat):Int))= W at *;refine uC hd4 xw hdL hga ?_;refine .go (cr h75) ?_;refine xJ ?_;refine .go (cr hse) ?_;refine nQ yU hla2 ?_;refine⟨a+1,by omega,?_,by omega⟩;rw [hsu2];exact qN [(5,6)] [5,4,3,2,1,0] wB qF
namespace Kb
def oN (p:yT) (n:Int):Int:=if uA p≠0 then uA p else if n<1\/6<n then 2 else 0
theorem lP {p:yT} {n:Int} (h:oN p n=0):∃ F k:Nat,zz p F/\n=((k+1:Nat):Int)/\ k<=5:=by
 unfold oN at h
 split at h
 ·rename_i h1; exact absurd h h1
 ·rename_i h1
  split at h
  ·cases h
  ·obtain⟨F,hv⟩:=Tb (by simpa using h1);exact⟨F,(n-1).toNat,hv,by omega,by omega⟩
def ri (p:yT) (n:Int):jO:=if oN p n≠0 then⟨0,0,0,[]⟩ else⟨p.xV.length,p.F,n,kG p.xV (uF p (n.toNat-1)) n.toNat⟩
end Kb
theorem wx (p:yT) (sm:pT p) (n:Int):xA prog 68 [p.d,.int .i64 n] (.int .i64 (oN p n)):=by
 have hC:=VC p sm;unfold yT.d yT.cells oN at *;refine xI func68 FW λhf=>?_;refine zI ?_;refine .go (cr hC) ?_;by_cases c:uA p=0
 case neg=>
  have c':(uA p != 0)= true:=by simpa using c
  rw [if_pos c];refine xH c' ?_;exact .dv
 have c':(uA p != 0)= false:=by simpa using c
 rw [if_neg (by simpa using c)]
 by_cases h1:n<1
 ·rw [if_pos (.inl h1)];refine yO c' h1 ?_;exact .dv
 by_cases h2:6<n
 ·rw [if_pos (.inr h2)];refine fY c' h1 h2 ?_;exact .dv
 rw [if_neg (by omega)];refine fY c' h1 h2 ?_;exact .dv
theorem vf {p:yT} {F k:Nat} (hv:zz p F) (hk:k<=5) {sts:List (List (BitVec 64))} (hS:Zc p F sts k):xA prog 70 [nD p sts] (sD p.xV.length F (k+1) (kG p.xV sts (k+1))):= Rk hv ⟨by omega,by omega⟩ (by rw [hS.len]; exact hv.hI) hS.run
theorem Lo (p:yT) (sm:pT p) (n:Int):xA prog 19 [p.d,.int .i64 n] (.wF [(ri p n).d,.int .i64 (oN p n)]):=by
 have hR:=wx p sm n;by_cases c:oN p n=0
 case neg=>
  have c':(oN p n != 0)= true:=by simpa using c
  have hD:(ri p n).d = .agg [.int .i64 0,.int .i64 0,.int .i64 0,.sl 2 []]:=by unfold ri; rw [if_pos c]; rfl
  rw [hD];unfold yT.d yT.cells at *;refine xI func19 Fy λhf=>?_;refine zI ?_;refine .go (cr hR) ?_;refine vR c' ?_;exact .drop (by simp) (by simp [vw,vC])
 have c':(oN p n != 0)= false:=by simpa using c
 obtain⟨F,k,hv,rfl,hk⟩:=lP c;have hP:=XT hv (n:=k) (by omega);have hS:=vf hv hk (xv hv k)
 have hD:(ri p ((k+1:Nat):Int)).d=sD p.xV.length F (k+1) (kG p.xV (uF p k) (k+1)):=by unfold ri;rw [if_neg (by simpa using c),Int.toNat_natCast,show k+1-1=k by omega];show D.agg [_,_,_,_]=D.agg [_,_,_,_];rw [hv.fe]
 rw [hD];generalize kG p.xV (uF p k) (k+1)= S at *;generalize uF p k=sts at *;unfold yT.d yT.cells nD bu sD at *;refine xI func19 Fy λhf=>?_;refine zI ?_;refine .go (cr hR) ?_;refine xH c' ?_;refine .go (cr hP) ?_;refine xJ ?_;refine .go (cr hS) ?_;refine zI ?_;exact .drop (by simp) (by simp [vw,vC]; simpa using c.symm)
end Go.Pd

/- Part XE. -/
namespace Go.Pd
open Go
variable [tP]
end Go.Pd

/- Part XF. -/
namespace Go.Pd
open Go
variable [tP]
def dd (mask:Nat):Fr->Fr
 | []=>[]
 | (t,d) :: r=>if mask.testBit t=true then dd mask r else(t,d) :: dd (mask ||| 2 ^ t) r
end Go.Pd

/- Part B0. -/
namespace Go.Pd
open Go Go.Proofs
open Go.Shelf
def MS : Go.Shelf.Ren where
 f:=λx=>match x with | 125=>189 | 128=>235 | 129=>236 | n=>n
 t:=λx=>match x with | 46=>88 | 51=>248 | 53=>56 | n=>n
 g:=λx=>x
theorem OL : Lays.n125 prog MS:= { mixed:=Eq.refl true,f125:=Eq.trans func189 (congrArg some (by kernel_rfl)),f128:=Eq.trans func235 (congrArg some (by kernel_rfl)),f129:=Eq.trans func236 (congrArg some (by kernel_rfl)),t3:=Tryz.underlying3,a3:=Tryz.isAgg3,z3:=Tryz.sizeOf3,v3:=Tryz.zeroValue3,t4:=Tryz.underlying4,a4:=Tryz.isAgg4,z4:=Tryz.sizeOf4,v4:=Tryz.zeroValue4,t5:=Tryz.underlying5,a5:=Tryz.isAgg5,z5:=Tryz.sizeOf5,v5:=Tryz.zeroValue5,t9:=Tryz.underlying9,a9:=Tryz.isAgg9,z9:=Tryz.sizeOf9,v9:=Tryz.zeroValue9,t46:=Tryz.underlying88,a46:=Tryz.isAgg88,z46:=Tryz.sizeOf88,v46:=Tryz.zeroValue88,t51:=Tryz.underlying248,a51:=Tryz.isAgg248,z51:=Tryz.sizeOf248,v51:=Tryz.zeroValue248,t53:=Tryz.underlying56,a53:=Tryz.isAgg56,z53:=Tryz.sizeOf56,v53:=Tryz.zeroValue56 }
theorem MD {n:Int} (h:0<=n/\n<=18446744073709551615) (hb:(Lib.bitLen n.toNat:Int)<=9223372036854775807):xA prog 189 [.int .u64 n] (.int .i64 (Lib.bitLen n.toNat)):=by
 refine⟨⟨_,func189,by kernel_rfl,by kernel_rfl⟩,λM0 w ι vals hS hl hv=>?_⟩;have h0:=hv 0 (by simp);simp only [List.getD_cons_zero] at h0
 have e0:vals = #[.int .u64 n]:=by
  have:vals.getD 0 undef = .int .u64 n:=h0.zB.1;obtain⟨l⟩:=vals
  match l,hl with
  | [v],_=>simp at this; rw [this]
 subst e0;refine(Any.bits_Len OL n w h.1 h.2).mono λe w' hh=>?_;obtain⟨rfl,rfl⟩:=hh;refine⟨_,ι,rfl,Kept.refl _ _,hS,Ac _,λ_ _=>rfl,(λk o hk=>by cases hk),R.pure (RP.int ?_)⟩;have e1:IntKind.i64.min = -9223372036854775808:=rfl;have e2:IntKind.i64.max=9223372036854775807:=rfl;omega
end Go.Pd

/- Part LD. -/
namespace Go.Pd
open Go Go.Proofs
open BitVec renaming isValue -> ZA
open Rs Fm Ru Te Kb
theorem Wf (g:FuncId):xA prog 227 [.xL,.int .i64 0,.int .i64 0,.fn g []] (.wF []):=by
 refine xI func227 JS λhf=>?_;refine xJ ?_
 refine xU (λ_:Nat=>[(8,.int .i64 1),(2,.int .i64 0)]) (λ_=>⟨0,[]⟩) (λk=>k=0) (λk=>k) 0 rfl ?_ ?_
 ·exact yL
 intro k _;refine xN mixed ?_;refine xJ ?_;exact .same
theorem Oq (g:FuncId) (n:Int):xA prog 188 [.xL,.int .i64 0,.int .i64 0,.int .i64 n,.fn g []] (.wF []):=by
 refine xI func188 J2 λhf=>?_;refine xJ ?_
 refine xU (λ_:Nat=>[(11,.bool true),(10,.bool true),(4,.fn g []),(3,.int .i64 n),(2,.int .i64 0),(1,.int .i64 0),(0,.xL)]) (λ_=>⟨0,[]⟩) (λk=>k=0) (λk=>k) 0 rfl ?_ ?_
 ·exact yL
 intro k _;refine xN mixed ?_;simp only [simprocAttr,-ZA,↓zU,↓zD,zV,zT,zW,show IntKind.i64.wrap (0-0)= 0 from rfl];refine .go (cr (Wf g)) ?_;refine xJ ?_;exact .same
theorem Re (g:FuncId):xA prog 127 [.xL,.fn g []] (.wF []):=by have hl:=MD (n:=0) ⟨by decide,by decide⟩ (by decide);refine xI func127 IZ λhf=>?_;simp only [simprocAttr,-ZA,↓zU,↓zD,zV,zT,zW,show IntKind.u64.wrap 0=0 from rfl];refine .go (cr hl) ?_;refine xJ ?_;refine .go (cr (Oq g _)) ?_;refine xJ ?_;exact .same
theorem Zz (g:FuncId):xA prog 128 [.xL,.fn g []] .xL:=by refine xI func128 L3 λhf=>?_;refine xJ ?_;exact .same
theorem We {p:yT} {sts:List (List (BitVec 64))} {a:Nat} (hR:sts.length<=16):xA prog 73 [nD p sts,.int .i64 a,.int .i64 (-1)] (.sl 1 (rX [])):=by
 have h1:=Re 124;have h2:=Zz 129;have hw:IntKind.i64.wrap (-1+1)= 0:=rfl;unfold nD bu;refine xI func73 GC λhf=>?_;refine xH yZ ?_
 refine xU (λr:Nat=>[(15,.int .i64 r),(14,.int .i64 sts.length),(7,.xL),(2,.int .i64 (-1)),(1,.int .i64 a),(0,nD p sts)])
  (λr=>⟨0,[]⟩) (λr=>r<=sts.length) (λr=>sts.length-r) 0 (Ab _) ?_ ?_
 ·unfold nD bu;exact wO
 intro r hr;refine xN mixed ?_;unfold nD bu;by_cases hrl:r<sts.length
 case neg=>
  have hd:¬ ((r:Int)<(sts.length:Int)):=by omega
  refine xH hd ?_;refine .go (cr h1) ?_;refine xJ ?_;refine .go (cr h2) ?_;refine xJ ?_;exact .drop (by simp) (by simp [vw,rX])
 have hd:((r:Int)<(sts.length:Int)):=by omega
 simp only [simprocAttr,-ZA,↓zU,↓zD,zV,zT,zW,hd,hw,show IntKind.i64.wrap 0=0 from rfl]
 refine xU (λk:Nat=>[(20,.int .i64 0),(19,.int .i64 0),(15,.int .i64 r),(14,.int .i64 sts.length),(7,.xL),(2,.int .i64 (-1)),(1,.int .i64 a),(0,nD p sts)])
  (λr=>⟨0,[]⟩) (λk=>k=0) (λk=>k) 0 rfl ?_ ?_
 ·unfold nD bu;exact wO
 intro k _;refine xN mixed ?_;refine xJ ?_;refine⟨r+1,by omega,?_,by omega⟩;unfold nD bu;exact yL
theorem ym {p:yT} {F:Nat} (hv:zz p F) {sts:List (List (BitVec 64))} {t:Nat} (ok:W5 p F sts t):xA prog 76 [nD p sts,.int .i64 t] (.sl 1 (rl (vB p sts t))):=by
 have h:=yj hv ok;have hN:=fQ.seen (nx:=1+p.xV.length) (K:=λ_=>False) (n:=p.xV.length) (lO ((vB p sts t).map (rows .i64))) (by rw [γ,cR]) (λh=>h) (λ_ _ h=>h) nY;rw [ZN] at hN;have h2:=xQ.deep (objs':=[]) (λ_=>False) h hN λk o hk=>by cases hk
 exact xQ.ret h2 (.drop (Ab _) (by simp [vw]))
namespace Kb
def LR (h:List Int):List (BitVec 64):=h.map (BitVec.ofInt 64)
theorem Nq (xV:List (BitVec 64)) (sts:List (List (BitVec 64))) (a:Nat) (q:Nat × Nat):LR (tN xV sts a q)= vG xV (vK sts q.1) a q.2:=by
 unfold LR tN;rw [List.map_map];conv=>rhs; rw [<- List.map_id (vG xV (vK sts q.1) a q.2)]
 exact τ λx _=>uM x
theorem Mi {xV:List (BitVec 64)} {sts:List (List (BitVec 64))} {a:Nat} {q:Nat × Nat} {h:List Int} (e:h=tN xV sts a q):us (LR h)= rows .u64 h:=by subst e;rw [Nq,rN]; rfl
theorem YU {xV:List (BitVec 64)} {sts:List (List (BitVec 64))} {T a:Nat} {h:List Int}:h ∈ oL xV sts T a ↔ ∃ r t,r<sts.length/\t<T/\h=tN xV sts a (r,t):=by
 unfold oL;rw [dh,(mF _).mem_iff];simp only [δ]
 constructor
 ·rintro ⟨⟨r,t⟩,hq,rfl⟩
  by_cases hT:1<=T
  ·simp only [iS,δ,μ] at hq;obtain⟨i,hi,e⟩:=hq;simp only [Prod.mk.injEq] at e
   refine⟨r,t,?_,?_,rfl⟩
   ·rw [<- e.1]; exact Nat.div_lt_of_lt_mul (by rw [Nat.mul_comm]; exact hi)
   ·rw [<- e.2]; exact Nat.mod_lt _ (by omega)
  ·obtain rfl:T=0:=by omega
   simp [iS] at hq
 ·rintro ⟨r,t,hr,ht,rfl⟩;exact⟨(r,t),Ov ⟨hr,ht⟩,rfl⟩
theorem QM {xV:List (BitVec 64)} {sts:List (List (BitVec 64))} {a r t:Nat} (h:t<(vK sts r).length):(tN xV sts a (r,t)).length=t+1:=by unfold tN;rw [γ];exact yz h
def fF (xV:List (BitVec 64)) (sts:List (List (BitVec 64))) (a:Nat) (h:List Int):Nat:=(List.range sts.length).findIdx λr=>decide (tN xV sts a (r,h.length-1)= h)
def tv (p:yT) (sts:List (List (BitVec 64))) (a:Nat) (h:List Int):uI:=⟨a,LR h,rW p sts (h.length-1) a (fF p.xV sts a h)⟩
def lB (p:yT) (sts:List (List (BitVec 64))) (T a:Nat):List uI:=(oL p.xV sts T a).map (tv p sts a)
def Vy (p:yT) (sts:List (List (BitVec 64))) (T:Nat):List uI:=(List.range p.xV.length).flatMap (lB p sts T)
theorem Z5 {xV:List (BitVec 64)} {sts:List (List (BitVec 64))} {a T:Nat} {h:List Int} (hm:h ∈ oL xV sts T a) (hl:∀ st ∈ sts,T<=st.length) :
  fF xV sts a h<sts.length/\tN xV sts a (fF xV sts a h,h.length-1)= h/\1<=h.length/\h.length<=T:=by
 obtain⟨r,t,hr,ht,e⟩:=YU.1 hm;have hlen:=QM (xV:=xV) (a:=a) (sts:=sts) (r:=r) (t:=t) (by have:=hl _ (nU hr); omega);rw [<- e] at hlen;have:=bN (n:=sts.length) (q:=λr=>decide (tN xV sts a (r,h.length-1)= h)) ⟨r,hr,by rw [hlen,Ag,<- e]; simp⟩;refine⟨this.1,?_,by omega,by omega⟩;have h2:=this.2;simp only [decide_eq_true_eq] at h2;exact h2
theorem YH {xV:List (BitVec 64)} {sts:List (List (BitVec 64))} {a r:Nat} {h:List Int} (hr:r<sts.length) (e:tN xV sts a (r,h.length-1)= h) (hf:∀ i,i<r->tN xV sts a (i,h.length-1)≠ h):fF xV sts a h=r:=by unfold fF;refine List.findIdx_eq (by simpa using hr) |>.2 ⟨by simpa using e,λj hj=>?_⟩;simpa using hf j hj
end Kb
open Rs Fm Ru Te Kb
namespace Kb
def rj (p:yT) (n:Int):List uI:=if oN p n≠0 then [] else Vy p (uF p (n.toNat-1)) (n.toNat-1)
theorem Q4 (l:List uI) (a:Int) (s:List (BitVec 64)) (m:Int):qO l ++ [[.int .i64 a,.sl 1 (us s),.int .i64 m]]=qO (l ++ [⟨a,s,m⟩]):=by simp [qO,uI.row]
theorem gq (l:List uI):rP (qO l):=Q3 l
theorem VN : qO [] = []:=rfl
theorem TL (xV:List (BitVec 64)) (sts:List (List (BitVec 64))) (a:Nat):oL xV sts 0 a = []:=by unfold oL;simp [iS,fH,dedup,uB]
theorem YT (xV:List (BitVec 64)) (sts:List (List (BitVec 64))) (T a:Nat):(oL xV sts T a).length<=sts.length*T:=by have h1:(oL xV sts T a).length<=(fH ((iS T (sts.length*T)).map (tN xV sts a))).length:=s9 _ _;have h2:=(mF ((iS T (sts.length*T)).map (tN xV sts a))).length_eq;rw [γ,nT] at h2;omega
theorem UJ {p:yT} {sts:List (List (BitVec 64))} {T n:Nat}:((List.range n).flatMap (lB p sts T)).length<=n*(sts.length*T):=by
 induction n with
 | zero=>simp
 | succ n ih=>
  rw [θ,υ,ε,List.flatMap_cons,ω,List.append_nil];have h1:(lB p sts T n).length<=sts.length*T:=by unfold lB; rw [γ]; exact YT _ _ _ _
  rw [Af];omega
end Kb
theorem QN {p:yT} {sts:List (List (BitVec 64))} {a k:Nat} (ha:a<p.xV.length) (hk:k<=5) (hR:1<=sts.length/\sts.length<=16) (hl:∀ st ∈ sts,k<=st.length) :
  xA prog 73 [nD p sts,.int .i64 a,.int .i64 ((k:Int)-1)] (.sl 1 (rX (oL p.xV sts k a))):=by
 by_cases h0:k=0
 ·subst h0;rw [TL];exact We hR.2
 ·exact uo ha ⟨by omega,by omega⟩ hR hl
theorem W7 (p:yT) (sm:pT p) (n:Int):xA prog 21 [p.d,.int .i64 n] (.wF [.sl 3 (qO (rj p n)),.int .i64 (oN p n)]):=by
 have hQ:=wx p sm n;by_cases c:oN p n=0
 case neg=>
  have c':(oN p n != 0)= true:=by simpa using c
  have hD:rj p n = []:=by unfold rj; rw [if_pos c]
  rw [hD,VN];unfold yT.d yT.cells at *;refine xI func21 Fx λhf=>?_;refine zI ?_;refine .go (cr hQ) ?_;refine xH c' ?_;exact .drop (by simp) (by simp [vw,vC])
 have c':(oN p n != 0)= false:=by simpa using c
 obtain⟨F,k,hv,rfl,hk⟩:=lP c;have hP:=XT hv (n:=k) (by omega);have hS:=xv hv k
 have hD:rj p ((k+1:Nat):Int)= Vy p (uF p k) k:=by unfold rj;rw [if_neg (by simpa using c),Int.toNat_natCast,Ag]
 rw [hD];have hlen:=hS.len;have hI:=hv.hI;have hA:=hv.hA;have hrun:=hS.run;have hgood:=λt ht=>hS.j0 hv (t:=t) ht (by omega);generalize uF p k=sts at *;have hpm:=λt ht=>ym hv (hgood t ht);have hha:=λa ha=>QN (p:=p) (sts:=sts) (a:=a) (k:=k) ha hk (by omega) λst hs=>by rw [hrun st hs]; omega
 have hh:∀ a r t,a<p.xV.length->r<sts.length->t<=k->xA prog 75 [nD p sts,.int .i64 a,.int .i64 r,.int .i64 t] (.sl 1 (rows .u64 (tN p.xV sts a (r,t)))):=λa r t ha hr ht=>by have:=rS (iU p ha hr (show t<(sts.getD r []).length by have:=hrun _ (xK (d:=[]) hr); omega) (by omega));rw [rN] at this;exact this
 have hw2:IntKind.i64.wrap (((k+1:Nat):Int)-2)= (k:Int)-1:=by rw [wrap_i64 (by omega)]; omega
 unfold yT.d yT.cells nD bu at *;refine xI func21 Fx λhf=>?_;refine zI ?_;refine .go (cr hQ) ?_;refine xH c' ?_;refine .go (cr hP) ?_;refine xH xT ?_
 refine xU (λa:Nat=>[(26,.int .i64 a),(25,.int .i64 p.xV.length),(8,xB 1 3 (qO ((List.range a).flatMap (lB p sts k)))),(7,.ptr [.int .i64 p.F,.sl 1 (us p.init),.sl 1 (us p.xV),.sl 1 (uK p.xO),.sl 1 (uJ p.code),.sl 1 (rr sts)]),(1,.int .i64 ((k+1:Nat):Int))])
  (λa=>⟨2,yX 1 3 (qO ((List.range a).flatMap (lB p sts k)))⟩) (λa=>a<=p.xV.length) (λa=>p.xV.length-a) 0 (Ab _) ?_ ?_
 ·(refine rZ [] [] ?_; simp only [wR,zQ,simprocAttr,-ZA,exists_eq_left',ne_eq,zR,η,ω,VN,zK,zL])
 intro a ha;refine xN mixed ?_;by_cases hal:a<p.xV.length
 case neg=>
  have hd:¬ ((a:Int)<(p.xV.length:Int)):=by omega
  obtain rfl:a=p.xV.length:=by omega
  refine xH hd ?_;rw [show (List.range p.xV.length).flatMap (lB p sts k)= Vy p sts k from rfl,c]
  (refine sH.VB [] [] (by simp) (by simp) (by decide) ?_; simp only [wR,zQ,simprocAttr,-ZA,exists_eq_left',ne_eq,zR,gq])
 have hd:((a:Int)<(p.xV.length:Int)):=by omega
 have h73:=hha a hal;have hsu:(List.range (a+1)).flatMap (lB p sts k)= (List.range a).flatMap (lB p sts k)++ lB p sts k a:=by rw [θ,υ]; simp
 have hla:((List.range a).flatMap (lB p sts k)).length<=4*(16*5):=by have h1:=UJ (p:=p) (sts:=sts) (T:=k) (n:=a);have h2:sts.length*k<=16*5:=Ad (by omega) hk;have h3:a*(sts.length*k)<=4*(16*5):=Ad (by omega) h2;omega
 have hpa:lB p sts k a=(oL p.xV sts k a).map (tv p sts a):=rfl;rw [hpa] at hsu
 have hlk:(oL p.xV sts k a).length<=16*5:=by have h1:=YT p.xV sts k a;have h2:sts.length*k<=16*5:=Ad (by omega) hk;omega
 have hmm:=λh (hm:h ∈ oL p.xV sts k a)=>Z5 hm (λst hs=>by rw [hrun st hs]; omega);have hms:=λh (hm:h ∈ oL p.xV sts k a)=>YU.1 hm;generalize oL p.xV sts k a=hs at *;generalize (List.range a).flatMap (lB p sts k)= L at *;refine yO hd hw2 ?_;refine .go (cr h73) ?_;refine xH wD ?_
 refine xU (λj:Nat=>[(35,.int .i64 j),(34,.int .i64 hs.length),(33,.sl 1 (rX hs)),(26,.int .i64 a),(25,.int .i64 p.xV.length),(9,.int .i64 a),(8,xB 1 3 (qO (L++(hs.take j).map (tv p sts a)))),(7,.ptr [.int .i64 p.F,.sl 1 (us p.init),.sl 1 (us p.xV),.sl 1 (uK p.xO),.sl 1 (uJ p.code),.sl 1 (rr sts)]),(1,.int .i64 ((k+1:Nat):Int))])
  (λj=>⟨2,yX 1 3 (qO (L++(hs.take j).map (tv p sts a)))⟩) (λj=>j<=hs.length) (λj=>hs.length-j) 0 (Ab _) ?_ ?_
 ·rw [List.take_zero,ν,List.append_nil];exact yL
 intro j hj;refine xN mixed ?_;by_cases hjl:j<hs.length
 case neg=>
  have hd2:¬ ((j:Int)<(hs.length:Int)):=by omega
  rw [ζ (by omega),<- hsu];refine xH hd2 ?_;refine⟨a+1,by omega,?_,by omega⟩;exact yL
 have hd2:((j:Int)<(hs.length:Int)):=by omega
 have hgh:=qT hs hjl;have hmem:=xK (d:=[]) hjl;obtain⟨m1,m2,m3,m4⟩:=hmm _ hmem;obtain⟨r0,t0,hr0,ht0,e0⟩:=hms _ hmem;have hub:=Mi e0;have hsj:(hs.take (j+1)).map (tv p sts a)= (hs.take j).map (tv p sts a)++ [tv p sts a (hs.getD j [])]:=by rw [yE (d:=[]) hjl,κ]; rfl
 have hlj:(L++(hs.take j).map (tv p sts a)).length=L.length+j:=by rw [ε,γ,ο]; omega
 have hfirst:=λr=>@YH p.xV sts a r (hs.getD j []);have hch:tv p sts a (hs.getD j [])= ⟨a,LR (hs.getD j []),rW p sts ((hs.getD j []).length-1) a (fF p.xV sts a (hs.getD j []))⟩:=rfl;rw [hch] at hsj;have hidx:L++(hs.take (j+1)).map (tv p sts a)= (L++(hs.take j).map (tv p sts a))++ [⟨a,LR (hs.getD j []),rW p sts ((hs.getD j []).length-1) a (fF p.xV sts a (hs.getD j []))⟩]:=by rw [hsj,List.append_assoc]
 generalize L++(hs.take j).map (tv p sts a)= LL at *;generalize hs.getD j []=h at *;have hwt:IntKind.i64.wrap ((h.length:Int)-1)= ((h.length-1:Nat):Int):=by rw [wrap_i64 (by omega)]; omega
 generalize ht:h.length-1=t at *;have htk:t<=k:=by omega
 refine rI hd2 wD hgh yU hwt ?_
 refine xU (λr:Nat=>[(13,.int .i64 r),(12,.int .i64 t),(11,.sl 1 (rows .u64 h)),(35,.int .i64 j),(34,.int .i64 hs.length),(33,.sl 1 (rX hs)),(26,.int .i64 a),(25,.int .i64 p.xV.length),(9,.int .i64 a),(8,xB 1 3 (qO LL)),(7,.ptr [.int .i64 p.F,.sl 1 (us p.init),.sl 1 (us p.xV),.sl 1 (uK p.xO),.sl 1 (uJ p.code),.sl 1 (rr sts)]),(1,.int .i64 ((k+1:Nat):Int))])
  (λ_=>⟨2,yX 1 3 (qO LL)⟩) (λr=>r<=fF p.xV sts a h/\∀ i,i<r->tN p.xV sts a (i,t)≠ h) (λr=>sts.length-r) 0 ⟨Ab _,λi hi=>absurd hi (Ae _)⟩ ?_ ?_
 ·exact yL
 intro r ⟨hr1,hr2⟩;refine xN mixed ?_;have h75:=hh a r t hal (by omega) htk;have heq:=pa (tN p.xV sts a (r,t)) h;have hff:=hfirst r (by omega);by_cases hq:tN p.xV sts a (r,t)= h
 case neg=>
  have hrlt:r<fF p.xV sts a h:=by
   rcases Nat.lt_or_ge r (fF p.xV sts a h) with h1 | h1
   ·exact h1
   ·exact absurd (by rw [show r=fF p.xV sts a h by omega]; exact m2) hq
  have hq2:∀ i,i=r->tN p.xV sts a (i,t)≠ h:=λi e=>e ▸ hq;rw [decide_eq_false hq] at heq;generalize tN p.xV sts a (r,t)= x at *;refine xJ ?_;refine .go (cr h75) ?_;refine xJ ?_;refine .go (cr heq) ?_;refine xJ ?_
  refine⟨r+1,⟨by omega,λi hi=>?_⟩,?_,by omega⟩
  ·by_cases e:i=r
   ·exact hq2 i e
   ·exact hr2 i (by omega)
  exact yL
 rw [decide_eq_true hq] at heq;have hro:=hff hq hr2;have hrs:r<sts.length:=by omega
 rw [hro] at hidx;have h76:=hpm t htk;have hmg:=zm (vB p sts t) (show a<_ by rw [cR]; exact hal);have hrow:(vB p sts t).getD a []=(List.range sts.length).map λw=>rW p sts t a w:=by simp [vB,List.getD,hal]
 rw [hrow] at hmg;have hgw:=wU .i64 ((List.range sts.length).map λw=>rW p sts t a w) (show r<_ by simpa using hrs);have hgw2:((List.range sts.length).map λw=>rW p sts t a w).getD r 0=rW p sts t a r:=by simp [List.getD,hrs]
 rw [hgw2] at hgw;have hml:=cR p sts t;have hrl2:((List.range sts.length).map λw=>rW p sts t a w).length=sts.length:=by simp
 have hda:((a:Int)<(p.xV.length:Int)):=by omega
 have hdr:((r:Int)<(sts.length:Int)):=by omega
 generalize (List.range sts.length).map (λw=>rW p sts t a w)= row at *;generalize rW p sts t a r=z at *;generalize vB p sts t=M at *;generalize tN p.xV sts a (r,t)= x at *;refine xJ ?_;refine .go (cr h75) ?_;refine xJ ?_;refine .go (cr heq) ?_;refine xJ ?_;refine .go (cr h76) ?_;refine rC sG hml hda hmg yU hrl2 hdr hgw zA hlj ?_;refine⟨j+1,by omega,?_,by omega⟩;rw [hidx,<- hub];exact qN [(1,2)] [1] Q4 gq
end Go.Pd
