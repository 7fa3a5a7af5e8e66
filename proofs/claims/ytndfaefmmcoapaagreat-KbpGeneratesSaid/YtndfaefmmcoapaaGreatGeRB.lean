/- Part RB. -/
import Derived.Test.YtndfaefmmcoapaaGreatGePP
import Derived.Test.YtndfaefmmcoapaaGreatGeSC
import Derived.Test.YtndfaefmmcoapaaGreatGeXA
set_option linter.unusedSectionVars false
set_option linter.unusedVariables false
set_option linter.unusedSimpArgs false
set_option linter.defProp false
set_option maxRecDepth 20000
set_option maxHeartbeats 1000000
open Go.Proofs.Tryz
open List renaming drop_eq_nil_of_le->γ,mem_range->δ,all_eq_true->ε,length_map->ζ,pairwise_cons->η,mem_map->θ,take_of_length_le->κ,range'->μ,map_congr_left->ν,getElem?_range->ξ
open Nat renaming add_sub_cancel->ο,zero_le->π,not_lt_zero->τ
open Bool renaming false_and->υ,true_and->χ,and_false->ψ,and_eq_true->ω
open Int renaming toNat_natCast->Aa
namespace Go.Pd
open Go Go.Proofs
open BitVec renaming isValue -> ZA
open Rs Fm Ru Te Kb
namespace Kb
def fI (p:yT) (l:List uI) (n:Int):D:=if sV p l n=0 then .sl 1 (rr (zJ p l (n.toNat-1))) else .xL
theorem Q8 {p:yT} {l:List uI} {sts:List (List (BitVec 64))} {t a r:Nat} (ha:a<p.xV.length) (hr:r<sts.length):((tQ p l sts t).map λm=>m.getD r 0).getD a 0=kj l a (tX p sts t a r):=by simp [tQ,jl,List.getD,ha,hr]
theorem Q7 {p:yT} {l:List uI} (h:wP p l=0) {sts:List (List (BitVec 64))} {t r:Nat} (hr:r<sts.length) (hi:∀ a,a<p.xV.length->0<=qJ l a (tX p sts t a r)):∀ k:Int,k ∈ ((tQ p l sts t).map λm=>m.getD r 0)->k<p.xO.length:=λk hk=>by
 simp only [tQ,List.map_map,θ,δ,Function.comp] at hk;obtain⟨a,ha,rfl⟩:=hk;have e:(jl p l sts t a sts.length).getD r 0=kj l a (tX p sts t a r):=by simp [jl,List.getD,hr]
 rw [e];exact(SK h (xK (u7 (hi a ha)).1)).1
theorem Q6 {p:yT} {l:List uI} {sts:List (List (BitVec 64))} {t:Nat} (h:∀ r,r<sts.length->∀ a,a<p.xV.length->0<=qJ l a (tX p sts t a r)):qU p l sts t=true:=by unfold qU;rw [ε];intro a ha;rw [ε];intro r hr;exact decide_eq_true (h r (δ.1 hr) a (δ.1 ha))
theorem Nz {p:yT} {l:List uI} {sts:List (List (BitVec 64))} {t a r:Nat} (ha:a<p.xV.length) (hr:r<sts.length) (h:qJ l a (tX p sts t a r)<0):qU p l sts t=false:=by
 cases e:qU p l sts t with
 | false=>rfl
 | true=> unfold qU at e;have:=of_decide_eq_true (ε.1 (ε.1 e a (δ.2 ha)) r (δ.2 hr));omega
end Kb
theorem Uc {p:yT} {st:List (BitVec 64)} {a t kr n:Nat} {nx:Nat} {ob:List (Nat × Ob)} (ha:a<p.xV.length) (ht:t<st.length) (hl:t<=1000) (hk:St.look ob kr=some ⟨1,us st⟩) (hn:n=st.length) :
  xQ prog 79 [p.d,.yD kr 1 n,.int .i64 a,.int .i64 t] ⟨nx,ob⟩ (.sl 1 (us (vG p.xV st a t))) ⟨nx,ob⟩:=by
 subst hn;have hs:=qk p ha ht hl
 refine xQ.aw hs.ord λhu=>xQ.clean (xQ.ret (xQ.yx hs (args:=[p.d,.yD kr 1 st.length,.int .i64 a,.int .i64 t]) (d:=.sl 1 (us (vG p.xV st a t))) (nx:=nx) (ob:=ob) ⟨.pure (by simp [yT.d,yT.cells,D.xR,D.xF]),?_,.pure rfl,.pure rfl,trivial⟩ (by simp [D.fl]) ?_ ?_) (sH.gone hu (λk o h=>h) (by simp [vw])))
 ·exact Seen.rows hk (λh=>h) (by decide) (xT st).symm aa (vT st)
 ·intro q hq e he;rw [List.mem_singleton.1 hq] at he;exact T5 e he
 ·show Seen _ _ (.yD (nx+0) 1 _) _;refine Seen.rows (sz:=1) ?_ (by show ¬ (nx+0<nx); omega) (by decide) (xT _).symm aa (vT _);show St.look (yH nx [(0,_)]++ob) (nx+0)= _;rw [sX,pM nx (show St.look [(0,_)] 0=some _ by rw [xX,if_pos rfl])];show some (Ob.shift nx _)= _;unfold Ob.shift;rw [nF nx (vT _)]
theorem uv (p:yT) (sm:pT p) (l:List uI) (sc:jU l) (n:Int):xA prog 83 [p.d,.sl 3 (qO l),.int .i64 n] (.wF [fI p l n,.int .i64 (sV p l n)]):=by
 have hR:=Wv p sm;have hC:=YE p sc;have hll:=sc.len;have hD:p.d = .agg [.int .i64 p.F,.sl 1 (us p.init),.sl 1 (us p.xV),.sl 1 (uK p.xO),.sl 1 (uJ p.code)]:=rfl;by_cases cz:uA p=0
 case neg=>
  have cz':(uA p != 0)= true:=by simpa using cz
  have c:oN p n=uA p:=by unfold oN; rw [if_pos cz]
  have e1:sV p l n=uA p:=by unfold sV; rw [if_pos (by rw [c]; exact cz),c]
  have e2:fI p l n = .xL:=by unfold fI; rw [e1,if_neg cz]
  rw [e1,e2];rw [hD] at *;refine xI func83 Jy λhf=>?_;refine zI ?_;refine .go (cr hR) ?_;refine xH cz' ?_;exact .drop (by simp) (by simp [vw,vC])
 have cz':(uA p != 0)= false:=by simpa using cz
 by_cases hn:n<1\/6<n
 ·have c:oN p n=2:=by unfold oN; rw [if_neg (by simpa using cz),if_pos hn]
  have e1:sV p l n=2:=by unfold sV; rw [if_pos (by rw [c]; decide),c]
  have e2:fI p l n = .xL:=by unfold fI; rw [e1,if_neg (by decide)]
  rw [e1,e2];rw [hD] at *;refine xI func83 Jy λhf=>?_;refine zI ?_;refine .go (cr hR) ?_
  by_cases h1:n<1
  ·refine yO cz' h1 ?_;exact .drop (by simp) (by simp [vw,vC])
  ·have h2:6<n:=by omega
   refine fY cz' h1 h2 ?_;exact .drop (by simp) (by simp [vw,vC])
 have h1:¬ n<1:=by omega
 have h2:¬ 6<n:=by omega
 have c:oN p n=0:=by unfold oN; rw [if_neg (by simpa using cz),if_neg hn]
 by_cases c2:wP p l=0
 case neg=>
  have c2':(wP p l != 0)= true:=by simpa using c2
  have e1:sV p l n=wP p l:=by unfold sV; rw [if_neg (by simpa using c),if_pos c2]
  have e2:fI p l n = .xL:=by unfold fI; rw [e1,if_neg c2]
  rw [e1,e2];rw [hD] at *;refine xI func83 Jy λhf=>?_;refine zI ?_;refine .go (cr hR) ?_;refine fY cz' h1 h2 ?_;refine .go (cr hC) ?_;refine xH c2' ?_;exact .drop (by simp) (by simp [vw,vC])
 have c2':(wP p l != 0)= false:=by simpa using c2
 obtain⟨F,k,hv,rfl,hk⟩:=Kb.lP c
 have hgE:sV p l ((k+1:Nat):Int)= if (qL p l k).isSome=true then 0 else 6:=by unfold sV;rw [if_neg (by simpa using c),if_neg (by simpa using c2),Aa,ο]
 have hgD:fI p l ((k+1:Nat):Int)= if (qL p l k).isSome=true then .sl 1 (rr (zJ p l k)) else .xL:=by unfold fI;rw [hgE,Aa,ο];split <;> rfl
 have hB:=UQ hv;have hI:=hv.hI;have hA:=hv.hA;have hw:IntKind.i64.wrap (((k+1:Nat):Int)-1)= (k:Int):=by rw [wrap_i64 (by omega)]; omega
 have hB1:=xQ.own (σ:=⟨1,[(0,⟨5,[p.cells]⟩)]⟩) hB (by simp [D.xR,D.xF,yT.d,yT.cells]);have hsl:=λ(st:List (BitVec 64)) (a t kr m:Nat) ob ha ht hl hk=>@Uc p st a t kr st.length m ob ha ht hl hk rfl;have hch:=λa h=>@gv l hll a h;have hnx:=λ(s:BitVec 64) (hs:s >>> F=0#64) (mv:List Int) hl hmv=>RF hv hs (mv:=mv) hl hmv;rw [hgE,hgD];unfold yT.cells at hB1;rw [hD] at *;refine xI func83 Jy λhf=>?_;refine zI ?_;refine .go (cr hR) ?_;refine fY cz' h1 h2 ?_;refine .go (cr hC) ?_;refine xH c2' ?_;refine .go hB1 ?_;have hbl:(qC p).length=p.init.length:=by simp [qC]
 have hN0:=fQ.shift (c:=1) (r:=[(0,⟨5,[[.int .i64 p.F,.sl 1 (us p.init),.sl 1 (us p.xV),.sl 1 (uK p.xO),.sl 1 (uJ p.code)]]⟩)]) (lO ((qC p).map us)) λe he r hr=>(iH e he r hr).2
 have hks0:∀ k ∈ ((μ 1 ((qC p).map us).length).map (1 + ·)),2<=k/\k<1+(1+p.init.length):=λk hk=>by simp only [θ,List.mem_range'_1,ζ,hbl] at hk;obtain⟨j,hj,rfl⟩:=hk;omega
 have hR0:RN p (zJ p l 0) (1+(1+p.init.length)) ((μ 1 ((qC p).map us).length).map (1 + ·)) (yH 1 (lE ((qC p).map us))++ [(0,⟨5,[[.int .i64 p.F,.sl 1 (us p.init),.sl 1 (us p.xV),.sl 1 (uK p.xO),.sl 1 (uJ p.code)]]⟩)]):=
  ⟨hN0,by
   refine List.Pairwise.map _ (λa b h=>?_) List.nodup_range';omega,λh=>by have:=hks0 1 h; omega,λh=>by have:=hks0 0 h; omega,λk hk=>(hks0 k hk).2,by omega,by
   rw [sX,bO 1 (by omega)]; rfl⟩
 refine xH hw ?_
 refine sP (λx:NW=>[(10,.int .i64 x.t),(9,.yD 1 1 p.init.length),(3,.ref 0 5 0 0),(2,.int .i64 ((k+1:Nat):Int)),(1,.sl 3 (qO l))]) (λx:NW=>⟨x.nx,x.xZ⟩) (λx:NW=>RN p (zJ p l x.t) x.nx x.ks x.xZ/\x.t<=k/\(qL p l x.t).isSome=true) (λx:NW=>k-x.t)
  ⟨0,1+(1+p.init.length),(μ 1 ((qC p).map us).length).map (1 + ·),yH 1 (lE ((qC p).map us))++ [(0,⟨5,[[.int .i64 p.F,.sl 1 (us p.init),.sl 1 (us p.xV),.sl 1 (uK p.xO),.sl 1 (uJ p.code)]]⟩)]⟩ ⟨hR0,π _,rfl⟩ ?_ ?_
 ·(refine yR.same ?_; simp only [yS,Fr.get,simprocAttr,-ZA,zS,D.shift])
  all_goals rfl
 rintro ⟨t,nx,ks,xZ⟩ ⟨hRN,ht,hsome⟩;simp only at hRN ht hsome;refine xN mixed ?_;have hS:=iJ hv c2 t hsome;have hl:=hS.len;have hb:=hRN.bx;have hn2:=hRN.n2;obtain⟨u1,u2⟩:=VU hsome;by_cases htn:t<k
 case neg=>
  have hd:¬ ((t:Int)<(k:Int)):=by omega
  obtain rfl:t=k:=by omega
  rw [if_pos hsome,if_pos hsome];refine yO hd hw ?_
  refine .go [(9,.sl 1 (rr (zJ p l t)))] ⟨nx,[]⟩ ?_ ?_
  ·refine yR.deep (λ_=>False) trivial ⟨.inr ?_,trivial⟩;exact hRN.seen hl.symm
  refine xJ ?_;exact .drop (by simp) (by simp [vw,vC])
 have hd:((t:Int)<(k:Int)):=by omega
 have hpm:=λa r ha hr=>@Q8 p l (zJ p l t) t a r ha hr;have hal:=λr hr=>@Q7 p l c2 (zJ p l t) t r hr;have hyes:=@Q6 p l (zJ p l t) t;have hno:=λa r ha hr=>@Nz p l (zJ p l t) t a r ha hr;have hmvl:=yu p l (zJ p l t) t;have hmvr:=@ow p l (zJ p l t) t;have hnk:qU p l (zJ p l t) t=false->(qL p l k).isSome=false:=λhcb=>cM (show t+1<=k by omega) (by rw [u1,hcb]);have hnext:qU p l (zJ p l t) t=true->zJ p l (t+1)= nP p (zJ p l t) (tQ p l (zJ p l t) t)/\ (qL p l (t+1)).isSome=true:=λh=>⟨u2 h,by rw [u1,h]⟩;clear u1 u2;generalize qU p l (zJ p l t) t=cb at *;generalize tQ p l (zJ p l t) t=mv at *;generalize zJ p l t=sts at *;refine yO hd hw ?_
 refine xU (λx:NW=>[(11,.int .i64 x.t),(10,.int .i64 t),(9,.yD 1 1 p.init.length),(3,.ref 0 5 0 0),(2,.int .i64 ((k+1:Nat):Int)),(1,.sl 3 (qO l))]) (λx:NW=>⟨x.nx,x.xZ⟩)
  (λx:NW=>RN p (nB p sts mv x.t) x.nx x.ks x.xZ/\x.t<=sts.length/\∀ r,r<x.t->∀ a,a<p.xV.length->0<=qJ l a (tX p sts t a r)) (λx:NW=>sts.length-x.t)
  ⟨0,nx,ks,xZ⟩ ⟨by show RN p (nB p sts mv 0) _ _ _; rw [ir]; exact hRN,π _,λr hr=>absurd hr (τ _)⟩ ?_ ?_
 ·exact wO
 rintro ⟨r,n1,ks1,ob1⟩ ⟨hR1,hr,hdone⟩;simp only at hR1 hr hdone;refine xN mixed ?_;by_cases hrl:r<sts.length
 case neg=>
  have hd1:¬ ((r:Int)<(p.init.length:Int)):=by omega
  obtain⟨n3,n4⟩:=hnext (hyes λr hr=>hdone r (by omega));rw [Xl (by omega),<- n3] at hR1;refine xH hd1 ?_;refine⟨⟨t+1,n1,ks1,ob1⟩,⟨hR1,by show t+1<=k; omega,n4⟩,?_,by show k-(t+1)<k-t; omega⟩;exact yL
 have hd1:((r:Int)<(p.init.length:Int)):=by omega
 have hb1:=hR1.bx;have hnl:=hR1.jT.len;rw [ζ,yM] at hnl;have hnr:=uY hR1.jT.len;rw [ζ,yM] at hnr;have hgr:=oT hR1.jT.len (i:=r) (by rw [ζ,yM]; exact hrl);have hst:=nL (p:=p) (mv:=mv) (r:=r) hrl;rw [if_neg (Nat.lt_irrefl r)] at hst;rw [uO (by rw [yM]; exact hrl),hst,xT] at hgr;have hkr:=hR1.jT.each r (by rw [ζ,yM]; exact hrl);rw [uO (by rw [yM]; exact hrl),hst] at hkr;have hmem:=uZ (l:=ks1) (i:=r) (by omega);have hkr0:ks1.getD r 0≠0:=λe=>hR1.xs (e ▸ hmem);have hkr1:ks1.getD r 0≠1:=λe=>hR1.ss (e ▸ hmem);have hkrn:=hR1.lt _ hmem;have hout:=hR1.jT.out;have hn21:=hR1.n2;have hstep:=λm hm ob=>@RN.step p sts mv r n1 ks1 ob1 hR1 hrl m hm ob;have hnw:zr p sts mv r=j7 p (vm (vK sts r)) (mv.map λm=>m.getD r 0):=rfl;have hLr:(vK sts r).length=t+1:=hS.run _ (nU hrl);have hvr:=hS.val _ (nU hrl);have hlE:vm (vK sts r)= (vK sts r).getD t 0:=by unfold vm; rw [hLr,ο]
 rw [hlE] at hnw;have hls:=hvr ((vK sts r).getD t 0) (xK (by omega));have hgl:=yF (vK sts r) (show t<_ by omega);have hnext126:=hnx _ hls (mv.map λm=>m.getD r 0) (by rw [ζ]; omega);rw [<- hnw] at hnext126;have hal:=hal r hrl;have hno:=λa ha=>hno a r ha hrl;have hown:(mv.map λm=>m.getD r 0).length=p.xV.length:=by rw [ζ]; exact hmvl
 have hpm:=λa ha=>hpm a r ha hrl;have hhT:∀ a,tX p sts t a r=vG p.xV (vK sts r) a t:=λa=>rfl;simp only [hhT] at hal hno hpm
 have hdn:=λ(h:∀ a,a<p.xV.length->0<=qJ l a (vG p.xV (vK sts r) a t)) r' (hr':r'<r+1)=>show ∀ a,a<p.xV.length->0<=qJ l a (tX p sts t a r') by
  by_cases e:r'=r
  ·rw [e]; exact h
  ·exact hdone r' (by omega)
 generalize zr p sts mv r=y at *;generalize (mv.map λm=>m.getD r 0)= own at *;generalize nB p sts mv r=sk at *;generalize ks1.getD r 0=kr at *;generalize vK sts r=st at *;generalize st.getD t 0=s at *;refine xH hd1 ?_
 refine xU (λx:OP=>[(13,.int .i64 x.j),(12,wE x.kW x.j),(11,.int .i64 r),(10,.int .i64 t),(9,.yD 1 1 p.init.length),(3,.ref 0 5 0 0),(2,.int .i64 ((k+1:Nat):Int)),(1,.sl 3 (qO l))]) (λx=>⟨x.m,x.ob⟩)
  (λx=>IO ob1 n1 own x/\∀ a,a<x.j->0<=qJ l a (vG p.xV st a t)) (λx=>p.xV.length-x.j) ⟨0,n1,0,ob1⟩ ⟨⟨π _,Nat.le_refl _,λh=>absurd rfl h,λ_ _=>rfl⟩,λa ha=>absurd ha (τ _)⟩ ?_ ?_
 ·(refine yR.same ?_; simp [yS,Fr.get,wE])
 rintro ⟨j,m,kW,ob⟩ ⟨⟨hj,hm,hkW,hold⟩,hjd⟩;simp only at hj hm hkW hold hjd;have g0:=(hold 0 (by omega)).trans hb1;have g1:=(hold 1 (by omega)).trans hout;have g2:=(hold kr hkrn).trans hkr;refine xN mixed ?_;by_cases hjl:j<p.xV.length
 case pos=>
  have hd2:((j:Int)<(p.xV.length:Int)):=by omega
  have htk:=yE (d:=0) (show j<own.length by omega);have hs79:=hsl st j t kr m ob hjl (by omega) (by omega) g2;have hno:=hno j hjl;have hpm:=hpm j hjl
  have hj2:0<=qJ l j (vG p.xV st j t)->∀ a,a<j+1->0<=qJ l a (vG p.xV st a t):=λh a ha=>by
   by_cases e:a=j
   ·rw [e]; exact h
   ·exact hjd a (by omega)
  have hc88:=hch j (vG p.xV st j t);rw [<- hpm] at hc88;generalize vG p.xV st j t=h at *;generalize qJ l j h=ix at *;generalize own.getD j 0=z at *;by_cases hix:0<=ix
  case neg=> rw [if_neg hix,decide_eq_false hix] at hc88;have hcb:=hno (by omega);rw [hnk hcb,if_neg (by simp),if_neg (by simp)];refine cF hd2 xT g0 g1 hgr hnr hd1 ?_;refine .go hs79 ?_;refine xJ ?_;refine .go (cr hc88) ?_;refine xJ ?_;refine .zN ?_;refine xJ ?_;exact .drop (by simp) (by simp [vw,vC])
  rw [if_pos hix,decide_eq_true hix] at hc88
  by_cases hj0:j=0
  ·subst hj0;have hd20:(0:Int)<(p.xV.length:Int):=by omega
   unfold wE;refine cF hd20 xT g0 g1 hgr hnr hd1 ?_;refine .go hs79 ?_;refine xJ ?_;refine .go (cr hc88) ?_;refine zI ?_
   refine⟨⟨0+1,m+1,m,(m,⟨1,[[.int .i64 z]]⟩) :: ob⟩,⟨⟨by show 0+1<=_; omega,by show n1<=m+1; omega,λ_=>⟨hm,by show m<m+1; omega,?_⟩,λk hk=>by show St.look ((m,_) :: ob) k=_; rw [xX,if_neg (by omega)]; exact hold k hk⟩,hj2 hix⟩,?_,by show p.xV.length-(0+1)<_; omega⟩
   ·show St.look ((m,_) :: ob) m=_;rw [xX,if_pos rfl];show _=some (Ob.mk 1 (rows .i64 (own.take (0+1))));rw [htk]; rfl
   ·(refine yR.same ?_; simp only [yS,Fr.get,simprocAttr,-ZA,zS,Nat.zero_add,Nat.one_ne_zero])
    all_goals rfl
  ·obtain⟨w1,w2,w3⟩:=hkW hj0;have hol:(own.take j).length=j:=by rw [List.length_take]; omega
   unfold wE;rw [if_neg hj0];have q1:¬ (m=kW):=by omega
   have htt:(own.take j).take j=own.take j:=by rw [List.take_take,Nat.min_self]
   refine cF hd2 xT g0 g1 hgr hnr hd1 ?_;refine .go hs79 ?_;refine xJ ?_;refine .go (cr hc88) ?_;refine uC yU w3 hol htt ?_
   refine⟨⟨j+1,m+1,m,(m,⟨1,rows .i64 (own.take j ++ [z])⟩) :: yN ob kW⟩,⟨⟨by show j+1<=_; omega,by show n1<=m+1; omega,λ_=>⟨hm,by show m<m+1; omega,?_⟩,λk hk=>by show St.look ((m,_) :: yN ob kW) k=_; rw [xX,if_neg (by omega),xC,if_neg (by omega)]; exact hold k hk⟩,hj2 hix⟩,?_,by show p.xV.length-(j+1)<_; omega⟩
   ·show St.look ((m,_) :: _) m=_;rw [xX,if_pos rfl];show _=some (Ob.mk 1 (rows .i64 (own.take (j+1))));rw [htk]
   ·simp only [Nat.add_one_ne_zero,↓reduceIte];exact yL
 have hd2:¬ ((j:Int)<(p.xV.length:Int)):=by omega
 obtain rfl:j=p.xV.length:=by omega
 have hj0:p.xV.length≠0:=by omega
 obtain⟨w1,w2,w3⟩:=hkW hj0;have hnext126:=hnext126 (hal hjd);unfold wE;rw [if_neg hj0];have how:own.take p.xV.length=own:=κ (by omega);rw [how] at w3
 have hcall:xQ prog 126 [.agg [.int .i64 p.F,.sl 1 (us p.init),.sl 1 (us p.xV),.sl 1 (uK p.xO),.sl 1 (uJ p.code)],.int .u64 (ui s),.yD kW 1 p.xV.length] ⟨m,ob⟩ (.int .u64 (ui y)) ⟨m,ob⟩:=
  xQ.Sq hnext126 ⟨.pure (by simp [D.xR,D.xF]),.pure rfl,Seen.rows w3 (λh=>h) (by decide) (by rw [yU]; omega) (λe he=>by simp only [rows,θ] at he;obtain⟨x,_,rfl⟩:=he;rfl) (qS _ _),trivial⟩ rfl
 have hlt2:((t:Int)<(st.length:Int)):=by omega
 have hlt3:t<st.length:=by omega
 refine NT hd2 xT g0 g1 g2 hgr hgl hlt2 hlt3 hnr hd1 ?_;refine aD.go hcall ?_;have e0:=(show St.look (yN ob kr) 0=St.look ob 0 by rw [xC,if_neg hkr0]).trans g0;have e1:=(show St.look (yN ob kr) 1=St.look ob 1 by rw [xC,if_neg hkr1]).trans g1;have q0:¬ (m=0):=by omega
 have q1:¬ (m=1):=by omega
 have q2:¬ (m=kr):=by omega
 have htk:(us st).take st.length=us st:=κ (by rw [xT]; exact Nat.le_refl _);refine Sx g0 g1 g2 e0 e1 q0 q1 q2 xT htk hnr hgr hd1 tm ?_
 refine⟨⟨r+1,m+1,ks1.set r m,(m,⟨1,us (st ++ [y])⟩) :: zC (yN ob kr) 1 ⟨1,(vQ ks1 (sk.map us)).set r [.yD m 1 (st.length+1)]⟩⟩,⟨hstep m hm _ ?_ ?_ λk hk h1 h2=>?_,by show r+1<=_; omega,hdn hjd⟩,?_,by show sts.length-(r+1)<_; omega⟩
 ·rw [xX,if_neg q1,xP,if_pos rfl,e1]; rfl
 ·rw [xX,if_pos rfl]
 ·rw [xX,if_neg (by omega),xP,if_neg (λe=>h1 e.symm),xC,if_neg (λe=>h2 e.symm)];exact hold k hk
 ·exact yL
end Go.Pd

/- Part SG. -/
namespace Go.Pd
open Go Go.Proofs
namespace Ru
end Ru
open Ru
open Ru
namespace Ru
end Ru
end Go.Pd

/- Part SP. -/
namespace Go.Pd
open Go Go.Proofs
namespace Ru
def hT (f:Nat->Int):Nat->List Int
 | 0=>[]
 | k+1=>if 0<k/\f k=f (k-1) then hT f k else hT f k ++ [f k]
end Ru
open Rs Fm Ru Te Kb
namespace Kb
instance : DecidableEq wX := λa b => decidable_of_iff (a.loc = b.loc /\ a.ye = b.ye) (by cases a; cases b; simp)
instance : DecidableEq jO := λa b => decidable_of_iff (a.ag = b.ag /\ a.fa = b.fa /\ a.ln = b.ln /\ a.rs = b.rs) (by cases a; cases b; simp)
def ZW (x:List Int):List (List Int)->List (List Int)
 | []=>[x]
 | y :: l=>if kc y x<0 then y :: ZW x l else x :: y :: l
def ZU : List (List Int)->List (List Int)
 | []=>[]
 | x :: l=>ZW x (ZU l)
theorem wg (x:List Int):∀ l,(ZW x l).Perm (x :: l)
 | []=>List.Perm.refl _
 | y :: l=>by
  unfold ZW
  split
  ·exact((wg x l).cons y).trans (List.Perm.swap x y l)
  ·exact List.Perm.refl _
theorem cn : ∀ l,(ZU l).Perm l
 | []=>List.Perm.refl _
 | x :: l=>(wg x _).trans ((cn l).cons x)
theorem Yu (x:List Int):∀ l,bq l->bq (ZW x l)
 | [],_=>by unfold ZW bq; simp
 | y :: l,h=>by
  have h1:=η.1 h;unfold ZW
  split
  ·rename_i hc;refine η.2 ⟨λz hz=>?_,Yu x l h1.2⟩
   rcases List.mem_cons.1 ((wg x l).mem_iff.1 hz) with rfl | hz
   ·have:=mQ y z; omega
   ·exact h1.1 z hz
  ·rename_i hc;refine η.2 ⟨λz hz=>?_,h⟩
   rcases List.mem_cons.1 hz with rfl | hz
   ·exact hc
   ·exact cN (h1.1 z hz) hc
theorem YW : ∀ l,bq (ZU l)
 | []=>List.Pairwise.nil
 | x :: l=>Yu x _ (YW l)
theorem Pv (l:List (List Int)):fH l=ZU l:=(sf (cn l) (YW l)).symm
theorem cp : fH=ZU:=funext Pv
def LC (xV:List (BitVec 64)) (sts:List (List (BitVec 64))) (T:Nat):List wX:= V1 (qy sts) xV.length T λa p=>below (dedup (ZU ((iS T ((qy sts).length*T)).map (tN xV sts a)))) (tN xV sts a p)
theorem Xn (xV:List (BitVec 64)) (sts:List (List (BitVec 64))) (T:Nat):kG xV sts T=LC xV sts T:=by unfold kG Pc LC NS;rw [cp]
def allI (xV:List (BitVec 64)) (sts:List (List (BitVec 64))) (T a:Nat):List (List Int):=dedup (ZU ((iS T (sts.length*T)).map (tN xV sts a)))
theorem Pq (xV:List (BitVec 64)) (sts:List (List (BitVec 64))) (T a:Nat):oL xV sts T a=allI xV sts T a:=by unfold oL allI; rw [cp]
def Fz : List Nd:=PU (nM 0) (V0 (vl 1 (nM 0)))
def kq : yT:=⟨2,[0#64,1#64],[1#64,2#64],[[⟨1,nM 0⟩]],[[⟨Fz,0⟩],[]]⟩
def Pk : jO:=⟨2,2,3,[⟨[[0,0],[2,1],[4,3]],[0#64,0#64,0#64]⟩,⟨[[1,0],[3,2],[5,4]],[1#64,3#64,3#64]⟩]⟩
theorem du : uF kq 2 = [[0#64,0#64,0#64],[1#64,3#64,3#64]]:=by decide +kernel
theorem ai : oN kq 3=0:=by decide +kernel
theorem O5 : ri kq 3=Pk:=by unfold ri;rw [if_neg (by rw [ai]; simp),show (3:Int).toNat=3 from rfl,du,Xn];decide +kernel
end Kb
end Go.Pd

/- Part AX. -/
namespace Go.Pd
open Go Go.Proofs
open BitVec renaming isValue -> ZA
open Rs Fm Ru Te Kb
def Nw (d d':D):Prop:=∀ (M:Nat->Prop) (w:World) (v:Value),RP M w v d->RP M w v d'
theorem Nw.refl (d:D):Nw d d:=λ_ _ _ h=>h
theorem Nw.xL (sz:Nat):Nw .xL (.sl sz []):=λ_ _ v h=>by cases h;exact .kp _ _ _ (by simp)
theorem Nw.sl {sz:Nat} {xW els':List (List D)} (hl:xW.length=els'.length) (hw:∀ e ∈ els',e.length=sz)
  (h:∀ i,i<xW.length->∀ j,j<sz->Nw ((xW.getD i []).getD j .top) ((els'.getD i []).getD j .top)):Nw (.sl sz xW) (.sl sz els'):=λM w v hv=>by
 cases hv with
 | kp a cap sz hh=> have:els' = []:=List.length_eq_zero_iff.1 (by simpa using hl.symm);subst this;exact .kp _ _ _ hh
 | sl vs hs hM hc hm hl2 hcell hr=>
  have:=RP.sl (M:=M) (w:=w) (sz:=sz) (xW:=els') vs hs hM (by omega) hm hw (by rw [<- hl]; exact hcell) (by rw [<- hl]; exact λi hi j hj=>h i hi j hj M w _ (hr i hi j hj))
  rwa [<- hl] at this
theorem Nw.agg {ds cs:List D} (hl:ds.length=cs.length) (h:∀ j,j<cs.length->Nw (ds.getD j .top) (cs.getD j .top)):Nw (.agg ds) (.agg cs):=λM w v hv=>by
 cases hv with
 | agg h1 h2=>exact .agg (by omega) λj hj=>h j hj M w _ (h2 j (by omega))
theorem Nw.seen {σ:St} {K:Nat->Prop} {d d':D} (h:Nw d d') (hp:d.xF=true):Seen σ K d d':=λM0 w ι v hS hR=>h _ _ _ (Seen.pure hp M0 w ι v hS hR)
theorem xA.seen {P:Program} {g:FuncId} {args args':List D} {d:D} (hc:xA P g args' d) (h:mW jR (λ_=>False) args args'):xA P g args d:= xQ.Ms (σ:=jR) (objs':=[]) (λ_=>False) hc h λk o hk=>by cases hk
theorem Jx (f g:List Nd):xA prog 92 [.sl 6 (wN f),.sl 6 (wN g)] (.sl 6 (wN (PU f g))):=by refine xI func92 Ft λhf=>?_;refine zI ?_;refine .go (xQ.yP (sg ⟨5,0,0,0,0,0⟩ [f,g] (by simp)) (by simp [D.xR,D.xF,Nd.row,nl])) ?_;refine xJ ?_;exact .same
theorem P5 (a b:wX):decide (a=b)= (decide (a.ye=b.ye)&& decide (a.loc=b.loc)):=by cases a; cases b;rw [Bool.eq_iff_iff];simp [and_comm]
theorem Ua (a b:wX) (h1:a.ye.length<=1000000) (h2:a.loc.length<=1000000) (h3:∀ l ∈ a.loc,l.length<=1000000):xA prog 81 [.agg a.row,.agg b.row] (.bool (decide (a=b))):=by
 rw [P5];have hA:a.row = [.sl 1 (rl a.loc),.sl 1 (us a.ye)]:=rfl;have hB:b.row = [.sl 1 (rl b.loc),.sl 1 (us b.ye)]:=rfl;rw [hA,hB];cases a with | mk la fa=>
 cases b with | mk lb fb=>
 simp only at h1 h2 h3 ⊢;refine xI func81 Fi λhf=>?_;by_cases c1:fa.length=fb.length
 case neg=>
  have q1:((fa.length:Int) != (fb.length:Int))= true:=by simpa using λc=>c1 (by omega)
  rw [decide_eq_false (λc=>c1 (congrArg List.length c))];refine fY xT sG q1 ?_;exact .dv
 have q1:((fa.length:Int) != (fb.length:Int))= false:=by rw [c1]; simp
 by_cases c2:la.length=lb.length
 case neg=>
  have q2:((la.length:Int) != (lb.length:Int))= true:=by simpa using λc=>c2 (by omega)
  rw [decide_eq_false (p:=la=lb) (λc=>c2 (congrArg List.length c)),ψ];refine cE xT sG q1 q2 ?_;exact .dv
 have q2:((la.length:Int) != (lb.length:Int))= false:=by rw [c2]; simp
 refine cE xT sG q1 q2 ?_
 refine xU (λk:Nat=>[(5,.int .i64 k),(3,.ref 1 2 0 0),(2,.ref 0 2 0 0)]) (λ_=>⟨2,[(1,⟨2,[[.sl 1 (rl lb),.sl 1 (us fb)]]⟩),(0,⟨2,[[.sl 1 (rl la),.sl 1 (us fa)]]⟩)]⟩)
  (λk=>k<=fa.length/\decide (fa=fb)= decide (fa.drop k=fb.drop k)) (λk=>fa.length-k) 0 ⟨π _,rfl⟩ ?_ ?_
 ·exact wO
 rintro k ⟨hk,hd⟩;refine xN mixed ?_
 by_cases h:k<fa.length
 ·have q:((k:Int)<(fa.length:Int)):=by omega
  rw [hd,eO (d:=0#64) h (by omega)]
  by_cases e:fa.getD k 0#64=fb.getD k 0#64
  ·rw [decide_eq_true e,χ];have e':(fa.getD k 0 != fb.getD k 0)= false:=by show (fa.getD k 0#64 != fb.getD k 0#64)= false; rw [e]; simp
   simp only [simprocAttr,-ZA,↓zU,↓zD,zV,zT,zW,q,xT,yF fa h,yF fb (show k<fb.length by omega),e']
   (repeat refine sd ?_)
   refine⟨k+1,⟨h,rfl⟩,?_,by omega⟩;exact yL
  ·rw [decide_eq_false e,υ,υ];have e':(fa.getD k 0 != fb.getD k 0)= true:=by simpa using e
   simp only [simprocAttr,-ZA,↓zU,↓zD,zV,zT,zW,q,xT,yF fa h,yF fb (show k<fb.length by omega),e']
   (repeat refine sd ?_)
   exact .dv
 have q:¬ ((k:Int)<(fa.length:Int)):=by omega
 have hf:decide (fa=fb)= true:=by rw [hd,γ (by omega),γ (by omega)]; simp
 rw [hf,χ];refine yO q xT ?_
 refine xU (λk:Nat=>[(6,.int .i64 k),(3,.ref 1 2 0 0),(2,.ref 0 2 0 0)]) (λ_=>⟨2,[(1,⟨2,[[.sl 1 (rl lb),.sl 1 (us fb)]]⟩),(0,⟨2,[[.sl 1 (rl la),.sl 1 (us fa)]]⟩)]⟩)
  (λk=>k<=la.length/\decide (la=lb)= decide (la.drop k=lb.drop k)) (λk=>la.length-k) 0 ⟨π _,rfl⟩ ?_ ?_
 ·exact wO
 rintro k ⟨hk,hd⟩;refine xN mixed ?_;by_cases h:k<la.length
 case neg=>
  have q:¬ ((k:Int)<(la.length:Int)):=by omega
  rw [hd,γ (by omega),γ (by omega)];refine yO q sG ?_;exact .dv
 have q:((k:Int)<(la.length:Int)):=by omega
 have h3k:=h3 _ (xK (d:=[]) h);have g1:=zm la h;have g2:=zm lb (show k<lb.length by omega);have hd2:=hd;rw [eO (d:=[]) h (by omega)] at hd2;rw [hd2];generalize la.getD k []=x at *;generalize lb.getD k []=y at *;by_cases c3:x.length=y.length
 case neg=>
  have q3:((x.length:Int) != (y.length:Int))= true:=by simpa using λc=>c3 (by omega)
  rw [decide_eq_false (λc=>c3 (congrArg List.length c)),υ];refine pH q sG g1 g2 yU q3 ?_;exact .dv
 have q3:((x.length:Int) != (y.length:Int))= false:=by rw [c3]; simp
 refine pH q sG g1 g2 yU q3 ?_
 refine xU (λj:Nat=>[(7,.int .i64 j),(6,.int .i64 k),(3,.ref 1 2 0 0),(2,.ref 0 2 0 0)]) (λ_=>⟨2,[(1,⟨2,[[.sl 1 (rl lb),.sl 1 (us fb)]]⟩),(0,⟨2,[[.sl 1 (rl la),.sl 1 (us fa)]]⟩)]⟩)
  (λj=>j<=x.length/\decide (x=y)= decide (x.drop j=y.drop j)) (λj=>x.length-j) 0 ⟨π _,rfl⟩ ?_ ?_
 ·exact wO
 rintro j ⟨hj,hdj⟩;refine xN mixed ?_
 by_cases hx:j<x.length
 ·have qx:((j:Int)<(x.length:Int)):=by omega
  rw [hdj,eO (d:=0) hx (by omega)]
  by_cases e:x.getD j 0=y.getD j 0
  ·rw [decide_eq_true e,χ];have e':(x.getD j 0 != y.getD j 0)= false:=by rw [e]; simp
   simp only [simprocAttr,-ZA,↓zU,↓zD,zV,zT,zW,qx,sG,g1,g2,yU,wU .i64 x hx,wU .i64 y (show j<y.length by omega),e']
   (repeat refine sd ?_)
   refine⟨j+1,⟨hx,rfl⟩,?_,by omega⟩;exact yL
  ·rw [decide_eq_false e,υ,υ];have e':(x.getD j 0 != y.getD j 0)= true:=by simpa using e
   simp only [simprocAttr,-ZA,↓zU,↓zD,zV,zT,zW,qx,sG,g1,g2,yU,wU .i64 x hx,wU .i64 y (show j<y.length by omega),e']
   (repeat refine sd ?_)
   exact .dv
 have qx:¬ ((j:Int)<(x.length:Int)):=by omega
 have hxy:decide (x=y)= true:=by rw [hdj,γ (by omega),γ (by omega)]; simp
 refine rI qx sG g1 g2 yU ?_;refine⟨k+1,⟨h,by rw [hxy,χ]⟩,?_,by omega⟩;exact yL
theorem P9 (a b:jO):decide (a=b)= (decide (a.ag=b.ag)&& (decide (a.fa=b.fa)&& (decide (a.ln=b.ln)&& decide (a.rs=b.rs)))):=by cases a; cases b;rw [Bool.eq_iff_iff];simp
def qz (s:jO):Prop:=s.rs.length<=1000000/\∀ r ∈ s.rs,r.ye.length<=1000000/\r.loc.length<=1000000/\∀ l ∈ r.loc,l.length<=1000000
theorem SB (a b:jO) (hs:qz a):xA prog 23 [a.d,b.d] (.bool (decide (a=b))):=by
 rw [P9];have hA:a.d = .agg [.int .i64 a.ag,.int .i64 a.fa,.int .i64 a.ln,.sl 2 (sY a.rs)]:=rfl;have hB:b.d = .agg [.int .i64 b.ag,.int .i64 b.fa,.int .i64 b.ln,.sl 2 (sY b.rs)]:=rfl;rw [hA,hB];cases a with | mk a1 a2 a3 xs=>
 cases b with | mk b1 b2 b3 ys=>
 obtain⟨h1,h2⟩:=hs;simp only at h1 h2 ⊢;refine xI func23 FB λhf=>?_;by_cases c1:a1=b1
 case neg=>
  have q:(a1 != b1)= true:=by simpa using c1
  rw [decide_eq_false c1,υ];refine yO q oU ?_;exact .dv
 by_cases c2:a2=b2
 case neg=>
  have q1:(a1 != b1)= false:=by simpa using c1
  have q:(a2 != b2)= true:=by simpa using c2
  rw [decide_eq_false c2,υ,ψ];refine fY q1 q oU ?_;exact .dv
 by_cases c3:a3=b3
 case neg=>
  have q1:(a1 != b1)= false:=by simpa using c1
  have q2:(a2 != b2)= false:=by simpa using c2
  have q:(a3 != b3)= true:=by simpa using c3
  rw [decide_eq_false c3,υ,ψ,ψ];refine cE q1 q2 q oU ?_;exact .dv
 have q1:(a1 != b1)= false:=by simpa using c1
 have q2:(a2 != b2)= false:=by simpa using c2
 have q3:(a3 != b3)= false:=by simpa using c3
 rw [decide_eq_true c1,decide_eq_true c2,decide_eq_true c3,χ,χ,χ];by_cases c4:xs.length=ys.length
 case neg=>
  have q:((xs.length:Int) != (ys.length:Int))= true:=by simpa using λc=>c4 (by omega)
  rw [decide_eq_false (λc=>c4 (congrArg List.length c))];refine bn q1 q2 q3 q oU ?_;exact .dv
 have q4:((xs.length:Int) != (ys.length:Int))= false:=by rw [c4]; simp
 clear c1 c2 c3;refine bn q1 q2 q3 q4 oU ?_
 refine xU (λk:Nat=>[(5,.int .i64 k),(3,.ref 1 4 0 0),(2,.ref 0 4 0 0)]) (λ_=>⟨2,[(1,⟨4,[[.int .i64 b1,.int .i64 b2,.int .i64 b3,.sl 2 (sY ys)]]⟩),(0,⟨4,[[.int .i64 a1,.int .i64 a2,.int .i64 a3,.sl 2 (sY xs)]]⟩)]⟩)
  (λk=>k<=xs.length/\decide (xs=ys)= decide (xs.drop k=ys.drop k)) (λk=>xs.length-k) 0 ⟨π _,rfl⟩ ?_ ?_
 ·exact wO
 rintro k ⟨hk,hd⟩;refine xN mixed ?_;by_cases h:k<xs.length
 case neg=>
  have q:¬ ((k:Int)<(xs.length:Int)):=by omega
  rw [hd,γ (by omega),γ (by omega)];refine yO q oU ?_;exact .dv
 have q:((k:Int)<(xs.length:Int)):=by omega
 have hr:=h2 _ (xK (d:=pG) h);have hc:=Ua (xs.getD k pG) (ys.getD k pG) hr.1 hr.2.1 hr.2.2;have g1:(sY xs).getD k [] = [.sl 1 (rl (xs.getD k pG).loc),.sl 1 (us (xs.getD k pG).ye)]:=Xg xs h;have g2:(sY ys).getD k [] = [.sl 1 (rl (ys.getD k pG).loc),.sl 1 (us (ys.getD k pG).ye)]:=Xg ys (by omega);have hc:xA prog 81 [.agg [.sl 1 (rl (xs.getD k pG).loc),.sl 1 (us (xs.getD k pG).ye)],.agg [.sl 1 (rl (ys.getD k pG).loc),.sl 1 (us (ys.getD k pG).ye)]] _:=hc;rw [hd,eO (d:=pG) h (by omega)];rw [eO (d:=pG) h (by omega)] at hd;generalize xs.getD k pG=x at *;generalize ys.getD k pG=y at *;generalize hP:decide (x=y)= b at *;refine uC q oU g1 g2 ?_;refine .go (cq hc) ?_
 cases b with
 | false=> rw [υ];refine xJ ?_;exact .dv
 | true=> rw [χ];refine xJ ?_;refine⟨k+1,⟨h,rfl⟩,?_,by omega⟩;exact yL
open Rs Fm Ru Te Kb
namespace Kb
instance : DecidableEq uI := λa b => decidable_of_iff (a.ag = b.ag /\ a.seen = b.seen /\ a.mv = b.mv) (by cases a; cases b; simp)
def Zf : List uI:=[⟨0,[0#64],-1⟩,⟨0,[1#64],0⟩,⟨0,[0#64,0#64],-1⟩,⟨0,[1#64,1#64],-1⟩,⟨1,[0#64],-1⟩,⟨1,[0#64,0#64],-1⟩,⟨1,[0#64,2#64],-1⟩]
theorem WU : rj kq 3=Zf:=by unfold rj;rw [if_neg (by rw [ai]; simp),show (3:Int).toNat-1=2 from rfl,du];unfold Vy lB;simp only [Pq];decide +kernel
theorem u5 : sV kq Zf 3=0:=by decide +kernel
theorem O4 : zJ kq Zf 2 = [[0#64,0#64,0#64],[1#64,3#64,3#64]]:=by decide +kernel
theorem M5 : fS kq Zf 3=Pk:=by unfold fS;rw [if_neg (by rw [u5]; simp),show (3:Int).toNat=3 from rfl,O4,Xn];decide +kernel
theorem M6 : fJ kq Zf 3=true:=by decide +kernel
theorem eP : pT kq:=⟨by decide,by decide,by decide⟩
theorem dt : jU Zf:=⟨by decide,by decide⟩
theorem M4 : uA kq=0:=by decide +kernel
theorem Tj : qz Pk:=by unfold qz; decide
end Kb
open Rs Fm Ru Te Kb
def TG : D:=.agg [.int .i64 2,.sl 1 (us [0#64,1#64]),.sl 1 (us [1#64,2#64]),.sl 1 (uK [[⟨1,nM 0⟩]]),.sl 1 [[.sl 2 (Ze [⟨Fz,0⟩])],[.xL]]]
theorem M3 : Nw TG kq.d:=by
 refine Nw.agg rfl λj hj=>?_
 match j,hj with
 | 0,_=>exact Nw.refl _
 | 1,_=>exact Nw.refl _
 | 2,_=>exact Nw.refl _
 | 3,_=>exact Nw.refl _
 | 4,_=>
  refine Nw.sl rfl (by decide) λi hi j hj=>?_;have e:j=0:=by omega
  subst e
  match i,hi with
  | 0,_=>exact Nw.refl _
  | 1,_=>exact Nw.xL 2
theorem Tk : xA prog 36 [] TG:=by have c1:=Lm 0;have c2:=Ln 1 (nM 0);have c3:=K6 (vl 1 (nM 0));have c4:=Jx (nM 0) (V0 (vl 1 (nM 0)));have hD:TG = .agg [.int .i64 2,.sl 1 (us [0#64,1#64]),.sl 1 (us [1#64,2#64]),.sl 1 [[.sl 2 [[.int .i64 1,.sl 6 (wN (nM 0))]]]],.sl 1 [[.sl 2 [[.sl 6 (wN (PU (nM 0) (V0 (vl 1 (nM 0))))),.int .i64 0]]],[.xL]]]:=rfl;rw [hD];generalize PU (nM 0) (V0 (vl 1 (nM 0)))= g1 at *;generalize V0 (vl 1 (nM 0))= g2 at *;generalize vl 1 (nM 0)= g3 at *;generalize nM 0=g4 at *;refine xI func36 FG λhf=>?_;refine xJ ?_;refine .go (cq c1) ?_;refine zI ?_;refine .go (cr c2) ?_;refine xJ ?_;refine .go (cr c3) ?_;refine xJ ?_;refine .go (cr c4) ?_;refine zI ?_;exact .drop (by simp) (by simp [vw,vC,us,ui])
theorem Nk : xA prog 15 [] (.bool true):=by
 have hp:TG.xF=true:=rfl;have S1:Seen jR (λ_=>False) TG kq.d:=M3.seen hp;have hP:xA prog 19 [TG,.int .i64 3] (.wF [Pk.d,.int .i64 0]):=xA.seen (args':=[kq.d,.int .i64 3]) (by have:=Lo kq eP 3; rwa [O5,ai] at this) ⟨S1,Seen.pure rfl,trivial⟩;have hL:xA prog 21 [TG,.int .i64 3] (.wF [.sl 3 (qO Zf),.int .i64 0]):=xA.seen (args':=[kq.d,.int .i64 3]) (by have:=W7 kq eP 3; rwa [WU,ai] at this) ⟨S1,Seen.pure rfl,trivial⟩;have hG:xA prog 25 [TG,.sl 3 (qO Zf),.int .i64 3] (.wF [Pk.d,.int .i64 0]):=xA.seen (args':=[kq.d,.sl 3 (qO Zf),.int .i64 3]) (by have:=lp kq eP Zf dt 3; rwa [M5,u5] at this) ⟨S1,Seen.pure rfl,Seen.pure rfl,trivial⟩;have hI:xA prog 27 [TG,.sl 3 (qO Zf),.int .i64 3] (.wF [.bool true,.int .i64 0]):=xA.seen (args':=[kq.d,.sl 3 (qO Zf),.int .i64 3]) (by have:=yf kq eP Zf dt 3; rwa [M6,u5] at this) ⟨S1,Seen.pure rfl,Seen.pure rfl,trivial⟩;have hC:xA prog 17 [TG] (.int .i64 0):=xA.seen (args':=[kq.d]) (by have:=VC kq eP; rwa [M4] at this) ⟨S1,trivial⟩;have hS:xA prog 23 [Pk.d,Pk.d] (.bool true):=by have:=SB Pk Pk Tj; simpa using this
 have hE:=Tk;have eL:qO Zf = [[.int .i64 0,.sl 1 (us [0#64]),.int .i64 (-1)],[.int .i64 0,.sl 1 (us [1#64]),.int .i64 0],[.int .i64 0,.sl 1 (us [0#64,0#64]),.int .i64 (-1)],[.int .i64 0,.sl 1 (us [1#64,1#64]),.int .i64 (-1)],[.int .i64 1,.sl 1 (us [0#64]),.int .i64 (-1)],[.int .i64 1,.sl 1 (us [0#64,0#64]),.int .i64 (-1)],[.int .i64 1,.sl 1 (us [0#64,2#64]),.int .i64 (-1)]]:=rfl;have eS:Pk.d = .agg [.int .i64 2,.int .i64 2,.int .i64 3,.sl 2 [[.sl 1 [[.sl 1 [[.int .i64 0],[.int .i64 0]]],[.sl 1 [[.int .i64 2],[.int .i64 1]]],[.sl 1 [[.int .i64 4],[.int .i64 3]]]],.sl 1 [[.int .u64 0],[.int .u64 0],[.int .u64 0]]],[.sl 1 [[.sl 1 [[.int .i64 1],[.int .i64 0]]],[.sl 1 [[.int .i64 3],[.int .i64 2]]],[.sl 1 [[.int .i64 5],[.int .i64 4]]]],.sl 1 [[.int .u64 1],[.int .u64 3],[.int .u64 3]]]]]:=rfl;rw [eS] at hP hG hS;generalize TG=d at *;generalize hl:qO Zf=cl at *;refine xI func15 F7 λhf=>?_;refine xJ ?_;refine .go (cq hE) ?_;refine xJ ?_;refine .go (xQ.yP hP (by simp [D.xR,D.xF,hp])) ?_;refine xJ ?_;refine .go (cq hE) ?_;refine xJ ?_;refine .go (xQ.yP hL (by simp [D.xR,D.xF,hp])) ?_;refine xJ ?_;refine .go (cq hE) ?_;refine xJ ?_;refine .go (xQ.yP hG (by simp [D.xR,D.xF,hp])) ?_;refine xJ ?_;refine .go (cq hE) ?_;refine xJ ?_;refine .go (xQ.yP hI (by simp [D.xR,D.xF,hp])) ?_;refine zI ?_;refine .go (cr hS) ?_;refine xJ ?_;refine .go (cr hS) ?_;refine vR eL ?_;refine .go (cq hE) ?_;refine xJ ?_;refine .go (xQ.yP hC (by simp [D.xR,D.xF,hp])) ?_;refine xJ ?_;exact .dv
open Rs Fm Ru Te Kb
theorem WZ {p:yT} {l:List uI} (h:lD p l=true):pT p:=by obtain⟨h1,h2,h3⟩:=Tl h;exact⟨h1,h2,h3⟩
open Rs Fm Ru Te Kb
namespace Kb
theorem MY {p:yT} {F k:Nat} (hv:zz p F) (hk:k<=5) {sts:List (List (BitVec 64))} (hS:Zc p F sts k):k8 (kG p.xV sts (k+1)) p.xV.length F (k+1):=by
 have hl:=qd p.xV sts (k+1);have hR:=hv.hI;have hn:=hS.len
 have key:∀ r ∈ kG p.xV sts (k+1),∃ i,i<sts.length/\r=⟨(List.range (k+1)).map λt=>(List.range p.xV.length).map λa=>((below (oL p.xV sts (k+1) a) (tN p.xV sts a (i,t)):Nat):Int),vK sts i⟩:=λr hr=>by
  obtain⟨i,hi,rfl⟩:=List.getElem_of_mem hr;have hi':i<sts.length:=by omega
  refine⟨i,hi',?_⟩;rw [<- qc hi'];simp [List.getD,hi]
 refine⟨hv.hA.2,hv.hF,⟨by omega,by omega⟩,⟨by omega,by omega⟩,?_,?_,?_,?_,?_⟩
 ·rw [hl];have:sts.length*(k+1)<=16*6:=Nat.mul_le_mul (by omega) (by omega);omega
 ·intro r hr;obtain⟨i,hi,rfl⟩:=key r hr;simp
 ·intro r hr;obtain⟨i,hi,rfl⟩:=key r hr;exact hS.run _ (nU hi)
 ·intro r hr l hm;obtain⟨i,hi,rfl⟩:=key r hr;simp only [θ] at hm;obtain⟨t,_,rfl⟩:=hm;simp
 ·intro r hr f hm;obtain⟨i,hi,rfl⟩:=key r hr;exact hS.val _ (nU hi) f hm
end Kb
open Rs Fm Ru Te Kb
open Rs Fm Ru Te Kb
namespace Kb
section
variable {p : yT} {sts : List (List (BitVec 64))} {T : Nat}
end
end Kb
open Rs Fm Ru Te Kb
theorem Qz {rs:List wX} {A F T:Nat} (ok:k8 rs A F T):qz ⟨A,F,T,rs⟩:=by have hT:=ok.hT;have hR:=ok.hR;have hA:=ok.hA;refine⟨by show rs.length<=_; omega,λr hr=>⟨by rw [ok.ye r hr]; omega,by rw [ok.loc r hr]; omega,λl hl=>by rw [ok.row r hr l hl]; omega⟩⟩
open Rs Fm Ru Te Kb
namespace Kb
theorem WW {p:yT} {l:List uI} (h:lD p l=true):jU l:=by unfold lD at h;simp only [ω,decide_eq_true_eq,Bool.not_eq_true'] at h;refine⟨by omega,λc hc=>?_⟩;have:=List.any_eq_false.1 h.2 c hc;simp only [decide_eq_true_eq] at this;omega
theorem Tu {p:yT} {l:List uI} {k:Nat} (h:fJ p l ((k+1:Nat):Int)= true):∀ t,t<k->tQ p l (zJ p l k) t=vB p (zJ p l k) t:=by
 have ek:((k+1:Nat):Int).toNat-1=k:=by rw [Aa,ο]
 unfold fJ at h;rw [ek] at h;simp only [ω,decide_eq_true_eq,ε,δ] at h;exact h.2
end Kb
open Rs Fm Ru Te Kb
theorem YF (p:yT) (sm:pT p) (l:List uI) (sc:jU l) (n:Int):xA prog 26 [p.d,.sl 3 (qO l),.int .i64 n] (.wF [(fS p l n).d,.int .i64 (sV p l n)]):=by
 have hG:=uv p sm l sc n;have hD:p.d = .agg [.int .i64 p.F,.sl 1 (us p.init),.sl 1 (us p.xV),.sl 1 (uK p.xO),.sl 1 (uJ p.code)]:=rfl;by_cases c:sV p l n=0
 case neg=>
  have c':(sV p l n != 0)= true:=by simpa using c
  have hS:(fS p l n).d = .agg [.int .i64 0,.int .i64 0,.int .i64 0,.sl 2 []]:=by unfold fS; rw [if_pos c]; rfl
  have e2:fI p l n = .xL:=by unfold fI; rw [if_neg c]
  rw [hS];rw [e2] at hG;rw [hD] at *;refine xI func26 G9 λhf=>?_;refine zI ?_;refine .go (cr hG) ?_;refine vR c' ?_;exact .drop (by simp) (by simp [vw,vC])
 have c':(sV p l n != 0)= false:=by simpa using c
 obtain⟨F,k,hv,rfl,hk,hc,hs⟩:=iT c;have hplk:=iJ hv hc k hs;have hS71:=UR hv (sts:=zJ p l k) (T:=k+1) ⟨by omega,by omega⟩ (by rw [hplk.len]; exact hv.hI) hplk.run
 have hS:(fS p l ((k+1:Nat):Int)).d=sD p.xV.length F (k+1) (kG p.xV (zJ p l k) (k+1)):=by unfold fS;rw [if_neg (by simpa using c),Aa,ο];show D.agg [_,_,_,_]=D.agg [_,_,_,_];rw [hv.fe]
 have e2:fI p l ((k+1:Nat):Int)= .sl 1 (rr (zJ p l k)):=by unfold fI; rw [if_pos c,Aa,ο]
 rw [hS];rw [e2] at hG;generalize kG p.xV (zJ p l k) (k+1)= S at *;generalize zJ p l k=sts at *;unfold sD at *;rw [hD] at *;refine xI func26 G9 λhf=>?_;refine zI ?_;refine .go (cr hG) ?_;refine vR c' ?_;refine .go (cr hS71) ?_;refine zI ?_;exact .drop (by simp) (by simp [vw,vC]; simpa using c.symm)
theorem OF {p:yT} {l:List uI} {k:Nat} (h0:sV p l ((k+1:Nat):Int)= 0) (h:∀ t,t<k->∀ r,r<(zJ p l k).length->∀ a,a<p.xV.length->kj l a (tX p (zJ p l k) t a r)= rW p (zJ p l k) t a r):fJ p l ((k+1:Nat):Int)= true:=by unfold fJ;rw [Aa,ο,decide_eq_true h0,χ,ε];intro t ht;refine decide_eq_true ?_;unfold tQ vB jl;refine ν λa ha=>ν λr hr=>?_;exact h t (δ.1 ht) r (δ.1 hr) a (δ.1 ha)
theorem MA {p:yT} {l:List uI} {k t r a:Nat} (ht:t<k) (hr:r<(zJ p l k).length) (ha:a<p.xV.length) (h:kj l a (tX p (zJ p l k) t a r)≠ rW p (zJ p l k) t a r):fJ p l ((k+1:Nat):Int)= false:=by
 cases e:fJ p l ((k+1:Nat):Int) with
 | false=>rfl
 | true=> have hM:=Tu e t ht;have h1:=congrArg (λm:List (List Int)=>(m.getD a []).getD r 0) hM;simp only [tQ,vB,jl,List.getD,List.getElem?_map,ξ ha,ξ hr,Option.map_some,Option.getD_some] at h1;exact absurd h1 h
theorem jt (p:yT) (sm:pT p) (l:List uI) (sc:jU l) (n:Int):xA prog 28 [p.d,.sl 3 (qO l),.int .i64 n] (.wF [.bool (fJ p l n),.int .i64 (sV p l n)]):=by
 have hG:=uv p sm l sc n;have hll:=sc.len;have hD:p.d = .agg [.int .i64 p.F,.sl 1 (us p.init),.sl 1 (us p.xV),.sl 1 (uK p.xO),.sl 1 (uJ p.code)]:=rfl;by_cases c:sV p l n=0
 case neg=>
  have c':(sV p l n != 0)= true:=by simpa using c
  have e2:fI p l n = .xL:=by unfold fI; rw [if_neg c]
  have e3:fJ p l n=false:=by unfold fJ; rw [decide_eq_false c]; rfl
  rw [e3];rw [e2] at hG;rw [hD] at *;refine xI func28 GB λhf=>?_;refine zI ?_;refine .go (cr hG) ?_;refine xH c' ?_;exact .drop (by simp) (by simp [vw,vC])
 have c':(sV p l n != 0)= false:=by simpa using c
 obtain⟨F,k,hv,rfl,hk,hc,hs⟩:=iT c;have e2:fI p l ((k+1:Nat):Int)= .sl 1 (rr (zJ p l k)):=by unfold fI; rw [if_pos c,Aa,ο]
 have hS:=iJ hv hc k hs;have hyes:=@OF p l k c;have hno:=λt r a=>@MA p l k t r a
 have hsay:∀ t,t<k->∀ r,r<(zJ p l k).length->∀ a,a<p.xV.length->0<=qJ l a (tX p (zJ p l k) t a r):=λt ht r hr a ha=>by have hB:=(Ym hv hc hs (t:=t) ht).1;unfold qU at hB;exact of_decide_eq_true (ε.1 (ε.1 hB a (δ.2 ha)) r (δ.2 hr))
 have hI:=hv.hI;have hA:=hv.hA;have hlen:=hS.len;have hrun:=hS.run;have hgood:=λt ht=>hS.j0 hv (t:=t) ht (by omega);rw [e2,c] at hG;rw [c] at c' ⊢;clear e2 hS;generalize fJ p l ((k+1:Nat):Int)= ib at *;generalize zJ p l k=sts at *;have hsl:=λt ht=>RH (hgood t ht);have hpr:=λt ht a w ha hw=>P0 hv (hgood t ht) (a:=a) (w:=w) ha hw
 have hh:∀ a r t,a<p.xV.length->r<sts.length->t<=k->xA prog 79 [p.d,.sl 1 (us (vK sts r)),.int .i64 a,.int .i64 t] (.sl 1 (us (tX p sts t a r))):=λa r t ha hr ht=> rS (qk p ha (show t<(vK sts r).length by have:=hrun _ (xK (d:=[]) hr); unfold vK; omega) (by omega))
 have hch:=λa h=>@gv l hll a h;have hw2:IntKind.i64.wrap (((k+1:Nat):Int)-1)= (k:Int):=by rw [wrap_i64 (by omega)]; omega
 rw [hD] at *;refine xI func28 GB λhf=>?_;refine zI ?_;refine .go (cr hG) ?_;refine xH c' ?_
 refine xU (λt:Nat=>[(10,.int .i64 t),(8,.sl 1 (rr sts)),(3,.ref 0 5 0 0),(2,.int .i64 ((k+1:Nat):Int)),(1,.sl 3 (qO l))])
  (λ_=>⟨1,[(0,⟨5,[[.int .i64 p.F,.sl 1 (us p.init),.sl 1 (us p.xV),.sl 1 (uK p.xO),.sl 1 (uJ p.code)]]⟩)]⟩)
  (λt=>t<=k/\∀ t',t'<t->∀ r,r<sts.length->∀ a,a<p.xV.length->kj l a (tX p sts t' a r)= rW p sts t' a r) (λt=>k-t) 0 ⟨π _,λt ht=>absurd ht (τ _)⟩ ?_ ?_
 ·exact wO
 rintro t ⟨ht,hQ⟩;refine xN mixed ?_;by_cases htk:t<k
 case neg=>
  have hd:¬ ((t:Int)<(k:Int)):=by omega
  obtain rfl:t=k:=by omega
  obtain rfl:=hyes hQ;refine yO hd hw2 ?_;exact .drop (by simp) (by simp [vw,vC])
 have hd:((t:Int)<(k:Int)):=by omega
 have hsl:=hsl t ht;have hpr:=λa w ha hw=>hpr t ht a w ha hw;have hh:=λa r ha hr=>hh a r t ha hr ht;have hsay:=hsay t htk;have hno:=λr a=>hno t r a htk
 have hQ2:=λ(h:∀ r,r<sts.length->∀ a,a<p.xV.length->kj l a (tX p sts t a r)= rW p sts t a r) t' (ht':t'<t+1)=>show ∀ r,r<sts.length->∀ a,a<p.xV.length->kj l a (tX p sts t' a r)= rW p sts t' a r by
  by_cases e:t'=t
  ·rw [e]; exact h
  ·exact hQ t' (by omega)
 unfold gE kd at hsl hpr;have hll2:(wS sts.length 0).length=sts.length:=mJ _ _;rw [hll2] at hsl hpr;generalize qV (wV p.xV sts t) (wS sts.length 0) F=VV at *;generalize tJ (wV p.xV sts t) (wS sts.length 0) p.xV.length=RR at *;refine nQ hd hw2 ?_;refine .go (cr hsl) ?_;refine zI ?_
 refine xU (λi:Nat=>[(12,.int .i64 i),(11,.ref 1 3 0 0),(10,.int .i64 t),(8,.sl 1 (rr sts)),(3,.ref 0 5 0 0),(2,.int .i64 ((k+1:Nat):Int)),(1,.sl 3 (qO l))])
  (λ_=>⟨2,[(1,⟨3,[[.int .i64 sts.length,.sl 1 (us VV),.sl 1 (rr RR)]]⟩),(0,⟨5,[[.int .i64 p.F,.sl 1 (us p.init),.sl 1 (us p.xV),.sl 1 (uK p.xO),.sl 1 (uJ p.code)]]⟩)]⟩)
  (λi=>i<=sts.length/\∀ r,r<i->∀ a,a<p.xV.length->kj l a (tX p sts t a r)= rW p sts t a r) (λi=>sts.length-i) 0 ⟨π _,λt ht=>absurd ht (τ _)⟩ ?_ ?_
 ·exact wO
 rintro i ⟨hi,hQi⟩;refine xN mixed ?_;by_cases hil:i<sts.length
 case neg=>
  have hd2:¬ ((i:Int)<(sts.length:Int)):=by omega
  obtain rfl:i=sts.length:=by omega
  refine yO hd2 yZ ?_;refine⟨t+1,⟨by omega,hQ2 hQi⟩,?_,by omega⟩;exact mD [] [0]
 have hd2:((i:Int)<(sts.length:Int)):=by omega
 have hgi:=tZ sts hil;rw [show sts.getD i []=vK sts i from rfl] at hgi;have hpr:=λa ha=>hpr a i ha hil;have hh:=λa ha=>hh a i ha hil;have hsay:=hsay i hil;have hno:=λa=>hno i a hil
 have hQ3:=λ(h:∀ a,a<p.xV.length->kj l a (tX p sts t a i)= rW p sts t a i) r (hr:r<i+1)=>show ∀ a,a<p.xV.length->kj l a (tX p sts t a r)= rW p sts t a r by
  by_cases e:r=i
  ·rw [e]; exact h
  ·exact hQi r (by omega)
 generalize vK sts i=st at *;refine yO hd2 yZ ?_
 refine xU (λa:Nat=>[(13,.int .i64 a),(12,.int .i64 i),(11,.ref 1 3 0 0),(10,.int .i64 t),(8,.sl 1 (rr sts)),(3,.ref 0 5 0 0),(2,.int .i64 ((k+1:Nat):Int)),(1,.sl 3 (qO l))])
  (λ_=>⟨2,[(1,⟨3,[[.int .i64 sts.length,.sl 1 (us VV),.sl 1 (rr RR)]]⟩),(0,⟨5,[[.int .i64 p.F,.sl 1 (us p.init),.sl 1 (us p.xV),.sl 1 (uK p.xO),.sl 1 (uJ p.code)]]⟩)]⟩)
  (λa=>a<=p.xV.length/\∀ a',a'<a->kj l a' (tX p sts t a' i)= rW p sts t a' i) (λa=>p.xV.length-a) 0 ⟨π _,λt ht=>absurd ht (τ _)⟩ ?_ ?_
 ·exact wO
 rintro a ⟨ha,hQa⟩;refine xN mixed ?_;by_cases hal:a<p.xV.length
 case neg=>
  have hd3:¬ ((a:Int)<(p.xV.length:Int)):=by omega
  obtain rfl:a=p.xV.length:=by omega
  refine yO hd3 xT ?_;refine⟨i+1,⟨by omega,hQ3 hQa⟩,?_,by omega⟩;exact yL
 have hd3:((a:Int)<(p.xV.length:Int)):=by omega
 have hpr:=hpr a hal;have hh:=hh a hal;have hsay:=hsay a hal;have hno:=hno a hal
 have hQ4:=λ(h:kj l a (tX p sts t a i)= rW p sts t a i) a' (ha':a'<a+1)=>show kj l a' (tX p sts t a' i)= rW p sts t a' i by
  by_cases e:a'=a
  ·rw [e]; exact h
  ·exact hQa a' (by omega)
 have hc88:=hch a (tX p sts t a i);rw [if_pos hsay,decide_eq_true hsay] at hc88;generalize tX p sts t a i=h at *;generalize rW p sts t a i=z at *;generalize kj l a h=y at *
 by_cases e:y=z
 ·have e1:(y != z)= false:=by simpa using e
  refine rI hd3 xT hd2 yZ hgi ?_;refine .go (cr hh) ?_;refine xJ ?_;refine .go (cr hc88) ?_;refine zI ?_;refine .go (cr hpr) ?_;refine xH e1 ?_;refine⟨a+1,⟨by omega,hQ4 e⟩,?_,by omega⟩;exact yL
 ·have e1:(y != z)= true:=by simpa using e
  obtain rfl:=hno e;refine rI hd3 xT hd2 yZ hgi ?_;refine .go (cr hh) ?_;refine xJ ?_;refine .go (cr hc88) ?_;refine zI ?_;refine .go (cr hpr) ?_;refine xH e1 ?_;exact .drop (by simp) (by simp [vw,vC])
open Rs Fm Ru Te Kb
theorem Wa (p:yT) (l:List uI) (n:Int):qz (fS p l n):=by
 by_cases c:sV p l n=0
 ·obtain⟨F,k,hv,rfl,hk,hc,hs⟩:=iT c;unfold fS;rw [if_neg (by simpa using c),Aa,ο,hv.fe];exact Qz (MY hv hk (iJ hv hc k hs))
 ·unfold fS;rw [if_pos c];exact⟨π _,λr hr=>by cases hr⟩
theorem WX (p:yT) (l:List uI) (n:Int):xA prog 5 [p.d,.sl 3 (qO l),.int .i64 n] (.bool true):=by
 have hD:p.d = .agg [.int .i64 p.F,.sl 1 (us p.init),.sl 1 (us p.xV),.sl 1 (uK p.xO),.sl 1 (uJ p.code)]:=rfl;have hF:=K5 p l;have hS:=λh=>WZ (p:=p) (l:=l) h;have hT:=λh=>WW (p:=p) (l:=l) h;have hA:=Nk;have h1:=λsm sc=>lp p sm l sc n;have h2:=λsm sc=>YF p sm l sc n;have h3:=λsm sc=>yf p sm l sc n;have h4:=λsm sc=>jt p sm l sc n;have hE:=SB (fS p l n) (fS p l n) (Wa p l n);rw [decide_eq_true rfl] at hE;generalize fS p l n=S at *;generalize sV p l n=e at *;generalize fJ p l n=i at *;obtain⟨s1,s2,s3,s4⟩:=S;unfold jO.d jO.cells at *;simp only at h1 h2 hE;rw [hD] at *;generalize lD p l=b at *;refine xI func5 k5 λhf=>?_
 cases b with
 | false=> refine xJ ?_;refine .go (cq hA) ?_;refine xJ ?_;refine .go (cq hF) ?_;refine xJ ?_;refine .go (cq hA) ?_;refine xJ ?_;exact .dv
 | true=>
  have sm:=hS rfl;have sc:=hT rfl;have h1:=h1 sm sc;have h2:=h2 sm sc;have h3:=h3 sm sc;have h4:=h4 sm sc
  by_cases c6:6<p.init.length
  ·have c6':(6:Int)<(p.init.length:Int):=by omega
   refine xJ ?_;refine .go (cq hA) ?_;refine xJ ?_;refine .go (cq hF) ?_;refine yO xT c6' ?_;refine .go (cq hA) ?_;refine xJ ?_;exact .dv
  have c6':¬ (6:Int)<(p.init.length:Int):=by omega
  refine xJ ?_;refine .go (cq hA) ?_;refine xJ ?_;refine .go (cq hF) ?_;refine yO xT c6' ?_;refine .go (cq h1) ?_;refine zI ?_;refine .go (cq h2) ?_;refine zI ?_;refine .go (cq h3) ?_;refine zI ?_;refine .go (cq h4) ?_;refine zI ?_;refine .go (cq hE) ?_;refine zI ?_;exact .dv
end Go.Pd
