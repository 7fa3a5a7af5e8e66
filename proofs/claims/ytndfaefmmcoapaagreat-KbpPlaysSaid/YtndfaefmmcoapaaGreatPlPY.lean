/- Part PY. -/
import Derived.Test.YtndfaefmmcoapaaGreatPlPI
import Derived.Test.YtndfaefmmcoapaaGreatPlLF
import Derived.Test.YtndfaefmmcoapaaGreatPlSC
import Derived.Test.YtndfaefmmcoapaaGreatPlKI
set_option linter.unusedSectionVars false
set_option linter.unusedVariables false
set_option linter.unusedSimpArgs false
set_option linter.defProp false
set_option maxRecDepth 20000
set_option maxHeartbeats 1000000
open Go.Proofs.Tryz
open List renaming length_map->γ,drop_eq_nil_of_le->δ,mem_map->ε,mem_range->ζ,take_of_length_le->η,range'->θ,pairwise_cons->κ,all_eq_true->μ,take_take->ν,map_congr_left->ξ,getElem_of_mem->ο,length_append->π,length_take->τ
open Nat renaming add_sub_cancel->υ,zero_le->χ,le_refl->ψ,mul_le_mul->ω,not_lt_zero->Aa
open Bool renaming false_and->Ab,true_and->Ac,and_false->Ad
open Int renaming toNat_natCast->Ae
namespace Go.Pd
open Go Go.Proofs
open BitVec renaming isValue -> ZA
open Rs Fm Ru Te Kb
namespace Kb
theorem Tq {V:List (List D)} {ess:List (List (List D))}:fR (yX (1+ess.length) 1 V++lD ess) 0 (θ 1 ess.length) ess where
 out:=by rw [wW,if_neg (by omega)]; exact(lP ess).out
 len:=(lP ess).len
 each:=λi hi=>by
  have e:(θ 1 ess.length).getD i 0=1+i:=by simp [List.getD,hi]
  have:=(lP ess).each i hi;rw [e] at this ⊢;rw [wW,if_neg (by omega)];exact this
theorem PF {l:List (BitVec 64)}:∀ r ∈ us l,r.length=1:=λr hr=>by simp only [us,ε] at hr;obtain⟨x,_,rfl⟩:=hr;rfl
theorem NY {l:List (BitVec 64)}:∀ r ∈ us l,D.Zm r=true:=λr hr=>by simp only [us,ε] at hr;obtain⟨x,_,rfl⟩:=hr;simp [D.Zm,D.fl]
theorem Wb {c k nx n:Nat} {V:List (List D)} {ob r:List (Nat × Ob)} (hV:V ≠ []->St.look ob k=some ⟨1,V⟩) (hp:∀ e ∈ V,e.length=1/\D.xR e=true) (hc:n<=c):Seen ⟨nx,yG c ob++r⟩ (λk=>k<n) ((xD k 1 V).shift c) (.sl 1 V):=by
 cases V with
 | nil=>exact Seen.nil 1
 | cons a b=> show Seen _ _ (.yD (c+k) 1 (a :: b).length) _;refine Seen.rows (sz:=1) ?_ (by show ¬ (c+k<n); omega) (by decide) rfl (λe he=>(hp e he).1) λe he=>(hp e he).2;show St.look (yG c ob++r) (c+k)= _;rw [sM,nD c (hV (by simp))];show some (Ob.shift c _)= _;unfold Ob.shift;rw [kR c λe he=>(hp e he).2]
end Kb
theorem nk {p:yT} {F:Nat} {sts:List (List (BitVec 64))} {t:Nat} (ok:W6 p F sts t) {args:List D} {nx:Nat} {ob:List (Nat × Ob)} (hl:mT ⟨nx,ob⟩ (λ_=>False) args [p.d,.sl 1 (rr sts),.int .i64 t]) :
  xP prog 78 args ⟨nx,ob⟩ (lB p.xW sts t F) ⟨nx+(2+p.xW.length),ob⟩:=by
 have hll:(wX sts.length 0).length=sts.length:=oE _ _;have hA:((V6 p.xW sts t).map us).length=p.xW.length:=by simp [V6,tP]
 have hN:=fR.shift (c:=nx) (r:=ob) (Tq (V:=us (jv p.xW sts t F)) (ess:=(V6 p.xW sts t).map us)) Xn;have hpV:∀ e ∈ us (jv p.xW sts t F),e.length=1/\D.xR e=true:=λe he=>⟨PF e he,vD _ e he⟩
 have hG:=Wb (c:=nx) (k:=1+p.xW.length) (nx:=nx+(2+p.xW.length)) (n:=nx) (V:=us (jv p.xW sts t F)) (ob:=yX (1+p.xW.length) 1 (us (jv p.xW sts t F))++ lD ((V6 p.xW sts t).map us)) (r:=ob)
  (λh=>by rw [lO h]; show St.look (_ :: _) _=_; rw [xX,if_pos rfl]) hpV (ψ _)
 rw [hA] at hN
 refine xP.pb (UP ok) hl ?_ ?_ ?_
 ·generalize us (jv p.xW sts t F)= V;cases V <;> simp [D.fl,xD]
 ·intro q hq e he
  rcases List.mem_append.1 hq with hq | hq
  ·have h:q.2.xV=us (jv p.xW sts t F):=by
    generalize us (jv p.xW sts t F)= V at hq
    cases V with
    | nil=>cases hq
    | cons a b=>rw [List.mem_singleton.1 hq]
   rw [h] at he;exact NY e he
  ·refine u6 (λe he r hr=>?_) q hq e he;simp only [ε] at he;obtain⟨x,_,rfl⟩:=he;exact NY r hr
 ·have hS:=fR.seen (nx:=nx+(2+p.xW.length)) (K:=λk=>k<nx) (n:=p.xW.length) hN hA.symm (by show ¬ (nx+0<nx); omega) (λk hk=>by simp only [ε] at hk;obtain⟨j,_,rfl⟩:=hk;omega) iF
  rw [ZM] at hS;unfold lB rh;rw [hll];exact Seen.agg ⟨.pure rfl,hG,hS,trivial⟩
theorem RH {p:yT} {F:Nat} {sts:List (List (BitVec 64))} {t:Nat} (ok:W6 p F sts t):xA prog 78 [p.d,.sl 1 (rr sts),.int .i64 t] (lB p.xW sts t F):= xP.ret (nk (nx:=0) (ob:=[]) ok ⟨.pure (by simp [yT.d,yT.cells,D.xR,D.xF]),.pure (by simp [D.xF]),.pure rfl,trivial⟩) (.drop (χ _) (by simp [lB,rh,vw,uK]))
namespace Kb
structure RN (p : yT) (sts : List (List (BitVec 64))) (nx : Nat) (ks : List Nat) (xZ : List (Nat × Ob)) : Prop where
 lF:fR xZ 1 ks (sts.map us)
 nd:ks.Nodup
 ss:1 ∉ ks
 xs:0 ∉ ks
 lt:∀ k ∈ ks,k<nx
 n2:2<=nx
 bx:St.look xZ 0=some ⟨5,[[.int .i64 p.F,.sl 1 (us p.init),.sl 1 (us p.xW),.sl 1 (uH p.xO),.sl 1 (uG p.code)]]⟩
theorem RN.step {p:yT} {sts:List (List (BitVec 64))} {mv:List (List Int)} {r nx:Nat} {ks:List Nat} {xZ:List (Nat × Ob)} (h:RN p (nA p sts mv r) nx ks xZ) (hr:r<sts.length) {m:Nat} (hm:nx<=m) {ob:List (Nat × Ob)}
  (hout:St.look ob 1=some ⟨1,(vS ks ((nA p sts mv r).map us)).set r [.yD m 1 ((vQ sts r).length+1)]⟩) (hnew:St.look ob m=some ⟨1,us (vQ sts r ++ [zz p sts mv r])⟩)
  (hold:∀ k,k<nx->k≠1->k≠ks.getD r 0->St.look ob k=St.look xZ k):RN p (nA p sts mv (r+1)) (m+1) (ks.set r m) ob:=by
 have hl:=h.lF.len;rw [γ,yN] at hl;have hn2:=h.n2;have hmk:m ∉ ks:=λhk=>by have:=h.lt m hk; omega
 have hmr:=vI (l:=ks) (i:=r) (by omega)
 refine⟨?_,fz h.nd hmk,λhk=>?_,λhk=>?_,λk hk=>?_,by omega,?_⟩
 ·have hsl:(nA p sts mv r).length=sts.length:=yN
  refine⟨?_,by rw [List.length_set,γ,yN]; exact hl,λi hi=>?_⟩
  ·have:=XK h.lF.len (i:=r) (by rw [γ,yN]; exact hr) m (us (vQ sts r ++ [zz p sts mv r]));rw [xT,π,List.length_singleton,Xi hr] at this;rw [hout,this]
  ·rw [γ,yN] at hi;rw [Xe (by omega)]
   by_cases e:r=i
   ·subst e;rw [if_pos rfl,hnew,uO (by rw [yN]; exact hi),nK hi,if_pos (by omega)]
   ·rw [if_neg e,hold _ (h.lt _ (vI (by omega))) (λc=>h.ss (c ▸ vI (by omega))) λc=>e (xq h.nd (by omega) (by omega) c.symm)];have:=h.lF.each i (by rw [γ,yN]; exact hi);rw [this,uO (by rw [yN]; exact hi),uO (by rw [yN]; exact hi),nK hi,nK hi]
    by_cases c:i<r
    ·rw [if_pos c,if_pos (by omega)]
    ·rw [if_neg c,if_neg (by omega)]
 ·rcases pR hk with e | e
  ·omega
  ·exact h.ss e
 ·rcases pR hk with e | e
  ·omega
  ·exact h.xs e
 ·rcases pR hk with e | e
  ·omega
  ·have:=h.lt k e; omega
 ·rw [hold 0 (by omega) (by decide) λe=>h.xs (e ▸ hmr)];exact h.bx
structure Na where
 t:Nat
 nx:Nat
 ks:List Nat
 xZ:List (Nat × Ob)
end Kb
theorem Kb.RN.seen {p:yT} {sts:List (List (BitVec 64))} {nx:Nat} {ks:List Nat} {xZ:List (Nat × Ob)} (h:RN p sts nx ks xZ) {n:Nat} (hn:n=sts.length):Seen ⟨nx,xZ⟩ (λ_=>False) (.yD 1 1 n) (.sl 1 (rr sts)):=by
 have:=fR.seen (nx:=nx) (K:=λ_=>False) (n:=n) h.lF (by rw [γ]; exact hn) (λh=>h) (λ_ _ h=>h) iF
 rwa [ZM] at this
theorem Kb.RN.zL {p:yT} {sts:List (List (BitVec 64))} {nx n2:Nat} {ks:List Nat} {xZ ob:List (Nat × Ob)} (h:RN p sts nx ks xZ) (hn:nx<=n2) (ho:∀ k,k<nx->St.look ob k=St.look xZ k):RN p sts n2 ks ob where
 lF:=⟨(ho 1 (by have:=h.n2; omega)).trans h.lF.out,h.lF.len,λi hi=>(ho _ (h.lt _ (vI (by have:=h.lF.len; omega)))).trans (h.lF.each i hi)⟩
 nd:=h.nd
 ss:=h.ss
 xs:=h.xs
 lt:=λk hk=>by have:=h.lt k hk; omega
 n2:=by have:=h.n2; omega
 bx:=(ho 0 (by have:=h.n2; omega)).trans h.bx
theorem UI {p:yT} {sts:List (List (BitVec 64))} {t a r:Nat} (ha:a<p.xW.length) (hr:r<sts.length):((vE p sts t).map λm=>m.getD r 0).getD a 0=sC p sts t a r:=by simp [vE,List.getD,ha,hr]
theorem Vk : Sm:=by
 intro p F hv n hn;have hB:=UQ hv;have hI:=hv.hI;have hA:=hv.hA;have hD:p.d = .agg [.int .i64 p.F,.sl 1 (us p.init),.sl 1 (us p.xW),.sl 1 (uH p.xO),.sl 1 (uG p.code)]:=rfl;have hw:IntKind.i64.wrap (((n+1:Nat):Int)-1)= (n:Int):=by rw [wrap_i64 (by omega)]; omega
 have hB1:=xP.own (σ:=⟨1,[(0,⟨5,[p.cells]⟩)]⟩) hB (by simp [D.xR,D.xF,yT.d,yT.cells]);have hlen:=λt=>pk hv t;have hpr:=λ(m a w:Nat) (t:Nat) (ht:t<=n) (ha:a<p.xW.length) (hw:w<(yK p t).length)=>Vl hv ((qD hv t).jo hv (ψ t) (by omega)) ha hw;have hsl:=λt (ht:t<=n)=>@nk p F (yK p t) t ((qD hv t).jo hv (ψ t) (by omega));have hnx:=λ(s:BitVec 64) (hs:s >>> F=0#64) (mv:List Int) hl hmv=>RF hv hs (mv:=mv) hl hmv;unfold yT.cells at hB1;rw [hD] at *;refine xI func72 Fk λhf=>?_;refine zC ?_;refine .go hB1 ?_;have hbl:(pY p).length=p.init.length:=by simp [pY]
 have hN0:=fR.shift (c:=1) (r:=[(0,⟨5,[[.int .i64 p.F,.sl 1 (us p.init),.sl 1 (us p.xW),.sl 1 (uH p.xO),.sl 1 (uG p.code)]]⟩)]) (lP ((pY p).map us)) λe he r hr=>(iF e he r hr).2
 have hks0:∀ k ∈ ((θ 1 ((pY p).map us).length).map (1 + ·)),2<=k/\k<1+(1+p.init.length):=λk hk=>by simp only [ε,List.mem_range'_1,γ,hbl] at hk;obtain⟨j,hj,rfl⟩:=hk;omega
 have hR0:RN p (yK p 0) (1+(1+p.init.length)) ((θ 1 ((pY p).map us).length).map (1 + ·)) (yG 1 (lD ((pY p).map us))++ [(0,⟨5,[[.int .i64 p.F,.sl 1 (us p.init),.sl 1 (us p.xW),.sl 1 (uH p.xO),.sl 1 (uG p.code)]]⟩)]):=
  ⟨hN0,by
   refine List.Pairwise.map _ (λa b h=>?_) List.nodup_range';omega,λh=>by have:=hks0 1 h; omega,λh=>by have:=hks0 0 h; omega,λk hk=>(hks0 k hk).2,by omega,by
   rw [sM,bS 1 (by omega)]; rfl⟩
 refine xG hw ?_
 refine sZ (λx:Na=>[(6,.int .i64 x.t),(5,.yD 1 1 p.init.length),(2,.ref 0 5 0 0),(1,.int .i64 ((n+1:Nat):Int))]) (λx:Na=>⟨x.nx,x.xZ⟩) (λx:Na=>RN p (yK p x.t) x.nx x.ks x.xZ/\x.t<=n) (λx:Na=>n-x.t)
  ⟨0,1+(1+p.init.length),(θ 1 ((pY p).map us).length).map (1 + ·),yG 1 (lD ((pY p).map us))++ [(0,⟨5,[[.int .i64 p.F,.sl 1 (us p.init),.sl 1 (us p.xW),.sl 1 (uH p.xO),.sl 1 (uG p.code)]]⟩)]⟩ ⟨hR0,χ _⟩ ?_ ?_
 ·(refine yR.same ?_; simp only [yS,Fr.get,simprocAttr,-ZA,zS,D.shift])
  all_goals rfl
 rintro ⟨t,nx,ks,xZ⟩ ⟨hR,ht⟩;simp only at hR ht;refine xN mixed ?_;have hl:=hlen t;have hb:=hR.bx;have hn2:=hR.n2;by_cases htn:t<n
 case neg=>
  have hd:¬ ((t:Int)<(n:Int)):=by omega
  obtain rfl:t=n:=by omega
  refine yM hd hw ?_
  refine .go [(5,.sl 1 (rr (yK p t)))] ⟨nx,[]⟩ ?_ ?_
  ·refine yR.deep (λ_=>False) trivial ⟨.inr ?_,trivial⟩;exact hR.seen hl.symm
  refine xJ ?_;exact .dv
 have hd:((t:Int)<(n:Int)):=by omega
 have hS:=qD hv t;have hsl0:=λargs=>@hsl t ht args nx xZ;have hpr:=λa w ha hw=>hpr 0 a w t ht ha hw
 have hc78:xP prog 78 [.agg [.int .i64 p.F,.sl 1 (us p.init),.sl 1 (us p.xW),.sl 1 (uH p.xO),.sl 1 (uG p.code)],.yD 1 1 p.init.length,.int .i64 t] ⟨nx,xZ⟩ (lB p.xW (yK p t) t F) ⟨nx+(2+p.xW.length),xZ⟩:= hsl0 _ ⟨.pure (by simp [D.xR,D.xF]),hR.seen hl.symm,.pure rfl,trivial⟩
 have hnext:yK p (t+1)= nP p (yK p t) (vE p (yK p t) t):=rfl;have hpm:=λa r ha hr=>@UI p (yK p t) t a r ha hr;have hmvl:=iU p (yK p t) t;have hmvr:=@wv p (yK p t) t;have hmvt:=@pn p F hv (yK p t) t;unfold lB rh at hc78 hpr;have hll:(wX (yK p t).length 0).length=(yK p t).length:=oE _ _;rw [hll] at hc78 hpr;generalize rG (zA p.xW (yK p t) t) (wX (yK p t).length 0) F=VV at *;generalize tP (zA p.xW (yK p t) t) (wX (yK p t).length 0) p.xW.length=RR at *;generalize vE p (yK p t) t=mv at *;generalize yK p t=sts at *;generalize hkM:nx+(2+p.xW.length)= kM at hc78;refine sT hd hw hb ?_;refine .go hc78 ?_;refine wA hb ?_
 refine xU (λx:Na=>[(8,.int .i64 x.t),(7,.ref kM 3 0 0),(6,.int .i64 t),(5,.yD 1 1 p.init.length),(2,.ref 0 5 0 0),(1,.int .i64 ((n+1:Nat):Int))]) (λx:Na=>⟨x.nx,x.xZ⟩)
  (λx:Na=>RN p (nA p sts mv x.t) x.nx x.ks x.xZ/\x.t<=sts.length/\kM<x.nx/\kM ∉ x.ks/\St.look x.xZ kM=some ⟨3,[[.int .i64 sts.length,.sl 1 (us VV),.sl 1 (rr RR)]]⟩) (λx:Na=>sts.length-x.t)
  ⟨0,kM+1,ks,(kM,⟨3,[[.int .i64 sts.length,.sl 1 (us VV),.sl 1 (rr RR)]]⟩) :: xZ⟩
  ⟨by show RN p (nA p sts mv 0) _ _ _; rw [ic]; exact hR.zL (by show nx<=kM+1; omega) λk hk=>by show St.look (_ :: xZ) k=_; rw [xX,if_neg (by omega)],χ _,by show kM<kM+1; omega,λh=>by have:=hR.lt _ h; omega,by show St.look (_ :: xZ) kM=_; rw [xX,if_pos rfl]⟩ ?_ ?_
 ·exact wE
 rintro ⟨r,n1,ks1,ob1⟩ ⟨hR1,hr,hk1,hkm,hM⟩;simp only at hR1 hr hk1 hkm hM;refine xN mixed ?_;by_cases hrl:r<sts.length
 case neg=>
  have hd1:¬ ((r:Int)<(p.init.length:Int)):=by omega
  rw [Xh (by omega),<- hnext] at hR1;refine xG hd1 ?_;refine⟨⟨t+1,n1,ks1,ob1⟩,⟨hR1,by show t+1<=n; omega⟩,?_,by show n-(t+1)<n-t; omega⟩;exact yH
 have hd1:((r:Int)<(p.init.length:Int)):=by omega
 have hb1:=hR1.bx;have hnl:=hR1.lF.len;rw [γ,yN] at hnl;have hnr:=uY hR1.lF.len;rw [γ,yN] at hnr;have hgr:=oS hR1.lF.len (i:=r) (by rw [γ,yN]; exact hrl);have hst:=nK (p:=p) (mv:=mv) (r:=r) hrl;rw [if_neg (Nat.lt_irrefl r)] at hst;rw [uO (by rw [yN]; exact hrl),hst,xT] at hgr;have hkr:=hR1.lF.each r (by rw [γ,yN]; exact hrl);rw [uO (by rw [yN]; exact hrl),hst] at hkr;have hmem:=vI (l:=ks1) (i:=r) (by omega);have hkr0:ks1.getD r 0≠0:=λe=>hR1.xs (e ▸ hmem);have hkr1:ks1.getD r 0≠1:=λe=>hR1.ss (e ▸ hmem);have hkrM:ks1.getD r 0≠kM:=λe=>hkm (e ▸ hmem);have hkrn:=hR1.lt _ hmem;have hout:=hR1.lF.out;have hn21:=hR1.n2;have hstep:=λm hm ob=>@RN.step p sts mv r n1 ks1 ob1 hR1 hrl m hm ob;have hnw:zz p sts mv r=e8 p (vm (vQ sts r)) (mv.map λm=>m.getD r 0):=rfl;have hLr:(vQ sts r).length=t+1:=hS.run _ (qE hrl);have hvr:=hS.val _ (qE hrl);have hlE:vm (vQ sts r)= (vQ sts r).getD t 0:=by unfold vm; rw [hLr,υ]
 rw [hlE] at hnw;have hls:=hvr ((vQ sts r).getD t 0) (xK (by omega));have hgl:=zX (vQ sts r) (show t<_ by omega)
 have hnext126:=hnx _ hls (mv.map λm=>m.getD r 0) (by rw [γ]; omega) λk hk=>by simp only [ε] at hk;obtain⟨m,hm,rfl⟩:=hk;exact hmvt m hm _ (xK (by rw [hmvr m hm]; exact hrl))
 rw [<- hnw] at hnext126
 have hpr:∀ a,a<p.xW.length->xA prog 80 [.agg [.int .i64 p.F,.sl 1 (us p.init),.sl 1 (us p.xW),.sl 1 (uH p.xO),.sl 1 (uG p.code)],.agg [.int .i64 sts.length,.sl 1 (us VV),.sl 1 (rr RR)],.int .i64 a,.int .i64 r] (.int .i64 ((mv.map λm=>m.getD r 0).getD a 0)):=λa ha=>by rw [hpm a r ha hrl]; exact hpr a r ha hrl
 have hown:(mv.map λm=>m.getD r 0).length=p.xW.length:=by rw [γ]; exact hmvl
 generalize zz p sts mv r=y at *;generalize (mv.map λm=>m.getD r 0)= own at *;generalize nA p sts mv r=sk at *;generalize ks1.getD r 0=kr at *;generalize vQ sts r=st at *;generalize st.getD t 0=s at *;refine xG hd1 ?_
 refine xU (λx:OP=>[(10,.int .i64 x.j),(9,wI x.kW x.j),(8,.int .i64 r),(7,.ref kM 3 0 0),(6,.int .i64 t),(5,.yD 1 1 p.init.length),(2,.ref 0 5 0 0),(1,.int .i64 ((n+1:Nat):Int))]) (λx=>⟨x.m,x.ob⟩)
  (IO ob1 n1 own) (λx=>p.xW.length-x.j) ⟨0,n1,0,ob1⟩ ⟨χ _,ψ _,λh=>absurd rfl h,λ_ _=>rfl⟩ ?_ ?_
 ·(refine yR.same ?_; simp [yS,Fr.get,wI])
 rintro ⟨j,m,kW,ob⟩ ⟨hj,hm,hkW,hold⟩;simp only at hj hm hkW hold;have g0:=(hold 0 (by omega)).trans hb1;have g1:=(hold 1 (by omega)).trans hout;have g2:=(hold kr hkrn).trans hkr;have gM:=(hold kM hk1).trans hM;refine xN mixed ?_;by_cases hjl:j<p.xW.length
 case pos=>
  have hd2:((j:Int)<(p.xW.length:Int)):=by omega
  have htk:=yC (d:=0) (show j<own.length by omega);have hpr:=hpr j hjl;generalize own.getD j 0=z at *
  by_cases hj0:j=0
  ·subst hj0;have hd20:(0:Int)<(p.xW.length:Int):=by omega
   unfold wI;refine uC hd20 xT g0 gM ?_;refine .go (cr hpr) ?_;refine zC ?_
   refine⟨⟨0+1,m+1,m,(m,⟨1,[[.int .i64 z]]⟩) :: ob⟩,⟨by show 0+1<=_; omega,by show n1<=m+1; omega,λ_=>⟨hm,by show m<m+1; omega,?_⟩,λk hk=>by show St.look ((m,_) :: ob) k=_; rw [xX,if_neg (by omega)]; exact hold k hk⟩,?_,by show p.xW.length-(0+1)<_; omega⟩
   ·show St.look ((m,_) :: ob) m=_;rw [xX,if_pos rfl];show _=some (Ob.mk 1 (rows .i64 (own.take (0+1))));rw [htk]; rfl
   ·(refine yR.same ?_; simp only [yS,Fr.get,simprocAttr,-ZA,zS,Nat.zero_add,Nat.one_ne_zero])
    all_goals rfl
  ·obtain⟨w1,w2,w3⟩:=hkW hj0;have hol:(own.take j).length=j:=by rw [τ]; omega
   unfold wI;rw [if_neg hj0];have q1:¬ (m=kW):=by omega
   have htt:(own.take j).take j=own.take j:=by rw [ν,Nat.min_self]
   refine uC hd2 xT g0 gM ?_;refine .go (cr hpr) ?_;refine uC yV w3 hol htt ?_
   refine⟨⟨j+1,m+1,m,(m,⟨1,rows .i64 (own.take j ++ [z])⟩) :: yO ob kW⟩,⟨by show j+1<=_; omega,by show n1<=m+1; omega,λ_=>⟨hm,by show m<m+1; omega,?_⟩,λk hk=>by show St.look ((m,_) :: yO ob kW) k=_; rw [xX,if_neg (by omega),xE,if_neg (by omega)]; exact hold k hk⟩,?_,by show p.xW.length-(j+1)<_; omega⟩
   ·show St.look ((m,_) :: _) m=_;rw [xX,if_pos rfl];show _=some (Ob.mk 1 (rows .i64 (own.take (j+1))));rw [htk]
   ·simp only [Nat.add_one_ne_zero,↓reduceIte];exact yH
 have hd2:¬ ((j:Int)<(p.xW.length:Int)):=by omega
 obtain rfl:j=p.xW.length:=by omega
 have hj0:p.xW.length≠0:=by omega
 obtain⟨w1,w2,w3⟩:=hkW hj0;unfold wI;rw [if_neg hj0];have how:own.take p.xW.length=own:=η (by omega);rw [how] at w3
 have hcall:xP prog 126 [.agg [.int .i64 p.F,.sl 1 (us p.init),.sl 1 (us p.xW),.sl 1 (uH p.xO),.sl 1 (uG p.code)],.int .u64 (ui s),.yD kW 1 p.xW.length] ⟨m,ob⟩ (.int .u64 (ui y)) ⟨m,ob⟩:=
  xP.Ss hnext126 ⟨.pure (by simp [D.xR,D.xF]),.pure rfl,Seen.rows w3 (λh=>h) (by decide) (by rw [yV]; omega) (λe he=>by simp only [rows,ε] at he;obtain⟨x,_,rfl⟩:=he;rfl) (qV _ _),trivial⟩ rfl
 have hlt2:((t:Int)<(st.length:Int)):=by omega
 have hlt3:t<st.length:=by omega
 have hri:(r:Int)<(p.init.length:Int):=by omega
 refine NW hd2 xT g0 g1 g2 hgr hgl hlt2 hlt3 hnr hd1 ?_;refine aD.go hcall ?_;have e0:=(show St.look (yO ob kr) 0=St.look ob 0 by rw [xE,if_neg hkr0]).trans g0;have e1:=(show St.look (yO ob kr) 1=St.look ob 1 by rw [xE,if_neg hkr1]).trans g1;have q0:¬ (m=0):=by omega
 have q1:¬ (m=1):=by omega
 have q2:¬ (m=kr):=by omega
 have htk:(us st).take st.length=us st:=η (by rw [xT]; exact ψ _);refine T5 g0 g1 g2 e0 e1 q0 q1 q2 xT htk hnr hgr hd1 tl ?_
 refine⟨⟨r+1,m+1,ks1.set r m,(m,⟨1,us (st ++ [y])⟩) :: zG (yO ob kr) 1 ⟨1,(vS ks1 (sk.map us)).set r [.yD m 1 (st.length+1)]⟩⟩,⟨hstep m hm _ ?_ ?_ λk hk h1 h2=>?_,by show r+1<=_; omega,by show kM<m+1; omega,λh=>?_,?_⟩,?_,by show sts.length-(r+1)<_; omega⟩
 ·rw [xX,if_neg q1,xQ,if_pos rfl,e1]; rfl
 ·rw [xX,if_pos rfl]
 ·rw [xX,if_neg (by omega),xQ,if_neg (λe=>h1 e.symm),xE,if_neg (λe=>h2 e.symm)];exact hold k hk
 ·rcases pR h with e | e
  ·omega
  ·exact hkm e
 ·show St.look (_ :: zG _ 1 _) kM=_;rw [xX,if_neg (by omega),xQ,if_neg (by omega),xE,if_neg hkrM];exact gM
 ·exact yH
open Rs Fm Ru Te Kb
theorem YE (hplay:Sm) (p:yT) (sm:oY p) (n:Int):xA prog 22 [p.d,.int .i64 n] (.wH [.sl 3 (pQ (mU p n)),.int .i64 (rJ p n)]):=by
 have hQ:=Vj hplay p sm n;have hpd:p.d = .agg [.int .i64 p.F,.sl 1 (us p.init),.sl 1 (us p.xW),.sl 1 (uH p.xO),.sl 1 (uG p.code)]:=rfl;obtain⟨s1,s2,s3,s4⟩:=qM p n;unfold jW.d at hQ;by_cases c:rJ p n=0
 case neg=>
  have c':(rJ p n != 0)= true:=by simpa using c
  have hD:mU p n = []:=by unfold mU; rw [if_pos c]
  rw [hD,sg];rw [hpd] at *;refine xI func22 k22 λhf=>?_;refine zC ?_;refine .go (cr hQ) ?_;refine wA c' ?_;exact .drop (by simp) (by simp [vw,uK])
 have c':(rJ p n != 0)= false:=by simpa using c
 obtain⟨F,k,hv,rfl,hk⟩:=qI c;have hP:=hplay hv (n:=k) (by omega);have hS:=qD hv k
 have hD:mU p ((k+1:Nat):Int)= gC p (yK p k) k:=by unfold mU;rw [if_neg (by simpa using c),Ae,υ]
 rw [hD];have hlen:=hS.len;have hI:=hv.hI;have hA:=hv.hA;have hrun:=hS.run;have hgood:=λt ht=>hS.jo hv (t:=t) ht (by omega);generalize yK p k=sts at *;have hsl:=λt ht=>RH (hgood t ht);have hpr:=λt ht a w ha hw=>Vl hv (hgood t ht) (a:=a) (w:=w) ha hw
 have hha:∀ a,a<p.xW.length->xA prog 77 [p.d,.sl 1 (rr sts),.int .i64 a,.int .i64 k] (.sl 1 (sU (rD p.xW sts k a))):=λa ha=>by
  have:=Vi (p:=p) (sts:=sts) (T:=k) ha (by omega) (by omega) λst hs=>by rw [hrun st hs]; omega
  by_cases h0:k=0
  ·subst h0; rw [bz]; exact this
  ·rwa [s8 (by omega)] at this
 have hh:∀ a r t,a<p.xW.length->r<sts.length->t<=k->xA prog 79 [p.d,.sl 1 (us (vQ sts r)),.int .i64 a,.int .i64 t] (.sl 1 (rows .u64 (vV p.xW sts a (r,t)))):=λa r t ha hr ht=>by have:=rV (x8 p ha (show t<(vQ sts r).length by have:=hrun _ (xK (d:=[]) hr); unfold vQ; omega) (by omega));rw [qF (uQ _ _ _ _)] at this;exact this
 have hw2:IntKind.i64.wrap (((k+1:Nat):Int)-1)= (k:Int):=by rw [wrap_i64 (by omega)]; omega
 rw [hpd] at hQ hP hsl hpr hha hh ⊢;refine xI func22 k22 λhf=>?_;refine zC ?_;refine .go (cr hQ) ?_;refine wA c' ?_;refine .go (cr hP) ?_;refine xJ ?_
 refine xU (λa:Nat=>[(10,.int .i64 a),(9,xD 1 3 (pQ ((List.range a).flatMap (rQ p sts k)))),(8,.sl 1 (rr sts)),(2,.ref 0 5 0 0),(1,.int .i64 ((k+1:Nat):Int))])
  (λa=>⟨2,yX 1 3 (pQ ((List.range a).flatMap (rQ p sts k)))++ [(0,⟨5,[[.int .i64 p.F,.sl 1 (us p.init),.sl 1 (us p.xW),.sl 1 (uH p.xO),.sl 1 (uG p.code)]]⟩)]⟩) (λa=>a<=p.xW.length) (λa=>p.xW.length-a) 0 (χ _) ?_ ?_
 ·(refine sS [] [0] ?_; simp only [wY,zQ,simprocAttr,-ZA,exists_eq_left',ne_eq,zR,List.range_zero,List.flatMap_nil,sg,yA,yB,List.nil_append])
 intro a ha;refine xN mixed ?_;by_cases hal:a<p.xW.length
 case neg=>
  have hd:¬ ((a:Int)<(p.xW.length:Int)):=by omega
  obtain rfl:a=p.xW.length:=by omega
  refine yM hd xT ?_;rw [show (List.range p.xW.length).flatMap (rQ p sts k)= gC p sts k from rfl,c]
  (refine sJ.W7 [] [] (by simp) (by simp) (by decide) ?_; simp only [wY,zQ,simprocAttr,-ZA,exists_eq_left',ne_eq,zR,qU])
 have hd:((a:Int)<(p.xW.length:Int)):=by omega
 have h73:=hha a hal;have hsu:(List.range (a+1)).flatMap (rQ p sts k)= (List.range a).flatMap (rQ p sts k)++ rQ p sts k a:=by rw [List.range_succ,List.flatMap_append]; simp
 have hla:((List.range a).flatMap (rQ p sts k)).length<=4*(16*5):=by have h1:=wz (p:=p) (sts:=sts) (T:=k) (n:=a);have h2:sts.length*k<=16*5:=ω (by omega) hk;have h3:a*(sts.length*k)<=4*(16*5):=ω (by omega) h2;omega
 have hpa:rQ p sts k a=(rD p.xW sts k a).map (nO p sts a):=rfl;rw [hpa] at hsu
 have hlk:(rD p.xW sts k a).length<=16*5:=by have h1:=nu p.xW sts k a;have h2:sts.length*k<=16*5:=ω (by omega) hk;omega
 have hmm:=λh (hm:h ∈ rD p.xW sts k a)=>aY hm (λst hs=>by rw [hrun st hs]; omega);have hms:=λh (hm:h ∈ rD p.xW sts k a)=>iY.1 hm;generalize rD p.xW sts k a=hs at *;generalize (List.range a).flatMap (rQ p sts k)= L at *;refine sT hd hw2 xT ?_;refine .go (cr h73) ?_;refine xJ ?_
 refine xU (λj:Nat=>[(12,.int .i64 j),(11,.sl 1 (sU hs)),(10,.int .i64 a),(9,xD 1 3 (pQ (L++(hs.take j).map (nO p sts a)))),(8,.sl 1 (rr sts)),(2,.ref 0 5 0 0),(1,.int .i64 ((k+1:Nat):Int))])
  (λj=>⟨2,yX 1 3 (pQ (L++(hs.take j).map (nO p sts a)))++ [(0,⟨5,[[.int .i64 p.F,.sl 1 (us p.init),.sl 1 (us p.xW),.sl 1 (uH p.xO),.sl 1 (uG p.code)]]⟩)]⟩) (λj=>j<=hs.length) (λj=>hs.length-j) 0 (χ _) ?_ ?_
 ·rw [List.take_zero,List.map_nil,List.append_nil];exact yf [] [1,0] qU
 intro j hj;refine xN mixed ?_;by_cases hjl:j<hs.length
 case neg=>
  have hd2:¬ ((j:Int)<(hs.length:Int)):=by omega
  rw [η (by omega),<- hsu];refine yM hd2 wV ?_;refine⟨a+1,by omega,?_,by omega⟩;exact yf [] [1,0] qU
 have hd2:((j:Int)<(hs.length:Int)):=by omega
 have hgh:=rO hs hjl;have hmem:=xK (d:=[]) hjl;obtain⟨m1,m2,m3,m4⟩:=hmm _ hmem;obtain⟨r0,t0,hr0,ht0,e0⟩:=hms _ hmem;have hub:=Si e0;have hsj:(hs.take (j+1)).map (nO p sts a)= (hs.take j).map (nO p sts a)++ [nO p sts a (hs.getD j [])]:=by rw [yC (d:=[]) hjl,List.map_append]; rfl
 have hlj:(L++(hs.take j).map (nO p sts a)).length=L.length+j:=by rw [π,γ,τ]; omega
 have hfirst:=λr=>@uz p.xW sts a r (hs.getD j []);have hch:nO p sts a (hs.getD j [])= ⟨a,Pm (hs.getD j []),sC p sts ((hs.getD j []).length-1) a (lA p.xW sts a (hs.getD j []))⟩:=rfl;rw [hch] at hsj;have hidx:L++(hs.take (j+1)).map (nO p sts a)= (L++(hs.take j).map (nO p sts a))++ [⟨a,Pm (hs.getD j []),sC p sts ((hs.getD j []).length-1) a (lA p.xW sts a (hs.getD j []))⟩]:=by rw [hsj,List.append_assoc]
 generalize L++(hs.take j).map (nO p sts a)= LL at *;generalize hs.getD j []=h at *;have hwt:IntKind.i64.wrap ((h.length:Int)-1)= ((h.length-1:Nat):Int):=by rw [wrap_i64 (by omega)]; omega
 generalize ht:h.length-1=t at *;have htk:t<=k:=by omega
 have hsl:=hsl t htk;have hpr:=λw hw=>hpr t htk a w hal hw;have hh:=λr hr=>hh a r t hal hr htk;unfold lB rh at hsl hpr;have hll:(wX sts.length 0).length=sts.length:=oE _ _;rw [hll] at hsl hpr;generalize rG (zA p.xW sts t) (wX sts.length 0) F=VV at *;generalize tP (zA p.xW sts t) (wX sts.length 0) p.xW.length=RR at *;have hwn:IntKind.i64.wrap ((sts.length:Int)-1)= (sts.length:Int)-1:=wrap_i64 (by omega);refine qP hd2 wV hgh yV hwt ?_;refine .go (cr hsl) ?_;refine nQ yZ hwn ?_
 refine xU (λi:Nat=>[(16,.int .i64 ((sts.length:Int)-1-i)),(15,.int .i64 (jr (λr=>vV p.xW sts a (r,t)) (λr=>sC p sts t a r) h sts.length i)),(14,.ref 2 3 0 0),(13,.int .i64 t),(12,.int .i64 j),(11,.sl 1 (sU hs)),(10,.int .i64 a),(9,xD 1 3 (pQ LL)),(8,.sl 1 (rr sts)),(2,.ref 0 5 0 0),(1,.int .i64 ((k+1:Nat):Int))])
  (λ_=>⟨3,(2,⟨3,[[.int .i64 sts.length,.sl 1 (us VV),.sl 1 (rr RR)]]⟩) :: (yX 1 3 (pQ LL)++ [(0,⟨5,[[.int .i64 p.F,.sl 1 (us p.init),.sl 1 (us p.xW),.sl 1 (uH p.xO),.sl 1 (uG p.code)]]⟩)])⟩) (λi=>i<=sts.length) (λi=>sts.length-i) 0 (χ _) ?_ ?_
 ·(refine sS [] [2,1,0] ?_; simp only [wY,zQ,simprocAttr,-ZA,exists_eq_left',ne_eq,zR,qU,jr])
  omega
 intro i hi;refine xN mixed ?_;by_cases hil:i<sts.length
 case neg=>
  have hd3:¬ ((0:Int)<=(sts.length:Int)-1-(i:Int)):=by omega
  obtain rfl:i=sts.length:=by omega
  have hlast:jr (λr=>vV p.xW sts a (r,t)) (λr=>sC p sts t a r) h sts.length sts.length=sC p sts t a (lA p.xW sts a h):=by
   rcases fc (kf:=λr=>vV p.xW sts a (r,t)) (pf:=λr=>sC p sts t a r) (h:=h) (n:=sts.length) sts.length (ψ _) with ⟨_,h2⟩ | ⟨r,_,h2,h3,h4,h5⟩
   ·exact absurd m2 (h2 _ (by omega) m1)
   ·rw [h5,hfirst r h2 h3 λi hi=>h4 i (by omega) hi]
  rw [hlast];have huj:=vX (k:=j) (by omega);refine uc hd3 wV hd2 hgh huj vJ hlj ?_;refine⟨j+1,by omega,?_,by omega⟩;rw [hidx,<- hub];exact qW [(1,3)] [1,0] qU YY
 have hd3:((0:Int)<=(sts.length:Int)-1-(i:Int)):=by omega
 have hls:jr (λr=>vV p.xW sts a (r,t)) (λr=>sC p sts t a r) h sts.length (i+1)= if vV p.xW sts a (sts.length-1-i,t)= h then sC p sts t a (sts.length-1-i) else jr (λr=>vV p.xW sts a (r,t)) (λr=>sC p sts t a r) h sts.length i:=rfl;generalize jr (λr=>vV p.xW sts a (r,t)) (λr=>sC p sts t a r) h sts.length i=z at *;obtain⟨w,hw⟩:∃ w,w=sts.length-1-i:=⟨_,rfl⟩;have hwi:((sts.length:Int)-1-(i:Int))= (w:Int):=by omega
 have hwl:w<sts.length:=by omega
 rw [<- hw] at hls;rw [hwi] at hd3;rw [hwi];have hgw:=tY sts hwl;rw [show sts.getD w []=vQ sts w from rfl] at hgw;have hdw:((w:Int)<(sts.length:Int)):=by omega
 have hhw:=hh w hwl;have hpw:=hpr w hwl;have hord:=xj (vV p.xW sts a (w,t)) h;have hws:IntKind.i64.wrap ((w:Int)-1)= (sts.length:Int)-1-((i+1:Nat):Int):=by rw [wrap_i64 (by omega)]; omega
 by_cases e:vV p.xW sts a (w,t)= h
 ·have e1:(kc (vV p.xW sts a (w,t)) h==0)= true:=by rw [e,dU]; rfl
  rw [if_pos e] at hls;generalize vV p.xW sts a (w,t)= hk0 at *;refine uC hd3 yZ hdw hgw ?_;refine .go (cr hhw) ?_;refine sT wV hd2 hgh ?_;refine .go (cr hord) ?_;refine wA e1 ?_;refine .go (cr hpw) ?_;refine xG hws ?_;refine⟨i+1,by omega,?_,by omega⟩;rw [hls];exact yf [] [2,1,0] qU
 ·have e1:(kc (vV p.xW sts a (w,t)) h==0)= false:=beq_eq_false_iff_ne.2 λq=>e (dW q);rw [if_neg e] at hls;generalize vV p.xW sts a (w,t)= hk0 at *;refine uC hd3 yZ hdw hgw ?_;refine .go (cr hhw) ?_;refine sT wV hd2 hgh ?_;refine .go (cr hord) ?_;refine yM e1 hws ?_;refine⟨i+1,by omega,?_,by omega⟩;rw [hls];exact yf [] [2,1,0] qU
open Rs Fm Ru Te Kb
theorem P2 {l:List sV} (hl:l.length<=100000):xA prog 24 [.sl 3 (pQ l),.sl 3 (pQ l)] (.bool true):=by
 refine xI func24 k24 λhf=>?_;refine xG vJ ?_
 refine xU (λk:Nat=>[(5,.int .i64 k),(1,.sl 3 (pQ l)),(0,.sl 3 (pQ l))]) (λ_=>⟨0,[]⟩) (λk=>k<=l.length) (λk=>l.length-k) 0 (χ _) ?_ ?_
 ·exact wE
 intro k hk;refine xN mixed ?_
 by_cases hkl:k<l.length
 ·have hd:((k:Int)<(l.length:Int)):=by omega
  have hg:=xm l hkl;generalize l.getD k jz=c at hg;obtain⟨a,s,m⟩:=c;unfold sV.row at hg;have hord:=xj (s.map ui) (s.map ui);rw [<- qF,dU] at hord;refine sT hd vJ hg ?_;refine .go (cr hord) ?_;refine zC ?_;refine⟨k+1,by omega,?_,by omega⟩;exact yH
 ·have hd:¬ ((k:Int)<(l.length:Int)):=by omega
  refine yM hd vJ ?_;exact .dv
open Rs Fm Ru Te Kb
namespace Kb
def oL (p:yT) (l:List sV):Nat->Option (List (List (BitVec 64)))
 | 0=>some (pY p)
 | n+1=>match oL p l n with
  | none=>none
  | some sts=>if mX p l sts n=true then some (nP p sts (rT p l sts n)) else none
def vB (p:yT) (l:List sV) (n:Nat):List (List (BitVec 64)):=(oL p l n).getD []
theorem cP {p:yT} {l:List sV} {n:Nat} (h:(oL p l (n+1)).isSome=true):(oL p l n).isSome=true/\mX p l (vB p l n) n=true/\vB p l (n+1)= nP p (vB p l n) (rT p l (vB p l n) n):=by
 unfold oL at h;unfold vB
 cases e:oL p l n with
 | none=>rw [e] at h; cases h
 | some sts=>
  rw [e] at h;simp only at h
  by_cases c:mX p l sts n=true
  ·refine⟨rfl,c,?_⟩;show (oL p l (n+1)).getD []=_;unfold oL;rw [e];simp only [c,↓reduceIte];rfl
  ·rw [if_neg c] at h; cases h
theorem OE {p:yT} {l:List sV} {n:Nat} (h:(oL p l n).isSome=true):(oL p l (n+1)).isSome=mX p l (vB p l n) n/\(mX p l (vB p l n) n=true->vB p l (n+1)= nP p (vB p l n) (rT p l (vB p l n) n)):=by
 cases e:oL p l n with
 | none=>rw [e] at h; cases h
 | some sts=>
  have e2:vB p l n=sts:=by unfold vB; rw [e]; rfl
  rw [e2]
  have e3:oL p l (n+1)= if mX p l sts n=true then some (nP p sts (rT p l sts n)) else none:=by show (match oL p l n with | none=>none | some sts=>_)= _;rw [e]
  unfold vB;rw [e3]
  cases c:mX p l sts n with
  | true=>exact⟨rfl,λ_=>rfl⟩
  | false=>exact⟨rfl,λh=>by cases h⟩
theorem wb {p:yT} {l:List sV} {n:Nat}:∀ {m:Nat},n<=m->(oL p l n).isSome=false->(oL p l m).isSome=false
 | 0,h,hn=>by
  have:n=0:=by omega
  rw [this] at hn;exact hn
 | m+1,h,hn=>by
  by_cases e:n=m+1
  ·rw [<- e]; exact hn
  ·have ih:=wb (m:=m) (by omega) hn
   cases c:(oL p l (m+1)).isSome with
   | false=>rfl
   | true=>rw [(cP c).1] at ih; cases ih
theorem Q9 {p:yT} {l:List sV} (h:uZ p l=0):∀ i,i<l.length->LY p l i=0:=λi hi=>oA.1 h i (ζ.2 hi)
theorem Lx {p:yT} {l:List sV} (h:uZ p l=0) {c:sV} (hc:c ∈ l):c.mv<p.xO.length /\ -1<=c.mv:=by
 obtain⟨i,hi,rfl⟩:=ο hc;have h1:=Q9 h i hi;unfold LY at h1;have e:l.getD i jz=l[i]:=by simp [List.getD,hi]
 rw [e] at h1
 split at h1
 ·cases h1
 ·rename_i hb;have hb:tu p l[i]=false:=by simpa using hb
  unfold tu at hb;simp only [Bool.or_eq_false_iff,decide_eq_false_iff_not] at hb;omega
theorem oh (p:yT) (l:List sV) (sts:List (List (BitVec 64))) (t:Nat):(rT p l sts t).length=p.xW.length:=by simp [rT]
theorem Ya {p:yT} {l:List sV} {sts:List (List (BitVec 64))} {t:Nat}:∀ m ∈ rT p l sts t,m.length=sts.length:=λm hm=>by simp only [rT,ε] at hm;obtain⟨a,_,rfl⟩:=hm;simp [Zg]
theorem VM {p:yT} {l:List sV} (h:uZ p l=0) {sts:List (List (BitVec 64))} {t:Nat} (hB:mX p l sts t=true):∀ m ∈ rT p l sts t,∀ k ∈ m,k<p.xO.length:=λm hm k hk=>by simp only [rT,ε,ζ] at hm;obtain⟨a,ha,rfl⟩:=hm;simp only [Zg,ε,ζ] at hk;obtain⟨r,hr,rfl⟩:=hk;unfold mX at hB;rw [μ] at hB;have h1:=hB a (ζ.2 ha);rw [μ] at h1;have h2:=of_decide_eq_true (h1 r (ζ.2 hr));exact(Lx h (xK (VU h2).1)).1
theorem qm {p:yT} {F:Nat} (hv:aN p F) {l:List sV} (hc:uZ p l=0):∀ n,(oL p l n).isSome=true->Zb p F (vB p l n) n
 | 0,_=>Zb.GD hv
 | n+1,h=>by obtain⟨h1,h2,h3⟩:=cP h;rw [h3];exact Zb.step hv (qm hv hc n h1) Ya (VM hc h2)
def jY (p:yT) (l:List sV) (n:Int):Int:=if rJ p n≠0 then rJ p n else if uZ p l≠0 then uZ p l else if (oL p l (n.toNat-1)).isSome=true then 0 else 6
theorem ec {p:yT} {l:List sV} {n:Int} (h:jY p l n=0):∃ F k:Nat,aN p F/\n=((k+1:Nat):Int)/\ k<=5/\uZ p l=0/\(oL p l k).isSome=true:=by
 unfold jY at h
 split at h
 ·rename_i h1; exact absurd h h1
 ·rename_i h1
  split at h
  ·rename_i h2; exact absurd h h2
  ·rename_i h2
   split at h
   ·rename_i h3;obtain⟨F,k,hv,rfl,hk⟩:=Kb.qI (show rJ p n=0 by simpa using h1);rw [Ae,υ] at h3;exact⟨F,k,hv,rfl,hk,by simpa using h2,h3⟩
   ·cases h
def bK (p:yT) (l:List sV) (n:Int):D:=if jY p l n=0 then nC p (vB p l (n.toNat-1)) else .qQ
end Kb
theorem ue {p:yT} {l:List sV} (hll:l.length<=2000000) {sts:List (List (BitVec 64))} {t:Nat} (hA:1<=p.xW.length/\p.xW.length<=4) (hR:1<=sts.length/\sts.length<=16) (hl:∀ st ∈ sts,t<st.length) (ht:t<=1000) {nx:Nat} {ob:List (Nat × Ob)} {x:D}
  (hx:Seen ⟨nx,ob⟩ (λ_=>False) x (nC p sts)) (hB:mX p l sts t=true):xP prog 84 [x,.sl 3 (pQ l),.int .i64 t] ⟨nx,ob⟩ (.wH [.sl 1 (rl (rT p l sts t)),.bool true]) ⟨nx+(1+p.xW.length),ob⟩:=by
 have hc:=YX hll hA hR hl ht (d:=.wH [.yD 0 1 p.xW.length,.bool true]) (σ':=⟨1+p.xW.length,lD ((rT p l sts t).map (rows .i64))⟩) (λ_=>⟨rfl,rfl⟩) (λh=>by rw [hB] at h; cases h);refine xP.pb hc ⟨hx,.pure rfl,.pure rfl,trivial⟩ (by simp [D.fl]) (u6 XD) ?_;have hN:=fR.shift (c:=nx) (r:=ob) (lP ((rT p l sts t).map (rows .i64))) λe he r hr=>(nW e he r hr).2
 have:=fR.seen (nx:=nx+(1+p.xW.length)) (K:=λk=>k<nx) (n:=p.xW.length) hN (by rw [γ,oh]) (by omega) (λk hk=>by simp only [ε] at hk;obtain⟨j,_,rfl⟩:=hk;omega) nW
 rw [ZL] at this;simp only [D.shift,D.vO];exact Seen.wH ⟨this,.pure rfl,trivial⟩
theorem Zu {p:yT} {l:List sV} (hll:l.length<=2000000) {sts:List (List (BitVec 64))} {t:Nat} (hA:1<=p.xW.length/\p.xW.length<=4) (hR:1<=sts.length/\sts.length<=16) (hl:∀ st ∈ sts,t<st.length) (ht:t<=1000) {nx:Nat} {ob:List (Nat × Ob)} {x:D}
  (hx:Seen ⟨nx,ob⟩ (λ_=>False) x (nC p sts)) (hB:mX p l sts t=false):xP prog 84 [x,.sl 3 (pQ l),.int .i64 t] ⟨nx,ob⟩ (.wH [.xL,.bool false]) ⟨nx,ob⟩:=by
 have hc:=YX hll hA hR hl ht (d:=.wH [.xL,.bool false]) (σ':=jN) (λh=>by rw [hB] at h; cases h) (λ_=>⟨rfl,rfl⟩);exact xP.Ss hc ⟨hx,.pure rfl,.pure rfl,trivial⟩ (by simp [D.flat,D.Xw])
theorem lu (p:yT) (sm:oY p) (l:List sV) (sc:zl l) (n:Int):xA prog 82 [p.d,.sl 3 (pQ l),.int .i64 n] (.wH [bK p l n,.int .i64 (jY p l n)]):=by
 have hQ:=zc p sm n;have hC:=WM p l sc;have hll:=sc.len;by_cases c:rJ p n=0
 case neg=>
  have c':(rJ p n != 0)= true:=by simpa using c
  have e1:jY p l n=rJ p n:=by unfold jY; rw [if_pos c]
  have e2:bK p l n = .qQ:=by unfold bK; rw [e1,if_neg c]
  rw [e1,e2];unfold yT.d yT.cells at *;refine xI func82 K7 λhf=>?_;refine zC ?_;refine .go (cr hQ) ?_;refine xG c' ?_;exact .drop (by simp) (by simp [vw,uK])
 have c':(rJ p n != 0)= false:=by simpa using c
 by_cases c2:uZ p l=0
 case neg=>
  have c2':(uZ p l != 0)= true:=by simpa using c2
  have e1:jY p l n=uZ p l:=by unfold jY; rw [if_neg (by simpa using c),if_pos c2]
  have e2:bK p l n = .qQ:=by unfold bK; rw [e1,if_neg c2]
  rw [e1,e2];unfold yT.d yT.cells at *;refine xI func82 K7 λhf=>?_;refine zC ?_;refine .go (cr hQ) ?_;refine xG c' ?_;refine .go (cr hC) ?_;refine xG c2' ?_;exact .drop (by simp) (by simp [vw,uK])
 have c2':(uZ p l != 0)= false:=by simpa using c2
 obtain⟨F,k,hv,rfl,hk⟩:=Kb.qI c
 have hgE:jY p l ((k+1:Nat):Int)= if (oL p l k).isSome=true then 0 else 6:=by unfold jY;rw [if_neg (by simpa using c),if_neg (by simpa using c2),Ae,υ]
 have hgD:bK p l ((k+1:Nat):Int)= if (oL p l k).isSome=true then nC p (vB p l k) else .qQ:=by unfold bK;rw [hgE,Ae,υ];split <;> rfl
 have hB:=YV hv;have hI:=hv.hI;have hA:=hv.hA;have hw:IntKind.i64.wrap (((k+1:Nat):Int)-1)= (k:Int):=by rw [wrap_i64 (by omega)]; omega
 have hB1:=xP.own (σ:=⟨1,[(0,⟨5,[p.cells]⟩)]⟩) hB (by simp [D.xR,D.xF,yT.d,yT.cells]);have hPS:=(eC p (ψ 2) (pY p)).shift (c:=1) (r:=[(0,⟨5,[p.cells]⟩)]);have hbl:(pY p).length=p.init.length:=by simp [pY]
 have hD:p.d = .agg [.int .i64 p.F,.sl 1 (us p.init),.sl 1 (us p.xW),.sl 1 (uH p.xO),.sl 1 (uG p.code)]:=rfl;rw [hgE,hgD];unfold yT.cells at hB1 hPS;rw [hD] at *;refine xI func82 K7 λhf=>?_;refine zC ?_;refine .go (cr hQ) ?_;refine xG c' ?_;refine .go (cr hC) ?_;refine xG c2' ?_;refine .go hB1 ?_;refine xG hw ?_
 refine sZ (λt:Nat=>[(30,.int .i64 t),(29,.int .i64 k),(10,.ref 0 6 0 0),(1,.sl 3 (pQ l))]) (λt=>⟨2+(vB p l t).length,jx p 2 (vB p l t)⟩) (λt=>t<=k/\(oL p l t).isSome=true) (λt=>k-t) 0 ⟨χ _,rfl⟩ ?_ ?_
 ·refine yR.ZY hPS (ψ _) (χ _) (λk hk=>absurd hk (Aa _)) ?_;simp only [bo,vw,Fr.get,↓reduceIte,reduceIte,Nat.reduceEqDiff,D.shift,and_true,true_and];exact⟨rfl,by omega,rfl⟩
 intro t ⟨ht,hsome⟩;refine xN mixed ?_;have hS:=qm hv c2 t hsome;have hl:=hS.len;obtain⟨u1,u2⟩:=OE hsome;by_cases htn:t<k
 case neg=>
  have hd:¬ ((t:Int)<(k:Int)):=by omega
  obtain rfl:t=k:=by omega
  rw [if_pos hsome,if_pos hsome];refine xG hd ?_
  refine .go [(10,nC p (vB p l t))] ⟨2+(vB p l t).length,[]⟩ ?_ ?_
  ·refine yR.deep (λ_=>False) trivial ⟨.inr ?_,trivial⟩;exact xd (ψ 2) λ_ h=>h
  refine xJ ?_;exact .drop (by simp) (by simp [vw,uK,nC])
 have hd:((t:Int)<(k:Int)):=by omega
 have hseen:Seen ⟨2+(vB p l t).length,jx p 2 (vB p l t)⟩ (λ_=>False) (.ref 0 6 0 0) (nC p (vB p l t)):=xd (ψ 2) λ_ h=>h
 cases hcb:mX p l (vB p l t) t with
 | false=> have hno:=Zu hll hA (by rw [hl]; exact hI) (λst hs=>by rw [hS.run st hs]; omega) (by omega) hseen hcb;have hnk:(oL p l k).isSome=false:=wb (show t+1<=k by omega) (by rw [u1,hcb]);rw [hnk,if_neg (by simp),if_neg (by simp)];refine xG hd ?_;refine .go hno ?_;refine xJ ?_;refine .zL ?_;refine xJ ?_;exact .drop (by simp) (by simp [vw,uK])
 | true=>
  have hyes:=ue hll hA (by rw [hl]; exact hI) (λst hs=>by rw [hS.run st hs]; omega) (by omega) hseen hcb;have hpl:=oh p l (vB p l t) t;have h121:=kp hv (sts:=vB p l t) (by rw [hl]; exact hI) (λst hs=>by rw [hS.run st hs]; omega) hS.val (mv:=rT p l (vB p l t) t) (by rw [hpl]; omega) Ya (VM c2 hcb) (nx:=2+(vB p l t).length+(1+p.xW.length)) (by omega);have hnext:=u2 hcb;have hsl:(nP p (vB p l t) (rT p l (vB p l t) t)).length=(vB p l t).length:=by simp [nP]
  have hPI:=eC p (b:=2+(vB p l t).length+(1+p.xW.length)) (by omega) (nP p (vB p l t) (rT p l (vB p l t) t));refine xG hd ?_;refine .go hyes ?_;refine xJ ?_;refine .go h121 ?_;refine xJ ?_;refine⟨t+1,⟨by omega,by rw [u1,hcb]⟩,?_,by omega⟩;rw [hnext];refine yR.ZY hPI (ψ _) (χ _) (λk hk=>absurd hk (Aa _)) ?_;simp only [bo,vw,Fr.get,↓reduceIte,reduceIte,Nat.reduceEqDiff,and_true,true_and];exact⟨by rw [wrap_i64 (by omega)]; rfl,by omega,rfl⟩
open Rs Fm Ru Te Kb
namespace Kb
structure bg (n : Nat) (sts sts' : List (List (BitVec 64))) : Prop where
 len:sts'.length=sts.length
 run:∀ i,i<sts.length->(vQ sts' i).take n=(vQ sts i).take n
theorem bg.refl (n:Nat) (sts:List (List (BitVec 64))):bg n sts sts:=⟨rfl,λ_ _=>rfl⟩
theorem bg.trans {n:Nat} {a b c:List (List (BitVec 64))} (h:bg n a b) (h':bg n b c):bg n a c:=⟨h'.len.trans h.len,λi hi=>(h'.run i (by rw [h.len]; exact hi)).trans (h.run i hi)⟩
theorem bg.mono {n m:Nat} {a b:List (List (BitVec 64))} (h:bg n a b) (hm:m<=n):bg m a b:=⟨h.len,λi hi=>by
 have:=congrArg (List.take m) (h.run i hi)
 rwa [ν,ν,Nat.min_eq_left hm] at this⟩
section
variable {n t : Nat} {sts sts' : List (List (BitVec 64))} {xW : List (BitVec 64)}
theorem bg.V8 (h:bg n sts sts') (ht:t<n) {a r:Nat} (hr:r<sts.length):uQ xW (vQ sts' r) a t=uQ xW (vQ sts r) a t:=by have:=(h.mono (show t+1<=n from ht)).run r hr;unfold uQ;rw [this]
theorem all_congr {α:Type} {l:List α} {f g:α->Bool} (h:∀ x ∈ l,f x=g x):l.all f=l.all g:=by
 induction l with
 | nil=>rfl
 | cons x r ih=>rw [List.all_cons,List.all_cons,h x (by simp),ih λy hy=>h y (by simp [hy])]
variable {p : yT}
theorem bg.mQ (h:bg n sts sts') (ht:t<n) {a r:Nat} (hr:r<sts.length):mQ p sts' t a r=mQ p sts t a r:=h.V8 ht hr
theorem bg.mX (h:bg n sts sts') (ht:t<n) {l:List sV}:mX p l sts' t=mX p l sts t:=by unfold Kb.mX;rw [h.len];refine all_congr λa _=>all_congr λr hr=>?_;rw [h.mQ ht (ζ.1 hr)]
theorem bg.rT (h:bg n sts sts') (ht:t<n) {l:List sV}:rT p l sts' t=rT p l sts t:=by unfold Kb.rT Zg;rw [h.len];refine ξ λa _=>ξ λr hr=>?_;rw [h.mQ ht (ζ.1 hr)]
theorem QH {mv:List (List Int)} (hl:∀ st ∈ sts,n<=st.length):bg n sts (nP p sts mv) where
 len:=by simp [nP]
 run:=λi hi=>by
  have e:vQ (nP p sts mv) i=vQ sts i ++ [zz p sts mv i]:=by simp [vQ,nP,List.getD,hi]
  rw [e,List.take_append_of_le_length (hl _ (qE hi))]
end
theorem VR {p:yT} {F:Nat} (hv:aN p F) {l:List sV} (hc:uZ p l=0) {n:Nat}:∀ {m:Nat},n<=m->(oL p l m).isSome=true->bg (n+1) (vB p l n) (vB p l m)
 | 0,h,_=>by
  have:n=0:=by omega
  subst this; exact .refl _ _
 | m+1,h,hs=>by
  by_cases e:n=m+1
  ·subst e; exact .refl _ _
  ·obtain⟨h1,h2,h3⟩:=cP hs;rw [h3];exact(VR hv hc (m:=m) (by omega) h1).trans (QH λst hs=>by rw [(qm hv hc m h1).run st hs]; omega)
theorem Y2 {p:yT} {l:List sV} {n:Nat}:∀ {m:Nat},n<=m->(oL p l m).isSome=true->(oL p l n).isSome=true:=λh hs=>by
 cases c:(oL p l n).isSome with
 | true=>rfl
 | false=>rw [wb h c] at hs; cases hs
theorem QL {p:yT} {F:Nat} (hv:aN p F) {l:List sV} (hc:uZ p l=0) {k t:Nat} (hs:(oL p l k).isSome=true) (ht:t<k):mX p l (vB p l k) t=true/\vB p l (t+1)= nP p (vB p l t) (rT p l (vB p l k) t):=by obtain⟨h1,h2,h3⟩:=cP (Y2 (show t+1<=k from ht) hs);have he:=VR hv hc (n:=t) (m:=k) (by omega) hs;exact⟨by rw [he.mX (by omega)]; exact h2,by rw [he.rT (by omega)]; exact h3⟩
end Kb
open Rs Fm Ru Te Kb
namespace Kb
def ZV (p:yT) (l:List sV) (n:Int):jW:=if jY p l n≠0 then⟨0,0,0,[]⟩ else⟨p.xW.length,p.F,n,kE p.xW (vB p l (n.toNat-1)) n.toNat⟩
def Uw (p:yT) (l:List sV) (n:Int):Bool:=decide (jY p l n=0)&& (List.range (n.toNat-1)).all λt=>decide (rT p l (vB p l (n.toNat-1)) t=vE p (vB p l (n.toNat-1)) t)
end Kb
theorem W9 (p:yT) (sm:oY p) (l:List sV) (sc:zl l) (n:Int):xA prog 25 [p.d,.sl 3 (pQ l),.int .i64 n] (.wH [(ZV p l n).d,.int .i64 (jY p l n)]):=by
 have hG:=lu p sm l sc n;by_cases c:jY p l n=0
 case neg=>
  have c':(jY p l n != 0)= true:=by simpa using c
  have hD:(ZV p l n).d = .agg [.int .i64 0,.int .i64 0,.int .i64 0,.sl 2 []]:=by unfold ZV; rw [if_pos c]; rfl
  have e2:bK p l n = .qQ:=by unfold bK; rw [if_neg c]
  rw [hD];rw [e2] at hG;unfold yT.d yT.cells at *;refine xI func25 GH λhf=>?_;refine zC ?_;refine .go (cr hG) ?_;refine wA c' ?_;exact .drop (by simp) (by simp [vw,uK])
 have c':(jY p l n != 0)= false:=by simpa using c
 obtain⟨F,k,hv,rfl,hk,hc,hs⟩:=ec c;have hS:=vf hv hk (qm hv hc k hs)
 have hD:(ZV p l ((k+1:Nat):Int)).d=sD p.xW.length F (k+1) (kE p.xW (vB p l k) (k+1)):=by unfold ZV;rw [if_neg (by simpa using c),Ae,υ];show D.agg [_,_,_,_]=D.agg [_,_,_,_];rw [hv.fe]
 have e2:bK p l ((k+1:Nat):Int)= nC p (vB p l k):=by unfold bK; rw [if_pos c,Ae,υ]
 rw [hD];rw [e2] at hG;generalize kE p.xW (vB p l k) (k+1)= S at *;generalize vB p l k=sts at *;unfold yT.d yT.cells nC bn sD at *;refine xI func25 GH λhf=>?_;refine zC ?_;refine .go (cr hG) ?_;refine xG c' ?_;refine .go (cr hS) ?_;refine zC ?_;exact .drop (by simp) (by simp [vw,uK]; simpa using c.symm)
theorem Ka (a b:List Int):xA prog 86 [.sl 1 (rows .i64 a),.sl 1 (rows .i64 b)] (.bool (decide (a=b))):=by refine xI func86 Fy λhf=>?_;refine xJ ?_;refine .go (cr (O5 a b)) ?_;refine xJ ?_;exact .same
theorem O6 (a b:List (List Int)) (hl:a.length<=1000):xA prog 85 [.sl 1 (rl a),.sl 1 (rl b),.fn 86 []] (.bool (decide (a=b))):=by
 refine xI func85 Fz λhf=>?_;by_cases h1:a.length=b.length
 case neg=>
  have h1':((a.length:Int) != (b.length:Int))= true:=by simp; omega
  refine yM sI h1' ?_;exact .drop (by simp) (by simp only [vw,D.bool.injEq]; symm; apply decide_eq_false; rintro rfl; exact h1 rfl)
 have h1':((a.length:Int) != (b.length:Int))= false:=by simp; omega
 refine yM sI h1' ?_
 refine xU (λk:Nat=>[(17,.int .i64 k),(16,.int .i64 a.length),(15,.sl 1 (rl a)),(2,.fn 86 []),(1,.sl 1 (rl b))]) (λ_=>⟨0,[]⟩) (λk=>k<=a.length/\∀ i,i<k->a.getD i []=b.getD i []) (λk=>a.length-k) 0 ⟨χ _,λi hi=>by omega⟩ ?_ ?_
 ·exact wE
 intro k ⟨hk,hi⟩;refine xN mixed ?_
 by_cases h:k<a.length
 ·have hd:((k:Int)<(a.length:Int)):=by omega
  have hd2:((k:Int)<(b.length:Int)):=by omega
  have ga:=zq a h;have gb:=zq b (show k<b.length by omega);have he:=Ka (a.getD k []) (b.getD k [])
  by_cases hb:a.getD k []=b.getD k []
  ·rw [decide_eq_true hb] at he;refine qP hd sI ga hd2 gb ?_;refine .go (cr he) ?_;refine xJ ?_
   refine⟨k+1,⟨by omega,λi hi2=>?_⟩,?_,by omega⟩
   ·by_cases ei:i=k
    ·rw [ei,hb]
    ·exact hi i (by omega)
   exact yH
  ·rw [decide_eq_false hb] at he;refine qP hd sI ga hd2 gb ?_;refine .go (cr he) ?_;refine xJ ?_;exact .drop (by simp) (by simp only [vw,D.bool.injEq]; symm; apply decide_eq_false; rintro rfl; exact hb rfl)
 ·have hd:¬ ((k:Int)<(a.length:Int)):=by omega
  have hk':k=a.length:=by omega
  subst hk';refine xG hd ?_;refine .drop (by simp) ?_;simp only [vw,D.bool.injEq]; symm; apply decide_eq_true;refine List.ext_getElem h1 λi h2 h3=>?_;have:=hi i h2;simpa [List.getD,h2,h3] using this
theorem l4 (p:yT) (sm:oY p) (l:List sV) (sc:zl l) (n:Int):xA prog 27 [p.d,.sl 3 (pQ l),.int .i64 n] (.wH [.bool (Uw p l n),.int .i64 (jY p l n)]):=by
 have hG:=lu p sm l sc n;by_cases c:jY p l n=0
 case neg=>
  have c':(jY p l n != 0)= true:=by simpa using c
  have hD:Uw p l n=false:=by unfold Uw; rw [decide_eq_false c]; rfl
  have e2:bK p l n = .qQ:=by unfold bK; rw [if_neg c]
  rw [hD];rw [e2] at hG;unfold yT.d yT.cells at *;refine xI func27 GI λhf=>?_;refine zC ?_;refine .go (cr hG) ?_;refine xG c' ?_;exact .drop (by simp) (by simp [vw,uK])
 have c':(jY p l n != 0)= false:=by simpa using c
 obtain⟨F,k,hv,rfl,hk,hc,hs⟩:=ec c;have hS:=qm hv hc k hs;have e2:bK p l ((k+1:Nat):Int)= nC p (vB p l k):=by unfold bK; rw [if_pos c,Ae,υ]
 have hIB:Uw p l ((k+1:Nat):Int)= (List.range k).all λt=>decide (rT p l (vB p l k) t=vE p (vB p l k) t):=by unfold Uw;rw [decide_eq_true c,Ae,υ,Ac]
 rw [hIB,c];rw [e2] at hG;rw [c] at hG;have hpm:=λt ht=>yq hv (hS.jo hv (t:=t) ht (by omega));have hall:∀ t,t<k->mX p l (vB p l k) t=true:=λt ht=>(QL hv hc hs ht).1;have hI:=hv.hI;have hlen:=hS.len;have hrun:=hS.run;generalize vB p l k=sts at *;have hch:=λ(nx:Nat) (ob:List (Nat × Ob)) t (ht:t<k)=>ue (nx:=nx) (ob:=ob) (x:=nC p sts) sc.len hv.hA (by rw [hlen]; exact hI) (λst hs=>by rw [hrun st hs]; omega) (by omega) (.pure rfl) (hall t ht);have hw:IntKind.i64.wrap (((k+1:Nat):Int)-1)= (k:Int):=by rw [wrap_i64 (by omega)]; omega
 have hA:=hv.hA;have heq:=λt=>O6 (rT p l sts t) (vE p sts t) (by rw [oh]; omega);unfold yT.d yT.cells nC bn at *;refine xI func27 GI λhf=>?_;refine zC ?_;refine .go (cr hG) ?_;refine xG hw ?_
 refine xU (λt:Nat=>[(25,.int .i64 t),(24,.int .i64 k),(8,.ptr [.int .i64 p.F,.sl 1 (us p.init),.sl 1 (us p.xW),.sl 1 (uH p.xO),.sl 1 (uG p.code),.sl 1 (rr sts)]),(1,.sl 3 (pQ l))]) (λ_=>⟨0,[]⟩) (λt=>t<=k/\∀ j,j<t->rT p l sts j=vE p sts j) (λt=>k-t) 0 ⟨χ _,λj hj=>absurd hj (Aa _)⟩ ?_ ?_
 ·exact kC [] []
 intro t ⟨ht,hj⟩;refine xN mixed ?_;by_cases htk:t<k
 case neg=>
  have hd:¬ ((t:Int)<(k:Int)):=by omega
  rw [show ((List.range k).all λt=>decide (rT p l sts t=vE p sts t))= true by rw [μ];exact λj hj2=>decide_eq_true (hj j (by have:=ζ.1 hj2; omega))]
  refine xG hd ?_;exact .drop (by simp) (by simp [vw,uK])
 have hd:((t:Int)<(k:Int)):=by omega
 have h1:=hch 0 [] t htk;have h2:=hpm t (by omega);have h3:=heq t
 have hno:rT p l sts t≠vE p sts t->((List.range k).all λt=>decide (rT p l sts t=vE p sts t))= false:=λh=>by rw [List.all_eq_false];exact⟨t,ζ.2 htk,by simpa using h⟩
 have hsu:rT p l sts t=vE p sts t->∀ j,j<t+1->rT p l sts j=vE p sts j:=λh j hj2=>by
  by_cases e:j=t
  ·rw [e]; exact h
  ·exact hj j (by omega)
 generalize rT p l sts t=M1 at *;generalize vE p sts t=M2 at *;refine xG hd ?_;refine .go h1 ?_;refine xJ ?_;refine .go (cr h2) ?_;refine xJ ?_;refine .go (cr h3) ?_
 by_cases hq:M1=M2
 ·rw [decide_eq_true hq];refine xJ ?_;refine⟨t+1,⟨by omega,hsu hq⟩,?_,by omega⟩;exact kC [] []
 ·rw [decide_eq_false hq,hno hq];refine xJ ?_;exact .drop (by simp) (by simp [vw,uK])
end Go.Pd

/- Part SG. -/
namespace Go.Pd
open Go Go.Proofs
namespace Ru
end Ru
open Ru
open Ru
namespace Ru
end Ru
end Go.Pd

/- Part SP. -/
namespace Go.Pd
open Go Go.Proofs
namespace Ru
def hT (f:Nat->Int):Nat->List Int
 | 0=>[]
 | k+1=>if 0<k/\f k=f (k-1) then hT f k else hT f k ++ [f k]
end Ru
open Rs Fm Ru Te Kb
namespace Kb
instance : DecidableEq zB := λa b => decidable_of_iff (a.loc = b.loc /\ a.yi = b.yi) (by cases a; cases b; simp)
instance : DecidableEq jW := λa b => decidable_of_iff (a.ag = b.ag /\ a.fa = b.fa /\ a.ln = b.ln /\ a.rs = b.rs) (by cases a; cases b; simp)
def ZW (x:List Int):List (List Int)->List (List Int)
 | []=>[x]
 | y :: l=>if kc y x<0 then y :: ZW x l else x :: y :: l
def ZT : List (List Int)->List (List Int)
 | []=>[]
 | x :: l=>ZW x (ZT l)
theorem wh (x:List Int):∀ l,(ZW x l).Perm (x :: l)
 | []=>List.Perm.refl _
 | y :: l=>by
  unfold ZW
  split
  ·exact((wh x l).cons y).trans (List.Perm.swap x y l)
  ·exact List.Perm.refl _
theorem cd : ∀ l,(ZT l).Perm l
 | []=>List.Perm.refl _
 | x :: l=>(wh x _).trans ((cd l).cons x)
theorem Yr (x:List Int):∀ l,bh l->bh (ZW x l)
 | [],_=>by unfold ZW bh; simp
 | y :: l,h=>by
  have h1:=κ.1 h;unfold ZW
  split
  ·rename_i hc;refine κ.2 ⟨λz hz=>?_,Yr x l h1.2⟩
   rcases List.mem_cons.1 ((wh x l).mem_iff.1 hz) with rfl | hz
   ·have:=mM y z; omega
   ·exact h1.1 z hz
  ·rename_i hc;refine κ.2 ⟨λz hz=>?_,h⟩
   rcases List.mem_cons.1 hz with rfl | hz
   ·exact hc
   ·exact cQ (h1.1 z hz) hc
theorem YS : ∀ l,bh (ZT l)
 | []=>List.Pairwise.nil
 | x :: l=>Yr x _ (YS l)
theorem Q0 (l:List (List Int)):fK l=ZT l:=(ry (cd l) (YS l)).symm
theorem cg : fK=ZT:=funext Q0
def LK (xW:List (BitVec 64)) (sts:List (List (BitVec 64))) (T:Nat):List zB:= V1 (qw sts) xW.length T λa p=>below (dedup (ZT ((iO T ((qw sts).length*T)).map (vV xW sts a)))) (vV xW sts a p)
theorem Xj (xW:List (BitVec 64)) (sts:List (List (BitVec 64))) (T:Nat):kE xW sts T=LK xW sts T:=by unfold kE Pg LK NV;rw [cg]
def allI (xW:List (BitVec 64)) (sts:List (List (BitVec 64))) (T a:Nat):List (List Int):=dedup (ZT ((iO T (sts.length*T)).map (vV xW sts a)))
theorem Pv (xW:List (BitVec 64)) (sts:List (List (BitVec 64))) (T a:Nat):rD xW sts T a=allI xW sts T a:=by unfold rD allI; rw [cg]
def GE : List Nd:=PW (nL 0) (V0 (vl 1 (nL 0)))
def ke : yT:=⟨2,[0#64,1#64],[1#64,2#64],[[⟨1,nL 0⟩]],[[⟨GE,0⟩],[]]⟩
def Pq : jW:=⟨2,2,3,[⟨[[0,0],[2,1],[4,3]],[0#64,0#64,0#64]⟩,⟨[[1,0],[3,2],[5,4]],[1#64,3#64,3#64]⟩]⟩
theorem df : yK ke 2 = [[0#64,0#64,0#64],[1#64,3#64,3#64]]:=by decide +kernel
theorem ab : rJ ke 3=0:=by decide +kernel
theorem O8 : qM ke 3=Pq:=by unfold qM;rw [if_neg (by rw [ab]; simp),show (3:Int).toNat=3 from rfl,df,Xj];decide +kernel
end Kb
end Go.Pd

/- Part AX. -/
namespace Go.Pd
open Go Go.Proofs
open BitVec renaming isValue -> ZA
open Rs Fm Ru Te Kb
def Nw (d d':D):Prop:=∀ (M:Nat->Prop) (w:World) (v:Value),RP M w v d->RP M w v d'
theorem Nw.refl (d:D):Nw d d:=λ_ _ _ h=>h
theorem Nw.xL (sz:Nat):Nw .xL (.sl sz []):=λ_ _ v h=>by cases h;exact .kd _ _ _ (by simp)
theorem Nw.sl {sz:Nat} {xV els':List (List D)} (hl:xV.length=els'.length) (hw:∀ e ∈ els',e.length=sz)
  (h:∀ i,i<xV.length->∀ j,j<sz->Nw ((xV.getD i []).getD j .top) ((els'.getD i []).getD j .top)):Nw (.sl sz xV) (.sl sz els'):=λM w v hv=>by
 cases hv with
 | kd a cap sz hh=> have:els' = []:=List.length_eq_zero_iff.1 (by simpa using hl.symm);subst this;exact .kd _ _ _ hh
 | sl vs hs hM hc hm hl2 hcell hr=>
  have:=RP.sl (M:=M) (w:=w) (sz:=sz) (xV:=els') vs hs hM (by omega) hm hw (by rw [<- hl]; exact hcell) (by rw [<- hl]; exact λi hi j hj=>h i hi j hj M w _ (hr i hi j hj))
  rwa [<- hl] at this
theorem Nw.agg {ds cs:List D} (hl:ds.length=cs.length) (h:∀ j,j<cs.length->Nw (ds.getD j .top) (cs.getD j .top)):Nw (.agg ds) (.agg cs):=λM w v hv=>by
 cases hv with
 | agg h1 h2=>exact .agg (by omega) λj hj=>h j hj M w _ (h2 j (by omega))
theorem Nw.seen {σ:St} {K:Nat->Prop} {d d':D} (h:Nw d d') (hp:d.xF=true):Seen σ K d d':=λM0 w ι v hS hR=>h _ _ _ (Seen.pure hp M0 w ι v hS hR)
theorem xA.seen {P:Program} {g:FuncId} {args args':List D} {d:D} (hc:xA P g args' d) (h:mT jN (λ_=>False) args args'):xA P g args d:= xP.Mw (σ:=jN) (objs':=[]) (λ_=>False) hc h λk o hk=>by cases hk
theorem K9 (f g:List Nd):xA prog 92 [.sl 6 (wP f),.sl 6 (wP g)] (.sl 6 (wP (PW f g))):=by refine xI func92 GA λhf=>?_;refine zC ?_;refine .go (xP.yP (sb ⟨5,0,0,0,0,0⟩ [f,g] (by simp)) (by simp [D.xR,D.xF,Nd.row,nl])) ?_;refine xJ ?_;exact .same
theorem P8 (a b:zB):decide (a=b)= (decide (a.yi=b.yi)&& decide (a.loc=b.loc)):=by cases a; cases b;rw [Bool.eq_iff_iff];simp [and_comm]
theorem Ua (a b:zB) (h1:a.yi.length<=1000000) (h2:a.loc.length<=1000000) (h3:∀ l ∈ a.loc,l.length<=1000000):xA prog 81 [.agg a.row,.agg b.row] (.bool (decide (a=b))):=by
 rw [P8];have hA:a.row = [.sl 1 (rl a.loc),.sl 1 (us a.yi)]:=rfl;have hB:b.row = [.sl 1 (rl b.loc),.sl 1 (us b.yi)]:=rfl;rw [hA,hB];cases a with | mk la fa=>
 cases b with | mk lb fb=>
 simp only at h1 h2 h3 ⊢;refine xI func81 Fv λhf=>?_;by_cases c1:fa.length=fb.length
 case neg=>
  have q1:((fa.length:Int) != (fb.length:Int))= true:=by simpa using λc=>c1 (by omega)
  rw [decide_eq_false (λc=>c1 (congrArg List.length c))];refine bO xT sI q1 ?_;exact .dv
 have q1:((fa.length:Int) != (fb.length:Int))= false:=by rw [c1]; simp
 by_cases c2:la.length=lb.length
 case neg=>
  have q2:((la.length:Int) != (lb.length:Int))= true:=by simpa using λc=>c2 (by omega)
  rw [decide_eq_false (p:=la=lb) (λc=>c2 (congrArg List.length c)),Ad];refine cI xT sI q1 q2 ?_;exact .dv
 have q2:((la.length:Int) != (lb.length:Int))= false:=by rw [c2]; simp
 refine cI xT sI q1 q2 ?_
 refine xU (λk:Nat=>[(5,.int .i64 k),(3,.ref 1 2 0 0),(2,.ref 0 2 0 0)]) (λ_=>⟨2,[(1,⟨2,[[.sl 1 (rl lb),.sl 1 (us fb)]]⟩),(0,⟨2,[[.sl 1 (rl la),.sl 1 (us fa)]]⟩)]⟩)
  (λk=>k<=fa.length/\decide (fa=fb)= decide (fa.drop k=fb.drop k)) (λk=>fa.length-k) 0 ⟨χ _,rfl⟩ ?_ ?_
 ·exact wE
 rintro k ⟨hk,hd⟩;refine xN mixed ?_
 by_cases h:k<fa.length
 ·have q:((k:Int)<(fa.length:Int)):=by omega
  rw [hd,eR (d:=0#64) h (by omega)]
  by_cases e:fa.getD k 0#64=fb.getD k 0#64
  ·rw [decide_eq_true e,Ac];have e':(fa.getD k 0 != fb.getD k 0)= false:=by show (fa.getD k 0#64 != fb.getD k 0#64)= false; rw [e]; simp
   simp only [simprocAttr,-ZA,↓zU,↓zD,zV,zT,zW,q,xT,zX fa h,zX fb (show k<fb.length by omega),e']
   (repeat refine sd ?_)
   refine⟨k+1,⟨h,rfl⟩,?_,by omega⟩;exact yH
  ·rw [decide_eq_false e,Ab,Ab];have e':(fa.getD k 0 != fb.getD k 0)= true:=by simpa using e
   simp only [simprocAttr,-ZA,↓zU,↓zD,zV,zT,zW,q,xT,zX fa h,zX fb (show k<fb.length by omega),e']
   (repeat refine sd ?_)
   exact .dv
 have q:¬ ((k:Int)<(fa.length:Int)):=by omega
 have hf:decide (fa=fb)= true:=by rw [hd,δ (by omega),δ (by omega)]; simp
 rw [hf,Ac];refine yM q xT ?_
 refine xU (λk:Nat=>[(6,.int .i64 k),(3,.ref 1 2 0 0),(2,.ref 0 2 0 0)]) (λ_=>⟨2,[(1,⟨2,[[.sl 1 (rl lb),.sl 1 (us fb)]]⟩),(0,⟨2,[[.sl 1 (rl la),.sl 1 (us fa)]]⟩)]⟩)
  (λk=>k<=la.length/\decide (la=lb)= decide (la.drop k=lb.drop k)) (λk=>la.length-k) 0 ⟨χ _,rfl⟩ ?_ ?_
 ·exact wE
 rintro k ⟨hk,hd⟩;refine xN mixed ?_;by_cases h:k<la.length
 case neg=>
  have q:¬ ((k:Int)<(la.length:Int)):=by omega
  rw [hd,δ (by omega),δ (by omega)];refine yM q sI ?_;exact .dv
 have q:((k:Int)<(la.length:Int)):=by omega
 have h3k:=h3 _ (xK (d:=[]) h);have g1:=zq la h;have g2:=zq lb (show k<lb.length by omega);have hd2:=hd;rw [eR (d:=[]) h (by omega)] at hd2;rw [hd2];generalize la.getD k []=x at *;generalize lb.getD k []=y at *;by_cases c3:x.length=y.length
 case neg=>
  have q3:((x.length:Int) != (y.length:Int))= true:=by simpa using λc=>c3 (by omega)
  rw [decide_eq_false (λc=>c3 (congrArg List.length c)),Ab];refine oH q sI g1 g2 yV q3 ?_;exact .dv
 have q3:((x.length:Int) != (y.length:Int))= false:=by rw [c3]; simp
 refine oH q sI g1 g2 yV q3 ?_
 refine xU (λj:Nat=>[(7,.int .i64 j),(6,.int .i64 k),(3,.ref 1 2 0 0),(2,.ref 0 2 0 0)]) (λ_=>⟨2,[(1,⟨2,[[.sl 1 (rl lb),.sl 1 (us fb)]]⟩),(0,⟨2,[[.sl 1 (rl la),.sl 1 (us fa)]]⟩)]⟩)
  (λj=>j<=x.length/\decide (x=y)= decide (x.drop j=y.drop j)) (λj=>x.length-j) 0 ⟨χ _,rfl⟩ ?_ ?_
 ·exact wE
 rintro j ⟨hj,hdj⟩;refine xN mixed ?_
 by_cases hx:j<x.length
 ·have qx:((j:Int)<(x.length:Int)):=by omega
  rw [hdj,eR (d:=0) hx (by omega)]
  by_cases e:x.getD j 0=y.getD j 0
  ·rw [decide_eq_true e,Ac];have e':(x.getD j 0 != y.getD j 0)= false:=by rw [e]; simp
   simp only [simprocAttr,-ZA,↓zU,↓zD,zV,zT,zW,qx,sI,g1,g2,yV,wT .i64 x hx,wT .i64 y (show j<y.length by omega),e']
   (repeat refine sd ?_)
   refine⟨j+1,⟨hx,rfl⟩,?_,by omega⟩;exact yH
  ·rw [decide_eq_false e,Ab,Ab];have e':(x.getD j 0 != y.getD j 0)= true:=by simpa using e
   simp only [simprocAttr,-ZA,↓zU,↓zD,zV,zT,zW,qx,sI,g1,g2,yV,wT .i64 x hx,wT .i64 y (show j<y.length by omega),e']
   (repeat refine sd ?_)
   exact .dv
 have qx:¬ ((j:Int)<(x.length:Int)):=by omega
 have hxy:decide (x=y)= true:=by rw [hdj,δ (by omega),δ (by omega)]; simp
 refine qP qx sI g1 g2 yV ?_;refine⟨k+1,⟨h,by rw [hxy,Ac]⟩,?_,by omega⟩;exact yH
theorem PB (a b:jW):decide (a=b)= (decide (a.ag=b.ag)&& (decide (a.fa=b.fa)&& (decide (a.ln=b.ln)&& decide (a.rs=b.rs)))):=by cases a; cases b;rw [Bool.eq_iff_iff];simp
def qv (s:jW):Prop:=s.rs.length<=1000000/\∀ r ∈ s.rs,r.yi.length<=1000000/\r.loc.length<=1000000/\∀ l ∈ r.loc,l.length<=1000000
theorem SF (a b:jW) (hs:qv a):xA prog 23 [a.d,b.d] (.bool (decide (a=b))):=by
 rw [PB];have hA:a.d = .agg [.int .i64 a.ag,.int .i64 a.fa,.int .i64 a.ln,.sl 2 (tD a.rs)]:=rfl;have hB:b.d = .agg [.int .i64 b.ag,.int .i64 b.fa,.int .i64 b.ln,.sl 2 (tD b.rs)]:=rfl;rw [hA,hB];cases a with | mk a1 a2 a3 xs=>
 cases b with | mk b1 b2 b3 ys=>
 obtain⟨h1,h2⟩:=hs;simp only at h1 h2 ⊢;refine xI func23 FK λhf=>?_;by_cases c1:a1=b1
 case neg=>
  have q:(a1 != b1)= true:=by simpa using c1
  rw [decide_eq_false c1,Ab];refine yM q oT ?_;exact .dv
 by_cases c2:a2=b2
 case neg=>
  have q1:(a1 != b1)= false:=by simpa using c1
  have q:(a2 != b2)= true:=by simpa using c2
  rw [decide_eq_false c2,Ab,Ad];refine bO q1 q oT ?_;exact .dv
 by_cases c3:a3=b3
 case neg=>
  have q1:(a1 != b1)= false:=by simpa using c1
  have q2:(a2 != b2)= false:=by simpa using c2
  have q:(a3 != b3)= true:=by simpa using c3
  rw [decide_eq_false c3,Ab,Ad,Ad];refine cI q1 q2 q oT ?_;exact .dv
 have q1:(a1 != b1)= false:=by simpa using c1
 have q2:(a2 != b2)= false:=by simpa using c2
 have q3:(a3 != b3)= false:=by simpa using c3
 rw [decide_eq_true c1,decide_eq_true c2,decide_eq_true c3,Ac,Ac,Ac];by_cases c4:xs.length=ys.length
 case neg=>
  have q:((xs.length:Int) != (ys.length:Int))= true:=by simpa using λc=>c4 (by omega)
  rw [decide_eq_false (λc=>c4 (congrArg List.length c))];refine bd q1 q2 q3 q oT ?_;exact .dv
 have q4:((xs.length:Int) != (ys.length:Int))= false:=by rw [c4]; simp
 clear c1 c2 c3;refine bd q1 q2 q3 q4 oT ?_
 refine xU (λk:Nat=>[(5,.int .i64 k),(3,.ref 1 4 0 0),(2,.ref 0 4 0 0)]) (λ_=>⟨2,[(1,⟨4,[[.int .i64 b1,.int .i64 b2,.int .i64 b3,.sl 2 (tD ys)]]⟩),(0,⟨4,[[.int .i64 a1,.int .i64 a2,.int .i64 a3,.sl 2 (tD xs)]]⟩)]⟩)
  (λk=>k<=xs.length/\decide (xs=ys)= decide (xs.drop k=ys.drop k)) (λk=>xs.length-k) 0 ⟨χ _,rfl⟩ ?_ ?_
 ·exact wE
 rintro k ⟨hk,hd⟩;refine xN mixed ?_;by_cases h:k<xs.length
 case neg=>
  have q:¬ ((k:Int)<(xs.length:Int)):=by omega
  rw [hd,δ (by omega),δ (by omega)];refine yM q oT ?_;exact .dv
 have q:((k:Int)<(xs.length:Int)):=by omega
 have hr:=h2 _ (xK (d:=pH) h);have hc:=Ua (xs.getD k pH) (ys.getD k pH) hr.1 hr.2.1 hr.2.2;have g1:(tD xs).getD k [] = [.sl 1 (rl (xs.getD k pH).loc),.sl 1 (us (xs.getD k pH).yi)]:=Xc xs h;have g2:(tD ys).getD k [] = [.sl 1 (rl (ys.getD k pH).loc),.sl 1 (us (ys.getD k pH).yi)]:=Xc ys (by omega);have hc:xA prog 81 [.agg [.sl 1 (rl (xs.getD k pH).loc),.sl 1 (us (xs.getD k pH).yi)],.agg [.sl 1 (rl (ys.getD k pH).loc),.sl 1 (us (ys.getD k pH).yi)]] _:=hc;rw [hd,eR (d:=pH) h (by omega)];rw [eR (d:=pH) h (by omega)] at hd;generalize xs.getD k pH=x at *;generalize ys.getD k pH=y at *;generalize hP:decide (x=y)= b at *;refine uC q oT g1 g2 ?_;refine .go (cq hc) ?_
 cases b with
 | false=> rw [Ab];refine xJ ?_;exact .dv
 | true=> rw [Ac];refine xJ ?_;refine⟨k+1,⟨h,rfl⟩,?_,by omega⟩;exact yH
open Rs Fm Ru Te Kb
namespace Kb
instance : DecidableEq sV := λa b => decidable_of_iff (a.ag = b.ag /\ a.seen = b.seen /\ a.mv = b.mv) (by cases a; cases b; simp)
def Zd : List sV:=[⟨0,[0#64],-1⟩,⟨0,[1#64],0⟩,⟨0,[0#64,0#64],-1⟩,⟨0,[1#64,1#64],-1⟩,⟨1,[0#64],-1⟩,⟨1,[0#64,0#64],-1⟩,⟨1,[0#64,2#64],-1⟩]
theorem WW : mU ke 3=Zd:=by unfold mU;rw [if_neg (by rw [ab]; simp),show (3:Int).toNat-1=2 from rfl,df];unfold gC rQ;simp only [Pv];decide +kernel
theorem s7 : jY ke Zd 3=0:=by decide +kernel
theorem O7 : vB ke Zd 2 = [[0#64,0#64,0#64],[1#64,3#64,3#64]]:=by decide +kernel
theorem MA : ZV ke Zd 3=Pq:=by unfold ZV;rw [if_neg (by rw [s7]; simp),show (3:Int).toNat=3 from rfl,O7,Xj];decide +kernel
theorem MB : Uw ke Zd 3=true:=by decide +kernel
theorem eT : oY ke:=⟨by decide,by decide,by decide⟩
theorem de : zl Zd:=⟨by decide,by decide⟩
theorem M9 : uA ke=0:=by decide +kernel
theorem Tj : qv Pq:=by unfold qv; decide
end Kb
open Rs Fm Ru Te Kb
def TH : D:=.agg [.int .i64 2,.sl 1 (us [0#64,1#64]),.sl 1 (us [1#64,2#64]),.sl 1 (uH [[⟨1,nL 0⟩]]),.sl 1 [[.sl 2 (Zc [⟨GE,0⟩])],[.xL]]]
theorem M8 : Nw TH ke.d:=by
 refine Nw.agg rfl λj hj=>?_
 match j,hj with
 | 0,_=>exact Nw.refl _
 | 1,_=>exact Nw.refl _
 | 2,_=>exact Nw.refl _
 | 3,_=>exact Nw.refl _
 | 4,_=>
  refine Nw.sl rfl (by decide) λi hi j hj=>?_;have e:j=0:=by omega
  subst e
  match i,hi with
  | 0,_=>exact Nw.refl _
  | 1,_=>exact Nw.xL 2
theorem Tk : xA prog 36 [] TH:=by have c1:=Lr 0;have c2:=Lt 1 (nL 0);have c3:=KC (vl 1 (nL 0));have c4:=K9 (nL 0) (V0 (vl 1 (nL 0)));have hD:TH = .agg [.int .i64 2,.sl 1 (us [0#64,1#64]),.sl 1 (us [1#64,2#64]),.sl 1 [[.sl 2 [[.int .i64 1,.sl 6 (wP (nL 0))]]]],.sl 1 [[.sl 2 [[.sl 6 (wP (PW (nL 0) (V0 (vl 1 (nL 0))))),.int .i64 0]]],[.xL]]]:=rfl;rw [hD];generalize PW (nL 0) (V0 (vl 1 (nL 0)))= g1 at *;generalize V0 (vl 1 (nL 0))= g2 at *;generalize vl 1 (nL 0)= g3 at *;generalize nL 0=g4 at *;refine xI func36 FP λhf=>?_;refine xJ ?_;refine .go (cq c1) ?_;refine zC ?_;refine .go (cr c2) ?_;refine xJ ?_;refine .go (cr c3) ?_;refine xJ ?_;refine .go (cr c4) ?_;refine zC ?_;exact .drop (by simp) (by simp [vw,uK,us,ui])
theorem Np : xA prog 15 [] (.bool true):=by
 have hp:TH.xF=true:=rfl;have S1:Seen jN (λ_=>False) TH ke.d:=M8.seen hp;have hP:xA prog 19 [TH,.int .i64 3] (.wH [Pq.d,.int .i64 0]):=xA.seen (args':=[ke.d,.int .i64 3]) (by have:=SB ke eT 3; rwa [O8,ab] at this) ⟨S1,Seen.pure rfl,trivial⟩;have hL:xA prog 21 [TH,.int .i64 3] (.wH [.sl 3 (pQ Zd),.int .i64 0]):=xA.seen (args':=[ke.d,.int .i64 3]) (by have:=ko ke eT 3; rwa [WW,ab] at this) ⟨S1,Seen.pure rfl,trivial⟩;have hG:xA prog 25 [TH,.sl 3 (pQ Zd),.int .i64 3] (.wH [Pq.d,.int .i64 0]):=xA.seen (args':=[ke.d,.sl 3 (pQ Zd),.int .i64 3]) (by have:=W9 ke eT Zd de 3; rwa [MA,s7] at this) ⟨S1,Seen.pure rfl,Seen.pure rfl,trivial⟩;have hI:xA prog 27 [TH,.sl 3 (pQ Zd),.int .i64 3] (.wH [.bool true,.int .i64 0]):=xA.seen (args':=[ke.d,.sl 3 (pQ Zd),.int .i64 3]) (by have:=l4 ke eT Zd de 3; rwa [MB,s7] at this) ⟨S1,Seen.pure rfl,Seen.pure rfl,trivial⟩;have hC:xA prog 17 [TH] (.int .i64 0):=xA.seen (args':=[ke.d]) (by have:=VB ke eT; rwa [M9] at this) ⟨S1,trivial⟩;have hS:xA prog 23 [Pq.d,Pq.d] (.bool true):=by have:=SF Pq Pq Tj; simpa using this
 have hE:=Tk;have eL:pQ Zd = [[.int .i64 0,.sl 1 (us [0#64]),.int .i64 (-1)],[.int .i64 0,.sl 1 (us [1#64]),.int .i64 0],[.int .i64 0,.sl 1 (us [0#64,0#64]),.int .i64 (-1)],[.int .i64 0,.sl 1 (us [1#64,1#64]),.int .i64 (-1)],[.int .i64 1,.sl 1 (us [0#64]),.int .i64 (-1)],[.int .i64 1,.sl 1 (us [0#64,0#64]),.int .i64 (-1)],[.int .i64 1,.sl 1 (us [0#64,2#64]),.int .i64 (-1)]]:=rfl;have eS:Pq.d = .agg [.int .i64 2,.int .i64 2,.int .i64 3,.sl 2 [[.sl 1 [[.sl 1 [[.int .i64 0],[.int .i64 0]]],[.sl 1 [[.int .i64 2],[.int .i64 1]]],[.sl 1 [[.int .i64 4],[.int .i64 3]]]],.sl 1 [[.int .u64 0],[.int .u64 0],[.int .u64 0]]],[.sl 1 [[.sl 1 [[.int .i64 1],[.int .i64 0]]],[.sl 1 [[.int .i64 3],[.int .i64 2]]],[.sl 1 [[.int .i64 5],[.int .i64 4]]]],.sl 1 [[.int .u64 1],[.int .u64 3],[.int .u64 3]]]]]:=rfl;rw [eS] at hP hG hS;generalize TH=d at *;generalize hl:pQ Zd=cl at *;refine xI func15 FG λhf=>?_;refine xJ ?_;refine .go (cq hE) ?_;refine xJ ?_;refine .go (xP.yP hP (by simp [D.xR,D.xF,hp])) ?_;refine xJ ?_;refine .go (cq hE) ?_;refine xJ ?_;refine .go (xP.yP hL (by simp [D.xR,D.xF,hp])) ?_;refine xJ ?_;refine .go (cq hE) ?_;refine xJ ?_;refine .go (xP.yP hG (by simp [D.xR,D.xF,hp])) ?_;refine xJ ?_;refine .go (cq hE) ?_;refine xJ ?_;refine .go (xP.yP hI (by simp [D.xR,D.xF,hp])) ?_;refine zC ?_;refine .go (cr hS) ?_;refine xJ ?_;refine .go (cr hS) ?_;refine wA eL ?_;refine .go (cq hE) ?_;refine xJ ?_;refine .go (xP.yP hC (by simp [D.xR,D.xF,hp])) ?_;refine xJ ?_;exact .dv
open Rs Fm Ru Te Kb
theorem Ls (p:yT):xA prog 16 [p.d,.xL] (.bool (jZ p [])):=xA.seen (args':=[p.d,.sl 3 (pQ [])]) (KB p []) ⟨Seen.pure rfl,Seen.nil 3,trivial⟩
theorem WY {p:yT} {l:List sV} (h:jZ p l=true):oY p:=by obtain⟨h1,h2,h3⟩:=Tl h;exact⟨h1,h2,h3⟩
open Rs Fm Ru Te Kb
namespace Kb
theorem Md {p:yT} {F k:Nat} (hv:aN p F) (hk:k<=5) {sts:List (List (BitVec 64))} (hS:Zb p F sts k):j5 (kE p.xW sts (k+1)) p.xW.length F (k+1):=by
 have hl:=qb p.xW sts (k+1);have hR:=hv.hI;have hn:=hS.len
 have key:∀ r ∈ kE p.xW sts (k+1),∃ i,i<sts.length/\r=⟨(List.range (k+1)).map λt=>(List.range p.xW.length).map λa=>((below (rD p.xW sts (k+1) a) (vV p.xW sts a (i,t)):Nat):Int),vQ sts i⟩:=λr hr=>by
  obtain⟨i,hi,rfl⟩:=ο hr;have hi':i<sts.length:=by omega
  refine⟨i,hi',?_⟩;rw [<- qa hi'];simp [List.getD,hi]
 refine⟨hv.hA.2,hv.hF,⟨by omega,by omega⟩,⟨by omega,by omega⟩,?_,?_,?_,?_,?_⟩
 ·rw [hl];have:sts.length*(k+1)<=16*6:=ω (by omega) (by omega);omega
 ·intro r hr;obtain⟨i,hi,rfl⟩:=key r hr;simp
 ·intro r hr;obtain⟨i,hi,rfl⟩:=key r hr;exact hS.run _ (qE hi)
 ·intro r hr l hm;obtain⟨i,hi,rfl⟩:=key r hr;simp only [ε] at hm;obtain⟨t,_,rfl⟩:=hm;simp
 ·intro r hr f hm;obtain⟨i,hi,rfl⟩:=key r hr;exact hS.val _ (qE hi) f hm
end Kb
open Rs Fm Ru Te Kb
open Rs Fm Ru Te Kb
namespace Kb
theorem gj {xW:List (BitVec 64)} {sts:List (List (BitVec 64))} {t a v w:Nat} (h:uQ xW (vQ sts v) a t=uQ xW (vQ sts w) a t):∀ l,uF xW sts t a v l=uF xW sts t a w l
 | []=>rfl
 | c :: r=>by unfold uF Nf;rw [h,gj h r]
section
variable {p : yT} {sts : List (List (BitVec 64))} {T : Nat}
theorem O0 (hl:∀ st ∈ sts,T<=st.length) {a r t:Nat} (hr:r<sts.length) (ht:t<T):nO p sts a (vV p.xW sts a (r,t))= ⟨a,uQ p.xW (vQ sts r) a t,sC p sts t a r⟩:=by have hm:vV p.xW sts a (r,t)∈ rD p.xW sts T a:=iY.2 ⟨r,t,hr,ht,rfl⟩;have hlen:=Yl (xW:=p.xW) (a:=a) (sts:=sts) (r:=r) (t:=t) (by have:=hl _ (qE hr); omega);obtain⟨h1,h2,h3,h4⟩:=aY hm hl;unfold nO;rw [hlen,υ] at *;have e:=congrArg Pm h2;rw [se,se] at e;rw [se];congr 1;exact gj e _
theorem UJ {x:sV}:x ∈ gC p sts T ↔ ∃ a r t,a<p.xW.length/\r<sts.length/\t<T/\x=nO p sts a (vV p.xW sts a (r,t)):=by
 unfold gC rQ;simp only [List.mem_flatMap,ζ,ε]
 constructor
 ·rintro ⟨a,ha,h,hm,rfl⟩;obtain⟨r,t,hr,ht,rfl⟩:=iY.1 hm;exact⟨a,r,t,ha,hr,ht,rfl⟩
 ·rintro ⟨a,r,t,ha,hr,ht,rfl⟩;exact⟨a,ha,_,iY.2 ⟨r,t,hr,ht,rfl⟩,rfl⟩
end
theorem Wt {p:yT} {F:Nat} (hv:aN p F) {k:Nat} (hk:k<=5):(gC p (yK p k) k).length<=p.xW.length*(p.init.length*k)/\ zl (gC p (yK p k) k):=by
 have hl:∀ st ∈ yK p k,k<=st.length:=λst hs=>by rw [(qD hv k).run st hs]; omega
 have h1:=wz (p:=p) (sts:=yK p k) (T:=k) (n:=p.xW.length);rw [pk hv] at h1;have hA:=hv.hA;have hI:=hv.hI;have hb:p.xW.length*(p.init.length*k)<=4*(16*5):=ω hA.2 (ω hI.2 hk);refine⟨h1,⟨by show (gC p (yK p k) k).length<=_; unfold gC; omega,λc hc=>?_⟩⟩;obtain⟨a,r,t,ha,hr,ht,rfl⟩:=UJ.1 hc;rw [O0 hl hr ht];have:=eV (xW:=p.xW) (st:=vQ (yK p k) r) (a:=a) (t:=t) (by have:=hl _ (qE hr); omega);show (uQ p.xW (vQ (yK p k) r) a t).length<=1000;omega
end Kb
open Rs Fm Ru Te Kb
theorem Qy {rs:List zB} {A F T:Nat} (ok:j5 rs A F T):qv ⟨A,F,T,rs⟩:=by have hT:=ok.hT;have hR:=ok.hR;have hA:=ok.hA;refine⟨by show rs.length<=_; omega,λr hr=>⟨by rw [ok.yi r hr]; omega,by rw [ok.loc r hr]; omega,λl hl=>by rw [ok.row r hr l hl]; omega⟩⟩
open Rs Fm Ru Te Kb
theorem YB (p:yT) (n:Int):qv (qM p n):=by
 by_cases c:rJ p n=0
 ·obtain⟨F,k,hv,rfl,hk⟩:=qI c;unfold qM;rw [if_neg (by simpa using c),Ae,υ,hv.fe];exact Qy (Md hv hk (qD hv k))
 ·unfold qM;rw [if_pos c];exact⟨χ _,λr hr=>by cases hr⟩
theorem R9 (p:yT) (n:Int):(mU p n).length<=100000:=by
 by_cases c:rJ p n=0
 ·obtain⟨F,k,hv,rfl,hk⟩:=qI c;unfold mU;rw [if_neg (by simpa using c),Ae,υ];have h1:=(Wt hv hk).1;have hA:=hv.hA;have hI:=hv.hI;have hb:p.xW.length*(p.init.length*k)<=4*(16*5):=ω hA.2 (ω hI.2 hk);omega
 ·unfold mU;rw [if_pos c];exact χ _
theorem MV (p:yT) (n:Int):xA prog 4 [p.d,.int .i64 n] (.bool true):=by
 have hD:p.d = .agg [.int .i64 p.F,.sl 1 (us p.init),.sl 1 (us p.xW),.sl 1 (uH p.xO),.sl 1 (uG p.code)]:=rfl;have hF:=Ls p;have hS:=λh=>WY (p:=p) (l:=[]) h;have hA:=Np;have h1:=λsm=>SB p sm n;have h2:=λsm=>Vj Vk p sm n;have h3:=λsm=>ko p sm n;have h4:=λsm=>YE Vk p sm n;have hE:=SF (qM p n) (qM p n) (YB p n);rw [decide_eq_true rfl] at hE;have hC:=P2 (R9 p n);generalize qM p n=S at *;generalize mU p n=l at *;generalize rJ p n=e at *;obtain⟨s1,s2,s3,s4⟩:=S;unfold jW.d jW.cells at *;simp only at h1 h2 hE;rw [hD] at *;generalize jZ p []=b at *;refine xI func4 k4 λhf=>?_
 cases b with
 | false=> refine xJ ?_;refine .go (cq hA) ?_;refine xJ ?_;refine .go (cq hF) ?_;refine xJ ?_;refine .go (cq hA) ?_;refine xJ ?_;exact .dv
 | true=>
  have sm:=hS rfl;have h1:=h1 sm;have h2:=h2 sm;have h3:=h3 sm;have h4:=h4 sm
  by_cases c6:6<p.init.length
  ·have c6':(6:Int)<(p.init.length:Int):=by omega
   refine xJ ?_;refine .go (cq hA) ?_;refine xJ ?_;refine .go (cq hF) ?_;refine yM xT c6' ?_;refine .go (cq hA) ?_;refine xJ ?_;exact .dv
  have c6':¬ (6:Int)<(p.init.length:Int):=by omega
  refine xJ ?_;refine .go (cq hA) ?_;refine xJ ?_;refine .go (cq hF) ?_;refine yM xT c6' ?_;refine .go (cq h1) ?_;refine zC ?_;refine .go (cq h2) ?_;refine zC ?_;refine .go (cq h3) ?_;refine zC ?_;refine .go (cq h4) ?_;refine zC ?_;refine .go (cq hE) ?_;refine zC ?_;refine .go (cq hC) ?_;refine zC ?_;exact .dv
end Go.Pd
