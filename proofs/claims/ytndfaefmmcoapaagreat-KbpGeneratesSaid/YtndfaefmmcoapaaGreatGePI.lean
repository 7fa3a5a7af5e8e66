/- Part PI. -/
import Derived.Test.YtndfaefmmcoapaaGreatGeLF
import Derived.Test.YtndfaefmmcoapaaGreatGeKV
import Derived.Test.YtndfaefmmcoapaaGreatGeKZ
set_option linter.unusedSectionVars false
set_option linter.unusedVariables false
set_option linter.unusedSimpArgs false
set_option linter.defProp false
set_option maxRecDepth 20000
set_option maxHeartbeats 1000000
open Go.Proofs.Tryz
open List renaming mem_singleton->γ,take_of_length_le->δ,mem_append->ε,range'->ζ,take_zero->η,mem_map->θ,length_take->κ,filter_cons->μ,eq_nil_of_length_eq_zero->ν,nil_append->ξ,mem_filter->ο,append_nil->π,mem_range->τ,length_filter_le->υ,pairwise_append->χ,length_range->ψ,foldl_append->ω,any_eq_true->Aa
open Nat renaming zero_le->Ab,le_refl->Ac
namespace Go.Pd
open Go Go.Proofs
open BitVec renaming isValue -> ZA
open Rs Fm Ru Te Kb
theorem YJ {F:Nat} (hF:F<=8) {s:BitVec 64} (hs:s >>> F=0#64):s.toNat<256:=by
 have h:=congrArg BitVec.toNat hs;rw [BitVec.toNat_ushiftRight,Nat.shiftRight_eq_div_pow,show (0#64).toNat=0 from rfl] at h
 have h2:s.toNat<2 ^ F:=by
  rcases Nat.div_eq_zero_iff.1 h with h | h
  ·have:=Nat.two_pow_pos F; omega
  ·exact h
 have:=Nat.pow_le_pow_right (n:=2) (by decide) hF;omega
theorem RF {p:yT} {F:Nat} (h:zz p F) {s:BitVec 64} (hs:s >>> F=0#64) {mv:List Int} (hl:mv.length<=1000) (hmv:∀ k ∈ mv,k<p.xO.length) :
  xA prog 126 [p.d,.int .u64 (ui s),.sl 1 (rows .i64 mv)] (.int .u64 (ui (j7 p s mv))):=by
 have hF:=h.hF;have hA:=h.hA;have hv:=YJ hF hs
 have hcv:IntKind.i64.wrap (ui s)= ((s.toNat:Nat):Int):=by show IntKind.i64.wrap ((s.toNat:Nat):Int)= _;exact wrap_i64 (by omega)
 have hH:∀ f,vq p f 0=0->xA prog 187 [.sl 6 (wN f),.int .i64 s.toNat] (.bool (bo p.xV.length f s)):=λf hE=>by
  obtain⟨h1,h2,h3⟩:=sj hE;have h0:zX f=0:=NM ⟨zX f,nG f⟩ h2;unfold zX at h0;have:=RI h1 (sK.1 h0) s.toNat p.xV.length
  rwa [BitVec.ofNat_toNat,BitVec.setWidth_eq] at this
 have hD:p.d = .agg [.int .i64 p.F,.sl 1 (us p.init),.sl 1 (us p.xV),.sl 1 (uK p.xO),.sl 1 (uJ p.code)]:=rfl;rw [hD];refine xI func126 IW λhf=>?_;refine zI ?_
 refine xU (λk:Nat=>[(8,.int .i64 k),(7,.int .u64 (ui ((mv.take k).foldl (kC p s) s))),(3,.ref 0 5 0 0),(2,.sl 1 (rows .i64 mv)),(1,.int .u64 (ui s))])
  (λ_=>⟨1,[(0,⟨5,[p.cells]⟩)]⟩)
  (λk=>k<=mv.length) (λk=>mv.length-k) 0 (Ab _) ?_ ?_
 ·unfold yT.cells
  (refine yR.same ?_; simp [yS,Fr.get,η,List.foldl_nil])
 intro k hk;refine xN mixed ?_;unfold yT.cells;by_cases hkl:k<mv.length
 case neg=>
  have hd2:¬ ((k:Int)<(mv.length:Int)):=by omega
  rw [δ (by omega)];refine yO hd2 yU ?_;exact .drop (by simp) (by simp [vw,j7])
 have hd2:((k:Int)<(mv.length:Int)):=by omega
 have hg:=wU .i64 mv hkl;have hlt:=hmv _ (xK (d:=0) hkl)
 have hfo:(mv.take (k+1)).foldl (kC p s) s=kC p s ((mv.take k).foldl (kC p s) s) (mv.getD k 0):=by rw [yE (d:=0) hkl,ω]; rfl
 generalize (mv.take k).foldl (kC p s) s=out0 at hfo ⊢;generalize mv.getD k 0=q at hg hlt hfo
 by_cases hq:q<0
 ·have hm0:kC p s out0 q=out0:=by unfold kC; rw [if_pos hq]
  rw [hm0] at hfo;refine uC hd2 yU hg hq ?_;refine⟨k+1,by omega,?_,by omega⟩
  (refine yR.same ?_; simp only [yS,Fr.get,simprocAttr,-ZA,zS,hfo])
  exact wrap_i64 (by omega)
 have hqn:q.toNat<p.xO.length:=by omega
 have hq0:0<=q:=by omega
 have hgm:=iE p.xO hqn;have hm0:kC p s out0 q=(p.xO.getD q.toNat []).foldl (fR p.xV.length s) out0:=by unfold kC; rw [if_neg hq]
 have hmem:=xK (d:=[]) hqn;generalize p.xO.getD q.toNat []=m at hgm hm0 hmem;have hml8:=YZ h hmem;rw [hm0] at hfo;refine mU hd2 yU hg hq yJ hlt hgm vS ?_
 refine xU (λj:Nat=>[(10,.int .i64 j),(9,.sl 2 (k9 m)),(8,.int .i64 k),(7,.int .u64 (ui ((m.take j).foldl (fR p.xV.length s) out0))),(3,.ref 0 5 0 0),(2,.sl 1 (rows .i64 mv)),(1,.int .u64 (ui s))])
  (λ_=>⟨1,[(0,⟨5,[p.cells]⟩)]⟩)
  (λj=>j<=m.length) (λj=>m.length-j) 0 (Ab _) ?_ ?_
 ·unfold yT.cells
  (refine yR.same ?_; simp only [yS,Fr.get,simprocAttr,-ZA,zS,η,List.foldl_nil])
  all_goals rfl
 intro j hj;refine xN mixed ?_;unfold yT.cells;by_cases hjl:j<m.length
 case neg=>
  have hd3:¬ ((j:Int)<(m.length:Int)):=by omega
  rw [δ (by omega)];refine yO hd3 vS ?_;refine⟨k+1,by omega,?_,by omega⟩
  (refine yR.same ?_; simp only [yS,Fr.get,simprocAttr,-ZA,zS,hfo])
  exact wrap_i64 (by omega)
 have hd3:((j:Int)<(m.length:Int)):=by omega
 have hg2:=kV m hjl
 have hfo2:(m.take (j+1)).foldl (fR p.xV.length s) out0=fR p.xV.length s ((m.take j).foldl (fR p.xV.length s) out0) (m.getD j aN):=by rw [yE (d:=aN) hjl,ω]; rfl
 obtain⟨a1,a2,a3⟩:=oo h.fe (h.mv m hmem _ (xK (d:=aN) hjl));unfold fP.row at hg2;generalize (m.take j).foldl (fR p.xV.length s) out0=out1 at hfo2 ⊢;generalize m.getD j aN=a at hg2 hfo2 a1 a2 a3;have hh:=hH a.to a3;obtain⟨fa,to⟩:=a;simp only at a1 a2 hg2 hh;obtain⟨n,rfl⟩:∃ n:Nat,fa=(n:Int):=⟨fa.toNat,by omega⟩;have hag:fR p.xV.length s out1 ⟨(n:Int),to⟩= out1 &&& ~~~(1#64 <<< n) ||| (if bo p.xV.length to s=true then 1#64 <<< n else 0#64):=rfl;rw [hag] at hfo2
 cases ht:bo p.xV.length to s with
 | true=> rw [ht] at hh;rw [ht,if_pos rfl] at hfo2;refine uC hd3 vS hg2 hcv ?_;refine .go (cr hh) ?_;refine zI ?_;refine⟨j+1,by omega,?_,by omega⟩;rw [hfo2];exact yL
 | false=> rw [ht] at hh;rw [ht,if_neg (by simp),BitVec.or_zero] at hfo2;refine uC hd3 vS hg2 hcv ?_;refine .go (cr hh) ?_;refine zI ?_;refine⟨j+1,by omega,?_,by omega⟩;rw [hfo2];exact yL
open Rs Fm Ru Te Kb
theorem sH.mod {nx n A:Nat} {xZ:List (Nat × Ob)} {kO:Nat} {ks:List Nat} {ess:List (List (List D))} {V:List (List D)} (h:fQ xZ kO ks ess) (hA:A=ess.length) (hd:ks.Nodup) (hk:kO ∉ ks) (hV:V ≠ []->St.look xZ 3=some ⟨1,V⟩) (h3:kO≠3) (h3k:3 ∉ ks)
  (hp:∀ e ∈ ess,∀ r ∈ e,D.xR r=true) (hpV:∀ r ∈ V,D.xR r=true) :
  sH 0 ⟨nx,xZ⟩ (.agg [.int .i64 n,xB 3 1 V,.yD kO 1 A]) ⟨2+A,yX (1+A) 1 V++lE ess⟩ (.agg [.int .i64 n,xB (1+A) 1 V,.yD 0 1 A]):=by
 subst hA;have hlen:=h.len;have hr:(ζ 1 ess.length).length=ess.length:=by simp
 have key:∀ q ∈ yX (1+ess.length) 1 V++lE ess,(q=(1+ess.length,⟨1,V⟩)/\ V ≠ [])\/(q=(0,⟨1,vQ (ζ 1 ess.length) ess⟩))\/∃ i,i<ess.length/\q=(1+i,⟨1,ess.getD i []⟩):=λq hq=>by
  rcases ε.1 hq with hq | hq
  ·cases V with
   | nil=>cases hq
   | cons a b=>exact .inl ⟨γ.1 hq,by simp⟩
  ·unfold lE at hq
   rcases List.mem_cons.1 hq with rfl | hq
   ·exact .inr (.inl rfl)
   ·simp only [θ,τ] at hq;obtain⟨i,hi,rfl⟩:=hq;exact .inr (.inr ⟨i,hi,rfl⟩)
 obtain⟨ρ,r0,r1,r2⟩:∃ ρ:Nat->Nat,ρ 0=kO/\ρ (1+ess.length)= 3/\∀ i,i<ess.length->ρ (1+i)= ks.getD i 0:=
  ⟨λk=>if k=0 then kO else if k=1+ess.length then 3 else ks.getD (k-1) 0,if_pos rfl,by
   show (if 1+ess.length=0 then kO else if 1+ess.length=1+ess.length then 3 else ks.getD (1+ess.length-1) 0)= 3;rw [if_neg (by omega),if_pos rfl],λi hi=>by
   show (if 1+i=0 then kO else if 1+i=1+ess.length then 3 else ks.getD (1+i-1) 0)= ks.getD i 0;rw [if_neg (by omega),if_neg (by omega),show 1+i-1=i by omega]⟩
 refine .inr ⟨ρ,Ab _,λk hk=>absurd hk (Nat.not_lt_zero _),?_,?_,?_⟩
 ·simp only [vw,vC,Vt,r0,r1,and_true,true_and];refine⟨rfl,.inr (by omega),by omega⟩
 ·intro q hq
  rcases key q hq with ⟨rfl,hne⟩ | rfl | ⟨i,hi,rfl⟩
  ·refine⟨by show 1+ess.length<2+ess.length; omega,⟨1,V⟩,?_,rfl,.same hpV⟩;show St.look xZ (ρ (1+ess.length))= _;rw [r1];exact hV hne
  ·refine⟨by show 0<2+ess.length; omega,⟨1,vQ ks ess⟩,?_,rfl,az (by show (vQ ks ess).length=(vQ (ζ 1 ess.length) ess).length; rw [uY hlen,uY hr]) λi hi=>?_⟩
   ·show St.look xZ (ρ 0)= _;rw [r0];exact h.out
   have hi:i<(vQ (ζ 1 ess.length) ess).length:=hi;rw [uY hr] at hi;show ((vQ ks ess).getD i []).length=((vQ (ζ 1 ess.length) ess).getD i []).length/\vC _ _ _ ((vQ ks ess).getD i []) ((vQ (ζ 1 ess.length) ess).getD i []);rw [oT hlen hi,oT hr hi];refine⟨rfl,?_⟩;have e:(ζ 1 ess.length).getD i 0=1+i:=by simp [List.getD,hi]
   simp only [vC,vw,e,and_true,r2 i hi];omega
  ·refine⟨by show 1+i<2+ess.length; omega,⟨1,ess.getD i []⟩,?_,rfl,.same λr hr=>hp _ (xK hi) r hr⟩;show St.look xZ (ρ (1+i))= _;rw [r2 i hi];exact h.each i hi
 ·intro a ha b hb e;have hm:=λi (hi:i<ess.length)=>uZ (l:=ks) (i:=i) (by omega)
  rcases key a ha with ⟨rfl,_⟩ | rfl | ⟨i,hi,rfl⟩ <;> rcases key b hb with ⟨rfl,_⟩ | rfl | ⟨j,hj,rfl⟩
  ·rfl
  ·have e:ρ (1+ess.length)= ρ 0:=e;rw [r0,r1] at e;exact absurd e.symm h3
  ·have e:ρ (1+ess.length)= ρ (1+j):=e;rw [r1,r2 j hj] at e;exact absurd (e ▸ hm j hj) h3k
  ·have e:ρ 0=ρ (1+ess.length):=e;rw [r0,r1] at e;exact absurd e h3
  ·rfl
  ·have e:ρ 0=ρ (1+j):=e;rw [r0,r2 j hj] at e;exact absurd (e ▸ hm j hj) hk
  ·have e:ρ (1+i)= ρ (1+ess.length):=e;rw [r1,r2 i hi] at e;exact absurd (e ▸ hm i hi) h3k
  ·have e:ρ (1+i)= ρ 0:=e;rw [r0,r2 i hi] at e;exact absurd (e ▸ hm i hi) hk
  ·have e:ρ (1+i)= ρ (1+j):=e;rw [r2 i hi,r2 j hj] at e;show 1+i=1+j;rw [xp hd (by omega) (by omega) e]
open Rs Fm Ru Te Kb
namespace Kb
structure IU (xZ : List (Nat × Ob)) (n1 : Nat) (own : List (BitVec 64)) (x : OP) : Prop where
 hj:x.j<=own.length
 hm:n1<=x.m
 kW:x.j≠0->n1<=x.kW/\x.kW<x.m/\St.look x.ob x.kW=some ⟨1,us (own.take x.j)⟩
 oJ:∀ k,k<n1->St.look x.ob k=St.look xZ k
theorem IG.Ke {E:Nat->List (List D)} {A n0:Nat} {x:QP} (h:IG E A n0 x) (hal:x.a<A) {kI kN n2:Nat} {ob:List (Nat × Ob)} (h1:x.nx<=kI/\kI<n2) (h2:x.nx<=kN/\kN<n2) (hne:kI≠kN)
  (hout:St.look ob kN=some ⟨1,vQ (x.ks ++ [kI]) ((List.range x.a).map E ++ [E x.a])⟩) (hnew:St.look ob kI=some ⟨1,E x.a⟩) (hold:∀ k ∈ x.ks,(x.a=0\/k≠x.kO)->St.look ob k=St.look x.xZ k) :
  IG E A n0 ⟨x.a+1,n2,kN,x.ks ++ [kI],ob⟩:=by
 have hn:=h.hn
 refine⟨by show x.a+1<=_; omega,by show n0<=n2; omega,.inl h2.2,by simp [h.kl],λk hk=>?_,?_,λ_ hk=>?_,λ_=>?_⟩
 ·show k<n2
  rcases ε.1 hk with hk | hk
  ·have:=h.ks k hk; omega
  ·rw [γ.1 hk]; exact h1.2
 ·refine List.nodup_append.2 ⟨h.nd,by simp,λk hk j hj e=>?_⟩;have:=h.ks k hk;rw [γ.1 hj] at e;omega
 ·have hk:kN ∈ x.ks ++ [kI]:=hk
  rcases ε.1 hk with hk | hk
  ·have:=h.ks _ hk; omega
  ·exact hne (γ.1 hk).symm
 ·show fQ ob kN (x.ks ++ [kI]) ((List.range (x.a+1)).map E);rw [List.range_succ,List.map_append];have h0:(List.range x.a).map E ≠ []->x.a≠0:=λc e=>c (by rw [e]; rfl);refine fQ.grow (λc=>h.jT (h0 c)) (by rw [h.kl]; simp) hout hnew λk hk=>?_;refine hold k hk ?_
  by_cases c:x.a=0
  ·exact .inl c
  ·exact .inr λe=>h.no c (e ▸ hk)
def kh (xV:List (BitVec 64)) (sts:List (List (BitVec 64))) (t F:Nat):List (BitVec 64):=qV (wV xV sts t) (wS sts.length 0) F
def V6 (xV:List (BitVec 64)) (sts:List (List (BitVec 64))) (t:Nat):List (List (BitVec 64)):=tJ (wV xV sts t) (wS sts.length 0) xV.length
end Kb
theorem Xr {L:List (List (BitVec 64))}:∀ e ∈ L.map us,∀ r ∈ e,D.xR r=true:=λe he r hr=>(iH e he r hr).2
theorem UP {p:yT} {F:Nat} {sts:List (List (BitVec 64))} {t:Nat} (ok:W5 p F sts t):xQ prog 78 [p.d,.sl 1 (rr sts),.int .i64 t] jR
  (.agg [.int .i64 sts.length,xB (1+p.xV.length) 1 (us (kh p.xV sts t F)),.yD 0 1 p.xV.length]) ⟨2+p.xV.length,yX (1+p.xV.length) 1 (us (kh p.xV sts t F))++ lE ((V6 p.xV sts t).map us)⟩:=by
 have hF:=ok.hF;have hA:=ok.hA;have hR:=ok.hR;have ht:=ok.ht;have hl:∀ i,i<sts.length->t<(vK sts i).length:=λi hi=>ok.len _ (xK hi);have hist:∀ a w,a<p.xV.length->w<sts.length->xA prog 79 [p.d,.sl 1 (us (vK sts w)),.int .i64 a,.int .i64 t] (.sl 1 (us (vG p.xV (vK sts w) a t))):=λa w ha hw=>rS (qk p ha (hl w hw) ht);have hkey:=λa v w (ha:a<p.xV.length) (hv:v<sts.length) (hw:w<sts.length)=>xg (xV:=p.xV) (t:=t) ha hv hw;have hfac:=λw (hw:w<sts.length)=>Xo (xV:=p.xV) (t:=t) hw;unfold kh V6;have hll:(wS sts.length 0).length=sts.length:=mJ _ _;have hlg:∀ i,i<sts.length->(wS sts.length 0).getD i (0,0)= (i,0):=λi hi=>mI hi;generalize wV p.xV sts t=rs at *;generalize wS sts.length 0=l at *;have hD:p.d = .agg [.int .i64 p.F,.sl 1 (us p.init),.sl 1 (us p.xV),.sl 1 (uK p.xO),.sl 1 (uJ p.code)]:=rfl;rw [hD] at hist ⊢;rw [ok.fe] at hist ⊢;refine xI func78 Ff λhf=>?_;refine vR yZ ?_
 refine xU (λf:Nat=>[(8,.int .i64 f),(7,.ref 2 3 0 0),(6,.ref 1 3 0 0),(3,.ref 0 5 0 0),(2,.int .i64 t),(1,.sl 1 (rr sts))])
  (λf=>⟨4,yX 3 1 (us (qV rs l f))++ [(2,⟨3,[[.int .i64 sts.length,xB 3 1 (us (qV rs l f)),.xL]]⟩),(1,⟨3,[[.int .i64 0,.xL,.xL]]⟩),(0,⟨5,[[.int .i64 F,.sl 1 (us p.init),.sl 1 (us p.xV),.sl 1 (uK p.xO),.sl 1 (uJ p.code)]]⟩)]⟩)
  (λf=>f<=F) (λf=>F-f) 0 (Ab _) ?_ ?_
 ·(refine rZ [] [2,1,0] ?_; simp only [wR,zQ,simprocAttr,-ZA,exists_eq_left',ne_eq,zR,qV,List.range_zero,List.map_nil,iN,zK,zL,ξ])
 intro f hf;refine xN mixed ?_
 by_cases hfl:f<F
 ·have hd:((f:Int)<(F:Int)):=by omega
  have hvl:(qV rs l f).length=f:=by simp [qV]
  have hvs:qV rs l (f+1)= qV rs l f ++ [oO rs l f sts.length]:=by rw [<- hll]; unfold qV; rw [List.range_succ,List.map_append]; rfl
  generalize qV rs l f=V at hvl hvs;refine xH hd ?_
  refine xU (λw:Nat=>[(10,.int .i64 w),(9,.int .u64 (ui (oO rs l f w))),(8,.int .i64 f),(7,.ref 2 3 0 0),(6,.ref 1 3 0 0),(3,.ref 0 5 0 0),(2,.int .i64 t),(1,.sl 1 (rr sts))])
   (λw=>⟨4,yX 3 1 (us V)++ [(2,⟨3,[[.int .i64 sts.length,xB 3 1 (us V),.xL]]⟩),(1,⟨3,[[.int .i64 0,.xL,.xL]]⟩),(0,⟨5,[[.int .i64 F,.sl 1 (us p.init),.sl 1 (us p.xV),.sl 1 (uK p.xO),.sl 1 (uJ p.code)]]⟩)]⟩)
   (λw=>w<=sts.length) (λw=>sts.length-w) 0 (Ab _) ?_ ?_
  ·(refine yR.same ?_; simp [yS,Fr.get,oO])
  intro w hw;refine xN mixed ?_
  by_cases hwl:w<sts.length
  ·have hd2:((w:Int)<(sts.length:Int)):=by omega
   have hg:=tZ sts hwl
   have hv:oO rs l f (w+1)= oO rs l f w ||| (if ((vK sts w).getD t 0).getLsbD f then 1#64 <<< w else 0#64):=by rw [<- hfac w hwl,<- hlg w hwl]; rfl
   have hlw:=hl w hwl;unfold vK at hv hlw;generalize sts.getD w []=st at hg hv hlw;have hg2:=yF st hlw;have hd0:((t:Int)<(st.length:Int)):=by omega
   generalize st.getD t 0=x at hg2 hv;generalize oO rs l f w=vv at hv
   cases hb:x.getLsbD f
   ·rw [hb,if_neg (by simp),BitVec.or_zero] at hv;refine mU hd2 yZ hg xT hd0 hg2 ud hb ?_;refine⟨w+1,by omega,?_,by omega⟩;rw [hv];exact yL
   ·rw [hb,if_pos rfl] at hv;refine mU hd2 yZ hg xT hd0 hg2 ud hb ?_;refine⟨w+1,by omega,?_,by omega⟩;rw [hv];exact yL
  have hd2:¬ ((w:Int)<(sts.length:Int)):=by omega
  obtain rfl:w=sts.length:=by omega
  refine uC hd2 yZ xT hvl ?_;refine⟨f+1,by omega,?_,by omega⟩;rw [hvs];exact bj [(3,4)] [3,2,1,0] yC
 have hd:¬ ((f:Int)<(F:Int)):=by omega
 obtain rfl:f=F:=by omega
 generalize qV rs l f=V;refine xH hd ?_;have hrl:∀ a,(tO rs l a).length=sts.length:=λa=>by simp [tO,hll]
 have hE:(List.range p.xV.length).map (λa=>us (tO rs l a))= (tJ rs l p.xV.length).map us:=by simp only [tJ,List.map_map]; rfl
 refine xU (λx:QP=>[(11,.int .i64 x.a),(7,.ref 2 3 0 0),(6,.ref 1 3 0 0),(3,.ref 0 5 0 0),(2,.int .i64 t),(1,.sl 1 (rr sts))]) (λx=>⟨x.nx,x.xZ⟩)
  (λx=>IG (λa=>us (tO rs l a)) p.xV.length 4 x/\St.look x.xZ 0=some ⟨5,[[.int .i64 f,.sl 1 (us p.init),.sl 1 (us p.xV),.sl 1 (uK p.xO),.sl 1 (uJ p.code)]]⟩/\ St.look x.xZ 1=some ⟨3,[[.int .i64 0,.xL,.xL]]⟩
   /\ St.look x.xZ 2=some ⟨3,[[.int .i64 sts.length,xB 3 1 (us V),wE x.kO x.a]]⟩/\ (us V ≠ []->St.look x.xZ 3=some ⟨1,us V⟩)/\ (x.a≠0->4<=x.kO)/\ ∀ k ∈ x.ks,4<=k) (λx=>p.xV.length-x.a)
  ⟨0,4,0,[],yX 3 1 (us V)++ [(2,⟨3,[[.int .i64 sts.length,xB 3 1 (us V),.xL]]⟩),(1,⟨3,[[.int .i64 0,.xL,.xL]]⟩),(0,⟨5,[[.int .i64 f,.sl 1 (us p.init),.sl 1 (us p.xV),.sl 1 (uK p.xO),.sl 1 (uJ p.code)]]⟩)]⟩
  ⟨⟨Ab _,Ac _,.inr rfl,rfl,by simp,.nil,λh=>absurd rfl h,λh=>absurd rfl h⟩,by generalize us V=W; cases W <;> rfl,by generalize us V=W; cases W <;> rfl,by generalize us V=W; cases W <;> rfl,λh=>by rw [lN h]; rfl,λh=>absurd rfl h,by simp⟩ ?_ ?_
 ·(refine yR.same ?_; simp [yS,Fr.get,wE])
 rintro ⟨a,nx,kO,ks,xZ⟩ ⟨hB,g0,g1,g2,g3,hk4,hks4⟩;obtain⟨ha,hn0,hkO,hkl,hks,hnd,hno,hnst⟩:=id hB;simp only at ha hn0 hkO hkl hks hnd hno hnst g0 g1 g2 g3 hk4 hks4;refine xN mixed ?_;by_cases hal:a<p.xV.length
 case neg=>
  have hd2:¬ ((a:Int)<(p.xV.length:Int)):=by omega
  obtain rfl:a=p.xV.length:=by omega
  have ha0:p.xV.length≠0:=by omega
  have hn:=hnst ha0;rw [hE] at hn;have hk4:=hk4 ha0;rw [show wE kO p.xV.length = .yD kO 1 p.xV.length by unfold wE; rw [if_neg ha0]] at g2;refine rI hd2 xT g0 g1 g2 ?_;have hEl:p.xV.length=((tJ rs l p.xV.length).map us).length:=by simp [tJ]
  have hk':∀ k o,k≠1->St.look (zC xZ 1 o) k=St.look xZ k:=λk o h=>by rw [xP,if_neg (λe=>h e.symm)]
  have hN:∀ o,fQ (zC xZ 1 o) kO ks ((tJ rs l p.xV.length).map us):=λo=>⟨(hk' kO o (by omega)).trans hn.out,hn.len,λi hi=>(hk' _ o (by have:=hks4 _ (uZ (l:=ks) (i:=i) (by have:=hn.len; omega)); omega)).trans (hn.each i hi)⟩;have hlk:∀ o,St.look (zC xZ 1 o) 1=some o:=λo=>by rw [xP,if_pos rfl,g1]; rfl
  rw [hlk];refine⟨rfl,Nat.zero_lt_one,?_⟩;exact sH.mod (hN _) hEl hnd (hno ha0) (λh=>(hk' 3 _ (by decide)).trans (g3 h)) (by omega) (λh=>by have:=hks4 3 h; omega) Xr (vT _)
 have hd2:((a:Int)<(p.xV.length:Int)):=by omega
 have hown:=hrl a;have hst:=λkI kN n2 ob=>@IG.Ke (λa=>us (tO rs l a)) p.xV.length 4 ⟨a,nx,kO,ks,xZ⟩ hB hal kI kN n2 ob;simp only at hst
 have howg:∀ i,i<sts.length->(tO rs l a).getD i 0=Ru.pF rs l a (vJ rs a (i,0)) sts.length:=λi hi=>by rw [<- hlg i hi,<- hll];simp [tO,List.getD,hll,hi]
 have hist:=λk hk=>hist a k hal hk;have hkey:=λi k hi hk=>hkey a k i hal hk hi;have hRs:∀ x k,k<sts.length->Ru.pF rs l a x (k+1)= Ru.pF rs l a x k ||| (if vJ rs a (k,0)= x then 1#64 <<< k else 0#64):=λx k hk=>by rw [<- hlg k hk]; rfl
 generalize tO rs l a=own at *;refine rF hd2 xT g0 ?_
 refine xU (λx:OP=>[(13,.int .i64 x.j),(12,wE x.kW x.j),(11,.int .i64 a),(7,.ref 2 3 0 0),(6,.ref 1 3 0 0),(3,.ref 0 5 0 0),(2,.int .i64 t),(1,.sl 1 (rr sts))]) (λx=>⟨x.m,x.ob⟩)
  (IU xZ nx own) (λx=>own.length-x.j) ⟨0,nx,0,xZ⟩ ⟨Ab _,Ac _,λh=>absurd rfl h,λ_ _=>rfl⟩ ?_ ?_
 ·(refine yR.same ?_; simp [yS,Fr.get,wE])
 rintro ⟨i,m,kW,ob⟩ ⟨hj,hm,hkW,hold⟩;simp only at hj hm hkW hold;have o0:=(hold 0 (by omega)).trans g0;have o2:=(hold 2 (by omega)).trans g2;refine xN mixed ?_;by_cases hil:i<sts.length
 case neg=>
  have hd3:¬ ((i:Int)<(sts.length:Int)):=by omega
  obtain rfl:i=sts.length:=by omega
  have hj0:sts.length≠0:=by omega
  obtain⟨w1,w2,w3⟩:=hkW hj0;rw [δ (by omega)] at w3;rw [show wE kW sts.length = .yD kW 1 sts.length by unfold wE; rw [if_neg hj0]];have q2:¬ (m=2):=by omega
  have q2':¬ (m+1=2):=by omega
  have hu:=wK (k:=a) (by omega);have o1:=(hold 1 (by omega)).trans g1
  by_cases ha0:a=0
  ·subst ha0;obtain rfl:ks = []:=ν hkl;rw [show wE kO 0=D.xL from rfl] at o2;refine pH hd3 yZ o2 q2 q2' hu ?_
   refine⟨⟨0+1,m+1+1,m+1,[] ++ [kW],(m+1,⟨1,[[.yD kW 1 sts.length]]⟩) :: (m,⟨1,[[.yD kW 1 sts.length]]⟩) :: zC ob 2 ⟨3,[[.int .i64 sts.length,xB 3 1 (us V),.yD (m+1) 1 1]]⟩⟩,
    ⟨hst kW (m+1) (m+1+1) _ ⟨by omega,by omega⟩ ⟨by omega,by omega⟩ (by omega) ?_ ?_ (λk hk=>by cases hk),?_,?_,?_,λhV=>?_,λ_=>by show 4<=m+1; omega,?_⟩,?_,by show p.xV.length-(0+1)<_; omega⟩
   ·rw [xX,if_pos rfl];simp [vQ,xT,hown]
   ·rw [xX,if_neg (by omega),xX,if_neg (by omega),xP,if_neg (by omega)];exact w3
   ·show St.look (_ :: _ :: zC ob 2 _) 0=_;rw [xX,if_neg (by omega),xX,if_neg (by omega),xP,if_neg (by omega)];exact o0
   ·show St.look (_ :: _ :: zC ob 2 _) 1=_;rw [xX,if_neg (by omega),xX,if_neg (by omega),xP,if_neg (by omega)];exact o1
   ·show St.look (_ :: _ :: zC ob 2 _) 2=_;rw [xX,if_neg (by omega),xX,if_neg (by omega),xP,if_pos rfl,o2];rfl
   ·show St.look (_ :: _ :: zC ob 2 _) 3=_;rw [xX,if_neg (by omega),xX,if_neg (by omega),xP,if_neg (by omega)];exact(hold 3 (by omega)).trans (g3 hV)
   ·intro k hk;obtain rfl:=γ.1 hk;omega
   ·exact yL
  ·have hkO2:kO<nx:=hkO.resolve_right ha0;have hn:=hnst ha0;have ho:=hn.out;have ho2:=(hold kO hkO2).trans ho;have hk4':=hk4 ha0;have q4:¬ (kO=2):=by omega
   have q3:¬ (m=kO):=by omega
   have q5:¬ (2=kO):=by omega
   have hnl:=uY hn.len;rw [List.length_map,ψ] at hnl;have htk:(vQ ks ((List.range a).map λa=>us (tO rs l a))).take a=vQ ks ((List.range a).map λa=>us (tO rs l a)):=δ (by omega);have hsn:=iX hn.len kW (us own);rw [xT,hown] at hsn;rw [show wE kO a = .yD kO 1 a by unfold wE; rw [if_neg ha0]] at o2;have o2e:St.look (yN ob kO) 2=St.look ob 2:=by rw [xC,if_neg q4]
   refine NU hd3 yZ o2 o2e q2 q2' q3 q4 q5 ho2 hnl htk hu ?_
   refine⟨⟨a+1,m+1+1,m+1,ks ++ [kW],(m+1,⟨1,vQ ks ((List.range a).map λa=>us (tO rs l a))++ [[.yD kW 1 sts.length]]⟩) :: (m,⟨1,[[.yD kW 1 sts.length]]⟩) :: zC (yN ob kO) 2 ⟨3,[[.int .i64 sts.length,xB 3 1 (us V),.yD (m+1) 1 (a+1)]]⟩⟩,
    ⟨hst kW (m+1) (m+1+1) _ ⟨by omega,by omega⟩ ⟨by omega,by omega⟩ (by omega) ?_ ?_ (λk hk h2=>?_),?_,?_,?_,λhV=>?_,λ_=>by show 4<=m+1; omega,λk hk=>?_⟩,?_,by show p.xV.length-(a+1)<_; omega⟩
   ·rw [xX,if_pos rfl,hsn]
   ·rw [xX,if_neg (by omega),xX,if_neg (by omega),xP,if_neg (by omega),xC,if_neg (by omega)];exact w3
   ·have h1:=hks4 k hk;have h3:=hks k hk;rw [xX,if_neg (by omega),xX,if_neg (by omega),xP,if_neg (by omega),xC,if_neg (λe=>(h2.resolve_left ha0) e.symm)];exact hold k h3
   ·show St.look (_ :: _ :: zC _ 2 _) 0=_;rw [xX,if_neg (by omega),xX,if_neg (by omega),xP,if_neg (by omega),xC,if_neg (by omega)];exact o0
   ·show St.look (_ :: _ :: zC _ 2 _) 1=_;rw [xX,if_neg (by omega),xX,if_neg (by omega),xP,if_neg (by omega),xC,if_neg (by omega)];exact o1
   ·show St.look (_ :: _ :: zC _ 2 _) 2=_;rw [xX,if_neg (by omega),xX,if_neg (by omega),xP,if_pos rfl,o2e,o2,show wE (m+1) (a+1)= .yD (m+1) 1 (a+1) by unfold wE; rw [if_neg (by omega)]];rfl
   ·show St.look (_ :: _ :: zC _ 2 _) 3=_;rw [xX,if_neg (by omega),xX,if_neg (by omega),xP,if_neg (by omega),xC,if_neg (by omega)];exact(hold 3 (by omega)).trans (g3 hV)
   ·rcases ε.1 hk with hk | hk
    ·exact hks4 k hk
    ·obtain rfl:=γ.1 hk;omega
   ·exact yL
 have hd3:((i:Int)<(sts.length:Int)):=by omega
 have hgi:=tZ sts hil;have hhi:=hist i hil;have hwg:=howg i hil;have htk:=yE (d:=(0:BitVec 64)) (show i<own.length by omega);rw [hwg] at htk;have hkey:=λk hk=>hkey i k hil hk;have hgk:=λk (hk:k<sts.length)=>tZ sts hk;rw [show sts.getD i []=vK sts i from rfl] at hgi;generalize vK sts i=sti at *;generalize vG p.xV sti a t=hi0 at *;generalize vJ rs a (i,0)= x at *;refine yO hd3 yZ ?_
 refine xU (λk:Nat=>[(15,.int .i64 k),(14,.int .u64 (ui (Ru.pF rs l a x k))),(13,.int .i64 i),(12,wE kW i),(11,.int .i64 a),(7,.ref 2 3 0 0),(6,.ref 1 3 0 0),(3,.ref 0 5 0 0),(2,.int .i64 t),(1,.sl 1 (rr sts))])
  (λ_=>⟨m,ob⟩) (λk=>k<=sts.length) (λk=>sts.length-k) 0 (Ab _) ?_ ?_
 ·(refine yR.same ?_; simp [yS,Fr.get,Ru.pF])
 intro k hk;refine xN mixed ?_;by_cases hkl:k<sts.length
 case neg=>
  have hd4:¬ ((k:Int)<(sts.length:Int)):=by omega
  obtain rfl:k=sts.length:=by omega
  by_cases hj0:i=0
  ·subst hj0;rw [show wE kW 0=D.xL from rfl];refine nQ hd4 yZ ?_
   refine⟨⟨0+1,m+1,m,(m,⟨1,[[.int .u64 (ui (Ru.pF rs l a x sts.length))]]⟩) :: ob⟩,⟨by show 0+1<=_; omega,by show nx<=m+1; omega,λ_=>⟨by show nx<=m; omega,by show m<m+1; omega,?_⟩,λk hk=>?_⟩,?_,by show own.length-(0+1)<_; omega⟩
   ·show St.look ((m,_) :: ob) m=_;rw [xX,if_pos rfl];show _=some (Ob.mk 1 (us (own.take (0+1))));rw [htk]; rfl
   ·show St.look ((m,_) :: ob) k=_;rw [xX,if_neg (by omega)];exact hold k hk
   ·rw [show wE m (0+1)= .yD m 1 1 from rfl];exact yL
  ·obtain⟨w1,w2,w3⟩:=hkW hj0;have q1:¬ (m=kW):=by omega
   have hol:(own.take i).length=i:=by rw [κ]; omega
   have htt:(own.take i).take i=own.take i:=by rw [List.take_take,Nat.min_self]
   rw [show wE kW i = .yD kW 1 i by unfold wE; rw [if_neg hj0]];refine cF hd4 yZ w3 xT hol htt q1 ?_
   refine⟨⟨i+1,m+1,m,(m,⟨1,us (own.take i ++ [Ru.pF rs l a x sts.length])⟩) :: yN ob kW⟩,⟨by show i+1<=_; omega,by show nx<=m+1; omega,λ_=>⟨by show nx<=m; omega,by show m<m+1; omega,?_⟩,λk hk=>?_⟩,?_,by show own.length-(i+1)<_; omega⟩
   ·show St.look ((m,_) :: _) m=_;rw [xX,if_pos rfl];show _=some (Ob.mk 1 (us (own.take (i+1))));rw [htk]
   ·show St.look ((m,_) :: yN ob kW) k=_;rw [xX,if_neg (by omega),xC,if_neg (by omega)];exact hold k hk
   ·rw [show wE m (i+1)= .yD m 1 (i+1) by unfold wE; rw [if_neg (by omega)]];exact yL
 have hd4:((k:Int)<(sts.length:Int)):=by omega
 have hS:=hRs x k hkl;have hgk:=hgk k hkl;have hhk:=hist k hkl;have hkey:=hkey k hkl;rw [show sts.getD k []=vK sts k from rfl] at hgk;generalize vK sts k=stk at *;generalize vG p.xV stk a t=hk0 at *;generalize vJ rs a (k,0)= y at hS hkey;generalize Ru.pF rs l a x k=vv at hS;have hord:=xj (hi0.map ui) (hk0.map ui);rw [<- rN,<- rN] at hord;refine pH hd4 yZ hd3 hgi hgk o0 ?_;refine .go (cr hhi) ?_;refine pH hd4 yZ hd3 hgi hgk o0 ?_;refine .go (cr hhk) ?_;refine xJ ?_;refine .go (cr hord) ?_
 by_cases e:y=x
 ·have e1:(kc (hi0.map ui) (hk0.map ui)== 0)= true:=by rw [hkey.1 e,dS]; rfl
  rw [if_pos e] at hS;refine vR e1 ?_;refine⟨k+1,by omega,?_,by omega⟩;rw [hS];exact yL
 ·have e1:(kc (hi0.map ui) (hk0.map ui)== 0)= false:=by rw [beq_eq_false_iff_ne];intro h;have:=iC h;exact e (hkey.2 (cU.1 this).symm)
  rw [if_neg e,BitVec.or_zero] at hS;refine vR e1 ?_;refine⟨k+1,by omega,?_,by omega⟩;rw [hS];exact yL
open Rs Fm Ru Te Kb
theorem UQ {p:yT} {F:Nat} (hv:zz p F):xQ prog 125 [p.d] jR (.yD 0 1 p.init.length) ⟨1+p.init.length,lE ((qC p).map us)⟩:=by
 have hI:=hv.hI;have hD:p.d = .agg [.int .i64 p.F,.sl 1 (us p.init),.sl 1 (us p.xV),.sl 1 (uK p.xO),.sl 1 (uJ p.code)]:=rfl
 have hE:(List.range p.init.length).map (λi=>us [p.init.getD i 0])= (qC p).map us:=by
  unfold qC;refine List.ext_getElem (by simp) λi h1 h2=>?_;have:i<p.init.length:=by simpa using h1
  simp [List.getD,this]
 rw [hD];refine xI func125 IV λhf=>?_;refine zI ?_
 refine xU (λx:QP=>[(4,.int .i64 x.a),(3,wE x.kO x.a),(1,.ref 0 5 0 0)]) (λx=>⟨x.nx,x.xZ⟩)
  (λx=>IG (λi=>us [p.init.getD i 0]) p.init.length 1 x/\St.look x.xZ 0=some ⟨5,[[.int .i64 p.F,.sl 1 (us p.init),.sl 1 (us p.xV),.sl 1 (uK p.xO),.sl 1 (uJ p.code)]]⟩/\ (x.a≠0->1<=x.kO)) (λx=>p.init.length-x.a)
  ⟨0,1,0,[],[(0,⟨5,[[.int .i64 p.F,.sl 1 (us p.init),.sl 1 (us p.xV),.sl 1 (uK p.xO),.sl 1 (uJ p.code)]]⟩)]⟩
  ⟨⟨Ab _,Ac _,.inr rfl,rfl,by simp,.nil,λh=>absurd rfl h,λh=>absurd rfl h⟩,rfl,λh=>absurd rfl h⟩ ?_ ?_
 ·(refine yR.same ?_; simp [yS,Fr.get,wE])
 rintro ⟨k,nx,kO,ks,xZ⟩ ⟨hB,hx,hk1⟩;obtain⟨hk,hn0,hkO,hkl,hks,hnd,hno,hnst⟩:=id hB;simp only at hk hn0 hkO hkl hks hnd hno hnst hx hk1;refine xN mixed ?_;by_cases hkl2:k<p.init.length
 case neg=>
  have hd:¬ ((k:Int)<(p.init.length:Int)):=by omega
  obtain rfl:k=p.init.length:=by omega
  have hk0:p.init.length≠0:=by omega
  have hn:=hnst hk0;rw [hE] at hn;unfold wE;rw [if_neg hk0];refine fY hd hx xT ?_;have hl2:((qC p).map us).length=p.init.length:=by simp [qC]
  have hr:=sH.jT (nx:=nx) hn hl2.symm hnd (hno hk0) λe he r hr=>(iH e he r hr).2;rw [hl2] at hr;exact hr
 have hd:((k:Int)<(p.init.length:Int)):=by omega
 have hg:=yF p.init hkl2;have hst:=λkI kN n2 ob=>@IG.step (λi=>us [p.init.getD i 0]) p.init.length 1 ⟨k,nx,kO,ks,xZ⟩ hB hkl2 kI kN n2 ob;simp only at hst;generalize p.init.getD k 0=s at hg hst
 by_cases hk0:k=0
 ·subst hk0;have hd0:(0:Int)<(p.init.length:Int):=by omega
  obtain rfl:ks = []:=ν hkl
  have hst1:=hst nx (nx+1+1) (nx+1+1+1) ((nx+1+1,⟨1,[[.yD nx 1 1]]⟩) :: (nx+1,⟨1,[[.yD nx 1 1]]⟩) :: (nx,⟨1,[[.int .u64 (ui s)]]⟩) :: xZ)
   ⟨by omega,by omega⟩ ⟨by omega,by omega⟩ (by omega) (by rw [xX,if_pos rfl]; rfl) (by rw [xX,if_neg (by omega),xX,if_neg (by omega),xX,if_pos rfl]; rfl)
   (λj hj _=>by rw [xX,if_neg (by omega),xX,if_neg (by omega),xX,if_neg (by omega)])
  rw [show wE kO 0=D.xL from rfl];refine uC hd0 xT hg hx ?_
  refine⟨_,⟨hst1,?_,λ_=>by show 1<=nx+1+1; omega⟩,?_,by show p.init.length-(0+1)<_; omega⟩
  ·show St.look (_ :: _ :: _ :: xZ) 0=_;rw [xX,if_neg (by omega),xX,if_neg (by omega),xX,if_neg (by omega)];exact hx
  ·(refine yR.same ?_; simp only [yS,Fr.get,simprocAttr,-ZA,zS,show wE (nx+1+1) (0+1)= .yD (nx+1+1) 1 1 from rfl])
   all_goals rfl
 ·have hkO2:kO<nx:=hkO.resolve_right hk0;have hk1:=hk1 hk0;have ho:=(hnst hk0).out;have hnl:=uY (hnst hk0).len;rw [List.length_map,ψ] at hnl;have hsn:=iX (hnst hk0).len nx (us [s]);generalize (List.range k).map (λi=>us [p.init.getD i 0])= ess at *;have htk:(vQ ks ess).take k=vQ ks ess:=δ (by omega);have q2:¬ (nx=kO):=by omega
  have q3:¬ (nx+1=kO):=by omega
  have hst1:=hst nx (nx+1+1) (nx+1+1+1) ((nx+1+1,⟨1,vQ ks ess ++ [[.yD nx 1 1]]⟩) :: (nx+1,⟨1,[[.yD nx 1 1]]⟩) :: (nx,⟨1,[[.int .u64 (ui s)]]⟩) :: yN xZ kO)
   ⟨by omega,by omega⟩ ⟨by omega,by omega⟩ (by omega) (by rw [xX,if_pos rfl,<- hsn]; rfl) (by rw [xX,if_neg (by omega),xX,if_neg (by omega),xX,if_pos rfl]; rfl)
   (λj hj h2=>by rw [xX,if_neg (by omega),xX,if_neg (by omega),xX,if_neg (by omega),xC,if_neg (λe=>(h2.resolve_left hk0) e.symm)])
  rw [show wE kO k = .yD kO 1 k by unfold wE; rw [if_neg hk0]];refine j9 hd xT hg hx q2 q3 ho hnl htk ?_
  refine⟨_,⟨hst1,?_,λ_=>by show 1<=nx+1+1; omega⟩,?_,by show p.init.length-(k+1)<_; omega⟩
  ·show St.look (_ :: _ :: _ :: yN xZ kO) 0=_;rw [xX,if_neg (by omega),xX,if_neg (by omega),xX,if_neg (by omega),xC,if_neg (by omega)];exact hx
  ·(refine yR.same ?_; simp only [yS,Fr.get,simprocAttr,-ZA,zS,show wE (nx+1+1) (k+1)= .yD (nx+1+1) 1 (k+1) by unfold wE; rw [if_neg (by omega)]])
   exact wrap_i64 (by omega)
open Rs Fm Ru Te Kb
theorem MR {p:yT} {F:Nat} {sts:List (List (BitVec 64))} {t:Nat} (h:W5 p F sts t) {f:List Nd} (hE:vq p f 15=0):xA prog 133 [gE p.xV sts t F,.sl 6 (wN f)] (.wF [.int .u64 (ui (V4 p.xV sts t f)),.int .i64 0]):=by
 obtain⟨h1,h2,h3⟩:=sj hE;rw [h.fe] at h3;have ok:=h.time;have hl:(wV p.xV sts t).length*1=sts.length:=by rw [jB,Nat.mul_one]
 have hh:=UN ok (by rw [hl]; have:=h.hR.2; omega) h1 h2 h3;rw [hl,Xp] at hh;exact hh
theorem Q9 {p:yT} {c:bL} (h:jS p c=0):vq p c.test 15=0:=by
 unfold jS at h
 split at h
 ·rename_i h1; exact absurd h h1
 ·rename_i h1; simpa using h1
theorem P0 {p:yT} {F:Nat} (hv:zz p F) {sts:List (List (BitVec 64))} {t:Nat} (ok:W5 p F sts t) {a w:Nat} (ha:a<p.xV.length) (hw:w<sts.length) :
  xA prog 80 [p.d,gE p.xV sts t F,.int .i64 a,.int .i64 w] (.int .i64 (rW p sts t a w)):=by
 have hac:a<p.code.length:=by rw [hv.hC]; exact ha
 have hcl:=hv.cl _ (xK (d:=[]) hac);have hce:=hv.code _ (xK (d:=[]) hac);have hH:=λ(c:bL) (hc:c ∈ p.code.getD a [])=>MR ok (Q9 (hce c hc));have hK:=λf=>Xj ok ha hw f;have hcg:=hZ p.code hac;have hll:(wS sts.length 0).length=sts.length:=mJ _ _;have hRl:(tJ (wV p.xV sts t) (wS sts.length 0) p.xV.length).length=p.xV.length:=by simp [tJ]
 have hRg:(tJ (wV p.xV sts t) (wS sts.length 0) p.xV.length).getD a []=tO (wV p.xV sts t) (wS sts.length 0) a:=by simp [tJ,List.getD,ha]
 have hrl:(tO (wV p.xV sts t) (wS sts.length 0) a).length=sts.length:=by simp [tO,hll]
 have hrg:(tO (wV p.xV sts t) (wS sts.length 0) a).getD w 0=Ru.pF (wV p.xV sts t) (wS sts.length 0) a (vJ (wV p.xV sts t) a (w,0)) sts.length:=by simp [tO,wS,List.getD,hw]
 have hF1:∀ j,j<(p.code.getD a []).length->tI p.xV sts t a w ((p.code.getD a []).drop j)= if N1 p.xV sts t a ((p.code.getD a []).getD j l6).test w=true then((p.code.getD a []).getD j l6).mv else tI p.xV sts t a w ((p.code.getD a []).drop (j+1)):=λj hj=>by rw [drop_cons (d:=l6) hj]; rfl
 have hpa:rW p sts t a w=tI p.xV sts t a w ((p.code.getD a []).drop 0):=rfl;rw [hpa];unfold gE kd at hH ⊢;rw [hll] at hH ⊢;have hgR:=tZ _ (show a<_ by rw [hRl]; exact ha);rw [hRg] at hgR;have hgr:=yF _ (show w<_ by rw [hrl]; exact hw);rw [hrg] at hgr;have hRlr:=hRl;generalize tJ (wV p.xV sts t) (wS sts.length 0) p.xV.length=RR at *;generalize tO (wV p.xV sts t) (wS sts.length 0) a=rl at *;generalize Ru.pF (wV p.xV sts t) (wS sts.length 0) a (vJ (wV p.xV sts t) a (w,0)) sts.length=rk at *;generalize qV (wV p.xV sts t) (wS sts.length 0) F=VV at *;generalize p.code.getD a []=cl at *;generalize hz0:tI p.xV sts t a w (cl.drop 0)= z0 at *;have had:((a:Int)<(p.xV.length:Int)):=by omega
 have hadc:((a:Int)<(p.code.length:Int)):=by omega
 have hwd:((w:Int)<(sts.length:Int)):=by omega
 have hD:p.d = .agg [.int .i64 p.F,.sl 1 (us p.init),.sl 1 (us p.xV),.sl 1 (uK p.xO),.sl 1 (uJ p.code)]:=rfl;rw [hD];refine xI func80 Fh λhf=>?_;refine zI ?_
 refine xU (λk:Nat=>[(9,.int .i64 k),(5,.ref 1 3 0 0),(4,.ref 0 5 0 0),(3,.int .i64 w),(2,.int .i64 a)])
  (λ_=>⟨2,[(1,⟨3,[[.int .i64 sts.length,.sl 1 (us VV),.sl 1 (rr RR)]]⟩),(0,⟨5,[[.int .i64 p.F,.sl 1 (us p.init),.sl 1 (us p.xV),.sl 1 (uK p.xO),.sl 1 (uJ p.code)]]⟩)]⟩)
  (λk=>k<=cl.length/\z0=tI p.xV sts t a w (cl.drop k)) (λk=>cl.length-k) 0 ⟨Ab _,hz0.symm⟩ ?_ ?_
 ·exact wO
 rintro k ⟨hk,hP⟩;refine xN mixed ?_;by_cases hkl:k<cl.length
 case neg=>
  have hd:¬ ((k:Int)<(cl.length:Int)):=by omega
  have he:tI p.xV sts t a w (cl.drop k)= -1:=by rw [List.drop_eq_nil_of_le (by omega)]; rfl
  rw [hP,he];refine rI hd zF hadc hcg vI ?_;exact .dv
 have hd:((k:Int)<(cl.length:Int)):=by omega
 have hg:=xm cl hkl;have hm:=xK (d:=l6) hkl;have hF1:=hF1 k hkl;have hh:=hH _ hm;generalize cl.getD k l6=c at *;have hK:=hK c.test;unfold bL.row at hg;generalize N1 p.xV sts t a c.test w=kn at *;generalize V4 p.xV sts t c.test=st at *;refine pH hd zF hadc hcg vI hg ?_;refine .go (cr hh) ?_
 cases kn with
 | true=>
  rw [if_pos rfl] at hF1;rw [hP,hF1];simp only [simprocAttr,-ZA,↓zU,↓zD,zV,zT,zW,hd,zF,hadc,hcg,vI,hg,yZ,xT,hRlr,hrl,had,hwd,hgR,hgr,hK]
  (repeat refine sd ?_)
  exact .dv
 | false=>
  rw [if_neg (by simp)] at hF1;simp only [simprocAttr,-ZA,↓zU,↓zD,zV,zT,zW,hd,zF,hadc,hcg,vI,hg,yZ,xT,hRlr,hrl,had,hwd,hgR,hgr,hK]
  (repeat refine sd ?_)
  refine⟨k+1,⟨by omega,by rw [hP,hF1]⟩,?_,by omega⟩;exact yL
open Rs Fm Ru Te Kb
namespace Kb
def fC (h:List Int) (l:List (List Int)):List (List Int):=l.filter λx=>decide (kc x h<0)
def fD (h:List Int) (l:List (List Int)):List (List Int):=l.filter λx=>!decide (kc x h<0)
def jy (h:List Int) (l:List (List Int)):List (List Int):=if (l.any λx=>kc x h==0)= true then l else fC h l ++ [h]++fD h l
def cA (kf:Nat × Nat->List Int) (t:Nat) (o:List (List Int)):Nat->List (List Int)
 | 0=>o
 | i+1=>jy (kf (i,t)) (cA kf t o i)
def fT (kf:Nat × Nat->List Int) (R:Nat):Nat->List (List Int)
 | 0=>[]
 | t+1=>cA kf t (fT kf R t) R
theorem ZK (h:List Int):∀ l:List (List Int),(fC h l).length+(fD h l).length=l.length
 | []=>rfl
 | x :: r=>by have ih:=ZK h r;unfold fC fD at ih ⊢;rw [μ,μ];cases decide (kc x h<0) <;> simp <;> omega
theorem QU (h:List Int) (l:List (List Int)):(jy h l).length<=l.length+1:=by
 have:=ZK h l;unfold jy
 split
 ·omega
 ·simp only [List.length_append,List.length_singleton]; omega
theorem pd (kf:Nat × Nat->List Int) (t:Nat) (o:List (List Int)):∀ i,(cA kf t o i).length<=o.length+i
 | 0=>Ac _
 | i+1=>by have h1:=pd kf t o i;have h2:=QU (kf (i,t)) (cA kf t o i);unfold cA; omega
theorem pf (kf:Nat × Nat->List Int) (R:Nat):∀ t,(fT kf R t).length<=R*t
 | 0=>Ac _
 | t+1=>by have h1:=pf kf R t;have h2:=pd kf t (fT kf R t) R;rw [Nat.mul_succ];unfold fT; omega
theorem vz {f:List Int->Bool} {l:List (List Int)} {k:Nat} (h:k<l.length):(l.take (k+1)).filter f=(l.take k).filter f++if f (l.getD k [])= true then [l.getD k []] else []:=by rw [yE (d:=[]) h,List.filter_append];congr 1;rw [μ];split <;> simp_all
end Kb
theorem Oy {p:yT} {sts:List (List (BitVec 64))} {a T:Nat} (ha:a<p.xV.length) (hT:T<=16) (hR:1<=sts.length/\sts.length<=16) (hl:∀ st ∈ sts,T<=st.length) :
  xA prog 77 [p.d,.sl 1 (rr sts),.int .i64 a,.int .i64 T] (.sl 1 (rX (fT (tN p.xV sts a) sts.length T))):=by
 have hh:∀ r t,r<sts.length->t<T->xA prog 79 [p.d,.sl 1 (us (vK sts r)),.int .i64 a,.int .i64 t] (.sl 1 (rows .u64 (tN p.xV sts a (r,t)))):=λr t hr ht=>by have:=rS (qk p ha (show t<(vK sts r).length by have:=hl _ (xK (d:=[]) hr); unfold vK; omega) (by omega));rw [rN (vG _ _ _ _)] at this;exact this
 have hD:p.d = .agg [.int .i64 p.F,.sl 1 (us p.init),.sl 1 (us p.xV),.sl 1 (uK p.xO),.sl 1 (uJ p.code)]:=rfl;rw [hD] at hh ⊢
 have hOl:∀ t,t<=T->(fT (tN p.xV sts a) sts.length t).length<=256:=λt ht=>by have:=pf (tN p.xV sts a) sts.length t;have:sts.length*t<=16*16:=Nat.mul_le_mul hR.2 (by omega);omega
 generalize tN p.xV sts a=kf at *;refine xI func77 Fe λhf=>?_;refine zI ?_
 refine xU (λt:Nat=>[(10,.int .i64 t),(9,xB 1 1 (rX (fT kf sts.length t))),(4,.ref 0 5 0 0),(3,.int .i64 T),(2,.int .i64 a),(1,.sl 1 (rr sts))])
  (λt=>⟨2,yX 1 1 (rX (fT kf sts.length t))++ [(0,⟨5,[[.int .i64 p.F,.sl 1 (us p.init),.sl 1 (us p.xV),.sl 1 (uK p.xO),.sl 1 (uJ p.code)]]⟩)]⟩) (λt=>t<=T) (λt=>T-t) 0 (Ab _) ?_ ?_
 ·(refine rZ [] [0] ?_; simp only [wR,zQ,simprocAttr,-ZA,exists_eq_left',ne_eq,zR,fT,ti,zK,zL,ξ])
 intro t ht;refine xN mixed ?_;by_cases htl:t<T
 case neg=>
  have hd:¬ ((t:Int)<(T:Int)):=by omega
  obtain rfl:t=T:=by omega
  refine xH hd ?_
  (refine sH.VB [] [] (by simp) (by simp) (by decide) ?_; simp only [wR,zQ,simprocAttr,-ZA,exists_eq_left',ne_eq,zR,sO])
 have hd:((t:Int)<(T:Int)):=by omega
 have hO:=hOl t ht;have hsO:fT kf sts.length (t+1)= cA kf t (fT kf sts.length t) sts.length:=rfl;generalize fT kf sts.length t=o0 at *;refine xH hd ?_
 refine xU (λi:Nat=>[(11,.int .i64 i),(10,.int .i64 t),(9,xB 1 1 (rX (cA kf t o0 i))),(4,.ref 0 5 0 0),(3,.int .i64 T),(2,.int .i64 a),(1,.sl 1 (rr sts))])
  (λi=>⟨2,yX 1 1 (rX (cA kf t o0 i))++ [(0,⟨5,[[.int .i64 p.F,.sl 1 (us p.init),.sl 1 (us p.xV),.sl 1 (uK p.xO),.sl 1 (uJ p.code)]]⟩)]⟩) (λi=>i<=sts.length) (λi=>sts.length-i) 0 (Ab _) ?_ ?_
 ·(refine rZ [] [1,0] ?_; simp only [wR,zQ,simprocAttr,-ZA,exists_eq_left',ne_eq,zR,cA,sO])
 intro i hi;refine xN mixed ?_;by_cases hil:i<sts.length
 case neg=>
  have hd2:¬ ((i:Int)<(sts.length:Int)):=by omega
  obtain rfl:i=sts.length:=by omega
  rw [<- hsO];refine yO hd2 yZ ?_;refine⟨t+1,by omega,?_,by omega⟩;exact bj [] [1,0] sO
 have hd2:((i:Int)<(sts.length:Int)):=by omega
 have hg:=tZ sts hil;have hhi:=hh i t hil htl;have hsI:cA kf t o0 (i+1)= jy (kf (i,t)) (cA kf t o0 i):=rfl;have hIl:=pd kf t o0 i;rw [show sts.getD i []=vK sts i from rfl] at hg;generalize cA kf t o0 i=out at *;generalize kf (i,t)= h at *;generalize vK sts i=st at *;refine rF hd2 yZ hg ?_;refine .go (cr hhi) ?_;refine xJ ?_
 refine xU (λk:Nat=>[(16,.int .i64 k),(15,.bool ((out.take k).any λx=>kc x h==0)),(14,xB 3 1 (rX (fD h (out.take k)))),(13,xB 2 1 (rX (fC h (out.take k)))),(12,.sl 1 (rows .u64 h)),(11,.int .i64 i),(10,.int .i64 t),(9,xB 1 1 (rX out)),(4,.ref 0 5 0 0),(3,.int .i64 T),(2,.int .i64 a),(1,.sl 1 (rr sts))])
  (λk=>⟨4,yX 3 1 (rX (fD h (out.take k)))++ (yX 2 1 (rX (fC h (out.take k)))++ (yX 1 1 (rX out)++ [(0,⟨5,[[.int .i64 p.F,.sl 1 (us p.init),.sl 1 (us p.xV),.sl 1 (uK p.xO),.sl 1 (uJ p.code)]]⟩)]))⟩) (λk=>k<=out.length) (λk=>out.length-k) 0 (Ab _) ?_ ?_
 ·(refine rZ [] [1,0] ?_; simp only [wR,zQ,simprocAttr,-ZA,exists_eq_left',ne_eq,zR,η,List.any_nil,fC,fD,List.filter_nil,ti,zK,zL,ξ,sO])
 intro k hk;refine xN mixed ?_;by_cases hkl:k<out.length
 case pos=>
  have hd3:((k:Int)<(out.length:Int)):=by omega
  have hgo:=qT out hkl;have hord:=xj (out.getD k []) h;have hfl:=vz (f:=λx=>decide (kc x h<0)) hkl;have hfm:=vz (f:=λx=>!decide (kc x h<0)) hkl;have hl1:((out.take k).filter λx=>decide (kc x h<0)).length<=out.length:=Nat.le_trans (υ _ _) (by rw [κ]; omega);have hl2:((out.take k).filter λx=>!decide (kc x h<0)).length<=out.length:=Nat.le_trans (υ _ _) (by rw [κ]; omega);have han:((out.take (k+1)).any λx=>kc x h==0)= ((out.take k).any (λx=>kc x h==0) || (kc (out.getD k []) h==0)):=by rw [yE (d:=[]) hkl]; simp
  unfold fC fD;generalize (out.take k).filter (λx=>decide (kc x h<0))= ls at *;generalize (out.take k).filter (λx=>!decide (kc x h<0))= ms at *;generalize (out.take k).any (λx=>kc x h==0)= fd at *;generalize out.getD k []=e at *;generalize kc e h=c at *;have hu:=wK (k:=k) (by omega)
  by_cases hc:c<0
  ·have hc0:(c==0)= false:=beq_eq_false_iff_ne.2 (by omega);rw [decide_eq_true hc,if_pos rfl] at hfl;rw [decide_eq_true hc,if_neg (by simp),π] at hfm;rw [hc0,Bool.or_false] at han;cases fd
   all_goals
    refine uC hd3 wD hgo hd ?_;refine .go (cr hord) ?_;refine pH hd3 wD hgo hc hc0 hu ?_;refine⟨k+1,by omega,?_,by omega⟩;rw [hfl,hfm,han];exact qN [(2,4)] [3,2,1,0] sO eW
  ·rw [decide_eq_false hc,if_neg (by simp),π] at hfl;rw [decide_eq_false hc,Bool.not_false,if_pos rfl] at hfm;cases hc0:(c==0)
   all_goals
    rw [hc0] at han;cases fd
   all_goals
    refine uC hd3 wD hgo hd ?_;refine .go (cr hord) ?_;refine pH hd3 wD hgo hc hc0 hu ?_;refine⟨k+1,by omega,?_,by omega⟩;rw [hfl,hfm,han]
    (refine rZ [(3,4)] [3,2,1,0] ?_; simp only [wR,zQ,simprocAttr,-ZA,exists_eq_left',ne_eq,zR,sO,eW,Bool.or_false,Bool.or_true])
 have hd3:¬ ((k:Int)<(out.length:Int)):=by omega
 rw [δ (by omega)];have hui:=wK (k:=i) (by omega)
 cases hf:(out.any λx=>kc x h==0) with
 | true=> unfold jy at hsI;rw [if_pos hf] at hsI;refine rF hd3 wD hui ?_;refine⟨i+1,by omega,?_,by omega⟩;rw [hsI];exact bj [] [1,0] sO
 | false=>
  unfold jy at hsI;rw [if_neg (by rw [hf]; simp)] at hsI;have hlm:=ZK h out;generalize fC h out=ls at *;generalize fD h out=ms at *;refine nQ hd3 wD ?_
  refine xU (λk:Nat=>[(18,.int .i64 k),(14,xB 3 1 (rX ms)),(13,xB 2 1 (rX (ls ++ [h]++ms.take k))),(11,.int .i64 i),(10,.int .i64 t),(4,.ref 0 5 0 0),(3,.int .i64 T),(2,.int .i64 a),(1,.sl 1 (rr sts))])
   (λk=>⟨4,yX 3 1 (rX ms)++ (yX 2 1 (rX (ls ++ [h]++ms.take k))++ [(0,⟨5,[[.int .i64 p.F,.sl 1 (us p.init),.sl 1 (us p.xV),.sl 1 (uK p.xO),.sl 1 (uJ p.code)]]⟩)])⟩) (λk=>k<=ms.length) (λk=>ms.length-k) 0 (Ab _) ?_ ?_
  ·(refine rZ [(2,4)] [3,2,0] ?_; simp only [wR,zQ,simprocAttr,-ZA,exists_eq_left',ne_eq,zR,η,π,sO,eW])
  intro k2 hk2;refine xN mixed ?_
  by_cases hk2l:k2<ms.length
  ·have hd4:((k2:Int)<(ms.length:Int)):=by omega
   have hgm:=qT ms hk2l;have htk:ls ++ [h]++ms.take (k2+1)= ls ++ [h]++ms.take k2 ++ [ms.getD k2 []]:=by rw [yE (d:=[]) hk2l]; simp only [List.append_assoc]
   have hal:(ls ++ [h]++ms.take k2).length=ls.length+1+k2:=by simp; omega
   generalize ls ++ [h]++ms.take k2=acc at *;generalize ms.getD k2 []=e at *;have hu:=wK (k:=k2) (by omega);refine uC hd4 wD hgm hu ?_;refine⟨k2+1,by omega,?_,by omega⟩;rw [htk];exact qN [(2,4)] [3,2,0] sO eW
  ·have hd4:¬ ((k2:Int)<(ms.length:Int)):=by omega
   rw [δ (by omega),<- hsI];refine rF hd4 wD hui ?_;refine⟨i+1,by omega,?_,by omega⟩;exact bj [(1,2)] [1,0] sO
open Rs Fm Ru Te Kb
namespace Kb
theorem QV {h:List Int} {l:List (List Int)} {x:List Int}:x ∈ jy h l ↔ x=h\/x ∈ l:=by
 unfold jy
 split
 ·rename_i hf;rw [Aa] at hf;obtain⟨y,hy,he⟩:=hf;have:=iC (eq_of_beq he);subst this
  constructor
  ·exact .inr
  ·rintro (rfl | h)
   ·exact hy
   ·exact h
 ·simp only [fC,fD,ε,ο,γ]
  constructor
  ·rintro ((⟨h,_⟩ | h) | ⟨h,_⟩)
   ·exact .inr h
   ·exact .inl h
   ·exact .inr h
  ·rintro (h | h)
   ·exact .inl (.inr h)
   ·cases hd:decide (kc x _<0) with
    | true=>exact .inl (.inl ⟨h,rfl⟩)
    | false=>exact .inr ⟨h,rfl⟩
theorem OI {h:List Int} {l:List (List Int)} (hl:l.Pairwise λa b=>kc a b<0):(jy h l).Pairwise λa b=>kc a b<0:=by
 unfold jy
 split
 ·exact hl
 ·rename_i hf
  have hm:∀ x,x ∈ fD h l->kc h x<0:=λx hx=>by simp only [fD,ο,Bool.not_eq_true',decide_eq_false_iff_not] at hx;have h1:¬ kc x h=0:=λe=>hf (Aa.2 ⟨x,hx.1,by rw [e]; rfl⟩);have:=mQ x h;omega
  have hs:∀ x,x ∈ fC h l->kc x h<0:=λx hx=>by simp only [fC,ο,decide_eq_true_eq] at hx;exact hx.2
  rw [χ,χ]
  refine⟨⟨List.Pairwise.filter _ hl,by simp,λa ha b hb=>?_⟩,List.Pairwise.filter _ hl,λa ha b hb=>?_⟩
  ·rw [γ.1 hb]; exact hs a ha
  ·rcases ε.1 ha with ha | ha
   ·exact pg (hs a ha) (hm b hb)
   ·rw [γ.1 ha]; exact hm b hb
theorem VW {kf:Nat × Nat->List Int} {t:Nat} {o:List (List Int)} (h:o.Pairwise λa b=>kc a b<0):∀ i,(cA kf t o i).Pairwise λa b=>kc a b<0
 | 0=>h
 | i+1=>OI (VW h i)
theorem Yo {kf:Nat × Nat->List Int} {t:Nat} {o:List (List Int)} {x:List Int}:∀ {n},x ∈ cA kf t o n ↔ x ∈ o\/∃ i,i<n/\x=kf (i,t)
 | 0=>by simp [cA]
 | n+1=>by
  rw [cA,QV,Yo]
  constructor
  ·rintro (h | h | ⟨i,hi,h⟩)
   ·exact .inr ⟨n,by omega,h⟩
   ·exact .inl h
   ·exact .inr ⟨i,by omega,h⟩
  ·rintro (h | ⟨i,hi,h⟩)
   ·exact .inr (.inl h)
   ·by_cases e:i=n
    ·subst e; exact .inl h
    ·exact .inr (.inr ⟨i,by omega,h⟩)
theorem u6 {kf:Nat × Nat->List Int} {R:Nat}:∀ T,(fT kf R T).Pairwise λa b=>kc a b<0
 | 0=>.nil
 | t+1=>VW (u6 t) R
theorem Yp {kf:Nat × Nat->List Int} {R:Nat} {x:List Int}:∀ {T},x ∈ fT kf R T ↔ ∃ t,t<T/\∃ i,i<R/\x=kf (i,t)
 | 0=>by simp [fT]
 | T+1=>by
  rw [fT,Yo,Yp]
  constructor
  ·rintro (⟨t,ht,h⟩ | h)
   ·exact⟨t,by omega,h⟩
   ·exact⟨T,by omega,h⟩
  ·rintro ⟨t,ht,h⟩
   by_cases e:t=T
   ·subst e; exact .inr h
   ·exact .inl ⟨t,by omega,h⟩
theorem MV {l:List (List Int)} (h:l.Pairwise λa b=>kc a b<0):bq l:=h.imp λ{a b} h=>by have:=mQ a b; omega
theorem Rg {l:List (List Int)} (h:l.Pairwise λa b=>kc a b<0):l.Nodup:=h.imp λ{a b} h e=>by subst e; rw [dS] at h; omega
theorem VZ {xV:List (BitVec 64)} {sts:List (List (BitVec 64))} {T a:Nat} (hT:1<=T):fT (tN xV sts a) sts.length T=oL xV sts T a:=by
 unfold oL;have hA:=ot ((iS T (sts.length*T)).map (tN xV sts a))
 have hp:(fT (tN xV sts a) sts.length T).Perm (dedup (fH ((iS T (sts.length*T)).map (tN xV sts a)))):=by
  refine(List.perm_ext_iff_of_nodup (Rg (u6 T)) (Zx hA)).2 λx=>?_;rw [Yp,dh,(mF _).mem_iff,θ];unfold iS
  constructor
  ·rintro ⟨t,ht,i,hi,rfl⟩
   refine⟨(i,t),θ.2 ⟨i*T+t,τ.2 ?_,?_⟩,rfl⟩
   ·have:(i+1)* T<=sts.length*T:=Nat.mul_le_mul_right T hi;rw [Nat.succ_mul] at this;omega
   ·rw [Nat.mul_comm,Nat.mul_add_div (by omega),Nat.mul_add_mod,Nat.div_eq_of_lt ht,Nat.mod_eq_of_lt ht,Nat.add_zero]
  ·rintro ⟨q,hq,rfl⟩;obtain⟨n,hn,rfl⟩:=θ.1 hq;have hn:=τ.1 hn;exact⟨n % T,Nat.mod_lt _ (by omega),n / T,Nat.div_lt_of_lt_mul (by rw [Nat.mul_comm]; exact hn),rfl⟩
 rw [sf hp (MV (u6 T))];exact(sf (List.Perm.refl _) (dg hA)).symm
end Kb
end Go.Pd
