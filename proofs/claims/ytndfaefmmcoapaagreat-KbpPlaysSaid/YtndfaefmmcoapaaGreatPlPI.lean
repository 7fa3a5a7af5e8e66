/- Part PI. -/
import Derived.Test.YtndfaefmmcoapaaGreatPlLF
import Derived.Test.YtndfaefmmcoapaaGreatPlKV
import Derived.Test.YtndfaefmmcoapaaGreatPlKZ
set_option linter.unusedSectionVars false
set_option linter.unusedVariables false
set_option linter.unusedSimpArgs false
set_option linter.defProp false
set_option maxRecDepth 20000
set_option maxHeartbeats 1000000
open Go.Proofs.Tryz
open List renaming take_of_length_le->γ,mem_singleton->δ,length_take->ε,take_zero->ζ,nil_append->η,mem_append->θ,range'->κ,length_filter_le->μ,mem_map->ν,filter_cons->ξ,eq_nil_of_length_eq_zero->ο,range_succ->π,mem_filter->τ,map_append->υ,append_nil->χ,mem_range->ψ,pairwise_append->ω,length_append->Aa,length_range->Ab,foldl_append->Ac,any_eq_true->Ad
open Nat renaming zero_le->Ae,le_refl->Af,le_trans->Ag
namespace Go.Pd
open Go Go.Proofs
open BitVec renaming isValue -> ZA
open Rs Fm Ru Te Kb
theorem YH {F:Nat} (hF:F<=8) {s:BitVec 64} (hs:s >>> F=0#64):s.toNat<256:=by
 have h:=congrArg BitVec.toNat hs;rw [BitVec.toNat_ushiftRight,Nat.shiftRight_eq_div_pow,show (0#64).toNat=0 from rfl] at h
 have h2:s.toNat<2 ^ F:=by
  rcases Nat.div_eq_zero_iff.1 h with h | h
  ·have:=Nat.two_pow_pos F; omega
  ·exact h
 have:=Nat.pow_le_pow_right (n:=2) (by decide) hF;omega
theorem RF {p:yT} {F:Nat} (h:aN p F) {s:BitVec 64} (hs:s >>> F=0#64) {mv:List Int} (hl:mv.length<=1000) (hmv:∀ k ∈ mv,k<p.xO.length) :
  xA prog 126 [p.d,.int .u64 (ui s),.sl 1 (rows .i64 mv)] (.int .u64 (ui (e8 p s mv))):=by
 have hF:=h.hF;have hA:=h.hA;have hv:=YH hF hs
 have hcv:IntKind.i64.wrap (ui s)= ((s.toNat:Nat):Int):=by show IntKind.i64.wrap ((s.toNat:Nat):Int)= _;exact wrap_i64 (by omega)
 have hH:∀ f,vq p f 0=0->xA prog 187 [.sl 6 (wP f),.int .i64 s.toNat] (.bool (bf p.xW.length f s)):=λf hE=>by
  obtain⟨h1,h2,h3⟩:=si hE;have h0:zP f=0:=NP ⟨zP f,nF f⟩ h2;unfold zP at h0;have:=RI h1 (sN.1 h0) s.toNat p.xW.length
  rwa [BitVec.ofNat_toNat,BitVec.setWidth_eq] at this
 have hD:p.d = .agg [.int .i64 p.F,.sl 1 (us p.init),.sl 1 (us p.xW),.sl 1 (uH p.xO),.sl 1 (uG p.code)]:=rfl;rw [hD];refine xI func126 Ic λhf=>?_;refine zC ?_
 refine xU (λk:Nat=>[(8,.int .i64 k),(7,.int .u64 (ui ((mv.take k).foldl (jX p s) s))),(3,.ref 0 5 0 0),(2,.sl 1 (rows .i64 mv)),(1,.int .u64 (ui s))])
  (λ_=>⟨1,[(0,⟨5,[p.cells]⟩)]⟩)
  (λk=>k<=mv.length) (λk=>mv.length-k) 0 (Ae _) ?_ ?_
 ·unfold yT.cells
  (refine yR.same ?_; simp [yS,Fr.get,ζ,List.foldl_nil])
 intro k hk;refine xN mixed ?_;unfold yT.cells;by_cases hkl:k<mv.length
 case neg=>
  have hd2:¬ ((k:Int)<(mv.length:Int)):=by omega
  rw [γ (by omega)];refine yM hd2 yV ?_;exact .drop (by simp) (by simp [vw,e8])
 have hd2:((k:Int)<(mv.length:Int)):=by omega
 have hg:=wT .i64 mv hkl;have hlt:=hmv _ (xK (d:=0) hkl)
 have hfo:(mv.take (k+1)).foldl (jX p s) s=jX p s ((mv.take k).foldl (jX p s) s) (mv.getD k 0):=by rw [yC (d:=0) hkl,Ac]; rfl
 generalize (mv.take k).foldl (jX p s) s=out0 at hfo ⊢;generalize mv.getD k 0=q at hg hlt hfo
 by_cases hq:q<0
 ·have hm0:jX p s out0 q=out0:=by unfold jX; rw [if_pos hq]
  rw [hm0] at hfo;refine uC hd2 yV hg hq ?_;refine⟨k+1,by omega,?_,by omega⟩
  (refine yR.same ?_; simp only [yS,Fr.get,simprocAttr,-ZA,zS,hfo])
  exact wrap_i64 (by omega)
 have hqn:q.toNat<p.xO.length:=by omega
 have hq0:0<=q:=by omega
 have hgm:=iC p.xO hqn;have hm0:jX p s out0 q=(p.xO.getD q.toNat []).foldl (fS p.xW.length s) out0:=by unfold jX; rw [if_neg hq]
 have hmem:=xK (d:=[]) hqn;generalize p.xO.getD q.toNat []=m at hgm hm0 hmem;have hml8:=YT h hmem;rw [hm0] at hfo;refine lE hd2 yV hg hq yF hlt hgm vT ?_
 refine xU (λj:Nat=>[(10,.int .i64 j),(9,.sl 2 (j6 m)),(8,.int .i64 k),(7,.int .u64 (ui ((m.take j).foldl (fS p.xW.length s) out0))),(3,.ref 0 5 0 0),(2,.sl 1 (rows .i64 mv)),(1,.int .u64 (ui s))])
  (λ_=>⟨1,[(0,⟨5,[p.cells]⟩)]⟩)
  (λj=>j<=m.length) (λj=>m.length-j) 0 (Ae _) ?_ ?_
 ·unfold yT.cells
  (refine yR.same ?_; simp only [yS,Fr.get,simprocAttr,-ZA,zS,ζ,List.foldl_nil])
  all_goals rfl
 intro j hj;refine xN mixed ?_;unfold yT.cells;by_cases hjl:j<m.length
 case neg=>
  have hd3:¬ ((j:Int)<(m.length:Int)):=by omega
  rw [γ (by omega)];refine yM hd3 vT ?_;refine⟨k+1,by omega,?_,by omega⟩
  (refine yR.same ?_; simp only [yS,Fr.get,simprocAttr,-ZA,zS,hfo])
  exact wrap_i64 (by omega)
 have hd3:((j:Int)<(m.length:Int)):=by omega
 have hg2:=kU m hjl
 have hfo2:(m.take (j+1)).foldl (fS p.xW.length s) out0=fS p.xW.length s ((m.take j).foldl (fS p.xW.length s) out0) (m.getD j aO):=by rw [yC (d:=aO) hjl,Ac]; rfl
 obtain⟨a1,a2,a3⟩:=nz h.fe (h.mv m hmem _ (xK (d:=aO) hjl));unfold fQ.row at hg2;generalize (m.take j).foldl (fS p.xW.length s) out0=out1 at hfo2 ⊢;generalize m.getD j aO=a at hg2 hfo2 a1 a2 a3;have hh:=hH a.to a3;obtain⟨fa,to⟩:=a;simp only at a1 a2 hg2 hh;obtain⟨n,rfl⟩:∃ n:Nat,fa=(n:Int):=⟨fa.toNat,by omega⟩;have hag:fS p.xW.length s out1 ⟨(n:Int),to⟩= out1 &&& ~~~(1#64 <<< n) ||| (if bf p.xW.length to s=true then 1#64 <<< n else 0#64):=rfl;rw [hag] at hfo2
 cases ht:bf p.xW.length to s with
 | true=> rw [ht] at hh;rw [ht,if_pos rfl] at hfo2;refine uC hd3 vT hg2 hcv ?_;refine .go (cr hh) ?_;refine zC ?_;refine⟨j+1,by omega,?_,by omega⟩;rw [hfo2];exact yH
 | false=> rw [ht] at hh;rw [ht,if_neg (by simp),BitVec.or_zero] at hfo2;refine uC hd3 vT hg2 hcv ?_;refine .go (cr hh) ?_;refine zC ?_;refine⟨j+1,by omega,?_,by omega⟩;rw [hfo2];exact yH
open Rs Fm Ru Te Kb
theorem sJ.mod {nx n A:Nat} {xZ:List (Nat × Ob)} {kO:Nat} {ks:List Nat} {ess:List (List (List D))} {V:List (List D)} (h:fR xZ kO ks ess) (hA:A=ess.length) (hd:ks.Nodup) (hk:kO ∉ ks) (hV:V ≠ []->St.look xZ 3=some ⟨1,V⟩) (h3:kO≠3) (h3k:3 ∉ ks)
  (hp:∀ e ∈ ess,∀ r ∈ e,D.xR r=true) (hpV:∀ r ∈ V,D.xR r=true) :
  sJ 0 ⟨nx,xZ⟩ (.agg [.int .i64 n,xD 3 1 V,.yD kO 1 A]) ⟨2+A,yX (1+A) 1 V++lD ess⟩ (.agg [.int .i64 n,xD (1+A) 1 V,.yD 0 1 A]):=by
 subst hA;have hlen:=h.len;have hr:(κ 1 ess.length).length=ess.length:=by simp
 have key:∀ q ∈ yX (1+ess.length) 1 V++lD ess,(q=(1+ess.length,⟨1,V⟩)/\ V ≠ [])\/(q=(0,⟨1,vS (κ 1 ess.length) ess⟩))\/∃ i,i<ess.length/\q=(1+i,⟨1,ess.getD i []⟩):=λq hq=>by
  rcases θ.1 hq with hq | hq
  ·cases V with
   | nil=>cases hq
   | cons a b=>exact .inl ⟨δ.1 hq,by simp⟩
  ·unfold lD at hq
   rcases List.mem_cons.1 hq with rfl | hq
   ·exact .inr (.inl rfl)
   ·simp only [ν,ψ] at hq;obtain⟨i,hi,rfl⟩:=hq;exact .inr (.inr ⟨i,hi,rfl⟩)
 obtain⟨ρ,r0,r1,r2⟩:∃ ρ:Nat->Nat,ρ 0=kO/\ρ (1+ess.length)= 3/\∀ i,i<ess.length->ρ (1+i)= ks.getD i 0:=
  ⟨λk=>if k=0 then kO else if k=1+ess.length then 3 else ks.getD (k-1) 0,if_pos rfl,by
   show (if 1+ess.length=0 then kO else if 1+ess.length=1+ess.length then 3 else ks.getD (1+ess.length-1) 0)= 3;rw [if_neg (by omega),if_pos rfl],λi hi=>by
   show (if 1+i=0 then kO else if 1+i=1+ess.length then 3 else ks.getD (1+i-1) 0)= ks.getD i 0;rw [if_neg (by omega),if_neg (by omega),show 1+i-1=i by omega]⟩
 refine .inr ⟨ρ,Ae _,λk hk=>absurd hk (Nat.not_lt_zero _),?_,?_,?_⟩
 ·simp only [vw,uK,Vu,r0,r1,and_true,true_and];refine⟨rfl,.inr (by omega),by omega⟩
 ·intro q hq
  rcases key q hq with ⟨rfl,hne⟩ | rfl | ⟨i,hi,rfl⟩
  ·refine⟨by show 1+ess.length<2+ess.length; omega,⟨1,V⟩,?_,rfl,.same hpV⟩;show St.look xZ (ρ (1+ess.length))= _;rw [r1];exact hV hne
  ·refine⟨by show 0<2+ess.length; omega,⟨1,vS ks ess⟩,?_,rfl,ao (by show (vS ks ess).length=(vS (κ 1 ess.length) ess).length; rw [uY hlen,uY hr]) λi hi=>?_⟩
   ·show St.look xZ (ρ 0)= _;rw [r0];exact h.out
   have hi:i<(vS (κ 1 ess.length) ess).length:=hi;rw [uY hr] at hi;show ((vS ks ess).getD i []).length=((vS (κ 1 ess.length) ess).getD i []).length/\uK _ _ _ ((vS ks ess).getD i []) ((vS (κ 1 ess.length) ess).getD i []);rw [oS hlen hi,oS hr hi];refine⟨rfl,?_⟩;have e:(κ 1 ess.length).getD i 0=1+i:=by simp [List.getD,hi]
   simp only [uK,vw,e,and_true,r2 i hi];omega
  ·refine⟨by show 1+i<2+ess.length; omega,⟨1,ess.getD i []⟩,?_,rfl,.same λr hr=>hp _ (xK hi) r hr⟩;show St.look xZ (ρ (1+i))= _;rw [r2 i hi];exact h.each i hi
 ·intro a ha b hb e;have hm:=λi (hi:i<ess.length)=>vI (l:=ks) (i:=i) (by omega)
  rcases key a ha with ⟨rfl,_⟩ | rfl | ⟨i,hi,rfl⟩ <;> rcases key b hb with ⟨rfl,_⟩ | rfl | ⟨j,hj,rfl⟩
  ·rfl
  ·have e:ρ (1+ess.length)= ρ 0:=e;rw [r0,r1] at e;exact absurd e.symm h3
  ·have e:ρ (1+ess.length)= ρ (1+j):=e;rw [r1,r2 j hj] at e;exact absurd (e ▸ hm j hj) h3k
  ·have e:ρ 0=ρ (1+ess.length):=e;rw [r0,r1] at e;exact absurd e h3
  ·rfl
  ·have e:ρ 0=ρ (1+j):=e;rw [r0,r2 j hj] at e;exact absurd (e ▸ hm j hj) hk
  ·have e:ρ (1+i)= ρ (1+ess.length):=e;rw [r1,r2 i hi] at e;exact absurd (e ▸ hm i hi) h3k
  ·have e:ρ (1+i)= ρ 0:=e;rw [r0,r2 i hi] at e;exact absurd (e ▸ hm i hi) hk
  ·have e:ρ (1+i)= ρ (1+j):=e;rw [r2 i hi,r2 j hj] at e;show 1+i=1+j;rw [xq hd (by omega) (by omega) e]
open Rs Fm Ru Te Kb
namespace Kb
structure IU (xZ : List (Nat × Ob)) (n1 : Nat) (own : List (BitVec 64)) (x : OP) : Prop where
 hj:x.j<=own.length
 hm:n1<=x.m
 kW:x.j≠0->n1<=x.kW/\x.kW<x.m/\St.look x.ob x.kW=some ⟨1,us (own.take x.j)⟩
 oJ:∀ k,k<n1->St.look x.ob k=St.look xZ k
theorem IG.Kj {E:Nat->List (List D)} {A n0:Nat} {x:QP} (h:IG E A n0 x) (hal:x.a<A) {kI kN n2:Nat} {ob:List (Nat × Ob)} (h1:x.nx<=kI/\kI<n2) (h2:x.nx<=kN/\kN<n2) (hne:kI≠kN)
  (hout:St.look ob kN=some ⟨1,vS (x.ks ++ [kI]) ((List.range x.a).map E ++ [E x.a])⟩) (hnew:St.look ob kI=some ⟨1,E x.a⟩) (hold:∀ k ∈ x.ks,(x.a=0\/k≠x.kO)->St.look ob k=St.look x.xZ k) :
  IG E A n0 ⟨x.a+1,n2,kN,x.ks ++ [kI],ob⟩:=by
 have hn:=h.hn
 refine⟨by show x.a+1<=_; omega,by show n0<=n2; omega,.inl h2.2,by simp [h.kl],λk hk=>?_,?_,λ_ hk=>?_,λ_=>?_⟩
 ·show k<n2
  rcases θ.1 hk with hk | hk
  ·have:=h.ks k hk; omega
  ·rw [δ.1 hk]; exact h1.2
 ·refine List.nodup_append.2 ⟨h.nd,by simp,λk hk j hj e=>?_⟩;have:=h.ks k hk;rw [δ.1 hj] at e;omega
 ·have hk:kN ∈ x.ks ++ [kI]:=hk
  rcases θ.1 hk with hk | hk
  ·have:=h.ks _ hk; omega
  ·exact hne (δ.1 hk).symm
 ·show fR ob kN (x.ks ++ [kI]) ((List.range (x.a+1)).map E);rw [π,υ];have h0:(List.range x.a).map E ≠ []->x.a≠0:=λc e=>c (by rw [e]; rfl);refine fR.grow (λc=>h.lF (h0 c)) (by rw [h.kl]; simp) hout hnew λk hk=>?_;refine hold k hk ?_
  by_cases c:x.a=0
  ·exact .inl c
  ·exact .inr λe=>h.no c (e ▸ hk)
def jv (xW:List (BitVec 64)) (sts:List (List (BitVec 64))) (t F:Nat):List (BitVec 64):=rG (zA xW sts t) (wX sts.length 0) F
def V6 (xW:List (BitVec 64)) (sts:List (List (BitVec 64))) (t:Nat):List (List (BitVec 64)):=tP (zA xW sts t) (wX sts.length 0) xW.length
end Kb
theorem Xn {L:List (List (BitVec 64))}:∀ e ∈ L.map us,∀ r ∈ e,D.xR r=true:=λe he r hr=>(iF e he r hr).2
theorem UP {p:yT} {F:Nat} {sts:List (List (BitVec 64))} {t:Nat} (ok:W6 p F sts t):xP prog 78 [p.d,.sl 1 (rr sts),.int .i64 t] jN
  (.agg [.int .i64 sts.length,xD (1+p.xW.length) 1 (us (jv p.xW sts t F)),.yD 0 1 p.xW.length]) ⟨2+p.xW.length,yX (1+p.xW.length) 1 (us (jv p.xW sts t F))++ lD ((V6 p.xW sts t).map us)⟩:=by
 have hF:=ok.hF;have hA:=ok.hA;have hR:=ok.hR;have ht:=ok.ht;have hl:∀ i,i<sts.length->t<(vQ sts i).length:=λi hi=>ok.len _ (xK hi);have hist:∀ a w,a<p.xW.length->w<sts.length->xA prog 79 [p.d,.sl 1 (us (vQ sts w)),.int .i64 a,.int .i64 t] (.sl 1 (us (uQ p.xW (vQ sts w) a t))):=λa w ha hw=>rV (x8 p ha (hl w hw) ht);have hkey:=λa v w (ha:a<p.xW.length) (hv:v<sts.length) (hw:w<sts.length)=>xg (xW:=p.xW) (t:=t) ha hv hw;have hfac:=λw (hw:w<sts.length)=>Xk (xW:=p.xW) (t:=t) hw;unfold jv V6;have hll:(wX sts.length 0).length=sts.length:=oE _ _;have hlg:∀ i,i<sts.length->(wX sts.length 0).getD i (0,0)= (i,0):=λi hi=>mG hi;generalize zA p.xW sts t=rs at *;generalize wX sts.length 0=l at *;have hD:p.d = .agg [.int .i64 p.F,.sl 1 (us p.init),.sl 1 (us p.xW),.sl 1 (uH p.xO),.sl 1 (uG p.code)]:=rfl;rw [hD] at hist ⊢;rw [ok.fe] at hist ⊢;refine xI func78 Fs λhf=>?_;refine wA yZ ?_
 refine xU (λf:Nat=>[(8,.int .i64 f),(7,.ref 2 3 0 0),(6,.ref 1 3 0 0),(3,.ref 0 5 0 0),(2,.int .i64 t),(1,.sl 1 (rr sts))])
  (λf=>⟨4,yX 3 1 (us (rG rs l f))++ [(2,⟨3,[[.int .i64 sts.length,xD 3 1 (us (rG rs l f)),.xL]]⟩),(1,⟨3,[[.int .i64 0,.xL,.xL]]⟩),(0,⟨5,[[.int .i64 F,.sl 1 (us p.init),.sl 1 (us p.xW),.sl 1 (uH p.xO),.sl 1 (uG p.code)]]⟩)]⟩)
  (λf=>f<=F) (λf=>F-f) 0 (Ae _) ?_ ?_
 ·(refine sS [] [2,1,0] ?_; simp only [wY,zQ,simprocAttr,-ZA,exists_eq_left',ne_eq,zR,rG,List.range_zero,List.map_nil,iJ,yA,yB,η])
 intro f hf;refine xN mixed ?_
 by_cases hfl:f<F
 ·have hd:((f:Int)<(F:Int)):=by omega
  have hvl:(rG rs l f).length=f:=by simp [rG]
  have hvs:rG rs l (f+1)= rG rs l f ++ [oN rs l f sts.length]:=by rw [<- hll]; unfold rG; rw [π,υ]; rfl
  generalize rG rs l f=V at hvl hvs;refine xG hd ?_
  refine xU (λw:Nat=>[(10,.int .i64 w),(9,.int .u64 (ui (oN rs l f w))),(8,.int .i64 f),(7,.ref 2 3 0 0),(6,.ref 1 3 0 0),(3,.ref 0 5 0 0),(2,.int .i64 t),(1,.sl 1 (rr sts))])
   (λw=>⟨4,yX 3 1 (us V)++ [(2,⟨3,[[.int .i64 sts.length,xD 3 1 (us V),.xL]]⟩),(1,⟨3,[[.int .i64 0,.xL,.xL]]⟩),(0,⟨5,[[.int .i64 F,.sl 1 (us p.init),.sl 1 (us p.xW),.sl 1 (uH p.xO),.sl 1 (uG p.code)]]⟩)]⟩)
   (λw=>w<=sts.length) (λw=>sts.length-w) 0 (Ae _) ?_ ?_
  ·(refine yR.same ?_; simp [yS,Fr.get,oN])
  intro w hw;refine xN mixed ?_
  by_cases hwl:w<sts.length
  ·have hd2:((w:Int)<(sts.length:Int)):=by omega
   have hg:=tY sts hwl
   have hv:oN rs l f (w+1)= oN rs l f w ||| (if ((vQ sts w).getD t 0).getLsbD f then 1#64 <<< w else 0#64):=by rw [<- hfac w hwl,<- hlg w hwl]; rfl
   have hlw:=hl w hwl;unfold vQ at hv hlw;generalize sts.getD w []=st at hg hv hlw;have hg2:=zX st hlw;have hd0:((t:Int)<(st.length:Int)):=by omega
   generalize st.getD t 0=x at hg2 hv;generalize oN rs l f w=vv at hv
   cases hb:x.getLsbD f
   ·rw [hb,if_neg (by simp),BitVec.or_zero] at hv;refine lE hd2 yZ hg xT hd0 hg2 ud hb ?_;refine⟨w+1,by omega,?_,by omega⟩;rw [hv];exact yH
   ·rw [hb,if_pos rfl] at hv;refine lE hd2 yZ hg xT hd0 hg2 ud hb ?_;refine⟨w+1,by omega,?_,by omega⟩;rw [hv];exact yH
  have hd2:¬ ((w:Int)<(sts.length:Int)):=by omega
  obtain rfl:w=sts.length:=by omega
  refine uC hd2 yZ xT hvl ?_;refine⟨f+1,by omega,?_,by omega⟩;rw [hvs];exact yf [(3,4)] [3,2,1,0] yE
 have hd:¬ ((f:Int)<(F:Int)):=by omega
 obtain rfl:f=F:=by omega
 generalize rG rs l f=V;refine xG hd ?_;have hrl:∀ a,(tQ rs l a).length=sts.length:=λa=>by simp [tQ,hll]
 have hE:(List.range p.xW.length).map (λa=>us (tQ rs l a))= (tP rs l p.xW.length).map us:=by simp only [tP,List.map_map]; rfl
 refine xU (λx:QP=>[(11,.int .i64 x.a),(7,.ref 2 3 0 0),(6,.ref 1 3 0 0),(3,.ref 0 5 0 0),(2,.int .i64 t),(1,.sl 1 (rr sts))]) (λx=>⟨x.nx,x.xZ⟩)
  (λx=>IG (λa=>us (tQ rs l a)) p.xW.length 4 x/\St.look x.xZ 0=some ⟨5,[[.int .i64 f,.sl 1 (us p.init),.sl 1 (us p.xW),.sl 1 (uH p.xO),.sl 1 (uG p.code)]]⟩/\ St.look x.xZ 1=some ⟨3,[[.int .i64 0,.xL,.xL]]⟩
   /\ St.look x.xZ 2=some ⟨3,[[.int .i64 sts.length,xD 3 1 (us V),wI x.kO x.a]]⟩/\ (us V ≠ []->St.look x.xZ 3=some ⟨1,us V⟩)/\ (x.a≠0->4<=x.kO)/\ ∀ k ∈ x.ks,4<=k) (λx=>p.xW.length-x.a)
  ⟨0,4,0,[],yX 3 1 (us V)++ [(2,⟨3,[[.int .i64 sts.length,xD 3 1 (us V),.xL]]⟩),(1,⟨3,[[.int .i64 0,.xL,.xL]]⟩),(0,⟨5,[[.int .i64 f,.sl 1 (us p.init),.sl 1 (us p.xW),.sl 1 (uH p.xO),.sl 1 (uG p.code)]]⟩)]⟩
  ⟨⟨Ae _,Af _,.inr rfl,rfl,by simp,.nil,λh=>absurd rfl h,λh=>absurd rfl h⟩,by generalize us V=W; cases W <;> rfl,by generalize us V=W; cases W <;> rfl,by generalize us V=W; cases W <;> rfl,λh=>by rw [lO h]; rfl,λh=>absurd rfl h,by simp⟩ ?_ ?_
 ·(refine yR.same ?_; simp [yS,Fr.get,wI])
 rintro ⟨a,nx,kO,ks,xZ⟩ ⟨hB,g0,g1,g2,g3,hk4,hks4⟩;obtain⟨ha,hn0,hkO,hkl,hks,hnd,hno,hnst⟩:=id hB;simp only at ha hn0 hkO hkl hks hnd hno hnst g0 g1 g2 g3 hk4 hks4;refine xN mixed ?_;by_cases hal:a<p.xW.length
 case neg=>
  have hd2:¬ ((a:Int)<(p.xW.length:Int)):=by omega
  obtain rfl:a=p.xW.length:=by omega
  have ha0:p.xW.length≠0:=by omega
  have hn:=hnst ha0;rw [hE] at hn;have hk4:=hk4 ha0;rw [show wI kO p.xW.length = .yD kO 1 p.xW.length by unfold wI; rw [if_neg ha0]] at g2;refine qP hd2 xT g0 g1 g2 ?_;have hEl:p.xW.length=((tP rs l p.xW.length).map us).length:=by simp [tP]
  have hk':∀ k o,k≠1->St.look (zG xZ 1 o) k=St.look xZ k:=λk o h=>by rw [xQ,if_neg (λe=>h e.symm)]
  have hN:∀ o,fR (zG xZ 1 o) kO ks ((tP rs l p.xW.length).map us):=λo=>⟨(hk' kO o (by omega)).trans hn.out,hn.len,λi hi=>(hk' _ o (by have:=hks4 _ (vI (l:=ks) (i:=i) (by have:=hn.len; omega)); omega)).trans (hn.each i hi)⟩;have hlk:∀ o,St.look (zG xZ 1 o) 1=some o:=λo=>by rw [xQ,if_pos rfl,g1]; rfl
  rw [hlk];refine⟨rfl,Nat.zero_lt_one,?_⟩;exact sJ.mod (hN _) hEl hnd (hno ha0) (λh=>(hk' 3 _ (by decide)).trans (g3 h)) (by omega) (λh=>by have:=hks4 3 h; omega) Xn (vD _)
 have hd2:((a:Int)<(p.xW.length:Int)):=by omega
 have hown:=hrl a;have hst:=λkI kN n2 ob=>@IG.Kj (λa=>us (tQ rs l a)) p.xW.length 4 ⟨a,nx,kO,ks,xZ⟩ hB hal kI kN n2 ob;simp only at hst
 have howg:∀ i,i<sts.length->(tQ rs l a).getD i 0=Ru.pG rs l a (vL rs a (i,0)) sts.length:=λi hi=>by rw [<- hlg i hi,<- hll];simp [tQ,List.getD,hll,hi]
 have hist:=λk hk=>hist a k hal hk;have hkey:=λi k hi hk=>hkey a k i hal hk hi;have hRs:∀ x k,k<sts.length->Ru.pG rs l a x (k+1)= Ru.pG rs l a x k ||| (if vL rs a (k,0)= x then 1#64 <<< k else 0#64):=λx k hk=>by rw [<- hlg k hk]; rfl
 generalize tQ rs l a=own at *;refine sT hd2 xT g0 ?_
 refine xU (λx:OP=>[(13,.int .i64 x.j),(12,wI x.kW x.j),(11,.int .i64 a),(7,.ref 2 3 0 0),(6,.ref 1 3 0 0),(3,.ref 0 5 0 0),(2,.int .i64 t),(1,.sl 1 (rr sts))]) (λx=>⟨x.m,x.ob⟩)
  (IU xZ nx own) (λx=>own.length-x.j) ⟨0,nx,0,xZ⟩ ⟨Ae _,Af _,λh=>absurd rfl h,λ_ _=>rfl⟩ ?_ ?_
 ·(refine yR.same ?_; simp [yS,Fr.get,wI])
 rintro ⟨i,m,kW,ob⟩ ⟨hj,hm,hkW,hold⟩;simp only at hj hm hkW hold;have o0:=(hold 0 (by omega)).trans g0;have o2:=(hold 2 (by omega)).trans g2;refine xN mixed ?_;by_cases hil:i<sts.length
 case neg=>
  have hd3:¬ ((i:Int)<(sts.length:Int)):=by omega
  obtain rfl:i=sts.length:=by omega
  have hj0:sts.length≠0:=by omega
  obtain⟨w1,w2,w3⟩:=hkW hj0;rw [γ (by omega)] at w3;rw [show wI kW sts.length = .yD kW 1 sts.length by unfold wI; rw [if_neg hj0]];have q2:¬ (m=2):=by omega
  have q2':¬ (m+1=2):=by omega
  have hu:=vX (k:=a) (by omega);have o1:=(hold 1 (by omega)).trans g1
  by_cases ha0:a=0
  ·subst ha0;obtain rfl:ks = []:=ο hkl;rw [show wI kO 0=D.xL from rfl] at o2;refine oH hd3 yZ o2 q2 q2' hu ?_
   refine⟨⟨0+1,m+1+1,m+1,[] ++ [kW],(m+1,⟨1,[[.yD kW 1 sts.length]]⟩) :: (m,⟨1,[[.yD kW 1 sts.length]]⟩) :: zG ob 2 ⟨3,[[.int .i64 sts.length,xD 3 1 (us V),.yD (m+1) 1 1]]⟩⟩,
    ⟨hst kW (m+1) (m+1+1) _ ⟨by omega,by omega⟩ ⟨by omega,by omega⟩ (by omega) ?_ ?_ (λk hk=>by cases hk),?_,?_,?_,λhV=>?_,λ_=>by show 4<=m+1; omega,?_⟩,?_,by show p.xW.length-(0+1)<_; omega⟩
   ·rw [xX,if_pos rfl];simp [vS,xT,hown]
   ·rw [xX,if_neg (by omega),xX,if_neg (by omega),xQ,if_neg (by omega)];exact w3
   ·show St.look (_ :: _ :: zG ob 2 _) 0=_;rw [xX,if_neg (by omega),xX,if_neg (by omega),xQ,if_neg (by omega)];exact o0
   ·show St.look (_ :: _ :: zG ob 2 _) 1=_;rw [xX,if_neg (by omega),xX,if_neg (by omega),xQ,if_neg (by omega)];exact o1
   ·show St.look (_ :: _ :: zG ob 2 _) 2=_;rw [xX,if_neg (by omega),xX,if_neg (by omega),xQ,if_pos rfl,o2];rfl
   ·show St.look (_ :: _ :: zG ob 2 _) 3=_;rw [xX,if_neg (by omega),xX,if_neg (by omega),xQ,if_neg (by omega)];exact(hold 3 (by omega)).trans (g3 hV)
   ·intro k hk;obtain rfl:=δ.1 hk;omega
   ·exact yH
  ·have hkO2:kO<nx:=hkO.resolve_right ha0;have hn:=hnst ha0;have ho:=hn.out;have ho2:=(hold kO hkO2).trans ho;have hk4':=hk4 ha0;have q4:¬ (kO=2):=by omega
   have q3:¬ (m=kO):=by omega
   have q5:¬ (2=kO):=by omega
   have hnl:=uY hn.len;rw [List.length_map,Ab] at hnl;have htk:(vS ks ((List.range a).map λa=>us (tQ rs l a))).take a=vS ks ((List.range a).map λa=>us (tQ rs l a)):=γ (by omega);have hsn:=iT hn.len kW (us own);rw [xT,hown] at hsn;rw [show wI kO a = .yD kO 1 a by unfold wI; rw [if_neg ha0]] at o2;have o2e:St.look (yO ob kO) 2=St.look ob 2:=by rw [xE,if_neg q4]
   refine NZ hd3 yZ o2 o2e q2 q2' q3 q4 q5 ho2 hnl htk hu ?_
   refine⟨⟨a+1,m+1+1,m+1,ks ++ [kW],(m+1,⟨1,vS ks ((List.range a).map λa=>us (tQ rs l a))++ [[.yD kW 1 sts.length]]⟩) :: (m,⟨1,[[.yD kW 1 sts.length]]⟩) :: zG (yO ob kO) 2 ⟨3,[[.int .i64 sts.length,xD 3 1 (us V),.yD (m+1) 1 (a+1)]]⟩⟩,
    ⟨hst kW (m+1) (m+1+1) _ ⟨by omega,by omega⟩ ⟨by omega,by omega⟩ (by omega) ?_ ?_ (λk hk h2=>?_),?_,?_,?_,λhV=>?_,λ_=>by show 4<=m+1; omega,λk hk=>?_⟩,?_,by show p.xW.length-(a+1)<_; omega⟩
   ·rw [xX,if_pos rfl,hsn]
   ·rw [xX,if_neg (by omega),xX,if_neg (by omega),xQ,if_neg (by omega),xE,if_neg (by omega)];exact w3
   ·have h1:=hks4 k hk;have h3:=hks k hk;rw [xX,if_neg (by omega),xX,if_neg (by omega),xQ,if_neg (by omega),xE,if_neg (λe=>(h2.resolve_left ha0) e.symm)];exact hold k h3
   ·show St.look (_ :: _ :: zG _ 2 _) 0=_;rw [xX,if_neg (by omega),xX,if_neg (by omega),xQ,if_neg (by omega),xE,if_neg (by omega)];exact o0
   ·show St.look (_ :: _ :: zG _ 2 _) 1=_;rw [xX,if_neg (by omega),xX,if_neg (by omega),xQ,if_neg (by omega),xE,if_neg (by omega)];exact o1
   ·show St.look (_ :: _ :: zG _ 2 _) 2=_;rw [xX,if_neg (by omega),xX,if_neg (by omega),xQ,if_pos rfl,o2e,o2,show wI (m+1) (a+1)= .yD (m+1) 1 (a+1) by unfold wI; rw [if_neg (by omega)]];rfl
   ·show St.look (_ :: _ :: zG _ 2 _) 3=_;rw [xX,if_neg (by omega),xX,if_neg (by omega),xQ,if_neg (by omega),xE,if_neg (by omega)];exact(hold 3 (by omega)).trans (g3 hV)
   ·rcases θ.1 hk with hk | hk
    ·exact hks4 k hk
    ·obtain rfl:=δ.1 hk;omega
   ·exact yH
 have hd3:((i:Int)<(sts.length:Int)):=by omega
 have hgi:=tY sts hil;have hhi:=hist i hil;have hwg:=howg i hil;have htk:=yC (d:=(0:BitVec 64)) (show i<own.length by omega);rw [hwg] at htk;have hkey:=λk hk=>hkey i k hil hk;have hgk:=λk (hk:k<sts.length)=>tY sts hk;rw [show sts.getD i []=vQ sts i from rfl] at hgi;generalize vQ sts i=sti at *;generalize uQ p.xW sti a t=hi0 at *;generalize vL rs a (i,0)= x at *;refine yM hd3 yZ ?_
 refine xU (λk:Nat=>[(15,.int .i64 k),(14,.int .u64 (ui (Ru.pG rs l a x k))),(13,.int .i64 i),(12,wI kW i),(11,.int .i64 a),(7,.ref 2 3 0 0),(6,.ref 1 3 0 0),(3,.ref 0 5 0 0),(2,.int .i64 t),(1,.sl 1 (rr sts))])
  (λ_=>⟨m,ob⟩) (λk=>k<=sts.length) (λk=>sts.length-k) 0 (Ae _) ?_ ?_
 ·(refine yR.same ?_; simp [yS,Fr.get,Ru.pG])
 intro k hk;refine xN mixed ?_;by_cases hkl:k<sts.length
 case neg=>
  have hd4:¬ ((k:Int)<(sts.length:Int)):=by omega
  obtain rfl:k=sts.length:=by omega
  by_cases hj0:i=0
  ·subst hj0;rw [show wI kW 0=D.xL from rfl];refine nQ hd4 yZ ?_
   refine⟨⟨0+1,m+1,m,(m,⟨1,[[.int .u64 (ui (Ru.pG rs l a x sts.length))]]⟩) :: ob⟩,⟨by show 0+1<=_; omega,by show nx<=m+1; omega,λ_=>⟨by show nx<=m; omega,by show m<m+1; omega,?_⟩,λk hk=>?_⟩,?_,by show own.length-(0+1)<_; omega⟩
   ·show St.look ((m,_) :: ob) m=_;rw [xX,if_pos rfl];show _=some (Ob.mk 1 (us (own.take (0+1))));rw [htk]; rfl
   ·show St.look ((m,_) :: ob) k=_;rw [xX,if_neg (by omega)];exact hold k hk
   ·rw [show wI m (0+1)= .yD m 1 1 from rfl];exact yH
  ·obtain⟨w1,w2,w3⟩:=hkW hj0;have q1:¬ (m=kW):=by omega
   have hol:(own.take i).length=i:=by rw [ε]; omega
   have htt:(own.take i).take i=own.take i:=by rw [List.take_take,Nat.min_self]
   rw [show wI kW i = .yD kW 1 i by unfold wI; rw [if_neg hj0]];refine uc hd4 yZ w3 xT hol htt q1 ?_
   refine⟨⟨i+1,m+1,m,(m,⟨1,us (own.take i ++ [Ru.pG rs l a x sts.length])⟩) :: yO ob kW⟩,⟨by show i+1<=_; omega,by show nx<=m+1; omega,λ_=>⟨by show nx<=m; omega,by show m<m+1; omega,?_⟩,λk hk=>?_⟩,?_,by show own.length-(i+1)<_; omega⟩
   ·show St.look ((m,_) :: _) m=_;rw [xX,if_pos rfl];show _=some (Ob.mk 1 (us (own.take (i+1))));rw [htk]
   ·show St.look ((m,_) :: yO ob kW) k=_;rw [xX,if_neg (by omega),xE,if_neg (by omega)];exact hold k hk
   ·rw [show wI m (i+1)= .yD m 1 (i+1) by unfold wI; rw [if_neg (by omega)]];exact yH
 have hd4:((k:Int)<(sts.length:Int)):=by omega
 have hS:=hRs x k hkl;have hgk:=hgk k hkl;have hhk:=hist k hkl;have hkey:=hkey k hkl;rw [show sts.getD k []=vQ sts k from rfl] at hgk;generalize vQ sts k=stk at *;generalize uQ p.xW stk a t=hk0 at *;generalize vL rs a (k,0)= y at hS hkey;generalize Ru.pG rs l a x k=vv at hS;have hord:=xj (hi0.map ui) (hk0.map ui);rw [<- qF,<- qF] at hord;refine oH hd4 yZ hd3 hgi hgk o0 ?_;refine .go (cr hhi) ?_;refine oH hd4 yZ hd3 hgi hgk o0 ?_;refine .go (cr hhk) ?_;refine xJ ?_;refine .go (cr hord) ?_
 by_cases e:y=x
 ·have e1:(kc (hi0.map ui) (hk0.map ui)== 0)= true:=by rw [hkey.1 e,dU]; rfl
  rw [if_pos e] at hS;refine wA e1 ?_;refine⟨k+1,by omega,?_,by omega⟩;rw [hS];exact yH
 ·have e1:(kc (hi0.map ui) (hk0.map ui)== 0)= false:=by rw [beq_eq_false_iff_ne];intro h;have:=dW h;exact e (hkey.2 (ik.1 this).symm)
  rw [if_neg e,BitVec.or_zero] at hS;refine wA e1 ?_;refine⟨k+1,by omega,?_,by omega⟩;rw [hS];exact yH
open Rs Fm Ru Te Kb
theorem UQ {p:yT} {F:Nat} (hv:aN p F):xP prog 125 [p.d] jN (.yD 0 1 p.init.length) ⟨1+p.init.length,lD ((pY p).map us)⟩:=by
 have hI:=hv.hI;have hD:p.d = .agg [.int .i64 p.F,.sl 1 (us p.init),.sl 1 (us p.xW),.sl 1 (uH p.xO),.sl 1 (uG p.code)]:=rfl
 have hE:(List.range p.init.length).map (λi=>us [p.init.getD i 0])= (pY p).map us:=by
  unfold pY;refine List.ext_getElem (by simp) λi h1 h2=>?_;have:i<p.init.length:=by simpa using h1
  simp [List.getD,this]
 rw [hD];refine xI func125 Ib λhf=>?_;refine zC ?_
 refine xU (λx:QP=>[(4,.int .i64 x.a),(3,wI x.kO x.a),(1,.ref 0 5 0 0)]) (λx=>⟨x.nx,x.xZ⟩)
  (λx=>IG (λi=>us [p.init.getD i 0]) p.init.length 1 x/\St.look x.xZ 0=some ⟨5,[[.int .i64 p.F,.sl 1 (us p.init),.sl 1 (us p.xW),.sl 1 (uH p.xO),.sl 1 (uG p.code)]]⟩/\ (x.a≠0->1<=x.kO)) (λx=>p.init.length-x.a)
  ⟨0,1,0,[],[(0,⟨5,[[.int .i64 p.F,.sl 1 (us p.init),.sl 1 (us p.xW),.sl 1 (uH p.xO),.sl 1 (uG p.code)]]⟩)]⟩
  ⟨⟨Ae _,Af _,.inr rfl,rfl,by simp,.nil,λh=>absurd rfl h,λh=>absurd rfl h⟩,rfl,λh=>absurd rfl h⟩ ?_ ?_
 ·(refine yR.same ?_; simp [yS,Fr.get,wI])
 rintro ⟨k,nx,kO,ks,xZ⟩ ⟨hB,hx,hk1⟩;obtain⟨hk,hn0,hkO,hkl,hks,hnd,hno,hnst⟩:=id hB;simp only at hk hn0 hkO hkl hks hnd hno hnst hx hk1;refine xN mixed ?_;by_cases hkl2:k<p.init.length
 case neg=>
  have hd:¬ ((k:Int)<(p.init.length:Int)):=by omega
  obtain rfl:k=p.init.length:=by omega
  have hk0:p.init.length≠0:=by omega
  have hn:=hnst hk0;rw [hE] at hn;unfold wI;rw [if_neg hk0];refine bO hd hx xT ?_;have hl2:((pY p).map us).length=p.init.length:=by simp [pY]
  have hr:=sJ.lF (nx:=nx) hn hl2.symm hnd (hno hk0) λe he r hr=>(iF e he r hr).2;rw [hl2] at hr;exact hr
 have hd:((k:Int)<(p.init.length:Int)):=by omega
 have hg:=zX p.init hkl2;have hst:=λkI kN n2 ob=>@IG.step (λi=>us [p.init.getD i 0]) p.init.length 1 ⟨k,nx,kO,ks,xZ⟩ hB hkl2 kI kN n2 ob;simp only at hst;generalize p.init.getD k 0=s at hg hst
 by_cases hk0:k=0
 ·subst hk0;have hd0:(0:Int)<(p.init.length:Int):=by omega
  obtain rfl:ks = []:=ο hkl
  have hst1:=hst nx (nx+1+1) (nx+1+1+1) ((nx+1+1,⟨1,[[.yD nx 1 1]]⟩) :: (nx+1,⟨1,[[.yD nx 1 1]]⟩) :: (nx,⟨1,[[.int .u64 (ui s)]]⟩) :: xZ)
   ⟨by omega,by omega⟩ ⟨by omega,by omega⟩ (by omega) (by rw [xX,if_pos rfl]; rfl) (by rw [xX,if_neg (by omega),xX,if_neg (by omega),xX,if_pos rfl]; rfl)
   (λj hj _=>by rw [xX,if_neg (by omega),xX,if_neg (by omega),xX,if_neg (by omega)])
  rw [show wI kO 0=D.xL from rfl];refine uC hd0 xT hg hx ?_
  refine⟨_,⟨hst1,?_,λ_=>by show 1<=nx+1+1; omega⟩,?_,by show p.init.length-(0+1)<_; omega⟩
  ·show St.look (_ :: _ :: _ :: xZ) 0=_;rw [xX,if_neg (by omega),xX,if_neg (by omega),xX,if_neg (by omega)];exact hx
  ·(refine yR.same ?_; simp only [yS,Fr.get,simprocAttr,-ZA,zS,show wI (nx+1+1) (0+1)= .yD (nx+1+1) 1 1 from rfl])
   all_goals rfl
 ·have hkO2:kO<nx:=hkO.resolve_right hk0;have hk1:=hk1 hk0;have ho:=(hnst hk0).out;have hnl:=uY (hnst hk0).len;rw [List.length_map,Ab] at hnl;have hsn:=iT (hnst hk0).len nx (us [s]);generalize (List.range k).map (λi=>us [p.init.getD i 0])= ess at *;have htk:(vS ks ess).take k=vS ks ess:=γ (by omega);have q2:¬ (nx=kO):=by omega
  have q3:¬ (nx+1=kO):=by omega
  have hst1:=hst nx (nx+1+1) (nx+1+1+1) ((nx+1+1,⟨1,vS ks ess ++ [[.yD nx 1 1]]⟩) :: (nx+1,⟨1,[[.yD nx 1 1]]⟩) :: (nx,⟨1,[[.int .u64 (ui s)]]⟩) :: yO xZ kO)
   ⟨by omega,by omega⟩ ⟨by omega,by omega⟩ (by omega) (by rw [xX,if_pos rfl,<- hsn]; rfl) (by rw [xX,if_neg (by omega),xX,if_neg (by omega),xX,if_pos rfl]; rfl)
   (λj hj h2=>by rw [xX,if_neg (by omega),xX,if_neg (by omega),xX,if_neg (by omega),xE,if_neg (λe=>(h2.resolve_left hk0) e.symm)])
  rw [show wI kO k = .yD kO 1 k by unfold wI; rw [if_neg hk0]];refine j4 hd xT hg hx q2 q3 ho hnl htk ?_
  refine⟨_,⟨hst1,?_,λ_=>by show 1<=nx+1+1; omega⟩,?_,by show p.init.length-(k+1)<_; omega⟩
  ·show St.look (_ :: _ :: _ :: yO xZ kO) 0=_;rw [xX,if_neg (by omega),xX,if_neg (by omega),xX,if_neg (by omega),xE,if_neg (by omega)];exact hx
  ·(refine yR.same ?_; simp only [yS,Fr.get,simprocAttr,-ZA,zS,show wI (nx+1+1) (k+1)= .yD (nx+1+1) 1 (k+1) by unfold wI; rw [if_neg (by omega)]])
   exact wrap_i64 (by omega)
open Rs Fm Ru Te Kb
theorem MW {p:yT} {F:Nat} {sts:List (List (BitVec 64))} {t:Nat} (h:W6 p F sts t) {f:List Nd} (hE:vq p f 15=0):xA prog 133 [lB p.xW sts t F,.sl 6 (wP f)] (.wH [.int .u64 (ui (V4 p.xW sts t f)),.int .i64 0]):=by
 obtain⟨h1,h2,h3⟩:=si hE;rw [h.fe] at h3;have ok:=h.time;have hl:(zA p.xW sts t).length*1=sts.length:=by rw [iW,Nat.mul_one]
 have hh:=UN ok (by rw [hl]; have:=h.hR.2; omega) h1 h2 h3;rw [hl,Xl] at hh;exact hh
theorem QA {p:yT} {c:bP} (h:jO p c=0):vq p c.test 15=0:=by
 unfold jO at h
 split at h
 ·rename_i h1; exact absurd h h1
 ·rename_i h1; simpa using h1
theorem Vl {p:yT} {F:Nat} (hv:aN p F) {sts:List (List (BitVec 64))} {t:Nat} (ok:W6 p F sts t) {a w:Nat} (ha:a<p.xW.length) (hw:w<sts.length) :
  xA prog 80 [p.d,lB p.xW sts t F,.int .i64 a,.int .i64 w] (.int .i64 (sC p sts t a w)):=by
 have hac:a<p.code.length:=by rw [hv.hC]; exact ha
 have hcl:=hv.cl _ (xK (d:=[]) hac);have hce:=hv.code _ (xK (d:=[]) hac);have hH:=λ(c:bP) (hc:c ∈ p.code.getD a [])=>MW ok (QA (hce c hc));have hK:=λf=>Xf ok ha hw f;have hcg:=iA p.code hac;have hll:(wX sts.length 0).length=sts.length:=oE _ _;have hRl:(tP (zA p.xW sts t) (wX sts.length 0) p.xW.length).length=p.xW.length:=by simp [tP]
 have hRg:(tP (zA p.xW sts t) (wX sts.length 0) p.xW.length).getD a []=tQ (zA p.xW sts t) (wX sts.length 0) a:=by simp [tP,List.getD,ha]
 have hrl:(tQ (zA p.xW sts t) (wX sts.length 0) a).length=sts.length:=by simp [tQ,hll]
 have hrg:(tQ (zA p.xW sts t) (wX sts.length 0) a).getD w 0=Ru.pG (zA p.xW sts t) (wX sts.length 0) a (vL (zA p.xW sts t) a (w,0)) sts.length:=by simp [tQ,wX,List.getD,hw]
 have hF1:∀ j,j<(p.code.getD a []).length->uF p.xW sts t a w ((p.code.getD a []).drop j)= if Nf p.xW sts t a ((p.code.getD a []).getD j j9).test w=true then((p.code.getD a []).getD j j9).mv else uF p.xW sts t a w ((p.code.getD a []).drop (j+1)):=λj hj=>by rw [drop_cons (d:=j9) hj]; rfl
 have hpa:sC p sts t a w=uF p.xW sts t a w ((p.code.getD a []).drop 0):=rfl;rw [hpa];unfold lB rh at hH ⊢;rw [hll] at hH ⊢;have hgR:=tY _ (show a<_ by rw [hRl]; exact ha);rw [hRg] at hgR;have hgr:=zX _ (show w<_ by rw [hrl]; exact hw);rw [hrg] at hgr;have hRlr:=hRl;generalize tP (zA p.xW sts t) (wX sts.length 0) p.xW.length=RR at *;generalize tQ (zA p.xW sts t) (wX sts.length 0) a=rl at *;generalize Ru.pG (zA p.xW sts t) (wX sts.length 0) a (vL (zA p.xW sts t) a (w,0)) sts.length=rk at *;generalize rG (zA p.xW sts t) (wX sts.length 0) F=VV at *;generalize p.code.getD a []=cl at *;generalize hz0:uF p.xW sts t a w (cl.drop 0)= z0 at *;have had:((a:Int)<(p.xW.length:Int)):=by omega
 have hadc:((a:Int)<(p.code.length:Int)):=by omega
 have hwd:((w:Int)<(sts.length:Int)):=by omega
 have hD:p.d = .agg [.int .i64 p.F,.sl 1 (us p.init),.sl 1 (us p.xW),.sl 1 (uH p.xO),.sl 1 (uG p.code)]:=rfl;rw [hD];refine xI func80 Fu λhf=>?_;refine zC ?_
 refine xU (λk:Nat=>[(9,.int .i64 k),(5,.ref 1 3 0 0),(4,.ref 0 5 0 0),(3,.int .i64 w),(2,.int .i64 a)])
  (λ_=>⟨2,[(1,⟨3,[[.int .i64 sts.length,.sl 1 (us VV),.sl 1 (rr RR)]]⟩),(0,⟨5,[[.int .i64 p.F,.sl 1 (us p.init),.sl 1 (us p.xW),.sl 1 (uH p.xO),.sl 1 (uG p.code)]]⟩)]⟩)
  (λk=>k<=cl.length/\z0=uF p.xW sts t a w (cl.drop k)) (λk=>cl.length-k) 0 ⟨Ae _,hz0.symm⟩ ?_ ?_
 ·exact wE
 rintro k ⟨hk,hP⟩;refine xN mixed ?_;by_cases hkl:k<cl.length
 case neg=>
  have hd:¬ ((k:Int)<(cl.length:Int)):=by omega
  have he:uF p.xW sts t a w (cl.drop k)= -1:=by rw [List.drop_eq_nil_of_le (by omega)]; rfl
  rw [hP,he];refine qP hd zH hadc hcg vK ?_;exact .dv
 have hd:((k:Int)<(cl.length:Int)):=by omega
 have hg:=xn cl hkl;have hm:=xK (d:=j9) hkl;have hF1:=hF1 k hkl;have hh:=hH _ hm;generalize cl.getD k j9=c at *;have hK:=hK c.test;unfold bP.row at hg;generalize Nf p.xW sts t a c.test w=kn at *;generalize V4 p.xW sts t c.test=st at *;refine oH hd zH hadc hcg vK hg ?_;refine .go (cr hh) ?_
 cases kn with
 | true=>
  rw [if_pos rfl] at hF1;rw [hP,hF1];simp only [simprocAttr,-ZA,↓zU,↓zD,zV,zT,zW,hd,zH,hadc,hcg,vK,hg,yZ,xT,hRlr,hrl,had,hwd,hgR,hgr,hK]
  (repeat refine sd ?_)
  exact .dv
 | false=>
  rw [if_neg (by simp)] at hF1;simp only [simprocAttr,-ZA,↓zU,↓zD,zV,zT,zW,hd,zH,hadc,hcg,vK,hg,yZ,xT,hRlr,hrl,had,hwd,hgR,hgr,hK]
  (repeat refine sd ?_)
  refine⟨k+1,⟨by omega,by rw [hP,hF1]⟩,?_,by omega⟩;exact yH
open Rs Fm Ru Te Kb
namespace Kb
def fH (h:List Int) (l:List (List Int)):List (List Int):=l.filter λx=>decide (kc x h<0)
def fI (h:List Int) (l:List (List Int)):List (List Int):=l.filter λx=>!decide (kc x h<0)
def jq (h:List Int) (l:List (List Int)):List (List Int):=if (l.any λx=>kc x h==0)= true then l else fH h l ++ [h]++fI h l
def cD (kf:Nat × Nat->List Int) (t:Nat) (o:List (List Int)):Nat->List (List Int)
 | 0=>o
 | i+1=>jq (kf (i,t)) (cD kf t o i)
def fT (kf:Nat × Nat->List Int) (R:Nat):Nat->List (List Int)
 | 0=>[]
 | t+1=>cD kf t (fT kf R t) R
theorem ZI (h:List Int):∀ l:List (List Int),(fH h l).length+(fI h l).length=l.length
 | []=>rfl
 | x :: r=>by have ih:=ZI h r;unfold fH fI at ih ⊢;rw [ξ,ξ];cases decide (kc x h<0) <;> simp <;> omega
theorem QV (h:List Int) (l:List (List Int)):(jq h l).length<=l.length+1:=by
 have:=ZI h l;unfold jq
 split
 ·omega
 ·simp only [Aa,List.length_singleton]; omega
theorem ov (kf:Nat × Nat->List Int) (t:Nat) (o:List (List Int)):∀ i,(cD kf t o i).length<=o.length+i
 | 0=>Af _
 | i+1=>by have h1:=ov kf t o i;have h2:=QV (kf (i,t)) (cD kf t o i);unfold cD; omega
theorem ow (kf:Nat × Nat->List Int) (R:Nat):∀ t,(fT kf R t).length<=R*t
 | 0=>Af _
 | t+1=>by have h1:=ow kf R t;have h2:=ov kf t (fT kf R t) R;rw [Nat.mul_succ];unfold fT; omega
theorem vz {f:List Int->Bool} {l:List (List Int)} {k:Nat} (h:k<l.length):(l.take (k+1)).filter f=(l.take k).filter f++if f (l.getD k [])= true then [l.getD k []] else []:=by rw [yC (d:=[]) h,List.filter_append];congr 1;rw [ξ];split <;> simp_all
end Kb
theorem Vi {p:yT} {sts:List (List (BitVec 64))} {a T:Nat} (ha:a<p.xW.length) (hT:T<=16) (hR:1<=sts.length/\sts.length<=16) (hl:∀ st ∈ sts,T<=st.length) :
  xA prog 77 [p.d,.sl 1 (rr sts),.int .i64 a,.int .i64 T] (.sl 1 (sU (fT (vV p.xW sts a) sts.length T))):=by
 have hh:∀ r t,r<sts.length->t<T->xA prog 79 [p.d,.sl 1 (us (vQ sts r)),.int .i64 a,.int .i64 t] (.sl 1 (rows .u64 (vV p.xW sts a (r,t)))):=λr t hr ht=>by have:=rV (x8 p ha (show t<(vQ sts r).length by have:=hl _ (xK (d:=[]) hr); unfold vQ; omega) (by omega));rw [qF (uQ _ _ _ _)] at this;exact this
 have hD:p.d = .agg [.int .i64 p.F,.sl 1 (us p.init),.sl 1 (us p.xW),.sl 1 (uH p.xO),.sl 1 (uG p.code)]:=rfl;rw [hD] at hh ⊢
 have hOl:∀ t,t<=T->(fT (vV p.xW sts a) sts.length t).length<=256:=λt ht=>by have:=ow (vV p.xW sts a) sts.length t;have:sts.length*t<=16*16:=Nat.mul_le_mul hR.2 (by omega);omega
 generalize vV p.xW sts a=kf at *;refine xI func77 Fq λhf=>?_;refine zC ?_
 refine xU (λt:Nat=>[(10,.int .i64 t),(9,xD 1 1 (sU (fT kf sts.length t))),(4,.ref 0 5 0 0),(3,.int .i64 T),(2,.int .i64 a),(1,.sl 1 (rr sts))])
  (λt=>⟨2,yX 1 1 (sU (fT kf sts.length t))++ [(0,⟨5,[[.int .i64 p.F,.sl 1 (us p.init),.sl 1 (us p.xW),.sl 1 (uH p.xO),.sl 1 (uG p.code)]]⟩)]⟩) (λt=>t<=T) (λt=>T-t) 0 (Ae _) ?_ ?_
 ·(refine sS [] [0] ?_; simp only [wY,zQ,simprocAttr,-ZA,exists_eq_left',ne_eq,zR,fT,tg,yA,yB,η])
 intro t ht;refine xN mixed ?_;by_cases htl:t<T
 case neg=>
  have hd:¬ ((t:Int)<(T:Int)):=by omega
  obtain rfl:t=T:=by omega
  refine xG hd ?_
  (refine sJ.W7 [] [] (by simp) (by simp) (by decide) ?_; simp only [wY,zQ,simprocAttr,-ZA,exists_eq_left',ne_eq,zR,sW])
 have hd:((t:Int)<(T:Int)):=by omega
 have hO:=hOl t ht;have hsO:fT kf sts.length (t+1)= cD kf t (fT kf sts.length t) sts.length:=rfl;generalize fT kf sts.length t=o0 at *;refine xG hd ?_
 refine xU (λi:Nat=>[(11,.int .i64 i),(10,.int .i64 t),(9,xD 1 1 (sU (cD kf t o0 i))),(4,.ref 0 5 0 0),(3,.int .i64 T),(2,.int .i64 a),(1,.sl 1 (rr sts))])
  (λi=>⟨2,yX 1 1 (sU (cD kf t o0 i))++ [(0,⟨5,[[.int .i64 p.F,.sl 1 (us p.init),.sl 1 (us p.xW),.sl 1 (uH p.xO),.sl 1 (uG p.code)]]⟩)]⟩) (λi=>i<=sts.length) (λi=>sts.length-i) 0 (Ae _) ?_ ?_
 ·(refine sS [] [1,0] ?_; simp only [wY,zQ,simprocAttr,-ZA,exists_eq_left',ne_eq,zR,cD,sW])
 intro i hi;refine xN mixed ?_;by_cases hil:i<sts.length
 case neg=>
  have hd2:¬ ((i:Int)<(sts.length:Int)):=by omega
  obtain rfl:i=sts.length:=by omega
  rw [<- hsO];refine yM hd2 yZ ?_;refine⟨t+1,by omega,?_,by omega⟩;exact yf [] [1,0] sW
 have hd2:((i:Int)<(sts.length:Int)):=by omega
 have hg:=tY sts hil;have hhi:=hh i t hil htl;have hsI:cD kf t o0 (i+1)= jq (kf (i,t)) (cD kf t o0 i):=rfl;have hIl:=ov kf t o0 i;rw [show sts.getD i []=vQ sts i from rfl] at hg;generalize cD kf t o0 i=out at *;generalize kf (i,t)= h at *;generalize vQ sts i=st at *;refine sT hd2 yZ hg ?_;refine .go (cr hhi) ?_;refine xJ ?_
 refine xU (λk:Nat=>[(16,.int .i64 k),(15,.bool ((out.take k).any λx=>kc x h==0)),(14,xD 3 1 (sU (fI h (out.take k)))),(13,xD 2 1 (sU (fH h (out.take k)))),(12,.sl 1 (rows .u64 h)),(11,.int .i64 i),(10,.int .i64 t),(9,xD 1 1 (sU out)),(4,.ref 0 5 0 0),(3,.int .i64 T),(2,.int .i64 a),(1,.sl 1 (rr sts))])
  (λk=>⟨4,yX 3 1 (sU (fI h (out.take k)))++ (yX 2 1 (sU (fH h (out.take k)))++ (yX 1 1 (sU out)++ [(0,⟨5,[[.int .i64 p.F,.sl 1 (us p.init),.sl 1 (us p.xW),.sl 1 (uH p.xO),.sl 1 (uG p.code)]]⟩)]))⟩) (λk=>k<=out.length) (λk=>out.length-k) 0 (Ae _) ?_ ?_
 ·(refine sS [] [1,0] ?_; simp only [wY,zQ,simprocAttr,-ZA,exists_eq_left',ne_eq,zR,ζ,List.any_nil,fH,fI,List.filter_nil,tg,yA,yB,η,sW])
 intro k hk;refine xN mixed ?_;by_cases hkl:k<out.length
 case pos=>
  have hd3:((k:Int)<(out.length:Int)):=by omega
  have hgo:=rO out hkl;have hord:=xj (out.getD k []) h;have hfl:=vz (f:=λx=>decide (kc x h<0)) hkl;have hfm:=vz (f:=λx=>!decide (kc x h<0)) hkl;have hl1:((out.take k).filter λx=>decide (kc x h<0)).length<=out.length:=Ag (μ _ _) (by rw [ε]; omega);have hl2:((out.take k).filter λx=>!decide (kc x h<0)).length<=out.length:=Ag (μ _ _) (by rw [ε]; omega);have han:((out.take (k+1)).any λx=>kc x h==0)= ((out.take k).any (λx=>kc x h==0) || (kc (out.getD k []) h==0)):=by rw [yC (d:=[]) hkl]; simp
  unfold fH fI;generalize (out.take k).filter (λx=>decide (kc x h<0))= ls at *;generalize (out.take k).filter (λx=>!decide (kc x h<0))= ms at *;generalize (out.take k).any (λx=>kc x h==0)= fd at *;generalize out.getD k []=e at *;generalize kc e h=c at *;have hu:=vX (k:=k) (by omega)
  by_cases hc:c<0
  ·have hc0:(c==0)= false:=beq_eq_false_iff_ne.2 (by omega);rw [decide_eq_true hc,if_pos rfl] at hfl;rw [decide_eq_true hc,if_neg (by simp),χ] at hfm;rw [hc0,Bool.or_false] at han;cases fd
   all_goals
    refine uC hd3 wV hgo hd ?_;refine .go (cr hord) ?_;refine oH hd3 wV hgo hc hc0 hu ?_;refine⟨k+1,by omega,?_,by omega⟩;rw [hfl,hfm,han];exact qW [(2,4)] [3,2,1,0] sW fA
  ·rw [decide_eq_false hc,if_neg (by simp),χ] at hfl;rw [decide_eq_false hc,Bool.not_false,if_pos rfl] at hfm;cases hc0:(c==0)
   all_goals
    rw [hc0] at han;cases fd
   all_goals
    refine uC hd3 wV hgo hd ?_;refine .go (cr hord) ?_;refine oH hd3 wV hgo hc hc0 hu ?_;refine⟨k+1,by omega,?_,by omega⟩;rw [hfl,hfm,han]
    (refine sS [(3,4)] [3,2,1,0] ?_; simp only [wY,zQ,simprocAttr,-ZA,exists_eq_left',ne_eq,zR,sW,fA,Bool.or_false,Bool.or_true])
 have hd3:¬ ((k:Int)<(out.length:Int)):=by omega
 rw [γ (by omega)];have hui:=vX (k:=i) (by omega)
 cases hf:(out.any λx=>kc x h==0) with
 | true=> unfold jq at hsI;rw [if_pos hf] at hsI;refine sT hd3 wV hui ?_;refine⟨i+1,by omega,?_,by omega⟩;rw [hsI];exact yf [] [1,0] sW
 | false=>
  unfold jq at hsI;rw [if_neg (by rw [hf]; simp)] at hsI;have hlm:=ZI h out;generalize fH h out=ls at *;generalize fI h out=ms at *;refine nQ hd3 wV ?_
  refine xU (λk:Nat=>[(18,.int .i64 k),(14,xD 3 1 (sU ms)),(13,xD 2 1 (sU (ls ++ [h]++ms.take k))),(11,.int .i64 i),(10,.int .i64 t),(4,.ref 0 5 0 0),(3,.int .i64 T),(2,.int .i64 a),(1,.sl 1 (rr sts))])
   (λk=>⟨4,yX 3 1 (sU ms)++ (yX 2 1 (sU (ls ++ [h]++ms.take k))++ [(0,⟨5,[[.int .i64 p.F,.sl 1 (us p.init),.sl 1 (us p.xW),.sl 1 (uH p.xO),.sl 1 (uG p.code)]]⟩)])⟩) (λk=>k<=ms.length) (λk=>ms.length-k) 0 (Ae _) ?_ ?_
  ·(refine sS [(2,4)] [3,2,0] ?_; simp only [wY,zQ,simprocAttr,-ZA,exists_eq_left',ne_eq,zR,ζ,χ,sW,fA])
  intro k2 hk2;refine xN mixed ?_
  by_cases hk2l:k2<ms.length
  ·have hd4:((k2:Int)<(ms.length:Int)):=by omega
   have hgm:=rO ms hk2l;have htk:ls ++ [h]++ms.take (k2+1)= ls ++ [h]++ms.take k2 ++ [ms.getD k2 []]:=by rw [yC (d:=[]) hk2l]; simp only [List.append_assoc]
   have hal:(ls ++ [h]++ms.take k2).length=ls.length+1+k2:=by simp; omega
   generalize ls ++ [h]++ms.take k2=acc at *;generalize ms.getD k2 []=e at *;have hu:=vX (k:=k2) (by omega);refine uC hd4 wV hgm hu ?_;refine⟨k2+1,by omega,?_,by omega⟩;rw [htk];exact qW [(2,4)] [3,2,0] sW fA
  ·have hd4:¬ ((k2:Int)<(ms.length:Int)):=by omega
   rw [γ (by omega),<- hsI];refine sT hd4 wV hui ?_;refine⟨i+1,by omega,?_,by omega⟩;exact yf [(1,2)] [1,0] sW
open Rs Fm Ru Te Kb
namespace Kb
theorem QW {h:List Int} {l:List (List Int)} {x:List Int}:x ∈ jq h l ↔ x=h\/x ∈ l:=by
 unfold jq
 split
 ·rename_i hf;rw [Ad] at hf;obtain⟨y,hy,he⟩:=hf;have:=dW (eq_of_beq he);subst this
  constructor
  ·exact .inr
  ·rintro (rfl | h)
   ·exact hy
   ·exact h
 ·simp only [fH,fI,θ,τ,δ]
  constructor
  ·rintro ((⟨h,_⟩ | h) | ⟨h,_⟩)
   ·exact .inr h
   ·exact .inl h
   ·exact .inr h
  ·rintro (h | h)
   ·exact .inl (.inr h)
   ·cases hd:decide (kc x _<0) with
    | true=>exact .inl (.inl ⟨h,rfl⟩)
    | false=>exact .inr ⟨h,rfl⟩
theorem OL {h:List Int} {l:List (List Int)} (hl:l.Pairwise λa b=>kc a b<0):(jq h l).Pairwise λa b=>kc a b<0:=by
 unfold jq
 split
 ·exact hl
 ·rename_i hf
  have hm:∀ x,x ∈ fI h l->kc h x<0:=λx hx=>by simp only [fI,τ,Bool.not_eq_true',decide_eq_false_iff_not] at hx;have h1:¬ kc x h=0:=λe=>hf (Ad.2 ⟨x,hx.1,by rw [e]; rfl⟩);have:=mM x h;omega
  have hs:∀ x,x ∈ fH h l->kc x h<0:=λx hx=>by simp only [fH,τ,decide_eq_true_eq] at hx;exact hx.2
  rw [ω,ω]
  refine⟨⟨List.Pairwise.filter _ hl,by simp,λa ha b hb=>?_⟩,List.Pairwise.filter _ hl,λa ha b hb=>?_⟩
  ·rw [δ.1 hb]; exact hs a ha
  ·rcases θ.1 ha with ha | ha
   ·exact oz (hs a ha) (hm b hb)
   ·rw [δ.1 ha]; exact hm b hb
theorem VS {kf:Nat × Nat->List Int} {t:Nat} {o:List (List Int)} (h:o.Pairwise λa b=>kc a b<0):∀ i,(cD kf t o i).Pairwise λa b=>kc a b<0
 | 0=>h
 | i+1=>OL (VS h i)
theorem Yk {kf:Nat × Nat->List Int} {t:Nat} {o:List (List Int)} {x:List Int}:∀ {n},x ∈ cD kf t o n ↔ x ∈ o\/∃ i,i<n/\x=kf (i,t)
 | 0=>by simp [cD]
 | n+1=>by
  rw [cD,QW,Yk]
  constructor
  ·rintro (h | h | ⟨i,hi,h⟩)
   ·exact .inr ⟨n,by omega,h⟩
   ·exact .inl h
   ·exact .inr ⟨i,by omega,h⟩
  ·rintro (h | ⟨i,hi,h⟩)
   ·exact .inr (.inl h)
   ·by_cases e:i=n
    ·subst e; exact .inl h
    ·exact .inr (.inr ⟨i,by omega,h⟩)
theorem s9 {kf:Nat × Nat->List Int} {R:Nat}:∀ T,(fT kf R T).Pairwise λa b=>kc a b<0
 | 0=>.nil
 | t+1=>VS (s9 t) R
theorem Ym {kf:Nat × Nat->List Int} {R:Nat} {x:List Int}:∀ {T},x ∈ fT kf R T ↔ ∃ t,t<T/\∃ i,i<R/\x=kf (i,t)
 | 0=>by simp [fT]
 | T+1=>by
  rw [fT,Yk,Ym]
  constructor
  ·rintro (⟨t,ht,h⟩ | h)
   ·exact⟨t,by omega,h⟩
   ·exact⟨T,by omega,h⟩
  ·rintro ⟨t,ht,h⟩
   by_cases e:t=T
   ·subst e; exact .inr h
   ·exact .inl ⟨t,by omega,h⟩
theorem Ma {l:List (List Int)} (h:l.Pairwise λa b=>kc a b<0):bh l:=h.imp λ{a b} h=>by have:=mM a b; omega
theorem Rg {l:List (List Int)} (h:l.Pairwise λa b=>kc a b<0):l.Nodup:=h.imp λ{a b} h e=>by subst e; rw [dU] at h; omega
theorem s8 {xW:List (BitVec 64)} {sts:List (List (BitVec 64))} {T a:Nat} (hT:1<=T):fT (vV xW sts a) sts.length T=rD xW sts T a:=by
 unfold rD;have hA:=ny ((iO T (sts.length*T)).map (vV xW sts a))
 have hp:(fT (vV xW sts a) sts.length T).Perm (dedup (fK ((iO T (sts.length*T)).map (vV xW sts a)))):=by
  refine(List.perm_ext_iff_of_nodup (Rg (s9 T)) (Zy hA)).2 λx=>?_;rw [Ym,cv,(mE _).mem_iff,ν];unfold iO
  constructor
  ·rintro ⟨t,ht,i,hi,rfl⟩
   refine⟨(i,t),ν.2 ⟨i*T+t,ψ.2 ?_,?_⟩,rfl⟩
   ·have:(i+1)* T<=sts.length*T:=Nat.mul_le_mul_right T hi;rw [Nat.succ_mul] at this;omega
   ·rw [Nat.mul_comm,Nat.mul_add_div (by omega),Nat.mul_add_mod,Nat.div_eq_of_lt ht,Nat.mod_eq_of_lt ht,Nat.add_zero]
  ·rintro ⟨q,hq,rfl⟩;obtain⟨n,hn,rfl⟩:=ν.1 hq;have hn:=ψ.1 hn;exact⟨n % T,Nat.mod_lt _ (by omega),n / T,Nat.div_lt_of_lt_mul (by rw [Nat.mul_comm]; exact hn),rfl⟩
 rw [ry hp (Ma (s9 T))];exact(ry (List.Perm.refl _) (cu hA)).symm
end Kb
open Rs Fm Ru Te Kb
theorem UR {p:yT} {F:Nat} (hv:aN p F) {sts:List (List (BitVec 64))} {T:Nat} (hT:1<=T/\T<=16) (hR:1<=sts.length/\sts.length<=16) (hl:∀ st ∈ sts,st.length=T) :
  xA prog 71 [p.d,.sl 1 (rr sts),.int .i64 T] (sD p.xW.length F T (kE p.xW sts T)):=by
 have hA:=hv.hA;have hF:=hv.hF
 have hh:∀ r a t,r<sts.length->a<p.xW.length->t<T->xA prog 79 [p.d,.sl 1 (us (vQ sts r)),.int .i64 a,.int .i64 t] (.sl 1 (rows .u64 (vV p.xW sts a (r,t)))):=λr a t hr ha ht=>by have:=rV (x8 p ha (show t<(vQ sts r).length by have:=hl _ (xK (d:=[]) hr); unfold vQ; omega) (by omega));rw [qF (uQ _ _ _ _)] at this;exact this
 have hist:=λa (ha:a<p.xW.length)=>Vi (p:=p) (sts:=sts) (T:=T) ha hT.2 hR λst hs=>by rw [hl st hs]; exact Af _
 simp only [s8 hT.1] at hist
 have hMl:∀ a,a<p.xW.length->(rD p.xW sts T a).length<=256:=λa _=>by rw [<- s8 hT.1];have:=ow (vV p.xW sts a) sts.length T;have:sts.length*T<=16*16:=Nat.mul_le_mul hR.2 hT.2;omega
 have hSg:=λi (hi:i<sts.length)=>qa (xW:=p.xW) (T:=T) hi;have hSl:=qb p.xW sts T;have hD:p.d = .agg [.int .i64 p.F,.sl 1 (us p.init),.sl 1 (us p.xW),.sl 1 (uH p.xO),.sl 1 (uG p.code)]:=rfl;rw [hD] at hh hist ⊢;rw [hv.fe] at hh hist ⊢;generalize vV p.xW sts=kf at *;generalize rD p.xW sts T=ak at *;generalize kE p.xW sts T=sy at *;generalize hB:[D.int IntKind.i64 F,.sl 1 (us p.init),.sl 1 (us p.xW),.sl 1 (uH p.xO),.sl 1 (uG p.code)]=box at *;unfold sD;subst hB;refine xI func71 Fj λhf=>?_;refine wA xT ?_
 refine sZ (λa:Nat=>[(9,.int .i64 a),(8,xD 3 1 (aM ((List.range a).map ak))),(7,.ref 2 4 0 0),(6,.ref 1 4 0 0),(3,.ref 0 5 0 0),(2,.int .i64 T),(1,.sl 1 (rr sts))])
  (λa=>⟨4,yX 3 1 (aM ((List.range a).map ak))++ [(2,⟨4,[[.int .i64 p.xW.length,.int .i64 F,.int .i64 T,.xL]]⟩),(1,⟨4,[[.int .i64 0,.int .i64 0,.int .i64 0,.xL]]⟩),(0,⟨5,[[.int .i64 F,.sl 1 (us p.init),.sl 1 (us p.xW),.sl 1 (uH p.xO),.sl 1 (uG p.code)]]⟩)]⟩)
  (λa=>a<=p.xW.length) (λa=>p.xW.length-a) 0 (Ae _) ?_ ?_
 ·(refine sS [] [2,1,0] ?_; simp only [wY,zQ,simprocAttr,-ZA,exists_eq_left',ne_eq,zR,List.range_zero,List.map_nil,Vp,yA,yB,η])
 intro a ha;refine xN mixed ?_;by_cases hal:a<p.xW.length
 case pos=>
  have hd:((a:Int)<(p.xW.length:Int)):=by omega
  have hs:(List.range (a+1)).map ak=(List.range a).map ak ++ [ak a]:=by rw [π,υ]; rfl
  have hlen:((List.range a).map ak).length=a:=by simp
  generalize (List.range a).map ak=acc at *;have hu:=vX (k:=a) (by omega);have hc:=hist a hal;generalize ak a=m at *;refine nQ hd xT ?_;refine .go (cr hc) ?_;refine sT hu xw hlen ?_;refine⟨a+1,by omega,?_,by omega⟩;rw [hs];exact qW [(3,4)] [3,2,1,0] cU XY
 have hd:¬ ((a:Int)<(p.xW.length:Int)):=by omega
 obtain rfl:a=p.xW.length:=by omega
 have hAg:∀ a,a<p.xW.length->((List.range p.xW.length).map ak).getD a []=ak a:=λa ha=>by simp [List.getD,ha]
 have hAl:((List.range p.xW.length).map ak).length=p.xW.length:=by simp
 generalize (List.range p.xW.length).map ak=all at *;refine yM hd xT ?_
 refine .go [(8,.sl 1 (aM all)),(7,.ref 2 4 0 0),(6,.ref 1 4 0 0),(3,.ref 0 5 0 0),(2,.int .i64 T),(1,.sl 1 (rr sts))]
  ⟨3,[(2,⟨4,[[.int .i64 p.xW.length,.int .i64 F,.int .i64 T,.xL]]⟩),(1,⟨4,[[.int .i64 0,.int .i64 0,.int .i64 0,.xL]]⟩),(0,⟨5,[[.int .i64 F,.sl 1 (us p.init),.sl 1 (us p.xW),.sl 1 (uH p.xO),.sl 1 (uG p.code)]]⟩)]⟩ ?_ ?_
 ·exact yf [] [2,1,0] cU
 refine xJ ?_
 refine xU (λi:Nat=>[(10,.int .i64 i),(8,.sl 1 (aM all)),(7,.ref 2 4 0 0),(6,.ref 1 4 0 0),(3,.ref 0 5 0 0),(2,.int .i64 T),(1,.sl 1 (rr sts))])
  (λi=>⟨4,yX 3 2 (tD (sy.take i))++ [(2,⟨4,[[.int .i64 p.xW.length,.int .i64 F,.int .i64 T,xD 3 2 (tD (sy.take i))]]⟩),(1,⟨4,[[.int .i64 0,.int .i64 0,.int .i64 0,.xL]]⟩),(0,⟨5,[[.int .i64 F,.sl 1 (us p.init),.sl 1 (us p.xW),.sl 1 (uH p.xO),.sl 1 (uG p.code)]]⟩)]⟩)
  (λi=>i<=sts.length) (λi=>sts.length-i) 0 (Ae _) ?_ ?_
 ·(refine sS [] [2,1,0] ?_; simp only [wY,zQ,simprocAttr,-ZA,exists_eq_left',ne_eq,zR,ζ,Xd,yA,yB,η])
 intro i hi;refine xN mixed ?_;by_cases hil:i<sts.length
 case neg=>
  have hd2:¬ ((i:Int)<(sts.length:Int)):=by omega
  rw [γ (by omega)];refine yM hd2 yZ ?_
  (refine sJ.W7 [] [] (by simp) (by simp) (by decide) ?_; simp only [wY,zQ,simprocAttr,-ZA,exists_eq_left',ne_eq,zR,wF])
 have hd2:((i:Int)<(sts.length:Int)):=by omega
 have hg:=tY sts hil;have hSy:=hSg i hil;have hst:=lK (d:=pH) (show i<sy.length by omega);have hstl:=hl _ (xK (d:=[]) hil);have hh:=λa t ha ht=>hh i a t hil ha ht;rw [hSy] at hst;rw [show sts.getD i []=vQ sts i from rfl] at hg hstl;have hrl:(sy.take i).length=i:=by rw [ε]; omega
 generalize sy.take i=acc at *;generalize vQ sts i=st at *;have hrow:∀ t,t<T->((List.range T).map λt=>(List.range p.xW.length).map λa=>((below (ak a) (kf a (i,t)):Nat):Int)).getD t []=(List.range p.xW.length).map λa=>((below (ak a) (kf a (i,t)):Nat):Int):=λt ht=>by simp [List.getD,ht]
 have hLl:((List.range T).map λt=>(List.range p.xW.length).map λa=>((below (ak a) (kf a (i,t)):Nat):Int)).length=T:=by simp
 generalize ((List.range T).map λt=>(List.range p.xW.length).map λa=>((below (ak a) (kf a (i,t)):Nat):Int))= L at *;refine nQ hd2 yZ ?_
 refine sZ (λt:Nat=>[(12,.int .i64 t),(11,.ref 4 2 0 0),(10,.int .i64 i),(8,.sl 1 (aM all)),(7,.ref 2 4 0 0),(6,.ref 1 4 0 0),(3,.ref 0 5 0 0),(2,.int .i64 T),(1,.sl 1 (rr sts))])
  (λt=>⟨7,yX 6 1 (us (st.take t))++ (yX 5 1 (rl (L.take t))++ ((4,⟨2,[[xD 5 1 (rl (L.take t)),xD 6 1 (us (st.take t))]]⟩) :: (yX 3 2 (tD acc)++ [(2,⟨4,[[.int .i64 p.xW.length,.int .i64 F,.int .i64 T,xD 3 2 (tD acc)]]⟩),(1,⟨4,[[.int .i64 0,.int .i64 0,.int .i64 0,.xL]]⟩),(0,⟨5,[[.int .i64 F,.sl 1 (us p.init),.sl 1 (us p.xW),.sl 1 (uH p.xO),.sl 1 (uG p.code)]]⟩)])))⟩)
  (λt=>t<=T) (λt=>T-t) 0 (Ae _) ?_ ?_
 ·(refine sS [] [4,3,2,1,0] ?_; simp only [wY,zQ,simprocAttr,-ZA,exists_eq_left',ne_eq,zR,ζ,iJ,show rl [] = [] from rfl,yA,yB,η,wF])
 intro t ht;refine xN mixed ?_;by_cases htl:t<T
 case neg=>
  have hd3:¬ ((t:Int)<(T:Int)):=by omega
  rw [γ (show L.length<=t by omega),γ (show st.length<=t by omega)];refine xG hd3 ?_
  refine .go [(11,.ref 4 2 0 0),(10,.int .i64 i),(8,.sl 1 (aM all)),(7,.ref 2 4 0 0),(6,.ref 1 4 0 0),(3,.ref 0 5 0 0),(2,.int .i64 T),(1,.sl 1 (rr sts))]
   ⟨5,(4,⟨2,[[.sl 1 (rl L),.sl 1 (us st)]]⟩) :: (yX 3 2 (tD acc)++ [(2,⟨4,[[.int .i64 p.xW.length,.int .i64 F,.int .i64 T,xD 3 2 (tD acc)]]⟩),(1,⟨4,[[.int .i64 0,.int .i64 0,.int .i64 0,.xL]]⟩),(0,⟨5,[[.int .i64 F,.sl 1 (us p.init),.sl 1 (us p.xW),.sl 1 (uH p.xO),.sl 1 (uG p.code)]]⟩)])⟩ ?_ ?_
  ·exact LH [] [4,3,2,1,0] yE qH wF
  have hu:=vX (k:=i) (by omega);refine sT hu oT hrl ?_;refine⟨i+1,by omega,?_,by omega⟩;rw [hst]
  (refine sS [(3,5)] [3,2,1,0] ?_; simp only [wY,zQ,simprocAttr,-ZA,exists_eq_left',ne_eq,zR,wF,show tD acc ++ [[D.sl 1 (rl L),D.sl 1 (us st)]]=tD (acc ++ [⟨L,st⟩]) from gq acc ⟨L,st⟩])
 have hd3:((t:Int)<(T:Int)):=by omega
 have hh:=λa ha=>hh a t ha htl;have hLs:=lK (d:=[]) (show t<L.length by omega);rw [hrow t htl] at hLs;have hSs:=lK (d:=0#64) (show t<st.length by omega);have hgx:=zX st (show t<st.length by omega);have hdx:((t:Int)<(st.length:Int)):=by omega
 have hl1:(L.take t).length=t:=by rw [ε]; omega
 have hl2:(st.take t).length=t:=by rw [ε]; omega
 have hrg:∀ a,a<p.xW.length->((List.range p.xW.length).map λa=>((below (ak a) (kf a (i,t)):Nat):Int)).getD a 0=((below (ak a) (kf a (i,t)):Nat):Int):=λa ha=>by simp [List.getD,ha]
 have hrwl:((List.range p.xW.length).map λa=>((below (ak a) (kf a (i,t)):Nat):Int)).length=p.xW.length:=by simp
 generalize ((List.range p.xW.length).map λa=>((below (ak a) (kf a (i,t)):Nat):Int))= row at *;generalize L.take t=L0 at *;generalize st.take t=S0 at *;generalize st.getD t 0#64=x at *;refine xG hd3 ?_
 refine sZ (λa:Nat=>[(14,.int .i64 a),(13,xD 7 1 (rows .i64 (row.take a))),(12,.int .i64 t),(11,.ref 4 2 0 0),(10,.int .i64 i),(8,.sl 1 (aM all)),(7,.ref 2 4 0 0),(6,.ref 1 4 0 0),(3,.ref 0 5 0 0),(2,.int .i64 T),(1,.sl 1 (rr sts))])
  (λa=>⟨8,yX 7 1 (rows .i64 (row.take a))++ (yX 6 1 (us S0)++ (yX 5 1 (rl L0)++ ((4,⟨2,[[xD 5 1 (rl L0),xD 6 1 (us S0)]]⟩) :: (yX 3 2 (tD acc)++ [(2,⟨4,[[.int .i64 p.xW.length,.int .i64 F,.int .i64 T,xD 3 2 (tD acc)]]⟩),(1,⟨4,[[.int .i64 0,.int .i64 0,.int .i64 0,.xL]]⟩),(0,⟨5,[[.int .i64 F,.sl 1 (us p.init),.sl 1 (us p.xW),.sl 1 (uH p.xO),.sl 1 (uG p.code)]]⟩)]))))⟩)
  (λa=>a<=p.xW.length) (λa=>p.xW.length-a) 0 (Ae _) ?_ ?_
 ·(refine sS [] [6,5,4,3,2,1,0] ?_; simp only [wY,zQ,simprocAttr,-ZA,exists_eq_left',ne_eq,zR,ζ,lQ,yA,yB,η,yE,qH,wF])
 clear hal ha hd;intro a ha;refine xN mixed ?_;by_cases hal:a<p.xW.length
 case neg=>
  have hd4:¬ ((a:Int)<(p.xW.length:Int)):=by omega
  rw [γ (by omega)];refine yM hd4 xT ?_
  refine .go [(13,.sl 1 (rows .i64 row)),(12,.int .i64 t),(11,.ref 4 2 0 0),(10,.int .i64 i),(8,.sl 1 (aM all)),(7,.ref 2 4 0 0),(6,.ref 1 4 0 0),(3,.ref 0 5 0 0),(2,.int .i64 T),(1,.sl 1 (rr sts))]
   ⟨7,yX 6 1 (us S0)++ (yX 5 1 (rl L0)++ ((4,⟨2,[[xD 5 1 (rl L0),xD 6 1 (us S0)]]⟩) :: (yX 3 2 (tD acc)++ [(2,⟨4,[[.int .i64 p.xW.length,.int .i64 F,.int .i64 T,xD 3 2 (tD acc)]]⟩),(1,⟨4,[[.int .i64 0,.int .i64 0,.int .i64 0,.xL]]⟩),(0,⟨5,[[.int .i64 F,.sl 1 (us p.init),.sl 1 (us p.xW),.sl 1 (uH p.xO),.sl 1 (uG p.code)]]⟩)])))⟩ ?_ ?_
  ·(refine sS [] [6,5,4,3,2,1,0] ?_; simp only [wY,zQ,simprocAttr,-ZA,exists_eq_left',ne_eq,zR,yE,qH,wF,aW])
  have hu:=vX (k:=t) (by omega);refine qN hu sI hl1 xT hl2 yZ hd2 hg hdx hgx ?_;refine⟨t+1,by omega,?_,by omega⟩;rw [hLs,hSs]
  (refine sS [(5,7),(6,8)] [6,5,4,3,2,1,0] ?_; simp only [wY,zQ,simprocAttr,-ZA,exists_eq_left',ne_eq,zR,yE,qH,wF,Vn])
 have hd4:((a:Int)<(p.xW.length:Int)):=by omega
 have hh:=hh a hal;have hgm:=Vo (show a<all.length by omega);rw [hAg a hal] at hgm;have hml:=hMl a hal;have hrs:=lK (d:=0) (show a<row.length by omega);rw [hrg a hal] at hrs;have hr0:(row.take a).length=a:=by rw [ε]; omega
 generalize kf a (i,t)= h at *;generalize ak a=m at *;generalize row.take a=r0 at *;have hbK:below (m.take m.length) h=below m h:=by rw [List.take_length]
 refine yM hd4 xT ?_
 refine xU (λk:Nat=>[(16,.int .i64 k),(15,.int .i64 ((below (m.take k) h:Nat):Int)),(14,.int .i64 a),(13,xD 7 1 (rows .i64 r0)),(12,.int .i64 t),(11,.ref 4 2 0 0),(10,.int .i64 i),(8,.sl 1 (aM all)),(7,.ref 2 4 0 0),(6,.ref 1 4 0 0),(3,.ref 0 5 0 0),(2,.int .i64 T),(1,.sl 1 (rr sts))])
  (λ_=>⟨8,yX 7 1 (rows .i64 r0)++ (yX 6 1 (us S0)++ (yX 5 1 (rl L0)++ ((4,⟨2,[[xD 5 1 (rl L0),xD 6 1 (us S0)]]⟩) :: (yX 3 2 (tD acc)++ [(2,⟨4,[[.int .i64 p.xW.length,.int .i64 F,.int .i64 T,xD 3 2 (tD acc)]]⟩),(1,⟨4,[[.int .i64 0,.int .i64 0,.int .i64 0,.xL]]⟩),(0,⟨5,[[.int .i64 F,.sl 1 (us p.init),.sl 1 (us p.xW),.sl 1 (uH p.xO),.sl 1 (uG p.code)]]⟩)]))))⟩)
  (λk=>k<=m.length) (λk=>m.length-k) 0 (Ae _) ?_ ?_
 ·(refine yR.same ?_; simp [yS,Fr.get,ζ,show below [] h=0 from rfl])
 intro k hk;refine xN mixed ?_;by_cases hkl:k<m.length
 case neg=>
  have hd5:¬ ((k:Int)<(m.length:Int)):=by omega
  obtain rfl:k=m.length:=by omega
  rw [hbK];have hu:=vX (k:=a) (by omega);refine j4 hd5 xw hAl hd4 hgm wV yV hr0 hu ?_;refine⟨a+1,by omega,?_,by omega⟩;rw [hrs]
  (refine sS [(7,8)] [7,6,5,4,3,2,1,0] ?_; simp only [wY,zQ,simprocAttr,-ZA,exists_eq_left',ne_eq,zR,yE,qH,wF,aW,ze])
 have hd5:((k:Int)<(m.length:Int)):=by omega
 have hge:=rO m hkl;have hord:=xj (m.getD k []) h
 have hbs:below (m.take (k+1)) h=below (m.take k) h+if kc (m.getD k []) h<0 then 1 else 0:=by
  unfold below;rw [vz hkl,Aa];congr 1
  by_cases c:kc (m.getD k []) h<0
  ·rw [if_pos c,if_pos (by simpa using c)]; rfl
  ·rw [if_neg c,if_neg (by simpa using c)]; rfl
 have hbl:below (m.take k) h<=256:=by unfold below;refine Ag (μ _ _) ?_;rw [ε]; omega
 generalize below (m.take k) h=b at *;generalize m.getD k []=e at *;generalize kc e h=c at *;have hu:=vX (k:=k) (by omega);have hub:=vX (k:=b) (by omega);refine qN hd5 xw hAl hd4 hgm wV hge yZ hd2 hg ?_;refine .go (cr hh) ?_;refine xJ ?_;refine .go (cr hord) ?_
 by_cases hc:c<0
 ·rw [if_pos hc] at hbs;refine sT hc hu hub ?_;refine⟨k+1,by omega,?_,by omega⟩;rw [hbs];exact yH
 ·rw [if_neg hc,Nat.add_zero] at hbs;refine nQ hc hu ?_;refine⟨k+1,by omega,?_,by omega⟩;rw [hbs];exact yH
open Rs Fm Ru Te Kb
namespace Kb
def Sm : Prop:=∀ {p:yT} {F:Nat},aN p F->∀ {n:Nat},n<=100->xA prog 72 [p.d,.int .i64 ((n+1:Nat):Int)] (.sl 1 (rr (yK p n)))
def jr (kf:Nat->List Int) (pf:Nat->Int) (h:List Int) (n:Nat):Nat->Int
 | 0=>-1
 | j+1=>if kf (n-1-j)= h then pf (n-1-j) else jr kf pf h n j
theorem fc {kf:Nat->List Int} {pf:Nat->Int} {h:List Int} {n:Nat}:∀ j,j<=n->(jr kf pf h n j = -1/\∀ r,n-j<=r->r<n->kf r≠h)\/∃ r,n-j<=r/\r<n/\kf r=h/\(∀ i,n-j<=i->i<r->kf i≠h)/\ jr kf pf h n j=pf r
 | 0,_=>.inl ⟨rfl,λr h1 h2=>by omega⟩
 | j+1,hj=>by
  unfold jr
  by_cases c:kf (n-1-j)= h
  ·rw [if_pos c];exact .inr ⟨n-1-j,by omega,by omega,c,λi h1 h2=>by omega,rfl⟩
  ·rw [if_neg c]
   rcases fc (kf:=kf) (pf:=pf) (h:=h) (n:=n) j (by omega) with ⟨h1,h2⟩ | ⟨r,h1,h2,h3,h4,h5⟩
   ·refine .inl ⟨h1,λr r1 r2=>?_⟩
    by_cases e:r=n-1-j
    ·rw [e]; exact c
    ·exact h2 r (by omega) r2
   ·refine .inr ⟨r,by omega,h2,h3,λi i1 i2=>?_,h5⟩
    by_cases e:i=n-1-j
    ·rw [e]; exact c
    ·exact h4 i (by omega) i2
end Kb
theorem Vj (hplay:Sm) (p:yT) (sm:oY p) (n:Int):xA prog 20 [p.d,.int .i64 n] (.wH [(qM p n).d,.int .i64 (rJ p n)]):=by
 have hC:=Wv p sm;have hD:p.d = .agg [.int .i64 p.F,.sl 1 (us p.init),.sl 1 (us p.xW),.sl 1 (uH p.xO),.sl 1 (uG p.code)]:=rfl;by_cases c:uA p=0
 case neg=>
  have c':(uA p != 0)= true:=by simpa using c
  have e:rJ p n=uA p:=by unfold rJ; rw [if_pos c]
  have hS:(qM p n).d = .agg [.int .i64 0,.int .i64 0,.int .i64 0,.sl 2 []]:=by unfold qM; rw [if_pos (by rw [e]; exact c)]; rfl
  rw [hS,e];rw [hD] at *;refine xI func20 K6 λhf=>?_;refine zC ?_;refine .go (cr hC) ?_;refine wA c' ?_;exact .drop (by simp) (by simp [vw,uK])
 have c':(uA p != 0)= false:=by simpa using c
 by_cases hn:n<1\/6<n
 ·have e:rJ p n=2:=by unfold rJ; rw [if_neg (by simpa using c),if_pos hn]
  have hS:(qM p n).d = .agg [.int .i64 0,.int .i64 0,.int .i64 0,.sl 2 []]:=by unfold qM; rw [if_pos (by rw [e]; decide)]; rfl
  rw [hS,e];rw [hD] at *;rw [c] at hC;refine xI func20 K6 λhf=>?_;refine zC ?_;refine .go (cr hC) ?_
  by_cases h1:n<1
  ·refine wA h1 ?_;exact .drop (by simp) (by simp [vw,uK])
  ·have h2:6<n:=by omega
   refine nQ h1 h2 ?_;exact .drop (by simp) (by simp [vw,uK])
 have h1:¬ n<1:=by omega
 have h2:¬ 6<n:=by omega
 have e:rJ p n=0:=by unfold rJ; rw [if_neg (by simpa using c),if_neg hn]
 obtain⟨F,k,hv,rfl,hk⟩:=qI e;have hP:=hplay hv (n:=k) (by omega);have hplk:=qD hv k;have hS71:=UR hv (sts:=yK p k) (T:=k+1) ⟨by omega,by omega⟩ (by rw [hplk.len]; exact hv.hI) hplk.run
 have hS:(qM p ((k+1:Nat):Int)).d=sD p.xW.length F (k+1) (kE p.xW (yK p k) (k+1)):=by unfold qM;rw [if_neg (by simpa using e),Int.toNat_natCast,show k+1-1=k by omega];show D.agg [_,_,_,_]=D.agg [_,_,_,_];rw [hv.fe]
 rw [hS,e];generalize kE p.xW (yK p k) (k+1)= S at *;generalize yK p k=sts at *;unfold sD at *;rw [c] at hC;rw [hD] at *;refine xI func20 K6 λhf=>?_;refine zC ?_;refine .go (cr hC) ?_;refine nQ h1 h2 ?_;refine .go (cr hP) ?_;refine xJ ?_;refine .go (cr hS71) ?_;refine zC ?_;exact .drop (by simp) (by simp [vw,uK])
end Go.Pd
