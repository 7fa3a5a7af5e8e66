/- Part KX. -/
import Derived.Test.YtndfaefmmcoapaaGreatUbSM
set_option linter.unusedSectionVars false
set_option linter.unusedVariables false
set_option linter.unusedSimpArgs false
set_option linter.defProp false
set_option maxRecDepth 20000
set_option maxHeartbeats 1000000
open Go.Proofs.Tryz
open List renaming length_map->γ,mem_map->δ,mem_singleton->ε,map_append->ζ,take_of_length_le->η,mem_range->θ,range'->κ,range_zero->μ,nil_append->ν,mem_append->ξ,length_append->ο,mem_range'_1->π,map_nil->τ,getElem_set->υ,eq_nil_of_length_eq_zero->χ,range_succ->ω,mem_cons->Aa,length_take->Ab,getElem_mem->Ac,ext_getElem->Ad
open Nat renaming zero_le->Ae,le_refl->Af,not_lt_zero->Ag,mul_le_mul->Ah
open BitVec renaming getLsbD_zero->Ai,getLsbD_ushiftRight->Aj
namespace Go.Pd
open Go Go.Proofs
open Rs Fm Ru Te Kb
namespace Kb
def plO (p:PrA) (kS n:Nat):Ob:=⟨6,[[.int .i64 p.F,.sl 1 (us p.init),.sl 1 (us p.see),.sl 1 (mvR p.yW),.sl 1 (cdR p.code),.osl kS 1 n]]⟩
structure PlI (p : PrA) (sts : List (List (BitVec 64))) (kx kS : Nat) (ks : List Nat) (xZ : List (Nat × Ob)) : Prop where
 hx:St.look xZ kx=some (plO p kS sts.length)
 nst:Nst xZ kS ks (sts.map us)
 nd:ks.Nodup
 ne:kx≠kS
 xs:kx ∉ ks
 ss:kS ∉ ks
def plL (p:PrA) (b:Nat) (sts:List (List (BitVec 64))):List (Nat × Ob):=(0,plO p 1 sts.length) :: (1,⟨1,pF (κ b sts.length) (sts.map us)⟩) :: (List.range sts.length).map λi=>(b+i,⟨1,us (stR sts i)⟩)
theorem tS {sts:List (List (BitVec 64))} {i:Nat} (hi:i<sts.length):(sts.map us).getD i []=us (stR sts i):=by simp [stR,List.getD,hi]
theorem aE {f:Nat->Ob} (b:Nat):∀ {l:List Nat} {i:Nat},i ∈ l->St.look (l.map λi=>(b+i,f i)) (b+i)= some (f i)
 | [],i,h=>by cases h
 | j :: r,i,h=>by
  show St.look ((b+j,f j) :: _) _=_;rw [xX]
  by_cases e:i=j
  ·subst e; rw [if_pos rfl]
  ·rw [if_neg (by omega)];exact aE b ((Aa.1 h).resolve_left e)
theorem si {b n i:Nat} (hi:i<n):(κ b n).getD i 0=b+i:=by simp [List.getD,hi]
theorem yh (p:PrA) {b:Nat} (hb:2<=b) (sts:List (List (BitVec 64))):PlI p sts 0 1 (κ b sts.length) (plL p b sts) where
 hx:=by unfold plL; rw [xX,if_pos rfl]
 nst:={
  out:=by unfold plL; rw [xX,if_neg (by omega),xX,if_pos rfl]
  len:=by simp
  each:=λi hi=>by
   have hi':i<sts.length:=by simpa using hi
   rw [si hi',tS hi'];unfold plL;rw [xX,if_neg (by omega),xX,if_neg (by omega)];exact aE b (θ.2 hi') }
 nd:=List.nodup_range'
 ne:=by decide
 xs:=λh=>by have:=π.1 h; omega
 ss:=λh=>by have:=π.1 h; omega
theorem wu {p:PrA} {b:Nat} {sts:List (List (BitVec 64))} {q:Nat × Ob} (h:q ∈ plL p b sts):q=(0,plO p 1 sts.length)\/q=(1,⟨1,pF (κ b sts.length) (sts.map us)⟩)\/∃ i,i<sts.length/\q=(b+i,⟨1,us (stR sts i)⟩):=by
 unfold plL at h
 rcases Aa.1 h with h | h
 ·exact .inl h
 ·rcases Aa.1 h with h | h
  ·exact .inr (.inl h)
  ·simp only [δ,θ] at h;obtain⟨i,hi,rfl⟩:=h;exact .inr (.inr ⟨i,hi,rfl⟩)
theorem YS {sts:List (List (BitVec 64))}:∀ e ∈ sts.map us,∀ r ∈ e,r.length=1/\D.xU r=true:=λe he r hr=>by simp only [δ] at he;obtain⟨s,_,rfl⟩:=he;refine⟨?_,sF s r hr⟩;simp only [us,δ] at hr;obtain⟨x,_,rfl⟩:=hr;rfl
def plR (b kx kS:Nat) (ks:List Nat) (k:Nat):Nat:=if k=0 then kx else if k=1 then kS else if b<=k then ks.getD (k-b) 0 else k
section
variable {p : PrA} {sts : List (List (BitVec 64))} {kx kS b nx : Nat} {ks : List Nat} {xZ : List (Nat × Ob)}
theorem PlI.stays (h:PlI p sts kx kS ks xZ) (hb:2<=b):stays ⟨nx,xZ⟩ ⟨b+sts.length,plL p b sts⟩ (plR b kx kS ks):=by
 have hlen:=h.nst.len;have hsl:(sts.map us).length=sts.length:=γ _;have hr:(κ b sts.length).length=(sts.map us).length:=by simp
 intro q hq
 rcases wu hq with rfl | rfl | ⟨i,hi,rfl⟩
 ·refine⟨by show 0<b+sts.length; omega,_,h.hx,rfl,?_⟩;refine .cons rfl ?_ .nil;simp only [vwL,vw,and_true,true_and,plR];exact⟨by omega,rfl⟩
 ·refine⟨by show 1<b+sts.length; omega,_,h.nst.out,rfl,Yo (by rw [tN hlen,tN hr]) λi hi=>?_⟩;rw [tN hr] at hi;rw [nM hlen hi,nM hr hi];refine⟨rfl,?_⟩;rw [hsl] at hi;simp only [vwL,vw,si hi,and_true,plR];rw [if_neg (by omega),if_neg (by omega),if_pos (by omega),show b+i-b=i by omega];exact⟨by omega,rfl⟩
 ·refine⟨by show b+i<b+sts.length; omega,⟨1,us (stR sts i)⟩,?_,rfl,.same λr hr=>sF _ r hr⟩;show St.look xZ (plR b kx kS ks (b+i))= _;unfold plR;rw [if_neg (by omega),if_neg (by omega),if_pos (by omega),show b+i-b=i by omega];have:=h.nst.each i (by rw [hsl]; exact hi);rw [tS hi] at this;exact this
theorem PlI.apart (h:PlI p sts kx kS ks xZ) (hb:2<=b) (m:Nat):uQ ⟨m,plL p b sts⟩ (plR b kx kS ks):=by
 have hlen:=h.nst.len;rw [γ] at hlen
 have hk:∀ i,i<sts.length->plR b kx kS ks (b+i)= ks.getD i 0:=λi hi=>by unfold plR;rw [if_neg (by omega),if_neg (by omega),if_pos (by omega),show b+i-b=i by omega]
 have hm:∀ i,i<sts.length->ks.getD i 0 ∈ ks:=λi hi=>uD (by omega);have e0:plR b kx kS ks 0=kx:=rfl;have e1:plR b kx kS ks 1=kS:=rfl;intro q hq r hr' e
 rcases wu hq with rfl | rfl | ⟨i,hi,rfl⟩ <;> rcases wu hr' with rfl | rfl | ⟨j,hj,rfl⟩ <;> simp only at e ⊢
 ·rw [e0,e1] at e; exact absurd e h.ne
 ·rw [e0,hk j hj] at e; exact absurd (e ▸ hm j hj) h.xs
 ·rw [e0,e1] at e; exact absurd e.symm h.ne
 ·rw [e1,hk j hj] at e; exact absurd (e ▸ hm j hj) h.ss
 ·rw [e0,hk i hi] at e; exact absurd (e ▸ hm i hi) h.xs
 ·rw [e1,hk i hi] at e; exact absurd (e ▸ hm i hi) h.ss
 ·rw [hk i hi,hk j hj] at e;rw [lp h.nd (by omega) (by omega) e]
theorem PlI.seen {K:Nat->Prop} (h:PlI p sts kx kS ks xZ) (h1:¬ K kx) (h2:¬ K kS) (h3:∀ k ∈ ks,¬ K k):Seen ⟨nx,xZ⟩ K (.ref kx 6 0 0) (plD p sts):=by
 have hs:=Go.Pd.Nst.seen h.nst (nx:=nx) (n:=sts.length) (γ _).symm h2 h3 YS;rw [OJ] at hs;refine Seen.ref h.hx h1 rfl (Nat.lt_add_one 0) (Nat.zero_lt_succ 5) (Af 6) λj hj=>?_;have hj:j<6:=hj;have:j=0\/j=1\/j=2\/j=3\/j=4\/j=5:=by omega
 rcases this with rfl | rfl | rfl | rfl | rfl | rfl
 ·exact .pure rfl
 ·exact .pure rfl
 ·exact .pure rfl
 ·exact .pure rfl
 ·exact .pure rfl
 ·exact hs
end
end Kb
theorem jM.PN {p:PrA} {sts:List (List (BitVec 64))} {kx kS b nx n0:Nat} {ks:List Nat} {xZ:List (Nat × Ob)} {d1 d:D} (h:PlI p sts kx kS ks xZ) (hb:2<=b) (hn:n0<=b+sts.length) (hid:∀ k,k<n0->plR b kx kS ks k=k)
  (hd:vw ⟨nx,xZ⟩ ⟨b+sts.length,plL p b sts⟩ (plR b kx kS ks) d1 d):jM n0 ⟨nx,xZ⟩ d1 ⟨b+sts.length,plL p b sts⟩ d:=
 .inr ⟨plR b kx kS ks,hn,hid,hd,h.stays hb,h.apart hb _⟩
theorem xN.PN {C:Cx} {f f':Fr} {p:PrA} {sts:List (List (BitVec 64))} {kx kS b nx:Nat} {ks:List Nat} {xZ:List (Nat × Ob)} (h:PlI p sts kx kS ks xZ) (hb:2<=b) (hn:C.n0<=b+sts.length) (hid:∀ k,k<C.n0->plR b kx kS ks k=k)
  (hf:vwF ⟨nx,xZ⟩ ⟨b+sts.length,plL p b sts⟩ (plR b kx kS ks) f f'):xN C f ⟨nx,xZ⟩ f' ⟨b+sts.length,plL p b sts⟩:=
 xN.view (plR b kx kS ks) hn hid hf (h.stays hb) (h.apart hb _)
end Go.Pd

/- Part KY. -/
namespace Go.Pd
open Go Go.Proofs
open BitVec renaming isValue -> ZA
open Rs Fm Ru Te Kb
namespace Kb
def ic (p:PrA):List (List (BitVec 64)):=p.init.map λs=>[s]
structure BP where
 k:Nat
 nx:Nat
 kS:Nat
 ks:List Nat
 xZ:List (Nat × Ob)
def ie (p:PrA) (k:Nat):List (List (BitVec 64)):=(p.init.take k).map λs=>[s]
structure IB (p : PrA) (kx : Nat) (x : BP) : Prop where
 hk:x.k<=p.init.length
 hx:St.look x.xZ kx=some ⟨6,[[.int .i64 p.F,.sl 1 (us p.init),.sl 1 (us p.see),.sl 1 (mvR p.yW),.sl 1 (cdR p.code),om x.kS x.k]]⟩
 lt:kx<x.nx
 kS:x.kS<x.nx\/x.k=0
 kl:x.ks.length=x.k
 ks:∀ k ∈ x.ks,k<x.nx
 nd:x.ks.Nodup
 ne:x.k≠0->kx≠x.kS
 xs:kx ∉ x.ks
 ss:x.k≠0->x.kS ∉ x.ks
 nst:x.k≠0->Nst x.xZ x.kS x.ks ((ie p x.k).map us)
theorem jW {α:Type} {l r:List α} {d:α} {i:Nat} (h:i<l.length):(l++r).getD i d=l.getD i d:=by simp [List.getD,List.getElem?_append_left h]
theorem qv {α:Type} {l:List α} {x d:α} {i:Nat} (h:i=l.length):(l ++ [x]).getD i d=x:=by subst h; simp [List.getD]
theorem Nst.grow {xZ ob:List (Nat × Ob)} {kO kN kI:Nat} {ks:List Nat} {ess:List (List (List D))} {e:List (List D)} (h:ess ≠ []->Nst xZ kO ks ess) (kl:ks.length=ess.length) (hout:St.look ob kN=some ⟨1,pF (ks ++ [kI]) (ess ++ [e])⟩)
  (hnew:St.look ob kI=some ⟨1,e⟩) (hold:∀ k ∈ ks,St.look ob k=St.look xZ k):Nst ob kN (ks ++ [kI]) (ess ++ [e]) where
 out:=hout
 len:=by simp [kl]
 each:=λi hi=>by
  by_cases c:i=ess.length
  ·rw [qv (l:=ks) (by omega),qv (l:=ess) c]; exact hnew
  ·have hi':i<ess.length:=by simp at hi; omega
   have hn:ess ≠ []:=λc=>by rw [c] at hi'; cases hi'
   rw [jW (l:=ks) (by omega),jW (l:=ess) hi',hold _ (uD (by omega))];exact(h hn).each i hi'
theorem Vy (p:PrA) {k:Nat} (hk:k<p.init.length):ie p (k+1)= ie p k ++ [[p.init.getD k 0]]:=by unfold ie;rw [zK (d:=0) hk,ζ]; rfl
theorem az (p:PrA) {k:Nat} (hk:k<=p.init.length):(ie p k).length=k:=by simp [ie]; omega
theorem IB.step {p:PrA} {kx:Nat} {x:BP} (h:IB p kx x) (hlt:x.k<p.init.length) {ob:List (Nat × Ob)} (hout:St.look ob (x.nx+1+1)= some ⟨1,pF (x.ks ++ [x.nx]) ((ie p x.k).map us ++ [us [p.init.getD x.k 0]])⟩)
  (hnew:St.look ob x.nx=some ⟨1,us [p.init.getD x.k 0]⟩) (hx:St.look ob kx=some ⟨6,[[.int .i64 p.F,.sl 1 (us p.init),.sl 1 (us p.see),.sl 1 (mvR p.yW),.sl 1 (cdR p.code),.osl (x.nx+1+1) 1 (x.k+1)]]⟩)
  (hold:∀ k,k<x.nx->k≠kx->(x.k=0\/k≠x.kS)->St.look ob k=St.look x.xZ k):IB p kx ⟨x.k+1,x.nx+1+1+1,x.nx+1+1,x.ks ++ [x.nx],ob⟩:=by
 have hl:=az p h.hk;have hlt2:=h.lt
 refine⟨by show x.k+1<=_; omega,?_,by show kx<x.nx+1+1+1; omega,.inl (by show x.nx+1+1<x.nx+1+1+1; omega),by simp [h.kl],λk hk=>?_,?_,λ_=>by show kx≠x.nx+1+1; omega,λhk=>?_,λ_ hk=>?_,λ_=>?_⟩
 ·show St.look ob kx=_;rw [hx];unfold om;simp
 ·show k<x.nx+1+1+1
  rcases ξ.1 hk with hk | hk
  ·have:=h.ks k hk; omega
  ·rw [ε.1 hk]; omega
 ·refine List.nodup_append.2 ⟨h.nd,by simp,λk hk j hj e=>?_⟩;have:=h.ks k hk;rw [ε.1 hj] at e;omega
 ·rcases ξ.1 hk with hk | hk
  ·exact h.xs hk
  ·have:=ε.1 hk; omega
 ·have hk:x.nx+1+1 ∈ x.ks ++ [x.nx]:=hk
  rcases ξ.1 hk with hk | hk
  ·have:=h.ks _ hk; omega
  ·have:=ε.1 hk; omega
 ·show Nst ob (x.nx+1+1) (x.ks ++ [x.nx]) ((ie p (x.k+1)).map us);rw [Vy p hlt,ζ];have h0:(ie p x.k).map us ≠ []->x.k≠0:=λc e=>c (by rw [List.map_eq_nil_iff]; exact χ (by omega));refine Nst.grow (λc=>h.nst (h0 c)) (by rw [h.kl,γ,hl]) hout hnew λk hk=>?_;have hk1:=h.ks k hk;refine hold k hk1 (λe=>h.xs (e ▸ hk)) ?_
  by_cases c:x.k=0
  ·exact .inl c
  ·exact .inr λe=>h.ss c (e ▸ hk)
end Kb
theorem TD {p:PrA} {F:Nat} (hv:PrV p F):xY prog 120 [p.d] St0 (.ref 0 6 0 0) ⟨2+p.init.length,plL p 2 (ic p)⟩:=by
 have hI:=hv.hI;have hbl:(ic p).length=p.init.length:=by simp [ic]
 have hD:p.d = .agg [.int .i64 p.F,.sl 1 (us p.init),.sl 1 (us p.see),.sl 1 (mvR p.yW),.sl 1 (cdR p.code)]:=rfl;rw [hD];refine xY.xP mixed func120 Kq (by simp) λhf=>?_;simp only [simprocAttr,-ZA,↓zU,↓zD,zV,zT,zW,xI]
 (repeat refine sd ?_)
 refine xT (λx:BP=>[(12,.int .i64 x.k),(11,.int .i64 p.init.length),(10,.sl 1 (us p.init)),(3,.ref 1 6 0 0)]) (λx=>⟨x.nx,x.xZ⟩) (IB p 1) (λx=>p.init.length-x.k)
  ⟨0,2,0,[],[(1,⟨6,[[.int .i64 p.F,.sl 1 (us p.init),.sl 1 (us p.see),.sl 1 (mvR p.yW),.sl 1 (cdR p.code),.xK]]⟩),(0,⟨5,[[.int .i64 p.F,.sl 1 (us p.init),.sl 1 (us p.see),.sl 1 (mvR p.yW),.sl 1 (cdR p.code)]]⟩)]⟩
  ⟨Ae _,rfl,Nat.lt_add_one 1,.inr rfl,rfl,by simp,.nil,λh=>absurd rfl h,by simp,λh=>absurd rfl h,λh=>absurd rfl h⟩ ?_ ?_
 ·(refine xN.same ?_; simp [xQ,Fr.get])
 rintro ⟨k,nx,kS,ks,xZ⟩ hB;obtain⟨hk,hx,hlt,hkS,hkl,hks,hnd,hne,hxs,hss,hnst⟩:=id hB;simp only at hk hx hlt hkS hkl hks hnd hne hxs hss hnst;refine xO mixed ?_;by_cases hkl2:k<p.init.length
 case neg=>
  have hd:¬ ((k:Int)<(p.init.length:Int)):=by omega
  obtain rfl:k=p.init.length:=by omega
  have hk0:p.init.length≠0:=by omega
  have he:ie p p.init.length=ic p:=by unfold ie ic; rw [List.take_length]
  have hPI:PlI p (ic p) 1 kS ks xZ:=⟨by rw [hx]; unfold plO om; rw [if_neg hk0,hbl],he ▸ hnst hk0,hnd,hne hk0,hxs,hss hk0⟩;simp only [simprocAttr,-ZA,↓zU,↓zD,zV,zT,zW,hd];have hr:=jM.PN (b:=2) (n0:=0) (nx:=nx) (d1:=.ref 1 6 0 0) (d:=.ref 0 6 0 0) hPI (Af _) (Ae _) (λk hk=>absurd hk (Ag _)) (by simp only [vw,and_true]; exact⟨by omega,rfl⟩);rw [hbl] at hr;exact hr
 have hd:((k:Int)<(p.init.length:Int)):=by omega
 have hg:=vI p.init hkl2;have hst:=λob=>@IB.step p 1 ⟨k,nx,kS,ks,xZ⟩ hB hkl2 ob;simp only at hst;generalize p.init.getD k 0=s at hg hst;have q1:¬ (nx=1):=by omega
 have q5:¬ (nx+1+1=1):=by omega
 have q6:¬ (nx+1=1):=by omega
 have q7:¬ (nx=0):=by omega
 by_cases hk0:k=0
 ·subst hk0;have hd0:(0:Int)<(p.init.length:Int):=by omega
  unfold om at hx;rw [if_pos rfl] at hx;obtain rfl:ks = []:=χ hkl
  have hst1:=hst ((nx+1+1,⟨1,[[.osl nx 1 1]]⟩) :: (nx+1,⟨1,[[.osl nx 1 1]]⟩) :: (nx,⟨1,[[.int .u64 (ui s)]]⟩) :: vN xZ 1 ⟨6,[[.int .i64 p.F,.sl 1 (us p.init),.sl 1 (us p.see),.sl 1 (mvR p.yW),.sl 1 (cdR p.code),.osl (nx+1+1) 1 1]]⟩)
   (by rw [xX,if_pos rfl]; rfl) (by rw [xX,if_neg (by omega),xX,if_neg (by omega),xX,if_pos rfl]; rfl)
   (by rw [xX,if_neg q5,xX,if_neg q6,xX,if_neg q1,xW,if_pos rfl,hx]; rfl)
   (λj hj h1 _=>by rw [xX,if_neg (by omega),xX,if_neg (by omega),xX,if_neg (by omega),xW,if_neg (λe=>h1 e.symm)])
  simp only [simprocAttr,-ZA,↓zU,↓zD,zV,zT,zW,hd0,xI,hg,hx,q1,q5,q6,q7]
  (repeat refine sd ?_)
  refine⟨_,hst1,?_,by show p.init.length-(0+1)<_; omega⟩
  (refine xN.same ?_; simp only [xQ,Fr.get,simprocAttr,-ZA,zS])
  all_goals rfl
 ·have hkS2:kS<nx:=hkS.resolve_right hk0;have ho:=(hnst hk0).out;unfold om at hx;rw [if_neg hk0] at hx;have hnl:=tN (hnst hk0).len;rw [γ,az p hk] at hnl;have htk:(pF ks ((ie p k).map us)).take k=pF ks ((ie p k).map us):=η (by omega);have q2:¬ (nx=kS):=by omega
  have q3:¬ (nx+1=kS):=by omega
  have q4:¬ (kS=1):=λe=>hne hk0 e.symm;have hxe:St.look (yC xZ kS) 1=some ⟨6,[[.int .i64 p.F,.sl 1 (us p.init),.sl 1 (us p.see),.sl 1 (mvR p.yW),.sl 1 (cdR p.code),.osl kS 1 k]]⟩:=by rw [xM,if_neg q4]; exact hx
  have hsn:=ry (hnst hk0).len nx (us [s])
  have hst1:=hst ((nx+1+1,⟨1,pF ks ((ie p k).map us)++ [[.osl nx 1 1]]⟩) :: (nx+1,⟨1,[[.osl nx 1 1]]⟩) :: (nx,⟨1,[[.int .u64 (ui s)]]⟩) :: vN (yC xZ kS) 1 ⟨6,[[.int .i64 p.F,.sl 1 (us p.init),.sl 1 (us p.see),.sl 1 (mvR p.yW),.sl 1 (cdR p.code),.osl (nx+1+1) 1 (k+1)]]⟩)
   (by rw [xX,if_pos rfl,<- hsn]; rfl) (by rw [xX,if_neg (by omega),xX,if_neg (by omega),xX,if_pos rfl]; rfl)
   (by rw [xX,if_neg q5,xX,if_neg q6,xX,if_neg q1,xW,if_pos rfl,hxe]; rfl)
   (λj hj h1 h2=>by rw [xX,if_neg (by omega),xX,if_neg (by omega),xX,if_neg (by omega),xW,if_neg (λe=>h1 e.symm),xM,if_neg (λe=>(h2.resolve_left hk0) e.symm)])
  simp only [simprocAttr,-ZA,↓zU,↓zD,zV,zT,zW,hd,xI,hg,hx,hxe,q1,q2,q3,q4,q5,q6,q7,ho,hnl,htk]
  (repeat refine sd ?_)
  refine⟨_,hst1,?_,by show p.init.length-(k+1)<_; omega⟩
  (refine xN.same ?_; simp only [xQ,Fr.get,simprocAttr,-ZA,zS])
  exact wrap_i64 (by omega)
open Rs Fm Ru Te Kb
namespace Kb
def Yr (st:List (BitVec 64)):BitVec 64:=st.getD (st.length-1) 0
def Sv (p:PrA) (sts:List (List (BitVec 64))) (mv:List (List Int)) (i:Nat):BitVec 64:=PM p (Yr (stR sts i)) (mv.map λm=>m.getD i 0)
def uz (p:PrA) (sts:List (List (BitVec 64))) (mv:List (List Int)) (r:Nat):List (List (BitVec 64)):=(List.range sts.length).map λi=>if i<r then stR sts i ++ [Sv p sts mv i] else stR sts i
def ak (p:PrA) (sts:List (List (BitVec 64))) (mv:List (List Int)):List (List (BitVec 64)):=(List.range sts.length).map λi=>stR sts i ++ [Sv p sts mv i]
section
variable {p : PrA} {sts : List (List (BitVec 64))} {mv : List (List Int)} {r : Nat}
theorem zF : (uz p sts mv r).length=sts.length:=by simp [uz]
theorem gN {i:Nat} (hi:i<sts.length):stR (uz p sts mv r) i=if i<r then stR sts i ++ [Sv p sts mv i] else stR sts i:=by simp [stR,uz,List.getD,hi]
theorem ZP : uz p sts mv 0=sts:=by refine Ad (by simp [uz]) λi h1 h2=>?_;simp [uz,stR,List.getD,h2]
theorem Uw (h:sts.length<=r):uz p sts mv r=ak p sts mv:=by refine List.map_congr_left λi hi=>?_;rw [if_pos (by have:=θ.1 hi; omega)]
theorem Uz (hr:r<sts.length):((uz p sts mv r).map us).set r (us (stR sts r ++ [Sv p sts mv r]))= (uz p sts mv (r+1)).map us:=by
 refine Ad (by simp [uz]) λk h1 h2=>?_;rw [υ];simp only [uz,List.getElem_map,List.getElem_range]
 by_cases e:r=k
 ·subst e; rw [if_pos rfl,if_pos (by omega)]
 ·rw [if_neg e]
  by_cases hk:k<r
  ·rw [if_pos hk,if_pos (by omega)]
  ·rw [if_neg hk,if_neg (by omega)]
end
structure AP where
 r:Nat
 nx:Nat
 ks:List Nat
 xZ:List (Nat × Ob)
structure IA (p : PrA) (sts : List (List (BitVec 64))) (mv : List (List Int)) (n0 : Nat) (x : AP) : Prop where
 hr:x.r<=sts.length
 hn:n0<=x.nx
 pl:PlI p (uz p sts mv x.r) 0 1 x.ks x.xZ
 lt:∀ k ∈ x.ks,k<x.nx
theorem Uo {l:List Nat} {i j x:Nat} (hj:j<l.length):(l.set i x).getD j 0=if i=j then x else l.getD j 0:=by
 simp only [List.getD,List.getElem?_set]
 split
 ·rename_i h; subst h; simp [hj]
 ·rfl
theorem iP {l:List Nat} {i x k:Nat} (h:k ∈ l.set i x):k=x\/k ∈ l:=(List.mem_or_eq_of_mem_set h).symm
theorem Wn {l:List Nat} (hd:l.Nodup) {i x:Nat} (hx:x ∉ l):(l.set i x).Nodup:=by
 unfold List.Nodup at hd ⊢;rw [List.pairwise_iff_getElem] at hd ⊢;intro a b ha hb hab;rw [List.length_set] at ha hb;rw [υ,υ]
 split
 ·rw [if_neg (by omega)];exact λe=>hx (e ▸ Ac _)
 ·split
  ·exact λe=>hx (e ▸ Ac _)
  ·exact hd a b ha hb hab
theorem IA.step {p:PrA} {sts:List (List (BitVec 64))} {mv:List (List Int)} {n0:Nat} {x:AP} (h:IA p sts mv n0 x) (hr:x.r<sts.length) {m:Nat} (hm:x.nx<=m) (h2:2<=x.nx) {ob:List (Nat × Ob)}
  (hout:St.look ob 1=some ⟨1,(pF x.ks ((uz p sts mv x.r).map us)).set x.r [.osl m 1 ((stR sts x.r).length+1)]⟩) (hnew:St.look ob m=some ⟨1,us (stR sts x.r ++ [Sv p sts mv x.r])⟩)
  (hold:∀ k,k<x.nx->k≠1->k≠x.ks.getD x.r 0->St.look ob k=St.look x.xZ k):IA p sts mv n0 ⟨x.r+1,m+1,x.ks.set x.r m,ob⟩:=by
 have hl:=h.pl.nst.len;rw [γ,zF] at hl;have hnx:=h.hn;have hmk:m ∉ x.ks:=λhk=>by have:=h.lt m hk; omega
 have hmr:=uD (l:=x.ks) (i:=x.r) (by omega)
 refine⟨by show x.r+1<=_; omega,by show n0<=m+1; omega,⟨?_,?_,Wn h.pl.nd hmk,by decide,λhk=>?_,λhk=>?_⟩,λk hk=>?_⟩
 ·show St.look ob 0=_;rw [hold 0 (by omega) (by decide) λe=>h.pl.xs (e ▸ hmr),h.pl.hx,zF,zF]
 ·show Nst ob 1 (x.ks.set x.r m) ((uz p sts mv (x.r+1)).map us);have hsl:(uz p sts mv x.r).length=sts.length:=zF
  refine⟨?_,by rw [List.length_set,γ,zF]; exact hl,λi hi=>?_⟩
  ·have:=UD h.pl.nst.len (i:=x.r) (by rw [γ,zF]; exact hr) m (us (stR sts x.r ++ [Sv p sts mv x.r]));rw [xI,ο,List.length_singleton,Uz hr] at this;rw [hout,this]
  ·rw [γ,zF] at hi;rw [Uo (by omega)]
   by_cases e:x.r=i
   ·subst e;rw [if_pos rfl,hnew,tS (by rw [zF]; exact hi),gN hi,if_pos (by omega)]
   ·rw [if_neg e,hold _ (h.lt _ (uD (by omega))) (λc=>h.pl.ss (c ▸ uD (by omega))) λc=>e (lp h.pl.nd (by omega) (by omega) c.symm)];have:=h.pl.nst.each i (by rw [γ,zF]; exact hi);rw [this,tS (by rw [zF]; exact hi),tS (by rw [zF]; exact hi),gN hi,gN hi]
    by_cases c:i<x.r
    ·rw [if_pos c,if_pos (by omega)]
    ·rw [if_neg c,if_neg (by omega)]
 ·rcases iP hk with e | e
  ·omega
  ·exact h.pl.xs e
 ·rcases iP hk with e | e
  ·omega
  ·exact h.pl.ss e
 ·show k<m+1
  rcases iP hk with e | e
  ·omega
  ·have:=h.lt k e; omega
end Kb
theorem ON {b:Nat} {ks:List Nat} {k:Nat} (h:k<b):plR b 0 1 ks k=k:=by
 unfold plR
 by_cases h0:k=0
 ·rw [if_pos h0,h0]
 ·rw [if_neg h0]
  by_cases h1:k=1
  ·rw [if_pos h1,h1]
  ·rw [if_neg h1,if_neg (by omega)]
structure OP where
 j:Nat
 m:Nat
 kW:Nat
 ob:List (Nat × Ob)
structure IO (xZ : List (Nat × Ob)) (n1 : Nat) (own : List Int) (x : OP) : Prop where
 hj:x.j<=own.length
 hm:n1<=x.m
 kW:x.j≠0->n1<=x.kW/\x.kW<x.m/\St.look x.ob x.kW=some ⟨1,rows .i64 (own.take x.j)⟩
 old:∀ k,k<n1->St.look x.ob k=St.look xZ k
theorem XV {p:PrA} {F:Nat} (hv:PrV p F) {sts:List (List (BitVec 64))} (hR:1<=sts.length/\sts.length<=16) (hL:∀ st ∈ sts,1<=st.length/\st.length<=100) (hval:∀ st ∈ sts,∀ s ∈ st,s >>> F=0#64)
  {mv:List (List Int)} (hmA:1<=mv.length/\mv.length<=100) (hmR:∀ m ∈ mv,m.length=sts.length) (hmv:∀ m ∈ mv,∀ k ∈ m,k<p.yW.length) {nx:Nat} (hnx:2+sts.length<=nx) :
  xY prog 121 [.ref 0 6 0 0,.sl 1 (rl mv)] ⟨nx,plL p 2 sts⟩ (.tup []) ⟨nx+sts.length,plL p nx (ak p sts mv)⟩:=by
 have hsl:(ak p sts mv).length=sts.length:=by simp [ak]
 have hP0:=yh p (Af 2) sts;refine xY.xP mixed func121 Kr (by simp) λhf=>?_;have h00:=hP0.hx;unfold plO at h00;simp only [simprocAttr,-ZA,↓zU,↓zD,zV,zT,zW,h00]
 (repeat refine sd ?_)
 refine xT (λx:AP=>[(13,.int .i64 x.r),(12,.int .i64 sts.length),(11,.osl 1 1 sts.length),(1,.sl 1 (rl mv)),(0,.ref 0 6 0 0)]) (λx=>⟨x.nx,x.xZ⟩) (IA p sts mv nx) (λx=>sts.length-x.r)
  ⟨0,nx,κ 2 sts.length,plL p 2 sts⟩ ⟨Ae _,Af _,by show PlI p (uz p sts mv 0) _ _ _ _; rw [ZP]; exact hP0,λk hk=>by have:=π.1 hk; show k<nx; omega⟩ ?_ ?_
 ·(refine xN.same ?_; simp [xQ,Fr.get])
 rintro ⟨r,n1,ks,xZ⟩ hI;obtain⟨hr,hn,hpl,hlt⟩:=id hI;simp only at hr hn hpl hlt;refine xO mixed ?_;by_cases hrl:r<sts.length
 case neg=>
  have hd:¬ ((r:Int)<(sts.length:Int)):=by omega
  rw [Uw (by omega)] at hpl;simp only [simprocAttr,-ZA,↓zU,↓zD,zV,zT,zW,hd];have hr:=jM.PN (b:=nx) (n0:=nx) (nx:=n1) (d1:=.tup []) (d:=.tup []) hpl (by omega) (by omega) (λk hk=>ON hk) (by simp only [vw,vwL]; exact⟨trivial,trivial⟩);rw [hsl] at hr;exact hr
 have hd:((r:Int)<(sts.length:Int)):=by omega
 have hnl:=hpl.nst.len;rw [γ,zF] at hnl;have hnr:=tN hpl.nst.len;rw [γ,zF] at hnr;have hgr:=nM hpl.nst.len (i:=r) (by rw [γ,zF]; exact hrl);have hst:=gN (p:=p) (mv:=mv) (r:=r) hrl;rw [if_neg (Nat.lt_irrefl r)] at hst;rw [tS (by rw [zF]; exact hrl),hst,xI] at hgr;have hkr:=hpl.nst.each r (by rw [γ,zF]; exact hrl);rw [tS (by rw [zF]; exact hrl),hst] at hkr;have hmem:=uD (l:=ks) (i:=r) (by omega);have hkr0:ks.getD r 0≠0:=λe=>hpl.xs (e ▸ hmem);have hkr1:ks.getD r 0≠1:=λe=>hpl.ss (e ▸ hmem);have hkrn:=hlt _ hmem;have hout:=hpl.nst.out;have h0:=hpl.hx;unfold plO at h0;rw [zF] at h0;have hstep:=λm hm ob=>@IA.step p sts mv nx ⟨r,n1,ks,xZ⟩ hI hrl m hm (by show 2<=n1; omega) ob;simp only at hstep;have hnw:Sv p sts mv r=PM p (Yr (stR sts r)) (mv.map λm=>m.getD r 0):=rfl;have hLr:1<=(stR sts r).length/\(stR sts r).length<=100:=hL _ (xR (d:=[]) hrl);have hvr:∀ s ∈ stR sts r,s >>> F=0#64:=hval _ (xR (d:=[]) hrl);have hls:=hvr (Yr (stR sts r)) (xR (by omega));have hgl:=vI (stR sts r) (show (stR sts r).length-1<_ by omega);have hwl:IntKind.i64.wrap ((stR sts r).length-1:Int)= (((stR sts r).length-1:Nat):Int):=by rw [wrap_i64 (by omega)]; omega
 have hSk:=zF (p:=p) (sts:=sts) (mv:=mv) (r:=r);change (us (stR sts r)).getD _ [] = [.int .u64 (ui (Yr (stR sts r)))] at hgl;generalize uz p sts mv r=sk at *;generalize ks.getD r 0=kr at *;generalize stR sts r=st at *;generalize Yr st=s at *;have hmd:∀ m ∈ mv,m.getD r 0<p.yW.length:=λm hm=>hmv m hm _ (xR (by rw [hmR m hm]; exact hrl))
 have hnext:=Qz hv sk hls (mv:=mv.map λm=>m.getD r 0) (by rw [γ]; omega) λk hk=>by simp only [δ] at hk;obtain⟨m,hm,rfl⟩:=hk;exact hmd m hm
 rw [<- hnw] at hnext;generalize Sv p sts mv r=y at *;have hown:(mv.map λm=>m.getD r 0).length=mv.length:=γ _;have howg:∀ j,j<mv.length->(mv.map λm=>m.getD r 0).getD j 0=(mv.getD j []).getD r 0:=λj hj=>by simp [List.getD,hj]
 generalize (mv.map λm=>m.getD r 0)= own at *;simp only [simprocAttr,-ZA,↓zU,↓zD,zV,zT,zW,hd,hout,hnr,hgr,yD]
 (repeat refine sd ?_)
 refine xT (λx:OP=>[(20,.int .i64 x.j),(19,.int .i64 mv.length),(13,.int .i64 r),(12,.int .i64 sts.length),(11,.osl 1 1 sts.length),(6,om x.kW x.j),(5,.osl kr 1 st.length),(4,.int .i64 r),(1,.sl 1 (rl mv)),(0,.ref 0 6 0 0)]) (λx=>⟨x.m,x.ob⟩)
  (IO xZ n1 own) (λx=>mv.length-x.j) ⟨0,n1,0,xZ⟩ ⟨Ae _,Af _,λh=>absurd rfl h,λ_ _=>rfl⟩ ?_ ?_
 ·(refine xN.same ?_; simp [xQ,Fr.get,om])
 rintro ⟨j,m,kW,ob⟩ ⟨hj,hm,hkW,hold⟩;simp only at hj hm hkW hold;have g0:St.look ob 0=some ⟨6,[[.int .i64 p.F,.sl 1 (us p.init),.sl 1 (us p.see),.sl 1 (mvR p.yW),.sl 1 (cdR p.code),.osl 1 1 sts.length]]⟩:=by rw [hold 0 (by omega)]; exact h0
 have g1:St.look ob 1=some ⟨1,pF ks (sk.map us)⟩:=by rw [hold 1 (by omega)]; exact hout
 have g2:St.look ob kr=some ⟨1,us st⟩:=by rw [hold kr hkrn]; exact hkr
 refine xO mixed ?_;by_cases hjl:j<mv.length
 case pos=>
  have hd2:((j:Int)<(mv.length:Int)):=by omega
  have hgm:=tH mv hjl;have hml:=hmR _ (xR (d:=[]) hjl);have hrm:((r:Int)<((mv.getD j []).length:Int)):=by omega
  have hge:=yV .i64 (mv.getD j []) (show r<_ by omega);rw [<- howg j hjl] at hge;have htk:=zK (d:=0) (show j<own.length by omega);generalize mv.getD j []=e at *;generalize own.getD j 0=z at *
  by_cases hj0:j=0
  ·subst hj0;have hd20:(0:Int)<(mv.length:Int):=by omega
   unfold om;simp only [simprocAttr,-ZA,↓zU,↓zD,zV,zT,zW,hd20,yD,hgm,hrm,yZ,hge]
   (repeat refine sd ?_)
   refine⟨⟨0+1,m+1,m,(m,⟨1,[[.int .i64 z]]⟩) :: ob⟩,⟨by show 0+1<=_; omega,by show n1<=m+1; omega,λ_=>⟨hm,by show m<m+1; omega,?_⟩,λk hk=>by show St.look ((m,_) :: ob) k=_; rw [xX,if_neg (by omega)]; exact hold k hk⟩,?_,by show mv.length-(0+1)<_; omega⟩
   ·show St.look ((m,_) :: ob) m=_;rw [xX,if_pos rfl];show _=some (Ob.mk 1 (rows .i64 (own.take (0+1))));rw [htk]; rfl
   ·(refine xN.same ?_; simp only [xQ,Fr.get,simprocAttr,-ZA,zS,Nat.zero_add,Nat.one_ne_zero])
    all_goals rfl
  ·obtain⟨w1,w2,w3⟩:=hkW hj0;have hol:(own.take j).length=j:=by rw [Ab]; omega
   unfold om;rw [if_neg hj0];have q1:¬ (m=kW):=by omega
   have htt:(own.take j).take j=own.take j:=by rw [List.take_take,Nat.min_self]
   simp only [simprocAttr,-ZA,↓zU,↓zD,zV,zT,zW,hd2,yD,hgm,hrm,yZ,hge,w3,hol,htt]
   (repeat refine sd ?_)
   refine⟨⟨j+1,m+1,m,(m,⟨1,rows .i64 (own.take j ++ [z])⟩) :: yC ob kW⟩,⟨by show j+1<=_; omega,by show n1<=m+1; omega,λ_=>⟨hm,by show m<m+1; omega,?_⟩,λk hk=>by show St.look ((m,_) :: yC ob kW) k=_; rw [xX,if_neg (by omega),xM,if_neg (by omega)]; exact hold k hk⟩,?_,by show mv.length-(j+1)<_; omega⟩
   ·show St.look ((m,_) :: _) m=_;rw [xX,if_pos rfl];show _=some (Ob.mk 1 (rows .i64 (own.take (j+1))));rw [htk]
   ·simp only [Nat.add_one_ne_zero,↓reduceIte]
    (refine xN.same ?_; simp only [xQ,Fr.get,simprocAttr,-ZA,zS])
    exact wrap_i64 (by omega)
 have hd2:¬ ((j:Int)<(mv.length:Int)):=by omega
 obtain rfl:j=mv.length:=by omega
 have hj0:mv.length≠0:=by omega
 obtain⟨w1,w2,w3⟩:=hkW hj0;unfold om;rw [if_neg hj0];have how:own.take mv.length=own:=η (by omega);rw [how] at w3
 have hKP:PlI p sk 0 1 ks ob:=⟨by show _=some (plO p 1 sk.length); rw [g0,hSk]; rfl,⟨g1,hpl.nst.len,λi hi=>by
  have hik:i<ks.length:=by have:=hpl.nst.len; omega
  rw [hold _ (hlt _ (uD hik))]; exact hpl.nst.each i hi⟩,hpl.nd,hpl.ne,hpl.xs,hpl.ss⟩
 have hcall:xY prog 183 [.ref 0 6 0 0,.int .u64 (ui s),.osl kW 1 mv.length] ⟨m,ob⟩ (.int .u64 (ui y)) ⟨m,ob⟩:=
  xY.Mu hnext ⟨hKP.seen (λh=>h) (λh=>h) λ_ _ h=>h,.pure rfl,Seen.rows w3 (λh=>h) (by decide) (by rw [yZ]; omega) (λe he=>by simp only [rows,δ] at he;obtain⟨x,_,rfl⟩:=he;rfl) (uX _ _),trivial⟩ rfl
 have hlt2:(((st.length-1:Nat):Int)<(st.length:Int)):=by omega
 have hlt3:st.length-1<st.length:=by omega
 simp only [simprocAttr,-ZA,↓zU,↓zD,zV,zT,zW,hd2,↓VP]
 (refine ZZ mixed ?_; simp only [simprocAttr,-ZA,↓zU,↓zD,zV,zT,zW,↓rv1,↓dt,↓se,↓aN,g0,g1,g2,hwl,hgl,hlt2,hlt3,xI])
 (repeat refine sd ?_)
 refine uk.go hcall ?_;have e0:St.look (yC ob kr) 0=some ⟨6,[[.int .i64 p.F,.sl 1 (us p.init),.sl 1 (us p.see),.sl 1 (mvR p.yW),.sl 1 (cdR p.code),.osl 1 1 sts.length]]⟩:=by rw [xM,if_neg hkr0]; exact g0
 have e1:St.look (yC ob kr) 1=some ⟨1,pF ks (sk.map us)⟩:=by rw [xM,if_neg hkr1]; exact g1
 have q0:¬ (m=0):=by omega
 have q1:¬ (m=1):=by omega
 have q2:¬ (m=kr):=by omega
 have htk:(us st).take st.length=us st:=η (by rw [xI]; exact Af _)
 (simp only [simprocAttr,-ZA,↓zU,↓zD,zV,zT,zW,↓rv1,↓dt,↓se,↓aN,g0,g1,g2,e0,e1,q0,q1,q2,xI,htk,hnr,hgr,hd,nk])
 (repeat refine sd ?_)
 refine⟨⟨r+1,m+1,ks.set r m,(m,⟨1,us (st ++ [y])⟩) :: vN (yC ob kr) 1 ⟨1,(pF ks (sk.map us)).set r [.osl m 1 (st.length+1)]⟩⟩,hstep m hm _ ?_ ?_ λk hk h1 h2=>?_,?_,by show sts.length-(r+1)<_; omega⟩
 ·rw [xX,if_neg q1,xW,if_pos rfl,e1]; rfl
 ·rw [xX,if_pos rfl]
 ·rw [xX,if_neg (by omega),xW,if_neg (λe=>h1 e.symm),xM,if_neg (λe=>h2 e.symm)];exact hold k hk
 ·(refine xN.same ?_; simp only [xQ,Fr.get,simprocAttr,-ZA,zS])
  exact wrap_i64 (by omega)
open Rs Fm Ru Te Kb
namespace Kb
def uN (p:PrA):Nat->List (List (BitVec 64))
 | 0=>ic p
 | n+1=>ak p (uN p n) (mT p (uN p n) n)
theorem Q9 {x:BitVec 64} {F:Nat}:x >>> F=0#64 ↔ ∀ i,F<=i->x.getLsbD i=false:=by
 constructor
 ·intro h i hi;have:=congrArg (λy:BitVec 64=>y.getLsbD (i-F)) h;simp only [Aj,Ai] at this
  rwa [show F+(i-F)= i by omega] at this
 ·intro h;refine BitVec.eq_of_getLsbD_eq λi _=>?_;rw [Aj,Ai];exact h _ (by omega)
theorem TC {A F:Nat} {s0 out:BitVec 64} {a:AsA} (ho:out >>> F=0#64) (hf:a.fact.toNat<F):Yv A s0 out a >>> F=0#64:=by
 rw [Q9] at ho ⊢;intro i hi;unfold Yv;rw [BitVec.getLsbD_or,BitVec.getLsbD_and,ho i hi,Bool.false_and,Bool.false_or]
 split
 ·rw [BitVec.getLsbD_shiftLeft]
  by_cases h:i<64
  ·rw [show (1#64).getLsbD (i-a.fact.toNat)= false by
    have:i-a.fact.toNat≠0:=by omega
    simp [this]]
   simp
  ·simp [h]
 ·exact Ai
theorem UF {p:PrA} {F:Nat} (hv:PrV p F) {s:BitVec 64} (hs:s >>> F=0#64) {mv:List Int} (hmv:∀ k ∈ mv,k<p.yW.length):PM p s mv >>> F=0#64:=by
 have key:∀ (l:List Int) (out:BitVec 64),(∀ k ∈ l,k<p.yW.length)->out >>> F=0#64->l.foldl (XO p s) out >>> F=0#64:=by
  intro l
  induction l with
  | nil=>intro out _ h; exact h
  | cons k r ih=>
   intro out hk h;refine ih _ (λk hk2=>hk k (by simp [hk2])) ?_;unfold XO
   split
   ·exact h
   ·have hkm:=hk k (by simp);have hm:=xR (l:=p.yW) (d:=[]) (k:=k.toNat) (by omega);generalize p.yW.getD k.toNat []=m at hm
    have:∀ (l:List AsA) (out:BitVec 64),(∀ a ∈ l,asE p a=0)->out >>> F=0#64->l.foldl (Yv p.see.length s) out >>> F=0#64:=by
     intro l
     induction l with
     | nil=>intro out _ h; exact h
     | cons a r ih2=> intro out ha h;have h1:=au hv.fe (ha a (by simp));exact ih2 _ (λb hb=>ha b (by simp [hb])) (TC h (by omega))
    exact this m out (hv.mv m hm) h
 exact key mv s hmv hs
theorem dw {p:PrA} {sts:List (List (BitVec 64))} {t a w:Nat}:∀ {l:List ClA},(∀ c ∈ l,clE p c=0)->sL p.see sts t a w l<p.yW.length /\ -1<=sL p.see sts t a w l
 | [],_=>⟨by unfold sL; omega,by unfold sL; omega⟩
 | c :: r,h=>by
  unfold sL
  split
  ·have:=h c (by simp);unfold clE at this
   split at this
   ·rename_i h1; exact absurd this h1
   ·split at this
    ·cases this
    ·rename_i h2; omega
  ·exact dw λd hd=>h d (by simp [hd])
theorem Wv (p:PrA) (sts:List (List (BitVec 64))) (t:Nat):(mT p sts t).length=p.see.length:=by simp [mT]
theorem sf {p:PrA} {sts:List (List (BitVec 64))} {t:Nat}:∀ m ∈ mT p sts t,m.length=sts.length:=λm hm=>by simp only [mT,δ] at hm;obtain⟨a,_,rfl⟩:=hm;simp
theorem eo {p:PrA} {F:Nat} (hv:PrV p F) {sts:List (List (BitVec 64))} {t:Nat}:∀ m ∈ mT p sts t,∀ k ∈ m,k<p.yW.length:=λm hm k hk=>by simp only [mT,δ,θ] at hm;obtain⟨a,ha,rfl⟩:=hm;simp only [δ] at hk;obtain⟨w,_,rfl⟩:=hk;exact(dw λc hc=>hv.code _ (xR (d:=[]) (by rw [hv.hC]; exact ha)) c hc).1
structure PlS (p : PrA) (F : Nat) (sts : List (List (BitVec 64))) (n : Nat) : Prop where
 len:sts.length=p.init.length
 run:∀ st ∈ sts,st.length=n+1
 val:∀ st ∈ sts,∀ s ∈ st,s >>> F=0#64
theorem PlS.beg {p:PrA} {F:Nat} (hv:PrV p F):PlS p F (ic p) 0 where
 len:=by simp [ic]
 run:=λst hs=>by simp only [ic,δ] at hs;obtain⟨s,_,rfl⟩:=hs;rfl
 val:=λst hs s hs2=>by simp only [ic,δ] at hs;obtain⟨x,hx,rfl⟩:=hs;rw [ε.1 hs2];exact hv.init x hx
theorem ym {sts:List (List (BitVec 64))} {i:Nat} (h:i<sts.length):stR sts i ∈ sts:=xR h
theorem PlS.step {p:PrA} {F:Nat} (hv:PrV p F) {sts:List (List (BitVec 64))} {n:Nat} (h:PlS p F sts n) {mv:List (List Int)} (hmR:∀ m ∈ mv,m.length=sts.length) (hmv:∀ m ∈ mv,∀ k ∈ m,k<p.yW.length):PlS p F (ak p sts mv) (n+1) where
 len:=by rw [<- h.len]; simp [ak]
 run:=λst hs=>by simp only [ak,δ,θ] at hs;obtain⟨i,hi,rfl⟩:=hs;rw [ο,h.run _ (ym hi)];rfl
 val:=λst hs s hs2=>by
  simp only [ak,δ,θ] at hs;obtain⟨i,hi,rfl⟩:=hs;have hr:=h.run _ (ym hi)
  rcases ξ.1 hs2 with h1 | h1
  ·exact h.val _ (ym hi) s h1
  ·rw [ε.1 h1];refine UF hv (h.val _ (ym hi) _ (xR (by omega))) λk hk=>?_;simp only [δ] at hk;obtain⟨m,hm,rfl⟩:=hk;exact hmv m hm _ (xR (by rw [hmR m hm]; exact hi))
theorem PlS.PG {p:PrA} {F:Nat} (hv:PrV p F) {sts:List (List (BitVec 64))} {n t:Nat} (h:PlS p F sts n) (ht:t<=n) (hn:n<=1000):PlG p F sts t:=⟨hv.fe,hv.hF,hv.hA,by rw [h.len]; exact hv.hI,λst hs=>by rw [h.run st hs]; omega,by omega,h.val⟩
theorem yi {p:PrA} {F:Nat} (hv:PrV p F):∀ n,PlS p F (uN p n) n
 | 0=>PlS.beg hv
 | n+1=>PlS.step hv (yi hv n) sf (eo hv)
theorem UR {p:PrA} {F:Nat} (hv:PrV p F) (n:Nat):(uN p n).length=p.init.length:=(yi hv n).len
theorem PlI.shift {p:PrA} {sts:List (List (BitVec 64))} {kx kS c:Nat} {ks:List Nat} {xZ r:List (Nat × Ob)} (h:PlI p sts kx kS ks xZ):PlI p sts (c+kx) (c+kS) (ks.map (c + ·)) (yL c xZ++r) where
 hx:=by rw [tR,rP c h.hx]; rfl
 nst:=Go.Pd.Nst.shift h.nst λe he r hr=>(YS e he r hr).2
 nd:=by have:=h.nd;unfold List.Nodup at this ⊢;rw [List.pairwise_map];exact this.imp λh e=>h (by omega)
 ne:=λe=>h.ne (by omega)
 xs:=λhk=>by simp only [δ] at hk;obtain⟨k,hk,e⟩:=hk;exact h.xs ((show k=kx by omega) ▸ hk)
 ss:=λhk=>by simp only [δ] at hk;obtain⟨k,hk,e⟩:=hk;exact h.ss ((show k=kS by omega) ▸ hk)
end Kb
theorem dp {p:PrA} {b nx:Nat} (hb:2<=b) {sts:List (List (BitVec 64))} {K:Nat->Prop} (hK:∀ k,¬ K k):Seen ⟨nx,plL p b sts⟩ K (.ref 0 6 0 0) (plD p sts):=(yh p hb sts).seen (hK 0) (hK 1) λk _=>hK k
theorem aI {mv:List (List Int)}:∀ e ∈ mv.map (rows .i64),∀ r ∈ e,r.length=1/\D.xU r=true:=λe he r hr=>by simp only [δ] at he;obtain⟨s,_,rfl⟩:=he;refine⟨?_,uX _ s r hr⟩;simp only [rows,δ] at hr;obtain⟨x,_,rfl⟩:=hr;rfl
theorem Tz {mv:List (List Int)}:∀ e ∈ mv.map (rows .i64),∀ r ∈ e,D.flL r=true:=λe he r hr=>by simp only [δ] at he;obtain⟨s,_,rfl⟩:=he;simp only [rows,δ] at hr;obtain⟨x,_,rfl⟩:=hr;simp [D.flL,D.fl]
theorem j0 {g:FuncId} {args args':List D} {mv:List (List Int)} {nx n:Nat} {ob:List (Nat × Ob)} (hn:n=mv.length) (hc:xY prog g args' St0 (.osl 0 1 n) ⟨1+n,X0 (mv.map (rows .i64))⟩) (hl:jF ⟨nx,ob⟩ (λ_=>False) args args') :
  xY prog g args ⟨nx,ob⟩ (.sl 1 (rl mv)) ⟨nx+(1+n),ob⟩:=by
 subst hn;refine xY.Tj hc hl (by simp [D.fl]) (R0 Tz) ?_;have hN:=Nst.shift (c:=nx) (r:=ob) (UE (mv.map (rows .i64))) λe he r hr=>(aI e he r hr).2
 have:=Nst.seen (nx:=nx+(1+mv.length)) (K:=λk=>k<nx) (n:=mv.length) hN (γ _).symm (by omega) (λk hk=>by simp only [δ] at hk;obtain⟨j,_,rfl⟩:=hk;omega) aI
 rw [OI] at this;exact this
theorem US {p:PrA} {F:Nat} (hv:PrV p F) {n:Nat} (hn:n<=100):zX prog 69 [p.d,.int .i64 ((n+1:Nat):Int)] (plD p (uN p n)):=by
 have hB:=TD hv;have hI:=hv.hI;have hA:=hv.hA;have hD:p.d = .agg [.int .i64 p.F,.sl 1 (us p.init),.sl 1 (us p.see),.sl 1 (mvR p.yW),.sl 1 (cdR p.code)]:=rfl;have hw:IntKind.i64.wrap (((n+1:Nat):Int)-1)= (n:Int):=by rw [wrap_i64 (by omega)]; omega
 have hB1:=xY.own (σ:=⟨1,[(0,⟨5,[p.cells]⟩)]⟩) hB (by simp [D.xU,D.xL,PrA.d,PrA.cells]);have hlen:=λt=>UR hv t;have hPS:=(yh p (Af 2) (ic p)).shift (c:=1) (r:=[(0,⟨5,[p.cells]⟩)]);have hbl:(ic p).length=p.init.length:=by simp [ic]
 unfold PrA.cells at hB1 hPS;rw [hD] at *;refine xY.xP mixed func69 k69 (by simp) λhf=>?_;simp only [simprocAttr,-ZA,↓zU,↓zD,zV,zT,zW]
 (repeat refine sd ?_)
 refine .go hB1 ?_;simp only [simprocAttr,-ZA,↓zU,↓zD,zV,zT,zW,hw]
 refine zZ (λt:Nat=>[(11,.int .i64 t),(10,.int .i64 n),(5,.ref 0 6 0 0)]) (λt=>⟨2+(uN p t).length,plL p 2 (uN p t)⟩) (λt=>t<=n) (λt=>n-t) 0 (Ae _) ?_ ?_
 ·refine xN.PN hPS (Af _) (Ae _) (λk hk=>absurd hk (Ag _)) ?_;simp only [vwF,vw,Fr.get,↓reduceIte,reduceIte,Nat.reduceEqDiff,D.shift,and_true,true_and];exact⟨rfl,by omega,rfl⟩
 intro t ht;refine xO mixed ?_;have hS:=yi hv t;have hl:=hlen t;by_cases htn:t<n
 case neg=>
  have hd:¬ ((t:Int)<(n:Int)):=by omega
  obtain rfl:t=n:=by omega
  simp only [simprocAttr,-ZA,↓zU,↓zD,zV,zT,zW,hd]
  refine .go [(5,plD p (uN p t))] ⟨2+(uN p t).length,[]⟩ ?_ ?_
  ·refine xN.deep (λ_=>False) trivial ⟨.inr ?_,trivial⟩;exact dp (Af 2) λ_ h=>h
  simp only [simprocAttr,-ZA,↓zU,↓zD,zV,zT,zW];exact .drop (by simp) (by simp [vw,plD])
 have hd:((t:Int)<(n:Int)):=by omega
 have h76:=pg hv (hS.PG hv (Af t) (by omega));have hpl:=Wv p (uN p t) t;have h76l:=j0 (nx:=2+(uN p t).length) (ob:=plL p 2 (uN p t)) (args:=[.ref 0 6 0 0,.int .i64 t]) hpl.symm h76 ⟨dp (Af 2) λ_ h=>h,.pure rfl,trivial⟩;have h121:=XV hv (sts:=uN p t) (by rw [hl]; exact hI) (λst hs=>by rw [hS.run st hs]; omega) hS.val (mv:=mT p (uN p t) t) (by rw [hpl]; omega) sf (eo hv) (nx:=2+(uN p t).length+(1+p.see.length)) (by omega);have hnext:uN p (t+1)= ak p (uN p t) (mT p (uN p t) t):=rfl;have hsl:(ak p (uN p t) (mT p (uN p t) t)).length=(uN p t).length:=by simp [ak]
 have hPI:=yh p (b:=2+(uN p t).length+(1+p.see.length)) (by omega) (ak p (uN p t) (mT p (uN p t) t));simp only [simprocAttr,-ZA,↓zU,↓zD,zV,zT,zW,hd];refine .go h76l ?_;simp only [simprocAttr,-ZA,↓zU,↓zD,zV,zT,zW];refine .go h121 ?_;simp only [simprocAttr,-ZA,↓zU,↓zD,zV,zT,zW];refine⟨t+1,by omega,?_,by omega⟩;rw [hnext];refine xN.PN hPI (Af _) (Ae _) (λk hk=>absurd hk (Ag _)) ?_;simp only [vwF,vw,Fr.get,↓reduceIte,reduceIte,Nat.reduceEqDiff,and_true,true_and];exact⟨by rw [wrap_i64 (by omega)]; rfl,by omega,rfl⟩
open Rs Fm Ru Te Kb
namespace Kb
def Yx (see:List (BitVec 64)) (sts:List (List (BitVec 64))) (a:Nat) (q:Nat × Nat):List Int:=(mR see (stR sts q.1) a q.2).map ui
def S7 (see:List (BitVec 64)) (sts:List (List (BitVec 64))) (T a:Nat):List (List Int):=dedup (pI ((ptN T (sts.length*T)).map (Yx see sts a)))
theorem YD : rlu [] = []:=rfl
end Kb
theorem rJ {k:Nat} (h:k<=1000000000):IntKind.i64.wrap ((k:Int)+ 1)= ((k+1:Nat):Int):=by rw [wrap_i64 (by omega)]; rfl
theorem jj {p:PrA} {sts:List (List (BitVec 64))} {a T:Nat} (ha:a<p.see.length) (hT:1<=T/\T<=16) (hR:1<=sts.length/\sts.length<=16) (hl:∀ st ∈ sts,T<=st.length) :
  zX prog 73 [plD p sts,.int .i64 a,.int .i64 (T-1:Int)] (.sl 1 (rlu (S7 p.see sts T a))):=by
 have hh:∀ r t,r<sts.length->t<T->zX prog 75 [plD p sts,.int .i64 a,.int .i64 r,.int .i64 t] (.sl 1 (rows .u64 (Yx p.see sts a (r,t)))):=λr t hr ht=>by have:=eK (eB p ha hr (show t<(sts.getD r []).length by have:=hl _ (xR (d:=[]) hr); omega) (by omega));rw [yq] at this;exact this
 have hne:1<=sts.length*T:=Ah hR.1 hT.1;have hle:sts.length*T<=16*16:=Ah hR.2 hT.2;have hw0:IntKind.i64.wrap (((T:Int)-1)+ 1)= (T:Int):=by rw [wrap_i64 (by omega)]; omega
 unfold S7;generalize Yx p.see sts a=kf at *;have hlen:((ptN T (sts.length*T)).map kf).length=sts.length*T:=by rw [γ,vR]
 unfold plD plC at *;refine xY.xP mixed func73 k73 (by simp) λhf=>?_;simp only [simprocAttr,-ZA,↓zU,↓zD,zV,zT,zW,zJ]
 refine xT (λr:Nat=>[(15,.int .i64 r),(14,.int .i64 sts.length),(7,xD 0 1 (rlu ((ptN T (r*T)).map kf))),(2,.int .i64 (T-1:Int)),(1,.int .i64 a),(0,.ptr [.int .i64 p.F,.sl 1 (us p.init),.sl 1 (us p.see),.sl 1 (mvR p.yW),.sl 1 (cdR p.code),.sl 1 (rr sts)])])
  (λr=>⟨1,xA 0 1 (rlu ((ptN T (r*T)).map kf))⟩) (λr=>r<=sts.length) (λr=>sts.length-r) 0 (Ae _) ?_ ?_
 ·(refine xN.ren [] [] (by simp) (by simp) (by decide) ?_; simp only [yT,zQ,simprocAttr,-ZA,exists_eq_left',ne_eq,zR,ptN,Nat.zero_mul,μ,τ,YD,zM,zN])
 intro r hr;refine xO mixed ?_;by_cases hrl:r<sts.length
 case neg=>
  have hd:¬ ((r:Int)<(sts.length:Int)):=by omega
  obtain rfl:r=sts.length:=by omega
  generalize (ptN T (sts.length*T)).map kf=l at *;have hln:l ≠ []:=λc=>by rw [c] at hlen; simp at hlen; omega
  have hln2:rlu l ≠ []:=λc=>hln (by simpa [rlu] using c);rw [pR hln2,wc hln2,uU];have hs:=ju (σ:=⟨1,[(0,⟨1,rlu l⟩)]⟩) (key:=0) (l:=l) rfl hln (by omega);have hal:(pI l).length=l.length:=(nX l).length_eq;have hc:=Xl (σ:=⟨1,[(0,⟨1,rlu (pI l)⟩)]⟩) (key:=0) (l:=pI l) rfl (by omega) (λc=>by rw [c] at hal; simp at hal; omega);rw [hal] at hc;simp only [simprocAttr,-ZA,↓zU,↓zD,zV,zT,zW,hd];refine .go hs ?_;simp only [simprocAttr,-ZA,↓zU,↓zD,zV,zT,zW];refine .go hc ?_;simp only [simprocAttr,-ZA,↓zU,↓zD,zV,zT,zW];exact .drop (by simp) (vi (by decide) (zf _) (by unfold S8; rw [ο,uU]; omega) (by unfold S8; rw [List.take_left' (uU _)]))
 have hd:((r:Int)<(sts.length:Int)):=by omega
 simp only [simprocAttr,-ZA,↓zU,↓zD,zV,zT,zW,hd,hw0]
 refine xT (λt:Nat=>[(20,.int .i64 t),(19,.int .i64 T),(15,.int .i64 r),(14,.int .i64 sts.length),(8,.int .i64 r),(7,xD 0 1 (rlu ((ptN T (r*T+t)).map kf))),(2,.int .i64 (T-1:Int)),(1,.int .i64 a),(0,.ptr [.int .i64 p.F,.sl 1 (us p.init),.sl 1 (us p.see),.sl 1 (mvR p.yW),.sl 1 (cdR p.code),.sl 1 (rr sts)])])
  (λt=>⟨1,xA 0 1 (rlu ((ptN T (r*T+t)).map kf))⟩) (λt=>t<=T) (λt=>T-t) 0 (Ae _) ?_ ?_
 ·(refine xN.same ?_; simp only [xQ,Fr.get,simprocAttr,-ZA,zS,Nat.add_zero])
  all_goals rfl
 intro t ht;refine xO mixed ?_;by_cases htl:t<T
 case neg=>
  have hd2:¬ ((t:Int)<(T:Int)):=by omega
  obtain rfl:t=T:=by omega
  simp only [simprocAttr,-ZA,↓zU,↓zD,zV,zT,zW,hd2];refine⟨r+1,by omega,?_,by omega⟩;rw [show (r+1)* t=r*t+t by rw [Nat.succ_mul]]
  (refine xN.same ?_; simp only [xQ,Fr.get,simprocAttr,-ZA,zS])
  exact rJ (by omega)
 have hd2:((t:Int)<(T:Int)):=by omega
 have hs:(ptN T (r*T+(t+1))).map kf=(ptN T (r*T+t)).map kf ++ [kf (r,t)]:=by rw [eu T r t htl,ζ]; rfl
 have hlk:((ptN T (r*T+t)).map kf).length=r*T+t:=by rw [γ,vR]
 have hle2:r*T+t<=16*16:=by have:=Nat.mul_le_mul_right T (show r+1<=sts.length from hrl);rw [Nat.succ_mul] at this;omega
 have h75:=hh r t hrl htl;generalize (ptN T (r*T+t)).map kf=l at *;generalize kf (r,t)= x at *;simp only [simprocAttr,-ZA,↓zU,↓zD,zV,zT,zW,hd2];refine .go (cr h75) ?_;simp only [simprocAttr,-ZA,↓zU,↓zD,zV,zT,zW,uU,hlk]
 (repeat refine sd ?_)
 refine⟨t+1,by omega,?_,by omega⟩;rw [hs]
 (refine xN.ren [(0,1)] [0] (by simp) (by simp) (by decide) ?_; simp only [yT,zQ,simprocAttr,-ZA,exists_eq_left',ne_eq,zR,Ue,Wz])
 exact rJ (by omega)
open Rs Fm Ru Te Kb
namespace Kb
def nq (sts:List (List (BitVec 64))):List xG:=sts.map λst=>⟨[],st⟩
def XT (see:List (BitVec 64)) (sts:List (List (BitVec 64))) (T:Nat):List xG:=iq (nq sts) see.length T (Yx see sts)
def rll (l:List (List (List Int))):List (List D):=l.map λm=>[.sl 1 (rlu m)]
theorem YC (l:List (List (List Int))):(rll l).length=l.length:=by simp [rll]
theorem RQ {l:List (List (List Int))} {i:Nat} (h:i<l.length):(rll l).getD i [] = [.sl 1 (rlu (l.getD i []))]:=by simp [rll,List.getD,h]
theorem Uc (l:List (List (List Int))) (m:List (List Int)):rll l ++ [[.sl 1 (rlu m)]]=rll (l ++ [m]):=by simp [rll]
theorem Ub (l:List (List (List Int))):∀ e ∈ rll l,D.xU e=true:=by intro e he;simp only [rll,δ] at he;obtain⟨m,_,rfl⟩:=he;rfl
theorem sg (l:List (List (List Int))):tW (rll l):=Ub l
theorem RS : rll [] = []:=rfl
theorem ZE (l:List xG) (r:xG):zL l ++ [[.sl 1 (rl r.loc),.sl 1 (us r.fac)]]=zL (l ++ [r]):=by simp [zL,xG.row]
theorem uR (l:List xG):tW (zL l):=so l
theorem Ui : zL [] = []:=rfl
theorem vp (sts:List (List (BitVec 64))):(nq sts).length=sts.length:=by simp [nq]
theorem V0 (see:List (BitVec 64)) (sts:List (List (BitVec 64))) (T:Nat):(XT see sts T).length=sts.length:=by unfold XT; rw [zd,vp]
theorem Uy {see:List (BitVec 64)} {sts:List (List (BitVec 64))} {T i:Nat} (hi:i<sts.length) :
  (XT see sts T).getD i tX=⟨(List.range T).map λt=>(List.range see.length).map λa=>((below (S7 see sts T a) (Yx see sts a (i,t)):Nat):Int),stR sts i⟩:=by
 unfold XT iq;rw [fg (by rw [vp]; exact hi),vp];have:((nq sts).getD i tX).fac=stR sts i:=by simp [nq,stR,List.getD,hi]
 rw [this];rfl
end Kb
theorem p5 {α:Type} {l:List α} {k:Nat} {d:α} (h:k<l.length):l.take (k+1)= l.take k ++ [l.getD k d]:=zK h
theorem V1 {p:PrA} {F:Nat} (hv:PrV p F) {sts:List (List (BitVec 64))} {T:Nat} (hT:1<=T/\T<=16) (hR:1<=sts.length/\sts.length<=16) (hl:∀ st ∈ sts,st.length=T) :
  zX prog 70 [plD p sts] (sD p.see.length F T (XT p.see sts T)):=by
 have hA:=hv.hA
 have hh:∀ a r t,a<p.see.length->r<sts.length->t<T->zX prog 75 [plD p sts,.int .i64 a,.int .i64 r,.int .i64 t] (.sl 1 (rows .u64 (Yx p.see sts a (r,t)))):=λa r t ha hr ht=>by have:=eK (eB p ha hr (show t<(sts.getD r []).length by have:=hl _ (xR (d:=[]) hr); omega) (by omega));rw [yq] at this;exact this
 have hw1:IntKind.i64.wrap ((T:Int)-1)= ((T:Int)-1):=wrap_i64 (by omega);have h73:=λa ha=>jj (p:=p) (sts:=sts) (a:=a) (T:=T) ha hT hR λst hs=>by rw [hl st hs]; exact Af _
 have hasc:∀ a,asc (S7 p.see sts T a):=λa=>qk (vm _)
 have hak:∀ a,(S7 p.see sts T a).length<=1000:=λa=>by have h1:(S7 p.see sts T a).length<=(pI ((ptN T (sts.length*T)).map (Yx p.see sts a))).length:=ku _ _;have h2:=(nX ((ptN T (sts.length*T)).map (Yx p.see sts a))).length_eq;rw [γ,vR] at h2;have hle:sts.length*T<=16*16:=Ah hR.2 hT.2;omega
 have hS:=λi (hi:i<sts.length)=>Uy (see:=p.see) (T:=T) hi;have hSl:=V0 p.see sts T;have hst:∀ r,r<sts.length->(stR sts r).length=T:=λr hr=>hl _ (xR (d:=[]) hr);generalize Yx p.see sts=kf at *;generalize S7 p.see sts T=al at *;generalize XT p.see sts T=S at *;have hg0:=mM sts (show 0<sts.length by omega);have hd0:(0:Int)<(sts.length:Int):=by omega
 have hl0:=hst 0 (by omega);unfold stR at hl0;unfold plD plC sD at *;rw [hv.fe] at *;refine xY.xP mixed func70 k70 (by simp) λhf=>?_;simp only [simprocAttr,-ZA,↓zU,↓zD,zV,zT,zW,zJ,hd0,hg0,xI,hl0]
 (repeat refine sd ?_)
 refine zZ (λa:Nat=>[(41,.int .i64 a),(40,.int .i64 p.see.length),(5,xD 2 1 (rll ((List.range a).map al))),(4,.ref 1 4 0 0),(3,.int .i64 T),(2,.ref 0 4 0 0),(0,.ptr [.int .i64 F,.sl 1 (us p.init),.sl 1 (us p.see),.sl 1 (mvR p.yW),.sl 1 (cdR p.code),.sl 1 (rr sts)])])
  (λa=>⟨3,xA 2 1 (rll ((List.range a).map al))++ [(1,⟨4,[[.int .i64 p.see.length,.int .i64 F,.int .i64 T,.xK]]⟩),(0,⟨4,[[.int .i64 0,.int .i64 0,.int .i64 0,.xK]]⟩)]⟩) (λa=>a<=p.see.length) (λa=>p.see.length-a) 0 (Ae _) ?_ ?_
 ·(refine xN.ren [] [1,0] (by simp) (by simp) (by decide) ?_; simp only [yT,zQ,simprocAttr,-ZA,exists_eq_left',ne_eq,zR,μ,τ,RS,zM,zN,ν])
 intro a ha;refine xO mixed ?_;by_cases hal:a<p.see.length
 case pos=>
  have hd:((a:Int)<(p.see.length:Int)):=by omega
  have h1:=h73 a hal;have hsu:(List.range (a+1)).map al=(List.range a).map al ++ [al a]:=by rw [ω,ζ]; rfl
  have hla:((List.range a).map al).length=a:=by simp
  generalize (List.range a).map al=L at *;simp only [simprocAttr,-ZA,↓zU,↓zD,zV,zT,zW,hd,hw1];refine .go (cr h1) ?_;simp only [simprocAttr,-ZA,↓zU,↓zD,zV,zT,zW,YC,hla]
  (repeat refine sd ?_)
  refine⟨a+1,by omega,?_,by omega⟩;rw [hsu]
  (refine xN.ren [(2,3)] [2,1,0] (by simp) (by simp) (by decide) ?_; simp only [yT,zQ,simprocAttr,-ZA,exists_eq_left',ne_eq,zR,Uc,sg])
  exact rJ (by omega)
 have hd:¬ ((a:Int)<(p.see.length:Int)):=by omega
 obtain rfl:a=p.see.length:=by omega
 have hlal:((List.range p.see.length).map al).length=p.see.length:=by simp
 have hgal:∀ a,a<p.see.length->(rll ((List.range p.see.length).map al)).getD a [] = [.sl 1 (rlu (al a))]:=λa ha=>by rw [RQ (by rw [hlal]; exact ha)]; simp [List.getD,ha]
 generalize (List.range p.see.length).map al=L at *;simp only [simprocAttr,-ZA,↓zU,↓zD,zV,zT,zW,hd]
 refine .go [(5,.sl 1 (rll L)),(4,.ref 1 4 0 0),(3,.int .i64 T),(2,.ref 0 4 0 0),(0,.ptr [.int .i64 F,.sl 1 (us p.init),.sl 1 (us p.see),.sl 1 (mvR p.yW),.sl 1 (cdR p.code),.sl 1 (rr sts)])] ⟨2,[(1,⟨4,[[.int .i64 p.see.length,.int .i64 F,.int .i64 T,.xK]]⟩),(0,⟨4,[[.int .i64 0,.int .i64 0,.int .i64 0,.xK]]⟩)]⟩ ?_ ?_
 ·(refine xN.ren [] [1,0] (by simp) (by simp) (by decide) ?_; simp only [yT,zQ,simprocAttr,-ZA,exists_eq_left',ne_eq,zR,sg])
 simp only [simprocAttr,-ZA,↓zU,↓zD,zV,zT,zW,zJ]
 refine xT (λr:Nat=>[(58,.int .i64 r),(57,.int .i64 sts.length),(56,.sl 1 (rr sts)),(5,.sl 1 (rll L)),(4,.ref 1 4 0 0),(3,.int .i64 T),(2,.ref 0 4 0 0),(0,.ptr [.int .i64 F,.sl 1 (us p.init),.sl 1 (us p.see),.sl 1 (mvR p.yW),.sl 1 (cdR p.code),.sl 1 (rr sts)])])
  (λr=>⟨3,xA 2 2 (zL (S.take r))++ [(1,⟨4,[[.int .i64 p.see.length,.int .i64 F,.int .i64 T,xD 2 2 (zL (S.take r))]]⟩),(0,⟨4,[[.int .i64 0,.int .i64 0,.int .i64 0,.xK]]⟩)]⟩) (λr=>r<=sts.length) (λr=>sts.length-r) 0 (Ae _) ?_ ?_
 ·(refine xN.ren [] [1,0] (by simp) (by simp) (by decide) ?_; simp only [yT,zQ,simprocAttr,-ZA,exists_eq_left',ne_eq,zR,List.take_zero,Ui,zM,zN,ν])
 intro r hr;refine xO mixed ?_;by_cases hrl:r<sts.length
 case neg=>
  have hd2:¬ ((r:Int)<(sts.length:Int)):=by omega
  rw [η (show S.length<=r by omega)];simp only [simprocAttr,-ZA,↓zU,↓zD,zV,zT,zW,hd2]
  (refine jM.ren [] [] (by simp) (by simp) (by decide) ?_; simp only [yT,zQ,simprocAttr,-ZA,exists_eq_left',ne_eq,zR,uR])
 have hd2:((r:Int)<(sts.length:Int)):=by omega
 have hgr:=mM sts hrl;have hlr:=hst r hrl;have hSr:=hS r hrl;have hSs:=p5 (l:=S) (d:=tX) (show r<S.length by omega);rw [hSr] at hSs;have hSl2:(S.take r).length=r:=by rw [Ab]; omega
 unfold stR at hlr hSs;have hcl:=Zp (c:=sts.getD r []) (by omega) (by omega);generalize sts.getD r []=st at *;generalize S.take r=S0 at *;simp only [simprocAttr,-ZA,↓zU,↓zD,zV,zT,zW,hd2,zJ,hgr]
 (repeat refine sd ?_)
 refine .go (cr hcl) ?_;simp only [simprocAttr,-ZA,↓zU,↓zD,zV,zT,zW]
 (repeat refine sd ?_)
 let lrow:Nat->List Int:=(λt=>(List.range p.see.length).map λa=>((below (al a) (kf a (r,t)):Nat):Int))
 have hlw:((List.range T).map λt=>(List.range p.see.length).map λa=>((below (al a) (kf a (r,t)):Nat):Int))= (List.range T).map lrow:=rfl;rw [hlw] at hSs
 refine zZ (λt:Nat=>[(67,.int .i64 t),(66,.int .i64 T),(58,.int .i64 r),(57,.int .i64 sts.length),(56,.sl 1 (rr sts)),(9,.ref 3 2 0 0),(7,.int .i64 r),(5,.sl 1 (rll L)),(4,.ref 1 4 0 0),(3,.int .i64 T),(2,.ref 0 4 0 0),(0,.ptr [.int .i64 F,.sl 1 (us p.init),.sl 1 (us p.see),.sl 1 (mvR p.yW),.sl 1 (cdR p.code),.sl 1 (rr sts)])])
  (λt=>⟨5,xA 4 1 (rl ((List.range t).map lrow))++ ((3,⟨2,[[xD 4 1 (rl ((List.range t).map lrow)),.sl 1 (us st)]]⟩) :: (xA 2 2 (zL S0)++ [(1,⟨4,[[.int .i64 p.see.length,.int .i64 F,.int .i64 T,xD 2 2 (zL S0)]]⟩),(0,⟨4,[[.int .i64 0,.int .i64 0,.int .i64 0,.xK]]⟩)]))⟩) (λt=>t<=T) (λt=>T-t) 0 (Ae _) ?_ ?_
 ·(refine xN.ren [] [3,2,1,0] (by simp) (by simp) (by decide) ?_; simp only [yT,zQ,simprocAttr,-ZA,exists_eq_left',ne_eq,zR,μ,τ,OO,zM,zN,ν,uR])
 intro t ht;refine xO mixed ?_;by_cases htl:t<T
 case neg=>
  have hd3:¬ ((t:Int)<(T:Int)):=by omega
  obtain rfl:t=T:=by omega
  generalize (List.range t).map lrow=LL at *;simp only [simprocAttr,-ZA,↓zU,↓zD,zV,zT,zW,hd3]
  refine .go [(58,.int .i64 r),(57,.int .i64 sts.length),(56,.sl 1 (rr sts)),(9,.ref 3 2 0 0),(5,.sl 1 (rll L)),(4,.ref 1 4 0 0),(3,.int .i64 t),(2,.ref 0 4 0 0),(0,.ptr [.int .i64 F,.sl 1 (us p.init),.sl 1 (us p.see),.sl 1 (mvR p.yW),.sl 1 (cdR p.code),.sl 1 (rr sts)])]
   ⟨4,(3,⟨2,[[.sl 1 (rl LL),.sl 1 (us st)]]⟩) :: (xA 2 2 (zL S0)++ [(1,⟨4,[[.int .i64 p.see.length,.int .i64 F,.int .i64 t,xD 2 2 (zL S0)]]⟩),(0,⟨4,[[.int .i64 0,.int .i64 0,.int .i64 0,.xK]]⟩)])⟩ ?_ ?_
  ·(refine xN.ren [] [3,2,1,0] (by simp) (by simp) (by decide) ?_; simp only [yT,zQ,simprocAttr,-ZA,exists_eq_left',ne_eq,zR,uR,kU])
  simp only [simprocAttr,-ZA,↓zU,↓zD,zV,zT,zW,xJ,hSl2]
  (repeat refine sd ?_)
  refine⟨r+1,by omega,?_,by omega⟩;rw [hSs];have hsn:=ZE S0 ⟨LL,st⟩;simp only at hsn
  (refine xN.ren [(2,4)] [2,1,0] (by simp) (by simp) (by decide) ?_; simp only [yT,zQ,simprocAttr,-ZA,exists_eq_left',ne_eq,zR,hsn,uR])
  exact rJ (by omega)
 have hd3:((t:Int)<(T:Int)):=by omega
 have hsu:(List.range (t+1)).map lrow=(List.range t).map lrow ++ [lrow t]:=by rw [ω,ζ]; rfl
 have hll:((List.range t).map lrow).length=t:=by simp
 generalize (List.range t).map lrow=LL at *;simp only [simprocAttr,-ZA,↓zU,↓zD,zV,zT,zW,hd3,xI]
 refine zZ (λa:Nat=>[(76,.int .i64 a),(75,.int .i64 p.see.length),(67,.int .i64 t),(66,.int .i64 T),(58,.int .i64 r),(57,.int .i64 sts.length),(56,.sl 1 (rr sts)),(11,xD 5 1 (rows .i64 ((List.range a).map λa=>((below (al a) (kf a (r,t)):Nat):Int)))),(10,.int .i64 t),(9,.ref 3 2 0 0),(7,.int .i64 r),(5,.sl 1 (rll L)),(4,.ref 1 4 0 0),(3,.int .i64 T),(2,.ref 0 4 0 0),(0,.ptr [.int .i64 F,.sl 1 (us p.init),.sl 1 (us p.see),.sl 1 (mvR p.yW),.sl 1 (cdR p.code),.sl 1 (rr sts)])])
  (λa=>⟨6,xA 5 1 (rows .i64 ((List.range a).map λa=>((below (al a) (kf a (r,t)):Nat):Int)))++ (xA 4 1 (rl LL)++ ((3,⟨2,[[xD 4 1 (rl LL),.sl 1 (us st)]]⟩) :: (xA 2 2 (zL S0)++ [(1,⟨4,[[.int .i64 p.see.length,.int .i64 F,.int .i64 T,xD 2 2 (zL S0)]]⟩),(0,⟨4,[[.int .i64 0,.int .i64 0,.int .i64 0,.xK]]⟩)])))⟩) (λa=>a<=p.see.length) (λa=>p.see.length-a) 0 (Ae _) ?_ ?_
 ·(refine xN.ren [] [4,3,2,1,0] (by simp) (by simp) (by decide) ?_; simp only [yT,zQ,simprocAttr,-ZA,exists_eq_left',ne_eq,zR,μ,τ,nP,zM,zN,ν,uR,kU])
 intro a ha;refine xO mixed ?_;by_cases hal:a<p.see.length
 case neg=>
  have hd4:¬ ((a:Int)<(p.see.length:Int)):=by omega
  obtain rfl:a=p.see.length:=by omega
  have hlr2:((List.range p.see.length).map λa=>((below (al a) (kf a (r,t)):Nat):Int))= lrow t:=rfl;rw [hlr2];generalize lrow t=x at *;simp only [simprocAttr,-ZA,↓zU,↓zD,zV,zT,zW,hd4]
  refine .go [(67,.int .i64 t),(66,.int .i64 T),(58,.int .i64 r),(57,.int .i64 sts.length),(56,.sl 1 (rr sts)),(11,.sl 1 (rows .i64 x)),(9,.ref 3 2 0 0),(7,.int .i64 r),(5,.sl 1 (rll L)),(4,.ref 1 4 0 0),(3,.int .i64 T),(2,.ref 0 4 0 0),(0,.ptr [.int .i64 F,.sl 1 (us p.init),.sl 1 (us p.see),.sl 1 (mvR p.yW),.sl 1 (cdR p.code),.sl 1 (rr sts)])]
   ⟨5,xA 4 1 (rl LL)++ ((3,⟨2,[[xD 4 1 (rl LL),.sl 1 (us st)]]⟩) :: (xA 2 2 (zL S0)++ [(1,⟨4,[[.int .i64 p.see.length,.int .i64 F,.int .i64 T,xD 2 2 (zL S0)]]⟩),(0,⟨4,[[.int .i64 0,.int .i64 0,.int .i64 0,.xK]]⟩)]))⟩ ?_ ?_
  ·(refine xN.ren [] [4,3,2,1,0] (by simp) (by simp) (by decide) ?_; simp only [yT,zQ,simprocAttr,-ZA,exists_eq_left',ne_eq,zR,uR,kU])
  simp only [simprocAttr,-ZA,↓zU,↓zD,zV,zT,zW,yD,hll]
  (repeat refine sd ?_)
  refine⟨t+1,by omega,?_,by omega⟩;rw [hsu]
  (refine xN.ren [(4,5)] [4,3,2,1,0] (by simp) (by simp) (by decide) ?_; simp only [yT,zQ,simprocAttr,-ZA,exists_eq_left',ne_eq,zR,mr,uR,kU])
  exact rJ (by omega)
 have hd4:((a:Int)<(p.see.length:Int)):=by omega
 have hga:=hgal a hal;obtain⟨bb,hse⟩:=ZF (kf a (r,t)) (hasc a) (hak a);have h75:=hh a r t hal hrl htl;have hsu2:(List.range (a+1)).map (λa=>((below (al a) (kf a (r,t)):Nat):Int))= (List.range a).map (λa=>((below (al a) (kf a (r,t)):Nat):Int))++ [((below (al a) (kf a (r,t)):Nat):Int)]:=by rw [ω,ζ]; rfl
 have hla2:((List.range a).map λa=>((below (al a) (kf a (r,t)):Nat):Int)).length=a:=by simp
 have hdL:((a:Int)<(L.length:Int)):=by omega
 generalize (List.range a).map (λa=>((below (al a) (kf a (r,t)):Nat):Int))= W at *;simp only [simprocAttr,-ZA,↓zU,↓zD,zV,zT,zW,hd4,YC,hdL,hga]
 (repeat refine sd ?_)
 refine .go (cr h75) ?_;simp only [simprocAttr,-ZA,↓zU,↓zD,zV,zT,zW];refine .go (cr hse) ?_;simp only [simprocAttr,-ZA,↓zU,↓zD,zV,zT,zW,yZ,hla2]
 (repeat refine sd ?_)
 refine⟨a+1,by omega,?_,by omega⟩;rw [hsu2]
 (refine xN.ren [(5,6)] [5,4,3,2,1,0] (by simp) (by simp) (by decide) ?_; simp only [yT,zQ,simprocAttr,-ZA,exists_eq_left',ne_eq,zR,uR,kU])
 exact rJ (by omega)
namespace Kb
def Vn (p:PrA) (n:Int):Int:=if oX p≠0 then oX p else if n<1\/6<n then 2 else 0
theorem kZ {p:PrA} {n:Int} (h:Vn p n=0):∃ F k:Nat,PrV p F/\n=((k+1:Nat):Int)/\ k<=5:=by
 unfold Vn at h
 split at h
 ·rename_i h1; exact absurd h h1
 ·rename_i h1
  split at h
  ·cases h
  ·obtain⟨F,hv⟩:=WB (by simpa using h1);exact⟨F,(n-1).toNat,hv,by omega,by omega⟩
def nz (p:PrA) (n:Int):tZ:=if Vn p n≠0 then⟨0,0,0,[]⟩ else⟨p.see.length,p.F,n,XT p.see (uN p (n.toNat-1)) n.toNat⟩
end Kb
theorem Z2 (p:PrA) (sm:gp p) (n:Int):zX prog 68 [p.d,.int .i64 n] (.int .i64 (Vn p n)):=by
 have hC:=Px p sm;unfold PrA.d PrA.cells Vn at *;refine xY.xP mixed func68 k68 (by simp) λhf=>?_;simp only [simprocAttr,-ZA,↓zU,↓zD,zV,zT,zW]
 (repeat refine sd ?_)
 refine .go (cr hC) ?_;by_cases c:oX p=0
 case neg=>
  have c':(oX p != 0)= true:=by simpa using c
  rw [if_pos c];simp only [simprocAttr,-ZA,↓zU,↓zD,zV,zT,zW,c'];exact .dv
 have c':(oX p != 0)= false:=by simpa using c
 rw [if_neg (by simpa using c)]
 by_cases h1:n<1
 ·rw [if_pos (.inl h1)];simp only [simprocAttr,-ZA,↓zU,↓zD,zV,zT,zW,c',h1];exact .dv
 by_cases h2:6<n
 ·rw [if_pos (.inr h2)];simp only [simprocAttr,-ZA,↓zU,↓zD,zV,zT,zW,c',h1,h2];exact .dv
 rw [if_neg (by omega)];simp only [simprocAttr,-ZA,↓zU,↓zD,zV,zT,zW,c',h1,h2];exact .dv
theorem jy {p:PrA} {F k:Nat} (hv:PrV p F) (hk:k<=5) {sts:List (List (BitVec 64))} (hS:PlS p F sts k):zX prog 70 [plD p sts] (sD p.see.length F (k+1) (XT p.see sts (k+1))):= V1 hv ⟨by omega,by omega⟩ (by rw [hS.len]; exact hv.hI) hS.run
theorem Nn (p:PrA) (sm:gp p) (n:Int):zX prog 19 [p.d,.int .i64 n] (.tup [(nz p n).d,.int .i64 (Vn p n)]):=by
 have hR:=Z2 p sm n;by_cases c:Vn p n=0
 case neg=>
  have c':(Vn p n != 0)= true:=by simpa using c
  have hD:(nz p n).d = .agg [.int .i64 0,.int .i64 0,.int .i64 0,.sl 2 []]:=by unfold nz; rw [if_pos c]; rfl
  rw [hD];unfold PrA.d PrA.cells at *;refine xY.xP mixed func19 k19 (by simp) λhf=>?_;simp only [simprocAttr,-ZA,↓zU,↓zD,zV,zT,zW]
  (repeat refine sd ?_)
  refine .go (cr hR) ?_;simp only [simprocAttr,-ZA,↓zU,↓zD,zV,zT,zW,c']
  (repeat refine sd ?_)
  exact .drop (by simp) (by simp [vw,vwL])
 have c':(Vn p n != 0)= false:=by simpa using c
 obtain⟨F,k,hv,rfl,hk⟩:=kZ c;have hP:=US hv (n:=k) (by omega);have hS:=jy hv hk (yi hv k)
 have hD:(nz p ((k+1:Nat):Int)).d=sD p.see.length F (k+1) (XT p.see (uN p k) (k+1)):=by unfold nz;rw [if_neg (by simpa using c),Int.toNat_natCast,show k+1-1=k by omega];show D.agg [_,_,_,_]=D.agg [_,_,_,_];rw [hv.fe]
 rw [hD];generalize XT p.see (uN p k) (k+1)= S at *;generalize uN p k=sts at *;unfold PrA.d PrA.cells plD plC sD at *;refine xY.xP mixed func19 k19 (by simp) λhf=>?_;simp only [simprocAttr,-ZA,↓zU,↓zD,zV,zT,zW]
 (repeat refine sd ?_)
 refine .go (cr hR) ?_;simp only [simprocAttr,-ZA,↓zU,↓zD,zV,zT,zW,c'];refine .go (cr hP) ?_;simp only [simprocAttr,-ZA,↓zU,↓zD,zV,zT,zW];refine .go (cr hS) ?_;simp only [simprocAttr,-ZA,↓zU,↓zD,zV,zT,zW]
 (repeat refine sd ?_)
 exact .drop (by simp) (by simp [vw,vwL]; simpa using c.symm)
end Go.Pd
