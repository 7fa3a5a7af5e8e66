/- Part KX. -/
import Derived.Test.YtndfaefmmcoapaaGreatUcSM
import Derived.Test.YtndfaefmmcoapaaGreatUcX6
import Derived.Test.YtndfaefmmcoapaaGreatUcJB
import Derived.Test.YtndfaefmmcoapaaGreatUcX9
import Derived.Shelf.Small.Bits
import Derived.Test.YtndfaefmmcoapaaGreatUcKG
set_option linter.unusedSectionVars false
set_option linter.unusedVariables false
set_option linter.unusedSimpArgs false
set_option linter.defProp false
set_option maxRecDepth 20000
set_option maxHeartbeats 1000000
open Go.Proofs.Tryz
open List renaming length_map->γ,mem_map->δ,all_eq_true->ε,mem_range->ζ,take_of_length_le->η,mem_singleton->θ,nil_append->κ,map_append->μ,range_zero->ν,range'->ξ,mem_cons->ο,map_nil->π,range_succ->τ,mem_append->υ,map_congr_left->χ,pairwise_cons->ω,length_append->Aa,mem_range'_1->Ab,getElem_set->Ac,eq_nil_of_length_eq_zero->Ad,getElem_of_mem->Ae,length_take->Af,getElem_mem->Ag,ext_getElem->Ah
open Nat renaming le_refl->Ai,zero_le->Aj,reduceEqDiff->Ak,not_lt_zero->Al,lt_succ_self->Am,mul_le_mul->An
open BitVec renaming getLsbD_zero->Ao,getLsbD_ushiftRight->Ap,eq_of_getLsbD_eq->Aq
open Bool renaming false_and->Ar,true_and->As
open Int renaming toNat_natCast->Au
namespace Go.Pd
open Go Go.Proofs
open Rs Fm Ru Te Kb
namespace Kb
def Mo (p:yA) (kS n:Nat):Ob:=⟨6,[[.int .i64 p.F,.sl 1 (us p.init),.sl 1 (us p.xK),.sl 1 (oB p.xJ),.sl 1 (oA p.code),.yM kS 1 n]]⟩
structure YN (p : yA) (sts : List (List (BitVec 64))) (kx kS : Nat) (ks : List Nat) (xZ : List (Nat × Ob)) : Prop where
 hx:St.look xZ kx=some (Mo p kS sts.length)
 zr:lg xZ kS ks (sts.map us)
 nd:ks.Nodup
 ne:kx≠kS
 xs:kx ∉ ks
 ss:kS ∉ ks
def fg (p:yA) (b:Nat) (sts:List (List (BitVec 64))):List (Nat × Ob):=(0,Mo p 1 sts.length) :: (1,⟨1,tC (ξ b sts.length) (sts.map us)⟩) :: (List.range sts.length).map λi=>(b+i,⟨1,us (tA sts i)⟩)
theorem qT {sts:List (List (BitVec 64))} {i:Nat} (hi:i<sts.length):(sts.map us).getD i []=us (tA sts i):=by simp [tA,List.getD,hi]
theorem pj {f:Nat->Ob} (b:Nat):∀ {l:List Nat} {i:Nat},i ∈ l->St.look (l.map λi=>(b+i,f i)) (b+i)= some (f i)
 | [],i,h=>by cases h
 | j :: r,i,h=>by
  show St.look ((b+j,f j) :: _) _=_;rw [xX]
  by_cases e:i=j
  ·subst e; rw [if_pos rfl]
  ·rw [if_neg (by omega)];exact pj b ((ο.1 h).resolve_left e)
theorem jg {b n i:Nat} (hi:i<n):(ξ b n).getD i 0=b+i:=by simp [List.getD,hi]
theorem vr (p:yA) {b:Nat} (hb:2<=b) (sts:List (List (BitVec 64))):YN p sts 0 1 (ξ b sts.length) (fg p b sts) where
 hx:=by unfold fg; rw [xX,if_pos rfl]
 zr:={
  out:=by unfold fg; rw [xX,if_neg (by omega),xX,if_pos rfl]
  len:=by simp
  each:=λi hi=>by
   have hi':i<sts.length:=by simpa using hi
   rw [jg hi',qT hi'];unfold fg;rw [xX,if_neg (by omega),xX,if_neg (by omega)];exact pj b (ζ.2 hi') }
 nd:=List.nodup_range'
 ne:=by decide
 xs:=λh=>by have:=Ab.1 h; omega
 ss:=λh=>by have:=Ab.1 h; omega
theorem rv {p:yA} {b:Nat} {sts:List (List (BitVec 64))} {q:Nat × Ob} (h:q ∈ fg p b sts):q=(0,Mo p 1 sts.length)\/q=(1,⟨1,tC (ξ b sts.length) (sts.map us)⟩)\/∃ i,i<sts.length/\q=(b+i,⟨1,us (tA sts i)⟩):=by
 unfold fg at h
 rcases ο.1 h with h | h
 ·exact .inl h
 ·rcases ο.1 h with h | h
  ·exact .inr (.inl h)
  ·simp only [δ,ζ] at h;obtain⟨i,hi,rfl⟩:=h;exact .inr (.inr ⟨i,hi,rfl⟩)
theorem WN {sts:List (List (BitVec 64))}:∀ e ∈ sts.map us,∀ r ∈ e,r.length=1/\D.xR r=true:=λe he r hr=>by simp only [δ] at he;obtain⟨s,_,rfl⟩:=he;refine⟨?_,pP s r hr⟩;simp only [us,δ] at hr;obtain⟨x,_,rfl⟩:=hr;rfl
def u5 (b kx kS:Nat) (ks:List Nat) (k:Nat):Nat:=if k=0 then kx else if k=1 then kS else if b<=k then ks.getD (k-b) 0 else k
section
variable {p : yA} {sts : List (List (BitVec 64))} {kx kS b nx : Nat} {ks : List Nat} {xZ : List (Nat × Ob)}
theorem YN.stays (h:YN p sts kx kS ks xZ) (hb:2<=b):stays ⟨nx,xZ⟩ ⟨b+sts.length,fg p b sts⟩ (u5 b kx kS ks):=by
 have hlen:=h.zr.len;have hsl:(sts.map us).length=sts.length:=γ _;have hr:(ξ b sts.length).length=(sts.map us).length:=by simp
 intro q hq
 rcases rv hq with rfl | rfl | ⟨i,hi,rfl⟩
 ·refine⟨by show 0<b+sts.length; omega,_,h.hx,rfl,?_⟩;refine .cons rfl ?_ .nil;simp only [vI,vw,and_true,true_and,u5];exact⟨by omega,rfl⟩
 ·refine⟨by show 1<b+sts.length; omega,_,h.zr.out,rfl,Y8 (by rw [rD hlen,rD hr]) λi hi=>?_⟩;rw [rD hr] at hi;rw [jU hlen hi,jU hr hi];refine⟨rfl,?_⟩;rw [hsl] at hi;simp only [vI,vw,jg hi,and_true,u5];rw [if_neg (by omega),if_neg (by omega),if_pos (by omega),show b+i-b=i by omega];exact⟨by omega,rfl⟩
 ·refine⟨by show b+i<b+sts.length; omega,⟨1,us (tA sts i)⟩,?_,rfl,.same λr hr=>pP _ r hr⟩;show St.look xZ (u5 b kx kS ks (b+i))= _;unfold u5;rw [if_neg (by omega),if_neg (by omega),if_pos (by omega),show b+i-b=i by omega];have:=h.zr.each i (by rw [hsl]; exact hi);rw [qT hi] at this;exact this
theorem YN.apart (h:YN p sts kx kS ks xZ) (hb:2<=b) (m:Nat):rY ⟨m,fg p b sts⟩ (u5 b kx kS ks):=by
 have hlen:=h.zr.len;rw [γ] at hlen
 have hk:∀ i,i<sts.length->u5 b kx kS ks (b+i)= ks.getD i 0:=λi hi=>by unfold u5;rw [if_neg (by omega),if_neg (by omega),if_pos (by omega),show b+i-b=i by omega]
 have hm:∀ i,i<sts.length->ks.getD i 0 ∈ ks:=λi hi=>sE (by omega);have e0:u5 b kx kS ks 0=kx:=rfl;have e1:u5 b kx kS ks 1=kS:=rfl;intro q hq r hr' e
 rcases rv hq with rfl | rfl | ⟨i,hi,rfl⟩ <;> rcases rv hr' with rfl | rfl | ⟨j,hj,rfl⟩ <;> simp only at e ⊢
 ·rw [e0,e1] at e; exact absurd e h.ne
 ·rw [e0,hk j hj] at e; exact absurd (e ▸ hm j hj) h.xs
 ·rw [e0,e1] at e; exact absurd e.symm h.ne
 ·rw [e1,hk j hj] at e; exact absurd (e ▸ hm j hj) h.ss
 ·rw [e0,hk i hi] at e; exact absurd (e ▸ hm i hi) h.xs
 ·rw [e1,hk i hi] at e; exact absurd (e ▸ hm i hi) h.ss
 ·rw [hk i hi,hk j hj] at e;rw [bg h.nd (by omega) (by omega) e]
theorem YN.seen {K:Nat->Prop} (h:YN p sts kx kS ks xZ) (h1:¬ K kx) (h2:¬ K kS) (h3:∀ k ∈ ks,¬ K k):Seen ⟨nx,xZ⟩ K (.ref kx 6 0 0) (wm p sts):=by
 have hs:=Go.Pd.lg.seen h.zr (nx:=nx) (n:=sts.length) (γ _).symm h2 h3 WN;rw [M6] at hs;refine Seen.ref h.hx h1 rfl (Nat.lt_add_one 0) (Nat.zero_lt_succ 5) (Ai 6) λj hj=>?_;have hj:j<6:=hj;have:j=0\/j=1\/j=2\/j=3\/j=4\/j=5:=by omega
 rcases this with rfl | rfl | rfl | rfl | rfl | rfl
 ·exact .pure rfl
 ·exact .pure rfl
 ·exact .pure rfl
 ·exact .pure rfl
 ·exact .pure rfl
 ·exact hs
end
end Kb
theorem pC.TN {p:yA} {sts:List (List (BitVec 64))} {kx kS b nx n0:Nat} {ks:List Nat} {xZ:List (Nat × Ob)} {d1 d:D} (h:YN p sts kx kS ks xZ) (hb:2<=b) (hn:n0<=b+sts.length) (hid:∀ k,k<n0->u5 b kx kS ks k=k)
  (hd:vw ⟨nx,xZ⟩ ⟨b+sts.length,fg p b sts⟩ (u5 b kx kS ks) d1 d):pC n0 ⟨nx,xZ⟩ d1 ⟨b+sts.length,fg p b sts⟩ d:=
 .inr ⟨u5 b kx kS ks,hn,hid,hd,h.stays hb,h.apart hb _⟩
theorem xT.TN {C:Cx} {f f':Fr} {p:yA} {sts:List (List (BitVec 64))} {kx kS b nx:Nat} {ks:List Nat} {xZ:List (Nat × Ob)} (h:YN p sts kx kS ks xZ) (hb:2<=b) (hn:C.n0<=b+sts.length) (hid:∀ k,k<C.n0->u5 b kx kS ks k=k)
  (hf:YR ⟨nx,xZ⟩ ⟨b+sts.length,fg p b sts⟩ (u5 b kx kS ks) f f'):xT C f ⟨nx,xZ⟩ f' ⟨b+sts.length,fg p b sts⟩:=
 xT.view (u5 b kx kS ks) hn hid hf (h.stays hb) (h.apart hb _)
end Go.Pd

/- Part KY. -/
namespace Go.Pd
open Go Go.Proofs
open BitVec renaming isValue -> ZA
open Rs Fm Ru Te Kb
namespace Kb
def bZ (p:yA):List (List (BitVec 64)):=p.init.map λs=>[s]
structure BP where
 k:Nat
 nx:Nat
 kS:Nat
 ks:List Nat
 xZ:List (Nat × Ob)
def bY (p:yA) (k:Nat):List (List (BitVec 64)):=(p.init.take k).map λs=>[s]
structure IB (p : yA) (kx : Nat) (x : BP) : Prop where
 hk:x.k<=p.init.length
 hx:St.look x.xZ kx=some ⟨6,[[.int .i64 p.F,.sl 1 (us p.init),.sl 1 (us p.xK),.sl 1 (oB p.xJ),.sl 1 (oA p.code),cX x.kS x.k]]⟩
 lt:kx<x.nx
 kS:x.kS<x.nx\/x.k=0
 kl:x.ks.length=x.k
 ks:∀ k ∈ x.ks,k<x.nx
 nd:x.ks.Nodup
 ne:x.k≠0->kx≠x.kS
 xs:kx ∉ x.ks
 ss:x.k≠0->x.kS ∉ x.ks
 zr:x.k≠0->lg x.xZ x.kS x.ks ((bY p x.k).map us)
theorem eO {α:Type} {l r:List α} {d:α} {i:Nat} (h:i<l.length):(l++r).getD i d=l.getD i d:=by simp [List.getD,List.getElem?_append_left h]
theorem gx {α:Type} {l:List α} {x d:α} {i:Nat} (h:i=l.length):(l ++ [x]).getD i d=x:=by subst h; simp [List.getD]
theorem lg.grow {xZ ob:List (Nat × Ob)} {kO kN kI:Nat} {ks:List Nat} {ess:List (List (List D))} {e:List (List D)} (h:ess ≠ []->lg xZ kO ks ess) (kl:ks.length=ess.length) (hout:St.look ob kN=some ⟨1,tC (ks ++ [kI]) (ess ++ [e])⟩)
  (hnew:St.look ob kI=some ⟨1,e⟩) (hold:∀ k ∈ ks,St.look ob k=St.look xZ k):lg ob kN (ks ++ [kI]) (ess ++ [e]) where
 out:=hout
 len:=by simp [kl]
 each:=λi hi=>by
  by_cases c:i=ess.length
  ·rw [gx (l:=ks) (by omega),gx (l:=ess) c]; exact hnew
  ·have hi':i<ess.length:=by simp at hi; omega
   have hn:ess ≠ []:=λc=>by rw [c] at hi'; cases hi'
   rw [eO (l:=ks) (by omega),eO (l:=ess) hi',hold _ (sE (by omega))];exact(h hn).each i hi'
theorem Tf (p:yA) {k:Nat} (hk:k<p.init.length):bY p (k+1)= bY p k ++ [[p.init.getD k 0]]:=by unfold bY;rw [zA (d:=0) hk,μ]; rfl
theorem XH (p:yA) {k:Nat} (hk:k<=p.init.length):(bY p k).length=k:=by simp [bY]; omega
theorem IB.step {p:yA} {kx:Nat} {x:BP} (h:IB p kx x) (hlt:x.k<p.init.length) {ob:List (Nat × Ob)} (hout:St.look ob (x.nx+1+1)= some ⟨1,tC (x.ks ++ [x.nx]) ((bY p x.k).map us ++ [us [p.init.getD x.k 0]])⟩)
  (hnew:St.look ob x.nx=some ⟨1,us [p.init.getD x.k 0]⟩) (hx:St.look ob kx=some ⟨6,[[.int .i64 p.F,.sl 1 (us p.init),.sl 1 (us p.xK),.sl 1 (oB p.xJ),.sl 1 (oA p.code),.yM (x.nx+1+1) 1 (x.k+1)]]⟩)
  (hold:∀ k,k<x.nx->k≠kx->(x.k=0\/k≠x.kS)->St.look ob k=St.look x.xZ k):IB p kx ⟨x.k+1,x.nx+1+1+1,x.nx+1+1,x.ks ++ [x.nx],ob⟩:=by
 have hl:=XH p h.hk;have hlt2:=h.lt
 refine⟨by show x.k+1<=_; omega,?_,by show kx<x.nx+1+1+1; omega,.inl (by show x.nx+1+1<x.nx+1+1+1; omega),by simp [h.kl],λk hk=>?_,?_,λ_=>by show kx≠x.nx+1+1; omega,λhk=>?_,λ_ hk=>?_,λ_=>?_⟩
 ·show St.look ob kx=_;rw [hx];unfold cX;simp
 ·show k<x.nx+1+1+1
  rcases υ.1 hk with hk | hk
  ·have:=h.ks k hk; omega
  ·rw [θ.1 hk]; omega
 ·refine List.nodup_append.2 ⟨h.nd,by simp,λk hk j hj e=>?_⟩;have:=h.ks k hk;rw [θ.1 hj] at e;omega
 ·rcases υ.1 hk with hk | hk
  ·exact h.xs hk
  ·have:=θ.1 hk; omega
 ·have hk:x.nx+1+1 ∈ x.ks ++ [x.nx]:=hk
  rcases υ.1 hk with hk | hk
  ·have:=h.ks _ hk; omega
  ·have:=θ.1 hk; omega
 ·show lg ob (x.nx+1+1) (x.ks ++ [x.nx]) ((bY p (x.k+1)).map us);rw [Tf p hlt,μ];have h0:(bY p x.k).map us ≠ []->x.k≠0:=λc e=>c (by rw [List.map_eq_nil_iff]; exact Ad (by omega));refine lg.grow (λc=>h.zr (h0 c)) (by rw [h.kl,γ,hl]) hout hnew λk hk=>?_;have hk1:=h.ks k hk;refine hold k hk1 (λe=>h.xs (e ▸ hk)) ?_
  by_cases c:x.k=0
  ·exact .inl c
  ·exact .inr λe=>h.ss c (e ▸ hk)
end Kb
theorem Pv {p:yA} {F:Nat} (hv:nr p F):xY prog 120 [p.d] gY (.ref 0 6 0 0) ⟨2+p.init.length,fg p 2 (bZ p)⟩:=by
 have hI:=hv.hI;have hbl:(bZ p).length=p.init.length:=by simp [bZ]
 have hD:p.d = .agg [.int .i64 p.F,.sl 1 (us p.init),.sl 1 (us p.xK),.sl 1 (oB p.xJ),.sl 1 (oA p.code)]:=rfl;rw [hD];refine xY.xN mixed func120 IQ (by simp) λhf=>?_;simp only [simprocAttr,-ZA,↓zU,↓zD,zV,zT,zW,xI]
 (repeat refine sd ?_)
 refine xP (λx:BP=>[(12,.int .i64 x.k),(11,.int .i64 p.init.length),(10,.sl 1 (us p.init)),(3,.ref 1 6 0 0)]) (λx=>⟨x.nx,x.xZ⟩) (IB p 1) (λx=>p.init.length-x.k)
  ⟨0,2,0,[],[(1,⟨6,[[.int .i64 p.F,.sl 1 (us p.init),.sl 1 (us p.xK),.sl 1 (oB p.xJ),.sl 1 (oA p.code),.xO]]⟩),(0,⟨5,[[.int .i64 p.F,.sl 1 (us p.init),.sl 1 (us p.xK),.sl 1 (oB p.xJ),.sl 1 (oA p.code)]]⟩)]⟩
  ⟨Aj _,rfl,Nat.lt_add_one 1,.inr rfl,rfl,by simp,.nil,λh=>absurd rfl h,by simp,λh=>absurd rfl h,λh=>absurd rfl h⟩ ?_ ?_
 ·(refine xT.same ?_; simp [xS,Fr.get])
 rintro ⟨k,nx,kS,ks,xZ⟩ hB;obtain⟨hk,hx,hlt,hkS,hkl,hks,hnd,hne,hxs,hss,hnst⟩:=id hB;simp only at hk hx hlt hkS hkl hks hnd hne hxs hss hnst;refine xM mixed ?_;by_cases hkl2:k<p.init.length
 case neg=>
  have hd:¬ ((k:Int)<(p.init.length:Int)):=by omega
  obtain rfl:k=p.init.length:=by omega
  have hk0:p.init.length≠0:=by omega
  have he:bY p p.init.length=bZ p:=by unfold bY bZ; rw [List.take_length]
  have hPI:YN p (bZ p) 1 kS ks xZ:=⟨by rw [hx]; unfold Mo cX; rw [if_neg hk0,hbl],he ▸ hnst hk0,hnd,hne hk0,hxs,hss hk0⟩;simp only [simprocAttr,-ZA,↓zU,↓zD,zV,zT,zW,hd];have hr:=pC.TN (b:=2) (n0:=0) (nx:=nx) (d1:=.ref 1 6 0 0) (d:=.ref 0 6 0 0) hPI (Ai _) (Aj _) (λk hk=>absurd hk (Al _)) (by simp only [vw,and_true]; exact⟨by omega,rfl⟩);rw [hbl] at hr;exact hr
 have hd:((k:Int)<(p.init.length:Int)):=by omega
 have hg:=vX p.init hkl2;have hst:=λob=>@IB.step p 1 ⟨k,nx,kS,ks,xZ⟩ hB hkl2 ob;simp only at hst;generalize p.init.getD k 0=s at hg hst;have q1:¬ (nx=1):=by omega
 have q5:¬ (nx+1+1=1):=by omega
 have q6:¬ (nx+1=1):=by omega
 have q7:¬ (nx=0):=by omega
 by_cases hk0:k=0
 ·subst hk0;have hd0:(0:Int)<(p.init.length:Int):=by omega
  unfold cX at hx;rw [if_pos rfl] at hx;obtain rfl:ks = []:=Ad hkl
  have hst1:=hst ((nx+1+1,⟨1,[[.yM nx 1 1]]⟩) :: (nx+1,⟨1,[[.yM nx 1 1]]⟩) :: (nx,⟨1,[[.int .u64 (ui s)]]⟩) :: zL xZ 1 ⟨6,[[.int .i64 p.F,.sl 1 (us p.init),.sl 1 (us p.xK),.sl 1 (oB p.xJ),.sl 1 (oA p.code),.yM (nx+1+1) 1 1]]⟩)
   (by rw [xX,if_pos rfl]; rfl) (by rw [xX,if_neg (by omega),xX,if_neg (by omega),xX,if_pos rfl]; rfl)
   (by rw [xX,if_neg q5,xX,if_neg q6,xX,if_neg q1,xU,if_pos rfl,hx]; rfl)
   (λj hj h1 _=>by rw [xX,if_neg (by omega),xX,if_neg (by omega),xX,if_neg (by omega),xU,if_neg (λe=>h1 e.symm)])
  simp only [simprocAttr,-ZA,↓zU,↓zD,zV,zT,zW,hd0,xI,hg,hx,q1,q5,q6,q7]
  (repeat refine sd ?_)
  refine⟨_,hst1,?_,by show p.init.length-(0+1)<_; omega⟩
  (refine xT.same ?_; simp only [xS,Fr.get,simprocAttr,-ZA,zS])
  all_goals rfl
 ·have hkS2:kS<nx:=hkS.resolve_right hk0;have ho:=(hnst hk0).out;unfold cX at hx;rw [if_neg hk0] at hx;have hnl:=rD (hnst hk0).len;rw [γ,XH p hk] at hnl;have htk:(tC ks ((bY p k).map us)).take k=tC ks ((bY p k).map us):=η (by omega);have q2:¬ (nx=kS):=by omega
  have q3:¬ (nx+1=kS):=by omega
  have q4:¬ (kS=1):=λe=>hne hk0 e.symm;have hxe:St.look (yC xZ kS) 1=some ⟨6,[[.int .i64 p.F,.sl 1 (us p.init),.sl 1 (us p.xK),.sl 1 (oB p.xJ),.sl 1 (oA p.code),.yM kS 1 k]]⟩:=by rw [xF,if_neg q4]; exact hx
  have hsn:=ja (hnst hk0).len nx (us [s])
  have hst1:=hst ((nx+1+1,⟨1,tC ks ((bY p k).map us)++ [[.yM nx 1 1]]⟩) :: (nx+1,⟨1,[[.yM nx 1 1]]⟩) :: (nx,⟨1,[[.int .u64 (ui s)]]⟩) :: zL (yC xZ kS) 1 ⟨6,[[.int .i64 p.F,.sl 1 (us p.init),.sl 1 (us p.xK),.sl 1 (oB p.xJ),.sl 1 (oA p.code),.yM (nx+1+1) 1 (k+1)]]⟩)
   (by rw [xX,if_pos rfl,<- hsn]; rfl) (by rw [xX,if_neg (by omega),xX,if_neg (by omega),xX,if_pos rfl]; rfl)
   (by rw [xX,if_neg q5,xX,if_neg q6,xX,if_neg q1,xU,if_pos rfl,hxe]; rfl)
   (λj hj h1 h2=>by rw [xX,if_neg (by omega),xX,if_neg (by omega),xX,if_neg (by omega),xU,if_neg (λe=>h1 e.symm),xF,if_neg (λe=>(h2.resolve_left hk0) e.symm)])
  simp only [simprocAttr,-ZA,↓zU,↓zD,zV,zT,zW,hd,xI,hg,hx,hxe,q1,q2,q3,q4,q5,q6,q7,ho,hnl,htk]
  (repeat refine sd ?_)
  refine⟨_,hst1,?_,by show p.init.length-(k+1)<_; omega⟩
  (refine xT.same ?_; simp only [xS,Fr.get,simprocAttr,-ZA,zS])
  exact wrap_i64 (by omega)
open Rs Fm Ru Te Kb
namespace Kb
def p4 (st:List (BitVec 64)):BitVec 64:=st.getD (st.length-1) 0
def s7 (p:yA) (sts:List (List (BitVec 64))) (mv:List (List Int)) (i:Nat):BitVec 64:=TM p (p4 (tA sts i)) (mv.map λm=>m.getD i 0)
def iA (p:yA) (sts:List (List (BitVec 64))) (mv:List (List Int)) (r:Nat):List (List (BitVec 64)):=(List.range sts.length).map λi=>if i<r then tA sts i ++ [s7 p sts mv i] else tA sts i
def aF (p:yA) (sts:List (List (BitVec 64))) (mv:List (List Int)):List (List (BitVec 64)):=(List.range sts.length).map λi=>tA sts i ++ [s7 p sts mv i]
section
variable {p : yA} {sts : List (List (BitVec 64))} {mv : List (List Int)} {r : Nat}
theorem wE : (iA p sts mv r).length=sts.length:=by simp [iA]
theorem aX {i:Nat} (hi:i<sts.length):tA (iA p sts mv r) i=if i<r then tA sts i ++ [s7 p sts mv i] else tA sts i:=by simp [tA,iA,List.getD,hi]
theorem V9 : iA p sts mv 0=sts:=by refine Ah (by simp [iA]) λi h1 h2=>?_;simp [iA,tA,List.getD,h2]
theorem Re (h:sts.length<=r):iA p sts mv r=aF p sts mv:=by refine χ λi hi=>?_;rw [if_pos (by have:=ζ.1 hi; omega)]
theorem Rf (hr:r<sts.length):((iA p sts mv r).map us).set r (us (tA sts r ++ [s7 p sts mv r]))= (iA p sts mv (r+1)).map us:=by
 refine Ah (by simp [iA]) λk h1 h2=>?_;rw [Ac];simp only [iA,List.getElem_map,List.getElem_range]
 by_cases e:r=k
 ·subst e; rw [if_pos rfl,if_pos (by omega)]
 ·rw [if_neg e]
  by_cases hk:k<r
  ·rw [if_pos hk,if_pos (by omega)]
  ·rw [if_neg hk,if_neg (by omega)]
end
structure AP where
 r:Nat
 nx:Nat
 ks:List Nat
 xZ:List (Nat × Ob)
structure IA (p : yA) (sts : List (List (BitVec 64))) (mv : List (List Int)) (n0 : Nat) (x : AP) : Prop where
 hr:x.r<=sts.length
 hn:n0<=x.nx
 pl:YN p (iA p sts mv x.r) 0 1 x.ks x.xZ
 lt:∀ k ∈ x.ks,k<x.nx
theorem RZ {l:List Nat} {i j x:Nat} (hj:j<l.length):(l.set i x).getD j 0=if i=j then x else l.getD j 0:=by
 simp only [List.getD,List.getElem?_set]
 split
 ·rename_i h; subst h; simp [hj]
 ·rfl
theorem cN {l:List Nat} {i x k:Nat} (h:k ∈ l.set i x):k=x\/k ∈ l:=(List.mem_or_eq_of_mem_set h).symm
theorem UU {l:List Nat} (hd:l.Nodup) {i x:Nat} (hx:x ∉ l):(l.set i x).Nodup:=by
 unfold List.Nodup at hd ⊢;rw [List.pairwise_iff_getElem] at hd ⊢;intro a b ha hb hab;rw [List.length_set] at ha hb;rw [Ac,Ac]
 split
 ·rw [if_neg (by omega)];exact λe=>hx (e ▸ Ag _)
 ·split
  ·exact λe=>hx (e ▸ Ag _)
  ·exact hd a b ha hb hab
theorem IA.step {p:yA} {sts:List (List (BitVec 64))} {mv:List (List Int)} {n0:Nat} {x:AP} (h:IA p sts mv n0 x) (hr:x.r<sts.length) {m:Nat} (hm:x.nx<=m) (h2:2<=x.nx) {ob:List (Nat × Ob)}
  (hout:St.look ob 1=some ⟨1,(tC x.ks ((iA p sts mv x.r).map us)).set x.r [.yM m 1 ((tA sts x.r).length+1)]⟩) (hnew:St.look ob m=some ⟨1,us (tA sts x.r ++ [s7 p sts mv x.r])⟩)
  (hold:∀ k,k<x.nx->k≠1->k≠x.ks.getD x.r 0->St.look ob k=St.look x.xZ k):IA p sts mv n0 ⟨x.r+1,m+1,x.ks.set x.r m,ob⟩:=by
 have hl:=h.pl.zr.len;rw [γ,wE] at hl;have hnx:=h.hn;have hmk:m ∉ x.ks:=λhk=>by have:=h.lt m hk; omega
 have hmr:=sE (l:=x.ks) (i:=x.r) (by omega)
 refine⟨by show x.r+1<=_; omega,by show n0<=m+1; omega,⟨?_,?_,UU h.pl.nd hmk,by decide,λhk=>?_,λhk=>?_⟩,λk hk=>?_⟩
 ·show St.look ob 0=_;rw [hold 0 (by omega) (by decide) λe=>h.pl.xs (e ▸ hmr),h.pl.hx,wE,wE]
 ·show lg ob 1 (x.ks.set x.r m) ((iA p sts mv (x.r+1)).map us);have hsl:(iA p sts mv x.r).length=sts.length:=wE
  refine⟨?_,by rw [List.length_set,γ,wE]; exact hl,λi hi=>?_⟩
  ·have:=Qp h.pl.zr.len (i:=x.r) (by rw [γ,wE]; exact hr) m (us (tA sts x.r ++ [s7 p sts mv x.r]));rw [xI,Aa,List.length_singleton,Rf hr] at this;rw [hout,this]
  ·rw [γ,wE] at hi;rw [RZ (by omega)]
   by_cases e:x.r=i
   ·subst e;rw [if_pos rfl,hnew,qT (by rw [wE]; exact hi),aX hi,if_pos (by omega)]
   ·rw [if_neg e,hold _ (h.lt _ (sE (by omega))) (λc=>h.pl.ss (c ▸ sE (by omega))) λc=>e (bg h.pl.nd (by omega) (by omega) c.symm)];have:=h.pl.zr.each i (by rw [γ,wE]; exact hi);rw [this,qT (by rw [wE]; exact hi),qT (by rw [wE]; exact hi),aX hi,aX hi]
    by_cases c:i<x.r
    ·rw [if_pos c,if_pos (by omega)]
    ·rw [if_neg c,if_neg (by omega)]
 ·rcases cN hk with e | e
  ·omega
  ·exact h.pl.xs e
 ·rcases cN hk with e | e
  ·omega
  ·exact h.pl.ss e
 ·show k<m+1
  rcases cN hk with e | e
  ·omega
  ·have:=h.lt k e; omega
end Kb
theorem M9 {b:Nat} {ks:List Nat} {k:Nat} (h:k<b):u5 b 0 1 ks k=k:=by
 unfold u5
 by_cases h0:k=0
 ·rw [if_pos h0,h0]
 ·rw [if_neg h0]
  by_cases h1:k=1
  ·rw [if_pos h1,h1]
  ·rw [if_neg h1,if_neg (by omega)]
structure OP where
 j:Nat
 m:Nat
 kW:Nat
 ob:List (Nat × Ob)
structure IO (xZ : List (Nat × Ob)) (n1 : Nat) (own : List Int) (x : OP) : Prop where
 hj:x.j<=own.length
 hm:n1<=x.m
 kW:x.j≠0->n1<=x.kW/\x.kW<x.m/\St.look x.ob x.kW=some ⟨1,rows .i64 (own.take x.j)⟩
 sO:∀ k,k<n1->St.look x.ob k=St.look xZ k
theorem Wh {p:yA} {F:Nat} (hv:nr p F) {sts:List (List (BitVec 64))} (hR:1<=sts.length/\sts.length<=16) (hL:∀ st ∈ sts,1<=st.length/\st.length<=100) (hval:∀ st ∈ sts,∀ s ∈ st,s >>> F=0#64)
  {mv:List (List Int)} (hmA:1<=mv.length/\mv.length<=100) (hmR:∀ m ∈ mv,m.length=sts.length) (hmv:∀ m ∈ mv,∀ k ∈ m,k<p.xJ.length) {nx:Nat} (hnx:2+sts.length<=nx) :
  xY prog 121 [.ref 0 6 0 0,.sl 1 (rl mv)] ⟨nx,fg p 2 sts⟩ (.wK []) ⟨nx+sts.length,fg p nx (aF p sts mv)⟩:=by
 have hsl:(aF p sts mv).length=sts.length:=by simp [aF]
 have hP0:=vr p (Ai 2) sts;refine xY.xN mixed func121 IR (by simp) λhf=>?_;have h00:=hP0.hx;unfold Mo at h00;simp only [simprocAttr,-ZA,↓zU,↓zD,zV,zT,zW,h00]
 (repeat refine sd ?_)
 refine xP (λx:AP=>[(13,.int .i64 x.r),(12,.int .i64 sts.length),(11,.yM 1 1 sts.length),(1,.sl 1 (rl mv)),(0,.ref 0 6 0 0)]) (λx=>⟨x.nx,x.xZ⟩) (IA p sts mv nx) (λx=>sts.length-x.r)
  ⟨0,nx,ξ 2 sts.length,fg p 2 sts⟩ ⟨Aj _,Ai _,by show YN p (iA p sts mv 0) _ _ _ _; rw [V9]; exact hP0,λk hk=>by have:=Ab.1 hk; show k<nx; omega⟩ ?_ ?_
 ·(refine xT.same ?_; simp [xS,Fr.get])
 rintro ⟨r,n1,ks,xZ⟩ hI;obtain⟨hr,hn,hpl,hlt⟩:=id hI;simp only at hr hn hpl hlt;refine xM mixed ?_;by_cases hrl:r<sts.length
 case neg=>
  have hd:¬ ((r:Int)<(sts.length:Int)):=by omega
  rw [Re (by omega)] at hpl;simp only [simprocAttr,-ZA,↓zU,↓zD,zV,zT,zW,hd];have hr:=pC.TN (b:=nx) (n0:=nx) (nx:=n1) (d1:=.wK []) (d:=.wK []) hpl (by omega) (by omega) (λk hk=>M9 hk) (by simp only [vw,vI]; exact⟨trivial,trivial⟩);rw [hsl] at hr;exact hr
 have hd:((r:Int)<(sts.length:Int)):=by omega
 have hnl:=hpl.zr.len;rw [γ,wE] at hnl;have hnr:=rD hpl.zr.len;rw [γ,wE] at hnr;have hgr:=jU hpl.zr.len (i:=r) (by rw [γ,wE]; exact hrl);have hst:=aX (p:=p) (mv:=mv) (r:=r) hrl;rw [if_neg (Nat.lt_irrefl r)] at hst;rw [qT (by rw [wE]; exact hrl),hst,xI] at hgr;have hkr:=hpl.zr.each r (by rw [γ,wE]; exact hrl);rw [qT (by rw [wE]; exact hrl),hst] at hkr;have hmem:=sE (l:=ks) (i:=r) (by omega);have hkr0:ks.getD r 0≠0:=λe=>hpl.xs (e ▸ hmem);have hkr1:ks.getD r 0≠1:=λe=>hpl.ss (e ▸ hmem);have hkrn:=hlt _ hmem;have hout:=hpl.zr.out;have h0:=hpl.hx;unfold Mo at h0;rw [wE] at h0;have hstep:=λm hm ob=>@IA.step p sts mv nx ⟨r,n1,ks,xZ⟩ hI hrl m hm (by show 2<=n1; omega) ob;simp only at hstep;have hnw:s7 p sts mv r=TM p (p4 (tA sts r)) (mv.map λm=>m.getD r 0):=rfl;have hLr:1<=(tA sts r).length/\(tA sts r).length<=100:=hL _ (xL (d:=[]) hrl);have hvr:∀ s ∈ tA sts r,s >>> F=0#64:=hval _ (xL (d:=[]) hrl);have hls:=hvr (p4 (tA sts r)) (xL (by omega));have hgl:=vX (tA sts r) (show (tA sts r).length-1<_ by omega);have hwl:IntKind.i64.wrap ((tA sts r).length-1:Int)= (((tA sts r).length-1:Nat):Int):=by rw [wrap_i64 (by omega)]; omega
 have hSk:=wE (p:=p) (sts:=sts) (mv:=mv) (r:=r);change (us (tA sts r)).getD _ [] = [.int .u64 (ui (p4 (tA sts r)))] at hgl;generalize iA p sts mv r=sk at *;generalize ks.getD r 0=kr at *;generalize tA sts r=st at *;generalize p4 st=s at *;have hmd:∀ m ∈ mv,m.getD r 0<p.xJ.length:=λm hm=>hmv m hm _ (xL (by rw [hmR m hm]; exact hrl))
 have hnext:=OT hv sk hls (mv:=mv.map λm=>m.getD r 0) (by rw [γ]; omega) λk hk=>by simp only [δ] at hk;obtain⟨m,hm,rfl⟩:=hk;exact hmd m hm
 rw [<- hnw] at hnext;generalize s7 p sts mv r=y at *;have hown:(mv.map λm=>m.getD r 0).length=mv.length:=γ _;have howg:∀ j,j<mv.length->(mv.map λm=>m.getD r 0).getD j 0=(mv.getD j []).getD r 0:=λj hj=>by simp [List.getD,hj]
 generalize (mv.map λm=>m.getD r 0)= own at *;simp only [simprocAttr,-ZA,↓zU,↓zD,zV,zT,zW,hd,hout,hnr,hgr,wG]
 (repeat refine sd ?_)
 refine xP (λx:OP=>[(20,.int .i64 x.j),(19,.int .i64 mv.length),(13,.int .i64 r),(12,.int .i64 sts.length),(11,.yM 1 1 sts.length),(6,cX x.kW x.j),(5,.yM kr 1 st.length),(4,.int .i64 r),(1,.sl 1 (rl mv)),(0,.ref 0 6 0 0)]) (λx=>⟨x.m,x.ob⟩)
  (IO xZ n1 own) (λx=>mv.length-x.j) ⟨0,n1,0,xZ⟩ ⟨Aj _,Ai _,λh=>absurd rfl h,λ_ _=>rfl⟩ ?_ ?_
 ·(refine xT.same ?_; simp [xS,Fr.get,cX])
 rintro ⟨j,m,kW,ob⟩ ⟨hj,hm,hkW,hold⟩;simp only at hj hm hkW hold;have g0:St.look ob 0=some ⟨6,[[.int .i64 p.F,.sl 1 (us p.init),.sl 1 (us p.xK),.sl 1 (oB p.xJ),.sl 1 (oA p.code),.yM 1 1 sts.length]]⟩:=by rw [hold 0 (by omega)]; exact h0
 have g1:St.look ob 1=some ⟨1,tC ks (sk.map us)⟩:=by rw [hold 1 (by omega)]; exact hout
 have g2:St.look ob kr=some ⟨1,us st⟩:=by rw [hold kr hkrn]; exact hkr
 refine xM mixed ?_;by_cases hjl:j<mv.length
 case pos=>
  have hd2:((j:Int)<(mv.length:Int)):=by omega
  have hgm:=pS mv hjl;have hml:=hmR _ (xL (d:=[]) hjl);have hrm:((r:Int)<((mv.getD j []).length:Int)):=by omega
  have hge:=yP .i64 (mv.getD j []) (show r<_ by omega);rw [<- howg j hjl] at hge;have htk:=zA (d:=0) (show j<own.length by omega);generalize mv.getD j []=e at *;generalize own.getD j 0=z at *
  by_cases hj0:j=0
  ·subst hj0;have hd20:(0:Int)<(mv.length:Int):=by omega
   unfold cX;simp only [simprocAttr,-ZA,↓zU,↓zD,zV,zT,zW,hd20,wG,hgm,hrm,yO,hge]
   (repeat refine sd ?_)
   refine⟨⟨0+1,m+1,m,(m,⟨1,[[.int .i64 z]]⟩) :: ob⟩,⟨by show 0+1<=_; omega,by show n1<=m+1; omega,λ_=>⟨hm,by show m<m+1; omega,?_⟩,λk hk=>by show St.look ((m,_) :: ob) k=_; rw [xX,if_neg (by omega)]; exact hold k hk⟩,?_,by show mv.length-(0+1)<_; omega⟩
   ·show St.look ((m,_) :: ob) m=_;rw [xX,if_pos rfl];show _=some (Ob.mk 1 (rows .i64 (own.take (0+1))));rw [htk]; rfl
   ·(refine xT.same ?_; simp only [xS,Fr.get,simprocAttr,-ZA,zS,Nat.zero_add,Nat.one_ne_zero])
    all_goals rfl
  ·obtain⟨w1,w2,w3⟩:=hkW hj0;have hol:(own.take j).length=j:=by rw [Af]; omega
   unfold cX;rw [if_neg hj0];have q1:¬ (m=kW):=by omega
   have htt:(own.take j).take j=own.take j:=by rw [List.take_take,Nat.min_self]
   simp only [simprocAttr,-ZA,↓zU,↓zD,zV,zT,zW,hd2,wG,hgm,hrm,yO,hge,w3,hol,htt]
   (repeat refine sd ?_)
   refine⟨⟨j+1,m+1,m,(m,⟨1,rows .i64 (own.take j ++ [z])⟩) :: yC ob kW⟩,⟨by show j+1<=_; omega,by show n1<=m+1; omega,λ_=>⟨hm,by show m<m+1; omega,?_⟩,λk hk=>by show St.look ((m,_) :: yC ob kW) k=_; rw [xX,if_neg (by omega),xF,if_neg (by omega)]; exact hold k hk⟩,?_,by show mv.length-(j+1)<_; omega⟩
   ·show St.look ((m,_) :: _) m=_;rw [xX,if_pos rfl];show _=some (Ob.mk 1 (rows .i64 (own.take (j+1))));rw [htk]
   ·simp only [Nat.add_one_ne_zero,↓reduceIte]
    (refine xT.same ?_; simp only [xS,Fr.get,simprocAttr,-ZA,zS])
    exact wrap_i64 (by omega)
 have hd2:¬ ((j:Int)<(mv.length:Int)):=by omega
 obtain rfl:j=mv.length:=by omega
 have hj0:mv.length≠0:=by omega
 obtain⟨w1,w2,w3⟩:=hkW hj0;unfold cX;rw [if_neg hj0];have how:own.take mv.length=own:=η (by omega);rw [how] at w3
 have hKP:YN p sk 0 1 ks ob:=⟨by show _=some (Mo p 1 sk.length); rw [g0,hSk]; rfl,⟨g1,hpl.zr.len,λi hi=>by
  have hik:i<ks.length:=by have:=hpl.zr.len; omega
  rw [hold _ (hlt _ (sE hik))]; exact hpl.zr.each i hi⟩,hpl.nd,hpl.ne,hpl.xs,hpl.ss⟩
 have hcall:xY prog 183 [.ref 0 6 0 0,.int .u64 (ui s),.yM kW 1 mv.length] ⟨m,ob⟩ (.int .u64 (ui y)) ⟨m,ob⟩:=
  xY.K8 hnext ⟨hKP.seen (λh=>h) (λh=>h) λ_ _ h=>h,.pure rfl,Seen.rows w3 (λh=>h) (by decide) (by rw [yO]; omega) (λe he=>by simp only [rows,δ] at he;obtain⟨x,_,rfl⟩:=he;rfl) (tI _ _),trivial⟩ rfl
 have hlt2:(((st.length-1:Nat):Int)<(st.length:Int)):=by omega
 have hlt3:st.length-1<st.length:=by omega
 simp only [simprocAttr,-ZA,↓zU,↓zD,zV,zT,zW,hd2,↓SH]
 (refine VF mixed ?_; simp only [simprocAttr,-ZA,↓zU,↓zD,zV,zT,zW,↓L1,↓Xr,↓jd,↓qb,g0,g1,g2,hwl,hgl,hlt2,hlt3,xI])
 (repeat refine sd ?_)
 refine zj.go hcall ?_;have e0:St.look (yC ob kr) 0=some ⟨6,[[.int .i64 p.F,.sl 1 (us p.init),.sl 1 (us p.xK),.sl 1 (oB p.xJ),.sl 1 (oA p.code),.yM 1 1 sts.length]]⟩:=by rw [xF,if_neg hkr0]; exact g0
 have e1:St.look (yC ob kr) 1=some ⟨1,tC ks (sk.map us)⟩:=by rw [xF,if_neg hkr1]; exact g1
 have q0:¬ (m=0):=by omega
 have q1:¬ (m=1):=by omega
 have q2:¬ (m=kr):=by omega
 have htk:(us st).take st.length=us st:=η (by rw [xI]; exact Ai _)
 (simp only [simprocAttr,-ZA,↓zU,↓zD,zV,zT,zW,↓L1,↓Xr,↓jd,↓qb,g0,g1,g2,e0,e1,q0,q1,q2,xI,htk,hnr,hgr,hd,cv])
 (repeat refine sd ?_)
 refine⟨⟨r+1,m+1,ks.set r m,(m,⟨1,us (st ++ [y])⟩) :: zL (yC ob kr) 1 ⟨1,(tC ks (sk.map us)).set r [.yM m 1 (st.length+1)]⟩⟩,hstep m hm _ ?_ ?_ λk hk h1 h2=>?_,?_,by show sts.length-(r+1)<_; omega⟩
 ·rw [xX,if_neg q1,xU,if_pos rfl,e1]; rfl
 ·rw [xX,if_pos rfl]
 ·rw [xX,if_neg (by omega),xU,if_neg (λe=>h1 e.symm),xF,if_neg (λe=>h2 e.symm)];exact hold k hk
 ·(refine xT.same ?_; simp only [xS,Fr.get,simprocAttr,-ZA,zS])
  exact wrap_i64 (by omega)
open Rs Fm Ru Te Kb
namespace Kb
def vE (p:yA):Nat->List (List (BitVec 64))
 | 0=>bZ p
 | n+1=>aF p (vE p n) (nV p (vE p n) n)
theorem NX {x:BitVec 64} {F:Nat}:x >>> F=0#64 ↔ ∀ i,F<=i->x.getLsbD i=false:=by
 constructor
 ·intro h i hi;have:=congrArg (λy:BitVec 64=>y.getLsbD (i-F)) h;simp only [Ap,Ao] at this
  rwa [show F+(i-F)= i by omega] at this
 ·intro h;refine Aq λi _=>?_;rw [Ap,Ao];exact h _ (by omega)
theorem Pu {A F:Nat} {s0 out:BitVec 64} {a:gZ} (ho:out >>> F=0#64) (hf:a.fact.toNat<F):uq A s0 out a >>> F=0#64:=by
 rw [NX] at ho ⊢;intro i hi;unfold uq;rw [BitVec.getLsbD_or,BitVec.getLsbD_and,ho i hi,Ar,Bool.false_or]
 split
 ·rw [BitVec.getLsbD_shiftLeft]
  by_cases h:i<64
  ·rw [show (1#64).getLsbD (i-a.fact.toNat)= false by
    have:i-a.fact.toNat≠0:=by omega
    simp [this]]
   simp
  ·simp [h]
 ·exact Ao
theorem Qr {p:yA} {F:Nat} (hv:nr p F) {s:BitVec 64} (hs:s >>> F=0#64) {mv:List Int} (hmv:∀ k ∈ mv,k<p.xJ.length):TM p s mv >>> F=0#64:=by
 have key:∀ (l:List Int) (out:BitVec 64),(∀ k ∈ l,k<p.xJ.length)->out >>> F=0#64->l.foldl (wi p s) out >>> F=0#64:=by
  intro l
  induction l with
  | nil=>intro out _ h; exact h
  | cons k r ih=>
   intro out hk h;refine ih _ (λk hk2=>hk k (by simp [hk2])) ?_;unfold wi
   split
   ·exact h
   ·have hkm:=hk k (by simp);have hm:=xL (l:=p.xJ) (d:=[]) (k:=k.toNat) (by omega);generalize p.xJ.getD k.toNat []=m at hm
    have:∀ (l:List gZ) (out:BitVec 64),(∀ a ∈ l,nT p a=0)->out >>> F=0#64->l.foldl (uq p.xK.length s) out >>> F=0#64:=by
     intro l
     induction l with
     | nil=>intro out _ h; exact h
     | cons a r ih2=> intro out ha h;have h1:=XD hv.fe (ha a (by simp));exact ih2 _ (λb hb=>ha b (by simp [hb])) (Pu h (by omega))
    exact this m out (hv.mv m hm) h
 exact key mv s hmv hs
theorem Xt {p:yA} {sts:List (List (BitVec 64))} {t a w:Nat}:∀ {l:List aH},(∀ c ∈ l,jG p c=0)->sJ p.xK sts t a w l<p.xJ.length /\ -1<=sJ p.xK sts t a w l
 | [],_=>⟨by unfold sJ; omega,by unfold sJ; omega⟩
 | c :: r,h=>by
  unfold sJ
  split
  ·have:=h c (by simp);unfold jG at this
   split at this
   ·rename_i h1; exact absurd this h1
   ·split at this
    ·cases this
    ·rename_i h2; omega
  ·exact Xt λd hd=>h d (by simp [hd])
theorem Ub (p:yA) (sts:List (List (BitVec 64))) (t:Nat):(nV p sts t).length=p.xK.length:=by simp [nV]
theorem je {p:yA} {sts:List (List (BitVec 64))} {t:Nat}:∀ m ∈ nV p sts t,m.length=sts.length:=λm hm=>by simp only [nV,δ] at hm;obtain⟨a,_,rfl⟩:=hm;simp
theorem Xu {p:yA} {F:Nat} (hv:nr p F) {sts:List (List (BitVec 64))} {t:Nat}:∀ m ∈ nV p sts t,∀ k ∈ m,k<p.xJ.length:=λm hm k hk=>by simp only [nV,δ,ζ] at hm;obtain⟨a,ha,rfl⟩:=hm;simp only [δ] at hk;obtain⟨w,_,rfl⟩:=hk;exact(Xt λc hc=>hv.code _ (xL (d:=[]) (by rw [hv.hC]; exact ha)) c hc).1
structure YO (p : yA) (F : Nat) (sts : List (List (BitVec 64))) (n : Nat) : Prop where
 len:sts.length=p.init.length
 run:∀ st ∈ sts,st.length=n+1
 val:∀ st ∈ sts,∀ s ∈ st,s >>> F=0#64
theorem YO.EN {p:yA} {F:Nat} (hv:nr p F):YO p F (bZ p) 0 where
 len:=by simp [bZ]
 run:=λst hs=>by simp only [bZ,δ] at hs;obtain⟨s,_,rfl⟩:=hs;rfl
 val:=λst hs s hs2=>by simp only [bZ,δ] at hs;obtain⟨x,hx,rfl⟩:=hs;rw [θ.1 hs2];exact hv.init x hx
theorem lT {sts:List (List (BitVec 64))} {i:Nat} (h:i<sts.length):tA sts i ∈ sts:=xL h
theorem YO.step {p:yA} {F:Nat} (hv:nr p F) {sts:List (List (BitVec 64))} {n:Nat} (h:YO p F sts n) {mv:List (List Int)} (hmR:∀ m ∈ mv,m.length=sts.length) (hmv:∀ m ∈ mv,∀ k ∈ m,k<p.xJ.length):YO p F (aF p sts mv) (n+1) where
 len:=by rw [<- h.len]; simp [aF]
 run:=λst hs=>by simp only [aF,δ,ζ] at hs;obtain⟨i,hi,rfl⟩:=hs;rw [Aa,h.run _ (lT hi)];rfl
 val:=λst hs s hs2=>by
  simp only [aF,δ,ζ] at hs;obtain⟨i,hi,rfl⟩:=hs;have hr:=h.run _ (lT hi)
  rcases υ.1 hs2 with h1 | h1
  ·exact h.val _ (lT hi) s h1
  ·rw [θ.1 h1];refine Qr hv (h.val _ (lT hi) _ (xL (by omega))) λk hk=>?_;simp only [δ] at hk;obtain⟨m,hm,rfl⟩:=hk;exact hmv m hm _ (xL (by rw [hmR m hm]; exact hi))
theorem YO.TG {p:yA} {F:Nat} (hv:nr p F) {sts:List (List (BitVec 64))} {n t:Nat} (h:YO p F sts n) (ht:t<=n) (hn:n<=1000):NH p F sts t:=⟨hv.fe,hv.hF,hv.hA,by rw [h.len]; exact hv.hI,λst hs=>by rw [h.run st hs]; omega,by omega,h.val⟩
theorem bL {p:yA} {F:Nat} (hv:nr p F):∀ n,YO p F (vE p n) n
 | 0=>YO.EN hv
 | n+1=>YO.step hv (bL hv n) je (Xu hv)
theorem R6 {p:yA} {F:Nat} (hv:nr p F) (n:Nat):(vE p n).length=p.init.length:=(bL hv n).len
theorem YN.shift {p:yA} {sts:List (List (BitVec 64))} {kx kS c:Nat} {ks:List Nat} {xZ r:List (Nat × Ob)} (h:YN p sts kx kS ks xZ):YN p sts (c+kx) (c+kS) (ks.map (c + ·)) (zN c xZ++r) where
 hx:=by rw [qJ,oD c h.hx]; rfl
 zr:=Go.Pd.lg.shift h.zr λe he r hr=>(WN e he r hr).2
 nd:=by have:=h.nd;unfold List.Nodup at this ⊢;rw [List.pairwise_map];exact this.imp λh e=>h (by omega)
 ne:=λe=>h.ne (by omega)
 xs:=λhk=>by simp only [δ] at hk;obtain⟨k,hk,e⟩:=hk;exact h.xs ((show k=kx by omega) ▸ hk)
 ss:=λhk=>by simp only [δ] at hk;obtain⟨k,hk,e⟩:=hk;exact h.ss ((show k=kS by omega) ▸ hk)
end Kb
theorem Xq {p:yA} {b nx:Nat} (hb:2<=b) {sts:List (List (BitVec 64))} {K:Nat->Prop} (hK:∀ k,¬ K k):Seen ⟨nx,fg p b sts⟩ K (.ref 0 6 0 0) (wm p sts):=(vr p hb sts).seen (hK 0) (hK 1) λk _=>hK k
theorem pq {mv:List (List Int)}:∀ e ∈ mv.map (rows .i64),∀ r ∈ e,r.length=1/\D.xR r=true:=λe he r hr=>by simp only [δ] at he;obtain⟨s,_,rfl⟩:=he;refine⟨?_,tI _ s r hr⟩;simp only [rows,δ] at hr;obtain⟨x,_,rfl⟩:=hr;rfl
theorem Qc {mv:List (List Int)}:∀ e ∈ mv.map (rows .i64),∀ r ∈ e,D.We r=true:=λe he r hr=>by simp only [δ] at he;obtain⟨s,_,rfl⟩:=he;simp only [rows,δ] at hr;obtain⟨x,_,rfl⟩:=hr;simp [D.We,D.fl]
theorem ZF {g:FuncId} {args args':List D} {mv:List (List Int)} {nx n:Nat} {ob:List (Nat × Ob)} (hn:n=mv.length) (hc:xY prog g args' gY (.yM 0 1 n) ⟨1+n,uu (mv.map (rows .i64))⟩) (hl:kC ⟨nx,ob⟩ (λ_=>False) args args') :
  xY prog g args ⟨nx,ob⟩ (.sl 1 (rl mv)) ⟨nx+(1+n),ob⟩:=by
 subst hn;refine xY.QN hc hl (by simp [D.fl]) (OW Qc) ?_;have hN:=lg.shift (c:=nx) (r:=ob) (Qq (mv.map (rows .i64))) λe he r hr=>(pq e he r hr).2
 have:=lg.seen (nx:=nx+(1+mv.length)) (K:=λk=>k<nx) (n:=mv.length) hN (γ _).symm (by omega) (λk hk=>by simp only [δ] at hk;obtain⟨j,_,rfl⟩:=hk;omega) pq
 rw [M5] at this;exact this
theorem R7 {p:yA} {F:Nat} (hv:nr p F) {n:Nat} (hn:n<=100):yU prog 69 [p.d,.int .i64 ((n+1:Nat):Int)] (wm p (vE p n)):=by
 have hB:=Pv hv;have hI:=hv.hI;have hA:=hv.hA;have hD:p.d = .agg [.int .i64 p.F,.sl 1 (us p.init),.sl 1 (us p.xK),.sl 1 (oB p.xJ),.sl 1 (oA p.code)]:=rfl;have hw:IntKind.i64.wrap (((n+1:Nat):Int)-1)= (n:Int):=by rw [wrap_i64 (by omega)]; omega
 have hB1:=xY.own (σ:=⟨1,[(0,⟨5,[p.cells]⟩)]⟩) hB (by simp [D.xR,D.xD,yA.d,yA.cells]);have hlen:=λt=>R6 hv t;have hPS:=(vr p (Ai 2) (bZ p)).shift (c:=1) (r:=[(0,⟨5,[p.cells]⟩)]);have hbl:(bZ p).length=p.init.length:=by simp [bZ]
 unfold yA.cells at hB1 hPS;rw [hD] at *;refine xY.xN mixed func69 Fj (by simp) λhf=>?_;simp only [simprocAttr,-ZA,↓zU,↓zD,zV,zT,zW]
 (repeat refine sd ?_)
 refine .go hB1 ?_;simp only [simprocAttr,-ZA,↓zU,↓zD,zV,zT,zW,hw]
 refine uZ (λt:Nat=>[(11,.int .i64 t),(10,.int .i64 n),(5,.ref 0 6 0 0)]) (λt=>⟨2+(vE p t).length,fg p 2 (vE p t)⟩) (λt=>t<=n) (λt=>n-t) 0 (Aj _) ?_ ?_
 ·refine xT.TN hPS (Ai _) (Aj _) (λk hk=>absurd hk (Al _)) ?_;simp only [YR,vw,Fr.get,↓reduceIte,reduceIte,Ak,D.shift,and_true,true_and];exact⟨rfl,by omega,rfl⟩
 intro t ht;refine xM mixed ?_;have hS:=bL hv t;have hl:=hlen t;by_cases htn:t<n
 case neg=>
  have hd:¬ ((t:Int)<(n:Int)):=by omega
  obtain rfl:t=n:=by omega
  simp only [simprocAttr,-ZA,↓zU,↓zD,zV,zT,zW,hd]
  refine .go [(5,wm p (vE p t))] ⟨2+(vE p t).length,[]⟩ ?_ ?_
  ·refine xT.deep (λ_=>False) trivial ⟨.inr ?_,trivial⟩;exact Xq (Ai 2) λ_ h=>h
  simp only [simprocAttr,-ZA,↓zU,↓zD,zV,zT,zW];exact .drop (by simp) (by simp [vw,wm])
 have hd:((t:Int)<(n:Int)):=by omega
 have h76:=w9 hv (hS.TG hv (Ai t) (by omega));have hpl:=Ub p (vE p t) t;have h76l:=ZF (nx:=2+(vE p t).length) (ob:=fg p 2 (vE p t)) (args:=[.ref 0 6 0 0,.int .i64 t]) hpl.symm h76 ⟨Xq (Ai 2) λ_ h=>h,.pure rfl,trivial⟩;have h121:=Wh hv (sts:=vE p t) (by rw [hl]; exact hI) (λst hs=>by rw [hS.run st hs]; omega) hS.val (mv:=nV p (vE p t) t) (by rw [hpl]; omega) je (Xu hv) (nx:=2+(vE p t).length+(1+p.xK.length)) (by omega);have hnext:vE p (t+1)= aF p (vE p t) (nV p (vE p t) t):=rfl;have hsl:(aF p (vE p t) (nV p (vE p t) t)).length=(vE p t).length:=by simp [aF]
 have hPI:=vr p (b:=2+(vE p t).length+(1+p.xK.length)) (by omega) (aF p (vE p t) (nV p (vE p t) t));simp only [simprocAttr,-ZA,↓zU,↓zD,zV,zT,zW,hd];refine .go h76l ?_;simp only [simprocAttr,-ZA,↓zU,↓zD,zV,zT,zW];refine .go h121 ?_;simp only [simprocAttr,-ZA,↓zU,↓zD,zV,zT,zW];refine⟨t+1,by omega,?_,by omega⟩;rw [hnext];refine xT.TN hPI (Ai _) (Aj _) (λk hk=>absurd hk (Al _)) ?_;simp only [YR,vw,Fr.get,↓reduceIte,reduceIte,Ak,and_true,true_and];exact⟨by rw [wrap_i64 (by omega)]; rfl,by omega,rfl⟩
open Rs Fm Ru Te Kb
namespace Kb
def nY (xK:List (BitVec 64)) (sts:List (List (BitVec 64))) (a:Nat) (q:Nat × Nat):List Int:=(rM xK (tA sts q.1) a q.2).map ui
def p8 (xK:List (BitVec 64)) (sts:List (List (BitVec 64))) (T a:Nat):List (List Int):=dedup (tK ((rO T (sts.length*T)).map (nY xK sts a)))
theorem WG : pI [] = []:=rfl
end Kb
theorem pN {k:Nat} (h:k<=1000000000):IntKind.i64.wrap ((k:Int)+ 1)= ((k+1:Nat):Int):=by rw [wrap_i64 (by omega)]; rfl
theorem Yf {p:yA} {sts:List (List (BitVec 64))} {a T:Nat} (ha:a<p.xK.length) (hT:1<=T/\T<=16) (hR:1<=sts.length/\sts.length<=16) (hl:∀ st ∈ sts,T<=st.length) :
  yU prog 73 [wm p sts,.int .i64 a,.int .i64 (T-1:Int)] (.sl 1 (pI (p8 p.xK sts T a))):=by
 have hh:∀ r t,r<sts.length->t<T->yU prog 75 [wm p sts,.int .i64 a,.int .i64 r,.int .i64 t] (.sl 1 (rows .u64 (nY p.xK sts a (r,t)))):=λr t hr ht=>by have:=xa (yp p ha hr (show t<(sts.getD r []).length by have:=hl _ (xL (d:=[]) hr); omega) (by omega));rw [vv] at this;exact this
 have hne:1<=sts.length*T:=An hR.1 hT.1;have hle:sts.length*T<=16*16:=An hR.2 hT.2;have hw0:IntKind.i64.wrap (((T:Int)-1)+ 1)= (T:Int):=by rw [wrap_i64 (by omega)]; omega
 unfold p8;generalize nY p.xK sts a=kf at *;have hlen:((rO T (sts.length*T)).map kf).length=sts.length*T:=by rw [γ,rV]
 unfold wm Pj at *;refine xY.xN mixed func73 Fl (by simp) λhf=>?_;simp only [simprocAttr,-ZA,↓zU,↓zD,zV,zT,zW,zE]
 refine xP (λr:Nat=>[(15,.int .i64 r),(14,.int .i64 sts.length),(7,xB 0 1 (pI ((rO T (r*T)).map kf))),(2,.int .i64 (T-1:Int)),(1,.int .i64 a),(0,.ptr [.int .i64 p.F,.sl 1 (us p.init),.sl 1 (us p.xK),.sl 1 (oB p.xJ),.sl 1 (oA p.code),.sl 1 (rr sts)])])
  (λr=>⟨1,yZ 0 1 (pI ((rO T (r*T)).map kf))⟩) (λr=>r<=sts.length) (λr=>sts.length-r) 0 (Aj _) ?_ ?_
 ·(refine xT.tP [] [] (by simp) (by simp) (by decide) ?_; simp only [yQ,zQ,simprocAttr,-ZA,exists_eq_left',ne_eq,zR,rO,Nat.zero_mul,ν,π,WG,wR,wS])
 intro r hr;refine xM mixed ?_;by_cases hrl:r<sts.length
 case neg=>
  have hd:¬ ((r:Int)<(sts.length:Int)):=by omega
  obtain rfl:r=sts.length:=by omega
  generalize (rO T (sts.length*T)).map kf=l at *;have hln:l ≠ []:=λc=>by rw [c] at hlen; simp at hlen; omega
  have hln2:pI l ≠ []:=λc=>hln (by simpa [pI] using c);rw [mP hln2,qx hln2,tR];have hs:=Yp (σ:=⟨1,[(0,⟨1,pI l⟩)]⟩) (key:=0) (l:=l) rfl hln (by omega);have hal:(tK l).length=l.length:=(jI l).length_eq;have hc:=Wu (σ:=⟨1,[(0,⟨1,pI (tK l)⟩)]⟩) (key:=0) (l:=tK l) rfl (by omega) (λc=>by rw [c] at hal; simp at hal; omega);rw [hal] at hc;simp only [simprocAttr,-ZA,↓zU,↓zD,zV,zT,zW,hd];refine .go hs ?_;simp only [simprocAttr,-ZA,↓zU,↓zD,zV,zT,zW];refine .go hc ?_;simp only [simprocAttr,-ZA,↓zU,↓zD,zV,zT,zW];exact .drop (by simp) (ml (by decide) (sj _) (by unfold YA; rw [Aa,tR]; omega) (by unfold YA; rw [List.take_left' (tR _)]))
 have hd:((r:Int)<(sts.length:Int)):=by omega
 simp only [simprocAttr,-ZA,↓zU,↓zD,zV,zT,zW,hd,hw0]
 refine xP (λt:Nat=>[(20,.int .i64 t),(19,.int .i64 T),(15,.int .i64 r),(14,.int .i64 sts.length),(8,.int .i64 r),(7,xB 0 1 (pI ((rO T (r*T+t)).map kf))),(2,.int .i64 (T-1:Int)),(1,.int .i64 a),(0,.ptr [.int .i64 p.F,.sl 1 (us p.init),.sl 1 (us p.xK),.sl 1 (oB p.xJ),.sl 1 (oA p.code),.sl 1 (rr sts)])])
  (λt=>⟨1,yZ 0 1 (pI ((rO T (r*T+t)).map kf))⟩) (λt=>t<=T) (λt=>T-t) 0 (Aj _) ?_ ?_
 ·(refine xT.same ?_; simp only [xS,Fr.get,simprocAttr,-ZA,zS,Nat.add_zero])
  all_goals rfl
 intro t ht;refine xM mixed ?_;by_cases htl:t<T
 case neg=>
  have hd2:¬ ((t:Int)<(T:Int)):=by omega
  obtain rfl:t=T:=by omega
  simp only [simprocAttr,-ZA,↓zU,↓zD,zV,zT,zW,hd2];refine⟨r+1,by omega,?_,by omega⟩;rw [show (r+1)* t=r*t+t by rw [Nat.succ_mul]]
  (refine xT.same ?_; simp only [xS,Fr.get,simprocAttr,-ZA,zS])
  exact pN (by omega)
 have hd2:((t:Int)<(T:Int)):=by omega
 have hs:(rO T (r*T+(t+1))).map kf=(rO T (r*T+t)).map kf ++ [kf (r,t)]:=by rw [Xv T r t htl,μ]; rfl
 have hlk:((rO T (r*T+t)).map kf).length=r*T+t:=by rw [γ,rV]
 have hle2:r*T+t<=16*16:=by have:=Nat.mul_le_mul_right T (show r+1<=sts.length from hrl);rw [Nat.succ_mul] at this;omega
 have h75:=hh r t hrl htl;generalize (rO T (r*T+t)).map kf=l at *;generalize kf (r,t)= x at *;simp only [simprocAttr,-ZA,↓zU,↓zD,zV,zT,zW,hd2];refine .go (cr h75) ?_;simp only [simprocAttr,-ZA,↓zU,↓zD,zV,zT,zW,tR,hlk]
 (repeat refine sd ?_)
 refine⟨t+1,by omega,?_,by omega⟩;rw [hs]
 (refine xT.tP [(0,1)] [0] (by simp) (by simp) (by decide) ?_; simp only [yQ,zQ,simprocAttr,-ZA,exists_eq_left',ne_eq,zR,RK,Ud])
 exact pN (by omega)
open Rs Fm Ru Te Kb
namespace Kb
def ue (sts:List (List (BitVec 64))):List xC:=sts.map λst=>⟨[],st⟩
def pD (xK:List (BitVec 64)) (sts:List (List (BitVec 64))) (T:Nat):List xC:=lG (ue sts) xK.length T (nY xK sts)
def lp (l:List (List (List Int))):List (List D):=l.map λm=>[.sl 1 (pI m)]
theorem WE (l:List (List (List Int))):(lp l).length=l.length:=by simp [lp]
theorem Oz {l:List (List (List Int))} {i:Nat} (h:i<l.length):(lp l).getD i [] = [.sl 1 (pI (l.getD i []))]:=by simp [lp,List.getD,h]
theorem RI (l:List (List (List Int))) (m:List (List Int)):lp l ++ [[.sl 1 (pI m)]]=lp (l ++ [m]):=by simp [lp]
theorem RH (l:List (List (List Int))):∀ e ∈ lp l,D.xR e=true:=by intro e he;simp only [lp,δ] at he;obtain⟨m,_,rfl⟩:=he;rfl
theorem jf (l:List (List (List Int))):tW (lp l):=RH l
theorem Oy : lp [] = []:=rfl
theorem Uw (l:List xC) (r:xC):zK l ++ [[.sl 1 (rl r.loc),.sl 1 (us r.nW)]]=zK (l ++ [r]):=by simp [zK,xC.row]
theorem rX (l:List xC):tW (zK l):=jk l
theorem RQ : zK [] = []:=rfl
theorem gB (sts:List (List (BitVec 64))):(ue sts).length=sts.length:=by simp [ue]
theorem jZ (xK:List (BitVec 64)) (sts:List (List (BitVec 64))) (T:Nat):(pD xK sts T).length=sts.length:=by unfold pD; rw [aZ,gB]
theorem l5 {xK:List (BitVec 64)} {sts:List (List (BitVec 64))} {T i:Nat} (hi:i<sts.length) :
  (pD xK sts T).getD i uX=⟨(List.range T).map λt=>(List.range xK.length).map λa=>((below (p8 xK sts T a) (nY xK sts a (i,t)):Nat):Int),tA sts i⟩:=by
 unfold pD lG;rw [Xx (by rw [gB]; exact hi),gB];have:((ue sts).getD i uX).nW=tA sts i:=by simp [ue,tA,List.getD,hi]
 rw [this];rfl
end Kb
theorem Zi {α:Type} {l:List α} {k:Nat} {d:α} (h:k<l.length):l.take (k+1)= l.take k ++ [l.getD k d]:=zA h
theorem Ri {p:yA} {F:Nat} (hv:nr p F) {sts:List (List (BitVec 64))} {T:Nat} (hT:1<=T/\T<=16) (hR:1<=sts.length/\sts.length<=16) (hl:∀ st ∈ sts,st.length=T) :
  yU prog 70 [wm p sts] (sD p.xK.length F T (pD p.xK sts T)):=by
 have hA:=hv.hA
 have hh:∀ a r t,a<p.xK.length->r<sts.length->t<T->yU prog 75 [wm p sts,.int .i64 a,.int .i64 r,.int .i64 t] (.sl 1 (rows .u64 (nY p.xK sts a (r,t)))):=λa r t ha hr ht=>by have:=xa (yp p ha hr (show t<(sts.getD r []).length by have:=hl _ (xL (d:=[]) hr); omega) (by omega));rw [vv] at this;exact this
 have hw1:IntKind.i64.wrap ((T:Int)-1)= ((T:Int)-1):=wrap_i64 (by omega);have h73:=λa ha=>Yf (p:=p) (sts:=sts) (a:=a) (T:=T) ha hT hR λst hs=>by rw [hl st hs]; exact Ai _
 have hasc:∀ a,fc (p8 p.xK sts T a):=λa=>gj (qn _)
 have hak:∀ a,(p8 p.xK sts T a).length<=1000:=λa=>by have h1:(p8 p.xK sts T a).length<=(tK ((rO T (sts.length*T)).map (nY p.xK sts a))).length:=az _ _;have h2:=(jI ((rO T (sts.length*T)).map (nY p.xK sts a))).length_eq;rw [γ,rV] at h2;have hle:sts.length*T<=16*16:=An hR.2 hT.2;omega
 have hS:=λi (hi:i<sts.length)=>l5 (xK:=p.xK) (T:=T) hi;have hSl:=jZ p.xK sts T;have hst:∀ r,r<sts.length->(tA sts r).length=T:=λr hr=>hl _ (xL (d:=[]) hr);generalize nY p.xK sts=kf at *;generalize p8 p.xK sts T=al at *;generalize pD p.xK sts T=S at *;have hg0:=nC sts (show 0<sts.length by omega);have hd0:(0:Int)<(sts.length:Int):=by omega
 have hl0:=hst 0 (by omega);unfold tA at hl0;unfold wm Pj sD at *;rw [hv.fe] at *;refine xY.xN mixed func70 Fk (by simp) λhf=>?_;simp only [simprocAttr,-ZA,↓zU,↓zD,zV,zT,zW,zE,hd0,hg0,xI,hl0]
 (repeat refine sd ?_)
 refine uZ (λa:Nat=>[(41,.int .i64 a),(40,.int .i64 p.xK.length),(5,xB 2 1 (lp ((List.range a).map al))),(4,.ref 1 4 0 0),(3,.int .i64 T),(2,.ref 0 4 0 0),(0,.ptr [.int .i64 F,.sl 1 (us p.init),.sl 1 (us p.xK),.sl 1 (oB p.xJ),.sl 1 (oA p.code),.sl 1 (rr sts)])])
  (λa=>⟨3,yZ 2 1 (lp ((List.range a).map al))++ [(1,⟨4,[[.int .i64 p.xK.length,.int .i64 F,.int .i64 T,.xO]]⟩),(0,⟨4,[[.int .i64 0,.int .i64 0,.int .i64 0,.xO]]⟩)]⟩) (λa=>a<=p.xK.length) (λa=>p.xK.length-a) 0 (Aj _) ?_ ?_
 ·(refine xT.tP [] [1,0] (by simp) (by simp) (by decide) ?_; simp only [yQ,zQ,simprocAttr,-ZA,exists_eq_left',ne_eq,zR,ν,π,Oy,wR,wS,κ])
 intro a ha;refine xM mixed ?_;by_cases hal:a<p.xK.length
 case pos=>
  have hd:((a:Int)<(p.xK.length:Int)):=by omega
  have h1:=h73 a hal;have hsu:(List.range (a+1)).map al=(List.range a).map al ++ [al a]:=by rw [τ,μ]; rfl
  have hla:((List.range a).map al).length=a:=by simp
  generalize (List.range a).map al=L at *;simp only [simprocAttr,-ZA,↓zU,↓zD,zV,zT,zW,hd,hw1];refine .go (cr h1) ?_;simp only [simprocAttr,-ZA,↓zU,↓zD,zV,zT,zW,WE,hla]
  (repeat refine sd ?_)
  refine⟨a+1,by omega,?_,by omega⟩;rw [hsu]
  (refine xT.tP [(2,3)] [2,1,0] (by simp) (by simp) (by decide) ?_; simp only [yQ,zQ,simprocAttr,-ZA,exists_eq_left',ne_eq,zR,RI,jf])
  exact pN (by omega)
 have hd:¬ ((a:Int)<(p.xK.length:Int)):=by omega
 obtain rfl:a=p.xK.length:=by omega
 have hlal:((List.range p.xK.length).map al).length=p.xK.length:=by simp
 have hgal:∀ a,a<p.xK.length->(lp ((List.range p.xK.length).map al)).getD a [] = [.sl 1 (pI (al a))]:=λa ha=>by rw [Oz (by rw [hlal]; exact ha)]; simp [List.getD,ha]
 generalize (List.range p.xK.length).map al=L at *;simp only [simprocAttr,-ZA,↓zU,↓zD,zV,zT,zW,hd]
 refine .go [(5,.sl 1 (lp L)),(4,.ref 1 4 0 0),(3,.int .i64 T),(2,.ref 0 4 0 0),(0,.ptr [.int .i64 F,.sl 1 (us p.init),.sl 1 (us p.xK),.sl 1 (oB p.xJ),.sl 1 (oA p.code),.sl 1 (rr sts)])] ⟨2,[(1,⟨4,[[.int .i64 p.xK.length,.int .i64 F,.int .i64 T,.xO]]⟩),(0,⟨4,[[.int .i64 0,.int .i64 0,.int .i64 0,.xO]]⟩)]⟩ ?_ ?_
 ·(refine xT.tP [] [1,0] (by simp) (by simp) (by decide) ?_; simp only [yQ,zQ,simprocAttr,-ZA,exists_eq_left',ne_eq,zR,jf])
 simp only [simprocAttr,-ZA,↓zU,↓zD,zV,zT,zW,zE]
 refine xP (λr:Nat=>[(58,.int .i64 r),(57,.int .i64 sts.length),(56,.sl 1 (rr sts)),(5,.sl 1 (lp L)),(4,.ref 1 4 0 0),(3,.int .i64 T),(2,.ref 0 4 0 0),(0,.ptr [.int .i64 F,.sl 1 (us p.init),.sl 1 (us p.xK),.sl 1 (oB p.xJ),.sl 1 (oA p.code),.sl 1 (rr sts)])])
  (λr=>⟨3,yZ 2 2 (zK (S.take r))++ [(1,⟨4,[[.int .i64 p.xK.length,.int .i64 F,.int .i64 T,xB 2 2 (zK (S.take r))]]⟩),(0,⟨4,[[.int .i64 0,.int .i64 0,.int .i64 0,.xO]]⟩)]⟩) (λr=>r<=sts.length) (λr=>sts.length-r) 0 (Aj _) ?_ ?_
 ·(refine xT.tP [] [1,0] (by simp) (by simp) (by decide) ?_; simp only [yQ,zQ,simprocAttr,-ZA,exists_eq_left',ne_eq,zR,List.take_zero,RQ,wR,wS,κ])
 intro r hr;refine xM mixed ?_;by_cases hrl:r<sts.length
 case neg=>
  have hd2:¬ ((r:Int)<(sts.length:Int)):=by omega
  rw [η (show S.length<=r by omega)];simp only [simprocAttr,-ZA,↓zU,↓zD,zV,zT,zW,hd2]
  (refine pC.tP [] [] (by simp) (by simp) (by decide) ?_; simp only [yQ,zQ,simprocAttr,-ZA,exists_eq_left',ne_eq,zR,rX])
 have hd2:((r:Int)<(sts.length:Int)):=by omega
 have hgr:=nC sts hrl;have hlr:=hst r hrl;have hSr:=hS r hrl;have hSs:=Zi (l:=S) (d:=uX) (show r<S.length by omega);rw [hSr] at hSs;have hSl2:(S.take r).length=r:=by rw [Af]; omega
 unfold tA at hlr hSs;have hcl:=Vu (c:=sts.getD r []) (by omega) (by omega);generalize sts.getD r []=st at *;generalize S.take r=S0 at *;simp only [simprocAttr,-ZA,↓zU,↓zD,zV,zT,zW,hd2,zE,hgr]
 (repeat refine sd ?_)
 refine .go (cr hcl) ?_;simp only [simprocAttr,-ZA,↓zU,↓zD,zV,zT,zW]
 (repeat refine sd ?_)
 let lrow:Nat->List Int:=(λt=>(List.range p.xK.length).map λa=>((below (al a) (kf a (r,t)):Nat):Int))
 have hlw:((List.range T).map λt=>(List.range p.xK.length).map λa=>((below (al a) (kf a (r,t)):Nat):Int))= (List.range T).map lrow:=rfl;rw [hlw] at hSs
 refine uZ (λt:Nat=>[(67,.int .i64 t),(66,.int .i64 T),(58,.int .i64 r),(57,.int .i64 sts.length),(56,.sl 1 (rr sts)),(9,.ref 3 2 0 0),(7,.int .i64 r),(5,.sl 1 (lp L)),(4,.ref 1 4 0 0),(3,.int .i64 T),(2,.ref 0 4 0 0),(0,.ptr [.int .i64 F,.sl 1 (us p.init),.sl 1 (us p.xK),.sl 1 (oB p.xJ),.sl 1 (oA p.code),.sl 1 (rr sts)])])
  (λt=>⟨5,yZ 4 1 (rl ((List.range t).map lrow))++ ((3,⟨2,[[xB 4 1 (rl ((List.range t).map lrow)),.sl 1 (us st)]]⟩) :: (yZ 2 2 (zK S0)++ [(1,⟨4,[[.int .i64 p.xK.length,.int .i64 F,.int .i64 T,xB 2 2 (zK S0)]]⟩),(0,⟨4,[[.int .i64 0,.int .i64 0,.int .i64 0,.xO]]⟩)]))⟩) (λt=>t<=T) (λt=>T-t) 0 (Aj _) ?_ ?_
 ·(refine xT.tP [] [3,2,1,0] (by simp) (by simp) (by decide) ?_; simp only [yQ,zQ,simprocAttr,-ZA,exists_eq_left',ne_eq,zR,ν,π,MB,wR,wS,κ,rX])
 intro t ht;refine xM mixed ?_;by_cases htl:t<T
 case neg=>
  have hd3:¬ ((t:Int)<(T:Int)):=by omega
  obtain rfl:t=T:=by omega
  generalize (List.range t).map lrow=LL at *;simp only [simprocAttr,-ZA,↓zU,↓zD,zV,zT,zW,hd3]
  refine .go [(58,.int .i64 r),(57,.int .i64 sts.length),(56,.sl 1 (rr sts)),(9,.ref 3 2 0 0),(5,.sl 1 (lp L)),(4,.ref 1 4 0 0),(3,.int .i64 t),(2,.ref 0 4 0 0),(0,.ptr [.int .i64 F,.sl 1 (us p.init),.sl 1 (us p.xK),.sl 1 (oB p.xJ),.sl 1 (oA p.code),.sl 1 (rr sts)])]
   ⟨4,(3,⟨2,[[.sl 1 (rl LL),.sl 1 (us st)]]⟩) :: (yZ 2 2 (zK S0)++ [(1,⟨4,[[.int .i64 p.xK.length,.int .i64 F,.int .i64 t,xB 2 2 (zK S0)]]⟩),(0,⟨4,[[.int .i64 0,.int .i64 0,.int .i64 0,.xO]]⟩)])⟩ ?_ ?_
  ·(refine xT.tP [] [3,2,1,0] (by simp) (by simp) (by decide) ?_; simp only [yQ,zQ,simprocAttr,-ZA,exists_eq_left',ne_eq,zR,rX,gJ])
  simp only [simprocAttr,-ZA,↓zU,↓zD,zV,zT,zW,wP,hSl2]
  (repeat refine sd ?_)
  refine⟨r+1,by omega,?_,by omega⟩;rw [hSs];have hsn:=Uw S0 ⟨LL,st⟩;simp only at hsn
  (refine xT.tP [(2,4)] [2,1,0] (by simp) (by simp) (by decide) ?_; simp only [yQ,zQ,simprocAttr,-ZA,exists_eq_left',ne_eq,zR,hsn,rX])
  exact pN (by omega)
 have hd3:((t:Int)<(T:Int)):=by omega
 have hsu:(List.range (t+1)).map lrow=(List.range t).map lrow ++ [lrow t]:=by rw [τ,μ]; rfl
 have hll:((List.range t).map lrow).length=t:=by simp
 generalize (List.range t).map lrow=LL at *;simp only [simprocAttr,-ZA,↓zU,↓zD,zV,zT,zW,hd3,xI]
 refine uZ (λa:Nat=>[(76,.int .i64 a),(75,.int .i64 p.xK.length),(67,.int .i64 t),(66,.int .i64 T),(58,.int .i64 r),(57,.int .i64 sts.length),(56,.sl 1 (rr sts)),(11,xB 5 1 (rows .i64 ((List.range a).map λa=>((below (al a) (kf a (r,t)):Nat):Int)))),(10,.int .i64 t),(9,.ref 3 2 0 0),(7,.int .i64 r),(5,.sl 1 (lp L)),(4,.ref 1 4 0 0),(3,.int .i64 T),(2,.ref 0 4 0 0),(0,.ptr [.int .i64 F,.sl 1 (us p.init),.sl 1 (us p.xK),.sl 1 (oB p.xJ),.sl 1 (oA p.code),.sl 1 (rr sts)])])
  (λa=>⟨6,yZ 5 1 (rows .i64 ((List.range a).map λa=>((below (al a) (kf a (r,t)):Nat):Int)))++ (yZ 4 1 (rl LL)++ ((3,⟨2,[[xB 4 1 (rl LL),.sl 1 (us st)]]⟩) :: (yZ 2 2 (zK S0)++ [(1,⟨4,[[.int .i64 p.xK.length,.int .i64 F,.int .i64 T,xB 2 2 (zK S0)]]⟩),(0,⟨4,[[.int .i64 0,.int .i64 0,.int .i64 0,.xO]]⟩)])))⟩) (λa=>a<=p.xK.length) (λa=>p.xK.length-a) 0 (Aj _) ?_ ?_
 ·(refine xT.tP [] [4,3,2,1,0] (by simp) (by simp) (by decide) ?_; simp only [yQ,zQ,simprocAttr,-ZA,exists_eq_left',ne_eq,zR,ν,π,mT,wR,wS,κ,rX,gJ])
 intro a ha;refine xM mixed ?_;by_cases hal:a<p.xK.length
 case neg=>
  have hd4:¬ ((a:Int)<(p.xK.length:Int)):=by omega
  obtain rfl:a=p.xK.length:=by omega
  have hlr2:((List.range p.xK.length).map λa=>((below (al a) (kf a (r,t)):Nat):Int))= lrow t:=rfl;rw [hlr2];generalize lrow t=x at *;simp only [simprocAttr,-ZA,↓zU,↓zD,zV,zT,zW,hd4]
  refine .go [(67,.int .i64 t),(66,.int .i64 T),(58,.int .i64 r),(57,.int .i64 sts.length),(56,.sl 1 (rr sts)),(11,.sl 1 (rows .i64 x)),(9,.ref 3 2 0 0),(7,.int .i64 r),(5,.sl 1 (lp L)),(4,.ref 1 4 0 0),(3,.int .i64 T),(2,.ref 0 4 0 0),(0,.ptr [.int .i64 F,.sl 1 (us p.init),.sl 1 (us p.xK),.sl 1 (oB p.xJ),.sl 1 (oA p.code),.sl 1 (rr sts)])]
   ⟨5,yZ 4 1 (rl LL)++ ((3,⟨2,[[xB 4 1 (rl LL),.sl 1 (us st)]]⟩) :: (yZ 2 2 (zK S0)++ [(1,⟨4,[[.int .i64 p.xK.length,.int .i64 F,.int .i64 T,xB 2 2 (zK S0)]]⟩),(0,⟨4,[[.int .i64 0,.int .i64 0,.int .i64 0,.xO]]⟩)]))⟩ ?_ ?_
  ·(refine xT.tP [] [4,3,2,1,0] (by simp) (by simp) (by decide) ?_; simp only [yQ,zQ,simprocAttr,-ZA,exists_eq_left',ne_eq,zR,rX,gJ])
  simp only [simprocAttr,-ZA,↓zU,↓zD,zV,zT,zW,wG,hll]
  (repeat refine sd ?_)
  refine⟨t+1,by omega,?_,by omega⟩;rw [hsu]
  (refine xT.tP [(4,5)] [4,3,2,1,0] (by simp) (by simp) (by decide) ?_; simp only [yQ,zQ,simprocAttr,-ZA,exists_eq_left',ne_eq,zR,cd,rX,gJ])
  exact pN (by omega)
 have hd4:((a:Int)<(p.xK.length:Int)):=by omega
 have hga:=hgal a hal;obtain⟨bb,hse⟩:=Uz (kf a (r,t)) (hasc a) (hak a);have h75:=hh a r t hal hrl htl;have hsu2:(List.range (a+1)).map (λa=>((below (al a) (kf a (r,t)):Nat):Int))= (List.range a).map (λa=>((below (al a) (kf a (r,t)):Nat):Int))++ [((below (al a) (kf a (r,t)):Nat):Int)]:=by rw [τ,μ]; rfl
 have hla2:((List.range a).map λa=>((below (al a) (kf a (r,t)):Nat):Int)).length=a:=by simp
 have hdL:((a:Int)<(L.length:Int)):=by omega
 generalize (List.range a).map (λa=>((below (al a) (kf a (r,t)):Nat):Int))= W at *;simp only [simprocAttr,-ZA,↓zU,↓zD,zV,zT,zW,hd4,WE,hdL,hga]
 (repeat refine sd ?_)
 refine .go (cr h75) ?_;simp only [simprocAttr,-ZA,↓zU,↓zD,zV,zT,zW];refine .go (cr hse) ?_;simp only [simprocAttr,-ZA,↓zU,↓zD,zV,zT,zW,yO,hla2]
 (repeat refine sd ?_)
 refine⟨a+1,by omega,?_,by omega⟩;rw [hsu2]
 (refine xT.tP [(5,6)] [5,4,3,2,1,0] (by simp) (by simp) (by decide) ?_; simp only [yQ,zQ,simprocAttr,-ZA,exists_eq_left',ne_eq,zR,rX,gJ])
 exact pN (by omega)
namespace Kb
def aD (p:yA) (n:Int):Int:=if uN p≠0 then uN p else if n<1\/6<n then 2 else 0
theorem si {p:yA} {n:Int} (h:aD p n=0):∃ F k:Nat,nr p F/\n=((k+1:Nat):Int)/\ k<=5:=by
 unfold aD at h
 split at h
 ·rename_i h1; exact absurd h h1
 ·rename_i h1
  split at h
  ·cases h
  ·obtain⟨F,hv⟩:=fw (by simpa using h1);exact⟨F,(n-1).toNat,hv,by omega,by omega⟩
def bV (p:yA) (n:Int):tB:=if aD p n≠0 then⟨0,0,0,[]⟩ else⟨p.xK.length,p.F,n,pD p.xK (vE p (n.toNat-1)) n.toNat⟩
end Kb
theorem Uk (p:yA) (sm:gM p) (n:Int):yU prog 68 [p.d,.int .i64 n] (.int .i64 (aD p n)):=by
 have hC:=NQ p sm;unfold yA.d yA.cells aD at *;refine xY.xN mixed func68 Fi (by simp) λhf=>?_;simp only [simprocAttr,-ZA,↓zU,↓zD,zV,zT,zW]
 (repeat refine sd ?_)
 refine .go (cr hC) ?_;by_cases c:uN p=0
 case neg=>
  have c':(uN p != 0)= true:=by simpa using c
  rw [if_pos c];simp only [simprocAttr,-ZA,↓zU,↓zD,zV,zT,zW,c'];exact .dv
 have c':(uN p != 0)= false:=by simpa using c
 rw [if_neg (by simpa using c)]
 by_cases h1:n<1
 ·rw [if_pos (.inl h1)];simp only [simprocAttr,-ZA,↓zU,↓zD,zV,zT,zW,c',h1];exact .dv
 by_cases h2:6<n
 ·rw [if_pos (.inr h2)];simp only [simprocAttr,-ZA,↓zU,↓zD,zV,zT,zW,c',h1,h2];exact .dv
 rw [if_neg (by omega)];simp only [simprocAttr,-ZA,↓zU,↓zD,zV,zT,zW,c',h1,h2];exact .dv
theorem Yu {p:yA} {F k:Nat} (hv:nr p F) (hk:k<=5) {sts:List (List (BitVec 64))} (hS:YO p F sts k):yU prog 70 [wm p sts] (sD p.xK.length F (k+1) (pD p.xK sts (k+1))):= Ri hv ⟨by omega,by omega⟩ (by rw [hS.len]; exact hv.hI) hS.run
theorem SN (p:yA) (sm:gM p) (n:Int):yU prog 19 [p.d,.int .i64 n] (.wK [(bV p n).d,.int .i64 (aD p n)]):=by
 have hR:=Uk p sm n;by_cases c:aD p n=0
 case neg=>
  have c':(aD p n != 0)= true:=by simpa using c
  have hD:(bV p n).d = .agg [.int .i64 0,.int .i64 0,.int .i64 0,.sl 2 []]:=by unfold bV; rw [if_pos c]; rfl
  rw [hD];unfold yA.d yA.cells at *;refine xY.xN mixed func19 GG (by simp) λhf=>?_;simp only [simprocAttr,-ZA,↓zU,↓zD,zV,zT,zW]
  (repeat refine sd ?_)
  refine .go (cr hR) ?_;simp only [simprocAttr,-ZA,↓zU,↓zD,zV,zT,zW,c']
  (repeat refine sd ?_)
  exact .drop (by simp) (by simp [vw,vI])
 have c':(aD p n != 0)= false:=by simpa using c
 obtain⟨F,k,hv,rfl,hk⟩:=si c;have hP:=R7 hv (n:=k) (by omega);have hS:=Yu hv hk (bL hv k)
 have hD:(bV p ((k+1:Nat):Int)).d=sD p.xK.length F (k+1) (pD p.xK (vE p k) (k+1)):=by unfold bV;rw [if_neg (by simpa using c),Au,show k+1-1=k by omega];show D.agg [_,_,_,_]=D.agg [_,_,_,_];rw [hv.fe]
 rw [hD];generalize pD p.xK (vE p k) (k+1)= S at *;generalize vE p k=sts at *;unfold yA.d yA.cells wm Pj sD at *;refine xY.xN mixed func19 GG (by simp) λhf=>?_;simp only [simprocAttr,-ZA,↓zU,↓zD,zV,zT,zW]
 (repeat refine sd ?_)
 refine .go (cr hR) ?_;simp only [simprocAttr,-ZA,↓zU,↓zD,zV,zT,zW,c'];refine .go (cr hP) ?_;simp only [simprocAttr,-ZA,↓zU,↓zD,zV,zT,zW];refine .go (cr hS) ?_;simp only [simprocAttr,-ZA,↓zU,↓zD,zV,zT,zW]
 (repeat refine sd ?_)
 exact .drop (by simp) (by simp [vw,vI]; simpa using c.symm)
end Go.Pd

/- Part XE. -/
namespace Go.Pd
open Go
variable [uM]
end Go.Pd

/- Part XF. -/
namespace Go.Pd
open Go
variable [uM]
def dd (mask:Nat):Fr->Fr
 | []=>[]
 | (t,d) :: r=>if mask.testBit t=true then dd mask r else(t,d) :: dd (mask ||| 2 ^ t) r
end Go.Pd

/- Part B0. -/
namespace Go.Pd
open Go Go.Proofs
open Go.Shelf
open Rs Fm Ru Te Kb
namespace Kb
theorem XW {xK:List (BitVec 64)} {sts:List (List (BitVec 64))} {a r t:Nat} (h:t<(tA sts r).length):(nY xK sts a (r,t)).length=t+1:=by unfold nY;rw [γ];exact rf h
end Kb
open Rs Fm Ru Te Kb
namespace Kb
end Kb
open Rs Fm Ru Te Kb
namespace Kb
end Kb
open Rs Fm Ru Te Kb
namespace Kb
end Kb
open Rs Fm Ru Te Kb
namespace Kb
end Kb
open Rs Fm Ru Te Kb
namespace Kb
section
variable {n t : Nat} {sts sts' : List (List (BitVec 64))} {xK : List (BitVec 64)}
variable {p : yA}
end
end Kb
open Rs Fm Ru Te Kb
namespace Kb
end Kb
end Go.Pd

/- Part SG. -/
namespace Go.Pd
open Go Go.Proofs
namespace Ru
theorem XC {α:Type} {l:List α} {f:α->Bool} {d:α} (h:∀ i,i<l.length->f (l.getD i d)= true):l.all f=true:=by rw [ε];intro x hx;obtain⟨i,hi,rfl⟩:=Ae hx;have:=h i hi;simpa [List.getD,hi] using this
theorem qc {n:Nat} {f:Nat->Bool} (h:∀ i,i<n->f i=true):(List.range n).all f=true:=by rw [ε];exact λx hx=>h x (ζ.1 hx)
def Jf (rs:List xC) (p q:Nat × Nat) (a:Nat):Bool:=!(decide (p.2≠q.2)&& decide (yV rs a p=yV rs a q))
def GD (rs:List xC) (A:Nat) (p q:Nat × Nat):Bool:=(List.range A).all (Jf rs p q)
def GL (rs:List xC) (A:Nat) (l:List (Nat × Nat)) (p:Nat × Nat):Bool:=l.all (GD rs A p)
def ko (s:tB):Bool:=decide (lY s=0)&& (aC s).all (GL s.rs s.ag.toNat (aC s))
end Ru
open Ru
open Ru
namespace Ru
def Je (rs:List xC) (a:Nat) (p q:Nat × Nat):Bool:=!(decide (yV rs a p=yV rs a q)) || decide (nQ rs a p=nQ rs a q)
def GJ (rs:List xC) (l:List (Nat × Nat)) (a:Nat):Bool:=l.all λp=>l.all λq=>Je rs a p q
def PV (rs:List xC) (A:Nat) (l:List (Nat × Nat)):Bool:=(List.range A).all (GJ rs l)
theorem RC {rs:List xC} {l:List (Nat × Nat)} {a:Nat} (h:∀ i j,i<l.length->j<l.length->yV rs a (l.getD i (0,0))= yV rs a (l.getD j (0,0))->nQ rs a (l.getD i (0,0))= nQ rs a (l.getD j (0,0))):GJ rs l a=true:=
 XC (d:=(0,0)) λi hi=>XC (d:=(0,0)) λj hj=>by
  unfold Je
  by_cases e:yV rs a (l.getD i (0,0))= yV rs a (l.getD j (0,0))
  ·rw [decide_eq_true (h i j hi hj e),Bool.or_true]
  ·rw [decide_eq_false e]; rfl
end Ru
end Go.Pd

/- Part SP. -/
namespace Go.Pd
open Go Go.Proofs
namespace Ru
def hT (f:Nat->Int):Nat->List Int
 | 0=>[]
 | k+1=>if 0<k/\f k=f (k-1) then hT f k else hT f k ++ [f k]
theorem ba {l:List Int} {f:Nat->Int}:∀ {k:Nat},(∀ i,i<k->l.getD i 0=f i)->uJ l k=hT f k
 | 0,_=>rfl
 | k+1,h=>by
  unfold uJ hT;rw [h k (by omega)]
  by_cases c:0<k
  ·rw [h (k-1) (by omega),ba λi hi=>h i (by omega)]
  ·rw [if_neg (λe=>c e.1),if_neg (λe=>c e.1),ba λi hi=>h i (by omega)]
theorem gP (rs:List xC) (a i t:Nat):nQ rs a (i,t)= hT (λu=>yV rs a (i,u)) (t+1):=by unfold nQ qZ;simp only [ri];exact ba λj hj=>by simp [kM,List.getD,hj]
theorem bh (f:Nat->Int):∀ k,(hT f (k+1)).getLast?=some (f k)
 | 0=>by simp [hT]
 | k+1=>by
  rw [hT]
  by_cases c:0<k+1/\f (k+1)= f (k+1-1)
  ·rw [if_pos c,bh f k,c.2]; rfl
  ·rw [if_neg c,List.getLast?_concat]
theorem QE {rs:List xC} {a:Nat} {p q:Nat × Nat} (h:nQ rs a p=nQ rs a q):yV rs a p=yV rs a q:=by obtain⟨i,t⟩:=p;obtain⟨j,u⟩:=q;rw [gP,gP] at h;have h1:=bh (λu=>yV rs a (i,u)) t;have h2:=bh (λv=>yV rs a (j,v)) u;rw [h,h2] at h1;exact(Option.some.inj h1).symm
theorem Uf {rs:List xC} {A T:Nat} (hT:1<=T) (h:∀ (a:Nat) (p q:Nat × Nat),a<A->p.1<rs.length/\p.2<T->q.1<rs.length/\q.2<T->yV rs a p=yV rs a q->nQ rs a p=nQ rs a q):PV rs A (rO T (rs.length*T))= true:=by have hin:NG rs T (rO T (rs.length*T)):=xq hT (Ai _);refine qc λa ha=>RC λi j hi hj e=>?_;exact h a _ _ ha (hin _ (xL hi)) (hin _ (xL hj)) e
theorem RD {rs:List xC} {A T:Nat} (h:PV rs A (rO T (rs.length*T))= true) {a:Nat} {p q:Nat × Nat} (ha:a<A) (hp:p.1<rs.length/\p.2<T) (hq:q.1<rs.length/\q.2<T) (e:yV rs a p=yV rs a q):nQ rs a p=nQ rs a q:=by have h1:=ε.1 h a (ζ.2 ha);have h2:=ε.1 h1 p (bM hp);have h3:=ε.1 h2 q (bM hq);unfold Je at h3;rw [decide_eq_true e] at h3;simpa using h3
theorem k9 {rs:List xC} {A F T:Nat} (ok:jH rs A F T):ko ⟨A,F,T,rs⟩= (rO T (rs.length*T)).all (GL rs A (rO T (rs.length*T))):=by
 have hz:=bK ok;have ep:aC ⟨A,F,T,rs⟩= rO T (rs.length*T):=by unfold aC; rw [if_neg (by simpa using hz)]; rfl
 unfold ko;rw [decide_eq_true hz,As,ep];rfl
theorem Zg {rs:List xC} {A F T:Nat} (ok:jH rs A F T) (h:∀ (a:Nat) (p q:Nat × Nat),a<A->p.1<rs.length/\p.2<T->q.1<rs.length/\q.2<T->p.2≠q.2->yV rs a p≠yV rs a q):ko ⟨A,F,T,rs⟩= true:=by
 have hin:NG rs T (rO T (rs.length*T)):=xq ok.hT.1 (Ai _);rw [k9 ok];refine ε.2 λp hp=>ε.2 λq hq=>qc λa ha=>?_;unfold Jf
 by_cases e:p.2=q.2
 ·simp [e]
 ·simp [h a p q ha (hin p hp) (hin q hq) e]
theorem VA {rs:List xC} {A F T:Nat} (ok:jH rs A F T) (h:ko ⟨A,F,T,rs⟩= true) {a:Nat} {p q:Nat × Nat} (ha:a<A) (hp:p.1<rs.length/\p.2<T) (hq:q.1<rs.length/\q.2<T) (e:p.2≠q.2):yV rs a p≠yV rs a q:=by rw [k9 ok] at h;have h1:=ε.1 h p (bM hp);have h2:=ε.1 h1 q (bM hq);have h3:=ε.1 h2 a (ζ.2 ha);unfold Jf at h3;rw [decide_eq_true e] at h3;simpa using h3
theorem YY {rs:List xC} {A T a:Nat} {p q:Nat × Nat} (ha:a<A) (hp:p.1<rs.length/\p.2<T) (hq:q.1<rs.length/\q.2<T) (h:yV (lG rs A T (pQ rs)) a p=yV (lG rs A T (pQ rs)) a q):yV rs a p=yV rs a q:=by have:=(gK ha hp hq).1 h;unfold pQ at this;simp only [List.cons.injEq] at this;exact this.2.1
theorem Uh {rs:List xC} {A T a:Nat} {p q:Nat × Nat} (ha:a<A) (hp:p.1<rs.length/\p.2<T) (hq:q.1<rs.length/\q.2<T) (h:yV (lG rs A T (nQ rs)) a p=yV (lG rs A T (nQ rs)) a q):yV rs a p=yV rs a q:= QE ((gK ha hp hq).1 h)
end Ru
open Rs Fm Ru Te Kb
namespace Kb
instance : DecidableEq xC := λa b => decidable_of_iff (a.loc = b.loc /\ a.nW = b.nW) (by cases a; cases b; simp)
instance : DecidableEq tB := λa b => decidable_of_iff (a.ag = b.ag /\ a.fa = b.fa /\ a.ln = b.ln /\ a.rs = b.rs) (by cases a; cases b; simp)
def YB (x:List Int):List (List Int)->List (List Int)
 | []=>[x]
 | y :: l=>if kc y x<0 then y :: YB x l else x :: y :: l
def VO : List (List Int)->List (List Int)
 | []=>[]
 | x :: l=>YB x (VO l)
theorem yq (x:List Int):∀ l,(YB x l).Perm (x :: l)
 | []=>List.Perm.refl _
 | y :: l=>by
  unfold YB
  split
  ·exact((yq x l).cons y).trans (List.Perm.swap x y l)
  ·exact List.Perm.refl _
theorem fq : ∀ l,(VO l).Perm l
 | []=>List.Perm.refl _
 | x :: l=>(yq x _).trans ((fq l).cons x)
theorem Xa (x:List Int):∀ l,fc l->fc (YB x l)
 | [],_=>by unfold YB fc; simp
 | y :: l,h=>by
  have h1:=ω.1 h;unfold YB
  split
  ·rename_i hc;refine ω.2 ⟨λz hz=>?_,Xa x l h1.2⟩
   rcases ο.1 ((yq x l).mem_iff.1 hz) with rfl | hz
   ·have:=lO y z; omega
   ·exact h1.1 z hz
  ·rename_i hc;refine ω.2 ⟨λz hz=>?_,h⟩
   rcases ο.1 hz with rfl | hz
   ·exact hc
   ·exact jK (h1.1 z hz) hc
theorem XG : ∀ l,fc (VO l)
 | []=>List.Pairwise.nil
 | x :: l=>Xa x _ (XG l)
theorem Ps (l:List (List Int)):tK l=VO l:=(au (fq l) (XG l)).symm
theorem Tc : tK=VO:=funext Ps
def Kv (xK:List (BitVec 64)) (sts:List (List (BitVec 64))) (T:Nat):List xC:= kP (ue sts) xK.length T λa p=>below (dedup (VO ((rO T ((ue sts).length*T)).map (nY xK sts a)))) (nY xK sts a p)
theorem Rg (xK:List (BitVec 64)) (sts:List (List (BitVec 64))) (T:Nat):pD xK sts T=Kv xK sts T:=by unfold pD lG Kv sY;rw [Tc]
def GF : List Nd:=PL (sW 0) (VV (kE 1 (sW 0)))
def NJ : yA:=⟨2,[0#64,1#64],[1#64,2#64],[[⟨1,sW 0⟩]],[[⟨GF,0⟩],[]]⟩
def L7 : tB:=⟨2,2,3,[⟨[[0,0],[2,1],[4,3]],[0#64,0#64,0#64]⟩,⟨[[1,0],[3,2],[5,4]],[1#64,3#64,3#64]⟩]⟩
theorem Tx : vE NJ 2 = [[0#64,0#64,0#64],[1#64,3#64,3#64]]:=by decide +kernel
theorem SX : aD NJ 3=0:=by decide +kernel
theorem No : bV NJ 3=L7:=by unfold bV;rw [if_neg (by rw [SX]; simp),show (3:Int).toNat=3 from rfl,Tx,Rg];decide +kernel
end Kb
end Go.Pd

/- Part AX. -/
namespace Go.Pd
open Go Go.Proofs
open BitVec renaming isValue -> ZA
open Rs Fm Ru Te Kb
def Nw (d d':D):Prop:=∀ (M:Nat->Prop) (w:World) (v:Value),RP M w v d->RP M w v d'
theorem Nw.refl (d:D):Nw d d:=λ_ _ _ h=>h
theorem Nw.xO (sz:Nat):Nw .xO (.sl sz []):=λ_ _ v h=>by cases h;exact .nq _ _ _ (by simp)
theorem Nw.sl {sz:Nat} {xV els':List (List D)} (hl:xV.length=els'.length) (hw:∀ e ∈ els',e.length=sz)
  (h:∀ i,i<xV.length->∀ j,j<sz->Nw ((xV.getD i []).getD j .top) ((els'.getD i []).getD j .top)):Nw (.sl sz xV) (.sl sz els'):=λM w v hv=>by
 cases hv with
 | nq a cap sz hh=> have:els' = []:=List.length_eq_zero_iff.1 (by simpa using hl.symm);subst this;exact .nq _ _ _ hh
 | sl vs hs hM hc hm hl2 hcell hr=>
  have:=RP.sl (M:=M) (w:=w) (sz:=sz) (xV:=els') vs hs hM (by omega) hm hw (by rw [<- hl]; exact hcell) (by rw [<- hl]; exact λi hi j hj=>h i hi j hj M w _ (hr i hi j hj))
  rwa [<- hl] at this
theorem Nw.agg {ds cs:List D} (hl:ds.length=cs.length) (h:∀ j,j<cs.length->Nw (ds.getD j .top) (cs.getD j .top)):Nw (.agg ds) (.agg cs):=λM w v hv=>by
 cases hv with
 | agg h1 h2=>exact .agg (by omega) λj hj=>h j hj M w _ (h2 j (by omega))
theorem Nw.seen {σ:St} {K:Nat->Prop} {d d':D} (h:Nw d d') (hp:d.xD=true):Seen σ K d d':=λM0 w ι v hS hR=>h _ _ _ (Seen.pure hp M0 w ι v hS hR)
theorem yU.seen {P:Program} {g:FuncId} {args args':List D} {d:D} (hc:yU P g args' d) (h:kC gY (λ_=>False) args args'):yU P g args d:= xY.Ma (σ:=gY) (objs':=[]) (λ_=>False) hc h λk o hk=>by cases hk
theorem Jk (f g:List Nd):yU prog 92 [.sl 6 (zB f),.sl 6 (zB g)] (.sl 6 (zB (PL f g))):=by
 refine xY.xN mixed func92 Fw (by simp) λhf=>?_;simp only [simprocAttr,-ZA,↓zU,↓zD,zV,zT,zW]
 (repeat refine sd ?_)
 refine .go (xY.yH (vj ⟨5,0,0,0,0,0⟩ [f,g] (by simp)) (by simp [D.xR,D.xD,Nd.row,nl])) ?_;simp only [simprocAttr,-ZA,↓zU,↓zD,zV,zT,zW];exact .same
open Rs Fm Ru Te Kb
namespace Kb
instance : DecidableEq Va := λa b => decidable_of_iff (a.ag = b.ag /\ a.seen = b.seen /\ a.mv = b.mv) (by cases a; cases b; simp)
theorem Q8 : gM NJ:=⟨by decide,by decide,by decide⟩
end Kb
open Rs Fm Ru Te Kb
def Ml : D:=.agg [.int .i64 2,.sl 1 (us [0#64,1#64]),.sl 1 (us [1#64,2#64]),.sl 1 (oB [[⟨1,sW 0⟩]]),.sl 1 [[.sl 2 (YF [⟨GF,0⟩])],[.xO]]]
theorem Li : Nw Ml NJ.d:=by
 refine Nw.agg rfl λj hj=>?_
 match j,hj with
 | 0,_=>exact Nw.refl _
 | 1,_=>exact Nw.refl _
 | 2,_=>exact Nw.refl _
 | 3,_=>exact Nw.refl _
 | 4,_=>
  refine Nw.sl rfl (by decide) λi hi j hj=>?_;have e:j=0:=by omega
  subst e
  match i,hi with
  | 0,_=>exact Nw.refl _
  | 1,_=>exact Nw.xO 2
open Rs Fm Ru Te Kb
theorem Td : yU prog 96 [] Ml:=by
 have c1:=SK 0;have c2:=SL 1 (sW 0);have c3:=Jm (kE 1 (sW 0));have c4:=Jk (sW 0) (VV (kE 1 (sW 0)));have hD:Ml = .agg [.int .i64 2,.sl 1 (us [0#64,1#64]),.sl 1 (us [1#64,2#64]),.sl 1 [[.sl 2 [[.int .i64 1,.sl 6 (zB (sW 0))]]]],.sl 1 [[.sl 2 [[.sl 6 (zB (PL (sW 0) (VV (kE 1 (sW 0))))),.int .i64 0]]],[.xO]]]:=rfl;rw [hD];generalize PL (sW 0) (VV (kE 1 (sW 0)))= g1 at *;generalize VV (kE 1 (sW 0))= g2 at *;generalize kE 1 (sW 0)= g3 at *;generalize sW 0=g4 at *;refine xY.xN mixed func96 G8 (by simp) λhf=>?_;simp only [simprocAttr,-ZA,↓zU,↓zD,zV,zT,zW];refine .go (cq c1) ?_;simp only [simprocAttr,-ZA,↓zU,↓zD,zV,zT,zW]
 (repeat refine sd ?_)
 refine .go (cr c2) ?_;simp only [simprocAttr,-ZA,↓zU,↓zD,zV,zT,zW];refine .go (cr c3) ?_;simp only [simprocAttr,-ZA,↓zU,↓zD,zV,zT,zW];refine .go (cr c4) ?_;simp only [simprocAttr,-ZA,↓zU,↓zD,zV,zT,zW]
 (repeat refine sd ?_)
 exact .drop (by simp) (by simp [vw,vI,us,ui])
namespace Kb
theorem Nn : dg L7 (kE 1 (sW 0))= [[.sl 1 [[.bool false],[.bool false],[.bool false]]],[.sl 1 [[.bool false],[.bool true],[.bool true]]]]:=by kernel_rfl
theorem Q7 : dR L7 (kE 1 (sW 0))= 0:=by decide +kernel
end Kb
open Rs Fm Ru Te Kb
theorem LZ (p:yA):yU prog 16 [p.d,.xO] (.bool (mA p [])):=yU.seen (args':=[p.d,.sl 3 (TQ [])]) (Jl p []) ⟨Seen.pure rfl,Seen.nil 3,trivial⟩
theorem ow {p:yA} {l:List Va} (h:mA p l=true):gM p:=by obtain⟨h1,h2,h3⟩:=U1 h;exact⟨h1,h2,h3⟩
open Rs Fm Ru Te Kb
namespace Kb
theorem Y5 {p:yA} {F k:Nat} (hv:nr p F) (hk:k<=5) {sts:List (List (BitVec 64))} (hS:YO p F sts k):jH (pD p.xK sts (k+1)) p.xK.length F (k+1):=by
 have hl:=jZ p.xK sts (k+1);have hR:=hv.hI;have hn:=hS.len
 have key:∀ r ∈ pD p.xK sts (k+1),∃ i,i<sts.length/\r=⟨(List.range (k+1)).map λt=>(List.range p.xK.length).map λa=>((below (p8 p.xK sts (k+1) a) (nY p.xK sts a (i,t)):Nat):Int),tA sts i⟩:=λr hr=>by
  obtain⟨i,hi,rfl⟩:=Ae hr;have hi':i<sts.length:=by omega
  refine⟨i,hi',?_⟩;rw [<- l5 hi'];simp [List.getD,hi]
 refine⟨hv.hA.2,hv.hF,⟨by omega,by omega⟩,⟨by omega,by omega⟩,?_,?_,?_,?_,?_⟩
 ·rw [hl];have:sts.length*(k+1)<=16*6:=An (by omega) (by omega);omega
 ·intro r hr;obtain⟨i,hi,rfl⟩:=key r hr;simp
 ·intro r hr;obtain⟨i,hi,rfl⟩:=key r hr;exact hS.run _ (lT hi)
 ·intro r hr l hm;obtain⟨i,hi,rfl⟩:=key r hr;simp only [δ] at hm;obtain⟨t,_,rfl⟩:=hm;simp
 ·intro r hr f hm;obtain⟨i,hi,rfl⟩:=key r hr;exact hS.val _ (lT hi) f hm
theorem cn {xK:List (BitVec 64)} {sts:List (List (BitVec 64))} {T a:Nat} {x y:Nat × Nat} (ha:a<xK.length) (hx:x.1<sts.length/\x.2<T) (hy:y.1<sts.length/\y.2<T) :
  yV (pD xK sts T) a x=yV (pD xK sts T) a y ↔ nY xK sts a x=nY xK sts a y:=gK ha (by rw [gB]; exact hx) (by rw [gB]; exact hy)
theorem ig {p:yA} {F k:Nat} {sts:List (List (BitVec 64))} (hS:YO p F sts k) {a:Nat} {x y:Nat × Nat} (hx:x.1<sts.length/\x.2<k+1) (hy:y.1<sts.length/\y.2<k+1) (h:nY p.xK sts a x=nY p.xK sts a y):x.2=y.2:=by obtain⟨i,t⟩:=x;obtain⟨j,u⟩:=y;have h1:=XW (xK:=p.xK) (a:=a) (sts:=sts) (r:=i) (t:=t) (by rw [show (tA sts i).length=k+1 from hS.run _ (lT hx.1)]; exact hx.2);have h2:=XW (xK:=p.xK) (a:=a) (sts:=sts) (r:=j) (t:=u) (by rw [show (tA sts j).length=k+1 from hS.run _ (lT hy.1)]; exact hy.2);rw [h] at h1;show t=u;omega
theorem U7 {xK:List (BitVec 64)} {sts:List (List (BitVec 64))} {a i j t u:Nat} (h:nY xK sts a (i,t)= nY xK sts a (j,t)) (hu:u<=t):nY xK sts a (i,u)= nY xK sts a (j,u):=by
 have e:∀ i,nY xK sts a (i,u)= (nY xK sts a (i,t)).take (u+1):=λi=>by unfold nY rM;rw [<- List.map_take,<- List.map_take,List.take_take,Nat.min_eq_left (by omega)]
 rw [e,e,h]
theorem re {f g:Nat->Int}:∀ {k:Nat},(∀ u,u<k->f u=g u)->hT f k=hT g k
 | 0,_=>rfl
 | k+1,h=>by
  unfold hT;rw [h k (by omega),re λu hu=>h u (by omega)]
  by_cases c:0<k
  ·rw [h (k-1) (by omega)]
  ·rw [if_neg (λe=>c e.1),if_neg (λe=>c e.1)]
theorem Rh {p:yA} {F k:Nat} (hv:nr p F) (hk:k<=5) {sts:List (List (BitVec 64))} (hS:YO p F sts k):ko ⟨p.xK.length,F,((k+1:Nat):Int),pD p.xK sts (k+1)⟩= true:=
 Zg (Y5 hv hk hS) λa x y ha hx hy hne h=>by rw [jZ] at hx hy;exact hne (ig hS hx hy ((cn ha hx hy).1 h))
theorem P2 {p:yA} {F k:Nat} {sts:List (List (BitVec 64))} (hS:YO p F sts k):PV (pD p.xK sts (k+1)) p.xK.length (rO (k+1) ((pD p.xK sts (k+1)).length*(k+1)))= true:=
 Uf (by omega) λa x y ha hx hy h=>by rw [jZ] at hx hy;have h1:=(cn ha hx hy).1 h;have e:=ig hS hx hy h1;obtain⟨i,t⟩:=x;obtain⟨j,u⟩:=y;simp only at hx hy e;subst e;rw [gP,gP];exact re λv hv=>(cn ha ⟨hx.1,by show v<k+1; omega⟩ ⟨hy.1,by show v<k+1; omega⟩).2 (U7 h1 (by omega))
theorem Z7 {p:yA} {k:Nat} (h:uN p=0) (hk:k<=5):aD p ((k+1:Nat):Int)= 0/\∃ F,nr p F/\bV p ((k+1:Nat):Int)= ⟨p.xK.length,F,((k+1:Nat):Int),pD p.xK (vE p k) (k+1)⟩:=by
 have h1:aD p ((k+1:Nat):Int)= 0:=by unfold aD;rw [if_neg (by simpa using h),if_neg (by omega)]
 obtain⟨F,hv⟩:=fw h;refine⟨h1,F,hv,?_⟩;unfold bV;rw [if_neg (by simpa using h1),hv.fe];rfl
end Kb
end Go.Pd

/- Part Z2. -/
namespace Go.Pd
open Go Go.Proofs
open Rs Fm Ru Te
namespace Te
abbrev L9 (a:Int) (t:Tr):Tr:=.nd 9 a 0 0 t .nil
section
variable {A F : Nat} {f g : List Nd} {t u : Tr}
end
section
variable {rs : List xC} {A T : Nat} {t u : Tr} {p : Nat × Nat}
end
end Te
open Rs Fm Ru Te
namespace Ru
theorem Zx {f:Nat->Int}:∀ {k:Nat},(∀ u,0<u->u<k->f u≠f (u-1))->hT f k=(List.range k).map f
 | 0,_=>rfl
 | k+1,h=>by rw [hT,if_neg (λe=>h k e.1 (by omega) e.2),Zx λu h1 h2=>h u h1 (by omega),τ,μ];rfl
theorem R5 {rs:List xC} {A F T:Nat} (ok:jH rs A F T) (hs:ko ⟨A,F,T,rs⟩= true) (hr:PV rs A (rO T (rs.length*T))= true) {a t i w:Nat} (ha:a<A) (h1:1<=t) (h2:t<T) (hi:i<rs.length) (hw:w<rs.length)
  (e:yV rs a (i,t)= yV rs a (w,t)):yV rs a (i,t-1)= yV rs a (w,t-1):=by
 have hh:=RD hr ha (p:=(i,t)) (q:=(w,t)) ⟨hi,h2⟩ ⟨hw,h2⟩ e;have hn:∀ r,r<rs.length->∀ u,0<u->u<t+1->yV rs a (r,u)≠ yV rs a (r,u-1):=λr hr2 u hu0 hu=>VA ok hs ha (p:=(r,u)) (q:=(r,u-1)) ⟨hr2,by simp only; omega⟩ ⟨hr2,by simp only; omega⟩ (by simp only; omega);rw [gP,gP,Zx (hn i hi),Zx (hn w hw)] at hh;have:=congrArg (λl=>l.getD (t-1) 0) hh;simpa [List.getD,show t-1<t+1 by omega] using this
end Ru
namespace Te
end Te
end Go.Pd

/- Part ST. -/
namespace Go.Pd
open Go Go.Proofs
open BitVec renaming isValue -> ZA
open Ru
theorem NT (s:tB) (t:Int):yU prog 30 [s.d,.int .i64 t] (.wK [(xt s t).1.d,.int .i64 (xt s t).2]):=by
 have hC:=vg s;have hD:s.d = .agg [.int .i64 s.ag,.int .i64 s.fa,.int .i64 s.ln,.sl 2 (zK s.rs)]:=rfl;by_cases hz:lY s=0
 case neg=>
  have e:(lY s != 0)= true:=by simpa using hz
  rw [show xt s t=(uo,lY s) from if_pos hz];rw [hD] at hC ⊢;refine xY.xN mixed func30 Jj (by simp) λhf=>?_;simp only [simprocAttr,-ZA,↓zU,↓zD,zV,zT,zW]
  (repeat refine sd ?_)
  refine .go (cq hC) ?_;simp only [simprocAttr,-ZA,↓zU,↓zD,zV,zT,zW,e];exact .drop (by simp) (by simp [vw,vI,uo,tZ.d,us,rr])
 obtain⟨A,F,T,rs,rfl,ok⟩:=Vt hz;obtain⟨T1,T16⟩:=ok.hT;obtain⟨R1,R64⟩:=ok.hR
 have hm:xt ⟨A,F,T,rs⟩ t=if t<0\/(T:Int)<=t then(uo,2) else(qF rs (zM rs.length t.toNat) A F,0):=by unfold xt; rw [if_neg (by simpa using hz)]; rfl
 rw [hm];rw [hz] at hC;rw [hD] at hC ⊢;simp only at hC ⊢
 by_cases t1:t<0
 ·rw [if_pos (.inl t1)];refine xY.xN mixed func30 Jj (by simp) λhf=>?_;simp only [simprocAttr,-ZA,↓zU,↓zD,zV,zT,zW]
  (repeat refine sd ?_)
  refine .go (cq hC) ?_;simp only [simprocAttr,-ZA,↓zU,↓zD,zV,zT,zW,t1];exact .drop (by simp) (by simp [vw,vI,uo,tZ.d,us,rr])
 by_cases t2:(T:Int)<=t
 ·rw [if_pos (.inr t2)];refine xY.xN mixed func30 Jj (by simp) λhf=>?_;simp only [simprocAttr,-ZA,↓zU,↓zD,zV,zT,zW]
  (repeat refine sd ?_)
  refine .go (cq hC) ?_;simp only [simprocAttr,-ZA,↓zU,↓zD,zV,zT,zW,t1,t2];exact .drop (by simp) (by simp [vw,vI,uo,tZ.d,us,rr])
 rw [if_neg (by omega)];obtain⟨t,rfl⟩:=Int.eq_ofNat_of_zero_le (show 0<=t by omega);rw [Au];have htT:t<T:=by omega
 have hpt:=R8 ok (l:=zM rs.length t) (by rw [qN]; omega) (Rj htT (Ai _));have hck:=cP (vp ok (l:=zM rs.length t) (by rw [qN]; omega) (by rw [qN]; omega));unfold sD ez at hpt;unfold tZ.d qF at hck;refine xY.xN mixed func30 Jj (by simp) λhf=>?_;simp only [simprocAttr,-ZA,↓zU,↓zD,zV,zT,zW]
 (repeat refine sd ?_)
 refine .go (cq hC) ?_;simp only [simprocAttr,-ZA,↓zU,↓zD,zV,zT,zW,t1,t2,wP]
 refine uZ (λr:Nat=>[(29,.int .i64 r),(28,.int .i64 rs.length),(7,xB 2 2 (pF (zM r t))),(4,.ref 1 3 0 0),(2,.ref 0 4 0 0),(1,.int .i64 t)])
  (λr=>⟨3,yZ 2 2 (pF (zM r t))++ [(1,⟨3,[[.int .i64 0,.xO,.xO]]⟩),(0,⟨4,[[.int .i64 A,.int .i64 F,.int .i64 T,.sl 2 (zK rs)]]⟩)]⟩)
  (λr=>r<=rs.length) (λr=>rs.length-r) 0 (Aj _) ?_ ?_
 ·(refine xT.tP [] [1,0] (by simp) (by simp) (by decide) ?_; simp only [yQ,zQ,simprocAttr,-ZA,exists_eq_left',ne_eq,zR,zM,ν,π,WB,wR,wS,κ])
 intro r hr;refine xM mixed ?_
 by_cases hrl:r<rs.length
 ·have hd:((r:Int)<(rs.length:Int)):=by omega
  have hS:=Zj r t;have hln:=qN r t;generalize zM r t=l at hS hln;simp only [simprocAttr,-ZA,↓zU,↓zD,zV,zT,zW,hd,wM,hln]
  (repeat refine sd ?_)
  refine⟨r+1,by omega,?_,by omega⟩;rw [hS,Xw]
  (refine xT.tP [(2,3)] [2,1,0] (by simp) (by simp) (by decide) ?_; simp only [yQ,zQ,simprocAttr,-ZA,exists_eq_left',ne_eq,zR,jO])
  exact wrap_i64 (by omega)
 have hd:¬ ((r:Int)<(rs.length:Int)):=by omega
 rw [show r=rs.length by omega];rw [show r=rs.length by omega] at hd;generalize zM rs.length t=l at hpt hck ⊢;simp only [simprocAttr,-ZA,↓zU,↓zD,zV,zT,zW,hd]
 refine .go [(7,.sl 2 (pF l)),(4,.ref 1 3 0 0),(2,.ref 0 4 0 0),(1,.int .i64 t)] ⟨2,[(1,⟨3,[[.int .i64 0,.xO,.xO]]⟩),(0,⟨4,[[.int .i64 A,.int .i64 F,.int .i64 T,.sl 2 (zK rs)]]⟩)]⟩ ?_ ?_
 ·(refine xT.tP [] [1,0] (by simp) (by simp) (by decide) ?_; simp only [yQ,zQ,simprocAttr,-ZA,exists_eq_left',ne_eq,zR,jO])
 simp only [simprocAttr,-ZA,↓zU,↓zD,zV,zT,zW]
 (repeat refine sd ?_)
 refine .go (cr hpt) ?_;simp only [simprocAttr,-ZA,↓zU,↓zD,zV,zT,zW];refine .go (cr hck) ?_;simp only [simprocAttr,-ZA,↓zU,↓zD,zV,zT,zW];exact .drop (by simp) (by simp [vw,vI,tZ.d,qF])
open Rs Fm Ru Te Kb
namespace Kb
def dp (p:yA):Bool:=mA p []&&(decide (p.init.length<=6)&& (decide (p.F<=4)&& decide (uN p=0)))
theorem RG {rs rs':List xC} {l:List (Nat × Nat)} {A:Nat} (hl:l.length<=64) (h:∀ a,a<A->∀ p ∈ l,∀ q ∈ l,(yV rs a p=yV rs a q ↔ yV rs' a p=yV rs' a q)):uY rs l A=uY rs' l A:=by
 unfold uY;refine χ λa ha=>?_;have ha:=ζ.1 ha;unfold uL;refine χ λq hq=>?_;refine Aq λi _=>?_;rw [mS _ _ (by omega),mS _ _ (by omega)]
 by_cases hi:i<l.length
 ·have:=h a ha (l.getD i (0,0)) (xL hi) q hq;rw [decide_eq_true hi,As,As,decide_eq_decide];exact this
 ·rw [decide_eq_false hi,Ar,Ar]
theorem VB {p:yA} {F k:Nat} (hv:nr p F) (hk:k<=5) {sts:List (List (BitVec 64))} (hS:YO p F sts k) {t:Nat} (ht:t<k+1) :
  uY (lG (lG (pD p.xK sts (k+1)) p.xK.length (k+1) (pQ (pD p.xK sts (k+1)))) p.xK.length (k+1) (nQ (lG (pD p.xK sts (k+1)) p.xK.length (k+1) (pQ (pD p.xK sts (k+1)))))) (zM sts.length t) p.xK.length=uY (pD p.xK sts (k+1)) (zM sts.length t) p.xK.length:=by
 have ok:=Y5 hv hk hS;have hl:=jZ p.xK sts (k+1);have hsy:=Rh hv hk hS;have hre:=P2 hS;generalize pD p.xK sts (k+1)= rs at *;have hR:=ok.hR;have hcl:=aZ rs p.xK.length (k+1) (pQ rs);refine RG (by rw [qN]; omega) λa ha x hx y hy=>?_;simp only [zM,δ,ζ] at hx hy;obtain⟨i,hi,rfl⟩:=hx;obtain⟨j,hj,rfl⟩:=hy;have b1:∀ u,u<=t->(i,u).1<rs.length/\(i,u).2<k+1:=λu hu=>⟨by show i<_; omega,by show u<_; omega⟩;have b2:∀ u,u<=t->(j,u).1<rs.length/\(j,u).2<k+1:=λu hu=>⟨by show j<_; omega,by show u<_; omega⟩
 constructor
 ·intro h;have h1:=Uh ha (by rw [hcl]; exact b1 t (Ai t)) (by rw [hcl]; exact b2 t (Ai t)) h;exact YY ha (b1 t (Ai t)) (b2 t (Ai t)) h1
 ·intro h;refine(gK ha (by rw [hcl]; exact b1 t (Ai t)) (by rw [hcl]; exact b2 t (Ai t))).2 ?_;rw [gP,gP];refine re λu hu=>?_;refine(gK ha (b1 u (by omega)) (b2 u (by omega))).2 ?_
  have hu:yV rs a (i,u)= yV rs a (j,u):=by
   have key:∀ d,d<=t->yV rs a (i,t-d)= yV rs a (j,t-d):=by
    intro d
    induction d with
    | zero=>intro _; exact h
    | succ d ih=>
     intro hd;have:=R5 ok hsy hre ha (t:=t-d) (i:=i) (w:=j) (by omega) (by omega) (by omega) (by omega) (ih (by omega))
     rwa [show t-d-1=t-(d+1) by omega] at this
   have:=key (t-u) (by omega)
   rwa [show t-(t-u)= u by omega] at this
  unfold pQ;rw [hu]
end Kb
theorem Ou (p:yA):yU prog 42 [p.d] (.bool (dp p)):=by
 have hD:p.d = .agg [.int .i64 p.F,.sl 1 (us p.init),.sl 1 (us p.xK),.sl 1 (oB p.xJ),.sl 1 (oA p.code)]:=rfl;have hF:=LZ p;have hS:=λh=>ow (p:=p) (l:=[]) h;have hR:=λsm=>ZP p sm;unfold dp;rw [hD] at *;generalize mA p []=b at *;refine xY.xN mixed func42 FO (by simp) λhf=>?_
 cases b with
 | false=> simp only [simprocAttr,-ZA,↓zU,↓zD,zV,zT,zW];refine .go (cq hF) ?_;simp only [simprocAttr,-ZA,↓zU,↓zD,zV,zT,zW];exact .dv
 | true=>
  have hR:=hR (hS rfl);by_cases c1:p.init.length<=6
  case neg=>
   have c1':¬ ((p.init.length:Int)<=6):=by omega
   rw [decide_eq_false c1];simp only [simprocAttr,-ZA,↓zU,↓zD,zV,zT,zW];refine .go (cq hF) ?_;simp only [simprocAttr,-ZA,↓zU,↓zD,zV,zT,zW,xI,c1'];exact .dv
  have c1':((p.init.length:Int)<=6):=by omega
  by_cases c2:p.F<=4
  case neg=> rw [decide_eq_true c1,decide_eq_false c2];simp only [simprocAttr,-ZA,↓zU,↓zD,zV,zT,zW];refine .go (cq hF) ?_;simp only [simprocAttr,-ZA,↓zU,↓zD,zV,zT,zW,xI,c1',c2];exact .dv
  rw [decide_eq_true c1,decide_eq_true c2];simp only [simprocAttr,-ZA,↓zU,↓zD,zV,zT,zW];refine .go (cq hF) ?_;simp only [simprocAttr,-ZA,↓zU,↓zD,zV,zT,zW,xI,c1',c2];refine .go (cq hR) ?_;simp only [simprocAttr,-ZA,↓zU,↓zD,zV,zT,zW]
  exact .drop (by simp) (by
   simp only [vw,D.bool.injEq]
   by_cases hz:uN p=0
   ·rw [hz]; rfl
   ·rw [decide_eq_false hz];simpa using hz)
end Go.Pd

/- Part QB. -/
namespace Go.Pd
open Go Go.Proofs
open BitVec renaming isValue -> ZA
open Rs Fm Ru Te
namespace Te
structure Jn (j : Nat) (o : Int) (g : FuncId) : Prop where
 at_:kX.getD j [] = [.int .i64 o,.fn g []]
 op:cB.getD j 0=o
 run:∀ {nx kc ks:Nat} {km:Nat->Nat} {xZ:List (Nat × Ob)} {rs:List xC} {A F T:Nat} {n:Nd} {x y:nI} {xd yd:D},jH rs A F T->jD rs A F T kc ks km xZ->VN n rs.length T x y xd yd->Zu n A->(n.op=3\/n.op=9)->n.op=o ->
  xY prog g [.ref kc 6 0 0,.agg n.row,xd,yd] ⟨nx,xZ⟩ (.sl 1 (tD rs.length T (rG rs A T n x y))) ⟨nx,xZ⟩
theorem j6 {j:Nat} (h:j<9):∃ o g,Jn j o g:=by
 have hc:j=0\/j=1\/j=2\/j=3\/j=4\/j=5\/j=6\/j=7\/j=8:=by omega
 rcases hc with rfl | rfl | rfl | rfl | rfl | rfl | rfl | rfl | rfl
 ·exact⟨_,_,rfl,rfl,λok hS ho hn _ e=>MD ok hS ho hn e⟩
 all_goals exact⟨_,_,rfl,rfl,λ_ _ _ _ hk e=>by rcases hk with h | h <;> (rw [e] at h; exact absurd h (by decide))⟩
end Te
theorem HoldsK (s:tB) (f:List Nd) (hK:∀ p ∈ yY f,p.op=3\/p.op=9):yU prog 44 [s.d,.sl 6 (zB f)] (.wK [.sl 1 (dg s f),.int .i64 (dR s f)]):=by
 have hD:s.d = .agg [.int .i64 s.ag,.int .i64 s.fa,.int .i64 s.ln,.sl 2 (zK s.rs)]:=rfl;have hC:=vg s;have hF:=jR f;have hG:=ao f;have hT:=Zt f s.ag s.fa;have hE:dR s f=if lY s≠0 then lY s else if yT f≠0 then yT f else if (tY .andNot .i64 (wT f:Int) 271 != 0)= true then 10 else if tU f s.ag s.fa=false then 2 else 0:=rfl;have hR0:dR s f≠0->dg s f = []:=λh=>if_pos h;have hin:=λA=>OU (s:=s) (f:=f) (A:=A);rw [hD] at hC ⊢;by_cases c1:lY s=0
 case neg=>
  have e1:(lY s != 0)= true:=by simpa using c1
  rw [if_pos c1] at hE;rw [hR0 (by rw [hE]; exact c1),hE];refine xY.xN mixed func44 L0 (by simp) λhf=>?_;simp only [simprocAttr,-ZA,↓zU,↓zD,zV,zT,zW]
  (repeat refine sd ?_)
  refine .go (cq hC) ?_;simp only [simprocAttr,-ZA,↓zU,↓zD,zV,zT,zW,e1];exact .drop (by simp) (by simp [vw,vI])
 rw [if_neg (by simpa using c1)] at hE;by_cases c2:yT f=0
 case neg=>
  have e2:(yT f != 0)= true:=by simpa using c2
  rw [if_pos c2] at hE;rw [hR0 (by rw [hE]; exact c2),hE];rw [c1] at hC;refine xY.xN mixed func44 L0 (by simp) λhf=>?_;simp only [simprocAttr,-ZA,↓zU,↓zD,zV,zT,zW]
  (repeat refine sd ?_)
  refine .go (cq hC) ?_;simp only [simprocAttr,-ZA,↓zU,↓zD,zV,zT,zW];refine .go (cq hF) ?_;simp only [simprocAttr,-ZA,↓zU,↓zD,zV,zT,zW,e2];exact .drop (by simp) (by simp [vw,vI])
 rw [if_neg (by simpa using c2)] at hE;rw [c1] at hC;rw [c2] at hF
 by_cases c3:(tY .andNot .i64 (wT f:Int) 271 != 0)= true
 ·rw [if_pos c3] at hE;rw [hR0 (by rw [hE]; decide),hE];refine xY.xN mixed func44 L0 (by simp) λhf=>?_;simp only [simprocAttr,-ZA,↓zU,↓zD,zV,zT,zW]
  (repeat refine sd ?_)
  refine .go (cq hC) ?_;simp only [simprocAttr,-ZA,↓zU,↓zD,zV,zT,zW];refine .go (cq hF) ?_;simp only [simprocAttr,-ZA,↓zU,↓zD,zV,zT,zW];refine .go (cq hG) ?_;simp only [simprocAttr,-ZA,↓zU,↓zD,zV,zT,zW,c3];exact .drop (by simp) (by simp [vw,vI])
 rw [if_neg c3] at hE;have c3':(tY .andNot .i64 (wT f:Int) 271 != 0)= false:=by simpa using c3
 by_cases c4:tU f s.ag s.fa=false
 ·rw [if_pos c4] at hE;rw [hR0 (by rw [hE]; decide),hE];rw [c4] at hT;refine xY.xN mixed func44 L0 (by simp) λhf=>?_;simp only [simprocAttr,-ZA,↓zU,↓zD,zV,zT,zW]
  (repeat refine sd ?_)
  refine .go (cq hC) ?_;simp only [simprocAttr,-ZA,↓zU,↓zD,zV,zT,zW];refine .go (cq hF) ?_;simp only [simprocAttr,-ZA,↓zU,↓zD,zV,zT,zW];refine .go (cq hG) ?_;simp only [simprocAttr,-ZA,↓zU,↓zD,zV,zT,zW,c3']
  (repeat refine sd ?_)
  refine .go (cq hT) ?_;simp only [simprocAttr,-ZA,↓zU,↓zD,zV,zT,zW];exact .drop (by simp) (by simp [vw,vI])
 rw [if_neg c4] at hE;rw [show tU f s.ag s.fa=true by simpa using c4] at hT;rw [show dg s f=tD s.rs.length s.ln.toNat (T6 s.rs s.ag.toNat s.ln.toNat f) from if_neg (by rw [hE]; simp),hE];obtain⟨A,F,T,rs,rfl,ok⟩:=Vt c1;obtain⟨T1,T16⟩:=ok.hT;obtain⟨R1,R64⟩:=ok.hR;have hin:=hin A hE rfl ok.hA;have hcv:=xv f;have hc0:=ot c2;have hc2:(yY f).length<=200:=lV f _;have hP:=zu f;have hlast:T6 rs A T f=(wC rs A T (yY f) (yY f).length).getD ((yY f).length-1) λ_=>false:=rfl;simp only [Au] at *;rw [hlast];generalize yY f=c at hin hcv hc0 hc2 hP hK;refine xY.xN mixed func44 L0 (by simp) λhf=>?_;simp only [simprocAttr,-ZA,↓zU,↓zD,zV,zT,zW]
 (repeat refine sd ?_)
 refine .go (cq hC) ?_;simp only [simprocAttr,-ZA,↓zU,↓zD,zV,zT,zW];refine .go (cq hF) ?_;simp only [simprocAttr,-ZA,↓zU,↓zD,zV,zT,zW];refine .go (cq hG) ?_;simp only [simprocAttr,-ZA,↓zU,↓zD,zV,zT,zW,c3']
 (repeat refine sd ?_)
 refine .go (cq hT) ?_;simp only [simprocAttr,-ZA,↓zU,↓zD,zV,zT,zW];obtain⟨nb,objs0,hN,hB,hS⟩:=Jv c1 ok ⟨1,[(0,⟨4,[[.int .i64 (A:Int),.int .i64 (F:Int),.int .i64 (T:Int),.sl 2 (zK rs)]]⟩)]⟩;unfold sD at hN;simp only at hN hS hB;generalize (1+1:Nat)= kc at hN hS hB;generalize (1+2:Nat)= ks at hS hB;generalize (λi=>1+(3+i))= km at hS hB
 (repeat refine sd ?_)
 refine .go hN ?_;simp only [simprocAttr,-ZA,↓zU,↓zD,zV,zT,zW];refine .go (cr hP) ?_;simp only [simprocAttr,-ZA,↓zU,↓zD,zV,zT,zW,xG];have bc:=hB.c
 refine xP (λb:Nat × Nat × Nat × List (Nat × Ob)=>[(43,.int .i64 b.1),(42,.int .i64 c.length),(41,.sl 6 (zB c)),(9,xB b.2.1 1 (sK rs A T c b.1)),(8,.ref kc 6 0 0)]) (λb=>⟨b.2.2.1,b.2.2.2⟩)
  (λb=>b.1<=c.length/\nb<=b.2.2.1/\(∀ k,k<nb->St.look b.2.2.2 k=St.look objs0 k)/\ (0<b.1->nb<=b.2.1/\b.2.1<b.2.2.1/\St.look b.2.2.2 b.2.1=some ⟨1,sK rs A T c b.1⟩)) (λb=>c.length-b.1)
  (0,nb,nb,objs0) ⟨Aj _,Ai _,λ_ _=>rfl,λh=>absurd h (Nat.lt_irrefl _)⟩ ?_ ?_
 ·(refine xT.same ?_; simp [xS,Fr.get,sK,wC,xB])
 rintro ⟨k,kv,nx1,objs1⟩ ⟨hk,hn,hold,hval⟩;simp only at hk hn hold hval ⊢;refine xM mixed ?_;by_cases hkl:k<c.length
 case neg=>
  have hd:¬ ((k:Int)<(c.length:Int)):=by omega
  obtain rfl:k=c.length:=by omega
  obtain⟨v1,v2,v3⟩:=hval hc0;have hvl:=eW rs A T c c.length;have hne:sK rs A T c c.length ≠ []:=λe=>by rw [e] at hvl; simp at hvl; omega
  rw [mP hne,hvl];have hw:IntKind.i64.wrap ((c.length:Int)-1)= ((c.length-1:Nat):Int):=by rw [wrap_i64 (by omega)]; omega
  have hg:=xj (rs:=rs) (A:=A) (T:=T) (c:=c) (k:=c.length) (i:=c.length-1) (by omega);simp only [simprocAttr,-ZA,↓zU,↓zD,zV,zT,zW,hd,hw,v3,hvl,hg]
  (repeat refine sd ?_)
  exact .drop (by simp) (by simp [vw,vI])
 have hd:((k:Int)<(c.length:Int)):=by omega
 have hng:=sT c hkl;have hnv:=hcv k hkl;have hpm:=xL (d:=wA) hkl;obtain⟨hni,hn3⟩:=hin _ hpm;have hnK:=hK _ hpm;have hsucc:=Zo rs A T c k;obtain⟨ox,oy,ox0,oy0⟩:=rS hnv;generalize c.getD k wA=n at hnK hng hnv hni hn3 hsucc ox oy ox0 oy0;have hnr:n.row = [.int .i64 n.op,.int .i64 n.i,.int .i64 n.e,.int .i64 n.g,.int .i64 n.x,.int .i64 n.y]:=rfl;rw [hnr] at hng
 rcases Nat.eq_zero_or_pos k with hk0 | hkp
 ·subst hk0;have hopd:VN n rs.length T ((wC rs A T c 0).getD n.x.toNat λ_=>false) ((wC rs A T c 0).getD n.y.toNat λ_=>false) .xO .xO:=⟨λh=>absurd (ox h).2 (Al _),λh=>absurd (oy h).2 (Al _)⟩;rw [show xB kv 1 (sK rs A T c 0)= .xO from rfl];have hd0:((0:Int)<(c.length:Int)):=by omega
  simp only [simprocAttr,-ZA,↓zU,↓zD,zV,zT,zW,hd0,xG,hng]
  (repeat refine sd ?_)
  refine .go (cq WI) ?_;simp only [simprocAttr,-ZA,↓zU,↓zD,zV,zT,zW]
  (repeat refine sd ?_)
  rw [show kX.length=9 from rfl]
  refine uZ (λb:Nat × Nat × List (Nat × Ob)=>[(62,.int .i64 b.1),(61,.int .i64 9),(60,.sl 2 kX),(14,r8 rs A T n ((wC rs A T c 0).getD n.x.toNat λ_=>false) ((wC rs A T c 0).getD n.y.toNat λ_=>false) b.1),(43,.int .i64 (0:Nat)),(42,.int .i64 c.length),(41,.sl 6 (zB c)),(13,.xO),(12,.xO),(11,.ref nx1 6 0 0),(9,.xO),(8,.ref kc 6 0 0)]) (λb=>⟨b.2.1,b.2.2⟩)
   (λb=>b.1<=9/\nx1<b.2.1/\(∀ q,q<nx1->St.look b.2.2 q=St.look objs1 q)/\ St.look b.2.2 nx1=some ⟨6,[[.int .i64 n.op,.int .i64 n.i,.int .i64 n.e,.int .i64 n.g,.int .i64 n.x,.int .i64 n.y]]⟩) (λb=>9-b.1)
   (0,nx1+1,(nx1,⟨6,[[.int .i64 n.op,.int .i64 n.i,.int .i64 n.e,.int .i64 n.g,.int .i64 n.x,.int .i64 n.y]]⟩) :: objs1) ⟨Aj _,Am _,λq hq=>?_,?_⟩ ?_ ?_
  ·simp only; rw [xX,if_neg (by omega)]
  ·simp only; rw [xX,if_pos rfl]
  ·(refine xT.same ?_; simp [xS,Fr.get,r8])
  rintro ⟨j,nx2,objs2⟩ ⟨hj,hn2,hold2,hnode⟩;simp only at hj hn2 hold2 hnode ⊢;have hS2:jD rs A F T kc ks km objs2:=hS.frame hB λq hq=>by rw [hold2 q (by omega),hold q hq]
  refine xM mixed ?_
  by_cases hj9:j<9
  ·have hdj:((j:Int)<9):=by omega
   obtain⟨o,g,hat,hop,hrun⟩:=j6 hj9;have hgs:=ic (rs:=rs) (A:=A) (T:=T) (n:=n) (x:=((wC rs A T c 0).getD n.x.toNat λ_=>false)) (y:=((wC rs A T c 0).getD n.y.toNat λ_=>false)) hj9;rw [hop] at hgs;have z3:¬ nx2=nx1:=by omega
   by_cases ho:n.op=o
   ·have hc:=hrun (nx:=nx2+1) (xZ:=(nx2,⟨2,[[.int .i64 o,.fn g []]]⟩) :: objs2) ok (hS2.N8 (nx2:=nx2) (nb:=nb) hB (by omega) _) hopd hni hnK ho;rw [hnr] at hc;rw [if_pos ho] at hgs;have e1:(o==n.op)= true:=by rw [ho]; exact beq_self_eq_true _
    simp only [simprocAttr,-ZA,↓zU,↓zD,zV,zT,zW,hdj,hat,show kX.length=9 from rfl,hnode,z3,e1]
    (repeat refine sd ?_)
    refine .go hc ?_;simp only [simprocAttr,-ZA,↓zU,↓zD,zV,zT,zW];refine⟨(j+1,nx2+1,?zoA0),⟨by show j+1<=9; omega,by show nx1<nx2+1; omega,λq hq=>?_,?_⟩,?zwA0,by show 9-(j+1)<9-j; omega⟩
    case zwA0=>
     (refine xT.same ?_; simp only [xS,Fr.get,simprocAttr,-ZA,zS,hgs])
     exact vP (by omega)
    ·simp only; rw [xX,if_neg (by omega)]; exact hold2 q hq
    ·simp only; rw [xX,if_neg (by omega)]; exact hnode
   ·rw [if_neg ho] at hgs;have e1:(o==n.op)= false:=by rw [beq_eq_false_iff_ne]; exact λe=>ho e.symm
    simp only [simprocAttr,-ZA,↓zU,↓zD,zV,zT,zW,hdj,hat,show kX.length=9 from rfl,hnode,z3,e1]
    (repeat refine sd ?_)
    refine⟨(j+1,nx2+1,?zoB0),⟨by show j+1<=9; omega,by show nx1<nx2+1; omega,λq hq=>?_,?_⟩,?zwB0,by show 9-(j+1)<9-j; omega⟩
    case zwB0=>
     (refine xT.same ?_; simp only [xS,Fr.get,simprocAttr,-ZA,zS,hgs])
     exact vP (by omega)
    ·simp only; rw [xX,if_neg (by omega)]; exact hold2 q hq
    ·simp only; rw [xX,if_neg (by omega)]; exact hnode
  have hdj:¬ ((j:Int)<9):=by omega
  obtain rfl:j=9:=by omega
  rw [ib];simp only [simprocAttr,-ZA,↓zU,↓zD,zV,zT,zW,hdj];refine .yD ?_
  have hend:∀ (fr:Fr),xS fr [(43,.int .i64 ((0+1:Nat):Int)),(42,.int .i64 c.length),(41,.sl 6 (zB c)),(9,.yM nx2 1 (0+1)),(8,.ref kc 6 0 0)]->∃ b:Nat × Nat × Nat × List (Nat × Ob),
    (b.1<=c.length/\nb<=b.2.2.1/\(∀ k,k<nb->St.look b.2.2.2 k=St.look objs0 k)/\ (0<b.1->nb<=b.2.1/\b.2.1<b.2.2.1/\St.look b.2.2.2 b.2.1=some ⟨1,sK rs A T c b.1⟩))/\
    xT ⟨prog,97,0,[],none⟩ fr ⟨nx2+1,(nx2,⟨1,sK rs A T c (0+1)⟩) :: objs2⟩ [(43,.int .i64 b.1),(42,.int .i64 c.length),(41,.sl 6 (zB c)),(9,xB b.2.1 1 (sK rs A T c b.1)),(8,.ref kc 6 0 0)] ⟨b.2.2.1,b.2.2.2⟩/\ c.length-b.1<c.length-0:=by
   intro fr hfr;have hvl':=eW rs A T c (0+1);have hne':sK rs A T c (0+1)≠ []:=λe=>by rw [e] at hvl'; simp at hvl'
   refine⟨(0+1,nx2,nx2+1,_),⟨by show 0+1<=c.length; omega,by show nb<=nx2+1; omega,λq hq=>?_,λ_=>⟨by show nb<=nx2; omega,Am _,?_⟩⟩,xT.same ?_,by show c.length-(0+1)<c.length-0; omega⟩
   ·simp only; rw [xX,if_neg (by omega)]; rw [hold2 q (by omega),hold q hq]
   ·simp only; rw [xX,if_pos rfl]
   ·simp only;rw [mP hne',hvl']; exact hfr
  by_cases hop:n.op ∈ cB
  ·rw [if_pos hop];have hsx:=hsucc;generalize rG rs A T n ((wC rs A T c 0).getD n.x.toNat λ_=>false) ((wC rs A T c 0).getD n.y.toNat λ_=>false)= φ at hsx;obtain⟨e,r,her⟩:=jr R1 φ;have hp:((D.sl 1 (e :: r)).xD)= true:=rfl;rw [her] at hsx ⊢;simp only [simprocAttr,-ZA,↓zU,↓zD,zV,zT,zW,hp ]
   (repeat refine sd ?_)
   rw [show sK rs A T c 0 = [] from rfl,κ] at hsx;rw [<- hsx];refine hend _ ?_;simp only [xS,Fr.get,↓reduceIte,reduceIte,Ak,reduceCtorEq,D.int.injEq,D.yM.injEq,and_true,true_and,and_self]; exact vP (k:=0) (by omega)
  ·rw [if_neg hop];have hc:=SZ (nx:=nx2) (xZ:=objs2) ok hopd hn3 .xO .xO hS2.c;rw [hnr,<- pw hop] at hc;have hsx:=hsucc;generalize rG rs A T n ((wC rs A T c 0).getD n.x.toNat λ_=>false) ((wC rs A T c 0).getD n.y.toNat λ_=>false)= φ at hsx hc;simp only [simprocAttr,-ZA,↓zU,↓zD,zV,zT,zW,hnode]
   (repeat refine sd ?_)
   refine .go hc ?_;simp only [simprocAttr,-ZA,↓zU,↓zD,zV,zT,zW,hnode]
   (repeat refine sd ?_)
   rw [show sK rs A T c 0 = [] from rfl,κ] at hsx;rw [<- hsx];refine hend _ ?_;simp only [xS,Fr.get,↓reduceIte,reduceIte,Ak,reduceCtorEq,D.int.injEq,D.yM.injEq,and_true,true_and,and_self]; exact vP (k:=0) (by omega)
 ·have hdp:((0:Int)<(k:Int)):=by omega
  obtain⟨v1,v2,v3⟩:=hval hkp;have hvl:=eW rs A T c k;have hne:sK rs A T c k ≠ []:=λe=>by rw [e] at hvl; simp at hvl; omega
  rw [mP hne,hvl]
  have hxk:0<=n.x/\n.x.toNat<k:=by
   cases hu:(xW n.op).1.x with
   | true=>exact ox hu
   | false=>rw [ox0 hu]; exact⟨Int.le_refl _,hkp⟩
  have hyk:0<=n.y/\n.y.toNat<k:=by
   cases hu:(xW n.op).1.y with
   | true=>exact oy hu
   | false=>rw [oy0 hu]; exact⟨Int.le_refl _,hkp⟩
  have hgx:=xj (rs:=rs) (A:=A) (T:=T) (c:=c) hxk.2;have hgy:=xj (rs:=rs) (A:=A) (T:=T) (c:=c) hyk.2;have hopd:VN n rs.length T ((wC rs A T c k).getD n.x.toNat λ_=>false) ((wC rs A T c k).getD n.y.toNat λ_=>false) (.sl 1 (tD rs.length T ((wC rs A T c k).getD n.x.toNat λ_=>false))) (.sl 1 (tD rs.length T ((wC rs A T c k).getD n.y.toNat λ_=>false))):=⟨λ_=>rfl,λ_=>rfl⟩;have z1:¬ nx1=kv:=by omega
  simp only [simprocAttr,-ZA,↓zU,↓zD,zV,zT,zW,hd,xG,hng,hdp,v3,hvl,hgx,hgy,z1]
  (repeat refine sd ?_)
  refine .go (cq WI) ?_;simp only [simprocAttr,-ZA,↓zU,↓zD,zV,zT,zW]
  (repeat refine sd ?_)
  rw [show kX.length=9 from rfl]
  refine uZ (λb:Nat × Nat × List (Nat × Ob)=>[(62,.int .i64 b.1),(61,.int .i64 9),(60,.sl 2 kX),(14,r8 rs A T n ((wC rs A T c k).getD n.x.toNat λ_=>false) ((wC rs A T c k).getD n.y.toNat λ_=>false) b.1),(43,.int .i64 (k:Nat)),(42,.int .i64 c.length),(41,.sl 6 (zB c)),(13,(.sl 1 (tD rs.length T ((wC rs A T c k).getD n.y.toNat λ_=>false)))),(12,(.sl 1 (tD rs.length T ((wC rs A T c k).getD n.x.toNat λ_=>false)))),(11,.ref nx1 6 0 0),(9,.yM kv 1 k),(8,.ref kc 6 0 0)]) (λb=>⟨b.2.1,b.2.2⟩)
   (λb=>b.1<=9/\nx1<b.2.1/\(∀ q,q<nx1->St.look b.2.2 q=St.look objs1 q)/\ St.look b.2.2 nx1=some ⟨6,[[.int .i64 n.op,.int .i64 n.i,.int .i64 n.e,.int .i64 n.g,.int .i64 n.x,.int .i64 n.y]]⟩) (λb=>9-b.1)
   (0,nx1+1,(nx1,⟨6,[[.int .i64 n.op,.int .i64 n.i,.int .i64 n.e,.int .i64 n.g,.int .i64 n.x,.int .i64 n.y]]⟩) :: objs1) ⟨Aj _,Am _,λq hq=>?_,?_⟩ ?_ ?_
  ·simp only; rw [xX,if_neg (by omega)]
  ·simp only; rw [xX,if_pos rfl]
  ·(refine xT.same ?_; simp [xS,Fr.get,r8])
  rintro ⟨j,nx2,objs2⟩ ⟨hj,hn2,hold2,hnode⟩;simp only at hj hn2 hold2 hnode ⊢;have hS2:jD rs A F T kc ks km objs2:=hS.frame hB λq hq=>by rw [hold2 q (by omega),hold q hq]
  refine xM mixed ?_
  by_cases hj9:j<9
  ·have hdj:((j:Int)<9):=by omega
   obtain⟨o,g,hat,hop,hrun⟩:=j6 hj9;have hgs:=ic (rs:=rs) (A:=A) (T:=T) (n:=n) (x:=((wC rs A T c k).getD n.x.toNat λ_=>false)) (y:=((wC rs A T c k).getD n.y.toNat λ_=>false)) hj9;rw [hop] at hgs;have z3:¬ nx2=nx1:=by omega
   by_cases ho:n.op=o
   ·have hc:=hrun (nx:=nx2+1) (xZ:=(nx2,⟨2,[[.int .i64 o,.fn g []]]⟩) :: objs2) ok (hS2.N8 (nx2:=nx2) (nb:=nb) hB (by omega) _) hopd hni hnK ho;rw [hnr] at hc;rw [if_pos ho] at hgs;have e1:(o==n.op)= true:=by rw [ho]; exact beq_self_eq_true _
    simp only [simprocAttr,-ZA,↓zU,↓zD,zV,zT,zW,hdj,hat,show kX.length=9 from rfl,hnode,z3,e1]
    (repeat refine sd ?_)
    refine .go hc ?_;simp only [simprocAttr,-ZA,↓zU,↓zD,zV,zT,zW];refine⟨(j+1,nx2+1,?zoAk),⟨by show j+1<=9; omega,by show nx1<nx2+1; omega,λq hq=>?_,?_⟩,?zwAk,by show 9-(j+1)<9-j; omega⟩
    case zwAk=>
     (refine xT.same ?_; simp only [xS,Fr.get,simprocAttr,-ZA,zS,hgs])
     exact vP (by omega)
    ·simp only; rw [xX,if_neg (by omega)]; exact hold2 q hq
    ·simp only; rw [xX,if_neg (by omega)]; exact hnode
   ·rw [if_neg ho] at hgs;have e1:(o==n.op)= false:=by rw [beq_eq_false_iff_ne]; exact λe=>ho e.symm
    simp only [simprocAttr,-ZA,↓zU,↓zD,zV,zT,zW,hdj,hat,show kX.length=9 from rfl,hnode,z3,e1]
    (repeat refine sd ?_)
    refine⟨(j+1,nx2+1,?zoBk),⟨by show j+1<=9; omega,by show nx1<nx2+1; omega,λq hq=>?_,?_⟩,?zwBk,by show 9-(j+1)<9-j; omega⟩
    case zwBk=>
     (refine xT.same ?_; simp only [xS,Fr.get,simprocAttr,-ZA,zS,hgs])
     exact vP (by omega)
    ·simp only; rw [xX,if_neg (by omega)]; exact hold2 q hq
    ·simp only; rw [xX,if_neg (by omega)]; exact hnode
  have hdj:¬ ((j:Int)<9):=by omega
  obtain rfl:j=9:=by omega
  rw [ib];simp only [simprocAttr,-ZA,↓zU,↓zD,zV,zT,zW,hdj];refine .yD ?_
  have hend:∀ (fr:Fr),xS fr [(43,.int .i64 ((k+1:Nat):Int)),(42,.int .i64 c.length),(41,.sl 6 (zB c)),(9,.yM nx2 1 (k+1)),(8,.ref kc 6 0 0)]->∃ b:Nat × Nat × Nat × List (Nat × Ob),
    (b.1<=c.length/\nb<=b.2.2.1/\(∀ k,k<nb->St.look b.2.2.2 k=St.look objs0 k)/\ (0<b.1->nb<=b.2.1/\b.2.1<b.2.2.1/\St.look b.2.2.2 b.2.1=some ⟨1,sK rs A T c b.1⟩))/\
    xT ⟨prog,97,0,[],none⟩ fr ⟨nx2+1,(nx2,⟨1,sK rs A T c (k+1)⟩) :: yC objs2 kv⟩ [(43,.int .i64 b.1),(42,.int .i64 c.length),(41,.sl 6 (zB c)),(9,xB b.2.1 1 (sK rs A T c b.1)),(8,.ref kc 6 0 0)] ⟨b.2.2.1,b.2.2.2⟩/\ c.length-b.1<c.length-k:=by
   intro fr hfr;have hvl':=eW rs A T c (k+1);have hne':sK rs A T c (k+1)≠ []:=λe=>by rw [e] at hvl'; simp at hvl'
   refine⟨(k+1,nx2,nx2+1,_),⟨by show k+1<=c.length; omega,by show nb<=nx2+1; omega,λq hq=>?_,λ_=>⟨by show nb<=nx2; omega,Am _,?_⟩⟩,xT.same ?_,by show c.length-(k+1)<c.length-k; omega⟩
   ·simp only; rw [xX,if_neg (by omega)]; rw [xF,if_neg (by omega),hold2 q (by omega),hold q hq]
   ·simp only; rw [xX,if_pos rfl]
   ·simp only;rw [mP hne',hvl']; exact hfr
  by_cases hop:n.op ∈ cB
  ·rw [if_pos hop];have hsx:=hsucc;generalize rG rs A T n ((wC rs A T c k).getD n.x.toNat λ_=>false) ((wC rs A T c k).getD n.y.toNat λ_=>false)= φ at hsx;obtain⟨e,r,her⟩:=jr R1 φ;have hp:((D.sl 1 (e :: r)).xD)= true:=rfl;rw [her] at hsx ⊢;simp only [simprocAttr,-ZA,↓zU,↓zD,zV,zT,zW,hp ,(hold2 kv v2).trans v3,hvl]
   (repeat refine sd ?_)
   rw [η (by omega),<- hsx];refine hend _ ?_;simp only [xS,Fr.get,↓reduceIte,reduceIte,Ak,reduceCtorEq,D.int.injEq,D.yM.injEq,and_true,true_and,and_self]; exact vP (k:=k) (by omega)
  ·rw [if_neg hop];have hc:=SZ (nx:=nx2) (xZ:=objs2) ok hopd hn3 (.sl _ _) (.sl _ _) hS2.c;rw [hnr,<- pw hop] at hc;have hsx:=hsucc;generalize rG rs A T n ((wC rs A T c k).getD n.x.toNat λ_=>false) ((wC rs A T c k).getD n.y.toNat λ_=>false)= φ at hsx hc;simp only [simprocAttr,-ZA,↓zU,↓zD,zV,zT,zW,hnode]
   (repeat refine sd ?_)
   refine .go hc ?_;simp only [simprocAttr,-ZA,↓zU,↓zD,zV,zT,zW,(hold2 kv v2).trans v3,hvl]
   (repeat refine sd ?_)
   rw [η (by omega),<- hsx];refine hend _ ?_;simp only [xS,Fr.get,↓reduceIte,reduceIte,Ak,reduceCtorEq,D.int.injEq,D.yM.injEq,and_true,true_and,and_self]; exact vP (k:=k) (by omega)
open Rs Fm Ru Te Kb
theorem Lj : ∀ p ∈ yY (kE 1 (sW 0)),p.op=3\/p.op=9:=by decide +kernel
theorem Yt : yU prog 41 [] (.bool true):=by
 have hp:Ml.xD=true:=rfl;have S1:Seen gY (λ_=>False) Ml NJ.d:=Li.seen hp;have hP:yU prog 19 [Ml,.int .i64 3] (.wK [L7.d,.int .i64 0]):=yU.seen (args':=[NJ.d,.int .i64 3]) (by have:=SN NJ Q8 3; rwa [No,SX] at this) ⟨S1,Seen.pure rfl,trivial⟩;have hH:=HoldsK L7 (kE 1 (sW 0)) Lj;rw [Nn,Q7] at hH;have c1:=SK 0;have c2:=SL 1 (sW 0);have hE:=Td;have eS:∃ rs,L7.d = .agg [.int .i64 2,.int .i64 2,.int .i64 3,.sl 2 rs]:=⟨_,rfl⟩;obtain⟨rs,eS⟩:=eS;rw [eS] at hP hH;generalize Ml=d at *;generalize kE 1 (sW 0)= g1 at *;generalize sW 0=g2 at *;have hrs:D.xR [D.agg [.int .i64 2,.int .i64 2,.int .i64 3,.sl 2 rs],.sl 6 (zB g1)]=true:=by simp [D.xR,D.xD]
 refine xY.xN mixed func41 FN (by simp) λhf=>?_;simp only [simprocAttr,-ZA,↓zU,↓zD,zV,zT,zW];refine .go (cq hE) ?_;simp only [simprocAttr,-ZA,↓zU,↓zD,zV,zT,zW];refine .go (xY.yH hP (by simp [D.xR,D.xD,hp])) ?_;simp only [simprocAttr,-ZA,↓zU,↓zD,zV,zT,zW]
 (repeat refine sd ?_)
 refine .go (cq c1) ?_;simp only [simprocAttr,-ZA,↓zU,↓zD,zV,zT,zW];refine .go (cr c2) ?_;simp only [simprocAttr,-ZA,↓zU,↓zD,zV,zT,zW];refine .go (xY.yH hH hrs) ?_;simp only [simprocAttr,-ZA,↓zU,↓zD,zV,zT,zW]
 (repeat refine sd ?_)
 exact .dv
open Rs Fm Ru Te Kb
theorem MF (p:yA) (n:Nat) (hn:n<256):yU prog 13 [p.d,.int .u8 (n:Int)] (.bool true):=by
 have hD:p.d = .agg [.int .i64 p.F,.sl 1 (us p.init),.sl 1 (us p.xK),.sl 1 (oB p.xJ),.sl 1 (oA p.code)]:=rfl;have hB:=Ou p;have hA:=Yt;have hP:=λsm=>SN p sm ((n % 3+1:Nat):Int);have e1:IntKind.i64.wrap (n:Int)= (n:Int):=wrap_i64 (by omega)
 have e2:((n:Int)).tmod 3=((n % 3:Nat):Int):=by rw [Int.tmod_eq_emod_of_nonneg (by omega)]; omega
 have e3:IntKind.i64.wrap (1+((n % 3:Nat):Int))= ((n % 3+1:Nat):Int):=by rw [wrap_i64 (by omega)]; omega
 rw [hD] at *
 cases hb:dp p with
 | false=> rw [hb] at hB;refine xY.xN mixed func13 k13 (by simp) λhf=>?_;simp only [simprocAttr,-ZA,↓zU,↓zD,zV,zT,zW];refine .go (cq hA) ?_;simp only [simprocAttr,-ZA,↓zU,↓zD,zV,zT,zW];refine .go (cq hB) ?_;simp only [simprocAttr,-ZA,↓zU,↓zD,zV,zT,zW];refine .go (cq hA) ?_;simp only [simprocAttr,-ZA,↓zU,↓zD,zV,zT,zW];exact .dv
 | true=>
 rw [hb] at hB;unfold dp at hb;simp only [Bool.and_eq_true,decide_eq_true_eq] at hb;obtain⟨b1,b2,b3,hz⟩:=hb;have hP:=hP (ow b1);obtain⟨h0,F,hv,hs⟩:=Z7 (k:=n % 3) hz (by omega);have hS:=bL hv (n % 3);have ok:=Y5 hv (show n % 3<=5 by omega) hS;have hRel:=λt (ht:t<n % 3+1)=>VB hv (show n % 3<=5 by omega) hS ht;have hl:=jZ p.xK (vE p (n % 3)) (n % 3+1);rw [h0,hs] at hP;unfold tB.d tB.cells at hP;simp only at hP;have hA4:=hv.hA;clear hs;generalize pD p.xK (vE p (n % 3)) (n % 3+1)= rs at *;rw [<- hl] at hRel;have hCl:=Nh ok;have okc:=WD (kf:=pQ rs) ok;have hcl:=aZ rs p.xK.length (n % 3+1) (pQ rs);generalize lG rs p.xK.length (n % 3+1) (pQ rs)= cs at *;have hRm:=ZV okc;have okr:=WD (kf:=nQ cs) okc;have hrl:=aZ cs p.xK.length (n % 3+1) (nQ cs);generalize lG cs p.xK.length (n % 3+1) (nQ cs)= qs at *;unfold sD at hCl hRm
 have hSl:∀ (r:List xC),jH r p.xK.length F (n % 3+1)->∀ t,t<n % 3+1->yU prog 30 [.agg [.int .i64 (p.xK.length:Int),.int .i64 (F:Int),.int .i64 ((n % 3+1:Nat):Int),.sl 2 (zK r)],.int .i64 (t:Int)]
   (.wK [.agg [.int .i64 ((zM r.length t).length:Int),.sl 1 (us (qE r (zM r.length t) F)),.sl 1 (rr (uY r (zM r.length t) p.xK.length))],.int .i64 0]):=λr okk t ht=>by
  have:=NT ⟨p.xK.length,F,((n % 3+1:Nat):Int),r⟩ t;unfold xt at this;rw [if_neg (by simpa using bK okk),if_neg (by show ¬ ((t:Int)<0\/((n % 3+1:Nat):Int)<=(t:Int)); omega)] at this;exact this
 have hs1:=hSl rs ok;have hs2:=hSl qs okr;have hR1:=ok.hR;refine xY.xN mixed func13 k13 (by simp) λhf=>?_;simp only [simprocAttr,-ZA,↓zU,↓zD,zV,zT,zW];refine .go (cq hA) ?_;simp only [simprocAttr,-ZA,↓zU,↓zD,zV,zT,zW];refine .go (cq hB) ?_;simp only [simprocAttr,-ZA,↓zU,↓zD,zV,zT,zW,e1,e2,e3]
 (repeat refine sd ?_)
 refine .go (cq hP) ?_;simp only [simprocAttr,-ZA,↓zU,↓zD,zV,zT,zW]
 (repeat refine sd ?_)
 refine .go (cq hCl) ?_;simp only [simprocAttr,-ZA,↓zU,↓zD,zV,zT,zW]
 (repeat refine sd ?_)
 refine .go (cq hRm) ?_;simp only [simprocAttr,-ZA,↓zU,↓zD,zV,zT,zW]
 (repeat refine sd ?_)
 refine xP (λt:Nat=>[(58,.int .i64 t),(57,.int .i64 (n % 3+1:Nat)),(10,.ref 3 4 0 0),(6,.ref 1 4 0 0)])
  (λ_=>⟨4,[(3,⟨4,[[.int .i64 (p.xK.length:Int),.int .i64 (F:Int),.int .i64 ((n % 3+1:Nat):Int),.sl 2 (zK qs)]]⟩),(1,⟨4,[[.int .i64 (p.xK.length:Int),.int .i64 (F:Int),.int .i64 ((n % 3+1:Nat):Int),.sl 2 (zK rs)]]⟩)]⟩)
  (λt=>t<=n % 3+1) (λt=>n % 3+1-t) 0 (Aj _) ?_ ?_
 ·(refine xT.tP [] [3,1] (by simp) (by simp) (by decide) ?_; simp only [yQ,zQ,simprocAttr,-ZA,exists_eq_left',ne_eq,zR])
 intro t ht;refine xM mixed ?_;by_cases htT:t<n % 3+1
 case neg=>
  have hd:¬ ((t:Int)<((n % 3+1:Nat):Int)):=by omega
  simp only [simprocAttr,-ZA,↓zU,↓zD,zV,zT,zW,hd];exact .dv
 have hd:((t:Int)<((n % 3+1:Nat):Int)):=by omega
 have hs1:=hs1 t htT;have hs2:=hs2 t htT;have hRel:=hRel t htT;rw [qN] at hs1 hs2;rw [hrl,hcl,hRel] at hs2;have hRR:(uY rs (zM rs.length t) p.xK.length).length=p.xK.length:=by simp [uY]
 have hRW:∀ a,a<p.xK.length->((uY rs (zM rs.length t) p.xK.length).getD a []).length=rs.length:=λa ha=>by simp [uY,uL,List.getD,ha,zM]
 generalize uY rs (zM rs.length t) p.xK.length=RR at *;generalize us (qE rs (zM rs.length t) F)= V1 at *;generalize us (qE qs (zM rs.length t) F)= V2 at *;have hq0:((rs.length:Int) != (rs.length:Int))= false:=by simp
 have hq1:((p.xK.length:Int) != (p.xK.length:Int))= false:=by simp
 simp only [simprocAttr,-ZA,↓zU,↓zD,zV,zT,zW,hd]
 (repeat refine sd ?_)
 refine .go (cq hs1) ?_;simp only [simprocAttr,-ZA,↓zU,↓zD,zV,zT,zW]
 (repeat refine sd ?_)
 refine .go (cq hs2) ?_;simp only [simprocAttr,-ZA,↓zU,↓zD,zV,zT,zW,zE,hRR,hq0,hq1]
 (repeat refine sd ?_)
 refine xP (λa:Nat=>[(98,.int .i64 a),(97,.int .i64 p.xK.length),(58,.int .i64 t),(57,.int .i64 (n % 3+1:Nat)),(15,.ref 5 3 0 0),(13,.ref 4 3 0 0),(10,.ref 3 4 0 0),(6,.ref 1 4 0 0)])
  (λ_=>⟨6,[(5,⟨3,[[.int .i64 rs.length,.sl 1 V2,.sl 1 (rr RR)]]⟩),(4,⟨3,[[.int .i64 rs.length,.sl 1 V1,.sl 1 (rr RR)]]⟩),(3,⟨4,[[.int .i64 (p.xK.length:Int),.int .i64 (F:Int),.int .i64 ((n % 3+1:Nat):Int),.sl 2 (zK qs)]]⟩),(1,⟨4,[[.int .i64 (p.xK.length:Int),.int .i64 (F:Int),.int .i64 ((n % 3+1:Nat):Int),.sl 2 (zK rs)]]⟩)]⟩)
  (λa=>a<=p.xK.length) (λa=>p.xK.length-a) 0 (Aj _) ?_ ?_
 ·(refine xT.same ?_; simp [xS,Fr.get])
 intro a ha;refine xM mixed ?_;by_cases haA:a<p.xK.length
 case neg=>
  have hd2:¬ ((a:Int)<(p.xK.length:Int)):=by omega
  simp only [simprocAttr,-ZA,↓zU,↓zD,zV,zT,zW,hd2];refine⟨t+1,htT,?_,by omega⟩
  (refine xT.tP [] [3,1] (by simp) (by simp) (by decide) ?_; simp only [yQ,zQ,simprocAttr,-ZA,exists_eq_left',ne_eq,zR,pN (show t<=1000000000 by omega)])
 have hd2:((a:Int)<(p.xK.length:Int)):=by omega
 have g1:=nC RR (show a<RR.length by omega);have g2:=hRW a haA;simp only [simprocAttr,-ZA,↓zU,↓zD,zV,zT,zW,hd2,zE,hRR,g1,xI,g2,hq0]
 (repeat refine sd ?_)
 refine xP (λw:Nat=>[(120,.int .i64 w),(119,.int .i64 rs.length),(98,.int .i64 a),(97,.int .i64 p.xK.length),(58,.int .i64 t),(57,.int .i64 (n % 3+1:Nat)),(17,.int .i64 a),(15,.ref 5 3 0 0),(13,.ref 4 3 0 0),(10,.ref 3 4 0 0),(6,.ref 1 4 0 0)])
  (λ_=>⟨6,[(5,⟨3,[[.int .i64 rs.length,.sl 1 V2,.sl 1 (rr RR)]]⟩),(4,⟨3,[[.int .i64 rs.length,.sl 1 V1,.sl 1 (rr RR)]]⟩),(3,⟨4,[[.int .i64 (p.xK.length:Int),.int .i64 (F:Int),.int .i64 ((n % 3+1:Nat):Int),.sl 2 (zK qs)]]⟩),(1,⟨4,[[.int .i64 (p.xK.length:Int),.int .i64 (F:Int),.int .i64 ((n % 3+1:Nat):Int),.sl 2 (zK rs)]]⟩)]⟩)
  (λw=>w<=rs.length) (λw=>rs.length-w) 0 (Aj _) ?_ ?_
 ·(refine xT.same ?_; simp [xS,Fr.get])
 intro w hw;refine xM mixed ?_;by_cases hwR:w<rs.length
 case neg=>
  have hd3:¬ ((w:Int)<(rs.length:Int)):=by omega
  simp only [simprocAttr,-ZA,↓zU,↓zD,zV,zT,zW,hd3];refine⟨a+1,haA,?_,by omega⟩
  (refine xT.same ?_; simp only [xS,Fr.get,simprocAttr,-ZA,zS])
  exact pN (by omega)
 have hd3:((w:Int)<(rs.length:Int)):=by omega
 have g3:=vX (RR.getD a []) (show w<(RR.getD a []).length by omega);simp only [simprocAttr,-ZA,↓zU,↓zD,zV,zT,zW,hd3,zE,hRR,g1,xI,g2,g3,bne_self_eq_false]
 (repeat refine sd ?_)
 refine⟨w+1,hwR,?_,by omega⟩
 (refine xT.same ?_; simp only [xS,Fr.get,simprocAttr,-ZA,zS])
 exact pN (by omega)
end Go.Pd
