/- Part KX. -/
import Derived.Test.YtndfaefmmcoapaaGreatUdKW
set_option linter.unusedSectionVars false
set_option linter.unusedVariables false
set_option linter.unusedSimpArgs false
set_option linter.defProp false
set_option maxRecDepth 20000
set_option maxHeartbeats 1000000
namespace Go.Pd
open Go Go.Proofs
open Rs Fm Ru Te Kb
namespace Kb
def plO (p:PrA) (kS n:Nat):Ob:=⟨6,[[.int .i64 p.F,.sl 1 (us p.init),.sl 1 (us p.see),.sl 1 (mvR p.xF),.sl 1 (cdR p.code),.osl kS 1 n]]⟩
structure PlI (p : PrA) (sts : List (List (BitVec 64))) (kx kS : Nat) (ks : List Nat) (xZ : List (Nat × Ob)) : Prop where
 hx:St.look xZ kx=some (plO p kS sts.length)
 nst:Nst xZ kS ks (sts.map us)
 nd:ks.Nodup
 ne:kx≠kS
 xs:kx ∉ ks
 ss:kS ∉ ks
def plL (p:PrA) (b:Nat) (sts:List (List (BitVec 64))):List (Nat × Ob):=(0,plO p 1 sts.length) :: (1,⟨1,pU (List.range' b sts.length) (sts.map us)⟩) :: (List.range sts.length).map fun i=>(b+i,⟨1,us (stR sts i)⟩)
theorem uD {sts:List (List (BitVec 64))} {i:Nat} (hi:i<sts.length):(sts.map us).getD i []=us (stR sts i):=by simp [stR,List.getD,hi]
theorem aZ {f:Nat->Ob} (b:Nat):∀ {l:List Nat} {i:Nat},i ∈ l->St.look (l.map fun i=>(b+i,f i)) (b+i)= some (f i)
 | [],i,h=>by cases h
 | j :: r,i,h=>by
  show St.look ((b+j,f j) :: _) _=_;rw [xX]
  by_cases e:i=j
  ·subst e; rw [if_pos rfl]
  ·rw [if_neg (by omega)];exact aZ b ((List.mem_cons.1 h).resolve_left e)
theorem aZ5 {b n i:Nat} (hi:i<n):(List.range' b n).getD i 0=b+i:=by simp [List.getD,hi]
theorem aXh (p:PrA) {b:Nat} (hb:2<=b) (sts:List (List (BitVec 64))):PlI p sts 0 1 (List.range' b sts.length) (plL p b sts) where
 hx:=by unfold plL; rw [xX,if_pos rfl]
 nst:={
  out:=by unfold plL; rw [xX,if_neg (by omega),xX,if_pos rfl]
  len:=by simp
  each:=fun i hi=>by
   have hi':i<sts.length:=by simpa using hi
   rw [aZ5 hi',uD hi'];unfold plL;rw [xX,if_neg (by omega),xX,if_neg (by omega)];exact aZ b (List.mem_range.2 hi') }
 nd:=List.nodup_range'
 ne:=by decide
 xs:=fun h=>by have:=List.mem_range'_1.1 h; omega
 ss:=fun h=>by have:=List.mem_range'_1.1 h; omega
theorem aX2 {p:PrA} {b:Nat} {sts:List (List (BitVec 64))} {q:Nat × Ob} (h:q ∈ plL p b sts):q=(0,plO p 1 sts.length)\/q=(1,⟨1,pU (List.range' b sts.length) (sts.map us)⟩)\/∃ i,i<sts.length/\q=(b+i,⟨1,us (stR sts i)⟩):=by
 unfold plL at h
 rcases List.mem_cons.1 h with h | h
 ·exact .inl h
 ·rcases List.mem_cons.1 h with h | h
  ·exact .inr (.inl h)
  ·simp only [List.mem_map,List.mem_range] at h;obtain⟨i,hi,rfl⟩:=h;exact .inr (.inr ⟨i,hi,rfl⟩)
theorem aMi {sts:List (List (BitVec 64))}:∀ e ∈ sts.map us,∀ r ∈ e,r.length=1/\D.xU r=true:=fun e he r hr=>by simp only [List.mem_map] at he;obtain⟨s,_,rfl⟩:=he;refine⟨?_,rN s r hr⟩;simp only [us,List.mem_map] at hr;obtain⟨x,_,rfl⟩:=hr;rfl
def plR (b kx kS:Nat) (ks:List Nat) (k:Nat):Nat:=if k=0 then kx else if k=1 then kS else if b<=k then ks.getD (k-b) 0 else k
section
variable {p : PrA} {sts : List (List (BitVec 64))} {kx kS b nx : Nat} {ks : List Nat} {xZ : List (Nat × Ob)}
theorem PlI.stays (h:PlI p sts kx kS ks xZ) (hb:2<=b):stays ⟨nx,xZ⟩ ⟨b+sts.length,plL p b sts⟩ (plR b kx kS ks):=by
 have hlen:=h.nst.len;have hsl:(sts.map us).length=sts.length:=List.length_map _;have hr:(List.range' b sts.length).length=(sts.map us).length:=by simp
 intro q hq
 rcases aX2 hq with rfl | rfl | ⟨i,hi,rfl⟩
 ·refine⟨by show 0<b+sts.length; omega,_,h.hx,rfl,?_⟩;refine .cons rfl ?_ .nil;simp only [vwL,vw,and_true,true_and,plR];exact⟨by omega,rfl⟩
 ·refine⟨by show 1<b+sts.length; omega,_,h.nst.out,rfl,aNw (by rw [tW hlen,tW hr]) fun i hi=>?_⟩;rw [tW hr] at hi;rw [oE hlen hi,oE hr hi];refine⟨rfl,?_⟩;rw [hsl] at hi;simp only [vwL,vw,aZ5 hi,and_true,plR];rw [if_neg (by omega),if_neg (by omega),if_pos (by omega),show b+i-b=i by omega];exact⟨by omega,rfl⟩
 ·refine⟨by show b+i<b+sts.length; omega,⟨1,us (stR sts i)⟩,?_,rfl,.same fun r hr=>rN _ r hr⟩;show St.look xZ (plR b kx kS ks (b+i))= _;unfold plR;rw [if_neg (by omega),if_neg (by omega),if_pos (by omega),show b+i-b=i by omega];have:=h.nst.each i (by rw [hsl]; exact hi);rw [uD hi] at this;exact this
theorem PlI.apart (h:PlI p sts kx kS ks xZ) (hb:2<=b) (m:Nat):uU ⟨m,plL p b sts⟩ (plR b kx kS ks):=by
 have hlen:=h.nst.len;rw [List.length_map] at hlen
 have hk:∀ i,i<sts.length->plR b kx kS ks (b+i)= ks.getD i 0:=fun i hi=>by unfold plR;rw [if_neg (by omega),if_neg (by omega),if_pos (by omega),show b+i-b=i by omega]
 have hm:∀ i,i<sts.length->ks.getD i 0 ∈ ks:=fun i hi=>uI (by omega);have e0:plR b kx kS ks 0=kx:=rfl;have e1:plR b kx kS ks 1=kS:=rfl;intro q hq r hr' e
 rcases aX2 hq with rfl | rfl | ⟨i,hi,rfl⟩ <;> rcases aX2 hr' with rfl | rfl | ⟨j,hj,rfl⟩ <;> simp only at e ⊢
 ·rw [e0,e1] at e; exact absurd e h.ne
 ·rw [e0,hk j hj] at e; exact absurd (e ▸ hm j hj) h.xs
 ·rw [e0,e1] at e; exact absurd e.symm h.ne
 ·rw [e1,hk j hj] at e; exact absurd (e ▸ hm j hj) h.ss
 ·rw [e0,hk i hi] at e; exact absurd (e ▸ hm i hi) h.xs
 ·rw [e1,hk i hi] at e; exact absurd (e ▸ hm i hi) h.ss
 ·rw [hk i hi,hk j hj] at e;rw [aU2 h.nd (by omega) (by omega) e]
theorem PlI.seen {K:Nat->Prop} (h:PlI p sts kx kS ks xZ) (h1:¬ K kx) (h2:¬ K kS) (h3:∀ k ∈ ks,¬ K k):Seen ⟨nx,xZ⟩ K (.ref kx 6 0 0) (plD p sts):=by
 have hs:=Go.Pd.Nst.seen h.nst (nx:=nx) (n:=sts.length) (List.length_map _).symm h2 h3 aMi;rw [bWj] at hs;refine Seen.ref h.hx h1 rfl (Nat.lt_add_one 0) (Nat.zero_lt_succ 5) (Nat.le_refl 6) fun j hj=>?_;have hj:j<6:=hj;have:j=0\/j=1\/j=2\/j=3\/j=4\/j=5:=by omega
 rcases this with rfl | rfl | rfl | rfl | rfl | rfl
 ·exact .pure rfl
 ·exact .pure rfl
 ·exact .pure rfl
 ·exact .pure rfl
 ·exact .pure rfl
 ·exact hs
end
end Kb
theorem iT.bY3 {p:PrA} {sts:List (List (BitVec 64))} {kx kS b nx n0:Nat} {ks:List Nat} {xZ:List (Nat × Ob)} {d1 d:D} (h:PlI p sts kx kS ks xZ) (hb:2<=b) (hn:n0<=b+sts.length) (hid:∀ k,k<n0->plR b kx kS ks k=k)
  (hd:vw ⟨nx,xZ⟩ ⟨b+sts.length,plL p b sts⟩ (plR b kx kS ks) d1 d):iT n0 ⟨nx,xZ⟩ d1 ⟨b+sts.length,plL p b sts⟩ d:=
 .inr ⟨plR b kx kS ks,hn,hid,hd,h.stays hb,h.apart hb _⟩
theorem xM.bY3 {C:Cx} {f f':Fr} {p:PrA} {sts:List (List (BitVec 64))} {kx kS b nx:Nat} {ks:List Nat} {xZ:List (Nat × Ob)} (h:PlI p sts kx kS ks xZ) (hb:2<=b) (hn:C.n0<=b+sts.length) (hid:∀ k,k<C.n0->plR b kx kS ks k=k)
  (hf:vwF ⟨nx,xZ⟩ ⟨b+sts.length,plL p b sts⟩ (plR b kx kS ks) f f'):xM C f ⟨nx,xZ⟩ f' ⟨b+sts.length,plL p b sts⟩:=
 xM.view (plR b kx kS ks) hn hid hf (h.stays hb) (h.apart hb _)
end Go.Pd

/- Part KY. -/
namespace Go.Pd
open Go Go.Proofs
open BitVec renaming isValue -> ZA
open Rs Fm Ru Te Kb
namespace Kb
def aSj (p:PrA):List (List (BitVec 64)):=p.init.map fun s=>[s]
structure BP where
 k:Nat
 nx:Nat
 kS:Nat
 ks:List Nat
 xZ:List (Nat × Ob)
def aSi (p:PrA) (k:Nat):List (List (BitVec 64)):=(p.init.take k).map fun s=>[s]
structure IB (p : PrA) (kx : Nat) (x : BP) : Prop where
 hk:x.k<=p.init.length
 hx:St.look x.xZ kx=some ⟨6,[[.int .i64 p.F,.sl 1 (us p.init),.sl 1 (us p.see),.sl 1 (mvR p.xF),.sl 1 (cdR p.code),aV2 x.kS x.k]]⟩
 lt:kx<x.nx
 kS:x.kS<x.nx\/x.k=0
 kl:x.ks.length=x.k
 ks:∀ k ∈ x.ks,k<x.nx
 nd:x.ks.Nodup
 ne:x.k≠0->kx≠x.kS
 xs:kx ∉ x.ks
 ss:x.k≠0->x.kS ∉ x.ks
 nst:x.k≠0->Nst x.xZ x.kS x.ks ((aSi p x.k).map us)
theorem eH {α:Type} {l r:List α} {d:α} {i:Nat} (h:i<l.length):(l++r).getD i d=l.getD i d:=by simp [List.getD,List.getElem?_append_left h]
theorem aWu {α:Type} {l:List α} {x d:α} {i:Nat} (h:i=l.length):(l ++ [x]).getD i d=x:=by subst h; simp [List.getD]
theorem Nst.grow {xZ ob:List (Nat × Ob)} {kO kN kI:Nat} {ks:List Nat} {ess:List (List (List D))} {e:List (List D)} (h:ess ≠ []->Nst xZ kO ks ess) (kl:ks.length=ess.length) (hout:St.look ob kN=some ⟨1,pU (ks ++ [kI]) (ess ++ [e])⟩)
  (hnew:St.look ob kI=some ⟨1,e⟩) (hold:∀ k ∈ ks,St.look ob k=St.look xZ k):Nst ob kN (ks ++ [kI]) (ess ++ [e]) where
 out:=hout
 len:=by simp [kl]
 each:=fun i hi=>by
  by_cases c:i=ess.length
  ·rw [aWu (l:=ks) (by omega),aWu (l:=ess) c]; exact hnew
  ·have hi':i<ess.length:=by simp at hi; omega
   have hn:ess ≠ []:=fun c=>by rw [c] at hi'; cases hi'
   rw [eH (l:=ks) (by omega),eH (l:=ess) hi',hold _ (uI (by omega))];exact(h hn).each i hi'
theorem aIm (p:PrA) {k:Nat} (hk:k<p.init.length):aSi p (k+1)= aSi p k ++ [[p.init.getD k 0]]:=by unfold aSi;rw [wT (d:=0) hk,List.map_append]; rfl
theorem aQl (p:PrA) {k:Nat} (hk:k<=p.init.length):(aSi p k).length=k:=by simp [aSi]; omega
theorem IB.step {p:PrA} {kx:Nat} {x:BP} (h:IB p kx x) (hlt:x.k<p.init.length) {ob:List (Nat × Ob)} (hout:St.look ob (x.nx+1+1)= some ⟨1,pU (x.ks ++ [x.nx]) ((aSi p x.k).map us ++ [us [p.init.getD x.k 0]])⟩)
  (hnew:St.look ob x.nx=some ⟨1,us [p.init.getD x.k 0]⟩) (hx:St.look ob kx=some ⟨6,[[.int .i64 p.F,.sl 1 (us p.init),.sl 1 (us p.see),.sl 1 (mvR p.xF),.sl 1 (cdR p.code),.osl (x.nx+1+1) 1 (x.k+1)]]⟩)
  (hold:∀ k,k<x.nx->k≠kx->(x.k=0\/k≠x.kS)->St.look ob k=St.look x.xZ k):IB p kx ⟨x.k+1,x.nx+1+1+1,x.nx+1+1,x.ks ++ [x.nx],ob⟩:=by
 have hl:=aQl p h.hk;have hlt2:=h.lt
 refine⟨by show x.k+1<=_; omega,?_,by show kx<x.nx+1+1+1; omega,.inl (by show x.nx+1+1<x.nx+1+1+1; omega),by simp [h.kl],fun k hk=>?_,?_,fun _=>by show kx≠x.nx+1+1; omega,fun hk=>?_,fun _ hk=>?_,fun _=>?_⟩
 ·show St.look ob kx=_;rw [hx];unfold aV2;simp
 ·show k<x.nx+1+1+1
  rcases List.mem_append.1 hk with hk | hk
  ·have:=h.ks k hk; omega
  ·rw [List.mem_singleton.1 hk]; omega
 ·refine List.nodup_append.2 ⟨h.nd,by simp,fun k hk j hj e=>?_⟩;have:=h.ks k hk;rw [List.mem_singleton.1 hj] at e;omega
 ·rcases List.mem_append.1 hk with hk | hk
  ·exact h.xs hk
  ·have:=List.mem_singleton.1 hk; omega
 ·have hk:x.nx+1+1 ∈ x.ks ++ [x.nx]:=hk
  rcases List.mem_append.1 hk with hk | hk
  ·have:=h.ks _ hk; omega
  ·have:=List.mem_singleton.1 hk; omega
 ·show Nst ob (x.nx+1+1) (x.ks ++ [x.nx]) ((aSi p (x.k+1)).map us);rw [aIm p hlt,List.map_append];have h0:(aSi p x.k).map us ≠ []->x.k≠0:=fun c e=>c (by rw [List.map_eq_nil_iff]; exact List.eq_nil_of_length_eq_zero (by omega));refine Nst.grow (fun c=>h.nst (h0 c)) (by rw [h.kl,List.length_map,hl]) hout hnew fun k hk=>?_;have hk1:=h.ks k hk;refine hold k hk1 (fun e=>h.xs (e ▸ hk)) ?_
  by_cases c:x.k=0
  ·exact .inl c
  ·exact .inr fun e=>h.ss c (e ▸ hk)
end Kb
theorem aE5 {p:PrA} {F:Nat} (hv:PrV p F):xY Tryz.prog 120 [p.d] St0 (.ref 0 6 0 0) ⟨2+p.init.length,plL p 2 (aSj p)⟩:=by
 have hI:=hv.hI;have hbl:(aSj p).length=p.init.length:=by simp [aSj]
 have hD:p.d = .agg [.int .i64 p.F,.sl 1 (us p.init),.sl 1 (us p.see),.sl 1 (mvR p.xF),.sl 1 (cdR p.code)]:=rfl;rw [hD];refine xY.xR mixed Tryz.func120 bRv (by simp) fun hf=>?_;simp only [simprocAttr,-ZA,↓zU,↓zD,zV,zT,zW,xK]
 (repeat refine sd ?_)
 refine xQ (fun x:BP=>[(12,.int .i64 x.k),(11,.int .i64 p.init.length),(10,.sl 1 (us p.init)),(3,.ref 1 6 0 0)]) (fun x=>⟨x.nx,x.xZ⟩) (IB p 1) (fun x=>p.init.length-x.k)
  ⟨0,2,0,[],[(1,⟨6,[[.int .i64 p.F,.sl 1 (us p.init),.sl 1 (us p.see),.sl 1 (mvR p.xF),.sl 1 (cdR p.code),.xO]]⟩),(0,⟨5,[[.int .i64 p.F,.sl 1 (us p.init),.sl 1 (us p.see),.sl 1 (mvR p.xF),.sl 1 (cdR p.code)]]⟩)]⟩
  ⟨Nat.zero_le _,rfl,Nat.lt_add_one 1,.inr rfl,rfl,by simp,.nil,fun h=>absurd rfl h,by simp,fun h=>absurd rfl h,fun h=>absurd rfl h⟩ ?_ ?_
 ·(refine xM.same ?_; simp [xP,Fr.get])
 rintro ⟨k,nx,kS,ks,xZ⟩ hB;obtain⟨hk,hx,hlt,hkS,hkl,hks,hnd,hne,hxs,hss,hnst⟩:=id hB;simp only at hk hx hlt hkS hkl hks hnd hne hxs hss hnst;refine xN mixed ?_;by_cases hkl2:k<p.init.length
 case neg=>
  have hd:¬ ((k:Int)<(p.init.length:Int)):=by omega
  obtain rfl:k=p.init.length:=by omega
  have hk0:p.init.length≠0:=by omega
  have he:aSi p p.init.length=aSj p:=by unfold aSi aSj; rw [List.take_length]
  have hPI:PlI p (aSj p) 1 kS ks xZ:=⟨by rw [hx]; unfold plO aV2; rw [if_neg hk0,hbl],he ▸ hnst hk0,hnd,hne hk0,hxs,hss hk0⟩;simp only [simprocAttr,-ZA,↓zU,↓zD,zV,zT,zW,hd];have hr:=iT.bY3 (b:=2) (n0:=0) (nx:=nx) (d1:=.ref 1 6 0 0) (d:=.ref 0 6 0 0) hPI (Nat.le_refl _) (Nat.zero_le _) (fun k hk=>absurd hk (Nat.not_lt_zero _)) (by simp only [vw,and_true]; exact⟨by omega,rfl⟩);rw [hbl] at hr;exact hr
 have hd:((k:Int)<(p.init.length:Int)):=by omega
 have hg:=uW p.init hkl2;have hst:=fun ob=>@IB.step p 1 ⟨k,nx,kS,ks,xZ⟩ hB hkl2 ob;simp only at hst;generalize p.init.getD k 0=s at hg hst;have q1:¬ (nx=1):=by omega
 have q5:¬ (nx+1+1=1):=by omega
 have q6:¬ (nx+1=1):=by omega
 have q7:¬ (nx=0):=by omega
 by_cases hk0:k=0
 ·subst hk0;have hd0:(0:Int)<(p.init.length:Int):=by omega
  unfold aV2 at hx;rw [if_pos rfl] at hx;obtain rfl:ks = []:=List.eq_nil_of_length_eq_zero hkl
  have hst1:=hst ((nx+1+1,⟨1,[[.osl nx 1 1]]⟩) :: (nx+1,⟨1,[[.osl nx 1 1]]⟩) :: (nx,⟨1,[[.int .u64 (ui s)]]⟩) :: uR xZ 1 ⟨6,[[.int .i64 p.F,.sl 1 (us p.init),.sl 1 (us p.see),.sl 1 (mvR p.xF),.sl 1 (cdR p.code),.osl (nx+1+1) 1 1]]⟩)
   (by rw [xX,if_pos rfl]; rfl) (by rw [xX,if_neg (by omega),xX,if_neg (by omega),xX,if_pos rfl]; rfl)
   (by rw [xX,if_neg q5,xX,if_neg q6,xX,if_neg q1,xV,if_pos rfl,hx]; rfl)
   (fun j hj h1 _=>by rw [xX,if_neg (by omega),xX,if_neg (by omega),xX,if_neg (by omega),xV,if_neg (fun e=>h1 e.symm)])
  simp only [simprocAttr,-ZA,↓zU,↓zD,zV,zT,zW,hd0,xK,hg,hx,q1,q5,q6,q7]
  (repeat refine sd ?_)
  refine⟨_,hst1,?_,by show p.init.length-(0+1)<_; omega⟩
  (refine xM.same ?_; simp only [xP,Fr.get,simprocAttr,-ZA,zS])
  all_goals rfl
 ·have hkS2:kS<nx:=hkS.resolve_right hk0;have ho:=(hnst hk0).out;unfold aV2 at hx;rw [if_neg hk0] at hx;have hnl:=tW (hnst hk0).len;rw [List.length_map,aQl p hk] at hnl;have htk:(pU ks ((aSi p k).map us)).take k=pU ks ((aSi p k).map us):=List.take_of_length_le (by omega);have q2:¬ (nx=kS):=by omega
  have q3:¬ (nx+1=kS):=by omega
  have q4:¬ (kS=1):=fun e=>hne hk0 e.symm;have hxe:St.look (yF xZ kS) 1=some ⟨6,[[.int .i64 p.F,.sl 1 (us p.init),.sl 1 (us p.see),.sl 1 (mvR p.xF),.sl 1 (cdR p.code),.osl kS 1 k]]⟩:=by rw [xG,if_neg q4]; exact hx
  have hsn:=aWb (hnst hk0).len nx (us [s])
  have hst1:=hst ((nx+1+1,⟨1,pU ks ((aSi p k).map us)++ [[.osl nx 1 1]]⟩) :: (nx+1,⟨1,[[.osl nx 1 1]]⟩) :: (nx,⟨1,[[.int .u64 (ui s)]]⟩) :: uR (yF xZ kS) 1 ⟨6,[[.int .i64 p.F,.sl 1 (us p.init),.sl 1 (us p.see),.sl 1 (mvR p.xF),.sl 1 (cdR p.code),.osl (nx+1+1) 1 (k+1)]]⟩)
   (by rw [xX,if_pos rfl,<- hsn]; rfl) (by rw [xX,if_neg (by omega),xX,if_neg (by omega),xX,if_pos rfl]; rfl)
   (by rw [xX,if_neg q5,xX,if_neg q6,xX,if_neg q1,xV,if_pos rfl,hxe]; rfl)
   (fun j hj h1 h2=>by rw [xX,if_neg (by omega),xX,if_neg (by omega),xX,if_neg (by omega),xV,if_neg (fun e=>h1 e.symm),xG,if_neg (fun e=>(h2.resolve_left hk0) e.symm)])
  simp only [simprocAttr,-ZA,↓zU,↓zD,zV,zT,zW,hd,xK,hg,hx,hxe,q1,q2,q3,q4,q5,q6,q7,ho,hnl,htk]
  (repeat refine sd ?_)
  refine⟨_,hst1,?_,by show p.init.length-(k+1)<_; omega⟩
  (refine xM.same ?_; simp only [xP,Fr.get,simprocAttr,-ZA,zS])
  exact wrap_i64 (by omega)
open Rs Fm Ru Te Kb
namespace Kb
def aNt (st:List (BitVec 64)):BitVec 64:=st.getD (st.length-1) 0
def aDk (p:PrA) (sts:List (List (BitVec 64))) (mv:List (List Int)) (i:Nat):BitVec 64:=bY4 p (aNt (stR sts i)) (mv.map fun m=>m.getD i 0)
def aYy (p:PrA) (sts:List (List (BitVec 64))) (mv:List (List Int)) (r:Nat):List (List (BitVec 64)):=(List.range sts.length).map fun i=>if i<r then stR sts i ++ [aDk p sts mv i] else stR sts i
def aQu (p:PrA) (sts:List (List (BitVec 64))) (mv:List (List Int)):List (List (BitVec 64)):=(List.range sts.length).map fun i=>stR sts i ++ [aDk p sts mv i]
section
variable {p : PrA} {sts : List (List (BitVec 64))} {mv : List (List Int)} {r : Nat}
theorem zL : (aYy p sts mv r).length=sts.length:=by simp [aYy]
theorem gZ {i:Nat} (hi:i<sts.length):stR (aYy p sts mv r) i=if i<r then stR sts i ++ [aDk p sts mv i] else stR sts i:=by simp [stR,aYy,List.getD,hi]
theorem aKa : aYy p sts mv 0=sts:=by refine List.ext_getElem (by simp [aYy]) fun i h1 h2=>?_;simp [aYy,stR,List.getD,h2]
theorem aH7 (h:sts.length<=r):aYy p sts mv r=aQu p sts mv:=by refine List.map_congr_left fun i hi=>?_;rw [if_pos (by have:=List.mem_range.1 hi; omega)]
theorem aH6 (hr:r<sts.length):((aYy p sts mv r).map us).set r (us (stR sts r ++ [aDk p sts mv r]))= (aYy p sts mv (r+1)).map us:=by
 refine List.ext_getElem (by simp [aYy]) fun k h1 h2=>?_;rw [List.getElem_set];simp only [aYy,List.getElem_map,List.getElem_range]
 by_cases e:r=k
 ·subst e; rw [if_pos rfl,if_pos (by omega)]
 ·rw [if_neg e]
  by_cases hk:k<r
  ·rw [if_pos hk,if_pos (by omega)]
  ·rw [if_neg hk,if_neg (by omega)]
end
structure AP where
 r:Nat
 nx:Nat
 ks:List Nat
 xZ:List (Nat × Ob)
structure IA (p : PrA) (sts : List (List (BitVec 64))) (mv : List (List Int)) (n0 : Nat) (x : AP) : Prop where
 hr:x.r<=sts.length
 hn:n0<=x.nx
 pl:PlI p (aYy p sts mv x.r) 0 1 x.ks x.xZ
 lt:∀ k ∈ x.ks,k<x.nx
theorem aGg {l:List Nat} {i j x:Nat} (hj:j<l.length):(l.set i x).getD j 0=if i=j then x else l.getD j 0:=by
 simp only [List.getD,List.getElem?_set]
 split
 ·rename_i h; subst h; simp [hj]
 ·rfl
theorem jF {l:List Nat} {i x k:Nat} (h:k ∈ l.set i x):k=x\/k ∈ l:=(List.mem_or_eq_of_mem_set h).symm
theorem aK8 {l:List Nat} (hd:l.Nodup) {i x:Nat} (hx:x ∉ l):(l.set i x).Nodup:=by
 unfold List.Nodup at hd ⊢;rw [List.pairwise_iff_getElem] at hd ⊢;intro a b ha hb hab;rw [List.length_set] at ha hb;rw [List.getElem_set,List.getElem_set]
 split
 ·rw [if_neg (by omega)];exact fun e=>hx (e ▸ List.getElem_mem _)
 ·split
  ·exact fun e=>hx (e ▸ List.getElem_mem _)
  ·exact hd a b ha hb hab
theorem IA.step {p:PrA} {sts:List (List (BitVec 64))} {mv:List (List Int)} {n0:Nat} {x:AP} (h:IA p sts mv n0 x) (hr:x.r<sts.length) {m:Nat} (hm:x.nx<=m) (h2:2<=x.nx) {ob:List (Nat × Ob)}
  (hout:St.look ob 1=some ⟨1,(pU x.ks ((aYy p sts mv x.r).map us)).set x.r [.osl m 1 ((stR sts x.r).length+1)]⟩) (hnew:St.look ob m=some ⟨1,us (stR sts x.r ++ [aDk p sts mv x.r])⟩)
  (hold:∀ k,k<x.nx->k≠1->k≠x.ks.getD x.r 0->St.look ob k=St.look x.xZ k):IA p sts mv n0 ⟨x.r+1,m+1,x.ks.set x.r m,ob⟩:=by
 have hl:=h.pl.nst.len;rw [List.length_map,zL] at hl;have hnx:=h.hn;have hmk:m ∉ x.ks:=fun hk=>by have:=h.lt m hk; omega
 have hmr:=uI (l:=x.ks) (i:=x.r) (by omega)
 refine⟨by show x.r+1<=_; omega,by show n0<=m+1; omega,⟨?_,?_,aK8 h.pl.nd hmk,by decide,fun hk=>?_,fun hk=>?_⟩,fun k hk=>?_⟩
 ·show St.look ob 0=_;rw [hold 0 (by omega) (by decide) fun e=>h.pl.xs (e ▸ hmr),h.pl.hx,zL,zL]
 ·show Nst ob 1 (x.ks.set x.r m) ((aYy p sts mv (x.r+1)).map us);have hsl:(aYy p sts mv x.r).length=sts.length:=zL
  refine⟨?_,by rw [List.length_set,List.length_map,zL]; exact hl,fun i hi=>?_⟩
  ·have:=aFj h.pl.nst.len (i:=x.r) (by rw [List.length_map,zL]; exact hr) m (us (stR sts x.r ++ [aDk p sts mv x.r]));rw [xK,List.length_append,List.length_singleton,aH6 hr] at this;rw [hout,this]
  ·rw [List.length_map,zL] at hi;rw [aGg (by omega)]
   by_cases e:x.r=i
   ·subst e;rw [if_pos rfl,hnew,uD (by rw [zL]; exact hi),gZ hi,if_pos (by omega)]
   ·rw [if_neg e,hold _ (h.lt _ (uI (by omega))) (fun c=>h.pl.ss (c ▸ uI (by omega))) fun c=>e (aU2 h.pl.nd (by omega) (by omega) c.symm)];have:=h.pl.nst.each i (by rw [List.length_map,zL]; exact hi);rw [this,uD (by rw [zL]; exact hi),uD (by rw [zL]; exact hi),gZ hi,gZ hi]
    by_cases c:i<x.r
    ·rw [if_pos c,if_pos (by omega)]
    ·rw [if_neg c,if_neg (by omega)]
 ·rcases jF hk with e | e
  ·omega
  ·exact h.pl.xs e
 ·rcases jF hk with e | e
  ·omega
  ·exact h.pl.ss e
 ·show k<m+1
  rcases jF hk with e | e
  ·omega
  ·have:=h.lt k e; omega
end Kb
theorem bWg {b:Nat} {ks:List Nat} {k:Nat} (h:k<b):plR b 0 1 ks k=k:=by
 unfold plR
 by_cases h0:k=0
 ·rw [if_pos h0,h0]
 ·rw [if_neg h0]
  by_cases h1:k=1
  ·rw [if_pos h1,h1]
  ·rw [if_neg h1,if_neg (by omega)]
structure OP where
 j:Nat
 m:Nat
 kW:Nat
 ob:List (Nat × Ob)
structure IO (xZ : List (Nat × Ob)) (n1 : Nat) (own : List Int) (x : OP) : Prop where
 hj:x.j<=own.length
 hm:n1<=x.m
 kW:x.j≠0->n1<=x.kW/\x.kW<x.m/\St.look x.ob x.kW=some ⟨1,rows .i64 (own.take x.j)⟩
 old:∀ k,k<n1->St.look x.ob k=St.look xZ k
theorem aO1 {p:PrA} {F:Nat} (hv:PrV p F) {sts:List (List (BitVec 64))} (hR:1<=sts.length/\sts.length<=16) (hL:∀ st ∈ sts,1<=st.length/\st.length<=100) (hval:∀ st ∈ sts,∀ s ∈ st,s >>> F=0#64)
  {mv:List (List Int)} (hmA:1<=mv.length/\mv.length<=100) (hmR:∀ m ∈ mv,m.length=sts.length) (hmv:∀ m ∈ mv,∀ k ∈ m,k<p.xF.length) {nx:Nat} (hnx:2+sts.length<=nx) :
  xY Tryz.prog 121 [.ref 0 6 0 0,.sl 1 (rl mv)] ⟨nx,plL p 2 sts⟩ (.tup []) ⟨nx+sts.length,plL p nx (aQu p sts mv)⟩:=by
 have hsl:(aQu p sts mv).length=sts.length:=by simp [aQu]
 have hP0:=aXh p (Nat.le_refl 2) sts;refine xY.xR mixed Tryz.func121 bRu (by simp) fun hf=>?_;have h00:=hP0.hx;unfold plO at h00;simp only [simprocAttr,-ZA,↓zU,↓zD,zV,zT,zW,h00]
 (repeat refine sd ?_)
 refine xQ (fun x:AP=>[(13,.int .i64 x.r),(12,.int .i64 sts.length),(11,.osl 1 1 sts.length),(1,.sl 1 (rl mv)),(0,.ref 0 6 0 0)]) (fun x=>⟨x.nx,x.xZ⟩) (IA p sts mv nx) (fun x=>sts.length-x.r)
  ⟨0,nx,List.range' 2 sts.length,plL p 2 sts⟩ ⟨Nat.zero_le _,Nat.le_refl _,by show PlI p (aYy p sts mv 0) _ _ _ _; rw [aKa]; exact hP0,fun k hk=>by have:=List.mem_range'_1.1 hk; show k<nx; omega⟩ ?_ ?_
 ·(refine xM.same ?_; simp [xP,Fr.get])
 rintro ⟨r,n1,ks,xZ⟩ hI;obtain⟨hr,hn,hpl,hlt⟩:=id hI;simp only at hr hn hpl hlt;refine xN mixed ?_;by_cases hrl:r<sts.length
 case neg=>
  have hd:¬ ((r:Int)<(sts.length:Int)):=by omega
  rw [aH7 (by omega)] at hpl;simp only [simprocAttr,-ZA,↓zU,↓zD,zV,zT,zW,hd];have hr:=iT.bY3 (b:=nx) (n0:=nx) (nx:=n1) (d1:=.tup []) (d:=.tup []) hpl (by omega) (by omega) (fun k hk=>bWg hk) (by simp only [vw,vwL]; exact⟨trivial,trivial⟩);rw [hsl] at hr;exact hr
 have hd:((r:Int)<(sts.length:Int)):=by omega
 have hnl:=hpl.nst.len;rw [List.length_map,zL] at hnl;have hnr:=tW hpl.nst.len;rw [List.length_map,zL] at hnr;have hgr:=oE hpl.nst.len (i:=r) (by rw [List.length_map,zL]; exact hrl);have hst:=gZ (p:=p) (mv:=mv) (r:=r) hrl;rw [if_neg (Nat.lt_irrefl r)] at hst;rw [uD (by rw [zL]; exact hrl),hst,xK] at hgr;have hkr:=hpl.nst.each r (by rw [List.length_map,zL]; exact hrl);rw [uD (by rw [zL]; exact hrl),hst] at hkr;have hmem:=uI (l:=ks) (i:=r) (by omega);have hkr0:ks.getD r 0≠0:=fun e=>hpl.xs (e ▸ hmem);have hkr1:ks.getD r 0≠1:=fun e=>hpl.ss (e ▸ hmem);have hkrn:=hlt _ hmem;have hout:=hpl.nst.out;have h0:=hpl.hx;unfold plO at h0;rw [zL] at h0;have hstep:=fun m hm ob=>@IA.step p sts mv nx ⟨r,n1,ks,xZ⟩ hI hrl m hm (by show 2<=n1; omega) ob;simp only at hstep;have hnw:aDk p sts mv r=bY4 p (aNt (stR sts r)) (mv.map fun m=>m.getD r 0):=rfl;have hLr:1<=(stR sts r).length/\(stR sts r).length<=100:=hL _ (xS (d:=[]) hrl);have hvr:∀ s ∈ stR sts r,s >>> F=0#64:=hval _ (xS (d:=[]) hrl);have hls:=hvr (aNt (stR sts r)) (xS (by omega));have hgl:=uW (stR sts r) (show (stR sts r).length-1<_ by omega);have hwl:IntKind.i64.wrap ((stR sts r).length-1:Int)= (((stR sts r).length-1:Nat):Int):=by rw [wrap_i64 (by omega)]; omega
 have hSk:=zL (p:=p) (sts:=sts) (mv:=mv) (r:=r);change (us (stR sts r)).getD _ [] = [.int .u64 (ui (aNt (stR sts r)))] at hgl;generalize aYy p sts mv r=sk at *;generalize ks.getD r 0=kr at *;generalize stR sts r=st at *;generalize aNt st=s at *;have hmd:∀ m ∈ mv,m.getD r 0<p.xF.length:=fun m hm=>hmv m hm _ (xS (by rw [hmR m hm]; exact hrl))
 have hnext:=aAh hv sk hls (mv:=mv.map fun m=>m.getD r 0) (by rw [List.length_map]; omega) fun k hk=>by simp only [List.mem_map] at hk;obtain⟨m,hm,rfl⟩:=hk;exact hmd m hm
 rw [<- hnw] at hnext;generalize aDk p sts mv r=y at *;have hown:(mv.map fun m=>m.getD r 0).length=mv.length:=List.length_map _;have howg:∀ j,j<mv.length->(mv.map fun m=>m.getD r 0).getD j 0=(mv.getD j []).getD r 0:=fun j hj=>by simp [List.getD,hj]
 generalize (mv.map fun m=>m.getD r 0)= own at *;simp only [simprocAttr,-ZA,↓zU,↓zD,zV,zT,zW,hd,hout,hnr,hgr,tH]
 (repeat refine sd ?_)
 refine xQ (fun x:OP=>[(20,.int .i64 x.j),(19,.int .i64 mv.length),(13,.int .i64 r),(12,.int .i64 sts.length),(11,.osl 1 1 sts.length),(6,aV2 x.kW x.j),(5,.osl kr 1 st.length),(4,.int .i64 r),(1,.sl 1 (rl mv)),(0,.ref 0 6 0 0)]) (fun x=>⟨x.m,x.ob⟩)
  (IO xZ n1 own) (fun x=>mv.length-x.j) ⟨0,n1,0,xZ⟩ ⟨Nat.zero_le _,Nat.le_refl _,fun h=>absurd rfl h,fun _ _=>rfl⟩ ?_ ?_
 ·(refine xM.same ?_; simp [xP,Fr.get,aV2])
 rintro ⟨j,m,kW,ob⟩ ⟨hj,hm,hkW,hold⟩;simp only at hj hm hkW hold;have g0:St.look ob 0=some ⟨6,[[.int .i64 p.F,.sl 1 (us p.init),.sl 1 (us p.see),.sl 1 (mvR p.xF),.sl 1 (cdR p.code),.osl 1 1 sts.length]]⟩:=by rw [hold 0 (by omega)]; exact h0
 have g1:St.look ob 1=some ⟨1,pU ks (sk.map us)⟩:=by rw [hold 1 (by omega)]; exact hout
 have g2:St.look ob kr=some ⟨1,us st⟩:=by rw [hold kr hkrn]; exact hkr
 refine xN mixed ?_;by_cases hjl:j<mv.length
 case pos=>
  have hd2:((j:Int)<(mv.length:Int)):=by omega
  have hgm:=gC mv hjl;have hml:=hmR _ (xS (d:=[]) hjl);have hrm:((r:Int)<((mv.getD j []).length:Int)):=by omega
  have hge:=yX .i64 (mv.getD j []) (show r<_ by omega);rw [<- howg j hjl] at hge;have htk:=wT (d:=0) (show j<own.length by omega);generalize mv.getD j []=e at *;generalize own.getD j 0=z at *
  by_cases hj0:j=0
  ·subst hj0;have hd20:(0:Int)<(mv.length:Int):=by omega
   unfold aV2;simp only [simprocAttr,-ZA,↓zU,↓zD,zV,zT,zW,hd20,tH,hgm,hrm,yW,hge]
   (repeat refine sd ?_)
   refine⟨⟨0+1,m+1,m,(m,⟨1,[[.int .i64 z]]⟩) :: ob⟩,⟨by show 0+1<=_; omega,by show n1<=m+1; omega,fun _=>⟨hm,by show m<m+1; omega,?_⟩,fun k hk=>by show St.look ((m,_) :: ob) k=_; rw [xX,if_neg (by omega)]; exact hold k hk⟩,?_,by show mv.length-(0+1)<_; omega⟩
   ·show St.look ((m,_) :: ob) m=_;rw [xX,if_pos rfl];show _=some (Ob.mk 1 (rows .i64 (own.take (0+1))));rw [htk]; rfl
   ·(refine xM.same ?_; simp only [xP,Fr.get,simprocAttr,-ZA,zS,Nat.zero_add,Nat.one_ne_zero])
    all_goals rfl
  ·obtain⟨w1,w2,w3⟩:=hkW hj0;have hol:(own.take j).length=j:=by rw [List.length_take]; omega
   unfold aV2;rw [if_neg hj0];have q1:¬ (m=kW):=by omega
   have htt:(own.take j).take j=own.take j:=by rw [List.take_take,Nat.min_self]
   simp only [simprocAttr,-ZA,↓zU,↓zD,zV,zT,zW,hd2,tH,hgm,hrm,yW,hge,w3,hol,htt]
   (repeat refine sd ?_)
   refine⟨⟨j+1,m+1,m,(m,⟨1,rows .i64 (own.take j ++ [z])⟩) :: yF ob kW⟩,⟨by show j+1<=_; omega,by show n1<=m+1; omega,fun _=>⟨hm,by show m<m+1; omega,?_⟩,fun k hk=>by show St.look ((m,_) :: yF ob kW) k=_; rw [xX,if_neg (by omega),xG,if_neg (by omega)]; exact hold k hk⟩,?_,by show mv.length-(j+1)<_; omega⟩
   ·show St.look ((m,_) :: _) m=_;rw [xX,if_pos rfl];show _=some (Ob.mk 1 (rows .i64 (own.take (j+1))));rw [htk]
   ·simp only [Nat.add_one_ne_zero,↓reduceIte]
    (refine xM.same ?_; simp only [xP,Fr.get,simprocAttr,-ZA,zS])
    exact wrap_i64 (by omega)
 have hd2:¬ ((j:Int)<(mv.length:Int)):=by omega
 obtain rfl:j=mv.length:=by omega
 have hj0:mv.length≠0:=by omega
 obtain⟨w1,w2,w3⟩:=hkW hj0;unfold aV2;rw [if_neg hj0];have how:own.take mv.length=own:=List.take_of_length_le (by omega);rw [how] at w3
 have hKP:PlI p sk 0 1 ks ob:=⟨by show _=some (plO p 1 sk.length); rw [g0,hSk]; rfl,⟨g1,hpl.nst.len,fun i hi=>by
  have hik:i<ks.length:=by have:=hpl.nst.len; omega
  rw [hold _ (hlt _ (uI hik))]; exact hpl.nst.each i hi⟩,hpl.nd,hpl.ne,hpl.xs,hpl.ss⟩
 have hcall:xY Tryz.prog 183 [.ref 0 6 0 0,.int .u64 (ui s),.osl kW 1 mv.length] ⟨m,ob⟩ (.int .u64 (ui y)) ⟨m,ob⟩:=
  xY.bUu hnext ⟨hKP.seen (fun h=>h) (fun h=>h) fun _ _ h=>h,.pure rfl,Seen.rows w3 (fun h=>h) (by decide) (by rw [yW]; omega) (fun e he=>by simp only [rows,List.mem_map] at he;obtain⟨x,_,rfl⟩:=he;rfl) (uG _ _),trivial⟩ rfl
 have hlt2:(((st.length-1:Nat):Int)<(st.length:Int)):=by omega
 have hlt3:st.length-1<st.length:=by omega
 simp only [simprocAttr,-ZA,↓zU,↓zD,zV,zT,zW,hd2,↓aHk]
 (refine aL2 mixed ?_; simp only [simprocAttr,-ZA,↓zU,↓zD,zV,zT,zW,↓rv1,↓aRk,↓aZ8,↓bK,g0,g1,g2,hwl,hgl,hlt2,hlt3,xK])
 (repeat refine sd ?_)
 refine aY9.go hcall ?_;have e0:St.look (yF ob kr) 0=some ⟨6,[[.int .i64 p.F,.sl 1 (us p.init),.sl 1 (us p.see),.sl 1 (mvR p.xF),.sl 1 (cdR p.code),.osl 1 1 sts.length]]⟩:=by rw [xG,if_neg hkr0]; exact g0
 have e1:St.look (yF ob kr) 1=some ⟨1,pU ks (sk.map us)⟩:=by rw [xG,if_neg hkr1]; exact g1
 have q0:¬ (m=0):=by omega
 have q1:¬ (m=1):=by omega
 have q2:¬ (m=kr):=by omega
 have htk:(us st).take st.length=us st:=List.take_of_length_le (by rw [xK]; exact Nat.le_refl _)
 (simp only [simprocAttr,-ZA,↓zU,↓zD,zV,zT,zW,↓rv1,↓aRk,↓aZ8,↓bK,g0,g1,g2,e0,e1,q0,q1,q2,xK,htk,hnr,hgr,hd,aUf])
 (repeat refine sd ?_)
 refine⟨⟨r+1,m+1,ks.set r m,(m,⟨1,us (st ++ [y])⟩) :: uR (yF ob kr) 1 ⟨1,(pU ks (sk.map us)).set r [.osl m 1 (st.length+1)]⟩⟩,hstep m hm _ ?_ ?_ fun k hk h1 h2=>?_,?_,by show sts.length-(r+1)<_; omega⟩
 ·rw [xX,if_neg q1,xV,if_pos rfl,e1]; rfl
 ·rw [xX,if_pos rfl]
 ·rw [xX,if_neg (by omega),xV,if_neg (fun e=>h1 e.symm),xG,if_neg (fun e=>h2 e.symm)];exact hold k hk
 ·(refine xM.same ?_; simp only [xP,Fr.get,simprocAttr,-ZA,zS])
  exact wrap_i64 (by omega)
end Go.Pd
