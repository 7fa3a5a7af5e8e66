/- Part KX. -/
import Derived.Test.YtndfaefmmcoapaaGreatKcXR
import Derived.Test.YtndfaefmmcoapaaGreatKcKI
set_option linter.unusedSectionVars false
set_option linter.unusedVariables false
set_option linter.unusedSimpArgs false
set_option linter.defProp false
set_option maxRecDepth 20000
set_option maxHeartbeats 1000000
namespace Go.Pd
open Go Go.Proofs
open Int renaming reduceToNat -> ZA, reduceLT -> ZB, reduceLE -> ZC, reduceBEq -> ZD, reduceBNe -> ZE
open Nat renaming reduceEqDiff -> ZF, reduceAdd -> ZG, reduceBEq -> ZH, reduceLT -> ZI, reduceLeDiff -> ZJ, reduceMul -> ZK
open Rs Fm Ru Te Kb
namespace Kb
def plO (p:PrA) (kS n:Nat):Ob:=⟨6,[[.int .i64 p.F,.sl 1 (us p.init),.sl 1 (us p.see),.sl 1 (mvR p.moves),.sl 1 (cdR p.code),.osl kS 1 n]]⟩
structure PlI (p : PrA) (sts : List (List (BitVec 64))) (kx kS : Nat) (ks : List Nat) (objs : List (Nat × Ob)) : Prop where
 hx:St.look objs kx=some (plO p kS sts.length)
 nst:Nst objs kS ks (sts.map us)
 nd:ks.Nodup
 ne:kx≠kS
 xs:kx ∉ ks
 ss:kS ∉ ks
def plL (p:PrA) (b:Nat) (sts:List (List (BitVec 64))):List (Nat × Ob):=(0,plO p 1 sts.length) :: (1,⟨1,sV (List.range' b sts.length) (sts.map us)⟩) :: (List.range sts.length).map fun i=>(b+i,⟨1,us (stR sts i)⟩)
theorem vF {sts:List (List (BitVec 64))} {i:Nat} (hi:i<sts.length):(sts.map us).getD i []=us (stR sts i):=by
 simp [stR,List.getD,hi]
theorem eZ {f:Nat->Ob} (b:Nat):∀ {l:List Nat} {i:Nat},i ∈ l->St.look (l.map fun i=>(b+i,f i)) (b+i)= some (f i)
 | [],i,h=>by cases h
 | j :: r,i,h=>by
  show St.look ((b+j,f j) :: _) _=_;rw [xY]
  by_cases e:i=j
  ·subst e; rw [if_pos rfl]
  ·rw [if_neg (by omega)];exact eZ b ((List.mem_cons.1 h).resolve_left e)
theorem aK {b n i:Nat} (hi:i<n):(List.range' b n).getD i 0=b+i:=by simp [List.getD,hi]
theorem mH (p:PrA) {b:Nat} (hb:2<=b) (sts:List (List (BitVec 64))):PlI p sts 0 1 (List.range' b sts.length) (plL p b sts) where
 hx:=by unfold plL; rw [xY,if_pos rfl]
 nst:={
  out:=by unfold plL; rw [xY,if_neg (by omega),xY,if_pos rfl]
  len:=by simp
  each:=fun i hi=>by
   have hi':i<sts.length:=by simpa using hi
   rw [aK hi',vF hi'];unfold plL;rw [xY,if_neg (by omega),xY,if_neg (by omega)];exact eZ b (List.mem_range.2 hi') }
 nd:=List.nodup_range'
 ne:=by decide
 xs:=fun h=>by have:=List.mem_range'_1.1 h; omega
 ss:=fun h=>by have:=List.mem_range'_1.1 h; omega
theorem cT {p:PrA} {b:Nat} {sts:List (List (BitVec 64))} {q:Nat × Ob} (h:q ∈ plL p b sts):q=(0,plO p 1 sts.length)\/q=(1,⟨1,sV (List.range' b sts.length) (sts.map us)⟩)\/∃ i,i<sts.length/\q=(b+i,⟨1,us (stR sts i)⟩):=by
 unfold plL at h
 rcases List.mem_cons.1 h with h | h
 ·exact .inl h
 ·rcases List.mem_cons.1 h with h | h
  ·exact .inr (.inl h)
  ·simp only [List.mem_map,List.mem_range] at h;obtain⟨i,hi,rfl⟩:=h;exact .inr (.inr ⟨i,hi,rfl⟩)
theorem aQp {sts:List (List (BitVec 64))}:∀ e ∈ sts.map us,∀ r ∈ e,r.length=1/\D.isPureL r=true:=fun e he r hr=>by
 simp only [List.mem_map] at he;obtain⟨s,_,rfl⟩:=he;refine⟨?_,sY s r hr⟩;simp only [us,List.mem_map] at hr;obtain⟨x,_,rfl⟩:=hr;rfl
def plR (b kx kS:Nat) (ks:List Nat) (k:Nat):Nat:=if k=0 then kx else if k=1 then kS else if b<=k then ks.getD (k-b) 0 else k
section
variable {p : PrA} {sts : List (List (BitVec 64))} {kx kS b nx : Nat} {ks : List Nat} {objs : List (Nat × Ob)}
theorem PlI.stays (h:PlI p sts kx kS ks objs) (hb:2<=b):stays ⟨nx,objs⟩ ⟨b+sts.length,plL p b sts⟩ (plR b kx kS ks):=by
 have hlen:=h.nst.len;have hsl:(sts.map us).length=sts.length:=List.length_map _;have hr:(List.range' b sts.length).length=(sts.map us).length:=by simp
 intro q hq
 rcases cT hq with rfl | rfl | ⟨i,hi,rfl⟩
 ·refine⟨by show 0<b+sts.length; omega,_,h.hx,rfl,?_⟩;refine .cons rfl ?_ .nil;simp only [vwL,vw,and_true,true_and,plR];exact⟨by omega,rfl⟩
 ·refine⟨by show 1<b+sts.length; omega,_,h.nst.out,rfl,aR8 (by rw [vO hlen,vO hr]) fun i hi=>?_⟩;rw [vO hr] at hi;rw [qG hlen hi,qG hr hi];refine⟨rfl,?_⟩;rw [hsl] at hi;simp only [vwL,vw,aK hi,and_true,plR];rw [if_neg (by omega),if_neg (by omega),if_pos (by omega),show b+i-b=i by omega];exact⟨by omega,rfl⟩
 ·refine⟨by show b+i<b+sts.length; omega,⟨1,us (stR sts i)⟩,?_,rfl,.same fun r hr=>sY _ r hr⟩;show St.look objs (plR b kx kS ks (b+i))= _;unfold plR;rw [if_neg (by omega),if_neg (by omega),if_pos (by omega),show b+i-b=i by omega];have:=h.nst.each i (by rw [hsl]; exact hi);rw [vF hi] at this;exact this
theorem PlI.apart (h:PlI p sts kx kS ks objs) (hb:2<=b) (m:Nat):vW ⟨m,plL p b sts⟩ (plR b kx kS ks):=by
 have hlen:=h.nst.len;rw [List.length_map] at hlen
 have hk:∀ i,i<sts.length->plR b kx kS ks (b+i)= ks.getD i 0:=fun i hi=>by
  unfold plR;rw [if_neg (by omega),if_neg (by omega),if_pos (by omega),show b+i-b=i by omega]
 have hm:∀ i,i<sts.length->ks.getD i 0 ∈ ks:=fun i hi=>vN (by omega);have e0:plR b kx kS ks 0=kx:=rfl;have e1:plR b kx kS ks 1=kS:=rfl;intro q hq r hr' e
 rcases cT hq with rfl | rfl | ⟨i,hi,rfl⟩ <;> rcases cT hr' with rfl | rfl | ⟨j,hj,rfl⟩ <;> simp only at e ⊢
 ·rw [e0,e1] at e; exact absurd e h.ne
 ·rw [e0,hk j hj] at e; exact absurd (e ▸ hm j hj) h.xs
 ·rw [e0,e1] at e; exact absurd e.symm h.ne
 ·rw [e1,hk j hj] at e; exact absurd (e ▸ hm j hj) h.ss
 ·rw [e0,hk i hi] at e; exact absurd (e ▸ hm i hi) h.xs
 ·rw [e1,hk i hi] at e; exact absurd (e ▸ hm i hi) h.ss
 ·rw [hk i hi,hk j hj] at e;rw [aZs h.nd (by omega) (by omega) e]
theorem PlI.seen {K:Nat->Prop} (h:PlI p sts kx kS ks objs) (h1:¬ K kx) (h2:¬ K kS) (h3:∀ k ∈ ks,¬ K k):Seen ⟨nx,objs⟩ K (.ref kx 6 0 0) (plD p sts):=by
 have hs:=Go.Pd.Nst.seen h.nst (nx:=nx) (n:=sts.length) (List.length_map _).symm h2 h3 aQp;rw [aCf] at hs;refine Seen.ref h.hx h1 rfl (Nat.lt_add_one 0) (Nat.zero_lt_succ 5) (Nat.le_refl 6) fun j hj=>?_;have hj:j<6:=hj;have:j=0\/j=1\/j=2\/j=3\/j=4\/j=5:=by omega
 rcases this with rfl | rfl | rfl | rfl | rfl | rfl
 ·exact .pure rfl
 ·exact .pure rfl
 ·exact .pure rfl
 ·exact .pure rfl
 ·exact .pure rfl
 ·exact hs
end
end Kb
theorem mT.play {p:PrA} {sts:List (List (BitVec 64))} {kx kS b nx n0:Nat} {ks:List Nat} {objs:List (Nat × Ob)} {d1 d:D} (h:PlI p sts kx kS ks objs) (hb:2<=b) (hn:n0<=b+sts.length) (hid:∀ k,k<n0->plR b kx kS ks k=k)
  (hd:vw ⟨nx,objs⟩ ⟨b+sts.length,plL p b sts⟩ (plR b kx kS ks) d1 d):mT n0 ⟨nx,objs⟩ d1 ⟨b+sts.length,plL p b sts⟩ d:=
 .inr ⟨plR b kx kS ks,hn,hid,hd,h.stays hb,h.apart hb _⟩
theorem xM.play {C:Cx} {f f':Fr} {p:PrA} {sts:List (List (BitVec 64))} {kx kS b nx:Nat} {ks:List Nat} {objs:List (Nat × Ob)} (h:PlI p sts kx kS ks objs) (hb:2<=b) (hn:C.n0<=b+sts.length) (hid:∀ k,k<C.n0->plR b kx kS ks k=k)
  (hf:vwF ⟨nx,objs⟩ ⟨b+sts.length,plL p b sts⟩ (plR b kx kS ks) f f'):xM C f ⟨nx,objs⟩ f' ⟨b+sts.length,plL p b sts⟩:=
 xM.view (plR b kx kS ks) hn hid hf (h.stays hb) (h.apart hb _)
open Rs Fm Ru Te Kb
namespace Kb
def bQ (p:PrA):List (List (BitVec 64)):=p.init.map fun s=>[s]
structure BP where
 k:Nat
 nx:Nat
 kS:Nat
 ks:List Nat
 objs:List (Nat × Ob)
def aW2 (p:PrA) (k:Nat):List (List (BitVec 64)):=(p.init.take k).map fun s=>[s]
structure IB (p : PrA) (kx : Nat) (x : BP) : Prop where
 hk:x.k<=p.init.length
 hx:St.look x.objs kx=some ⟨6,[[.int .i64 p.F,.sl 1 (us p.init),.sl 1 (us p.see),.sl 1 (mvR p.moves),.sl 1 (cdR p.code),rL x.kS x.k]]⟩
 lt:kx<x.nx
 kS:x.kS<x.nx\/x.k=0
 kl:x.ks.length=x.k
 ks:∀ k ∈ x.ks,k<x.nx
 nd:x.ks.Nodup
 ne:x.k≠0->kx≠x.kS
 xs:kx ∉ x.ks
 ss:x.k≠0->x.kS ∉ x.ks
 nst:x.k≠0->Nst x.objs x.kS x.ks ((aW2 p x.k).map us)
theorem iO {α:Type} {l r:List α} {d:α} {i:Nat} (h:i<l.length):(l++r).getD i d=l.getD i d:=by simp [List.getD,List.getElem?_append_left h]
theorem aXm {α:Type} {l:List α} {x d:α} {i:Nat} (h:i=l.length):(l ++ [x]).getD i d=x:=by subst h; simp [List.getD]
theorem Nst.grow {objs ob:List (Nat × Ob)} {kO kN kI:Nat} {ks:List Nat} {ess:List (List (List D))} {e:List (List D)} (h:ess ≠ []->Nst objs kO ks ess) (kl:ks.length=ess.length) (hout:St.look ob kN=some ⟨1,sV (ks ++ [kI]) (ess ++ [e])⟩)
  (hnew:St.look ob kI=some ⟨1,e⟩) (hold:∀ k ∈ ks,St.look ob k=St.look objs k):Nst ob kN (ks ++ [kI]) (ess ++ [e]) where
 out:=hout
 len:=by simp [kl]
 each:=fun i hi=>by
  by_cases c:i=ess.length
  ·rw [aXm (l:=ks) (by omega),aXm (l:=ess) c]; exact hnew
  ·have hi':i<ess.length:=by simp at hi; omega
   have hn:ess ≠ []:=fun c=>by rw [c] at hi'; cases hi'
   rw [iO (l:=ks) (by omega),iO (l:=ess) hi',hold _ (vN (by omega))];exact(h hn).each i hi'
theorem aN4 (p:PrA) {k:Nat} (hk:k<p.init.length):aW2 p (k+1)= aW2 p k ++ [[p.init.getD k 0]]:=by
 unfold aW2;rw [yD (d:=0) hk,List.map_append]; rfl
theorem aU6 (p:PrA) {k:Nat} (hk:k<=p.init.length):(aW2 p k).length=k:=by simp [aW2]; omega
theorem IB.step {p:PrA} {kx:Nat} {x:BP} (h:IB p kx x) (hlt:x.k<p.init.length) {ob:List (Nat × Ob)} (hout:St.look ob (x.nx+1+1)= some ⟨1,sV (x.ks ++ [x.nx]) ((aW2 p x.k).map us ++ [us [p.init.getD x.k 0]])⟩)
  (hnew:St.look ob x.nx=some ⟨1,us [p.init.getD x.k 0]⟩) (hx:St.look ob kx=some ⟨6,[[.int .i64 p.F,.sl 1 (us p.init),.sl 1 (us p.see),.sl 1 (mvR p.moves),.sl 1 (cdR p.code),.osl (x.nx+1+1) 1 (x.k+1)]]⟩)
  (hold:∀ k,k<x.nx->k≠kx->(x.k=0\/k≠x.kS)->St.look ob k=St.look x.objs k):IB p kx ⟨x.k+1,x.nx+1+1+1,x.nx+1+1,x.ks ++ [x.nx],ob⟩:=by
 have hl:=aU6 p h.hk;have hlt2:=h.lt
 refine⟨by show x.k+1<=_; omega,?_,by show kx<x.nx+1+1+1; omega,.inl (by show x.nx+1+1<x.nx+1+1+1; omega),by simp [h.kl],fun k hk=>?_,?_,fun _=>by show kx≠x.nx+1+1; omega,fun hk=>?_,fun _ hk=>?_,fun _=>?_⟩
 ·show St.look ob kx=_;rw [hx];unfold rL;simp
 ·show k<x.nx+1+1+1
  rcases List.mem_append.1 hk with hk | hk
  ·have:=h.ks k hk; omega
  ·rw [List.mem_singleton.1 hk]; omega
 ·refine List.nodup_append.2 ⟨h.nd,by simp,fun k hk j hj e=>?_⟩;have:=h.ks k hk;rw [List.mem_singleton.1 hj] at e;omega
 ·rcases List.mem_append.1 hk with hk | hk
  ·exact h.xs hk
  ·have:=List.mem_singleton.1 hk; omega
 ·have hk:x.nx+1+1 ∈ x.ks ++ [x.nx]:=hk
  rcases List.mem_append.1 hk with hk | hk
  ·have:=h.ks _ hk; omega
  ·have:=List.mem_singleton.1 hk; omega
 ·show Nst ob (x.nx+1+1) (x.ks ++ [x.nx]) ((aW2 p (x.k+1)).map us);rw [aN4 p hlt,List.map_append];have h0:(aW2 p x.k).map us ≠ []->x.k≠0:=fun c e=>c (by rw [List.map_eq_nil_iff]; exact List.eq_nil_of_length_eq_zero (by omega));refine Nst.grow (fun c=>h.nst (h0 c)) (by rw [h.kl,List.length_map,hl]) hout hnew fun k hk=>?_;have hk1:=h.ks k hk;refine hold k hk1 (fun e=>h.xs (e ▸ hk)) ?_
  by_cases c:x.k=0
  ·exact .inl c
  ·exact .inr fun e=>h.ss c (e ▸ hk)
end Kb
theorem aU5 {p:PrA} {F:Nat} (hv:PrV p F):xX Tryz.prog 120 [p.d] St0 (.ref 0 6 0 0) ⟨2+p.init.length,plL p 2 (bQ p)⟩:=by
 have hI:=hv.hI;have hbl:(bQ p).length=p.init.length:=by simp [bQ]
 have hD:p.d = .agg [.int .i64 p.F,.sl 1 (us p.init),.sl 1 (us p.see),.sl 1 (mvR p.moves),.sl 1 (cdR p.code)]:=rfl;rw [hD];refine xX.go_fn mixed Tryz.func120 bY9 (by simp) fun hf=>?_;simp only [ZA,ZB,ZC,ZD,ZE,↓reduceIte,ZF,ZG,ZH,ZI,ZJ,reduceCtorEq,ZK,↓zU,↓zD,zV,zT,zW,xT]
 (repeat refine sd ?_)
 refine xV (fun x:BP=>[(12,.int .i64 x.k),(11,.int .i64 p.init.length),(10,.sl 1 (us p.init)),(3,.ref 1 6 0 0)]) (fun x=>⟨x.nx,x.objs⟩) (IB p 1) (fun x=>p.init.length-x.k)
  ⟨0,2,0,[],[(1,⟨6,[[.int .i64 p.F,.sl 1 (us p.init),.sl 1 (us p.see),.sl 1 (mvR p.moves),.sl 1 (cdR p.code),.nils]]⟩),(0,⟨5,[[.int .i64 p.F,.sl 1 (us p.init),.sl 1 (us p.see),.sl 1 (mvR p.moves),.sl 1 (cdR p.code)]]⟩)]⟩
  ⟨Nat.zero_le _,rfl,Nat.lt_add_one 1,.inr rfl,rfl,by simp,.nil,fun h=>absurd rfl h,by simp,fun h=>absurd rfl h,fun h=>absurd rfl h⟩ ?_ ?_
 ·(refine xM.same ?_; simp [xR,Fr.get])
 rintro ⟨k,nx,kS,ks,objs⟩ hB;obtain⟨hk,hx,hlt,hkS,hkl,hks,hnd,hne,hxs,hss,hnst⟩:=id hB;simp only at hk hx hlt hkS hkl hks hnd hne hxs hss hnst;refine xQ mixed ?_;by_cases hkl2:k<p.init.length
 case neg=>
  have hd:¬ ((k:Int)<(p.init.length:Int)):=by omega
  obtain rfl:k=p.init.length:=by omega
  have hk0:p.init.length≠0:=by omega
  have he:aW2 p p.init.length=bQ p:=by unfold aW2 bQ; rw [List.take_length]
  have hPI:PlI p (bQ p) 1 kS ks objs:=⟨by rw [hx]; unfold plO rL; rw [if_neg hk0,hbl],he ▸ hnst hk0,hnd,hne hk0,hxs,hss hk0⟩;simp only [ZA,ZB,ZC,ZD,ZE,↓reduceIte,ZF,ZG,ZH,ZI,ZJ,reduceCtorEq,ZK,↓zU,↓zD,zV,zT,zW,hd];have hr:=mT.play (b:=2) (n0:=0) (nx:=nx) (d1:=.ref 1 6 0 0) (d:=.ref 0 6 0 0) hPI (Nat.le_refl _) (Nat.zero_le _) (fun k hk=>absurd hk (Nat.not_lt_zero _)) (by simp only [vw,and_true]; exact⟨by omega,rfl⟩);rw [hbl] at hr;exact hr
 have hd:((k:Int)<(p.init.length:Int)):=by omega
 have hg:=zH p.init hkl2;have hst:=fun ob=>@IB.step p 1 ⟨k,nx,kS,ks,objs⟩ hB hkl2 ob;simp only at hst;generalize p.init.getD k 0=s at hg hst;have q1:¬ (nx=1):=by omega
 have q5:¬ (nx+1+1=1):=by omega
 have q6:¬ (nx+1=1):=by omega
 have q7:¬ (nx=0):=by omega
 by_cases hk0:k=0
 ·subst hk0;have hd0:(0:Int)<(p.init.length:Int):=by omega
  unfold rL at hx;rw [if_pos rfl] at hx;obtain rfl:ks = []:=List.eq_nil_of_length_eq_zero hkl
  have hst1:=hst ((nx+1+1,⟨1,[[.osl nx 1 1]]⟩) :: (nx+1,⟨1,[[.osl nx 1 1]]⟩) :: (nx,⟨1,[[.int .u64 (ui s)]]⟩) :: wF objs 1 ⟨6,[[.int .i64 p.F,.sl 1 (us p.init),.sl 1 (us p.see),.sl 1 (mvR p.moves),.sl 1 (cdR p.code),.osl (nx+1+1) 1 1]]⟩)
   (by rw [xY,if_pos rfl]; rfl) (by rw [xY,if_neg (by omega),xY,if_neg (by omega),xY,if_pos rfl]; rfl)
   (by rw [xY,if_neg q5,xY,if_neg q6,xY,if_neg q1,xW,if_pos rfl,hx]; rfl)
   (fun j hj h1 _=>by rw [xY,if_neg (by omega),xY,if_neg (by omega),xY,if_neg (by omega),xW,if_neg (fun e=>h1 e.symm)])
  simp only [ZA,ZB,ZC,ZD,ZE,↓reduceIte,ZF,ZG,ZH,ZI,ZJ,reduceCtorEq,ZK,↓zU,↓zD,zV,zT,zW,hd0,xT,hg,hx,q1,q5,q6,q7]
  (repeat refine sd ?_)
  refine⟨_,hst1,?_,by show p.init.length-(0+1)<_; omega⟩
  (refine xM.same ?_; simp only [xR,Fr.get,↓reduceIte,reduceIte,Nat.reduceEqDiff,reduceCtorEq,D.int.injEq,D.bool.injEq,D.sl.injEq,and_true,true_and,and_self])
  rfl
 ·have hkS2:kS<nx:=hkS.resolve_right hk0;have ho:=(hnst hk0).out;unfold rL at hx;rw [if_neg hk0] at hx;have hnl:=vO (hnst hk0).len;rw [List.length_map,aU6 p hk] at hnl;have htk:(sV ks ((aW2 p k).map us)).take k=sV ks ((aW2 p k).map us):=List.take_of_length_le (by omega);have q2:¬ (nx=kS):=by omega
  have q3:¬ (nx+1=kS):=by omega
  have q4:¬ (kS=1):=fun e=>hne hk0 e.symm;have hxe:St.look (yQ objs kS) 1=some ⟨6,[[.int .i64 p.F,.sl 1 (us p.init),.sl 1 (us p.see),.sl 1 (mvR p.moves),.sl 1 (cdR p.code),.osl kS 1 k]]⟩:=by rw [xL,if_neg q4]; exact hx
  have hsn:=iW (hnst hk0).len nx (us [s])
  have hst1:=hst ((nx+1+1,⟨1,sV ks ((aW2 p k).map us)++ [[.osl nx 1 1]]⟩) :: (nx+1,⟨1,[[.osl nx 1 1]]⟩) :: (nx,⟨1,[[.int .u64 (ui s)]]⟩) :: wF (yQ objs kS) 1 ⟨6,[[.int .i64 p.F,.sl 1 (us p.init),.sl 1 (us p.see),.sl 1 (mvR p.moves),.sl 1 (cdR p.code),.osl (nx+1+1) 1 (k+1)]]⟩)
   (by rw [xY,if_pos rfl,<- hsn]; rfl) (by rw [xY,if_neg (by omega),xY,if_neg (by omega),xY,if_pos rfl]; rfl)
   (by rw [xY,if_neg q5,xY,if_neg q6,xY,if_neg q1,xW,if_pos rfl,hxe]; rfl)
   (fun j hj h1 h2=>by rw [xY,if_neg (by omega),xY,if_neg (by omega),xY,if_neg (by omega),xW,if_neg (fun e=>h1 e.symm),xL,if_neg (fun e=>(h2.resolve_left hk0) e.symm)])
  simp only [ZA,ZB,ZC,ZD,ZE,↓reduceIte,ZF,ZG,ZH,ZI,ZJ,reduceCtorEq,ZK,↓zU,↓zD,zV,zT,zW,hd,xT,hg,hx,hxe,q1,q2,q3,q4,q5,q6,q7,ho,hnl,htk]
  (repeat refine sd ?_)
  refine⟨_,hst1,?_,by show p.init.length-(k+1)<_; omega⟩
  (refine xM.same ?_; simp only [xR,Fr.get,↓reduceIte,reduceIte,Nat.reduceEqDiff,reduceCtorEq,D.int.injEq,D.bool.injEq,D.sl.injEq,and_true,true_and,and_self])
  exact wrap_i64 (by omega)
open Rs Fm Ru Te Kb
namespace Kb
def aR4 (st:List (BitVec 64)):BitVec 64:=st.getD (st.length-1) 0
def aMh (p:PrA) (sts:List (List (BitVec 64))) (mv:List (List Int)) (i:Nat):BitVec 64:=aDa p (aR4 (stR sts i)) (mv.map fun m=>m.getD i 0)
def bT (p:PrA) (sts:List (List (BitVec 64))) (mv:List (List Int)) (r:Nat):List (List (BitVec 64)):=(List.range sts.length).map fun i=>if i<r then stR sts i ++ [aMh p sts mv i] else stR sts i
def lA (p:PrA) (sts:List (List (BitVec 64))) (mv:List (List Int)):List (List (BitVec 64)):=(List.range sts.length).map fun i=>stR sts i ++ [aMh p sts mv i]
section
variable {p : PrA} {sts : List (List (BitVec 64))} {mv : List (List Int)} {r : Nat}
theorem yC : (bT p sts mv r).length=sts.length:=by simp [bT]
theorem kL {i:Nat} (hi:i<sts.length):stR (bT p sts mv r) i=if i<r then stR sts i ++ [aMh p sts mv i] else stR sts i:=by
 simp [stR,bT,List.getD,hi]
theorem aP0 : bT p sts mv 0=sts:=by
 refine List.ext_getElem (by simp [bT]) fun i h1 h2=>?_;simp [bT,stR,List.getD,h2]
theorem aLg (h:sts.length<=r):bT p sts mv r=lA p sts mv:=by
 refine List.map_congr_left fun i hi=>?_;rw [if_pos (by have:=List.mem_range.1 hi; omega)]
theorem aLf (hr:r<sts.length):((bT p sts mv r).map us).set r (us (stR sts r ++ [aMh p sts mv r]))= (bT p sts mv (r+1)).map us:=by
 refine List.ext_getElem (by simp [bT]) fun k h1 h2=>?_;rw [List.getElem_set];simp only [bT,List.getElem_map,List.getElem_range]
 by_cases e:r=k
 ·subst e; rw [if_pos rfl,if_pos (by omega)]
 ·rw [if_neg e]
  by_cases hk:k<r
  ·rw [if_pos hk,if_pos (by omega)]
  ·rw [if_neg hk,if_neg (by omega)]
end
structure AP where
 r:Nat
 nx:Nat
 ks:List Nat
 objs:List (Nat × Ob)
structure IA (p : PrA) (sts : List (List (BitVec 64))) (mv : List (List Int)) (n0 : Nat) (x : AP) : Prop where
 hr:x.r<=sts.length
 hn:n0<=x.nx
 pl:PlI p (bT p sts mv x.r) 0 1 x.ks x.objs
 lt:∀ k ∈ x.ks,k<x.nx
theorem aLp {l:List Nat} {i j x:Nat} (hj:j<l.length):(l.set i x).getD j 0=if i=j then x else l.getD j 0:=by
 simp only [List.getD,List.getElem?_set]
 split
 ·rename_i h; subst h; simp [hj]
 ·rfl
theorem lV {l:List Nat} {i x k:Nat} (h:k ∈ l.set i x):k=x\/k ∈ l:=(List.mem_or_eq_of_mem_set h).symm
theorem aOw {l:List Nat} (hd:l.Nodup) {i x:Nat} (hx:x ∉ l):(l.set i x).Nodup:=by
 unfold List.Nodup at hd ⊢;rw [List.pairwise_iff_getElem] at hd ⊢;intro a b ha hb hab;rw [List.length_set] at ha hb;rw [List.getElem_set,List.getElem_set]
 split
 ·rw [if_neg (by omega)];exact fun e=>hx (e ▸ List.getElem_mem _)
 ·split
  ·exact fun e=>hx (e ▸ List.getElem_mem _)
  ·exact hd a b ha hb hab
theorem IA.step {p:PrA} {sts:List (List (BitVec 64))} {mv:List (List Int)} {n0:Nat} {x:AP} (h:IA p sts mv n0 x) (hr:x.r<sts.length) {m:Nat} (hm:x.nx<=m) (h2:2<=x.nx) {ob:List (Nat × Ob)}
  (hout:St.look ob 1=some ⟨1,(sV x.ks ((bT p sts mv x.r).map us)).set x.r [.osl m 1 ((stR sts x.r).length+1)]⟩) (hnew:St.look ob m=some ⟨1,us (stR sts x.r ++ [aMh p sts mv x.r])⟩)
  (hold:∀ k,k<x.nx->k≠1->k≠x.ks.getD x.r 0->St.look ob k=St.look x.objs k):IA p sts mv n0 ⟨x.r+1,m+1,x.ks.set x.r m,ob⟩:=by
 have hl:=h.pl.nst.len;rw [List.length_map,yC] at hl;have hnx:=h.hn;have hmk:m ∉ x.ks:=fun hk=>by have:=h.lt m hk; omega
 have hmr:=vN (l:=x.ks) (i:=x.r) (by omega)
 refine⟨by show x.r+1<=_; omega,by show n0<=m+1; omega,⟨?_,?_,aOw h.pl.nd hmk,by decide,fun hk=>?_,fun hk=>?_⟩,fun k hk=>?_⟩
 ·show St.look ob 0=_;rw [hold 0 (by omega) (by decide) fun e=>h.pl.xs (e ▸ hmr),h.pl.hx,yC,yC]
 ·show Nst ob 1 (x.ks.set x.r m) ((bT p sts mv (x.r+1)).map us);have hsl:(bT p sts mv x.r).length=sts.length:=yC
  refine⟨?_,by rw [List.length_set,List.length_map,yC]; exact hl,fun i hi=>?_⟩
  ·have:=aKm h.pl.nst.len (i:=x.r) (by rw [List.length_map,yC]; exact hr) m (us (stR sts x.r ++ [aMh p sts mv x.r]));rw [xT,List.length_append,List.length_singleton,aLf hr] at this;rw [hout,this]
  ·rw [List.length_map,yC] at hi;rw [aLp (by omega)]
   by_cases e:x.r=i
   ·subst e;rw [if_pos rfl,hnew,vF (by rw [yC]; exact hi),kL hi,if_pos (by omega)]
   ·rw [if_neg e,hold _ (h.lt _ (vN (by omega))) (fun c=>h.pl.ss (c ▸ vN (by omega))) fun c=>e (aZs h.pl.nd (by omega) (by omega) c.symm)];have:=h.pl.nst.each i (by rw [List.length_map,yC]; exact hi);rw [this,vF (by rw [yC]; exact hi),vF (by rw [yC]; exact hi),kL hi,kL hi]
    by_cases c:i<x.r
    ·rw [if_pos c,if_pos (by omega)]
    ·rw [if_neg c,if_neg (by omega)]
 ·rcases lV hk with e | e
  ·omega
  ·exact h.pl.xs e
 ·rcases lV hk with e | e
  ·omega
  ·exact h.pl.ss e
 ·show k<m+1
  rcases lV hk with e | e
  ·omega
  ·have:=h.lt k e; omega
end Kb
theorem aCc {b:Nat} {ks:List Nat} {k:Nat} (h:k<b):plR b 0 1 ks k=k:=by
 unfold plR
 by_cases h0:k=0
 ·rw [if_pos h0,h0]
 ·rw [if_neg h0]
  by_cases h1:k=1
  ·rw [if_pos h1,h1]
  ·rw [if_neg h1,if_neg (by omega)]
structure OP where
 j:Nat
 m:Nat
 kW:Nat
 ob:List (Nat × Ob)
structure IO (objs : List (Nat × Ob)) (n1 : Nat) (own : List Int) (x : OP) : Prop where
 hj:x.j<=own.length
 hm:n1<=x.m
 kW:x.j≠0->n1<=x.kW/\x.kW<x.m/\St.look x.ob x.kW=some ⟨1,rows .i64 (own.take x.j)⟩
 old:∀ k,k<n1->St.look x.ob k=St.look objs k
theorem eF {p:PrA} {F:Nat} (hv:PrV p F) {sts:List (List (BitVec 64))} (hR:1<=sts.length/\sts.length<=16) (hL:∀ st ∈ sts,1<=st.length/\st.length<=100) (hval:∀ st ∈ sts,∀ s ∈ st,s >>> F=0#64)
  {mv:List (List Int)} (hmA:1<=mv.length/\mv.length<=100) (hmR:∀ m ∈ mv,m.length=sts.length) (hmv:∀ m ∈ mv,∀ k ∈ m,k<p.moves.length) {nx:Nat} (hnx:2+sts.length<=nx) :
  xX Tryz.prog 121 [.ref 0 6 0 0,.sl 1 (rl mv)] ⟨nx,plL p 2 sts⟩ (.tup []) ⟨nx+sts.length,plL p nx (lA p sts mv)⟩:=by
 have hsl:(lA p sts mv).length=sts.length:=by simp [lA]
 have hP0:=mH p (Nat.le_refl 2) sts;refine xX.go_fn mixed Tryz.func121 bY8 (by simp) fun hf=>?_;have h00:=hP0.hx;unfold plO at h00;simp only [ZA,ZB,ZC,ZD,ZE,↓reduceIte,ZF,ZG,ZH,ZI,ZJ,reduceCtorEq,ZK,↓zU,↓zD,zV,zT,zW,h00]
 (repeat refine sd ?_)
 refine xV (fun x:AP=>[(13,.int .i64 x.r),(12,.int .i64 sts.length),(11,.osl 1 1 sts.length),(1,.sl 1 (rl mv)),(0,.ref 0 6 0 0)]) (fun x=>⟨x.nx,x.objs⟩) (IA p sts mv nx) (fun x=>sts.length-x.r)
  ⟨0,nx,List.range' 2 sts.length,plL p 2 sts⟩ ⟨Nat.zero_le _,Nat.le_refl _,by show PlI p (bT p sts mv 0) _ _ _ _; rw [aP0]; exact hP0,fun k hk=>by have:=List.mem_range'_1.1 hk; show k<nx; omega⟩ ?_ ?_
 ·(refine xM.same ?_; simp [xR,Fr.get])
 rintro ⟨r,n1,ks,objs⟩ hI;obtain⟨hr,hn,hpl,hlt⟩:=id hI;simp only at hr hn hpl hlt;refine xQ mixed ?_;by_cases hrl:r<sts.length
 case neg=>
  have hd:¬ ((r:Int)<(sts.length:Int)):=by omega
  rw [aLg (by omega)] at hpl;simp only [ZA,ZB,ZC,ZD,ZE,↓reduceIte,ZF,ZG,ZH,ZI,ZJ,reduceCtorEq,ZK,↓zU,↓zD,zV,zT,zW,hd];have hr:=mT.play (b:=nx) (n0:=nx) (nx:=n1) (d1:=.tup []) (d:=.tup []) hpl (by omega) (by omega) (fun k hk=>aCc hk) (by simp only [vw,vwL]; exact⟨trivial,trivial⟩);rw [hsl] at hr;exact hr
 have hd:((r:Int)<(sts.length:Int)):=by omega
 have hnl:=hpl.nst.len;rw [List.length_map,yC] at hnl;have hnr:=vO hpl.nst.len;rw [List.length_map,yC] at hnr;have hgr:=qG hpl.nst.len (i:=r) (by rw [List.length_map,yC]; exact hrl);have hst:=kL (p:=p) (mv:=mv) (r:=r) hrl;rw [if_neg (Nat.lt_irrefl r)] at hst;rw [vF (by rw [yC]; exact hrl),hst,xT] at hgr;have hkr:=hpl.nst.each r (by rw [List.length_map,yC]; exact hrl);rw [vF (by rw [yC]; exact hrl),hst] at hkr;have hmem:=vN (l:=ks) (i:=r) (by omega);have hkr0:ks.getD r 0≠0:=fun e=>hpl.xs (e ▸ hmem);have hkr1:ks.getD r 0≠1:=fun e=>hpl.ss (e ▸ hmem);have hkrn:=hlt _ hmem;have hout:=hpl.nst.out;have h0:=hpl.hx;unfold plO at h0;rw [yC] at h0;have hstep:=fun m hm ob=>@IA.step p sts mv nx ⟨r,n1,ks,objs⟩ hI hrl m hm (by show 2<=n1; omega) ob;simp only at hstep;have hnw:aMh p sts mv r=aDa p (aR4 (stR sts r)) (mv.map fun m=>m.getD r 0):=rfl;have hLr:1<=(stR sts r).length/\(stR sts r).length<=100:=hL _ (xN (d:=[]) hrl);have hvr:∀ s ∈ stR sts r,s >>> F=0#64:=hval _ (xN (d:=[]) hrl);have hls:=hvr (aR4 (stR sts r)) (xN (by omega));have hgl:=zH (stR sts r) (show (stR sts r).length-1<_ by omega);have hwl:IntKind.i64.wrap ((stR sts r).length-1:Int)= (((stR sts r).length-1:Nat):Int):=by rw [wrap_i64 (by omega)]; omega
 have hSk:=yC (p:=p) (sts:=sts) (mv:=mv) (r:=r);change (us (stR sts r)).getD _ [] = [.int .u64 (ui (aR4 (stR sts r)))] at hgl;generalize bT p sts mv r=sk at *;generalize ks.getD r 0=kr at *;generalize stR sts r=st at *;generalize aR4 st=s at *;have hmd:∀ m ∈ mv,m.getD r 0<p.moves.length:=fun m hm=>hmv m hm _ (xN (by rw [hmR m hm]; exact hrl))
 have hnext:=aGy hv sk hls (mv:=mv.map fun m=>m.getD r 0) (by rw [List.length_map]; omega) fun k hk=>by
  simp only [List.mem_map] at hk;obtain⟨m,hm,rfl⟩:=hk;exact hmd m hm
 rw [<- hnw] at hnext;generalize aMh p sts mv r=y at *;have hown:(mv.map fun m=>m.getD r 0).length=mv.length:=List.length_map _;have howg:∀ j,j<mv.length->(mv.map fun m=>m.getD r 0).getD j 0=(mv.getD j []).getD r 0:=fun j hj=>by simp [List.getD,hj]
 generalize (mv.map fun m=>m.getD r 0)= own at *;simp only [ZA,ZB,ZC,ZD,ZE,↓reduceIte,ZF,ZG,ZH,ZI,ZJ,reduceCtorEq,ZK,↓zU,↓zD,zV,zT,zW,hd,hout,hnr,hgr,vL]
 (repeat refine sd ?_)
 refine xV (fun x:OP=>[(20,.int .i64 x.j),(19,.int .i64 mv.length),(13,.int .i64 r),(12,.int .i64 sts.length),(11,.osl 1 1 sts.length),(6,rL x.kW x.j),(5,.osl kr 1 st.length),(4,.int .i64 r),(1,.sl 1 (rl mv)),(0,.ref 0 6 0 0)]) (fun x=>⟨x.m,x.ob⟩)
  (IO objs n1 own) (fun x=>mv.length-x.j) ⟨0,n1,0,objs⟩ ⟨Nat.zero_le _,Nat.le_refl _,fun h=>absurd rfl h,fun _ _=>rfl⟩ ?_ ?_
 ·(refine xM.same ?_; simp [xR,Fr.get,rL])
 rintro ⟨j,m,kW,ob⟩ ⟨hj,hm,hkW,hold⟩;simp only at hj hm hkW hold;have g0:St.look ob 0=some ⟨6,[[.int .i64 p.F,.sl 1 (us p.init),.sl 1 (us p.see),.sl 1 (mvR p.moves),.sl 1 (cdR p.code),.osl 1 1 sts.length]]⟩:=by rw [hold 0 (by omega)]; exact h0
 have g1:St.look ob 1=some ⟨1,sV ks (sk.map us)⟩:=by rw [hold 1 (by omega)]; exact hout
 have g2:St.look ob kr=some ⟨1,us st⟩:=by rw [hold kr hkrn]; exact hkr
 refine xQ mixed ?_;by_cases hjl:j<mv.length
 case pos=>
  have hd2:((j:Int)<(mv.length:Int)):=by omega
  have hgm:=fT mv hjl;have hml:=hmR _ (xN (d:=[]) hjl);have hrm:((r:Int)<((mv.getD j []).length:Int)):=by omega
  have hge:=yL .i64 (mv.getD j []) (show r<_ by omega);rw [<- howg j hjl] at hge;have htk:=yD (d:=0) (show j<own.length by omega);generalize mv.getD j []=e at *;generalize own.getD j 0=z at *
  by_cases hj0:j=0
  ·subst hj0;have hd20:(0:Int)<(mv.length:Int):=by omega
   unfold rL;simp only [ZA,ZB,ZC,ZD,ZE,↓reduceIte,ZF,ZG,ZH,ZI,ZJ,reduceCtorEq,ZK,↓zU,↓zD,zV,zT,zW,hd20,vL,hgm,hrm,xF,hge]
   (repeat refine sd ?_)
   refine⟨⟨0+1,m+1,m,(m,⟨1,[[.int .i64 z]]⟩) :: ob⟩,⟨by show 0+1<=_; omega,by show n1<=m+1; omega,fun _=>⟨hm,by show m<m+1; omega,?_⟩,fun k hk=>by show St.look ((m,_) :: ob) k=_; rw [xY,if_neg (by omega)]; exact hold k hk⟩,?_,by show mv.length-(0+1)<_; omega⟩
   ·show St.look ((m,_) :: ob) m=_;rw [xY,if_pos rfl];show _=some (Ob.mk 1 (rows .i64 (own.take (0+1))));rw [htk]; rfl
   ·(refine xM.same ?_; simp only [xR,Fr.get,↓reduceIte,reduceIte,Nat.reduceEqDiff,reduceCtorEq,D.int.injEq,D.bool.injEq,D.sl.injEq,and_true,true_and,and_self,Nat.zero_add,Nat.one_ne_zero])
    rfl
  ·obtain⟨w1,w2,w3⟩:=hkW hj0;have hol:(own.take j).length=j:=by rw [List.length_take]; omega
   unfold rL;rw [if_neg hj0];have q1:¬ (m=kW):=by omega
   have htt:(own.take j).take j=own.take j:=by rw [List.take_take,Nat.min_self]
   simp only [ZA,ZB,ZC,ZD,ZE,↓reduceIte,ZF,ZG,ZH,ZI,ZJ,reduceCtorEq,ZK,↓zU,↓zD,zV,zT,zW,hd2,vL,hgm,hrm,xF,hge,w3,hol,htt]
   (repeat refine sd ?_)
   refine⟨⟨j+1,m+1,m,(m,⟨1,rows .i64 (own.take j ++ [z])⟩) :: yQ ob kW⟩,⟨by show j+1<=_; omega,by show n1<=m+1; omega,fun _=>⟨hm,by show m<m+1; omega,?_⟩,fun k hk=>by show St.look ((m,_) :: yQ ob kW) k=_; rw [xY,if_neg (by omega),xL,if_neg (by omega)]; exact hold k hk⟩,?_,by show mv.length-(j+1)<_; omega⟩
   ·show St.look ((m,_) :: _) m=_;rw [xY,if_pos rfl];show _=some (Ob.mk 1 (rows .i64 (own.take (j+1))));rw [htk]
   ·simp only [Nat.add_one_ne_zero,↓reduceIte]
    (refine xM.same ?_; simp only [xR,Fr.get,↓reduceIte,reduceIte,Nat.reduceEqDiff,reduceCtorEq,D.int.injEq,D.bool.injEq,D.sl.injEq,and_true,true_and,and_self])
    exact wrap_i64 (by omega)
 have hd2:¬ ((j:Int)<(mv.length:Int)):=by omega
 obtain rfl:j=mv.length:=by omega
 have hj0:mv.length≠0:=by omega
 obtain⟨w1,w2,w3⟩:=hkW hj0;unfold rL;rw [if_neg hj0];have how:own.take mv.length=own:=List.take_of_length_le (by omega);rw [how] at w3
 have hKP:PlI p sk 0 1 ks ob:=⟨by show _=some (plO p 1 sk.length); rw [g0,hSk]; rfl,⟨g1,hpl.nst.len,fun i hi=>by
  have hik:i<ks.length:=by have:=hpl.nst.len; omega
  rw [hold _ (hlt _ (vN hik))]; exact hpl.nst.each i hi⟩,hpl.nd,hpl.ne,hpl.xs,hpl.ss⟩
 have hcall:xX Tryz.prog 183 [.ref 0 6 0 0,.int .u64 (ui s),.osl kW 1 mv.length] ⟨m,ob⟩ (.int .u64 (ui y)) ⟨m,ob⟩:=
  xX.lentS hnext ⟨hKP.seen (fun h=>h) (fun h=>h) fun _ _ h=>h,.pure rfl,Seen.rows w3 (fun h=>h) (by decide) (by rw [xF]; omega) (fun e he=>by
   simp only [rows,List.mem_map] at he;obtain⟨x,_,rfl⟩:=he;rfl) (uW _ _),trivial⟩ rfl
 have hlt2:(((st.length-1:Nat):Int)<(st.length:Int)):=by omega
 have hlt3:st.length-1<st.length:=by omega
 simp only [ZA,ZB,ZC,ZD,ZE,↓reduceIte,ZF,ZG,ZH,ZI,ZJ,reduceCtorEq,ZK,↓zU,↓zD,zV,zT,zW,hd2,↓aMw]
 (refine aPv mixed ?_; simp only [ZA,ZB,ZC,ZD,ZE,↓reduceIte,ZF,ZG,ZH,ZI,ZJ,reduceCtorEq,ZK,↓zU,↓zD,zV,zT,zW,↓rv1,↓aVw,↓aD,↓fG,g0,g1,g2,hwl,hgl,hlt2,hlt3,xT])
 (repeat refine sd ?_)
 refine bI.go hcall ?_;have e0:St.look (yQ ob kr) 0=some ⟨6,[[.int .i64 p.F,.sl 1 (us p.init),.sl 1 (us p.see),.sl 1 (mvR p.moves),.sl 1 (cdR p.code),.osl 1 1 sts.length]]⟩:=by rw [xL,if_neg hkr0]; exact g0
 have e1:St.look (yQ ob kr) 1=some ⟨1,sV ks (sk.map us)⟩:=by rw [xL,if_neg hkr1]; exact g1
 have q0:¬ (m=0):=by omega
 have q1:¬ (m=1):=by omega
 have q2:¬ (m=kr):=by omega
 have htk:(us st).take st.length=us st:=List.take_of_length_le (by rw [xT]; exact Nat.le_refl _)
 (simp only [ZA,ZB,ZC,ZD,ZE,↓reduceIte,ZF,ZG,ZH,ZI,ZJ,reduceCtorEq,ZK,↓zU,↓zD,zV,zT,zW,↓rv1,↓aVw,↓aD,↓fG,g0,g1,g2,e0,e1,q0,q1,q2,xT,htk,hnr,hgr,hd,aZc])
 (repeat refine sd ?_)
 refine⟨⟨r+1,m+1,ks.set r m,(m,⟨1,us (st ++ [y])⟩) :: wF (yQ ob kr) 1 ⟨1,(sV ks (sk.map us)).set r [.osl m 1 (st.length+1)]⟩⟩,hstep m hm _ ?_ ?_ fun k hk h1 h2=>?_,?_,by show sts.length-(r+1)<_; omega⟩
 ·rw [xY,if_neg q1,xW,if_pos rfl,e1]; rfl
 ·rw [xY,if_pos rfl]
 ·rw [xY,if_neg (by omega),xW,if_neg (fun e=>h1 e.symm),xL,if_neg (fun e=>h2 e.symm)];exact hold k hk
 ·(refine xM.same ?_; simp only [xR,Fr.get,↓reduceIte,reduceIte,Nat.reduceEqDiff,reduceCtorEq,D.int.injEq,D.bool.injEq,D.sl.injEq,and_true,true_and,and_self])
  exact wrap_i64 (by omega)
open Rs Fm Ru Te Kb
namespace Kb
def yU (p:PrA):Nat->List (List (BitVec 64))
 | 0=>bQ p
 | n+1=>lA p (yU p n) (presM p (yU p n) n)
theorem aF2 {x:BitVec 64} {F:Nat}:x >>> F=0#64 ↔ ∀ i,F<=i->x.getLsbD i=false:=by
 constructor
 ·intro h i hi;have:=congrArg (fun y:BitVec 64=>y.getLsbD (i-F)) h;simp only [BitVec.getLsbD_ushiftRight,BitVec.getLsbD_zero] at this
  rwa [show F+(i-F)= i by omega] at this
 ·intro h;refine BitVec.eq_of_getLsbD_eq fun i _=>?_;rw [BitVec.getLsbD_ushiftRight,BitVec.getLsbD_zero];exact h _ (by omega)
theorem aJz {A F:Nat} {s0 out:BitVec 64} {a:AsA} (ho:out >>> F=0#64) (hf:a.fact.toNat<F):aR0 A s0 out a >>> F=0#64:=by
 rw [aF2] at ho ⊢;intro i hi;unfold aR0;rw [BitVec.getLsbD_or,BitVec.getLsbD_and,ho i hi,Bool.false_and,Bool.false_or]
 split
 ·rw [BitVec.getLsbD_shiftLeft]
  by_cases h:i<64
  ·rw [show (1#64).getLsbD (i-a.fact.toNat)= false by
    have:i-a.fact.toNat≠0:=by omega
    simp [this]]
   simp
  ·simp [h]
 ·exact BitVec.getLsbD_zero
theorem aKl {p:PrA} {F:Nat} (hv:PrV p F) {s:BitVec 64} (hs:s >>> F=0#64) {mv:List Int} (hmv:∀ k ∈ mv,k<p.moves.length):aDa p s mv >>> F=0#64:=by
 have key:∀ (l:List Int) (out:BitVec 64),(∀ k ∈ l,k<p.moves.length)->out >>> F=0#64->l.foldl (aRt p s) out >>> F=0#64:=by
  intro l
  induction l with
  | nil=>intro out _ h; exact h
  | cons k r ih=>
   intro out hk h;refine ih _ (fun k hk2=>hk k (by simp [hk2])) ?_;unfold aRt
   split
   ·exact h
   ·have hkm:=hk k (by simp);have hm:=xN (l:=p.moves) (d:=[]) (k:=k.toNat) (by omega);generalize p.moves.getD k.toNat []=m at hm
    have:∀ (l:List AsA) (out:BitVec 64),(∀ a ∈ l,asE p a=0)->out >>> F=0#64->l.foldl (aR0 p.see.length s) out >>> F=0#64:=by
     intro l
     induction l with
     | nil=>intro out _ h; exact h
     | cons a r ih2=>
      intro out ha h;have h1:=aU8 hv.fe (ha a (by simp));exact ih2 _ (fun b hb=>ha b (by simp [hb])) (aJz h (by omega))
    exact this m out (hv.mv m hm) h
 exact key mv s hmv hs
theorem cU {p:PrA} {sts:List (List (BitVec 64))} {t a w:Nat}:∀ {l:List ClA},(∀ c ∈ l,clE p c=0)->presL p.see sts t a w l<p.moves.length /\ -1<=presL p.see sts t a w l
 | [],_=>⟨by unfold presL; omega,by unfold presL; omega⟩
 | c :: r,h=>by
  unfold presL
  split
  ·have:=h c (by simp);unfold clE at this
   split at this
   ·rename_i h1; exact absurd this h1
   ·split at this
    ·cases this
    ·rename_i h2; omega
  ·exact cU fun d hd=>h d (by simp [hd])
theorem nL (p:PrA) (sts:List (List (BitVec 64))) (t:Nat):(presM p sts t).length=p.see.length:=by simp [presM]
theorem aE {p:PrA} {sts:List (List (BitVec 64))} {t:Nat}:∀ m ∈ presM p sts t,m.length=sts.length:=fun m hm=>by
 simp only [presM,List.mem_map] at hm;obtain⟨a,_,rfl⟩:=hm;simp
theorem aVu {p:PrA} {F:Nat} (hv:PrV p F) {sts:List (List (BitVec 64))} {t:Nat}:∀ m ∈ presM p sts t,∀ k ∈ m,k<p.moves.length:=fun m hm k hk=>by
 simp only [presM,List.mem_map,List.mem_range] at hm;obtain⟨a,ha,rfl⟩:=hm;simp only [List.mem_map] at hk;obtain⟨w,_,rfl⟩:=hk;exact(cU fun c hc=>hv.code _ (xN (d:=[]) (by rw [hv.hC]; exact ha)) c hc).1
structure PlS (p : PrA) (F : Nat) (sts : List (List (BitVec 64))) (n : Nat) : Prop where
 len:sts.length=p.init.length
 run:∀ st ∈ sts,st.length=n+1
 val:∀ st ∈ sts,∀ s ∈ st,s >>> F=0#64
theorem PlS.beg {p:PrA} {F:Nat} (hv:PrV p F):PlS p F (bQ p) 0 where
 len:=by simp [bQ]
 run:=fun st hs=>by
  simp only [bQ,List.mem_map] at hs;obtain⟨s,_,rfl⟩:=hs;rfl
 val:=fun st hs s hs2=>by
  simp only [bQ,List.mem_map] at hs;obtain⟨x,hx,rfl⟩:=hs;rw [List.mem_singleton.1 hs2];exact hv.init x hx
theorem vI {sts:List (List (BitVec 64))} {i:Nat} (h:i<sts.length):stR sts i ∈ sts:=xN h
theorem PlS.step {p:PrA} {F:Nat} (hv:PrV p F) {sts:List (List (BitVec 64))} {n:Nat} (h:PlS p F sts n) {mv:List (List Int)} (hmR:∀ m ∈ mv,m.length=sts.length) (hmv:∀ m ∈ mv,∀ k ∈ m,k<p.moves.length):PlS p F (lA p sts mv) (n+1) where
 len:=by rw [<- h.len]; simp [lA]
 run:=fun st hs=>by
  simp only [lA,List.mem_map,List.mem_range] at hs;obtain⟨i,hi,rfl⟩:=hs;rw [List.length_append,h.run _ (vI hi)];rfl
 val:=fun st hs s hs2=>by
  simp only [lA,List.mem_map,List.mem_range] at hs;obtain⟨i,hi,rfl⟩:=hs;have hr:=h.run _ (vI hi)
  rcases List.mem_append.1 hs2 with h1 | h1
  ·exact h.val _ (vI hi) s h1
  ·rw [List.mem_singleton.1 h1];refine aKl hv (h.val _ (vI hi) _ (xN (by omega))) fun k hk=>?_;simp only [List.mem_map] at hk;obtain⟨m,hm,rfl⟩:=hk;exact hmv m hm _ (xN (by rw [hmR m hm]; exact hi))
theorem PlS.good {p:PrA} {F:Nat} (hv:PrV p F) {sts:List (List (BitVec 64))} {n t:Nat} (h:PlS p F sts n) (ht:t<=n) (hn:n<=1000):PlG p F sts t:=
 ⟨hv.fe,hv.hF,hv.hA,by rw [h.len]; exact hv.hI,fun st hs=>by rw [h.run st hs]; omega,by omega,h.val⟩
theorem tZ {p:PrA} {F:Nat} (hv:PrV p F):∀ n,PlS p F (yU p n) n
 | 0=>PlS.beg hv
 | n+1=>PlS.step hv (tZ hv n) aE (aVu hv)
theorem aVy {p:PrA} {F:Nat} (hv:PrV p F) (n:Nat):(yU p n).length=p.init.length:=(tZ hv n).len
theorem PlI.shift {p:PrA} {sts:List (List (BitVec 64))} {kx kS c:Nat} {ks:List Nat} {objs r:List (Nat × Ob)} (h:PlI p sts kx kS ks objs):PlI p sts (c+kx) (c+kS) (ks.map (c + ·)) (yZ c objs++r) where
 hx:=by rw [vE,rW c h.hx]; rfl
 nst:=Go.Pd.Nst.shift h.nst fun e he r hr=>(aQp e he r hr).2
 nd:=by
  have:=h.nd;unfold List.Nodup at this ⊢;rw [List.pairwise_map];exact this.imp fun h e=>h (by omega)
 ne:=fun e=>h.ne (by omega)
 xs:=fun hk=>by
  simp only [List.mem_map] at hk;obtain⟨k,hk,e⟩:=hk;exact h.xs ((show k=kx by omega) ▸ hk)
 ss:=fun hk=>by
  simp only [List.mem_map] at hk;obtain⟨k,hk,e⟩:=hk;exact h.ss ((show k=kS by omega) ▸ hk)
end Kb
theorem kJ {p:PrA} {b nx:Nat} (hb:2<=b) {sts:List (List (BitVec 64))} {K:Nat->Prop} (hK:∀ k,¬ K k):Seen ⟨nx,plL p b sts⟩ K (.ref 0 6 0 0) (plD p sts):=(mH p hb sts).seen (hK 0) (hK 1) fun k _=>hK k
theorem uF {mv:List (List Int)}:∀ e ∈ mv.map (rows .i64),∀ r ∈ e,r.length=1/\D.isPureL r=true:=fun e he r hr=>by
 simp only [List.mem_map] at he;obtain⟨s,_,rfl⟩:=he;refine⟨?_,uW _ s r hr⟩;simp only [rows,List.mem_map] at hr;obtain⟨x,_,rfl⟩:=hr;rfl
theorem aV4 {mv:List (List Int)}:∀ e ∈ mv.map (rows .i64),∀ r ∈ e,D.flL r=true:=fun e he r hr=>by
 simp only [List.mem_map] at he;obtain⟨s,_,rfl⟩:=he;simp only [rows,List.mem_map] at hr;obtain⟨x,_,rfl⟩:=hr;simp [D.flL,D.fl]
theorem aSn {g:FuncId} {args args':List D} {mv:List (List Int)} {nx n:Nat} {ob:List (Nat × Ob)} (hn:n=mv.length) (hc:xX Tryz.prog g args' St0 (.osl 0 1 n) ⟨1+n,aTf (mv.map (rows .i64))⟩) (hl:oH ⟨nx,ob⟩ (fun _=>False) args args') :
  xX Tryz.prog g args ⟨nx,ob⟩ (.sl 1 (rl mv)) ⟨nx+(1+n),ob⟩:=by
 subst hn;refine xX.lentDeep hc hl (by simp [D.fl]) (aQy aV4) ?_;have hN:=Nst.shift (c:=nx) (r:=ob) (cR (mv.map (rows .i64))) fun e he r hr=>(uF e he r hr).2
 have:=Nst.seen (nx:=nx+(1+mv.length)) (K:=fun k=>k<nx) (n:=mv.length) hN (List.length_map _).symm (by omega) (fun k hk=>by
  simp only [List.mem_map] at hk;obtain⟨j,_,rfl⟩:=hk;omega) uF
 rw [aQe] at this;exact this
theorem aVx {p:PrA} {F:Nat} (hv:PrV p F) {n:Nat} (hn:n<=100):yX Tryz.prog 69 [p.d,.int .i64 ((n+1:Nat):Int)] (plD p (yU p n)):=by
 have hB:=aU5 hv;have hI:=hv.hI;have hA:=hv.hA;have hD:p.d = .agg [.int .i64 p.F,.sl 1 (us p.init),.sl 1 (us p.see),.sl 1 (mvR p.moves),.sl 1 (cdR p.code)]:=rfl;have hw:IntKind.i64.wrap (((n+1:Nat):Int)-1)= (n:Int):=by rw [wrap_i64 (by omega)]; omega
 have hB1:=xX.own (σ:=⟨1,[(0,⟨5,[p.cells]⟩)]⟩) hB (by simp [D.isPureL,D.isPure,PrA.d,PrA.cells]);have hlen:=fun t=>aVy hv t;have hPS:=(mH p (Nat.le_refl 2) (bQ p)).shift (c:=1) (r:=[(0,⟨5,[p.cells]⟩)]);have hbl:(bQ p).length=p.init.length:=by simp [bQ]
 unfold PrA.cells at hB1 hPS;rw [hD] at *;refine xX.go_fn mixed Tryz.func69 k69 (by simp) fun hf=>?_;simp only [ZA,ZB,ZC,ZD,ZE,↓reduceIte,ZF,ZG,ZH,ZI,ZJ,reduceCtorEq,ZK,↓zU,↓zD,zV,zT,zW]
 (repeat refine sd ?_)
 refine .go hB1 ?_;simp only [ZA,ZB,ZC,ZD,ZE,↓reduceIte,ZF,ZG,ZH,ZI,ZJ,reduceCtorEq,ZK,↓zU,↓zD,zV,zT,zW,hw]
 refine tV (fun t:Nat=>[(11,.int .i64 t),(10,.int .i64 n),(5,.ref 0 6 0 0)]) (fun t=>⟨2+(yU p t).length,plL p 2 (yU p t)⟩) (fun t=>t<=n) (fun t=>n-t) 0 (Nat.zero_le _) ?_ ?_
 ·refine xM.play hPS (Nat.le_refl _) (Nat.zero_le _) (fun k hk=>absurd hk (Nat.not_lt_zero _)) ?_;simp only [vwF,vw,Fr.get,↓reduceIte,reduceIte,Nat.reduceEqDiff,D.shift,and_true,true_and];exact⟨rfl,by omega,rfl⟩
 intro t ht;refine xQ mixed ?_;have hS:=tZ hv t;have hl:=hlen t;by_cases htn:t<n
 case neg=>
  have hd:¬ ((t:Int)<(n:Int)):=by omega
  obtain rfl:t=n:=by omega
  simp only [ZA,ZB,ZC,ZD,ZE,↓reduceIte,ZF,ZG,ZH,ZI,ZJ,reduceCtorEq,ZK,↓zU,↓zD,zV,zT,zW,hd]
  refine .go [(5,plD p (yU p t))] ⟨2+(yU p t).length,[]⟩ ?_ ?_
  ·refine xM.deep (fun _=>False) trivial ⟨.inr ?_,trivial⟩;exact kJ (Nat.le_refl 2) fun _ h=>h
  simp only [ZA,ZB,ZC,ZD,ZE,↓reduceIte,ZF,ZG,ZH,ZI,ZJ,reduceCtorEq,ZK,↓zU,↓zD,zV,zT,zW];exact .drop (by simp) (by simp [vw,plD])
 have hd:((t:Int)<(n:Int)):=by omega
 have h76:=lF hv (hS.good hv (Nat.le_refl t) (by omega));have hpl:=nL p (yU p t) t;have h76l:=aSn (nx:=2+(yU p t).length) (ob:=plL p 2 (yU p t)) (args:=[.ref 0 6 0 0,.int .i64 t]) hpl.symm h76 ⟨kJ (Nat.le_refl 2) fun _ h=>h,.pure rfl,trivial⟩;have h121:=eF hv (sts:=yU p t) (by rw [hl]; exact hI) (fun st hs=>by rw [hS.run st hs]; omega) hS.val (mv:=presM p (yU p t) t) (by rw [hpl]; omega) aE (aVu hv) (nx:=2+(yU p t).length+(1+p.see.length)) (by omega);have hnext:yU p (t+1)= lA p (yU p t) (presM p (yU p t) t):=rfl;have hsl:(lA p (yU p t) (presM p (yU p t) t)).length=(yU p t).length:=by simp [lA]
 have hPI:=mH p (b:=2+(yU p t).length+(1+p.see.length)) (by omega) (lA p (yU p t) (presM p (yU p t) t));simp only [ZA,ZB,ZC,ZD,ZE,↓reduceIte,ZF,ZG,ZH,ZI,ZJ,reduceCtorEq,ZK,↓zU,↓zD,zV,zT,zW,hd];refine .go h76l ?_;simp only [ZA,ZB,ZC,ZD,ZE,↓reduceIte,ZF,ZG,ZH,ZI,ZJ,reduceCtorEq,ZK,↓zU,↓zD,zV,zT,zW];refine .go h121 ?_;simp only [ZA,ZB,ZC,ZD,ZE,↓reduceIte,ZF,ZG,ZH,ZI,ZJ,reduceCtorEq,ZK,↓zU,↓zD,zV,zT,zW];refine⟨t+1,by omega,?_,by omega⟩;rw [hnext];refine xM.play hPI (Nat.le_refl _) (Nat.zero_le _) (fun k hk=>absurd hk (Nat.not_lt_zero _)) ?_;simp only [vwF,vw,Fr.get,↓reduceIte,reduceIte,Nat.reduceEqDiff,and_true,true_and];exact⟨by rw [wrap_i64 (by omega)]; rfl,by omega,rfl⟩
open Rs Fm Ru Te Kb
namespace Kb
def rN (see:List (BitVec 64)) (sts:List (List (BitVec 64))) (a:Nat) (q:Nat × Nat):List Int:=(vK see (stR sts q.1) a q.2).map ui
def mR (see:List (BitVec 64)) (sts:List (List (BitVec 64))) (T a:Nat):List (List Int):=dedup (aYz ((ptN T (sts.length*T)).map (rN see sts a)))
theorem aQt : rlu [] = []:=rfl
end Kb
theorem wN {k:Nat} (h:k<=1000000000):IntKind.i64.wrap ((k:Int)+ 1)= ((k+1:Nat):Int):=by rw [wrap_i64 (by omega)]; rfl
theorem gW {p:PrA} {sts:List (List (BitVec 64))} {a T:Nat} (ha:a<p.see.length) (hT:1<=T/\T<=16) (hR:1<=sts.length/\sts.length<=16) (hl:∀ st ∈ sts,T<=st.length) :
  yX Tryz.prog 73 [plD p sts,.int .i64 a,.int .i64 (T-1:Int)] (.sl 1 (rlu (mR p.see sts T a))):=by
 have hh:∀ r t,r<sts.length->t<T->yX Tryz.prog 75 [plD p sts,.int .i64 a,.int .i64 r,.int .i64 t] (.sl 1 (rows .u64 (rN p.see sts a (r,t)))):=fun r t hr ht=>by
  have:=qZ (qT p ha hr (show t<(sts.getD r []).length by have:=hl _ (xN (d:=[]) hr); omega) (by omega));rw [mJ] at this;exact this
 have hne:1<=sts.length*T:=Nat.mul_le_mul hR.1 hT.1;have hle:sts.length*T<=16*16:=Nat.mul_le_mul hR.2 hT.2;have hw0:IntKind.i64.wrap (((T:Int)-1)+ 1)= (T:Int):=by rw [wrap_i64 (by omega)]; omega
 unfold mR;generalize rN p.see sts a=kf at *;have hlen:((ptN T (sts.length*T)).map kf).length=sts.length*T:=by rw [List.length_map,sH]
 unfold plD plC at *;refine xX.go_fn mixed Tryz.func73 k73 (by simp) fun hf=>?_;simp only [ZA,ZB,ZC,ZD,ZE,↓reduceIte,ZF,ZG,ZH,ZI,ZJ,reduceCtorEq,ZK,↓zU,↓zD,zV,zT,zW,yE]
 refine xV (fun r:Nat=>[(15,.int .i64 r),(14,.int .i64 sts.length),(7,xG 0 1 (rlu ((ptN T (r*T)).map kf))),(2,.int .i64 (T-1:Int)),(1,.int .i64 a),(0,.ptr [.int .i64 p.F,.sl 1 (us p.init),.sl 1 (us p.see),.sl 1 (mvR p.moves),.sl 1 (cdR p.code),.sl 1 (rr sts)])])
  (fun r=>⟨1,xE 0 1 (rlu ((ptN T (r*T)).map kf))⟩) (fun r=>r<=sts.length) (fun r=>sts.length-r) 0 (Nat.zero_le _) ?_ ?_
 ·(refine xM.ren [] [] (by simp) (by simp) (by decide) ?_; simp only [yO,vwL,vw,vwF,sw,St.get,St.look,Fr.get,↓reduceIte,reduceIte,Nat.reduceEqDiff,Nat.reduceAdd,Nat.reduceBEq,Nat.reduceLT,Nat.reduceLeDiff,exists_eq_left',ne_eq,reduceCtorEq,zR,ptN,Nat.zero_mul,List.range_zero,List.map_nil,aQt,zL,zM])
 intro r hr;refine xQ mixed ?_;by_cases hrl:r<sts.length
 case neg=>
  have hd:¬ ((r:Int)<(sts.length:Int)):=by omega
  obtain rfl:r=sts.length:=by omega
  generalize (ptN T (sts.length*T)).map kf=l at *;have hln:l ≠ []:=fun c=>by rw [c] at hlen; simp at hlen; omega
  have hln2:rlu l ≠ []:=fun c=>hln (by simpa [rlu] using c);rw [aUo hln2,aUn hln2,wH];have hs:=aZ6 (σ:=⟨1,[(0,⟨1,rlu l⟩)]⟩) (key:=0) (l:=l) rfl hln (by omega);have hal:(aYz l).length=l.length:=(qS l).length_eq;have hc:=aRc (σ:=⟨1,[(0,⟨1,rlu (aYz l)⟩)]⟩) (key:=0) (l:=aYz l) rfl (by omega) (fun c=>by rw [c] at hal; simp at hal; omega);rw [hal] at hc;simp only [ZA,ZB,ZC,ZD,ZE,↓reduceIte,ZF,ZG,ZH,ZI,ZJ,reduceCtorEq,ZK,↓zU,↓zD,zV,zT,zW,hd];refine .go hs ?_;simp only [ZA,ZB,ZC,ZD,ZE,↓reduceIte,ZF,ZG,ZH,ZI,ZJ,reduceCtorEq,ZK,↓zU,↓zD,zV,zT,zW];refine .go hc ?_;simp only [ZA,ZB,ZC,ZD,ZE,↓reduceIte,ZF,ZG,ZH,ZI,ZJ,reduceCtorEq,ZK,↓zU,↓zD,zV,zT,zW];exact .drop (by simp) (bX (by decide) (cY _) (by unfold aHb; rw [List.length_append,wH]; omega) (by unfold aHb; rw [List.take_left' (wH _)]))
 have hd:((r:Int)<(sts.length:Int)):=by omega
 simp only [ZA,ZB,ZC,ZD,ZE,↓reduceIte,ZF,ZG,ZH,ZI,ZJ,reduceCtorEq,ZK,↓zU,↓zD,zV,zT,zW,hd,hw0]
 refine xV (fun t:Nat=>[(20,.int .i64 t),(19,.int .i64 T),(15,.int .i64 r),(14,.int .i64 sts.length),(8,.int .i64 r),(7,xG 0 1 (rlu ((ptN T (r*T+t)).map kf))),(2,.int .i64 (T-1:Int)),(1,.int .i64 a),(0,.ptr [.int .i64 p.F,.sl 1 (us p.init),.sl 1 (us p.see),.sl 1 (mvR p.moves),.sl 1 (cdR p.code),.sl 1 (rr sts)])])
  (fun t=>⟨1,xE 0 1 (rlu ((ptN T (r*T+t)).map kf))⟩) (fun t=>t<=T) (fun t=>T-t) 0 (Nat.zero_le _) ?_ ?_
 ·(refine xM.same ?_; simp only [xR,Fr.get,↓reduceIte,reduceIte,Nat.reduceEqDiff,reduceCtorEq,D.int.injEq,D.bool.injEq,D.sl.injEq,and_true,true_and,and_self,Nat.add_zero])
  rfl
 intro t ht;refine xQ mixed ?_;by_cases htl:t<T
 case neg=>
  have hd2:¬ ((t:Int)<(T:Int)):=by omega
  obtain rfl:t=T:=by omega
  simp only [ZA,ZB,ZC,ZD,ZE,↓reduceIte,ZF,ZG,ZH,ZI,ZJ,reduceCtorEq,ZK,↓zU,↓zD,zV,zT,zW,hd2];refine⟨r+1,by omega,?_,by omega⟩;rw [show (r+1)* t=r*t+t by rw [Nat.succ_mul]]
  (refine xM.same ?_; simp only [xR,Fr.get,↓reduceIte,reduceIte,Nat.reduceEqDiff,reduceCtorEq,D.int.injEq,D.bool.injEq,D.sl.injEq,and_true,true_and,and_self])
  exact wN (by omega)
 have hd2:((t:Int)<(T:Int)):=by omega
 have hs:(ptN T (r*T+(t+1))).map kf=(ptN T (r*T+t)).map kf ++ [kf (r,t)]:=by rw [aL9 T r t htl,List.map_append]; rfl
 have hlk:((ptN T (r*T+t)).map kf).length=r*T+t:=by rw [List.length_map,sH]
 have hle2:r*T+t<=16*16:=by
  have:=Nat.mul_le_mul_right T (show r+1<=sts.length from hrl);rw [Nat.succ_mul] at this;omega
 have h75:=hh r t hrl htl;generalize (ptN T (r*T+t)).map kf=l at *;generalize kf (r,t)= x at *;simp only [ZA,ZB,ZC,ZD,ZE,↓reduceIte,ZF,ZG,ZH,ZI,ZJ,reduceCtorEq,ZK,↓zU,↓zD,zV,zT,zW,hd2];refine .go (cr h75) ?_;simp only [ZA,ZB,ZC,ZD,ZE,↓reduceIte,ZF,ZG,ZH,ZI,ZJ,reduceCtorEq,ZK,↓zU,↓zD,zV,zT,zW,wH,hlk]
 (repeat refine sd ?_)
 refine⟨t+1,by omega,?_,by omega⟩;rw [hs]
 (refine xM.ren [(0,1)] [0] (by simp) (by simp) (by decide) ?_; simp only [yO,vwL,vw,vwF,sw,St.get,St.look,Fr.get,↓reduceIte,reduceIte,Nat.reduceEqDiff,Nat.reduceAdd,Nat.reduceBEq,Nat.reduceLT,Nat.reduceLeDiff,exists_eq_left',ne_eq,reduceCtorEq,zR,aLy,aOm])
 exact wN (by omega)
open Rs Fm Ru Te Kb
namespace Kb
def aY9 (sts:List (List (BitVec 64))):List wP:=sts.map fun st=>⟨[],st⟩
def fY (see:List (BitVec 64)) (sts:List (List (BitVec 64))) (T:Nat):List wP:=aBi (aY9 sts) see.length T (rN see sts)
def rll (l:List (List (List Int))):List (List D):=l.map fun m=>[.sl 1 (rlu m)]
theorem aQu (l:List (List (List Int))):(rll l).length=l.length:=by simp [rll]
theorem aGb {l:List (List (List Int))} {i:Nat} (h:i<l.length):(rll l).getD i [] = [.sl 1 (rlu (l.getD i []))]:=by simp [rll,List.getD,h]
theorem aL0 (l:List (List (List Int))) (m:List (List Int)):rll l ++ [[.sl 1 (rlu m)]]=rll (l ++ [m]):=by simp [rll]
theorem aL1 (l:List (List (List Int))):∀ e ∈ rll l,D.isPureL e=true:=by
 intro e he;simp only [rll,List.mem_map] at he;obtain⟨m,_,rfl⟩:=he;rfl
theorem aJ (l:List (List (List Int))):uK (rll l):=aL1 l
theorem aGa : rll [] = []:=rfl
theorem aOb (l:List wP) (r:wP):oQ l ++ [[.sl 1 (rl r.loc),.sl 1 (us r.fac)]]=oQ (l ++ [r]):=by simp [oQ,wP.row]
theorem vZ (l:List wP):uK (oQ l):=aOc l
theorem aLv : oQ [] = []:=rfl
theorem cE (sts:List (List (BitVec 64))):(aY9 sts).length=sts.length:=by simp [aY9]
theorem aVh (see:List (BitVec 64)) (sts:List (List (BitVec 64))) (T:Nat):(fY see sts T).length=sts.length:=by unfold fY; rw [aL4,cE]
theorem aVj {see:List (BitVec 64)} {sts:List (List (BitVec 64))} {T i:Nat} (hi:i<sts.length) :
  (fY see sts T).getD i mW=⟨(List.range T).map fun t=>(List.range see.length).map fun a=>((below (mR see sts T a) (rN see sts a (i,t)):Nat):Int),stR sts i⟩:=by
 unfold fY aBi;rw [aL3 (by rw [cE]; exact hi),cE];have:((aY9 sts).getD i mW).fac=stR sts i:=by simp [aY9,stR,List.getD,hi]
 rw [this];rfl
end Kb
theorem aT1 {α:Type} {l:List α} {k:Nat} {d:α} (h:k<l.length):l.take (k+1)= l.take k ++ [l.getD k d]:=yD h
theorem aLe {p:PrA} {F:Nat} (hv:PrV p F) {sts:List (List (BitVec 64))} {T:Nat} (hT:1<=T/\T<=16) (hR:1<=sts.length/\sts.length<=16) (hl:∀ st ∈ sts,st.length=T) :
  yX Tryz.prog 70 [plD p sts] (sD p.see.length F T (fY p.see sts T)):=by
 have hA:=hv.hA
 have hh:∀ a r t,a<p.see.length->r<sts.length->t<T->yX Tryz.prog 75 [plD p sts,.int .i64 a,.int .i64 r,.int .i64 t] (.sl 1 (rows .u64 (rN p.see sts a (r,t)))):=fun a r t ha hr ht=>by
  have:=qZ (qT p ha hr (show t<(sts.getD r []).length by have:=hl _ (xN (d:=[]) hr); omega) (by omega));rw [mJ] at this;exact this
 have hw1:IntKind.i64.wrap ((T:Int)-1)= ((T:Int)-1):=wrap_i64 (by omega);have h73:=fun a ha=>gW (p:=p) (sts:=sts) (a:=a) (T:=T) ha hT hR fun st hs=>by rw [hl st hs]; exact Nat.le_refl _
 have hasc:∀ a,asc (mR p.see sts T a):=fun a=>aNq (cD _)
 have hak:∀ a,(mR p.see sts T a).length<=1000:=fun a=>by
  have h1:(mR p.see sts T a).length<=(aYz ((ptN T (sts.length*T)).map (rN p.see sts a))).length:=aZv _ _;have h2:=(qS ((ptN T (sts.length*T)).map (rN p.see sts a))).length_eq;rw [List.length_map,sH] at h2;have hle:sts.length*T<=16*16:=Nat.mul_le_mul hR.2 hT.2;omega
 have hS:=fun i (hi:i<sts.length)=>aVj (see:=p.see) (T:=T) hi;have hSl:=aVh p.see sts T;have hst:∀ r,r<sts.length->(stR sts r).length=T:=fun r hr=>hl _ (xN (d:=[]) hr);generalize rN p.see sts=kf at *;generalize mR p.see sts T=al at *;generalize fY p.see sts T=S at *;have hg0:=pK sts (show 0<sts.length by omega);have hd0:(0:Int)<(sts.length:Int):=by omega
 have hl0:=hst 0 (by omega);unfold stR at hl0;unfold plD plC sD at *;rw [hv.fe] at *;refine xX.go_fn mixed Tryz.func70 k70 (by simp) fun hf=>?_;simp only [ZA,ZB,ZC,ZD,ZE,↓reduceIte,ZF,ZG,ZH,ZI,ZJ,reduceCtorEq,ZK,↓zU,↓zD,zV,zT,zW,yE,hd0,hg0,xT,hl0]
 (repeat refine sd ?_)
 refine tV (fun a:Nat=>[(41,.int .i64 a),(40,.int .i64 p.see.length),(5,xG 2 1 (rll ((List.range a).map al))),(4,.ref 1 4 0 0),(3,.int .i64 T),(2,.ref 0 4 0 0),(0,.ptr [.int .i64 F,.sl 1 (us p.init),.sl 1 (us p.see),.sl 1 (mvR p.moves),.sl 1 (cdR p.code),.sl 1 (rr sts)])])
  (fun a=>⟨3,xE 2 1 (rll ((List.range a).map al))++ [(1,⟨4,[[.int .i64 p.see.length,.int .i64 F,.int .i64 T,.nils]]⟩),(0,⟨4,[[.int .i64 0,.int .i64 0,.int .i64 0,.nils]]⟩)]⟩) (fun a=>a<=p.see.length) (fun a=>p.see.length-a) 0 (Nat.zero_le _) ?_ ?_
 ·(refine xM.ren [] [1,0] (by simp) (by simp) (by decide) ?_; simp only [yO,vwL,vw,vwF,sw,St.get,St.look,Fr.get,↓reduceIte,reduceIte,Nat.reduceEqDiff,Nat.reduceAdd,Nat.reduceBEq,Nat.reduceLT,Nat.reduceLeDiff,exists_eq_left',ne_eq,reduceCtorEq,zR,List.range_zero,List.map_nil,aGa,zL,zM,List.nil_append])
 intro a ha;refine xQ mixed ?_;by_cases hal:a<p.see.length
 case pos=>
  have hd:((a:Int)<(p.see.length:Int)):=by omega
  have h1:=h73 a hal;have hsu:(List.range (a+1)).map al=(List.range a).map al ++ [al a]:=by rw [List.range_succ,List.map_append]; rfl
  have hla:((List.range a).map al).length=a:=by simp
  generalize (List.range a).map al=L at *;simp only [ZA,ZB,ZC,ZD,ZE,↓reduceIte,ZF,ZG,ZH,ZI,ZJ,reduceCtorEq,ZK,↓zU,↓zD,zV,zT,zW,hd,hw1];refine .go (cr h1) ?_;simp only [ZA,ZB,ZC,ZD,ZE,↓reduceIte,ZF,ZG,ZH,ZI,ZJ,reduceCtorEq,ZK,↓zU,↓zD,zV,zT,zW,aQu,hla]
  (repeat refine sd ?_)
  refine⟨a+1,by omega,?_,by omega⟩;rw [hsu]
  (refine xM.ren [(2,3)] [2,1,0] (by simp) (by simp) (by decide) ?_; simp only [yO,vwL,vw,vwF,sw,St.get,St.look,Fr.get,↓reduceIte,reduceIte,Nat.reduceEqDiff,Nat.reduceAdd,Nat.reduceBEq,Nat.reduceLT,Nat.reduceLeDiff,exists_eq_left',ne_eq,reduceCtorEq,zR,aL0,aJ])
  exact wN (by omega)
 have hd:¬ ((a:Int)<(p.see.length:Int)):=by omega
 obtain rfl:a=p.see.length:=by omega
 have hlal:((List.range p.see.length).map al).length=p.see.length:=by simp
 have hgal:∀ a,a<p.see.length->(rll ((List.range p.see.length).map al)).getD a [] = [.sl 1 (rlu (al a))]:=fun a ha=>by
  rw [aGb (by rw [hlal]; exact ha)]; simp [List.getD,ha]
 generalize (List.range p.see.length).map al=L at *;simp only [ZA,ZB,ZC,ZD,ZE,↓reduceIte,ZF,ZG,ZH,ZI,ZJ,reduceCtorEq,ZK,↓zU,↓zD,zV,zT,zW,hd]
 refine .go [(5,.sl 1 (rll L)),(4,.ref 1 4 0 0),(3,.int .i64 T),(2,.ref 0 4 0 0),(0,.ptr [.int .i64 F,.sl 1 (us p.init),.sl 1 (us p.see),.sl 1 (mvR p.moves),.sl 1 (cdR p.code),.sl 1 (rr sts)])] ⟨2,[(1,⟨4,[[.int .i64 p.see.length,.int .i64 F,.int .i64 T,.nils]]⟩),(0,⟨4,[[.int .i64 0,.int .i64 0,.int .i64 0,.nils]]⟩)]⟩ ?_ ?_
 ·(refine xM.ren [] [1,0] (by simp) (by simp) (by decide) ?_; simp only [yO,vwL,vw,vwF,sw,St.get,St.look,Fr.get,↓reduceIte,reduceIte,Nat.reduceEqDiff,Nat.reduceAdd,Nat.reduceBEq,Nat.reduceLT,Nat.reduceLeDiff,exists_eq_left',ne_eq,reduceCtorEq,zR,aJ])
 simp only [ZA,ZB,ZC,ZD,ZE,↓reduceIte,ZF,ZG,ZH,ZI,ZJ,reduceCtorEq,ZK,↓zU,↓zD,zV,zT,zW,yE]
 refine xV (fun r:Nat=>[(58,.int .i64 r),(57,.int .i64 sts.length),(56,.sl 1 (rr sts)),(5,.sl 1 (rll L)),(4,.ref 1 4 0 0),(3,.int .i64 T),(2,.ref 0 4 0 0),(0,.ptr [.int .i64 F,.sl 1 (us p.init),.sl 1 (us p.see),.sl 1 (mvR p.moves),.sl 1 (cdR p.code),.sl 1 (rr sts)])])
  (fun r=>⟨3,xE 2 2 (oQ (S.take r))++ [(1,⟨4,[[.int .i64 p.see.length,.int .i64 F,.int .i64 T,xG 2 2 (oQ (S.take r))]]⟩),(0,⟨4,[[.int .i64 0,.int .i64 0,.int .i64 0,.nils]]⟩)]⟩) (fun r=>r<=sts.length) (fun r=>sts.length-r) 0 (Nat.zero_le _) ?_ ?_
 ·(refine xM.ren [] [1,0] (by simp) (by simp) (by decide) ?_; simp only [yO,vwL,vw,vwF,sw,St.get,St.look,Fr.get,↓reduceIte,reduceIte,Nat.reduceEqDiff,Nat.reduceAdd,Nat.reduceBEq,Nat.reduceLT,Nat.reduceLeDiff,exists_eq_left',ne_eq,reduceCtorEq,zR,List.take_zero,aLv,zL,zM,List.nil_append])
 intro r hr;refine xQ mixed ?_;by_cases hrl:r<sts.length
 case neg=>
  have hd2:¬ ((r:Int)<(sts.length:Int)):=by omega
  rw [List.take_of_length_le (show S.length<=r by omega)];simp only [ZA,ZB,ZC,ZD,ZE,↓reduceIte,ZF,ZG,ZH,ZI,ZJ,reduceCtorEq,ZK,↓zU,↓zD,zV,zT,zW,hd2]
  (refine mT.ren [] [] (by simp) (by simp) (by decide) ?_; simp only [yO,vwL,vw,vwF,sw,St.get,St.look,Fr.get,↓reduceIte,reduceIte,Nat.reduceEqDiff,Nat.reduceAdd,Nat.reduceBEq,Nat.reduceLT,Nat.reduceLeDiff,exists_eq_left',ne_eq,reduceCtorEq,zR,vZ])
 have hd2:((r:Int)<(sts.length:Int)):=by omega
 have hgr:=pK sts hrl;have hlr:=hst r hrl;have hSr:=hS r hrl;have hSs:=aT1 (l:=S) (d:=mW) (show r<S.length by omega);rw [hSr] at hSs;have hSl2:(S.take r).length=r:=by rw [List.length_take]; omega
 unfold stR at hlr hSs;have hcl:=aFw (c:=sts.getD r []) (by omega) (by omega);generalize sts.getD r []=st at *;generalize S.take r=S0 at *;simp only [ZA,ZB,ZC,ZD,ZE,↓reduceIte,ZF,ZG,ZH,ZI,ZJ,reduceCtorEq,ZK,↓zU,↓zD,zV,zT,zW,hd2,yE,hgr]
 (repeat refine sd ?_)
 refine .go (cr hcl) ?_;simp only [ZA,ZB,ZC,ZD,ZE,↓reduceIte,ZF,ZG,ZH,ZI,ZJ,reduceCtorEq,ZK,↓zU,↓zD,zV,zT,zW]
 (repeat refine sd ?_)
 let lrow:Nat->List Int:=(fun t=>(List.range p.see.length).map fun a=>((below (al a) (kf a (r,t)):Nat):Int))
 have hlw:((List.range T).map fun t=>(List.range p.see.length).map fun a=>((below (al a) (kf a (r,t)):Nat):Int))= (List.range T).map lrow:=rfl;rw [hlw] at hSs
 refine tV (fun t:Nat=>[(67,.int .i64 t),(66,.int .i64 T),(58,.int .i64 r),(57,.int .i64 sts.length),(56,.sl 1 (rr sts)),(9,.ref 3 2 0 0),(7,.int .i64 r),(5,.sl 1 (rll L)),(4,.ref 1 4 0 0),(3,.int .i64 T),(2,.ref 0 4 0 0),(0,.ptr [.int .i64 F,.sl 1 (us p.init),.sl 1 (us p.see),.sl 1 (mvR p.moves),.sl 1 (cdR p.code),.sl 1 (rr sts)])])
  (fun t=>⟨5,xE 4 1 (rl ((List.range t).map lrow))++ ((3,⟨2,[[xG 4 1 (rl ((List.range t).map lrow)),.sl 1 (us st)]]⟩) :: (xE 2 2 (oQ S0)++ [(1,⟨4,[[.int .i64 p.see.length,.int .i64 F,.int .i64 T,xG 2 2 (oQ S0)]]⟩),(0,⟨4,[[.int .i64 0,.int .i64 0,.int .i64 0,.nils]]⟩)]))⟩) (fun t=>t<=T) (fun t=>T-t) 0 (Nat.zero_le _) ?_ ?_
 ·(refine xM.ren [] [3,2,1,0] (by simp) (by simp) (by decide) ?_; simp only [yO,vwL,vw,vwF,sw,St.get,St.look,Fr.get,↓reduceIte,reduceIte,Nat.reduceEqDiff,Nat.reduceAdd,Nat.reduceBEq,Nat.reduceLT,Nat.reduceLeDiff,exists_eq_left',ne_eq,reduceCtorEq,zR,List.range_zero,List.map_nil,aCa,zL,zM,List.nil_append,vZ])
 intro t ht;refine xQ mixed ?_;by_cases htl:t<T
 case neg=>
  have hd3:¬ ((t:Int)<(T:Int)):=by omega
  obtain rfl:t=T:=by omega
  generalize (List.range t).map lrow=LL at *;simp only [ZA,ZB,ZC,ZD,ZE,↓reduceIte,ZF,ZG,ZH,ZI,ZJ,reduceCtorEq,ZK,↓zU,↓zD,zV,zT,zW,hd3]
  refine .go [(58,.int .i64 r),(57,.int .i64 sts.length),(56,.sl 1 (rr sts)),(9,.ref 3 2 0 0),(5,.sl 1 (rll L)),(4,.ref 1 4 0 0),(3,.int .i64 t),(2,.ref 0 4 0 0),(0,.ptr [.int .i64 F,.sl 1 (us p.init),.sl 1 (us p.see),.sl 1 (mvR p.moves),.sl 1 (cdR p.code),.sl 1 (rr sts)])]
   ⟨4,(3,⟨2,[[.sl 1 (rl LL),.sl 1 (us st)]]⟩) :: (xE 2 2 (oQ S0)++ [(1,⟨4,[[.int .i64 p.see.length,.int .i64 F,.int .i64 t,xG 2 2 (oQ S0)]]⟩),(0,⟨4,[[.int .i64 0,.int .i64 0,.int .i64 0,.nils]]⟩)])⟩ ?_ ?_
  ·(refine xM.ren [] [3,2,1,0] (by simp) (by simp) (by decide) ?_; simp only [yO,vwL,vw,vwF,sw,St.get,St.look,Fr.get,↓reduceIte,reduceIte,Nat.reduceEqDiff,Nat.reduceAdd,Nat.reduceBEq,Nat.reduceLT,Nat.reduceLeDiff,exists_eq_left',ne_eq,reduceCtorEq,zR,vZ,nX])
  simp only [ZA,ZB,ZC,ZD,ZE,↓reduceIte,ZF,ZG,ZH,ZI,ZJ,reduceCtorEq,ZK,↓zU,↓zD,zV,zT,zW,tI,hSl2]
  (repeat refine sd ?_)
  refine⟨r+1,by omega,?_,by omega⟩;rw [hSs];have hsn:=aOb S0 ⟨LL,st⟩;simp only at hsn
  (refine xM.ren [(2,4)] [2,1,0] (by simp) (by simp) (by decide) ?_; simp only [yO,vwL,vw,vwF,sw,St.get,St.look,Fr.get,↓reduceIte,reduceIte,Nat.reduceEqDiff,Nat.reduceAdd,Nat.reduceBEq,Nat.reduceLT,Nat.reduceLeDiff,exists_eq_left',ne_eq,reduceCtorEq,zR,hsn,vZ])
  exact wN (by omega)
 have hd3:((t:Int)<(T:Int)):=by omega
 have hsu:(List.range (t+1)).map lrow=(List.range t).map lrow ++ [lrow t]:=by rw [List.range_succ,List.map_append]; rfl
 have hll:((List.range t).map lrow).length=t:=by simp
 generalize (List.range t).map lrow=LL at *;simp only [ZA,ZB,ZC,ZD,ZE,↓reduceIte,ZF,ZG,ZH,ZI,ZJ,reduceCtorEq,ZK,↓zU,↓zD,zV,zT,zW,hd3,xT]
 refine tV (fun a:Nat=>[(76,.int .i64 a),(75,.int .i64 p.see.length),(67,.int .i64 t),(66,.int .i64 T),(58,.int .i64 r),(57,.int .i64 sts.length),(56,.sl 1 (rr sts)),(11,xG 5 1 (rows .i64 ((List.range a).map fun a=>((below (al a) (kf a (r,t)):Nat):Int)))),(10,.int .i64 t),(9,.ref 3 2 0 0),(7,.int .i64 r),(5,.sl 1 (rll L)),(4,.ref 1 4 0 0),(3,.int .i64 T),(2,.ref 0 4 0 0),(0,.ptr [.int .i64 F,.sl 1 (us p.init),.sl 1 (us p.see),.sl 1 (mvR p.moves),.sl 1 (cdR p.code),.sl 1 (rr sts)])])
  (fun a=>⟨6,xE 5 1 (rows .i64 ((List.range a).map fun a=>((below (al a) (kf a (r,t)):Nat):Int)))++ (xE 4 1 (rl LL)++ ((3,⟨2,[[xG 4 1 (rl LL),.sl 1 (us st)]]⟩) :: (xE 2 2 (oQ S0)++ [(1,⟨4,[[.int .i64 p.see.length,.int .i64 F,.int .i64 T,xG 2 2 (oQ S0)]]⟩),(0,⟨4,[[.int .i64 0,.int .i64 0,.int .i64 0,.nils]]⟩)])))⟩) (fun a=>a<=p.see.length) (fun a=>p.see.length-a) 0 (Nat.zero_le _) ?_ ?_
 ·(refine xM.ren [] [4,3,2,1,0] (by simp) (by simp) (by decide) ?_; simp only [yO,vwL,vw,vwF,sw,St.get,St.look,Fr.get,↓reduceIte,reduceIte,Nat.reduceEqDiff,Nat.reduceAdd,Nat.reduceBEq,Nat.reduceLT,Nat.reduceLeDiff,exists_eq_left',ne_eq,reduceCtorEq,zR,List.range_zero,List.map_nil,qI,zL,zM,List.nil_append,vZ,nX])
 intro a ha;refine xQ mixed ?_;by_cases hal:a<p.see.length
 case neg=>
  have hd4:¬ ((a:Int)<(p.see.length:Int)):=by omega
  obtain rfl:a=p.see.length:=by omega
  have hlr2:((List.range p.see.length).map fun a=>((below (al a) (kf a (r,t)):Nat):Int))= lrow t:=rfl;rw [hlr2];generalize lrow t=x at *;simp only [ZA,ZB,ZC,ZD,ZE,↓reduceIte,ZF,ZG,ZH,ZI,ZJ,reduceCtorEq,ZK,↓zU,↓zD,zV,zT,zW,hd4]
  refine .go [(67,.int .i64 t),(66,.int .i64 T),(58,.int .i64 r),(57,.int .i64 sts.length),(56,.sl 1 (rr sts)),(11,.sl 1 (rows .i64 x)),(9,.ref 3 2 0 0),(7,.int .i64 r),(5,.sl 1 (rll L)),(4,.ref 1 4 0 0),(3,.int .i64 T),(2,.ref 0 4 0 0),(0,.ptr [.int .i64 F,.sl 1 (us p.init),.sl 1 (us p.see),.sl 1 (mvR p.moves),.sl 1 (cdR p.code),.sl 1 (rr sts)])]
   ⟨5,xE 4 1 (rl LL)++ ((3,⟨2,[[xG 4 1 (rl LL),.sl 1 (us st)]]⟩) :: (xE 2 2 (oQ S0)++ [(1,⟨4,[[.int .i64 p.see.length,.int .i64 F,.int .i64 T,xG 2 2 (oQ S0)]]⟩),(0,⟨4,[[.int .i64 0,.int .i64 0,.int .i64 0,.nils]]⟩)]))⟩ ?_ ?_
  ·(refine xM.ren [] [4,3,2,1,0] (by simp) (by simp) (by decide) ?_; simp only [yO,vwL,vw,vwF,sw,St.get,St.look,Fr.get,↓reduceIte,reduceIte,Nat.reduceEqDiff,Nat.reduceAdd,Nat.reduceBEq,Nat.reduceLT,Nat.reduceLeDiff,exists_eq_left',ne_eq,reduceCtorEq,zR,vZ,nX])
  simp only [ZA,ZB,ZC,ZD,ZE,↓reduceIte,ZF,ZG,ZH,ZI,ZJ,reduceCtorEq,ZK,↓zU,↓zD,zV,zT,zW,vL,hll]
  (repeat refine sd ?_)
  refine⟨t+1,by omega,?_,by omega⟩;rw [hsu]
  (refine xM.ren [(4,5)] [4,3,2,1,0] (by simp) (by simp) (by decide) ?_; simp only [yO,vwL,vw,vwF,sw,St.get,St.look,Fr.get,↓reduceIte,reduceIte,Nat.reduceEqDiff,Nat.reduceAdd,Nat.reduceBEq,Nat.reduceLT,Nat.reduceLeDiff,exists_eq_left',ne_eq,reduceCtorEq,zR,aGc,vZ,nX])
  exact wN (by omega)
 have hd4:((a:Int)<(p.see.length:Int)):=by omega
 have hga:=hgal a hal;obtain⟨bb,hse⟩:=aP9 (kf a (r,t)) (hasc a) (hak a);have h75:=hh a r t hal hrl htl;have hsu2:(List.range (a+1)).map (fun a=>((below (al a) (kf a (r,t)):Nat):Int))= (List.range a).map (fun a=>((below (al a) (kf a (r,t)):Nat):Int))++ [((below (al a) (kf a (r,t)):Nat):Int)]:=by rw [List.range_succ,List.map_append]; rfl
 have hla2:((List.range a).map fun a=>((below (al a) (kf a (r,t)):Nat):Int)).length=a:=by simp
 have hdL:((a:Int)<(L.length:Int)):=by omega
 generalize (List.range a).map (fun a=>((below (al a) (kf a (r,t)):Nat):Int))= W at *;simp only [ZA,ZB,ZC,ZD,ZE,↓reduceIte,ZF,ZG,ZH,ZI,ZJ,reduceCtorEq,ZK,↓zU,↓zD,zV,zT,zW,hd4,aQu,hdL,hga]
 (repeat refine sd ?_)
 refine .go (cr h75) ?_;simp only [ZA,ZB,ZC,ZD,ZE,↓reduceIte,ZF,ZG,ZH,ZI,ZJ,reduceCtorEq,ZK,↓zU,↓zD,zV,zT,zW];refine .go (cr hse) ?_;simp only [ZA,ZB,ZC,ZD,ZE,↓reduceIte,ZF,ZG,ZH,ZI,ZJ,reduceCtorEq,ZK,↓zU,↓zD,zV,zT,zW,xF,hla2]
 (repeat refine sd ?_)
 refine⟨a+1,by omega,?_,by omega⟩;rw [hsu2]
 (refine xM.ren [(5,6)] [5,4,3,2,1,0] (by simp) (by simp) (by decide) ?_; simp only [yO,vwL,vw,vwF,sw,St.get,St.look,Fr.get,↓reduceIte,reduceIte,Nat.reduceEqDiff,Nat.reduceAdd,Nat.reduceBEq,Nat.reduceLT,Nat.reduceLeDiff,exists_eq_left',ne_eq,reduceCtorEq,zR,vZ,nX])
 exact wN (by omega)
namespace Kb
def lO (p:PrA) (n:Int):Int:=if uD p≠0 then uD p else if n<1\/6<n then 2 else 0
theorem req_zero {p:PrA} {n:Int} (h:lO p n=0):∃ F k:Nat,PrV p F/\n=((k+1:Nat):Int)/\ k<=5:=by
 unfold lO at h
 split at h
 ·rename_i h1; exact absurd h h1
 ·rename_i h1
  split at h
  ·cases h
  ·obtain⟨F,hv⟩:=aX3 (by simpa using h1);exact⟨F,(n-1).toNat,hv,by omega,by omega⟩
def oJ (p:PrA) (n:Int):bP:=if lO p n≠0 then⟨0,0,0,[]⟩ else⟨p.see.length,p.F,n,fY p.see (yU p (n.toNat-1)) n.toNat⟩
end Kb
theorem jD (p:PrA) (sm:rR p) (n:Int):yX Tryz.prog 68 [p.d,.int .i64 n] (.int .i64 (lO p n)):=by
 have hC:=aPq p sm;unfold PrA.d PrA.cells lO at *;refine xX.go_fn mixed Tryz.func68 k68 (by simp) fun hf=>?_;simp only [ZA,ZB,ZC,ZD,ZE,↓reduceIte,ZF,ZG,ZH,ZI,ZJ,reduceCtorEq,ZK,↓zU,↓zD,zV,zT,zW]
 (repeat refine sd ?_)
 refine .go (cr hC) ?_;by_cases c:uD p=0
 case neg=>
  have c':(uD p != 0)= true:=by simpa using c
  rw [if_pos c];simp only [ZA,ZB,ZC,ZD,ZE,↓reduceIte,ZF,ZG,ZH,ZI,ZJ,reduceCtorEq,ZK,↓zU,↓zD,zV,zT,zW,c'];exact .drop (by simp) (by simp [vw])
 have c':(uD p != 0)= false:=by simpa using c
 rw [if_neg (by simpa using c)]
 by_cases h1:n<1
 ·rw [if_pos (.inl h1)];simp only [ZA,ZB,ZC,ZD,ZE,↓reduceIte,ZF,ZG,ZH,ZI,ZJ,reduceCtorEq,ZK,↓zU,↓zD,zV,zT,zW,c',h1];exact .drop (by simp) (by simp [vw])
 by_cases h2:6<n
 ·rw [if_pos (.inr h2)];simp only [ZA,ZB,ZC,ZD,ZE,↓reduceIte,ZF,ZG,ZH,ZI,ZJ,reduceCtorEq,ZK,↓zU,↓zD,zV,zT,zW,c',h1,h2];exact .drop (by simp) (by simp [vw])
 rw [if_neg (by omega)];simp only [ZA,ZB,ZC,ZD,ZE,↓reduceIte,ZF,ZG,ZH,ZI,ZJ,reduceCtorEq,ZK,↓zU,↓zD,zV,zT,zW,c',h1,h2];exact .drop (by simp) (by simp [vw])
theorem iD {p:PrA} {F k:Nat} (hv:PrV p F) (hk:k<=5) {sts:List (List (BitVec 64))} (hS:PlS p F sts k):yX Tryz.prog 70 [plD p sts] (sD p.see.length F (k+1) (fY p.see sts (k+1))):=
 aLe hv ⟨by omega,by omega⟩ (by rw [hS.len]; exact hv.hI) hS.run
theorem aI2 (p:PrA) (sm:rR p) (n:Int):yX Tryz.prog 19 [p.d,.int .i64 n] (.tup [(oJ p n).d,.int .i64 (lO p n)]):=by
 have hR:=jD p sm n;by_cases c:lO p n=0
 case neg=>
  have c':(lO p n != 0)= true:=by simpa using c
  have hD:(oJ p n).d = .agg [.int .i64 0,.int .i64 0,.int .i64 0,.sl 2 []]:=by unfold oJ; rw [if_pos c]; rfl
  rw [hD];unfold PrA.d PrA.cells at *;refine xX.go_fn mixed Tryz.func19 k19 (by simp) fun hf=>?_;simp only [ZA,ZB,ZC,ZD,ZE,↓reduceIte,ZF,ZG,ZH,ZI,ZJ,reduceCtorEq,ZK,↓zU,↓zD,zV,zT,zW]
  (repeat refine sd ?_)
  refine .go (cr hR) ?_;simp only [ZA,ZB,ZC,ZD,ZE,↓reduceIte,ZF,ZG,ZH,ZI,ZJ,reduceCtorEq,ZK,↓zU,↓zD,zV,zT,zW,c']
  (repeat refine sd ?_)
  exact .drop (by simp) (by simp [vw,vwL])
 have c':(lO p n != 0)= false:=by simpa using c
 obtain⟨F,k,hv,rfl,hk⟩:=req_zero c;have hP:=aVx hv (n:=k) (by omega);have hS:=iD hv hk (tZ hv k)
 have hD:(oJ p ((k+1:Nat):Int)).d=sD p.see.length F (k+1) (fY p.see (yU p k) (k+1)):=by
  unfold oJ;rw [if_neg (by simpa using c),Int.toNat_natCast,show k+1-1=k by omega];show D.agg [_,_,_,_]=D.agg [_,_,_,_];rw [hv.fe]
 rw [hD];generalize fY p.see (yU p k) (k+1)= S at *;generalize yU p k=sts at *;unfold PrA.d PrA.cells plD plC sD at *;refine xX.go_fn mixed Tryz.func19 k19 (by simp) fun hf=>?_;simp only [ZA,ZB,ZC,ZD,ZE,↓reduceIte,ZF,ZG,ZH,ZI,ZJ,reduceCtorEq,ZK,↓zU,↓zD,zV,zT,zW]
 (repeat refine sd ?_)
 refine .go (cr hR) ?_;simp only [ZA,ZB,ZC,ZD,ZE,↓reduceIte,ZF,ZG,ZH,ZI,ZJ,reduceCtorEq,ZK,↓zU,↓zD,zV,zT,zW,c'];refine .go (cr hP) ?_;simp only [ZA,ZB,ZC,ZD,ZE,↓reduceIte,ZF,ZG,ZH,ZI,ZJ,reduceCtorEq,ZK,↓zU,↓zD,zV,zT,zW];refine .go (cr hS) ?_;simp only [ZA,ZB,ZC,ZD,ZE,↓reduceIte,ZF,ZG,ZH,ZI,ZJ,reduceCtorEq,ZK,↓zU,↓zD,zV,zT,zW]
 (repeat refine sd ?_)
 exact .drop (by simp) (by simp [vw,vwL]; simpa using c.symm)
end Go.Pd
