/- Part KX. -/
import Derived.Test.YtndfaefmmcoapaaGreatKaKW
set_option linter.unusedSectionVars false
set_option linter.unusedVariables false
set_option linter.unusedSimpArgs false
set_option linter.defProp false
set_option maxRecDepth 20000
set_option maxHeartbeats 1000000
namespace Go.Pd
open Go Go.Proofs
open Int renaming reduceToNat -> ZA, reduceLT -> ZB, reduceLE -> ZC, reduceBEq -> ZD, reduceBNe -> ZE
open Nat renaming reduceEqDiff -> ZF, reduceAdd -> ZG, reduceBEq -> ZH, reduceLT -> ZI, reduceLeDiff -> ZJ, reduceMul -> ZK
open Rs Fm Ru Te Kb
namespace Kb
def plO (p:PrA) (kS n:Nat):Ob:=⟨6,[[.int .i64 p.F,.sl 1 (us p.init),.sl 1 (us p.see),.sl 1 (mvR p.moves),.sl 1 (cdR p.code),.osl kS 1 n]]⟩
structure PlI (p : PrA) (sts : List (List (BitVec 64))) (kx kS : Nat) (ks : List Nat) (objs : List (Nat × Ob)) : Prop where
 hx:St.look objs kx=some (plO p kS sts.length)
 nst:Nst objs kS ks (sts.map us)
 nd:ks.Nodup
 ne:kx≠kS
 xs:kx ∉ ks
 ss:kS ∉ ks
def plL (p:PrA) (b:Nat) (sts:List (List (BitVec 64))):List (Nat × Ob):=(0,plO p 1 sts.length) :: (1,⟨1,sZ (List.range' b sts.length) (sts.map us)⟩) :: (List.range sts.length).map fun i=>(b+i,⟨1,us (stR sts i)⟩)
theorem vI {sts:List (List (BitVec 64))} {i:Nat} (hi:i<sts.length):(sts.map us).getD i []=us (stR sts i):=by
 simp [stR,List.getD,hi]
theorem fJ {f:Nat->Ob} (b:Nat):∀ {l:List Nat} {i:Nat},i ∈ l->St.look (l.map fun i=>(b+i,f i)) (b+i)= some (f i)
 | [],i,h=>by cases h
 | j :: r,i,h=>by
  show St.look ((b+j,f j) :: _) _=_;rw [xY]
  by_cases e:i=j
  ·subst e; rw [if_pos rfl]
  ·rw [if_neg (by omega)];exact fJ b ((List.mem_cons.1 h).resolve_left e)
theorem aX {b n i:Nat} (hi:i<n):(List.range' b n).getD i 0=b+i:=by simp [List.getD,hi]
theorem mP (p:PrA) {b:Nat} (hb:2<=b) (sts:List (List (BitVec 64))):PlI p sts 0 1 (List.range' b sts.length) (plL p b sts) where
 hx:=by unfold plL; rw [xY,if_pos rfl]
 nst:={
  out:=by unfold plL; rw [xY,if_neg (by omega),xY,if_pos rfl]
  len:=by simp
  each:=fun i hi=>by
   have hi':i<sts.length:=by simpa using hi
   rw [aX hi',vI hi'];unfold plL;rw [xY,if_neg (by omega),xY,if_neg (by omega)];exact fJ b (List.mem_range.2 hi') }
 nd:=List.nodup_range'
 ne:=by decide
 xs:=fun h=>by have:=List.mem_range'_1.1 h; omega
 ss:=fun h=>by have:=List.mem_range'_1.1 h; omega
theorem dQ {p:PrA} {b:Nat} {sts:List (List (BitVec 64))} {q:Nat × Ob} (h:q ∈ plL p b sts):q=(0,plO p 1 sts.length)\/q=(1,⟨1,sZ (List.range' b sts.length) (sts.map us)⟩)\/∃ i,i<sts.length/\q=(b+i,⟨1,us (stR sts i)⟩):=by
 unfold plL at h
 rcases List.mem_cons.1 h with h | h
 ·exact .inl h
 ·rcases List.mem_cons.1 h with h | h
  ·exact .inr (.inl h)
  ·simp only [List.mem_map,List.mem_range] at h;obtain⟨i,hi,rfl⟩:=h;exact .inr (.inr ⟨i,hi,rfl⟩)
theorem aR6 {sts:List (List (BitVec 64))}:∀ e ∈ sts.map us,∀ r ∈ e,r.length=1/\D.isPureL r=true:=fun e he r hr=>by
 simp only [List.mem_map] at he;obtain⟨s,_,rfl⟩:=he;refine⟨?_,tA s r hr⟩;simp only [us,List.mem_map] at hr;obtain⟨x,_,rfl⟩:=hr;rfl
def plR (b kx kS:Nat) (ks:List Nat) (k:Nat):Nat:=if k=0 then kx else if k=1 then kS else if b<=k then ks.getD (k-b) 0 else k
section
variable {p : PrA} {sts : List (List (BitVec 64))} {kx kS b nx : Nat} {ks : List Nat} {objs : List (Nat × Ob)}
theorem PlI.stays (h:PlI p sts kx kS ks objs) (hb:2<=b):stays ⟨nx,objs⟩ ⟨b+sts.length,plL p b sts⟩ (plR b kx kS ks):=by
 have hlen:=h.nst.len;have hsl:(sts.map us).length=sts.length:=List.length_map _;have hr:(List.range' b sts.length).length=(sts.map us).length:=by simp
 intro q hq
 rcases dQ hq with rfl | rfl | ⟨i,hi,rfl⟩
 ·refine⟨by show 0<b+sts.length; omega,_,h.hx,rfl,?_⟩;refine .cons rfl ?_ .nil;simp only [vwL,vw,and_true,true_and,plR];exact⟨by omega,rfl⟩
 ·refine⟨by show 1<b+sts.length; omega,_,h.nst.out,rfl,aRo (by rw [vO hlen,vO hr]) fun i hi=>?_⟩;rw [vO hr] at hi;rw [qK hlen hi,qK hr hi];refine⟨rfl,?_⟩;rw [hsl] at hi;simp only [vwL,vw,aX hi,and_true,plR];rw [if_neg (by omega),if_neg (by omega),if_pos (by omega),show b+i-b=i by omega];exact⟨by omega,rfl⟩
 ·refine⟨by show b+i<b+sts.length; omega,⟨1,us (stR sts i)⟩,?_,rfl,.same fun r hr=>tA _ r hr⟩;show St.look objs (plR b kx kS ks (b+i))= _;unfold plR;rw [if_neg (by omega),if_neg (by omega),if_pos (by omega),show b+i-b=i by omega];have:=h.nst.each i (by rw [hsl]; exact hi);rw [vI hi] at this;exact this
theorem PlI.apart (h:PlI p sts kx kS ks objs) (hb:2<=b) (m:Nat):vV ⟨m,plL p b sts⟩ (plR b kx kS ks):=by
 have hlen:=h.nst.len;rw [List.length_map] at hlen
 have hk:∀ i,i<sts.length->plR b kx kS ks (b+i)= ks.getD i 0:=fun i hi=>by
  unfold plR;rw [if_neg (by omega),if_neg (by omega),if_pos (by omega),show b+i-b=i by omega]
 have hm:∀ i,i<sts.length->ks.getD i 0 ∈ ks:=fun i hi=>vN (by omega);have e0:plR b kx kS ks 0=kx:=rfl;have e1:plR b kx kS ks 1=kS:=rfl;intro q hq r hr' e
 rcases dQ hq with rfl | rfl | ⟨i,hi,rfl⟩ <;> rcases dQ hr' with rfl | rfl | ⟨j,hj,rfl⟩ <;> simp only at e ⊢
 ·rw [e0,e1] at e; exact absurd e h.ne
 ·rw [e0,hk j hj] at e; exact absurd (e ▸ hm j hj) h.xs
 ·rw [e0,e1] at e; exact absurd e.symm h.ne
 ·rw [e1,hk j hj] at e; exact absurd (e ▸ hm j hj) h.ss
 ·rw [e0,hk i hi] at e; exact absurd (e ▸ hm i hi) h.xs
 ·rw [e1,hk i hi] at e; exact absurd (e ▸ hm i hi) h.ss
 ·rw [hk i hi,hk j hj] at e;rw [aZd h.nd (by omega) (by omega) e]
theorem PlI.seen {K:Nat->Prop} (h:PlI p sts kx kS ks objs) (h1:¬ K kx) (h2:¬ K kS) (h3:∀ k ∈ ks,¬ K k):Seen ⟨nx,objs⟩ K (.ref kx 6 0 0) (plD p sts):=by
 have hs:=Go.Pd.Nst.seen h.nst (nx:=nx) (n:=sts.length) (List.length_map _).symm h2 h3 aR6;rw [aDy] at hs;refine Seen.ref h.hx h1 rfl (Nat.lt_add_one 0) (Nat.zero_lt_succ 5) (Nat.le_refl 6) fun j hj=>?_;have hj:j<6:=hj;have:j=0\/j=1\/j=2\/j=3\/j=4\/j=5:=by omega
 rcases this with rfl | rfl | rfl | rfl | rfl | rfl
 ·exact .pure rfl
 ·exact .pure rfl
 ·exact .pure rfl
 ·exact .pure rfl
 ·exact .pure rfl
 ·exact hs
end
end Kb
theorem nA.play {p:PrA} {sts:List (List (BitVec 64))} {kx kS b nx n0:Nat} {ks:List Nat} {objs:List (Nat × Ob)} {d1 d:D} (h:PlI p sts kx kS ks objs) (hb:2<=b) (hn:n0<=b+sts.length) (hid:∀ k,k<n0->plR b kx kS ks k=k)
  (hd:vw ⟨nx,objs⟩ ⟨b+sts.length,plL p b sts⟩ (plR b kx kS ks) d1 d):nA n0 ⟨nx,objs⟩ d1 ⟨b+sts.length,plL p b sts⟩ d:=
 .inr ⟨plR b kx kS ks,hn,hid,hd,h.stays hb,h.apart hb _⟩
theorem xM.play {C:Cx} {f f':Fr} {p:PrA} {sts:List (List (BitVec 64))} {kx kS b nx:Nat} {ks:List Nat} {objs:List (Nat × Ob)} (h:PlI p sts kx kS ks objs) (hb:2<=b) (hn:C.n0<=b+sts.length) (hid:∀ k,k<C.n0->plR b kx kS ks k=k)
  (hf:vwF ⟨nx,objs⟩ ⟨b+sts.length,plL p b sts⟩ (plR b kx kS ks) f f'):xM C f ⟨nx,objs⟩ f' ⟨b+sts.length,plL p b sts⟩:=
 xM.view (plR b kx kS ks) hn hid hf (h.stays hb) (h.apart hb _)
open Rs Fm Ru Te Kb
namespace Kb
def cH (p:PrA):List (List (BitVec 64)):=p.init.map fun s=>[s]
structure BP where
 k:Nat
 nx:Nat
 kS:Nat
 ks:List Nat
 objs:List (Nat × Ob)
def aWn (p:PrA) (k:Nat):List (List (BitVec 64)):=(p.init.take k).map fun s=>[s]
structure IB (p : PrA) (kx : Nat) (x : BP) : Prop where
 hk:x.k<=p.init.length
 hx:St.look x.objs kx=some ⟨6,[[.int .i64 p.F,.sl 1 (us p.init),.sl 1 (us p.see),.sl 1 (mvR p.moves),.sl 1 (cdR p.code),rP x.kS x.k]]⟩
 lt:kx<x.nx
 kS:x.kS<x.nx\/x.k=0
 kl:x.ks.length=x.k
 ks:∀ k ∈ x.ks,k<x.nx
 nd:x.ks.Nodup
 ne:x.k≠0->kx≠x.kS
 xs:kx ∉ x.ks
 ss:x.k≠0->x.kS ∉ x.ks
 nst:x.k≠0->Nst x.objs x.kS x.ks ((aWn p x.k).map us)
theorem iY {α:Type} {l r:List α} {d:α} {i:Nat} (h:i<l.length):(l++r).getD i d=l.getD i d:=by simp [List.getD,List.getElem?_append_left h]
theorem aE {α:Type} {l:List α} {x d:α} {i:Nat} (h:i=l.length):(l ++ [x]).getD i d=x:=by subst h; simp [List.getD]
theorem Nst.grow {objs ob:List (Nat × Ob)} {kO kN kI:Nat} {ks:List Nat} {ess:List (List (List D))} {e:List (List D)} (h:ess ≠ []->Nst objs kO ks ess) (kl:ks.length=ess.length) (hout:St.look ob kN=some ⟨1,sZ (ks ++ [kI]) (ess ++ [e])⟩)
  (hnew:St.look ob kI=some ⟨1,e⟩) (hold:∀ k ∈ ks,St.look ob k=St.look objs k):Nst ob kN (ks ++ [kI]) (ess ++ [e]) where
 out:=hout
 len:=by simp [kl]
 each:=fun i hi=>by
  by_cases c:i=ess.length
  ·rw [aE (l:=ks) (by omega),aE (l:=ess) c]; exact hnew
  ·have hi':i<ess.length:=by simp at hi; omega
   have hn:ess ≠ []:=fun c=>by rw [c] at hi'; cases hi'
   rw [iY (l:=ks) (by omega),iY (l:=ess) hi',hold _ (vN (by omega))];exact(h hn).each i hi'
theorem aNj (p:PrA) {k:Nat} (hk:k<p.init.length):aWn p (k+1)= aWn p k ++ [[p.init.getD k 0]]:=by
 unfold aWn;rw [yE (d:=0) hk,List.map_append]; rfl
theorem aUk (p:PrA) {k:Nat} (hk:k<=p.init.length):(aWn p k).length=k:=by simp [aWn]; omega
theorem IB.step {p:PrA} {kx:Nat} {x:BP} (h:IB p kx x) (hlt:x.k<p.init.length) {ob:List (Nat × Ob)} (hout:St.look ob (x.nx+1+1)= some ⟨1,sZ (x.ks ++ [x.nx]) ((aWn p x.k).map us ++ [us [p.init.getD x.k 0]])⟩)
  (hnew:St.look ob x.nx=some ⟨1,us [p.init.getD x.k 0]⟩) (hx:St.look ob kx=some ⟨6,[[.int .i64 p.F,.sl 1 (us p.init),.sl 1 (us p.see),.sl 1 (mvR p.moves),.sl 1 (cdR p.code),.osl (x.nx+1+1) 1 (x.k+1)]]⟩)
  (hold:∀ k,k<x.nx->k≠kx->(x.k=0\/k≠x.kS)->St.look ob k=St.look x.objs k):IB p kx ⟨x.k+1,x.nx+1+1+1,x.nx+1+1,x.ks ++ [x.nx],ob⟩:=by
 have hl:=aUk p h.hk;have hlt2:=h.lt
 refine⟨by show x.k+1<=_; omega,?_,by show kx<x.nx+1+1+1; omega,.inl (by show x.nx+1+1<x.nx+1+1+1; omega),by simp [h.kl],fun k hk=>?_,?_,fun _=>by show kx≠x.nx+1+1; omega,fun hk=>?_,fun _ hk=>?_,fun _=>?_⟩
 ·show St.look ob kx=_;rw [hx];unfold rP;simp
 ·show k<x.nx+1+1+1
  rcases List.mem_append.1 hk with hk | hk
  ·have:=h.ks k hk; omega
  ·rw [List.mem_singleton.1 hk]; omega
 ·refine List.nodup_append.2 ⟨h.nd,by simp,fun k hk j hj e=>?_⟩;have:=h.ks k hk;rw [List.mem_singleton.1 hj] at e;omega
 ·rcases List.mem_append.1 hk with hk | hk
  ·exact h.xs hk
  ·have:=List.mem_singleton.1 hk; omega
 ·have hk:x.nx+1+1 ∈ x.ks ++ [x.nx]:=hk
  rcases List.mem_append.1 hk with hk | hk
  ·have:=h.ks _ hk; omega
  ·have:=List.mem_singleton.1 hk; omega
 ·show Nst ob (x.nx+1+1) (x.ks ++ [x.nx]) ((aWn p (x.k+1)).map us);rw [aNj p hlt,List.map_append];have h0:(aWn p x.k).map us ≠ []->x.k≠0:=fun c e=>c (by rw [List.map_eq_nil_iff]; exact List.eq_nil_of_length_eq_zero (by omega));refine Nst.grow (fun c=>h.nst (h0 c)) (by rw [h.kl,List.length_map,hl]) hout hnew fun k hk=>?_;have hk1:=h.ks k hk;refine hold k hk1 (fun e=>h.xs (e ▸ hk)) ?_
  by_cases c:x.k=0
  ·exact .inl c
  ·exact .inr fun e=>h.ss c (e ▸ hk)
end Kb
theorem aUj {p:PrA} {F:Nat} (hv:PrV p F):xX Tryz.prog 120 [p.d] St0 (.ref 0 6 0 0) ⟨2+p.init.length,plL p 2 (cH p)⟩:=by
 have hI:=hv.hI;have hbl:(cH p).length=p.init.length:=by simp [cH]
 have hD:p.d = .agg [.int .i64 p.F,.sl 1 (us p.init),.sl 1 (us p.see),.sl 1 (mvR p.moves),.sl 1 (cdR p.code)]:=rfl;rw [hD];refine xX.go_fn mixed Tryz.func120 bYt (by simp) fun hf=>?_;simp only [ZA,ZB,ZC,ZD,ZE,↓reduceIte,ZF,ZG,ZH,ZI,ZJ,reduceCtorEq,ZK,↓zU,↓zD,zV,zT,zW,xR]
 (repeat refine sd ?_)
 refine xV (fun x:BP=>[(12,.int .i64 x.k),(11,.int .i64 p.init.length),(10,.sl 1 (us p.init)),(3,.ref 1 6 0 0)]) (fun x=>⟨x.nx,x.objs⟩) (IB p 1) (fun x=>p.init.length-x.k)
  ⟨0,2,0,[],[(1,⟨6,[[.int .i64 p.F,.sl 1 (us p.init),.sl 1 (us p.see),.sl 1 (mvR p.moves),.sl 1 (cdR p.code),.nils]]⟩),(0,⟨5,[[.int .i64 p.F,.sl 1 (us p.init),.sl 1 (us p.see),.sl 1 (mvR p.moves),.sl 1 (cdR p.code)]]⟩)]⟩
  ⟨Nat.zero_le _,rfl,Nat.lt_add_one 1,.inr rfl,rfl,by simp,.nil,fun h=>absurd rfl h,by simp,fun h=>absurd rfl h,fun h=>absurd rfl h⟩ ?_ ?_
 ·(refine xM.same ?_; simp [xS,Fr.get])
 rintro ⟨k,nx,kS,ks,objs⟩ hB;obtain⟨hk,hx,hlt,hkS,hkl,hks,hnd,hne,hxs,hss,hnst⟩:=id hB;simp only at hk hx hlt hkS hkl hks hnd hne hxs hss hnst;refine xQ mixed ?_;by_cases hkl2:k<p.init.length
 case neg=>
  have hd:¬ ((k:Int)<(p.init.length:Int)):=by omega
  obtain rfl:k=p.init.length:=by omega
  have hk0:p.init.length≠0:=by omega
  have he:aWn p p.init.length=cH p:=by unfold aWn cH; rw [List.take_length]
  have hPI:PlI p (cH p) 1 kS ks objs:=⟨by rw [hx]; unfold plO rP; rw [if_neg hk0,hbl],he ▸ hnst hk0,hnd,hne hk0,hxs,hss hk0⟩;simp only [ZA,ZB,ZC,ZD,ZE,↓reduceIte,ZF,ZG,ZH,ZI,ZJ,reduceCtorEq,ZK,↓zU,↓zD,zV,zT,zW,hd];have hr:=nA.play (b:=2) (n0:=0) (nx:=nx) (d1:=.ref 1 6 0 0) (d:=.ref 0 6 0 0) hPI (Nat.le_refl _) (Nat.zero_le _) (fun k hk=>absurd hk (Nat.not_lt_zero _)) (by simp only [vw,and_true]; exact⟨by omega,rfl⟩);rw [hbl] at hr;exact hr
 have hd:((k:Int)<(p.init.length:Int)):=by omega
 have hg:=zI p.init hkl2;have hst:=fun ob=>@IB.step p 1 ⟨k,nx,kS,ks,objs⟩ hB hkl2 ob;simp only at hst;generalize p.init.getD k 0=s at hg hst;have q1:¬ (nx=1):=by omega
 have q5:¬ (nx+1+1=1):=by omega
 have q6:¬ (nx+1=1):=by omega
 have q7:¬ (nx=0):=by omega
 by_cases hk0:k=0
 ·subst hk0;have hd0:(0:Int)<(p.init.length:Int):=by omega
  unfold rP at hx;rw [if_pos rfl] at hx;obtain rfl:ks = []:=List.eq_nil_of_length_eq_zero hkl
  have hst1:=hst ((nx+1+1,⟨1,[[.osl nx 1 1]]⟩) :: (nx+1,⟨1,[[.osl nx 1 1]]⟩) :: (nx,⟨1,[[.int .u64 (ui s)]]⟩) :: wG objs 1 ⟨6,[[.int .i64 p.F,.sl 1 (us p.init),.sl 1 (us p.see),.sl 1 (mvR p.moves),.sl 1 (cdR p.code),.osl (nx+1+1) 1 1]]⟩)
   (by rw [xY,if_pos rfl]; rfl) (by rw [xY,if_neg (by omega),xY,if_neg (by omega),xY,if_pos rfl]; rfl)
   (by rw [xY,if_neg q5,xY,if_neg q6,xY,if_neg q1,xW,if_pos rfl,hx]; rfl)
   (fun j hj h1 _=>by rw [xY,if_neg (by omega),xY,if_neg (by omega),xY,if_neg (by omega),xW,if_neg (fun e=>h1 e.symm)])
  simp only [ZA,ZB,ZC,ZD,ZE,↓reduceIte,ZF,ZG,ZH,ZI,ZJ,reduceCtorEq,ZK,↓zU,↓zD,zV,zT,zW,hd0,xR,hg,hx,q1,q5,q6,q7]
  (repeat refine sd ?_)
  refine⟨_,hst1,?_,by show p.init.length-(0+1)<_; omega⟩
  (refine xM.same ?_; simp only [xS,Fr.get,↓reduceIte,reduceIte,Nat.reduceEqDiff,reduceCtorEq,D.int.injEq,D.bool.injEq,D.sl.injEq,and_true,true_and,and_self])
  rfl
 ·have hkS2:kS<nx:=hkS.resolve_right hk0;have ho:=(hnst hk0).out;unfold rP at hx;rw [if_neg hk0] at hx;have hnl:=vO (hnst hk0).len;rw [List.length_map,aUk p hk] at hnl;have htk:(sZ ks ((aWn p k).map us)).take k=sZ ks ((aWn p k).map us):=List.take_of_length_le (by omega);have q2:¬ (nx=kS):=by omega
  have q3:¬ (nx+1=kS):=by omega
  have q4:¬ (kS=1):=fun e=>hne hk0 e.symm;have hxe:St.look (yR objs kS) 1=some ⟨6,[[.int .i64 p.F,.sl 1 (us p.init),.sl 1 (us p.see),.sl 1 (mvR p.moves),.sl 1 (cdR p.code),.osl kS 1 k]]⟩:=by rw [xL,if_neg q4]; exact hx
  have hsn:=jF (hnst hk0).len nx (us [s])
  have hst1:=hst ((nx+1+1,⟨1,sZ ks ((aWn p k).map us)++ [[.osl nx 1 1]]⟩) :: (nx+1,⟨1,[[.osl nx 1 1]]⟩) :: (nx,⟨1,[[.int .u64 (ui s)]]⟩) :: wG (yR objs kS) 1 ⟨6,[[.int .i64 p.F,.sl 1 (us p.init),.sl 1 (us p.see),.sl 1 (mvR p.moves),.sl 1 (cdR p.code),.osl (nx+1+1) 1 (k+1)]]⟩)
   (by rw [xY,if_pos rfl,<- hsn]; rfl) (by rw [xY,if_neg (by omega),xY,if_neg (by omega),xY,if_pos rfl]; rfl)
   (by rw [xY,if_neg q5,xY,if_neg q6,xY,if_neg q1,xW,if_pos rfl,hxe]; rfl)
   (fun j hj h1 h2=>by rw [xY,if_neg (by omega),xY,if_neg (by omega),xY,if_neg (by omega),xW,if_neg (fun e=>h1 e.symm),xL,if_neg (fun e=>(h2.resolve_left hk0) e.symm)])
  simp only [ZA,ZB,ZC,ZD,ZE,↓reduceIte,ZF,ZG,ZH,ZI,ZJ,reduceCtorEq,ZK,↓zU,↓zD,zV,zT,zW,hd,xR,hg,hx,hxe,q1,q2,q3,q4,q5,q6,q7,ho,hnl,htk]
  (repeat refine sd ?_)
  refine⟨_,hst1,?_,by show p.init.length-(k+1)<_; omega⟩
  (refine xM.same ?_; simp only [xS,Fr.get,↓reduceIte,reduceIte,Nat.reduceEqDiff,reduceCtorEq,D.int.injEq,D.bool.injEq,D.sl.injEq,and_true,true_and,and_self])
  exact wrap_i64 (by omega)
end Go.Pd
