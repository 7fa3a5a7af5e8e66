/- Part SP. -/
import Derived.Test.YtndfaefmmcoapaaGreatUdXE
import Derived.Test.YtndfaefmmcoapaaGreatUdE1
set_option linter.unusedSectionVars false
set_option linter.unusedVariables false
set_option linter.unusedSimpArgs false
set_option linter.defProp false
set_option maxRecDepth 20000
set_option maxHeartbeats 1000000
namespace Go.Pd
open Go Go.Proofs
namespace Ru
def hT (f:Nat->Int):Nat->List Int
 | 0=>[]
 | k+1=>if 0<k/\f k=f (k-1) then hT f k else hT f k ++ [f k]
theorem aU7 {l:List Int} {f:Nat->Int}:∀ {k:Nat},(∀ i,i<k->l.getD i 0=f i)->rY l k=hT f k
 | 0,_=>rfl
 | k+1,h=>by
  unfold rY hT;rw [h k (by omega)]
  by_cases c:0<k
  ·rw [h (k-1) (by omega),aU7 fun i hi=>h i (by omega)]
  ·rw [if_neg (fun e=>c e.1),if_neg (fun e=>c e.1),aU7 fun i hi=>h i (by omega)]
theorem aSr (rs:List xD) (a i t:Nat):iV rs a (i,t)= hT (fun u=>yQ rs a (i,u)) (t+1):=by unfold iV mZ;simp only [aX8];exact aU7 fun j hj=>by simp [cC,List.getD,hj]
theorem aKx {rs:List xD} {A T:Nat} (hT:1<=T) (h:∀ (a:Nat) (p q:Nat × Nat),a<A->p.1<rs.length/\p.2<T->q.1<rs.length/\q.2<T->yQ rs a p=yQ rs a q->iV rs a p=iV rs a q):aIy rs A (ptN T (rs.length*T))= true:=by have hin:Inb rs T (ptN T (rs.length*T)):=nC hT (Nat.le_refl _);refine nW fun a ha=>aRd fun i j hi hj e=>?_;exact h a _ _ ha (hin _ (xS hi)) (hin _ (xS hj)) e
theorem aGx {rs:List xD} {A T:Nat} (h:aIy rs A (ptN T (rs.length*T))= true) {a:Nat} {p q:Nat × Nat} (ha:a<A) (hp:p.1<rs.length/\p.2<T) (hq:q.1<rs.length/\q.2<T) (e:yQ rs a p=yQ rs a q):iV rs a p=iV rs a q:=by have h1:=List.all_eq_true.1 h a (List.mem_range.2 ha);have h2:=List.all_eq_true.1 h1 p (fW hp);have h3:=List.all_eq_true.1 h2 q (fW hq);unfold rc1 at h3;rw [decide_eq_true e] at h3;simpa using h3
theorem aS3 {rs:List xD} {A F T:Nat} (ok:OkR rs A F T):lZ ⟨A,F,T,rs⟩= (ptN T (rs.length*T)).all (sy3 rs A (ptN T (rs.length*T))):=by
 have hz:=mQ ok;have ep:cQ ⟨A,F,T,rs⟩= ptN T (rs.length*T):=by unfold cQ; rw [if_neg (by simpa using hz)]; rfl
 unfold lZ;rw [decide_eq_true hz,Bool.true_and,ep];rfl
theorem aPk {rs:List xD} {A F T:Nat} (ok:OkR rs A F T) (h:∀ (a:Nat) (p q:Nat × Nat),a<A->p.1<rs.length/\p.2<T->q.1<rs.length/\q.2<T->p.2≠q.2->yQ rs a p≠yQ rs a q):lZ ⟨A,F,T,rs⟩= true:=by
 have hin:Inb rs T (ptN T (rs.length*T)):=nC ok.hT.1 (Nat.le_refl _);rw [aS3 ok];refine List.all_eq_true.2 fun p hp=>List.all_eq_true.2 fun q hq=>nW fun a ha=>?_;unfold sy1
 by_cases e:p.2=q.2
 ·simp [e]
 ·simp [h a p q ha (hin p hp) (hin q hq) e]
theorem fF {rs:List xD} {A F T:Nat} (ok:OkR rs A F T) (h:lZ ⟨A,F,T,rs⟩= true) {a:Nat} {p q:Nat × Nat} (ha:a<A) (hp:p.1<rs.length/\p.2<T) (hq:q.1<rs.length/\q.2<T) (e:p.2≠q.2):yQ rs a p≠yQ rs a q:=by rw [aS3 ok] at h;have h1:=List.all_eq_true.1 h p (fW hp);have h2:=List.all_eq_true.1 h1 q (fW hq);have h3:=List.all_eq_true.1 h2 a (List.mem_range.2 ha);unfold sy1 at h3;rw [decide_eq_true e] at h3;simpa using h3
end Ru
open Rs Fm Ru Te Kb
namespace Kb
instance : DecidableEq xD := fun a b => decidable_of_iff (a.loc = b.loc /\ a.fac = b.fac) (by cases a; cases b; simp)
instance : DecidableEq tZ := fun a b => decidable_of_iff (a.ag = b.ag /\ a.fa = b.fa /\ a.ln = b.ln /\ a.rs = b.rs) (by cases a; cases b; simp)
def aCu (x:List Int):List (List Int)->List (List Int)
 | []=>[x]
 | y :: l=>if kc y x<0 then y :: aCu x l else x :: y :: l
def bYq : List (List Int)->List (List Int)
 | []=>[]
 | x :: l=>aCu x (bYq l)
theorem eK (x:List Int):∀ l,(aCu x l).Perm (x :: l)
 | []=>List.Perm.refl _
 | y :: l=>by
  unfold aCu
  split
  ·exact((eK x l).cons y).trans (List.Perm.swap x y l)
  ·exact List.Perm.refl _
theorem aW8 : ∀ l,(bYq l).Perm l
 | []=>List.Perm.refl _
 | x :: l=>(eK x _).trans ((aW8 l).cons x)
theorem aR3 (x:List Int):∀ l,asc l->asc (aCu x l)
 | [],_=>by unfold aCu asc; simp
 | y :: l,h=>by
  have h1:=List.pairwise_cons.1 h;unfold aCu
  split
  ·rename_i hc;refine List.pairwise_cons.2 ⟨fun z hz=>?_,aR3 x l h1.2⟩
   rcases List.mem_cons.1 ((eK x l).mem_iff.1 hz) with rfl | hz
   ·have:=pB y z; omega
   ·exact h1.1 z hz
  ·rename_i hc;refine List.pairwise_cons.2 ⟨fun z hz=>?_,h⟩
   rcases List.mem_cons.1 hz with rfl | hz
   ·exact hc
   ·exact kZ (h1.1 z hz) hc
theorem aQn : ∀ l,asc (bYq l)
 | []=>List.Pairwise.nil
 | x :: l=>aR3 x _ (aQn l)
theorem aE8 (l:List (List Int)):aV4 l=bYq l:=(aLp (aW8 l) (aQn l)).symm
theorem aIn : aV4=bYq:=funext aE8
def bTa (see:List (BitVec 64)) (sts:List (List (BitVec 64))) (T:Nat):List xD:= aCq (aUc sts) see.length T fun a p=>below (dedup (bYq ((ptN T ((aUc sts).length*T)).map (iI see sts a)))) (iI see sts a p)
theorem aH5 (see:List (BitVec 64)) (sts:List (List (BitVec 64))) (T:Nat):iC see sts T=bTa see sts T:=by unfold iC aCr bTa aNq;rw [aIn]
end Kb
end Go.Pd

/- Part AX. -/
namespace Go.Pd
open Go Go.Proofs
open BitVec renaming isValue -> ZA
open Rs Fm Ru Te Kb
def Nw (d d':D):Prop:=∀ (M:Nat->Prop) (w:World) (v:Value),RP M w v d->RP M w v d'
theorem Nw.refl (d:D):Nw d d:=fun _ _ _ h=>h
theorem Nw.xO (sz:Nat):Nw .xO (.sl sz []):=fun _ _ v h=>by cases h;exact .sl0 _ _ _ (by simp)
theorem Nw.sl {sz:Nat} {els els':List (List D)} (hl:els.length=els'.length) (hw:∀ e ∈ els',e.length=sz)
  (h:∀ i,i<els.length->∀ j,j<sz->Nw ((els.getD i []).getD j .top) ((els'.getD i []).getD j .top)):Nw (.sl sz els) (.sl sz els'):=fun M w v hv=>by
 cases hv with
 | sl0 a cap sz hh=> have:els' = []:=List.length_eq_zero_iff.1 (by simpa using hl.symm);subst this;exact .sl0 _ _ _ hh
 | sl vs hs hM hc hm hl2 hcell hr=>
  have:=RP.sl (M:=M) (w:=w) (sz:=sz) (els:=els') vs hs hM (by omega) hm hw (by rw [<- hl]; exact hcell) (by rw [<- hl]; exact fun i hi j hj=>h i hi j hj M w _ (hr i hi j hj))
  rwa [<- hl] at this
theorem Nw.agg {ds cs:List D} (hl:ds.length=cs.length) (h:∀ j,j<cs.length->Nw (ds.getD j .top) (cs.getD j .top)):Nw (.agg ds) (.agg cs):=fun M w v hv=>by
 cases hv with
 | agg h1 h2=>exact .agg (by omega) fun j hj=>h j hj M w _ (h2 j (by omega))
theorem Nw.seen {σ:St} {K:Nat->Prop} {d d':D} (h:Nw d d') (hp:d.xL=true):Seen σ K d d':=fun M0 w ι v hS hR=>h _ _ _ (Seen.pure hp M0 w ι v hS hR)
theorem yB.seen {P:Program} {g:FuncId} {args args':List D} {d:D} (hc:yB P g args' d) (h:jV St0 (fun _=>False) args args'):yB P g args d:= xY.bV1 (σ:=St0) (objs':=[]) (fun _=>False) hc h fun k o hk=>by cases hk
theorem aC9 (f g:List Nd):yB Tryz.prog 37 [.sl 6 (ndR f),.sl 6 (ndR g)] (.sl 6 (ndR (aI0 f g))):=by
 refine xY.xR mixed Tryz.func37 k37 (by simp) fun hf=>?_;simp only [simprocAttr,-ZA,↓zU,↓zD,zV,zT,zW]
 (repeat refine sd ?_)
 refine .go (xY.yM (fP ⟨7,0,0,0,0,0⟩ [f,g] (by simp)) (by simp [D.xU,D.xL,Nd.row,nl])) ?_;simp only [simprocAttr,-ZA,↓zU,↓zD,zV,zT,zW];exact .same
open Rs Fm Ru Te Kb
namespace Kb
instance : DecidableEq ChA := fun a b => decidable_of_iff (a.ag = b.ag /\ a.seen = b.seen /\ a.mv = b.mv) (by cases a; cases b; simp)
end Kb
open Rs Fm Ru Te Kb
open Rs Fm Ru Te Kb
open Rs Fm Ru Te Kb
namespace Kb
theorem aDv {p:PrA} {F k:Nat} (hv:PrV p F) (hk:k<=5) {sts:List (List (BitVec 64))} (hS:PlS p F sts k):OkR (iC p.see sts (k+1)) p.see.length F (k+1):=by
 have hl:=gY p.see sts (k+1);have hR:=hv.hI;have hn:=hS.len
 have key:∀ r ∈ iC p.see sts (k+1),∃ i,i<sts.length/\r=⟨(List.range (k+1)).map fun t=>(List.range p.see.length).map fun a=>((below (aDp p.see sts (k+1) a) (iI p.see sts a (i,t)):Nat):Int),stR sts i⟩:=fun r hr=>by
  obtain⟨i,hi,rfl⟩:=List.getElem_of_mem hr;have hi':i<sts.length:=by omega
  refine⟨i,hi',?_⟩;rw [<- aS2 hi'];simp [List.getD,hi]
 refine⟨hv.hA.2,hv.hF,⟨by omega,by omega⟩,⟨by omega,by omega⟩,?_,?_,?_,?_,?_⟩
 ·rw [hl];have:sts.length*(k+1)<=16*6:=Nat.mul_le_mul (by omega) (by omega);omega
 ·intro r hr;obtain⟨i,hi,rfl⟩:=key r hr;simp
 ·intro r hr;obtain⟨i,hi,rfl⟩:=key r hr;exact hS.run _ (pE hi)
 ·intro r hr l hm;obtain⟨i,hi,rfl⟩:=key r hr;simp only [List.mem_map] at hm;obtain⟨t,_,rfl⟩:=hm;simp
 ·intro r hr f hm;obtain⟨i,hi,rfl⟩:=key r hr;exact hS.val _ (pE hi) f hm
theorem aUj {see:List (BitVec 64)} {sts:List (List (BitVec 64))} {T a:Nat} {x y:Nat × Nat} (ha:a<see.length) (hx:x.1<sts.length/\x.2<T) (hy:y.1<sts.length/\y.2<T) :
  yQ (iC see sts T) a x=yQ (iC see sts T) a y ↔ iI see sts a x=iI see sts a y:=aGu ha (by rw [lG]; exact hx) (by rw [lG]; exact hy)
theorem aWp {p:PrA} {F k:Nat} {sts:List (List (BitVec 64))} (hS:PlS p F sts k) {a:Nat} {x y:Nat × Nat} (hx:x.1<sts.length/\x.2<k+1) (hy:y.1<sts.length/\y.2<k+1) (h:iI p.see sts a x=iI p.see sts a y):x.2=y.2:=by obtain⟨i,t⟩:=x;obtain⟨j,u⟩:=y;have h1:=aR7 (see:=p.see) (a:=a) (sts:=sts) (r:=i) (t:=t) (by rw [show (stR sts i).length=k+1 from hS.run _ (pE hx.1)]; exact hx.2);have h2:=aR7 (see:=p.see) (a:=a) (sts:=sts) (r:=j) (t:=u) (by rw [show (stR sts j).length=k+1 from hS.run _ (pE hy.1)]; exact hy.2);rw [h] at h1;show t=u;omega
theorem aJv {see:List (BitVec 64)} {sts:List (List (BitVec 64))} {a i j t u:Nat} (h:iI see sts a (i,t)= iI see sts a (j,t)) (hu:u<=t):iI see sts a (i,u)= iI see sts a (j,u):=by
 have e:∀ i,iI see sts a (i,u)= (iI see sts a (i,t)).take (u+1):=fun i=>by unfold iI nJ;rw [<- List.map_take,<- List.map_take,List.take_take,Nat.min_eq_left (by omega)]
 rw [e,e,h]
theorem aR8 {f g:Nat->Int}:∀ {k:Nat},(∀ u,u<k->f u=g u)->hT f k=hT g k
 | 0,_=>rfl
 | k+1,h=>by
  unfold hT;rw [h k (by omega),aR8 fun u hu=>h u (by omega)]
  by_cases c:0<k
  ·rw [h (k-1) (by omega)]
  ·rw [if_neg (fun e=>c e.1),if_neg (fun e=>c e.1)]
theorem aH4 {p:PrA} {F k:Nat} (hv:PrV p F) (hk:k<=5) {sts:List (List (BitVec 64))} (hS:PlS p F sts k):lZ ⟨p.see.length,F,((k+1:Nat):Int),iC p.see sts (k+1)⟩= true:=
 aPk (aDv hv hk hS) fun a x y ha hx hy hne h=>by rw [gY] at hx hy;exact hne (aWp hS hx hy ((aUj ha hx hy).1 h))
theorem aBp {p:PrA} {F k:Nat} {sts:List (List (BitVec 64))} (hS:PlS p F sts k):aIy (iC p.see sts (k+1)) p.see.length (ptN (k+1) ((iC p.see sts (k+1)).length*(k+1)))= true:=
 aKx (by omega) fun a x y ha hx hy h=>by rw [gY] at hx hy;have h1:=(aUj ha hx hy).1 h;have e:=aWp hS hx hy h1;obtain⟨i,t⟩:=x;obtain⟨j,u⟩:=y;simp only at hx hy e;subst e;rw [aSr,aSr];exact aR8 fun v hv=>(aUj ha ⟨hx.1,by show v<k+1; omega⟩ ⟨hy.1,by show v<k+1; omega⟩).2 (aJv h1 (by omega))
theorem aOb {p:PrA} {k:Nat} (h:qU p=0) (hk:k<=5):aVz p ((k+1:Nat):Int)= 0/\∃ F,PrV p F/\gI p ((k+1:Nat):Int)= ⟨p.see.length,F,((k+1:Nat):Int),iC p.see (vL p k) (k+1)⟩:=by
 have h1:aVz p ((k+1:Nat):Int)= 0:=by unfold aVz;rw [if_neg (by simpa using h),if_neg (by omega)]
 obtain⟨F,hv⟩:=aW6 h;refine⟨h1,F,hv,?_⟩;unfold gI;rw [if_neg (by simpa using h1),hv.fe];rfl
end Kb
open Rs Fm Ru Te
namespace Te
abbrev bV0 (t u:Tr):Tr:=.nd 7 0 0 0 t u
abbrev knT (a:Int) (t:Tr):Tr:=.nd 9 a 0 0 t .nil
abbrev nxT (t:Tr):Tr:=.nd 18 0 0 0 t .nil
abbrev pvT (t:Tr):Tr:=.nd 20 0 0 0 t .nil
theorem ok0 {A F:Nat} {p:Nd} (h1:jW p &&& 3824=0) (h2:tE p=0) (h3:gH p=0):okN A F p=true:=by simp [okN,h1,h2,h3]
section
variable {A F : Nat} {f g : List Nd} {t u : Tr}
theorem aLb (h:Is A F f t) (hl:szT t<200):Is A F (tQ f) (nxT t)/\ szT (nxT t)<=szT t+1:=h.un (x:=⟨18,0,0,0,0,0⟩) rfl rfl (by decide) rfl (ok0 (by decide) (by decide) (by decide)) hl
theorem aLa (h:Is A F f t) (hl:szT t<200):Is A F (iH f) (pvT t)/\ szT (pvT t)<=szT t+1:=h.un (x:=⟨20,0,0,0,0,0⟩) rfl rfl (by decide) rfl (ok0 (by decide) (by decide) (by decide)) hl
theorem aXk {a:Nat} (ha:a<A) (hA:A<=4) (h:Is A F f t) (hl:szT t<200):Is A F (wB a f) (knT a t)/\ szT (knT a t)<=szT t+1:=by
 refine h.un (x:=⟨9,a,0,0,0,0⟩) rfl rfl ?_ rfl ?_ hl
 ·have:a=0\/a=1\/a=2\/a=3:=by omega
  rcases this with rfl | rfl | rfl | rfl <;> decide
 ·have h1:jW ⟨9,(a:Int),0,0,0,0⟩&&& 3824=0:=show (1:Nat)&&& 3824=0 by decide
  have h2:tE ⟨9,a,0,0,0,0⟩/ 2 ^ A=0:=by have:tE ⟨9,a,0,0,0,0⟩= 2 ^ a:=rfl;rw [this];exact Nat.div_eq_of_lt (Nat.pow_lt_pow_right (by decide) ha)
  have h3:gH ⟨9,a,0,0,0,0⟩= 0:=rfl;simp [okN,h1,h2,h3]
theorem aD5 (h:Is A F f t) (h2:Is A F g u) (hl:szT t+szT u<200):Is A F (aI0 f g) (bV0 t u)/\ szT (bV0 t u)<=szT t+szT u+1:=h.bin (x:=⟨7,0,0,0,0,0⟩) h2 rfl rfl (by decide) (ok0 (by decide) (by decide) (by decide)) hl
end
theorem aSy {s:tZ} {A F T:Nat} {rs:List xD} (hs:s=⟨A,F,T,rs⟩) (hz:chk s=0) (ok:OkR rs A F T) {f:List Nd} {t:Tr} (h:Is A F f t) (hv:∀ i,i<rs.length->∀ u,u<T->evT rs A T t (i,u)= true):lV s f=true:=by refine aZt.2 ⟨h.req hs hz ok,?_⟩;rw [h.e];subst hs;exact hv
section
variable {rs : List xD} {A T : Nat} {t u : Tr} {p : Nat × Nat}
theorem aCc : evT rs A T (bV0 t u) p=(!evT rs A T t p || evT rs A T u p):=rfl
theorem aXm {a:Nat}:evT rs A T (knT a t) p=vR rs T a (evT rs A T t) p:=rfl
theorem aU4 : evT rs A T (nxT t) p=shP T 1 (evT rs A T t) p:=rfl
theorem aLi : evT rs A T (pvT t) p=shP T (-1) (evT rs A T t) p:=rfl
end
theorem aUw {T:Nat} {x:Tab} {i t:Nat}:shP T 1 x (i,t)= (decide (t+1<T)&& x (i,t+1)):=by
 unfold shP;have e:(((t:Int))+ 1).toNat=t+1:=by omega
 have e1:decide (0<=(t:Int)+ 1)= true:=decide_eq_true (by omega);have e2:decide ((t:Int)+ 1<T)= decide (t+1<T):=decide_eq_decide.2 (by omega);simp only [e,e1,e2,Bool.true_and]
theorem aM0 {T:Nat} {x:Tab} {i t:Nat} (ht:t<T):shP T (-1) x (i,t)= (decide (0<t)&& x (i,t-1)):=by
 unfold shP;have e:(((t:Int))+ -1).toNat=t-1:=by omega
 have e1:decide (0<=(t:Int)+ -1)= decide (0<t):=decide_eq_decide.2 (by omega);have e2:decide ((t:Int)+ -1<T)= true:=decide_eq_true (by omega);simp only [e,e1,e2,Bool.true_and]
theorem gS {rs:List xD} {T a:Nat} {x:Tab} {p:Nat × Nat}:vR rs T a x p=true ↔ ∀ q ∈ ptl rs T,yQ rs a q=yQ rs a p->x q=true:=by
 unfold vR;simp only [List.all_eq_true,Bool.or_eq_true,Bool.not_eq_true',decide_eq_false_iff_not]
 constructor
 ·intro h q hq e; exact(h q hq).resolve_left (fun n=>n e)
 ·intro h q hq
  by_cases e:yQ rs a q=yQ rs a p
  ·exact .inr (h q hq e)
  ·exact .inl e
end Te
open Rs Fm Ru Te
namespace Ru
theorem aN5 {f:Nat->Int}:∀ {k:Nat},(∀ u,0<u->u<k->f u≠f (u-1))->hT f k=(List.range k).map f
 | 0,_=>rfl
 | k+1,h=>by rw [hT,if_neg (fun e=>h k e.1 (by omega) e.2),aN5 fun u h1 h2=>h u h1 (by omega),List.range_succ,List.map_append];rfl
theorem aRm {rs:List xD} {A F T:Nat} (ok:OkR rs A F T) (hs:lZ ⟨A,F,T,rs⟩= true) (hr:aIy rs A (ptN T (rs.length*T))= true) {a t i w:Nat} (ha:a<A) (h1:1<=t) (h2:t<T) (hi:i<rs.length) (hw:w<rs.length)
  (e:yQ rs a (i,t)= yQ rs a (w,t)):yQ rs a (i,t-1)= yQ rs a (w,t-1):=by
 have hh:=aGx hr ha (p:=(i,t)) (q:=(w,t)) ⟨hi,h2⟩ ⟨hw,h2⟩ e;have hn:∀ r,r<rs.length->∀ u,0<u->u<t+1->yQ rs a (r,u)≠ yQ rs a (r,u-1):=fun r hr2 u hu0 hu=>fF ok hs ha (p:=(r,u)) (q:=(r,u-1)) ⟨hr2,by simp only; omega⟩ ⟨hr2,by simp only; omega⟩ (by simp only; omega);rw [aSr,aSr,aN5 (hn i hi),aN5 (hn w hw)] at hh;have:=congrArg (fun l=>l.getD (t-1) 0) hh;simpa [List.getD,show t-1<t+1 by omega] using this
end Ru
namespace Te
theorem aTr {A F T:Nat} {rs:List xD} (ok:OkR rs A F T) (hsy:lZ ⟨A,F,T,rs⟩= true) (hre:aIy rs A (ptN T (rs.length*T))= true) {f:List Nd} {x:Tr} (I:Is A F f x) (hsz:szT x<=20) {a:Nat} (ha:a<A) :
  lV ⟨A,F,T,rs⟩ (aI0 (wB a (tQ f)) (tQ (wB a f)))= true:=by
 have hA:=ok.hA;have hT:=ok.hT.1;obtain⟨I1,z1⟩:=aLb I (by omega);obtain⟨I2,z2⟩:=aXk ha hA I1 (by omega);obtain⟨I3,z3⟩:=aXk ha hA I (by omega);obtain⟨I4,z4⟩:=aLb I3 (by omega);obtain⟨I5,z5⟩:=aD5 I2 I4 (by omega);refine aSy rfl (mQ ok) ok I5 fun i hi u hu=>?_;rw [aCc,aXm,aU4]
 cases h:vR rs T a (evT rs A T (nxT x)) (i,u) with
 | false=>rfl
 | true=>
  have k:=gS.1 h;have h0:=k (i,u) (fS hT hi hu) rfl;rw [aU4,aUw,Bool.and_eq_true,decide_eq_true_eq] at h0
  have hk:evT rs A T (knT a x) (i,u+1)= true:=by
   rw [aXm,gS];intro q hq e;obtain⟨j,v⟩:=q;obtain⟨hj,hv⟩:=aNz hT hq;simp only at hj hv
   have hvu:v=u+1:=by refine Decidable.byContradiction fun n=>?_;exact fF ok hsy ha (p:=(j,v)) (q:=(i,u+1)) ⟨hj,hv⟩ ⟨hi,h0.1⟩ n e
   subst hvu;have e2:=aRm ok hsy hre ha (t:=u+1) (i:=j) (w:=i) (by omega) h0.1 hj hi e;rw [Nat.add_sub_cancel] at e2;have h1:=k (j,u) (fS hT hj hu) e2;rw [aU4,aUw,Bool.and_eq_true] at h1;exact h1.2
  rw [aUw,hk,decide_eq_true h0.1];rfl
theorem aE6 {A F T:Nat} {rs:List xD} (ok:OkR rs A F T) (hsy:lZ ⟨A,F,T,rs⟩= true) (hre:aIy rs A (ptN T (rs.length*T))= true) {f:List Nd} {x:Tr} (I:Is A F f x) (hsz:szT x<=20) {a:Nat} (ha:a<A) :
  lV ⟨A,F,T,rs⟩ (aI0 (iH (wB a f)) (wB a (iH f)))= true:=by
 have hA:=ok.hA;have hT:=ok.hT.1;obtain⟨I1,z1⟩:=aLa I (by omega);obtain⟨I2,z2⟩:=aXk ha hA I1 (by omega);obtain⟨I3,z3⟩:=aXk ha hA I (by omega);obtain⟨I4,z4⟩:=aLa I3 (by omega);obtain⟨I5,z5⟩:=aD5 I4 I2 (by omega);refine aSy rfl (mQ ok) ok I5 fun i hi u hu=>?_;rw [aCc]
 cases h:evT rs A T (pvT (knT a x)) (i,u) with
 | false=>rfl
 | true=>
  rw [aLi,aM0 hu,Bool.and_eq_true,decide_eq_true_eq,aXm] at h;have k:=gS.1 h.2
  have hk:evT rs A T (knT a (pvT x)) (i,u)= true:=by
   rw [aXm,gS];intro q hq e;obtain⟨j,v⟩:=q;obtain⟨hj,hv⟩:=aNz hT hq;simp only at hj hv
   have hvu:v=u:=by refine Decidable.byContradiction fun n=>?_;exact fF ok hsy ha (p:=(j,v)) (q:=(i,u)) ⟨hj,hv⟩ ⟨hi,hu⟩ n e
   subst hvu;have e2:=aRm ok hsy hre ha (t:=v) (i:=j) (w:=i) (by omega) hu hj hi e;rw [aLi,aM0 hu,decide_eq_true h.1,Bool.true_and];exact k (j,v-1) (fS hT hj (by omega)) e2
  rw [hk];rfl
end Te
open Rs Fm Ru Te Kb
namespace Kb
end Kb
end Go.Pd
