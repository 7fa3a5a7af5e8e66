/- Part LF. -/
import Derived.Test.YtndfaefmmcoapaaGreatPlKZ
import Derived.Test.YtndfaefmmcoapaaGreatPlKI
import Derived.Test.YtndfaefmmcoapaaGreatPlC4
import Derived.Test.YtndfaefmmcoapaaGreatPlSC
import Derived.Test.YtndfaefmmcoapaaGreatPlP7
set_option linter.unusedSectionVars false
set_option linter.unusedVariables false
set_option linter.unusedSimpArgs false
set_option linter.defProp false
set_option maxRecDepth 20000
set_option maxHeartbeats 1000000
open Go.Proofs.Tryz
open BitVec renaming getLsbD_and->γ,getLsbD_of_ge->δ,eq_of_getLsbD_eq->ε,getLsbD_or->ζ,getLsbD_not->η
open Int renaming toNat_natCast->θ,eq_ofNat_of_zero_le->κ,le_refl->μ
open List renaming mem_range->ν,mem_singleton->ξ,range_succ->ο,map_append->π,length_range->τ,all_eq_true->υ,range_zero->χ,mem_append->ψ,length_map->ω,take_of_length_le->Aa,map_nil->Ab,all_eq_false->Ac,length_take->Ad
open Nat renaming zero_le->Ae,le_refl->Af,not_lt_zero->Ag,and_or_distrib_right->Ah,exists_eq_add_of_le->Ai
open Bool renaming true_and->Aj,and_eq_true->Ak,eq_iff_iff->Al,false_and->Am,false_eq_true->An,or_eq_false_iff->Ao
namespace Go.Pd
open Go Go.Proofs
open BitVec renaming isValue -> ZA
open Rs Fm Ru Te Kb
theorem Yq {σ:St} {g:FuncId} {caps:List D} {f:sV->Bool} {c:List (sV)} (hl:c.length<=2000000) (h:∀ x ∈ c,xP prog g ([.agg x.row]++caps) σ (.bool (f x)) σ):xP prog 136 [.sl 3 (pQ c),.fn g caps] σ (.int .i64 (iN f c 0)) σ:=by
 refine xI func136 Il λhf=>?_;refine xG vJ ?_
 refine xU (λk:Nat=>[(8,.int .i64 k),(7,.int .i64 c.length),(1,.fn g caps),(0,.sl 3 (pQ c))]) (λ_=>σ) (λk=>k<=c.length/\iN f c 0=iN f (c.drop k) k) (λk=>c.length-k) 0 ⟨Ae _,rfl⟩ ?_ ?_
 ·exact wE
 intro k ⟨hk,hi⟩;refine xN mixed ?_
 by_cases hh:k<c.length
 ·have hd:((k:Int)<(c.length:Int)):=by omega
  have hg:=xm c hh;unfold sV.row at hg;have hcall:=h _ (xK (d:=jz) hh);unfold sV.row at hcall;rw [drop_cons (d:=jz) hh,iN] at hi;refine sT hd vJ hg ?_;refine .go hcall ?_
  cases hx:f (c.getD k jz)
  ·rw [hx,if_neg (by simp)] at hi;refine xJ ?_;refine⟨k+1,⟨by omega,hi⟩,?_,by omega⟩;exact yH
  ·rw [hx,if_pos rfl] at hi;refine xJ ?_;rw [hi];exact .same
 ·have hd:¬ ((k:Int)<(c.length:Int)):=by omega
  rw [List.drop_eq_nil_of_le (by omega),iN] at hi;refine xG hd ?_;rw [hi];exact .same
theorem Zz {σ:St} {g:FuncId} {caps:List D} {f:sV->Bool} {c:List (sV)} (hl:c.length<=2000000) (h:∀ x ∈ c,xP prog g ([.agg x.row]++caps) σ (.bool (f x)) σ):xP prog 195 [.sl 3 (pQ c),.fn g caps] σ (.bool (c.any f)) σ:=by
 refine xI func195 JD λhf=>?_;refine xJ ?_;refine .go (Yq hl h) ?_;have hx:=dS (f:=f) (c:=c) (i:=0) (μ 0)
 cases ha:c.any f
 ·have h1:¬ 0<=iN f c 0:=λy=>by rw [hx.1 y] at ha; cases ha
  refine xG h1 ?_;exact .same
 ·have h1:=hx.2 ha;refine xG h1 ?_;exact .same
namespace Kb
def tu (p:yT) (c:sV):Bool:=decide (c.ag<0) || decide ((p.xW.length:Int)<=c.ag) || decide (c.seen.length=0) || decide (c.mv < -1) || decide ((p.xO.length:Int)<=c.mv)
def Pi (p:yT) (c:sV):Bool:=c.seen.any λs=>!decide (s &&& ~~~(p.xW.getD c.ag.toNat 0)= 0#64)
def gE (ag:Int) (h:List (BitVec 64)) (d:sV):Bool:=decide (d.ag=ag)&& decide (d.seen=h)
def LY (p:yT) (l:List sV) (i:Nat):Int:=if tu p (l.getD i jz)= true then 3 else if Pi p (l.getD i jz)= true then 3 else if (l.take i).any (gE (l.getD i jz).ag (l.getD i jz).seen)= true then 7 else 0
def uZ (p:yT) (l:List sV):Int:=wQ (LY p l) (List.range l.length)
structure zl (l : List sV) : Prop where
 len:l.length<=2000000
 seen:∀ c ∈ l,c.seen.length<=1000
theorem WU {f:Nat->Int} {n k:Nat} (h:k<=n) (hz:∀ i,i<k->f i=0):k<n->f k≠0->wQ f (List.range n)= f k:=by
 intro hk hf
 have key:∀ (m s:Nat),s<=k->k<s+m->(∀ i,s<=i->i<k->f i=0)->wQ f (List.range' s m)= f k:=by
  intro m
  induction m with
  | zero=>intro s h1 h2; omega
  | succ m ih=>
   intro s h1 h2 h3;rw [List.range'_succ];unfold wQ
   by_cases e:s=k
   ·subst e; rw [if_pos hf]
   ·rw [if_neg (by simpa using h3 s (Af _) (by omega))];exact ih (s+1) (by omega) (by omega) λi hi hi2=>h3 i (by omega) hi2
 rw [List.range_eq_range'];exact key n 0 (Ae _) (by omega) λi _ hi=>hz i hi
theorem Ti {f:Nat->Int} {n:Nat} (hz:∀ i,i<n->f i=0):wQ f (List.range n)= 0:=oA.2 λi hi=>hz i (ν.1 hi)
theorem ik {a b:List (BitVec 64)}:a.map ui=b.map ui ↔ a=b:=⟨λh=>(List.map_inj_right λx y=>ZP.1).1 h,λh=>by rw [h]⟩
end Kb
theorem Ye (a b:List (BitVec 64)):xA prog 74 [.sl 1 (us a),.sl 1 (us b)] (.bool (decide (a=b))):=by
 have h:=VP (a:=a) (b:=b)
 rwa [show decide (a.map ui=b.map ui)= decide (a=b) by rw [Al,decide_eq_true_eq,decide_eq_true_eq,ik]] at h
theorem Mb {p:yT} {c:sV} {nx k:Nat} {xZ:List (Nat × Ob)} (h0:St.look xZ 0=some ⟨5,[p.cells]⟩) (h1:St.look xZ k=some ⟨3,[c.row]⟩) (hc:0<=c.ag/\c.ag<p.xW.length) (s:BitVec 64) :
  xP prog 194 ([.int .u64 (ui s)] ++ [.ref 0 5 0 0,.ref k 3 0 0]) ⟨nx,xZ⟩ (.bool (!decide (s &&& ~~~(p.xW.getD c.ag.toNat 0)= 0#64))) ⟨nx,xZ⟩:=by
 unfold yT.cells at h0;unfold sV.row at h1;have hg:=zX p.xW (show c.ag.toNat<p.xW.length by omega);generalize p.xW.getD c.ag.toNat 0=m at hg ⊢;have hlt:(c.ag<(p.xW.length:Int)):=hc.2;refine xI func194 JC λhf=>?_;refine qP h0 h1 xT hlt hg ?_
 by_cases hx:s &&& ~~~m=0#64
 ·have ex:(s &&& ~~~m != 0#64)= false:=by simpa using hx
  rw [decide_eq_true hx];refine wA ex ?_;exact .same
 ·have ex:(s &&& ~~~m != 0#64)= true:=by simpa using hx
  rw [decide_eq_false hx];refine wA ex ?_;exact .same
theorem P9 {c:sV} {nx k:Nat} {xZ:List (Nat × Ob)} (h1:St.look xZ k=some ⟨3,[c.row]⟩) (d:sV) :
  xP prog 196 ([.agg d.row] ++ [.ref k 3 0 0]) ⟨nx,xZ⟩ (.bool (gE c.ag c.seen d)) ⟨nx,xZ⟩:=by
 refine xP.ZQ ⟨_,func196,by kernel_rfl,by kernel_rfl⟩ λhu=>xP.clean ?_;have hk:=(hu k _ h1).1;simp only at hk;have y1:¬ nx=k:=by omega
 have he:=Ye d.seen c.seen;unfold sV.row at h1 ⊢;unfold gE;refine xI func196 JE λhf=>?_
 by_cases ha:d.ag=c.ag
 ·have ha':(d.ag==c.ag)= true:=by simpa using ha
  rw [decide_eq_true ha,Aj];refine sT h1 y1 ha' ?_;refine .go (cr he) ?_;refine xJ ?_;exact .gone hu (Vz hu _ _) (by simp only [vw])
 ·have ha':(d.ag==c.ag)= false:=by simpa using ha
  rw [decide_eq_false ha,Am];refine sT h1 y1 ha' ?_;exact .gone hu (Vz hu _ _) (by simp only [vw])
theorem Tc {a:Int} {h:List (BitVec 64)} {nx k k2:Nat} {xZ:List (Nat × Ob)} (h1:St.look xZ k=some ⟨1,[[.int .i64 a]]⟩) (h2:St.look xZ k2=some ⟨1,[[.sl 1 (us h)]]⟩) (d:sV) :
  xP prog 137 ([.agg d.row] ++ [.ref k 1 0 0,.ref k2 1 0 0]) ⟨nx,xZ⟩ (.bool (gE a h d)) ⟨nx,xZ⟩:=by
 refine xP.ZQ ⟨_,func137,by kernel_rfl,by kernel_rfl⟩ λhu=>xP.clean ?_;have hk:=(hu k _ h1).1;have hk2:=(hu k2 _ h2).1;simp only at hk hk2;have y1:¬ nx=k:=by omega
 have y2:¬ nx=k2:=by omega
 have he:=Ye d.seen h;unfold sV.row;unfold gE;refine xI func137 Im λhf=>?_
 by_cases ha:d.ag=a
 ·have ha':(d.ag==a)= true:=by simpa using ha
  rw [decide_eq_true ha,Aj];refine qP h1 h2 y1 y2 ha' ?_;refine .go (cr he) ?_;refine xJ ?_;exact .gone hu (Vz hu _ _) (by simp only [vw])
 ·have ha':(d.ag==a)= false:=by simpa using ha
  rw [decide_eq_false ha,Am];refine qP h1 h2 y1 y2 ha' ?_;exact .gone hu (Vz hu _ _) (by simp only [vw])
theorem WM (p:yT) (l:List sV) (sm:zl l):xA prog 134 [p.d,.sl 3 (pQ l)] (.int .i64 (uZ p l)):=by
 have hD:p.d = .agg [.int .i64 p.F,.sl 1 (us p.init),.sl 1 (us p.xW),.sl 1 (uH p.xO),.sl 1 (uG p.code)]:=rfl;have hll:=sm.len;rw [hD];refine xI func134 Ik λhf=>?_;refine wA vJ ?_
 refine xU (λi:Nat=>[(9,.int .i64 i),(8,.int .i64 l.length),(7,.sl 3 (pQ l)),(2,.ref 0 5 0 0),(1,.sl 3 (pQ l))]) (λ_=>⟨1,[(0,⟨5,[p.cells]⟩)]⟩)
  (λi=>i<=l.length/\∀ j,j<i->LY p l j=0) (λi=>l.length-i) 0 ⟨Ae _,λj hj=>absurd hj (Ag _)⟩ ?_ ?_
 ·unfold yT.cells; (refine yR.same ?_; simp [yS,Fr.get])
 intro i ⟨hi,hz⟩;refine xN mixed ?_;by_cases hil:i<l.length
 case neg=>
  have hd:¬ ((i:Int)<(l.length:Int)):=by omega
  rw [show uZ p l=0 from Ti λj hj=>hz j (by omega)];unfold yT.cells;refine xG hd ?_;exact .dv
 have hd:((i:Int)<(l.length:Int)):=by omega
 have hg:=xm l hil;have hend:∀ e,LY p l i=e->e≠0->uZ p l=e:=λe h1 h2=>by rw [<- h1]; exact WU hi hz hil (by rw [h1]; exact h2)
 have hE:LY p l i=if tu p (l.getD i jz)= true then 3 else if Pi p (l.getD i jz)= true then 3 else if (l.take i).any (gE (l.getD i jz).ag (l.getD i jz).seen)= true then 7 else 0:=rfl;have hsm:=sm.seen _ (xK (d:=jz) hil);generalize l.getD i jz=c at hg hE hsm;unfold sV.row at hg;unfold yT.cells;have bad:tu p c=true->uZ p l=3:=λh=>hend 3 (by rw [hE,if_pos h]) (by decide)
 by_cases c1:c.ag<0
 ·rw [bad (by unfold tu; simp [c1])];refine uC hd vJ hg c1 ?_;exact .dv
 by_cases c2:(p.xW.length:Int)<=c.ag
 ·rw [bad (by unfold tu; simp [c2])];refine oH hd vJ hg c1 xT c2 ?_;exact .dv
 by_cases c3:c.seen.length=0
 ·have c3':((c.seen.length:Int)== 0)= true:=by rw [c3]; rfl
  rw [bad (by unfold tu; simp [c3])];refine uc hd vJ hg c1 xT c2 c3' ?_;exact .dv
 have c3':((c.seen.length:Int)== 0)= false:=by rw [beq_eq_false_iff_ne]; omega
 by_cases c4:c.mv < -1
 ·rw [bad (by unfold tu; simp [c4])];refine lE hd vJ hg c1 xT c2 c3' c4 ?_;exact .dv
 by_cases c5:(p.xO.length:Int)<=c.mv
 ·rw [bad (by unfold tu; simp [c5])];refine qN hd vJ hg c1 xT c2 c3' c4 yF c5 ?_;exact .dv
 have hb:tu p c=false:=by unfold tu; simp [c1,c2,c3,c4,c5]
 rw [hb,if_neg (by simp)] at hE;have hstr:=aQ (σ:=⟨2,[(1,⟨3,[c.row]⟩),(0,⟨5,[p.cells]⟩)]⟩) (g:=194) (caps:=[.ref 0 5 0 0,.ref 1 3 0 0]) (c:=c.seen) (f:=λs=>!decide (s &&& ~~~(p.xW.getD c.ag.toNat 0)= 0#64)) hsm λs _=>Mb rfl rfl ⟨by omega,by omega⟩ s;have hsame:=Zz (σ:=⟨2,[(1,⟨3,[c.row]⟩),(0,⟨5,[p.cells]⟩)]⟩) (g:=196) (caps:=[.ref 1 3 0 0]) (c:=l.take i) (f:=gE c.ag c.seen) (by rw [Ad]; omega) λd _=>P9 rfl d;have hct:pQ (l.take i)= (pQ l).take i:=by simp [pQ,List.map_take]
 rw [hct] at hsame;unfold yT.cells at hstr hsame;unfold sV.row at hstr hsame;have hsE:(c.seen.any λs=>!decide (s &&& ~~~(p.xW.getD c.ag.toNat 0)= 0#64))= Pi p c:=rfl;rw [hsE] at hstr;refine qN hd vJ hg c1 xT c2 c3' c4 yF c5 ?_;refine .go hstr ?_
 cases hs:Pi p c with
 | true=> rw [hs,if_pos rfl] at hE;rw [hend 3 hE (by decide)];refine xJ ?_;exact .dv
 | false=>
  rw [hs,if_neg (by simp)] at hE;refine xJ ?_;refine⟨0,(i:Int),rfl,rfl,by omega,by omega,by rw [vJ]; omega,?_⟩;simp only [θ,Int.toNat_zero,List.drop_zero];refine .go hsame ?_
  cases hm:(l.take i).any (gE c.ag c.seen) with
  | true=> rw [hm,if_pos rfl] at hE;rw [hend 7 hE (by decide)];refine xJ ?_;exact .dv
  | false=>
   rw [hm,if_neg (by simp)] at hE;refine xJ ?_
   refine⟨i+1,⟨by omega,λj hj=>?_⟩,?_,by omega⟩
   ·by_cases e:j=i
    ·rw [e]; exact hE
    ·exact hz j (by omega)
   exact kC [] [0]
open Rs Fm Ru Te Kb
namespace Kb
def cE (l:List sV) (a:Nat) (h:List (BitVec 64)):Int:=iN (gE a h) l 0
def K8 (l:List sV) (a:Nat) (h:List (BitVec 64)):Int:=(l.getD (cE l a h).toNat jz).mv
def mQ (p:yT) (sts:List (List (BitVec 64))) (t a r:Nat):List (BitVec 64):=uQ p.xW (vQ sts r) a t
def Zg (p:yT) (l:List sV) (sts:List (List (BitVec 64))) (t a n:Nat):List Int:=(List.range n).map λr=>K8 l a (mQ p sts t a r)
def rT (p:yT) (l:List sV) (sts:List (List (BitVec 64))) (t:Nat):List (List Int):=(List.range p.xW.length).map λa=>Zg p l sts t a sts.length
def mX (p:yT) (l:List sV) (sts:List (List (BitVec 64))) (t:Nat):Bool:=(List.range p.xW.length).all λa=>(List.range sts.length).all λr=>decide (0<=cE l a (mQ p sts t a r))
theorem ez {α:Type} {f:α->Bool}:∀ {c:List α} {i:Int},0<=i->(iN f c i = -1\/(i<=iN f c i/\iN f c i<i+c.length))
 | [],i,_=>.inl rfl
 | x :: r,i,hi=>by
  unfold iN
  by_cases h:f x=true
  ·rw [if_pos h]; exact .inr ⟨μ _,by simp; omega⟩
  ·rw [if_neg h]
   rcases ez (c:=r) (i:=i+1) (by omega) with h1 | h1
   ·exact .inl h1
   ·exact .inr ⟨by omega,by simp; omega⟩
theorem VU {l:List sV} {a:Nat} {h:List (BitVec 64)} (h0:0<=cE l a h):(cE l a h).toNat<l.length/\cE l a h<l.length:=by
 rcases ez (f:=gE a h) (c:=l) (i:=0) (μ 0) with h1 | h1
 ·unfold cE at h0; omega
 ·unfold cE at h0 ⊢; omega
structure IG (E : Nat -> List (List D)) (A n0 : Nat) (x : QP) : Prop where
 ha:x.a<=A
 hn:n0<=x.nx
 kO:x.kO<x.nx\/x.a=0
 kl:x.ks.length=x.a
 ks:∀ k ∈ x.ks,k<x.nx
 nd:x.ks.Nodup
 no:x.a≠0->x.kO ∉ x.ks
 lF:x.a≠0->fR x.xZ x.kO x.ks ((List.range x.a).map E)
theorem IG.step {E:Nat->List (List D)} {A n0:Nat} {x:QP} (h:IG E A n0 x) (hal:x.a<A) {kI kN n2:Nat} {ob:List (Nat × Ob)} (h1:x.nx<=kI/\kI<n2) (h2:x.nx<=kN/\kN<n2) (hne:kI≠kN)
  (hout:St.look ob kN=some ⟨1,vS (x.ks ++ [kI]) ((List.range x.a).map E ++ [E x.a])⟩) (hnew:St.look ob kI=some ⟨1,E x.a⟩) (hold:∀ k,k<x.nx->(x.a=0\/k≠x.kO)->St.look ob k=St.look x.xZ k) :
  IG E A n0 ⟨x.a+1,n2,kN,x.ks ++ [kI],ob⟩:=by
 have hn:=h.hn
 refine⟨by show x.a+1<=_; omega,by show n0<=n2; omega,.inl h2.2,by simp [h.kl],λk hk=>?_,?_,λ_ hk=>?_,λ_=>?_⟩
 ·show k<n2
  rcases ψ.1 hk with hk | hk
  ·have:=h.ks k hk; omega
  ·rw [ξ.1 hk]; exact h1.2
 ·refine List.nodup_append.2 ⟨h.nd,by simp,λk hk j hj e=>?_⟩;have:=h.ks k hk;rw [ξ.1 hj] at e;omega
 ·have hk:kN ∈ x.ks ++ [kI]:=hk
  rcases ψ.1 hk with hk | hk
  ·have:=h.ks _ hk; omega
  ·exact hne (ξ.1 hk).symm
 ·show fR ob kN (x.ks ++ [kI]) ((List.range (x.a+1)).map E);rw [ο,π];have h0:(List.range x.a).map E ≠ []->x.a≠0:=λc e=>c (by rw [e]; rfl);refine fR.grow (λc=>h.lF (h0 c)) (by rw [h.kl]; simp) hout hnew λk hk=>?_;refine hold k (h.ks k hk) ?_
  by_cases c:x.a=0
  ·exact .inl c
  ·exact .inr λe=>h.no c (e ▸ hk)
end Kb
theorem sJ.Jx {n0:Nat} {σ1 σ':St} {d1 d:D} (h:sJ n0 σ1 d1 σ' d) (b:Bool):sJ n0 σ1 (.wH [d1,.bool b]) σ' (.wH [d,.bool b]):=by
 rcases h with ⟨rfl,rfl⟩ | ⟨ρ,r1,r2,r3,r4,r5⟩
 ·exact .inl ⟨rfl,rfl⟩
 ·refine .inr ⟨ρ,r1,r2,?_,r4,r5⟩;simp only [vw,uK];exact⟨rfl,r3,trivial,trivial⟩
theorem YX {p:yT} {l:List sV} (hll:l.length<=2000000) {sts:List (List (BitVec 64))} {t:Nat} (hA:1<=p.xW.length/\p.xW.length<=4) (hR:1<=sts.length/\sts.length<=16) (hl:∀ st ∈ sts,t<st.length) (ht:t<=1000) {d:D} {σ':St}
  (hyes:mX p l sts t=true->d = .wH [.yD 0 1 p.xW.length,.bool true]/\σ'=⟨1+p.xW.length,lD ((rT p l sts t).map (rows .i64))⟩) (hno:mX p l sts t=false->d = .wH [.xL,.bool false]/\σ'=jN) :
  xP prog 84 [nC p sts,.sl 3 (pQ l),.int .i64 t] jN d σ':=by
 have hh:∀ a r,a<p.xW.length->r<sts.length->xA prog 75 [nC p sts,.int .i64 a,.int .i64 r,.int .i64 t] (.sl 1 (us (mQ p sts t a r))):=λa r ha hr=> rV (iP p ha hr (hl _ (xK (d:=[]) hr)) ht)
 have hfalse:∀ a r,a<p.xW.length->r<sts.length->cE l a (mQ p sts t a r)<0->mX p l sts t=false:=λa r ha hr h=>by unfold mX;rw [Ac];refine⟨a,ν.2 ha,?_⟩;rw [Bool.not_eq_true,Ac];exact⟨r,ν.2 hr,by simpa using h⟩
 unfold nC bn at *;refine xI func84 Fw λhf=>?_;refine xG xT ?_
 refine xU (λx:QP=>[(20,.int .i64 x.a),(19,.int .i64 p.xW.length),(8,wI x.kO x.a),(2,.int .i64 t),(1,.sl 3 (pQ l)),(0,.ptr [.int .i64 p.F,.sl 1 (us p.init),.sl 1 (us p.xW),.sl 1 (uH p.xO),.sl 1 (uG p.code),.sl 1 (rr sts)])]) (λx=>⟨x.nx,x.xZ⟩)
  (λx=>IG (λa=>rows .i64 (Zg p l sts t a sts.length)) p.xW.length 0 x/\∀ a r,a<x.a->r<sts.length->0<=cE l a (mQ p sts t a r)) (λx=>p.xW.length-x.a) ⟨0,0,0,[],[]⟩
  ⟨⟨Ae _,Ae _,.inr rfl,rfl,by simp,.nil,λh=>absurd rfl h,λh=>absurd rfl h⟩,λa r ha=>absurd ha (Ag _)⟩ ?_ ?_
 ·(refine yR.same ?_; simp [yS,Fr.get,wI])
 rintro ⟨a,nx,kO,ks,xZ⟩ ⟨hI,hpos⟩;obtain⟨ha,n0,hkO,hkl,hks,hnd,hno',hnst⟩:=id hI;simp only at ha n0 hkO hkl hks hnd hno' hnst hpos;refine xN mixed ?_;by_cases hal:a<p.xW.length
 case neg=>
  have hd:¬ ((a:Int)<(p.xW.length:Int)):=by omega
  obtain rfl:a=p.xW.length:=by omega
  have ha0:p.xW.length≠0:=by omega
  have hB:mX p l sts t=true:=by unfold mX;rw [υ];intro a ha;rw [υ];intro r hr;exact decide_eq_true (hpos a r (ν.1 ha) (ν.1 hr))
  obtain⟨rfl,rfl⟩:=hyes hB;unfold wI;rw [if_neg ha0];refine xG hd ?_;have hn:=hnst ha0;rw [show (List.range p.xW.length).map (λa=>rows .i64 (Zg p l sts t a sts.length))= (rT p l sts t).map (rows .i64) by simp only [rT,List.map_map]; rfl] at hn;have hl2:((rT p l sts t).map (rows .i64)).length=p.xW.length:=by simp [rT]
  have hr:=sJ.lF (nx:=nx) hn hl2.symm hnd (hno' ha0) λe he r hr=>(nW e he r hr).2;rw [hl2] at hr;exact sJ.Jx hr true
 have hd:((a:Int)<(p.xW.length:Int)):=by omega
 have hown:(Zg p l sts t a sts.length).length=sts.length:=by simp [Zg]
 have howg:∀ r,r<sts.length->(Zg p l sts t a sts.length).getD r 0=K8 l a (mQ p sts t a r):=λr hr=>by simp [Zg,List.getD,hr]
 have hstep:=λkI kN n2 ob=>@IG.step (λa=>rows .i64 (Zg p l sts t a sts.length)) p.xW.length 0 ⟨a,nx,kO,ks,xZ⟩ hI hal kI kN n2 ob;simp only at hstep;have hha:=λr hr=>hh a r hal hr;have hfa:=λr hr=>hfalse a r hal hr;generalize Zg p l sts t a sts.length=own at *;refine nQ hd yZ ?_
 refine xU (λx:OP=>[(28,.int .i64 x.j),(27,.int .i64 sts.length),(20,.int .i64 a),(19,.int .i64 p.xW.length),(10,wI x.kW x.j),(9,.ref nx 1 0 0),(8,wI kO a),(2,.int .i64 t),(1,.sl 3 (pQ l)),(0,.ptr [.int .i64 p.F,.sl 1 (us p.init),.sl 1 (us p.xW),.sl 1 (uH p.xO),.sl 1 (uG p.code),.sl 1 (rr sts)])]) (λx=>⟨x.m,x.ob⟩)
  (λx=>IO ((nx,⟨1,[[.int .i64 a]]⟩) :: xZ) (nx+1) own x/\∀ r,r<x.j->0<=cE l a (mQ p sts t a r)) (λx=>sts.length-x.j) ⟨0,nx+1,0,(nx,⟨1,[[.int .i64 a]]⟩) :: xZ⟩
  ⟨⟨Ae _,Af _,λh=>absurd rfl h,λ_ _=>rfl⟩,λr hr=>absurd hr (Ag _)⟩ ?_ ?_
 ·(refine yR.same ?_; simp only [yS,Fr.get,simprocAttr,-ZA,zS,show wI 0 0=D.xL from rfl])
  all_goals rfl
 rintro ⟨r,m,kW,ob⟩ ⟨⟨hr,hm,hkW,hold⟩,hpr⟩;simp only at hr hm hkW hold hpr;have gx:St.look ob nx=some ⟨1,[[.int .i64 a]]⟩:=by rw [hold nx (by omega),xX,if_pos rfl]
 have hold2:∀ k,k<nx->St.look ob k=St.look xZ k:=λk hk=>by rw [hold k (by omega),xX,if_neg (by omega)]
 refine xN mixed ?_;by_cases hrl:r<sts.length
 case neg=>
  have hd2:¬ ((r:Int)<(sts.length:Int)):=by omega
  obtain rfl:r=sts.length:=by omega
  have hj0:sts.length≠0:=by omega
  obtain⟨w1,w2,w3⟩:=hkW hj0;rw [Aa (by omega)] at w3;rw [show wI kW sts.length = .yD kW 1 sts.length by unfold wI; rw [if_neg hj0]]
  have hpos2:∀ a' r,a'<a+1->r<sts.length->0<=cE l a' (mQ p sts t a' r):=λa' r ha' hr'=>by
   by_cases e:a'=a
   ·subst e; exact hpr r hr'
   ·exact hpos a' r (by omega) hr'
  by_cases ha0:a=0
  ·subst ha0;obtain rfl:ks = []:=List.eq_nil_of_length_eq_zero hkl;rw [show wI kO 0=D.xL from rfl];refine wA hd2 ?_
   refine⟨⟨0+1,m+1+1,m+1,[] ++ [kW],(m+1,⟨1,[[.yD kW 1 sts.length]]⟩) :: (m,⟨1,[[.yD kW 1 sts.length]]⟩) :: ob⟩,⟨hstep kW (m+1) (m+1+1) _ ⟨by omega,by omega⟩ ⟨by omega,by omega⟩ (by omega) ?_ ?_ ?_,hpos2⟩,?_,by show p.xW.length-(0+1)<_; omega⟩
   ·rw [xX,if_pos rfl];simp [vS,yV,hown]
   ·rw [xX,if_neg (by omega),xX,if_neg (by omega)];exact w3
   ·intro k hk _;rw [xX,if_neg (by omega),xX,if_neg (by omega)];exact hold2 k hk
   ·rw [show wI (m+1) (0+1)= .yD (m+1) 1 1 from rfl];exact yH
  ·have hkO2:kO<nx:=hkO.resolve_right ha0;have hn:=hnst ha0;have ho:=hn.out;have ho2:=(hold2 kO hkO2).trans ho;have q2:¬ (m=kO):=by omega
   have hnl:=uY hn.len;rw [ω,τ] at hnl;have htk:(vS ks ((List.range a).map λa=>rows .i64 (Zg p l sts t a sts.length))).take a=vS ks ((List.range a).map λa=>rows .i64 (Zg p l sts t a sts.length)):=Aa (by omega);have hsn:=iT hn.len kW (rows .i64 own);rw [yV,hown] at hsn;rw [show wI kO a = .yD kO 1 a by unfold wI; rw [if_neg ha0]];refine qP hd2 q2 ho2 hnl htk ?_
   refine⟨⟨a+1,m+1+1,m+1,ks ++ [kW],(m+1,⟨1,vS ks ((List.range a).map λa=>rows .i64 (Zg p l sts t a sts.length))++ [[.yD kW 1 sts.length]]⟩) :: (m,⟨1,[[.yD kW 1 sts.length]]⟩) :: yO ob kO⟩,⟨hstep kW (m+1) (m+1+1) _ ⟨by omega,by omega⟩ ⟨by omega,by omega⟩ (by omega) ?_ ?_ ?_,hpos2⟩,?_,by show p.xW.length-(a+1)<_; omega⟩
   ·rw [xX,if_pos rfl,hsn]
   ·rw [xX,if_neg (by omega),xX,if_neg (by omega),xE,if_neg (by omega)];exact w3
   ·intro k hk hk2;rw [xX,if_neg (by omega),xX,if_neg (by omega),xE,if_neg (λe=>(hk2.resolve_left ha0) e.symm)];exact hold2 k hk
   ·rw [show wI (m+1) (a+1)= .yD (m+1) 1 (a+1) by unfold wI; rw [if_neg (by omega)]];exact yH
 have hd2:((r:Int)<(sts.length:Int)):=by omega
 have h75:=hha r hrl;have hfr:=hfa r hrl;have hwg:=howg r hrl;have htk:=yC (d:=0) (show r<own.length by omega);rw [hwg] at htk
 have hpr2:0<=cE l a (mQ p sts t a r)->∀ r',r'<r+1->0<=cE l a (mQ p sts t a r'):=λh r' hr'=>by
  by_cases e:r'=r
  ·subst e; exact h
  ·exact hpr r' (by omega)
 have hmvE:K8 l a (mQ p sts t a r)= (l.getD (cE l a (mQ p sts t a r)).toNat jz).mv:=rfl;have hix:=λh0=>@VU l a (mQ p sts t a r) h0;have q1:¬ (m=nx):=by omega
 have hidx:=Yq (σ:=⟨m+1,(m,⟨1,[[.sl 1 (us (mQ p sts t a r))]]⟩) :: ob⟩) (g:=137) (caps:=[.ref nx 1 0 0,.ref m 1 0 0]) (c:=l) (f:=gE a (mQ p sts t a r)) hll
  λd _=>Tc (by rw [xX,if_neg q1]; exact gx) (by rw [xX,if_pos rfl]) d
 rw [show iN (gE a (mQ p sts t a r)) l 0=cE l a (mQ p sts t a r) from rfl] at hidx;generalize cE l a (mQ p sts t a r)= ix at *;generalize mQ p sts t a r=h at *
 by_cases hix0:ix<0
 ·obtain⟨rfl,rfl⟩:=hno (hfr hix0);refine nQ hd2 gx ?_;refine .go (cr h75) ?_;refine wA q1 ?_;refine .go hidx ?_;refine xG hix0 ?_;exact .drop (by simp) (by simp [vw,uK])
 obtain⟨x1,x2⟩:=hix (by omega);have hgc:=xm l x1;have hmv2:=hmvE;unfold sV.row at hgc;rw [<- hmv2] at hgc;have hixp:0<=ix:=by omega
 generalize K8 l a h=z at *;generalize l.getD ix.toNat jz=c at *
 by_cases hj0:r=0
 ·subst hj0;have hd20:(0:Int)<(sts.length:Int):=by omega
  rw [show wI kW 0=D.xL from rfl];refine nQ hd20 gx ?_;refine .go (cr h75) ?_;refine wA q1 ?_;refine .go hidx ?_;refine uC hix0 vJ x2 hgc ?_
  refine⟨⟨0+1,m+1+1,m+1,(m+1,⟨1,[[.int .i64 z]]⟩) :: (m,⟨1,[[.sl 1 (us h)]]⟩) :: ob⟩,⟨⟨by show 0+1<=_; omega,by show nx+1<=m+1+1; omega,λ_=>⟨by show nx+1<=m+1; omega,by show m+1<m+1+1; omega,?_⟩,λk hk=>?_⟩,hpr2 hixp⟩,?_,by show sts.length-(0+1)<_; omega⟩
  ·show St.look ((m+1,_) :: _) (m+1)= _;rw [xX,if_pos rfl];show _=some (Ob.mk 1 (rows .i64 (own.take (0+1))));rw [htk]; rfl
  ·show St.look ((m+1,_) :: (m,_) :: ob) k=_;rw [xX,if_neg (by omega),xX,if_neg (by omega)];exact hold k hk
  ·rw [show wI (m+1) (0+1)= .yD (m+1) 1 1 from rfl];exact yH
 ·obtain⟨w1,w2,w3⟩:=hkW hj0;have q2:¬ (m=kW):=by omega
  have q3:¬ (m+1=kW):=by omega
  have hol:(own.take r).length=r:=by rw [Ad]; omega
  have htt:(own.take r).take r=own.take r:=by rw [List.take_take,Nat.min_self]
  rw [show wI kW r = .yD kW 1 r by unfold wI; rw [if_neg hj0]];refine nQ hd2 gx ?_;refine .go (cr h75) ?_;refine wA q1 ?_;refine .go hidx ?_;refine NW hix0 vJ x2 hgc q1 q2 q3 w3 yV hol htt ?_
  refine⟨⟨r+1,m+1+1,m+1,(m+1,⟨1,rows .i64 (own.take r ++ [z])⟩) :: (m,⟨1,[[.sl 1 (us h)]]⟩) :: yO ob kW⟩,⟨⟨by show r+1<=_; omega,by show nx+1<=m+1+1; omega,λ_=>⟨by show nx+1<=m+1; omega,by show m+1<m+1+1; omega,?_⟩,λk hk=>?_⟩,hpr2 hixp⟩,?_,by show sts.length-(r+1)<_; omega⟩
  ·show St.look ((m+1,_) :: _) (m+1)= _;rw [xX,if_pos rfl];show _=some (Ob.mk 1 (rows .i64 (own.take (r+1))));rw [htk]
  ·show St.look ((m+1,_) :: (m,_) :: yO ob kW) k=_;rw [xX,if_neg (by omega),xX,if_neg (by omega),xE,if_neg (by omega)];exact hold k hk
  ·rw [show wI (m+1) (r+1)= .yD (m+1) 1 (r+1) by unfold wI; rw [if_neg (by omega)]];exact yH
open Rs Fm Ru Te Kb
namespace Kb
def fW (A:Nat) (s:BitVec 64) (f:List Nd) (i:Nat):Bool:=(sY (vF A s) A 1 f f.length).getD i (λ_=>false) (0,0)
section
variable {φ : Nat -> Bool} {n k : Nat}
end
theorem KU {op:Int} (h:(xY op).1.fr.toNat=0) (h2:(xY op).2=true):op=1\/op=2\/op=3\/op=4\/op=5\/op=6\/op=7\/op=8:=by
 rcases rY op with rfl | rfl | rfl | rfl | rfl | rfl | rfl | rfl | rfl | rfl | rfl | rfl | rfl | rfl | rfl | rfl | rfl | rfl | rfl | rfl | rfl | h3 | h3
 rotate_right 2
 ·rw [vN (.inl h3)] at h2; cases h2
 ·rw [vN (.inr h3)] at h2; cases h2
 all_goals first | omega | (exact absurd h (by decide))
theorem Oe {A:Nat} {s:BitVec 64} {f:List Nd} (hv:vR f) {k:Nat} (hk:k<f.length) {p:Nd} (hp:f.getD k vW=p) (h8:p.op=1\/p.op=2\/p.op=3\/p.op=4\/p.op=5\/p.op=6\/p.op=7\/p.op=8) :
  fW A s f k=Sn (vF A s) p (λ_=>fW A s f p.x.toNat) (λ_=>fW A s f p.y.toNat) (0,0):=by
 obtain⟨ox,oy,_,_⟩:=tO (hv k hk)
 have hn:fW A s f k=gA (vF A s) A 1 p ((sY (vF A s) A 1 f k).getD p.x.toNat λ_=>false) ((sY (vF A s) A 1 f k).getD p.y.toNat λ_=>false) (0,0):=by show (sY (vF A s) A 1 f f.length).getD k (λ_=>false) (0,0)= _;rw [ig hk,hp]
 rw [hp] at ox oy
 have oJ:∀ j,j<k->(sY (vF A s) A 1 f k).getD j (λ_=>false) (0,0)= fW A s f j:=λj hj=>by obtain⟨m,hm⟩:=Ai (show k<=f.length by omega);unfold fW;rw [hm,iV m hj]
 rw [hn];obtain⟨op,i,e,g,x,y⟩:=p;simp only at ox oy h8 ⊢
 rcases h8 with rfl | rfl | rfl | rfl | rfl | rfl | rfl | rfl
 ·rfl
 ·rfl
 ·rfl
 ·show (!(sY (vF A s) A 1 f k).getD x.toNat (λ_=>false) (0,0))= !fW A s f x.toNat;rw [oJ _ (ox rfl).2]
 ·show ((sY (vF A s) A 1 f k).getD x.toNat (λ_=>false) (0,0)&& (sY (vF A s) A 1 f k).getD y.toNat (λ_=>false) (0,0))= (fW A s f x.toNat&&fW A s f y.toNat);rw [oJ _ (ox rfl).2,oJ _ (oy rfl).2]
 ·show ((sY (vF A s) A 1 f k).getD x.toNat (λ_=>false) (0,0) || (sY (vF A s) A 1 f k).getD y.toNat (λ_=>false) (0,0))= (fW A s f x.toNat || fW A s f y.toNat);rw [oJ _ (ox rfl).2,oJ _ (oy rfl).2]
 ·show (!(sY (vF A s) A 1 f k).getD x.toNat (λ_=>false) (0,0) || (sY (vF A s) A 1 f k).getD y.toNat (λ_=>false) (0,0))= (!fW A s f x.toNat || fW A s f y.toNat);rw [oJ _ (ox rfl).2,oJ _ (oy rfl).2]
 ·show ((sY (vF A s) A 1 f k).getD x.toNat (λ_=>false) (0,0)== (sY (vF A s) A 1 f k).getD y.toNat (λ_=>false) (0,0))= (fW A s f x.toNat==fW A s f y.toNat);rw [oJ _ (ox rfl).2,oJ _ (oy rfl).2]
end Kb
open Rs Fm Ru Te Kb
theorem w4 (n:Nat):xA prog 262 [.int .i64 n] (.int .u64 (ui (wO n))):=by
 refine xI func262 Jh λhf=>?_;unfold wO
 by_cases h:64<=n
 ·have e:(64:Int)<=(n:Int):=by omega
  rw [if_pos h];refine xG e ?_;exact .same
 ·have e:¬ (64:Int)<=(n:Int):=by omega
  rw [if_neg h];refine wA e ?_;exact .same
theorem Qm (x:BitVec 64):x % 2#64=x &&& 1#64:=by refine BitVec.eq_of_toNat_eq ?_;rw [BitVec.toNat_umod,BitVec.toNat_and];exact(Nat.and_one_is_mod x.toNat).symm
theorem P0 (s:BitVec 64) {w:Nat} (hw:w<64):xA prog 277 [.int .u64 (ui s),.int .i64 w] (.bool (s.getLsbD w)):=by
 have h1:((0:Int)<=(w:Int)):=by omega
 have h2:((w:Int)<64):=by omega
 have hb:(s >>> w % 2#64==1#64)= s.getLsbD w:=by rw [Qm,Zs]
 refine xI func277 Jr λhf=>?_;refine sT h1 h2 hb ?_;exact .dv
theorem tf {r:List (BitVec 64)} (hl:r.length<=64) (s:BitVec 64):xA prog 264 [.sl 1 (us r),.int .i64 r.length,.int .u64 (ui s)] (.int .u64 (ui (oF r s))):=by
 refine xI func264 Jj λhf=>?_;refine xJ ?_
 refine xU (λk:Nat=>[(8,.int .i64 k),(7,.int .u64 (ui (lX r s k))),(2,.int .u64 (ui s)),(1,.int .i64 r.length),(0,.sl 1 (us r))]) (λ_=>⟨0,[]⟩) (λk=>k<=r.length) (λk=>r.length-k) 0 (Ae _) ?_ ?_
 ·(refine yR.same ?_; simp [yS,Fr.get])
  rfl
 intro k hk;refine xN mixed ?_
 by_cases h:k<r.length
 ·have hd:((k:Int)<(r.length:Int)):=by omega
  have hg:=zX r h;have hs:lX r s (k+1)= if (r.getD k 0 &&& ~~~s==0#64)= true then lX r s k ||| 1#64 <<< k else lX r s k:=rfl
  cases e:(r.getD k 0 &&& ~~~s==0#64) with
  | true=> rw [e,if_pos rfl] at hs;refine uC hd xT hg e ?_;refine⟨k+1,by omega,?_,by omega⟩;rw [hs];exact yH
  | false=> rw [e,if_neg (by simp)] at hs;refine uC hd xT hg e ?_;refine⟨k+1,by omega,?_,by omega⟩;rw [hs];exact yH
 ·have hd:¬ ((k:Int)<(r.length:Int)):=by omega
  have hk':k=r.length:=by omega
  subst hk';refine xG hd ?_;exact .same
namespace Kb
def cB (op:Int) (x y all:BitVec 64):BitVec 64:= if op=1 then all else if op=4 then all &&& ~~~x else if op=5 then x &&& y else if op=6 then x ||| y else if op=7 then all &&& ~~~x ||| y else if op=8 then all &&& ~~~(x ^^^ y) else 0#64
end Kb
theorem YD (op:Int) (h:1<=op/\op<=8) (x y all:BitVec 64):xA prog 263 [.int .i64 op,.int .u64 (ui x),.int .u64 (ui y),.int .u64 (ui all)] (.int .u64 (ui (cB op x y all))):=by
 have hc:op=1\/op=2\/op=3\/op=4\/op=5\/op=6\/op=7\/op=8:=by omega
 rcases hc with rfl | rfl | rfl | rfl | rfl | rfl | rfl | rfl
 all_goals
  refine xI func263 Ji λhf=>?_;refine xJ ?_;exact .drop (by simp) (by simp [vw,cB])
open Rs Fm Ru Te Kb
theorem nh {l:List (BitVec 64)} (hl:l.length<=1000) {W:Nat} (h:∀ x ∈ l,iM W x=false):xA prog 268 [.sl 1 (us l),.int .i64 W] (.bool false):=by
 have ha:=w4 W;refine xI func268 Jn λhf=>?_;refine xJ ?_
 refine xU (λk:Nat=>[(5,.int .i64 k),(1,.int .i64 W),(0,.sl 1 (us l))]) (λ_=>⟨0,[]⟩) (λk=>k<=l.length) (λk=>l.length-k) 0 (Ae _) ?_ ?_
 ·exact wE
 intro k hk;refine xN mixed ?_
 by_cases hkl:k<l.length
 ·have hd:((k:Int)<(l.length:Int)):=by omega
  have hg:=zX l hkl;have ho:=h _ (xK (d:=0) hkl);generalize l.getD k 0=x at hg ho
  have e:(x &&& ~~~wO W==0#64)= true:=by unfold iM at ho;simpa using ho
  have e2:(x &&& ~~~wO W != 0#64)= false:=by simpa using e
  refine sT hd xT hg ?_;refine .go (cr ha) ?_;refine nQ e2 e ?_;refine⟨k+1,by omega,?_,by omega⟩;exact yH
 ·have hd:¬ ((k:Int)<(l.length:Int)):=by omega
  refine yM hd xT ?_;exact .dv
theorem gl {m:vY} {W:Nat} (ok:qJ m W):xA prog 241 [m.d] (.int .i64 0):=by
 obtain⟨W1,W64⟩:=ok.hW;have h1:¬ (W:Int)<1:=by omega
 have h2:¬ (64:Int)<(W:Int):=by omega
 have h3:¬ (4:Int)<(m.R.length:Int):=by have:=ok.hR; omega
 have h4:¬ (8:Int)<(m.V.length:Int):=by have:=ok.hV; omega
 have hR:=ok.hR;have hv:=nh (W:=W) (by have:=ok.hV; omega) ok.val;have hr:=λr (hr:r ∈ m.R)=>nh (W:=W) (by have:=ok.row r hr; omega) (ok.rel r hr);have hrow:=ok.row;have hw:=ok.w;unfold vY.d;rw [hw];generalize m.R=R at *;generalize m.V=V at *;refine xI func241 Ja λhf=>?_;refine oH h1 h2 yZ xT h3 h4 ?_
 refine xU (λk:Nat=>[(3,.int .i64 k),(1,.ref 0 3 0 0)]) (λ_=>⟨1,[(0,⟨3,[[.int .i64 W,.sl 1 (us V),.sl 1 (rr R)]]⟩)]⟩) (λk=>k<=R.length) (λk=>R.length-k) 0 (Ae _) ?_ ?_
 ·exact wE
 intro k hk;refine xN mixed ?_
 by_cases hkl:k<R.length
 ·have hd:((k:Int)<(R.length:Int)):=by omega
  have hg:=tY R hkl;have hrl:=hrow _ (xK (d:=[]) hkl);generalize R.getD k []=r at hg hrl;have e:((r.length:Int) != (W:Int))= false:=by rw [hrl]; simp
  refine qP hd yZ xT hg e ?_;refine⟨k+1,by omega,?_,by omega⟩;exact yH
 have hd:¬ ((k:Int)<(R.length:Int)):=by omega
 clear hk hkl;refine nQ hd yZ ?_;refine .go (cr hv) ?_;refine xJ ?_
 refine xU (λk:Nat=>[(4,.int .i64 k),(1,.ref 0 3 0 0)]) (λ_=>⟨1,[(0,⟨3,[[.int .i64 W,.sl 1 (us V),.sl 1 (rr R)]]⟩)]⟩) (λk=>k<=R.length) (λk=>R.length-k) 0 (Ae _) ?_ ?_
 ·exact wE
 clear hd;intro k hk;refine xN mixed ?_
 by_cases hkl:k<R.length
 ·have hd:((k:Int)<(R.length:Int)):=by omega
  have hg:=tY R hkl;have hr:=hr _ (xK (d:=[]) hkl);generalize R.getD k []=r at hg hr;refine uC hd yZ xT hg ?_;refine .go (cr hr) ?_;refine zC ?_;refine⟨k+1,by omega,?_,by omega⟩;exact yH
 ·have hd:¬ ((k:Int)<(R.length:Int)):=by omega
  refine yM hd yZ ?_;exact .dv
open Rs Fm Ru Te Kb
namespace Kb
def mY (R:List (List (BitVec 64))) (G:Nat) (meet:Bool) (W w:Nat):Nat->BitVec 64
 | 0=>if meet=true then wO W else 0#64
 | k+1=>if G.testBit k=true then Ps meet (mY R G meet W w k) ((R.getD k []).getD w 0) else mY R G meet W w k
theorem YQ (R:List (List (BitVec 64))) (G:Nat) (meet:Bool) {W:Nat} (hW:W<=64) (w:Nat) {v:Nat} (hv:v<64):∀ k,(mY R G meet W w k).getLsbD v=(cA R G meet k w v&&(!meet || decide (v<W)))
 | 0=>by
  unfold mY cA
  cases meet
  ·simp
  ·simp [uL hW hv]
 | k+1=>by
  unfold mY;rw [cJ];have ih:=YQ R G meet hW w hv k
  cases G.testBit k
  ·simp only [An,↓reduceIte]; exact ih
  ·simp only [↓reduceIte];rw [Ve,ih]
   cases meet
   ·simp
   ·simp only [↓reduceIte,Bool.not_true,Bool.false_or];cases cA R G true k w v <;> cases ((R.getD k []).getD w 0).getLsbD v <;> simp
theorem Tp {m:vY} {W:Nat} (ok:qJ m W) {g:Nat} (hg:1<=g/\g<2 ^ m.R.length) (meet:Bool):(List.range W).map (λw=>mY m.R g meet W w m.R.length)= zZ m g meet:=by
 obtain⟨⟨a,ha,hb⟩,hl,hv⟩:=qY ok hg meet;have hW:=ok.hW;refine List.ext_getElem (by simp [hl]) λw h1 h2=>?_;simp only [ω,τ] at h1;have e:(zZ m g meet)[w]=(zZ m g meet).getD w 0:=by simp [List.getD,h2]
 rw [e,List.getElem_map,List.getElem_range];refine ε λv hv64=>?_;rw [YQ _ _ _ hW.2 _ hv64,hv w h1 v]
 cases hm:meet with
 | false=>simp
 | true=>
  cases hbt:cA m.R g true m.R.length w v with
  | false=>rfl
  | true=>
   have hx:((m.R.getD a []).getD w 0).getLsbD v=true:=by unfold cA at hbt;rw [if_pos rfl,υ] at hbt;have:=hbt a (ν.2 ha);rw [hb] at this;simpa using this
   have hmm:=xK (d:=[]) ha;have:=iB hW.2 (ok.rel _ hmm _ (xK (d:=0) (by rw [ok.row _ hmm]; exact h1))) hx;simp [this]
end Kb
theorem gn {m:vY} {W:Nat} (ok:qJ m W) {g:Nat} (hg:1<=g/\g<2 ^ m.R.length) (meet:Bool):xA prog 274 [m.d,.int .i64 g,.bool meet] (.sl 1 (us (zZ m g meet))):=by
 have hc:=gl ok;have ha:=w4 W;have h4:=ok.hR;obtain⟨W1,W64⟩:=ok.hW;have hsh:=ti (k:=m.R.length) (by omega);have h2:¬ (g:Int)<1:=by omega
 have h3:¬ ((2 ^ m.R.length:Nat):Int)<=(g:Int):=by omega
 have hrow:=ok.row;have hw:=ok.w;have hbt:∀ k,k<m.R.length->(((g / 2 ^ k:Nat):Int).tmod 2==1)= g.testBit k:=λk _=>by rw [W4,aa]
 have hsr:=λk (hk:k<m.R.length)=>jU g k (by omega);have hend:=Tp ok hg meet;refine rV ?_;have hL:(zZ m g meet).length=W:=(qY ok hg meet).2.1;rw [hL];have hne:zZ m g meet ≠ []:=by intro c; rw [c] at hL; simp at hL; omega
 generalize zZ m g meet=out at *;unfold vY.d at hc ⊢;rw [hw] at hc ⊢;generalize m.R=R at *;generalize m.V=V at *;refine xI func274 Jp λhf=>?_;refine zC ?_;refine .go (cr hc) ?_;refine uC h2 h3 hsh yZ ?_
 refine xU (λw:Nat=>[(8,.int .i64 w),(7,xD 1 1 (us ((List.range w).map λw=>mY R g meet W w R.length))),(3,.ref 0 3 0 0),(2,.bool meet),(1,.int .i64 g)])
  (λw=>⟨2,yX 1 1 (us ((List.range w).map λw=>mY R g meet W w R.length))++ [(0,⟨3,[[.int .i64 W,.sl 1 (us V),.sl 1 (rr R)]]⟩)]⟩) (λw=>w<=W) (λw=>W-w) 0 (Ae _) ?_ ?_
 ·(refine sS [] [0] ?_; simp only [wY,zQ,simprocAttr,-ZA,exists_eq_left',ne_eq,zR,χ,Ab,iJ,yA,yB,List.nil_append])
 intro w hk;refine xN mixed ?_
 by_cases hwl:w<W
 ·have hd:((w:Int)<(W:Int)):=by omega
  have hs:(List.range (w+1)).map (λw=>mY R g meet W w R.length)= (List.range w).map (λw=>mY R g meet W w R.length)++ [mY R g meet W w R.length]:=by rw [ο,π]; rfl
  have hl:((List.range w).map λw=>mY R g meet W w R.length).length=w:=by simp
  generalize (List.range w).map (λw=>mY R g meet W w R.length)= acc at hs hl ⊢
  cases meet
  ·refine xG hd ?_
   refine xU (λk:Nat=>[(10,.int .i64 k),(9,.int .u64 (ui (mY R g false W w k))),(8,.int .i64 w),(7,xD 1 1 (us acc)),(3,.ref 0 3 0 0),(2,.bool false),(1,.int .i64 g)])
    (λ_=>⟨2,yX 1 1 (us acc)++ [(0,⟨3,[[.int .i64 W,.sl 1 (us V),.sl 1 (rr R)]]⟩)]⟩) (λk=>k<=R.length) (λk=>R.length-k) 0 (Ae _) ?_ ?_
   ·(refine sS [] [1,0] ?_; simp only [wY,zQ,simprocAttr,-ZA,exists_eq_left',ne_eq,zR,mY,An])
   intro k hk2;refine xN mixed ?_
   by_cases hkl:k<R.length
   ·have hd2:((k:Int)<(R.length:Int)):=by omega
    have hb:=hbt k hkl;have hsk:=hsr k hkl;have hrg:=tY R hkl;have hrl:=hrow _ (xK (d:=[]) hkl);have hu:=vX (k:=k) (by omega);have hss:mY R g false W w (k+1)= if g.testBit k=true then mY R g false W w k ||| (R.getD k []).getD w 0 else mY R g false W w k:=rfl;generalize R.getD k []=r at hrg hrl hss;have hrw:=zX r (show w<r.length by omega);have hd3:((w:Int)<(r.length:Int)):=by omega
    cases hbb:g.testBit k with
    | true=> rw [hbb] at hb;rw [hbb,if_pos rfl] at hss;refine j4 hd2 yZ xT hsk hb hrg hrw hd3 hu ?_;refine⟨k+1,by omega,?_,by omega⟩;rw [hss];exact kC [] [1,0]
    | false=> rw [hbb] at hb;rw [hbb,if_neg (by simp)] at hss;refine j4 hd2 yZ xT hsk hb hrg hrw hd3 hu ?_;refine⟨k+1,by omega,?_,by omega⟩;rw [hss];exact kC [] [1,0]
   have hd2:¬ ((k:Int)<(R.length:Int)):=by omega
   obtain rfl:k=R.length:=by omega
   generalize mY R g false W w R.length=z at *;have hu:=vX (k:=w) (by omega);refine uC hd2 yZ xT hu ?_;refine⟨w+1,by omega,?_,by omega⟩;rw [hs];exact kC [(1,2)] [1,0]
  ·refine xG hd ?_;refine .go (cr ha) ?_;refine xJ ?_
   refine xU (λk:Nat=>[(10,.int .i64 k),(9,.int .u64 (ui (mY R g true W w k))),(8,.int .i64 w),(7,xD 1 1 (us acc)),(3,.ref 0 3 0 0),(2,.bool true),(1,.int .i64 g)])
    (λ_=>⟨2,yX 1 1 (us acc)++ [(0,⟨3,[[.int .i64 W,.sl 1 (us V),.sl 1 (rr R)]]⟩)]⟩) (λk=>k<=R.length) (λk=>R.length-k) 0 (Ae _) ?_ ?_
   ·(refine sS [] [1,0] ?_; simp only [wY,zQ,simprocAttr,-ZA,exists_eq_left',ne_eq,zR,mY,An])
   intro k hk2;refine xN mixed ?_
   by_cases hkl:k<R.length
   ·have hd2:((k:Int)<(R.length:Int)):=by omega
    have hb:=hbt k hkl;have hsk:=hsr k hkl;have hrg:=tY R hkl;have hrl:=hrow _ (xK (d:=[]) hkl);have hu:=vX (k:=k) (by omega);have hss:mY R g true W w (k+1)= if g.testBit k=true then mY R g true W w k &&& (R.getD k []).getD w 0 else mY R g true W w k:=rfl;generalize R.getD k []=r at hrg hrl hss;have hrw:=zX r (show w<r.length by omega);have hd3:((w:Int)<(r.length:Int)):=by omega
    cases hbb:g.testBit k with
    | true=> rw [hbb] at hb;rw [hbb,if_pos rfl] at hss;refine j4 hd2 yZ xT hsk hb hrg hrw hd3 hu ?_;refine⟨k+1,by omega,?_,by omega⟩;rw [hss];exact kC [] [1,0]
    | false=> rw [hbb] at hb;rw [hbb,if_neg (by simp)] at hss;refine j4 hd2 yZ xT hsk hb hrg hrw hd3 hu ?_;refine⟨k+1,by omega,?_,by omega⟩;rw [hss];exact kC [] [1,0]
   have hd2:¬ ((k:Int)<(R.length:Int)):=by omega
   obtain rfl:k=R.length:=by omega
   generalize mY R g true W w R.length=z at *;have hu:=vX (k:=w) (by omega);refine uC hd2 yZ xT hu ?_;refine⟨w+1,by omega,?_,by omega⟩;rw [hs];exact kC [(1,2)] [1,0]
 ·have hd:¬ ((w:Int)<(W:Int)):=by omega
  obtain rfl:w=W:=by omega
  rw [hend,eU (by intro c; apply hne; cases out with | nil=>rfl | cons x r=>cases c),lO (by intro c; apply hne; cases out with | nil=>rfl | cons x r=>cases c),xT,hL];refine xG hd ?_
  (refine sJ.W7 [(0,1)] [0] (by simp) (by simp) (by decide) ?_; simp only [wY,zQ,simprocAttr,-ZA,exists_eq_left',ne_eq,zR])
theorem gm {m:vY} {W:Nat} (ok:qJ m W) {g:Nat} (hg:1<=g/\g<2 ^ m.R.length):xA prog 265 [m.d,.int .i64 g] (.sl 1 (us (zZ m g false))):=by have h:=gn ok hg false;unfold vY.d at h ⊢;refine xI func265 Jk λhf=>?_;refine zC ?_;refine .go (xP.yP h (by simp [D.xR,D.xF,vD])) ?_;refine xJ ?_;exact .drop (by simp) (by simp [vw,yE])
theorem RE {m:vY} {W:Nat} (ok:qJ m W) {g:Nat} (hg:1<=g/\g<2 ^ m.R.length):xA prog 266 [m.d,.int .i64 g] (.sl 1 (us (zZ m g true))):=by have h:=gn ok hg true;unfold vY.d at h ⊢;refine xI func266 Jl λhf=>?_;refine zC ?_;refine .go (xP.yP h (by simp [D.xR,D.xF,vD])) ?_;refine xJ ?_;exact .drop (by simp) (by simp [vw,yE])
open Rs Fm Ru Te Kb
namespace Kb
def pC (r:List (BitVec 64)) (c s:BitVec 64):Nat->BitVec 64
 | 0=>s
 | w+1=>if (pC r c s w).getLsbD w=true then pC r c s w ||| r.getD w 0 &&& c else pC r c s w
def tN (r:List (BitVec 64)) (c s:BitVec 64):Nat->BitVec 64
 | 0=>s
 | i+1=>pC r c (tN r c s i) r.length
def jI (r:List (BitVec 64)) (c:BitVec 64) (w:Nat):BitVec 64:=tN r c (r.getD w 0 &&& c) r.length
def k9 (a b:BitVec 64):Prop:=∀ v:Nat,a.getLsbD v=true->b.getLsbD v=true
section
variable {r : List (BitVec 64)} {c s t : BitVec 64}
theorem MX (h1:k9 s t) (h2:k9 t s):s=t:=by refine ε λv _=>?_;rw [Al];exact⟨h1 v,h2 v⟩
theorem sr (r:List (BitVec 64)) (c s:BitVec 64):∀ w,k9 s (pC r c s w)
 | 0=>λ_ h=>h
 | w+1=>λv h=>by
  have ih:=sr r c s w v h;unfold pC
  split
  ·rw [ζ,ih,Bool.true_or]
  ·exact ih
theorem Vg (hc:∀ u,u<r.length->t.getLsbD u=true->k9 (r.getD u 0 &&& c) t) (hs:k9 s t):∀ w,w<=r.length->k9 (pC r c s w) t
 | 0,_=>hs
 | w+1,hw=>λv h=>by
  have ih:=Vg hc hs w (by omega);unfold pC at h
  split at h
  ·rename_i hb;rw [ζ,Bool.or_eq_true] at h
   rcases h with h | h
   ·exact ih v h
   ·exact hc w (by omega) (ih w hb) v h
  ·exact ih v h
theorem XN (r:List (BitVec 64)) (c s:BitVec 64):∀ w u,u<w->s.getLsbD u=true->k9 (r.getD u 0 &&& c) (pC r c s w)
 | 0,u,h,_=>by omega
 | w+1,u,h,hs=>λv hv=>by
  unfold pC
  by_cases e:u=w
  ·subst e;rw [if_pos (sr r c s u u hs),ζ,hv,Bool.or_true]
  ·have ih:=XN r c s w u (by omega) hs v hv
   split
   ·rw [ζ,ih,Bool.true_or]
   ·exact ih
theorem su (hc:∀ u,u<r.length->t.getLsbD u=true->k9 (r.getD u 0 &&& c) t) (hs:k9 s t):∀ i,k9 (tN r c s i) t
 | 0=>hs
 | i+1=>Vg hc (su hc hs i) _ (Af _)
def jn (s:BitVec 64):Nat->Nat
 | 0=>0
 | k+1=>jn s k+(s.getLsbD k).toNat
theorem SL (s:BitVec 64):∀ k,jn s k<=k
 | 0=>Af _
 | k+1=>by have:=SL s k;unfold jn;cases s.getLsbD k <;> simp <;> omega
theorem Yb (h:k9 s t):∀ k,jn s k<=jn t k
 | 0=>Af _
 | k+1=>by
  have:=Yb h k;unfold jn
  cases e:s.getLsbD k with
  | false=>simp; omega
  | true=>rw [h k e]; simp; omega
theorem SM (h:k9 s t) {v:Nat} (h1:s.getLsbD v=false) (h2:t.getLsbD v=true):∀ k,v<k->jn s k<jn t k
 | 0,hv=>by omega
 | k+1,hv=>by
  unfold jn
  by_cases e:v=k
  ·subst e;have:=Yb h v;rw [h1,h2]; simp; omega
  ·have ih:=SM h h1 h2 k (by omega)
   cases e2:s.getLsbD k with
   | false=>simp; omega
   | true=>rw [h k e2]; simp; omega
theorem wu {n:Nat} (h:tN r c s (n+1)= tN r c s n):∀ m,tN r c s (n+m)= tN r c s n
 | 0=>rfl
 | m+1=>by show pC r c (tN r c s (n+m)) r.length=_;rw [wu h m];exact h
theorem R8 (ok:aA r) (hs:∀ v:Nat,s.getLsbD v=true->v<r.length):tN r c s (r.length+1)= tN r c s r.length:=by
 have hall:∀ i,∀ v:Nat,(tN r c s i).getLsbD v=true->v<r.length:=λi=>by
  have h:=su (r:=r) (c:=c) (s:=s) (t:=wO r.length) (λu hu _ v hv=>?_) (λv hv=>?_) i
  ·intro v hv;have h1:=h v hv;have h64:v<64:=Decidable.byContradiction λhh=>by rw [δ _ _ (by omega)] at h1; cases h1
   rw [uL ok.len h64] at h1;exact of_decide_eq_true h1
  ·have h64:v<64:=Decidable.byContradiction λhh=>by rw [δ _ _ (by omega)] at hv; cases hv
   rw [γ,Ak] at hv;rw [uL ok.len h64];exact decide_eq_true (iB ok.len (ok.ins _ (xK (d:=0) hu)) hv.1)
  ·have:=ok.len;rw [uL ok.len (by have:=hs v hv; omega)];exact decide_eq_true (hs v hv)
 refine Decidable.byContradiction λhne=>?_
 have key:∀ i,i<=r.length+1->i<=jn (tN r c s i) r.length:=by
  intro i
  induction i with
  | zero=>intro _; exact Ae _
  | succ i ih=>
   intro hi;have h1:=ih (by omega);have hup:k9 (tN r c s i) (tN r c s (i+1)):=sr _ _ _ _
   have hx:∃ v:Nat,(tN r c s i).getLsbD v=false/\(tN r c s (i+1)).getLsbD v=true:=by
    refine Classical.byContradiction λhno=>?_
    have e:tN r c s (i+1)= tN r c s i:=(MX hup λv hv=>by
     cases hb:(tN r c s i).getLsbD v with
     | true=>rfl
     | false=>exact absurd ⟨v,hb,hv⟩ hno).symm
    apply hne;obtain⟨m,hm⟩:=Ai (show i<=r.length by omega);rw [hm,wu e,show i+m+1=i+(m+1) by omega,wu e]
   obtain⟨v,hv1,hv2⟩:=hx;have:=SM hup hv1 hv2 r.length (hall _ v hv2);omega
 have:=key _ (Af _);have:=SL (tN r c s (r.length+1)) r.length;omega
theorem YA (ok:aA r) (hs:∀ v:Nat,s.getLsbD v=true->v<r.length):∀ u,u<r.length->(tN r c s r.length).getLsbD u=true->k9 (r.getD u 0 &&& c) (tN r c s r.length):=λu hu h=>by
 have h1:=XN r c _ r.length u hu h;have e:=R8 (c:=c) ok hs;rw [show tN r c s (r.length+1)= pC r c (tN r c s r.length) r.length from rfl] at e
 rwa [e] at h1
theorem Vh (r:List (BitVec 64)) (c s:BitVec 64):∀ i,k9 s (tN r c s i)
 | 0=>λ_ h=>h
 | i+1=>λv h=>sr _ _ _ _ v (Vh r c s i v h)
theorem O4 (ok:aA r) {N:Nat} (hN:tA r (wO r.length) c s (N+1)= tA r (wO r.length) c s N):oF ((List.range r.length).map (jI r c)) s=tA r (wO r.length) c s N:=by
 have hl:=ok.len;have hg:∀ w,w<r.length->((List.range r.length).map (jI r c)).getD w 0=jI r c w:=λw hw=>by simp [List.getD,hw]
 have hst:∀ w,w<r.length->∀ v:Nat,(r.getD w 0 &&& c).getLsbD v=true->v<r.length:=λw hw v hv=>by rw [γ,Ak] at hv;exact iB hl (ok.ins _ (xK (d:=0) hw)) hv.1
 have hbit:∀ n w,w<r.length->((tA r (wO r.length) c s (n+1)).getLsbD w=true ↔ ∀ v,v<64->(r.getD w 0).getLsbD v=true->(c.getLsbD v=false\/(s.getLsbD v=true/\(tA r (wO r.length) c s n).getLsbD v=true))):=λn w hw=>by show (lX r (wO r.length &&& ~~~c ||| s &&& tA r (wO r.length) c s n) r.length).getLsbD w=true ↔ _;rw [lN _ _ _ _ hl,decide_eq_true hw,Aj,eE];refine forall_congr' λv=>forall_congr' λhv=>forall_congr' λhr=>?_;have hvl:v<r.length:=iB hl (ok.ins _ (xK (d:=0) hw)) hr;rw [ζ,γ,γ,uL hl hv,η,decide_eq_true hvl,decide_eq_true hv];cases c.getLsbD v <;> simp
 refine ε λw hw64=>?_;unfold oF;rw [lN _ _ _ _ (by simpa using hl)];simp only [ω,τ];by_cases hw:w<r.length
 case neg=> rw [decide_eq_false hw,Am,<- hN];show false=(lX r _ r.length).getLsbD w;rw [lN _ _ _ _ hl,decide_eq_false hw,Am]
 rw [decide_eq_true hw,Aj,hg w hw,Al,eE]
 constructor
 ·have key:∀ m w,w<r.length->k9 (jI r c w) s->(tA r (wO r.length) c s m).getLsbD w=true:=by
   intro m
   induction m with
   | zero=>intro w hw _; show (wO r.length).getLsbD w=true; rw [uL hl (by omega)]; exact decide_eq_true hw
   | succ m ih=>
    intro w hw hp;rw [hbit m w hw];intro v hv hr
    cases hc:c.getLsbD v with
    | false=>exact .inl rfl
    | true=> have hvl:v<r.length:=iB hl (ok.ins _ (xK (d:=0) hw)) hr;have hvp:(jI r c w).getLsbD v=true:=Vh _ _ _ _ v (by rw [γ,hr,hc]; rfl);refine .inr ⟨hp v hvp,ih v hvl λu hu=>hp u ?_⟩;have hcl:=YA (c:=c) ok (hst w hw);exact su hcl (hcl v hvl hvp) _ u hu
  intro h;refine key N w hw λv hv=>h v ?_ hv;exact Decidable.byContradiction λhh=>by rw [δ _ _ (by omega)] at hv; cases hv
 ·intro h
  have hcl:∀ u,u<r.length->(s &&& tA r (wO r.length) c s N).getLsbD u=true->k9 (r.getD u 0 &&& c) (s &&& tA r (wO r.length) c s N):=λu hu hb v hv=>by
   rw [γ,Ak] at hb hv;have h1:=hb.2;rw [<- hN] at h1;have h64:v<64:=Decidable.byContradiction λhh=>by rw [δ _ _ (by omega)] at hv; cases hv.1
   rcases(hbit N u hu).1 h1 v h64 hv.1 with h2 | ⟨h2,h3⟩
   ·rw [hv.2] at h2; cases h2
   ·rw [γ,h2,h3]; rfl
  have hs0:k9 (r.getD w 0 &&& c) (s &&& tA r (wO r.length) c s N):=λv hv=>by
   rw [γ,Ak] at hv;have h1:=h;rw [<- hN] at h1;have h64:v<64:=Decidable.byContradiction λhh=>by rw [δ _ _ (by omega)] at hv; cases hv.1
   rcases(hbit N w hw).1 h1 v h64 hv.1 with h2 | ⟨h2,h3⟩
   ·rw [hv.2] at h2; cases h2
   ·rw [γ,h2,h3]; rfl
  intro v _ hv;have:=su hcl hs0 _ v hv;rw [γ,Ak] at this;exact this.1
theorem M5 (hl:r.length<=64) (ins:∀ x ∈ r,iM r.length x=false) (x:BitVec 64):au r x=wO r.length &&& ~~~oF r (wO r.length &&& ~~~x):=by
 unfold au oF;refine ε λw hw=>?_;rw [γ,γ,η,η,lN _ _ _ _ hl,lN _ _ _ _ hl,uL hl hw];by_cases h:w<r.length
 case neg=>rw [decide_eq_false h]; rfl
 congr 3;rw [Al,decide_eq_true h,Aj,Aj,eE,eE];refine forall_congr' λv=>forall_congr' λhv=>forall_congr' λhr=>?_;have hvl:v<r.length:=iB hl (ins _ (xK (d:=0) h)) hr;rw [γ,uL hl hv,decide_eq_true hvl,Aj]
end
end Kb
theorem UO {r:List (BitVec 64)} (hl:r.length<=64) {w:Nat} (hw:w<r.length) (c:BitVec 64):xA prog 275 [.sl 1 (us r),.int .i64 r.length,.int .i64 w,.int .u64 (ui c)] (.int .u64 (ui (jI r c w))):=by
 have hg:=zX r hw;have hd0:((w:Int)<(r.length:Int)):=by omega
 unfold jI;generalize hs0:r.getD w 0=x0 at hg ⊢;refine xI func275 Jq λhf=>?_;refine sT xT hg hd0 ?_
 refine xU (λi:Nat=>[(10,.int .i64 i),(9,.int .u64 (ui (tN r c (x0 &&& c) i))),(3,.int .u64 (ui c)),(1,.int .i64 r.length),(0,.sl 1 (us r))]) (λ_=>⟨0,[]⟩) (λi=>i<=r.length) (λi=>r.length-i) 0 (Ae _) ?_ ?_
 ·(refine yR.same ?_; simp [yS,Fr.get])
  rfl
 intro i hi;refine xN mixed ?_;by_cases hil:i<r.length
 case neg=>
  have hd:¬ ((i:Int)<(r.length:Int)):=by omega
  obtain rfl:i=r.length:=by omega
  refine xG hd ?_;exact .same
 have hd:((i:Int)<(r.length:Int)):=by omega
 have hsn:tN r c (x0 &&& c) (i+1)= pC r c (tN r c (x0 &&& c) i) r.length:=rfl;generalize tN r c (x0 &&& c) i=s at hsn ⊢;refine xG hd ?_
 refine xU (λk:Nat=>[(11,.int .i64 k),(10,.int .i64 i),(9,.int .u64 (ui (pC r c s k))),(3,.int .u64 (ui c)),(1,.int .i64 r.length),(0,.sl 1 (us r))]) (λ_=>⟨0,[]⟩) (λk=>k<=r.length) (λk=>r.length-k) 0 (Ae _) ?_ ?_
 ·(refine yR.same ?_; simp [yS,Fr.get])
  rfl
 intro k hk;refine xN mixed ?_;by_cases hkl:k<r.length
 case neg=>
  have hd2:¬ ((k:Int)<(r.length:Int)):=by omega
  obtain rfl:k=r.length:=by omega
  refine xG hd2 ?_;refine⟨i+1,by omega,?_,by omega⟩;rw [hsn];exact yH
 have hd2:((k:Int)<(r.length:Int)):=by omega
 have hgk:=zX r hkl;have hps:pC r c s (k+1)= if (pC r c s k).getLsbD k=true then pC r c s k ||| r.getD k 0 &&& c else pC r c s k:=rfl;generalize pC r c s k=p at hps ⊢;generalize r.getD k 0=y at hgk hps;have hh:=P0 p (show k<64 by omega);refine xG hd2 ?_;refine .go (cr hh) ?_
 cases hb:p.getLsbD k with
 | true=> rw [hb,if_pos rfl] at hps;refine sT xT hgk hd2 ?_;refine⟨k+1,by omega,?_,by omega⟩;rw [hps];exact yH
 | false=> rw [hb,if_neg (by simp)] at hps;refine sT xT hgk hd2 ?_;refine⟨k+1,by omega,?_,by omega⟩;rw [hps];exact yH
theorem Wu {r:List (BitVec 64)} (hl:r.length<=64) (c s:BitVec 64):xA prog 267 [.sl 1 (us r),.int .i64 r.length,.int .u64 (ui c),.int .u64 (ui s)] (.int .u64 (ui (oF ((List.range r.length).map (jI r c)) s))):=by
 have hp:=λw (hw:w<r.length)=>UO hl hw c;have hg:∀ w,w<r.length->((List.range r.length).map (jI r c)).getD w 0=jI r c w:=λw hw=>by simp [List.getD,hw]
 have hml:((List.range r.length).map (jI r c)).length=r.length:=by simp
 unfold oF;rw [hml];generalize (List.range r.length).map (jI r c)= ps at *;refine xI func267 Jm λhf=>?_;refine xJ ?_
 refine xU (λk:Nat=>[(10,.int .i64 k),(9,.int .u64 (ui (lX ps s k))),(3,.int .u64 (ui s)),(2,.int .u64 (ui c)),(1,.int .i64 r.length),(0,.sl 1 (us r))]) (λ_=>⟨0,[]⟩) (λk=>k<=r.length) (λk=>r.length-k) 0 (Ae _) ?_ ?_
 ·(refine yR.same ?_; simp [yS,Fr.get])
  rfl
 intro k hk;refine xN mixed ?_
 by_cases h:k<r.length
 ·have hd:((k:Int)<(r.length:Int)):=by omega
  have hpk:=hp k h;have hs:lX ps s (k+1)= if (ps.getD k 0 &&& ~~~s==0#64)= true then lX ps s k ||| 1#64 <<< k else lX ps s k:=rfl;rw [hg k h] at hs;generalize jI r c k=y at hpk hs;refine xG hd ?_;refine .go (cr hpk) ?_
  cases e:(y &&& ~~~s==0#64) with
  | true=> rw [e,if_pos rfl] at hs;refine wA e ?_;refine⟨k+1,by omega,?_,by omega⟩;rw [hs];exact yH
  | false=> rw [e,if_neg (by simp)] at hs;refine wA e ?_;refine⟨k+1,by omega,?_,by omega⟩;rw [hs];exact yH
 ·have hd:¬ ((k:Int)<(r.length:Int)):=by omega
  obtain rfl:k=r.length:=by omega
  refine xG hd ?_;exact .same
open Rs Fm Ru Te Kb
namespace Kb
def PV (Q:Nd->Prop):Tr->Prop
 | .nil=>True
 | .nd op i e g x y=>Q ⟨op,i,e,g,0,0⟩/\ PV Q x/\PV Q y
theorem TM {Q:Nd->Prop} (hq:∀ p:Nd,Q p->Q ⟨p.op,p.i,p.e,p.g,0,0⟩) {c:List Nd} (hv:vR c) (h:∀ p ∈ c,Q p):∀ i,i<c.length->PV Q (tree c i):=by
 intro i
 induction i using Nat.strongRecOn with
 | _ i ih=>
  intro hi;obtain⟨ox,oy,_,_⟩:=tO (hv i hi);rw [sH hv hi]
  refine⟨hq _ (h _ (xK hi)),?_,?_⟩
  ·split
   ·rename_i hx; have:=ox hx; exact ih _ (by omega) (by omega)
   ·trivial
  ·split
   ·rename_i hy; have:=oy hy; exact ih _ (by omega) (by omega)
   ·trivial
theorem nv {Q:Nd->Prop} (hq:∀ op i e g a b,Q ⟨op,i,e,g,0,0⟩->Q ⟨op,i,e,g,a,b⟩):∀ (t:Tr) (out:List Nd),PV Q t->(∀ p ∈ out,Q p)->∀ p ∈ (sK t out).2,Q p
 | .nil,out,_,ho=>ho
 | .nd op i e g x y,out,⟨h1,h2,h3⟩,ho=>by
  have ha:∀ p ∈ (if (xY op).1.x=true then sK x out else(0,out)).2,Q p:=by
   split
   ·exact nv hq x out h2 ho
   ·exact ho
  have hb:∀ p ∈ (if (xY op).1.y=true then sK y (if (xY op).1.x=true then sK x out else(0,out)).2 else(0,(if (xY op).1.x=true then sK x out else(0,out)).2)).2,Q p:=by
   split
   ·exact nv hq y _ h3 ha
   ·exact ha
  unfold sK;simp only
  split
  ·exact hb
  ·intro p hp
   rcases ψ.1 hp with hp | hp
   ·exact hb p hp
   ·rw [ξ.1 hp];exact hq _ _ _ _ _ _ h1
theorem Uj {c:List Nd} (h:yW c=0) {i:Nat} (hi:i<c.length):yW (sE c i)= 0/\xB (sE c i)= canon (tree c i):=by have hw:=xy (zF h).2.2 i hi;have e:=Vr h hi;obtain⟨s1,s2,s3,s4⟩:=gN hw;have hl:=mP c i;rw [e] at hl;rw [e];have hk:=ck s3 hl s1;refine⟨hk,?_⟩;rw [kJ hk,s4]
def LP (A F:Nat) (p:Nd):Prop:=N5 A F p=true/\rB p &&& 256=0
theorem XL {rs:List zB} {A F T:Nat} (ok:j5 rs A F T) {f:List Nd} (hc:yW f=0) (h:∀ p ∈ xB f,LP A F p):rP A F (mV f)= true/\(tB .andNot .i64 (zP f:Int) 15 != 0)= false/\sO f A F=true:=by have hE:=(w8 (s:=⟨A,F,T,rs⟩) rfl (eA ok) ok hc).2 λp hp=>(h p hp).1;refine vd rfl (eA ok) ok hE ?_;unfold zP;rw [pT (φ:=λn=>n &&& 256) (by decide) (λa b=>Ah a b 256),sN];exact λp hp=>(h p hp).2
theorem QI {rs:List zB} {A F T:Nat} (ok:j5 rs A F T) {f:List Nd} (hc:yW f=0) (hfr:(tB .andNot .i64 (zP f:Int) 15 != 0)= false) (hft:sO f A F=true):∀ p ∈ xB f,LP A F p:=by
 have h16:zP f<16:=SU ⟨zP f,nF f⟩ hfr;have ha:∀ n:Fin 16,n.val &&& 3824=0/\n.val &&& 256=0:=by decide
 have hE:jt ⟨A,F,T,rs⟩ f=0:=by unfold jt;rw [if_neg (by simpa using eA ok),if_neg (by simpa using hc),yy (nF f),if_neg (by simp [(ha ⟨zP f,h16⟩).1])];simp only;rw [if_neg (by rw [hft]; simp)]
 have hT:=(ha ⟨zP f,h16⟩).2;simp only at hT;unfold zP at hT;rw [pT (φ:=λn=>n &&& 256) (by decide) (λa b=>Ah a b 256),sN] at hT;exact λp hp=>⟨(w8 rfl (eA ok) ok hc).1 hE p hp,hT p hp⟩
theorem Rj {rs:List zB} {A F T:Nat} (ok:j5 rs A F T) {f:List Nd} (hc:yW f=0) (h:∀ p ∈ xB f,LP A F p) {i:Nat} (hi:i<(xB f).length) :
  rP A F (tree (xB f) i)= true/\(tB .andNot .i64 (zP (sE (xB f) i):Int) 15 != 0)= false/\sO (sE (xB f) i) A F=true:=by
 have hk:=kH hc;obtain⟨s1,s2⟩:=Uj hk hi;have hv:=(zF hk).2.2
 have hall:∀ p ∈ xB (sE (xB f) i),LP A F p:=by rw [s2];refine nv (Q:=LP A F) (λop i e g a b h=>h) _ [] (TM (λp h=>h) hv h i hi) λp hp=>by cases hp
 obtain⟨a,b,c⟩:=XL ok s1 hall;refine⟨?_,b,c⟩
 have:mV (sE (xB f) i)= tree (xB f) i:=by rw [Vr hk hi];exact(gN (xy hv i hi)).2.2.2
 rwa [this] at a
end Kb
theorem RD {m:vY} {f:List Nd} {i:Nat} (h1:(tB .andNot .i64 (zP (sE f i):Int) 15 != 0)= false) (h2:sO (sE f i) m.R.length m.V.length=true):xA prog 239 [m.d,.sl 6 (wP f),.int .i64 i] (.bool true):=by
 have c1:=XV f i;have c2:=aZ (sE f i);have c3:=za (sE f i) m.R.length m.V.length;rw [h2] at c3;have h1':(tB .andNot .i64 (zP (sE f i):Int) 15==0)= true:=by simpa using h1
 generalize sE f i=g at *;unfold vY.d;refine xI func239 JX λhf=>?_;refine zC ?_;refine .go (cr c1) ?_;refine xJ ?_;refine .go (cr c2) ?_;refine sT h1' yZ xT ?_;refine .go (cr c3) ?_;refine xJ ?_;exact .dv
open Rs Fm Ru Te Kb
theorem P1 {m:vY} {W:Nat} (ok:qJ m W) {n:Nd} {k:Int} (hn:zK n k=0) (hs:qR m.R.length m.V.length n=true) {x y:BitVec 64} (hcom:n.op=13->tA (zZ m n.g.toNat false) (wO W) x y (W+1)= tA (zZ m n.g.toNat false) (wO W) x y W) :
  xA prog 240 [m.d,.agg n.row,.int .u64 (ui x),.int .u64 (ui y)] (.int .u64 (ui (uR m W n x y).1)):=by
 obtain⟨W1,W64⟩:=ok.hW;have hR4:=ok.hR;have hV8:=ok.hV;have ha:=w4 W;have hbo:=λop h=>YD op h x y (wO W);obtain⟨o1,o13⟩:=pz (show qR m.R.length m.V.length ⟨n.op,n.i,n.e,n.g,0,0⟩= true from hs)
 have hi0:n.op=3\/n.op=9\/n.op=10->0<=n.i:=λh=>by
  rcases h with h | h | h
  ·exact(mN hn (by rw [h]; rfl)).1
  ·exact(rZ hn (by rw [h]; rfl)).1
  ·exact(rZ hn (by rw [h]; rfl)).1
 have hg0:n.op=11\/n.op=12\/n.op=13->1<=n.g/\n.g<=15:=λh=>by
  have hgr:(xY n.op).1.gr=true:=by rcases h with h | h | h <;> rw [h] <;> rfl
  have h1:=(vU.1 hn).2.2.2.2;simp only [Ao,hgr,xH,Aj,decide_eq_false_iff_not] at h1;omega
 have hw:=ok.w;have hRow:=λa (ha:a<m.R.length)=>ok.row _ (xK (d:=[]) ha);obtain⟨op,i,e,g,a,b⟩:=n;simp only at hi0 hg0 hcom o1 o13;have hrow:(Nd.row ⟨op,i,e,g,a,b⟩)= [.int .i64 op,.int .i64 i,.int .i64 e,.int .i64 g,.int .i64 a,.int .i64 b]:=rfl;rw [hrow];have hop:op=1\/op=2\/op=3\/op=4\/op=5\/op=6\/op=7\/op=8\/op=9\/op=10\/op=11\/op=12\/op=13:=by omega
 rcases hop with rfl | rfl | rfl | rfl | rfl | rfl | rfl | rfl | rfl | rfl | rfl | rfl | rfl
 ·have hb:=hbo 1 (by decide);rw [show (uR m W ⟨1,i,e,g,a,b⟩ x y).1=cB 1 x y (wO W) from rfl];generalize cB 1 x y (wO W)= z at hb;unfold vY.d;rw [hw];refine xI func240 zu λhf=>?_;refine zC ?_;refine .go (cr ha) ?_;refine xJ ?_;refine .go (cr hb) ?_;refine xJ ?_;exact .dv
 ·have hb:=hbo 2 (by decide);rw [show (uR m W ⟨2,i,e,g,a,b⟩ x y).1=cB 2 x y (wO W) from rfl];generalize cB 2 x y (wO W)= z at hb;unfold vY.d;rw [hw];refine xI func240 zu λhf=>?_;refine zC ?_;refine .go (cr ha) ?_;refine xJ ?_;refine .go (cr hb) ?_;refine xJ ?_;exact .dv
 ·have h0:=hi0 (.inl rfl);have hlt:i<(m.V.length:Int):=of_decide_eq_true hs;have hv:(uR m W ⟨3,i,e,g,a,b⟩ x y).1=m.V.getD i.toNat 0:=congrArg Prod.fst (if_pos hlt);obtain⟨j,rfl⟩:=κ h0;have hg:=zX m.V (show j<m.V.length by omega);rw [θ] at hv;rw [hv];generalize m.V.getD j 0=z at hg;unfold vY.d;rw [hw];refine xI func240 zu λhf=>?_;refine zC ?_;refine .go (cr ha) ?_;refine sT xT hg hlt ?_;exact .dv
 ·have hb:=hbo 4 (by decide);rw [show (uR m W ⟨4,i,e,g,a,b⟩ x y).1=cB 4 x y (wO W) from rfl];generalize cB 4 x y (wO W)= z at hb;unfold vY.d;rw [hw];refine xI func240 zu λhf=>?_;refine zC ?_;refine .go (cr ha) ?_;refine xJ ?_;refine .go (cr hb) ?_;refine xJ ?_;exact .dv
 ·have hb:=hbo 5 (by decide);rw [show (uR m W ⟨5,i,e,g,a,b⟩ x y).1=cB 5 x y (wO W) from rfl];generalize cB 5 x y (wO W)= z at hb;unfold vY.d;rw [hw];refine xI func240 zu λhf=>?_;refine zC ?_;refine .go (cr ha) ?_;refine xJ ?_;refine .go (cr hb) ?_;refine xJ ?_;exact .dv
 ·have hb:=hbo 6 (by decide);rw [show (uR m W ⟨6,i,e,g,a,b⟩ x y).1=cB 6 x y (wO W) from rfl];generalize cB 6 x y (wO W)= z at hb;unfold vY.d;rw [hw];refine xI func240 zu λhf=>?_;refine zC ?_;refine .go (cr ha) ?_;refine xJ ?_;refine .go (cr hb) ?_;refine xJ ?_;exact .dv
 ·have hb:=hbo 7 (by decide);rw [show (uR m W ⟨7,i,e,g,a,b⟩ x y).1=cB 7 x y (wO W) from rfl];generalize cB 7 x y (wO W)= z at hb;unfold vY.d;rw [hw];refine xI func240 zu λhf=>?_;refine zC ?_;refine .go (cr ha) ?_;refine xJ ?_;refine .go (cr hb) ?_;refine xJ ?_;exact .dv
 ·have hb:=hbo 8 (by decide);rw [show (uR m W ⟨8,i,e,g,a,b⟩ x y).1=cB 8 x y (wO W) from rfl];generalize cB 8 x y (wO W)= z at hb;unfold vY.d;rw [hw];refine xI func240 zu λhf=>?_;refine zC ?_;refine .go (cr ha) ?_;refine xJ ?_;refine .go (cr hb) ?_;refine xJ ?_;exact .dv
 ·have h0:=hi0 (.inr (.inl rfl));have hlt:i<(m.R.length:Int):=of_decide_eq_true hs;have hv:(uR m W ⟨9,i,e,g,a,b⟩ x y).1=oF (m.R.getD i.toNat []) x:=congrArg Prod.fst (if_pos hlt);obtain⟨j,rfl⟩:=κ h0;have hj:j<m.R.length:=by omega
  have hg:=tY m.R hj;have hrl:=hRow j hj;have hro:=ah ok hj;rw [θ] at hv;rw [hv];generalize m.R.getD j []=z at hg hrl hro;have hc:=tf (r:=z) (by omega) x;rw [hrl] at hc;unfold vY.d;rw [hw];refine xI func240 zu λhf=>?_;refine zC ?_;refine .go (cr ha) ?_;refine sT yZ hg hlt ?_;refine .go (cr hc) ?_;refine xJ ?_;exact .dv
 ·have h0:=hi0 (.inr (.inr rfl));have hlt:i<(m.R.length:Int):=of_decide_eq_true hs;have hv:(uR m W ⟨10,i,e,g,a,b⟩ x y).1=au (m.R.getD i.toNat []) x:=congrArg Prod.fst (if_pos hlt);obtain⟨j,rfl⟩:=κ h0;have hj:j<m.R.length:=by omega
  have hg:=tY m.R hj;have hrl:=hRow j hj;have hro:=ah ok hj;rw [θ] at hv;rw [hv];generalize m.R.getD j []=z at hg hrl hro;have hc:=tf (r:=z) (by omega) (wO W &&& ~~~x);have hde:=M5 (by omega) hro.ins x;rw [hrl] at hc hde;rw [hde];unfold vY.d;rw [hw];refine xI func240 zu λhf=>?_;refine zC ?_;refine .go (cr ha) ?_;refine sT yZ hg hlt ?_;refine .go (cr hc) ?_;refine xJ ?_;exact .dv
 ·have h0:=hg0 (.inl rfl);have hlt:g<((2 ^ m.R.length:Nat):Int):=of_decide_eq_true hs;have hv:(uR m W ⟨11,i,e,g,a,b⟩ x y).1=oF (zZ m g.toNat false) x:=congrArg Prod.fst (if_pos hlt);obtain⟨j,rfl⟩:=κ (show 0<=g by omega);have hj:1<=j/\j<2 ^ m.R.length:=by omega
  have hc:=gm ok hj;have hro:=jA ok hj false;have hrl:=(qY ok hj false).2.1;rw [θ] at hv;rw [hv];generalize zZ m j false=z at hc hro hrl ⊢;have hb:=tf (r:=z) (by omega) x;rw [hrl] at hb;unfold vY.d at hc ⊢;rw [hw] at hc ⊢;refine xI func240 zu λhf=>?_;refine zC ?_;refine .go (cr ha) ?_;refine xJ ?_;refine .go (xP.yP hc (by simp [D.xR,D.xF,vD])) ?_;refine xJ ?_;refine .go (xP.yP hb (by simp [D.xR,D.xF,vD])) ?_;refine xJ ?_;exact .dv
 ·have h0:=hg0 (.inr (.inl rfl));have hlt:g<((2 ^ m.R.length:Nat):Int):=of_decide_eq_true hs;have hv:(uR m W ⟨12,i,e,g,a,b⟩ x y).1=oF (zZ m g.toNat true) x:=congrArg Prod.fst (if_pos hlt);obtain⟨j,rfl⟩:=κ (show 0<=g by omega);have hj:1<=j/\j<2 ^ m.R.length:=by omega
  have hc:=RE ok hj;have hro:=jA ok hj true;have hrl:=(qY ok hj true).2.1;rw [θ] at hv;rw [hv];generalize zZ m j true=z at hc hro hrl ⊢;have hb:=tf (r:=z) (by omega) x;rw [hrl] at hb;unfold vY.d at hc ⊢;rw [hw] at hc ⊢;refine xI func240 zu λhf=>?_;refine zC ?_;refine .go (cr ha) ?_;refine xJ ?_;refine .go (xP.yP hc (by simp [D.xR,D.xF,vD])) ?_;refine xJ ?_;refine .go (xP.yP hb (by simp [D.xR,D.xF,vD])) ?_;refine xJ ?_;exact .dv
 ·have h0:=hg0 (.inr (.inr rfl));have hlt:g<((2 ^ m.R.length:Nat):Int):=of_decide_eq_true hs;have hv:(uR m W ⟨13,i,e,g,a,b⟩ x y).1=tA (zZ m g.toNat false) (wO W) x y W:=congrArg Prod.fst (if_pos hlt);obtain⟨j,rfl⟩:=κ (show 0<=g by omega);have hj:1<=j/\j<2 ^ m.R.length:=by omega
  have hc:=gm ok hj;have hro:=jA ok hj false;have hrl:=(qY ok hj false).2.1;rw [θ] at hv;rw [hv];have hcm:=hcom rfl;rw [θ] at hcm;generalize zZ m j false=z at hc hro hrl hcm ⊢;have hb:=Wu (r:=z) (by omega) x y;have hce:=O4 (c:=x) (s:=y) (N:=W) hro (by rw [hrl]; exact hcm);rw [hce,hrl] at hb;unfold vY.d at hc ⊢;rw [hw] at hc ⊢;refine xI func240 zu λhf=>?_;refine zC ?_;refine .go (cr ha) ?_;refine xJ ?_;refine .go (xP.yP hc (by simp [D.xR,D.xF,vD])) ?_;refine xJ ?_;refine .go (xP.yP hb (by simp [D.xR,D.xF,vD])) ?_;refine xJ ?_;exact .dv
open Rs Fm Ru Te Kb
theorem UM {m:vY} {W:Nat} (ok:qJ m W) {f:List Nd} (hc:yW f=0) (hfr:(tB .andNot .i64 (zP f:Int) 15 != 0)= false) (hft:sO f m.R.length m.V.length=true):xA prog 193 [m.d,.sl 6 (wP f),.int .i64 15] (.int .i64 0):=by have h1:=gl ok;have h2:=rq f;have h3:=aZ f;have h4:=za f m.R.length m.V.length;rw [hc] at h2;rw [hft] at h4;unfold vY.d at h1 ⊢;refine xI func193 JB λhf=>?_;refine zC ?_;refine .go (cr h1) ?_;refine xJ ?_;refine .go (cr h2) ?_;refine xJ ?_;refine .go (cr h3) ?_;refine sT hfr yZ xT ?_;refine .go (cr h4) ?_;refine xJ ?_;exact .dv
theorem RG {m:vY} {f:List Nd} (hc:yW f=0) (hchk:xA prog 193 [m.d,.sl 6 (wP f),.int .i64 15] (.int .i64 0)) {sv:Nat->BitVec 64} (hfit:∀ k,k<f.length->xA prog 239 [m.d,.sl 6 (wP f),.int .i64 k] (.bool true))
  (hone:∀ k,k<f.length->∀ x y,((xY (f.getD k vW).op).1.x=true->x=sv (f.getD k vW).x.toNat)->((xY (f.getD k vW).op).1.y=true->y=sv (f.getD k vW).y.toNat)->xA prog 240 [m.d,.agg (f.getD k vW).row,.int .u64 (ui x),.int .u64 (ui y)] (.int .u64 (ui (sv k)))) :
  xA prog 192 [m.d,.sl 6 (wP f)] (.wH [.sl 1 (us ((List.range f.length).map sv)),.int .i64 0]):=by
 obtain⟨c1,c2,c3⟩:=zF hc;have hn:0<f.length:=List.length_pos_iff.2 c1;unfold vY.d at hchk hone hfit ⊢;refine xI func192 J9 λhf=>?_;refine zC ?_;refine .go (cr hchk) ?_;refine zC ?_
 refine xU (λk:Nat=>[(8,.int .i64 k),(7,xD 1 1 (us ((List.range k).map sv))),(2,.ref 0 3 0 0),(1,.sl 6 (wP f))])
  (λk=>⟨2,yX 1 1 (us ((List.range k).map sv))++ [(0,⟨3,[[.int .i64 m.W,.sl 1 (us m.V),.sl 1 (rr m.R)]]⟩)]⟩)
  (λk=>k<=f.length) (λk=>f.length-k) 0 (Ae _) ?_ ?_
 ·(refine sS [] [0] ?_; simp only [wY,zQ,simprocAttr,-ZA,exists_eq_left',ne_eq,zR,χ,Ab,iJ,yA,yB,List.nil_append])
 intro k hk;refine xN mixed ?_;by_cases hkl:k<f.length
 case neg=>
  have hd:¬ ((k:Int)<(f.length:Int)):=by omega
  obtain rfl:k=f.length:=by omega
  have hlen:((List.range f.length).map sv).length=f.length:=by simp
  generalize (List.range f.length).map sv=l at hlen ⊢;have hne:us l ≠ []:=by intro c; have:=congrArg List.length c; rw [xT,hlen,List.length_nil] at this; omega
  rw [eU hne,lO hne];refine yM hd xM ?_;refine .drop (by simp) ?_;simp only [vw,uK];exact⟨rfl,⟨trivial,by decide,by simp,⟨1,us l⟩,by simp [St.get,St.look],rfl,by simp only [xT]; exact Af _,by rw [<- xT,List.take_length],vD l⟩,trivial,trivial⟩
 have hd:((k:Int)<(f.length:Int)):=by omega
 have hone:=hone k hkl;have hfit:=hfit k hkl;have hnd:=c3 k hkl;have hg:=sG f hkl;obtain⟨hox,hoy⟩:=nH hnd;obtain⟨⟨x,hx,hxk⟩,⟨y,hy,hyk⟩⟩:=u5 hnd;generalize f.getD k vW=p at hone hnd hg hox hoy hx hy;have hu1:=oU p.op;have hu2:=oV p.op;obtain⟨op,i,e,g,px,py⟩:=p;simp only at hx hy;subst hx hy;simp only [θ] at hone hox hoy;have hrow:(Nd.row ⟨op,i,e,g,x,y⟩)= [.int .i64 op,.int .i64 i,.int .i64 e,.int .i64 g,.int .i64 x,.int .i64 y]:=rfl;rw [hrow] at hg hone;have hsn:(List.range (k+1)).map sv=(List.range k).map sv ++ [sv k]:=by rw [ο,π]; rfl
 have hal:((List.range k).map sv).length=k:=by simp
 have hag:∀ j,j<k->((List.range k).map sv).getD j 0=sv j:=λj hj=>by simp [List.getD,hj]
 generalize (List.range k).map sv=acc at hsn hal hag ⊢;have hu:=vX (k:=k) (by omega);generalize hsk:sv k=z at hone hsn;refine nQ hd xM ?_;refine .go (cr hfit) ?_;refine sT hd xM hg ?_;refine .go (cr hu1) ?_
 cases ux:(xY op).1.x with
 | true=>
  have hxk:=hox ux;have hgx:=zX acc (show x<acc.length by omega);rw [hag x (by omega)] at hgx;have hxl:((x:Int)<(acc.length:Int)):=by omega
  refine oH hd xM hg xT hgx hxl ?_;refine .go (cr hu2) ?_
  cases uy:(xY op).1.y with
  | true=>
   have hyk:=hoy uy;have hgy:=zX acc (show y<acc.length by omega);rw [hag y (by omega)] at hgy;have hyl:((y:Int)<(acc.length:Int)):=by omega
   refine oH hd xM hg xT hgy hyl ?_;refine .go (xP.yP (hone (sv x) (sv y) (λ_=>rfl) λ_=>rfl) (by simp [D.xR,D.xF])) ?_;refine wA hu ?_;refine⟨k+1,by omega,?_,by omega⟩;rw [hsn];exact kC [(1,2)] [1,0]
  | false=> refine uC hd xM hg xT ?_;refine .go (xP.yP (hone (sv x) 0#64 (λ_=>rfl) λh=>by rw [uy] at h; cases h) (by simp [D.xR,D.xF])) ?_;refine wA hu ?_;refine⟨k+1,by omega,?_,by omega⟩;rw [hsn];exact kC [(1,2)] [1,0]
 | false=>
  refine uC hd xM hg xT ?_;refine .go (cr hu2) ?_
  cases uy:(xY op).1.y with
  | true=>
   have hyk:=hoy uy;have hgy:=zX acc (show y<acc.length by omega);rw [hag y (by omega)] at hgy;have hyl:((y:Int)<(acc.length:Int)):=by omega
   refine oH hd xM hg xT hgy hyl ?_;refine .go (xP.yP (hone 0#64 (sv y) (λh=>by rw [ux] at h; cases h) λ_=>rfl) (by simp [D.xR,D.xF])) ?_;refine wA hu ?_;refine⟨k+1,by omega,?_,by omega⟩;rw [hsn];exact kC [(1,2)] [1,0]
  | false=> refine uC hd xM hg xT ?_;refine .go (xP.yP (hone 0#64 0#64 (λh=>by rw [ux] at h; cases h) λh=>by rw [uy] at h; cases h) (by simp [D.xR,D.xF])) ?_;refine wA hu ?_;refine⟨k+1,by omega,?_,by omega⟩;rw [hsn];exact kC [(1,2)] [1,0]
theorem UN {rs:List zB} {A F T:Nat} (ok:j5 rs A F T) (hW:rs.length*T<=64) {f:List Nd} (hc:yW f=0) (hfr:(tB .andNot .i64 (zP f:Int) 15 != 0)= false) (hft:sO f A F=true) :
  xA prog 133 [(pE rs (rU rs T) A F).d,.sl 6 (wP f)] (.wH [.int .u64 (ui (tC T (rs.length*T) (bl rs A T (mV f)))),.int .i64 0]):=by
 have hl:(rU rs T).length=rs.length*T:=nT T _;have h1:1<=rs.length*T:=Nat.mul_pos ok.hR.1 ok.hT.1;have hm:=sq (F:=F) ok (l:=rU rs T) (by omega) (by omega);rw [hl] at hm;have hRl:(pE rs (rU rs T) A F).R.length=A:=by show (tP rs (rU rs T) A).length=A; simp [tP]
 have hVl:(pE rs (rU rs T) A F).V.length=F:=by show (rG rs (rU rs T) F).length=F; simp [rG]
 have hall:=QI ok hc hfr hft;have hk:=kH hc;obtain⟨_,fr2,ft2⟩:=XL ok hk (by rw [l5 hc]; exact hall)
 have hst:∀ p ∈ xB f,qR A F p=true:=λp hp=>by obtain⟨k,hk⟩:=jT (iI f _) hp;exact ia hk (hall p hp).1 (hall p hp).2
 have hsub:=λi hi=>Rj ok hc hall (i:=i) hi;have htr:=(gH hc).1;have c3:=(zF hk).2.2;have hn:0<(xB f).length:=gQ hc;have hcf:=oP f;generalize xB f=c at *;have hS:=RG (sv:=λk=>tC T (rs.length*T) (bl rs A T (tree c k))) hk (UM hm hk fr2 (by rw [hRl,hVl]; exact ft2)) (λk hkl=>RD (hsub k hkl).2.1 (by rw [hRl,hVl]; exact(hsub k hkl).2.2)) λk hkl x y hx hy=>?_
 rotate_left
 ·have hnd:=c3 k hkl;have hs:=hst _ (xK (d:=vW) hkl);have ht:=sH c3 hkl;generalize c.getD k vW=n at *;have hv:=Xo ok hW (F:=F) hnd hx hy;rw [if_pos hs] at hv
  have ho:=P1 hm hnd (x:=x) (y:=y) (by rw [hRl,hVl]; exact hs) λh13=>by
   have hu:(xY n.op).1.x=true/\(xY n.op).1.y=true/\(xY n.op).1.gr=true:=by rw [h13]; exact⟨rfl,rfl,rfl⟩
   have h1:=(vU.1 hnd).2.2.2.2;simp only [Ao,hu.2.2,xH,Aj,decide_eq_false_iff_not] at h1
   have hlt:n.g<((2 ^ A:Nat):Int):=by unfold qR at hs;rw [h13] at hs;exact of_decide_eq_true hs
   rw [hx hu.1,hy hu.2.1];exact VO ok hW (by omega) _ _
  rw [hv] at ho;simp only at ho
  have e:tC T (rs.length*T) (gA rs A T n (bl rs A T (tree c n.x.toNat)) (bl rs A T (tree c n.y.toNat)))= tC T (rs.length*T) (bl rs A T (tree c k)):=by
   rw [ht];refine congrArg (tC T (rs.length*T)) ?_;show _=gA rs A T ⟨n.op,n.i,n.e,n.g,0,0⟩ _ _
   refine wm rfl rfl rfl (λh=>?_) λh=>?_
   ·rw [if_pos h]
   ·rw [if_pos h]
  rw [e] at ho;exact ho
 have hlast:((List.range c.length).map λk=>tC T (rs.length*T) (bl rs A T (tree c k))).getD (c.length-1) 0=tC T (rs.length*T) (bl rs A T (mV f)):=by
  have:c.length-1<c.length:=by omega
  rw [<- htr];simp [List.getD,this]
 have hlen:((List.range c.length).map λk=>tC T (rs.length*T) (bl rs A T (tree c k))).length=c.length:=by simp
 have h200:c.length<=200:=(zF hk).2.1;generalize ((List.range c.length).map λk=>tC T (rs.length*T) (bl rs A T (tree c k)))= l at hS hlast hlen;have hg:=zX l (show c.length-1<l.length by omega);rw [hlast] at hg;have hw:IntKind.i64.wrap ((l.length:Int)-1)= ((c.length-1:Nat):Int):=by rw [hlen,wrap_i64 (by omega)]; omega
 have hlt:((c.length-1:Nat):Int)<(l.length:Int):=by omega
 have hz:((l.length:Int)== 0)= false:=beq_eq_false_iff_ne.2 (by omega);unfold vY.d at hS ⊢;refine xI func133 Ij λhf=>?_;refine zC ?_;refine .go (cr hcf) ?_;refine zC ?_;refine .go (cr hS) ?_;refine qP xT hw hg hlt hz ?_;exact .drop (by simp) (by simp [vw,uK])
open Rs Fm Ru Te Kb
theorem kZ (l:List Bool) (b:Bool):rb l ++ [[.bool b]]=rb (l ++ [b]):=by simp [rb]
theorem RI {f:List Nd} (hc:yW f=0) (hfr:∀ p ∈ xB f,rB p=0) (v A:Nat):xA prog 187 [.sl 6 (wP f),.int .i64 v] (.bool (bf A f (BitVec.ofNat 64 v))):=by
 have hv:=bG f;have hn:=gQ hc;have h200:=(zF (kH hc)).2.1;have hcf:=oP f;have hop:=λk (hk:k<(xB f).length) (p:Nd) hp=>Oe (A:=A) (s:=BitVec.ofNat 64 v) hv hk (p:=p) hp
 have hend:bf A f (BitVec.ofNat 64 v)= fW A (BitVec.ofNat 64 v) (xB f) ((xB f).length-1):=by unfold bf fW;rw [Z6 hv (Af _) _ (by omega),(gH hc).1]
 rw [hend];generalize xB f=c at *;generalize hφ:fW A (BitVec.ofNat 64 v) c=φ at *;refine xI func187 J6 λhf=>?_;refine xJ ?_;refine .go (cr hcf) ?_;refine xJ ?_
 refine xU (λk:Nat=>[(7,.int .i64 k),(6,xD 0 1 (rb ((List.range k).map φ))),(5,.sl 6 (wP c)),(1,.int .i64 v)]) (λk=>⟨1,yX 0 1 (rb ((List.range k).map φ))⟩)
  (λk=>k<=c.length) (λk=>c.length-k) 0 (Ae _) ?_ ?_
 ·(refine sS [] [] ?_; simp only [wY,zQ,simprocAttr,-ZA,exists_eq_left',ne_eq,zR,χ,Ab,show rb [] = [] from rfl,yA,yB])
 intro k hk;refine xN mixed ?_;by_cases hkl:k<c.length
 case neg=>
  have hd:¬ ((k:Int)<(c.length:Int)):=by omega
  obtain rfl:k=c.length:=by omega
  have hlen:((List.range c.length).map φ).length=c.length:=by simp
  have hlast:((List.range c.length).map φ).getD (c.length-1) false=φ (c.length-1):=by simp [List.getD,show c.length-1<c.length by omega]
  generalize (List.range c.length).map φ=l at hlen hlast ⊢;have hw:IntKind.i64.wrap ((c.length:Int)-1)= ((c.length-1:Nat):Int):=by rw [wrap_i64 (by omega)]; omega
  have hg:=qt l (show c.length-1<l.length by omega);rw [hlast] at hg;have hz:(0:Int)<(c.length:Int):=by omega
  have hlt:((c.length-1:Nat):Int)<(c.length:Int):=by omega
  refine lE hd xM wZ hlen hw hg hz hlt ?_;exact .dv
 have hd:((k:Int)<(c.length:Int)):=by omega
 have hg:(wP c).getD k []=(c.getD k vW).row:=sG c hkl;have hpv:=hv k hkl;have hfr:=hfr _ (xK (d:=vW) hkl);have hop:=hop k hkl;obtain⟨ox,oy,_,_⟩:=tO hpv
 have hu2:(xY (c.getD k vW).op).2=true:=by rw [vU] at hpv;exact hpv.1
 have h8:=KU hfr hu2;have hop:=hop _ rfl h8;have hi7:(c.getD k vW).op=3->0<=(c.getD k vW).i/\(c.getD k vW).i<=7:=λe=>mN hpv (by rw [e]; rfl);have hsn:(List.range (k+1)).map φ=(List.range k).map φ ++ [φ k]:=by rw [ο,π]; rfl
 have hal:((List.range k).map φ).length=k:=by simp
 have hag:∀ j,j<k->(rb ((List.range k).map φ)).getD j [] = [.bool (φ j)]:=λj hj=>by rw [qt _ (by simpa using hj)]; simp [List.getD,hj]
 generalize (List.range k).map φ=acc at hsn hal hag ⊢;have hu:=vX (k:=k) (by omega);generalize hzk:φ k=z at hop hsn;generalize c.getD k vW=p at *;obtain⟨op,i,e,g,x,y⟩:=p;unfold Nd.row at hg;simp only at hg ox oy h8 hop hi7
 rcases h8 with rfl | rfl | rfl | rfl | rfl | rfl | rfl | rfl
 ·have hq1:=oU 1;have hq2:=oV 1;simp only [show (xY 1).1.x=false from rfl] at hq1;simp only [show (xY 1).1.y=false from rfl] at hq2;have hop:z=true:=hop;refine oH hd xM hg hu wZ hal ?_;refine .go (cr hq1) ?_;refine oH hd xM hg hu wZ hal ?_;refine .go (cr hq2) ?_;refine oH hd xM hg hu wZ hal ?_;refine⟨k+1,by omega,?_,by omega⟩;rw [hsn,hop];exact qW [(0,1)] [0] kZ vM
 ·have hq1:=oU 2;have hq2:=oV 2;simp only [show (xY 2).1.x=false from rfl] at hq1;simp only [show (xY 2).1.y=false from rfl] at hq2;have hop:z=false:=hop;refine oH hd xM hg hu wZ hal ?_;refine .go (cr hq1) ?_;refine oH hd xM hg hu wZ hal ?_;refine .go (cr hq2) ?_;refine oH hd xM hg hu wZ hal ?_;refine⟨k+1,by omega,?_,by omega⟩;rw [hsn,hop];exact qW [(0,1)] [0] kZ vM
 ·have hq1:=oU 3;have hq2:=oV 3;simp only [show (xY 3).1.x=false from rfl] at hq1;simp only [show (xY 3).1.y=false from rfl] at hq2;obtain⟨i0,i1⟩:=hi7 rfl;obtain⟨j,rfl⟩:∃ j:Nat,i=(j:Int):=⟨i.toNat,by omega⟩;have hsr:=jU v j (by omega);have hbt:(((v / 2 ^ j:Nat):Int).tmod 2==1)= v.testBit j:=by rw [W4,aa]
  have hop:z=v.testBit j:=by have h3:z=(BitVec.ofNat 64 v).getLsbD j:=hop;rw [h3,BitVec.getLsbD_ofNat,decide_eq_true (show j<64 by omega),Aj]
  refine lE hd xM hg hu wZ hal hsr hbt ?_;refine .go (cr hq1) ?_;refine lE hd xM hg hu wZ hal hsr hbt ?_;refine .go (cr hq2) ?_;refine lE hd xM hg hu wZ hal hsr hbt ?_;refine⟨k+1,by omega,?_,by omega⟩;rw [hsn,hop];exact qW [(0,1)] [0] kZ vM
 ·have hq1:=oU 4;have hq2:=oV 4;simp only [show (xY 4).1.x=true from rfl] at hq1;simp only [show (xY 4).1.y=false from rfl] at hq2;obtain⟨x0,x1⟩:=ox rfl;obtain⟨a,rfl⟩:∃ a:Nat,x=(a:Int):=⟨x.toNat,by omega⟩;rw [θ] at x1;have hga:=hag a x1;have hal2:(a:Int)<(k:Int):=by omega
  have hop:z=(!φ a):=hop;generalize φ a=b1 at *;cases b1
  all_goals
   try simp at hop
   refine lE hd xM hg hu wZ hal hga hal2 ?_;refine .go (cr hq1) ?_;refine lE hd xM hg hu wZ hal hga hal2 ?_;refine .go (cr hq2) ?_;refine lE hd xM hg hu wZ hal hga hal2 ?_;refine⟨k+1,by omega,?_,by omega⟩;rw [hsn,hop];exact qW [(0,1)] [0] kZ vM
 ·have hq1:=oU 5;have hq2:=oV 5;simp only [show (xY 5).1.x=true from rfl] at hq1;simp only [show (xY 5).1.y=true from rfl] at hq2;obtain⟨x0,x1⟩:=ox rfl;obtain⟨a,rfl⟩:∃ a:Nat,x=(a:Int):=⟨x.toNat,by omega⟩;rw [θ] at x1;have hga:=hag a x1;have hal2:(a:Int)<(k:Int):=by omega
  obtain⟨y0,y1⟩:=oy rfl;obtain⟨b,rfl⟩:∃ b:Nat,y=(b:Int):=⟨y.toNat,by omega⟩;rw [θ] at y1;have hgb:=hag b y1;have hbl2:(b:Int)<(k:Int):=by omega
  have hop:z=(φ a&&φ b):=hop;generalize φ a=b1 at *;generalize φ b=b2 at *;cases b1 <;> cases b2
  all_goals
   try simp at hop
   refine qN hd xM hg hu wZ hal hga hal2 hgb hbl2 ?_;refine .go (cr hq1) ?_;refine qN hd xM hg hu wZ hal hga hal2 hgb hbl2 ?_;refine .go (cr hq2) ?_;refine qN hd xM hg hu wZ hal hga hal2 hgb hbl2 ?_;refine⟨k+1,by omega,?_,by omega⟩;rw [hsn,hop];exact qW [(0,1)] [0] kZ vM
 ·have hq1:=oU 6;have hq2:=oV 6;simp only [show (xY 6).1.x=true from rfl] at hq1;simp only [show (xY 6).1.y=true from rfl] at hq2;obtain⟨x0,x1⟩:=ox rfl;obtain⟨a,rfl⟩:∃ a:Nat,x=(a:Int):=⟨x.toNat,by omega⟩;rw [θ] at x1;have hga:=hag a x1;have hal2:(a:Int)<(k:Int):=by omega
  obtain⟨y0,y1⟩:=oy rfl;obtain⟨b,rfl⟩:∃ b:Nat,y=(b:Int):=⟨y.toNat,by omega⟩;rw [θ] at y1;have hgb:=hag b y1;have hbl2:(b:Int)<(k:Int):=by omega
  have hop:z=(φ a || φ b):=hop;generalize φ a=b1 at *;generalize φ b=b2 at *;cases b1 <;> cases b2
  all_goals
   try simp at hop
   refine qN hd xM hg hu wZ hal hga hal2 hgb hbl2 ?_;refine .go (cr hq1) ?_;refine qN hd xM hg hu wZ hal hga hal2 hgb hbl2 ?_;refine .go (cr hq2) ?_;refine qN hd xM hg hu wZ hal hga hal2 hgb hbl2 ?_;refine⟨k+1,by omega,?_,by omega⟩;rw [hsn,hop];exact qW [(0,1)] [0] kZ vM
 ·have hq1:=oU 7;have hq2:=oV 7;simp only [show (xY 7).1.x=true from rfl] at hq1;simp only [show (xY 7).1.y=true from rfl] at hq2;obtain⟨x0,x1⟩:=ox rfl;obtain⟨a,rfl⟩:∃ a:Nat,x=(a:Int):=⟨x.toNat,by omega⟩;rw [θ] at x1;have hga:=hag a x1;have hal2:(a:Int)<(k:Int):=by omega
  obtain⟨y0,y1⟩:=oy rfl;obtain⟨b,rfl⟩:∃ b:Nat,y=(b:Int):=⟨y.toNat,by omega⟩;rw [θ] at y1;have hgb:=hag b y1;have hbl2:(b:Int)<(k:Int):=by omega
  have hop:z=(!φ a || φ b):=hop;generalize φ a=b1 at *;generalize φ b=b2 at *;cases b1 <;> cases b2
  all_goals
   try simp at hop
   refine qN hd xM hg hu wZ hal hga hal2 hgb hbl2 ?_;refine .go (cr hq1) ?_;refine qN hd xM hg hu wZ hal hga hal2 hgb hbl2 ?_;refine .go (cr hq2) ?_;refine qN hd xM hg hu wZ hal hga hal2 hgb hbl2 ?_;refine⟨k+1,by omega,?_,by omega⟩;rw [hsn,hop];exact qW [(0,1)] [0] kZ vM
 ·have hq1:=oU 8;have hq2:=oV 8;simp only [show (xY 8).1.x=true from rfl] at hq1;simp only [show (xY 8).1.y=true from rfl] at hq2;obtain⟨x0,x1⟩:=ox rfl;obtain⟨a,rfl⟩:∃ a:Nat,x=(a:Int):=⟨x.toNat,by omega⟩;rw [θ] at x1;have hga:=hag a x1;have hal2:(a:Int)<(k:Int):=by omega
  obtain⟨y0,y1⟩:=oy rfl;obtain⟨b,rfl⟩:∃ b:Nat,y=(b:Int):=⟨y.toNat,by omega⟩;rw [θ] at y1;have hgb:=hag b y1;have hbl2:(b:Int)<(k:Int):=by omega
  have hop:z=(φ a==φ b):=hop;refine qN hd xM hg hu wZ hal hga hal2 hgb hbl2 ?_;refine .go (cr hq1) ?_;refine qN hd xM hg hu wZ hal hga hal2 hgb hbl2 ?_;refine .go (cr hq2) ?_;refine qN hd xM hg hu wZ hal hga hal2 hgb hbl2 ?_;refine⟨k+1,by omega,?_,by omega⟩;rw [hsn,hop];exact qW [(0,1)] [0] kZ vM
end Go.Pd
