/- Part LF. -/
import Derived.Test.YtndfaefmmcoapaaGreatGeKZ
import Derived.Test.YtndfaefmmcoapaaGreatGeXA
import Derived.Test.YtndfaefmmcoapaaGreatGeC4
import Derived.Test.YtndfaefmmcoapaaGreatGeSC
import Derived.Test.YtndfaefmmcoapaaGreatGeP7
set_option linter.unusedSectionVars false
set_option linter.unusedVariables false
set_option linter.unusedSimpArgs false
set_option linter.defProp false
set_option maxRecDepth 20000
set_option maxHeartbeats 1000000
open Go.Proofs.Tryz
open BitVec renaming getLsbD_and->γ,getLsbD_of_ge->δ,eq_of_getLsbD_eq->ε,getLsbD_or->ζ,getLsbD_not->η
open Int renaming toNat_natCast->θ,eq_ofNat_of_zero_le->κ,le_refl->μ
open List renaming mem_range->ν,mem_singleton->ξ,range_succ->ο,map_append->π,length_range->τ,all_eq_true->υ,range_zero->χ,mem_append->ψ,length_map->ω,take_of_length_le->Aa,map_nil->Ab,all_eq_false->Ac,length_take->Ad
open Nat renaming zero_le->Ae,le_refl->Af,not_lt_zero->Ag,and_or_distrib_right->Ah,exists_eq_add_of_le->Ai
open Bool renaming true_and->Aj,and_eq_true->Ak,eq_iff_iff->Al,false_and->Am,false_eq_true->An,or_eq_false_iff->Ao
namespace Go.Pd
open Go Go.Proofs
open BitVec renaming isValue -> ZA
open Rs Fm Ru Te Kb
theorem Yt {σ:St} {g:FuncId} {caps:List D} {f:uI->Bool} {c:List (uI)} (hl:c.length<=2000000) (h:∀ x ∈ c,xQ prog g ([.agg x.row]++caps) σ (.bool (f x)) σ):xQ prog 136 [.sl 3 (qO c),.fn g caps] σ (.int .i64 (kH f c 0)) σ:=by
 refine xI func136 Ig λhf=>?_;refine xH zA ?_
 refine xU (λk:Nat=>[(8,.int .i64 k),(7,.int .i64 c.length),(1,.fn g caps),(0,.sl 3 (qO c))]) (λ_=>σ) (λk=>k<=c.length/\kH f c 0=kH f (c.drop k) k) (λk=>c.length-k) 0 ⟨Ae _,rfl⟩ ?_ ?_
 ·exact wO
 intro k ⟨hk,hi⟩;refine xN mixed ?_
 by_cases hh:k<c.length
 ·have hd:((k:Int)<(c.length:Int)):=by omega
  have hg:=iA c hh;unfold uI.row at hg;have hcall:=h _ (xK (d:=iR) hh);unfold uI.row at hcall;rw [drop_cons (d:=iR) hh,kH] at hi;refine rF hd zA hg ?_;refine .go hcall ?_
  cases hx:f (c.getD k iR)
  ·rw [hx,if_neg (by simp)] at hi;refine xJ ?_;refine⟨k+1,⟨by omega,hi⟩,?_,by omega⟩;exact yL
  ·rw [hx,if_pos rfl] at hi;refine xJ ?_;rw [hi];exact .same
 ·have hd:¬ ((k:Int)<(c.length:Int)):=by omega
  rw [List.drop_eq_nil_of_le (by omega),kH] at hi;refine xH hd ?_;rw [hi];exact .same
theorem Zy {σ:St} {g:FuncId} {caps:List D} {f:uI->Bool} {c:List (uI)} (hl:c.length<=2000000) (h:∀ x ∈ c,xQ prog g ([.agg x.row]++caps) σ (.bool (f x)) σ):xQ prog 195 [.sl 3 (qO c),.fn g caps] σ (.bool (c.any f)) σ:=by
 refine xI func195 J7 λhf=>?_;refine xJ ?_;refine .go (Yt hl h) ?_;have hx:=dR (f:=f) (c:=c) (i:=0) (μ 0)
 cases ha:c.any f
 ·have h1:¬ 0<=kH f c 0:=λy=>by rw [hx.1 y] at ha; cases ha
  refine xH h1 ?_;exact .same
 ·have h1:=hx.2 ha;refine xH h1 ?_;exact .same
namespace Kb
def bW (p:yT) (c:uI):Bool:=decide (c.ag<0) || decide ((p.xV.length:Int)<=c.ag) || decide (c.seen.length=0) || decide (c.mv < -1) || decide ((p.xO.length:Int)<=c.mv)
def Zb (p:yT) (c:uI):Bool:=c.seen.any λs=>!decide (s &&& ~~~(p.xV.getD c.ag.toNat 0)= 0#64)
def uU (ag:Int) (h:List (BitVec 64)) (d:uI):Bool:=decide (d.ag=ag)&& decide (d.seen=h)
def Zd (p:yT) (l:List uI) (i:Nat):Int:=if bW p (l.getD i iR)= true then 3 else if Zb p (l.getD i iR)= true then 3 else if (l.take i).any (uU (l.getD i iR).ag (l.getD i iR).seen)= true then 7 else 0
def wP (p:yT) (l:List uI):Int:=wT (Zd p l) (List.range l.length)
structure jU (l : List uI) : Prop where
 len:l.length<=2000000
 seen:∀ c ∈ l,c.seen.length<=1000
theorem WS {f:Nat->Int} {n k:Nat} (h:k<=n) (hz:∀ i,i<k->f i=0):k<n->f k≠0->wT f (List.range n)= f k:=by
 intro hk hf
 have key:∀ (m s:Nat),s<=k->k<s+m->(∀ i,s<=i->i<k->f i=0)->wT f (List.range' s m)= f k:=by
  intro m
  induction m with
  | zero=>intro s h1 h2; omega
  | succ m ih=>
   intro s h1 h2 h3;rw [List.range'_succ];unfold wT
   by_cases e:s=k
   ·subst e; rw [if_pos hf]
   ·rw [if_neg (by simpa using h3 s (Af _) (by omega))];exact ih (s+1) (by omega) (by omega) λi hi hi2=>h3 i (by omega) hi2
 rw [List.range_eq_range'];exact key n 0 (Ae _) (by omega) λi _ hi=>hz i hi
theorem Ti {f:Nat->Int} {n:Nat} (hz:∀ i,i<n->f i=0):wT f (List.range n)= 0:=oC.2 λi hi=>hz i (ν.1 hi)
theorem cU {a b:List (BitVec 64)}:a.map ui=b.map ui ↔ a=b:=⟨λh=>(List.map_inj_right λx y=>ZR.1).1 h,λh=>by rw [h]⟩
end Kb
theorem Yg (a b:List (BitVec 64)):xA prog 74 [.sl 1 (us a),.sl 1 (us b)] (.bool (decide (a=b))):=by
 have h:=VR (a:=a) (b:=b)
 rwa [show decide (a.map ui=b.map ui)= decide (a=b) by rw [Al,decide_eq_true_eq,decide_eq_true_eq,cU]] at h
theorem MW {p:yT} {c:uI} {nx k:Nat} {xZ:List (Nat × Ob)} (h0:St.look xZ 0=some ⟨5,[p.cells]⟩) (h1:St.look xZ k=some ⟨3,[c.row]⟩) (hc:0<=c.ag/\c.ag<p.xV.length) (s:BitVec 64) :
  xQ prog 194 ([.int .u64 (ui s)] ++ [.ref 0 5 0 0,.ref k 3 0 0]) ⟨nx,xZ⟩ (.bool (!decide (s &&& ~~~(p.xV.getD c.ag.toNat 0)= 0#64))) ⟨nx,xZ⟩:=by
 unfold yT.cells at h0;unfold uI.row at h1;have hg:=yF p.xV (show c.ag.toNat<p.xV.length by omega);generalize p.xV.getD c.ag.toNat 0=m at hg ⊢;have hlt:(c.ag<(p.xV.length:Int)):=hc.2;refine xI func194 J6 λhf=>?_;refine rI h0 h1 xT hlt hg ?_
 by_cases hx:s &&& ~~~m=0#64
 ·have ex:(s &&& ~~~m != 0#64)= false:=by simpa using hx
  rw [decide_eq_true hx];refine vR ex ?_;exact .same
 ·have ex:(s &&& ~~~m != 0#64)= true:=by simpa using hx
  rw [decide_eq_false hx];refine vR ex ?_;exact .same
theorem P6 {c:uI} {nx k:Nat} {xZ:List (Nat × Ob)} (h1:St.look xZ k=some ⟨3,[c.row]⟩) (d:uI) :
  xQ prog 196 ([.agg d.row] ++ [.ref k 3 0 0]) ⟨nx,xZ⟩ (.bool (uU c.ag c.seen d)) ⟨nx,xZ⟩:=by
 refine xQ.aw ⟨_,func196,by kernel_rfl,by kernel_rfl⟩ λhu=>xQ.clean ?_;have hk:=(hu k _ h1).1;simp only at hk;have y1:¬ nx=k:=by omega
 have he:=Yg d.seen c.seen;unfold uI.row at h1 ⊢;unfold uU;refine xI func196 J8 λhf=>?_
 by_cases ha:d.ag=c.ag
 ·have ha':(d.ag==c.ag)= true:=by simpa using ha
  rw [decide_eq_true ha,Aj];refine rF h1 y1 ha' ?_;refine .go (cr he) ?_;refine xJ ?_;exact .gone hu (Vv hu _ _) (by simp only [vw])
 ·have ha':(d.ag==c.ag)= false:=by simpa using ha
  rw [decide_eq_false ha,Am];refine rF h1 y1 ha' ?_;exact .gone hu (Vv hu _ _) (by simp only [vw])
theorem Tc {a:Int} {h:List (BitVec 64)} {nx k k2:Nat} {xZ:List (Nat × Ob)} (h1:St.look xZ k=some ⟨1,[[.int .i64 a]]⟩) (h2:St.look xZ k2=some ⟨1,[[.sl 1 (us h)]]⟩) (d:uI) :
  xQ prog 137 ([.agg d.row] ++ [.ref k 1 0 0,.ref k2 1 0 0]) ⟨nx,xZ⟩ (.bool (uU a h d)) ⟨nx,xZ⟩:=by
 refine xQ.aw ⟨_,func137,by kernel_rfl,by kernel_rfl⟩ λhu=>xQ.clean ?_;have hk:=(hu k _ h1).1;have hk2:=(hu k2 _ h2).1;simp only at hk hk2;have y1:¬ nx=k:=by omega
 have y2:¬ nx=k2:=by omega
 have he:=Yg d.seen h;unfold uI.row;unfold uU;refine xI func137 Ih λhf=>?_
 by_cases ha:d.ag=a
 ·have ha':(d.ag==a)= true:=by simpa using ha
  rw [decide_eq_true ha,Aj];refine rI h1 h2 y1 y2 ha' ?_;refine .go (cr he) ?_;refine xJ ?_;exact .gone hu (Vv hu _ _) (by simp only [vw])
 ·have ha':(d.ag==a)= false:=by simpa using ha
  rw [decide_eq_false ha,Am];refine rI h1 h2 y1 y2 ha' ?_;exact .gone hu (Vv hu _ _) (by simp only [vw])
theorem WK (p:yT) (l:List uI) (sm:jU l):xA prog 134 [p.d,.sl 3 (qO l)] (.int .i64 (wP p l)):=by
 have hD:p.d = .agg [.int .i64 p.F,.sl 1 (us p.init),.sl 1 (us p.xV),.sl 1 (uK p.xO),.sl 1 (uJ p.code)]:=rfl;have hll:=sm.len;rw [hD];refine xI func134 Ie λhf=>?_;refine vR zA ?_
 refine xU (λi:Nat=>[(9,.int .i64 i),(8,.int .i64 l.length),(7,.sl 3 (qO l)),(2,.ref 0 5 0 0),(1,.sl 3 (qO l))]) (λ_=>⟨1,[(0,⟨5,[p.cells]⟩)]⟩)
  (λi=>i<=l.length/\∀ j,j<i->Zd p l j=0) (λi=>l.length-i) 0 ⟨Ae _,λj hj=>absurd hj (Ag _)⟩ ?_ ?_
 ·unfold yT.cells; (refine yR.same ?_; simp [yS,Fr.get])
 intro i ⟨hi,hz⟩;refine xN mixed ?_;by_cases hil:i<l.length
 case neg=>
  have hd:¬ ((i:Int)<(l.length:Int)):=by omega
  rw [show wP p l=0 from Ti λj hj=>hz j (by omega)];unfold yT.cells;refine xH hd ?_;exact .dv
 have hd:((i:Int)<(l.length:Int)):=by omega
 have hg:=iA l hil;have hend:∀ e,Zd p l i=e->e≠0->wP p l=e:=λe h1 h2=>by rw [<- h1]; exact WS hi hz hil (by rw [h1]; exact h2)
 have hE:Zd p l i=if bW p (l.getD i iR)= true then 3 else if Zb p (l.getD i iR)= true then 3 else if (l.take i).any (uU (l.getD i iR).ag (l.getD i iR).seen)= true then 7 else 0:=rfl;have hsm:=sm.seen _ (xK (d:=iR) hil);generalize l.getD i iR=c at hg hE hsm;unfold uI.row at hg;unfold yT.cells;have bad:bW p c=true->wP p l=3:=λh=>hend 3 (by rw [hE,if_pos h]) (by decide)
 by_cases c1:c.ag<0
 ·rw [bad (by unfold bW; simp [c1])];refine uC hd zA hg c1 ?_;exact .dv
 by_cases c2:(p.xV.length:Int)<=c.ag
 ·rw [bad (by unfold bW; simp [c2])];refine pH hd zA hg c1 xT c2 ?_;exact .dv
 by_cases c3:c.seen.length=0
 ·have c3':((c.seen.length:Int)== 0)= true:=by rw [c3]; rfl
  rw [bad (by unfold bW; simp [c3])];refine cF hd zA hg c1 xT c2 c3' ?_;exact .dv
 have c3':((c.seen.length:Int)== 0)= false:=by rw [beq_eq_false_iff_ne]; omega
 by_cases c4:c.mv < -1
 ·rw [bad (by unfold bW; simp [c4])];refine mU hd zA hg c1 xT c2 c3' c4 ?_;exact .dv
 by_cases c5:(p.xO.length:Int)<=c.mv
 ·rw [bad (by unfold bW; simp [c5])];refine rC hd zA hg c1 xT c2 c3' c4 yJ c5 ?_;exact .dv
 have hb:bW p c=false:=by unfold bW; simp [c1,c2,c3,c4,c5]
 rw [hb,if_neg (by simp)] at hE;have hstr:=aP (σ:=⟨2,[(1,⟨3,[c.row]⟩),(0,⟨5,[p.cells]⟩)]⟩) (g:=194) (caps:=[.ref 0 5 0 0,.ref 1 3 0 0]) (c:=c.seen) (f:=λs=>!decide (s &&& ~~~(p.xV.getD c.ag.toNat 0)= 0#64)) hsm λs _=>MW rfl rfl ⟨by omega,by omega⟩ s;have hsame:=Zy (σ:=⟨2,[(1,⟨3,[c.row]⟩),(0,⟨5,[p.cells]⟩)]⟩) (g:=196) (caps:=[.ref 1 3 0 0]) (c:=l.take i) (f:=uU c.ag c.seen) (by rw [Ad]; omega) λd _=>P6 rfl d;have hct:qO (l.take i)= (qO l).take i:=by simp [qO,List.map_take]
 rw [hct] at hsame;unfold yT.cells at hstr hsame;unfold uI.row at hstr hsame;have hsE:(c.seen.any λs=>!decide (s &&& ~~~(p.xV.getD c.ag.toNat 0)= 0#64))= Zb p c:=rfl;rw [hsE] at hstr;refine rC hd zA hg c1 xT c2 c3' c4 yJ c5 ?_;refine .go hstr ?_
 cases hs:Zb p c with
 | true=> rw [hs,if_pos rfl] at hE;rw [hend 3 hE (by decide)];refine xJ ?_;exact .dv
 | false=>
  rw [hs,if_neg (by simp)] at hE;refine xJ ?_;refine⟨0,(i:Int),rfl,rfl,by omega,by omega,by rw [zA]; omega,?_⟩;simp only [θ,Int.toNat_zero,List.drop_zero];refine .go hsame ?_
  cases hm:(l.take i).any (uU c.ag c.seen) with
  | true=> rw [hm,if_pos rfl] at hE;rw [hend 7 hE (by decide)];refine xJ ?_;exact .dv
  | false=>
   rw [hm,if_neg (by simp)] at hE;refine xJ ?_
   refine⟨i+1,⟨by omega,λj hj=>?_⟩,?_,by omega⟩
   ·by_cases e:j=i
    ·rw [e]; exact hE
    ·exact hz j (by omega)
   exact mD [] [0]
open Rs Fm Ru Te Kb
namespace Kb
def qJ (l:List uI) (a:Nat) (h:List (BitVec 64)):Int:=kH (uU a h) l 0
def kj (l:List uI) (a:Nat) (h:List (BitVec 64)):Int:=(l.getD (qJ l a h).toNat iR).mv
def tX (p:yT) (sts:List (List (BitVec 64))) (t a r:Nat):List (BitVec 64):=vG p.xV (vK sts r) a t
def jl (p:yT) (l:List uI) (sts:List (List (BitVec 64))) (t a n:Nat):List Int:=(List.range n).map λr=>kj l a (tX p sts t a r)
def tQ (p:yT) (l:List uI) (sts:List (List (BitVec 64))) (t:Nat):List (List Int):=(List.range p.xV.length).map λa=>jl p l sts t a sts.length
def qU (p:yT) (l:List uI) (sts:List (List (BitVec 64))) (t:Nat):Bool:=(List.range p.xV.length).all λa=>(List.range sts.length).all λr=>decide (0<=qJ l a (tX p sts t a r))
theorem fi {α:Type} {f:α->Bool}:∀ {c:List α} {i:Int},0<=i->(kH f c i = -1\/(i<=kH f c i/\kH f c i<i+c.length))
 | [],i,_=>.inl rfl
 | x :: r,i,hi=>by
  unfold kH
  by_cases h:f x=true
  ·rw [if_pos h]; exact .inr ⟨μ _,by simp; omega⟩
  ·rw [if_neg h]
   rcases fi (c:=r) (i:=i+1) (by omega) with h1 | h1
   ·exact .inl h1
   ·exact .inr ⟨by omega,by simp; omega⟩
theorem u7 {l:List uI} {a:Nat} {h:List (BitVec 64)} (h0:0<=qJ l a h):(qJ l a h).toNat<l.length/\qJ l a h<l.length:=by
 rcases fi (f:=uU a h) (c:=l) (i:=0) (μ 0) with h1 | h1
 ·unfold qJ at h0; omega
 ·unfold qJ at h0 ⊢; omega
structure IG (E : Nat -> List (List D)) (A n0 : Nat) (x : QP) : Prop where
 ha:x.a<=A
 hn:n0<=x.nx
 kO:x.kO<x.nx\/x.a=0
 kl:x.ks.length=x.a
 ks:∀ k ∈ x.ks,k<x.nx
 nd:x.ks.Nodup
 no:x.a≠0->x.kO ∉ x.ks
 jT:x.a≠0->fQ x.xZ x.kO x.ks ((List.range x.a).map E)
theorem IG.step {E:Nat->List (List D)} {A n0:Nat} {x:QP} (h:IG E A n0 x) (hal:x.a<A) {kI kN n2:Nat} {ob:List (Nat × Ob)} (h1:x.nx<=kI/\kI<n2) (h2:x.nx<=kN/\kN<n2) (hne:kI≠kN)
  (hout:St.look ob kN=some ⟨1,vQ (x.ks ++ [kI]) ((List.range x.a).map E ++ [E x.a])⟩) (hnew:St.look ob kI=some ⟨1,E x.a⟩) (hold:∀ k,k<x.nx->(x.a=0\/k≠x.kO)->St.look ob k=St.look x.xZ k) :
  IG E A n0 ⟨x.a+1,n2,kN,x.ks ++ [kI],ob⟩:=by
 have hn:=h.hn
 refine⟨by show x.a+1<=_; omega,by show n0<=n2; omega,.inl h2.2,by simp [h.kl],λk hk=>?_,?_,λ_ hk=>?_,λ_=>?_⟩
 ·show k<n2
  rcases ψ.1 hk with hk | hk
  ·have:=h.ks k hk; omega
  ·rw [ξ.1 hk]; exact h1.2
 ·refine List.nodup_append.2 ⟨h.nd,by simp,λk hk j hj e=>?_⟩;have:=h.ks k hk;rw [ξ.1 hj] at e;omega
 ·have hk:kN ∈ x.ks ++ [kI]:=hk
  rcases ψ.1 hk with hk | hk
  ·have:=h.ks _ hk; omega
  ·exact hne (ξ.1 hk).symm
 ·show fQ ob kN (x.ks ++ [kI]) ((List.range (x.a+1)).map E);rw [ο,π];have h0:(List.range x.a).map E ≠ []->x.a≠0:=λc e=>c (by rw [e]; rfl);refine fQ.grow (λc=>h.jT (h0 c)) (by rw [h.kl]; simp) hout hnew λk hk=>?_;refine hold k (h.ks k hk) ?_
  by_cases c:x.a=0
  ·exact .inl c
  ·exact .inr λe=>h.no c (e ▸ hk)
end Kb
theorem sH.Ju {n0:Nat} {σ1 σ':St} {d1 d:D} (h:sH n0 σ1 d1 σ' d) (b:Bool):sH n0 σ1 (.wF [d1,.bool b]) σ' (.wF [d,.bool b]):=by
 rcases h with ⟨rfl,rfl⟩ | ⟨ρ,r1,r2,r3,r4,r5⟩
 ·exact .inl ⟨rfl,rfl⟩
 ·refine .inr ⟨ρ,r1,r2,?_,r4,r5⟩;simp only [vw,vC];exact⟨rfl,r3,trivial,trivial⟩
theorem Yc {p:yT} {l:List uI} (hll:l.length<=2000000) {sts:List (List (BitVec 64))} {t:Nat} (hA:1<=p.xV.length/\p.xV.length<=4) (hR:1<=sts.length/\sts.length<=16) (hl:∀ st ∈ sts,t<st.length) (ht:t<=1000) {d:D} {σ':St}
  (hyes:qU p l sts t=true->d = .wF [.yD 0 1 p.xV.length,.bool true]/\σ'=⟨1+p.xV.length,lE ((tQ p l sts t).map (rows .i64))⟩) (hno:qU p l sts t=false->d = .wF [.xL,.bool false]/\σ'=jR) :
  xQ prog 84 [nD p sts,.sl 3 (qO l),.int .i64 t] jR d σ':=by
 have hh:∀ a r,a<p.xV.length->r<sts.length->xA prog 75 [nD p sts,.int .i64 a,.int .i64 r,.int .i64 t] (.sl 1 (us (tX p sts t a r))):=λa r ha hr=> rS (iU p ha hr (hl _ (xK (d:=[]) hr)) ht)
 have hfalse:∀ a r,a<p.xV.length->r<sts.length->qJ l a (tX p sts t a r)<0->qU p l sts t=false:=λa r ha hr h=>by unfold qU;rw [Ac];refine⟨a,ν.2 ha,?_⟩;rw [Bool.not_eq_true,Ac];exact⟨r,ν.2 hr,by simpa using h⟩
 unfold nD bu at *;refine xI func84 Fj λhf=>?_;refine xH xT ?_
 refine xU (λx:QP=>[(20,.int .i64 x.a),(19,.int .i64 p.xV.length),(8,wE x.kO x.a),(2,.int .i64 t),(1,.sl 3 (qO l)),(0,.ptr [.int .i64 p.F,.sl 1 (us p.init),.sl 1 (us p.xV),.sl 1 (uK p.xO),.sl 1 (uJ p.code),.sl 1 (rr sts)])]) (λx=>⟨x.nx,x.xZ⟩)
  (λx=>IG (λa=>rows .i64 (jl p l sts t a sts.length)) p.xV.length 0 x/\∀ a r,a<x.a->r<sts.length->0<=qJ l a (tX p sts t a r)) (λx=>p.xV.length-x.a) ⟨0,0,0,[],[]⟩
  ⟨⟨Ae _,Ae _,.inr rfl,rfl,by simp,.nil,λh=>absurd rfl h,λh=>absurd rfl h⟩,λa r ha=>absurd ha (Ag _)⟩ ?_ ?_
 ·(refine yR.same ?_; simp [yS,Fr.get,wE])
 rintro ⟨a,nx,kO,ks,xZ⟩ ⟨hI,hpos⟩;obtain⟨ha,n0,hkO,hkl,hks,hnd,hno',hnst⟩:=id hI;simp only at ha n0 hkO hkl hks hnd hno' hnst hpos;refine xN mixed ?_;by_cases hal:a<p.xV.length
 case neg=>
  have hd:¬ ((a:Int)<(p.xV.length:Int)):=by omega
  obtain rfl:a=p.xV.length:=by omega
  have ha0:p.xV.length≠0:=by omega
  have hB:qU p l sts t=true:=by unfold qU;rw [υ];intro a ha;rw [υ];intro r hr;exact decide_eq_true (hpos a r (ν.1 ha) (ν.1 hr))
  obtain⟨rfl,rfl⟩:=hyes hB;unfold wE;rw [if_neg ha0];refine xH hd ?_;have hn:=hnst ha0;rw [show (List.range p.xV.length).map (λa=>rows .i64 (jl p l sts t a sts.length))= (tQ p l sts t).map (rows .i64) by simp only [tQ,List.map_map]; rfl] at hn;have hl2:((tQ p l sts t).map (rows .i64)).length=p.xV.length:=by simp [tQ]
  have hr:=sH.jT (nx:=nx) hn hl2.symm hnd (hno' ha0) λe he r hr=>(nY e he r hr).2;rw [hl2] at hr;exact sH.Ju hr true
 have hd:((a:Int)<(p.xV.length:Int)):=by omega
 have hown:(jl p l sts t a sts.length).length=sts.length:=by simp [jl]
 have howg:∀ r,r<sts.length->(jl p l sts t a sts.length).getD r 0=kj l a (tX p sts t a r):=λr hr=>by simp [jl,List.getD,hr]
 have hstep:=λkI kN n2 ob=>@IG.step (λa=>rows .i64 (jl p l sts t a sts.length)) p.xV.length 0 ⟨a,nx,kO,ks,xZ⟩ hI hal kI kN n2 ob;simp only at hstep;have hha:=λr hr=>hh a r hal hr;have hfa:=λr hr=>hfalse a r hal hr;generalize jl p l sts t a sts.length=own at *;refine nQ hd yZ ?_
 refine xU (λx:OP=>[(28,.int .i64 x.j),(27,.int .i64 sts.length),(20,.int .i64 a),(19,.int .i64 p.xV.length),(10,wE x.kW x.j),(9,.ref nx 1 0 0),(8,wE kO a),(2,.int .i64 t),(1,.sl 3 (qO l)),(0,.ptr [.int .i64 p.F,.sl 1 (us p.init),.sl 1 (us p.xV),.sl 1 (uK p.xO),.sl 1 (uJ p.code),.sl 1 (rr sts)])]) (λx=>⟨x.m,x.ob⟩)
  (λx=>IO ((nx,⟨1,[[.int .i64 a]]⟩) :: xZ) (nx+1) own x/\∀ r,r<x.j->0<=qJ l a (tX p sts t a r)) (λx=>sts.length-x.j) ⟨0,nx+1,0,(nx,⟨1,[[.int .i64 a]]⟩) :: xZ⟩
  ⟨⟨Ae _,Af _,λh=>absurd rfl h,λ_ _=>rfl⟩,λr hr=>absurd hr (Ag _)⟩ ?_ ?_
 ·(refine yR.same ?_; simp only [yS,Fr.get,simprocAttr,-ZA,zS,show wE 0 0=D.xL from rfl])
  all_goals rfl
 rintro ⟨r,m,kW,ob⟩ ⟨⟨hr,hm,hkW,hold⟩,hpr⟩;simp only at hr hm hkW hold hpr;have gx:St.look ob nx=some ⟨1,[[.int .i64 a]]⟩:=by rw [hold nx (by omega),xX,if_pos rfl]
 have hold2:∀ k,k<nx->St.look ob k=St.look xZ k:=λk hk=>by rw [hold k (by omega),xX,if_neg (by omega)]
 refine xN mixed ?_;by_cases hrl:r<sts.length
 case neg=>
  have hd2:¬ ((r:Int)<(sts.length:Int)):=by omega
  obtain rfl:r=sts.length:=by omega
  have hj0:sts.length≠0:=by omega
  obtain⟨w1,w2,w3⟩:=hkW hj0;rw [Aa (by omega)] at w3;rw [show wE kW sts.length = .yD kW 1 sts.length by unfold wE; rw [if_neg hj0]]
  have hpos2:∀ a' r,a'<a+1->r<sts.length->0<=qJ l a' (tX p sts t a' r):=λa' r ha' hr'=>by
   by_cases e:a'=a
   ·subst e; exact hpr r hr'
   ·exact hpos a' r (by omega) hr'
  by_cases ha0:a=0
  ·subst ha0;obtain rfl:ks = []:=List.eq_nil_of_length_eq_zero hkl;rw [show wE kO 0=D.xL from rfl];refine vR hd2 ?_
   refine⟨⟨0+1,m+1+1,m+1,[] ++ [kW],(m+1,⟨1,[[.yD kW 1 sts.length]]⟩) :: (m,⟨1,[[.yD kW 1 sts.length]]⟩) :: ob⟩,⟨hstep kW (m+1) (m+1+1) _ ⟨by omega,by omega⟩ ⟨by omega,by omega⟩ (by omega) ?_ ?_ ?_,hpos2⟩,?_,by show p.xV.length-(0+1)<_; omega⟩
   ·rw [xX,if_pos rfl];simp [vQ,yU,hown]
   ·rw [xX,if_neg (by omega),xX,if_neg (by omega)];exact w3
   ·intro k hk _;rw [xX,if_neg (by omega),xX,if_neg (by omega)];exact hold2 k hk
   ·rw [show wE (m+1) (0+1)= .yD (m+1) 1 1 from rfl];exact yL
  ·have hkO2:kO<nx:=hkO.resolve_right ha0;have hn:=hnst ha0;have ho:=hn.out;have ho2:=(hold2 kO hkO2).trans ho;have q2:¬ (m=kO):=by omega
   have hnl:=uY hn.len;rw [ω,τ] at hnl;have htk:(vQ ks ((List.range a).map λa=>rows .i64 (jl p l sts t a sts.length))).take a=vQ ks ((List.range a).map λa=>rows .i64 (jl p l sts t a sts.length)):=Aa (by omega);have hsn:=iX hn.len kW (rows .i64 own);rw [yU,hown] at hsn;rw [show wE kO a = .yD kO 1 a by unfold wE; rw [if_neg ha0]];refine rI hd2 q2 ho2 hnl htk ?_
   refine⟨⟨a+1,m+1+1,m+1,ks ++ [kW],(m+1,⟨1,vQ ks ((List.range a).map λa=>rows .i64 (jl p l sts t a sts.length))++ [[.yD kW 1 sts.length]]⟩) :: (m,⟨1,[[.yD kW 1 sts.length]]⟩) :: yN ob kO⟩,⟨hstep kW (m+1) (m+1+1) _ ⟨by omega,by omega⟩ ⟨by omega,by omega⟩ (by omega) ?_ ?_ ?_,hpos2⟩,?_,by show p.xV.length-(a+1)<_; omega⟩
   ·rw [xX,if_pos rfl,hsn]
   ·rw [xX,if_neg (by omega),xX,if_neg (by omega),xC,if_neg (by omega)];exact w3
   ·intro k hk hk2;rw [xX,if_neg (by omega),xX,if_neg (by omega),xC,if_neg (λe=>(hk2.resolve_left ha0) e.symm)];exact hold2 k hk
   ·rw [show wE (m+1) (a+1)= .yD (m+1) 1 (a+1) by unfold wE; rw [if_neg (by omega)]];exact yL
 have hd2:((r:Int)<(sts.length:Int)):=by omega
 have h75:=hha r hrl;have hfr:=hfa r hrl;have hwg:=howg r hrl;have htk:=yE (d:=0) (show r<own.length by omega);rw [hwg] at htk
 have hpr2:0<=qJ l a (tX p sts t a r)->∀ r',r'<r+1->0<=qJ l a (tX p sts t a r'):=λh r' hr'=>by
  by_cases e:r'=r
  ·subst e; exact h
  ·exact hpr r' (by omega)
 have hmvE:kj l a (tX p sts t a r)= (l.getD (qJ l a (tX p sts t a r)).toNat iR).mv:=rfl;have hix:=λh0=>@u7 l a (tX p sts t a r) h0;have q1:¬ (m=nx):=by omega
 have hidx:=Yt (σ:=⟨m+1,(m,⟨1,[[.sl 1 (us (tX p sts t a r))]]⟩) :: ob⟩) (g:=137) (caps:=[.ref nx 1 0 0,.ref m 1 0 0]) (c:=l) (f:=uU a (tX p sts t a r)) hll
  λd _=>Tc (by rw [xX,if_neg q1]; exact gx) (by rw [xX,if_pos rfl]) d
 rw [show kH (uU a (tX p sts t a r)) l 0=qJ l a (tX p sts t a r) from rfl] at hidx;generalize qJ l a (tX p sts t a r)= ix at *;generalize tX p sts t a r=h at *
 by_cases hix0:ix<0
 ·obtain⟨rfl,rfl⟩:=hno (hfr hix0);refine nQ hd2 gx ?_;refine .go (cr h75) ?_;refine vR q1 ?_;refine .go hidx ?_;refine xH hix0 ?_;exact .drop (by simp) (by simp [vw,vC])
 obtain⟨x1,x2⟩:=hix (by omega);have hgc:=iA l x1;have hmv2:=hmvE;unfold uI.row at hgc;rw [<- hmv2] at hgc;have hixp:0<=ix:=by omega
 generalize kj l a h=z at *;generalize l.getD ix.toNat iR=c at *
 by_cases hj0:r=0
 ·subst hj0;have hd20:(0:Int)<(sts.length:Int):=by omega
  rw [show wE kW 0=D.xL from rfl];refine nQ hd20 gx ?_;refine .go (cr h75) ?_;refine vR q1 ?_;refine .go hidx ?_;refine uC hix0 zA x2 hgc ?_
  refine⟨⟨0+1,m+1+1,m+1,(m+1,⟨1,[[.int .i64 z]]⟩) :: (m,⟨1,[[.sl 1 (us h)]]⟩) :: ob⟩,⟨⟨by show 0+1<=_; omega,by show nx+1<=m+1+1; omega,λ_=>⟨by show nx+1<=m+1; omega,by show m+1<m+1+1; omega,?_⟩,λk hk=>?_⟩,hpr2 hixp⟩,?_,by show sts.length-(0+1)<_; omega⟩
  ·show St.look ((m+1,_) :: _) (m+1)= _;rw [xX,if_pos rfl];show _=some (Ob.mk 1 (rows .i64 (own.take (0+1))));rw [htk]; rfl
  ·show St.look ((m+1,_) :: (m,_) :: ob) k=_;rw [xX,if_neg (by omega),xX,if_neg (by omega)];exact hold k hk
  ·rw [show wE (m+1) (0+1)= .yD (m+1) 1 1 from rfl];exact yL
 ·obtain⟨w1,w2,w3⟩:=hkW hj0;have q2:¬ (m=kW):=by omega
  have q3:¬ (m+1=kW):=by omega
  have hol:(own.take r).length=r:=by rw [Ad]; omega
  have htt:(own.take r).take r=own.take r:=by rw [List.take_take,Nat.min_self]
  rw [show wE kW r = .yD kW 1 r by unfold wE; rw [if_neg hj0]];refine nQ hd2 gx ?_;refine .go (cr h75) ?_;refine vR q1 ?_;refine .go hidx ?_;refine NT hix0 zA x2 hgc q1 q2 q3 w3 yU hol htt ?_
  refine⟨⟨r+1,m+1+1,m+1,(m+1,⟨1,rows .i64 (own.take r ++ [z])⟩) :: (m,⟨1,[[.sl 1 (us h)]]⟩) :: yN ob kW⟩,⟨⟨by show r+1<=_; omega,by show nx+1<=m+1+1; omega,λ_=>⟨by show nx+1<=m+1; omega,by show m+1<m+1+1; omega,?_⟩,λk hk=>?_⟩,hpr2 hixp⟩,?_,by show sts.length-(r+1)<_; omega⟩
  ·show St.look ((m+1,_) :: _) (m+1)= _;rw [xX,if_pos rfl];show _=some (Ob.mk 1 (rows .i64 (own.take (r+1))));rw [htk]
  ·show St.look ((m+1,_) :: (m,_) :: yN ob kW) k=_;rw [xX,if_neg (by omega),xX,if_neg (by omega),xC,if_neg (by omega)];exact hold k hk
  ·rw [show wE (m+1) (r+1)= .yD (m+1) 1 (r+1) by unfold wE; rw [if_neg (by omega)]];exact yL
open Rs Fm Ru Te Kb
namespace Kb
def fW (A:Nat) (s:BitVec 64) (f:List Nd) (i:Nat):Bool:=(sS (vE A s) A 1 f f.length).getD i (λ_=>false) (0,0)
section
variable {φ : Nat -> Bool} {n k : Nat}
end
theorem KN {op:Int} (h:(xY op).1.fr.toNat=0) (h2:(xY op).2=true):op=1\/op=2\/op=3\/op=4\/op=5\/op=6\/op=7\/op=8:=by
 rcases rV op with rfl | rfl | rfl | rfl | rfl | rfl | rfl | rfl | rfl | rfl | rfl | rfl | rfl | rfl | rfl | rfl | rfl | rfl | rfl | rfl | rfl | h3 | h3
 rotate_right 2
 ·rw [vM (.inl h3)] at h2; cases h2
 ·rw [vM (.inr h3)] at h2; cases h2
 all_goals first | omega | (exact absurd h (by decide))
theorem Oa {A:Nat} {s:BitVec 64} {f:List Nd} (hv:vP f) {k:Nat} (hk:k<f.length) {p:Nd} (hp:f.getD k vV=p) (h8:p.op=1\/p.op=2\/p.op=3\/p.op=4\/p.op=5\/p.op=6\/p.op=7\/p.op=8) :
  fW A s f k=Sl (vE A s) p (λ_=>fW A s f p.x.toNat) (λ_=>fW A s f p.y.toNat) (0,0):=by
 obtain⟨ox,oy,_,_⟩:=tK (hv k hk)
 have hn:fW A s f k=gB (vE A s) A 1 p ((sS (vE A s) A 1 f k).getD p.x.toNat λ_=>false) ((sS (vE A s) A 1 f k).getD p.y.toNat λ_=>false) (0,0):=by show (sS (vE A s) A 1 f f.length).getD k (λ_=>false) (0,0)= _;rw [iu hk,hp]
 rw [hp] at ox oy
 have oJ:∀ j,j<k->(sS (vE A s) A 1 f k).getD j (λ_=>false) (0,0)= fW A s f j:=λj hj=>by obtain⟨m,hm⟩:=Ai (show k<=f.length by omega);unfold fW;rw [hm,jA m hj]
 rw [hn];obtain⟨op,i,e,g,x,y⟩:=p;simp only at ox oy h8 ⊢
 rcases h8 with rfl | rfl | rfl | rfl | rfl | rfl | rfl | rfl
 ·rfl
 ·rfl
 ·rfl
 ·show (!(sS (vE A s) A 1 f k).getD x.toNat (λ_=>false) (0,0))= !fW A s f x.toNat;rw [oJ _ (ox rfl).2]
 ·show ((sS (vE A s) A 1 f k).getD x.toNat (λ_=>false) (0,0)&& (sS (vE A s) A 1 f k).getD y.toNat (λ_=>false) (0,0))= (fW A s f x.toNat&&fW A s f y.toNat);rw [oJ _ (ox rfl).2,oJ _ (oy rfl).2]
 ·show ((sS (vE A s) A 1 f k).getD x.toNat (λ_=>false) (0,0) || (sS (vE A s) A 1 f k).getD y.toNat (λ_=>false) (0,0))= (fW A s f x.toNat || fW A s f y.toNat);rw [oJ _ (ox rfl).2,oJ _ (oy rfl).2]
 ·show (!(sS (vE A s) A 1 f k).getD x.toNat (λ_=>false) (0,0) || (sS (vE A s) A 1 f k).getD y.toNat (λ_=>false) (0,0))= (!fW A s f x.toNat || fW A s f y.toNat);rw [oJ _ (ox rfl).2,oJ _ (oy rfl).2]
 ·show ((sS (vE A s) A 1 f k).getD x.toNat (λ_=>false) (0,0)== (sS (vE A s) A 1 f k).getD y.toNat (λ_=>false) (0,0))= (fW A s f x.toNat==fW A s f y.toNat);rw [oJ _ (ox rfl).2,oJ _ (oy rfl).2]
end Kb
open Rs Fm Ru Te Kb
theorem z6 (n:Nat):xA prog 262 [.int .i64 n] (.int .u64 (ui (wM n))):=by
 refine xI func262 Jc λhf=>?_;unfold wM
 by_cases h:64<=n
 ·have e:(64:Int)<=(n:Int):=by omega
  rw [if_pos h];refine xH e ?_;exact .same
 ·have e:¬ (64:Int)<=(n:Int):=by omega
  rw [if_neg h];refine vR e ?_;exact .same
theorem Ql (x:BitVec 64):x % 2#64=x &&& 1#64:=by refine BitVec.eq_of_toNat_eq ?_;rw [BitVec.toNat_umod,BitVec.toNat_and];exact(Nat.and_one_is_mod x.toNat).symm
theorem Oz (s:BitVec 64) {w:Nat} (hw:w<64):xA prog 277 [.int .u64 (ui s),.int .i64 w] (.bool (s.getLsbD w)):=by
 have h1:((0:Int)<=(w:Int)):=by omega
 have h2:((w:Int)<64):=by omega
 have hb:(s >>> w % 2#64==1#64)= s.getLsbD w:=by rw [Ql,Zt]
 refine xI func277 Jm λhf=>?_;refine rF h1 h2 hb ?_;exact .dv
theorem tg {r:List (BitVec 64)} (hl:r.length<=64) (s:BitVec 64):xA prog 264 [.sl 1 (us r),.int .i64 r.length,.int .u64 (ui s)] (.int .u64 (ui (oG r s))):=by
 refine xI func264 Je λhf=>?_;refine xJ ?_
 refine xU (λk:Nat=>[(8,.int .i64 k),(7,.int .u64 (ui (lX r s k))),(2,.int .u64 (ui s)),(1,.int .i64 r.length),(0,.sl 1 (us r))]) (λ_=>⟨0,[]⟩) (λk=>k<=r.length) (λk=>r.length-k) 0 (Ae _) ?_ ?_
 ·(refine yR.same ?_; simp [yS,Fr.get])
  rfl
 intro k hk;refine xN mixed ?_
 by_cases h:k<r.length
 ·have hd:((k:Int)<(r.length:Int)):=by omega
  have hg:=yF r h;have hs:lX r s (k+1)= if (r.getD k 0 &&& ~~~s==0#64)= true then lX r s k ||| 1#64 <<< k else lX r s k:=rfl
  cases e:(r.getD k 0 &&& ~~~s==0#64) with
  | true=> rw [e,if_pos rfl] at hs;refine uC hd xT hg e ?_;refine⟨k+1,by omega,?_,by omega⟩;rw [hs];exact yL
  | false=> rw [e,if_neg (by simp)] at hs;refine uC hd xT hg e ?_;refine⟨k+1,by omega,?_,by omega⟩;rw [hs];exact yL
 ·have hd:¬ ((k:Int)<(r.length:Int)):=by omega
  have hk':k=r.length:=by omega
  subst hk';refine xH hd ?_;exact .same
namespace Kb
def bY (op:Int) (x y all:BitVec 64):BitVec 64:= if op=1 then all else if op=4 then all &&& ~~~x else if op=5 then x &&& y else if op=6 then x ||| y else if op=7 then all &&& ~~~x ||| y else if op=8 then all &&& ~~~(x ^^^ y) else 0#64
end Kb
theorem YD (op:Int) (h:1<=op/\op<=8) (x y all:BitVec 64):xA prog 263 [.int .i64 op,.int .u64 (ui x),.int .u64 (ui y),.int .u64 (ui all)] (.int .u64 (ui (bY op x y all))):=by
 have hc:op=1\/op=2\/op=3\/op=4\/op=5\/op=6\/op=7\/op=8:=by omega
 rcases hc with rfl | rfl | rfl | rfl | rfl | rfl | rfl | rfl
 all_goals
  refine xI func263 Jd λhf=>?_;refine xJ ?_;exact .drop (by simp) (by simp [vw,bY])
open Rs Fm Ru Te Kb
theorem ns {l:List (BitVec 64)} (hl:l.length<=1000) {W:Nat} (h:∀ x ∈ l,iQ W x=false):xA prog 268 [.sl 1 (us l),.int .i64 W] (.bool false):=by
 have ha:=z6 W;refine xI func268 Ji λhf=>?_;refine xJ ?_
 refine xU (λk:Nat=>[(5,.int .i64 k),(1,.int .i64 W),(0,.sl 1 (us l))]) (λ_=>⟨0,[]⟩) (λk=>k<=l.length) (λk=>l.length-k) 0 (Ae _) ?_ ?_
 ·exact wO
 intro k hk;refine xN mixed ?_
 by_cases hkl:k<l.length
 ·have hd:((k:Int)<(l.length:Int)):=by omega
  have hg:=yF l hkl;have ho:=h _ (xK (d:=0) hkl);generalize l.getD k 0=x at hg ho
  have e:(x &&& ~~~wM W==0#64)= true:=by unfold iQ at ho;simpa using ho
  have e2:(x &&& ~~~wM W != 0#64)= false:=by simpa using e
  refine rF hd xT hg ?_;refine .go (cr ha) ?_;refine nQ e2 e ?_;refine⟨k+1,by omega,?_,by omega⟩;exact yL
 ·have hd:¬ ((k:Int)<(l.length:Int)):=by omega
  refine yO hd xT ?_;exact .dv
theorem gu {m:vZ} {W:Nat} (ok:qG m W):xA prog 241 [m.d] (.int .i64 0):=by
 obtain⟨W1,W64⟩:=ok.hW;have h1:¬ (W:Int)<1:=by omega
 have h2:¬ (64:Int)<(W:Int):=by omega
 have h3:¬ (4:Int)<(m.R.length:Int):=by have:=ok.hR; omega
 have h4:¬ (8:Int)<(m.V.length:Int):=by have:=ok.hV; omega
 have hR:=ok.hR;have hv:=ns (W:=W) (by have:=ok.hV; omega) ok.val;have hr:=λr (hr:r ∈ m.R)=>ns (W:=W) (by have:=ok.row r hr; omega) (ok.rel r hr);have hrow:=ok.row;have hw:=ok.w;unfold vZ.d;rw [hw];generalize m.R=R at *;generalize m.V=V at *;refine xI func241 JV λhf=>?_;refine pH h1 h2 yZ xT h3 h4 ?_
 refine xU (λk:Nat=>[(3,.int .i64 k),(1,.ref 0 3 0 0)]) (λ_=>⟨1,[(0,⟨3,[[.int .i64 W,.sl 1 (us V),.sl 1 (rr R)]]⟩)]⟩) (λk=>k<=R.length) (λk=>R.length-k) 0 (Ae _) ?_ ?_
 ·exact wO
 intro k hk;refine xN mixed ?_
 by_cases hkl:k<R.length
 ·have hd:((k:Int)<(R.length:Int)):=by omega
  have hg:=tZ R hkl;have hrl:=hrow _ (xK (d:=[]) hkl);generalize R.getD k []=r at hg hrl;have e:((r.length:Int) != (W:Int))= false:=by rw [hrl]; simp
  refine rI hd yZ xT hg e ?_;refine⟨k+1,by omega,?_,by omega⟩;exact yL
 have hd:¬ ((k:Int)<(R.length:Int)):=by omega
 clear hk hkl;refine nQ hd yZ ?_;refine .go (cr hv) ?_;refine xJ ?_
 refine xU (λk:Nat=>[(4,.int .i64 k),(1,.ref 0 3 0 0)]) (λ_=>⟨1,[(0,⟨3,[[.int .i64 W,.sl 1 (us V),.sl 1 (rr R)]]⟩)]⟩) (λk=>k<=R.length) (λk=>R.length-k) 0 (Ae _) ?_ ?_
 ·exact wO
 clear hd;intro k hk;refine xN mixed ?_
 by_cases hkl:k<R.length
 ·have hd:((k:Int)<(R.length:Int)):=by omega
  have hg:=tZ R hkl;have hr:=hr _ (xK (d:=[]) hkl);generalize R.getD k []=r at hg hr;refine uC hd yZ xT hg ?_;refine .go (cr hr) ?_;refine zI ?_;refine⟨k+1,by omega,?_,by omega⟩;exact yL
 ·have hd:¬ ((k:Int)<(R.length:Int)):=by omega
  refine yO hd yZ ?_;exact .dv
open Rs Fm Ru Te Kb
namespace Kb
def nA (R:List (List (BitVec 64))) (G:Nat) (meet:Bool) (W w:Nat):Nat->BitVec 64
 | 0=>if meet=true then wM W else 0#64
 | k+1=>if G.testBit k=true then Pn meet (nA R G meet W w k) ((R.getD k []).getD w 0) else nA R G meet W w k
theorem YS (R:List (List (BitVec 64))) (G:Nat) (meet:Bool) {W:Nat} (hW:W<=64) (w:Nat) {v:Nat} (hv:v<64):∀ k,(nA R G meet W w k).getLsbD v=(bZ R G meet k w v&&(!meet || decide (v<W)))
 | 0=>by
  unfold nA bZ
  cases meet
  ·simp
  ·simp [uL hW hv]
 | k+1=>by
  unfold nA;rw [cG];have ih:=YS R G meet hW w hv k
  cases G.testBit k
  ·simp only [An,↓reduceIte]; exact ih
  ·simp only [↓reduceIte];rw [Vh,ih]
   cases meet
   ·simp
   ·simp only [↓reduceIte,Bool.not_true,Bool.false_or];cases bZ R G true k w v <;> cases ((R.getD k []).getD w 0).getLsbD v <;> simp
theorem Tp {m:vZ} {W:Nat} (ok:qG m W) {g:Nat} (hg:1<=g/\g<2 ^ m.R.length) (meet:Bool):(List.range W).map (λw=>nA m.R g meet W w m.R.length)= yA m g meet:=by
 obtain⟨⟨a,ha,hb⟩,hl,hv⟩:=qZ ok hg meet;have hW:=ok.hW;refine List.ext_getElem (by simp [hl]) λw h1 h2=>?_;simp only [ω,τ] at h1;have e:(yA m g meet)[w]=(yA m g meet).getD w 0:=by simp [List.getD,h2]
 rw [e,List.getElem_map,List.getElem_range];refine ε λv hv64=>?_;rw [YS _ _ _ hW.2 _ hv64,hv w h1 v]
 cases hm:meet with
 | false=>simp
 | true=>
  cases hbt:bZ m.R g true m.R.length w v with
  | false=>rfl
  | true=>
   have hx:((m.R.getD a []).getD w 0).getLsbD v=true:=by unfold bZ at hbt;rw [if_pos rfl,υ] at hbt;have:=hbt a (ν.2 ha);rw [hb] at this;simpa using this
   have hmm:=xK (d:=[]) ha;have:=iB hW.2 (ok.rel _ hmm _ (xK (d:=0) (by rw [ok.row _ hmm]; exact h1))) hx;simp [this]
end Kb
theorem gy {m:vZ} {W:Nat} (ok:qG m W) {g:Nat} (hg:1<=g/\g<2 ^ m.R.length) (meet:Bool):xA prog 274 [m.d,.int .i64 g,.bool meet] (.sl 1 (us (yA m g meet))):=by
 have hc:=gu ok;have ha:=z6 W;have h4:=ok.hR;obtain⟨W1,W64⟩:=ok.hW;have hsh:=tj (k:=m.R.length) (by omega);have h2:¬ (g:Int)<1:=by omega
 have h3:¬ ((2 ^ m.R.length:Nat):Int)<=(g:Int):=by omega
 have hrow:=ok.row;have hw:=ok.w;have hbt:∀ k,k<m.R.length->(((g / 2 ^ k:Nat):Int).tmod 2==1)= g.testBit k:=λk _=>by rw [W2,ah]
 have hsr:=λk (hk:k<m.R.length)=>kA g k (by omega);have hend:=Tp ok hg meet;refine rS ?_;have hL:(yA m g meet).length=W:=(qZ ok hg meet).2.1;rw [hL];have hne:yA m g meet ≠ []:=by intro c; rw [c] at hL; simp at hL; omega
 generalize yA m g meet=out at *;unfold vZ.d at hc ⊢;rw [hw] at hc ⊢;generalize m.R=R at *;generalize m.V=V at *;refine xI func274 Jk λhf=>?_;refine zI ?_;refine .go (cr hc) ?_;refine uC h2 h3 hsh yZ ?_
 refine xU (λw:Nat=>[(8,.int .i64 w),(7,xB 1 1 (us ((List.range w).map λw=>nA R g meet W w R.length))),(3,.ref 0 3 0 0),(2,.bool meet),(1,.int .i64 g)])
  (λw=>⟨2,yX 1 1 (us ((List.range w).map λw=>nA R g meet W w R.length))++ [(0,⟨3,[[.int .i64 W,.sl 1 (us V),.sl 1 (rr R)]]⟩)]⟩) (λw=>w<=W) (λw=>W-w) 0 (Ae _) ?_ ?_
 ·(refine rZ [] [0] ?_; simp only [wR,zQ,simprocAttr,-ZA,exists_eq_left',ne_eq,zR,χ,Ab,iN,zK,zL,List.nil_append])
 intro w hk;refine xN mixed ?_
 by_cases hwl:w<W
 ·have hd:((w:Int)<(W:Int)):=by omega
  have hs:(List.range (w+1)).map (λw=>nA R g meet W w R.length)= (List.range w).map (λw=>nA R g meet W w R.length)++ [nA R g meet W w R.length]:=by rw [ο,π]; rfl
  have hl:((List.range w).map λw=>nA R g meet W w R.length).length=w:=by simp
  generalize (List.range w).map (λw=>nA R g meet W w R.length)= acc at hs hl ⊢
  cases meet
  ·refine xH hd ?_
   refine xU (λk:Nat=>[(10,.int .i64 k),(9,.int .u64 (ui (nA R g false W w k))),(8,.int .i64 w),(7,xB 1 1 (us acc)),(3,.ref 0 3 0 0),(2,.bool false),(1,.int .i64 g)])
    (λ_=>⟨2,yX 1 1 (us acc)++ [(0,⟨3,[[.int .i64 W,.sl 1 (us V),.sl 1 (rr R)]]⟩)]⟩) (λk=>k<=R.length) (λk=>R.length-k) 0 (Ae _) ?_ ?_
   ·(refine rZ [] [1,0] ?_; simp only [wR,zQ,simprocAttr,-ZA,exists_eq_left',ne_eq,zR,nA,An])
   intro k hk2;refine xN mixed ?_
   by_cases hkl:k<R.length
   ·have hd2:((k:Int)<(R.length:Int)):=by omega
    have hb:=hbt k hkl;have hsk:=hsr k hkl;have hrg:=tZ R hkl;have hrl:=hrow _ (xK (d:=[]) hkl);have hu:=wK (k:=k) (by omega);have hss:nA R g false W w (k+1)= if g.testBit k=true then nA R g false W w k ||| (R.getD k []).getD w 0 else nA R g false W w k:=rfl;generalize R.getD k []=r at hrg hrl hss;have hrw:=yF r (show w<r.length by omega);have hd3:((w:Int)<(r.length:Int)):=by omega
    cases hbb:g.testBit k with
    | true=> rw [hbb] at hb;rw [hbb,if_pos rfl] at hss;refine j9 hd2 yZ xT hsk hb hrg hrw hd3 hu ?_;refine⟨k+1,by omega,?_,by omega⟩;rw [hss];exact mD [] [1,0]
    | false=> rw [hbb] at hb;rw [hbb,if_neg (by simp)] at hss;refine j9 hd2 yZ xT hsk hb hrg hrw hd3 hu ?_;refine⟨k+1,by omega,?_,by omega⟩;rw [hss];exact mD [] [1,0]
   have hd2:¬ ((k:Int)<(R.length:Int)):=by omega
   obtain rfl:k=R.length:=by omega
   generalize nA R g false W w R.length=z at *;have hu:=wK (k:=w) (by omega);refine uC hd2 yZ xT hu ?_;refine⟨w+1,by omega,?_,by omega⟩;rw [hs];exact mD [(1,2)] [1,0]
  ·refine xH hd ?_;refine .go (cr ha) ?_;refine xJ ?_
   refine xU (λk:Nat=>[(10,.int .i64 k),(9,.int .u64 (ui (nA R g true W w k))),(8,.int .i64 w),(7,xB 1 1 (us acc)),(3,.ref 0 3 0 0),(2,.bool true),(1,.int .i64 g)])
    (λ_=>⟨2,yX 1 1 (us acc)++ [(0,⟨3,[[.int .i64 W,.sl 1 (us V),.sl 1 (rr R)]]⟩)]⟩) (λk=>k<=R.length) (λk=>R.length-k) 0 (Ae _) ?_ ?_
   ·(refine rZ [] [1,0] ?_; simp only [wR,zQ,simprocAttr,-ZA,exists_eq_left',ne_eq,zR,nA,An])
   intro k hk2;refine xN mixed ?_
   by_cases hkl:k<R.length
   ·have hd2:((k:Int)<(R.length:Int)):=by omega
    have hb:=hbt k hkl;have hsk:=hsr k hkl;have hrg:=tZ R hkl;have hrl:=hrow _ (xK (d:=[]) hkl);have hu:=wK (k:=k) (by omega);have hss:nA R g true W w (k+1)= if g.testBit k=true then nA R g true W w k &&& (R.getD k []).getD w 0 else nA R g true W w k:=rfl;generalize R.getD k []=r at hrg hrl hss;have hrw:=yF r (show w<r.length by omega);have hd3:((w:Int)<(r.length:Int)):=by omega
    cases hbb:g.testBit k with
    | true=> rw [hbb] at hb;rw [hbb,if_pos rfl] at hss;refine j9 hd2 yZ xT hsk hb hrg hrw hd3 hu ?_;refine⟨k+1,by omega,?_,by omega⟩;rw [hss];exact mD [] [1,0]
    | false=> rw [hbb] at hb;rw [hbb,if_neg (by simp)] at hss;refine j9 hd2 yZ xT hsk hb hrg hrw hd3 hu ?_;refine⟨k+1,by omega,?_,by omega⟩;rw [hss];exact mD [] [1,0]
   have hd2:¬ ((k:Int)<(R.length:Int)):=by omega
   obtain rfl:k=R.length:=by omega
   generalize nA R g true W w R.length=z at *;have hu:=wK (k:=w) (by omega);refine uC hd2 yZ xT hu ?_;refine⟨w+1,by omega,?_,by omega⟩;rw [hs];exact mD [(1,2)] [1,0]
 ·have hd:¬ ((w:Int)<(W:Int)):=by omega
  obtain rfl:w=W:=by omega
  rw [hend,eQ (by intro c; apply hne; cases out with | nil=>rfl | cons x r=>cases c),lN (by intro c; apply hne; cases out with | nil=>rfl | cons x r=>cases c),xT,hL];refine xH hd ?_
  (refine sH.VB [(0,1)] [0] (by simp) (by simp) (by decide) ?_; simp only [wR,zQ,simprocAttr,-ZA,exists_eq_left',ne_eq,zR])
theorem gw {m:vZ} {W:Nat} (ok:qG m W) {g:Nat} (hg:1<=g/\g<2 ^ m.R.length):xA prog 265 [m.d,.int .i64 g] (.sl 1 (us (yA m g false))):=by have h:=gy ok hg false;unfold vZ.d at h ⊢;refine xI func265 Jf λhf=>?_;refine zI ?_;refine .go (xQ.yP h (by simp [D.xR,D.xF,vT])) ?_;refine xJ ?_;exact .drop (by simp) (by simp [vw,yC])
theorem RE {m:vZ} {W:Nat} (ok:qG m W) {g:Nat} (hg:1<=g/\g<2 ^ m.R.length):xA prog 266 [m.d,.int .i64 g] (.sl 1 (us (yA m g true))):=by have h:=gy ok hg true;unfold vZ.d at h ⊢;refine xI func266 Jg λhf=>?_;refine zI ?_;refine .go (xQ.yP h (by simp [D.xR,D.xF,vT])) ?_;refine xJ ?_;exact .drop (by simp) (by simp [vw,yC])
open Rs Fm Ru Te Kb
namespace Kb
def pB (r:List (BitVec 64)) (c s:BitVec 64):Nat->BitVec 64
 | 0=>s
 | w+1=>if (pB r c s w).getLsbD w=true then pB r c s w ||| r.getD w 0 &&& c else pB r c s w
def tH (r:List (BitVec 64)) (c s:BitVec 64):Nat->BitVec 64
 | 0=>s
 | i+1=>pB r c (tH r c s i) r.length
def jL (r:List (BitVec 64)) (c:BitVec 64) (w:Nat):BitVec 64:=tH r c (r.getD w 0 &&& c) r.length
def l8 (a b:BitVec 64):Prop:=∀ v:Nat,a.getLsbD v=true->b.getLsbD v=true
section
variable {r : List (BitVec 64)} {c s t : BitVec 64}
theorem MU (h1:l8 s t) (h2:l8 t s):s=t:=by refine ε λv _=>?_;rw [Al];exact⟨h1 v,h2 v⟩
theorem su (r:List (BitVec 64)) (c s:BitVec 64):∀ w,l8 s (pB r c s w)
 | 0=>λ_ h=>h
 | w+1=>λv h=>by
  have ih:=su r c s w v h;unfold pB
  split
  ·rw [ζ,ih,Bool.true_or]
  ·exact ih
theorem Vj (hc:∀ u,u<r.length->t.getLsbD u=true->l8 (r.getD u 0 &&& c) t) (hs:l8 s t):∀ w,w<=r.length->l8 (pB r c s w) t
 | 0,_=>hs
 | w+1,hw=>λv h=>by
  have ih:=Vj hc hs w (by omega);unfold pB at h
  split at h
  ·rename_i hb;rw [ζ,Bool.or_eq_true] at h
   rcases h with h | h
   ·exact ih v h
   ·exact hc w (by omega) (ih w hb) v h
  ·exact ih v h
theorem XQ (r:List (BitVec 64)) (c s:BitVec 64):∀ w u,u<w->s.getLsbD u=true->l8 (r.getD u 0 &&& c) (pB r c s w)
 | 0,u,h,_=>by omega
 | w+1,u,h,hs=>λv hv=>by
  unfold pB
  by_cases e:u=w
  ·subst e;rw [if_pos (su r c s u u hs),ζ,hv,Bool.or_true]
  ·have ih:=XQ r c s w u (by omega) hs v hv
   split
   ·rw [ζ,ih,Bool.true_or]
   ·exact ih
theorem tf (hc:∀ u,u<r.length->t.getLsbD u=true->l8 (r.getD u 0 &&& c) t) (hs:l8 s t):∀ i,l8 (tH r c s i) t
 | 0=>hs
 | i+1=>Vj hc (tf hc hs i) _ (Af _)
def jz (s:BitVec 64):Nat->Nat
 | 0=>0
 | k+1=>jz s k+(s.getLsbD k).toNat
theorem SL (s:BitVec 64):∀ k,jz s k<=k
 | 0=>Af _
 | k+1=>by have:=SL s k;unfold jz;cases s.getLsbD k <;> simp <;> omega
theorem Yd (h:l8 s t):∀ k,jz s k<=jz t k
 | 0=>Af _
 | k+1=>by
  have:=Yd h k;unfold jz
  cases e:s.getLsbD k with
  | false=>simp; omega
  | true=>rw [h k e]; simp; omega
theorem SM (h:l8 s t) {v:Nat} (h1:s.getLsbD v=false) (h2:t.getLsbD v=true):∀ k,v<k->jz s k<jz t k
 | 0,hv=>by omega
 | k+1,hv=>by
  unfold jz
  by_cases e:v=k
  ·subst e;have:=Yd h v;rw [h1,h2]; simp; omega
  ·have ih:=SM h h1 h2 k (by omega)
   cases e2:s.getLsbD k with
   | false=>simp; omega
   | true=>rw [h k e2]; simp; omega
theorem wt {n:Nat} (h:tH r c s (n+1)= tH r c s n):∀ m,tH r c s (n+m)= tH r c s n
 | 0=>rfl
 | m+1=>by show pB r c (tH r c s (n+m)) r.length=_;rw [wt h m];exact h
theorem R7 (ok:aA r) (hs:∀ v:Nat,s.getLsbD v=true->v<r.length):tH r c s (r.length+1)= tH r c s r.length:=by
 have hall:∀ i,∀ v:Nat,(tH r c s i).getLsbD v=true->v<r.length:=λi=>by
  have h:=tf (r:=r) (c:=c) (s:=s) (t:=wM r.length) (λu hu _ v hv=>?_) (λv hv=>?_) i
  ·intro v hv;have h1:=h v hv;have h64:v<64:=Decidable.byContradiction λhh=>by rw [δ _ _ (by omega)] at h1; cases h1
   rw [uL ok.len h64] at h1;exact of_decide_eq_true h1
  ·have h64:v<64:=Decidable.byContradiction λhh=>by rw [δ _ _ (by omega)] at hv; cases hv
   rw [γ,Ak] at hv;rw [uL ok.len h64];exact decide_eq_true (iB ok.len (ok.ins _ (xK (d:=0) hu)) hv.1)
  ·have:=ok.len;rw [uL ok.len (by have:=hs v hv; omega)];exact decide_eq_true (hs v hv)
 refine Decidable.byContradiction λhne=>?_
 have key:∀ i,i<=r.length+1->i<=jz (tH r c s i) r.length:=by
  intro i
  induction i with
  | zero=>intro _; exact Ae _
  | succ i ih=>
   intro hi;have h1:=ih (by omega);have hup:l8 (tH r c s i) (tH r c s (i+1)):=su _ _ _ _
   have hx:∃ v:Nat,(tH r c s i).getLsbD v=false/\(tH r c s (i+1)).getLsbD v=true:=by
    refine Classical.byContradiction λhno=>?_
    have e:tH r c s (i+1)= tH r c s i:=(MU hup λv hv=>by
     cases hb:(tH r c s i).getLsbD v with
     | true=>rfl
     | false=>exact absurd ⟨v,hb,hv⟩ hno).symm
    apply hne;obtain⟨m,hm⟩:=Ai (show i<=r.length by omega);rw [hm,wt e,show i+m+1=i+(m+1) by omega,wt e]
   obtain⟨v,hv1,hv2⟩:=hx;have:=SM hup hv1 hv2 r.length (hall _ v hv2);omega
 have:=key _ (Af _);have:=SL (tH r c s (r.length+1)) r.length;omega
theorem YB (ok:aA r) (hs:∀ v:Nat,s.getLsbD v=true->v<r.length):∀ u,u<r.length->(tH r c s r.length).getLsbD u=true->l8 (r.getD u 0 &&& c) (tH r c s r.length):=λu hu h=>by
 have h1:=XQ r c _ r.length u hu h;have e:=R7 (c:=c) ok hs;rw [show tH r c s (r.length+1)= pB r c (tH r c s r.length) r.length from rfl] at e
 rwa [e] at h1
theorem Vk (r:List (BitVec 64)) (c s:BitVec 64):∀ i,l8 s (tH r c s i)
 | 0=>λ_ h=>h
 | i+1=>λv h=>su _ _ _ _ v (Vk r c s i v h)
theorem Nx (ok:aA r) {N:Nat} (hN:sU r (wM r.length) c s (N+1)= sU r (wM r.length) c s N):oG ((List.range r.length).map (jL r c)) s=sU r (wM r.length) c s N:=by
 have hl:=ok.len;have hg:∀ w,w<r.length->((List.range r.length).map (jL r c)).getD w 0=jL r c w:=λw hw=>by simp [List.getD,hw]
 have hst:∀ w,w<r.length->∀ v:Nat,(r.getD w 0 &&& c).getLsbD v=true->v<r.length:=λw hw v hv=>by rw [γ,Ak] at hv;exact iB hl (ok.ins _ (xK (d:=0) hw)) hv.1
 have hbit:∀ n w,w<r.length->((sU r (wM r.length) c s (n+1)).getLsbD w=true ↔ ∀ v,v<64->(r.getD w 0).getLsbD v=true->(c.getLsbD v=false\/(s.getLsbD v=true/\(sU r (wM r.length) c s n).getLsbD v=true))):=λn w hw=>by show (lX r (wM r.length &&& ~~~c ||| s &&& sU r (wM r.length) c s n) r.length).getLsbD w=true ↔ _;rw [lM _ _ _ _ hl,decide_eq_true hw,Aj,eB];refine forall_congr' λv=>forall_congr' λhv=>forall_congr' λhr=>?_;have hvl:v<r.length:=iB hl (ok.ins _ (xK (d:=0) hw)) hr;rw [ζ,γ,γ,uL hl hv,η,decide_eq_true hvl,decide_eq_true hv];cases c.getLsbD v <;> simp
 refine ε λw hw64=>?_;unfold oG;rw [lM _ _ _ _ (by simpa using hl)];simp only [ω,τ];by_cases hw:w<r.length
 case neg=> rw [decide_eq_false hw,Am,<- hN];show false=(lX r _ r.length).getLsbD w;rw [lM _ _ _ _ hl,decide_eq_false hw,Am]
 rw [decide_eq_true hw,Aj,hg w hw,Al,eB]
 constructor
 ·have key:∀ m w,w<r.length->l8 (jL r c w) s->(sU r (wM r.length) c s m).getLsbD w=true:=by
   intro m
   induction m with
   | zero=>intro w hw _; show (wM r.length).getLsbD w=true; rw [uL hl (by omega)]; exact decide_eq_true hw
   | succ m ih=>
    intro w hw hp;rw [hbit m w hw];intro v hv hr
    cases hc:c.getLsbD v with
    | false=>exact .inl rfl
    | true=> have hvl:v<r.length:=iB hl (ok.ins _ (xK (d:=0) hw)) hr;have hvp:(jL r c w).getLsbD v=true:=Vk _ _ _ _ v (by rw [γ,hr,hc]; rfl);refine .inr ⟨hp v hvp,ih v hvl λu hu=>hp u ?_⟩;have hcl:=YB (c:=c) ok (hst w hw);exact tf hcl (hcl v hvl hvp) _ u hu
  intro h;refine key N w hw λv hv=>h v ?_ hv;exact Decidable.byContradiction λhh=>by rw [δ _ _ (by omega)] at hv; cases hv
 ·intro h
  have hcl:∀ u,u<r.length->(s &&& sU r (wM r.length) c s N).getLsbD u=true->l8 (r.getD u 0 &&& c) (s &&& sU r (wM r.length) c s N):=λu hu hb v hv=>by
   rw [γ,Ak] at hb hv;have h1:=hb.2;rw [<- hN] at h1;have h64:v<64:=Decidable.byContradiction λhh=>by rw [δ _ _ (by omega)] at hv; cases hv.1
   rcases(hbit N u hu).1 h1 v h64 hv.1 with h2 | ⟨h2,h3⟩
   ·rw [hv.2] at h2; cases h2
   ·rw [γ,h2,h3]; rfl
  have hs0:l8 (r.getD w 0 &&& c) (s &&& sU r (wM r.length) c s N):=λv hv=>by
   rw [γ,Ak] at hv;have h1:=h;rw [<- hN] at h1;have h64:v<64:=Decidable.byContradiction λhh=>by rw [δ _ _ (by omega)] at hv; cases hv.1
   rcases(hbit N w hw).1 h1 v h64 hv.1 with h2 | ⟨h2,h3⟩
   ·rw [hv.2] at h2; cases h2
   ·rw [γ,h2,h3]; rfl
  intro v _ hv;have:=tf hcl hs0 _ v hv;rw [γ,Ak] at this;exact this.1
theorem Lz (hl:r.length<=64) (ins:∀ x ∈ r,iQ r.length x=false) (x:BitVec 64):bd r x=wM r.length &&& ~~~oG r (wM r.length &&& ~~~x):=by
 unfold bd oG;refine ε λw hw=>?_;rw [γ,γ,η,η,lM _ _ _ _ hl,lM _ _ _ _ hl,uL hl hw];by_cases h:w<r.length
 case neg=>rw [decide_eq_false h]; rfl
 congr 3;rw [Al,decide_eq_true h,Aj,Aj,eB,eB];refine forall_congr' λv=>forall_congr' λhv=>forall_congr' λhr=>?_;have hvl:v<r.length:=iB hl (ins _ (xK (d:=0) h)) hr;rw [γ,uL hl hv,decide_eq_true hvl,Aj]
end
end Kb
theorem UO {r:List (BitVec 64)} (hl:r.length<=64) {w:Nat} (hw:w<r.length) (c:BitVec 64):xA prog 275 [.sl 1 (us r),.int .i64 r.length,.int .i64 w,.int .u64 (ui c)] (.int .u64 (ui (jL r c w))):=by
 have hg:=yF r hw;have hd0:((w:Int)<(r.length:Int)):=by omega
 unfold jL;generalize hs0:r.getD w 0=x0 at hg ⊢;refine xI func275 Jl λhf=>?_;refine rF xT hg hd0 ?_
 refine xU (λi:Nat=>[(10,.int .i64 i),(9,.int .u64 (ui (tH r c (x0 &&& c) i))),(3,.int .u64 (ui c)),(1,.int .i64 r.length),(0,.sl 1 (us r))]) (λ_=>⟨0,[]⟩) (λi=>i<=r.length) (λi=>r.length-i) 0 (Ae _) ?_ ?_
 ·(refine yR.same ?_; simp [yS,Fr.get])
  rfl
 intro i hi;refine xN mixed ?_;by_cases hil:i<r.length
 case neg=>
  have hd:¬ ((i:Int)<(r.length:Int)):=by omega
  obtain rfl:i=r.length:=by omega
  refine xH hd ?_;exact .same
 have hd:((i:Int)<(r.length:Int)):=by omega
 have hsn:tH r c (x0 &&& c) (i+1)= pB r c (tH r c (x0 &&& c) i) r.length:=rfl;generalize tH r c (x0 &&& c) i=s at hsn ⊢;refine xH hd ?_
 refine xU (λk:Nat=>[(11,.int .i64 k),(10,.int .i64 i),(9,.int .u64 (ui (pB r c s k))),(3,.int .u64 (ui c)),(1,.int .i64 r.length),(0,.sl 1 (us r))]) (λ_=>⟨0,[]⟩) (λk=>k<=r.length) (λk=>r.length-k) 0 (Ae _) ?_ ?_
 ·(refine yR.same ?_; simp [yS,Fr.get])
  rfl
 intro k hk;refine xN mixed ?_;by_cases hkl:k<r.length
 case neg=>
  have hd2:¬ ((k:Int)<(r.length:Int)):=by omega
  obtain rfl:k=r.length:=by omega
  refine xH hd2 ?_;refine⟨i+1,by omega,?_,by omega⟩;rw [hsn];exact yL
 have hd2:((k:Int)<(r.length:Int)):=by omega
 have hgk:=yF r hkl;have hps:pB r c s (k+1)= if (pB r c s k).getLsbD k=true then pB r c s k ||| r.getD k 0 &&& c else pB r c s k:=rfl;generalize pB r c s k=p at hps ⊢;generalize r.getD k 0=y at hgk hps;have hh:=Oz p (show k<64 by omega);refine xH hd2 ?_;refine .go (cr hh) ?_
 cases hb:p.getLsbD k with
 | true=> rw [hb,if_pos rfl] at hps;refine rF xT hgk hd2 ?_;refine⟨k+1,by omega,?_,by omega⟩;rw [hps];exact yL
 | false=> rw [hb,if_neg (by simp)] at hps;refine rF xT hgk hd2 ?_;refine⟨k+1,by omega,?_,by omega⟩;rw [hps];exact yL
theorem Wu {r:List (BitVec 64)} (hl:r.length<=64) (c s:BitVec 64):xA prog 267 [.sl 1 (us r),.int .i64 r.length,.int .u64 (ui c),.int .u64 (ui s)] (.int .u64 (ui (oG ((List.range r.length).map (jL r c)) s))):=by
 have hp:=λw (hw:w<r.length)=>UO hl hw c;have hg:∀ w,w<r.length->((List.range r.length).map (jL r c)).getD w 0=jL r c w:=λw hw=>by simp [List.getD,hw]
 have hml:((List.range r.length).map (jL r c)).length=r.length:=by simp
 unfold oG;rw [hml];generalize (List.range r.length).map (jL r c)= ps at *;refine xI func267 Jh λhf=>?_;refine xJ ?_
 refine xU (λk:Nat=>[(10,.int .i64 k),(9,.int .u64 (ui (lX ps s k))),(3,.int .u64 (ui s)),(2,.int .u64 (ui c)),(1,.int .i64 r.length),(0,.sl 1 (us r))]) (λ_=>⟨0,[]⟩) (λk=>k<=r.length) (λk=>r.length-k) 0 (Ae _) ?_ ?_
 ·(refine yR.same ?_; simp [yS,Fr.get])
  rfl
 intro k hk;refine xN mixed ?_
 by_cases h:k<r.length
 ·have hd:((k:Int)<(r.length:Int)):=by omega
  have hpk:=hp k h;have hs:lX ps s (k+1)= if (ps.getD k 0 &&& ~~~s==0#64)= true then lX ps s k ||| 1#64 <<< k else lX ps s k:=rfl;rw [hg k h] at hs;generalize jL r c k=y at hpk hs;refine xH hd ?_;refine .go (cr hpk) ?_
  cases e:(y &&& ~~~s==0#64) with
  | true=> rw [e,if_pos rfl] at hs;refine vR e ?_;refine⟨k+1,by omega,?_,by omega⟩;rw [hs];exact yL
  | false=> rw [e,if_neg (by simp)] at hs;refine vR e ?_;refine⟨k+1,by omega,?_,by omega⟩;rw [hs];exact yL
 ·have hd:¬ ((k:Int)<(r.length:Int)):=by omega
  obtain rfl:k=r.length:=by omega
  refine xH hd ?_;exact .same
open Rs Fm Ru Te Kb
namespace Kb
def PT (Q:Nd->Prop):Tr->Prop
 | .nil=>True
 | .nd op i e g x y=>Q ⟨op,i,e,g,0,0⟩/\ PT Q x/\PT Q y
theorem TM {Q:Nd->Prop} (hq:∀ p:Nd,Q p->Q ⟨p.op,p.i,p.e,p.g,0,0⟩) {c:List Nd} (hv:vP c) (h:∀ p ∈ c,Q p):∀ i,i<c.length->PT Q (tree c i):=by
 intro i
 induction i using Nat.strongRecOn with
 | _ i ih=>
  intro hi;obtain⟨ox,oy,_,_⟩:=tK (hv i hi);rw [sF hv hi]
  refine⟨hq _ (h _ (xK hi)),?_,?_⟩
  ·split
   ·rename_i hx; have:=ox hx; exact ih _ (by omega) (by omega)
   ·trivial
  ·split
   ·rename_i hy; have:=oy hy; exact ih _ (by omega) (by omega)
   ·trivial
theorem oh {Q:Nd->Prop} (hq:∀ op i e g a b,Q ⟨op,i,e,g,0,0⟩->Q ⟨op,i,e,g,a,b⟩):∀ (t:Tr) (out:List Nd),PT Q t->(∀ p ∈ out,Q p)->∀ p ∈ (sI t out).2,Q p
 | .nil,out,_,ho=>ho
 | .nd op i e g x y,out,⟨h1,h2,h3⟩,ho=>by
  have ha:∀ p ∈ (if (xY op).1.x=true then sI x out else(0,out)).2,Q p:=by
   split
   ·exact oh hq x out h2 ho
   ·exact ho
  have hb:∀ p ∈ (if (xY op).1.y=true then sI y (if (xY op).1.x=true then sI x out else(0,out)).2 else(0,(if (xY op).1.x=true then sI x out else(0,out)).2)).2,Q p:=by
   split
   ·exact oh hq y _ h3 ha
   ·exact ha
  unfold sI;simp only
  split
  ·exact hb
  ·intro p hp
   rcases ψ.1 hp with hp | hp
   ·exact hb p hp
   ·rw [ξ.1 hp];exact hq _ _ _ _ _ _ h1
theorem Uk {c:List Nd} (h:yW c=0) {i:Nat} (hi:i<c.length):yW (rY c i)= 0/\xD (rY c i)= canon (tree c i):=by have hw:=xy (zE h).2.2 i hi;have e:=Vq h hi;obtain⟨s1,s2,s3,s4⟩:=gM hw;have hl:=mS c i;rw [e] at hl;rw [e];have hk:=cu s3 hl s1;refine⟨hk,?_⟩;rw [kM hk,s4]
def LJ (A F:Nat) (p:Nd):Prop:=N2 A F p=true/\rA p &&& 256=0
theorem XO {rs:List wX} {A F T:Nat} (ok:k8 rs A F T) {f:List Nd} (hc:yW f=0) (h:∀ p ∈ xD f,LJ A F p):rO A F (mZ f)= true/\(sW .andNot .i64 (zX f:Int) 15 != 0)= false/\sL f A F=true:=by have hE:=(z8 (s:=⟨A,F,T,rs⟩) rfl (dU ok) ok hc).2 λp hp=>(h p hp).1;refine vd rfl (dU ok) ok hE ?_;unfold zX;rw [pS (φ:=λn=>n &&& 256) (by decide) (λa b=>Ah a b 256),sK];exact λp hp=>(h p hp).2
theorem QH {rs:List wX} {A F T:Nat} (ok:k8 rs A F T) {f:List Nd} (hc:yW f=0) (hfr:(sW .andNot .i64 (zX f:Int) 15 != 0)= false) (hft:sL f A F=true):∀ p ∈ xD f,LJ A F p:=by
 have h16:zX f<16:=SU ⟨zX f,nG f⟩ hfr;have ha:∀ n:Fin 16,n.val &&& 3824=0/\n.val &&& 256=0:=by decide
 have hE:ke ⟨A,F,T,rs⟩ f=0:=by unfold ke;rw [if_neg (by simpa using dU ok),if_neg (by simpa using hc),yw (nG f),if_neg (by simp [(ha ⟨zX f,h16⟩).1])];simp only;rw [if_neg (by rw [hft]; simp)]
 have hT:=(ha ⟨zX f,h16⟩).2;simp only at hT;unfold zX at hT;rw [pS (φ:=λn=>n &&& 256) (by decide) (λa b=>Ah a b 256),sK] at hT;exact λp hp=>⟨(z8 rfl (dU ok) ok hc).1 hE p hp,hT p hp⟩
theorem Rj {rs:List wX} {A F T:Nat} (ok:k8 rs A F T) {f:List Nd} (hc:yW f=0) (h:∀ p ∈ xD f,LJ A F p) {i:Nat} (hi:i<(xD f).length) :
  rO A F (tree (xD f) i)= true/\(sW .andNot .i64 (zX (rY (xD f) i):Int) 15 != 0)= false/\sL (rY (xD f) i) A F=true:=by
 have hk:=kL hc;obtain⟨s1,s2⟩:=Uk hk hi;have hv:=(zE hk).2.2
 have hall:∀ p ∈ xD (rY (xD f) i),LJ A F p:=by rw [s2];refine oh (Q:=LJ A F) (λop i e g a b h=>h) _ [] (TM (λp h=>h) hv h i hi) λp hp=>by cases hp
 obtain⟨a,b,c⟩:=XO ok s1 hall;refine⟨?_,b,c⟩
 have:mZ (rY (xD f) i)= tree (xD f) i:=by rw [Vq hk hi];exact(gM (xy hv i hi)).2.2.2
 rwa [this] at a
end Kb
theorem RD {m:vZ} {f:List Nd} {i:Nat} (h1:(sW .andNot .i64 (zX (rY f i):Int) 15 != 0)= false) (h2:sL (rY f i) m.R.length m.V.length=true):xA prog 239 [m.d,.sl 6 (wN f),.int .i64 i] (.bool true):=by
 have c1:=XX f i;have c2:=aW (rY f i);have c3:=wz (rY f i) m.R.length m.V.length;rw [h2] at c3;have h1':(sW .andNot .i64 (zX (rY f i):Int) 15==0)= true:=by simpa using h1
 generalize rY f i=g at *;unfold vZ.d;refine xI func239 JU λhf=>?_;refine zI ?_;refine .go (cr c1) ?_;refine xJ ?_;refine .go (cr c2) ?_;refine rF h1' yZ xT ?_;refine .go (cr c3) ?_;refine xJ ?_;exact .dv
open Rs Fm Ru Te Kb
theorem Ox {m:vZ} {W:Nat} (ok:qG m W) {n:Nd} {k:Int} (hn:zP n k=0) (hs:qP m.R.length m.V.length n=true) {x y:BitVec 64} (hcom:n.op=13->sU (yA m n.g.toNat false) (wM W) x y (W+1)= sU (yA m n.g.toNat false) (wM W) x y W) :
  xA prog 240 [m.d,.agg n.row,.int .u64 (ui x),.int .u64 (ui y)] (.int .u64 (ui (uQ m W n x y).1)):=by
 obtain⟨W1,W64⟩:=ok.hW;have hR4:=ok.hR;have hV8:=ok.hV;have ha:=z6 W;have hbo:=λop h=>YD op h x y (wM W);obtain⟨o1,o13⟩:=qb (show qP m.R.length m.V.length ⟨n.op,n.i,n.e,n.g,0,0⟩= true from hs)
 have hi0:n.op=3\/n.op=9\/n.op=10->0<=n.i:=λh=>by
  rcases h with h | h | h
  ·exact(mR hn (by rw [h]; rfl)).1
  ·exact(rU hn (by rw [h]; rfl)).1
  ·exact(rU hn (by rw [h]; rfl)).1
 have hg0:n.op=11\/n.op=12\/n.op=13->1<=n.g/\n.g<=15:=λh=>by
  have hgr:(xY n.op).1.gr=true:=by rcases h with h | h | h <;> rw [h] <;> rfl
  have h1:=(vU.1 hn).2.2.2.2;simp only [Ao,hgr,xG,Aj,decide_eq_false_iff_not] at h1;omega
 have hw:=ok.w;have hRow:=λa (ha:a<m.R.length)=>ok.row _ (xK (d:=[]) ha);obtain⟨op,i,e,g,a,b⟩:=n;simp only at hi0 hg0 hcom o1 o13;have hrow:(Nd.row ⟨op,i,e,g,a,b⟩)= [.int .i64 op,.int .i64 i,.int .i64 e,.int .i64 g,.int .i64 a,.int .i64 b]:=rfl;rw [hrow];have hop:op=1\/op=2\/op=3\/op=4\/op=5\/op=6\/op=7\/op=8\/op=9\/op=10\/op=11\/op=12\/op=13:=by omega
 rcases hop with rfl | rfl | rfl | rfl | rfl | rfl | rfl | rfl | rfl | rfl | rfl | rfl | rfl
 ·have hb:=hbo 1 (by decide);rw [show (uQ m W ⟨1,i,e,g,a,b⟩ x y).1=bY 1 x y (wM W) from rfl];generalize bY 1 x y (wM W)= z at hb;unfold vZ.d;rw [hw];refine xI func240 zp λhf=>?_;refine zI ?_;refine .go (cr ha) ?_;refine xJ ?_;refine .go (cr hb) ?_;refine xJ ?_;exact .dv
 ·have hb:=hbo 2 (by decide);rw [show (uQ m W ⟨2,i,e,g,a,b⟩ x y).1=bY 2 x y (wM W) from rfl];generalize bY 2 x y (wM W)= z at hb;unfold vZ.d;rw [hw];refine xI func240 zp λhf=>?_;refine zI ?_;refine .go (cr ha) ?_;refine xJ ?_;refine .go (cr hb) ?_;refine xJ ?_;exact .dv
 ·have h0:=hi0 (.inl rfl);have hlt:i<(m.V.length:Int):=of_decide_eq_true hs;have hv:(uQ m W ⟨3,i,e,g,a,b⟩ x y).1=m.V.getD i.toNat 0:=congrArg Prod.fst (if_pos hlt);obtain⟨j,rfl⟩:=κ h0;have hg:=yF m.V (show j<m.V.length by omega);rw [θ] at hv;rw [hv];generalize m.V.getD j 0=z at hg;unfold vZ.d;rw [hw];refine xI func240 zp λhf=>?_;refine zI ?_;refine .go (cr ha) ?_;refine rF xT hg hlt ?_;exact .dv
 ·have hb:=hbo 4 (by decide);rw [show (uQ m W ⟨4,i,e,g,a,b⟩ x y).1=bY 4 x y (wM W) from rfl];generalize bY 4 x y (wM W)= z at hb;unfold vZ.d;rw [hw];refine xI func240 zp λhf=>?_;refine zI ?_;refine .go (cr ha) ?_;refine xJ ?_;refine .go (cr hb) ?_;refine xJ ?_;exact .dv
 ·have hb:=hbo 5 (by decide);rw [show (uQ m W ⟨5,i,e,g,a,b⟩ x y).1=bY 5 x y (wM W) from rfl];generalize bY 5 x y (wM W)= z at hb;unfold vZ.d;rw [hw];refine xI func240 zp λhf=>?_;refine zI ?_;refine .go (cr ha) ?_;refine xJ ?_;refine .go (cr hb) ?_;refine xJ ?_;exact .dv
 ·have hb:=hbo 6 (by decide);rw [show (uQ m W ⟨6,i,e,g,a,b⟩ x y).1=bY 6 x y (wM W) from rfl];generalize bY 6 x y (wM W)= z at hb;unfold vZ.d;rw [hw];refine xI func240 zp λhf=>?_;refine zI ?_;refine .go (cr ha) ?_;refine xJ ?_;refine .go (cr hb) ?_;refine xJ ?_;exact .dv
 ·have hb:=hbo 7 (by decide);rw [show (uQ m W ⟨7,i,e,g,a,b⟩ x y).1=bY 7 x y (wM W) from rfl];generalize bY 7 x y (wM W)= z at hb;unfold vZ.d;rw [hw];refine xI func240 zp λhf=>?_;refine zI ?_;refine .go (cr ha) ?_;refine xJ ?_;refine .go (cr hb) ?_;refine xJ ?_;exact .dv
 ·have hb:=hbo 8 (by decide);rw [show (uQ m W ⟨8,i,e,g,a,b⟩ x y).1=bY 8 x y (wM W) from rfl];generalize bY 8 x y (wM W)= z at hb;unfold vZ.d;rw [hw];refine xI func240 zp λhf=>?_;refine zI ?_;refine .go (cr ha) ?_;refine xJ ?_;refine .go (cr hb) ?_;refine xJ ?_;exact .dv
 ·have h0:=hi0 (.inr (.inl rfl));have hlt:i<(m.R.length:Int):=of_decide_eq_true hs;have hv:(uQ m W ⟨9,i,e,g,a,b⟩ x y).1=oG (m.R.getD i.toNat []) x:=congrArg Prod.fst (if_pos hlt);obtain⟨j,rfl⟩:=κ h0;have hj:j<m.R.length:=by omega
  have hg:=tZ m.R hj;have hrl:=hRow j hj;have hro:=aq ok hj;rw [θ] at hv;rw [hv];generalize m.R.getD j []=z at hg hrl hro;have hc:=tg (r:=z) (by omega) x;rw [hrl] at hc;unfold vZ.d;rw [hw];refine xI func240 zp λhf=>?_;refine zI ?_;refine .go (cr ha) ?_;refine rF yZ hg hlt ?_;refine .go (cr hc) ?_;refine xJ ?_;exact .dv
 ·have h0:=hi0 (.inr (.inr rfl));have hlt:i<(m.R.length:Int):=of_decide_eq_true hs;have hv:(uQ m W ⟨10,i,e,g,a,b⟩ x y).1=bd (m.R.getD i.toNat []) x:=congrArg Prod.fst (if_pos hlt);obtain⟨j,rfl⟩:=κ h0;have hj:j<m.R.length:=by omega
  have hg:=tZ m.R hj;have hrl:=hRow j hj;have hro:=aq ok hj;rw [θ] at hv;rw [hv];generalize m.R.getD j []=z at hg hrl hro;have hc:=tg (r:=z) (by omega) (wM W &&& ~~~x);have hde:=Lz (by omega) hro.ins x;rw [hrl] at hc hde;rw [hde];unfold vZ.d;rw [hw];refine xI func240 zp λhf=>?_;refine zI ?_;refine .go (cr ha) ?_;refine rF yZ hg hlt ?_;refine .go (cr hc) ?_;refine xJ ?_;exact .dv
 ·have h0:=hg0 (.inl rfl);have hlt:g<((2 ^ m.R.length:Nat):Int):=of_decide_eq_true hs;have hv:(uQ m W ⟨11,i,e,g,a,b⟩ x y).1=oG (yA m g.toNat false) x:=congrArg Prod.fst (if_pos hlt);obtain⟨j,rfl⟩:=κ (show 0<=g by omega);have hj:1<=j/\j<2 ^ m.R.length:=by omega
  have hc:=gw ok hj;have hro:=jD ok hj false;have hrl:=(qZ ok hj false).2.1;rw [θ] at hv;rw [hv];generalize yA m j false=z at hc hro hrl ⊢;have hb:=tg (r:=z) (by omega) x;rw [hrl] at hb;unfold vZ.d at hc ⊢;rw [hw] at hc ⊢;refine xI func240 zp λhf=>?_;refine zI ?_;refine .go (cr ha) ?_;refine xJ ?_;refine .go (xQ.yP hc (by simp [D.xR,D.xF,vT])) ?_;refine xJ ?_;refine .go (xQ.yP hb (by simp [D.xR,D.xF,vT])) ?_;refine xJ ?_;exact .dv
 ·have h0:=hg0 (.inr (.inl rfl));have hlt:g<((2 ^ m.R.length:Nat):Int):=of_decide_eq_true hs;have hv:(uQ m W ⟨12,i,e,g,a,b⟩ x y).1=oG (yA m g.toNat true) x:=congrArg Prod.fst (if_pos hlt);obtain⟨j,rfl⟩:=κ (show 0<=g by omega);have hj:1<=j/\j<2 ^ m.R.length:=by omega
  have hc:=RE ok hj;have hro:=jD ok hj true;have hrl:=(qZ ok hj true).2.1;rw [θ] at hv;rw [hv];generalize yA m j true=z at hc hro hrl ⊢;have hb:=tg (r:=z) (by omega) x;rw [hrl] at hb;unfold vZ.d at hc ⊢;rw [hw] at hc ⊢;refine xI func240 zp λhf=>?_;refine zI ?_;refine .go (cr ha) ?_;refine xJ ?_;refine .go (xQ.yP hc (by simp [D.xR,D.xF,vT])) ?_;refine xJ ?_;refine .go (xQ.yP hb (by simp [D.xR,D.xF,vT])) ?_;refine xJ ?_;exact .dv
 ·have h0:=hg0 (.inr (.inr rfl));have hlt:g<((2 ^ m.R.length:Nat):Int):=of_decide_eq_true hs;have hv:(uQ m W ⟨13,i,e,g,a,b⟩ x y).1=sU (yA m g.toNat false) (wM W) x y W:=congrArg Prod.fst (if_pos hlt);obtain⟨j,rfl⟩:=κ (show 0<=g by omega);have hj:1<=j/\j<2 ^ m.R.length:=by omega
  have hc:=gw ok hj;have hro:=jD ok hj false;have hrl:=(qZ ok hj false).2.1;rw [θ] at hv;rw [hv];have hcm:=hcom rfl;rw [θ] at hcm;generalize yA m j false=z at hc hro hrl hcm ⊢;have hb:=Wu (r:=z) (by omega) x y;have hce:=Nx (c:=x) (s:=y) (N:=W) hro (by rw [hrl]; exact hcm);rw [hce,hrl] at hb;unfold vZ.d at hc ⊢;rw [hw] at hc ⊢;refine xI func240 zp λhf=>?_;refine zI ?_;refine .go (cr ha) ?_;refine xJ ?_;refine .go (xQ.yP hc (by simp [D.xR,D.xF,vT])) ?_;refine xJ ?_;refine .go (xQ.yP hb (by simp [D.xR,D.xF,vT])) ?_;refine xJ ?_;exact .dv
open Rs Fm Ru Te Kb
theorem UM {m:vZ} {W:Nat} (ok:qG m W) {f:List Nd} (hc:yW f=0) (hfr:(sW .andNot .i64 (zX f:Int) 15 != 0)= false) (hft:sL f m.R.length m.V.length=true):xA prog 193 [m.d,.sl 6 (wN f),.int .i64 15] (.int .i64 0):=by have h1:=gu ok;have h2:=sb f;have h3:=aW f;have h4:=wz f m.R.length m.V.length;rw [hc] at h2;rw [hft] at h4;unfold vZ.d at h1 ⊢;refine xI func193 J5 λhf=>?_;refine zI ?_;refine .go (cr h1) ?_;refine xJ ?_;refine .go (cr h2) ?_;refine xJ ?_;refine .go (cr h3) ?_;refine rF hfr yZ xT ?_;refine .go (cr h4) ?_;refine xJ ?_;exact .dv
theorem RG {m:vZ} {f:List Nd} (hc:yW f=0) (hchk:xA prog 193 [m.d,.sl 6 (wN f),.int .i64 15] (.int .i64 0)) {sv:Nat->BitVec 64} (hfit:∀ k,k<f.length->xA prog 239 [m.d,.sl 6 (wN f),.int .i64 k] (.bool true))
  (hone:∀ k,k<f.length->∀ x y,((xY (f.getD k vV).op).1.x=true->x=sv (f.getD k vV).x.toNat)->((xY (f.getD k vV).op).1.y=true->y=sv (f.getD k vV).y.toNat)->xA prog 240 [m.d,.agg (f.getD k vV).row,.int .u64 (ui x),.int .u64 (ui y)] (.int .u64 (ui (sv k)))) :
  xA prog 192 [m.d,.sl 6 (wN f)] (.wF [.sl 1 (us ((List.range f.length).map sv)),.int .i64 0]):=by
 obtain⟨c1,c2,c3⟩:=zE hc;have hn:0<f.length:=List.length_pos_iff.2 c1;unfold vZ.d at hchk hone hfit ⊢;refine xI func192 J4 λhf=>?_;refine zI ?_;refine .go (cr hchk) ?_;refine zI ?_
 refine xU (λk:Nat=>[(8,.int .i64 k),(7,xB 1 1 (us ((List.range k).map sv))),(2,.ref 0 3 0 0),(1,.sl 6 (wN f))])
  (λk=>⟨2,yX 1 1 (us ((List.range k).map sv))++ [(0,⟨3,[[.int .i64 m.W,.sl 1 (us m.V),.sl 1 (rr m.R)]]⟩)]⟩)
  (λk=>k<=f.length) (λk=>f.length-k) 0 (Ae _) ?_ ?_
 ·(refine rZ [] [0] ?_; simp only [wR,zQ,simprocAttr,-ZA,exists_eq_left',ne_eq,zR,χ,Ab,iN,zK,zL,List.nil_append])
 intro k hk;refine xN mixed ?_;by_cases hkl:k<f.length
 case neg=>
  have hd:¬ ((k:Int)<(f.length:Int)):=by omega
  obtain rfl:k=f.length:=by omega
  have hlen:((List.range f.length).map sv).length=f.length:=by simp
  generalize (List.range f.length).map sv=l at hlen ⊢;have hne:us l ≠ []:=by intro c; have:=congrArg List.length c; rw [xT,hlen,List.length_nil] at this; omega
  rw [eQ hne,lN hne];refine yO hd xM ?_;refine .drop (by simp) ?_;simp only [vw,vC];exact⟨rfl,⟨trivial,by decide,by simp,⟨1,us l⟩,by simp [St.get,St.look],rfl,by simp only [xT]; exact Af _,by rw [<- xT,List.take_length],vT l⟩,trivial,trivial⟩
 have hd:((k:Int)<(f.length:Int)):=by omega
 have hone:=hone k hkl;have hfit:=hfit k hkl;have hnd:=c3 k hkl;have hg:=sE f hkl;obtain⟨hox,hoy⟩:=nI hnd;obtain⟨⟨x,hx,hxk⟩,⟨y,hy,hyk⟩⟩:=v7 hnd;generalize f.getD k vV=p at hone hnd hg hox hoy hx hy;have hu1:=oV p.op;have hu2:=oW p.op;obtain⟨op,i,e,g,px,py⟩:=p;simp only at hx hy;subst hx hy;simp only [θ] at hone hox hoy;have hrow:(Nd.row ⟨op,i,e,g,x,y⟩)= [.int .i64 op,.int .i64 i,.int .i64 e,.int .i64 g,.int .i64 x,.int .i64 y]:=rfl;rw [hrow] at hg hone;have hsn:(List.range (k+1)).map sv=(List.range k).map sv ++ [sv k]:=by rw [ο,π]; rfl
 have hal:((List.range k).map sv).length=k:=by simp
 have hag:∀ j,j<k->((List.range k).map sv).getD j 0=sv j:=λj hj=>by simp [List.getD,hj]
 generalize (List.range k).map sv=acc at hsn hal hag ⊢;have hu:=wK (k:=k) (by omega);generalize hsk:sv k=z at hone hsn;refine nQ hd xM ?_;refine .go (cr hfit) ?_;refine rF hd xM hg ?_;refine .go (cr hu1) ?_
 cases ux:(xY op).1.x with
 | true=>
  have hxk:=hox ux;have hgx:=yF acc (show x<acc.length by omega);rw [hag x (by omega)] at hgx;have hxl:((x:Int)<(acc.length:Int)):=by omega
  refine pH hd xM hg xT hgx hxl ?_;refine .go (cr hu2) ?_
  cases uy:(xY op).1.y with
  | true=>
   have hyk:=hoy uy;have hgy:=yF acc (show y<acc.length by omega);rw [hag y (by omega)] at hgy;have hyl:((y:Int)<(acc.length:Int)):=by omega
   refine pH hd xM hg xT hgy hyl ?_;refine .go (xQ.yP (hone (sv x) (sv y) (λ_=>rfl) λ_=>rfl) (by simp [D.xR,D.xF])) ?_;refine vR hu ?_;refine⟨k+1,by omega,?_,by omega⟩;rw [hsn];exact mD [(1,2)] [1,0]
  | false=> refine uC hd xM hg xT ?_;refine .go (xQ.yP (hone (sv x) 0#64 (λ_=>rfl) λh=>by rw [uy] at h; cases h) (by simp [D.xR,D.xF])) ?_;refine vR hu ?_;refine⟨k+1,by omega,?_,by omega⟩;rw [hsn];exact mD [(1,2)] [1,0]
 | false=>
  refine uC hd xM hg xT ?_;refine .go (cr hu2) ?_
  cases uy:(xY op).1.y with
  | true=>
   have hyk:=hoy uy;have hgy:=yF acc (show y<acc.length by omega);rw [hag y (by omega)] at hgy;have hyl:((y:Int)<(acc.length:Int)):=by omega
   refine pH hd xM hg xT hgy hyl ?_;refine .go (xQ.yP (hone 0#64 (sv y) (λh=>by rw [ux] at h; cases h) λ_=>rfl) (by simp [D.xR,D.xF])) ?_;refine vR hu ?_;refine⟨k+1,by omega,?_,by omega⟩;rw [hsn];exact mD [(1,2)] [1,0]
  | false=> refine uC hd xM hg xT ?_;refine .go (xQ.yP (hone 0#64 0#64 (λh=>by rw [ux] at h; cases h) λh=>by rw [uy] at h; cases h) (by simp [D.xR,D.xF])) ?_;refine vR hu ?_;refine⟨k+1,by omega,?_,by omega⟩;rw [hsn];exact mD [(1,2)] [1,0]
theorem UN {rs:List wX} {A F T:Nat} (ok:k8 rs A F T) (hW:rs.length*T<=64) {f:List Nd} (hc:yW f=0) (hfr:(sW .andNot .i64 (zX f:Int) 15 != 0)= false) (hft:sL f A F=true) :
  xA prog 133 [(pD rs (rR rs T) A F).d,.sl 6 (wN f)] (.wF [.int .u64 (ui (sZ T (rs.length*T) (bt rs A T (mZ f)))),.int .i64 0]):=by
 have hl:(rR rs T).length=rs.length*T:=nT T _;have h1:1<=rs.length*T:=Nat.mul_pos ok.hR.1 ok.hT.1;have hm:=sr (F:=F) ok (l:=rR rs T) (by omega) (by omega);rw [hl] at hm;have hRl:(pD rs (rR rs T) A F).R.length=A:=by show (tJ rs (rR rs T) A).length=A; simp [tJ]
 have hVl:(pD rs (rR rs T) A F).V.length=F:=by show (qV rs (rR rs T) F).length=F; simp [qV]
 have hall:=QH ok hc hfr hft;have hk:=kL hc;obtain⟨_,fr2,ft2⟩:=XO ok hk (by rw [l9 hc]; exact hall)
 have hst:∀ p ∈ xD f,qP A F p=true:=λp hp=>by obtain⟨k,hk⟩:=jX (iM f _) hp;exact im hk (hall p hp).1 (hall p hp).2
 have hsub:=λi hi=>Rj ok hc hall (i:=i) hi;have htr:=(gH hc).1;have c3:=(zE hk).2.2;have hn:0<(xD f).length:=gP hc;have hcf:=oQ f;generalize xD f=c at *;have hS:=RG (sv:=λk=>sZ T (rs.length*T) (bt rs A T (tree c k))) hk (UM hm hk fr2 (by rw [hRl,hVl]; exact ft2)) (λk hkl=>RD (hsub k hkl).2.1 (by rw [hRl,hVl]; exact(hsub k hkl).2.2)) λk hkl x y hx hy=>?_
 rotate_left
 ·have hnd:=c3 k hkl;have hs:=hst _ (xK (d:=vV) hkl);have ht:=sF c3 hkl;generalize c.getD k vV=n at *;have hv:=Xs ok hW (F:=F) hnd hx hy;rw [if_pos hs] at hv
  have ho:=Ox hm hnd (x:=x) (y:=y) (by rw [hRl,hVl]; exact hs) λh13=>by
   have hu:(xY n.op).1.x=true/\(xY n.op).1.y=true/\(xY n.op).1.gr=true:=by rw [h13]; exact⟨rfl,rfl,rfl⟩
   have h1:=(vU.1 hnd).2.2.2.2;simp only [Ao,hu.2.2,xG,Aj,decide_eq_false_iff_not] at h1
   have hlt:n.g<((2 ^ A:Nat):Int):=by unfold qP at hs;rw [h13] at hs;exact of_decide_eq_true hs
   rw [hx hu.1,hy hu.2.1];exact VQ ok hW (by omega) _ _
  rw [hv] at ho;simp only at ho
  have e:sZ T (rs.length*T) (gB rs A T n (bt rs A T (tree c n.x.toNat)) (bt rs A T (tree c n.y.toNat)))= sZ T (rs.length*T) (bt rs A T (tree c k)):=by
   rw [ht];refine congrArg (sZ T (rs.length*T)) ?_;show _=gB rs A T ⟨n.op,n.i,n.e,n.g,0,0⟩ _ _
   refine wk rfl rfl rfl (λh=>?_) λh=>?_
   ·rw [if_pos h]
   ·rw [if_pos h]
  rw [e] at ho;exact ho
 have hlast:((List.range c.length).map λk=>sZ T (rs.length*T) (bt rs A T (tree c k))).getD (c.length-1) 0=sZ T (rs.length*T) (bt rs A T (mZ f)):=by
  have:c.length-1<c.length:=by omega
  rw [<- htr];simp [List.getD,this]
 have hlen:((List.range c.length).map λk=>sZ T (rs.length*T) (bt rs A T (tree c k))).length=c.length:=by simp
 have h200:c.length<=200:=(zE hk).2.1;generalize ((List.range c.length).map λk=>sZ T (rs.length*T) (bt rs A T (tree c k)))= l at hS hlast hlen;have hg:=yF l (show c.length-1<l.length by omega);rw [hlast] at hg;have hw:IntKind.i64.wrap ((l.length:Int)-1)= ((c.length-1:Nat):Int):=by rw [hlen,wrap_i64 (by omega)]; omega
 have hlt:((c.length-1:Nat):Int)<(l.length:Int):=by omega
 have hz:((l.length:Int)== 0)= false:=beq_eq_false_iff_ne.2 (by omega);unfold vZ.d at hS ⊢;refine xI func133 Ic λhf=>?_;refine zI ?_;refine .go (cr hcf) ?_;refine zI ?_;refine .go (cr hS) ?_;refine rI xT hw hg hlt hz ?_;exact .drop (by simp) (by simp [vw,vC])
open Rs Fm Ru Te Kb
theorem kY (l:List Bool) (b:Bool):rb l ++ [[.bool b]]=rb (l ++ [b]):=by simp [rb]
theorem RI {f:List Nd} (hc:yW f=0) (hfr:∀ p ∈ xD f,rA p=0) (v A:Nat):xA prog 187 [.sl 6 (wN f),.int .i64 v] (.bool (bo A f (BitVec.ofNat 64 v))):=by
 have hv:=bD f;have hn:=gP hc;have h200:=(zE (kL hc)).2.1;have hcf:=oQ f;have hop:=λk (hk:k<(xD f).length) (p:Nd) hp=>Oa (A:=A) (s:=BitVec.ofNat 64 v) hv hk (p:=p) hp
 have hend:bo A f (BitVec.ofNat 64 v)= fW A (BitVec.ofNat 64 v) (xD f) ((xD f).length-1):=by unfold bo fW;rw [Z8 hv (Af _) _ (by omega),(gH hc).1]
 rw [hend];generalize xD f=c at *;generalize hφ:fW A (BitVec.ofNat 64 v) c=φ at *;refine xI func187 J1 λhf=>?_;refine xJ ?_;refine .go (cr hcf) ?_;refine xJ ?_
 refine xU (λk:Nat=>[(7,.int .i64 k),(6,xB 0 1 (rb ((List.range k).map φ))),(5,.sl 6 (wN c)),(1,.int .i64 v)]) (λk=>⟨1,yX 0 1 (rb ((List.range k).map φ))⟩)
  (λk=>k<=c.length) (λk=>c.length-k) 0 (Ae _) ?_ ?_
 ·(refine rZ [] [] ?_; simp only [wR,zQ,simprocAttr,-ZA,exists_eq_left',ne_eq,zR,χ,Ab,show rb [] = [] from rfl,zK,zL])
 intro k hk;refine xN mixed ?_;by_cases hkl:k<c.length
 case neg=>
  have hd:¬ ((k:Int)<(c.length:Int)):=by omega
  obtain rfl:k=c.length:=by omega
  have hlen:((List.range c.length).map φ).length=c.length:=by simp
  have hlast:((List.range c.length).map φ).getD (c.length-1) false=φ (c.length-1):=by simp [List.getD,show c.length-1<c.length by omega]
  generalize (List.range c.length).map φ=l at hlen hlast ⊢;have hw:IntKind.i64.wrap ((c.length:Int)-1)= ((c.length-1:Nat):Int):=by rw [wrap_i64 (by omega)]; omega
  have hg:=qv l (show c.length-1<l.length by omega);rw [hlast] at hg;have hz:(0:Int)<(c.length:Int):=by omega
  have hlt:((c.length-1:Nat):Int)<(c.length:Int):=by omega
  refine mU hd xM wY hlen hw hg hz hlt ?_;exact .dv
 have hd:((k:Int)<(c.length:Int)):=by omega
 have hg:(wN c).getD k []=(c.getD k vV).row:=sE c hkl;have hpv:=hv k hkl;have hfr:=hfr _ (xK (d:=vV) hkl);have hop:=hop k hkl;obtain⟨ox,oy,_,_⟩:=tK hpv
 have hu2:(xY (c.getD k vV).op).2=true:=by rw [vU] at hpv;exact hpv.1
 have h8:=KN hfr hu2;have hop:=hop _ rfl h8;have hi7:(c.getD k vV).op=3->0<=(c.getD k vV).i/\(c.getD k vV).i<=7:=λe=>mR hpv (by rw [e]; rfl);have hsn:(List.range (k+1)).map φ=(List.range k).map φ ++ [φ k]:=by rw [ο,π]; rfl
 have hal:((List.range k).map φ).length=k:=by simp
 have hag:∀ j,j<k->(rb ((List.range k).map φ)).getD j [] = [.bool (φ j)]:=λj hj=>by rw [qv _ (by simpa using hj)]; simp [List.getD,hj]
 generalize (List.range k).map φ=acc at hsn hal hag ⊢;have hu:=wK (k:=k) (by omega);generalize hzk:φ k=z at hop hsn;generalize c.getD k vV=p at *;obtain⟨op,i,e,g,x,y⟩:=p;unfold Nd.row at hg;simp only at hg ox oy h8 hop hi7
 rcases h8 with rfl | rfl | rfl | rfl | rfl | rfl | rfl | rfl
 ·have hq1:=oV 1;have hq2:=oW 1;simp only [show (xY 1).1.x=false from rfl] at hq1;simp only [show (xY 1).1.y=false from rfl] at hq2;have hop:z=true:=hop;refine pH hd xM hg hu wY hal ?_;refine .go (cr hq1) ?_;refine pH hd xM hg hu wY hal ?_;refine .go (cr hq2) ?_;refine pH hd xM hg hu wY hal ?_;refine⟨k+1,by omega,?_,by omega⟩;rw [hsn,hop];exact qN [(0,1)] [0] kY vL
 ·have hq1:=oV 2;have hq2:=oW 2;simp only [show (xY 2).1.x=false from rfl] at hq1;simp only [show (xY 2).1.y=false from rfl] at hq2;have hop:z=false:=hop;refine pH hd xM hg hu wY hal ?_;refine .go (cr hq1) ?_;refine pH hd xM hg hu wY hal ?_;refine .go (cr hq2) ?_;refine pH hd xM hg hu wY hal ?_;refine⟨k+1,by omega,?_,by omega⟩;rw [hsn,hop];exact qN [(0,1)] [0] kY vL
 ·have hq1:=oV 3;have hq2:=oW 3;simp only [show (xY 3).1.x=false from rfl] at hq1;simp only [show (xY 3).1.y=false from rfl] at hq2;obtain⟨i0,i1⟩:=hi7 rfl;obtain⟨j,rfl⟩:∃ j:Nat,i=(j:Int):=⟨i.toNat,by omega⟩;have hsr:=kA v j (by omega);have hbt:(((v / 2 ^ j:Nat):Int).tmod 2==1)= v.testBit j:=by rw [W2,ah]
  have hop:z=v.testBit j:=by have h3:z=(BitVec.ofNat 64 v).getLsbD j:=hop;rw [h3,BitVec.getLsbD_ofNat,decide_eq_true (show j<64 by omega),Aj]
  refine mU hd xM hg hu wY hal hsr hbt ?_;refine .go (cr hq1) ?_;refine mU hd xM hg hu wY hal hsr hbt ?_;refine .go (cr hq2) ?_;refine mU hd xM hg hu wY hal hsr hbt ?_;refine⟨k+1,by omega,?_,by omega⟩;rw [hsn,hop];exact qN [(0,1)] [0] kY vL
 ·have hq1:=oV 4;have hq2:=oW 4;simp only [show (xY 4).1.x=true from rfl] at hq1;simp only [show (xY 4).1.y=false from rfl] at hq2;obtain⟨x0,x1⟩:=ox rfl;obtain⟨a,rfl⟩:∃ a:Nat,x=(a:Int):=⟨x.toNat,by omega⟩;rw [θ] at x1;have hga:=hag a x1;have hal2:(a:Int)<(k:Int):=by omega
  have hop:z=(!φ a):=hop;generalize φ a=b1 at *;cases b1
  all_goals
   try simp at hop
   refine mU hd xM hg hu wY hal hga hal2 ?_;refine .go (cr hq1) ?_;refine mU hd xM hg hu wY hal hga hal2 ?_;refine .go (cr hq2) ?_;refine mU hd xM hg hu wY hal hga hal2 ?_;refine⟨k+1,by omega,?_,by omega⟩;rw [hsn,hop];exact qN [(0,1)] [0] kY vL
 ·have hq1:=oV 5;have hq2:=oW 5;simp only [show (xY 5).1.x=true from rfl] at hq1;simp only [show (xY 5).1.y=true from rfl] at hq2;obtain⟨x0,x1⟩:=ox rfl;obtain⟨a,rfl⟩:∃ a:Nat,x=(a:Int):=⟨x.toNat,by omega⟩;rw [θ] at x1;have hga:=hag a x1;have hal2:(a:Int)<(k:Int):=by omega
  obtain⟨y0,y1⟩:=oy rfl;obtain⟨b,rfl⟩:∃ b:Nat,y=(b:Int):=⟨y.toNat,by omega⟩;rw [θ] at y1;have hgb:=hag b y1;have hbl2:(b:Int)<(k:Int):=by omega
  have hop:z=(φ a&&φ b):=hop;generalize φ a=b1 at *;generalize φ b=b2 at *;cases b1 <;> cases b2
  all_goals
   try simp at hop
   refine rC hd xM hg hu wY hal hga hal2 hgb hbl2 ?_;refine .go (cr hq1) ?_;refine rC hd xM hg hu wY hal hga hal2 hgb hbl2 ?_;refine .go (cr hq2) ?_;refine rC hd xM hg hu wY hal hga hal2 hgb hbl2 ?_;refine⟨k+1,by omega,?_,by omega⟩;rw [hsn,hop];exact qN [(0,1)] [0] kY vL
 ·have hq1:=oV 6;have hq2:=oW 6;simp only [show (xY 6).1.x=true from rfl] at hq1;simp only [show (xY 6).1.y=true from rfl] at hq2;obtain⟨x0,x1⟩:=ox rfl;obtain⟨a,rfl⟩:∃ a:Nat,x=(a:Int):=⟨x.toNat,by omega⟩;rw [θ] at x1;have hga:=hag a x1;have hal2:(a:Int)<(k:Int):=by omega
  obtain⟨y0,y1⟩:=oy rfl;obtain⟨b,rfl⟩:∃ b:Nat,y=(b:Int):=⟨y.toNat,by omega⟩;rw [θ] at y1;have hgb:=hag b y1;have hbl2:(b:Int)<(k:Int):=by omega
  have hop:z=(φ a || φ b):=hop;generalize φ a=b1 at *;generalize φ b=b2 at *;cases b1 <;> cases b2
  all_goals
   try simp at hop
   refine rC hd xM hg hu wY hal hga hal2 hgb hbl2 ?_;refine .go (cr hq1) ?_;refine rC hd xM hg hu wY hal hga hal2 hgb hbl2 ?_;refine .go (cr hq2) ?_;refine rC hd xM hg hu wY hal hga hal2 hgb hbl2 ?_;refine⟨k+1,by omega,?_,by omega⟩;rw [hsn,hop];exact qN [(0,1)] [0] kY vL
 ·have hq1:=oV 7;have hq2:=oW 7;simp only [show (xY 7).1.x=true from rfl] at hq1;simp only [show (xY 7).1.y=true from rfl] at hq2;obtain⟨x0,x1⟩:=ox rfl;obtain⟨a,rfl⟩:∃ a:Nat,x=(a:Int):=⟨x.toNat,by omega⟩;rw [θ] at x1;have hga:=hag a x1;have hal2:(a:Int)<(k:Int):=by omega
  obtain⟨y0,y1⟩:=oy rfl;obtain⟨b,rfl⟩:∃ b:Nat,y=(b:Int):=⟨y.toNat,by omega⟩;rw [θ] at y1;have hgb:=hag b y1;have hbl2:(b:Int)<(k:Int):=by omega
  have hop:z=(!φ a || φ b):=hop;generalize φ a=b1 at *;generalize φ b=b2 at *;cases b1 <;> cases b2
  all_goals
   try simp at hop
   refine rC hd xM hg hu wY hal hga hal2 hgb hbl2 ?_;refine .go (cr hq1) ?_;refine rC hd xM hg hu wY hal hga hal2 hgb hbl2 ?_;refine .go (cr hq2) ?_;refine rC hd xM hg hu wY hal hga hal2 hgb hbl2 ?_;refine⟨k+1,by omega,?_,by omega⟩;rw [hsn,hop];exact qN [(0,1)] [0] kY vL
 ·have hq1:=oV 8;have hq2:=oW 8;simp only [show (xY 8).1.x=true from rfl] at hq1;simp only [show (xY 8).1.y=true from rfl] at hq2;obtain⟨x0,x1⟩:=ox rfl;obtain⟨a,rfl⟩:∃ a:Nat,x=(a:Int):=⟨x.toNat,by omega⟩;rw [θ] at x1;have hga:=hag a x1;have hal2:(a:Int)<(k:Int):=by omega
  obtain⟨y0,y1⟩:=oy rfl;obtain⟨b,rfl⟩:∃ b:Nat,y=(b:Int):=⟨y.toNat,by omega⟩;rw [θ] at y1;have hgb:=hag b y1;have hbl2:(b:Int)<(k:Int):=by omega
  have hop:z=(φ a==φ b):=hop;refine rC hd xM hg hu wY hal hga hal2 hgb hbl2 ?_;refine .go (cr hq1) ?_;refine rC hd xM hg hu wY hal hga hal2 hgb hbl2 ?_;refine .go (cr hq2) ?_;refine rC hd xM hg hu wY hal hga hal2 hgb hbl2 ?_;refine⟨k+1,by omega,?_,by omega⟩;rw [hsn,hop];exact qN [(0,1)] [0] kY vL
end Go.Pd
