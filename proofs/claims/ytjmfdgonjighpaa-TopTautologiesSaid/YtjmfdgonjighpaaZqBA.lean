/- Part BA. -/
import Derived.Test.YtjmfdgonjighpaaZqX9
set_option linter.unusedSectionVars false
set_option linter.unusedVariables false
set_option linter.unusedSimpArgs false
set_option linter.defProp false
set_option maxRecDepth 20000
set_option maxHeartbeats 1000000
open Go.Proofs.Try
open List renaming length_append->γ,length_singleton->δ,length_cons->ε,take_append_of_le_length->ζ,getElem?_append_left->η,append_assoc->θ
open Option renaming map_some->κ,map_none->μ
open Nat renaming add_sub_cancel->ν,le_refl->ξ,zero_add->ο,lt_or_ge->π
namespace Go.Pd
open Go Go.Proofs
namespace Bd
abbrev yH :=Nat × Nat × Nat
def sD : yH:=(0,0,0)
def yP (S:List yH) (k:Nat):yH:=S.getD k sD
def uR (S:List yH) (i:Nat):Nat:=if i<2 then 24 else(yP S (i-2)).1
structure sU (n : Nat) (S : List yH) : Prop where
 lo:∀ k,k<S.length->(yP S k).1<n/\(yP S k).2.1<k+2/\(yP S k).2.2<k+2/\(yP S k).2.1≠(yP S k).2.2/\(yP S k).1<uR S (yP S k).2.1/\(yP S k).1<uR S (yP S k).2.2
 nd:∀ i j,i<j->j<S.length->yP S i≠yP S j
def den (S:List yH):Nat->Nat->(Nat->Bool)->Bool
 | 0,i,_=>i==1
 | m+1,i,w=>if i<2 then i==1 else den S m (if w (yP S (i-2)).1=true then(yP S (i-2)).2.2 else(yP S (i-2)).2.1) w
theorem eV {S T:List yH} {k:Nat} (h:k<S.length):yP (S++T) k=yP S k:=by unfold yP;rw [List.getD,η h]; rfl
theorem Xl {S:List yH} {t:yH}:yP (S ++ [t]) S.length=t:=by simp [yP,List.getD]
theorem rS {S T:List yH} {i:Nat} (h:i<S.length+2):uR (S++T) i=uR S i:=by
 unfold uR
 by_cases c:i<2
 ·rw [if_pos c,if_pos c]
 ·rw [if_neg c,if_neg c,eV (by omega)]
theorem sL {S:List yH} {i:Nat} (h:i<2):uR S i=24:=by unfold uR; rw [if_pos h]
theorem rG {S:List yH} {i:Nat} (h:2<=i):uR S i=(yP S (i-2)).1:=by unfold uR; rw [if_neg (by omega)]
theorem xA {S:List yH} {i:Nat} (h:i<2):∀ (m:Nat) (w:Nat->Bool),den S m i w=(i==1)
 | 0,_=>rfl
 | _+1,_=>by unfold den; rw [if_pos h]
theorem jd (n:Nat):sU n []:=⟨λk h=>by simp at h,λi j _ h=>by simp at h⟩
section
variable {n : Nat} {S : List yH}
theorem sU.mb (hI:sU n S) {i:Nat} (h2:2<=i) (hi:i<S.length+2):uR S i<n/\(yP S (i-2)).2.1<i/\(yP S (i-2)).2.2<i/\(yP S (i-2)).2.1≠(yP S (i-2)).2.2/\uR S i<uR S (yP S (i-2)).2.1/\uR S i<uR S (yP S (i-2)).2.2:=by obtain⟨a,b,c,d,e,f⟩:=hI.lo (i-2) (by omega);rw [rG h2];exact⟨a,by omega,by omega,d,e,f⟩
theorem ae (hI:sU n S):∀ (m m' i:Nat) (w:Nat->Bool),i<S.length+2->n<=uR S i+m->n<=uR S i+m'->den S m i w=den S m' i w:=by
 intro m
 induction m with
 | zero=>
  intro m' i w hi h1 _
  by_cases c:i<2
  ·rw [xA c,xA c]
  ·have:=(hI.mb (by omega) hi).1; omega
 | succ m ih=>
  intro m' i w hi h1 h2
  by_cases c:i<2
  ·rw [xA c,xA c]
  obtain⟨a1,a2,a3,a4,a5,a6⟩:=hI.mb (i:=i) (by omega) hi;obtain⟨k,rfl⟩:∃ k,m'=k+1:=⟨m'-1,by omega⟩;unfold den;rw [if_neg c,if_neg c]
  split
  ·exact ih _ _ _ (by omega) (by omega) (by omega)
  ·exact ih _ _ _ (by omega) (by omega) (by omega)
theorem sK (hI:sU n S) {i:Nat} (h2:2<=i) (hi:i<S.length+2) (w:Nat->Bool):den S n i w=den S n (if w (uR S i)= true then(yP S (i-2)).2.2 else(yP S (i-2)).2.1) w:=by
 obtain⟨a1,a2,a3,a4,a5,a6⟩:=hI.mb h2 hi;obtain⟨m,rfl⟩:∃ m,n=m+1:=⟨n-1,by omega⟩;conv=>lhs; unfold den
 rw [if_neg (by omega),<- rG h2]
 split
 ·exact ae hI _ _ _ _ (by omega) (by omega) (by omega)
 ·exact ae hI _ _ _ _ (by omega) (by omega) (by omega)
theorem uB (hI:sU n S) {T:List yH}:∀ (m i:Nat) (w:Nat->Bool),i<S.length+2->den (S++T) m i w=den S m i w:=by
 intro m
 induction m with
 | zero=>intro i w _; rfl
 | succ m ih=>
  intro i w hi
  by_cases c:i<2
  ·rw [xA c,xA c]
  obtain⟨a1,a2,a3,a4,a5,a6⟩:=hI.mb (i:=i) (by omega) hi;unfold den;rw [if_neg c,if_neg c,eV (by omega)]
  split
  ·exact ih _ _ (by omega)
  ·exact ih _ _ (by omega)
theorem Wc (hI:sU n S) {w w':Nat->Bool}:∀ (m i:Nat),i<S.length+2->(∀ u,uR S i<=u->w u=w' u)->den S m i w=den S m i w':=by
 intro m
 induction m with
 | zero=>intro i _ _; rfl
 | succ m ih=>
  intro i hi h
  by_cases c:i<2
  ·rw [xA c,xA c]
  obtain⟨a1,a2,a3,a4,a5,a6⟩:=hI.mb (i:=i) (by omega) hi;unfold den;rw [if_neg c,if_neg c,<- rG (by omega),<- h _ (ξ _)]
  split
  ·exact ih _ (by omega) λu hu=>h u (by omega)
  ·exact ih _ (by omega) λu hu=>h u (by omega)
def RZ (w:Nat->Bool) (v:Nat) (b:Bool):Nat->Bool:=λu=>if u=v then b else w u
theorem mQ (hI:sU n S) {i v:Nat} (hi:i<S.length+2) (h:v<uR S i) (w:Nat->Bool) (b:Bool):den S n i (RZ w v b)= den S n i w:= Wc hI _ _ hi λu hu=>by unfold RZ; rw [if_neg (by omega)]
theorem bR (w:Nat->Bool) (v:Nat) (b:Bool):RZ w v b v=b:=by simp [RZ]
theorem uu (hI:sU n S) {i j:Nat} (h2:2<=i) (hi:i<S.length+2) (hj:j<S.length+2) (hl:uR S i<uR S j) (he:∀ w,den S n i w=den S n j w):∀ w,den S n (yP S (i-2)).2.1 w=den S n (yP S (i-2)).2.2 w:=by obtain⟨a1,a2,a3,a4,a5,a6⟩:=hI.mb h2 hi;intro w;have e0:=he (RZ w (uR S i) false);have e1:=he (RZ w (uR S i) true);rw [sK hI h2 hi,bR,if_neg (by decide),mQ hI (by omega) a5,mQ hI hj hl] at e0;rw [sK hI h2 hi,bR,if_pos rfl,mQ hI (by omega) a6,mQ hI hj hl] at e1;rw [e0,e1]
theorem Ru (hn:n<=24) (hI:sU n S):∀ (N i j:Nat),i<N->j<N->i<S.length+2->j<S.length+2->(∀ w,den S n i w=den S n j w)->i=j:=by
 intro N
 induction N with
 | zero=>intro i j h; omega
 | succ N ih=>
  intro i j h1 h2 hi hj he
  by_cases ci:i<2
  ·by_cases cj:j<2
   ·have:=he λ_=>false;rw [xA ci,xA cj] at this;rcases(show i=0\/i=1 by omega) with rfl | rfl <;> rcases(show j=0\/j=1 by omega) with rfl | rfl <;> first | rfl | (exact absurd this (by decide))
   ·obtain⟨b1,b2,b3,b4,b5,b6⟩:=hI.mb (i:=j) (by omega) hj
    by_cases c:uR S j<uR S i
    ·exact absurd (ih _ _ (by omega) (by omega) (by omega) (by omega) (uu hI (by omega) hj hi c λw=>(he w).symm)) b4
    ·exfalso;rw [sL ci] at c;omega
  ·obtain⟨a1,a2,a3,a4,a5,a6⟩:=hI.mb (i:=i) (by omega) hi
   by_cases c:uR S i<uR S j
   ·exact absurd (ih _ _ (by omega) (by omega) (by omega) (by omega) (uu hI (by omega) hi hj c he)) a4
   by_cases cj:j<2
   ·rw [sL cj] at c; omega
   obtain⟨b1,b2,b3,b4,b5,b6⟩:=hI.mb (i:=j) (by omega) hj
   by_cases c2:uR S j<uR S i
   ·exact absurd (ih _ _ (by omega) (by omega) (by omega) (by omega) (uu hI (by omega) hj hi c2 λw=>(he w).symm)) b4
   have el:uR S i=uR S j:=by omega
   have e0:(yP S (i-2)).2.1=(yP S (j-2)).2.1:=ih _ _ (by omega) (by omega) (by omega) (by omega) λw=>by have:=he (RZ w (uR S i) false);rw [sK hI (by omega) hi,bR,if_neg (by decide),mQ hI (by omega) a5,sK hI (show 2<=j by omega) hj,<- el,bR,if_neg (by decide),mQ hI (by omega) (by omega)] at this;exact this
   have e1:(yP S (i-2)).2.2=(yP S (j-2)).2.2:=ih _ _ (by omega) (by omega) (by omega) (by omega) λw=>by have:=he (RZ w (uR S i) true);rw [sK hI (by omega) hi,bR,if_pos rfl,mQ hI (by omega) a6,sK hI (show 2<=j by omega) hj,<- el,bR,if_pos rfl,mQ hI (by omega) (by omega)] at this;exact this
   rw [rG (by omega),rG (by omega)] at el;have et:yP S (i-2)= yP S (j-2):=Prod.ext el (Prod.ext e0 e1)
   rcases Nat.lt_trichotomy i j with h | h | h
   ·exact absurd et (hI.nd _ _ (by omega) (by omega))
   ·exact h
   ·exact absurd et.symm (hI.nd _ _ (by omega) (by omega))
end
def eC (x:yH):List yH->Nat->Option Nat
 | [],_=>none
 | y :: r,i=>if x=y then some i else eC x r (i+1)
theorem pg {x:yH}:∀ {S:List yH} {i k:Nat},eC x S i=some k->i<=k/\k<i+S.length/\yP S (k-i)= x
 | [],_,_,h=>by cases h
 | y :: r,i,k,h=>by
  unfold eC at h
  by_cases e:x=y
  ·rw [if_pos e] at h;cases h;exact⟨ξ _,by simp,by rw [Nat.sub_self]; exact e.symm⟩
  ·rw [if_neg e] at h;obtain⟨h1,h2,h3⟩:=pg h;refine⟨by omega,by rw [ε]; omega,?_⟩;rw [show k-i=(k-(i+1))+ 1 by omega];exact h3
theorem pf {x:yH}:∀ {S:List yH} {i:Nat},eC x S i=none->∀ k,k<S.length->yP S k≠x
 | [],_,_,k,hk=>by simp at hk
 | y :: r,i,h,k,hk=>by
  unfold eC at h
  by_cases e:x=y
  ·rw [if_pos e] at h; cases h
  ·rw [if_neg e] at h
   cases k with
   | zero=>exact λe2=>e e2.symm
   | succ k=>exact pf h k (by simpa using hk)
def pL (S:List yH) (v lo hi:Nat):Nat × List yH:=if lo=hi then(lo,S) else match eC (v,lo,hi) S 0 with
 | some k=>(k+2,S)
 | none=>(S.length+2,S ++ [(v,lo,hi)])
structure Ps (n : Nat) (S : List yH) (v lo hi : Nat) (r : Nat) (S' : List yH) : Prop where
 pre:∃ T,S'=S++T/\T.length<=1
 inv:sU n S'
 lt:r<S'.length+2
 lv:v<=uR S' r
 den:∀ w,den S' n r w=if w v=true then den S n hi w else den S n lo w
theorem Y8 {n:Nat} {S:List yH} (hI:sU n S) {v lo hi:Nat} (hv:v<n) (hlo:lo<S.length+2) (hhi:hi<S.length+2) (vlo:v<uR S lo) (vhi:v<uR S hi):Ps n S v lo hi (pL S v lo hi).1 (pL S v lo hi).2:=by
 unfold pL
 by_cases e:lo=hi
 ·rw [if_pos e];subst e;exact⟨⟨[],by simp,by simp⟩,hI,hlo,by simp only; omega,λw=>by simp⟩
 rw [if_neg e]
 cases hp:eC (v,lo,hi) S 0 with
 | some k=>
  obtain⟨_,h2,h3⟩:=pg hp;rw [Nat.sub_zero] at h3;have hk:yP S (k+2-2)= (v,lo,hi):=by rw [ν]; exact h3
  have hl:uR S (k+2)= v:=by rw [rG (by omega),hk]
  refine⟨⟨[],by simp,by simp⟩,hI,by simp only; omega,by simp only; omega,λw=>?_⟩;simp only;rw [sK hI (by omega) (by omega),hk,hl];split <;> rfl
 | none=>
  have hno:=pf hp
  have hI':sU n (S ++ [(v,lo,hi)]):=by
   refine⟨λk hk=>?_,λi j hij hj=>?_⟩
   ·rw [γ,δ] at hk
    by_cases c:k<S.length
    ·obtain⟨a1,a2,a3,a4,a5,a6⟩:=hI.lo k c;rw [eV c,rS (by omega),rS (by omega)];exact⟨a1,a2,a3,a4,a5,a6⟩
    ·obtain rfl:k=S.length:=by omega
     rw [Xl];simp only;rw [rS hlo,rS hhi];exact⟨hv,hlo,hhi,e,vlo,vhi⟩
   ·rw [γ,δ] at hj
    by_cases c:j<S.length
    ·rw [eV c,eV (by omega)]; exact hI.nd i j hij c
    ·obtain rfl:j=S.length:=by omega
     rw [Xl,eV (by omega)];exact hno i hij
  have hk:yP (S ++ [(v,lo,hi)]) (S.length+2-2)= (v,lo,hi):=by rw [ν]; exact Xl
  have hl:uR (S ++ [(v,lo,hi)]) (S.length+2)= v:=by rw [rG (by omega),hk]
  refine⟨⟨_,rfl,by simp⟩,hI',by simp,by simp only; omega,λw=>?_⟩;simp only;rw [sK hI' (by omega) (by simp),hk,hl]
  split
  ·exact uB hI _ _ _ hhi
  ·exact uB hI _ _ _ hlo
end Bd
namespace Bd
def lY (x:Nat):List (Nat × yH)->Nat->Option Nat
 | [],_=>none
 | y :: r,i=>if x=y.1 then some i else lY x r (i+1)
theorem aW {x:Nat}:∀ {O:List (Nat × yH)} {i k:Nat},lY x O i=some k->i<=k/\k<i+O.length/\(O.getD (k-i) (0,sD)).1=x
 | [],_,_,h=>by cases h
 | y :: r,i,k,h=>by
  unfold lY at h
  by_cases e:x=y.1
  ·rw [if_pos e] at h;cases h;exact⟨ξ _,by simp,by rw [Nat.sub_self]; exact e.symm⟩
  ·rw [if_neg e] at h;obtain⟨h1,h2,h3⟩:=aW h;refine⟨by omega,by rw [ε]; omega,?_⟩;rw [show k-i=(k-(i+1))+ 1 by omega];exact h3
theorem aV {x:Nat}:∀ {O:List (Nat × yH)} {i:Nat},lY x O i=none->∀ k,k<O.length->(O.getD k (0,sD)).1≠x
 | [],_,_,k,hk=>by simp at hk
 | y :: r,i,h,k,hk=>by
  unfold lY at h
  by_cases e:x=y.1
  ·rw [if_pos e] at h; cases h
  ·rw [if_neg e] at h
   cases k with
   | zero=>exact λe2=>e e2.symm
   | succ k=>exact aV h k (by simpa using hk)
theorem jg {x:Nat}:∀ {O:List (Nat × yH)} {i:Nat},(∀ k,k<O.length->(O.getD k (0,sD)).1≠x)->lY x O i=none
 | [],_,_=>rfl
 | y :: r,i,h=>by unfold lY;rw [if_neg λe=>h 0 (by simp) e.symm];exact jg λk hk=>h (k+1) (by simpa using hk)
theorem YC {x:Nat}:∀ {O:List (Nat × yH)} {i k:Nat},k<O.length->(O.getD k (0,sD)).1=x->(∀ j,j<k->(O.getD j (0,sD)).1≠x)->lY x O i=some (i+k)
 | [],_,k,hk,_,_=>by simp at hk
 | y :: r,i,0,_,h,_=>by have h':x=y.1:=h.symm;unfold lY; rw [if_pos h']; rfl
 | y :: r,i,k+1,hk,h,hn=>by unfold lY;rw [if_neg λe=>hn 0 (by omega) e.symm,YC (i:=i+1) (k:=k) (by simpa using hk) h λj hj=>hn (j+1) (by omega)];congr 1; omega
def zP (S:List yH):Nat->Nat->List (Nat × yH)->Nat × List (Nat × yH)
 | 0,i,O=>(i,O)
 | m+1,i,O=>if i<2 then(i,O) else match lY i O 0 with
  | some k=>(k+2,O)
  | none=>
   let p:=zP S m (yP S (i-2)).2.1 O
   let q:=zP S m (yP S (i-2)).2.2 p.2
   (q.2.length+2,q.2 ++ [(i,((yP S (i-2)).1,p.1,q.1))])
def W5 (O:List (Nat × yH)) (x a:Nat):Prop:=(x<2/\a=x)\/(2<=x/\∃ j,j<O.length/\(O.getD j (0,sD)).1=x/\a=j+2)
structure ln (n : Nat) (S : List yH) (O : List (Nat × yH)) : Prop where
 ok:∀ k,k<O.length->2<=(O.getD k (0,sD)).1/\(O.getD k (0,sD)).1<S.length+2/\(O.getD k (0,sD)).2.1=(yP S ((O.getD k (0,sD)).1-2)).1 /\
  W5 (O.take k) (yP S ((O.getD k (0,sD)).1-2)).2.1 (O.getD k (0,sD)).2.2.1/\W5 (O.take k) (yP S ((O.getD k (0,sD)).1-2)).2.2 (O.getD k (0,sD)).2.2.2
 nd:∀ i j,i<j->j<O.length->(O.getD i (0,sD)).1≠(O.getD j (0,sD)).1
theorem zJ {α:Type} {a b:List α} {d:α} {k:Nat} (h:k<a.length):(a++b).getD k d=a.getD k d:=by simp [List.getD,η h]
theorem uP {α:Type} {a:List α} {x d:α}:(a ++ [x]).getD a.length d=x:=by simp [List.getD]
theorem S9 {O T:List (Nat × yH)} {x a:Nat} (h:W5 O x a):W5 (O++T) x a:=by
 rcases h with h | ⟨h1,j,h2,h3,h4⟩
 ·exact .inl h
 ·exact .inr ⟨h1,j,by rw [γ]; omega,by rw [zJ h2]; exact h3,h4⟩
structure OS (n : Nat) (S : List yH) (m i : Nat) (O : List (Nat × yH)) (r : Nat) (O' : List (Nat × yH)) : Prop where
 pre:∃ T,O'=O++T
 out:ln n S O'
 is:W5 O' i r
 len:O'.length+1<=O.length+2 ^ m
 lv:∀ k,O.length<=k->k<O'.length->uR S i<=uR S (O'.getD k (0,sD)).1
theorem Xu {n:Nat} {S:List yH} (hI:sU n S):∀ (m i:Nat) (O:List (Nat × yH)),n<=uR S i+m->i<S.length+2->ln n S O->OS n S m i O (zP S m i O).1 (zP S m i O).2:=by
 intro m
 induction m with
 | zero=>
  intro i O hm hi hO
  by_cases c:i<2
  ·exact⟨⟨[],by simp [zP]⟩,hO,.inl ⟨c,rfl⟩,by simp [zP],λk h1 h2=>by simp only [zP] at h2; omega⟩
  ·have:=(hI.mb (by omega) hi).1; omega
 | succ m ih=>
  intro i O hm hi hO;have hp:0<2 ^ m:=Nat.two_pow_pos _;have hp2:2 ^ (m+1)= 2 ^ m+2 ^ m:=by rw [Nat.pow_succ]; omega
  unfold zP
  by_cases c:i<2
  ·rw [if_pos c]; exact⟨⟨[],by simp⟩,hO,.inl ⟨c,rfl⟩,by simp only; omega,λk h1 h2=>by simp only at h2; omega⟩
  rw [if_neg c]
  cases hpo:lY i O 0 with
  | some k=> obtain⟨_,h2,h3⟩:=aW hpo;exact⟨⟨[],by simp⟩,hO,.inr ⟨by omega,k,by simp only; omega,by simpa using h3,rfl⟩,by simp only; omega,λk h1 h2=>by simp only at h2; omega⟩
  | none=>
   have hno:=aV hpo;obtain⟨a1,a2,a3,a4,a5,a6⟩:=hI.mb (i:=i) (by omega) hi;simp only;have P:=ih (yP S (i-2)).2.1 O (by omega) (by omega) hO;generalize zP S m (yP S (i-2)).2.1 O=p at P;have Q:=ih (yP S (i-2)).2.2 p.2 (by omega) (by omega) P.out;generalize zP S m (yP S (i-2)).2.2 p.2=q at Q;obtain⟨p1,O1⟩:=p;obtain⟨q1,O2⟩:=q;obtain⟨⟨T1,e1⟩,outP,isP,lenP,lvP⟩:=P;obtain⟨⟨T2,e2⟩,outQ,isQ,lenQ,lvQ⟩:=Q;simp only at e1 outP isP lenP lvP e2 outQ isQ lenQ lvQ ⊢;have hl1:O1.length=O.length+T1.length:=by rw [e1,γ]
   have hl2:O2.length=O1.length+T2.length:=by rw [e2,γ]
   have hnew:∀ k,k<O2.length->(O.length<=k->uR S i<uR S (O2.getD k (0,sD)).1)/\ (O2.getD k (0,sD)).1≠i:=λk hk=>by
    have h1:O.length<=k->uR S i<uR S (O2.getD k (0,sD)).1:=λh=>by
     by_cases ck:k<O1.length
     ·have:=lvP k h ck;rw [e2,zJ ck]; omega
     ·have:=lvQ k (by omega) hk; omega
    refine⟨h1,?_⟩
    by_cases ck:k<O.length
    ·rw [e2,zJ (by omega),e1,zJ ck]; exact hno k ck
    ·intro e;have:=h1 (by omega);rw [e] at this; omega
   refine⟨⟨T1++T2 ++ [(i,((yP S (i-2)).1,p1,q1))],by rw [e2,e1]; simp⟩,⟨λk hk=>?_,λx y hxy hy=>?_⟩,.inr ⟨by omega,O2.length,by simp,by rw [uP],rfl⟩,by simp only [γ,δ]; omega,λk h1 h2=>?_⟩
   ·rw [γ,δ] at hk
    by_cases ck:k<O2.length
    ·rw [zJ ck,ζ (by omega)];exact outQ.ok k ck
    ·obtain rfl:k=O2.length:=by omega
     rw [uP,ζ (by omega),List.take_length];exact⟨by simp only; omega,hi,rfl,by rw [e2]; exact S9 isP,isQ⟩
   ·rw [γ,δ] at hy
    by_cases cy:y<O2.length
    ·rw [zJ cy,zJ (by omega)]; exact outQ.nd x y hxy cy
    ·obtain rfl:y=O2.length:=by omega
     rw [uP,zJ (by omega)];exact(hnew x hxy).2
   ·rw [γ,δ] at h2
    by_cases ck:k<O2.length
    ·rw [zJ ck];have:=(hnew k ck).1 h1; omega
    ·obtain rfl:k=O2.length:=by omega
     rw [uP]; exact ξ _
theorem Y7 (n:Nat) (S:List yH):ln n S []:=⟨λk h=>by simp at h,λi j _ h=>by simp at h⟩
def qF (O:List (Nat × yH)):List yH:=O.map (·.2)
theorem rN (O:List (Nat × yH)):(qF O).length=O.length:=by simp [qF]
theorem gP {O:List (Nat × yH)} {k:Nat} (h:k<O.length):yP (qF O) k=(O.getD k (0,sD)).2:=by simp [yP,qF,List.getD,h]
section
variable {n : Nat} {S : List yH} {O : List (Nat × yH)}
theorem pG {x a k:Nat} (hk:k<=O.length) (h:W5 (O.take k) x a):W5 O x a/\a<k+2:=by
 rcases h with ⟨h1,h2⟩ | ⟨h1,j,h2,h3,h4⟩
 ·exact⟨.inl ⟨h1,h2⟩,by omega⟩
 ·have hj:j<k:=by rw [List.length_take] at h2; omega
  rw [List.getD,List.getElem?_take_of_lt hj] at h3;exact⟨.inr ⟨h1,j,by omega,h3,h4⟩,by omega⟩
theorem ix {x y a:Nat} (h:W5 O x a) (h':W5 O y a):x=y:=by
 rcases h with ⟨h1,h2⟩ | ⟨h1,j,h2,h3,h4⟩ <;> rcases h' with ⟨g1,g2⟩ | ⟨g1,k,g2,g3,g4⟩
 ·omega
 ·omega
 ·omega
 ·obtain rfl:j=k:=by omega
  rw [<- h3,<- g3]
theorem VJ (hO:ln n S O) {x a:Nat} (h:W5 O x a):uR (qF O) a=uR S x:=by
 rcases h with ⟨h1,h2⟩ | ⟨h1,j,h2,h3,h4⟩
 ·rw [h2,sL h1,sL h1]
 ·obtain⟨_,_,b,_,_⟩:=hO.ok j h2;rw [h4,rG (by omega),rG h1,ν,gP h2,b,h3]
theorem SY (hI:sU n S) (hO:ln n S O):sU n (qF O):=by
 refine⟨λk hk=>?_,λi j hij hj=>?_⟩
 ·rw [rN] at hk;obtain⟨b1,b2,b3,b4,b5⟩:=hO.ok k hk;obtain⟨a1,a2,a3,a4,a5,a6⟩:=hI.mb b1 b2;obtain⟨c1,c2⟩:=pG (by omega) b4;obtain⟨d1,d2⟩:=pG (by omega) b5;rw [gP hk,VJ hO c1,VJ hO d1,b3,<- rG b1];exact⟨a1,c2,d2,λe=>a4 (ix c1 (e ▸ d1)),a5,a6⟩
 ·rw [rN] at hj;obtain⟨b1,b2,b3,b4,b5⟩:=hO.ok i (by omega);obtain⟨g1,g2,g3,g4,g5⟩:=hO.ok j hj;obtain⟨c1,_⟩:=pG (by omega) b4;obtain⟨d1,_⟩:=pG (by omega) b5;obtain⟨c2,_⟩:=pG (by omega) g4;obtain⟨d2,_⟩:=pG (by omega) g5;rw [gP hj,gP (by omega)];intro e;rw [e] at b3 c1 d1;have zL:=hO.nd i j hij hj;have et:yP S ((O.getD i (0,sD)).1-2)= yP S ((O.getD j (0,sD)).1-2):=Prod.ext (by rw [<- b3,<- g3]) (Prod.ext (ix c1 c2) (ix d1 d2))
  rcases π (O.getD i (0,sD)).1 (O.getD j (0,sD)).1 with h | h
  ·exact hI.nd _ _ (by omega) (by omega) et
  ·exact hI.nd _ _ (show (O.getD j (0,sD)).1-2<(O.getD i (0,sD)).1-2 by omega) (by omega) et.symm
theorem SZ (hO:ln n S O):∀ (m x a:Nat) (w:Nat->Bool),W5 O x a->den (qF O) m a w=den S m x w:=by
 intro m
 induction m with
 | zero=>
  intro x a w h
  rcases h with ⟨h1,h2⟩ | ⟨h1,j,h2,h3,h4⟩
  ·rw [h2]; rfl
  ·subst h4;show (j+2==1)= (x==1);rw [beq_eq_false_iff_ne.2 (by omega),beq_eq_false_iff_ne.2 (by omega)]
 | succ m ih=>
  intro x a w h
  rcases h with ⟨h1,h2⟩ | ⟨h1,j,h2,h3,h4⟩
  ·rw [h2,xA h1,xA h1]
  ·obtain⟨b1,b2,b3,b4,b5⟩:=hO.ok j h2;obtain⟨c1,_⟩:=pG (by omega) b4;obtain⟨d1,_⟩:=pG (by omega) b5
   have e1:den (qF O) (m+1) a w=den (qF O) m (if w (O.getD j (0,sD)).2.1=true then(O.getD j (0,sD)).2.2.2 else(O.getD j (0,sD)).2.2.1) w:=by
    subst h4;conv=>lhs; unfold den
    rw [if_neg (by omega),ν,gP h2]
   have e2:den S (m+1) x w=den S m (if w (yP S (x-2)).1=true then(yP S (x-2)).2.2 else(yP S (x-2)).2.1) w:=by
    conv=>lhs; unfold den
    rw [if_neg (by omega)]
   rw [e1,e2,b3];rw [h3] at c1 d1 ⊢
   split
   ·exact ih _ _ _ d1
   ·exact ih _ _ _ c1
end
theorem YQ (S:List yH):∀ (m i:Nat) (O:List (Nat × yH)),∃ T,(zP S m i O).2=O++T:=by
 intro m
 induction m with
 | zero=>intro i O; exact⟨[],by simp [zP]⟩
 | succ m ih=>
  intro i O;unfold zP
  split
  ·exact⟨[],by simp⟩
  ·split
   ·exact⟨[],by simp⟩
   ·simp only;obtain⟨T1,e1⟩:=ih (yP S (i-2)).2.1 O;obtain⟨T2,e2⟩:=ih (yP S (i-2)).2.2 (zP S m (yP S (i-2)).2.1 O).2;rw [e2,e1];exact⟨_,by rw [θ,θ]⟩
def iX (E:List yH) (k:Nat):List (Nat × yH):=(List.range k).map λj=>(j+2,yP E j)
theorem lD (E:List yH) (k:Nat):(iX E k).length=k:=by simp [iX]
theorem bC {E:List yH} {k j:Nat} (h:j<k):(iX E k).getD j (0,sD)= (j+2,yP E j):=by simp [iX,List.getD,h]
theorem XY (E:List yH) (k:Nat):iX E (k+1)= iX E k ++ [(k+2,yP E k)]:=by simp [iX,List.range_succ]
theorem Ug {S:List yH} {E:List yH}:∀ (m i:Nat) (O:List (Nat × yH)),(∃ T,E=qF (zP S m i O).2++T)->zP E m (zP S m i O).1 (iX E O.length)= ((zP S m i O).1,iX E (zP S m i O).2.length):=by
 intro m
 induction m with
 | zero=>intro i O _; rfl
 | succ m ih=>
  intro i O hT
  by_cases c:i<2
  ·have e:zP S (m+1) i O=(i,O):=by unfold zP; rw [if_pos c]
   rw [e];unfold zP;rw [if_pos c]
  cases hpo:lY i O 0 with
  | some k=>
   have e:zP S (m+1) i O=(k+2,O):=by unfold zP; rw [if_neg c,hpo]
   obtain⟨_,h2,_⟩:=aW hpo;rw [e];unfold zP;simp only;rw [if_neg (by omega),YC (k:=k) (by rw [lD]; omega) (by rw [bC (by omega)]) λj hj=>by rw [bC (by omega)]; simp only; omega];simp
  | none=>
   have e:zP S (m+1) i O=((zP S m (yP S (i-2)).2.2 (zP S m (yP S (i-2)).2.1 O).2).2.length+2,(zP S m (yP S (i-2)).2.2 (zP S m (yP S (i-2)).2.1 O).2).2 ++ [(i,((yP S (i-2)).1,(zP S m (yP S (i-2)).2.1 O).1,(zP S m (yP S (i-2)).2.2 (zP S m (yP S (i-2)).2.1 O).2).1))]):=by
    conv=>lhs; unfold zP
    rw [if_neg c,hpo]
   rw [e] at hT ⊢;have P:=ih (yP S (i-2)).2.1 O;have hpre1:∃ T,(zP S m (yP S (i-2)).2.1 O).2=O++T:=YQ _ _ _ _;generalize zP S m (yP S (i-2)).2.1 O=p at P hT hpre1 ⊢;have Q:=ih (yP S (i-2)).2.2 p.2;have hpre2:∃ T,(zP S m (yP S (i-2)).2.2 p.2).2=p.2++T:=YQ _ _ _ _;generalize zP S m (yP S (i-2)).2.2 p.2=q at Q hT hpre2 ⊢;obtain⟨p1,O1⟩:=p;obtain⟨q1,O2⟩:=q;obtain⟨T1,e1⟩:=hpre1;obtain⟨T2,e2⟩:=hpre2;obtain⟨T,hT⟩:=hT;simp only at P Q e1 e2 hT ⊢;have hl1:O1.length=O.length+T1.length:=by rw [e1,γ]
   have hl2:O2.length=O1.length+T2.length:=by rw [e2,γ]
   have P:=P ⟨qF T2++qF [(i,((yP S (i-2)).1,p1,q1))]++T,by rw [hT,e2]; simp [qF]⟩;have Q:=Q ⟨qF [(i,((yP S (i-2)).1,p1,q1))]++T,by rw [hT]; simp [qF]⟩
   have hat:yP E O2.length=((yP S (i-2)).1,p1,q1):=by rw [hT,eV (by rw [rN]; simp),gP (by simp),uP]
   unfold zP
   rw [if_neg (by omega),jg λk hk=>by rw [lD] at hk;rw [bC hk]; simp only; omega]
   simp only [ν,hat];rw [P,Q];simp only [lD,γ,δ];rw [XY,hat]
end Bd
end Go.Pd

/- Part F8. -/
namespace Go.Pd
open Go Go.Proofs
open BitVec renaming isValue -> ZA
open Rs Fm
namespace Fm
def Nd.key (p:Nd):List Int:=[p.op,p.i,p.e,p.g,p.x,p.y]
theorem key_inj {p q:Nd} (h:p.key=q.key):p=q:=by cases p; cases q;simp only [Nd.key,List.cons.injEq,and_true] at h;simp only [Nd.mk.injEq];exact h
def mI : List Nd->Nat->List (List Int × D)
 | [],_=>[]
 | q :: r,k=>(q.key,.int .i64 k) :: mI r (k+1)
def pM (q:Nd):List Nd->Nat->Option Nat
 | [],_=>none
 | p :: r,k=>if q=p then some k else pM q r (k+1)
theorem pY (q:Nd):∀ (l:List Nd) (k:Nat),uJ q.key (mI l k) k=(pM q l k).map λ(j:Nat)=>(j,D.int .i64 (j:Int))
 | [],k=>rfl
 | p :: r,k=>by
  unfold mI uJ pM
  by_cases h:q=p
  ·rw [if_pos (by rw [h]),if_pos h]; rfl
  ·rw [if_neg (λe=>h (key_inj e)),if_neg h]; exact pY q r (k+1)
theorem gD (q:Nd):∀ (l:List Nd) (k:Nat),mI (l ++ [q]) k=mI l k ++ [(q.key,.int .i64 (k+l.length:Nat))]
 | [],k=>rfl
 | p :: r,k=>by show _ :: mI (r ++ [q]) (k+1)= _;rw [gD q r (k+1)];simp [mI,Nat.add_assoc,Nat.add_comm 1]
theorem lH (l:List Nd):∀ (k:Nat),∀ p ∈ mI l k,p.1.length=6:=by
 induction l with
 | nil=>intro k p hp; cases hp
 | cons q r ih=>
  intro k p hp
  rcases List.mem_cons.1 hp with rfl | hp
  ·rfl
  ·exact ih _ p hp
def kS (x y:Int):List (Int × Int)->List (Int × Int)
 | []=>[(x,y)]
 | (k,z) :: r=>if x=k then(x,y) :: r else(k,z) :: kS x y r
theorem l6 (x:Int) (l:List (Int × D)):∀ i,qG x l (i+1)= (qG x l i).map λp=>(p.1+1,p.2):=by
 induction l with
 | nil=>intro i; rfl
 | cons p r ih=>
  intro i;obtain⟨k,d⟩:=p;unfold qG
  by_cases h:x=k
  ·rw [if_pos h,if_pos h]; rfl
  ·rw [if_neg h,if_neg h]; exact ih (i+1)
theorem nK (x y:Int):∀ (u:List (Int × Int)),ff (mo u) x (.int .i64 y)= mo (kS x y u)
 | []=>rfl
 | (k,z) :: r=>by
  have ih:=nK x y r;unfold ff at ih ⊢
  show (match qG x ((k,D.int .i64 z) :: mo r) 0 with
   | some (i,_)=>((k,D.int .i64 z) :: mo r).set i (x,D.int .i64 y)
   | none=>((k,D.int .i64 z) :: mo r)++ [(x,D.int .i64 y)])= _
  unfold qG kS
  by_cases h:x=k
  ·rw [if_pos h,if_pos h]; rfl
  ·rw [if_neg h,if_neg h,l6]
   cases ha:qG x (mo r) 0 with
   | none=>rw [ha] at ih; simp only [μ]; show _=(k,D.int .i64 z) :: mo (kS x y r); rw [<- ih]; rfl
   | some p=>rw [ha] at ih; obtain⟨i,d⟩:=p; simp only [κ]; show _=(k,D.int .i64 z) :: mo (kS x y r); rw [<- ih]; rfl
theorem pV (x y z:Int):∀ (u:List (Int × Int)),zZ z (kS x y u)= if z=x then some y else zZ z u
 | []=>by simp [kS,zZ]
 | (k,w) :: r=>by
  unfold kS
  by_cases h:x=k
  ·rw [if_pos h];subst h;unfold zZ
   by_cases e:z=x
   ·rw [if_pos e,if_pos e]
   ·rw [if_neg e,if_neg e,if_neg e]
  ·rw [if_neg h];unfold zZ;rw [pV x y z r]
   by_cases e:z=k
   ·rw [if_pos e,if_neg (by omega),if_pos e]
   ·rw [if_neg e,if_neg e]
structure CS where
 out:List Nd
 done:List (Int × Int)
def xH (f:List Nd):Nat->Nat->CS->Int × CS
 | 0,_,s=>(0,s)
 | n+1,i,s=>match zZ i s.done with
  | some k=>(k,s)
  | none=>
   let p:=f.getD i yG
   let a:=if (xW p.op).1.x=true then xH f n p.x.toNat s else(p.x,s)
   let b:=if (xW p.op).1.y=true then xH f n p.y.toNat a.2 else(p.y,a.2)
   let q:Nd:=⟨p.op,p.i,p.e,p.g,a.1,b.1⟩
   match pM q b.2.out 0 with
   | some k=>(k,⟨b.2.out,kS i k b.2.done⟩)
   | none=>(b.2.out.length,⟨b.2.out ++ [q],kS i b.2.out.length b.2.done⟩)
def tB (f:List Nd) (i:Nat):List Nd:=(xH f (i+1) i ⟨[],[]⟩).2.out
end Fm
open Rs Fm
namespace Fm
structure mG (f : List Nd) (nx : Nat) (xX : List (Nat × Ob)) (key : Nat) (s : CS) : Prop where
 hn:7<=nx
 h0:St.look xX 0=some ⟨1,[[.sl 6 (vW f)]]⟩
 h1:St.look xX 1=some ⟨1,[[xJ key 6 (vW s.out)]]⟩
 hk:7<=key/\key≠nx/\key≠nx+1/\St.look xX key=wW 6 (vW s.out)
 fr:∀ k,nx<=k->St.look xX k=none
 h2:St.look xX 2=some ⟨0,vZ (mI s.out 0)⟩
 h3:St.look xX 3=some ⟨1,[[.yV 2]]⟩
 h4:St.look xX 4=some ⟨0,oX .i64 (mo s.done)⟩
 h5:St.look xX 5=some ⟨1,[[.yV 4]]⟩
 h6:St.look xX 6=some ⟨1,[[.fn 71 [.ref 5 1 0 0,.ref 0 1 0 0,.ref 6 1 0 0,.ref 3 1 0 0,.ref 1 1 0 0]]]⟩
def oP (op i e g x y:Int):Ob:=⟨6,[[.int .i64 op,.int .i64 i,.int .i64 e,.int .i64 g,.int .i64 x,.int .i64 y]]⟩
def eH (u:zn):Ob:=⟨7,[[.bool u.x,.bool u.y,.bool u.fa,.bool u.ag,.bool u.gr,.bool u.ev,.int .i64 u.fr]]⟩
def Sz (i:Nat) (nx nx2:Nat) (objs2:List (Nat × Ob)) (key2:Nat) (s2:CS) (q:Nd) (d:D) (σ':St):Prop:=
 (∃ k,pM q s2.out 0=some k/\d = .int .i64 k/\σ'=⟨nx2,wO (wO objs2 nx (oP q.op q.i q.e q.g q.x q.y)) 4 ⟨0,oX .i64 (mo (kS i k s2.done))⟩⟩) \/
 (pM q s2.out 0=none/\s2.out.length<=1000/\d = .int .i64 s2.out.length/\σ'=⟨nx2+1,yX nx2 6 (vW (s2.out ++ [q]))++ wO (wO (wO (yE (wO objs2 nx (oP q.op q.i q.e q.g q.x q.y)) key2) 1 ⟨1,[[xJ nx2 6 (vW (s2.out ++ [q]))]]⟩) 2 ⟨0,vZ (mI (s2.out ++ [q]) 0)⟩) 4 ⟨0,oX .i64 (mo (kS i s2.out.length s2.done))⟩⟩)
end Fm
theorem Sr {f:List Nd} {nx:Nat} {xX:List (Nat × Ob)} {key:Nat} {s:CS} {i:Nat} {d:D} {σ':St} (hI:mG f nx xX key s) (hi:i<f.length) (hlen:f.length<=1000) {p:Nd} (hp:f.getD i yG=p) (hno:zZ i s.done=none) (hux:(xW p.op).1.x=false) (huy:(xW p.op).1.y=false)
  (h:Sz i nx (nx+1+1) ((nx+1,eH (xW p.op).1) :: (nx,oP p.op p.i p.e p.g p.x p.y) :: xX) key s p d σ') :
  xU prog 71 [.int .i64 i,.ref 5 1 0 0,.ref 0 1 0 0,.ref 6 1 0 0,.ref 3 1 0 0,.ref 1 1 0 0] ⟨nx,xX⟩ d σ':=by
 obtain⟨hn,h0,h1,⟨k1,k2,k3,hkk⟩,aJ,h2,h3,h4,h5,h6⟩:=hI;rcases sJ (i:Int) s.done 0 with ⟨q1,q2⟩ | ⟨y,j,q1,q2⟩
 rotate_left
 ·rw [hno] at q1; cases q1
 have hg:=rX f hi;rw [hp] at hg;have hx1:∀ k:Nat,k<7->¬ nx=k:=λk h=>by omega
 have hx2:∀ k:Nat,k<7->¬ nx+1=k:=λk h=>by omega
 have hx3:¬ nx+1=nx:=by omega
 have hmg:∀ {nx':Nat} {objs':List (Nat × Ob)} {zero:D} {ok:Bool} {K:D->Prop},St.look objs' 2=some ⟨0,vZ (mI s.out 0)⟩->nU ⟨nx',objs'⟩ 6 zero ok (.yV 2) (.agg [.int .i64 p.op,.int .i64 p.i,.int .i64 p.e,.int .i64 p.g,.int .i64 p.x,.int .i64 p.y]) K=K (qV ok zero ((pM p s.out 0).map λ(j:Nat)=>(j,D.int .i64 (j:Int)))):=λ{nx' objs' zero ok K} hl=>by rw [<- pY p s.out 0];exact oE hl (x:=p.key) rfl rfl (lH _ _)
 refine yS func71 PZ λhf=>?_;simp only [simprocAttr,-ZA,↓zU,↓zD,zV,zT,zW,h5,h4,q2,h0,xF,hg,Nd.row]
 (repeat refine sd ?_)
 refine .go (cq (bS p.op)) ?_
 have hl2:St.look ((nx+1,eH (xW p.op).1) :: (nx,oP p.op p.i p.e p.g p.x p.y) :: xX) 2=some ⟨0,vZ (mI s.out 0)⟩:=by rw [xY,if_neg (by omega),xY,if_neg (by omega)]; exact h2
 simp only [eH,oP,hux,huy] at hl2
 rcases h with ⟨k,e1,rfl,rfl⟩ | ⟨e1,e2,rfl,rfl⟩
 ·have hmg2:=@hmg;rw [e1] at hmg2;simp only [simprocAttr,-ZA,↓zU,↓zD,zV,zT,zW,zn.row,hux,huy,h3,hx1 3 (by omega),hx2 3 (by omega),hx1 5 (by omega),hx2 5 (by omega),hx1 4 (by omega),hx2 4 (by omega),hx1 2 (by omega),hx2 2 (by omega),hx3,h2,hmg2,κ,h5,h4]
  (repeat refine sd ?_)
  rw [nK];simp only [eH,oP,hux,huy];exact .same
 ·have hmg2:=@hmg;rw [e1] at hmg2;have hx4:¬ nx=key:=by omega
  have hx5:¬ nx+1=key:=by omega
  have hx6:∀ k:Nat,k<7->¬ nx+1+1=k:=λk h=>by omega
  have hx7:¬ nx+1+1=nx:=by omega
  have hx8:¬ nx+1+1=nx+1:=by omega
  have he:∀ k:Nat,k<7->St.look (yE xX key) k=St.look xX k:=λk h=>by rw [xK,if_neg (by omega)]
  have he1:=he 1 (by omega);have he2:=he 2 (by omega);have he3:=he 3 (by omega);have he4:=he 4 (by omega);have he5:=he 5 (by omega);rw [h1] at he1;rw [h2] at he2;rw [h3] at he3;rw [h4] at he4;rw [h5] at he5;have hpz:D.xT [.int .i64 p.op,.int .i64 p.i,.int .i64 p.e,.int .i64 p.g,.int .i64 p.x,.int .i64 p.y]=true:=by simp [D.xT,D.xO]
  have hms:∀ {nx':Nat} {objs':List (Nat × Ob)} {x:D} {K:D->St->Prop},St.look objs' 2=some ⟨0,vZ (mI s.out 0)⟩->oZ ⟨nx',objs'⟩ 6 (.yV 2) (.agg [.int .i64 p.op,.int .i64 p.i,.int .i64 p.e,.int .i64 p.g,.int .i64 p.x,.int .i64 p.y]) x K=K .uO ⟨nx',wO objs' 2 ⟨0,vZ (mI s.out 0 ++ [(p.key,x)])⟩⟩:=λ{nx' objs' x K} hl=> kX hl (y:=p.key) rfl rfl (lH _ _) (by rw [pY,e1]; rfl)
  simp only [simprocAttr,-ZA,↓zU,↓zD,zV,zT,zW,zn.row,hux,huy,h3,hx1 3 (by omega),hx2 3 (by omega),hx1 5 (by omega),hx2 5 (by omega),hx1 4 (by omega),hx2 4 (by omega),hx1 2 (by omega),hx2 2 (by omega),hx1 1 (by omega),hx2 1 (by omega),hx6 1 (by omega),hx6 2 (by omega),hx6 3 (by omega),hx6 4 (by omega),hx6 5 (by omega),he1,he2,he3,he4,he5,hx3,hx7,hx8,h1,h2,hmg2,hms,hpz,xV,μ,h5,h4,hkk,xF,hx4,hx5]
  (repeat refine sd ?_)
  have er:vW (s.out ++ [p])= vW s.out ++ [[.int .i64 p.op,.int .i64 p.i,.int .i64 p.e,.int .i64 p.g,.int .i64 p.x,.int .i64 p.y]]:=by simp [vW,Nd.row]
  rw [nK,er,gD,ο];simp only [eH,oP,hux,huy];exact .same
open Rs Fm
theorem Uu {f:List Nd} {nx:Nat} {xX:List (Nat × Ob)} {key:Nat} {s:CS} {i:Nat} {d:D} {σ':St} (hI:mG f nx xX key s) (hi:i<f.length) (hlen:f.length<=1000) {p:Nd} (hp:f.getD i yG=p) (hno:zZ i s.done=none) (hux:(xW p.op).1.x=true) (huy:(xW p.op).1.y=false)
  {a:Int} {nx1:Nat} {objs1:List (Nat × Ob)} {key1:Nat} {s1:CS}
  (hcall:xU prog 71 [.int .i64 p.x,.ref 5 1 0 0,.ref 0 1 0 0,.ref 6 1 0 0,.ref 3 1 0 0,.ref 1 1 0 0] ⟨nx+1+1,(nx+1,eH (xW p.op).1) :: (nx,oP p.op p.i p.e p.g p.x p.y) :: xX⟩ (.int .i64 a) ⟨nx1,objs1⟩)
  (hI1:mG f nx1 objs1 key1 s1) (hN:St.look objs1 nx=some (oP p.op p.i p.e p.g p.x p.y)) (hU:St.look objs1 (nx+1)= some (eH (xW p.op).1)) (hle:nx+1+1<=nx1) (hke:key1≠nx)
  (h:Sz i nx nx1 objs1 key1 s1 ⟨p.op,p.i,p.e,p.g,a,p.y⟩ d σ') :
  xU prog 71 [.int .i64 i,.ref 5 1 0 0,.ref 0 1 0 0,.ref 6 1 0 0,.ref 3 1 0 0,.ref 1 1 0 0] ⟨nx,xX⟩ d σ':=by
 obtain⟨hn,h0,h1,⟨k1,k2,k3,hkk⟩,aJ,h2,h3,h4,h5,h6⟩:=hI;obtain⟨hn',h0',h1',⟨k1',k2',k3',hkk'⟩,hfr',h2',h3',h4',h5',h6'⟩:=hI1;rcases sJ (i:Int) s.done 0 with ⟨q1,q2⟩ | ⟨y,j,q1,q2⟩
 rotate_left
 ·rw [hno] at q1; cases q1
 have hg:=rX f hi;rw [hp] at hg;have hx1:∀ k:Nat,k<7->¬ nx=k:=λk h=>by omega
 have hx2:∀ k:Nat,k<7->¬ nx+1=k:=λk h=>by omega
 have hx3:¬ nx+1=nx:=by omega
 have hx9:¬ nx=nx+1:=by omega
 have hmg:∀ {nx':Nat} {objs':List (Nat × Ob)} {zero:D} {ok:Bool} {K:D->Prop},St.look objs' 2=some ⟨0,vZ (mI s1.out 0)⟩->nU ⟨nx',objs'⟩ 6 zero ok (.yV 2) (.agg [.int .i64 p.op,.int .i64 p.i,.int .i64 p.e,.int .i64 p.g,.int .i64 a,.int .i64 p.y]) K=K (qV ok zero ((pM ⟨p.op,p.i,p.e,p.g,a,p.y⟩ s1.out 0).map λ(j:Nat)=>(j,D.int .i64 (j:Int)))):=λ{nx' objs' zero ok K} hl=>by rw [<- pY ⟨p.op,p.i,p.e,p.g,a,p.y⟩ s1.out 0];exact oE hl (x:=Nd.key ⟨p.op,p.i,p.e,p.g,a,p.y⟩) rfl rfl (lH _ _)
 simp only [oP] at hN hcall;simp only [eH] at hU hcall;rw [hux,huy] at hU hcall;refine yS func71 PZ λhf=>?_;simp only [simprocAttr,-ZA,↓zU,↓zD,zV,zT,zW,h5,h4,q2,h0,xF,hg,Nd.row]
 (repeat refine sd ?_)
 refine .go (cq (bS p.op)) ?_;simp only [simprocAttr,-ZA,↓zU,↓zD,zV,zT,zW,zn.row,hux,huy,h6,hx1 6 (by omega),hx2 6 (by omega),hx3]
 (repeat refine sd ?_)
 refine .go hcall ?_
 rcases h with ⟨k,e1,rfl,rfl⟩ | ⟨e1,e2,rfl,rfl⟩
 ·have hmg2:=@hmg;rw [e1] at hmg2;simp only [simprocAttr,-ZA,↓zU,↓zD,zV,zT,zW,hN,hU,h3',h2',hmg2,κ,h5',h4',xV,hx1 3 (by omega),hx1 5 (by omega),hx1 4 (by omega),hx1 2 (by omega),hx1 1 (by omega),hx3,hx9]
  (repeat refine sd ?_)
  rw [nK];simp only [oP];exact .same
 ·have hmg2:=@hmg;rw [e1] at hmg2;have y1:∀ k:Nat,k<7->¬ key1=k:=λk h=>by omega
  have y2:¬ nx=key1:=λe=>hke e.symm;have y3:∀ k:Nat,k<7->¬ nx1=k:=λk h=>by omega
  have y4:¬ nx1=nx:=by omega
  have z1:∀ k:Nat,k<7->¬ k=nx:=λk h=>by omega
  have z2:∀ k:Nat,k<7->¬ k=nx1:=λk h=>by omega
  have hpz:D.xT [.int .i64 p.op,.int .i64 p.i,.int .i64 p.e,.int .i64 p.g,.int .i64 a,.int .i64 p.y]=true:=by simp [D.xT,D.xO]
  have hms:∀ {nx':Nat} {objs':List (Nat × Ob)} {x:D} {K:D->St->Prop},St.look objs' 2=some ⟨0,vZ (mI s1.out 0)⟩->oZ ⟨nx',objs'⟩ 6 (.yV 2) (.agg [.int .i64 p.op,.int .i64 p.i,.int .i64 p.e,.int .i64 p.g,.int .i64 a,.int .i64 p.y]) x K=K .uO ⟨nx',wO objs' 2 ⟨0,vZ (mI s1.out 0 ++ [(Nd.key ⟨p.op,p.i,p.e,p.g,a,p.y⟩,x)])⟩⟩:=λ{nx' objs' x K} hl=> kX hl (y:=Nd.key ⟨p.op,p.i,p.e,p.g,a,p.y⟩) rfl rfl (lH _ _) (by rw [pY,e1]; rfl)
  simp only [simprocAttr,-ZA,↓zU,↓zD,zV,zT,zW,hN,hU,h1',h3',h2',hmg2,hms,hpz,μ,κ,h5',h4',hkk',xF,xV,xK,hx1 3 (by omega),hx1 5 (by omega),hx1 4 (by omega),hx1 2 (by omega),hx1 1 (by omega),hx3,hx9,y1 1 (by omega),y1 2 (by omega),y1 3 (by omega),y1 4 (by omega),y1 5 (by omega),y2,hke,y3 1 (by omega),y3 2 (by omega),y3 3 (by omega),y3 4 (by omega),y3 5 (by omega),y4,z1 1 (by omega),z1 2 (by omega),z1 4 (by omega),z2 1 (by omega),z2 2 (by omega),z2 4 (by omega)]
  (repeat refine sd ?_)
  have er:vW (s1.out ++ [⟨p.op,p.i,p.e,p.g,a,p.y⟩])= vW s1.out ++ [[.int .i64 p.op,.int .i64 p.i,.int .i64 p.e,.int .i64 p.g,.int .i64 a,.int .i64 p.y]]:=by simp [vW,Nd.row]
  rw [nK,er,gD,ο];simp only [oP];exact .same
open Rs Fm
theorem ZP {f:List Nd} {nx:Nat} {xX:List (Nat × Ob)} {key:Nat} {s:CS} {i:Nat} {d:D} {σ':St} (hI:mG f nx xX key s) (hi:i<f.length) (hlen:f.length<=1000) {p:Nd} (hp:f.getD i yG=p) (hno:zZ i s.done=none) (hux:(xW p.op).1.x=true) (huy:(xW p.op).1.y=true)
  {a:Int} {nx1:Nat} {objs1:List (Nat × Ob)} {key1:Nat} {s1:CS}
  (hcall:xU prog 71 [.int .i64 p.x,.ref 5 1 0 0,.ref 0 1 0 0,.ref 6 1 0 0,.ref 3 1 0 0,.ref 1 1 0 0] ⟨nx+1+1,(nx+1,eH (xW p.op).1) :: (nx,oP p.op p.i p.e p.g p.x p.y) :: xX⟩ (.int .i64 a) ⟨nx1,objs1⟩)
  (hI1:mG f nx1 objs1 key1 s1) (hN:St.look objs1 nx=some (oP p.op p.i p.e p.g p.x p.y)) (hU:St.look objs1 (nx+1)= some (eH (xW p.op).1))
  {b:Int} {nx2:Nat} {objs2:List (Nat × Ob)} {key2:Nat} {s2:CS}
  (hcall2:xU prog 71 [.int .i64 p.y,.ref 5 1 0 0,.ref 0 1 0 0,.ref 6 1 0 0,.ref 3 1 0 0,.ref 1 1 0 0] ⟨nx1,wO objs1 nx (oP p.op p.i p.e p.g a p.y)⟩ (.int .i64 b) ⟨nx2,objs2⟩)
  (hI2:mG f nx2 objs2 key2 s2) (hN2:St.look objs2 nx=some (oP p.op p.i p.e p.g a p.y)) (hle:nx+1+1<=nx2) (hke:key2≠nx)
  (h:Sz i nx nx2 objs2 key2 s2 ⟨p.op,p.i,p.e,p.g,a,b⟩ d σ') :
  xU prog 71 [.int .i64 i,.ref 5 1 0 0,.ref 0 1 0 0,.ref 6 1 0 0,.ref 3 1 0 0,.ref 1 1 0 0] ⟨nx,xX⟩ d σ':=by
 obtain⟨hn,h0,h1,⟨k1,k2,k3,hkk⟩,aJ,h2,h3,h4,h5,h6⟩:=hI;have h61:=hI1.h6;obtain⟨hn',h0',h1',⟨k1',k2',k3',hkk'⟩,hfr',h2',h3',h4',h5',h6'⟩:=hI2;rcases sJ (i:Int) s.done 0 with ⟨q1,q2⟩ | ⟨y,j,q1,q2⟩
 rotate_left
 ·rw [hno] at q1; cases q1
 have hg:=rX f hi;rw [hp] at hg;have hx1:∀ k:Nat,k<7->¬ nx=k:=λk h=>by omega
 have hx2:∀ k:Nat,k<7->¬ nx+1=k:=λk h=>by omega
 have hx3:¬ nx+1=nx:=by omega
 have hx9:¬ nx=nx+1:=by omega
 have hmg:∀ {nx':Nat} {objs':List (Nat × Ob)} {zero:D} {ok:Bool} {K:D->Prop},St.look objs' 2=some ⟨0,vZ (mI s2.out 0)⟩->nU ⟨nx',objs'⟩ 6 zero ok (.yV 2) (.agg [.int .i64 p.op,.int .i64 p.i,.int .i64 p.e,.int .i64 p.g,.int .i64 a,.int .i64 b]) K=K (qV ok zero ((pM ⟨p.op,p.i,p.e,p.g,a,b⟩ s2.out 0).map λ(j:Nat)=>(j,D.int .i64 (j:Int)))):=λ{nx' objs' zero ok K} hl=>by rw [<- pY ⟨p.op,p.i,p.e,p.g,a,b⟩ s2.out 0];exact oE hl (x:=Nd.key ⟨p.op,p.i,p.e,p.g,a,b⟩) rfl rfl (lH _ _)
 simp only [oP] at hN hcall hcall2 hN2;simp only [eH] at hU hcall;rw [hux,huy] at hU hcall;refine yS func71 PZ λhf=>?_;simp only [simprocAttr,-ZA,↓zU,↓zD,zV,zT,zW,h5,h4,q2,h0,xF,hg,Nd.row]
 (repeat refine sd ?_)
 refine .go (cq (bS p.op)) ?_;simp only [simprocAttr,-ZA,↓zU,↓zD,zV,zT,zW,zn.row,hux,huy,h6,hx1 6 (by omega),hx2 6 (by omega),hx3]
 (repeat refine sd ?_)
 refine .go hcall ?_;simp only [simprocAttr,-ZA,↓zU,↓zD,zV,zT,zW,hN,hU,h61,xV,hx1 6 (by omega),hx3,hx9,κ]
 (repeat refine sd ?_)
 refine .go hcall2 ?_
 rcases h with ⟨k,e1,rfl,rfl⟩ | ⟨e1,e2,rfl,rfl⟩
 ·have hmg2:=@hmg;rw [e1] at hmg2;simp only [simprocAttr,-ZA,↓zU,↓zD,zV,zT,zW,hN2,h3',h2',hmg2,κ,h5',h4',xV,hx1 3 (by omega),hx1 5 (by omega),hx1 4 (by omega),hx1 2 (by omega),hx1 1 (by omega),hx3,hx9]
  (repeat refine sd ?_)
  rw [nK];simp only [oP];exact .same
 ·have hmg2:=@hmg;rw [e1] at hmg2;have y1:∀ k:Nat,k<7->¬ key2=k:=λk h=>by omega
  have y2:¬ nx=key2:=λe=>hke e.symm;have y3:∀ k:Nat,k<7->¬ nx2=k:=λk h=>by omega
  have y4:¬ nx2=nx:=by omega
  have z1:∀ k:Nat,k<7->¬ k=nx:=λk h=>by omega
  have z2:∀ k:Nat,k<7->¬ k=nx2:=λk h=>by omega
  have hpz:D.xT [.int .i64 p.op,.int .i64 p.i,.int .i64 p.e,.int .i64 p.g,.int .i64 a,.int .i64 b]=true:=by simp [D.xT,D.xO]
  have hms:∀ {nx':Nat} {objs':List (Nat × Ob)} {x:D} {K:D->St->Prop},St.look objs' 2=some ⟨0,vZ (mI s2.out 0)⟩->oZ ⟨nx',objs'⟩ 6 (.yV 2) (.agg [.int .i64 p.op,.int .i64 p.i,.int .i64 p.e,.int .i64 p.g,.int .i64 a,.int .i64 b]) x K=K .uO ⟨nx',wO objs' 2 ⟨0,vZ (mI s2.out 0 ++ [(Nd.key ⟨p.op,p.i,p.e,p.g,a,b⟩,x)])⟩⟩:=λ{nx' objs' x K} hl=> kX hl (y:=Nd.key ⟨p.op,p.i,p.e,p.g,a,b⟩) rfl rfl (lH _ _) (by rw [pY,e1]; rfl)
  simp only [simprocAttr,-ZA,↓zU,↓zD,zV,zT,zW,hN2,h1',h3',h2',hmg2,hms,hpz,μ,κ,h5',h4',hkk',xF,xV,xK,hx1 3 (by omega),hx1 5 (by omega),hx1 4 (by omega),hx1 2 (by omega),hx1 1 (by omega),hx3,hx9,y1 1 (by omega),y1 2 (by omega),y1 3 (by omega),y1 4 (by omega),y1 5 (by omega),y2,hke,y3 1 (by omega),y3 2 (by omega),y3 3 (by omega),y3 4 (by omega),y3 5 (by omega),y4,z1 1 (by omega),z1 2 (by omega),z1 4 (by omega),z2 1 (by omega),z2 2 (by omega),z2 4 (by omega)]
  (repeat refine sd ?_)
  have er:vW (s2.out ++ [⟨p.op,p.i,p.e,p.g,a,b⟩])= vW s2.out ++ [[.int .i64 p.op,.int .i64 p.i,.int .i64 p.e,.int .i64 p.g,.int .i64 a,.int .i64 b]]:=by simp [vW,Nd.row]
  rw [nK,er,gD,ο];simp only [oP];exact .same
end Go.Pd

/- Part BC. -/
namespace Go.Pd
open Go Go.Proofs
open BitVec renaming isValue -> ZA
open Rs Bd
namespace Bd
def ku (t:yH):List D:=[.int .i64 (t.1:Int),.int .i64 (t.2.1:Int),.int .i64 (t.2.2:Int)]
def vJ (S:List yH):List (List D):=S.map ku
theorem vP (S:List yH):(vJ S).length=S.length:=by simp [vJ]
theorem pI (S:List yH) {k:Nat} (h:k<S.length):(vJ S).getD k [] = [.int .i64 ((yP S k).1:Int),.int .i64 ((yP S k).2.1:Int),.int .i64 ((yP S k).2.2:Int)]:=by simp [vJ,yP,ku,List.getD,h]
theorem qc (S:List yH) (v lo hi:Nat):vJ S ++ [[.int .i64 (v:Int),.int .i64 (lo:Int),.int .i64 (hi:Int)]]=vJ (S ++ [(v,lo,hi)]):=by simp [vJ,ku]
theorem ZJ (S:List yH):∀ e ∈ vJ S,D.xT e=true:=by intro e he;obtain⟨t,_,rfl⟩:=List.mem_map.1 he;rfl
def rV (t:yH):List Int:=[(t.1:Int),(t.2.1:Int),(t.2.2:Int)]
theorem ve {s t:yH} (h:rV s=rV t):s=t:=by obtain⟨a,b,c⟩:=s;obtain⟨a',b',c'⟩:=t;simp only [rV,List.cons.injEq,and_true] at h;obtain⟨h1,h2,h3⟩:=h;rw [show a=a' by omega,show b=b' by omega,show c=c' by omega]
def fI : List yH->Nat->List (List Int × D)
 | [],_=>[]
 | t :: r,i=>(rV t,.int .i64 ((i+2:Nat):Int)) :: fI r (i+1)
theorem aU (t:yH):∀ (S:List yH) (i:Nat),uJ (rV t) (fI S i) i=(eC t S i).map λ(k:Nat)=>(k,D.int .i64 ((k+2:Nat):Int))
 | [],i=>rfl
 | s :: r,i=>by
  unfold fI uJ eC
  by_cases h:t=s
  ·rw [if_pos (by rw [h]),if_pos h]; rfl
  ·rw [if_neg (λe=>h (ve e)),if_neg h]; exact aU t r (i+1)
theorem pa (t:yH):∀ (S:List yH) (i:Nat),fI (S ++ [t]) i=fI S i ++ [(rV t,.int .i64 ((i+S.length+2:Nat):Int))]
 | [],i=>rfl
 | s :: r,i=>by show _ :: fI (r ++ [t]) (i+1)= _;rw [pa t r (i+1),ε,show i+1+r.length+2=i+(r.length+1)+ 2 by omega];rfl
theorem bo (S:List yH):∀ (i:Nat),∀ p ∈ fI S i,p.1.length=3:=by
 induction S with
 | nil=>intro i p hp; cases hp
 | cons q r ih=>
  intro i p hp
  rcases List.mem_cons.1 hp with rfl | hp
  ·rfl
  ·exact ih _ p hp
abbrev Mem :=List (yH × Nat)
def fE (K:Mem):List (List Int × D):=K.map λp=>(rV p.1,.int .i64 (p.2:Int))
theorem bc (K:Mem):∀ p ∈ fE K,p.1.length=3:=by intro p hp;obtain⟨t,_,rfl⟩:=List.mem_map.1 hp;rfl
structure fJ (ks km kk kn : Nat) (S : List yH) (K : Mem) (nx : Nat) (xX : List (Nat × Ob)) : Prop where
 lt:ks<nx/\km<nx/\kk<nx/\kn<nx
 ne:ks≠km/\ks≠kk/\ks≠kn/\km≠kk/\km≠kn/\kk≠kn
 s:St.look xX ks=some ⟨3,[[xJ kn 3 (vJ S),.yV km,.yV kk]]⟩
 n:St.look xX kn=wW 3 (vJ S)
 m:St.look xX km=some ⟨0,vZ (fI S 0)⟩
 k:St.look xX kk=some ⟨0,vZ (fE K)⟩
theorem aR {kn:Nat} {S:List yH} (h:0<S.length):xJ kn 3 (vJ S)= .wZ kn 3 S.length:=by
 cases S with
 | nil=>simp at h
 | cons a r=>simp [vJ,xJ]
theorem kZ {S:List yH} (h:0<S.length):wW 3 (vJ S)= some ⟨3,vJ S⟩:=by
 cases S with
 | nil=>simp at h
 | cons a r=>simp [vJ,wW]
theorem fJ.mono {ks km kk kn:Nat} {S:List yH} {K:Mem} {nx nx':Nat} {xX objs':List (Nat × Ob)} (h:fJ ks km kk kn S K nx xX) (hn:nx<=nx') (ho:∀ k,k=ks\/k=km\/k=kk\/k=kn->St.look objs' k=St.look xX k):fJ ks km kk kn S K nx' objs':=by obtain⟨⟨a,b,c,d⟩,ne,s,n,m,k⟩:=h;exact⟨⟨by omega,by omega,by omega,by omega⟩,ne,(ho _ (.inl rfl)).trans s,(ho _ (.inr (.inr (.inr rfl)))).trans n,(ho _ (.inr (.inl rfl))).trans m,(ho _ (.inr (.inr (.inl rfl)))).trans k⟩
end Bd
theorem kC {ks km kk kn:Nat} {S:List yH} {K:Mem} {nx:Nat} {xX:List (Nat × Ob)} (h:fJ ks km kk kn S K nx xX) {i:Nat} (hi:i<S.length+2) (hl:S.length<=100000) :
  xU prog 68 [.ref ks 3 0 0,.int .i64 (i:Int)] ⟨nx,xX⟩ (.int .i64 (uR S i:Int)) ⟨nx,xX⟩:=by
 have hs:=h.s;have hn:=h.n
 by_cases c:i<2
 ·have c':(i:Int)<2:=by omega
  rw [sL c];refine yS func68 MY λhf=>?_;refine yK c' ?_;exact .same
 ·have c':¬ (i:Int)<2:=by omega
  have hpos:0<S.length:=by omega
  have hg:=pI S (show i-2<S.length by omega);have e:IntKind.i64.wrap ((i:Int)-2)= ((i-2:Nat):Int):=by rw [wrap_i64 (by omega)]; omega
  rw [aR hpos] at hs;rw [kZ hpos] at hn;rw [rG (by omega)];refine yS func68 MY λhf=>?_;refine Qz c' hs hn e vP hg ?_;exact .same
def Bd.Zc (S:List yH) (i v:Nat) (b:Bool):Nat:=if uR S i≠v then i else if b=true then(yP S (i-2)).2.2 else(yP S (i-2)).2.1
theorem ZY {ks km kk kn:Nat} {S:List yH} {K:Mem} {nx:Nat} {xX:List (Nat × Ob)} (h:fJ ks km kk kn S K nx xX) {i v:Nat} (hi:i<S.length+2) (hl:S.length<=100000) (hv:v<24) (b:Bool) :
  xU prog 69 [.ref ks 3 0 0,.int .i64 (i:Int),.int .i64 (v:Int),.bool b] ⟨nx,xX⟩ (.int .i64 (Zc S i v b:Int)) ⟨nx,xX⟩:=by
 have hv1:=kC h hi hl;have hs:=h.s;have hn:=h.n;by_cases c:uR S i=v
 case neg=>
  have c':((uR S i:Int) != (v:Int))= true:=by rw [bne_iff_ne]; omega
  rw [show Zc S i v b=i from if_pos c];refine yS func69 O9 λhf=>?_;refine xB ?_;refine .go hv1 ?_;refine yK c' ?_;exact .same
 have c':((uR S i:Int) != (v:Int))= false:=by rw [bne_eq_false_iff_eq]; omega
 have c2:2<=i:=by
  rcases π i 2 with c3 | c3
  ·rw [sL c3] at c; omega
  ·exact c3
 have hpos:0<S.length:=by omega
 have hg:=pI S (show i-2<S.length by omega);have e:IntKind.i64.wrap ((i:Int)-2)= ((i-2:Nat):Int):=by rw [wrap_i64 (by omega)]; omega
 rw [aR hpos] at hs;rw [kZ hpos] at hn;rw [show Zc S i v b=if b=true then(yP S (i-2)).2.2 else(yP S (i-2)).2.1 from if_neg (by omega)]
 cases b
 ·refine yS func69 O9 λhf=>?_;refine xB ?_;refine .go hv1 ?_;refine Qz c' hs hn e vP hg ?_;exact .same
 ·refine yS func69 O9 λhf=>?_;refine xB ?_;refine .go hv1 ?_;refine Qz c' hs hn e vP hg ?_;exact .same
open Rs Bd Fm
namespace Bd
structure TL (ks km kk kn kn' nx nx' : Nat) (xX objs' : List (Nat × Ob)) : Prop where
 le:nx<=nx'
 new:kn'=kn\/nx<=kn'
 xC:∀ k,k<nx->k≠ks->k≠km->k≠kk->k≠kn->St.look objs' k=St.look xX k
theorem TL.refl {ks km kk kn nx:Nat} {xX:List (Nat × Ob)}:TL ks km kk kn kn nx nx xX xX:=⟨ξ _,.inl rfl,λ_ _ _ _ _ _=>rfl⟩
theorem TL.trans {ks km kk k0 k1 k2 n0 n1 n2:Nat} {o0 o1 o2:List (Nat × Ob)} (h:TL ks km kk k0 k1 n0 n1 o0 o1) (h':TL ks km kk k1 k2 n1 n2 o1 o2):TL ks km kk k0 k2 n0 n2 o0 o2:=by obtain⟨a1,a2,a3⟩:=h;obtain⟨b1,b2,b3⟩:=h';refine⟨by omega,by omega,λk h1 h2 h3 h4 h5=>?_⟩;rw [b3 k (by omega) h2 h3 h4 (by omega),a3 k h1 h2 h3 h4 h5]
def rT (v lo hi:Nat):Ob:=⟨3,[[.int .i64 (v:Int),.int .i64 (lo:Int),.int .i64 (hi:Int)]]⟩
def bN (ks km kk kn nx:Nat) (S':List yH) (v lo hi:Nat) (xX:List (Nat × Ob)):List (Nat × Ob):= yX (nx+1) 3 (vJ S')++ (nx,rT v lo hi) :: wO (wO (yE xX kn) ks ⟨3,[[xJ (nx+1) 3 (vJ S'),.yV km,.yV kk]]⟩) km ⟨0,vZ (fI S' 0)⟩
end Bd
theorem VO {ks km kk kn:Nat} {S:List yH} {K:Mem} {nx:Nat} {xX:List (Nat × Ob)} (h:fJ ks km kk kn S K nx xX) {v lo hi:Nat} (hl:S.length<=100000) :
  ∃ nx' objs' kn',xU prog 70 [.ref ks 3 0 0,.int .i64 (v:Int),.int .i64 (lo:Int),.int .i64 (hi:Int)] ⟨nx,xX⟩ (.int .i64 ((pL S v lo hi).1:Int)) ⟨nx',objs'⟩/\ fJ ks km kk kn' (pL S v lo hi).2 K nx' objs'/\TL ks km kk kn kn' nx nx' xX objs':=by
 obtain⟨⟨l1,l2,l3,l4⟩,⟨n1,n2,n3,n4,n5,n6⟩,hs,hn,hm,hk⟩:=id h
 by_cases e:lo=hi
 ·subst e;rw [show pL S v lo lo=(lo,S) from if_pos rfl];refine⟨nx,xX,kn,?_,h,.refl⟩;refine yS func70 OA λhf=>?_;refine xB ?_;exact .same
 have e':((lo:Int)== (hi:Int))= false:=by rw [beq_eq_false_iff_ne]; omega
 have x1:¬ nx=ks:=by omega
 have x2:¬ nx=km:=by omega
 have x3:¬ nx=kk:=by omega
 have x4:¬ nx=kn:=by omega
 have hmg:∀ {nx':Nat} {objs':List (Nat × Ob)} {zero:D} {ok:Bool} {K:D->Prop},St.look objs' km=some ⟨0,vZ (fI S 0)⟩->nU ⟨nx',objs'⟩ 3 zero ok (.yV km) (.agg [.int .i64 (v:Int),.int .i64 (lo:Int),.int .i64 (hi:Int)]) K=K (qV ok zero ((eC (v,lo,hi) S 0).map λ(k:Nat)=>(k,D.int .i64 ((k+2:Nat):Int)))):=λ{nx' objs' zero ok K} hlk=>by rw [<- aU];exact oE hlk (x:=rV (v,lo,hi)) rfl rfl (bo _ _)
 have hm1:St.look ((nx,(⟨3,[[.int .i64 (v:Int),.int .i64 (lo:Int),.int .i64 (hi:Int)]]⟩:Ob)) :: xX) km=some ⟨0,vZ (fI S 0)⟩:=by rw [xY,if_neg x2]; exact hm
 cases hp:eC (v,lo,hi) S 0 with
 | some k=> rw [show pL S v lo hi=(k+2,S) by unfold pL; rw [if_neg e,hp]];rw [hp] at hmg;refine⟨nx+1,(nx,rT v lo hi) :: xX,kn,?_,h.mono (by omega) λk hk=>by rw [xY,if_neg (by omega)],⟨by omega,.inl rfl,λk h1 _ _ _ _=>by rw [xY,if_neg (by omega)]⟩⟩;refine yS func70 OA λhf=>?_;simp only [simprocAttr,-ZA,↓zU,↓zD,zV,zT,zW,e',x1,x2,hs,hm,hmg,κ];exact .same
 | none=>
  rw [show pL S v lo hi=(S.length+2,S ++ [(v,lo,hi)]) by unfold pL; rw [if_neg e,hp]];rw [hp] at hmg;have hpz:D.xT [.int .i64 (v:Int),.int .i64 (lo:Int),.int .i64 (hi:Int)]=true:=by simp [D.xT,D.xO]
  have hms:∀ {nx':Nat} {objs':List (Nat × Ob)} {x:D} {K:D->St->Prop},St.look objs' km=some ⟨0,vZ (fI S 0)⟩->oZ ⟨nx',objs'⟩ 3 (.yV km) (.agg [.int .i64 (v:Int),.int .i64 (lo:Int),.int .i64 (hi:Int)]) x K=K .uO ⟨nx',wO objs' km ⟨0,vZ (fI S 0 ++ [(rV (v,lo,hi),x)])⟩⟩:=λ{nx' objs' x K} hlk=> kX hlk (y:=rV (v,lo,hi)) rfl rfl (bo _ _) (by rw [aU,hp]; rfl)
  have he:∀ k,k≠kn->k<nx->St.look (yE xX kn) k=St.look xX k:=λk h1 _=>by rw [xK,if_neg (by omega)]
  have hes:=(he ks (by omega) l1).trans hs;have hem:=(he km (by omega) l2).trans hm;have y1:¬ nx+1=ks:=by omega
  have y2:¬ nx+1=km:=by omega
  have y5:¬ nx+1=nx:=by omega
  refine⟨nx+1+1,bN ks km kk kn nx (S ++ [(v,lo,hi)]) v lo hi xX,nx+1,?_,?_,?_⟩
  ·refine yS func70 OA λhf=>?_;simp only [simprocAttr,-ZA,↓zU,↓zD,zV,zT,zW,e',x1,x2,x4,y1,y2,y5,hs,hm,hn,hmg,hms,hes,hem,hpz,μ,xV,vP,n1,show ¬ km=ks by omega]
   (repeat refine sd ?_)
   rw [qc,show IntKind.i64.wrap (((S.length+1:Nat):Int)+ 1)= ((S.length+2:Nat):Int) from vX (by omega),show fI S 0 ++ [(rV (v,lo,hi),D.int .i64 ((S.length+2:Nat):Int))]=fI (S ++ [(v,lo,hi)]) 0 by rw [pa,ο]];exact .same
  ·have hlen:0<(S ++ [(v,lo,hi)]).length:=by simp
   refine⟨⟨by omega,by omega,by omega,by omega⟩,⟨n1,n2,by omega,n4,by omega,by omega⟩,?_,?_,?_,?_⟩
   ·unfold bN;rw [xG,if_neg (by omega),xY,if_neg (by omega),xV,if_neg (by omega),xV,if_pos rfl,hes]; rfl
   ·unfold bN;rw [xG,if_pos rfl,kZ hlen]; rfl
   ·unfold bN;rw [xG,if_neg (by omega),xY,if_neg (by omega),xV,if_pos rfl,xV,if_neg (by omega),hem]; rfl
   ·unfold bN;rw [xG,if_neg (by omega),xY,if_neg (by omega),xV,if_neg (by omega),xV,if_neg (by omega),xK,if_neg (by omega)]; exact hk
  ·refine⟨by omega,.inr (by omega),λk g1 g2 g3 g4 g5=>?_⟩;unfold bN;rw [xG,if_neg (by omega),xY,if_neg (by omega),xV,if_neg (by omega),xV,if_neg (by omega),xK,if_neg (by omega)]
open Rs Bd Fm
namespace Bd
def yv (a b c:Nat):Nat:=if c<(if b<a then b else a) then c else if b<a then b else a
theorem SI (a b c:Nat):(if (c:Int)<(if (b:Int)<(a:Int) then(b:Int) else(a:Int)) then(c:Int) else if (b:Int)<(a:Int) then(b:Int) else(a:Int))= ((yv a b c:Nat):Int):=by
 unfold yv
 by_cases h:b<a
 ·rw [if_pos h,if_pos (show (b:Int)<(a:Int) by omega)]
  by_cases h2:c<b
  ·rw [if_pos h2,if_pos (by omega)]
  ·rw [if_neg h2,if_neg (by omega)]
 ·rw [if_neg h,if_neg (show ¬ (b:Int)<(a:Int) by omega)]
  by_cases h2:c<a
  ·rw [if_pos h2,if_pos (by omega)]
  ·rw [if_neg h2,if_neg (by omega)]
theorem wq (a b c:Nat):yv a b c<=a/\yv a b c<=b/\yv a b c<=c:=by
 unfold yv
 by_cases h:b<a
 ·rw [if_pos h]; split <;> omega
 ·rw [if_neg h]; split <;> omega
theorem ki {a b c x:Nat} (ha:x<=a) (hb:x<=b) (hc:x<=c):x<=yv a b c:=by
 unfold yv
 by_cases h:b<a
 ·rw [if_pos h]; split <;> omega
 ·rw [if_neg h]; split <;> omega
section
variable {n : Nat} {S : List yH}
theorem qh (hI:sU n S) {i v:Nat} {b:Bool} (hi:i<S.length+2) (hv:v<=uR S i) (hv24:v<24):Zc S i v b<S.length+2/\v<uR S (Zc S i v b)/\ ∀ w:Nat->Bool,w v=b->den S n (Zc S i v b) w=den S n i w:=by
 unfold Zc;by_cases c:uR S i=v
 case neg=>rw [if_pos c]; exact⟨hi,by omega,λ_ _=>rfl⟩
 rw [if_neg (by omega)]
 have c2:2<=i:=by
  rcases π i 2 with c3 | c3
  ·rw [sL c3] at c; omega
  ·exact c3
 obtain⟨a1,a2,a3,a4,a5,a6⟩:=hI.mb c2 hi;refine⟨by split <;> omega,by split <;> omega,λw hw=>?_⟩;rw [sK hI c2 hi,c,hw]
def fj (x y z:Bool):Bool:=if x=true then y else z
structure xt (n : Nat) (S : List yH) (K : Mem) : Prop where
 ok:∀ p ∈ K,p.1.1<S.length+2/\p.1.2.1<S.length+2/\p.1.2.2<S.length+2/\p.2<S.length+2/\yv (uR S p.1.1) (uR S p.1.2.1) (uR S p.1.2.2)<=uR S p.2 /\
  ∀ w,den S n p.2 w=fj (den S n p.1.1 w) (den S n p.1.2.1 w) (den S n p.1.2.2 w)
theorem xt.app (hI:sU n S) {K:Mem} (h:xt n S K) (T:List yH):xt n (S++T) K:=⟨λp hp=>by obtain⟨h1,h2,h3,h4,h5,h6⟩:=h.ok p hp;rw [γ,rS h1,rS h2,rS h3,rS h4];refine⟨by omega,by omega,by omega,by omega,h5,λw=>?_⟩;rw [uB hI _ _ _ h1,uB hI _ _ _ h2,uB hI _ _ _ h3,uB hI _ _ _ h4,h6]⟩
theorem xt.nil : xt n S []:=⟨λp hp=>by cases hp⟩
structure OJ (n : Nat) (S : List yH) (a b c r : Nat) (S' : List yH) (K' : Mem) : Prop where
 pre:∃ T,S'=S++T
 inv:sU n S'
 mem:xt n S' K'
 lt:r<S'.length+2
 lv:yv (uR S a) (uR S b) (uR S c)<=uR S' r
 den:∀ w,den S' n r w=fj (den S n a w) (den S n b w) (den S n c w)
end
theorem bd (t:yH):∀ (K:Mem) (i:Nat),uJ (rV t) (fE K) i=none\/∃ r j,(t,r)∈ K/\uJ (rV t) (fE K) i=some (j,.int .i64 ((r:Nat):Int))
 | [],i=>.inl rfl
 | (s,r) :: K,i=>by
  show (if rV t=rV s then some (i,_) else uJ (rV t) (fE K) (i+1))= none\/∃ r' j,_/\(if rV t=rV s then some (i,D.int .i64 ((r:Nat):Int)) else uJ (rV t) (fE K) (i+1))= _
  by_cases h:t=s
  ·subst h;exact .inr ⟨r,i,by simp,by rw [if_pos rfl]⟩
  ·rw [if_neg (λe=>h (ve e))]
   rcases bd t K (i+1) with h1 | ⟨r',j,h1,h2⟩
   ·exact .inl h1
   ·exact .inr ⟨r',j,List.mem_cons_of_mem _ h1,h2⟩
theorem SC (t:yH) (r:Nat) (K:Mem):∃ K',fE K'=lN (rV t) (.int .i64 (r:Int)) (fE K)/\ K'.length<=K.length+1/\∀ p ∈ K',p ∈ K\/p=(t,r):=by
 unfold lN
 split
 ·rename_i j y h;refine⟨K.set j (t,r),?_,by rw [List.length_set]; omega,λp hp=>List.mem_or_eq_of_mem_set hp⟩;unfold fE;rw [List.map_set]
 ·exact⟨K ++ [(t,r)],by simp [fE],by simp,λp hp=>by
   rcases List.mem_append.1 hp with h | h
   ·exact .inl h
   ·exact .inr (List.mem_singleton.1 h)⟩
end Bd
end Go.Pd
