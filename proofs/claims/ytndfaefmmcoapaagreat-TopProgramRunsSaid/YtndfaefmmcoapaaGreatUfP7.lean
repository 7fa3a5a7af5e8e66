/- Part P7. -/
import Derived.Test.YtndfaefmmcoapaaGreatUfF16
import Derived.Test.YtndfaefmmcoapaaGreatUfX9
set_option linter.unusedSectionVars false
set_option linter.unusedVariables false
set_option linter.unusedSimpArgs false
set_option linter.defProp false
set_option maxRecDepth 20000
set_option maxHeartbeats 1000000
open Go.Proofs.Tryz
open List renaming drop_eq_nil_of_le->γ,any_cons->δ,mem_range->ε,any_nil->ζ,any_eq_false->η,getD_cons_succ->θ,length_append->κ,all_eq_false->μ,mem_of_mem_take->ν,all_eq_true->ξ
open Nat renaming zero_le->ο,not_lt_zero->π,pow_lt_pow_right->τ,testBit_lt_two_pow->υ,pow_le_pow_right->χ,lt_of_lt_of_le->ω,or_lt_two_pow->Aa
open Bool renaming false_or->Ab,true_or->Ac,true_and->Ad,or_eq_false_iff->Ae,false_eq_true->Af
open Int renaming toNat_natCast->Ag,toNat_of_nonneg->Ah,le_refl->Ai,eq_ofNat_of_zero_le->Aj
namespace Go.Pd
open Go Go.Proofs
open Rs Fm
namespace Fm
inductive Tr where
 | nil
 | nd (op i e g:Int) (x y:Tr)
def tn (f:List Nd):Nat->Nat->Tr
 | 0,_=>.nil
 | n+1,i=>.nd (f.getD i wK).op (f.getD i wK).i (f.getD i wK).e (f.getD i wK).g (if (xW (f.getD i wK).op).1.x=true then tn f n (f.getD i wK).x.toNat else .nil) (if (xW (f.getD i wK).op).1.y=true then tn f n (f.getD i wK).y.toNat else .nil)
def tree (f:List Nd) (i:Nat):Tr:=tn f (i+1) i
def Ta : Tr->Prop
 | .nil=>False
 | .nd op i e g x y=>yM ⟨op,i,e,g,0,0⟩ 1=0/\(if (xW op).1.x=true then Ta x else x = .nil)/\ (if (xW op).1.y=true then Ta y else y = .nil)
def tD : Tr->List Nd->Int × List Nd
 | .nil,out=>(0,out)
 | .nd op i e g x y,out=>
  let a:=if (xW op).1.x=true then tD x out else(0,out)
  let b:=if (xW op).1.y=true then tD y a.2 else(0,a.2)
  match sG ⟨op,i,e,g,a.1,b.1⟩ b.2 0 with
  | some k=>((k:Int),b.2)
  | none=>((b.2.length:Int),b.2 ++ [⟨op,i,e,g,a.1,b.1⟩])
def canon (t:Tr):List Nd:=(tD t []).2
theorem uQ {p:Nd} {k:Nat} (h:yM p k=0):((xW p.op).1.x=true->0<=p.x/\p.x.toNat<k)/\ ((xW p.op).1.y=true->0<=p.y/\p.y.toNat<k)/\ ((xW p.op).1.x=false->p.x=0)/\ ((xW p.op).1.y=false->p.y=0):=by
 obtain⟨h1,h2⟩:=mQ h;rw [wN] at h;obtain⟨_,h3,h4,_⟩:=h
 refine⟨λhx=>?_,λhy=>?_,λhx=>?_,λhy=>?_⟩
 ·have:=h1 hx; omega
 ·have:=h2 hy; omega
 ·rw [hx] at h3; simpa [yU] using h3
 ·rw [hy] at h4; simpa [yU] using h4
theorem iO {f:List Nd} (hv:wP f):∀ (n m i:Nat),i<n->i<m->i<f.length->tn f n i=tn f m i
 | 0,_,_,h,_,_=>by omega
 | _+1,0,_,_,h,_=>by omega
 | n+1,m+1,i,h1,h2,hi=>by
  obtain⟨ox,oy,_,_⟩:=uQ (hv i hi);unfold tn
  congr 1
  ·by_cases hx:(xW (f.getD i wK).op).1.x=true
   ·rw [if_pos hx,if_pos hx];exact iO hv n m _ (by have:=ox hx; omega) (by have:=ox hx; omega) (by have:=ox hx; omega)
   ·rw [if_neg hx,if_neg hx]
  ·by_cases hy:(xW (f.getD i wK).op).1.y=true
   ·rw [if_pos hy,if_pos hy];exact iO hv n m _ (by have:=oy hy; omega) (by have:=oy hy; omega) (by have:=oy hy; omega)
   ·rw [if_neg hy,if_neg hy]
theorem tR {f:List Nd} (hv:wP f) {i:Nat} (hi:i<f.length):tree f i = .nd (f.getD i wK).op (f.getD i wK).i (f.getD i wK).e (f.getD i wK).g (if (xW (f.getD i wK).op).1.x=true then tree f (f.getD i wK).x.toNat else .nil) (if (xW (f.getD i wK).op).1.y=true then tree f (f.getD i wK).y.toNat else .nil):=by
 obtain⟨ox,oy,_,_⟩:=uQ (hv i hi);unfold tree;rw [tn]
 congr 1
 ·by_cases hx:(xW (f.getD i wK).op).1.x=true
  ·rw [if_pos hx,if_pos hx];exact iO hv _ _ _ (by have:=ox hx; omega) (by omega) (by have:=ox hx; omega)
  ·rw [if_neg hx,if_neg hx]
 ·by_cases hy:(xW (f.getD i wK).op).1.y=true
  ·rw [if_pos hy,if_pos hy];exact iO hv _ _ _ (by have:=oy hy; omega) (by omega) (by have:=oy hy; omega)
  ·rw [if_neg hy,if_neg hy]
theorem XW {l r:List Nd} {k:Nat} (h:k<l.length):(l++r).getD k wK=l.getD k wK:=by simp only [List.getD,List.getElem?_append_left h]
theorem wt {l r:List Nd} (h:wP (l++r)):wP l:=λk hk=>by
 have:=h k (by simp; omega)
 rwa [XW hk] at this
theorem jX {l r:List Nd} (hv:wP (l++r)):∀ (k:Nat),k<l.length->tree (l++r) k=tree l k:=by
 intro k
 induction k using Nat.strongRecOn with
 | _ k ih=>
  intro hk;obtain⟨ox,oy,_,_⟩:=uQ (wt hv k hk);rw [tR hv (by simp; omega),tR (wt hv) hk,XW hk]
  congr 1
  ·by_cases hx:(xW (l.getD k wK).op).1.x=true
   ·rw [if_pos hx,if_pos hx];exact ih _ (by have:=ox hx; omega) (by have:=ox hx; omega)
   ·rw [if_neg hx,if_neg hx]
  ·by_cases hy:(xW (l.getD k wK).op).1.y=true
   ·rw [if_pos hy,if_pos hy];exact ih _ (by have:=oy hy; omega) (by have:=oy hy; omega)
   ·rw [if_neg hy,if_neg hy]
theorem WO {f:List Nd} (hv:wP f):∀ (i:Nat),i<f.length->Ta (tree f i):=by
 intro i
 induction i using Nat.strongRecOn with
 | _ i ih=>
  intro hi;obtain⟨ox,oy,zx,zy⟩:=uQ (hv i hi);rw [tR hv hi]
  refine⟨nF (hv i hi) ?_ ?_,?_,?_⟩
  ·split
   ·omega
   ·rename_i h; exact(zx (by simpa using h)).symm
  ·split
   ·omega
   ·rename_i h; exact(zy (by simpa using h)).symm
  ·by_cases hx:(xW (f.getD i wK).op).1.x=true
   ·rw [if_pos hx,if_pos hx];exact ih _ (by have:=ox hx; omega) (by have:=ox hx; omega)
   ·rw [if_neg hx,if_neg hx]
  ·by_cases hy:(xW (f.getD i wK).op).1.y=true
   ·rw [if_pos hy,if_pos hy];exact ih _ (by have:=oy hy; omega) (by have:=oy hy; omega)
   ·rw [if_neg hy,if_neg hy]
theorem gu {q:Nd}:∀ {l:List Nd} {k j:Nat},sG q l k=some j->k<=j/\j-k<l.length/\l.getD (j-k) wK=q
 | [],_,_,h=>by cases h
 | p :: r,k,j,h=>by
  unfold sG at h
  by_cases e:q=p
  ·rw [if_pos e] at h; cases h; simp [e]
  ·rw [if_neg e] at h;obtain⟨h1,h2,h3⟩:=gu h;refine⟨by omega,by simp only [List.length_cons]; omega,?_⟩;rw [show j-k=j-(k+1)+ 1 by omega,θ]; exact h3
theorem XY {q:Nd}:∀ {l:List Nd} {k:Nat},sG q l k=none->q ∉ l
 | [],_,_=>by simp
 | p :: r,k,h=>by
  unfold sG at h
  by_cases e:q=p
  ·rw [if_pos e] at h; cases h
  ·rw [if_neg e] at h;simp only [List.mem_cons,not_or];exact⟨e,XY h⟩
theorem Vt {q:Nd}:∀ {l:List Nd} {k j:Nat},l.Nodup->j<l.length->l.getD j wK=q->sG q l k=some (k+j)
 | [],_,_,_,h,_=>by simp at h
 | p :: r,k,j,hn,h,hq=>by
  unfold sG
  cases j with
  | zero=>rw [if_pos (by simpa using hq.symm)]; rfl
  | succ j=>
   rw [θ] at hq;have hj:j<r.length:=by simpa using h
   have hm:q ∈ r:=by
    have:r.getD j wK=r[j]:=by simp [List.getD,hj]
    rw [<- hq,this]; exact List.getElem_mem hj
   rw [if_neg (λe:q=p=>(List.nodup_cons.1 hn).1 (e ▸ hm)),Vt (List.nodup_cons.1 hn).2 hj hq];congr 1; omega
theorem zn : ∀ (t:Tr) (out:List Nd) (k:Nat),wP out->out.Nodup->k<out.length->tree out k=t->tD t out=((k:Int),out)
 | .nil,out,k,hv,hn,hk,ht=>by rw [tR hv hk] at ht; cases ht
 | .nd op i e g x y,out,k,hv,hn,hk,ht=>by
  obtain⟨ox,oy,zx,zy⟩:=uQ (hv k hk);rw [tR hv hk] at ht;simp only [Tr.nd.injEq] at ht;obtain⟨rfl,rfl,rfl,rfl,hx,hy⟩:=ht
  have ha:(if (xW (out.getD k wK).op).1.x=true then tD x out else(0,out))= ((out.getD k wK).x,out):=by
   by_cases h:(xW (out.getD k wK).op).1.x=true
   ·rw [if_pos h] at hx ⊢;rw [zn x out _ hv hn (by have:=ox h; omega) hx,Ah (ox h).1]
   ·rw [if_neg h,zx (by simpa using h)]
  have hb:(if (xW (out.getD k wK).op).1.y=true then tD y out else(0,out))= ((out.getD k wK).y,out):=by
   by_cases h:(xW (out.getD k wK).op).1.y=true
   ·rw [if_pos h] at hy ⊢;rw [zn y out _ hv hn (by have:=oy h; omega) hy,Ah (oy h).1]
   ·rw [if_neg h,zy (by simpa using h)]
  unfold tD;simp only [ha,hb];rw [Vt (k:=0) hn hk rfl,Nat.zero_add]
theorem eJ : ∀ (t:Tr) (out:List Nd),Ta t->wP out->out.Nodup->wP (tD t out).2/\(tD t out).2.Nodup/\(∃ l,(tD t out).2=out++l)/\ ∃ k:Nat,(tD t out).1=k/\k<(tD t out).2.length/\tree (tD t out).2 k=t/\((tD t out).2=out\/k+1=(tD t out).2.length)
 | .nil,out,h,_,_=>h.elim
 | .nd op i e g x y,out,⟨h1,h2,h3⟩,hv,hn=>by
  have A:∃ (a:Int) (oa:List Nd),(if (xW op).1.x=true then tD x out else(0,out))= (a,oa)/\ wP oa/\oa.Nodup/\(∃ l,oa=out++l)/\ (if (xW op).1.x=true then 0<=a/\a<(oa.length:Int)/\ tree oa a.toNat=x/\(oa=out\/a+1=oa.length) else a=0/\oa=out):=by
   by_cases hx:(xW op).1.x=true
   ·rw [if_pos hx] at h2 ⊢;obtain⟨v,n,l,k,e1,e2,e3,e4⟩:=eJ x out h2 hv hn;refine⟨_,_,rfl,v,n,l,?_⟩;rw [if_pos hx,e1,Ag];exact⟨by omega,by omega,e3,e4.imp id λh=>by omega⟩
   ·rw [if_neg hx] at h2 ⊢;exact⟨0,out,rfl,hv,hn,⟨[],by simp⟩,by rw [if_neg hx]; exact⟨rfl,rfl⟩⟩
  obtain⟨a,oa,ea,va,na,⟨la,rfl⟩,ha⟩:=A
  have B:∃ (b:Int) (ob:List Nd),(if (xW op).1.y=true then tD y (out++la) else(0,out++la))= (b,ob)/\ wP ob/\ob.Nodup/\(∃ l,ob=out++la++l)/\ (if (xW op).1.y=true then 0<=b/\b<(ob.length:Int)/\ tree ob b.toNat=y/\(ob=out++la\/b+1=ob.length) else b=0/\ob=out++la):=by
   by_cases hy:(xW op).1.y=true
   ·rw [if_pos hy] at h3 ⊢;obtain⟨v,n,l,k,e1,e2,e3,e4⟩:=eJ y (out++la) h3 va na;refine⟨_,_,rfl,v,n,l,?_⟩;rw [if_pos hy,e1,Ag];exact⟨by omega,by omega,e3,e4.imp id λh=>by omega⟩
   ·rw [if_neg hy] at h3 ⊢;exact⟨0,out++la,rfl,va,na,⟨[],by simp⟩,by rw [if_neg hy]; exact⟨rfl,rfl⟩⟩
  obtain⟨b,ob,eb,vb,nb,⟨lb,rfl⟩,hb⟩:=B
  have hE:∀ n:Nat,(out++la++lb).length<=n->yM ⟨op,i,e,g,a,b⟩ n=0:=λn hln=>by
   refine nF (p:=⟨op,i,e,g,0,0⟩) h1 ?_ ?_
   ·simp only
    split
    ·rename_i h; rw [if_pos h] at ha; simp only [κ] at hln ha; omega
    ·rename_i h; rw [if_neg h] at ha; exact ha.1
   ·simp only
    split
    ·rename_i h; rw [if_pos h] at hb; omega
    ·rename_i h; rw [if_neg h] at hb; exact hb.1
  have tx:(if (xW op).1.x=true then tree (out++la++lb) a.toNat else .nil)= x:=by
   by_cases hx:(xW op).1.x=true
   ·rw [if_pos hx] at ha ⊢;rw [jX vb _ (by omega)]; exact ha.2.2.1
   ·rw [if_neg hx] at h2 ⊢; exact h2.symm
  have ty:(if (xW op).1.y=true then tree (out++la++lb) b.toNat else .nil)= y:=by
   by_cases hy:(xW op).1.y=true
   ·rw [if_pos hy] at hb ⊢;exact hb.2.2.1
   ·rw [if_neg hy] at h3 ⊢; exact h3.symm
  have hr:tD (.nd op i e g x y) out=match sG ⟨op,i,e,g,a,b⟩ (out++la++lb) 0 with
    | some k=>((k:Int),out++la++lb)
    | none=>(((out++la++lb).length:Int),out++la++lb ++ [⟨op,i,e,g,a,b⟩]):=by
   conv=>lhs; unfold tD
   simp only [ea,eb]
  rw [hr]
  cases hq:sG ⟨op,i,e,g,a,b⟩ (out++la++lb) 0 with
  | some k=>
   obtain⟨_,k1,k2⟩:=gu hq;rw [Nat.sub_zero] at k1 k2;have hvk:=vb k k1;obtain⟨ox,oy,_,_⟩:=uQ hvk;rw [k2] at ox oy;simp only at ox oy
   refine⟨vb,nb,⟨la++lb,by simp⟩,k,rfl,k1,?_,.inl ?_⟩
   ·rw [tR vb k1,k2];simp only [tx,ty]
   ·show out++la++lb=out
    have e1:out++la++lb=out++la:=by
     by_cases hy:(xW op).1.y=true
     ·rw [if_pos hy] at hb
      rcases hb.2.2.2 with h | h
      ·exact h
      ·have:=oy hy; omega
     ·rw [if_neg hy] at hb; exact hb.2
    have e2:out++la=out:=by
     by_cases hx:(xW op).1.x=true
     ·rw [if_pos hx] at ha
      rcases ha.2.2.2 with h | h
      ·exact h
      ·have:=ox hx;rw [e1] at k1;omega
     ·rw [if_neg hx] at ha; exact ha.2
    rw [e1,e2]
  | none=>
   have vs:wP (out++la++lb ++ [⟨op,i,e,g,a,b⟩]):=lL vb (hE _ (Nat.le_refl _))
   refine⟨vs,?_,⟨la++lb ++ [⟨op,i,e,g,a,b⟩],by simp⟩,(out++la++lb).length,rfl,by simp,?_,.inr (by simp only [κ,List.length_singleton])⟩
   ·rw [List.nodup_append];refine⟨nb,by simp,λp hp q hq'=>?_⟩;rw [List.mem_singleton] at hq';subst hq';exact λe=>XY hq (e ▸ hp)
   ·have hgl:(out++la++lb ++ [(⟨op,i,e,g,a,b⟩:Nd)]).getD (out++la++lb).length wK=⟨op,i,e,g,a,b⟩:=by simp [List.getD]
    rw [tR vs (by simp),hgl];simp only
    congr 1
    ·by_cases hx:(xW op).1.x=true
     ·rw [if_pos hx] at tx ha ⊢;rw [jX vs _ (by simp only [κ] at ha ⊢; omega)]; exact tx
     ·rw [if_neg hx] at tx ⊢; exact tx
    ·by_cases hy:(xW op).1.y=true
     ·rw [if_pos hy] at ty hb ⊢;rw [jX vs _ (by omega)]; exact ty
     ·rw [if_neg hy] at ty ⊢; exact ty
end Fm
open Rs Fm
namespace Fm
structure VG (f : List Nd) (s : CS) : Prop where
 v:wP s.out
 n:s.out.Nodup
 d:∀ z k,wL z s.done=some k->∃ i j:Nat,z=i/\k=j/\i<f.length/\j<s.out.length/\tree s.out j=tree f i
theorem zl {f:List Nd} (hv:wP f):∀ (n:Nat) {i:Nat} {s:CS},i<n->i<f.length->VG f s ->
  (xF f n i s).1=(tD (tree f i) s.out).1/\(xF f n i s).2.out=(tD (tree f i) s.out).2/\VG f (xF f n i s).2
 | 0,_,_,h,_,_=>by omega
 | n + 1,i,s,h,hi,hI=>by
  cases hu:wL (i:Int) s.done with
  | some k=>
   rw [xF,hu];obtain⟨i',j,e1,e2,_,e4,e5⟩:=hI.d _ _ hu;obtain rfl:i=i':=by omega
   rw [zn _ _ j hI.v hI.n e4 e5];exact⟨e2,rfl,hI⟩
  | none=>
   rw [mF hu];obtain⟨ox,oy,zx,zy⟩:=uQ (hv i hi);have hsp:=eJ _ s.out (WO hv i hi) hI.v hI.n;rw [tR hv hi] at hsp ⊢;simp only;generalize hp:f.getD i wK=p at hsp ox oy zx zy ⊢
   have S1:(if (xW p.op).1.x=true then xF f n p.x.toNat s else(p.x,s)).1=(if (xW p.op).1.x=true then tD (tree f p.x.toNat) s.out else(0,s.out)).1 /\
     (if (xW p.op).1.x=true then xF f n p.x.toNat s else(p.x,s)).2.out=(if (xW p.op).1.x=true then tD (tree f p.x.toNat) s.out else(0,s.out)).2/\VG f (if (xW p.op).1.x=true then xF f n p.x.toNat s else(p.x,s)).2:=by
    by_cases hx:(xW p.op).1.x=true
    ·rw [if_pos hx,if_pos hx];exact zl hv n (by have:=ox hx; omega) (by have:=ox hx; omega) hI
    ·rw [if_neg hx,if_neg hx];exact⟨zx (by simpa using hx),rfl,hI⟩
   have e1:(if (xW p.op).1.x=true then tD (if (xW p.op).1.x=true then tree f p.x.toNat else .nil) s.out else(0,s.out))= (if (xW p.op).1.x=true then tD (tree f p.x.toNat) s.out else(0,s.out)):=by
    by_cases hx:(xW p.op).1.x=true
    ·rw [if_pos hx,if_pos hx,if_pos hx]
    ·rw [if_neg hx,if_neg hx]
   have hfin:tD (.nd p.op p.i p.e p.g (if (xW p.op).1.x=true then tree f p.x.toNat else .nil) (if (xW p.op).1.y=true then tree f p.y.toNat else .nil)) s.out =
     (let a:=(if (xW p.op).1.x=true then tD (tree f p.x.toNat) s.out else(0,s.out))
      let b:=if (xW p.op).1.y=true then tD (tree f p.y.toNat) a.2 else(0,a.2)
      match sG ⟨p.op,p.i,p.e,p.g,a.1,b.1⟩ b.2 0 with
      | some k=>((k:Int),b.2)
      | none=>((b.2.length:Int),b.2 ++ [⟨p.op,p.i,p.e,p.g,a.1,b.1⟩])):=by
    conv=>lhs; unfold tD
    simp only [e1]
    by_cases hy:(xW p.op).1.y=true
    ·simp only [if_pos hy];all_goals rfl
    ·simp only [if_neg hy];all_goals rfl
   rw [hfin] at hsp ⊢;simp only at hsp ⊢;generalize (if (xW p.op).1.x=true then xF f n p.x.toNat s else(p.x,s))= A at S1 ⊢;generalize (if (xW p.op).1.x=true then tD (tree f p.x.toNat) s.out else(0,s.out))= A' at S1 hsp ⊢;obtain⟨a1,a2⟩:=A';obtain⟨A1,A2⟩:=A;obtain⟨rfl,rfl,IA⟩:=S1;simp only at hsp ⊢
   have S2:(if (xW p.op).1.y=true then xF f n p.y.toNat A2 else(p.y,A2)).1=(if (xW p.op).1.y=true then tD (tree f p.y.toNat) A2.out else(0,A2.out)).1 /\
     (if (xW p.op).1.y=true then xF f n p.y.toNat A2 else(p.y,A2)).2.out=(if (xW p.op).1.y=true then tD (tree f p.y.toNat) A2.out else(0,A2.out)).2/\VG f (if (xW p.op).1.y=true then xF f n p.y.toNat A2 else(p.y,A2)).2:=by
    by_cases hy:(xW p.op).1.y=true
    ·rw [if_pos hy,if_pos hy];exact zl hv n (by have:=oy hy; omega) (by have:=oy hy; omega) IA
    ·rw [if_neg hy,if_neg hy];exact⟨zy (by simpa using hy),rfl,IA⟩
   generalize (if (xW p.op).1.y=true then xF f n p.y.toNat A2 else(p.y,A2))= B at S2 ⊢;generalize (if (xW p.op).1.y=true then tD (tree f p.y.toNat) A2.out else(0,A2.out))= B' at S2 hsp ⊢;obtain⟨b1,b2⟩:=B';obtain⟨B1,B2⟩:=B;obtain⟨rfl,rfl,IB⟩:=S2;replace IB:VG f B2:=IB;simp only at hsp ⊢
   have hset:∀ (out':List Nd) (k:Nat),(∃ l,out'=B2.out++l)->wP out'->out'.Nodup->k<out'.length->tree out' k=tree f i->VG f ⟨out',nC i k B2.done⟩:=by
    rintro out' k ⟨l,rfl⟩ hv' hn' hk' ht';refine⟨hv',hn',λz k' hz=>?_⟩;simp only at hz ⊢;rw [rU] at hz
    split at hz
    ·cases hz;exact⟨i,k,by assumption,rfl,hi,hk',ht'⟩
    ·obtain⟨i',j,q1,q2,q3,q4,q5⟩:=IB.d _ _ hz;exact⟨i',j,q1,q2,q3,by simp; omega,by rw [jX hv' _ q4]; exact q5⟩
   have htf:tree f i = .nd p.op p.i p.e p.g (if (xW p.op).1.x=true then tree f p.x.toNat else .nil) (if (xW p.op).1.y=true then tree f p.y.toNat else .nil):=by rw [tR hv hi,hp]
   unfold kL
   cases hq:sG ⟨p.op,p.i,p.e,p.g,A1,B1⟩ B2.out 0 with
   | some k=>
    rw [hq] at hsp;obtain⟨s1,s2,_,k',s3,s4,s5,_⟩:=hsp;simp only at s1 s2 s3 s4 s5 ⊢;obtain rfl:k=k':=by omega
    exact⟨trivial,trivial,hset _ k ⟨[],by simp⟩ s1 s2 s4 (by rw [s5,htf])⟩
   | none=>
    rw [hq] at hsp;obtain⟨s1,s2,_,k',s3,s4,s5,_⟩:=hsp;simp only at s1 s2 s3 s4 s5 ⊢;obtain rfl:B2.out.length=k':=by omega
    exact⟨trivial,trivial,hset _ _ ⟨_,rfl⟩ s1 s2 s4 (by rw [s5,htf])⟩
theorem pJ {f:List Nd} (hv:wP f) {i:Nat} (hi:i<f.length):tY f i=canon (tree f i):=(zl hv (i+1) (s:=⟨[],[]⟩) (by omega) hi ⟨λk h=>by simp at h,.nil,λz k h=>by cases h⟩).2.1
theorem bW {t:Tr} (h:Ta t):wP (canon t)/\ (canon t).Nodup/\0<(canon t).length/\tree (canon t) ((canon t).length-1)= t:=by
 obtain⟨v,n,_,k,e1,e2,e3,e4⟩:=eJ t [] h (λk h=>by simp at h) .nil;refine⟨v,n,by unfold canon; omega,?_⟩
 have:k=(canon t).length-1:=by
  rcases e4 with e4 | e4
  ·rw [e4] at e2; simp at e2
  ·unfold canon; omega
 rw [<- this]; exact e3
theorem vt {f:List Nd} (h:yZ f=0):xE f=canon (tree f (f.length-1)):=by
 obtain⟨h1,h2,h3⟩:=vH h;have hl:0<f.length:=by cases f with | nil=>exact absurd rfl h1 | cons a b=>simp
 unfold xE nU;rw [if_neg (by omega),show ((f.length:Int)-1).toNat=f.length-1 by omega];exact pJ h3 (by omega)
theorem Vr : ∀ {f:List Nd} {i:Int},(∀ k,k<f.length->yM (f.getD k wK) (i+k)= 0)->dW f i=0
 | [],_,_=>rfl
 | p :: r,i,h=>by have h0:=h 0 (by simp);simp only [List.getD_cons_zero] at h0;unfold dW;rw [show (((0:Nat):Int))= 0 from rfl,Int.add_zero] at h0;rw [if_neg (by simpa using h0)];refine Vr λk hk=>?_;have:=h (k+1) (by simpa using hk);rw [θ] at this;rw [show i+1+(k:Int)= i+((k+1:Nat):Int) by omega]; exact this
theorem Tw {f:List Nd} (h1:0<f.length) (h2:f.length<=200) (h3:wP f):yZ f=0:=by unfold yZ;rw [if_neg (by intro e; rw [e] at h1; simp at h1),if_neg (by omega)];exact Vr λk hk=>by rw [Int.zero_add]; exact h3 k hk
end Fm
section
open Rs Fm
namespace Fm
end Fm
end
section
open Rs Fm
namespace Fm
def uE (f:List Nd):Tr:=tree f (f.length-1)
theorem aP {f:List Nd} (h:yZ f=0):Ta (uE f):=by
 obtain⟨h1,h2,h3⟩:=vH h;have hl:0<f.length:=by cases f with | nil=>exact absurd rfl h1 | cons a b=>simp
 exact WO h3 _ (by omega)
theorem nL {f:List Nd} (h:yZ f=0):tree (xE f) ((xE f).length-1)= uE f/\(xE f).Nodup:=by rw [vt h];obtain⟨_,b,_,d⟩:=bW (aP h);exact⟨d,b⟩
theorem Yq (p:Nd):tC 0 p=p:=by obtain⟨op,i,e,g,x,y⟩:=p;simp [tC]
theorem ZJ (c:List Nd):c.map (tC 0)= c:=by rw [show tC 0=id from funext Yq,List.map_id]
theorem Tl {x:Nd} {f:List Nd} (hc:yZ f=0) (hx:(xW x.op).1.x=true) (hy:(xW x.op).1.y=false) (hw:yM ⟨x.op,x.i,x.e,x.g,0,0⟩ 1=0) (hx0:x.y=0) :
  pC x [f]=if 200<(canon (.nd x.op x.i x.e x.g (uE f) .nil)).length then [] else canon (.nd x.op x.i x.e x.g (uE f) .nil):=by
 have hv:=mY f;have hn:=oU hc;have ht:=(nL hc).1;generalize hcd:xE f=c at hv hn ht
 have hq:yM ⟨x.op,x.i,x.e,x.g,(c.length:Int)-1,x.y⟩ c.length=0:=by
  refine nF (p:=⟨x.op,x.i,x.e,x.g,0,0⟩) hw ?_ ?_
  ·simp only [hx,↓reduceIte]; omega
  ·simp only [hy,Af,↓reduceIte]; exact hx0
 have hva:wP (c ++ [⟨x.op,x.i,x.e,x.g,(c.length:Int)-1,x.y⟩]):=lL hv hq
 have hb:iY 0 [f] [] x=some (c,⟨x.op,x.i,x.e,x.g,(c.length:Int)-1,x.y⟩):=by unfold iY;rw [if_neg (by simpa using hc),hcd];simp only [List.nil_append,List.length_nil,ZJ];unfold iY Wf;rw [if_pos rfl]
 have htr:tree (c ++ [⟨x.op,x.i,x.e,x.g,(c.length:Int)-1,x.y⟩]) c.length = .nd x.op x.i x.e x.g (uE f) .nil:=by
  rw [tR hva (by simp)];have hgl:(c ++ [(⟨x.op,x.i,x.e,x.g,(c.length:Int)-1,x.y⟩:Nd)]).getD c.length wK=⟨x.op,x.i,x.e,x.g,(c.length:Int)-1,x.y⟩:=by simp [List.getD]
  rw [hgl];simp only [hx,hy,Af,↓reduceIte];rw [jX hva _ (by omega),show ((c.length:Int)-1).toNat=c.length-1 by omega,ht]
 unfold pC;rw [hb];simp only;rw [if_neg (by simpa using hq),pJ hva (by simp),htr]
theorem Pr {f:List Nd} (h:yZ f=0):(canon (uE f)).length<=f.length:=by
 obtain⟨h1,h2,h3⟩:=vH h;have hl:0<f.length:=by cases f with | nil=>exact absurd rfl h1 | cons a b=>simp
 have:=cB h3 (i:=f.length-1) (by omega)
 rwa [pJ h3 (by omega)] at this
end Fm
end
section
open Rs Fm
namespace Fm
end Fm
end
section
open Rs Fm
namespace Fm
end Fm
end
section
open Rs Fm
namespace Fm
end Fm
end
end Go.Pd

/- Part E6. -/
namespace Go.Pd
open Go Go.Proofs
open BitVec renaming isValue -> ZA
open Rs Fm
namespace Fm
theorem Q9 (m:Nat) (h:m<=6):(xW (11+(m:Int))).1.fr=((2 ^ (m+1):Nat):Int):=by
 have hc:m=0\/m=1\/m=2\/m=3\/m=4\/m=5\/m=6:=by omega
 rcases hc with rfl | rfl | rfl | rfl | rfl | rfl | rfl <;> decide
theorem XV (op:Int) (h:op=9\/op=10):(xW op).1.fr=1:=by rcases h with rfl | rfl <;> decide
theorem gg (op:Int) (h:18<=op/\op<=21):(xW op).1.fr=256:=by
 have hc:op=18\/op=19\/op=20\/op=21:=by omega
 rcases hc with rfl | rfl | rfl | rfl <;> decide
theorem U9 (op:Int) (h:1<=op/\op<=8):(xW op).1.fr=0:=by
 have hc:op=1\/op=2\/op=3\/op=4\/op=5\/op=6\/op=7\/op=8:=by omega
 rcases hc with rfl | rfl | rfl | rfl | rfl | rfl | rfl | rfl <;> decide
def lW (m k:Nat) (n:Int):Bool:=(List.range k).all λi=>!m.testBit i || decide ((i:Int)<n)
theorem nk {m k:Nat} {n:Int} (hm:m<2 ^ k) (hk:k<=31):kT m n=lW m k n:=by
 unfold kT lW;rw [Bool.eq_iff_iff,Bool.or_eq_true,decide_eq_true_iff,decide_eq_true_iff,ξ]
 constructor
 ·rintro h i hi;have hi':=ε.1 hi
  rcases h with h | h
  ·rw [decide_eq_true (by omega),Bool.or_true]
  ·cases hb:m.testBit i with
   | false=>rfl
   | true=>
    have h2:m<2 ^ n.toNat:=by
     rcases Nat.div_eq_zero_iff.1 h with h | h
     ·have:=Nat.two_pow_pos n.toNat; omega
     ·exact h
    have h3:i<n.toNat:=Decidable.byContradiction λhh=>by have h4:=υ (ω h2 (χ (by decide) (show n.toNat<=i by omega)));rw [h4] at hb; cases hb
    rw [decide_eq_true (by omega)]; rfl
 ·intro h;refine .inr (Nat.div_eq_of_lt (Nat.lt_pow_two_of_testBit _ λi hi=>?_))
  cases hb:m.testBit i with
  | false=>rfl
  | true=>
   have hik:i<k:=Decidable.byContradiction λhh=>by have h4:=υ (ω hm (χ (by decide) (show k<=i by omega)));rw [h4] at hb; cases hb
   have:=h i (ε.2 hik);rw [hb] at this;simp at this;omega
theorem wq {m:Nd->Nat} {k:Nat}:∀ {l:List Nd},(∀ p ∈ l,m p<2 ^ k)->yA m l<2 ^ k:=by
 have key:∀ (l:List Nd) (a:Nat),(∀ p ∈ l,m p<2 ^ k)->a<2 ^ k->l.foldl (λa p=>a ||| m p) a<2 ^ k:=by
  intro l
  induction l with
  | nil=>intro a _ h; exact h
  | cons p r ih=>intro a h ha; exact ih _ (λq hq=>h q (List.mem_cons_of_mem _ hq)) (Aa ha (h p (by simp)))
 exact λ{l} h=>key l 0 h (Nat.two_pow_pos k)
theorem R3 {p:Nd} {k:Int} (h:yM p k=0):1<=p.op/\p.op<=21:=by have h1:=(wN.1 h).1;refine Decidable.byContradiction λhc=>?_;rw [show xW p.op=(rY,false) from if_pos (by omega)] at h1;cases h1
theorem ZT {p:Nd} {k:Int} (h:yM p k=0) (hg:(xW p.op).1.gr=false):p.g=0:=by have h2:=(wN.1 h).2.2.2.1;simp only [hg,Ae,Bool.not_false,Ad,decide_eq_false_iff_not] at h2;omega
theorem eo (f:List Nd):rO f<2 ^ 4:=wq λp hp=>by
 obtain⟨k,hk⟩:=kZ (jB f _) hp;unfold vX
 split
 ·rename_i hf;have:=uJ hk hf;exact τ (by decide) (by omega)
 ·have:=jT hk;omega
theorem fq (f:List Nd):kU f<2 ^ 8:=wq λp hp=>by
 obtain⟨k,hk⟩:=kZ (jB f _) hp;unfold rK
 split
 ·rename_i hf;have:=lQ hk hf;exact τ (by decide) (by omega)
 ·decide
end Fm
theorem ZY {op:Int} (h:1<=op/\op<=21):yW prog 180 [.int .i64 op] (.int .i64 (xW op).1.fr):=by
 refine xY.xQ mixed func180 Ii (by simp) λhf=>?_
 by_cases e9:op=9
 ·subst e9;rw [XV 9 (.inl rfl)];simp only [simprocAttr,-ZA,↓zU,↓zD,zV,zT,zW];exact .same
 have c9:(op==9)= false:=by simpa using e9
 by_cases e10:op=10
 ·subst e10;rw [XV 10 (.inr rfl)];simp only [simprocAttr,-ZA,↓zU,↓zD,zV,zT,zW];exact .same
 have c10:(op==10)= false:=by simpa using e10
 by_cases h11:11<=op
 case neg=>
  have h18:¬ 18<=op:=by omega
  rw [U9 op (by omega)];simp only [simprocAttr,-ZA,↓zU,↓zD,zV,zT,zW,c9,c10,h11,h18];exact .same
 by_cases h17:op<=17
 case neg=>
  have h18:18<=op:=by omega
  rw [gg op (by omega)];simp only [simprocAttr,-ZA,↓zU,↓zD,zV,zT,zW,c9,c10,h11,h17,h18];exact .same
 obtain⟨m,hm⟩:∃ m:Nat,op=11+(m:Int):=⟨(op-11).toNat,by omega⟩;have hfr:=Q9 m (by omega);rw [<- hm] at hfr;rw [hfr];have e1:IntKind.i64.wrap (op-11)= (m:Int):=by rw [wrap_i64 (by omega)]; omega
 have e2:IntKind.i64.wrap ((m:Int)+ 1)= ((m+1:Nat):Int):=zZ (by omega);simp only [simprocAttr,-ZA,↓zU,↓zD,zV,zT,zW,c9,c10,h11,h17,e1,e2,TO (show m+1<=61 by omega)]
 (repeat refine sd ?_)
 exact .same
theorem ZX (f:List Nd):yW prog 118 [.sl 6 (zG f)] (.int .i64 (zH f)):=by
 have hlen:=nS f ((f.length:Int)-1);rw [show nU f ((f.length:Int)-1)= xE f from rfl] at hlen;have hnd:=mY f;have hall:∀ p ∈ xE f,sN p<4096:=λp _=>by have:=fF p.op; unfold sN; omega
 refine xY.xQ mixed func118 Ht (by simp) λhf=>?_;simp only [simprocAttr,-ZA,↓zU,↓zD,zV,zT,zW];refine .go (cr (iC f)) ?_;simp only [simprocAttr,-ZA,↓zU,↓zD,zV,zT,zW];unfold zH;generalize xE f=c at hlen hnd hall
 refine xO (λk:Nat=>[(5,.int .i64 k),(4,.int .i64 (yA sN (c.take k))),(3,.sl 6 (zG c))]) (λ_=>⟨0,[]⟩) (λk=>k<=c.length) (λk=>c.length-k) 0 (ο _) ?_ ?_
 ·(refine xT.same ?_; simp [xR,Fr.get,yA])
 intro k hk;refine xL mixed ?_
 by_cases h:k<c.length
 ·have hd:((k:Int)<(c.length:Int)):=by omega
  have hw:IntKind.i64.wrap ((k:Int)+ 1)= ((k+1:Nat):Int):=wrap_i64 (by omega);have hg:=sX c h;have hq:=hnd k h;have hlt:yA sN (c.take k)<2 ^ 12:=nI λp hp=>hall p (ν hp);have hlp:=hall _ (xK (d:=wK) h);have hs:yA sN (c.take (k+1))= yA sN (c.take k) ||| sN (c.getD k wK):=by rw [vW (d:=wK) h,lK]
  generalize c.getD k wK=p at hg hq hs hlp;have hop:1<=p.op/\p.op<=21:=R3 hq;have hfr:=ZY hop;have hu:=fF p.op;rw [show (xW p.op).1.fr=((sN p:Nat):Int) from(Ah hu.1).symm] at hfr;have hor:=jw (a:=yA sN (c.take k)) (b:=sN p) (by omega) (by omega);simp only [simprocAttr,-ZA,↓zU,↓zD,zV,zT,zW,hd,xI,hg,Nd.row]
  (repeat refine sd ?_)
  refine .go (cq hfr) ?_;simp only [simprocAttr,-ZA,↓zU,↓zD,zV,zT,zW,hor]
  (repeat refine sd ?_)
  refine⟨k+1,by omega,?_,by omega⟩;rw [hs]
  (refine xT.same ?_; simp only [xR,Fr.get,simprocAttr,-ZA,zS])
  exact hw
 have hd:¬ ((k:Int)<(c.length:Int)):=by omega
 obtain rfl:k=c.length:=by omega
 simp only [simprocAttr,-ZA,↓zU,↓zD,zV,zT,zW,hd,xI];exact .same
theorem w9 (f:List Nd):yW prog 181 [.sl 6 (zG f)] (.int .i64 (rO f)):=by
 have hlen:=nS f ((f.length:Int)-1);rw [show nU f ((f.length:Int)-1)= xE f from rfl] at hlen;have hnd:=mY f
 have hall:∀ p ∈ xE f,vX p<4096:=λp hp=>by obtain⟨k,hk⟩:=kZ hnd hp;exact dw hk
 refine xY.xQ mixed func181 Ij (by simp) λhf=>?_;simp only [simprocAttr,-ZA,↓zU,↓zD,zV,zT,zW];refine .go (cr (iC f)) ?_;simp only [simprocAttr,-ZA,↓zU,↓zD,zV,zT,zW];unfold rO;generalize xE f=c at hlen hnd hall
 refine xO (λk:Nat=>[(5,.int .i64 k),(4,.int .i64 (yA vX (c.take k))),(3,.sl 6 (zG c))]) (λ_=>⟨0,[]⟩) (λk=>k<=c.length) (λk=>c.length-k) 0 (ο _) ?_ ?_
 ·(refine xT.same ?_; simp [xR,Fr.get,yA])
 intro k hk;refine xL mixed ?_
 by_cases h:k<c.length
 ·have hd:((k:Int)<(c.length:Int)):=by omega
  have hw:IntKind.i64.wrap ((k:Int)+ 1)= ((k+1:Nat):Int):=wrap_i64 (by omega);have hg:=sX c h;have hq:=hnd k h;have hlt:yA vX (c.take k)<2 ^ 12:=nI λp hp=>hall p (ν hp);have hlp:=hall _ (xK (d:=wK) h);have hs:yA vX (c.take (k+1))= yA vX (c.take k) ||| vX (c.getD k wK):=by rw [vW (d:=wK) h,lK]
  generalize c.getD k wK=p at hg hq hs hlp;have hag:=Vi p.op;have hgr:=jT hq;obtain⟨g,hgg⟩:=Aj hgr.1
  cases hu:(xW p.op).1.ag with
  | false=>
   rw [hu] at hag;have hfn:vX p=g:=by rw [vX,if_neg (by rw [hu]; simp),hgg,Ag]
   have hor:=jw (a:=yA vX (c.take k)) (b:=g) (by omega) (by omega);simp only [simprocAttr,-ZA,↓zU,↓zD,zV,zT,zW,hd,xI,hg,Nd.row]
   (repeat refine sd ?_)
   refine .go (cq hag) ?_;simp only [simprocAttr,-ZA,↓zU,↓zD,zV,zT,zW,xI,hg,Nd.row,hgg,hor]
   (repeat refine sd ?_)
   refine⟨k+1,by omega,?_,by omega⟩;rw [hs,hfn]
   (refine xT.same ?_; simp only [xR,Fr.get,simprocAttr,-ZA,zS])
   exact hw
  | true=>
   rw [hu] at hag;obtain⟨i0,i3⟩:=uJ hq hu;obtain⟨m,hm⟩:=Aj i0;have hm3:m<=3:=by omega
   have hg0:p.g=0:=ZT hq (by rcases cH p.op with h | h | h | h | h <;> simp_all);have hp2:(2:Nat)^ m<2 ^ 12:=τ (by omega) (by omega);have hfn:vX p=2 ^ m:=by rw [vX,if_pos hu,hm,Ag]
   have hor:=jw (a:=yA vX (c.take k)) (b:=2 ^ m) (by omega) (by omega);have hor2:=jw (a:=yA vX (c.take k) ||| 2 ^ m) (b:=0) (by have:=Aa hlt hp2; omega) (by omega);rw [Nat.or_zero] at hor2;simp only [simprocAttr,-ZA,↓zU,↓zD,zV,zT,zW,hd,xI,hg,Nd.row]
   (repeat refine sd ?_)
   refine .go (cq hag) ?_;simp only [simprocAttr,-ZA,↓zU,↓zD,zV,zT,zW,xI,hg,Nd.row,hm,TO (show m<=61 by omega),hor,hg0,hor2]
   (repeat refine sd ?_)
   refine⟨k+1,by omega,?_,by omega⟩;rw [hs,hfn]
   (refine xT.same ?_; simp only [xR,Fr.get,simprocAttr,-ZA,zS])
   exact⟨hw,hor2⟩
 have hd:¬ ((k:Int)<(c.length:Int)):=by omega
 obtain rfl:k=c.length:=by omega
 simp only [simprocAttr,-ZA,↓zU,↓zD,zV,zT,zW,hd,xI];exact .same
open Rs Fm
theorem Uh (f:List Nd) (a b:Int):yW prog 119 [.sl 6 (zG f),.int .i64 a,.int .i64 b] (.bool (tU f a b)):=by
 have hA:=w9 f;have hF:=ZZ f;have hC:=af f;have ha:=nk (n:=a) (eo f) (by decide);have hb:=nk (n:=b) (fq f) (by decide);have la:=eo f;have lb:=fq f;unfold tU;rw [ha,hb];generalize rO f=ma at hA la;generalize kU f=mb at hF lb;refine xY.xQ mixed func119 Hu (by simp) λhf=>?_;simp only [simprocAttr,-ZA,↓zU,↓zD,zV,zT,zW];refine .go (cr hC) ?_;by_cases hz:yZ f=0
 case neg=>
  have e:(yZ f != 0)= true:=by simpa using hz
  simp only [simprocAttr,-ZA,↓zU,↓zD,zV,zT,zW,e];exact .drop (by simp) (by simp [vw,hz])
 have e:(yZ f != 0)= false:=by simpa using hz
 rw [decide_eq_true hz,Ad];simp only [simprocAttr,-ZA,↓zU,↓zD,zV,zT,zW,e]
 refine xO (λi:Nat=>[(7,.int .i64 i),(2,.int .i64 b),(1,.int .i64 a),(0,.sl 6 (zG f))]) (λ_=>⟨0,[]⟩) (λi=>i<=4/\lW ma i a=true) (λi=>4-i) 0 ⟨ο _,rfl⟩ ?_ ?_
 ·(refine xT.same ?_; simp [xR,Fr.get])
 rintro i ⟨hi,hk⟩;refine xL mixed ?_
 by_cases h4:i<4
 ·have hd:((i:Int)<4):=by omega
  have hsu:lW ma (i+1) a=(lW ma i a&&(!ma.testBit i || decide ((i:Int)<a))):=by unfold lW; rw [List.range_succ,List.all_append,List.all_cons,List.all_nil,Bool.and_true]
  have hbit:(((ma / 2 ^ i:Nat):Int).tmod 2==1)= ma.testBit i:=by rw [N6,SX]
  rw [hk,Ad] at hsu;simp only [simprocAttr,-ZA,↓zU,↓zD,zV,zT,zW,hd];refine .go (cr hA) ?_
  cases hb2:ma.testBit i with
  | false=>
   rw [hb2] at hbit hsu;simp only [simprocAttr,-ZA,↓zU,↓zD,zV,zT,zW,gJ ma i (by omega),hbit]
   (repeat refine sd ?_)
   refine⟨i+1,⟨by omega,by rw [hsu]; rfl⟩,?_,by omega⟩
   (refine xT.same ?_; simp only [xR,Fr.get,simprocAttr,-ZA,zS])
   exact zZ (by omega)
  | true=>
   rw [hb2] at hbit hsu
   by_cases hge:a<=(i:Int)
   ·simp only [simprocAttr,-ZA,↓zU,↓zD,zV,zT,zW,gJ ma i (by omega),hbit,hge]
    (repeat refine sd ?_)
    have hf0:lW ma 4 a=false:=by unfold lW;rw [μ];exact⟨i,ε.2 h4,by rw [hb2,decide_eq_false (by omega)]; simp⟩
    exact .drop (by simp) (by simp [vw,hf0])
   ·simp only [simprocAttr,-ZA,↓zU,↓zD,zV,zT,zW,gJ ma i (by omega),hbit,hge]
    (repeat refine sd ?_)
    refine⟨i+1,⟨by omega,by rw [hsu,decide_eq_true (by omega)]; rfl⟩,?_,by omega⟩
    (refine xT.same ?_; simp only [xR,Fr.get,simprocAttr,-ZA,zS])
    exact zZ (by omega)
 have hd:¬ ((i:Int)<4):=by omega
 obtain rfl:i=4:=by omega
 rw [hk,Ad];simp only [simprocAttr,-ZA,↓zU,↓zD,zV,zT,zW,hd]
 refine xO (λi:Nat=>[(8,.int .i64 i),(2,.int .i64 b),(0,.sl 6 (zG f))]) (λ_=>⟨0,[]⟩) (λi=>i<=8/\lW mb i b=true) (λi=>8-i) 0 ⟨ο _,rfl⟩ ?_ ?_
 ·(refine xT.same ?_; simp [xR,Fr.get])
 clear hd hi hk;rintro i ⟨hi,hk⟩;refine xL mixed ?_
 by_cases h4:i<8
 ·have hd:((i:Int)<8):=by omega
  have hsu:lW mb (i+1) b=(lW mb i b&&(!mb.testBit i || decide ((i:Int)<b))):=by unfold lW; rw [List.range_succ,List.all_append,List.all_cons,List.all_nil,Bool.and_true]
  have hbit:(((mb / 2 ^ i:Nat):Int).tmod 2==1)= mb.testBit i:=by rw [N6,SX]
  rw [hk,Ad] at hsu;simp only [simprocAttr,-ZA,↓zU,↓zD,zV,zT,zW,hd];refine .go (cr hF) ?_
  cases hb2:mb.testBit i with
  | false=>
   rw [hb2] at hbit hsu;simp only [simprocAttr,-ZA,↓zU,↓zD,zV,zT,zW,gJ mb i (by omega),hbit]
   (repeat refine sd ?_)
   refine⟨i+1,⟨by omega,by rw [hsu]; rfl⟩,?_,by omega⟩
   (refine xT.same ?_; simp only [xR,Fr.get,simprocAttr,-ZA,zS])
   exact zZ (by omega)
  | true=>
   rw [hb2] at hbit hsu
   by_cases hge:b<=(i:Int)
   ·simp only [simprocAttr,-ZA,↓zU,↓zD,zV,zT,zW,gJ mb i (by omega),hbit,hge]
    (repeat refine sd ?_)
    have hf0:lW mb 8 b=false:=by unfold lW;rw [μ];exact⟨i,ε.2 h4,by rw [hb2,decide_eq_false (by omega)]; simp⟩
    exact .drop (by simp) (by simp [vw,hf0])
   ·simp only [simprocAttr,-ZA,↓zU,↓zD,zV,zT,zW,gJ mb i (by omega),hbit,hge]
    (repeat refine sd ?_)
    refine⟨i+1,⟨by omega,by rw [hsu,decide_eq_true (by omega)]; rfl⟩,?_,by omega⟩
    (refine xT.same ?_; simp only [xR,Fr.get,simprocAttr,-ZA,zS])
    exact zZ (by omega)
 have hd:¬ ((i:Int)<8):=by omega
 obtain rfl:i=8:=by omega
 rw [hk];simp only [simprocAttr,-ZA,↓zU,↓zD,zV,zT,zW,hd];exact .dv
end Go.Pd

/- Part S1. -/
namespace Go.Pd
open Go Go.Proofs
open BitVec renaming isValue -> ZA
namespace Ru
structure xC where
 loc:List (List Int)
 cU:List (BitVec 64)
structure sC where
 ag:Int
 fa:Int
 ln:Int
 rs:List xC
def xC.row (r:xC):List D:=[.sl 1 (rl r.loc),.sl 1 (us r.cU)]
def wM (l:List xC):List (List D):=l.map xC.row
def sC.cells (s:sC):List D:=[.int .i64 s.ag,.int .i64 s.fa,.int .i64 s.ln,.sl 2 (wM s.rs)]
def sC.d (s:sC):D:=.agg s.cells
def rI : xC:=⟨[],[]⟩
theorem wV (l:List xC):(wM l).length=l.length:=by simp [wM]
theorem mR (l:List xC) {i:Nat} (h:i<l.length):(wM l).getD i []=(l.getD i rI).row:=by simp [wM,List.getD,h]
theorem Us (l:List xC):∀ e ∈ wM l,D.xP e=true:=by intro e he;simp only [wM,List.mem_map] at he;obtain⟨r,_,rfl⟩:=he;rfl
def fI {α:Type} (f:α->Bool):List α->Int->Int
 | [],_=>-1
 | x :: r,i=>if f x=true then i else fI f r (i+1)
theorem eY {α:Type} {f:α->Bool}:∀ {c:List α} {i:Int},0<=i->(0<=fI f c i ↔ c.any f=true)
 | [],i,_=>by simp [fI]
 | x :: r,i,h=>by
  unfold fI
  by_cases hx:f x=true
  ·rw [if_pos hx,δ,hx]; simp [h]
  ·rw [if_neg hx,eY (by omega),δ]; simp [hx]
def dU (s:sC) (r:xC):Bool:=!decide ((r.loc.length:Int)= s.ln) || !decide ((r.cU.length:Int)= s.ln) || r.loc.any λl=>!decide ((l.length:Int)= s.ag)
def cw (s:sC) (r:xC):Bool:=r.cU.any λf=>!decide (f >>> s.fa.toNat=0#64)
def jK (s:sC):Int:=
 if s.ag<0\/4<s.ag\/s.fa<0\/8<s.fa\/s.ln<1\/16<s.ln then 2 else
 if 64<(s.rs.length:Int)\/512<(s.rs.length:Int)* s.ln then 8 else
 if s.rs.length=0 then 3 else if s.rs.any (dU s)= true then 3 else if s.rs.any (cw s)= true then 2 else 0
end Ru
open Ru
theorem O4 {σ:St} {g:FuncId} {caps:List D} {f:BitVec 64->Bool} {c:List (BitVec 64)} (hl:c.length<=1000) (h:∀ x ∈ c,xY prog g ([.int .u64 (ui x)]++caps) σ (.bool (f x)) σ):xY prog 115 [.sl 1 (us c),.fn g caps] σ (.int .i64 (fI f c 0)) σ:=by
 refine xY.xQ mixed func115 Hq (by simp) λhf=>?_;simp only [simprocAttr,-ZA,↓zU,↓zD,zV,zT,zW,xH]
 refine xO (λk:Nat=>[(8,.int .i64 k),(7,.int .i64 c.length),(1,.fn g caps),(0,.sl 1 (us c))]) (λ_=>σ) (λk=>k<=c.length/\fI f c 0=fI f (c.drop k) k) (λk=>c.length-k) 0 ⟨ο _,rfl⟩ ?_ ?_
 ·(refine xT.same ?_; simp [xR,Fr.get])
 intro k ⟨hk,hi⟩;refine xL mixed ?_
 by_cases hh:k<c.length
 ·have hd:((k:Int)<(c.length:Int)):=by omega
  rw [drop_cons (d:=0) hh,fI] at hi;simp only [simprocAttr,-ZA,↓zU,↓zD,zV,zT,zW,hd,xH,vL _ hh]
  (repeat refine sd ?_)
  refine .go (h _ (xK hh)) ?_
  cases hx:f (c.getD k 0)
  ·rw [hx,if_neg (by simp)] at hi;simp only [simprocAttr,-ZA,↓zU,↓zD,zV,zT,zW];refine⟨k+1,⟨by omega,hi⟩,?_,by omega⟩
   (refine xT.same ?_; simp only [xR,Fr.get,simprocAttr,-ZA,zS])
   exact wrap_i64 (by omega)
  ·rw [hx,if_pos rfl] at hi;simp only [simprocAttr,-ZA,↓zU,↓zD,zV,zT,zW];rw [hi];exact .same
 ·have hd:¬ ((k:Int)<(c.length:Int)):=by omega
  rw [γ (by omega),fI] at hi;simp only [simprocAttr,-ZA,↓zU,↓zD,zV,zT,zW,hd];rw [hi];exact .same
theorem bY {σ:St} {g:FuncId} {caps:List D} {f:BitVec 64->Bool} {c:List (BitVec 64)} (hl:c.length<=1000) (h:∀ x ∈ c,xY prog g ([.int .u64 (ui x)]++caps) σ (.bool (f x)) σ):xY prog 58 [.sl 1 (us c),.fn g caps] σ (.bool (c.any f)) σ:=by
 refine xY.xQ mixed func58 Ey (by simp) λhf=>?_;simp only [simprocAttr,-ZA,↓zU,↓zD,zV,zT,zW];refine .go (O4 hl h) ?_;have hx:=eY (f:=f) (c:=c) (i:=0) (Ai 0)
 cases ha:c.any f
 ·have h1:¬ 0<=fI f c 0:=λy=>by rw [hx.1 y] at ha; cases ha
  simp only [simprocAttr,-ZA,↓zU,↓zD,zV,zT,zW,h1];exact .same
 ·have h1:=hx.2 ha;simp only [simprocAttr,-ZA,↓zU,↓zD,zV,zT,zW,h1];exact .same
theorem O3 {σ:St} {g:FuncId} {caps:List D} {f:List Int->Bool} {l:List (List Int)} (hl:l.length<=1000) (h:∀ x ∈ l,xY prog g ([.sl 1 (rows .i64 x)]++caps) σ (.bool (f x)) σ):xY prog 145 [.sl 1 (rl l),.fn g caps] σ (.int .i64 (fI f l 0)) σ:=by
 refine xY.xQ mixed func145 ID (by simp) λhf=>?_;simp only [simprocAttr,-ZA,↓zU,↓zD,zV,zT,zW,pQ]
 refine xO (λk:Nat=>[(8,.int .i64 k),(7,.int .i64 l.length),(1,.fn g caps),(0,.sl 1 (rl l))]) (λ_=>σ) (λk=>k<=l.length/\fI f l 0=fI f (l.drop k) k) (λk=>l.length-k) 0 ⟨ο _,rfl⟩ ?_ ?_
 ·(refine xT.same ?_; simp [xR,Fr.get])
 intro k ⟨hk,hi⟩;refine xL mixed ?_
 by_cases hh:k<l.length
 ·have hd:((k:Int)<(l.length:Int)):=by omega
  rw [drop_cons (d:=[]) hh,fI] at hi;simp only [simprocAttr,-ZA,↓zU,↓zD,zV,zT,zW,hd,pQ,su _ hh]
  (repeat refine sd ?_)
  refine .go (h _ (xK hh)) ?_
  cases hx:f (l.getD k [])
  ·rw [hx,if_neg (by simp)] at hi;simp only [simprocAttr,-ZA,↓zU,↓zD,zV,zT,zW];refine⟨k+1,⟨by omega,hi⟩,?_,by omega⟩
   (refine xT.same ?_; simp only [xR,Fr.get,simprocAttr,-ZA,zS])
   exact wrap_i64 (by omega)
  ·rw [hx,if_pos rfl] at hi;simp only [simprocAttr,-ZA,↓zU,↓zD,zV,zT,zW];rw [hi];exact .same
 ·have hd:¬ ((k:Int)<(l.length:Int)):=by omega
  rw [γ (by omega),fI] at hi;simp only [simprocAttr,-ZA,↓zU,↓zD,zV,zT,zW,hd];rw [hi];exact .same
theorem Z4 {σ:St} {g:FuncId} {caps:List D} {f:List Int->Bool} {l:List (List Int)} (hl:l.length<=1000) (h:∀ x ∈ l,xY prog g ([.sl 1 (rows .i64 x)]++caps) σ (.bool (f x)) σ):xY prog 97 [.sl 1 (rl l),.fn g caps] σ (.bool (l.any f)) σ:=by
 refine xY.xQ mixed func97 FN (by simp) λhf=>?_;simp only [simprocAttr,-ZA,↓zU,↓zD,zV,zT,zW];refine .go (O3 hl h) ?_;have hx:=eY (f:=f) (c:=l) (i:=0) (Ai 0)
 cases ha:l.any f
 ·have h1:¬ 0<=fI f l 0:=λy=>by rw [hx.1 y] at ha; cases ha
  simp only [simprocAttr,-ZA,↓zU,↓zD,zV,zT,zW,h1];exact .same
 ·have h1:=hx.2 ha;simp only [simprocAttr,-ZA,↓zU,↓zD,zV,zT,zW,h1];exact .same
theorem La {nx:Nat} {xZ:List (Nat × Ob)} {s:sC} (h0:St.look xZ 0=some ⟨4,[s.cells]⟩) (x:List Int):xY prog 98 ([.sl 1 (rows .i64 x)] ++ [.ref 0 4 0 0]) ⟨nx,xZ⟩ (.bool (!decide ((x.length:Int)= s.ag))) ⟨nx,xZ⟩:=by
 refine xY.xQ mixed func98 FO (by simp) λhf=>?_;unfold sC.cells at h0;simp only [simprocAttr,-ZA,↓zU,↓zD,zV,zT,zW,h0]
 (repeat refine sd ?_)
 rw [show ((x.length:Int) != s.ag)= !decide ((x.length:Int)= s.ag) by rw [bne]; congr 1];exact .same
theorem KB {nx:Nat} {xZ:List (Nat × Ob)} {s:sC} (h0:St.look xZ 0=some ⟨4,[s.cells]⟩) (hf:0<=s.fa) (x:BitVec 64):xY prog 99 ([.int .u64 (ui x)] ++ [.ref 0 4 0 0]) ⟨nx,xZ⟩ (.bool (!decide (x >>> s.fa.toNat=0#64))) ⟨nx,xZ⟩:=by
 refine xY.xQ mixed func99 FP (by simp) λhf=>?_;unfold sC.cells at h0;simp only [simprocAttr,-ZA,↓zU,↓zD,zV,zT,zW,h0]
 (repeat refine sd ?_)
 rw [show (x >>> s.fa.toNat != 0#64)= !decide (x >>> s.fa.toNat=0#64) by rw [bne]; congr 1];exact .same
theorem ae (s:sC):yW prog 43 [s.d] (.int .i64 (jK s)):=by
 have hD:s.d = .agg [.int .i64 s.ag,.int .i64 s.fa,.int .i64 s.ln,.sl 2 (wM s.rs)]:=rfl;rw [hD];refine xY.xQ mixed func43 Er (by simp) λhf=>?_
 by_cases a1:s.ag<0
 ·rw [show jK s=2 by unfold jK; rw [if_pos (.inl a1)]];simp only [simprocAttr,-ZA,↓zU,↓zD,zV,zT,zW,a1];exact .dv
 by_cases a2:4<s.ag
 ·rw [show jK s=2 by unfold jK; rw [if_pos (by omega)]];simp only [simprocAttr,-ZA,↓zU,↓zD,zV,zT,zW,a1,a2];exact .dv
 by_cases a3:s.fa<0
 ·rw [show jK s=2 by unfold jK; rw [if_pos (by omega)]];simp only [simprocAttr,-ZA,↓zU,↓zD,zV,zT,zW,a1,a2,a3];exact .dv
 by_cases a4:8<s.fa
 ·rw [show jK s=2 by unfold jK; rw [if_pos (by omega)]];simp only [simprocAttr,-ZA,↓zU,↓zD,zV,zT,zW,a1,a2,a3,a4];exact .dv
 by_cases a5:s.ln<1
 ·rw [show jK s=2 by unfold jK; rw [if_pos (by omega)]];simp only [simprocAttr,-ZA,↓zU,↓zD,zV,zT,zW,a1,a2,a3,a4,a5];exact .dv
 by_cases a6:16<s.ln
 ·rw [show jK s=2 by unfold jK; rw [if_pos (by omega)]];simp only [simprocAttr,-ZA,↓zU,↓zD,zV,zT,zW,a1,a2,a3,a4,a5,a6];exact .dv
 have e0:jK s=if 64<(s.rs.length:Int)\/512<(s.rs.length:Int)* s.ln then 8 else
  if s.rs.length=0 then 3 else if s.rs.any (dU s)= true then 3 else if s.rs.any (cw s)= true then 2 else 0:=by
  unfold jK; rw [if_neg (by omega)]
 by_cases b1:64<(s.rs.length:Int)
 ·rw [e0,if_pos (.inl b1)];simp only [simprocAttr,-ZA,↓zU,↓zD,zV,zT,zW,a1,a2,a3,a4,a5,a6,wV,b1];exact .dv
 have hm:(s.rs.length:Int)* s.ln<=64*16:=Int.mul_le_mul (by omega) (by omega) (by omega) (by omega);have hm0:0<=(s.rs.length:Int)* s.ln:=Int.mul_nonneg (by omega) (by omega);have hw:IntKind.i64.wrap ((s.rs.length:Int)* s.ln)= (s.rs.length:Int)* s.ln:=wrap_i64 (by omega)
 by_cases b2:512<(s.rs.length:Int)* s.ln
 ·rw [e0,if_pos (.inr b2)];simp only [simprocAttr,-ZA,↓zU,↓zD,zV,zT,zW,a1,a2,a3,a4,a5,a6,wV,b1,hw,b2];exact .dv
 rw [e0,if_neg (by omega)]
 by_cases b3:s.rs.length=0
 ·rw [if_pos b3];have b3':((s.rs.length:Int)== 0)= true:=by rw [b3]; rfl
  simp only [simprocAttr,-ZA,↓zU,↓zD,zV,zT,zW,a1,a2,a3,a4,a5,a6,wV,b1,hw,b2,b3'];exact .dv
 rw [if_neg b3];have b3':((s.rs.length:Int)== 0)= false:=by rw [beq_eq_false_iff_ne]; omega
 simp only [simprocAttr,-ZA,↓zU,↓zD,zV,zT,zW,a1,a2,a3,a4,a5,a6,wV,b1,hw,b2,b3']
 refine xO (λk:Nat=>[(55,.int .i64 k),(54,.int .i64 s.rs.length),(53,.sl 2 (wM s.rs)),(1,.ref 0 4 0 0)]) (λ_=>⟨1,[(0,⟨4,[[.int .i64 s.ag,.int .i64 s.fa,.int .i64 s.ln,.sl 2 (wM s.rs)]]⟩)]⟩)
  (λk=>k<=s.rs.length/\s.rs.any (dU s)= (s.rs.drop k).any (dU s)) (λk=>s.rs.length-k) 0 ⟨ο _,rfl⟩ ?_ ?_
 ·(refine xT.same ?_; simp [xR,Fr.get])
 intro k ⟨hk,hi⟩;refine xL mixed ?_;by_cases hkl:k<s.rs.length
 case neg=>
  have hd:¬ ((k:Int)<(s.rs.length:Int)):=by omega
  rw [γ (by omega),ζ] at hi;rw [if_neg (by rw [hi]; simp)];simp only [simprocAttr,-ZA,↓zU,↓zD,zV,zT,zW,hd,wV]
  refine xO (λk:Nat=>[(83,.int .i64 k),(82,.int .i64 s.rs.length),(81,.sl 2 (wM s.rs)),(1,.ref 0 4 0 0)]) (λ_=>⟨1,[(0,⟨4,[[.int .i64 s.ag,.int .i64 s.fa,.int .i64 s.ln,.sl 2 (wM s.rs)]]⟩)]⟩)
   (λk=>k<=s.rs.length/\s.rs.any (cw s)= (s.rs.drop k).any (cw s)) (λk=>s.rs.length-k) 0 ⟨ο _,rfl⟩ ?_ ?_
  ·(refine xT.same ?_; simp [xR,Fr.get])
  intro k ⟨hk,hv⟩;refine xL mixed ?_;by_cases hkl:k<s.rs.length
  case neg=>
   have hd:¬ ((k:Int)<(s.rs.length:Int)):=by omega
   rw [γ (by omega),ζ] at hv;rw [if_neg (by rw [hv]; simp)];simp only [simprocAttr,-ZA,↓zU,↓zD,zV,zT,zW,hd];exact .dv
  have hd:((k:Int)<(s.rs.length:Int)):=by omega
  rw [drop_cons (d:=rI) hkl,δ] at hv
  have hnb:dU s (s.rs.getD k rI)= false:=by have:=η.1 hi _ (xK (d:=rI) hkl);simpa using this
  have hg:=mR s.rs hkl;generalize s.rs.getD k rI=r at hg hv hnb
  have hfl:r.cU.length<=1000:=by simp only [dU,Ae,Bool.not_eq_false',decide_eq_true_eq] at hnb;omega
  have hc:=bY (σ:=⟨2,[(1,⟨2,[r.row]⟩),(0,⟨4,[s.cells]⟩)]⟩) (g:=99) (caps:=[.ref 0 4 0 0]) (c:=r.cU) (f:=λf=>!decide (f >>> s.fa.toNat=0#64)) hfl λx _=>KB rfl (by omega) x;simp only [sC.cells,xC.row] at hc;simp only [simprocAttr,-ZA,↓zU,↓zD,zV,zT,zW,hd,wV,hg,xC.row]
  (repeat refine sd ?_)
  refine .go hc ?_
  cases hb:r.cU.any λf=>!decide (f >>> s.fa.toNat=0#64)
  ·simp only [simprocAttr,-ZA,↓zU,↓zD,zV,zT,zW]
   refine⟨k+1,⟨by omega,?_⟩,?_,by omega⟩
   ·rw [hv,show cw s r=false from hb,Ab]
   (refine xT.sZ [] [0] (by simp) (by simp) (by decide) ?_; simp only [yT,zQ,simprocAttr,-ZA,exists_eq_left',ne_eq,zR])
   exact wrap_i64 (by omega)
  ·rw [if_pos (by rw [hv,show cw s r=true from hb,Ac])];simp only [simprocAttr,-ZA,↓zU,↓zD,zV,zT,zW];exact .dv
 have hd:((k:Int)<(s.rs.length:Int)):=by omega
 rw [drop_cons (d:=rI) hkl,δ] at hi;have hg:=mR s.rs hkl;generalize s.rs.getD k rI=r at hg hi;have hend:dU s r=true->s.rs.any (dU s)= true:=λh=>by rw [hi,h,Ac]
 by_cases c1:(r.loc.length:Int)= s.ln
 case neg=>
  have e1:((r.loc.length:Int) != s.ln)= true:=by simpa using c1
  rw [if_pos (hend (by unfold dU; simp [c1]))];simp only [simprocAttr,-ZA,↓zU,↓zD,zV,zT,zW,hd,wV,hg,xC.row,pQ,e1]
  (repeat refine sd ?_)
  exact .dv
 have e1:((r.loc.length:Int) != s.ln)= false:=by simpa using c1
 by_cases c2:(r.cU.length:Int)= s.ln
 case neg=>
  have e2:((r.cU.length:Int) != s.ln)= true:=by simpa using c2
  rw [if_pos (hend (by unfold dU; simp [c2]))];simp only [simprocAttr,-ZA,↓zU,↓zD,zV,zT,zW,hd,wV,hg,xC.row,pQ,e1,xH,e2]
  (repeat refine sd ?_)
  exact .dv
 have e2:((r.cU.length:Int) != s.ln)= false:=by simpa using c2
 have hc:=Z4 (σ:=⟨2,[(1,⟨2,[r.row]⟩),(0,⟨4,[s.cells]⟩)]⟩) (g:=98) (caps:=[.ref 0 4 0 0]) (l:=r.loc) (f:=λl=>!decide ((l.length:Int)= s.ag)) (by omega) λx _=>La rfl x;simp only [sC.cells,xC.row] at hc;have hbf:dU s r=r.loc.any λl=>!decide ((l.length:Int)= s.ag):=by unfold dU; simp [c1,c2]
 simp only [simprocAttr,-ZA,↓zU,↓zD,zV,zT,zW,hd,wV,hg,xC.row,pQ,e1,xH,e2]
 (repeat refine sd ?_)
 refine .go hc ?_;rw [<- hbf]
 cases hb:dU s r
 ·simp only [simprocAttr,-ZA,↓zU,↓zD,zV,zT,zW]
  refine⟨k+1,⟨by omega,?_⟩,?_,by omega⟩
  ·rw [hi,hb,Ab]
  (refine xT.sZ [] [0] (by simp) (by simp) (by decide) ?_; simp only [yT,zQ,simprocAttr,-ZA,exists_eq_left',ne_eq,zR])
  exact wrap_i64 (by omega)
 ·rw [if_pos (hend hb)];simp only [simprocAttr,-ZA,↓zU,↓zD,zV,zT,zW];exact .dv
open Rs Fm Ru
namespace Kb
structure eC where
 test:List Nd
 mv:Int
structure gQ where
 fact:Int
 to:List Nd
structure yF where
 F:Int
 init:List (BitVec 64)
 xN:List (BitVec 64)
 xM:List (List gQ)
 code:List (List eC)
def vf : eC:=⟨[],0⟩
def bV : gQ:=⟨0,[]⟩
def eC.row (c:eC):List D:=[.sl 6 (zG c.test),.int .i64 c.mv]
def gQ.row (a:gQ):List D:=[.int .i64 a.fact,.sl 6 (zG a.to)]
def r8 (l:List eC):List (List D):=l.map eC.row
def p9 (l:List gQ):List (List D):=l.map gQ.row
def qY (l:List (List gQ)):List (List D):=l.map λs=>[.sl 2 (p9 s)]
def qZ (l:List (List eC)):List (List D):=l.map λs=>[.sl 2 (r8 s)]
def yF.cells (p:yF):List D:=[.int .i64 p.F,.sl 1 (us p.init),.sl 1 (us p.xN),.sl 1 (qY p.xM),.sl 1 (qZ p.code)]
def yF.d (p:yF):D:=.agg p.cells
theorem wG (l:List eC):(r8 l).length=l.length:=by simp [r8]
theorem vS (l:List gQ):(p9 l).length=l.length:=by simp [p9]
theorem yE (l:List (List gQ)):(qY l).length=l.length:=by simp [qY]
theorem zN (l:List (List eC)):(qZ l).length=l.length:=by simp [qZ]
theorem eV (l:List eC) {i:Nat} (h:i<l.length):(r8 l).getD i []=(l.getD i vf).row:=by simp [r8,List.getD,h]
theorem lM (l:List gQ) {i:Nat} (h:i<l.length):(p9 l).getD i []=(l.getD i bV).row:=by simp [p9,List.getD,h]
theorem iT (l:List (List gQ)) {i:Nat} (h:i<l.length):(qY l).getD i [] = [.sl 2 (p9 (l.getD i []))]:=by simp [qY,List.getD,h]
theorem lN (l:List (List eC)) {i:Nat} (h:i<l.length):(qZ l).getD i [] = [.sl 2 (r8 (l.getD i []))]:=by simp [qZ,List.getD,h]
def wX {α:Type} (f:α->Int):List α->Int
 | []=>0
 | x :: r=>if f x≠0 then f x else wX f r
theorem jM {α:Type} {f:α->Int}:∀ {l:List α},wX f l=0 ↔ ∀ x ∈ l,f x=0
 | []=>by simp [wX]
 | x :: r=>by
  unfold wX
  by_cases h:f x=0
  ·rw [if_neg (by simpa using h),jM]; simp [h]
  ·rw [if_pos h]; simp [h]
def lf (l:List Int):Bool:=(List.range (l.length-1)).all λi=>decide (l.getD i 0<l.getD (i+1) 0)
def ze (p:yF) (f:List Nd) (frags:Int):Int:= if yZ f≠0 then yZ f else if (tS .andNot .i64 (zH f) frags != 0)= true then 10 else if tU f p.xN.length p.F=true then 0 else 2
def nV (p:yF) (a:gQ):Int:=if a.fact<0\/p.F<=a.fact then 2 else ze p a.to 0
def lE (p:yF) (c:eC):Int:=if ze p c.test 15≠0 then ze p c.test 15 else if c.mv < -1\/(p.xM.length:Int)<=c.mv then 2 else 0
def pY (p:yF) (s:BitVec 64):Bool:=!decide (s >>> p.F.toNat=0#64)
def lg (l:List (BitVec 64)):Bool:=lf (l.map ui)
def dS (s:List gQ):Bool:=lf (s.map (·.fact))
def zC (p:yF):Int:=
 if p.F<0\/8<p.F then 2 else
 if 4<p.xN.length\/16<p.init.length\/8<p.xM.length\/p.code.any (λl=>decide (6<l.length))= true then 8 else
 if p.xN.length=0\/p.init.length=0\/p.code.length≠p.xN.length\/p.init.any (pY p)= true\/p.xN.any (pY p)= true then 3 else
 if lg p.init=false\/p.xM.any (λs=>!dS s)= true then 9 else 0
def uD (p:yF):Int:= if zC p≠0 then zC p else if wX (wX (nV p)) p.xM≠0 then wX (wX (nV p)) p.xM else wX (wX (lE p)) p.code
structure gG (p : yF) : Prop where
 init:p.init.length<=2000000
 code:p.code.length<=2000000
 mv:∀ s ∈ p.xM,s.length<=4400000000000
end Kb
open Kb
theorem fU {l:List Int} (h:∀ i,i+1<l.length->l.getD i 0<l.getD (i+1) 0):lf l=true:=by unfold lf;rw [ξ];intro i hi;have:=ε.1 hi;exact decide_eq_true (h i (by omega))
theorem fV {l:List Int} {i:Nat} (hi:i+1<l.length) (h:¬ l.getD i 0<l.getD (i+1) 0):lf l=false:=by unfold lf;rw [μ];exact⟨i,ε.2 (by omega),by simpa using h⟩
theorem Pj {l:List Int}:lf l=true ↔ ∀ i,i+1<l.length->l.getD i 0<l.getD (i+1) 0:=by refine⟨λh i hi=>Decidable.byContradiction λhh=>?_,fU⟩;rw [fV hi hh] at h; cases h
theorem Je (l:List Int) (hl:l.length<=2000000):yW prog 59 [.sl 1 (rows .u64 l)] (.bool (lf l)):=by
 refine xY.xQ mixed func59 Ex (by simp) λhf=>?_;simp only [simprocAttr,-ZA,↓zU,↓zD,zV,zT,zW]
 refine xO (λk:Nat=>[(3,.int .i64 ((k+1:Nat):Int)),(0,.sl 1 (rows .u64 l))]) (λ_=>⟨0,[]⟩) (λk=>k<=l.length/\∀ i,i<k->i+1<l.length->l.getD i 0<l.getD (i+1) 0) (λk=>l.length-k) 0 ⟨ο _,λi hi=>absurd hi (π _)⟩ ?_ ?_
 ·(refine xT.same ?_; simp [xR,Fr.get])
 intro k ⟨hk,hi⟩;refine xL mixed ?_
 by_cases hh:k+1<l.length
 ·have hd:(((k+1:Nat):Int)<(l.length:Int)):=by omega
  have hw:IntKind.i64.wrap (((k+1:Nat):Int)-1)= (k:Int):=by rw [wrap_i64 (by omega)]; omega
  have hd2:((k:Int)<(l.length:Int)):=by omega
  have g1:=vI .u64 l (show k<l.length by omega);have g2:=vI .u64 l hh
  by_cases hlt:l.getD k 0<l.getD (k+1) 0
  ·have hlt2:¬ l.getD (k+1) 0<=l.getD k 0:=by omega
   simp only [simprocAttr,-ZA,↓zU,↓zD,zV,zT,zW,hd,zK,hw,hd2,g1,g2,hlt2]
   (repeat refine sd ?_)
   refine⟨k+1,⟨by omega,λi h1 h2=>?_⟩,?_,by omega⟩
   ·by_cases e:i=k
    ·rw [e]; exact hlt
    ·exact hi i (by omega) h2
   (refine xT.same ?_; simp only [xR,Fr.get,simprocAttr,-ZA,zS])
   exact wrap_i64 (by omega)
  ·have hlt2:l.getD (k+1) 0<=l.getD k 0:=by omega
   simp only [simprocAttr,-ZA,↓zU,↓zD,zV,zT,zW,hd,zK,hw,hd2,g1,g2,hlt2]
   (repeat refine sd ?_)
   rw [fV hh hlt];exact .same
 ·have hd:¬ (((k+1:Nat):Int)<(l.length:Int)):=by omega
  rw [fU λi h=>hi i (by omega) h];simp only [simprocAttr,-ZA,↓zU,↓zD,zV,zT,zW,hd,zK];exact .same
theorem Jg (l:List Int) (hl:l.length<=4400000000000):yW prog 62 [.sl 1 (rows .i64 l)] (.bool (lf l)):=by
 refine xY.xQ mixed func62 F5 (by simp) λhf=>?_;simp only [simprocAttr,-ZA,↓zU,↓zD,zV,zT,zW]
 refine xO (λk:Nat=>[(3,.int .i64 ((k+1:Nat):Int)),(0,.sl 1 (rows .i64 l))]) (λ_=>⟨0,[]⟩) (λk=>k<=l.length/\∀ i,i<k->i+1<l.length->l.getD i 0<l.getD (i+1) 0) (λk=>l.length-k) 0 ⟨ο _,λi hi=>absurd hi (π _)⟩ ?_ ?_
 ·(refine xT.same ?_; simp [xR,Fr.get])
 intro k ⟨hk,hi⟩;refine xL mixed ?_
 by_cases hh:k+1<l.length
 ·have hd:(((k+1:Nat):Int)<(l.length:Int)):=by omega
  have hw:IntKind.i64.wrap (((k+1:Nat):Int)-1)= (k:Int):=by rw [wrap_i64 (by omega)]; omega
  have hd2:((k:Int)<(l.length:Int)):=by omega
  have g1:=vI .i64 l (show k<l.length by omega);have g2:=vI .i64 l hh
  by_cases hlt:l.getD k 0<l.getD (k+1) 0
  ·have hlt2:¬ l.getD (k+1) 0<=l.getD k 0:=by omega
   simp only [simprocAttr,-ZA,↓zU,↓zD,zV,zT,zW,hd,zK,hw,hd2,g1,g2,hlt2]
   (repeat refine sd ?_)
   refine⟨k+1,⟨by omega,λi h1 h2=>?_⟩,?_,by omega⟩
   ·by_cases e:i=k
    ·rw [e]; exact hlt
    ·exact hi i (by omega) h2
   (refine xT.same ?_; simp only [xR,Fr.get,simprocAttr,-ZA,zS])
   exact wrap_i64 (by omega)
  ·have hlt2:l.getD (k+1) 0<=l.getD k 0:=by omega
   simp only [simprocAttr,-ZA,↓zU,↓zD,zV,zT,zW,hd,zK,hw,hd2,g1,g2,hlt2]
   (repeat refine sd ?_)
   rw [fV hh hlt];exact .same
 ·have hd:¬ (((k+1:Nat):Int)<(l.length:Int)):=by omega
  rw [fU λi h=>hi i (by omega) h];simp only [simprocAttr,-ZA,↓zU,↓zD,zV,zT,zW,hd,zK];exact .same
theorem QG {σ:St} {g:FuncId} {caps:List D} {f:List eC->Bool} {c:List (List eC)} (hl:c.length<=2000000) (h:∀ x ∈ c,xY prog g ([.sl 2 (r8 x)]++caps) σ (.bool (f x)) σ):xY prog 114 [.sl 1 (qZ c),.fn g caps] σ (.int .i64 (fI f c 0)) σ:=by
 refine xY.xQ mixed func114 Hp (by simp) λhf=>?_;simp only [simprocAttr,-ZA,↓zU,↓zD,zV,zT,zW,zN]
 refine xO (λk:Nat=>[(8,.int .i64 k),(7,.int .i64 c.length),(1,.fn g caps),(0,.sl 1 (qZ c))]) (λ_=>σ) (λk=>k<=c.length/\fI f c 0=fI f (c.drop k) k) (λk=>c.length-k) 0 ⟨ο _,rfl⟩ ?_ ?_
 ·(refine xT.same ?_; simp [xR,Fr.get])
 intro k ⟨hk,hi⟩;refine xL mixed ?_
 by_cases hh:k<c.length
 ·have hd:((k:Int)<(c.length:Int)):=by omega
  rw [drop_cons (d:=[]) hh,fI] at hi;simp only [simprocAttr,-ZA,↓zU,↓zD,zV,zT,zW,hd,zN,lN _ hh]
  (repeat refine sd ?_)
  refine .go (h _ (xK hh)) ?_
  cases hx:f (c.getD k [])
  ·rw [hx,if_neg (by simp)] at hi;simp only [simprocAttr,-ZA,↓zU,↓zD,zV,zT,zW];refine⟨k+1,⟨by omega,hi⟩,?_,by omega⟩
   (refine xT.same ?_; simp only [xR,Fr.get,simprocAttr,-ZA,zS])
   exact wrap_i64 (by omega)
  ·rw [hx,if_pos rfl] at hi;simp only [simprocAttr,-ZA,↓zU,↓zD,zV,zT,zW];rw [hi];exact .same
 ·have hd:¬ ((k:Int)<(c.length:Int)):=by omega
  rw [γ (by omega),fI] at hi;simp only [simprocAttr,-ZA,↓zU,↓zD,zV,zT,zW,hd];rw [hi];exact .same
theorem Z5 {σ:St} {g:FuncId} {caps:List D} {f:List eC->Bool} {c:List (List eC)} (hl:c.length<=2000000) (h:∀ x ∈ c,xY prog g ([.sl 2 (r8 x)]++caps) σ (.bool (f x)) σ):xY prog 56 [.sl 1 (qZ c),.fn g caps] σ (.bool (c.any f)) σ:=by
 refine xY.xQ mixed func56 Ew (by simp) λhf=>?_;simp only [simprocAttr,-ZA,↓zU,↓zD,zV,zT,zW];refine .go (QG hl h) ?_;have hx:=eY (f:=f) (c:=c) (i:=0) (Ai 0)
 cases ha:c.any f
 ·have h1:¬ 0<=fI f c 0:=λy=>by rw [hx.1 y] at ha; cases ha
  simp only [simprocAttr,-ZA,↓zU,↓zD,zV,zT,zW,h1];exact .same
 ·have h1:=hx.2 ha;simp only [simprocAttr,-ZA,↓zU,↓zD,zV,zT,zW,h1];exact .same
theorem QH {σ:St} {g:FuncId} {caps:List D} {f:List gQ->Bool} {c:List (List gQ)} (hl:c.length<=2000000) (h:∀ x ∈ c,xY prog g ([.agg [.sl 2 (p9 x)]]++caps) σ (.bool (f x)) σ):xY prog 116 [.sl 1 (qY c),.fn g caps] σ (.int .i64 (fI f c 0)) σ:=by
 refine xY.xQ mixed func116 Hr (by simp) λhf=>?_;simp only [simprocAttr,-ZA,↓zU,↓zD,zV,zT,zW,yE]
 refine xO (λk:Nat=>[(8,.int .i64 k),(7,.int .i64 c.length),(1,.fn g caps),(0,.sl 1 (qY c))]) (λ_=>σ) (λk=>k<=c.length/\fI f c 0=fI f (c.drop k) k) (λk=>c.length-k) 0 ⟨ο _,rfl⟩ ?_ ?_
 ·(refine xT.same ?_; simp [xR,Fr.get])
 intro k ⟨hk,hi⟩;refine xL mixed ?_
 by_cases hh:k<c.length
 ·have hd:((k:Int)<(c.length:Int)):=by omega
  rw [drop_cons (d:=[]) hh,fI] at hi;simp only [simprocAttr,-ZA,↓zU,↓zD,zV,zT,zW,hd,yE,iT _ hh]
  (repeat refine sd ?_)
  refine .go (h _ (xK hh)) ?_
  cases hx:f (c.getD k [])
  ·rw [hx,if_neg (by simp)] at hi;simp only [simprocAttr,-ZA,↓zU,↓zD,zV,zT,zW];refine⟨k+1,⟨by omega,hi⟩,?_,by omega⟩
   (refine xT.same ?_; simp only [xR,Fr.get,simprocAttr,-ZA,zS])
   exact wrap_i64 (by omega)
  ·rw [hx,if_pos rfl] at hi;simp only [simprocAttr,-ZA,↓zU,↓zD,zV,zT,zW];rw [hi];exact .same
 ·have hd:¬ ((k:Int)<(c.length:Int)):=by omega
  rw [γ (by omega),fI] at hi;simp only [simprocAttr,-ZA,↓zU,↓zD,zV,zT,zW,hd];rw [hi];exact .same
theorem Z6 {σ:St} {g:FuncId} {caps:List D} {f:List gQ->Bool} {c:List (List gQ)} (hl:c.length<=2000000) (h:∀ x ∈ c,xY prog g ([.agg [.sl 2 (p9 x)]]++caps) σ (.bool (f x)) σ):xY prog 60 [.sl 1 (qY c),.fn g caps] σ (.bool (c.any f)) σ:=by
 refine xY.xQ mixed func60 F0 (by simp) λhf=>?_;simp only [simprocAttr,-ZA,↓zU,↓zD,zV,zT,zW];refine .go (QH hl h) ?_;have hx:=eY (f:=f) (c:=c) (i:=0) (Ai 0)
 cases ha:c.any f
 ·have h1:¬ 0<=fI f c 0:=λy=>by rw [hx.1 y] at ha; cases ha
  simp only [simprocAttr,-ZA,↓zU,↓zD,zV,zT,zW,h1];exact .same
 ·have h1:=hx.2 ha;simp only [simprocAttr,-ZA,↓zU,↓zD,zV,zT,zW,h1];exact .same
open Rs Fm Ru Kb
theorem Jz {nx:Nat} {xZ:List (Nat × Ob)} {p:yF} (h0:St.look xZ 0=some ⟨5,[p.cells]⟩) (hf:0<=p.F) (x:BitVec 64):xY prog 55 ([.int .u64 (ui x)] ++ [.ref 0 5 0 0]) ⟨nx,xZ⟩ (.bool (pY p x)) ⟨nx,xZ⟩:=by
 unfold yF.cells at h0;refine xY.xQ mixed func55 Ev (by simp) λhf=>?_;simp only [simprocAttr,-ZA,↓zU,↓zD,zV,zT,zW,h0]
 (repeat refine sd ?_)
 unfold pY
 by_cases hx:x >>> p.F.toNat=0#64
 ·have ex:(x >>> p.F.toNat != 0#64)= false:=by simpa using hx
  rw [decide_eq_true hx];simp only [simprocAttr,-ZA,↓zU,↓zD,zV,zT,zW,ex];exact .same
 ·have ex:(x >>> p.F.toNat != 0#64)= true:=by simpa using hx
  rw [decide_eq_false hx];simp only [simprocAttr,-ZA,↓zU,↓zD,zV,zT,zW,ex];exact .same
theorem Lg (l:List eC):yW prog 57 [.sl 2 (r8 l)] (.bool (decide (6<l.length))):=by
 refine xY.xQ mixed func57 Ez (by simp) λhf=>?_
 by_cases h:6<l.length
 ·have h':(6:Int)<(l.length:Int):=by omega
  rw [decide_eq_true h];simp only [simprocAttr,-ZA,↓zU,↓zD,zV,zT,zW,wG,h'];exact .same
 ·have h':¬ (6:Int)<(l.length:Int):=by omega
  rw [decide_eq_false h];simp only [simprocAttr,-ZA,↓zU,↓zD,zV,zT,zW,wG,h'];exact .same
theorem Ws (s:List gQ) (hl:s.length<=4400000000000):yW prog 63 [.agg [.sl 2 (p9 s)]] (.sl 1 (rows .i64 (s.map (·.fact)))):=by
 refine xY.xQ mixed func63 F6 (by simp) λhf=>?_;simp only [simprocAttr,-ZA,↓zU,↓zD,zV,zT,zW,vS]
 refine xO (λk:Nat=>[(9,.int .i64 k),(8,.int .i64 s.length),(7,.sl 2 (p9 s)),(3,xA 1 1 (rows .i64 ((s.take k).map (·.fact))))]) (λk=>⟨2,yV 1 1 (rows .i64 ((s.take k).map (·.fact)))⟩) (λk=>k<=s.length) (λk=>s.length-k) 0 (ο _) ?_ ?_
 ·(refine xT.sZ [] [] (by simp) (by simp) (by decide) ?_; simp only [yT,zQ,simprocAttr,-ZA,exists_eq_left',ne_eq,zR,List.take_zero,List.map_nil,jZ,vU,vV])
 intro k hk;refine xL mixed ?_
 by_cases hh:k<s.length
 ·have hd:((k:Int)<(s.length:Int)):=by omega
  have hg:=lM s hh;have ht:(s.take (k+1)).map (·.fact)= (s.take k).map (·.fact)++ [(s.getD k bV).fact]:=by rw [vW (d:=bV) hh]; simp
  have hkl:((s.take k).map (·.fact)).length=k:=by simp; omega
  unfold gQ.row at hg;generalize (s.take k).map (·.fact)= a at hkl ht ⊢;generalize s.getD k bV=x at hg ht ⊢;simp only [simprocAttr,-ZA,↓zU,↓zD,zV,zT,zW,hd,vS,hg]
  (repeat refine sd ?_)
  refine⟨k+1,by omega,?_,by omega⟩;rw [ht]
  (refine xT.sZ [(1,3)] [1] (by simp) (by simp) (by decide) ?_; simp only [yT,zQ,simprocAttr,-ZA,exists_eq_left',ne_eq,zR])
  exact wrap_i64 (by omega)
 ·have hd:¬ ((k:Int)<(s.length:Int)):=by omega
  rw [jY (show k=s.length by omega)];simp only [simprocAttr,-ZA,↓zU,↓zD,zV,zT,zW,hd];exact .drop (by simp) (UB (by decide) (qL _ _))
theorem Jf (s:List gQ) (hl:s.length<=4400000000000):yW prog 61 [.agg [.sl 2 (p9 s)]] (.bool (!dS s)):=by
 have h1:=Ws s hl;have h2:=Jg (s.map (·.fact)) (by simpa using hl);unfold dS;refine xY.xQ mixed func61 F3 (by simp) λhf=>?_;simp only [simprocAttr,-ZA,↓zU,↓zD,zV,zT,zW]
 (repeat refine sd ?_)
 refine .go (cr h1) ?_;simp only [simprocAttr,-ZA,↓zU,↓zD,zV,zT,zW];refine .go (cr h2) ?_;simp only [simprocAttr,-ZA,↓zU,↓zD,zV,zT,zW];exact .dv
theorem gf (p:yF) (f:List Nd) (fr:Int):yW prog 65 [p.d,.sl 6 (zG f),.int .i64 fr] (.int .i64 (ze p f fr)):=by
 have h1:=mM f;have h2:=ug f;have h3:=cd f p.xN.length p.F;unfold yF.d yF.cells ze;refine xY.xQ mixed func65 F8 (by simp) λhf=>?_;simp only [simprocAttr,-ZA,↓zU,↓zD,zV,zT,zW]
 (repeat refine sd ?_)
 refine .go (cr h1) ?_;by_cases e1:yZ f=0
 case neg=>
  have e1':(yZ f != 0)= true:=by simpa using e1
  simp only [simprocAttr,-ZA,↓zU,↓zD,zV,zT,zW,e1',e1];exact .dv
 have e1':(yZ f != 0)= false:=by simpa using e1
 simp only [simprocAttr,-ZA,↓zU,↓zD,zV,zT,zW,e1',e1];refine .go (cr h2) ?_;cases e2:tS .andNot .i64 (zH f) fr != 0
 case true=> simp only [simprocAttr,-ZA,↓zU,↓zD,zV,zT,zW,e2];exact .dv
 simp only [simprocAttr,-ZA,↓zU,↓zD,zV,zT,zW,e2]
 (repeat refine sd ?_)
 refine .go (cr h3) ?_
 cases e3:tU f p.xN.length p.F
 ·simp only [simprocAttr,-ZA,↓zU,↓zD,zV,zT,zW];exact .dv
 ·simp only [simprocAttr,-ZA,↓zU,↓zD,zV,zT,zW];exact .dv
theorem qJ {α:Type} (f:α->Int) {l:List α} {k:Nat} {d:α} (h:k<l.length):wX f (l.drop k)= if f (l.getD k d)≠ 0 then f (l.getD k d) else wX f (l.drop (k+1)):=by rw [drop_cons (d:=d) h]; rfl
theorem OF (p:yF) (hm:p.xM.length<=2000000) (hl:∀ s ∈ p.xM,s.length<=4400000000000):yW prog 64 [p.d] (.int .i64 (wX (wX (nV p)) p.xM)):=by
 have hF:=λf=>gf p f 0;have hD:p.d = .agg [.int .i64 p.F,.sl 1 (us p.init),.sl 1 (us p.xN),.sl 1 (qY p.xM),.sl 1 (qZ p.code)]:=rfl;rw [hD] at *;refine xY.xQ mixed func64 F7 (by simp) λhf=>?_;simp only [simprocAttr,-ZA,↓zU,↓zD,zV,zT,zW,yE]
 (repeat refine sd ?_)
 refine xO (λk:Nat=>[(11,.int .i64 k),(10,.int .i64 p.xM.length),(9,.sl 1 (qY p.xM)),(1,.ref 0 5 0 0)]) (λ_=>⟨1,[(0,⟨5,[p.cells]⟩)]⟩)
  (λk=>k<=p.xM.length/\wX (wX (nV p)) p.xM=wX (wX (nV p)) (p.xM.drop k)) (λk=>p.xM.length-k) 0 ⟨ο _,rfl⟩ ?_ ?_
 ·unfold yF.cells; (refine xT.same ?_; simp [xR,Fr.get])
 intro k ⟨hk,hi⟩;refine xL mixed ?_;by_cases hkl:k<p.xM.length
 case neg=>
  have hd:¬ ((k:Int)<(p.xM.length:Int)):=by omega
  rw [hi,γ (by omega)];simp only [simprocAttr,-ZA,↓zU,↓zD,zV,zT,zW,hd];exact .drop (by simp) (by simp [vw,wX])
 have hd:((k:Int)<(p.xM.length:Int)):=by omega
 rw [qJ (d:=[]) _ hkl] at hi;have hg:=iT p.xM hkl;have hs:=hl _ (xK (d:=[]) hkl);generalize p.xM.getD k []=s at hi hg hs;unfold yF.cells;simp only [simprocAttr,-ZA,↓zU,↓zD,zV,zT,zW,hd,yE,hg,vS]
 (repeat refine sd ?_)
 refine xO (λj:Nat=>[(18,.int .i64 j),(17,.int .i64 s.length),(16,.sl 2 (p9 s)),(11,.int .i64 k),(10,.int .i64 p.xM.length),(9,.sl 1 (qY p.xM)),(1,.ref 0 5 0 0)]) (λ_=>⟨1,[(0,⟨5,[p.cells]⟩)]⟩)
  (λj=>j<=s.length/\wX (nV p) s=wX (nV p) (s.drop j)) (λj=>s.length-j) 0 ⟨ο _,rfl⟩ ?_ ?_
 ·unfold yF.cells; (refine xT.sZ [] [0] (by simp) (by simp) (by decide) ?_; simp only [yT,zQ,simprocAttr,-ZA,exists_eq_left',ne_eq,zR])
 intro j ⟨hj,hi2⟩;refine xL mixed ?_;by_cases hjl:j<s.length
 case neg=>
  have hd2:¬ ((j:Int)<(s.length:Int)):=by omega
  have h0:wX (nV p) s=0:=by rw [hi2,γ (by omega)]; rfl
  rw [h0,if_neg (by simp)] at hi;unfold yF.cells;simp only [simprocAttr,-ZA,↓zU,↓zD,zV,zT,zW,hd2];refine⟨k+1,⟨by omega,hi⟩,?_,by omega⟩
  (refine xT.same ?_; simp only [xR,Fr.get,simprocAttr,-ZA,zS])
  exact wrap_i64 (by omega)
 have hd2:((j:Int)<(s.length:Int)):=by omega
 rw [qJ (d:=bV) _ hjl] at hi2;have hg2:=lM s hjl;unfold gQ.row at hg2;generalize s.getD j bV=a at hi2 hg2;have hend:nV p a≠0->wX (wX (nV p)) p.xM=nV p a:=λh=>by rw [hi,hi2,if_pos h,if_pos h]
 unfold yF.cells;have hFa:=hF a.to
 by_cases c1:a.fact<0
 ·have e:nV p a=2:=by unfold nV; rw [if_pos (.inl c1)]
  rw [hend (by rw [e]; decide),e];simp only [simprocAttr,-ZA,↓zU,↓zD,zV,zT,zW,hd2,vS,hg2,c1]
  (repeat refine sd ?_)
  exact .dv
 by_cases c2:p.F<=a.fact
 ·have e:nV p a=2:=by unfold nV; rw [if_pos (.inr c2)]
  rw [hend (by rw [e]; decide),e];simp only [simprocAttr,-ZA,↓zU,↓zD,zV,zT,zW,hd2,vS,hg2,c1,c2]
  (repeat refine sd ?_)
  exact .dv
 have e:nV p a=ze p a.to 0:=by unfold nV; rw [if_neg (by omega)]
 rw [<- e] at hFa;simp only [simprocAttr,-ZA,↓zU,↓zD,zV,zT,zW,hd2,vS,hg2,c1,c2]
 (repeat refine sd ?_)
 refine .go (cr hFa) ?_
 by_cases c3:nV p a=0
 ·have c3':(nV p a != 0)= false:=by simpa using c3
  rw [c3,if_neg (by simp)] at hi2;simp only [simprocAttr,-ZA,↓zU,↓zD,zV,zT,zW,c3'];refine⟨j+1,⟨by omega,hi2⟩,?_,by omega⟩
  (refine xT.sZ [] [0] (by simp) (by simp) (by decide) ?_; simp only [yT,zQ,simprocAttr,-ZA,exists_eq_left',ne_eq,zR])
  exact wrap_i64 (by omega)
 ·have c3':(nV p a != 0)= true:=by simpa using c3
  rw [hend c3];simp only [simprocAttr,-ZA,↓zU,↓zD,zV,zT,zW,c3'];exact .dv
open Rs Fm Ru Kb
theorem NJ (p:yF) (sm:gG p):yW prog 17 [p.d] (.int .i64 (uD p)):=by
 have hM:=OF p;have hF:=λf=>gf p f 15
 have hlong:=Z5 (σ:=⟨1,[(0,⟨5,[p.cells]⟩)]⟩) (g:=57) (caps:=[]) (c:=p.code) (f:=λl=>decide (6<l.length)) sm.code λx _=>by rw [List.append_nil]; exact xY.zP (Lg x) (by simp [D.xP,D.xD])
 have hasc:=Z6 (σ:=⟨1,[(0,⟨5,[p.cells]⟩)]⟩) (g:=61) (caps:=[]) (c:=p.xM) (f:=λs=>!dS s);have hout:=λ(h0:0<=p.F) (l:List (BitVec 64)) (hl:l.length<=1000)=>bY (σ:=⟨1,[(0,⟨5,[p.cells]⟩)]⟩) (g:=55) (caps:=[.ref 0 5 0 0]) (c:=l) (f:=pY p) hl λx _=>Jz rfl h0 x;have hai:=Je (p.init.map ui) (by simpa using sm.init);rw [show rows .u64 (p.init.map ui)= us p.init by simp [rows,us]] at hai;have hD:p.d = .agg [.int .i64 p.F,.sl 1 (us p.init),.sl 1 (us p.xN),.sl 1 (qY p.xM),.sl 1 (qZ p.code)]:=rfl;unfold yF.cells at hlong hasc hout;rw [hD] at *;refine xY.xQ mixed func17 Ej (by simp) λhf=>?_
 by_cases a1:p.F<0
 ·rw [show uD p=2 by unfold uD zC; simp [a1]];simp only [simprocAttr,-ZA,↓zU,↓zD,zV,zT,zW,a1];exact .dv
 by_cases a2:8<p.F
 ·rw [show uD p=2 by unfold uD zC; simp [a2]];simp only [simprocAttr,-ZA,↓zU,↓zD,zV,zT,zW,a1,a2];exact .dv
 have hfe:zC p=if 4<p.xN.length\/16<p.init.length\/8<p.xM.length\/p.code.any (λl=>decide (6<l.length))= true then 8 else
   if p.xN.length=0\/p.init.length=0\/p.code.length≠p.xN.length\/p.init.any (pY p)= true\/p.xN.any (pY p)= true then 3 else
   if lg p.init=false\/p.xM.any (λs=>!dS s)= true then 9 else 0:=by
  unfold zC; rw [if_neg (by omega)]
 by_cases a3:4<p.xN.length
 ·rw [show uD p=8 by unfold uD; simp [hfe,a3]];have a3':(4:Int)<(p.xN.length:Int):=by omega
  simp only [simprocAttr,-ZA,↓zU,↓zD,zV,zT,zW,a1,a2,a3',xH];exact .dv
 have a3':¬ (4:Int)<(p.xN.length:Int):=by omega
 by_cases a4:16<p.init.length
 ·rw [show uD p=8 by unfold uD; simp [hfe,a4]];have a4':(16:Int)<(p.init.length:Int):=by omega
  simp only [simprocAttr,-ZA,↓zU,↓zD,zV,zT,zW,a1,a2,a3',a4',xH];exact .dv
 have a4':¬ (16:Int)<(p.init.length:Int):=by omega
 by_cases a5:8<p.xM.length
 ·rw [show uD p=8 by unfold uD; simp [hfe,a5]];have a5':(8:Int)<(p.xM.length:Int):=by omega
  simp only [simprocAttr,-ZA,↓zU,↓zD,zV,zT,zW,a1,a2,a3',a4',a5',xH,yE];exact .dv
 have a5':¬ (8:Int)<(p.xM.length:Int):=by omega
 simp only [simprocAttr,-ZA,↓zU,↓zD,zV,zT,zW,a1,a2,a3',a4',a5',xH,yE];refine .go hlong ?_;cases a6:p.code.any λl=>decide (6<l.length)
 case true=> rw [show uD p=8 by unfold uD; simp [hfe,a6]];simp only [simprocAttr,-ZA,↓zU,↓zD,zV,zT,zW];exact .dv
 by_cases b1:p.xN.length=0
 ·rw [show uD p=3 by unfold uD; simp [hfe,a4,a5,a6,b1]];have b1':((p.xN.length:Int)== 0)= true:=by rw [b1]; rfl
  simp only [simprocAttr,-ZA,↓zU,↓zD,zV,zT,zW,xH,b1'];exact .dv
 have b1':((p.xN.length:Int)== 0)= false:=by rw [beq_eq_false_iff_ne]; omega
 by_cases b2:p.init.length=0
 ·rw [show uD p=3 by unfold uD; simp [hfe,a3,a5,a6,b2]];have b2':((p.init.length:Int)== 0)= true:=by rw [b2]; rfl
  simp only [simprocAttr,-ZA,↓zU,↓zD,zV,zT,zW,xH,b1',b2'];exact .dv
 have b2':((p.init.length:Int)== 0)= false:=by rw [beq_eq_false_iff_ne]; omega
 by_cases b3:p.code.length=p.xN.length
 case neg=>
  rw [show uD p=3 by unfold uD; simp [hfe,a3,a4,a5,a6,b3]];have b3':((p.code.length:Int) != (p.xN.length:Int))= true:=by rw [bne_iff_ne]; omega
  simp only [simprocAttr,-ZA,↓zU,↓zD,zV,zT,zW,xH,b1',b2',zN,b3'];exact .dv
 have b3':((p.code.length:Int) != (p.xN.length:Int))= false:=by rw [b3]; exact bne_self_eq_false _
 simp only [simprocAttr,-ZA,↓zU,↓zD,zV,zT,zW,xH,b1',b2',zN,b3'];refine .go (hout (by omega) p.init (by omega)) ?_;cases b4:p.init.any (pY p)
 case true=> rw [show uD p=3 by unfold uD; simp [hfe,a3,a4,a5,a6,b4]];simp only [simprocAttr,-ZA,↓zU,↓zD,zV,zT,zW];exact .dv
 simp only [simprocAttr,-ZA,↓zU,↓zD,zV,zT,zW];refine .go (hout (by omega) p.xN (by omega)) ?_;cases b5:p.xN.any (pY p)
 case true=> rw [show uD p=3 by unfold uD; simp [hfe,a3,a4,a5,a6,b5]];simp only [simprocAttr,-ZA,↓zU,↓zD,zV,zT,zW];exact .dv
 simp only [simprocAttr,-ZA,↓zU,↓zD,zV,zT,zW];refine .go (cr hai) ?_;have hau:lf (p.init.map ui)= lg p.init:=rfl;rw [hau]
 have hf2:zC p=if lg p.init=false\/p.xM.any (λs=>!dS s)= true then 9 else 0:=by rw [hfe,if_neg (by simp [a3,a4,a5,a6]),if_neg (by simp [b1,b2,b3,b4,b5])]
 cases c1:lg p.init
 case false=> rw [show uD p=9 by unfold uD; simp [hf2,c1]];simp only [simprocAttr,-ZA,↓zU,↓zD,zV,zT,zW];exact .dv
 simp only [simprocAttr,-ZA,↓zU,↓zD,zV,zT,zW];refine .go (hasc (by omega) λx hx=>by rw [List.append_nil]; exact xY.zP (Jf x (sm.mv x hx)) (by simp [D.xP,D.xD])) ?_;cases c2:p.xM.any (λs=>!dS s)
 case true=> rw [show uD p=9 by unfold uD; simp [hf2,c2]];simp only [simprocAttr,-ZA,↓zU,↓zD,zV,zT,zW];exact .dv
 have hf0:zC p=0:=by rw [hf2,c1,c2]; rfl
 have hch:uD p=if wX (wX (nV p)) p.xM≠0 then wX (wX (nV p)) p.xM else wX (wX (lE p)) p.code:=by unfold uD; rw [hf0,if_neg (by simp)]
 simp only [simprocAttr,-ZA,↓zU,↓zD,zV,zT,zW];refine .go (xY.zP (hM (by omega) sm.mv) (by simp [D.xP,D.xD])) ?_;by_cases d1:wX (wX (nV p)) p.xM=0
 case neg=>
  have d1':(wX (wX (nV p)) p.xM != 0)= true:=by simpa using d1
  rw [hch,if_pos d1];simp only [simprocAttr,-ZA,↓zU,↓zD,zV,zT,zW,d1'];exact .dv
 rw [hch,d1,if_neg (by simp)];simp only [simprocAttr,-ZA,↓zU,↓zD,zV,zT,zW,zN]
 refine xO (λk:Nat=>[(92,.int .i64 k),(91,.int .i64 p.code.length),(90,.sl 1 (qZ p.code)),(1,.ref 0 5 0 0)]) (λ_=>⟨1,[(0,⟨5,[p.cells]⟩)]⟩)
  (λk=>k<=p.code.length/\wX (wX (lE p)) p.code=wX (wX (lE p)) (p.code.drop k)) (λk=>p.code.length-k) 0 ⟨ο _,rfl⟩ ?_ ?_
 ·unfold yF.cells; (refine xT.same ?_; simp [xR,Fr.get])
 intro k ⟨hk,hi⟩;refine xL mixed ?_;by_cases hkl:k<p.code.length
 case neg=>
  have hd:¬ ((k:Int)<(p.code.length:Int)):=by omega
  rw [hi,γ (by omega)];simp only [simprocAttr,-ZA,↓zU,↓zD,zV,zT,zW,hd];exact .drop (by simp) (by simp [vw,wX])
 have hd:((k:Int)<(p.code.length:Int)):=by omega
 rw [qJ (d:=[]) _ hkl] at hi;have hg:=lN p.code hkl
 have hs:(p.code.getD k []).length<=6:=by have:=η.1 a6 _ (xK (d:=[]) hkl);simpa using this
 generalize p.code.getD k []=s at hi hg hs;unfold yF.cells;simp only [simprocAttr,-ZA,↓zU,↓zD,zV,zT,zW,hd,zN,hg,wG]
 (repeat refine sd ?_)
 refine xO (λj:Nat=>[(98,.int .i64 j),(97,.int .i64 s.length),(96,.sl 2 (r8 s)),(92,.int .i64 k),(91,.int .i64 p.code.length),(90,.sl 1 (qZ p.code)),(1,.ref 0 5 0 0)]) (λ_=>⟨1,[(0,⟨5,[p.cells]⟩)]⟩)
  (λj=>j<=s.length/\wX (lE p) s=wX (lE p) (s.drop j)) (λj=>s.length-j) 0 ⟨ο _,rfl⟩ ?_ ?_
 ·unfold yF.cells; (refine xT.same ?_; simp [xR,Fr.get])
 intro j ⟨hj,hi2⟩;refine xL mixed ?_;by_cases hjl:j<s.length
 case neg=>
  have hd2:¬ ((j:Int)<(s.length:Int)):=by omega
  have h0:wX (lE p) s=0:=by rw [hi2,γ (by omega)]; rfl
  rw [h0,if_neg (by simp)] at hi;unfold yF.cells;simp only [simprocAttr,-ZA,↓zU,↓zD,zV,zT,zW,hd2];refine⟨k+1,⟨by omega,hi⟩,?_,by omega⟩
  (refine xT.same ?_; simp only [xR,Fr.get,simprocAttr,-ZA,zS])
  exact wrap_i64 (by omega)
 have hd2:((j:Int)<(s.length:Int)):=by omega
 rw [qJ (d:=vf) _ hjl] at hi2;have hg2:=eV s hjl;unfold eC.row at hg2;generalize s.getD j vf=c at hi2 hg2;have hend:lE p c≠0->wX (wX (lE p)) p.code=lE p c:=λh=>by rw [hi,hi2,if_pos h,if_pos h]
 unfold yF.cells;simp only [simprocAttr,-ZA,↓zU,↓zD,zV,zT,zW,hd2,wG,hg2]
 (repeat refine sd ?_)
 refine .go (cr (hF c.test)) ?_;by_cases e1:ze p c.test 15=0
 case neg=>
  have e1':(ze p c.test 15 != 0)= true:=by simpa using e1
  have e:lE p c=ze p c.test 15:=by unfold lE; rw [if_pos e1]
  rw [hend (by rw [e]; exact e1),e];simp only [simprocAttr,-ZA,↓zU,↓zD,zV,zT,zW,e1'];exact .dv
 have e1':(ze p c.test 15 != 0)= false:=by simpa using e1
 by_cases e2:c.mv < -1
 ·have e:lE p c=2:=by unfold lE; rw [e1,if_neg (by simp),if_pos (.inl e2)]
  rw [hend (by rw [e]; decide),e];simp only [simprocAttr,-ZA,↓zU,↓zD,zV,zT,zW,e1',e2];exact .dv
 by_cases e3:(p.xM.length:Int)<=c.mv
 ·have e:lE p c=2:=by unfold lE; rw [e1,if_neg (by simp),if_pos (.inr e3)]
  rw [hend (by rw [e]; decide),e];simp only [simprocAttr,-ZA,↓zU,↓zD,zV,zT,zW,e1',e2,yE,e3];exact .dv
 have e:lE p c=0:=by unfold lE; rw [e1,if_neg (by simp),if_neg (by omega)]
 rw [e,if_neg (by simp)] at hi2;simp only [simprocAttr,-ZA,↓zU,↓zD,zV,zT,zW,e1',e2,yE,e3];refine⟨j+1,⟨by omega,hi2⟩,?_,by omega⟩
 (refine xT.sZ [] [0] (by simp) (by simp) (by decide) ?_; simp only [yT,zQ,simprocAttr,-ZA,exists_eq_left',ne_eq,zR])
 exact wrap_i64 (by omega)
open Rs Fm Ru Kb
theorem Lb (p:yF) (sm:gG p):yW prog 66 [p.d] (.int .i64 (zC p)):=by
 have hD:p.d = .agg [.int .i64 p.F,.sl 1 (us p.init),.sl 1 (us p.xN),.sl 1 (qY p.xM),.sl 1 (qZ p.code)]:=rfl;have h5:=sm.code;rw [hD];refine xY.xQ mixed func66 F9 (by simp) λhf=>?_
 by_cases a1:p.F<0
 ·rw [show zC p=2 by unfold zC; simp [a1]];simp only [simprocAttr,-ZA,↓zU,↓zD,zV,zT,zW,a1];exact .dv
 by_cases a2:8<p.F
 ·rw [show zC p=2 by unfold zC; simp [a2]];simp only [simprocAttr,-ZA,↓zU,↓zD,zV,zT,zW,a1,a2];exact .dv
 have hfe:zC p=if 4<p.xN.length\/16<p.init.length\/8<p.xM.length\/p.code.any (λl=>decide (6<l.length))= true then 8 else
   if p.xN.length=0\/p.init.length=0\/p.code.length≠p.xN.length\/p.init.any (pY p)= true\/p.xN.any (pY p)= true then 3 else
   if lg p.init=false\/p.xM.any (λs=>!dS s)= true then 9 else 0:=by
  unfold zC; rw [if_neg (by omega)]
 by_cases a3:4<p.xN.length
 ·rw [show zC p=8 by simp [hfe,a3]];have a3':(4:Int)<(p.xN.length:Int):=by omega
  simp only [simprocAttr,-ZA,↓zU,↓zD,zV,zT,zW,a1,a2,a3',xH];exact .dv
 have a3':¬ (4:Int)<(p.xN.length:Int):=by omega
 by_cases a4:16<p.init.length
 ·rw [show zC p=8 by simp [hfe,a4]];have a4':(16:Int)<(p.init.length:Int):=by omega
  simp only [simprocAttr,-ZA,↓zU,↓zD,zV,zT,zW,a1,a2,a3',a4',xH];exact .dv
 have a4':¬ (16:Int)<(p.init.length:Int):=by omega
 by_cases a5:8<p.xM.length
 ·rw [show zC p=8 by simp [hfe,a5]];have a5':(8:Int)<(p.xM.length:Int):=by omega
  simp only [simprocAttr,-ZA,↓zU,↓zD,zV,zT,zW,a1,a2,a3',a4',a5',xH,yE];exact .dv
 have a5':¬ (8:Int)<(p.xM.length:Int):=by omega
 simp only [simprocAttr,-ZA,↓zU,↓zD,zV,zT,zW,a1,a2,a3',a4',a5',xH,yE]
 refine xO (λk:Nat=>[(3,.int .i64 k),(1,.ref 0 5 0 0)]) (λ_=>⟨1,[(0,⟨5,[p.cells]⟩)]⟩)
  (λk=>k<=p.code.length/\p.code.any (λl=>decide (6<l.length))= (p.code.drop k).any (λl=>decide (6<l.length))) (λk=>p.code.length-k) 0 ⟨ο _,rfl⟩ ?_ ?_
 ·unfold yF.cells; (refine xT.same ?_; simp [xR,Fr.get])
 intro k ⟨hk,hi⟩;refine xL mixed ?_;by_cases hkl:k<p.code.length
 case pos=>
  have hd:((k:Int)<(p.code.length:Int)):=by omega
  rw [drop_cons (d:=[]) hkl,δ] at hi;have hg:=lN p.code hkl;generalize p.code.getD k []=s at hi hg;unfold yF.cells
  by_cases h6:6<s.length
  ·have h6':(6:Int)<(s.length:Int):=by omega
   rw [decide_eq_true h6,Ac] at hi;rw [show zC p=8 by simp only [hfe,hi]; simp];simp only [simprocAttr,-ZA,↓zU,↓zD,zV,zT,zW,hd,zN,hg,wG,h6']
   (repeat refine sd ?_)
   exact .dv
  ·have h6':¬ (6:Int)<(s.length:Int):=by omega
   rw [decide_eq_false h6,Ab] at hi;simp only [simprocAttr,-ZA,↓zU,↓zD,zV,zT,zW,hd,zN,hg,wG,h6']
   (repeat refine sd ?_)
   refine⟨k+1,⟨by omega,hi⟩,?_,by omega⟩
   (refine xT.same ?_; simp only [xR,Fr.get,simprocAttr,-ZA,zS])
   exact wrap_i64 (by omega)
 have hd:¬ ((k:Int)<(p.code.length:Int)):=by omega
 have a6:p.code.any (λl=>decide (6<l.length))= false:=by rw [hi,γ (by omega)]; rfl
 clear hi;unfold yF.cells;simp only [simprocAttr,-ZA,↓zU,↓zD,zV,zT,zW,hd,zN]
 have hf1:zC p=if p.xN.length=0\/p.init.length=0\/p.code.length≠p.xN.length\/p.init.any (pY p)= true\/p.xN.any (pY p)= true then 3 else
   if lg p.init=false\/p.xM.any (λs=>!dS s)= true then 9 else 0:=by rw [hfe,if_neg (by rw [a6]; simp only [not_or]; exact⟨by omega,by omega,by omega,by simp⟩)]
 by_cases b1:p.xN.length=0
 ·rw [show zC p=3 by rw [hf1,if_pos (.inl b1)]];have b1':((p.xN.length:Int)== 0)= true:=by rw [b1]; rfl
  simp only [simprocAttr,-ZA,↓zU,↓zD,zV,zT,zW,xH,b1'];exact .dv
 have b1':((p.xN.length:Int)== 0)= false:=by rw [beq_eq_false_iff_ne]; omega
 by_cases b2:p.init.length=0
 ·rw [show zC p=3 by rw [hf1,if_pos (.inr (.inl b2))]];have b2':((p.init.length:Int)== 0)= true:=by rw [b2]; rfl
  simp only [simprocAttr,-ZA,↓zU,↓zD,zV,zT,zW,xH,b1',b2'];exact .dv
 have b2':((p.init.length:Int)== 0)= false:=by rw [beq_eq_false_iff_ne]; omega
 by_cases b3:p.code.length=p.xN.length
 case neg=>
  rw [show zC p=3 by rw [hf1,if_pos (.inr (.inr (.inl b3)))]];have b3':((p.code.length:Int) != (p.xN.length:Int))= true:=by rw [bne_iff_ne]; omega
  simp only [simprocAttr,-ZA,↓zU,↓zD,zV,zT,zW,xH,b1',b2',zN,b3'];exact .dv
 have b3':((p.code.length:Int) != (p.xN.length:Int))= false:=by rw [b3]; exact bne_self_eq_false _
 simp only [simprocAttr,-ZA,↓zU,↓zD,zV,zT,zW,xH,b1',b2',zN,b3'];clear hk hkl hd
 refine xO (λk:Nat=>[(4,.int .i64 k),(1,.ref 0 5 0 0)]) (λ_=>⟨1,[(0,⟨5,[p.cells]⟩)]⟩)
  (λk=>k<=p.init.length/\p.init.any (pY p)= (p.init.drop k).any (pY p)) (λk=>p.init.length-k) 0 ⟨ο _,rfl⟩ ?_ ?_
 ·unfold yF.cells; (refine xT.same ?_; simp [xR,Fr.get])
 intro k ⟨hk,hi⟩;refine xL mixed ?_;by_cases hkl:k<p.init.length
 case pos=>
  have hd:((k:Int)<(p.init.length:Int)):=by omega
  rw [drop_cons (d:=0) hkl,δ] at hi;have hg:=vL p.init hkl;generalize p.init.getD k 0=x at hi hg;unfold yF.cells
  by_cases hx:x >>> p.F.toNat=0#64
  ·have ex:(x >>> p.F.toNat != 0#64)= false:=by simpa using hx
   rw [show pY p x=false by unfold pY; rw [decide_eq_true hx]; rfl,Ab] at hi;simp only [simprocAttr,-ZA,↓zU,↓zD,zV,zT,zW,hd,xH,hg,ex]
   (repeat refine sd ?_)
   refine⟨k+1,⟨by omega,hi⟩,?_,by omega⟩
   (refine xT.same ?_; simp only [xR,Fr.get,simprocAttr,-ZA,zS])
   exact wrap_i64 (by omega)
  ·have ex:(x >>> p.F.toNat != 0#64)= true:=by simpa using hx
   rw [show pY p x=true by unfold pY; rw [decide_eq_false hx]; rfl,Ac] at hi;rw [show zC p=3 by rw [hf1,if_pos (.inr (.inr (.inr (.inl hi))))]];simp only [simprocAttr,-ZA,↓zU,↓zD,zV,zT,zW,hd,xH,hg,ex]
   (repeat refine sd ?_)
   exact .dv
 have hd:¬ ((k:Int)<(p.init.length:Int)):=by omega
 have b4:p.init.any (pY p)= false:=by rw [hi,γ (by omega)]; rfl
 clear hi;unfold yF.cells;simp only [simprocAttr,-ZA,↓zU,↓zD,zV,zT,zW,hd,xH];clear hk hkl hd
 refine xO (λk:Nat=>[(5,.int .i64 k),(1,.ref 0 5 0 0)]) (λ_=>⟨1,[(0,⟨5,[p.cells]⟩)]⟩)
  (λk=>k<=p.xN.length/\p.xN.any (pY p)= (p.xN.drop k).any (pY p)) (λk=>p.xN.length-k) 0 ⟨ο _,rfl⟩ ?_ ?_
 ·unfold yF.cells; (refine xT.same ?_; simp [xR,Fr.get])
 intro k ⟨hk,hi⟩;refine xL mixed ?_;by_cases hkl:k<p.xN.length
 case pos=>
  have hd:((k:Int)<(p.xN.length:Int)):=by omega
  rw [drop_cons (d:=0) hkl,δ] at hi;have hg:=vL p.xN hkl;generalize p.xN.getD k 0=x at hi hg;unfold yF.cells
  by_cases hx:x >>> p.F.toNat=0#64
  ·have ex:(x >>> p.F.toNat != 0#64)= false:=by simpa using hx
   rw [show pY p x=false by unfold pY; rw [decide_eq_true hx]; rfl,Ab] at hi;simp only [simprocAttr,-ZA,↓zU,↓zD,zV,zT,zW,hd,xH,hg,ex]
   (repeat refine sd ?_)
   refine⟨k+1,⟨by omega,hi⟩,?_,by omega⟩
   (refine xT.same ?_; simp only [xR,Fr.get,simprocAttr,-ZA,zS])
   exact wrap_i64 (by omega)
  ·have ex:(x >>> p.F.toNat != 0#64)= true:=by simpa using hx
   rw [show pY p x=true by unfold pY; rw [decide_eq_false hx]; rfl,Ac] at hi;rw [show zC p=3 by rw [hf1,if_pos (.inr (.inr (.inr (.inr hi))))]];simp only [simprocAttr,-ZA,↓zU,↓zD,zV,zT,zW,hd,xH,hg,ex]
   (repeat refine sd ?_)
   exact .dv
 have hd:¬ ((k:Int)<(p.xN.length:Int)):=by omega
 have b5:p.xN.any (pY p)= false:=by rw [hi,γ (by omega)]; rfl
 clear hi;unfold yF.cells;simp only [simprocAttr,-ZA,↓zU,↓zD,zV,zT,zW,hd,xH];clear hk hkl hd;have hf2:zC p=if lg p.init=false\/p.xM.any (λs=>!dS s)= true then 9 else 0:=by rw [hf1,if_neg (by simp [b1,b2,b3,b4,b5])]
 have hlm:(p.init.map ui).length=p.init.length:=by simp
 have hgm:∀ i,(p.init.map ui).getD i 0=ui (p.init.getD i 0):=λi=>by simp only [List.getD,List.getElem?_map];cases p.init[i]? <;> rfl
 refine xO (λk:Nat=>[(6,.int .i64 ((k+1:Nat):Int)),(1,.ref 0 5 0 0)]) (λ_=>⟨1,[(0,⟨5,[p.cells]⟩)]⟩)
  (λk=>k<=p.init.length/\∀ i,i<k->i+1<p.init.length->(p.init.map ui).getD i 0<(p.init.map ui).getD (i+1) 0) (λk=>p.init.length-k) 0 ⟨ο _,λi hi=>absurd hi (π _)⟩ ?_ ?_
 ·unfold yF.cells; (refine xT.same ?_; simp [xR,Fr.get])
 intro k ⟨hk,hi⟩;refine xL mixed ?_;by_cases hh:k+1<p.init.length
 case pos=>
  have hd:(((k+1:Nat):Int)<(p.init.length:Int)):=by omega
  have hw:IntKind.i64.wrap (((k+1:Nat):Int)-1)= (k:Int):=by rw [wrap_i64 (by omega)]; omega
  have hd2:((k:Int)<(p.init.length:Int)):=by omega
  have g1:=vL p.init (show k<p.init.length by omega);have g2:=vL p.init hh;have q1:=hgm k;have q2:=hgm (k+1);unfold yF.cells
  by_cases hlt:ui (p.init.getD k 0)<ui (p.init.getD (k+1) 0)
  ·have hlt2:¬ ui (p.init.getD (k+1) 0)<=ui (p.init.getD k 0):=by omega
   simp only [simprocAttr,-ZA,↓zU,↓zD,zV,zT,zW,hd,xH,hw,hd2,g1,g2,hlt2]
   (repeat refine sd ?_)
   refine⟨k+1,⟨by omega,λi h1 h2=>?_⟩,?_,by omega⟩
   ·by_cases e:i=k
    ·rw [e,q1,q2]; exact hlt
    ·exact hi i (by omega) h2
   (refine xT.same ?_; simp only [xR,Fr.get,simprocAttr,-ZA,zS])
   exact wrap_i64 (by omega)
  ·have hlt2:ui (p.init.getD (k+1) 0)<=ui (p.init.getD k 0):=by omega
   rw [show zC p=9 by rw [hf2,if_pos (.inl (fV (i:=k) (by omega) (by rw [q1,q2]; exact hlt)))]];simp only [simprocAttr,-ZA,↓zU,↓zD,zV,zT,zW,hd,xH,hw,hd2,g1,g2,hlt2]
   (repeat refine sd ?_)
   exact .dv
 have hd:¬ (((k+1:Nat):Int)<(p.init.length:Int)):=by omega
 have c1:lg p.init=true:=fU λi h=>hi i (by omega) (by omega);clear hi;unfold yF.cells;simp only [simprocAttr,-ZA,↓zU,↓zD,zV,zT,zW,hd,xH];clear hk hh hd
 refine xO (λk:Nat=>[(7,.int .i64 k),(1,.ref 0 5 0 0)]) (λ_=>⟨1,[(0,⟨5,[p.cells]⟩)]⟩)
  (λk=>k<=p.xM.length/\p.xM.any (λs=>!dS s)= (p.xM.drop k).any (λs=>!dS s)) (λk=>p.xM.length-k) 0 ⟨ο _,rfl⟩ ?_ ?_
 ·unfold yF.cells; (refine xT.same ?_; simp [xR,Fr.get])
 intro k ⟨hk,hi⟩;refine xL mixed ?_;by_cases hkl:k<p.xM.length
 case neg=>
  have hd:¬ ((k:Int)<(p.xM.length:Int)):=by omega
  have c2:p.xM.any (λs=>!dS s)= false:=by rw [hi,γ (by omega)]; rfl
  rw [show zC p=0 by rw [hf2,if_neg (by simp [c1,c2])]];unfold yF.cells;simp only [simprocAttr,-ZA,↓zU,↓zD,zV,zT,zW,hd,yE];exact .dv
 have hd:((k:Int)<(p.xM.length:Int)):=by omega
 rw [drop_cons (d:=[]) hkl,δ] at hi;have hg:=iT p.xM hkl;have hs:=sm.mv _ (xK (d:=[]) hkl);generalize p.xM.getD k []=s at hi hg hs;have hls:(s.map (·.fact)).length=s.length:=by simp
 have hgs:∀ i,i<s.length->(s.map (·.fact)).getD i 0=(s.getD i bV).fact:=λi h=>by simp [List.getD,h]
 unfold yF.cells;simp only [simprocAttr,-ZA,↓zU,↓zD,zV,zT,zW,hd,yE]
 refine xO (λj:Nat=>[(8,.int .i64 ((j+1:Nat):Int)),(7,.int .i64 k),(1,.ref 0 5 0 0)]) (λ_=>⟨1,[(0,⟨5,[p.cells]⟩)]⟩)
  (λj=>j<=s.length/\∀ i,i<j->i+1<s.length->(s.map (·.fact)).getD i 0<(s.map (·.fact)).getD (i+1) 0) (λj=>s.length-j) 0 ⟨ο _,λi hi=>absurd hi (π _)⟩ ?_ ?_
 ·unfold yF.cells; (refine xT.same ?_; simp [xR,Fr.get])
 intro j ⟨hj,hi2⟩;refine xL mixed ?_;by_cases hh:j+1<s.length
 case neg=>
  have hd2:¬ (((j+1:Nat):Int)<(s.length:Int)):=by omega
  have c2:dS s=true:=fU λi h=>hi2 i (by omega) (by omega);rw [c2,Bool.not_true,Ab] at hi;unfold yF.cells;simp only [simprocAttr,-ZA,↓zU,↓zD,zV,zT,zW,hd2,hd,yE,hg,vS]
  (repeat refine sd ?_)
  refine⟨k+1,⟨by omega,hi⟩,?_,by omega⟩
  (refine xT.same ?_; simp only [xR,Fr.get,simprocAttr,-ZA,zS])
  exact wrap_i64 (by omega)
 have hd2:(((j+1:Nat):Int)<(s.length:Int)):=by omega
 have hw:IntKind.i64.wrap (((j+1:Nat):Int)-1)= (j:Int):=by rw [wrap_i64 (by omega)]; omega
 have hd3:((j:Int)<(s.length:Int)):=by omega
 have g1:=lM s (show j<s.length by omega);have g2:=lM s hh;have q1:=hgs j (by omega);have q2:=hgs (j+1) hh;unfold gQ.row at g1 g2;unfold yF.cells
 by_cases hlt:(s.getD j bV).fact<(s.getD (j+1) bV).fact
 ·have hlt2:¬ (s.getD (j+1) bV).fact<=(s.getD j bV).fact:=by omega
  simp only [simprocAttr,-ZA,↓zU,↓zD,zV,zT,zW,hd2,hd,yE,hg,vS,hw,hd3,g1,g2,hlt2]
  (repeat refine sd ?_)
  refine⟨j+1,⟨by omega,λi h1 h2=>?_⟩,?_,by omega⟩
  ·by_cases e:i=j
   ·rw [e,q1,q2]; exact hlt
   ·exact hi2 i (by omega) h2
  (refine xT.same ?_; simp only [xR,Fr.get,simprocAttr,-ZA,zS])
  exact wrap_i64 (by omega)
 ·have hlt2:(s.getD (j+1) bV).fact<=(s.getD j bV).fact:=by omega
  have c2:dS s=false:=fV (i:=j) (by omega) (by rw [q1,q2]; exact hlt);rw [show zC p=9 by rw [hf2,if_pos (.inr (by rw [hi,c2]; rfl))]];simp only [simprocAttr,-ZA,↓zU,↓zD,zV,zT,zW,hd2,hd,yE,hg,vS,hw,hd3,g1,g2,hlt2]
  (repeat refine sd ?_)
  exact .dv
theorem z6 (p:yF) (f:List Nd) (fr:Int):yW prog 67 [p.d,.sl 6 (zG f),.int .i64 fr] (.int .i64 (ze p f fr)):=by
 have h1:=af f;have h2:=ZX f;have h3:=Uh f p.xN.length p.F;unfold yF.d yF.cells ze;refine xY.xQ mixed func67 FA (by simp) λhf=>?_;simp only [simprocAttr,-ZA,↓zU,↓zD,zV,zT,zW]
 (repeat refine sd ?_)
 refine .go (cr h1) ?_;by_cases e1:yZ f=0
 case neg=>
  have e1':(yZ f != 0)= true:=by simpa using e1
  simp only [simprocAttr,-ZA,↓zU,↓zD,zV,zT,zW,e1',e1];exact .dv
 have e1':(yZ f != 0)= false:=by simpa using e1
 simp only [simprocAttr,-ZA,↓zU,↓zD,zV,zT,zW,e1',e1];refine .go (cr h2) ?_;cases e2:tS .andNot .i64 (zH f) fr != 0
 case true=> simp only [simprocAttr,-ZA,↓zU,↓zD,zV,zT,zW,e2];exact .dv
 simp only [simprocAttr,-ZA,↓zU,↓zD,zV,zT,zW,e2]
 (repeat refine sd ?_)
 refine .go (cr h3) ?_
 cases e3:tU f p.xN.length p.F
 ·simp only [simprocAttr,-ZA,↓zU,↓zD,zV,zT,zW];exact .dv
 ·simp only [simprocAttr,-ZA,↓zU,↓zD,zV,zT,zW];exact .dv
theorem ZW (p:yF) (sm:gG p):yW prog 18 [p.d] (.int .i64 (uD p)):=by
 have hS:=Lb p sm;have hF:=λf fr=>z6 p f fr;have hD:p.d = .agg [.int .i64 p.F,.sl 1 (us p.init),.sl 1 (us p.xN),.sl 1 (qY p.xM),.sl 1 (qZ p.code)]:=rfl;rw [hD] at *;refine xY.xQ mixed func18 Ek (by simp) λhf=>?_;simp only [simprocAttr,-ZA,↓zU,↓zD,zV,zT,zW]
 (repeat refine sd ?_)
 refine .go (cr hS) ?_;by_cases s0:zC p=0
 case neg=>
  have s0':(zC p != 0)= true:=by simpa using s0
  rw [show uD p=zC p by unfold uD; rw [if_pos s0]];simp only [simprocAttr,-ZA,↓zU,↓zD,zV,zT,zW,s0'];exact .dv
 have s0':(zC p != 0)= false:=by simpa using s0
 have hch:uD p=if wX (wX (nV p)) p.xM≠0 then wX (wX (nV p)) p.xM else wX (wX (lE p)) p.code:=by unfold uD; rw [s0,if_neg (by simp)]
 have hsm:p.xM.length<=8/\∀ s ∈ p.code,s.length<=6:=by
  unfold zC at s0
  split at s0
  ·cases s0
  ·split at s0
   ·cases s0
   ·rename_i h;simp only [not_or] at h;refine⟨by omega,λs hs=>?_⟩;have:=η.1 (Bool.eq_false_iff.2 h.2.2.2) s hs;simpa using this
 simp only [simprocAttr,-ZA,↓zU,↓zD,zV,zT,zW,s0']
 refine xO (λk:Nat=>[(4,.int .i64 k),(1,.ref 0 5 0 0)]) (λ_=>⟨1,[(0,⟨5,[p.cells]⟩)]⟩)
  (λk=>k<=p.xM.length/\wX (wX (nV p)) p.xM=wX (wX (nV p)) (p.xM.drop k)) (λk=>p.xM.length-k) 0 ⟨ο _,rfl⟩ ?_ ?_
 ·unfold yF.cells; (refine xT.same ?_; simp [xR,Fr.get])
 intro k ⟨hk,hi⟩;refine xL mixed ?_;by_cases hkl:k<p.xM.length
 case pos=>
  have hd:((k:Int)<(p.xM.length:Int)):=by omega
  rw [qJ (d:=[]) _ hkl] at hi;have hg:=iT p.xM hkl;have hs:=sm.mv _ (xK (d:=[]) hkl);generalize p.xM.getD k []=s at hi hg hs;unfold yF.cells;simp only [simprocAttr,-ZA,↓zU,↓zD,zV,zT,zW,hd,yE]
  refine xO (λj:Nat=>[(5,.int .i64 j),(4,.int .i64 k),(1,.ref 0 5 0 0)]) (λ_=>⟨1,[(0,⟨5,[p.cells]⟩)]⟩)
   (λj=>j<=s.length/\wX (nV p) s=wX (nV p) (s.drop j)) (λj=>s.length-j) 0 ⟨ο _,rfl⟩ ?_ ?_
  ·unfold yF.cells; (refine xT.same ?_; simp [xR,Fr.get])
  intro j ⟨hj,hi2⟩;refine xL mixed ?_;by_cases hjl:j<s.length
  case neg=>
   have hd2:¬ ((j:Int)<(s.length:Int)):=by omega
   have h0:wX (nV p) s=0:=by rw [hi2,γ (by omega)]; rfl
   rw [h0,if_neg (by simp)] at hi;unfold yF.cells;simp only [simprocAttr,-ZA,↓zU,↓zD,zV,zT,zW,hd2,hd,yE,hg,vS]
   (repeat refine sd ?_)
   refine⟨k+1,⟨by omega,hi⟩,?_,by omega⟩
   (refine xT.same ?_; simp only [xR,Fr.get,simprocAttr,-ZA,zS])
   exact wrap_i64 (by omega)
  have hd2:((j:Int)<(s.length:Int)):=by omega
  rw [qJ (d:=bV) _ hjl] at hi2;have hg2:=lM s hjl;unfold gQ.row at hg2;generalize s.getD j bV=a at hi2 hg2;have hend:nV p a≠0->uD p=nV p a:=λh=>by rw [hch,hi,hi2,if_pos h,if_pos h,if_pos h]
  unfold yF.cells;have hFa:=hF a.to 0
  by_cases c1:a.fact<0
  ·have e:nV p a=2:=by unfold nV; rw [if_pos (.inl c1)]
   rw [hend (by rw [e]; decide),e];simp only [simprocAttr,-ZA,↓zU,↓zD,zV,zT,zW,hd2,hd,yE,hg,vS,hg2,c1]
   (repeat refine sd ?_)
   exact .dv
  by_cases c2:p.F<=a.fact
  ·have e:nV p a=2:=by unfold nV; rw [if_pos (.inr c2)]
   rw [hend (by rw [e]; decide),e];simp only [simprocAttr,-ZA,↓zU,↓zD,zV,zT,zW,hd2,hd,yE,hg,vS,hg2,c1,c2]
   (repeat refine sd ?_)
   exact .dv
  have e:nV p a=ze p a.to 0:=by unfold nV; rw [if_neg (by omega)]
  rw [<- e] at hFa;simp only [simprocAttr,-ZA,↓zU,↓zD,zV,zT,zW,hd2,hd,yE,hg,vS,hg2,c1,c2]
  (repeat refine sd ?_)
  refine .go (cr hFa) ?_
  by_cases c3:nV p a=0
  ·have c3':(nV p a != 0)= false:=by simpa using c3
   rw [c3,if_neg (by simp)] at hi2;simp only [simprocAttr,-ZA,↓zU,↓zD,zV,zT,zW,c3'];refine⟨j+1,⟨by omega,hi2⟩,?_,by omega⟩
   (refine xT.sZ [] [0] (by simp) (by simp) (by decide) ?_; simp only [yT,zQ,simprocAttr,-ZA,exists_eq_left',ne_eq,zR])
   exact wrap_i64 (by omega)
  ·have c3':(nV p a != 0)= true:=by simpa using c3
   rw [hend c3];simp only [simprocAttr,-ZA,↓zU,↓zD,zV,zT,zW,c3'];exact .dv
 have hd:¬ ((k:Int)<(p.xM.length:Int)):=by omega
 have d1:wX (wX (nV p)) p.xM=0:=by rw [hi,γ (by omega)]; rfl
 rw [hch,d1,if_neg (by simp)];unfold yF.cells;simp only [simprocAttr,-ZA,↓zU,↓zD,zV,zT,zW,hd,yE];clear hk hkl hd hi
 refine xO (λk:Nat=>[(7,.int .i64 k),(1,.ref 0 5 0 0)]) (λ_=>⟨1,[(0,⟨5,[p.cells]⟩)]⟩)
  (λk=>k<=p.code.length/\wX (wX (lE p)) p.code=wX (wX (lE p)) (p.code.drop k)) (λk=>p.code.length-k) 0 ⟨ο _,rfl⟩ ?_ ?_
 ·unfold yF.cells; (refine xT.same ?_; simp [xR,Fr.get])
 have hcl:=sm.code;intro k ⟨hk,hi⟩;refine xL mixed ?_;by_cases hkl:k<p.code.length
 case neg=>
  have hd:¬ ((k:Int)<(p.code.length:Int)):=by omega
  rw [hi,γ (by omega)];unfold yF.cells;simp only [simprocAttr,-ZA,↓zU,↓zD,zV,zT,zW,hd,zN];exact .drop (by simp) (by simp [vw,wX])
 have hd:((k:Int)<(p.code.length:Int)):=by omega
 rw [qJ (d:=[]) _ hkl] at hi;have hg:=lN p.code hkl;have hs:=hsm.2 _ (xK (d:=[]) hkl);generalize p.code.getD k []=s at hi hg hs;unfold yF.cells;simp only [simprocAttr,-ZA,↓zU,↓zD,zV,zT,zW,hd,zN]
 refine xO (λj:Nat=>[(8,.int .i64 j),(7,.int .i64 k),(1,.ref 0 5 0 0)]) (λ_=>⟨1,[(0,⟨5,[p.cells]⟩)]⟩)
  (λj=>j<=s.length/\wX (lE p) s=wX (lE p) (s.drop j)) (λj=>s.length-j) 0 ⟨ο _,rfl⟩ ?_ ?_
 ·unfold yF.cells; (refine xT.same ?_; simp [xR,Fr.get])
 intro j ⟨hj,hi2⟩;refine xL mixed ?_;by_cases hjl:j<s.length
 case neg=>
  have hd2:¬ ((j:Int)<(s.length:Int)):=by omega
  have h0:wX (lE p) s=0:=by rw [hi2,γ (by omega)]; rfl
  rw [h0,if_neg (by simp)] at hi;unfold yF.cells;simp only [simprocAttr,-ZA,↓zU,↓zD,zV,zT,zW,hd2,hd,zN,hg,wG]
  (repeat refine sd ?_)
  refine⟨k+1,⟨by omega,hi⟩,?_,by omega⟩
  (refine xT.same ?_; simp only [xR,Fr.get,simprocAttr,-ZA,zS])
  exact wrap_i64 (by omega)
 have hd2:((j:Int)<(s.length:Int)):=by omega
 rw [qJ (d:=vf) _ hjl] at hi2;have hg2:=eV s hjl;unfold eC.row at hg2;generalize s.getD j vf=c at hi2 hg2;have hend:lE p c≠0->wX (wX (lE p)) p.code=lE p c:=λh=>by rw [hi,hi2,if_pos h,if_pos h]
 unfold yF.cells;simp only [simprocAttr,-ZA,↓zU,↓zD,zV,zT,zW,hd2,hd,zN,hg,wG,hg2]
 (repeat refine sd ?_)
 refine .go (cr (hF c.test 15)) ?_;by_cases e1:ze p c.test 15=0
 case neg=>
  have e1':(ze p c.test 15 != 0)= true:=by simpa using e1
  have e:lE p c=ze p c.test 15:=by unfold lE; rw [if_pos e1]
  rw [hend (by rw [e]; exact e1),e];simp only [simprocAttr,-ZA,↓zU,↓zD,zV,zT,zW,e1'];exact .dv
 have e1':(ze p c.test 15 != 0)= false:=by simpa using e1
 by_cases e2:c.mv < -1
 ·have e:lE p c=2:=by unfold lE; rw [e1,if_neg (by simp),if_pos (.inl e2)]
  rw [hend (by rw [e]; decide),e];simp only [simprocAttr,-ZA,↓zU,↓zD,zV,zT,zW,e1',hd,zN,hg,hd2,wG,hg2,e2]
  (repeat refine sd ?_)
  exact .dv
 by_cases e3:(p.xM.length:Int)<=c.mv
 ·have e:lE p c=2:=by unfold lE; rw [e1,if_neg (by simp),if_pos (.inr e3)]
  rw [hend (by rw [e]; decide),e];simp only [simprocAttr,-ZA,↓zU,↓zD,zV,zT,zW,e1',hd,zN,hg,hd2,wG,hg2,e2,yE,e3]
  (repeat refine sd ?_)
  exact .dv
 have e:lE p c=0:=by unfold lE; rw [e1,if_neg (by simp),if_neg (by omega)]
 rw [e,if_neg (by simp)] at hi2;simp only [simprocAttr,-ZA,↓zU,↓zD,zV,zT,zW,e1',hd,zN,hg,hd2,wG,hg2,e2,yE,e3]
 (repeat refine sd ?_)
 refine⟨j+1,⟨by omega,hi2⟩,?_,by omega⟩
 (refine xT.same ?_; simp only [xR,Fr.get,simprocAttr,-ZA,zS])
 exact wrap_i64 (by omega)
open Rs Fm Ru Kb
namespace Kb
structure VU where
 ag:Int
 seen:List (BitVec 64)
 mv:Int
def JZ : VU:=⟨0,[],0⟩
def VU.row (c:VU):List D:=[.int .i64 c.ag,.sl 1 (us c.seen),.int .i64 c.mv]
def TS (l:List VU):List (List D):=l.map VU.row
theorem aS (l:List VU):(TS l).length=l.length:=by simp [TS]
theorem NX (l:List VU) {i:Nat} (h:i<l.length):(TS l).getD i []=(l.getD i JZ).row:=by simp [TS,List.getD,h]
def de (s:List gQ):Bool:=decide (12<s.length) || s.any λa=>decide (40<a.to.length)
def cz (s:List eC):Bool:=decide (8<s.length) || s.any λc=>decide (40<c.test.length)
def nA (p:yF) (l:List VU):Bool:=
 decide (p.init.length<=20)&& decide (p.xM.length<=12)&& decide (p.code.length<=8)&& decide (p.xN.length<=8)&& decide (l.length<=100)&&
 !p.xM.any de&&!p.code.any cz&&!l.any λc=>decide (12<c.seen.length)
end Kb
theorem U6 {p:yF} {l:List VU} (h:nA p l=true):gG p:=by unfold nA at h;simp only [Bool.and_eq_true,decide_eq_true_eq,Bool.not_eq_true'] at h;refine⟨by omega,by omega,λs hs=>?_⟩;have:=η.1 h.1.1.2 s hs;unfold de at this;simp only [Bool.or_eq_true,decide_eq_true_eq,not_or] at this;omega
theorem Ja (p:yF) (l:List VU):yW prog 16 [p.d,.sl 3 (TS l)] (.bool (nA p l)):=by
 have hD:p.d = .agg [.int .i64 p.F,.sl 1 (us p.init),.sl 1 (us p.xN),.sl 1 (qY p.xM),.sl 1 (qZ p.code)]:=rfl;rw [hD];refine xY.xQ mixed func16 Ei (by simp) λhf=>?_
 by_cases a1:20<p.init.length
 ·have a1':(20:Int)<(p.init.length:Int):=by omega
  rw [show nA p l=false by unfold nA; rw [decide_eq_false (show ¬ p.init.length<=20 by omega)]; simp];simp only [simprocAttr,-ZA,↓zU,↓zD,zV,zT,zW,xH,a1'];exact .dv
 have a1':¬ (20:Int)<(p.init.length:Int):=by omega
 by_cases a2:12<p.xM.length
 ·have a2':(12:Int)<(p.xM.length:Int):=by omega
  rw [show nA p l=false by unfold nA; rw [decide_eq_false (show ¬ p.xM.length<=12 by omega)]; simp];simp only [simprocAttr,-ZA,↓zU,↓zD,zV,zT,zW,xH,yE,a1',a2'];exact .dv
 have a2':¬ (12:Int)<(p.xM.length:Int):=by omega
 by_cases a3:8<p.code.length
 ·have a3':(8:Int)<(p.code.length:Int):=by omega
  rw [show nA p l=false by unfold nA; rw [decide_eq_false (show ¬ p.code.length<=8 by omega)]; simp];simp only [simprocAttr,-ZA,↓zU,↓zD,zV,zT,zW,xH,yE,zN,a1',a2',a3'];exact .dv
 have a3':¬ (8:Int)<(p.code.length:Int):=by omega
 by_cases a4:8<p.xN.length
 ·have a4':(8:Int)<(p.xN.length:Int):=by omega
  rw [show nA p l=false by unfold nA; rw [decide_eq_false (show ¬ p.xN.length<=8 by omega)]; simp];simp only [simprocAttr,-ZA,↓zU,↓zD,zV,zT,zW,xH,yE,zN,a1',a2',a3',a4'];exact .dv
 have a4':¬ (8:Int)<(p.xN.length:Int):=by omega
 by_cases a5:100<l.length
 ·have a5':(100:Int)<(l.length:Int):=by omega
  rw [show nA p l=false by unfold nA; rw [decide_eq_false (show ¬ l.length<=100 by omega)]; simp];simp only [simprocAttr,-ZA,↓zU,↓zD,zV,zT,zW,xH,yE,zN,aS,a1',a2',a3',a4',a5'];exact .dv
 have a5':¬ (100:Int)<(l.length:Int):=by omega
 have hfe:nA p l=(!p.xM.any de&&!p.code.any cz&&!l.any λc=>decide (12<c.seen.length)):=by unfold nA;rw [decide_eq_true (show p.init.length<=20 by omega),decide_eq_true (show p.xM.length<=12 by omega),decide_eq_true (show p.code.length<=8 by omega),decide_eq_true (show p.xN.length<=8 by omega),decide_eq_true (show l.length<=100 by omega)];rfl
 simp only [simprocAttr,-ZA,↓zU,↓zD,zV,zT,zW,xH,yE,zN,aS,a1',a2',a3',a4',a5']
 refine xO (λk:Nat=>[(5,.int .i64 k),(2,.ref 0 5 0 0),(1,.sl 3 (TS l))]) (λ_=>⟨1,[(0,⟨5,[p.cells]⟩)]⟩)
  (λk=>k<=p.xM.length/\p.xM.any de=(p.xM.drop k).any de) (λk=>p.xM.length-k) 0 ⟨ο _,rfl⟩ ?_ ?_
 ·unfold yF.cells; (refine xT.same ?_; simp [xR,Fr.get])
 intro k ⟨hk,hi⟩;refine xL mixed ?_;by_cases hkl:k<p.xM.length
 case pos=>
  have hd:((k:Int)<(p.xM.length:Int)):=by omega
  rw [drop_cons (d:=[]) hkl,δ] at hi;have hg:=iT p.xM hkl;generalize p.xM.getD k []=s at hi hg;have hend:de s=true->nA p l=false:=λh=>by rw [hfe,hi,h]; rfl
  unfold yF.cells
  by_cases c1:12<s.length
  ·have c1':(12:Int)<(s.length:Int):=by omega
   rw [hend (by unfold de; rw [decide_eq_true c1,Ac])];simp only [simprocAttr,-ZA,↓zU,↓zD,zV,zT,zW,hd,yE,hg,vS,c1']
   (repeat refine sd ?_)
   exact .dv
  have c1':¬ (12:Int)<(s.length:Int):=by omega
  have hb:de s=s.any λa=>decide (40<a.to.length):=by unfold de; rw [decide_eq_false c1,Ab]
  simp only [simprocAttr,-ZA,↓zU,↓zD,zV,zT,zW,hd,yE,hg,vS,c1']
  (repeat refine sd ?_)
  refine xO (λj:Nat=>[(6,.int .i64 j),(5,.int .i64 k),(2,.ref 0 5 0 0),(1,.sl 3 (TS l))]) (λ_=>⟨1,[(0,⟨5,[p.cells]⟩)]⟩)
   (λj=>j<=s.length/\(s.any λa=>decide (40<a.to.length))= (s.drop j).any λa=>decide (40<a.to.length)) (λj=>s.length-j) 0 ⟨ο _,rfl⟩ ?_ ?_
  ·unfold yF.cells; (refine xT.same ?_; simp [xR,Fr.get])
  intro j ⟨hj,hi2⟩;refine xL mixed ?_;by_cases hjl:j<s.length
  case neg=>
   have hd2:¬ ((j:Int)<(s.length:Int)):=by omega
   rw [γ (by omega),ζ] at hi2;rw [hb,hi2,Ab] at hi;unfold yF.cells;simp only [simprocAttr,-ZA,↓zU,↓zD,zV,zT,zW,hd2,hd,yE,hg,vS]
   (repeat refine sd ?_)
   refine⟨k+1,⟨by omega,hi⟩,?_,by omega⟩
   (refine xT.same ?_; simp only [xR,Fr.get,simprocAttr,-ZA,zS])
   exact wrap_i64 (by omega)
  have hd2:((j:Int)<(s.length:Int)):=by omega
  rw [drop_cons (d:=bV) hjl,δ] at hi2;have hg2:=lM s hjl;unfold gQ.row at hg2;generalize s.getD j bV=a at hi2 hg2;unfold yF.cells
  by_cases c2:40<a.to.length
  ·have c2':(40:Int)<(a.to.length:Int):=by omega
   rw [hend (by rw [hb,hi2,decide_eq_true c2,Ac])];simp only [simprocAttr,-ZA,↓zU,↓zD,zV,zT,zW,hd2,hd,yE,hg,vS,hg2,xI,c2']
   (repeat refine sd ?_)
   exact .dv
  have c2':¬ (40:Int)<(a.to.length:Int):=by omega
  rw [decide_eq_false c2,Ab] at hi2;simp only [simprocAttr,-ZA,↓zU,↓zD,zV,zT,zW,hd2,hd,yE,hg,vS,hg2,xI,c2']
  (repeat refine sd ?_)
  refine⟨j+1,⟨by omega,hi2⟩,?_,by omega⟩
  (refine xT.same ?_; simp only [xR,Fr.get,simprocAttr,-ZA,zS])
  exact wrap_i64 (by omega)
 have hd:¬ ((k:Int)<(p.xM.length:Int)):=by omega
 rw [γ (by omega),ζ] at hi;rw [hi] at hfe;clear hk hkl hi;unfold yF.cells;simp only [simprocAttr,-ZA,↓zU,↓zD,zV,zT,zW,hd,yE];clear hd
 refine xO (λk:Nat=>[(7,.int .i64 k),(2,.ref 0 5 0 0),(1,.sl 3 (TS l))]) (λ_=>⟨1,[(0,⟨5,[p.cells]⟩)]⟩)
  (λk=>k<=p.code.length/\p.code.any cz=(p.code.drop k).any cz) (λk=>p.code.length-k) 0 ⟨ο _,rfl⟩ ?_ ?_
 ·unfold yF.cells; (refine xT.same ?_; simp [xR,Fr.get])
 intro k ⟨hk,hi⟩;refine xL mixed ?_;by_cases hkl:k<p.code.length
 case pos=>
  have hd:((k:Int)<(p.code.length:Int)):=by omega
  rw [drop_cons (d:=[]) hkl,δ] at hi;have hg:=lN p.code hkl;generalize p.code.getD k []=s at hi hg;have hend:cz s=true->nA p l=false:=λh=>by rw [hfe,hi,h]; rfl
  unfold yF.cells
  by_cases c1:8<s.length
  ·have c1':(8:Int)<(s.length:Int):=by omega
   rw [hend (by unfold cz; rw [decide_eq_true c1,Ac])];simp only [simprocAttr,-ZA,↓zU,↓zD,zV,zT,zW,hd,zN,hg,wG,c1']
   (repeat refine sd ?_)
   exact .dv
  have c1':¬ (8:Int)<(s.length:Int):=by omega
  have hb:cz s=s.any λa=>decide (40<a.test.length):=by unfold cz; rw [decide_eq_false c1,Ab]
  simp only [simprocAttr,-ZA,↓zU,↓zD,zV,zT,zW,hd,zN,hg,wG,c1']
  (repeat refine sd ?_)
  refine xO (λj:Nat=>[(8,.int .i64 j),(7,.int .i64 k),(2,.ref 0 5 0 0),(1,.sl 3 (TS l))]) (λ_=>⟨1,[(0,⟨5,[p.cells]⟩)]⟩)
   (λj=>j<=s.length/\(s.any λa=>decide (40<a.test.length))= (s.drop j).any λa=>decide (40<a.test.length)) (λj=>s.length-j) 0 ⟨ο _,rfl⟩ ?_ ?_
  ·unfold yF.cells; (refine xT.same ?_; simp [xR,Fr.get])
  intro j ⟨hj,hi2⟩;refine xL mixed ?_;by_cases hjl:j<s.length
  case neg=>
   have hd2:¬ ((j:Int)<(s.length:Int)):=by omega
   rw [γ (by omega),ζ] at hi2;rw [hb,hi2,Ab] at hi;unfold yF.cells;simp only [simprocAttr,-ZA,↓zU,↓zD,zV,zT,zW,hd2,hd,zN,hg,wG]
   (repeat refine sd ?_)
   refine⟨k+1,⟨by omega,hi⟩,?_,by omega⟩
   (refine xT.same ?_; simp only [xR,Fr.get,simprocAttr,-ZA,zS])
   exact wrap_i64 (by omega)
  have hd2:((j:Int)<(s.length:Int)):=by omega
  rw [drop_cons (d:=vf) hjl,δ] at hi2;have hg2:=eV s hjl;unfold eC.row at hg2;generalize s.getD j vf=a at hi2 hg2;unfold yF.cells
  by_cases c2:40<a.test.length
  ·have c2':(40:Int)<(a.test.length:Int):=by omega
   rw [hend (by rw [hb,hi2,decide_eq_true c2,Ac])];simp only [simprocAttr,-ZA,↓zU,↓zD,zV,zT,zW,hd2,hd,zN,hg,wG,hg2,xI,c2']
   (repeat refine sd ?_)
   exact .dv
  have c2':¬ (40:Int)<(a.test.length:Int):=by omega
  rw [decide_eq_false c2,Ab] at hi2;simp only [simprocAttr,-ZA,↓zU,↓zD,zV,zT,zW,hd2,hd,zN,hg,wG,hg2,xI,c2']
  (repeat refine sd ?_)
  refine⟨j+1,⟨by omega,hi2⟩,?_,by omega⟩
  (refine xT.same ?_; simp only [xR,Fr.get,simprocAttr,-ZA,zS])
  exact wrap_i64 (by omega)
 have hd:¬ ((k:Int)<(p.code.length:Int)):=by omega
 rw [γ (by omega),ζ] at hi;rw [hi] at hfe;clear hk hkl hi;unfold yF.cells;simp only [simprocAttr,-ZA,↓zU,↓zD,zV,zT,zW,hd,zN];clear hd
 refine xO (λk:Nat=>[(9,.int .i64 k),(1,.sl 3 (TS l))]) (λ_=>⟨1,[(0,⟨5,[p.cells]⟩)]⟩)
  (λk=>k<=l.length/\(l.any λc=>decide (12<c.seen.length))= (l.drop k).any λc=>decide (12<c.seen.length)) (λk=>l.length-k) 0 ⟨ο _,rfl⟩ ?_ ?_
 ·unfold yF.cells; (refine xT.same ?_; simp [xR,Fr.get])
 intro k ⟨hk,hi⟩;refine xL mixed ?_;by_cases hkl:k<l.length
 case pos=>
  have hd:((k:Int)<(l.length:Int)):=by omega
  rw [drop_cons (d:=JZ) hkl,δ] at hi;have hg:=NX l hkl;unfold VU.row at hg;generalize l.getD k JZ=s at hi hg;unfold yF.cells
  by_cases c1:12<s.seen.length
  ·have c1':(12:Int)<(s.seen.length:Int):=by omega
   rw [show nA p l=false by rw [hfe,hi,decide_eq_true c1]; rfl];simp only [simprocAttr,-ZA,↓zU,↓zD,zV,zT,zW,hd,aS,hg,xH,c1']
   (repeat refine sd ?_)
   exact .dv
  have c1':¬ (12:Int)<(s.seen.length:Int):=by omega
  rw [decide_eq_false c1,Ab] at hi;simp only [simprocAttr,-ZA,↓zU,↓zD,zV,zT,zW,hd,aS,hg,xH,c1']
  (repeat refine sd ?_)
  refine⟨k+1,⟨by omega,hi⟩,?_,by omega⟩
  (refine xT.same ?_; simp only [xR,Fr.get,simprocAttr,-ZA,zS])
  exact wrap_i64 (by omega)
 have hd:¬ ((k:Int)<(l.length:Int)):=by omega
 rw [γ (by omega),ζ] at hi;rw [hfe,hi];unfold yF.cells;simp only [simprocAttr,-ZA,↓zU,↓zD,zV,zT,zW,hd,aS];exact .dv
end Go.Pd
