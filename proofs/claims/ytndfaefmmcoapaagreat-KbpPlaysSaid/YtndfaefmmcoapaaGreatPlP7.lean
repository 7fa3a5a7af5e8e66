/- Part P7. -/
import Derived.Test.YtndfaefmmcoapaaGreatPlF16
import Derived.Test.YtndfaefmmcoapaaGreatPlX9
set_option linter.unusedSectionVars false
set_option linter.unusedVariables false
set_option linter.unusedSimpArgs false
set_option linter.defProp false
set_option maxRecDepth 20000
set_option maxHeartbeats 1000000
open Go.Proofs.Tryz
open List renaming mem_range->γ,getD_cons_succ->δ,length_append->ε,mem_of_mem_take->ζ,all_eq_false->η
open Nat renaming zero_le->θ,pow_lt_pow_right->κ,testBit_lt_two_pow->μ,pow_le_pow_right->ν,lt_of_lt_of_le->ξ,or_lt_two_pow->ο
open Int renaming toNat_natCast->π,toNat_of_nonneg->τ,eq_ofNat_of_zero_le->υ
open Bool renaming true_and->χ
namespace Go.Pd
open Go Go.Proofs
open Rs Fm
namespace Fm
inductive Tr where
 | nil
 | nd (op i e g:Int) (x y:Tr)
def rf (f:List Nd):Nat->Nat->Tr
 | 0,_=>.nil
 | n+1,i=>.nd (f.getD i vW).op (f.getD i vW).i (f.getD i vW).e (f.getD i vW).g (if (xY (f.getD i vW).op).1.x=true then rf f n (f.getD i vW).x.toNat else .nil) (if (xY (f.getD i vW).op).1.y=true then rf f n (f.getD i vW).y.toNat else .nil)
def tree (f:List Nd) (i:Nat):Tr:=rf f (i+1) i
def Lj : Tr->Prop
 | .nil=>False
 | .nd op i e g x y=>zK ⟨op,i,e,g,0,0⟩ 1=0/\(if (xY op).1.x=true then Lj x else x = .nil)/\ (if (xY op).1.y=true then Lj y else y = .nil)
def sK : Tr->List Nd->Int × List Nd
 | .nil,out=>(0,out)
 | .nd op i e g x y,out=>
  let a:=if (xY op).1.x=true then sK x out else(0,out)
  let b:=if (xY op).1.y=true then sK y a.2 else(0,a.2)
  match rF ⟨op,i,e,g,a.1,b.1⟩ b.2 0 with
  | some k=>((k:Int),b.2)
  | none=>((b.2.length:Int),b.2 ++ [⟨op,i,e,g,a.1,b.1⟩])
def canon (t:Tr):List Nd:=(sK t []).2
theorem tO {p:Nd} {k:Nat} (h:zK p k=0):((xY p.op).1.x=true->0<=p.x/\p.x.toNat<k)/\ ((xY p.op).1.y=true->0<=p.y/\p.y.toNat<k)/\ ((xY p.op).1.x=false->p.x=0)/\ ((xY p.op).1.y=false->p.y=0):=by
 obtain⟨h1,h2⟩:=nH h;rw [vU] at h;obtain⟨_,h3,h4,_⟩:=h
 refine⟨λhx=>?_,λhy=>?_,λhx=>?_,λhy=>?_⟩
 ·have:=h1 hx; omega
 ·have:=h2 hy; omega
 ·rw [hx] at h3; simpa [yQ] using h3
 ·rw [hy] at h4; simpa [yQ] using h4
theorem gZ {f:List Nd} (hv:vR f):∀ (n m i:Nat),i<n->i<m->i<f.length->rf f n i=rf f m i
 | 0,_,_,h,_,_=>by omega
 | _+1,0,_,_,h,_=>by omega
 | n+1,m+1,i,h1,h2,hi=>by
  obtain⟨ox,oy,_,_⟩:=tO (hv i hi);unfold rf
  congr 1
  ·by_cases hx:(xY (f.getD i vW).op).1.x=true
   ·rw [if_pos hx,if_pos hx];exact gZ hv n m _ (by have:=ox hx; omega) (by have:=ox hx; omega) (by have:=ox hx; omega)
   ·rw [if_neg hx,if_neg hx]
  ·by_cases hy:(xY (f.getD i vW).op).1.y=true
   ·rw [if_pos hy,if_pos hy];exact gZ hv n m _ (by have:=oy hy; omega) (by have:=oy hy; omega) (by have:=oy hy; omega)
   ·rw [if_neg hy,if_neg hy]
theorem sH {f:List Nd} (hv:vR f) {i:Nat} (hi:i<f.length):tree f i = .nd (f.getD i vW).op (f.getD i vW).i (f.getD i vW).e (f.getD i vW).g (if (xY (f.getD i vW).op).1.x=true then tree f (f.getD i vW).x.toNat else .nil) (if (xY (f.getD i vW).op).1.y=true then tree f (f.getD i vW).y.toNat else .nil):=by
 obtain⟨ox,oy,_,_⟩:=tO (hv i hi);unfold tree;rw [rf]
 congr 1
 ·by_cases hx:(xY (f.getD i vW).op).1.x=true
  ·rw [if_pos hx,if_pos hx];exact gZ hv _ _ _ (by have:=ox hx; omega) (by omega) (by have:=ox hx; omega)
  ·rw [if_neg hx,if_neg hx]
 ·by_cases hy:(xY (f.getD i vW).op).1.y=true
  ·rw [if_pos hy,if_pos hy];exact gZ hv _ _ _ (by have:=oy hy; omega) (by omega) (by have:=oy hy; omega)
  ·rw [if_neg hy,if_neg hy]
theorem Yj {l r:List Nd} {k:Nat} (h:k<l.length):(l++r).getD k vW=l.getD k vW:=by simp only [List.getD,List.getElem?_append_left h]
theorem vh {l r:List Nd} (h:vR (l++r)):vR l:=λk hk=>by
 have:=h k (by simp; omega)
 rwa [Yj hk] at this
theorem xh {l r:List Nd} (hv:vR (l++r)):∀ (k:Nat),k<l.length->tree (l++r) k=tree l k:=by
 intro k
 induction k using Nat.strongRecOn with
 | _ k ih=>
  intro hk;obtain⟨ox,oy,_,_⟩:=tO (vh hv k hk);rw [sH hv (by simp; omega),sH (vh hv) hk,Yj hk]
  congr 1
  ·by_cases hx:(xY (l.getD k vW).op).1.x=true
   ·rw [if_pos hx,if_pos hx];exact ih _ (by have:=ox hx; omega) (by have:=ox hx; omega)
   ·rw [if_neg hx,if_neg hx]
  ·by_cases hy:(xY (l.getD k vW).op).1.y=true
   ·rw [if_pos hy,if_pos hy];exact ih _ (by have:=oy hy; omega) (by have:=oy hy; omega)
   ·rw [if_neg hy,if_neg hy]
theorem xy {f:List Nd} (hv:vR f):∀ (i:Nat),i<f.length->Lj (tree f i):=by
 intro i
 induction i using Nat.strongRecOn with
 | _ i ih=>
  intro hi;obtain⟨ox,oy,zx,zy⟩:=tO (hv i hi);rw [sH hv hi]
  refine⟨cR (hv i hi) ?_ ?_,?_,?_⟩
  ·split
   ·omega
   ·rename_i h; exact(zx (by simpa using h)).symm
  ·split
   ·omega
   ·rename_i h; exact(zy (by simpa using h)).symm
  ·by_cases hx:(xY (f.getD i vW).op).1.x=true
   ·rw [if_pos hx,if_pos hx];exact ih _ (by have:=ox hx; omega) (by have:=ox hx; omega)
   ·rw [if_neg hx,if_neg hx]
  ·by_cases hy:(xY (f.getD i vW).op).1.y=true
   ·rw [if_pos hy,if_pos hy];exact ih _ (by have:=oy hy; omega) (by have:=oy hy; omega)
   ·rw [if_neg hy,if_neg hy]
theorem ep {q:Nd}:∀ {l:List Nd} {k j:Nat},rF q l k=some j->k<=j/\j-k<l.length/\l.getD (j-k) vW=q
 | [],_,_,h=>by cases h
 | p :: r,k,j,h=>by
  unfold rF at h
  by_cases e:q=p
  ·rw [if_pos e] at h; cases h; simp [e]
  ·rw [if_neg e] at h;obtain⟨h1,h2,h3⟩:=ep h;refine⟨by omega,by simp only [List.length_cons]; omega,?_⟩;rw [show j-k=j-(k+1)+ 1 by omega,δ]; exact h3
theorem Yn {q:Nd}:∀ {l:List Nd} {k:Nat},rF q l k=none->q ∉ l
 | [],_,_=>by simp
 | p :: r,k,h=>by
  unfold rF at h
  by_cases e:q=p
  ·rw [if_pos e] at h; cases h
  ·rw [if_neg e] at h;simp only [List.mem_cons,not_or];exact⟨e,Yn h⟩
theorem VW {q:Nd}:∀ {l:List Nd} {k j:Nat},l.Nodup->j<l.length->l.getD j vW=q->rF q l k=some (k+j)
 | [],_,_,_,h,_=>by simp at h
 | p :: r,k,j,hn,h,hq=>by
  unfold rF
  cases j with
  | zero=>rw [if_pos (by simpa using hq.symm)]; rfl
  | succ j=>
   rw [δ] at hq;have hj:j<r.length:=by simpa using h
   have hm:q ∈ r:=by
    have:r.getD j vW=r[j]:=by simp [List.getD,hj]
    rw [<- hq,this]; exact List.getElem_mem hj
   rw [if_neg (λe:q=p=>(List.nodup_cons.1 hn).1 (e ▸ hm)),VW (List.nodup_cons.1 hn).2 hj hq];congr 1; omega
theorem vx : ∀ (t:Tr) (out:List Nd) (k:Nat),vR out->out.Nodup->k<out.length->tree out k=t->sK t out=((k:Int),out)
 | .nil,out,k,hv,hn,hk,ht=>by rw [sH hv hk] at ht; cases ht
 | .nd op i e g x y,out,k,hv,hn,hk,ht=>by
  obtain⟨ox,oy,zx,zy⟩:=tO (hv k hk);rw [sH hv hk] at ht;simp only [Tr.nd.injEq] at ht;obtain⟨rfl,rfl,rfl,rfl,hx,hy⟩:=ht
  have ha:(if (xY (out.getD k vW).op).1.x=true then sK x out else(0,out))= ((out.getD k vW).x,out):=by
   by_cases h:(xY (out.getD k vW).op).1.x=true
   ·rw [if_pos h] at hx ⊢;rw [vx x out _ hv hn (by have:=ox h; omega) hx,τ (ox h).1]
   ·rw [if_neg h,zx (by simpa using h)]
  have hb:(if (xY (out.getD k vW).op).1.y=true then sK y out else(0,out))= ((out.getD k vW).y,out):=by
   by_cases h:(xY (out.getD k vW).op).1.y=true
   ·rw [if_pos h] at hy ⊢;rw [vx y out _ hv hn (by have:=oy h; omega) hy,τ (oy h).1]
   ·rw [if_neg h,zy (by simpa using h)]
  unfold sK;simp only [ha,hb];rw [VW (k:=0) hn hk rfl,Nat.zero_add]
theorem cN : ∀ (t:Tr) (out:List Nd),Lj t->vR out->out.Nodup->vR (sK t out).2/\(sK t out).2.Nodup/\(∃ l,(sK t out).2=out++l)/\ ∃ k:Nat,(sK t out).1=k/\k<(sK t out).2.length/\tree (sK t out).2 k=t/\((sK t out).2=out\/k+1=(sK t out).2.length)
 | .nil,out,h,_,_=>h.elim
 | .nd op i e g x y,out,⟨h1,h2,h3⟩,hv,hn=>by
  have A:∃ (a:Int) (oa:List Nd),(if (xY op).1.x=true then sK x out else(0,out))= (a,oa)/\ vR oa/\oa.Nodup/\(∃ l,oa=out++l)/\ (if (xY op).1.x=true then 0<=a/\a<(oa.length:Int)/\ tree oa a.toNat=x/\(oa=out\/a+1=oa.length) else a=0/\oa=out):=by
   by_cases hx:(xY op).1.x=true
   ·rw [if_pos hx] at h2 ⊢;obtain⟨v,n,l,k,e1,e2,e3,e4⟩:=cN x out h2 hv hn;refine⟨_,_,rfl,v,n,l,?_⟩;rw [if_pos hx,e1,π];exact⟨by omega,by omega,e3,e4.imp id λh=>by omega⟩
   ·rw [if_neg hx] at h2 ⊢;exact⟨0,out,rfl,hv,hn,⟨[],by simp⟩,by rw [if_neg hx]; exact⟨rfl,rfl⟩⟩
  obtain⟨a,oa,ea,va,na,⟨la,rfl⟩,ha⟩:=A
  have B:∃ (b:Int) (ob:List Nd),(if (xY op).1.y=true then sK y (out++la) else(0,out++la))= (b,ob)/\ vR ob/\ob.Nodup/\(∃ l,ob=out++la++l)/\ (if (xY op).1.y=true then 0<=b/\b<(ob.length:Int)/\ tree ob b.toNat=y/\(ob=out++la\/b+1=ob.length) else b=0/\ob=out++la):=by
   by_cases hy:(xY op).1.y=true
   ·rw [if_pos hy] at h3 ⊢;obtain⟨v,n,l,k,e1,e2,e3,e4⟩:=cN y (out++la) h3 va na;refine⟨_,_,rfl,v,n,l,?_⟩;rw [if_pos hy,e1,π];exact⟨by omega,by omega,e3,e4.imp id λh=>by omega⟩
   ·rw [if_neg hy] at h3 ⊢;exact⟨0,out++la,rfl,va,na,⟨[],by simp⟩,by rw [if_neg hy]; exact⟨rfl,rfl⟩⟩
  obtain⟨b,ob,eb,vb,nb,⟨lb,rfl⟩,hb⟩:=B
  have hE:∀ n:Nat,(out++la++lb).length<=n->zK ⟨op,i,e,g,a,b⟩ n=0:=λn hln=>by
   refine cR (p:=⟨op,i,e,g,0,0⟩) h1 ?_ ?_
   ·simp only
    split
    ·rename_i h; rw [if_pos h] at ha; simp only [ε] at hln ha; omega
    ·rename_i h; rw [if_neg h] at ha; exact ha.1
   ·simp only
    split
    ·rename_i h; rw [if_pos h] at hb; omega
    ·rename_i h; rw [if_neg h] at hb; exact hb.1
  have tx:(if (xY op).1.x=true then tree (out++la++lb) a.toNat else .nil)= x:=by
   by_cases hx:(xY op).1.x=true
   ·rw [if_pos hx] at ha ⊢;rw [xh vb _ (by omega)]; exact ha.2.2.1
   ·rw [if_neg hx] at h2 ⊢; exact h2.symm
  have ty:(if (xY op).1.y=true then tree (out++la++lb) b.toNat else .nil)= y:=by
   by_cases hy:(xY op).1.y=true
   ·rw [if_pos hy] at hb ⊢;exact hb.2.2.1
   ·rw [if_neg hy] at h3 ⊢; exact h3.symm
  have hr:sK (.nd op i e g x y) out=match rF ⟨op,i,e,g,a,b⟩ (out++la++lb) 0 with
    | some k=>((k:Int),out++la++lb)
    | none=>(((out++la++lb).length:Int),out++la++lb ++ [⟨op,i,e,g,a,b⟩]):=by
   conv=>lhs; unfold sK
   simp only [ea,eb]
  rw [hr]
  cases hq:rF ⟨op,i,e,g,a,b⟩ (out++la++lb) 0 with
  | some k=>
   obtain⟨_,k1,k2⟩:=ep hq;rw [Nat.sub_zero] at k1 k2;have hvk:=vb k k1;obtain⟨ox,oy,_,_⟩:=tO hvk;rw [k2] at ox oy;simp only at ox oy
   refine⟨vb,nb,⟨la++lb,by simp⟩,k,rfl,k1,?_,.inl ?_⟩
   ·rw [sH vb k1,k2];simp only [tx,ty]
   ·show out++la++lb=out
    have e1:out++la++lb=out++la:=by
     by_cases hy:(xY op).1.y=true
     ·rw [if_pos hy] at hb
      rcases hb.2.2.2 with h | h
      ·exact h
      ·have:=oy hy; omega
     ·rw [if_neg hy] at hb; exact hb.2
    have e2:out++la=out:=by
     by_cases hx:(xY op).1.x=true
     ·rw [if_pos hx] at ha
      rcases ha.2.2.2 with h | h
      ·exact h
      ·have:=ox hx;rw [e1] at k1;omega
     ·rw [if_neg hx] at ha; exact ha.2
    rw [e1,e2]
  | none=>
   have vs:vR (out++la++lb ++ [⟨op,i,e,g,a,b⟩]):=vi vb (hE _ (Nat.le_refl _))
   refine⟨vs,?_,⟨la++lb ++ [⟨op,i,e,g,a,b⟩],by simp⟩,(out++la++lb).length,rfl,by simp,?_,.inr (by simp only [ε,List.length_singleton])⟩
   ·rw [List.nodup_append];refine⟨nb,by simp,λp hp q hq'=>?_⟩;rw [List.mem_singleton] at hq';subst hq';exact λe=>Yn hq (e ▸ hp)
   ·have hgl:(out++la++lb ++ [(⟨op,i,e,g,a,b⟩:Nd)]).getD (out++la++lb).length vW=⟨op,i,e,g,a,b⟩:=by simp [List.getD]
    rw [sH vs (by simp),hgl];simp only
    congr 1
    ·by_cases hx:(xY op).1.x=true
     ·rw [if_pos hx] at tx ha ⊢;rw [xh vs _ (by simp only [ε] at ha ⊢; omega)]; exact tx
     ·rw [if_neg hx] at tx ⊢; exact tx
    ·by_cases hy:(xY op).1.y=true
     ·rw [if_pos hy] at ty hb ⊢;rw [xh vs _ (by omega)]; exact ty
     ·rw [if_neg hy] at ty ⊢; exact ty
end Fm
open Rs Fm
namespace Fm
structure Uu (f : List Nd) (s : CS) : Prop where
 v:vR s.out
 n:s.out.Nodup
 d:∀ z k,wB z s.done=some k->∃ i j:Nat,z=i/\k=j/\i<f.length/\j<s.out.length/\tree s.out j=tree f i
theorem vy {f:List Nd} (hv:vR f):∀ (n:Nat) {i:Nat} {s:CS},i<n->i<f.length->Uu f s ->
  (xC f n i s).1=(sK (tree f i) s.out).1/\(xC f n i s).2.out=(sK (tree f i) s.out).2/\Uu f (xC f n i s).2
 | 0,_,_,h,_,_=>by omega
 | n + 1,i,s,h,hi,hI=>by
  cases hu:wB (i:Int) s.done with
  | some k=>
   rw [xC,hu];obtain⟨i',j,e1,e2,_,e4,e5⟩:=hI.d _ _ hu;obtain rfl:i=i':=by omega
   rw [vx _ _ j hI.v hI.n e4 e5];exact⟨e2,rfl,hI⟩
  | none=>
   rw [lH hu];obtain⟨ox,oy,zx,zy⟩:=tO (hv i hi);have hsp:=cN _ s.out (xy hv i hi) hI.v hI.n;rw [sH hv hi] at hsp ⊢;simp only;generalize hp:f.getD i vW=p at hsp ox oy zx zy ⊢
   have S1:(if (xY p.op).1.x=true then xC f n p.x.toNat s else(p.x,s)).1=(if (xY p.op).1.x=true then sK (tree f p.x.toNat) s.out else(0,s.out)).1 /\
     (if (xY p.op).1.x=true then xC f n p.x.toNat s else(p.x,s)).2.out=(if (xY p.op).1.x=true then sK (tree f p.x.toNat) s.out else(0,s.out)).2/\Uu f (if (xY p.op).1.x=true then xC f n p.x.toNat s else(p.x,s)).2:=by
    by_cases hx:(xY p.op).1.x=true
    ·rw [if_pos hx,if_pos hx];exact vy hv n (by have:=ox hx; omega) (by have:=ox hx; omega) hI
    ·rw [if_neg hx,if_neg hx];exact⟨zx (by simpa using hx),rfl,hI⟩
   have e1:(if (xY p.op).1.x=true then sK (if (xY p.op).1.x=true then tree f p.x.toNat else .nil) s.out else(0,s.out))= (if (xY p.op).1.x=true then sK (tree f p.x.toNat) s.out else(0,s.out)):=by
    by_cases hx:(xY p.op).1.x=true
    ·rw [if_pos hx,if_pos hx,if_pos hx]
    ·rw [if_neg hx,if_neg hx]
   have hfin:sK (.nd p.op p.i p.e p.g (if (xY p.op).1.x=true then tree f p.x.toNat else .nil) (if (xY p.op).1.y=true then tree f p.y.toNat else .nil)) s.out =
     (let a:=(if (xY p.op).1.x=true then sK (tree f p.x.toNat) s.out else(0,s.out))
      let b:=if (xY p.op).1.y=true then sK (tree f p.y.toNat) a.2 else(0,a.2)
      match rF ⟨p.op,p.i,p.e,p.g,a.1,b.1⟩ b.2 0 with
      | some k=>((k:Int),b.2)
      | none=>((b.2.length:Int),b.2 ++ [⟨p.op,p.i,p.e,p.g,a.1,b.1⟩])):=by
    conv=>lhs; unfold sK
    simp only [e1]
    by_cases hy:(xY p.op).1.y=true
    ·simp only [if_pos hy];all_goals rfl
    ·simp only [if_neg hy];all_goals rfl
   rw [hfin] at hsp ⊢;simp only at hsp ⊢;generalize (if (xY p.op).1.x=true then xC f n p.x.toNat s else(p.x,s))= A at S1 ⊢;generalize (if (xY p.op).1.x=true then sK (tree f p.x.toNat) s.out else(0,s.out))= A' at S1 hsp ⊢;obtain⟨a1,a2⟩:=A';obtain⟨A1,A2⟩:=A;obtain⟨rfl,rfl,IA⟩:=S1;simp only at hsp ⊢
   have S2:(if (xY p.op).1.y=true then xC f n p.y.toNat A2 else(p.y,A2)).1=(if (xY p.op).1.y=true then sK (tree f p.y.toNat) A2.out else(0,A2.out)).1 /\
     (if (xY p.op).1.y=true then xC f n p.y.toNat A2 else(p.y,A2)).2.out=(if (xY p.op).1.y=true then sK (tree f p.y.toNat) A2.out else(0,A2.out)).2/\Uu f (if (xY p.op).1.y=true then xC f n p.y.toNat A2 else(p.y,A2)).2:=by
    by_cases hy:(xY p.op).1.y=true
    ·rw [if_pos hy,if_pos hy];exact vy hv n (by have:=oy hy; omega) (by have:=oy hy; omega) IA
    ·rw [if_neg hy,if_neg hy];exact⟨zy (by simpa using hy),rfl,IA⟩
   generalize (if (xY p.op).1.y=true then xC f n p.y.toNat A2 else(p.y,A2))= B at S2 ⊢;generalize (if (xY p.op).1.y=true then sK (tree f p.y.toNat) A2.out else(0,A2.out))= B' at S2 hsp ⊢;obtain⟨b1,b2⟩:=B';obtain⟨B1,B2⟩:=B;obtain⟨rfl,rfl,IB⟩:=S2;replace IB:Uu f B2:=IB;simp only at hsp ⊢
   have hset:∀ (out':List Nd) (k:Nat),(∃ l,out'=B2.out++l)->vR out'->out'.Nodup->k<out'.length->tree out' k=tree f i->Uu f ⟨out',mD i k B2.done⟩:=by
    rintro out' k ⟨l,rfl⟩ hv' hn' hk' ht';refine⟨hv',hn',λz k' hz=>?_⟩;simp only at hz ⊢;rw [rA] at hz
    split at hz
    ·cases hz;exact⟨i,k,by assumption,rfl,hi,hk',ht'⟩
    ·obtain⟨i',j,q1,q2,q3,q4,q5⟩:=IB.d _ _ hz;exact⟨i',j,q1,q2,q3,by simp; omega,by rw [xh hv' _ q4]; exact q5⟩
   have htf:tree f i = .nd p.op p.i p.e p.g (if (xY p.op).1.x=true then tree f p.x.toNat else .nil) (if (xY p.op).1.y=true then tree f p.y.toNat else .nil):=by rw [sH hv hi,hp]
   unfold jL
   cases hq:rF ⟨p.op,p.i,p.e,p.g,A1,B1⟩ B2.out 0 with
   | some k=>
    rw [hq] at hsp;obtain⟨s1,s2,_,k',s3,s4,s5,_⟩:=hsp;simp only at s1 s2 s3 s4 s5 ⊢;obtain rfl:k=k':=by omega
    exact⟨trivial,trivial,hset _ k ⟨[],by simp⟩ s1 s2 s4 (by rw [s5,htf])⟩
   | none=>
    rw [hq] at hsp;obtain⟨s1,s2,_,k',s3,s4,s5,_⟩:=hsp;simp only at s1 s2 s3 s4 s5 ⊢;obtain rfl:B2.out.length=k':=by omega
    exact⟨trivial,trivial,hset _ _ ⟨_,rfl⟩ s1 s2 s4 (by rw [s5,htf])⟩
theorem eH {f:List Nd} (hv:vR f) {i:Nat} (hi:i<f.length):tH f i=canon (tree f i):=(vy hv (i+1) (s:=⟨[],[]⟩) (by omega) hi ⟨λk h=>by simp at h,.nil,λz k h=>by cases h⟩).2.1
theorem gN {t:Tr} (h:Lj t):vR (canon t)/\ (canon t).Nodup/\0<(canon t).length/\tree (canon t) ((canon t).length-1)= t:=by
 obtain⟨v,n,_,k,e1,e2,e3,e4⟩:=cN t [] h (λk h=>by simp at h) .nil;refine⟨v,n,by unfold canon; omega,?_⟩
 have:k=(canon t).length-1:=by
  rcases e4 with e4 | e4
  ·rw [e4] at e2; simp at e2
  ·unfold canon; omega
 rw [<- this]; exact e3
theorem kJ {f:List Nd} (h:yW f=0):xB f=canon (tree f (f.length-1)):=by
 obtain⟨h1,h2,h3⟩:=zF h;have hl:0<f.length:=by cases f with | nil=>exact absurd rfl h1 | cons a b=>simp
 unfold xB sE;rw [if_neg (by omega),show ((f.length:Int)-1).toNat=f.length-1 by omega];exact eH h3 (by omega)
theorem Vr {f:List Nd} (h:yW f=0) {i:Nat} (hi:i<f.length):sE f i=canon (tree f i):=by obtain⟨h1,h2,h3⟩:=zF h;unfold sE;rw [if_neg (by omega),π];exact eH h3 hi
theorem VQ : ∀ {f:List Nd} {i:Int},(∀ k,k<f.length->zK (f.getD k vW) (i+k)= 0)->cC f i=0
 | [],_,_=>rfl
 | p :: r,i,h=>by have h0:=h 0 (by simp);simp only [List.getD_cons_zero] at h0;unfold cC;rw [show (((0:Nat):Int))= 0 from rfl,Int.add_zero] at h0;rw [if_neg (by simpa using h0)];refine VQ λk hk=>?_;have:=h (k+1) (by simpa using hk);rw [δ] at this;rw [show i+1+(k:Int)= i+((k+1:Nat):Int) by omega]; exact this
theorem ck {f:List Nd} (h1:0<f.length) (h2:f.length<=200) (h3:vR f):yW f=0:=by unfold yW;rw [if_neg (by intro e; rw [e] at h1; simp at h1),if_neg (by omega)];exact VQ λk hk=>by rw [Int.zero_add]; exact h3 k hk
theorem kH {f:List Nd} (h:yW f=0):yW (xB f)= 0:= ck (gQ h) (by have:=mP f ((f.length:Int)-1); exact this) (bG f)
theorem l5 {f:List Nd} (h:yW f=0):xB (xB f)= xB f:=by
 obtain⟨h1,h2,h3⟩:=zF h;have hl:0<f.length:=by cases f with | nil=>exact absurd rfl h1 | cons a b=>simp
 have hw:=xy h3 (f.length-1) (by omega);rw [kJ (kH h),kJ h,(gN hw).2.2.2]
end Fm
section
open Rs Fm
namespace Fm
end Fm
end
section
open Rs Fm
namespace Fm
def mV (f:List Nd):Tr:=tree f (f.length-1)
theorem Rl {f:List Nd} (h:yW f=0):Lj (mV f):=by
 obtain⟨h1,h2,h3⟩:=zF h;have hl:0<f.length:=by cases f with | nil=>exact absurd rfl h1 | cons a b=>simp
 exact xy h3 _ (by omega)
theorem gH {f:List Nd} (h:yW f=0):tree (xB f) ((xB f).length-1)= mV f/\(xB f).Nodup:=by rw [kJ h];obtain⟨_,b,_,d⟩:=gN (Rl h);exact⟨d,b⟩
end Fm
end
section
open Rs Fm
namespace Fm
end Fm
end
section
open Rs Fm
namespace Fm
end Fm
end
section
open Rs Fm
namespace Fm
end Fm
end
end Go.Pd

/- Part E6. -/
namespace Go.Pd
open Go Go.Proofs
open BitVec renaming isValue -> ZA
open Rs Fm
namespace Fm
theorem QJ (m:Nat) (h:m<=6):(xY (11+(m:Int))).1.fr=((2 ^ (m+1):Nat):Int):=by
 have hc:m=0\/m=1\/m=2\/m=3\/m=4\/m=5\/m=6:=by omega
 rcases hc with rfl | rfl | rfl | rfl | rfl | rfl | rfl <;> decide
theorem Yi (op:Int) (h:op=9\/op=10):(xY op).1.fr=1:=by rcases h with rfl | rfl <;> decide
theorem du (op:Int) (h:18<=op/\op<=21):(xY op).1.fr=256:=by
 have hc:op=18\/op=19\/op=20\/op=21:=by omega
 rcases hc with rfl | rfl | rfl | rfl <;> decide
theorem Tn (op:Int) (h:1<=op/\op<=8):(xY op).1.fr=0:=by
 have hc:op=1\/op=2\/op=3\/op=4\/op=5\/op=6\/op=7\/op=8:=by omega
 rcases hc with rfl | rfl | rfl | rfl | rfl | rfl | rfl | rfl <;> decide
def kX (m k:Nat) (n:Int):Bool:=(List.range k).all λi=>!m.testBit i || decide ((i:Int)<n)
theorem lf {m k:Nat} {n:Int} (hm:m<2 ^ k) (hk:k<=31):iG m n=kX m k n:=by
 unfold iG kX;rw [Bool.eq_iff_iff,Bool.or_eq_true,decide_eq_true_iff,decide_eq_true_iff,List.all_eq_true]
 constructor
 ·rintro h i hi;have hi':=γ.1 hi
  rcases h with h | h
  ·rw [decide_eq_true (by omega),Bool.or_true]
  ·cases hb:m.testBit i with
   | false=>rfl
   | true=>
    have h2:m<2 ^ n.toNat:=by
     rcases Nat.div_eq_zero_iff.1 h with h | h
     ·have:=Nat.two_pow_pos n.toNat; omega
     ·exact h
    have h3:i<n.toNat:=Decidable.byContradiction λhh=>by have h4:=μ (ξ h2 (ν (by decide) (show n.toNat<=i by omega)));rw [h4] at hb; cases hb
    rw [decide_eq_true (by omega)]; rfl
 ·intro h;refine .inr (Nat.div_eq_of_lt (Nat.lt_pow_two_of_testBit _ λi hi=>?_))
  cases hb:m.testBit i with
  | false=>rfl
  | true=>
   have hik:i<k:=Decidable.byContradiction λhh=>by have h4:=μ (ξ hm (ν (by decide) (show k<=i by omega)));rw [h4] at hb; cases hb
   have:=h i (γ.2 hik);rw [hb] at this;simp at this;omega
theorem vg {m:Nd->Nat} {k:Nat}:∀ {l:List Nd},(∀ p ∈ l,m p<2 ^ k)->wU m l<2 ^ k:=by
 have key:∀ (l:List Nd) (a:Nat),(∀ p ∈ l,m p<2 ^ k)->a<2 ^ k->l.foldl (λa p=>a ||| m p) a<2 ^ k:=by
  intro l
  induction l with
  | nil=>intro a _ h; exact h
  | cons p r ih=>intro a h ha; exact ih _ (λq hq=>h q (List.mem_cons_of_mem _ hq)) (ο ha (h p (by simp)))
 exact λ{l} h=>key l 0 h (Nat.two_pow_pos k)
theorem R5 {p:Nd} {k:Int} (h:zK p k=0):1<=p.op/\p.op<=21:=by have h1:=(vU.1 h).1;refine Decidable.byContradiction λhc=>?_;rw [show xY p.op=(rC,false) from if_pos (by omega)] at h1;cases h1
theorem Ws {p:Nd} {k:Int} (h:zK p k=0) (hg:(xY p.op).1.gr=false):p.g=0:=by have h2:=(vU.1 h).2.2.2.1;simp only [hg,Bool.or_eq_false_iff,Bool.not_false,χ,decide_eq_false_iff_not] at h2;omega
theorem bw (f:List Nd):oW f<2 ^ 4:=vg λp hp=>by
 obtain⟨k,hk⟩:=jT (iI f _) hp;unfold tZ
 split
 ·rename_i hf;have:=rZ hk hf;exact κ (by decide) (by omega)
 ·have:=eW hk;omega
theorem dg (f:List Nd):jR f<2 ^ 8:=vg λp hp=>by
 obtain⟨k,hk⟩:=jT (iI f _) hp;unfold qL
 split
 ·rename_i hf;have:=mN hk hf;exact κ (by decide) (by omega)
 ·decide
end Fm
theorem Wz {op:Int} (h:1<=op/\op<=21):xA prog 180 [.int .i64 op] (.int .i64 (xY op).1.fr):=by
 refine xI func180 Ix λhf=>?_
 by_cases e9:op=9
 ·subst e9;rw [Yi 9 (.inl rfl)];refine xJ ?_;exact .same
 have c9:(op==9)= false:=by simpa using e9
 by_cases e10:op=10
 ·subst e10;rw [Yi 10 (.inr rfl)];refine xJ ?_;exact .same
 have c10:(op==10)= false:=by simpa using e10
 by_cases h11:11<=op
 case neg=>
  have h18:¬ 18<=op:=by omega
  rw [Tn op (by omega)];refine cI c9 c10 h11 h18 ?_;exact .same
 by_cases h17:op<=17
 case neg=>
  have h18:18<=op:=by omega
  rw [du op (by omega)];refine bd c9 c10 h11 h17 h18 ?_;exact .same
 obtain⟨m,hm⟩:∃ m:Nat,op=11+(m:Int):=⟨(op-11).toNat,by omega⟩;have hfr:=QJ m (by omega);rw [<- hm] at hfr;rw [hfr];have e1:IntKind.i64.wrap (op-11)= (m:Int):=by rw [wrap_i64 (by omega)]; omega
 have e2:IntKind.i64.wrap ((m:Int)+ 1)= ((m+1:Nat):Int):=vX (by omega);simp only [simprocAttr,-ZA,↓zU,↓zD,zV,zT,zW,c9,c10,h11,h17,e1,e2,TD (show m+1<=61 by omega)]
 (repeat refine sd ?_)
 exact .same
theorem aZ (f:List Nd):xA prog 118 [.sl 6 (wP f)] (.int .i64 (zP f)):=by
 have hlen:=mP f ((f.length:Int)-1);rw [show sE f ((f.length:Int)-1)= xB f from rfl] at hlen;have hnd:=bG f;have hall:∀ p ∈ xB f,rB p<4096:=λp _=>by have:=eF p.op; unfold rB; omega
 refine xI func118 IV λhf=>?_;refine xJ ?_;refine .go (cr (oP f)) ?_;refine xJ ?_;unfold zP;generalize xB f=c at hlen hnd hall
 refine xU (λk:Nat=>[(5,.int .i64 k),(4,.int .i64 (wU rB (c.take k))),(3,.sl 6 (wP c))]) (λ_=>⟨0,[]⟩) (λk=>k<=c.length) (λk=>c.length-k) 0 (θ _) ?_ ?_
 ·(refine yR.same ?_; simp [yS,Fr.get,wU])
 intro k hk;refine xN mixed ?_
 by_cases h:k<c.length
 ·have hd:((k:Int)<(c.length:Int)):=by omega
  have hw:IntKind.i64.wrap ((k:Int)+ 1)= ((k+1:Nat):Int):=wrap_i64 (by omega);have hg:=sG c h;have hq:=hnd k h;have hlt:wU rB (c.take k)<2 ^ 12:=mH λp hp=>hall p (ζ hp);have hlp:=hall _ (xK (d:=vW) h);have hs:wU rB (c.take (k+1))= wU rB (c.take k) ||| rB (c.getD k vW):=by rw [yC (d:=vW) h,kT]
  generalize c.getD k vW=p at hg hq hs hlp;have hop:1<=p.op/\p.op<=21:=R5 hq;have hfr:=Wz hop;have hu:=eF p.op;rw [show (xY p.op).1.fr=((rB p:Nat):Int) from(τ hu.1).symm] at hfr;have hor:=ja (a:=wU rB (c.take k)) (b:=rB p) (by omega) (by omega);simp only [simprocAttr,-ZA,↓zU,↓zD,zV,zT,zW,hd,xM,hg,Nd.row]
  (repeat refine sd ?_)
  refine .go (cq hfr) ?_;refine wA hor ?_;refine⟨k+1,by omega,?_,by omega⟩;rw [hs]
  (refine yR.same ?_; simp only [yS,Fr.get,simprocAttr,-ZA,zS])
  exact hw
 have hd:¬ ((k:Int)<(c.length:Int)):=by omega
 obtain rfl:k=c.length:=by omega
 refine yM hd xM ?_;exact .same
theorem o6 (f:List Nd):xA prog 181 [.sl 6 (wP f)] (.int .i64 (oW f)):=by
 have hlen:=mP f ((f.length:Int)-1);rw [show sE f ((f.length:Int)-1)= xB f from rfl] at hlen;have hnd:=bG f
 have hall:∀ p ∈ xB f,tZ p<4096:=λp hp=>by obtain⟨k,hk⟩:=jT hnd hp;exact bu hk
 refine xI func181 J0 λhf=>?_;refine xJ ?_;refine .go (cr (oP f)) ?_;refine xJ ?_;unfold oW;generalize xB f=c at hlen hnd hall
 refine xU (λk:Nat=>[(5,.int .i64 k),(4,.int .i64 (wU tZ (c.take k))),(3,.sl 6 (wP c))]) (λ_=>⟨0,[]⟩) (λk=>k<=c.length) (λk=>c.length-k) 0 (θ _) ?_ ?_
 ·(refine yR.same ?_; simp [yS,Fr.get,wU])
 intro k hk;refine xN mixed ?_
 by_cases h:k<c.length
 ·have hd:((k:Int)<(c.length:Int)):=by omega
  have hw:IntKind.i64.wrap ((k:Int)+ 1)= ((k+1:Nat):Int):=wrap_i64 (by omega);have hg:=sG c h;have hq:=hnd k h;have hlt:wU tZ (c.take k)<2 ^ 12:=mH λp hp=>hall p (ζ hp);have hlp:=hall _ (xK (d:=vW) h);have hs:wU tZ (c.take (k+1))= wU tZ (c.take k) ||| tZ (c.getD k vW):=by rw [yC (d:=vW) h,kT]
  generalize c.getD k vW=p at hg hq hs hlp;have hag:=VJ p.op;have hgr:=eW hq;obtain⟨g,hgg⟩:=υ hgr.1
  cases hu:(xY p.op).1.ag with
  | false=>
   rw [hu] at hag;have hfn:tZ p=g:=by rw [tZ,if_neg (by rw [hu]; simp),hgg,π]
   have hor:=ja (a:=wU tZ (c.take k)) (b:=g) (by omega) (by omega);simp only [simprocAttr,-ZA,↓zU,↓zD,zV,zT,zW,hd,xM,hg,Nd.row]
   (repeat refine sd ?_)
   refine .go (cq hag) ?_;simp only [simprocAttr,-ZA,↓zU,↓zD,zV,zT,zW,xM,hg,Nd.row,hgg,hor]
   (repeat refine sd ?_)
   refine⟨k+1,by omega,?_,by omega⟩;rw [hs,hfn]
   (refine yR.same ?_; simp only [yS,Fr.get,simprocAttr,-ZA,zS])
   exact hw
  | true=>
   rw [hu] at hag;obtain⟨i0,i3⟩:=rZ hq hu;obtain⟨m,hm⟩:=υ i0;have hm3:m<=3:=by omega
   have hg0:p.g=0:=Ws hq (by rcases bB p.op with h | h | h | h | h <;> simp_all);have hp2:(2:Nat)^ m<2 ^ 12:=κ (by omega) (by omega);have hfn:tZ p=2 ^ m:=by rw [tZ,if_pos hu,hm,π]
   have hor:=ja (a:=wU tZ (c.take k)) (b:=2 ^ m) (by omega) (by omega);have hor2:=ja (a:=wU tZ (c.take k) ||| 2 ^ m) (b:=0) (by have:=ο hlt hp2; omega) (by omega);rw [Nat.or_zero] at hor2;simp only [simprocAttr,-ZA,↓zU,↓zD,zV,zT,zW,hd,xM,hg,Nd.row]
   (repeat refine sd ?_)
   refine .go (cq hag) ?_;simp only [simprocAttr,-ZA,↓zU,↓zD,zV,zT,zW,xM,hg,Nd.row,hm,TD (show m<=61 by omega),hor,hg0,hor2]
   (repeat refine sd ?_)
   refine⟨k+1,by omega,?_,by omega⟩;rw [hs,hfn]
   (refine yR.same ?_; simp only [yS,Fr.get,simprocAttr,-ZA,zS])
   exact⟨hw,hor2⟩
 have hd:¬ ((k:Int)<(c.length:Int)):=by omega
 obtain rfl:k=c.length:=by omega
 refine yM hd xM ?_;exact .same
open Rs Fm
theorem za (f:List Nd) (a b:Int):xA prog 119 [.sl 6 (wP f),.int .i64 a,.int .i64 b] (.bool (sO f a b)):=by
 have hA:=o6 f;have hF:=Ww f;have hC:=rq f;have ha:=lf (n:=a) (bw f) (by decide);have hb:=lf (n:=b) (dg f) (by decide);have la:=bw f;have lb:=dg f;unfold sO;rw [ha,hb];generalize oW f=ma at hA la;generalize jR f=mb at hF lb;refine xI func119 IW λhf=>?_;refine xJ ?_;refine .go (cr hC) ?_;by_cases hz:yW f=0
 case neg=>
  have e:(yW f != 0)= true:=by simpa using hz
  refine xG e ?_;exact .drop (by simp) (by simp [vw,hz])
 have e:(yW f != 0)= false:=by simpa using hz
 rw [decide_eq_true hz,χ];refine xG e ?_
 refine xU (λi:Nat=>[(7,.int .i64 i),(2,.int .i64 b),(1,.int .i64 a),(0,.sl 6 (wP f))]) (λ_=>⟨0,[]⟩) (λi=>i<=4/\kX ma i a=true) (λi=>4-i) 0 ⟨θ _,rfl⟩ ?_ ?_
 ·exact wE
 rintro i ⟨hi,hk⟩;refine xN mixed ?_
 by_cases h4:i<4
 ·have hd:((i:Int)<4):=by omega
  have hsu:kX ma (i+1) a=(kX ma i a&&(!ma.testBit i || decide ((i:Int)<a))):=by unfold kX; rw [List.range_succ,List.all_append,List.all_cons,List.all_nil,Bool.and_true]
  have hbit:(((ma / 2 ^ i:Nat):Int).tmod 2==1)= ma.testBit i:=by rw [W4,aa]
  rw [hk,χ] at hsu;refine xG hd ?_;refine .go (cr hA) ?_
  cases hb2:ma.testBit i with
  | false=>
   rw [hb2] at hbit hsu;simp only [simprocAttr,-ZA,↓zU,↓zD,zV,zT,zW,jU ma i (by omega),hbit]
   (repeat refine sd ?_)
   refine⟨i+1,⟨by omega,by rw [hsu]; rfl⟩,?_,by omega⟩;exact yH
  | true=>
   rw [hb2] at hbit hsu
   by_cases hge:a<=(i:Int)
   ·simp only [simprocAttr,-ZA,↓zU,↓zD,zV,zT,zW,jU ma i (by omega),hbit,hge]
    (repeat refine sd ?_)
    have hf0:kX ma 4 a=false:=by unfold kX;rw [η];exact⟨i,γ.2 h4,by rw [hb2,decide_eq_false (by omega)]; simp⟩
    exact .drop (by simp) (by simp [vw,hf0])
   ·simp only [simprocAttr,-ZA,↓zU,↓zD,zV,zT,zW,jU ma i (by omega),hbit,hge]
    (repeat refine sd ?_)
    refine⟨i+1,⟨by omega,by rw [hsu,decide_eq_true (by omega)]; rfl⟩,?_,by omega⟩;exact yH
 have hd:¬ ((i:Int)<4):=by omega
 obtain rfl:i=4:=by omega
 rw [hk,χ];refine xG hd ?_
 refine xU (λi:Nat=>[(8,.int .i64 i),(2,.int .i64 b),(0,.sl 6 (wP f))]) (λ_=>⟨0,[]⟩) (λi=>i<=8/\kX mb i b=true) (λi=>8-i) 0 ⟨θ _,rfl⟩ ?_ ?_
 ·exact wE
 clear hd hi hk;rintro i ⟨hi,hk⟩;refine xN mixed ?_
 by_cases h4:i<8
 ·have hd:((i:Int)<8):=by omega
  have hsu:kX mb (i+1) b=(kX mb i b&&(!mb.testBit i || decide ((i:Int)<b))):=by unfold kX; rw [List.range_succ,List.all_append,List.all_cons,List.all_nil,Bool.and_true]
  have hbit:(((mb / 2 ^ i:Nat):Int).tmod 2==1)= mb.testBit i:=by rw [W4,aa]
  rw [hk,χ] at hsu;refine xG hd ?_;refine .go (cr hF) ?_
  cases hb2:mb.testBit i with
  | false=>
   rw [hb2] at hbit hsu;simp only [simprocAttr,-ZA,↓zU,↓zD,zV,zT,zW,jU mb i (by omega),hbit]
   (repeat refine sd ?_)
   refine⟨i+1,⟨by omega,by rw [hsu]; rfl⟩,?_,by omega⟩;exact yH
  | true=>
   rw [hb2] at hbit hsu
   by_cases hge:b<=(i:Int)
   ·simp only [simprocAttr,-ZA,↓zU,↓zD,zV,zT,zW,jU mb i (by omega),hbit,hge]
    (repeat refine sd ?_)
    have hf0:kX mb 8 b=false:=by unfold kX;rw [η];exact⟨i,γ.2 h4,by rw [hb2,decide_eq_false (by omega)]; simp⟩
    exact .drop (by simp) (by simp [vw,hf0])
   ·simp only [simprocAttr,-ZA,↓zU,↓zD,zV,zT,zW,jU mb i (by omega),hbit,hge]
    (repeat refine sd ?_)
    refine⟨i+1,⟨by omega,by rw [hsu,decide_eq_true (by omega)]; rfl⟩,?_,by omega⟩;exact yH
 have hd:¬ ((i:Int)<8):=by omega
 obtain rfl:i=8:=by omega
 rw [hk];refine xG hd ?_;exact .dv
end Go.Pd

/- Part S1. -/
namespace Go.Pd
open Go Go.Proofs
open BitVec renaming isValue -> ZA
namespace Ru
structure zB where
 loc:List (List Int)
 yi:List (BitVec 64)
structure jW where
 ag:Int
 fa:Int
 ln:Int
 rs:List zB
def zB.row (r:zB):List D:=[.sl 1 (rl r.loc),.sl 1 (us r.yi)]
def tD (l:List zB):List (List D):=l.map zB.row
def jW.cells (s:jW):List D:=[.int .i64 s.ag,.int .i64 s.fa,.int .i64 s.ln,.sl 2 (tD s.rs)]
def jW.d (s:jW):D:=.agg s.cells
def pH : zB:=⟨[],[]⟩
theorem oT (l:List zB):(tD l).length=l.length:=by simp [tD]
theorem Xc (l:List zB) {i:Nat} (h:i<l.length):(tD l).getD i []=(l.getD i pH).row:=by simp [tD,List.getD,h]
theorem UX (l:List zB):∀ e ∈ tD l,D.xR e=true:=by intro e he;simp only [tD,List.mem_map] at he;obtain⟨r,_,rfl⟩:=he;rfl
def iN {α:Type} (f:α->Bool):List α->Int->Int
 | [],_=>-1
 | x :: r,i=>if f x=true then i else iN f r (i+1)
theorem dS {α:Type} {f:α->Bool}:∀ {c:List α} {i:Int},0<=i->(0<=iN f c i ↔ c.any f=true)
 | [],i,_=>by simp [iN]
 | x :: r,i,h=>by
  unfold iN
  by_cases hx:f x=true
  ·rw [if_pos hx,List.any_cons,hx]; simp [h]
  ·rw [if_neg hx,dS (by omega),List.any_cons]; simp [hx]
def L2 (s:jW) (r:zB):Bool:=!decide ((r.loc.length:Int)= s.ln) || !decide ((r.yi.length:Int)= s.ln) || r.loc.any λl=>!decide ((l.length:Int)= s.ag)
def L3 (s:jW) (r:zB):Bool:=r.yi.any λf=>!decide (f >>> s.fa.toNat=0#64)
def Nb (s:jW):Int:=
 if s.ag<0\/4<s.ag\/s.fa<0\/8<s.fa\/s.ln<1\/16<s.ln then 2 else
 if 64<(s.rs.length:Int)\/512<(s.rs.length:Int)* s.ln then 8 else
 if s.rs.length=0 then 3 else if s.rs.any (L2 s)= true then 3 else if s.rs.any (L3 s)= true then 2 else 0
end Ru
open Ru
theorem OK {σ:St} {g:FuncId} {caps:List D} {f:BitVec 64->Bool} {c:List (BitVec 64)} (hl:c.length<=1000) (h:∀ x ∈ c,xP prog g ([.int .u64 (ui x)]++caps) σ (.bool (f x)) σ):xP prog 115 [.sl 1 (us c),.fn g caps] σ (.int .i64 (iN f c 0)) σ:=by
 refine xI func115 IR λhf=>?_;refine xG xT ?_
 refine xU (λk:Nat=>[(8,.int .i64 k),(7,.int .i64 c.length),(1,.fn g caps),(0,.sl 1 (us c))]) (λ_=>σ) (λk=>k<=c.length/\iN f c 0=iN f (c.drop k) k) (λk=>c.length-k) 0 ⟨θ _,rfl⟩ ?_ ?_
 ·exact wE
 intro k ⟨hk,hi⟩;refine xN mixed ?_
 by_cases hh:k<c.length
 ·have hd:((k:Int)<(c.length:Int)):=by omega
  rw [drop_cons (d:=0) hh,iN] at hi;simp only [simprocAttr,-ZA,↓zU,↓zD,zV,zT,zW,hd,xT,zX _ hh]
  (repeat refine sd ?_)
  refine .go (h _ (xK hh)) ?_
  cases hx:f (c.getD k 0)
  ·rw [hx,if_neg (by simp)] at hi;refine xJ ?_;refine⟨k+1,⟨by omega,hi⟩,?_,by omega⟩;exact yH
  ·rw [hx,if_pos rfl] at hi;refine xJ ?_;rw [hi];exact .same
 ·have hd:¬ ((k:Int)<(c.length:Int)):=by omega
  rw [List.drop_eq_nil_of_le (by omega),iN] at hi;refine xG hd ?_;rw [hi];exact .same
theorem aQ {σ:St} {g:FuncId} {caps:List D} {f:BitVec 64->Bool} {c:List (BitVec 64)} (hl:c.length<=1000) (h:∀ x ∈ c,xP prog g ([.int .u64 (ui x)]++caps) σ (.bool (f x)) σ):xP prog 58 [.sl 1 (us c),.fn g caps] σ (.bool (c.any f)) σ:=by
 refine xI func58 FV λhf=>?_;refine xJ ?_;refine .go (OK hl h) ?_;have hx:=dS (f:=f) (c:=c) (i:=0) (Int.le_refl 0)
 cases ha:c.any f
 ·have h1:¬ 0<=iN f c 0:=λy=>by rw [hx.1 y] at ha; cases ha
  refine xG h1 ?_;exact .same
 ·have h1:=hx.2 ha;refine xG h1 ?_;exact .same
end Go.Pd
