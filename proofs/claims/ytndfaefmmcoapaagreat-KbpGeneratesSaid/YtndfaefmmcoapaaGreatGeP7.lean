/- Part P7. -/
import Derived.Test.YtndfaefmmcoapaaGreatGeF16
import Derived.Test.YtndfaefmmcoapaaGreatGeX9
set_option linter.unusedSectionVars false
set_option linter.unusedVariables false
set_option linter.unusedSimpArgs false
set_option linter.defProp false
set_option maxRecDepth 20000
set_option maxHeartbeats 1000000
open Go.Proofs.Tryz
open List renaming mem_range->γ,getD_cons_succ->δ,length_append->ε,mem_of_mem_take->ζ,all_eq_false->η
open Nat renaming zero_le->θ,pow_lt_pow_right->κ,testBit_lt_two_pow->μ,pow_le_pow_right->ν,lt_of_lt_of_le->ξ,or_lt_two_pow->ο
open Int renaming toNat_natCast->π,toNat_of_nonneg->τ,eq_ofNat_of_zero_le->υ
open Bool renaming true_and->χ
namespace Go.Pd
open Go Go.Proofs
open Rs Fm
namespace Fm
inductive Tr where
 | nil
 | nd (op i e g:Int) (x y:Tr)
def rm (f:List Nd):Nat->Nat->Tr
 | 0,_=>.nil
 | n+1,i=>.nd (f.getD i vV).op (f.getD i vV).i (f.getD i vV).e (f.getD i vV).g (if (xY (f.getD i vV).op).1.x=true then rm f n (f.getD i vV).x.toNat else .nil) (if (xY (f.getD i vV).op).1.y=true then rm f n (f.getD i vV).y.toNat else .nil)
def tree (f:List Nd) (i:Nat):Tr:=rm f (i+1) i
def Le : Tr->Prop
 | .nil=>False
 | .nd op i e g x y=>zP ⟨op,i,e,g,0,0⟩ 1=0/\(if (xY op).1.x=true then Le x else x = .nil)/\ (if (xY op).1.y=true then Le y else y = .nil)
def sI : Tr->List Nd->Int × List Nd
 | .nil,out=>(0,out)
 | .nd op i e g x y,out=>
  let a:=if (xY op).1.x=true then sI x out else(0,out)
  let b:=if (xY op).1.y=true then sI y a.2 else(0,a.2)
  match rE ⟨op,i,e,g,a.1,b.1⟩ b.2 0 with
  | some k=>((k:Int),b.2)
  | none=>((b.2.length:Int),b.2 ++ [⟨op,i,e,g,a.1,b.1⟩])
def canon (t:Tr):List Nd:=(sI t []).2
theorem tK {p:Nd} {k:Nat} (h:zP p k=0):((xY p.op).1.x=true->0<=p.x/\p.x.toNat<k)/\ ((xY p.op).1.y=true->0<=p.y/\p.y.toNat<k)/\ ((xY p.op).1.x=false->p.x=0)/\ ((xY p.op).1.y=false->p.y=0):=by
 obtain⟨h1,h2⟩:=nI h;rw [vU] at h;obtain⟨_,h3,h4,_⟩:=h
 refine⟨λhx=>?_,λhy=>?_,λhx=>?_,λhy=>?_⟩
 ·have:=h1 hx; omega
 ·have:=h2 hy; omega
 ·rw [hx] at h3; simpa [yQ] using h3
 ·rw [hy] at h4; simpa [yQ] using h4
theorem gW {f:List Nd} (hv:vP f):∀ (n m i:Nat),i<n->i<m->i<f.length->rm f n i=rm f m i
 | 0,_,_,h,_,_=>by omega
 | _+1,0,_,_,h,_=>by omega
 | n+1,m+1,i,h1,h2,hi=>by
  obtain⟨ox,oy,_,_⟩:=tK (hv i hi);unfold rm
  congr 1
  ·by_cases hx:(xY (f.getD i vV).op).1.x=true
   ·rw [if_pos hx,if_pos hx];exact gW hv n m _ (by have:=ox hx; omega) (by have:=ox hx; omega) (by have:=ox hx; omega)
   ·rw [if_neg hx,if_neg hx]
  ·by_cases hy:(xY (f.getD i vV).op).1.y=true
   ·rw [if_pos hy,if_pos hy];exact gW hv n m _ (by have:=oy hy; omega) (by have:=oy hy; omega) (by have:=oy hy; omega)
   ·rw [if_neg hy,if_neg hy]
theorem sF {f:List Nd} (hv:vP f) {i:Nat} (hi:i<f.length):tree f i = .nd (f.getD i vV).op (f.getD i vV).i (f.getD i vV).e (f.getD i vV).g (if (xY (f.getD i vV).op).1.x=true then tree f (f.getD i vV).x.toNat else .nil) (if (xY (f.getD i vV).op).1.y=true then tree f (f.getD i vV).y.toNat else .nil):=by
 obtain⟨ox,oy,_,_⟩:=tK (hv i hi);unfold tree;rw [rm]
 congr 1
 ·by_cases hx:(xY (f.getD i vV).op).1.x=true
  ·rw [if_pos hx,if_pos hx];exact gW hv _ _ _ (by have:=ox hx; omega) (by omega) (by have:=ox hx; omega)
  ·rw [if_neg hx,if_neg hx]
 ·by_cases hy:(xY (f.getD i vV).op).1.y=true
  ·rw [if_pos hy,if_pos hy];exact gW hv _ _ _ (by have:=oy hy; omega) (by omega) (by have:=oy hy; omega)
  ·rw [if_neg hy,if_neg hy]
theorem Yn {l r:List Nd} {k:Nat} (h:k<l.length):(l++r).getD k vV=l.getD k vV:=by simp only [List.getD,List.getElem?_append_left h]
theorem vh {l r:List Nd} (h:vP (l++r)):vP l:=λk hk=>by
 have:=h k (by simp; omega)
 rwa [Yn hk] at this
theorem xh {l r:List Nd} (hv:vP (l++r)):∀ (k:Nat),k<l.length->tree (l++r) k=tree l k:=by
 intro k
 induction k using Nat.strongRecOn with
 | _ k ih=>
  intro hk;obtain⟨ox,oy,_,_⟩:=tK (vh hv k hk);rw [sF hv (by simp; omega),sF (vh hv) hk,Yn hk]
  congr 1
  ·by_cases hx:(xY (l.getD k vV).op).1.x=true
   ·rw [if_pos hx,if_pos hx];exact ih _ (by have:=ox hx; omega) (by have:=ox hx; omega)
   ·rw [if_neg hx,if_neg hx]
  ·by_cases hy:(xY (l.getD k vV).op).1.y=true
   ·rw [if_pos hy,if_pos hy];exact ih _ (by have:=oy hy; omega) (by have:=oy hy; omega)
   ·rw [if_neg hy,if_neg hy]
theorem xy {f:List Nd} (hv:vP f):∀ (i:Nat),i<f.length->Le (tree f i):=by
 intro i
 induction i using Nat.strongRecOn with
 | _ i ih=>
  intro hi;obtain⟨ox,oy,zx,zy⟩:=tK (hv i hi);rw [sF hv hi]
  refine⟨cO (hv i hi) ?_ ?_,?_,?_⟩
  ·split
   ·omega
   ·rename_i h; exact(zx (by simpa using h)).symm
  ·split
   ·omega
   ·rename_i h; exact(zy (by simpa using h)).symm
  ·by_cases hx:(xY (f.getD i vV).op).1.x=true
   ·rw [if_pos hx,if_pos hx];exact ih _ (by have:=ox hx; omega) (by have:=ox hx; omega)
   ·rw [if_neg hx,if_neg hx]
  ·by_cases hy:(xY (f.getD i vV).op).1.y=true
   ·rw [if_pos hy,if_pos hy];exact ih _ (by have:=oy hy; omega) (by have:=oy hy; omega)
   ·rw [if_neg hy,if_neg hy]
theorem fg {q:Nd}:∀ {l:List Nd} {k j:Nat},rE q l k=some j->k<=j/\j-k<l.length/\l.getD (j-k) vV=q
 | [],_,_,h=>by cases h
 | p :: r,k,j,h=>by
  unfold rE at h
  by_cases e:q=p
  ·rw [if_pos e] at h; cases h; simp [e]
  ·rw [if_neg e] at h;obtain⟨h1,h2,h3⟩:=fg h;refine⟨by omega,by simp only [List.length_cons]; omega,?_⟩;rw [show j-k=j-(k+1)+ 1 by omega,δ]; exact h3
theorem Yq {q:Nd}:∀ {l:List Nd} {k:Nat},rE q l k=none->q ∉ l
 | [],_,_=>by simp
 | p :: r,k,h=>by
  unfold rE at h
  by_cases e:q=p
  ·rw [if_pos e] at h; cases h
  ·rw [if_neg e] at h;simp only [List.mem_cons,not_or];exact⟨e,Yq h⟩
theorem VX {q:Nd}:∀ {l:List Nd} {k j:Nat},l.Nodup->j<l.length->l.getD j vV=q->rE q l k=some (k+j)
 | [],_,_,_,h,_=>by simp at h
 | p :: r,k,j,hn,h,hq=>by
  unfold rE
  cases j with
  | zero=>rw [if_pos (by simpa using hq.symm)]; rfl
  | succ j=>
   rw [δ] at hq;have hj:j<r.length:=by simpa using h
   have hm:q ∈ r:=by
    have:r.getD j vV=r[j]:=by simp [List.getD,hj]
    rw [<- hq,this]; exact List.getElem_mem hj
   rw [if_neg (λe:q=p=>(List.nodup_cons.1 hn).1 (e ▸ hm)),VX (List.nodup_cons.1 hn).2 hj hq];congr 1; omega
theorem vx : ∀ (t:Tr) (out:List Nd) (k:Nat),vP out->out.Nodup->k<out.length->tree out k=t->sI t out=((k:Int),out)
 | .nil,out,k,hv,hn,hk,ht=>by rw [sF hv hk] at ht; cases ht
 | .nd op i e g x y,out,k,hv,hn,hk,ht=>by
  obtain⟨ox,oy,zx,zy⟩:=tK (hv k hk);rw [sF hv hk] at ht;simp only [Tr.nd.injEq] at ht;obtain⟨rfl,rfl,rfl,rfl,hx,hy⟩:=ht
  have ha:(if (xY (out.getD k vV).op).1.x=true then sI x out else(0,out))= ((out.getD k vV).x,out):=by
   by_cases h:(xY (out.getD k vV).op).1.x=true
   ·rw [if_pos h] at hx ⊢;rw [vx x out _ hv hn (by have:=ox h; omega) hx,τ (ox h).1]
   ·rw [if_neg h,zx (by simpa using h)]
  have hb:(if (xY (out.getD k vV).op).1.y=true then sI y out else(0,out))= ((out.getD k vV).y,out):=by
   by_cases h:(xY (out.getD k vV).op).1.y=true
   ·rw [if_pos h] at hy ⊢;rw [vx y out _ hv hn (by have:=oy h; omega) hy,τ (oy h).1]
   ·rw [if_neg h,zy (by simpa using h)]
  unfold sI;simp only [ha,hb];rw [VX (k:=0) hn hk rfl,Nat.zero_add]
theorem cJ : ∀ (t:Tr) (out:List Nd),Le t->vP out->out.Nodup->vP (sI t out).2/\(sI t out).2.Nodup/\(∃ l,(sI t out).2=out++l)/\ ∃ k:Nat,(sI t out).1=k/\k<(sI t out).2.length/\tree (sI t out).2 k=t/\((sI t out).2=out\/k+1=(sI t out).2.length)
 | .nil,out,h,_,_=>h.elim
 | .nd op i e g x y,out,⟨h1,h2,h3⟩,hv,hn=>by
  have A:∃ (a:Int) (oa:List Nd),(if (xY op).1.x=true then sI x out else(0,out))= (a,oa)/\ vP oa/\oa.Nodup/\(∃ l,oa=out++l)/\ (if (xY op).1.x=true then 0<=a/\a<(oa.length:Int)/\ tree oa a.toNat=x/\(oa=out\/a+1=oa.length) else a=0/\oa=out):=by
   by_cases hx:(xY op).1.x=true
   ·rw [if_pos hx] at h2 ⊢;obtain⟨v,n,l,k,e1,e2,e3,e4⟩:=cJ x out h2 hv hn;refine⟨_,_,rfl,v,n,l,?_⟩;rw [if_pos hx,e1,π];exact⟨by omega,by omega,e3,e4.imp id λh=>by omega⟩
   ·rw [if_neg hx] at h2 ⊢;exact⟨0,out,rfl,hv,hn,⟨[],by simp⟩,by rw [if_neg hx]; exact⟨rfl,rfl⟩⟩
  obtain⟨a,oa,ea,va,na,⟨la,rfl⟩,ha⟩:=A
  have B:∃ (b:Int) (ob:List Nd),(if (xY op).1.y=true then sI y (out++la) else(0,out++la))= (b,ob)/\ vP ob/\ob.Nodup/\(∃ l,ob=out++la++l)/\ (if (xY op).1.y=true then 0<=b/\b<(ob.length:Int)/\ tree ob b.toNat=y/\(ob=out++la\/b+1=ob.length) else b=0/\ob=out++la):=by
   by_cases hy:(xY op).1.y=true
   ·rw [if_pos hy] at h3 ⊢;obtain⟨v,n,l,k,e1,e2,e3,e4⟩:=cJ y (out++la) h3 va na;refine⟨_,_,rfl,v,n,l,?_⟩;rw [if_pos hy,e1,π];exact⟨by omega,by omega,e3,e4.imp id λh=>by omega⟩
   ·rw [if_neg hy] at h3 ⊢;exact⟨0,out++la,rfl,va,na,⟨[],by simp⟩,by rw [if_neg hy]; exact⟨rfl,rfl⟩⟩
  obtain⟨b,ob,eb,vb,nb,⟨lb,rfl⟩,hb⟩:=B
  have hE:∀ n:Nat,(out++la++lb).length<=n->zP ⟨op,i,e,g,a,b⟩ n=0:=λn hln=>by
   refine cO (p:=⟨op,i,e,g,0,0⟩) h1 ?_ ?_
   ·simp only
    split
    ·rename_i h; rw [if_pos h] at ha; simp only [ε] at hln ha; omega
    ·rename_i h; rw [if_neg h] at ha; exact ha.1
   ·simp only
    split
    ·rename_i h; rw [if_pos h] at hb; omega
    ·rename_i h; rw [if_neg h] at hb; exact hb.1
  have tx:(if (xY op).1.x=true then tree (out++la++lb) a.toNat else .nil)= x:=by
   by_cases hx:(xY op).1.x=true
   ·rw [if_pos hx] at ha ⊢;rw [xh vb _ (by omega)]; exact ha.2.2.1
   ·rw [if_neg hx] at h2 ⊢; exact h2.symm
  have ty:(if (xY op).1.y=true then tree (out++la++lb) b.toNat else .nil)= y:=by
   by_cases hy:(xY op).1.y=true
   ·rw [if_pos hy] at hb ⊢;exact hb.2.2.1
   ·rw [if_neg hy] at h3 ⊢; exact h3.symm
  have hr:sI (.nd op i e g x y) out=match rE ⟨op,i,e,g,a,b⟩ (out++la++lb) 0 with
    | some k=>((k:Int),out++la++lb)
    | none=>(((out++la++lb).length:Int),out++la++lb ++ [⟨op,i,e,g,a,b⟩]):=by
   conv=>lhs; unfold sI
   simp only [ea,eb]
  rw [hr]
  cases hq:rE ⟨op,i,e,g,a,b⟩ (out++la++lb) 0 with
  | some k=>
   obtain⟨_,k1,k2⟩:=fg hq;rw [Nat.sub_zero] at k1 k2;have hvk:=vb k k1;obtain⟨ox,oy,_,_⟩:=tK hvk;rw [k2] at ox oy;simp only at ox oy
   refine⟨vb,nb,⟨la++lb,by simp⟩,k,rfl,k1,?_,.inl ?_⟩
   ·rw [sF vb k1,k2];simp only [tx,ty]
   ·show out++la++lb=out
    have e1:out++la++lb=out++la:=by
     by_cases hy:(xY op).1.y=true
     ·rw [if_pos hy] at hb
      rcases hb.2.2.2 with h | h
      ·exact h
      ·have:=oy hy; omega
     ·rw [if_neg hy] at hb; exact hb.2
    have e2:out++la=out:=by
     by_cases hx:(xY op).1.x=true
     ·rw [if_pos hx] at ha
      rcases ha.2.2.2 with h | h
      ·exact h
      ·have:=ox hx;rw [e1] at k1;omega
     ·rw [if_neg hx] at ha; exact ha.2
    rw [e1,e2]
  | none=>
   have vs:vP (out++la++lb ++ [⟨op,i,e,g,a,b⟩]):=vi vb (hE _ (Nat.le_refl _))
   refine⟨vs,?_,⟨la++lb ++ [⟨op,i,e,g,a,b⟩],by simp⟩,(out++la++lb).length,rfl,by simp,?_,.inr (by simp only [ε,List.length_singleton])⟩
   ·rw [List.nodup_append];refine⟨nb,by simp,λp hp q hq'=>?_⟩;rw [List.mem_singleton] at hq';subst hq';exact λe=>Yq hq (e ▸ hp)
   ·have hgl:(out++la++lb ++ [(⟨op,i,e,g,a,b⟩:Nd)]).getD (out++la++lb).length vV=⟨op,i,e,g,a,b⟩:=by simp [List.getD]
    rw [sF vs (by simp),hgl];simp only
    congr 1
    ·by_cases hx:(xY op).1.x=true
     ·rw [if_pos hx] at tx ha ⊢;rw [xh vs _ (by simp only [ε] at ha ⊢; omega)]; exact tx
     ·rw [if_neg hx] at tx ⊢; exact tx
    ·by_cases hy:(xY op).1.y=true
     ·rw [if_pos hy] at ty hb ⊢;rw [xh vs _ (by omega)]; exact ty
     ·rw [if_neg hy] at ty ⊢; exact ty
end Fm
open Rs Fm
namespace Fm
structure Uv (f : List Nd) (s : CS) : Prop where
 v:vP s.out
 n:s.out.Nodup
 d:∀ z k,vX z s.done=some k->∃ i j:Nat,z=i/\k=j/\i<f.length/\j<s.out.length/\tree s.out j=tree f i
theorem vy {f:List Nd} (hv:vP f):∀ (n:Nat) {i:Nat} {s:CS},i<n->i<f.length->Uv f s ->
  (xE f n i s).1=(sI (tree f i) s.out).1/\(xE f n i s).2.out=(sI (tree f i) s.out).2/\Uv f (xE f n i s).2
 | 0,_,_,h,_,_=>by omega
 | n + 1,i,s,h,hi,hI=>by
  cases hu:vX (i:Int) s.done with
  | some k=>
   rw [xE,hu];obtain⟨i',j,e1,e2,_,e4,e5⟩:=hI.d _ _ hu;obtain rfl:i=i':=by omega
   rw [vx _ _ j hI.v hI.n e4 e5];exact⟨e2,rfl,hI⟩
  | none=>
   rw [lG hu];obtain⟨ox,oy,zx,zy⟩:=tK (hv i hi);have hsp:=cJ _ s.out (xy hv i hi) hI.v hI.n;rw [sF hv hi] at hsp ⊢;simp only;generalize hp:f.getD i vV=p at hsp ox oy zx zy ⊢
   have S1:(if (xY p.op).1.x=true then xE f n p.x.toNat s else(p.x,s)).1=(if (xY p.op).1.x=true then sI (tree f p.x.toNat) s.out else(0,s.out)).1 /\
     (if (xY p.op).1.x=true then xE f n p.x.toNat s else(p.x,s)).2.out=(if (xY p.op).1.x=true then sI (tree f p.x.toNat) s.out else(0,s.out)).2/\Uv f (if (xY p.op).1.x=true then xE f n p.x.toNat s else(p.x,s)).2:=by
    by_cases hx:(xY p.op).1.x=true
    ·rw [if_pos hx,if_pos hx];exact vy hv n (by have:=ox hx; omega) (by have:=ox hx; omega) hI
    ·rw [if_neg hx,if_neg hx];exact⟨zx (by simpa using hx),rfl,hI⟩
   have e1:(if (xY p.op).1.x=true then sI (if (xY p.op).1.x=true then tree f p.x.toNat else .nil) s.out else(0,s.out))= (if (xY p.op).1.x=true then sI (tree f p.x.toNat) s.out else(0,s.out)):=by
    by_cases hx:(xY p.op).1.x=true
    ·rw [if_pos hx,if_pos hx,if_pos hx]
    ·rw [if_neg hx,if_neg hx]
   have hfin:sI (.nd p.op p.i p.e p.g (if (xY p.op).1.x=true then tree f p.x.toNat else .nil) (if (xY p.op).1.y=true then tree f p.y.toNat else .nil)) s.out =
     (let a:=(if (xY p.op).1.x=true then sI (tree f p.x.toNat) s.out else(0,s.out))
      let b:=if (xY p.op).1.y=true then sI (tree f p.y.toNat) a.2 else(0,a.2)
      match rE ⟨p.op,p.i,p.e,p.g,a.1,b.1⟩ b.2 0 with
      | some k=>((k:Int),b.2)
      | none=>((b.2.length:Int),b.2 ++ [⟨p.op,p.i,p.e,p.g,a.1,b.1⟩])):=by
    conv=>lhs; unfold sI
    simp only [e1]
    by_cases hy:(xY p.op).1.y=true
    ·simp only [if_pos hy];all_goals rfl
    ·simp only [if_neg hy];all_goals rfl
   rw [hfin] at hsp ⊢;simp only at hsp ⊢;generalize (if (xY p.op).1.x=true then xE f n p.x.toNat s else(p.x,s))= A at S1 ⊢;generalize (if (xY p.op).1.x=true then sI (tree f p.x.toNat) s.out else(0,s.out))= A' at S1 hsp ⊢;obtain⟨a1,a2⟩:=A';obtain⟨A1,A2⟩:=A;obtain⟨rfl,rfl,IA⟩:=S1;simp only at hsp ⊢
   have S2:(if (xY p.op).1.y=true then xE f n p.y.toNat A2 else(p.y,A2)).1=(if (xY p.op).1.y=true then sI (tree f p.y.toNat) A2.out else(0,A2.out)).1 /\
     (if (xY p.op).1.y=true then xE f n p.y.toNat A2 else(p.y,A2)).2.out=(if (xY p.op).1.y=true then sI (tree f p.y.toNat) A2.out else(0,A2.out)).2/\Uv f (if (xY p.op).1.y=true then xE f n p.y.toNat A2 else(p.y,A2)).2:=by
    by_cases hy:(xY p.op).1.y=true
    ·rw [if_pos hy,if_pos hy];exact vy hv n (by have:=oy hy; omega) (by have:=oy hy; omega) IA
    ·rw [if_neg hy,if_neg hy];exact⟨zy (by simpa using hy),rfl,IA⟩
   generalize (if (xY p.op).1.y=true then xE f n p.y.toNat A2 else(p.y,A2))= B at S2 ⊢;generalize (if (xY p.op).1.y=true then sI (tree f p.y.toNat) A2.out else(0,A2.out))= B' at S2 hsp ⊢;obtain⟨b1,b2⟩:=B';obtain⟨B1,B2⟩:=B;obtain⟨rfl,rfl,IB⟩:=S2;replace IB:Uv f B2:=IB;simp only at hsp ⊢
   have hset:∀ (out':List Nd) (k:Nat),(∃ l,out'=B2.out++l)->vP out'->out'.Nodup->k<out'.length->tree out' k=tree f i->Uv f ⟨out',mE i k B2.done⟩:=by
    rintro out' k ⟨l,rfl⟩ hv' hn' hk' ht';refine⟨hv',hn',λz k' hz=>?_⟩;simp only at hz ⊢;rw [qX] at hz
    split at hz
    ·cases hz;exact⟨i,k,by assumption,rfl,hi,hk',ht'⟩
    ·obtain⟨i',j,q1,q2,q3,q4,q5⟩:=IB.d _ _ hz;exact⟨i',j,q1,q2,q3,by simp; omega,by rw [xh hv' _ q4]; exact q5⟩
   have htf:tree f i = .nd p.op p.i p.e p.g (if (xY p.op).1.x=true then tree f p.x.toNat else .nil) (if (xY p.op).1.y=true then tree f p.y.toNat else .nil):=by rw [sF hv hi,hp]
   unfold jP
   cases hq:rE ⟨p.op,p.i,p.e,p.g,A1,B1⟩ B2.out 0 with
   | some k=>
    rw [hq] at hsp;obtain⟨s1,s2,_,k',s3,s4,s5,_⟩:=hsp;simp only at s1 s2 s3 s4 s5 ⊢;obtain rfl:k=k':=by omega
    exact⟨trivial,trivial,hset _ k ⟨[],by simp⟩ s1 s2 s4 (by rw [s5,htf])⟩
   | none=>
    rw [hq] at hsp;obtain⟨s1,s2,_,k',s3,s4,s5,_⟩:=hsp;simp only at s1 s2 s3 s4 s5 ⊢;obtain rfl:B2.out.length=k':=by omega
    exact⟨trivial,trivial,hset _ _ ⟨_,rfl⟩ s1 s2 s4 (by rw [s5,htf])⟩
theorem eE {f:List Nd} (hv:vP f) {i:Nat} (hi:i<f.length):tC f i=canon (tree f i):=(vy hv (i+1) (s:=⟨[],[]⟩) (by omega) hi ⟨λk h=>by simp at h,.nil,λz k h=>by cases h⟩).2.1
theorem gM {t:Tr} (h:Le t):vP (canon t)/\ (canon t).Nodup/\0<(canon t).length/\tree (canon t) ((canon t).length-1)= t:=by
 obtain⟨v,n,_,k,e1,e2,e3,e4⟩:=cJ t [] h (λk h=>by simp at h) .nil;refine⟨v,n,by unfold canon; omega,?_⟩
 have:k=(canon t).length-1:=by
  rcases e4 with e4 | e4
  ·rw [e4] at e2; simp at e2
  ·unfold canon; omega
 rw [<- this]; exact e3
theorem kM {f:List Nd} (h:yW f=0):xD f=canon (tree f (f.length-1)):=by
 obtain⟨h1,h2,h3⟩:=zE h;have hl:0<f.length:=by cases f with | nil=>exact absurd rfl h1 | cons a b=>simp
 unfold xD rY;rw [if_neg (by omega),show ((f.length:Int)-1).toNat=f.length-1 by omega];exact eE h3 (by omega)
theorem Vq {f:List Nd} (h:yW f=0) {i:Nat} (hi:i<f.length):rY f i=canon (tree f i):=by obtain⟨h1,h2,h3⟩:=zE h;unfold rY;rw [if_neg (by omega),π];exact eE h3 hi
theorem VS : ∀ {f:List Nd} {i:Int},(∀ k,k<f.length->zP (f.getD k vV) (i+k)= 0)->bX f i=0
 | [],_,_=>rfl
 | p :: r,i,h=>by have h0:=h 0 (by simp);simp only [List.getD_cons_zero] at h0;unfold bX;rw [show (((0:Nat):Int))= 0 from rfl,Int.add_zero] at h0;rw [if_neg (by simpa using h0)];refine VS λk hk=>?_;have:=h (k+1) (by simpa using hk);rw [δ] at this;rw [show i+1+(k:Int)= i+((k+1:Nat):Int) by omega]; exact this
theorem cu {f:List Nd} (h1:0<f.length) (h2:f.length<=200) (h3:vP f):yW f=0:=by unfold yW;rw [if_neg (by intro e; rw [e] at h1; simp at h1),if_neg (by omega)];exact VS λk hk=>by rw [Int.zero_add]; exact h3 k hk
theorem kL {f:List Nd} (h:yW f=0):yW (xD f)= 0:= cu (gP h) (by have:=mS f ((f.length:Int)-1); exact this) (bD f)
theorem l9 {f:List Nd} (h:yW f=0):xD (xD f)= xD f:=by
 obtain⟨h1,h2,h3⟩:=zE h;have hl:0<f.length:=by cases f with | nil=>exact absurd rfl h1 | cons a b=>simp
 have hw:=xy h3 (f.length-1) (by omega);rw [kM (kL h),kM h,(gM hw).2.2.2]
end Fm
section
open Rs Fm
namespace Fm
end Fm
end
section
open Rs Fm
namespace Fm
def mZ (f:List Nd):Tr:=tree f (f.length-1)
theorem Rl {f:List Nd} (h:yW f=0):Le (mZ f):=by
 obtain⟨h1,h2,h3⟩:=zE h;have hl:0<f.length:=by cases f with | nil=>exact absurd rfl h1 | cons a b=>simp
 exact xy h3 _ (by omega)
theorem gH {f:List Nd} (h:yW f=0):tree (xD f) ((xD f).length-1)= mZ f/\(xD f).Nodup:=by rw [kM h];obtain⟨_,b,_,d⟩:=gM (Rl h);exact⟨d,b⟩
end Fm
end
section
open Rs Fm
namespace Fm
end Fm
end
section
open Rs Fm
namespace Fm
end Fm
end
section
open Rs Fm
namespace Fm
end Fm
end
end Go.Pd

/- Part E6. -/
namespace Go.Pd
open Go Go.Proofs
open BitVec renaming isValue -> ZA
open Rs Fm
namespace Fm
theorem QI (m:Nat) (h:m<=6):(xY (11+(m:Int))).1.fr=((2 ^ (m+1):Nat):Int):=by
 have hc:m=0\/m=1\/m=2\/m=3\/m=4\/m=5\/m=6:=by omega
 rcases hc with rfl | rfl | rfl | rfl | rfl | rfl | rfl <;> decide
theorem Yl (op:Int) (h:op=9\/op=10):(xY op).1.fr=1:=by rcases h with rfl | rfl <;> decide
theorem eu (op:Int) (h:18<=op/\op<=21):(xY op).1.fr=256:=by
 have hc:op=18\/op=19\/op=20\/op=21:=by omega
 rcases hc with rfl | rfl | rfl | rfl <;> decide
theorem Tn (op:Int) (h:1<=op/\op<=8):(xY op).1.fr=0:=by
 have hc:op=1\/op=2\/op=3\/op=4\/op=5\/op=6\/op=7\/op=8:=by omega
 rcases hc with rfl | rfl | rfl | rfl | rfl | rfl | rfl | rfl <;> decide
def lA (m k:Nat) (n:Int):Bool:=(List.range k).all λi=>!m.testBit i || decide ((i:Int)<n)
theorem lz {m k:Nat} {n:Int} (hm:m<2 ^ k) (hk:k<=31):iI m n=lA m k n:=by
 unfold iI lA;rw [Bool.eq_iff_iff,Bool.or_eq_true,decide_eq_true_iff,decide_eq_true_iff,List.all_eq_true]
 constructor
 ·rintro h i hi;have hi':=γ.1 hi
  rcases h with h | h
  ·rw [decide_eq_true (by omega),Bool.or_true]
  ·cases hb:m.testBit i with
   | false=>rfl
   | true=>
    have h2:m<2 ^ n.toNat:=by
     rcases Nat.div_eq_zero_iff.1 h with h | h
     ·have:=Nat.two_pow_pos n.toNat; omega
     ·exact h
    have h3:i<n.toNat:=Decidable.byContradiction λhh=>by have h4:=μ (ξ h2 (ν (by decide) (show n.toNat<=i by omega)));rw [h4] at hb; cases hb
    rw [decide_eq_true (by omega)]; rfl
 ·intro h;refine .inr (Nat.div_eq_of_lt (Nat.lt_pow_two_of_testBit _ λi hi=>?_))
  cases hb:m.testBit i with
  | false=>rfl
  | true=>
   have hik:i<k:=Decidable.byContradiction λhh=>by have h4:=μ (ξ hm (ν (by decide) (show k<=i by omega)));rw [h4] at hb; cases hb
   have:=h i (γ.2 hik);rw [hb] at this;simp at this;omega
theorem vg {m:Nd->Nat} {k:Nat}:∀ {l:List Nd},(∀ p ∈ l,m p<2 ^ k)->wW m l<2 ^ k:=by
 have key:∀ (l:List Nd) (a:Nat),(∀ p ∈ l,m p<2 ^ k)->a<2 ^ k->l.foldl (λa p=>a ||| m p) a<2 ^ k:=by
  intro l
  induction l with
  | nil=>intro a _ h; exact h
  | cons p r ih=>intro a h ha; exact ih _ (λq hq=>h q (List.mem_cons_of_mem _ hq)) (ο ha (h p (by simp)))
 exact λ{l} h=>key l 0 h (Nat.two_pow_pos k)
theorem R4 {p:Nd} {k:Int} (h:zP p k=0):1<=p.op/\p.op<=21:=by have h1:=(vU.1 h).1;refine Decidable.byContradiction λhc=>?_;rw [show xY p.op=(rB,false) from if_pos (by omega)] at h1;cases h1
theorem Wt {p:Nd} {k:Int} (h:zP p k=0) (hg:(xY p.op).1.gr=false):p.g=0:=by have h2:=(vU.1 h).2.2.2.1;simp only [hg,Bool.or_eq_false_iff,Bool.not_false,χ,decide_eq_false_iff_not] at h2;omega
theorem ck (f:List Nd):oZ f<2 ^ 4:=vg λp hp=>by
 obtain⟨k,hk⟩:=jX (iM f _) hp;unfold tW
 split
 ·rename_i hf;have:=rU hk hf;exact κ (by decide) (by omega)
 ·have:=eR hk;omega
theorem dw (f:List Nd):jZ f<2 ^ 8:=vg λp hp=>by
 obtain⟨k,hk⟩:=jX (iM f _) hp;unfold qI
 split
 ·rename_i hf;have:=mR hk hf;exact κ (by decide) (by omega)
 ·decide
end Fm
theorem Wz {op:Int} (h:1<=op/\op<=21):xA prog 180 [.int .i64 op] (.int .i64 (xY op).1.fr):=by
 refine xI func180 Iu λhf=>?_
 by_cases e9:op=9
 ·subst e9;rw [Yl 9 (.inl rfl)];refine xJ ?_;exact .same
 have c9:(op==9)= false:=by simpa using e9
 by_cases e10:op=10
 ·subst e10;rw [Yl 10 (.inr rfl)];refine xJ ?_;exact .same
 have c10:(op==10)= false:=by simpa using e10
 by_cases h11:11<=op
 case neg=>
  have h18:¬ 18<=op:=by omega
  rw [Tn op (by omega)];refine cE c9 c10 h11 h18 ?_;exact .same
 by_cases h17:op<=17
 case neg=>
  have h18:18<=op:=by omega
  rw [eu op (by omega)];refine bn c9 c10 h11 h17 h18 ?_;exact .same
 obtain⟨m,hm⟩:∃ m:Nat,op=11+(m:Int):=⟨(op-11).toNat,by omega⟩;have hfr:=QI m (by omega);rw [<- hm] at hfr;rw [hfr];have e1:IntKind.i64.wrap (op-11)= (m:Int):=by rw [wrap_i64 (by omega)]; omega
 have e2:IntKind.i64.wrap ((m:Int)+ 1)= ((m+1:Nat):Int):=wK (by omega);simp only [simprocAttr,-ZA,↓zU,↓zD,zV,zT,zW,c9,c10,h11,h17,e1,e2,TC (show m+1<=61 by omega)]
 (repeat refine sd ?_)
 exact .same
theorem aW (f:List Nd):xA prog 118 [.sl 6 (wN f)] (.int .i64 (zX f)):=by
 have hlen:=mS f ((f.length:Int)-1);rw [show rY f ((f.length:Int)-1)= xD f from rfl] at hlen;have hnd:=bD f;have hall:∀ p ∈ xD f,rA p<4096:=λp _=>by have:=eC p.op; unfold rA; omega
 refine xI func118 IM λhf=>?_;refine xJ ?_;refine .go (cr (oQ f)) ?_;refine xJ ?_;unfold zX;generalize xD f=c at hlen hnd hall
 refine xU (λk:Nat=>[(5,.int .i64 k),(4,.int .i64 (wW rA (c.take k))),(3,.sl 6 (wN c))]) (λ_=>⟨0,[]⟩) (λk=>k<=c.length) (λk=>c.length-k) 0 (θ _) ?_ ?_
 ·(refine yR.same ?_; simp [yS,Fr.get,wW])
 intro k hk;refine xN mixed ?_
 by_cases h:k<c.length
 ·have hd:((k:Int)<(c.length:Int)):=by omega
  have hw:IntKind.i64.wrap ((k:Int)+ 1)= ((k+1:Nat):Int):=wrap_i64 (by omega);have hg:=sE c h;have hq:=hnd k h;have hlt:wW rA (c.take k)<2 ^ 12:=mK λp hp=>hall p (ζ hp);have hlp:=hall _ (xK (d:=vV) h);have hs:wW rA (c.take (k+1))= wW rA (c.take k) ||| rA (c.getD k vV):=by rw [yE (d:=vV) h,kU]
  generalize c.getD k vV=p at hg hq hs hlp;have hop:1<=p.op/\p.op<=21:=R4 hq;have hfr:=Wz hop;have hu:=eC p.op;rw [show (xY p.op).1.fr=((rA p:Nat):Int) from(τ hu.1).symm] at hfr;have hor:=jh (a:=wW rA (c.take k)) (b:=rA p) (by omega) (by omega);simp only [simprocAttr,-ZA,↓zU,↓zD,zV,zT,zW,hd,xM,hg,Nd.row]
  (repeat refine sd ?_)
  refine .go (cq hfr) ?_;refine vR hor ?_;refine⟨k+1,by omega,?_,by omega⟩;rw [hs]
  (refine yR.same ?_; simp only [yS,Fr.get,simprocAttr,-ZA,zS])
  exact hw
 have hd:¬ ((k:Int)<(c.length:Int)):=by omega
 obtain rfl:k=c.length:=by omega
 refine yO hd xM ?_;exact .same
theorem p3 (f:List Nd):xA prog 181 [.sl 6 (wN f)] (.int .i64 (oZ f)):=by
 have hlen:=mS f ((f.length:Int)-1);rw [show rY f ((f.length:Int)-1)= xD f from rfl] at hlen;have hnd:=bD f
 have hall:∀ p ∈ xD f,tW p<4096:=λp hp=>by obtain⟨k,hk⟩:=jX hnd hp;exact cj hk
 refine xI func181 Iv λhf=>?_;refine xJ ?_;refine .go (cr (oQ f)) ?_;refine xJ ?_;unfold oZ;generalize xD f=c at hlen hnd hall
 refine xU (λk:Nat=>[(5,.int .i64 k),(4,.int .i64 (wW tW (c.take k))),(3,.sl 6 (wN c))]) (λ_=>⟨0,[]⟩) (λk=>k<=c.length) (λk=>c.length-k) 0 (θ _) ?_ ?_
 ·(refine yR.same ?_; simp [yS,Fr.get,wW])
 intro k hk;refine xN mixed ?_
 by_cases h:k<c.length
 ·have hd:((k:Int)<(c.length:Int)):=by omega
  have hw:IntKind.i64.wrap ((k:Int)+ 1)= ((k+1:Nat):Int):=wrap_i64 (by omega);have hg:=sE c h;have hq:=hnd k h;have hlt:wW tW (c.take k)<2 ^ 12:=mK λp hp=>hall p (ζ hp);have hlp:=hall _ (xK (d:=vV) h);have hs:wW tW (c.take (k+1))= wW tW (c.take k) ||| tW (c.getD k vV):=by rw [yE (d:=vV) h,kU]
  generalize c.getD k vV=p at hg hq hs hlp;have hag:=VK p.op;have hgr:=eR hq;obtain⟨g,hgg⟩:=υ hgr.1
  cases hu:(xY p.op).1.ag with
  | false=>
   rw [hu] at hag;have hfn:tW p=g:=by rw [tW,if_neg (by rw [hu]; simp),hgg,π]
   have hor:=jh (a:=wW tW (c.take k)) (b:=g) (by omega) (by omega);simp only [simprocAttr,-ZA,↓zU,↓zD,zV,zT,zW,hd,xM,hg,Nd.row]
   (repeat refine sd ?_)
   refine .go (cq hag) ?_;simp only [simprocAttr,-ZA,↓zU,↓zD,zV,zT,zW,xM,hg,Nd.row,hgg,hor]
   (repeat refine sd ?_)
   refine⟨k+1,by omega,?_,by omega⟩;rw [hs,hfn]
   (refine yR.same ?_; simp only [yS,Fr.get,simprocAttr,-ZA,zS])
   exact hw
  | true=>
   rw [hu] at hag;obtain⟨i0,i3⟩:=rU hq hu;obtain⟨m,hm⟩:=υ i0;have hm3:m<=3:=by omega
   have hg0:p.g=0:=Wt hq (by rcases aX p.op with h | h | h | h | h <;> simp_all);have hp2:(2:Nat)^ m<2 ^ 12:=κ (by omega) (by omega);have hfn:tW p=2 ^ m:=by rw [tW,if_pos hu,hm,π]
   have hor:=jh (a:=wW tW (c.take k)) (b:=2 ^ m) (by omega) (by omega);have hor2:=jh (a:=wW tW (c.take k) ||| 2 ^ m) (b:=0) (by have:=ο hlt hp2; omega) (by omega);rw [Nat.or_zero] at hor2;simp only [simprocAttr,-ZA,↓zU,↓zD,zV,zT,zW,hd,xM,hg,Nd.row]
   (repeat refine sd ?_)
   refine .go (cq hag) ?_;simp only [simprocAttr,-ZA,↓zU,↓zD,zV,zT,zW,xM,hg,Nd.row,hm,TC (show m<=61 by omega),hor,hg0,hor2]
   (repeat refine sd ?_)
   refine⟨k+1,by omega,?_,by omega⟩;rw [hs,hfn]
   (refine yR.same ?_; simp only [yS,Fr.get,simprocAttr,-ZA,zS])
   exact⟨hw,hor2⟩
 have hd:¬ ((k:Int)<(c.length:Int)):=by omega
 obtain rfl:k=c.length:=by omega
 refine yO hd xM ?_;exact .same
open Rs Fm
theorem wz (f:List Nd) (a b:Int):xA prog 119 [.sl 6 (wN f),.int .i64 a,.int .i64 b] (.bool (sL f a b)):=by
 have hA:=p3 f;have hF:=Ww f;have hC:=sb f;have ha:=lz (n:=a) (ck f) (by decide);have hb:=lz (n:=b) (dw f) (by decide);have la:=ck f;have lb:=dw f;unfold sL;rw [ha,hb];generalize oZ f=ma at hA la;generalize jZ f=mb at hF lb;refine xI func119 IN λhf=>?_;refine xJ ?_;refine .go (cr hC) ?_;by_cases hz:yW f=0
 case neg=>
  have e:(yW f != 0)= true:=by simpa using hz
  refine xH e ?_;exact .drop (by simp) (by simp [vw,hz])
 have e:(yW f != 0)= false:=by simpa using hz
 rw [decide_eq_true hz,χ];refine xH e ?_
 refine xU (λi:Nat=>[(7,.int .i64 i),(2,.int .i64 b),(1,.int .i64 a),(0,.sl 6 (wN f))]) (λ_=>⟨0,[]⟩) (λi=>i<=4/\lA ma i a=true) (λi=>4-i) 0 ⟨θ _,rfl⟩ ?_ ?_
 ·exact wO
 rintro i ⟨hi,hk⟩;refine xN mixed ?_
 by_cases h4:i<4
 ·have hd:((i:Int)<4):=by omega
  have hsu:lA ma (i+1) a=(lA ma i a&&(!ma.testBit i || decide ((i:Int)<a))):=by unfold lA; rw [List.range_succ,List.all_append,List.all_cons,List.all_nil,Bool.and_true]
  have hbit:(((ma / 2 ^ i:Nat):Int).tmod 2==1)= ma.testBit i:=by rw [W2,ah]
  rw [hk,χ] at hsu;refine xH hd ?_;refine .go (cr hA) ?_
  cases hb2:ma.testBit i with
  | false=>
   rw [hb2] at hbit hsu;simp only [simprocAttr,-ZA,↓zU,↓zD,zV,zT,zW,kA ma i (by omega),hbit]
   (repeat refine sd ?_)
   refine⟨i+1,⟨by omega,by rw [hsu]; rfl⟩,?_,by omega⟩;exact yL
  | true=>
   rw [hb2] at hbit hsu
   by_cases hge:a<=(i:Int)
   ·simp only [simprocAttr,-ZA,↓zU,↓zD,zV,zT,zW,kA ma i (by omega),hbit,hge]
    (repeat refine sd ?_)
    have hf0:lA ma 4 a=false:=by unfold lA;rw [η];exact⟨i,γ.2 h4,by rw [hb2,decide_eq_false (by omega)]; simp⟩
    exact .drop (by simp) (by simp [vw,hf0])
   ·simp only [simprocAttr,-ZA,↓zU,↓zD,zV,zT,zW,kA ma i (by omega),hbit,hge]
    (repeat refine sd ?_)
    refine⟨i+1,⟨by omega,by rw [hsu,decide_eq_true (by omega)]; rfl⟩,?_,by omega⟩;exact yL
 have hd:¬ ((i:Int)<4):=by omega
 obtain rfl:i=4:=by omega
 rw [hk,χ];refine xH hd ?_
 refine xU (λi:Nat=>[(8,.int .i64 i),(2,.int .i64 b),(0,.sl 6 (wN f))]) (λ_=>⟨0,[]⟩) (λi=>i<=8/\lA mb i b=true) (λi=>8-i) 0 ⟨θ _,rfl⟩ ?_ ?_
 ·exact wO
 clear hd hi hk;rintro i ⟨hi,hk⟩;refine xN mixed ?_
 by_cases h4:i<8
 ·have hd:((i:Int)<8):=by omega
  have hsu:lA mb (i+1) b=(lA mb i b&&(!mb.testBit i || decide ((i:Int)<b))):=by unfold lA; rw [List.range_succ,List.all_append,List.all_cons,List.all_nil,Bool.and_true]
  have hbit:(((mb / 2 ^ i:Nat):Int).tmod 2==1)= mb.testBit i:=by rw [W2,ah]
  rw [hk,χ] at hsu;refine xH hd ?_;refine .go (cr hF) ?_
  cases hb2:mb.testBit i with
  | false=>
   rw [hb2] at hbit hsu;simp only [simprocAttr,-ZA,↓zU,↓zD,zV,zT,zW,kA mb i (by omega),hbit]
   (repeat refine sd ?_)
   refine⟨i+1,⟨by omega,by rw [hsu]; rfl⟩,?_,by omega⟩;exact yL
  | true=>
   rw [hb2] at hbit hsu
   by_cases hge:b<=(i:Int)
   ·simp only [simprocAttr,-ZA,↓zU,↓zD,zV,zT,zW,kA mb i (by omega),hbit,hge]
    (repeat refine sd ?_)
    have hf0:lA mb 8 b=false:=by unfold lA;rw [η];exact⟨i,γ.2 h4,by rw [hb2,decide_eq_false (by omega)]; simp⟩
    exact .drop (by simp) (by simp [vw,hf0])
   ·simp only [simprocAttr,-ZA,↓zU,↓zD,zV,zT,zW,kA mb i (by omega),hbit,hge]
    (repeat refine sd ?_)
    refine⟨i+1,⟨by omega,by rw [hsu,decide_eq_true (by omega)]; rfl⟩,?_,by omega⟩;exact yL
 have hd:¬ ((i:Int)<8):=by omega
 obtain rfl:i=8:=by omega
 rw [hk];refine xH hd ?_;exact .dv
end Go.Pd

/- Part S1. -/
namespace Go.Pd
open Go Go.Proofs
open BitVec renaming isValue -> ZA
namespace Ru
structure wX where
 loc:List (List Int)
 ye:List (BitVec 64)
structure jO where
 ag:Int
 fa:Int
 ln:Int
 rs:List wX
def wX.row (r:wX):List D:=[.sl 1 (rl r.loc),.sl 1 (us r.ye)]
def sY (l:List wX):List (List D):=l.map wX.row
def jO.cells (s:jO):List D:=[.int .i64 s.ag,.int .i64 s.fa,.int .i64 s.ln,.sl 2 (sY s.rs)]
def jO.d (s:jO):D:=.agg s.cells
def pG : wX:=⟨[],[]⟩
theorem oU (l:List wX):(sY l).length=l.length:=by simp [sY]
theorem Xg (l:List wX) {i:Nat} (h:i<l.length):(sY l).getD i []=(l.getD i pG).row:=by simp [sY,List.getD,h]
theorem UX (l:List wX):∀ e ∈ sY l,D.xR e=true:=by intro e he;simp only [sY,List.mem_map] at he;obtain⟨r,_,rfl⟩:=he;rfl
def kH {α:Type} (f:α->Bool):List α->Int->Int
 | [],_=>-1
 | x :: r,i=>if f x=true then i else kH f r (i+1)
theorem dR {α:Type} {f:α->Bool}:∀ {c:List α} {i:Int},0<=i->(0<=kH f c i ↔ c.any f=true)
 | [],i,_=>by simp [kH]
 | x :: r,i,h=>by
  unfold kH
  by_cases hx:f x=true
  ·rw [if_pos hx,List.any_cons,hx]; simp [h]
  ·rw [if_neg hx,dR (by omega),List.any_cons]; simp [hx]
def Kw (s:jO) (r:wX):Bool:=!decide ((r.loc.length:Int)= s.ln) || !decide ((r.ye.length:Int)= s.ln) || r.loc.any λl=>!decide ((l.length:Int)= s.ag)
def Kz (s:jO) (r:wX):Bool:=r.ye.any λf=>!decide (f >>> s.fa.toNat=0#64)
def NZ (s:jO):Int:=
 if s.ag<0\/4<s.ag\/s.fa<0\/8<s.fa\/s.ln<1\/16<s.ln then 2 else
 if 64<(s.rs.length:Int)\/512<(s.rs.length:Int)* s.ln then 8 else
 if s.rs.length=0 then 3 else if s.rs.any (Kw s)= true then 3 else if s.rs.any (Kz s)= true then 2 else 0
end Ru
open Ru
theorem OH {σ:St} {g:FuncId} {caps:List D} {f:BitVec 64->Bool} {c:List (BitVec 64)} (hl:c.length<=1000) (h:∀ x ∈ c,xQ prog g ([.int .u64 (ui x)]++caps) σ (.bool (f x)) σ):xQ prog 115 [.sl 1 (us c),.fn g caps] σ (.int .i64 (kH f c 0)) σ:=by
 refine xI func115 IJ λhf=>?_;refine xH xT ?_
 refine xU (λk:Nat=>[(8,.int .i64 k),(7,.int .i64 c.length),(1,.fn g caps),(0,.sl 1 (us c))]) (λ_=>σ) (λk=>k<=c.length/\kH f c 0=kH f (c.drop k) k) (λk=>c.length-k) 0 ⟨θ _,rfl⟩ ?_ ?_
 ·exact wO
 intro k ⟨hk,hi⟩;refine xN mixed ?_
 by_cases hh:k<c.length
 ·have hd:((k:Int)<(c.length:Int)):=by omega
  rw [drop_cons (d:=0) hh,kH] at hi;simp only [simprocAttr,-ZA,↓zU,↓zD,zV,zT,zW,hd,xT,yF _ hh]
  (repeat refine sd ?_)
  refine .go (h _ (xK hh)) ?_
  cases hx:f (c.getD k 0)
  ·rw [hx,if_neg (by simp)] at hi;refine xJ ?_;refine⟨k+1,⟨by omega,hi⟩,?_,by omega⟩;exact yL
  ·rw [hx,if_pos rfl] at hi;refine xJ ?_;rw [hi];exact .same
 ·have hd:¬ ((k:Int)<(c.length:Int)):=by omega
  rw [List.drop_eq_nil_of_le (by omega),kH] at hi;refine xH hd ?_;rw [hi];exact .same
theorem aP {σ:St} {g:FuncId} {caps:List D} {f:BitVec 64->Bool} {c:List (BitVec 64)} (hl:c.length<=1000) (h:∀ x ∈ c,xQ prog g ([.int .u64 (ui x)]++caps) σ (.bool (f x)) σ):xQ prog 58 [.sl 1 (us c),.fn g caps] σ (.bool (c.any f)) σ:=by
 refine xI func58 FM λhf=>?_;refine xJ ?_;refine .go (OH hl h) ?_;have hx:=dR (f:=f) (c:=c) (i:=0) (Int.le_refl 0)
 cases ha:c.any f
 ·have h1:¬ 0<=kH f c 0:=λy=>by rw [hx.1 y] at ha; cases ha
  refine xH h1 ?_;exact .same
 ·have h1:=hx.2 ha;refine xH h1 ?_;exact .same
end Go.Pd
