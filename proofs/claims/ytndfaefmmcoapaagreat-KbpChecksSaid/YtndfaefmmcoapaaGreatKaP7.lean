/- Part P7. -/
import Derived.Test.YtndfaefmmcoapaaGreatKaF18
set_option linter.unusedSectionVars false
set_option linter.unusedVariables false
set_option linter.unusedSimpArgs false
set_option linter.defProp false
set_option maxRecDepth 20000
set_option maxHeartbeats 1000000
namespace Go.Pd
open Go Go.Proofs
open Rs Fm
namespace Fm
inductive Tr where
 | nil
 | nd (op i e g:Int) (x y:Tr)
def aYo (f:List Nd):Nat->Nat->Tr
 | 0,_=>.nil
 | n+1,i=>.nd (f.getD i nd0).op (f.getD i nd0).i (f.getD i nd0).e (f.getD i nd0).g (if (xZ (f.getD i nd0).op).1.x=true then aYo f n (f.getD i nd0).x.toNat else .nil) (if (xZ (f.getD i nd0).op).1.y=true then aYo f n (f.getD i nd0).y.toNat else .nil)
def tree (f:List Nd) (i:Nat):Tr:=aYo f (i+1) i
def wfT : Tr->Prop
 | .nil=>False
 | .nd op i e g x y=>yK ⟨op,i,e,g,0,0⟩ 1=0/\(if (xZ op).1.x=true then wfT x else x = .nil)/\ (if (xZ op).1.y=true then wfT y else y = .nil)
def pS : Tr->List Nd->Int × List Nd
 | .nil,out=>(0,out)
 | .nd op i e g x y,out=>
  let a:=if (xZ op).1.x=true then pS x out else(0,out)
  let b:=if (xZ op).1.y=true then pS y a.2 else(0,a.2)
  match rO ⟨op,i,e,g,a.1,b.1⟩ b.2 0 with
  | some k=>((k:Int),b.2)
  | none=>((b.2.length:Int),b.2 ++ [⟨op,i,e,g,a.1,b.1⟩])
def canon (t:Tr):List Nd:=(pS t []).2
theorem uZ {p:Nd} {k:Nat} (h:yK p k=0):((xZ p.op).1.x=true->0<=p.x/\p.x.toNat<k)/\ ((xZ p.op).1.y=true->0<=p.y/\p.y.toNat<k)/\ ((xZ p.op).1.x=false->p.x=0)/\ ((xZ p.op).1.y=false->p.y=0):=by
 obtain⟨h1,h2⟩:=sG h;rw [zP] at h;obtain⟨_,h3,h4,_⟩:=h
 refine⟨fun hx=>?_,fun hy=>?_,fun hx=>?_,fun hy=>?_⟩
 ·have:=h1 hx; omega
 ·have:=h2 hy; omega
 ·rw [hx] at h3; simpa [xK] using h3
 ·rw [hy] at h4; simpa [xK] using h4
theorem qG {f:List Nd} (hv:zC f):∀ (n m i:Nat),i<n->i<m->i<f.length->aYo f n i=aYo f m i
 | 0,_,_,h,_,_=>by omega
 | _+1,0,_,_,h,_=>by omega
 | n+1,m+1,i,h1,h2,hi=>by
  obtain⟨ox,oy,_,_⟩:=uZ (hv i hi);unfold aYo
  congr 1
  ·by_cases hx:(xZ (f.getD i nd0).op).1.x=true
   ·rw [if_pos hx,if_pos hx];exact qG hv n m _ (by have:=ox hx; omega) (by have:=ox hx; omega) (by have:=ox hx; omega)
   ·rw [if_neg hx,if_neg hx]
  ·by_cases hy:(xZ (f.getD i nd0).op).1.y=true
   ·rw [if_pos hy,if_pos hy];exact qG hv n m _ (by have:=oy hy; omega) (by have:=oy hy; omega) (by have:=oy hy; omega)
   ·rw [if_neg hy,if_neg hy]
theorem uS {f:List Nd} (hv:zC f) {i:Nat} (hi:i<f.length):tree f i = .nd (f.getD i nd0).op (f.getD i nd0).i (f.getD i nd0).e (f.getD i nd0).g (if (xZ (f.getD i nd0).op).1.x=true then tree f (f.getD i nd0).x.toNat else .nil) (if (xZ (f.getD i nd0).op).1.y=true then tree f (f.getD i nd0).y.toNat else .nil):=by
 obtain⟨ox,oy,_,_⟩:=uZ (hv i hi);unfold tree;rw [aYo]
 congr 1
 ·by_cases hx:(xZ (f.getD i nd0).op).1.x=true
  ·rw [if_pos hx,if_pos hx];exact qG hv _ _ _ (by have:=ox hx; omega) (by omega) (by have:=ox hx; omega)
  ·rw [if_neg hx,if_neg hx]
 ·by_cases hy:(xZ (f.getD i nd0).op).1.y=true
  ·rw [if_pos hy,if_pos hy];exact qG hv _ _ _ (by have:=oy hy; omega) (by omega) (by have:=oy hy; omega)
  ·rw [if_neg hy,if_neg hy]
theorem aV5 {l r:List Nd} {k:Nat} (h:k<l.length):(l++r).getD k nd0=l.getD k nd0:=by
 simp only [List.getD,List.getElem?_append_left h]
theorem iP {l r:List Nd} (h:zC (l++r)):zC l:=fun k hk=>by
 have:=h k (by simp; omega)
 rwa [aV5 hk] at this
theorem lA {l r:List Nd} (hv:zC (l++r)):∀ (k:Nat),k<l.length->tree (l++r) k=tree l k:=by
 intro k
 induction k using Nat.strongRecOn with
 | _ k ih=>
  intro hk;obtain⟨ox,oy,_,_⟩:=uZ (iP hv k hk);rw [uS hv (by simp; omega),uS (iP hv) hk,aV5 hk]
  congr 1
  ·by_cases hx:(xZ (l.getD k nd0).op).1.x=true
   ·rw [if_pos hx,if_pos hx];exact ih _ (by have:=ox hx; omega) (by have:=ox hx; omega)
   ·rw [if_neg hx,if_neg hx]
  ·by_cases hy:(xZ (l.getD k nd0).op).1.y=true
   ·rw [if_pos hy,if_pos hy];exact ih _ (by have:=oy hy; omega) (by have:=oy hy; omega)
   ·rw [if_neg hy,if_neg hy]
theorem aR7 {f:List Nd} (hv:zC f):∀ (i:Nat),i<f.length->wfT (tree f i):=by
 intro i
 induction i using Nat.strongRecOn with
 | _ i ih=>
  intro hi;obtain⟨ox,oy,zx,zy⟩:=uZ (hv i hi);rw [uS hv hi]
  refine⟨nQ (hv i hi) ?_ ?_,?_,?_⟩
  ·split
   ·omega
   ·rename_i h; exact(zx (by simpa using h)).symm
  ·split
   ·omega
   ·rename_i h; exact(zy (by simpa using h)).symm
  ·by_cases hx:(xZ (f.getD i nd0).op).1.x=true
   ·rw [if_pos hx,if_pos hx];exact ih _ (by have:=ox hx; omega) (by have:=ox hx; omega)
   ·rw [if_neg hx,if_neg hx]
  ·by_cases hy:(xZ (f.getD i nd0).op).1.y=true
   ·rw [if_pos hy,if_pos hy];exact ih _ (by have:=oy hy; omega) (by have:=oy hy; omega)
   ·rw [if_neg hy,if_neg hy]
theorem aG {q:Nd}:∀ {l:List Nd} {k j:Nat},rO q l k=some j->k<=j/\j-k<l.length/\l.getD (j-k) nd0=q
 | [],_,_,h=>by cases h
 | p :: r,k,j,h=>by
  unfold rO at h
  by_cases e:q=p
  ·rw [if_pos e] at h; cases h; simp [e]
  ·rw [if_neg e] at h;obtain⟨h1,h2,h3⟩:=aG h;refine⟨by omega,by simp only [List.length_cons]; omega,?_⟩;rw [show j-k=j-(k+1)+ 1 by omega,List.getD_cons_succ]; exact h3
theorem aV2 {q:Nd}:∀ {l:List Nd} {k:Nat},rO q l k=none->q ∉ l
 | [],_,_=>by simp
 | p :: r,k,h=>by
  unfold rO at h
  by_cases e:q=p
  ·rw [if_pos e] at h; cases h
  ·rw [if_neg e] at h;simp only [List.mem_cons,not_or];exact⟨e,aV2 h⟩
theorem aQm {q:Nd}:∀ {l:List Nd} {k j:Nat},l.Nodup->j<l.length->l.getD j nd0=q->rO q l k=some (k+j)
 | [],_,_,_,h,_=>by simp at h
 | p :: r,k,j,hn,h,hq=>by
  unfold rO
  cases j with
  | zero=>rw [if_pos (by simpa using hq.symm)]; rfl
  | succ j=>
   rw [List.getD_cons_succ] at hq;have hj:j<r.length:=by simpa using h
   have hm:q ∈ r:=by
    have:r.getD j nd0=r[j]:=by simp [List.getD,hj]
    rw [<- hq,this]; exact List.getElem_mem hj
   rw [if_neg (fun e:q=p=>(List.nodup_cons.1 hn).1 (e ▸ hm)),aQm (List.nodup_cons.1 hn).2 hj hq];congr 1; omega
theorem iV : ∀ (t:Tr) (out:List Nd) (k:Nat),zC out->out.Nodup->k<out.length->tree out k=t->pS t out=((k:Int),out)
 | .nil,out,k,hv,hn,hk,ht=>by rw [uS hv hk] at ht; cases ht
 | .nd op i e g x y,out,k,hv,hn,hk,ht=>by
  obtain⟨ox,oy,zx,zy⟩:=uZ (hv k hk);rw [uS hv hk] at ht;simp only [Tr.nd.injEq] at ht;obtain⟨rfl,rfl,rfl,rfl,hx,hy⟩:=ht
  have ha:(if (xZ (out.getD k nd0).op).1.x=true then pS x out else(0,out))= ((out.getD k nd0).x,out):=by
   by_cases h:(xZ (out.getD k nd0).op).1.x=true
   ·rw [if_pos h] at hx ⊢;rw [iV x out _ hv hn (by have:=ox h; omega) hx,Int.toNat_of_nonneg (ox h).1]
   ·rw [if_neg h,zx (by simpa using h)]
  have hb:(if (xZ (out.getD k nd0).op).1.y=true then pS y out else(0,out))= ((out.getD k nd0).y,out):=by
   by_cases h:(xZ (out.getD k nd0).op).1.y=true
   ·rw [if_pos h] at hy ⊢;rw [iV y out _ hv hn (by have:=oy h; omega) hy,Int.toNat_of_nonneg (oy h).1]
   ·rw [if_neg h,zy (by simpa using h)]
  unfold pS;simp only [ha,hb];rw [aQm (k:=0) hn hk rfl,Nat.zero_add]
theorem nM : ∀ (t:Tr) (out:List Nd),wfT t->zC out->out.Nodup->zC (pS t out).2/\(pS t out).2.Nodup/\(∃ l,(pS t out).2=out++l)/\ ∃ k:Nat,(pS t out).1=k/\k<(pS t out).2.length/\tree (pS t out).2 k=t/\((pS t out).2=out\/k+1=(pS t out).2.length)
 | .nil,out,h,_,_=>h.elim
 | .nd op i e g x y,out,⟨h1,h2,h3⟩,hv,hn=>by
  have A:∃ (a:Int) (oa:List Nd),(if (xZ op).1.x=true then pS x out else(0,out))= (a,oa)/\ zC oa/\oa.Nodup/\(∃ l,oa=out++l)/\ (if (xZ op).1.x=true then 0<=a/\a<(oa.length:Int)/\ tree oa a.toNat=x/\(oa=out\/a+1=oa.length) else a=0/\oa=out):=by
   by_cases hx:(xZ op).1.x=true
   ·rw [if_pos hx] at h2 ⊢;obtain⟨v,n,l,k,e1,e2,e3,e4⟩:=nM x out h2 hv hn;refine⟨_,_,rfl,v,n,l,?_⟩;rw [if_pos hx,e1,Int.toNat_natCast];exact⟨by omega,by omega,e3,e4.imp id fun h=>by omega⟩
   ·rw [if_neg hx] at h2 ⊢;exact⟨0,out,rfl,hv,hn,⟨[],by simp⟩,by rw [if_neg hx]; exact⟨rfl,rfl⟩⟩
  obtain⟨a,oa,ea,va,na,⟨la,rfl⟩,ha⟩:=A
  have B:∃ (b:Int) (ob:List Nd),(if (xZ op).1.y=true then pS y (out++la) else(0,out++la))= (b,ob)/\ zC ob/\ob.Nodup/\(∃ l,ob=out++la++l)/\ (if (xZ op).1.y=true then 0<=b/\b<(ob.length:Int)/\ tree ob b.toNat=y/\(ob=out++la\/b+1=ob.length) else b=0/\ob=out++la):=by
   by_cases hy:(xZ op).1.y=true
   ·rw [if_pos hy] at h3 ⊢;obtain⟨v,n,l,k,e1,e2,e3,e4⟩:=nM y (out++la) h3 va na;refine⟨_,_,rfl,v,n,l,?_⟩;rw [if_pos hy,e1,Int.toNat_natCast];exact⟨by omega,by omega,e3,e4.imp id fun h=>by omega⟩
   ·rw [if_neg hy] at h3 ⊢;exact⟨0,out++la,rfl,va,na,⟨[],by simp⟩,by rw [if_neg hy]; exact⟨rfl,rfl⟩⟩
  obtain⟨b,ob,eb,vb,nb,⟨lb,rfl⟩,hb⟩:=B
  have hE:∀ n:Nat,(out++la++lb).length<=n->yK ⟨op,i,e,g,a,b⟩ n=0:=fun n hln=>by
   refine nQ (p:=⟨op,i,e,g,0,0⟩) h1 ?_ ?_
   ·simp only
    split
    ·rename_i h; rw [if_pos h] at ha; simp only [List.length_append] at hln ha; omega
    ·rename_i h; rw [if_neg h] at ha; exact ha.1
   ·simp only
    split
    ·rename_i h; rw [if_pos h] at hb; omega
    ·rename_i h; rw [if_neg h] at hb; exact hb.1
  have tx:(if (xZ op).1.x=true then tree (out++la++lb) a.toNat else .nil)= x:=by
   by_cases hx:(xZ op).1.x=true
   ·rw [if_pos hx] at ha ⊢;rw [lA vb _ (by omega)]; exact ha.2.2.1
   ·rw [if_neg hx] at h2 ⊢; exact h2.symm
  have ty:(if (xZ op).1.y=true then tree (out++la++lb) b.toNat else .nil)= y:=by
   by_cases hy:(xZ op).1.y=true
   ·rw [if_pos hy] at hb ⊢;exact hb.2.2.1
   ·rw [if_neg hy] at h3 ⊢; exact h3.symm
  have hr:pS (.nd op i e g x y) out=match rO ⟨op,i,e,g,a,b⟩ (out++la++lb) 0 with
    | some k=>((k:Int),out++la++lb)
    | none=>(((out++la++lb).length:Int),out++la++lb ++ [⟨op,i,e,g,a,b⟩]):=by
   conv=>lhs; unfold pS
   simp only [ea,eb]
  rw [hr]
  cases hq:rO ⟨op,i,e,g,a,b⟩ (out++la++lb) 0 with
  | some k=>
   obtain⟨_,k1,k2⟩:=aG hq;rw [Nat.sub_zero] at k1 k2;have hvk:=vb k k1;obtain⟨ox,oy,_,_⟩:=uZ hvk;rw [k2] at ox oy;simp only at ox oy
   refine⟨vb,nb,⟨la++lb,by simp⟩,k,rfl,k1,?_,.inl ?_⟩
   ·rw [uS vb k1,k2];simp only [tx,ty]
   ·show out++la++lb=out
    have e1:out++la++lb=out++la:=by
     by_cases hy:(xZ op).1.y=true
     ·rw [if_pos hy] at hb
      rcases hb.2.2.2 with h | h
      ·exact h
      ·have:=oy hy; omega
     ·rw [if_neg hy] at hb; exact hb.2
    have e2:out++la=out:=by
     by_cases hx:(xZ op).1.x=true
     ·rw [if_pos hx] at ha
      rcases ha.2.2.2 with h | h
      ·exact h
      ·have:=ox hx;rw [e1] at k1;omega
     ·rw [if_neg hx] at ha; exact ha.2
    rw [e1,e2]
  | none=>
   have vs:zC (out++la++lb ++ [⟨op,i,e,g,a,b⟩]):=iQ vb (hE _ (Nat.le_refl _))
   refine⟨vs,?_,⟨la++lb ++ [⟨op,i,e,g,a,b⟩],by simp⟩,(out++la++lb).length,rfl,by simp,?_,.inr (by simp only [List.length_append,List.length_singleton])⟩
   ·rw [List.nodup_append];refine⟨nb,by simp,fun p hp q hq'=>?_⟩;rw [List.mem_singleton] at hq';subst hq';exact fun e=>aV2 hq (e ▸ hp)
   ·have hgl:(out++la++lb ++ [(⟨op,i,e,g,a,b⟩:Nd)]).getD (out++la++lb).length nd0=⟨op,i,e,g,a,b⟩:=by simp [List.getD]
    rw [uS vs (by simp),hgl];simp only
    congr 1
    ·by_cases hx:(xZ op).1.x=true
     ·rw [if_pos hx] at tx ha ⊢;rw [lA vs _ (by simp only [List.length_append] at ha ⊢; omega)]; exact tx
     ·rw [if_neg hx] at tx ⊢; exact tx
    ·by_cases hy:(xZ op).1.y=true
     ·rw [if_pos hy] at ty hb ⊢;rw [lA vs _ (by omega)]; exact ty
     ·rw [if_neg hy] at ty ⊢; exact ty
end Fm
end Go.Pd
