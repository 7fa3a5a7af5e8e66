/- Part P7. -/
import Derived.Test.YtndfaefmmcoapaaGreatUeF16
import Derived.Test.YtndfaefmmcoapaaGreatUePQ
set_option linter.unusedSectionVars false
set_option linter.unusedVariables false
set_option linter.unusedSimpArgs false
set_option linter.defProp false
set_option maxRecDepth 20000
set_option maxHeartbeats 1000000
namespace Go.Pd
open Go Go.Proofs
open Rs Fm
namespace Fm
inductive Tr where
 | nil
 | nd (op i e g:Int) (x y:Tr)
def aVc (f:List Nd):Nat->Nat->Tr
 | 0,_=>.nil
 | n+1,i=>.nd (f.getD i nd0).op (f.getD i nd0).i (f.getD i nd0).e (f.getD i nd0).g (if (xZ (f.getD i nd0).op).1.x=true then aVc f n (f.getD i nd0).x.toNat else .nil) (if (xZ (f.getD i nd0).op).1.y=true then aVc f n (f.getD i nd0).y.toNat else .nil)
def tree (f:List Nd) (i:Nat):Tr:=aVc f (i+1) i
def wfT : Tr->Prop
 | .nil=>False
 | .nd op i e g x y=>yA ⟨op,i,e,g,0,0⟩ 1=0/\(if (xZ op).1.x=true then wfT x else x = .nil)/\ (if (xZ op).1.y=true then wfT y else y = .nil)
def oC : Tr->List Nd->Int × List Nd
 | .nil,out=>(0,out)
 | .nd op i e g x y,out=>
  let a:=if (xZ op).1.x=true then oC x out else(0,out)
  let b:=if (xZ op).1.y=true then oC y a.2 else(0,a.2)
  match qG ⟨op,i,e,g,a.1,b.1⟩ b.2 0 with
  | some k=>((k:Int),b.2)
  | none=>((b.2.length:Int),b.2 ++ [⟨op,i,e,g,a.1,b.1⟩])
def canon (t:Tr):List Nd:=(oC t []).2
theorem uA {p:Nd} {k:Nat} (h:yA p k=0):((xZ p.op).1.x=true->0<=p.x/\p.x.toNat<k)/\ ((xZ p.op).1.y=true->0<=p.y/\p.y.toNat<k)/\ ((xZ p.op).1.x=false->p.x=0)/\ ((xZ p.op).1.y=false->p.y=0):=by
 obtain⟨h1,h2⟩:=qZ h;rw [wT] at h;obtain⟨_,h3,h4,_⟩:=h
 refine⟨fun hx=>?_,fun hy=>?_,fun hx=>?_,fun hy=>?_⟩
 ·have:=h1 hx; omega
 ·have:=h2 hy; omega
 ·rw [hx] at h3; simpa [xD] using h3
 ·rw [hy] at h4; simpa [xD] using h4
theorem oQ {f:List Nd} (hv:wK f):∀ (n m i:Nat),i<n->i<m->i<f.length->aVc f n i=aVc f m i
 | 0,_,_,h,_,_=>by omega
 | _+1,0,_,_,h,_=>by omega
 | n+1,m+1,i,h1,h2,hi=>by
  obtain⟨ox,oy,_,_⟩:=uA (hv i hi);unfold aVc
  congr 1
  ·by_cases hx:(xZ (f.getD i nd0).op).1.x=true
   ·rw [if_pos hx,if_pos hx];exact oQ hv n m _ (by have:=ox hx; omega) (by have:=ox hx; omega) (by have:=ox hx; omega)
   ·rw [if_neg hx,if_neg hx]
  ·by_cases hy:(xZ (f.getD i nd0).op).1.y=true
   ·rw [if_pos hy,if_pos hy];exact oQ hv n m _ (by have:=oy hy; omega) (by have:=oy hy; omega) (by have:=oy hy; omega)
   ·rw [if_neg hy,if_neg hy]
theorem tW {f:List Nd} (hv:wK f) {i:Nat} (hi:i<f.length):tree f i = .nd (f.getD i nd0).op (f.getD i nd0).i (f.getD i nd0).e (f.getD i nd0).g (if (xZ (f.getD i nd0).op).1.x=true then tree f (f.getD i nd0).x.toNat else .nil) (if (xZ (f.getD i nd0).op).1.y=true then tree f (f.getD i nd0).y.toNat else .nil):=by
 obtain⟨ox,oy,_,_⟩:=uA (hv i hi);unfold tree;rw [aVc]
 congr 1
 ·by_cases hx:(xZ (f.getD i nd0).op).1.x=true
  ·rw [if_pos hx,if_pos hx];exact oQ hv _ _ _ (by have:=ox hx; omega) (by omega) (by have:=ox hx; omega)
  ·rw [if_neg hx,if_neg hx]
 ·by_cases hy:(xZ (f.getD i nd0).op).1.y=true
  ·rw [if_pos hy,if_pos hy];exact oQ hv _ _ _ (by have:=oy hy; omega) (by omega) (by have:=oy hy; omega)
  ·rw [if_neg hy,if_neg hy]
theorem aS7 {l r:List Nd} {k:Nat} (h:k<l.length):(l++r).getD k nd0=l.getD k nd0:=by simp only [List.getD,List.getElem?_append_left h]
theorem eZ {l r:List Nd} (h:wK (l++r)):wK l:=fun k hk=>by
 have:=h k (by simp; omega)
 rwa [aS7 hk] at this
theorem iO {l r:List Nd} (hv:wK (l++r)):∀ (k:Nat),k<l.length->tree (l++r) k=tree l k:=by
 intro k
 induction k using Nat.strongRecOn with
 | _ k ih=>
  intro hk;obtain⟨ox,oy,_,_⟩:=uA (eZ hv k hk);rw [tW hv (by simp; omega),tW (eZ hv) hk,aS7 hk]
  congr 1
  ·by_cases hx:(xZ (l.getD k nd0).op).1.x=true
   ·rw [if_pos hx,if_pos hx];exact ih _ (by have:=ox hx; omega) (by have:=ox hx; omega)
   ·rw [if_neg hx,if_neg hx]
  ·by_cases hy:(xZ (l.getD k nd0).op).1.y=true
   ·rw [if_pos hy,if_pos hy];exact ih _ (by have:=oy hy; omega) (by have:=oy hy; omega)
   ·rw [if_neg hy,if_neg hy]
theorem aNs {f:List Nd} (hv:wK f):∀ (i:Nat),i<f.length->wfT (tree f i):=by
 intro i
 induction i using Nat.strongRecOn with
 | _ i ih=>
  intro hi;obtain⟨ox,oy,zx,zy⟩:=uA (hv i hi);rw [tW hv hi]
  refine⟨lQ (hv i hi) ?_ ?_,?_,?_⟩
  ·split
   ·omega
   ·rename_i h; exact(zx (by simpa using h)).symm
  ·split
   ·omega
   ·rename_i h; exact(zy (by simpa using h)).symm
  ·by_cases hx:(xZ (f.getD i nd0).op).1.x=true
   ·rw [if_pos hx,if_pos hx];exact ih _ (by have:=ox hx; omega) (by have:=ox hx; omega)
   ·rw [if_neg hx,if_neg hx]
  ·by_cases hy:(xZ (f.getD i nd0).op).1.y=true
   ·rw [if_pos hy,if_pos hy];exact ih _ (by have:=oy hy; omega) (by have:=oy hy; omega)
   ·rw [if_neg hy,if_neg hy]
theorem aZo {q:Nd}:∀ {l:List Nd} {k j:Nat},qG q l k=some j->k<=j/\j-k<l.length/\l.getD (j-k) nd0=q
 | [],_,_,h=>by cases h
 | p :: r,k,j,h=>by
  unfold qG at h
  by_cases e:q=p
  ·rw [if_pos e] at h; cases h; simp [e]
  ·rw [if_neg e] at h;obtain⟨h1,h2,h3⟩:=aZo h;refine⟨by omega,by simp only [List.length_cons]; omega,?_⟩;rw [show j-k=j-(k+1)+ 1 by omega,List.getD_cons_succ]; exact h3
theorem aS3 {q:Nd}:∀ {l:List Nd} {k:Nat},qG q l k=none->q ∉ l
 | [],_,_=>by simp
 | p :: r,k,h=>by
  unfold qG at h
  by_cases e:q=p
  ·rw [if_pos e] at h; cases h
  ·rw [if_neg e] at h;simp only [List.mem_cons,not_or];exact⟨e,aS3 h⟩
theorem aMd {q:Nd}:∀ {l:List Nd} {k j:Nat},l.Nodup->j<l.length->l.getD j nd0=q->qG q l k=some (k+j)
 | [],_,_,_,h,_=>by simp at h
 | p :: r,k,j,hn,h,hq=>by
  unfold qG
  cases j with
  | zero=>rw [if_pos (by simpa using hq.symm)]; rfl
  | succ j=>
   rw [List.getD_cons_succ] at hq;have hj:j<r.length:=by simpa using h
   have hm:q ∈ r:=by
    have:r.getD j nd0=r[j]:=by simp [List.getD,hj]
    rw [<- hq,this]; exact List.getElem_mem hj
   rw [if_neg (fun e:q=p=>(List.nodup_cons.1 hn).1 (e ▸ hm)),aMd (List.nodup_cons.1 hn).2 hj hq];congr 1; omega
theorem fD : ∀ (t:Tr) (out:List Nd) (k:Nat),wK out->out.Nodup->k<out.length->tree out k=t->oC t out=((k:Int),out)
 | .nil,out,k,hv,hn,hk,ht=>by rw [tW hv hk] at ht; cases ht
 | .nd op i e g x y,out,k,hv,hn,hk,ht=>by
  obtain⟨ox,oy,zx,zy⟩:=uA (hv k hk);rw [tW hv hk] at ht;simp only [Tr.nd.injEq] at ht;obtain⟨rfl,rfl,rfl,rfl,hx,hy⟩:=ht
  have ha:(if (xZ (out.getD k nd0).op).1.x=true then oC x out else(0,out))= ((out.getD k nd0).x,out):=by
   by_cases h:(xZ (out.getD k nd0).op).1.x=true
   ·rw [if_pos h] at hx ⊢;rw [fD x out _ hv hn (by have:=ox h; omega) hx,Int.toNat_of_nonneg (ox h).1]
   ·rw [if_neg h,zx (by simpa using h)]
  have hb:(if (xZ (out.getD k nd0).op).1.y=true then oC y out else(0,out))= ((out.getD k nd0).y,out):=by
   by_cases h:(xZ (out.getD k nd0).op).1.y=true
   ·rw [if_pos h] at hy ⊢;rw [fD y out _ hv hn (by have:=oy h; omega) hy,Int.toNat_of_nonneg (oy h).1]
   ·rw [if_neg h,zy (by simpa using h)]
  unfold oC;simp only [ha,hb];rw [aMd (k:=0) hn hk rfl,Nat.zero_add]
theorem lM : ∀ (t:Tr) (out:List Nd),wfT t->wK out->out.Nodup->wK (oC t out).2/\(oC t out).2.Nodup/\(∃ l,(oC t out).2=out++l)/\ ∃ k:Nat,(oC t out).1=k/\k<(oC t out).2.length/\tree (oC t out).2 k=t/\((oC t out).2=out\/k+1=(oC t out).2.length)
 | .nil,out,h,_,_=>h.elim
 | .nd op i e g x y,out,⟨h1,h2,h3⟩,hv,hn=>by
  have A:∃ (a:Int) (oa:List Nd),(if (xZ op).1.x=true then oC x out else(0,out))= (a,oa)/\ wK oa/\oa.Nodup/\(∃ l,oa=out++l)/\ (if (xZ op).1.x=true then 0<=a/\a<(oa.length:Int)/\ tree oa a.toNat=x/\(oa=out\/a+1=oa.length) else a=0/\oa=out):=by
   by_cases hx:(xZ op).1.x=true
   ·rw [if_pos hx] at h2 ⊢;obtain⟨v,n,l,k,e1,e2,e3,e4⟩:=lM x out h2 hv hn;refine⟨_,_,rfl,v,n,l,?_⟩;rw [if_pos hx,e1,Int.toNat_natCast];exact⟨by omega,by omega,e3,e4.imp id fun h=>by omega⟩
   ·rw [if_neg hx] at h2 ⊢;exact⟨0,out,rfl,hv,hn,⟨[],by simp⟩,by rw [if_neg hx]; exact⟨rfl,rfl⟩⟩
  obtain⟨a,oa,ea,va,na,⟨la,rfl⟩,ha⟩:=A
  have B:∃ (b:Int) (ob:List Nd),(if (xZ op).1.y=true then oC y (out++la) else(0,out++la))= (b,ob)/\ wK ob/\ob.Nodup/\(∃ l,ob=out++la++l)/\ (if (xZ op).1.y=true then 0<=b/\b<(ob.length:Int)/\ tree ob b.toNat=y/\(ob=out++la\/b+1=ob.length) else b=0/\ob=out++la):=by
   by_cases hy:(xZ op).1.y=true
   ·rw [if_pos hy] at h3 ⊢;obtain⟨v,n,l,k,e1,e2,e3,e4⟩:=lM y (out++la) h3 va na;refine⟨_,_,rfl,v,n,l,?_⟩;rw [if_pos hy,e1,Int.toNat_natCast];exact⟨by omega,by omega,e3,e4.imp id fun h=>by omega⟩
   ·rw [if_neg hy] at h3 ⊢;exact⟨0,out++la,rfl,va,na,⟨[],by simp⟩,by rw [if_neg hy]; exact⟨rfl,rfl⟩⟩
  obtain⟨b,ob,eb,vb,nb,⟨lb,rfl⟩,hb⟩:=B
  have hE:∀ n:Nat,(out++la++lb).length<=n->yA ⟨op,i,e,g,a,b⟩ n=0:=fun n hln=>by
   refine lQ (p:=⟨op,i,e,g,0,0⟩) h1 ?_ ?_
   ·simp only
    split
    ·rename_i h; rw [if_pos h] at ha; simp only [List.length_append] at hln ha; omega
    ·rename_i h; rw [if_neg h] at ha; exact ha.1
   ·simp only
    split
    ·rename_i h; rw [if_pos h] at hb; omega
    ·rename_i h; rw [if_neg h] at hb; exact hb.1
  have tx:(if (xZ op).1.x=true then tree (out++la++lb) a.toNat else .nil)= x:=by
   by_cases hx:(xZ op).1.x=true
   ·rw [if_pos hx] at ha ⊢;rw [iO vb _ (by omega)]; exact ha.2.2.1
   ·rw [if_neg hx] at h2 ⊢; exact h2.symm
  have ty:(if (xZ op).1.y=true then tree (out++la++lb) b.toNat else .nil)= y:=by
   by_cases hy:(xZ op).1.y=true
   ·rw [if_pos hy] at hb ⊢;exact hb.2.2.1
   ·rw [if_neg hy] at h3 ⊢; exact h3.symm
  have hr:oC (.nd op i e g x y) out=match qG ⟨op,i,e,g,a,b⟩ (out++la++lb) 0 with
    | some k=>((k:Int),out++la++lb)
    | none=>(((out++la++lb).length:Int),out++la++lb ++ [⟨op,i,e,g,a,b⟩]):=by
   conv=>lhs; unfold oC
   simp only [ea,eb]
  rw [hr]
  cases hq:qG ⟨op,i,e,g,a,b⟩ (out++la++lb) 0 with
  | some k=>
   obtain⟨_,k1,k2⟩:=aZo hq;rw [Nat.sub_zero] at k1 k2;have hvk:=vb k k1;obtain⟨ox,oy,_,_⟩:=uA hvk;rw [k2] at ox oy;simp only at ox oy
   refine⟨vb,nb,⟨la++lb,by simp⟩,k,rfl,k1,?_,.inl ?_⟩
   ·rw [tW vb k1,k2];simp only [tx,ty]
   ·show out++la++lb=out
    have e1:out++la++lb=out++la:=by
     by_cases hy:(xZ op).1.y=true
     ·rw [if_pos hy] at hb
      rcases hb.2.2.2 with h | h
      ·exact h
      ·have:=oy hy; omega
     ·rw [if_neg hy] at hb; exact hb.2
    have e2:out++la=out:=by
     by_cases hx:(xZ op).1.x=true
     ·rw [if_pos hx] at ha
      rcases ha.2.2.2 with h | h
      ·exact h
      ·have:=ox hx;rw [e1] at k1;omega
     ·rw [if_neg hx] at ha; exact ha.2
    rw [e1,e2]
  | none=>
   have vs:wK (out++la++lb ++ [⟨op,i,e,g,a,b⟩]):=eY vb (hE _ (Nat.le_refl _))
   refine⟨vs,?_,⟨la++lb ++ [⟨op,i,e,g,a,b⟩],by simp⟩,(out++la++lb).length,rfl,by simp,?_,.inr (by simp only [List.length_append,List.length_singleton])⟩
   ·rw [List.nodup_append];refine⟨nb,by simp,fun p hp q hq'=>?_⟩;rw [List.mem_singleton] at hq';subst hq';exact fun e=>aS3 hq (e ▸ hp)
   ·have hgl:(out++la++lb ++ [(⟨op,i,e,g,a,b⟩:Nd)]).getD (out++la++lb).length nd0=⟨op,i,e,g,a,b⟩:=by simp [List.getD]
    rw [tW vs (by simp),hgl];simp only
    congr 1
    ·by_cases hx:(xZ op).1.x=true
     ·rw [if_pos hx] at tx ha ⊢;rw [iO vs _ (by simp only [List.length_append] at ha ⊢; omega)]; exact tx
     ·rw [if_neg hx] at tx ⊢; exact tx
    ·by_cases hy:(xZ op).1.y=true
     ·rw [if_pos hy] at ty hb ⊢;rw [iO vs _ (by omega)]; exact ty
     ·rw [if_neg hy] at ty ⊢; exact ty
end Fm
open Rs Fm
namespace Fm
structure aA1 (f : List Nd) (s : CS) : Prop where
 v:wK s.out
 n:s.out.Nodup
 d:∀ z k,wR z s.done=some k->∃ i j:Nat,z=i/\k=j/\i<f.length/\j<s.out.length/\tree s.out j=tree f i
theorem fC {f:List Nd} (hv:wK f):∀ (n:Nat) {i:Nat} {s:CS},i<n->i<f.length->aA1 f s ->
  (xK f n i s).1=(oC (tree f i) s.out).1/\(xK f n i s).2.out=(oC (tree f i) s.out).2/\aA1 f (xK f n i s).2
 | 0,_,_,h,_,_=>by omega
 | n + 1,i,s,h,hi,hI=>by
  cases hu:wR (i:Int) s.done with
  | some k=>
   rw [xK,hu];obtain⟨i',j,e1,e2,_,e4,e5⟩:=hI.d _ _ hu;obtain rfl:i=i':=by omega
   rw [fD _ _ j hI.v hI.n e4 e5];exact⟨e2,rfl,hI⟩
  | none=>
   rw [rF hu];obtain⟨ox,oy,zx,zy⟩:=uA (hv i hi);have hsp:=lM _ s.out (aNs hv i hi) hI.v hI.n;rw [tW hv hi] at hsp ⊢;simp only;generalize hp:f.getD i nd0=p at hsp ox oy zx zy ⊢
   have S1:(if (xZ p.op).1.x=true then xK f n p.x.toNat s else(p.x,s)).1=(if (xZ p.op).1.x=true then oC (tree f p.x.toNat) s.out else(0,s.out)).1 /\
     (if (xZ p.op).1.x=true then xK f n p.x.toNat s else(p.x,s)).2.out=(if (xZ p.op).1.x=true then oC (tree f p.x.toNat) s.out else(0,s.out)).2/\aA1 f (if (xZ p.op).1.x=true then xK f n p.x.toNat s else(p.x,s)).2:=by
    by_cases hx:(xZ p.op).1.x=true
    ·rw [if_pos hx,if_pos hx];exact fC hv n (by have:=ox hx; omega) (by have:=ox hx; omega) hI
    ·rw [if_neg hx,if_neg hx];exact⟨zx (by simpa using hx),rfl,hI⟩
   have e1:(if (xZ p.op).1.x=true then oC (if (xZ p.op).1.x=true then tree f p.x.toNat else .nil) s.out else(0,s.out))= (if (xZ p.op).1.x=true then oC (tree f p.x.toNat) s.out else(0,s.out)):=by
    by_cases hx:(xZ p.op).1.x=true
    ·rw [if_pos hx,if_pos hx,if_pos hx]
    ·rw [if_neg hx,if_neg hx]
   have hfin:oC (.nd p.op p.i p.e p.g (if (xZ p.op).1.x=true then tree f p.x.toNat else .nil) (if (xZ p.op).1.y=true then tree f p.y.toNat else .nil)) s.out =
     (let a:=(if (xZ p.op).1.x=true then oC (tree f p.x.toNat) s.out else(0,s.out))
      let b:=if (xZ p.op).1.y=true then oC (tree f p.y.toNat) a.2 else(0,a.2)
      match qG ⟨p.op,p.i,p.e,p.g,a.1,b.1⟩ b.2 0 with
      | some k=>((k:Int),b.2)
      | none=>((b.2.length:Int),b.2 ++ [⟨p.op,p.i,p.e,p.g,a.1,b.1⟩])):=by
    conv=>lhs; unfold oC
    simp only [e1]
    by_cases hy:(xZ p.op).1.y=true
    ·simp only [if_pos hy];all_goals rfl
    ·simp only [if_neg hy];all_goals rfl
   rw [hfin] at hsp ⊢;simp only at hsp ⊢;generalize (if (xZ p.op).1.x=true then xK f n p.x.toNat s else(p.x,s))= A at S1 ⊢;generalize (if (xZ p.op).1.x=true then oC (tree f p.x.toNat) s.out else(0,s.out))= A' at S1 hsp ⊢;obtain⟨a1,a2⟩:=A';obtain⟨A1,A2⟩:=A;obtain⟨rfl,rfl,IA⟩:=S1;simp only at hsp ⊢
   have S2:(if (xZ p.op).1.y=true then xK f n p.y.toNat A2 else(p.y,A2)).1=(if (xZ p.op).1.y=true then oC (tree f p.y.toNat) A2.out else(0,A2.out)).1 /\
     (if (xZ p.op).1.y=true then xK f n p.y.toNat A2 else(p.y,A2)).2.out=(if (xZ p.op).1.y=true then oC (tree f p.y.toNat) A2.out else(0,A2.out)).2/\aA1 f (if (xZ p.op).1.y=true then xK f n p.y.toNat A2 else(p.y,A2)).2:=by
    by_cases hy:(xZ p.op).1.y=true
    ·rw [if_pos hy,if_pos hy];exact fC hv n (by have:=oy hy; omega) (by have:=oy hy; omega) IA
    ·rw [if_neg hy,if_neg hy];exact⟨zy (by simpa using hy),rfl,IA⟩
   generalize (if (xZ p.op).1.y=true then xK f n p.y.toNat A2 else(p.y,A2))= B at S2 ⊢;generalize (if (xZ p.op).1.y=true then oC (tree f p.y.toNat) A2.out else(0,A2.out))= B' at S2 hsp ⊢;obtain⟨b1,b2⟩:=B';obtain⟨B1,B2⟩:=B;obtain⟨rfl,rfl,IB⟩:=S2;replace IB:aA1 f B2:=IB;simp only at hsp ⊢
   have hset:∀ (out':List Nd) (k:Nat),(∃ l,out'=B2.out++l)->wK out'->out'.Nodup->k<out'.length->tree out' k=tree f i->aA1 f ⟨out',iA i k B2.done⟩:=by
    rintro out' k ⟨l,rfl⟩ hv' hn' hk' ht';refine⟨hv',hn',fun z k' hz=>?_⟩;simp only at hz ⊢;rw [vE] at hz
    split at hz
    ·cases hz;exact⟨i,k,by assumption,rfl,hi,hk',ht'⟩
    ·obtain⟨i',j,q1,q2,q3,q4,q5⟩:=IB.d _ _ hz;exact⟨i',j,q1,q2,q3,by simp; omega,by rw [iO hv' _ q4]; exact q5⟩
   have htf:tree f i = .nd p.op p.i p.e p.g (if (xZ p.op).1.x=true then tree f p.x.toNat else .nil) (if (xZ p.op).1.y=true then tree f p.y.toNat else .nil):=by rw [tW hv hi,hp]
   unfold cZ
   cases hq:qG ⟨p.op,p.i,p.e,p.g,A1,B1⟩ B2.out 0 with
   | some k=>
    rw [hq] at hsp;obtain⟨s1,s2,_,k',s3,s4,s5,_⟩:=hsp;simp only at s1 s2 s3 s4 s5 ⊢;obtain rfl:k=k':=by omega
    exact⟨trivial,trivial,hset _ k ⟨[],by simp⟩ s1 s2 s4 (by rw [s5,htf])⟩
   | none=>
    rw [hq] at hsp;obtain⟨s1,s2,_,k',s3,s4,s5,_⟩:=hsp;simp only at s1 s2 s3 s4 s5 ⊢;obtain rfl:B2.out.length=k':=by omega
    exact⟨trivial,trivial,hset _ _ ⟨_,rfl⟩ s1 s2 s4 (by rw [s5,htf])⟩
theorem dH {f:List Nd} (hv:wK f) {i:Nat} (hi:i<f.length):vW f i=canon (tree f i):=(fC hv (i+1) (s:=⟨[],[]⟩) (by omega) hi ⟨fun k h=>by simp at h,.nil,fun z k h=>by cases h⟩).2.1
theorem aP9 {t:Tr} (h:wfT t):wK (canon t)/\ (canon t).Nodup/\0<(canon t).length/\tree (canon t) ((canon t).length-1)= t:=by
 obtain⟨v,n,_,k,e1,e2,e3,e4⟩:=lM t [] h (fun k h=>by simp at h) .nil;refine⟨v,n,by unfold canon; omega,?_⟩
 have:k=(canon t).length-1:=by
  rcases e4 with e4 | e4
  ·rw [e4] at e2; simp at e2
  ·unfold canon; omega
 rw [<- this]; exact e3
theorem aU1 {f:List Nd} (h:yY f=0):xC f=canon (tree f (f.length-1)):=by
 obtain⟨h1,h2,h3⟩:=wP h;have hl:0<f.length:=by cases f with | nil=>exact absurd rfl h1 | cons a b=>simp
 unfold xC iU;rw [if_neg (by omega),show ((f.length:Int)-1).toNat=f.length-1 by omega];exact dH h3 (by omega)
end Fm
section
open Rs Fm
namespace Fm
end Fm
end
section
open Rs Fm
namespace Fm
def iX (f:List Nd):Tr:=tree f (f.length-1)
theorem aIu {f:List Nd} (h:yY f=0):wfT (iX f):=by
 obtain⟨h1,h2,h3⟩:=wP h;have hl:0<f.length:=by cases f with | nil=>exact absurd rfl h1 | cons a b=>simp
 exact aNs h3 _ (by omega)
theorem aW0 {f:List Nd} (h:yY f=0):tree (xC f) ((xC f).length-1)= iX f/\(xC f).Nodup:=by rw [aU1 h];obtain⟨_,b,_,d⟩:=aP9 (aIu h);exact⟨d,b⟩
end Fm
end
section
open Rs Fm
namespace Fm
end Fm
end
section
open Rs Fm
namespace Fm
end Fm
end
section
open Rs Fm
namespace Fm
end Fm
end
end Go.Pd

/- Part E6. -/
namespace Go.Pd
open Go Go.Proofs
open BitVec renaming isValue -> ZA
open Rs Fm
namespace Fm
theorem aG6 (m:Nat) (h:m<=6):(xZ (11+(m:Int))).1.fr=((2 ^ (m+1):Nat):Int):=by
 have hc:m=0\/m=1\/m=2\/m=3\/m=4\/m=5\/m=6:=by omega
 rcases hc with rfl | rfl | rfl | rfl | rfl | rfl | rfl <;> decide
theorem aS8 (op:Int) (h:op=9\/op=10):(xZ op).1.fr=1:=by rcases h with rfl | rfl <;> decide
theorem aZv (op:Int) (h:18<=op/\op<=21):(xZ op).1.fr=256:=by
 have hc:op=18\/op=19\/op=20\/op=21:=by omega
 rcases hc with rfl | rfl | rfl | rfl <;> decide
theorem aKw (op:Int) (h:1<=op/\op<=8):(xZ op).1.fr=0:=by
 have hc:op=1\/op=2\/op=3\/op=4\/op=5\/op=6\/op=7\/op=8:=by omega
 rcases hc with rfl | rfl | rfl | rfl | rfl | rfl | rfl | rfl <;> decide
def mV (m k:Nat) (n:Int):Bool:=(List.range k).all fun i=>!m.testBit i || decide ((i:Int)<n)
theorem bN {m k:Nat} {n:Int} (hm:m<2 ^ k) (hk:k<=31):mP m n=mV m k n:=by
 unfold mP mV;rw [Bool.eq_iff_iff,Bool.or_eq_true,decide_eq_true_iff,decide_eq_true_iff,List.all_eq_true]
 constructor
 ·rintro h i hi;have hi':=List.mem_range.1 hi
  rcases h with h | h
  ·rw [decide_eq_true (by omega),Bool.or_true]
  ·cases hb:m.testBit i with
   | false=>rfl
   | true=>
    have h2:m<2 ^ n.toNat:=by
     rcases Nat.div_eq_zero_iff.1 h with h | h
     ·have:=Nat.two_pow_pos n.toNat; omega
     ·exact h
    have h3:i<n.toNat:=Decidable.byContradiction fun hh=>by have h4:=Nat.testBit_lt_two_pow (Nat.lt_of_lt_of_le h2 (Nat.pow_le_pow_right (by decide) (show n.toNat<=i by omega)));rw [h4] at hb; cases hb
    rw [decide_eq_true (by omega)]; rfl
 ·intro h;refine .inr (Nat.div_eq_of_lt (Nat.lt_pow_two_of_testBit _ fun i hi=>?_))
  cases hb:m.testBit i with
  | false=>rfl
  | true=>
   have hik:i<k:=Decidable.byContradiction fun hh=>by have h4:=Nat.testBit_lt_two_pow (Nat.lt_of_lt_of_le hm (Nat.pow_le_pow_right (by decide) (show k<=i by omega)));rw [h4] at hb; cases hb
   have:=h i (List.mem_range.2 hik);rw [hb] at this;simp at this;omega
theorem eW {m:Nd->Nat} {k:Nat}:∀ {l:List Nd},(∀ p ∈ l,m p<2 ^ k)->yD m l<2 ^ k:=by
 have key:∀ (l:List Nd) (a:Nat),(∀ p ∈ l,m p<2 ^ k)->a<2 ^ k->l.foldl (fun a p=>a ||| m p) a<2 ^ k:=by
  intro l
  induction l with
  | nil=>intro a _ h; exact h
  | cons p r ih=>intro a h ha; exact ih _ (fun q hq=>h q (List.mem_cons_of_mem _ hq)) (Nat.or_lt_two_pow ha (h p (by simp)))
 exact fun {l} h=>key l 0 h (Nat.two_pow_pos k)
theorem aHz {p:Nd} {k:Int} (h:yA p k=0):1<=p.op/\p.op<=21:=by have h1:=(wT.1 h).1;refine Decidable.byContradiction fun hc=>?_;rw [show xZ p.op=(tF,false) from if_pos (by omega)] at h1;cases h1
theorem aQ5 {p:Nd} {k:Int} (h:yA p k=0) (hg:(xZ p.op).1.gr=false):p.g=0:=by have h2:=(wT.1 h).2.2.2.1;simp only [hg,Bool.or_eq_false_iff,Bool.not_false,Bool.true_and,decide_eq_false_iff_not] at h2;omega
theorem aWf (f:List Nd):sZ f<2 ^ 4:=eW fun p hp=>by
 obtain⟨k,hk⟩:=mQ (jL f _) hp;unfold vQ
 split
 ·rename_i hf;have:=uG hk hf;exact Nat.pow_lt_pow_right (by decide) (by omega)
 ·have:=mF hk;omega
theorem aZ0 (f:List Nd):nW f<2 ^ 8:=eW fun p hp=>by
 obtain⟨k,hk⟩:=mQ (jL f _) hp;unfold rU
 split
 ·rename_i hf;have:=nO hk hf;exact Nat.pow_lt_pow_right (by decide) (by omega)
 ·decide
end Fm
theorem aQz {op:Int} (h:1<=op/\op<=21):yV Tryz.prog 180 [.int .i64 op] (.int .i64 (xZ op).1.fr):=by
 refine xX.xP mixed Tryz.func180 bU7 (by simp) fun hf=>?_
 by_cases e9:op=9
 ·subst e9;rw [aS8 9 (.inl rfl)];simp only [simprocAttr,-ZA,↓zU,↓zD,zV,zT,zW];exact .same
 have c9:(op==9)= false:=by simpa using e9
 by_cases e10:op=10
 ·subst e10;rw [aS8 10 (.inr rfl)];simp only [simprocAttr,-ZA,↓zU,↓zD,zV,zT,zW];exact .same
 have c10:(op==10)= false:=by simpa using e10
 by_cases h11:11<=op
 case neg=>
  have h18:¬ 18<=op:=by omega
  rw [aKw op (by omega)];simp only [simprocAttr,-ZA,↓zU,↓zD,zV,zT,zW,c9,c10,h11,h18];exact .same
 by_cases h17:op<=17
 case neg=>
  have h18:18<=op:=by omega
  rw [aZv op (by omega)];simp only [simprocAttr,-ZA,↓zU,↓zD,zV,zT,zW,c9,c10,h11,h17,h18];exact .same
 obtain⟨m,hm⟩:∃ m:Nat,op=11+(m:Int):=⟨(op-11).toNat,by omega⟩;have hfr:=aG6 m (by omega);rw [<- hm] at hfr;rw [hfr];have e1:IntKind.i64.wrap (op-11)= (m:Int):=by rw [wrap_i64 (by omega)]; omega
 have e2:IntKind.i64.wrap ((m:Int)+ 1)= ((m+1:Nat):Int):=tA (by omega);simp only [simprocAttr,-ZA,↓zU,↓zD,zV,zT,zW,c9,c10,h11,h17,e1,e2,bXc (show m+1<=61 by omega)]
 (repeat refine sd ?_)
 exact .same
theorem aQy (f:List Nd):yV Tryz.prog 118 [.sl 6 (ndR f)] (.int .i64 (wX f)):=by
 have hlen:=nS f ((f.length:Int)-1);rw [show iU f ((f.length:Int)-1)= xC f from rfl] at hlen;have hnd:=aYg f;have hall:∀ p ∈ xC f,rV p<4096:=fun p _=>by have:=kL p.op; unfold rV; omega
 refine xX.xP mixed Tryz.func118 bTy (by simp) fun hf=>?_;simp only [simprocAttr,-ZA,↓zU,↓zD,zV,zT,zW];refine .go (cr (pF f)) ?_;simp only [simprocAttr,-ZA,↓zU,↓zD,zV,zT,zW];unfold wX;generalize xC f=c at hlen hnd hall
 refine xW (fun k:Nat=>[(5,.int .i64 k),(4,.int .i64 (yD rV (c.take k))),(3,.sl 6 (ndR c))]) (fun _=>⟨0,[]⟩) (fun k=>k<=c.length) (fun k=>c.length-k) 0 (Nat.zero_le _) ?_ ?_
 ·(refine xI.same ?_; simp [xR,Fr.get,yD])
 intro k hk;refine xQ mixed ?_
 by_cases h:k<c.length
 ·have hd:((k:Int)<(c.length:Int)):=by omega
  have hw:IntKind.i64.wrap ((k:Int)+ 1)= ((k+1:Nat):Int):=wrap_i64 (by omega);have hg:=uN c h;have hq:=hnd k h;have hlt:yD rV (c.take k)<2 ^ 12:=rL fun p hp=>hall p (List.mem_of_mem_take hp);have hlp:=hall _ (xN (d:=nd0) h);have hs:yD rV (c.take (k+1))= yD rV (c.take k) ||| rV (c.getD k nd0):=by rw [yB (d:=nd0) h,qU]
  generalize c.getD k nd0=p at hg hq hs hlp;have hop:1<=p.op/\p.op<=21:=aHz hq;have hfr:=aQz hop;have hu:=kL p.op;rw [show (xZ p.op).1.fr=((rV p:Nat):Int) from(Int.toNat_of_nonneg hu.1).symm] at hfr;have hor:=aR9 (a:=yD rV (c.take k)) (b:=rV p) (by omega) (by omega);simp only [simprocAttr,-ZA,↓zU,↓zD,zV,zT,zW,hd,xJ,hg,Nd.row]
  (repeat refine sd ?_)
  refine .go (cq hfr) ?_;simp only [simprocAttr,-ZA,↓zU,↓zD,zV,zT,zW,hor]
  (repeat refine sd ?_)
  refine⟨k+1,by omega,?_,by omega⟩;rw [hs]
  (refine xI.same ?_; simp only [xR,Fr.get,simprocAttr,-ZA,zS])
  exact hw
 have hd:¬ ((k:Int)<(c.length:Int)):=by omega
 obtain rfl:k=c.length:=by omega
 simp only [simprocAttr,-ZA,↓zU,↓zD,zV,zT,zW,hd,xJ];exact .same
theorem aWt (f:List Nd):yV Tryz.prog 181 [.sl 6 (ndR f)] (.int .i64 (sZ f)):=by
 have hlen:=nS f ((f.length:Int)-1);rw [show iU f ((f.length:Int)-1)= xC f from rfl] at hlen;have hnd:=aYg f
 have hall:∀ p ∈ xC f,vQ p<4096:=fun p hp=>by obtain⟨k,hk⟩:=mQ hnd hp;exact aWg hk
 refine xX.xP mixed Tryz.func181 bU6 (by simp) fun hf=>?_;simp only [simprocAttr,-ZA,↓zU,↓zD,zV,zT,zW];refine .go (cr (pF f)) ?_;simp only [simprocAttr,-ZA,↓zU,↓zD,zV,zT,zW];unfold sZ;generalize xC f=c at hlen hnd hall
 refine xW (fun k:Nat=>[(5,.int .i64 k),(4,.int .i64 (yD vQ (c.take k))),(3,.sl 6 (ndR c))]) (fun _=>⟨0,[]⟩) (fun k=>k<=c.length) (fun k=>c.length-k) 0 (Nat.zero_le _) ?_ ?_
 ·(refine xI.same ?_; simp [xR,Fr.get,yD])
 intro k hk;refine xQ mixed ?_
 by_cases h:k<c.length
 ·have hd:((k:Int)<(c.length:Int)):=by omega
  have hw:IntKind.i64.wrap ((k:Int)+ 1)= ((k+1:Nat):Int):=wrap_i64 (by omega);have hg:=uN c h;have hq:=hnd k h;have hlt:yD vQ (c.take k)<2 ^ 12:=rL fun p hp=>hall p (List.mem_of_mem_take hp);have hlp:=hall _ (xN (d:=nd0) h);have hs:yD vQ (c.take (k+1))= yD vQ (c.take k) ||| vQ (c.getD k nd0):=by rw [yB (d:=nd0) h,qU]
  generalize c.getD k nd0=p at hg hq hs hlp;have hag:=aMp p.op;have hgr:=mF hq;obtain⟨g,hgg⟩:=Int.eq_ofNat_of_zero_le hgr.1
  cases hu:(xZ p.op).1.ag with
  | false=>
   rw [hu] at hag;have hfn:vQ p=g:=by rw [vQ,if_neg (by rw [hu]; simp),hgg,Int.toNat_natCast]
   have hor:=aR9 (a:=yD vQ (c.take k)) (b:=g) (by omega) (by omega);simp only [simprocAttr,-ZA,↓zU,↓zD,zV,zT,zW,hd,xJ,hg,Nd.row]
   (repeat refine sd ?_)
   refine .go (cq hag) ?_;simp only [simprocAttr,-ZA,↓zU,↓zD,zV,zT,zW,xJ,hg,Nd.row,hgg,hor]
   (repeat refine sd ?_)
   refine⟨k+1,by omega,?_,by omega⟩;rw [hs,hfn]
   (refine xI.same ?_; simp only [xR,Fr.get,simprocAttr,-ZA,zS])
   exact hw
  | true=>
   rw [hu] at hag;obtain⟨i0,i3⟩:=uG hq hu;obtain⟨m,hm⟩:=Int.eq_ofNat_of_zero_le i0;have hm3:m<=3:=by omega
   have hg0:p.g=0:=aQ5 hq (by rcases jZ p.op with h | h | h | h | h <;> simp_all);have hp2:(2:Nat)^ m<2 ^ 12:=Nat.pow_lt_pow_right (by omega) (by omega);have hfn:vQ p=2 ^ m:=by rw [vQ,if_pos hu,hm,Int.toNat_natCast]
   have hor:=aR9 (a:=yD vQ (c.take k)) (b:=2 ^ m) (by omega) (by omega);have hor2:=aR9 (a:=yD vQ (c.take k) ||| 2 ^ m) (b:=0) (by have:=Nat.or_lt_two_pow hlt hp2; omega) (by omega);rw [Nat.or_zero] at hor2;simp only [simprocAttr,-ZA,↓zU,↓zD,zV,zT,zW,hd,xJ,hg,Nd.row]
   (repeat refine sd ?_)
   refine .go (cq hag) ?_;simp only [simprocAttr,-ZA,↓zU,↓zD,zV,zT,zW,xJ,hg,Nd.row,hm,bXc (show m<=61 by omega),hor,hg0,hor2]
   (repeat refine sd ?_)
   refine⟨k+1,by omega,?_,by omega⟩;rw [hs,hfn]
   (refine xI.same ?_; simp only [xR,Fr.get,simprocAttr,-ZA,zS])
   exact⟨hw,hor2⟩
 have hd:¬ ((k:Int)<(c.length:Int)):=by omega
 obtain rfl:k=c.length:=by omega
 simp only [simprocAttr,-ZA,↓zU,↓zD,zV,zT,zW,hd,xJ];exact .same
open Rs Fm
theorem aLt (f:List Nd) (a b:Int):yV Tryz.prog 119 [.sl 6 (ndR f),.int .i64 a,.int .i64 b] (.bool (rO f a b)):=by
 have hA:=aWt f;have hF:=aQ0 f;have hC:=aUc f;have ha:=bN (n:=a) (aWf f) (by decide);have hb:=bN (n:=b) (aZ0 f) (by decide);have la:=aWf f;have lb:=aZ0 f;unfold rO;rw [ha,hb];generalize sZ f=ma at hA la;generalize nW f=mb at hF lb;refine xX.xP mixed Tryz.func119 bTx (by simp) fun hf=>?_;simp only [simprocAttr,-ZA,↓zU,↓zD,zV,zT,zW];refine .go (cr hC) ?_;by_cases hz:yY f=0
 case neg=>
  have e:(yY f != 0)= true:=by simpa using hz
  simp only [simprocAttr,-ZA,↓zU,↓zD,zV,zT,zW,e];exact .drop (by simp) (by simp [vw,hz])
 have e:(yY f != 0)= false:=by simpa using hz
 rw [decide_eq_true hz,Bool.true_and];simp only [simprocAttr,-ZA,↓zU,↓zD,zV,zT,zW,e]
 refine xW (fun i:Nat=>[(7,.int .i64 i),(2,.int .i64 b),(1,.int .i64 a),(0,.sl 6 (ndR f))]) (fun _=>⟨0,[]⟩) (fun i=>i<=4/\mV ma i a=true) (fun i=>4-i) 0 ⟨Nat.zero_le _,rfl⟩ ?_ ?_
 ·(refine xI.same ?_; simp [xR,Fr.get])
 rintro i ⟨hi,hk⟩;refine xQ mixed ?_
 by_cases h4:i<4
 ·have hd:((i:Int)<4):=by omega
  have hsu:mV ma (i+1) a=(mV ma i a&&(!ma.testBit i || decide ((i:Int)<a))):=by unfold mV; rw [List.range_succ,List.all_append,List.all_cons,List.all_nil,Bool.and_true]
  have hbit:(((ma / 2 ^ i:Nat):Int).tmod 2==1)= ma.testBit i:=by rw [bXl,aEp]
  rw [hk,Bool.true_and] at hsu;simp only [simprocAttr,-ZA,↓zU,↓zD,zV,zT,zW,hd];refine .go (cr hA) ?_
  cases hb2:ma.testBit i with
  | false=>
   rw [hb2] at hbit hsu;simp only [simprocAttr,-ZA,↓zU,↓zD,zV,zT,zW,jK ma i (by omega),hbit]
   (repeat refine sd ?_)
   refine⟨i+1,⟨by omega,by rw [hsu]; rfl⟩,?_,by omega⟩
   (refine xI.same ?_; simp only [xR,Fr.get,simprocAttr,-ZA,zS])
   exact tA (by omega)
  | true=>
   rw [hb2] at hbit hsu
   by_cases hge:a<=(i:Int)
   ·simp only [simprocAttr,-ZA,↓zU,↓zD,zV,zT,zW,jK ma i (by omega),hbit,hge]
    (repeat refine sd ?_)
    have hf0:mV ma 4 a=false:=by unfold mV;rw [List.all_eq_false];exact⟨i,List.mem_range.2 h4,by rw [hb2,decide_eq_false (by omega)]; simp⟩
    exact .drop (by simp) (by simp [vw,hf0])
   ·simp only [simprocAttr,-ZA,↓zU,↓zD,zV,zT,zW,jK ma i (by omega),hbit,hge]
    (repeat refine sd ?_)
    refine⟨i+1,⟨by omega,by rw [hsu,decide_eq_true (by omega)]; rfl⟩,?_,by omega⟩
    (refine xI.same ?_; simp only [xR,Fr.get,simprocAttr,-ZA,zS])
    exact tA (by omega)
 have hd:¬ ((i:Int)<4):=by omega
 obtain rfl:i=4:=by omega
 rw [hk,Bool.true_and];simp only [simprocAttr,-ZA,↓zU,↓zD,zV,zT,zW,hd]
 refine xW (fun i:Nat=>[(8,.int .i64 i),(2,.int .i64 b),(0,.sl 6 (ndR f))]) (fun _=>⟨0,[]⟩) (fun i=>i<=8/\mV mb i b=true) (fun i=>8-i) 0 ⟨Nat.zero_le _,rfl⟩ ?_ ?_
 ·(refine xI.same ?_; simp [xR,Fr.get])
 clear hd hi hk;rintro i ⟨hi,hk⟩;refine xQ mixed ?_
 by_cases h4:i<8
 ·have hd:((i:Int)<8):=by omega
  have hsu:mV mb (i+1) b=(mV mb i b&&(!mb.testBit i || decide ((i:Int)<b))):=by unfold mV; rw [List.range_succ,List.all_append,List.all_cons,List.all_nil,Bool.and_true]
  have hbit:(((mb / 2 ^ i:Nat):Int).tmod 2==1)= mb.testBit i:=by rw [bXl,aEp]
  rw [hk,Bool.true_and] at hsu;simp only [simprocAttr,-ZA,↓zU,↓zD,zV,zT,zW,hd];refine .go (cr hF) ?_
  cases hb2:mb.testBit i with
  | false=>
   rw [hb2] at hbit hsu;simp only [simprocAttr,-ZA,↓zU,↓zD,zV,zT,zW,jK mb i (by omega),hbit]
   (repeat refine sd ?_)
   refine⟨i+1,⟨by omega,by rw [hsu]; rfl⟩,?_,by omega⟩
   (refine xI.same ?_; simp only [xR,Fr.get,simprocAttr,-ZA,zS])
   exact tA (by omega)
  | true=>
   rw [hb2] at hbit hsu
   by_cases hge:b<=(i:Int)
   ·simp only [simprocAttr,-ZA,↓zU,↓zD,zV,zT,zW,jK mb i (by omega),hbit,hge]
    (repeat refine sd ?_)
    have hf0:mV mb 8 b=false:=by unfold mV;rw [List.all_eq_false];exact⟨i,List.mem_range.2 h4,by rw [hb2,decide_eq_false (by omega)]; simp⟩
    exact .drop (by simp) (by simp [vw,hf0])
   ·simp only [simprocAttr,-ZA,↓zU,↓zD,zV,zT,zW,jK mb i (by omega),hbit,hge]
    (repeat refine sd ?_)
    refine⟨i+1,⟨by omega,by rw [hsu,decide_eq_true (by omega)]; rfl⟩,?_,by omega⟩
    (refine xI.same ?_; simp only [xR,Fr.get,simprocAttr,-ZA,zS])
    exact tA (by omega)
 have hd:¬ ((i:Int)<8):=by omega
 obtain rfl:i=8:=by omega
 rw [hk];simp only [simprocAttr,-ZA,↓zU,↓zD,zV,zT,zW,hd];exact .dv
end Go.Pd
