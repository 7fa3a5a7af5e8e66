/- Part P7. -/
import Derived.Test.YtndfaefmmcoapaaGreatKcF16
import Derived.Test.YtndfaefmmcoapaaGreatKcPQ
import Derived.Test.YtndfaefmmcoapaaGreatKcX9
set_option linter.unusedSectionVars false
set_option linter.unusedVariables false
set_option linter.unusedSimpArgs false
set_option linter.defProp false
set_option maxRecDepth 20000
set_option maxHeartbeats 1000000
namespace Go.Pd
open Go Go.Proofs
open Int renaming reduceToNat -> ZA, reduceLT -> ZB, reduceLE -> ZC, reduceBEq -> ZD, reduceBNe -> ZE
open Nat renaming reduceEqDiff -> ZF, reduceAdd -> ZG, reduceBEq -> ZH, reduceLT -> ZI, reduceLeDiff -> ZJ, reduceMul -> ZK
open Rs Fm
namespace Fm
inductive Tr where
 | nil
 | nd (op i e g:Int) (x y:Tr)
def aY4 (f:List Nd):Nat->Nat->Tr
 | 0,_=>.nil
 | n+1,i=>.nd (f.getD i nd0).op (f.getD i nd0).i (f.getD i nd0).e (f.getD i nd0).g (if (xZ (f.getD i nd0).op).1.x=true then aY4 f n (f.getD i nd0).x.toNat else .nil) (if (xZ (f.getD i nd0).op).1.y=true then aY4 f n (f.getD i nd0).y.toNat else .nil)
def tree (f:List Nd) (i:Nat):Tr:=aY4 f (i+1) i
def wfT : Tr->Prop
 | .nil=>False
 | .nd op i e g x y=>yJ ⟨op,i,e,g,0,0⟩ 1=0/\(if (xZ op).1.x=true then wfT x else x = .nil)/\ (if (xZ op).1.y=true then wfT y else y = .nil)
def pN : Tr->List Nd->Int × List Nd
 | .nil,out=>(0,out)
 | .nd op i e g x y,out=>
  let a:=if (xZ op).1.x=true then pN x out else(0,out)
  let b:=if (xZ op).1.y=true then pN y a.2 else(0,a.2)
  match rK ⟨op,i,e,g,a.1,b.1⟩ b.2 0 with
  | some k=>((k:Int),b.2)
  | none=>((b.2.length:Int),b.2 ++ [⟨op,i,e,g,a.1,b.1⟩])
def canon (t:Tr):List Nd:=(pN t []).2
theorem uV {p:Nd} {k:Nat} (h:yJ p k=0):((xZ p.op).1.x=true->0<=p.x/\p.x.toNat<k)/\ ((xZ p.op).1.y=true->0<=p.y/\p.y.toNat<k)/\ ((xZ p.op).1.x=false->p.x=0)/\ ((xZ p.op).1.y=false->p.y=0):=by
 obtain⟨h1,h2⟩:=sE h;rw [zO] at h;obtain⟨_,h3,h4,_⟩:=h
 refine⟨fun hx=>?_,fun hy=>?_,fun hx=>?_,fun hy=>?_⟩
 ·have:=h1 hx; omega
 ·have:=h2 hy; omega
 ·rw [hx] at h3; simpa [xK] using h3
 ·rw [hy] at h4; simpa [xK] using h4
theorem pY {f:List Nd} (hv:zB f):∀ (n m i:Nat),i<n->i<m->i<f.length->aY4 f n i=aY4 f m i
 | 0,_,_,h,_,_=>by omega
 | _+1,0,_,_,h,_=>by omega
 | n+1,m+1,i,h1,h2,hi=>by
  obtain⟨ox,oy,_,_⟩:=uV (hv i hi);unfold aY4
  congr 1
  ·by_cases hx:(xZ (f.getD i nd0).op).1.x=true
   ·rw [if_pos hx,if_pos hx];exact pY hv n m _ (by have:=ox hx; omega) (by have:=ox hx; omega) (by have:=ox hx; omega)
   ·rw [if_neg hx,if_neg hx]
  ·by_cases hy:(xZ (f.getD i nd0).op).1.y=true
   ·rw [if_pos hy,if_pos hy];exact pY hv n m _ (by have:=oy hy; omega) (by have:=oy hy; omega) (by have:=oy hy; omega)
   ·rw [if_neg hy,if_neg hy]
theorem uP {f:List Nd} (hv:zB f) {i:Nat} (hi:i<f.length):tree f i = .nd (f.getD i nd0).op (f.getD i nd0).i (f.getD i nd0).e (f.getD i nd0).g (if (xZ (f.getD i nd0).op).1.x=true then tree f (f.getD i nd0).x.toNat else .nil) (if (xZ (f.getD i nd0).op).1.y=true then tree f (f.getD i nd0).y.toNat else .nil):=by
 obtain⟨ox,oy,_,_⟩:=uV (hv i hi);unfold tree;rw [aY4]
 congr 1
 ·by_cases hx:(xZ (f.getD i nd0).op).1.x=true
  ·rw [if_pos hx,if_pos hx];exact pY hv _ _ _ (by have:=ox hx; omega) (by omega) (by have:=ox hx; omega)
  ·rw [if_neg hx,if_neg hx]
 ·by_cases hy:(xZ (f.getD i nd0).op).1.y=true
  ·rw [if_pos hy,if_pos hy];exact pY hv _ _ _ (by have:=oy hy; omega) (by omega) (by have:=oy hy; omega)
  ·rw [if_neg hy,if_neg hy]
theorem aUp {l r:List Nd} {k:Nat} (h:k<l.length):(l++r).getD k nd0=l.getD k nd0:=by
 simp only [List.getD,List.getElem?_append_left h]
theorem iF {l r:List Nd} (h:zB (l++r)):zB l:=fun k hk=>by
 have:=h k (by simp; omega)
 rwa [aUp hk] at this
theorem kP {l r:List Nd} (hv:zB (l++r)):∀ (k:Nat),k<l.length->tree (l++r) k=tree l k:=by
 intro k
 induction k using Nat.strongRecOn with
 | _ k ih=>
  intro hk;obtain⟨ox,oy,_,_⟩:=uV (iF hv k hk);rw [uP hv (by simp; omega),uP (iF hv) hk,aUp hk]
  congr 1
  ·by_cases hx:(xZ (l.getD k nd0).op).1.x=true
   ·rw [if_pos hx,if_pos hx];exact ih _ (by have:=ox hx; omega) (by have:=ox hx; omega)
   ·rw [if_neg hx,if_neg hx]
  ·by_cases hy:(xZ (l.getD k nd0).op).1.y=true
   ·rw [if_pos hy,if_pos hy];exact ih _ (by have:=oy hy; omega) (by have:=oy hy; omega)
   ·rw [if_neg hy,if_neg hy]
theorem aQq {f:List Nd} (hv:zB f):∀ (i:Nat),i<f.length->wfT (tree f i):=by
 intro i
 induction i using Nat.strongRecOn with
 | _ i ih=>
  intro hi;obtain⟨ox,oy,zx,zy⟩:=uV (hv i hi);rw [uP hv hi]
  refine⟨nI (hv i hi) ?_ ?_,?_,?_⟩
  ·split
   ·omega
   ·rename_i h; exact(zx (by simpa using h)).symm
  ·split
   ·omega
   ·rename_i h; exact(zy (by simpa using h)).symm
  ·by_cases hx:(xZ (f.getD i nd0).op).1.x=true
   ·rw [if_pos hx,if_pos hx];exact ih _ (by have:=ox hx; omega) (by have:=ox hx; omega)
   ·rw [if_neg hx,if_neg hx]
  ·by_cases hy:(xZ (f.getD i nd0).op).1.y=true
   ·rw [if_pos hy,if_pos hy];exact ih _ (by have:=oy hy; omega) (by have:=oy hy; omega)
   ·rw [if_neg hy,if_neg hy]
theorem aXk {q:Nd}:∀ {l:List Nd} {k j:Nat},rK q l k=some j->k<=j/\j-k<l.length/\l.getD (j-k) nd0=q
 | [],_,_,h=>by cases h
 | p :: r,k,j,h=>by
  unfold rK at h
  by_cases e:q=p
  ·rw [if_pos e] at h; cases h; simp [e]
  ·rw [if_neg e] at h;obtain⟨h1,h2,h3⟩:=aXk h;refine⟨by omega,by simp only [List.length_cons]; omega,?_⟩;rw [show j-k=j-(k+1)+ 1 by omega,List.getD_cons_succ]; exact h3
theorem aUl {q:Nd}:∀ {l:List Nd} {k:Nat},rK q l k=none->q ∉ l
 | [],_,_=>by simp
 | p :: r,k,h=>by
  unfold rK at h
  by_cases e:q=p
  ·rw [if_pos e] at h; cases h
  ·rw [if_neg e] at h;simp only [List.mem_cons,not_or];exact⟨e,aUl h⟩
theorem aQ6 {q:Nd}:∀ {l:List Nd} {k j:Nat},l.Nodup->j<l.length->l.getD j nd0=q->rK q l k=some (k+j)
 | [],_,_,_,h,_=>by simp at h
 | p :: r,k,j,hn,h,hq=>by
  unfold rK
  cases j with
  | zero=>rw [if_pos (by simpa using hq.symm)]; rfl
  | succ j=>
   rw [List.getD_cons_succ] at hq;have hj:j<r.length:=by simpa using h
   have hm:q ∈ r:=by
    have:r.getD j nd0=r[j]:=by simp [List.getD,hj]
    rw [<- hq,this]; exact List.getElem_mem hj
   rw [if_neg (fun e:q=p=>(List.nodup_cons.1 hn).1 (e ▸ hm)),aQ6 (List.nodup_cons.1 hn).2 hj hq];congr 1; omega
theorem iL : ∀ (t:Tr) (out:List Nd) (k:Nat),zB out->out.Nodup->k<out.length->tree out k=t->pN t out=((k:Int),out)
 | .nil,out,k,hv,hn,hk,ht=>by rw [uP hv hk] at ht; cases ht
 | .nd op i e g x y,out,k,hv,hn,hk,ht=>by
  obtain⟨ox,oy,zx,zy⟩:=uV (hv k hk);rw [uP hv hk] at ht;simp only [Tr.nd.injEq] at ht;obtain⟨rfl,rfl,rfl,rfl,hx,hy⟩:=ht
  have ha:(if (xZ (out.getD k nd0).op).1.x=true then pN x out else(0,out))= ((out.getD k nd0).x,out):=by
   by_cases h:(xZ (out.getD k nd0).op).1.x=true
   ·rw [if_pos h] at hx ⊢;rw [iL x out _ hv hn (by have:=ox h; omega) hx,Int.toNat_of_nonneg (ox h).1]
   ·rw [if_neg h,zx (by simpa using h)]
  have hb:(if (xZ (out.getD k nd0).op).1.y=true then pN y out else(0,out))= ((out.getD k nd0).y,out):=by
   by_cases h:(xZ (out.getD k nd0).op).1.y=true
   ·rw [if_pos h] at hy ⊢;rw [iL y out _ hv hn (by have:=oy h; omega) hy,Int.toNat_of_nonneg (oy h).1]
   ·rw [if_neg h,zy (by simpa using h)]
  unfold pN;simp only [ha,hb];rw [aQ6 (k:=0) hn hk rfl,Nat.zero_add]
theorem nE : ∀ (t:Tr) (out:List Nd),wfT t->zB out->out.Nodup->zB (pN t out).2/\(pN t out).2.Nodup/\(∃ l,(pN t out).2=out++l)/\ ∃ k:Nat,(pN t out).1=k/\k<(pN t out).2.length/\tree (pN t out).2 k=t/\((pN t out).2=out\/k+1=(pN t out).2.length)
 | .nil,out,h,_,_=>h.elim
 | .nd op i e g x y,out,⟨h1,h2,h3⟩,hv,hn=>by
  have A:∃ (a:Int) (oa:List Nd),(if (xZ op).1.x=true then pN x out else(0,out))= (a,oa)/\ zB oa/\oa.Nodup/\(∃ l,oa=out++l)/\ (if (xZ op).1.x=true then 0<=a/\a<(oa.length:Int)/\ tree oa a.toNat=x/\(oa=out\/a+1=oa.length) else a=0/\oa=out):=by
   by_cases hx:(xZ op).1.x=true
   ·rw [if_pos hx] at h2 ⊢;obtain⟨v,n,l,k,e1,e2,e3,e4⟩:=nE x out h2 hv hn;refine⟨_,_,rfl,v,n,l,?_⟩;rw [if_pos hx,e1,Int.toNat_natCast];exact⟨by omega,by omega,e3,e4.imp id fun h=>by omega⟩
   ·rw [if_neg hx] at h2 ⊢;exact⟨0,out,rfl,hv,hn,⟨[],by simp⟩,by rw [if_neg hx]; exact⟨rfl,rfl⟩⟩
  obtain⟨a,oa,ea,va,na,⟨la,rfl⟩,ha⟩:=A
  have B:∃ (b:Int) (ob:List Nd),(if (xZ op).1.y=true then pN y (out++la) else(0,out++la))= (b,ob)/\ zB ob/\ob.Nodup/\(∃ l,ob=out++la++l)/\ (if (xZ op).1.y=true then 0<=b/\b<(ob.length:Int)/\ tree ob b.toNat=y/\(ob=out++la\/b+1=ob.length) else b=0/\ob=out++la):=by
   by_cases hy:(xZ op).1.y=true
   ·rw [if_pos hy] at h3 ⊢;obtain⟨v,n,l,k,e1,e2,e3,e4⟩:=nE y (out++la) h3 va na;refine⟨_,_,rfl,v,n,l,?_⟩;rw [if_pos hy,e1,Int.toNat_natCast];exact⟨by omega,by omega,e3,e4.imp id fun h=>by omega⟩
   ·rw [if_neg hy] at h3 ⊢;exact⟨0,out++la,rfl,va,na,⟨[],by simp⟩,by rw [if_neg hy]; exact⟨rfl,rfl⟩⟩
  obtain⟨b,ob,eb,vb,nb,⟨lb,rfl⟩,hb⟩:=B
  have hE:∀ n:Nat,(out++la++lb).length<=n->yJ ⟨op,i,e,g,a,b⟩ n=0:=fun n hln=>by
   refine nI (p:=⟨op,i,e,g,0,0⟩) h1 ?_ ?_
   ·simp only
    split
    ·rename_i h; rw [if_pos h] at ha; simp only [List.length_append] at hln ha; omega
    ·rename_i h; rw [if_neg h] at ha; exact ha.1
   ·simp only
    split
    ·rename_i h; rw [if_pos h] at hb; omega
    ·rename_i h; rw [if_neg h] at hb; exact hb.1
  have tx:(if (xZ op).1.x=true then tree (out++la++lb) a.toNat else .nil)= x:=by
   by_cases hx:(xZ op).1.x=true
   ·rw [if_pos hx] at ha ⊢;rw [kP vb _ (by omega)]; exact ha.2.2.1
   ·rw [if_neg hx] at h2 ⊢; exact h2.symm
  have ty:(if (xZ op).1.y=true then tree (out++la++lb) b.toNat else .nil)= y:=by
   by_cases hy:(xZ op).1.y=true
   ·rw [if_pos hy] at hb ⊢;exact hb.2.2.1
   ·rw [if_neg hy] at h3 ⊢; exact h3.symm
  have hr:pN (.nd op i e g x y) out=match rK ⟨op,i,e,g,a,b⟩ (out++la++lb) 0 with
    | some k=>((k:Int),out++la++lb)
    | none=>(((out++la++lb).length:Int),out++la++lb ++ [⟨op,i,e,g,a,b⟩]):=by
   conv=>lhs; unfold pN
   simp only [ea,eb]
  rw [hr]
  cases hq:rK ⟨op,i,e,g,a,b⟩ (out++la++lb) 0 with
  | some k=>
   obtain⟨_,k1,k2⟩:=aXk hq;rw [Nat.sub_zero] at k1 k2;have hvk:=vb k k1;obtain⟨ox,oy,_,_⟩:=uV hvk;rw [k2] at ox oy;simp only at ox oy
   refine⟨vb,nb,⟨la++lb,by simp⟩,k,rfl,k1,?_,.inl ?_⟩
   ·rw [uP vb k1,k2];simp only [tx,ty]
   ·show out++la++lb=out
    have e1:out++la++lb=out++la:=by
     by_cases hy:(xZ op).1.y=true
     ·rw [if_pos hy] at hb
      rcases hb.2.2.2 with h | h
      ·exact h
      ·have:=oy hy; omega
     ·rw [if_neg hy] at hb; exact hb.2
    have e2:out++la=out:=by
     by_cases hx:(xZ op).1.x=true
     ·rw [if_pos hx] at ha
      rcases ha.2.2.2 with h | h
      ·exact h
      ·have:=ox hx;rw [e1] at k1;omega
     ·rw [if_neg hx] at ha; exact ha.2
    rw [e1,e2]
  | none=>
   have vs:zB (out++la++lb ++ [⟨op,i,e,g,a,b⟩]):=iG vb (hE _ (Nat.le_refl _))
   refine⟨vs,?_,⟨la++lb ++ [⟨op,i,e,g,a,b⟩],by simp⟩,(out++la++lb).length,rfl,by simp,?_,.inr (by simp only [List.length_append,List.length_singleton])⟩
   ·rw [List.nodup_append];refine⟨nb,by simp,fun p hp q hq'=>?_⟩;rw [List.mem_singleton] at hq';subst hq';exact fun e=>aUl hq (e ▸ hp)
   ·have hgl:(out++la++lb ++ [(⟨op,i,e,g,a,b⟩:Nd)]).getD (out++la++lb).length nd0=⟨op,i,e,g,a,b⟩:=by simp [List.getD]
    rw [uP vs (by simp),hgl];simp only
    congr 1
    ·by_cases hx:(xZ op).1.x=true
     ·rw [if_pos hx] at tx ha ⊢;rw [kP vs _ (by simp only [List.length_append] at ha ⊢; omega)]; exact tx
     ·rw [if_neg hx] at tx ⊢; exact tx
    ·by_cases hy:(xZ op).1.y=true
     ·rw [if_pos hy] at ty hb ⊢;rw [kP vs _ (by omega)]; exact ty
     ·rw [if_neg hy] at ty ⊢; exact ty
end Fm
open Rs Fm
namespace Fm
structure aEx (f : List Nd) (s : CS) : Prop where
 v:zB s.out
 n:s.out.Nodup
 d:∀ z k,zK z s.done=some k->∃ i j:Nat,z=i/\k=j/\i<f.length/\j<s.out.length/\tree s.out j=tree f i
theorem iK {f:List Nd} (hv:zB f):∀ (n:Nat) {i:Nat} {s:CS},i<n->i<f.length->aEx f s ->
  (xP f n i s).1=(pN (tree f i) s.out).1/\(xP f n i s).2.out=(pN (tree f i) s.out).2/\aEx f (xP f n i s).2
 | 0,_,_,h,_,_=>by omega
 | n + 1,i,s,h,hi,hI=>by
  cases hu:zK (i:Int) s.done with
  | some k=>
   rw [xP,hu];obtain⟨i',j,e1,e2,_,e4,e5⟩:=hI.d _ _ hu;obtain rfl:i=i':=by omega
   rw [iL _ _ j hI.v hI.n e4 e5];exact⟨e2,rfl,hI⟩
  | none=>
   rw [sL hu];obtain⟨ox,oy,zx,zy⟩:=uV (hv i hi);have hsp:=nE _ s.out (aQq hv i hi) hI.v hI.n;rw [uP hv hi] at hsp ⊢;simp only;generalize hp:f.getD i nd0=p at hsp ox oy zx zy ⊢
   have S1:(if (xZ p.op).1.x=true then xP f n p.x.toNat s else(p.x,s)).1=(if (xZ p.op).1.x=true then pN (tree f p.x.toNat) s.out else(0,s.out)).1 /\
     (if (xZ p.op).1.x=true then xP f n p.x.toNat s else(p.x,s)).2.out=(if (xZ p.op).1.x=true then pN (tree f p.x.toNat) s.out else(0,s.out)).2/\aEx f (if (xZ p.op).1.x=true then xP f n p.x.toNat s else(p.x,s)).2:=by
    by_cases hx:(xZ p.op).1.x=true
    ·rw [if_pos hx,if_pos hx];exact iK hv n (by have:=ox hx; omega) (by have:=ox hx; omega) hI
    ·rw [if_neg hx,if_neg hx];exact⟨zx (by simpa using hx),rfl,hI⟩
   have e1:(if (xZ p.op).1.x=true then pN (if (xZ p.op).1.x=true then tree f p.x.toNat else .nil) s.out else(0,s.out))= (if (xZ p.op).1.x=true then pN (tree f p.x.toNat) s.out else(0,s.out)):=by
    by_cases hx:(xZ p.op).1.x=true
    ·rw [if_pos hx,if_pos hx,if_pos hx]
    ·rw [if_neg hx,if_neg hx]
   have hfin:pN (.nd p.op p.i p.e p.g (if (xZ p.op).1.x=true then tree f p.x.toNat else .nil) (if (xZ p.op).1.y=true then tree f p.y.toNat else .nil)) s.out =
     (let a:=(if (xZ p.op).1.x=true then pN (tree f p.x.toNat) s.out else(0,s.out))
      let b:=if (xZ p.op).1.y=true then pN (tree f p.y.toNat) a.2 else(0,a.2)
      match rK ⟨p.op,p.i,p.e,p.g,a.1,b.1⟩ b.2 0 with
      | some k=>((k:Int),b.2)
      | none=>((b.2.length:Int),b.2 ++ [⟨p.op,p.i,p.e,p.g,a.1,b.1⟩])):=by
    conv=>lhs; unfold pN
    simp only [e1]
    by_cases hy:(xZ p.op).1.y=true
    ·simp only [if_pos hy] <;> rfl
    ·simp only [if_neg hy] <;> rfl
   rw [hfin] at hsp ⊢;simp only at hsp ⊢;generalize (if (xZ p.op).1.x=true then xP f n p.x.toNat s else(p.x,s))= A at S1 ⊢;generalize (if (xZ p.op).1.x=true then pN (tree f p.x.toNat) s.out else(0,s.out))= A' at S1 hsp ⊢;obtain⟨a1,a2⟩:=A';obtain⟨A1,A2⟩:=A;obtain⟨rfl,rfl,IA⟩:=S1;simp only at hsp ⊢
   have S2:(if (xZ p.op).1.y=true then xP f n p.y.toNat A2 else(p.y,A2)).1=(if (xZ p.op).1.y=true then pN (tree f p.y.toNat) A2.out else(0,A2.out)).1 /\
     (if (xZ p.op).1.y=true then xP f n p.y.toNat A2 else(p.y,A2)).2.out=(if (xZ p.op).1.y=true then pN (tree f p.y.toNat) A2.out else(0,A2.out)).2/\aEx f (if (xZ p.op).1.y=true then xP f n p.y.toNat A2 else(p.y,A2)).2:=by
    by_cases hy:(xZ p.op).1.y=true
    ·rw [if_pos hy,if_pos hy];exact iK hv n (by have:=oy hy; omega) (by have:=oy hy; omega) IA
    ·rw [if_neg hy,if_neg hy];exact⟨zy (by simpa using hy),rfl,IA⟩
   generalize (if (xZ p.op).1.y=true then xP f n p.y.toNat A2 else(p.y,A2))= B at S2 ⊢;generalize (if (xZ p.op).1.y=true then pN (tree f p.y.toNat) A2.out else(0,A2.out))= B' at S2 hsp ⊢;obtain⟨b1,b2⟩:=B';obtain⟨B1,B2⟩:=B;obtain⟨rfl,rfl,IB⟩:=S2;replace IB:aEx f B2:=IB;simp only at hsp ⊢
   have hset:∀ (out':List Nd) (k:Nat),(∃ l,out'=B2.out++l)->zB out'->out'.Nodup->k<out'.length->tree out' k=tree f i->aEx f ⟨out',jX i k B2.done⟩:=by
    rintro out' k ⟨l,rfl⟩ hv' hn' hk' ht';refine⟨hv',hn',fun z k' hz=>?_⟩;simp only at hz ⊢;rw [vY] at hz
    split at hz
    ·cases hz;exact⟨i,k,by assumption,rfl,hi,hk',ht'⟩
    ·obtain⟨i',j,q1,q2,q3,q4,q5⟩:=IB.d _ _ hz;exact⟨i',j,q1,q2,q3,by simp; omega,by rw [kP hv' _ q4]; exact q5⟩
   have htf:tree f i = .nd p.op p.i p.e p.g (if (xZ p.op).1.x=true then tree f p.x.toNat else .nil) (if (xZ p.op).1.y=true then tree f p.y.toNat else .nil):=by
    rw [uP hv hi,hp]
   unfold fV
   cases hq:rK ⟨p.op,p.i,p.e,p.g,A1,B1⟩ B2.out 0 with
   | some k=>
    rw [hq] at hsp;obtain⟨s1,s2,_,k',s3,s4,s5,_⟩:=hsp;simp only at s1 s2 s3 s4 s5 ⊢;obtain rfl:k=k':=by omega
    exact⟨trivial,trivial,hset _ k ⟨[],by simp⟩ s1 s2 s4 (by rw [s5,htf])⟩
   | none=>
    rw [hq] at hsp;obtain⟨s1,s2,_,k',s3,s4,s5,_⟩:=hsp;simp only at s1 s2 s3 s4 s5 ⊢;obtain rfl:B2.out.length=k':=by omega
    exact⟨trivial,trivial,hset _ _ ⟨_,rfl⟩ s1 s2 s4 (by rw [s5,htf])⟩
theorem gA {f:List Nd} (hv:zB f) {i:Nat} (hi:i<f.length):wM f i=canon (tree f i):=
 (iK hv (i+1) (s:=⟨[],[]⟩) (by omega) hi ⟨fun k h=>by simp at h,.nil,fun z k h=>by cases h⟩).2.1
theorem aRk {t:Tr} (h:wfT t):zB (canon t)/\ (canon t).Nodup/\0<(canon t).length/\tree (canon t) ((canon t).length-1)= t:=by
 obtain⟨v,n,_,k,e1,e2,e3,e4⟩:=nE t [] h (fun k h=>by simp at h) .nil;refine⟨v,n,by unfold canon; omega,?_⟩
 have:k=(canon t).length-1:=by
  rcases e4 with e4 | e4
  ·rw [e4] at e2; simp at e2
  ·unfold canon; omega
 rw [<- this]; exact e3
theorem aWo {f:List Nd} (h:xH f=0):xJ f=canon (tree f (f.length-1)):=by
 obtain⟨h1,h2,h3⟩:=zI h;have hl:0<f.length:=by cases f with | nil=>exact absurd rfl h1 | cons a b=>simp
 unfold xJ kU;rw [if_neg (by omega),show ((f.length:Int)-1).toNat=f.length-1 by omega];exact gA h3 (by omega)
end Fm
section
open Rs Fm
namespace Fm
end Fm
end
section
open Rs Fm
namespace Fm
def kX (f:List Nd):Tr:=tree f (f.length-1)
theorem aLb {f:List Nd} (h:xH f=0):wfT (kX f):=by
 obtain⟨h1,h2,h3⟩:=zI h;have hl:0<f.length:=by cases f with | nil=>exact absurd rfl h1 | cons a b=>simp
 exact aQq h3 _ (by omega)
theorem aYt {f:List Nd} (h:xH f=0):tree (xJ f) ((xJ f).length-1)= kX f/\(xJ f).Nodup:=by
 rw [aWo h];obtain⟨_,b,_,d⟩:=aRk (aLb h);exact⟨d,b⟩
end Fm
end
section
open Rs Fm
namespace Fm
end Fm
end
section
open Rs Fm
namespace Fm
end Fm
end
section
open Rs Fm
namespace Fm
end Fm
end
open Rs Fm
namespace Fm
theorem aJk (m:Nat) (h:m<=6):(xZ (11+(m:Int))).1.fr=((2 ^ (m+1):Nat):Int):=by
 have hc:m=0\/m=1\/m=2\/m=3\/m=4\/m=5\/m=6:=by omega
 rcases hc with rfl | rfl | rfl | rfl | rfl | rfl | rfl <;> decide
theorem aUq (op:Int) (h:op=9\/op=10):(xZ op).1.fr=1:=by rcases h with rfl | rfl <;> decide
theorem aXp (op:Int) (h:18<=op/\op<=21):(xZ op).1.fr=256:=by
 have hc:op=18\/op=19\/op=20\/op=21:=by omega
 rcases hc with rfl | rfl | rfl | rfl <;> decide
theorem aNi (op:Int) (h:1<=op/\op<=8):(xZ op).1.fr=0:=by
 have hc:op=1\/op=2\/op=3\/op=4\/op=5\/op=6\/op=7\/op=8:=by omega
 rcases hc with rfl | rfl | rfl | rfl | rfl | rfl | rfl | rfl <;> decide
def oI (m k:Nat) (n:Int):Bool:=(List.range k).all fun i=>!m.testBit i || decide ((i:Int)<n)
theorem eI {m k:Nat} {n:Int} (hm:m<2 ^ k) (hk:k<=31):oC m n=oI m k n:=by
 unfold oC oI;rw [Bool.eq_iff_iff,Bool.or_eq_true,decide_eq_true_iff,decide_eq_true_iff,List.all_eq_true]
 constructor
 ·rintro h i hi;have hi':=List.mem_range.1 hi
  rcases h with h | h
  ·rw [decide_eq_true (by omega),Bool.or_true]
  ·cases hb:m.testBit i with
   | false=>rfl
   | true=>
    have h2:m<2 ^ n.toNat:=by
     rcases Nat.div_eq_zero_iff.1 h with h | h
     ·have:=Nat.two_pow_pos n.toNat; omega
     ·exact h
    have h3:i<n.toNat:=Decidable.byContradiction fun hh=>by
     have h4:=Nat.testBit_lt_two_pow (Nat.lt_of_lt_of_le h2 (Nat.pow_le_pow_right (by decide) (show n.toNat<=i by omega)));rw [h4] at hb; cases hb
    rw [decide_eq_true (by omega)]; rfl
 ·intro h;refine .inr (Nat.div_eq_of_lt (Nat.lt_pow_two_of_testBit _ fun i hi=>?_))
  cases hb:m.testBit i with
  | false=>rfl
  | true=>
   have hik:i<k:=Decidable.byContradiction fun hh=>by
    have h4:=Nat.testBit_lt_two_pow (Nat.lt_of_lt_of_le hm (Nat.pow_le_pow_right (by decide) (show k<=i by omega)));rw [h4] at hb; cases hb
   have:=h i (List.mem_range.2 hik);rw [hb] at this;simp at this;omega
theorem iE {m:Nd->Nat} {k:Nat}:∀ {l:List Nd},(∀ p ∈ l,m p<2 ^ k)->yM m l<2 ^ k:=by
 have key:∀ (l:List Nd) (a:Nat),(∀ p ∈ l,m p<2 ^ k)->a<2 ^ k->l.foldl (fun a p=>a ||| m p) a<2 ^ k:=by
  intro l
  induction l with
  | nil=>intro a _ h; exact h
  | cons p r ih=>intro a h ha; exact ih _ (fun q hq=>h q (List.mem_cons_of_mem _ hq)) (Nat.or_lt_two_pow ha (h p (by simp)))
 exact fun {l} h=>key l 0 h (Nat.two_pow_pos k)
theorem aKd {p:Nd} {k:Int} (h:yJ p k=0):1<=p.op/\p.op<=21:=by
 have h1:=(zO.1 h).1;refine Decidable.byContradiction fun hc=>?_;rw [show xZ p.op=(uC,false) from if_pos (by omega)] at h1;cases h1
theorem aSh {p:Nd} {k:Int} (h:yJ p k=0) (hg:(xZ p.op).1.gr=false):p.g=0:=by
 have h2:=(zO.1 h).2.2.2.1;simp only [hg,Bool.or_eq_false_iff,Bool.not_false,Bool.true_and,decide_eq_false_iff_not] at h2;omega
theorem aX8 (f:List Nd):tW f<2 ^ 4:=iE fun p hp=>by
 obtain⟨k,hk⟩:=oD (lL f _) hp;unfold wI
 split
 ·rename_i hf;have:=vB hk hf;exact Nat.pow_lt_pow_right (by decide) (by omega)
 ·have:=nZ hk;omega
theorem aXu (f:List Nd):pI f<2 ^ 8:=iE fun p hp=>by
 obtain⟨k,hk⟩:=oD (lL f _) hp;unfold tA
 split
 ·rename_i hf;have:=pB hk hf;exact Nat.pow_lt_pow_right (by decide) (by omega)
 ·decide
end Fm
theorem aSb {op:Int} (h:1<=op/\op<=21):yX Tryz.prog 180 [.int .i64 op] (.int .i64 (xZ op).1.fr):=by
 refine xX.go_fn mixed Tryz.func180 bYm (by simp) fun hf=>?_
 by_cases e9:op=9
 ·subst e9;rw [aUq 9 (.inl rfl)];simp only [ZA,ZB,ZC,ZD,ZE,↓reduceIte,ZF,ZG,ZH,ZI,ZJ,reduceCtorEq,ZK,↓zU,↓zD,zV,zT,zW];exact .same
 have c9:(op==9)= false:=by simpa using e9
 by_cases e10:op=10
 ·subst e10;rw [aUq 10 (.inr rfl)];simp only [ZA,ZB,ZC,ZD,ZE,↓reduceIte,ZF,ZG,ZH,ZI,ZJ,reduceCtorEq,ZK,↓zU,↓zD,zV,zT,zW];exact .same
 have c10:(op==10)= false:=by simpa using e10
 by_cases h11:11<=op
 case neg=>
  have h18:¬ 18<=op:=by omega
  rw [aNi op (by omega)];simp only [ZA,ZB,ZC,ZD,ZE,↓reduceIte,ZF,ZG,ZH,ZI,ZJ,reduceCtorEq,ZK,↓zU,↓zD,zV,zT,zW,c9,c10,h11,h18];exact .same
 by_cases h17:op<=17
 case neg=>
  have h18:18<=op:=by omega
  rw [aXp op (by omega)];simp only [ZA,ZB,ZC,ZD,ZE,↓reduceIte,ZF,ZG,ZH,ZI,ZJ,reduceCtorEq,ZK,↓zU,↓zD,zV,zT,zW,c9,c10,h11,h17,h18];exact .same
 obtain⟨m,hm⟩:∃ m:Nat,op=11+(m:Int):=⟨(op-11).toNat,by omega⟩;have hfr:=aJk m (by omega);rw [<- hm] at hfr;rw [hfr];have e1:IntKind.i64.wrap (op-11)= (m:Int):=by rw [wrap_i64 (by omega)]; omega
 have e2:IntKind.i64.wrap ((m:Int)+ 1)= ((m+1:Nat):Int):=tY (by omega);simp only [ZA,ZB,ZC,ZD,ZE,↓reduceIte,ZF,ZG,ZH,ZI,ZJ,reduceCtorEq,ZK,↓zU,↓zD,zV,zT,zW,c9,c10,h11,h17,e1,e2,aE9 (show m+1<=61 by omega)]
 (repeat refine sd ?_)
 exact .same
theorem aSa (f:List Nd):yX Tryz.prog 118 [.sl 6 (ndR f)] (.int .i64 (zS f)):=by
 have hlen:=pE f ((f.length:Int)-1);rw [show kU f ((f.length:Int)-1)= xJ f from rfl] at hlen;have hnd:=bH f;have hall:∀ p ∈ xJ f,tB p<4096:=fun p _=>by have:=mK p.op; unfold tB; omega
 refine xX.go_fn mixed Tryz.func118 bZb (by simp) fun hf=>?_;simp only [ZA,ZB,ZC,ZD,ZE,↓reduceIte,ZF,ZG,ZH,ZI,ZJ,reduceCtorEq,ZK,↓zU,↓zD,zV,zT,zW];refine .go (cr (qQ f)) ?_;simp only [ZA,ZB,ZC,ZD,ZE,↓reduceIte,ZF,ZG,ZH,ZI,ZJ,reduceCtorEq,ZK,↓zU,↓zD,zV,zT,zW];unfold zS;generalize xJ f=c at hlen hnd hall
 refine xV (fun k:Nat=>[(5,.int .i64 k),(4,.int .i64 (yM tB (c.take k))),(3,.sl 6 (ndR c))]) (fun _=>⟨0,[]⟩) (fun k=>k<=c.length) (fun k=>c.length-k) 0 (Nat.zero_le _) ?_ ?_
 ·(refine xM.same ?_; simp [xR,Fr.get,yM])
 intro k hk;refine xQ mixed ?_
 by_cases h:k<c.length
 ·have hd:((k:Int)<(c.length:Int)):=by omega
  have hw:IntKind.i64.wrap ((k:Int)+ 1)= ((k+1:Nat):Int):=wrap_i64 (by omega);have hg:=vH c h;have hq:=hnd k h;have hlt:yM tB (c.take k)<2 ^ 12:=sQ fun p hp=>hall p (List.mem_of_mem_take hp);have hlp:=hall _ (xN (d:=nd0) h);have hs:yM tB (c.take (k+1))= yM tB (c.take k) ||| tB (c.getD k nd0):=by rw [yD (d:=nd0) h,rY]
  generalize c.getD k nd0=p at hg hq hs hlp;have hop:1<=p.op/\p.op<=21:=aKd hq;have hfr:=aSb hop;have hu:=mK p.op;rw [show (xZ p.op).1.fr=((tB p:Nat):Int) from(Int.toNat_of_nonneg hu.1).symm] at hfr;have hor:=aTn (a:=yM tB (c.take k)) (b:=tB p) (by omega) (by omega);simp only [ZA,ZB,ZC,ZD,ZE,↓reduceIte,ZF,ZG,ZH,ZI,ZJ,reduceCtorEq,ZK,↓zU,↓zD,zV,zT,zW,hd,xO,hg,Nd.row]
  (repeat refine sd ?_)
  refine .go (cq hfr) ?_;simp only [ZA,ZB,ZC,ZD,ZE,↓reduceIte,ZF,ZG,ZH,ZI,ZJ,reduceCtorEq,ZK,↓zU,↓zD,zV,zT,zW,hor]
  (repeat refine sd ?_)
  refine⟨k+1,by omega,?_,by omega⟩;rw [hs]
  (refine xM.same ?_; simp only [xR,Fr.get,↓reduceIte,reduceIte,Nat.reduceEqDiff,reduceCtorEq,D.int.injEq,D.bool.injEq,D.sl.injEq,and_true,true_and,and_self])
  exact hw
 have hd:¬ ((k:Int)<(c.length:Int)):=by omega
 obtain rfl:k=c.length:=by omega
 simp only [ZA,ZB,ZC,ZD,ZE,↓reduceIte,ZF,ZG,ZH,ZI,ZJ,reduceCtorEq,ZK,↓zU,↓zD,zV,zT,zW,hd,xO];exact .same
theorem aYm (f:List Nd):yX Tryz.prog 181 [.sl 6 (ndR f)] (.int .i64 (tW f)):=by
 have hlen:=pE f ((f.length:Int)-1);rw [show kU f ((f.length:Int)-1)= xJ f from rfl] at hlen;have hnd:=bH f
 have hall:∀ p ∈ xJ f,wI p<4096:=fun p hp=>by
  obtain⟨k,hk⟩:=oD hnd hp;exact aX9 hk
 refine xX.go_fn mixed Tryz.func181 bYl (by simp) fun hf=>?_;simp only [ZA,ZB,ZC,ZD,ZE,↓reduceIte,ZF,ZG,ZH,ZI,ZJ,reduceCtorEq,ZK,↓zU,↓zD,zV,zT,zW];refine .go (cr (qQ f)) ?_;simp only [ZA,ZB,ZC,ZD,ZE,↓reduceIte,ZF,ZG,ZH,ZI,ZJ,reduceCtorEq,ZK,↓zU,↓zD,zV,zT,zW];unfold tW;generalize xJ f=c at hlen hnd hall
 refine xV (fun k:Nat=>[(5,.int .i64 k),(4,.int .i64 (yM wI (c.take k))),(3,.sl 6 (ndR c))]) (fun _=>⟨0,[]⟩) (fun k=>k<=c.length) (fun k=>c.length-k) 0 (Nat.zero_le _) ?_ ?_
 ·(refine xM.same ?_; simp [xR,Fr.get,yM])
 intro k hk;refine xQ mixed ?_
 by_cases h:k<c.length
 ·have hd:((k:Int)<(c.length:Int)):=by omega
  have hw:IntKind.i64.wrap ((k:Int)+ 1)= ((k+1:Nat):Int):=wrap_i64 (by omega);have hg:=vH c h;have hq:=hnd k h;have hlt:yM wI (c.take k)<2 ^ 12:=sQ fun p hp=>hall p (List.mem_of_mem_take hp);have hlp:=hall _ (xN (d:=nd0) h);have hs:yM wI (c.take (k+1))= yM wI (c.take k) ||| wI (c.getD k nd0):=by rw [yD (d:=nd0) h,rY]
  generalize c.getD k nd0=p at hg hq hs hlp;have hag:=aPh p.op;have hgr:=nZ hq;obtain⟨g,hgg⟩:=Int.eq_ofNat_of_zero_le hgr.1
  cases hu:(xZ p.op).1.ag with
  | false=>
   rw [hu] at hag;have hfn:wI p=g:=by rw [wI,if_neg (by rw [hu]; simp),hgg,Int.toNat_natCast]
   have hor:=aTn (a:=yM wI (c.take k)) (b:=g) (by omega) (by omega);simp only [ZA,ZB,ZC,ZD,ZE,↓reduceIte,ZF,ZG,ZH,ZI,ZJ,reduceCtorEq,ZK,↓zU,↓zD,zV,zT,zW,hd,xO,hg,Nd.row]
   (repeat refine sd ?_)
   refine .go (cq hag) ?_;simp only [ZA,ZB,ZC,ZD,ZE,↓reduceIte,ZF,ZG,ZH,ZI,ZJ,reduceCtorEq,ZK,↓zU,↓zD,zV,zT,zW,xO,hg,Nd.row,hgg,hor]
   (repeat refine sd ?_)
   refine⟨k+1,by omega,?_,by omega⟩;rw [hs,hfn]
   (refine xM.same ?_; simp only [xR,Fr.get,↓reduceIte,reduceIte,Nat.reduceEqDiff,reduceCtorEq,D.int.injEq,D.bool.injEq,D.sl.injEq,and_true,true_and,and_self])
   exact hw
  | true=>
   rw [hu] at hag;obtain⟨i0,i3⟩:=vB hq hu;obtain⟨m,hm⟩:=Int.eq_ofNat_of_zero_le i0;have hm3:m<=3:=by omega
   have hg0:p.g=0:=aSh hq (by rcases lX p.op with h | h | h | h | h <;> simp_all);have hp2:(2:Nat)^ m<2 ^ 12:=Nat.pow_lt_pow_right (by omega) (by omega);have hfn:wI p=2 ^ m:=by rw [wI,if_pos hu,hm,Int.toNat_natCast]
   have hor:=aTn (a:=yM wI (c.take k)) (b:=2 ^ m) (by omega) (by omega);have hor2:=aTn (a:=yM wI (c.take k) ||| 2 ^ m) (b:=0) (by have:=Nat.or_lt_two_pow hlt hp2; omega) (by omega);rw [Nat.or_zero] at hor2;simp only [ZA,ZB,ZC,ZD,ZE,↓reduceIte,ZF,ZG,ZH,ZI,ZJ,reduceCtorEq,ZK,↓zU,↓zD,zV,zT,zW,hd,xO,hg,Nd.row]
   (repeat refine sd ?_)
   refine .go (cq hag) ?_;simp only [ZA,ZB,ZC,ZD,ZE,↓reduceIte,ZF,ZG,ZH,ZI,ZJ,reduceCtorEq,ZK,↓zU,↓zD,zV,zT,zW,xO,hg,Nd.row,hm,aE9 (show m<=61 by omega),hor,hg0,hor2]
   (repeat refine sd ?_)
   refine⟨k+1,by omega,?_,by omega⟩;rw [hs,hfn]
   (refine xM.same ?_; simp only [xR,Fr.get,↓reduceIte,reduceIte,Nat.reduceEqDiff,reduceCtorEq,D.int.injEq,D.bool.injEq,D.sl.injEq,and_true,true_and,and_self])
   exact⟨hw,hor2⟩
 have hd:¬ ((k:Int)<(c.length:Int)):=by omega
 obtain rfl:k=c.length:=by omega
 simp only [ZA,ZB,ZC,ZD,ZE,↓reduceIte,ZF,ZG,ZH,ZI,ZJ,reduceCtorEq,ZK,↓zU,↓zD,zV,zT,zW,hd,xO];exact .same
open Rs Fm
theorem aOk (f:List Nd) (a b:Int):yX Tryz.prog 119 [.sl 6 (ndR f),.int .i64 a,.int .i64 b] (.bool (sT f a b)):=by
 have hA:=aYm f;have hF:=aSc f;have hC:=aZz f;have ha:=eI (n:=a) (aX8 f) (by decide);have hb:=eI (n:=b) (aXu f) (by decide);have la:=aX8 f;have lb:=aXu f;unfold sT;rw [ha,hb];generalize tW f=ma at hA la;generalize pI f=mb at hF lb;refine xX.go_fn mixed Tryz.func119 bZa (by simp) fun hf=>?_;simp only [ZA,ZB,ZC,ZD,ZE,↓reduceIte,ZF,ZG,ZH,ZI,ZJ,reduceCtorEq,ZK,↓zU,↓zD,zV,zT,zW];refine .go (cr hC) ?_;by_cases hz:xH f=0
 case neg=>
  have e:(xH f != 0)= true:=by simpa using hz
  simp only [ZA,ZB,ZC,ZD,ZE,↓reduceIte,ZF,ZG,ZH,ZI,ZJ,reduceCtorEq,ZK,↓zU,↓zD,zV,zT,zW,e];exact .drop (by simp) (by simp [vw,hz])
 have e:(xH f != 0)= false:=by simpa using hz
 rw [decide_eq_true hz,Bool.true_and];simp only [ZA,ZB,ZC,ZD,ZE,↓reduceIte,ZF,ZG,ZH,ZI,ZJ,reduceCtorEq,ZK,↓zU,↓zD,zV,zT,zW,e]
 refine xV (fun i:Nat=>[(7,.int .i64 i),(2,.int .i64 b),(1,.int .i64 a),(0,.sl 6 (ndR f))]) (fun _=>⟨0,[]⟩) (fun i=>i<=4/\oI ma i a=true) (fun i=>4-i) 0 ⟨Nat.zero_le _,rfl⟩ ?_ ?_
 ·(refine xM.same ?_; simp [xR,Fr.get])
 rintro i ⟨hi,hk⟩;refine xQ mixed ?_
 by_cases h4:i<4
 ·have hd:((i:Int)<4):=by omega
  have hsu:oI ma (i+1) a=(oI ma i a&&(!ma.testBit i || decide ((i:Int)<a))):=by
   unfold oI; rw [List.range_succ,List.all_append,List.all_cons,List.all_nil,Bool.and_true]
  have hbit:(((ma / 2 ^ i:Nat):Int).tmod 2==1)= ma.testBit i:=by rw [aDf,aIy]
  rw [hk,Bool.true_and] at hsu;simp only [ZA,ZB,ZC,ZD,ZE,↓reduceIte,ZF,ZG,ZH,ZI,ZJ,reduceCtorEq,ZK,↓zU,↓zD,zV,zT,zW,hd];refine .go (cr hA) ?_
  cases hb2:ma.testBit i with
  | false=>
   rw [hb2] at hbit hsu;simp only [ZA,ZB,ZC,ZD,ZE,↓reduceIte,ZF,ZG,ZH,ZI,ZJ,reduceCtorEq,ZK,↓zU,↓zD,zV,zT,zW,lK ma i (by omega),hbit]
   (repeat refine sd ?_)
   refine⟨i+1,⟨by omega,by rw [hsu]; rfl⟩,?_,by omega⟩
   (refine xM.same ?_; simp only [xR,Fr.get,↓reduceIte,reduceIte,Nat.reduceEqDiff,reduceCtorEq,D.int.injEq,D.bool.injEq,D.sl.injEq,and_true,true_and,and_self])
   exact tY (by omega)
  | true=>
   rw [hb2] at hbit hsu
   by_cases hge:a<=(i:Int)
   ·simp only [ZA,ZB,ZC,ZD,ZE,↓reduceIte,ZF,ZG,ZH,ZI,ZJ,reduceCtorEq,ZK,↓zU,↓zD,zV,zT,zW,lK ma i (by omega),hbit,hge]
    (repeat refine sd ?_)
    have hf0:oI ma 4 a=false:=by
     unfold oI;rw [List.all_eq_false];exact⟨i,List.mem_range.2 h4,by rw [hb2,decide_eq_false (by omega)]; simp⟩
    exact .drop (by simp) (by simp [vw,hf0])
   ·simp only [ZA,ZB,ZC,ZD,ZE,↓reduceIte,ZF,ZG,ZH,ZI,ZJ,reduceCtorEq,ZK,↓zU,↓zD,zV,zT,zW,lK ma i (by omega),hbit,hge]
    (repeat refine sd ?_)
    refine⟨i+1,⟨by omega,by rw [hsu,decide_eq_true (by omega)]; rfl⟩,?_,by omega⟩
    (refine xM.same ?_; simp only [xR,Fr.get,↓reduceIte,reduceIte,Nat.reduceEqDiff,reduceCtorEq,D.int.injEq,D.bool.injEq,D.sl.injEq,and_true,true_and,and_self])
    exact tY (by omega)
 have hd:¬ ((i:Int)<4):=by omega
 obtain rfl:i=4:=by omega
 rw [hk,Bool.true_and];simp only [ZA,ZB,ZC,ZD,ZE,↓reduceIte,ZF,ZG,ZH,ZI,ZJ,reduceCtorEq,ZK,↓zU,↓zD,zV,zT,zW,hd]
 refine xV (fun i:Nat=>[(8,.int .i64 i),(2,.int .i64 b),(0,.sl 6 (ndR f))]) (fun _=>⟨0,[]⟩) (fun i=>i<=8/\oI mb i b=true) (fun i=>8-i) 0 ⟨Nat.zero_le _,rfl⟩ ?_ ?_
 ·(refine xM.same ?_; simp [xR,Fr.get])
 clear hd hi hk;rintro i ⟨hi,hk⟩;refine xQ mixed ?_
 by_cases h4:i<8
 ·have hd:((i:Int)<8):=by omega
  have hsu:oI mb (i+1) b=(oI mb i b&&(!mb.testBit i || decide ((i:Int)<b))):=by
   unfold oI; rw [List.range_succ,List.all_append,List.all_cons,List.all_nil,Bool.and_true]
  have hbit:(((mb / 2 ^ i:Nat):Int).tmod 2==1)= mb.testBit i:=by rw [aDf,aIy]
  rw [hk,Bool.true_and] at hsu;simp only [ZA,ZB,ZC,ZD,ZE,↓reduceIte,ZF,ZG,ZH,ZI,ZJ,reduceCtorEq,ZK,↓zU,↓zD,zV,zT,zW,hd];refine .go (cr hF) ?_
  cases hb2:mb.testBit i with
  | false=>
   rw [hb2] at hbit hsu;simp only [ZA,ZB,ZC,ZD,ZE,↓reduceIte,ZF,ZG,ZH,ZI,ZJ,reduceCtorEq,ZK,↓zU,↓zD,zV,zT,zW,lK mb i (by omega),hbit]
   (repeat refine sd ?_)
   refine⟨i+1,⟨by omega,by rw [hsu]; rfl⟩,?_,by omega⟩
   (refine xM.same ?_; simp only [xR,Fr.get,↓reduceIte,reduceIte,Nat.reduceEqDiff,reduceCtorEq,D.int.injEq,D.bool.injEq,D.sl.injEq,and_true,true_and,and_self])
   exact tY (by omega)
  | true=>
   rw [hb2] at hbit hsu
   by_cases hge:b<=(i:Int)
   ·simp only [ZA,ZB,ZC,ZD,ZE,↓reduceIte,ZF,ZG,ZH,ZI,ZJ,reduceCtorEq,ZK,↓zU,↓zD,zV,zT,zW,lK mb i (by omega),hbit,hge]
    (repeat refine sd ?_)
    have hf0:oI mb 8 b=false:=by
     unfold oI;rw [List.all_eq_false];exact⟨i,List.mem_range.2 h4,by rw [hb2,decide_eq_false (by omega)]; simp⟩
    exact .drop (by simp) (by simp [vw,hf0])
   ·simp only [ZA,ZB,ZC,ZD,ZE,↓reduceIte,ZF,ZG,ZH,ZI,ZJ,reduceCtorEq,ZK,↓zU,↓zD,zV,zT,zW,lK mb i (by omega),hbit,hge]
    (repeat refine sd ?_)
    refine⟨i+1,⟨by omega,by rw [hsu,decide_eq_true (by omega)]; rfl⟩,?_,by omega⟩
    (refine xM.same ?_; simp only [xR,Fr.get,↓reduceIte,reduceIte,Nat.reduceEqDiff,reduceCtorEq,D.int.injEq,D.bool.injEq,D.sl.injEq,and_true,true_and,and_self])
    exact tY (by omega)
 have hd:¬ ((i:Int)<8):=by omega
 obtain rfl:i=8:=by omega
 rw [hk];simp only [ZA,ZB,ZC,ZD,ZE,↓reduceIte,ZF,ZG,ZH,ZI,ZJ,reduceCtorEq,ZK,↓zU,↓zD,zV,zT,zW,hd];exact .drop (by simp) (by simp [vw])
namespace Ru
structure wP where
 loc:List (List Int)
 fac:List (BitVec 64)
structure bP where
 ag:Int
 fa:Int
 ln:Int
 rs:List wP
def wP.row (r:wP):List D:=[.sl 1 (rl r.loc),.sl 1 (us r.fac)]
def oQ (l:List wP):List (List D):=l.map wP.row
def bP.cells (s:bP):List D:=[.int .i64 s.ag,.int .i64 s.fa,.int .i64 s.ln,.sl 2 (oQ s.rs)]
def bP.d (s:bP):D:=.agg s.cells
def mW : wP:=⟨[],[]⟩
theorem tI (l:List wP):(oQ l).length=l.length:=by simp [oQ]
theorem aVm (l:List wP) {i:Nat} (h:i<l.length):(oQ l).getD i []=(l.getD i mW).row:=by simp [oQ,List.getD,h]
theorem aOc (l:List wP):∀ e ∈ oQ l,D.isPureL e=true:=by
 intro e he;simp only [oQ,List.mem_map] at he;obtain⟨r,_,rfl⟩:=he;rfl
def ixF {α:Type} (f:α->Bool):List α->Int->Int
 | [],_=>-1
 | x :: r,i=>if f x=true then i else ixF f r (i+1)
theorem oX {α:Type} {f:α->Bool}:∀ {c:List α} {i:Int},0<=i->(0<=ixF f c i ↔ c.any f=true)
 | [],i,_=>by simp [ixF]
 | x :: r,i,h=>by
  unfold ixF
  by_cases hx:f x=true
  ·rw [if_pos hx,List.any_cons,hx]; simp [h]
  ·rw [if_neg hx,oX (by omega),List.any_cons]; simp [hx]
def aA8 (s:bP) (r:wP):Bool:=!decide ((r.loc.length:Int)= s.ln) || !decide ((r.fac.length:Int)= s.ln) || r.loc.any fun l=>!decide ((l.length:Int)= s.ag)
def aA7 (s:bP) (r:wP):Bool:=r.fac.any fun f=>!decide (f >>> s.fa.toNat=0#64)
def chk (s:bP):Int:=
 if s.ag<0\/4<s.ag\/s.fa<0\/8<s.fa\/s.ln<1\/16<s.ln then 2 else
 if 64<(s.rs.length:Int)\/512<(s.rs.length:Int)* s.ln then 8 else
 if s.rs.length=0 then 3 else if s.rs.any (aA8 s)= true then 3 else if s.rs.any (aA7 s)= true then 2 else 0
end Ru
open Ru
theorem aFe {σ:St} {g:FuncId} {caps:List D} {f:BitVec 64->Bool} {c:List (BitVec 64)} (hl:c.length<=1000) (h:∀ x ∈ c,xX Tryz.prog g ([.int .u64 (ui x)]++caps) σ (.bool (f x)) σ):xX Tryz.prog 115 [.sl 1 (us c),.fn g caps] σ (.int .i64 (ixF f c 0)) σ:=by
 refine xX.go_fn mixed Tryz.func115 bZe (by simp) fun hf=>?_;simp only [ZA,ZB,ZC,ZD,ZE,↓reduceIte,ZF,ZG,ZH,ZI,ZJ,reduceCtorEq,ZK,↓zU,↓zD,zV,zT,zW,xT]
 refine xV (fun k:Nat=>[(8,.int .i64 k),(7,.int .i64 c.length),(1,.fn g caps),(0,.sl 1 (us c))]) (fun _=>σ) (fun k=>k<=c.length/\ixF f c 0=ixF f (c.drop k) k) (fun k=>c.length-k) 0 ⟨Nat.zero_le _,rfl⟩ ?_ ?_
 ·(refine xM.same ?_; simp [xR,Fr.get])
 intro k ⟨hk,hi⟩;refine xQ mixed ?_
 by_cases hh:k<c.length
 ·have hd:((k:Int)<(c.length:Int)):=by omega
  rw [drop_cons (d:=0) hh,ixF] at hi;simp only [ZA,ZB,ZC,ZD,ZE,↓reduceIte,ZF,ZG,ZH,ZI,ZJ,reduceCtorEq,ZK,↓zU,↓zD,zV,zT,zW,hd,xT,zH _ hh]
  (repeat refine sd ?_)
  refine .go (h _ (xN hh)) ?_
  cases hx:f (c.getD k 0)
  ·rw [hx,if_neg (by simp)] at hi;simp only [ZA,ZB,ZC,ZD,ZE,↓reduceIte,ZF,ZG,ZH,ZI,ZJ,reduceCtorEq,ZK,↓zU,↓zD,zV,zT,zW];refine⟨k+1,⟨by omega,hi⟩,?_,by omega⟩
   (refine xM.same ?_; simp only [xR,Fr.get,↓reduceIte,reduceIte,Nat.reduceEqDiff,reduceCtorEq,D.int.injEq,D.bool.injEq,D.sl.injEq,and_true,true_and,and_self])
   exact wrap_i64 (by omega)
  ·rw [hx,if_pos rfl] at hi;simp only [ZA,ZB,ZC,ZD,ZE,↓reduceIte,ZF,ZG,ZH,ZI,ZJ,reduceCtorEq,ZK,↓zU,↓zD,zV,zT,zW];rw [hi];exact .same
 ·have hd:¬ ((k:Int)<(c.length:Int)):=by omega
  rw [List.drop_eq_nil_of_le (by omega),ixF] at hi;simp only [ZA,ZB,ZC,ZD,ZE,↓reduceIte,ZF,ZG,ZH,ZI,ZJ,reduceCtorEq,ZK,↓zU,↓zD,zV,zT,zW,hd];rw [hi];exact .same
theorem lQ {σ:St} {g:FuncId} {caps:List D} {f:BitVec 64->Bool} {c:List (BitVec 64)} (hl:c.length<=1000) (h:∀ x ∈ c,xX Tryz.prog g ([.int .u64 (ui x)]++caps) σ (.bool (f x)) σ):xX Tryz.prog 58 [.sl 1 (us c),.fn g caps] σ (.bool (c.any f)) σ:=by
 refine xX.go_fn mixed Tryz.func58 k58 (by simp) fun hf=>?_;simp only [ZA,ZB,ZC,ZD,ZE,↓reduceIte,ZF,ZG,ZH,ZI,ZJ,reduceCtorEq,ZK,↓zU,↓zD,zV,zT,zW];refine .go (aFe hl h) ?_;have hx:=oX (f:=f) (c:=c) (i:=0) (Int.le_refl 0)
 cases ha:c.any f
 ·have h1:¬ 0<=ixF f c 0:=fun y=>by rw [hx.1 y] at ha; cases ha
  simp only [ZA,ZB,ZC,ZD,ZE,↓reduceIte,ZF,ZG,ZH,ZI,ZJ,reduceCtorEq,ZK,↓zU,↓zD,zV,zT,zW,h1];exact .same
 ·have h1:=hx.2 ha;simp only [ZA,ZB,ZC,ZD,ZE,↓reduceIte,ZF,ZG,ZH,ZI,ZJ,reduceCtorEq,ZK,↓zU,↓zD,zV,zT,zW,h1];exact .same
open Rs Fm Ru
namespace Kb
structure ClA where
 test:List Nd
 mv:Int
structure AsA where
 fact:Int
 to:List Nd
structure PrA where
 F:Int
 init:List (BitVec 64)
 see:List (BitVec 64)
 moves:List (List AsA)
 code:List (List ClA)
def cl0 : ClA:=⟨[],0⟩
def as0 : AsA:=⟨0,[]⟩
def ClA.row (c:ClA):List D:=[.sl 6 (ndR c.test),.int .i64 c.mv]
def AsA.row (a:AsA):List D:=[.int .i64 a.fact,.sl 6 (ndR a.to)]
def clR (l:List ClA):List (List D):=l.map ClA.row
def asR (l:List AsA):List (List D):=l.map AsA.row
def mvR (l:List (List AsA)):List (List D):=l.map fun s=>[.sl 2 (asR s)]
def cdR (l:List (List ClA)):List (List D):=l.map fun s=>[.sl 2 (clR s)]
def PrA.cells (p:PrA):List D:=[.int .i64 p.F,.sl 1 (us p.init),.sl 1 (us p.see),.sl 1 (mvR p.moves),.sl 1 (cdR p.code)]
def PrA.d (p:PrA):D:=.agg p.cells
theorem wQ (l:List ClA):(clR l).length=l.length:=by simp [clR]
theorem zE (l:List AsA):(asR l).length=l.length:=by simp [asR]
theorem xA (l:List (List AsA)):(mvR l).length=l.length:=by simp [mvR]
theorem yN (l:List (List ClA)):(cdR l).length=l.length:=by simp [cdR]
theorem dP (l:List ClA) {i:Nat} (h:i<l.length):(clR l).getD i []=(l.getD i cl0).row:=by simp [clR,List.getD,h]
theorem oY (l:List AsA) {i:Nat} (h:i<l.length):(asR l).getD i []=(l.getD i as0).row:=by simp [asR,List.getD,h]
theorem mF (l:List (List AsA)) {i:Nat} (h:i<l.length):(mvR l).getD i [] = [.sl 2 (asR (l.getD i []))]:=by simp [mvR,List.getD,h]
theorem mC (l:List (List ClA)) {i:Nat} (h:i<l.length):(cdR l).getD i [] = [.sl 2 (clR (l.getD i []))]:=by simp [cdR,List.getD,h]
def wS {α:Type} (f:α->Int):List α->Int
 | []=>0
 | x :: r=>if f x≠0 then f x else wS f r
theorem uU {α:Type} {f:α->Int}:∀ {l:List α},wS f l=0 ↔ ∀ x ∈ l,f x=0
 | []=>by simp [wS]
 | x :: r=>by
  unfold wS
  by_cases h:f x=0
  ·rw [if_neg (by simpa using h),uU]; simp [h]
  ·rw [if_pos h]; simp [h]
def aMf (l:List Int):Bool:=(List.range (l.length-1)).all fun i=>decide (l.getD i 0<l.getD (i+1) 0)
def fmE (p:PrA) (f:List Nd) (frags:Int):Int:=
 if xH f≠0 then xH f else if (rM .andNot .i64 (zS f) frags != 0)= true then 10 else if sT f p.see.length p.F=true then 0 else 2
def asE (p:PrA) (a:AsA):Int:=if a.fact<0\/p.F<=a.fact then 2 else fmE p a.to 0
def clE (p:PrA) (c:ClA):Int:=if fmE p c.test 15≠0 then fmE p c.test 15 else if c.mv < -1\/(p.moves.length:Int)<=c.mv then 2 else 0
def oM (p:PrA) (s:BitVec 64):Bool:=!decide (s >>> p.F.toNat=0#64)
def aMe (l:List (BitVec 64)):Bool:=aMf (l.map ui)
def aY0 (s:List AsA):Bool:=aMf (s.map (·.fact))
def yG (p:PrA):Int:=
 if p.F<0\/8<p.F then 2 else
 if 4<p.see.length\/16<p.init.length\/8<p.moves.length\/p.code.any (fun l=>decide (6<l.length))= true then 8 else
 if p.see.length=0\/p.init.length=0\/p.code.length≠p.see.length\/p.init.any (oM p)= true\/p.see.any (oM p)= true then 3 else
 if aMe p.init=false\/p.moves.any (fun s=>!aY0 s)= true then 9 else 0
def uD (p:PrA):Int:=
 if yG p≠0 then yG p else if wS (wS (asE p)) p.moves≠0 then wS (wS (asE p)) p.moves else wS (wS (clE p)) p.code
structure rR (p : PrA) : Prop where
 init:p.init.length<=2000000
 code:p.code.length<=2000000
 mv:∀ s ∈ p.moves,s.length<=2000000
end Kb
open Kb
theorem nR {l:List Int} (h:∀ i,i+1<l.length->l.getD i 0<l.getD (i+1) 0):aMf l=true:=by
 unfold aMf;rw [List.all_eq_true];intro i hi;have:=List.mem_range.1 hi;exact decide_eq_true (h i (by omega))
theorem nS {l:List Int} {i:Nat} (hi:i+1<l.length) (h:¬ l.getD i 0<l.getD (i+1) 0):aMf l=false:=by
 unfold aMf;rw [List.all_eq_false];exact⟨i,List.mem_range.2 (by omega),by simpa using h⟩
theorem aJ2 {l:List Int}:aMf l=true ↔ ∀ i,i+1<l.length->l.getD i 0<l.getD (i+1) 0:=by
 refine⟨fun h i hi=>Decidable.byContradiction fun hh=>?_,nR⟩;rw [nS hi hh] at h; cases h
theorem aAr (l:List Int) (hl:l.length<=2000000):yX Tryz.prog 59 [.sl 1 (rows .u64 l)] (.bool (aMf l)):=by
 refine xX.go_fn mixed Tryz.func59 k59 (by simp) fun hf=>?_;simp only [ZA,ZB,ZC,ZD,ZE,↓reduceIte,ZF,ZG,ZH,ZI,ZJ,reduceCtorEq,ZK,↓zU,↓zD,zV,zT,zW]
 refine xV (fun k:Nat=>[(3,.int .i64 ((k+1:Nat):Int)),(0,.sl 1 (rows .u64 l))]) (fun _=>⟨0,[]⟩) (fun k=>k<=l.length/\∀ i,i<k->i+1<l.length->l.getD i 0<l.getD (i+1) 0) (fun k=>l.length-k) 0 ⟨Nat.zero_le _,fun i hi=>absurd hi (Nat.not_lt_zero _)⟩ ?_ ?_
 ·(refine xM.same ?_; simp [xR,Fr.get])
 intro k ⟨hk,hi⟩;refine xQ mixed ?_
 by_cases hh:k+1<l.length
 ·have hd:(((k+1:Nat):Int)<(l.length:Int)):=by omega
  have hw:IntKind.i64.wrap (((k+1:Nat):Int)-1)= (k:Int):=by rw [wrap_i64 (by omega)]; omega
  have hd2:((k:Int)<(l.length:Int)):=by omega
  have g1:=yL .u64 l (show k<l.length by omega);have g2:=yL .u64 l hh
  by_cases hlt:l.getD k 0<l.getD (k+1) 0
  ·have hlt2:¬ l.getD (k+1) 0<=l.getD k 0:=by omega
   simp only [ZA,ZB,ZC,ZD,ZE,↓reduceIte,ZF,ZG,ZH,ZI,ZJ,reduceCtorEq,ZK,↓zU,↓zD,zV,zT,zW,hd,xF,hw,hd2,g1,g2,hlt2]
   (repeat refine sd ?_)
   refine⟨k+1,⟨by omega,fun i h1 h2=>?_⟩,?_,by omega⟩
   ·by_cases e:i=k
    ·rw [e]; exact hlt
    ·exact hi i (by omega) h2
   (refine xM.same ?_; simp only [xR,Fr.get,↓reduceIte,reduceIte,Nat.reduceEqDiff,reduceCtorEq,D.int.injEq,D.bool.injEq,D.sl.injEq,and_true,true_and,and_self])
   exact wrap_i64 (by omega)
  ·have hlt2:l.getD (k+1) 0<=l.getD k 0:=by omega
   simp only [ZA,ZB,ZC,ZD,ZE,↓reduceIte,ZF,ZG,ZH,ZI,ZJ,reduceCtorEq,ZK,↓zU,↓zD,zV,zT,zW,hd,xF,hw,hd2,g1,g2,hlt2]
   (repeat refine sd ?_)
   rw [nS hh hlt];exact .same
 ·have hd:¬ (((k+1:Nat):Int)<(l.length:Int)):=by omega
  rw [nR fun i h=>hi i (by omega) h];simp only [ZA,ZB,ZC,ZD,ZE,↓reduceIte,ZF,ZG,ZH,ZI,ZJ,reduceCtorEq,ZK,↓zU,↓zD,zV,zT,zW,hd,xF];exact .same
theorem aAp (l:List Int) (hl:l.length<=2000000):yX Tryz.prog 62 [.sl 1 (rows .i64 l)] (.bool (aMf l)):=by
 refine xX.go_fn mixed Tryz.func62 k62 (by simp) fun hf=>?_;simp only [ZA,ZB,ZC,ZD,ZE,↓reduceIte,ZF,ZG,ZH,ZI,ZJ,reduceCtorEq,ZK,↓zU,↓zD,zV,zT,zW]
 refine xV (fun k:Nat=>[(3,.int .i64 ((k+1:Nat):Int)),(0,.sl 1 (rows .i64 l))]) (fun _=>⟨0,[]⟩) (fun k=>k<=l.length/\∀ i,i<k->i+1<l.length->l.getD i 0<l.getD (i+1) 0) (fun k=>l.length-k) 0 ⟨Nat.zero_le _,fun i hi=>absurd hi (Nat.not_lt_zero _)⟩ ?_ ?_
 ·(refine xM.same ?_; simp [xR,Fr.get])
 intro k ⟨hk,hi⟩;refine xQ mixed ?_
 by_cases hh:k+1<l.length
 ·have hd:(((k+1:Nat):Int)<(l.length:Int)):=by omega
  have hw:IntKind.i64.wrap (((k+1:Nat):Int)-1)= (k:Int):=by rw [wrap_i64 (by omega)]; omega
  have hd2:((k:Int)<(l.length:Int)):=by omega
  have g1:=yL .i64 l (show k<l.length by omega);have g2:=yL .i64 l hh
  by_cases hlt:l.getD k 0<l.getD (k+1) 0
  ·have hlt2:¬ l.getD (k+1) 0<=l.getD k 0:=by omega
   simp only [ZA,ZB,ZC,ZD,ZE,↓reduceIte,ZF,ZG,ZH,ZI,ZJ,reduceCtorEq,ZK,↓zU,↓zD,zV,zT,zW,hd,xF,hw,hd2,g1,g2,hlt2]
   (repeat refine sd ?_)
   refine⟨k+1,⟨by omega,fun i h1 h2=>?_⟩,?_,by omega⟩
   ·by_cases e:i=k
    ·rw [e]; exact hlt
    ·exact hi i (by omega) h2
   (refine xM.same ?_; simp only [xR,Fr.get,↓reduceIte,reduceIte,Nat.reduceEqDiff,reduceCtorEq,D.int.injEq,D.bool.injEq,D.sl.injEq,and_true,true_and,and_self])
   exact wrap_i64 (by omega)
  ·have hlt2:l.getD (k+1) 0<=l.getD k 0:=by omega
   simp only [ZA,ZB,ZC,ZD,ZE,↓reduceIte,ZF,ZG,ZH,ZI,ZJ,reduceCtorEq,ZK,↓zU,↓zD,zV,zT,zW,hd,xF,hw,hd2,g1,g2,hlt2]
   (repeat refine sd ?_)
   rw [nS hh hlt];exact .same
 ·have hd:¬ (((k+1:Nat):Int)<(l.length:Int)):=by omega
  rw [nR fun i h=>hi i (by omega) h];simp only [ZA,ZB,ZC,ZD,ZE,↓reduceIte,ZF,ZG,ZH,ZI,ZJ,reduceCtorEq,ZK,↓zU,↓zD,zV,zT,zW,hd,xF];exact .same
theorem aJc {σ:St} {g:FuncId} {caps:List D} {f:List ClA->Bool} {c:List (List ClA)} (hl:c.length<=2000000) (h:∀ x ∈ c,xX Tryz.prog g ([.sl 2 (clR x)]++caps) σ (.bool (f x)) σ):xX Tryz.prog 114 [.sl 1 (cdR c),.fn g caps] σ (.int .i64 (ixF f c 0)) σ:=by
 refine xX.go_fn mixed Tryz.func114 bZf (by simp) fun hf=>?_;simp only [ZA,ZB,ZC,ZD,ZE,↓reduceIte,ZF,ZG,ZH,ZI,ZJ,reduceCtorEq,ZK,↓zU,↓zD,zV,zT,zW,yN]
 refine xV (fun k:Nat=>[(8,.int .i64 k),(7,.int .i64 c.length),(1,.fn g caps),(0,.sl 1 (cdR c))]) (fun _=>σ) (fun k=>k<=c.length/\ixF f c 0=ixF f (c.drop k) k) (fun k=>c.length-k) 0 ⟨Nat.zero_le _,rfl⟩ ?_ ?_
 ·(refine xM.same ?_; simp [xR,Fr.get])
 intro k ⟨hk,hi⟩;refine xQ mixed ?_
 by_cases hh:k<c.length
 ·have hd:((k:Int)<(c.length:Int)):=by omega
  rw [drop_cons (d:=[]) hh,ixF] at hi;simp only [ZA,ZB,ZC,ZD,ZE,↓reduceIte,ZF,ZG,ZH,ZI,ZJ,reduceCtorEq,ZK,↓zU,↓zD,zV,zT,zW,hd,yN,mC _ hh]
  (repeat refine sd ?_)
  refine .go (h _ (xN hh)) ?_
  cases hx:f (c.getD k [])
  ·rw [hx,if_neg (by simp)] at hi;simp only [ZA,ZB,ZC,ZD,ZE,↓reduceIte,ZF,ZG,ZH,ZI,ZJ,reduceCtorEq,ZK,↓zU,↓zD,zV,zT,zW];refine⟨k+1,⟨by omega,hi⟩,?_,by omega⟩
   (refine xM.same ?_; simp only [xR,Fr.get,↓reduceIte,reduceIte,Nat.reduceEqDiff,reduceCtorEq,D.int.injEq,D.bool.injEq,D.sl.injEq,and_true,true_and,and_self])
   exact wrap_i64 (by omega)
  ·rw [hx,if_pos rfl] at hi;simp only [ZA,ZB,ZC,ZD,ZE,↓reduceIte,ZF,ZG,ZH,ZI,ZJ,reduceCtorEq,ZK,↓zU,↓zD,zV,zT,zW];rw [hi];exact .same
 ·have hd:¬ ((k:Int)<(c.length:Int)):=by omega
  rw [List.drop_eq_nil_of_le (by omega),ixF] at hi;simp only [ZA,ZB,ZC,ZD,ZE,↓reduceIte,ZF,ZG,ZH,ZI,ZJ,reduceCtorEq,ZK,↓zU,↓zD,zV,zT,zW,hd];rw [hi];exact .same
theorem aS9 {σ:St} {g:FuncId} {caps:List D} {f:List ClA->Bool} {c:List (List ClA)} (hl:c.length<=2000000) (h:∀ x ∈ c,xX Tryz.prog g ([.sl 2 (clR x)]++caps) σ (.bool (f x)) σ):xX Tryz.prog 56 [.sl 1 (cdR c),.fn g caps] σ (.bool (c.any f)) σ:=by
 refine xX.go_fn mixed Tryz.func56 k56 (by simp) fun hf=>?_;simp only [ZA,ZB,ZC,ZD,ZE,↓reduceIte,ZF,ZG,ZH,ZI,ZJ,reduceCtorEq,ZK,↓zU,↓zD,zV,zT,zW];refine .go (aJc hl h) ?_;have hx:=oX (f:=f) (c:=c) (i:=0) (Int.le_refl 0)
 cases ha:c.any f
 ·have h1:¬ 0<=ixF f c 0:=fun y=>by rw [hx.1 y] at ha; cases ha
  simp only [ZA,ZB,ZC,ZD,ZE,↓reduceIte,ZF,ZG,ZH,ZI,ZJ,reduceCtorEq,ZK,↓zU,↓zD,zV,zT,zW,h1];exact .same
 ·have h1:=hx.2 ha;simp only [ZA,ZB,ZC,ZD,ZE,↓reduceIte,ZF,ZG,ZH,ZI,ZJ,reduceCtorEq,ZK,↓zU,↓zD,zV,zT,zW,h1];exact .same
theorem aJb {σ:St} {g:FuncId} {caps:List D} {f:List AsA->Bool} {c:List (List AsA)} (hl:c.length<=2000000) (h:∀ x ∈ c,xX Tryz.prog g ([.agg [.sl 2 (asR x)]]++caps) σ (.bool (f x)) σ):xX Tryz.prog 116 [.sl 1 (mvR c),.fn g caps] σ (.int .i64 (ixF f c 0)) σ:=by
 refine xX.go_fn mixed Tryz.func116 bZd (by simp) fun hf=>?_;simp only [ZA,ZB,ZC,ZD,ZE,↓reduceIte,ZF,ZG,ZH,ZI,ZJ,reduceCtorEq,ZK,↓zU,↓zD,zV,zT,zW,xA]
 refine xV (fun k:Nat=>[(8,.int .i64 k),(7,.int .i64 c.length),(1,.fn g caps),(0,.sl 1 (mvR c))]) (fun _=>σ) (fun k=>k<=c.length/\ixF f c 0=ixF f (c.drop k) k) (fun k=>c.length-k) 0 ⟨Nat.zero_le _,rfl⟩ ?_ ?_
 ·(refine xM.same ?_; simp [xR,Fr.get])
 intro k ⟨hk,hi⟩;refine xQ mixed ?_
 by_cases hh:k<c.length
 ·have hd:((k:Int)<(c.length:Int)):=by omega
  rw [drop_cons (d:=[]) hh,ixF] at hi;simp only [ZA,ZB,ZC,ZD,ZE,↓reduceIte,ZF,ZG,ZH,ZI,ZJ,reduceCtorEq,ZK,↓zU,↓zD,zV,zT,zW,hd,xA,mF _ hh]
  (repeat refine sd ?_)
  refine .go (h _ (xN hh)) ?_
  cases hx:f (c.getD k [])
  ·rw [hx,if_neg (by simp)] at hi;simp only [ZA,ZB,ZC,ZD,ZE,↓reduceIte,ZF,ZG,ZH,ZI,ZJ,reduceCtorEq,ZK,↓zU,↓zD,zV,zT,zW];refine⟨k+1,⟨by omega,hi⟩,?_,by omega⟩
   (refine xM.same ?_; simp only [xR,Fr.get,↓reduceIte,reduceIte,Nat.reduceEqDiff,reduceCtorEq,D.int.injEq,D.bool.injEq,D.sl.injEq,and_true,true_and,and_self])
   exact wrap_i64 (by omega)
  ·rw [hx,if_pos rfl] at hi;simp only [ZA,ZB,ZC,ZD,ZE,↓reduceIte,ZF,ZG,ZH,ZI,ZJ,reduceCtorEq,ZK,↓zU,↓zD,zV,zT,zW];rw [hi];exact .same
 ·have hd:¬ ((k:Int)<(c.length:Int)):=by omega
  rw [List.drop_eq_nil_of_le (by omega),ixF] at hi;simp only [ZA,ZB,ZC,ZD,ZE,↓reduceIte,ZF,ZG,ZH,ZI,ZJ,reduceCtorEq,ZK,↓zU,↓zD,zV,zT,zW,hd];rw [hi];exact .same
theorem aS8 {σ:St} {g:FuncId} {caps:List D} {f:List AsA->Bool} {c:List (List AsA)} (hl:c.length<=2000000) (h:∀ x ∈ c,xX Tryz.prog g ([.agg [.sl 2 (asR x)]]++caps) σ (.bool (f x)) σ):xX Tryz.prog 60 [.sl 1 (mvR c),.fn g caps] σ (.bool (c.any f)) σ:=by
 refine xX.go_fn mixed Tryz.func60 k60 (by simp) fun hf=>?_;simp only [ZA,ZB,ZC,ZD,ZE,↓reduceIte,ZF,ZG,ZH,ZI,ZJ,reduceCtorEq,ZK,↓zU,↓zD,zV,zT,zW];refine .go (aJb hl h) ?_;have hx:=oX (f:=f) (c:=c) (i:=0) (Int.le_refl 0)
 cases ha:c.any f
 ·have h1:¬ 0<=ixF f c 0:=fun y=>by rw [hx.1 y] at ha; cases ha
  simp only [ZA,ZB,ZC,ZD,ZE,↓reduceIte,ZF,ZG,ZH,ZI,ZJ,reduceCtorEq,ZK,↓zU,↓zD,zV,zT,zW,h1];exact .same
 ·have h1:=hx.2 ha;simp only [ZA,ZB,ZC,ZD,ZE,↓reduceIte,ZF,ZG,ZH,ZI,ZJ,reduceCtorEq,ZK,↓zU,↓zD,zV,zT,zW,h1];exact .same
open Rs Fm Ru Kb
theorem aAd {nx:Nat} {objs:List (Nat × Ob)} {p:PrA} (h0:St.look objs 0=some ⟨5,[p.cells]⟩) (hf:0<=p.F) (x:BitVec 64):xX Tryz.prog 55 ([.int .u64 (ui x)] ++ [.ref 0 5 0 0]) ⟨nx,objs⟩ (.bool (oM p x)) ⟨nx,objs⟩:=by
 unfold PrA.cells at h0;refine xX.go_fn mixed Tryz.func55 k55 (by simp) fun hf=>?_;simp only [ZA,ZB,ZC,ZD,ZE,↓reduceIte,ZF,ZG,ZH,ZI,ZJ,reduceCtorEq,ZK,↓zU,↓zD,zV,zT,zW,h0]
 (repeat refine sd ?_)
 unfold oM
 by_cases hx:x >>> p.F.toNat=0#64
 ·have ex:(x >>> p.F.toNat != 0#64)= false:=by simpa using hx
  rw [decide_eq_true hx];simp only [ZA,ZB,ZC,ZD,ZE,↓reduceIte,ZF,ZG,ZH,ZI,ZJ,reduceCtorEq,ZK,↓zU,↓zD,zV,zT,zW,ex];exact .same
 ·have ex:(x >>> p.F.toNat != 0#64)= true:=by simpa using hx
  rw [decide_eq_false hx];simp only [ZA,ZB,ZC,ZD,ZE,↓reduceIte,ZF,ZG,ZH,ZI,ZJ,reduceCtorEq,ZK,↓zU,↓zD,zV,zT,zW,ex];exact .same
theorem aCl (l:List ClA):yX Tryz.prog 57 [.sl 2 (clR l)] (.bool (decide (6<l.length))):=by
 refine xX.go_fn mixed Tryz.func57 k57 (by simp) fun hf=>?_
 by_cases h:6<l.length
 ·have h':(6:Int)<(l.length:Int):=by omega
  rw [decide_eq_true h];simp only [ZA,ZB,ZC,ZD,ZE,↓reduceIte,ZF,ZG,ZH,ZI,ZJ,reduceCtorEq,ZK,↓zU,↓zD,zV,zT,zW,wQ,h'];exact .same
 ·have h':¬ (6:Int)<(l.length:Int):=by omega
  rw [decide_eq_false h];simp only [ZA,ZB,ZC,ZD,ZE,↓reduceIte,ZF,ZG,ZH,ZI,ZJ,reduceCtorEq,ZK,↓zU,↓zD,zV,zT,zW,wQ,h'];exact .same
theorem aRl (s:List AsA) (hl:s.length<=2000000):yX Tryz.prog 63 [.agg [.sl 2 (asR s)]] (.sl 1 (rows .i64 (s.map (·.fact)))):=by
 refine xX.go_fn mixed Tryz.func63 k63 (by simp) fun hf=>?_;simp only [ZA,ZB,ZC,ZD,ZE,↓reduceIte,ZF,ZG,ZH,ZI,ZJ,reduceCtorEq,ZK,↓zU,↓zD,zV,zT,zW,zE]
 refine xV (fun k:Nat=>[(9,.int .i64 k),(8,.int .i64 s.length),(7,.sl 2 (asR s)),(3,xG 1 1 (rows .i64 ((s.take k).map (·.fact))))]) (fun k=>⟨2,xE 1 1 (rows .i64 ((s.take k).map (·.fact)))⟩) (fun k=>k<=s.length) (fun k=>s.length-k) 0 (Nat.zero_le _) ?_ ?_
 ·(refine xM.ren [] [] (by simp) (by simp) (by decide) ?_; simp only [yO,vwL,vw,vwF,sw,St.get,St.look,Fr.get,↓reduceIte,reduceIte,Nat.reduceEqDiff,Nat.reduceAdd,Nat.reduceBEq,Nat.reduceLT,Nat.reduceLeDiff,exists_eq_left',ne_eq,reduceCtorEq,zR,List.take_zero,List.map_nil,qI,zL,zM])
 intro k hk;refine xQ mixed ?_
 by_cases hh:k<s.length
 ·have hd:((k:Int)<(s.length:Int)):=by omega
  have hg:=oY s hh;have ht:(s.take (k+1)).map (·.fact)= (s.take k).map (·.fact)++ [(s.getD k as0).fact]:=by rw [yD (d:=as0) hh]; simp
  have hkl:((s.take k).map (·.fact)).length=k:=by simp; omega
  unfold AsA.row at hg;generalize (s.take k).map (·.fact)= a at hkl ht ⊢;generalize s.getD k as0=x at hg ht ⊢;simp only [ZA,ZB,ZC,ZD,ZE,↓reduceIte,ZF,ZG,ZH,ZI,ZJ,reduceCtorEq,ZK,↓zU,↓zD,zV,zT,zW,hd,zE,hg]
  (repeat refine sd ?_)
  refine⟨k+1,by omega,?_,by omega⟩;rw [ht]
  (refine xM.ren [(1,3)] [1] (by simp) (by simp) (by decide) ?_; simp only [yO,vwL,vw,vwF,sw,St.get,St.look,Fr.get,↓reduceIte,reduceIte,Nat.reduceEqDiff,Nat.reduceAdd,Nat.reduceBEq,Nat.reduceLT,Nat.reduceLeDiff,exists_eq_left',ne_eq,reduceCtorEq,zR])
  exact wrap_i64 (by omega)
 ·have hd:¬ ((k:Int)<(s.length:Int)):=by omega
  rw [kM (show k=s.length by omega)];simp only [ZA,ZB,ZC,ZD,ZE,↓reduceIte,ZF,ZG,ZH,ZI,ZJ,reduceCtorEq,ZK,↓zU,↓zD,zV,zT,zW,hd];exact .drop (by simp) (aNg (by decide) (uW _ _))
theorem aAq (s:List AsA) (hl:s.length<=2000000):yX Tryz.prog 61 [.agg [.sl 2 (asR s)]] (.bool (!aY0 s)):=by
 have h1:=aRl s hl;have h2:=aAp (s.map (·.fact)) (by simpa using hl);unfold aY0;refine xX.go_fn mixed Tryz.func61 k61 (by simp) fun hf=>?_;simp only [ZA,ZB,ZC,ZD,ZE,↓reduceIte,ZF,ZG,ZH,ZI,ZJ,reduceCtorEq,ZK,↓zU,↓zD,zV,zT,zW]
 (repeat refine sd ?_)
 refine .go (cr h1) ?_;simp only [ZA,ZB,ZC,ZD,ZE,↓reduceIte,ZF,ZG,ZH,ZI,ZJ,reduceCtorEq,ZK,↓zU,↓zD,zV,zT,zW];refine .go (cr h2) ?_;simp only [ZA,ZB,ZC,ZD,ZE,↓reduceIte,ZF,ZG,ZH,ZI,ZJ,reduceCtorEq,ZK,↓zU,↓zD,zV,zT,zW];exact .drop (by simp) (by simp [vw])
theorem aXq (p:PrA) (f:List Nd) (fr:Int):yX Tryz.prog 65 [p.d,.sl 6 (ndR f),.int .i64 fr] (.int .i64 (fmE p f fr)):=by
 have h1:=nT f;have h2:=aPo f;have h3:=aI3 f p.see.length p.F;unfold PrA.d PrA.cells fmE;refine xX.go_fn mixed Tryz.func65 k65 (by simp) fun hf=>?_;simp only [ZA,ZB,ZC,ZD,ZE,↓reduceIte,ZF,ZG,ZH,ZI,ZJ,reduceCtorEq,ZK,↓zU,↓zD,zV,zT,zW]
 (repeat refine sd ?_)
 refine .go (cr h1) ?_;by_cases e1:xH f=0
 case neg=>
  have e1':(xH f != 0)= true:=by simpa using e1
  simp only [ZA,ZB,ZC,ZD,ZE,↓reduceIte,ZF,ZG,ZH,ZI,ZJ,reduceCtorEq,ZK,↓zU,↓zD,zV,zT,zW,e1',e1];exact .drop (by simp) (by simp [vw])
 have e1':(xH f != 0)= false:=by simpa using e1
 simp only [ZA,ZB,ZC,ZD,ZE,↓reduceIte,ZF,ZG,ZH,ZI,ZJ,reduceCtorEq,ZK,↓zU,↓zD,zV,zT,zW,e1',e1];refine .go (cr h2) ?_;cases e2:rM .andNot .i64 (zS f) fr != 0
 case true=>
  simp only [ZA,ZB,ZC,ZD,ZE,↓reduceIte,ZF,ZG,ZH,ZI,ZJ,reduceCtorEq,ZK,↓zU,↓zD,zV,zT,zW,e2];exact .drop (by simp) (by simp [vw])
 simp only [ZA,ZB,ZC,ZD,ZE,↓reduceIte,ZF,ZG,ZH,ZI,ZJ,reduceCtorEq,ZK,↓zU,↓zD,zV,zT,zW,e2]
 (repeat refine sd ?_)
 refine .go (cr h3) ?_
 cases e3:sT f p.see.length p.F
 ·simp only [ZA,ZB,ZC,ZD,ZE,↓reduceIte,ZF,ZG,ZH,ZI,ZJ,reduceCtorEq,ZK,↓zU,↓zD,zV,zT,zW];exact .drop (by simp) (by simp [vw])
 ·simp only [ZA,ZB,ZC,ZD,ZE,↓reduceIte,ZF,ZG,ZH,ZI,ZJ,reduceCtorEq,ZK,↓zU,↓zD,zV,zT,zW];exact .drop (by simp) (by simp [vw])
theorem uT {α:Type} (f:α->Int) {l:List α} {k:Nat} {d:α} (h:k<l.length):wS f (l.drop k)= if f (l.getD k d)≠ 0 then f (l.getD k d) else wS f (l.drop (k+1)):=by
 rw [drop_cons (d:=d) h]; rfl
theorem aG4 (p:PrA) (hm:p.moves.length<=2000000) (hl:∀ s ∈ p.moves,s.length<=2000000):yX Tryz.prog 64 [p.d] (.int .i64 (wS (wS (asE p)) p.moves)):=by
 have hF:=fun f=>aXq p f 0;have hD:p.d = .agg [.int .i64 p.F,.sl 1 (us p.init),.sl 1 (us p.see),.sl 1 (mvR p.moves),.sl 1 (cdR p.code)]:=rfl;rw [hD] at *;refine xX.go_fn mixed Tryz.func64 k64 (by simp) fun hf=>?_;simp only [ZA,ZB,ZC,ZD,ZE,↓reduceIte,ZF,ZG,ZH,ZI,ZJ,reduceCtorEq,ZK,↓zU,↓zD,zV,zT,zW,xA]
 (repeat refine sd ?_)
 refine xV (fun k:Nat=>[(11,.int .i64 k),(10,.int .i64 p.moves.length),(9,.sl 1 (mvR p.moves)),(1,.ref 0 5 0 0)]) (fun _=>⟨1,[(0,⟨5,[p.cells]⟩)]⟩)
  (fun k=>k<=p.moves.length/\wS (wS (asE p)) p.moves=wS (wS (asE p)) (p.moves.drop k)) (fun k=>p.moves.length-k) 0 ⟨Nat.zero_le _,rfl⟩ ?_ ?_
 ·unfold PrA.cells; (refine xM.same ?_; simp [xR,Fr.get])
 intro k ⟨hk,hi⟩;refine xQ mixed ?_;by_cases hkl:k<p.moves.length
 case neg=>
  have hd:¬ ((k:Int)<(p.moves.length:Int)):=by omega
  rw [hi,List.drop_eq_nil_of_le (by omega)];simp only [ZA,ZB,ZC,ZD,ZE,↓reduceIte,ZF,ZG,ZH,ZI,ZJ,reduceCtorEq,ZK,↓zU,↓zD,zV,zT,zW,hd];exact .drop (by simp) (by simp [vw,wS])
 have hd:((k:Int)<(p.moves.length:Int)):=by omega
 rw [uT (d:=[]) _ hkl] at hi;have hg:=mF p.moves hkl;have hs:=hl _ (xN (d:=[]) hkl);generalize p.moves.getD k []=s at hi hg hs;unfold PrA.cells;simp only [ZA,ZB,ZC,ZD,ZE,↓reduceIte,ZF,ZG,ZH,ZI,ZJ,reduceCtorEq,ZK,↓zU,↓zD,zV,zT,zW,hd,xA,hg,zE]
 (repeat refine sd ?_)
 refine xV (fun j:Nat=>[(18,.int .i64 j),(17,.int .i64 s.length),(16,.sl 2 (asR s)),(11,.int .i64 k),(10,.int .i64 p.moves.length),(9,.sl 1 (mvR p.moves)),(1,.ref 0 5 0 0)]) (fun _=>⟨1,[(0,⟨5,[p.cells]⟩)]⟩)
  (fun j=>j<=s.length/\wS (asE p) s=wS (asE p) (s.drop j)) (fun j=>s.length-j) 0 ⟨Nat.zero_le _,rfl⟩ ?_ ?_
 ·unfold PrA.cells; (refine xM.ren [] [0] (by simp) (by simp) (by decide) ?_; simp only [yO,vwL,vw,vwF,sw,St.get,St.look,Fr.get,↓reduceIte,reduceIte,Nat.reduceEqDiff,Nat.reduceAdd,Nat.reduceBEq,Nat.reduceLT,Nat.reduceLeDiff,exists_eq_left',ne_eq,reduceCtorEq,zR])
 intro j ⟨hj,hi2⟩;refine xQ mixed ?_;by_cases hjl:j<s.length
 case neg=>
  have hd2:¬ ((j:Int)<(s.length:Int)):=by omega
  have h0:wS (asE p) s=0:=by rw [hi2,List.drop_eq_nil_of_le (by omega)]; rfl
  rw [h0,if_neg (by simp)] at hi;unfold PrA.cells;simp only [ZA,ZB,ZC,ZD,ZE,↓reduceIte,ZF,ZG,ZH,ZI,ZJ,reduceCtorEq,ZK,↓zU,↓zD,zV,zT,zW,hd2];refine⟨k+1,⟨by omega,hi⟩,?_,by omega⟩
  (refine xM.same ?_; simp only [xR,Fr.get,↓reduceIte,reduceIte,Nat.reduceEqDiff,reduceCtorEq,D.int.injEq,D.bool.injEq,D.sl.injEq,and_true,true_and,and_self])
  exact wrap_i64 (by omega)
 have hd2:((j:Int)<(s.length:Int)):=by omega
 rw [uT (d:=as0) _ hjl] at hi2;have hg2:=oY s hjl;unfold AsA.row at hg2;generalize s.getD j as0=a at hi2 hg2;have hend:asE p a≠0->wS (wS (asE p)) p.moves=asE p a:=fun h=>by rw [hi,hi2,if_pos h,if_pos h]
 unfold PrA.cells;have hFa:=hF a.to
 by_cases c1:a.fact<0
 ·have e:asE p a=2:=by unfold asE; rw [if_pos (.inl c1)]
  rw [hend (by rw [e]; decide),e];simp only [ZA,ZB,ZC,ZD,ZE,↓reduceIte,ZF,ZG,ZH,ZI,ZJ,reduceCtorEq,ZK,↓zU,↓zD,zV,zT,zW,hd2,zE,hg2,c1]
  (repeat refine sd ?_)
  exact .drop (by simp) (by simp [vw])
 by_cases c2:p.F<=a.fact
 ·have e:asE p a=2:=by unfold asE; rw [if_pos (.inr c2)]
  rw [hend (by rw [e]; decide),e];simp only [ZA,ZB,ZC,ZD,ZE,↓reduceIte,ZF,ZG,ZH,ZI,ZJ,reduceCtorEq,ZK,↓zU,↓zD,zV,zT,zW,hd2,zE,hg2,c1,c2]
  (repeat refine sd ?_)
  exact .drop (by simp) (by simp [vw])
 have e:asE p a=fmE p a.to 0:=by unfold asE; rw [if_neg (by omega)]
 rw [<- e] at hFa;simp only [ZA,ZB,ZC,ZD,ZE,↓reduceIte,ZF,ZG,ZH,ZI,ZJ,reduceCtorEq,ZK,↓zU,↓zD,zV,zT,zW,hd2,zE,hg2,c1,c2]
 (repeat refine sd ?_)
 refine .go (cr hFa) ?_
 by_cases c3:asE p a=0
 ·have c3':(asE p a != 0)= false:=by simpa using c3
  rw [c3,if_neg (by simp)] at hi2;simp only [ZA,ZB,ZC,ZD,ZE,↓reduceIte,ZF,ZG,ZH,ZI,ZJ,reduceCtorEq,ZK,↓zU,↓zD,zV,zT,zW,c3'];refine⟨j+1,⟨by omega,hi2⟩,?_,by omega⟩
  (refine xM.ren [] [0] (by simp) (by simp) (by decide) ?_; simp only [yO,vwL,vw,vwF,sw,St.get,St.look,Fr.get,↓reduceIte,reduceIte,Nat.reduceEqDiff,Nat.reduceAdd,Nat.reduceBEq,Nat.reduceLT,Nat.reduceLeDiff,exists_eq_left',ne_eq,reduceCtorEq,zR])
  exact wrap_i64 (by omega)
 ·have c3':(asE p a != 0)= true:=by simpa using c3
  rw [hend c3];simp only [ZA,ZB,ZC,ZD,ZE,↓reduceIte,ZF,ZG,ZH,ZI,ZJ,reduceCtorEq,ZK,↓zU,↓zD,zV,zT,zW,c3'];exact .drop (by simp) (by simp [vw])
open Rs Fm Ru Kb
theorem aPq (p:PrA) (sm:rR p):yX Tryz.prog 17 [p.d] (.int .i64 (uD p)):=by
 have hM:=aG4 p;have hF:=fun f=>aXq p f 15
 have hlong:=aS9 (σ:=⟨1,[(0,⟨5,[p.cells]⟩)]⟩) (g:=57) (caps:=[]) (c:=p.code) (f:=fun l=>decide (6<l.length)) sm.code fun x _=>by
  rw [List.append_nil]; exact xX.of_runs (aCl x) (by simp [D.isPureL,D.isPure])
 have hasc:=aS8 (σ:=⟨1,[(0,⟨5,[p.cells]⟩)]⟩) (g:=61) (caps:=[]) (c:=p.moves) (f:=fun s=>!aY0 s);have hout:=fun(h0:0<=p.F) (l:List (BitVec 64)) (hl:l.length<=1000)=>lQ (σ:=⟨1,[(0,⟨5,[p.cells]⟩)]⟩) (g:=55) (caps:=[.ref 0 5 0 0]) (c:=l) (f:=oM p) hl fun x _=>aAd rfl h0 x;have hai:=aAr (p.init.map ui) (by simpa using sm.init);rw [show rows .u64 (p.init.map ui)= us p.init by simp [rows,us]] at hai;have hD:p.d = .agg [.int .i64 p.F,.sl 1 (us p.init),.sl 1 (us p.see),.sl 1 (mvR p.moves),.sl 1 (cdR p.code)]:=rfl;unfold PrA.cells at hlong hasc hout;rw [hD] at *;refine xX.go_fn mixed Tryz.func17 k17 (by simp) fun hf=>?_
 by_cases a1:p.F<0
 ·rw [show uD p=2 by unfold uD yG; simp [a1]];simp only [ZA,ZB,ZC,ZD,ZE,↓reduceIte,ZF,ZG,ZH,ZI,ZJ,reduceCtorEq,ZK,↓zU,↓zD,zV,zT,zW,a1];exact .drop (by simp) (by simp [vw])
 by_cases a2:8<p.F
 ·rw [show uD p=2 by unfold uD yG; simp [a2]];simp only [ZA,ZB,ZC,ZD,ZE,↓reduceIte,ZF,ZG,ZH,ZI,ZJ,reduceCtorEq,ZK,↓zU,↓zD,zV,zT,zW,a1,a2];exact .drop (by simp) (by simp [vw])
 have hfe:yG p=if 4<p.see.length\/16<p.init.length\/8<p.moves.length\/p.code.any (fun l=>decide (6<l.length))= true then 8 else
   if p.see.length=0\/p.init.length=0\/p.code.length≠p.see.length\/p.init.any (oM p)= true\/p.see.any (oM p)= true then 3 else
   if aMe p.init=false\/p.moves.any (fun s=>!aY0 s)= true then 9 else 0:=by
  unfold yG; rw [if_neg (by omega)]
 by_cases a3:4<p.see.length
 ·rw [show uD p=8 by unfold uD; simp [hfe,a3]];have a3':(4:Int)<(p.see.length:Int):=by omega
  simp only [ZA,ZB,ZC,ZD,ZE,↓reduceIte,ZF,ZG,ZH,ZI,ZJ,reduceCtorEq,ZK,↓zU,↓zD,zV,zT,zW,a1,a2,a3',xT];exact .drop (by simp) (by simp [vw])
 have a3':¬ (4:Int)<(p.see.length:Int):=by omega
 by_cases a4:16<p.init.length
 ·rw [show uD p=8 by unfold uD; simp [hfe,a4]];have a4':(16:Int)<(p.init.length:Int):=by omega
  simp only [ZA,ZB,ZC,ZD,ZE,↓reduceIte,ZF,ZG,ZH,ZI,ZJ,reduceCtorEq,ZK,↓zU,↓zD,zV,zT,zW,a1,a2,a3',a4',xT];exact .drop (by simp) (by simp [vw])
 have a4':¬ (16:Int)<(p.init.length:Int):=by omega
 by_cases a5:8<p.moves.length
 ·rw [show uD p=8 by unfold uD; simp [hfe,a5]];have a5':(8:Int)<(p.moves.length:Int):=by omega
  simp only [ZA,ZB,ZC,ZD,ZE,↓reduceIte,ZF,ZG,ZH,ZI,ZJ,reduceCtorEq,ZK,↓zU,↓zD,zV,zT,zW,a1,a2,a3',a4',a5',xT,xA];exact .drop (by simp) (by simp [vw])
 have a5':¬ (8:Int)<(p.moves.length:Int):=by omega
 simp only [ZA,ZB,ZC,ZD,ZE,↓reduceIte,ZF,ZG,ZH,ZI,ZJ,reduceCtorEq,ZK,↓zU,↓zD,zV,zT,zW,a1,a2,a3',a4',a5',xT,xA];refine .go hlong ?_;cases a6:p.code.any fun l=>decide (6<l.length)
 case true=>
  rw [show uD p=8 by unfold uD; simp [hfe,a6]];simp only [ZA,ZB,ZC,ZD,ZE,↓reduceIte,ZF,ZG,ZH,ZI,ZJ,reduceCtorEq,ZK,↓zU,↓zD,zV,zT,zW];exact .drop (by simp) (by simp [vw])
 by_cases b1:p.see.length=0
 ·rw [show uD p=3 by unfold uD; simp [hfe,a4,a5,a6,b1]];have b1':((p.see.length:Int)== 0)= true:=by rw [b1]; rfl
  simp only [ZA,ZB,ZC,ZD,ZE,↓reduceIte,ZF,ZG,ZH,ZI,ZJ,reduceCtorEq,ZK,↓zU,↓zD,zV,zT,zW,xT,b1'];exact .drop (by simp) (by simp [vw])
 have b1':((p.see.length:Int)== 0)= false:=by rw [beq_eq_false_iff_ne]; omega
 by_cases b2:p.init.length=0
 ·rw [show uD p=3 by unfold uD; simp [hfe,a3,a5,a6,b2]];have b2':((p.init.length:Int)== 0)= true:=by rw [b2]; rfl
  simp only [ZA,ZB,ZC,ZD,ZE,↓reduceIte,ZF,ZG,ZH,ZI,ZJ,reduceCtorEq,ZK,↓zU,↓zD,zV,zT,zW,xT,b1',b2'];exact .drop (by simp) (by simp [vw])
 have b2':((p.init.length:Int)== 0)= false:=by rw [beq_eq_false_iff_ne]; omega
 by_cases b3:p.code.length=p.see.length
 case neg=>
  rw [show uD p=3 by unfold uD; simp [hfe,a3,a4,a5,a6,b3]];have b3':((p.code.length:Int) != (p.see.length:Int))= true:=by rw [bne_iff_ne]; omega
  simp only [ZA,ZB,ZC,ZD,ZE,↓reduceIte,ZF,ZG,ZH,ZI,ZJ,reduceCtorEq,ZK,↓zU,↓zD,zV,zT,zW,xT,b1',b2',yN,b3'];exact .drop (by simp) (by simp [vw])
 have b3':((p.code.length:Int) != (p.see.length:Int))= false:=by rw [b3]; exact bne_self_eq_false _
 simp only [ZA,ZB,ZC,ZD,ZE,↓reduceIte,ZF,ZG,ZH,ZI,ZJ,reduceCtorEq,ZK,↓zU,↓zD,zV,zT,zW,xT,b1',b2',yN,b3'];refine .go (hout (by omega) p.init (by omega)) ?_;cases b4:p.init.any (oM p)
 case true=>
  rw [show uD p=3 by unfold uD; simp [hfe,a3,a4,a5,a6,b4]];simp only [ZA,ZB,ZC,ZD,ZE,↓reduceIte,ZF,ZG,ZH,ZI,ZJ,reduceCtorEq,ZK,↓zU,↓zD,zV,zT,zW];exact .drop (by simp) (by simp [vw])
 simp only [ZA,ZB,ZC,ZD,ZE,↓reduceIte,ZF,ZG,ZH,ZI,ZJ,reduceCtorEq,ZK,↓zU,↓zD,zV,zT,zW];refine .go (hout (by omega) p.see (by omega)) ?_;cases b5:p.see.any (oM p)
 case true=>
  rw [show uD p=3 by unfold uD; simp [hfe,a3,a4,a5,a6,b5]];simp only [ZA,ZB,ZC,ZD,ZE,↓reduceIte,ZF,ZG,ZH,ZI,ZJ,reduceCtorEq,ZK,↓zU,↓zD,zV,zT,zW];exact .drop (by simp) (by simp [vw])
 simp only [ZA,ZB,ZC,ZD,ZE,↓reduceIte,ZF,ZG,ZH,ZI,ZJ,reduceCtorEq,ZK,↓zU,↓zD,zV,zT,zW];refine .go (cr hai) ?_;have hau:aMf (p.init.map ui)= aMe p.init:=rfl;rw [hau]
 have hf2:yG p=if aMe p.init=false\/p.moves.any (fun s=>!aY0 s)= true then 9 else 0:=by
  rw [hfe,if_neg (by simp [a3,a4,a5,a6]),if_neg (by simp [b1,b2,b3,b4,b5])]
 cases c1:aMe p.init
 case false=>
  rw [show uD p=9 by unfold uD; simp [hf2,c1]];simp only [ZA,ZB,ZC,ZD,ZE,↓reduceIte,ZF,ZG,ZH,ZI,ZJ,reduceCtorEq,ZK,↓zU,↓zD,zV,zT,zW];exact .drop (by simp) (by simp [vw])
 simp only [ZA,ZB,ZC,ZD,ZE,↓reduceIte,ZF,ZG,ZH,ZI,ZJ,reduceCtorEq,ZK,↓zU,↓zD,zV,zT,zW];refine .go (hasc (by omega) fun x hx=>by rw [List.append_nil]; exact xX.of_runs (aAq x (sm.mv x hx)) (by simp [D.isPureL,D.isPure])) ?_;cases c2:p.moves.any (fun s=>!aY0 s)
 case true=>
  rw [show uD p=9 by unfold uD; simp [hf2,c2]];simp only [ZA,ZB,ZC,ZD,ZE,↓reduceIte,ZF,ZG,ZH,ZI,ZJ,reduceCtorEq,ZK,↓zU,↓zD,zV,zT,zW];exact .drop (by simp) (by simp [vw])
 have hf0:yG p=0:=by rw [hf2,c1,c2]; rfl
 have hch:uD p=if wS (wS (asE p)) p.moves≠0 then wS (wS (asE p)) p.moves else wS (wS (clE p)) p.code:=by unfold uD; rw [hf0,if_neg (by simp)]
 simp only [ZA,ZB,ZC,ZD,ZE,↓reduceIte,ZF,ZG,ZH,ZI,ZJ,reduceCtorEq,ZK,↓zU,↓zD,zV,zT,zW];refine .go (xX.of_runs (hM (by omega) sm.mv) (by simp [D.isPureL,D.isPure])) ?_;by_cases d1:wS (wS (asE p)) p.moves=0
 case neg=>
  have d1':(wS (wS (asE p)) p.moves != 0)= true:=by simpa using d1
  rw [hch,if_pos d1];simp only [ZA,ZB,ZC,ZD,ZE,↓reduceIte,ZF,ZG,ZH,ZI,ZJ,reduceCtorEq,ZK,↓zU,↓zD,zV,zT,zW,d1'];exact .drop (by simp) (by simp [vw])
 rw [hch,d1,if_neg (by simp)];simp only [ZA,ZB,ZC,ZD,ZE,↓reduceIte,ZF,ZG,ZH,ZI,ZJ,reduceCtorEq,ZK,↓zU,↓zD,zV,zT,zW,yN]
 refine xV (fun k:Nat=>[(92,.int .i64 k),(91,.int .i64 p.code.length),(90,.sl 1 (cdR p.code)),(1,.ref 0 5 0 0)]) (fun _=>⟨1,[(0,⟨5,[p.cells]⟩)]⟩)
  (fun k=>k<=p.code.length/\wS (wS (clE p)) p.code=wS (wS (clE p)) (p.code.drop k)) (fun k=>p.code.length-k) 0 ⟨Nat.zero_le _,rfl⟩ ?_ ?_
 ·unfold PrA.cells; (refine xM.same ?_; simp [xR,Fr.get])
 intro k ⟨hk,hi⟩;refine xQ mixed ?_;by_cases hkl:k<p.code.length
 case neg=>
  have hd:¬ ((k:Int)<(p.code.length:Int)):=by omega
  rw [hi,List.drop_eq_nil_of_le (by omega)];simp only [ZA,ZB,ZC,ZD,ZE,↓reduceIte,ZF,ZG,ZH,ZI,ZJ,reduceCtorEq,ZK,↓zU,↓zD,zV,zT,zW,hd];exact .drop (by simp) (by simp [vw,wS])
 have hd:((k:Int)<(p.code.length:Int)):=by omega
 rw [uT (d:=[]) _ hkl] at hi;have hg:=mC p.code hkl
 have hs:(p.code.getD k []).length<=6:=by
  have:=List.any_eq_false.1 a6 _ (xN (d:=[]) hkl);simpa using this
 generalize p.code.getD k []=s at hi hg hs;unfold PrA.cells;simp only [ZA,ZB,ZC,ZD,ZE,↓reduceIte,ZF,ZG,ZH,ZI,ZJ,reduceCtorEq,ZK,↓zU,↓zD,zV,zT,zW,hd,yN,hg,wQ]
 (repeat refine sd ?_)
 refine xV (fun j:Nat=>[(98,.int .i64 j),(97,.int .i64 s.length),(96,.sl 2 (clR s)),(92,.int .i64 k),(91,.int .i64 p.code.length),(90,.sl 1 (cdR p.code)),(1,.ref 0 5 0 0)]) (fun _=>⟨1,[(0,⟨5,[p.cells]⟩)]⟩)
  (fun j=>j<=s.length/\wS (clE p) s=wS (clE p) (s.drop j)) (fun j=>s.length-j) 0 ⟨Nat.zero_le _,rfl⟩ ?_ ?_
 ·unfold PrA.cells; (refine xM.same ?_; simp [xR,Fr.get])
 intro j ⟨hj,hi2⟩;refine xQ mixed ?_;by_cases hjl:j<s.length
 case neg=>
  have hd2:¬ ((j:Int)<(s.length:Int)):=by omega
  have h0:wS (clE p) s=0:=by rw [hi2,List.drop_eq_nil_of_le (by omega)]; rfl
  rw [h0,if_neg (by simp)] at hi;unfold PrA.cells;simp only [ZA,ZB,ZC,ZD,ZE,↓reduceIte,ZF,ZG,ZH,ZI,ZJ,reduceCtorEq,ZK,↓zU,↓zD,zV,zT,zW,hd2];refine⟨k+1,⟨by omega,hi⟩,?_,by omega⟩
  (refine xM.same ?_; simp only [xR,Fr.get,↓reduceIte,reduceIte,Nat.reduceEqDiff,reduceCtorEq,D.int.injEq,D.bool.injEq,D.sl.injEq,and_true,true_and,and_self])
  exact wrap_i64 (by omega)
 have hd2:((j:Int)<(s.length:Int)):=by omega
 rw [uT (d:=cl0) _ hjl] at hi2;have hg2:=dP s hjl;unfold ClA.row at hg2;generalize s.getD j cl0=c at hi2 hg2;have hend:clE p c≠0->wS (wS (clE p)) p.code=clE p c:=fun h=>by rw [hi,hi2,if_pos h,if_pos h]
 unfold PrA.cells;simp only [ZA,ZB,ZC,ZD,ZE,↓reduceIte,ZF,ZG,ZH,ZI,ZJ,reduceCtorEq,ZK,↓zU,↓zD,zV,zT,zW,hd2,wQ,hg2]
 (repeat refine sd ?_)
 refine .go (cr (hF c.test)) ?_;by_cases e1:fmE p c.test 15=0
 case neg=>
  have e1':(fmE p c.test 15 != 0)= true:=by simpa using e1
  have e:clE p c=fmE p c.test 15:=by unfold clE; rw [if_pos e1]
  rw [hend (by rw [e]; exact e1),e];simp only [ZA,ZB,ZC,ZD,ZE,↓reduceIte,ZF,ZG,ZH,ZI,ZJ,reduceCtorEq,ZK,↓zU,↓zD,zV,zT,zW,e1'];exact .drop (by simp) (by simp [vw])
 have e1':(fmE p c.test 15 != 0)= false:=by simpa using e1
 by_cases e2:c.mv < -1
 ·have e:clE p c=2:=by unfold clE; rw [e1,if_neg (by simp),if_pos (.inl e2)]
  rw [hend (by rw [e]; decide),e];simp only [ZA,ZB,ZC,ZD,ZE,↓reduceIte,ZF,ZG,ZH,ZI,ZJ,reduceCtorEq,ZK,↓zU,↓zD,zV,zT,zW,e1',e2];exact .drop (by simp) (by simp [vw])
 by_cases e3:(p.moves.length:Int)<=c.mv
 ·have e:clE p c=2:=by unfold clE; rw [e1,if_neg (by simp),if_pos (.inr e3)]
  rw [hend (by rw [e]; decide),e];simp only [ZA,ZB,ZC,ZD,ZE,↓reduceIte,ZF,ZG,ZH,ZI,ZJ,reduceCtorEq,ZK,↓zU,↓zD,zV,zT,zW,e1',e2,xA,e3];exact .drop (by simp) (by simp [vw])
 have e:clE p c=0:=by unfold clE; rw [e1,if_neg (by simp),if_neg (by omega)]
 rw [e,if_neg (by simp)] at hi2;simp only [ZA,ZB,ZC,ZD,ZE,↓reduceIte,ZF,ZG,ZH,ZI,ZJ,reduceCtorEq,ZK,↓zU,↓zD,zV,zT,zW,e1',e2,xA,e3];refine⟨j+1,⟨by omega,hi2⟩,?_,by omega⟩
 (refine xM.ren [] [0] (by simp) (by simp) (by decide) ?_; simp only [yO,vwL,vw,vwF,sw,St.get,St.look,Fr.get,↓reduceIte,reduceIte,Nat.reduceEqDiff,Nat.reduceAdd,Nat.reduceBEq,Nat.reduceLT,Nat.reduceLeDiff,exists_eq_left',ne_eq,reduceCtorEq,zR])
 exact wrap_i64 (by omega)
end Go.Pd
