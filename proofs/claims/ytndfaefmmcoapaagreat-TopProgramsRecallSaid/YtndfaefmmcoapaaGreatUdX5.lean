/- Part X5. -/
import Derived.Test.YtndfaefmmcoapaaGreatUdX4
import Derived.KernelRfl
import Derived.RangeFuncLeaves
import Derived.RangeFuncRecord
set_option linter.unusedSectionVars false
set_option linter.unusedVariables false
set_option linter.unusedSimpArgs false
set_option linter.defProp false
namespace Go.Pd
open Go
variable [sC]
mutual
def vw (σ σ':St) (ρ:Nat->Nat):D->D->Prop
 | _,.top=>True
 | d,.ref k sz i off=>k<σ'.nx/\d = .ref (ρ k) sz i off
 | d,.osl k sz n=>k<σ'.nx/\d = .osl (ρ k) sz n
 | d,.sub k sz lo n=>k<σ'.nx/\d = .sub (ρ k) sz lo n
 | d,.zJ k=>k<σ'.nx/\d = .zJ (ρ k)
 | d,.agg cs=>match d with
  | .agg ds=>ds.length=cs.length/\vwL σ σ' ρ ds cs
  | _=>False
 | d,.tup cs=>match d with
  | .tup ds=>ds.length=cs.length/\vwL σ σ' ρ ds cs
  | _=>False
 | d,.fn f cs=>match d with
  | .fn f' ds=>f'=f/\ds.length=cs.length/\vwL σ σ' ρ ds cs
  | _=>False
 | d,.sl sz els=>match d with
  | .sl sz' els'=>sz'=sz/\els'=els
  | .xO=>els = []
  | .emp=>els = []
  | .osl k0 sz' n=>sz'=sz/\0<sz/\(∀ p ∈ σ'.xZ,ρ p.1≠k0)/\ ∃ ob,σ.get k0=some ob/\ob.sz=sz/\n<=ob.els.length/\els=ob.els.take n/\∀ e ∈ els,D.xU e=true
  | _=>False
 | d,.ptr cs=>d = .ptr cs\/∃ k0 ob,d = .ref k0 cs.length 0 0/\(∀ p ∈ σ'.xZ,ρ p.1≠k0)/\ σ.get k0=some ob/\ob.sz=cs.length/\ob.els = [cs]/\D.xU cs=true
 | d,d'=>d=d'
def vwL (σ σ':St) (ρ:Nat->Nat):List D->List D->Prop
 | _,[]=>True
 | d :: ds,c :: cs=>vw σ σ' ρ d c/\vwL σ σ' ρ ds cs
 | [],_ :: _=>False
end
inductive vwE (σ σ' : St) (ρ : Nat -> Nat) : List (List D) -> List (List D) -> Prop
 | same {els} (h:∀ e ∈ els,D.xU e=true):vwE σ σ' ρ els els
 | nil:vwE σ σ' ρ [] []
 | cons {a b as bs} (hl:a.length=b.length) (h:vwL σ σ' ρ a b) (t:vwE σ σ' ρ as bs):vwE σ σ' ρ (a :: as) (b :: bs)
theorem wX {l:List (Nat × Ob)} {k:Nat} {o:Ob} (h:St.look l k=some o):(k,o)∈ l:=by
 induction l with
 | nil=>simp [St.look] at h
 | cons p l ih=>
  obtain⟨j,ob⟩:=p;simp only [St.look] at h
  split at h
  ·rename_i e; simp at h; subst e; subst h; simp
  ·exact List.mem_cons_of_mem _ (ih h)
section
variable {M0 : Nat -> Prop} {w : World} {σ σ' : St} {ι : Nat -> Nat} {ρ : Nat -> Nat}
theorem oI (hS:vQ M0 w σ ι) (hlive:∀ p ∈ σ'.xZ,∃ ob,σ.get (ρ p.1)= some ob) {d':D} :
  (∀ (v:Value) (d:D),R (Mof M0 ι σ) w ι σ.nx v d->vw σ σ' ρ d d'->R (Mof M0 (fun k=>ι (ρ k)) σ') w (fun k=>ι (ρ k)) σ'.nx v d'):=by
 have hM:∀ b,Mof M0 (fun k=>ι (ρ k)) σ' b->Mof M0 ι σ b:=by
  intro b hb
  rcases hb with hb | ⟨k,o,hk,rfl⟩
  ·exact .inl hb
  ·obtain⟨ob,hob⟩:=hlive _ (wX hk);exact .inr ⟨ρ k,ob,hob,rfl⟩
 have hRP:∀ {v:Value} {d:D},RP (Mof M0 ι σ) w v d->RP (Mof M0 (fun k=>ι (ρ k)) σ') w v d:=fun h=>h.zI (fun _ _ _=>rfl) fun b _ hb=>hM b hb;have leaf:∀ (v:Value) (d:D),R (Mof M0 ι σ) w ι σ.nx v d->d.xL=true->R (Mof M0 (fun k=>ι (ρ k)) σ') w (fun k=>ι (ρ k)) σ'.nx v d:=fun v d h hp=>.pure (hRP (h.aNc hp))
 refine D.rec (motive_1:=fun d'=>∀ (v:Value) (d:D),R (Mof M0 ι σ) w ι σ.nx v d->vw σ σ' ρ d d'->R (Mof M0 (fun k=>ι (ρ k)) σ') w (fun k=>ι (ρ k)) σ'.nx v d')
  (motive_2:=fun _=>True)
  (motive_3:=fun cs=>∀ (ds:List D) (vs:Nat->Value),ds.length=cs.length->(∀ j,j<ds.length->R (Mof M0 ι σ) w ι σ.nx (vs j) (ds.getD j .top))->vwL σ σ' ρ ds cs->∀ j,j<cs.length->R (Mof M0 (fun k=>ι (ρ k)) σ') w (fun k=>ι (ρ k)) σ'.nx (vs j) (cs.getD j .top))
  ?top ?und ?int ?bool ?str ?sl ?xO ?emp ?agg ?tup ?fn ?ref ?osl ?sub ?ptr ?zJ ?iY ?mY ?pQ ?adr trivial (fun _ _ _ _=>trivial) ?nil ?cons d'
 case top=>intro v d _ _; exact R.top v
 case und=>intro v d h hv; simp only [vw] at hv; subst hv; exact leaf v _ h rfl
 case int=>intro k n v d h hv; simp only [vw] at hv; subst hv; exact leaf v _ h rfl
 case bool=>intro b v d h hv; simp only [vw] at hv; subst hv; exact leaf v _ h rfl
 case str=>intro s v d h hv; simp only [vw] at hv; subst hv; exact leaf v _ h rfl
 case xO=>intro v d h hv; simp only [vw] at hv; subst hv; exact leaf v _ h rfl
 case emp=>intro v d h hv; simp only [vw] at hv; subst hv; exact leaf v _ h rfl
 case ptr=>
  intro cs _ v d h hv;simp only [vw] at hv
  rcases hv with rfl | ⟨k0,ob,rfl,h1,h2,h3,h4,h5⟩
  ·exact leaf v _ h rfl
  ·obtain⟨rfl,_,h0⟩:=h.vG;obtain⟨cur,e,c1,c2,c3,c4⟩:=yT.cells (hS.holds k0 ob h2).2 (by omega);rw [h4] at c3 c4;rw [h3] at c3 c4;simp only [List.length_singleton,Nat.one_mul] at c3;rw [show 0*cs.length+0=0 by omega]
   refine .pure (.ptr (fun j=>cur.getD j undef) h0 (fun hm=>?_) (fun j hj=>?_) fun j hj=>?_)
   ·rcases hm with hm | ⟨k,o,hk,he⟩
    ·exact hS.notM k0 ob h2 hm
    ·obtain⟨ob',hob'⟩:=hlive _ (wX hk);exact h1 _ (wX hk) (hS.inj _ _ _ _ hob' h2 he)
   ·rw [Nat.zero_add,cell_of_row _ _ _ _ _ _ c1];simp [show j<cur.size by omega]
   ·have:=(c4 0 (by simp) j hj).2;simp only [Nat.zero_mul,Nat.zero_add,List.getD_cons_zero] at this;exact hRP (this.aNc (wR h5 j))
 case iY=>intro v d h hv; simp only [vw] at hv; subst hv; exact leaf v _ h rfl
 case mY=>intro v d h hv; simp only [vw] at hv; subst hv; exact leaf v _ h rfl
 case pQ=>intro v d h hv; simp only [vw] at hv; subst hv; exact leaf v _ h rfl
 case adr=>intro b v d h hv; simp only [vw] at hv; subst hv; exact leaf v _ h rfl
 case ref=> intro k sz i off v d h hv;simp only [vw] at hv;obtain⟨h1,rfl⟩:=hv;obtain⟨rfl,_,h0⟩:=h.vG;exact R.ref (ι:=fun k=>ι (ρ k)) h1 h0
 case osl=> intro k sz n v d h hv;simp only [vw] at hv;obtain⟨h1,rfl⟩:=hv;obtain⟨cap,cur,e,rfl,k1,k2,k3,k4,k5⟩:=h.uL;exact R.osl (ι:=fun k=>ι (ρ k)) h1 k2 k3 k4 k5
 case sub=> intro k sz lo n v d h hv;simp only [vw] at hv;obtain⟨h1,rfl⟩:=hv;obtain⟨cap,off,cur,e,rfl,k1,k2,k3,k4,k5⟩:=h.pF;exact R.sub (ι:=fun k=>ι (ρ k)) h1 k2 k3 k4 k5
 case zJ=>
  intro k v d h hv;simp only [vw] at hv;obtain⟨h1,rfl⟩:=hv
  cases h with
  | pure h=>cases h
  | zJ _=>exact R.zJ (ι:=fun k=>ι (ρ k)) h1
 case agg=>
  intro cs ih v d h hv;cases d <;> (try (simp [vw] at hv; done))
  rename_i ds;simp only [vw] at hv;obtain⟨vs,rfl,h1,h2⟩:=h.aXp;refine .agg (by omega) fun j hj=>?_;exact ih ds (fun j=>vs.getD j undef) hv.1 (fun j hj=>h2 j hj) hv.2 j hj
 case tup=>
  intro cs ih v d h hv;cases d <;> (try (simp [vw] at hv; done))
  rename_i ds;simp only [vw] at hv;obtain⟨vs,rfl,h1,h2⟩:=h.aMm;refine .tup (by omega) fun j hj=>?_;exact ih ds (fun j=>vs.getD j undef) hv.1 (fun j hj=>h2 j hj) hv.2 j hj
 case fn=>
  intro f cs ih v d h hv;cases d <;> (try (simp [vw] at hv; done))
  rename_i f' ds;simp only [vw] at hv;obtain⟨rfl,h3,h4⟩:=hv;obtain⟨vs,rfl,h1,h2⟩:=h.gB;refine .fn (by omega) fun j hj=>?_;exact ih ds (fun j=>vs.getD j undef) h3 (fun j hj=>h2 j hj) h4 j hj
 case sl=>
  intro sz els _ v d h hv
  cases d <;> (try (simp [vw] at hv; done))
  ·simp only [vw] at hv;obtain⟨rfl,rfl⟩:=hv;exact leaf v _ h rfl
  ·simp only [vw] at hv;subst hv;have:=h.vT;subst this;exact .pure (.sl0 _ _ _ (by simp))
  ·simp only [vw] at hv;subst hv;obtain⟨ad,cap,rfl⟩:=h.jN;exact .pure (.sl0 _ _ _ (by simp))
  ·rename_i k0 sz' n;simp only [vw] at hv;obtain⟨rfl,h0,h1,ob,h2,h3,h4,h5,h6⟩:=hv;obtain⟨cap,cur,e,rfl,k1,k2,k3,k4,k5⟩:=h.uL;obtain⟨_,cur',e',c1,c2,c3,c4⟩:=yT.rows (hS.holds k0 ob h2).2 k4;rw [k4] at c1;simp at c1;obtain⟨rfl,rfl⟩:=c1;have hlen:els.length=n:=by rw [h5]; simp; omega
   rw [<- hlen]
   have hget:∀ i,i<n->els.getD i []=ob.els.getD i []:=by intro i hi;rw [h5];simp [List.getD,List.getElem?_take,hi]
   refine .pure (.sl (fun i j=>cur.getD (i*sz'+j) undef) h0 (fun hm=>?_) (by omega) k3 (fun el he=>?_) (fun i hi j hj=>?_) (fun i hi j hj=>?_))
   ·rcases hm with hm | ⟨k,o,hk,he⟩
    ·exact hS.notM k0 ob h2 hm
    ·obtain⟨ob',hob'⟩:=hlive _ (wX hk);exact h1 _ (wX hk) (hS.inj _ _ _ _ hob' h2 he)
   ·rw [h5] at he;rw [<- h3];exact c2 el (List.mem_of_mem_take he)
   ·have:i*sz'+j<cur.size:=by have:=pJ (m:=ob.els.length) (i:=i) (j:=j) (sz:=sz') (by omega) hj;rw [h3] at c3;omega
    rw [Nat.zero_add,cell_of_row _ _ _ _ _ _ k4];simp [this]
   ·have:=(c4 i (by omega) j (by rw [h3]; exact hj)).2;rw [h3] at this;rw [hget i (by omega)];refine hRP (this.aNc ?_);rw [<- hget i (by omega)]
    have hmem:els.getD i [] ∈ els:=by
     have:i<els.length:=by omega
     simp [List.getD,this]
    exact wR (h6 _ hmem) j
 case nil=>intro ds vs _ _ _ j hj; simp at hj
 case cons=>
  intro c cs ih1 ih2 ds vs hl hr hv j hj
  cases ds with
  | nil=>simp at hl
  | cons d ds=>
   simp only [vwL] at hv
   cases j with
   | zero=>exact ih1 _ _ (by simpa using hr 0 (by simp)) hv.1
   | succ j=> have:=ih2 ds (fun j=>vs (j+1)) (by simpa using hl) (fun j hj=>by simpa using hr (j+1) (by simpa using hj)) hv.2 j (by simpa using hj);simpa using this
def stays (σ σ':St) (ρ:Nat->Nat):Prop:=∀ p ∈ σ'.xZ,p.1<σ'.nx/\∃ ob,σ.get (ρ p.1)= some ob/\ob.sz=p.2.sz/\vwE σ σ' ρ ob.els p.2.els
def uU (σ':St) (ρ:Nat->Nat):Prop:=∀ p ∈ σ'.xZ,∀ q ∈ σ'.xZ,ρ p.1=ρ q.1->p.1=q.1
theorem aXd : ∀ {as bs:List (List D)},vwE σ σ' ρ as bs->as.length=bs.length/\∀ i,i<bs.length->((as.getD i []).length=(bs.getD i []).length/\(vwL σ σ' ρ (as.getD i []) (bs.getD i [])\/(as.getD i []=bs.getD i []/\D.xU (bs.getD i [])= true)))
 | _,_,.same h=>⟨rfl,fun i hi=>⟨rfl,.inr ⟨rfl,h _ (by simp [List.getD,hi])⟩⟩⟩
 | _,_,.nil=>⟨rfl,fun i hi=>by simp at hi⟩
 | _,_,.cons hl h t=>by
  obtain⟨h1,h2⟩:=aXd t;refine⟨by simp [h1],fun i hi=>?_⟩
  cases i with
  | zero=>exact⟨by simpa using hl,.inl (by simpa using h)⟩
  | succ i=>simpa using h2 i (by simpa using hi)
theorem vQ.view (hS:vQ M0 w σ ι) (hst:stays σ σ' ρ) (hap:uU σ' ρ):vQ M0 w σ' (fun k=>ι (ρ k)):=by
 have hlive:∀ p ∈ σ'.xZ,∃ ob,σ.get (ρ p.1)= some ob:=fun p hp=>by obtain⟨_,ob,h,_⟩:=hst p hp;exact⟨ob,h⟩
 have hM0:∀ b,Mof M0 (fun k=>ι (ρ k)) σ' b->Mof M0 ι σ b:=by
  intro b hb
  rcases hb with hb | ⟨k,o,hk,rfl⟩
  ·exact .inl hb
  ·obtain⟨ob,hob⟩:=hlive _ (wX hk);exact .inr ⟨ρ k,ob,hob,rfl⟩
 refine⟨hS.old,fun k o hk=>?_,fun k k' o o' hk hk' e=>?_,fun k o hk=>?_,hS.kB.zI (Nat.le_refl _) (fun _ _ _=>rfl) fun b _ hb=>hM0 b hb⟩
 ·obtain⟨h1,ob,h2,h3,h4⟩:=hst _ (wX hk);refine⟨h1,?_⟩;obtain⟨g1,g2⟩:=aXd h4;simp only at h3 g1 g2;rcases(hS.holds _ _ h2).2 with ⟨s0,cur,e,c1,c2,c3,c4⟩ | ⟨s0,es,c1,c2,c3⟩
  case inr=>
   refine .inr ⟨by rw [<- h3]; exact s0,es,c1,by rw [c2,g1],fun i hi=>?_⟩;obtain⟨kk,v,x,d,r1,r2,r3,r4⟩:=c3 i (by omega);obtain⟨e1,e2⟩:=g2 i hi;rw [r1] at e1 e2
   rcases e2 with e2 | ⟨e2,e3⟩
   ·generalize hrow:o.els.getD i []=row at e1 e2
    match row,e1 with
    | [x',d'],_=> simp only [vwL] at e2;exact⟨kk,v,x',d',rfl,r2,oI hS hlive _ _ r3 e2.1,oI hS hlive _ _ r4 e2.2.1⟩
   ·rw [<- e2] at e3;simp only [D.xU,Bool.and_eq_true] at e3;exact⟨kk,v,x,d,e2.symm,r2,.pure ((r3.aNc e3.1).zI (fun _ _ _=>rfl) fun b _ hb=>hM0 b hb),.pure ((r4.aNc e3.2.1).zI (fun _ _ _=>rfl) fun b _ hb=>hM0 b hb)⟩
  refine .inl ⟨by rw [<- h3]; exact s0,cur,e,c1,fun el he=>?_,by rw [<- g1,<- h3]; exact c3,fun i hi j hj=>?_⟩
  ·obtain⟨i,hi,rfl⟩:=List.getElem_of_mem he;have e1:=(g2 i hi).1;have e2:o.els.getD i []=o.els[i]:=by simp [List.getD,hi]
   have hi':i<ob.els.length:=by omega
   have e3:ob.els.getD i []=ob.els[i]:=by simp [List.getD,hi']
   rw [e2,e3] at e1;rw [<- e1,<- h3];exact c2 _ (List.getElem_mem hi')
  ·rw [<- h3] at hj ⊢;have hc:=c4 i (by omega) j hj;refine⟨hc.1,?_⟩;have hi':i<ob.els.length:=by omega
   have hlen:(ob.els.getD i []).length=ob.sz:=by
    have e3:ob.els.getD i []=ob.els[i]:=by simp [List.getD,hi']
    rw [e3]; exact c2 _ (List.getElem_mem hi')
   obtain⟨e1,e2⟩:=g2 i hi
   rcases e2 with e2 | ⟨e2,e3⟩
   ·have:∀ (cs ds:List D),ds.length=cs.length->vwL σ σ' ρ ds cs->∀ j,j<cs.length->vw σ σ' ρ (ds.getD j .top) (cs.getD j .top):=by
     intro cs
     induction cs with
     | nil=>intro ds _ _ j hj; simp at hj
     | cons c cs ih=>
      intro ds hl hv j hj
      cases ds with
      | nil=>simp at hl
      | cons d ds=>
       simp only [vwL] at hv
       cases j with
       | zero=>simpa using hv.1
       | succ j=>simpa using ih ds (by simpa using hl) hv.2 j (by simpa using hj)
    exact oI hS hlive _ _ hc.2 (this _ _ e1 e2 j (by omega))
   ·rw [e2] at hc
    have hM:∀ b,Mof M0 (fun k=>ι (ρ k)) σ' b->Mof M0 ι σ b:=by
     intro b hb
     rcases hb with hb | ⟨k,o,hk,rfl⟩
     ·exact .inl hb
     ·obtain⟨ob,hob⟩:=hlive _ (wX hk);exact .inr ⟨ρ k,ob,hob,rfl⟩
    exact .pure ((hc.2.aNc (wR e3 j)).zI (fun _ _ _=>rfl) fun b _ hb=>hM b hb)
 ·obtain⟨ob,h1⟩:=hlive _ (wX hk);obtain⟨ob',h2⟩:=hlive _ (wX hk');exact hap _ (wX hk) _ (wX hk') (hS.inj _ _ _ _ h1 h2 e)
 ·obtain⟨ob,h1⟩:=hlive _ (wX hk);exact hS.notM _ _ h1
end
def vwF (σ σ':St) (ρ:Nat->Nat) (f:Fr):Fr->Prop
 | []=>True
 | (t,d') :: r=>vw σ σ' ρ (f.get t) d'/\vwF σ σ' ρ f r
theorem xM.view {C:Cx} {f f':Fr} {σ σ':St} (ρ:Nat->Nat) (hn:C.n0<=σ'.nx) (hρ:∀ k,k<C.n0->ρ k=k) (hf:vwF σ σ' ρ f f') (hst:stays σ σ' ρ) (hap:uU σ' ρ):xM C f σ f' σ':=by
 rintro E a w ⟨ι,G⟩
 have hlive:∀ p ∈ σ'.xZ,∃ ob,σ.get (ρ p.1)= some ob:=fun p hp=>by obtain⟨_,ob,h,_⟩:=hst p hp;exact⟨ob,h⟩
 refine⟨fun k=>ι (ρ k),G.size,G.defers,hn,G.kept,G.sim.view hst hap,G.old,fun k o hk=>?_,fun k hk=>by simp only [hρ k hk]; exact G.stay k hk,fun t=>?_⟩
 ·obtain⟨ob,h⟩:=hlive _ (wX hk);exact G.nG _ _ h
 ·induction f' with
  | nil=>exact R.top _
  | cons p r ih=>
   obtain⟨s,d'⟩:=p;simp only [vwF] at hf;simp only [Fr.get]
   split
   ·rename_i e;subst e;exact oI G.sim hlive _ _ (G.fr s) hf.1
   ·exact ih hf.2
theorem xM.frame {C:Cx} {f f':Fr} {σ:St} (hf:∀ t,f'.get t = .top\/f'.get t=f.get t):xM C f σ f' σ:=by
 rintro E a w ⟨ι,G⟩;refine⟨ι,G.size,G.defers,G.nx,G.kept,G.sim,G.old,G.nG,G.stay,fun t=>?_⟩
 rcases hf t with h | h
 ·rw [h]; exact R.top _
 ·rw [h]; exact G.fr t
end Go.Pd
namespace Go.Pd
open Go
variable [sC]
section
variable {C : Cx} {M0 : Nat -> Prop} {w : World} {σ : St} {ι : Nat -> Nat} {a : Act} {o : Oper} {ev : Opd -> D} {K : D -> Prop}
theorem aTv {t:TypeId} {x:Operand} {ag:Bool} {x':Opd} {inf:TypeInfo} (hop:o.op = .load t x) (hag:rZ C.P t=some ag) (hi:C.P.info? t=some inf) (hx:xE C.N x=some x') (h:pW C σ ev (.load inf.size ag x') K)
  (hS:vQ M0 w σ ι) (hR:∀ x y,xE C.N x=some y->R (Mof M0 ι σ) w ι σ.nx (a.eval x) (ev y)):∃ v d,Yields C.P o a w v/\K d/\R (Mof M0 ι σ) w ι σ.nx v d:=by
 have htd:∃ td,C.P.underlying t=some td:=by
  unfold rZ at hag
  cases hu:C.P.underlying t with
  | none=>simp [hu] at hag
  | some td=>exact⟨td,rfl⟩
 obtain⟨td,htd⟩:=htd
 have go:∀ (ad:Addr) (vs:List Value) (ds:List D),a.eval x = .pointer (some ad)->vs.length=inf.size->ds.length=inf.size->(∀ j v,vs[j]?=some v->w.cell? (ad.add j)= some v) ->
   (∀ j,j<inf.size->R (Mof M0 ι σ) w ι σ.nx (vs.getD j undef) (ds.getD j .top))->(ag=true\/inf.size=1)->K (qP ag ds)->∃ v d,Yields C.P o a w v/\K d/\R (Mof M0 ι σ) w ι σ.nx v d:=by
  intro ad vs ds hX hl hl' hc hr hone hK
  cases ag with
  | true=> refine⟨_,_,(aUd hop htd hag hi hl hX hc),hK,?_⟩;refine .agg (by simp [hl,hl']) fun j hj=>?_;rw [hl'] at hj;have:=hr j hj;simpa using this
  | false=>
   have h1:inf.size=1:=by simpa using hone
   match vs,hl with
   | [],hl=>simp at hl; omega
   | v :: r,hl=>
    have hc0:=hc 0 v rfl;have e0:ad.add 0=ad:=by simp [Addr.add]
    rw [e0] at hc0;have hr0:=hr 0 (by omega)
    match ds,hl' with
    | [],hl'=>simp at hl'; omega
    | d :: r',hl'=>exact⟨_,_,(aUe hop htd hag hX hc0),hK,(by simpa [qP] using hr0)⟩
 simp only [pW] at h
 split at h
 ·rename_i key sz i off hb;obtain⟨h1,h2⟩:=(hb ▸ hR _ _ hx).vG
  split at h
  ·rename_i ob hob;obtain⟨g1,g2,g3,g4,g5⟩:=h;subst g1;obtain⟨cur,e,c1,c2,c3,c4⟩:=yT.cells (hS.holds key ob hob).2 h2.2
   have hlen:(ob.els.getD i []).length=ob.sz:=by
    have:ob.els.getD i []=ob.els[i]:=by simp [List.getD,g2]
    rw [this]; exact c2 _ (List.getElem_mem g2)
   refine go ⟨ι key,i*ob.sz+off,none⟩ ((List.range inf.size).map fun j=>cur.getD (i*ob.sz+off+j) undef) _ h1 (by simp) (by rw [List.length_take,List.length_drop,hlen]; omega) (fun j v hj=>?_) (fun j hj=>?_) g4 g5
   ·simp only [List.getElem?_map,Option.map_eq_some_iff,List.getElem?_range'] at hj;obtain⟨j',hj',rfl⟩:=hj
    have hj2:j<inf.size:=by
     rcases Nat.lt_or_ge j inf.size with h | h
     ·exact h
     ·simp [List.getElem?_eq_none (by simpa using h:(List.range inf.size).length<=j)] at hj'
    have e1:j'=j:=by simpa [hj2] using hj'.symm
    subst e1;rw [Addr.add_lit]
    have hlt:i*ob.sz+off+j'<cur.size:=by have:=pJ (sz:=ob.sz) (j:=off+j') g2 (by omega);omega
    simp [World.cell?,c1,hlt]
   ·have hq:=(c4 i g2 (off+j) (by omega)).2
    have e1:(List.map (fun j=>cur.getD (i*ob.sz+off+j) undef) (List.range inf.size)).getD j undef=cur.getD (i*ob.sz+(off+j)) undef:=by simp [List.getD,hj,Nat.add_assoc]
    have e2:(((ob.els.getD i []).drop off).take inf.size).getD j .top=(ob.els.getD i []).getD (off+j) .top:=by simp [List.getD,hj,List.getElem?_take]
    rw [e1,e2];exact hq
  ·exact h.elim
 ·rename_i cs hb;obtain⟨b,off,vs,h1,h2,h3,h4,h5⟩:=(hb ▸ hR _ _ hx).sN;obtain⟨g1,g2,g3⟩:=h
  refine go ⟨b,off,none⟩ ((List.range inf.size).map vs) _ h1 (by simp) (by simp; omega) (fun j v hj=>?_) (fun j hj=>?_) g2 g3
  ·simp only [List.getElem?_map,Option.map_eq_some_iff] at hj;obtain⟨j',hj',rfl⟩:=hj
   have hj2:j<inf.size:=by
    rcases Nat.lt_or_ge j inf.size with h | h
    ·exact h
    ·simp [List.getElem?_eq_none (by simpa using h:(List.range inf.size).length<=j)] at hj'
   have e1:j'=j:=by simpa [hj2] using hj'.symm
   subst e1;rw [Addr.add_lit];exact h4 j' (by omega)
  ·have e1:(List.map vs (List.range inf.size)).getD j undef=vs j:=by simp [List.getD,hj]
   have e2:(cs.take inf.size).getD j .top=cs.getD j .top:=by simp [List.getD,hj,List.getElem?_take]
   rw [e1,e2];exact .pure (h5 j (by omega))
 ·exact h.elim
end
inductive yR where
 | tmp (t:Nat)
 | cell (t n:Nat) (ag:Bool)
def aY5 (P:Program) (N:Nat):ResultVar->Option yR
 | .tmp t=>if t<N then some (.tmp t) else none
 | .cell a t=>do
  let ag <- rZ P t
  let n <- tC P t
  if a<N then some (.cell a n ag) else none
def aSc (C:Cx) (r:yR) (f:Fr) (σ:St) (K:D->Prop):Prop:=
 match r with
 | .tmp t=>K (f.get t)
 | .cell t n ag=>pW C σ (evO f) (.load n ag (.t t)) K
def cL (C:Cx) (rs:List yR) (f:Fr) (σ:St) (K:D->Prop):Prop:=
 match rs with
 | []=>K (.tup [])
 | [a]=>aSc C a f σ K
 | [a,b]=>aSc C a f σ fun x=>aSc C b f σ fun y=>K (.tup [x,y])
 | [a,b,c]=>aSc C a f σ fun x=>aSc C b f σ fun y=>aSc C c f σ fun z=>K (.tup [x,y,z])
 | [a,b,c,d]=>aSc C a f σ fun x=>aSc C b f σ fun y=>aSc C c f σ fun z=>aSc C d f σ fun u=>K (.tup [x,y,z,u])
 | _=>False
def aUp (tmps:Array Value):ResultVar->Sem Value:=fun
 | .tmp t=>pure (tmps.getD t undef)
 | .cell a t=>do loadVar t (<- asAddr (tmps.getD a undef))
theorem vD {C:Cx} {E:Env} {a:Act} {w:World} {f:Fr} {σ:St} {ι:Nat->Nat} {r:ResultVar} {dr:yR} {K:D->Prop} (hr:aY5 C.P C.N r=some dr) (G:yN C E a w f σ ι) (h:aSc C dr f σ K) :
  ∃ v d,(aUp a.tmps r).run C.P w = .ok v w/\K d/\R (Mof E.M0 ι σ) w ι σ.nx v d:=by
 cases r with
 | tmp t=> simp [aY5] at hr;obtain⟨_,rfl⟩:=hr;exact⟨_,_,rfl,h,G.fr t⟩
 | cell t ty=>
  simp only [aY5,Option.bind_eq_bind,Option.bind_eq_some_iff] at hr;obtain⟨ag,hag,n,hn,hr⟩:=hr
  split at hr
  ·rename_i hlt;simp at hr; subst hr;simp only [tC,Option.map_eq_some_iff] at hn;obtain⟨inf,hi,rfl⟩:=hn;have hx:xE C.N (.tmp t)= some (.t t):=by simp only [xE]; rw [if_pos hlt]
   simp only [aSc] at h;obtain⟨v,d,h1,h2,h3⟩:=aTv (o:={ (default:Oper) with op:=.load ty (.tmp t) }) (t:=ty) (x:=.tmp t) rfl hag hi hx h G.sim (fun x y hxy=>rB G.fr hxy);refine⟨v,d,?_,h2,h3⟩
   have hp:∃ ad,a.tmps.getD t undef = .pointer (some ad):=by
    simp only [pW] at h;have hX:R (Mof E.M0 ι σ) w ι σ.nx (a.tmps.getD t undef) (evO f (.t t)):=G.fr t
    split at h
    ·rename_i key sz i off hb;exact⟨_,(hb ▸ hX).vG.1⟩
    ·rename_i cs hb;obtain⟨b,off,vs,h1,_⟩:=(hb ▸ hX).sN;exact⟨_,h1⟩
    ·exact h.elim
   obtain⟨ad,hp⟩:=hp;simp only [aUp,hp];have he:a.eval (.tmp t)= .pointer (some ad):=hp;unfold Yields at h1;simp only [execOp,he,Instr.loadAt,Instr.sureAddr] at h1;simp only [Sem.run_bind,Sem.run_pure,Result.andThen_ok] at h1;simp only [asAddr,Sem.run_bind,Sem.run_pure,Result.andThen_ok];generalize (loadVar ty ad).run C.P w=rr at h1
   cases rr with
   | ok x w'=> simp [Result.andThen] at h1;obtain⟨rfl,rfl⟩:=h1;rfl
   | halt x w'=>simp [Result.andThen] at h1
  ·simp at hr
theorem aPo (fn:Func) (tmps:Array Value):results fn tmps=(do
  let vs <- fn.results.mapM (aUp tmps)
  pure (if h:vs.size=1 then vs[0] else .tuple vs)):=by
 unfold results;rfl
theorem aPp {C:Cx} {E:Env} {a:Act} {w:World} {f:Fr} {σ:St} {ι:Nat->Nat} {fn:Func} {rs:List yR} {K:D->Prop} (hr:tD (aY5 C.P C.N) fn.results.toList=some rs) (G:yN C E a w f σ ι) (h:cL C rs f σ K) :
  ∃ v d,(results fn a.tmps).run C.P w = .ok v w/\K d/\R (Mof E.M0 ι σ) w ι σ.nx v d:=by
 obtain⟨hl,hg⟩:=wS hr;rw [aPo];generalize hfr:fn.results=rr at hl hg;obtain⟨rl⟩:=rr;simp only at hl hg
 have at':∀ (j:Nat) (x:ResultVar) (y:yR),rl[j]?=some x->rs[j]?=some y->aY5 C.P C.N x=some y:=by intro j x y hx hy;obtain⟨b,hb,hf⟩:=hg j x hx;rw [hy] at hb;simp at hb; subst hb;exact hf
 unfold cL at h
 split at h
 ·match rl,hl with
  | [],_=> exact⟨.tuple #[],.tup [],by simp,h,.tup (by simp) (by simp)⟩
 ·match rl,hl with
  | [r1],_=> obtain⟨v,d,h1,h2,h3⟩:=vD (at' 0 _ _ rfl rfl) G h;exact⟨v,d,by simp [h1],h2,h3⟩
 ·match rl,hl with
  | [r1,r2],_=>
   obtain⟨v,d,h1,h2,h3⟩:=vD (at' 0 _ _ rfl rfl) G h;obtain⟨v',d',g1,g2,g3⟩:=vD (at' 1 _ _ rfl rfl) G h2;refine⟨.tuple #[v,v'],.tup [d,d'],by simp [h1,g1],g2,.tup (by simp) fun j hj=>?_⟩
   match j,hj with
   | 0,_=>exact h3
   | 1,_=>exact g3
 ·match rl,hl with
  | [r1,r2,r3],_=>
   obtain⟨v,d,h1,h2,h3⟩:=vD (at' 0 _ _ rfl rfl) G h;obtain⟨v',d',g1,g2,g3⟩:=vD (at' 1 _ _ rfl rfl) G h2;obtain⟨v'',d'',k1,k2,k3⟩:=vD (at' 2 _ _ rfl rfl) G g2;refine⟨.tuple #[v,v',v''],.tup [d,d',d''],by simp [h1,g1,k1],k2,.tup (by simp) fun j hj=>?_⟩
   match j,hj with
   | 0,_=>exact h3
   | 1,_=>exact g3
   | 2,_=>exact k3
 ·match rl,hl with
  | [r1,r2,r3,r4],_=>
   obtain⟨v,d,h1,h2,h3⟩:=vD (at' 0 _ _ rfl rfl) G h;obtain⟨v',d',g1,g2,g3⟩:=vD (at' 1 _ _ rfl rfl) G h2;obtain⟨v'',d'',k1,k2,k3⟩:=vD (at' 2 _ _ rfl rfl) G g2;obtain⟨v3,d3,l1,l2,l3⟩:=vD (at' 3 _ _ rfl rfl) G k2;refine⟨.tuple #[v,v',v'',v3],.tup [d,d',d'',d3],by simp [h1,g1,k1,l1],l2,.tup (by simp) fun j hj=>?_⟩
   match j,hj with
   | 0,_=>exact h3
   | 1,_=>exact g3
   | 2,_=>exact k3
   | 3,_=>exact l3
 ·exact h.elim
def cJ : Nat->List D->Fr
 | _,[]=>[]
 | i,d :: r=>(i,d) :: cJ (i+1) r
theorem aW9 : ∀ (ds:List D) (i t:Nat),(cJ i ds).get t=if i<=t then ds.getD (t-i) .top else .top
 | [],i,t=>by simp [cJ,Fr.get]
 | d :: r,i,t=>by
  simp only [cJ,Fr.get]
  by_cases h:i=t
  ·subst h; simp
  ·rw [if_neg h,aW9 r]
   by_cases h2:i<=t
   ·have h3:i+1<=t:=by omega
    have h4:t-i=(t-(i+1))+ 1:=by omega
    rw [if_pos h2,if_pos h3,h4];simp
   ·rw [if_neg h2,if_neg (by omega)]
theorem aLm {w:World} {b off D:Nat} {x:Option (List Deferred)} {v:Value} (hD:w.heap[D]?=some (Obj.deferred x)) (h:w.cell? ⟨b,off,none⟩= some v):b≠D:=fun e=>by subst e;simp [World.cell?,hD] at h
theorem RP.more {M:Nat->Prop} {w:World} {D:Nat} {x:Option (List Deferred)} (hD:w.heap[D]?=some (Obj.deferred x)) {v:Value} {d:Go.Pd.D} (h:RP M w v d):RP (fun b=>M b\/b=D) w v d:=by
 induction h with
 | top v=>exact .top v
 | und=>exact .und
 | int h=>exact .int h
 | bool b=>exact .bool b
 | str h=>exact .str h
 | sl0 a cap sz h=>exact .sl0 a cap sz h
 | emp a cap=>exact .emp a cap
 | @sl b off cap sz els vs hs hMb hc hm hl hcell hr ih=>
  rcases Nat.eq_zero_or_pos els.length with h0 | h0
  ·have:els = []:=List.eq_nil_of_length_eq_zero h0;subst this;exact .sl0 _ _ _ (by simp)
  ·have hne:=aLm hD (hcell 0 h0 0 hs);exact .sl vs hs (fun hm'=>hm'.elim hMb hne) hc hm hl hcell ih
 | xO=>exact .xO
 | @ptr b off cs vs hs hMb hcell hr ih=> have hne:=aLm hD (hcell 0 hs);exact .ptr vs hs (fun hm'=>hm'.elim hMb hne) hcell ih
 | agg hl hr ih=>exact .agg hl ih
 | tup hl hr ih=>exact .tup hl ih
 | fn hl hr ih=>exact .fn hl ih
 | iY=>exact .iY
 | mY=>exact .mY
 | pQ=>exact .pQ
 | adr b=>exact .adr b
theorem R.more {M:Nat->Prop} {w:World} {ι:Nat->Nat} {n:Nat} {D:Nat} {x:Option (List Deferred)} (hD:w.heap[D]?=some (Obj.deferred x)) {v:Value} {d:Go.Pd.D} (h:R M w ι n v d):R (fun b=>M b\/b=D) w ι n v d:=by
 induction h with
 | pure h=>exact .pure (h.more hD)
 | ref hk h0=>exact .ref hk h0
 | osl hk h1 h2 h3 h4=>exact .osl hk h1 h2 h3 h4
 | sub hk h1 h2 h3 h4=>exact .sub hk h1 h2 h3 h4
 | zJ hk=>exact .zJ hk
 | agg hl hr ih=>exact .agg hl ih
 | tup hl hr ih=>exact .tup hl ih
 | fn hl hr ih=>exact .fn hl ih
theorem aRt {M0:Nat->Prop} {ι:Nat->Nat} {σ:St} {D b:Nat} (h:Mof (fun b=>M0 b\/b=D) ι σ b):Mof M0 ι σ b\/b=D:=by
 rcases h with (h | h) | h
 ·exact .inl (.inl h)
 ·exact .inr h
 ·exact .inl (.inr h)
theorem R.bZh {M0:Nat->Prop} {w:World} {ι:Nat->Nat} {n:Nat} {σ:St} {D:Nat} {x:Option (List Deferred)} (hD:w.heap[D]?=some (Obj.deferred x)) {v:Value} {d:Go.Pd.D} (h:R (Mof M0 ι σ) w ι n v d):R (Mof (fun b=>M0 b\/b=D) ι σ) w ι n v d:=(h.more hD).zI (fun _ _ _=>rfl) (fun b _ hb=>aRt hb) (fun b cur e hc=>⟨cur,hc,rfl⟩) (fun _ _=>rfl) (Nat.le_refl _)
theorem vQ.more {M0:Nat->Prop} {w:World} {σ:St} {ι:Nat->Nat} {D:Nat} {x:Option (List Deferred)} (hS:vQ M0 w σ ι) (hD:w.heap[D]?=some (Obj.deferred x)) (ht:∀ p ∈ sC.kB,p.1≠D):vQ (fun b=>M0 b\/b=D) w σ ι:=
 ⟨fun b hb=>hb.elim (hS.old b) fun e=>by rw [e]; exact(Array.getElem?_eq_some_iff.1 hD).1,fun k o hk=>⟨(hS.holds k o hk).1,yT.imp (hS.holds k o hk).2 fun hr=>hr.bZh hD⟩,hS.inj,
  fun k o hk hb=>hb.elim (hS.notM k o hk) fun e=>hS.fU hD ⟨k,o,hk,e⟩,fun p hp=>let ⟨h1,h2,h3⟩:=hS.kB p hp; ⟨h1,fun hm=>(aRt hm).elim h2 (ht p hp),h3⟩⟩
theorem pY {w:World} {b:Nat} {o o':Obj} (h:w.heap[b]?=some o) (hn:∀ cur e,o≠Obj.cells cur e (0,0)):Kept w (w.putObj b o') fun x=>x=b:=by
 refine⟨rfl,rfl,rfl,by simp,fun x _ hx=>World.putObj_heap_other hx,fun x cur e hx=>⟨cur,?_,rfl⟩,Nat.le_refl _⟩
 have hne:x≠b:=fun e'=>by subst e';rw [h] at hx;exact hn cur e (Option.some.inj hx)
 rw [World.putObj_heap_other hne]; exact hx
theorem yN.shut {C:Cx} {E:Env} {a:Act} {w:World} {f:Fr} {σ:St} {ι:Nat->Nat} {D:Nat} {x y:Option (List Deferred)} (G:yN C E a w f σ ι) (ha:a.defers = []) (hD:w.heap[D]?=some (Obj.deferred x)) (hB:E.w0.heap.size<=D) (ht:∀ p ∈ sC.kB,p.1≠D) :
  yN C E a (w.putObj D (Obj.deferred y)) f σ ι:=by
 have hk:Kept w (w.putObj D (Obj.deferred y)) fun b=>b=D:=pY hD (fun _ _ e=>by cases e);have hS:=(G.sim.more hD ht).bTj hk fun b hb=>.inr hb;refine⟨G.size,.none ha (by rw [World.putObj_size]; exact G.defers.1),G.nx,G.kept.trans hk (fun _ _ h=>h) fun b hb e=>absurd hb (by omega),hS.less fun b hb=>.inl hb,G.old,G.nG,G.stay,fun t=>?_⟩;have h1:=(G.fr t).bZh (M0:=E.M0) hD;exact h1.zI (fun b hb hM=>hk.block b hb fun e=>hM (.inl (.inr e))) (fun b _ hb=>hb.imp .inl id) hk.shape (fun _ _=>rfl) (Nat.le_refl _)
theorem iJ {C:Cx} {E:Env} {fn:Func} {rs:List yR} {tmps:Array Value} {f:Fr} {σ:St} {ι:Nat->Nat} {K:D->Prop} {Rp:Ending->World->Prop} (hr:tD (aY5 C.P C.N) fn.results.toList=some rs) (hres:cL C rs f σ K) (hB:E.w0.heap.size<=E.B) (ht:∀ p ∈ sC.kB,p.1<E.w0.heap.size)
  (hfin:∀ w v d,yN C E { tmps:=tmps,defers:=[] } w f σ ι->(results fn tmps).run C.P w = .ok v w->K d->R (Mof E.M0 ι σ) w ι σ.nx v d->Rp (.returned v) w):∀ (l:List Nat) (w:World),l.Nodup->(∀ D ∈ l,w.heap[D]?=some (Obj.deferred (some []))/\ E.B<=D) ->
   yN C E { tmps:=tmps,defers:=[] } w f σ ι->LeavesInM Fence.wide 0 C.P fn tmps Rp (l.map fun D=>{ target:=.collected D,args:=#[] }) .returning w
 | [],w,_,_,G=>by obtain⟨v,d,h1,h2,h3⟩:=aPp hr G hres;exact⟨v,h1,hfin w v d G h1 h2 h3⟩
 | D :: l,w,hn,hl,G=>by obtain⟨hD,hDB⟩:=hl D (by simp);rw [List.nodup_cons] at hn;refine⟨by simp,.inl ⟨D,w.putObj D (Obj.deferred none),rfl,run_takeDeferred hD,iJ hr hres hB ht hfin l _ hn.2 (fun D' hD'=>?_) (G.shut rfl hD (by omega) fun p hp=>by have:=ht p hp; omega)⟩⟩;have:=hl D' (by simp [hD']);have hne:D'≠D:=fun e=>hn.1 (e ▸ hD');rw [World.putObj_heap_other hne];exact this
def iT (n0:Nat) (σ1:St) (d1:D) (σ':St) (d:D):Prop:=(d=d1/\σ'=σ1)\/∃ ρ:Nat->Nat,n0<=σ'.nx/\(∀ k,k<n0->ρ k=k)/\ vw σ1 σ' ρ d1 d/\stays σ1 σ' ρ/\uU σ' ρ
def aHg (C:Cx) (rs:List yR) (d:D) (σ':St) (e:Exit) (f:Fr) (σ1:St):Prop:=(e = .ret\/e = .normal)/\ cL C rs f σ1 fun d1=>iT C.n0 σ1 d1 σ' d
theorem xY.aAd {P:Program} {g:FuncId} {fn:Func} {code:Code} {dc:DC} {own:List Nat} {args:List D} {σ:St} {d:D} {σ':St} {rs:List yR} (hm:P.follows .mixedOrders=true) (hf:P.funcs[g]?=some fn) (hb:fn.body=some code)
  (hname:(fn.name == "runtime.NumGoroutine")= false) (hc:mkC P fn.ntmps own code=some dc) (hr:tD (aY5 P fn.ntmps) fn.results.toList=some rs) (hla:args.length<=fn.ntmps)
  (h:wpS ⟨P,fn.ntmps,σ.nx,own,none⟩ dc (cJ 0 args) σ (aHg ⟨P,fn.ntmps,σ.nx,own,none⟩ rs d σ')):xY P g args σ d σ':=by
 refine⟨⟨fn,hf,hname,by rw [hb]; rfl⟩,fun M0 w ι vals hS hl hv=>?_⟩
 let C:Cx:=⟨P,fn.ntmps,σ.nx,own,none⟩
 let E:Env:=⟨w,M0,Own ι σ,ι,w.heap.size⟩
 have G:yN C E { tmps:=vals++Array.replicate (fn.ntmps-vals.size) undef,defers:=[] } w (cJ 0 args) σ ι:=by
  refine⟨by show (vals++Array.replicate (fn.ntmps-vals.size) undef).size=fn.ntmps; simp; omega,.none rfl (Nat.le_refl _),Nat.le_refl _,Kept.refl _ _,hS,hS.old,fun k o hk=>.inr ⟨k,o,hk,rfl⟩,fun _ _=>rfl,fun t=>?_⟩;rw [aW9];simp only [Nat.zero_le,if_pos,Nat.sub_zero]
  by_cases ht:t<args.length
  ·have:=hv t ht
   have e:(vals++Array.replicate (fn.ntmps-vals.size) undef).getD t undef=vals.getD t undef:=by simp only [Array.getD_eq_getD_getElem?];rw [Array.getElem?_append_left (by omega)]
   rw [e]; exact this
  ·have:args.getD t .top = .top:=by simp [List.getD,List.getElem?_eq_none (Nat.le_of_not_lt ht)]
   rw [this];exact R.top _
 refine(callsIn_wide (n:=0)).1 (callsIn_of_wp_marks hf hb trivial (wpIn_mono (show code.wpIn Fence.wide 0 P _ _ _ from h code hc E _ w ⟨ι,G⟩) fun e a' w' hq=>?_));obtain⟨f',σ1,⟨ι1,G1⟩,he,hres⟩:=hq;obtain⟨hl0,l,hl1,hl2,hl3⟩:=G1.defers;have G2:yN C E { tmps:=a'.tmps,defers:=[] } w' f' σ1 ι1:=⟨G1.size,.none rfl hl0,G1.nx,G1.kept,G1.sim,G1.old,G1.nG,G1.stay,G1.fr⟩
 have key:LeavesInM Fence.wide 0 P fn a'.tmps (fun e w'=>∃ v ι',e=Ending.returned v/\Kept w w' (Own ι σ)/\ vQ M0 w' σ' ι'/\σ.nx<=σ'.nx/\(∀ k,k<σ.nx->ι' k=ι k)/\
   (∀ k o,σ'.get k=some o->w.heap.size<=ι' k\/Own ι σ (ι' k))/\ R (Mof M0 ι' σ') w' ι' σ'.nx v d) a'.defers .returning w':=by
  rw [hl1];refine iJ (C:=C) (E:=E) hr hres (Nat.le_refl _) (fun p hp=>(hS.kB p hp).1) (fun w1 v d1 G1 hrun hret hR=>?_) l w' hl2 hl3 G2
  rcases hret with ⟨rfl,rfl⟩ | ⟨ρ,r1,r2,r3,r4,r5⟩
  ·exact⟨v,ι1,rfl,G1.kept,G1.sim,G1.nx,fun k hk=>G1.stay k hk,G1.nG,hR⟩
  ·have hlive:∀ p ∈ σ'.xZ,∃ ob,σ1.get (ρ p.1)= some ob:=fun p hp=>by obtain⟨_,ob,h,_⟩:=r4 p hp;exact⟨ob,h⟩
   refine⟨v,fun k=>ι1 (ρ k),rfl,G1.kept,G1.sim.view r4 r5,r1,fun k hk=>?_,fun k o hk=>?_,oI G1.sim hlive _ _ hR r3⟩
   ·show ι1 (ρ k)= ι k;rw [r2 k hk]; exact G1.stay k hk
   ·obtain⟨ob,h⟩:=hlive _ (wX hk);exact G1.nG _ _ h
 rcases he with rfl | rfl
 ·exact key
 ·exact key
def St0 : St:=⟨0,[]⟩
def yB (P:Program) (g:FuncId) (args:List D) (d:D):Prop:=xY P g args St0 d St0
theorem R.zero {M:Nat->Prop} {w:World} {ι:Nat->Nat} {v:Value} {d:D} (h:R M w ι 0 v d):RP M w v d:=by
 induction h with
 | pure h=>exact h
 | ref hk=>omega
 | osl hk=>omega
 | sub hk=>omega
 | zJ hk=>omega
 | agg hl hr ih=>exact .agg hl ih
 | tup hl hr ih=>exact .tup hl ih
 | fn hl hr ih=>exact .fn hl ih
theorem aRe {args:List D} (h:D.xU args=true) (j:Nat):(args.getD j .top).xL=true:=wR h j
theorem xY.yM {P:Program} {g:FuncId} {args:List D} {d:D} {σ:St} (hc:yB P g args d) (hp:D.xU args=true):xY P g args σ d σ:=by
 refine⟨hc.ord,fun M0 w ι vals hS hl hv=>?_⟩;have S1:vQ (Mof M0 ι σ) w St0 ι:=⟨fun b hb=>Mof.lt hS hb,(fun k o hk=>by cases hk),(fun k k' o o' hk=>by cases hk),(fun k o hk=>by cases hk),hS.kB.zI (Nat.le_refl _) (fun _ _ _=>rfl) fun b _ hb=>hb.elim id fun⟨k,o,hk,_⟩=>by cases hk⟩
 have e1:∀ (ι':Nat->Nat) b,Mof (Mof M0 ι σ) ι' St0 b->Mof M0 ι σ b:=by
  intro ι' b hb
  rcases hb with hb | ⟨k,o,hk,_⟩
  ·exact hb
  ·cases hk
 refine(hc.run _ w ι vals S1 hl fun j hj=>.pure (((hv j hj).aNc (aRe hp j)).zI (fun _ _ _=>rfl) fun b _ hb=>e1 ι b hb)).mono fun e w' hh=>?_;obtain⟨v,ι',rfl,k1,k2,k3,k4,k5,k6⟩:=hh;have K0:Kept w w' fun _=>False:=k1.mono fun b _ ⟨k,o,hk,_⟩=>by cases hk
 exact⟨v,ι,rfl,K0.none _,hS.ext K0,Nat.le_refl _,fun _ _=>rfl,fun k o hk=>.inr ⟨k,o,hk,rfl⟩,.pure (k6.zero.zI (fun _ _ _=>rfl) fun b _ hb=>.inl hb)⟩
mutual
def D.flat : D->Bool
 | .int _ _ | .bool _ | .str _ | .und | .xO | .iY | .mY | .pQ | .top=>true
 | .agg cs | .tup cs=>D.aHe cs
 | _=>false
def D.aHe : List D->Bool
 | []=>true
 | d :: r=>d.flat&&D.aHe r
end
theorem RP.flat {M M':Nat->Prop} {w:World} {v:Value} {d:D} (h:RP M w v d) (hf:d.flat=true):RP M' w v d:=by
 have fl:∀ {cs:List D},D.aHe cs=true->∀ j,(cs.getD j .top).flat=true:=by
  intro cs
  induction cs with
  | nil=>intro _ j; simp [D.flat]
  | cons d r ih=>
   intro h j;simp only [D.aHe,Bool.and_eq_true] at h
   cases j with
   | zero=>simpa using h.1
   | succ j=>simpa using ih h.2 j
 induction h with
 | top v=>exact .top v
 | und=>exact .und
 | int h=>exact .int h
 | bool b=>exact .bool b
 | str h=>exact .str h
 | sl0=>simp [D.flat] at hf
 | emp=>simp [D.flat] at hf
 | sl=>simp [D.flat] at hf
 | xO=>exact .xO
 | ptr=>simp [D.flat] at hf
 | agg hl hr ih=>simp only [D.flat] at hf; exact .agg hl fun j hj=>ih j hj (fl hf j)
 | tup hl hr ih=>simp only [D.flat] at hf; exact .tup hl fun j hj=>ih j hj (fl hf j)
 | fn=>simp [D.flat] at hf
 | iY=>exact .iY
 | mY=>exact .mY
 | pQ=>exact .pQ
 | adr b=>simp [D.flat] at hf
theorem uA (l r:List (Nat × Ob)) (k:Nat):St.look (l++r) k=(St.look l k).or (St.look r k):=by
 induction l with
 | nil=>simp [St.look]
 | cons p l ih=>
  obtain⟨j,o⟩:=p;simp only [List.cons_append,St.look]
  split
  ·simp
  ·exact ih
mutual
def D.shift (c:Nat):D->D
 | .ref k sz i off=>.ref (c+k) sz i off
 | .osl k sz n=>.osl (c+k) sz n
 | .sub k sz lo n=>.sub (c+k) sz lo n
 | .zJ k=>.zJ (c+k)
 | .agg cs=>.agg (D.wV c cs)
 | .tup cs=>.tup (D.wV c cs)
 | .fn f cs=>.fn f (D.wV c cs)
 | d=>d
def D.wV (c:Nat):List D->List D
 | []=>[]
 | d :: r=>d.shift c :: D.wV c r
end
def Ob.shift (c:Nat) (o:Ob):Ob:=⟨o.sz,o.els.map (D.wV c)⟩
def yS (c:Nat):List (Nat × Ob)->List (Nat × Ob)
 | []=>[]
 | (k,o) :: r=>(c+k,o.shift c) :: yS c r
theorem vJ (c:Nat):∀ cs:List D,(D.wV c cs).length=cs.length
 | []=>rfl
 | d :: r=>by simp [D.wV,vJ c r]
theorem sY (c:Nat):∀ (cs:List D) (j:Nat),(D.wV c cs).getD j .top=(cs.getD j .top).shift c
 | [],j=>by simp [D.wV,D.shift]
 | d :: r,0=>by simp [D.wV]
 | d :: r,j+1=>by simpa [D.wV] using sY c r j
theorem bN (c:Nat) {d:D}:d.xL=true->d.shift c=d:=by
 refine D.rec (motive_1:=fun d=>d.xL=true->d.shift c=d) (motive_2:=fun _=>True) (motive_3:=fun cs=>D.xU cs=true->D.wV c cs=cs)
  ?top ?und ?int ?bool ?str ?sl ?xO ?emp ?agg ?tup ?fn ?ref ?osl ?sub ?ptr ?zJ ?iY ?mY ?pQ ?adr trivial (fun _ _ _ _=>trivial) ?nil ?cons d
 case agg=>intro cs ih h; simp only [D.xL] at h; simp only [D.shift,ih h]
 case tup=>intro cs ih h; simp only [D.xL] at h; simp only [D.shift,ih h]
 case fn=>intro f cs ih h; simp only [D.xL] at h; simp only [D.shift,ih h]
 case ref=>intro k sz i off h; simp [D.xL] at h
 case osl=>intro k sz n h; simp [D.xL] at h
 case sub=>intro k sz lo n h; simp [D.xL] at h
 case zJ=>intro k h; simp [D.xL] at h
 case nil=>intro _; rfl
 case cons=> intro d r h1 h2 h;simp only [D.xU,Bool.and_eq_true] at h;simp only [D.wV,h1 h.1,h2 h.2]
 all_goals intros; rfl
theorem dW (c:Nat):∀ {cs:List D},D.xU cs=true->D.wV c cs=cs
 | [],_=>rfl
 | d :: r,h=>by simp only [D.xU,Bool.and_eq_true] at h;simp only [D.wV,bN c h.1,dW c h.2]
theorem mL (c:Nat) {els:List (List D)} (h:∀ e ∈ els,D.xU e=true):els.map (D.wV c)= els:=by
 conv=>rhs; rw [<- List.map_id els]
 exact List.map_congr_left fun e he=>dW c (h e he)
theorem RP.xL {M:Nat->Prop} {w:World} {v:Value} {d:D} (h:RP M w v d):d.xL=true:=by
 have pl:∀ {cs:List D},(∀ j,j<cs.length->(cs.getD j .top).xL=true)->D.xU cs=true:=by
  intro cs
  induction cs with
  | nil=>intro _; rfl
  | cons d r ih=> intro h;simp only [D.xU,Bool.and_eq_true];exact⟨by simpa using h 0 (by simp),ih fun j hj=>by simpa using h (j+1) (by simpa using hj)⟩
 induction h with
 | agg hl hr ih=>exact pl ih
 | tup hl hr ih=>exact pl ih
 | fn hl hr ih=>exact pl ih
 | _=>rfl
theorem R.shift {M Mn:Nat->Prop} {w:World} {ι ιn:Nat->Nat} {c m:Nat} (hM:∀ b,Mn b->M b) (hi:∀ k,k<m->ιn (c+k)= ι k) {v:Value} {d:D} (h:R M w ι m v d):R Mn w ιn (c+m) v (d.shift c):=by
 induction h with
 | pure h=> rw [bN c h.xL];exact .pure (h.zI (fun _ _ _=>rfl) fun b _ hb=>hM b hb)
 | @ref key sz i off hk h0=>rw [<- hi _ hk]; exact .ref (ι:=ιn) (key:=c+key) (by omega) h0
 | @osl key sz len cap cur e hk h1 h2 h3 h4=> rw [<- hi _ hk] at h3 ⊢;exact .osl (ι:=ιn) (key:=c+key) (by omega) h1 h2 h3 h4
 | @sub key sz lo len cap off cur e hk h1 h2 h3 h4=> rw [<- hi _ hk] at h3 ⊢;exact .sub (ι:=ιn) (key:=c+key) (by omega) h1 h2 h3 h4
 | @zJ key hk=>rw [<- hi _ hk]; exact .zJ (ι:=ιn) (key:=c+key) (by omega)
 | agg hl hr ih=>exact .agg (by rw [hl,vJ]) fun j hj=>by rw [sY]; exact ih j (by rw [vJ] at hj; exact hj)
 | tup hl hr ih=>exact .tup (by rw [hl,vJ]) fun j hj=>by rw [sY]; exact ih j (by rw [vJ] at hj; exact hj)
 | fn hl hr ih=>exact .fn (by rw [hl,vJ]) fun j hj=>by rw [sY]; exact ih j (by rw [vJ] at hj; exact hj)
theorem nS (c:Nat):∀ (l:List (Nat × Ob)) (k:Nat) (o:Ob),St.look (yS c l) k=some o->∃ k0 o0,k=c+k0/\St.look l k0=some o0/\o=o0.shift c
 | [],k,o,h=>by cases h
 | (j,ob) :: r,k,o,h=>by
  simp only [yS,St.look] at h
  split at h
  ·rename_i e;simp at h; subst h; subst e;exact⟨j,ob,rfl,by simp [St.look],rfl⟩
  ·rename_i e;obtain⟨k0,o0,rfl,h2,h3⟩:=nS c r k o h;refine⟨k0,o0,rfl,?_,h3⟩;simp only [St.look];rw [if_neg (fun e'=>e (by rw [e']))];exact h2
theorem xY.own {P:Program} {g:FuncId} {args:List D} {d:D} {σ:St} {m:Nat} {xZ:List (Nat × Ob)} (hc:xY P g args St0 d ⟨m,xZ⟩) (hp:D.xU args=true):xY P g args σ (d.shift σ.nx) ⟨σ.nx+m,yS σ.nx xZ++σ.xZ⟩:=by
 refine⟨hc.ord,fun M0 w ι vals hS hl hv=>?_⟩;have S1:vQ (Mof M0 ι σ) w St0 ι:=⟨fun b hb=>Mof.lt hS hb,(fun k o hk=>by cases hk),(fun k k' o o' hk=>by cases hk),(fun k o hk=>by cases hk),hS.kB.zI (Nat.le_refl _) (fun _ _ _=>rfl) fun b _ hb=>hb.elim id fun⟨k,o,hk,_⟩=>by cases hk⟩
 have e1:∀ b,Mof (Mof M0 ι σ) ι St0 b->Mof M0 ι σ b:=by
  intro b hb
  rcases hb with hb | ⟨k,o,hk,_⟩
  ·exact hb
  ·cases hk
 refine(hc.run _ w ι vals S1 hl fun j hj=>.pure (((hv j hj).aNc (aRe hp j)).zI (fun _ _ _=>rfl) fun b _ hb=>e1 b hb)).mono fun e w' hh=>?_;obtain⟨v,ι',rfl,k1,k2,k3,k4,k5,k6⟩:=hh;have K0:Kept w w' fun _=>False:=k1.mono fun b _ ⟨k,o,hk,_⟩=>by cases hk
 let ιn:Nat->Nat:=fun k=>if k<σ.nx then ι k else ι' (k-σ.nx)
 have n1:∀ k,k<σ.nx->ιn k=ι k:=fun k hk=>by simp only [ιn,if_pos hk]
 have n2:∀ k,ιn (σ.nx+k)= ι' k:=fun k=>by simp only [ιn,if_neg (show ¬ (σ.nx+k<σ.nx) by omega)];congr 1; omega
 have lk:∀ k o,St.get ⟨σ.nx+m,yS σ.nx xZ++σ.xZ⟩ k=some o->(∃ k0 o0,k=σ.nx+k0/\St.get ⟨m,xZ⟩ k0=some o0/\o=o0.shift σ.nx)\/(k<σ.nx/\σ.get k=some o):=by
  intro k o hk;unfold St.get at hk;simp only at hk;rw [uA] at hk
  cases h1:St.look (yS σ.nx xZ) k with
  | some o1=> rw [h1] at hk;simp at hk; subst hk;exact .inl (nS _ _ _ _ h1)
  | none=> rw [h1] at hk;simp at hk;exact .inr ⟨(hS.holds k o hk).1,hk⟩
 have fresh:∀ k o,St.get ⟨m,xZ⟩ k=some o->w.heap.size<=ι' k:=by
  intro k o hk
  rcases k5 _ _ hk with h | ⟨k0,o0,hk0,_⟩
  ·exact h
  ·cases hk0
 have mm:∀ b,b<w.heap.size->Mof M0 ιn ⟨σ.nx+m,yS σ.nx xZ++σ.xZ⟩ b->Mof M0 ι σ b:=by
  intro b hb hm
  rcases hm with hm | ⟨k,o,hk,rfl⟩
  ·exact .inl hm
  ·rcases lk k o hk with ⟨k0,o0,rfl,h2,_⟩ | ⟨h1,h2⟩
   ·have:=fresh k0 o0 h2;rw [n2] at hb;omega
   ·exact .inr ⟨k,o,h2,(n1 k h1).symm⟩
 have mv:∀ b,Mof M0 ιn ⟨σ.nx+m,yS σ.nx xZ++σ.xZ⟩ b->Mof (Mof M0 ι σ) ι' ⟨m,xZ⟩ b:=by
  intro b hm
  rcases hm with hm | ⟨k,o,hk,rfl⟩
  ·exact .inl (.inl hm)
  ·rcases lk k o hk with ⟨k0,o0,rfl,h2,_⟩ | ⟨h1,h2⟩
   ·exact .inr ⟨k0,o0,h2,(n2 k0).symm⟩
   ·exact .inl (.inr ⟨k,o,h2,(n1 k h1).symm⟩)
 refine⟨v,ιn,rfl,K0.none _,⟨fun b hb=>Nat.lt_of_lt_of_le (hS.old b hb) K0.size,fun k o hk=>?_,fun k k' o o' hk hk' e=>?_,fun k o hk hm=>?_,k2.kB.zI (Nat.le_refl _) (fun _ _ _=>rfl) fun b _ hb=>mv b hb⟩,Nat.le_add_right _ _,n1,fun k o hk=>?_,R.shift mv (fun k _=>n2 k) k6⟩
 ·rcases lk k o hk with ⟨k0,o0,rfl,h2,rfl⟩ | ⟨h1,h2⟩
  ·obtain⟨g1,g2⟩:=k2.holds k0 o0 h2;have glt:k0<m:=g1;rcases g2 with ⟨s0,cur,e,c1,c2,c3,c4⟩ | ⟨s0,es,c1,c2,c3⟩
   case inr=>
    refine⟨by show σ.nx+k0<σ.nx+m; omega,.inr ⟨s0,es,by rw [n2]; exact c1,by simpa [Ob.shift] using c2,fun i hi=>?_⟩⟩;simp only [Ob.shift,List.length_map] at hi ⊢;obtain⟨kk,v,x,d,r1,r2,r3,r4⟩:=c3 i hi;refine⟨kk,v,x.shift σ.nx,d.shift σ.nx,?_,r2,R.shift mv (fun k _=>n2 k) r3,R.shift mv (fun k _=>n2 k) r4⟩;have:(o0.els.map (D.wV σ.nx)).getD i []=D.wV σ.nx (o0.els.getD i []):=by simp [List.getD,hi]
    rw [this,r1]; rfl
   refine⟨by show σ.nx+k0<σ.nx+m; omega,.inl ⟨s0,cur,e,by rw [n2]; exact c1,fun el he=>?_,by simpa [Ob.shift] using c3,fun i hi j hj=>?_⟩⟩
   ·simp only [Ob.shift,List.mem_map] at he ⊢;obtain⟨el',h3,rfl⟩:=he;rw [vJ]; exact c2 _ h3
   ·simp only [Ob.shift,List.length_map] at hi hj ⊢;have h3:=c4 i hi j hj
    have e2:((o0.els.map (D.wV σ.nx)).getD i []).getD j .top=((o0.els.getD i []).getD j .top).shift σ.nx:=by
     have:(o0.els.map (D.wV σ.nx)).getD i []=D.wV σ.nx (o0.els.getD i []):=by simp [List.getD,hi]
     rw [this,sY]
    rw [e2];exact⟨h3.1,R.shift mv (fun k _=>n2 k) h3.2⟩
  ·obtain⟨g1,g2⟩:=hS.holds k o h2;exact⟨by show k<σ.nx+m; omega,g2.zI (K0.block _ (Own.lt hS ⟨k,o,h2,rfl⟩) id) (n1 k h1) (fun b hb _=>K0.block b hb id) (fun b hb hm=>mm b hb hm) K0.shape n1 (Nat.le_add_right _ _)⟩
 ·rcases lk k o hk with ⟨k0,o0,rfl,h2,rfl⟩ | ⟨h1,h2⟩ <;> rcases lk k' o' hk' with ⟨k0',o0',rfl,h2',rfl⟩ | ⟨h1',h2'⟩
  ·rw [n2,n2] at e;rw [k2.inj _ _ _ _ h2 h2' e]
  ·rw [n2,n1 k' h1'] at e;have:=fresh _ _ h2;have:=Own.lt hS ⟨k',o',h2',rfl⟩;omega
  ·rw [n1 k h1,n2] at e;have:=fresh _ _ h2';have:=Own.lt hS ⟨k,o,h2,rfl⟩;omega
  ·rw [n1 k h1,n1 k' h1'] at e;exact hS.inj _ _ _ _ h2 h2' e
 ·rcases lk k o hk with ⟨k0,o0,rfl,h2,rfl⟩ | ⟨h1,h2⟩
  ·rw [n2] at hm;have:=fresh _ _ h2;have:=hS.old _ hm;omega
  ·rw [n1 k h1] at hm;exact hS.notM k o h2 hm
 ·rcases lk k o hk with ⟨k0,o0,rfl,h2,rfl⟩ | ⟨h1,h2⟩
  ·rw [n2]; exact .inl (fresh _ _ h2)
  ·rw [n1 k h1]; exact .inr ⟨k,o,h2,rfl⟩
end Go.Pd
namespace Go.Pd
open Go
variable [sC]
mutual
def D.fact : D->Prop
 | .int k n=>k.min<=n/\n<=k.max
 | .sl _ els=>els.length<=9223372036854775807/\D.aHf els
 | .agg cs | .tup cs | .fn _ cs | .ptr cs=>D.rG cs
 | _=>True
def D.rG : List D->Prop
 | []=>True
 | d :: r=>d.fact/\D.rG r
def D.aHf : List (List D)->Prop
 | []=>True
 | e :: r=>D.rG e/\D.aHf r
end
theorem tV : ∀ {cs:List D},(∀ j,j<cs.length->(cs.getD j .top).fact)->D.rG cs
 | [],_=>trivial
 | d :: r,h=>⟨by simpa using h 0 (by simp),tV fun j hj=>by simpa using h (j+1) (by simpa using hj)⟩
theorem aQb : ∀ {es:List (List D)},(∀ i,i<es.length->D.rG (es.getD i []))->D.aHf es
 | [],_=>trivial
 | e :: r,h=>⟨by simpa using h 0 (by simp),aQb fun j hj=>by simpa using h (j+1) (by simpa using hj)⟩
theorem RP.fact {M:Nat->Prop} {w:World} {v:Value} {d:D} (h:RP M w v d):d.fact:=by
 induction h with
 | int h=>exact h
 | sl0=>exact⟨by simp,trivial⟩
 | @sl b off cap sz els vs hs hM hc hm hl hcell hr ih=>
  refine⟨by simp only [maxLen] at hm; omega,aQb fun i hi=>tV fun j hj=>?_⟩;have hmem:els.getD i [] ∈ els:=by simp [List.getD,hi]
  exact ih i hi j (by rw [<- hl _ hmem]; exact hj)
 | ptr vs hs hM hc hr ih=>exact tV ih
 | agg hl hr ih=>exact tV ih
 | tup hl hr ih=>exact tV ih
 | fn hl hr ih=>exact tV ih
 | _=>trivial
theorem R.fact {M:Nat->Prop} {w:World} {ι:Nat->Nat} {n:Nat} {v:Value} {d:D} (h:R M w ι n v d):d.fact:=by
 induction h with
 | pure h=>exact h.fact
 | agg hl hr ih=>exact tV ih
 | tup hl hr ih=>exact tV ih
 | fn hl hr ih=>exact tV ih
 | _=>trivial
theorem xY.facts {P:Program} {g:FuncId} {args:List D} {σ σ':St} {d:D} (ho:tU P g) (h:D.rG args->xY P g args σ d σ'):xY P g args σ d σ':=by refine⟨ho,fun M0 w ι vals hS hl hv=>?_⟩;exact(h (tV fun j hj=>(hv j hj).fact)).run M0 w ι vals hS hl hv
def xT (P:Program) (own:List Nat) (fn:Func):Option (Nat × DC × List yR):=
 match fn.body with
 | none=>none
 | some c=>
  if fn.name == "runtime.NumGoroutine" then none else
  match mkC P fn.ntmps own c,tD (aY5 P fn.ntmps) fn.results.toList with
  | some dc,some rs=>some (fn.ntmps,dc,rs)
  | _,_=>none
theorem xY.bUq {P:Program} {g:FuncId} {fn:Func} {own:List Nat} {N:Nat} {dc:DC} {rs:List yR} {args:List D} {σ:St} {d:D} {σ':St} (hm:P.follows .mixedOrders=true) (hf:P.funcs[g]?=some fn)
  (hc:xT P own fn=some (N,dc,rs)) (hla:args.length<=N)
  (h:D.rG args->wpD ⟨P,N,σ.nx,own,none⟩ dc (cJ 0 args) σ (aHg ⟨P,N,σ.nx,own,none⟩ rs d σ')):xY P g args σ d σ':=by
 unfold xT at hc
 split at hc
 ·cases hc
 ·rename_i c hb
  split at hc
  ·cases hc
  ·rename_i hname
   split at hc
   ·rename_i dc' rs' h1 h2;simp at hc;obtain⟨rfl,rfl,rfl⟩:=hc;refine xY.facts ⟨fn,hf,by simpa using hname,by rw [hb]; rfl⟩ fun hfa=>?_;exact xY.aAd hm hf hb (by simpa using hname) h1 h2 hla (aDr (C:=⟨P,fn.ntmps,σ.nx,own,none⟩) hm (h hfa))
   ·cases hc
omit [sC]
def rows (k:IntKind) (l:List Int):List (List D):=l.map fun n=>[.int k n]
theorem yW (k:IntKind) (l:List Int):(rows k l).length=l.length:=by simp [rows]
theorem yX (k:IntKind) (l:List Int) {i:Nat} (h:i<l.length):(rows k l).getD i [] = [.int k (l.getD i 0)]:=by simp [rows,List.getD,h]
theorem uG (k:IntKind) (l:List Int):∀ e ∈ rows k l,D.xU e=true:=by intro e he;simp only [rows,List.mem_map] at he;obtain⟨n,_,rfl⟩:=he;rfl
theorem aKm (k:IntKind) (l:List Int):∀ e ∈ rows k l,wK e=true:=by intro e he;simp only [rows,List.mem_map] at he;obtain⟨n,_,rfl⟩:=he;rfl
theorem aZ2 (k:IntKind) (l:List Int) (n:Nat):(rows k l).take n=rows k (l.take n):=by simp [rows,List.map_take]
theorem wrap_i64 {x:Int} (h:-9223372036854775808<=x/\x<=9223372036854775807):IntKind.i64.wrap x=x:=by simp [IntKind.wrap,IntKind.signed,IntKind.bits];split <;> omega
theorem wrap_u64 {x:Int} (h:0<=x/\x<18446744073709551616):IntKind.u64.wrap x=x:=by simp [IntKind.wrap,IntKind.signed,IntKind.bits];omega
end Go.Pd
