/- Part X5. -/
import Derived.Test.YtjmfdgonjighpaaZqX4
import Derived.KernelRfl
import Derived.RangeFuncLeaves
import Derived.RangeFuncRecord
set_option linter.unusedSectionVars false
set_option linter.unusedVariables false
set_option linter.unusedSimpArgs false
set_option linter.defProp false
open List renaming getElem?_take->γ,getElem?_eq_none->δ,length_take->ε,getElem_mem->ζ,getElem?_append_right->η,getElem?_append_left->θ,mem_map->κ,getElem?_map->μ
open Nat renaming le_refl->ν,zero_add->ξ
open Bool renaming and_eq_true->ο
open Option renaming map_eq_some_iff->π
namespace Go.Pd
open Go
variable [vA]
mutual
def vw (σ σ':St) (ρ:Nat->Nat):D->D->Prop
 | _,.top=>True
 | d,.ref k sz i off=>k<σ'.nx/\d = .ref (ρ k) sz i off
 | d,.wZ k sz n=>k<σ'.nx/\d = .wZ (ρ k) sz n
 | d,.sub k sz lo n=>k<σ'.nx/\d = .sub (ρ k) sz lo n
 | d,.yV k=>k<σ'.nx/\d = .yV (ρ k)
 | d,.agg cs=>match d with
  | .agg ds=>ds.length=cs.length/\sV σ σ' ρ ds cs
  | _=>False
 | d,.yD cs=>match d with
  | .yD ds=>ds.length=cs.length/\sV σ σ' ρ ds cs
  | _=>False
 | d,.fn f cs=>match d with
  | .fn f' ds=>f'=f/\ds.length=cs.length/\sV σ σ' ρ ds cs
  | _=>False
 | d,.sl sz xZ=>match d with
  | .sl sz' els'=>sz'=sz/\els'=xZ
  | .xI=>xZ = []
  | .emp=>xZ = []
  | .wZ k0 sz' n=>sz'=sz/\0<sz/\(∀ p ∈ σ'.xX,ρ p.1≠k0)/\ ∃ ob,σ.get k0=some ob/\ob.sz=sz/\n<=ob.xZ.length/\xZ=ob.xZ.take n/\∀ e ∈ xZ,D.xT e=true
  | _=>False
 | d,.ptr cs=>d = .ptr cs\/∃ k0 ob,d = .ref k0 cs.length 0 0/\(∀ p ∈ σ'.xX,ρ p.1≠k0)/\ σ.get k0=some ob/\ob.sz=cs.length/\ob.xZ = [cs]/\D.xT cs=true
 | d,d'=>d=d'
def sV (σ σ':St) (ρ:Nat->Nat):List D->List D->Prop
 | _,[]=>True
 | d :: ds,c :: cs=>vw σ σ' ρ d c/\sV σ σ' ρ ds cs
 | [],_ :: _=>False
end
inductive WC (σ σ' : St) (ρ : Nat -> Nat) : List (List D) -> List (List D) -> Prop
 | same {xZ} (h:∀ e ∈ xZ,D.xT e=true):WC σ σ' ρ xZ xZ
 | nil:WC σ σ' ρ [] []
 | cons {a b as bs} (hl:a.length=b.length) (h:sV σ σ' ρ a b) (t:WC σ σ' ρ as bs):WC σ σ' ρ (a :: as) (b :: bs)
theorem vU {l:List (Nat × Ob)} {k:Nat} {o:Ob} (h:St.look l k=some o):(k,o)∈ l:=by
 induction l with
 | nil=>simp [St.look] at h
 | cons p l ih=>
  obtain⟨j,ob⟩:=p;simp only [St.look] at h
  split at h
  ·rename_i e; simp at h; subst e; subst h; simp
  ·exact List.mem_cons_of_mem _ (ih h)
section
variable {M0 : Nat -> Prop} {w : World} {σ σ' : St} {ι : Nat -> Nat} {ρ : Nat -> Nat}
theorem lJ (hS:zI M0 w σ ι) (hlive:∀ p ∈ σ'.xX,∃ ob,σ.get (ρ p.1)= some ob) {d':D} :
  (∀ (v:Value) (d:D),R (yO M0 ι σ) w ι σ.nx v d->vw σ σ' ρ d d'->R (yO M0 (λk=>ι (ρ k)) σ') w (λk=>ι (ρ k)) σ'.nx v d'):=by
 have hM:∀ b,yO M0 (λk=>ι (ρ k)) σ' b->yO M0 ι σ b:=by
  intro b hb
  rcases hb with hb | ⟨k,o,hk,rfl⟩
  ·exact .inl hb
  ·obtain⟨ob,hob⟩:=hlive _ (vU hk);exact .inr ⟨ρ k,ob,hob,rfl⟩
 have hRP:∀ {v:Value} {d:D},RP (yO M0 ι σ) w v d->RP (yO M0 (λk=>ι (ρ k)) σ') w v d:=λh=>h.xC (λ_ _ _=>rfl) λb _ hb=>hM b hb;have leaf:∀ (v:Value) (d:D),R (yO M0 ι σ) w ι σ.nx v d->d.xO=true->R (yO M0 (λk=>ι (ρ k)) σ') w (λk=>ι (ρ k)) σ'.nx v d:=λv d h hp=>.pure (hRP (h.yq hp))
 refine D.rec (motive_1:=λd'=>∀ (v:Value) (d:D),R (yO M0 ι σ) w ι σ.nx v d->vw σ σ' ρ d d'->R (yO M0 (λk=>ι (ρ k)) σ') w (λk=>ι (ρ k)) σ'.nx v d')
  (motive_2:=λ_=>True)
  (motive_3:=λcs=>∀ (ds:List D) (vs:Nat->Value),ds.length=cs.length->(∀ j,j<ds.length->R (yO M0 ι σ) w ι σ.nx (vs j) (ds.getD j .top))->sV σ σ' ρ ds cs->∀ j,j<cs.length->R (yO M0 (λk=>ι (ρ k)) σ') w (λk=>ι (ρ k)) σ'.nx (vs j) (cs.getD j .top))
  ?top ?uO ?int ?bool ?str ?sl ?xI ?emp ?agg ?yD ?fn ?ref ?wZ ?sub ?ptr ?yV ?pA ?sP ?pN ?zo trivial (λ_ _ _ _=>trivial) ?nil ?cons d'
 case top=>intro v d _ _; exact R.top v
 case uO=>intro v d h hv; simp only [vw] at hv; subst hv; exact leaf v _ h rfl
 case int=>intro k n v d h hv; simp only [vw] at hv; subst hv; exact leaf v _ h rfl
 case bool=>intro b v d h hv; simp only [vw] at hv; subst hv; exact leaf v _ h rfl
 case str=>intro s v d h hv; simp only [vw] at hv; subst hv; exact leaf v _ h rfl
 case xI=>intro v d h hv; simp only [vw] at hv; subst hv; exact leaf v _ h rfl
 case emp=>intro v d h hv; simp only [vw] at hv; subst hv; exact leaf v _ h rfl
 case ptr=>
  intro cs _ v d h hv;simp only [vw] at hv
  rcases hv with rfl | ⟨k0,ob,rfl,h1,h2,h3,h4,h5⟩
  ·exact leaf v _ h rfl
  ·obtain⟨rfl,_,h0⟩:=h.uV;obtain⟨cur,e,c1,c2,c3,c4⟩:=yZ.cells (hS.holds k0 ob h2).2 (by omega);rw [h4] at c3 c4;rw [h3] at c3 c4;simp only [List.length_singleton,Nat.one_mul] at c3;rw [show 0*cs.length+0=0 by omega]
   refine .pure (.ptr (λj=>cur.getD j undef) h0 (λhm=>?_) (λj hj=>?_) λj hj=>?_)
   ·rcases hm with hm | ⟨k,o,hk,he⟩
    ·exact hS.notM k0 ob h2 hm
    ·obtain⟨ob',hob'⟩:=hlive _ (vU hk);exact h1 _ (vU hk) (hS.inj _ _ _ _ hob' h2 he)
   ·rw [ξ,cell_of_row _ _ _ _ _ _ c1];simp [show j<cur.size by omega]
   ·have:=(c4 0 (by simp) j hj).2;simp only [Nat.zero_mul,ξ,List.getD_cons_zero] at this;exact hRP (this.yq (uS h5 j))
 case pA=>intro v d h hv; simp only [vw] at hv; subst hv; exact leaf v _ h rfl
 case sP=>intro v d h hv; simp only [vw] at hv; subst hv; exact leaf v _ h rfl
 case pN=>intro v d h hv; simp only [vw] at hv; subst hv; exact leaf v _ h rfl
 case zo=>intro b v d h hv; simp only [vw] at hv; subst hv; exact leaf v _ h rfl
 case ref=> intro k sz i off v d h hv;simp only [vw] at hv;obtain⟨h1,rfl⟩:=hv;obtain⟨rfl,_,h0⟩:=h.uV;exact R.ref (ι:=λk=>ι (ρ k)) h1 h0
 case wZ=> intro k sz n v d h hv;simp only [vw] at hv;obtain⟨h1,rfl⟩:=hv;obtain⟨cap,cur,e,rfl,k1,k2,k3,k4,k5⟩:=h.tE;exact R.wZ (ι:=λk=>ι (ρ k)) h1 k2 k3 k4 k5
 case sub=> intro k sz lo n v d h hv;simp only [vw] at hv;obtain⟨h1,rfl⟩:=hv;obtain⟨cap,off,cur,e,rfl,k1,k2,k3,k4,k5⟩:=h.mU;exact R.sub (ι:=λk=>ι (ρ k)) h1 k2 k3 k4 k5
 case yV=>
  intro k v d h hv;simp only [vw] at hv;obtain⟨h1,rfl⟩:=hv
  cases h with
  | pure h=>cases h
  | yV _=>exact R.yV (ι:=λk=>ι (ρ k)) h1
 case agg=>
  intro cs ih v d h hv;cases d <;> (try (simp [vw] at hv; done))
  rename_i ds;simp only [vw] at hv;obtain⟨vs,rfl,h1,h2⟩:=h.cU;refine .agg (by omega) λj hj=>?_;exact ih ds (λj=>vs.getD j undef) hv.1 (λj hj=>h2 j hj) hv.2 j hj
 case yD=>
  intro cs ih v d h hv;cases d <;> (try (simp [vw] at hv; done))
  rename_i ds;simp only [vw] at hv;obtain⟨vs,rfl,h1,h2⟩:=h.jn;refine .yD (by omega) λj hj=>?_;exact ih ds (λj=>vs.getD j undef) hv.1 (λj hj=>h2 j hj) hv.2 j hj
 case fn=>
  intro f cs ih v d h hv;cases d <;> (try (simp [vw] at hv; done))
  rename_i f' ds;simp only [vw] at hv;obtain⟨rfl,h3,h4⟩:=hv;obtain⟨vs,rfl,h1,h2⟩:=h.kM;refine .fn (by omega) λj hj=>?_;exact ih ds (λj=>vs.getD j undef) h3 (λj hj=>h2 j hj) h4 j hj
 case sl=>
  intro sz xZ _ v d h hv
  cases d <;> (try (simp [vw] at hv; done))
  ·simp only [vw] at hv;obtain⟨rfl,rfl⟩:=hv;exact leaf v _ h rfl
  ·simp only [vw] at hv;subst hv;have:=h.uA;subst this;exact .pure (.fw _ _ _ (by simp))
  ·simp only [vw] at hv;subst hv;obtain⟨ad,cap,rfl⟩:=h.gK;exact .pure (.fw _ _ _ (by simp))
  ·rename_i k0 sz' n;simp only [vw] at hv;obtain⟨rfl,h0,h1,ob,h2,h3,h4,h5,h6⟩:=hv;obtain⟨cap,cur,e,rfl,k1,k2,k3,k4,k5⟩:=h.tE;obtain⟨_,cur',e',c1,c2,c3,c4⟩:=yZ.rows (hS.holds k0 ob h2).2 k4;rw [k4] at c1;simp at c1;obtain⟨rfl,rfl⟩:=c1;have hlen:xZ.length=n:=by rw [h5]; simp; omega
   rw [<- hlen]
   have hget:∀ i,i<n->xZ.getD i []=ob.xZ.getD i []:=by intro i hi;rw [h5];simp [List.getD,γ,hi]
   refine .pure (.sl (λi j=>cur.getD (i*sz'+j) undef) h0 (λhm=>?_) (by omega) k3 (λel he=>?_) (λi hi j hj=>?_) (λi hi j hj=>?_))
   ·rcases hm with hm | ⟨k,o,hk,he⟩
    ·exact hS.notM k0 ob h2 hm
    ·obtain⟨ob',hob'⟩:=hlive _ (vU hk);exact h1 _ (vU hk) (hS.inj _ _ _ _ hob' h2 he)
   ·rw [h5] at he;rw [<- h3];exact c2 el (List.mem_of_mem_take he)
   ·have:i*sz'+j<cur.size:=by have:=nT (m:=ob.xZ.length) (i:=i) (j:=j) (sz:=sz') (by omega) hj;rw [h3] at c3;omega
    rw [ξ,cell_of_row _ _ _ _ _ _ k4];simp [this]
   ·have:=(c4 i (by omega) j (by rw [h3]; exact hj)).2;rw [h3] at this;rw [hget i (by omega)];refine hRP (this.yq ?_);rw [<- hget i (by omega)]
    have hmem:xZ.getD i [] ∈ xZ:=by
     have:i<xZ.length:=by omega
     simp [List.getD,this]
    exact uS (h6 _ hmem) j
 case nil=>intro ds vs _ _ _ j hj; simp at hj
 case cons=>
  intro c cs ih1 ih2 ds vs hl hr hv j hj
  cases ds with
  | nil=>simp at hl
  | cons d ds=>
   simp only [sV] at hv
   cases j with
   | zero=>exact ih1 _ _ (by simpa using hr 0 (by simp)) hv.1
   | succ j=> have:=ih2 ds (λj=>vs (j+1)) (by simpa using hl) (λj hj=>by simpa using hr (j+1) (by simpa using hj)) hv.2 j (by simpa using hj);simpa using this
def stays (σ σ':St) (ρ:Nat->Nat):Prop:=∀ p ∈ σ'.xX,p.1<σ'.nx/\∃ ob,σ.get (ρ p.1)= some ob/\ob.sz=p.2.sz/\WC σ σ' ρ ob.xZ p.2.xZ
def wQ (σ':St) (ρ:Nat->Nat):Prop:=∀ p ∈ σ'.xX,∀ q ∈ σ'.xX,ρ p.1=ρ q.1->p.1=q.1
theorem ye : ∀ {as bs:List (List D)},WC σ σ' ρ as bs->as.length=bs.length/\∀ i,i<bs.length->((as.getD i []).length=(bs.getD i []).length/\(sV σ σ' ρ (as.getD i []) (bs.getD i [])\/(as.getD i []=bs.getD i []/\D.xT (bs.getD i [])= true)))
 | _,_,.same h=>⟨rfl,λi hi=>⟨rfl,.inr ⟨rfl,h _ (by simp [List.getD,hi])⟩⟩⟩
 | _,_,.nil=>⟨rfl,λi hi=>by simp at hi⟩
 | _,_,.cons hl h t=>by
  obtain⟨h1,h2⟩:=ye t;refine⟨by simp [h1],λi hi=>?_⟩
  cases i with
  | zero=>exact⟨by simpa using hl,.inl (by simpa using h)⟩
  | succ i=>simpa using h2 i (by simpa using hi)
theorem zI.view (hS:zI M0 w σ ι) (hst:stays σ σ' ρ) (hap:wQ σ' ρ):zI M0 w σ' (λk=>ι (ρ k)):=by
 have hlive:∀ p ∈ σ'.xX,∃ ob,σ.get (ρ p.1)= some ob:=λp hp=>by obtain⟨_,ob,h,_⟩:=hst p hp;exact⟨ob,h⟩
 have hM0:∀ b,yO M0 (λk=>ι (ρ k)) σ' b->yO M0 ι σ b:=by
  intro b hb
  rcases hb with hb | ⟨k,o,hk,rfl⟩
  ·exact .inl hb
  ·obtain⟨ob,hob⟩:=hlive _ (vU hk);exact .inr ⟨ρ k,ob,hob,rfl⟩
 refine⟨hS.oS,λk o hk=>?_,λk k' o o' hk hk' e=>?_,λk o hk=>?_,hS.sR.xC (ν _) (λ_ _ _=>rfl) λb _ hb=>hM0 b hb⟩
 ·obtain⟨h1,ob,h2,h3,h4⟩:=hst _ (vU hk);refine⟨h1,?_⟩;obtain⟨g1,g2⟩:=ye h4;simp only at h3 g1 g2;rcases(hS.holds _ _ h2).2 with ⟨s0,cur,e,c1,c2,c3,c4⟩ | ⟨s0,es,c1,c2,c3⟩
  case inr=>
   refine .inr ⟨by rw [<- h3]; exact s0,es,c1,by rw [c2,g1],λi hi=>?_⟩;obtain⟨kk,v,x,d,r1,r2,r3,r4⟩:=c3 i (by omega);obtain⟨e1,e2⟩:=g2 i hi;rw [r1] at e1 e2
   rcases e2 with e2 | ⟨e2,e3⟩
   ·generalize hrow:o.xZ.getD i []=row at e1 e2
    match row,e1 with
    | [x',d'],_=> simp only [sV] at e2;exact⟨kk,v,x',d',rfl,r2,lJ hS hlive _ _ r3 e2.1,lJ hS hlive _ _ r4 e2.2.1⟩
   ·rw [<- e2] at e3;simp only [D.xT,ο] at e3;exact⟨kk,v,x,d,e2.symm,r2,.pure ((r3.yq e3.1).xC (λ_ _ _=>rfl) λb _ hb=>hM0 b hb),.pure ((r4.yq e3.2.1).xC (λ_ _ _=>rfl) λb _ hb=>hM0 b hb)⟩
  refine .inl ⟨by rw [<- h3]; exact s0,cur,e,c1,λel he=>?_,by rw [<- g1,<- h3]; exact c3,λi hi j hj=>?_⟩
  ·obtain⟨i,hi,rfl⟩:=List.getElem_of_mem he;have e1:=(g2 i hi).1;have e2:o.xZ.getD i []=o.xZ[i]:=by simp [List.getD,hi]
   have hi':i<ob.xZ.length:=by omega
   have e3:ob.xZ.getD i []=ob.xZ[i]:=by simp [List.getD,hi']
   rw [e2,e3] at e1;rw [<- e1,<- h3];exact c2 _ (ζ hi')
  ·rw [<- h3] at hj ⊢;have hc:=c4 i (by omega) j hj;refine⟨hc.1,?_⟩;have hi':i<ob.xZ.length:=by omega
   have hlen:(ob.xZ.getD i []).length=ob.sz:=by
    have e3:ob.xZ.getD i []=ob.xZ[i]:=by simp [List.getD,hi']
    rw [e3]; exact c2 _ (ζ hi')
   obtain⟨e1,e2⟩:=g2 i hi
   rcases e2 with e2 | ⟨e2,e3⟩
   ·have:∀ (cs ds:List D),ds.length=cs.length->sV σ σ' ρ ds cs->∀ j,j<cs.length->vw σ σ' ρ (ds.getD j .top) (cs.getD j .top):=by
     intro cs
     induction cs with
     | nil=>intro ds _ _ j hj; simp at hj
     | cons c cs ih=>
      intro ds hl hv j hj
      cases ds with
      | nil=>simp at hl
      | cons d ds=>
       simp only [sV] at hv
       cases j with
       | zero=>simpa using hv.1
       | succ j=>simpa using ih ds (by simpa using hl) hv.2 j (by simpa using hj)
    exact lJ hS hlive _ _ hc.2 (this _ _ e1 e2 j (by omega))
   ·rw [e2] at hc
    have hM:∀ b,yO M0 (λk=>ι (ρ k)) σ' b->yO M0 ι σ b:=by
     intro b hb
     rcases hb with hb | ⟨k,o,hk,rfl⟩
     ·exact .inl hb
     ·obtain⟨ob,hob⟩:=hlive _ (vU hk);exact .inr ⟨ρ k,ob,hob,rfl⟩
    exact .pure ((hc.2.yq (uS e3 j)).xC (λ_ _ _=>rfl) λb _ hb=>hM b hb)
 ·obtain⟨ob,h1⟩:=hlive _ (vU hk);obtain⟨ob',h2⟩:=hlive _ (vU hk');exact hap _ (vU hk) _ (vU hk') (hS.inj _ _ _ _ h1 h2 e)
 ·obtain⟨ob,h1⟩:=hlive _ (vU hk);exact hS.notM _ _ h1
end
def aK (σ σ':St) (ρ:Nat->Nat) (f:Fr):Fr->Prop
 | []=>True
 | (t,d') :: r=>vw σ σ' ρ (f.get t) d'/\aK σ σ' ρ f r
theorem yJ.view {C:Cx} {f f':Fr} {σ σ':St} (ρ:Nat->Nat) (hn:C.n0<=σ'.nx) (hρ:∀ k,k<C.n0->ρ k=k) (hf:aK σ σ' ρ f f') (hst:stays σ σ' ρ) (hap:wQ σ' ρ):yJ C f σ f' σ':=by
 rintro E a w ⟨ι,G⟩
 have hlive:∀ p ∈ σ'.xX,∃ ob,σ.get (ρ p.1)= some ob:=λp hp=>by obtain⟨_,ob,h,_⟩:=hst p hp;exact⟨ob,h⟩
 refine⟨λk=>ι (ρ k),G.size,G.defers,hn,G.kept,G.oC.view hst hap,G.oS,λk o hk=>?_,λk hk=>by simp only [hρ k hk]; exact G.stay k hk,λt=>?_⟩
 ·obtain⟨ob,h⟩:=hlive _ (vU hk);exact G.rQ _ _ h
 ·induction f' with
  | nil=>exact R.top _
  | cons p r ih=>
   obtain⟨s,d'⟩:=p;simp only [aK] at hf;simp only [Fr.get]
   split
   ·rename_i e;subst e;exact lJ G.oC hlive _ _ (G.fr s) hf.1
   ·exact ih hf.2
theorem yJ.frame {C:Cx} {f f':Fr} {σ:St} (hf:∀ t,f'.get t = .top\/f'.get t=f.get t):yJ C f σ f' σ:=by
 rintro E a w ⟨ι,G⟩;refine⟨ι,G.size,G.defers,G.nx,G.kept,G.oC,G.oS,G.rQ,G.stay,λt=>?_⟩
 rcases hf t with h | h
 ·rw [h]; exact R.top _
 ·rw [h]; exact G.fr t
end Go.Pd
namespace Go.Pd
open Go
variable [vA]
section
variable {C : Cx} {M0 : Nat -> Prop} {w : World} {σ : St} {ι : Nat -> Nat} {a : Act} {o : Oper} {ev : vK -> D} {K : D -> Prop}
theorem r8 {t:TypeId} {x:Operand} {ag:Bool} {x':vK} {inf:TypeInfo} (hop:o.op = .load t x) (hag:qS C.P t=some ag) (hi:C.P.info? t=some inf) (hx:xM C.N x=some x') (h:pW C σ ev (.load inf.size ag x') K)
  (hS:zI M0 w σ ι) (hR:∀ x y,xM C.N x=some y->R (yO M0 ι σ) w ι σ.nx (a.eval x) (ev y)):∃ v d,Yields C.P o a w v/\K d/\R (yO M0 ι σ) w ι σ.nx v d:=by
 have htd:∃ td,C.P.underlying t=some td:=by
  unfold qS at hag
  cases hu:C.P.underlying t with
  | none=>simp [hu] at hag
  | some td=>exact⟨td,rfl⟩
 obtain⟨td,htd⟩:=htd
 have go:∀ (ad:Addr) (vs:List Value) (ds:List D),a.eval x = .pointer (some ad)->vs.length=inf.size->ds.length=inf.size->(∀ j v,vs[j]?=some v->w.cell? (ad.add j)= some v) ->
   (∀ j,j<inf.size->R (yO M0 ι σ) w ι σ.nx (vs.getD j undef) (ds.getD j .top))->(ag=true\/inf.size=1)->K (vR ag ds)->∃ v d,Yields C.P o a w v/\K d/\R (yO M0 ι σ) w ι σ.nx v d:=by
  intro ad vs ds hX hl hl' hc hr hone hK
  cases ag with
  | true=> refine⟨_,_,(jr hop htd hag hi hl hX hc),hK,?_⟩;refine .agg (by simp [hl,hl']) λj hj=>?_;rw [hl'] at hj;have:=hr j hj;simpa using this
  | false=>
   have h1:inf.size=1:=by simpa using hone
   match vs,hl with
   | [],hl=>simp at hl; omega
   | v :: r,hl=>
    have hc0:=hc 0 v rfl;have e0:ad.add 0=ad:=by simp [Addr.add]
    rw [e0] at hc0;have hr0:=hr 0 (by omega)
    match ds,hl' with
    | [],hl'=>simp at hl'; omega
    | d :: r',hl'=>exact⟨_,_,(jq hop htd hag hX hc0),hK,(by simpa [vR] using hr0)⟩
 simp only [pW] at h
 split at h
 ·rename_i key sz i off hb;obtain⟨h1,h2⟩:=(hb ▸ hR _ _ hx).uV
  split at h
  ·rename_i ob hob;obtain⟨g1,g2,g3,g4,g5⟩:=h;subst g1;obtain⟨cur,e,c1,c2,c3,c4⟩:=yZ.cells (hS.holds key ob hob).2 h2.2
   have hlen:(ob.xZ.getD i []).length=ob.sz:=by
    have:ob.xZ.getD i []=ob.xZ[i]:=by simp [List.getD,g2]
    rw [this]; exact c2 _ (ζ g2)
   refine go ⟨ι key,i*ob.sz+off,none⟩ ((List.range inf.size).map λj=>cur.getD (i*ob.sz+off+j) undef) _ h1 (by simp) (by rw [ε,List.length_drop,hlen]; omega) (λj v hj=>?_) (λj hj=>?_) g4 g5
   ·simp only [μ,π,List.getElem?_range'] at hj;obtain⟨j',hj',rfl⟩:=hj
    have hj2:j<inf.size:=by
     rcases Nat.lt_or_ge j inf.size with h | h
     ·exact h
     ·simp [δ (by simpa using h:(List.range inf.size).length<=j)] at hj'
    have e1:j'=j:=by simpa [hj2] using hj'.symm
    subst e1;rw [Addr.add_lit]
    have hlt:i*ob.sz+off+j'<cur.size:=by have:=nT (sz:=ob.sz) (j:=off+j') g2 (by omega);omega
    simp [World.cell?,c1,hlt]
   ·have hq:=(c4 i g2 (off+j) (by omega)).2
    have e1:(List.map (λj=>cur.getD (i*ob.sz+off+j) undef) (List.range inf.size)).getD j undef=cur.getD (i*ob.sz+(off+j)) undef:=by simp [List.getD,hj,Nat.add_assoc]
    have e2:(((ob.xZ.getD i []).drop off).take inf.size).getD j .top=(ob.xZ.getD i []).getD (off+j) .top:=by simp [List.getD,hj,γ]
    rw [e1,e2];exact hq
  ·exact h.elim
 ·rename_i cs hb;obtain⟨b,off,vs,h1,h2,h3,h4,h5⟩:=(hb ▸ hR _ _ hx).qR;obtain⟨g1,g2,g3⟩:=h
  refine go ⟨b,off,none⟩ ((List.range inf.size).map vs) _ h1 (by simp) (by simp; omega) (λj v hj=>?_) (λj hj=>?_) g2 g3
  ·simp only [μ,π] at hj;obtain⟨j',hj',rfl⟩:=hj
   have hj2:j<inf.size:=by
    rcases Nat.lt_or_ge j inf.size with h | h
    ·exact h
    ·simp [δ (by simpa using h:(List.range inf.size).length<=j)] at hj'
   have e1:j'=j:=by simpa [hj2] using hj'.symm
   subst e1;rw [Addr.add_lit];exact h4 j' (by omega)
  ·have e1:(List.map vs (List.range inf.size)).getD j undef=vs j:=by simp [List.getD,hj]
   have e2:(cs.take inf.size).getD j .top=cs.getD j .top:=by simp [List.getD,hj,γ]
   rw [e1,e2];exact .pure (h5 j (by omega))
 ·rename_i b hb;have hX:a.eval x = .pointer (some ⟨b,0,none⟩):=(hb ▸ hR _ _ hx).gI;obtain⟨ds,g0,g1,g2,g3⟩:=h;obtain⟨vs,q1,q2,q3⟩:=g0 _ w hS.sR
  refine go ⟨b,0,none⟩ (vs.take inf.size) _ hX (by rw [ε]; omega) (by rw [ε]; omega) (λj v hj=>?_) (λj hj=>?_) g2 g3
  ·rw [Addr.add_lit];rw [γ] at hj
   split at hj
   ·simpa using q2 j v hj
   ·cases hj
  ·have e1:(vs.take inf.size).getD j undef=vs.getD j undef:=by simp [List.getD,hj,γ]
   have e2:(ds.take inf.size).getD j .top=ds.getD j .top:=by simp [List.getD,hj,γ]
   rw [e1,e2];exact .pure (q3 j (by omega))
 ·exact h.elim
end
inductive lT where
 | tmp (t:Nat)
 | cell (t n:Nat) (ag:Bool)
def aD (P:Program) (N:Nat):ResultVar->Option lT
 | .tmp t=>if t<N then some (.tmp t) else none
 | .cell a t=>do
  let ag <- qS P t
  let n <- uD P t
  if a<N then some (.cell a n ag) else none
def pB (C:Cx) (r:lT) (f:Fr) (σ:St) (K:D->Prop):Prop:=
 match r with
 | .tmp t=>K (f.get t)
 | .cell t n ag=>pW C σ (wP f) (.load n ag (.t t)) K
def mY (C:Cx) (rs:List lT) (f:Fr) (σ:St) (K:D->Prop):Prop:=
 match rs with
 | []=>K (.yD [])
 | [a]=>pB C a f σ K
 | [a,b]=>pB C a f σ λx=>pB C b f σ λy=>K (.yD [x,y])
 | [a,b,c]=>pB C a f σ λx=>pB C b f σ λy=>pB C c f σ λz=>K (.yD [x,y,z])
 | [a,b,c,d]=>pB C a f σ λx=>pB C b f σ λy=>pB C c f σ λz=>pB C d f σ λu=>K (.yD [x,y,z,u])
 | _=>False
def jh (tmps:Array Value):ResultVar->Sem Value:=fun
 | .tmp t=>pure (tmps.getD t undef)
 | .cell a t=>do loadVar t (<- asAddr (tmps.getD a undef))
theorem sY {C:Cx} {E:Env} {a:Act} {w:World} {f:Fr} {σ:St} {ι:Nat->Nat} {r:ResultVar} {dr:lT} {K:D->Prop} (hr:aD C.P C.N r=some dr) (G:yR C E a w f σ ι) (h:pB C dr f σ K) :
  ∃ v d,(jh a.tmps r).run C.P w = .ok v w/\K d/\R (yO E.M0 ι σ) w ι σ.nx v d:=by
 cases r with
 | tmp t=> simp [aD] at hr;obtain⟨_,rfl⟩:=hr;exact⟨_,_,rfl,h,G.fr t⟩
 | cell t ty=>
  simp only [aD,Option.bind_eq_bind,Option.bind_eq_some_iff] at hr;obtain⟨ag,hag,n,hn,hr⟩:=hr
  split at hr
  ·rename_i hlt;simp at hr; subst hr;simp only [uD,π] at hn;obtain⟨inf,hi,rfl⟩:=hn;have hx:xM C.N (.tmp t)= some (.t t):=by simp only [xM]; rw [if_pos hlt]
   simp only [pB] at h;obtain⟨v,d,h1,h2,h3⟩:=r8 (o:={ (default:Oper) with op:=.load ty (.tmp t) }) (t:=ty) (x:=.tmp t) rfl hag hi hx h G.oC (λx y hxy=>oD G.fr hxy);refine⟨v,d,?_,h2,h3⟩
   have hp:∃ ad,a.tmps.getD t undef = .pointer (some ad):=by
    simp only [pW] at h;have hX:R (yO E.M0 ι σ) w ι σ.nx (a.tmps.getD t undef) (wP f (.t t)):=G.fr t
    split at h
    ·rename_i key sz i off hb;exact⟨_,(hb ▸ hX).uV.1⟩
    ·rename_i cs hb;obtain⟨b,off,vs,h1,_⟩:=(hb ▸ hX).qR;exact⟨_,h1⟩
    ·rename_i b hb;exact⟨_,(hb ▸ hX).gI⟩
    ·exact h.elim
   obtain⟨ad,hp⟩:=hp;simp only [jh,hp];have he:a.eval (.tmp t)= .pointer (some ad):=hp;unfold Yields at h1;simp only [execOp,he,Instr.loadAt,Instr.sureAddr] at h1;simp only [Sem.run_bind,Sem.run_pure,Result.andThen_ok] at h1;simp only [asAddr,Sem.run_bind,Sem.run_pure,Result.andThen_ok];generalize (loadVar ty ad).run C.P w=rr at h1
   cases rr with
   | ok x w'=> simp [Result.andThen] at h1;obtain⟨rfl,rfl⟩:=h1;rfl
   | halt x w'=>simp [Result.andThen] at h1
  ·simp at hr
theorem XT (fn:Func) (tmps:Array Value):results fn tmps=(do
  let vs <- fn.results.mapM (jh tmps)
  pure (if h:vs.size=1 then vs[0] else .tuple vs)):=by
 unfold results;rfl
theorem XQ {C:Cx} {E:Env} {a:Act} {w:World} {f:Fr} {σ:St} {ι:Nat->Nat} {fn:Func} {rs:List lT} {K:D->Prop} (hr:wI (aD C.P C.N) fn.results.toList=some rs) (G:yR C E a w f σ ι) (h:mY C rs f σ K) :
  ∃ v d,(results fn a.tmps).run C.P w = .ok v w/\K d/\R (yO E.M0 ι σ) w ι σ.nx v d:=by
 obtain⟨hl,hg⟩:=zA hr;rw [XT];generalize aJ:fn.results=rr at hl hg;obtain⟨rl⟩:=rr;simp only at hl hg
 have at':∀ (j:Nat) (x:ResultVar) (y:lT),rl[j]?=some x->rs[j]?=some y->aD C.P C.N x=some y:=by intro j x y hx hy;obtain⟨b,hb,hf⟩:=hg j x hx;rw [hy] at hb;simp at hb; subst hb;exact hf
 unfold mY at h
 split at h
 ·match rl,hl with
  | [],_=> exact⟨.tuple #[],.yD [],by simp,h,.yD (by simp) (by simp)⟩
 ·match rl,hl with
  | [r1],_=> obtain⟨v,d,h1,h2,h3⟩:=sY (at' 0 _ _ rfl rfl) G h;exact⟨v,d,by simp [h1],h2,h3⟩
 ·match rl,hl with
  | [r1,r2],_=>
   obtain⟨v,d,h1,h2,h3⟩:=sY (at' 0 _ _ rfl rfl) G h;obtain⟨v',d',g1,g2,g3⟩:=sY (at' 1 _ _ rfl rfl) G h2;refine⟨.tuple #[v,v'],.yD [d,d'],by simp [h1,g1],g2,.yD (by simp) λj hj=>?_⟩
   match j,hj with
   | 0,_=>exact h3
   | 1,_=>exact g3
 ·match rl,hl with
  | [r1,r2,r3],_=>
   obtain⟨v,d,h1,h2,h3⟩:=sY (at' 0 _ _ rfl rfl) G h;obtain⟨v',d',g1,g2,g3⟩:=sY (at' 1 _ _ rfl rfl) G h2;obtain⟨v'',d'',k1,k2,k3⟩:=sY (at' 2 _ _ rfl rfl) G g2;refine⟨.tuple #[v,v',v''],.yD [d,d',d''],by simp [h1,g1,k1],k2,.yD (by simp) λj hj=>?_⟩
   match j,hj with
   | 0,_=>exact h3
   | 1,_=>exact g3
   | 2,_=>exact k3
 ·match rl,hl with
  | [r1,r2,r3,r4],_=>
   obtain⟨v,d,h1,h2,h3⟩:=sY (at' 0 _ _ rfl rfl) G h;obtain⟨v',d',g1,g2,g3⟩:=sY (at' 1 _ _ rfl rfl) G h2;obtain⟨v'',d'',k1,k2,k3⟩:=sY (at' 2 _ _ rfl rfl) G g2;obtain⟨v3,d3,l1,l2,l3⟩:=sY (at' 3 _ _ rfl rfl) G k2;refine⟨.tuple #[v,v',v'',v3],.yD [d,d',d'',d3],by simp [h1,g1,k1,l1],l2,.yD (by simp) λj hj=>?_⟩
   match j,hj with
   | 0,_=>exact h3
   | 1,_=>exact g3
   | 2,_=>exact k3
   | 3,_=>exact l3
 ·exact h.elim
def lO : Nat->List D->Fr
 | _,[]=>[]
 | i,d :: r=>(i,d) :: lO (i+1) r
theorem ml : ∀ (ds:List D) (i t:Nat),(lO i ds).get t=if i<=t then ds.getD (t-i) .top else .top
 | [],i,t=>by simp [lO,Fr.get]
 | d :: r,i,t=>by
  simp only [lO,Fr.get]
  by_cases h:i=t
  ·subst h; simp
  ·rw [if_neg h,ml r]
   by_cases h2:i<=t
   ·have h3:i+1<=t:=by omega
    have h4:t-i=(t-(i+1))+ 1:=by omega
    rw [if_pos h2,if_pos h3,h4];simp
   ·rw [if_neg h2,if_neg (by omega)]
theorem Zn {w:World} {b off D:Nat} {x:Option (List Deferred)} {v:Value} (hD:w.heap[D]?=some (Obj.deferred x)) (h:w.cell? ⟨b,off,none⟩= some v):b≠D:=λe=>by subst e;simp [World.cell?,hD] at h
theorem RP.more {M:Nat->Prop} {w:World} {D:Nat} {x:Option (List Deferred)} (hD:w.heap[D]?=some (Obj.deferred x)) {v:Value} {d:Go.Pd.D} (h:RP M w v d):RP (λb=>M b\/b=D) w v d:=by
 induction h with
 | top v=>exact .top v
 | uO=>exact .uO
 | int h=>exact .int h
 | bool b=>exact .bool b
 | str h=>exact .str h
 | fw a cap sz h=>exact .fw a cap sz h
 | emp a cap=>exact .emp a cap
 | @sl b off cap sz xZ vs hs hMb hc hm hl hcell hr ih=>
  rcases Nat.eq_zero_or_pos xZ.length with h0 | h0
  ·have:xZ = []:=List.eq_nil_of_length_eq_zero h0;subst this;exact .fw _ _ _ (by simp)
  ·have zL:=Zn hD (hcell 0 h0 0 hs);exact .sl vs hs (λhm'=>hm'.elim hMb zL) hc hm hl hcell ih
 | xI=>exact .xI
 | @ptr b off cs vs hs hMb hcell hr ih=> have zL:=Zn hD (hcell 0 hs);exact .ptr vs hs (λhm'=>hm'.elim hMb zL) hcell ih
 | agg hl hr ih=>exact .agg hl ih
 | yD hl hr ih=>exact .yD hl ih
 | fn hl hr ih=>exact .fn hl ih
 | pA=>exact .pA
 | sP=>exact .sP
 | pN=>exact .pN
 | zo b=>exact .zo b
theorem R.more {M:Nat->Prop} {w:World} {ι:Nat->Nat} {n:Nat} {D:Nat} {x:Option (List Deferred)} (hD:w.heap[D]?=some (Obj.deferred x)) {v:Value} {d:Go.Pd.D} (h:R M w ι n v d):R (λb=>M b\/b=D) w ι n v d:=by
 induction h with
 | pure h=>exact .pure (h.more hD)
 | ref hk h0=>exact .ref hk h0
 | wZ hk h1 h2 h3 h4=>exact .wZ hk h1 h2 h3 h4
 | sub hk h1 h2 h3 h4=>exact .sub hk h1 h2 h3 h4
 | yV hk=>exact .yV hk
 | agg hl hr ih=>exact .agg hl ih
 | yD hl hr ih=>exact .yD hl ih
 | fn hl hr ih=>exact .fn hl ih
theorem cN {M0:Nat->Prop} {ι:Nat->Nat} {σ:St} {D b:Nat} (h:yO (λb=>M0 b\/b=D) ι σ b):yO M0 ι σ b\/b=D:=by
 rcases h with (h | h) | h
 ·exact .inl (.inl h)
 ·exact .inr h
 ·exact .inl (.inr h)
theorem R.RL {M0:Nat->Prop} {w:World} {ι:Nat->Nat} {n:Nat} {σ:St} {D:Nat} {x:Option (List Deferred)} (hD:w.heap[D]?=some (Obj.deferred x)) {v:Value} {d:Go.Pd.D} (h:R (yO M0 ι σ) w ι n v d):R (yO (λb=>M0 b\/b=D) ι σ) w ι n v d:=(h.more hD).xC (λ_ _ _=>rfl) (λb _ hb=>cN hb) (λb cur e hc=>⟨cur,hc,rfl⟩) (λ_ _=>rfl) (ν _)
theorem zI.more {M0:Nat->Prop} {w:World} {σ:St} {ι:Nat->Nat} {D:Nat} {x:Option (List Deferred)} (hS:zI M0 w σ ι) (hD:w.heap[D]?=some (Obj.deferred x)) (ht:∀ p ∈ vA.sR,p.1≠D):zI (λb=>M0 b\/b=D) w σ ι:=
 ⟨λb hb=>hb.elim (hS.oS b) λe=>by rw [e]; exact(Array.getElem?_eq_some_iff.1 hD).1,λk o hk=>⟨(hS.holds k o hk).1,yZ.imp (hS.holds k o hk).2 λhr=>hr.RL hD⟩,hS.inj,
  λk o hk hb=>hb.elim (hS.notM k o hk) λe=>hS.cY hD ⟨k,o,hk,e⟩,⟨λp hp=>let ⟨h1,h2,h3⟩:=hS.sR.1 p hp; ⟨h1,λhm=>(cN hm).elim h2 (ht p hp),h3⟩,λq hq=>let ⟨h1,v,h2,h3⟩:=hS.sR.2 q hq; ⟨λhm=>(cN hm).elim h1 λe=>(by rw [e] at h2; simp [World.cell?,hD] at h2),v,h2,(h3.more hD).xC (λ_ _ _=>rfl) λb _ hb=>cN hb⟩⟩⟩
theorem mN {w:World} {b:Nat} {o o':Obj} (h:w.heap[b]?=some o) (hn:∀ cur e,o≠Obj.cells cur e (0,0)):Kept w (w.putObj b o') λx=>x=b:=by
 refine⟨rfl,rfl,rfl,by simp,λx _ hx=>World.putObj_heap_other hx,λx cur e hx=>⟨cur,?_,rfl⟩,ν _⟩
 have zL:x≠b:=λe'=>by subst e';rw [h] at hx;exact hn cur e (Option.some.inj hx)
 rw [World.putObj_heap_other zL]; exact hx
theorem yR.shut {C:Cx} {E:Env} {a:Act} {w:World} {f:Fr} {σ:St} {ι:Nat->Nat} {D:Nat} {x y:Option (List Deferred)} (G:yR C E a w f σ ι) (ha:a.defers = []) (hD:w.heap[D]?=some (Obj.deferred x)) (hB:E.w0.heap.size<=D) (ht:∀ p ∈ vA.sR,p.1≠D) :
  yR C E a (w.putObj D (Obj.deferred y)) f σ ι:=by
 have hk:Kept w (w.putObj D (Obj.deferred y)) λb=>b=D:=mN hD (λ_ _ e=>by cases e);have hS:=(G.oC.more hD ht).PH hk λb hb=>.inr hb;refine⟨G.size,.none ha (by rw [World.putObj_size]; exact G.defers.1),G.nx,G.kept.trans hk (λ_ _ h=>h) λb hb e=>absurd hb (by omega),hS.less λb hb=>.inl hb,G.oS,G.rQ,G.stay,λt=>?_⟩;have h1:=(G.fr t).RL (M0:=E.M0) hD;exact h1.xC (λb hb hM=>hk.block b hb λe=>hM (.inl (.inr e))) (λb _ hb=>hb.imp .inl id) hk.shape (λ_ _=>rfl) (ν _)
theorem cA {C:Cx} {E:Env} {fn:Func} {rs:List lT} {tmps:Array Value} {f:Fr} {σ:St} {ι:Nat->Nat} {K:D->Prop} {Rp:Ending->World->Prop} (hr:wI (aD C.P C.N) fn.results.toList=some rs) (hres:mY C rs f σ K) (hB:E.w0.heap.size<=E.B) (ht:∀ p ∈ vA.sR,p.1<E.w0.heap.size)
  (hfin:∀ w v d,yR C E { tmps:=tmps,defers:=[] } w f σ ι->(results fn tmps).run C.P w = .ok v w->K d->R (yO E.M0 ι σ) w ι σ.nx v d->Rp (.returned v) w):∀ (l:List Nat) (w:World),l.Nodup->(∀ D ∈ l,w.heap[D]?=some (Obj.deferred (some []))/\ E.B<=D) ->
   yR C E { tmps:=tmps,defers:=[] } w f σ ι->LeavesInM Fence.wide 0 C.P fn tmps Rp (l.map λD=>{ target:=.collected D,args:=#[] }) .returning w
 | [],w,_,_,G=>by obtain⟨v,d,h1,h2,h3⟩:=XQ hr G hres;exact⟨v,h1,hfin w v d G h1 h2 h3⟩
 | D :: l,w,hn,hl,G=>by obtain⟨hD,hDB⟩:=hl D (by simp);rw [List.nodup_cons] at hn;refine⟨by simp,.inl ⟨D,w.putObj D (Obj.deferred none),rfl,run_takeDeferred hD,cA hr hres hB ht hfin l _ hn.2 (λD' hD'=>?_) (G.shut rfl hD (by omega) λp hp=>by have:=ht p hp; omega)⟩⟩;have:=hl D' (by simp [hD']);have zL:D'≠D:=λe=>hn.1 (e ▸ hD');rw [World.putObj_heap_other zL];exact this
def bV (n0:Nat) (σ1:St) (d1:D) (σ':St) (d:D):Prop:=(d=d1/\σ'=σ1)\/∃ ρ:Nat->Nat,n0<=σ'.nx/\(∀ k,k<n0->ρ k=k)/\ vw σ1 σ' ρ d1 d/\stays σ1 σ' ρ/\wQ σ' ρ
def dp (C:Cx) (rs:List lT) (d:D) (σ':St) (e:Exit) (f:Fr) (σ1:St):Prop:=(e = .ret\/e = .normal)/\ mY C rs f σ1 λd1=>bV C.n0 σ1 d1 σ' d
theorem xU.SM {P:Program} {g:FuncId} {fn:Func} {code:Code} {dc:DC} {own:List Nat} {args:List D} {σ:St} {d:D} {σ':St} {rs:List lT} (hm:P.follows .mixedOrders=true) (hf:P.funcs[g]?=some fn) (hb:fn.body=some code)
  (hname:(fn.name == "runtime.NumGoroutine")= false) (hc:tW P fn.ntmps own code=some dc) (hr:wI (aD P fn.ntmps) fn.results.toList=some rs) (hla:args.length<=fn.ntmps)
  (h:wpS ⟨P,fn.ntmps,σ.nx,own,none⟩ dc (lO 0 args) σ (dp ⟨P,fn.ntmps,σ.nx,own,none⟩ rs d σ')):xU P g args σ d σ':=by
 refine⟨⟨fn,hf,hname,by rw [hb]; rfl⟩,λM0 w ι vals hS hl hv=>?_⟩
 let C:Cx:=⟨P,fn.ntmps,σ.nx,own,none⟩
 let E:Env:=⟨w,M0,rB ι σ,ι,w.heap.size⟩
 have G:yR C E { tmps:=vals++Array.replicate (fn.ntmps-vals.size) undef,defers:=[] } w (lO 0 args) σ ι:=by
  refine⟨by show (vals++Array.replicate (fn.ntmps-vals.size) undef).size=fn.ntmps; simp; omega,.none rfl (ν _),ν _,Kept.refl _ _,hS,hS.oS,λk o hk=>.inr ⟨k,o,hk,rfl⟩,λ_ _=>rfl,λt=>?_⟩;rw [ml];simp only [Nat.zero_le,if_pos,Nat.sub_zero]
  by_cases ht:t<args.length
  ·have:=hv t ht
   have e:(vals++Array.replicate (fn.ntmps-vals.size) undef).getD t undef=vals.getD t undef:=by simp only [Array.getD_eq_getD_getElem?];rw [Array.getElem?_append_left (by omega)]
   rw [e]; exact this
  ·have:args.getD t .top = .top:=by simp [List.getD,δ (Nat.le_of_not_lt ht)]
   rw [this];exact R.top _
 refine(callsIn_wide (n:=0)).1 (callsIn_of_wp_marks hf hb trivial (wpIn_mono (show code.wpIn Fence.wide 0 P _ _ _ from h code hc E _ w ⟨ι,G⟩) λe a' w' hq=>?_));obtain⟨f',σ1,⟨ι1,G1⟩,he,hres⟩:=hq;obtain⟨hl0,l,hl1,hl2,hl3⟩:=G1.defers;have G2:yR C E { tmps:=a'.tmps,defers:=[] } w' f' σ1 ι1:=⟨G1.size,.none rfl hl0,G1.nx,G1.kept,G1.oC,G1.oS,G1.rQ,G1.stay,G1.fr⟩
 have key:LeavesInM Fence.wide 0 P fn a'.tmps (λe w'=>∃ v ι',e=Ending.returned v/\Kept w w' (rB ι σ)/\ zI M0 w' σ' ι'/\σ.nx<=σ'.nx/\(∀ k,k<σ.nx->ι' k=ι k)/\
   (∀ k o,σ'.get k=some o->w.heap.size<=ι' k\/rB ι σ (ι' k))/\ R (yO M0 ι' σ') w' ι' σ'.nx v d) a'.defers .returning w':=by
  rw [hl1];refine cA (C:=C) (E:=E) hr hres (ν _) (λp hp=>(hS.sR.1 p hp).1) (λw1 v d1 G1 hrun hret hR=>?_) l w' hl2 hl3 G2
  rcases hret with ⟨rfl,rfl⟩ | ⟨ρ,r1,r2,r3,r4,r5⟩
  ·exact⟨v,ι1,rfl,G1.kept,G1.oC,G1.nx,λk hk=>G1.stay k hk,G1.rQ,hR⟩
  ·have hlive:∀ p ∈ σ'.xX,∃ ob,σ1.get (ρ p.1)= some ob:=λp hp=>by obtain⟨_,ob,h,_⟩:=r4 p hp;exact⟨ob,h⟩
   refine⟨v,λk=>ι1 (ρ k),rfl,G1.kept,G1.oC.view r4 r5,r1,λk hk=>?_,λk o hk=>?_,lJ G1.oC hlive _ _ hR r3⟩
   ·show ι1 (ρ k)= ι k;rw [r2 k hk]; exact G1.stay k hk
   ·obtain⟨ob,h⟩:=hlive _ (vU hk);exact G1.rQ _ _ h
 rcases he with rfl | rfl
 ·exact key
 ·exact key
def kT : St:=⟨0,[]⟩
def zX (P:Program) (g:FuncId) (args:List D) (d:D):Prop:=xU P g args kT d kT
theorem R.zero {M:Nat->Prop} {w:World} {ι:Nat->Nat} {v:Value} {d:D} (h:R M w ι 0 v d):RP M w v d:=by
 induction h with
 | pure h=>exact h
 | ref hk=>omega
 | wZ hk=>omega
 | sub hk=>omega
 | yV hk=>omega
 | agg hl hr ih=>exact .agg hl ih
 | yD hl hr ih=>exact .yD hl ih
 | fn hl hr ih=>exact .fn hl ih
theorem bu {args:List D} (h:D.xT args=true) (j:Nat):(args.getD j .top).xO=true:=uS h j
theorem xU.yU {P:Program} {g:FuncId} {args:List D} {d:D} {σ:St} (hc:zX P g args d) (hp:D.xT args=true):xU P g args σ d σ:=by
 refine⟨hc.ord,λM0 w ι vals hS hl hv=>?_⟩;have S1:zI (yO M0 ι σ) w kT ι:=⟨λb hb=>yO.lt hS hb,(λk o hk=>by cases hk),(λk k' o o' hk=>by cases hk),(λk o hk=>by cases hk),hS.sR.xC (ν _) (λ_ _ _=>rfl) λb _ hb=>hb.elim id λ⟨k,o,hk,_⟩=>by cases hk⟩
 have e1:∀ (ι':Nat->Nat) b,yO (yO M0 ι σ) ι' kT b->yO M0 ι σ b:=by
  intro ι' b hb
  rcases hb with hb | ⟨k,o,hk,_⟩
  ·exact hb
  ·cases hk
 refine(hc.run _ w ι vals S1 hl λj hj=>.pure (((hv j hj).yq (bu hp j)).xC (λ_ _ _=>rfl) λb _ hb=>e1 ι b hb)).mono λe w' hh=>?_;obtain⟨v,ι',rfl,k1,k2,k3,k4,k5,k6⟩:=hh;have K0:Kept w w' λ_=>False:=k1.mono λb _ ⟨k,o,hk,_⟩=>by cases hk
 exact⟨v,ι,rfl,K0.none _,hS.ext K0,ν _,λ_ _=>rfl,λk o hk=>.inr ⟨k,o,hk,rfl⟩,.pure (k6.zero.xC (λ_ _ _=>rfl) λb _ hb=>.inl hb)⟩
mutual
def D.flat : D->Bool
 | .int _ _ | .bool _ | .str _ | .uO | .xI | .pA | .sP | .pN | .top=>true
 | .agg cs | .yD cs=>D.YS cs
 | _=>false
def D.YS : List D->Bool
 | []=>true
 | d :: r=>d.flat&&D.YS r
end
theorem RP.flat {M M':Nat->Prop} {w:World} {v:Value} {d:D} (h:RP M w v d) (hf:d.flat=true):RP M' w v d:=by
 have fl:∀ {cs:List D},D.YS cs=true->∀ j,(cs.getD j .top).flat=true:=by
  intro cs
  induction cs with
  | nil=>intro _ j; simp [D.flat]
  | cons d r ih=>
   intro h j;simp only [D.YS,ο] at h
   cases j with
   | zero=>simpa using h.1
   | succ j=>simpa using ih h.2 j
 induction h with
 | top v=>exact .top v
 | uO=>exact .uO
 | int h=>exact .int h
 | bool b=>exact .bool b
 | str h=>exact .str h
 | fw=>simp [D.flat] at hf
 | emp=>simp [D.flat] at hf
 | sl=>simp [D.flat] at hf
 | xI=>exact .xI
 | ptr=>simp [D.flat] at hf
 | agg hl hr ih=>simp only [D.flat] at hf; exact .agg hl λj hj=>ih j hj (fl hf j)
 | yD hl hr ih=>simp only [D.flat] at hf; exact .yD hl λj hj=>ih j hj (fl hf j)
 | fn=>simp [D.flat] at hf
 | pA=>exact .pA
 | sP=>exact .sP
 | pN=>exact .pN
 | zo b=>simp [D.flat] at hf
theorem xe (l r:List (Nat × Ob)) (k:Nat):St.look (l++r) k=(St.look l k).or (St.look r k):=by
 induction l with
 | nil=>simp [St.look]
 | cons p l ih=>
  obtain⟨j,o⟩:=p;simp only [List.cons_append,St.look]
  split
  ·simp
  ·exact ih
mutual
def D.shift (c:Nat):D->D
 | .ref k sz i off=>.ref (c+k) sz i off
 | .wZ k sz n=>.wZ (c+k) sz n
 | .sub k sz lo n=>.sub (c+k) sz lo n
 | .yV k=>.yV (c+k)
 | .agg cs=>.agg (D.uM c cs)
 | .yD cs=>.yD (D.uM c cs)
 | .fn f cs=>.fn f (D.uM c cs)
 | d=>d
def D.uM (c:Nat):List D->List D
 | []=>[]
 | d :: r=>d.shift c :: D.uM c r
end
def Ob.shift (c:Nat) (o:Ob):Ob:=⟨o.sz,o.xZ.map (D.uM c)⟩
def vS (c:Nat):List (Nat × Ob)->List (Nat × Ob)
 | []=>[]
 | (k,o) :: r=>(c+k,o.shift c) :: vS c r
theorem tD (c:Nat):∀ cs:List D,(D.uM c cs).length=cs.length
 | []=>rfl
 | d :: r=>by simp [D.uM,tD c r]
theorem pU (c:Nat):∀ (cs:List D) (j:Nat),(D.uM c cs).getD j .top=(cs.getD j .top).shift c
 | [],j=>by simp [D.uM,D.shift]
 | d :: r,0=>by simp [D.uM]
 | d :: r,j+1=>by simpa [D.uM] using pU c r j
theorem Xa (c:Nat) {d:D}:d.xO=true->d.shift c=d:=by
 refine D.rec (motive_1:=λd=>d.xO=true->d.shift c=d) (motive_2:=λ_=>True) (motive_3:=λcs=>D.xT cs=true->D.uM c cs=cs)
  ?top ?uO ?int ?bool ?str ?sl ?xI ?emp ?agg ?yD ?fn ?ref ?wZ ?sub ?ptr ?yV ?pA ?sP ?pN ?zo trivial (λ_ _ _ _=>trivial) ?nil ?cons d
 case agg=>intro cs ih h; simp only [D.xO] at h; simp only [D.shift,ih h]
 case yD=>intro cs ih h; simp only [D.xO] at h; simp only [D.shift,ih h]
 case fn=>intro f cs ih h; simp only [D.xO] at h; simp only [D.shift,ih h]
 case ref=>intro k sz i off h; simp [D.xO] at h
 case wZ=>intro k sz n h; simp [D.xO] at h
 case sub=>intro k sz lo n h; simp [D.xO] at h
 case yV=>intro k h; simp [D.xO] at h
 case nil=>intro _; rfl
 case cons=> intro d r h1 h2 h;simp only [D.xT,ο] at h;simp only [D.uM,h1 h.1,h2 h.2]
 all_goals intros; rfl
theorem RP.xO {M:Nat->Prop} {w:World} {v:Value} {d:D} (h:RP M w v d):d.xO=true:=by
 have pl:∀ {cs:List D},(∀ j,j<cs.length->(cs.getD j .top).xO=true)->D.xT cs=true:=by
  intro cs
  induction cs with
  | nil=>intro _; rfl
  | cons d r ih=> intro h;simp only [D.xT,ο];exact⟨by simpa using h 0 (by simp),ih λj hj=>by simpa using h (j+1) (by simpa using hj)⟩
 induction h with
 | agg hl hr ih=>exact pl ih
 | yD hl hr ih=>exact pl ih
 | fn hl hr ih=>exact pl ih
 | _=>rfl
theorem R.shift {M Mn:Nat->Prop} {w:World} {ι ιn:Nat->Nat} {c m:Nat} (hM:∀ b,Mn b->M b) (hi:∀ k,k<m->ιn (c+k)= ι k) {v:Value} {d:D} (h:R M w ι m v d):R Mn w ιn (c+m) v (d.shift c):=by
 induction h with
 | pure h=> rw [Xa c h.xO];exact .pure (h.xC (λ_ _ _=>rfl) λb _ hb=>hM b hb)
 | @ref key sz i off hk h0=>rw [<- hi _ hk]; exact .ref (ι:=ιn) (key:=c+key) (by omega) h0
 | @wZ key sz len cap cur e hk h1 h2 h3 h4=> rw [<- hi _ hk] at h3 ⊢;exact .wZ (ι:=ιn) (key:=c+key) (by omega) h1 h2 h3 h4
 | @sub key sz lo len cap off cur e hk h1 h2 h3 h4=> rw [<- hi _ hk] at h3 ⊢;exact .sub (ι:=ιn) (key:=c+key) (by omega) h1 h2 h3 h4
 | @yV key hk=>rw [<- hi _ hk]; exact .yV (ι:=ιn) (key:=c+key) (by omega)
 | agg hl hr ih=>exact .agg (by rw [hl,tD]) λj hj=>by rw [pU]; exact ih j (by rw [tD] at hj; exact hj)
 | yD hl hr ih=>exact .yD (by rw [hl,tD]) λj hj=>by rw [pU]; exact ih j (by rw [tD] at hj; exact hj)
 | fn hl hr ih=>exact .fn (by rw [hl,tD]) λj hj=>by rw [pU]; exact ih j (by rw [tD] at hj; exact hj)
theorem eR (c:Nat):∀ (l:List (Nat × Ob)) (k:Nat) (o:Ob),St.look (vS c l) k=some o->∃ k0 o0,k=c+k0/\St.look l k0=some o0/\o=o0.shift c
 | [],k,o,h=>by cases h
 | (j,ob) :: r,k,o,h=>by
  simp only [vS,St.look] at h
  split at h
  ·rename_i e;simp at h; subst h; subst e;exact⟨j,ob,rfl,by simp [St.look],rfl⟩
  ·rename_i e;obtain⟨k0,o0,rfl,h2,h3⟩:=eR c r k o h;refine⟨k0,o0,rfl,?_,h3⟩;simp only [St.look];rw [if_neg (λe'=>e (by rw [e']))];exact h2
theorem xU.own {P:Program} {g:FuncId} {args:List D} {d:D} {σ:St} {m:Nat} {xX:List (Nat × Ob)} (hc:xU P g args kT d ⟨m,xX⟩) (hp:D.xT args=true):xU P g args σ (d.shift σ.nx) ⟨σ.nx+m,vS σ.nx xX++σ.xX⟩:=by
 refine⟨hc.ord,λM0 w ι vals hS hl hv=>?_⟩;have S1:zI (yO M0 ι σ) w kT ι:=⟨λb hb=>yO.lt hS hb,(λk o hk=>by cases hk),(λk k' o o' hk=>by cases hk),(λk o hk=>by cases hk),hS.sR.xC (ν _) (λ_ _ _=>rfl) λb _ hb=>hb.elim id λ⟨k,o,hk,_⟩=>by cases hk⟩
 have e1:∀ b,yO (yO M0 ι σ) ι kT b->yO M0 ι σ b:=by
  intro b hb
  rcases hb with hb | ⟨k,o,hk,_⟩
  ·exact hb
  ·cases hk
 refine(hc.run _ w ι vals S1 hl λj hj=>.pure (((hv j hj).yq (bu hp j)).xC (λ_ _ _=>rfl) λb _ hb=>e1 b hb)).mono λe w' hh=>?_;obtain⟨v,ι',rfl,k1,k2,k3,k4,k5,k6⟩:=hh;have K0:Kept w w' λ_=>False:=k1.mono λb _ ⟨k,o,hk,_⟩=>by cases hk
 let ιn:Nat->Nat:=λk=>if k<σ.nx then ι k else ι' (k-σ.nx)
 have n1:∀ k,k<σ.nx->ιn k=ι k:=λk hk=>by simp only [ιn,if_pos hk]
 have n2:∀ k,ιn (σ.nx+k)= ι' k:=λk=>by simp only [ιn,if_neg (show ¬ (σ.nx+k<σ.nx) by omega)];congr 1; omega
 have lk:∀ k o,St.get ⟨σ.nx+m,vS σ.nx xX++σ.xX⟩ k=some o->(∃ k0 o0,k=σ.nx+k0/\St.get ⟨m,xX⟩ k0=some o0/\o=o0.shift σ.nx)\/(k<σ.nx/\σ.get k=some o):=by
  intro k o hk;unfold St.get at hk;simp only at hk;rw [xe] at hk
  cases h1:St.look (vS σ.nx xX) k with
  | some o1=> rw [h1] at hk;simp at hk; subst hk;exact .inl (eR _ _ _ _ h1)
  | none=> rw [h1] at hk;simp at hk;exact .inr ⟨(hS.holds k o hk).1,hk⟩
 have fresh:∀ k o,St.get ⟨m,xX⟩ k=some o->w.heap.size<=ι' k:=by
  intro k o hk
  rcases k5 _ _ hk with h | ⟨k0,o0,hk0,_⟩
  ·exact h
  ·cases hk0
 have mm:∀ b,b<w.heap.size->yO M0 ιn ⟨σ.nx+m,vS σ.nx xX++σ.xX⟩ b->yO M0 ι σ b:=by
  intro b hb hm
  rcases hm with hm | ⟨k,o,hk,rfl⟩
  ·exact .inl hm
  ·rcases lk k o hk with ⟨k0,o0,rfl,h2,_⟩ | ⟨h1,h2⟩
   ·have:=fresh k0 o0 h2;rw [n2] at hb;omega
   ·exact .inr ⟨k,o,h2,(n1 k h1).symm⟩
 have mv:∀ b,yO M0 ιn ⟨σ.nx+m,vS σ.nx xX++σ.xX⟩ b->yO (yO M0 ι σ) ι' ⟨m,xX⟩ b:=by
  intro b hm
  rcases hm with hm | ⟨k,o,hk,rfl⟩
  ·exact .inl (.inl hm)
  ·rcases lk k o hk with ⟨k0,o0,rfl,h2,_⟩ | ⟨h1,h2⟩
   ·exact .inr ⟨k0,o0,h2,(n2 k0).symm⟩
   ·exact .inl (.inr ⟨k,o,h2,(n1 k h1).symm⟩)
 refine⟨v,ιn,rfl,K0.none _,⟨λb hb=>Nat.lt_of_lt_of_le (hS.oS b hb) K0.size,λk o hk=>?_,λk k' o o' hk hk' e=>?_,λk o hk hm=>?_,k2.sR.xC (ν _) (λ_ _ _=>rfl) λb _ hb=>mv b hb⟩,Nat.le_add_right _ _,n1,λk o hk=>?_,R.shift mv (λk _=>n2 k) k6⟩
 ·rcases lk k o hk with ⟨k0,o0,rfl,h2,rfl⟩ | ⟨h1,h2⟩
  ·obtain⟨g1,g2⟩:=k2.holds k0 o0 h2;have glt:k0<m:=g1;rcases g2 with ⟨s0,cur,e,c1,c2,c3,c4⟩ | ⟨s0,es,c1,c2,c3⟩
   case inr=>
    refine⟨by show σ.nx+k0<σ.nx+m; omega,.inr ⟨s0,es,by rw [n2]; exact c1,by simpa [Ob.shift] using c2,λi hi=>?_⟩⟩;simp only [Ob.shift,List.length_map] at hi ⊢;obtain⟨kk,v,x,d,r1,r2,r3,r4⟩:=c3 i hi;refine⟨kk,v,x.shift σ.nx,d.shift σ.nx,?_,r2,R.shift mv (λk _=>n2 k) r3,R.shift mv (λk _=>n2 k) r4⟩;have:(o0.xZ.map (D.uM σ.nx)).getD i []=D.uM σ.nx (o0.xZ.getD i []):=by simp [List.getD,hi]
    rw [this,r1]; rfl
   refine⟨by show σ.nx+k0<σ.nx+m; omega,.inl ⟨s0,cur,e,by rw [n2]; exact c1,λel he=>?_,by simpa [Ob.shift] using c3,λi hi j hj=>?_⟩⟩
   ·simp only [Ob.shift,κ] at he ⊢;obtain⟨el',h3,rfl⟩:=he;rw [tD]; exact c2 _ h3
   ·simp only [Ob.shift,List.length_map] at hi hj ⊢;have h3:=c4 i hi j hj
    have e2:((o0.xZ.map (D.uM σ.nx)).getD i []).getD j .top=((o0.xZ.getD i []).getD j .top).shift σ.nx:=by
     have:(o0.xZ.map (D.uM σ.nx)).getD i []=D.uM σ.nx (o0.xZ.getD i []):=by simp [List.getD,hi]
     rw [this,pU]
    rw [e2];exact⟨h3.1,R.shift mv (λk _=>n2 k) h3.2⟩
  ·obtain⟨g1,g2⟩:=hS.holds k o h2;exact⟨by show k<σ.nx+m; omega,g2.xC (K0.block _ (rB.lt hS ⟨k,o,h2,rfl⟩) id) (n1 k h1) (λb hb _=>K0.block b hb id) (λb hb hm=>mm b hb hm) K0.shape n1 (Nat.le_add_right _ _)⟩
 ·rcases lk k o hk with ⟨k0,o0,rfl,h2,rfl⟩ | ⟨h1,h2⟩ <;> rcases lk k' o' hk' with ⟨k0',o0',rfl,h2',rfl⟩ | ⟨h1',h2'⟩
  ·rw [n2,n2] at e;rw [k2.inj _ _ _ _ h2 h2' e]
  ·rw [n2,n1 k' h1'] at e;have:=fresh _ _ h2;have:=rB.lt hS ⟨k',o',h2',rfl⟩;omega
  ·rw [n1 k h1,n2] at e;have:=fresh _ _ h2';have:=rB.lt hS ⟨k,o,h2,rfl⟩;omega
  ·rw [n1 k h1,n1 k' h1'] at e;exact hS.inj _ _ _ _ h2 h2' e
 ·rcases lk k o hk with ⟨k0,o0,rfl,h2,rfl⟩ | ⟨h1,h2⟩
  ·rw [n2] at hm;have:=fresh _ _ h2;have:=hS.oS _ hm;omega
  ·rw [n1 k h1] at hm;exact hS.notM k o h2 hm
 ·rcases lk k o hk with ⟨k0,o0,rfl,h2,rfl⟩ | ⟨h1,h2⟩
  ·rw [n2]; exact .inl (fresh _ _ h2)
  ·rw [n1 k h1]; exact .inr ⟨k,o,h2,rfl⟩
end Go.Pd
namespace Go.Pd
open Go
variable [vA]
mutual
def D.fact : D->Prop
 | .int k n=>k.min<=n/\n<=k.max
 | .sl _ xZ=>xZ.length<=9223372036854775807/\D.Vb xZ
 | .agg cs | .yD cs | .fn _ cs | .ptr cs=>D.pJ cs
 | _=>True
def D.pJ : List D->Prop
 | []=>True
 | d :: r=>d.fact/\D.pJ r
def D.Vb : List (List D)->Prop
 | []=>True
 | e :: r=>D.pJ e/\D.Vb r
end
theorem rM : ∀ {cs:List D},(∀ j,j<cs.length->(cs.getD j .top).fact)->D.pJ cs
 | [],_=>trivial
 | d :: r,h=>⟨by simpa using h 0 (by simp),rM λj hj=>by simpa using h (j+1) (by simpa using hj)⟩
theorem ah : ∀ {es:List (List D)},(∀ i,i<es.length->D.pJ (es.getD i []))->D.Vb es
 | [],_=>trivial
 | e :: r,h=>⟨by simpa using h 0 (by simp),ah λj hj=>by simpa using h (j+1) (by simpa using hj)⟩
theorem RP.fact {M:Nat->Prop} {w:World} {v:Value} {d:D} (h:RP M w v d):d.fact:=by
 induction h with
 | int h=>exact h
 | fw=>exact⟨by simp,trivial⟩
 | @sl b off cap sz xZ vs hs hM hc hm hl hcell hr ih=>
  refine⟨by simp only [maxLen] at hm; omega,ah λi hi=>rM λj hj=>?_⟩;have hmem:xZ.getD i [] ∈ xZ:=by simp [List.getD,hi]
  exact ih i hi j (by rw [<- hl _ hmem]; exact hj)
 | ptr vs hs hM hc hr ih=>exact rM ih
 | agg hl hr ih=>exact rM ih
 | yD hl hr ih=>exact rM ih
 | fn hl hr ih=>exact rM ih
 | _=>trivial
theorem R.fact {M:Nat->Prop} {w:World} {ι:Nat->Nat} {n:Nat} {v:Value} {d:D} (h:R M w ι n v d):d.fact:=by
 induction h with
 | pure h=>exact h.fact
 | agg hl hr ih=>exact rM ih
 | yD hl hr ih=>exact rM ih
 | fn hl hr ih=>exact rM ih
 | _=>trivial
theorem xU.facts {P:Program} {g:FuncId} {args:List D} {σ σ':St} {d:D} (ho:sI P g) (h:D.pJ args->xU P g args σ d σ'):xU P g args σ d σ':=by refine⟨ho,λM0 w ι vals hS hl hv=>?_⟩;exact(h (rM λj hj=>(hv j hj).fact)).run M0 w ι vals hS hl hv
def xP (P:Program) (own:List Nat) (fn:Func):Option (Nat × DC × List lT):=
 match fn.body with
 | none=>none
 | some c=>
  if fn.name == "runtime.NumGoroutine" then none else
  match tW P fn.ntmps own c,wI (aD P fn.ntmps) fn.results.toList with
  | some dc,some rs=>some (fn.ntmps,dc,rs)
  | _,_=>none
theorem xU.RM {P:Program} {g:FuncId} {fn:Func} {own:List Nat} {N:Nat} {dc:DC} {rs:List lT} {args:List D} {σ:St} {d:D} {σ':St} (hm:P.follows .mixedOrders=true) (hf:P.funcs[g]?=some fn)
  (hc:xP P own fn=some (N,dc,rs)) (hla:args.length<=N)
  (h:D.pJ args->mX ⟨P,N,σ.nx,own,none⟩ dc (lO 0 args) σ (dp ⟨P,N,σ.nx,own,none⟩ rs d σ')):xU P g args σ d σ':=by
 unfold xP at hc
 split at hc
 ·cases hc
 ·rename_i c hb
  split at hc
  ·cases hc
  ·rename_i hname
   split at hc
   ·rename_i dc' rs' h1 h2;simp at hc;obtain⟨rfl,rfl,rfl⟩:=hc;refine xU.facts ⟨fn,hf,by simpa using hname,by rw [hb]; rfl⟩ λhfa=>?_;exact xU.SM hm hf hb (by simpa using hname) h1 h2 hla (wy (C:=⟨P,fn.ntmps,σ.nx,own,none⟩) hm (h hfa))
   ·cases hc
theorem xU.split {P:Program} {g:FuncId} {pre post:List D} {sz:Nat} {σ σ':St} {d:D} (h1:xU P g (pre ++ .xI :: post) σ d σ') (h2:xU P g (pre ++ .emp :: post) σ d σ'):xU P g (pre ++ .sl sz [] :: post) σ d σ':=by
 refine⟨h1.ord,λM0 w ι vals hS hl hv=>?_⟩;have hk:=hv pre.length (by simp);have e0:(pre++D.sl sz [] :: post).getD pre.length .top = .sl sz []:=by simp [List.getD]
 rw [e0] at hk
 have other:∀ (x:D) j,j≠pre.length->(pre++x :: post).getD j .top=(pre++D.sl sz [] :: post).getD j .top:=by
  intro x j hj;simp only [List.getD]
  rcases Nat.lt_trichotomy j pre.length with h | h | h
  ·rw [θ h,θ h]
  ·exact absurd h hj
  ·rw [η (by omega),η (by omega)];have:j-pre.length=(j-pre.length-1)+ 1:=by omega
   rw [this];simp
 have same:∀ (x:D),(pre++x :: post).getD pre.length .top=x:=by intro x; simp [List.getD]
 have go:∀ (x:D),R (yO M0 ι σ) w ι σ.nx (vals.getD pre.length undef) x->∀ j,j<(pre++x :: post).length->R (yO M0 ι σ) w ι σ.nx (vals.getD j undef) ((pre++x :: post).getD j .top):=by
  intro x hx j hj
  by_cases h:j=pre.length
  ·subst h; rw [same]; exact hx
  ·rw [other x j h]; exact hv j (by simpa using hj)
 rcases hk.kN with ⟨a,cap,e1,_,h0⟩ | ⟨b,off,cap,vs,e1,_,_,_,g4,_⟩
 ·cases a with
  | none=> have hc:=h0 rfl;subst hc;exact h1.run M0 w ι vals hS (by simpa using hl) (go .xI (by rw [e1]; exact .pure .xI))
  | some a=>exact h2.run M0 w ι vals hS (by simpa using hl) (go .emp (by rw [e1]; exact .pure (.emp _ _)))
 ·exact h2.run M0 w ι vals hS (by simpa using hl) (go .emp (by rw [e1]; exact .pure (.emp _ _)))
theorem xU.QN {P:Program} {g:FuncId} {post:List D} {sz:Nat} {σ σ':St} {d:D} (h1:xU P g (.xI :: post) σ d σ') (h2:xU P g (.emp :: post) σ d σ'):xU P g (.sl sz [] :: post) σ d σ':=xU.split (pre:=[]) h1 h2
omit [vA]
def rows (k:IntKind) (l:List Int):List (List D):=l.map λn=>[.int k n]
theorem wS (k:IntKind) (l:List Int):(rows k l).length=l.length:=by simp [rows]
theorem yL (k:IntKind) (l:List Int) {i:Nat} (h:i<l.length):(rows k l).getD i [] = [.int k (l.getD i 0)]:=by simp [rows,List.getD,h]
theorem sX (k:IntKind) (l:List Int):∀ e ∈ rows k l,D.xT e=true:=by intro e he;simp only [rows,κ] at he;obtain⟨n,_,rfl⟩:=he;rfl
theorem pn (k:IntKind) (l:List Int):∀ e ∈ rows k l,zN e=true:=by intro e he;simp only [rows,κ] at he;obtain⟨n,_,rfl⟩:=he;rfl
theorem aX (k:IntKind) (l:List Int) (n:Nat):(rows k l).take n=rows k (l.take n):=by simp [rows,List.map_take]
theorem wrap_i64 {x:Int} (h:-9223372036854775808<=x/\x<=9223372036854775807):IntKind.i64.wrap x=x:=by simp [IntKind.wrap,IntKind.signed,IntKind.bits];split <;> omega
theorem wrap_u64 {x:Int} (h:0<=x/\x<18446744073709551616):IntKind.u64.wrap x=x:=by simp [IntKind.wrap,IntKind.signed,IntKind.bits];omega
end Go.Pd
