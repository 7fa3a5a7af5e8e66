/- Part X5. -/
import Derived.Test.YtccobgpcnfjbhaaZtX4
import Derived.KernelRfl
import Derived.RangeFuncLeaves
import Derived.RangeFuncRecord
set_option linter.unusedSectionVars false
set_option linter.unusedVariables false
set_option linter.unusedSimpArgs false
set_option linter.defProp false
open List renaming getElem?_take->γ,getElem?_eq_none->δ,length_take->ε,getElem_mem->ζ,mem_map->η,getElem?_map->θ
open Nat renaming le_refl->κ,zero_add->μ
open Bool renaming and_eq_true->ν
open Option renaming map_eq_some_iff->ξ
namespace Go.Pd
open Go
variable [vU]
mutual
def vw (σ σ':St) (ρ:Nat->Nat):D->D->Prop
 | _,.top=>True
 | d,.ref k sz i off=>k<σ'.nx/\d = .ref (ρ k) sz i off
 | d,.xP k sz n=>k<σ'.nx/\d = .xP (ρ k) sz n
 | d,.sub k sz lo n=>k<σ'.nx/\d = .sub (ρ k) sz lo n
 | d,.xG k=>k<σ'.nx/\d = .xG (ρ k)
 | d,.agg cs=>match d with
  | .agg ds=>ds.length=cs.length/\rN σ σ' ρ ds cs
  | _=>False
 | d,.xI cs=>match d with
  | .xI ds=>ds.length=cs.length/\rN σ σ' ρ ds cs
  | _=>False
 | d,.fn f cs=>match d with
  | .fn f' ds=>f'=f/\ds.length=cs.length/\rN σ σ' ρ ds cs
  | _=>False
 | d,.sl sz xZ=>match d with
  | .sl sz' els'=>sz'=sz/\els'=xZ
  | .xU=>xZ = []
  | .emp=>xZ = []
  | .xP k0 sz' n=>sz'=sz/\0<sz/\(∀ p ∈ σ'.xY,ρ p.1≠k0)/\ ∃ ob,σ.get k0=some ob/\ob.sz=sz/\n<=ob.xZ.length/\xZ=ob.xZ.take n/\∀ e ∈ xZ,D.xJ e=true
  | _=>False
 | d,.ptr cs=>d = .ptr cs\/∃ k0 ob,d = .ref k0 cs.length 0 0/\(∀ p ∈ σ'.xY,ρ p.1≠k0)/\ σ.get k0=some ob/\ob.sz=cs.length/\ob.xZ = [cs]/\D.xJ cs=true
 | d,d'=>d=d'
def rN (σ σ':St) (ρ:Nat->Nat):List D->List D->Prop
 | _,[]=>True
 | d :: ds,c :: cs=>vw σ σ' ρ d c/\rN σ σ' ρ ds cs
 | [],_ :: _=>False
end
inductive jr (σ σ' : St) (ρ : Nat -> Nat) : List (List D) -> List (List D) -> Prop
 | same {xZ} (h:∀ e ∈ xZ,D.xJ e=true):jr σ σ' ρ xZ xZ
 | nil:jr σ σ' ρ [] []
 | cons {a b as bs} (hl:a.length=b.length) (h:rN σ σ' ρ a b) (t:jr σ σ' ρ as bs):jr σ σ' ρ (a :: as) (b :: bs)
theorem wT {l:List (Nat × Ob)} {k:Nat} {o:Ob} (h:St.look l k=some o):(k,o)∈ l:=by
 induction l with
 | nil=>simp [St.look] at h
 | cons p l ih=>
  obtain⟨j,ob⟩:=p;simp only [St.look] at h
  split at h
  ·rename_i e; simp at h; subst e; subst h; simp
  ·exact List.mem_cons_of_mem _ (ih h)
section
variable {M0 : Nat -> Prop} {w : World} {σ σ' : St} {ι : Nat -> Nat} {ρ : Nat -> Nat}
theorem oP (hS:yC M0 w σ ι) (hlive:∀ p ∈ σ'.xY,∃ ob,σ.get (ρ p.1)= some ob) {d':D} :
  (∀ (v:Value) (d:D),R (yR M0 ι σ) w ι σ.nx v d->vw σ σ' ρ d d'->R (yR M0 (λk=>ι (ρ k)) σ') w (λk=>ι (ρ k)) σ'.nx v d'):=by
 have hM:∀ b,yR M0 (λk=>ι (ρ k)) σ' b->yR M0 ι σ b:=by
  intro b hb
  rcases hb with hb | ⟨k,o,hk,rfl⟩
  ·exact .inl hb
  ·obtain⟨ob,hob⟩:=hlive _ (wT hk);exact .inr ⟨ρ k,ob,hob,rfl⟩
 have hRP:∀ {v:Value} {d:D},RP (yR M0 ι σ) w v d->RP (yR M0 (λk=>ι (ρ k)) σ') w v d:=λh=>h.yY (λ_ _ _=>rfl) λb _ hb=>hM b hb;have leaf:∀ (v:Value) (d:D),R (yR M0 ι σ) w ι σ.nx v d->d.xH=true->R (yR M0 (λk=>ι (ρ k)) σ') w (λk=>ι (ρ k)) σ'.nx v d:=λv d h hp=>.pure (hRP (h.eI hp))
 refine D.rec (motive_1:=λd'=>∀ (v:Value) (d:D),R (yR M0 ι σ) w ι σ.nx v d->vw σ σ' ρ d d'->R (yR M0 (λk=>ι (ρ k)) σ') w (λk=>ι (ρ k)) σ'.nx v d')
  (motive_2:=λ_=>True)
  (motive_3:=λcs=>∀ (ds:List D) (vs:Nat->Value),ds.length=cs.length->(∀ j,j<ds.length->R (yR M0 ι σ) w ι σ.nx (vs j) (ds.getD j .top))->rN σ σ' ρ ds cs->∀ j,j<cs.length->R (yR M0 (λk=>ι (ρ k)) σ') w (λk=>ι (ρ k)) σ'.nx (vs j) (cs.getD j .top))
  ?top ?vP ?int ?bool ?str ?sl ?xU ?emp ?agg ?xI ?fn ?ref ?xP ?sub ?ptr ?xG ?sY ?uA ?uL ?kI trivial (λ_ _ _ _=>trivial) ?nil ?cons d'
 case top=>intro v d _ _; exact R.top v
 case vP=>intro v d h hv; simp only [vw] at hv; subst hv; exact leaf v _ h rfl
 case int=>intro k n v d h hv; simp only [vw] at hv; subst hv; exact leaf v _ h rfl
 case bool=>intro b v d h hv; simp only [vw] at hv; subst hv; exact leaf v _ h rfl
 case str=>intro s v d h hv; simp only [vw] at hv; subst hv; exact leaf v _ h rfl
 case xU=>intro v d h hv; simp only [vw] at hv; subst hv; exact leaf v _ h rfl
 case emp=>intro v d h hv; simp only [vw] at hv; subst hv; exact leaf v _ h rfl
 case ptr=>
  intro cs _ v d h hv;simp only [vw] at hv
  rcases hv with rfl | ⟨k0,ob,rfl,h1,h2,h3,h4,h5⟩
  ·exact leaf v _ h rfl
  ·obtain⟨rfl,_,h0⟩:=h.vY;obtain⟨cur,e,c1,c2,c3,c4⟩:=xB.cells (hS.holds k0 ob h2).2 (by omega);rw [h4] at c3 c4;rw [h3] at c3 c4;simp only [List.length_singleton,Nat.one_mul] at c3;rw [show 0*cs.length+0=0 by omega]
   refine .pure (.ptr (λj=>cur.getD j undef) h0 (λhm=>?_) (λj hj=>?_) λj hj=>?_)
   ·rcases hm with hm | ⟨k,o,hk,he⟩
    ·exact hS.notM k0 ob h2 hm
    ·obtain⟨ob',hob'⟩:=hlive _ (wT hk);exact h1 _ (wT hk) (hS.inj _ _ _ _ hob' h2 he)
   ·rw [μ,cell_of_row _ _ _ _ _ _ c1];simp [show j<cur.size by omega]
   ·have:=(c4 0 (by simp) j hj).2;simp only [Nat.zero_mul,μ,List.getD_cons_zero] at this;exact hRP (this.eI (vL h5 j))
 case sY=>intro v d h hv; simp only [vw] at hv; subst hv; exact leaf v _ h rfl
 case uA=>intro v d h hv; simp only [vw] at hv; subst hv; exact leaf v _ h rfl
 case uL=>intro v d h hv; simp only [vw] at hv; subst hv; exact leaf v _ h rfl
 case kI=>intro b v d h hv; simp only [vw] at hv; subst hv; exact leaf v _ h rfl
 case ref=> intro k sz i off v d h hv;simp only [vw] at hv;obtain⟨h1,rfl⟩:=hv;obtain⟨rfl,_,h0⟩:=h.vY;exact R.ref (ι:=λk=>ι (ρ k)) h1 h0
 case xP=> intro k sz n v d h hv;simp only [vw] at hv;obtain⟨h1,rfl⟩:=hv;obtain⟨cap,cur,e,rfl,k1,k2,k3,k4,k5⟩:=h.uD;exact R.xP (ι:=λk=>ι (ρ k)) h1 k2 k3 k4 k5
 case sub=> intro k sz lo n v d h hv;simp only [vw] at hv;obtain⟨h1,rfl⟩:=hv;obtain⟨cap,off,cur,e,rfl,k1,k2,k3,k4,k5⟩:=h.pQ;exact R.sub (ι:=λk=>ι (ρ k)) h1 k2 k3 k4 k5
 case xG=>
  intro k v d h hv;simp only [vw] at hv;obtain⟨h1,rfl⟩:=hv
  cases h with
  | pure h=>cases h
  | xG _=>exact R.xG (ι:=λk=>ι (ρ k)) h1
 case agg=>
  intro cs ih v d h hv;cases d <;> (try (simp [vw] at hv; done))
  rename_i ds;simp only [vw] at hv;obtain⟨vs,rfl,h1,h2⟩:=h.iV;refine .agg (by omega) λj hj=>?_;exact ih ds (λj=>vs.getD j undef) hv.1 (λj hj=>h2 j hj) hv.2 j hj
 case xI=>
  intro cs ih v d h hv;cases d <;> (try (simp [vw] at hv; done))
  rename_i ds;simp only [vw] at hv;obtain⟨vs,rfl,h1,h2⟩:=h.vz;refine .xI (by omega) λj hj=>?_;exact ih ds (λj=>vs.getD j undef) hv.1 (λj hj=>h2 j hj) hv.2 j hj
 case fn=>
  intro f cs ih v d h hv;cases d <;> (try (simp [vw] at hv; done))
  rename_i f' ds;simp only [vw] at hv;obtain⟨rfl,h3,h4⟩:=hv;obtain⟨vs,rfl,h1,h2⟩:=h.jY;refine .fn (by omega) λj hj=>?_;exact ih ds (λj=>vs.getD j undef) h3 (λj hj=>h2 j hj) h4 j hj
 case sl=>
  intro sz xZ _ v d h hv
  cases d <;> (try (simp [vw] at hv; done))
  ·simp only [vw] at hv;obtain⟨rfl,rfl⟩:=hv;exact leaf v _ h rfl
  ·simp only [vw] at hv;subst hv;have:=h.uW;subst this;exact .pure (.uh _ _ _ (by simp))
  ·simp only [vw] at hv;subst hv;obtain⟨ad,cap,rfl⟩:=h.lF;exact .pure (.uh _ _ _ (by simp))
  ·rename_i k0 sz' n;simp only [vw] at hv;obtain⟨rfl,h0,h1,ob,h2,h3,h4,h5,h6⟩:=hv;obtain⟨cap,cur,e,rfl,k1,k2,k3,k4,k5⟩:=h.uD;obtain⟨_,cur',e',c1,c2,c3,c4⟩:=xB.rows (hS.holds k0 ob h2).2 k4;rw [k4] at c1;simp at c1;obtain⟨rfl,rfl⟩:=c1;have hlen:xZ.length=n:=by rw [h5]; simp; omega
   rw [<- hlen]
   have hget:∀ i,i<n->xZ.getD i []=ob.xZ.getD i []:=by intro i hi;rw [h5];simp [List.getD,γ,hi]
   refine .pure (.sl (λi j=>cur.getD (i*sz'+j) undef) h0 (λhm=>?_) (by omega) k3 (λel he=>?_) (λi hi j hj=>?_) (λi hi j hj=>?_))
   ·rcases hm with hm | ⟨k,o,hk,he⟩
    ·exact hS.notM k0 ob h2 hm
    ·obtain⟨ob',hob'⟩:=hlive _ (wT hk);exact h1 _ (wT hk) (hS.inj _ _ _ _ hob' h2 he)
   ·rw [h5] at he;rw [<- h3];exact c2 el (List.mem_of_mem_take he)
   ·have:i*sz'+j<cur.size:=by have:=qQ (m:=ob.xZ.length) (i:=i) (j:=j) (sz:=sz') (by omega) hj;rw [h3] at c3;omega
    rw [μ,cell_of_row _ _ _ _ _ _ k4];simp [this]
   ·have:=(c4 i (by omega) j (by rw [h3]; exact hj)).2;rw [h3] at this;rw [hget i (by omega)];refine hRP (this.eI ?_);rw [<- hget i (by omega)]
    have hmem:xZ.getD i [] ∈ xZ:=by
     have:i<xZ.length:=by omega
     simp [List.getD,this]
    exact vL (h6 _ hmem) j
 case nil=>intro ds vs _ _ _ j hj; simp at hj
 case cons=>
  intro c cs ih1 ih2 ds vs hl hr hv j hj
  cases ds with
  | nil=>simp at hl
  | cons d ds=>
   simp only [rN] at hv
   cases j with
   | zero=>exact ih1 _ _ (by simpa using hr 0 (by simp)) hv.1
   | succ j=> have:=ih2 ds (λj=>vs (j+1)) (by simpa using hl) (λj hj=>by simpa using hr (j+1) (by simpa using hj)) hv.2 j (by simpa using hj);simpa using this
def stays (σ σ':St) (ρ:Nat->Nat):Prop:=∀ p ∈ σ'.xY,p.1<σ'.nx/\∃ ob,σ.get (ρ p.1)= some ob/\ob.sz=p.2.sz/\jr σ σ' ρ ob.xZ p.2.xZ
def rU (σ':St) (ρ:Nat->Nat):Prop:=∀ p ∈ σ'.xY,∀ q ∈ σ'.xY,ρ p.1=ρ q.1->p.1=q.1
theorem eR : ∀ {as bs:List (List D)},jr σ σ' ρ as bs->as.length=bs.length/\∀ i,i<bs.length->((as.getD i []).length=(bs.getD i []).length/\(rN σ σ' ρ (as.getD i []) (bs.getD i [])\/(as.getD i []=bs.getD i []/\D.xJ (bs.getD i [])= true)))
 | _,_,.same h=>⟨rfl,λi hi=>⟨rfl,.inr ⟨rfl,h _ (by simp [List.getD,hi])⟩⟩⟩
 | _,_,.nil=>⟨rfl,λi hi=>by simp at hi⟩
 | _,_,.cons hl h t=>by
  obtain⟨h1,h2⟩:=eR t;refine⟨by simp [h1],λi hi=>?_⟩
  cases i with
  | zero=>exact⟨by simpa using hl,.inl (by simpa using h)⟩
  | succ i=>simpa using h2 i (by simpa using hi)
theorem yC.view (hS:yC M0 w σ ι) (hst:stays σ σ' ρ) (hap:rU σ' ρ):yC M0 w σ' (λk=>ι (ρ k)):=by
 have hlive:∀ p ∈ σ'.xY,∃ ob,σ.get (ρ p.1)= some ob:=λp hp=>by obtain⟨_,ob,h,_⟩:=hst p hp;exact⟨ob,h⟩
 have hM0:∀ b,yR M0 (λk=>ι (ρ k)) σ' b->yR M0 ι σ b:=by
  intro b hb
  rcases hb with hb | ⟨k,o,hk,rfl⟩
  ·exact .inl hb
  ·obtain⟨ob,hob⟩:=hlive _ (wT hk);exact .inr ⟨ρ k,ob,hob,rfl⟩
 refine⟨hS.uJ,λk o hk=>?_,λk k' o o' hk hk' e=>?_,λk o hk=>?_,hS.tN.yY (κ _) (λ_ _ _=>rfl) λb _ hb=>hM0 b hb⟩
 ·obtain⟨h1,ob,h2,h3,h4⟩:=hst _ (wT hk);refine⟨h1,?_⟩;obtain⟨g1,g2⟩:=eR h4;simp only at h3 g1 g2;rcases(hS.holds _ _ h2).2 with ⟨s0,cur,e,c1,c2,c3,c4⟩ | ⟨s0,es,c1,c2,c3⟩
  case inr=>
   refine .inr ⟨by rw [<- h3]; exact s0,es,c1,by rw [c2,g1],λi hi=>?_⟩;obtain⟨kk,v,x,d,r1,r2,r3,r4⟩:=c3 i (by omega);obtain⟨e1,e2⟩:=g2 i hi;rw [r1] at e1 e2
   rcases e2 with e2 | ⟨e2,e3⟩
   ·generalize hrow:o.xZ.getD i []=row at e1 e2
    match row,e1 with
    | [x',d'],_=> simp only [rN] at e2;exact⟨kk,v,x',d',rfl,r2,oP hS hlive _ _ r3 e2.1,oP hS hlive _ _ r4 e2.2.1⟩
   ·rw [<- e2] at e3;simp only [D.xJ,ν] at e3;exact⟨kk,v,x,d,e2.symm,r2,.pure ((r3.eI e3.1).yY (λ_ _ _=>rfl) λb _ hb=>hM0 b hb),.pure ((r4.eI e3.2.1).yY (λ_ _ _=>rfl) λb _ hb=>hM0 b hb)⟩
  refine .inl ⟨by rw [<- h3]; exact s0,cur,e,c1,λel he=>?_,by rw [<- g1,<- h3]; exact c3,λi hi j hj=>?_⟩
  ·obtain⟨i,hi,rfl⟩:=List.getElem_of_mem he;have e1:=(g2 i hi).1;have e2:o.xZ.getD i []=o.xZ[i]:=by simp [List.getD,hi]
   have hi':i<ob.xZ.length:=by omega
   have e3:ob.xZ.getD i []=ob.xZ[i]:=by simp [List.getD,hi']
   rw [e2,e3] at e1;rw [<- e1,<- h3];exact c2 _ (ζ hi')
  ·rw [<- h3] at hj ⊢;have hc:=c4 i (by omega) j hj;refine⟨hc.1,?_⟩;have hi':i<ob.xZ.length:=by omega
   have hlen:(ob.xZ.getD i []).length=ob.sz:=by
    have e3:ob.xZ.getD i []=ob.xZ[i]:=by simp [List.getD,hi']
    rw [e3]; exact c2 _ (ζ hi')
   obtain⟨e1,e2⟩:=g2 i hi
   rcases e2 with e2 | ⟨e2,e3⟩
   ·have:∀ (cs ds:List D),ds.length=cs.length->rN σ σ' ρ ds cs->∀ j,j<cs.length->vw σ σ' ρ (ds.getD j .top) (cs.getD j .top):=by
     intro cs
     induction cs with
     | nil=>intro ds _ _ j hj; simp at hj
     | cons c cs ih=>
      intro ds hl hv j hj
      cases ds with
      | nil=>simp at hl
      | cons d ds=>
       simp only [rN] at hv
       cases j with
       | zero=>simpa using hv.1
       | succ j=>simpa using ih ds (by simpa using hl) hv.2 j (by simpa using hj)
    exact oP hS hlive _ _ hc.2 (this _ _ e1 e2 j (by omega))
   ·rw [e2] at hc
    have hM:∀ b,yR M0 (λk=>ι (ρ k)) σ' b->yR M0 ι σ b:=by
     intro b hb
     rcases hb with hb | ⟨k,o,hk,rfl⟩
     ·exact .inl hb
     ·obtain⟨ob,hob⟩:=hlive _ (wT hk);exact .inr ⟨ρ k,ob,hob,rfl⟩
    exact .pure ((hc.2.eI (vL e3 j)).yY (λ_ _ _=>rfl) λb _ hb=>hM b hb)
 ·obtain⟨ob,h1⟩:=hlive _ (wT hk);obtain⟨ob',h2⟩:=hlive _ (wT hk');exact hap _ (wT hk) _ (wT hk') (hS.inj _ _ _ _ h1 h2 e)
 ·obtain⟨ob,h1⟩:=hlive _ (wT hk);exact hS.notM _ _ h1
end
def uk (σ σ':St) (ρ:Nat->Nat) (f:Fr):Fr->Prop
 | []=>True
 | (t,d') :: r=>vw σ σ' ρ (f.get t) d'/\uk σ σ' ρ f r
theorem yV.view {C:Cx} {f f':Fr} {σ σ':St} (ρ:Nat->Nat) (hn:C.n0<=σ'.nx) (hρ:∀ k,k<C.n0->ρ k=k) (hf:uk σ σ' ρ f f') (hst:stays σ σ' ρ) (hap:rU σ' ρ):yV C f σ f' σ':=by
 rintro E a w ⟨ι,G⟩
 have hlive:∀ p ∈ σ'.xY,∃ ob,σ.get (ρ p.1)= some ob:=λp hp=>by obtain⟨_,ob,h,_⟩:=hst p hp;exact⟨ob,h⟩
 refine⟨λk=>ι (ρ k),G.size,G.defers,hn,G.kept,G.pY.view hst hap,G.uJ,λk o hk=>?_,λk hk=>by simp only [hρ k hk]; exact G.stay k hk,λt=>?_⟩
 ·obtain⟨ob,h⟩:=hlive _ (wT hk);exact G.sW _ _ h
 ·induction f' with
  | nil=>exact R.top _
  | cons p r ih=>
   obtain⟨s,d'⟩:=p;simp only [uk] at hf;simp only [Fr.get]
   split
   ·rename_i e;subst e;exact oP G.pY hlive _ _ (G.fr s) hf.1
   ·exact ih hf.2
theorem yV.frame {C:Cx} {f f':Fr} {σ:St} (hf:∀ t,f'.get t = .top\/f'.get t=f.get t):yV C f σ f' σ:=by
 rintro E a w ⟨ι,G⟩;refine⟨ι,G.size,G.defers,G.nx,G.kept,G.pY,G.uJ,G.sW,G.stay,λt=>?_⟩
 rcases hf t with h | h
 ·rw [h]; exact R.top _
 ·rw [h]; exact G.fr t
end Go.Pd
namespace Go.Pd
open Go
variable [vU]
section
variable {C : Cx} {M0 : Nat -> Prop} {w : World} {σ : St} {ι : Nat -> Nat} {a : Act} {o : Oper} {ev : wQ -> D} {K : D -> Prop}
theorem pr {t:TypeId} {x:Operand} {ag:Bool} {x':wQ} {inf:TypeInfo} (hop:o.op = .load t x) (hag:sS C.P t=some ag) (hi:C.P.info? t=some inf) (hx:xM C.N x=some x') (h:pW C σ ev (.load inf.size ag x') K)
  (hS:yC M0 w σ ι) (hR:∀ x y,xM C.N x=some y->R (yR M0 ι σ) w ι σ.nx (a.eval x) (ev y)):∃ v d,Yields C.P o a w v/\K d/\R (yR M0 ι σ) w ι σ.nx v d:=by
 have htd:∃ td,C.P.underlying t=some td:=by
  unfold sS at hag
  cases hu:C.P.underlying t with
  | none=>simp [hu] at hag
  | some td=>exact⟨td,rfl⟩
 obtain⟨td,htd⟩:=htd
 have go:∀ (ad:Addr) (vs:List Value) (ds:List D),a.eval x = .pointer (some ad)->vs.length=inf.size->ds.length=inf.size->(∀ j v,vs[j]?=some v->w.cell? (ad.add j)= some v) ->
   (∀ j,j<inf.size->R (yR M0 ι σ) w ι σ.nx (vs.getD j undef) (ds.getD j .top))->(ag=true\/inf.size=1)->K (uE ag ds)->∃ v d,Yields C.P o a w v/\K d/\R (yR M0 ι σ) w ι σ.nx v d:=by
  intro ad vs ds hX hl hl' hc hr hone hK
  cases ag with
  | true=> refine⟨_,_,(wb hop htd hag hi hl hX hc),hK,?_⟩;refine .agg (by simp [hl,hl']) λj hj=>?_;rw [hl'] at hj;have:=hr j hj;simpa using this
  | false=>
   have h1:inf.size=1:=by simpa using hone
   match vs,hl with
   | [],hl=>simp at hl; omega
   | v :: r,hl=>
    have hc0:=hc 0 v rfl;have e0:ad.add 0=ad:=by simp [Addr.add]
    rw [e0] at hc0;have hr0:=hr 0 (by omega)
    match ds,hl' with
    | [],hl'=>simp at hl'; omega
    | d :: r',hl'=>exact⟨_,_,(wa hop htd hag hX hc0),hK,(by simpa [uE] using hr0)⟩
 simp only [pW] at h
 split at h
 ·rename_i key sz i off hb;obtain⟨h1,h2⟩:=(hb ▸ hR _ _ hx).vY
  split at h
  ·rename_i ob hob;obtain⟨g1,g2,g3,g4,g5⟩:=h;subst g1;obtain⟨cur,e,c1,c2,c3,c4⟩:=xB.cells (hS.holds key ob hob).2 h2.2
   have hlen:(ob.xZ.getD i []).length=ob.sz:=by
    have:ob.xZ.getD i []=ob.xZ[i]:=by simp [List.getD,g2]
    rw [this]; exact c2 _ (ζ g2)
   refine go ⟨ι key,i*ob.sz+off,none⟩ ((List.range inf.size).map λj=>cur.getD (i*ob.sz+off+j) undef) _ h1 (by simp) (by rw [ε,List.length_drop,hlen]; omega) (λj v hj=>?_) (λj hj=>?_) g4 g5
   ·simp only [θ,ξ,List.getElem?_range'] at hj;obtain⟨j',hj',rfl⟩:=hj
    have hj2:j<inf.size:=by
     rcases Nat.lt_or_ge j inf.size with h | h
     ·exact h
     ·simp [δ (by simpa using h:(List.range inf.size).length<=j)] at hj'
    have e1:j'=j:=by simpa [hj2] using hj'.symm
    subst e1;rw [Addr.add_lit]
    have hlt:i*ob.sz+off+j'<cur.size:=by have:=qQ (sz:=ob.sz) (j:=off+j') g2 (by omega);omega
    simp [World.cell?,c1,hlt]
   ·have hq:=(c4 i g2 (off+j) (by omega)).2
    have e1:(List.map (λj=>cur.getD (i*ob.sz+off+j) undef) (List.range inf.size)).getD j undef=cur.getD (i*ob.sz+(off+j)) undef:=by simp [List.getD,hj,Nat.add_assoc]
    have e2:(((ob.xZ.getD i []).drop off).take inf.size).getD j .top=(ob.xZ.getD i []).getD (off+j) .top:=by simp [List.getD,hj,γ]
    rw [e1,e2];exact hq
  ·exact h.elim
 ·rename_i cs hb;obtain⟨b,off,vs,h1,h2,h3,h4,h5⟩:=(hb ▸ hR _ _ hx).sP;obtain⟨g1,g2,g3⟩:=h
  refine go ⟨b,off,none⟩ ((List.range inf.size).map vs) _ h1 (by simp) (by simp; omega) (λj v hj=>?_) (λj hj=>?_) g2 g3
  ·simp only [θ,ξ] at hj;obtain⟨j',hj',rfl⟩:=hj
   have hj2:j<inf.size:=by
    rcases Nat.lt_or_ge j inf.size with h | h
    ·exact h
    ·simp [δ (by simpa using h:(List.range inf.size).length<=j)] at hj'
   have e1:j'=j:=by simpa [hj2] using hj'.symm
   subst e1;rw [Addr.add_lit];exact h4 j' (by omega)
  ·have e1:(List.map vs (List.range inf.size)).getD j undef=vs j:=by simp [List.getD,hj]
   have e2:(cs.take inf.size).getD j .top=cs.getD j .top:=by simp [List.getD,hj,γ]
   rw [e1,e2];exact .pure (h5 j (by omega))
 ·rename_i b hb;have hX:a.eval x = .pointer (some ⟨b,0,none⟩):=(hb ▸ hR _ _ hx).lC;obtain⟨ds,g0,g1,g2,g3⟩:=h;obtain⟨vs,q1,q2,q3⟩:=g0 _ w hS.tN
  refine go ⟨b,0,none⟩ (vs.take inf.size) _ hX (by rw [ε]; omega) (by rw [ε]; omega) (λj v hj=>?_) (λj hj=>?_) g2 g3
  ·rw [Addr.add_lit];rw [γ] at hj
   split at hj
   ·simpa using q2 j v hj
   ·cases hj
  ·have e1:(vs.take inf.size).getD j undef=vs.getD j undef:=by simp [List.getD,hj,γ]
   have e2:(ds.take inf.size).getD j .top=ds.getD j .top:=by simp [List.getD,hj,γ]
   rw [e1,e2];exact .pure (q3 j (by omega))
 ·exact h.elim
end
inductive oV where
 | tmp (t:Nat)
 | cell (t n:Nat) (ag:Bool)
def fT (P:Program) (N:Nat):ResultVar->Option oV
 | .tmp t=>if t<N then some (.tmp t) else none
 | .cell a t=>do
  let ag <- sS P t
  let n <- vN P t
  if a<N then some (.cell a n ag) else none
def rM (C:Cx) (r:oV) (f:Fr) (σ:St) (K:D->Prop):Prop:=
 match r with
 | .tmp t=>K (f.get t)
 | .cell t n ag=>pW C σ (uX f) (.load n ag (.t t)) K
def pS (C:Cx) (rs:List oV) (f:Fr) (σ:St) (K:D->Prop):Prop:=
 match rs with
 | []=>K (.xI [])
 | [a]=>rM C a f σ K
 | [a,b]=>rM C a f σ λx=>rM C b f σ λy=>K (.xI [x,y])
 | [a,b,c]=>rM C a f σ λx=>rM C b f σ λy=>rM C c f σ λz=>K (.xI [x,y,z])
 | [a,b,c,d]=>rM C a f σ λx=>rM C b f σ λy=>rM C c f σ λz=>rM C d f σ λu=>K (.xI [x,y,z,u])
 | _=>False
def vt (tmps:Array Value):ResultVar->Sem Value:=fun
 | .tmp t=>pure (tmps.getD t undef)
 | .cell a t=>do loadVar t (<- asAddr (tmps.getD a undef))
theorem uH {C:Cx} {E:Env} {a:Act} {w:World} {f:Fr} {σ:St} {ι:Nat->Nat} {r:ResultVar} {dr:oV} {K:D->Prop} (hr:fT C.P C.N r=some dr) (G:yX C E a w f σ ι) (h:rM C dr f σ K) :
  ∃ v d,(vt a.tmps r).run C.P w = .ok v w/\K d/\R (yR E.M0 ι σ) w ι σ.nx v d:=by
 cases r with
 | tmp t=> simp [fT] at hr;obtain⟨_,rfl⟩:=hr;exact⟨_,_,rfl,h,G.fr t⟩
 | cell t ty=>
  simp only [fT,Option.bind_eq_bind,Option.bind_eq_some_iff] at hr;obtain⟨ag,hag,n,hn,hr⟩:=hr
  split at hr
  ·rename_i hlt;simp at hr; subst hr;simp only [vN,ξ] at hn;obtain⟨inf,hi,rfl⟩:=hn;have hx:xM C.N (.tmp t)= some (.t t):=by simp only [xM]; rw [if_pos hlt]
   simp only [rM] at h;obtain⟨v,d,h1,h2,h3⟩:=pr (o:={ (default:Oper) with op:=.load ty (.tmp t) }) (t:=ty) (x:=.tmp t) rfl hag hi hx h G.pY (λx y hxy=>qW G.fr hxy);refine⟨v,d,?_,h2,h3⟩
   have hp:∃ ad,a.tmps.getD t undef = .pointer (some ad):=by
    simp only [pW] at h;have hX:R (yR E.M0 ι σ) w ι σ.nx (a.tmps.getD t undef) (uX f (.t t)):=G.fr t
    split at h
    ·rename_i key sz i off hb;exact⟨_,(hb ▸ hX).vY.1⟩
    ·rename_i cs hb;obtain⟨b,off,vs,h1,_⟩:=(hb ▸ hX).sP;exact⟨_,h1⟩
    ·rename_i b hb;exact⟨_,(hb ▸ hX).lC⟩
    ·exact h.elim
   obtain⟨ad,hp⟩:=hp;simp only [vt,hp];have he:a.eval (.tmp t)= .pointer (some ad):=hp;unfold Yields at h1;simp only [execOp,he,Instr.loadAt,Instr.sureAddr] at h1;simp only [Sem.run_bind,Sem.run_pure,Result.andThen_ok] at h1;simp only [asAddr,Sem.run_bind,Sem.run_pure,Result.andThen_ok];generalize (loadVar ty ad).run C.P w=rr at h1
   cases rr with
   | ok x w'=> simp [Result.andThen] at h1;obtain⟨rfl,rfl⟩:=h1;rfl
   | halt x w'=>simp [Result.andThen] at h1
  ·simp at hr
theorem gv (fn:Func) (tmps:Array Value):results fn tmps=(do
  let vs <- fn.results.mapM (vt tmps)
  pure (if h:vs.size=1 then vs[0] else .tuple vs)):=by
 unfold results;rfl
theorem gu {C:Cx} {E:Env} {a:Act} {w:World} {f:Fr} {σ:St} {ι:Nat->Nat} {fn:Func} {rs:List oV} {K:D->Prop} (hr:zK (fT C.P C.N) fn.results.toList=some rs) (G:yX C E a w f σ ι) (h:pS C rs f σ K) :
  ∃ v d,(results fn a.tmps).run C.P w = .ok v w/\K d/\R (yR E.M0 ι σ) w ι σ.nx v d:=by
 obtain⟨hl,hg⟩:=yJ hr;rw [gv];generalize hfr:fn.results=rr at hl hg;obtain⟨rl⟩:=rr;simp only at hl hg
 have at':∀ (j:Nat) (x:ResultVar) (y:oV),rl[j]?=some x->rs[j]?=some y->fT C.P C.N x=some y:=by intro j x y hx hy;obtain⟨b,hb,hf⟩:=hg j x hx;rw [hy] at hb;simp at hb; subst hb;exact hf
 unfold pS at h
 split at h
 ·match rl,hl with
  | [],_=> exact⟨.tuple #[],.xI [],by simp,h,.xI (by simp) (by simp)⟩
 ·match rl,hl with
  | [r1],_=> obtain⟨v,d,h1,h2,h3⟩:=uH (at' 0 _ _ rfl rfl) G h;exact⟨v,d,by simp [h1],h2,h3⟩
 ·match rl,hl with
  | [r1,r2],_=>
   obtain⟨v,d,h1,h2,h3⟩:=uH (at' 0 _ _ rfl rfl) G h;obtain⟨v',d',g1,g2,g3⟩:=uH (at' 1 _ _ rfl rfl) G h2;refine⟨.tuple #[v,v'],.xI [d,d'],by simp [h1,g1],g2,.xI (by simp) λj hj=>?_⟩
   match j,hj with
   | 0,_=>exact h3
   | 1,_=>exact g3
 ·match rl,hl with
  | [r1,r2,r3],_=>
   obtain⟨v,d,h1,h2,h3⟩:=uH (at' 0 _ _ rfl rfl) G h;obtain⟨v',d',g1,g2,g3⟩:=uH (at' 1 _ _ rfl rfl) G h2;obtain⟨v'',d'',k1,k2,k3⟩:=uH (at' 2 _ _ rfl rfl) G g2;refine⟨.tuple #[v,v',v''],.xI [d,d',d''],by simp [h1,g1,k1],k2,.xI (by simp) λj hj=>?_⟩
   match j,hj with
   | 0,_=>exact h3
   | 1,_=>exact g3
   | 2,_=>exact k3
 ·match rl,hl with
  | [r1,r2,r3,r4],_=>
   obtain⟨v,d,h1,h2,h3⟩:=uH (at' 0 _ _ rfl rfl) G h;obtain⟨v',d',g1,g2,g3⟩:=uH (at' 1 _ _ rfl rfl) G h2;obtain⟨v'',d'',k1,k2,k3⟩:=uH (at' 2 _ _ rfl rfl) G g2;obtain⟨v3,d3,l1,l2,l3⟩:=uH (at' 3 _ _ rfl rfl) G k2;refine⟨.tuple #[v,v',v'',v3],.xI [d,d',d'',d3],by simp [h1,g1,k1,l1],l2,.xI (by simp) λj hj=>?_⟩
   match j,hj with
   | 0,_=>exact h3
   | 1,_=>exact g3
   | 2,_=>exact k3
   | 3,_=>exact l3
 ·exact h.elim
def oS : Nat->List D->Fr
 | _,[]=>[]
 | i,d :: r=>(i,d) :: oS (i+1) r
theorem zk : ∀ (ds:List D) (i t:Nat),(oS i ds).get t=if i<=t then ds.getD (t-i) .top else .top
 | [],i,t=>by simp [oS,Fr.get]
 | d :: r,i,t=>by
  simp only [oS,Fr.get]
  by_cases h:i=t
  ·subst h; simp
  ·rw [if_neg h,zk r]
   by_cases h2:i<=t
   ·have h3:i+1<=t:=by omega
    have h4:t-i=(t-(i+1))+ 1:=by omega
    rw [if_pos h2,if_pos h3,h4];simp
   ·rw [if_neg h2,if_neg (by omega)]
theorem bg {w:World} {b off D:Nat} {x:Option (List Deferred)} {v:Value} (hD:w.heap[D]?=some (Obj.deferred x)) (h:w.cell? ⟨b,off,none⟩= some v):b≠D:=λe=>by subst e;simp [World.cell?,hD] at h
theorem RP.more {M:Nat->Prop} {w:World} {D:Nat} {x:Option (List Deferred)} (hD:w.heap[D]?=some (Obj.deferred x)) {v:Value} {d:Go.Pd.D} (h:RP M w v d):RP (λb=>M b\/b=D) w v d:=by
 induction h with
 | top v=>exact .top v
 | vP=>exact .vP
 | int h=>exact .int h
 | bool b=>exact .bool b
 | str h=>exact .str h
 | uh a cap sz h=>exact .uh a cap sz h
 | emp a cap=>exact .emp a cap
 | @sl b off cap sz xZ vs hs hMb hc hm hl hcell hr ih=>
  rcases Nat.eq_zero_or_pos xZ.length with h0 | h0
  ·have:xZ = []:=List.eq_nil_of_length_eq_zero h0;subst this;exact .uh _ _ _ (by simp)
  ·have hne:=bg hD (hcell 0 h0 0 hs);exact .sl vs hs (λhm'=>hm'.elim hMb hne) hc hm hl hcell ih
 | xU=>exact .xU
 | @ptr b off cs vs hs hMb hcell hr ih=> have hne:=bg hD (hcell 0 hs);exact .ptr vs hs (λhm'=>hm'.elim hMb hne) hcell ih
 | agg hl hr ih=>exact .agg hl ih
 | xI hl hr ih=>exact .xI hl ih
 | fn hl hr ih=>exact .fn hl ih
 | sY=>exact .sY
 | uA=>exact .uA
 | uL=>exact .uL
 | kI b=>exact .kI b
theorem R.more {M:Nat->Prop} {w:World} {ι:Nat->Nat} {n:Nat} {D:Nat} {x:Option (List Deferred)} (hD:w.heap[D]?=some (Obj.deferred x)) {v:Value} {d:Go.Pd.D} (h:R M w ι n v d):R (λb=>M b\/b=D) w ι n v d:=by
 induction h with
 | pure h=>exact .pure (h.more hD)
 | ref hk h0=>exact .ref hk h0
 | xP hk h1 h2 h3 h4=>exact .xP hk h1 h2 h3 h4
 | sub hk h1 h2 h3 h4=>exact .sub hk h1 h2 h3 h4
 | xG hk=>exact .xG hk
 | agg hl hr ih=>exact .agg hl ih
 | xI hl hr ih=>exact .xI hl ih
 | fn hl hr ih=>exact .fn hl ih
theorem iP {M0:Nat->Prop} {ι:Nat->Nat} {σ:St} {D b:Nat} (h:yR (λb=>M0 b\/b=D) ι σ b):yR M0 ι σ b\/b=D:=by
 rcases h with (h | h) | h
 ·exact .inl (.inl h)
 ·exact .inr h
 ·exact .inl (.inr h)
theorem R.Tt {M0:Nat->Prop} {w:World} {ι:Nat->Nat} {n:Nat} {σ:St} {D:Nat} {x:Option (List Deferred)} (hD:w.heap[D]?=some (Obj.deferred x)) {v:Value} {d:Go.Pd.D} (h:R (yR M0 ι σ) w ι n v d):R (yR (λb=>M0 b\/b=D) ι σ) w ι n v d:=(h.more hD).yY (λ_ _ _=>rfl) (λb _ hb=>iP hb) (λb cur e hc=>⟨cur,hc,rfl⟩) (λ_ _=>rfl) (κ _)
theorem yC.more {M0:Nat->Prop} {w:World} {σ:St} {ι:Nat->Nat} {D:Nat} {x:Option (List Deferred)} (hS:yC M0 w σ ι) (hD:w.heap[D]?=some (Obj.deferred x)) (ht:∀ p ∈ vU.tN,p.1≠D):yC (λb=>M0 b\/b=D) w σ ι:=
 ⟨λb hb=>hb.elim (hS.uJ b) λe=>by rw [e]; exact(Array.getElem?_eq_some_iff.1 hD).1,λk o hk=>⟨(hS.holds k o hk).1,xB.imp (hS.holds k o hk).2 λhr=>hr.Tt hD⟩,hS.inj,
  λk o hk hb=>hb.elim (hS.notM k o hk) λe=>hS.iX hD ⟨k,o,hk,e⟩,⟨λp hp=>let ⟨h1,h2,h3⟩:=hS.tN.1 p hp; ⟨h1,λhm=>(iP hm).elim h2 (ht p hp),h3⟩,λq hq=>let ⟨h1,v,h2,h3⟩:=hS.tN.2 q hq; ⟨λhm=>(iP hm).elim h1 λe=>(by rw [e] at h2; simp [World.cell?,hD] at h2),v,h2,(h3.more hD).yY (λ_ _ _=>rfl) λb _ hb=>iP hb⟩⟩⟩
theorem pK {w:World} {b:Nat} {o o':Obj} (h:w.heap[b]?=some o) (hn:∀ cur e,o≠Obj.cells cur e (0,0)):Kept w (w.putObj b o') λx=>x=b:=by
 refine⟨rfl,rfl,rfl,by simp,λx _ hx=>World.putObj_heap_other hx,λx cur e hx=>⟨cur,?_,rfl⟩,κ _⟩
 have hne:x≠b:=λe'=>by subst e';rw [h] at hx;exact hn cur e (Option.some.inj hx)
 rw [World.putObj_heap_other hne]; exact hx
theorem yX.shut {C:Cx} {E:Env} {a:Act} {w:World} {f:Fr} {σ:St} {ι:Nat->Nat} {D:Nat} {x y:Option (List Deferred)} (G:yX C E a w f σ ι) (ha:a.defers = []) (hD:w.heap[D]?=some (Obj.deferred x)) (hB:E.w0.heap.size<=D) (ht:∀ p ∈ vU.tN,p.1≠D) :
  yX C E a (w.putObj D (Obj.deferred y)) f σ ι:=by
 have hk:Kept w (w.putObj D (Obj.deferred y)) λb=>b=D:=pK hD (λ_ _ e=>by cases e);have hS:=(G.pY.more hD ht).R0 hk λb hb=>.inr hb;refine⟨G.size,.none ha (by rw [World.putObj_size]; exact G.defers.1),G.nx,G.kept.trans hk (λ_ _ h=>h) λb hb e=>absurd hb (by omega),hS.less λb hb=>.inl hb,G.uJ,G.sW,G.stay,λt=>?_⟩;have h1:=(G.fr t).Tt (M0:=E.M0) hD;exact h1.yY (λb hb hM=>hk.block b hb λe=>hM (.inl (.inr e))) (λb _ hb=>hb.imp .inl id) hk.shape (λ_ _=>rfl) (κ _)
theorem iH {C:Cx} {E:Env} {fn:Func} {rs:List oV} {tmps:Array Value} {f:Fr} {σ:St} {ι:Nat->Nat} {K:D->Prop} {Rp:Ending->World->Prop} (hr:zK (fT C.P C.N) fn.results.toList=some rs) (hres:pS C rs f σ K) (hB:E.w0.heap.size<=E.B) (ht:∀ p ∈ vU.tN,p.1<E.w0.heap.size)
  (hfin:∀ w v d,yX C E { tmps:=tmps,defers:=[] } w f σ ι->(results fn tmps).run C.P w = .ok v w->K d->R (yR E.M0 ι σ) w ι σ.nx v d->Rp (.returned v) w):∀ (l:List Nat) (w:World),l.Nodup->(∀ D ∈ l,w.heap[D]?=some (Obj.deferred (some []))/\ E.B<=D) ->
   yX C E { tmps:=tmps,defers:=[] } w f σ ι->LeavesInM Fence.wide 0 C.P fn tmps Rp (l.map λD=>{ target:=.collected D,args:=#[] }) .returning w
 | [],w,_,_,G=>by obtain⟨v,d,h1,h2,h3⟩:=gu hr G hres;exact⟨v,h1,hfin w v d G h1 h2 h3⟩
 | D :: l,w,hn,hl,G=>by obtain⟨hD,hDB⟩:=hl D (by simp);rw [List.nodup_cons] at hn;refine⟨by simp,.inl ⟨D,w.putObj D (Obj.deferred none),rfl,run_takeDeferred hD,iH hr hres hB ht hfin l _ hn.2 (λD' hD'=>?_) (G.shut rfl hD (by omega) λp hp=>by have:=ht p hp; omega)⟩⟩;have:=hl D' (by simp [hD']);have hne:D'≠D:=λe=>hn.1 (e ▸ hD');rw [World.putObj_heap_other hne];exact this
def eU (n0:Nat) (σ1:St) (d1:D) (σ':St) (d:D):Prop:=(d=d1/\σ'=σ1)\/∃ ρ:Nat->Nat,n0<=σ'.nx/\(∀ k,k<n0->ρ k=k)/\ vw σ1 σ' ρ d1 d/\stays σ1 σ' ρ/\rU σ' ρ
def rn (C:Cx) (rs:List oV) (d:D) (σ':St) (e:Exit) (f:Fr) (σ1:St):Prop:=(e = .ret\/e = .normal)/\ pS C rs f σ1 λd1=>eU C.n0 σ1 d1 σ' d
theorem xW.Ul {P:Program} {g:FuncId} {fn:Func} {code:Code} {dc:DC} {own:List Nat} {args:List D} {σ:St} {d:D} {σ':St} {rs:List oV} (hm:P.follows .mixedOrders=true) (hf:P.funcs[g]?=some fn) (hb:fn.body=some code)
  (hname:(fn.name == "runtime.NumGoroutine")= false) (hc:vC P fn.ntmps own code=some dc) (hr:zK (fT P fn.ntmps) fn.results.toList=some rs) (hla:args.length<=fn.ntmps)
  (h:wpS ⟨P,fn.ntmps,σ.nx,own,none⟩ dc (oS 0 args) σ (rn ⟨P,fn.ntmps,σ.nx,own,none⟩ rs d σ')):xW P g args σ d σ':=by
 refine⟨⟨fn,hf,hname,by rw [hb]; rfl⟩,λM0 w ι vals hS hl hv=>?_⟩
 let C:Cx:=⟨P,fn.ntmps,σ.nx,own,none⟩
 let E:Env:=⟨w,M0,tA ι σ,ι,w.heap.size⟩
 have G:yX C E { tmps:=vals++Array.replicate (fn.ntmps-vals.size) undef,defers:=[] } w (oS 0 args) σ ι:=by
  refine⟨by show (vals++Array.replicate (fn.ntmps-vals.size) undef).size=fn.ntmps; simp; omega,.none rfl (κ _),κ _,Kept.refl _ _,hS,hS.uJ,λk o hk=>.inr ⟨k,o,hk,rfl⟩,λ_ _=>rfl,λt=>?_⟩;rw [zk];simp only [Nat.zero_le,if_pos,Nat.sub_zero]
  by_cases ht:t<args.length
  ·have:=hv t ht
   have e:(vals++Array.replicate (fn.ntmps-vals.size) undef).getD t undef=vals.getD t undef:=by simp only [Array.getD_eq_getD_getElem?];rw [Array.getElem?_append_left (by omega)]
   rw [e]; exact this
  ·have:args.getD t .top = .top:=by simp [List.getD,δ (Nat.le_of_not_lt ht)]
   rw [this];exact R.top _
 refine(callsIn_wide (n:=0)).1 (callsIn_of_wp_marks hf hb trivial (wpIn_mono (show code.wpIn Fence.wide 0 P _ _ _ from h code hc E _ w ⟨ι,G⟩) λe a' w' hq=>?_));obtain⟨f',σ1,⟨ι1,G1⟩,he,hres⟩:=hq;obtain⟨hl0,l,hl1,hl2,hl3⟩:=G1.defers;have G2:yX C E { tmps:=a'.tmps,defers:=[] } w' f' σ1 ι1:=⟨G1.size,.none rfl hl0,G1.nx,G1.kept,G1.pY,G1.uJ,G1.sW,G1.stay,G1.fr⟩
 have key:LeavesInM Fence.wide 0 P fn a'.tmps (λe w'=>∃ v ι',e=Ending.returned v/\Kept w w' (tA ι σ)/\ yC M0 w' σ' ι'/\σ.nx<=σ'.nx/\(∀ k,k<σ.nx->ι' k=ι k)/\
   (∀ k o,σ'.get k=some o->w.heap.size<=ι' k\/tA ι σ (ι' k))/\ R (yR M0 ι' σ') w' ι' σ'.nx v d) a'.defers .returning w':=by
  rw [hl1];refine iH (C:=C) (E:=E) hr hres (κ _) (λp hp=>(hS.tN.1 p hp).1) (λw1 v d1 G1 hrun hret hR=>?_) l w' hl2 hl3 G2
  rcases hret with ⟨rfl,rfl⟩ | ⟨ρ,r1,r2,r3,r4,r5⟩
  ·exact⟨v,ι1,rfl,G1.kept,G1.pY,G1.nx,λk hk=>G1.stay k hk,G1.sW,hR⟩
  ·have hlive:∀ p ∈ σ'.xY,∃ ob,σ1.get (ρ p.1)= some ob:=λp hp=>by obtain⟨_,ob,h,_⟩:=r4 p hp;exact⟨ob,h⟩
   refine⟨v,λk=>ι1 (ρ k),rfl,G1.kept,G1.pY.view r4 r5,r1,λk hk=>?_,λk o hk=>?_,oP G1.pY hlive _ _ hR r3⟩
   ·show ι1 (ρ k)= ι k;rw [r2 k hk]; exact G1.stay k hk
   ·obtain⟨ob,h⟩:=hlive _ (wT hk);exact G1.sW _ _ h
 rcases he with rfl | rfl
 ·exact key
 ·exact key
def tQ : St:=⟨0,[]⟩
def xK (P:Program) (g:FuncId) (args:List D) (d:D):Prop:=xW P g args tQ d tQ
theorem R.zero {M:Nat->Prop} {w:World} {ι:Nat->Nat} {v:Value} {d:D} (h:R M w ι 0 v d):RP M w v d:=by
 induction h with
 | pure h=>exact h
 | ref hk=>omega
 | xP hk=>omega
 | sub hk=>omega
 | xG hk=>omega
 | agg hl hr ih=>exact .agg hl ih
 | xI hl hr ih=>exact .xI hl ih
 | fn hl hr ih=>exact .fn hl ih
theorem qz {args:List D} (h:D.xJ args=true) (j:Nat):(args.getD j .top).xH=true:=vL h j
theorem xW.vZ {P:Program} {g:FuncId} {args:List D} {d:D} {σ:St} (hc:xK P g args d) (hp:D.xJ args=true):xW P g args σ d σ:=by
 refine⟨hc.ord,λM0 w ι vals hS hl hv=>?_⟩;have S1:yC (yR M0 ι σ) w tQ ι:=⟨λb hb=>yR.lt hS hb,(λk o hk=>by cases hk),(λk k' o o' hk=>by cases hk),(λk o hk=>by cases hk),hS.tN.yY (κ _) (λ_ _ _=>rfl) λb _ hb=>hb.elim id λ⟨k,o,hk,_⟩=>by cases hk⟩
 have e1:∀ (ι':Nat->Nat) b,yR (yR M0 ι σ) ι' tQ b->yR M0 ι σ b:=by
  intro ι' b hb
  rcases hb with hb | ⟨k,o,hk,_⟩
  ·exact hb
  ·cases hk
 refine(hc.run _ w ι vals S1 hl λj hj=>.pure (((hv j hj).eI (qz hp j)).yY (λ_ _ _=>rfl) λb _ hb=>e1 ι b hb)).mono λe w' hh=>?_;obtain⟨v,ι',rfl,k1,k2,k3,k4,k5,k6⟩:=hh;have K0:Kept w w' λ_=>False:=k1.mono λb _ ⟨k,o,hk,_⟩=>by cases hk
 exact⟨v,ι,rfl,K0.none _,hS.ext K0,κ _,λ_ _=>rfl,λk o hk=>.inr ⟨k,o,hk,rfl⟩,.pure (k6.zero.yY (λ_ _ _=>rfl) λb _ hb=>.inl hb)⟩
mutual
def D.flat : D->Bool
 | .int _ _ | .bool _ | .str _ | .vP | .xU | .sY | .uA | .uL | .top=>true
 | .agg cs | .xI cs=>D.de cs
 | _=>false
def D.de : List D->Bool
 | []=>true
 | d :: r=>d.flat&&D.de r
end
theorem RP.flat {M M':Nat->Prop} {w:World} {v:Value} {d:D} (h:RP M w v d) (hf:d.flat=true):RP M' w v d:=by
 have fl:∀ {cs:List D},D.de cs=true->∀ j,(cs.getD j .top).flat=true:=by
  intro cs
  induction cs with
  | nil=>intro _ j; simp [D.flat]
  | cons d r ih=>
   intro h j;simp only [D.de,ν] at h
   cases j with
   | zero=>simpa using h.1
   | succ j=>simpa using ih h.2 j
 induction h with
 | top v=>exact .top v
 | vP=>exact .vP
 | int h=>exact .int h
 | bool b=>exact .bool b
 | str h=>exact .str h
 | uh=>simp [D.flat] at hf
 | emp=>simp [D.flat] at hf
 | sl=>simp [D.flat] at hf
 | xU=>exact .xU
 | ptr=>simp [D.flat] at hf
 | agg hl hr ih=>simp only [D.flat] at hf; exact .agg hl λj hj=>ih j hj (fl hf j)
 | xI hl hr ih=>simp only [D.flat] at hf; exact .xI hl λj hj=>ih j hj (fl hf j)
 | fn=>simp [D.flat] at hf
 | sY=>exact .sY
 | uA=>exact .uA
 | uL=>exact .uL
 | kI b=>simp [D.flat] at hf
theorem fF (l r:List (Nat × Ob)) (k:Nat):St.look (l++r) k=(St.look l k).or (St.look r k):=by
 induction l with
 | nil=>simp [St.look]
 | cons p l ih=>
  obtain⟨j,o⟩:=p;simp only [List.cons_append,St.look]
  split
  ·simp
  ·exact ih
mutual
def D.shift (c:Nat):D->D
 | .ref k sz i off=>.ref (c+k) sz i off
 | .xP k sz n=>.xP (c+k) sz n
 | .sub k sz lo n=>.sub (c+k) sz lo n
 | .xG k=>.xG (c+k)
 | .agg cs=>.agg (D.wA c cs)
 | .xI cs=>.xI (D.wA c cs)
 | .fn f cs=>.fn f (D.wA c cs)
 | d=>d
def D.wA (c:Nat):List D->List D
 | []=>[]
 | d :: r=>d.shift c :: D.wA c r
end
def Ob.shift (c:Nat) (o:Ob):Ob:=⟨o.sz,o.xZ.map (D.wA c)⟩
def zZ (c:Nat):List (Nat × Ob)->List (Nat × Ob)
 | []=>[]
 | (k,o) :: r=>(c+k,o.shift c) :: zZ c r
theorem uN (c:Nat):∀ cs:List D,(D.wA c cs).length=cs.length
 | []=>rfl
 | d :: r=>by simp [D.wA,uN c r]
theorem rZ (c:Nat):∀ (cs:List D) (j:Nat),(D.wA c cs).getD j .top=(cs.getD j .top).shift c
 | [],j=>by simp [D.wA,D.shift]
 | d :: r,0=>by simp [D.wA]
 | d :: r,j+1=>by simpa [D.wA] using rZ c r j
theorem gx (c:Nat) {d:D}:d.xH=true->d.shift c=d:=by
 refine D.rec (motive_1:=λd=>d.xH=true->d.shift c=d) (motive_2:=λ_=>True) (motive_3:=λcs=>D.xJ cs=true->D.wA c cs=cs)
  ?top ?vP ?int ?bool ?str ?sl ?xU ?emp ?agg ?xI ?fn ?ref ?xP ?sub ?ptr ?xG ?sY ?uA ?uL ?kI trivial (λ_ _ _ _=>trivial) ?nil ?cons d
 case agg=>intro cs ih h; simp only [D.xH] at h; simp only [D.shift,ih h]
 case xI=>intro cs ih h; simp only [D.xH] at h; simp only [D.shift,ih h]
 case fn=>intro f cs ih h; simp only [D.xH] at h; simp only [D.shift,ih h]
 case ref=>intro k sz i off h; simp [D.xH] at h
 case xP=>intro k sz n h; simp [D.xH] at h
 case sub=>intro k sz lo n h; simp [D.xH] at h
 case xG=>intro k h; simp [D.xH] at h
 case nil=>intro _; rfl
 case cons=> intro d r h1 h2 h;simp only [D.xJ,ν] at h;simp only [D.wA,h1 h.1,h2 h.2]
 all_goals intros; rfl
theorem RP.xH {M:Nat->Prop} {w:World} {v:Value} {d:D} (h:RP M w v d):d.xH=true:=by
 have pl:∀ {cs:List D},(∀ j,j<cs.length->(cs.getD j .top).xH=true)->D.xJ cs=true:=by
  intro cs
  induction cs with
  | nil=>intro _; rfl
  | cons d r ih=> intro h;simp only [D.xJ,ν];exact⟨by simpa using h 0 (by simp),ih λj hj=>by simpa using h (j+1) (by simpa using hj)⟩
 induction h with
 | agg hl hr ih=>exact pl ih
 | xI hl hr ih=>exact pl ih
 | fn hl hr ih=>exact pl ih
 | _=>rfl
theorem R.shift {M Mn:Nat->Prop} {w:World} {ι ιn:Nat->Nat} {c m:Nat} (hM:∀ b,Mn b->M b) (hi:∀ k,k<m->ιn (c+k)= ι k) {v:Value} {d:D} (h:R M w ι m v d):R Mn w ιn (c+m) v (d.shift c):=by
 induction h with
 | pure h=> rw [gx c h.xH];exact .pure (h.yY (λ_ _ _=>rfl) λb _ hb=>hM b hb)
 | @ref key sz i off hk h0=>rw [<- hi _ hk]; exact .ref (ι:=ιn) (key:=c+key) (by omega) h0
 | @xP key sz len cap cur e hk h1 h2 h3 h4=> rw [<- hi _ hk] at h3 ⊢;exact .xP (ι:=ιn) (key:=c+key) (by omega) h1 h2 h3 h4
 | @sub key sz lo len cap off cur e hk h1 h2 h3 h4=> rw [<- hi _ hk] at h3 ⊢;exact .sub (ι:=ιn) (key:=c+key) (by omega) h1 h2 h3 h4
 | @xG key hk=>rw [<- hi _ hk]; exact .xG (ι:=ιn) (key:=c+key) (by omega)
 | agg hl hr ih=>exact .agg (by rw [hl,uN]) λj hj=>by rw [rZ]; exact ih j (by rw [uN] at hj; exact hj)
 | xI hl hr ih=>exact .xI (by rw [hl,uN]) λj hj=>by rw [rZ]; exact ih j (by rw [uN] at hj; exact hj)
 | fn hl hr ih=>exact .fn (by rw [hl,uN]) λj hj=>by rw [rZ]; exact ih j (by rw [uN] at hj; exact hj)
theorem jS (c:Nat):∀ (l:List (Nat × Ob)) (k:Nat) (o:Ob),St.look (zZ c l) k=some o->∃ k0 o0,k=c+k0/\St.look l k0=some o0/\o=o0.shift c
 | [],k,o,h=>by cases h
 | (j,ob) :: r,k,o,h=>by
  simp only [zZ,St.look] at h
  split at h
  ·rename_i e;simp at h; subst h; subst e;exact⟨j,ob,rfl,by simp [St.look],rfl⟩
  ·rename_i e;obtain⟨k0,o0,rfl,h2,h3⟩:=jS c r k o h;refine⟨k0,o0,rfl,?_,h3⟩;simp only [St.look];rw [if_neg (λe'=>e (by rw [e']))];exact h2
theorem xW.own {P:Program} {g:FuncId} {args:List D} {d:D} {σ:St} {m:Nat} {xY:List (Nat × Ob)} (hc:xW P g args tQ d ⟨m,xY⟩) (hp:D.xJ args=true):xW P g args σ (d.shift σ.nx) ⟨σ.nx+m,zZ σ.nx xY++σ.xY⟩:=by
 refine⟨hc.ord,λM0 w ι vals hS hl hv=>?_⟩;have S1:yC (yR M0 ι σ) w tQ ι:=⟨λb hb=>yR.lt hS hb,(λk o hk=>by cases hk),(λk k' o o' hk=>by cases hk),(λk o hk=>by cases hk),hS.tN.yY (κ _) (λ_ _ _=>rfl) λb _ hb=>hb.elim id λ⟨k,o,hk,_⟩=>by cases hk⟩
 have e1:∀ b,yR (yR M0 ι σ) ι tQ b->yR M0 ι σ b:=by
  intro b hb
  rcases hb with hb | ⟨k,o,hk,_⟩
  ·exact hb
  ·cases hk
 refine(hc.run _ w ι vals S1 hl λj hj=>.pure (((hv j hj).eI (qz hp j)).yY (λ_ _ _=>rfl) λb _ hb=>e1 b hb)).mono λe w' hh=>?_;obtain⟨v,ι',rfl,k1,k2,k3,k4,k5,k6⟩:=hh;have K0:Kept w w' λ_=>False:=k1.mono λb _ ⟨k,o,hk,_⟩=>by cases hk
 let ιn:Nat->Nat:=λk=>if k<σ.nx then ι k else ι' (k-σ.nx)
 have n1:∀ k,k<σ.nx->ιn k=ι k:=λk hk=>by simp only [ιn,if_pos hk]
 have n2:∀ k,ιn (σ.nx+k)= ι' k:=λk=>by simp only [ιn,if_neg (show ¬ (σ.nx+k<σ.nx) by omega)];congr 1; omega
 have lk:∀ k o,St.get ⟨σ.nx+m,zZ σ.nx xY++σ.xY⟩ k=some o->(∃ k0 o0,k=σ.nx+k0/\St.get ⟨m,xY⟩ k0=some o0/\o=o0.shift σ.nx)\/(k<σ.nx/\σ.get k=some o):=by
  intro k o hk;unfold St.get at hk;simp only at hk;rw [fF] at hk
  cases h1:St.look (zZ σ.nx xY) k with
  | some o1=> rw [h1] at hk;simp at hk; subst hk;exact .inl (jS _ _ _ _ h1)
  | none=> rw [h1] at hk;simp at hk;exact .inr ⟨(hS.holds k o hk).1,hk⟩
 have fresh:∀ k o,St.get ⟨m,xY⟩ k=some o->w.heap.size<=ι' k:=by
  intro k o hk
  rcases k5 _ _ hk with h | ⟨k0,o0,hk0,_⟩
  ·exact h
  ·cases hk0
 have mm:∀ b,b<w.heap.size->yR M0 ιn ⟨σ.nx+m,zZ σ.nx xY++σ.xY⟩ b->yR M0 ι σ b:=by
  intro b hb hm
  rcases hm with hm | ⟨k,o,hk,rfl⟩
  ·exact .inl hm
  ·rcases lk k o hk with ⟨k0,o0,rfl,h2,_⟩ | ⟨h1,h2⟩
   ·have:=fresh k0 o0 h2;rw [n2] at hb;omega
   ·exact .inr ⟨k,o,h2,(n1 k h1).symm⟩
 have mv:∀ b,yR M0 ιn ⟨σ.nx+m,zZ σ.nx xY++σ.xY⟩ b->yR (yR M0 ι σ) ι' ⟨m,xY⟩ b:=by
  intro b hm
  rcases hm with hm | ⟨k,o,hk,rfl⟩
  ·exact .inl (.inl hm)
  ·rcases lk k o hk with ⟨k0,o0,rfl,h2,_⟩ | ⟨h1,h2⟩
   ·exact .inr ⟨k0,o0,h2,(n2 k0).symm⟩
   ·exact .inl (.inr ⟨k,o,h2,(n1 k h1).symm⟩)
 refine⟨v,ιn,rfl,K0.none _,⟨λb hb=>Nat.lt_of_lt_of_le (hS.uJ b hb) K0.size,λk o hk=>?_,λk k' o o' hk hk' e=>?_,λk o hk hm=>?_,k2.tN.yY (κ _) (λ_ _ _=>rfl) λb _ hb=>mv b hb⟩,Nat.le_add_right _ _,n1,λk o hk=>?_,R.shift mv (λk _=>n2 k) k6⟩
 ·rcases lk k o hk with ⟨k0,o0,rfl,h2,rfl⟩ | ⟨h1,h2⟩
  ·obtain⟨g1,g2⟩:=k2.holds k0 o0 h2;have glt:k0<m:=g1;rcases g2 with ⟨s0,cur,e,c1,c2,c3,c4⟩ | ⟨s0,es,c1,c2,c3⟩
   case inr=>
    refine⟨by show σ.nx+k0<σ.nx+m; omega,.inr ⟨s0,es,by rw [n2]; exact c1,by simpa [Ob.shift] using c2,λi hi=>?_⟩⟩;simp only [Ob.shift,List.length_map] at hi ⊢;obtain⟨kk,v,x,d,r1,r2,r3,r4⟩:=c3 i hi;refine⟨kk,v,x.shift σ.nx,d.shift σ.nx,?_,r2,R.shift mv (λk _=>n2 k) r3,R.shift mv (λk _=>n2 k) r4⟩;have:(o0.xZ.map (D.wA σ.nx)).getD i []=D.wA σ.nx (o0.xZ.getD i []):=by simp [List.getD,hi]
    rw [this,r1]; rfl
   refine⟨by show σ.nx+k0<σ.nx+m; omega,.inl ⟨s0,cur,e,by rw [n2]; exact c1,λel he=>?_,by simpa [Ob.shift] using c3,λi hi j hj=>?_⟩⟩
   ·simp only [Ob.shift,η] at he ⊢;obtain⟨el',h3,rfl⟩:=he;rw [uN]; exact c2 _ h3
   ·simp only [Ob.shift,List.length_map] at hi hj ⊢;have h3:=c4 i hi j hj
    have e2:((o0.xZ.map (D.wA σ.nx)).getD i []).getD j .top=((o0.xZ.getD i []).getD j .top).shift σ.nx:=by
     have:(o0.xZ.map (D.wA σ.nx)).getD i []=D.wA σ.nx (o0.xZ.getD i []):=by simp [List.getD,hi]
     rw [this,rZ]
    rw [e2];exact⟨h3.1,R.shift mv (λk _=>n2 k) h3.2⟩
  ·obtain⟨g1,g2⟩:=hS.holds k o h2;exact⟨by show k<σ.nx+m; omega,g2.yY (K0.block _ (tA.lt hS ⟨k,o,h2,rfl⟩) id) (n1 k h1) (λb hb _=>K0.block b hb id) (λb hb hm=>mm b hb hm) K0.shape n1 (Nat.le_add_right _ _)⟩
 ·rcases lk k o hk with ⟨k0,o0,rfl,h2,rfl⟩ | ⟨h1,h2⟩ <;> rcases lk k' o' hk' with ⟨k0',o0',rfl,h2',rfl⟩ | ⟨h1',h2'⟩
  ·rw [n2,n2] at e;rw [k2.inj _ _ _ _ h2 h2' e]
  ·rw [n2,n1 k' h1'] at e;have:=fresh _ _ h2;have:=tA.lt hS ⟨k',o',h2',rfl⟩;omega
  ·rw [n1 k h1,n2] at e;have:=fresh _ _ h2';have:=tA.lt hS ⟨k,o,h2,rfl⟩;omega
  ·rw [n1 k h1,n1 k' h1'] at e;exact hS.inj _ _ _ _ h2 h2' e
 ·rcases lk k o hk with ⟨k0,o0,rfl,h2,rfl⟩ | ⟨h1,h2⟩
  ·rw [n2] at hm;have:=fresh _ _ h2;have:=hS.uJ _ hm;omega
  ·rw [n1 k h1] at hm;exact hS.notM k o h2 hm
 ·rcases lk k o hk with ⟨k0,o0,rfl,h2,rfl⟩ | ⟨h1,h2⟩
  ·rw [n2]; exact .inl (fresh _ _ h2)
  ·rw [n1 k h1]; exact .inr ⟨k,o,h2,rfl⟩
end Go.Pd
namespace Go.Pd
open Go
variable [vU]
mutual
def D.fact : D->Prop
 | .int k n=>k.min<=n/\n<=k.max
 | .sl _ xZ=>xZ.length<=9223372036854775807/\D.Yu xZ
 | .agg cs | .xI cs | .fn _ cs | .ptr cs=>D.nE cs
 | _=>True
def D.nE : List D->Prop
 | []=>True
 | d :: r=>d.fact/\D.nE r
def D.Yu : List (List D)->Prop
 | []=>True
 | e :: r=>D.nE e/\D.Yu r
end
theorem tI : ∀ {cs:List D},(∀ j,j<cs.length->(cs.getD j .top).fact)->D.nE cs
 | [],_=>trivial
 | d :: r,h=>⟨by simpa using h 0 (by simp),tI λj hj=>by simpa using h (j+1) (by simpa using hj)⟩
theorem qn : ∀ {es:List (List D)},(∀ i,i<es.length->D.nE (es.getD i []))->D.Yu es
 | [],_=>trivial
 | e :: r,h=>⟨by simpa using h 0 (by simp),qn λj hj=>by simpa using h (j+1) (by simpa using hj)⟩
theorem RP.fact {M:Nat->Prop} {w:World} {v:Value} {d:D} (h:RP M w v d):d.fact:=by
 induction h with
 | int h=>exact h
 | uh=>exact⟨by simp,trivial⟩
 | @sl b off cap sz xZ vs hs hM hc hm hl hcell hr ih=>
  refine⟨by simp only [maxLen] at hm; omega,qn λi hi=>tI λj hj=>?_⟩;have hmem:xZ.getD i [] ∈ xZ:=by simp [List.getD,hi]
  exact ih i hi j (by rw [<- hl _ hmem]; exact hj)
 | ptr vs hs hM hc hr ih=>exact tI ih
 | agg hl hr ih=>exact tI ih
 | xI hl hr ih=>exact tI ih
 | fn hl hr ih=>exact tI ih
 | _=>trivial
theorem R.fact {M:Nat->Prop} {w:World} {ι:Nat->Nat} {n:Nat} {v:Value} {d:D} (h:R M w ι n v d):d.fact:=by
 induction h with
 | pure h=>exact h.fact
 | agg hl hr ih=>exact tI ih
 | xI hl hr ih=>exact tI ih
 | fn hl hr ih=>exact tI ih
 | _=>trivial
theorem xW.facts {P:Program} {g:FuncId} {args:List D} {σ σ':St} {d:D} (ho:oI P g) (h:D.nE args->xW P g args σ d σ'):xW P g args σ d σ':=by refine⟨ho,λM0 w ι vals hS hl hv=>?_⟩;exact(h (tI λj hj=>(hv j hj).fact)).run M0 w ι vals hS hl hv
def xV (P:Program) (own:List Nat) (fn:Func):Option (Nat × DC × List oV):=
 match fn.body with
 | none=>none
 | some c=>
  if fn.name == "runtime.NumGoroutine" then none else
  match vC P fn.ntmps own c,zK (fT P fn.ntmps) fn.results.toList with
  | some dc,some rs=>some (fn.ntmps,dc,rs)
  | _,_=>none
theorem xW.Tv {P:Program} {g:FuncId} {fn:Func} {own:List Nat} {N:Nat} {dc:DC} {rs:List oV} {args:List D} {σ:St} {d:D} {σ':St} (hm:P.follows .mixedOrders=true) (hf:P.funcs[g]?=some fn)
  (hc:xV P own fn=some (N,dc,rs)) (hla:args.length<=N)
  (h:D.nE args->oY ⟨P,N,σ.nx,own,none⟩ dc (oS 0 args) σ (rn ⟨P,N,σ.nx,own,none⟩ rs d σ')):xW P g args σ d σ':=by
 unfold xV at hc
 split at hc
 ·cases hc
 ·rename_i c hb
  split at hc
  ·cases hc
  ·rename_i hname
   split at hc
   ·rename_i dc' rs' h1 h2;simp at hc;obtain⟨rfl,rfl,rfl⟩:=hc;refine xW.facts ⟨fn,hf,by simpa using hname,by rw [hb]; rfl⟩ λhfa=>?_;exact xW.Ul hm hf hb (by simpa using hname) h1 h2 hla (dR (C:=⟨P,fn.ntmps,σ.nx,own,none⟩) hm (h hfa))
   ·cases hc
omit [vU]
def rows (k:IntKind) (l:List Int):List (List D):=l.map λn=>[.int k n]
theorem oM (k:IntKind) (l:List Int):(rows k l).length=l.length:=by simp [rows]
theorem bP (k:IntKind) (l:List Int) {i:Nat} (h:i<l.length):(rows k l).getD i [] = [.int k (l.getD i 0)]:=by simp [rows,List.getD,h]
theorem s4 (k:IntKind) (l:List Int):∀ e ∈ rows k l,D.xJ e=true:=by intro e he;simp only [rows,η] at he;obtain⟨n,_,rfl⟩:=he;rfl
theorem r9 (k:IntKind) (l:List Int):∀ e ∈ rows k l,zX e=true:=by intro e he;simp only [rows,η] at he;obtain⟨n,_,rfl⟩:=he;rfl
theorem s5 (k:IntKind) (l:List Int) (n:Nat):(rows k l).take n=rows k (l.take n):=by simp [rows,List.map_take]
theorem wrap_i64 {x:Int} (h:-9223372036854775808<=x/\x<=9223372036854775807):IntKind.i64.wrap x=x:=by simp [IntKind.wrap,IntKind.signed,IntKind.bits];split <;> omega
theorem wrap_u64 {x:Int} (h:0<=x/\x<18446744073709551616):IntKind.u64.wrap x=x:=by simp [IntKind.wrap,IntKind.signed,IntKind.bits];omega
end Go.Pd
