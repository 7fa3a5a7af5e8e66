/- Part X5. -/
import Derived.Test.YtccobgpcnfjbhaaDoorSlX4
import Derived.KernelRfl
import Derived.RangeFuncLeaves
import Derived.RangeFuncRecord
set_option linter.unusedSectionVars false
set_option linter.unusedVariables false
set_option linter.unusedSimpArgs false
set_option linter.defProp false
open List renaming getElem?_eq_none->γ,getElem?_take->δ,getElem_mem->ε,getElem?_append_right->ζ,getElem?_append_left->η,mem_map->θ,getElem?_map->κ
open Nat renaming le_refl->μ,zero_add->ν
open Bool renaming and_eq_true->ξ
open Option renaming map_eq_some_iff->ο
namespace Go.Pd
open Go
variable [zJ]
mutual
def vw (σ σ':St) (ρ:Nat->Nat):D->D->Prop
 | _,.top=>True
 | d,.ref k sz i off=>k<σ'.nx/\d = .ref (ρ k) sz i off
 | d,.zZ k sz n=>k<σ'.nx/\d = .zZ (ρ k) sz n
 | d,.sub k sz lo n=>k<σ'.nx/\d = .sub (ρ k) sz lo n
 | d,.yU k=>k<σ'.nx/\d = .yU (ρ k)
 | d,.agg cs=>match d with
  | .agg ds=>ds.length=cs.length/\pY σ σ' ρ ds cs
  | _=>False
 | d,.yN cs=>match d with
  | .yN ds=>ds.length=cs.length/\pY σ σ' ρ ds cs
  | _=>False
 | d,.fn f cs=>match d with
  | .fn f' ds=>f'=f/\ds.length=cs.length/\pY σ σ' ρ ds cs
  | _=>False
 | d,.sl sz xX=>match d with
  | .sl sz' els'=>sz'=sz/\els'=xX
  | .xY=>xX = []
  | .emp=>xX = []
  | .zZ k0 sz' n=>sz'=sz/\0<sz/\(∀ p ∈ σ'.xZ,ρ p.1≠k0)/\ ∃ ob,σ.get k0=some ob/\ob.sz=sz/\n<=ob.xX.length/\xX=ob.xX.take n/\∀ e ∈ xX,D.xR e=true
  | _=>False
 | d,.ptr cs=>d = .ptr cs\/∃ k0 ob,d = .ref k0 cs.length 0 0/\(∀ p ∈ σ'.xZ,ρ p.1≠k0)/\ σ.get k0=some ob/\ob.sz=cs.length/\ob.xX = [cs]/\D.xR cs=true
 | d,d'=>d=d'
def pY (σ σ':St) (ρ:Nat->Nat):List D->List D->Prop
 | _,[]=>True
 | d :: ds,c :: cs=>vw σ σ' ρ d c/\pY σ σ' ρ ds cs
 | [],_ :: _=>False
end
inductive qk (σ σ' : St) (ρ : Nat -> Nat) : List (List D) -> List (List D) -> Prop
 | same {xX} (h:∀ e ∈ xX,D.xR e=true):qk σ σ' ρ xX xX
 | nil:qk σ σ' ρ [] []
 | cons {a b as bs} (hl:a.length=b.length) (h:pY σ σ' ρ a b) (t:qk σ σ' ρ as bs):qk σ σ' ρ (a :: as) (b :: bs)
theorem yD {l:List (Nat × Ob)} {k:Nat} {o:Ob} (h:St.look l k=some o):(k,o)∈ l:=by
 induction l with
 | nil=>simp [St.look] at h
 | cons p l ih=>
  obtain⟨j,ob⟩:=p;simp only [St.look] at h
  split at h
  ·rename_i e; simp at h; subst e; subst h; simp
  ·exact List.mem_cons_of_mem _ (ih h)
section
variable {M0 : Nat -> Prop} {w : World} {σ σ' : St} {ι : Nat -> Nat} {ρ : Nat -> Nat}
theorem rH (hS:yY M0 w σ ι) (hlive:∀ p ∈ σ'.xZ,∃ ob,σ.get (ρ p.1)= some ob) {d':D} :
  (∀ (v:Value) (d:D),R (xD M0 ι σ) w ι σ.nx v d->vw σ σ' ρ d d'->R (xD M0 (λk=>ι (ρ k)) σ') w (λk=>ι (ρ k)) σ'.nx v d'):=by
 have hM:∀ b,xD M0 (λk=>ι (ρ k)) σ' b->xD M0 ι σ b:=by
  intro b hb
  rcases hb with hb | ⟨k,o,hk,rfl⟩
  ·exact .inl hb
  ·obtain⟨ob,hob⟩:=hlive _ (yD hk);exact .inr ⟨ρ k,ob,hob,rfl⟩
 have hRP:∀ {v:Value} {d:D},RP (xD M0 ι σ) w v d->RP (xD M0 (λk=>ι (ρ k)) σ') w v d:=λh=>h.xE (λ_ _ _=>rfl) λb _ hb=>hM b hb;have leaf:∀ (v:Value) (d:D),R (xD M0 ι σ) w ι σ.nx v d->d.xQ=true->R (xD M0 (λk=>ι (ρ k)) σ') w (λk=>ι (ρ k)) σ'.nx v d:=λv d h hp=>.pure (hRP (h.kD hp))
 refine D.rec (motive_1:=λd'=>∀ (v:Value) (d:D),R (xD M0 ι σ) w ι σ.nx v d->vw σ σ' ρ d d'->R (xD M0 (λk=>ι (ρ k)) σ') w (λk=>ι (ρ k)) σ'.nx v d')
  (motive_2:=λ_=>True)
  (motive_3:=λcs=>∀ (ds:List D) (vs:Nat->Value),ds.length=cs.length->(∀ j,j<ds.length->R (xD M0 ι σ) w ι σ.nx (vs j) (ds.getD j .top))->pY σ σ' ρ ds cs->∀ j,j<cs.length->R (xD M0 (λk=>ι (ρ k)) σ') w (λk=>ι (ρ k)) σ'.nx (vs j) (cs.getD j .top))
  ?top ?wG ?int ?bool ?str ?sl ?xY ?emp ?agg ?yN ?fn ?ref ?zZ ?sub ?ptr ?yU ?qW ?tS ?qV ?xu trivial (λ_ _ _ _=>trivial) ?nil ?cons d'
 case top=>intro v d _ _; exact R.top v
 case wG=>intro v d h hv; simp only [vw] at hv; subst hv; exact leaf v _ h rfl
 case int=>intro k n v d h hv; simp only [vw] at hv; subst hv; exact leaf v _ h rfl
 case bool=>intro b v d h hv; simp only [vw] at hv; subst hv; exact leaf v _ h rfl
 case str=>intro s v d h hv; simp only [vw] at hv; subst hv; exact leaf v _ h rfl
 case xY=>intro v d h hv; simp only [vw] at hv; subst hv; exact leaf v _ h rfl
 case emp=>intro v d h hv; simp only [vw] at hv; subst hv; exact leaf v _ h rfl
 case ptr=>
  intro cs _ v d h hv;simp only [vw] at hv
  rcases hv with rfl | ⟨k0,ob,rfl,h1,h2,h3,h4,h5⟩
  ·exact leaf v _ h rfl
  ·obtain⟨rfl,_,h0⟩:=h.wY;obtain⟨cur,e,c1,c2,c3,c4⟩:=xK.cells (hS.holds k0 ob h2).2 (by omega);rw [h4] at c3 c4;rw [h3] at c3 c4;simp only [List.length_singleton,Nat.one_mul] at c3;rw [show 0*cs.length+0=0 by omega]
   refine .pure (.ptr (λj=>cur.getD j undef) h0 (λhm=>?_) (λj hj=>?_) λj hj=>?_)
   ·rcases hm with hm | ⟨k,o,hk,he⟩
    ·exact hS.notM k0 ob h2 hm
    ·obtain⟨ob',hob'⟩:=hlive _ (yD hk);exact h1 _ (yD hk) (hS.inj _ _ _ _ hob' h2 he)
   ·rw [ν,cell_of_row _ _ _ _ _ _ c1];simp [show j<cur.size by omega]
   ·have:=(c4 0 (by simp) j hj).2;simp only [Nat.zero_mul,ν,List.getD_cons_zero] at this;exact hRP (this.kD (zB h5 j))
 case qW=>intro v d h hv; simp only [vw] at hv; subst hv; exact leaf v _ h rfl
 case tS=>intro v d h hv; simp only [vw] at hv; subst hv; exact leaf v _ h rfl
 case qV=>intro v d h hv; simp only [vw] at hv; subst hv; exact leaf v _ h rfl
 case xu=>intro b v d h hv; simp only [vw] at hv; subst hv; exact leaf v _ h rfl
 case ref=> intro k sz i off v d h hv;simp only [vw] at hv;obtain⟨h1,rfl⟩:=hv;obtain⟨rfl,_,h0⟩:=h.wY;exact R.ref (ι:=λk=>ι (ρ k)) h1 h0
 case zZ=> intro k sz n v d h hv;simp only [vw] at hv;obtain⟨h1,rfl⟩:=hv;obtain⟨cap,cur,e,rfl,k1,k2,k3,k4,k5⟩:=h.wC;exact R.zZ (ι:=λk=>ι (ρ k)) h1 k2 k3 k4 k5
 case sub=> intro k sz lo n v d h hv;simp only [vw] at hv;obtain⟨h1,rfl⟩:=hv;obtain⟨cap,off,cur,e,rfl,k1,k2,k3,k4,k5⟩:=h.sG;exact R.sub (ι:=λk=>ι (ρ k)) h1 k2 k3 k4 k5
 case yU=>
  intro k v d h hv;simp only [vw] at hv;obtain⟨h1,rfl⟩:=hv
  cases h with
  | pure h=>cases h
  | yU _=>exact R.yU (ι:=λk=>ι (ρ k)) h1
 case agg=>
  intro cs ih v d h hv;cases d <;> (try (simp [vw] at hv; done))
  rename_i ds;simp only [vw] at hv;obtain⟨vs,rfl,h1,h2⟩:=h.mT;refine .agg (by omega) λj hj=>?_;exact ih ds (λj=>vs.getD j undef) hv.1 (λj hj=>h2 j hj) hv.2 j hj
 case yN=>
  intro cs ih v d h hv;cases d <;> (try (simp [vw] at hv; done))
  rename_i ds;simp only [vw] at hv;obtain⟨vs,rfl,h1,h2⟩:=h.vq;refine .yN (by omega) λj hj=>?_;exact ih ds (λj=>vs.getD j undef) hv.1 (λj hj=>h2 j hj) hv.2 j hj
 case fn=>
  intro f cs ih v d h hv;cases d <;> (try (simp [vw] at hv; done))
  rename_i f' ds;simp only [vw] at hv;obtain⟨rfl,h3,h4⟩:=hv;obtain⟨vs,rfl,h1,h2⟩:=h.nT;refine .fn (by omega) λj hj=>?_;exact ih ds (λj=>vs.getD j undef) h3 (λj hj=>h2 j hj) h4 j hj
 case sl=>
  intro sz xX _ v d h hv
  cases d <;> (try (simp [vw] at hv; done))
  ·simp only [vw] at hv;obtain⟨rfl,rfl⟩:=hv;exact leaf v _ h rfl
  ·simp only [vw] at hv;subst hv;have:=h.wV;subst this;exact .pure (.xw _ _ _ (by simp))
  ·simp only [vw] at hv;subst hv;obtain⟨ad,cap,rfl⟩:=h.oT;exact .pure (.xw _ _ _ (by simp))
  ·rename_i k0 sz' n;simp only [vw] at hv;obtain⟨rfl,h0,h1,ob,h2,h3,h4,h5,h6⟩:=hv;obtain⟨cap,cur,e,rfl,k1,k2,k3,k4,k5⟩:=h.wC;obtain⟨_,cur',e',c1,c2,c3,c4⟩:=xK.rows (hS.holds k0 ob h2).2 k4;rw [k4] at c1;simp at c1;obtain⟨rfl,rfl⟩:=c1;have hlen:xX.length=n:=by rw [h5]; simp; omega
   rw [<- hlen]
   have hget:∀ i,i<n->xX.getD i []=ob.xX.getD i []:=by intro i hi;rw [h5];simp [List.getD,δ,hi]
   refine .pure (.sl (λi j=>cur.getD (i*sz'+j) undef) h0 (λhm=>?_) (by omega) k3 (λel he=>?_) (λi hi j hj=>?_) (λi hi j hj=>?_))
   ·rcases hm with hm | ⟨k,o,hk,he⟩
    ·exact hS.notM k0 ob h2 hm
    ·obtain⟨ob',hob'⟩:=hlive _ (yD hk);exact h1 _ (yD hk) (hS.inj _ _ _ _ hob' h2 he)
   ·rw [h5] at he;rw [<- h3];exact c2 el (List.mem_of_mem_take he)
   ·have:i*sz'+j<cur.size:=by have:=sY (m:=ob.xX.length) (i:=i) (j:=j) (sz:=sz') (by omega) hj;rw [h3] at c3;omega
    rw [ν,cell_of_row _ _ _ _ _ _ k4];simp [this]
   ·have:=(c4 i (by omega) j (by rw [h3]; exact hj)).2;rw [h3] at this;rw [hget i (by omega)];refine hRP (this.kD ?_);rw [<- hget i (by omega)]
    have hmem:xX.getD i [] ∈ xX:=by
     have:i<xX.length:=by omega
     simp [List.getD,this]
    exact zB (h6 _ hmem) j
 case nil=>intro ds vs _ _ _ j hj; simp at hj
 case cons=>
  intro c cs ih1 ih2 ds vs hl hr hv j hj
  cases ds with
  | nil=>simp at hl
  | cons d ds=>
   simp only [pY] at hv
   cases j with
   | zero=>exact ih1 _ _ (by simpa using hr 0 (by simp)) hv.1
   | succ j=> have:=ih2 ds (λj=>vs (j+1)) (by simpa using hl) (λj hj=>by simpa using hr (j+1) (by simpa using hj)) hv.2 j (by simpa using hj);simpa using this
def stays (σ σ':St) (ρ:Nat->Nat):Prop:=∀ p ∈ σ'.xZ,p.1<σ'.nx/\∃ ob,σ.get (ρ p.1)= some ob/\ob.sz=p.2.sz/\qk σ σ' ρ ob.xX p.2.xX
def sO (σ':St) (ρ:Nat->Nat):Prop:=∀ p ∈ σ'.xZ,∀ q ∈ σ'.xZ,ρ p.1=ρ q.1->p.1=q.1
theorem kL : ∀ {as bs:List (List D)},qk σ σ' ρ as bs->as.length=bs.length/\∀ i,i<bs.length->((as.getD i []).length=(bs.getD i []).length/\(pY σ σ' ρ (as.getD i []) (bs.getD i [])\/(as.getD i []=bs.getD i []/\D.xR (bs.getD i [])= true)))
 | _,_,.same h=>⟨rfl,λi hi=>⟨rfl,.inr ⟨rfl,h _ (by simp [List.getD,hi])⟩⟩⟩
 | _,_,.nil=>⟨rfl,λi hi=>by simp at hi⟩
 | _,_,.cons hl h t=>by
  obtain⟨h1,h2⟩:=kL t;refine⟨by simp [h1],λi hi=>?_⟩
  cases i with
  | zero=>exact⟨by simpa using hl,.inl (by simpa using h)⟩
  | succ i=>simpa using h2 i (by simpa using hi)
theorem yY.view (hS:yY M0 w σ ι) (hst:stays σ σ' ρ) (hap:sO σ' ρ):yY M0 w σ' (λk=>ι (ρ k)):=by
 have hlive:∀ p ∈ σ'.xZ,∃ ob,σ.get (ρ p.1)= some ob:=λp hp=>by obtain⟨_,ob,h,_⟩:=hst p hp;exact⟨ob,h⟩
 have hM0:∀ b,xD M0 (λk=>ι (ρ k)) σ' b->xD M0 ι σ b:=by
  intro b hb
  rcases hb with hb | ⟨k,o,hk,rfl⟩
  ·exact .inl hb
  ·obtain⟨ob,hob⟩:=hlive _ (yD hk);exact .inr ⟨ρ k,ob,hob,rfl⟩
 refine⟨hS.rQ,λk o hk=>?_,λk k' o o' hk hk' e=>?_,λk o hk=>?_,hS.tW.xE (μ _) (λ_ _ _=>rfl) λb _ hb=>hM0 b hb⟩
 ·obtain⟨h1,ob,h2,h3,h4⟩:=hst _ (yD hk);refine⟨h1,?_⟩;obtain⟨g1,g2⟩:=kL h4;simp only at h3 g1 g2;rcases(hS.holds _ _ h2).2 with ⟨s0,cur,e,c1,c2,c3,c4⟩ | ⟨s0,es,c1,c2,c3⟩
  case inr=>
   refine .inr ⟨by rw [<- h3]; exact s0,es,c1,by rw [c2,g1],λi hi=>?_⟩;obtain⟨kk,v,x,d,r1,r2,r3,r4⟩:=c3 i (by omega);obtain⟨e1,e2⟩:=g2 i hi;rw [r1] at e1 e2
   rcases e2 with e2 | ⟨e2,e3⟩
   ·generalize hrow:o.xX.getD i []=row at e1 e2
    match row,e1 with
    | [x',d'],_=> simp only [pY] at e2;exact⟨kk,v,x',d',rfl,r2,rH hS hlive _ _ r3 e2.1,rH hS hlive _ _ r4 e2.2.1⟩
   ·rw [<- e2] at e3;simp only [D.xR,ξ] at e3;exact⟨kk,v,x,d,e2.symm,r2,.pure ((r3.kD e3.1).xE (λ_ _ _=>rfl) λb _ hb=>hM0 b hb),.pure ((r4.kD e3.2.1).xE (λ_ _ _=>rfl) λb _ hb=>hM0 b hb)⟩
  refine .inl ⟨by rw [<- h3]; exact s0,cur,e,c1,λel he=>?_,by rw [<- g1,<- h3]; exact c3,λi hi j hj=>?_⟩
  ·obtain⟨i,hi,rfl⟩:=List.getElem_of_mem he;have e1:=(g2 i hi).1;have e2:o.xX.getD i []=o.xX[i]:=by simp [List.getD,hi]
   have hi':i<ob.xX.length:=by omega
   have e3:ob.xX.getD i []=ob.xX[i]:=by simp [List.getD,hi']
   rw [e2,e3] at e1;rw [<- e1,<- h3];exact c2 _ (ε hi')
  ·rw [<- h3] at hj ⊢;have hc:=c4 i (by omega) j hj;refine⟨hc.1,?_⟩;have hi':i<ob.xX.length:=by omega
   have hlen:(ob.xX.getD i []).length=ob.sz:=by
    have e3:ob.xX.getD i []=ob.xX[i]:=by simp [List.getD,hi']
    rw [e3]; exact c2 _ (ε hi')
   obtain⟨e1,e2⟩:=g2 i hi
   rcases e2 with e2 | ⟨e2,e3⟩
   ·have:∀ (cs ds:List D),ds.length=cs.length->pY σ σ' ρ ds cs->∀ j,j<cs.length->vw σ σ' ρ (ds.getD j .top) (cs.getD j .top):=by
     intro cs
     induction cs with
     | nil=>intro ds _ _ j hj; simp at hj
     | cons c cs ih=>
      intro ds hl hv j hj
      cases ds with
      | nil=>simp at hl
      | cons d ds=>
       simp only [pY] at hv
       cases j with
       | zero=>simpa using hv.1
       | succ j=>simpa using ih ds (by simpa using hl) hv.2 j (by simpa using hj)
    exact rH hS hlive _ _ hc.2 (this _ _ e1 e2 j (by omega))
   ·rw [e2] at hc
    have hM:∀ b,xD M0 (λk=>ι (ρ k)) σ' b->xD M0 ι σ b:=by
     intro b hb
     rcases hb with hb | ⟨k,o,hk,rfl⟩
     ·exact .inl hb
     ·obtain⟨ob,hob⟩:=hlive _ (yD hk);exact .inr ⟨ρ k,ob,hob,rfl⟩
    exact .pure ((hc.2.kD (zB e3 j)).xE (λ_ _ _=>rfl) λb _ hb=>hM b hb)
 ·obtain⟨ob,h1⟩:=hlive _ (yD hk);obtain⟨ob',h2⟩:=hlive _ (yD hk');exact hap _ (yD hk) _ (yD hk') (hS.inj _ _ _ _ h1 h2 e)
 ·obtain⟨ob,h1⟩:=hlive _ (yD hk);exact hS.notM _ _ h1
end
def cS (σ σ':St) (ρ:Nat->Nat) (f:Fr):Fr->Prop
 | []=>True
 | (t,d') :: r=>vw σ σ' ρ (f.get t) d'/\cS σ σ' ρ f r
theorem zA.view {C:Cx} {f f':Fr} {σ σ':St} (ρ:Nat->Nat) (hn:C.n0<=σ'.nx) (hρ:∀ k,k<C.n0->ρ k=k) (hf:cS σ σ' ρ f f') (hst:stays σ σ' ρ) (hap:sO σ' ρ):zA C f σ f' σ':=by
 rintro E a w ⟨ι,G⟩
 have hlive:∀ p ∈ σ'.xZ,∃ ob,σ.get (ρ p.1)= some ob:=λp hp=>by obtain⟨_,ob,h,_⟩:=hst p hp;exact⟨ob,h⟩
 refine⟨λk=>ι (ρ k),G.size,G.defers,hn,G.kept,G.sL.view hst hap,G.rQ,λk o hk=>?_,λk hk=>by simp only [hρ k hk]; exact G.stay k hk,λt=>?_⟩
 ·obtain⟨ob,h⟩:=hlive _ (yD hk);exact G.vC _ _ h
 ·induction f' with
  | nil=>exact R.top _
  | cons p r ih=>
   obtain⟨s,d'⟩:=p;simp only [cS] at hf;simp only [Fr.get]
   split
   ·rename_i e;subst e;exact rH G.sL hlive _ _ (G.fr s) hf.1
   ·exact ih hf.2
theorem zA.frame {C:Cx} {f f':Fr} {σ:St} (hf:∀ t,f'.get t = .top\/f'.get t=f.get t):zA C f σ f' σ:=by
 rintro E a w ⟨ι,G⟩;refine⟨ι,G.size,G.defers,G.nx,G.kept,G.sL,G.rQ,G.vC,G.stay,λt=>?_⟩
 rcases hf t with h | h
 ·rw [h]; exact R.top _
 ·rw [h]; exact G.fr t
end Go.Pd
namespace Go.Pd
open Go
variable [zJ]
section
variable {C : Cx} {M0 : Nat -> Prop} {w : World} {σ : St} {ι : Nat -> Nat} {a : Act} {o : Oper} {ev : yG -> D} {K : D -> Prop}
theorem aH {t:TypeId} {x:Operand} {ag:Bool} {x':yG} {inf:TypeInfo} (hop:o.op = .load t x) (hag:uX C.P t=some ag) (hi:C.P.info? t=some inf) (hx:xU C.N x=some x') (h:pW C σ ev (.load inf.size ag x') K)
  (hS:yY M0 w σ ι) (hR:∀ x y,xU C.N x=some y->R (xD M0 ι σ) w ι σ.nx (a.eval x) (ev y)):∃ v d,Yields C.P o a w v/\K d/\R (xD M0 ι σ) w ι σ.nx v d:=by
 have htd:∃ td,C.P.underlying t=some td:=by
  unfold uX at hag
  cases hu:C.P.underlying t with
  | none=>simp [hu] at hag
  | some td=>exact⟨td,rfl⟩
 obtain⟨td,htd⟩:=htd
 have go:∀ (ad:Addr) (vs:List Value) (ds:List D),a.eval x = .pointer (some ad)->vs.length=inf.size->ds.length=inf.size->(∀ j v,vs[j]?=some v->w.cell? (ad.add j)= some v) ->
   (∀ j,j<inf.size->R (xD M0 ι σ) w ι σ.nx (vs.getD j undef) (ds.getD j .top))->(ag=true\/inf.size=1)->K (vV ag ds)->∃ v d,Yields C.P o a w v/\K d/\R (xD M0 ι σ) w ι σ.nx v d:=by
  intro ad vs ds hX hl hl' hc hr hone hK
  cases ag with
  | true=> refine⟨_,_,(eN hop htd hag hi hl hX hc),hK,?_⟩;refine .agg (by simp [hl,hl']) λj hj=>?_;rw [hl'] at hj;have:=hr j hj;simpa using this
  | false=>
   have h1:inf.size=1:=by simpa using hone
   match vs,hl with
   | [],hl=>simp at hl; omega
   | v :: r,hl=>
    have hc0:=hc 0 v rfl;have e0:ad.add 0=ad:=by simp [Addr.add]
    rw [e0] at hc0;have hr0:=hr 0 (by omega)
    match ds,hl' with
    | [],hl'=>simp at hl'; omega
    | d :: r',hl'=>exact⟨_,_,(eM hop htd hag hX hc0),hK,(by simpa [vV] using hr0)⟩
 simp only [pW] at h
 split at h
 ·rename_i key sz i off hb;obtain⟨h1,h2⟩:=(hb ▸ hR _ _ hx).wY
  split at h
  ·rename_i ob hob;obtain⟨g1,g2,g3,g4,g5⟩:=h;subst g1;obtain⟨cur,e,c1,c2,c3,c4⟩:=xK.cells (hS.holds key ob hob).2 h2.2
   have hlen:(ob.xX.getD i []).length=ob.sz:=by
    have:ob.xX.getD i []=ob.xX[i]:=by simp [List.getD,g2]
    rw [this]; exact c2 _ (ε g2)
   refine go ⟨ι key,i*ob.sz+off,none⟩ ((List.range inf.size).map λj=>cur.getD (i*ob.sz+off+j) undef) _ h1 (by simp) (by rw [List.length_take,List.length_drop,hlen]; omega) (λj v hj=>?_) (λj hj=>?_) g4 g5
   ·simp only [κ,ο,List.getElem?_range'] at hj;obtain⟨j',hj',rfl⟩:=hj
    have hj2:j<inf.size:=by
     rcases Nat.lt_or_ge j inf.size with h | h
     ·exact h
     ·simp [γ (by simpa using h:(List.range inf.size).length<=j)] at hj'
    have e1:j'=j:=by simpa [hj2] using hj'.symm
    subst e1;rw [Addr.add_lit]
    have hlt:i*ob.sz+off+j'<cur.size:=by have:=sY (sz:=ob.sz) (j:=off+j') g2 (by omega);omega
    simp [World.cell?,c1,hlt]
   ·have hq:=(c4 i g2 (off+j) (by omega)).2
    have e1:(List.map (λj=>cur.getD (i*ob.sz+off+j) undef) (List.range inf.size)).getD j undef=cur.getD (i*ob.sz+(off+j)) undef:=by simp [List.getD,hj,Nat.add_assoc]
    have e2:(((ob.xX.getD i []).drop off).take inf.size).getD j .top=(ob.xX.getD i []).getD (off+j) .top:=by simp [List.getD,hj,δ]
    rw [e1,e2];exact hq
  ·exact h.elim
 ·rename_i cs hb;obtain⟨b,off,vs,h1,h2,h3,h4,h5⟩:=(hb ▸ hR _ _ hx).uZ;obtain⟨g1,g2,g3⟩:=h
  refine go ⟨b,off,none⟩ ((List.range inf.size).map vs) _ h1 (by simp) (by simp; omega) (λj v hj=>?_) (λj hj=>?_) g2 g3
  ·simp only [κ,ο] at hj;obtain⟨j',hj',rfl⟩:=hj
   have hj2:j<inf.size:=by
    rcases Nat.lt_or_ge j inf.size with h | h
    ·exact h
    ·simp [γ (by simpa using h:(List.range inf.size).length<=j)] at hj'
   have e1:j'=j:=by simpa [hj2] using hj'.symm
   subst e1;rw [Addr.add_lit];exact h4 j' (by omega)
  ·have e1:(List.map vs (List.range inf.size)).getD j undef=vs j:=by simp [List.getD,hj]
   have e2:(cs.take inf.size).getD j .top=cs.getD j .top:=by simp [List.getD,hj,δ]
   rw [e1,e2];exact .pure (h5 j (by omega))
 ·exact h.elim
end
inductive rO where
 | tmp (t:Nat)
 | cell (t n:Nat) (ag:Bool)
def lA (P:Program) (N:Nat):ResultVar->Option rO
 | .tmp t=>if t<N then some (.tmp t) else none
 | .cell a t=>do
  let ag <- uX P t
  let n <- wI P t
  if a<N then some (.cell a n ag) else none
def tX (C:Cx) (r:rO) (f:Fr) (σ:St) (K:D->Prop):Prop:=
 match r with
 | .tmp t=>K (f.get t)
 | .cell t n ag=>pW C σ (wJ f) (.load n ag (.t t)) K
def sJ (C:Cx) (rs:List rO) (f:Fr) (σ:St) (K:D->Prop):Prop:=
 match rs with
 | []=>K (.yN [])
 | [a]=>tX C a f σ K
 | [a,b]=>tX C a f σ λx=>tX C b f σ λy=>K (.yN [x,y])
 | [a,b,c]=>tX C a f σ λx=>tX C b f σ λy=>tX C c f σ λz=>K (.yN [x,y,z])
 | [a,b,c,d]=>tX C a f σ λx=>tX C b f σ λy=>tX C c f σ λz=>tX C d f σ λu=>K (.yN [x,y,z,u])
 | _=>False
def eI (tmps:Array Value):ResultVar->Sem Value:=fun
 | .tmp t=>pure (tmps.getD t undef)
 | .cell a t=>do loadVar t (<- asAddr (tmps.getD a undef))
theorem wO {C:Cx} {E:Env} {a:Act} {w:World} {f:Fr} {σ:St} {ι:Nat->Nat} {r:ResultVar} {dr:rO} {K:D->Prop} (hr:lA C.P C.N r=some dr) (G:xO C E a w f σ ι) (h:tX C dr f σ K) :
  ∃ v d,(eI a.tmps r).run C.P w = .ok v w/\K d/\R (xD E.M0 ι σ) w ι σ.nx v d:=by
 cases r with
 | tmp t=> simp [lA] at hr;obtain⟨_,rfl⟩:=hr;exact⟨_,_,rfl,h,G.fr t⟩
 | cell t ty=>
  simp only [lA,Option.bind_eq_bind,Option.bind_eq_some_iff] at hr;obtain⟨ag,hag,n,hn,hr⟩:=hr
  split at hr
  ·rename_i hlt;simp at hr; subst hr;simp only [wI,ο] at hn;obtain⟨inf,hi,rfl⟩:=hn;have hx:xU C.N (.tmp t)= some (.t t):=by simp only [xU]; rw [if_pos hlt]
   simp only [tX] at h;obtain⟨v,d,h1,h2,h3⟩:=aH (o:={ (default:Oper) with op:=.load ty (.tmp t) }) (t:=ty) (x:=.tmp t) rfl hag hi hx h G.sL (λx y hxy=>tH G.fr hxy);refine⟨v,d,?_,h2,h3⟩
   have hp:∃ ad,a.tmps.getD t undef = .pointer (some ad):=by
    simp only [pW] at h;have hX:R (xD E.M0 ι σ) w ι σ.nx (a.tmps.getD t undef) (wJ f (.t t)):=G.fr t
    split at h
    ·rename_i key sz i off hb;exact⟨_,(hb ▸ hX).wY.1⟩
    ·rename_i cs hb;obtain⟨b,off,vs,h1,_⟩:=(hb ▸ hX).uZ;exact⟨_,h1⟩
    ·exact h.elim
   obtain⟨ad,hp⟩:=hp;simp only [eI,hp];have he:a.eval (.tmp t)= .pointer (some ad):=hp;unfold Yields at h1;simp only [execOp,he,Instr.loadAt,Instr.sureAddr] at h1;simp only [Sem.run_bind,Sem.run_pure,Result.andThen_ok] at h1;simp only [asAddr,Sem.run_bind,Sem.run_pure,Result.andThen_ok];generalize (loadVar ty ad).run C.P w=rr at h1
   cases rr with
   | ok x w'=> simp [Result.andThen] at h1;obtain⟨rfl,rfl⟩:=h1;rfl
   | halt x w'=>simp [Result.andThen] at h1
  ·simp at hr
theorem zy (fn:Func) (tmps:Array Value):results fn tmps=(do
  let vs <- fn.results.mapM (eI tmps)
  pure (if h:vs.size=1 then vs[0] else .tuple vs)):=by
 unfold results;rfl
theorem zz {C:Cx} {E:Env} {a:Act} {w:World} {f:Fr} {σ:St} {ι:Nat->Nat} {fn:Func} {rs:List rO} {K:D->Prop} (hr:yT (lA C.P C.N) fn.results.toList=some rs) (G:xO C E a w f σ ι) (h:sJ C rs f σ K) :
  ∃ v d,(results fn a.tmps).run C.P w = .ok v w/\K d/\R (xD E.M0 ι σ) w ι σ.nx v d:=by
 obtain⟨hl,hg⟩:=yZ hr;rw [zy];generalize hfr:fn.results=rr at hl hg;obtain⟨rl⟩:=rr;simp only at hl hg
 have at':∀ (j:Nat) (x:ResultVar) (y:rO),rl[j]?=some x->rs[j]?=some y->lA C.P C.N x=some y:=by intro j x y hx hy;obtain⟨b,hb,hf⟩:=hg j x hx;rw [hy] at hb;simp at hb; subst hb;exact hf
 unfold sJ at h
 split at h
 ·match rl,hl with
  | [],_=> exact⟨.tuple #[],.yN [],by simp,h,.yN (by simp) (by simp)⟩
 ·match rl,hl with
  | [r1],_=> obtain⟨v,d,h1,h2,h3⟩:=wO (at' 0 _ _ rfl rfl) G h;exact⟨v,d,by simp [h1],h2,h3⟩
 ·match rl,hl with
  | [r1,r2],_=>
   obtain⟨v,d,h1,h2,h3⟩:=wO (at' 0 _ _ rfl rfl) G h;obtain⟨v',d',g1,g2,g3⟩:=wO (at' 1 _ _ rfl rfl) G h2;refine⟨.tuple #[v,v'],.yN [d,d'],by simp [h1,g1],g2,.yN (by simp) λj hj=>?_⟩
   match j,hj with
   | 0,_=>exact h3
   | 1,_=>exact g3
 ·match rl,hl with
  | [r1,r2,r3],_=>
   obtain⟨v,d,h1,h2,h3⟩:=wO (at' 0 _ _ rfl rfl) G h;obtain⟨v',d',g1,g2,g3⟩:=wO (at' 1 _ _ rfl rfl) G h2;obtain⟨v'',d'',k1,k2,k3⟩:=wO (at' 2 _ _ rfl rfl) G g2;refine⟨.tuple #[v,v',v''],.yN [d,d',d''],by simp [h1,g1,k1],k2,.yN (by simp) λj hj=>?_⟩
   match j,hj with
   | 0,_=>exact h3
   | 1,_=>exact g3
   | 2,_=>exact k3
 ·match rl,hl with
  | [r1,r2,r3,r4],_=>
   obtain⟨v,d,h1,h2,h3⟩:=wO (at' 0 _ _ rfl rfl) G h;obtain⟨v',d',g1,g2,g3⟩:=wO (at' 1 _ _ rfl rfl) G h2;obtain⟨v'',d'',k1,k2,k3⟩:=wO (at' 2 _ _ rfl rfl) G g2;obtain⟨v3,d3,l1,l2,l3⟩:=wO (at' 3 _ _ rfl rfl) G k2;refine⟨.tuple #[v,v',v'',v3],.yN [d,d',d'',d3],by simp [h1,g1,k1,l1],l2,.yN (by simp) λj hj=>?_⟩
   match j,hj with
   | 0,_=>exact h3
   | 1,_=>exact g3
   | 2,_=>exact k3
   | 3,_=>exact l3
 ·exact h.elim
def rL : Nat->List D->Fr
 | _,[]=>[]
 | i,d :: r=>(i,d) :: rL (i+1) r
theorem fJ : ∀ (ds:List D) (i t:Nat),(rL i ds).get t=if i<=t then ds.getD (t-i) .top else .top
 | [],i,t=>by simp [rL,Fr.get]
 | d :: r,i,t=>by
  simp only [rL,Fr.get]
  by_cases h:i=t
  ·subst h; simp
  ·rw [if_neg h,fJ r]
   by_cases h2:i<=t
   ·have h3:i+1<=t:=by omega
    have h4:t-i=(t-(i+1))+ 1:=by omega
    rw [if_pos h2,if_pos h3,h4];simp
   ·rw [if_neg h2,if_neg (by omega)]
theorem uy {w:World} {b off D:Nat} {x:Option (List Deferred)} {v:Value} (hD:w.heap[D]?=some (Obj.deferred x)) (h:w.cell? ⟨b,off,none⟩= some v):b≠D:=λe=>by subst e;simp [World.cell?,hD] at h
theorem RP.more {M:Nat->Prop} {w:World} {D:Nat} {x:Option (List Deferred)} (hD:w.heap[D]?=some (Obj.deferred x)) {v:Value} {d:Go.Pd.D} (h:RP M w v d):RP (λb=>M b\/b=D) w v d:=by
 induction h with
 | top v=>exact .top v
 | wG=>exact .wG
 | int h=>exact .int h
 | bool b=>exact .bool b
 | str h=>exact .str h
 | xw a cap sz h=>exact .xw a cap sz h
 | emp a cap=>exact .emp a cap
 | @sl b off cap sz xX vs hs hMb hc hm hl hcell hr ih=>
  rcases Nat.eq_zero_or_pos xX.length with h0 | h0
  ·have:xX = []:=List.eq_nil_of_length_eq_zero h0;subst this;exact .xw _ _ _ (by simp)
  ·have hne:=uy hD (hcell 0 h0 0 hs);exact .sl vs hs (λhm'=>hm'.elim hMb hne) hc hm hl hcell ih
 | xY=>exact .xY
 | @ptr b off cs vs hs hMb hcell hr ih=> have hne:=uy hD (hcell 0 hs);exact .ptr vs hs (λhm'=>hm'.elim hMb hne) hcell ih
 | agg hl hr ih=>exact .agg hl ih
 | yN hl hr ih=>exact .yN hl ih
 | fn hl hr ih=>exact .fn hl ih
 | qW=>exact .qW
 | tS=>exact .tS
 | qV=>exact .qV
 | xu b=>exact .xu b
theorem R.more {M:Nat->Prop} {w:World} {ι:Nat->Nat} {n:Nat} {D:Nat} {x:Option (List Deferred)} (hD:w.heap[D]?=some (Obj.deferred x)) {v:Value} {d:Go.Pd.D} (h:R M w ι n v d):R (λb=>M b\/b=D) w ι n v d:=by
 induction h with
 | pure h=>exact .pure (h.more hD)
 | ref hk h0=>exact .ref hk h0
 | zZ hk h1 h2 h3 h4=>exact .zZ hk h1 h2 h3 h4
 | sub hk h1 h2 h3 h4=>exact .sub hk h1 h2 h3 h4
 | yU hk=>exact .yU hk
 | agg hl hr ih=>exact .agg hl ih
 | yN hl hr ih=>exact .yN hl ih
 | fn hl hr ih=>exact .fn hl ih
theorem bF {M0:Nat->Prop} {ι:Nat->Nat} {σ:St} {D b:Nat} (h:xD (λb=>M0 b\/b=D) ι σ b):xD M0 ι σ b\/b=D:=by
 rcases h with (h | h) | h
 ·exact .inl (.inl h)
 ·exact .inr h
 ·exact .inl (.inr h)
theorem R.eb {M0:Nat->Prop} {w:World} {ι:Nat->Nat} {n:Nat} {σ:St} {D:Nat} {x:Option (List Deferred)} (hD:w.heap[D]?=some (Obj.deferred x)) {v:Value} {d:Go.Pd.D} (h:R (xD M0 ι σ) w ι n v d):R (xD (λb=>M0 b\/b=D) ι σ) w ι n v d:=(h.more hD).xE (λ_ _ _=>rfl) (λb _ hb=>bF hb) (λb cur e hc=>⟨cur,hc,rfl⟩) (λ_ _=>rfl) (μ _)
theorem yY.more {M0:Nat->Prop} {w:World} {σ:St} {ι:Nat->Nat} {D:Nat} {x:Option (List Deferred)} (hS:yY M0 w σ ι) (hD:w.heap[D]?=some (Obj.deferred x)) (ht:∀ p ∈ zJ.tW,p.1≠D):yY (λb=>M0 b\/b=D) w σ ι:=
 ⟨λb hb=>hb.elim (hS.rQ b) λe=>by rw [e]; exact(Array.getElem?_eq_some_iff.1 hD).1,λk o hk=>⟨(hS.holds k o hk).1,xK.imp (hS.holds k o hk).2 λhr=>hr.eb hD⟩,hS.inj,
  λk o hk hb=>hb.elim (hS.notM k o hk) λe=>hS.mZ hD ⟨k,o,hk,e⟩,λp hp=>let ⟨h1,h2,h3⟩:=hS.tW p hp; ⟨h1,λhm=>(bF hm).elim h2 (ht p hp),h3⟩⟩
theorem sC {w:World} {b:Nat} {o o':Obj} (h:w.heap[b]?=some o) (hn:∀ cur e,o≠Obj.cells cur e (0,0)):Kept w (w.putObj b o') λx=>x=b:=by
 refine⟨rfl,rfl,rfl,by simp,λx _ hx=>World.putObj_heap_other hx,λx cur e hx=>⟨cur,?_,rfl⟩,μ _⟩
 have hne:x≠b:=λe'=>by subst e';rw [h] at hx;exact hn cur e (Option.some.inj hx)
 rw [World.putObj_heap_other hne]; exact hx
theorem xO.shut {C:Cx} {E:Env} {a:Act} {w:World} {f:Fr} {σ:St} {ι:Nat->Nat} {D:Nat} {x y:Option (List Deferred)} (G:xO C E a w f σ ι) (ha:a.defers = []) (hD:w.heap[D]?=some (Obj.deferred x)) (hB:E.w0.heap.size<=D) (ht:∀ p ∈ zJ.tW,p.1≠D) :
  xO C E a (w.putObj D (Obj.deferred y)) f σ ι:=by
 have hk:Kept w (w.putObj D (Obj.deferred y)) λb=>b=D:=sC hD (λ_ _ e=>by cases e);have hS:=(G.sL.more hD ht).s6 hk λb hb=>.inr hb;refine⟨G.size,.none ha (by rw [World.putObj_size]; exact G.defers.1),G.nx,G.kept.trans hk (λ_ _ h=>h) λb hb e=>absurd hb (by omega),hS.less λb hb=>.inl hb,G.rQ,G.vC,G.stay,λt=>?_⟩;have h1:=(G.fr t).eb (M0:=E.M0) hD;exact h1.xE (λb hb hM=>hk.block b hb λe=>hM (.inl (.inr e))) (λb _ hb=>hb.imp .inl id) hk.shape (λ_ _=>rfl) (μ _)
theorem mF {C:Cx} {E:Env} {fn:Func} {rs:List rO} {tmps:Array Value} {f:Fr} {σ:St} {ι:Nat->Nat} {K:D->Prop} {Rp:Ending->World->Prop} (hr:yT (lA C.P C.N) fn.results.toList=some rs) (hres:sJ C rs f σ K) (hB:E.w0.heap.size<=E.B) (ht:∀ p ∈ zJ.tW,p.1<E.w0.heap.size)
  (hfin:∀ w v d,xO C E { tmps:=tmps,defers:=[] } w f σ ι->(results fn tmps).run C.P w = .ok v w->K d->R (xD E.M0 ι σ) w ι σ.nx v d->Rp (.returned v) w):∀ (l:List Nat) (w:World),l.Nodup->(∀ D ∈ l,w.heap[D]?=some (Obj.deferred (some []))/\ E.B<=D) ->
   xO C E { tmps:=tmps,defers:=[] } w f σ ι->LeavesInM Fence.wide 0 C.P fn tmps Rp (l.map λD=>{ target:=.collected D,args:=#[] }) .returning w
 | [],w,_,_,G=>by obtain⟨v,d,h1,h2,h3⟩:=zz hr G hres;exact⟨v,h1,hfin w v d G h1 h2 h3⟩
 | D :: l,w,hn,hl,G=>by obtain⟨hD,hDB⟩:=hl D (by simp);rw [List.nodup_cons] at hn;refine⟨by simp,.inl ⟨D,w.putObj D (Obj.deferred none),rfl,run_takeDeferred hD,mF hr hres hB ht hfin l _ hn.2 (λD' hD'=>?_) (G.shut rfl hD (by omega) λp hp=>by have:=ht p hp; omega)⟩⟩;have:=hl D' (by simp [hD']);have hne:D'≠D:=λe=>hn.1 (e ▸ hD');rw [World.putObj_heap_other hne];exact this
def nW (n0:Nat) (σ1:St) (d1:D) (σ':St) (d:D):Prop:=(d=d1/\σ'=σ1)\/∃ ρ:Nat->Nat,n0<=σ'.nx/\(∀ k,k<n0->ρ k=k)/\ vw σ1 σ' ρ d1 d/\stays σ1 σ' ρ/\sO σ' ρ
def bY (C:Cx) (rs:List rO) (d:D) (σ':St) (e:Exit) (f:Fr) (σ1:St):Prop:=(e = .ret\/e = .normal)/\ sJ C rs f σ1 λd1=>nW C.n0 σ1 d1 σ' d
theorem xS.gx {P:Program} {g:FuncId} {fn:Func} {code:Code} {dc:DC} {own:List Nat} {args:List D} {σ:St} {d:D} {σ':St} {rs:List rO} (hm:P.follows .mixedOrders=true) (hf:P.funcs[g]?=some fn) (hb:fn.body=some code)
  (hname:(fn.name == "runtime.NumGoroutine")= false) (hc:wR P fn.ntmps own code=some dc) (hr:yT (lA P fn.ntmps) fn.results.toList=some rs) (hla:args.length<=fn.ntmps)
  (h:wpS ⟨P,fn.ntmps,σ.nx,own,none⟩ dc (rL 0 args) σ (bY ⟨P,fn.ntmps,σ.nx,own,none⟩ rs d σ')):xS P g args σ d σ':=by
 refine⟨⟨fn,hf,hname,by rw [hb]; rfl⟩,λM0 w ι vals hS hl hv=>?_⟩
 let C:Cx:=⟨P,fn.ntmps,σ.nx,own,none⟩
 let E:Env:=⟨w,M0,vD ι σ,ι,w.heap.size⟩
 have G:xO C E { tmps:=vals++Array.replicate (fn.ntmps-vals.size) undef,defers:=[] } w (rL 0 args) σ ι:=by
  refine⟨by show (vals++Array.replicate (fn.ntmps-vals.size) undef).size=fn.ntmps; simp; omega,.none rfl (μ _),μ _,Kept.refl _ _,hS,hS.rQ,λk o hk=>.inr ⟨k,o,hk,rfl⟩,λ_ _=>rfl,λt=>?_⟩;rw [fJ];simp only [Nat.zero_le,if_pos,Nat.sub_zero]
  by_cases ht:t<args.length
  ·have:=hv t ht
   have e:(vals++Array.replicate (fn.ntmps-vals.size) undef).getD t undef=vals.getD t undef:=by simp only [Array.getD_eq_getD_getElem?];rw [Array.getElem?_append_left (by omega)]
   rw [e]; exact this
  ·have:args.getD t .top = .top:=by simp [List.getD,γ (Nat.le_of_not_lt ht)]
   rw [this];exact R.top _
 refine(callsIn_wide (n:=0)).1 (callsIn_of_wp_marks hf hb trivial (wpIn_mono (show code.wpIn Fence.wide 0 P _ _ _ from h code hc E _ w ⟨ι,G⟩) λe a' w' hq=>?_));obtain⟨f',σ1,⟨ι1,G1⟩,he,hres⟩:=hq;obtain⟨hl0,l,hl1,hl2,hl3⟩:=G1.defers;have G2:xO C E { tmps:=a'.tmps,defers:=[] } w' f' σ1 ι1:=⟨G1.size,.none rfl hl0,G1.nx,G1.kept,G1.sL,G1.rQ,G1.vC,G1.stay,G1.fr⟩
 have key:LeavesInM Fence.wide 0 P fn a'.tmps (λe w'=>∃ v ι',e=Ending.returned v/\Kept w w' (vD ι σ)/\ yY M0 w' σ' ι'/\σ.nx<=σ'.nx/\(∀ k,k<σ.nx->ι' k=ι k)/\
   (∀ k o,σ'.get k=some o->w.heap.size<=ι' k\/vD ι σ (ι' k))/\ R (xD M0 ι' σ') w' ι' σ'.nx v d) a'.defers .returning w':=by
  rw [hl1];refine mF (C:=C) (E:=E) hr hres (μ _) (λp hp=>(hS.tW p hp).1) (λw1 v d1 G1 hrun hret hR=>?_) l w' hl2 hl3 G2
  rcases hret with ⟨rfl,rfl⟩ | ⟨ρ,r1,r2,r3,r4,r5⟩
  ·exact⟨v,ι1,rfl,G1.kept,G1.sL,G1.nx,λk hk=>G1.stay k hk,G1.vC,hR⟩
  ·have hlive:∀ p ∈ σ'.xZ,∃ ob,σ1.get (ρ p.1)= some ob:=λp hp=>by obtain⟨_,ob,h,_⟩:=r4 p hp;exact⟨ob,h⟩
   refine⟨v,λk=>ι1 (ρ k),rfl,G1.kept,G1.sL.view r4 r5,r1,λk hk=>?_,λk o hk=>?_,rH G1.sL hlive _ _ hR r3⟩
   ·show ι1 (ρ k)= ι k;rw [r2 k hk]; exact G1.stay k hk
   ·obtain⟨ob,h⟩:=hlive _ (yD hk);exact G1.vC _ _ h
 rcases he with rfl | rfl
 ·exact key
 ·exact key
def hU : St:=⟨0,[]⟩
def wP (P:Program) (g:FuncId) (args:List D) (d:D):Prop:=xS P g args hU d hU
theorem R.zero {M:Nat->Prop} {w:World} {ι:Nat->Nat} {v:Value} {d:D} (h:R M w ι 0 v d):RP M w v d:=by
 induction h with
 | pure h=>exact h
 | ref hk=>omega
 | zZ hk=>omega
 | sub hk=>omega
 | yU hk=>omega
 | agg hl hr ih=>exact .agg hl ih
 | yN hl hr ih=>exact .yN hl ih
 | fn hl hr ih=>exact .fn hl ih
theorem bN {args:List D} (h:D.xR args=true) (j:Nat):(args.getD j .top).xQ=true:=zB h j
theorem xS.tP {P:Program} {g:FuncId} {args:List D} {d:D} {σ:St} (hc:wP P g args d) (hp:D.xR args=true):xS P g args σ d σ:=by
 refine⟨hc.ord,λM0 w ι vals hS hl hv=>?_⟩;have S1:yY (xD M0 ι σ) w hU ι:=⟨λb hb=>xD.lt hS hb,(λk o hk=>by cases hk),(λk k' o o' hk=>by cases hk),(λk o hk=>by cases hk),hS.tW.xE (μ _) (λ_ _ _=>rfl) λb _ hb=>hb.elim id λ⟨k,o,hk,_⟩=>by cases hk⟩
 have e1:∀ (ι':Nat->Nat) b,xD (xD M0 ι σ) ι' hU b->xD M0 ι σ b:=by
  intro ι' b hb
  rcases hb with hb | ⟨k,o,hk,_⟩
  ·exact hb
  ·cases hk
 refine(hc.run _ w ι vals S1 hl λj hj=>.pure (((hv j hj).kD (bN hp j)).xE (λ_ _ _=>rfl) λb _ hb=>e1 ι b hb)).mono λe w' hh=>?_;obtain⟨v,ι',rfl,k1,k2,k3,k4,k5,k6⟩:=hh;have K0:Kept w w' λ_=>False:=k1.mono λb _ ⟨k,o,hk,_⟩=>by cases hk
 exact⟨v,ι,rfl,K0.none _,hS.ext K0,μ _,λ_ _=>rfl,λk o hk=>.inr ⟨k,o,hk,rfl⟩,.pure (k6.zero.xE (λ_ _ _=>rfl) λb _ hb=>.inl hb)⟩
mutual
def D.flat : D->Bool
 | .int _ _ | .bool _ | .str _ | .wG | .xY | .qW | .tS | .qV | .top=>true
 | .agg cs | .yN cs=>D.vy cs
 | _=>false
def D.vy : List D->Bool
 | []=>true
 | d :: r=>d.flat&&D.vy r
end
theorem RP.flat {M M':Nat->Prop} {w:World} {v:Value} {d:D} (h:RP M w v d) (hf:d.flat=true):RP M' w v d:=by
 have fl:∀ {cs:List D},D.vy cs=true->∀ j,(cs.getD j .top).flat=true:=by
  intro cs
  induction cs with
  | nil=>intro _ j; simp [D.flat]
  | cons d r ih=>
   intro h j;simp only [D.vy,ξ] at h
   cases j with
   | zero=>simpa using h.1
   | succ j=>simpa using ih h.2 j
 induction h with
 | top v=>exact .top v
 | wG=>exact .wG
 | int h=>exact .int h
 | bool b=>exact .bool b
 | str h=>exact .str h
 | xw=>simp [D.flat] at hf
 | emp=>simp [D.flat] at hf
 | sl=>simp [D.flat] at hf
 | xY=>exact .xY
 | ptr=>simp [D.flat] at hf
 | agg hl hr ih=>simp only [D.flat] at hf; exact .agg hl λj hj=>ih j hj (fl hf j)
 | yN hl hr ih=>simp only [D.flat] at hf; exact .yN hl λj hj=>ih j hj (fl hf j)
 | fn=>simp [D.flat] at hf
 | qW=>exact .qW
 | tS=>exact .tS
 | qV=>exact .qV
 | xu b=>simp [D.flat] at hf
theorem aI (l r:List (Nat × Ob)) (k:Nat):St.look (l++r) k=(St.look l k).or (St.look r k):=by
 induction l with
 | nil=>simp [St.look]
 | cons p l ih=>
  obtain⟨j,o⟩:=p;simp only [List.cons_append,St.look]
  split
  ·simp
  ·exact ih
mutual
def D.shift (c:Nat):D->D
 | .ref k sz i off=>.ref (c+k) sz i off
 | .zZ k sz n=>.zZ (c+k) sz n
 | .sub k sz lo n=>.sub (c+k) sz lo n
 | .yU k=>.yU (c+k)
 | .agg cs=>.agg (D.wK c cs)
 | .yN cs=>.yN (D.wK c cs)
 | .fn f cs=>.fn f (D.wK c cs)
 | d=>d
def D.wK (c:Nat):List D->List D
 | []=>[]
 | d :: r=>d.shift c :: D.wK c r
end
def Ob.shift (c:Nat) (o:Ob):Ob:=⟨o.sz,o.xX.map (D.wK c)⟩
def wA (c:Nat):List (Nat × Ob)->List (Nat × Ob)
 | []=>[]
 | (k,o) :: r=>(c+k,o.shift c) :: wA c r
theorem wD (c:Nat):∀ cs:List D,(D.wK c cs).length=cs.length
 | []=>rfl
 | d :: r=>by simp [D.wK,wD c r]
theorem sT (c:Nat):∀ (cs:List D) (j:Nat),(D.wK c cs).getD j .top=(cs.getD j .top).shift c
 | [],j=>by simp [D.wK,D.shift]
 | d :: r,0=>by simp [D.wK]
 | d :: r,j+1=>by simpa [D.wK] using sT c r j
theorem yg (c:Nat) {d:D}:d.xQ=true->d.shift c=d:=by
 refine D.rec (motive_1:=λd=>d.xQ=true->d.shift c=d) (motive_2:=λ_=>True) (motive_3:=λcs=>D.xR cs=true->D.wK c cs=cs)
  ?top ?wG ?int ?bool ?str ?sl ?xY ?emp ?agg ?yN ?fn ?ref ?zZ ?sub ?ptr ?yU ?qW ?tS ?qV ?xu trivial (λ_ _ _ _=>trivial) ?nil ?cons d
 case agg=>intro cs ih h; simp only [D.xQ] at h; simp only [D.shift,ih h]
 case yN=>intro cs ih h; simp only [D.xQ] at h; simp only [D.shift,ih h]
 case fn=>intro f cs ih h; simp only [D.xQ] at h; simp only [D.shift,ih h]
 case ref=>intro k sz i off h; simp [D.xQ] at h
 case zZ=>intro k sz n h; simp [D.xQ] at h
 case sub=>intro k sz lo n h; simp [D.xQ] at h
 case yU=>intro k h; simp [D.xQ] at h
 case nil=>intro _; rfl
 case cons=> intro d r h1 h2 h;simp only [D.xR,ξ] at h;simp only [D.wK,h1 h.1,h2 h.2]
 all_goals intros; rfl
theorem RP.xQ {M:Nat->Prop} {w:World} {v:Value} {d:D} (h:RP M w v d):d.xQ=true:=by
 have pl:∀ {cs:List D},(∀ j,j<cs.length->(cs.getD j .top).xQ=true)->D.xR cs=true:=by
  intro cs
  induction cs with
  | nil=>intro _; rfl
  | cons d r ih=> intro h;simp only [D.xR,ξ];exact⟨by simpa using h 0 (by simp),ih λj hj=>by simpa using h (j+1) (by simpa using hj)⟩
 induction h with
 | agg hl hr ih=>exact pl ih
 | yN hl hr ih=>exact pl ih
 | fn hl hr ih=>exact pl ih
 | _=>rfl
theorem R.shift {M Mn:Nat->Prop} {w:World} {ι ιn:Nat->Nat} {c m:Nat} (hM:∀ b,Mn b->M b) (hi:∀ k,k<m->ιn (c+k)= ι k) {v:Value} {d:D} (h:R M w ι m v d):R Mn w ιn (c+m) v (d.shift c):=by
 induction h with
 | pure h=> rw [yg c h.xQ];exact .pure (h.xE (λ_ _ _=>rfl) λb _ hb=>hM b hb)
 | @ref key sz i off hk h0=>rw [<- hi _ hk]; exact .ref (ι:=ιn) (key:=c+key) (by omega) h0
 | @zZ key sz len cap cur e hk h1 h2 h3 h4=> rw [<- hi _ hk] at h3 ⊢;exact .zZ (ι:=ιn) (key:=c+key) (by omega) h1 h2 h3 h4
 | @sub key sz lo len cap off cur e hk h1 h2 h3 h4=> rw [<- hi _ hk] at h3 ⊢;exact .sub (ι:=ιn) (key:=c+key) (by omega) h1 h2 h3 h4
 | @yU key hk=>rw [<- hi _ hk]; exact .yU (ι:=ιn) (key:=c+key) (by omega)
 | agg hl hr ih=>exact .agg (by rw [hl,wD]) λj hj=>by rw [sT]; exact ih j (by rw [wD] at hj; exact hj)
 | yN hl hr ih=>exact .yN (by rw [hl,wD]) λj hj=>by rw [sT]; exact ih j (by rw [wD] at hj; exact hj)
 | fn hl hr ih=>exact .fn (by rw [hl,wD]) λj hj=>by rw [sT]; exact ih j (by rw [wD] at hj; exact hj)
theorem iL (c:Nat):∀ (l:List (Nat × Ob)) (k:Nat) (o:Ob),St.look (wA c l) k=some o->∃ k0 o0,k=c+k0/\St.look l k0=some o0/\o=o0.shift c
 | [],k,o,h=>by cases h
 | (j,ob) :: r,k,o,h=>by
  simp only [wA,St.look] at h
  split at h
  ·rename_i e;simp at h; subst h; subst e;exact⟨j,ob,rfl,by simp [St.look],rfl⟩
  ·rename_i e;obtain⟨k0,o0,rfl,h2,h3⟩:=iL c r k o h;refine⟨k0,o0,rfl,?_,h3⟩;simp only [St.look];rw [if_neg (λe'=>e (by rw [e']))];exact h2
theorem xS.own {P:Program} {g:FuncId} {args:List D} {d:D} {σ:St} {m:Nat} {xZ:List (Nat × Ob)} (hc:xS P g args hU d ⟨m,xZ⟩) (hp:D.xR args=true):xS P g args σ (d.shift σ.nx) ⟨σ.nx+m,wA σ.nx xZ++σ.xZ⟩:=by
 refine⟨hc.ord,λM0 w ι vals hS hl hv=>?_⟩;have S1:yY (xD M0 ι σ) w hU ι:=⟨λb hb=>xD.lt hS hb,(λk o hk=>by cases hk),(λk k' o o' hk=>by cases hk),(λk o hk=>by cases hk),hS.tW.xE (μ _) (λ_ _ _=>rfl) λb _ hb=>hb.elim id λ⟨k,o,hk,_⟩=>by cases hk⟩
 have e1:∀ b,xD (xD M0 ι σ) ι hU b->xD M0 ι σ b:=by
  intro b hb
  rcases hb with hb | ⟨k,o,hk,_⟩
  ·exact hb
  ·cases hk
 refine(hc.run _ w ι vals S1 hl λj hj=>.pure (((hv j hj).kD (bN hp j)).xE (λ_ _ _=>rfl) λb _ hb=>e1 b hb)).mono λe w' hh=>?_;obtain⟨v,ι',rfl,k1,k2,k3,k4,k5,k6⟩:=hh;have K0:Kept w w' λ_=>False:=k1.mono λb _ ⟨k,o,hk,_⟩=>by cases hk
 let ιn:Nat->Nat:=λk=>if k<σ.nx then ι k else ι' (k-σ.nx)
 have n1:∀ k,k<σ.nx->ιn k=ι k:=λk hk=>by simp only [ιn,if_pos hk]
 have n2:∀ k,ιn (σ.nx+k)= ι' k:=λk=>by simp only [ιn,if_neg (show ¬ (σ.nx+k<σ.nx) by omega)];congr 1; omega
 have lk:∀ k o,St.get ⟨σ.nx+m,wA σ.nx xZ++σ.xZ⟩ k=some o->(∃ k0 o0,k=σ.nx+k0/\St.get ⟨m,xZ⟩ k0=some o0/\o=o0.shift σ.nx)\/(k<σ.nx/\σ.get k=some o):=by
  intro k o hk;unfold St.get at hk;simp only at hk;rw [aI] at hk
  cases h1:St.look (wA σ.nx xZ) k with
  | some o1=> rw [h1] at hk;simp at hk; subst hk;exact .inl (iL _ _ _ _ h1)
  | none=> rw [h1] at hk;simp at hk;exact .inr ⟨(hS.holds k o hk).1,hk⟩
 have fresh:∀ k o,St.get ⟨m,xZ⟩ k=some o->w.heap.size<=ι' k:=by
  intro k o hk
  rcases k5 _ _ hk with h | ⟨k0,o0,hk0,_⟩
  ·exact h
  ·cases hk0
 have mm:∀ b,b<w.heap.size->xD M0 ιn ⟨σ.nx+m,wA σ.nx xZ++σ.xZ⟩ b->xD M0 ι σ b:=by
  intro b hb hm
  rcases hm with hm | ⟨k,o,hk,rfl⟩
  ·exact .inl hm
  ·rcases lk k o hk with ⟨k0,o0,rfl,h2,_⟩ | ⟨h1,h2⟩
   ·have:=fresh k0 o0 h2;rw [n2] at hb;omega
   ·exact .inr ⟨k,o,h2,(n1 k h1).symm⟩
 have mv:∀ b,xD M0 ιn ⟨σ.nx+m,wA σ.nx xZ++σ.xZ⟩ b->xD (xD M0 ι σ) ι' ⟨m,xZ⟩ b:=by
  intro b hm
  rcases hm with hm | ⟨k,o,hk,rfl⟩
  ·exact .inl (.inl hm)
  ·rcases lk k o hk with ⟨k0,o0,rfl,h2,_⟩ | ⟨h1,h2⟩
   ·exact .inr ⟨k0,o0,h2,(n2 k0).symm⟩
   ·exact .inl (.inr ⟨k,o,h2,(n1 k h1).symm⟩)
 refine⟨v,ιn,rfl,K0.none _,⟨λb hb=>Nat.lt_of_lt_of_le (hS.rQ b hb) K0.size,λk o hk=>?_,λk k' o o' hk hk' e=>?_,λk o hk hm=>?_,k2.tW.xE (μ _) (λ_ _ _=>rfl) λb _ hb=>mv b hb⟩,Nat.le_add_right _ _,n1,λk o hk=>?_,R.shift mv (λk _=>n2 k) k6⟩
 ·rcases lk k o hk with ⟨k0,o0,rfl,h2,rfl⟩ | ⟨h1,h2⟩
  ·obtain⟨g1,g2⟩:=k2.holds k0 o0 h2;have glt:k0<m:=g1;rcases g2 with ⟨s0,cur,e,c1,c2,c3,c4⟩ | ⟨s0,es,c1,c2,c3⟩
   case inr=>
    refine⟨by show σ.nx+k0<σ.nx+m; omega,.inr ⟨s0,es,by rw [n2]; exact c1,by simpa [Ob.shift] using c2,λi hi=>?_⟩⟩;simp only [Ob.shift,List.length_map] at hi ⊢;obtain⟨kk,v,x,d,r1,r2,r3,r4⟩:=c3 i hi;refine⟨kk,v,x.shift σ.nx,d.shift σ.nx,?_,r2,R.shift mv (λk _=>n2 k) r3,R.shift mv (λk _=>n2 k) r4⟩;have:(o0.xX.map (D.wK σ.nx)).getD i []=D.wK σ.nx (o0.xX.getD i []):=by simp [List.getD,hi]
    rw [this,r1]; rfl
   refine⟨by show σ.nx+k0<σ.nx+m; omega,.inl ⟨s0,cur,e,by rw [n2]; exact c1,λel he=>?_,by simpa [Ob.shift] using c3,λi hi j hj=>?_⟩⟩
   ·simp only [Ob.shift,θ] at he ⊢;obtain⟨el',h3,rfl⟩:=he;rw [wD]; exact c2 _ h3
   ·simp only [Ob.shift,List.length_map] at hi hj ⊢;have h3:=c4 i hi j hj
    have e2:((o0.xX.map (D.wK σ.nx)).getD i []).getD j .top=((o0.xX.getD i []).getD j .top).shift σ.nx:=by
     have:(o0.xX.map (D.wK σ.nx)).getD i []=D.wK σ.nx (o0.xX.getD i []):=by simp [List.getD,hi]
     rw [this,sT]
    rw [e2];exact⟨h3.1,R.shift mv (λk _=>n2 k) h3.2⟩
  ·obtain⟨g1,g2⟩:=hS.holds k o h2;exact⟨by show k<σ.nx+m; omega,g2.xE (K0.block _ (vD.lt hS ⟨k,o,h2,rfl⟩) id) (n1 k h1) (λb hb _=>K0.block b hb id) (λb hb hm=>mm b hb hm) K0.shape n1 (Nat.le_add_right _ _)⟩
 ·rcases lk k o hk with ⟨k0,o0,rfl,h2,rfl⟩ | ⟨h1,h2⟩ <;> rcases lk k' o' hk' with ⟨k0',o0',rfl,h2',rfl⟩ | ⟨h1',h2'⟩
  ·rw [n2,n2] at e;rw [k2.inj _ _ _ _ h2 h2' e]
  ·rw [n2,n1 k' h1'] at e;have:=fresh _ _ h2;have:=vD.lt hS ⟨k',o',h2',rfl⟩;omega
  ·rw [n1 k h1,n2] at e;have:=fresh _ _ h2';have:=vD.lt hS ⟨k,o,h2,rfl⟩;omega
  ·rw [n1 k h1,n1 k' h1'] at e;exact hS.inj _ _ _ _ h2 h2' e
 ·rcases lk k o hk with ⟨k0,o0,rfl,h2,rfl⟩ | ⟨h1,h2⟩
  ·rw [n2] at hm;have:=fresh _ _ h2;have:=hS.rQ _ hm;omega
  ·rw [n1 k h1] at hm;exact hS.notM k o h2 hm
 ·rcases lk k o hk with ⟨k0,o0,rfl,h2,rfl⟩ | ⟨h1,h2⟩
  ·rw [n2]; exact .inl (fresh _ _ h2)
  ·rw [n1 k h1]; exact .inr ⟨k,o,h2,rfl⟩
end Go.Pd
namespace Go.Pd
open Go
variable [zJ]
mutual
def D.fact : D->Prop
 | .int k n=>k.min<=n/\n<=k.max
 | .sl _ xX=>xX.length<=9223372036854775807/\D.gD xX
 | .agg cs | .yN cs | .fn _ cs | .ptr cs=>D.vU cs
 | _=>True
def D.vU : List D->Prop
 | []=>True
 | d :: r=>d.fact/\D.vU r
def D.gD : List (List D)->Prop
 | []=>True
 | e :: r=>D.vU e/\D.gD r
end
theorem vP : ∀ {cs:List D},(∀ j,j<cs.length->(cs.getD j .top).fact)->D.vU cs
 | [],_=>trivial
 | d :: r,h=>⟨by simpa using h 0 (by simp),vP λj hj=>by simpa using h (j+1) (by simpa using hj)⟩
theorem aY : ∀ {es:List (List D)},(∀ i,i<es.length->D.vU (es.getD i []))->D.gD es
 | [],_=>trivial
 | e :: r,h=>⟨by simpa using h 0 (by simp),aY λj hj=>by simpa using h (j+1) (by simpa using hj)⟩
theorem RP.fact {M:Nat->Prop} {w:World} {v:Value} {d:D} (h:RP M w v d):d.fact:=by
 induction h with
 | int h=>exact h
 | xw=>exact⟨by simp,trivial⟩
 | @sl b off cap sz xX vs hs hM hc hm hl hcell hr ih=>
  refine⟨by simp only [maxLen] at hm; omega,aY λi hi=>vP λj hj=>?_⟩;have hmem:xX.getD i [] ∈ xX:=by simp [List.getD,hi]
  exact ih i hi j (by rw [<- hl _ hmem]; exact hj)
 | ptr vs hs hM hc hr ih=>exact vP ih
 | agg hl hr ih=>exact vP ih
 | yN hl hr ih=>exact vP ih
 | fn hl hr ih=>exact vP ih
 | _=>trivial
theorem R.fact {M:Nat->Prop} {w:World} {ι:Nat->Nat} {n:Nat} {v:Value} {d:D} (h:R M w ι n v d):d.fact:=by
 induction h with
 | pure h=>exact h.fact
 | agg hl hr ih=>exact vP ih
 | yN hl hr ih=>exact vP ih
 | fn hl hr ih=>exact vP ih
 | _=>trivial
theorem xS.facts {P:Program} {g:FuncId} {args:List D} {σ σ':St} {d:D} (ho:mK P g) (h:D.vU args->xS P g args σ d σ'):xS P g args σ d σ':=by refine⟨ho,λM0 w ι vals hS hl hv=>?_⟩;exact(h (vP λj hj=>(hv j hj).fact)).run M0 w ι vals hS hl hv
def xW (P:Program) (own:List Nat) (fn:Func):Option (Nat × DC × List rO):=
 match fn.body with
 | none=>none
 | some c=>
  if fn.name == "runtime.NumGoroutine" then none else
  match wR P fn.ntmps own c,yT (lA P fn.ntmps) fn.results.toList with
  | some dc,some rs=>some (fn.ntmps,dc,rs)
  | _,_=>none
theorem xS.ec {P:Program} {g:FuncId} {fn:Func} {own:List Nat} {N:Nat} {dc:DC} {rs:List rO} {args:List D} {σ:St} {d:D} {σ':St} (hm:P.follows .mixedOrders=true) (hf:P.funcs[g]?=some fn)
  (hc:xW P own fn=some (N,dc,rs)) (hla:args.length<=N)
  (h:D.vU args->rR ⟨P,N,σ.nx,own,none⟩ dc (rL 0 args) σ (bY ⟨P,N,σ.nx,own,none⟩ rs d σ')):xS P g args σ d σ':=by
 unfold xW at hc
 split at hc
 ·cases hc
 ·rename_i c hb
  split at hc
  ·cases hc
  ·rename_i hname
   split at hc
   ·rename_i dc' rs' h1 h2;simp at hc;obtain⟨rfl,rfl,rfl⟩:=hc;refine xS.facts ⟨fn,hf,by simpa using hname,by rw [hb]; rfl⟩ λhfa=>?_;exact xS.gx hm hf hb (by simpa using hname) h1 h2 hla (jW (C:=⟨P,fn.ntmps,σ.nx,own,none⟩) hm (h hfa))
   ·cases hc
theorem xS.split {P:Program} {g:FuncId} {pre post:List D} {sz:Nat} {σ σ':St} {d:D} (h1:xS P g (pre ++ .xY :: post) σ d σ') (h2:xS P g (pre ++ .emp :: post) σ d σ'):xS P g (pre ++ .sl sz [] :: post) σ d σ':=by
 refine⟨h1.ord,λM0 w ι vals hS hl hv=>?_⟩;have hk:=hv pre.length (by simp);have e0:(pre++D.sl sz [] :: post).getD pre.length .top = .sl sz []:=by simp [List.getD]
 rw [e0] at hk
 have other:∀ (x:D) j,j≠pre.length->(pre++x :: post).getD j .top=(pre++D.sl sz [] :: post).getD j .top:=by
  intro x j hj;simp only [List.getD]
  rcases Nat.lt_trichotomy j pre.length with h | h | h
  ·rw [η h,η h]
  ·exact absurd h hj
  ·rw [ζ (by omega),ζ (by omega)];have:j-pre.length=(j-pre.length-1)+ 1:=by omega
   rw [this];simp
 have same:∀ (x:D),(pre++x :: post).getD pre.length .top=x:=by intro x; simp [List.getD]
 have go:∀ (x:D),R (xD M0 ι σ) w ι σ.nx (vals.getD pre.length undef) x->∀ j,j<(pre++x :: post).length->R (xD M0 ι σ) w ι σ.nx (vals.getD j undef) ((pre++x :: post).getD j .top):=by
  intro x hx j hj
  by_cases h:j=pre.length
  ·subst h; rw [same]; exact hx
  ·rw [other x j h]; exact hv j (by simpa using hj)
 rcases hk.pK with ⟨a,cap,e1,_,h0⟩ | ⟨b,off,cap,vs,e1,_,_,_,g4,_⟩
 ·cases a with
  | none=> have hc:=h0 rfl;subst hc;exact h1.run M0 w ι vals hS (by simpa using hl) (go .xY (by rw [e1]; exact .pure .xY))
  | some a=>exact h2.run M0 w ι vals hS (by simpa using hl) (go .emp (by rw [e1]; exact .pure (.emp _ _)))
 ·exact h2.run M0 w ι vals hS (by simpa using hl) (go .emp (by rw [e1]; exact .pure (.emp _ _)))
theorem xS.bd {P:Program} {g:FuncId} {post:List D} {sz:Nat} {σ σ':St} {d:D} (h1:xS P g (.xY :: post) σ d σ') (h2:xS P g (.emp :: post) σ d σ'):xS P g (.sl sz [] :: post) σ d σ':=xS.split (pre:=[]) h1 h2
omit [zJ]
def rows (k:IntKind) (l:List Int):List (List D):=l.map λn=>[.int k n]
theorem wF (k:IntKind) (l:List Int):(rows k l).length=l.length:=by simp [rows]
theorem jH (k:IntKind) (l:List Int) {i:Nat} (h:i<l.length):(rows k l).getD i [] = [.int k (l.getD i 0)]:=by simp [rows,List.getD,h]
theorem uL (k:IntKind) (l:List Int):∀ e ∈ rows k l,D.xR e=true:=by intro e he;simp only [rows,θ] at he;obtain⟨n,_,rfl⟩:=he;rfl
theorem fW (k:IntKind) (l:List Int):∀ e ∈ rows k l,yX e=true:=by intro e he;simp only [rows,θ] at he;obtain⟨n,_,rfl⟩:=he;rfl
theorem tf (k:IntKind) (l:List Int) (n:Nat):(rows k l).take n=rows k (l.take n):=by simp [rows,List.map_take]
theorem wrap_i64 {x:Int} (h:-9223372036854775808<=x/\x<=9223372036854775807):IntKind.i64.wrap x=x:=by simp [IntKind.wrap,IntKind.signed,IntKind.bits];split <;> omega
theorem wrap_u64 {x:Int} (h:0<=x/\x<18446744073709551616):IntKind.u64.wrap x=x:=by simp [IntKind.wrap,IntKind.signed,IntKind.bits];omega
end Go.Pd
