/- Part X8. -/
import Derived.Test.YtjklmijiccabfaaGreatRX6
set_option linter.unusedSectionVars false
set_option linter.unusedVariables false
set_option linter.unusedSimpArgs false
set_option linter.defProp false
namespace Go.Pd
open Go
variable [Tabs]
def Mk (M0:Nat->Prop) (ι:Nat->Nat) (σ:St) (K:Nat->Prop) (b:Nat):Prop:=M0 b\/∃ k o,K k/\σ.get k=some o/\ι k=b
def Seen (σ:St) (K:Nat->Prop) (d d':D):Prop:=∀ (M0:Nat->Prop) (w:World) (ι:Nat->Nat) (v:Value),SimS M0 w σ ι->R (Mof M0 ι σ) w ι σ.nx v d->RP (Mk M0 ι σ K) w v d'
def SeenL (σ:St) (K:Nat->Prop):List D->List D->Prop
 | [],[]=>True
 | d :: ds,c :: cs=>Seen σ K d c/\SeenL σ K ds cs
 | _,_=>False
theorem Mk.mof {M0:Nat->Prop} {ι:Nat->Nat} {σ:St} {K:Nat->Prop} {b:Nat} (h:Mk M0 ι σ K b):Mof M0 ι σ b:=h.imp id fun⟨k,o,_,h1,h2⟩=>⟨k,o,h1,h2⟩
theorem SeenL.len {σ:St} {K:Nat->Prop}:∀ {ds cs:List D},SeenL σ K ds cs->ds.length=cs.length
 | [],[],_=>rfl
 | _ :: _,_ :: _,h=>by simp [SeenL.len h.2]
 | [],_ :: _,h=>h.elim
 | _ :: _,[],h=>h.elim
theorem SeenL.at_ {σ:St} {K:Nat->Prop}:∀ {ds cs:List D},SeenL σ K ds cs->∀ j,j<cs.length->Seen σ K (ds.getD j .top) (cs.getD j .top)
 | [],[],_,j,hj=>by simp at hj
 | _ :: _,_ :: _,h,0,_=>by simpa using h.1
 | _ :: _,_ :: _,h,j+1,hj=>by simpa using SeenL.at_ h.2 j (by simpa using hj)
 | [],_ :: _,h,_,_=>h.elim
 | _ :: _,[],h,_,_=>h.elim
theorem Seen.pure {σ:St} {K:Nat->Prop} {d:D} (h:d.isPure=true):Seen σ K d d:=fun _ _ _ _ _ hR=>(hR.toRP h).keep (fun _ _ _=>rfl) fun _ _ hb=>hb.mof
theorem Seen.nil {σ:St} {K:Nat->Prop} (sz:Nat):Seen σ K .nils (.sl sz []):=fun _ _ _ v _ hR=>by
 have:=hR.nils_inv
 subst this
 exact .sl0 _ _ _ (by simp)
theorem Mk.not {M0:Nat->Prop} {w:World} {ι:Nat->Nat} {σ:St} {K:Nat->Prop} {key:Nat} {ob:Ob} (hS:SimS M0 w σ ι) (hob:σ.get key=some ob) (hk:¬ K key):¬ Mk M0 ι σ K (ι key):=by
 rintro (h | ⟨k,o,h1,h2,h3⟩)
 ·exact hS.notM key ob hob h
 ·exact hk (hS.inj k key o ob h2 hob h3 ▸ h1)
theorem Seen.osl {σ:St} {K:Nat->Prop} {key sz n:Nat} {ob:Ob} {els:List (List D)} (hob:σ.get key=some ob) (hk:¬ K key) (hs:0<sz) (hsz:ob.sz=sz) (hn:n<=ob.els.length) (hl:els.length=n)
  (hrow:∀ e ∈ els,e.length=sz) (h:∀ i,i<n->∀ j,j<sz->Seen σ K ((ob.els.getD i []).getD j .top) ((els.getD i []).getD j .top)):Seen σ K (.osl key sz n) (.sl sz els):=fun M0 w ι v hS hR=>by
 subst hsz; subst hl
 obtain⟨cap,cur,e,rfl,k1,k2,k3,k4,k5⟩:=hR.osl_inv
 obtain⟨_,cur',e',c1,c2,c3,c4⟩:=HoldsB.rows (hS.holds key ob hob).2 k4
 rw [k4] at c1
 simp at c1
 obtain⟨rfl,rfl⟩:=c1
 refine .sl (fun i j=>cur.getD (i*ob.sz+j) undef) hs (Mk.not hS hob hk) k2 k3 hrow (fun i hi j hj=>?_) fun i hi j hj=>h i hi j hj M0 w ι _ hS (c4 i (by omega) j hj).2
 have:i*ob.sz+j<cur.size:=by
  have:=lin_lt (m:=ob.els.length) (i:=i) (j:=j) (sz:=ob.sz) (by omega) hj
  omega
 rw [Nat.zero_add,cell_of_row _ _ _ _ _ _ k4]
 simp [this]
theorem SimS.sub {M0:Nat->Prop} {w:World} {σ:St} {ι:Nat->Nat} {objs':List (Nat × Ob)} (h:SimS M0 w σ ι) (hs:∀ k o,St.look objs' k=some o->σ.get k=some o):SimS M0 w ⟨σ.nx,objs'⟩ ι:=
 have hm:∀ b,Mof M0 ι ⟨σ.nx,objs'⟩ b->Mof M0 ι σ b:=fun b hb=>hb.imp id fun⟨k,o,h1,h2⟩=>⟨k,o,hs k o h1,h2⟩
 ⟨h.old,fun k o hk=>⟨(h.holds k o (hs k o hk)).1,(h.holds k o (hs k o hk)).2.keep rfl rfl (fun _ _ _=>rfl) (fun b _ hb=>hm b hb) (fun b cur e hc=>⟨cur,hc,rfl⟩) (fun _ _=>rfl) (Nat.le_refl _)⟩,
  fun k k' o o' hk hk'=>h.inj k k' o o' (hs k o hk) (hs k' o' hk'),fun k o hk=>h.notM k o (hs k o hk),h.tabs.keep (Nat.le_refl _) (fun _ _ _=>rfl) fun b _ hb=>hm b hb⟩
theorem CallT.give {P:Program} {g:FuncId} {args args':List D} {d:D} {σ:St} {objs':List (Nat × Ob)} (K:Nat->Prop) (hc:Runs P g args' d) (hl':SeenL σ K args args') (hs:∀ k o,St.look objs' k=some o->K k/\σ.get k=some o) :
  CallT P g args σ d ⟨σ.nx,objs'⟩:=by
 refine⟨hc.ord,fun M0 w ι vals hS hl hv=>?_⟩
 have hS':=hS.sub (objs':=objs') fun k o hk=>(hs k o hk).2
 have S1:SimS (Mof M0 ι ⟨σ.nx,objs'⟩) w St0 ι:=⟨fun b hb=>Mof.lt hS' hb,(fun k o hk=>by cases hk),(fun k k' o o' hk=>by cases hk),(fun k o hk=>by cases hk),hS'.tabs.keep (Nat.le_refl _) (fun _ _ _=>rfl) fun b _ hb=>hb.elim id fun⟨k,o,hk,_⟩=>by cases hk⟩
 have e1:∀ (ι':Nat->Nat) b,Mof (Mof M0 ι ⟨σ.nx,objs'⟩) ι' St0 b->Mof M0 ι ⟨σ.nx,objs'⟩ b:=by
  intro ι' b hb
  rcases hb with hb | ⟨k,o,hk,_⟩
  ·exact hb
  ·cases hk
 have hlen:=hl'.len
 have e2:∀ b,Mof M0 ι ⟨σ.nx,objs'⟩ b->Mk M0 ι σ K b:=fun b hb=>hb.imp id fun⟨k,o,h1,h2⟩=>⟨k,o,(hs k o h1).1,(hs k o h1).2,h2⟩
 refine(hc.run _ w ι vals S1 (by omega) fun j hj=>.pure ((hl'.at_ j hj M0 w ι _ hS (hv j (by omega))).keep (fun _ _ _=>rfl) fun b _ hb=>e2 b (e1 ι b hb))).mono fun e w' hh=>?_
 obtain⟨v,ι',rfl,k1,k2,k3,k4,k5,k6⟩:=hh
 have K0:Kept w w' fun _=>False:=k1.mono fun b _ ⟨k,o,hk,_⟩=>by cases hk
 exact⟨v,ι,rfl,K0.none _,hS'.ext K0,Nat.le_refl _,fun _ _=>rfl,fun k o hk=>.inr ⟨k,o,(hs k o hk).2,rfl⟩,.pure (k6.zero.keep (fun _ _ _=>rfl) fun b _ hb=>.inl hb)⟩
theorem Seen.rows {σ:St} {K:Nat->Prop} {key sz n:Nat} {els:List (List D)} (hob:σ.get key=some ⟨sz,els⟩) (hk:¬ K key) (hs:0<sz) (hn:n=els.length) (hrow:∀ e ∈ els,e.length=sz) (hp:∀ e ∈ els,D.isPureL e=true):Seen σ K (.osl key sz n) (.sl sz els):=by
 subst hn
 refine Seen.osl hob hk hs rfl (Nat.le_refl _) rfl hrow fun i hi j hj=>?_
 have hm:els.getD i [] ∈ els:=by simp [List.getD,hi]
 exact .pure (isPureL_get (hp _ hm) j)
theorem Seen.grow {σ:St} {K:Nat->Prop} {key sz:Nat} {els:List (List D)} (hob:σ.get key=growG sz els) (hk:¬ K key) (hs:0<sz) (hrow:∀ e ∈ els,e.length=sz) (hp:∀ e ∈ els,D.isPureL e=true):Seen σ K (growD key sz els) (.sl sz els):=by
 cases els with
 | nil=>exact .nil sz
 | cons e r=>exact Seen.rows hob hk hs rfl hrow hp
end Go.Pd
