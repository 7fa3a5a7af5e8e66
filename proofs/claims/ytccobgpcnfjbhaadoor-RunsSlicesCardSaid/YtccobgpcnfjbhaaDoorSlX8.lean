/- Part X8. -/
import Derived.Test.YtccobgpcnfjbhaaDoorSlXS
set_option linter.unusedSectionVars false
set_option linter.unusedVariables false
set_option linter.unusedSimpArgs false
set_option linter.defProp false
namespace Go.Pd
open Go
variable [zJ]
def Mk (M0:Nat->Prop) (ι:Nat->Nat) (σ:St) (K:Nat->Prop) (b:Nat):Prop:=M0 b\/∃ k o,K k/\σ.get k=some o/\ι k=b
def Seen (σ:St) (K:Nat->Prop) (d d':D):Prop:=∀ (M0:Nat->Prop) (w:World) (ι:Nat->Nat) (v:Value),yY M0 w σ ι->R (xD M0 ι σ) w ι σ.nx v d->RP (Mk M0 ι σ K) w v d'
def pM (σ:St) (K:Nat->Prop):List D->List D->Prop
 | [],[]=>True
 | d :: ds,c :: cs=>Seen σ K d c/\pM σ K ds cs
 | _,_=>False
theorem Mk.Y9 {M0:Nat->Prop} {ι:Nat->Nat} {σ:St} {K:Nat->Prop} {b:Nat} (h:Mk M0 ι σ K b):xD M0 ι σ b:=h.imp id λ⟨k,o,_,h1,h2⟩=>⟨k,o,h1,h2⟩
theorem pM.len {σ:St} {K:Nat->Prop}:∀ {ds cs:List D},pM σ K ds cs->ds.length=cs.length
 | [],[],_=>rfl
 | _ :: _,_ :: _,h=>by simp [pM.len h.2]
 | [],_ :: _,h=>h.elim
 | _ :: _,[],h=>h.elim
theorem pM.at_ {σ:St} {K:Nat->Prop}:∀ {ds cs:List D},pM σ K ds cs->∀ j,j<cs.length->Seen σ K (ds.getD j .top) (cs.getD j .top)
 | [],[],_,j,hj=>by simp at hj
 | _ :: _,_ :: _,h,0,_=>by simpa using h.1
 | _ :: _,_ :: _,h,j+1,hj=>by simpa using pM.at_ h.2 j (by simpa using hj)
 | [],_ :: _,h,_,_=>h.elim
 | _ :: _,[],h,_,_=>h.elim
theorem Seen.pure {σ:St} {K:Nat->Prop} {d:D} (h:d.xQ=true):Seen σ K d d:=λ_ _ _ _ _ hR=>(hR.kD h).xE (λ_ _ _=>rfl) λ_ _ hb=>hb.Y9
theorem Seen.agg {σ:St} {K:Nat->Prop} {ds cs:List D} (h:pM σ K ds cs):Seen σ K (.agg ds) (.agg cs):=λM0 w ι v hS hR=>by obtain⟨vs,rfl,h1,h2⟩:=hR.mT;have:=h.len;exact .agg (by omega) λj hj=>h.at_ j hj M0 w ι _ hS (h2 j (by omega))
theorem Seen.fn {σ:St} {K:Nat->Prop} {f:FuncId} {ds cs:List D} (h:pM σ K ds cs):Seen σ K (.fn f ds) (.fn f cs):=λM0 w ι v hS hR=>by obtain⟨vs,rfl,h1,h2⟩:=hR.nT;have:=h.len;exact .fn (by omega) λj hj=>h.at_ j hj M0 w ι _ hS (h2 j (by omega))
theorem Mk.not {M0:Nat->Prop} {w:World} {ι:Nat->Nat} {σ:St} {K:Nat->Prop} {key:Nat} {ob:Ob} (hS:yY M0 w σ ι) (hob:σ.get key=some ob) (hk:¬ K key):¬ Mk M0 ι σ K (ι key):=by
 rintro (h | ⟨k,o,h1,h2,h3⟩)
 ·exact hS.notM key ob hob h
 ·exact hk (hS.inj k key o ob h2 hob h3 ▸ h1)
theorem Seen.zZ {σ:St} {K:Nat->Prop} {key sz n:Nat} {ob:Ob} {xX:List (List D)} (hob:σ.get key=some ob) (hk:¬ K key) (hs:0<sz) (hsz:ob.sz=sz) (hn:n<=ob.xX.length) (hl:xX.length=n)
  (hrow:∀ e ∈ xX,e.length=sz) (h:∀ i,i<n->∀ j,j<sz->Seen σ K ((ob.xX.getD i []).getD j .top) ((xX.getD i []).getD j .top)):Seen σ K (.zZ key sz n) (.sl sz xX):=λM0 w ι v hS hR=>by
 subst hsz; subst hl;obtain⟨cap,cur,e,rfl,k1,k2,k3,k4,k5⟩:=hR.wC;obtain⟨_,cur',e',c1,c2,c3,c4⟩:=xK.rows (hS.holds key ob hob).2 k4;rw [k4] at c1;simp at c1;obtain⟨rfl,rfl⟩:=c1;refine .sl (λi j=>cur.getD (i*ob.sz+j) undef) hs (Mk.not hS hob hk) k2 k3 hrow (λi hi j hj=>?_) λi hi j hj=>h i hi j hj M0 w ι _ hS (c4 i (by omega) j hj).2
 have:i*ob.sz+j<cur.size:=by have:=sY (m:=ob.xX.length) (i:=i) (j:=j) (sz:=ob.sz) (by omega) hj;omega
 rw [Nat.zero_add,cell_of_row _ _ _ _ _ _ k4];simp [this]
theorem Seen.ref {σ:St} {K:Nat->Prop} {key sz i off:Nat} {ob:Ob} {cs:List D} (hob:σ.get key=some ob) (hk:¬ K key) (hsz:ob.sz=sz) (hi:i<ob.xX.length) (hc:0<cs.length) (hl:off+cs.length<=sz)
  (h:∀ j,j<cs.length->Seen σ K ((ob.xX.getD i []).getD (off+j) .top) (cs.getD j .top)):Seen σ K (.ref key sz i off) (.ptr cs):=λM0 w ι v hS hR=>by
 subst hsz;obtain⟨rfl,k1,k2⟩:=hR.wY;obtain⟨cur,e,c1,c2,c3,c4⟩:=(hS.holds key ob hob).2.cells k2;refine .ptr (λj=>cur.getD (i*ob.sz+(off+j)) undef) hc (Mk.not hS hob hk) (λj hj=>?_) λj hj=>h j hj M0 w ι _ hS (c4 i hi (off+j) (by omega)).2
 have:i*ob.sz+(off+j)<cur.size:=by have:=sY (m:=ob.xX.length) (i:=i) (j:=off+j) (sz:=ob.sz) hi (by omega);omega
 rw [Nat.add_assoc,cell_of_row _ _ _ _ _ _ c1];simp [this]
def j5 (σ:St) (d d':D):Prop:=∀ (M0:Nat->Prop) (w:World) (ι:Nat->Nat) (v:Value),yY M0 w σ ι->R (xD M0 ι σ) w ι σ.nx v d->RP (λ_=>False) w v d'
theorem Seen.f {σ:St} {K:Nat->Prop} {d d':D} (h:Seen σ K d d'):j5 σ d d':=λM0 w ι v hS hR=>(h M0 w ι v hS hR).xE (λ_ _ _=>rfl) λ_ _ hb=>hb.elim
theorem xS.l8 {P:Program} {g:FuncId} {args args':List D} {d:D} {σ:St} (hc:wP P g args' d) (hl':pM σ (λ_=>False) args args') (hf:d.flat=true):xS P g args σ d σ:=by
 refine⟨hc.ord,λM0 w ι vals hS hl hv=>?_⟩;have S1:yY (λ_=>False) w hU ι:=⟨λb hb=>hb.elim,(λk o hk=>by cases hk),(λk k' o o' hk=>by cases hk),(λk o hk=>by cases hk),hS.tW.xE (Nat.le_refl _) (λ_ _ _=>rfl) λb _ hb=>hb.elim False.elim λ⟨k,o,hk,_⟩=>by cases hk⟩
 have e1:∀ (ι':Nat->Nat) b,xD (λ_=>False) ι' hU b->False:=by
  intro ι' b hb
  rcases hb with hb | ⟨k,o,hk,_⟩
  ·exact hb
  ·cases hk
 have hlen:=hl'.len;refine(hc.run _ w ι vals S1 (by omega) λj hj=>.pure (((hl'.at_ j hj).f M0 w ι _ hS (hv j (by omega))).xE (λ_ _ _=>rfl) λb _ hb=>e1 ι b hb)).mono λe w' hh=>?_;obtain⟨v,ι',rfl,k1,k2,k3,k4,k5,k6⟩:=hh;have K0:Kept w w' λ_=>False:=k1.mono λb _ ⟨k,o,hk,_⟩=>by cases hk
 exact⟨v,ι,rfl,K0.none _,hS.ext K0,Nat.le_refl _,λ_ _=>rfl,λk o hk=>.inr ⟨k,o,hk,rfl⟩,.pure (k6.zero.flat hf)⟩
theorem yY.sub {M0:Nat->Prop} {w:World} {σ:St} {ι:Nat->Nat} {objs':List (Nat × Ob)} (h:yY M0 w σ ι) (hs:∀ k o,St.look objs' k=some o->σ.get k=some o):yY M0 w ⟨σ.nx,objs'⟩ ι:=
 have hm:∀ b,xD M0 ι ⟨σ.nx,objs'⟩ b->xD M0 ι σ b:=λb hb=>hb.imp id λ⟨k,o,h1,h2⟩=>⟨k,o,hs k o h1,h2⟩
 ⟨h.rQ,λk o hk=>⟨(h.holds k o (hs k o hk)).1,(h.holds k o (hs k o hk)).2.xE rfl rfl (λ_ _ _=>rfl) (λb _ hb=>hm b hb) (λb cur e hc=>⟨cur,hc,rfl⟩) (λ_ _=>rfl) (Nat.le_refl _)⟩,
  λk k' o o' hk hk'=>h.inj k k' o o' (hs k o hk) (hs k' o' hk'),λk o hk=>h.notM k o (hs k o hk),h.tW.xE (Nat.le_refl _) (λ_ _ _=>rfl) λb _ hb=>hm b hb⟩
end Go.Pd
