/- Part X2. -/
import Derived.Test.YtjmfdgonjighpaaZqK1
import Derived.Laws.Tables
import Derived.Great.BuildSlice
set_option linter.unusedSectionVars false
set_option linter.unusedVariables false
set_option linter.unusedSimpArgs false
set_option linter.defProp false
open Option renaming map_eq_some_iff->γ,bind_eq_some_iff->δ,bind_eq_bind->ε
open List renaming getElem?_take->ζ,length_take->η,getElem?_eq_none->θ,getElem?_map->κ,getElem_mem->μ,length_drop->ν,eq_nil_of_length_eq_zero->ξ,length_replicate->ο,getElem?_set_ne->π,getElem?_range'->υ,length_cons->χ
open Nat renaming add_assoc->ψ,mul_le_mul_right->ω,add_mul->Aa,le_refl->Ab,zero_add->Ac,lt_of_lt_of_le->Ad,lt_or_ge->Ae,add_zero->Af
open Array renaming getD_eq_getD_getElem?->Ag,getElem?_setIfInBounds_ne->Ah,length_toList->Ai,foldl_toList->Aj
namespace Go.Pd
open Go
variable [vA]
theorem uS : ∀ {cs:List D} (_:D.xT cs=true) (j:Nat),(cs.getD j .top).xO=true
 | [],_,j=>by simp [D.xO]
 | d :: r,h,j=>by
  simp only [D.xT,Bool.and_eq_true] at h
  cases j with
  | zero=>simpa using h.1
  | succ j=>simpa using uS h.2 j
theorem R.yq {M:Nat->Prop} {w:World} {ι:Nat->Nat} {n:Nat} {v:Value} {d:D} (h:R M w ι n v d) (hp:d.xO=true):RP M w v d:=by
 induction h with
 | pure h=>exact h
 | ref _=>simp [D.xO] at hp
 | wZ _ _ _ _ _=>simp [D.xO] at hp
 | sub _ _ _ _ _=>simp [D.xO] at hp
 | yV _=>simp [D.xO] at hp
 | agg hl hr ih=>simp only [D.xO] at hp; exact .agg hl λj hj=>ih j hj (uS hp j)
 | yD hl hr ih=>simp only [D.xO] at hp; exact .yD hl λj hj=>ih j hj (uS hp j)
 | fn hl hr ih=>simp only [D.xO] at hp; exact .fn hl λj hj=>ih j hj (uS hp j)
def eD (cells:Array Value) (off:Nat):List Value->Array Value
 | []=>cells
 | v :: r=>eD (cells.setIfInBounds off v) (off+1) r
theorem aY : ∀ (vs:List Value) (cells:Array Value) (off:Nat),(eD cells off vs).size=cells.size
 | [],_,_=>rfl
 | v :: r,cells,off=>by simp [eD,aY r]
theorem vm : ∀ (vs:List Value) (cells:Array Value) (off j:Nat),off+vs.length<=cells.size->(eD cells off vs).getD j undef=if off<=j/\j<off+vs.length then vs.getD (j-off) undef else cells.getD j undef
 | [],cells,off,j,_=>by simp [eD]; intro h1 h2; omega
 | v :: r,cells,off,j,h=>by
  simp only [χ] at h;rw [eD,vm r _ _ _ (by simp; omega)]
  by_cases h1:j=off
  ·subst h1;have:j<cells.size:=by omega
   simp [this];intro h1 h2; omega
  ·by_cases h2:off+1<=j/\j<off+1+r.length
   ·have h3:off<=j/\j<off+(r.length+1):=by omega
    have h4:j-off=(j-(off+1))+ 1:=by omega
    simp [h2,h3,h4]
   ·have h3:¬ (off<=j/\j<off+(r.length+1)):=by omega
    rw [if_neg h2,if_neg (by simpa using h3)];have zL:off≠j:=λe=>h1 e.symm;simp [Ah zL]
theorem eM : ∀ (vs:List Value) (cells:Array Value) (off k:Nat),(vs.zipIdx k).foldl (λcs (x:Value × Nat)=>cs.setIfInBounds (off+x.2) x.1) cells=eD cells (off+k) vs
 | [],_,_,_=>rfl
 | v :: r,cells,off,k=>by simp only [List.zipIdx_cons,List.foldl_cons,eD];rw [eM r _ off (k+1)];rfl
theorem cP : ∀ (ds cs:List D) (o:Nat),(oR cs o ds).length=cs.length
 | [],_,_=>rfl
 | d :: r,cs,o=>by simp [oR,cP r]
theorem vq : ∀ (ds cs:List D) (o j:Nat),o+ds.length<=cs.length->(oR cs o ds).getD j .top=if o<=j/\j<o+ds.length then ds.getD (j-o) .top else cs.getD j .top
 | [],cs,o,j,_=>by simp [oR]; intro h1 h2; omega
 | d :: r,cs,o,j,h=>by
  simp only [χ] at h;rw [oR,vq r _ _ _ (by simp; omega)]
  by_cases h1:j=o
  ·subst h1;have:j<cs.length:=by omega
   simp [this];intro h1 h2; omega
  ·by_cases h2:o+1<=j/\j<o+1+r.length
   ·have h3:o<=j/\j<o+(r.length+1):=by omega
    have h4:j-o=(j-(o+1))+ 1:=by omega
    simp [h2,h3,h4]
   ·have h3:¬ (o<=j/\j<o+(r.length+1)):=by omega
    rw [if_neg h2,if_neg (by simpa using h3)];have zL:o≠j:=λe=>h1 e.symm;simp [π zL]
section
variable {M : Nat -> Prop} {w : World} {ι : Nat -> Nat} {n : Nat}
def bU (M:Nat->Prop) (w:World) (ι:Nat->Nat) (n:Nat) (cs:Array Value) (ds:List D):Prop:=cs.size=ds.length/\∀ j,j<ds.length->R M w ι n (cs.getD j undef) (ds.getD j .top)
theorem fZ {v:Value} {d:D} (h:R M w ι n v d) {ds:List D} (hd:d.cells=some ds):bU M w ι n v.cells ds:=by
 have lone:∀ v':Value,(∀ cs,v' ≠ .agg cs)->v'.cells = #[v']:=by intro v' hv; cases v' <;> first | rfl | exact absurd rfl (hv _)
 have one:∀ v' d',R M w ι n v' d'->(∀ cs,v' ≠ .agg cs)->bU M w ι n v'.cells [d']:=by
  intro v' d' hr hv;rw [lone v' hv];refine⟨rfl,λj hj=>?_⟩;have:j=0:=by simp at hj; exact hj
  subst this;exact hr
 have hh:=h;cases d <;> simp [D.cells] at hd <;> subst hd
 case agg cs=> obtain⟨vs,rfl,h1,h2⟩:=h.cU;exact⟨h1,h2⟩
 all_goals
  refine one _ _ hh λcs e=>?_;subst e
  cases h with
  | pure h=>cases h
theorem gN {v:Value} {d:D} (h:R M w ι n v d) (hd:d.one=true):v.oneCell'=true:=by
 cases h with
 | pure h=>cases h <;> simp [D.one] at hd <;> rfl
 | ref _=>rfl
 | wZ _ _ _ _ _=>rfl
 | sub _ _ _ _ _=>rfl
 | yV _=>rfl
 | agg _ _=>simp [D.one] at hd
 | yD _ _=>simp [D.one] at hd
 | fn _ _=>rfl
theorem bU.put {cs vs:Array Value} {ds es:List D} {o:Nat} (h:bU M w ι n cs ds) (h':bU M w ι n vs es) (ho:o+es.length<=ds.length):bU M w ι n (eD cs o vs.toList) (oR ds o es):=by
 obtain⟨h1,h2⟩:=h;obtain⟨h3,h4⟩:=h';refine⟨by rw [aY,cP,h1],λj hj=>?_⟩;rw [cP] at hj;rw [vm _ _ _ _ (by simp; omega),vq _ _ _ _ ho];simp only [Ai,h3]
 split
 ·rename_i hj';have:=h4 (j-o) (by omega);simpa using this
 ·exact h2 j hj
def Mb (M:Nat->Prop) (w:World) (ι:Nat->Nat) (n:Nat) (place:Nat->Option (Nat × Nat)):List (Nat × Value)->List (Nat × Nat × D)->Prop
 | [],[]=>True
 | p :: ps,q :: qs=>place p.1=some (q.1,q.2.1)/\ R M w ι n p.2 q.2.2/\Mb M w ι n place ps qs
 | _,_=>False
theorem uw (place:Nat->Option (Nat × Nat)):∀ (ps:List (Nat × Value)) (qs:List (Nat × Nat × D)) (cs:Array Value) (ds ds':List D),bU M w ι n cs ds->Mb M w ι n place ps qs->xz ds qs=some ds' ->
  ∃ cs',Instr.fill place cs ps=some cs'/\bU M w ι n cs' ds'
 | [],[],cs,ds,ds',h,_,hf=>by simp [xz] at hf; subst hf; exact⟨cs,rfl,h⟩
 | [],q :: qs,_,_,_,_,hp,_=>hp.elim
 | p :: ps,[],_,_,_,_,hp,_=>hp.elim
 | (i,v) :: ps,(o,s,d) :: qs,cs,ds,ds',h,⟨h1,h2,h3⟩,hf=>by
  simp only [xz] at hf
  cases hd:d.cells with
  | none=>simp [hd] at hf
  | some es=>
   simp only [hd] at hf
   split at hf
   ·rename_i hc;obtain⟨hc1,hc2⟩:=hc;have hv:=fZ h2 hd;have h4:¬ (v.cells.size≠s\/o+v.cells.size > cs.size):=by rw [hv.1,h.1]; omega
    simp only at h1
    have e:v.cells.zipIdx.foldl (λcs (x:Value × Nat)=>cs.setIfInBounds (o+x.2) x.1) cs=eD cs o v.cells.toList:=by rw [<- Aj];have:=eM v.cells.toList cs o 0;simpa using this
    obtain⟨cs',hf',hr'⟩:=uw place ps qs (eD cs o v.cells.toList) _ ds' (h.put hv (by rw [hc1]; exact hc2)) h3 hf;refine⟨cs',?_,hr'⟩;have h5:v.cells.size=s:=by rw [hv.1]; exact hc1
    have h6:o+s<=cs.size:=by rw [h.1]; exact hc2
    simp only [Instr.fill,h1];rw [if_neg (by simp [h5]; omega)];rw [<- hf',<- e]
   ·simp at hf
def ZV (M:Nat->Prop) (w:World) (ι:Nat->Nat) (n sz:Nat) (cs:Array Value) (es:List (List D)):Prop:= cs.size=es.length*sz/\(∀ e ∈ es,e.length=sz)/\ ∀ i,i<es.length->∀ j,j<sz->R M w ι n (cs.getD (i*sz+j) undef) ((es.getD i []).getD j .top)
theorem nT {i j sz m:Nat} (hi:i<m) (hj:j<sz):i*sz+j<m*sz:=by have:(i+1)* sz<=m*sz:=ω _ hi;rw [Aa] at this;omega
theorem Y1 {i i' j sz:Nat} (hj:j<sz) (h1:i*sz<=i'*sz+j) (h2:i'*sz+j<i*sz+sz):i'=i:=by
 have h0:0<sz:=by omega
 rcases Nat.lt_trichotomy i' i with h | h | h
 ·have:(i'+1)* sz<=i*sz:=ω _ h;rw [Aa] at this;omega
 ·exact h
 ·have:(i+1)* sz<=i'*sz:=ω _ h;rw [Aa] at this;omega
theorem ZV.put {sz:Nat} {cs vs:Array Value} {es:List (List D)} {ds:List D} {i:Nat} (h:ZV M w ι n sz cs es) (h':bU M w ι n vs ds) (hl:ds.length=sz) (hi:i<es.length) :
  ZV M w ι n sz (eD cs (i*sz) vs.toList) (es.set i ds):=by
 obtain⟨h1,h2,h3⟩:=h;obtain⟨h4,h5⟩:=h'
 have hb:i*sz+sz<=cs.size:=by rw [h1];have:(i+1)* sz<=es.length*sz:=ω _ hi;rw [Aa] at this;omega
 refine⟨by rw [aY,h1]; simp,λe he=>?_,λi' hi' j hj=>?_⟩
 ·rcases List.mem_or_eq_of_mem_set he with h | rfl
  ·exact h2 e h
  ·exact hl
 ·simp only [List.length_set] at hi';rw [vm _ _ _ _ (by simp; omega)];simp only [Ai,h4,hl]
  by_cases hc:i'=i
  ·subst hc;rw [if_pos (by omega)];have e1:(es.set i' ds).getD i' []=ds:=by simp [List.getD,hi']
   rw [e1];have:=h5 j (by omega);have e2:i'*sz+j-i'*sz=j:=by omega
   simpa [e2] using this
  ·rw [if_neg (by intro hh; exact hc (Y1 hj hh.1 hh.2))];have e1:(es.set i ds).getD i' []=es.getD i' []:=by simp [List.getD,π (λe=>hc e.symm)]
   rw [e1];exact h3 i' hi' j hj
def Sx (M:Nat->Prop) (w:World) (ι:Nat->Nat) (n:Nat):List (Nat × Value)->List (Nat × D)->Prop
 | [],[]=>True
 | p :: ps,q :: qs=>p.1=q.1/\R M w ι n p.2 q.2/\Sx M w ι n ps qs
 | _,_=>False
theorem aM (sz:Nat):∀ (ps:List (Nat × Value)) (qs:List (Nat × D)) (cs:Array Value) (es es':List (List D)),ZV M w ι n sz cs es->Sx M w ι n ps qs->fT sz es qs=some es' ->
  ∃ cs',Instr.fill (λi=>some (i*sz,sz)) cs ps=some cs'/\ZV M w ι n sz cs' es'/\es'.length=es.length
 | [],[],cs,es,es',h,_,hf=>by simp [fT] at hf; subst hf; exact⟨cs,rfl,h,rfl⟩
 | [],q :: qs,_,_,_,_,hp,_=>hp.elim
 | p :: ps,[],_,_,_,_,hp,_=>hp.elim
 | (i,v) :: ps,(i',d) :: qs,cs,es,es',h,⟨h1,h2,h3⟩,hf=>by
  simp only at h1 h2;subst h1;simp only [fT] at hf
  cases hd:d.cells with
  | none=>simp [hd] at hf
  | some ds=>
   simp only [hd] at hf
   split at hf
   ·rename_i hc;obtain⟨hc1,hc2⟩:=hc;have hv:=fZ h2 hd
    have hb:i*sz+sz<=cs.size:=by rw [h.1];have:(i+1)* sz<=es.length*sz:=ω _ hc2;rw [Aa] at this;omega
    have e:v.cells.zipIdx.foldl (λcs (x:Value × Nat)=>cs.setIfInBounds (i*sz+x.2) x.1) cs=eD cs (i*sz) v.cells.toList:=by rw [<- Aj];have:=eM v.cells.toList cs (i*sz) 0;simpa using this
    obtain⟨cs',hf',hr',hl'⟩:=aM sz ps qs (eD cs (i*sz) v.cells.toList) _ es' (h.put hv hc1 hc2) h3 hf;refine⟨cs',?_,hr',by simpa using hl'⟩;have h5:v.cells.size=sz:=by rw [hv.1]; exact hc1
    simp only [Instr.fill];rw [if_neg (by simp [h5]; omega)];rw [<- hf',<- e]
   ·simp at hf
theorem wa {z:Array Value} {ds:List D} (h:wI D.leaf z.toList=some ds) {sz:Nat} (hs:ds.length=sz) (len:Nat) :
  ZV M w ι n sz ((Array.range (len*sz)).map (z[· % z.size]!)) (List.replicate len ds):=by
 obtain⟨hl,hg⟩:=zA h;have hz:z.size=sz:=by rw [<- hs,hl]; simp
 refine⟨by simp,λe he=>by rw [List.eq_of_mem_replicate he]; exact hs,λi hi j hj=>?_⟩;simp only [ο] at hi;have hlt:=nT hi hj;have e1:(List.replicate len ds).getD i []=ds:=by simp [List.getD,hi]
 have e2:(i*sz+j) % z.size=j:=by rw [hz,Nat.mul_comm,Nat.mul_add_mod]; exact Nat.mod_eq_of_lt hj
 have hj':j<z.size:=by omega
 have e3:((Array.range (len*sz)).map (z[· % z.size]!)).getD (i*sz+j) undef=z[j]:=by simp [hlt,e2,hj']
 rw [e1,e3];obtain⟨b,hb,hf⟩:=hg j z[j] (by simp [hj']);have e4:ds.getD j .top=b:=by simp [List.getD,hb]
 rw [e4];exact .pure (kF hf)
end
end Go.Pd
namespace Go.Pd
open Go
variable [vA]
theorem rB.lt {M0:Nat->Prop} {w:World} {σ:St} {ι:Nat->Nat} (h:zI M0 w σ ι) {b:Nat} (hb:rB ι σ b):b<w.heap.size:=by obtain⟨k,o,hk,rfl⟩:=hb;obtain⟨b,hc⟩:=yZ.isSome (h.holds k o hk).2;exact(Array.getElem?_eq_some_iff.1 hc).1
theorem yO.lt {M0:Nat->Prop} {w:World} {σ:St} {ι:Nat->Nat} (h:zI M0 w σ ι) {b:Nat} (hb:yO M0 ι σ b):b<w.heap.size:=by
 rcases hb with hb | hb
 ·exact h.oS b hb
 ·exact rB.lt h hb
theorem wb.xC {M M':Nat->Prop} {w w':World} {ι ι':Nat->Nat} {n n' key:Nat} {o:Ob} (h:wb M w ι n key o) (hsame:w'.heap[ι key]?=w.heap[ι key]?) (hi0:ι' key=ι key)
  (hb:∀ b,b<w.heap.size->¬ M b->w'.heap[b]?=w.heap[b]?) (hM:∀ b,b<w.heap.size->M' b->M b)
  (hs:∀ (b:Nat) (cur:Array Value) (e:TypeId),w.heap[b]?=some (Obj.cells cur e (0,0))->∃ cur':Array Value,w'.heap[b]?=some (Obj.cells cur' e (0,0))/\ cur'.size=cur.size)
  (hi:∀ k,k<n->ι' k=ι k) (hn:n<=n'):wb M' w' ι' n' key o:=by
 have h2:yZ M' w' ι' n' w.heap[ι key]? o:=yZ.imp h λhr=>hr.xC hb hM hs hi hn;show yZ M' w' ι' n' w'.heap[ι' key]? o;rw [hi0,hsame]; exact h2
theorem zI.ext {M0:Nat->Prop} {w w':World} {σ:St} {ι:Nat->Nat} (h:zI M0 w σ ι) (hk:Kept w w' λ_=>False):zI M0 w' σ ι:=
 ⟨λb hb=>Ad (h.oS b hb) hk.size,
  λk o hko=>⟨(h.holds k o hko).1,(h.holds k o hko).2.xC (hk.block _ (rB.lt h ⟨k,o,hko,rfl⟩) id) rfl (λb hb _=>hk.block b hb id) (λ_ _ h=>h) hk.shape (λ_ _=>rfl) (Ab _)⟩,
  h.inj,h.notM,h.sR.xC hk.size (λb hb _=>hk.block b hb id) (λ_ _ h=>h)⟩
theorem Kept.none {w w':World} (hk:Kept w w' λ_=>False) (K:Nat->Prop):Kept w w' K:=hk.mono λ_ _ h=>h.elim
theorem zI.back {M0:Nat->Prop} {w':World} {σ:St} {ι ι':Nat->Nat} (h:zI M0 w' σ ι') (hi:∀ k,k<σ.nx->ι' k=ι k):zI M0 w' σ ι:=by
 have hown:∀ b,yO M0 ι σ b->yO M0 ι' σ b:=by
  intro b hb
  rcases hb with hb | ⟨k,o,hk,rfl⟩
  ·exact .inl hb
  ·exact .inr ⟨k,o,hk,hi k (h.holds k o hk).1⟩
 refine⟨h.oS,λk o hk=>⟨(h.holds k o hk).1,?_⟩,λk k' o o' hk hk' e=>?_,λk o hk=>?_,h.sR.xC (Ab _) (λ_ _ _=>rfl) λb _ hb=>hown b hb⟩
 ·exact(h.holds k o hk).2.xC rfl (hi k (h.holds k o hk).1).symm (λ_ _ _=>rfl) (λb _ hb=>hown b hb) (λb cur e hc=>⟨cur,hc,rfl⟩) (λk hk=>(hi k hk).symm) (Ab _)
 ·exact h.inj k k' o o' hk hk' (by rw [hi k (h.holds k o hk).1,hi k' (h.holds k' o' hk').1]; exact e)
 ·rw [<- hi k (h.holds k o hk).1]; exact h.notM k o hk
def qH (Rel:Value->D->Prop) (kk:IntKind):List MapEntry->List (List D)->Nat->Prop
 | [],[],_=>True
 | e :: es,row :: r,i=>(∃ m v d,e=⟨.int kk m,v,i⟩/\ row = [.int kk m,d]/\Rel (.int kk m) (.int kk m)/\ Rel v d)/\ qH Rel kk es r (i+1)
 | _,_,_=>False
theorem qH.Ly {Rel:Value->D->Prop} {kk:IntKind} (hR:∀ v k m,Rel v (.int k m)->v = .int k m):∀ {es:List MapEntry} {xZ:List (List D)} {i0:Nat},es.length=xZ.length ->
  (∀ i,i<xZ.length->∃ (kv v:Value) (x d:D),xZ.getD i [] = [x,d]/\es[i]?=some ⟨kv,v,i0+i⟩/\ Rel kv x/\Rel v d)->lP kk xZ->qH Rel kk es xZ i0
 | [],[],_,_,_,_=>trivial
 | e :: es,row :: r,i0,hl,h,hk=>by
  obtain⟨kv,v,x,d,h1,h2,h5,h3⟩:=h 0 (by simp);obtain⟨m',d',h4⟩:=hk row (by simp);simp only [List.getD_cons_zero] at h1;rw [h4] at h1;simp only [List.cons.injEq,and_true] at h1;obtain⟨rfl,rfl⟩:=h1;have hq:=hR _ _ _ h5;subst hq;simp only [List.getElem?_cons_zero,Option.some.injEq,Af] at h2;refine⟨⟨_,v,_,h2,h4,h5,h3⟩,qH.Ly hR (by simpa using hl) (λi hi=>?_) λrow hr=>hk row (by simp [hr])⟩;obtain⟨kv,v,x,d,h1,h2,h5,h3⟩:=h (i+1) (by simpa using hi);refine⟨kv,v,x,d,by simpa using h1,?_,h5,h3⟩;have:i0+(i+1)= i0+1+i:=by omega
  rw [<- this]; simpa using h2
theorem qH.of {M:Nat->Prop} {w:World} {ι:Nat->Nat} {n:Nat} {kk:IntKind} {es:Array MapEntry} {xZ:List (List D)} (hl:es.size=xZ.length)
  (h:∀ i,i<xZ.length->∃ (kv v:Value) (x d:D),xZ.getD i [] = [x,d]/\es[i]?=some ⟨kv,v,i⟩/\ R M w ι n kv x/\R M w ι n v d) (hk:lP kk xZ):qH (R M w ι n) kk es.toList xZ 0:=
 qH.Ly (λv k m h=>h.yT.1) (by simpa using hl) (λi hi=>by obtain⟨kv,v,x,d,h1,h2,h3,h4⟩:=h i hi;exact⟨kv,v,x,d,h1,by simpa using h2,h3,h4⟩) hk
theorem qH.find {Rel:Value->D->Prop} {kk:IntKind} (q:IntKind) (x:Int):∀ {es:List MapEntry} {xZ:List (List D)} {i0:Nat},qH Rel kk es xZ i0 ->
  (Instr.findNow (.int q) (.int kk x) es i0=some none/\qT x xZ i0=none)\/∃ j v d,Instr.findNow (.int q) (.int kk x) es i0=some (some (j,v))/\ qT x xZ i0=some (j,d)/\ i0<=j/\es[j-i0]?=some ⟨.int kk x,v,j⟩/\ xZ[j-i0]?=some [.int kk x,d]/\Rel v d
 | [],[],i0,_=>.inl ⟨rfl,rfl⟩
 | e :: es,row :: r,i0,h=>by
  obtain⟨⟨m,v,d,rfl,rfl,h30,h3⟩,h4⟩:=h
  by_cases hx:x=m
  ·subst hx
   refine .inr ⟨i0,v,d,?_,?_,Ab _,by simp,by simp,h3⟩
   ·simp [Instr.findNow,Instr.sameNow]
   ·simp [qT]
  ·have e1:Instr.findNow (.int q) (.int kk x) (⟨.int kk m,v,i0⟩ :: es) i0=Instr.findNow (.int q) (.int kk x) es (i0+1):=by
    have hb:(x==m)= false:=by simpa using hx
    simp [Instr.findNow,Instr.sameNow,hb]
   have e2:qT x ([.int kk m,d] :: r) i0=qT x r (i0+1):=by simp [qT,hx]
   rw [e1,e2]
   rcases qH.find q x h4 with h | ⟨j,v',d',g1,g2,g3,g4,g5,g6⟩
   ·exact .inl h
   ·have e3:j-i0=(j-(i0+1))+ 1:=by omega
    refine .inr ⟨j,v',d',g1,g2,by omega,?_,?_,g6⟩
    ·rw [e3]; simpa using g4
    ·rw [e3]; simpa using g5
theorem qH.inv {Rel:Value->D->Prop} {kk:IntKind}:∀ {es:List MapEntry} {xZ:List (List D)} {i0:Nat},qH Rel kk es xZ i0->es.length=xZ.length/\lP kk xZ /\
  ∀ i,i<xZ.length->∃ (m:Int) (v:Value) (d:D),xZ.getD i [] = [.int kk m,d]/\es[i]?=some ⟨.int kk m,v,i0+i⟩/\ Rel (.int kk m) (.int kk m)/\ Rel v d
 | [],[],i0,_=>⟨rfl,λrow h=>(by simp at h),λi hi=>(by simp at hi)⟩
 | e :: es,row :: r,i0,h=>by
  obtain⟨⟨m,v,d,rfl,rfl,h30,h3⟩,h4⟩:=h;obtain⟨h5,h6,h7⟩:=qH.inv h4
  refine⟨by simp [h5],λrow hr=>?_,λi hi=>?_⟩
  ·rcases List.mem_cons.1 hr with rfl | hr
   ·exact⟨m,d,rfl⟩
   ·exact h6 row hr
  ·cases i with
   | zero=>exact⟨m,v,d,rfl,rfl,h30,h3⟩
   | succ i=>
    obtain⟨m,v,d,g1,g2,g3⟩:=h7 i (by simpa using hi);have:i0+(i+1)= i0+1+i:=by omega
    exact⟨m,v,d,by simpa using g1,by rw [this]; simpa using g2,g3⟩
theorem iR {M:Nat->Prop} {w:World} {ι:Nat->Nat} {n:Nat} {v:Value} {ks:List Int} (h:R M w ι n v (.agg (ks.map (D.int .i64)))):v=uY ks:=by
 obtain⟨vs,rfl,h1,h2⟩:=h.cU;rw [List.length_map] at h1;unfold uY;congr 1;refine Array.ext (by simpa using h1) λj hj hj'=>?_;have hjk:j<ks.length:=by omega
 have:=(h2 j (by simpa using hjk));have e1:(ks.map (D.int .i64)).getD j .top = .int .i64 ks[j]:=by simp [List.getD,hjk]
 have e2:vs.getD j undef=vs[j]:=by simp [Array.getD,hj]
 rw [e1,e2] at this;rw [this.yT.1];simp
section
variable {P : Program} {o : Oper} {a : Act} {w : World}
theorem ib {t kt et:TypeId} {m k:Operand} {ok:Bool} (ho:o.op = .lookup t m k ok) {n:Nat} {inf:TypeInfo} {z:Value} (ht:P.underlying t=some (.map kt et)) (hk:kQ P kt=some n) (hi:P.info? et=some inf) (hz:inf.zero=some z)
  {b clock:Nat} {l:List (List Int × Value)} {x:List Int} (hx:x.length=n) (hl:∀ p ∈ l,p.1.length=n) (hm:a.eval m = .map (some b)) (hb:w.heap[b]?=some (.map (xL l 0).toArray clock)) (hxe:a.eval k=uY x) :
  Yields P o a w (if ok then .tuple #[((sN x l 0).map (·.2)).getD z,.bool (sN x l 0).isSome] else((sN x l 0).map (·.2)).getD z):=by
 have:=sq (w:=w) ht hk hi hz hx hl hb ok;simp [Yields,execOp,ho,hm,hxe,this]
theorem Ox {op:BinOp} {t u:TypeId} {x y:Operand} (ho:o.op = .binOp op t x y u) (hop:op = .eql\/op = .neq) (hg:P.eqGuardType P.depth t=false) {n:Nat} (hk:kQ P t=some n) {xs ys:List Int} (hlx:xs.length=n) (hly:ys.length=n)
  (hx:a.eval x=uY xs) (hy:a.eval y=uY ys):Yields P o a w (.bool (if op = .neq then !decide (xs=ys) else decide (xs=ys))):=by
 have e:=fP (w:=w) hk hlx hly;unfold uY at e hx hy;rcases hop with rfl | rfl <;> simp [Yields,execOp,ho,hx,hy,eqGuard,hg,binOp,e]
theorem Qm {t ty kt et:TypeId} {x:Operand} {ts:Array TypeId} (ho:o.op = .call { callee:=.builtin .len,args:=#[x],argTypes:=#[t] }) (ht:P.underlying t=some (.map kt et)) {b clock:Nat} {es:Array MapEntry}
  (hx:a.eval x = .map (some b)) (hb:w.heap[b]?=some (.map es clock)):Yields P o a w (.int .i64 es.size):=by
 simp [Yields,execOp,ho,hx,resolve,invoke,builtin,Builtin.len_,run_underlying ht,goInt,MapKept.run_getObj_map hb]
theorem oJ {kt:TypeId} {q:IntKind} (hk:P.underlying kt=some (.int q)) (b:Bool) (n:Nat) (kk:IntKind) (x:Int) (w:World):(Instr.checkKey b (n+1) kt (.int kk x)).run P w = .ok () w:=by simp [Instr.checkKey,run_underlying hk]
theorem dm {t kt et:TypeId} {m k:Operand} {ok:Bool} (ho:o.op = .lookup t m k ok) {q kk:IntKind} {inf:TypeInfo} {z:Value} (ht:P.underlying t=some (.map kt et)) (hk:P.underlying kt=some (.int q)) (hi:P.info? et=some inf) (hz:inf.zero=some z)
  {b clock:Nat} {es:Array MapEntry} {x:Int} {r:Option (Nat × Value)} (hm:a.eval m = .map (some b)) (hb:w.heap[b]?=some (.map es clock)) (hx:a.eval k = .int kk x) (hf:Instr.findNow (.int q) (.int kk x) es.toList 0=some r) :
  Yields P o a w (if ok then .tuple #[(r.map (·.2)).getD z,.bool r.isSome] else(r.map (·.2)).getD z):=by
 have hg:(getObj b).run P w = .ok (.map es clock) w:=by simp [getObj,Sem.run,hb]
 have hc:=oJ hk es.isEmpty 9999 kk x w
 cases r with
 | none=>cases ok <;> simp [Yields,execOp,ho,Instr.lookup,run_underlying ht,hm,hx,hg,hc,Instr.findKey,run_underlying hk,hf,zeroValue,typeInfo,hi,hz]
 | some p=>cases ok <;> simp [Yields,execOp,ho,Instr.lookup,run_underlying ht,hm,hx,hg,hc,Instr.findKey,run_underlying hk,hf]
theorem ic {t kt et:TypeId} {m k:Operand} {ok:Bool} (ho:o.op = .lookup t m k ok) {q kk:IntKind} {inf:TypeInfo} {z:Value} (ht:P.underlying t=some (.map kt et)) (hk:P.underlying kt=some (.int q)) (hi:P.info? et=some inf) (hz:inf.zero=some z)
  {x:Int} (hm:a.eval m = .map none) (hx:a.eval k = .int kk x):Yields P o a w (if ok then .tuple #[z,.bool false] else z):=by
 have hc:=oJ hk true 9999 kk x w;cases ok <;> simp [Yields,execOp,ho,Instr.lookup,run_underlying ht,hm,hx,hc,Instr.findKey,Instr.findNow,run_underlying hk,zeroValue,typeInfo,hi,hz]
end
theorem jU {M:Nat->Prop} {w:World} {ι:Nat->Nat} {n N:Nat} {a:Act} {ev:vK->D} (hR:∀ x y,xM N x=some y->R M w ι n (a.eval x) (ev y)) {xs:Array Operand} {ys:List vK} (h:wI (xM N) xs.toList=some ys) :
  (xs.map a.eval).size=(ys.map ev).length/\∀ j,j<(ys.map ev).length->R M w ι n ((xs.map a.eval).getD j undef) ((ys.map ev).getD j .top):=by
 obtain⟨hl,hg⟩:=zA h;have hl':ys.length=xs.size:=by simpa using hl
 refine⟨by simp [hl'],λj hj=>?_⟩;simp only [List.length_map] at hj;have hj':j<xs.size:=by omega
 obtain⟨b,hb,hf⟩:=hg j xs[j] (by simp [hj']);have e1:(ys.map ev).getD j .top=ev b:=by simp [List.getD,hb]
 have e2:(xs.map a.eval).getD j undef=a.eval xs[j]:=by simp [hj']
 rw [e1,e2];exact hR _ _ hf
theorem oK {P:Program} {g:FuncId} (hg:sI P g) (vals:Array Value) (w:World):(callFunc g vals).run P w = .ok (.enter g vals) w:=by
 obtain⟨fn,h1,h2,h3⟩:=hg;have h2':¬ fn.name = "runtime.NumGoroutine" :=by simpa using h2
 have h3':¬ fn.body=none:=by intro e; simp [e] at h3
 simp [callFunc,Sem.run,program,h1,h2',h3']
section
variable {C : Cx} {M0 : Nat -> Prop} {w : World} {σ : St} {ι : Nat -> Nat} {a : Act} {o : Oper} {ev : vK -> D} {K : D -> Prop} {next : Act -> World -> Prop} {Q : Exit -> Act -> World -> Prop}
theorem sy {g:FuncId} {vals:Array Value} {args:List D} {d:D} {σ':St} (ho:(execOp a.eval o).run C.P w = .ok (.enter g vals) w) (hc:xU C.P g args σ d σ') (hS:zI M0 w σ ι)
  (hl:vals.size=args.length) (hv:∀ j,j<args.length->R (yO M0 ι σ) w ι σ.nx (vals.getD j undef) (args.getD j .top))
  (hn:∀ v w' ι',Kept w w' (rB ι σ)->zI M0 w' σ' ι'->σ.nx<=σ'.nx->(∀ k,k<σ.nx->ι' k=ι k)->(∀ k o,σ'.get k=some o->w.heap.size<=ι' k\/rB ι σ (ι' k))->R (yO M0 ι' σ') w' ι' σ'.nx v d->next (a.put o.dst v) w'):o.wp C.P a w next Q:=by
 unfold Oper.wp;rw [ho];simp only [Oper.upon];refine(hc.run M0 w ι vals hS hl hv).mono λe w' hh=>?_;obtain⟨v,ι',rfl,h1,h2,h3,h4,h5,h6⟩:=hh;exact hn v w' ι' h1 h2 h3 h4 h5 h6
theorem SX {k:DK} {Z:Prop} (hcalm:za o=true) (hk:Ze C.P C.N C.own o=some k) (h:pW C σ ev k K) (hS:zI M0 w σ ι) (hR:∀ x y,xM C.N x=some y->R (yO M0 ι σ) w ι σ.nx (a.eval x) (ev y))
  (fin:∀ v d,Yields C.P o a w v->K d->R (yO M0 ι σ) w ι σ.nx v d->Z):Z:=by
 cases hop:o.op <;> simp only [Ze,hop] at hk <;> (try (simp at hk; done)) <;> (try (simp only [za,hop,Bool.false_eq_true] at hcalm; done))
 case move x=> simp only [γ] at hk;obtain⟨x',hx,rfl⟩:=hk;exact fin _ _ (lg (.inl hop)) h (hR _ _ hx)
 case nilCheck x=>
  simp only [γ] at hk;obtain⟨x',hx,rfl⟩:=hk;simp only [pW] at h
  split at h
  ·rename_i key sz i off hb;have hX:=hb ▸ hR _ _ hx;exact fin _ _ (ra hop hX.uV.1 (.inl ⟨_,rfl⟩)) h (hX.uV.1 ▸ hX)
  ·rename_i cs hb;have hX:=hb ▸ hR _ _ hx;obtain⟨b,off,vs,h1,h2⟩:=hX.qR;exact fin _ _ (ra hop h1 (.inl ⟨_,rfl⟩)) h (h1 ▸ hX)
  ·rename_i f cs hb;have hX:=hb ▸ hR _ _ hx;obtain⟨vs,h1,h2⟩:=hX.kM;exact fin _ _ (ra hop h1 (.inr ⟨_,_,rfl⟩)) h (h1 ▸ hX)
  ·exact h.elim
 case assign x=> simp only [γ] at hk;obtain⟨x',hx,rfl⟩:=hk;exact fin _ _ (lg (.inr hop)) h (hR _ _ hx)
 case fieldAddr t x i=>
  simp only [zO] at hk;obtain⟨q,hq,z',hz,z,hz',x',hx,rfl⟩:=hk;unfold wj at hq
  split at hq
  ·rename_i fs ht;simp only [γ] at hq;obtain⟨f,hf,rfl⟩:=hq;simp only [uD,γ] at hz;obtain⟨inf,hi,rfl⟩:=hz;have hs:0<inf.size:=by unfold mJ at hz'; split at hz' <;> simp_all
   simp only [pW] at h
   split at h
   ·rename_i key sz j off hb;obtain⟨h1,h2⟩:=(hb ▸ hR _ _ hx).uV;have:=Ya (w:=w) hop ht hf hi hs h1;rw [ψ] at this;exact fin _ _ this h (.ref h2.1 h2.2)
   ·rename_i cs hb;obtain⟨b,off,vs,h1,h2,h3,h4,h5⟩:=(hb ▸ hR _ _ hx).qR
    refine fin _ _ (Ya (w:=w) hop ht hf hi hs h1) h.2 (.pure (.ptr (λj=>vs (f.offset+j)) (by simp; omega) h3 (λj hj=>?_) (λj hj=>?_)))
    ·simp at hj;have:=h4 (f.offset+j) (by omega);rw [<- ψ] at this;exact this
    ·simp at hj;have:=h5 (f.offset+j) (by omega);simpa [List.getD] using this
   ·exact h.elim
  ·simp at hq
 case indexAddr t x y=>
  split at hk
  ·rename_i e he;simp only [zO] at hk;obtain⟨z',hz,sz,hz',x',hx,y',hy,rfl⟩:=hk;have ht:C.P.underlying t=some (.slice e):=by unfold sliceB at he; split at he <;> simp_all
   simp only [uD,γ] at hz;obtain⟨inf,hi,rfl⟩:=hz;have hs:0<inf.size/\sz=inf.size:=by unfold mJ at hz'; split at hz' <;> simp_all
   obtain⟨hs,rfl⟩:=hs;have hX:=hR _ _ hx;have hY:=hR _ _ hy;simp only [pW] at h
   split at h
   ·rename_i sz' xZ k p hb hc;rw [hb] at hX;rw [hc] at hY;obtain⟨h1,h2,h3,h4⟩:=h;subst h1
    rcases hX.kN with ⟨ad,cap,e1,rfl,hcap⟩ | ⟨b,off,cap,vs,e1,g1,g2,g3,g4,g5,g6,g7⟩
    ·simp at h3; omega
    ·have hp:p.toNat<xZ.length:=by omega
     have hl:(xZ.getD p.toNat []).length=inf.size:=by
      have:xZ.getD p.toNat []=xZ[p.toNat]:=by simp [List.getD,hp]
      rw [this];exact g5 _ (μ hp)
     refine fin _ _ (lM hop ht hi e1 hY.yT.1 h2 h3) h4 (.pure (.ptr (λj=>vs p.toNat j) (by omega) g2 (λj hj=>?_) (λj hj=>?_)))
     ·exact g6 _ hp j (by omega)
     ·exact g7 _ hp j (by omega)
   ·rename_i key sz' len k p hb hc;rw [hb] at hX;rw [hc] at hY;obtain⟨h1,h2,h3,h4⟩:=h;subst h1;obtain⟨cap,cur,e,e1,e2,_⟩:=hX.tE;have:=lM (w:=w) hop ht hi e1 hY.yT.1 h2 h3;rw [Ac] at this;exact fin _ _ this h4 (R.ref (sz:=inf.size) (i:=p.toNat) (off:=0) e2 hs)
   ·rename_i key sz' lo len k p hb hc;rw [hb] at hX;rw [hc] at hY;obtain⟨h1,h2,h3,h4⟩:=h;subst h1;obtain⟨cap,off,cur,e,e1,e2,q1,_,_,q2⟩:=hX.mU;obtain⟨rfl,_⟩:=q2.resolve_left (by omega);have:=lM (w:=w) hop ht hi e1 hY.yT.1 h2 h3;have er:=R.ref (M:=yO M0 ι σ) (w:=w) (ι:=ι) (n:=σ.nx) (sz:=inf.size) (i:=lo+p.toNat) (off:=0) e2 hs;rw [Aa,Af] at er;exact fin _ _ this h4 er
   ·exact h.elim
  ·split at hk
   ·rename_i n e k p ht;simp only [ε,δ] at hk;obtain⟨z',hz,sz,hz',x',hx,hk⟩:=hk
    split at hk
    ·rename_i hp;simp at hk; subst hk;simp only [uD,γ] at hz;obtain⟨inf,hi,rfl⟩:=hz;have hs:0<inf.size/\sz=inf.size:=by unfold mJ at hz'; split at hz' <;> simp_all
     obtain⟨hs,rfl⟩:=hs;have hey:a.eval (.const (.int k p))= .int k p:=rfl;simp only [pW] at h
     split at h
     ·rename_i key sz j off hb;obtain⟨h1,h2⟩:=(hb ▸ hR _ _ hx).uV;have:=oI (w:=w) hop ht hi h1 hey hp.1 hp.2;rw [ψ] at this;exact fin _ _ this h (.ref h2.1 h2.2)
     ·rename_i cs hb;obtain⟨b,off,vs,h1,h2,h3,h4,h5⟩:=(hb ▸ hR _ _ hx).qR
      refine fin _ _ (oI (w:=w) hop ht hi h1 hey hp.1 hp.2) h.2 (.pure (.ptr (λj=>vs (p.toNat*inf.size+j)) (by simp; omega) h3 (λj hj=>?_) (λj hj=>?_)))
      ·simp at hj;have:=h4 (p.toNat*inf.size+j) (by omega);rw [<- ψ] at this;exact this
      ·simp at hj;have:=h5 (p.toNat*inf.size+j) (by omega);simpa [List.getD] using this
     ·exact h.elim
    ·simp at hk
   ·rename_i n e k ht;simp only [ε,δ,Option.some.injEq] at hk;obtain⟨z',hz,sz,hz',x',hx,i',hi',rfl⟩:=hk;simp only [uD,γ] at hz;obtain⟨inf,hi,rfl⟩:=hz;have hs:0<inf.size/\sz=inf.size:=by unfold mJ at hz'; split at hz' <;> simp_all
    obtain⟨hs,rfl⟩:=hs;have hX:=hR _ _ hx;have hY:=hR _ _ hi';simp only [pW] at h
    split at h
    ·rename_i key s j off q p hb hc;rw [hb] at hX;rw [hc] at hY;obtain⟨h1,h2⟩:=hX.uV;obtain⟨c1,c2,c3⟩:=h;have:=oI (w:=w) hop ht hi h1 hY.yT.1 c1 c2;rw [ψ] at this;exact fin _ _ this c3 (.ref h2.1 h2.2)
    ·exact h.elim
   ·simp at hk
 case load t x=>
  simp only [zO] at hk;obtain⟨ag,hag,n,hn',x',hx,hk⟩:=hk
  split at hk
  ·rename_i hagn;simp at hk; subst hk;simp only [uD,γ] at hn';obtain⟨inf,hi,rfl⟩:=hn'
   have htd:∃ td,C.P.underlying t=some td:=by
    unfold qS at hag
    cases hu:C.P.underlying t with
    | none=>simp [hu] at hag
    | some td=>exact⟨td,rfl⟩
   obtain⟨td,htd⟩:=htd
   have go:∀ (ad:Addr) (vs:List Value) (ds:List D),a.eval x = .pointer (some ad)->vs.length=inf.size->ds.length=inf.size->(∀ j v,vs[j]?=some v->w.cell? (ad.add j)= some v) ->
     (∀ j,j<inf.size->R (yO M0 ι σ) w ι σ.nx (vs.getD j undef) (ds.getD j .top))->(ag=true\/inf.size=1)->K (vR ag ds)->Z:=by
    intro ad vs ds hX hl hl' hc hr hone hK
    cases ag with
    | true=> refine fin _ _ (jr hop htd hag hi hl hX hc) hK ?_;refine .agg (by simp [hl,hl']) λj hj=>?_;rw [hl'] at hj;have:=hr j hj;simpa using this
    | false=>
     have h1:inf.size=1:=by simpa using hone
     match vs,hl with
     | [],hl=>simp at hl; omega
     | v :: r,hl=>
      have hc0:=hc 0 v rfl;have e0:ad.add 0=ad:=by simp [Addr.add]
      rw [e0] at hc0;have hr0:=hr 0 (by omega)
      match ds,hl' with
      | [],hl'=>simp at hl'; omega
      | d :: r',hl'=>exact fin _ _ (jq hop htd hag hX hc0) hK (by simpa [vR] using hr0)
   simp only [pW] at h
   split at h
   ·rename_i key sz i off hb;obtain⟨h1,h2⟩:=(hb ▸ hR _ _ hx).uV
    split at h
    ·rename_i ob hob;obtain⟨g1,g2,g3,g4,g5⟩:=h;subst g1;obtain⟨cur,e,c1,c2,c3,c4⟩:=yZ.cells (hS.holds key ob hob).2 h2.2
     have hlen:(ob.xZ.getD i []).length=ob.sz:=by
      have:ob.xZ.getD i []=ob.xZ[i]:=by simp [List.getD,g2]
      rw [this]; exact c2 _ (μ g2)
     refine go ⟨ι key,i*ob.sz+off,none⟩ ((List.range inf.size).map λj=>cur.getD (i*ob.sz+off+j) undef) _ h1 (by simp) (by rw [η,ν,hlen]; omega) (λj v hj=>?_) (λj hj=>?_) g4 g5
     ·simp only [κ,γ,υ] at hj;obtain⟨j',hj',rfl⟩:=hj
      have hj2:j<inf.size:=by
       rcases Ae j inf.size with h | h
       ·exact h
       ·simp [θ (by simpa using h:(List.range inf.size).length<=j)] at hj'
      have e1:j'=j:=by simpa [hj2] using hj'.symm
      subst e1;rw [Addr.add_lit]
      have hlt:i*ob.sz+off+j'<cur.size:=by have:=nT (sz:=ob.sz) (j:=off+j') g2 (by omega);omega
      simp [World.cell?,c1,hlt]
     ·have hq:=(c4 i g2 (off+j) (by omega)).2
      have e1:(List.map (λj=>cur.getD (i*ob.sz+off+j) undef) (List.range inf.size)).getD j undef=cur.getD (i*ob.sz+(off+j)) undef:=by simp [List.getD,hj,ψ]
      have e2:(((ob.xZ.getD i []).drop off).take inf.size).getD j .top=(ob.xZ.getD i []).getD (off+j) .top:=by simp [List.getD,hj,ζ]
      rw [e1,e2];exact hq
    ·exact h.elim
   ·rename_i cs hb;obtain⟨b,off,vs,h1,h2,h3,h4,h5⟩:=(hb ▸ hR _ _ hx).qR;obtain⟨g1,g2,g3⟩:=h
    refine go ⟨b,off,none⟩ ((List.range inf.size).map vs) _ h1 (by simp) (by simp; omega) (λj v hj=>?_) (λj hj=>?_) g2 g3
    ·simp only [κ,γ] at hj;obtain⟨j',hj',rfl⟩:=hj
     have hj2:j<inf.size:=by
      rcases Ae j inf.size with h | h
      ·exact h
      ·simp [θ (by simpa using h:(List.range inf.size).length<=j)] at hj'
     have e1:j'=j:=by simpa [hj2] using hj'.symm
     subst e1;rw [Addr.add_lit];exact h4 j' (by omega)
    ·have e1:(List.map vs (List.range inf.size)).getD j undef=vs j:=by simp [List.getD,hj]
     have e2:(cs.take inf.size).getD j .top=cs.getD j .top:=by simp [List.getD,hj,ζ]
     rw [e1,e2];exact .pure (h5 j (by omega))
   ·rename_i b hb;have hX:a.eval x = .pointer (some ⟨b,0,none⟩):=(hb ▸ hR _ _ hx).gI;obtain⟨ds,g0,g1,g2,g3⟩:=h;obtain⟨vs,q1,q2,q3⟩:=g0 _ w hS.sR
    refine go ⟨b,0,none⟩ (vs.take inf.size) _ hX (by rw [η]; omega) (by rw [η]; omega) (λj v hj=>?_) (λj hj=>?_) g2 g3
    ·rw [Addr.add_lit];rw [ζ] at hj
     split at hj
     ·simpa using q2 j v hj
     ·cases hj
    ·have e1:(vs.take inf.size).getD j undef=vs.getD j undef:=by simp [List.getD,hj,ζ]
     have e2:(ds.take inf.size).getD j .top=ds.getD j .top:=by simp [List.getD,hj,ζ]
     rw [e1,e2];exact .pure (q3 j (by omega))
   ·exact h.elim
  ·simp at hk
theorem US {k:DK} (hk:Ze C.P C.N C.own o=some k) (h:pW C σ ev k K) (hS:zI M0 w σ ι) (hR:∀ x y,xM C.N x=some y->R (yO M0 ι σ) w ι σ.nx (a.eval x) (ev y))
  (hn:∀ v d w',K d->Kept w w' (rB ι σ)->zI M0 w' σ ι->R (yO M0 ι σ) w' ι σ.nx v d->next (a.put o.dst v) w'):o.wp C.P a w next Q:=by
 have fin:∀ v d,Yields C.P o a w v->K d->R (yO M0 ι σ) w ι σ.nx v d->o.wp C.P a w next Q:=λv d hy hK hr=>uZ hy (hn v d w hK (Kept.refl _ _) hS hr);cases hop:o.op <;> simp only [Ze,hop] at hk <;> try (simp at hk; done)
 case move x=> simp only [γ] at hk;obtain⟨x',hx,rfl⟩:=hk;exact fin _ _ (lg (.inl hop)) h (hR _ _ hx)
 case nilCheck x=>
  simp only [γ] at hk;obtain⟨x',hx,rfl⟩:=hk;simp only [pW] at h
  split at h
  ·rename_i key sz i off hb;have hX:=hb ▸ hR _ _ hx;exact fin _ _ (ra hop hX.uV.1 (.inl ⟨_,rfl⟩)) h (hX.uV.1 ▸ hX)
  ·rename_i cs hb;have hX:=hb ▸ hR _ _ hx;obtain⟨b,off,vs,h1,h2⟩:=hX.qR;exact fin _ _ (ra hop h1 (.inl ⟨_,rfl⟩)) h (h1 ▸ hX)
  ·rename_i f cs hb;have hX:=hb ▸ hR _ _ hx;obtain⟨vs,h1,h2⟩:=hX.kM;exact fin _ _ (ra hop h1 (.inr ⟨_,_,rfl⟩)) h (h1 ▸ hX)
  ·exact h.elim
 case assign x=> simp only [γ] at hk;obtain⟨x',hx,rfl⟩:=hk;exact fin _ _ (lg (.inr hop)) h (hR _ _ hx)
 case pick c x y=>
  simp only [zO] at hk;obtain⟨c',hc,x',hx,y',hy,rfl⟩:=hk;simp only [pW] at h
  split at h
  ·rename_i t ht;have h1:=(ht ▸ hR _ _ hc).nL
   cases t
   ·exact fin _ _ (VU hop h1) ((ZX h).2 rfl) (by simpa using hR _ _ hy)
   ·exact fin _ _ (VU hop h1) ((ZX h).1 rfl) (by simpa using hR _ _ hx)
  ·exact h.elim
 case alloc e=> simp only [zO] at hk;obtain⟨z,_,rfl⟩:=hk;simp [pW] at h
 case box t x=> simp only [zO] at hk;obtain⟨z,_,rfl⟩:=hk;simp [pW] at h
 case store t x y=> simp only [zO] at hk;obtain⟨z,_,x',_,y',_,rfl⟩:=hk;simp [pW] at h
 case makeMap t r=>
  exfalso
  split at hk
  ·split at hk
   ·cases hk;simp [pW] at h
   ·cases hk
  ·split at hk
   ·cases hk;simp [pW] at h
   ·cases hk
  ·simp at hk
 case mapUpdate t m k' x=>
  split at hk
  ·simp only [zO] at hk;obtain⟨_,_,_,_,_,_,rfl⟩:=hk;simp [pW] at h
  ·simp only [zO] at hk;obtain⟨_,_,_,_,_,_,_,_,rfl⟩:=hk;simp [pW] at h
 case insert t m k' x=> simp only [zO] at hk;obtain⟨_,_,_,_,_,_,_,_,rfl⟩:=hk;simp [pW] at h
 case mapEntry t m k'=>
  split at hk
  ·simp only [zO] at hk;obtain⟨_,_,_,_,rfl⟩:=hk;simp [pW] at h
  ·simp only [zO] at hk;obtain⟨_,_,_,_,_,_,rfl⟩:=hk;simp [pW] at h
 case entryStore t m s x=>
  split at hk
  ·simp only [zO] at hk;obtain⟨_,_,_,_,_,_,rfl⟩:=hk;simp [pW] at h
  ·cases hk
 case lookup t m k' ok=>
  split at hk
  rotate_left
  ·simp only [zO] at hk;obtain⟨⟨n,zero⟩,hz,m',hm,k'',hk',rfl⟩:=hk;obtain⟨kt,et,inf,z,h1,h2,h3,h4,h5⟩:=cM hz;have rz:R (yO M0 ι σ) w ι σ.nx z zero:=.pure (nE h5);simp only [pW] at h
   split at h
   ·rename_i key cs hb hc;obtain⟨g1,g2⟩:=(hb ▸ hR _ _ hm).qN;have g3:=hc ▸ hR _ _ hk'
    split at h
    ·rename_i ob hob;obtain⟨c1,x,l,⟨c2,c4,c5,c6⟩,c3⟩:=h;subst c2;have g4:=iR g3;obtain⟨es,e1,e2,e3⟩:=yZ.mapped (hS.holds key ob hob).2 c1;rw [c4] at e2 e3
     obtain⟨lv,q1,q2⟩:=uN.of (Rel:=R (yO M0 ι σ) w ι σ.nx) (λv ks h=>iR h) (es:=es.toList) (l:=l) (i0:=0) (by rw [qL] at e2; simpa using e2) λi hi=>by obtain⟨kv,v,x,d,g1,g2,g3,g4⟩:=e3 i (by rw [qL]; exact hi);exact⟨kv,v,x,d,g1,by simpa using g2,g3,g4⟩
     have e1':w.heap[ι key]?=some (.map (xL lv 0).toArray es.size):=by rw [e1,<- q1]
     have hy:=ib hop h1 h2 h3 h4 c5 (q2.all c6) g1 e1' g4
     rcases q2.find x 0 with ⟨f1,f2⟩ | ⟨j,v,d,f1,f2,f6⟩
     ·rw [f2] at c3;rw [f1] at hy;refine fin _ _ hy c3 ?_;unfold qV
      cases ok
      ·exact rz
      ·exact .yD rfl λj hj=>by
        match j,hj with
        | 0,_=>exact rz
        | 1,_=>exact .pure (.bool _)
     ·rw [f2] at c3;rw [f1] at hy;refine fin _ _ hy c3 ?_;unfold qV
      cases ok
      ·exact f6
      ·exact .yD rfl λj hj=>by
        match j,hj with
        | 0,_=>exact f6
        | 1,_=>exact .pure (.bool _)
    ·exact h.elim
   ·exact h.elim
  rename_i zero hz;simp only [zO] at hk;obtain⟨m',hm,k'',hk',rfl⟩:=hk;obtain⟨kt,et,q,inf,z,h1,h2,h3,h4,h5⟩:=cL hz;have rz:R (yO M0 ι σ) w ι σ.nx z zero:=.pure (nE h5);simp only [pW] at h
  split at h
  ·rename_i key kk x hb hc;obtain⟨g1,g2⟩:=(hb ▸ hR _ _ hm).qN;have g3:=(hc ▸ hR _ _ hk').yT.1
   split at h
   ·rename_i ob hob;obtain⟨c1,c2,c3⟩:=h;obtain⟨es,e1,e2,e3⟩:=yZ.mapped (hS.holds key ob hob).2 c1;have he:=qH.of e2 e3 c2
    rcases he.find q x with ⟨f1,f2⟩ | ⟨j,v,d,f1,f2,f3,f4,f5,f6⟩
    ·rw [f2] at c3;refine fin _ _ (dm hop h1 h2 h3 h4 g1 e1 g3 f1) c3 ?_;unfold qV
     cases ok
     ·exact rz
     ·exact .yD rfl λj hj=>by
       match j,hj with
       | 0,_=>exact rz
       | 1,_=>exact .pure (.bool _)
    ·rw [f2] at c3;refine fin _ _ (dm hop h1 h2 h3 h4 g1 e1 g3 f1) c3 ?_;unfold qV
     cases ok
     ·exact f6
     ·exact .yD rfl λj hj=>by
       match j,hj with
       | 0,_=>exact f6
       | 1,_=>exact .pure (.bool _)
   ·exact h.elim
  ·rename_i kk x hb hc;have g1:=(hb ▸ hR _ _ hm).UH;have g3:=(hc ▸ hR _ _ hk').yT.1;refine fin _ _ (ic hop h1 h2 h3 h4 g1 g3) h ?_;unfold qV
   cases ok
   ·exact rz
   ·exact .yD rfl λj hj=>by
     match j,hj with
     | 0,_=>exact rz
     | 1,_=>exact .pure (.bool _)
  ·exact h.elim
 case makeSlice t l c=>
  simp only [zO] at hk;obtain⟨_,_,_,_,_,_,_,_,_,_,_,_,hk⟩:=hk
  split at hk
  ·simp at hk; subst hk; simp [pW] at h
  ·simp at hk
 case unOp op t x=>
  simp only [zO] at hk;obtain⟨x',hx,hk⟩:=hk
  cases op <;> simp [Qs] at hk <;> subst hk
  ·simp only [pW] at h
   split at h
   ·rename_i k b hb;exact fin _ _ (P3 hop (hb ▸ hR _ _ hx).yT.1) h (.pure (.wrap _ _))
   ·exact h.elim
  ·simp only [pW] at h
   split at h
   ·rename_i k b hb;exact fin _ _ (Oy hop (hb ▸ hR _ _ hx).yT.1) h (.pure (.wrap _ _))
   ·exact h.elim
  ·simp only [pW] at h
   split at h
   ·rename_i b hb;exact fin _ _ (P4 hop (hb ▸ hR _ _ hx).nL) h (.pure (.bool _))
   ·exact h.elim
 case binOp op t x y u=>
  simp only [zO] at hk;obtain⟨x',hx,y',hy,hk⟩:=hk;have hX:=hR _ _ hx;have hY:=hR _ _ hy;unfold mkBin at hk
  split at hk
  ·rename_i ht
   have key:∀ neg:Bool,(op = .eql\/op = .neq)->(neg=true ↔ op = .neq)->pW C σ ev (.beq neg x' y') K->o.wp C.P a w next Q:=by
    intro neg hop' hneg h;simp only [pW] at h
    split at h
    ·rename_i b c hb hc;rw [hb] at hX;rw [hc] at hY;have:=Ow (w:=w) hop hop' ht hX.nL hY.nL;refine fin _ _ this ?_ (.pure (.bool _))
     cases neg
     ·have zL:¬ op = .neq:=λe=>by have:=hneg.2 e; simp at this
      simpa [zL] using h
     ·have he:=hneg.1 rfl;simpa [he] using h
    ·exact h.elim
   split at hk
   ·rename_i he;simp at hk; subst hk;exact key false (.inl he) (by simp [he]) h
   ·split at hk
    ·rename_i he;simp at hk; subst hk;exact key true (.inr he) (by simp [he]) h
    ·simp at hk
  ·rename_i e ht
   have key:∀ neg:Bool,(op = .eql\/op = .neq)->(neg=true ↔ op = .neq)->pW C σ ev (.iW neg x' y') K->o.wp C.P a w next Q:=by
    intro neg hop' hneg h
    have fix:∀ b:Bool,(if op = .neq then !b else b)= (if neg then !b else b):=by
     intro b
     cases neg
     ·have zL:¬ op = .neq:=λe=>by have:=hneg.2 e; simp at this
      simp [zL]
     ·simp [hneg.1 rfl]
    simp only [pW] at h
    split at h
    ·rename_i hb hc;rw [hb] at hX;rw [hc] at hY;have:=gR (w:=w) hop hop' ht hX.uA hY.uA (.inl rfl);rw [fix] at this;refine fin _ _ this ?_ (.pure (.bool _));cases neg <;> simpa using h
    ·rename_i k sz l hb hc;rw [hb] at hX;rw [hc] at hY;obtain⟨cap,cur,e,h1,_⟩:=hX.tE;have:=gR (w:=w) hop hop' ht h1 hY.uA (.inr rfl);rw [fix] at this;refine fin _ _ this ?_ (.pure (.bool _));cases neg <;> simpa using h
    ·rename_i k sz l hb hc;rw [hb] at hX;rw [hc] at hY;obtain⟨cap,cur,e,h1,_⟩:=hY.tE;have:=gR (w:=w) hop hop' ht hX.uA h1 (.inl rfl);rw [fix] at this;refine fin _ _ this ?_ (.pure (.bool _));cases neg <;> simpa using h
    ·rename_i hb hc;rw [hb] at hX;rw [hc] at hY;obtain⟨ad,cap,h1⟩:=hX.gK;have:=gR (w:=w) hop hop' ht h1 hY.uA (.inr rfl);rw [fix] at this;refine fin _ _ this ?_ (.pure (.bool _));cases neg <;> simpa using h
    ·rename_i hb hc;rw [hb] at hX;rw [hc] at hY;obtain⟨ad,cap,h1⟩:=hY.gK;have:=gR (w:=w) hop hop' ht hX.uA h1 (.inl rfl);rw [fix] at this;refine fin _ _ this ?_ (.pure (.bool _));cases neg <;> simpa using h
    ·rename_i sz e r hb hc;rw [hb] at hX;rw [hc] at hY
     rcases hX.kN with ⟨_,_,_,e0,_⟩ | ⟨b,off,cap,vs,h1,_⟩
     ·cases e0
     have:=gR (w:=w) hop hop' ht h1 hY.uA (.inr rfl);rw [fix] at this;refine fin _ _ this ?_ (.pure (.bool _));cases neg <;> simpa using h
    ·exact h.elim
   split at hk
   ·rename_i he;simp at hk; subst hk;exact key false (.inl he) (by simp [he]) h
   ·split at hk
    ·rename_i he;simp at hk; subst hk;exact key true (.inr he) (by simp [he]) h
    ·simp at hk
  ·simp at hk; subst hk;simp only [pW] at h
   split at h
   ·rename_i k p k' q hb hc;rw [hb] at hX;rw [hc] at hY;obtain⟨v,d,h1,h2,h3⟩:=Oz (P:=C.P) (w:=w) hop hX.yT.1 hY.yT.1 hX.yT.2 h;exact fin v d h1 h2 (.pure (h3 _))
   ·exact h.elim
  ·split at hk
   ·simp at hk
   rename_i hg
   have key:∀ (neg:Bool) (n:Nat),(op = .eql\/op = .neq)->(neg=true ↔ op = .neq)->kQ C.P t=some n->pW C σ ev (.geq neg n x' y') K->o.wp C.P a w next Q:=by
    intro neg n hop' hneg hkb h
    have fix:∀ b:Bool,(if op = .neq then !b else b)= (if neg then !b else b):=by
     intro b
     cases neg
     ·have zL:¬ op = .neq:=λe=>by have:=hneg.2 e; simp at this
      simp [zL]
     ·simp [hneg.1 rfl]
    simp only [pW] at h
    split at h
    ·rename_i cs ds hb hc
     split at h
     ·rename_i xs ys h1 h2;obtain⟨l1,l2,hK⟩:=h;rw [hb,sG h1] at hX;rw [hc,sG h2] at hY;have:=Ox (w:=w) hop hop' (by simpa using hg) hkb l1 l2 (iR hX) (iR hY);rw [fix] at this;exact fin _ _ this hK (.pure (.bool _))
     ·exact h.elim
    ·exact h.elim
   split at hk
   ·rename_i he;simp only [γ] at hk;obtain⟨n,hkb,rfl⟩:=hk;exact key false n (.inl he) (by simp [he]) hkb h
   ·split at hk
    ·rename_i he;simp only [γ] at hk;obtain⟨n,hkb,rfl⟩:=hk;exact key true n (.inr he) (by simp [he]) hkb h
    ·simp at hk
  ·simp at hk
 case convert s t x=>
  split at hk
  ·rename_i ks k hs ht;simp only [zO] at hk;obtain⟨x',hx,rfl⟩:=hk;simp only [pW] at h
   split at h
   ·rename_i k' m hb;exact fin _ _ (Qj hop hs ht (hb ▸ hR _ _ hx).yT.1) h (.pure (.wrap _ _))
   ·exact h.elim
  ·simp at hk
 case makeInterface=>simp at hk; subst hk; simp [pW] at h
 case panic=>simp at hk; subst hk; simp [pW] at h
 case makeFunc fn first caps=>
  split at hk
  ·rename_i f;simp only [zO] at hk;obtain⟨cs,hc,hk⟩:=hk
   split at hk
   ·rename_i hf;simp at hk; subst hk;subst hf;obtain⟨h1,h2⟩:=jU hR hc;exact fin _ _ (P2 hop) h (.fn h1 h2)
   ·simp at hk
  ·simp at hk
 case extract x i=>
  simp only [zO] at hk;obtain⟨x',hx,rfl⟩:=hk;simp only [pW] at h
  split at h
  ·rename_i vs hb;obtain⟨us,h1,h2,h3⟩:=(hb ▸ hR _ _ hx).jn;exact fin _ _ (Qk hop h1 (by rw [h2]; exact h.1)) h.2 (h3 i h.1)
  ·exact h.elim
 case fieldAddr t x i=>
  simp only [zO] at hk;obtain⟨q,hq,z',hz,z,hz',x',hx,rfl⟩:=hk;unfold wj at hq
  split at hq
  ·rename_i fs ht;simp only [γ] at hq;obtain⟨f,hf,rfl⟩:=hq;simp only [uD,γ] at hz;obtain⟨inf,hi,rfl⟩:=hz;have hs:0<inf.size:=by unfold mJ at hz'; split at hz' <;> simp_all
   simp only [pW] at h
   split at h
   ·rename_i key sz j off hb;obtain⟨h1,h2⟩:=(hb ▸ hR _ _ hx).uV;have:=Ya (w:=w) hop ht hf hi hs h1;rw [ψ] at this;exact fin _ _ this h (.ref h2.1 h2.2)
   ·rename_i cs hb;obtain⟨b,off,vs,h1,h2,h3,h4,h5⟩:=(hb ▸ hR _ _ hx).qR
    refine fin _ _ (Ya (w:=w) hop ht hf hi hs h1) h.2 (.pure (.ptr (λj=>vs (f.offset+j)) (by simp; omega) h3 (λj hj=>?_) (λj hj=>?_)))
    ·simp at hj;have:=h4 (f.offset+j) (by omega);rw [<- ψ] at this;exact this
    ·simp at hj;have:=h5 (f.offset+j) (by omega);simpa [List.getD] using this
   ·exact h.elim
  ·simp at hq
 case indexAddr t x y=>
  split at hk
  ·rename_i e he;simp only [zO] at hk;obtain⟨z',hz,sz,hz',x',hx,y',hy,rfl⟩:=hk;have ht:C.P.underlying t=some (.slice e):=by unfold sliceB at he; split at he <;> simp_all
   simp only [uD,γ] at hz;obtain⟨inf,hi,rfl⟩:=hz;have hs:0<inf.size/\sz=inf.size:=by unfold mJ at hz'; split at hz' <;> simp_all
   obtain⟨hs,rfl⟩:=hs;have hX:=hR _ _ hx;have hY:=hR _ _ hy;simp only [pW] at h
   split at h
   ·rename_i sz' xZ k p hb hc;rw [hb] at hX;rw [hc] at hY;obtain⟨h1,h2,h3,h4⟩:=h;subst h1
    rcases hX.kN with ⟨ad,cap,e1,rfl,hcap⟩ | ⟨b,off,cap,vs,e1,g1,g2,g3,g4,g5,g6,g7⟩
    ·simp at h3; omega
    ·have hp:p.toNat<xZ.length:=by omega
     have hl:(xZ.getD p.toNat []).length=inf.size:=by
      have:xZ.getD p.toNat []=xZ[p.toNat]:=by simp [List.getD,hp]
      rw [this];exact g5 _ (μ hp)
     refine fin _ _ (lM hop ht hi e1 hY.yT.1 h2 h3) h4 (.pure (.ptr (λj=>vs p.toNat j) (by omega) g2 (λj hj=>?_) (λj hj=>?_)))
     ·exact g6 _ hp j (by omega)
     ·exact g7 _ hp j (by omega)
   ·rename_i key sz' len k p hb hc;rw [hb] at hX;rw [hc] at hY;obtain⟨h1,h2,h3,h4⟩:=h;subst h1;obtain⟨cap,cur,e,e1,e2,_⟩:=hX.tE;have:=lM (w:=w) hop ht hi e1 hY.yT.1 h2 h3;rw [Ac] at this;exact fin _ _ this h4 (R.ref (sz:=inf.size) (i:=p.toNat) (off:=0) e2 hs)
   ·rename_i key sz' lo len k p hb hc;rw [hb] at hX;rw [hc] at hY;obtain⟨h1,h2,h3,h4⟩:=h;subst h1;obtain⟨cap,off,cur,e,e1,e2,q1,_,_,q2⟩:=hX.mU;obtain⟨rfl,_⟩:=q2.resolve_left (by omega);have:=lM (w:=w) hop ht hi e1 hY.yT.1 h2 h3;have er:=R.ref (M:=yO M0 ι σ) (w:=w) (ι:=ι) (n:=σ.nx) (sz:=inf.size) (i:=lo+p.toNat) (off:=0) e2 hs;rw [Aa,Af] at er;exact fin _ _ this h4 er
   ·exact h.elim
  ·split at hk
   ·rename_i n e k p ht;simp only [ε,δ] at hk;obtain⟨z',hz,sz,hz',x',hx,hk⟩:=hk
    split at hk
    ·rename_i hp;simp at hk; subst hk;simp only [uD,γ] at hz;obtain⟨inf,hi,rfl⟩:=hz;have hs:0<inf.size/\sz=inf.size:=by unfold mJ at hz'; split at hz' <;> simp_all
     obtain⟨hs,rfl⟩:=hs;have hey:a.eval (.const (.int k p))= .int k p:=rfl;simp only [pW] at h
     split at h
     ·rename_i key sz j off hb;obtain⟨h1,h2⟩:=(hb ▸ hR _ _ hx).uV;have:=oI (w:=w) hop ht hi h1 hey hp.1 hp.2;rw [ψ] at this;exact fin _ _ this h (.ref h2.1 h2.2)
     ·rename_i cs hb;obtain⟨b,off,vs,h1,h2,h3,h4,h5⟩:=(hb ▸ hR _ _ hx).qR
      refine fin _ _ (oI (w:=w) hop ht hi h1 hey hp.1 hp.2) h.2 (.pure (.ptr (λj=>vs (p.toNat*inf.size+j)) (by simp; omega) h3 (λj hj=>?_) (λj hj=>?_)))
      ·simp at hj;have:=h4 (p.toNat*inf.size+j) (by omega);rw [<- ψ] at this;exact this
      ·simp at hj;have:=h5 (p.toNat*inf.size+j) (by omega);simpa [List.getD] using this
     ·exact h.elim
    ·simp at hk
   ·rename_i n e k ht;simp only [ε,δ,Option.some.injEq] at hk;obtain⟨z',hz,sz,hz',x',hx,i',hi',rfl⟩:=hk;simp only [uD,γ] at hz;obtain⟨inf,hi,rfl⟩:=hz;have hs:0<inf.size/\sz=inf.size:=by unfold mJ at hz'; split at hz' <;> simp_all
    obtain⟨hs,rfl⟩:=hs;have hX:=hR _ _ hx;have hY:=hR _ _ hi';simp only [pW] at h
    split at h
    ·rename_i key s j off q p hb hc;rw [hb] at hX;rw [hc] at hY;obtain⟨h1,h2⟩:=hX.uV;obtain⟨c1,c2,c3⟩:=h;have:=oI (w:=w) hop ht hi h1 hY.yT.1 c1 c2;rw [ψ] at this;exact fin _ _ this c3 (.ref h2.1 h2.2)
    ·exact h.elim
   ·simp at hk
 case load t x=>
  simp only [zO] at hk;obtain⟨ag,hag,n,hn',x',hx,hk⟩:=hk
  split at hk
  ·rename_i hagn;simp at hk; subst hk;simp only [uD,γ] at hn';obtain⟨inf,hi,rfl⟩:=hn'
   have htd:∃ td,C.P.underlying t=some td:=by
    unfold qS at hag
    cases hu:C.P.underlying t with
    | none=>simp [hu] at hag
    | some td=>exact⟨td,rfl⟩
   obtain⟨td,htd⟩:=htd
   have go:∀ (ad:Addr) (vs:List Value) (ds:List D),a.eval x = .pointer (some ad)->vs.length=inf.size->ds.length=inf.size->(∀ j v,vs[j]?=some v->w.cell? (ad.add j)= some v) ->
     (∀ j,j<inf.size->R (yO M0 ι σ) w ι σ.nx (vs.getD j undef) (ds.getD j .top))->(ag=true\/inf.size=1)->K (vR ag ds)->o.wp C.P a w next Q:=by
    intro ad vs ds hX hl hl' hc hr hone hK
    cases ag with
    | true=> refine fin _ _ (jr hop htd hag hi hl hX hc) hK ?_;refine .agg (by simp [hl,hl']) λj hj=>?_;rw [hl'] at hj;have:=hr j hj;simpa using this
    | false=>
     have h1:inf.size=1:=by simpa using hone
     match vs,hl with
     | [],hl=>simp at hl; omega
     | v :: r,hl=>
      have hc0:=hc 0 v rfl;have e0:ad.add 0=ad:=by simp [Addr.add]
      rw [e0] at hc0;have hr0:=hr 0 (by omega)
      match ds,hl' with
      | [],hl'=>simp at hl'; omega
      | d :: r',hl'=>exact fin _ _ (jq hop htd hag hX hc0) hK (by simpa [vR] using hr0)
   simp only [pW] at h
   split at h
   ·rename_i key sz i off hb;obtain⟨h1,h2⟩:=(hb ▸ hR _ _ hx).uV
    split at h
    ·rename_i ob hob;obtain⟨g1,g2,g3,g4,g5⟩:=h;subst g1;obtain⟨cur,e,c1,c2,c3,c4⟩:=yZ.cells (hS.holds key ob hob).2 h2.2
     have hlen:(ob.xZ.getD i []).length=ob.sz:=by
      have:ob.xZ.getD i []=ob.xZ[i]:=by simp [List.getD,g2]
      rw [this]; exact c2 _ (μ g2)
     refine go ⟨ι key,i*ob.sz+off,none⟩ ((List.range inf.size).map λj=>cur.getD (i*ob.sz+off+j) undef) _ h1 (by simp) (by rw [η,ν,hlen]; omega) (λj v hj=>?_) (λj hj=>?_) g4 g5
     ·simp only [κ,γ,υ] at hj;obtain⟨j',hj',rfl⟩:=hj
      have hj2:j<inf.size:=by
       rcases Ae j inf.size with h | h
       ·exact h
       ·simp [θ (by simpa using h:(List.range inf.size).length<=j)] at hj'
      have e1:j'=j:=by simpa [hj2] using hj'.symm
      subst e1;rw [Addr.add_lit]
      have hlt:i*ob.sz+off+j'<cur.size:=by have:=nT (sz:=ob.sz) (j:=off+j') g2 (by omega);omega
      simp [World.cell?,c1,hlt]
     ·have hq:=(c4 i g2 (off+j) (by omega)).2
      have e1:(List.map (λj=>cur.getD (i*ob.sz+off+j) undef) (List.range inf.size)).getD j undef=cur.getD (i*ob.sz+(off+j)) undef:=by simp [List.getD,hj,ψ]
      have e2:(((ob.xZ.getD i []).drop off).take inf.size).getD j .top=(ob.xZ.getD i []).getD (off+j) .top:=by simp [List.getD,hj,ζ]
      rw [e1,e2];exact hq
    ·exact h.elim
   ·rename_i cs hb;obtain⟨b,off,vs,h1,h2,h3,h4,h5⟩:=(hb ▸ hR _ _ hx).qR;obtain⟨g1,g2,g3⟩:=h
    refine go ⟨b,off,none⟩ ((List.range inf.size).map vs) _ h1 (by simp) (by simp; omega) (λj v hj=>?_) (λj hj=>?_) g2 g3
    ·simp only [κ,γ] at hj;obtain⟨j',hj',rfl⟩:=hj
     have hj2:j<inf.size:=by
      rcases Ae j inf.size with h | h
      ·exact h
      ·simp [θ (by simpa using h:(List.range inf.size).length<=j)] at hj'
     have e1:j'=j:=by simpa [hj2] using hj'.symm
     subst e1;rw [Addr.add_lit];exact h4 j' (by omega)
    ·have e1:(List.map vs (List.range inf.size)).getD j undef=vs j:=by simp [List.getD,hj]
     have e2:(cs.take inf.size).getD j .top=cs.getD j .top:=by simp [List.getD,hj,ζ]
     rw [e1,e2];exact .pure (h5 j (by omega))
   ·rename_i b hb;have hX:a.eval x = .pointer (some ⟨b,0,none⟩):=(hb ▸ hR _ _ hx).gI;obtain⟨ds,g0,g1,g2,g3⟩:=h;obtain⟨vs,q1,q2,q3⟩:=g0 _ w hS.sR
    refine go ⟨b,0,none⟩ (vs.take inf.size) _ hX (by rw [η]; omega) (by rw [η]; omega) (λj v hj=>?_) (λj hj=>?_) g2 g3
    ·rw [Addr.add_lit];rw [ζ] at hj
     split at hj
     ·simpa using q2 j v hj
     ·cases hj
    ·have e1:(vs.take inf.size).getD j undef=vs.getD j undef:=by simp [List.getD,hj,ζ]
     have e2:(ds.take inf.size).getD j .top=ds.getD j .top:=by simp [List.getD,hj,ζ]
     rw [e1,e2];exact .pure (q3 j (by omega))
   ·exact h.elim
  ·simp at hk
 case call c=>
  unfold Xo at hk
  split at hk
  ·rename_i f hcal;simp only [zO] at hk;obtain⟨f',hf,xs,hxs,rfl⟩:=hk;simp only [pW] at h
   split at h
   ·rename_i g caps hfn;obtain⟨d,hc,hK⟩:=h;obtain⟨us,h1,h2,h3⟩:=(hfn ▸ hR _ _ hf).kM;obtain⟨g1,g2⟩:=jU hR hxs
    have hrun:(execOp a.eval o).run C.P w = .ok (.enter g (c.args.map a.eval++us)) w:=by have:=oK hc.ord (c.args.map a.eval++us) w;simp [execOp,hop,resolve,hcal,h1,Deferred.ofValue,invoke,this]
    refine sy hrun hc hS (by simp [g1,h2]) (λj hj=>?_) (λv w' ι' k1 k2 k3 k4 k5 k6=>?_)
    ·simp only [List.length_append] at hj
     by_cases hlt:j<(xs.map ev).length
     ·have:=g2 j hlt;have hlt':j<(c.args.map a.eval).size:=by omega
      have e1:(c.args.map a.eval++us).getD j undef=(c.args.map a.eval).getD j undef:=by simp only [Ag,Array.getElem?_append_left hlt']
      have e2:(xs.map ev++caps).getD j .top=(xs.map ev).getD j .top:=by simp only [List.getD,List.getElem?_append_left hlt]
      rw [e1,e2]; exact this
     ·have:=h3 (j-(xs.map ev).length) (by omega)
      have e1:(c.args.map a.eval++us).getD j undef=us.getD (j-(xs.map ev).length) undef:=by simp only [Ag];rw [Array.getElem?_append_right (by omega),g1]
      have e2:(xs.map ev++caps).getD j .top=caps.getD (j-(xs.map ev).length) .top:=by simp only [List.getD];rw [List.getElem?_append_right (by omega)]
      rw [e1,e2]; exact this
    ·have hown:∀ b,b<w'.heap.size->yO M0 ι σ b->yO M0 ι' σ b:=λb _ hb=>by
      rcases hb with hb | ⟨k,ob,hko,rfl⟩
      ·exact .inl hb
      ·exact .inr ⟨k,ob,hko,k4 k (hS.holds k ob hko).1⟩
     exact hn v d w' hK k1 (k2.back k4) (k6.xC (λ_ _ _=>rfl) hown (λb cur e hc=>⟨cur,hc,rfl⟩) (λk hk=>(k4 k hk).symm) (Ab _))
   ·exact h.elim
  ·rename_i b hcal;simp only [zO] at hk;obtain⟨xs,hxs,hk⟩:=hk;obtain⟨hl,hg⟩:=zA hxs;obtain⟨callee,args,ts⟩:=c;simp only at hcal hxs hk hl hg;subst hcal;obtain⟨args⟩:=args;obtain⟨ts⟩:=ts;simp only at hxs hk hl hg;unfold aS at hk
   split at hk
   ·-- len
    split at hk
    ·rename_i x t
     split at hk
     ·rename_i e he;cases hk;unfold sliceB at he
      split at he
      ·rename_i e' ht
       match args,hl with
       | [x0],_=>
        obtain⟨y,hy,hf⟩:=hg 0 x0 rfl;simp at hy; subst hy;have hX:=hR _ _ hf;simp only [pW] at h
        split at h
        ·rename_i sz xZ hb;rw [hb] at hX
         rcases hX.kN with ⟨ad,cap,e1,rfl,hcap⟩ | ⟨b,off,cap,vs,e1,g1,g2,g3,g4,_⟩
         ·refine fin _ _ (qz (ty:=0) (ts:=#[]) hop ht e1) h (.pure (.int ?_));decide
         ·refine fin _ _ (qz (ty:=0) (ts:=#[]) hop ht e1) h (.pure (.int ?_));simp only [maxLen] at g4;simp [IntKind.min,IntKind.max,IntKind.signed,IntKind.bits]; omega
        ·rename_i key sz len hb;rw [hb] at hX;obtain⟨cap,cur,e,e1,_,g3,g4,_⟩:=hX.tE;refine fin _ _ (qz (ty:=0) (ts:=#[]) hop ht e1) h (.pure (.int ?_));simp only [maxLen] at g4;simp [IntKind.min,IntKind.max,IntKind.signed,IntKind.bits]; omega
        ·rename_i key sz lo len hb;rw [hb] at hX;obtain⟨cap,off,cur,e,e1,_,g3,g4,_⟩:=hX.mU;refine fin _ _ (qz (ty:=0) (ts:=#[]) hop ht e1) h (.pure (.int ?_));simp only [maxLen] at g4;simp [IntKind.min,IntKind.max,IntKind.signed,IntKind.bits]; omega
        ·rename_i hb;rw [hb] at hX;refine fin _ _ (qz (ty:=0) (ts:=#[]) hop ht hX.uA) h (.pure (.int ?_));decide
        ·rename_i hb;rw [hb] at hX;obtain⟨ad,cap,e1⟩:=hX.gK;refine fin _ _ (qz (ty:=0) (ts:=#[]) hop ht e1) h (.pure (.int ?_));decide
        ·exact h.elim
      ·simp at he
     ·split at hk
      ·rename_i kt et ht;cases hk
       match args,hl with
       | [x0],_=>
        obtain⟨y,hy,hf⟩:=hg 0 x0 rfl;simp at hy; subst hy;have hX:=hR _ _ hf;simp only [pW] at h
        split at h
        ·rename_i key hb;rw [hb] at hX;obtain⟨g1,g2⟩:=hX.qN
         split at h
         ·rename_i ob hob;obtain⟨c1,c2,c3⟩:=h;obtain⟨es,e1,e2,e3⟩:=yZ.mapped (hS.holds key ob hob).2 c1;have:=Qm (ty:=0) (ts:=#[]) hop ht g1 e1;rw [e2] at this;refine fin _ _ this c3 (.pure (.int ?_));simp [IntKind.min,IntKind.max,IntKind.signed,IntKind.bits]; omega
         ·exact h.elim
        ·exact h.elim
      ·cases hk
    ·simp at hk
   ·-- min
    split at hk
    ·rename_i x y;simp at hk; subst hk
     match args,hl with
     | [x0,y0],_=>
      obtain⟨x1,hx1,hf⟩:=hg 0 x0 rfl;obtain⟨y1,hy1,hf'⟩:=hg 1 y0 rfl;simp at hx1 hy1; subst hx1; subst hy1;have hX:=hR _ _ hf;have hY:=hR _ _ hf';simp only [pW] at h
      split at h
      ·rename_i k p k' q hb hc;rw [hb] at hX;rw [hc] at hY;obtain⟨rfl,hK⟩:=h;refine fin _ _ (P1 hop hX.yT.1 hY.yT.1) hK (.pure (.int ?_));have:=hX.yT.2;have:=hY.yT.2;split <;> assumption
      ·exact h.elim
    ·rename_i x y z;simp at hk; subst hk
     match args,hl with
     | [x0,y0,z0],_=>
      obtain⟨x1,hx1,hf⟩:=hg 0 x0 rfl;obtain⟨y1,hy1,hf'⟩:=hg 1 y0 rfl;obtain⟨z1,hz1,hf''⟩:=hg 2 z0 rfl;simp at hx1 hy1 hz1; subst hx1; subst hy1; subst hz1;have hX:=hR _ _ hf;have hY:=hR _ _ hf';have hZ:=hR _ _ hf'';simp only [pW] at h
      split at h
      ·rename_i k p k' q k'' r hb hc hd;rw [hb] at hX;rw [hc] at hY;rw [hd] at hZ;obtain⟨rfl,rfl,hK⟩:=h;refine fin _ _ (Ql hop hX.yT.1 hY.yT.1 hZ.yT.1) hK (.pure (.int ?_));have:=hX.yT.2;have:=hY.yT.2;have:=hZ.yT.2;have hm:k.min<=(if q<p then q else p)/\ (if q<p then q else p)<=k.max:=by split <;> assumption
       generalize (if q<p then q else p)= m at hm;split <;> assumption
      ·exact h.elim
    ·simp at hk
   ·-- max
    split at hk
    ·rename_i x y;simp at hk; subst hk
     match args,hl with
     | [x0,y0],_=>
      obtain⟨x1,hx1,hf⟩:=hg 0 x0 rfl;obtain⟨y1,hy1,hf'⟩:=hg 1 y0 rfl;simp at hx1 hy1; subst hx1; subst hy1;have hX:=hR _ _ hf;have hY:=hR _ _ hf';simp only [pW] at h
      split at h
      ·rename_i k p k' q hb hc;rw [hb] at hX;rw [hc] at hY;obtain⟨rfl,hK⟩:=h;refine fin _ _ (P0 hop hX.yT.1 hY.yT.1) hK (.pure (.int ?_));have:=hX.yT.2;have:=hY.yT.2;split <;> assumption
      ·exact h.elim
    ·simp at hk
   ·-- append
    split at hk
    ·rename_i x y t u;simp only [zO] at hk;obtain⟨_,_,_,_,_,_,_,_,hk⟩:=hk
     split at hk
     ·simp at hk; subst hk; simp [pW] at h
     ·simp at hk
    ·simp at hk
   ·-- clear
    split at hk
    ·simp only [ε,δ] at hk;obtain⟨_,_,_,_,_,_,_,_,hk⟩:=hk
     split at hk
     ·simp at hk; subst hk; simp [pW] at h
     ·simp at hk
    ·simp at hk
   ·-- copy
    split at hk
    ·simp only [ε,δ] at hk;obtain⟨_,_,_,_,hk⟩:=hk
     split at hk
     ·simp at hk; subst hk; simp [pW] at h
     ·simp at hk
    ·simp at hk
   ·simp at hk
  ·simp at hk
 case field t x i=>
  simp only [zO] at hk;obtain⟨q,hq,m,hm,ag,hag,x',hx,rfl⟩:=hk;unfold wj at hq
  split at hq
  ·rename_i fs ht;simp only [γ] at hq;obtain⟨f,hf,rfl⟩:=hq;simp only [uD,γ] at hm;obtain⟨inf,hi,rfl⟩:=hm;simp only [pW] at h
   split at h
   ·rename_i cs hb;obtain⟨us,h1,h2,h3⟩:=(hb ▸ hR _ _ hx).cU;obtain⟨g1,g2,g3⟩:=h
    have htd:∃ td,C.P.underlying f.type=some td:=by
     unfold qS at hag
     cases hu:C.P.underlying f.type with
     | none=>simp [hu] at hag
     | some td=>exact⟨td,rfl⟩
    obtain⟨td,htd⟩:=htd
    cases ag with
    | true=>
     have hy:Yields C.P o a w (.agg (us.extract f.offset (f.offset+inf.size))):=by cases td <;> simp [qS,htd] at hag <;> simp [Yields,execOp,hop,h1,Instr.field,run_underlying ht,hf,asAgg,part,isAgg,run_underlying htd,sizeOf,typeInfo,hi]
     refine fin _ _ hy g3 (.agg (by simp; omega) λj hj=>?_);simp only [η,ν] at hj;have hj':f.offset+j<us.size:=by omega
     have e1:(us.extract f.offset (f.offset+inf.size)).getD j undef=us.getD (f.offset+j) undef:=by simp only [Ag,Array.getElem?_extract];rw [if_pos (by omega)]
     have e2:((cs.drop f.offset).take inf.size).getD j .top=cs.getD (f.offset+j) .top:=by
      have:j<inf.size:=by omega
      simp [List.getD,ζ,this]
     rw [e1,e2];exact h3 _ (by omega)
    | false=>
     have hone:inf.size=1:=by simpa using g2
     have hlt:f.offset<us.size:=by omega
     have hy:Yields C.P o a w (us.getD f.offset undef):=by cases td <;> simp [qS,htd] at hag <;> simp [Yields,execOp,hop,h1,Instr.field,run_underlying ht,hf,asAgg,part,isAgg,run_underlying htd,hlt]
     refine fin _ _ hy g3 ?_
     have e2:vR false ((cs.drop f.offset).take inf.size)= cs.getD f.offset .top:=by
      rw [hone];have:f.offset<cs.length:=by omega
      simp [vR,List.getD,this,List.headD,List.take_one,List.head?_drop]
     rw [e2];exact h3 _ (by omega)
   ·exact h.elim
  ·simp at hq
 case slice t x lo hi mx=>
  split at hk
  ·rename_i e he;simp only [zO] at hk;obtain⟨m,hm,sz,hm',lo',hlo,hi',hhi,x',hx,hk⟩:=hk
   split at hk
   ·rename_i hmx;simp at hk; subst hk;unfold sliceB at he
    split at he
    ·rename_i e' ht;simp at he; subst he;simp only [uD,γ] at hm;obtain⟨inf,hinf,rfl⟩:=hm;have hs:0<inf.size/\sz=inf.size:=by unfold mJ at hm'; split at hm' <;> simp_all
     obtain⟨hs,rfl⟩:=hs;have hX:=hR _ _ hx
     have run:∀ (ad:Option Addr) (len cap l h:Nat),a.eval x = .slice ad len cap->l<=h->h<=cap->len<=cap->RW (lo'.map ev)= some (l:Int) ->
       (match hi'.map ev with | none=>(h:Int)= len | some (.int _ n)=>(h:Int)= n | some _=>False) ->
       Yields C.P o a w (.slice (if cap=l then ad else ad.map (·.add (l*inf.size))) (h-l) (cap-l)):=by
      intro ad len cap l h e1 hlh hhc hlc hL hH
      have hhi':(match hi.map a.eval with | none=>h=len | some v=>∃ k,v = .int k (h:Int)):=by
       cases hi with
       | none=>simp [bO] at hhi; subst hhi; simp at hH ⊢; omega
       | some y=>
        simp [bO] at hhi;obtain⟨y',hy,rfl⟩:=hhi;have hY:=hR _ _ hy;simp at hH ⊢
        split at hH
        ·rename_i heq; simp at heq
        ·rename_i k n heq;simp at heq;rw [heq] at hY;rw [hH];exact⟨k,hY.yT.1⟩
        ·exact hH.elim
      have hlo':(match lo.map a.eval with | none=>l=0 | some v=>∃ k,v = .int k (l:Int)):=by
       cases lo with
       | none=>simp [bO] at hlo; subst hlo; simp [RW] at hL ⊢; omega
       | some y=>
        simp [bO] at hlo;obtain⟨y',hy,rfl⟩:=hlo;have hY:=hR _ _ hy;simp [RW] at hL ⊢
        split at hL
        ·rename_i heq; simp at heq
        ·rename_i k n heq;simp at heq hL;rw [heq] at hY;rw [<- hL];exact⟨k,hY.yT.1⟩
        ·simp at hL
      cases lo with
      | none=>
       simp at hlo'
       cases hi with
       | none=> simp at hhi';simp [Yields,execOp,hop,e1,Instr.sliceAt,run_underlying ht,Instr.slice,Instr.sliceBounds,sizeOf,typeInfo,hinf,hlo',hhi']
       | some y=> simp at hhi';obtain⟨k,hk⟩:=hhi';simp [Yields,execOp,hop,e1,Instr.sliceAt,run_underlying ht,Instr.slice,Instr.sliceBounds,Instr.sliceBound,asIntOf,sizeOf,typeInfo,hinf,hlo',hk,hhc]
      | some z=>
       simp at hlo';obtain⟨kz,hz⟩:=hlo'
       cases hi with
       | none=> simp at hhi';subst hhi';simp [Yields,execOp,hop,e1,Instr.sliceAt,run_underlying ht,Instr.slice,Instr.sliceBounds,Instr.sliceBound,asIntOf,sizeOf,typeInfo,hinf,hz,hlh]
       | some y=> simp at hhi';obtain⟨k,hk⟩:=hhi';simp [Yields,execOp,hop,e1,Instr.sliceAt,run_underlying ht,Instr.slice,Instr.sliceBounds,Instr.sliceBound,asIntOf,sizeOf,typeInfo,hinf,hz,hk,hhc,hlh]
     simp only [pW] at h
     split at h
     ·rename_i sz' xZ hb;rw [hb] at hX;obtain⟨rfl,l,hh,g1,g2,g3,g4,g5,g6⟩:=h;have hlen:((xZ.take hh.toNat).drop l.toNat).length=hh.toNat-l.toNat:=by simp; omega
      rcases hX.kN with ⟨ad,cap,e1,rfl,hcap⟩ | ⟨b,off,cap,vs,e1,k1,k2,k3,k4,k5,k6,k7⟩
      ·simp at g5;have eh:(hh.toNat:Int)= hh:=by omega
       have el:(l.toNat:Int)= l:=by omega
       have:=run ad 0 cap l.toNat hh.toNat e1 (by omega) (by omega) (Nat.zero_le _) (by rw [g1,el]) (by rw [eh]; exact g2);have e3:(([]:List (List D)).take hh.toNat).drop l.toNat = []:=by simp
       rw [e3] at g6;have e4:hh.toNat-l.toNat=0:=by omega
       rw [e4] at this;refine fin _ _ this g6 (.pure (.fw _ _ _ (λhn=>?_)))
       cases ad with
       | none=>have:=hcap rfl; omega
       | some x=>split at hn <;> simp at hn
      ·have:=run (some ⟨b,off,none⟩) xZ.length cap l.toNat hh.toNat e1 (by omega) (by omega) k3 (by rw [g1]; congr 1; omega) (by rw [show (hh.toNat:Int)= hh from(by omega)]; exact g2);refine fin _ _ this g6 (.pure ?_)
       by_cases hc:cap=l.toNat
       ·have e3:(xZ.take hh.toNat).drop l.toNat = []:=ξ (by rw [hlen]; omega);have e4:hh.toNat-l.toNat=0:=by omega
        rw [e3,e4];exact .fw _ _ _ (λhn=>by omega)
       ·rw [if_neg hc]
        have hget:∀ i,i<hh.toNat-l.toNat->((xZ.take hh.toNat).drop l.toNat).getD i []=xZ.getD (l.toNat+i) []:=by intro i hi0;simp [List.getD,ζ];rw [if_pos (by omega)]
        have e5:(Option.map (λx=>x.add (l.toNat*inf.size)) (some (⟨b,off,none⟩:Addr)))= some ⟨b,off+l.toNat*inf.size,none⟩:=by simp [Addr.add_lit]
        rw [e5,<- hlen]
        refine .sl (λi j=>vs (l.toNat+i) j) hs k2 (by rw [hlen]; omega) (by simp only [maxLen] at k4 ⊢; omega) (λe he=>k5 e ?_) (λi hi0 j hj=>?_) (λi hi0 j hj=>?_)
        ·exact List.mem_of_mem_take (List.mem_of_mem_drop he)
        ·have:=k6 (l.toNat+i) (by omega) j hj;have e6:off+(l.toNat+i)* inf.size+j=off+l.toNat*inf.size+i*inf.size+j:=by rw [Aa]; omega
         rw [<- e6]; exact this
        ·rw [hget i (by omega)];exact k7 (l.toNat+i) (by omega) j hj
     ·rename_i key sz' len hb;rw [hb] at hX;obtain⟨rfl,l,hh,g1,g2,g0,g3,g4,g5⟩:=h;obtain⟨cap,cur,e,e1,k1,k2,k3,k4,k5⟩:=hX.tE;have el:(l.toNat:Int)= l:=by omega
      have:=run (some ⟨ι key,0,none⟩) len cap l.toNat hh.toNat e1 (by omega) (by omega) k2 (by rw [g1,el]) (by rw [show (hh.toNat:Int)= hh from(by omega)]; exact g2);refine fin _ _ this g5 ?_
      by_cases hl0:l=0
      ·rw [if_pos hl0];subst hl0;have e5:(if cap=(0:Int).toNat then some (⟨ι key,0,none⟩:Addr) else Option.map (λx=>x.add ((0:Int).toNat*inf.size)) (some (⟨ι key,0,none⟩:Addr)))= some ⟨ι key,0,none⟩:=by split <;> simp [Addr.add]
       rw [e5];have:=R.wZ (M:=yO M0 ι σ) (sz:=inf.size) (len:=hh.toNat) k1 (by omega) k3 k4 k5;simpa using this
      ·rw [if_neg hl0]
       by_cases hlh:l=hh
       ·rw [if_pos hlh];have e6:hh.toNat-l.toNat=0:=by omega
        rw [e6]
        split
        ·exact .pure (.emp _ _)
        ·exact .pure (.emp _ _)
       ·rw [if_neg hlh,if_neg (by omega)];have e5:Option.map (λx=>x.add (l.toNat*inf.size)) (some (⟨ι key,0,none⟩:Addr))= some ⟨ι key,l.toNat*inf.size,none⟩:=by simp [Addr.add_lit]
        rw [e5];refine .sub k1 (by omega) (by omega) k4 (.inr ⟨rfl,?_⟩);rw [show l.toNat+(cap-l.toNat)= cap by omega]; exact k5
     ·rename_i key sz' lo0 len hb;rw [hb] at hX;obtain⟨rfl,l,hh,g1,g2,g0,g3,g4,g5⟩:=h;obtain⟨cap,off,cur,e,e1,k1,k2,k3,k4,k5⟩:=hX.mU;have el:(l.toNat:Int)= l:=by omega
      have:=run (some ⟨ι key,off,none⟩) len cap l.toNat hh.toNat e1 (by omega) (by omega) k2 (by rw [g1,el]) (by rw [show (hh.toNat:Int)= hh from(by omega)]; exact g2);refine fin _ _ this g5 ?_
      by_cases hc:cap=l.toNat
      ·rw [if_pos hc];exact .sub k1 (by omega) (by omega) k4 (.inl (by omega))
      ·rw [if_neg hc];have e5:Option.map (λx=>x.add (l.toNat*inf.size)) (some (⟨ι key,off,none⟩:Addr))= some ⟨ι key,off+l.toNat*inf.size,none⟩:=by simp [Addr.add_lit]
       rw [e5];obtain⟨q1,q2⟩:=k5.resolve_left (by omega);refine .sub k1 (by omega) (by omega) k4 (.inr ⟨by rw [q1,Aa],?_⟩);rw [show lo0+l.toNat+(cap-l.toNat)= lo0+cap by omega]; exact q2
     ·exact h.elim
    ·simp at he
   ·simp at hk
  ·split at hk
   ·rename_i n e ht;simp only [ε,δ] at hk;obtain⟨inf,hi,x',hx,hk⟩:=hk
    split at hk
    ·rename_i hc;simp at hk; subst hk;obtain⟨hs,hn0⟩:=hc;have hX:=hR _ _ hx;simp only [pW] at h
     split at h
     ·rename_i key s hb;rw [hb] at hX
      split at h
      ·rename_i ob hob;obtain⟨c1,c2,c3,c4,c5⟩:=h;obtain⟨e1,e2⟩:=hX.uV;rw [Nat.zero_mul,Ac] at e1;obtain⟨cur,ee,g1,g2,g3,g4⟩:=yZ.cells (hS.holds key ob hob).2 (by omega)
       refine fin (.slice (some ⟨ι key,0,none⟩) n n) _ ?_ c5 (.wZ e2.1 (Ab _) c4 g1 ?_)
       ·have h0:¬ n=0:=by omega
        simp [Yields,execOp,hop,e1,Instr.sliceAt,run_underlying ht,Instr.sureAddr,Instr.sliceBounds,sizeOf,typeInfo,hi,hs,h0,Addr.add_lit]
       ·have:ob.sz<=ob.xZ.length*ob.sz:=Nat.le_mul_of_pos_left _ c2;omega
      ·exact h.elim
     ·exact h.elim
    ·simp at hk
   ·simp at hk
 case build t ps=>
  split at hk
  ·rename_i fs ht;simp only [zO] at hk;obtain⟨zero,hz,places,hpl,parts,hps,rfl⟩:=hk;unfold oB at hz;simp only [zO] at hz;obtain⟨inf,hi,z,hz1,hz2⟩:=hz;simp only [pW] at h
   split at h
   ·rename_i cs hfill
    have hz':bU (yO M0 ι σ) w ι σ.nx z.cells zero:=by
     obtain⟨hl,hg⟩:=zA hz2;refine⟨by simpa using hl.symm,λj hj=>?_⟩;have hj':j<z.cells.size:=by have:=hl; simp at this; omega
     obtain⟨b,hb,hf⟩:=hg j z.cells[j] (by simp [hj']);have e1:zero.getD j .top=b:=by simp [List.getD,hb]
     have e2:z.cells.getD j undef=z.cells[j]:=by simp [hj']
     rw [e1,e2];exact .pure (kF hf)
    have hpar:Mb (yO M0 ι σ) w ι σ.nx (places.toArray[·]?) (ps.toList.map λp=>(p.1,a.eval p.2)) (parts.map λp=>(p.1,p.2.1,ev p.2.2)):=by
     clear hfill;generalize ps.toList=l at hps
     induction l generalizing parts with
     | nil=>simp [wI] at hps; subst hps; trivial
     | cons p l ih=>
      unfold wI at hps
      split at hps
      ·rename_i q qs hq hqs;simp at hps; subst hps;simp only [zO] at hq;obtain⟨pl,hpl',y,hy,rfl⟩:=hq;refine⟨by simpa using hpl',hR _ _ hy,ih qs hqs⟩
      ·simp at hps
    obtain⟨cs',hf,hr⟩:=uw _ _ _ _ _ _ hz' hpar hfill
    have hb:C.P.built t (ps.map λp=>(p.1,a.eval p.2)).toList=some cs':=by unfold Program.built;simp only [hi,ht,hz1,hpl];simpa using hf
    have hrun:=run_build w t (ps.map λp=>(p.1,a.eval p.2)) cs' hb;refine fin (.agg cs') _ ?_ h (.agg hr.1 hr.2);simp only [Yields,execOp,hop,Sem.run_bind,hrun,Result.andThen_ok];rfl
   ·exact h.elim
  ·rename_i n e ht;simp only [zO] at hk;obtain⟨zero,hz,sz,hsz,parts,hps,rfl⟩:=hk;unfold oB at hz;simp only [zO] at hz;obtain⟨inf,hi,z,hz1,hz2⟩:=hz;simp only [uD,γ] at hsz;obtain⟨ie,hie,rfl⟩:=hsz;simp only [pW] at h
   split at h
   ·rename_i cs hfill
    have hz':bU (yO M0 ι σ) w ι σ.nx z.cells zero:=by
     obtain⟨hl,hg⟩:=zA hz2;refine⟨by simpa using hl.symm,λj hj=>?_⟩;have hj':j<z.cells.size:=by have:=hl; simp at this; omega
     obtain⟨b,hb,hf⟩:=hg j z.cells[j] (by simp [hj']);have e1:zero.getD j .top=b:=by simp [List.getD,hb]
     have e2:z.cells.getD j undef=z.cells[j]:=by simp [hj']
     rw [e1,e2];exact .pure (kF hf)
    have hpar:Mb (yO M0 ι σ) w ι σ.nx (λi=>some (i*ie.size,ie.size)) (ps.toList.map λp=>(p.1,a.eval p.2)) (parts.map λp=>(p.1,p.2.1,ev p.2.2)):=by
     clear hfill;generalize ps.toList=l at hps
     induction l generalizing parts with
     | nil=>simp [wI] at hps; subst hps; trivial
     | cons p l ih=>
      unfold wI at hps
      split at hps
      ·rename_i q qs hq hqs;simp at hps; subst hps;simp only [zO] at hq;obtain⟨y,hy,rfl⟩:=hq;refine⟨rfl,hR _ _ hy,ih qs hqs⟩
      ·simp at hps
    obtain⟨cs',hf,hr⟩:=uw _ _ _ _ _ _ hz' hpar hfill
    have hb:C.P.built t (ps.map λp=>(p.1,a.eval p.2)).toList=some cs':=by unfold Program.built;simp only [hi,ht,hz1,hie];simpa using hf
    have hrun:=run_build w t (ps.map λp=>(p.1,a.eval p.2)) cs' hb;refine fin (.agg cs') _ ?_ h (.agg hr.1 hr.2);simp only [Yields,execOp,hop,Sem.run_bind,hrun,Result.andThen_ok];rfl
   ·exact h.elim
  ·simp at hk
 case buildSlice t len ps=>
  simp only [zO] at hk;obtain⟨e,he,m,hm,sz,hm',zero,hz,parts,hps,hk⟩:=hk
  split at hk
  ·rename_i hzl;obtain⟨hzl,hsmall⟩:=hzl;unfold sliceB at he
   split at he
   ·rename_i e' ht;simp at he; subst he;simp only [uD,γ] at hm;obtain⟨inf,hinf,rfl⟩:=hm;have hs:0<inf.size/\sz=inf.size:=by unfold mJ at hm'; split at hm' <;> simp_all
    obtain⟨hs,rfl⟩:=hs;unfold oB at hz;simp only [zO] at hz;obtain⟨inf',hi',z,hz1,hz2⟩:=hz;have e1:inf'=inf:=by rw [hinf] at hi'; exact(Option.some.inj hi').symm
    subst e1;unfold mkLit at hk
    split at hk
    ·split at hk
     ·simp at hk; subst hk; simp [pW] at h
     ·simp at hk; subst hk;simp only [pW] at h
      split at h
      ·rename_i es hfill;obtain⟨hpure,hK⟩:=h
       have hpar:Sx (yO M0 ι σ) w ι σ.nx (ps.toList.map λp=>(p.1,a.eval p.2)) (parts.map λp=>(p.1,ev p.2)):=by
        clear hfill;generalize ps.toList=l at hps
        induction l generalizing parts with
        | nil=>simp [wI] at hps; subst hps; trivial
        | cons p l ih=>
         unfold wI at hps
         split at hps
         ·rename_i q qs hq hqs;simp at hps; subst hps;simp only [zO] at hq;obtain⟨y,hy,rfl⟩:=hq;exact⟨rfl,hR _ _ hy,ih qs hqs⟩
         ·simp at hps
       obtain⟨cs',hf,hr,hl⟩:=aM _ _ _ _ _ _ (wa (M:=yO M0 ι σ) (w:=w) (ι:=ι) (n:=σ.nx) hz2 hzl len) hpar hfill;simp only [ο] at hl
       by_cases hlen:len=0
       ·subst hlen;have he0:es = []:=ξ hl;subst he0;have hr0:Array.range 0 = #[]:=rfl;have hf0:Instr.fill (λi=>some (i*inf'.size,inf'.size)) #[] (ps.map λp=>(p.1,a.eval p.2)).toList=some cs':=by simpa [hr0] using hf
        have hrun:(execOp a.eval o).run C.P w = .ok (.value (.slice (some ⟨w.heap.size,0,none⟩) 0 0)) (w.alloc (.cells cs' e')):=by simp at hf0;simp [execOp,hop,Instr.buildSlice,run_underlying ht,sizeOf,typeInfo,zeroValue,hinf,newRow,hf0,hr0]
        have hk0:=Kept.alloc w (.cells cs' e') λ_=>False;exact uZ hrun (hn _ _ _ hK (hk0.none _) (hS.ext hk0) (.pure (.fw _ _ _ (by simp))))
       ·have hpos:¬ len*inf'.size=0:=by rw [Nat.mul_eq_zero]; omega
        have hrun:=run_buildSlice w t e' len (ps.map λp=>(p.1,a.eval p.2)) cs' inf' z ht hinf hz1 (by omega) hpos (by simpa using hf);have hk0:=Kept.alloc w (.cells cs' e') λ_=>False
        have hx:(execOp a.eval o).run C.P w = .ok (.value (.slice (some ⟨w.heap.size,0,none⟩) len len)) (w.alloc (.cells cs' e')):=by simp only [execOp,hop,Sem.run_bind,hrun,Result.andThen_ok];rfl
        refine uZ hx (hn _ _ _ hK (hk0.none _) (hS.ext hk0) (.pure ?_))
        have hnew:∀ q (u:Value),cs'[q]?=some u->(w.alloc (.cells cs' e')).cell? ⟨w.heap.size,0+q,none⟩= some u:=by intro q u hq;have:(w.alloc (.cells cs' e')).heap[w.heap.size]?=some (Obj.cells cs' e' (0,0)):=heap_alloc_new w _;rw [cell_of_row _ _ _ _ _ _ this,Ac]; exact hq
        rw [<- hl]
        refine .sl (λi j=>cs'.getD (i*inf'.size+j) undef) hs (λhm=>Nat.lt_irrefl _ (yO.lt hS hm)) (Ab _) ?_ hr.2.1 (λi hi j hj=>?_) (λi hi j hj=>?_)
        ·simp only [maxLen];have:len<=len*inf'.size:=Nat.le_mul_of_pos_right _ hs;omega
        ·have hlt:i*inf'.size+j<cs'.size:=by rw [hr.1]; exact nT hi hj
         rw [Ac];have:=hnew (i*inf'.size+j) cs'[i*inf'.size+j] (by simp [hlt]);rw [Ac] at this;rw [this]; simp [hlt]
        ·refine(RP.xC (M:=yO M0 ι σ) (w:=w) (λb hb _=>hk0.block b hb id) (λ_ _ h=>h) ((hr.2.2 i hi j hj).yq ?_));have hmem:es.getD i [] ∈ es:=by simp [List.getD,hi]
         exact uS (List.all_eq_true.1 hpure _ hmem) j
      ·exact h.elim
    ·simp at hk
   ·simp at he
  ·simp at hk
end
end Go.Pd
namespace Go.Pd
open Go
variable [vA]
theorem Fr.mR (f:Fr) (t:Nat) (d:D) (s:Nat):(f.put (some t) d).get s=if t=s then d else f.get s:=rfl
theorem TK.xC {M M':Nat->Prop} {w w':World} {ι ι':Nat->Nat} {n n':Nat} {tmps:Array Value} {f:Fr} (h:TK M w ι n tmps f) (hb:∀ b,b<w.heap.size->¬ M b->w'.heap[b]?=w.heap[b]?) (hM:∀ b,b<w.heap.size->M' b->M b)
  (hs:∀ (b:Nat) (cur:Array Value) (e:TypeId),w.heap[b]?=some (Obj.cells cur e (0,0))->∃ cur':Array Value,w'.heap[b]?=some (Obj.cells cur' e (0,0))/\ cur'.size=cur.size)
  (hi:∀ k,k<n->ι' k=ι k) (hn:n<=n'):TK M' w' ι' n' tmps f:=λt=>(h t).xC hb hM hs hi hn
theorem TK.put {M:Nat->Prop} {w:World} {ι:Nat->Nat} {n:Nat} {a:Act} {f:Fr} (h:TK M w ι n a.tmps f) {dst:Option Nat} {v:Value} {d:D} (hd:∀ t,dst=some t->t<a.tmps.size) (hr:R M w ι n v d):TK M w ι n (a.put dst v).tmps (f.put dst d):=by
 cases dst with
 | none=>exact h
 | some t=>
  intro s;have ht:=hd t rfl;rw [Fr.mR]
  by_cases hts:t=s
  ·subst hts;simp [Act.put,ht];exact hr
  ·rw [if_neg hts];have:=h s;simp only [Act.put,Ag,Ah hts];simpa using this
theorem vn (a:Act) (dst:Option Nat) (v:Value):(a.put dst v).tmps.size=a.tmps.size:=by cases dst <;> simp [Act.put]
theorem s8 (a:Act) (dst:Option Nat) (v:Value):(a.put dst v).defers=a.defers:=by cases dst <;> rfl
theorem yR.step {C:Cx} {E:Env} {a:Act} {w w':World} {f:Fr} {σ σ':St} {ι ι':Nat->Nat} {dst:Option Nat} {v:Value} {d:D} (G:yR C E a w f σ ι) (hk:Kept w w' (rB ι σ)) (hS:zI E.M0 w' σ' ι') (hnx:σ.nx<=σ'.nx)
  (hi:∀ k,k<σ.nx->ι' k=ι k) (hnew:∀ k o,σ'.get k=some o->w.heap.size<=ι' k\/rB ι σ (ι' k)) (hr:R (yO E.M0 ι' σ') w' ι' σ'.nx v d) (hd:∀ t,dst=some t->t<C.N) :
  yR C E (a.put dst v) w' (f.put dst d) σ' ι':=by
 have hmine:∀ b,rB ι σ b->E.w0.heap.size<=b\/E.K0 b:=by rintro b ⟨k,o,hk,rfl⟩;exact G.rQ k o hk
 refine⟨by rw [vn]; exact G.size,G.defers.xC (s8 _ _ _) hk.size (λD hD=>hk.mark (G.oC.cY hD) hD),Nat.le_trans G.nx hnx,?_,hS,G.oS,λk o hko=>?_,λk hk0=>?_,?_⟩
 ·refine G.kept.trans hk (λ_ _ h=>h) λb hb ho=>?_
  rcases hmine b ho with h | h
  ·omega
  ·exact h
 ·rcases hnew k o hko with h | h
  ·exact .inl (Nat.le_trans G.kept.size h)
  ·exact hmine _ h
 ·rw [hi k (Ad hk0 G.nx)]; exact G.stay k hk0
 ·refine TK.put (G.fr.xC (λb hb hM=>hk.block b hb λho=>hM (.inr ho)) (λb hb hM=>?_) hk.shape hi hnx) (λt ht=>by rw [G.size]; exact hd t ht) hr
  rcases hM with hM | ⟨k,o,hko,rfl⟩
  ·exact .inl hM
  ·rcases hnew k o hko with h | h
   ·omega
   ·exact .inr h
theorem qM (σ:St) (o:Ob) (k:Nat):(σ.new o).get k=if σ.nx=k then some o else σ.get k:=rfl
theorem xK : ∀ (l:List (Nat × Ob)) (key k:Nat),St.look (yE l key) k=if key=k then none else St.look l k
 | [],key,k=>by simp [yE,St.look]
 | (j,o) :: r,key,k=>by
  simp only [yE]
  split
  ·rename_i h;subst h;rw [xK r]
   split
   ·rfl
   ·rename_i zL; simp [St.look,zL]
  ·rename_i h;simp only [St.look];rw [xK r]
   split
   ·rename_i h2;subst h2;rw [if_neg (λe=>h e.symm)]
   ·rfl
theorem pS (σ:St) (key k:Nat):(σ.erase key).get k=if key=k then none else σ.get k:=xK _ _ _
theorem xV : ∀ (l:List (Nat × Ob)) (key k:Nat) (o':Ob),St.look (wO l key o') k=if key=k then(St.look l k).map (λ_=>o') else St.look l k
 | [],key,k,o'=>by simp [wO,St.look]
 | (j,o) :: r,key,k,o'=>by
  simp only [wO]
  split
  ·rename_i h;subst h;simp only [St.look]
   split
   ·rfl
   ·rfl
  ·rename_i h;simp only [St.look];rw [xV r]
   split
   ·rename_i h2;subst h2;rw [if_neg (λe=>h (by first | exact e | exact e.symm))]
   ·rfl
theorem vG (σ:St) (key k:Nat) (o':Ob):(σ.set key o').get k=if key=k then(σ.get k).map (λ_=>o') else σ.get k:=xV _ _ _ _
theorem zI.renew {M0:Nat->Prop} {w w':World} {σ σ2:St} {ι ι':Nat->Nat} {ob:Ob} (kk:Nat) (h:zI M0 w σ ι) (hk:Kept w w' (rB ι σ)) (hnx:σ.nx<=σ2.nx) (hkk:kk<σ2.nx) (hi':∀ k,k<σ.nx->ι' k=ι k)
  (hsub:∀ k o,σ2.get k=some o->(k=kk/\o=ob)\/(k≠kk/\σ.get k=some o)) (hi:∀ k,k≠kk->ι' k=ι k) (hb:w.heap.size<=ι' kk\/rB ι σ (ι' kk)) (hM:¬ M0 (ι' kk))
  (hdisj:∀ k o,σ2.get k=some o->k≠kk->ι k≠ι' kk) (hsame:∀ k o,σ2.get k=some o->k≠kk->w'.heap[ι k]?=w.heap[ι k]?)
  (hob:yZ (yO M0 ι σ) w ι σ.nx w'.heap[ι' kk]? ob) :
  zI M0 w' σ2 ι'/\(∀ k,k<σ.nx->ι' k=ι k)/\ (∀ k o,σ2.get k=some o->w.heap.size<=ι' k\/rB ι σ (ι' k)):=by
 have hsubM:∀ b,b<w.heap.size->yO M0 ι' σ2 b->yO M0 ι σ b:=by
  intro b hblt hm
  rcases hm with hm | ⟨k,o,hko,rfl⟩
  ·exact .inl hm
  ·rcases hsub k o hko with ⟨rfl,_⟩ | ⟨zL,hko'⟩
   ·rcases hb with h1 | h1
    ·omega
    ·exact .inr h1
   ·exact .inr ⟨k,o,hko',(hi k zL).symm⟩
 have hkeep:∀ {v:Value} {d:D},R (yO M0 ι σ) w ι σ.nx v d->R (yO M0 ι' σ2) w' ι' σ2.nx v d:=λhr=> hr.xC (λb hb hM=>hk.block b hb λho=>hM (.inr ho)) hsubM hk.shape hi' (by omega)
 refine⟨⟨λb hb=>Ad (h.oS b hb) hk.size,λk o hko=>?_,λk k' o o' hko hko' e=>?_,λk o hko=>?_,h.sR.xC hk.size (λb hb hM=>hk.block b hb λho=>hM (.inr ho)) hsubM⟩,hi',λk o hko=>?_⟩
 ·rcases hsub k o hko with ⟨rfl,rfl⟩ | ⟨zL,hko'⟩
  ·exact⟨by omega,hob.imp hkeep⟩
  ·obtain⟨hlt,h1⟩:=h.holds k o hko';refine⟨by omega,?_⟩;show yZ (yO M0 ι' σ2) w' ι' σ2.nx w'.heap[ι' k]? o;rw [hi k zL,hsame k o hko zL]; exact yZ.imp h1 hkeep
 ·by_cases h1:k=kk <;> by_cases h2:k'=kk
  ·rw [h1,h2]
  ·subst h1;rw [hi k' h2] at e;exact absurd e.symm (hdisj k' o' hko' h2)
  ·subst h2;rw [hi k h1] at e;exact absurd e (hdisj k o hko h1)
  ·rw [hi k h1,hi k' h2] at e
   rcases hsub k o hko with ⟨h3,_⟩ | ⟨_,h3⟩
   ·exact absurd h3 h1
   ·rcases hsub k' o' hko' with ⟨h4,_⟩ | ⟨_,h4⟩
    ·exact absurd h4 h2
    ·exact h.inj k k' o o' h3 h4 e
 ·rcases hsub k o hko with ⟨rfl,_⟩ | ⟨zL,hko'⟩
  ·exact hM
  ·rw [hi k zL]; exact h.notM k o hko'
 ·rcases hsub k o hko with ⟨rfl,_⟩ | ⟨zL,hko'⟩
  ·exact hb
  ·exact .inr ⟨k,o,hko',(hi k zL).symm⟩
def uT (σ:St) (ι:Nat->Nat) (b:Nat) (k:Nat):Nat:=if k=σ.nx then b else ι k
theorem zE (σ:St) (ι:Nat->Nat) (b:Nat):uT σ ι b σ.nx=b:=by simp [uT]
theorem lF (σ:St) (ι:Nat->Nat) (b:Nat) {k:Nat} (h:k≠σ.nx):uT σ ι b k=ι k:=by simp [uT,h]
theorem zI.new {M0:Nat->Prop} {w w':World} {σ:St} {ι:Nat->Nat} {ob:Ob} (h:zI M0 w σ ι) (hk:Kept w w' λ_=>False)
  (hob:yZ (yO M0 ι σ) w ι σ.nx w'.heap[w.heap.size]? ob) :
  zI M0 w' (σ.new ob) (uT σ ι w.heap.size)/\ (∀ k,k<σ.nx->uT σ ι w.heap.size k=ι k)/\ (∀ k o,(σ.new ob).get k=some o->w.heap.size<=uT σ ι w.heap.size k\/rB ι σ (uT σ ι w.heap.size k)):=by
 refine h.renew σ.nx (hk.none _) (Nat.le_succ _) (Nat.lt_succ_self _) (λk hk=>lF _ _ _ (by omega)) (λk o hko=>?_) (λk zL=>lF _ _ _ zL) (.inl (by rw [zE]; exact Ab _)) (λhm=>?_) (λk o hko zL=>?_) (λk o hko zL=>?_) (by rw [zE]; exact hob)
 ·rw [qM] at hko
  split at hko
  ·rename_i he; exact .inl ⟨he.symm,(Option.some.inj hko).symm⟩
  ·rename_i he; exact .inr ⟨λe=>he e.symm,hko⟩
 ·rw [zE] at hm;exact Nat.lt_irrefl _ (h.oS _ hm)
 ·rw [zE];rw [qM,if_neg (λe=>zL e.symm)] at hko;have:=rB.lt h ⟨k,o,hko,rfl⟩;omega
 ·rw [qM,if_neg (λe=>zL e.symm)] at hko;exact hk.block _ (rB.lt h ⟨k,o,hko,rfl⟩) id
end Go.Pd
