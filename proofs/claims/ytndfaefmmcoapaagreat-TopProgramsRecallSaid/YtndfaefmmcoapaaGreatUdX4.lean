/- Part X4. -/
import Derived.Test.YtndfaefmmcoapaaGreatUdX3
import Derived.Still
import Derived.StillTail
import Derived.Maps.RangeRun
set_option linter.unusedSectionVars false
set_option linter.unusedVariables false
set_option linter.unusedSimpArgs false
set_option linter.defProp false
namespace Go.Pd
open Go
variable [sC]
theorem bXv {op:BinOp} {k k':IntKind} {a b:Int} {K:D->Prop} (h:iU op k a k' b K):∃ d,iU op k a k' b (fun x=>x=d)/\ K d:=by
 cases op <;> simp only [iU] at h ⊢
 all_goals first
  | exact⟨_,⟨h.1,h.2.1,rfl⟩,h.2.2⟩
  | exact⟨_,⟨h.1,rfl⟩,h.2⟩
theorem aHd {C:Cx} {σ:St} {ev:Opd->D} {k:DK} {K:D->Prop} (h:pW C σ ev k K):∃ d,pW C σ ev k (fun x=>x=d)/\ K d:=by
 cases k <;> simp only [pW] at h ⊢
 case mv x=>exact⟨_,rfl,h⟩
 case mkf=>exact⟨_,rfl,h⟩
 case pick c x y=>
  split at h
  ·rename_i t ht
   cases t
   ·exact⟨_,bY (by simp) (fun _=>rfl),(bYm h).2 rfl⟩
   ·exact⟨_,bY (fun _=>rfl) (by simp),(bYm h).1 rfl⟩
  ·exact h.elim
 case bin op x y=>
  split at h
  ·exact bXv h
  ·exact h.elim
 case slc sz x lo hi=>
  split at h
  ·obtain⟨h1,l,hh,h2,h3,h4,h5,h6,h7⟩:=h;exact⟨_,⟨h1,l,hh,h2,h3,h4,h5,h6,rfl⟩,h7⟩
  ·obtain⟨h1,l,hh,h2,h3,h4,h5,h6,h7⟩:=h;exact⟨_,⟨h1,l,hh,h2,h3,h4,h5,h6,rfl⟩,h7⟩
  ·obtain⟨h1,l,hh,h2,h3,h4,h5,h6,h7⟩:=h;exact⟨_,⟨h1,l,hh,h2,h3,h4,h5,h6,rfl⟩,h7⟩
  ·exact h.elim
 case call fn args=>
  split at h
  ·obtain⟨d,h1,h2⟩:=h;exact⟨d,⟨d,h1,rfl⟩,h2⟩
  ·exact h.elim
 case load n ag x=>
  split at h
  ·split at h
   ·exact⟨_,⟨h.1,h.2.1,h.2.2.1,h.2.2.2.1,rfl⟩,h.2.2.2.2⟩
   ·exact h.elim
  ·exact⟨_,⟨h.1,h.2.1,rfl⟩,h.2.2⟩
  ·exact h.elim
 case aNj zero ok m k=>
  split at h
  ·split at h
   ·exact⟨_,⟨h.1,h.2.1,rfl⟩,h.2.2⟩
   ·exact h.elim
  ·exact⟨_,rfl,h⟩
  ·exact h.elim
 case aY6 n zero ok m k=>
  split at h
  ·split at h
   ·obtain⟨h0,x,l,h1,h2⟩:=h;exact⟨_,⟨h0,x,l,h1,rfl⟩,h2⟩
   ·exact h.elim
  ·exact h.elim
 case geq neg n x y=>
  split at h
  ·split at h
   ·exact⟨_,⟨h.1,h.2.1,rfl⟩,h.2.2⟩
   ·exact h.elim
  ·exact h.elim
 case bY6 x=>
  split at h
  ·split at h
   ·exact⟨_,⟨h.1,h.2.1,rfl⟩,h.2.2⟩
   ·exact h.elim
  ·exact h.elim
 all_goals first
  | exact h.elim
  | (split at h <;> first | exact h.elim | exact⟨_,rfl,h⟩ | exact⟨_,⟨h.1,rfl⟩,h.2⟩ | exact⟨_,⟨h.1,h.2.1,rfl⟩,h.2.2⟩ | exact⟨_,⟨h.1,h.2.1,h.2.2.1,rfl⟩,h.2.2.2⟩)
theorem pL {C:Cx} {σ:St} {ev:Opd->D} {k:DK} {K:D->St->Prop} (hq:C.own.contains 77777=false) (h:opV C σ ev k K):∃ d σ',opV C σ ev k (fun x y=>x=d/\y=σ')/\ K d σ':=by
 by_cases hp:k.impure=true
 ·cases k <;> simp only [DK.impure] at hp <;> (try (simp at hp; done)) <;> simp only [opV] at h ⊢
  case box x=>
   split at h
   ·exact⟨_,_,⟨h.1,h.2.1,rfl,rfl⟩,h.2.2⟩
   ·exact h.elim
  case alloc z=>exact⟨_,_,⟨h.1,h.2.1,rfl,rfl⟩,h.2.2⟩
  case store n a x=>
   split at h
   ·split at h
    ·obtain⟨h1,h2,h3,h4,h5,h6⟩:=h;exact⟨_,_,⟨h1,h2,h3,h4,h5,rfl,rfl⟩,h6⟩
    ·exact h.elim
   ·exact h.elim
  case app sz bytes x y=>
   split at h
   ·exact h.elim
   ·rename_i rows hr;obtain⟨h0,h⟩:=h
    split at h
    ·obtain⟨h1,h2,h3,h4⟩:=h
     by_cases hne:rows = []
     ·exact⟨_,_,⟨h0,h1,h2,fun _=>⟨rfl,rfl⟩,fun hn=>absurd hne hn⟩,h3 hne⟩
     ·exact⟨_,_,⟨h0,h1,h2,fun hn=>absurd hn hne,fun _=>⟨rfl,rfl⟩⟩,h4 hne⟩
    ·split at h
     ·obtain⟨h1,h2,h3,h4,h5,h6⟩:=h;exact⟨_,_,⟨h0,h1,h2,h3,h4,h5,rfl,rfl⟩,h6⟩
     ·exact h.elim
    ·split at h
     ·rw [hq] at h; exact absurd h.1 (by simp)
     ·exact h.elim
    ·exact h.elim
  case cD=>
   split at h
   ·obtain⟨h1,h2,h3,h4,h5⟩:=h;exact⟨_,_,⟨h1,h2,h3,h4,rfl,rfl⟩,h5⟩
   ·exact h.elim
  case aY0=>
   split at h
   ·exact⟨_,_,⟨h.1,rfl,rfl⟩,h.2⟩
   ·exact h.elim
  case clr=>
   split at h
   ·exact⟨_,_,⟨rfl,rfl⟩,h⟩
   ·exact⟨_,_,⟨rfl,rfl⟩,h⟩
   ·split at h
    ·obtain⟨h1,h2,h3,h4,h5,h6⟩:=h;exact⟨_,_,⟨h1,h2,h3,h4,h5,rfl,rfl⟩,h6⟩
    ·exact h.elim
   ·split at h
    ·obtain⟨h1,h2,h3,h4,h5,h6⟩:=h;exact⟨_,_,⟨h1,h2,h3,h4,h5,rfl,rfl⟩,h6⟩
    ·exact h.elim
   ·exact h.elim
  case cpy=>
   split at h
   ·exact h.elim
   ·obtain⟨h0,h⟩:=h
    split at h
    ·split at h
     ·obtain⟨h1,h2,h3,h4,h5⟩:=h;exact⟨_,_,⟨h0,h1,h2,h3,h4,rfl,rfl⟩,h5⟩
     ·exact h.elim
    ·split at h
     ·obtain⟨h1,h2,h3,h4,h5⟩:=h;exact⟨_,_,⟨h0,h1,h2,h3,h4,rfl,rfl⟩,h5⟩
     ·exact h.elim
    ·exact h.elim
  case call fn args=>
   split at h
   ·obtain⟨d,σ',h1,h2⟩:=h;exact⟨d,σ',⟨d,σ',h1,rfl,rfl⟩,h2⟩
   ·exact h.elim
  case mkm=>exact⟨_,_,⟨rfl,rfl⟩,h⟩
  case aY1=>
   split at h
   ·split at h
    ·exact⟨_,_,⟨h.1,h.2.1,rfl,rfl⟩,h.2.2⟩
    ·exact h.elim
   ·exact h.elim
  case jZ=>
   split at h
   ·split at h
    ·obtain⟨h0,x,l,h1,h2⟩:=h;exact⟨_,_,⟨h0,x,l,h1,rfl,rfl⟩,h2⟩
    ·exact h.elim
   ·exact h.elim
  case aO8=>
   split at h
   ·split at h
    ·obtain⟨h1,h2,h3,h4⟩:=h
     split at h4
     ·rename_i i d hf;exact⟨_,_,⟨h1,h2,h3,rfl,rfl⟩,h4⟩
     ·rename_i hf;exact⟨_,_,⟨h1,h2,h3,rfl,rfl⟩,h4⟩
    ·exact h.elim
   ·exact h.elim
  case aNa=>
   split at h
   ·split at h
    ·obtain⟨h1,h2,h3,kk,y,d,h4,h5⟩:=h;exact⟨_,_,⟨h1,h2,h3,kk,y,d,h4,rfl,rfl⟩,h5⟩
    ·exact h.elim
   ·exact h.elim
 ·have hp':k.impure=false:=by simpa using hp
  obtain⟨d,h1,h2⟩:=aHd (aX3 hp' h);refine⟨d,σ,?_,h2⟩
  have:opV C σ ev k (fun x y=>x=d/\y=σ)= pW C σ ev k (fun x=>x=d/\σ=σ):=by cases k <;> first | rfl | simp [DK.impure] at hp'
  rw [this];simpa using h1
theorem aB1 {C:Cx} {σ:St} {ev:Opd->D} {k:DK} {K K':D->Prop} (h:pW C σ ev k K) (hk:∀ d,K d->K' d):pW C σ ev k K':=by
 have bm:∀ {op:BinOp} {k k':IntKind} {a b:Int},iU op k a k' b K->iU op k a k' b K':=by
  intro op k k' a b h;cases op <;> simp only [iU] at h ⊢
  all_goals first
   | exact⟨h.1,h.2.1,hk _ h.2.2⟩
   | exact⟨h.1,hk _ h.2⟩
 cases k <;> simp only [pW] at h ⊢
 case mv x=>exact hk _ h
 case mkf=>exact hk _ h
 case pick c x y=>
  split at h
  ·exact bY (fun e=>hk _ ((vV h).1 e)) (fun e=>hk _ ((vV h).2 e))
  ·exact h.elim
 case bin op x y=>
  split at h
  ·exact bm h
  ·exact h.elim
 case slc sz x lo hi=>
  split at h
  ·obtain⟨h1,l,hh,h2,h3,h4,h5,h6,h7⟩:=h;exact⟨h1,l,hh,h2,h3,h4,h5,h6,hk _ h7⟩
  ·obtain⟨h1,l,hh,h2,h3,h4,h5,h6,h7⟩:=h;exact⟨h1,l,hh,h2,h3,h4,h5,h6,hk _ h7⟩
  ·obtain⟨h1,l,hh,h2,h3,h4,h5,h6,h7⟩:=h;exact⟨h1,l,hh,h2,h3,h4,h5,h6,hk _ h7⟩
  ·exact h.elim
 case call fn args=>
  split at h
  ·obtain⟨d,h1,h2⟩:=h;exact⟨d,h1,hk _ h2⟩
  ·exact h.elim
 case load n ag x=>
  split at h
  ·split at h
   ·exact⟨h.1,h.2.1,h.2.2.1,h.2.2.2.1,hk _ h.2.2.2.2⟩
   ·exact h.elim
  ·exact⟨h.1,h.2.1,hk _ h.2.2⟩
  ·exact h.elim
 case aNj zero ok m k=>
  split at h
  ·split at h
   ·exact⟨h.1,h.2.1,hk _ h.2.2⟩
   ·exact h.elim
  ·exact hk _ h
  ·exact h.elim
 case aY6 n zero ok m k=>
  split at h
  ·split at h
   ·obtain⟨h0,x,l,h1,h2⟩:=h;exact⟨h0,x,l,h1,hk _ h2⟩
   ·exact h.elim
  ·exact h.elim
 case geq neg n x y=>
  split at h
  ·split at h
   ·exact⟨h.1,h.2.1,hk _ h.2.2⟩
   ·exact h.elim
  ·exact h.elim
 case bY6 x=>
  split at h
  ·split at h
   ·exact⟨h.1,h.2.1,hk _ h.2.2⟩
   ·exact h.elim
  ·exact h.elim
 all_goals first
  | exact h.elim
  | (split at h <;> first | exact h.elim | exact hk _ h | exact⟨h.1,hk _ h.2⟩ | exact⟨h.1,h.2.1,hk _ h.2.2⟩ | exact⟨h.1,h.2.1,h.2.2.1,hk _ h.2.2.2⟩)
theorem eR {C:Cx} {σ:St} {ev:Opd->D} {k:DK} {d:D} (h:pW C σ ev k (fun x=>x=d)):opV C σ ev k (fun x y=>x=d/\y=σ):=by
 by_cases hp:k.impure=true
 ·cases k <;> simp only [DK.impure] at hp <;> (try (simp at hp; done)) <;> simp only [pW] at h <;> try exact h.elim
  rename_i fn args;simp only [opV]
  split at h
  ·obtain⟨d',h1,h2⟩:=h;exact⟨d',σ,h1,h2,rfl⟩
  ·exact h.elim
 ·have hp':k.impure=false:=by simpa using hp
  have:opV C σ ev k (fun x y=>x=d/\y=σ)= pW C σ ev k (fun x=>x=d/\σ=σ):=by cases k <;> first | rfl | simp [DK.impure] at hp'
  rw [this];simpa using h
theorem kX {C:Cx} {σ:St} {ev ev':Opd->D} {k:DK} {K:D->St->Prop} (he:∀ x ∈ k.aCt,ev x=ev' x) (h:opV C σ ev k K):opV C σ ev' k K:=by
 cases k <;> simp only [DK.aCt] at he <;> simp only [opV,pW] at h ⊢
 case build z ps=>
  have:(ps.map fun p=>(p.1,p.2.1,ev p.2.2))= ps.map fun p=>(p.1,p.2.1,ev' p.2.2):=List.map_congr_left fun p hp=>by rw [he _ (List.mem_map.2 ⟨p,hp,rfl⟩)]
  rw [<- this]; exact h
 case rO sz len z ps=>
  have:(ps.map fun p=>(p.1,ev p.2))= ps.map fun p=>(p.1,ev' p.2):=List.map_congr_left fun p hp=>by rw [he _ (List.mem_map.2 ⟨p,hp,rfl⟩)]
  rw [<- this]; exact h
 case aY0 sz len z ps=>
  have:(ps.map fun p=>(p.1,ev p.2))= ps.map fun p=>(p.1,ev' p.2):=List.map_congr_left fun p hp=>by rw [he _ (List.mem_map.2 ⟨p,hp,rfl⟩)]
  rw [<- this]; exact h
 case mkf f cs=> have:cs.map ev=cs.map ev':=List.map_congr_left fun p hp=>he _ hp;rw [<- this]; exact h
 case slc sz x lo hi=>
  have h1:=he x (by simp);have h2:lo.map ev=lo.map ev':=by cases lo with | none=>rfl | some y=>simp [he y (by simp)]
  have h3:hi.map ev=hi.map ev':=by cases hi with | none=>rfl | some y=>simp [he y (by simp)]
  rw [<- h1,<- h2,<- h3]; exact h
 case call f xs=> have h1:=he f (by simp);have:xs.map ev=xs.map ev':=List.map_congr_left fun p hp=>he _ (by simp [hp]);rw [<- h1,<- this]; exact h
 case alloc z=>exact h
 case mkm=>exact h
 case aNj z ok m k=>rw [<- he m (by simp),<- he k (by simp)]; exact h
 case aY6 n z ok m k=>rw [<- he m (by simp),<- he k (by simp)]; exact h
 case jZ n m k x=>rw [<- he m (by simp),<- he k (by simp),<- he x (by simp)]; exact h
 case aY1 m k x=>rw [<- he m (by simp),<- he k (by simp),<- he x (by simp)]; exact h
 case aO8 z m k=>rw [<- he m (by simp),<- he k (by simp)]; exact h
 case aNa m k x=>rw [<- he m (by simp),<- he k (by simp),<- he x (by simp)]; exact h
 case pick c a b=>rw [<- he c (by simp),<- he a (by simp),<- he b (by simp)]; exact h
 all_goals first
  | (rename_i x; rw [<- he x (by simp)]; exact h)
  | (rename_i x y; rw [<- he x (by simp),<- he y (by simp)]; exact h)
  | (rename_i x _; rw [<- he x (by simp)]; exact h)
theorem qX {C:Cx} {σ:St} {ev:Opd->D} {k:DK} {d:D} {σ':St} (hs:k.zE=true) (h:opV C σ ev k (fun x y=>x=d/\y=σ')):σ'=σ/\∀ σ2,opV C σ2 ev k (fun x y=>x=d/\y=σ2):=by
 have key:pW C σ ev k (fun x=>x=d/\σ=σ'):=by cases k <;> first | exact h | simp [DK.zE] at hs
 have e1:σ'=σ:=by obtain⟨_,_,_,e⟩:=aHd key;exact e.symm
 subst e1;refine⟨rfl,fun σ2=>eR ?_⟩;have:=aB1 key fun d h=>h.1;cases k <;> first | exact this | simp [DK.zE] at hs
inductive Trace (C : Cx) : List DOp -> Fr -> St -> List (D × St) -> Prop
 | nil {f σ}:Trace C [] f σ []
 | cons {o ds f σ d σ' tr} (h:yP o f (opV C σ (evO f) o.k fun x y=>x=d/\y=σ') (d = .und/\σ'=σ)) (t:Trace C ds (f.put o.dst d) σ' tr):Trace C (o :: ds) f σ ((d,σ') :: tr)
def FAt : List DOp->List (D × St)->Fr->Fr
 | o :: ds,p :: tr,f=>FAt ds tr (f.put o.dst p.1)
 | _,_,f=>f
def SAt : List (D × St)->St->St
 | p :: tr,_=>SAt tr p.2
 | [],σ=>σ
theorem aM1 {C:Cx} {σ:St} {ev:Opd->D} {k:DK} {K:D->St->Prop} (h:opV C σ ev k K):∃ d σ',K d σ':=by
 have e0:(∀ sz b x y,k ≠ .app sz b x y)->opV C σ ev k K=opV { C with own:=[] } σ ev k K:=by intro hn;cases k <;> first | rfl | exact absurd rfl (hn _ _ _ _)
 cases k
 case app sz bytes x y=>
  simp only [opV] at h
  split at h
  ·exact h.elim
  ·rename_i rows _;obtain⟨_,h⟩:=h
   split at h
   ·obtain⟨_,_,h4,h5⟩:=h
    by_cases e:rows = []
    ·exact⟨_,_,h4 e⟩
    ·exact⟨_,_,h5 e⟩
   ·split at h
    ·obtain⟨_,_,_,_,_,h⟩:=h; exact⟨_,_,h⟩
    ·exact h.elim
   ·split at h
    ·obtain⟨_,_,_,_,_,_,h⟩:=h; exact⟨_,_,h [] (.inl rfl)⟩
    ·exact h.elim
   ·exact h.elim
 all_goals (rw [e0 (fun _ _ _ _=>by simp)] at h; obtain⟨d,σ',_,h⟩:=pL rfl h; exact⟨d,σ',h⟩)
theorem lL {C:Cx} {K:Fr->St->Prop}:∀ (ds:List DOp) (f:Fr) (σ:St),pR C ds f σ K->∃ f σ,K f σ
 | [],f,σ,h=>⟨f,σ,h⟩
 | o :: ds,f,σ,h=>by
  simp only [pR,opW] at h;unfold yP at h
  split at h
  ·obtain⟨d,σ',h⟩:=aM1 h;exact lL ds _ _ h
  ·rename_i d want hg
   split at h
   ·rename_i b hb
    by_cases e:b=want
    ·obtain⟨d,σ',h⟩:=aM1 ((vV h).1 e);exact lL ds _ _ h
    ·exact lL ds _ _ ((vV h).2 e)
   ·exact lL ds _ _ h
   ·exact h.elim
theorem uE {C:Cx} {K:Fr->St->Prop} (hq:C.own.contains 77777=false):∀ (ds:List DOp) (f:Fr) (σ:St),pR C ds f σ K->∃ tr,Trace C ds f σ tr/\K (FAt ds tr f) (SAt tr σ)/\ tr.length=ds.length
 | [],f,σ,h=>⟨[],.nil,h,rfl⟩
 | o :: ds,f,σ,h=>by
  simp only [pR,opW] at h
  have go:∀ (d:D) (σ':St),yP o f (opV C σ (evO f) o.k fun x y=>x=d/\y=σ') (d = .und/\σ'=σ)->pR C ds (f.put o.dst d) σ' K->∃ tr,Trace C (o :: ds) f σ tr/\K (FAt (o :: ds) tr f) (SAt tr σ)/\ tr.length=(o :: ds).length:=by intro d σ' hg hk;obtain⟨tr,h1,h2,h3⟩:=uE hq ds _ _ hk;exact⟨(d,σ') :: tr,.cons hg h1,h2,by simp [h3]⟩
  unfold yP at h
  split at h
  ·rename_i hg;obtain⟨d,σ',h1,h2⟩:=pL hq h;exact go d σ' (by simp only [yP,hg]; exact h1) h2
  ·rename_i j want hg
   split at h
   ·rename_i b hb
    by_cases hbw:b=want
    ·obtain⟨d,σ',h1,h2⟩:=pL hq ((vV h).1 hbw);exact go d σ' (by simp only [yP,hg,hb]; exact bY (fun _=>h1) (fun hn=>absurd hbw hn)) h2
    ·exact go .und σ (by simp [yP,hg,hb,hbw]) ((vV h).2 hbw)
   ·rename_i hu;exact go .und σ (by simp [yP,hg,hu]) h
   ·exact h.elim
theorem yU {C:Cx} {σ:St} {K:Fr->Prop}:∀ (ds:List DOp) (f:Fr),tL C σ ds f K->∃ tr,Trace C ds f σ tr/\K (FAt ds tr f)/\ tr.length=ds.length/\∀ p ∈ tr,p.2=σ
 | [],f,h=>⟨[],.nil,h,rfl,by simp⟩
 | o :: ds,f,h=>by
  simp only [tL] at h
  have go:∀ (d:D),yP o f (opV C σ (evO f) o.k fun x y=>x=d/\y=σ) (d = .und/\σ=σ)->tL C σ ds (f.put o.dst d) K->∃ tr,Trace C (o :: ds) f σ tr/\K (FAt (o :: ds) tr f)/\ tr.length=(o :: ds).length/\∀ p ∈ tr,p.2=σ:=by
   intro d hg hk;obtain⟨tr,h1,h2,h3,h4⟩:=yU ds _ hk
   exact⟨(d,σ) :: tr,.cons hg h1,h2,by simp [h3],by
    intro p hp
    rcases List.mem_cons.1 hp with rfl | hp
    ·rfl
    ·exact h4 p hp⟩
  unfold yP at h
  split at h
  ·rename_i hg;obtain⟨d,h1,h2⟩:=aHd h;exact go d (by simp only [yP,hg]; exact eR h1) h2
  ·rename_i j want hg
   split at h
   ·rename_i b hb
    by_cases hbw:b=want
    ·obtain⟨d,h1,h2⟩:=aHd ((vV h).1 hbw);exact go d (by simp only [yP,hg,hb]; exact bY (fun _=>eR h1) (fun hn=>absurd hbw hn)) h2
    ·exact go .und (by simp [yP,hg,hb,hbw]) ((vV h).2 hbw)
   ·rename_i hu;exact go .und (by simp [yP,hg,hu]) h
   ·exact h.elim
theorem Trace.append {C:Cx}:∀ {ds1 ds2:List DOp} {f:Fr} {σ:St} {t1 t2:List (D × St)},Trace C ds1 f σ t1->t1.length=ds1.length->Trace C ds2 (FAt ds1 t1 f) (SAt t1 σ) t2->Trace C (ds1++ds2) f σ (t1++t2)/\ FAt (ds1++ds2) (t1++t2) f=FAt ds2 t2 (FAt ds1 t1 f)/\ SAt (t1++t2) σ=SAt t2 (SAt t1 σ)
 | _,_,_,_,_,_,.nil,_,h=>⟨h,rfl,rfl⟩
 | _,_,_,_,_,_,.cons hg ht,hl,h=>by obtain⟨h1,h2,h3⟩:=Trace.append ht (by simpa using hl) h;exact⟨.cons hg h1,h2,h3⟩
theorem Trace.at {C:Cx}:∀ {ds:List DOp} {f:Fr} {σ:St} {tr:List (D × St)},Trace C ds f σ tr->∀ (i:Nat) (o:DOp),ds[i]?=some o ->
  ∃ d σ',tr[i]?=some (d,σ')/\ yP o (FAt (ds.take i) (tr.take i) f) (opV C (SAt (tr.take i) σ) (evO (FAt (ds.take i) (tr.take i) f)) o.k fun x y=>x=d/\y=σ') (d = .und/\σ'=SAt (tr.take i) σ)
 | _,_,_,_,.nil,i,o,h=>by simp at h
 | _,_,_,_,.cons hg ht,i,o',h=>by
  cases i with
  | zero=> simp at h; subst h;exact⟨_,_,rfl,by simpa [FAt,SAt] using hg⟩
  | succ i=> simp at h;obtain⟨d,σ',h1,h2⟩:=ht.at i o' h;exact⟨d,σ',by simpa using h1,by simpa [FAt,SAt] using h2⟩
theorem aQt : ∀ (ds:List DOp) (tr:List (D × St)) (f:Fr) (i:Nat) (o:DOp) (p:D × St),ds[i]?=some o->tr[i]?=some p->FAt (ds.take (i+1)) (tr.take (i+1)) f=(FAt (ds.take i) (tr.take i) f).put o.dst p.1
 | [],_,_,i,o,p,h,_=>by simp at h
 | _ :: _,[],_,i,o,p,_,h=>by simp at h
 | o' :: ds,p' :: tr,f,0,o,p,h,h'=>by simp at h h'; subst h; subst h';simp [FAt]
 | o' :: ds,p' :: tr,f,i+1,o,p,h,h'=>by simp at h h';have:=aQt ds tr (f.put o'.dst p'.1) i o p h h';simpa [FAt] using this
theorem gN : ∀ (tr:List (D × St)) (σ:St) (i:Nat) (p:D × St),tr[i]?=some p->SAt (tr.take (i+1)) σ=p.2
 | [],_,i,p,h=>by simp at h
 | p' :: tr,σ,0,p,h=>by simp at h; subst h; simp [SAt]
 | p' :: tr,σ,i+1,p,h=>by simp at h;have:=gN tr p'.2 i p h;simpa [SAt] using this
theorem aX : ∀ (l:List Oper) (acc:List Nat),(zG l acc).length=acc.length+l.length/\(∀ j,j<acc.length->(zG l acc).getD j 0=acc.getD j 0)/\
  ∀ (k:Nat) (o:Oper),l[k]?=some o->(zG l acc).getD (acc.length+k) 0=o.after.foldl (fun s e=>if Region.binds .any e then s ||| 2 ^ e.on ||| ((zG l acc).take (acc.length+k)).getD e.on 0 else s) 0
 | [],acc=>⟨by simp [zG],fun j hj=>rfl,fun k o h=>by simp at h⟩
 | o :: l,acc=>by
  unfold zG;generalize hm:o.after.foldl (fun s e=>if Region.binds .any e then s ||| 2 ^ e.on ||| acc.getD e.on 0 else s) 0=m;obtain⟨h1,h2,h3⟩:=aX l (acc ++ [m])
  refine⟨by rw [h1]; simp; omega,fun j hj=>?_,fun k o' hk=>?_⟩
  ·rw [h2 j (by simp; omega)];simp only [List.getD,List.getElem?_append_left hj]
  ·cases k with
   | zero=>
    simp at hk; subst hk
    have e0:(zG l (acc ++ [m])).getD (acc.length+0) 0=m:=by rw [h2 _ (by simp)];simp [List.getD]
    have e1:(zG l (acc ++ [m])).take (acc.length+0)= acc:=by
     apply List.ext_getElem?;intro j;rw [List.getElem?_take];simp only [Nat.add_zero]
     by_cases hj:j<acc.length
     ·rw [if_pos hj];have hj2:j<(zG l (acc ++ [m])).length:=by rw [h1]; simp; omega
      have:=h2 j (by simp; omega);simp only [List.getD,List.getElem?_append_left hj,List.getElem?_eq_getElem hj2,List.getElem?_eq_getElem hj,Option.getD_some] at this;rw [List.getElem?_eq_getElem hj2,List.getElem?_eq_getElem hj,this]
     ·rw [if_neg hj,List.getElem?_eq_none (by omega)]
    rw [e0,e1,hm]
   | succ k=>
    simp at hk;have:=h3 k o' hk;simp only [List.length_append,List.length_cons,List.length_nil] at this;have e:acc.length+(0+1)+ k=acc.length+(k+1):=by omega
    rw [e] at this;exact this
theorem aWx (A:List Nat) (i:Nat):∀ (es:List Edge) (s:Nat),(es.foldl (fun s e=>if Region.binds .any e then s ||| 2 ^ e.on ||| A.getD e.on 0 else s) s).testBit i=true->s.testBit i=true\/∃ e ∈ es,Region.binds .any e=true/\(e.on=i\/(A.getD e.on 0).testBit i=true)
 | [],s,h=>.inl h
 | e :: es,s,h=>by
  simp only [List.foldl_cons] at h
  rcases aWx A i es _ h with h | ⟨e',he',hb,hc⟩
  ·split at h
   ·rename_i hb;simp only [Nat.testBit_or,Bool.or_eq_true] at h
    rcases h with (h | h) | h
    ·exact .inl h
    ·refine .inr ⟨e,by simp,hb,.inl ?_⟩;rw [Nat.testBit_two_pow] at h;simpa using h
    ·exact .inr ⟨e,by simp,hb,.inr h⟩
   ·exact .inl h
  ·exact .inr ⟨e',by simp [he'],hb,hc⟩
theorem iL {l:List Oper} {i j:Nat} {o:Oper} (ho:l[j]?=some o) (h:ordered (zG l []) i j=true) :
  ∃ e ∈ o.after,Region.binds .any e=true/\(e.on=i\/(e.on<j/\ordered (zG l []) i e.on=true)):=by
 obtain⟨h1,_,h3⟩:=aX l [];have:=h3 j o ho;simp only [List.length_nil,Nat.zero_add] at this;unfold ordered at h;rw [this,<- Array.foldl_toList] at h
 rcases aWx _ i _ _ h with h | ⟨e,he,hb,hc⟩
 ·simp at h
 ·refine⟨e,by simpa using he,hb,?_⟩
  rcases hc with hc | hc
  ·exact .inl hc
  ·right
   by_cases hlt:e.on<j
   ·refine⟨hlt,?_⟩;unfold ordered
    have:((zG l []).take j).getD e.on 0=(zG l []).getD e.on 0:=by simp [List.getD,List.getElem?_take,hlt]
    rw [this] at hc;exact hc
   ·have:((zG l []).take j).getD e.on 0=0:=by simp [List.getD,List.getElem?_take,hlt]
    rw [this] at hc;simp at hc
theorem tT {l:List Oper} {T:Nat->Bool} (hc:∀ (j:Nat) (o:Oper),l[j]?=some o->T j=true->∀ e ∈ o.after,Region.binds .any e=true->T e.on=true) (hl:∀ j,T j=true->j<l.length) :
  ∀ (j:Nat),T j=true->∀ i,ordered (zG l []) i j=true->T i=true:=by
 intro j
 induction j using Nat.strongRecOn with
 | _ j ih=>
  intro hj i ho;have hlt:=hl j hj;obtain⟨e,he,hb,h⟩:=iL (List.getElem?_eq_getElem hlt) ho;have hT:=hc j _ (List.getElem?_eq_getElem hlt) hj e he hb
  rcases h with rfl | ⟨h1,h2⟩
  ·exact hT
  ·exact ih e.on h1 hT i h2
theorem aYs {l:List Oper} {T:Nat->Bool} (hc:∀ (j:Nat) (o:Oper),l[j]?=some o->T j=true->∀ e ∈ o.after,Region.binds .any e=true->T e.on=true) (hl:∀ j,T j=true->j<l.length) {j:Nat} {o:Oper} (ho:l[j]?=some o)
  (hr:∀ e ∈ o.after,Region.binds .any e=true->T e.on=true):∀ i,ordered (zG l []) i j=true->T i=true:=by
 intro i h;obtain⟨e,he,hb,h⟩:=iL ho h;have hT:=hr e he hb
 rcases h with rfl | ⟨h1,h2⟩
 ·exact hT
 ·exact tT hc hl e.on hT i h2
end Go.Pd
namespace Go.Pd
open Go
variable [sC]
def vK (ds:List DOp) (i:Nat):Option Nat:=(ds[i]?).bind (·.dst)
def wO (ds:List DOp) (i:Nat):Bool:=((ds[i]?).map (·.k.zE)).getD true
def tK (tr:List (D × St)) (i:Nat):D:=((tr[i]?).map (·.1)).getD .top
def LV (ds:List DOp) (tr:List (D × St)) (f:Fr) (T:Nat->Bool):Nat->Nat->D
 | 0,t=>f.get t
 | i+1,t=>if T i=true/\vK ds i=some t then tK tr i else LV ds tr f T i t
def SV (q:Nat->Bool) (tr:List (D × St)) (σ:St) (T:Nat->Bool):Nat->St
 | 0=>σ
 | i+1=>if T i=true/\q i=false then SAt (tr.take (i+1)) σ else SV q tr σ T i
def quiet (ds:List DOp) (mu:Nat->Bool) (s i:Nat):Bool:=wO ds i || (decide (i<s)&& !mu i)
theorem wE {ds:List DOp} {mu:Nat->Bool} {s i:Nat}:quiet ds mu s i=false ↔ wO ds i=false/\(mu i=true\/s<=i):=by
 simp only [quiet,Bool.or_eq_false_iff,Bool.and_eq_false_iff,decide_eq_false_iff_not,Bool.not_eq_false']
 constructor
 ·rintro ⟨h1,h2⟩; exact⟨h1,h2.elim (fun h=>.inr (by omega)) .inl⟩
 ·rintro ⟨h1,h2⟩; exact⟨h1,h2.elim .inr fun h=>.inl (by omega)⟩
theorem aCd {q T:Nat->Bool}:∀ (n:Nat),(∀ j m,j<m->m<n->q j=false->q m=false->T m=true->T j=true)->∃ p,p<=n/\∀ j,j<n->q j=false->(T j=true ↔ j<p)
 | 0,_=>⟨0,Nat.le_refl _,fun j hj=>by omega⟩
 | n+1,h=>by
  obtain⟨p,h1,h2⟩:=aCd n fun j m a b=>h j m a (by omega)
  by_cases hq:q n=false
  ·by_cases hT:T n=true
   ·refine⟨n+1,Nat.le_refl _,fun j hj hqj=>⟨fun _=>hj,fun _=>?_⟩⟩
    by_cases e:j=n
    ·subst e; exact hT
    ·exact h j n (by omega) (Nat.lt_succ_self n) hqj hq hT
   ·refine⟨p,by omega,fun j hj hqj=>?_⟩
    by_cases e:j=n
    ·subst e; exact⟨fun h=>absurd h hT,fun h=>by omega⟩
    ·exact h2 j (by omega) hqj
  ·refine⟨p,by omega,fun j hj hqj=>?_⟩
   by_cases e:j=n
   ·subst e; exact absurd hqj hq
   ·exact h2 j (by omega) hqj
section
variable {ds : List DOp} {tr : List (D × St)} {f : Fr} {σ : St}
theorem mN (hl:tr.length=ds.length):∀ (i:Nat),i<=ds.length->∀ t,(FAt (ds.take i) (tr.take i) f).get t=LV ds tr f (fun _=>true) i t
 | 0,_,t=>by simp [FAt,LV]
 | i+1,h,t=>by
  have hi:i<ds.length:=h;have ho:ds[i]?=some ds[i]:=List.getElem?_eq_getElem hi;have hp:tr[i]?=some (tr[i]'(by omega)):=List.getElem?_eq_getElem (by omega);rw [aQt ds tr f i _ _ ho hp];simp only [LV,vK,tK,ho,hp,Option.bind_some,Option.map_some,Option.getD_some,true_and]
  cases hd:(ds[i]).dst with
  | none=> simp only [Fr.put];rw [if_neg (by simp)];exact mN hl i (by omega) t
  | some d=>
   rw [Fr.jO]
   by_cases hdt:d=t
   ·subst hdt; simp
   ·rw [if_neg hdt,if_neg (by simpa using hdt)];exact mN hl i (by omega) t
theorem aZm {T:Nat->Bool} {i t:Nat}:∀ (m:Nat),(∀ j,j<m->vK ds j=some t->(T j=true ↔ j<i))->LV ds tr f T m t=LV ds tr f (fun _=>true) (min m i) t
 | 0,_=>by simp [LV]
 | m+1,h=>by
  have ih:=aZm (T:=T) (i:=i) (t:=t) m fun j hj=>h j (by omega);simp only [LV]
  by_cases hd:vK ds m=some t
  ·have hm:=h m (by omega) hd
   by_cases hlt:m<i
   ·rw [if_pos ⟨hm.2 hlt,hd⟩];have:min (m+1) i=m+1:=by omega
    rw [this];simp [LV,hd]
   ·have hT:¬ (T m=true):=fun h=>hlt (hm.1 h);rw [if_neg (fun h=>hT h.1),ih];have:min (m+1) i=min m i:=by omega
    rw [this]
  ·rw [if_neg (fun h=>hd h.2),ih]
   by_cases hlt:m<i
   ·have e1:min (m+1) i=m+1:=by omega
    have e2:min m i=m:=by omega
    rw [e1,e2];simp [LV,hd]
   ·have:min (m+1) i=min m i:=by omega
    rw [this]
theorem mM {T:Nat->Bool} {i t:Nat} (hT:T i=true) (hd:vK ds i=some t):∀ (m:Nat),i<m->(∀ j,i<j->j<m->vK ds j=some t->T j=false)->LV ds tr f T m t=tK tr i
 | 0,h,_=>by omega
 | m+1,h,hn=>by
  simp only [LV]
  by_cases hm:m=i
  ·subst hm;rw [if_pos ⟨hT,hd⟩]
  ·by_cases hdm:vK ds m=some t
   ·rw [if_neg (fun h=>by rw [hn m (by omega) (by omega) hdm] at h; simp at h)];exact mM hT hd m (by omega) fun j h1 h2=>hn j h1 (by omega)
   ·rw [if_neg (fun h=>hdm h.2)];exact mM hT hd m (by omega) fun j h1 h2=>hn j h1 (by omega)
theorem aLx {T T':Nat->Bool} {t:Nat}:∀ (m:Nat),(∀ j,j<m->vK ds j=some t->T' j=T j)->LV ds tr f T' m t=LV ds tr f T m t
 | 0,_=>rfl
 | m+1,h=>by
  simp only [LV];rw [aLx m fun j hj=>h j (by omega)]
  by_cases hd:vK ds m=some t
  ·rw [h m (by omega) hd]
  ·rw [if_neg (fun h=>hd h.2),if_neg (fun h=>hd h.2)]
theorem aLv {q T T':Nat->Bool}:∀ (m:Nat),(∀ j,j<m->q j=false->T' j=T j)->SV q tr σ T' m=SV q tr σ T m
 | 0,_=>rfl
 | m+1,h=>by
  simp only [SV];rw [aLv m fun j hj=>h j (by omega)]
  by_cases hd:q m=false
  ·rw [h m (by omega) hd]
  ·rw [if_neg (fun h=>hd h.2),if_neg (fun h=>hd h.2)]
theorem gA {q T:Nat->Bool} {i n:Nat} (hs:∀ j,j<n->q j=true->SAt (tr.take (j+1)) σ=SAt (tr.take j) σ) :
  ∀ (m:Nat),m<=n->(∀ j,j<m->q j=false->(T j=true ↔ j<i))->SV q tr σ T m=SAt (tr.take (min m i)) σ
 | 0,_,_=>by simp [SV,SAt]
 | m+1,hm,h=>by
  have ih:=gA (T:=T) (i:=i) hs m (by omega) fun j hj=>h j (by omega);simp only [SV]
  by_cases hd:q m=false
  ·have hh:=h m (by omega) hd
   by_cases hlt:m<i
   ·rw [if_pos ⟨hh.2 hlt,hd⟩];have:min (m+1) i=m+1:=by omega
    rw [this]
   ·rw [if_neg (fun h=>hlt (hh.1 h.1)),ih];have:min (m+1) i=min m i:=by omega
    rw [this]
  ·rw [if_neg (fun h=>hd h.2),ih]
   by_cases hlt:m<i
   ·have e1:min (m+1) i=m+1:=by omega
    have e2:min m i=m:=by omega
    rw [e1,e2,hs m (by omega) (by simpa using hd)]
   ·have:min (m+1) i=min m i:=by omega
    rw [this]
theorem aMa {q T:Nat->Bool} {k:Nat}:∀ (n:Nat),(∀ j,j<n->q j=false->T j=true->j=k)->SV q tr σ T n=if k<n/\T k=true/\q k=false then SAt (tr.take (k+1)) σ else σ
 | 0,_=>by simp [SV]
 | n+1,h=>by
  simp only [SV]
  split
  ·rename_i hc;obtain rfl:=h n (by omega) hc.2 hc.1;rw [if_pos ⟨by omega,hc.1,hc.2⟩]
  ·rename_i hc;rw [aMa n fun j hj=>h j (by omega)]
   by_cases hk:k<n
   ·simp only [hk,show k<n+1 by omega]
   ·rw [if_neg (fun h=>hk h.1)]
    by_cases hkn:k=n
    ·subst hkn; rw [if_neg (fun h=>hc ⟨h.2.1,h.2.2⟩)]
    ·rw [if_neg (fun h=>by omega)]
end
theorem oO {o:DOp} {f g:Fr} {p q:Prop} (h:∀ d b,o.guard=some (d,b)->f.get d=g.get d) (hg:yP o f p q):yP o g p q:=by
 unfold yP at *
 cases e:o.guard with
 | none=>simp only [e] at hg ⊢; exact hg
 | some x=> obtain⟨d,b⟩:=x;simp only [e] at hg ⊢;rw [<- h d b e];exact hg
structure aTe (C : Cx) (E : Env) (ops : Array Oper) (ds : List DOp) (q : Nat -> Bool) (tr : List (D × St)) (f : Fr) (σ : St) (xo : Nat -> Nat -> Bool) (l0 : Nat -> Bool) (listed : Array Bool) (a : Act) (w : World) : Prop where
 size:listed.size=ops.size
 ord:∀ i j,xo i j=true->listed.getD j false=true->listed.getD i false=true
 low:∀ i,l0 i=true->listed.getD i false=true
 closed:∀ (j:Nat) (o:Oper),ops.toList[j]?=some o->listed.getD j false=true->∀ e ∈ o.after,Region.binds .any e=true->listed.getD e.on false=true
 bY9:∃ g,(∀ t,g.get t=LV ds tr f (fun i=>listed.getD i false) ds.length t)/\ Good C E a w g (SV q tr σ (fun i=>listed.getD i false) ds.length)
theorem Good.congr {C:Cx} {E:Env} {a:Act} {w:World} {f g:Fr} {σ:St} (h:∀ t,f.get t=g.get t) (G:Good C E a w f σ):Good C E a w g σ:=by obtain⟨ι,G⟩:=G;exact⟨ι,⟨G.size,G.defers,G.nx,G.kept,G.sim,G.old,G.nG,G.stay,fun t=>by rw [<- h t]; exact G.fr t⟩⟩
theorem aYt {o:DOp} {t:Nat} (h:Opd.t t ∈ o.k.aCt):t ∈ o.names:=by unfold DOp.names;exact List.mem_append_left _ (List.mem_filterMap.2 ⟨_,h,rfl⟩)
theorem cS {o:DOp} {d:Nat} {b:Bool} (h:o.guard=some (d,b)):d ∈ o.names:=by unfold DOp.names;simp [h]
theorem oN {x y:DOp} (h:nA x y=true):(∀ d,x.dst=some d->d ∉ y.names)/\ (∀ d,x.dst=some d->y.dst≠some d)/\ (∀ d,y.dst=some d->d ∉ x.names):=by
 unfold nA at h;simp only [Bool.and_eq_true] at h
 refine⟨fun d hd=>?_,fun d hd=>?_,fun d hd=>?_⟩
 ·have:=h.1; rw [hd] at this; simp at this; exact this.1
 ·have:=h.1; rw [hd] at this; simp at this; exact this.2
 ·have:=h.2; rw [hd] at this; simpa using this
section
variable {C : Cx} {E : Env} {ops : Array Oper} {ds : List DOp} {tr : List (D × St)} {f : Fr} {σ : St} {Q : Exit -> Act -> World -> Prop} {s : Nat}
def aMd (ops:Array Oper) (ds:List DOp) (s:Nat) (mu:Nat->Bool) (xo:Nat->Nat->Bool):Prop:=∀ {i j:Nat} {oj:Oper} {di dj:DOp},ops.toList[j]?=some oj->ds[j]?=some dj->ds[i]?=some di->i<j ->
  ordered (zG ops.toList []) i j=true\/(nA di dj=true/\((j<s/\¬ (mu i=true/\mu j=true))\/di.k.zE=true\/dj.k.zE=true\/xo i j=true))
def aMe (ops:Array Oper):Prop:=∀ {j:Nat} {oj:Oper},ops.toList[j]?=some oj->∀ e ∈ oj.after,Region.binds .any e=true->e.on<j
theorem cZ {mu:Nat->Bool} {xo:Nat->Nat->Bool} (hok:fQ ops.toList ds s mu xo=true):aMd ops ds s mu xo:=by
 intro i j oj di dj hj hdj hdi hij;have hlt:j<ops.toList.length:=(List.getElem?_eq_some_iff.1 hj).1;have h1:=List.all_eq_true.1 hok j (List.mem_range.2 hlt);simp only [hj,hdj,Bool.and_eq_true] at h1;have h2:=List.all_eq_true.1 h1.2 i (List.mem_range.2 hij);simp only [hdi,Bool.or_eq_true,Bool.and_eq_true,decide_eq_true_eq,Bool.not_eq_true',Bool.and_eq_false_iff] at h2
 rcases h2 with h | ⟨h3,((h | h) | h) | h⟩
 ·exact .inl h
 ·exact .inr ⟨h3,.inl ⟨h.1,fun⟨a,b⟩=>by rcases h.2 with e | e; rw [a] at e; cases e; rw [b] at e; cases e⟩⟩
 ·exact .inr ⟨h3,.inr (.inl h)⟩
 ·exact .inr ⟨h3,.inr (.inr (.inl h))⟩
 ·exact .inr ⟨h3,.inr (.inr (.inr h))⟩
theorem cW {mu:Nat->Bool} {xo:Nat->Nat->Bool} (hok:fQ ops.toList ds s mu xo=true):aMe ops:=by
 intro j oj hj;have hlt:j<ops.toList.length:=(List.getElem?_eq_some_iff.1 hj).1;have h1:=List.all_eq_true.1 hok j (List.mem_range.2 hlt);simp only [hj] at h1
 split at h1
 ·rename_i o d h2 h3;simp at h2; subst h2;simp only [Bool.and_eq_true] at h1;intro e he hb;have:=List.all_eq_true.1 h1.1 e (by simpa using he);simp [hb] at this;exact this
 ·simp at h1
theorem aYh {mu:Nat->Bool} {xo:Nat->Nat->Bool} {l0:Nat->Bool} (hdl:ds.length=ops.toList.length) (hdg:∀ i o,ops.toList[i]?=some o->∃ dop,ds[i]?=some dop/\(l0 i=false->aE C.P C.N C.own ops o=some dop)) (hsp:aMd ops ds s mu xo) (hbk:aMe ops) (hxo:∀ i j,xo i j=true->i<j) (ht:Trace C ds f σ tr) (hlen:tr.length=ds.length) (hsl:s<=ds.length)
  (hmu:∀ m,m<s->mu m=true->wO ds m=false)
  (hpre:∀ i,i<s->mu i=false->SAt (tr.take (i+1)) σ=SAt (tr.take i) σ)
  (hswap:∀ i dop p,i<s->mu i=false->p<=s->ds[i]?=some dop->dop.k.zE=false->(∀ m,m<s->mu m=true->(m<p->ordered (zG ops.toList []) i m=false)/\ (p<=m->ordered (zG ops.toList []) m i=false)) ->
   yP dop (FAt (ds.take i) (tr.take i) f) (opV C (SAt (tr.take p) σ) (evO (FAt (ds.take i) (tr.take i) f)) dop.k fun x y=>x=tK tr i/\y=SAt (tr.take p) σ) (.und=tK tr i))
  (hQ:∀ a w,Good C E a w (FAt ds tr f) (SAt tr σ)->Q .normal a w)
  (hR:∀ (fuel:Nat) (listed:Array Bool) (a:Act) (w:World) (i j:Nat),((List.range ops.size).filter fun j=>!(listed.setIfInBounds i true).getD j false).length<=fuel->aTe C E ops ds (quiet ds mu s) tr f σ xo l0 listed a w->i ∈ Region.ready .any ops listed->xo j i=true->listed.getD j false=false ->
   wpOpIn C.F 0 C.P ops Q i (wpAnyIn C.F 0 C.P .any ops Q fuel (listed.setIfInBounds i true)) a w) :
  ∀ (fuel:Nat) (listed:Array Bool) (a:Act) (w:World),((List.range ops.size).filter fun i=>!listed.getD i false).length<=fuel->aTe C E ops ds (quiet ds mu s) tr f σ xo l0 listed a w->wpAnyIn C.F 0 C.P .any ops Q fuel listed a w:=by
 have hdl':ds.length=ops.size:=by simpa using hdl
 have hsil:∀ j,j<ds.length->quiet ds mu s j=true->SAt (tr.take (j+1)) σ=SAt (tr.take j) σ:=by
  intro j hj hs
  by_cases hsj:wO ds j=true
  ·have ho:ds[j]?=some ds[j]:=List.getElem?_eq_getElem hj;obtain⟨d,σ',h1,h2⟩:=ht.at j _ ho;rw [gN tr σ j _ h1];simp only [wO,ho,Option.map_some,Option.getD_some] at hsj;unfold yP at h2
   split at h2
   ·exact(qX hsj h2).1
   ·split at h2
    ·exact(Classical.em _).elim (fun hbw=>(qX hsj ((vV h2).1 hbw)).1) (fun hbw=>((vV h2).2 hbw).2)
    ·exact h2.2
    ·exact h2.elim
  ·simp only [quiet,Bool.or_eq_true,hsj,false_or,Bool.and_eq_true,decide_eq_true_eq,Bool.false_eq_true,Bool.not_eq_true'] at hs;exact hpre j hs.1 hs.2
 have fin:∀ (listed:Array Bool) (a:Act) (w:World),Region.ready .any ops listed = []->aTe C E ops ds (quiet ds mu s) tr f σ xo l0 listed a w->Q .normal a w:=by
  intro listed a w hr I
  have all:∀ i,i<ops.size->listed.getD i false=true:=by
   intro i
   induction i using Nat.strongRecOn with
   | _ i ih=>
    intro hi
    by_cases hT:listed.getD i false=true
    ·exact hT
    ·have ho:ops.toList[i]?=some ops[i]:=by simp [hi]
     have:i ∈ Region.ready .any ops listed:=by rw [mem_ready];refine⟨getD_in (by rw [I.size]; exact hi) (by simpa using hT),ops[i],by simp [hi],fun e he hb=>?_⟩;have:=hbk ho e he hb;exact ih e.on this (by omega)
     rw [hr] at this;cases this
  obtain⟨g,hg,G⟩:=I.bY9;refine hQ a w ?_
  have e1:SV (quiet ds mu s) tr σ (fun i=>listed.getD i false) ds.length=SAt tr σ:=by rw [gA (i:=ds.length) hsil ds.length (Nat.le_refl _) fun j hj _=>⟨fun _=>hj,fun _=>all j (by omega)⟩];rw [Nat.min_self,<- hlen,List.take_length]
  rw [e1] at G;refine G.congr fun t=>?_;rw [hg t,aZm (i:=ds.length) ds.length fun j hj _=>⟨fun _=>hj,fun _=>all j (by omega)⟩,Nat.min_self,<- mN hlen ds.length (Nat.le_refl _) t];rw [List.take_length,<- hlen,List.take_length]
 intro fuel
 induction fuel with
 | zero=>
  intro listed a w hf I
  have hr:Region.ready .any ops listed = []:=by apply List.eq_nil_iff_forall_not_mem.2;intro i hi;have h1:=(mem_ready.1 hi).1;obtain⟨_,o,ho,_⟩:=mem_ready.1 hi;have hlt:i<ops.size:=(Array.getElem?_eq_some_iff.1 ho).1;have:i ∈ (List.range ops.size).filter fun i=>!listed.getD i false:=List.mem_filter.2 ⟨List.mem_range.2 hlt,by rw [getD_both h1]; rfl⟩;rw [List.eq_nil_of_length_eq_zero (Nat.le_zero.1 hf)] at this;cases this
  exact⟨hr,fin _ _ _ hr I⟩
 | succ fuel ih=>
  intro listed a w hf I;refine⟨fun hr=>fin _ _ _ hr I,fun i hi=>?_⟩;obtain⟨hun,o,ho,hall⟩:=mem_ready.1 hi;have hlt:i<ops.size:=(Array.getElem?_eq_some_iff.1 ho).1;have hTi:listed.getD i false=false:=getD_both hun;have hol:ops.toList[i]?=some o:=by simpa using ho
  obtain⟨dop,hdop,hmk0⟩:=hdg i o hol
  have hmk:=hmk0 (by
   cases h:l0 i with
   | false=>rfl
   | true=>have:=I.low i h; rw [hTi] at this; cases this)
  let T':Nat->Bool:=fun j=>(listed.setIfInBounds i true).getD j false
  have hT':∀ j,T' j=if i=j then true else listed.getD j false:=by
   intro j
   by_cases h:i=j
   ·subst h;simp only [T',if_pos];have:i<listed.size:=by rw [I.size]; exact hlt
    simp [this]
   ·rw [if_neg h];exact getD_set_ne false h
  have hfew:((List.range ops.size).filter fun j=>!(listed.setIfInBounds i true).getD j false).length<=fuel:=by
   have hlt2:((List.range ops.size).filter fun j=>!(listed.setIfInBounds i true).getD j false).length<((List.range ops.size).filter fun j=>!listed.getD j false).length:=by
    have hsub:((List.range ops.size).filter fun j=>!(listed.setIfInBounds i true).getD j false)= ((List.range ops.size).filter fun j=>!listed.getD j false).filter (fun j=>j != i):=by
     rw [List.filter_filter];refine List.filter_congr fun j _=>?_;have:=hT' j;simp only [T'] at this;rw [this]
     by_cases h:i=j
     ·subst h; simp
     ·have hne:(j != i)= true:=by simpa using fun e=>h e.symm
      simp [h,hne]
    rw [hsub];refine List.length_filter_lt_length_iff_exists.2 ⟨i,?_,by simp⟩;exact List.mem_filter.2 ⟨List.mem_range.2 hlt,by rw [hTi]; rfl⟩
   omega
  by_cases hbad:∃ j,xo j i=true/\listed.getD j false=false
  ·obtain⟨j,hb1,hb2⟩:=hbad;exact hR fuel listed a w i j hfew I hi hb1 hb2
  have rdx:∀ j,xo j i=true->listed.getD j false=true:=fun j hj=>by
   cases h:listed.getD j false with
   | true=>rfl
   | false=>exact absurd ⟨j,hj,h⟩ hbad
  have latex:∀ j,xo i j=true->listed.getD j false=false:=fun j hj=>by
   cases h:listed.getD j false with
   | false=>rfl
   | true=>have:=I.ord i j hj h; rw [hTi] at this; cases this
  have hTlen:∀ j,listed.getD j false=true->j<ops.toList.length:=by
   intro j hj
   rcases Nat.lt_or_ge j listed.size with h | h
   ·simp; rw [<- I.size]; exact h
   ·simp [Array.getElem?_eq_none h] at hj
  have rdy:∀ j,ordered (zG ops.toList []) j i=true->listed.getD j false=true:= aYs (T:=fun j=>listed.getD j false) I.closed hTlen hol hall
  have late:∀ j,ordered (zG ops.toList []) i j=true->listed.getD j false=false:=by
   intro j hj
   by_cases h:listed.getD j false=true
   ·have this:listed.getD i false=true:=tT (T:=fun j=>listed.getD j false) I.closed hTlen j h i hj;rw [hTi] at this;cases this
   ·simpa using h
  obtain⟨g,hg,G⟩:=I.bY9;obtain⟨d,σ',htr,hstep⟩:=ht.at i dop hdop;have hds:∀ j,j<ds.length->ds[j]?=some (ds.getD j dop):=fun j hj=>by simp [List.getD,hj]
  have hopsj:∀ j,j<ds.length->ops.toList[j]?=some (ops.toList.getD j o):=fun j hj=>by
   have:j<ops.toList.length:=by omega
   simp only [List.getD,List.getElem?_eq_getElem this,Option.getD_some]
  have hids:i<ds.length:=by omega
  have hnm:∀ t,t ∈ dop.names->g.get t=(FAt (ds.take i) (tr.take i) f).get t:=by
   intro t htn;rw [hg t,mN hlen i (by omega) t,aZm (i:=i) ds.length,Nat.min_eq_right (by omega)];intro j hj hdj;unfold vK at hdj;rw [hds j hj] at hdj;simp only [Option.bind_some] at hdj
   rcases Nat.lt_trichotomy j i with h | h | h
   ·refine⟨fun _=>h,fun _=>?_⟩
    rcases hsp hol hdop (hds j hj) h with h2 | ⟨h2,_⟩
    ·exact rdy j h2
    ·exact absurd htn ((oN h2).1 t hdj)
   ·subst h;exact⟨(fun h=>by rw [hTi] at h; cases h),fun h=>absurd h (Nat.lt_irrefl _)⟩
   ·refine⟨fun hT=>?_,fun h'=>by omega⟩
    rcases hsp (hopsj j hj) (hds j hj) hdop h with h2 | ⟨h2,_⟩
    ·rw [late j h2] at hT; cases hT
    ·exact absurd htn ((oN h2).2.2 t hdj)
  have hev:∀ x ∈ dop.k.aCt,evO (FAt (ds.take i) (tr.take i) f) x=evO g x:=by
   intro x hx
   cases x with
   | t n=>exact(hnm n (aYt hx)).symm
   | c d=>rfl
  have hgd:∀ d b,dop.guard=some (d,b)->(FAt (ds.take i) (tr.take i) f).get d=g.get d:=fun d b h=>(hnm d (cS h)).symm
  have hloud:∀ j,j<ds.length->wO ds j=false->(ds.getD j dop).k.zE=false:=fun j hj hnj=>by unfold wO at hnj; rw [hds j hj] at hnj; simpa using hnj
  have hloudi:dop.k.zE=wO ds i:=by simp only [wO,hdop,Option.map_some,Option.getD_some]
  have key:yP dop g (opV C (SV (quiet ds mu s) tr σ (fun j=>listed.getD j false) ds.length) (evO g) dop.k fun x y=>x=d/\y=SV (quiet ds mu s) tr σ T' ds.length) (D.und=d/\SV (quiet ds mu s) tr σ (fun j=>listed.getD j false) ds.length=SV (quiet ds mu s) tr σ T' ds.length):=by
   by_cases hq:quiet ds mu s i=true
   ·have e:SV (quiet ds mu s) tr σ T' ds.length=SV (quiet ds mu s) tr σ (fun j=>listed.getD j false) ds.length:=by
     refine aLv _ fun j hj hns=>?_;rw [hT' j]
     by_cases h:i=j
     ·subst h; rw [hq] at hns; cases hns
     ·rw [if_neg h]
    rw [e]
    by_cases hs:dop.k.zE=true
    ·refine tY (oO hgd hstep) (fun h=>?_) (fun h=>⟨h.1.symm,rfl⟩);exact kX hev ((qX hs h).2 _)
    ·have hns:dop.k.zE=false:=by simpa using hs
     have hq2:=hq;rw [quiet,<- hloudi,hns] at hq2;simp only [Bool.false_or,Bool.and_eq_true,decide_eq_true_eq,Bool.not_eq_true'] at hq2;obtain⟨his,him⟩:=hq2
     have hlow:∀ j,j<ds.length->quiet ds mu s j=false->listed.getD j false=true->j<s:=by
      intro j hj hnj hT;obtain⟨h1,h2⟩:=wE.1 hnj
      rcases Nat.lt_or_ge j s with h | h
      ·exact h
      ·rcases hsp (hopsj j hj) (hds j hj) hdop (by omega:i<j) with h3 | ⟨_,h3⟩
       ·rw [late j h3] at hT; cases hT
       ·rcases h3 with h3 | h3 | h3 | h3
        ·omega
        ·rw [hns] at h3; cases h3
        ·rw [hloud j hj h1] at h3; cases h3
        ·rw [latex j h3] at hT; cases hT
     obtain⟨p,hp1,hp2⟩:=aCd (q:=quiet ds mu s) (T:=fun j=>listed.getD j false) ds.length fun j m hjm hm hnj hnm hT=>by
      obtain⟨a1,a2⟩:=wE.1 hnj;obtain⟨b1,b2⟩:=wE.1 hnm
      rcases hsp (hopsj m hm) (hds m hm) (hds j (by omega)) hjm with h3 | ⟨_,h3⟩
      ·exact tT (T:=fun j=>listed.getD j false) I.closed hTlen m hT j h3
      ·rcases h3 with ⟨h3,h4⟩ | h3 | h3 | h3
       ·exact absurd ⟨a2.resolve_right (by omega),b2.resolve_right (by omega)⟩ h4
       ·rw [hloud j (by omega) a1] at h3; cases h3
       ·rw [hloud m hm b1] at h3; cases h3
       ·exact I.ord j m h3 hT
     have hp3:∀ j,j<ds.length->quiet ds mu s j=false->(listed.getD j false=true ↔ j<min p s):=fun j hj hnj=>⟨fun hT=>by have:=(hp2 j hj hnj).1 hT; have:=hlow j hj hnj hT; omega,fun h=>(hp2 j hj hnj).2 (by omega)⟩
     have hdv:tK tr i=d:=by simp [tK,htr]
     rw [gA (i:=min p s) hsil ds.length (Nat.le_refl _) hp3,Nat.min_eq_right (by omega:min p s<=ds.length)]
     have hw:=hswap i dop (min p s) his him (Nat.min_le_right _ _) hdop hns fun m hms hmm=>by
      have hnm:quiet ds mu s m=false:=wE.2 ⟨hmu m hms hmm,.inl hmm⟩
      refine⟨fun h=>?_,fun h=>?_⟩
      ·have hT:=(hp3 m (by omega) hnm).2 h
       cases ho2:ordered (zG ops.toList []) i m with
       | false=>rfl
       | true=>rw [late m ho2] at hT; cases hT
      ·cases ho2:ordered (zG ops.toList []) m i with
       | false=>rfl
       | true=>have:=(hp3 m (by omega) hnm).1 (rdy m ho2); omega
     rw [hdv] at hw;exact tY (oO hgd hw) (fun h=>kX hev h) (fun h=>⟨h,rfl⟩)
   ·have hqf:quiet ds mu s i=false:=by simpa using hq
    have hns:dop.k.zE=false:=by rw [hloudi]; exact(wE.1 hqf).1
    have hcut:∀ j,j<ds.length->quiet ds mu s j=false->j≠i->(listed.getD j false=true ↔ j<i):=by
     intro j hj hnj hne;obtain⟨h1,h2⟩:=wE.1 hnj;have hi2:=(wE.1 hqf).2;have hnj':=hloud j hj h1
     rcases Nat.lt_or_ge j i with h | h
     ·refine⟨fun _=>h,fun _=>?_⟩
      rcases hsp hol hdop (hds j hj) h with h3 | ⟨_,h3⟩
      ·exact rdy j h3
      ·rcases h3 with ⟨h3,h4⟩ | h3 | h3 | h3
       ·exact absurd ⟨h2.resolve_right (by omega),hi2.resolve_right (by omega)⟩ h4
       ·rw [hnj'] at h3; cases h3
       ·rw [hns] at h3; cases h3
       ·exact rdx j h3
     ·refine⟨fun hT=>?_,fun h'=>by omega⟩
      rcases hsp (hopsj j hj) (hds j hj) hdop (by omega:i<j) with h3 | ⟨_,h3⟩
      ·rw [late j h3] at hT; cases hT
      ·rcases h3 with ⟨h3,h4⟩ | h3 | h3 | h3
       ·exact absurd ⟨hi2.resolve_right (by omega),h2.resolve_right (by omega)⟩ h4
       ·rw [hns] at h3; cases h3
       ·rw [hnj'] at h3; cases h3
       ·rw [latex j h3] at hT; cases hT
    have hsame:SV (quiet ds mu s) tr σ (fun j=>listed.getD j false) ds.length=SAt (tr.take i) σ/\SV (quiet ds mu s) tr σ T' ds.length=SAt (tr.take (i+1)) σ:=by
     constructor
     ·rw [gA (i:=i) hsil ds.length (Nat.le_refl _) fun j hj hnj=>?_,Nat.min_eq_right (by omega)]
      by_cases h:j=i
      ·subst h; exact⟨(fun h=>by rw [hTi] at h; cases h),fun h=>absurd h (Nat.lt_irrefl _)⟩
      ·exact hcut j hj hnj h
     ·rw [gA (i:=i+1) hsil ds.length (Nat.le_refl _) fun j hj hnj=>?_,Nat.min_eq_right (by omega)];rw [hT' j]
      by_cases h:i=j
      ·subst h; simp
      ·rw [if_neg h,hcut j hj hnj (fun e=>h e.symm)];omega
    rw [hsame.1,hsame.2,gN tr σ i _ htr];exact tY (oO hgd hstep) (fun h=>kX hev h) (fun h=>⟨h.1.symm,h.2.symm⟩)
  have :=eT (next:=wpAnyIn C.F 0 C.P .any ops Q fuel (listed.setIfInBounds i true)) (Q:=Q) (K:=fun x y=>x=d/\y=SV (quiet ds mu s) tr σ T' ds.length) hmk G (tY key (fun h=>h) (fun h=>h)) (fun a' w' d' σ2 G' hk=>by
   obtain⟨rfl,rfl⟩:=hk
   refine ih _ _ _ hfew ⟨by simp [I.size],fun j m hx hT=>?_,fun j hj=>getD_set_true (I.low j hj),fun j oj hj hT e he hb=>?_,g.put dop.dst d',fun t=>?_,G'⟩
   ·have hT2:=hT' m;simp only [T'] at hT2;rw [hT2] at hT
    by_cases h:i=m
    ·subst h; exact getD_set_true (rdx j hx)
    ·rw [if_neg h] at hT; exact getD_set_true (I.ord j m hx hT)
   ·by_cases h:i=j
    ·subst h;rw [hol] at hj;simp at hj; subst hj;exact getD_set_true (hall e he hb)
    ·rw [getD_set_ne false h] at hT;exact getD_set_true (I.closed j oj hj hT e he hb)
   ·show (g.put dop.dst d').get t=LV ds tr f T' ds.length t;have hdi:vK ds i=dop.dst:=by simp [vK,hdop]
    by_cases hdt:dop.dst=some t
    ·rw [hdt,Fr.jO,if_pos rfl]
     rw [mM (i:=i) (by rw [hT' i]; simp) (by rw [hdi]; exact hdt) ds.length hids]
     ·simp [tK,htr]
     ·intro j hij hj hdj;rw [hT' j,if_neg (by omega)];unfold vK at hdj;rw [hds j hj] at hdj;simp only [Option.bind_some] at hdj
      rcases hsp (hopsj j hj) (hds j hj) hdop hij with h2 | ⟨h2,_⟩
      ·exact late j h2
      ·exact absurd hdj ((oN h2).2.1 t hdt)
    ·have e1:(g.put dop.dst d').get t=g.get t:=by
      cases hdd:dop.dst with
      | none=>rfl
      | some u=> rw [Fr.jO,if_neg];intro e; subst e; exact hdt hdd
     rw [e1,hg t];refine(aLx _ fun j hj hdj=>?_).symm;rw [hT' j]
     by_cases h:i=j
     ·subst h; rw [hdi] at hdj; exact absurd hdj hdt
     ·rw [if_neg h])
  unfold wpOpIn;simp only [ho];exact this
theorem nO {id:Nat} {a:Act} {w:World} (hm:C.P.follows .mixedOrders=true) {mu:Nat->Bool} (hd:tD (aE C.P C.N C.own ops) ops.toList=some ds) (hok:aZj ops.toList ds s mu=true) (ht:Trace C ds f σ tr) (hlen:tr.length=ds.length) (hsl:s<=ds.length)
  (hmu:∀ m,m<s->mu m=true->wO ds m=false)
  (hpre:∀ i,i<s->mu i=false->SAt (tr.take (i+1)) σ=SAt (tr.take i) σ)
  (hswap:∀ i dop p,i<s->mu i=false->p<=s->ds[i]?=some dop->dop.k.zE=false->(∀ m,m<s->mu m=true->(m<p->ordered (zG ops.toList []) i m=false)/\ (p<=m->ordered (zG ops.toList []) m i=false)) ->
   yP dop (FAt (ds.take i) (tr.take i) f) (opV C (SAt (tr.take p) σ) (evO (FAt (ds.take i) (tr.take i) f)) dop.k fun x y=>x=tK tr i/\y=SAt (tr.take p) σ) (.und=tK tr i))
  (hQ:∀ a w,Good C E a w (FAt ds tr f) (SAt tr σ)->Q .normal a w) (G:Good C E a w f σ):(Code.region id ops true).wpIn C.F 0 C.P Q a w:=by
 have G':Good C E a { w with drawn:=w.drawn+1 } f σ:=by obtain⟨ι,G⟩:=G;have hk:Kept w w.drew fun _=>False:=(Kept.refl _ _).drew;have hS:=G.sim.ext hk;exact⟨ι,⟨G.size,G.defers.zI rfl (Nat.le_refl _) fun D hD=>hD,G.nx,G.kept.drew,hS,G.old,G.nG,G.stay,G.fr.zI (fun b hb _=>rfl) (fun _ _ h=>h) hk.shape (fun _ _=>rfl) (Nat.le_refl _)⟩⟩
 have hf0:∀ j,(Array.replicate ops.size false).getD j false=false:=getD_replicate_false ops.size;obtain⟨hdl,hdg⟩:=wS hd
 refine wpIn_region_any hm (aYh (xo:=fun _ _=>false) (l0:=fun _=>false) hdl (fun i o h=>by obtain⟨dop,h1,h2⟩:=hdg i o h; exact⟨dop,h1,fun _=>h2⟩) (cZ hok) (cW hok) (fun _ _ h=>by cases h) ht hlen hsl hmu hpre hswap hQ (fun _ _ _ _ _ _ _ _ _ h=>by cases h) _ _ _ _ ?_ ⟨by simp,(fun _ _ h=>by cases h),(fun _ h=>by cases h),(fun j o _ hT=>by rw [hf0] at hT; cases hT),f,fun t=>?_,?_⟩)
 ·exact Nat.le_trans (List.length_filter_le _ _) (by simp)
 ·rw [aZm (i:=0) ds.length fun j _ _=>⟨(fun h=>by rw [hf0] at h; cases h),fun h=>by omega⟩];simp [LV]
 ·have:SV (quiet ds mu s) tr σ (fun i=>(Array.replicate ops.size false).getD i false) ds.length=σ:=by refine(aMa (k:=0) _ fun j _ _ (hT:(Array.replicate ops.size false).getD j false=true)=>by rw [hf0] at hT; cases hT).trans (if_neg fun h=>?_);have h2:(Array.replicate ops.size false).getD 0 false=true:=h.2.1;rw [hf0] at h2; cases h2
  rw [this];exact G'
end
end Go.Pd
namespace Go.Pd
open Go
variable [sC]
def LQ (C:Cx) (E:Env) (Q:Exit->Fr->St->Prop) (e:Exit) (a:Act) (w:World):Prop:=∃ f σ,Good C E a w f σ/\Q e f σ
section aD
variable {C : Cx} {E : Env} {a : Act} {w : World} {f : Fr} {σ : St} {ι : Nat -> Nat}
theorem R.aLs {M:Nat->Prop} {n:Nat} {v:Value} {b:Nat} (h:R M w ι n v (.adr b)):v = .pointer (some ⟨b,0,none⟩):=by cases h with | pure h=>cases h; rfl
theorem vQ.less {M0 M1:Nat->Prop} (h:vQ M1 w σ ι) (hM:∀ b,M0 b->M1 b):vQ M0 w σ ι:=
 have hm:∀ b,Mof M0 ι σ b->Mof M1 ι σ b:=fun b hb=>hb.imp (hM b) id
 ⟨fun b hb=>h.old b (hM b hb),fun k o hk=>⟨(h.holds k o hk).1,(h.holds k o hk).2.zI rfl rfl (fun _ _ _=>rfl) (fun b _ hb=>hm b hb) (fun b cur e hc=>⟨cur,hc,rfl⟩) (fun _ _=>rfl) (Nat.le_refl _)⟩,h.inj,fun k o hk hb=>h.notM k o hk (hM _ hb),h.kB.zI (Nat.le_refl _) (fun _ _ _=>rfl) fun b _ hb=>hm b hb⟩
theorem vQ.bTj {M0 K:Nat->Prop} {w':World} (h:vQ M0 w σ ι) (hk:Kept w w' K) (hK:∀ b,K b->M0 b):vQ M0 w' σ ι:=
 have hb:∀ b,b<w.heap.size->¬ Mof M0 ι σ b->w'.heap[b]?=w.heap[b]?:=fun b hb hn=>hk.block b hb fun h=>hn (.inl (hK b h))
 ⟨fun b hb=>Nat.lt_of_lt_of_le (h.old b hb) hk.size,
  fun k o hko=>⟨(h.holds k o hko).1,(h.holds k o hko).2.zI (hk.block _ (Own.lt h ⟨k,o,hko,rfl⟩) fun hx=>h.notM k o hko (hK _ hx)) rfl hb (fun _ _ h=>h) hk.shape (fun _ _=>rfl) (Nat.le_refl _)⟩,
  h.inj,h.notM,h.kB.zI hk.size hb (fun _ _ h=>h)⟩
theorem vQ.bTi {M0:Nat->Prop} (h:vQ M0 w σ ι) (o:Obj):vQ (fun b=>M0 b\/b=w.heap.size) (w.alloc o) σ ι:=
 have hk:=Kept.alloc w o fun _=>False;have hs:(w.alloc o).heap.size=w.heap.size+1:=by show (w.heap.push o).size=_; simp
 have hm:∀ b,b<w.heap.size->Mof (fun b=>M0 b\/b=w.heap.size) ι σ b->Mof M0 ι σ b:=fun b hb hx=>by
  rcases hx with (hx | hx) | hx
  ·exact .inl hx
  ·omega
  ·exact .inr hx
 ⟨fun b hb=>by
         rcases hb with hb | hb
         ·have:=h.old b hb; omega
         ·omega,
  fun k o' hko=>⟨(h.holds k o' hko).1,(h.holds k o' hko).2.zI (hk.block _ (Own.lt h ⟨k,o',hko,rfl⟩) id) rfl (fun b hb _=>hk.block b hb id) hm hk.shape (fun _ _=>rfl) (Nat.le_refl _)⟩,
  h.inj,fun k o' hko hb=>by
   rcases hb with hb | hb
   ·exact h.notM k o' hko hb
   ·have:=Own.lt h ⟨k,o',hko,rfl⟩; omega,
  h.kB.zI hk.size (fun b hb _=>hk.block b hb id) hm⟩
theorem yN.enter {key:Nat} (G:yN C E a w f σ ι) (hkey:key<σ.nx) (o:Obj) :
  yN { C with n0:=max C.n0 (key+1) } ⟨w.alloc o,fun b=>E.M0 b\/b=w.heap.size,fun b=>Own ι σ b\/b=w.heap.size,ι,E.B⟩ a (w.alloc o) f σ ι:=by
 have hk:=Kept.alloc w o fun _=>False;have hS:=G.sim.bTi o
 refine⟨G.size,G.defers.zI rfl hk.size (fun D hD=>hk.mark id hD),?_,Kept.refl _ _,hS,hS.old,fun k o hk=>.inr (.inl ⟨k,o,hk,rfl⟩),fun _ _=>rfl,fun t=>(G.fr t).zI (fun b hb _=>hk.block b hb id) (fun b hb hx=>?_) hk.shape (fun _ _=>rfl) (Nat.le_refl _)⟩
 ·have:=G.nx;show max C.n0 (key+1)<=σ.nx;omega
 ·rcases hx with (hx | hx) | hx
  ·exact .inl hx
  ·omega
  ·exact .inr hx
theorem yN.leave {key:Nat} {a0:Act} {w0:World} {f0:Fr} {σ0:St} {ι0:Nat->Nat} {q0:Obj} (G0:yN C E a0 w0 f0 σ0 ι0)
  (G:yN { C with n0:=max C.n0 (key+1) } ⟨w0.alloc q0,fun b=>E.M0 b\/b=w0.heap.size,fun b=>Own ι0 σ0 b\/b=w0.heap.size,ι0,E.B⟩ a w f σ ι):yN C E a w f σ ι:=by
 have hsz:E.w0.heap.size<=w0.heap.size:=G0.kept.size
 have hown:∀ b,Own ι0 σ0 b->E.w0.heap.size<=b\/E.K0 b:=by rintro b ⟨k,o,hk,rfl⟩;exact G0.nG k o hk
 have h1:Kept w0 (w0.alloc q0) fun _=>False:=Kept.alloc w0 q0 _;have hs1:(w0.alloc q0).heap.size=w0.heap.size+1:=by show (w0.heap.push q0).size=_; simp
 have hnx:max C.n0 (key+1)<=σ.nx:=G.nx
 refine⟨G.size,G.defers,by omega,?_,G.sim.less fun b hb=>.inl hb,G0.old,fun k o hk=>?_,fun k hk=>?_,fun t=>(G.fr t).zI (fun _ _ _=>rfl) (fun b _ hb=>hb.imp .inl id) (fun b cur e h=>⟨cur,h,rfl⟩) (fun _ _=>rfl) (Nat.le_refl _)⟩
 ·refine G0.kept.trans (h1.trans G.kept (K'':=fun b=>Own ι0 σ0 b\/b=w0.heap.size) (fun _ _ h=>h.elim) fun _ _ h=>h) (fun _ _ h=>h) fun b hb hx=>?_
  rcases hx with hx | hx
  ·rcases hown b hx with h | h
   ·omega
   ·exact h
  ·omega
 ·rcases G.nG k o hk with h | h | h
  ·have h':(w0.alloc q0).heap.size<=ι k:=h;left; omega
  ·exact hown _ h
  ·left; rw [h]; exact hsz
 ·have:=G.stay k (show k<max C.n0 (key+1) by omega);exact this.trans (G0.stay k hk)
theorem yN.tick {b0:Nat} {w':World} (G:yN C E a w f σ ι) (hk:Kept w w' fun b=>b=b0) (hM:E.M0 b0) (hK:E.K0 b0) (hd:∀ x,w.heap[b0]?≠some (Obj.deferred x)):yN C E a w' f σ ι:=
 ⟨G.size,G.defers.zI rfl hk.size (fun D hD=>hk.mark (fun e=>hd _ (e ▸ hD)) hD),G.nx,G.kept.trans hk (fun _ _ h=>h) fun b _ hb=>by rw [hb]; exact hK,G.sim.bTj hk fun b hb=>by rw [hb]; exact hM,G.old,G.nG,G.stay,
  fun t=>(G.fr t).zI (fun b hb hn=>hk.block b hb fun hx=>hn (.inl (by rw [hx]; exact hM))) (fun _ _ h=>h) hk.shape (fun _ _=>rfl) (Nat.le_refl _)⟩
theorem yN.open_ (G:yN C E a w f σ ι):yN C ⟨w,E.M0,Own ι σ,E.ι0,E.B⟩ a w f σ ι:=⟨G.size,G.defers,G.nx,Kept.refl _ _,G.sim,G.sim.old,fun k o hk=>.inr ⟨k,o,hk,rfl⟩,G.stay,G.fr⟩
theorem yN.close_ {a':Act} {w':World} {f':Fr} {σ':St} {ι':Nat->Nat} (G:yN C E a w f σ ι) (G':yN C ⟨w,E.M0,Own ι σ,E.ι0,E.B⟩ a' w' f' σ' ι'):yN C E a' w' f' σ' ι':=by
 have hown:∀ b,Own ι σ b->E.w0.heap.size<=b\/E.K0 b:=by rintro b ⟨k,o,hk,rfl⟩;exact G.nG k o hk
 refine⟨G'.size,G'.defers,G'.nx,G.kept.trans G'.kept (fun _ _ h=>h) fun b hb hx=>?_,G'.sim,G.old,fun k o hk=>?_,G'.stay,G'.fr⟩
 ·rcases hown b hx with h | h
  ·omega
  ·exact h
 ·rcases G'.nG k o hk with h | h
  ·exact .inl (Nat.le_trans G.kept.size h)
  ·exact hown _ h
theorem yN.set {dst:Option Nat} {v:Value} {d:D} (G:yN C E a w f σ ι) (hr:R (Mof E.M0 ι σ) w ι σ.nx v d) (hd:∀ t,dst=some t->t<C.N):yN C E (a.put dst v) w (f.put dst d) σ ι:= G.step (Kept.refl _ _) G.sim (Nat.le_refl _) (fun _ _=>rfl) (fun k o hk=>.inr ⟨k,o,hk,rfl⟩) hr hd
theorem aYv {b:Nat} {o o':Obj} (h:w.heap[b]?=some o) (hn:∀ cur e,o≠Obj.cells cur e (0,0)):Kept w (ChangeMaps.setBlock w b o') fun x=>x=b:=by
 refine⟨rfl,rfl,rfl,by simp [ChangeMaps.setBlock],fun x _ hx=>?_,fun x cur e hx=>⟨cur,?_,rfl⟩,Nat.le_refl _⟩
 ·simp only [ChangeMaps.setBlock,Array.getElem?_setIfInBounds];rw [if_neg (fun e=>hx e.symm)]
 ·have hne:b≠x:=fun e'=>by subst e';rw [h] at hx;exact hn cur e (Option.some.inj hx)
  simp only [ChangeMaps.setBlock,Array.getElem?_setIfInBounds];rw [if_neg hne]; exact hx
theorem aTp {b:Nat} {o':Obj} (h:b<w.heap.size):(ChangeMaps.setBlock w b o').heap[b]?=some o':=by simp [ChangeMaps.setBlock,Array.getElem?_setIfInBounds,h]
theorem qD : ∀ (n:Nat) (l:List Nat),l.Nodup->(∀ x ∈ l,x<n)->l.length<=n
 | 0,[],_,_=>Nat.le_refl _
 | 0,x :: l,_,h=>by have:=h x (by simp); omega
 | n + 1,l,hn,h=>by
  have h1:=qD n (l.filter fun x=>x != n) (hn.filter _) fun x hx=>by
   rw [List.mem_filter] at hx;have:=h x hx.1;have:x≠n:=by simpa using hx.2
   omega
  have h2:l.length<=(l.filter fun x=>x != n).length+1:=by
   clear h1 h
   induction l with
   | nil=>simp
   | cons y l ih=>
    rw [List.nodup_cons] at hn
    by_cases e:y=n
    ·subst e
     have:l.filter (fun x=>x != y)= l:=List.filter_eq_self.2 fun x hx=>by have:x≠y:=fun e=>hn.1 (e ▸ hx);simpa using this
     simp [this]
    ·have:=ih hn.2;rw [List.filter_cons_of_pos (by simpa using e)];simp only [List.length_cons]; omega
  omega
theorem aSa {n:Nat} {l:List Nat} (hn:l.Nodup) (h:∀ x ∈ l,x<n) (hall:∀ i,i<n->i ∈ l):l.length=n:=by
 have h1:=qD n l hn h
 have h2:∀ (n:Nat) (l:List Nat),(∀ i,i<n->i ∈ l)->n<=l.length:=by
  intro n
  induction n with
  | zero=>intro l _; omega
  | succ n ih=> intro l hl;have h1:=ih (l.filter fun x=>x != n) fun i hi=>List.mem_filter.2 ⟨hl i (by omega),by simp; omega⟩;have h2:(l.filter fun x=>x != n).length<l.length:=List.length_filter_lt_length_iff_exists.2 ⟨n,hl n (by omega),by simp⟩;omega
 have:=h2 n l hall;omega
end aD
theorem uF {P:Program} {N:Nat} {own:List Nat} {ops:Array Oper} {d:DC} (h:aC P N own ops=some d):∃ l o t x it m pre,ops.toList=l ++ [o]/\o.op = .range t x/\o.dst=some it/\o.guard=none/\xE N x=some m /\
  tD (aE P N own ops) l=some pre/\(∃ kt et,P.underlying t=some (.map kt et))/\ it<N/\d = .rng pre it m:=by
 unfold aC at h;split at h
 case h_2=>cases h
 rename_i o ho;obtain⟨l,hl⟩:=List.getLast?_eq_some_iff.1 ho;split at h
 case h_2=>cases h
 rename_i t x it h1 h2 h3;simp only [Option.bind_eq_bind,Option.bind_eq_some_iff] at h;obtain⟨m,hm,pre,hp,h⟩:=h;split at h
 case isFalse=>cases h
 rename_i hc;cases h;rw [hl,List.dropLast_concat] at hp;refine⟨l,o,t,x,it,m,pre,hl,h1,h2,h3,hm,hp,?_,hc.2,rfl⟩;have h4:=hc.1;unfold aD6 at h4
 split at h4
 ·rename_i kt et h5; exact⟨kt,et,h5⟩
 ·cases h4
theorem oV {N:Nat} {ops:Array Oper} {d:DC} (h:aQ3 N ops=some d):∃ o2 o3 it nx more,ops.toList = [o2,o3]/\o2.op = .next (.tmp it) false/\o2.dst=some nx/\o2.guard=none/\o3.op = .extract (.tmp nx) 0/\o3.dst=some more/\o3.guard=none /\
  nx<N/\more<N/\d = .nxt it nx more:=by
 unfold aQ3 at h;split at h
 case h_2=>cases h
 rename_i o2 o3 ho;split at h
 case h_2=>cases h
 rename_i it nx nx' more h1 h2 h3 h4 h5 h6;split at h
 case isFalse=>cases h
 rename_i hc;obtain⟨rfl,hc1,hc2⟩:=hc;cases h;exact⟨o2,o3,it,_,more,ho,h1,h2,h3,h4,h5,h6,hc1,hc2,rfl⟩
theorem oU {P:Program} {N:Nat} {own:List Nat} {ops:Array Oper} {d:DC} (h:aQ4 P N own ops=some d):∃ o l it pair rest,ops.toList=o :: l/\o.op = .entry (.tmp it)/\ o.dst=some pair/\o.guard=none/\tD (aE P N own ops) l=some rest/\pair<N/\d = .ent it pair rest:=by
 unfold aQ4 at h;split at h
 case h_2=>cases h
 rename_i o l ho;split at h
 case h_2=>cases h
 rename_i it pair h1 h2 h3;simp only [Option.bind_eq_bind,Option.bind_eq_some_iff] at h;obtain⟨rest,hr,h⟩:=h;split at h
 case isFalse=>cases h
 rename_i hc;cases h;exact⟨o,l,it,pair,rest,ho,h1,h2,h3,hr,hc,rfl⟩
def aC8 (ops:Array Oper):Prop:=(ops.toList.dropLast.all fun o=>aUb o&&o.guard.isNone)= true/\Region.lexTailB .any ops (ops.size-1)= true
theorem nT {P:Program} {N:Nat} {own:List Nat} {ops:Array Oper} {draw:Bool} {d:DC} (h:aZf P N own ops draw=some d):(draw=false/\(aC P N own ops=some d\/aQ3 N ops=some d\/aQ4 P N own ops=some d))\/(draw=true/\aC P N own ops=some d/\aC8 ops):=by
 unfold aZf at h;cases draw
 case true=>
  simp only [if_true] at h
  split at h
  ·rename_i hc;rw [Bool.and_eq_true] at hc;exact .inr ⟨rfl,h,hc.1,hc.2⟩
  ·cases h
 simp only [Bool.false_eq_true,if_false] at h;refine .inl ⟨rfl,?_⟩
 split at h
 ·rename_i d' hd; cases h; exact .inl hd
 ·split at h
  ·rename_i d' hd; cases h; exact .inr (.inl hd)
  ·exact .inr (.inr h)
theorem zK (x y:DC):bVj x y = .seq x y\/∃ pre it m out nx more next pair rest code,x = .rng pre it m/\y = .block out (.loop (.seq (.nxt it nx more) (.seq (.cond (.t more) .skip (.exit out)) (.block next (.seq (.ent it pair rest) code)))))/\
  bVj x y = .aD pre it m out nx more next pair rest code/\it≠nx/\it≠more/\it≠pair:=by
 unfold bVj
 split
 ·split
  ·rename_i hc;obtain⟨rfl,rfl,rfl,rfl,h1,h2,h3⟩:=hc;exact .inr ⟨_,_,_,_,_,_,_,_,_,_,rfl,rfl,rfl,h1,h2,h3⟩
  ·exact .inl rfl
 ·exact .inl rfl
def bUv : DC->Bool
 | .reg .. | .aIx .. | .aDh .. | .aV0 .. | .aSd ..=>true
 | _=>false
theorem tX {own:List Nat} {o:DOp} (h:zF own o=true):o.guard=none:=by
 unfold zF at h
 split at h
 ·rename_i hg; exact hg
 ·cases h
structure aMb (own : List Nat) (l : List DOp) (pre : List DOp) (o : DOp) (mid : List DOp) : Prop where
 eq:l=pre++o :: mid
 d1:vU pre=true
 d2:vU mid=true
 n1:∀ x ∈ pre,zF own x=false
 n2:zF own o=true
 n3:∀ x ∈ mid,zF own x=false
 bY8:o.k.zE=false
theorem qC {own:List Nat} {ops:List Oper} {l:List DOp} {s:Nat} {dc:DC} (h:aC2 own ops l s=some dc) :
  (dc = .reg (l.take s) (l.drop s)/\ ∀ x ∈ l.take s,zF own x=false) \/
  (∃ (pre:List DOp) (o:DOp) (mid:List DOp) (un:Bool),aMb own (l.take s) pre o mid/\dc = .aIx pre o mid un (l.drop s)/\ (un=false->uK (zG ops []) pre.length mid (pre.length+1)= true)) \/
  (∃ (pre:List DOp) (o:DOp) (mid1:List DOp) (o2:DOp) (mid2:List DOp),aMb own (mid1++o2 :: mid2) mid1 o2 mid2/\l.take s=pre++o :: (mid1++o2 :: mid2)/\ vU pre=true/\(∀ x ∈ pre,zF own x=false)/\ zF own o=true/\o.k.zE=false /\
   dc = .aDh pre o mid1 o2 mid2 (l.drop s)/\ uK (zG ops []) pre.length mid1 (pre.length+1)= true/\uK (zG ops []) (pre.length+1+mid1.length) mid2 (pre.length+1+mid1.length+1)= true):=by
 have split:∀ (h:List DOp) (m:Nat),h.findIdx? (zF own)= some m->∃ o,h[m]?=some o/\h=h.take m++o :: h.drop (m+1)/\ zF own o=true/\(∀ x ∈ h.take m,zF own x=false)/\ (h.take m).length=m:=by
  intro h m hi;obtain⟨hlt,hp,hb⟩:=List.findIdx?_eq_some_iff_getElem.1 hi
  refine⟨h[m],List.getElem?_eq_getElem hlt,?_,hp,fun x hx=>?_,by rw [List.length_take]; omega⟩
  ·conv=>lhs; rw [<- List.take_append_drop m h,List.drop_eq_getElem_cons hlt]
  ·obtain⟨i,hi,rfl⟩:=List.getElem_of_mem hx;rw [List.length_take] at hi;have:=hb i (by omega);simpa using this
 have none_:∀ h:List DOp,h.findIdx? (zF own)= none->∀ x ∈ h,zF own x=false:=fun h hi x hx=>by have:=List.findIdx?_eq_none_iff.1 hi x hx;simpa using this
 unfold aC2 at h;dsimp only at h
 cases hi:(l.take s).findIdx? (zF own) with
 | none=> rw [hi] at h;simp only [Option.some.injEq] at h;exact .inl ⟨h.symm,none_ _ hi⟩
 | some m=>
  rw [hi] at h;obtain⟨o,h1,h2,h3,h4,h5⟩:=split _ _ hi;simp only [h1] at h;generalize l.take s=hd at h h1 h2 h4 h5 hi
  cases hj:(hd.drop (m+1)).findIdx? (zF own) with
  | none=>
   rw [hj] at h;simp only at h
   split at h
   ·rename_i hc;simp only [Bool.and_eq_true,Bool.not_eq_true'] at hc;refine .inr (.inl ⟨_,o,_,_,⟨h2,hc.1.1,hc.1.2,h4,h3,none_ _ hj,hc.2⟩,(Option.some.inj h).symm,fun e=>?_⟩);rw [h5]; simpa using e
   ·cases h
  | some n=>
   rw [hj] at h;obtain⟨o2,g1,g2,g3,g4,g5⟩:=split _ _ hj;simp only [g1] at h;generalize hd.drop (m+1)= r at h h2 g1 g2 g4 g5 hj
   split at h
   ·rename_i hc;simp only [Bool.and_eq_true,Bool.not_eq_true',Option.isNone_iff_eq_none] at hc
    refine .inr (.inr ⟨hd.take m,o,r.take n,o2,r.drop (n+1),⟨rfl,hc.1.1.2.1.2,hc.1.1.2.2,g4,g3,none_ _ hc.1.1.1,hc.1.2.2⟩,?_,hc.1.1.2.1.1,h4,h3,hc.1.2.1,(Option.some.inj h).symm,?_,?_⟩)
    ·rw [<- g2]; exact h2
    ·rw [h5]; exact hc.2.1
    ·rw [h5,g5]; exact hc.2.2
   ·cases h
structure bTl (own : List Nat) (ops : List Oper) (l : List DOp) (s : Nat) (pre : List DOp) (o : DOp) (mid : List DOp) (un : Bool) (fl : List Bool) : Prop where
 one:aMb own (l.take s) pre o mid
 wait:un=false->uK (zG ops []) pre.length mid (pre.length+1)= true
 fl:∀ i,fl.getD i false=true->ordered (zG ops []) i pre.length=true
theorem nV {own:List Nat} {ops:List Oper} {l:List DOp} {s:Nat} {dc:DC} (h:aSp own ops l s=some dc) :
  ∃ (pre:List DOp) (o:DOp) (mid:List DOp) (un:Bool) (post:List DOp) (fl:List Bool),dc = .aSd pre o mid un post fl/\post=l.drop s/\bTl own ops l s pre o mid un fl:=by
 unfold aSp at h;dsimp only at h
 cases hi:(l.take s).findIdx? (zF own) with
 | none=>rw [hi] at h; cases h
 | some m=>
  rw [hi] at h;obtain⟨hlt,hp,hb⟩:=List.findIdx?_eq_some_iff_getElem.1 hi;have h1:(l.take s)[m]?=some ((l.take s)[m]):=List.getElem?_eq_getElem hlt;simp only [h1] at h
  split at h
  ·rename_i hc;simp only [Bool.and_eq_true,Bool.not_eq_true',Option.isNone_iff_eq_none] at hc;obtain⟨⟨⟨⟨_,c1⟩,c2⟩,c3⟩,c4⟩:=hc;have hlen:((l.take s).take m).length=m:=by rw [List.length_take]; omega
   refine⟨_,_,_,_,_,_,(Option.some.inj h).symm,rfl,⟨?_,c2,c3,fun x hx=>?_,hp,fun x hx=>?_,c4⟩,fun e=>?_,fun i hi2=>?_⟩
   ·conv=>lhs; rw [<- List.take_append_drop m (l.take s),List.drop_eq_getElem_cons hlt]
   ·obtain⟨i,hi,rfl⟩:=List.getElem_of_mem hx;rw [List.length_take] at hi;have:=hb i (by omega);simpa using this
   ·have:=List.findIdx?_eq_none_iff.1 c1 x hx;simpa using this
   ·rw [hlen]; simpa using e
   ·rw [hlen]
    by_cases hm:i<m
    ·simpa [List.getD,hm] using hi2
    ·simp [List.getD,hm] at hi2
  ·cases h
structure bTm (own : List Nat) (ops : List Oper) (l : List DOp) (s : Nat) (pre : List DOp) (o : DOp) (mid1 : List DOp) (o2 : DOp) (mid2 : List DOp) (free : List Nat) : Prop where
 eq:l.take s=pre++o :: (mid1++o2 :: mid2)
 bR9:vU (l.take s)= true
 nodup:(l.filterMap (·.dst)).Nodup
 n1:∀ x ∈ pre,zF own x=false
 n2:zF own o=true
 n3:∀ x ∈ mid1,zF own x=false
 n4:zF own o2=true
 n5:∀ x ∈ mid2,zF own x=false
 bY8:o.k.zE=false
 alloc:aXl o2.k=true
 ok:fQ ops l s (mC own l) (fun i j=>i==pre.length&&j==pre.length+1+mid1.length)= true
 fr:free=aC5 (zG ops []) pre.length (pre.length+1+mid1.length) l
theorem nU {own:List Nat} {ops:List Oper} {l:List DOp} {s:Nat} {dc:DC} (h:aN2 own ops l s=some dc) :
  ∃ (pre:List DOp) (o:DOp) (mid1:List DOp) (o2:DOp) (mid2 post:List DOp) (free:List Nat),dc = .aV0 pre o mid1 o2 mid2 post free/\post=l.drop s/\bTm own ops l s pre o mid1 o2 mid2 free:=by
 have split:∀ (h:List DOp) (m:Nat),h.findIdx? (zF own)= some m->∃ o,h[m]?=some o/\h=h.take m++o :: h.drop (m+1)/\ zF own o=true/\(∀ x ∈ h.take m,zF own x=false)/\ (h.take m).length=m:=by
  intro h m hi;obtain⟨hlt,hp,hb⟩:=List.findIdx?_eq_some_iff_getElem.1 hi
  refine⟨h[m],List.getElem?_eq_getElem hlt,?_,hp,fun x hx=>?_,by rw [List.length_take]; omega⟩
  ·conv=>lhs; rw [<- List.take_append_drop m h,List.drop_eq_getElem_cons hlt]
  ·obtain⟨i,hi,rfl⟩:=List.getElem_of_mem hx;rw [List.length_take] at hi;have:=hb i (by omega);simpa using this
 have none_:∀ h:List DOp,h.findIdx? (zF own)= none->∀ x ∈ h,zF own x=false:=fun h hi x hx=>by have:=List.findIdx?_eq_none_iff.1 hi x hx;simpa using this
 unfold aN2 at h;dsimp only at h
 cases hi:(l.take s).findIdx? (zF own) with
 | none=>rw [hi] at h; cases h
 | some m=>
  rw [hi] at h;obtain⟨o,h1,h2,h3,h4,h5⟩:=split _ _ hi;simp only [h1] at h
  cases hj:((l.take s).drop (m+1)).findIdx? (zF own) with
  | none=>rw [hj] at h; cases h
  | some n=>
   rw [hj] at h;obtain⟨o2,g1,g2,g3,g4,g5⟩:=split _ _ hj;simp only [g1] at h
   split at h
   ·rename_i hc;simp only [Bool.and_eq_true,Bool.not_eq_true',Option.isNone_iff_eq_none,decide_eq_true_eq] at hc;obtain⟨⟨⟨⟨c1,c2⟩,c3⟩,c4,c5⟩,c6⟩:=hc
    refine⟨_,o,_,o2,_,_,_,(Option.some.inj h).symm,rfl,⟨?_,c2,c3,h4,h3,g4,g3,none_ _ c1,c4,c5,?_,?_⟩⟩
    ·conv=>lhs; rw [h2,g2]
    ·rw [h5,g5]; exact c6
    ·rw [h5,g5]
   ·cases h
theorem wM {P:Program} {N:Nat} {own:List Nat} {id:Nat} {ops:Array Oper} {draw:Bool} {dc:DC} (h:mkC P N own (.region id ops draw)= some dc):(∃ _ _:Unit,bUv dc=true)\/(draw=false /\
  ((aC P N own ops=some dc/\∃ pre it m,dc = .rng pre it m)\/(aQ3 N ops=some dc/\∃ it nx more,dc = .nxt it nx more)\/(aQ4 P N own ops=some dc/\∃ it pair rest,dc = .ent it pair rest)))\/(draw=true/\aC P N own ops=some dc/\(∃ pre it m,dc = .rng pre it m)/\ aC8 ops):=by
 simp only [mkC] at h
 split at h
 ·rename_i d hd;cases h;rcases nT hd with ⟨h1,h2⟩ | ⟨h1,h2,h3⟩
  case inr=> obtain⟨l,o,t,x,it,m,pre,_,_,_,_,_,_,_,_,rfl⟩:=uF h2;exact .inr (.inr ⟨h1,h2,⟨_,_,_,rfl⟩,h3⟩)
  refine .inr (.inl ⟨h1,?_⟩)
  rcases h2 with h2 | h2 | h2
  ·obtain⟨l,o,t,x,it,m,pre,_,_,_,_,_,_,_,_,rfl⟩:=uF h2;exact .inl ⟨h2,_,_,_,rfl⟩
  ·obtain⟨o2,o3,it,nx,more,_,_,_,_,_,_,_,_,_,rfl⟩:=oV h2;exact .inr (.inl ⟨h2,_,_,_,rfl⟩)
  ·obtain⟨o,l,it,pair,rest,_,_,_,_,_,_,rfl⟩:=oU h2;exact .inr (.inr ⟨h2,_,_,_,rfl⟩)
 ·simp only [Option.bind_eq_bind,Option.bind_eq_some_iff] at h;obtain⟨l,hl,h⟩:=h;left;refine⟨(),(),?_⟩
  split at h
  ·split at h
   ·split at h
    ·rename_i d hd;cases h;obtain⟨_,_,_,_,_,_,rfl,_⟩:=nV hd;rfl
    rcases qC h with ⟨rfl,_⟩ | ⟨_,_,_,_,_,rfl,_⟩ | ⟨_,_,_,_,_,_,_,_,_,_,_,rfl,_⟩ <;> rfl
   ·split at h
    ·obtain⟨_,_,_,_,_,_,_,rfl,_⟩:=nU h; rfl
    ·simp at h
  ·simp at h; rw [<- h]; rfl
theorem aUz {P:Program} {N:Nat} {own:List Nat} {code:Code} {x y:DC} (h:mkC P N own code=some (.seq x y)):∃ a b,code = .seq a b/\mkC P N own a=some x/\mkC P N own b=some y:=by
 cases code with
 | region id ops draw=>rcases wM h with ⟨_,_,e⟩ | ⟨_,⟨_,_,_,_,e⟩ | ⟨_,_,_,_,e⟩ | ⟨_,_,_,_,e⟩⟩ | ⟨_,_,⟨_,_,_,e⟩,_⟩ <;> cases e
 | seq a b=>
  simp only [mkC,zO] at h;obtain⟨dx,hx,dy,hy,h⟩:=h
  rcases zK dx dy with e | ⟨_,_,_,_,_,_,_,_,_,_,_,_,e,_⟩
  ·rw [e] at h; cases h; exact⟨a,b,rfl,hx,hy⟩
  ·rw [e] at h; cases h
 | _=>simp [mkC,Option.bind_eq_some_iff] at h
theorem aWd {P:Program} {N:Nat} {own:List Nat} {code:Code} {id:Nat} {x:DC} (h:mkC P N own code=some (.block id x)):∃ c,code = .block id c/\mkC P N own c=some x:=by
 cases code with
 | region id ops draw=>rcases wM h with ⟨_,_,e⟩ | ⟨_,⟨_,_,_,_,e⟩ | ⟨_,_,_,_,e⟩ | ⟨_,_,_,_,e⟩⟩ | ⟨_,_,⟨_,_,_,e⟩,_⟩ <;> cases e
 | seq a b=> simp only [mkC,zO] at h;obtain⟨dx,hx,dy,hy,h⟩:=h;rcases zK dx dy with e | ⟨_,_,_,_,_,_,_,_,_,_,_,_,e,_⟩ <;> rw [e] at h <;> cases h
 | block i c=> simp only [mkC,zO,DC.block.injEq] at h;obtain⟨dx,hx,rfl,rfl⟩:=h;exact⟨c,rfl,hx⟩
 | _=>simp [mkC,Option.bind_eq_some_iff] at h
theorem aRu {P:Program} {N:Nat} {own:List Nat} {code:Code} {x:DC} (h:mkC P N own code=some (.loop x)):∃ c,code = .loop c/\mkC P N own c=some x:=by
 cases code with
 | region id ops draw=>rcases wM h with ⟨_,_,e⟩ | ⟨_,⟨_,_,_,_,e⟩ | ⟨_,_,_,_,e⟩ | ⟨_,_,_,_,e⟩⟩ | ⟨_,_,⟨_,_,_,e⟩,_⟩ <;> cases e
 | seq a b=> simp only [mkC,zO] at h;obtain⟨dx,hx,dy,hy,h⟩:=h;rcases zK dx dy with e | ⟨_,_,_,_,_,_,_,_,_,_,_,_,e,_⟩ <;> rw [e] at h <;> cases h
 | loop c=> simp only [mkC,zO,DC.loop.injEq] at h;obtain⟨dx,hx,rfl⟩:=h;exact⟨c,rfl,hx⟩
 | _=>simp [mkC,Option.bind_eq_some_iff] at h
theorem aF1 {P:Program} {N:Nat} {own:List Nat} {code:Code} {c:Opd} {id:Nat} (h:mkC P N own code=some (.cond c .skip (.exit id))):∃ c',code = .cond c' .skip (.exit id)/\ xE N c'=some c:=by
 cases code with
 | region id ops draw=>rcases wM h with ⟨_,_,e⟩ | ⟨_,⟨_,_,_,_,e⟩ | ⟨_,_,_,_,e⟩ | ⟨_,_,_,_,e⟩⟩ | ⟨_,_,⟨_,_,_,e⟩,_⟩ <;> cases e
 | seq a b=> simp only [mkC,zO] at h;obtain⟨dx,hx,dy,hy,h⟩:=h;rcases zK dx dy with e | ⟨_,_,_,_,_,_,_,_,_,_,_,_,e,_⟩ <;> rw [e] at h <;> cases h
 | cond x a b=>
  simp only [mkC,zO,DC.cond.injEq] at h;obtain⟨c',hc,dx,hx,dy,hy,rfl,rfl,rfl⟩:=h
  have ha:a = .skip:=by
   cases a with
   | skip=>rfl
   | region id ops draw=>rcases wM hx with ⟨_,_,e⟩ | ⟨_,⟨_,_,_,_,e⟩ | ⟨_,_,_,_,e⟩ | ⟨_,_,_,_,e⟩⟩ | ⟨_,_,⟨_,_,_,e⟩,_⟩ <;> cases e
   | seq p q=> simp only [mkC,zO] at hx;obtain⟨dx,_,dy,_,h⟩:=hx;rcases zK dx dy with e | ⟨_,_,_,_,_,_,_,_,_,_,_,_,e,_⟩ <;> rw [e] at h <;> cases h
   | _=>simp [mkC,Option.bind_eq_some_iff] at hx
  have hb:b = .exit id:=by
   cases b with
   | exit i=>simp [mkC] at hy; rw [hy]
   | region id ops draw=>rcases wM hy with ⟨_,_,e⟩ | ⟨_,⟨_,_,_,_,e⟩ | ⟨_,_,_,_,e⟩ | ⟨_,_,_,_,e⟩⟩ | ⟨_,_,⟨_,_,_,e⟩,_⟩ <;> cases e
   | seq p q=> simp only [mkC,zO] at hy;obtain⟨dx,_,dy,_,h⟩:=hy;rcases zK dx dy with e | ⟨_,_,_,_,_,_,_,_,_,_,_,_,e,_⟩ <;> rw [e] at h <;> cases h
   | _=>simp [mkC,Option.bind_eq_some_iff] at hy
  exact⟨x,by rw [ha,hb],hc⟩
 | _=>simp [mkC,Option.bind_eq_some_iff] at h
theorem aAo {P:Program} {N:Nat} {own:List Nat} {code:Code} {pre:List DOp} {it:Nat} {m:Opd} (h:mkC P N own code=some (.rng pre it m)):∃ id ops draw,code = .region id ops draw/\aC P N own ops=some (.rng pre it m)/\ (draw=false\/(draw=true/\aC8 ops)):=by
 cases code with
 | region id ops draw=>
  rcases wM h with ⟨_,_,e⟩ | ⟨rfl,⟨h1,_⟩ | ⟨_,_,_,_,e⟩ | ⟨_,_,_,_,e⟩⟩ | ⟨h0,h1,_,h3⟩
  ·cases e
  ·exact⟨id,ops,_,rfl,h1,.inl rfl⟩
  ·cases e
  ·cases e
  ·exact⟨id,ops,_,rfl,h1,.inr ⟨h0,h3⟩⟩
 | seq a b=> simp only [mkC,zO] at h;obtain⟨dx,hx,dy,hy,h⟩:=h;rcases zK dx dy with e | ⟨_,_,_,_,_,_,_,_,_,_,_,_,e,_⟩ <;> rw [e] at h <;> cases h
 | _=>simp [mkC,Option.bind_eq_some_iff] at h
theorem aAp {P:Program} {N:Nat} {own:List Nat} {code:Code} {it nx more:Nat} (h:mkC P N own code=some (.nxt it nx more)):∃ id ops,code = .region id ops false/\aQ3 N ops=some (.nxt it nx more):=by
 cases code with
 | region id ops draw=>
  rcases wM h with ⟨_,_,e⟩ | ⟨rfl,⟨_,_,_,_,e⟩ | ⟨h1,_⟩ | ⟨_,_,_,_,e⟩⟩ | ⟨_,_,⟨_,_,_,e⟩,_⟩
  ·cases e
  ·cases e
  ·exact⟨id,ops,rfl,h1⟩
  ·cases e
  ·cases e
 | seq a b=> simp only [mkC,zO] at h;obtain⟨dx,hx,dy,hy,h⟩:=h;rcases zK dx dy with e | ⟨_,_,_,_,_,_,_,_,_,_,_,_,e,_⟩ <;> rw [e] at h <;> cases h
 | _=>simp [mkC,Option.bind_eq_some_iff] at h
theorem aAq {P:Program} {N:Nat} {own:List Nat} {code:Code} {it pair:Nat} {rest:List DOp} (h:mkC P N own code=some (.ent it pair rest)):∃ id ops,code = .region id ops false/\aQ4 P N own ops=some (.ent it pair rest):=by
 cases code with
 | region id ops draw=>
  rcases wM h with ⟨_,_,e⟩ | ⟨rfl,⟨_,_,_,_,e⟩ | ⟨_,_,_,_,e⟩ | ⟨h1,_⟩⟩ | ⟨_,_,⟨_,_,_,e⟩,_⟩
  ·cases e
  ·cases e
  ·cases e
  ·exact⟨id,ops,rfl,h1⟩
  ·cases e
 | seq a b=> simp only [mkC,zO] at h;obtain⟨dx,hx,dy,hy,h⟩:=h;rcases zK dx dy with e | ⟨_,_,_,_,_,_,_,_,_,_,_,_,e,_⟩ <;> rw [e] at h <;> cases h
 | _=>simp [mkC,Option.bind_eq_some_iff] at h
theorem eval_put {a:Act} {t:Nat} {v:Value} (h:t<a.tmps.size):(a.put (some t) v).eval (.tmp t)= v:=by simp [Act.put,Act.eval,h]
theorem dQ {C:Cx} {E:Env} {ops:Array Oper} {Q:Exit->Act->World->Prop} {K:Fr->St->Prop} {l2:List Oper} (hQ:∀ a w f σ,Good C E a w f σ->K f σ->wpList C.P ops Q l2 a w):∀ (l:List Oper) (ds:List DOp) (a:Act) (w:World) (f:Fr) (σ:St),tD (aE C.P C.N C.own ops) l=some ds->Good C E a w f σ->pR C ds f σ K ->
  wpList C.P ops Q (l++l2) a w
 | [],ds,a,w,f,σ,hm,G,h=>by simp [tD] at hm; subst hm;exact hQ _ _ _ _ G h
 | o :: l,ds,a,w,f,σ,hm,G,h=>by
  unfold tD at hm
  split at hm
  ·rename_i dop ds' hd hds;simp at hm; subst hm;simp only [pR,opW] at h;have:=aUu (next:=wpList C.P ops Q (l++l2)) (Q:=Q) (K:=fun d σ'=>pR C ds' (f.put dop.dst d) σ' K) hd G h (fun a' w' d σ' G' h'=>dQ hQ l ds' a' w' _ _ hds G' h');show wpList C.P ops Q (o :: (l++l2)) a w;unfold wpList
   split
   ·rename_i hw; rw [if_pos hw] at this; exact .inl this
   ·rename_i hw; rw [if_neg hw] at this; exact this
  ·simp at hm
theorem aOc {N:Nat} {ops:Array Oper} {o:Oper} {dop:DOp} (h:gM N ops o dop) (hg:o.guard=none):dop.guard=none:=by
 rcases h with ⟨_,h⟩ | ⟨_,_,_,_,h,_⟩
 ·exact h
 ·rw [hg] at h; cases h
theorem aIi {P:Program} {N:Nat} {own:List Nat} {o:Oper} {k:DK} (hc:aUb o=true) (hk:mkK P N own o=some k):k.impure=false:=by
 cases hop:o.op <;> simp only [mkK,hop] at hk <;> (try (simp only [aUb,hop,Bool.false_eq_true] at hc; done))
 case move x=> simp only [Option.map_eq_some_iff] at hk;obtain⟨x',hx,rfl⟩:=hk;rfl
 case nilCheck x=> simp only [Option.map_eq_some_iff] at hk;obtain⟨x',hx,rfl⟩:=hk;rfl
 case assign x=> simp only [Option.map_eq_some_iff] at hk;obtain⟨x',hx,rfl⟩:=hk;rfl
 case fieldAddr t x i=> simp only [zO] at hk;obtain⟨q,hq,z',hz,z,hz',x',hx,rfl⟩:=hk;rfl
 case indexAddr t x y=>
  split at hk
  ·simp only [zO] at hk;obtain⟨z',hz,sz,hz',x',hx,y',hy,rfl⟩:=hk;rfl
  ·split at hk
   ·simp only [Option.bind_eq_bind,Option.bind_eq_some_iff] at hk;obtain⟨_,_,_,_,_,_,hk⟩:=hk
    split at hk
    ·cases hk; rfl
    ·cases hk
   ·cases hk
 case load t x=>
  simp only [zO] at hk;obtain⟨ag,hag,n,hn',x',hx,hk⟩:=hk
  split at hk
  ·simp at hk; subst hk; rfl
  ·simp at hk
theorem aM {C:Cx} {E:Env} {ops ops0:Array Oper} {Q:Act->Prop} {K:Fr->St->Prop} {w:World} (hQ:∀ a f σ,Good C E a w f σ->K f σ->Q a):∀ (l:List Oper) (ds:List DOp) (a:Act) (f:Fr) (σ:St),tD (aE C.P C.N C.own ops) l=some ds->(∀ o ∈ l,aUb o=true/\o.guard=none)->Good C E a w f σ->pR C ds f σ K ->
  wpStill C.P ops0 w Q l a
 | [],ds,a,f,σ,hm,hc,G,h=>by simp [tD] at hm; subst hm;exact hQ _ _ _ G h
 | o :: l,ds,a,f,σ,hm,hc,G,h=>by
  unfold tD at hm
  split at hm
  ·rename_i dop ds' hd hds;simp at hm; subst hm;simp only [pR,opW] at h;obtain⟨hk,hdst,hN,hgr⟩:=aX5 hd;obtain⟨ho,hgo⟩:=hc o (by simp);obtain⟨ι,G⟩:=G;have hgn:dop.guard=none:=aOc hgr hgo;unfold yP at h;simp only [hgn] at h;have hp:=aX3 (aIi ho hk) h;show if Region.wanted o (yielded ops0 a.tmps) then o.still C.P a w (wpStill C.P ops0 w Q l) else wpStill C.P ops0 w Q l (a.put o.dst undef);rw [if_pos (by simp [Region.wanted,hgo])];refine aB2 ho hk hp G.sim (fun x y hxy=>rB G.fr hxy) fun v d hy hK hr=>?_;unfold Oper.still;unfold Yields at hy;rw [hy,Oper.stillUpon_value,hdst];exact aM hQ l ds' _ _ _ hds (fun o' ho'=>hc o' (List.mem_cons_of_mem _ ho')) ⟨ι,G.set hr hN⟩ hK
  ·simp at hm
theorem aTu {C:Cx} (hmx:C.P.follows .mixedOrders=true) {x y:Code} {pre:List DOp} {it:Nat} {m:Opd} {out nx more next pair:Nat} {rest:List DOp} {code:DC} {f:Fr} {σ:St} {Q:Exit->Fr->St->Prop}
  (hx:mkC C.P C.N C.own x=some (.rng pre it m)) (hy:mkC C.P C.N C.own y=some (.block out (.loop (.seq (.nxt it nx more) (.seq (.cond (.t more) .skip (.exit out)) (.block next (.seq (.ent it pair rest) code)))))))
  (d1:it≠nx) (d2:it≠more) (d3:it≠pair) (h:pR C pre f σ fun f σ=>aZd C it m out nx more next pair rest code f σ Q) (E:Env) (a:Act) (w:World) (G:Good C E a w f σ):(Code.seq x y).wpIn C.F 0 C.P (LQ C E Q) a w:=by
 by_cases hrd:C.rd=none
 case neg=> obtain⟨_,_,_,_,h0,_⟩:=lL _ _ _ h;exact absurd h0 hrd
 have hF:C.F=Fence.wide:=by unfold Cx.F; rw [hrd]; rfl
 rw [hF,wpIn_wide];obtain⟨id1,ops1,dr1,rfl,hr,hdr⟩:=aAo hx;obtain⟨l1,o1,t1,x1,it',m',pre',hl1,ho1,hd1,hg1,hm1,hp1,⟨kt,et,hty⟩,hit,he⟩:=uF hr;cases he;obtain⟨yb,rfl,hy1⟩:=aWd hy;obtain⟨yl,rfl,hy2⟩:=aRu hy1;obtain⟨ys,yr,rfl,hs,hy3⟩:=aUz hy2;obtain⟨yc,yn,rfl,hcd,hy4⟩:=aUz hy3;obtain⟨yk,rfl,hy5⟩:=aWd hy4;obtain⟨ya,yd,rfl,ha,hcode⟩:=aUz hy5;obtain⟨id2,ops2,rfl,hn2⟩:=aAp hs;obtain⟨o2,o3,it2,nx2,more2,hl2,ho2,hd2,hg2,ho3,hd3,hg3,hnx,hmore,he⟩:=oV hn2;cases he;obtain⟨cc,rfl,hcc⟩:=aF1 hcd
 have hcc':cc = .tmp more:=by
  cases cc with
  | tmp t=>simp [xE] at hcc; rw [hcc.2]
  | const v=>simp [xE] at hcc
  | func g=>simp [xE] at hcc
  | global g=>simp [xE] at hcc
 subst hcc';obtain⟨id3,ops3,rfl,he3⟩:=aAq ha;obtain⟨o4,l3,it4,pair4,rest4,hl3,ho4,hd4,hg4,hr3,hpair,he⟩:=oU he3;cases he;refine wp_seq ?_;generalize hQQ:Exit.then _ _=QQ
 suffices hcont:∀ a w f σ,Good C E a w f σ->aZd C it m out nx more next pair rest code f σ Q->wpList C.P ops1 QQ [o1] a w by
  rcases hdr with rfl | ⟨rfl,hc1,hc2⟩
  ·refine wp_region_list ?_;rw [hl1];exact dQ hcont l1 pre a w f σ hp1 G h
  ·have G':Good C E a { w with drawn:=w.drawn+1 } f σ:=by obtain⟨ι,G⟩:=G;have hk:Kept w w.drew fun _=>False:=(Kept.refl _ _).drew;have hS:=G.sim.ext hk;exact⟨ι,⟨G.size,G.defers.zI rfl (Nat.le_refl _) fun D hD=>hD,G.nx,G.kept.drew,hS,G.old,G.nG,G.stay,G.fr.zI (fun b hb _=>rfl) (fun _ _ h=>h) hk.shape (fun _ _=>rfl) (Nat.le_refl _)⟩⟩
   have hn:ops1.size-1=l1.length:=by rw [<- Array.length_toList,hl1]; simp
   rw [hl1,List.dropLast_concat] at hc1;obtain rfl:ops1=(l1 ++ [o1]).toArray:=by rw [<- hl1]
   rw [hn] at hc2;refine wp_region_still_tail (l:=l1 ++ [o1]) l1.length hmx hc2 ?_;rw [List.take_left' rfl,List.drop_left' rfl];refine aM (K:=fun f σ=>aZd C it m out nx more next pair rest code f σ Q) (fun a f σ G h=>hcont a _ f σ G h) l1 pre a f σ hp1 (fun o ho=>?_) G' h;have:=List.all_eq_true.1 hc1 o ho;rw [Bool.and_eq_true] at this;exact⟨this.1,by simpa using this.2⟩
 subst hQQ;intro a w f σ G h;obtain⟨ι,G⟩:=G;obtain⟨key,els,_,hm,hob,hI⟩:=h;have hv:=(hm ▸ rB G.fr hm1).rT;obtain⟨es,e1,e2,e3⟩:=yT.mapped (G.sim.holds key _ hob).2 rfl;refine wpList_step fun K hK=>?_;rw [if_pos (by simp [Region.wanted,hg1])]
 have hrun:(execOp a.eval o1).run C.P w = .ok (.value (.pointer (some ⟨w.heap.size,0,none⟩))) (w.alloc (.mapIter (some (ι key)) es.size #[] es.size)):=by simp [execOp,ho1,hv.1,run_range_map w t1 kt et (ι key) es es.size hty e1]
 refine vO hrun (hK _ _ (wpList_nil ?_));rw [hd1];have G1:=(G.enter hv.2 (.mapIter (some (ι key)) es.size #[] es.size)).set (dst:=some it) (v:=.pointer (some ⟨w.heap.size,0,none⟩)) (d:=.adr w.heap.size) (.pure (.adr _)) (fun t ht=>by cases ht; exact hit);obtain⟨I,⟨f1,σ1,hW,hI0⟩,hIk,hIr⟩:=hI w.heap.size
 have hbm:ι key≠w.heap.size:=fun e=>by have:=(Array.getElem?_eq_some_iff.1 e1).1;omega
 show Code.wp _ _ _ _ _
 refine wp_block (wp_loop (fun a' w'=>∃ seen f' σ',I seen f' σ'/\seen.Nodup/\(∀ j ∈ seen,j<els.length)/\
  (∃ ι',yN { C with n0:=max C.n0 (key+1) } ⟨w.alloc (.mapIter (some (ι key)) es.size #[] es.size),fun b=>E.M0 b\/b=w.heap.size,fun b=>Own ι σ b\/b=w.heap.size,ι,E.B⟩ a' w' f' σ' ι')/\
  w'.heap[w.heap.size]?=some (.mapIter (some (ι key)) es.size seen.toArray es.size)) (fun _ w'=>match w'.heap[w.heap.size]? with | some (.mapIter _ _ s _)=>els.length-s.size | _=>0)
  ⟨[],f1,σ1,hI0,.nil,by simp,hW _ _ _ ⟨ι,G1⟩,heap_alloc_new w _⟩ ?_)
 rintro a' w' ⟨seen,f',σ',hi,hnd,hlt,⟨ι',G'⟩,hit0⟩;obtain⟨hfit,hob'⟩:=hIk _ _ _ hi;have hkey:ι' key=ι key:=G'.stay key (by show key<max C.n0 (key+1); omega);obtain⟨es',e1',e2',e3'⟩:=yT.mapped (G'.sim.holds key _ hob').2 rfl;rw [hkey] at e1';simp only at e2 e2' e3';have hb0:w.heap.size<w'.heap.size:=(Array.getElem?_eq_some_iff.1 hit0).1
 have hpt:a'.eval (.tmp it)= .pointer (some ⟨w.heap.size,0,none⟩):=by have:=G'.fr it;rw [hfit] at this;exact this.aLs
 have hat:∀ (e:MapEntry),e ∈ es'.toList->∃ i,i<els.length/\es'[i]?=some e/\e.born=i:=by
  intro e he;obtain⟨i,hi1,hi2⟩:=List.getElem_of_mem he;simp only [Array.length_toList] at hi1;have hi3:i<els.length:=by omega
  obtain⟨kv,v,xx,dd,r1,r2,r3,r4⟩:=e3' i hi3;have:es'[i]?=some e:=by rw [<- hi2]; simp [hi1]
  rw [r2] at this;cases this;exact⟨i,hi3,r2,rfl⟩
 have hold:∀ x ∈ es'.toList,x.born<es.size:=fun x hx=>by obtain⟨i,h1,_,h3⟩:=hat x hx;omega
 have hround:=hIr seen f' σ' hi hnd hlt;have hsN:a'.tmps.size=C.N:=G'.size;refine wp_seq (wp_region_list ?_);rw [hl2];refine wpList_step fun K hK=>?_;rw [if_pos (by simp [Region.wanted,hg2])]
 rcases run_next_at (P:=C.P) w' o2.type w.heap.size (ι key) es.size es.size seen.toArray es' es'.size hit0 e1' hold (Nat.le_refl _) with ⟨h0,hrun⟩ | ⟨e,he,w2,hw2,hrun⟩
 ·have hall:∀ i,i<els.length->i ∈ seen:=by
   intro i hi';refine Classical.byContradiction fun hno=>?_;obtain⟨kv,v,xx,dd,r1,r2,r3,r4⟩:=e3' i hi'
   have hmem:(⟨kv,v,i⟩:MapEntry)∈ leftOf es' seen.toArray:=by unfold leftOf;rw [Array.mem_filter];exact⟨Array.mem_of_getElem? r2,by simpa using hno⟩
   have:=Array.size_pos_of_mem hmem;omega
  have hrun':(execOp a'.eval o2).run C.P w' = .ok (.value (.tuple #[.bool false])) w':=by simp [execOp,ho2,hpt,hrun]
  refine vO hrun' (hK _ _ ?_);rw [hd2];refine wpList_step fun K2 hK2=>?_;rw [if_pos (by simp [Region.wanted,hg3])];have hev:=eval_put (a:=a') (t:=nx) (v:=.tuple #[.bool false]) (by rw [hsN]; exact hnx);have hrun3:(execOp (a'.put (some nx) (.tuple #[.bool false])).eval o3).run C.P w' = .ok (.value (.bool false)) w':=by simp [execOp,ho3,hev,Instr.extract]
  refine vO hrun3 (hK2 _ _ (wpList_nil ?_));rw [hd3];have G2:=(G'.set (dst:=some nx) (v:=.tuple #[.bool false]) (d:=.top) (R.top _) (fun t ht=>by cases ht; exact hnx)).set (dst:=some more) (v:=.bool false) (d:=.top) (R.top _) (fun t ht=>by cases ht; exact hmore);have hev2:=eval_put (a:=a'.put (some nx) (.tuple #[.bool false])) (t:=more) (v:=.bool false) (by rw [aXz,hsN]; exact hmore);show Code.wp _ _ _ _ _;refine wp_seq (wp_cond_split hev2 (fun h=>by cases h) fun _=>wp_exit ?_);show (if out=out then _ else _);rw [if_pos rfl];exact⟨_,σ',⟨ι',G.leave G2⟩,hround.1 (aSa hnd hlt hall)⟩
 ·unfold leftOf at he;obtain⟨he1,he2⟩:=Array.mem_filter.1 (Array.mem_toList_iff.1 he);obtain⟨i,hil,hie,hib⟩:=hat e (Array.mem_toList_iff.2 he1);have hni:i ∉ seen:=by rw [<- hib]; simpa using he2
  have h2:=hround.2 i hil hni;obtain⟨kv,v,xx,dd,r1,r2,r3,r4⟩:=e3' i hil;rw [r2] at hie;cases hie;simp only at hrun hib;have hrun':(execOp a'.eval o2).run C.P w' = .ok (.value (.tuple #[.bool true,kv,v])) (ChangeMaps.setBlock w2 w.heap.size (.mapIter (some (ι key)) es.size (seen.toArray.push i) es'.size)):=by simp [execOp,ho2,hpt,hrun]
  have k2:Kept w' w2 fun b=>b=w.heap.size:=by
   rcases hw2 with rfl | rfl
   ·exact Kept.refl _ _
   ·exact(Kept.refl _ _).drew
  have hit2:w2.heap[w.heap.size]?=some (.mapIter (some (ι key)) es.size seen.toArray es.size):=by rcases hw2 with rfl | rfl <;> exact hit0
  have e12:w2.heap[ι key]?=some (.map es' es'.size):=by rcases hw2 with rfl | rfl <;> exact e1'
  have k3:=aYv (o':=.mapIter (some (ι key)) es.size (seen.toArray.push i) es'.size) hit2 (fun _ _ h=>by cases h);have hb02:w.heap.size<w2.heap.size:=(Array.getElem?_eq_some_iff.1 hit2).1;have hit3:=aTp (o':=.mapIter (some (ι key)) es.size (seen.toArray.push i) es'.size) hb02
  have e13:(ChangeMaps.setBlock w2 w.heap.size (.mapIter (some (ι key)) es.size (seen.toArray.push i) es'.size)).heap[ι key]?=some (.map es' es'.size):=by rw [k3.block _ (Array.getElem?_eq_some_iff.1 e12).1 hbm]; exact e12
  have G3:=(G'.tick k2 (.inr rfl) (.inr rfl) (fun x e=>by rw [hit0] at e; cases e)).tick k3 (.inr rfl) (.inr rfl) (fun x e=>by rw [hit2] at e; cases e);generalize ChangeMaps.setBlock w2 w.heap.size (.mapIter (some (ι key)) es.size (seen.toArray.push i) es'.size)= w3 at hrun' k3 hit3 e13 G3;refine vO hrun' (hK _ _ ?_);rw [hd2];refine wpList_step fun K2 hK2=>?_;rw [if_pos (by simp [Region.wanted,hg3])];have hev:=eval_put (a:=a') (t:=nx) (v:=.tuple #[.bool true,kv,v]) (by rw [hsN]; exact hnx);have hrun3:(execOp (a'.put (some nx) (.tuple #[.bool true,kv,v])).eval o3).run C.P w3 = .ok (.value (.bool true)) w3:=by simp [execOp,ho3,hev,Instr.extract]
  refine vO hrun3 (hK2 _ _ (wpList_nil ?_));rw [hd3];have G4:=(G3.set (dst:=some nx) (v:=.tuple #[.bool true,kv,v]) (d:=.top) (R.top _) (fun t ht=>by cases ht; exact hnx)).set (dst:=some more) (v:=.bool true) (d:=.top) (R.top _) (fun t ht=>by cases ht; exact hmore);have hev2:=eval_put (a:=a'.put (some nx) (.tuple #[.bool true,kv,v])) (t:=more) (v:=.bool true) (by rw [aXz,hsN]; exact hmore)
  have hpt4:((a'.put (some nx) (.tuple #[.bool true,kv,v])).put (some more) (.bool true)).eval (.tmp it)= .pointer (some ⟨w.heap.size,0,none⟩):=by have:=G4.fr it;rw [show ((f'.put (some nx) .top).put (some more) .top).get it=f'.get it by simp [Fr.put,Fr.get,Ne.symm d1,Ne.symm d2],hfit] at this;exact this.aLs
  generalize ha4:(a'.put (some nx) (.tuple #[.bool true,kv,v])).put (some more) (.bool true)= a4 at G4 hev2 hpt4;show Code.wp _ _ _ _ _;refine wp_seq (wp_cond_split hev2 (fun _=>wp_skip ?_) fun h=>by cases h);show Code.wp _ _ _ _ _;refine wp_block (wp_seq (wp_region_list ?_));rw [hl3];refine wpList_step fun K4 hK4=>?_;rw [if_pos (by simp [Region.wanted,hg4])]
  have hnb:(es'.toList.map (·.born)).Nodup:=by
   have:es'.toList.map (·.born)= List.range es'.size:=by
    refine List.ext_getElem? fun j=>?_;rw [List.getElem?_map]
    by_cases hj:j<es'.size
    ·obtain⟨_,_,_,_,_,q2,_,_⟩:=e3' j (by omega);rw [Array.getElem?_toList,q2,List.getElem?_range hj]; rfl
    ·rw [List.getElem?_eq_none (by simpa using Nat.le_of_not_lt hj),List.getElem?_eq_none (by simpa using Nat.le_of_not_lt hj)]; rfl
   rw [this]; exact List.nodup_range
  have hrun4:(execOp a4.eval o4).run C.P w3 = .ok (.value (.tuple #[kv,v])) w3:=by have:=run_entry_at (P:=C.P) w3 w.heap.size (ι key) es.size seen.toArray es' es'.size ⟨kv,v,i⟩ hit3 e13 (Array.mem_toList_iff.2 he1) hnb;simp [execOp,ho4,hpt4,this]
  refine vO hrun4 (hK4 _ _ ?_);rw [hd4]
  have hsame:∀ {v:Value} {d:D},R (Mof (fun b=>E.M0 b\/b=w.heap.size) ι' σ') w' ι' σ'.nx v d->R (Mof (fun b=>E.M0 b\/b=w.heap.size) ι' σ') w3 ι' σ'.nx v d:=by intro v d hR;refine(hR.zI (w':=w2) (fun b hb hn=>k2.block b hb fun hx=>hn (.inl (.inr hx))) (fun _ _ h=>h) k2.shape (fun _ _=>rfl) (Nat.le_refl _)).zI (fun b hb hn=>k3.block b hb fun hx=>hn (.inl (.inr hx))) (fun _ _ h=>h) k3.shape (fun _ _=>rfl) (Nat.le_refl _)
  have G5:=G4.set (dst:=some pair) (v:=.tuple #[kv,v]) (d:=.tup (els.getD i [])) (by
   rw [r1];refine .tup rfl fun j hj=>?_
   match j,hj with
   | 0,_=>exact hsame r3
   | 1,_=>exact hsame r4) (fun t ht=>by cases ht; exact hpair)
  generalize a4.put (some pair) (.tuple #[kv,v])= a5 at G5;have lv:∀ {a6 w6 f6 σ6 ι6},yN { C with n0:=max C.n0 (key+1) } ⟨w3,fun b=>E.M0 b\/b=w.heap.size,Own ι' σ',ι,E.B⟩ a6 w6 f6 σ6 ι6->Good C E a6 w6 f6 σ6:=fun G6=>⟨_,G.leave (G5.close_ G6)⟩
  have hlen:seen.length<els.length:=by
   have:=qD els.length (i :: seen) (List.nodup_cons.2 ⟨hni,hnd⟩) fun j hj=>by
    rcases List.mem_cons.1 hj with rfl | hj
    ·exact hil
    ·exact hlt j hj
   rw [List.length_cons] at this;omega
  have hb03:w.heap.size<w3.heap.size:=(Array.getElem?_eq_some_iff.1 hit3).1;have nown:¬ Own ι' σ' w.heap.size:=fun⟨k,o,hk,e⟩=>G5.sim.notM k o hk (.inr e)
  have fin:∀ {a6 w6 f6 σ6 ι6},yN { C with n0:=max C.n0 (key+1) } ⟨w3,fun b=>E.M0 b\/b=w.heap.size,Own ι' σ',ι,E.B⟩ a6 w6 f6 σ6 ι6->I (seen ++ [i]) f6 σ6 ->
    (∃ seen f' σ',I seen f' σ'/\seen.Nodup/\(∀ j ∈ seen,j<els.length)/\ (∃ ι',yN { C with n0:=max C.n0 (key+1) } ⟨w.alloc (.mapIter (some (ι key)) es.size #[] es.size),fun b=>E.M0 b\/b=w.heap.size,fun b=>Own ι σ b\/b=w.heap.size,ι,E.B⟩ a6 w6 f' σ' ι')/\
     w6.heap[w.heap.size]?=some (.mapIter (some (ι key)) es.size seen.toArray es.size))/\
    (match w6.heap[w.heap.size]? with | some (.mapIter _ _ s _)=>els.length-s.size | _=>0)<(match w'.heap[w.heap.size]? with | some (.mapIter _ _ s _)=>els.length-s.size | _=>0):=by
   intro a6 w6 f6 σ6 ι6 G6 hi6
   have hit6:w6.heap[w.heap.size]?=some (.mapIter (some (ι key)) es.size (seen ++ [i]).toArray es.size):=by
    rw [G6.kept.block _ hb03 nown,hit3];have:es'.size=es.size:=by omega
    rw [this]; simp
   refine⟨⟨seen ++ [i],f6,σ6,hi6,?_,fun j hj=>?_,⟨ι6,G5.close_ G6⟩,hit6⟩,?_⟩
   ·rw [List.nodup_append];refine⟨hnd,by simp,fun p hp q hq=>?_⟩;rw [List.mem_singleton] at hq;subst hq;exact fun e=>hni (e ▸ hp)
   ·rcases List.mem_append.1 hj with hj | hj
    ·exact hlt j hj
    ·rw [List.mem_singleton] at hj; omega
   ·rw [hit6,hit0];simp only [List.size_toArray,List.length_append,List.length_singleton];omega
  refine bH (C:={ C with n0:=max C.n0 (key+1) }) (E:=⟨w3,fun b=>E.M0 b\/b=w.heap.size,Own ι' σ',ι,E.B⟩) (fun a6 w6 f6 σ6 G6 h6=>?_) l3 rest a5 w3 _ _ hr3 ⟨ι',G5.open_⟩ h2;show Code.wp _ _ _ _ _;have h7:=h6 yd hcode _ a6 w6 G6;rw [show Cx.F { C with n0:=max C.n0 (key+1) }=Fence.wide from hF,wpIn_wide] at h7;refine wp_mono h7 fun ex a7 w7 hq=>?_;obtain⟨f7,σ7,⟨ι7,G7⟩,hq⟩:=hq
  cases ex with
  | normal=>exact fin G7 hq
  | exit j=>
   simp only [tF,mV] at hq;show (if j=next then _ else _)
   by_cases hj:j=next
   ·rw [if_pos hj] at hq ⊢;exact fin G7 hq
   ·rw [if_neg hj] at hq ⊢;show (if j=out then _ else _)
    by_cases hj2:j=out
    ·rw [if_pos hj2] at hq ⊢; exact⟨f7,σ7,lv G7,hq⟩
    ·rw [if_neg hj2] at hq ⊢; exact⟨f7,σ7,lv G7,hq⟩
  | goto l=>exact⟨f7,σ7,lv G7,hq⟩
  | ret=>exact⟨f7,σ7,lv G7,hq⟩
  | panic ch=>exact⟨f7,σ7,lv G7,hq⟩
  | outgrown=>exact⟨f7,σ7,lv G7,hq⟩
theorem yC : ∀ {t:List (D × St)} {σ:St},(∀ p ∈ t,p.2=σ)->SAt t σ=σ
 | [],_,_=>rfl
 | p :: t,σ,h=>by simp only [SAt];rw [h p (by simp)];exact yC fun q hq=>h q (by simp [hq])
theorem aVc : ∀ {ds:List DOp} {t t':List (D × St)} {f:Fr},t.map (·.1)= t'.map (·.1)->FAt ds t f=FAt ds t' f
 | [],_,_,_,_=>by simp [FAt]
 | _ :: _,[],[],_,_=>rfl
 | _ :: _,[],_ :: _,_,h=>by simp at h
 | _ :: _,_ :: _,[],_,h=>by simp at h
 | o :: ds,p :: t,p' :: t',f,h=>by simp only [List.map_cons,List.cons.injEq] at h;simp only [FAt];rw [h.1];exact aVc h.2
theorem sJ {ds:List DOp} {t t':List (D × St)} {f:Fr} (hd:vU ds=true) (l1:t.length=ds.length) (l2:t'.length=ds.length) (h:FAt ds t f=FAt ds t' f):t.map (·.1)= t'.map (·.1):=by
 refine List.ext_getElem (by simp [l1,l2]) fun i h1 h2=>?_;rw [List.length_map] at h1 h2;have hi:i<ds.length:=by omega
 unfold vU at hd;simp only [Bool.and_eq_true,decide_eq_true_eq] at hd;have hs:=List.all_eq_true.1 hd.1 ds[i] (List.getElem_mem hi);obtain⟨x,hx⟩:=Option.isSome_iff_exists.1 hs;have hdi:vK ds i=some x:=by simp [vK,hi,hx]
 have hno:∀ j,i<j->j<ds.length->vK ds j=some x->(fun _:Nat=>true) j=false:=by
  intro j hij hj hdj;exfalso;have h3:=List.pairwise_iff_getElem.1 hd.2 i j (by simpa using hi) (by simpa using hj) hij;simp only [List.getElem_map] at h3;have h4:(ds[j]).dst=some x:=by simpa [vK,hj] using hdj
  exact h3 (hx.trans h4.symm)
 have e1:=mN (f:=f) l1 ds.length (Nat.le_refl _) x;have e2:=mN (f:=f) l2 ds.length (Nat.le_refl _) x;rw [mM rfl hdi ds.length hi hno,List.take_length,<- l1,List.take_length] at e1;rw [mM rfl hdi ds.length hi hno,List.take_length,<- l2,List.take_length] at e2;rw [h,e2] at e1;simp only [tK,List.getElem?_eq_getElem h1,List.getElem?_eq_getElem h2,Option.map_some,Option.getD_some] at e1;simp only [List.getElem_map];exact e1.symm
theorem uS {ms:List Nat} {m:Nat}:∀ {l:List DOp} {j:Nat},uK ms m l j=true->∀ i o,l[i]?=some o->o.k.zE=false->ordered ms m (j+i)= true
 | [],_,_,i,o,h,_=>by simp at h
 | o :: r,j,h,i,o',hi,hs=>by
  simp only [uK,Bool.and_eq_true,Bool.or_eq_true] at h
  cases i with
  | zero=>
   simp at hi; subst hi
   rcases h.1 with h1 | h1
   ·rw [hs] at h1; cases h1
   ·exact h1
  | succ i=> have:=uS h.2 i o' (by simpa using hi) hs;rw [show j+(i+1)= j+1+i by omega]; exact this
theorem wI {C:Cx} {pre:List DOp} {f0:Fr} {t t':List (D × St)} {σ':St} (q1:Trace C pre f0 σ' t') (hl:t'.length=pre.length) (hv:t'.map (·.1)= t.map (·.1)) (hq:∀ p ∈ t',p.2=σ') {i:Nat} {dop:DOp} (hdp:pre[i]?=some dop) :
  yP dop (FAt (pre.take i) (t.take i) f0) (opV C σ' (evO (FAt (pre.take i) (t.take i) f0)) dop.k fun x y=>x=tK t i/\y=σ') (.und=tK t i):=by
 obtain⟨d',σ2,x1,x2⟩:=q1.at i dop hdp;have x3:σ2=σ':=hq (d',σ2) (List.mem_of_getElem? x1);have x4:SAt (t'.take i) σ'=σ':=yC fun p hp=>hq p (List.mem_of_mem_take hp)
 have x5:tK t i=d':=by have e:=congrArg (·[i]?) hv;simp only [List.getElem?_map,x1,Option.map_some] at e;simp only [tK,<- e,Option.getD_some]
 have x6:FAt (pre.take i) (t.take i) f0=FAt (pre.take i) (t'.take i) f0:=by refine aVc ?_;rw [List.map_take,List.map_take,hv]
 rw [x5,x6];rw [x4,x3] at x2;exact tY x2 (fun h=>h) fun h=>h.1.symm
theorem qK : ∀ (ds:List DOp) (t:List (D × St)) (f:Fr),t.length=ds.length->∀ ds2 t2,FAt (ds++ds2) (t++t2) f=FAt ds2 t2 (FAt ds t f)
 | [],t,f,ht,ds2,t2=>by obtain rfl:t = []:=List.eq_nil_of_length_eq_zero ht; rfl
 | x :: ds,[],f,ht,ds2,t2=>by simp at ht
 | x :: ds,p :: t,f,ht,ds2,t2=>qK ds t _ (by simpa using ht) ds2 t2
theorem rL : ∀ (t:List (D × St)) (σ:St) (t2:List (D × St)),SAt (t++t2) σ=SAt t2 (SAt t σ)
 | [],σ,t2=>rfl
 | p :: t,σ,t2=>rL t _ t2
theorem vM {own:List Nat} {ds:List DOp} {i:Nat} {d:DOp} (h:ds[i]?=some d):mC own ds i=zF own d:=by unfold mC; rw [h]
theorem wF {ds:List DOp} {i:Nat} {d:DOp} (h:ds[i]?=some d):wO ds i=d.k.zE:=by simp only [wO,h,Option.map_some,Option.getD_some]
theorem aPs {C:Cx} {E:Env} {ops:Array Oper} {l pre mid post:List DOp} {o:DOp} {un:Bool} {s id:Nat} {f:Fr} {σ:St} {Q:Exit->Fr->St->Prop} {a:Act} {w:World} (hq:C.own.contains 77777=false) (hm:C.P.follows .mixedOrders=true)
  (hd:tD (aE C.P C.N C.own ops) ops.toList=some l) (hok:aZj ops.toList l s (mC C.own l)= true) (hl:l=pre++o :: (mid++post)) (hs:s=pre.length+1+mid.length) (d1:vU pre=true) (d2:vU mid=true) (hg:o.guard=none)
  (n1:∀ x ∈ pre,zF C.own x=false) (n2:zF C.own o=true) (n3:∀ x ∈ mid,zF C.own x=false) (hloud:o.k.zE=false)
  (hw:un=false->uK (zG ops.toList []) pre.length mid (pre.length+1)= true)
  (h:tL C σ pre f fun f1=>opV C σ (evO f1) o.k fun d σ1=>bY7 C pre o.dst mid un f σ (fun f σ=>pR C post f σ fun f σ=>Q .normal f σ) f1 d σ1) (G:Good C E a w f σ):(Code.region id ops true).wpIn C.F 0 C.P (LQ C E Q) a w:=by
 obtain⟨t1,h1,h2,h3,h4⟩:=yU _ _ h;obtain⟨d,σ1,g1,g2⟩:=pL hq h2;obtain⟨p1,p2⟩:=g2;obtain⟨t1',q1,q2,q3,q4⟩:=yU _ _ p1;obtain⟨t3,r1,r2,r3,r4⟩:=yU _ _ p2;obtain⟨ru,r2⟩:=r2;obtain⟨t2,s1,s2,s3⟩:=uE hq _ _ _ r2;have e0:SAt t1 σ=σ:=yC h4;have e3:SAt t3 σ1=σ1:=yC r4;have c2:Trace C (mid++post) ((FAt pre t1 f).put o.dst d) σ1 (t3++t2)/\ _/\_:=Trace.append r1 r3 (by rw [e3]; exact s1);have c1:Trace C (o :: (mid++post)) (FAt pre t1 f) (SAt t1 σ) ((d,σ1) :: (t3++t2)):=.cons (by simp only [yP,hg]; rw [e0]; exact g1) c2.1;obtain⟨k1,k2,k3⟩:=Trace.append h1 h3 c1;rw [<- hl] at k1 k2
 have hlen:(t1++(d,σ1) :: (t3++t2)).length=l.length:=by rw [hl]; simp [h3,r3,s3]
 have hv1:=sJ d1 q3 h3 q2;have lpre:∀ i,i<pre.length->l[i]?=pre[i]?:=fun i hi=>by rw [hl,List.getElem?_append_left hi]
 have lo:l[pre.length]?=some o:=by rw [hl,List.getElem?_append_right (by omega),Nat.sub_self]; rfl
 have lmid:∀ k,k<mid.length->l[pre.length+1+k]?=mid[k]?:=fun k hk=>by rw [hl,List.getElem?_append_right (by omega),show pre.length+1+k-pre.length=k+1 by omega,List.getElem?_cons_succ,List.getElem?_append_left hk]
 have mpre:∀ i,i<pre.length->mC C.own l i=false:=fun i hi=>by rw [vM ((lpre i hi).trans (List.getElem?_eq_getElem hi))]; exact n1 _ (List.getElem_mem _)
 have mo:mC C.own l pre.length=true:=by rw [vM lo]; exact n2
 have mmid:∀ k,k<mid.length->mC C.own l (pre.length+1+k)= false:=fun k hk=>by rw [vM ((lmid k hk).trans (List.getElem?_eq_getElem hk))]; exact n3 _ (List.getElem_mem _)
 have st0:∀ p,p<=pre.length->SAt ((t1++(d,σ1) :: (t3++t2)).take p) σ=σ:=fun p hp=>by rw [List.take_append_of_le_length (by omega)];exact yC fun x hx=>h4 x (List.mem_of_mem_take hx)
 have st1:∀ k,k<=mid.length->SAt ((t1++(d,σ1) :: (t3++t2)).take (pre.length+1+k)) σ=σ1:=fun k hk=>by rw [<- h3,show t1.length+1+k=t1.length+(k+1) by omega,List.take_length_add_append,List.take_succ_cons,List.take_append_of_le_length (by omega),rL];exact yC fun x hx=>r4 x (List.mem_of_mem_take hx)
 refine nO (mu:=mC C.own l) (E:=E) (Q:=LQ C E Q) hm hd hok k1 hlen (by rw [hl]; simp; omega) (fun m hms hmm=>?_) (fun i hi him=>?_) (fun i dop p his him hps hdop hns hor=>?_) (fun a w G'=>⟨_,_,G',?_⟩) G
 ·rcases Nat.lt_trichotomy m pre.length with h | h | h
  ·rw [mpre m h] at hmm; cases hmm
  ·subst h; rw [wF lo]; exact hloud
  ·obtain⟨k,rfl⟩:∃ k,m=pre.length+1+k:=⟨m-(pre.length+1),by omega⟩;rw [mmid k (by omega)] at hmm; cases hmm
 ·rcases Nat.lt_trichotomy i pre.length with h | h | h
  ·rw [st0 (i+1) (by omega),st0 i (by omega)]
  ·subst h; rw [mo] at him; cases him
  ·obtain⟨k,rfl⟩:∃ k,i=pre.length+1+k:=⟨i-(pre.length+1),by omega⟩;rw [show pre.length+1+k+1=pre.length+1+(k+1) by omega,st1 (k+1) (by omega),st1 k (by omega)]
 ·have hor:=hor pre.length (by omega) mo
  have hp:(p<=pre.length/\SAt ((t1++(d,σ1) :: (t3++t2)).take p) σ=σ)\/(pre.length<p/\SAt ((t1++(d,σ1) :: (t3++t2)).take p) σ=σ1):=by
   rcases Nat.lt_or_ge pre.length p with h | h
   ·obtain⟨k,rfl⟩:∃ k,p=pre.length+1+k:=⟨p-(pre.length+1),by omega⟩;exact .inr ⟨h,st1 k (by omega)⟩
   ·exact .inl ⟨h,st0 p h⟩
  rcases Nat.lt_trichotomy i pre.length with h | h | h
  ·have hdp:pre[i]?=some dop:=(lpre i h).symm.trans hdop;have x5:tK (t1++(d,σ1) :: (t3++t2)) i=tK t1 i:=by simp only [tK]; rw [List.getElem?_append_left (by omega)]
   have x6:FAt (l.take i) ((t1++(d,σ1) :: (t3++t2)).take i) f=FAt (pre.take i) (t1.take i) f:=by rw [hl,List.take_append_of_le_length (by omega),List.take_append_of_le_length (by omega)]
   rw [x5,x6]
   rcases hp with ⟨_,hp⟩ | ⟨_,hp⟩
   ·rw [hp]; exact wI h1 h3 rfl h4 hdp
   ·rw [hp]; exact wI q1 q3 hv1 q4 hdp
  ·subst h; rw [mo] at him; cases him
  ·obtain⟨k,rfl⟩:∃ k,i=pre.length+1+k:=⟨i-(pre.length+1),by omega⟩;have hk:k<mid.length:=by omega
   have hdp:mid[k]?=some dop:=(lmid k hk).symm.trans hdop
   have x5:tK (t1++(d,σ1) :: (t3++t2)) (pre.length+1+k)= tK t3 k:=by simp only [tK];rw [List.getElem?_append_right (by omega),h3,show pre.length+1+k-pre.length=k+1 by omega,List.getElem?_cons_succ,List.getElem?_append_left (by omega)]
   have x6:FAt (l.take (pre.length+1+k)) ((t1++(d,σ1) :: (t3++t2)).take (pre.length+1+k)) f=FAt (mid.take k) (t3.take k) ((FAt pre t1 f).put o.dst d):=by
    have y1:l.take (pre.length+1+k)= pre++o :: mid.take k:=by rw [hl,show pre.length+1+k=pre.length+(k+1) by omega,List.take_length_add_append,List.take_succ_cons,List.take_append_of_le_length (by omega)]
    have y2:(t1++(d,σ1) :: (t3++t2)).take (pre.length+1+k)= t1++(d,σ1) :: t3.take k:=by rw [<- h3,show t1.length+1+k=t1.length+(k+1) by omega,List.take_length_add_append,List.take_succ_cons,List.take_append_of_le_length (by omega)]
    rw [y1,y2,qK _ _ _ h3]; rfl
   rw [x5,x6]
   rcases hp with ⟨hp0,hp⟩ | ⟨_,hp⟩
   ·rw [hp]
    cases un with
    | false=> exfalso;have h2:=uS (hw rfl) k dop hdp hns;rw [hor.2 hp0] at h2; cases h2
    | true=> simp only [if_true] at ru;obtain⟨t3',u1,u2,u3,u4⟩:=yU _ _ ru;exact wI u1 u3 (sJ d2 u3 r3 u2) u4 hdp
   ·rw [hp]; exact wI r1 r3 rfl r4 hdp
 ·rw [k2,k3,e0];show Q .normal (FAt (mid++post) (t3++t2) ((FAt pre t1 f).put o.dst d)) (SAt (t3++t2) σ1);rw [c2.2.1,c2.2.2,e3];exact s2
theorem aPt {C:Cx} {E:Env} {ops:Array Oper} {l pre mid1 mid2 post:List DOp} {o o2:DOp} {s id:Nat} {f:Fr} {σ:St} {Q:Exit->Fr->St->Prop} {a:Act} {w:World} (hq:C.own.contains 77777=false) (hm:C.P.follows .mixedOrders=true)
  (hd:tD (aE C.P C.N C.own ops) ops.toList=some l) (hok:aZj ops.toList l s (mC C.own l)= true) (hl:l=pre++o :: (mid1++o2 :: (mid2++post))) (hs:s=pre.length+1+mid1.length+1+mid2.length) (d0:vU pre=true) (d1:vU mid1=true)
  (n1:∀ x ∈ pre,zF C.own x=false) (n2:zF C.own o=true) (n3:∀ x ∈ mid1,zF C.own x=false) (n4:zF C.own o2=true) (n5:∀ x ∈ mid2,zF C.own x=false) (hloud:o.k.zE=false) (hloud2:o2.k.zE=false)
  (hw1:uK (zG ops.toList []) pre.length mid1 (pre.length+1)= true) (hw2:uK (zG ops.toList []) (pre.length+1+mid1.length) mid2 (pre.length+1+mid1.length+1)= true)
  (h:wpD C (.aDh pre o mid1 o2 mid2 post) f σ Q) (G:Good C E a w f σ):(Code.region id ops true).wpIn C.F 0 C.P (LQ C E Q) a w:=by
 simp only [wpD] at h;have hg:=tX n2;have hg2:=tX n4;obtain⟨t1,h1,h2,h3,h4⟩:=yU _ _ h;obtain⟨da,σ1,g1,ga,g2⟩:=pL hq h2;obtain⟨ta,qa1,qa2,qa3,qa4⟩:=yU _ _ ga;obtain⟨t3,r1,r2,r3,r4⟩:=yU _ _ g2;obtain⟨db,σ2,gb1,gb,gc,gd⟩:=pL hq r2;obtain⟨tb,qb1,qb2,qb3,qb4⟩:=yU _ _ gb;obtain⟨tc,qc1,qc2,qc3,qc4⟩:=yU _ _ gc;obtain⟨t5,v1,v2,v3,v4⟩:=yU _ _ gd;obtain⟨t2,s1,s2,s3⟩:=uE hq _ _ _ v2;have e0:SAt t1 σ=σ:=yC h4;have e3:SAt t3 σ1=σ1:=yC r4;have e5:SAt t5 σ2=σ2:=yC v4;have c3:Trace C (mid2++post) _ σ2 (t5++t2)/\ _/\_:=Trace.append v1 v3 (by rw [e5]; exact s1);have c2:Trace C (o2 :: (mid2++post)) (FAt mid1 t3 ((FAt pre t1 f).put o.dst da)) (SAt t3 σ1) ((db,σ2) :: (t5++t2)):=.cons (by simp only [yP,hg2]; rw [e3]; exact gb1) c3.1;have c4:=Trace.append r1 r3 c2;have c1:Trace C (o :: (mid1++o2 :: (mid2++post))) (FAt pre t1 f) (SAt t1 σ) ((da,σ1) :: (t3++(db,σ2) :: (t5++t2))):=.cons (by simp only [yP,hg]; rw [e0]; exact g1) c4.1;obtain⟨k1,k2,k3⟩:=Trace.append h1 h3 c1;rw [<- hl] at k1 k2
 have hlen:(t1++(da,σ1) :: (t3++(db,σ2) :: (t5++t2))).length=l.length:=by rw [hl]; simp [h3,r3,v3,s3]
 have hva:=sJ d0 qa3 h3 qa2;have hvb:=sJ d0 qb3 h3 qb2;have hvc:=sJ d1 qc3 r3 qc2;have lpre:∀ i,i<pre.length->l[i]?=pre[i]?:=fun i hi=>by rw [hl,List.getElem?_append_left hi]
 have lo:l[pre.length]?=some o:=by rw [hl,List.getElem?_append_right (by omega),Nat.sub_self]; rfl
 have lmid:∀ k,k<mid1.length->l[pre.length+1+k]?=mid1[k]?:=fun k hk=>by rw [hl,List.getElem?_append_right (by omega),show pre.length+1+k-pre.length=k+1 by omega,List.getElem?_cons_succ,List.getElem?_append_left hk]
 have lo2:l[pre.length+1+mid1.length]?=some o2:=by rw [hl,List.getElem?_append_right (by omega),show pre.length+1+mid1.length-pre.length=mid1.length+1 by omega,List.getElem?_cons_succ,List.getElem?_append_right (by omega),Nat.sub_self]; rfl
 have lmid2:∀ k,k<mid2.length->l[pre.length+1+mid1.length+1+k]?=mid2[k]?:=fun k hk=>by rw [hl,List.getElem?_append_right (by omega),show pre.length+1+mid1.length+1+k-pre.length=(mid1.length+(k+1))+ 1 by omega,List.getElem?_cons_succ,List.getElem?_append_right (by omega),show mid1.length+(k+1)-mid1.length=k+1 by omega,List.getElem?_cons_succ,List.getElem?_append_left hk]
 have mpre:∀ i,i<pre.length->mC C.own l i=false:=fun i hi=>by rw [vM ((lpre i hi).trans (List.getElem?_eq_getElem hi))]; exact n1 _ (List.getElem_mem _)
 have mo:mC C.own l pre.length=true:=by rw [vM lo]; exact n2
 have mo2:mC C.own l (pre.length+1+mid1.length)= true:=by rw [vM lo2]; exact n4
 have mmid:∀ k,k<mid1.length->mC C.own l (pre.length+1+k)= false:=fun k hk=>by rw [vM ((lmid k hk).trans (List.getElem?_eq_getElem hk))]; exact n3 _ (List.getElem_mem _)
 have mmid2:∀ k,k<mid2.length->mC C.own l (pre.length+1+mid1.length+1+k)= false:=fun k hk=>by rw [vM ((lmid2 k hk).trans (List.getElem?_eq_getElem hk))]; exact n5 _ (List.getElem_mem _)
 have cases5:∀ i,i<s->i<pre.length\/i=pre.length\/(∃ k,k<mid1.length/\i=pre.length+1+k)\/i=pre.length+1+mid1.length\/∃ k,k<mid2.length/\i=pre.length+1+mid1.length+1+k:=fun i hi=>by
  rcases Nat.lt_trichotomy i pre.length with h | h | h
  ·exact .inl h
  ·exact .inr (.inl h)
  ·rcases Nat.lt_trichotomy i (pre.length+1+mid1.length) with g | g | g
   ·exact .inr (.inr (.inl ⟨i-(pre.length+1),by omega,by omega⟩))
   ·exact .inr (.inr (.inr (.inl g)))
   ·exact .inr (.inr (.inr (.inr ⟨i-(pre.length+1+mid1.length+1),by omega,by omega⟩)))
 have tk:∀ k,k<=mid1.length->(t1++(da,σ1) :: (t3++(db,σ2) :: (t5++t2))).take (pre.length+1+k)= t1++(da,σ1) :: t3.take k:=fun k hk=>by rw [<- h3,show t1.length+1+k=t1.length+(k+1) by omega,List.take_length_add_append,List.take_succ_cons,List.take_append_of_le_length (by omega)]
 have tk2:∀ k,k<=mid2.length->(t1++(da,σ1) :: (t3++(db,σ2) :: (t5++t2))).take (pre.length+1+mid1.length+1+k)= t1++(da,σ1) :: (t3++(db,σ2) :: t5.take k):=fun k hk=>by rw [<- h3,<- r3,show t1.length+1+t3.length+1+k=t1.length+((t3.length+(k+1))+ 1) by omega,List.take_length_add_append,List.take_succ_cons,List.take_length_add_append,List.take_succ_cons,List.take_append_of_le_length (by omega)]
 have st0:∀ p,p<=pre.length->SAt ((t1++(da,σ1) :: (t3++(db,σ2) :: (t5++t2))).take p) σ=σ:=fun p hp=>by rw [List.take_append_of_le_length (by omega)];exact yC fun x hx=>h4 x (List.mem_of_mem_take hx)
 have st1:∀ k,k<=mid1.length->SAt ((t1++(da,σ1) :: (t3++(db,σ2) :: (t5++t2))).take (pre.length+1+k)) σ=σ1:=fun k hk=>by rw [tk k hk,rL];exact yC (t:=t3.take k) fun x hx=>r4 x (List.mem_of_mem_take hx)
 have st2:∀ k,k<=mid2.length->SAt ((t1++(da,σ1) :: (t3++(db,σ2) :: (t5++t2))).take (pre.length+1+mid1.length+1+k)) σ=σ2:=fun k hk=>by rw [tk2 k hk,rL];show SAt (t3++(db,σ2) :: t5.take k) σ1=σ2;rw [rL];exact yC (t:=t5.take k) fun x hx=>v4 x (List.mem_of_mem_take hx)
 refine nO (mu:=mC C.own l) (E:=E) (Q:=LQ C E Q) hm hd hok k1 hlen (by rw [hl]; simp; omega) (fun m hms hmm=>?_) (fun i hi him=>?_) (fun i dop p his him hps hdop hns hor=>?_) (fun a w G'=>⟨_,_,G',?_⟩) G
 ·rcases cases5 m hms with h | rfl | ⟨k,hk,rfl⟩ | rfl | ⟨k,hk,rfl⟩
  ·rw [mpre m h] at hmm; cases hmm
  ·rw [wF lo]; exact hloud
  ·rw [mmid k hk] at hmm; cases hmm
  ·rw [wF lo2]; exact hloud2
  ·rw [mmid2 k hk] at hmm; cases hmm
 ·rcases cases5 i hi with h | rfl | ⟨k,hk,rfl⟩ | rfl | ⟨k,hk,rfl⟩
  ·rw [st0 (i+1) (by omega),st0 i (by omega)]
  ·rw [mo] at him; cases him
  ·rw [show pre.length+1+k+1=pre.length+1+(k+1) by omega,st1 (k+1) (by omega),st1 k (by omega)]
  ·rw [mo2] at him; cases him
  ·rw [show pre.length+1+mid1.length+1+k+1=pre.length+1+mid1.length+1+(k+1) by omega,st2 (k+1) (by omega),st2 k (by omega)]
 ·have ha:=hor pre.length (by omega) mo;have hb:=hor (pre.length+1+mid1.length) (by omega) mo2
  have hp:(p<=pre.length/\SAt ((t1++(da,σ1) :: (t3++(db,σ2) :: (t5++t2))).take p) σ=σ)\/(pre.length<p/\p<=pre.length+1+mid1.length/\SAt ((t1++(da,σ1) :: (t3++(db,σ2) :: (t5++t2))).take p) σ=σ1) \/
    (pre.length+1+mid1.length<p/\SAt ((t1++(da,σ1) :: (t3++(db,σ2) :: (t5++t2))).take p) σ=σ2):=by
   rcases Nat.lt_or_ge pre.length p with h | h
   ·rcases Nat.lt_or_ge (pre.length+1+mid1.length) p with g | g
    ·obtain⟨k,rfl⟩:∃ k,p=pre.length+1+mid1.length+1+k:=⟨p-(pre.length+1+mid1.length+1),by omega⟩;exact .inr (.inr ⟨g,st2 k (by omega)⟩)
    ·obtain⟨k,rfl⟩:∃ k,p=pre.length+1+k:=⟨p-(pre.length+1),by omega⟩;exact .inr (.inl ⟨h,g,st1 k (by omega)⟩)
   ·exact .inl ⟨h,st0 p h⟩
  rcases cases5 i his with h | rfl | ⟨k,hk,rfl⟩ | rfl | ⟨k,hk,rfl⟩
  ·have hdp:pre[i]?=some dop:=(lpre i h).symm.trans hdop;have x5:tK (t1++(da,σ1) :: (t3++(db,σ2) :: (t5++t2))) i=tK t1 i:=by simp only [tK]; rw [List.getElem?_append_left (by omega)]
   have x6:FAt (l.take i) ((t1++(da,σ1) :: (t3++(db,σ2) :: (t5++t2))).take i) f=FAt (pre.take i) (t1.take i) f:=by rw [hl,List.take_append_of_le_length (by omega),List.take_append_of_le_length (by omega)]
   rw [x5,x6]
   rcases hp with ⟨_,hp⟩ | ⟨_,_,hp⟩ | ⟨_,hp⟩
   ·rw [hp]; exact wI h1 h3 rfl h4 hdp
   ·rw [hp]; exact wI qa1 qa3 hva qa4 hdp
   ·rw [hp]; exact wI qb1 qb3 hvb qb4 hdp
  ·rw [mo] at him; cases him
  ·have hdp:mid1[k]?=some dop:=(lmid k hk).symm.trans hdop
   have x5:tK (t1++(da,σ1) :: (t3++(db,σ2) :: (t5++t2))) (pre.length+1+k)= tK t3 k:=by simp only [tK];rw [List.getElem?_append_right (by omega),h3,show pre.length+1+k-pre.length=k+1 by omega,List.getElem?_cons_succ,List.getElem?_append_left (by omega)]
   have x6:FAt (l.take (pre.length+1+k)) ((t1++(da,σ1) :: (t3++(db,σ2) :: (t5++t2))).take (pre.length+1+k)) f=FAt (mid1.take k) (t3.take k) ((FAt pre t1 f).put o.dst da):=by
    have y1:l.take (pre.length+1+k)= pre++o :: mid1.take k:=by rw [hl,show pre.length+1+k=pre.length+(k+1) by omega,List.take_length_add_append,List.take_succ_cons,List.take_append_of_le_length (by omega)]
    rw [y1,tk k (by omega),qK _ _ _ h3]; rfl
   rw [x5,x6]
   rcases hp with ⟨hp0,hp⟩ | ⟨_,_,hp⟩ | ⟨_,hp⟩
   ·exfalso;have h2:=uS hw1 k dop hdp hns;rw [ha.2 hp0] at h2; cases h2
   ·rw [hp]; exact wI r1 r3 rfl r4 hdp
   ·rw [hp]; exact wI qc1 qc3 hvc qc4 hdp
  ·rw [mo2] at him; cases him
  ·have hdp:mid2[k]?=some dop:=(lmid2 k hk).symm.trans hdop
   have x5:tK (t1++(da,σ1) :: (t3++(db,σ2) :: (t5++t2))) (pre.length+1+mid1.length+1+k)= tK t5 k:=by simp only [tK];rw [List.getElem?_append_right (by omega),h3,show pre.length+1+mid1.length+1+k-pre.length=(t3.length+(k+1))+ 1 by omega,List.getElem?_cons_succ,List.getElem?_append_right (by omega),show t3.length+(k+1)-t3.length=k+1 by omega,List.getElem?_cons_succ,List.getElem?_append_left (by omega)]
   have x6:FAt (l.take (pre.length+1+mid1.length+1+k)) ((t1++(da,σ1) :: (t3++(db,σ2) :: (t5++t2))).take (pre.length+1+mid1.length+1+k)) f=FAt (mid2.take k) (t5.take k) ((FAt mid1 t3 ((FAt pre t1 f).put o.dst da)).put o2.dst db):=by
    have y1:l.take (pre.length+1+mid1.length+1+k)= pre++o :: (mid1++o2 :: mid2.take k):=by rw [hl,show pre.length+1+mid1.length+1+k=pre.length+((mid1.length+(k+1))+ 1) by omega,List.take_length_add_append,List.take_succ_cons,List.take_length_add_append,List.take_succ_cons,List.take_append_of_le_length (by omega)]
    rw [y1,tk2 k (by omega),qK _ _ _ h3];show FAt (mid1++o2 :: mid2.take k) (t3++(db,σ2) :: t5.take k) _=_;rw [qK _ _ _ r3]; rfl
   rw [x5,x6]
   rcases hp with ⟨hp0,hp⟩ | ⟨_,hp0,hp⟩ | ⟨_,hp⟩
   ·exfalso;have h2:=uS hw2 k dop hdp hns;rw [hb.2 (by omega)] at h2; cases h2
   ·exfalso;have h2:=uS hw2 k dop hdp hns;rw [hb.2 hp0] at h2; cases h2
   ·rw [hp]; exact wI v1 v3 rfl v4 hdp
 ·rw [k2,k3,e0];show Q .normal (FAt (mid1++o2 :: (mid2++post)) (t3++(db,σ2) :: (t5++t2)) ((FAt pre t1 f).put o.dst da)) (SAt (t3++(db,σ2) :: (t5++t2)) σ1);rw [c4.2.1,c4.2.2,e3];show Q .normal (FAt (mid2++post) (t5++t2) _) (SAt (t5++t2) σ2);rw [c3.2.1,c3.2.2,e5];exact s2
theorem oJ {C:Cx} (hm:C.P.follows .mixedOrders=true):∀ (code:Code) (dc:DC) (f:Fr) (σ:St) (Q:Exit->Fr->St->Prop),mkC C.P C.N C.own code=some dc->wpD C dc f σ Q ->
  ∀ E a w,Good C E a w f σ->code.wpIn C.F 0 C.P (LQ C E Q) a w
 | .skip,dc,f,σ,Q,hc,h,E,a,w,G=>by simp [mkC] at hc; subst hc;exact wpIn_skip ⟨f,σ,G,h⟩
 | .exit id,dc,f,σ,Q,hc,h,E,a,w,G=>by simp [mkC] at hc; subst hc;exact wpIn_exit ⟨f,σ,G,h⟩
 | .ret,dc,f,σ,Q,hc,h,E,a,w,G=>by simp [mkC] at hc; subst hc;exact wpIn_ret ⟨f,σ,G,h⟩
 | .region id ops draw,dc,f,σ,Q,hc,h,E,a,w,G=>by
  have hc0:=hc;rcases wM hc with ⟨x0,y0,hdc⟩ | ⟨_,⟨_,_,_,_,rfl⟩ | ⟨_,_,_,_,rfl⟩ | ⟨_,_,_,_,rfl⟩⟩ | ⟨_,_,⟨_,_,_,rfl⟩,_⟩
  rotate_left
  ·simp only [wpD] at h
  ·simp only [wpD] at h
  ·simp only [wpD] at h
  ·simp only [wpD] at h
  have hno:aZf C.P C.N C.own ops draw=none:=by
   cases hmk:aZf C.P C.N C.own ops draw with
   | none=>rfl
   | some d=>
    simp only [mkC,hmk,Option.some.injEq] at hc;subst hc;rcases nT hmk with ⟨_,hi⟩ | ⟨_,hi,_⟩
    case inr=>obtain⟨_,_,_,_,_,_,_,_,_,_,_,_,_,_,_,e⟩:=uF hi; rw [e] at hdc; cases hdc
    rcases hi with hi | hi | hi
    ·obtain⟨_,_,_,_,_,_,_,_,_,_,_,_,_,_,_,e⟩:=uF hi; rw [e] at hdc; cases hdc
    ·obtain⟨_,_,_,_,_,_,_,_,_,_,_,_,_,_,e⟩:=oV hi; rw [e] at hdc; cases hdc
    ·obtain⟨_,_,_,_,_,_,_,_,_,_,_,e⟩:=oU hi; rw [e] at hdc; cases hdc
  simp only [mkC,hno,Option.bind_eq_bind,Option.bind_eq_some_iff] at hc;obtain⟨l,hl,hc⟩:=hc
  cases draw with
  | false=> simp at hc; subst hc;simp only [wpD,tL] at h;exact wpIn_region_list (iK (E:=E) (Q:=LQ C E Q) (fun a w f σ G h=>⟨f,σ,G,h⟩) ops.toList l a w f σ hl G h)
  | true=>
   simp only [if_true] at hc
   split at hc
   ·rename_i hok;obtain⟨hq,hok⟩:=hok
    have hsl:tP C.own l<=l.length:=by
     have:∀ ks:List DOp,tP C.own ks<=ks.length:=by
      intro ks
      induction ks with
      | nil=>simp [tP]
      | cons k ks ih=>simp only [tP]; split <;> simp <;> omega
     exact this l
    generalize tP C.own l=s at hok hc hsl;have htd:=List.take_append_drop s l;have hls:(l.take s).length=s:=by rw [List.length_take]; omega
    cases hv:aSp C.own ops.toList l s with
    | some d=> rw [hv] at hc;cases hc;obtain⟨_,_,_,_,_,_,rfl,_⟩:=nV hv;simp only [wpD] at h;exact h _ hc0 E a w G
    | none=>
    rw [hv] at hc
    rcases qC hc with ⟨rfl,hno2⟩ | ⟨pre,o,mid,un,hO,rfl,hw⟩ | ⟨pre,o,mid1,o2,mid2,hO,hsp,d0,n1,n2,hns,rfl,hw1,hw2⟩
    ·simp only [wpD] at h;obtain⟨t1,h1,h2,h3,h4⟩:=yU _ _ h;obtain⟨t2,g1,g2,g3⟩:=uE hq _ _ _ h2;have e0:SAt t1 σ=σ:=yC h4;have g1':Trace C (l.drop s) (FAt (l.take s) t1 f) (SAt t1 σ) t2:=by rw [e0]; exact g1
     obtain⟨k1,k2,k3⟩:=Trace.append h1 h3 g1';rw [List.take_append_drop] at k1 k2
     have hlen:(t1++t2).length=l.length:=by rw [List.length_append,h3,g3,<- List.length_append,List.take_append_drop]
     have hmz:∀ m,m<s->mC C.own l m=false:=fun m hm=>by
      have hml:m<(l.take s).length:=by omega
      have:l[m]?=some ((l.take s)[m]):=by rw [<- List.getElem?_eq_getElem hml,List.getElem?_take,if_pos hm]
      rw [vM this]; exact hno2 _ (List.getElem_mem _)
     have hst:∀ p,p<=s->SAt ((t1++t2).take p) σ=σ:=fun p hp=>by rw [List.take_append_of_le_length (by omega)];exact yC fun x hx=>h4 x (List.mem_of_mem_take hx)
     refine nO (mu:=mC C.own l) (E:=E) (Q:=LQ C E Q) hm hl hok k1 hlen hsl (fun m hms hmm=>by rw [hmz m hms] at hmm; cases hmm) (fun i hi _=>by rw [hst (i+1) (by omega),hst i (by omega)]) (fun i dop p his _ hps hdop _ _=>?_) (fun a w G'=>⟨_,_,G',?_⟩) G
     ·rw [hst p hps];have x5:tK (t1++t2) i=tK t1 i:=by simp only [tK]; rw [List.getElem?_append_left (by omega)]
      have x6:FAt (l.take i) ((t1++t2).take i) f=FAt ((l.take s).take i) (t1.take i) f:=by rw [List.take_append_of_le_length (by omega),List.take_take,Nat.min_eq_left (by omega)]
      rw [x5,x6];exact wI h1 h3 rfl h4 (by rw [List.getElem?_take,if_pos his]; exact hdop)
     ·rw [k2,k3,e0];exact g2
    ·have hsp:l=pre++o :: (mid++l.drop s):=by
      conv=>lhs; rw [<- htd,hO.eq]
      simp
     simp only [wpD] at h;refine aPs (s:=s) hq hm hl hok hsp ?_ hO.d1 hO.d2 (tX hO.n2) hO.n1 hO.n2 hO.n3 hO.bY8 hw h G;have:=congrArg List.length hO.eq;rw [hls] at this;simp at this; omega
    ·have hsp2:l=pre++o :: (mid1++o2 :: (mid2++l.drop s)):=by
      conv=>lhs; rw [<- htd,hsp]
      simp
     refine aPt (s:=s) hq hm hl hok hsp2 ?_ d0 hO.d1 n1 n2 hO.n1 hO.n2 hO.n3 hns hO.bY8 hw1 hw2 h G;have:=congrArg List.length hsp;rw [hls] at this;simp at this; omega
   ·split at hc
    ·obtain⟨_,_,_,_,_,_,_,rfl,_⟩:=nU hc;simp only [wpD] at h;exact h _ hc0 E a w G
    ·simp at hc
 | .seq x y,dc,f,σ,Q,hc,h,E,a,w,G=>by
  simp only [mkC,zO] at hc;obtain⟨dx,hx,dy,hy,hc⟩:=hc;rcases zK dx dy with e | ⟨pre,it,m,out,nx,more,next,pair,rest,code,rfl,rfl,e,d1,d2,d3⟩
  case inr=> rw [e] at hc;subst hc;simp only [wpD] at h;exact aTu hm hx hy d1 d2 d3 h E a w G
  rw [e] at hc;subst hc;refine wpIn_seq (wpIn_mono (oJ hm x dx f σ _ hx h E a w G) fun e a w ⟨f',σ',G',hQ⟩=>?_)
  cases e with
  | normal=>exact oJ hm y dy f' σ' Q hy hQ E a w G'
  | exit id=>exact⟨f',σ',G',hQ⟩
  | goto l=>exact⟨f',σ',G',hQ⟩
  | ret=>exact⟨f',σ',G',hQ⟩
  | panic ch=>exact⟨f',σ',G',hQ⟩
  | outgrown=>exact⟨f',σ',G',hQ⟩
 | .cond c x y,dc,f,σ,Q,hc,h,E,a,w,G=>by
  simp only [mkC,zO] at hc;obtain⟨c',hc',dx,hx,dy,hy,rfl⟩:=hc;simp only [wpD] at h
  split at h
  ·rename_i t ht;have G0:=G;obtain⟨ι,G0⟩:=G0;have:=(ht ▸ rB G0.fr hc').qF;exact wpIn_cond_split this (fun e=>oJ hm x dx f σ Q hx ((bYm h).1 e) E a w G) (fun e=>oJ hm y dy f σ Q hy ((bYm h).2 e) E a w G)
  ·exact h.elim
 | .block id c,dc,f,σ,Q,hc,h,E,a,w,G=>by
  simp only [mkC,zO] at hc;obtain⟨dx,hx,rfl⟩:=hc;refine wpIn_block (wpIn_mono (oJ hm c dx f σ _ hx h E a w G) fun e a w ⟨f',σ',G',hQ⟩=>?_)
  cases e with
  | exit i=>
   simp only [Exit.inBlock];simp only [tF] at hQ
   split
   ·rename_i he; rw [if_pos he] at hQ; exact⟨f',σ',G',hQ⟩
   ·rename_i he; rw [if_neg he] at hQ; exact⟨f',σ',G',hQ⟩
  | normal=>exact⟨f',σ',G',hQ⟩
  | goto l=>exact⟨f',σ',G',hQ⟩
  | ret=>exact⟨f',σ',G',hQ⟩
  | panic ch=>exact⟨f',σ',G',hQ⟩
  | outgrown=>exact⟨f',σ',G',hQ⟩
 | .loop c,dc,f,σ,Q,hc,h,E,a,w,G=>by have hc0:=hc;simp only [mkC,zO] at hc;obtain⟨dx,hx,rfl⟩:=hc;exact h _ hc0 E a w G
 | .rangeFunc g ps x y,dc,f,σ,Q,hc,h,E,a,w,G=>by have hc0:=hc;simp only [mkC,zO] at hc;obtain⟨g',_,dx,hx,dy,hy,rfl⟩:=hc;exact h _ hc0 E a w G
 | .scope _,dc,f,σ,Q,hc,h,E,a,w,G=>by simp [mkC] at hc
 | .label _,dc,f,σ,Q,hc,h,E,a,w,G=>by simp [mkC] at hc
 | .goto _,dc,f,σ,Q,hc,h,E,a,w,G=>by simp [mkC] at hc
 | .refuse _,dc,f,σ,Q,hc,h,E,a,w,G=>by simp [mkC] at hc
theorem aDr {C:Cx} (hm:C.P.follows .mixedOrders=true) {dc:DC} {f:Fr} {σ:St} {Q:Exit->Fr->St->Prop} (h:wpD C dc f σ Q):wpS C dc f σ Q:= fun code hc E a w G=>oJ hm code dc f σ Q hc h E a w G
theorem aHs {C:Cx} {dc:DC} {f:Fr} {σ:St} {Q Q':Exit->Fr->St->Prop} (h:wpS C dc f σ Q) (hq:∀ e f σ,Q e f σ->Q' e f σ):wpS C dc f σ Q':= fun code hc E a w G=>wpIn_mono (h code hc E a w G) fun e a w ⟨f,σ,G,hQ⟩=>⟨f,σ,G,hq _ _ _ hQ⟩
def xM (C:Cx) (f:Fr) (σ:St) (f':Fr) (σ':St):Prop:=∀ E a w,Good C E a w f σ->Good C E a w f' σ'
theorem xM.refl {C:Cx} {f:Fr} {σ:St}:xM C f σ f σ:=fun _ _ _ G=>G
theorem xQ {C:Cx} {dc:DC} {f:Fr} {σ:St} {Q:Exit->Fr->St->Prop} {α:Type} (g:α->Fr) (s:α->St) (I:α->Prop) (m:α->Nat) (a0:α) (h0:I a0) (hw:xM C f σ (g a0) (s a0))
  (round:∀ a,I a->wpS C dc (g a) (s a) (mV (fun f' σ'=>∃ a',I a'/\xM C f' σ' (g a') (s a')/\ m a'<m a) Q)):wpS C (.loop dc) f σ Q:=by
 intro code hc E a w G b k cs hro hb hr;obtain⟨c,rfl,hx⟩:=aRu hc
 have key:∀ n p,m p=n->I p->∀ a w,Good C E a w (g p) (s p) ->
   ∃ e a' w',LQ C E Q e a' w'/\ArrivesIn (Machine.fenced C.P C.F) C.P (lone (b.atR a (.code c :: .inLoop c :: k)) cs w) b k cs e a' w':=by
  intro n
  induction n using Nat.strongRecOn with
  | _ n ih=>
   intro p hp hI a w G;obtain⟨e,a₁,w₁,⟨f₁,σ₁,G₁,hq⟩,harr⟩:=round p hI c hx E a w G b (.inLoop c :: k) cs hro hb hr
   cases e with
   | normal=> obtain⟨p',hI',hwk,hlt⟩:=hq;obtain⟨e₂,a₂,w₂,hq₂,harr₂⟩:=ih (m p') (hp ▸ hlt) p' rfl hI' a₁ w₁ (hwk E a₁ w₁ G₁);exact⟨e₂,a₂,w₂,hq₂,.of_steps (StepsIn.trans harr (.one (fenced_calm hb hr rfl) stepR_inLoop)) harr₂⟩
   | exit id=>exact⟨_,a₁,w₁,⟨f₁,σ₁,G₁,hq⟩,.pass (x:=.inLoop c) rfl (fun _ _=>.inl (by simp)) harr⟩
   | goto l=>exact⟨_,a₁,w₁,⟨f₁,σ₁,G₁,hq⟩,.pass (x:=.inLoop c) rfl (fun _ _=>.inl (by simp)) harr⟩
   | ret=>exact⟨_,a₁,w₁,⟨f₁,σ₁,G₁,hq⟩,.pass (x:=.inLoop c) rfl (fun _ _=>.inl (by simp)) harr⟩
   | panic ch=>exact⟨_,a₁,w₁,⟨f₁,σ₁,G₁,hq⟩,.pass (x:=.inLoop c) rfl (fun _ _=>.inl (by simp)) harr⟩
   | outgrown=>exact⟨_,a₁,w₁,⟨f₁,σ₁,G₁,hq⟩,.pass (x:=.inLoop c) rfl (fun _ _=>.inl (by simp)) harr⟩
 obtain⟨e,a',w',hq,harr⟩:=key _ a0 rfl h0 a w (hw E a w G);exact⟨e,a',w',hq,.of_steps (.one (fenced_calm hb hr rfl) stepR_loop) harr⟩
end Go.Pd
