/- Part X4. -/
import Derived.Test.YtjmfdgonjighpaaZqX3
import Derived.Still
import Derived.StillTail
import Derived.Maps.RangeRun
set_option linter.unusedSectionVars false
set_option linter.unusedVariables false
set_option linter.unusedSimpArgs false
set_option linter.defProp false
open List renaming getElem?_eq_getElem->γ,take_append_of_le_length->δ,getElem?_append_left->ε,getElem?_append_right->ζ,take_length_add_append->η,getElem?_cons_succ->θ,take_succ_cons->κ,mem_of_mem_take->μ,take_append_drop->ν,take_length->ξ,length_take->ο,getElem_mem->π,all_eq_true->υ,mem_range->χ,map_congr_left->ψ,mem_filter->ω,getElem?_take->Aa,findIdx?_eq_some_iff_getElem->Ab,getElem_of_mem->Ac,mem_singleton->Ad,length_append->Ae,findIdx?_eq_none_iff->Af,drop_eq_getElem_cons->Ag,getElem?_eq_none->Ah,length_filter_lt_length_iff_exists->Ai,length_cons->Aj,eq_nil_of_length_eq_zero->Ak,mem_append->Al,getElem?_eq_some_iff->Am,mem_map->An,mem_append_left->Ao,dropLast_concat->Ap,reverse_cons->Aq,getElem?_map->Ar,ext_getElem?->As,getElem_map->Au
open Option renaming bind_eq_some_iff->Av,getD_some->Aw,bind_eq_bind->Ax,map_some->Ay,isNone_iff_eq_none->Az,map_eq_some_iff->A0,bind_some->A3
open Nat renaming le_refl->A4,lt_trichotomy->A5,lt_or_ge->A6,min_eq_right->A7,strongRecOn->A8,sub_self->A9
open Bool renaming and_eq_true->Ba,not_eq_true'->Bb,or_eq_true->Bc,false_eq_true->Be,and_eq_false_iff->Bf
open Array renaming getElem?_eq_some_iff->Bg,getElem?_setIfInBounds->Bh,mem_toList_iff->Bi,length_toList->Bj,mem_filter->Bk
namespace Go.Pd
open Go
variable [vA]
theorem Rl {op:BinOp} {k k':IntKind} {a b:Int} {K:D->Prop} (h:qI op k a k' b K):∃ d,qI op k a k' b (λx=>x=d)/\ K d:=by
 cases op <;> simp only [qI] at h ⊢
 all_goals first
  | exact⟨_,⟨h.1,h.2.1,rfl⟩,h.2.2⟩
  | exact⟨_,⟨h.1,rfl⟩,h.2⟩
theorem YZ {C:Cx} {σ:St} {ev:vK->D} {k:DK} {K:D->Prop} (h:pW C σ ev k K):∃ d,pW C σ ev k (λx=>x=d)/\ K d:=by
 cases k <;> simp only [pW] at h ⊢
 case mv x=>exact⟨_,rfl,h⟩
 case j7=>exact⟨_,rfl,h⟩
 case pick c x y=>
  split at h
  ·rename_i t ht
   cases t
   ·exact⟨_,bM (by simp) (λ_=>rfl),(ZX h).2 rfl⟩
   ·exact⟨_,bM (λ_=>rfl) (by simp),(ZX h).1 rfl⟩
  ·exact h.elim
 case bin op x y=>
  split at h
  ·exact Rl h
  ·exact h.elim
 case Zg sz x lo hi=>
  split at h
  ·obtain⟨h1,l,hh,h2,h3,h4,h5,h6,h7⟩:=h;exact⟨_,⟨h1,l,hh,h2,h3,h4,h5,h6,rfl⟩,h7⟩
  ·obtain⟨h1,l,hh,h2,h3,h4,h5,h6,h7⟩:=h;exact⟨_,⟨h1,l,hh,h2,h3,h4,h5,h6,rfl⟩,h7⟩
  ·obtain⟨h1,l,hh,h2,h3,h4,h5,h6,h7⟩:=h;exact⟨_,⟨h1,l,hh,h2,h3,h4,h5,h6,rfl⟩,h7⟩
  ·exact h.elim
 case call fn args=>
  split at h
  ·obtain⟨d,h1,h2⟩:=h;exact⟨d,⟨d,h1,rfl⟩,h2⟩
  ·exact h.elim
 case load n ag x=>
  split at h
  ·split at h
   ·exact⟨_,⟨h.1,h.2.1,h.2.2.1,h.2.2.2.1,rfl⟩,h.2.2.2.2⟩
   ·exact h.elim
  ·exact⟨_,⟨h.1,h.2.1,rfl⟩,h.2.2⟩
  ·obtain⟨ds,h1,h2,h3,h4⟩:=h;exact⟨_,⟨ds,h1,h2,h3,rfl⟩,h4⟩
  ·exact h.elim
 case fH zero ok m k=>
  split at h
  ·split at h
   ·exact⟨_,⟨h.1,h.2.1,rfl⟩,h.2.2⟩
   ·exact h.elim
  ·exact⟨_,rfl,h⟩
  ·exact h.elim
 case fg n x=>
  split at h
  ·split at h
   ·obtain⟨h1,h2,h3,h4,h5⟩:=h;exact⟨_,⟨h1,h2,h3,h4,rfl⟩,h5⟩
   ·exact h.elim
  ·exact h.elim
 case mW n zero ok m k=>
  split at h
  ·split at h
   ·obtain⟨h0,x,l,h1,h2⟩:=h;exact⟨_,⟨h0,x,l,h1,rfl⟩,h2⟩
   ·exact h.elim
  ·exact h.elim
 case geq neg n x y=>
  split at h
  ·split at h
   ·exact⟨_,⟨h.1,h.2.1,rfl⟩,h.2.2⟩
   ·exact h.elim
  ·exact h.elim
 case fk x=>
  split at h
  ·split at h
   ·exact⟨_,⟨h.1,h.2.1,rfl⟩,h.2.2⟩
   ·exact h.elim
  ·exact h.elim
 all_goals first
  | exact h.elim
  | (split at h <;> first | exact h.elim | exact⟨_,rfl,h⟩ | exact⟨_,⟨h.1,rfl⟩,h.2⟩ | exact⟨_,⟨h.1,h.2.1,rfl⟩,h.2.2⟩ | exact⟨_,⟨h.1,h.2.1,h.2.2.1,rfl⟩,h.2.2.2⟩)
theorem nW {C:Cx} {σ:St} {ev:vK->D} {k:DK} {K:D->St->Prop} (hq:C.own.contains 77777=false) (h:zC C σ ev k K):∃ d σ',zC C σ ev k (λx y=>x=d/\y=σ')/\ K d σ':=by
 by_cases hp:k.impure=true
 ·cases k <;> simp only [DK.impure] at hp <;> (try (simp at hp; done)) <;> simp only [zC] at h ⊢
  case box x=>
   split at h
   ·exact⟨_,_,⟨h.1,h.2.1,rfl,rfl⟩,h.2.2⟩
   ·exact h.elim
  case alloc z=>exact⟨_,_,⟨h.1,h.2.1,rfl,rfl⟩,h.2.2⟩
  case store n a x=>
   split at h
   ·split at h
    ·obtain⟨h1,h2,h3,h4,h5,h6⟩:=h;exact⟨_,_,⟨h1,h2,h3,h4,h5,rfl,rfl⟩,h6⟩
    ·exact h.elim
   ·exact h.elim
  case app sz bytes x y=>
   split at h
   ·exact h.elim
   ·rename_i rows hr;obtain⟨h0,h⟩:=h
    split at h
    ·obtain⟨h1,h2,h3,h4⟩:=h
     by_cases zL:rows = []
     ·exact⟨_,_,⟨h0,h1,h2,λ_=>⟨rfl,rfl⟩,λhn=>absurd zL hn⟩,h3 zL⟩
     ·exact⟨_,_,⟨h0,h1,h2,λhn=>absurd hn zL,λ_=>⟨rfl,rfl⟩⟩,h4 zL⟩
    ·split at h
     ·obtain⟨h1,h2,h3,h4,h5,h6⟩:=h;exact⟨_,_,⟨h0,h1,h2,h3,h4,h5,rfl,rfl⟩,h6⟩
     ·exact h.elim
    ·split at h
     ·rw [hq] at h; exact absurd h.1 (by simp)
     ·exact h.elim
    ·exact h.elim
  case jF=>
   split at h
   ·obtain⟨h1,h2,h3,h4,h5⟩:=h;exact⟨_,_,⟨h1,h2,h3,h4,rfl,rfl⟩,h5⟩
   ·exact h.elim
  case lZ=>
   split at h
   ·exact⟨_,_,⟨h.1,rfl,rfl⟩,h.2⟩
   ·exact h.elim
  case j9=>
   split at h
   ·exact⟨_,_,⟨rfl,rfl⟩,h⟩
   ·exact⟨_,_,⟨rfl,rfl⟩,h⟩
   ·split at h
    ·obtain⟨h1,h2,h3,h4,h5,h6⟩:=h;exact⟨_,_,⟨h1,h2,h3,h4,h5,rfl,rfl⟩,h6⟩
    ·exact h.elim
   ·split at h
    ·obtain⟨h1,h2,h3,h4,h5,h6⟩:=h;exact⟨_,_,⟨h1,h2,h3,h4,h5,rfl,rfl⟩,h6⟩
    ·exact h.elim
   ·exact h.elim
  case j5=>
   split at h
   ·exact h.elim
   ·obtain⟨h0,h⟩:=h
    split at h
    ·split at h
     ·obtain⟨h1,h2,h3,h4,h5⟩:=h;exact⟨_,_,⟨h0,h1,h2,h3,h4,rfl,rfl⟩,h5⟩
     ·exact h.elim
    ·split at h
     ·obtain⟨h1,h2,h3,h4,h5⟩:=h;exact⟨_,_,⟨h0,h1,h2,h3,h4,rfl,rfl⟩,h5⟩
     ·exact h.elim
    ·exact h.elim
  case call fn args=>
   split at h
   ·obtain⟨d,σ',h1,h2⟩:=h;exact⟨d,σ',⟨d,σ',h1,rfl,rfl⟩,h2⟩
   ·exact h.elim
  case yu=>exact⟨_,_,⟨rfl,rfl⟩,h⟩
  case nA=>
   split at h
   ·split at h
    ·exact⟨_,_,⟨h.1,h.2.1,rfl,rfl⟩,h.2.2⟩
    ·exact h.elim
   ·exact h.elim
  case qU=>
   split at h
   ·split at h
    ·obtain⟨h0,x,l,h1,h2⟩:=h;exact⟨_,_,⟨h0,x,l,h1,rfl,rfl⟩,h2⟩
    ·exact h.elim
   ·exact h.elim
  case fF=>
   split at h
   ·split at h
    ·obtain⟨h1,h2,h3,h4⟩:=h
     split at h4
     ·rename_i i d hf;exact⟨_,_,⟨h1,h2,h3,rfl,rfl⟩,h4⟩
     ·rename_i hf;exact⟨_,_,⟨h1,h2,h3,rfl,rfl⟩,h4⟩
    ·exact h.elim
   ·exact h.elim
  case oT=>
   split at h
   ·split at h
    ·obtain⟨h1,h2,y,l,h3,h4⟩:=h
     split at h4
     ·rename_i i d hf;exact⟨.yD [d,.int .i64 i],_,⟨h1,h2,y,l,h3,by rw [hf]; exact⟨rfl,rfl⟩⟩,h4⟩
     ·rename_i hf;exact⟨.yD [_,.int .i64 _],_,⟨h1,h2,y,l,h3,by rw [hf]; exact⟨rfl,rfl⟩⟩,h4⟩
    ·exact h.elim
   ·exact h.elim
  case fD=>
   split at h
   ·split at h
    ·obtain⟨h1,h2,h3,y,d,h4,h5⟩:=h;exact⟨_,_,⟨h1,h2,h3,y,d,h4,rfl,rfl⟩,h5⟩
    ·exact h.elim
   ·exact h.elim
 ·have hp':k.impure=false:=by simpa using hp
  obtain⟨d,h1,h2⟩:=YZ (vk hp' h);refine⟨d,σ,?_,h2⟩
  have:zC C σ ev k (λx y=>x=d/\y=σ)= pW C σ ev k (λx=>x=d/\σ=σ):=by cases k <;> first | rfl | simp [DK.impure] at hp'
  rw [this];simpa using h1
theorem Sa {C:Cx} {σ:St} {ev:vK->D} {k:DK} {K K':D->Prop} (h:pW C σ ev k K) (hk:∀ d,K d->K' d):pW C σ ev k K':=by
 have bm:∀ {op:BinOp} {k k':IntKind} {a b:Int},qI op k a k' b K->qI op k a k' b K':=by
  intro op k k' a b h;cases op <;> simp only [qI] at h ⊢
  all_goals first
   | exact⟨h.1,h.2.1,hk _ h.2.2⟩
   | exact⟨h.1,hk _ h.2⟩
 cases k <;> simp only [pW] at h ⊢
 case mv x=>exact hk _ h
 case j7=>exact hk _ h
 case pick c x y=>
  split at h
  ·exact bM (λe=>hk _ ((vD h).1 e)) (λe=>hk _ ((vD h).2 e))
  ·exact h.elim
 case bin op x y=>
  split at h
  ·exact bm h
  ·exact h.elim
 case Zg sz x lo hi=>
  split at h
  ·obtain⟨h1,l,hh,h2,h3,h4,h5,h6,h7⟩:=h;exact⟨h1,l,hh,h2,h3,h4,h5,h6,hk _ h7⟩
  ·obtain⟨h1,l,hh,h2,h3,h4,h5,h6,h7⟩:=h;exact⟨h1,l,hh,h2,h3,h4,h5,h6,hk _ h7⟩
  ·obtain⟨h1,l,hh,h2,h3,h4,h5,h6,h7⟩:=h;exact⟨h1,l,hh,h2,h3,h4,h5,h6,hk _ h7⟩
  ·exact h.elim
 case call fn args=>
  split at h
  ·obtain⟨d,h1,h2⟩:=h;exact⟨d,h1,hk _ h2⟩
  ·exact h.elim
 case load n ag x=>
  split at h
  ·split at h
   ·exact⟨h.1,h.2.1,h.2.2.1,h.2.2.2.1,hk _ h.2.2.2.2⟩
   ·exact h.elim
  ·exact⟨h.1,h.2.1,hk _ h.2.2⟩
  ·obtain⟨ds,h1,h2,h3,h4⟩:=h;exact⟨ds,h1,h2,h3,hk _ h4⟩
  ·exact h.elim
 case fH zero ok m k=>
  split at h
  ·split at h
   ·exact⟨h.1,h.2.1,hk _ h.2.2⟩
   ·exact h.elim
  ·exact hk _ h
  ·exact h.elim
 case fg n x=>
  split at h
  ·split at h
   ·exact⟨h.1,h.2.1,h.2.2.1,h.2.2.2.1,hk _ h.2.2.2.2⟩
   ·exact h.elim
  ·exact h.elim
 case mW n zero ok m k=>
  split at h
  ·split at h
   ·obtain⟨h0,x,l,h1,h2⟩:=h;exact⟨h0,x,l,h1,hk _ h2⟩
   ·exact h.elim
  ·exact h.elim
 case geq neg n x y=>
  split at h
  ·split at h
   ·exact⟨h.1,h.2.1,hk _ h.2.2⟩
   ·exact h.elim
  ·exact h.elim
 case fk x=>
  split at h
  ·split at h
   ·exact⟨h.1,h.2.1,hk _ h.2.2⟩
   ·exact h.elim
  ·exact h.elim
 all_goals first
  | exact h.elim
  | (split at h <;> first | exact h.elim | exact hk _ h | exact⟨h.1,hk _ h.2⟩ | exact⟨h.1,h.2.1,hk _ h.2.2⟩ | exact⟨h.1,h.2.1,h.2.2.1,hk _ h.2.2.2⟩)
theorem lC {C:Cx} {σ:St} {ev:vK->D} {k:DK} {d:D} (h:pW C σ ev k (λx=>x=d)):zC C σ ev k (λx y=>x=d/\y=σ):=by
 by_cases hp:k.impure=true
 ·cases k <;> simp only [DK.impure] at hp <;> (try (simp at hp; done)) <;> simp only [pW] at h <;> try exact h.elim
  rename_i fn args;simp only [zC]
  split at h
  ·obtain⟨d',h1,h2⟩:=h;exact⟨d',σ,h1,h2,rfl⟩
  ·exact h.elim
 ·have hp':k.impure=false:=by simpa using hp
  have:zC C σ ev k (λx y=>x=d/\y=σ)= pW C σ ev k (λx=>x=d/\σ=σ):=by cases k <;> first | rfl | simp [DK.impure] at hp'
  rw [this];simpa using h
theorem lB {C:Cx} {σ:St} {ev ev':vK->D} {k:DK} {K:D->St->Prop} (he:∀ x ∈ k.b7,ev x=ev' x) (h:zC C σ ev k K):zC C σ ev' k K:=by
 cases k <;> simp only [DK.b7] at he <;> simp only [zC,pW] at h ⊢
 case build z ps=>
  have:(ps.map λp=>(p.1,p.2.1,ev p.2.2))= ps.map λp=>(p.1,p.2.1,ev' p.2.2):=ψ λp hp=>by rw [he _ (An.2 ⟨p,hp,rfl⟩)]
  rw [<- this]; exact h
 case rJ sz len z ps=>
  have:(ps.map λp=>(p.1,ev p.2))= ps.map λp=>(p.1,ev' p.2):=ψ λp hp=>by rw [he _ (An.2 ⟨p,hp,rfl⟩)]
  rw [<- this]; exact h
 case lZ sz len z ps=>
  have:(ps.map λp=>(p.1,ev p.2))= ps.map λp=>(p.1,ev' p.2):=ψ λp hp=>by rw [he _ (An.2 ⟨p,hp,rfl⟩)]
  rw [<- this]; exact h
 case j7 f cs=> have:cs.map ev=cs.map ev':=ψ λp hp=>he _ hp;rw [<- this]; exact h
 case Zg sz x lo hi=>
  have h1:=he x (by simp);have h2:lo.map ev=lo.map ev':=by cases lo with | none=>rfl | some y=>simp [he y (by simp)]
  have h3:hi.map ev=hi.map ev':=by cases hi with | none=>rfl | some y=>simp [he y (by simp)]
  rw [<- h1,<- h2,<- h3]; exact h
 case call f xs=> have h1:=he f (by simp);have:xs.map ev=xs.map ev':=ψ λp hp=>he _ (by simp [hp]);rw [<- h1,<- this]; exact h
 case alloc z=>exact h
 case yu=>exact h
 case fH z ok m k=>rw [<- he m (by simp),<- he k (by simp)]; exact h
 case mW n z ok m k=>rw [<- he m (by simp),<- he k (by simp)]; exact h
 case qU n m k x=>rw [<- he m (by simp),<- he k (by simp),<- he x (by simp)]; exact h
 case nA m k x=>rw [<- he m (by simp),<- he k (by simp),<- he x (by simp)]; exact h
 case fF z m k=>rw [<- he m (by simp),<- he k (by simp)]; exact h
 case oT n z m k=>rw [<- he m (by simp),<- he k (by simp)]; exact h
 case fD m k x=>rw [<- he m (by simp),<- he k (by simp),<- he x (by simp)]; exact h
 case pick c a b=>rw [<- he c (by simp),<- he a (by simp),<- he b (by simp)]; exact h
 case yv c a b=>rw [<- he c (by simp),<- he a (by simp),<- he b (by simp)]; exact h
 all_goals first
  | (rename_i x; rw [<- he x (by simp)]; exact h)
  | (rename_i x y; rw [<- he x (by simp),<- he y (by simp)]; exact h)
  | (rename_i x _; rw [<- he x (by simp)]; exact h)
theorem rD {C:Cx} {σ:St} {ev:vK->D} {k:DK} {d:D} {σ':St} (hs:k.zH=true) (h:zC C σ ev k (λx y=>x=d/\y=σ')):σ'=σ/\∀ σ2,zC C σ2 ev k (λx y=>x=d/\y=σ2):=by
 have key:pW C σ ev k (λx=>x=d/\σ=σ'):=by cases k <;> first | exact h | simp [DK.zH] at hs
 have e1:σ'=σ:=by obtain⟨_,_,_,e⟩:=YZ key;exact e.symm
 subst e1;refine⟨rfl,λσ2=>lC ?_⟩;have:=Sa key λd h=>h.1;cases k <;> first | exact this | simp [DK.zH] at hs
inductive Trace (C : Cx) : List xN -> Fr -> St -> List (D × St) -> Prop
 | nil {f σ}:Trace C [] f σ []
 | cons {o ds f σ d σ' tr} (h:xR o f (zC C σ (wP f) o.k λx y=>x=d/\y=σ') (d = .uO/\σ'=σ)) (t:Trace C ds (f.put o.dst d) σ' tr):Trace C (o :: ds) f σ ((d,σ') :: tr)
def wM : List xN->List (D × St)->Fr->Fr
 | o :: ds,p :: tr,f=>wM ds tr (f.put o.dst p.1)
 | _,_,f=>f
def zB : List (D × St)->St->St
 | p :: tr,_=>zB tr p.2
 | [],σ=>σ
theorem YB {C:Cx} {σ:St} {ev:vK->D} {k:DK} {K:D->St->Prop} (h:zC C σ ev k K):∃ d σ',K d σ':=by
 have e0:(∀ sz b x y,k ≠ .app sz b x y)->zC C σ ev k K=zC { C with own:=[] } σ ev k K:=by intro hn;cases k <;> first | rfl | exact absurd rfl (hn _ _ _ _)
 cases k
 case app sz bytes x y=>
  simp only [zC] at h
  split at h
  ·exact h.elim
  ·rename_i rows _;obtain⟨_,h⟩:=h
   split at h
   ·obtain⟨_,_,h4,h5⟩:=h
    by_cases e:rows = []
    ·exact⟨_,_,h4 e⟩
    ·exact⟨_,_,h5 e⟩
   ·split at h
    ·obtain⟨_,_,_,_,_,h⟩:=h; exact⟨_,_,h⟩
    ·exact h.elim
   ·split at h
    ·obtain⟨_,_,_,_,_,_,h⟩:=h; exact⟨_,_,h [] (.inl rfl)⟩
    ·exact h.elim
   ·exact h.elim
 all_goals (rw [e0 (λ_ _ _ _=>by simp)] at h; obtain⟨d,σ',_,h⟩:=nW rfl h; exact⟨d,σ',h⟩)
theorem iL {C:Cx} {K:Fr->St->Prop}:∀ (ds:List xN) (f:Fr) (σ:St),tP C ds f σ K->∃ f σ,K f σ
 | [],f,σ,h=>⟨f,σ,h⟩
 | o :: ds,f,σ,h=>by
  simp only [tP,R4] at h;unfold xR at h
  split at h
  ·obtain⟨d,σ',h⟩:=YB h;exact iL ds _ _ h
  ·rename_i d want hg
   split at h
   ·rename_i b hb
    by_cases e:b=want
    ·obtain⟨d,σ',h⟩:=YB ((vD h).1 e);exact iL ds _ _ h
    ·exact iL ds _ _ ((vD h).2 e)
   ·exact iL ds _ _ h
   ·exact h.elim
theorem rE {C:Cx} {K:Fr->St->Prop} (hq:C.own.contains 77777=false):∀ (ds:List xN) (f:Fr) (σ:St),tP C ds f σ K->∃ tr,Trace C ds f σ tr/\K (wM ds tr f) (zB tr σ)/\ tr.length=ds.length
 | [],f,σ,h=>⟨[],.nil,h,rfl⟩
 | o :: ds,f,σ,h=>by
  simp only [tP,R4] at h
  have go:∀ (d:D) (σ':St),xR o f (zC C σ (wP f) o.k λx y=>x=d/\y=σ') (d = .uO/\σ'=σ)->tP C ds (f.put o.dst d) σ' K->∃ tr,Trace C (o :: ds) f σ tr/\K (wM (o :: ds) tr f) (zB tr σ)/\ tr.length=(o :: ds).length:=by intro d σ' hg hk;obtain⟨tr,h1,h2,h3⟩:=rE hq ds _ _ hk;exact⟨(d,σ') :: tr,.cons hg h1,h2,by simp [h3]⟩
  unfold xR at h
  split at h
  ·rename_i hg;obtain⟨d,σ',h1,h2⟩:=nW hq h;exact go d σ' (by simp only [xR,hg]; exact h1) h2
  ·rename_i j want hg
   split at h
   ·rename_i b hb
    by_cases hbw:b=want
    ·obtain⟨d,σ',h1,h2⟩:=nW hq ((vD h).1 hbw);exact go d σ' (by simp only [xR,hg,hb]; exact bM (λ_=>h1) (λhn=>absurd hbw hn)) h2
    ·exact go .uO σ (by simp [xR,hg,hb,hbw]) ((vD h).2 hbw)
   ·rename_i hu;exact go .uO σ (by simp [xR,hg,hu]) h
   ·exact h.elim
theorem yC {C:Cx} {σ:St} {K:Fr->Prop}:∀ (ds:List xN) (f:Fr),uX C σ ds f K->∃ tr,Trace C ds f σ tr/\K (wM ds tr f)/\ tr.length=ds.length/\∀ p ∈ tr,p.2=σ
 | [],f,h=>⟨[],.nil,h,rfl,by simp⟩
 | o :: ds,f,h=>by
  simp only [uX] at h
  have go:∀ (d:D),xR o f (zC C σ (wP f) o.k λx y=>x=d/\y=σ) (d = .uO/\σ=σ)->uX C σ ds (f.put o.dst d) K->∃ tr,Trace C (o :: ds) f σ tr/\K (wM (o :: ds) tr f)/\ tr.length=(o :: ds).length/\∀ p ∈ tr,p.2=σ:=by
   intro d hg hk;obtain⟨tr,h1,h2,h3,h4⟩:=yC ds _ hk
   exact⟨(d,σ) :: tr,.cons hg h1,h2,by simp [h3],by
    intro p hp
    rcases List.mem_cons.1 hp with rfl | hp
    ·rfl
    ·exact h4 p hp⟩
  unfold xR at h
  split at h
  ·rename_i hg;obtain⟨d,h1,h2⟩:=YZ h;exact go d (by simp only [xR,hg]; exact lC h1) h2
  ·rename_i j want hg
   split at h
   ·rename_i b hb
    by_cases hbw:b=want
    ·obtain⟨d,h1,h2⟩:=YZ ((vD h).1 hbw);exact go d (by simp only [xR,hg,hb]; exact bM (λ_=>lC h1) (λhn=>absurd hbw hn)) h2
    ·exact go .uO (by simp [xR,hg,hb,hbw]) ((vD h).2 hbw)
   ·rename_i hu;exact go .uO (by simp [xR,hg,hu]) h
   ·exact h.elim
theorem Trace.append {C:Cx}:∀ {ds1 ds2:List xN} {f:Fr} {σ:St} {t1 t2:List (D × St)},Trace C ds1 f σ t1->t1.length=ds1.length->Trace C ds2 (wM ds1 t1 f) (zB t1 σ) t2->Trace C (ds1++ds2) f σ (t1++t2)/\ wM (ds1++ds2) (t1++t2) f=wM ds2 t2 (wM ds1 t1 f)/\ zB (t1++t2) σ=zB t2 (zB t1 σ)
 | _,_,_,_,_,_,.nil,_,h=>⟨h,rfl,rfl⟩
 | _,_,_,_,_,_,.cons hg ht,hl,h=>by obtain⟨h1,h2,h3⟩:=Trace.append ht (by simpa using hl) h;exact⟨.cons hg h1,h2,h3⟩
theorem Trace.at {C:Cx}:∀ {ds:List xN} {f:Fr} {σ:St} {tr:List (D × St)},Trace C ds f σ tr->∀ (i:Nat) (o:xN),ds[i]?=some o ->
  ∃ d σ',tr[i]?=some (d,σ')/\ xR o (wM (ds.take i) (tr.take i) f) (zC C (zB (tr.take i) σ) (wP (wM (ds.take i) (tr.take i) f)) o.k λx y=>x=d/\y=σ') (d = .uO/\σ'=zB (tr.take i) σ)
 | _,_,_,_,.nil,i,o,h=>by simp at h
 | _,_,_,_,.cons hg ht,i,o',h=>by
  cases i with
  | zero=> simp at h; subst h;exact⟨_,_,rfl,by simpa [wM,zB] using hg⟩
  | succ i=> simp at h;obtain⟨d,σ',h1,h2⟩:=ht.at i o' h;exact⟨d,σ',by simpa using h1,by simpa [wM,zB] using h2⟩
theorem z7 : ∀ (ds:List xN) (tr:List (D × St)) (f:Fr) (i:Nat) (o:xN) (p:D × St),ds[i]?=some o->tr[i]?=some p->wM (ds.take (i+1)) (tr.take (i+1)) f=(wM (ds.take i) (tr.take i) f).put o.dst p.1
 | [],_,_,i,o,p,h,_=>by simp at h
 | _ :: _,[],_,i,o,p,_,h=>by simp at h
 | o' :: ds,p' :: tr,f,0,o,p,h,h'=>by simp at h h'; subst h; subst h';simp [wM]
 | o' :: ds,p' :: tr,f,i+1,o,p,h,h'=>by simp at h h';have:=z7 ds tr (f.put o'.dst p'.1) i o p h h';simpa [wM] using this
theorem iE : ∀ (tr:List (D × St)) (σ:St) (i:Nat) (p:D × St),tr[i]?=some p->zB (tr.take (i+1)) σ=p.2
 | [],_,i,p,h=>by simp at h
 | p' :: tr,σ,0,p,h=>by simp at h; subst h; simp [zB]
 | p' :: tr,σ,i+1,p,h=>by simp at h;have:=iE tr p'.2 i p h;simpa [zB] using this
theorem tw : ∀ (l:List Oper) (acc:List Nat),(yI l acc).length=acc.length+l.length/\(∀ j,j<acc.length->(yI l acc).getD j 0=acc.getD j 0)/\
  ∀ (k:Nat) (o:Oper),l[k]?=some o->(yI l acc).getD (acc.length+k) 0=o.after.foldl (λs e=>if Region.binds .any e then s ||| 2 ^ e.on ||| ((yI l acc).take (acc.length+k)).getD e.on 0 else s) 0
 | [],acc=>⟨by simp [yI],λj hj=>rfl,λk o h=>by simp at h⟩
 | o :: l,acc=>by
  unfold yI;generalize hm:o.after.foldl (λs e=>if Region.binds .any e then s ||| 2 ^ e.on ||| acc.getD e.on 0 else s) 0=m;obtain⟨h1,h2,h3⟩:=tw l (acc ++ [m])
  refine⟨by rw [h1]; simp; omega,λj hj=>?_,λk o' hk=>?_⟩
  ·rw [h2 j (by simp; omega)];simp only [List.getD,ε hj]
  ·cases k with
   | zero=>
    simp at hk; subst hk
    have e0:(yI l (acc ++ [m])).getD (acc.length+0) 0=m:=by rw [h2 _ (by simp)];simp [List.getD]
    have e1:(yI l (acc ++ [m])).take (acc.length+0)= acc:=by
     apply As;intro j;rw [Aa];simp only [Nat.add_zero]
     by_cases hj:j<acc.length
     ·rw [if_pos hj];have hj2:j<(yI l (acc ++ [m])).length:=by rw [h1]; simp; omega
      have:=h2 j (by simp; omega);simp only [List.getD,ε hj,γ hj2,γ hj,Aw] at this;rw [γ hj2,γ hj,this]
     ·rw [if_neg hj,Ah (by omega)]
    rw [e0,e1,hm]
   | succ k=>
    simp at hk;have:=h3 k o' hk;simp only [Ae,Aj,List.length_nil] at this;have e:acc.length+(0+1)+ k=acc.length+(k+1):=by omega
    rw [e] at this;exact this
theorem nq (A:List Nat) (i:Nat):∀ (es:List Edge) (s:Nat),(es.foldl (λs e=>if Region.binds .any e then s ||| 2 ^ e.on ||| A.getD e.on 0 else s) s).testBit i=true->s.testBit i=true\/∃ e ∈ es,Region.binds .any e=true/\(e.on=i\/(A.getD e.on 0).testBit i=true)
 | [],s,h=>.inl h
 | e :: es,s,h=>by
  simp only [List.foldl_cons] at h
  rcases nq A i es _ h with h | ⟨e',he',hb,hc⟩
  ·split at h
   ·rename_i hb;simp only [Nat.testBit_or,Bc] at h
    rcases h with (h | h) | h
    ·exact .inl h
    ·refine .inr ⟨e,by simp,hb,.inl ?_⟩;rw [Nat.testBit_two_pow] at h;simpa using h
    ·exact .inr ⟨e,by simp,hb,.inr h⟩
   ·exact .inl h
  ·exact .inr ⟨e',by simp [he'],hb,hc⟩
theorem cD {l:List Oper} {i j:Nat} {o:Oper} (ho:l[j]?=some o) (h:ordered (yI l []) i j=true) :
  ∃ e ∈ o.after,Region.binds .any e=true/\(e.on=i\/(e.on<j/\ordered (yI l []) i e.on=true)):=by
 obtain⟨h1,_,h3⟩:=tw l [];have:=h3 j o ho;simp only [List.length_nil,Nat.zero_add] at this;unfold ordered at h;rw [this,<- Array.foldl_toList] at h
 rcases nq _ i _ _ h with h | ⟨e,he,hb,hc⟩
 ·simp at h
 ·refine⟨e,by simpa using he,hb,?_⟩
  rcases hc with hc | hc
  ·exact .inl hc
  ·right
   by_cases hlt:e.on<j
   ·refine⟨hlt,?_⟩;unfold ordered
    have:((yI l []).take j).getD e.on 0=(yI l []).getD e.on 0:=by simp [List.getD,Aa,hlt]
    rw [this] at hc;exact hc
   ·have:((yI l []).take j).getD e.on 0=0:=by simp [List.getD,Aa,hlt]
    rw [this] at hc;simp at hc
theorem sE {l:List Oper} {T:Nat->Bool} (hc:∀ (j:Nat) (o:Oper),l[j]?=some o->T j=true->∀ e ∈ o.after,Region.binds .any e=true->T e.on=true) (hl:∀ j,T j=true->j<l.length) :
  ∀ (j:Nat),T j=true->∀ i,ordered (yI l []) i j=true->T i=true:=by
 intro j
 induction j using A8 with
 | _ j ih=>
  intro hj i ho;have hlt:=hl j hj;obtain⟨e,he,hb,h⟩:=cD (γ hlt) ho;have hT:=hc j _ (γ hlt) hj e he hb
  rcases h with rfl | ⟨h1,h2⟩
  ·exact hT
  ·exact ih e.on h1 hT i h2
theorem rn {l:List Oper} {T:Nat->Bool} (hc:∀ (j:Nat) (o:Oper),l[j]?=some o->T j=true->∀ e ∈ o.after,Region.binds .any e=true->T e.on=true) (hl:∀ j,T j=true->j<l.length) {j:Nat} {o:Oper} (ho:l[j]?=some o)
  (hr:∀ e ∈ o.after,Region.binds .any e=true->T e.on=true):∀ i,ordered (yI l []) i j=true->T i=true:=by
 intro i h;obtain⟨e,he,hb,h⟩:=cD ho h;have hT:=hr e he hb
 rcases h with rfl | ⟨h1,h2⟩
 ·exact hT
 ·exact sE hc hl e.on hT i h2
end Go.Pd
namespace Go.Pd
open Go
variable [vA]
def wC (ds:List xN) (i:Nat):Option Nat:=(ds[i]?).bind (·.dst)
def wT (ds:List xN) (i:Nat):Bool:=((ds[i]?).map (·.k.zH)).getD true
def wK (tr:List (D × St)) (i:Nat):D:=((tr[i]?).map (·.1)).getD .top
def LV (ds:List xN) (tr:List (D × St)) (f:Fr) (T:Nat->Bool):Nat->Nat->D
 | 0,t=>f.get t
 | i+1,t=>if T i=true/\wC ds i=some t then wK tr i else LV ds tr f T i t
def SV (q:Nat->Bool) (tr:List (D × St)) (σ:St) (T:Nat->Bool):Nat->St
 | 0=>σ
 | i+1=>if T i=true/\q i=false then zB (tr.take (i+1)) σ else SV q tr σ T i
def quiet (ds:List xN) (mu:Nat->Bool) (s i:Nat):Bool:=wT ds i || (decide (i<s)&& !mu i)
theorem vF {ds:List xN} {mu:Nat->Bool} {s i:Nat}:quiet ds mu s i=false ↔ wT ds i=false/\(mu i=true\/s<=i):=by
 simp only [quiet,Bool.or_eq_false_iff,Bf,decide_eq_false_iff_not,Bool.not_eq_false']
 constructor
 ·rintro ⟨h1,h2⟩; exact⟨h1,h2.elim (λh=>.inr (by omega)) .inl⟩
 ·rintro ⟨h1,h2⟩; exact⟨h1,h2.elim .inr λh=>.inl (by omega)⟩
theorem VD {q T:Nat->Bool}:∀ (n:Nat),(∀ j m,j<m->m<n->q j=false->q m=false->T m=true->T j=true)->∃ p,p<=n/\∀ j,j<n->q j=false->(T j=true ↔ j<p)
 | 0,_=>⟨0,A4 _,λj hj=>by omega⟩
 | n+1,h=>by
  obtain⟨p,h1,h2⟩:=VD n λj m a b=>h j m a (by omega)
  by_cases hq:q n=false
  ·by_cases hT:T n=true
   ·refine⟨n+1,A4 _,λj hj hqj=>⟨λ_=>hj,λ_=>?_⟩⟩
    by_cases e:j=n
    ·subst e; exact hT
    ·exact h j n (by omega) (Nat.lt_succ_self n) hqj hq hT
   ·refine⟨p,by omega,λj hj hqj=>?_⟩
    by_cases e:j=n
    ·subst e; exact⟨λh=>absurd h hT,λh=>by omega⟩
    ·exact h2 j (by omega) hqj
  ·refine⟨p,by omega,λj hj hqj=>?_⟩
   by_cases e:j=n
   ·subst e; exact absurd hqj hq
   ·exact h2 j (by omega) hqj
section
variable {ds : List xN} {tr : List (D × St)} {f : Fr} {σ : St}
theorem kE (hl:tr.length=ds.length):∀ (i:Nat),i<=ds.length->∀ t,(wM (ds.take i) (tr.take i) f).get t=LV ds tr f (λ_=>true) i t
 | 0,_,t=>by simp [wM,LV]
 | i+1,h,t=>by
  have hi:i<ds.length:=h;have ho:ds[i]?=some ds[i]:=γ hi;have hp:tr[i]?=some (tr[i]'(by omega)):=γ (by omega);rw [z7 ds tr f i _ _ ho hp];simp only [LV,wC,wK,ho,hp,A3,Ay,Aw,true_and]
  cases hd:(ds[i]).dst with
  | none=> simp only [Fr.put];rw [if_neg (by simp)];exact kE hl i (by omega) t
  | some d=>
   rw [Fr.mR]
   by_cases hdt:d=t
   ·subst hdt; simp
   ·rw [if_neg hdt,if_neg (by simpa using hdt)];exact kE hl i (by omega) t
theorem bK {T:Nat->Bool} {i t:Nat}:∀ (m:Nat),(∀ j,j<m->wC ds j=some t->(T j=true ↔ j<i))->LV ds tr f T m t=LV ds tr f (λ_=>true) (min m i) t
 | 0,_=>by simp [LV]
 | m+1,h=>by
  have ih:=bK (T:=T) (i:=i) (t:=t) m λj hj=>h j (by omega);simp only [LV]
  by_cases hd:wC ds m=some t
  ·have hm:=h m (by omega) hd
   by_cases hlt:m<i
   ·rw [if_pos ⟨hm.2 hlt,hd⟩];have:min (m+1) i=m+1:=by omega
    rw [this];simp [LV,hd]
   ·have hT:¬ (T m=true):=λh=>hlt (hm.1 h);rw [if_neg (λh=>hT h.1),ih];have:min (m+1) i=min m i:=by omega
    rw [this]
  ·rw [if_neg (λh=>hd h.2),ih]
   by_cases hlt:m<i
   ·have e1:min (m+1) i=m+1:=by omega
    have e2:min m i=m:=by omega
    rw [e1,e2];simp [LV,hd]
   ·have:min (m+1) i=min m i:=by omega
    rw [this]
theorem mO {T:Nat->Bool} {i t:Nat} (hT:T i=true) (hd:wC ds i=some t):∀ (m:Nat),i<m->(∀ j,i<j->j<m->wC ds j=some t->T j=false)->LV ds tr f T m t=wK tr i
 | 0,h,_=>by omega
 | m+1,h,hn=>by
  simp only [LV]
  by_cases hm:m=i
  ·subst hm;rw [if_pos ⟨hT,hd⟩]
  ·by_cases hdm:wC ds m=some t
   ·rw [if_neg (λh=>by rw [hn m (by omega) (by omega) hdm] at h; simp at h)];exact mO hT hd m (by omega) λj h1 h2=>hn j h1 (by omega)
   ·rw [if_neg (λh=>hdm h.2)];exact mO hT hd m (by omega) λj h1 h2=>hn j h1 (by omega)
theorem Zi {T T':Nat->Bool} {t:Nat}:∀ (m:Nat),(∀ j,j<m->wC ds j=some t->T' j=T j)->LV ds tr f T' m t=LV ds tr f T m t
 | 0,_=>rfl
 | m+1,h=>by
  simp only [LV];rw [Zi m λj hj=>h j (by omega)]
  by_cases hd:wC ds m=some t
  ·rw [h m (by omega) hd]
  ·rw [if_neg (λh=>hd h.2),if_neg (λh=>hd h.2)]
theorem Zj {q T T':Nat->Bool}:∀ (m:Nat),(∀ j,j<m->q j=false->T' j=T j)->SV q tr σ T' m=SV q tr σ T m
 | 0,_=>rfl
 | m+1,h=>by
  simp only [SV];rw [Zj m λj hj=>h j (by omega)]
  by_cases hd:q m=false
  ·rw [h m (by omega) hd]
  ·rw [if_neg (λh=>hd h.2),if_neg (λh=>hd h.2)]
theorem kJ {q T:Nat->Bool} {i n:Nat} (hs:∀ j,j<n->q j=true->zB (tr.take (j+1)) σ=zB (tr.take j) σ) :
  ∀ (m:Nat),m<=n->(∀ j,j<m->q j=false->(T j=true ↔ j<i))->SV q tr σ T m=zB (tr.take (min m i)) σ
 | 0,_,_=>by simp [SV,zB]
 | m+1,hm,h=>by
  have ih:=kJ (T:=T) (i:=i) hs m (by omega) λj hj=>h j (by omega);simp only [SV]
  by_cases hd:q m=false
  ·have hh:=h m (by omega) hd
   by_cases hlt:m<i
   ·rw [if_pos ⟨hh.2 hlt,hd⟩];have:min (m+1) i=m+1:=by omega
    rw [this]
   ·rw [if_neg (λh=>hlt (hh.1 h.1)),ih];have:min (m+1) i=min m i:=by omega
    rw [this]
  ·rw [if_neg (λh=>hd h.2),ih]
   by_cases hlt:m<i
   ·have e1:min (m+1) i=m+1:=by omega
    have e2:min m i=m:=by omega
    rw [e1,e2,hs m (by omega) (by simpa using hd)]
   ·have:min (m+1) i=min m i:=by omega
    rw [this]
theorem jv {q T:Nat->Bool} {k:Nat}:∀ (n:Nat),(∀ j,j<n->q j=false->T j=true->j=k)->SV q tr σ T n=if k<n/\T k=true/\q k=false then zB (tr.take (k+1)) σ else σ
 | 0,_=>by simp [SV]
 | n+1,h=>by
  simp only [SV]
  split
  ·rename_i hc;obtain rfl:=h n (by omega) hc.2 hc.1;rw [if_pos ⟨by omega,hc.1,hc.2⟩]
  ·rename_i hc;rw [jv n λj hj=>h j (by omega)]
   by_cases hk:k<n
   ·simp only [hk,show k<n+1 by omega]
   ·rw [if_neg (λh=>hk h.1)]
    by_cases hkn:k=n
    ·subst hkn; rw [if_neg (λh=>hc ⟨h.2.1,h.2.2⟩)]
    ·rw [if_neg (λh=>by omega)]
end
theorem jR {o:xN} {f g:Fr} {p q:Prop} (h:∀ d b,o.guard=some (d,b)->f.get d=g.get d) (hg:xR o f p q):xR o g p q:=by
 unfold xR at *
 cases e:o.guard with
 | none=>simp only [e] at hg ⊢; exact hg
 | some x=> obtain⟨d,b⟩:=x;simp only [e] at hg ⊢;rw [<- h d b e];exact hg
structure ig (C : Cx) (E : Env) (ops : Array Oper) (ds : List xN) (q : Nat -> Bool) (tr : List (D × St)) (f : Fr) (σ : St) (xo : Nat -> Nat -> Bool) (l0 : Nat -> Bool) (listed : Array Bool) (a : Act) (w : World) : Prop where
 size:listed.size=ops.size
 ord:∀ i j,xo i j=true->listed.getD j false=true->listed.getD i false=true
 low:∀ i,l0 i=true->listed.getD i false=true
 closed:∀ (j:Nat) (o:Oper),ops.toList[j]?=some o->listed.getD j false=true->∀ e ∈ o.after,Region.binds .any e=true->listed.getD e.on false=true
 Xy:∃ g,(∀ t,g.get t=LV ds tr f (λi=>listed.getD i false) ds.length t)/\ Good C E a w g (SV q tr σ (λi=>listed.getD i false) ds.length)
theorem Good.congr {C:Cx} {E:Env} {a:Act} {w:World} {f g:Fr} {σ:St} (h:∀ t,f.get t=g.get t) (G:Good C E a w f σ):Good C E a w g σ:=by obtain⟨ι,G⟩:=G;exact⟨ι,⟨G.size,G.defers,G.nx,G.kept,G.oC,G.oS,G.rQ,G.stay,λt=>by rw [<- h t]; exact G.fr t⟩⟩
theorem rm {o:xN} {t:Nat} (h:vK.t t ∈ o.k.b7):t ∈ o.names:=by unfold xN.names;exact Ao _ (List.mem_filterMap.2 ⟨_,h,rfl⟩)
theorem yf {o:xN} {d:Nat} {b:Bool} (h:o.guard=some (d,b)):d ∈ o.names:=by unfold xN.names;simp [h]
theorem jO {x y:xN} (h:tH x y=true):(∀ d,x.dst=some d->d ∉ y.names)/\ (∀ d,x.dst=some d->y.dst≠some d)/\ (∀ d,y.dst=some d->d ∉ x.names):=by
 unfold tH at h;simp only [Ba] at h
 refine⟨λd hd=>?_,λd hd=>?_,λd hd=>?_⟩
 ·have:=h.1; rw [hd] at this; simp at this; exact this.1
 ·have:=h.1; rw [hd] at this; simp at this; exact this.2
 ·have:=h.2; rw [hd] at this; simpa using this
section
variable {C : Cx} {E : Env} {ops : Array Oper} {ds : List xN} {tr : List (D × St)} {f : Fr} {σ : St} {Q : Exit -> Act -> World -> Prop} {s : Nat}
def jt (ops:Array Oper) (ds:List xN) (s:Nat) (mu:Nat->Bool) (xo:Nat->Nat->Bool):Prop:=∀ {i j:Nat} {oj:Oper} {di dj:xN},ops.toList[j]?=some oj->ds[j]?=some dj->ds[i]?=some di->i<j ->
  ordered (yI ops.toList []) i j=true\/(tH di dj=true/\((j<s/\¬ (mu i=true/\mu j=true))\/di.k.zH=true\/dj.k.zH=true\/xo i j=true))
def js (ops:Array Oper):Prop:=∀ {j:Nat} {oj:Oper},ops.toList[j]?=some oj->∀ e ∈ oj.after,Region.binds .any e=true->e.on<j
theorem gY {mu:Nat->Bool} {xo:Nat->Nat->Bool} (hok:kH ops.toList ds s mu xo=true):jt ops ds s mu xo:=by
 intro i j oj di dj hj hdj hdi hij;have hlt:j<ops.toList.length:=(Am.1 hj).1;have h1:=υ.1 hok j (χ.2 hlt);simp only [hj,hdj,Ba] at h1;have h2:=υ.1 h1.2 i (χ.2 hij);simp only [hdi,Bc,Ba,decide_eq_true_eq,Bb,Bf] at h2
 rcases h2 with h | ⟨h3,((h | h) | h) | h⟩
 ·exact .inl h
 ·exact .inr ⟨h3,.inl ⟨h.1,λ⟨a,b⟩=>by rcases h.2 with e | e; rw [a] at e; cases e; rw [b] at e; cases e⟩⟩
 ·exact .inr ⟨h3,.inr (.inl h)⟩
 ·exact .inr ⟨h3,.inr (.inr (.inl h))⟩
 ·exact .inr ⟨h3,.inr (.inr (.inr h))⟩
theorem gZ {mu:Nat->Bool} {xo:Nat->Nat->Bool} (hok:kH ops.toList ds s mu xo=true):js ops:=by
 intro j oj hj;have hlt:j<ops.toList.length:=(Am.1 hj).1;have h1:=υ.1 hok j (χ.2 hlt);simp only [hj] at h1
 split at h1
 ·rename_i o d h2 h3;simp at h2; subst h2;simp only [Ba] at h1;intro e he hb;have:=υ.1 h1.1 e (by simpa using he);simp [hb] at this;exact this
 ·simp at h1
theorem iI {mu:Nat->Bool} {xo:Nat->Nat->Bool} {l0:Nat->Bool} (hdl:ds.length=ops.toList.length) (hdg:∀ i o,ops.toList[i]?=some o->∃ dop,ds[i]?=some dop/\(l0 i=false->lW C.P C.N C.own ops o=some dop)) (hsp:jt ops ds s mu xo) (hbk:js ops) (hxo:∀ i j,xo i j=true->i<j) (ht:Trace C ds f σ tr) (hlen:tr.length=ds.length) (hsl:s<=ds.length)
  (hmu:∀ m,m<s->mu m=true->wT ds m=false)
  (hpre:∀ i,i<s->mu i=false->zB (tr.take (i+1)) σ=zB (tr.take i) σ)
  (hswap:∀ i dop p,i<s->mu i=false->p<=s->ds[i]?=some dop->dop.k.zH=false->(∀ m,m<s->mu m=true->(m<p->ordered (yI ops.toList []) i m=false)/\ (p<=m->ordered (yI ops.toList []) m i=false)) ->
   xR dop (wM (ds.take i) (tr.take i) f) (zC C (zB (tr.take p) σ) (wP (wM (ds.take i) (tr.take i) f)) dop.k λx y=>x=wK tr i/\y=zB (tr.take p) σ) (.uO=wK tr i))
  (hQ:∀ a w,Good C E a w (wM ds tr f) (zB tr σ)->Q .normal a w)
  (hR:∀ (fuel:Nat) (listed:Array Bool) (a:Act) (w:World) (i j:Nat),((List.range ops.size).filter λj=>!(listed.setIfInBounds i true).getD j false).length<=fuel->ig C E ops ds (quiet ds mu s) tr f σ xo l0 listed a w->i ∈ Region.ready .any ops listed->xo j i=true->listed.getD j false=false ->
   wpOpIn C.F 0 C.P ops Q i (wpAnyIn C.F 0 C.P .any ops Q fuel (listed.setIfInBounds i true)) a w) :
  ∀ (fuel:Nat) (listed:Array Bool) (a:Act) (w:World),((List.range ops.size).filter λi=>!listed.getD i false).length<=fuel->ig C E ops ds (quiet ds mu s) tr f σ xo l0 listed a w->wpAnyIn C.F 0 C.P .any ops Q fuel listed a w:=by
 have hdl':ds.length=ops.size:=by simpa using hdl
 have hsil:∀ j,j<ds.length->quiet ds mu s j=true->zB (tr.take (j+1)) σ=zB (tr.take j) σ:=by
  intro j hj hs
  by_cases hsj:wT ds j=true
  ·have ho:ds[j]?=some ds[j]:=γ hj;obtain⟨d,σ',h1,h2⟩:=ht.at j _ ho;rw [iE tr σ j _ h1];simp only [wT,ho,Ay,Aw] at hsj;unfold xR at h2
   split at h2
   ·exact(rD hsj h2).1
   ·split at h2
    ·exact(Classical.em _).elim (λhbw=>(rD hsj ((vD h2).1 hbw)).1) (λhbw=>((vD h2).2 hbw).2)
    ·exact h2.2
    ·exact h2.elim
  ·simp only [quiet,Bc,hsj,false_or,Ba,decide_eq_true_eq,Be,Bb] at hs;exact hpre j hs.1 hs.2
 have fin:∀ (listed:Array Bool) (a:Act) (w:World),Region.ready .any ops listed = []->ig C E ops ds (quiet ds mu s) tr f σ xo l0 listed a w->Q .normal a w:=by
  intro listed a w hr I
  have all:∀ i,i<ops.size->listed.getD i false=true:=by
   intro i
   induction i using A8 with
   | _ i ih=>
    intro hi
    by_cases hT:listed.getD i false=true
    ·exact hT
    ·have ho:ops.toList[i]?=some ops[i]:=by simp [hi]
     have:i ∈ Region.ready .any ops listed:=by rw [mem_ready];refine⟨getD_in (by rw [I.size]; exact hi) (by simpa using hT),ops[i],by simp [hi],λe he hb=>?_⟩;have:=hbk ho e he hb;exact ih e.on this (by omega)
     rw [hr] at this;cases this
  obtain⟨g,hg,G⟩:=I.Xy;refine hQ a w ?_
  have e1:SV (quiet ds mu s) tr σ (λi=>listed.getD i false) ds.length=zB tr σ:=by rw [kJ (i:=ds.length) hsil ds.length (A4 _) λj hj _=>⟨λ_=>hj,λ_=>all j (by omega)⟩];rw [Nat.min_self,<- hlen,ξ]
  rw [e1] at G;refine G.congr λt=>?_;rw [hg t,bK (i:=ds.length) ds.length λj hj _=>⟨λ_=>hj,λ_=>all j (by omega)⟩,Nat.min_self,<- kE hlen ds.length (A4 _) t];rw [ξ,<- hlen,ξ]
 intro fuel
 induction fuel with
 | zero=>
  intro listed a w hf I
  have hr:Region.ready .any ops listed = []:=by apply List.eq_nil_iff_forall_not_mem.2;intro i hi;have h1:=(mem_ready.1 hi).1;obtain⟨_,o,ho,_⟩:=mem_ready.1 hi;have hlt:i<ops.size:=(Bg.1 ho).1;have:i ∈ (List.range ops.size).filter λi=>!listed.getD i false:=ω.2 ⟨χ.2 hlt,by rw [getD_both h1]; rfl⟩;rw [Ak (Nat.le_zero.1 hf)] at this;cases this
  exact⟨hr,fin _ _ _ hr I⟩
 | succ fuel ih=>
  intro listed a w hf I;refine⟨λhr=>fin _ _ _ hr I,λi hi=>?_⟩;obtain⟨hun,o,ho,hall⟩:=mem_ready.1 hi;have hlt:i<ops.size:=(Bg.1 ho).1;have hTi:listed.getD i false=false:=getD_both hun;have hol:ops.toList[i]?=some o:=by simpa using ho
  obtain⟨dop,hdop,hmk0⟩:=hdg i o hol
  have hmk:=hmk0 (by
   cases h:l0 i with
   | false=>rfl
   | true=>have:=I.low i h; rw [hTi] at this; cases this)
  let T':Nat->Bool:=λj=>(listed.setIfInBounds i true).getD j false
  have hT':∀ j,T' j=if i=j then true else listed.getD j false:=by
   intro j
   by_cases h:i=j
   ·subst h;simp only [T',if_pos];have:i<listed.size:=by rw [I.size]; exact hlt
    simp [this]
   ·rw [if_neg h];exact getD_set_ne false h
  have hfew:((List.range ops.size).filter λj=>!(listed.setIfInBounds i true).getD j false).length<=fuel:=by
   have hlt2:((List.range ops.size).filter λj=>!(listed.setIfInBounds i true).getD j false).length<((List.range ops.size).filter λj=>!listed.getD j false).length:=by
    have hsub:((List.range ops.size).filter λj=>!(listed.setIfInBounds i true).getD j false)= ((List.range ops.size).filter λj=>!listed.getD j false).filter (λj=>j != i):=by
     rw [List.filter_filter];refine List.filter_congr λj _=>?_;have:=hT' j;simp only [T'] at this;rw [this]
     by_cases h:i=j
     ·subst h; simp
     ·have zL:(j != i)= true:=by simpa using λe=>h e.symm
      simp [h,zL]
    rw [hsub];refine Ai.2 ⟨i,?_,by simp⟩;exact ω.2 ⟨χ.2 hlt,by rw [hTi]; rfl⟩
   omega
  by_cases hbad:∃ j,xo j i=true/\listed.getD j false=false
  ·obtain⟨j,hb1,hb2⟩:=hbad;exact hR fuel listed a w i j hfew I hi hb1 hb2
  have rdx:∀ j,xo j i=true->listed.getD j false=true:=λj hj=>by
   cases h:listed.getD j false with
   | true=>rfl
   | false=>exact absurd ⟨j,hj,h⟩ hbad
  have latex:∀ j,xo i j=true->listed.getD j false=false:=λj hj=>by
   cases h:listed.getD j false with
   | false=>rfl
   | true=>have:=I.ord i j hj h; rw [hTi] at this; cases this
  have hTlen:∀ j,listed.getD j false=true->j<ops.toList.length:=by
   intro j hj
   rcases A6 j listed.size with h | h
   ·simp; rw [<- I.size]; exact h
   ·simp [Array.getElem?_eq_none h] at hj
  have rdy:∀ j,ordered (yI ops.toList []) j i=true->listed.getD j false=true:= rn (T:=λj=>listed.getD j false) I.closed hTlen hol hall
  have late:∀ j,ordered (yI ops.toList []) i j=true->listed.getD j false=false:=by
   intro j hj
   by_cases h:listed.getD j false=true
   ·have this:listed.getD i false=true:=sE (T:=λj=>listed.getD j false) I.closed hTlen j h i hj;rw [hTi] at this;cases this
   ·simpa using h
  obtain⟨g,hg,G⟩:=I.Xy;obtain⟨d,σ',htr,hstep⟩:=ht.at i dop hdop;have hds:∀ j,j<ds.length->ds[j]?=some (ds.getD j dop):=λj hj=>by simp [List.getD,hj]
  have hopsj:∀ j,j<ds.length->ops.toList[j]?=some (ops.toList.getD j o):=λj hj=>by
   have:j<ops.toList.length:=by omega
   simp only [List.getD,γ this,Aw]
  have hids:i<ds.length:=by omega
  have hnm:∀ t,t ∈ dop.names->g.get t=(wM (ds.take i) (tr.take i) f).get t:=by
   intro t htn;rw [hg t,kE hlen i (by omega) t,bK (i:=i) ds.length,A7 (by omega)];intro j hj hdj;unfold wC at hdj;rw [hds j hj] at hdj;simp only [A3] at hdj
   rcases A5 j i with h | h | h
   ·refine⟨λ_=>h,λ_=>?_⟩
    rcases hsp hol hdop (hds j hj) h with h2 | ⟨h2,_⟩
    ·exact rdy j h2
    ·exact absurd htn ((jO h2).1 t hdj)
   ·subst h;exact⟨(λh=>by rw [hTi] at h; cases h),λh=>absurd h (Nat.lt_irrefl _)⟩
   ·refine⟨λhT=>?_,λh'=>by omega⟩
    rcases hsp (hopsj j hj) (hds j hj) hdop h with h2 | ⟨h2,_⟩
    ·rw [late j h2] at hT; cases hT
    ·exact absurd htn ((jO h2).2.2 t hdj)
  have hev:∀ x ∈ dop.k.b7,wP (wM (ds.take i) (tr.take i) f) x=wP g x:=by
   intro x hx
   cases x with
   | t n=>exact(hnm n (rm hx)).symm
   | c d=>rfl
  have hgd:∀ d b,dop.guard=some (d,b)->(wM (ds.take i) (tr.take i) f).get d=g.get d:=λd b h=>(hnm d (yf h)).symm
  have hloud:∀ j,j<ds.length->wT ds j=false->(ds.getD j dop).k.zH=false:=λj hj hnj=>by unfold wT at hnj; rw [hds j hj] at hnj; simpa using hnj
  have hloudi:dop.k.zH=wT ds i:=by simp only [wT,hdop,Ay,Aw]
  have key:xR dop g (zC C (SV (quiet ds mu s) tr σ (λj=>listed.getD j false) ds.length) (wP g) dop.k λx y=>x=d/\y=SV (quiet ds mu s) tr σ T' ds.length) (D.uO=d/\SV (quiet ds mu s) tr σ (λj=>listed.getD j false) ds.length=SV (quiet ds mu s) tr σ T' ds.length):=by
   by_cases hq:quiet ds mu s i=true
   ·have e:SV (quiet ds mu s) tr σ T' ds.length=SV (quiet ds mu s) tr σ (λj=>listed.getD j false) ds.length:=by
     refine Zj _ λj hj hns=>?_;rw [hT' j]
     by_cases h:i=j
     ·subst h; rw [hq] at hns; cases hns
     ·rw [if_neg h]
    rw [e]
    by_cases hs:dop.k.zH=true
    ·refine sF (jR hgd hstep) (λh=>?_) (λh=>⟨h.1.symm,rfl⟩);exact lB hev ((rD hs h).2 _)
    ·have hns:dop.k.zH=false:=by simpa using hs
     have hq2:=hq;rw [quiet,<- hloudi,hns] at hq2;simp only [Bool.false_or,Ba,decide_eq_true_eq,Bb] at hq2;obtain⟨his,him⟩:=hq2
     have hlow:∀ j,j<ds.length->quiet ds mu s j=false->listed.getD j false=true->j<s:=by
      intro j hj hnj hT;obtain⟨h1,h2⟩:=vF.1 hnj
      rcases A6 j s with h | h
      ·exact h
      ·rcases hsp (hopsj j hj) (hds j hj) hdop (by omega:i<j) with h3 | ⟨_,h3⟩
       ·rw [late j h3] at hT; cases hT
       ·rcases h3 with h3 | h3 | h3 | h3
        ·omega
        ·rw [hns] at h3; cases h3
        ·rw [hloud j hj h1] at h3; cases h3
        ·rw [latex j h3] at hT; cases hT
     obtain⟨p,hp1,hp2⟩:=VD (q:=quiet ds mu s) (T:=λj=>listed.getD j false) ds.length λj m hjm hm hnj hnm hT=>by
      obtain⟨a1,a2⟩:=vF.1 hnj;obtain⟨b1,b2⟩:=vF.1 hnm
      rcases hsp (hopsj m hm) (hds m hm) (hds j (by omega)) hjm with h3 | ⟨_,h3⟩
      ·exact sE (T:=λj=>listed.getD j false) I.closed hTlen m hT j h3
      ·rcases h3 with ⟨h3,h4⟩ | h3 | h3 | h3
       ·exact absurd ⟨a2.resolve_right (by omega),b2.resolve_right (by omega)⟩ h4
       ·rw [hloud j (by omega) a1] at h3; cases h3
       ·rw [hloud m hm b1] at h3; cases h3
       ·exact I.ord j m h3 hT
     have hp3:∀ j,j<ds.length->quiet ds mu s j=false->(listed.getD j false=true ↔ j<min p s):=λj hj hnj=>⟨λhT=>by have:=(hp2 j hj hnj).1 hT; have:=hlow j hj hnj hT; omega,λh=>(hp2 j hj hnj).2 (by omega)⟩
     have hdv:wK tr i=d:=by simp [wK,htr]
     rw [kJ (i:=min p s) hsil ds.length (A4 _) hp3,A7 (by omega:min p s<=ds.length)]
     have hw:=hswap i dop (min p s) his him (Nat.min_le_right _ _) hdop hns λm hms hmm=>by
      have hnm:quiet ds mu s m=false:=vF.2 ⟨hmu m hms hmm,.inl hmm⟩
      refine⟨λh=>?_,λh=>?_⟩
      ·have hT:=(hp3 m (by omega) hnm).2 h
       cases ho2:ordered (yI ops.toList []) i m with
       | false=>rfl
       | true=>rw [late m ho2] at hT; cases hT
      ·cases ho2:ordered (yI ops.toList []) m i with
       | false=>rfl
       | true=>have:=(hp3 m (by omega) hnm).1 (rdy m ho2); omega
     rw [hdv] at hw;exact sF (jR hgd hw) (λh=>lB hev h) (λh=>⟨h,rfl⟩)
   ·have hqf:quiet ds mu s i=false:=by simpa using hq
    have hns:dop.k.zH=false:=by rw [hloudi]; exact(vF.1 hqf).1
    have hcut:∀ j,j<ds.length->quiet ds mu s j=false->j≠i->(listed.getD j false=true ↔ j<i):=by
     intro j hj hnj zL;obtain⟨h1,h2⟩:=vF.1 hnj;have hi2:=(vF.1 hqf).2;have hnj':=hloud j hj h1
     rcases A6 j i with h | h
     ·refine⟨λ_=>h,λ_=>?_⟩
      rcases hsp hol hdop (hds j hj) h with h3 | ⟨_,h3⟩
      ·exact rdy j h3
      ·rcases h3 with ⟨h3,h4⟩ | h3 | h3 | h3
       ·exact absurd ⟨h2.resolve_right (by omega),hi2.resolve_right (by omega)⟩ h4
       ·rw [hnj'] at h3; cases h3
       ·rw [hns] at h3; cases h3
       ·exact rdx j h3
     ·refine⟨λhT=>?_,λh'=>by omega⟩
      rcases hsp (hopsj j hj) (hds j hj) hdop (by omega:i<j) with h3 | ⟨_,h3⟩
      ·rw [late j h3] at hT; cases hT
      ·rcases h3 with ⟨h3,h4⟩ | h3 | h3 | h3
       ·exact absurd ⟨hi2.resolve_right (by omega),h2.resolve_right (by omega)⟩ h4
       ·rw [hns] at h3; cases h3
       ·rw [hnj'] at h3; cases h3
       ·rw [latex j h3] at hT; cases hT
    have hsame:SV (quiet ds mu s) tr σ (λj=>listed.getD j false) ds.length=zB (tr.take i) σ/\SV (quiet ds mu s) tr σ T' ds.length=zB (tr.take (i+1)) σ:=by
     constructor
     ·rw [kJ (i:=i) hsil ds.length (A4 _) λj hj hnj=>?_,A7 (by omega)]
      by_cases h:j=i
      ·subst h; exact⟨(λh=>by rw [hTi] at h; cases h),λh=>absurd h (Nat.lt_irrefl _)⟩
      ·exact hcut j hj hnj h
     ·rw [kJ (i:=i+1) hsil ds.length (A4 _) λj hj hnj=>?_,A7 (by omega)];rw [hT' j]
      by_cases h:i=j
      ·subst h; simp
      ·rw [if_neg h,hcut j hj hnj (λe=>h e.symm)];omega
    rw [hsame.1,hsame.2,iE tr σ i _ htr];exact sF (jR hgd hstep) (λh=>lB hev h) (λh=>⟨h.1.symm,h.2.symm⟩)
  have :=gE (next:=wpAnyIn C.F 0 C.P .any ops Q fuel (listed.setIfInBounds i true)) (Q:=Q) (K:=λx y=>x=d/\y=SV (quiet ds mu s) tr σ T' ds.length) hmk G (sF key (λh=>h) (λh=>h)) (λa' w' d' σ2 G' hk=>by
   obtain⟨rfl,rfl⟩:=hk
   refine ih _ _ _ hfew ⟨by simp [I.size],λj m hx hT=>?_,λj hj=>getD_set_true (I.low j hj),λj oj hj hT e he hb=>?_,g.put dop.dst d',λt=>?_,G'⟩
   ·have hT2:=hT' m;simp only [T'] at hT2;rw [hT2] at hT
    by_cases h:i=m
    ·subst h; exact getD_set_true (rdx j hx)
    ·rw [if_neg h] at hT; exact getD_set_true (I.ord j m hx hT)
   ·by_cases h:i=j
    ·subst h;rw [hol] at hj;simp at hj; subst hj;exact getD_set_true (hall e he hb)
    ·rw [getD_set_ne false h] at hT;exact getD_set_true (I.closed j oj hj hT e he hb)
   ·show (g.put dop.dst d').get t=LV ds tr f T' ds.length t;have hdi:wC ds i=dop.dst:=by simp [wC,hdop]
    by_cases hdt:dop.dst=some t
    ·rw [hdt,Fr.mR,if_pos rfl]
     rw [mO (i:=i) (by rw [hT' i]; simp) (by rw [hdi]; exact hdt) ds.length hids]
     ·simp [wK,htr]
     ·intro j hij hj hdj;rw [hT' j,if_neg (by omega)];unfold wC at hdj;rw [hds j hj] at hdj;simp only [A3] at hdj
      rcases hsp (hopsj j hj) (hds j hj) hdop hij with h2 | ⟨h2,_⟩
      ·exact late j h2
      ·exact absurd hdj ((jO h2).2.1 t hdt)
    ·have e1:(g.put dop.dst d').get t=g.get t:=by
      cases hdd:dop.dst with
      | none=>rfl
      | some u=> rw [Fr.mR,if_neg];intro e; subst e; exact hdt hdd
     rw [e1,hg t];refine(Zi _ λj hj hdj=>?_).symm;rw [hT' j]
     by_cases h:i=j
     ·subst h; rw [hdi] at hdj; exact absurd hdj hdt
     ·rw [if_neg h])
  unfold wpOpIn;simp only [ho];exact this
theorem jW {id:Nat} {a:Act} {w:World} (hm:C.P.follows .mixedOrders=true) {mu:Nat->Bool} (hd:wI (lW C.P C.N C.own ops) ops.toList=some ds) (hok:wi ops.toList ds s mu=true) (ht:Trace C ds f σ tr) (hlen:tr.length=ds.length) (hsl:s<=ds.length)
  (hmu:∀ m,m<s->mu m=true->wT ds m=false)
  (hpre:∀ i,i<s->mu i=false->zB (tr.take (i+1)) σ=zB (tr.take i) σ)
  (hswap:∀ i dop p,i<s->mu i=false->p<=s->ds[i]?=some dop->dop.k.zH=false->(∀ m,m<s->mu m=true->(m<p->ordered (yI ops.toList []) i m=false)/\ (p<=m->ordered (yI ops.toList []) m i=false)) ->
   xR dop (wM (ds.take i) (tr.take i) f) (zC C (zB (tr.take p) σ) (wP (wM (ds.take i) (tr.take i) f)) dop.k λx y=>x=wK tr i/\y=zB (tr.take p) σ) (.uO=wK tr i))
  (hQ:∀ a w,Good C E a w (wM ds tr f) (zB tr σ)->Q .normal a w) (G:Good C E a w f σ):(Code.region id ops true).wpIn C.F 0 C.P Q a w:=by
 have G':Good C E a { w with drawn:=w.drawn+1 } f σ:=by obtain⟨ι,G⟩:=G;have hk:Kept w w.drew λ_=>False:=(Kept.refl _ _).drew;have hS:=G.oC.ext hk;exact⟨ι,⟨G.size,G.defers.xC rfl (A4 _) λD hD=>hD,G.nx,G.kept.drew,hS,G.oS,G.rQ,G.stay,G.fr.xC (λb hb _=>rfl) (λ_ _ h=>h) hk.shape (λ_ _=>rfl) (A4 _)⟩⟩
 have hf0:∀ j,(Array.replicate ops.size false).getD j false=false:=getD_replicate_false ops.size;obtain⟨hdl,hdg⟩:=zA hd
 refine wpIn_region_any hm (iI (xo:=λ_ _=>false) (l0:=λ_=>false) hdl (λi o h=>by obtain⟨dop,h1,h2⟩:=hdg i o h; exact⟨dop,h1,λ_=>h2⟩) (gY hok) (gZ hok) (λ_ _ h=>by cases h) ht hlen hsl hmu hpre hswap hQ (λ_ _ _ _ _ _ _ _ _ h=>by cases h) _ _ _ _ ?_ ⟨by simp,(λ_ _ h=>by cases h),(λ_ h=>by cases h),(λj o _ hT=>by rw [hf0] at hT; cases hT),f,λt=>?_,?_⟩)
 ·exact Nat.le_trans (List.length_filter_le _ _) (by simp)
 ·rw [bK (i:=0) ds.length λj _ _=>⟨(λh=>by rw [hf0] at h; cases h),λh=>by omega⟩];simp [LV]
 ·have:SV (quiet ds mu s) tr σ (λi=>(Array.replicate ops.size false).getD i false) ds.length=σ:=by refine(jv (k:=0) _ λj _ _ (hT:(Array.replicate ops.size false).getD j false=true)=>by rw [hf0] at hT; cases hT).trans (if_neg λh=>?_);have h2:(Array.replicate ops.size false).getD 0 false=true:=h.2.1;rw [hf0] at h2; cases h2
  rw [this];exact G'
end
end Go.Pd
namespace Go.Pd
open Go
variable [vA]
def LQ (C:Cx) (E:Env) (Q:Exit->Fr->St->Prop) (e:Exit) (a:Act) (w:World):Prop:=∃ f σ,Good C E a w f σ/\Q e f σ
section dY
variable {C : Cx} {E : Env} {a : Act} {w : World} {f : Fr} {σ : St} {ι : Nat -> Nat}
theorem zI.less {M0 M1:Nat->Prop} (h:zI M1 w σ ι) (hM:∀ b,M0 b->M1 b):zI M0 w σ ι:=
 have hm:∀ b,yO M0 ι σ b->yO M1 ι σ b:=λb hb=>hb.imp (hM b) id
 ⟨λb hb=>h.oS b (hM b hb),λk o hk=>⟨(h.holds k o hk).1,(h.holds k o hk).2.xC rfl rfl (λ_ _ _=>rfl) (λb _ hb=>hm b hb) (λb cur e hc=>⟨cur,hc,rfl⟩) (λ_ _=>rfl) (A4 _)⟩,h.inj,λk o hk hb=>h.notM k o hk (hM _ hb),h.sR.xC (A4 _) (λ_ _ _=>rfl) λb _ hb=>hm b hb⟩
theorem zI.PH {M0 K:Nat->Prop} {w':World} (h:zI M0 w σ ι) (hk:Kept w w' K) (hK:∀ b,K b->M0 b):zI M0 w' σ ι:=
 have hb:∀ b,b<w.heap.size->¬ yO M0 ι σ b->w'.heap[b]?=w.heap[b]?:=λb hb hn=>hk.block b hb λh=>hn (.inl (hK b h))
 ⟨λb hb=>Nat.lt_of_lt_of_le (h.oS b hb) hk.size,
  λk o hko=>⟨(h.holds k o hko).1,(h.holds k o hko).2.xC (hk.block _ (rB.lt h ⟨k,o,hko,rfl⟩) λhx=>h.notM k o hko (hK _ hx)) rfl hb (λ_ _ h=>h) hk.shape (λ_ _=>rfl) (A4 _)⟩,
  h.inj,h.notM,h.sR.xC hk.size hb (λ_ _ h=>h)⟩
theorem zI.PJ {M0:Nat->Prop} (h:zI M0 w σ ι) (o:Obj):zI (λb=>M0 b\/b=w.heap.size) (w.alloc o) σ ι:=
 have hk:=Kept.alloc w o λ_=>False;have hs:(w.alloc o).heap.size=w.heap.size+1:=by show (w.heap.push o).size=_; simp
 have hm:∀ b,b<w.heap.size->yO (λb=>M0 b\/b=w.heap.size) ι σ b->yO M0 ι σ b:=λb hb hx=>by
  rcases hx with (hx | hx) | hx
  ·exact .inl hx
  ·omega
  ·exact .inr hx
 ⟨λb hb=>by
         rcases hb with hb | hb
         ·have:=h.oS b hb; omega
         ·omega,
  λk o' hko=>⟨(h.holds k o' hko).1,(h.holds k o' hko).2.xC (hk.block _ (rB.lt h ⟨k,o',hko,rfl⟩) id) rfl (λb hb _=>hk.block b hb id) hm hk.shape (λ_ _=>rfl) (A4 _)⟩,
  h.inj,λk o' hko hb=>by
   rcases hb with hb | hb
   ·exact h.notM k o' hko hb
   ·have:=rB.lt h ⟨k,o',hko,rfl⟩; omega,
  h.sR.xC hk.size (λb hb _=>hk.block b hb id) hm⟩
theorem yR.enter {key:Nat} (G:yR C E a w f σ ι) (hkey:key<σ.nx) (o:Obj) :
  yR { C with n0:=max C.n0 (key+1) } ⟨w.alloc o,λb=>E.M0 b\/b=w.heap.size,λb=>rB ι σ b\/b=w.heap.size,ι,E.B⟩ a (w.alloc o) f σ ι:=by
 have hk:=Kept.alloc w o λ_=>False;have hS:=G.oC.PJ o
 refine⟨G.size,G.defers.xC rfl hk.size (λD hD=>hk.mark id hD),?_,Kept.refl _ _,hS,hS.oS,λk o hk=>.inr (.inl ⟨k,o,hk,rfl⟩),λ_ _=>rfl,λt=>(G.fr t).xC (λb hb _=>hk.block b hb id) (λb hb hx=>?_) hk.shape (λ_ _=>rfl) (A4 _)⟩
 ·have:=G.nx;show max C.n0 (key+1)<=σ.nx;omega
 ·rcases hx with (hx | hx) | hx
  ·exact .inl hx
  ·omega
  ·exact .inr hx
theorem yR.leave {key:Nat} {a0:Act} {w0:World} {f0:Fr} {σ0:St} {ι0:Nat->Nat} {q0:Obj} (G0:yR C E a0 w0 f0 σ0 ι0)
  (G:yR { C with n0:=max C.n0 (key+1) } ⟨w0.alloc q0,λb=>E.M0 b\/b=w0.heap.size,λb=>rB ι0 σ0 b\/b=w0.heap.size,ι0,E.B⟩ a w f σ ι):yR C E a w f σ ι:=by
 have hsz:E.w0.heap.size<=w0.heap.size:=G0.kept.size
 have hown:∀ b,rB ι0 σ0 b->E.w0.heap.size<=b\/E.K0 b:=by rintro b ⟨k,o,hk,rfl⟩;exact G0.rQ k o hk
 have h1:Kept w0 (w0.alloc q0) λ_=>False:=Kept.alloc w0 q0 _;have hs1:(w0.alloc q0).heap.size=w0.heap.size+1:=by show (w0.heap.push q0).size=_; simp
 have hnx:max C.n0 (key+1)<=σ.nx:=G.nx
 refine⟨G.size,G.defers,by omega,?_,G.oC.less λb hb=>.inl hb,G0.oS,λk o hk=>?_,λk hk=>?_,λt=>(G.fr t).xC (λ_ _ _=>rfl) (λb _ hb=>hb.imp .inl id) (λb cur e h=>⟨cur,h,rfl⟩) (λ_ _=>rfl) (A4 _)⟩
 ·refine G0.kept.trans (h1.trans G.kept (K'':=λb=>rB ι0 σ0 b\/b=w0.heap.size) (λ_ _ h=>h.elim) λ_ _ h=>h) (λ_ _ h=>h) λb hb hx=>?_
  rcases hx with hx | hx
  ·rcases hown b hx with h | h
   ·omega
   ·exact h
  ·omega
 ·rcases G.rQ k o hk with h | h | h
  ·have h':(w0.alloc q0).heap.size<=ι k:=h;left; omega
  ·exact hown _ h
  ·left; rw [h]; exact hsz
 ·have:=G.stay k (show k<max C.n0 (key+1) by omega);exact this.trans (G0.stay k hk)
theorem yR.tick {b0:Nat} {w':World} (G:yR C E a w f σ ι) (hk:Kept w w' λb=>b=b0) (hM:E.M0 b0) (hK:E.K0 b0) (hd:∀ x,w.heap[b0]?≠some (Obj.deferred x)):yR C E a w' f σ ι:=
 ⟨G.size,G.defers.xC rfl hk.size (λD hD=>hk.mark (λe=>hd _ (e ▸ hD)) hD),G.nx,G.kept.trans hk (λ_ _ h=>h) λb _ hb=>by rw [hb]; exact hK,G.oC.PH hk λb hb=>by rw [hb]; exact hM,G.oS,G.rQ,G.stay,
  λt=>(G.fr t).xC (λb hb hn=>hk.block b hb λhx=>hn (.inl (by rw [hx]; exact hM))) (λ_ _ h=>h) hk.shape (λ_ _=>rfl) (A4 _)⟩
theorem yR.open_ (G:yR C E a w f σ ι):yR C ⟨w,E.M0,rB ι σ,E.ι0,E.B⟩ a w f σ ι:=⟨G.size,G.defers,G.nx,Kept.refl _ _,G.oC,G.oC.oS,λk o hk=>.inr ⟨k,o,hk,rfl⟩,G.stay,G.fr⟩
theorem yR.close_ {a':Act} {w':World} {f':Fr} {σ':St} {ι':Nat->Nat} (G:yR C E a w f σ ι) (G':yR C ⟨w,E.M0,rB ι σ,E.ι0,E.B⟩ a' w' f' σ' ι'):yR C E a' w' f' σ' ι':=by
 have hown:∀ b,rB ι σ b->E.w0.heap.size<=b\/E.K0 b:=by rintro b ⟨k,o,hk,rfl⟩;exact G.rQ k o hk
 refine⟨G'.size,G'.defers,G'.nx,G.kept.trans G'.kept (λ_ _ h=>h) λb hb hx=>?_,G'.oC,G.oS,λk o hk=>?_,G'.stay,G'.fr⟩
 ·rcases hown b hx with h | h
  ·omega
  ·exact h
 ·rcases G'.rQ k o hk with h | h
  ·exact .inl (Nat.le_trans G.kept.size h)
  ·exact hown _ h
theorem yR.set {dst:Option Nat} {v:Value} {d:D} (G:yR C E a w f σ ι) (hr:R (yO E.M0 ι σ) w ι σ.nx v d) (hd:∀ t,dst=some t->t<C.N):yR C E (a.put dst v) w (f.put dst d) σ ι:= G.step (Kept.refl _ _) G.oC (A4 _) (λ_ _=>rfl) (λk o hk=>.inr ⟨k,o,hk,rfl⟩) hr hd
theorem rk {b:Nat} {o o':Obj} (h:w.heap[b]?=some o) (hn:∀ cur e,o≠Obj.cells cur e (0,0)):Kept w (ChangeMaps.setBlock w b o') λx=>x=b:=by
 refine⟨rfl,rfl,rfl,by simp [ChangeMaps.setBlock],λx _ hx=>?_,λx cur e hx=>⟨cur,?_,rfl⟩,A4 _⟩
 ·simp only [ChangeMaps.setBlock,Bh];rw [if_neg (λe=>hx e.symm)]
 ·have zL:b≠x:=λe'=>by subst e';rw [h] at hx;exact hn cur e (Option.some.inj hx)
  simp only [ChangeMaps.setBlock,Bh];rw [if_neg zL]; exact hx
theorem u5 {b:Nat} {o':Obj} (h:b<w.heap.size):(ChangeMaps.setBlock w b o').heap[b]?=some o':=by simp [ChangeMaps.setBlock,Bh,h]
theorem iB : ∀ (n:Nat) (l:List Nat),l.Nodup->(∀ x ∈ l,x<n)->l.length<=n
 | 0,[],_,_=>A4 _
 | 0,x :: l,_,h=>by have:=h x (by simp); omega
 | n + 1,l,hn,h=>by
  have h1:=iB n (l.filter λx=>x != n) (hn.filter _) λx hx=>by
   rw [ω] at hx;have:=h x hx.1;have:x≠n:=by simpa using hx.2
   omega
  have h2:l.length<=(l.filter λx=>x != n).length+1:=by
   clear h1 h
   induction l with
   | nil=>simp
   | cons y l ih=>
    rw [List.nodup_cons] at hn
    by_cases e:y=n
    ·subst e
     have:l.filter (λx=>x != y)= l:=List.filter_eq_self.2 λx hx=>by have:x≠y:=λe=>hn.1 (e ▸ hx);simpa using this
     simp [this]
    ·have:=ih hn.2;rw [List.filter_cons_of_pos (by simpa using e)];simp only [Aj]; omega
  omega
theorem l8 {n:Nat} {l:List Nat} (hn:l.Nodup) (h:∀ x ∈ l,x<n) (hall:∀ i,i<n->i ∈ l):l.length=n:=by
 have h1:=iB n l hn h
 have h2:∀ (n:Nat) (l:List Nat),(∀ i,i<n->i ∈ l)->n<=l.length:=by
  intro n
  induction n with
  | zero=>intro l _; omega
  | succ n ih=> intro l hl;have h1:=ih (l.filter λx=>x != n) λi hi=>ω.2 ⟨hl i (by omega),by simp; omega⟩;have h2:(l.filter λx=>x != n).length<l.length:=Ai.2 ⟨n,hl n (by omega),by simp⟩;omega
 have:=h2 n l hall;omega
end dY
theorem tS {P:Program} {N:Nat} {own:List Nat} {ops:Array Oper} {d:DC} (h:dW P N own ops=some d):∃ l o t x it m pre,ops.toList=l ++ [o]/\o.op = .range t x/\o.dst=some it/\o.guard=none/\xM N x=some m /\
  wI (lW P N own ops) l=some pre/\(∃ kt et,P.underlying t=some (.map kt et))/\ it<N/\d = .Zf pre it m:=by
 unfold dW at h;split at h
 case h_2=>cases h
 rename_i o ho;obtain⟨l,hl⟩:=List.getLast?_eq_some_iff.1 ho;split at h
 case h_2=>cases h
 rename_i t x it h1 h2 h3;simp only [Ax,Av] at h;obtain⟨m,hm,pre,hp,h⟩:=h;split at h
 case isFalse=>cases h
 rename_i hc;cases h;rw [hl,Ap] at hp;refine⟨l,o,t,x,it,m,pre,hl,h1,h2,h3,hm,hp,?_,hc.2,rfl⟩;have h4:=hc.1;unfold VI at h4
 split at h4
 ·rename_i kt et h5; exact⟨kt,et,h5⟩
 ·cases h4
theorem oG {N:Nat} {ops:Array Oper} {d:DC} (h:qt N ops=some d):∃ o2 o3 it nx more,ops.toList = [o2,o3]/\o2.op = .next (.tmp it) false/\o2.dst=some nx/\o2.guard=none/\o3.op = .extract (.tmp nx) 0/\o3.dst=some more/\o3.guard=none /\
  nx<N/\more<N/\d = .WA it nx more:=by
 unfold qt at h;split at h
 case h_2=>cases h
 rename_i o2 o3 ho;split at h
 case h_2=>cases h
 rename_i it nx nx' more h1 h2 h3 h4 h5 h6;split at h
 case isFalse=>cases h
 rename_i hc;obtain⟨rfl,hc1,hc2⟩:=hc;cases h;exact⟨o2,o3,it,_,more,ho,h1,h2,h3,h4,h5,h6,hc1,hc2,rfl⟩
theorem oF {P:Program} {N:Nat} {own:List Nat} {ops:Array Oper} {d:DC} (h:qq P N own ops=some d):∃ o l it pair rest,ops.toList=o :: l/\o.op = .entry (.tmp it)/\ o.dst=some pair/\o.guard=none/\wI (lW P N own ops) l=some rest/\pair<N/\d = .W9 it pair rest:=by
 unfold qq at h;split at h
 case h_2=>cases h
 rename_i o l ho;split at h
 case h_2=>cases h
 rename_i it pair h1 h2 h3;simp only [Ax,Av] at h;obtain⟨rest,hr,h⟩:=h;split at h
 case isFalse=>cases h
 rename_i hc;cases h;exact⟨o,l,it,pair,rest,ho,h1,h2,h3,hr,hc,rfl⟩
def VY (ops:Array Oper):Prop:=(ops.toList.dropLast.all λo=>za o&&o.guard.isNone)= true/\Region.lexTailB .any ops (ops.size-1)= true
theorem nF {P:Program} {N:Nat} {own:List Nat} {ops:Array Oper} {draw:Bool} {d:DC} (h:wm P N own ops draw=some d):(draw=false/\(dW P N own ops=some d\/qt N ops=some d\/qq P N own ops=some d))\/(draw=true/\dW P N own ops=some d/\VY ops):=by
 unfold wm at h;cases draw
 case true=>
  simp only [if_true] at h
  split at h
  ·rename_i hc;rw [Ba] at hc;exact .inr ⟨rfl,h,hc.1,hc.2⟩
  ·cases h
 simp only [Be,if_false] at h;refine .inl ⟨rfl,?_⟩
 split at h
 ·rename_i d' hd; cases h; exact .inl hd
 ·split at h
  ·rename_i d' hd; cases h; exact .inr (.inl hd)
  ·exact .inr (.inr h)
theorem vT (x y:DC):TB x y = .seq x y\/∃ pre it m out nx more next pair rest code,x = .Zf pre it m/\y = .block out (.loop (.seq (.WA it nx more) (.seq (.cond (.t more) .skip (.exit out)) (.block next (.seq (.W9 it pair rest) code)))))/\
  TB x y = .dY pre it m out nx more next pair rest code/\it≠nx/\it≠more/\it≠pair:=by
 unfold TB
 split
 ·split
  ·rename_i hc;obtain⟨rfl,rfl,rfl,rfl,h1,h2,h3⟩:=hc;exact .inr ⟨_,_,_,_,_,_,_,_,_,_,rfl,rfl,rfl,h1,h2,h3⟩
  ·exact .inl rfl
 ·exact .inl rfl
def Og : DC->Bool
 | .sS .. | .yo .. | .ym .. | .bY .. | .bX .. | .mK ..=>true
 | _=>false
theorem sH {own:List Nat} {o:xN} (h:wX own o=true):o.guard=none:=by
 unfold wX at h
 split at h
 ·rename_i hg; exact hg
 ·cases h
structure Xj (own : List Nat) (l : List xN) (pre : List xN) (o : xN) (mid : List xN) : Prop where
 eq:l=pre++o :: mid
 d1:uW pre=true
 d2:uW mid=true
 n1:∀ x ∈ pre,wX own x=false
 n2:wX own o=true
 n3:∀ x ∈ mid,wX own x=false
 lq:o.k.zH=false
theorem pC {own:List Nat} {ops:List Oper} {l:List xN} {s:Nat} {dc:DC} (h:YV own ops l s=some dc) :
  (dc = .sS (l.take s) (l.drop s)/\ ∀ x ∈ l.take s,wX own x=false) \/
  (∃ (pre:List xN) (o:xN) (mid:List xN) (un:Bool),Xj own (l.take s) pre o mid/\dc = .yo pre o mid un (l.drop s)/\ (un=false->tU (yI ops []) pre.length mid (pre.length+1)= true)) \/
  (∃ (pre:List xN) (o:xN) (mid1:List xN) (o2:xN) (mid2:List xN),Xj own (mid1++o2 :: mid2) mid1 o2 mid2/\l.take s=pre++o :: (mid1++o2 :: mid2)/\ uW pre=true/\(∀ x ∈ pre,wX own x=false)/\ wX own o=true/\o.k.zH=false /\
   dc = .ym pre o mid1 o2 mid2 (l.drop s)/\ tU (yI ops []) pre.length mid1 (pre.length+1)= true/\tU (yI ops []) (pre.length+1+mid1.length) mid2 (pre.length+1+mid1.length+1)= true):=by
 have split:∀ (h:List xN) (m:Nat),h.findIdx? (wX own)= some m->∃ o,h[m]?=some o/\h=h.take m++o :: h.drop (m+1)/\ wX own o=true/\(∀ x ∈ h.take m,wX own x=false)/\ (h.take m).length=m:=by
  intro h m hi;obtain⟨hlt,hp,hb⟩:=Ab.1 hi
  refine⟨h[m],γ hlt,?_,hp,λx hx=>?_,by rw [ο]; omega⟩
  ·conv=>lhs; rw [<- ν m h,Ag hlt]
  ·obtain⟨i,hi,rfl⟩:=Ac hx;rw [ο] at hi;have:=hb i (by omega);simpa using this
 have none_:∀ h:List xN,h.findIdx? (wX own)= none->∀ x ∈ h,wX own x=false:=λh hi x hx=>by have:=Af.1 hi x hx;simpa using this
 unfold YV at h;dsimp only at h
 cases hi:(l.take s).findIdx? (wX own) with
 | none=> rw [hi] at h;simp only [Option.some.injEq] at h;exact .inl ⟨h.symm,none_ _ hi⟩
 | some m=>
  rw [hi] at h;obtain⟨o,h1,h2,h3,h4,h5⟩:=split _ _ hi;simp only [h1] at h;generalize l.take s=hd at h h1 h2 h4 h5 hi
  cases hj:(hd.drop (m+1)).findIdx? (wX own) with
  | none=>
   rw [hj] at h;simp only at h
   split at h
   ·rename_i hc;simp only [Ba,Bb] at hc;refine .inr (.inl ⟨_,o,_,_,⟨h2,hc.1.1,hc.1.2,h4,h3,none_ _ hj,hc.2⟩,(Option.some.inj h).symm,λe=>?_⟩);rw [h5]; simpa using e
   ·cases h
  | some n=>
   rw [hj] at h;obtain⟨o2,g1,g2,g3,g4,g5⟩:=split _ _ hj;simp only [g1] at h;generalize hd.drop (m+1)= r at h h2 g1 g2 g4 g5 hj
   split at h
   ·rename_i hc;simp only [Ba,Bb,Az] at hc
    refine .inr (.inr ⟨hd.take m,o,r.take n,o2,r.drop (n+1),⟨rfl,hc.1.1.2.1.2,hc.1.1.2.2,g4,g3,none_ _ hc.1.1.1,hc.1.2.2⟩,?_,hc.1.1.2.1.1,h4,h3,hc.1.2.1,(Option.some.inj h).symm,?_,?_⟩)
    ·rw [<- g2]; exact h2
    ·rw [h5]; exact hc.2.1
    ·rw [h5,g5]; exact hc.2.2
   ·cases h
structure P8 (own : List Nat) (ops : List Oper) (l : List xN) (s : Nat) (pre : List xN) (o : xN) (mid : List xN) (un : Bool) (fl : List Bool) : Prop where
 one:Xj own (l.take s) pre o mid
 wait:un=false->tU (yI ops []) pre.length mid (pre.length+1)= true
 fl:∀ i,fl.getD i false=true->ordered (yI ops []) i pre.length=true
theorem nH {own:List Nat} {ops:List Oper} {l:List xN} {s:Nat} {dc:DC} (h:kg own ops l s=some dc) :
  ∃ (pre:List xN) (o:xN) (mid:List xN) (un:Bool) (post:List xN) (fl:List Bool),dc = .bX pre o mid un post fl/\post=l.drop s/\P8 own ops l s pre o mid un fl:=by
 unfold kg at h;dsimp only at h
 cases hi:(l.take s).findIdx? (wX own) with
 | none=>rw [hi] at h; cases h
 | some m=>
  rw [hi] at h;obtain⟨hlt,hp,hb⟩:=Ab.1 hi;have h1:(l.take s)[m]?=some ((l.take s)[m]):=γ hlt;simp only [h1] at h
  split at h
  ·rename_i hc;simp only [Ba,Bb,Az] at hc;obtain⟨⟨⟨⟨_,c1⟩,c2⟩,c3⟩,c4⟩:=hc;have hlen:((l.take s).take m).length=m:=by rw [ο]; omega
   refine⟨_,_,_,_,_,_,(Option.some.inj h).symm,rfl,⟨?_,c2,c3,λx hx=>?_,hp,λx hx=>?_,c4⟩,λe=>?_,λi hi2=>?_⟩
   ·conv=>lhs; rw [<- ν m (l.take s),Ag hlt]
   ·obtain⟨i,hi,rfl⟩:=Ac hx;rw [ο] at hi;have:=hb i (by omega);simpa using this
   ·have:=Af.1 c1 x hx;simpa using this
   ·rw [hlen]; simpa using e
   ·rw [hlen]
    by_cases hm:i<m
    ·simpa [List.getD,hm] using hi2
    ·simp [List.getD,hm] at hi2
  ·cases h
structure P7 (own : List Nat) (ops : List Oper) (l : List xN) (s : Nat) (pre : List xN) (o : xN) (mid1 : List xN) (o2 : xN) (mid2 : List xN) (free : List Nat) : Prop where
 eq:l.take s=pre++o :: (mid1++o2 :: mid2)
 M5:uW (l.take s)= true
 nodup:(l.filterMap (·.dst)).Nodup
 n1:∀ x ∈ pre,wX own x=false
 n2:wX own o=true
 n3:∀ x ∈ mid1,wX own x=false
 n4:wX own o2=true
 n5:∀ x ∈ mid2,wX own x=false
 lq:o.k.zH=false
 alloc:gM o2.k=true
 ok:kH ops l s (vC own l) (λi j=>i==pre.length&&j==pre.length+1+mid1.length)= true
 fr:free=Vc (yI ops []) pre.length (pre.length+1+mid1.length) l
 wait:tU (yI ops []) pre.length mid1 (pre.length+1)= true
theorem nG {own:List Nat} {ops:List Oper} {l:List xN} {s:Nat} {dc:DC} (h:Xq own ops l s=some dc) :
  ∃ (pre:List xN) (o:xN) (mid1:List xN) (o2:xN) (mid2 post:List xN) (free:List Nat),dc = .bY pre o mid1 o2 mid2 post free/\post=l.drop s/\P7 own ops l s pre o mid1 o2 mid2 free:=by
 have split:∀ (h:List xN) (m:Nat),h.findIdx? (wX own)= some m->∃ o,h[m]?=some o/\h=h.take m++o :: h.drop (m+1)/\ wX own o=true/\(∀ x ∈ h.take m,wX own x=false)/\ (h.take m).length=m:=by
  intro h m hi;obtain⟨hlt,hp,hb⟩:=Ab.1 hi
  refine⟨h[m],γ hlt,?_,hp,λx hx=>?_,by rw [ο]; omega⟩
  ·conv=>lhs; rw [<- ν m h,Ag hlt]
  ·obtain⟨i,hi,rfl⟩:=Ac hx;rw [ο] at hi;have:=hb i (by omega);simpa using this
 have none_:∀ h:List xN,h.findIdx? (wX own)= none->∀ x ∈ h,wX own x=false:=λh hi x hx=>by have:=Af.1 hi x hx;simpa using this
 unfold Xq at h;dsimp only at h
 cases hi:(l.take s).findIdx? (wX own) with
 | none=>rw [hi] at h; cases h
 | some m=>
  rw [hi] at h;obtain⟨o,h1,h2,h3,h4,h5⟩:=split _ _ hi;simp only [h1] at h
  cases hj:((l.take s).drop (m+1)).findIdx? (wX own) with
  | none=>rw [hj] at h; cases h
  | some n=>
   rw [hj] at h;obtain⟨o2,g1,g2,g3,g4,g5⟩:=split _ _ hj;simp only [g1] at h
   split at h
   ·rename_i hc;simp only [Ba,Bb,Az,decide_eq_true_eq] at hc;obtain⟨⟨⟨⟨⟨c1,c2⟩,c3⟩,c4,c5⟩,c6⟩,c7⟩:=hc
    refine⟨_,o,_,o2,_,_,_,(Option.some.inj h).symm,rfl,⟨?_,c2,c3,h4,h3,g4,g3,none_ _ c1,c4,c5,?_,?_,?_⟩⟩
    ·conv=>lhs; rw [h2,g2]
    ·rw [h5,g5]; exact c6
    ·rw [h5,g5]
    ·rw [h5]; exact c7
   ·cases h
structure T4 (own : List Nat) (ops : List Oper) (l : List xN) (s : Nat) (xs : List Nat) (y : Nat) : Prop where
 alloc:y<s->∃ o,l[y]?=some o/\gM o.k=true/\wX own o=true
 KX:¬ y<s->y=l.length
 jE:∀ i,i<s->(vC own l i=true ↔ i ∈ xs\/i=y)
 lt:∀ x ∈ xs,x<y/\x<s
 len:s<=l.length
 nodup:(l.filterMap (·.dst)).Nodup
 lq:∀ x ∈ xs,∃ o,l[x]?=some o/\o.k.zH=false/\wX own o=true
 ok:kH ops l s (vC own l) (λi j=>xs.contains i&&j==y)= true
theorem pT {own:List Nat} {ops:List Oper} {l:List xN} {s:Nat} {dc:DC} (h:kf own ops l s=some dc):∃ xs y,dc = .mK (yI ops []) l s xs y/\T4 own ops l s xs y:=by
 unfold kf at h
 split at h
 ·rename_i y r hr
  have gen:∀ xs y',eY own ops l s xs y'=true->(∀ i,i<s->(vC own l i=true ↔ i ∈ xs\/i=y'))->(∀ x ∈ xs,x<y'/\x<s/\vC own l x=true)->(y'<s->vC own l y'=true)->T4 own ops l s xs y':=λxs y' hc g1 g2 g3=>by
   have hmu:∀ i,vC own l i=true->∃ o,l[i]?=some o/\wX own o=true:=λi h=>by
    unfold vC at h
    split at h
    ·rename_i d hd; exact⟨d,hd,h⟩
    ·cases h
   unfold eY at hc;simp only [Ba,decide_eq_true_eq] at hc;obtain⟨⟨⟨⟨c1,c2⟩,c3⟩,c4⟩,c5⟩:=hc
   refine⟨λhy=>?_,λhy=>?_,g1,λx hx=>⟨(g2 x hx).1,(g2 x hx).2.1⟩,c2,c3,λx hx=>?_,c5⟩
   ·obtain⟨o,h1,h2⟩:=hmu y' (g3 hy);rw [if_pos hy,h1] at c1;exact⟨o,h1,c1,h2⟩
   ·rw [if_neg hy] at c1;simpa using c1
   ·obtain⟨o,h1,h2⟩:=hmu x (g2 x hx).2.2;have:=υ.1 c4 x hx;rw [h1] at this;exact⟨o,h1,by simpa using this,h2⟩
  have e:(List.range s).filter (vC own l)= r.reverse ++ [y]:=by have:=congrArg List.reverse hr;simpa using this
  have hmem:∀ i,i<s->(vC own l i=true ↔ i ∈ r.reverse\/i=y):=λi hi=>by
   have:i ∈ (List.range s).filter (vC own l) ↔ i ∈ r.reverse ++ [y]:=by rw [e]
   rw [ω,χ,Al,Ad] at this;exact⟨λh=>this.1 ⟨hi,h⟩,λh=>(this.2 h).2⟩
  have hin:∀ i,i ∈ r.reverse ++ [y]->i<s/\vC own l i=true:=λi hi=>by rw [<- e,ω,χ] at hi; exact hi
  have hs:(r.reverse ++ [y]).Pairwise (· < ·):=by rw [<- e]; exact List.Pairwise.filter _ List.pairwise_lt_range
  split at h
  ·rename_i hc;exact⟨_,_,(Option.some.inj h).symm,gen _ _ hc hmem (λx hx=>⟨(List.pairwise_append.1 hs).2.2 x hx y (by simp),hin x (Ao _ hx)⟩) λ_=>(hin y (by simp)).2⟩
  split at h
  ·rename_i hc
   refine⟨_,_,(Option.some.inj h).symm,gen _ _ hc (λi hi=>?_) (λx hx=>?_) λhy=>?_⟩
   ·have h2:s<=l.length:=by unfold eY at hc;simp only [Ba,decide_eq_true_eq] at hc;exact hc.1.1.1.2
    rw [hmem i hi,Aq,Al,Ad];exact⟨.inl,λh=>h.resolve_right (by omega)⟩
   ·have h2:s<=l.length:=by unfold eY at hc;simp only [Ba,decide_eq_true_eq] at hc;exact hc.1.1.1.2
    rw [Aq] at hx;have:=hin x hx;exact⟨by omega,this⟩
   ·have h2:s<=l.length:=by unfold eY at hc;simp only [Ba,decide_eq_true_eq] at hc;exact hc.1.1.1.2
    omega
  ·cases h
 ·cases h
theorem qK {own:List Nat} {ops:List Oper} {l:List xN} {s:Nat} {dc:DC} (h:Xp own ops l s=some dc):YV own ops l s=some dc\/∃ xs y,dc = .mK (yI ops []) l s xs y/\T4 own ops l s xs y:=by
 unfold Xp at h
 split at h
 ·rename_i d hd;cases h;exact .inl hd
 ·exact .inr (pT h)
theorem uG {P:Program} {N:Nat} {own:List Nat} {id:Nat} {ops:Array Oper} {draw:Bool} {dc:DC} (h:tW P N own (.region id ops draw)= some dc):(∃ _ _:Unit,Og dc=true)\/(draw=false /\
  ((dW P N own ops=some dc/\∃ pre it m,dc = .Zf pre it m)\/(qt N ops=some dc/\∃ it nx more,dc = .WA it nx more)\/(qq P N own ops=some dc/\∃ it pair rest,dc = .W9 it pair rest)))\/(draw=true/\dW P N own ops=some dc/\(∃ pre it m,dc = .Zf pre it m)/\ VY ops):=by
 simp only [tW] at h
 split at h
 ·rename_i d hd;cases h;rcases nF hd with ⟨h1,h2⟩ | ⟨h1,h2,h3⟩
  case inr=> obtain⟨l,o,t,x,it,m,pre,_,_,_,_,_,_,_,_,rfl⟩:=tS h2;exact .inr (.inr ⟨h1,h2,⟨_,_,_,rfl⟩,h3⟩)
  refine .inr (.inl ⟨h1,?_⟩)
  rcases h2 with h2 | h2 | h2
  ·obtain⟨l,o,t,x,it,m,pre,_,_,_,_,_,_,_,_,rfl⟩:=tS h2;exact .inl ⟨h2,_,_,_,rfl⟩
  ·obtain⟨o2,o3,it,nx,more,_,_,_,_,_,_,_,_,_,rfl⟩:=oG h2;exact .inr (.inl ⟨h2,_,_,_,rfl⟩)
  ·obtain⟨o,l,it,pair,rest,_,_,_,_,_,_,rfl⟩:=oF h2;exact .inr (.inr ⟨h2,_,_,_,rfl⟩)
 ·simp only [Ax,Av] at h;obtain⟨l,hl,h⟩:=h;left;refine⟨(),(),?_⟩
  split at h
  ·split at h
   ·split at h
    ·rename_i d hd;cases h;obtain⟨_,_,_,_,_,_,rfl,_⟩:=nH hd;rfl
    rcases qK h with h | ⟨_,_,rfl,_⟩
    case inr=>rfl
    rcases pC h with ⟨rfl,_⟩ | ⟨_,_,_,_,_,rfl,_⟩ | ⟨_,_,_,_,_,_,_,_,_,_,_,rfl,_⟩ <;> rfl
   ·split at h
    ·split at h
     ·rename_i d hd;cases h;obtain⟨_,_,_,_,_,_,_,rfl,_⟩:=nG hd; rfl
     ·obtain⟨_,_,rfl,_⟩:=pT h; rfl
    ·simp at h
  ·simp at h; rw [<- h]; rfl
theorem jc {P:Program} {N:Nat} {own:List Nat} {code:Code} {x y:DC} (h:tW P N own code=some (.seq x y)):∃ a b,code = .seq a b/\tW P N own a=some x/\tW P N own b=some y:=by
 cases code with
 | region id ops draw=>rcases uG h with ⟨_,_,e⟩ | ⟨_,⟨_,_,_,_,e⟩ | ⟨_,_,_,_,e⟩ | ⟨_,_,_,_,e⟩⟩ | ⟨_,_,⟨_,_,_,e⟩,_⟩ <;> cases e
 | seq a b=>
  simp only [tW,zO] at h;obtain⟨dx,hx,dy,hy,h⟩:=h
  rcases vT dx dy with e | ⟨_,_,_,_,_,_,_,_,_,_,_,_,e,_⟩
  ·rw [e] at h; cases h; exact⟨a,b,rfl,hx,hy⟩
  ·rw [e] at h; cases h
 | _=>simp [tW,Av] at h
theorem ou {P:Program} {N:Nat} {own:List Nat} {code:Code} {id:Nat} {x:DC} (h:tW P N own code=some (.block id x)):∃ c,code = .block id c/\tW P N own c=some x:=by
 cases code with
 | region id ops draw=>rcases uG h with ⟨_,_,e⟩ | ⟨_,⟨_,_,_,_,e⟩ | ⟨_,_,_,_,e⟩ | ⟨_,_,_,_,e⟩⟩ | ⟨_,_,⟨_,_,_,e⟩,_⟩ <;> cases e
 | seq a b=> simp only [tW,zO] at h;obtain⟨dx,hx,dy,hy,h⟩:=h;rcases vT dx dy with e | ⟨_,_,_,_,_,_,_,_,_,_,_,_,e,_⟩ <;> rw [e] at h <;> cases h
 | block i c=> simp only [tW,zO,DC.block.injEq] at h;obtain⟨dx,hx,rfl,rfl⟩:=h;exact⟨c,rfl,hx⟩
 | _=>simp [tW,Av] at h
theorem bg {P:Program} {N:Nat} {own:List Nat} {code:Code} {x:DC} (h:tW P N own code=some (.loop x)):∃ c,code = .loop c/\tW P N own c=some x:=by
 cases code with
 | region id ops draw=>rcases uG h with ⟨_,_,e⟩ | ⟨_,⟨_,_,_,_,e⟩ | ⟨_,_,_,_,e⟩ | ⟨_,_,_,_,e⟩⟩ | ⟨_,_,⟨_,_,_,e⟩,_⟩ <;> cases e
 | seq a b=> simp only [tW,zO] at h;obtain⟨dx,hx,dy,hy,h⟩:=h;rcases vT dx dy with e | ⟨_,_,_,_,_,_,_,_,_,_,_,_,e,_⟩ <;> rw [e] at h <;> cases h
 | loop c=> simp only [tW,zO,DC.loop.injEq] at h;obtain⟨dx,hx,rfl⟩:=h;exact⟨c,rfl,hx⟩
 | _=>simp [tW,Av] at h
theorem U3 {P:Program} {N:Nat} {own:List Nat} {code:Code} {c:vK} {id:Nat} (h:tW P N own code=some (.cond c .skip (.exit id))):∃ c',code = .cond c' .skip (.exit id)/\ xM N c'=some c:=by
 cases code with
 | region id ops draw=>rcases uG h with ⟨_,_,e⟩ | ⟨_,⟨_,_,_,_,e⟩ | ⟨_,_,_,_,e⟩ | ⟨_,_,_,_,e⟩⟩ | ⟨_,_,⟨_,_,_,e⟩,_⟩ <;> cases e
 | seq a b=> simp only [tW,zO] at h;obtain⟨dx,hx,dy,hy,h⟩:=h;rcases vT dx dy with e | ⟨_,_,_,_,_,_,_,_,_,_,_,_,e,_⟩ <;> rw [e] at h <;> cases h
 | cond x a b=>
  simp only [tW,zO,DC.cond.injEq] at h;obtain⟨c',hc,dx,hx,dy,hy,rfl,rfl,rfl⟩:=h
  have ha:a = .skip:=by
   cases a with
   | skip=>rfl
   | region id ops draw=>rcases uG hx with ⟨_,_,e⟩ | ⟨_,⟨_,_,_,_,e⟩ | ⟨_,_,_,_,e⟩ | ⟨_,_,_,_,e⟩⟩ | ⟨_,_,⟨_,_,_,e⟩,_⟩ <;> cases e
   | seq p q=> simp only [tW,zO] at hx;obtain⟨dx,_,dy,_,h⟩:=hx;rcases vT dx dy with e | ⟨_,_,_,_,_,_,_,_,_,_,_,_,e,_⟩ <;> rw [e] at h <;> cases h
   | _=>simp [tW,Av] at hx
  have hb:b = .exit id:=by
   cases b with
   | exit i=>simp [tW] at hy; rw [hy]
   | region id ops draw=>rcases uG hy with ⟨_,_,e⟩ | ⟨_,⟨_,_,_,_,e⟩ | ⟨_,_,_,_,e⟩ | ⟨_,_,_,_,e⟩⟩ | ⟨_,_,⟨_,_,_,e⟩,_⟩ <;> cases e
   | seq p q=> simp only [tW,zO] at hy;obtain⟨dx,_,dy,_,h⟩:=hy;rcases vT dx dy with e | ⟨_,_,_,_,_,_,_,_,_,_,_,_,e,_⟩ <;> rw [e] at h <;> cases h
   | _=>simp [tW,Av] at hy
  exact⟨x,by rw [ha,hb],hc⟩
 | _=>simp [tW,Av] at h
theorem SH {P:Program} {N:Nat} {own:List Nat} {code:Code} {pre:List xN} {it:Nat} {m:vK} (h:tW P N own code=some (.Zf pre it m)):∃ id ops draw,code = .region id ops draw/\dW P N own ops=some (.Zf pre it m)/\ (draw=false\/(draw=true/\VY ops)):=by
 cases code with
 | region id ops draw=>
  rcases uG h with ⟨_,_,e⟩ | ⟨rfl,⟨h1,_⟩ | ⟨_,_,_,_,e⟩ | ⟨_,_,_,_,e⟩⟩ | ⟨h0,h1,_,h3⟩
  ·cases e
  ·exact⟨id,ops,_,rfl,h1,.inl rfl⟩
  ·cases e
  ·cases e
  ·exact⟨id,ops,_,rfl,h1,.inr ⟨h0,h3⟩⟩
 | seq a b=> simp only [tW,zO] at h;obtain⟨dx,hx,dy,hy,h⟩:=h;rcases vT dx dy with e | ⟨_,_,_,_,_,_,_,_,_,_,_,_,e,_⟩ <;> rw [e] at h <;> cases h
 | _=>simp [tW,Av] at h
theorem SG {P:Program} {N:Nat} {own:List Nat} {code:Code} {it nx more:Nat} (h:tW P N own code=some (.WA it nx more)):∃ id ops,code = .region id ops false/\qt N ops=some (.WA it nx more):=by
 cases code with
 | region id ops draw=>
  rcases uG h with ⟨_,_,e⟩ | ⟨rfl,⟨_,_,_,_,e⟩ | ⟨h1,_⟩ | ⟨_,_,_,_,e⟩⟩ | ⟨_,_,⟨_,_,_,e⟩,_⟩
  ·cases e
  ·cases e
  ·exact⟨id,ops,rfl,h1⟩
  ·cases e
  ·cases e
 | seq a b=> simp only [tW,zO] at h;obtain⟨dx,hx,dy,hy,h⟩:=h;rcases vT dx dy with e | ⟨_,_,_,_,_,_,_,_,_,_,_,_,e,_⟩ <;> rw [e] at h <;> cases h
 | _=>simp [tW,Av] at h
theorem SF {P:Program} {N:Nat} {own:List Nat} {code:Code} {it pair:Nat} {rest:List xN} (h:tW P N own code=some (.W9 it pair rest)):∃ id ops,code = .region id ops false/\qq P N own ops=some (.W9 it pair rest):=by
 cases code with
 | region id ops draw=>
  rcases uG h with ⟨_,_,e⟩ | ⟨rfl,⟨_,_,_,_,e⟩ | ⟨_,_,_,_,e⟩ | ⟨h1,_⟩⟩ | ⟨_,_,⟨_,_,_,e⟩,_⟩
  ·cases e
  ·cases e
  ·cases e
  ·exact⟨id,ops,rfl,h1⟩
  ·cases e
 | seq a b=> simp only [tW,zO] at h;obtain⟨dx,hx,dy,hy,h⟩:=h;rcases vT dx dy with e | ⟨_,_,_,_,_,_,_,_,_,_,_,_,e,_⟩ <;> rw [e] at h <;> cases h
 | _=>simp [tW,Av] at h
theorem eval_put {a:Act} {t:Nat} {v:Value} (h:t<a.tmps.size):(a.put (some t) v).eval (.tmp t)= v:=by simp [Act.put,Act.eval,h]
theorem xh {C:Cx} {E:Env} {ops:Array Oper} {Q:Exit->Act->World->Prop} {K:Fr->St->Prop} {l2:List Oper} (hQ:∀ a w f σ,Good C E a w f σ->K f σ->wpList C.P ops Q l2 a w):∀ (l:List Oper) (ds:List xN) (a:Act) (w:World) (f:Fr) (σ:St),wI (lW C.P C.N C.own ops) l=some ds->Good C E a w f σ->tP C ds f σ K ->
  wpList C.P ops Q (l++l2) a w
 | [],ds,a,w,f,σ,hm,G,h=>by simp [wI] at hm; subst hm;exact hQ _ _ _ _ G h
 | o :: l,ds,a,w,f,σ,hm,G,h=>by
  unfold wI at hm
  split at hm
  ·rename_i dop ds' hd hds;simp at hm; subst hm;simp only [tP,R4] at h;have:=jf (next:=wpList C.P ops Q (l++l2)) (Q:=Q) (K:=λd σ'=>tP C ds' (f.put dop.dst d) σ' K) hd G h (λa' w' d σ' G' h'=>xh hQ l ds' a' w' _ _ hds G' h');show wpList C.P ops Q (o :: (l++l2)) a w;unfold wpList
   split
   ·rename_i hw; rw [if_pos hw] at this; exact .inl this
   ·rename_i hw; rw [if_neg hw] at this; exact this
  ·simp at hm
theorem Yz {N:Nat} {ops:Array Oper} {o:Oper} {dop:xN} (h:cG N ops o dop) (hg:o.guard=none):dop.guard=none:=by
 rcases h with ⟨_,h⟩ | ⟨_,_,_,_,h,_⟩
 ·exact h
 ·rw [hg] at h; cases h
theorem WL {P:Program} {N:Nat} {own:List Nat} {o:Oper} {k:DK} (hc:za o=true) (hk:Ze P N own o=some k):k.impure=false:=by
 cases hop:o.op <;> simp only [Ze,hop] at hk <;> (try (simp only [za,hop,Be] at hc; done))
 case move x=> simp only [A0] at hk;obtain⟨x',hx,rfl⟩:=hk;rfl
 case nilCheck x=> simp only [A0] at hk;obtain⟨x',hx,rfl⟩:=hk;rfl
 case assign x=> simp only [A0] at hk;obtain⟨x',hx,rfl⟩:=hk;rfl
 case fieldAddr t x i=> simp only [zO] at hk;obtain⟨q,hq,z',hz,z,hz',x',hx,rfl⟩:=hk;rfl
 case indexAddr t x y=>
  split at hk
  ·simp only [zO] at hk;obtain⟨z',hz,sz,hz',x',hx,y',hy,rfl⟩:=hk;rfl
  ·split at hk
   ·simp only [Ax,Av] at hk;obtain⟨_,_,_,_,_,_,hk⟩:=hk
    split at hk
    ·cases hk; rfl
    ·cases hk
   ·simp only [Ax,Av,Option.some.injEq] at hk;obtain⟨_,_,_,_,_,_,_,_,rfl⟩:=hk;rfl
   ·cases hk
 case load t x=>
  simp only [zO] at hk;obtain⟨ag,hag,n,hn',x',hx,hk⟩:=hk
  split at hk
  ·simp at hk; subst hk; rfl
  ·simp at hk
theorem tf {C:Cx} {E:Env} {ops ops0:Array Oper} {Q:Act->Prop} {K:Fr->St->Prop} {w:World} (hQ:∀ a f σ,Good C E a w f σ->K f σ->Q a):∀ (l:List Oper) (ds:List xN) (a:Act) (f:Fr) (σ:St),wI (lW C.P C.N C.own ops) l=some ds->(∀ o ∈ l,za o=true/\o.guard=none)->Good C E a w f σ->tP C ds f σ K ->
  wpStill C.P ops0 w Q l a
 | [],ds,a,f,σ,hm,hc,G,h=>by simp [wI] at hm; subst hm;exact hQ _ _ _ G h
 | o :: l,ds,a,f,σ,hm,hc,G,h=>by
  unfold wI at hm
  split at hm
  ·rename_i dop ds' hd hds;simp at hm; subst hm;simp only [tP,R4] at h;obtain⟨hk,hdst,hN,hgr⟩:=vg hd;obtain⟨ho,hgo⟩:=hc o (by simp);obtain⟨ι,G⟩:=G;have hgn:dop.guard=none:=Yz hgr hgo;unfold xR at h;simp only [hgn] at h;have hp:=vk (WL ho hk) h;show if Region.wanted o (yielded ops0 a.tmps) then o.still C.P a w (wpStill C.P ops0 w Q l) else wpStill C.P ops0 w Q l (a.put o.dst undef);rw [if_pos (by simp [Region.wanted,hgo])];refine SX ho hk hp G.oC (λx y hxy=>oD G.fr hxy) λv d hy hK hr=>?_;unfold Oper.still;unfold Yields at hy;rw [hy,Oper.stillUpon_value,hdst];exact tf hQ l ds' _ _ _ hds (λo' ho'=>hc o' (List.mem_cons_of_mem _ ho')) ⟨ι,G.set hr hN⟩ hK
  ·simp at hm
theorem r9 {C:Cx} (hmx:C.P.follows .mixedOrders=true) {x y:Code} {pre:List xN} {it:Nat} {m:vK} {out nx more next pair:Nat} {rest:List xN} {code:DC} {f:Fr} {σ:St} {Q:Exit->Fr->St->Prop}
  (hx:tW C.P C.N C.own x=some (.Zf pre it m)) (hy:tW C.P C.N C.own y=some (.block out (.loop (.seq (.WA it nx more) (.seq (.cond (.t more) .skip (.exit out)) (.block next (.seq (.W9 it pair rest) code)))))))
  (d1:it≠nx) (d2:it≠more) (d3:it≠pair) (h:tP C pre f σ λf σ=>wo C it m out nx more next pair rest code f σ Q) (E:Env) (a:Act) (w:World) (G:Good C E a w f σ):(Code.seq x y).wpIn C.F 0 C.P (LQ C E Q) a w:=by
 by_cases hrd:C.rd=none
 case neg=> obtain⟨_,_,_,_,h0,_⟩:=iL _ _ _ h;exact absurd h0 hrd
 have hF:C.F=Fence.wide:=by unfold Cx.F; rw [hrd]; rfl
 rw [hF,wpIn_wide];obtain⟨id1,ops1,dr1,rfl,hr,hdr⟩:=SH hx;obtain⟨l1,o1,t1,x1,it',m',pre',hl1,ho1,hd1,hg1,hm1,hp1,⟨kt,et,hty⟩,hit,he⟩:=tS hr;cases he;obtain⟨yb,rfl,hy1⟩:=ou hy;obtain⟨yl,rfl,hy2⟩:=bg hy1;obtain⟨ys,yr,rfl,hs,hy3⟩:=jc hy2;obtain⟨yc,yn,rfl,hcd,hy4⟩:=jc hy3;obtain⟨yk,rfl,hy5⟩:=ou hy4;obtain⟨ya,yd,rfl,ha,hcode⟩:=jc hy5;obtain⟨id2,ops2,rfl,hn2⟩:=SG hs;obtain⟨o2,o3,it2,nx2,more2,hl2,ho2,hd2,hg2,ho3,hd3,hg3,hnx,hmore,he⟩:=oG hn2;cases he;obtain⟨cc,rfl,hcc⟩:=U3 hcd
 have hcc':cc = .tmp more:=by
  cases cc with
  | tmp t=>simp [xM] at hcc; rw [hcc.2]
  | const v=>simp [xM] at hcc
  | func g=>simp [xM] at hcc
  | global g=>simp [xM] at hcc
 subst hcc';obtain⟨id3,ops3,rfl,he3⟩:=SF ha;obtain⟨o4,l3,it4,pair4,rest4,hl3,ho4,hd4,hg4,hr3,hpair,he⟩:=oF he3;cases he;refine wp_seq ?_;generalize hQQ:Exit.then _ _=QQ
 suffices hcont:∀ a w f σ,Good C E a w f σ->wo C it m out nx more next pair rest code f σ Q->wpList C.P ops1 QQ [o1] a w by
  rcases hdr with rfl | ⟨rfl,hc1,hc2⟩
  ·refine wp_region_list ?_;rw [hl1];exact xh hcont l1 pre a w f σ hp1 G h
  ·have G':Good C E a { w with drawn:=w.drawn+1 } f σ:=by obtain⟨ι,G⟩:=G;have hk:Kept w w.drew λ_=>False:=(Kept.refl _ _).drew;have hS:=G.oC.ext hk;exact⟨ι,⟨G.size,G.defers.xC rfl (A4 _) λD hD=>hD,G.nx,G.kept.drew,hS,G.oS,G.rQ,G.stay,G.fr.xC (λb hb _=>rfl) (λ_ _ h=>h) hk.shape (λ_ _=>rfl) (A4 _)⟩⟩
   have hn:ops1.size-1=l1.length:=by rw [<- Bj,hl1]; simp
   rw [hl1,Ap] at hc1;obtain rfl:ops1=(l1 ++ [o1]).toArray:=by rw [<- hl1]
   rw [hn] at hc2;refine wp_region_still_tail (l:=l1 ++ [o1]) l1.length hmx hc2 ?_;rw [List.take_left' rfl,List.drop_left' rfl];refine tf (K:=λf σ=>wo C it m out nx more next pair rest code f σ Q) (λa f σ G h=>hcont a _ f σ G h) l1 pre a f σ hp1 (λo ho=>?_) G' h;have:=υ.1 hc1 o ho;rw [Ba] at this;exact⟨this.1,by simpa using this.2⟩
 subst hQQ;intro a w f σ G h;obtain⟨ι,G⟩:=G;obtain⟨key,xZ,_,hm,hob,hI⟩:=h;have hv:=(hm ▸ oD G.fr hm1).qN;obtain⟨es,e1,e2,e3⟩:=yZ.mapped (G.oC.holds key _ hob).2 rfl;refine wpList_step λK hK=>?_;rw [if_pos (by simp [Region.wanted,hg1])]
 have hrun:(execOp a.eval o1).run C.P w = .ok (.value (.pointer (some ⟨w.heap.size,0,none⟩))) (w.alloc (.mapIter (some (ι key)) es.size #[] es.size)):=by simp [execOp,ho1,hv.1,run_range_map w t1 kt et (ι key) es es.size hty e1]
 refine uZ hrun (hK _ _ (wpList_nil ?_));rw [hd1];have G1:=(G.enter hv.2 (.mapIter (some (ι key)) es.size #[] es.size)).set (dst:=some it) (v:=.pointer (some ⟨w.heap.size,0,none⟩)) (d:=.zo w.heap.size) (.pure (.zo _)) (λt ht=>by cases ht; exact hit);obtain⟨I,⟨f1,σ1,hW,hI0⟩,hIk,hIr⟩:=hI w.heap.size
 have hbm:ι key≠w.heap.size:=λe=>by have:=(Bg.1 e1).1;omega
 show Code.wp _ _ _ _ _
 refine wp_block (wp_loop (λa' w'=>∃ seen f' σ',I seen f' σ'/\seen.Nodup/\(∀ j ∈ seen,j<xZ.length)/\
  (∃ ι',yR { C with n0:=max C.n0 (key+1) } ⟨w.alloc (.mapIter (some (ι key)) es.size #[] es.size),λb=>E.M0 b\/b=w.heap.size,λb=>rB ι σ b\/b=w.heap.size,ι,E.B⟩ a' w' f' σ' ι')/\
  w'.heap[w.heap.size]?=some (.mapIter (some (ι key)) es.size seen.toArray es.size)) (λ_ w'=>match w'.heap[w.heap.size]? with | some (.mapIter _ _ s _)=>xZ.length-s.size | _=>0)
  ⟨[],f1,σ1,hI0,.nil,by simp,hW _ _ _ ⟨ι,G1⟩,heap_alloc_new w _⟩ ?_)
 rintro a' w' ⟨seen,f',σ',hi,hnd,hlt,⟨ι',G'⟩,hit0⟩;obtain⟨hfit,hob'⟩:=hIk _ _ _ hi;have hkey:ι' key=ι key:=G'.stay key (by show key<max C.n0 (key+1); omega);obtain⟨es',e1',e2',e3'⟩:=yZ.mapped (G'.oC.holds key _ hob').2 rfl;rw [hkey] at e1';simp only at e2 e2' e3';have hb0:w.heap.size<w'.heap.size:=(Bg.1 hit0).1
 have hpt:a'.eval (.tmp it)= .pointer (some ⟨w.heap.size,0,none⟩):=by have:=G'.fr it;rw [hfit] at this;exact this.gI
 have hat:∀ (e:MapEntry),e ∈ es'.toList->∃ i,i<xZ.length/\es'[i]?=some e/\e.born=i:=by
  intro e he;obtain⟨i,hi1,hi2⟩:=Ac he;simp only [Bj] at hi1;have hi3:i<xZ.length:=by omega
  obtain⟨kv,v,xx,dd,r1,r2,r3,r4⟩:=e3' i hi3;have:es'[i]?=some e:=by rw [<- hi2]; simp [hi1]
  rw [r2] at this;cases this;exact⟨i,hi3,r2,rfl⟩
 have hold:∀ x ∈ es'.toList,x.born<es.size:=λx hx=>by obtain⟨i,h1,_,h3⟩:=hat x hx;omega
 have hround:=hIr seen f' σ' hi hnd hlt;have hsN:a'.tmps.size=C.N:=G'.size;refine wp_seq (wp_region_list ?_);rw [hl2];refine wpList_step λK hK=>?_;rw [if_pos (by simp [Region.wanted,hg2])]
 rcases run_next_at (P:=C.P) w' o2.type w.heap.size (ι key) es.size es.size seen.toArray es' es'.size hit0 e1' hold (A4 _) with ⟨h0,hrun⟩ | ⟨e,he,w2,hw2,hrun⟩
 ·have hall:∀ i,i<xZ.length->i ∈ seen:=by
   intro i hi';refine Classical.byContradiction λhno=>?_;obtain⟨kv,v,xx,dd,r1,r2,r3,r4⟩:=e3' i hi'
   have hmem:(⟨kv,v,i⟩:MapEntry)∈ leftOf es' seen.toArray:=by unfold leftOf;rw [Bk];exact⟨Array.mem_of_getElem? r2,by simpa using hno⟩
   have:=Array.size_pos_of_mem hmem;omega
  have hrun':(execOp a'.eval o2).run C.P w' = .ok (.value (.tuple #[.bool false])) w':=by simp [execOp,ho2,hpt,hrun]
  refine uZ hrun' (hK _ _ ?_);rw [hd2];refine wpList_step λK2 hK2=>?_;rw [if_pos (by simp [Region.wanted,hg3])];have hev:=eval_put (a:=a') (t:=nx) (v:=.tuple #[.bool false]) (by rw [hsN]; exact hnx);have hrun3:(execOp (a'.put (some nx) (.tuple #[.bool false])).eval o3).run C.P w' = .ok (.value (.bool false)) w':=by simp [execOp,ho3,hev,Instr.extract]
  refine uZ hrun3 (hK2 _ _ (wpList_nil ?_));rw [hd3];have G2:=(G'.set (dst:=some nx) (v:=.tuple #[.bool false]) (d:=.top) (R.top _) (λt ht=>by cases ht; exact hnx)).set (dst:=some more) (v:=.bool false) (d:=.top) (R.top _) (λt ht=>by cases ht; exact hmore);have hev2:=eval_put (a:=a'.put (some nx) (.tuple #[.bool false])) (t:=more) (v:=.bool false) (by rw [vn,hsN]; exact hmore);show Code.wp _ _ _ _ _;refine wp_seq (wp_cond_split hev2 (λh=>by cases h) λ_=>wp_exit ?_);show (if out=out then _ else _);rw [if_pos rfl];exact⟨_,σ',⟨ι',G.leave G2⟩,hround.1 (l8 hnd hlt hall)⟩
 ·unfold leftOf at he;obtain⟨he1,he2⟩:=Bk.1 (Bi.1 he);obtain⟨i,hil,hie,hib⟩:=hat e (Bi.2 he1);have hni:i ∉ seen:=by rw [<- hib]; simpa using he2
  have h2:=hround.2 i hil hni;obtain⟨kv,v,xx,dd,r1,r2,r3,r4⟩:=e3' i hil;rw [r2] at hie;cases hie;simp only at hrun hib;have hrun':(execOp a'.eval o2).run C.P w' = .ok (.value (.tuple #[.bool true,kv,v])) (ChangeMaps.setBlock w2 w.heap.size (.mapIter (some (ι key)) es.size (seen.toArray.push i) es'.size)):=by simp [execOp,ho2,hpt,hrun]
  have k2:Kept w' w2 λb=>b=w.heap.size:=by
   rcases hw2 with rfl | rfl
   ·exact Kept.refl _ _
   ·exact(Kept.refl _ _).drew
  have hit2:w2.heap[w.heap.size]?=some (.mapIter (some (ι key)) es.size seen.toArray es.size):=by rcases hw2 with rfl | rfl <;> exact hit0
  have e12:w2.heap[ι key]?=some (.map es' es'.size):=by rcases hw2 with rfl | rfl <;> exact e1'
  have k3:=rk (o':=.mapIter (some (ι key)) es.size (seen.toArray.push i) es'.size) hit2 (λ_ _ h=>by cases h);have hb02:w.heap.size<w2.heap.size:=(Bg.1 hit2).1;have hit3:=u5 (o':=.mapIter (some (ι key)) es.size (seen.toArray.push i) es'.size) hb02
  have e13:(ChangeMaps.setBlock w2 w.heap.size (.mapIter (some (ι key)) es.size (seen.toArray.push i) es'.size)).heap[ι key]?=some (.map es' es'.size):=by rw [k3.block _ (Bg.1 e12).1 hbm]; exact e12
  have G3:=(G'.tick k2 (.inr rfl) (.inr rfl) (λx e=>by rw [hit0] at e; cases e)).tick k3 (.inr rfl) (.inr rfl) (λx e=>by rw [hit2] at e; cases e);generalize ChangeMaps.setBlock w2 w.heap.size (.mapIter (some (ι key)) es.size (seen.toArray.push i) es'.size)= w3 at hrun' k3 hit3 e13 G3;refine uZ hrun' (hK _ _ ?_);rw [hd2];refine wpList_step λK2 hK2=>?_;rw [if_pos (by simp [Region.wanted,hg3])];have hev:=eval_put (a:=a') (t:=nx) (v:=.tuple #[.bool true,kv,v]) (by rw [hsN]; exact hnx);have hrun3:(execOp (a'.put (some nx) (.tuple #[.bool true,kv,v])).eval o3).run C.P w3 = .ok (.value (.bool true)) w3:=by simp [execOp,ho3,hev,Instr.extract]
  refine uZ hrun3 (hK2 _ _ (wpList_nil ?_));rw [hd3];have G4:=(G3.set (dst:=some nx) (v:=.tuple #[.bool true,kv,v]) (d:=.top) (R.top _) (λt ht=>by cases ht; exact hnx)).set (dst:=some more) (v:=.bool true) (d:=.top) (R.top _) (λt ht=>by cases ht; exact hmore);have hev2:=eval_put (a:=a'.put (some nx) (.tuple #[.bool true,kv,v])) (t:=more) (v:=.bool true) (by rw [vn,hsN]; exact hmore)
  have hpt4:((a'.put (some nx) (.tuple #[.bool true,kv,v])).put (some more) (.bool true)).eval (.tmp it)= .pointer (some ⟨w.heap.size,0,none⟩):=by have:=G4.fr it;rw [show ((f'.put (some nx) .top).put (some more) .top).get it=f'.get it by simp [Fr.put,Fr.get,Ne.symm d1,Ne.symm d2],hfit] at this;exact this.gI
  generalize ha4:(a'.put (some nx) (.tuple #[.bool true,kv,v])).put (some more) (.bool true)= a4 at G4 hev2 hpt4;show Code.wp _ _ _ _ _;refine wp_seq (wp_cond_split hev2 (λ_=>wp_skip ?_) λh=>by cases h);show Code.wp _ _ _ _ _;refine wp_block (wp_seq (wp_region_list ?_));rw [hl3];refine wpList_step λK4 hK4=>?_;rw [if_pos (by simp [Region.wanted,hg4])]
  have hnb:(es'.toList.map (·.born)).Nodup:=by
   have:es'.toList.map (·.born)= List.range es'.size:=by
    refine As λj=>?_;rw [Ar]
    by_cases hj:j<es'.size
    ·obtain⟨_,_,_,_,_,q2,_,_⟩:=e3' j (by omega);rw [Array.getElem?_toList,q2,List.getElem?_range hj]; rfl
    ·rw [Ah (by simpa using Nat.le_of_not_lt hj),Ah (by simpa using Nat.le_of_not_lt hj)]; rfl
   rw [this]; exact List.nodup_range
  have hrun4:(execOp a4.eval o4).run C.P w3 = .ok (.value (.tuple #[kv,v])) w3:=by have:=run_entry_at (P:=C.P) w3 w.heap.size (ι key) es.size seen.toArray es' es'.size ⟨kv,v,i⟩ hit3 e13 (Bi.2 he1) hnb;simp [execOp,ho4,hpt4,this]
  refine uZ hrun4 (hK4 _ _ ?_);rw [hd4]
  have hsame:∀ {v:Value} {d:D},R (yO (λb=>E.M0 b\/b=w.heap.size) ι' σ') w' ι' σ'.nx v d->R (yO (λb=>E.M0 b\/b=w.heap.size) ι' σ') w3 ι' σ'.nx v d:=by intro v d hR;refine(hR.xC (w':=w2) (λb hb hn=>k2.block b hb λhx=>hn (.inl (.inr hx))) (λ_ _ h=>h) k2.shape (λ_ _=>rfl) (A4 _)).xC (λb hb hn=>k3.block b hb λhx=>hn (.inl (.inr hx))) (λ_ _ h=>h) k3.shape (λ_ _=>rfl) (A4 _)
  have G5:=G4.set (dst:=some pair) (v:=.tuple #[kv,v]) (d:=.yD (xZ.getD i [])) (by
   rw [r1];refine .yD rfl λj hj=>?_
   match j,hj with
   | 0,_=>exact hsame r3
   | 1,_=>exact hsame r4) (λt ht=>by cases ht; exact hpair)
  generalize a4.put (some pair) (.tuple #[kv,v])= a5 at G5;have lv:∀ {a6 w6 f6 σ6 ι6},yR { C with n0:=max C.n0 (key+1) } ⟨w3,λb=>E.M0 b\/b=w.heap.size,rB ι' σ',ι,E.B⟩ a6 w6 f6 σ6 ι6->Good C E a6 w6 f6 σ6:=λG6=>⟨_,G.leave (G5.close_ G6)⟩
  have hlen:seen.length<xZ.length:=by
   have:=iB xZ.length (i :: seen) (List.nodup_cons.2 ⟨hni,hnd⟩) λj hj=>by
    rcases List.mem_cons.1 hj with rfl | hj
    ·exact hil
    ·exact hlt j hj
   rw [Aj] at this;omega
  have hb03:w.heap.size<w3.heap.size:=(Bg.1 hit3).1;have nown:¬ rB ι' σ' w.heap.size:=λ⟨k,o,hk,e⟩=>G5.oC.notM k o hk (.inr e)
  have fin:∀ {a6 w6 f6 σ6 ι6},yR { C with n0:=max C.n0 (key+1) } ⟨w3,λb=>E.M0 b\/b=w.heap.size,rB ι' σ',ι,E.B⟩ a6 w6 f6 σ6 ι6->I (seen ++ [i]) f6 σ6 ->
    (∃ seen f' σ',I seen f' σ'/\seen.Nodup/\(∀ j ∈ seen,j<xZ.length)/\ (∃ ι',yR { C with n0:=max C.n0 (key+1) } ⟨w.alloc (.mapIter (some (ι key)) es.size #[] es.size),λb=>E.M0 b\/b=w.heap.size,λb=>rB ι σ b\/b=w.heap.size,ι,E.B⟩ a6 w6 f' σ' ι')/\
     w6.heap[w.heap.size]?=some (.mapIter (some (ι key)) es.size seen.toArray es.size))/\
    (match w6.heap[w.heap.size]? with | some (.mapIter _ _ s _)=>xZ.length-s.size | _=>0)<(match w'.heap[w.heap.size]? with | some (.mapIter _ _ s _)=>xZ.length-s.size | _=>0):=by
   intro a6 w6 f6 σ6 ι6 G6 hi6
   have hit6:w6.heap[w.heap.size]?=some (.mapIter (some (ι key)) es.size (seen ++ [i]).toArray es.size):=by
    rw [G6.kept.block _ hb03 nown,hit3];have:es'.size=es.size:=by omega
    rw [this]; simp
   refine⟨⟨seen ++ [i],f6,σ6,hi6,?_,λj hj=>?_,⟨ι6,G5.close_ G6⟩,hit6⟩,?_⟩
   ·rw [List.nodup_append];refine⟨hnd,by simp,λp hp q hq=>?_⟩;rw [Ad] at hq;subst hq;exact λe=>hni (e ▸ hp)
   ·rcases Al.1 hj with hj | hj
    ·exact hlt j hj
    ·rw [Ad] at hj; omega
   ·rw [hit6,hit0];simp only [List.size_toArray,Ae,List.length_singleton];omega
  refine ue (C:={ C with n0:=max C.n0 (key+1) }) (E:=⟨w3,λb=>E.M0 b\/b=w.heap.size,rB ι' σ',ι,E.B⟩) (λa6 w6 f6 σ6 G6 h6=>?_) l3 rest a5 w3 _ _ hr3 ⟨ι',G5.open_⟩ h2;show Code.wp _ _ _ _ _;have h7:=h6 yd hcode _ a6 w6 G6;rw [show Cx.F { C with n0:=max C.n0 (key+1) }=Fence.wide from hF,wpIn_wide] at h7;refine wp_mono h7 λex a7 w7 hq=>?_;obtain⟨f7,σ7,⟨ι7,G7⟩,hq⟩:=hq
  cases ex with
  | normal=>exact fin G7 hq
  | exit j=>
   simp only [nO,jA] at hq;show (if j=next then _ else _)
   by_cases hj:j=next
   ·rw [if_pos hj] at hq ⊢;exact fin G7 hq
   ·rw [if_neg hj] at hq ⊢;show (if j=out then _ else _)
    by_cases hj2:j=out
    ·rw [if_pos hj2] at hq ⊢; exact⟨f7,σ7,lv G7,hq⟩
    ·rw [if_neg hj2] at hq ⊢; exact⟨f7,σ7,lv G7,hq⟩
  | goto l=>exact⟨f7,σ7,lv G7,hq⟩
  | ret=>exact⟨f7,σ7,lv G7,hq⟩
  | panic ch=>exact⟨f7,σ7,lv G7,hq⟩
  | outgrown=>exact⟨f7,σ7,lv G7,hq⟩
theorem wV : ∀ {t:List (D × St)} {σ:St},(∀ p ∈ t,p.2=σ)->zB t σ=σ
 | [],_,_=>rfl
 | p :: t,σ,h=>by simp only [zB];rw [h p (by simp)];exact wV λq hq=>h q (by simp [hq])
theorem mi : ∀ {ds:List xN} {t t':List (D × St)} {f:Fr},t.map (·.1)= t'.map (·.1)->wM ds t f=wM ds t' f
 | [],_,_,_,_=>by simp [wM]
 | _ :: _,[],[],_,_=>rfl
 | _ :: _,[],_ :: _,_,h=>by simp at h
 | _ :: _,_ :: _,[],_,h=>by simp at h
 | o :: ds,p :: t,p' :: t',f,h=>by simp only [List.map_cons,List.cons.injEq] at h;simp only [wM];rw [h.1];exact mi h.2
theorem pZ {ds:List xN} {t t':List (D × St)} {f:Fr} (hd:uW ds=true) (l1:t.length=ds.length) (l2:t'.length=ds.length) (h:wM ds t f=wM ds t' f):t.map (·.1)= t'.map (·.1):=by
 refine List.ext_getElem (by simp [l1,l2]) λi h1 h2=>?_;rw [List.length_map] at h1 h2;have hi:i<ds.length:=by omega
 unfold uW at hd;simp only [Ba,decide_eq_true_eq] at hd;have hs:=υ.1 hd.1 ds[i] (π hi);obtain⟨x,hx⟩:=Option.isSome_iff_exists.1 hs;have hdi:wC ds i=some x:=by simp [wC,hi,hx]
 have hno:∀ j,i<j->j<ds.length->wC ds j=some x->(λ_:Nat=>true) j=false:=by
  intro j hij hj hdj;exfalso;have h3:=List.pairwise_iff_getElem.1 hd.2 i j (by simpa using hi) (by simpa using hj) hij;simp only [Au] at h3;have h4:(ds[j]).dst=some x:=by simpa [wC,hj] using hdj
  exact h3 (hx.trans h4.symm)
 have e1:=kE (f:=f) l1 ds.length (A4 _) x;have e2:=kE (f:=f) l2 ds.length (A4 _) x;rw [mO rfl hdi ds.length hi hno,ξ,<- l1,ξ] at e1;rw [mO rfl hdi ds.length hi hno,ξ,<- l2,ξ] at e2;rw [h,e2] at e1;simp only [wK,γ h1,γ h2,Ay,Aw] at e1;simp only [Au];exact e1.symm
theorem tC {ms:List Nat} {m:Nat}:∀ {l:List xN} {j:Nat},tU ms m l j=true->∀ i o,l[i]?=some o->o.k.zH=false->ordered ms m (j+i)= true
 | [],_,_,i,o,h,_=>by simp at h
 | o :: r,j,h,i,o',hi,hs=>by
  simp only [tU,Ba,Bc] at h
  cases i with
  | zero=>
   simp at hi; subst hi
   rcases h.1 with h1 | h1
   ·rw [hs] at h1; cases h1
   ·exact h1
  | succ i=> have:=tC h.2 i o' (by simpa using hi) hs;rw [show j+(i+1)= j+1+i by omega]; exact this
theorem uI {C:Cx} {pre:List xN} {f0:Fr} {t t':List (D × St)} {σ':St} (q1:Trace C pre f0 σ' t') (hl:t'.length=pre.length) (hv:t'.map (·.1)= t.map (·.1)) (hq:∀ p ∈ t',p.2=σ') {i:Nat} {dop:xN} (hdp:pre[i]?=some dop) :
  xR dop (wM (pre.take i) (t.take i) f0) (zC C σ' (wP (wM (pre.take i) (t.take i) f0)) dop.k λx y=>x=wK t i/\y=σ') (.uO=wK t i):=by
 obtain⟨d',σ2,x1,x2⟩:=q1.at i dop hdp;have x3:σ2=σ':=hq (d',σ2) (List.mem_of_getElem? x1);have x4:zB (t'.take i) σ'=σ':=wV λp hp=>hq p (μ hp)
 have x5:wK t i=d':=by have e:=congrArg (·[i]?) hv;simp only [Ar,x1,Ay] at e;simp only [wK,<- e,Aw]
 have x6:wM (pre.take i) (t.take i) f0=wM (pre.take i) (t'.take i) f0:=by refine mi ?_;rw [List.map_take,List.map_take,hv]
 rw [x5,x6];rw [x4,x3] at x2;exact sF x2 (λh=>h) λh=>h.1.symm
theorem oL : ∀ (ds:List xN) (t:List (D × St)) (f:Fr),t.length=ds.length->∀ ds2 t2,wM (ds++ds2) (t++t2) f=wM ds2 t2 (wM ds t f)
 | [],t,f,ht,ds2,t2=>by obtain rfl:t = []:=Ak ht; rfl
 | x :: ds,[],f,ht,ds2,t2=>by simp at ht
 | x :: ds,p :: t,f,ht,ds2,t2=>oL ds t _ (by simpa using ht) ds2 t2
theorem pO : ∀ (t:List (D × St)) (σ:St) (t2:List (D × St)),zB (t++t2) σ=zB t2 (zB t σ)
 | [],σ,t2=>rfl
 | p :: t,σ,t2=>pO t _ t2
theorem uC {own:List Nat} {ds:List xN} {i:Nat} {d:xN} (h:ds[i]?=some d):vC own ds i=wX own d:=by unfold vC; rw [h]
theorem wA {ds:List xN} {i:Nat} {d:xN} (h:ds[i]?=some d):wT ds i=d.k.zH:=by simp only [wT,h,Ay,Aw]
theorem XP {C:Cx} {E:Env} {ops:Array Oper} {l pre mid post:List xN} {o:xN} {un:Bool} {s id:Nat} {f:Fr} {σ:St} {Q:Exit->Fr->St->Prop} {a:Act} {w:World} (hq:C.own.contains 77777=false) (hm:C.P.follows .mixedOrders=true)
  (hd:wI (lW C.P C.N C.own ops) ops.toList=some l) (hok:wi ops.toList l s (vC C.own l)= true) (hl:l=pre++o :: (mid++post)) (hs:s=pre.length+1+mid.length) (d1:uW pre=true) (d2:uW mid=true) (hg:o.guard=none)
  (n1:∀ x ∈ pre,wX C.own x=false) (n2:wX C.own o=true) (n3:∀ x ∈ mid,wX C.own x=false) (hloud:o.k.zH=false)
  (hw:un=false->tU (yI ops.toList []) pre.length mid (pre.length+1)= true)
  (h:uX C σ pre f λf1=>zC C σ (wP f1) o.k λd σ1=>Vw C pre o.dst mid un f σ (λf σ=>tP C post f σ λf σ=>Q .normal f σ) f1 d σ1) (G:Good C E a w f σ):(Code.region id ops true).wpIn C.F 0 C.P (LQ C E Q) a w:=by
 obtain⟨t1,h1,h2,h3,h4⟩:=yC _ _ h;obtain⟨d,σ1,g1,g2⟩:=nW hq h2;obtain⟨p1,p2⟩:=g2;obtain⟨t1',q1,q2,q3,q4⟩:=yC _ _ p1;obtain⟨t3,r1,r2,r3,r4⟩:=yC _ _ p2;obtain⟨ru,r2⟩:=r2;obtain⟨t2,s1,s2,s3⟩:=rE hq _ _ _ r2;have e0:zB t1 σ=σ:=wV h4;have e3:zB t3 σ1=σ1:=wV r4;have c2:Trace C (mid++post) ((wM pre t1 f).put o.dst d) σ1 (t3++t2)/\ _/\_:=Trace.append r1 r3 (by rw [e3]; exact s1);have c1:Trace C (o :: (mid++post)) (wM pre t1 f) (zB t1 σ) ((d,σ1) :: (t3++t2)):=.cons (by simp only [xR,hg]; rw [e0]; exact g1) c2.1;obtain⟨k1,k2,k3⟩:=Trace.append h1 h3 c1;rw [<- hl] at k1 k2
 have hlen:(t1++(d,σ1) :: (t3++t2)).length=l.length:=by rw [hl]; simp [h3,r3,s3]
 have hv1:=pZ d1 q3 h3 q2;have lpre:∀ i,i<pre.length->l[i]?=pre[i]?:=λi hi=>by rw [hl,ε hi]
 have lo:l[pre.length]?=some o:=by rw [hl,ζ (by omega),A9]; rfl
 have lmid:∀ k,k<mid.length->l[pre.length+1+k]?=mid[k]?:=λk hk=>by rw [hl,ζ (by omega),show pre.length+1+k-pre.length=k+1 by omega,θ,ε hk]
 have mpre:∀ i,i<pre.length->vC C.own l i=false:=λi hi=>by rw [uC ((lpre i hi).trans (γ hi))]; exact n1 _ (π _)
 have mo:vC C.own l pre.length=true:=by rw [uC lo]; exact n2
 have mmid:∀ k,k<mid.length->vC C.own l (pre.length+1+k)= false:=λk hk=>by rw [uC ((lmid k hk).trans (γ hk))]; exact n3 _ (π _)
 have st0:∀ p,p<=pre.length->zB ((t1++(d,σ1) :: (t3++t2)).take p) σ=σ:=λp hp=>by rw [δ (by omega)];exact wV λx hx=>h4 x (μ hx)
 have st1:∀ k,k<=mid.length->zB ((t1++(d,σ1) :: (t3++t2)).take (pre.length+1+k)) σ=σ1:=λk hk=>by rw [<- h3,show t1.length+1+k=t1.length+(k+1) by omega,η,κ,δ (by omega),pO];exact wV λx hx=>r4 x (μ hx)
 refine jW (mu:=vC C.own l) (E:=E) (Q:=LQ C E Q) hm hd hok k1 hlen (by rw [hl]; simp; omega) (λm hms hmm=>?_) (λi hi him=>?_) (λi dop p his him hps hdop hns hor=>?_) (λa w G'=>⟨_,_,G',?_⟩) G
 ·rcases A5 m pre.length with h | h | h
  ·rw [mpre m h] at hmm; cases hmm
  ·subst h; rw [wA lo]; exact hloud
  ·obtain⟨k,rfl⟩:∃ k,m=pre.length+1+k:=⟨m-(pre.length+1),by omega⟩;rw [mmid k (by omega)] at hmm; cases hmm
 ·rcases A5 i pre.length with h | h | h
  ·rw [st0 (i+1) (by omega),st0 i (by omega)]
  ·subst h; rw [mo] at him; cases him
  ·obtain⟨k,rfl⟩:∃ k,i=pre.length+1+k:=⟨i-(pre.length+1),by omega⟩;rw [show pre.length+1+k+1=pre.length+1+(k+1) by omega,st1 (k+1) (by omega),st1 k (by omega)]
 ·have hor:=hor pre.length (by omega) mo
  have hp:(p<=pre.length/\zB ((t1++(d,σ1) :: (t3++t2)).take p) σ=σ)\/(pre.length<p/\zB ((t1++(d,σ1) :: (t3++t2)).take p) σ=σ1):=by
   rcases A6 pre.length p with h | h
   ·obtain⟨k,rfl⟩:∃ k,p=pre.length+1+k:=⟨p-(pre.length+1),by omega⟩;exact .inr ⟨h,st1 k (by omega)⟩
   ·exact .inl ⟨h,st0 p h⟩
  rcases A5 i pre.length with h | h | h
  ·have hdp:pre[i]?=some dop:=(lpre i h).symm.trans hdop;have x5:wK (t1++(d,σ1) :: (t3++t2)) i=wK t1 i:=by simp only [wK]; rw [ε (by omega)]
   have x6:wM (l.take i) ((t1++(d,σ1) :: (t3++t2)).take i) f=wM (pre.take i) (t1.take i) f:=by rw [hl,δ (by omega),δ (by omega)]
   rw [x5,x6]
   rcases hp with ⟨_,hp⟩ | ⟨_,hp⟩
   ·rw [hp]; exact uI h1 h3 rfl h4 hdp
   ·rw [hp]; exact uI q1 q3 hv1 q4 hdp
  ·subst h; rw [mo] at him; cases him
  ·obtain⟨k,rfl⟩:∃ k,i=pre.length+1+k:=⟨i-(pre.length+1),by omega⟩;have hk:k<mid.length:=by omega
   have hdp:mid[k]?=some dop:=(lmid k hk).symm.trans hdop
   have x5:wK (t1++(d,σ1) :: (t3++t2)) (pre.length+1+k)= wK t3 k:=by simp only [wK];rw [ζ (by omega),h3,show pre.length+1+k-pre.length=k+1 by omega,θ,ε (by omega)]
   have x6:wM (l.take (pre.length+1+k)) ((t1++(d,σ1) :: (t3++t2)).take (pre.length+1+k)) f=wM (mid.take k) (t3.take k) ((wM pre t1 f).put o.dst d):=by
    have y1:l.take (pre.length+1+k)= pre++o :: mid.take k:=by rw [hl,show pre.length+1+k=pre.length+(k+1) by omega,η,κ,δ (by omega)]
    have y2:(t1++(d,σ1) :: (t3++t2)).take (pre.length+1+k)= t1++(d,σ1) :: t3.take k:=by rw [<- h3,show t1.length+1+k=t1.length+(k+1) by omega,η,κ,δ (by omega)]
    rw [y1,y2,oL _ _ _ h3]; rfl
   rw [x5,x6]
   rcases hp with ⟨hp0,hp⟩ | ⟨_,hp⟩
   ·rw [hp]
    cases un with
    | false=> exfalso;have h2:=tC (hw rfl) k dop hdp hns;rw [hor.2 hp0] at h2; cases h2
    | true=> simp only [if_true] at ru;obtain⟨t3',u1,u2,u3,u4⟩:=yC _ _ ru;exact uI u1 u3 (pZ d2 u3 r3 u2) u4 hdp
   ·rw [hp]; exact uI r1 r3 rfl r4 hdp
 ·rw [k2,k3,e0];show Q .normal (wM (mid++post) (t3++t2) ((wM pre t1 f).put o.dst d)) (zB (t3++t2) σ1);rw [c2.2.1,c2.2.2,e3];exact s2
theorem XO {C:Cx} {E:Env} {ops:Array Oper} {l pre mid1 mid2 post:List xN} {o o2:xN} {s id:Nat} {f:Fr} {σ:St} {Q:Exit->Fr->St->Prop} {a:Act} {w:World} (hq:C.own.contains 77777=false) (hm:C.P.follows .mixedOrders=true)
  (hd:wI (lW C.P C.N C.own ops) ops.toList=some l) (hok:wi ops.toList l s (vC C.own l)= true) (hl:l=pre++o :: (mid1++o2 :: (mid2++post))) (hs:s=pre.length+1+mid1.length+1+mid2.length) (d0:uW pre=true) (d1:uW mid1=true)
  (n1:∀ x ∈ pre,wX C.own x=false) (n2:wX C.own o=true) (n3:∀ x ∈ mid1,wX C.own x=false) (n4:wX C.own o2=true) (n5:∀ x ∈ mid2,wX C.own x=false) (hloud:o.k.zH=false) (hloud2:o2.k.zH=false)
  (hw1:tU (yI ops.toList []) pre.length mid1 (pre.length+1)= true) (hw2:tU (yI ops.toList []) (pre.length+1+mid1.length) mid2 (pre.length+1+mid1.length+1)= true)
  (h:mX C (.ym pre o mid1 o2 mid2 post) f σ Q) (G:Good C E a w f σ):(Code.region id ops true).wpIn C.F 0 C.P (LQ C E Q) a w:=by
 simp only [mX] at h;have hg:=sH n2;have hg2:=sH n4;obtain⟨t1,h1,h2,h3,h4⟩:=yC _ _ h;obtain⟨da,σ1,g1,ga,g2⟩:=nW hq h2;obtain⟨ta,qa1,qa2,qa3,qa4⟩:=yC _ _ ga;obtain⟨t3,r1,r2,r3,r4⟩:=yC _ _ g2;obtain⟨db,σ2,gb1,gb,gc,gd⟩:=nW hq r2;obtain⟨tb,qb1,qb2,qb3,qb4⟩:=yC _ _ gb;obtain⟨tc,qc1,qc2,qc3,qc4⟩:=yC _ _ gc;obtain⟨t5,v1,v2,v3,v4⟩:=yC _ _ gd;obtain⟨t2,s1,s2,s3⟩:=rE hq _ _ _ v2;have e0:zB t1 σ=σ:=wV h4;have e3:zB t3 σ1=σ1:=wV r4;have e5:zB t5 σ2=σ2:=wV v4;have c3:Trace C (mid2++post) _ σ2 (t5++t2)/\ _/\_:=Trace.append v1 v3 (by rw [e5]; exact s1);have c2:Trace C (o2 :: (mid2++post)) (wM mid1 t3 ((wM pre t1 f).put o.dst da)) (zB t3 σ1) ((db,σ2) :: (t5++t2)):=.cons (by simp only [xR,hg2]; rw [e3]; exact gb1) c3.1;have c4:=Trace.append r1 r3 c2;have c1:Trace C (o :: (mid1++o2 :: (mid2++post))) (wM pre t1 f) (zB t1 σ) ((da,σ1) :: (t3++(db,σ2) :: (t5++t2))):=.cons (by simp only [xR,hg]; rw [e0]; exact g1) c4.1;obtain⟨k1,k2,k3⟩:=Trace.append h1 h3 c1;rw [<- hl] at k1 k2
 have hlen:(t1++(da,σ1) :: (t3++(db,σ2) :: (t5++t2))).length=l.length:=by rw [hl]; simp [h3,r3,v3,s3]
 have hva:=pZ d0 qa3 h3 qa2;have hvb:=pZ d0 qb3 h3 qb2;have hvc:=pZ d1 qc3 r3 qc2;have lpre:∀ i,i<pre.length->l[i]?=pre[i]?:=λi hi=>by rw [hl,ε hi]
 have lo:l[pre.length]?=some o:=by rw [hl,ζ (by omega),A9]; rfl
 have lmid:∀ k,k<mid1.length->l[pre.length+1+k]?=mid1[k]?:=λk hk=>by rw [hl,ζ (by omega),show pre.length+1+k-pre.length=k+1 by omega,θ,ε hk]
 have lo2:l[pre.length+1+mid1.length]?=some o2:=by rw [hl,ζ (by omega),show pre.length+1+mid1.length-pre.length=mid1.length+1 by omega,θ,ζ (by omega),A9]; rfl
 have lmid2:∀ k,k<mid2.length->l[pre.length+1+mid1.length+1+k]?=mid2[k]?:=λk hk=>by rw [hl,ζ (by omega),show pre.length+1+mid1.length+1+k-pre.length=(mid1.length+(k+1))+ 1 by omega,θ,ζ (by omega),show mid1.length+(k+1)-mid1.length=k+1 by omega,θ,ε hk]
 have mpre:∀ i,i<pre.length->vC C.own l i=false:=λi hi=>by rw [uC ((lpre i hi).trans (γ hi))]; exact n1 _ (π _)
 have mo:vC C.own l pre.length=true:=by rw [uC lo]; exact n2
 have mo2:vC C.own l (pre.length+1+mid1.length)= true:=by rw [uC lo2]; exact n4
 have mmid:∀ k,k<mid1.length->vC C.own l (pre.length+1+k)= false:=λk hk=>by rw [uC ((lmid k hk).trans (γ hk))]; exact n3 _ (π _)
 have mmid2:∀ k,k<mid2.length->vC C.own l (pre.length+1+mid1.length+1+k)= false:=λk hk=>by rw [uC ((lmid2 k hk).trans (γ hk))]; exact n5 _ (π _)
 have cases5:∀ i,i<s->i<pre.length\/i=pre.length\/(∃ k,k<mid1.length/\i=pre.length+1+k)\/i=pre.length+1+mid1.length\/∃ k,k<mid2.length/\i=pre.length+1+mid1.length+1+k:=λi hi=>by
  rcases A5 i pre.length with h | h | h
  ·exact .inl h
  ·exact .inr (.inl h)
  ·rcases A5 i (pre.length+1+mid1.length) with g | g | g
   ·exact .inr (.inr (.inl ⟨i-(pre.length+1),by omega,by omega⟩))
   ·exact .inr (.inr (.inr (.inl g)))
   ·exact .inr (.inr (.inr (.inr ⟨i-(pre.length+1+mid1.length+1),by omega,by omega⟩)))
 have tk:∀ k,k<=mid1.length->(t1++(da,σ1) :: (t3++(db,σ2) :: (t5++t2))).take (pre.length+1+k)= t1++(da,σ1) :: t3.take k:=λk hk=>by rw [<- h3,show t1.length+1+k=t1.length+(k+1) by omega,η,κ,δ (by omega)]
 have tk2:∀ k,k<=mid2.length->(t1++(da,σ1) :: (t3++(db,σ2) :: (t5++t2))).take (pre.length+1+mid1.length+1+k)= t1++(da,σ1) :: (t3++(db,σ2) :: t5.take k):=λk hk=>by rw [<- h3,<- r3,show t1.length+1+t3.length+1+k=t1.length+((t3.length+(k+1))+ 1) by omega,η,κ,η,κ,δ (by omega)]
 have st0:∀ p,p<=pre.length->zB ((t1++(da,σ1) :: (t3++(db,σ2) :: (t5++t2))).take p) σ=σ:=λp hp=>by rw [δ (by omega)];exact wV λx hx=>h4 x (μ hx)
 have st1:∀ k,k<=mid1.length->zB ((t1++(da,σ1) :: (t3++(db,σ2) :: (t5++t2))).take (pre.length+1+k)) σ=σ1:=λk hk=>by rw [tk k hk,pO];exact wV (t:=t3.take k) λx hx=>r4 x (μ hx)
 have st2:∀ k,k<=mid2.length->zB ((t1++(da,σ1) :: (t3++(db,σ2) :: (t5++t2))).take (pre.length+1+mid1.length+1+k)) σ=σ2:=λk hk=>by rw [tk2 k hk,pO];show zB (t3++(db,σ2) :: t5.take k) σ1=σ2;rw [pO];exact wV (t:=t5.take k) λx hx=>v4 x (μ hx)
 refine jW (mu:=vC C.own l) (E:=E) (Q:=LQ C E Q) hm hd hok k1 hlen (by rw [hl]; simp; omega) (λm hms hmm=>?_) (λi hi him=>?_) (λi dop p his him hps hdop hns hor=>?_) (λa w G'=>⟨_,_,G',?_⟩) G
 ·rcases cases5 m hms with h | rfl | ⟨k,hk,rfl⟩ | rfl | ⟨k,hk,rfl⟩
  ·rw [mpre m h] at hmm; cases hmm
  ·rw [wA lo]; exact hloud
  ·rw [mmid k hk] at hmm; cases hmm
  ·rw [wA lo2]; exact hloud2
  ·rw [mmid2 k hk] at hmm; cases hmm
 ·rcases cases5 i hi with h | rfl | ⟨k,hk,rfl⟩ | rfl | ⟨k,hk,rfl⟩
  ·rw [st0 (i+1) (by omega),st0 i (by omega)]
  ·rw [mo] at him; cases him
  ·rw [show pre.length+1+k+1=pre.length+1+(k+1) by omega,st1 (k+1) (by omega),st1 k (by omega)]
  ·rw [mo2] at him; cases him
  ·rw [show pre.length+1+mid1.length+1+k+1=pre.length+1+mid1.length+1+(k+1) by omega,st2 (k+1) (by omega),st2 k (by omega)]
 ·have ha:=hor pre.length (by omega) mo;have hb:=hor (pre.length+1+mid1.length) (by omega) mo2
  have hp:(p<=pre.length/\zB ((t1++(da,σ1) :: (t3++(db,σ2) :: (t5++t2))).take p) σ=σ)\/(pre.length<p/\p<=pre.length+1+mid1.length/\zB ((t1++(da,σ1) :: (t3++(db,σ2) :: (t5++t2))).take p) σ=σ1) \/
    (pre.length+1+mid1.length<p/\zB ((t1++(da,σ1) :: (t3++(db,σ2) :: (t5++t2))).take p) σ=σ2):=by
   rcases A6 pre.length p with h | h
   ·rcases A6 (pre.length+1+mid1.length) p with g | g
    ·obtain⟨k,rfl⟩:∃ k,p=pre.length+1+mid1.length+1+k:=⟨p-(pre.length+1+mid1.length+1),by omega⟩;exact .inr (.inr ⟨g,st2 k (by omega)⟩)
    ·obtain⟨k,rfl⟩:∃ k,p=pre.length+1+k:=⟨p-(pre.length+1),by omega⟩;exact .inr (.inl ⟨h,g,st1 k (by omega)⟩)
   ·exact .inl ⟨h,st0 p h⟩
  rcases cases5 i his with h | rfl | ⟨k,hk,rfl⟩ | rfl | ⟨k,hk,rfl⟩
  ·have hdp:pre[i]?=some dop:=(lpre i h).symm.trans hdop;have x5:wK (t1++(da,σ1) :: (t3++(db,σ2) :: (t5++t2))) i=wK t1 i:=by simp only [wK]; rw [ε (by omega)]
   have x6:wM (l.take i) ((t1++(da,σ1) :: (t3++(db,σ2) :: (t5++t2))).take i) f=wM (pre.take i) (t1.take i) f:=by rw [hl,δ (by omega),δ (by omega)]
   rw [x5,x6]
   rcases hp with ⟨_,hp⟩ | ⟨_,_,hp⟩ | ⟨_,hp⟩
   ·rw [hp]; exact uI h1 h3 rfl h4 hdp
   ·rw [hp]; exact uI qa1 qa3 hva qa4 hdp
   ·rw [hp]; exact uI qb1 qb3 hvb qb4 hdp
  ·rw [mo] at him; cases him
  ·have hdp:mid1[k]?=some dop:=(lmid k hk).symm.trans hdop
   have x5:wK (t1++(da,σ1) :: (t3++(db,σ2) :: (t5++t2))) (pre.length+1+k)= wK t3 k:=by simp only [wK];rw [ζ (by omega),h3,show pre.length+1+k-pre.length=k+1 by omega,θ,ε (by omega)]
   have x6:wM (l.take (pre.length+1+k)) ((t1++(da,σ1) :: (t3++(db,σ2) :: (t5++t2))).take (pre.length+1+k)) f=wM (mid1.take k) (t3.take k) ((wM pre t1 f).put o.dst da):=by
    have y1:l.take (pre.length+1+k)= pre++o :: mid1.take k:=by rw [hl,show pre.length+1+k=pre.length+(k+1) by omega,η,κ,δ (by omega)]
    rw [y1,tk k (by omega),oL _ _ _ h3]; rfl
   rw [x5,x6]
   rcases hp with ⟨hp0,hp⟩ | ⟨_,_,hp⟩ | ⟨_,hp⟩
   ·exfalso;have h2:=tC hw1 k dop hdp hns;rw [ha.2 hp0] at h2; cases h2
   ·rw [hp]; exact uI r1 r3 rfl r4 hdp
   ·rw [hp]; exact uI qc1 qc3 hvc qc4 hdp
  ·rw [mo2] at him; cases him
  ·have hdp:mid2[k]?=some dop:=(lmid2 k hk).symm.trans hdop
   have x5:wK (t1++(da,σ1) :: (t3++(db,σ2) :: (t5++t2))) (pre.length+1+mid1.length+1+k)= wK t5 k:=by simp only [wK];rw [ζ (by omega),h3,show pre.length+1+mid1.length+1+k-pre.length=(t3.length+(k+1))+ 1 by omega,θ,ζ (by omega),show t3.length+(k+1)-t3.length=k+1 by omega,θ,ε (by omega)]
   have x6:wM (l.take (pre.length+1+mid1.length+1+k)) ((t1++(da,σ1) :: (t3++(db,σ2) :: (t5++t2))).take (pre.length+1+mid1.length+1+k)) f=wM (mid2.take k) (t5.take k) ((wM mid1 t3 ((wM pre t1 f).put o.dst da)).put o2.dst db):=by
    have y1:l.take (pre.length+1+mid1.length+1+k)= pre++o :: (mid1++o2 :: mid2.take k):=by rw [hl,show pre.length+1+mid1.length+1+k=pre.length+((mid1.length+(k+1))+ 1) by omega,η,κ,η,κ,δ (by omega)]
    rw [y1,tk2 k (by omega),oL _ _ _ h3];show wM (mid1++o2 :: mid2.take k) (t3++(db,σ2) :: t5.take k) _=_;rw [oL _ _ _ r3]; rfl
   rw [x5,x6]
   rcases hp with ⟨hp0,hp⟩ | ⟨_,hp0,hp⟩ | ⟨_,hp⟩
   ·exfalso;have h2:=tC hw2 k dop hdp hns;rw [hb.2 (by omega)] at h2; cases h2
   ·exfalso;have h2:=tC hw2 k dop hdp hns;rw [hb.2 hp0] at h2; cases h2
   ·rw [hp]; exact uI v1 v3 rfl v4 hdp
 ·rw [k2,k3,e0];show Q .normal (wM (mid1++o2 :: (mid2++post)) (t3++(db,σ2) :: (t5++t2)) ((wM pre t1 f).put o.dst da)) (zB (t3++(db,σ2) :: (t5++t2)) σ1);rw [c4.2.1,c4.2.2,e3];show Q .normal (wM (mid2++post) (t5++t2) _) (zB (t5++t2) σ2);rw [c3.2.1,c3.2.2,e5];exact s2
theorem lL {C:Cx} (hm:C.P.follows .mixedOrders=true):∀ (code:Code) (dc:DC) (f:Fr) (σ:St) (Q:Exit->Fr->St->Prop),tW C.P C.N C.own code=some dc->mX C dc f σ Q ->
  ∀ E a w,Good C E a w f σ->code.wpIn C.F 0 C.P (LQ C E Q) a w
 | .skip,dc,f,σ,Q,hc,h,E,a,w,G=>by simp [tW] at hc; subst hc;exact wpIn_skip ⟨f,σ,G,h⟩
 | .exit id,dc,f,σ,Q,hc,h,E,a,w,G=>by simp [tW] at hc; subst hc;exact wpIn_exit ⟨f,σ,G,h⟩
 | .ret,dc,f,σ,Q,hc,h,E,a,w,G=>by simp [tW] at hc; subst hc;exact wpIn_ret ⟨f,σ,G,h⟩
 | .region id ops draw,dc,f,σ,Q,hc,h,E,a,w,G=>by
  have hc0:=hc;rcases uG hc with ⟨x0,y0,hdc⟩ | ⟨_,⟨_,_,_,_,rfl⟩ | ⟨_,_,_,_,rfl⟩ | ⟨_,_,_,_,rfl⟩⟩ | ⟨_,_,⟨_,_,_,rfl⟩,_⟩
  rotate_left
  ·simp only [mX] at h
  ·simp only [mX] at h
  ·simp only [mX] at h
  ·simp only [mX] at h
  have hno:wm C.P C.N C.own ops draw=none:=by
   cases hmk:wm C.P C.N C.own ops draw with
   | none=>rfl
   | some d=>
    simp only [tW,hmk,Option.some.injEq] at hc;subst hc;rcases nF hmk with ⟨_,hi⟩ | ⟨_,hi,_⟩
    case inr=>obtain⟨_,_,_,_,_,_,_,_,_,_,_,_,_,_,_,e⟩:=tS hi; rw [e] at hdc; cases hdc
    rcases hi with hi | hi | hi
    ·obtain⟨_,_,_,_,_,_,_,_,_,_,_,_,_,_,_,e⟩:=tS hi; rw [e] at hdc; cases hdc
    ·obtain⟨_,_,_,_,_,_,_,_,_,_,_,_,_,_,e⟩:=oG hi; rw [e] at hdc; cases hdc
    ·obtain⟨_,_,_,_,_,_,_,_,_,_,_,e⟩:=oF hi; rw [e] at hdc; cases hdc
  simp only [tW,hno,Ax,Av] at hc;obtain⟨l,hl,hc⟩:=hc
  cases draw with
  | false=> simp at hc; subst hc;simp only [mX,uX] at h;exact wpIn_region_list (cC (E:=E) (Q:=LQ C E Q) (λa w f σ G h=>⟨f,σ,G,h⟩) ops.toList l a w f σ hl G h)
  | true=>
   simp only [if_true] at hc
   split at hc
   ·rename_i hok;obtain⟨hq,hok⟩:=hok
    have hsl:tN C.own l<=l.length:=by
     have:∀ ks:List xN,tN C.own ks<=ks.length:=by
      intro ks
      induction ks with
      | nil=>simp [tN]
      | cons k ks ih=>simp only [tN]; split <;> simp <;> omega
     exact this l
    generalize tN C.own l=s at hok hc hsl;have htd:=ν s l;have hls:(l.take s).length=s:=by rw [ο]; omega
    cases hv:kg C.own ops.toList l s with
    | some d=> rw [hv] at hc;cases hc;obtain⟨_,_,_,_,_,_,rfl,_⟩:=nH hv;simp only [mX] at h;exact h _ hc0 E a w G
    | none=>
    rw [hv] at hc;rcases qK hc with hc | ⟨_,_,rfl,_⟩
    case inr=> simp only [mX] at h;exact h _ hc0 E a w G
    rcases pC hc with ⟨rfl,hno2⟩ | ⟨pre,o,mid,un,hO,rfl,hw⟩ | ⟨pre,o,mid1,o2,mid2,hO,hsp,d0,n1,n2,hns,rfl,hw1,hw2⟩
    ·simp only [mX] at h;obtain⟨t1,h1,h2,h3,h4⟩:=yC _ _ h;obtain⟨t2,g1,g2,g3⟩:=rE hq _ _ _ h2;have e0:zB t1 σ=σ:=wV h4;have g1':Trace C (l.drop s) (wM (l.take s) t1 f) (zB t1 σ) t2:=by rw [e0]; exact g1
     obtain⟨k1,k2,k3⟩:=Trace.append h1 h3 g1';rw [ν] at k1 k2
     have hlen:(t1++t2).length=l.length:=by rw [Ae,h3,g3,<- Ae,ν]
     have hmz:∀ m,m<s->vC C.own l m=false:=λm hm=>by
      have hml:m<(l.take s).length:=by omega
      have:l[m]?=some ((l.take s)[m]):=by rw [<- γ hml,Aa,if_pos hm]
      rw [uC this]; exact hno2 _ (π _)
     have hst:∀ p,p<=s->zB ((t1++t2).take p) σ=σ:=λp hp=>by rw [δ (by omega)];exact wV λx hx=>h4 x (μ hx)
     refine jW (mu:=vC C.own l) (E:=E) (Q:=LQ C E Q) hm hl hok k1 hlen hsl (λm hms hmm=>by rw [hmz m hms] at hmm; cases hmm) (λi hi _=>by rw [hst (i+1) (by omega),hst i (by omega)]) (λi dop p his _ hps hdop _ _=>?_) (λa w G'=>⟨_,_,G',?_⟩) G
     ·rw [hst p hps];have x5:wK (t1++t2) i=wK t1 i:=by simp only [wK]; rw [ε (by omega)]
      have x6:wM (l.take i) ((t1++t2).take i) f=wM ((l.take s).take i) (t1.take i) f:=by rw [δ (by omega),List.take_take,Nat.min_eq_left (by omega)]
      rw [x5,x6];exact uI h1 h3 rfl h4 (by rw [Aa,if_pos his]; exact hdop)
     ·rw [k2,k3,e0];exact g2
    ·have hsp:l=pre++o :: (mid++l.drop s):=by
      conv=>lhs; rw [<- htd,hO.eq]
      simp
     simp only [mX] at h;refine XP (s:=s) hq hm hl hok hsp ?_ hO.d1 hO.d2 (sH hO.n2) hO.n1 hO.n2 hO.n3 hO.lq hw h G;have:=congrArg List.length hO.eq;rw [hls] at this;simp at this; omega
    ·have hsp2:l=pre++o :: (mid1++o2 :: (mid2++l.drop s)):=by
      conv=>lhs; rw [<- htd,hsp]
      simp
     refine XO (s:=s) hq hm hl hok hsp2 ?_ d0 hO.d1 n1 n2 hO.n1 hO.n2 hO.n3 hns hO.lq hw1 hw2 h G;have:=congrArg List.length hsp;rw [hls] at this;simp at this; omega
   ·split at hc
    ·split at hc
     ·rename_i d hd;cases hc;obtain⟨_,_,_,_,_,_,_,rfl,_⟩:=nG hd;simp only [mX] at h;exact h _ hc0 E a w G
     ·obtain⟨_,_,rfl,_⟩:=pT hc;simp only [mX] at h;exact h _ hc0 E a w G
    ·simp at hc
 | .seq x y,dc,f,σ,Q,hc,h,E,a,w,G=>by
  simp only [tW,zO] at hc;obtain⟨dx,hx,dy,hy,hc⟩:=hc;rcases vT dx dy with e | ⟨pre,it,m,out,nx,more,next,pair,rest,code,rfl,rfl,e,d1,d2,d3⟩
  case inr=> rw [e] at hc;subst hc;simp only [mX] at h;exact r9 hm hx hy d1 d2 d3 h E a w G
  rw [e] at hc;subst hc;refine wpIn_seq (wpIn_mono (lL hm x dx f σ _ hx h E a w G) λe a w ⟨f',σ',G',hQ⟩=>?_)
  cases e with
  | normal=>exact lL hm y dy f' σ' Q hy hQ E a w G'
  | exit id=>exact⟨f',σ',G',hQ⟩
  | goto l=>exact⟨f',σ',G',hQ⟩
  | ret=>exact⟨f',σ',G',hQ⟩
  | panic ch=>exact⟨f',σ',G',hQ⟩
  | outgrown=>exact⟨f',σ',G',hQ⟩
 | .cond c x y,dc,f,σ,Q,hc,h,E,a,w,G=>by
  simp only [tW,zO] at hc;obtain⟨c',hc',dx,hx,dy,hy,rfl⟩:=hc;simp only [mX] at h
  split at h
  ·rename_i t ht;have G0:=G;obtain⟨ι,G0⟩:=G0;have:=(ht ▸ oD G0.fr hc').nL;exact wpIn_cond_split this (λe=>lL hm x dx f σ Q hx ((ZX h).1 e) E a w G) (λe=>lL hm y dy f σ Q hy ((ZX h).2 e) E a w G)
  ·exact h.elim
 | .block id c,dc,f,σ,Q,hc,h,E,a,w,G=>by
  simp only [tW,zO] at hc;obtain⟨dx,hx,rfl⟩:=hc;refine wpIn_block (wpIn_mono (lL hm c dx f σ _ hx h E a w G) λe a w ⟨f',σ',G',hQ⟩=>?_)
  cases e with
  | exit i=>
   simp only [Exit.inBlock];simp only [nO] at hQ
   split
   ·rename_i he; rw [if_pos he] at hQ; exact⟨f',σ',G',hQ⟩
   ·rename_i he; rw [if_neg he] at hQ; exact⟨f',σ',G',hQ⟩
  | normal=>exact⟨f',σ',G',hQ⟩
  | goto l=>exact⟨f',σ',G',hQ⟩
  | ret=>exact⟨f',σ',G',hQ⟩
  | panic ch=>exact⟨f',σ',G',hQ⟩
  | outgrown=>exact⟨f',σ',G',hQ⟩
 | .loop c,dc,f,σ,Q,hc,h,E,a,w,G=>by have hc0:=hc;simp only [tW,zO] at hc;obtain⟨dx,hx,rfl⟩:=hc;exact h _ hc0 E a w G
 | .rangeFunc g ps x y,dc,f,σ,Q,hc,h,E,a,w,G=>by have hc0:=hc;simp only [tW,zO] at hc;obtain⟨g',_,dx,hx,dy,hy,rfl⟩:=hc;exact h _ hc0 E a w G
 | .scope _,dc,f,σ,Q,hc,h,E,a,w,G=>by simp [tW] at hc
 | .label _,dc,f,σ,Q,hc,h,E,a,w,G=>by simp [tW] at hc
 | .goto _,dc,f,σ,Q,hc,h,E,a,w,G=>by simp [tW] at hc
 | .refuse _,dc,f,σ,Q,hc,h,E,a,w,G=>by simp [tW] at hc
theorem wy {C:Cx} (hm:C.P.follows .mixedOrders=true) {dc:DC} {f:Fr} {σ:St} {Q:Exit->Fr->St->Prop} (h:mX C dc f σ Q):wpS C dc f σ Q:= λcode hc E a w G=>lL hm code dc f σ Q hc h E a w G
def yJ (C:Cx) (f:Fr) (σ:St) (f':Fr) (σ':St):Prop:=∀ E a w,Good C E a w f σ->Good C E a w f' σ'
theorem yJ.trans {C:Cx} {f f1 f2:Fr} {σ σ1 σ2:St} (h1:yJ C f σ f1 σ1) (h2:yJ C f1 σ1 f2 σ2):yJ C f σ f2 σ2:=λE a w G=>h2 E a w (h1 E a w G)
theorem yJ.refl {C:Cx} {f:Fr} {σ:St}:yJ C f σ f σ:=λ_ _ _ G=>G
theorem Uz {C:Cx} {dc:DC} {f f':Fr} {σ σ':St} {Q:Exit->Fr->St->Prop} (hw:yJ C f σ f' σ') (h:wpS C dc f' σ' Q):wpS C dc f σ Q:= λcode hc E a w G=>h code hc E a w (hw E a w G)
theorem yM {C:Cx} {dc:DC} {f:Fr} {σ:St} {Q:Exit->Fr->St->Prop} {α:Type} (g:α->Fr) (s:α->St) (I:α->Prop) (m:α->Nat) (a0:α) (h0:I a0) (hw:yJ C f σ (g a0) (s a0))
  (round:∀ a,I a->wpS C dc (g a) (s a) (jA (λf' σ'=>∃ a',I a'/\yJ C f' σ' (g a') (s a')/\ m a'<m a) Q)):wpS C (.loop dc) f σ Q:=by
 intro code hc E a w G b k cs hro hb hr;obtain⟨c,rfl,hx⟩:=bg hc
 have key:∀ n p,m p=n->I p->∀ a w,Good C E a w (g p) (s p) ->
   ∃ e a' w',LQ C E Q e a' w'/\ArrivesIn (Machine.fenced C.P C.F) C.P (lone (b.atR a (.code c :: .inLoop c :: k)) cs w) b k cs e a' w':=by
  intro n
  induction n using A8 with
  | _ n ih=>
   intro p hp hI a w G;obtain⟨e,a₁,w₁,⟨f₁,σ₁,G₁,hq⟩,harr⟩:=round p hI c hx E a w G b (.inLoop c :: k) cs hro hb hr
   cases e with
   | normal=> obtain⟨p',hI',hwk,hlt⟩:=hq;obtain⟨e₂,a₂,w₂,hq₂,harr₂⟩:=ih (m p') (hp ▸ hlt) p' rfl hI' a₁ w₁ (hwk E a₁ w₁ G₁);exact⟨e₂,a₂,w₂,hq₂,.of_steps (StepsIn.trans harr (.one (fenced_calm hb hr rfl) stepR_inLoop)) harr₂⟩
   | exit id=>exact⟨_,a₁,w₁,⟨f₁,σ₁,G₁,hq⟩,.pass (x:=.inLoop c) rfl (λ_ _=>.inl (by simp)) harr⟩
   | goto l=>exact⟨_,a₁,w₁,⟨f₁,σ₁,G₁,hq⟩,.pass (x:=.inLoop c) rfl (λ_ _=>.inl (by simp)) harr⟩
   | ret=>exact⟨_,a₁,w₁,⟨f₁,σ₁,G₁,hq⟩,.pass (x:=.inLoop c) rfl (λ_ _=>.inl (by simp)) harr⟩
   | panic ch=>exact⟨_,a₁,w₁,⟨f₁,σ₁,G₁,hq⟩,.pass (x:=.inLoop c) rfl (λ_ _=>.inl (by simp)) harr⟩
   | outgrown=>exact⟨_,a₁,w₁,⟨f₁,σ₁,G₁,hq⟩,.pass (x:=.inLoop c) rfl (λ_ _=>.inl (by simp)) harr⟩
 obtain⟨e,a',w',hq,harr⟩:=key _ a0 rfl h0 a w (hw E a w G);exact⟨e,a',w',hq,.of_steps (.one (fenced_calm hb hr rfl) stepR_loop) harr⟩
end Go.Pd
