/- Part JA. -/
import Derived.Test.YtndfaefmmcoapaaGreatUfSC
set_option linter.unusedSectionVars false
set_option linter.unusedVariables false
set_option linter.unusedSimpArgs false
set_option linter.defProp false
set_option maxRecDepth 20000
set_option maxHeartbeats 1000000
open Go.Proofs.Tryz
open List renaming length_range->γ,length_map->δ,mem_cons->ε,mem_cons_of_mem->ζ,mem_singleton->η,mem_map->θ,mem_range->κ,take_of_length_le->μ,mem_append->ν,map_cons->ξ,all_cons->ο,all_append->π,map_congr_left->τ,map_map->υ,take_add_one->χ,countP_cons->ω,all_eq_true->Aa,length_singleton->Ab,all_nil->Ac,take_length->Ad,range_succ->Ae,nodup_cons->Af,set_cons_succ->Ag,length_append->Ah,getElem_map->Ai,cons_append->Aj,any_eq_true->Ak
open Nat renaming le_refl->Al,zero_le->Am,lt_succ_self->An,le_succ->Ao,reduceEqDiff->Ap,mul_comm->Aq,div_eq_of_lt->Ar,mul_add_div->As,mul_le_mul_right->Au
open Bool renaming eq_iff_iff->Av,false_and->Aw,true_and->Ax,false_or->Ay,true_or->Az,or_eq_true->A0,false_eq_true->A3,and_true->A4,not_eq_true'->A5,and_eq_true->A6
namespace Go.Pd
open Go Go.Proofs
open BitVec renaming isValue -> ZA
section
open Rs Fm Ru
namespace Te
abbrev tJ :=Nat × Nat->Bool
section
variable (rs : List xC) (A T : Nat)
def wQ : List (Nat × Nat):=qF T (rs.length*T)
def wS (a:Nat) (x:tJ) (p:Nat × Nat):Bool:=(wQ rs T).all λq=>!decide (yO rs a q=yO rs a p) || x q
def uX (g:Nat) (x:tJ) (p:Nat × Nat):Bool:=(List.range A).all λa=>!g.testBit a || wS rs T a x p
def bR (g:Nat) (p q:Nat × Nat):Bool:=(List.range A).all λa=>!g.testBit a || decide (yO rs a p=yO rs a q)
def kG (g:Nat) (x:tJ) (p:Nat × Nat):Bool:=(wQ rs T).all λq=>!bR rs A g p q || x q
def TE (g:Nat) (x y now:tJ):tJ:=uX rs A T g λq=>!x q || (y q&&now q)
def wJ (g:Nat) (x y:tJ):Nat->tJ
 | 0=>λ_=>true
 | n+1=>TE rs A T g x y (wJ g x y n)
def pM (g:Nat) (x y:tJ):tJ:=wJ rs A T g x y (rs.length*T)
end
def Wl (T:Nat) (s:Int) (k:Nat):Nat:=if 0<s then T-1-k else k
def tw (T:Nat) (s:Int) (x y:tJ) (i:Nat):Nat->Bool
 | 0=>false
 | k+1=>y (i,Wl T s k) || (x (i,Wl T s k)&& tw T s x y i k)
def mh (T:Nat) (s:Int) (x y:tJ) (p:Nat × Nat):Bool:=tw T s x y p.1 (if 0<s then T-p.2 else p.2+1)
def cY (rs:List xC) (n:Nd) (x y:tJ) (p:Nat × Nat):Bool:=
 if n.op=1 then true else if n.op=3 then(lZ rs p).getLsbD n.i.toNat else if n.op=4 then !x p else if n.op=5 then x p&&y p else if n.op=6 then x p || y p
 else if n.op=7 then !x p || y p else if n.op=8 then x p==y p else false
def zL (rs:List xC) (A T:Nat) (n:Nd) (x y:tJ):tJ:=
 if n.op=9 then wS rs T n.i.toNat x else if n.op=10 then λp=>!wS rs T n.i.toNat (λq=>!x q) p else if n.op=11 then uX rs A T n.g.toNat x
 else if n.op=12 then kG rs A T n.g.toNat x else if n.op=13 then pM rs A T n.g.toNat x y else if n.op=18 then NB T 1 x else if n.op=20 then NB T (-1) x
 else if n.op=19 then mh T 1 x y else if n.op=21 then mh T (-1) x y else cY rs n x y
def yB (rs:List xC) (A T:Nat) (f:List Nd):Nat->List tJ
 | 0=>[]
 | k+1=>yB rs A T f k ++ [zL rs A T (f.getD k wK) ((yB rs A T f k).getD (f.getD k wK).x.toNat λ_=>false) ((yB rs A T f k).getD (f.getD k wK).y.toNat λ_=>false)]
theorem nH (rs:List xC) (A T:Nat) (f:List Nd):∀ k,(yB rs A T f k).length=k
 | 0=>rfl
 | k+1=>by simp [yB,nH rs A T f k]
section
variable {rs : List xC} {A T : Nat}
theorem nO {α:Type} {l:List α} {f g:α->Bool} (h:∀ q ∈ l,f q=g q):l.all f=l.all g:=by
 induction l with
 | nil=>rfl
 | cons a r ih=>rw [ο,ο,h a (by simp),ih λq hq=>h q (ζ _ hq)]
theorem Yj {a:Nat} {x y:tJ} {p:Nat × Nat} (h:∀ q ∈ wQ rs T,x q=y q):wS rs T a x p=wS rs T a y p:=nO λq hq=>by rw [h q hq]
theorem u7 {g:Nat} {x y:tJ} {p:Nat × Nat} (h:∀ q ∈ wQ rs T,x q=y q):uX rs A T g x p=uX rs A T g y p:=nO λa _=>by rw [Yj h]
theorem Yu {g:Nat} {x y n m:tJ} {p:Nat × Nat} (h:∀ q ∈ wQ rs T,n q=m q):TE rs A T g x y n p=TE rs A T g x y m p:=u7 λq hq=>by rw [h q hq]
theorem Ye {g:Nat} {x y:tJ} {p:Nat × Nat} (h:∀ q ∈ wQ rs T,x q=true->y q=true) (hp:uX rs A T g x p=true):uX rs A T g y p=true:=by
 unfold uX wS at hp ⊢;simp only [Aa,A0] at hp ⊢;intro a ha
 rcases hp a ha with h1 | h1
 ·exact .inl h1
 ·refine .inr λq hq=>?_
  rcases h1 q hq with h2 | h2
  ·exact .inl h2
  ·exact .inr (h q hq h2)
theorem fg (g:Nat) (x y:tJ):∀ (n:Nat) (p:Nat × Nat),wJ rs A T g x y (n+1) p=true->wJ rs A T g x y n p=true
 | 0,_,_=>rfl
 | n+1,p,h=>Ye (λq _ hq=>by
   simp only [A0,A6] at hq ⊢
   rcases hq with h1 | ⟨h1,h2⟩
   ·exact .inl h1
   ·exact .inr ⟨h1,fg g x y n q h2⟩) h
theorem nD {g:Nat} {x y:tJ} {n:Nat} (h:∀ p ∈ wQ rs T,wJ rs A T g x y (n+1) p=wJ rs A T g x y n p):∀ (m:Nat) (p:Nat × Nat),p ∈ wQ rs T->wJ rs A T g x y (n+m) p=wJ rs A T g x y n p
 | 0,_,_=>rfl
 | m+1,p,hp=>by rw [<- h p hp];exact Yu λq hq=>nD h m q hq
theorem countP_le {α:Type} {f g:α->Bool}:∀ {l:List α},(∀ q ∈ l,f q=true->g q=true)->l.countP f<=l.countP g
 | [],_=>by simp
 | a :: r,h=>by
  have ih:=countP_le (l:=r) λq hq=>h q (ζ _ hq);rw [ω,ω];have:=h a (by simp)
  by_cases e:f a=true
  ·rw [if_pos e,if_pos (this e)]; omega
  ·rw [if_neg e]; omega
theorem vu {α:Type} {f g:α->Bool}:∀ {l:List α},(∀ q ∈ l,f q=true->g q=true)->(∃ q ∈ l,f q≠g q)->l.countP f<l.countP g
 | [],_,h=>by obtain⟨q,hq,_⟩:=h; cases hq
 | a :: r,h,⟨q,hq,hne⟩=>by
  have h':∀ q ∈ r,f q=true->g q=true:=λq hq=>h q (ζ _ hq);have ih:=countP_le h';rw [ω,ω];have ha:=h a (by simp)
  by_cases e2:f a=g a
  ·have hr:∃ q ∈ r,f q≠g q:=by
    rcases ε.1 hq with e | e
    ·subst e; exact absurd e2 hne
    ·exact⟨q,e,hne⟩
   have:=vu h' hr;rw [e2]; omega
  ·have h1:f a=false:=by cases e3:f a with
    | false=>rfl
    | true=>exact absurd (e3.trans (ha e3).symm) e2
   have h2:g a=true:=by cases e3:g a with
    | true=>rfl
    | false=>exact absurd (h1.trans e3.symm) e2
   rw [h1,h2];simp only [A3,if_false,if_true];omega
def lj (rs:List xC) (A T g:Nat) (x y:tJ) (n:Nat):Nat:=(wQ rs T).countP (wJ rs A T g x y n)
theorem ff (g:Nat) (x y:tJ):lj rs A T g x y 0=rs.length*T:=by unfold lj wQ;rw [show wJ rs A T g x y 0=λ_=>true from rfl,List.countP_true,tA]
theorem zj {g:Nat} {x y:tJ} {n:Nat} (h:∃ p ∈ wQ rs T,wJ rs A T g x y (n+1) p≠wJ rs A T g x y n p):lj rs A T g x y (n+1)<lj rs A T g x y n:= vu (λq _ hq=>fg g x y n q hq) h
theorem Wx {g:Nat} {x y:tJ} {n:Nat} (hn:n<=rs.length*T) (h:∀ p ∈ wQ rs T,wJ rs A T g x y (n+1) p=wJ rs A T g x y n p) {p:Nat × Nat} (hp:p ∈ wQ rs T):wJ rs A T g x y n p=pM rs A T g x y p:=by obtain⟨m,hm⟩:=Nat.exists_eq_add_of_le hn;unfold pM;rw [hm,nD h m p hp]
def YH (rs:List xC) (A g:Nat) (p q:Nat × Nat):Bool:=(List.range A).any λa=>g.testBit a&&decide (yO rs a p=yO rs a q)
theorem Z9 {g:Nat} {x:tJ} {p:Nat × Nat}:uX rs A T g x p=true ↔ ∀ q ∈ wQ rs T,YH rs A g p q=true->x q=true:=by
 unfold uX wS YH;simp only [Aa,Ak,A0,A6,A5,decide_eq_true_eq,decide_eq_false_iff_not]
 constructor
 ·rintro h q hq ⟨a,ha,h1,h2⟩
  rcases h a ha with h3 | h3
  ·rw [h1] at h3; cases h3
  ·rcases h3 q hq with h4 | h4
   ·exact absurd h2.symm h4
   ·exact h4
 ·intro h a ha
  cases e:g.testBit a with
  | false=>exact .inl rfl
  | true=>
   refine .inr λq hq=>?_
   by_cases e2:yO rs a q=yO rs a p
   ·exact .inr (h q hq ⟨a,ha,e,e2.symm⟩)
   ·exact .inl e2
theorem XN (g:Nat) (x y:tJ):∃ n,n<=rs.length*T/\∀ p ∈ wQ rs T,wJ rs A T g x y (n+1) p=wJ rs A T g x y n p:=by
 have key:∀ (m n:Nat),lj rs A T g x y n<=m->n+lj rs A T g x y n<=rs.length*T->∃ n,n<=rs.length*T/\∀ p ∈ wQ rs T,wJ rs A T g x y (n+1) p=wJ rs A T g x y n p:=by
  intro m
  induction m with
  | zero=> intro n h1 h2;refine⟨n,by omega,λp hp=>Decidable.byContradiction λh=>?_⟩;have:=zj (rs:=rs) (A:=A) (T:=T) ⟨p,hp,h⟩;omega
  | succ m ih=>
   intro n h1 h2
   by_cases h:∃ p ∈ wQ rs T,wJ rs A T g x y (n+1) p≠wJ rs A T g x y n p
   ·have:=zj h;exact ih (n+1) (by omega) (by omega)
   ·exact⟨n,by omega,λp hp=>Decidable.byContradiction λh'=>h ⟨p,hp,h'⟩⟩
 exact key _ 0 (Al _) (by rw [ff]; omega)
end
end Te
end
section
open Rs Fm Ru Te
namespace Te
abbrev Pt :=Nat × Nat
def YN (x:Int) (p:Pt):List (Int × List Pt)->List (Int × List Pt)
 | []=>[(x,[p])]
 | (y,l) :: r=>if x=y then(y,l ++ [p]) :: r else(y,l) :: YN x p r
def lp (f:Pt->Int):Nat->List Pt->List (Int × List Pt)
 | 0,_=>[]
 | k+1,l=>YN (f (l.getD k (0,0))) (l.getD k (0,0)) (lp f k l)
structure JY (f : Pt -> Int) (l : List Pt) (G : List (Int × List Pt)) : Prop where
 nd:(G.map (·.1)).Nodup
 eq:∀ e ∈ G,∀ q,q ∈ e.2 ↔ (q ∈ l/\f q=e.1)
 has:∀ q ∈ l,∃ e ∈ G,e.1=f q
 ln:∀ e ∈ G,e.2.length<=l.length
theorem rj (x:Int) (p:Pt):∀ G,(YN x p G).map (·.1)= if x ∈ G.map (·.1) then G.map (·.1) else G.map (·.1)++ [x]
 | []=>by simp [YN]
 | (y,l) :: r=>by
  unfold YN
  by_cases h:x=y
  ·rw [if_pos h]; subst h; simp
  ·rw [if_neg h,ξ,rj x p r];simp only [ξ,ε,h,false_or];split <;> simp
theorem bq {x:Int} {p:Pt} {e:Int × List Pt}:∀ {G:List (Int × List Pt)},(G.map (·.1)).Nodup->e ∈ YN x p G->(e ∈ G/\e.1≠x)\/(e.1=x/\((∃ l,(x,l)∈ G/\e.2=l ++ [p])\/(x ∉ G.map (·.1)/\ e.2 = [p])))
 | [],_,h=>by simp only [YN,η] at h;subst h;exact .inr ⟨rfl,.inr ⟨by simp,rfl⟩⟩
 | (y,l) :: r,hn,h=>by
  rw [ξ,Af] at hn;unfold YN at h
  by_cases hx:x=y
  ·rw [if_pos hx] at h;subst hx
   rcases ε.1 h with rfl | h
   ·exact .inr ⟨rfl,.inl ⟨l,by simp,rfl⟩⟩
   ·refine .inl ⟨ζ _ h,λe1=>hn.1 ?_⟩;rw [θ]; exact⟨e,h,e1⟩
  ·rw [if_neg hx] at h
   rcases ε.1 h with rfl | h
   ·exact .inl ⟨by simp,λe=>hx e.symm⟩
   ·rcases bq hn.2 h with ⟨h1,h2⟩ | ⟨h1,h2⟩
    ·exact .inl ⟨ζ _ h1,h2⟩
    ·refine .inr ⟨h1,?_⟩
     rcases h2 with ⟨l',h2,h3⟩ | ⟨h2,h3⟩
     ·exact .inl ⟨l',ζ _ h2,h3⟩
     ·exact .inr ⟨by simp only [ξ,ε,not_or]; exact⟨hx,h2⟩,h3⟩
theorem k8 {x:Int} {p:Pt} {y:Int} {G:List (Int × List Pt)} (h:y ∈ G.map (·.1)\/y=x):y ∈ (YN x p G).map (·.1):=by
 rw [rj]
 split
 ·rename_i h1
  rcases h with h | rfl
  ·exact h
  ·exact h1
 ·rcases h with h | rfl
  ·exact List.mem_append_left _ h
  ·simp
theorem JY.step {f:Pt->Int} {l:List Pt} {G:List (Int × List Pt)} (h:JY f l G) (p:Pt):JY f (l ++ [p]) (YN (f p) p G) where
 nd:=by
  rw [rj]
  split
  ·exact h.nd
  ·rename_i hx;rw [List.nodup_append];refine⟨h.nd,by simp,λa ha b hb=>?_⟩;rw [η] at hb;subst hb;intro e; subst e; exact hx ha
 eq :=by
  intro e he q
  rcases bq h.nd he with ⟨h1,h2⟩ | ⟨h1,h2⟩
  ·rw [h.eq e h1 q];simp only [ν,η]
   constructor
   ·rintro ⟨a,b⟩; exact⟨.inl a,b⟩
   ·rintro ⟨a | rfl,b⟩
    ·exact⟨a,b⟩
    ·exact absurd b.symm h2
  ·rcases h2 with ⟨l',h2,h3⟩ | ⟨h2,h3⟩
   ·rw [h3];have:=h.eq _ h2 q;simp only at this;simp only [ν,η,this,h1]
    constructor
    ·rintro (⟨a,b⟩ | rfl)
     ·exact⟨.inl a,b⟩
     ·exact⟨.inr rfl,rfl⟩
    ·rintro ⟨a | rfl,b⟩
     ·exact .inl ⟨a,b⟩
     ·exact .inr rfl
   ·rw [h3];simp only [ν,η,h1]
    constructor
    ·rintro rfl; exact⟨.inr rfl,rfl⟩
    ·rintro ⟨a | rfl,b⟩
     ·obtain⟨e',he',e2⟩:=h.has q a;exact absurd (by rw [θ]; exact⟨e',he',e2.trans b⟩) h2
     ·rfl
 has:=by
  intro q hq
  have:f q ∈ (YN (f p) p G).map (·.1):=by
   rcases ν.1 hq with hq | hq
   ·obtain⟨e,he,e1⟩:=h.has q hq;exact k8 (.inl (by rw [θ]; exact⟨e,he,e1⟩))
   ·rw [η] at hq; subst hq; exact k8 (.inr rfl)
  rw [θ] at this;obtain⟨e,he,e1⟩:=this;exact⟨e,he,e1⟩
 ln :=by
  intro e he;rw [Ah,Ab]
  rcases bq h.nd he with ⟨h1,h2⟩ | ⟨h1,h2⟩
  ·have:=h.ln e h1; omega
  ·rcases h2 with ⟨l',h2,h3⟩ | ⟨h2,h3⟩
   ·have:=h.ln _ h2;simp only at this;rw [h3,Ah,Ab]; omega
   ·rw [h3,Ab]; omega
theorem iS (f:Pt->Int) (l:List Pt):∀ k,k<=l.length->JY f (l.take k) (lp f k l)
 | 0,_=>⟨by simp [lp],by simp [lp],by simp,by simp [lp]⟩
 | k+1,h=>by
  have ih:=(iS f l k (by omega)).step (l.getD k (0,0))
  have e:l.take (k+1)= l.take k ++ [l.getD k (0,0)]:=by rw [χ];congr 1;simp [List.getD,show k<l.length by omega]
  rw [e];exact ih
abbrev EM :=List (Int × Nat × List Pt)
def mE (E:EM):List (Int × D):=E.map λe=>(e.1,.yD e.2.1 2 e.2.2.length)
def gE (E:EM):List (Int × List Pt):=E.map λe=>(e.1,e.2.2)
def mG (G:List (Int × List Pt)):List (Int × D):=G.map λe=>(e.1,.sl 2 (mC e.2))
def TZ (x:Int):EM->Option (Nat × List Pt)
 | []=>none
 | (y,k,l) :: r=>if x=y then some (k,l) else TZ x r
def YM (x:Int) (n:Nat) (p:Pt):EM->EM
 | []=>[(x,n,[p])]
 | (y,k,l) :: r=>if x=y then(y,n,l ++ [p]) :: r else(y,k,l) :: YM x n p r
theorem T7 (x:Int) (n:Nat) (p:Pt):∀ E,gE (YM x n p E)= YN x p (gE E)
 | []=>rfl
 | (y,k,l) :: r=>by
  show gE (YM x n p ((y,k,l) :: r))= YN x p ((y,l) :: gE r);unfold YM YN
  by_cases h:x=y
  ·rw [if_pos h,if_pos h]; rfl
  ·rw [if_neg h,if_neg h,<- T7 x n p r]; rfl
theorem W4 (x:Int):∀ E,pD false .xJ (uZ x (mE E) 0)= match TZ x E with | none=>.xJ | some e=>.yD e.1 2 e.2.length
 | []=>rfl
 | (y,k,l) :: r=>by
  show pD false _ (uZ x ((y,.yD k 2 l.length) :: mE r) 0)= _;unfold uZ TZ
  by_cases h:x=y
  ·rw [if_pos h,if_pos h]; rfl
  ·rw [if_neg h,if_neg h,<- W4 x r,Ru.tF]
   cases uZ x (mE r) 0 with
   | none=>rfl
   | some p=>rfl
def VM (x:Int) (E:EM):Nat:=match TZ x E with | none=>0 | some e=>e.2.length
theorem ai (x:Int) (n:Nat) (p:Pt):∀ E,xl (mE E) x (.yD n 2 (VM x E+1))= mE (YM x n p E)
 | []=>rfl
 | (y,k,l) :: r=>by
  have ih:=ai x n p r;show xl ((y,.yD k 2 l.length) :: mE r) x _=_;unfold xl VM at ih ⊢;unfold uZ YM TZ
  by_cases h:x=y
  ·subst h; rw [if_pos rfl,if_pos rfl,if_pos rfl]; simp [mE]
  ·rw [if_neg h,if_neg h,if_neg h,Ru.tF]
   cases hf:uZ x (mE r) 0 with
   | none=>rw [hf] at ih; simp only [Option.map_none] at ih ⊢; rw [Aj,ih]; rfl
   | some p=>rw [hf] at ih; simp only [Option.map_some] at ih ⊢; rw [Ag,ih]; rfl
theorem aV {x:Int} {k:Nat} {l:List Pt}:∀ {E:EM},TZ x E=some (k,l)->(x,k,l)∈ E
 | [],h=>by cases h
 | (y,k',l') :: r,h=>by
  unfold TZ at h
  by_cases e:x=y
  ·rw [if_pos e] at h; cases h; subst e; simp
  ·rw [if_neg e] at h; exact ζ _ (aV h)
theorem uz {x:Int} {n:Nat} {p:Pt} {e:Int × Nat × List Pt}:∀ {E:EM},((gE E).map (·.1)).Nodup->e ∈ YM x n p E->(e ∈ E/\e.1≠x)\/(e.1=x/\e.2.1=n/\e.2.2=(match TZ x E with | none=>[] | some q=>q.2)++ [p])
 | [],_,h=>by simp only [YM,η] at h;subst h;exact .inr ⟨rfl,rfl,rfl⟩
 | (y,k,l) :: r,hn,h=>by
  have hn':((y :: (gE r).map (·.1))).Nodup:=hn;rw [Af] at hn';unfold YM at h;unfold TZ
  by_cases hx:x=y
  ·rw [if_pos hx] at h ⊢;subst hx
   rcases ε.1 h with rfl | h
   ·exact .inr ⟨rfl,rfl,rfl⟩
   ·refine .inl ⟨ζ _ h,λe1=>hn'.1 ?_⟩;simp only [gE,υ,θ];exact⟨e,h,e1⟩
  ·rw [if_neg hx] at h ⊢
   rcases ε.1 h with rfl | h
   ·exact .inl ⟨by simp,λe=>hx e.symm⟩
   ·rcases uz hn'.2 h with ⟨h1,h2⟩ | h2
    ·exact .inl ⟨ζ _ h1,h2⟩
    ·exact .inr h2
structure MI (km : Nat) (E : EM) (nx : Nat) (objs0 xZ : List (Nat × Ob)) : Prop where
 n1:km<nx
 tV:∀ k,k<km->St.look xZ k=St.look objs0 k
 mp:St.look xZ km=some ⟨0,sH .i64 (mE E)⟩
 ob:∀ e ∈ E,km<e.2.1/\e.2.1<nx/\St.look xZ e.2.1=some ⟨2,mC e.2.2⟩
 ds:∀ e ∈ E,∀ e' ∈ E,e.2.1=e'.2.1->e.1=e'.1
theorem MI.step {km:Nat} {E:EM} {nx nx' n:Nat} {objs0 xZ objs':List (Nat × Ob)} (h:MI km E nx objs0 xZ) (hnd:((gE E).map (·.1)).Nodup) {x:Int} {p:Pt} (hn:nx<=n/\n<nx')
  (hs:∀ k,k<nx->k≠km->(∀ q,TZ x E=some q->k≠q.1)->St.look objs' k=St.look xZ k) (hm:St.look objs' km=some ⟨0,sH .i64 (mE (YM x n p E))⟩)
  (ho:St.look objs' n=some ⟨2,mC ((match TZ x E with | none=>[] | some q=>q.2)++ [p])⟩):MI km (YM x n p E) nx' objs0 objs':=by
 have n1:=h.n1
 refine⟨by omega,λk hk=>?_,hm,λe he=>?_,λe he e' he' hee=>?_⟩
 ·rw [hs k (by omega) (by omega) λq hq=>?_,h.tV k hk];have:=(h.ob _ (aV hq)).1;simp only at this;omega
 ·rcases uz hnd he with ⟨h1,h2⟩ | ⟨h1,h2,h3⟩
  ·obtain⟨a,b,c⟩:=h.ob e h1;refine⟨a,by omega,?_⟩
   rw [hs _ b (by omega) λq hq hh=>?_]
   ·exact c
   ·exact h2 (h.ds e h1 _ (aV hq) hh)
  ·rw [h2,h3]; exact⟨by omega,hn.2,ho⟩
 ·rcases uz hnd he with ⟨h1,h2⟩ | ⟨h1,h2,h3⟩ <;> rcases uz hnd he' with ⟨k1,k2⟩ | ⟨k1,k2,k3⟩
  ·exact h.ds e h1 e' k1 hee
  ·have:=(h.ob e h1).2.1; omega
  ·have:=(h.ob e' k1).2.1; omega
  ·rw [h1,k1]
def MU (rs:List xC) (A F T:Nat) (a:Nat):Ob:=⟨6,[[.int .i64 (A:Int),.int .i64 (F:Int),.int .i64 (T:Int),.sl 2 (wM rs),.sl 2 (mC (wQ rs T)),xA 2 1 ((List.range a).map λi=>[.yK (3+i)])]]⟩
def lY (rs:List xC) (T:Nat) (i:Nat):List (Int × List Pt):=lp (yO rs i) (wQ rs T).length (wQ rs T)
def tl (rs:List xC) (T:Nat) (i:Nat):Nat × Ob:=(3+i,⟨0,sH .i64 (mG (lY rs T i))⟩)
def lB (rs:List xC) (A F T:Nat) (a:Nat):List (Nat × Ob):=(0,⟨4,[[.int .i64 (A:Int),.int .i64 (F:Int),.int .i64 (T:Int),.sl 2 (wM rs)]]⟩) :: (1,MU rs A F T a) :: (yV 2 1 ((List.range a).map λi=>[.yK (3+i)])++ (List.range a).map (tl rs T))
theorem ic {rs:List xC} {T:Nat}:∀ {l:List Nat} {i:Nat},i ∈ l->St.look (l.map (tl rs T)) (3+i)= some ⟨0,sH .i64 (mG (lY rs T i))⟩
 | [],i,h=>by cases h
 | j :: l,i,h=>by
  rw [ξ];unfold tl;rw [xX]
  by_cases e:j=i
  ·subst e; rw [if_pos rfl]
  ·rw [if_neg (by omega)]
   rcases ε.1 h with h | h
   ·exact absurd h.symm e
   ·exact ic h
theorem fJ {rs:List xC} {T:Nat} {k:Nat}:∀ {l:List Nat},(∀ i ∈ l,3+i≠k)->St.look (l.map (tl rs T)) k=none
 | [],h=>rfl
 | j :: l,h=>by rw [ξ];unfold tl;rw [xX,if_neg (h j (by simp))];exact fJ λi hi=>h i (ζ _ hi)
theorem qf {rs:List xC} {A F T a i:Nat} (h:i<a):St.look (lB rs A F T a) (3+i)= some ⟨0,sH .i64 (mG (lY rs T i))⟩:=by unfold lB;rw [xX,if_neg (by omega),xX,if_neg (by omega),yQ,if_neg (by omega)];exact ic (κ.2 h)
theorem zi {rs:List xC} {A F T a:Nat}:St.look (lB rs A F T a) 2=vT 1 ((List.range a).map λi=>[.yK (3+i)]):=by unfold lB;rw [xX,if_neg (by omega),xX,if_neg (by omega),yQ,if_pos rfl,fJ (λi _=>by omega)];exact Option.or_none
end Te
end
section
open Rs Fm Ru Te
namespace Te
theorem x9 {n k s:Nat} {xV:List (List D)} (h:k<n):D.under n (xA k s xV):=by cases xV <;> simp [xA,D.under,h]
theorem iF {rs:List xC} {A F T a:Nat}:∀ p ∈ lB rs A F T a,p.1<3+a/\St.look (lB rs A F T a) p.1=some p.2/\∀ e ∈ p.2.xV,D.vA (3+a) e:=by
 intro p hp;unfold lB at hp
 rcases ε.1 hp with rfl | hp
 ·refine⟨by show 0<3+a; omega,rfl,λe he=>?_⟩;simp only [η] at he;subst he;simp [D.vA,D.under]
 rcases ε.1 hp with rfl | hp
 ·refine⟨by show 1<3+a; omega,rfl,λe he=>?_⟩;simp only [MU,η] at he;subst he;simp only [D.vA,D.under,true_and,and_true];exact x9 (by omega)
 rcases ν.1 hp with hp | hp
 ·have hk:p=(2,⟨1,(List.range a).map λi=>[.yK (3+i)]⟩):=by revert hp;generalize ((List.range a).map λi=>[D.yK (3+i)])= xV;cases xV <;> simp [yV]
  have hg:vT 1 ((List.range a).map λi=>[D.yK (3+i)])= some p.2:=by rw [hk];revert hp;rw [hk];generalize ((List.range a).map λi=>[D.yK (3+i)])= xV;cases xV <;> simp [yV,vT]
  rw [<- hg,hk];refine⟨by show 2<3+a; omega,zi,λe he=>?_⟩;simp only [θ,κ] at he;obtain⟨i,hi,rfl⟩:=he;simp only [D.vA,D.under,and_true]; omega
 ·simp only [θ,κ] at hp;obtain⟨i,hi,rfl⟩:=hp;refine⟨by show 3+i<3+a; omega,qf hi,λe he=>?_⟩;simp only [tl,sH,mG,υ,θ] at he;obtain⟨g,_,rfl⟩:=he;simp [D.vA,D.under]
end Te
theorem ZU {rs:List xC} {A F T:Nat} (hz:jK ⟨A,F,T,rs⟩= 0) (ok:kQ rs A F T):xY prog 102 [sD A F T rs] gR (.ref 1 6 0 0) ⟨3+A,lB rs A F T A⟩:=by
 obtain⟨T1,T16⟩:=ok.hT;obtain⟨R1,R64⟩:=ok.hR;have hA4:=ok.hA;have hRT:=ok.hP;have hP:=Pe ⟨A,F,T,rs⟩;have ep:YG ⟨A,F,T,rs⟩= wQ rs T:=by unfold YG; rw [if_neg (by simpa using hz)]; rfl
 rw [ep] at hP;have hD:sC.d ⟨A,F,T,rs⟩= .agg [.int .i64 (A:Int),.int .i64 (F:Int),.int .i64 (T:Int),.sl 2 (wM rs)]:=rfl;rw [hD] at hP;unfold sD;refine xY.xQ mixed func102 Hh (by simp) λhf=>?_;simp only [simprocAttr,-ZA,↓zU,↓zD,zV,zT,zW]
 (repeat refine sd ?_)
 refine .go (cq hP) ?_;simp only [simprocAttr,-ZA,↓zU,↓zD,zV,zT,zW]
 (repeat refine sd ?_)
 refine xO (λa:Nat=>[(16,.int .i64 a),(15,.int .i64 A),(3,.ref 1 6 0 0),(1,.ref 0 4 0 0)]) (λa=>⟨3+a,lB rs A F T a⟩) (λa=>a<=A) (λa=>A-a) 0 (Am _) ?_ ?_
 ·(refine xT.sZ [] [0,1] (by simp) (by simp) (by decide) ?_; simp only [yT,zQ,simprocAttr,-ZA,exists_eq_left',ne_eq,zR,lB,MU,List.range_zero,List.map_nil,vU,vV,List.nil_append])
 intro a ha;refine xL mixed ?_;have l0:St.look (lB rs A F T a) 0=some ⟨4,[[.int .i64 (A:Int),.int .i64 (F:Int),.int .i64 (T:Int),.sl 2 (wM rs)]]⟩:=rfl;have l1:St.look (lB rs A F T a) 1=some ⟨6,[[.int .i64 (A:Int),.int .i64 (F:Int),.int .i64 (T:Int),.sl 2 (wM rs),.sl 2 (mC (wQ rs T)),xA 2 1 ((List.range a).map λi=>[.yK (3+i)])]]⟩:=rfl;by_cases hal:a<A
 case neg=>
  have hd:¬ ((a:Int)<(A:Int)):=by omega
  obtain rfl:a=A:=by omega
  simp only [simprocAttr,-ZA,↓zU,↓zD,zV,zT,zW,hd];exact .same
 have hd:((a:Int)<(A:Int)):=by omega
 have y1:¬ 3+a=1:=by omega
 have hin:Kv rs T (wQ rs T):=xi T1 (Al _);have hln:(wQ rs T).length=rs.length*T:=tA _ _;have hlr:=iF (rs:=rs) (A:=A) (F:=F) (T:=T) (a:=a);simp only [simprocAttr,-ZA,↓zU,↓zD,zV,zT,zW,hd,l0,l1,y1]
 (repeat refine sd ?_)
 refine wH (λb:Nat × Nat × List (Nat × Ob)=>[(25,.int .i64 b.1),(24,.int .i64 (wQ rs T).length),(23,.sl 2 (mC (wQ rs T))),(16,.int .i64 a),(15,.int .i64 A),(5,.yK (3+a)),(4,.int .i64 a),(3,.ref 1 6 0 0),(1,.ref 0 4 0 0)])
  (λb=>⟨b.2.1,b.2.2⟩) (λb=>b.1<=(wQ rs T).length/\∃ E,MI (3+a) E b.2.1 (lB rs A F T a) b.2.2/\gE E=lp (yO rs a) b.1 (wQ rs T)) (λb=>(wQ rs T).length-b.1) (0,3+a+1,(3+a,⟨0,[]⟩) :: lB rs A F T a) ⟨Am _,[],⟨by simp only; omega,λk hk=>?_,?_,by simp,by simp⟩,rfl⟩ ?_ ?_
 ·show St.look (_ :: _) k=_;rw [xX,if_neg (by omega)]
 ·show St.look (_ :: _) _=_;rw [xX,if_pos rfl]; rfl
 ·(refine xT.same ?_; simp [xR,Fr.get,vD])
 intro ⟨w,nx,xZ⟩ ⟨hw,E,hM,hg⟩;simp only at hw hM hg ⊢;refine xL mixed ?_;have n1:=hM.n1;have l0':St.look xZ 0=_:=(hM.tV 0 (by omega)).trans l0;have l1':St.look xZ 1=_:=(hM.tV 1 (by omega)).trans l1;have lm:=hM.mp;by_cases hwl:w<(wQ rs T).length
 case neg=>
  have hd2:¬ ((w:Int)<((wQ rs T).length:Int)):=by omega
  obtain rfl:w=(wQ rs T).length:=by omega
  simp only [simprocAttr,-ZA,↓zU,↓zD,zV,zT,zW,hd2]
  refine .go [(16,.int .i64 a),(15,.int .i64 A),(5,.yK (3+a)),(3,.ref 1 6 0 0),(1,.ref 0 4 0 0)] ⟨3+(a+1),(3+a,⟨0,sH .i64 (mG (lY rs T a))⟩) :: lB rs A F T a⟩ (xT.view (λk=>k) (Am _) (λ_ _=>rfl) ?_ ?_ (λp _ q _ e=>e)) ?_
  ·simp only [YO,vw,Fr.get,reduceIte,Ap,and_true,true_and];omega
  ·intro p hp
   rcases ε.1 hp with rfl | hp
   ·refine⟨by show 3+a<3+(a+1); omega,_,lm,rfl,?_⟩;have:gE E=lY rs T a:=hg;rw [<- this];unfold sH mE mG gE;rw [υ,υ,υ];refine lU λe he=>⟨rfl,?_⟩;obtain⟨b1,b2,b3⟩:=hM.ob e he;simp only [Function.comp,uR,vw,true_and,and_true];refine⟨by decide,λq hq=>?_,_,b3,rfl,by rw [vD]; exact Al _,by rw [μ (by rw [vD]; exact Al _)],qx _⟩
    rcases ε.1 hq with rfl | hq
    ·show 3+a≠e.2.1; omega
    ·have:=(hlr q hq).1; omega
   ·obtain⟨u1,u2,u3⟩:=hlr p hp;exact⟨by show p.1<3+(a+1); omega,p.2,(hM.tV p.1 (by omega)).trans u2,rfl,gC λe he=>rQ (by show 3+a<=3+(a+1); omega) (u3 e he)⟩
  have ls:=zi (rs:=rs) (A:=A) (F:=F) (T:=T) (a:=a);have w1:¬ 3+a=1:=by omega
  have w2:¬ 3+a=2:=by omega
  have w3:¬ 3+(a+1)= 1:=by omega
  have w4:¬ 3+(a+1)= 2:=by omega
  have hL:((List.range a).map λi=>[D.yK (3+i)]).length=a:=by simp
  have hLs:((List.range a).map λi=>[D.yK (3+i)])++ [[D.yK (3+a)]]=(List.range (a+1)).map λi=>[D.yK (3+i)]:=by rw [Ae,List.map_append]; rfl
  have le1:St.look (zX (lB rs A F T a) 2) 1=St.look (lB rs A F T a) 1:=by rw [yX,if_neg (by omega)]
  rw [l1] at le1;have w5:¬ 3+(a+1)+ 1=1:=by omega
  simp only [simprocAttr,-ZA,↓zU,↓zD,zV,zT,zW,l1,ls,w1,w2,w3,w4,w5,hL,hLs,le1]
  (repeat refine sd ?_)
  refine⟨a+1,by omega,xT.view (λk=>if k=2 then 3+(a+1)+ 1 else k) (Am _) (λk hk=>absurd hk (Nat.not_lt_zero _)) ?_ ?_ ?_,by omega⟩
  ·simp only [YO,vw,Fr.get,reduceIte,Ap,and_true,true_and,D.int.injEq];exact⟨zZ (by omega),by omega,by omega⟩
  ·have hLn:((List.range (a+1)).map λi=>[D.yK (3+i)])≠ []:=by simp
   intro p hp;have hpu:=iF (rs:=rs) (A:=A) (F:=F) (T:=T) (a:=a+1) p hp;unfold lB at hp
   rcases ε.1 hp with rfl | hp
   ·refine⟨by show 0<3+(a+1); omega,⟨4,[[.int .i64 (A:Int),.int .i64 (F:Int),.int .i64 (T:Int),.sl 2 (wM rs)]]⟩,?_,rfl,.same (by simp [D.xP,D.xD])⟩;show St.look _ 0=_;rw [yQ,if_neg (by omega),xX,if_neg (by omega),xX,if_neg (by omega),xU,if_neg (by omega),yX,if_neg (by omega)]; exact l0
   rcases ε.1 hp with rfl | hp
   ·refine⟨by show 1<3+(a+1); omega,⟨6,[[.int .i64 (A:Int),.int .i64 (F:Int),.int .i64 (T:Int),.sl 2 (wM rs),.sl 2 (mC (wQ rs T)),xA (3+(a+1)+ 1) 1 ((List.range (a+1)).map λi=>[D.yK (3+i)])]]⟩,?_,rfl,.cons rfl ?_ .nil⟩
    ·show St.look _ 1=_;rw [yQ,if_neg (by omega),xX,if_neg (by omega),xX,if_neg (by omega),xU,if_pos rfl,le1]; rfl
    ·simp only [uR,vw,and_true,true_and,bw,reduceIte];exact .inr (by omega)
   rcases ν.1 hp with hp | hp
   ·rw [qm hLn,η] at hp;subst hp
    refine⟨by show 2<3+(a+1); omega,⟨1,(List.range (a+1)).map λi=>[.yK (3+i)]⟩,?_,rfl,lU λi hi=>⟨rfl,?_⟩⟩
    ·show St.look _ (if 2=2 then _ else _)= _;rw [if_pos rfl,yQ,if_pos rfl,ql hLn]; rfl
    ·have:=κ.1 hi;simp only [uR,vw,and_true];exact⟨by omega,by rw [if_neg (by omega)]⟩
   ·simp only [θ,κ] at hp;obtain⟨i,hi,rfl⟩:=hp;refine⟨hpu.1,_,?_,rfl,.same λe he=>?_⟩
    rotate_left
    ·simp only [tl,sH,mG,υ,θ] at he;obtain⟨g,_,rfl⟩:=he;rfl
    show St.look _ (if 3+i=2 then _ else 3+i)= _;rw [if_neg (by omega),yQ,if_neg (by omega),xX,if_neg (by omega),xX]
    by_cases e:i=a
    ·subst e; rw [if_pos rfl]; rfl
    ·rw [if_neg (by omega),xU,if_neg (by omega),yX,if_neg (by omega),qf (by omega)]; rfl
  ·intro p hp q hq e;have h1:=(iF p hp).1;have h2:=(iF q hq).1;simp only at e;split at e <;> split at e <;> omega
 have hd2:((w:Int)<((wQ rs T).length:Int)):=by omega
 have hp:=hin _ (xK (d:=(0,0)) hwl);have hpg:=fD (wQ rs T) hwl;have hgo:=(iS (yO rs a) (wQ rs T) w hw).nd;have hgl:=(iS (yO rs a) (wQ rs T) w hw).ln;rw [<- hg] at hgl;rw [<- hg] at hgo;have hgn:lp (yO rs a) (w+1) (wQ rs T)= YN (yO rs a ((wQ rs T).getD w (0,0))) ((wQ rs T).getD w (0,0)) (gE E):=by rw [hg]; rfl
 generalize (wQ rs T).getD w (0,0)= p at hp hpg hgn;have hm:=xK (d:=rI) hp.1;have hgr:=mR rs hp.1;have h1:=ok.loc _ hm;have h2:=ok.row _ hm _ (xK (d:=[]) (show p.2<(rs.getD p.1 rI).loc.length by omega));have hx:((rs.getD p.1 rI).loc.getD p.2 []).getD a 0=yO rs a p:=rfl;generalize rs.getD p.1 rI=r at hgr h1 h2 hx;have hg2:=su r.loc (show p.2<r.loc.length by omega);generalize r.loc.getD p.2 []=x at hg2 h2 hx;have hg3:=vI .i64 x (show a<x.length by omega);rw [hx] at hg3;have z0:¬ nx=0:=by omega
 have zm:¬ nx=3+a:=by omega
 generalize yO rs a p=v at hg3 hgn;have hmr:=W4 v E
 cases hk:TZ v E with
 | none=>
  rw [hk] at hmr;simp only at hmr
  have hap:xl (mE E) v (.yD (nx+1) 2 1)= mE (YM v (nx+1) p E):=by have:=ai v (nx+1) p E;rw [show VM v E=0 by unfold VM; rw [hk]] at this;exact this
  have zm1:¬ nx+1=3+a:=by omega
  simp only [simprocAttr,-ZA,↓zU,↓zD,zV,zT,zW,hd2,vD,hpg,wV,hgr,xC.row,pQ,hg2,zK,hg3,l0',lm,z0,zm,zm1,hmr,hap]
  (repeat refine sd ?_)
  refine⟨(w+1,?zna,?zoa),⟨by show w+1<=_; omega,YM v (nx+1) p E,?ze1,?ze3⟩,?ze2,by show (wQ rs T).length-(w+1)<(wQ rs T).length-w; omega⟩
  case ze2=>
   (refine xT.same ?_; simp only [xR,Fr.get,simprocAttr,-ZA,zS])
   exact zZ (by omega)
  case ze3=>rw [T7,hgn]
  case ze1=>
   refine hM.step hgo (n:=nx+1) ⟨by omega,An _⟩ (λk h1 h2 h3=>?_) ?_ ?_
   ·show St.look (_ :: _ :: _) k=_;rw [xX,if_neg (by omega),xX,if_neg (by omega),xU,if_neg (by omega)]
   ·show St.look (_ :: _ :: _) _=_;rw [xX,if_neg (by omega),xX,if_neg (by omega),xU,if_pos rfl,lm]; rfl
   ·show St.look (_ :: _ :: _) _=_;rw [xX,if_pos rfl,hk]; rfl
 | some q=>
  obtain⟨kq,lq⟩:=q;rw [hk] at hmr;simp only at hmr;obtain⟨q1,q2,q3⟩:=hM.ob _ (aV hk);simp only at q1 q2 q3;have zq:¬ nx=kq:=by omega
  have hap:xl (mE E) v (.yD (nx+1) 2 (lq.length+1))= mE (YM v (nx+1) p E):=by have:=ai v (nx+1) p E;rw [show VM v E=lq.length by unfold VM; rw [hk]] at this;exact this
  have zm1:¬ nx+1=3+a:=by omega
  have zq1:¬ kq=3+a:=by omega
  have htk:(mC lq).take lq.length=mC lq:=μ (by rw [vD]; omega)
  have hbl:lq.length<=512:=by have:=hgl (v,lq) (by simp only [gE,θ]; exact⟨_,aV hk,rfl⟩);simp only [List.length_take] at this;omega
  have hle:St.look (zX xZ kq) (3+a)= some ⟨0,sH .i64 (mE E)⟩:=by rw [yX,if_neg zq1]; exact lm
  simp only [simprocAttr,-ZA,↓zU,↓zD,zV,zT,zW,hd2,vD,hpg,wV,hgr,xC.row,pQ,hg2,zK,hg3,l0',lm,z0,zm,zm1,zq,zq1,hmr,q3,hap,htk,hle]
  (repeat refine sd ?_)
  refine⟨(w+1,?znb,?zob),⟨by show w+1<=_; omega,YM v (nx+1) p E,?zf1,?zf3⟩,?zf2,by show (wQ rs T).length-(w+1)<(wQ rs T).length-w; omega⟩
  case zf2=>
   (refine xT.same ?_; simp only [xR,Fr.get,simprocAttr,-ZA,zS])
   exact zZ (by omega)
  case zf3=>rw [T7,hgn]
  case zf1=>
   refine hM.step hgo (n:=nx+1) ⟨by omega,An _⟩ (λk h1 h2 h3=>?_) ?_ ?_
   ·have h3':=h3 _ hk;simp only at h3';show St.look (_ :: _ :: _) k=_;rw [xX,if_neg (by omega),xX,if_neg (by omega),xU,if_neg (by omega),yX,if_neg (by omega)]
   ·show St.look (_ :: _ :: _) _=_;rw [xX,if_neg (by omega),xX,if_neg (by omega),xU,if_pos rfl,hle]; rfl
   ·show St.look (_ :: _ :: _) _=_;rw [xX,if_pos rfl,hk];simp only [mC,List.map_append,ξ,List.map_nil]
end
section
open Rs Fm Ru Te
namespace Te
def mB (u:List (Int × Bool)):List (Int × D):=u.map λp=>(p.1,.bool p.2)
def nW (x:Int):List (Int × Bool)->Bool
 | []=>false
 | (k,v) :: r=>if x=k then v else nW x r
def p7 (x:Int) (v:Bool):List (Int × Bool)->List (Int × Bool)
 | []=>[(x,v)]
 | (k,w) :: r=>if x=k then(x,v) :: r else(k,w) :: p7 x v r
theorem Vm (x y:Int) (v:Bool):∀ u,nW y (p7 x v u)= if y=x then v else nW y u
 | []=>by simp [p7,nW]
 | (k,w) :: r=>by
  unfold p7
  by_cases h:x=k
  ·rw [if_pos h];subst h
   by_cases e:y=x
   ·simp [nW,e]
   ·simp [nW,e]
  ·rw [if_neg h,nW,Vm x y v r]
   by_cases e:y=k
   ·subst e;rw [if_pos rfl,if_neg (λe=>h e.symm)];simp [nW]
   ·rw [if_neg e];simp [nW,e]
theorem W2 (x:Int):∀ u,pD false (.bool false) (uZ x (mB u) 0)= .bool (nW x u)
 | []=>rfl
 | (k,v) :: r=>by
  show pD false _ (uZ x ((k,.bool v) :: mB r) 0)= _;unfold uZ nW
  by_cases h:x=k
  ·rw [if_pos h,if_pos h]; rfl
  ·rw [if_neg h,if_neg h,<- W2 x r,Ru.tF]
   cases uZ x (mB r) 0 with
   | none=>rfl
   | some p=>rfl
theorem Vj (x:Int) (v:Bool):∀ u,xl (mB u) x (.bool v)= mB (p7 x v u)
 | []=>rfl
 | (k,w) :: r=>by
  have ih:=Vj x v r;show xl ((k,.bool w) :: mB r) x _=_;unfold xl at ih ⊢;unfold uZ p7
  by_cases h:x=k
  ·rw [if_pos h,if_pos h]; rfl
  ·rw [if_neg h,if_neg h,Ru.tF]
   cases hf:uZ x (mB r) 0 with
   | none=>rw [hf] at ih; simp only [Option.map_none] at ih ⊢; rw [Aj,ih]; rfl
   | some p=>rw [hf] at ih; simp only [Option.map_some] at ih ⊢; rw [Ag,ih]; rfl
theorem pn {R T:Nat} {φ ψ:Nat × Nat->Bool} (h:∀ i t,i<R->t<T->φ (i,t)= ψ (i,t)):yR R T φ=yR R T ψ:=by unfold yR;refine τ λi hi=>?_;congr 3;exact τ λt ht=>h i t (κ.1 hi) (κ.1 ht)
theorem lP {rs:List xC} {T:Nat} (hT:1<=T) {i t:Nat} (hi:i<rs.length) (ht:t<T):(i,t)∈ wQ rs T:=by
 unfold wQ qF;rw [θ]
 refine⟨i*T+t,κ.2 ?_,?_⟩
 ·have:=Au T (show i+1<=rs.length from hi);rw [Nat.succ_mul] at this;omega
 ·have e1:(i*T+t)/ T=i:=by rw [Aq,As (by omega),Ar ht]; rfl
  have e2:(i*T+t) % T=t:=by rw [Aq,Nat.mul_add_mod,Nat.mod_eq_of_lt ht]
  rw [e1,e2]
theorem cK {rs:List xC} {T:Nat} (hT:1<=T) {p:Nat × Nat} (h:p ∈ wQ rs T):p.1<rs.length/\p.2<T:=xi hT (Al _) p h
structure qV (rs : List xC) (A F T kc ks : Nat) (km : Nat -> Nat) (xZ : List (Nat × Ob)) : Prop where
 c:St.look xZ kc=some ⟨6,[[.int .i64 (A:Int),.int .i64 (F:Int),.int .i64 (T:Int),.sl 2 (wM rs),.sl 2 (mC (qF T (rs.length*T))),xA ks 1 ((List.range A).map λi=>[.yK (km i)])]]⟩
 s:0<A->St.look xZ ks=some ⟨1,(List.range A).map λi=>[.yK (km i)]⟩
 m:∀ i,i<A->St.look xZ (km i)= some ⟨0,sH .i64 (mG (lY rs T i))⟩
theorem qV.mono {rs:List xC} {A F T kc ks:Nat} {km:Nat->Nat} {xZ objs':List (Nat × Ob)} (h:qV rs A F T kc ks km xZ) (hk:∀ k o,St.look xZ k=some o->St.look objs' k=some o):qV rs A F T kc ks km objs':=⟨hk _ _ h.c,λa=>hk _ _ (h.s a),λi hi=>hk _ _ (h.m i hi)⟩
theorem qV.start {rs:List xC} {A F T:Nat}:qV rs A F T 1 2 (λi=>3+i) (lB rs A F T A):=⟨rfl,λh=>by rw [zi]; exact ql (by simp; omega),λi hi=>qf hi⟩
end Te
theorem O8 {nx k7 kk k3 k4 kc:Nat} {xZ:List (Nat × Ob)} {rs:List xC} {A F T a:Nat} {pts:List (Nat × Nat)} {same:D} {u:List (Int × Bool)} (ok:kQ rs A F T) (ha:a<A)
  (h7:St.look xZ k7=some ⟨1,[[.yK kk]]⟩) (hk:St.look xZ kk=some ⟨0,sH .i64 (mB u)⟩) (h3:St.look xZ k3=some ⟨1,[[.ref kc 6 0 0]]⟩) (h4:St.look xZ k4=some ⟨1,[[.int .i64 (a:Int)]]⟩)
  (hc:St.look xZ kc=some ⟨6,[[.int .i64 (A:Int),.int .i64 (F:Int),.int .i64 (T:Int),.sl 2 (wM rs),.sl 2 (mC pts),same]]⟩) {i t:Nat} (hi:i<rs.length) (ht:t<T) :
  xY prog 205 ([.agg [.int .i64 (i:Int),.int .i64 (t:Int)]] ++ [.ref k7 1 0 0,.ref k3 1 0 0,.ref k4 1 0 0]) ⟨nx,xZ⟩ (.bool (nW (yO rs a (i,t)) u)) ⟨nx,xZ⟩:=by
 obtain⟨T1,T16⟩:=ok.hT;refine xY.wC ⟨_,func205,by kernel_rfl,by kernel_rfl⟩ λhu=>xY.clean ?_;have y7:¬ nx=k7:=by have:=(hu k7 _ h7).1; simp only at this; omega
 have yk:¬ nx=kk:=by have:=(hu kk _ hk).1; simp only at this; omega
 have y3:¬ nx=k3:=by have:=(hu k3 _ h3).1; simp only at this; omega
 have y4:¬ nx=k4:=by have:=(hu k4 _ h4).1; simp only at this; omega
 have yc:¬ nx=kc:=by have:=(hu kc _ hc).1; simp only at this; omega
 have hkeep:∀ (ob:Ob) k o,St.look xZ k=some o->St.get ⟨nx+1,(nx,ob) :: xZ⟩ k=some o:=λob k o hk=>by have:=(hu k o hk).1;simp only at this;show St.look (_ :: _) k=_;rw [xX,if_neg (by omega)]; exact hk
 have hm:=xK (d:=rI) hi;have hgr:=mR rs hi;have h1:=ok.loc _ hm;have h2:=ok.row _ hm _ (xK (d:=[]) (show t<(rs.getD i rI).loc.length by omega));have hx:((rs.getD i rI).loc.getD t []).getD a 0=yO rs a (i,t):=rfl;generalize rs.getD i rI=r at hgr h1 h2 hx;have hg2:=su r.loc (show t<r.loc.length by omega);generalize r.loc.getD t []=x at hg2 h2 hx;have hg3:=vI .i64 x (show a<x.length by omega);rw [hx] at hg3;generalize yO rs a (i,t)= v at hg3;have hmr:=W2 v u;refine xY.xQ mixed func205 Ix (by simp) λhf=>?_;simp only [simprocAttr,-ZA,↓zU,↓zD,zV,zT,zW,h7,hk,h3,h4,hc,y7,yk,y3,y4,yc,wV,hgr,xC.row,pQ,hg2,zK,hg3,hmr]
 (repeat refine sd ?_)
 exact .gone hu (hkeep _) (by simp only [vw])
end
section
open Rs Fm Ru Te
namespace Te
def Kw (φ:Nat × Nat->Bool) (G:List (Int × List (Nat × Nat))) (seen:List Nat) (u:List (Int × Bool)):Prop:=∀ i ∈ seen,nW (G.getD i (0,[])).1 u=(G.getD i (0,[])).2.all φ
theorem Qr {G:List (Int × List (Nat × Nat))} (h:(G.map (·.1)).Nodup) {i j:Nat} (hi:i<G.length) (hj:j<G.length) (e:(G.getD i (0,[])).1=(G.getD j (0,[])).1):i=j:=by
 have h1:(G.map (·.1))[i]'(by simpa using hi)= (G.map (·.1))[j]'(by simpa using hj):=by simp only [Ai];simpa [List.getD,hi,hj] using e
 exact(List.getElem_inj h).1 h1
theorem Kw.step {φ:Nat × Nat->Bool} {G:List (Int × List (Nat × Nat))} {seen:List Nat} {u:List (Int × Bool)} (h:Kw φ G seen u) (hn:(G.map (·.1)).Nodup) (hs:∀ j ∈ seen,j<G.length) {i:Nat} (hi:i<G.length) (hni:i ∉ seen) :
  Kw φ G (seen ++ [i]) (p7 (G.getD i (0,[])).1 ((G.getD i (0,[])).2.all φ) u):=by
 intro j hj;rw [Vm]
 rcases ν.1 hj with hj | hj
 ·rw [if_neg λe=>hni (by rw [<- Qr hn (hs j hj) hi e]; exact hj)];exact h j hj
 ·rw [η] at hj;subst hj;rw [if_pos rfl]
theorem Kw.PO {φ:Nat × Nat->Bool} {rs:List xC} {T a:Nat} {seen:List Nat} {u:List (Int × Bool)} (h:Kw φ (lY rs T a) seen u) (hall:∀ i,i<(lY rs T a).length->i ∈ seen) {p:Nat × Nat} (hp:p ∈ wQ rs T) :
  nW (yO rs a p) u=wS rs T a φ p:=by
 have hg:=iS (yO rs a) (wQ rs T) (wQ rs T).length (Al _);rw [Ad] at hg;obtain⟨e,he,e1⟩:=hg.has p hp;obtain⟨i,hi,rfl⟩:=List.getElem_of_mem he;have h2:=h i (hall i hi)
 have h3:(lY rs T a).getD i (0,[])= (lp (yO rs a) (wQ rs T).length (wQ rs T))[i]:=by show (lp (yO rs a) (wQ rs T).length (wQ rs T)).getD i (0,[])= _;simp [List.getD,hi]
 rw [h3,e1] at h2;rw [h2,Av];unfold wS;simp only [Aa,A0,A5,decide_eq_false_iff_not]
 constructor
 ·intro h q hq
  by_cases e:yO rs a q=yO rs a p
  ·exact .inr (h q ((hg.eq _ he q).2 ⟨hq,by rw [e1]; exact e⟩))
  ·exact .inl e
 ·intro h q hq;obtain⟨h4,h5⟩:=(hg.eq _ he q).1 hq
  rcases h q h4 with h6 | h6
  ·exact absurd (h5.trans e1) h6
  ·exact h6
theorem Qf {kk:IntKind} {l:List (Int × D)} {i:Nat} (h:i<l.length):(sH kk l).getD i [] = [.int kk (l.getD i (0,.top)).1,(l.getD i (0,.top)).2]:=by simp [sH,List.getD,h]
theorem Lh {G:List (Int × List (Nat × Nat))} {i:Nat} (h:i<G.length):(mG G).getD i (0,.top)= ((G.getD i (0,[])).1,.sl 2 (mC (G.getD i (0,[])).2)):=by simp [mG,List.getD,h]
theorem Y3 (G:List (Int × List (Nat × Nat))):(mG G).length=G.length:=by simp [mG]
theorem Nr {rs:List xC} {T a i:Nat} (h:i<(lY rs T a).length):∀ q ∈ ((lY rs T a).getD i (0,[])).2,q ∈ wQ rs T:=by have hg:=iS (yO rs a) (wQ rs T) (wQ rs T).length (Al _);rw [Ad] at hg;have hm:(lY rs T a).getD i (0,[])∈ lY rs T a:=xK h;exact λq hq=>((hg.eq _ hm q).1 hq).1
theorem QC {rs:List xC} {T a i:Nat} (h:i<(lY rs T a).length):((lY rs T a).getD i (0,[])).2.length<=rs.length*T:=by have hg:=iS (yO rs a) (wQ rs T) (wQ rs T).length (Al _);rw [Ad] at hg;have hm:(lY rs T a).getD i (0,[])∈ lY rs T a:=xK h;have:=hg.ln _ hm;rw [show (wQ rs T).length=rs.length*T from tA _ _] at this;exact this
theorem Ns (rs:List xC) (T a:Nat):((lY rs T a).map (·.1)).Nodup:=(iS (yO rs a) (wQ rs T) (wQ rs T).length (Al _)).nd
theorem LJ {n:Nat} {l:List Nat} (hd:l.Nodup) (h:∀ x ∈ l,x<n) (hl:l.length=n):∀ i,i<n->i ∈ l:=λi hi=>by
 refine Classical.byContradiction λhno=>?_
 have:=lJ n (i :: l) (Af.2 ⟨hno,hd⟩) λx hx=>by
  rcases ε.1 hx with rfl | hx
  ·exact hi
  ·exact h x hx
 rw [List.length_cons] at this;omega
structure Kk (nx a kc : Nat) (xZ : List (Nat × Ob)) (u : List (Int × Bool)) (nx' : Nat) (objs' : List (Nat × Ob)) : Prop where
 n1:nx+1+1+1<nx'
 tV:∀ k,k<nx->St.look objs' k=St.look xZ k
 k0:St.look objs' nx=some ⟨1,[[.ref kc 6 0 0]]⟩
 k1:St.look objs' (nx+1)= some ⟨1,[[.int .i64 (a:Int)]]⟩
 k2:St.look objs' (nx+1+1)= some ⟨0,sH .i64 (mB u)⟩
 k3:St.look objs' (nx+1+1+1)= some ⟨1,[[.yK (nx+1+1)]]⟩
theorem Kk.more {nx a kc nx' nx'':Nat} {xZ objs' objs'':List (Nat × Ob)} {u:List (Int × Bool)} (h:Kk nx a kc xZ u nx' objs') (hn:nx'<=nx'') (hl:∀ k,k<nx'->St.look objs'' k=St.look objs' k):Kk nx a kc xZ u nx'' objs'':=by have n1:=h.n1;exact⟨by omega,λk hk=>by rw [hl k (by omega)]; exact h.tV k hk,by rw [hl _ (by omega)]; exact h.k0,by rw [hl _ (by omega)]; exact h.k1,by rw [hl _ (by omega)]; exact h.k2,by rw [hl _ (by omega)]; exact h.k3⟩
end Te
theorem cj {nx kc ks:Nat} {km:Nat->Nat} {xZ:List (Nat × Ob)} {rs:List xC} {A F T a:Nat} {φ:Nat × Nat->Bool} (ok:kQ rs A F T) (hS:qV rs A F T kc ks km xZ) (ha:a<A) :
  xY prog 151 [.ref kc 6 0 0,.int .i64 (a:Int),.sl 1 (yR rs.length T φ)] ⟨nx,xZ⟩ (.sl 1 (yR rs.length T (wS rs T a φ))) ⟨nx,xZ⟩:=by
 obtain⟨T1,T16⟩:=ok.hT;obtain⟨R1,R64⟩:=ok.hR;have hA4:=ok.hA;have hRT:=ok.hP;refine xY.wC ⟨_,func151,by kernel_rfl,by kernel_rfl⟩ λhu=>xY.clean ?_;have hc:=hS.c;have hs:=hS.s (by omega);have hm:=hS.m a ha;have bc:=(hu _ _ hc).1;have bs:=(hu _ _ hs).1;have bm:=(hu _ _ hm).1;simp only at bc bs bm;have hL:((List.range A).map λi=>[D.yK (km i)]).length=A:=by simp
 have hne:((List.range A).map λi=>[D.yK (km i)])≠ []:=λe=>by rw [e] at hL; simp at hL; omega
 have hLg:((List.range A).map λi=>[D.yK (km i)]).getD a [] = [D.yK (km a)]:=by simp [List.getD,ha]
 rw [mN hne,hL] at hc;have y1:¬ nx+1+1+1=kc:=by omega
 have y2:¬ nx+1+1=kc:=by omega
 have y3:¬ nx+1=kc:=by omega
 have y4:¬ nx=kc:=by omega
 have z1:¬ nx+1+1+1=ks:=by omega
 have z2:¬ nx+1+1=ks:=by omega
 have z3:¬ nx+1=ks:=by omega
 have z4:¬ nx=ks:=by omega
 have w1:¬ nx+1+1+1=nx:=by omega
 have w2:¬ nx+1+1=nx:=by omega
 have w3:¬ nx+1=nx:=by omega
 have w4:¬ nx+1+1+1=nx+1:=by omega
 have w5:¬ nx+1+1=nx+1:=by omega
 refine xY.xQ mixed func151 IJ (by simp) λhf=>?_;simp only [simprocAttr,-ZA,↓zU,↓zD,zV,zT,zW,hc,hs,hL,hLg,y1,y2,y3,y4,z1,z2,z3,z4,w1,w2,w3,w4,w5]
 (repeat refine sd ?_)
 have hk1:∀ {objs':List (Nat × Ob)},(∀ k,k<nx->St.look objs' k=St.look xZ k)->qV rs A F T kc ks km objs':=λh=>hS.mono λk o hk=>by have:=(hu k o hk).1;simp only at this;rw [h k this]; exact hk
 refine Qc mixed (km a) (sH .i64 (mG (lY rs T a))) (by simp [qE,Fr.get]) (by show St.look _ (km a)= _; rw [xX,if_neg (by omega),xX,if_neg (by omega),xX,if_neg (by omega),xX,if_neg (by omega)]; exact hm)
  (λ(_:List Nat) (_:List (Int × Bool) × Nat × List (Nat × Ob))=>[(7,.ref (nx+1+1+1) 1 0 0),(4,.ref (nx+1) 1 0 0),(3,.ref nx 1 0 0),(2,.sl 1 (yR rs.length T φ))]) (λ_ a=>⟨a.2.1,a.2.2⟩)
  (λseen b=>Kk nx a kc xZ b.1 b.2.1 b.2.2/\Kw φ (lY rs T a) seen b.1) ([],nx+1+1+1+1,(nx+1+1+1,⟨1,[[.yK (nx+1+1)]]⟩) :: (nx+1+1,⟨0,[]⟩) :: (nx+1,⟨1,[[.int .i64 (a:Int)]]⟩) :: (nx,⟨1,[[.ref kc 6 0 0]]⟩) :: xZ) ⟨⟨by simp only; omega,λk hk=>?_,?_,?_,?_,?_⟩,λi hi=>absurd hi (by simp)⟩ ?_ ?_ ?_ ?_
 ·simp only; rw [xX,if_neg (by omega),xX,if_neg (by omega),xX,if_neg (by omega),xX,if_neg (by omega)]
 ·simp only; rw [xX,if_neg (by omega),xX,if_neg (by omega),xX,if_neg (by omega),xX,if_pos rfl]
 ·simp only; rw [xX,if_neg (by omega),xX,if_neg (by omega),xX,if_pos rfl]
 ·simp only; rw [xX,if_neg (by omega),xX,if_pos rfl]; rfl
 ·simp only; rw [xX,if_pos rfl]
 ·intro b
  (refine xT.same ?_; simp [xR,Fr.get])
 ·intro seen b ⟨hI,_⟩;exact(hI.tV _ bm).trans hm
 ·rintro b seen ⟨u,nx',objs'⟩ ⟨hI,hJ⟩ hnd hlt hall;simp only at hI hJ ⊢;rw [Xm,Y3] at hlt hall;have hS':=hk1 hI.tV;have e3:=hI.k3;have e0:=hI.k0;have n1:=hI.n1
  have hfill:=iX (nx:=nx') (kc:=kc) (xZ:=objs') (g:=205) (caps:=[.ref (nx+1+1+1) 1 0 0,.ref nx 1 0 0,.ref (nx+1) 1 0 0]) (φ:=λp=>nW (yO rs a p) u) ok hS'.c (λnx1 objs1 i t h1 h2 hi ht=> O8 ok ha (by rw [h2 _ (by omega)]; exact hI.k3) (by rw [h2 _ (by omega)]; exact hI.k2) (by rw [h2 _ (by omega)]; exact hI.k0) (by rw [h2 _ (by omega)]; exact hI.k1) (by rw [h2 _ (by omega)]; exact hS'.c) hi ht)
  rw [pn (ψ:=wS rs T a φ) λi t hi ht=>hJ.PO (λi hi=>LJ hnd hlt hall i hi) (lP T1 hi ht)] at hfill;simp only [simprocAttr,-ZA,↓zU,↓zD,zV,zT,zW,e0]
  (repeat refine sd ?_)
  refine .go hfill ?_;simp only [simprocAttr,-ZA,↓zU,↓zD,zV,zT,zW];refine .gone hu (λk o hk=>?_) (by simp only [vw]; exact⟨trivial,trivial⟩);have:=(hu k o hk).1;simp only at this;show St.look objs' k=_;rw [hI.tV k this]; exact hk
 rintro b seen ⟨u,nx',objs'⟩ i ⟨hI,hJ⟩ hnd hlt hi hni;simp only at hI hJ ⊢;rw [Xm,Y3] at hlt hi;have hgi:=Qf (kk:=.i64) (l:=mG (lY rs T a)) (by rw [Y3]; exact hi);rw [Lh hi] at hgi;have hstep:=hJ.step (Ns rs T a) hlt hi hni;have hin:=Nr hi;have hgl:=QC hi;generalize (lY rs T a).getD i (0,[])= g at hgi hstep hin hgl;obtain⟨x,l⟩:=g;simp only at hgi hstep hin hgl;rw [hgi];simp only [simprocAttr,-ZA,↓zU,↓zD,zV,zT,zW]
 (repeat refine sd ?_)
 refine UU mixed ?_;simp only [simprocAttr,-ZA,↓zU,↓zD,zV,zT,zW,vD]
 (repeat refine sd ?_)
 refine xO (λc:Nat × Nat × List (Nat × Ob)=>[(29,.int .i64 c.1),(28,.int .i64 l.length),(27,.sl 2 (mC l)),(10,.bool ((l.take c.1).all φ)),(8,.int .i64 x),(21,.xt b),(7,.ref (nx+1+1+1) 1 0 0),(4,.ref (nx+1) 1 0 0),(3,.ref nx 1 0 0),(2,.sl 1 (yR rs.length T φ))])
  (λc=>⟨c.2.1,c.2.2⟩) (λc=>c.1<=l.length/\Kk nx a kc xZ u c.2.1 c.2.2) (λc=>l.length-c.1) (0,nx',objs') ⟨Am _,hI⟩ ?_ ?_
 ·(refine xT.same ?_; simp [xR,Fr.get])
 clear hI;rintro ⟨w,nx2,objs2⟩ ⟨hw,hI⟩;simp only at hw hI ⊢;refine xL mixed ?_;by_cases hwl:w<l.length
 case neg=>
  have hd:¬ ((w:Int)<(l.length:Int)):=by omega
  have hall:l.take w=l:=μ (by omega);have e2:=hI.k2;have e3:=hI.k3;have hap:=Vj x (l.all φ) u;simp only [simprocAttr,-ZA,↓zU,↓zD,zV,zT,zW,hd,hall,e2,e3,hap]
  (repeat refine sd ?_)
  have n1:=hI.n1;refine⟨(p7 x (l.all φ) u,nx2,?zo0),⟨⟨n1,λk hk=>?_,?_,?_,?_,?_⟩,hstep⟩,?zw⟩
  case zw=>(refine xT.same ?_; simp [xR,Fr.get])
  all_goals simp only
  ·rw [xU,if_neg (by omega)]; exact hI.tV k hk
  ·rw [xU,if_neg (by omega)]; exact hI.k0
  ·rw [xU,if_neg (by omega)]; exact hI.k1
  ·rw [xU,if_pos rfl,e2]; rfl
  ·rw [xU,if_neg (by omega)]; exact hI.k3
 have hd:((w:Int)<(l.length:Int)):=by omega
 have hpg:=fD l hwl;have hp:=cK T1 (hin _ (xK (d:=(0,0)) hwl))
 have htk:l.take (w+1)= l.take w ++ [l.getD w (0,0)]:=by rw [χ];congr 1;simp [List.getD,hwl]
 generalize l.getD w (0,0)= p at hpg hp htk;have hall:(l.take (w+1)).all φ=((l.take w).all φ&&φ p):=by rw [htk,π]; simp
 generalize (l.take w).all φ=c at hall;have g1:=vJ (T:=T) (φ:=φ) hp.1;have g2:=tP (i:=p.1) (φ:=φ) hp.2
 cases c with
 | true=>
  simp only [simprocAttr,-ZA,↓zU,↓zD,zV,zT,zW,hd,vD,hpg,wR,g1,vO,δ,γ,g2]
  (repeat refine sd ?_)
  refine⟨(w+1,nx2+1,?zo1),⟨by show w+1<=l.length; omega,hI.more (Ao _) λk hk=>?_⟩,?zx,by show l.length-(w+1)<l.length-w; omega⟩
  case zx=>
   (refine xT.same ?_; simp only [xR,Fr.get,simprocAttr,-ZA,zS,hall,Ax,Aw])
   exact zZ (by omega)
  ·simp only; rw [xX,if_neg (by omega)]
 | false=>
  simp only [simprocAttr,-ZA,↓zU,↓zD,zV,zT,zW,hd,vD,hpg]
  (repeat refine sd ?_)
  refine⟨(w+1,nx2+1,?zo2),⟨by show w+1<=l.length; omega,hI.more (Ao _) λk hk=>?_⟩,?zy,by show l.length-(w+1)<l.length-w; omega⟩
  case zy=>
   (refine xT.same ?_; simp only [xR,Fr.get,simprocAttr,-ZA,zS,hall,Ax,Aw])
   exact zZ (by omega)
  ·simp only; rw [xX,if_neg (by omega)]
end
section
open Rs Fm Ru Te
namespace Te
theorem Y2 {g a:Nat} (hg:g<2 ^ 60) (ha:a<=60):tS .and .i64 (mg .i64 (g:Int) (a:Int)) 1=if g.testBit a then 1 else 0:=by
 have h2:g / 2 ^ a<=g:=Nat.div_le_self _ _;rw [gJ _ _ ha,NN (by omega),Nat.testBit_eq_decide_div_mod_eq];have:=Nat.mod_two_eq_zero_or_one (g / 2 ^ a)
 rcases this with h | h
 ·rw [h]; rfl
 ·rw [h]; rfl
theorem jj {C:Cx} {f:Fr} {s nx nx2 R T:Nat} {xZ objs2:List (Nat × Ob)} {kr:Nat->Nat} {v:Nat->Nat->Bool} {φ:Nat × Nat->Bool} (hu:eT ⟨nx,xZ⟩) (hn:C.n0=nx) (hT:TI R T nx R kr v nx2 xZ objs2)
  (hv:∀ i t,i<R->t<T->v i t=φ (i,t)) (hf:f.get s = .yD nx 1 R):xT C f ⟨nx2,objs2⟩ [(s,.yD nx 1 R)] ⟨nx2,(nx,⟨1,yR R T φ⟩) :: r9 xZ⟩:=by
 have n1:=hT.n1
 refine xT.view (λk=>k) (by show C.n0<=nx2; omega) (λ_ _=>rfl) ?_ ?_ (λp _ q _ e=>e)
 ·simp only [YO,hf,vw];exact⟨⟨by omega,trivial⟩,trivial⟩
 ·intro p hp
  rcases ε.1 hp with rfl | hp
  ·refine⟨by show nx<nx2; omega,_,hT.lo,rfl,?_⟩;refine lU λi hi=>⟨by unfold vp; split <;> rfl,?_⟩;have hi':=κ.1 hi;obtain⟨b1,b2,b3⟩:=hT.lr i hi';unfold vp;rw [if_pos hi'];simp only [uR,vw,and_true]
   refine⟨trivial,by decide,λq hq=>?_,_,b3,rfl,by simp [jL],?_,?_⟩
   ·rcases ε.1 hq with rfl | hq
    ·show nx≠kr i; omega
    ·have:=(hu q.1 q.2 (oR hq)).1;simp only at this;omega
   ·rw [μ (by simp [jL])];congr 1;exact τ λt ht=>(hv i t hi' (κ.1 ht)).symm
   ·intro e he;simp only [jL,θ] at he;obtain⟨b,_,rfl⟩:=he;rfl
  ·have hl:=oR hp;obtain⟨u1,u2⟩:=hu p.1 p.2 hl;simp only at u1 u2;refine⟨by show p.1<nx2; omega,p.2,?_,rfl,gC λe he=>rQ (by show nx<=nx2; omega) (u2 e he)⟩;show St.look objs2 p.1=_;rw [hT.tV p.1 u1]; exact hl
theorem WD {nx nx2 R T:Nat} {xZ:List (Nat × Ob)} {φ:Nat × Nat->Bool} (hu:eT ⟨nx,xZ⟩):oK nx ⟨nx2,(nx,⟨1,yR R T φ⟩) :: r9 xZ⟩ (.yD nx 1 R) ⟨nx,r9 xZ⟩ (.sl 1 (yR R T φ)):=by
 refine .gone hu (λk o hk=>?_) ?_
 ·have:=(hu k o hk).1;simp only at this;show St.look (_ :: _) k=_;rw [xX,if_neg (by omega),fZ]; exact hk
 ·simp only [vw]
  refine⟨trivial,by decide,λq hq=>?_,_,by rw [Y1,xX,if_pos rfl],rfl,by simp [yR],(jY (show R=(yR R T φ).length by simp [yR])).symm,?_⟩
  ·have:=(hu q.1 q.2 (oR hq)).1;simp only at this;omega
  ·intro e he;simp only [yR,θ] at he;obtain⟨b,_,rfl⟩:=he;rfl
theorem TI.congr {R T nb r:Nat} {kr:Nat->Nat} {v v':Nat->Nat->Bool} {nx:Nat} {objs0 xZ:List (Nat × Ob)} (h:TI R T nb r kr v nx objs0 xZ) (hv:∀ i t,i<r->t<T->v i t=v' i t):TI R T nb r kr v' nx objs0 xZ:=
 ⟨h.n1,h.tV,h.lo,λi hi=>by obtain⟨a,b,c⟩:=h.lr i hi;refine⟨a,b,?_⟩;rw [c];congr 3;exact τ λt ht=>hv i t hi (κ.1 ht),h.dr⟩
theorem WH {T w i t:Nat} {v v':Nat->Bool} {b:Bool} (ht:t<T) (h:∀ k,k<T->k≠t->v k=v' k) (hb:v' t=b) (_:i*T+t=w):(jL ((List.range T).map v)).set t [D.bool b]=jL ((List.range T).map v'):=by
 refine List.ext_getElem (by simp [jL]) λk h1 h2=>?_;have hk:k<T:=by simpa [jL] using h2
 rw [List.getElem_set]
 by_cases e:t=k
 ·subst e;rw [if_pos rfl];simp [jL,hb]
 ·rw [if_neg e];simp only [jL,Ai,List.getElem_range,h k hk λe2=>e e2.symm]
theorem K5 {T i t j u:Nat} (ht:t<T) (hu:u<T) (e:i*T+t=j*T+u):i=j/\t=u:=by
 have h1:(i*T+t)/ T=i:=by rw [Aq,As (by omega),Ar ht]; rfl
 have h2:(j*T+u)/ T=j:=by rw [Aq,As (by omega),Ar hu]; rfl
 rw [e] at h1;have:i=j:=h1.symm.trans h2;subst this;exact⟨rfl,by omega⟩
theorem WC {T t:Nat} {v:Nat->Bool} (h:t<T):(jL ((List.range T).map v)).getD t [] = [.bool (v t)]:=by simp [jL,List.getD,h]
def qS (rs:List xC) (T g:Nat) (x:tJ) (a:Nat) (p:Nat × Nat):Bool:=(List.range a).all λb=>!g.testBit b || wS rs T b x p
theorem vx (rs:List xC) (T g:Nat) (x:tJ) (a:Nat) (p:Nat × Nat):qS rs T g x (a+1) p=(qS rs T g x a p&&(!g.testBit a || wS rs T a x p)):=by unfold qS; rw [Ae,π,ο,Ac,A4]
end Te
theorem Vs {nx kc ks:Nat} {km:Nat->Nat} {xZ:List (Nat × Ob)} {rs:List xC} {A F T g:Nat} {φ:Nat × Nat->Bool} (ok:kQ rs A F T) (hS:qV rs A F T kc ks km xZ) (hg:g<2 ^ 60) :
  xY prog 157 [.ref kc 6 0 0,.int .i64 (g:Int),.sl 1 (yR rs.length T φ)] ⟨nx,xZ⟩ (.sl 1 (yR rs.length T (uX rs A T g φ))) ⟨nx,xZ⟩:=by
 obtain⟨T1,T16⟩:=ok.hT;obtain⟨R1,R64⟩:=ok.hR;have hA4:=ok.hA;have hRT:=ok.hP;refine xY.wC ⟨_,func157,by kernel_rfl,by kernel_rfl⟩ λhu=>xY.clean ?_;have hc:=hS.c;have bc:=(hu _ _ hc).1;simp only at bc
 have hk1:∀ {objs':List (Nat × Ob)},(∀ k,k<nx->St.look objs' k=St.look xZ k)->qV rs A F T kc ks km objs':=λh=>hS.mono λk o hk=>by have:=(hu k o hk).1;simp only at this;rw [h k this]; exact hk
 have hfill:=ak (nx:=nx) (xZ:=xZ) (φ:=λ_=>true) (g:=206) (caps:=[]) ok hS.c λnx1 objs1 i t _ _ _ _=>Oy;refine xY.xQ mixed func157 IR (by simp) λhf=>?_;simp only [simprocAttr,-ZA,↓zU,↓zD,zV,zT,zW]
 (repeat refine sd ?_)
 refine .go hfill ?_;have hT0:=TI.start (nx:=nx) (R:=rs.length) (T:=T) (φ:=λ_=>true) (xZ:=xZ);have hc0:=(hT0.tV kc bc).trans hS.c;simp only [simprocAttr,-ZA,↓zU,↓zD,zV,zT,zW,hc0]
 (repeat refine sd ?_)
 refine wH (λa:Nat × Nat × List (Nat × Ob)=>[(19,.int .i64 a.1),(18,.int .i64 A),(7,.yD nx 1 rs.length),(2,.sl 1 (yR rs.length T φ)),(1,.int .i64 g),(0,.ref kc 6 0 0)]) (λa=>⟨a.2.1,a.2.2⟩)
  (λa=>a.1<=A/\TI rs.length T nx rs.length (λi=>nx+1+i) (λi t=>qS rs T g φ a.1 (i,t)) a.2.1 xZ a.2.2) (λa=>A-a.1) (0,nx+1+rs.length,cS nx rs.length T (λ_=>true)++ xZ) ⟨Am _,hT0⟩ ?_ ?_
 ·(refine xT.same ?_; simp [xR,Fr.get])
 clear hT0 hc0 hfill;rintro ⟨a,nx1,objs1⟩ ⟨ha,hT⟩;simp only at ha hT ⊢;refine xL mixed ?_;by_cases hal:a<A
 case neg=>
  have hd:¬ ((a:Int)<(A:Int)):=by omega
  obtain rfl:a=A:=by omega
  simp only [simprocAttr,-ZA,↓zU,↓zD,zV,zT,zW,hd];refine .go _ _ (jj (s:=7) (φ:=uX rs a T g φ) hu rfl hT (λi t _ _=>rfl) rfl) ?_;simp only [simprocAttr,-ZA,↓zU,↓zD,zV,zT,zW];exact WD hu
 have hd:((a:Int)<(A:Int)):=by omega
 have hbit:=Y2 (g:=g) (a:=a) hg (by omega)
 cases hb:g.testBit a with
 | false=>
  rw [hb] at hbit;simp only [A3,if_false] at hbit;simp only [simprocAttr,-ZA,↓zU,↓zD,zV,zT,zW,hd,hbit]
  (repeat refine sd ?_)
  refine⟨(a+1,nx1,objs1),⟨by show a+1<=A; omega,hT.congr λi t _ _=>?_⟩,?zs1,by show A-(a+1)<A-a; omega⟩
  case zs1=>
   (refine xT.same ?_; simp only [xR,Fr.get,simprocAttr,-ZA,zS])
   exact zZ (by omega)
  ·simp only; rw [vx,hb]; simp
 | true=>
  rw [hb] at hbit;simp only [if_true] at hbit;have hSa:=hk1 hT.tV;have hca:=hSa.c;have hk:=cj (nx:=nx1) (φ:=φ) ok hSa hal;simp only [simprocAttr,-ZA,↓zU,↓zD,zV,zT,zW,hd,hbit]
  (repeat refine sd ?_)
  refine .go hk ?_;have hin:Kv rs T (qF T (rs.length*T)):=xi T1 (Al _);have hln:=tA T (rs.length*T);have hlg:∀ w,w<rs.length*T->(qF T (rs.length*T)).getD w (0,0)= (w / T,w % T):=λw h=>bf T h;generalize qF T (rs.length*T)= l at hca hin hln hlg;simp only [simprocAttr,-ZA,↓zU,↓zD,zV,zT,zW,hca,vD]
  (repeat refine sd ?_)
  refine wH (λc:Nat × Nat × List (Nat × Ob)=>[(36,.int .i64 c.1),(35,.int .i64 l.length),(34,.sl 2 (mC l)),(9,.sl 1 (yR rs.length T (wS rs T a φ))),(19,.int .i64 a),(18,.int .i64 A),(7,.yD nx 1 rs.length),(2,.sl 1 (yR rs.length T φ)),(1,.int .i64 g),(0,.ref kc 6 0 0)]) (λc=>⟨c.2.1,c.2.2⟩)
   (λc=>c.1<=l.length/\TI rs.length T nx rs.length (λi=>nx+1+i) (λi t=>qS rs T g φ a (i,t)&& (!decide (i*T+t<c.1) || wS rs T a φ (i,t))) c.2.1 xZ c.2.2) (λc=>l.length-c.1) (0,nx1,objs1) ⟨Am _,hT.congr λi t _ _=>by simp⟩ ?_ ?_
  ·(refine xT.same ?_; simp [xR,Fr.get])
  clear hT hca hk hSa;rintro ⟨w,nx2,objs2⟩ ⟨hw,hT⟩;simp only at hw hT ⊢;have n1:=hT.n1;refine xL mixed ?_;by_cases hwl:w<l.length
  case neg=>
   have hd2:¬ ((w:Int)<(l.length:Int)):=by omega
   simp only [simprocAttr,-ZA,↓zU,↓zD,zV,zT,zW,hd2];refine .yJ ?_;simp only [simprocAttr,-ZA,↓zU,↓zD,zV,zT,zW];refine⟨(a+1,nx2,objs2),⟨by show a+1<=A; omega,hT.congr λi t hi ht=>?_⟩,?zs2,by show A-(a+1)<A-a; omega⟩
   case zs2=>
    (refine xT.same ?_; simp only [xR,Fr.get,simprocAttr,-ZA,zS])
    exact zZ (by omega)
   ·have:=Au T (show i+1<=rs.length from hi);rw [Nat.succ_mul] at this;simp only;rw [vx,hb,decide_eq_true (by omega)]
  have hd2:((w:Int)<(l.length:Int)):=by omega
  have hp:=hin _ (xK (d:=(0,0)) hwl);have hpg:=fD l hwl;have hpe:=hlg w (by omega);have hwe:(w / T)* T+w % T=w:=by rw [Aq]; exact Nat.div_add_mod w T
  rw [hpe] at hp hpg;generalize w / T=i at hp hpg hwe;generalize w % T=t at hp hpg hwe;simp only at hp hpg;obtain⟨hp1,hp2⟩:=hp;obtain⟨a1,a2,a3⟩:=hT.lr i hp1;have lo:=hT.lo;have hrow:=yt (T:=T) (kr:=λi=>nx+1+i) hp1 hp1;have y1:¬ nx2=nx:=by omega
  have y2:¬ nx2=nx+1+i:=by omega
  have g1:=vJ (T:=T) (φ:=wS rs T a φ) hp1;have g2:=tP (i:=i) (φ:=wS rs T a φ) hp2;have g3:=WC (v:=λt=>qS rs T g φ a (i,t)&& (!decide (i*T+t<w) || wS rs T a φ (i,t))) hp2;have hnow:(qS rs T g φ a (i,t)&& (!decide (i*T+t<w) || wS rs T a φ (i,t)))= qS rs T g φ a (i,t):=by rw [hwe]; simp
  have hset:=WH (w:=w) (v:=λt=>qS rs T g φ a (i,t)&& (!decide (i*T+t<w) || wS rs T a φ (i,t))) (v':=λt=>qS rs T g φ a (i,t)&& (!decide (i*T+t<w+1) || wS rs T a φ (i,t))) (b:=qS rs T g φ a (i,t)&& wS rs T a φ (i,t)) hp2 (λk hk hne=>by
   have:decide (i*T+k<w)= decide (i*T+k<w+1):=by rw [Av,decide_eq_true_iff,decide_eq_true_iff]; omega
   simp only [this]) (by simp only [hwe,decide_eq_true (An w)]; rfl) hwe
  have hupd:=λnx' (objs':List (Nat × Ob))=>hT.Kr (nx':=nx') (objs':=objs') (v':=λi t=>qS rs T g φ a (i,t)&& (!decide (i*T+t<w+1) || wS rs T a φ (i,t)));rw [hnow] at g3;generalize qS rs T g φ a (i,t)= c at g3 hset
  have hv:∀ j u,j<rs.length->u<T->j≠i->(qS rs T g φ a (j,u)&& (!decide (j*T+u<w) || wS rs T a φ (j,u)))= (qS rs T g φ a (j,u)&& (!decide (j*T+u<w+1) || wS rs T a φ (j,u))):=λj u _ hu2 hne=>by
   have:decide (j*T+u<w)= decide (j*T+u<w+1):=by rw [Av,decide_eq_true_iff,decide_eq_true_iff];have:j*T+u≠w:=λe=>hne (K5 hu2 hp2 (by rw [e,hwe])).1;omega
   rw [this]
  cases c with
  | true=>
   rw [Ax] at hset;simp only [simprocAttr,-ZA,↓zU,↓zD,zV,zT,zW,hd2,vD,hpg,lo,a3,hrow,nG,y1,y2,wR,g1,g2,g3,vO,δ,γ]
   (repeat refine sd ?_)
   refine⟨(w+1,nx2+1,?zo0),⟨by show w+1<=l.length; omega,hT.Kr (Ao _) hp1 hv (λk hk hk2=>?_) ?_⟩,?zt0,by show l.length-(w+1)<l.length-w; omega⟩
   case zt0=>
    (refine xT.same ?_; simp only [xR,Fr.get,simprocAttr,-ZA,zS])
    exact zZ (by omega)
   ·simp only; rw [xX,if_neg (by omega),xU,if_neg (λe=>hk2 e.symm)]
   ·simp only; rw [xX,if_neg (by omega),xU,if_pos rfl,a3,<- hset]; rfl
  | false=>
   rw [Aw] at hset;simp only [simprocAttr,-ZA,↓zU,↓zD,zV,zT,zW,hd2,vD,hpg,lo,a3,hrow,nG,y1,y2,wR,g1,g2,g3,vO,δ,γ]
   (repeat refine sd ?_)
   refine⟨(w+1,nx2+1,?zo1),⟨by show w+1<=l.length; omega,hT.Kr (Ao _) hp1 hv (λk hk hk2=>?_) ?_⟩,?zt1,by show l.length-(w+1)<l.length-w; omega⟩
   case zt1=>
    (refine xT.same ?_; simp only [xR,Fr.get,simprocAttr,-ZA,zS])
    exact zZ (by omega)
   ·simp only; rw [xX,if_neg (by omega),xU,if_neg (λe=>hk2 e.symm)]
   ·simp only; rw [xX,if_neg (by omega),xU,if_pos rfl,a3,<- hset]; rfl
end
section
open Rs Fm Ru Te
namespace Te
def YL (rs:List xC) (g a:Nat) (p q:Nat × Nat):Bool:=(List.range a).all λb=>!g.testBit b || decide (yO rs b p=yO rs b q)
theorem V4 (rs:List xC) (g a:Nat) (p q:Nat × Nat):YL rs g (a+1) p q=(YL rs g a p q&&(!g.testBit a || decide (yO rs a p=yO rs a q))):=by unfold YL; rw [Ae,π,ο,Ac,A4]
structure Fa (rs : List xC) (A T a : Nat) (p : Nat × Nat) (r : xC) (x : List Int) : Prop where
 g1:(wM rs).getD p.1 []=r.row
 l1:r.loc.length=T
 g2:(rl r.loc).getD p.2 [] = [.sl 1 (rows .i64 x)]
 l2:x.length=A
 g3:(rows .i64 x).getD a [] = [.int .i64 (yO rs a p)]
theorem Kf {rs:List xC} {A F T a:Nat} (ok:kQ rs A F T) (ha:a<A) {p:Nat × Nat} (hp:p.1<rs.length/\p.2<T):∃ r x,Fa rs A T a p r x:=by have hm:=xK (d:=rI) hp.1;have h1:=ok.loc _ hm;have h2:=ok.row _ hm _ (xK (d:=[]) (show p.2<(rs.getD p.1 rI).loc.length by omega));exact⟨_,_,mR rs hp.1,h1,su _ (by omega),h2,vI .i64 _ (by omega)⟩
end Te
theorem Nf {nx k1 k2 k3 kc:Nat} {xZ:List (Nat × Ob)} {rs:List xC} {A F T g:Nat} {same:D} {φ:Nat × Nat->Bool} (ok:kQ rs A F T) (hg:g<2 ^ 60)
  (h1:St.look xZ k1=some ⟨1,[[.ref kc 6 0 0]]⟩) (h2:St.look xZ k2=some ⟨1,[[.int .i64 (g:Int)]]⟩) (h3:St.look xZ k3=some ⟨1,[[.sl 1 (yR rs.length T φ)]]⟩)
  (hc:St.look xZ kc=some ⟨6,[[.int .i64 (A:Int),.int .i64 (F:Int),.int .i64 (T:Int),.sl 2 (wM rs),.sl 2 (mC (qF T (rs.length*T))),same]]⟩) {i t:Nat} (hi:i<rs.length) (ht:t<T) :
  xY prog 207 ([.agg [.int .i64 (i:Int),.int .i64 (t:Int)]] ++ [.ref k1 1 0 0,.ref k2 1 0 0,.ref k3 1 0 0]) ⟨nx,xZ⟩ (.bool (kG rs A T g φ (i,t))) ⟨nx,xZ⟩:=by
 obtain⟨T1,T16⟩:=ok.hT;obtain⟨R1,R64⟩:=ok.hR;have hA4:=ok.hA;have hRT:=ok.hP;refine xY.wC ⟨_,func207,by kernel_rfl,by kernel_rfl⟩ λhu=>xY.clean ?_;have b1:k1<nx:=(hu k1 _ h1).1;have b2:k2<nx:=(hu k2 _ h2).1;have b3:k3<nx:=(hu k3 _ h3).1;have bc:kc<nx:=(hu kc _ hc).1;have y1:¬ nx=k1:=by omega
 have yc:¬ nx=kc:=by omega
 have hkeep:∀ (nx':Nat) (objs':List (Nat × Ob)),(∀ k,k<nx->St.look objs' k=St.look xZ k)->∀ k o,St.look xZ k=some o->St.get ⟨nx',objs'⟩ k=some o:=λnx' objs' h k o hk=>by have:=(hu k o hk).1;simp only at this;show St.look objs' k=_;rw [h k this]; exact hk
 have hin:Kv rs T (wQ rs T):=xi T1 (Al _);have hln:(wQ rs T).length=rs.length*T:=tA T (rs.length*T);have hd0:kG rs A T g φ (i,t)= (wQ rs T).all λq=>!bR rs A g (i,t) q || φ q:=rfl;rw [hd0];rw [show qF T (rs.length*T)= wQ rs T from rfl] at hc;generalize wQ rs T=l at hc hin hln;refine xY.xQ mixed func207 J1 (by simp) λhf=>?_;simp only [simprocAttr,-ZA,↓zU,↓zD,zV,zT,zW,h1,hc,y1,yc,vD]
 (repeat refine sd ?_)
 refine xO (λb:Nat × Nat × List (Nat × Ob)=>[(15,.int .i64 b.1),(14,.int .i64 l.length),(13,.sl 2 (mC l)),(4,.ref nx 2 0 0),(3,.ref k3 1 0 0),(2,.ref k2 1 0 0),(1,.ref k1 1 0 0)]) (λb=>⟨b.2.1,b.2.2⟩)
  (λb=>b.1<=l.length/\nx<b.2.1/\(∀ k,k<nx->St.look b.2.2 k=St.look xZ k)/\ St.look b.2.2 nx=some ⟨2,[[.int .i64 (i:Int),.int .i64 (t:Int)]]⟩/\ ((l.take b.1).all λq=>!bR rs A g (i,t) q || φ q)= true) (λb=>l.length-b.1)
  (0,nx+1,(nx,⟨2,[[.int .i64 (i:Int),.int .i64 (t:Int)]]⟩) :: xZ) ⟨Am _,An _,λk hk=>?_,?_,rfl⟩ ?_ ?_
 ·simp only; rw [xX,if_neg (by omega)]
 ·simp only; rw [xX,if_pos rfl]
 ·(refine xT.same ?_; simp [xR,Fr.get])
 rintro ⟨w,nx1,objs1⟩ ⟨hw,hn,hold,hbox,hall⟩;simp only at hw hn hold hbox hall ⊢;have e1:=(hold _ b1).trans h1;have e2:=(hold _ b2).trans h2;have e3:=(hold _ b3).trans h3;have ec:=(hold _ bc).trans hc;refine xL mixed ?_;by_cases hwl:w<l.length
 case neg=>
  have hd:¬ ((w:Int)<(l.length:Int)):=by omega
  rw [μ (by omega)] at hall;simp only [simprocAttr,-ZA,↓zU,↓zD,zV,zT,zW,hd];exact .gone hu (hkeep _ _ hold) (by simp only [vw]; rw [hall])
 have hd:((w:Int)<(l.length:Int)):=by omega
 have hp:=hin _ (xK (d:=(0,0)) hwl);have hpm:=xK (d:=(0,0)) hwl;have hpg:=fD l hwl
 have htk:l.take (w+1)= l.take w ++ [l.getD w (0,0)]:=by rw [χ];congr 1;simp [List.getD,hwl]
 generalize l.getD w (0,0)= q at hp hpg htk hpm;have z1:¬ nx1=k1:=by omega
 have z2:¬ nx1=k2:=by omega
 have z3:¬ nx1=k3:=by omega
 have zc:¬ nx1=kc:=by omega
 have zb:¬ nx1=nx:=by omega
 simp only [simprocAttr,-ZA,↓zU,↓zD,zV,zT,zW,hd,vD,hpg,e1,ec,z1,zc]
 (repeat refine sd ?_)
 refine wH (λa:Nat=>[(24,.int .i64 a),(23,.int .i64 A),(15,.int .i64 w),(14,.int .i64 l.length),(13,.sl 2 (mC l)),(8,.bool (YL rs g a (i,t) q)),(7,.ref nx1 2 0 0),(4,.ref nx 2 0 0),(3,.ref k3 1 0 0),(2,.ref k2 1 0 0),(1,.ref k1 1 0 0)])
  (λ_=>⟨nx1+1,(nx1,⟨2,[[.int .i64 (q.1:Int),.int .i64 (q.2:Int)]]⟩) :: objs1⟩) (λa=>a<=A) (λa=>A-a) 0 (Am _) ?_ ?_
 ·(refine xT.same ?_; simp [xR,Fr.get,YL])
 intro a ha;refine xL mixed ?_;by_cases hal:a<A
 case neg=>
  have hd2:¬ ((a:Int)<(A:Int)):=by omega
  obtain rfl:a=A:=by omega
  have ht0:bR rs a g (i,t) q=YL rs g a (i,t) q:=rfl;have g1:=vJ (T:=T) (φ:=φ) hp.1;have g2:=tP (i:=q.1) (φ:=φ) hp.2;simp only [simprocAttr,-ZA,↓zU,↓zD,zV,zT,zW,hd2];refine .yJ ?_
  cases hk:YL rs g a (i,t) q with
  | false=>
   simp only [simprocAttr,-ZA,↓zU,↓zD,zV,zT,zW];refine⟨(w+1,nx1+1,?zo0),⟨by show w+1<=l.length; omega,by show nx<nx1+1; omega,λk hk=>?_,?_,?_⟩,?zt0,by show l.length-(w+1)<l.length-w; omega⟩
   case zt0=>
    (refine xT.same ?_; simp only [xR,Fr.get,simprocAttr,-ZA,zS])
    exact zZ (by omega)
   ·simp only; rw [xX,if_neg (by omega)]; exact hold k hk
   ·simp only; rw [xX,if_neg (by omega)]; exact hbox
   ·simp only; rw [htk,π,hall,ο,ht0,hk,Ac]; rfl
  | true=>
   cases hx:φ q with
   | false=>
    simp only [simprocAttr,-ZA,↓zU,↓zD,zV,zT,zW,z3,e3,wR,g1,g2,vO,δ,γ,hx]
    (repeat refine sd ?_)
    refine .gone hu (hkeep _ _ λk hk=>?_) ?_
    ·rw [xX,if_neg (by omega)]; exact hold k hk
    ·simp only [vw];congr 1
     symm
     rw [<- Bool.not_eq_true,Aa];intro h;have:=h q hpm;rw [ht0,hk,hx] at this;cases this
   | true=>
    simp only [simprocAttr,-ZA,↓zU,↓zD,zV,zT,zW,z3,e3,wR,g1,g2,vO,δ,γ,hx]
    (repeat refine sd ?_)
    refine⟨(w+1,nx1+1,?zo1),⟨by show w+1<=l.length; omega,by show nx<nx1+1; omega,λk hk=>?_,?_,?_⟩,?zt1,by show l.length-(w+1)<l.length-w; omega⟩
    case zt1=>
     (refine xT.same ?_; simp only [xR,Fr.get,simprocAttr,-ZA,zS])
     exact zZ (by omega)
    ·simp only; rw [xX,if_neg (by omega)]; exact hold k hk
    ·simp only; rw [xX,if_neg (by omega)]; exact hbox
    ·simp only; rw [htk,π,hall,ο,ht0,hk,Ac]; rw [hx]; rfl
 have hd2:((a:Int)<(A:Int)):=by omega
 have hbit:=Y2 (g:=g) (a:=a) hg (by omega);have hsu:=V4 rs g a (i,t) q
 cases hb:g.testBit a with
 | false=>
  rw [hb] at hbit hsu;simp only [A3,if_false] at hbit;simp only [Bool.not_false,Az,A4] at hsu;simp only [simprocAttr,-ZA,↓zU,↓zD,zV,zT,zW,hd2,e2,z2,hbit]
  (repeat refine sd ?_)
  refine⟨a+1,by omega,?_,by omega⟩
  (refine xT.same ?_; simp only [xR,Fr.get,simprocAttr,-ZA,zS,hsu])
  exact zZ (by omega)
 | true=>
  rw [hb] at hbit hsu;simp only [if_true] at hbit;simp only [Bool.not_true,Ay] at hsu;obtain⟨r,x,hr⟩:=Kf ok hal (p:=(i,t)) ⟨hi,ht⟩;obtain⟨r',x',hr'⟩:=Kf ok hal hp;have u1:=hr.g1; have u2:=hr.l1; have u3:=hr.g2; have u4:=hr.l2; have u5:=hr.g3;have v1:=hr'.g1; have v2:=hr'.l1; have v3:=hr'.g2; have v4:=hr'.l2; have v5:=hr'.g3;simp only at u1 u3
  by_cases he:yO rs a (i,t)= yO rs a q
  ·have hen:(yO rs a (i,t) != yO rs a q)= false:=by simpa using he
   simp only [simprocAttr,-ZA,↓zU,↓zD,zV,zT,zW,hd2,e1,e2,ec,z1,z2,zc,zb,hbox,hbit,wV,u1,u2,u3,u4,u5,v1,v2,v3,v4,v5,xC.row,pQ,zK,hen]
   (repeat refine sd ?_)
   refine⟨a+1,by omega,?_,by omega⟩
   (refine xT.same ?_; simp only [xR,Fr.get,simprocAttr,-ZA,zS,hsu,he])
   exact⟨zZ (by omega),by simp⟩
  ·have hen:(yO rs a (i,t) != yO rs a q)= true:=by simpa using he
   simp only [simprocAttr,-ZA,↓zU,↓zD,zV,zT,zW,hd2,e1,e2,ec,z1,z2,zc,zb,hbox,hbit,wV,u1,u2,u3,u4,u5,v1,v2,v3,v4,v5,xC.row,pQ,zK,hen]
   (repeat refine sd ?_)
   refine⟨a+1,by omega,?_,by omega⟩
   (refine xT.same ?_; simp only [xR,Fr.get,simprocAttr,-ZA,zS,hsu,he])
   exact⟨zZ (by omega),by simp⟩
end
section
open Rs Fm Ru Te
theorem LU {nx kc:Nat} {xZ:List (Nat × Ob)} {rs:List xC} {A F T g:Nat} {same:D} {φ:Nat × Nat->Bool} (ok:kQ rs A F T) (hg:g<2 ^ 60)
  (hc:St.look xZ kc=some ⟨6,[[.int .i64 (A:Int),.int .i64 (F:Int),.int .i64 (T:Int),.sl 2 (wM rs),.sl 2 (mC (qF T (rs.length*T))),same]]⟩) :
  xY prog 159 [.ref kc 6 0 0,.int .i64 (g:Int),.sl 1 (yR rs.length T φ)] ⟨nx,xZ⟩ (.sl 1 (yR rs.length T (kG rs A T g φ))) ⟨nx,xZ⟩:=by
 refine xY.wC ⟨_,func159,by kernel_rfl,by kernel_rfl⟩ λhu=>xY.clean ?_;have hkc:=(hu kc _ hc).1;simp only at hkc
 have hkeep:∀ (a b c:Ob) k o,St.look xZ k=some o->St.look ((nx+1+1,a) :: (nx+1,b) :: (nx,c) :: xZ) k=some o:=λa b c k o hk=>by have:=(hu k o hk).1;simp only at this;rw [xX,if_neg (by omega),xX,if_neg (by omega),xX,if_neg (by omega)]; exact hk
 have hfill:=iX (nx:=nx+1+1+1) (kc:=kc) (xZ:=(nx+1+1,⟨1,[[.sl 1 (yR rs.length T φ)]]⟩) :: (nx+1,⟨1,[[.int .i64 (g:Int)]]⟩) :: (nx,⟨1,[[.ref kc 6 0 0]]⟩) :: xZ) (g:=207) (caps:=[.ref nx 1 0 0,.ref (nx+1) 1 0 0,.ref (nx+1+1) 1 0 0]) (φ:=kG rs A T g φ) ok (hkeep _ _ _ _ _ hc) (λnx1 objs1 i t h1 h2 hi ht=> Nf ok hg (by rw [h2 _ (by omega),xX,if_neg (by omega),xX,if_neg (by omega),xX,if_pos rfl]) (by rw [h2 _ (by omega),xX,if_neg (by omega),xX,if_pos rfl]) (by rw [h2 _ (by omega),xX,if_pos rfl]) (by rw [h2 _ (by omega)]; exact hkeep _ _ _ _ _ hc) hi ht)
 refine xY.xQ mixed func159 IT (by simp) λhf=>?_;have y1:¬ nx+1=nx:=by omega
 have y2:¬ nx+1+1=nx:=by omega
 simp only [simprocAttr,-ZA,↓zU,↓zD,zV,zT,zW,y1,y2]
 (repeat refine sd ?_)
 refine .go hfill ?_;simp only [simprocAttr,-ZA,↓zU,↓zD,zV,zT,zW];exact .gone hu (hkeep _ _ _) (by simp only [vw]; exact⟨trivial,trivial⟩)
theorem Tz {nx k1 k2 k3:Nat} {xZ:List (Nat × Ob)} {R T:Nat} {x y z:Nat × Nat->Bool} (hR:R<=1000) (hT:T<=1000)
  (h1:St.look xZ k1=some ⟨1,[[.sl 1 (yR R T x)]]⟩) (h2:St.look xZ k2=some ⟨1,[[.sl 1 (yR R T y)]]⟩) (h3:St.look xZ k3=some ⟨1,[[.sl 1 (yR R T z)]]⟩) {i t:Nat} (hi:i<R) (ht:t<T) :
  xY prog 209 ([.agg [.int .i64 (i:Int),.int .i64 (t:Int)]] ++ [.ref k1 1 0 0,.ref k2 1 0 0,.ref k3 1 0 0]) ⟨nx,xZ⟩ (.bool (!x (i,t) || (y (i,t)&& z (i,t)))) ⟨nx,xZ⟩:=by
 refine xY.wC ⟨_,func209,by kernel_rfl,by kernel_rfl⟩ λhu=>xY.clean ?_;have y1:¬ nx=k1:=by have:=(hu k1 _ h1).1; simp only at this; omega
 have y2:¬ nx=k2:=by have:=(hu k2 _ h2).1; simp only at this; omega
 have y3:¬ nx=k3:=by have:=(hu k3 _ h3).1; simp only at this; omega
 have hkeep:∀ (ob:Ob) k o,St.look xZ k=some o->St.get ⟨nx+1,(nx,ob) :: xZ⟩ k=some o:=λob k o hk=>by have:=(hu k o hk).1;simp only at this;show St.look (_ :: _) k=_;rw [xX,if_neg (by omega)]; exact hk
 have a1:=vJ (T:=T) (φ:=x) hi;have a2:=tP (i:=i) (φ:=x) ht;have b1:=vJ (T:=T) (φ:=y) hi;have b2:=tP (i:=i) (φ:=y) ht;have c1:=vJ (T:=T) (φ:=z) hi;have c2:=tP (i:=i) (φ:=z) ht;refine xY.xQ mixed func209 J3 (by simp) λhf=>?_
 cases hx:x (i,t) with
 | false=>
  rw [hx] at a2;simp only [simprocAttr,-ZA,↓zU,↓zD,zV,zT,zW,h1,y1,wR,a1,a2,vO,δ,γ]
  (repeat refine sd ?_)
  exact .gone hu (hkeep _) (by simp only [vw]; rfl)
 | true=>
  rw [hx] at a2
  cases hy:y (i,t) with
  | false=>
   rw [hy] at b2;simp only [simprocAttr,-ZA,↓zU,↓zD,zV,zT,zW,h1,h2,y1,y2,wR,a1,a2,b1,b2,vO,δ,γ]
   (repeat refine sd ?_)
   exact .gone hu (hkeep _) (by simp only [vw]; rfl)
  | true=>
   rw [hy] at b2;simp only [simprocAttr,-ZA,↓zU,↓zD,zV,zT,zW,h1,h2,h3,y1,y2,y3,wR,a1,a2,b1,b2,c1,c2,vO,δ,γ]
   (repeat refine sd ?_)
   exact .gone hu (hkeep _) (by simp only [vw]; rfl)
structure Te.TG (nx R T : Nat) (xZ : List (Nat × Ob)) (x y z : tJ) (nx' : Nat) (objs' : List (Nat × Ob)) : Prop where
 n1:nx+1+1<nx'
 tV:∀ k,k<nx->St.look objs' k=St.look xZ k
 k0:St.look objs' nx=some ⟨1,[[.sl 1 (yR R T x)]]⟩
 k1:St.look objs' (nx+1)= some ⟨1,[[.sl 1 (yR R T y)]]⟩
 k2:St.look objs' (nx+1+1)= some ⟨1,[[.sl 1 (yR R T z)]]⟩
theorem Te.TG.more {nx R T nx' nx'':Nat} {xZ objs' objs'':List (Nat × Ob)} {x y z:tJ} (h:TG nx R T xZ x y z nx' objs') (hn:nx'<=nx'') (hl:∀ k,k<nx'->St.look objs'' k=St.look objs' k):TG nx R T xZ x y z nx'' objs'':=by have n1:=h.n1;exact⟨by omega,λk hk=>by rw [hl k (by omega)]; exact h.tV k hk,by rw [hl _ (by omega)]; exact h.k0,by rw [hl _ (by omega)]; exact h.k1,by rw [hl _ (by omega)]; exact h.k2⟩
theorem Px {nx kc ks:Nat} {km:Nat->Nat} {xZ:List (Nat × Ob)} {rs:List xC} {A F T g:Nat} {x y:Nat × Nat->Bool} (ok:kQ rs A F T) (hS:qV rs A F T kc ks km xZ) (hg:g<2 ^ 60) :
  xY prog 161 [.ref kc 6 0 0,.int .i64 (g:Int),.sl 1 (yR rs.length T x),.sl 1 (yR rs.length T y)] ⟨nx,xZ⟩ (.sl 1 (yR rs.length T (pM rs A T g x y))) ⟨nx,xZ⟩:=by
 obtain⟨T1,T16⟩:=ok.hT;obtain⟨R1,R64⟩:=ok.hR;have hRT:=ok.hP;refine xY.wC ⟨_,func161,by kernel_rfl,by kernel_rfl⟩ λhu=>xY.clean ?_;have bc:kc<nx:=(hu _ _ hS.c).1
 have hk1:∀ {objs':List (Nat × Ob)},(∀ k,k<nx->St.look objs' k=St.look xZ k)->qV rs A F T kc ks km objs':=λh=>hS.mono λk o hk=>by have:=(hu k o hk).1;simp only at this;rw [h k this]; exact hk
 have h0:∀ k,k<nx->St.look ((nx+1,⟨1,[[D.sl 1 (yR rs.length T y)]]⟩) :: (nx,⟨1,[[.sl 1 (yR rs.length T x)]]⟩) :: xZ) k=St.look xZ k:=λk hk=>by rw [xX,if_neg (by omega),xX,if_neg (by omega)]
 have hfill:=iX (nx:=nx+1+1) (kc:=kc) (φ:=λ_=>true) (g:=208) (caps:=[]) ok (hk1 h0).c λnx1 objs1 i t _ _ _ _=>Ox;refine xY.xQ mixed func161 IV (by simp) λhf=>?_;simp only [simprocAttr,-ZA,↓zU,↓zD,zV,zT,zW]
 (repeat refine sd ?_)
 refine .go hfill ?_;simp only [simprocAttr,-ZA,↓zU,↓zD,zV,zT,zW]
 (repeat refine sd ?_)
 have w1:¬ nx+1+1=nx:=by omega
 have w2:¬ nx+1+1=nx+1:=by omega
 refine xO (λ_:Nat × Nat × List (Nat × Ob)=>[(9,.ref (nx+1+1) 1 0 0),(7,.ref (nx+1) 1 0 0),(6,.ref nx 1 0 0),(1,.int .i64 g),(0,.ref kc 6 0 0)]) (λa=>⟨a.2.1,a.2.2⟩)
  (λa=>a.1+lj rs A T g x y a.1<=rs.length*T/\TG nx rs.length T xZ x y (wJ rs A T g x y a.1) a.2.1 a.2.2) (λa=>lj rs A T g x y a.1)
  (0,nx+1+1+1,(nx+1+1,⟨1,[[.sl 1 (yR rs.length T λ_=>true)]]⟩) :: (nx+1,⟨1,[[.sl 1 (yR rs.length T y)]]⟩) :: (nx,⟨1,[[.sl 1 (yR rs.length T x)]]⟩) :: xZ) ⟨by rw [ff]; omega,⟨An _,λk hk=>?_,?_,?_,?_⟩⟩ ?_ ?_
 ·simp only; rw [xX,if_neg (by omega),xX,if_neg (by omega),xX,if_neg (by omega)]
 ·simp only; rw [xX,if_neg (by omega),xX,if_neg (by omega),xX,if_pos rfl]
 ·simp only; rw [xX,if_neg (by omega),xX,if_pos rfl]
 ·simp only; rw [xX,if_pos rfl]; rfl
 ·(refine xT.same ?_; simp [xR,Fr.get])
 rintro ⟨n,nx1,objs1⟩ ⟨hn,hI⟩;simp only at hn hI ⊢;have n1:=hI.n1;have hS1:=hk1 hI.tV
 have hf2:=iX (nx:=nx1) (xZ:=objs1) (kc:=kc) (φ:=λp=>!x p || (y p&&wJ rs A T g x y n p)) (g:=209) (caps:=[.ref nx 1 0 0,.ref (nx+1) 1 0 0,.ref (nx+1+1) 1 0 0]) ok hS1.c (λnx2 objs2 i t h1 h2 hi ht=> Tz (by omega) (by omega) (by rw [h2 _ (by omega)]; exact hI.k0) (by rw [h2 _ (by omega)]; exact hI.k1) (by rw [h2 _ (by omega)]; exact hI.k2) hi ht)
 have he:=Vs (nx:=nx1) (φ:=λp=>!x p || (y p&&wJ rs A T g x y n p)) ok hS1 hg;rw [show uX rs A T g (λp=>!x p || (y p&&wJ rs A T g x y n p))= wJ rs A T g x y (n+1) from rfl] at he;have hc1:=hS1.c;have hin:Kv rs T (wQ rs T):=xi T1 (Al _);have hln:(wQ rs T).length=rs.length*T:=tA T (rs.length*T);have hst:(∀ p ∈ wQ rs T,wJ rs A T g x y (n+1) p=wJ rs A T g x y n p)->yR rs.length T (wJ rs A T g x y n)= yR rs.length T (pM rs A T g x y):=λh=>pn λi t hi ht=>Wx (by omega) h (lP T1 hi ht);have hls:(∃ p ∈ wQ rs T,wJ rs A T g x y (n+1) p≠wJ rs A T g x y n p)->lj rs A T g x y (n+1)<lj rs A T g x y n:=zj;rw [show qF T (rs.length*T)= wQ rs T from rfl] at hc1;generalize wQ rs T=l at hc1 hin hln hst hls;refine xL mixed ?_;simp only [simprocAttr,-ZA,↓zU,↓zD,zV,zT,zW];refine .go hf2 ?_;simp only [simprocAttr,-ZA,↓zU,↓zD,zV,zT,zW];refine .go he ?_;simp only [simprocAttr,-ZA,↓zU,↓zD,zV,zT,zW,hc1,vD]
 (repeat refine sd ?_)
 refine wH (λb:Nat × Nat × List (Nat × Ob)=>[(29,.int .i64 b.1),(28,.int .i64 l.length),(27,.sl 2 (mC l)),(12,.bool ((l.take b.1).any λp=>wJ rs A T g x y (n+1) p != wJ rs A T g x y n p)),(11,.sl 1 (yR rs.length T (wJ rs A T g x y (n+1)))),(9,.ref (nx+1+1) 1 0 0),(7,.ref (nx+1) 1 0 0),(6,.ref nx 1 0 0),(1,.int .i64 g),(0,.ref kc 6 0 0)]) (λa=>⟨a.2.1,a.2.2⟩)
  (λb=>b.1<=l.length/\TG nx rs.length T xZ x y (wJ rs A T g x y n) b.2.1 b.2.2) (λb=>l.length-b.1) (0,nx1,objs1) ⟨Am _,hI⟩ ?_ ?_
 ·(refine xT.same ?_; simp [xR,Fr.get])
 clear hI hS1 hf2 he hc1 n1;rintro ⟨w,nx2,objs2⟩ ⟨hw,hI⟩;simp only at hw hI ⊢;have n1:=hI.n1;have e2:=hI.k2;refine xL mixed ?_;by_cases hwl:w<l.length
 case neg=>
  have hd:¬ ((w:Int)<(l.length:Int)):=by omega
  rw [μ (show l.length<=w by omega)];simp only [simprocAttr,-ZA,↓zU,↓zD,zV,zT,zW,hd];refine .yJ ?_
  cases hch:l.any λp=>wJ rs A T g x y (n+1) p != wJ rs A T g x y n p with
  | false=>
   simp only [simprocAttr,-ZA,↓zU,↓zD,zV,zT,zW,e2]
   have hst':=hst λp hp=>by have:=List.any_eq_false.1 hch p hp;simpa using this
   rw [hst'];refine .gone hu (λk o hk=>?_) (by simp only [vw]; exact⟨trivial,trivial⟩);have:=(hu k o hk).1;simp only at this;show St.look objs2 k=_;rw [hI.tV k this]; exact hk
  | true=>
   simp only [simprocAttr,-ZA,↓zU,↓zD,zV,zT,zW,e2]
   (repeat refine sd ?_)
   have hls':=hls (by obtain⟨p,hp,hne⟩:=Ak.1 hch;exact⟨p,hp,by simpa using hne⟩)
   refine⟨(n+1,nx2,?zo0),⟨by simp only; omega,⟨n1,λk hk=>?_,?_,?_,?_⟩⟩,?zt0,hls'⟩
   case zt0=>(refine xT.same ?_; simp [xR,Fr.get])
   all_goals simp only
   ·rw [xU,if_neg (by omega)]; exact hI.tV k hk
   ·rw [xU,if_neg (by omega)]; exact hI.k0
   ·rw [xU,if_neg (by omega)]; exact hI.k1
   ·rw [xU,if_pos rfl,e2]; rfl
 have hd:((w:Int)<(l.length:Int)):=by omega
 have hp:=hin _ (xK (d:=(0,0)) hwl);have hpg:=fD l hwl
 have htk:l.take (w+1)= l.take w ++ [l.getD w (0,0)]:=by rw [χ];congr 1;simp [List.getD,hwl]
 generalize l.getD w (0,0)= p at hp hpg htk
 have hany:((l.take (w+1)).any λp=>wJ rs A T g x y (n+1) p != wJ rs A T g x y n p)= (((l.take w).any λp=>wJ rs A T g x y (n+1) p != wJ rs A T g x y n p) || (wJ rs A T g x y (n+1) p != wJ rs A T g x y n p)):=by rw [htk,List.any_append,List.any_cons,List.any_nil,Bool.or_false]
 generalize ((l.take w).any λp=>wJ rs A T g x y (n+1) p != wJ rs A T g x y n p)= c at hany;have a1:=vJ (T:=T) (φ:=wJ rs A T g x y (n+1)) hp.1;have a2:=tP (i:=p.1) (φ:=wJ rs A T g x y (n+1)) hp.2;have b1:=vJ (T:=T) (φ:=wJ rs A T g x y n) hp.1;have b2:=tP (i:=p.1) (φ:=wJ rs A T g x y n) hp.2;have z2:¬ nx2=nx+1+1:=by omega
 cases c with
 | true=>
  simp only [simprocAttr,-ZA,↓zU,↓zD,zV,zT,zW,hd,vD,hpg]
  (repeat refine sd ?_)
  refine⟨(w+1,nx2+1,?zo1),⟨by show w+1<=l.length; omega,hI.more (Ao _) λk hk=>?_⟩,?zt1,by show l.length-(w+1)<l.length-w; omega⟩
  case zt1=>
   (refine xT.same ?_; simp only [xR,Fr.get,simprocAttr,-ZA,zS,hany,Az,Ay])
   exact zZ (by omega)
  ·simp only; rw [xX,if_neg (by omega)]
 | false=>
  simp only [simprocAttr,-ZA,↓zU,↓zD,zV,zT,zW,hd,vD,hpg,e2,z2,wR,a1,a2,b1,b2,vO,δ,γ]
  (repeat refine sd ?_)
  refine⟨(w+1,nx2+1,?zo2),⟨by show w+1<=l.length; omega,hI.more (Ao _) λk hk=>?_⟩,?zt2,by show l.length-(w+1)<l.length-w; omega⟩
  case zt2=>
   (refine xT.same ?_; simp only [xR,Fr.get,simprocAttr,-ZA,zS,hany,Az,Ay])
   exact zZ (by omega)
  ·simp only; rw [xX,if_neg (by omega)]
end
section
open Rs Fm Ru Te
namespace Te
def TV (T:Nat) (s:Int) (t:Nat):Nat:=if 0<s then T-1-t else t
theorem Sj {T:Nat} {s:Int} {k:Nat} (h:k<T):Wl T s k<T/\TV T s (Wl T s k)= k:=by unfold TV Wl;split <;> omega
theorem Nz {T:Nat} {s:Int} {t k:Nat} (h:t<T) (hk:k<T) (e:TV T s t=k):t=Wl T s k:=by
 unfold TV at e;unfold Wl
 by_cases h0:0<s
 ·rw [if_pos h0] at e ⊢; omega
 ·rw [if_neg h0] at e ⊢; omega
theorem P3 {T:Nat} {s:Int} {x y:tJ} {i t:Nat} (h:t<T):mh T s x y (i,t)= tw T s x y i (TV T s t+1):=by
 unfold mh TV
 by_cases h0:0<s
 ·simp only [if_pos h0];rw [show T-1-t+1=T-t by omega]
 ·simp only [if_neg h0]
def jJ (T:Nat) (s:Int) (x y:tJ) (r k i t:Nat):Bool:=decide (i<r\/(i=r/\TV T s t<k))&& mh T s x y (i,t)
theorem V7 {T:Nat} {s:Int} {x y:tJ} {r k i t:Nat} (ht:t<T) (hk:k<T) (h:i≠r\/t≠Wl T s k):jJ T s x y r k i t=jJ T s x y r (k+1) i t:=by
 unfold jJ;congr 1;rw [Av,decide_eq_true_iff,decide_eq_true_iff]
 constructor
 ·rintro (a | ⟨a,b⟩)
  ·exact .inl a
  ·exact .inr ⟨a,by omega⟩
 ·rintro (a | ⟨a,b⟩)
  ·exact .inl a
  ·refine .inr ⟨a,?_⟩
   rcases Nat.lt_or_ge (TV T s t) k with h1 | h1
   ·exact h1
   ·have:=Nz ht hk (show TV T s t=k by omega)
    rcases h with h | h
    ·exact absurd a h
    ·exact absurd this h
theorem Rz {T:Nat} {s:Int} {x y:tJ} {r k:Nat} (hk:k<T):jJ T s x y r (k+1) r (Wl T s k)= tw T s x y r (k+1):=by obtain⟨h1,h2⟩:=Sj (s:=s) hk;unfold jJ;rw [P3 h1,h2,decide_eq_true (.inr ⟨rfl,An k⟩)];rfl
theorem Ry {T:Nat} {s:Int} {x y:tJ} {r i t:Nat} (ht:t<T):jJ T s x y r T i t=jJ T s x y (r+1) 0 i t:=by
 unfold jJ;congr 1;rw [Av,decide_eq_true_iff,decide_eq_true_iff];have:TV T s t<T:=by unfold TV; split <;> omega
 constructor
 ·rintro (a | ⟨a,b⟩)
  ·exact .inl (by omega)
  ·exact .inl (by omega)
 ·rintro (a | ⟨a,b⟩)
  ·rcases Nat.lt_or_ge i r with h | h
   ·exact .inl h
   ·exact .inr ⟨by omega,this⟩
  ·omega
theorem V8 {T:Nat} {s:Int} {x y:tJ} {i t:Nat}:jJ T s x y 0 0 i t=false:=by unfold jJ;rw [decide_eq_false (by omega)]; rfl
theorem Rw {T:Nat} {s:Int} {x y:tJ} {R i t:Nat} (h:i<R):jJ T s x y R 0 i t=mh T s x y (i,t):=by unfold jJ;rw [decide_eq_true (.inl h)]; rfl
end Te
theorem WT {nx kc:Nat} {xZ:List (Nat × Ob)} {rs:List xC} {A F T:Nat} {same:D} {x y:Nat × Nat->Bool} {s:Int} (ok:kQ rs A F T)
  (hc:St.look xZ kc=some ⟨6,[[.int .i64 (A:Int),.int .i64 (F:Int),.int .i64 (T:Int),.sl 2 (wM rs),.sl 2 (mC (qF T (rs.length*T))),same]]⟩) :
  xY prog 166 [.ref kc 6 0 0,.sl 1 (yR rs.length T x),.sl 1 (yR rs.length T y),.int .i64 s] ⟨nx,xZ⟩ (.sl 1 (yR rs.length T (mh T s x y))) ⟨nx,xZ⟩:=by
 obtain⟨T1,T16⟩:=ok.hT;obtain⟨R1,R64⟩:=ok.hR;refine xY.wC ⟨_,func166,by kernel_rfl,by kernel_rfl⟩ λhu=>xY.clean ?_;have bc:kc<nx:=(hu _ _ hc).1;have hfill:=ak (nx:=nx) (xZ:=xZ) (φ:=λ_=>false) (g:=211) (caps:=[]) ok hc λnx1 objs1 i t _ _ _ _=>Q8;have hT0:=TI.start (nx:=nx) (R:=rs.length) (T:=T) (φ:=λ_=>false) (xZ:=xZ);refine xY.xQ mixed func166 Ia (by simp) λhf=>?_;simp only [simprocAttr,-ZA,↓zU,↓zD,zV,zT,zW]
 (repeat refine sd ?_)
 refine .go hfill ?_;simp only [simprocAttr,-ZA,↓zU,↓zD,zV,zT,zW]
 (repeat refine sd ?_)
 refine wH (λb:Nat × List (Nat × Ob)=>[(18,.int .i64 b.1),(17,.int .i64 rs.length),(9,.yD nx 1 rs.length),(3,.int .i64 s),(2,.sl 1 (yR rs.length T y)),(1,.sl 1 (yR rs.length T x)),(0,.ref kc 6 0 0)]) (λb=>⟨nx+1+rs.length,b.2⟩)
  (λb=>b.1<=rs.length/\TI rs.length T nx rs.length (λi=>nx+1+i) (jJ T s x y b.1 0) (nx+1+rs.length) xZ b.2) (λb=>rs.length-b.1) (0,cS nx rs.length T (λ_=>false)++ xZ) ⟨Am _,hT0.congr λi t _ _=>V8.symm⟩ ?_ ?_
 ·(refine xT.same ?_; simp [xR,Fr.get])
 clear hT0 hfill;rintro ⟨r,objs1⟩ ⟨hr,hT⟩;simp only at hr hT ⊢;have n1:=hT.n1;have hc1:=(hT.tV kc bc).trans hc;refine xL mixed ?_;by_cases hrl:r<rs.length
 case neg=>
  have hd:¬ ((r:Int)<(rs.length:Int)):=by omega
  obtain rfl:r=rs.length:=by omega
  simp only [simprocAttr,-ZA,↓zU,↓zD,zV,zT,zW,hd];refine .go _ _ (jj (s:=9) (φ:=mh T s x y) hu rfl hT (λi t hi _=>Rw hi) rfl) ?_;simp only [simprocAttr,-ZA,↓zU,↓zD,zV,zT,zW];exact WD hu
 have hd:((r:Int)<(rs.length:Int)):=by omega
 simp only [simprocAttr,-ZA,↓zU,↓zD,zV,zT,zW,hd,hc1]
 (repeat refine sd ?_)
 refine wH (λb:Nat × List (Nat × Ob)=>[(26,.int .i64 b.1),(25,.int .i64 T),(11,.bool (tw T s x y r b.1)),(10,.int .i64 r),(18,.int .i64 r),(17,.int .i64 rs.length),(9,.yD nx 1 rs.length),(3,.int .i64 s),(2,.sl 1 (yR rs.length T y)),(1,.sl 1 (yR rs.length T x)),(0,.ref kc 6 0 0)]) (λb=>⟨nx+1+rs.length,b.2⟩)
  (λb=>b.1<=T/\TI rs.length T nx rs.length (λi=>nx+1+i) (jJ T s x y r b.1) (nx+1+rs.length) xZ b.2) (λb=>T-b.1) (0,objs1) ⟨Am _,hT⟩ ?_ ?_
 ·(refine xT.same ?_; simp [xR,Fr.get,tw])
 clear hT hc1;rintro ⟨k,objs2⟩ ⟨hk,hT⟩;simp only at hk hT ⊢;have hc1:=(hT.tV kc bc).trans hc;refine xL mixed ?_;by_cases hkl:k<T
 case neg=>
  have hd2:¬ ((k:Int)<(T:Int)):=by omega
  obtain rfl:k=T:=by omega
  simp only [simprocAttr,-ZA,↓zU,↓zD,zV,zT,zW,hd2];refine .yJ ?_;simp only [simprocAttr,-ZA,↓zU,↓zD,zV,zT,zW];refine⟨(r+1,objs2),⟨by show r+1<=rs.length; omega,hT.congr λi t _ ht=>Ry ht⟩,?_,by show rs.length-(r+1)<rs.length-r; omega⟩
  (refine xT.same ?_; simp only [xR,Fr.get,simprocAttr,-ZA,zS])
  exact zZ (by omega)
 have hd2:((k:Int)<(T:Int)):=by omega
 obtain⟨hp2,hid⟩:=Sj (s:=s) hkl;have hstep:=λi t=>V7 (T:=T) (s:=s) (x:=x) (y:=y) (r:=r) (k:=k) (i:=i) (t:=t);have hnew:=Rz (s:=s) (x:=x) (y:=y) (r:=r) hkl;have hrun:tw T s x y r (k+1)= (y (r,Wl T s k) || (x (r,Wl T s k)&& tw T s x y r k)):=rfl;rw [hrun] at hnew;obtain⟨a1,a2,a3⟩:=hT.lr r hrl;have lo:=hT.lo;have hrow:=yt (T:=T) (kr:=λi=>nx+1+i) hrl hrl;have hset:=WH (w:=r*T+Wl T s k) (v:=jJ T s x y r k r) (v':=jJ T s x y r (k+1) r) hp2 (λj hj hne=>hstep r j hj hkl (.inr hne)) hnew rfl;have hte:Wl T s k=if 0<s then T-1-k else k:=rfl;generalize Wl T s k=t at hp2 hrun hset hte hstep;have f1:=vJ (T:=T) (φ:=x) hrl;have f2:=tP (i:=r) (φ:=x) hp2;have g1:=vJ (T:=T) (φ:=y) hrl;have g2:=tP (i:=r) (φ:=y) hp2;have f3:=WC (v:=jJ T s x y r k r) hp2;generalize x (r,t)= bx at f2 hrun hset;generalize y (r,t)= by_ at g2 hrun hset;generalize tw T s x y r k=bk at hrun hset
 have hend:∀ (f:Fr),xR f [(26,.int .i64 ((k+1:Nat):Int)),(25,.int .i64 T),(11,.bool (tw T s x y r (k+1))),(10,.int .i64 r),(18,.int .i64 r),(17,.int .i64 rs.length),(9,.yD nx 1 rs.length),(3,.int .i64 s),(2,.sl 1 (yR rs.length T y)),(1,.sl 1 (yR rs.length T x)),(0,.ref kc 6 0 0)]->∃ a':Nat × List (Nat × Ob),
   (a'.1<=T/\TI rs.length T nx rs.length (λi=>nx+1+i) (jJ T s x y r a'.1) (nx+1+rs.length) xZ a'.2)/\
   xT ⟨prog,69,nx,[],none⟩ f ⟨nx+1+rs.length,zA objs2 (nx+1+r) ⟨1,(jL ((List.range T).map (jJ T s x y r k r))).set t [D.bool (by_ || (bx&&bk))]⟩⟩
    [(26,.int .i64 a'.1),(25,.int .i64 T),(11,.bool (tw T s x y r a'.1)),(10,.int .i64 r),(18,.int .i64 r),(17,.int .i64 rs.length),(9,.yD nx 1 rs.length),(3,.int .i64 s),(2,.sl 1 (yR rs.length T y)),(1,.sl 1 (yR rs.length T x)),(0,.ref kc 6 0 0)] ⟨nx+1+rs.length,a'.2⟩/\ T-a'.1<T-k:=by
  intro f hf
  refine⟨(k+1,_),⟨by show k+1<=T; omega,hT.Kr (Al _) hrl (λj u _ hu2 hne=>hstep j u hu2 hkl (.inl hne)) (λj hj hj2=>?_) ?_⟩,xT.same hf,by show T-(k+1)<T-k; omega⟩
  ·simp only; rw [xU,if_neg (λe=>hj2 e.symm)]
  ·simp only; rw [xU,if_pos rfl,a3,hset]; rfl
 by_cases h0:0<s
 ·rw [if_pos h0] at hte;have e1:IntKind.i64.wrap ((T:Int)-1)= (T:Int)-1:=wrap_i64 (by omega);have e2:IntKind.i64.wrap ((T:Int)-1-(k:Int))= (t:Int):=by rw [wrap_i64 (by omega)]; omega
  have e3:=zZ (k:=k) (by omega);cases by_ <;> cases bx <;> (simp only [simprocAttr,-ZA,↓zU,↓zD,zV,zT,zW,hd2,h0,hc1,e1,e2,f3,wR,f1,f2,g1,g2,vO,δ,γ,lo,a3,hrow,nG]; (repeat refine sd ?_); refine hend _ ?_; simp only [xR,Fr.get,↓reduceIte,reduceIte,Ap,reduceCtorEq,and_true,true_and,and_self,e3,hrun,Az,Ay,Ax,Aw])
 ·rw [if_neg h0] at hte;subst hte;have e3:=zZ (k:=t) (by omega);cases by_ <;> cases bx <;> (simp only [simprocAttr,-ZA,↓zU,↓zD,zV,zT,zW,hd2,h0,hc1,f3,wR,f1,f2,g1,g2,vO,δ,γ,lo,a3,hrow,nG]; (repeat refine sd ?_); refine hend _ ?_; simp only [xR,Fr.get,↓reduceIte,reduceIte,Ap,reduceCtorEq,and_true,true_and,and_self,e3,hrun,Az,Ay,Ax,Aw])
end
section
open Rs Fm Ru Te
namespace Te
theorem LX (s:BitVec 64) (k:Nat):((s >>> k)&&& 1#64==1#64)= s.getLsbD k:=by
 rw [Av,beq_iff_eq]
 constructor
 ·intro h;have:=congrArg (λv=>v.getLsbD 0) h;simpa using this
 ·intro h;refine BitVec.eq_of_getLsbD_eq λi hi=>?_;simp only [BitVec.getLsbD_and,BitVec.getLsbD_ushiftRight,BitVec.getLsbD_one]
  by_cases h0:i=0
  ·subst h0; simp [h]
  ·simp [h0]
structure VH (d : D) : Prop where
 c:d.cells=some [d]
 o:d.one=true
theorem VH.sl (n:Nat) (e:List (List D)):VH (.sl n e):=⟨rfl,rfl⟩
theorem VH.xJ : VH .xJ:=⟨rfl,rfl⟩
structure bJ (n : Nd) (R T : Nat) (x y : tJ) (xd yd : D) : Prop where
 hx:(xW n.op).1.x=true->xd = .sl 1 (yR R T x)
 hy:(xW n.op).1.y=true->yd = .sl 1 (yR R T y)
end Te
theorem LO {nx k5 k4 k6 k7 kc:Nat} {xZ:List (Nat × Ob)} {rs:List xC} {A F T:Nat} {l:List (Nat × Nat)} {same xd yd:D} {n:Nd} {x y:Nat × Nat->Bool} (ok:kQ rs A F T) (ho:bJ n rs.length T x y xd yd) (hi3:n.op=3->0<=n.i)
  (h5:St.look xZ k5=some ⟨6,[n.row]⟩) (h4:St.look xZ k4=some ⟨1,[[.ref kc 6 0 0]]⟩) (h6:St.look xZ k6=some ⟨1,[[xd]]⟩) (h7:St.look xZ k7=some ⟨1,[[yd]]⟩)
  (hc:St.look xZ kc=some ⟨6,[[.int .i64 (A:Int),.int .i64 (F:Int),.int .i64 (T:Int),.sl 2 (wM rs),.sl 2 (mC l),same]]⟩) {i t:Nat} (hi:i<rs.length) (ht:t<T) :
  xY prog 168 ([.agg [.int .i64 (i:Int),.int .i64 (t:Int)]] ++ [.ref k5 6 0 0,.ref k4 1 0 0,.ref k6 1 0 0,.ref k7 1 0 0]) ⟨nx,xZ⟩ (.bool (cY rs n x y (i,t))) ⟨nx,xZ⟩:=by
 obtain⟨T1,T16⟩:=ok.hT;obtain⟨R1,R64⟩:=ok.hR;refine xY.wC ⟨_,func168,by kernel_rfl,by kernel_rfl⟩ λhu=>xY.clean ?_;have y5:¬ nx=k5:=by have:=(hu k5 _ h5).1; simp only at this; omega
 have y4:¬ nx=k4:=by have:=(hu k4 _ h4).1; simp only at this; omega
 have y6:¬ nx=k6:=by have:=(hu k6 _ h6).1; simp only at this; omega
 have y7:¬ nx=k7:=by have:=(hu k7 _ h7).1; simp only at this; omega
 have yc:¬ nx=kc:=by have:=(hu kc _ hc).1; simp only at this; omega
 have hend:∀ (ob:Ob) (d:Bool),d=cY rs n x y (i,t)->oK nx ⟨nx+1,(nx,ob) :: xZ⟩ (.bool d) ⟨nx,r9 xZ⟩ (.bool (cY rs n x y (i,t))):=λob d hd=>.gone hu (λk o hk=>by have:=(hu k o hk).1;simp only at this;show St.look (_ :: _) k=_;rw [xX,if_neg (by omega)]; exact hk) (by simp only [vw,hd])
 obtain⟨hx,hy⟩:=ho
 have hbp:cY rs n x y (i,t)= (if n.op=1 then true else if n.op=3 then(lZ rs (i,t)).getLsbD n.i.toNat else if n.op=4 then !x (i,t) else if n.op=5 then x (i,t)&& y (i,t) else if n.op=6 then x (i,t) || y (i,t)
  else if n.op=7 then !x (i,t) || y (i,t) else if n.op=8 then x (i,t)== y (i,t) else false):=rfl
 rw [Nd.row] at h5;obtain⟨op,ni,ne,ng,nx_,ny⟩:=n;simp only at hx hy hi3 h5 hbp;have hm:=xK (d:=rI) hi;have hgr:=mR rs hi;have hf:=ok.cU _ hm;have hfa:(rs.getD i rI).cU.getD t 0=lZ rs (i,t):=rfl;generalize rs.getD i rI=r at hgr hf hfa;have hg2:=vL r.cU (show t<r.cU.length by omega);rw [hfa] at hg2;generalize lZ rs (i,t)= fa at hg2 hbp;have f1:=vJ (T:=T) (φ:=x) hi;have f2:=tP (i:=i) (φ:=x) ht;have g1:=vJ (T:=T) (φ:=y) hi;have g2:=tP (i:=i) (φ:=y) ht;refine xY.xQ mixed func168 Ic (by simp) λhf=>?_
 by_cases e1:op=1
 ·subst e1;simp only [simprocAttr,-ZA,↓zU,↓zD,zV,zT,zW,h5,y5];exact hend _ _ (by rw [hbp]; rfl)
 have c1:(op==1)= false:=by simpa using e1
 rw [if_neg e1] at hbp
 by_cases e3:op=3
 ·subst e3;have hn:=hi3 rfl;simp only [simprocAttr,-ZA,↓zU,↓zD,zV,zT,zW,h5,h4,hc,y5,y4,yc,c1,wV,hgr,xC.row,xH,hg2,hn]
  (repeat refine sd ?_)
  exact hend _ _ (by rw [hbp,LX]; rfl)
 have c3:(op==3)= false:=by simpa using e3
 rw [if_neg e3] at hbp
 by_cases e4:op=4
 ·subst e4;rw [hx rfl] at h6;simp only [simprocAttr,-ZA,↓zU,↓zD,zV,zT,zW,h5,h6,y5,y6,c1,c3,wR,f1,f2,vO,δ,γ]
  (repeat refine sd ?_)
  exact hend _ _ (by rw [hbp]; rfl)
 have c4:(op==4)= false:=by simpa using e4
 rw [if_neg e4] at hbp
 by_cases e5:op=5
 ·subst e5;rw [hx rfl] at h6;rw [hy rfl] at h7;generalize x (i,t)= bx at f2 hbp;cases bx <;> (simp only [simprocAttr,-ZA,↓zU,↓zD,zV,zT,zW,h5,h6,h7,y5,y6,y7,c1,c3,c4,wR,f1,f2,g1,g2,vO,δ,γ]; (repeat refine sd ?_); refine hend _ _ ?_; rw [hbp]; rfl)
 have c5:(op==5)= false:=by simpa using e5
 rw [if_neg e5] at hbp
 by_cases e6:op=6
 ·subst e6;rw [hx rfl] at h6;rw [hy rfl] at h7;generalize x (i,t)= bx at f2 hbp;cases bx <;> (simp only [simprocAttr,-ZA,↓zU,↓zD,zV,zT,zW,h5,h6,h7,y5,y6,y7,c1,c3,c4,c5,wR,f1,f2,g1,g2,vO,δ,γ]; (repeat refine sd ?_); refine hend _ _ ?_; rw [hbp]; rfl)
 have c6:(op==6)= false:=by simpa using e6
 rw [if_neg e6] at hbp
 by_cases e7:op=7
 ·subst e7;rw [hx rfl] at h6;rw [hy rfl] at h7;generalize x (i,t)= bx at f2 hbp;cases bx <;> (simp only [simprocAttr,-ZA,↓zU,↓zD,zV,zT,zW,h5,h6,h7,y5,y6,y7,c1,c3,c4,c5,c6,wR,f1,f2,g1,g2,vO,δ,γ]; (repeat refine sd ?_); refine hend _ _ ?_; rw [hbp]; rfl)
 have c7:(op==7)= false:=by simpa using e7
 rw [if_neg e7] at hbp
 by_cases e8:op=8
 ·subst e8;rw [hx rfl] at h6;rw [hy rfl] at h7;generalize x (i,t)= bx at f2 hbp;cases bx <;> (simp only [simprocAttr,-ZA,↓zU,↓zD,zV,zT,zW,h5,h6,h7,y5,y6,y7,c1,c3,c4,c5,c6,c7,wR,f1,f2,g1,g2,vO,δ,γ]; (repeat refine sd ?_); refine hend _ _ ?_; rw [hbp]; rfl)
 have c8:(op==8)= false:=by simpa using e8
 rw [if_neg e8] at hbp;simp only [simprocAttr,-ZA,↓zU,↓zD,zV,zT,zW,h5,y5,c1,c3,c4,c5,c6,c7,c8];exact hend _ _ (by rw [hbp])
theorem Sa {nx kc:Nat} {xZ:List (Nat × Ob)} {rs:List xC} {A F T:Nat} {same xd yd:D} {n:Nd} {x y:Nat × Nat->Bool} (ok:kQ rs A F T) (ho:bJ n rs.length T x y xd yd) (hi3:n.op=3->0<=n.i) (hxd:VH xd) (hyd:VH yd)
  (hc:St.look xZ kc=some ⟨6,[[.int .i64 (A:Int),.int .i64 (F:Int),.int .i64 (T:Int),.sl 2 (wM rs),.sl 2 (mC (qF T (rs.length*T))),same]]⟩) :
  xY prog 105 [.ref kc 6 0 0,.agg n.row,xd,yd] ⟨nx,xZ⟩ (.sl 1 (yR rs.length T (cY rs n x y))) ⟨nx,xZ⟩:=by
 refine xY.wC ⟨_,func105,by kernel_rfl,by kernel_rfl⟩ λhu=>xY.clean ?_;have hkc:=(hu kc _ hc).1;simp only at hkc
 have hkeep:∀ (a b c d:Ob) k o,St.look xZ k=some o->St.look ((nx+1+1+1,a) :: (nx+1+1,b) :: (nx+1,c) :: (nx,d) :: xZ) k=some o:=λa b c d k o hk=>by have:=(hu k o hk).1;simp only at this;rw [xX,if_neg (by omega),xX,if_neg (by omega),xX,if_neg (by omega),xX,if_neg (by omega)]; exact hk
 have hfill:=iX (nx:=nx+1+1+1+1) (kc:=kc) (xZ:=(nx+1+1+1,⟨1,[[yd]]⟩) :: (nx+1+1,⟨1,[[xd]]⟩) :: (nx+1,⟨6,[n.row]⟩) :: (nx,⟨1,[[.ref kc 6 0 0]]⟩) :: xZ) (g:=168) (caps:=[.ref (nx+1) 6 0 0,.ref nx 1 0 0,.ref (nx+1+1) 1 0 0,.ref (nx+1+1+1) 1 0 0]) (φ:=cY rs n x y) ok (hkeep _ _ _ _ _ _ hc) (λnx1 objs1 i t h1 h2 hi ht=> LO ok ho hi3 (by rw [h2 _ (by omega),xX,if_neg (by omega),xX,if_neg (by omega),xX,if_pos rfl]) (by rw [h2 _ (by omega),xX,if_neg (by omega),xX,if_neg (by omega),xX,if_neg (by omega),xX,if_pos rfl]) (by rw [h2 _ (by omega),xX,if_neg (by omega),xX,if_pos rfl]) (by rw [h2 _ (by omega),xX,if_pos rfl]) (by rw [h2 _ (by omega)]; exact hkeep _ _ _ _ _ _ hc) hi ht)
 have y1:¬ nx+1=nx:=by omega
 have y2:¬ nx+1+1=nx:=by omega
 have y3:¬ nx+1+1+1=nx:=by omega
 rw [Nd.row] at hfill ⊢;refine xY.xQ mixed func105 Hk (by simp) λhf=>?_;obtain⟨p1,p2⟩:=hxd;obtain⟨q1,q2⟩:=hyd;simp only [simprocAttr,-ZA,↓zU,↓zD,zV,zT,zW,y1,y2,y3,p1,p2,q1,q2]
 (repeat refine sd ?_)
 refine .go hfill ?_;simp only [simprocAttr,-ZA,↓zU,↓zD,zV,zT,zW];exact .gone hu (hkeep _ _ _ _) (by simp only [vw]; exact⟨trivial,trivial⟩)
end
end Go.Pd
