/- Part JA. -/
import Derived.Test.YtccobgpcnfjbhaaZtF18
set_option linter.unusedSectionVars false
set_option linter.unusedVariables false
set_option linter.unusedSimpArgs false
set_option linter.defProp false
set_option maxRecDepth 20000
set_option maxHeartbeats 1000000
open Go.Proofs.Try
open List renaming mem_cons_of_mem->γ,mem_singleton->δ,mem_cons->ε,mem_map->ζ,mem_range->η,mem_append->θ,map_cons->κ,map_map->μ,countP_cons->ν,take_of_length_le->ξ,length_singleton->ο,take_length->π,nodup_cons->υ,map_congr_left->χ,set_cons_succ->ω,length_append->Aa,take_add_one->Ab,cons_append->Ac,all_eq_true->Ad
open Nat renaming le_refl->Ae,zero_le->Af
namespace Go.Pd
open Go Go.Proofs
open BitVec renaming isValue -> ZA
section
open Rs Fm Ru
namespace Te
abbrev rT :=Nat × Nat->Bool
section
variable (rs : List xC) (A T : Nat)
def uC : List (Nat × Nat):=mZ T (rs.length*T)
def vG (a:Nat) (x:rT) (p:Nat × Nat):Bool:=(uC rs T).all λq=>!decide (uB rs a q=uB rs a p) || x q
def sE (g:Nat) (x:rT) (p:Nat × Nat):Bool:=(List.range A).all λa=>!g.testBit a || vG rs T a x p
def WW (g:Nat) (p q:Nat × Nat):Bool:=(List.range A).all λa=>!g.testBit a || decide (uB rs a p=uB rs a q)
def yz (g:Nat) (x:rT) (p:Nat × Nat):Bool:=(uC rs T).all λq=>!WW rs A g p q || x q
def XG (g:Nat) (x y now:rT):rT:=sE rs A T g λq=>!x q || (y q&&now q)
def vJ (g:Nat) (x y:rT):Nat->rT
 | 0=>λ_=>true
 | n+1=>XG rs A T g x y (vJ g x y n)
def lD (g:Nat) (x y:rT):rT:=vJ rs A T g x y (rs.length*T)
end
def ea (T:Nat) (s:Int) (k:Nat):Nat:=if 0<s then T-1-k else k
def eH (T:Nat) (s:Int) (x y:rT) (i:Nat):Nat->Bool
 | 0=>false
 | k+1=>y (i,ea T s k) || (x (i,ea T s k)&& eH T s x y i k)
def aA (T:Nat) (s:Int) (x y:rT) (p:Nat × Nat):Bool:=eH T s x y p.1 (if 0<s then T-p.2 else p.2+1)
def fQ (rs:List xC) (n:Nd) (x y:rT) (p:Nat × Nat):Bool:=
 if n.op=1 then true else if n.op=3 then(XM rs p).getLsbD n.i.toNat else if n.op=4 then !x p else if n.op=5 then x p&&y p else if n.op=6 then x p || y p
 else if n.op=7 then !x p || y p else if n.op=8 then x p==y p else false
def wY (rs:List xC) (A T:Nat) (n:Nd) (x y:rT):rT:=
 if n.op=9 then vG rs T n.i.toNat x else if n.op=10 then λp=>!vG rs T n.i.toNat (λq=>!x q) p else if n.op=11 then sE rs A T n.g.toNat x
 else if n.op=12 then yz rs A T n.g.toNat x else if n.op=13 then lD rs A T n.g.toNat x y else if n.op=18 then U5 T 1 x else if n.op=20 then U5 T (-1) x
 else if n.op=19 then aA T 1 x y else if n.op=21 then aA T (-1) x y else fQ rs n x y
def zP (rs:List xC) (A T:Nat) (f:List Nd):Nat->List rT
 | 0=>[]
 | k+1=>zP rs A T f k ++ [wY rs A T (f.getD k nG) ((zP rs A T f k).getD (f.getD k nG).x.toNat λ_=>false) ((zP rs A T f k).getD (f.getD k nG).y.toNat λ_=>false)]
theorem rB (rs:List xC) (A T:Nat) (f:List Nd):∀ k,(zP rs A T f k).length=k
 | 0=>rfl
 | k+1=>by simp [zP,rB rs A T f k]
section
variable {rs : List xC} {A T : Nat}
theorem ba {α:Type} {l:List α} {f g:α->Bool} (h:∀ q ∈ l,f q=g q):l.all f=l.all g:=by
 induction l with
 | nil=>rfl
 | cons a r ih=>rw [List.all_cons,List.all_cons,h a (by simp),ih λq hq=>h q (γ _ hq)]
theorem pq {a:Nat} {x y:rT} {p:Nat × Nat} (h:∀ q ∈ uC rs T,x q=y q):vG rs T a x p=vG rs T a y p:=ba λq hq=>by rw [h q hq]
theorem iG {g:Nat} {x y:rT} {p:Nat × Nat} (h:∀ q ∈ uC rs T,x q=y q):sE rs A T g x p=sE rs A T g y p:=ba λa _=>by rw [pq h]
theorem qb {g:Nat} {x y n m:rT} {p:Nat × Nat} (h:∀ q ∈ uC rs T,n q=m q):XG rs A T g x y n p=XG rs A T g x y m p:=iG λq hq=>by rw [h q hq]
theorem pn {g:Nat} {x y:rT} {p:Nat × Nat} (h:∀ q ∈ uC rs T,x q=true->y q=true) (hp:sE rs A T g x p=true):sE rs A T g y p=true:=by
 unfold sE vG at hp ⊢;simp only [Ad,Bool.or_eq_true] at hp ⊢;intro a ha
 rcases hp a ha with h1 | h1
 ·exact .inl h1
 ·refine .inr λq hq=>?_
  rcases h1 q hq with h2 | h2
  ·exact .inl h2
  ·exact .inr (h q hq h2)
theorem zn (g:Nat) (x y:rT):∀ (n:Nat) (p:Nat × Nat),vJ rs A T g x y (n+1) p=true->vJ rs A T g x y n p=true
 | 0,_,_=>rfl
 | n+1,p,h=>pn (λq _ hq=>by
   simp only [Bool.or_eq_true,Bool.and_eq_true] at hq ⊢
   rcases hq with h1 | ⟨h1,h2⟩
   ·exact .inl h1
   ·exact .inr ⟨h1,zn g x y n q h2⟩) h
theorem zo {g:Nat} {x y:rT} {n:Nat} (h:∀ p ∈ uC rs T,vJ rs A T g x y (n+1) p=vJ rs A T g x y n p):∀ (m:Nat) (p:Nat × Nat),p ∈ uC rs T->vJ rs A T g x y (n+m) p=vJ rs A T g x y n p
 | 0,_,_=>rfl
 | m+1,p,hp=>by rw [<- h p hp];exact qb λq hq=>zo h m q hq
theorem countP_le {α:Type} {f g:α->Bool}:∀ {l:List α},(∀ q ∈ l,f q=true->g q=true)->l.countP f<=l.countP g
 | [],_=>by simp
 | a :: r,h=>by
  have ih:=countP_le (l:=r) λq hq=>h q (γ _ hq);rw [ν,ν];have:=h a (by simp)
  by_cases e:f a=true
  ·rw [if_pos e,if_pos (this e)]; omega
  ·rw [if_neg e]; omega
theorem fC {α:Type} {f g:α->Bool}:∀ {l:List α},(∀ q ∈ l,f q=true->g q=true)->(∃ q ∈ l,f q≠g q)->l.countP f<l.countP g
 | [],_,h=>by obtain⟨q,hq,_⟩:=h; cases hq
 | a :: r,h,⟨q,hq,hne⟩=>by
  have h':∀ q ∈ r,f q=true->g q=true:=λq hq=>h q (γ _ hq);have ih:=countP_le h';rw [ν,ν];have ha:=h a (by simp)
  by_cases e2:f a=g a
  ·have hr:∃ q ∈ r,f q≠g q:=by
    rcases ε.1 hq with e | e
    ·subst e; exact absurd e2 hne
    ·exact⟨q,e,hne⟩
   have:=fC h' hr;rw [e2]; omega
  ·have h1:f a=false:=by cases e3:f a with
    | false=>rfl
    | true=>exact absurd (e3.trans (ha e3).symm) e2
   have h2:g a=true:=by cases e3:g a with
    | true=>rfl
    | false=>exact absurd (h1.trans e3.symm) e2
   rw [h1,h2];simp only [Bool.false_eq_true,if_false,if_true];omega
def tw (rs:List xC) (A T g:Nat) (x y:rT) (n:Nat):Nat:=(uC rs T).countP (vJ rs A T g x y n)
theorem Xr (g:Nat) (x y:rT):tw rs A T g x y 0=rs.length*T:=by unfold tw uC;rw [show vJ rs A T g x y 0=λ_=>true from rfl,List.countP_true,pP]
theorem Xq {g:Nat} {x y:rT} {n:Nat} (h:∃ p ∈ uC rs T,vJ rs A T g x y (n+1) p≠vJ rs A T g x y n p):tw rs A T g x y (n+1)<tw rs A T g x y n:= fC (λq _ hq=>zn g x y n q hq) h
theorem fe {g:Nat} {x y:rT} {n:Nat} (hn:n<=rs.length*T) (h:∀ p ∈ uC rs T,vJ rs A T g x y (n+1) p=vJ rs A T g x y n p) {p:Nat × Nat} (hp:p ∈ uC rs T):vJ rs A T g x y n p=lD rs A T g x y p:=by obtain⟨m,hm⟩:=Nat.exists_eq_add_of_le hn;unfold lD;rw [hm,zo h m p hp]
end
end Te
end
section
open Rs Fm Ru Te
namespace Te
abbrev Pt :=Nat × Nat
def jq (x:Int) (p:Pt):List (Int × List Pt)->List (Int × List Pt)
 | []=>[(x,[p])]
 | (y,l) :: r=>if x=y then(y,l ++ [p]) :: r else(y,l) :: jq x p r
def xv (f:Pt->Int):Nat->List Pt->List (Int × List Pt)
 | 0,_=>[]
 | k+1,l=>jq (f (l.getD k (0,0))) (l.getD k (0,0)) (xv f k l)
structure ON (f : Pt -> Int) (l : List Pt) (G : List (Int × List Pt)) : Prop where
 nd:(G.map (·.1)).Nodup
 eq:∀ e ∈ G,∀ q,q ∈ e.2 ↔ (q ∈ l/\f q=e.1)
 has:∀ q ∈ l,∃ e ∈ G,e.1=f q
 ln:∀ e ∈ G,e.2.length<=l.length
theorem bS (x:Int) (p:Pt):∀ G,(jq x p G).map (·.1)= if x ∈ G.map (·.1) then G.map (·.1) else G.map (·.1)++ [x]
 | []=>by simp [jq]
 | (y,l) :: r=>by
  unfold jq
  by_cases h:x=y
  ·rw [if_pos h]; subst h; simp
  ·rw [if_neg h,κ,bS x p r];simp only [κ,ε,h,false_or];split <;> simp
theorem vx {x:Int} {p:Pt} {e:Int × List Pt}:∀ {G:List (Int × List Pt)},(G.map (·.1)).Nodup->e ∈ jq x p G->(e ∈ G/\e.1≠x)\/(e.1=x/\((∃ l,(x,l)∈ G/\e.2=l ++ [p])\/(x ∉ G.map (·.1)/\ e.2 = [p])))
 | [],_,h=>by simp only [jq,δ] at h;subst h;exact .inr ⟨rfl,.inr ⟨by simp,rfl⟩⟩
 | (y,l) :: r,hn,h=>by
  rw [κ,υ] at hn;unfold jq at h
  by_cases hx:x=y
  ·rw [if_pos hx] at h;subst hx
   rcases ε.1 h with rfl | h
   ·exact .inr ⟨rfl,.inl ⟨l,by simp,rfl⟩⟩
   ·refine .inl ⟨γ _ h,λe1=>hn.1 ?_⟩;rw [ζ]; exact⟨e,h,e1⟩
  ·rw [if_neg hx] at h
   rcases ε.1 h with rfl | h
   ·exact .inl ⟨by simp,λe=>hx e.symm⟩
   ·rcases vx hn.2 h with ⟨h1,h2⟩ | ⟨h1,h2⟩
    ·exact .inl ⟨γ _ h1,h2⟩
    ·refine .inr ⟨h1,?_⟩
     rcases h2 with ⟨l',h2,h3⟩ | ⟨h2,h3⟩
     ·exact .inl ⟨l',γ _ h2,h3⟩
     ·exact .inr ⟨by simp only [κ,ε,not_or]; exact⟨hx,h2⟩,h3⟩
theorem rf {x:Int} {p:Pt} {y:Int} {G:List (Int × List Pt)} (h:y ∈ G.map (·.1)\/y=x):y ∈ (jq x p G).map (·.1):=by
 rw [bS]
 split
 ·rename_i h1
  rcases h with h | rfl
  ·exact h
  ·exact h1
 ·rcases h with h | rfl
  ·exact List.mem_append_left _ h
  ·simp
theorem ON.step {f:Pt->Int} {l:List Pt} {G:List (Int × List Pt)} (h:ON f l G) (p:Pt):ON f (l ++ [p]) (jq (f p) p G) where
 nd:=by
  rw [bS]
  split
  ·exact h.nd
  ·rename_i hx;rw [List.nodup_append];refine⟨h.nd,by simp,λa ha b hb=>?_⟩;rw [δ] at hb;subst hb;intro e; subst e; exact hx ha
 eq :=by
  intro e he q
  rcases vx h.nd he with ⟨h1,h2⟩ | ⟨h1,h2⟩
  ·rw [h.eq e h1 q];simp only [θ,δ]
   constructor
   ·rintro ⟨a,b⟩; exact⟨.inl a,b⟩
   ·rintro ⟨a | rfl,b⟩
    ·exact⟨a,b⟩
    ·exact absurd b.symm h2
  ·rcases h2 with ⟨l',h2,h3⟩ | ⟨h2,h3⟩
   ·rw [h3];have:=h.eq _ h2 q;simp only at this;simp only [θ,δ,this,h1]
    constructor
    ·rintro (⟨a,b⟩ | rfl)
     ·exact⟨.inl a,b⟩
     ·exact⟨.inr rfl,rfl⟩
    ·rintro ⟨a | rfl,b⟩
     ·exact .inl ⟨a,b⟩
     ·exact .inr rfl
   ·rw [h3];simp only [θ,δ,h1]
    constructor
    ·rintro rfl; exact⟨.inr rfl,rfl⟩
    ·rintro ⟨a | rfl,b⟩
     ·obtain⟨e',he',e2⟩:=h.has q a;exact absurd (by rw [ζ]; exact⟨e',he',e2.trans b⟩) h2
     ·rfl
 has:=by
  intro q hq
  have:f q ∈ (jq (f p) p G).map (·.1):=by
   rcases θ.1 hq with hq | hq
   ·obtain⟨e,he,e1⟩:=h.has q hq;exact rf (.inl (by rw [ζ]; exact⟨e,he,e1⟩))
   ·rw [δ] at hq; subst hq; exact rf (.inr rfl)
  rw [ζ] at this;obtain⟨e,he,e1⟩:=this;exact⟨e,he,e1⟩
 ln :=by
  intro e he;rw [Aa,ο]
  rcases vx h.nd he with ⟨h1,h2⟩ | ⟨h1,h2⟩
  ·have:=h.ln e h1; omega
  ·rcases h2 with ⟨l',h2,h3⟩ | ⟨h2,h3⟩
   ·have:=h.ln _ h2;simp only at this;rw [h3,Aa,ο]; omega
   ·rw [h3,ο]; omega
theorem nU (f:Pt->Int) (l:List Pt):∀ k,k<=l.length->ON f (l.take k) (xv f k l)
 | 0,_=>⟨by simp [xv],by simp [xv],by simp,by simp [xv]⟩
 | k+1,h=>by
  have ih:=(nU f l k (by omega)).step (l.getD k (0,0))
  have e:l.take (k+1)= l.take k ++ [l.getD k (0,0)]:=by rw [Ab];congr 1;simp [List.getD,show k<l.length by omega]
  rw [e];exact ih
abbrev EM :=List (Int × Nat × List Pt)
def mE (E:EM):List (Int × D):=E.map λe=>(e.1,.xP e.2.1 2 e.2.2.length)
def gE (E:EM):List (Int × List Pt):=E.map λe=>(e.1,e.2.2)
def mG (G:List (Int × List Pt)):List (Int × D):=G.map λe=>(e.1,.sl 2 (pZ e.2))
def XZ (x:Int):EM->Option (Nat × List Pt)
 | []=>none
 | (y,k,l) :: r=>if x=y then some (k,l) else XZ x r
def jo (x:Int) (n:Nat) (p:Pt):EM->EM
 | []=>[(x,n,[p])]
 | (y,k,l) :: r=>if x=y then(y,n,l ++ [p]) :: r else(y,k,l) :: jo x n p r
theorem Yw (x:Int) (n:Nat) (p:Pt):∀ E,gE (jo x n p E)= jq x p (gE E)
 | []=>rfl
 | (y,k,l) :: r=>by
  show gE (jo x n p ((y,k,l) :: r))= jq x p ((y,l) :: gE r);unfold jo jq
  by_cases h:x=y
  ·rw [if_pos h,if_pos h]; rfl
  ·rw [if_neg h,if_neg h,<- Yw x n p r]; rfl
theorem br (x:Int):∀ E,sZ false .xU (wD x (mE E) 0)= match XZ x E with | none=>.xU | some e=>.xP e.1 2 e.2.length
 | []=>rfl
 | (y,k,l) :: r=>by
  show sZ false _ (wD x ((y,.xP k 2 l.length) :: mE r) 0)= _;unfold wD XZ
  by_cases h:x=y
  ·rw [if_pos h,if_pos h]; rfl
  ·rw [if_neg h,if_neg h,<- br x r,Ru.uP]
   cases wD x (mE r) 0 with
   | none=>rfl
   | some p=>rfl
def ae (x:Int) (E:EM):Nat:=match XZ x E with | none=>0 | some e=>e.2.length
theorem vj (x:Int) (n:Nat) (p:Pt):∀ E,hZ (mE E) x (.xP n 2 (ae x E+1))= mE (jo x n p E)
 | []=>rfl
 | (y,k,l) :: r=>by
  have ih:=vj x n p r;show hZ ((y,.xP k 2 l.length) :: mE r) x _=_;unfold hZ ae at ih ⊢;unfold wD jo XZ
  by_cases h:x=y
  ·subst h; rw [if_pos rfl,if_pos rfl,if_pos rfl]; simp [mE]
  ·rw [if_neg h,if_neg h,if_neg h,Ru.uP]
   cases hf:wD x (mE r) 0 with
   | none=>rw [hf] at ih; simp only [Option.map_none] at ih ⊢; rw [Ac,ih]; rfl
   | some p=>rw [hf] at ih; simp only [Option.map_some] at ih ⊢; rw [ω,ih]; rfl
theorem iY {x:Int} {k:Nat} {l:List Pt}:∀ {E:EM},XZ x E=some (k,l)->(x,k,l)∈ E
 | [],h=>by cases h
 | (y,k',l') :: r,h=>by
  unfold XZ at h
  by_cases e:x=y
  ·rw [if_pos e] at h; cases h; subst e; simp
  ·rw [if_neg e] at h; exact γ _ (iY h)
theorem eQ {x:Int} {n:Nat} {p:Pt} {e:Int × Nat × List Pt}:∀ {E:EM},((gE E).map (·.1)).Nodup->e ∈ jo x n p E->(e ∈ E/\e.1≠x)\/(e.1=x/\e.2.1=n/\e.2.2=(match XZ x E with | none=>[] | some q=>q.2)++ [p])
 | [],_,h=>by simp only [jo,δ] at h;subst h;exact .inr ⟨rfl,rfl,rfl⟩
 | (y,k,l) :: r,hn,h=>by
  have hn':((y :: (gE r).map (·.1))).Nodup:=hn;rw [υ] at hn';unfold jo at h;unfold XZ
  by_cases hx:x=y
  ·rw [if_pos hx] at h ⊢;subst hx
   rcases ε.1 h with rfl | h
   ·exact .inr ⟨rfl,rfl,rfl⟩
   ·refine .inl ⟨γ _ h,λe1=>hn'.1 ?_⟩;simp only [gE,μ,ζ];exact⟨e,h,e1⟩
  ·rw [if_neg hx] at h ⊢
   rcases ε.1 h with rfl | h
   ·exact .inl ⟨by simp,λe=>hx e.symm⟩
   ·rcases eQ hn'.2 h with ⟨h1,h2⟩ | h2
    ·exact .inl ⟨γ _ h1,h2⟩
    ·exact .inr h2
structure MI (km : Nat) (E : EM) (nx : Nat) (objs0 xY : List (Nat × Ob)) : Prop where
 n1:km<nx
 uJ:∀ k,k<km->St.look xY k=St.look objs0 k
 mp:St.look xY km=some ⟨0,tX .i64 (mE E)⟩
 ob:∀ e ∈ E,km<e.2.1/\e.2.1<nx/\St.look xY e.2.1=some ⟨2,pZ e.2.2⟩
 ds:∀ e ∈ E,∀ e' ∈ E,e.2.1=e'.2.1->e.1=e'.1
theorem MI.step {km:Nat} {E:EM} {nx nx' n:Nat} {objs0 xY objs':List (Nat × Ob)} (h:MI km E nx objs0 xY) (hnd:((gE E).map (·.1)).Nodup) {x:Int} {p:Pt} (hn:nx<=n/\n<nx')
  (hs:∀ k,k<nx->k≠km->(∀ q,XZ x E=some q->k≠q.1)->St.look objs' k=St.look xY k) (hm:St.look objs' km=some ⟨0,tX .i64 (mE (jo x n p E))⟩)
  (ho:St.look objs' n=some ⟨2,pZ ((match XZ x E with | none=>[] | some q=>q.2)++ [p])⟩):MI km (jo x n p E) nx' objs0 objs':=by
 have n1:=h.n1
 refine⟨by omega,λk hk=>?_,hm,λe he=>?_,λe he e' he' hee=>?_⟩
 ·rw [hs k (by omega) (by omega) λq hq=>?_,h.uJ k hk];have:=(h.ob _ (iY hq)).1;simp only at this;omega
 ·rcases eQ hnd he with ⟨h1,h2⟩ | ⟨h1,h2,h3⟩
  ·obtain⟨a,b,c⟩:=h.ob e h1;refine⟨a,by omega,?_⟩
   rw [hs _ b (by omega) λq hq hh=>?_]
   ·exact c
   ·exact h2 (h.ds e h1 _ (iY hq) hh)
  ·rw [h2,h3]; exact⟨by omega,hn.2,ho⟩
 ·rcases eQ hnd he with ⟨h1,h2⟩ | ⟨h1,h2,h3⟩ <;> rcases eQ hnd he' with ⟨k1,k2⟩ | ⟨k1,k2,k3⟩
  ·exact h.ds e h1 e' k1 hee
  ·have:=(h.ob e h1).2.1; omega
  ·have:=(h.ob e' k1).2.1; omega
  ·rw [h1,k1]
def TL (rs:List xC) (A F T:Nat) (a:Nat):Ob:=⟨6,[[.int .i64 (A:Int),.int .i64 (F:Int),.int .i64 (T:Int),.sl 2 (uR rs),.sl 2 (pZ (uC rs T)),yH 2 1 ((List.range a).map λi=>[.xG (3+i)])]]⟩
def pT (rs:List xC) (T:Nat) (i:Nat):List (Int × List Pt):=xv (uB rs i) (uC rs T).length (uC rs T)
def dY (rs:List xC) (T:Nat) (i:Nat):Nat × Ob:=(3+i,⟨0,tX .i64 (mG (pT rs T i))⟩)
def pF (rs:List xC) (A F T:Nat) (a:Nat):List (Nat × Ob):=(0,⟨4,[[.int .i64 (A:Int),.int .i64 (F:Int),.int .i64 (T:Int),.sl 2 (uR rs)]]⟩) :: (1,TL rs A F T a) :: (yD 2 1 ((List.range a).map λi=>[.xG (3+i)])++ (List.range a).map (dY rs T))
theorem yf {rs:List xC} {T:Nat}:∀ {l:List Nat} {i:Nat},i ∈ l->St.look (l.map (dY rs T)) (3+i)= some ⟨0,tX .i64 (mG (pT rs T i))⟩
 | [],i,h=>by cases h
 | j :: l,i,h=>by
  rw [κ];unfold dY;rw [xX]
  by_cases e:j=i
  ·subst e; rw [if_pos rfl]
  ·rw [if_neg (by omega)]
   rcases ε.1 h with h | h
   ·exact absurd h.symm e
   ·exact yf h
theorem lS {rs:List xC} {T:Nat} {k:Nat}:∀ {l:List Nat},(∀ i ∈ l,3+i≠k)->St.look (l.map (dY rs T)) k=none
 | [],h=>rfl
 | j :: l,h=>by rw [κ];unfold dY;rw [xX,if_neg (h j (by simp))];exact lS λi hi=>h i (γ _ hi)
theorem bB {rs:List xC} {A F T a i:Nat} (h:i<a):St.look (pF rs A F T a) (3+i)= some ⟨0,tX .i64 (mG (pT rs T i))⟩:=by unfold pF;rw [xX,if_neg (by omega),xX,if_neg (by omega),zM,if_neg (by omega)];exact yf (η.2 h)
theorem fX {rs:List xC} {A F T a:Nat}:St.look (pF rs A F T a) 2=vF 1 ((List.range a).map λi=>[.xG (3+i)]):=by unfold pF;rw [xX,if_neg (by omega),xX,if_neg (by omega),zM,if_pos rfl,lS (λi _=>by omega)];exact Option.or_none
end Te
end
section
open Rs Fm Ru Te
namespace Te
theorem vc {n k s:Nat} {xZ:List (List D)} (h:k<n):D.under n (yH k s xZ):=by cases xZ <;> simp [yH,D.under,h]
theorem nM {rs:List xC} {A F T a:Nat}:∀ p ∈ pF rs A F T a,p.1<3+a/\St.look (pF rs A F T a) p.1=some p.2/\∀ e ∈ p.2.xZ,D.wE (3+a) e:=by
 intro p hp;unfold pF at hp
 rcases ε.1 hp with rfl | hp
 ·refine⟨by show 0<3+a; omega,rfl,λe he=>?_⟩;simp only [δ] at he;subst he;simp [D.wE,D.under]
 rcases ε.1 hp with rfl | hp
 ·refine⟨by show 1<3+a; omega,rfl,λe he=>?_⟩;simp only [TL,δ] at he;subst he;simp only [D.wE,D.under,true_and,and_true];exact vc (by omega)
 rcases θ.1 hp with hp | hp
 ·have hk:p=(2,⟨1,(List.range a).map λi=>[.xG (3+i)]⟩):=by revert hp;generalize ((List.range a).map λi=>[D.xG (3+i)])= xZ;cases xZ <;> simp [yD]
  have hg:vF 1 ((List.range a).map λi=>[D.xG (3+i)])= some p.2:=by rw [hk];revert hp;rw [hk];generalize ((List.range a).map λi=>[D.xG (3+i)])= xZ;cases xZ <;> simp [yD,vF]
  rw [<- hg,hk];refine⟨by show 2<3+a; omega,fX,λe he=>?_⟩;simp only [ζ,η] at he;obtain⟨i,hi,rfl⟩:=he;simp only [D.wE,D.under,and_true]; omega
 ·simp only [ζ,η] at hp;obtain⟨i,hi,rfl⟩:=hp;refine⟨by show 3+i<3+a; omega,bB hi,λe he=>?_⟩;simp only [dY,tX,mG,μ,ζ] at he;obtain⟨g,_,rfl⟩:=he;simp [D.wE,D.under]
end Te
theorem gm {rs:List xC} {A F T:Nat} (hz:kQ ⟨A,F,T,rs⟩= 0) (ok:iE rs A F T):xW prog 39 [sD A F T rs] tQ (.ref 1 6 0 0) ⟨3+A,pF rs A F T A⟩:=by
 obtain⟨T1,T16⟩:=ok.hT;obtain⟨R1,R64⟩:=ok.hR;have hA4:=ok.hA;have hRT:=ok.hP;have hP:=We ⟨A,F,T,rs⟩;have ep:ji ⟨A,F,T,rs⟩= uC rs T:=by unfold ji; rw [if_neg (by simpa using hz)]; rfl
 rw [ep] at hP;have hD:vI.d ⟨A,F,T,rs⟩= .agg [.int .i64 (A:Int),.int .i64 (F:Int),.int .i64 (T:Int),.sl 2 (uR rs)]:=rfl;rw [hD] at hP;unfold sD;refine zJ func39 MT λhf=>?_;refine nA ?_;refine .go (cq hP) ?_;refine nA ?_
 refine zC (λa:Nat=>[(16,.int .i64 a),(15,.int .i64 A),(3,.ref 1 6 0 0),(1,.ref 0 4 0 0)]) (λa=>⟨3+a,pF rs A F T a⟩) (λa=>a<=A) (λa=>A-a) 0 (Af _) ?_ ?_
 ·(refine RM [] [0,1] ?_; simp only [eA,zQ,simprocAttr,-ZA,exists_eq_left',ne_eq,zR,pF,TL,List.range_zero,List.map_nil,gC,gD,List.nil_append])
 intro a ha;refine wZ mixed ?_;have l0:St.look (pF rs A F T a) 0=some ⟨4,[[.int .i64 (A:Int),.int .i64 (F:Int),.int .i64 (T:Int),.sl 2 (uR rs)]]⟩:=rfl;have l1:St.look (pF rs A F T a) 1=some ⟨6,[[.int .i64 (A:Int),.int .i64 (F:Int),.int .i64 (T:Int),.sl 2 (uR rs),.sl 2 (pZ (uC rs T)),yH 2 1 ((List.range a).map λi=>[.xG (3+i)])]]⟩:=rfl;by_cases hal:a<A
 case neg=>
  have hd:¬ ((a:Int)<(A:Int)):=by omega
  obtain rfl:a=A:=by omega
  refine yF hd ?_;exact .same
 have hd:((a:Int)<(A:Int)):=by omega
 have y1:¬ 3+a=1:=by omega
 have hin:Ri rs T (uC rs T):=gU T1 (Ae _);have hln:(uC rs T).length=rs.length*T:=pP _ _;have hlr:=nM (rs:=rs) (A:=A) (F:=F) (T:=T) (a:=a);refine RT hd l0 l1 y1 ?_
 refine uI (λb:Nat × Nat × List (Nat × Ob)=>[(25,.int .i64 b.1),(24,.int .i64 (uC rs T).length),(23,.sl 2 (pZ (uC rs T))),(16,.int .i64 a),(15,.int .i64 A),(5,.xG (3+a)),(4,.int .i64 a),(3,.ref 1 6 0 0),(1,.ref 0 4 0 0)])
  (λb=>⟨b.2.1,b.2.2⟩) (λb=>b.1<=(uC rs T).length/\∃ E,MI (3+a) E b.2.1 (pF rs A F T a) b.2.2/\gE E=xv (uB rs a) b.1 (uC rs T)) (λb=>(uC rs T).length-b.1) (0,3+a+1,(3+a,⟨0,[]⟩) :: pF rs A F T a) ⟨Af _,[],⟨by simp only; omega,λk hk=>?_,?_,by simp,by simp⟩,rfl⟩ ?_ ?_
 ·show St.look (_ :: _) k=_;rw [xX,if_neg (by omega)]
 ·show St.look (_ :: _) _=_;rw [xX,if_pos rfl]; rfl
 ·(refine yV.same ?_; simp [zL,Fr.get,wJ])
 intro ⟨w,nx,xY⟩ ⟨hw,E,hM,hg⟩;simp only at hw hM hg ⊢;refine wZ mixed ?_;have n1:=hM.n1;have l0':St.look xY 0=_:=(hM.uJ 0 (by omega)).trans l0;have l1':St.look xY 1=_:=(hM.uJ 1 (by omega)).trans l1;have lm:=hM.mp;by_cases hwl:w<(uC rs T).length
 case neg=>
  have hd2:¬ ((w:Int)<((uC rs T).length:Int)):=by omega
  obtain rfl:w=(uC rs T).length:=by omega
  refine yF hd2 ?_
  refine .go [(16,.int .i64 a),(15,.int .i64 A),(5,.xG (3+a)),(3,.ref 1 6 0 0),(1,.ref 0 4 0 0)] ⟨3+(a+1),(3+a,⟨0,tX .i64 (mG (pT rs T a))⟩) :: pF rs A F T a⟩ (yV.view (λk=>k) (Af _) (λ_ _=>rfl) ?_ ?_ (λp _ q _ e=>e)) ?_
  ·simp only [uk,vw,Fr.get,reduceIte,Nat.reduceEqDiff,and_true,true_and];omega
  ·intro p hp
   rcases ε.1 hp with rfl | hp
   ·refine⟨by show 3+a<3+(a+1); omega,_,lm,rfl,?_⟩;have:gE E=pT rs T a:=hg;rw [<- this];unfold tX mE mG gE;rw [μ,μ,μ];refine lP λe he=>⟨rfl,?_⟩;obtain⟨b1,b2,b3⟩:=hM.ob e he;simp only [Function.comp,rN,vw,true_and,and_true];refine⟨by decide,λq hq=>?_,_,b3,rfl,by rw [wJ]; exact Ae _,by rw [ξ (by rw [wJ]; exact Ae _)],bL _⟩
    rcases ε.1 hq with rfl | hq
    ·show 3+a≠e.2.1; omega
    ·have:=(hlr q hq).1; omega
   ·obtain⟨u1,u2,u3⟩:=hlr p hp;exact⟨by show p.1<3+(a+1); omega,p.2,(hM.uJ p.1 (by omega)).trans u2,rfl,mM λe he=>tW (by show 3+a<=3+(a+1); omega) (u3 e he)⟩
  have ls:=fX (rs:=rs) (A:=A) (F:=F) (T:=T) (a:=a);have w1:¬ 3+a=1:=by omega
  have w2:¬ 3+a=2:=by omega
  have w3:¬ 3+(a+1)= 1:=by omega
  have w4:¬ 3+(a+1)= 2:=by omega
  have hL:((List.range a).map λi=>[D.xG (3+i)]).length=a:=by simp
  have hLs:((List.range a).map λi=>[D.xG (3+i)])++ [[D.xG (3+a)]]=(List.range (a+1)).map λi=>[D.xG (3+i)]:=by rw [List.range_succ,List.map_append]; rfl
  have le1:St.look (zI (pF rs A F T a) 2) 1=St.look (pF rs A F T a) 1:=by rw [yO,if_neg (by omega)]
  rw [l1] at le1;have w5:¬ 3+(a+1)+ 1=1:=by omega
  refine Qa l1 ls w1 w2 w3 w4 w5 hL hLs le1 ?_
  refine⟨a+1,by omega,yV.view (λk=>if k=2 then 3+(a+1)+ 1 else k) (Af _) (λk hk=>absurd hk (Nat.not_lt_zero _)) ?_ ?_ ?_,by omega⟩
  ·simp only [uk,vw,Fr.get,reduceIte,Nat.reduceEqDiff,and_true,true_and,D.int.injEq];exact⟨yB (by omega),by omega,by omega⟩
  ·have hLn:((List.range (a+1)).map λi=>[D.xG (3+i)])≠ []:=by simp
   intro p hp;have hpu:=nM (rs:=rs) (A:=A) (F:=F) (T:=T) (a:=a+1) p hp;unfold pF at hp
   rcases ε.1 hp with rfl | hp
   ·refine⟨by show 0<3+(a+1); omega,⟨4,[[.int .i64 (A:Int),.int .i64 (F:Int),.int .i64 (T:Int),.sl 2 (uR rs)]]⟩,?_,rfl,.same (by simp [D.xJ,D.xH])⟩;show St.look _ 0=_;rw [zM,if_neg (by omega),xX,if_neg (by omega),xX,if_neg (by omega),xT,if_neg (by omega),yO,if_neg (by omega)]; exact l0
   rcases ε.1 hp with rfl | hp
   ·refine⟨by show 1<3+(a+1); omega,⟨6,[[.int .i64 (A:Int),.int .i64 (F:Int),.int .i64 (T:Int),.sl 2 (uR rs),.sl 2 (pZ (uC rs T)),yH (3+(a+1)+ 1) 1 ((List.range (a+1)).map λi=>[D.xG (3+i)])]]⟩,?_,rfl,.cons rfl ?_ .nil⟩
    ·show St.look _ 1=_;rw [zM,if_neg (by omega),xX,if_neg (by omega),xX,if_neg (by omega),xT,if_pos rfl,le1]; rfl
    ·simp only [rN,vw,and_true,true_and,cv,reduceIte];exact .inr (by omega)
   rcases θ.1 hp with hp | hp
   ·rw [Z0 hLn,δ] at hp;subst hp
    refine⟨by show 2<3+(a+1); omega,⟨1,(List.range (a+1)).map λi=>[.xG (3+i)]⟩,?_,rfl,lP λi hi=>⟨rfl,?_⟩⟩
    ·show St.look _ (if 2=2 then _ else _)= _;rw [if_pos rfl,zM,if_pos rfl,bE hLn]; rfl
    ·have:=η.1 hi;simp only [rN,vw,and_true];exact⟨by omega,by rw [if_neg (by omega)]⟩
   ·simp only [ζ,η] at hp;obtain⟨i,hi,rfl⟩:=hp;refine⟨hpu.1,_,?_,rfl,.same λe he=>?_⟩
    rotate_left
    ·simp only [dY,tX,mG,μ,ζ] at he;obtain⟨g,_,rfl⟩:=he;rfl
    show St.look _ (if 3+i=2 then _ else 3+i)= _;rw [if_neg (by omega),zM,if_neg (by omega),xX,if_neg (by omega),xX]
    by_cases e:i=a
    ·subst e; rw [if_pos rfl]; rfl
    ·rw [if_neg (by omega),xT,if_neg (by omega),yO,if_neg (by omega),bB (by omega)]; rfl
  ·intro p hp q hq e;have h1:=(nM p hp).1;have h2:=(nM q hq).1;simp only at e;split at e <;> split at e <;> omega
 have hd2:((w:Int)<((uC rs T).length:Int)):=by omega
 have hp:=hin _ (zH (d:=(0,0)) hwl);have hpg:=lN (uC rs T) hwl;have hgo:=(nU (uB rs a) (uC rs T) w hw).nd;have hgl:=(nU (uB rs a) (uC rs T) w hw).ln;rw [<- hg] at hgl;rw [<- hg] at hgo;have hgn:xv (uB rs a) (w+1) (uC rs T)= jq (uB rs a ((uC rs T).getD w (0,0))) ((uC rs T).getD w (0,0)) (gE E):=by rw [hg]; rfl
 generalize (uC rs T).getD w (0,0)= p at hp hpg hgn;have hm:=zH (d:=pV) hp.1;have hgr:=oN rs hp.1;have h1:=ok.loc _ hm;have h2:=ok.row _ hm _ (zH (d:=[]) (show p.2<(rs.getD p.1 pV).loc.length by omega));have hx:((rs.getD p.1 pV).loc.getD p.2 []).getD a 0=uB rs a p:=rfl;generalize rs.getD p.1 pV=r at hgr h1 h2 hx;have hg2:=wu r.loc (show p.2<r.loc.length by omega);generalize r.loc.getD p.2 []=x at hg2 h2 hx;have hg3:=bP .i64 x (show a<x.length by omega);rw [hx] at hg3;have z0:¬ nx=0:=by omega
 have zm:¬ nx=3+a:=by omega
 generalize uB rs a p=v at hg3 hgn;have hmr:=br v E
 cases hk:XZ v E with
 | none=>
  rw [hk] at hmr;simp only at hmr
  have hap:hZ (mE E) v (.xP (nx+1) 2 1)= mE (jo v (nx+1) p E):=by have:=vj v (nx+1) p E;rw [show ae v E=0 by unfold ae; rw [hk]] at this;exact this
  have zm1:¬ nx+1=3+a:=by omega
  simp only [simprocAttr,-ZA,↓zU,↓zD,zV,zT,zW,hd2,wJ,hpg,zB,hgr,xC.row,pB,hg2,oM,hg3,l0',lm,z0,zm,zm1,hmr,hap]
  (repeat refine sd ?_)
  refine⟨(w+1,?zna,?zoa),⟨by show w+1<=_; omega,jo v (nx+1) p E,?ze1,?ze3⟩,?ze2,by show (uC rs T).length-(w+1)<(uC rs T).length-w; omega⟩
  case ze2=>
   (refine yV.same ?_; simp only [zL,Fr.get,simprocAttr,-ZA,zS])
   exact yB (by omega)
  case ze3=>rw [Yw,hgn]
  case ze1=>
   refine hM.step hgo (n:=nx+1) ⟨by omega,Nat.lt_succ_self _⟩ (λk h1 h2 h3=>?_) ?_ ?_
   ·show St.look (_ :: _ :: _) k=_;rw [xX,if_neg (by omega),xX,if_neg (by omega),xT,if_neg (by omega)]
   ·show St.look (_ :: _ :: _) _=_;rw [xX,if_neg (by omega),xX,if_neg (by omega),xT,if_pos rfl,lm]; rfl
   ·show St.look (_ :: _ :: _) _=_;rw [xX,if_pos rfl,hk]; rfl
 | some q=>
  obtain⟨kq,lq⟩:=q;rw [hk] at hmr;simp only at hmr;obtain⟨q1,q2,q3⟩:=hM.ob _ (iY hk);simp only at q1 q2 q3;have zq:¬ nx=kq:=by omega
  have hap:hZ (mE E) v (.xP (nx+1) 2 (lq.length+1))= mE (jo v (nx+1) p E):=by have:=vj v (nx+1) p E;rw [show ae v E=lq.length by unfold ae; rw [hk]] at this;exact this
  have zm1:¬ nx+1=3+a:=by omega
  have zq1:¬ kq=3+a:=by omega
  have htk:(pZ lq).take lq.length=pZ lq:=ξ (by rw [wJ]; omega)
  have hbl:lq.length<=512:=by have:=hgl (v,lq) (by simp only [gE,ζ]; exact⟨_,iY hk,rfl⟩);simp only [List.length_take] at this;omega
  have hle:St.look (zI xY kq) (3+a)= some ⟨0,tX .i64 (mE E)⟩:=by rw [yO,if_neg zq1]; exact lm
  simp only [simprocAttr,-ZA,↓zU,↓zD,zV,zT,zW,hd2,wJ,hpg,zB,hgr,xC.row,pB,hg2,oM,hg3,l0',lm,z0,zm,zm1,zq,zq1,hmr,q3,hap,htk,hle]
  (repeat refine sd ?_)
  refine⟨(w+1,?znb,?zob),⟨by show w+1<=_; omega,jo v (nx+1) p E,?zf1,?zf3⟩,?zf2,by show (uC rs T).length-(w+1)<(uC rs T).length-w; omega⟩
  case zf2=>
   (refine yV.same ?_; simp only [zL,Fr.get,simprocAttr,-ZA,zS])
   exact yB (by omega)
  case zf3=>rw [Yw,hgn]
  case zf1=>
   refine hM.step hgo (n:=nx+1) ⟨by omega,Nat.lt_succ_self _⟩ (λk h1 h2 h3=>?_) ?_ ?_
   ·have h3':=h3 _ hk;simp only at h3';show St.look (_ :: _ :: _) k=_;rw [xX,if_neg (by omega),xX,if_neg (by omega),xT,if_neg (by omega),yO,if_neg (by omega)]
   ·show St.look (_ :: _ :: _) _=_;rw [xX,if_neg (by omega),xX,if_neg (by omega),xT,if_pos rfl,hle]; rfl
   ·show St.look (_ :: _ :: _) _=_;rw [xX,if_pos rfl,hk];simp only [pZ,List.map_append,κ,List.map_nil]
end
section
open Rs Fm Ru Te
namespace Te
def mB (u:List (Int × Bool)):List (Int × D):=u.map λp=>(p.1,.bool p.2)
def nC (x:Int):List (Int × Bool)->Bool
 | []=>false
 | (k,v) :: r=>if x=k then v else nC x r
def uc (x:Int) (v:Bool):List (Int × Bool)->List (Int × Bool)
 | []=>[(x,v)]
 | (k,w) :: r=>if x=k then(x,v) :: r else(k,w) :: uc x v r
theorem bf (x y:Int) (v:Bool):∀ u,nC y (uc x v u)= if y=x then v else nC y u
 | []=>by simp [uc,nC]
 | (k,w) :: r=>by
  unfold uc
  by_cases h:x=k
  ·rw [if_pos h];subst h
   by_cases e:y=x
   ·simp [nC,e]
   ·simp [nC,e]
  ·rw [if_neg h,nC,bf x y v r]
   by_cases e:y=k
   ·subst e;rw [if_pos rfl,if_neg (λe=>h e.symm)];simp [nC]
   ·rw [if_neg e];simp [nC,e]
theorem bq (x:Int):∀ u,sZ false (.bool false) (wD x (mB u) 0)= .bool (nC x u)
 | []=>rfl
 | (k,v) :: r=>by
  show sZ false _ (wD x ((k,.bool v) :: mB r) 0)= _;unfold wD nC
  by_cases h:x=k
  ·rw [if_pos h,if_pos h]; rfl
  ·rw [if_neg h,if_neg h,<- bq x r,Ru.uP]
   cases wD x (mB r) 0 with
   | none=>rfl
   | some p=>rfl
theorem bb (x:Int) (v:Bool):∀ u,hZ (mB u) x (.bool v)= mB (uc x v u)
 | []=>rfl
 | (k,w) :: r=>by
  have ih:=bb x v r;show hZ ((k,.bool w) :: mB r) x _=_;unfold hZ at ih ⊢;unfold wD uc
  by_cases h:x=k
  ·rw [if_pos h,if_pos h]; rfl
  ·rw [if_neg h,if_neg h,Ru.uP]
   cases hf:wD x (mB r) 0 with
   | none=>rw [hf] at ih; simp only [Option.map_none] at ih ⊢; rw [Ac,ih]; rfl
   | some p=>rw [hf] at ih; simp only [Option.map_some] at ih ⊢; rw [ω,ih]; rfl
theorem jW {R T:Nat} {φ ψ:Nat × Nat->Bool} (h:∀ i t,i<R->t<T->φ (i,t)= ψ (i,t)):xD R T φ=xD R T ψ:=by unfold xD;refine χ λi hi=>?_;congr 3;exact χ λt ht=>h i t (η.1 hi) (η.1 ht)
theorem vo {rs:List xC} {T:Nat} (hT:1<=T) {i t:Nat} (hi:i<rs.length) (ht:t<T):(i,t)∈ uC rs T:=by
 unfold uC mZ;rw [ζ]
 refine⟨i*T+t,η.2 ?_,?_⟩
 ·have:=Nat.mul_le_mul_right T (show i+1<=rs.length from hi);rw [Nat.succ_mul] at this;omega
 ·have e1:(i*T+t)/ T=i:=by rw [Nat.mul_comm,Nat.mul_add_div (by omega),Nat.div_eq_of_lt ht]; rfl
  have e2:(i*T+t) % T=t:=by rw [Nat.mul_comm,Nat.mul_add_mod,Nat.mod_eq_of_lt ht]
  rw [e1,e2]
theorem Sb {rs:List xC} {T:Nat} (hT:1<=T) {p:Nat × Nat} (h:p ∈ uC rs T):p.1<rs.length/\p.2<T:=gU hT (Ae _) p h
structure tF (rs : List xC) (A F T kc ks : Nat) (km : Nat -> Nat) (xY : List (Nat × Ob)) : Prop where
 c:St.look xY kc=some ⟨6,[[.int .i64 (A:Int),.int .i64 (F:Int),.int .i64 (T:Int),.sl 2 (uR rs),.sl 2 (pZ (mZ T (rs.length*T))),yH ks 1 ((List.range A).map λi=>[.xG (km i)])]]⟩
 s:0<A->St.look xY ks=some ⟨1,(List.range A).map λi=>[.xG (km i)]⟩
 m:∀ i,i<A->St.look xY (km i)= some ⟨0,tX .i64 (mG (pT rs T i))⟩
theorem tF.mono {rs:List xC} {A F T kc ks:Nat} {km:Nat->Nat} {xY objs':List (Nat × Ob)} (h:tF rs A F T kc ks km xY) (hk:∀ k o,St.look xY k=some o->St.look objs' k=some o):tF rs A F T kc ks km objs':=⟨hk _ _ h.c,λa=>hk _ _ (h.s a),λi hi=>hk _ _ (h.m i hi)⟩
theorem tF.start {rs:List xC} {A F T:Nat}:tF rs A F T 1 2 (λi=>3+i) (pF rs A F T A):=⟨rfl,λh=>by rw [fX]; exact bE (by simp; omega),λi hi=>bB hi⟩
end Te
theorem Uc {nx k7 kk k3 k4 kc:Nat} {xY:List (Nat × Ob)} {rs:List xC} {A F T a:Nat} {pts:List (Nat × Nat)} {same:D} {u:List (Int × Bool)} (ok:iE rs A F T) (ha:a<A)
  (h7:St.look xY k7=some ⟨1,[[.xG kk]]⟩) (hk:St.look xY kk=some ⟨0,tX .i64 (mB u)⟩) (h3:St.look xY k3=some ⟨1,[[.ref kc 6 0 0]]⟩) (h4:St.look xY k4=some ⟨1,[[.int .i64 (a:Int)]]⟩)
  (hc:St.look xY kc=some ⟨6,[[.int .i64 (A:Int),.int .i64 (F:Int),.int .i64 (T:Int),.sl 2 (uR rs),.sl 2 (pZ pts),same]]⟩) {i t:Nat} (hi:i<rs.length) (ht:t<T) :
  xW prog 122 ([.agg [.int .i64 (i:Int),.int .i64 (t:Int)]] ++ [.ref k7 1 0 0,.ref k3 1 0 0,.ref k4 1 0 0]) ⟨nx,xY⟩ (.bool (nC (uB rs a (i,t)) u)) ⟨nx,xY⟩:=by
 obtain⟨T1,T16⟩:=ok.hT;refine xW.wV ⟨_,func122,by kernel_rfl,by kernel_rfl⟩ λhu=>xW.clean ?_;have y7:¬ nx=k7:=by have:=(hu k7 _ h7).1; simp only at this; omega
 have yk:¬ nx=kk:=by have:=(hu kk _ hk).1; simp only at this; omega
 have y3:¬ nx=k3:=by have:=(hu k3 _ h3).1; simp only at this; omega
 have y4:¬ nx=k4:=by have:=(hu k4 _ h4).1; simp only at this; omega
 have yc:¬ nx=kc:=by have:=(hu kc _ hc).1; simp only at this; omega
 have hkeep:∀ (ob:Ob) k o,St.look xY k=some o->St.get ⟨nx+1,(nx,ob) :: xY⟩ k=some o:=λob k o hk=>by have:=(hu k o hk).1;simp only at this;show St.look (_ :: _) k=_;rw [xX,if_neg (by omega)]; exact hk
 have hm:=zH (d:=pV) hi;have hgr:=oN rs hi;have h1:=ok.loc _ hm;have h2:=ok.row _ hm _ (zH (d:=[]) (show t<(rs.getD i pV).loc.length by omega));have hx:((rs.getD i pV).loc.getD t []).getD a 0=uB rs a (i,t):=rfl;generalize rs.getD i pV=r at hgr h1 h2 hx;have hg2:=wu r.loc (show t<r.loc.length by omega);generalize r.loc.getD t []=x at hg2 h2 hx;have hg3:=bP .i64 x (show a<x.length by omega);rw [hx] at hg3;generalize uB rs a (i,t)= v at hg3;have hmr:=bq v u;refine zJ func122 RA λhf=>?_;simp only [simprocAttr,-ZA,↓zU,↓zD,zV,zT,zW,h7,hk,h3,h4,hc,y7,yk,y3,y4,yc,zB,hgr,xC.row,pB,hg2,oM,hg3,hmr]
 (repeat refine sd ?_)
 exact .gone hu (hkeep _) (by simp only [vw])
end
section
open Rs Fm Ru Te
namespace Te
def Rj (φ:Nat × Nat->Bool) (G:List (Int × List (Nat × Nat))) (seen:List Nat) (u:List (Int × Bool)):Prop:=∀ i ∈ seen,nC (G.getD i (0,[])).1 u=(G.getD i (0,[])).2.all φ
theorem ZW {G:List (Int × List (Nat × Nat))} (h:(G.map (·.1)).Nodup) {i j:Nat} (hi:i<G.length) (hj:j<G.length) (e:(G.getD i (0,[])).1=(G.getD j (0,[])).1):i=j:=by
 have h1:(G.map (·.1))[i]'(by simpa using hi)= (G.map (·.1))[j]'(by simpa using hj):=by simp only [List.getElem_map];simpa [List.getD,hi,hj] using e
 exact(List.getElem_inj h).1 h1
theorem Rj.step {φ:Nat × Nat->Bool} {G:List (Int × List (Nat × Nat))} {seen:List Nat} {u:List (Int × Bool)} (h:Rj φ G seen u) (hn:(G.map (·.1)).Nodup) (hs:∀ j ∈ seen,j<G.length) {i:Nat} (hi:i<G.length) (hni:i ∉ seen) :
  Rj φ G (seen ++ [i]) (uc (G.getD i (0,[])).1 ((G.getD i (0,[])).2.all φ) u):=by
 intro j hj;rw [bf]
 rcases θ.1 hj with hj | hj
 ·rw [if_neg λe=>hni (by rw [<- ZW hn (hs j hj) hi e]; exact hj)];exact h j hj
 ·rw [δ] at hj;subst hj;rw [if_pos rfl]
theorem Rj.Nw {φ:Nat × Nat->Bool} {rs:List xC} {T a:Nat} {seen:List Nat} {u:List (Int × Bool)} (h:Rj φ (pT rs T a) seen u) (hall:∀ i,i<(pT rs T a).length->i ∈ seen) {p:Nat × Nat} (hp:p ∈ uC rs T) :
  nC (uB rs a p) u=vG rs T a φ p:=by
 have hg:=nU (uB rs a) (uC rs T) (uC rs T).length (Ae _);rw [π] at hg;obtain⟨e,he,e1⟩:=hg.has p hp;obtain⟨i,hi,rfl⟩:=List.getElem_of_mem he;have h2:=h i (hall i hi)
 have h3:(pT rs T a).getD i (0,[])= (xv (uB rs a) (uC rs T).length (uC rs T))[i]:=by show (xv (uB rs a) (uC rs T).length (uC rs T)).getD i (0,[])= _;simp [List.getD,hi]
 rw [h3,e1] at h2;rw [h2,Bool.eq_iff_iff];unfold vG;simp only [Ad,Bool.or_eq_true,Bool.not_eq_true',decide_eq_false_iff_not]
 constructor
 ·intro h q hq
  by_cases e:uB rs a q=uB rs a p
  ·exact .inr (h q ((hg.eq _ he q).2 ⟨hq,by rw [e1]; exact e⟩))
  ·exact .inl e
 ·intro h q hq;obtain⟨h4,h5⟩:=(hg.eq _ he q).1 hq
  rcases h q h4 with h6 | h6
  ·exact absurd (h5.trans e1) h6
  ·exact h6
theorem ZL {kk:IntKind} {l:List (Int × D)} {i:Nat} (h:i<l.length):(tX kk l).getD i [] = [.int kk (l.getD i (0,.top)).1,(l.getD i (0,.top)).2]:=by simp [tX,List.getD,h]
theorem SS {G:List (Int × List (Nat × Nat))} {i:Nat} (h:i<G.length):(mG G).getD i (0,.top)= ((G.getD i (0,[])).1,.sl 2 (pZ (G.getD i (0,[])).2)):=by simp [mG,List.getD,h]
theorem iy (G:List (Int × List (Nat × Nat))):(mG G).length=G.length:=by simp [mG]
theorem UW {rs:List xC} {T a i:Nat} (h:i<(pT rs T a).length):∀ q ∈ ((pT rs T a).getD i (0,[])).2,q ∈ uC rs T:=by have hg:=nU (uB rs a) (uC rs T) (uC rs T).length (Ae _);rw [π] at hg;have hm:(pT rs T a).getD i (0,[])∈ pT rs T a:=zH h;exact λq hq=>((hg.eq _ hm q).1 hq).1
theorem Z1 {rs:List xC} {T a i:Nat} (h:i<(pT rs T a).length):((pT rs T a).getD i (0,[])).2.length<=rs.length*T:=by have hg:=nU (uB rs a) (uC rs T) (uC rs T).length (Ae _);rw [π] at hg;have hm:(pT rs T a).getD i (0,[])∈ pT rs T a:=zH h;have:=hg.ln _ hm;rw [show (uC rs T).length=rs.length*T from pP _ _] at this;exact this
theorem UZ (rs:List xC) (T a:Nat):((pT rs T a).map (·.1)).Nodup:=(nU (uB rs a) (uC rs T) (uC rs T).length (Ae _)).nd
theorem Rx {n:Nat} {l:List Nat} (hd:l.Nodup) (h:∀ x ∈ l,x<n) (hl:l.length=n):∀ i,i<n->i ∈ l:=λi hi=>by
 refine Classical.byContradiction λhno=>?_
 have:=pL n (i :: l) (υ.2 ⟨hno,hd⟩) λx hx=>by
  rcases ε.1 hx with rfl | hx
  ·exact hi
  ·exact h x hx
 rw [List.length_cons] at this;omega
structure Ra (nx a kc : Nat) (xY : List (Nat × Ob)) (u : List (Int × Bool)) (nx' : Nat) (objs' : List (Nat × Ob)) : Prop where
 n1:nx+1+1+1<nx'
 uJ:∀ k,k<nx->St.look objs' k=St.look xY k
 k0:St.look objs' nx=some ⟨1,[[.ref kc 6 0 0]]⟩
 k1:St.look objs' (nx+1)= some ⟨1,[[.int .i64 (a:Int)]]⟩
 k2:St.look objs' (nx+1+1)= some ⟨0,tX .i64 (mB u)⟩
 k3:St.look objs' (nx+1+1+1)= some ⟨1,[[.xG (nx+1+1)]]⟩
theorem Ra.more {nx a kc nx' nx'':Nat} {xY objs' objs'':List (Nat × Ob)} {u:List (Int × Bool)} (h:Ra nx a kc xY u nx' objs') (hn:nx'<=nx'') (hl:∀ k,k<nx'->St.look objs'' k=St.look objs' k):Ra nx a kc xY u nx'' objs'':=by have n1:=h.n1;exact⟨by omega,λk hk=>by rw [hl k (by omega)]; exact h.uJ k hk,by rw [hl _ (by omega)]; exact h.k0,by rw [hl _ (by omega)]; exact h.k1,by rw [hl _ (by omega)]; exact h.k2,by rw [hl _ (by omega)]; exact h.k3⟩
end Te
theorem wo {nx kc ks:Nat} {km:Nat->Nat} {xY:List (Nat × Ob)} {rs:List xC} {A F T a:Nat} {φ:Nat × Nat->Bool} (ok:iE rs A F T) (hS:tF rs A F T kc ks km xY) (ha:a<A) :
  xW prog 79 [.ref kc 6 0 0,.int .i64 (a:Int),.sl 1 (xD rs.length T φ)] ⟨nx,xY⟩ (.sl 1 (xD rs.length T (vG rs T a φ))) ⟨nx,xY⟩:=by
 obtain⟨T1,T16⟩:=ok.hT;obtain⟨R1,R64⟩:=ok.hR;have hA4:=ok.hA;have hRT:=ok.hP;refine xW.wV ⟨_,func79,by kernel_rfl,by kernel_rfl⟩ λhu=>xW.clean ?_;have hc:=hS.c;have hs:=hS.s (by omega);have hm:=hS.m a ha;have bc:=(hu _ _ hc).1;have bs:=(hu _ _ hs).1;have bm:=(hu _ _ hm).1;simp only at bc bs bm;have hL:((List.range A).map λi=>[D.xG (km i)]).length=A:=by simp
 have hne:((List.range A).map λi=>[D.xG (km i)])≠ []:=λe=>by rw [e] at hL; simp at hL; omega
 have hLg:((List.range A).map λi=>[D.xG (km i)]).getD a [] = [D.xG (km a)]:=by simp [List.getD,ha]
 rw [mH hne,hL] at hc;have y1:¬ nx+1+1+1=kc:=by omega
 have y2:¬ nx+1+1=kc:=by omega
 have y3:¬ nx+1=kc:=by omega
 have y4:¬ nx=kc:=by omega
 have z1:¬ nx+1+1+1=ks:=by omega
 have z2:¬ nx+1+1=ks:=by omega
 have z3:¬ nx+1=ks:=by omega
 have z4:¬ nx=ks:=by omega
 have w1:¬ nx+1+1+1=nx:=by omega
 have w2:¬ nx+1+1=nx:=by omega
 have w3:¬ nx+1=nx:=by omega
 have w4:¬ nx+1+1+1=nx+1:=by omega
 have w5:¬ nx+1+1=nx+1:=by omega
 refine zJ func79 Mo λhf=>?_;simp only [simprocAttr,-ZA,↓zU,↓zD,zV,zT,zW,hc,hs,hL,hLg,y1,y2,y3,y4,z1,z2,z3,z4,w1,w2,w3,w4,w5]
 (repeat refine sd ?_)
 have hk1:∀ {objs':List (Nat × Ob)},(∀ k,k<nx->St.look objs' k=St.look xY k)->tF rs A F T kc ks km objs':=λh=>hS.mono λk o hk=>by have:=(hu k o hk).1;simp only at this;rw [h k this]; exact hk
 refine ZK mixed (km a) (tX .i64 (mG (pT rs T a))) (by simp [uX,Fr.get]) (by show St.look _ (km a)= _; rw [xX,if_neg (by omega),xX,if_neg (by omega),xX,if_neg (by omega),xX,if_neg (by omega)]; exact hm)
  (λ(_:List Nat) (_:List (Int × Bool) × Nat × List (Nat × Ob))=>[(7,.ref (nx+1+1+1) 1 0 0),(4,.ref (nx+1) 1 0 0),(3,.ref nx 1 0 0),(2,.sl 1 (xD rs.length T φ))]) (λ_ a=>⟨a.2.1,a.2.2⟩)
  (λseen b=>Ra nx a kc xY b.1 b.2.1 b.2.2/\Rj φ (pT rs T a) seen b.1) ([],nx+1+1+1+1,(nx+1+1+1,⟨1,[[.xG (nx+1+1)]]⟩) :: (nx+1+1,⟨0,[]⟩) :: (nx+1,⟨1,[[.int .i64 (a:Int)]]⟩) :: (nx,⟨1,[[.ref kc 6 0 0]]⟩) :: xY) ⟨⟨by simp only; omega,λk hk=>?_,?_,?_,?_,?_⟩,λi hi=>absurd hi (by simp)⟩ ?_ ?_ ?_ ?_
 ·simp only; rw [xX,if_neg (by omega),xX,if_neg (by omega),xX,if_neg (by omega),xX,if_neg (by omega)]
 ·simp only; rw [xX,if_neg (by omega),xX,if_neg (by omega),xX,if_neg (by omega),xX,if_pos rfl]
 ·simp only; rw [xX,if_neg (by omega),xX,if_neg (by omega),xX,if_pos rfl]
 ·simp only; rw [xX,if_neg (by omega),xX,if_pos rfl]; rfl
 ·simp only; rw [xX,if_pos rfl]
 ·intro b;exact sV
 ·intro seen b ⟨hI,_⟩;exact(hI.uJ _ bm).trans hm
 ·rintro b seen ⟨u,nx',objs'⟩ ⟨hI,hJ⟩ hnd hlt hall;simp only at hI hJ ⊢;rw [qu,iy] at hlt hall;have hS':=hk1 hI.uJ;have e3:=hI.k3;have e0:=hI.k0;have n1:=hI.n1
  have hfill:=nY (nx:=nx') (kc:=kc) (xY:=objs') (g:=122) (caps:=[.ref (nx+1+1+1) 1 0 0,.ref nx 1 0 0,.ref (nx+1) 1 0 0]) (φ:=λp=>nC (uB rs a p) u) ok hS'.c (λnx1 objs1 i t h1 h2 hi ht=> Uc ok ha (by rw [h2 _ (by omega)]; exact hI.k3) (by rw [h2 _ (by omega)]; exact hI.k2) (by rw [h2 _ (by omega)]; exact hI.k0) (by rw [h2 _ (by omega)]; exact hI.k1) (by rw [h2 _ (by omega)]; exact hS'.c) hi ht)
  rw [jW (ψ:=vG rs T a φ) λi t hi ht=>hJ.Nw (λi hi=>Rx hnd hlt hall i hi) (vo T1 hi ht)] at hfill;refine qV e0 ?_;refine .go hfill ?_;refine yQ ?_;refine .gone hu (λk o hk=>?_) (by simp only [vw]; exact⟨trivial,trivial⟩);have:=(hu k o hk).1;simp only at this;show St.look objs' k=_;rw [hI.uJ k this]; exact hk
 rintro b seen ⟨u,nx',objs'⟩ i ⟨hI,hJ⟩ hnd hlt hi hni;simp only at hI hJ ⊢;rw [qu,iy] at hlt hi;have hgi:=ZL (kk:=.i64) (l:=mG (pT rs T a)) (by rw [iy]; exact hi);rw [SS hi] at hgi;have hstep:=hJ.step (UZ rs T a) hlt hi hni;have hin:=UW hi;have hgl:=Z1 hi;generalize (pT rs T a).getD i (0,[])= g at hgi hstep hin hgl;obtain⟨x,l⟩:=g;simp only at hgi hstep hin hgl;rw [hgi];refine nA ?_;refine l9 mixed ?_;refine qV wJ ?_
 refine zC (λc:Nat × Nat × List (Nat × Ob)=>[(29,.int .i64 c.1),(28,.int .i64 l.length),(27,.sl 2 (pZ l)),(10,.bool ((l.take c.1).all φ)),(8,.int .i64 x),(21,.kI b),(7,.ref (nx+1+1+1) 1 0 0),(4,.ref (nx+1) 1 0 0),(3,.ref nx 1 0 0),(2,.sl 1 (xD rs.length T φ))])
  (λc=>⟨c.2.1,c.2.2⟩) (λc=>c.1<=l.length/\Ra nx a kc xY u c.2.1 c.2.2) (λc=>l.length-c.1) (0,nx',objs') ⟨Af _,hI⟩ ?_ ?_
 ·exact sV
 clear hI;rintro ⟨w,nx2,objs2⟩ ⟨hw,hI⟩;simp only at hw hI ⊢;refine wZ mixed ?_;by_cases hwl:w<l.length
 case neg=>
  have hd:¬ ((w:Int)<(l.length:Int)):=by omega
  have hall:l.take w=l:=ξ (by omega);have e2:=hI.k2;have e3:=hI.k3;have hap:=bb x (l.all φ) u;refine TR hd hall e2 e3 hap ?_;have n1:=hI.n1;refine⟨(uc x (l.all φ) u,nx2,?zo0),⟨⟨n1,λk hk=>?_,?_,?_,?_,?_⟩,hstep⟩,?zw⟩
  case zw=>(refine yV.same ?_; simp [zL,Fr.get])
  all_goals simp only
  ·rw [xT,if_neg (by omega)]; exact hI.uJ k hk
  ·rw [xT,if_neg (by omega)]; exact hI.k0
  ·rw [xT,if_neg (by omega)]; exact hI.k1
  ·rw [xT,if_pos rfl,e2]; rfl
  ·rw [xT,if_neg (by omega)]; exact hI.k3
 have hd:((w:Int)<(l.length:Int)):=by omega
 have hpg:=lN l hwl;have hp:=Sb T1 (hin _ (zH (d:=(0,0)) hwl))
 have htk:l.take (w+1)= l.take w ++ [l.getD w (0,0)]:=by rw [Ab];congr 1;simp [List.getD,hwl]
 generalize l.getD w (0,0)= p at hpg hp htk;have hall:(l.take (w+1)).all φ=((l.take w).all φ&&φ p):=by rw [htk,List.all_append]; simp
 generalize (l.take w).all φ=c at hall;have g1:=wP (T:=T) (φ:=φ) hp.1;have g2:=vB (i:=p.1) (φ:=φ) hp.2
 cases c with
 | true=>
  simp only [simprocAttr,-ZA,↓zU,↓zD,zV,zT,zW,hd,wJ,hpg,yP,g1,wU,List.length_map,List.length_range,g2]
  (repeat refine sd ?_)
  refine⟨(w+1,nx2+1,?zo1),⟨by show w+1<=l.length; omega,hI.more (Nat.le_succ _) λk hk=>?_⟩,?zx,by show l.length-(w+1)<l.length-w; omega⟩
  case zx=>
   (refine yV.same ?_; simp only [zL,Fr.get,simprocAttr,-ZA,zS,hall,Bool.true_and,Bool.false_and])
   exact yB (by omega)
  ·simp only; rw [xX,if_neg (by omega)]
 | false=>
  refine ai hd wJ hpg ?_;refine⟨(w+1,nx2+1,?zo2),⟨by show w+1<=l.length; omega,hI.more (Nat.le_succ _) λk hk=>?_⟩,?zy,by show l.length-(w+1)<l.length-w; omega⟩
  case zy=>
   (refine yV.same ?_; simp only [zL,Fr.get,simprocAttr,-ZA,zS,hall,Bool.true_and,Bool.false_and])
   exact yB (by omega)
  ·simp only; rw [xX,if_neg (by omega)]
end
end Go.Pd
