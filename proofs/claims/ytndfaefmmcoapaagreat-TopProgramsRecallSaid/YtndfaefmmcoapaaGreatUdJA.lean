/- Part JA. -/
import Derived.Test.YtndfaefmmcoapaaGreatUdHA
set_option linter.unusedSectionVars false
set_option linter.unusedVariables false
set_option linter.unusedSimpArgs false
set_option linter.defProp false
set_option maxRecDepth 20000
set_option maxHeartbeats 1000000
namespace Go.Pd
open Go Go.Proofs
open BitVec renaming isValue -> ZA
section
open Rs Fm Ru
namespace Te
abbrev Tab :=Nat × Nat->Bool
section
variable (rs : List xD) (A T : Nat)
def ptl : List (Nat × Nat):=ptN T (rs.length*T)
def vR (a:Nat) (x:Tab) (p:Nat × Nat):Bool:=(ptl rs T).all fun q=>!decide (yQ rs a q=yQ rs a p) || x q
def sP (g:Nat) (x:Tab) (p:Nat × Nat):Bool:=(List.range A).all fun a=>!g.testBit a || vR rs T a x p
def aCn (g:Nat) (p q:Nat × Nat):Bool:=(List.range A).all fun a=>!g.testBit a || decide (yQ rs a p=yQ rs a q)
def aUa (g:Nat) (x:Tab) (p:Nat × Nat):Bool:=(ptl rs T).all fun q=>!aCn rs A g p q || x q
def aCy (g:Nat) (x y now:Tab):Tab:=sP rs A T g fun q=>!x q || (y q&&now q)
def tS (g:Nat) (x y:Tab):Nat->Tab
 | 0=>fun _=>true
 | n+1=>aCy rs A T g x y (tS g x y n)
def pA (g:Nat) (x y:Tab):Tab:=tS rs A T g x y (rs.length*T)
end
def tmU (T:Nat) (s:Int) (k:Nat):Nat:=if 0<s then T-1-k else k
def aNe (T:Nat) (s:Int) (x y:Tab) (i:Nat):Nat->Bool
 | 0=>false
 | k+1=>y (i,tmU T s k) || (x (i,tmU T s k)&& aNe T s x y i k)
def aIv (T:Nat) (s:Int) (x y:Tab) (p:Nat × Nat):Bool:=aNe T s x y p.1 (if 0<s then T-p.2 else p.2+1)
def aXa (rs:List xD) (n:Nd) (x y:Tab) (p:Nat × Nat):Bool:=
 if n.op=1 then true else if n.op=3 then(aO9 rs p).getLsbD n.i.toNat else if n.op=4 then !x p else if n.op=5 then x p&&y p else if n.op=6 then x p || y p
 else if n.op=7 then !x p || y p else if n.op=8 then x p==y p else false
def zH (rs:List xD) (A T:Nat) (n:Nd) (x y:Tab):Tab:=
 if n.op=9 then vR rs T n.i.toNat x else if n.op=10 then fun p=>!vR rs T n.i.toNat (fun q=>!x q) p else if n.op=11 then sP rs A T n.g.toNat x
 else if n.op=12 then aUa rs A T n.g.toNat x else if n.op=13 then pA rs A T n.g.toNat x y else if n.op=18 then shP T 1 x else if n.op=20 then shP T (-1) x
 else if n.op=19 then aIv T 1 x y else if n.op=21 then aIv T (-1) x y else aXa rs n x y
def wY (rs:List xD) (A T:Nat) (f:List Nd):Nat->List Tab
 | 0=>[]
 | k+1=>wY rs A T f k ++ [zH rs A T (f.getD k nd0) ((wY rs A T f k).getD (f.getD k nd0).x.toNat fun _=>false) ((wY rs A T f k).getD (f.getD k nd0).y.toNat fun _=>false)]
theorem rE (rs:List xD) (A T:Nat) (f:List Nd):∀ k,(wY rs A T f k).length=k
 | 0=>rfl
 | k+1=>by simp [wY,rE rs A T f k]
section
variable {rs : List xD} {A T : Nat}
theorem aTb {α:Type} {l:List α} {f g:α->Bool} (h:∀ q ∈ l,f q=g q):l.all f=l.all g:=by
 induction l with
 | nil=>rfl
 | cons a r ih=>rw [List.all_cons,List.all_cons,h a (by simp),ih fun q hq=>h q (List.mem_cons_of_mem _ hq)]
theorem aTw {a:Nat} {x y:Tab} {p:Nat × Nat} (h:∀ q ∈ ptl rs T,x q=y q):vR rs T a x p=vR rs T a y p:=aTb fun q hq=>by rw [h q hq]
theorem aVq {g:Nat} {x y:Tab} {p:Nat × Nat} (h:∀ q ∈ ptl rs T,x q=y q):sP rs A T g x p=sP rs A T g y p:=aTb fun a _=>by rw [aTw h]
theorem aTk {g:Nat} {x y n m:Tab} {p:Nat × Nat} (h:∀ q ∈ ptl rs T,n q=m q):aCy rs A T g x y n p=aCy rs A T g x y m p:=aVq fun q hq=>by rw [h q hq]
theorem aT1 {g:Nat} {x y:Tab} {p:Nat × Nat} (h:∀ q ∈ ptl rs T,x q=true->y q=true) (hp:sP rs A T g x p=true):sP rs A T g y p=true:=by
 unfold sP vR at hp ⊢;simp only [List.all_eq_true,Bool.or_eq_true] at hp ⊢;intro a ha
 rcases hp a ha with h1 | h1
 ·exact .inl h1
 ·refine .inr fun q hq=>?_
  rcases h1 q hq with h2 | h2
  ·exact .inl h2
  ·exact .inr (h q hq h2)
theorem aW4 (g:Nat) (x y:Tab):∀ (n:Nat) (p:Nat × Nat),tS rs A T g x y (n+1) p=true->tS rs A T g x y n p=true
 | 0,_,_=>rfl
 | n+1,p,h=>aT1 (fun q _ hq=>by
   simp only [Bool.or_eq_true,Bool.and_eq_true] at hq ⊢
   rcases hq with h1 | ⟨h1,h2⟩
   ·exact .inl h1
   ·exact .inr ⟨h1,aW4 g x y n q h2⟩) h
theorem kM {g:Nat} {x y:Tab} {n:Nat} (h:∀ p ∈ ptl rs T,tS rs A T g x y (n+1) p=tS rs A T g x y n p):∀ (m:Nat) (p:Nat × Nat),p ∈ ptl rs T->tS rs A T g x y (n+m) p=tS rs A T g x y n p
 | 0,_,_=>rfl
 | m+1,p,hp=>by rw [<- h p hp];exact aTk fun q hq=>kM h m q hq
theorem countP_le {α:Type} {f g:α->Bool}:∀ {l:List α},(∀ q ∈ l,f q=true->g q=true)->l.countP f<=l.countP g
 | [],_=>by simp
 | a :: r,h=>by
  have ih:=countP_le (l:=r) fun q hq=>h q (List.mem_cons_of_mem _ hq);rw [List.countP_cons,List.countP_cons];have:=h a (by simp)
  by_cases e:f a=true
  ·rw [if_pos e,if_pos (this e)]; omega
  ·rw [if_neg e]; omega
theorem cV {α:Type} {f g:α->Bool}:∀ {l:List α},(∀ q ∈ l,f q=true->g q=true)->(∃ q ∈ l,f q≠g q)->l.countP f<l.countP g
 | [],_,h=>by obtain⟨q,hq,_⟩:=h; cases hq
 | a :: r,h,⟨q,hq,hne⟩=>by
  have h':∀ q ∈ r,f q=true->g q=true:=fun q hq=>h q (List.mem_cons_of_mem _ hq);have ih:=countP_le h';rw [List.countP_cons,List.countP_cons];have ha:=h a (by simp)
  by_cases e2:f a=g a
  ·have hr:∃ q ∈ r,f q≠g q:=by
    rcases List.mem_cons.1 hq with e | e
    ·subst e; exact absurd e2 hne
    ·exact⟨q,e,hne⟩
   have:=cV h' hr;rw [e2]; omega
  ·have h1:f a=false:=by cases e3:f a with
    | false=>rfl
    | true=>exact absurd (e3.trans (ha e3).symm) e2
   have h2:g a=true:=by cases e3:g a with
    | true=>rfl
    | false=>exact absurd (h1.trans e3.symm) e2
   rw [h1,h2];simp only [Bool.false_eq_true,if_false,if_true];omega
def aI2 (rs:List xD) (A T g:Nat) (x y:Tab) (n:Nat):Nat:=(ptl rs T).countP (tS rs A T g x y n)
theorem aW5 (g:Nat) (x y:Tab):aI2 rs A T g x y 0=rs.length*T:=by unfold aI2 ptl;rw [show tS rs A T g x y 0=fun _=>true from rfl,List.countP_true,vN]
theorem eC {g:Nat} {x y:Tab} {n:Nat} (h:∃ p ∈ ptl rs T,tS rs A T g x y (n+1) p≠tS rs A T g x y n p):aI2 rs A T g x y (n+1)<aI2 rs A T g x y n:= cV (fun q _ hq=>aW4 g x y n q hq) h
theorem aOp {g:Nat} {x y:Tab} {n:Nat} (hn:n<=rs.length*T) (h:∀ p ∈ ptl rs T,tS rs A T g x y (n+1) p=tS rs A T g x y n p) {p:Nat × Nat} (hp:p ∈ ptl rs T):tS rs A T g x y n p=pA rs A T g x y p:=by obtain⟨m,hm⟩:=Nat.exists_eq_add_of_le hn;unfold pA;rw [hm,kM h m p hp]
def aCs (rs:List xD) (A g:Nat) (p q:Nat × Nat):Bool:=(List.range A).any fun a=>g.testBit a&&decide (yQ rs a p=yQ rs a q)
theorem aOg {g:Nat} {x:Tab} {p:Nat × Nat}:sP rs A T g x p=true ↔ ∀ q ∈ ptl rs T,aCs rs A g p q=true->x q=true:=by
 unfold sP vR aCs;simp only [List.all_eq_true,List.any_eq_true,Bool.or_eq_true,Bool.and_eq_true,Bool.not_eq_true',decide_eq_true_eq,decide_eq_false_iff_not]
 constructor
 ·rintro h q hq ⟨a,ha,h1,h2⟩
  rcases h a ha with h3 | h3
  ·rw [h1] at h3; cases h3
  ·rcases h3 q hq with h4 | h4
   ·exact absurd h2.symm h4
   ·exact h4
 ·intro h a ha
  cases e:g.testBit a with
  | false=>exact .inl rfl
  | true=>
   refine .inr fun q hq=>?_
   by_cases e2:yQ rs a q=yQ rs a p
   ·exact .inr (h q hq ⟨a,ha,e,e2.symm⟩)
   ·exact .inl e2
theorem aEw (g:Nat) (x y:Tab):∃ n,n<=rs.length*T/\∀ p ∈ ptl rs T,tS rs A T g x y (n+1) p=tS rs A T g x y n p:=by
 have key:∀ (m n:Nat),aI2 rs A T g x y n<=m->n+aI2 rs A T g x y n<=rs.length*T->∃ n,n<=rs.length*T/\∀ p ∈ ptl rs T,tS rs A T g x y (n+1) p=tS rs A T g x y n p:=by
  intro m
  induction m with
  | zero=> intro n h1 h2;refine⟨n,by omega,fun p hp=>Decidable.byContradiction fun h=>?_⟩;have:=eC (rs:=rs) (A:=A) (T:=T) ⟨p,hp,h⟩;omega
  | succ m ih=>
   intro n h1 h2
   by_cases h:∃ p ∈ ptl rs T,tS rs A T g x y (n+1) p≠tS rs A T g x y n p
   ·have:=eC h;exact ih (n+1) (by omega) (by omega)
   ·exact⟨n,by omega,fun p hp=>Decidable.byContradiction fun h'=>h ⟨p,hp,h'⟩⟩
 exact key _ 0 (Nat.le_refl _) (by rw [aW5]; omega)
end
end Te
end
section
open Rs Fm Ru Te
namespace Te
abbrev Pt :=Nat × Nat
def upG (x:Int) (p:Pt):List (Int × List Pt)->List (Int × List Pt)
 | []=>[(x,[p])]
 | (y,l) :: r=>if x=y then(y,l ++ [p]) :: r else(y,l) :: upG x p r
def aI1 (f:Pt->Int):Nat->List Pt->List (Int × List Pt)
 | 0,_=>[]
 | k+1,l=>upG (f (l.getD k (0,0))) (l.getD k (0,0)) (aI1 f k l)
structure GOk (f : Pt -> Int) (l : List Pt) (G : List (Int × List Pt)) : Prop where
 nd:(G.map (·.1)).Nodup
 eq:∀ e ∈ G,∀ q,q ∈ e.2 ↔ (q ∈ l/\f q=e.1)
 has:∀ q ∈ l,∃ e ∈ G,e.1=f q
 ln:∀ e ∈ G,e.2.length<=l.length
theorem aXu (x:Int) (p:Pt):∀ G,(upG x p G).map (·.1)= if x ∈ G.map (·.1) then G.map (·.1) else G.map (·.1)++ [x]
 | []=>by simp [upG]
 | (y,l) :: r=>by
  unfold upG
  by_cases h:x=y
  ·rw [if_pos h]; subst h; simp
  ·rw [if_neg h,List.map_cons,aXu x p r];simp only [List.map_cons,List.mem_cons,h,false_or];split <;> simp
theorem aUh {x:Int} {p:Pt} {e:Int × List Pt}:∀ {G:List (Int × List Pt)},(G.map (·.1)).Nodup->e ∈ upG x p G->(e ∈ G/\e.1≠x)\/(e.1=x/\((∃ l,(x,l)∈ G/\e.2=l ++ [p])\/(x ∉ G.map (·.1)/\ e.2 = [p])))
 | [],_,h=>by simp only [upG,List.mem_singleton] at h;subst h;exact .inr ⟨rfl,.inr ⟨by simp,rfl⟩⟩
 | (y,l) :: r,hn,h=>by
  rw [List.map_cons,List.nodup_cons] at hn;unfold upG at h
  by_cases hx:x=y
  ·rw [if_pos hx] at h;subst hx
   rcases List.mem_cons.1 h with rfl | h
   ·exact .inr ⟨rfl,.inl ⟨l,by simp,rfl⟩⟩
   ·refine .inl ⟨List.mem_cons_of_mem _ h,fun e1=>hn.1 ?_⟩;rw [List.mem_map]; exact⟨e,h,e1⟩
  ·rw [if_neg hx] at h
   rcases List.mem_cons.1 h with rfl | h
   ·exact .inl ⟨by simp,fun e=>hx e.symm⟩
   ·rcases aUh hn.2 h with ⟨h1,h2⟩ | ⟨h1,h2⟩
    ·exact .inl ⟨List.mem_cons_of_mem _ h1,h2⟩
    ·refine .inr ⟨h1,?_⟩
     rcases h2 with ⟨l',h2,h3⟩ | ⟨h2,h3⟩
     ·exact .inl ⟨l',List.mem_cons_of_mem _ h2,h3⟩
     ·exact .inr ⟨by simp only [List.map_cons,List.mem_cons,not_or]; exact⟨hx,h2⟩,h3⟩
theorem aS0 {x:Int} {p:Pt} {y:Int} {G:List (Int × List Pt)} (h:y ∈ G.map (·.1)\/y=x):y ∈ (upG x p G).map (·.1):=by
 rw [aXu]
 split
 ·rename_i h1
  rcases h with h | rfl
  ·exact h
  ·exact h1
 ·rcases h with h | rfl
  ·exact List.mem_append_left _ h
  ·simp
theorem GOk.step {f:Pt->Int} {l:List Pt} {G:List (Int × List Pt)} (h:GOk f l G) (p:Pt):GOk f (l ++ [p]) (upG (f p) p G) where
 nd:=by
  rw [aXu]
  split
  ·exact h.nd
  ·rename_i hx;rw [List.nodup_append];refine⟨h.nd,by simp,fun a ha b hb=>?_⟩;rw [List.mem_singleton] at hb;subst hb;intro e; subst e; exact hx ha
 eq :=by
  intro e he q
  rcases aUh h.nd he with ⟨h1,h2⟩ | ⟨h1,h2⟩
  ·rw [h.eq e h1 q];simp only [List.mem_append,List.mem_singleton]
   constructor
   ·rintro ⟨a,b⟩; exact⟨.inl a,b⟩
   ·rintro ⟨a | rfl,b⟩
    ·exact⟨a,b⟩
    ·exact absurd b.symm h2
  ·rcases h2 with ⟨l',h2,h3⟩ | ⟨h2,h3⟩
   ·rw [h3];have:=h.eq _ h2 q;simp only at this;simp only [List.mem_append,List.mem_singleton,this,h1]
    constructor
    ·rintro (⟨a,b⟩ | rfl)
     ·exact⟨.inl a,b⟩
     ·exact⟨.inr rfl,rfl⟩
    ·rintro ⟨a | rfl,b⟩
     ·exact .inl ⟨a,b⟩
     ·exact .inr rfl
   ·rw [h3];simp only [List.mem_append,List.mem_singleton,h1]
    constructor
    ·rintro rfl; exact⟨.inr rfl,rfl⟩
    ·rintro ⟨a | rfl,b⟩
     ·obtain⟨e',he',e2⟩:=h.has q a;exact absurd (by rw [List.mem_map]; exact⟨e',he',e2.trans b⟩) h2
     ·rfl
 has:=by
  intro q hq
  have:f q ∈ (upG (f p) p G).map (·.1):=by
   rcases List.mem_append.1 hq with hq | hq
   ·obtain⟨e,he,e1⟩:=h.has q hq;exact aS0 (.inl (by rw [List.mem_map]; exact⟨e,he,e1⟩))
   ·rw [List.mem_singleton] at hq; subst hq; exact aS0 (.inr rfl)
  rw [List.mem_map] at this;obtain⟨e,he,e1⟩:=this;exact⟨e,he,e1⟩
 ln :=by
  intro e he;rw [List.length_append,List.length_singleton]
  rcases aUh h.nd he with ⟨h1,h2⟩ | ⟨h1,h2⟩
  ·have:=h.ln e h1; omega
  ·rcases h2 with ⟨l',h2,h3⟩ | ⟨h2,h3⟩
   ·have:=h.ln _ h2;simp only at this;rw [h3,List.length_append,List.length_singleton]; omega
   ·rw [h3,List.length_singleton]; omega
theorem mP (f:Pt->Int) (l:List Pt):∀ k,k<=l.length->GOk f (l.take k) (aI1 f k l)
 | 0,_=>⟨by simp [aI1],by simp [aI1],by simp,by simp [aI1]⟩
 | k+1,h=>by
  have ih:=(mP f l k (by omega)).step (l.getD k (0,0))
  have e:l.take (k+1)= l.take k ++ [l.getD k (0,0)]:=by rw [List.take_add_one];congr 1;simp [List.getD,show k<l.length by omega]
  rw [e];exact ih
abbrev EM :=List (Int × Nat × List Pt)
def mE (E:EM):List (Int × D):=E.map fun e=>(e.1,.osl e.2.1 2 e.2.2.length)
def gE (E:EM):List (Int × List Pt):=E.map fun e=>(e.1,e.2.2)
def mG (G:List (Int × List Pt)):List (Int × D):=G.map fun e=>(e.1,.sl 2 (ptR e.2))
def lkE (x:Int):EM->Option (Nat × List Pt)
 | []=>none
 | (y,k,l) :: r=>if x=y then some (k,l) else lkE x r
def upE (x:Int) (n:Nat) (p:Pt):EM->EM
 | []=>[(x,n,[p])]
 | (y,k,l) :: r=>if x=y then(y,n,l ++ [p]) :: r else(y,k,l) :: upE x n p r
theorem aC4 (x:Int) (n:Nat) (p:Pt):∀ E,gE (upE x n p E)= upG x p (gE E)
 | []=>rfl
 | (y,k,l) :: r=>by
  show gE (upE x n p ((y,k,l) :: r))= upG x p ((y,l) :: gE r);unfold upE upG
  by_cases h:x=y
  ·rw [if_pos h,if_pos h]; rfl
  ·rw [if_neg h,if_neg h,<- aC4 x n p r]; rfl
theorem aM4 (x:Int):∀ E,kA false .xO (wL x (mE E) 0)= match lkE x E with | none=>.xO | some e=>.osl e.1 2 e.2.length
 | []=>rfl
 | (y,k,l) :: r=>by
  show kA false _ (wL x ((y,.osl k 2 l.length) :: mE r) 0)= _;unfold wL lkE
  by_cases h:x=y
  ·rw [if_pos h,if_pos h]; rfl
  ·rw [if_neg h,if_neg h,<- aM4 x r,Ru.wD]
   cases wL x (mE r) 0 with
   | none=>rfl
   | some p=>rfl
def bYl (x:Int) (E:EM):Nat:=match lkE x E with | none=>0 | some e=>e.2.length
theorem aTa (x:Int) (n:Nat) (p:Pt):∀ E,aVx (mE E) x (.osl n 2 (bYl x E+1))= mE (upE x n p E)
 | []=>rfl
 | (y,k,l) :: r=>by
  have ih:=aTa x n p r;show aVx ((y,.osl k 2 l.length) :: mE r) x _=_;unfold aVx bYl at ih ⊢;unfold wL upE lkE
  by_cases h:x=y
  ·subst h; rw [if_pos rfl,if_pos rfl,if_pos rfl]; simp [mE]
  ·rw [if_neg h,if_neg h,if_neg h,Ru.wD]
   cases hf:wL x (mE r) 0 with
   | none=>rw [hf] at ih; simp only [Option.map_none] at ih ⊢; rw [List.cons_append,ih]; rfl
   | some p=>rw [hf] at ih; simp only [Option.map_some] at ih ⊢; rw [List.set_cons_succ,ih]; rfl
theorem fR {x:Int} {k:Nat} {l:List Pt}:∀ {E:EM},lkE x E=some (k,l)->(x,k,l)∈ E
 | [],h=>by cases h
 | (y,k',l') :: r,h=>by
  unfold lkE at h
  by_cases e:x=y
  ·rw [if_pos e] at h; cases h; subst e; simp
  ·rw [if_neg e] at h; exact List.mem_cons_of_mem _ (fR h)
theorem aXg {x:Int} {n:Nat} {p:Pt} {e:Int × Nat × List Pt}:∀ {E:EM},((gE E).map (·.1)).Nodup->e ∈ upE x n p E->(e ∈ E/\e.1≠x)\/(e.1=x/\e.2.1=n/\e.2.2=(match lkE x E with | none=>[] | some q=>q.2)++ [p])
 | [],_,h=>by simp only [upE,List.mem_singleton] at h;subst h;exact .inr ⟨rfl,rfl,rfl⟩
 | (y,k,l) :: r,hn,h=>by
  have hn':((y :: (gE r).map (·.1))).Nodup:=hn;rw [List.nodup_cons] at hn';unfold upE at h;unfold lkE
  by_cases hx:x=y
  ·rw [if_pos hx] at h ⊢;subst hx
   rcases List.mem_cons.1 h with rfl | h
   ·exact .inr ⟨rfl,rfl,rfl⟩
   ·refine .inl ⟨List.mem_cons_of_mem _ h,fun e1=>hn'.1 ?_⟩;simp only [gE,List.map_map,List.mem_map];exact⟨e,h,e1⟩
  ·rw [if_neg hx] at h ⊢
   rcases List.mem_cons.1 h with rfl | h
   ·exact .inl ⟨by simp,fun e=>hx e.symm⟩
   ·rcases aXg hn'.2 h with ⟨h1,h2⟩ | h2
    ·exact .inl ⟨List.mem_cons_of_mem _ h1,h2⟩
    ·exact .inr h2
structure MI (km : Nat) (E : EM) (nx : Nat) (objs0 xZ : List (Nat × Ob)) : Prop where
 n1:km<nx
 old:∀ k,k<km->St.look xZ k=St.look objs0 k
 mp:St.look xZ km=some ⟨0,qS .i64 (mE E)⟩
 ob:∀ e ∈ E,km<e.2.1/\e.2.1<nx/\St.look xZ e.2.1=some ⟨2,ptR e.2.2⟩
 ds:∀ e ∈ E,∀ e' ∈ E,e.2.1=e'.2.1->e.1=e'.1
theorem MI.step {km:Nat} {E:EM} {nx nx' n:Nat} {objs0 xZ objs':List (Nat × Ob)} (h:MI km E nx objs0 xZ) (hnd:((gE E).map (·.1)).Nodup) {x:Int} {p:Pt} (hn:nx<=n/\n<nx')
  (hs:∀ k,k<nx->k≠km->(∀ q,lkE x E=some q->k≠q.1)->St.look objs' k=St.look xZ k) (hm:St.look objs' km=some ⟨0,qS .i64 (mE (upE x n p E))⟩)
  (ho:St.look objs' n=some ⟨2,ptR ((match lkE x E with | none=>[] | some q=>q.2)++ [p])⟩):MI km (upE x n p E) nx' objs0 objs':=by
 have n1:=h.n1
 refine⟨by omega,fun k hk=>?_,hm,fun e he=>?_,fun e he e' he' hee=>?_⟩
 ·rw [hs k (by omega) (by omega) fun q hq=>?_,h.old k hk];have:=(h.ob _ (fR hq)).1;simp only at this;omega
 ·rcases aXg hnd he with ⟨h1,h2⟩ | ⟨h1,h2,h3⟩
  ·obtain⟨a,b,c⟩:=h.ob e h1;refine⟨a,by omega,?_⟩
   rw [hs _ b (by omega) fun q hq hh=>?_]
   ·exact c
   ·exact h2 (h.ds e h1 _ (fR hq) hh)
  ·rw [h2,h3]; exact⟨by omega,hn.2,ho⟩
 ·rcases aXg hnd he with ⟨h1,h2⟩ | ⟨h1,h2,h3⟩ <;> rcases aXg hnd he' with ⟨k1,k2⟩ | ⟨k1,k2,k3⟩
  ·exact h.ds e h1 e' k1 hee
  ·have:=(h.ob e h1).2.1; omega
  ·have:=(h.ob e' k1).2.1; omega
  ·rw [h1,k1]
def bV2 (rs:List xD) (A F T:Nat) (a:Nat):Ob:=⟨6,[[.int .i64 (A:Int),.int .i64 (F:Int),.int .i64 (T:Int),.sl 2 (vF rs),.sl 2 (ptR (ptl rs T)),xA 2 1 ((List.range a).map fun i=>[.zJ (3+i)])]]⟩
def cP (rs:List xD) (T:Nat) (i:Nat):List (Int × List Pt):=aI1 (yQ rs i) (ptl rs T).length (ptl rs T)
def aV7 (rs:List xD) (T:Nat) (i:Nat):Nat × Ob:=(3+i,⟨0,qS .i64 (mG (cP rs T i))⟩)
def cN (rs:List xD) (A F T:Nat) (a:Nat):List (Nat × Ob):=(0,⟨4,[[.int .i64 (A:Int),.int .i64 (F:Int),.int .i64 (T:Int),.sl 2 (vF rs)]]⟩) :: (1,bV2 rs A F T a) :: (yY 2 1 ((List.range a).map fun i=>[.zJ (3+i)])++ (List.range a).map (aV7 rs T))
theorem aWh {rs:List xD} {T:Nat}:∀ {l:List Nat} {i:Nat},i ∈ l->St.look (l.map (aV7 rs T)) (3+i)= some ⟨0,qS .i64 (mG (cP rs T i))⟩
 | [],i,h=>by cases h
 | j :: l,i,h=>by
  rw [List.map_cons];unfold aV7;rw [xX]
  by_cases e:j=i
  ·subst e; rw [if_pos rfl]
  ·rw [if_neg (by omega)]
   rcases List.mem_cons.1 h with h | h
   ·exact absurd h.symm e
   ·exact aWh h
theorem mX {rs:List xD} {T:Nat} {k:Nat}:∀ {l:List Nat},(∀ i ∈ l,3+i≠k)->St.look (l.map (aV7 rs T)) k=none
 | [],h=>rfl
 | j :: l,h=>by rw [List.map_cons];unfold aV7;rw [xX,if_neg (h j (by simp))];exact mX fun i hi=>h i (List.mem_cons_of_mem _ hi)
theorem aYj {rs:List xD} {A F T a i:Nat} (h:i<a):St.look (cN rs A F T a) (3+i)= some ⟨0,qS .i64 (mG (cP rs T i))⟩:=by unfold cN;rw [xX,if_neg (by omega),xX,if_neg (by omega),yG,if_neg (by omega)];exact aWh (List.mem_range.2 h)
theorem eB {rs:List xD} {A F T a:Nat}:St.look (cN rs A F T a) 2=uP 1 ((List.range a).map fun i=>[.zJ (3+i)]):=by unfold cN;rw [xX,if_neg (by omega),xX,if_neg (by omega),yG,if_pos rfl,mX (fun i _=>by omega)];exact Option.or_none
end Te
end
section
open Rs Fm Ru Te
namespace Te
theorem aVf {n k s:Nat} {els:List (List D)} (h:k<n):D.under n (xA k s els):=by cases els <;> simp [xA,D.under,h]
theorem nM {rs:List xD} {A F T a:Nat}:∀ p ∈ cN rs A F T a,p.1<3+a/\St.look (cN rs A F T a) p.1=some p.2/\∀ e ∈ p.2.els,D.wA (3+a) e:=by
 intro p hp;unfold cN at hp
 rcases List.mem_cons.1 hp with rfl | hp
 ·refine⟨by show 0<3+a; omega,rfl,fun e he=>?_⟩;simp only [List.mem_singleton] at he;subst he;simp [D.wA,D.under]
 rcases List.mem_cons.1 hp with rfl | hp
 ·refine⟨by show 1<3+a; omega,rfl,fun e he=>?_⟩;simp only [bV2,List.mem_singleton] at he;subst he;simp only [D.wA,D.under,true_and,and_true];exact aVf (by omega)
 rcases List.mem_append.1 hp with hp | hp
 ·have hk:p=(2,⟨1,(List.range a).map fun i=>[.zJ (3+i)]⟩):=by revert hp;generalize ((List.range a).map fun i=>[D.zJ (3+i)])= els;cases els <;> simp [yY]
  have hg:uP 1 ((List.range a).map fun i=>[D.zJ (3+i)])= some p.2:=by rw [hk];revert hp;rw [hk];generalize ((List.range a).map fun i=>[D.zJ (3+i)])= els;cases els <;> simp [yY,uP]
  rw [<- hg,hk];refine⟨by show 2<3+a; omega,eB,fun e he=>?_⟩;simp only [List.mem_map,List.mem_range] at he;obtain⟨i,hi,rfl⟩:=he;simp only [D.wA,D.under,and_true]; omega
 ·simp only [List.mem_map,List.mem_range] at hp;obtain⟨i,hi,rfl⟩:=hp;refine⟨by show 3+i<3+a; omega,aYj hi,fun e he=>?_⟩;simp only [aV7,qS,mG,List.map_map,List.mem_map] at he;obtain⟨g,_,rfl⟩:=he;simp [D.wA,D.under]
end Te
theorem aPw {rs:List xD} {A F T:Nat} (hz:chk ⟨A,F,T,rs⟩= 0) (ok:OkR rs A F T):xY Tryz.prog 102 [sD A F T rs] St0 (.ref 1 6 0 0) ⟨3+A,cN rs A F T A⟩:=by
 obtain⟨T1,T16⟩:=ok.hT;obtain⟨R1,R64⟩:=ok.hR;have hA4:=ok.hA;have hRT:=ok.hP;have hP:=aYp ⟨A,F,T,rs⟩;have ep:cQ ⟨A,F,T,rs⟩= ptl rs T:=by unfold cQ; rw [if_neg (by simpa using hz)]; rfl
 rw [ep] at hP;have hD:tZ.d ⟨A,F,T,rs⟩= .agg [.int .i64 (A:Int),.int .i64 (F:Int),.int .i64 (T:Int),.sl 2 (vF rs)]:=rfl;rw [hD] at hP;unfold sD;refine xY.xR mixed Tryz.func102 bR6 (by simp) fun hf=>?_;simp only [simprocAttr,-ZA,↓zU,↓zD,zV,zT,zW]
 (repeat refine sd ?_)
 refine .go (cq hP) ?_;simp only [simprocAttr,-ZA,↓zU,↓zD,zV,zT,zW]
 (repeat refine sd ?_)
 refine xQ (fun a:Nat=>[(16,.int .i64 a),(15,.int .i64 A),(3,.ref 1 6 0 0),(1,.ref 0 4 0 0)]) (fun a=>⟨3+a,cN rs A F T a⟩) (fun a=>a<=A) (fun a=>A-a) 0 (Nat.zero_le _) ?_ ?_
 ·(refine xM.ren [] [0,1] (by simp) (by simp) (by decide) ?_; simp only [yK,vwL,vw,vwF,sw,St.get,St.look,Fr.get,simprocAttr,-ZA,exists_eq_left',ne_eq,zR,cN,bV2,List.range_zero,List.map_nil,zA,zB,List.nil_append])
 intro a ha;refine xN mixed ?_;have l0:St.look (cN rs A F T a) 0=some ⟨4,[[.int .i64 (A:Int),.int .i64 (F:Int),.int .i64 (T:Int),.sl 2 (vF rs)]]⟩:=rfl;have l1:St.look (cN rs A F T a) 1=some ⟨6,[[.int .i64 (A:Int),.int .i64 (F:Int),.int .i64 (T:Int),.sl 2 (vF rs),.sl 2 (ptR (ptl rs T)),xA 2 1 ((List.range a).map fun i=>[.zJ (3+i)])]]⟩:=rfl;by_cases hal:a<A
 case neg=>
  have hd:¬ ((a:Int)<(A:Int)):=by omega
  obtain rfl:a=A:=by omega
  simp only [simprocAttr,-ZA,↓zU,↓zD,zV,zT,zW,hd];exact .same
 have hd:((a:Int)<(A:Int)):=by omega
 have y1:¬ 3+a=1:=by omega
 have hin:Inb rs T (ptl rs T):=nC T1 (Nat.le_refl _);have hln:(ptl rs T).length=rs.length*T:=vN _ _;have hlr:=nM (rs:=rs) (A:=A) (F:=F) (T:=T) (a:=a);simp only [simprocAttr,-ZA,↓zU,↓zD,zV,zT,zW,hd,l0,l1,y1]
 (repeat refine sd ?_)
 refine zN (fun b:Nat × Nat × List (Nat × Ob)=>[(25,.int .i64 b.1),(24,.int .i64 (ptl rs T).length),(23,.sl 2 (ptR (ptl rs T))),(16,.int .i64 a),(15,.int .i64 A),(5,.zJ (3+a)),(4,.int .i64 a),(3,.ref 1 6 0 0),(1,.ref 0 4 0 0)])
  (fun b=>⟨b.2.1,b.2.2⟩) (fun b=>b.1<=(ptl rs T).length/\∃ E,MI (3+a) E b.2.1 (cN rs A F T a) b.2.2/\gE E=aI1 (yQ rs a) b.1 (ptl rs T)) (fun b=>(ptl rs T).length-b.1) (0,3+a+1,(3+a,⟨0,[]⟩) :: cN rs A F T a) ⟨Nat.zero_le _,[],⟨by simp only; omega,fun k hk=>?_,?_,by simp,by simp⟩,rfl⟩ ?_ ?_
 ·show St.look (_ :: _) k=_;rw [xX,if_neg (by omega)]
 ·show St.look (_ :: _) _=_;rw [xX,if_pos rfl]; rfl
 ·(refine xM.same ?_; simp [xP,Fr.get,zY])
 intro ⟨w,nx,xZ⟩ ⟨hw,E,hM,hg⟩;simp only at hw hM hg ⊢;refine xN mixed ?_;have n1:=hM.n1;have l0':St.look xZ 0=_:=(hM.old 0 (by omega)).trans l0;have l1':St.look xZ 1=_:=(hM.old 1 (by omega)).trans l1;have lm:=hM.mp;by_cases hwl:w<(ptl rs T).length
 case neg=>
  have hd2:¬ ((w:Int)<((ptl rs T).length:Int)):=by omega
  obtain rfl:w=(ptl rs T).length:=by omega
  simp only [simprocAttr,-ZA,↓zU,↓zD,zV,zT,zW,hd2]
  refine .go [(16,.int .i64 a),(15,.int .i64 A),(5,.zJ (3+a)),(3,.ref 1 6 0 0),(1,.ref 0 4 0 0)] ⟨3+(a+1),(3+a,⟨0,qS .i64 (mG (cP rs T a))⟩) :: cN rs A F T a⟩ (xM.view (fun k=>k) (Nat.zero_le _) (fun _ _=>rfl) ?_ ?_ (fun p _ q _ e=>e)) ?_
  ·simp only [vwF,vw,Fr.get,reduceIte,Nat.reduceEqDiff,and_true,true_and];omega
  ·intro p hp
   rcases List.mem_cons.1 hp with rfl | hp
   ·refine⟨by show 3+a<3+(a+1); omega,_,lm,rfl,?_⟩;have:gE E=cP rs T a:=hg;rw [<- this];unfold qS mE mG gE;rw [List.map_map,List.map_map,List.map_map];refine pG fun e he=>⟨rfl,?_⟩;obtain⟨b1,b2,b3⟩:=hM.ob e he;simp only [Function.comp,vwL,vw,true_and,and_true];refine⟨by decide,fun q hq=>?_,_,b3,rfl,by rw [zY]; exact Nat.le_refl _,by rw [List.take_of_length_le (by rw [zY]; exact Nat.le_refl _)],aX1 _⟩
    rcases List.mem_cons.1 hq with rfl | hq
    ·show 3+a≠e.2.1; omega
    ·have:=(hlr q hq).1; omega
   ·obtain⟨u1,u2,u3⟩:=hlr p hp;exact⟨by show p.1<3+(a+1); omega,p.2,(hM.old p.1 (by omega)).trans u2,rfl,lQ fun e he=>uZ (by show 3+a<=3+(a+1); omega) (u3 e he)⟩
  have ls:=eB (rs:=rs) (A:=A) (F:=F) (T:=T) (a:=a);have w1:¬ 3+a=1:=by omega
  have w2:¬ 3+a=2:=by omega
  have w3:¬ 3+(a+1)= 1:=by omega
  have w4:¬ 3+(a+1)= 2:=by omega
  have hL:((List.range a).map fun i=>[D.zJ (3+i)]).length=a:=by simp
  have hLs:((List.range a).map fun i=>[D.zJ (3+i)])++ [[D.zJ (3+a)]]=(List.range (a+1)).map fun i=>[D.zJ (3+i)]:=by rw [List.range_succ,List.map_append]; rfl
  have le1:St.look (yF (cN rs A F T a) 2) 1=St.look (cN rs A F T a) 1:=by rw [xG,if_neg (by omega)]
  rw [l1] at le1;have w5:¬ 3+(a+1)+ 1=1:=by omega
  simp only [simprocAttr,-ZA,↓zU,↓zD,zV,zT,zW,l1,ls,w1,w2,w3,w4,w5,hL,hLs,le1]
  (repeat refine sd ?_)
  refine⟨a+1,by omega,xM.view (fun k=>if k=2 then 3+(a+1)+ 1 else k) (Nat.zero_le _) (fun k hk=>absurd hk (Nat.not_lt_zero _)) ?_ ?_ ?_,by omega⟩
  ·simp only [vwF,vw,Fr.get,reduceIte,Nat.reduceEqDiff,and_true,true_and,D.int.injEq];exact⟨yH (by omega),by omega,by omega⟩
  ·have hLn:((List.range (a+1)).map fun i=>[D.zJ (3+i)])≠ []:=by simp
   intro p hp;have hpu:=nM (rs:=rs) (A:=A) (F:=F) (T:=T) (a:=a+1) p hp;unfold cN at hp
   rcases List.mem_cons.1 hp with rfl | hp
   ·refine⟨by show 0<3+(a+1); omega,⟨4,[[.int .i64 (A:Int),.int .i64 (F:Int),.int .i64 (T:Int),.sl 2 (vF rs)]]⟩,?_,rfl,.same (by simp [D.xU,D.xL])⟩;show St.look _ 0=_;rw [yG,if_neg (by omega),xX,if_neg (by omega),xX,if_neg (by omega),xV,if_neg (by omega),xG,if_neg (by omega)]; exact l0
   rcases List.mem_cons.1 hp with rfl | hp
   ·refine⟨by show 1<3+(a+1); omega,⟨6,[[.int .i64 (A:Int),.int .i64 (F:Int),.int .i64 (T:Int),.sl 2 (vF rs),.sl 2 (ptR (ptl rs T)),xA (3+(a+1)+ 1) 1 ((List.range (a+1)).map fun i=>[D.zJ (3+i)])]]⟩,?_,rfl,.cons rfl ?_ .nil⟩
    ·show St.look _ 1=_;rw [yG,if_neg (by omega),xX,if_neg (by omega),xX,if_neg (by omega),xV,if_pos rfl,le1]; rfl
    ·simp only [vwL,vw,and_true,true_and,aMf,reduceIte];exact .inr (by omega)
   rcases List.mem_append.1 hp with hp | hp
   ·rw [aYc hLn,List.mem_singleton] at hp;subst hp
    refine⟨by show 2<3+(a+1); omega,⟨1,(List.range (a+1)).map fun i=>[.zJ (3+i)]⟩,?_,rfl,pG fun i hi=>⟨rfl,?_⟩⟩
    ·show St.look _ (if 2=2 then _ else _)= _;rw [if_pos rfl,yG,if_pos rfl,aYd hLn]; rfl
    ·have:=List.mem_range.1 hi;simp only [vwL,vw,and_true];exact⟨by omega,by rw [if_neg (by omega)]⟩
   ·simp only [List.mem_map,List.mem_range] at hp;obtain⟨i,hi,rfl⟩:=hp;refine⟨hpu.1,_,?_,rfl,.same fun e he=>?_⟩
    rotate_left
    ·simp only [aV7,qS,mG,List.map_map,List.mem_map] at he;obtain⟨g,_,rfl⟩:=he;rfl
    show St.look _ (if 3+i=2 then _ else 3+i)= _;rw [if_neg (by omega),yG,if_neg (by omega),xX,if_neg (by omega),xX]
    by_cases e:i=a
    ·subst e; rw [if_pos rfl]; rfl
    ·rw [if_neg (by omega),xV,if_neg (by omega),xG,if_neg (by omega),aYj (by omega)]; rfl
  ·intro p hp q hq e;have h1:=(nM p hp).1;have h2:=(nM q hq).1;simp only at e;split at e <;> split at e <;> omega
 have hd2:((w:Int)<((ptl rs T).length:Int)):=by omega
 have hp:=hin _ (xS (d:=(0,0)) hwl);have hpg:=qN (ptl rs T) hwl;have hgo:=(mP (yQ rs a) (ptl rs T) w hw).nd;have hgl:=(mP (yQ rs a) (ptl rs T) w hw).ln;rw [<- hg] at hgl;rw [<- hg] at hgo;have hgn:aI1 (yQ rs a) (w+1) (ptl rs T)= upG (yQ rs a ((ptl rs T).getD w (0,0))) ((ptl rs T).getD w (0,0)) (gE E):=by rw [hg]; rfl
 generalize (ptl rs T).getD w (0,0)= p at hp hpg hgn;have hm:=xS (d:=qT) hp.1;have hgr:=rW rs hp.1;have h1:=ok.loc _ hm;have h2:=ok.row _ hm _ (xS (d:=[]) (show p.2<(rs.getD p.1 qT).loc.length by omega));have hx:((rs.getD p.1 qT).loc.getD p.2 []).getD a 0=yQ rs a p:=rfl;generalize rs.getD p.1 qT=r at hgr h1 h2 hx;have hg2:=gC r.loc (show p.2<r.loc.length by omega);generalize r.loc.getD p.2 []=x at hg2 h2 hx;have hg3:=yX .i64 x (show a<x.length by omega);rw [hx] at hg3;have z0:¬ nx=0:=by omega
 have zm:¬ nx=3+a:=by omega
 generalize yQ rs a p=v at hg3 hgn;have hmr:=aM4 v E
 cases hk:lkE v E with
 | none=>
  rw [hk] at hmr;simp only at hmr
  have hap:aVx (mE E) v (.osl (nx+1) 2 1)= mE (upE v (nx+1) p E):=by have:=aTa v (nx+1) p E;rw [show bYl v E=0 by unfold bYl; rw [hk]] at this;exact this
  have zm1:¬ nx+1=3+a:=by omega
  simp only [simprocAttr,-ZA,↓zU,↓zD,zV,zT,zW,hd2,zY,hpg,zQ,hgr,xD.row,tH,hg2,yW,hg3,l0',lm,z0,zm,zm1,hmr,hap]
  (repeat refine sd ?_)
  refine⟨(w+1,?zna,?zoa),⟨by show w+1<=_; omega,upE v (nx+1) p E,?ze1,?ze3⟩,?ze2,by show (ptl rs T).length-(w+1)<(ptl rs T).length-w; omega⟩
  case ze2=>
   (refine xM.same ?_; simp only [xP,Fr.get,simprocAttr,-ZA,zS])
   exact yH (by omega)
  case ze3=>rw [aC4,hgn]
  case ze1=>
   refine hM.step hgo (n:=nx+1) ⟨by omega,Nat.lt_succ_self _⟩ (fun k h1 h2 h3=>?_) ?_ ?_
   ·show St.look (_ :: _ :: _) k=_;rw [xX,if_neg (by omega),xX,if_neg (by omega),xV,if_neg (by omega)]
   ·show St.look (_ :: _ :: _) _=_;rw [xX,if_neg (by omega),xX,if_neg (by omega),xV,if_pos rfl,lm]; rfl
   ·show St.look (_ :: _ :: _) _=_;rw [xX,if_pos rfl,hk]; rfl
 | some q=>
  obtain⟨kq,lq⟩:=q;rw [hk] at hmr;simp only at hmr;obtain⟨q1,q2,q3⟩:=hM.ob _ (fR hk);simp only at q1 q2 q3;have zq:¬ nx=kq:=by omega
  have hap:aVx (mE E) v (.osl (nx+1) 2 (lq.length+1))= mE (upE v (nx+1) p E):=by have:=aTa v (nx+1) p E;rw [show bYl v E=lq.length by unfold bYl; rw [hk]] at this;exact this
  have zm1:¬ nx+1=3+a:=by omega
  have zq1:¬ kq=3+a:=by omega
  have htk:(ptR lq).take lq.length=ptR lq:=List.take_of_length_le (by rw [zY]; omega)
  have hbl:lq.length<=512:=by have:=hgl (v,lq) (by simp only [gE,List.mem_map]; exact⟨_,fR hk,rfl⟩);simp only [List.length_take] at this;omega
  have hle:St.look (yF xZ kq) (3+a)= some ⟨0,qS .i64 (mE E)⟩:=by rw [xG,if_neg zq1]; exact lm
  simp only [simprocAttr,-ZA,↓zU,↓zD,zV,zT,zW,hd2,zY,hpg,zQ,hgr,xD.row,tH,hg2,yW,hg3,l0',lm,z0,zm,zm1,zq,zq1,hmr,q3,hap,htk,hle]
  (repeat refine sd ?_)
  refine⟨(w+1,?znb,?zob),⟨by show w+1<=_; omega,upE v (nx+1) p E,?zf1,?zf3⟩,?zf2,by show (ptl rs T).length-(w+1)<(ptl rs T).length-w; omega⟩
  case zf2=>
   (refine xM.same ?_; simp only [xP,Fr.get,simprocAttr,-ZA,zS])
   exact yH (by omega)
  case zf3=>rw [aC4,hgn]
  case zf1=>
   refine hM.step hgo (n:=nx+1) ⟨by omega,Nat.lt_succ_self _⟩ (fun k h1 h2 h3=>?_) ?_ ?_
   ·have h3':=h3 _ hk;simp only at h3';show St.look (_ :: _ :: _) k=_;rw [xX,if_neg (by omega),xX,if_neg (by omega),xV,if_neg (by omega),xG,if_neg (by omega)]
   ·show St.look (_ :: _ :: _) _=_;rw [xX,if_neg (by omega),xX,if_neg (by omega),xV,if_pos rfl,hle]; rfl
   ·show St.look (_ :: _ :: _) _=_;rw [xX,if_pos rfl,hk];simp only [ptR,List.map_append,List.map_cons,List.map_nil]
end
section
open Rs Fm Ru Te
namespace Te
def mB (u:List (Int × Bool)):List (Int × D):=u.map fun p=>(p.1,.bool p.2)
def blk (x:Int):List (Int × Bool)->Bool
 | []=>false
 | (k,v) :: r=>if x=k then v else blk x r
def aDj (x:Int) (v:Bool):List (Int × Bool)->List (Int × Bool)
 | []=>[(x,v)]
 | (k,w) :: r=>if x=k then(x,v) :: r else(k,w) :: aDj x v r
theorem aLo (x y:Int) (v:Bool):∀ u,blk y (aDj x v u)= if y=x then v else blk y u
 | []=>by simp [aDj,blk]
 | (k,w) :: r=>by
  unfold aDj
  by_cases h:x=k
  ·rw [if_pos h];subst h
   by_cases e:y=x
   ·simp [blk,e]
   ·simp [blk,e]
  ·rw [if_neg h,blk,aLo x y v r]
   by_cases e:y=k
   ·subst e;rw [if_pos rfl,if_neg (fun e=>h e.symm)];simp [blk]
   ·rw [if_neg e];simp [blk,e]
theorem aM5 (x:Int):∀ u,kA false (.bool false) (wL x (mB u) 0)= .bool (blk x u)
 | []=>rfl
 | (k,v) :: r=>by
  show kA false _ (wL x ((k,.bool v) :: mB r) 0)= _;unfold wL blk
  by_cases h:x=k
  ·rw [if_pos h,if_pos h]; rfl
  ·rw [if_neg h,if_neg h,<- aM5 x r,Ru.wD]
   cases wL x (mB r) 0 with
   | none=>rfl
   | some p=>rfl
theorem aLr (x:Int) (v:Bool):∀ u,aVx (mB u) x (.bool v)= mB (aDj x v u)
 | []=>rfl
 | (k,w) :: r=>by
  have ih:=aLr x v r;show aVx ((k,.bool w) :: mB r) x _=_;unfold aVx at ih ⊢;unfold wL aDj
  by_cases h:x=k
  ·rw [if_pos h,if_pos h]; rfl
  ·rw [if_neg h,if_neg h,Ru.wD]
   cases hf:wL x (mB r) 0 with
   | none=>rw [hf] at ih; simp only [Option.map_none] at ih ⊢; rw [List.cons_append,ih]; rfl
   | some p=>rw [hf] at ih; simp only [Option.map_some] at ih ⊢; rw [List.set_cons_succ,ih]; rfl
theorem bP {R T:Nat} {φ ψ:Nat × Nat->Bool} (h:∀ i t,i<R->t<T->φ (i,t)= ψ (i,t)):zM R T φ=zM R T ψ:=by unfold zM;refine List.map_congr_left fun i hi=>?_;congr 3;exact List.map_congr_left fun t ht=>h i t (List.mem_range.1 hi) (List.mem_range.1 ht)
theorem fS {rs:List xD} {T:Nat} (hT:1<=T) {i t:Nat} (hi:i<rs.length) (ht:t<T):(i,t)∈ ptl rs T:=by
 unfold ptl ptN;rw [List.mem_map]
 refine⟨i*T+t,List.mem_range.2 ?_,?_⟩
 ·have:=Nat.mul_le_mul_right T (show i+1<=rs.length from hi);rw [Nat.succ_mul] at this;omega
 ·have e1:(i*T+t)/ T=i:=by rw [Nat.mul_comm,Nat.mul_add_div (by omega),Nat.div_eq_of_lt ht]; rfl
  have e2:(i*T+t) % T=t:=by rw [Nat.mul_comm,Nat.mul_add_mod,Nat.mod_eq_of_lt ht]
  rw [e1,e2]
theorem aNz {rs:List xD} {T:Nat} (hT:1<=T) {p:Nat × Nat} (h:p ∈ ptl rs T):p.1<rs.length/\p.2<T:=nC hT (Nat.le_refl _) p h
structure mW (rs : List xD) (A F T kc ks : Nat) (km : Nat -> Nat) (xZ : List (Nat × Ob)) : Prop where
 c:St.look xZ kc=some ⟨6,[[.int .i64 (A:Int),.int .i64 (F:Int),.int .i64 (T:Int),.sl 2 (vF rs),.sl 2 (ptR (ptN T (rs.length*T))),xA ks 1 ((List.range A).map fun i=>[.zJ (km i)])]]⟩
 s:0<A->St.look xZ ks=some ⟨1,(List.range A).map fun i=>[.zJ (km i)]⟩
 m:∀ i,i<A->St.look xZ (km i)= some ⟨0,qS .i64 (mG (cP rs T i))⟩
theorem mW.mono {rs:List xD} {A F T kc ks:Nat} {km:Nat->Nat} {xZ objs':List (Nat × Ob)} (h:mW rs A F T kc ks km xZ) (hk:∀ k o,St.look xZ k=some o->St.look objs' k=some o):mW rs A F T kc ks km objs':=⟨hk _ _ h.c,fun a=>hk _ _ (h.s a),fun i hi=>hk _ _ (h.m i hi)⟩
theorem mW.start {rs:List xD} {A F T:Nat}:mW rs A F T 1 2 (fun i=>3+i) (cN rs A F T A):=⟨rfl,fun h=>by rw [eB]; exact aYd (by simp; omega),fun i hi=>aYj hi⟩
end Te
theorem aAu {nx k7 kk k3 k4 kc:Nat} {xZ:List (Nat × Ob)} {rs:List xD} {A F T a:Nat} {pts:List (Nat × Nat)} {same:D} {u:List (Int × Bool)} (ok:OkR rs A F T) (ha:a<A)
  (h7:St.look xZ k7=some ⟨1,[[.zJ kk]]⟩) (hk:St.look xZ kk=some ⟨0,qS .i64 (mB u)⟩) (h3:St.look xZ k3=some ⟨1,[[.ref kc 6 0 0]]⟩) (h4:St.look xZ k4=some ⟨1,[[.int .i64 (a:Int)]]⟩)
  (hc:St.look xZ kc=some ⟨6,[[.int .i64 (A:Int),.int .i64 (F:Int),.int .i64 (T:Int),.sl 2 (vF rs),.sl 2 (ptR pts),same]]⟩) {i t:Nat} (hi:i<rs.length) (ht:t<T) :
  xY Tryz.prog 205 ([.agg [.int .i64 (i:Int),.int .i64 (t:Int)]] ++ [.ref k7 1 0 0,.ref k3 1 0 0,.ref k4 1 0 0]) ⟨nx,xZ⟩ (.bool (blk (yQ rs a (i,t)) u)) ⟨nx,xZ⟩:=by
 obtain⟨T1,T16⟩:=ok.hT;refine xY.wW ⟨_,Tryz.func205,by kernel_rfl,by kernel_rfl⟩ fun hu=>xY.clean ?_;have y7:¬ nx=k7:=by have:=(hu k7 _ h7).1; simp only at this; omega
 have yk:¬ nx=kk:=by have:=(hu kk _ hk).1; simp only at this; omega
 have y3:¬ nx=k3:=by have:=(hu k3 _ h3).1; simp only at this; omega
 have y4:¬ nx=k4:=by have:=(hu k4 _ h4).1; simp only at this; omega
 have yc:¬ nx=kc:=by have:=(hu kc _ hc).1; simp only at this; omega
 have hkeep:∀ (ob:Ob) k o,St.look xZ k=some o->St.get ⟨nx+1,(nx,ob) :: xZ⟩ k=some o:=fun ob k o hk=>by have:=(hu k o hk).1;simp only at this;show St.look (_ :: _) k=_;rw [xX,if_neg (by omega)]; exact hk
 have hm:=xS (d:=qT) hi;have hgr:=rW rs hi;have h1:=ok.loc _ hm;have h2:=ok.row _ hm _ (xS (d:=[]) (show t<(rs.getD i qT).loc.length by omega));have hx:((rs.getD i qT).loc.getD t []).getD a 0=yQ rs a (i,t):=rfl;generalize rs.getD i qT=r at hgr h1 h2 hx;have hg2:=gC r.loc (show t<r.loc.length by omega);generalize r.loc.getD t []=x at hg2 h2 hx;have hg3:=yX .i64 x (show a<x.length by omega);rw [hx] at hg3;generalize yQ rs a (i,t)= v at hg3;have hmr:=aM5 v u;refine xY.xR mixed Tryz.func205 bSf (by simp) fun hf=>?_;simp only [simprocAttr,-ZA,↓zU,↓zD,zV,zT,zW,h7,hk,h3,h4,hc,y7,yk,y3,y4,yc,zQ,hgr,xD.row,tH,hg2,yW,hg3,hmr]
 (repeat refine sd ?_)
 exact .gone hu (hkeep _) (by simp only [vw])
end
section
open Rs Fm Ru Te
namespace Te
def KnJ (φ:Nat × Nat->Bool) (G:List (Int × List (Nat × Nat))) (seen:List Nat) (u:List (Int × Bool)):Prop:=∀ i ∈ seen,blk (G.getD i (0,[])).1 u=(G.getD i (0,[])).2.all φ
theorem aFk {G:List (Int × List (Nat × Nat))} (h:(G.map (·.1)).Nodup) {i j:Nat} (hi:i<G.length) (hj:j<G.length) (e:(G.getD i (0,[])).1=(G.getD j (0,[])).1):i=j:=by
 have h1:(G.map (·.1))[i]'(by simpa using hi)= (G.map (·.1))[j]'(by simpa using hj):=by simp only [List.getElem_map];simpa [List.getD,hi,hj] using e
 exact(List.getElem_inj h).1 h1
theorem KnJ.step {φ:Nat × Nat->Bool} {G:List (Int × List (Nat × Nat))} {seen:List Nat} {u:List (Int × Bool)} (h:KnJ φ G seen u) (hn:(G.map (·.1)).Nodup) (hs:∀ j ∈ seen,j<G.length) {i:Nat} (hi:i<G.length) (hni:i ∉ seen) :
  KnJ φ G (seen ++ [i]) (aDj (G.getD i (0,[])).1 ((G.getD i (0,[])).2.all φ) u):=by
 intro j hj;rw [aLo]
 rcases List.mem_append.1 hj with hj | hj
 ·rw [if_neg fun e=>hni (by rw [<- aFk hn (hs j hj) hi e]; exact hj)];exact h j hj
 ·rw [List.mem_singleton] at hj;subst hj;rw [if_pos rfl]
theorem KnJ.bVo {φ:Nat × Nat->Bool} {rs:List xD} {T a:Nat} {seen:List Nat} {u:List (Int × Bool)} (h:KnJ φ (cP rs T a) seen u) (hall:∀ i,i<(cP rs T a).length->i ∈ seen) {p:Nat × Nat} (hp:p ∈ ptl rs T) :
  blk (yQ rs a p) u=vR rs T a φ p:=by
 have hg:=mP (yQ rs a) (ptl rs T) (ptl rs T).length (Nat.le_refl _);rw [List.take_length] at hg;obtain⟨e,he,e1⟩:=hg.has p hp;obtain⟨i,hi,rfl⟩:=List.getElem_of_mem he;have h2:=h i (hall i hi)
 have h3:(cP rs T a).getD i (0,[])= (aI1 (yQ rs a) (ptl rs T).length (ptl rs T))[i]:=by show (aI1 (yQ rs a) (ptl rs T).length (ptl rs T)).getD i (0,[])= _;simp [List.getD,hi]
 rw [h3,e1] at h2;rw [h2,Bool.eq_iff_iff];unfold vR;simp only [List.all_eq_true,Bool.or_eq_true,Bool.not_eq_true',decide_eq_false_iff_not]
 constructor
 ·intro h q hq
  by_cases e:yQ rs a q=yQ rs a p
  ·exact .inr (h q ((hg.eq _ he q).2 ⟨hq,by rw [e1]; exact e⟩))
  ·exact .inl e
 ·intro h q hq;obtain⟨h4,h5⟩:=(hg.eq _ he q).1 hq
  rcases h q h4 with h6 | h6
  ·exact absurd (h5.trans e1) h6
  ·exact h6
theorem aFu {kk:IntKind} {l:List (Int × D)} {i:Nat} (h:i<l.length):(qS kk l).getD i [] = [.int kk (l.getD i (0,.top)).1,(l.getD i (0,.top)).2]:=by simp [qS,List.getD,h]
theorem bWs {G:List (Int × List (Nat × Nat))} {i:Nat} (h:i<G.length):(mG G).getD i (0,.top)= ((G.getD i (0,[])).1,.sl 2 (ptR (G.getD i (0,[])).2)):=by simp [mG,List.getD,h]
theorem aN4 (G:List (Int × List (Nat × Nat))):(mG G).length=G.length:=by simp [mG]
theorem aA7 {rs:List xD} {T a i:Nat} (h:i<(cP rs T a).length):∀ q ∈ ((cP rs T a).getD i (0,[])).2,q ∈ ptl rs T:=by have hg:=mP (yQ rs a) (ptl rs T) (ptl rs T).length (Nat.le_refl _);rw [List.take_length] at hg;have hm:(cP rs T a).getD i (0,[])∈ cP rs T a:=xS h;exact fun q hq=>((hg.eq _ hm q).1 hq).1
theorem aEi {rs:List xD} {T a i:Nat} (h:i<(cP rs T a).length):((cP rs T a).getD i (0,[])).2.length<=rs.length*T:=by have hg:=mP (yQ rs a) (ptl rs T) (ptl rs T).length (Nat.le_refl _);rw [List.take_length] at hg;have hm:(cP rs T a).getD i (0,[])∈ cP rs T a:=xS h;have:=hg.ln _ hm;rw [show (ptl rs T).length=rs.length*T from vN _ _] at this;exact this
theorem aA6 (rs:List xD) (T a:Nat):((cP rs T a).map (·.1)).Nodup:=(mP (yQ rs a) (ptl rs T) (ptl rs T).length (Nat.le_refl _)).nd
theorem bVa {n:Nat} {l:List Nat} (hd:l.Nodup) (h:∀ x ∈ l,x<n) (hl:l.length=n):∀ i,i<n->i ∈ l:=fun i hi=>by
 refine Classical.byContradiction fun hno=>?_
 have:=qD n (i :: l) (List.nodup_cons.2 ⟨hno,hd⟩) fun x hx=>by
  rcases List.mem_cons.1 hx with rfl | hx
  ·exact hi
  ·exact h x hx
 rw [List.length_cons] at this;omega
structure KnI (nx a kc : Nat) (xZ : List (Nat × Ob)) (u : List (Int × Bool)) (nx' : Nat) (objs' : List (Nat × Ob)) : Prop where
 n1:nx+1+1+1<nx'
 old:∀ k,k<nx->St.look objs' k=St.look xZ k
 k0:St.look objs' nx=some ⟨1,[[.ref kc 6 0 0]]⟩
 k1:St.look objs' (nx+1)= some ⟨1,[[.int .i64 (a:Int)]]⟩
 k2:St.look objs' (nx+1+1)= some ⟨0,qS .i64 (mB u)⟩
 k3:St.look objs' (nx+1+1+1)= some ⟨1,[[.zJ (nx+1+1)]]⟩
theorem KnI.more {nx a kc nx' nx'':Nat} {xZ objs' objs'':List (Nat × Ob)} {u:List (Int × Bool)} (h:KnI nx a kc xZ u nx' objs') (hn:nx'<=nx'') (hl:∀ k,k<nx'->St.look objs'' k=St.look objs' k):KnI nx a kc xZ u nx'' objs'':=by have n1:=h.n1;exact⟨by omega,fun k hk=>by rw [hl k (by omega)]; exact h.old k hk,by rw [hl _ (by omega)]; exact h.k0,by rw [hl _ (by omega)]; exact h.k1,by rw [hl _ (by omega)]; exact h.k2,by rw [hl _ (by omega)]; exact h.k3⟩
end Te
theorem aSq {nx kc ks:Nat} {km:Nat->Nat} {xZ:List (Nat × Ob)} {rs:List xD} {A F T a:Nat} {φ:Nat × Nat->Bool} (ok:OkR rs A F T) (hS:mW rs A F T kc ks km xZ) (ha:a<A) :
  xY Tryz.prog 151 [.ref kc 6 0 0,.int .i64 (a:Int),.sl 1 (zM rs.length T φ)] ⟨nx,xZ⟩ (.sl 1 (zM rs.length T (vR rs T a φ))) ⟨nx,xZ⟩:=by
 obtain⟨T1,T16⟩:=ok.hT;obtain⟨R1,R64⟩:=ok.hR;have hA4:=ok.hA;have hRT:=ok.hP;refine xY.wW ⟨_,Tryz.func151,by kernel_rfl,by kernel_rfl⟩ fun hu=>xY.clean ?_;have hc:=hS.c;have hs:=hS.s (by omega);have hm:=hS.m a ha;have bc:=(hu _ _ hc).1;have bs:=(hu _ _ hs).1;have bm:=(hu _ _ hm).1;simp only at bc bs bm;have hL:((List.range A).map fun i=>[D.zJ (km i)]).length=A:=by simp
 have hne:((List.range A).map fun i=>[D.zJ (km i)])≠ []:=fun e=>by rw [e] at hL; simp at hL; omega
 have hLg:((List.range A).map fun i=>[D.zJ (km i)]).getD a [] = [D.zJ (km a)]:=by simp [List.getD,ha]
 rw [qG hne,hL] at hc;have y1:¬ nx+1+1+1=kc:=by omega
 have y2:¬ nx+1+1=kc:=by omega
 have y3:¬ nx+1=kc:=by omega
 have y4:¬ nx=kc:=by omega
 have z1:¬ nx+1+1+1=ks:=by omega
 have z2:¬ nx+1+1=ks:=by omega
 have z3:¬ nx+1=ks:=by omega
 have z4:¬ nx=ks:=by omega
 have w1:¬ nx+1+1+1=nx:=by omega
 have w2:¬ nx+1+1=nx:=by omega
 have w3:¬ nx+1=nx:=by omega
 have w4:¬ nx+1+1+1=nx+1:=by omega
 have w5:¬ nx+1+1=nx+1:=by omega
 refine xY.xR mixed Tryz.func151 bRa (by simp) fun hf=>?_;simp only [simprocAttr,-ZA,↓zU,↓zD,zV,zT,zW,hc,hs,hL,hLg,y1,y2,y3,y4,z1,z2,z3,z4,w1,w2,w3,w4,w5]
 (repeat refine sd ?_)
 have hk1:∀ {objs':List (Nat × Ob)},(∀ k,k<nx->St.look objs' k=St.look xZ k)->mW rs A F T kc ks km objs':=fun h=>hS.mono fun k o hk=>by have:=(hu k o hk).1;simp only at this;rw [h k this]; exact hk
 refine aFx mixed (km a) (qS .i64 (mG (cP rs T a))) (by simp [evO,Fr.get]) (by show St.look _ (km a)= _; rw [xX,if_neg (by omega),xX,if_neg (by omega),xX,if_neg (by omega),xX,if_neg (by omega)]; exact hm)
  (fun(_:List Nat) (_:List (Int × Bool) × Nat × List (Nat × Ob))=>[(7,.ref (nx+1+1+1) 1 0 0),(4,.ref (nx+1) 1 0 0),(3,.ref nx 1 0 0),(2,.sl 1 (zM rs.length T φ))]) (fun _ a=>⟨a.2.1,a.2.2⟩)
  (fun seen b=>KnI nx a kc xZ b.1 b.2.1 b.2.2/\KnJ φ (cP rs T a) seen b.1) ([],nx+1+1+1+1,(nx+1+1+1,⟨1,[[.zJ (nx+1+1)]]⟩) :: (nx+1+1,⟨0,[]⟩) :: (nx+1,⟨1,[[.int .i64 (a:Int)]]⟩) :: (nx,⟨1,[[.ref kc 6 0 0]]⟩) :: xZ) ⟨⟨by simp only; omega,fun k hk=>?_,?_,?_,?_,?_⟩,fun i hi=>absurd hi (by simp)⟩ ?_ ?_ ?_ ?_
 ·simp only; rw [xX,if_neg (by omega),xX,if_neg (by omega),xX,if_neg (by omega),xX,if_neg (by omega)]
 ·simp only; rw [xX,if_neg (by omega),xX,if_neg (by omega),xX,if_neg (by omega),xX,if_pos rfl]
 ·simp only; rw [xX,if_neg (by omega),xX,if_neg (by omega),xX,if_pos rfl]
 ·simp only; rw [xX,if_neg (by omega),xX,if_pos rfl]; rfl
 ·simp only; rw [xX,if_pos rfl]
 ·intro b
  (refine xM.same ?_; simp [xP,Fr.get])
 ·intro seen b ⟨hI,_⟩;exact(hI.old _ bm).trans hm
 ·rintro b seen ⟨u,nx',objs'⟩ ⟨hI,hJ⟩ hnd hlt hall;simp only at hI hJ ⊢;rw [aRs,aN4] at hlt hall;have hS':=hk1 hI.old;have e3:=hI.k3;have e0:=hI.k0;have n1:=hI.n1
  have hfill:=lS (nx:=nx') (kc:=kc) (xZ:=objs') (g:=205) (caps:=[.ref (nx+1+1+1) 1 0 0,.ref nx 1 0 0,.ref (nx+1) 1 0 0]) (φ:=fun p=>blk (yQ rs a p) u) ok hS'.c (fun nx1 objs1 i t h1 h2 hi ht=> aAu ok ha (by rw [h2 _ (by omega)]; exact hI.k3) (by rw [h2 _ (by omega)]; exact hI.k2) (by rw [h2 _ (by omega)]; exact hI.k0) (by rw [h2 _ (by omega)]; exact hI.k1) (by rw [h2 _ (by omega)]; exact hS'.c) hi ht)
  rw [bP (ψ:=vR rs T a φ) fun i t hi ht=>hJ.bVo (fun i hi=>bVa hnd hlt hall i hi) (fS T1 hi ht)] at hfill;simp only [simprocAttr,-ZA,↓zU,↓zD,zV,zT,zW,e0]
  (repeat refine sd ?_)
  refine .go hfill ?_;simp only [simprocAttr,-ZA,↓zU,↓zD,zV,zT,zW];refine .gone hu (fun k o hk=>?_) (by simp only [vw]; exact⟨trivial,trivial⟩);have:=(hu k o hk).1;simp only at this;show St.look objs' k=_;rw [hI.old k this]; exact hk
 rintro b seen ⟨u,nx',objs'⟩ i ⟨hI,hJ⟩ hnd hlt hi hni;simp only at hI hJ ⊢;rw [aRs,aN4] at hlt hi;have hgi:=aFu (kk:=.i64) (l:=mG (cP rs T a)) (by rw [aN4]; exact hi);rw [bWs hi] at hgi;have hstep:=hJ.step (aA6 rs T a) hlt hi hni;have hin:=aA7 hi;have hgl:=aEi hi;generalize (cP rs T a).getD i (0,[])= g at hgi hstep hin hgl;obtain⟨x,l⟩:=g;simp only at hgi hstep hin hgl;rw [hgi];simp only [simprocAttr,-ZA,↓zU,↓zD,zV,zT,zW]
 (repeat refine sd ?_)
 refine aJa mixed ?_;simp only [simprocAttr,-ZA,↓zU,↓zD,zV,zT,zW,zY]
 (repeat refine sd ?_)
 refine xQ (fun c:Nat × Nat × List (Nat × Ob)=>[(29,.int .i64 c.1),(28,.int .i64 l.length),(27,.sl 2 (ptR l)),(10,.bool ((l.take c.1).all φ)),(8,.int .i64 x),(21,.adr b),(7,.ref (nx+1+1+1) 1 0 0),(4,.ref (nx+1) 1 0 0),(3,.ref nx 1 0 0),(2,.sl 1 (zM rs.length T φ))])
  (fun c=>⟨c.2.1,c.2.2⟩) (fun c=>c.1<=l.length/\KnI nx a kc xZ u c.2.1 c.2.2) (fun c=>l.length-c.1) (0,nx',objs') ⟨Nat.zero_le _,hI⟩ ?_ ?_
 ·(refine xM.same ?_; simp [xP,Fr.get])
 clear hI;rintro ⟨w,nx2,objs2⟩ ⟨hw,hI⟩;simp only at hw hI ⊢;refine xN mixed ?_;by_cases hwl:w<l.length
 case neg=>
  have hd:¬ ((w:Int)<(l.length:Int)):=by omega
  have hall:l.take w=l:=List.take_of_length_le (by omega);have e2:=hI.k2;have e3:=hI.k3;have hap:=aLr x (l.all φ) u;simp only [simprocAttr,-ZA,↓zU,↓zD,zV,zT,zW,hd,hall,e2,e3,hap]
  (repeat refine sd ?_)
  have n1:=hI.n1;refine⟨(aDj x (l.all φ) u,nx2,?zo0),⟨⟨n1,fun k hk=>?_,?_,?_,?_,?_⟩,hstep⟩,?zw⟩
  case zw=>(refine xM.same ?_; simp [xP,Fr.get])
  all_goals simp only
  ·rw [xV,if_neg (by omega)]; exact hI.old k hk
  ·rw [xV,if_neg (by omega)]; exact hI.k0
  ·rw [xV,if_neg (by omega)]; exact hI.k1
  ·rw [xV,if_pos rfl,e2]; rfl
  ·rw [xV,if_neg (by omega)]; exact hI.k3
 have hd:((w:Int)<(l.length:Int)):=by omega
 have hpg:=qN l hwl;have hp:=aNz T1 (hin _ (xS (d:=(0,0)) hwl))
 have htk:l.take (w+1)= l.take w ++ [l.getD w (0,0)]:=by rw [List.take_add_one];congr 1;simp [List.getD,hwl]
 generalize l.getD w (0,0)= p at hpg hp htk;have hall:(l.take (w+1)).all φ=((l.take w).all φ&&φ p):=by rw [htk,List.all_append]; simp
 generalize (l.take w).all φ=c at hall;have g1:=wJ (T:=T) (φ:=φ) hp.1;have g2:=uY (i:=p.1) (φ:=φ) hp.2
 cases c with
 | true=>
  simp only [simprocAttr,-ZA,↓zU,↓zD,zV,zT,zW,hd,zY,hpg,zZ,g1,wZ,List.length_map,List.length_range,g2]
  (repeat refine sd ?_)
  refine⟨(w+1,nx2+1,?zo1),⟨by show w+1<=l.length; omega,hI.more (Nat.le_succ _) fun k hk=>?_⟩,?zx,by show l.length-(w+1)<l.length-w; omega⟩
  case zx=>
   (refine xM.same ?_; simp only [xP,Fr.get,simprocAttr,-ZA,zS,hall,Bool.true_and,Bool.false_and])
   exact yH (by omega)
  ·simp only; rw [xX,if_neg (by omega)]
 | false=>
  simp only [simprocAttr,-ZA,↓zU,↓zD,zV,zT,zW,hd,zY,hpg]
  (repeat refine sd ?_)
  refine⟨(w+1,nx2+1,?zo2),⟨by show w+1<=l.length; omega,hI.more (Nat.le_succ _) fun k hk=>?_⟩,?zy,by show l.length-(w+1)<l.length-w; omega⟩
  case zy=>
   (refine xM.same ?_; simp only [xP,Fr.get,simprocAttr,-ZA,zS,hall,Bool.true_and,Bool.false_and])
   exact yH (by omega)
  ·simp only; rw [xX,if_neg (by omega)]
end
end Go.Pd
