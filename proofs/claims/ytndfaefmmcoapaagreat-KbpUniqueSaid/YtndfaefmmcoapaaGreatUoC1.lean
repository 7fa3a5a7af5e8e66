/- Part C1. -/
import Derived.Test.YtndfaefmmcoapaaGreatUoKG
import Derived.Test.YtndfaefmmcoapaaGreatUoP7
set_option linter.unusedSectionVars false
set_option linter.unusedVariables false
set_option linter.unusedSimpArgs false
set_option linter.defProp false
set_option maxRecDepth 20000
set_option maxHeartbeats 1000000
namespace Go.Pd
open Go Go.Proofs
open BitVec renaming isValue -> ZA
open Ru
theorem bXk (s:BitVec 64):qI .xor .u64 (if IntKind.u64.signed=true then -1 else IntKind.u64.max) (ui s)= ui (~~~s):=by rw [if_neg (by decide),show IntKind.u64.max=ui (BitVec.allOnes 64) by decide +kernel,aGn];congr 1
theorem aOx (n:Nat):yT Tryz.prog 251 [.int .i64 n] (.int .u64 (ui (qE n))):=by
 refine xX.xR mixed Tryz.func251 bWl (by simp) fun hf=>?_;unfold qE
 by_cases h:64<=n
 ·have e:(64:Int)<=(n:Int):=by omega
  rw [if_pos h];simp only [simprocAttr,-ZA,↓zU,↓zD,zV,zT,zW,e];exact .same
 ·have e:¬ (64:Int)<=(n:Int):=by omega
  rw [if_neg h];simp only [simprocAttr,-ZA,↓zU,↓zD,zV,zT,zW,e]
  (repeat refine sd ?_)
  exact .same
namespace Ru
structure aRp (r : List (BitVec 64)) : Prop where
 len:r.length<=64
 ins:∀ x ∈ r,aWe r.length x=false
def aS9 (r:List (BitVec 64)) (s:BitVec 64):Nat->BitVec 64
 | 0=>0#64
 | w+1=>if (r.getD w 0 &&& ~~~s==0#64)= true then aS9 r s w ||| 1#64 <<< w else aS9 r s w
def aXm (r:List (BitVec 64)) (s:BitVec 64):BitVec 64:=aS9 r s r.length
def aC9 (r:List (BitVec 64)) (s:BitVec 64):BitVec 64:=qE r.length &&& ~~~(aXm r (~~~s))
end Ru
theorem fF {r:List (BitVec 64)} (ok:aRp r):yT Tryz.prog 250 [.int .i64 r.length,.sl 1 (us r)] (.int .i64 0):=by
 have h1:¬ ((r.length:Int)<0):=by omega
 have h2:¬ ((64:Int)<(r.length:Int)):=by have:=ok.len; omega
 have h3:((r.length:Int) != (r.length:Int))= false:=by simp
 have ha:=aOx r.length;refine xX.xR mixed Tryz.func250 bWm (by simp) fun hf=>?_;simp only [simprocAttr,-ZA,↓zU,↓zD,zV,zT,zW,xQ,h1,h2,h3]
 refine xW (fun k:Nat=>[(19,.int .i64 k),(18,.int .i64 r.length),(17,.sl 1 (us r)),(0,.int .i64 r.length)]) (fun _=>⟨0,[]⟩) (fun k=>k<=r.length) (fun k=>r.length-k) 0 (Nat.zero_le _) ?_ ?_
 ·(refine xI.same ?_; simp [xP,Fr.get])
 intro k hk;refine xN mixed ?_
 by_cases h:k<r.length
 ·have hd:((k:Int)<(r.length:Int)):=by omega
  have hx:=ok.ins _ (xK (d:=0) h)
  have e:(r.getD k 0 &&& ~~~(qE r.length) != 0#64)= false:=by have:=hx;unfold aWe at this;rw [bne];simpa using this
  have hg:=wS r h;simp only [simprocAttr,-ZA,↓zU,↓zD,zV,zT,zW,hd,xQ,hg]
  (repeat refine sd ?_)
  refine .go (cq ha) ?_;simp only [simprocAttr,-ZA,↓zU,↓zD,zV,zT,zW,e]
  (repeat refine sd ?_)
  refine⟨k+1,by omega,?_,by omega⟩
  (refine xI.same ?_; simp only [xP,Fr.get,↓reduceIte,reduceIte,Nat.reduceEqDiff,reduceCtorEq,D.int.injEq,D.bool.injEq,D.sl.injEq,and_true,true_and,and_self])
  exact wrap_i64 (by omega)
 ·have hd:¬ ((k:Int)<(r.length:Int)):=by omega
  simp only [simprocAttr,-ZA,↓zU,↓zD,zV,zT,zW,hd];exact .same
theorem aX7 {r:List (BitVec 64)} (ok:aRp r) (s:BitVec 64):yT Tryz.prog 214 [.sl 1 (us r),.int .u64 (ui s)] (.int .u64 (ui (aXm r s))):=by
 have hc:=fF ok;have hl:=ok.len;refine xX.xR mixed Tryz.func214 bWz (by simp) fun hf=>?_;simp only [simprocAttr,-ZA,↓zU,↓zD,zV,zT,zW,xQ];refine .go (cr hc) ?_;simp only [simprocAttr,-ZA,↓zU,↓zD,zV,zT,zW,xQ]
 refine xW (fun k:Nat=>[(14,.int .i64 k),(13,.int .i64 r.length),(5,.int .u64 (ui (aS9 r s k))),(1,.int .u64 (ui s)),(0,.sl 1 (us r))]) (fun _=>⟨0,[]⟩) (fun k=>k<=r.length) (fun k=>r.length-k) 0 (Nat.zero_le _) ?_ ?_
 ·(refine xI.same ?_; simp [xP,Fr.get])
  rfl
 intro k hk;refine xN mixed ?_
 by_cases h:k<r.length
 ·have hd:((k:Int)<(r.length:Int)):=by omega
  have hg:=wS r h;have hs:aS9 r s (k+1)= if (r.getD k 0 &&& ~~~s==0#64)= true then aS9 r s k ||| 1#64 <<< k else aS9 r s k:=rfl
  cases e:(r.getD k 0 &&& ~~~s==0#64) with
  | true=>
   rw [e,if_pos rfl] at hs;simp only [simprocAttr,-ZA,↓zU,↓zD,zV,zT,zW,hd,xQ,hg,e]
   (repeat refine sd ?_)
   refine⟨k+1,by omega,?_,by omega⟩;rw [hs]
   (refine xI.same ?_; simp only [xP,Fr.get,↓reduceIte,reduceIte,Nat.reduceEqDiff,reduceCtorEq,D.int.injEq,D.bool.injEq,D.sl.injEq,and_true,true_and,and_self])
   exact wrap_i64 (by omega)
  | false=>
   rw [e,if_neg (by simp)] at hs;simp only [simprocAttr,-ZA,↓zU,↓zD,zV,zT,zW,hd,xQ,hg,e]
   (repeat refine sd ?_)
   refine⟨k+1,by omega,?_,by omega⟩;rw [hs]
   (refine xI.same ?_; simp only [xP,Fr.get,↓reduceIte,reduceIte,Nat.reduceEqDiff,reduceCtorEq,D.int.injEq,D.bool.injEq,D.sl.injEq,and_true,true_and,and_self])
   exact wrap_i64 (by omega)
 ·have hd:¬ ((k:Int)<(r.length:Int)):=by omega
  have hk':k=r.length:=by omega
  subst hk';simp only [simprocAttr,-ZA,↓zU,↓zD,zV,zT,zW,hd];exact .same
theorem aPk {r:List (BitVec 64)} (ok:aRp r) (s:BitVec 64):yT Tryz.prog 215 [.sl 1 (us r),.int .u64 (ui s)] (.int .u64 (ui (aC9 r s))):=by have hc:=fF ok;have ha:=aOx r.length;have hb:=aX7 ok (~~~s);refine xX.xR mixed Tryz.func215 bWy (by simp) fun hf=>?_;simp only [simprocAttr,-ZA,↓zU,↓zD,zV,zT,zW,xQ];refine .go (cr hc) ?_;simp only [simprocAttr,-ZA,↓zU,↓zD,zV,zT,zW,xQ];refine .go (cq ha) ?_;simp only [simprocAttr,-ZA,↓zU,↓zD,zV,zT,zW,bXk];refine .go (cr hb) ?_;simp only [simprocAttr,-ZA,↓zU,↓zD,zV,zT,zW];exact .drop (by simp) (by simp [vw,aC9])
section
open Rs Fm Ru
namespace Te
end Te
end
section
open Rs Fm Ru Te
namespace Te
end Te
end
section
open Rs Fm Ru Te
end
section
open Rs Fm Ru Te
namespace Te
end Te
end
section
open Rs Fm Ru Te
namespace Te
def shP (T:Nat) (s:Int) (φ:Nat × Nat->Bool) (p:Nat × Nat):Bool:=decide (0<=(p.2:Int)+ s)&& (decide ((p.2:Int)+ s<T)&& φ (p.1,((p.2:Int)+ s).toNat))
end Te
end
section
open Rs Fm Ru Te
end
section
open Rs Fm Ru
namespace Te
abbrev Tab :=Nat × Nat->Bool
section
variable (rs : List wC) (A T : Nat)
def ptl : List (Nat × Nat):=ptN T (rs.length*T)
def eH (a:Nat) (x:Tab) (p:Nat × Nat):Bool:=(ptl rs T).all fun q=>!decide (tZ rs a q=tZ rs a p) || x q
def pU (g:Nat) (x:Tab) (p:Nat × Nat):Bool:=(List.range A).all fun a=>!g.testBit a || eH rs T a x p
def bXz (g:Nat) (p q:Nat × Nat):Bool:=(List.range A).all fun a=>!g.testBit a || decide (tZ rs a p=tZ rs a q)
def aB3 (g:Nat) (x:Tab) (p:Nat × Nat):Bool:=(ptl rs T).all fun q=>!bXz rs A g p q || x q
def aFo (g:Nat) (x y now:Tab):Tab:=pU rs A T g fun q=>!x q || (y q&&now q)
def eM (g:Nat) (x y:Tab):Nat->Tab
 | 0=>fun _=>true
 | n+1=>aFo rs A T g x y (eM g x y n)
def aVi (g:Nat) (x y:Tab):Tab:=eM rs A T g x y (rs.length*T)
end
def tmU (T:Nat) (s:Int) (k:Nat):Nat:=if 0<s then T-1-k else k
def bZq (T:Nat) (s:Int) (x y:Tab) (i:Nat):Nat->Bool
 | 0=>false
 | k+1=>y (i,tmU T s k) || (x (i,tmU T s k)&& bZq T s x y i k)
def bZo (T:Nat) (s:Int) (x y:Tab) (p:Nat × Nat):Bool:=bZq T s x y p.1 (if 0<s then T-p.2 else p.2+1)
def aB5 (rs:List wC) (n:Nd) (x y:Tab) (p:Nat × Nat):Bool:=
 if n.op=1 then true else if n.op=3 then(aKn rs p).getLsbD n.i.toNat else if n.op=4 then !x p else if n.op=5 then x p&&y p else if n.op=6 then x p || y p
 else if n.op=7 then !x p || y p else if n.op=8 then x p==y p else false
def aRg (rs:List wC) (A T:Nat) (n:Nd) (x y:Tab):Tab:=
 if n.op=9 then eH rs T n.i.toNat x else if n.op=10 then fun p=>!eH rs T n.i.toNat (fun q=>!x q) p else if n.op=11 then pU rs A T n.g.toNat x
 else if n.op=12 then aB3 rs A T n.g.toNat x else if n.op=13 then aVi rs A T n.g.toNat x y else if n.op=18 then shP T 1 x else if n.op=20 then shP T (-1) x
 else if n.op=19 then bZo T 1 x y else if n.op=21 then bZo T (-1) x y else aB5 rs n x y
section
variable {rs : List wC} {A T : Nat}
theorem aVj {α:Type} {l:List α} {f g:α->Bool} (h:∀ q ∈ l,f q=g q):l.all f=l.all g:=by
 induction l with
 | nil=>rfl
 | cons a r ih=>rw [List.all_cons,List.all_cons,h a (by simp),ih fun q hq=>h q (List.mem_cons_of_mem _ hq)]
theorem aV0 {a:Nat} {x y:Tab} {p:Nat × Nat} (h:∀ q ∈ ptl rs T,x q=y q):eH rs T a x p=eH rs T a y p:=aVj fun q hq=>by rw [h q hq]
theorem aZ9 {g:Nat} {x y:Tab} {p:Nat × Nat} (h:∀ q ∈ ptl rs T,x q=y q):pU rs A T g x p=pU rs A T g y p:=aVj fun a _=>by rw [aV0 h]
theorem aVp {g:Nat} {x y n m:Tab} {p:Nat × Nat} (h:∀ q ∈ ptl rs T,n q=m q):aFo rs A T g x y n p=aFo rs A T g x y m p:=aZ9 fun q hq=>by rw [h q hq]
theorem aV5 {g:Nat} {x y:Tab} {p:Nat × Nat} (h:∀ q ∈ ptl rs T,x q=true->y q=true) (hp:pU rs A T g x p=true):pU rs A T g y p=true:=by
 unfold pU eH at hp ⊢;simp only [List.all_eq_true,Bool.or_eq_true] at hp ⊢;intro a ha
 rcases hp a ha with h1 | h1
 ·exact .inl h1
 ·refine .inr fun q hq=>?_
  rcases h1 q hq with h2 | h2
  ·exact .inl h2
  ·exact .inr (h q hq h2)
theorem aZk (g:Nat) (x y:Tab):∀ (n:Nat) (p:Nat × Nat),eM rs A T g x y (n+1) p=true->eM rs A T g x y n p=true
 | 0,_,_=>rfl
 | n+1,p,h=>aV5 (fun q _ hq=>by
   simp only [Bool.or_eq_true,Bool.and_eq_true] at hq ⊢
   rcases hq with h1 | ⟨h1,h2⟩
   ·exact .inl h1
   ·exact .inr ⟨h1,aZk g x y n q h2⟩) h
theorem fN {g:Nat} {x y:Tab} {n:Nat} (h:∀ p ∈ ptl rs T,eM rs A T g x y (n+1) p=eM rs A T g x y n p):∀ (m:Nat) (p:Nat × Nat),p ∈ ptl rs T->eM rs A T g x y (n+m) p=eM rs A T g x y n p
 | 0,_,_=>rfl
 | m+1,p,hp=>by rw [<- h p hp];exact aVp fun q hq=>fN h m q hq
theorem countP_le {α:Type} {f g:α->Bool}:∀ {l:List α},(∀ q ∈ l,f q=true->g q=true)->l.countP f<=l.countP g
 | [],_=>by simp
 | a :: r,h=>by
  have ih:=countP_le (l:=r) fun q hq=>h q (List.mem_cons_of_mem _ hq);rw [List.countP_cons,List.countP_cons];have:=h a (by simp)
  by_cases e:f a=true
  ·rw [if_pos e,if_pos (this e)]; omega
  ·rw [if_neg e]; omega
theorem eT {α:Type} {f g:α->Bool}:∀ {l:List α},(∀ q ∈ l,f q=true->g q=true)->(∃ q ∈ l,f q≠g q)->l.countP f<l.countP g
 | [],_,h=>by obtain⟨q,hq,_⟩:=h; cases hq
 | a :: r,h,⟨q,hq,hne⟩=>by
  have h':∀ q ∈ r,f q=true->g q=true:=fun q hq=>h q (List.mem_cons_of_mem _ hq);have ih:=countP_le h';rw [List.countP_cons,List.countP_cons];have ha:=h a (by simp)
  by_cases e2:f a=g a
  ·have hr:∃ q ∈ r,f q≠g q:=by
    rcases List.mem_cons.1 hq with e | e
    ·subst e; exact absurd e2 hne
    ·exact⟨q,e,hne⟩
   have:=eT h' hr;rw [e2]; omega
  ·have h1:f a=false:=by cases e3:f a with
    | false=>rfl
    | true=>exact absurd (e3.trans (ha e3).symm) e2
   have h2:g a=true:=by cases e3:g a with
    | true=>rfl
    | false=>exact absurd (h1.trans e3.symm) e2
   rw [h1,h2];simp only [Bool.false_eq_true,if_false,if_true];omega
def aBa (rs:List wC) (A T g:Nat) (x y:Tab) (n:Nat):Nat:=(ptl rs T).countP (eM rs A T g x y n)
theorem aLw (g:Nat) (x y:Tab):aBa rs A T g x y 0=rs.length*T:=by unfold aBa ptl;rw [show eM rs A T g x y 0=fun _=>true from rfl,List.countP_true,rD]
theorem aZl {g:Nat} {x y:Tab} {n:Nat} (h:∃ p ∈ ptl rs T,eM rs A T g x y (n+1) p≠eM rs A T g x y n p):aBa rs A T g x y (n+1)<aBa rs A T g x y n:= eT (fun q _ hq=>aZk g x y n q hq) h
def aFf (rs:List wC) (A g:Nat) (p q:Nat × Nat):Bool:=(List.range A).any fun a=>g.testBit a&&decide (tZ rs a p=tZ rs a q)
theorem aQy {g:Nat} {x:Tab} {p:Nat × Nat}:pU rs A T g x p=true ↔ ∀ q ∈ ptl rs T,aFf rs A g p q=true->x q=true:=by
 unfold pU eH aFf;simp only [List.all_eq_true,List.any_eq_true,Bool.or_eq_true,Bool.and_eq_true,Bool.not_eq_true',decide_eq_true_eq,decide_eq_false_iff_not]
 constructor
 ·rintro h q hq ⟨a,ha,h1,h2⟩
  rcases h a ha with h3 | h3
  ·rw [h1] at h3; cases h3
  ·rcases h3 q hq with h4 | h4
   ·exact absurd h2.symm h4
   ·exact h4
 ·intro h a ha
  cases e:g.testBit a with
  | false=>exact .inl rfl
  | true=>
   refine .inr fun q hq=>?_
   by_cases e2:tZ rs a q=tZ rs a p
   ·exact .inr (h q hq ⟨a,ha,e,e2.symm⟩)
   ·exact .inl e2
theorem aHt (g:Nat) (x y:Tab):∃ n,n<=rs.length*T/\∀ p ∈ ptl rs T,eM rs A T g x y (n+1) p=eM rs A T g x y n p:=by
 have key:∀ (m n:Nat),aBa rs A T g x y n<=m->n+aBa rs A T g x y n<=rs.length*T->∃ n,n<=rs.length*T/\∀ p ∈ ptl rs T,eM rs A T g x y (n+1) p=eM rs A T g x y n p:=by
  intro m
  induction m with
  | zero=> intro n h1 h2;refine⟨n,by omega,fun p hp=>Decidable.byContradiction fun h=>?_⟩;have:=aZl (rs:=rs) (A:=A) (T:=T) ⟨p,hp,h⟩;omega
  | succ m ih=>
   intro n h1 h2
   by_cases h:∃ p ∈ ptl rs T,eM rs A T g x y (n+1) p≠eM rs A T g x y n p
   ·have:=aZl h;exact ih (n+1) (by omega) (by omega)
   ·exact⟨n,by omega,fun p hp=>Decidable.byContradiction fun h'=>h ⟨p,hp,h'⟩⟩
 exact key _ 0 (Nat.le_refl _) (by rw [aLw]; omega)
end
end Te
end
section
open Rs Fm Ru Te
namespace Te
end Te
end
section
open Rs Fm Ru Te
namespace Te
end Te
end
section
open Rs Fm Ru Te
namespace Te
def blk (x:Int):List (Int × Bool)->Bool
 | []=>false
 | (k,v) :: r=>if x=k then v else blk x r
end Te
end
section
open Rs Fm Ru Te
namespace Te
end Te
end
section
open Rs Fm Ru Te
namespace Te
theorem bXa {g a:Nat} (hg:g<2 ^ 60) (ha:a<=60):qI .and .i64 (aKj .i64 (g:Int) (a:Int)) 1=if g.testBit a then 1 else 0:=by
 have h2:g / 2 ^ a<=g:=Nat.div_le_self _ _;rw [jO _ _ ha,aCk (by omega),Nat.testBit_eq_decide_div_mod_eq];have:=Nat.mod_two_eq_zero_or_one (g / 2 ^ a)
 rcases this with h | h
 ·rw [h]; rfl
 ·rw [h]; rfl
end Te
end
section
open Rs Fm Ru Te
namespace Te
end Te
end
section
open Rs Fm Ru Te
end
section
open Rs Fm Ru Te
namespace Te
end Te
end
section
open Rs Fm Ru Te
namespace Te
end Te
end
open Rs Fm Ru Te
theorem aHu (s:BitVec 64) (l:List (BitVec 64)) (hl:l.length<=1000):xX Tryz.prog 122 [.sl 1 (us (s :: l))] St0 (.osl 0 1 (l.length+1)) ⟨1,[(0,⟨1,us (s :: l)⟩)]⟩:=by
 refine xX.xR mixed Tryz.func122 bZx (by simp) fun hf=>?_;have hln:(us (s :: l)).length=l.length+1:=by simp [us]
 have h1:=aOa (s :: l);have e:us (s :: l)= [.int .u64 (ui s)] :: us l:=rfl;rw [e] at hln h1 ⊢;simp only [simprocAttr,-ZA,↓zU,↓zD,zV,zT,zW];have hp:=rV (s :: l);rw [e] at hp;exact⟨by simp,h1,by omega,by omega,lF.name (n:=0) (by simp) hp (by simp [vw])⟩
theorem aQs {k sz:Nat} {a b:List (List D)} (h:a.length=b.length):yX k sz a=yX k sz b:=by
 cases a with
 | nil=>cases b with
  | nil=>rfl
  | cons e r=>simp at h
 | cons e r=>cases b with
  | nil=>simp at h
  | cons e' r'=>simp only [List.length_cons] at h; simp [yX,h]
theorem aMa (c:Nat) (l:List (BitVec 64)):(us l).map (D.zE c)= us l:=nJ c (rV l)
theorem aUc {n:Nat} {xS:List (Nat × Ob)} (l:List (BitVec 64)) (h:l ≠ []) (hl:l.length<=1000):xX Tryz.prog 122 [.sl 1 (us l)] ⟨n,xS⟩ (yX n 1 (us l)) ⟨n+1,yY n 1 (us l)++ xS⟩:=by
 cases l with
 | nil=>exact absurd rfl h
 | cons s l=> have:=xX.own (σ:=⟨n,xS⟩) (aHu s l (by simp at hl; omega)) (by simp [D.xU,D.xG]);simp only [D.shift,yQ,Ob.shift,aMa,List.cons_append,List.nil_append,Nat.add_zero] at this;simp only [aWy,cR,cS,xQ,List.cons_append,List.nil_append];exact this
namespace Ru
def op2 (meet:Bool) (a b:BitVec 64):BitVec 64:=if meet=true then a &&& b else a ||| b
def aKd (meet:Bool) (acc r:List (BitVec 64)):List (BitVec 64):=(List.range acc.length).map fun i=>op2 meet (acc.getD i 0) (r.getD i 0)
def iF (R:List (List (BitVec 64))) (G:Nat) (meet:Bool):Nat->List (BitVec 64)
 | 0=>[]
 | k+1=>if G.testBit k then(if (iF R G meet k).isEmpty then R.getD k [] else aKd meet (iF R G meet k) (R.getD k [])) else iF R G meet k
def zC (m:oE) (G:Nat) (meet:Bool):List (BitVec 64):=iF m.R G meet m.R.length
def aWg (meet:Bool) (acc r:List (BitVec 64)) (w:Nat):List (BitVec 64):=(List.range acc.length).map fun i=>if i<w then op2 meet (acc.getD i 0) (r.getD i 0) else acc.getD i 0
theorem aM7 (meet:Bool) (acc r:List (BitVec 64)):aWg meet acc r 0=acc:=by refine List.ext_getElem (by simp [aWg]) fun i h1 h2=>?_;simp [aWg,List.getD,h2]
theorem aI9 (meet:Bool) (acc r:List (BitVec 64)):aWg meet acc r acc.length=aKd meet acc r:=by unfold aWg aKd;refine List.map_congr_left fun i hi=>?_;rw [List.mem_range] at hi;rw [if_pos hi]
theorem aT0 (meet:Bool) (acc r:List (BitVec 64)) (w:Nat):(aWg meet acc r w).length=acc.length:=by simp [aWg]
theorem aDk {meet:Bool} {acc r:List (BitVec 64)} {w:Nat} (h:w<acc.length):(aWg meet acc r w).getD w 0=acc.getD w 0:=by simp [aWg,List.getD,h]
theorem aI8 {meet:Bool} {acc r:List (BitVec 64)} {w:Nat} (h:w<acc.length):(aWg meet acc r w).set w (op2 meet (acc.getD w 0) (r.getD w 0))= aWg meet acc r (w+1):=by
 refine List.ext_getElem (by simp [aWg]) fun i h1 h2=>?_;simp only [List.getElem_set,aWg,List.getElem_map,List.getElem_range]
 by_cases e:w=i
 ·subst e; simp
 ·rw [if_neg e]
  by_cases e2:i<w
  ·rw [if_pos e2,if_pos (by omega)]
  ·rw [if_neg e2,if_neg (by omega)]
theorem aD {m:oE} {W:Nat} (ok:mU m W) (G:Nat) (meet:Bool):∀ k,k<=m.R.length->iF m.R G meet k = []\/(iF m.R G meet k).length=W
 | 0,_=>.inl rfl
 | k+1,hk=>by
  have hr:=ok.row _ (xK (d:=[]) (show k<m.R.length by omega));rw [iF]
  split
  ·split
   ·exact .inr hr
   ·rcases aD ok G meet k (by omega) with h | h
    ·rename_i hn; rw [h] at hn; exact absurd rfl hn
    ·exact .inr (by simp [aKd,h])
  ·exact aD ok G meet k (by omega)
theorem aZt (R:List (List (BitVec 64))) (G:Nat) (meet:Bool) (k:Nat):iF R G meet (k+1)= if G.testBit k then(if (iF R G meet k).isEmpty then R.getD k [] else aKd meet (iF R G meet k) (R.getD k [])) else iF R G meet k:=rfl
end Ru
theorem aY7 {m:oE} {W:Nat} (ok:mU m W) {g:Nat} (hg:1<=g/\g<2 ^ m.R.length) (meet:Bool) (f:FuncId) (hop:∀ a b,yT Tryz.prog f [.int .u64 (ui a),.int .u64 (ui b)] (.int .u64 (ui (op2 meet a b)))):yT Tryz.prog 252 [m.d,.int .i64 (g:Int),.fn f []] (.sl 1 (us (zC m g meet))):=by
 have hc:=cX ok;have h4:=ok.hR;obtain⟨W1,W64⟩:=ok.hW;have hsh:=aW1 (k:=m.R.length) (by omega);have h2:¬ (g:Int)<1:=by omega
 have h3:¬ ((2 ^ m.R.length:Nat):Int)<=(g:Int):=by omega
 have hg60:g<2 ^ 60:=Nat.lt_of_lt_of_le hg.2 (Nat.pow_le_pow_right (by decide) (by omega));have hall:iF m.R g meet m.R.length=zC m g meet:=rfl;unfold oE.d at hc ⊢;refine xX.xR mixed Tryz.func252 bWk (by simp) fun hf=>?_;simp only [simprocAttr,-ZA,↓zU,↓zD,zV,zT,zW]
 (repeat refine sd ?_)
 refine .go (cr hc) ?_;simp only [simprocAttr,-ZA,↓zU,↓zD,zV,zT,zW,h2,h3,hsh,zQ]
 (repeat refine sd ?_)
 refine xW (fun k:Nat=>[(29,.int .i64 k),(28,.int .i64 m.R.length),(27,.sl 1 (rr m.R)),(7,yX 1 1 (us (iF m.R g meet k))),(2,.fn f []),(1,.int .i64 g)])
  (fun k=>⟨2,yY 1 1 (us (iF m.R g meet k))⟩) (fun k=>k<=m.R.length) (fun k=>m.R.length-k) 0 (Nat.zero_le _) ?_ ?_
 ·(refine xI.ren [] [1,0] (by simp) (by simp) (by decide) ?_; simp only [yJ,vwL,vw,vwF,sw,St.get,St.look,Fr.get,↓reduceIte,reduceIte,Nat.reduceEqDiff,Nat.reduceAdd,Nat.reduceBEq,Nat.reduceLT,Nat.reduceLeDiff,exists_eq_left',ne_eq,reduceCtorEq,zR,iF,wY,wZ,List.nil_append,vwL])
 intro k hk;refine xN mixed ?_
 by_cases h:k<m.R.length
 ·have hd:((k:Int)<(m.R.length:Int)):=by omega
  have hu:=tC (k:=k) (by omega);have hrl:=ok.row _ (xK (d:=[]) h);have hbr:=bXa hg60 (show k<=60 by omega);have hs:=aZt m.R g meet k;have hL:=aD ok g meet k hk;have hrg:=nX m.R h;generalize iF m.R g meet k=acc at hs hL ⊢;generalize m.R.getD k []=r at hrl hs hrg
  cases hb:g.testBit k with
  | false=>
   rw [hb] at hbr hs;simp only [simprocAttr,-ZA,↓zU,↓zD,zV,zT,zW,hd,hbr,hu,hrg,zQ]
   (repeat refine sd ?_)
   refine⟨k+1,by omega,?_,by omega⟩;rw [hs,if_neg (by simp)]
   (refine xI.same ?_; simp only [xP,Fr.get,↓reduceIte,reduceIte,Nat.reduceEqDiff,reduceCtorEq,D.int.injEq,D.bool.injEq,D.sl.injEq,and_true,true_and,and_self])
  | true=>
   rw [hb] at hbr hs;rw [if_pos rfl] at hs hbr
   by_cases he:acc = []
   ·subst he;rw [List.isEmpty_nil,if_pos rfl] at hs;simp only [simprocAttr,-ZA,↓zU,↓zD,zV,zT,zW,hd,hbr,hu,hrg,zQ,List.isEmpty_nil]
    (repeat refine sd ?_)
    have hrne:r ≠ []:=by rintro rfl; simp at hrl; omega
    refine .go (aUc r hrne (by omega)) ?_;simp only [simprocAttr,-ZA,↓zU,↓zD,zV,zT,zW,hu];refine⟨k+1,by omega,?_,by omega⟩;rw [hs]
    (refine xI.ren [(1,2)] [1] (by simp) (by simp) (by decide) ?_; simp only [yJ,vwL,vw,vwF,sw,St.get,St.look,Fr.get,↓reduceIte,reduceIte,Nat.reduceEqDiff,Nat.reduceAdd,Nat.reduceBEq,Nat.reduceLT,Nat.reduceLeDiff,exists_eq_left',ne_eq,reduceCtorEq,zR])
   ·have hie:acc.isEmpty=false:=by simpa using he
    have hiu:(us acc).isEmpty=false:=by cases acc with | nil=>exact absurd rfl he | cons a l=>rfl
    rw [hie,if_neg (by simp)] at hs;have hL1:acc.length=W:=hL.resolve_left he;simp only [simprocAttr,-ZA,↓zU,↓zD,zV,zT,zW,hd,hbr,hu,hrg,zQ,hiu]
    (repeat refine sd ?_)
    refine xW (fun w:Nat=>[(45,.int .i64 w),(44,.int .i64 acc.length),(29,.int .i64 k),(28,.int .i64 m.R.length),(27,.sl 1 (rr m.R)),(9,.sl 1 (us r)),(7,yX 1 1 (us acc)),(2,.fn f []),(1,.int .i64 g)])
     (fun w=>⟨2,yY 1 1 (us (aWg meet acc r w))⟩) (fun w=>w<=acc.length) (fun w=>acc.length-w) 0 (Nat.zero_le _) ?_ ?_
    ·rw [aM7]
     (refine xI.same ?_; simp [xP,Fr.get])
    intro w hw;refine xN mixed ?_
    by_cases h4:w<acc.length
    ·have hd4:((w:Int)<(acc.length:Int)):=by omega
     have hw4:=tC (k:=w) (by omega);have hx:w<r.length:=by omega
     have hx':(w:Int)<(r.length:Int):=by omega
     have hma:=aDk (meet:=meet) (r:=r) h4;have hms:=aI8 (meet:=meet) (r:=r) h4;have hml:=aT0 meet acc r w;have hmw:w<(aWg meet acc r w).length:=by omega
     generalize aWg meet acc r w=z at *;simp only [simprocAttr,-ZA,↓zU,↓zD,zV,zT,zW,hd4,hw4,wS _ hmw,wS _ hx,hma,hml,xQ]
     (repeat refine sd ?_)
     refine .go (xX.yR (hop (acc.getD w 0) (r.getD w 0)) rfl) ?_;simp only [simprocAttr,-ZA,↓zU,↓zD,zV,zT,zW,hd4,hw4,wS _ hmw,mT,hma,hml,hms,xQ]
     (repeat refine sd ?_)
     refine⟨w+1,by omega,?_,by omega⟩;rw [dK (by rw [xQ,xQ,aT0,hml])]
     (refine xI.same ?_; simp only [xP,Fr.get,↓reduceIte,reduceIte,Nat.reduceEqDiff,reduceCtorEq,D.int.injEq,D.bool.injEq,D.sl.injEq,and_true,true_and,and_self])
    ·have hd4:¬ ((w:Int)<(acc.length:Int)):=by omega
     have hw':w=acc.length:=by omega
     subst hw';rw [aI9];simp only [simprocAttr,-ZA,↓zU,↓zD,zV,zT,zW,hd4,hu];refine⟨k+1,by omega,?_,by omega⟩;rw [hs,aQs (show (us acc).length=(us (aKd meet acc r)).length by simp [us,aKd])]
     (refine xI.same ?_; simp only [xP,Fr.get,↓reduceIte,reduceIte,Nat.reduceEqDiff,reduceCtorEq,D.int.injEq,D.bool.injEq,D.sl.injEq,and_true,true_and,and_self])
 ·have hd:¬ ((k:Int)<(m.R.length:Int)):=by omega
  have hk':k=m.R.length:=by omega
  subst hk';rw [hall];simp only [simprocAttr,-ZA,↓zU,↓zD,zV,zT,zW,hd]
  (repeat refine sd ?_)
  refine .drop (by simp) ?_;simp only [yJ,vwL,vw,vwF,sw,St.get,St.look,Fr.get,↓reduceIte,reduceIte,Nat.reduceEqDiff,Nat.reduceAdd,Nat.reduceBEq,Nat.reduceLT,Nat.reduceLeDiff,exists_eq_left',ne_eq,reduceCtorEq,zR]
theorem aDo (a b:BitVec 64):yT Tryz.prog 254 [.int .u64 (ui a),.int .u64 (ui b)] (.int .u64 (ui (op2 false a b))):=by refine xX.xR mixed Tryz.func254 bWi (by simp) fun hf=>?_;simp only [simprocAttr,-ZA,↓zU,↓zD,zV,zT,zW];exact .same
theorem aDp (a b:BitVec 64):yT Tryz.prog 253 [.int .u64 (ui a),.int .u64 (ui b)] (.int .u64 (ui (op2 true a b))):=by refine xX.xR mixed Tryz.func253 bWj (by simp) fun hf=>?_;simp only [simprocAttr,-ZA,↓zU,↓zD,zV,zT,zW];exact .same
theorem aS3 {m:oE} {W:Nat} (ok:mU m W) {g:Nat} (hg:1<=g/\g<2 ^ m.R.length):yT Tryz.prog 217 [m.d,.int .i64 (g:Int)] (.sl 1 (us (zC m g false))):=by
 have h:=aY7 ok hg false 254 aDo;unfold oE.d at h ⊢;refine xX.xR mixed Tryz.func217 bWw (by simp) fun hf=>?_;simp only [simprocAttr,-ZA,↓zU,↓zD,zV,zT,zW]
 (repeat refine sd ?_)
 refine .go (cr h) ?_;simp only [simprocAttr,-ZA,↓zU,↓zD,zV,zT,zW];exact .drop (by simp) (by simp [vw])
theorem aCn {m:oE} {W:Nat} (ok:mU m W) {g:Nat} (hg:1<=g/\g<2 ^ m.R.length):yT Tryz.prog 216 [m.d,.int .i64 (g:Int)] (.sl 1 (us (zC m g true))):=by
 have h:=aY7 ok hg true 253 aDp;unfold oE.d at h ⊢;refine xX.xR mixed Tryz.func216 bWx (by simp) fun hf=>?_;simp only [simprocAttr,-ZA,↓zU,↓zD,zV,zT,zW]
 (repeat refine sd ?_)
 refine .go (cr h) ?_;simp only [simprocAttr,-ZA,↓zU,↓zD,zV,zT,zW];exact .drop (by simp) (by simp [vw])
open Rs Fm Ru Te
namespace Ru
def mY (r:List (BitVec 64)) (a c s:BitVec 64):Nat->BitVec 64
 | 0=>a
 | n+1=>aXm r (a &&& ~~~c ||| s &&& mY r a c s n)
theorem aZj {r:List (BitVec 64)} {a c s:BitVec 64} {n:Nat} (h:mY r a c s (n+1)= mY r a c s n):∀ m,mY r a c s (n+m)= mY r a c s n
 | 0=>rfl
 | m+1=>by show aXm r (a &&& ~~~c ||| s &&& mY r a c s (n+m))= _;rw [aZj h m];exact h
theorem aDs {n:Nat} (hn:n<=64) {x:BitVec 64} (h:aWe n x=false) {i:Nat} (hi:x.getLsbD i=true):i<n:=by
 unfold aWe at h;rw [Bool.not_eq_false',decide_eq_true_iff] at h;have h64:i<64:=Decidable.byContradiction fun hh=>by rw [BitVec.getLsbD_of_ge _ _ (by omega)] at hi; cases hi
 have:=congrArg (·.getLsbD i) h;simp only [BitVec.getLsbD_and,BitVec.getLsbD_not,sG hn h64,hi,h64,BitVec.getLsbD_zero] at this;simpa using this
def aPz (R:List (List (BitVec 64))) (G:Nat) (meet:Bool) (k w v:Nat):Bool:= if meet=true then(List.range k).all fun a=>!G.testBit a || ((R.getD a []).getD w 0).getLsbD v else(List.range k).any fun a=>G.testBit a&&((R.getD a []).getD w 0).getLsbD v
theorem aEz (meet:Bool) (a b:BitVec 64) (v:Nat):(op2 meet a b).getLsbD v=if meet=true then(a.getLsbD v&&b.getLsbD v) else(a.getLsbD v || b.getLsbD v):=by unfold op2;cases meet <;> simp
theorem fM (R:List (List (BitVec 64))) (G:Nat) (meet:Bool) (k w v:Nat):aPz R G meet (k+1) w v=if G.testBit k=true then(if meet=true then(aPz R G meet k w v&&((R.getD k []).getD w 0).getLsbD v) else(aPz R G meet k w v || ((R.getD k []).getD w 0).getLsbD v)) else aPz R G meet k w v:=by unfold aPz;simp only [List.range_succ,List.any_append,List.all_append,List.any_cons,List.any_nil,List.all_cons,List.all_nil,Bool.or_false,Bool.and_true];cases meet <;> cases hG:G.testBit k <;> simp
theorem aZu {m:oE} {W:Nat} (ok:mU m W) (G:Nat) (meet:Bool):∀ k,k<=m.R.length->((∀ a,a<k->G.testBit a=false)/\ iF m.R G meet k = [])\/((∃ a,a<k/\G.testBit a=true)/\ (iF m.R G meet k).length=W/\∀ w,w<W->∀ v,((iF m.R G meet k).getD w 0).getLsbD v=aPz m.R G meet k w v)
 | 0,_=>.inl ⟨fun a h=>by omega,rfl⟩
 | k + 1,hk=>by
  have hr:=ok.row _ (xK (d:=[]) (show k<m.R.length by omega));rw [aZt];have ih:=aZu ok G meet k (by omega)
  cases hb:G.testBit k with
  | false=>
   rw [if_neg (by simp)]
   rcases ih with ⟨h1,h2⟩ | ⟨⟨a,h1,h2⟩,h3,h4⟩
   ·refine .inl ⟨fun a ha=>?_,h2⟩
    by_cases e:a=k
    ·rw [e]; exact hb
    ·exact h1 a (by omega)
   ·refine .inr ⟨⟨a,by omega,h2⟩,h3,fun w hw v=>?_⟩;rw [fM,hb,h4 w hw v]; rfl
  | true=>
   rw [if_pos rfl];refine .inr ⟨⟨k,by omega,hb⟩,?_⟩
   rcases ih with ⟨h1,h2⟩ | ⟨_,h3,h4⟩
   ·rw [h2,List.isEmpty_nil,if_pos rfl];refine⟨hr,fun w hw v=>?_⟩;rw [fM,hb,if_pos rfl]
    have hz:aPz m.R G meet k w v=meet:=by
     unfold aPz
     cases meet
     ·simp only [Bool.false_eq_true,↓reduceIte,List.any_eq_false,List.mem_range];intro a ha;rw [h1 a ha]; simp
     ·simp only [↓reduceIte,List.all_eq_true,List.mem_range];intro a ha;rw [h1 a ha]; simp
    rw [hz];cases meet <;> simp
   ·have hne:(iF m.R G meet k).isEmpty=false:=by
     cases hc:iF m.R G meet k with
     | nil=>rw [hc] at h3; have:=ok.hW; simp at h3; omega
     | cons a b=>rfl
    rw [hne,if_neg (by simp)];refine⟨by simp [aKd,h3],fun w hw v=>?_⟩;rw [fM,hb,if_pos rfl,<- h4 w hw v]
    have:(aKd meet (iF m.R G meet k) (m.R.getD k [])).getD w 0=op2 meet ((iF m.R G meet k).getD w 0) ((m.R.getD k []).getD w 0):=by simp [aKd,List.getD,h3,hw]
    rw [this,aEz]
theorem eX {m:oE} {W:Nat} (ok:mU m W) {g:Nat} (hg:1<=g/\g<2 ^ m.R.length) (meet:Bool):(∃ a,a<m.R.length/\g.testBit a=true)/\ (zC m g meet).length=W/\∀ w,w<W->∀ v,((zC m g meet).getD w 0).getLsbD v=aPz m.R g meet m.R.length w v:=by
 rcases aZu ok g meet m.R.length (Nat.le_refl _) with ⟨h1,_⟩ | h
 ·exfalso
  have:g=0:=by
   refine Nat.eq_of_testBit_eq fun i=>?_;rw [Nat.zero_testBit]
   by_cases hi:i<m.R.length
   ·exact h1 i hi
   ·exact Nat.testBit_lt_two_pow (Nat.lt_of_lt_of_le hg.2 (Nat.pow_le_pow_right (by decide) (by omega)))
  omega
 ·exact h
theorem aGq {m:oE} {W:Nat} (ok:mU m W) {a:Nat} (ha:a<m.R.length):aRp (m.R.getD a []):=by have hm:=xK (d:=[]) ha;have:=ok.hW;refine⟨by rw [ok.row _ hm]; omega,fun x hx=>?_⟩;rw [ok.row _ hm];exact ok.rel _ hm x hx
theorem aP {m:oE} {W:Nat} (ok:mU m W) {g:Nat} (hg:1<=g/\g<2 ^ m.R.length) (meet:Bool):aRp (zC m g meet):=by
 obtain⟨⟨a,ha,hb⟩,hl,hv⟩:=eX ok hg meet;have hW:=ok.hW;refine⟨by rw [hl]; omega,fun x hx=>?_⟩;rw [hl];obtain⟨w,hw,rfl⟩:=List.mem_iff_getElem.1 hx;refine aW7 hW.2 fun v h=>?_;have hw':w<W:=by omega
 have e:(zC m g meet)[w]=(zC m g meet).getD w 0:=by simp [List.getD,hw]
 rw [e,hv w hw' v] at h
 have key:∀ b,b<m.R.length->((m.R.getD b []).getD w 0).getLsbD v=true->v<W:=fun b hb' h'=>by have hm:=xK (d:=[]) hb';exact aDs hW.2 (ok.rel _ hm _ (xK (d:=0) (by rw [ok.row _ hm]; exact hw'))) h'
 unfold aPz at h
 split at h
 ·rw [List.all_eq_true] at h;have:=h a (List.mem_range.2 ha);rw [hb] at this;exact key a ha (by simpa using this)
 ·rw [List.any_eq_true] at h;obtain⟨b,hb1,hb2⟩:=h;rw [Bool.and_eq_true] at hb2;exact key b (List.mem_range.1 hb1) hb2.2
end Ru
theorem aLv {r:List (BitVec 64)} (ok:aRp r) {a c s:BitVec 64} {N:Nat} (hN:mY r a c s (N+1)= mY r a c s N):yT Tryz.prog 218 [.sl 1 (us r),.int .u64 (ui a),.int .u64 (ui c),.int .u64 (ui s)] (.int .u64 (ui (mY r a c s N))):=by
 have hb:=fun x=>aX7 ok x;refine xX.xR mixed Tryz.func218 bWv (by simp) fun hf=>?_;simp only [simprocAttr,-ZA,↓zU,↓zD,zV,zT,zW]
 refine xW (fun n:Nat=>[(9,.int .u64 (ui (mY r a c s n))),(3,.int .u64 (ui s)),(2,.int .u64 (ui c)),(1,.int .u64 (ui a)),(0,.sl 1 (us r))]) (fun _=>⟨0,[]⟩) (fun n=>n<=N) (fun n=>N-n) 0 (Nat.zero_le _) ?_ ?_
 ·(refine xI.same ?_; simp [xP,Fr.get])
  rfl
 intro n hn;refine xN mixed ?_;have hs:mY r a c s (n+1)= aXm r (a &&& ~~~c ||| s &&& mY r a c s n):=rfl;simp only [simprocAttr,-ZA,↓zU,↓zD,zV,zT,zW];refine .go (xX.yR (hb (a &&& ~~~c ||| s &&& mY r a c s n)) (by simp [D.xU,D.xG])) ?_;rw [<- hs]
 by_cases e:mY r a c s (n+1)= mY r a c s n
 ·obtain⟨k,hk⟩:=Nat.exists_eq_add_of_le hn;have hst:=aZj e k;rw [hk,hst];have e':(mY r a c s (n+1)== mY r a c s n)= true:=by rw [e]; simp
  simp only [simprocAttr,-ZA,↓zU,↓zD,zV,zT,zW,e'];exact .same
 ·have e':(mY r a c s (n+1)== mY r a c s n)= false:=by rw [beq_eq_false_iff_ne]; exact e
  have hlt:n<N:=Decidable.byContradiction fun h=>e (by rw [show n=N by omega]; exact hN);simp only [simprocAttr,-ZA,↓zU,↓zD,zV,zT,zW,e'];refine⟨n+1,by omega,?_,by omega⟩
  (refine xI.same ?_; simp only [xP,Fr.get,↓reduceIte,reduceIte,Nat.reduceEqDiff,reduceCtorEq,D.int.injEq,D.bool.injEq,D.sl.injEq,and_true,true_and,and_self])
end Go.Pd
