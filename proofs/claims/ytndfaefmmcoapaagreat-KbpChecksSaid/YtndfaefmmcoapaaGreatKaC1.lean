/- Part C1. -/
import Derived.Test.YtndfaefmmcoapaaGreatKaKG
import Derived.Test.YtndfaefmmcoapaaGreatKaP8
set_option linter.unusedSectionVars false
set_option linter.unusedVariables false
set_option linter.unusedSimpArgs false
set_option linter.defProp false
set_option maxRecDepth 20000
set_option maxHeartbeats 1000000
namespace Go.Pd
open Go Go.Proofs
open Int renaming reduceToNat -> ZA, reduceLT -> ZB, reduceLE -> ZC, reduceBEq -> ZD, reduceBNe -> ZE
open Nat renaming reduceEqDiff -> ZF, reduceAdd -> ZG, reduceBEq -> ZH, reduceLT -> ZI, reduceLeDiff -> ZJ, reduceMul -> ZK
open Ru
theorem aCi (s:BitVec 64):rQ .xor .u64 (if IntKind.u64.signed=true then -1 else IntKind.u64.max) (ui s)= ui (~~~s):=by
 rw [if_neg (by decide),show IntKind.u64.max=ui (BitVec.allOnes 64) by decide +kernel,aJ0];congr 1
theorem aQc (n:Nat):yX Tryz.prog 251 [.int .i64 n] (.int .u64 (ui (rM n))):=by
 refine xX.go_fn mixed Tryz.func251 aA9 (by simp) fun hf=>?_;unfold rM
 by_cases h:64<=n
 ·have e:(64:Int)<=(n:Int):=by omega
  rw [if_pos h];simp only [ZA,ZB,ZC,ZD,ZE,↓reduceIte,ZF,ZG,ZH,ZI,ZJ,reduceCtorEq,ZK,↓zU,↓zD,zV,zT,zW,e];exact .same
 ·have e:¬ (64:Int)<=(n:Int):=by omega
  rw [if_neg h];simp only [ZA,ZB,ZC,ZD,ZE,↓reduceIte,ZF,ZG,ZH,ZI,ZJ,reduceCtorEq,ZK,↓zU,↓zD,zV,zT,zW,e]
  (repeat refine sd ?_)
  exact .same
namespace Ru
structure aTb (r : List (BitVec 64)) : Prop where
 len:r.length<=64
 ins:∀ x ∈ r,aYe r.length x=false
def aUx (r:List (BitVec 64)) (s:BitVec 64):Nat->BitVec 64
 | 0=>0#64
 | w+1=>if (r.getD w 0 &&& ~~~s==0#64)= true then aUx r s w ||| 1#64 <<< w else aUx r s w
def cE (r:List (BitVec 64)) (s:BitVec 64):BitVec 64:=aUx r s r.length
def aEg (r:List (BitVec 64)) (s:BitVec 64):BitVec 64:=rM r.length &&& ~~~(cE r (~~~s))
end Ru
theorem iK {r:List (BitVec 64)} (ok:aTb r):yX Tryz.prog 250 [.int .i64 r.length,.sl 1 (us r)] (.int .i64 0):=by
 have h1:¬ ((r.length:Int)<0):=by omega
 have h2:¬ ((64:Int)<(r.length:Int)):=by have:=ok.len; omega
 have h3:((r.length:Int) != (r.length:Int))= false:=by simp
 have ha:=aQc r.length;refine xX.go_fn mixed Tryz.func250 bXa (by simp) fun hf=>?_;simp only [ZA,ZB,ZC,ZD,ZE,↓reduceIte,ZF,ZG,ZH,ZI,ZJ,reduceCtorEq,ZK,↓zU,↓zD,zV,zT,zW,xR,h1,h2,h3]
 refine xV (fun k:Nat=>[(19,.int .i64 k),(18,.int .i64 r.length),(17,.sl 1 (us r)),(0,.int .i64 r.length)]) (fun _=>⟨0,[]⟩) (fun k=>k<=r.length) (fun k=>r.length-k) 0 (Nat.zero_le _) ?_ ?_
 ·(refine xM.same ?_; simp [xS,Fr.get])
 intro k hk;refine xQ mixed ?_
 by_cases h:k<r.length
 ·have hd:((k:Int)<(r.length:Int)):=by omega
  have hx:=ok.ins _ (xN (d:=0) h)
  have e:(r.getD k 0 &&& ~~~(rM r.length) != 0#64)= false:=by
   have:=hx;unfold aYe at this;rw [bne];simpa using this
  have hg:=zI r h;simp only [ZA,ZB,ZC,ZD,ZE,↓reduceIte,ZF,ZG,ZH,ZI,ZJ,reduceCtorEq,ZK,↓zU,↓zD,zV,zT,zW,hd,xR,hg]
  (repeat refine sd ?_)
  refine .go (cq ha) ?_;simp only [ZA,ZB,ZC,ZD,ZE,↓reduceIte,ZF,ZG,ZH,ZI,ZJ,reduceCtorEq,ZK,↓zU,↓zD,zV,zT,zW,e]
  (repeat refine sd ?_)
  refine⟨k+1,by omega,?_,by omega⟩
  (refine xM.same ?_; simp only [xS,Fr.get,↓reduceIte,reduceIte,Nat.reduceEqDiff,reduceCtorEq,D.int.injEq,D.bool.injEq,D.sl.injEq,and_true,true_and,and_self])
  exact wrap_i64 (by omega)
 ·have hd:¬ ((k:Int)<(r.length:Int)):=by omega
  simp only [ZA,ZB,ZC,ZD,ZE,↓reduceIte,ZF,ZG,ZH,ZI,ZJ,reduceCtorEq,ZK,↓zU,↓zD,zV,zT,zW,hd];exact .same
theorem bJ {r:List (BitVec 64)} (ok:aTb r) (s:BitVec 64):yX Tryz.prog 214 [.sl 1 (us r),.int .u64 (ui s)] (.int .u64 (ui (cE r s))):=by
 have hc:=iK ok;have hl:=ok.len;refine xX.go_fn mixed Tryz.func214 bXn (by simp) fun hf=>?_;simp only [ZA,ZB,ZC,ZD,ZE,↓reduceIte,ZF,ZG,ZH,ZI,ZJ,reduceCtorEq,ZK,↓zU,↓zD,zV,zT,zW,xR];refine .go (cr hc) ?_;simp only [ZA,ZB,ZC,ZD,ZE,↓reduceIte,ZF,ZG,ZH,ZI,ZJ,reduceCtorEq,ZK,↓zU,↓zD,zV,zT,zW,xR]
 refine xV (fun k:Nat=>[(14,.int .i64 k),(13,.int .i64 r.length),(5,.int .u64 (ui (aUx r s k))),(1,.int .u64 (ui s)),(0,.sl 1 (us r))]) (fun _=>⟨0,[]⟩) (fun k=>k<=r.length) (fun k=>r.length-k) 0 (Nat.zero_le _) ?_ ?_
 ·(refine xM.same ?_; simp [xS,Fr.get])
  rfl
 intro k hk;refine xQ mixed ?_
 by_cases h:k<r.length
 ·have hd:((k:Int)<(r.length:Int)):=by omega
  have hg:=zI r h;have hs:aUx r s (k+1)= if (r.getD k 0 &&& ~~~s==0#64)= true then aUx r s k ||| 1#64 <<< k else aUx r s k:=rfl
  cases e:(r.getD k 0 &&& ~~~s==0#64) with
  | true=>
   rw [e,if_pos rfl] at hs;simp only [ZA,ZB,ZC,ZD,ZE,↓reduceIte,ZF,ZG,ZH,ZI,ZJ,reduceCtorEq,ZK,↓zU,↓zD,zV,zT,zW,hd,xR,hg,e]
   (repeat refine sd ?_)
   refine⟨k+1,by omega,?_,by omega⟩;rw [hs]
   (refine xM.same ?_; simp only [xS,Fr.get,↓reduceIte,reduceIte,Nat.reduceEqDiff,reduceCtorEq,D.int.injEq,D.bool.injEq,D.sl.injEq,and_true,true_and,and_self])
   exact wrap_i64 (by omega)
  | false=>
   rw [e,if_neg (by simp)] at hs;simp only [ZA,ZB,ZC,ZD,ZE,↓reduceIte,ZF,ZG,ZH,ZI,ZJ,reduceCtorEq,ZK,↓zU,↓zD,zV,zT,zW,hd,xR,hg,e]
   (repeat refine sd ?_)
   refine⟨k+1,by omega,?_,by omega⟩;rw [hs]
   (refine xM.same ?_; simp only [xS,Fr.get,↓reduceIte,reduceIte,Nat.reduceEqDiff,reduceCtorEq,D.int.injEq,D.bool.injEq,D.sl.injEq,and_true,true_and,and_self])
   exact wrap_i64 (by omega)
 ·have hd:¬ ((k:Int)<(r.length:Int)):=by omega
  have hk':k=r.length:=by omega
  subst hk';simp only [ZA,ZB,ZC,ZD,ZE,↓reduceIte,ZF,ZG,ZH,ZI,ZJ,reduceCtorEq,ZK,↓zU,↓zD,zV,zT,zW,hd];exact .same
theorem aS5 {r:List (BitVec 64)} (ok:aTb r) (s:BitVec 64):yX Tryz.prog 215 [.sl 1 (us r),.int .u64 (ui s)] (.int .u64 (ui (aEg r s))):=by
 have hc:=iK ok;have ha:=aQc r.length;have hb:=bJ ok (~~~s);refine xX.go_fn mixed Tryz.func215 bXm (by simp) fun hf=>?_;simp only [ZA,ZB,ZC,ZD,ZE,↓reduceIte,ZF,ZG,ZH,ZI,ZJ,reduceCtorEq,ZK,↓zU,↓zD,zV,zT,zW,xR];refine .go (cr hc) ?_;simp only [ZA,ZB,ZC,ZD,ZE,↓reduceIte,ZF,ZG,ZH,ZI,ZJ,reduceCtorEq,ZK,↓zU,↓zD,zV,zT,zW,xR];refine .go (cq ha) ?_;simp only [ZA,ZB,ZC,ZD,ZE,↓reduceIte,ZF,ZG,ZH,ZI,ZJ,reduceCtorEq,ZK,↓zU,↓zD,zV,zT,zW,aCi];refine .go (cr hb) ?_;simp only [ZA,ZB,ZC,ZD,ZE,↓reduceIte,ZF,ZG,ZH,ZI,ZJ,reduceCtorEq,ZK,↓zU,↓zD,zV,zT,zW];exact .drop (by simp) (by simp [vw,aEg])
section
open Rs Fm Ru
namespace Te
end Te
end
section
open Rs Fm Ru Te
namespace Te
end Te
end
section
open Rs Fm Ru Te
end
section
open Rs Fm Ru Te
namespace Te
end Te
end
section
open Rs Fm Ru Te
namespace Te
def shP (T:Nat) (s:Int) (φ:Nat × Nat->Bool) (p:Nat × Nat):Bool:=decide (0<=(p.2:Int)+ s)&& (decide ((p.2:Int)+ s<T)&& φ (p.1,((p.2:Int)+ s).toNat))
end Te
end
section
open Rs Fm Ru Te
end
section
open Rs Fm Ru
namespace Te
abbrev Tab :=Nat × Nat->Bool
section
variable (rs : List wO) (A T : Nat)
def ptl : List (Nat × Nat):=ptN T (rs.length*T)
def gM (a:Nat) (x:Tab) (p:Nat × Nat):Bool:=(ptl rs T).all fun q=>!decide (uT rs a q=uT rs a p) || x q
def rG (g:Nat) (x:Tab) (p:Nat × Nat):Bool:=(List.range A).all fun a=>!g.testBit a || gM rs T a x p
def aCy (g:Nat) (p q:Nat × Nat):Bool:=(List.range A).all fun a=>!g.testBit a || decide (uT rs a p=uT rs a q)
def aE5 (g:Nat) (x:Tab) (p:Nat × Nat):Bool:=(ptl rs T).all fun q=>!aCy rs A g p q || x q
def aIu (g:Nat) (x y now:Tab):Tab:=rG rs A T g fun q=>!x q || (y q&&now q)
def gT (g:Nat) (x y:Tab):Nat->Tab
 | 0=>fun _=>true
 | n+1=>aIu rs A T g x y (gT g x y n)
def aZh (g:Nat) (x y:Tab):Tab:=gT rs A T g x y (rs.length*T)
end
def tmU (T:Nat) (s:Int) (k:Nat):Nat:=if 0<s then T-1-k else k
def aAk (T:Nat) (s:Int) (x y:Tab) (i:Nat):Nat->Bool
 | 0=>false
 | k+1=>y (i,tmU T s k) || (x (i,tmU T s k)&& aAk T s x y i k)
def aAi (T:Nat) (s:Int) (x y:Tab) (p:Nat × Nat):Bool:=aAk T s x y p.1 (if 0<s then T-p.2 else p.2+1)
def aE7 (rs:List wO) (n:Nd) (x y:Tab) (p:Nat × Nat):Bool:=
 if n.op=1 then true else if n.op=3 then(aNy rs p).getLsbD n.i.toNat else if n.op=4 then !x p else if n.op=5 then x p&&y p else if n.op=6 then x p || y p
 else if n.op=7 then !x p || y p else if n.op=8 then x p==y p else false
def aU3 (rs:List wO) (A T:Nat) (n:Nd) (x y:Tab):Tab:=
 if n.op=9 then gM rs T n.i.toNat x else if n.op=10 then fun p=>!gM rs T n.i.toNat (fun q=>!x q) p else if n.op=11 then rG rs A T n.g.toNat x
 else if n.op=12 then aE5 rs A T n.g.toNat x else if n.op=13 then aZh rs A T n.g.toNat x y else if n.op=18 then shP T 1 x else if n.op=20 then shP T (-1) x
 else if n.op=19 then aAi T 1 x y else if n.op=21 then aAi T (-1) x y else aE7 rs n x y
section
variable {rs : List wO} {A T : Nat}
theorem aZi {α:Type} {l:List α} {f g:α->Bool} (h:∀ q ∈ l,f q=g q):l.all f=l.all g:=by
 induction l with
 | nil=>rfl
 | cons a r ih=>rw [List.all_cons,List.all_cons,h a (by simp),ih fun q hq=>h q (List.mem_cons_of_mem _ hq)]
theorem aZ0 {a:Nat} {x y:Tab} {p:Nat × Nat} (h:∀ q ∈ ptl rs T,x q=y q):gM rs T a x p=gM rs T a y p:=aZi fun q hq=>by rw [h q hq]
theorem aX8 {g:Nat} {x y:Tab} {p:Nat × Nat} (h:∀ q ∈ ptl rs T,x q=y q):rG rs A T g x p=rG rs A T g y p:=aZi fun a _=>by rw [aZ0 h]
theorem aZp {g:Nat} {x y n m:Tab} {p:Nat × Nat} (h:∀ q ∈ ptl rs T,n q=m q):aIu rs A T g x y n p=aIu rs A T g x y m p:=aX8 fun q hq=>by rw [h q hq]
theorem aZ5 {g:Nat} {x y:Tab} {p:Nat × Nat} (h:∀ q ∈ ptl rs T,x q=true->y q=true) (hp:rG rs A T g x p=true):rG rs A T g y p=true:=by
 unfold rG gM at hp ⊢;simp only [List.all_eq_true,Bool.or_eq_true] at hp ⊢;intro a ha
 rcases hp a ha with h1 | h1
 ·exact .inl h1
 ·refine .inr fun q hq=>?_
  rcases h1 q hq with h2 | h2
  ·exact .inl h2
  ·exact .inr (h q hq h2)
theorem aXk (g:Nat) (x y:Tab):∀ (n:Nat) (p:Nat × Nat),gT rs A T g x y (n+1) p=true->gT rs A T g x y n p=true
 | 0,_,_=>rfl
 | n+1,p,h=>aZ5 (fun q _ hq=>by
   simp only [Bool.or_eq_true,Bool.and_eq_true] at hq ⊢
   rcases hq with h1 | ⟨h1,h2⟩
   ·exact .inl h1
   ·exact .inr ⟨h1,aXk g x y n q h2⟩) h
theorem iS {g:Nat} {x y:Tab} {n:Nat} (h:∀ p ∈ ptl rs T,gT rs A T g x y (n+1) p=gT rs A T g x y n p):∀ (m:Nat) (p:Nat × Nat),p ∈ ptl rs T->gT rs A T g x y (n+m) p=gT rs A T g x y n p
 | 0,_,_=>rfl
 | m+1,p,hp=>by
  rw [<- h p hp];exact aZp fun q hq=>iS h m q hq
theorem countP_le {α:Type} {f g:α->Bool}:∀ {l:List α},(∀ q ∈ l,f q=true->g q=true)->l.countP f<=l.countP g
 | [],_=>by simp
 | a :: r,h=>by
  have ih:=countP_le (l:=r) fun q hq=>h q (List.mem_cons_of_mem _ hq);rw [List.countP_cons,List.countP_cons];have:=h a (by simp)
  by_cases e:f a=true
  ·rw [if_pos e,if_pos (this e)]; omega
  ·rw [if_neg e]; omega
theorem gX {α:Type} {f g:α->Bool}:∀ {l:List α},(∀ q ∈ l,f q=true->g q=true)->(∃ q ∈ l,f q≠g q)->l.countP f<l.countP g
 | [],_,h=>by obtain⟨q,hq,_⟩:=h; cases hq
 | a :: r,h,⟨q,hq,hne⟩=>by
  have h':∀ q ∈ r,f q=true->g q=true:=fun q hq=>h q (List.mem_cons_of_mem _ hq);have ih:=countP_le h';rw [List.countP_cons,List.countP_cons];have ha:=h a (by simp)
  by_cases e2:f a=g a
  ·have hr:∃ q ∈ r,f q≠g q:=by
    rcases List.mem_cons.1 hq with e | e
    ·subst e; exact absurd e2 hne
    ·exact⟨q,e,hne⟩
   have:=gX h' hr;rw [e2]; omega
  ·have h1:f a=false:=by cases e3:f a with
    | false=>rfl
    | true=>exact absurd (e3.trans (ha e3).symm) e2
   have h2:g a=true:=by cases e3:g a with
    | true=>rfl
    | false=>exact absurd (h1.trans e3.symm) e2
   rw [h1,h2];simp only [Bool.false_eq_true,if_false,if_true];omega
def aEh (rs:List wO) (A T g:Nat) (x y:Tab) (n:Nat):Nat:=(ptl rs T).countP (gT rs A T g x y n)
theorem aO7 (g:Nat) (x y:Tab):aEh rs A T g x y 0=rs.length*T:=by
 unfold aEh ptl;rw [show gT rs A T g x y 0=fun _=>true from rfl,List.countP_true,sJ]
theorem aXl {g:Nat} {x y:Tab} {n:Nat} (h:∃ p ∈ ptl rs T,gT rs A T g x y (n+1) p≠gT rs A T g x y n p):aEh rs A T g x y (n+1)<aEh rs A T g x y n:=
 gX (fun q _ hq=>aXk g x y n q hq) h
def aIo (rs:List wO) (A g:Nat) (p q:Nat × Nat):Bool:=(List.range A).any fun a=>g.testBit a&&decide (uT rs a p=uT rs a q)
theorem aSh {g:Nat} {x:Tab} {p:Nat × Nat}:rG rs A T g x p=true ↔ ∀ q ∈ ptl rs T,aIo rs A g p q=true->x q=true:=by
 unfold rG gM aIo;simp only [List.all_eq_true,List.any_eq_true,Bool.or_eq_true,Bool.and_eq_true,Bool.not_eq_true',decide_eq_true_eq,decide_eq_false_iff_not]
 constructor
 ·rintro h q hq ⟨a,ha,h1,h2⟩
  rcases h a ha with h3 | h3
  ·rw [h1] at h3; cases h3
  ·rcases h3 q hq with h4 | h4
   ·exact absurd h2.symm h4
   ·exact h4
 ·intro h a ha
  cases e:g.testBit a with
  | false=>exact .inl rfl
  | true=>
   refine .inr fun q hq=>?_
   by_cases e2:uT rs a q=uT rs a p
   ·exact .inr (h q hq ⟨a,ha,e,e2.symm⟩)
   ·exact .inl e2
theorem aK7 (g:Nat) (x y:Tab):∃ n,n<=rs.length*T/\∀ p ∈ ptl rs T,gT rs A T g x y (n+1) p=gT rs A T g x y n p:=by
 have key:∀ (m n:Nat),aEh rs A T g x y n<=m->n+aEh rs A T g x y n<=rs.length*T->∃ n,n<=rs.length*T/\∀ p ∈ ptl rs T,gT rs A T g x y (n+1) p=gT rs A T g x y n p:=by
  intro m
  induction m with
  | zero=>
   intro n h1 h2;refine⟨n,by omega,fun p hp=>Decidable.byContradiction fun h=>?_⟩;have:=aXl (rs:=rs) (A:=A) (T:=T) ⟨p,hp,h⟩;omega
  | succ m ih=>
   intro n h1 h2
   by_cases h:∃ p ∈ ptl rs T,gT rs A T g x y (n+1) p≠gT rs A T g x y n p
   ·have:=aXl h;exact ih (n+1) (by omega) (by omega)
   ·exact⟨n,by omega,fun p hp=>Decidable.byContradiction fun h'=>h ⟨p,hp,h'⟩⟩
 exact key _ 0 (Nat.le_refl _) (by rw [aO7]; omega)
end
end Te
end
section
open Rs Fm Ru Te
namespace Te
end Te
end
section
open Rs Fm Ru Te
namespace Te
end Te
end
section
open Rs Fm Ru Te
namespace Te
def blk (x:Int):List (Int × Bool)->Bool
 | []=>false
 | (k,v) :: r=>if x=k then v else blk x r
end Te
end
section
open Rs Fm Ru Te
namespace Te
end Te
end
section
open Rs Fm Ru Te
namespace Te
theorem aD8 {g a:Nat} (hg:g<2 ^ 60) (ha:a<=60):rQ .and .i64 (aNv .i64 (g:Int) (a:Int)) 1=if g.testBit a then 1 else 0:=by
 have h2:g / 2 ^ a<=g:=Nat.div_le_self _ _;rw [lS _ _ ha,aFr (by omega),Nat.testBit_eq_decide_div_mod_eq];have:=Nat.mod_two_eq_zero_or_one (g / 2 ^ a)
 rcases this with h | h
 ·rw [h]; rfl
 ·rw [h]; rfl
end Te
end
section
open Rs Fm Ru Te
namespace Te
end Te
end
section
open Rs Fm Ru Te
end
section
open Rs Fm Ru Te
namespace Te
end Te
end
section
open Rs Fm Ru Te
namespace Te
end Te
end
end Go.Pd
