/- Part SO. -/
import Derived.Test.YtndfaefmmcoapaaGreatUeSF
import Derived.Test.YtndfaefmmcoapaaGreatUeLJ
set_option linter.unusedSectionVars false
set_option linter.unusedVariables false
set_option linter.unusedSimpArgs false
set_option linter.defProp false
set_option maxRecDepth 20000
set_option maxHeartbeats 1000000
namespace Go.Pd
open Go Go.Proofs
open BitVec renaming isValue -> ZA
open Ru
namespace Ru
def mH (u:List (Int × List Int)):List (Int × D):=u.map fun p=>(p.1,.sl 1 (rows .i64 p.2))
def lkH (x:Int):List (Int × List Int)->Option (List Int)
 | []=>none
 | (k,v) :: r=>if x=k then some v else lkH x r
def aFz (x:Int) (v:List Int):List (Int × List Int)->List (Int × List Int)
 | []=>[(x,v)]
 | (k,w) :: r=>if x=k then(x,v) :: r else(k,w) :: aFz x v r
theorem aV1 (x y:Int) (v:List Int):∀ u,lkH y (aFz x v u)= if y=x then some v else lkH y u
 | []=>by simp [aFz,lkH]
 | (k,w) :: r=>by
  unfold aFz
  by_cases h:x=k
  ·rw [if_pos h];subst h
   by_cases e:y=x
   ·simp [lkH,e]
   ·simp [lkH,e]
  ·rw [if_neg h,lkH,aV1 x y v r]
   by_cases e:y=k
   ·subst e;rw [if_pos rfl,if_neg (fun e=>h e.symm)];simp [lkH]
   ·rw [if_neg e];simp [lkH,e]
theorem aRv (x:Int):∀ (u:List (Int × List Int)) (i:Nat),(lkH x u=none/\uQ x (mH u) i=none)\/∃ h j,lkH x u=some h/\uQ x (mH u) i=some (j,.sl 1 (rows .i64 h))
 | [],i=>.inl ⟨rfl,rfl⟩
 | (k,y) :: r,i=>by
  show (lkH x ((k,y) :: r)= none/\uQ x ((k,.sl 1 (rows .i64 y)) :: mH r) i=none)\/∃ h j,lkH x ((k,y) :: r)= some h/\uQ x ((k,.sl 1 (rows .i64 y)) :: mH r) i=some (j,.sl 1 (rows .i64 h));unfold lkH uQ
  by_cases h:x=k
  ·rw [if_pos h,if_pos h]; exact .inr ⟨y,i,rfl,rfl⟩
  ·rw [if_neg h,if_neg h]; exact aRv x r (i+1)
theorem gF (x:Int) (v:List Int):∀ u,aF3 (mH u) x (.sl 1 (rows .i64 v))= mH (aFz x v u)
 | []=>rfl
 | (k,w) :: r=>by
  have ih:=gF x v r;show aF3 ((k,.sl 1 (rows .i64 w)) :: mH r) x _=_;unfold aF3 at ih ⊢;unfold uQ aFz
  by_cases h:x=k
  ·rw [if_pos h,if_pos h]; rfl
  ·rw [if_neg h,if_neg h,sN]
   cases hf:uQ x (mH r) 0 with
   | none=>rw [hf] at ih; simp only [Option.map_none] at ih ⊢; rw [List.cons_append,ih]; rfl
   | some p=>rw [hf] at ih; simp only [Option.map_some] at ih ⊢; rw [List.set_cons_succ,ih]; rfl
theorem aT8 (u:List (Int × List Int)):uO (cX .i64 (mH u))= True:=eq_true (aQ4 fun p hp=>by simp only [mH,List.mem_map] at hp;obtain⟨q,_,rfl⟩:=hp;rfl)
def uH (rs:List zZ) (l:List (Nat × Nat)) (a:Nat):Nat->List (Int × List Int)
 | 0=>[]
 | k+1=>aFz (zH rs a (l.getD k (0,0))) (iR rs a (l.getD k (0,0))) (uH rs l a k)
theorem aNr {rs:List zZ} {l:List (Nat × Nat)} {a:Nat} {x:Int}:∀ {k:Nat},lkH x (uH rs l a k)= none->∀ i,i<k->zH rs a (l.getD i (0,0))≠ x
 | 0,_,i,hi=>by omega
 | k+1,h,i,hi=>by
  unfold uH at h;rw [aV1] at h
  by_cases e:x=zH rs a (l.getD k (0,0))
  ·rw [if_pos e] at h; cases h
  ·rw [if_neg e] at h
   by_cases ei:i=k
   ·rw [ei]; exact fun c=>e c.symm
   ·exact aNr h i (by omega)
theorem aNq {rs:List zZ} {l:List (Nat × Nat)} {a:Nat} {x:Int} {g:List Int}:∀ {k:Nat},lkH x (uH rs l a k)= some g->∃ i,i<k/\zH rs a (l.getD i (0,0))= x/\iR rs a (l.getD i (0,0))= g
 | 0,h=>by cases h
 | k+1,h=>by
  unfold uH at h;rw [aV1] at h
  by_cases e:x=zH rs a (l.getD k (0,0))
  ·rw [if_pos e] at h;exact⟨k,by omega,e.symm,by simpa using h⟩
  ·rw [if_neg e] at h;obtain⟨i,h1,h2⟩:=aNq h;exact⟨i,by omega,h2⟩
def rc1 (rs:List zZ) (a:Nat) (p q:Nat × Nat):Bool:=!(decide (zH rs a p=zH rs a q)) || decide (iR rs a p=iR rs a q)
def rc2 (rs:List zZ) (l:List (Nat × Nat)) (a:Nat):Bool:=l.all fun p=>l.all fun q=>rc1 rs a p q
def bXd (rs:List zZ) (A:Nat) (l:List (Nat × Nat)):Bool:=(List.range A).all (rc2 rs l)
theorem aT6 {rs:List zZ} {l:List (Nat × Nat)} {a:Nat} (h:∀ i j,i<l.length->j<l.length->zH rs a (l.getD i (0,0))= zH rs a (l.getD j (0,0))->iR rs a (l.getD i (0,0))= iR rs a (l.getD j (0,0))):rc2 rs l a=true:=
 iD (d:=(0,0)) fun i hi=>iD (d:=(0,0)) fun j hj=>by
  unfold rc1
  by_cases e:zH rs a (l.getD i (0,0))= zH rs a (l.getD j (0,0))
  ·rw [decide_eq_true (h i j hi hj e),Bool.or_true]
  ·rw [decide_eq_false e]; rfl
theorem aHs {rs:List zZ} {l:List (Nat × Nat)} {a i j:Nat} (hi:i<l.length) (hj:j<l.length) (h1:zH rs a (l.getD i (0,0))= zH rs a (l.getD j (0,0))) (h2:iR rs a (l.getD i (0,0))≠ iR rs a (l.getD j (0,0))):rc2 rs l a=false:= iE hi (iE hj (by unfold rc1; rw [decide_eq_true h1,decide_eq_false h2]; rfl))
end Ru
theorem aLu {rs:List zZ} {A F T:Nat} (ok:OkR rs A F T):yV Tryz.prog 40 [sD A F T rs] (.bool (bXd rs A (ptN T (rs.length*T)))):=by
 have hC:=aUd ⟨A,F,T,rs⟩;have hP:=aRw ⟨A,F,T,rs⟩;have hz:=gK ok;rw [hz] at hC;have ep:dB ⟨A,F,T,rs⟩= ptN T (rs.length*T):=by unfold dB; rw [if_neg (by simpa using hz)]; rfl
 rw [ep] at hP;have hin:Inb rs T (ptN T (rs.length*T)):=aTl ok.hT.1 (Nat.le_refl _);have hll:(ptN T (rs.length*T)).length<=512:=by rw [tV]; exact ok.hP
 have hloc:=fun(a:Nat) (ha:a<A) (p:Nat × Nat) (hp:p.1<rs.length/\p.2<T)=>aN6 ok ha hp;have hhis:=fun(a:Nat) (ha:a<A) (p:Nat × Nat) (hp:p.1<rs.length/\p.2<T)=>aKs ok ha hp;generalize ptN T (rs.length*T)= l at hP hin hll ⊢;have hD:qL.d ⟨A,F,T,rs⟩= .agg [.int .i64 (A:Int),.int .i64 (F:Int),.int .i64 (T:Int),.sl 2 (uP rs)]:=rfl;have hA:=ok.hA;rw [hD] at hC hP;unfold sD at *;refine xX.xP mixed Tryz.func40 k40 (by simp) fun hf=>?_;simp only [simprocAttr,-ZA,↓zU,↓zD,zV,zT,zW]
 (repeat refine sd ?_)
 refine xW (fun a:Nat=>[(13,.int .i64 a),(12,.int .i64 A),(1,.ref 0 4 0 0)]) (fun _=>⟨1,[(0,⟨4,[[.int .i64 A,.int .i64 F,.int .i64 T,.sl 2 (uP rs)]]⟩)]⟩)
  (fun a=>a<=A/\∀ i,i<a->rc2 rs l i=true) (fun a=>A-a) 0 ⟨Nat.zero_le _,fun i hi=>absurd hi (Nat.not_lt_zero _)⟩ ?_ ?_
 ·(refine xI.same ?_; simp [xR,Fr.get])
 intro a ⟨ha,hi⟩;refine xQ mixed ?_;by_cases hal:a<A
 case neg=>
  have hd:¬ ((a:Int)<(A:Int)):=by omega
  rw [show bXd rs A l=true from oP fun i h=>hi i (by omega)];simp only [simprocAttr,-ZA,↓zU,↓zD,zV,zT,zW,hd];refine .go (cq hC) ?_;simp only [simprocAttr,-ZA,↓zU,↓zD,zV,zT,zW];exact .dv
 have hd:((a:Int)<(A:Int)):=by omega
 simp only [simprocAttr,-ZA,↓zU,↓zD,zV,zT,zW,hd];refine .go (cq hP) ?_;simp only [simprocAttr,-ZA,↓zU,↓zD,zV,zT,zW,nR]
 refine xW (fun w:Nat=>[(20,.int .i64 w),(19,.int .i64 l.length),(18,.sl 2 (ptR l)),(13,.int .i64 a),(12,.int .i64 A),(4,.vJ 1),(3,.int .i64 a),(1,.ref 0 4 0 0)]) (fun w=>⟨2,[(1,⟨0,cX .i64 (mH (uH rs l a w))⟩),(0,⟨4,[[.int .i64 A,.int .i64 F,.int .i64 T,.sl 2 (uP rs)]]⟩)]⟩)
  (fun w=>w<=l.length/\∀ i j,i<w->j<w->zH rs a (l.getD i (0,0))= zH rs a (l.getD j (0,0))->iR rs a (l.getD i (0,0))= iR rs a (l.getD j (0,0))) (fun w=>l.length-w) 0 ⟨Nat.zero_le _,fun i j h=>absurd h (Nat.not_lt_zero _)⟩ ?_ ?_
 ·(refine xI.same ?_; simp [xR,Fr.get])
 intro w ⟨hw,hi2⟩;refine xQ mixed ?_;by_cases hwl:w<l.length
 case neg=>
  have hd2:¬ ((w:Int)<(l.length:Int)):=by omega
  have hnx:rc2 rs l a=true:=aT6 fun i j h1 h2=>hi2 i j (by omega) (by omega);simp only [simprocAttr,-ZA,↓zU,↓zD,zV,zT,zW,hd2]
  (repeat refine sd ?_)
  refine⟨a+1,⟨by omega,fun i h=>?_⟩,?_,by omega⟩
  ·by_cases e:i=a
   ·rw [e]; exact hnx
   ·exact hi i (by omega)
  (refine xI.ren [] [0] (by simp) (by simp) (by decide) ?_; simp only [yQ,vwL,vw,vwF,sw,St.get,St.look,Fr.get,simprocAttr,-ZA,exists_eq_left',ne_eq,zR])
  exact wrap_i64 (by omega)
 have hd2:((w:Int)<(l.length:Int)):=by omega
 have hp:=hin _ (xN (d:=(0,0)) hwl);have hpg:=aVv l hwl;have l1:=hloc a hal _ hp;have l2:=hhis a hal _ hp;have hS:uH rs l a (w+1)= aFz (zH rs a (l.getD w (0,0))) (iR rs a (l.getD w (0,0))) (uH rs l a w):=rfl;have hfail:∀ i,i<w->zH rs a (l.getD i (0,0))= zH rs a (l.getD w (0,0))->iR rs a (l.getD i (0,0))≠ iR rs a (l.getD w (0,0))->bXd rs A l=false:=fun i h1 h2 h3=>cL hal (aHs (show i<l.length by omega) hwl h2 h3)
 have hnext:(∀ i,i<w->zH rs a (l.getD i (0,0))= zH rs a (l.getD w (0,0))->iR rs a (l.getD i (0,0))= iR rs a (l.getD w (0,0)))->∀ i j,i<w+1->j<w+1->zH rs a (l.getD i (0,0))= zH rs a (l.getD j (0,0))->iR rs a (l.getD i (0,0))= iR rs a (l.getD j (0,0)):=fun h i j h1 h2 h3=>by
  by_cases e1:i=w <;> by_cases e2:j=w
  ·rw [e1,e2]
  ·subst e1; exact(h j (by omega) h3.symm).symm
  ·subst e2; exact h i (by omega) h3
  ·exact hi2 i j (by omega) (by omega) h3
 have hfind:=aRv (zH rs a (l.getD w (0,0))) (uH rs l a w) 0;have hno:=aNr (rs:=rs) (l:=l) (a:=a) (x:=zH rs a (l.getD w (0,0))) (k:=w);have hso:=fun g=>aNq (rs:=rs) (l:=l) (a:=a) (x:=zH rs a (l.getD w (0,0))) (g:=g) (k:=w);generalize zH rs a (l.getD w (0,0))= x at l1 hS hfail hnext hfind hno hso;generalize iR rs a (l.getD w (0,0))= h at l2 hS hfail hnext;generalize uH rs l a w=u at hS hfind hno hso;generalize l.getD w (0,0)= p at hp hpg l1 l2;obtain⟨p1,p2⟩:=p;simp only at hp hpg l1 l2;simp only [simprocAttr,-ZA,↓zU,↓zD,zV,zT,zW,hd2,nR,hpg]
 (repeat refine sd ?_)
 refine .go (cr l1) ?_;simp only [simprocAttr,-ZA,↓zU,↓zD,zV,zT,zW];refine .go (cr l2) ?_
 rcases hfind with ⟨f1,f2⟩ | ⟨g,j,f1,f2⟩
 ·simp only [simprocAttr,-ZA,↓zU,↓zD,zV,zT,zW,f2,gF]
  refine⟨.go (cr l1) ?_,?_⟩
  ·simp only [simprocAttr,-ZA,↓zU,↓zD,zV,zT,zW]
  refine⟨w+1,⟨by omega,hnext fun i h1 h2=>absurd h2 (hno f1 i h1)⟩,?_,by omega⟩;rw [hS]
  (refine xI.ren [] [1,0] (by simp) (by simp) (by decide) ?_; simp only [yQ,vwL,vw,vwF,sw,St.get,St.look,Fr.get,simprocAttr,-ZA,exists_eq_left',ne_eq,zR,aT8])
  exact wrap_i64 (by omega)
 ·have he:=aMi g h;obtain⟨i0,q1,q2,q3⟩:=hso g f1
  by_cases hgh:g=h
  ·rw [decide_eq_true hgh] at he;simp only [simprocAttr,-ZA,↓zU,↓zD,zV,zT,zW,f2,gF]
   refine⟨.go (cr l1) ?_,?_⟩
   ·simp only [simprocAttr,-ZA,↓zU,↓zD,zV,zT,zW]
   refine .go (cr he) ?_;simp only [simprocAttr,-ZA,↓zU,↓zD,zV,zT,zW,gF]
   refine⟨w+1,⟨by omega,hnext fun i h1 h2=>?_⟩,?_,by omega⟩
   ·rw [hi2 i i0 h1 q1 (h2.trans q2.symm),q3,hgh]
   rw [hS]
   (refine xI.ren [] [1,0] (by simp) (by simp) (by decide) ?_; simp only [yQ,vwL,vw,vwF,sw,St.get,St.look,Fr.get,simprocAttr,-ZA,exists_eq_left',ne_eq,zR,aT8])
   exact wrap_i64 (by omega)
  ·rw [decide_eq_false hgh] at he;rw [hfail i0 q1 q2 (by rw [q3]; exact hgh)];simp only [simprocAttr,-ZA,↓zU,↓zD,zV,zT,zW,f2,gF]
   refine⟨.go (cr l1) ?_,?_⟩
   ·simp only [simprocAttr,-ZA,↓zU,↓zD,zV,zT,zW]
   refine .go (cr he) ?_;simp only [simprocAttr,-ZA,↓zU,↓zD,zV,zT,zW];exact .dv
namespace Ru
def hT (f:Nat->Int):Nat->List Int
 | 0=>[]
 | k+1=>if 0<k/\f k=f (k-1) then hT f k else hT f k ++ [f k]
theorem aV7 {l:List Int} {f:Nat->Int}:∀ {k:Nat},(∀ i,i<k->l.getD i 0=f i)->sI l k=hT f k
 | 0,_=>rfl
 | k+1,h=>by
  unfold sI hT;rw [h k (by omega)]
  by_cases c:0<k
  ·rw [h (k-1) (by omega),aV7 fun i hi=>h i (by omega)]
  ·rw [if_neg (fun e=>c e.1),if_neg (fun e=>c e.1),aV7 fun i hi=>h i (by omega)]
theorem aEi (rs:List zZ) (a i t:Nat):iR rs a (i,t)= hT (fun u=>zH rs a (i,u)) (t+1):=by unfold iR nT;simp only [aXe];exact aV7 fun j hj=>by simp [cY,List.getD,hj]
theorem aLw {rs:List zZ} {A T:Nat} (hT:1<=T) (h:∀ (a:Nat) (p q:Nat × Nat),a<A->p.1<rs.length/\p.2<T->q.1<rs.length/\q.2<T->zH rs a p=zH rs a q->iR rs a p=iR rs a q):bXd rs A (ptN T (rs.length*T))= true:=by have hin:Inb rs T (ptN T (rs.length*T)):=aTl hT (Nat.le_refl _);refine oP fun a ha=>aT6 fun i j hi hj e=>?_;exact h a _ _ ha (hin _ (xN hi)) (hin _ (xN hj)) e
theorem aIz {rs:List zZ} {A F T:Nat} (ok:OkR rs A F T):bE ⟨A,F,T,rs⟩= (ptN T (rs.length*T)).all (sy3 rs A (ptN T (rs.length*T))):=by
 have hz:=gK ok;have ep:dB ⟨A,F,T,rs⟩= ptN T (rs.length*T):=by unfold dB; rw [if_neg (by simpa using hz)]; rfl
 unfold bE;rw [decide_eq_true hz,Bool.true_and,ep];rfl
theorem aQo {rs:List zZ} {A F T:Nat} (ok:OkR rs A F T) (h:∀ (a:Nat) (p q:Nat × Nat),a<A->p.1<rs.length/\p.2<T->q.1<rs.length/\q.2<T->p.2≠q.2->zH rs a p≠zH rs a q):bE ⟨A,F,T,rs⟩= true:=by
 have hin:Inb rs T (ptN T (rs.length*T)):=aTl ok.hT.1 (Nat.le_refl _);rw [aIz ok];refine List.all_eq_true.2 fun p hp=>List.all_eq_true.2 fun q hq=>oP fun a ha=>?_;unfold sy1
 by_cases e:p.2=q.2
 ·simp [e]
 ·simp [h a p q ha (hin p hp) (hin q hq) e]
end Ru
open Rs Fm Ru Te Kb
namespace Kb
instance : DecidableEq zZ := fun a b => decidable_of_iff (a.loc = b.loc /\ a.fac = b.fac) (by cases a; cases b; simp)
instance : DecidableEq qL := fun a b => decidable_of_iff (a.ag = b.ag /\ a.fa = b.fa /\ a.ln = b.ln /\ a.rs = b.rs) (by cases a; cases b; simp)
def aE5 (x:List Int):List (List Int)->List (List Int)
 | []=>[x]
 | y :: l=>if kc y x<0 then y :: aE5 x l else x :: y :: l
def aE9 : List (List Int)->List (List Int)
 | []=>[]
 | x :: l=>aE5 x (aE9 l)
theorem fJ (x:List Int):∀ l,(aE5 x l).Perm (x :: l)
 | []=>List.Perm.refl _
 | y :: l=>by
  unfold aE5
  split
  ·exact((fJ x l).cons y).trans (List.Perm.swap x y l)
  ·exact List.Perm.refl _
theorem aWd : ∀ l,(aE9 l).Perm l
 | []=>List.Perm.refl _
 | x :: l=>(fJ x _).trans ((aWd l).cons x)
theorem aSz (x:List Int):∀ l,asc l->asc (aE5 x l)
 | [],_=>by unfold aE5 asc; simp
 | y :: l,h=>by
  have h1:=List.pairwise_cons.1 h;unfold aE5
  split
  ·rename_i hc;refine List.pairwise_cons.2 ⟨fun z hz=>?_,aSz x l h1.2⟩
   rcases List.mem_cons.1 ((fJ x l).mem_iff.1 hz) with rfl | hz
   ·have:=pP y z; omega
   ·exact h1.1 z hz
  ·rename_i hc;refine List.pairwise_cons.2 ⟨fun z hz=>?_,h⟩
   rcases List.mem_cons.1 hz with rfl | hz
   ·exact hc
   ·exact lP (h1.1 z hz) hc
theorem aRq : ∀ l,asc (aE9 l)
 | []=>List.Pairwise.nil
 | x :: l=>aSz x _ (aRq l)
theorem aFn (l:List (List Int)):aX8 l=aE9 l:=(aMn (aWd l) (aRq l)).symm
theorem aWc : aX8=aE9:=funext aFn
def bVh (see:List (BitVec 64)) (sts:List (List (BitVec 64))) (T:Nat):List zZ:= aE0 (aVi sts) see.length T fun a p=>below (dedup (aE9 ((ptN T ((aVi sts).length*T)).map (sJ see sts a)))) (sJ see sts a p)
theorem aTw (see:List (BitVec 64)) (sts:List (List (BitVec 64))) (T:Nat):lD see sts T=bVh see sts T:=by unfold lD aE1 bVh aOy;rw [aWc]
def allI (see:List (BitVec 64)) (sts:List (List (BitVec 64))) (T a:Nat):List (List Int):=dedup (aE9 ((ptN T (sts.length*T)).map (sJ see sts a)))
theorem aFt (see:List (BitVec 64)) (sts:List (List (BitVec 64))) (T a:Nat):iQ see sts T a=allI see sts T a:=by unfold iQ allI; rw [aWc]
def exT : List Nd:=bZ1 (qC 0) (aAt (aYc 1 (qC 0)))
def exP : PrA:=⟨2,[0#64,1#64],[1#64,2#64],[[⟨1,qC 0⟩]],[[⟨exT,0⟩],[]]⟩
def exS : qL:=⟨2,2,3,[⟨[[0,0],[2,1],[4,3]],[0#64,0#64,0#64]⟩,⟨[[1,0],[3,2],[5,4]],[1#64,3#64,3#64]⟩]⟩
theorem aZ1 : zQ exP 2 = [[0#64,0#64,0#64],[1#64,3#64,3#64]]:=by decide +kernel
theorem aTo : jB exP 3=0:=by decide +kernel
theorem aBt : bD exP 3=exS:=by unfold bD;rw [if_neg (by rw [aTo]; simp),show (3:Int).toNat=3 from rfl,aZ1,aTw];decide +kernel
end Kb
open Rs Fm Ru Te Kb
def Nw (d d':D):Prop:=∀ (M:Nat->Prop) (w:World) (v:Value),RP M w v d->RP M w v d'
theorem Nw.refl (d:D):Nw d d:=fun _ _ _ h=>h
theorem Nw.xH (sz:Nat):Nw .xH (.sl sz []):=fun _ _ v h=>by cases h;exact .sl0 _ _ _ (by simp)
theorem Nw.sl {sz:Nat} {els els':List (List D)} (hl:els.length=els'.length) (hw:∀ e ∈ els',e.length=sz)
  (h:∀ i,i<els.length->∀ j,j<sz->Nw ((els.getD i []).getD j .top) ((els'.getD i []).getD j .top)):Nw (.sl sz els) (.sl sz els'):=fun M w v hv=>by
 cases hv with
 | sl0 a cap sz hh=> have:els' = []:=List.length_eq_zero_iff.1 (by simpa using hl.symm);subst this;exact .sl0 _ _ _ hh
 | sl vs hs hM hc hm hl2 hcell hr=>
  have:=RP.sl (M:=M) (w:=w) (sz:=sz) (els:=els') vs hs hM (by omega) hm hw (by rw [<- hl]; exact hcell) (by rw [<- hl]; exact fun i hi j hj=>h i hi j hj M w _ (hr i hi j hj))
  rwa [<- hl] at this
theorem Nw.agg {ds cs:List D} (hl:ds.length=cs.length) (h:∀ j,j<cs.length->Nw (ds.getD j .top) (cs.getD j .top)):Nw (.agg ds) (.agg cs):=fun M w v hv=>by
 cases hv with
 | agg h1 h2=>exact .agg (by omega) fun j hj=>h j hj M w _ (h2 j (by omega))
theorem Nw.seen {σ:St} {K:Nat->Prop} {d d':D} (h:Nw d d') (hp:d.xG=true):Seen σ K d d':=fun M0 w ι v hS hR=>h _ _ _ (Seen.pure hp M0 w ι v hS hR)
theorem yV.seen {P:Program} {g:FuncId} {args args':List D} {d:D} (hc:yV P g args' d) (h:mU St0 (fun _=>False) args args'):yV P g args d:= xX.bWc (σ:=St0) (objs':=[]) (fun _=>False) hc h fun k o hk=>by cases hk
theorem bVf (f g:List Nd):yV Tryz.prog 92 [.sl 6 (ndR f),.sl 6 (ndR g)] (.sl 6 (ndR (bZ1 f g))):=by
 refine xX.xP mixed Tryz.func92 k92 (by simp) fun hf=>?_;simp only [simprocAttr,-ZA,↓zU,↓zD,zV,zT,zW]
 (repeat refine sd ?_)
 refine .go (xX.yN (aO ⟨5,0,0,0,0,0⟩ [f,g] (by simp)) (by simp [D.xU,D.xG,Nd.row,nl])) ?_;simp only [simprocAttr,-ZA,↓zU,↓zD,zV,zT,zW];exact .same
theorem aD7 (a b:zZ):decide (a=b)= (decide (a.fac=b.fac)&& decide (a.loc=b.loc)):=by cases a; cases b;rw [Bool.eq_iff_iff];simp [and_comm]
theorem aLj (a b:zZ) (h1:a.fac.length<=1000000) (h2:a.loc.length<=1000000) (h3:∀ l ∈ a.loc,l.length<=1000000):yV Tryz.prog 81 [.agg a.row,.agg b.row] (.bool (decide (a=b))):=by
 rw [aD7];have hA:a.row = [.sl 1 (rl a.loc),.sl 1 (us a.fac)]:=rfl;have hB:b.row = [.sl 1 (rl b.loc),.sl 1 (us b.fac)]:=rfl;rw [hA,hB];cases a with | mk la fa=>
 cases b with | mk lb fb=>
 simp only at h1 h2 h3 ⊢;refine xX.xP mixed Tryz.func81 k81 (by simp) fun hf=>?_;by_cases c1:fa.length=fb.length
 case neg=>
  have q1:((fa.length:Int) != (fb.length:Int))= true:=by simpa using fun c=>c1 (by omega)
  rw [decide_eq_false (fun c=>c1 (congrArg List.length c))];simp only [simprocAttr,-ZA,↓zU,↓zD,zV,zT,zW,xO,zA,q1];exact .dv
 have q1:((fa.length:Int) != (fb.length:Int))= false:=by rw [c1]; simp
 by_cases c2:la.length=lb.length
 case neg=>
  have q2:((la.length:Int) != (lb.length:Int))= true:=by simpa using fun c=>c2 (by omega)
  rw [decide_eq_false (p:=la=lb) (fun c=>c2 (congrArg List.length c)),Bool.and_false];simp only [simprocAttr,-ZA,↓zU,↓zD,zV,zT,zW,xO,zA,q1,q2];exact .dv
 have q2:((la.length:Int) != (lb.length:Int))= false:=by rw [c2]; simp
 simp only [simprocAttr,-ZA,↓zU,↓zD,zV,zT,zW,xO,zA,q1,q2]
 refine xW (fun k:Nat=>[(5,.int .i64 k),(3,.ref 1 2 0 0),(2,.ref 0 2 0 0)]) (fun _=>⟨2,[(1,⟨2,[[.sl 1 (rl lb),.sl 1 (us fb)]]⟩),(0,⟨2,[[.sl 1 (rl la),.sl 1 (us fa)]]⟩)]⟩)
  (fun k=>k<=fa.length/\decide (fa=fb)= decide (fa.drop k=fb.drop k)) (fun k=>fa.length-k) 0 ⟨Nat.zero_le _,rfl⟩ ?_ ?_
 ·(refine xI.same ?_; simp [xR,Fr.get])
 rintro k ⟨hk,hd⟩;refine xQ mixed ?_
 by_cases h:k<fa.length
 ·have q:((k:Int)<(fa.length:Int)):=by omega
  rw [hd,mC (d:=0#64) h (by omega)]
  by_cases e:fa.getD k 0#64=fb.getD k 0#64
  ·rw [decide_eq_true e,Bool.true_and];have e':(fa.getD k 0 != fb.getD k 0)= false:=by show (fa.getD k 0#64 != fb.getD k 0#64)= false; rw [e]; simp
   simp only [simprocAttr,-ZA,↓zU,↓zD,zV,zT,zW,q,xO,zE fa h,zE fb (show k<fb.length by omega),e']
   (repeat refine sd ?_)
   refine⟨k+1,⟨h,rfl⟩,?_,by omega⟩
   (refine xI.same ?_; simp only [xR,Fr.get,simprocAttr,-ZA,zS])
   exact tA (by omega)
  ·rw [decide_eq_false e,Bool.false_and,Bool.false_and];have e':(fa.getD k 0 != fb.getD k 0)= true:=by simpa using e
   simp only [simprocAttr,-ZA,↓zU,↓zD,zV,zT,zW,q,xO,zE fa h,zE fb (show k<fb.length by omega),e']
   (repeat refine sd ?_)
   exact .dv
 have q:¬ ((k:Int)<(fa.length:Int)):=by omega
 have hf:decide (fa=fb)= true:=by rw [hd,List.drop_eq_nil_of_le (by omega),List.drop_eq_nil_of_le (by omega)]; simp
 rw [hf,Bool.true_and];simp only [simprocAttr,-ZA,↓zU,↓zD,zV,zT,zW,q,xO]
 refine xW (fun k:Nat=>[(6,.int .i64 k),(3,.ref 1 2 0 0),(2,.ref 0 2 0 0)]) (fun _=>⟨2,[(1,⟨2,[[.sl 1 (rl lb),.sl 1 (us fb)]]⟩),(0,⟨2,[[.sl 1 (rl la),.sl 1 (us fa)]]⟩)]⟩)
  (fun k=>k<=la.length/\decide (la=lb)= decide (la.drop k=lb.drop k)) (fun k=>la.length-k) 0 ⟨Nat.zero_le _,rfl⟩ ?_ ?_
 ·(refine xI.same ?_; simp [xR,Fr.get])
 rintro k ⟨hk,hd⟩;refine xQ mixed ?_;by_cases h:k<la.length
 case neg=>
  have q:¬ ((k:Int)<(la.length:Int)):=by omega
  rw [hd,List.drop_eq_nil_of_le (by omega),List.drop_eq_nil_of_le (by omega)];simp only [simprocAttr,-ZA,↓zU,↓zD,zV,zT,zW,q,zA];exact .dv
 have q:((k:Int)<(la.length:Int)):=by omega
 have h3k:=h3 _ (xN (d:=[]) h);have g1:=nY la h;have g2:=nY lb (show k<lb.length by omega);have hd2:=hd;rw [mC (d:=[]) h (by omega)] at hd2;rw [hd2];generalize la.getD k []=x at *;generalize lb.getD k []=y at *;by_cases c3:x.length=y.length
 case neg=>
  have q3:((x.length:Int) != (y.length:Int))= true:=by simpa using fun c=>c3 (by omega)
  rw [decide_eq_false (fun c=>c3 (congrArg List.length c)),Bool.false_and];simp only [simprocAttr,-ZA,↓zU,↓zD,zV,zT,zW,q,zA,g1,g2,xE,q3]
  (repeat refine sd ?_)
  exact .dv
 have q3:((x.length:Int) != (y.length:Int))= false:=by rw [c3]; simp
 simp only [simprocAttr,-ZA,↓zU,↓zD,zV,zT,zW,q,zA,g1,g2,xE,q3]
 (repeat refine sd ?_)
 refine xW (fun j:Nat=>[(7,.int .i64 j),(6,.int .i64 k),(3,.ref 1 2 0 0),(2,.ref 0 2 0 0)]) (fun _=>⟨2,[(1,⟨2,[[.sl 1 (rl lb),.sl 1 (us fb)]]⟩),(0,⟨2,[[.sl 1 (rl la),.sl 1 (us fa)]]⟩)]⟩)
  (fun j=>j<=x.length/\decide (x=y)= decide (x.drop j=y.drop j)) (fun j=>x.length-j) 0 ⟨Nat.zero_le _,rfl⟩ ?_ ?_
 ·(refine xI.same ?_; simp [xR,Fr.get])
 rintro j ⟨hj,hdj⟩;refine xQ mixed ?_
 by_cases hx:j<x.length
 ·have qx:((j:Int)<(x.length:Int)):=by omega
  rw [hdj,mC (d:=0) hx (by omega)]
  by_cases e:x.getD j 0=y.getD j 0
  ·rw [decide_eq_true e,Bool.true_and];have e':(x.getD j 0 != y.getD j 0)= false:=by rw [e]; simp
   simp only [simprocAttr,-ZA,↓zU,↓zD,zV,zT,zW,qx,zA,g1,g2,xE,yZ .i64 x hx,yZ .i64 y (show j<y.length by omega),e']
   (repeat refine sd ?_)
   refine⟨j+1,⟨hx,rfl⟩,?_,by omega⟩
   (refine xI.same ?_; simp only [xR,Fr.get,simprocAttr,-ZA,zS])
   exact tA (by omega)
  ·rw [decide_eq_false e,Bool.false_and,Bool.false_and];have e':(x.getD j 0 != y.getD j 0)= true:=by simpa using e
   simp only [simprocAttr,-ZA,↓zU,↓zD,zV,zT,zW,qx,zA,g1,g2,xE,yZ .i64 x hx,yZ .i64 y (show j<y.length by omega),e']
   (repeat refine sd ?_)
   exact .dv
 have qx:¬ ((j:Int)<(x.length:Int)):=by omega
 have hxy:decide (x=y)= true:=by rw [hdj,List.drop_eq_nil_of_le (by omega),List.drop_eq_nil_of_le (by omega)]; simp
 simp only [simprocAttr,-ZA,↓zU,↓zD,zV,zT,zW,qx,zA,g1,g2,xE]
 (repeat refine sd ?_)
 refine⟨k+1,⟨h,by rw [hxy,Bool.true_and]⟩,?_,by omega⟩
 (refine xI.same ?_; simp only [xR,Fr.get,simprocAttr,-ZA,zS])
 exact tA (by omega)
theorem aD4 (a b:qL):decide (a=b)= (decide (a.ag=b.ag)&& (decide (a.fa=b.fa)&& (decide (a.ln=b.ln)&& decide (a.rs=b.rs)))):=by cases a; cases b;rw [Bool.eq_iff_iff];simp
def aNa (s:qL):Prop:=s.rs.length<=1000000/\∀ r ∈ s.rs,r.fac.length<=1000000/\r.loc.length<=1000000/\∀ l ∈ r.loc,l.length<=1000000
theorem bZi (a b:qL) (hs:aNa a):yV Tryz.prog 23 [a.d,b.d] (.bool (decide (a=b))):=by
 rw [aD4];have hA:a.d = .agg [.int .i64 a.ag,.int .i64 a.fa,.int .i64 a.ln,.sl 2 (uP a.rs)]:=rfl;have hB:b.d = .agg [.int .i64 b.ag,.int .i64 b.fa,.int .i64 b.ln,.sl 2 (uP b.rs)]:=rfl;rw [hA,hB];cases a with | mk a1 a2 a3 xs=>
 cases b with | mk b1 b2 b3 ys=>
 obtain⟨h1,h2⟩:=hs;simp only at h1 h2 ⊢;refine xX.xP mixed Tryz.func23 k23 (by simp) fun hf=>?_;by_cases c1:a1=b1
 case neg=>
  have q:(a1 != b1)= true:=by simpa using c1
  rw [decide_eq_false c1,Bool.false_and];simp only [simprocAttr,-ZA,↓zU,↓zD,zV,zT,zW,q,xA];exact .dv
 by_cases c2:a2=b2
 case neg=>
  have q1:(a1 != b1)= false:=by simpa using c1
  have q:(a2 != b2)= true:=by simpa using c2
  rw [decide_eq_false c2,Bool.false_and,Bool.and_false];simp only [simprocAttr,-ZA,↓zU,↓zD,zV,zT,zW,q1,q,xA];exact .dv
 by_cases c3:a3=b3
 case neg=>
  have q1:(a1 != b1)= false:=by simpa using c1
  have q2:(a2 != b2)= false:=by simpa using c2
  have q:(a3 != b3)= true:=by simpa using c3
  rw [decide_eq_false c3,Bool.false_and,Bool.and_false,Bool.and_false];simp only [simprocAttr,-ZA,↓zU,↓zD,zV,zT,zW,q1,q2,q,xA];exact .dv
 have q1:(a1 != b1)= false:=by simpa using c1
 have q2:(a2 != b2)= false:=by simpa using c2
 have q3:(a3 != b3)= false:=by simpa using c3
 rw [decide_eq_true c1,decide_eq_true c2,decide_eq_true c3,Bool.true_and,Bool.true_and,Bool.true_and];by_cases c4:xs.length=ys.length
 case neg=>
  have q:((xs.length:Int) != (ys.length:Int))= true:=by simpa using fun c=>c4 (by omega)
  rw [decide_eq_false (fun c=>c4 (congrArg List.length c))];simp only [simprocAttr,-ZA,↓zU,↓zD,zV,zT,zW,q1,q2,q3,q,xA];exact .dv
 have q4:((xs.length:Int) != (ys.length:Int))= false:=by rw [c4]; simp
 clear c1 c2 c3;simp only [simprocAttr,-ZA,↓zU,↓zD,zV,zT,zW,q1,q2,q3,q4,xA]
 refine xW (fun k:Nat=>[(5,.int .i64 k),(3,.ref 1 4 0 0),(2,.ref 0 4 0 0)]) (fun _=>⟨2,[(1,⟨4,[[.int .i64 b1,.int .i64 b2,.int .i64 b3,.sl 2 (uP ys)]]⟩),(0,⟨4,[[.int .i64 a1,.int .i64 a2,.int .i64 a3,.sl 2 (uP xs)]]⟩)]⟩)
  (fun k=>k<=xs.length/\decide (xs=ys)= decide (xs.drop k=ys.drop k)) (fun k=>xs.length-k) 0 ⟨Nat.zero_le _,rfl⟩ ?_ ?_
 ·(refine xI.same ?_; simp [xR,Fr.get])
 rintro k ⟨hk,hd⟩;refine xQ mixed ?_;by_cases h:k<xs.length
 case neg=>
  have q:¬ ((k:Int)<(xs.length:Int)):=by omega
  rw [hd,List.drop_eq_nil_of_le (by omega),List.drop_eq_nil_of_le (by omega)];simp only [simprocAttr,-ZA,↓zU,↓zD,zV,zT,zW,q,xA];exact .dv
 have q:((k:Int)<(xs.length:Int)):=by omega
 have hr:=h2 _ (xN (d:=tN) h);have hc:=aLj (xs.getD k tN) (ys.getD k tN) hr.1 hr.2.1 hr.2.2;have g1:(uP xs).getD k [] = [.sl 1 (rl (xs.getD k tN).loc),.sl 1 (us (xs.getD k tN).fac)]:=tQ xs h;have g2:(uP ys).getD k [] = [.sl 1 (rl (ys.getD k tN).loc),.sl 1 (us (ys.getD k tN).fac)]:=tQ ys (by omega);have hc:yV Tryz.prog 81 [.agg [.sl 1 (rl (xs.getD k tN).loc),.sl 1 (us (xs.getD k tN).fac)],.agg [.sl 1 (rl (ys.getD k tN).loc),.sl 1 (us (ys.getD k tN).fac)]] _:=hc;rw [hd,mC (d:=tN) h (by omega)];rw [mC (d:=tN) h (by omega)] at hd;generalize xs.getD k tN=x at *;generalize ys.getD k tN=y at *;generalize hP:decide (x=y)= b at *;simp only [simprocAttr,-ZA,↓zU,↓zD,zV,zT,zW,q,xA,g1,g2]
 (repeat refine sd ?_)
 refine .go (cq hc) ?_
 cases b with
 | false=> rw [Bool.false_and];simp only [simprocAttr,-ZA,↓zU,↓zD,zV,zT,zW];exact .dv
 | true=>
  rw [Bool.true_and];simp only [simprocAttr,-ZA,↓zU,↓zD,zV,zT,zW];refine⟨k+1,⟨h,rfl⟩,?_,by omega⟩
  (refine xI.same ?_; simp only [xR,Fr.get,simprocAttr,-ZA,zS])
  exact tA (by omega)
end Go.Pd
