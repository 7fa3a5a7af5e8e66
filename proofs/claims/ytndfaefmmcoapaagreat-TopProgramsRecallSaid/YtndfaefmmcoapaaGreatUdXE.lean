/- Part XE. -/
import Derived.Test.YtndfaefmmcoapaaGreatUdX8
import Derived.Test.YtndfaefmmcoapaaGreatUdXA
import Derived.Test.YtndfaefmmcoapaaGreatUdXR
import Derived.Test.YtndfaefmmcoapaaGreatUdX9
import Derived.Shelf.Small.Bits
import Derived.Test.YtndfaefmmcoapaaGreatUdLA
import Derived.Test.YtndfaefmmcoapaaGreatUdKG
import Derived.Test.YtndfaefmmcoapaaGreatUdSF
set_option linter.unusedSectionVars false
set_option linter.unusedVariables false
set_option linter.unusedSimpArgs false
set_option linter.defProp false
set_option maxRecDepth 20000
set_option maxHeartbeats 1000000
namespace Go.Pd
open Go
variable [sC]
end Go.Pd

/- Part XF. -/
namespace Go.Pd
open Go
variable [sC]
def dd (mask:Nat):Fr->Fr
 | []=>[]
 | (t,d) :: r=>if mask.testBit t=true then dd mask r else(t,d) :: dd (mask ||| 2 ^ t) r
end Go.Pd

/- Part B0. -/
namespace Go.Pd
open Go Go.Proofs
open Go.Shelf
open Rs Fm Ru Te Kb
namespace Kb
theorem aR7 {see:List (BitVec 64)} {sts:List (List (BitVec 64))} {a r t:Nat} (h:t<(stR sts r).length):(iI see sts a (r,t)).length=t+1:=by unfold iI;rw [List.length_map];exact aYb h
end Kb
open Rs Fm Ru Te Kb
namespace Kb
end Kb
open Rs Fm Ru Te Kb
namespace Kb
end Kb
open Rs Fm Ru Te Kb
namespace Kb
end Kb
open Rs Fm Ru Te Kb
namespace Kb
end Kb
open Rs Fm Ru Te Kb
namespace Kb
section
variable {n t : Nat} {sts sts' : List (List (BitVec 64))} {see : List (BitVec 64)}
variable {p : PrA}
end
end Kb
open Rs Fm Ru Te Kb
namespace Kb
end Kb
end Go.Pd

/- Part SG. -/
namespace Go.Pd
open Go Go.Proofs
open BitVec renaming isValue -> ZA
namespace Ru
theorem gO {α:Type} {l:List α} {f:α->Bool} {d:α} (h:∀ i,i<l.length->f (l.getD i d)= true):l.all f=true:=by rw [List.all_eq_true];intro x hx;obtain⟨i,hi,rfl⟩:=List.getElem_of_mem hx;have:=h i hi;simpa [List.getD,hi] using this
theorem gP {α:Type} {l:List α} {f:α->Bool} {d:α} {k:Nat} (hk:k<l.length) (h:f (l.getD k d)= false):l.all f=false:=by rw [List.all_eq_false];exact⟨_,xS (d:=d) hk,by rw [h]; simp⟩
theorem nW {n:Nat} {f:Nat->Bool} (h:∀ i,i<n->f i=true):(List.range n).all f=true:=by rw [List.all_eq_true];exact fun x hx=>h x (List.mem_range.1 hx)
theorem bL {n k:Nat} {f:Nat->Bool} (hk:k<n) (h:f k=false):(List.range n).all f=false:=by rw [List.all_eq_false];exact⟨k,List.mem_range.2 hk,by rw [h]; simp⟩
def sy1 (rs:List xD) (p q:Nat × Nat) (a:Nat):Bool:=!(decide (p.2≠q.2)&& decide (yQ rs a p=yQ rs a q))
def sy2 (rs:List xD) (A:Nat) (p q:Nat × Nat):Bool:=(List.range A).all (sy1 rs p q)
def sy3 (rs:List xD) (A:Nat) (l:List (Nat × Nat)) (p:Nat × Nat):Bool:=l.all (sy2 rs A p)
def lZ (s:tZ):Bool:=decide (chk s=0)&& (cQ s).all (sy3 s.rs s.ag.toNat (cQ s))
end Ru
open Ru
theorem aDw (s:tZ):yB Tryz.prog 39 [s.d] (.bool (lZ s)):=by
 have hC:=aXq s;have hP:=aYp s;have hD:s.d = .agg [.int .i64 s.ag,.int .i64 s.fa,.int .i64 s.ln,.sl 2 (vF s.rs)]:=rfl;by_cases hz:chk s=0
 case neg=>
  have e:(chk s==0)= false:=by simpa using hz
  rw [show lZ s=false by unfold lZ; rw [decide_eq_false hz]; rfl];rw [show cQ s = [] by unfold cQ; rw [if_pos hz],aMz] at hP;rw [hD] at hC hP ⊢;refine xY.xR mixed Tryz.func39 k39 (by simp) fun hf=>?_;simp only [simprocAttr,-ZA,↓zU,↓zD,zV,zT,zW]
  (repeat refine sd ?_)
  refine .go (cq hP) ?_;simp only [simprocAttr,-ZA,↓zU,↓zD,zV,zT,zW]
  refine xQ (fun _:Nat=>[(11,.int .i64 0),(10,.int .i64 0),(9,.sl 2 []),(1,.ref 0 4 0 0)]) (fun _=>⟨1,[(0,⟨4,[[.int .i64 s.ag,.int .i64 s.fa,.int .i64 s.ln,.sl 2 (vF s.rs)]]⟩)]⟩) (fun _=>True) (fun _=>0) 0 trivial ?_ ?_
  ·(refine xM.same ?_; simp [xP,Fr.get])
  intro _ _;refine xN mixed ?_;simp only [simprocAttr,-ZA,↓zU,↓zD,zV,zT,zW];refine .go (cq hC) ?_;simp only [simprocAttr,-ZA,↓zU,↓zD,zV,zT,zW,e];exact .dv
 obtain⟨A,F,T,rs,rfl,ok⟩:=aXn hz;obtain⟨T1,T16⟩:=ok.hT;have hA:=ok.hA;have ep:cQ ⟨A,F,T,rs⟩= ptN T (rs.length*T):=by unfold cQ; rw [if_neg (by simpa using hz)]; rfl
 have hin:Inb rs T (cQ ⟨A,F,T,rs⟩):=by rw [ep]; exact nC T1 (Nat.le_refl _)
 have hll:(cQ ⟨A,F,T,rs⟩).length<=512:=by rw [ep,vN]; exact ok.hP
 have hs:lZ ⟨A,F,T,rs⟩= (cQ ⟨A,F,T,rs⟩).all (sy3 rs A (cQ ⟨A,F,T,rs⟩)):=by unfold lZ; rw [decide_eq_true hz,Bool.true_and]; rfl
 have hloc:=fun(a:Nat) (ha:a<A) (p:Nat × Nat) (hp:p.1<rs.length/\p.2<T)=>aM6 ok ha hp;rw [hz] at hC;generalize cQ ⟨A,F,T,rs⟩= l at hP hin hs hll;rw [hs];unfold sD at hloc;rw [hD] at hC hP ⊢;simp only at hC hP ⊢;refine xY.xR mixed Tryz.func39 k39 (by simp) fun hf=>?_;simp only [simprocAttr,-ZA,↓zU,↓zD,zV,zT,zW]
 (repeat refine sd ?_)
 refine .go (cq hP) ?_;simp only [simprocAttr,-ZA,↓zU,↓zD,zV,zT,zW,zY]
 refine xQ (fun k:Nat=>[(11,.int .i64 k),(10,.int .i64 l.length),(9,.sl 2 (ptR l)),(1,.ref 0 4 0 0)]) (fun _=>⟨1,[(0,⟨4,[[.int .i64 A,.int .i64 F,.int .i64 T,.sl 2 (vF rs)]]⟩)]⟩)
  (fun k=>k<=l.length/\∀ i,i<k->sy3 rs A l (l.getD i (0,0))= true) (fun k=>l.length-k) 0 ⟨Nat.zero_le _,fun i hi=>absurd hi (Nat.not_lt_zero _)⟩ ?_ ?_
 ·(refine xM.same ?_; simp [xP,Fr.get])
 intro k ⟨hk,hi⟩;refine xN mixed ?_;by_cases hkl:k<l.length
 case neg=>
  have hd:¬ ((k:Int)<(l.length:Int)):=by omega
  rw [gO (l:=l) (d:=(0,0)) fun i h=>hi i (by omega)];simp only [simprocAttr,-ZA,↓zU,↓zD,zV,zT,zW,hd];refine .go (cq hC) ?_;simp only [simprocAttr,-ZA,↓zU,↓zD,zV,zT,zW];exact .dv
 have hd:((k:Int)<(l.length:Int)):=by omega
 have hp:=hin _ (xS (d:=(0,0)) hkl);have hpg:=qN l hkl;have hfin:sy3 rs A l (l.getD k (0,0))= false->l.all (sy3 rs A l)= false:=fun h=>gP hkl h
 have hnext:sy3 rs A l (l.getD k (0,0))= true->∀ i,i<k+1->sy3 rs A l (l.getD i (0,0))= true:=fun h i h2=>by
  by_cases e:i=k
  ·rw [e]; exact h
  ·exact hi i (by omega)
 generalize l.getD k (0,0)= p at hp hpg hfin hnext;obtain⟨p1,p2⟩:=p;simp only at hp hpg;simp only [simprocAttr,-ZA,↓zU,↓zD,zV,zT,zW,hd,zY,hpg]
 (repeat refine sd ?_)
 refine .go (cq hP) ?_;simp only [simprocAttr,-ZA,↓zU,↓zD,zV,zT,zW,zY]
 refine xQ (fun j:Nat=>[(18,.int .i64 j),(17,.int .i64 l.length),(16,.sl 2 (ptR l)),(11,.int .i64 k),(10,.int .i64 l.length),(9,.sl 2 (ptR l)),(4,.ref 1 2 0 0),(1,.ref 0 4 0 0)]) (fun _=>⟨2,[(1,⟨2,[[.int .i64 p1,.int .i64 p2]]⟩),(0,⟨4,[[.int .i64 A,.int .i64 F,.int .i64 T,.sl 2 (vF rs)]]⟩)]⟩)
  (fun j=>j<=l.length/\∀ i,i<j->sy2 rs A (p1,p2) (l.getD i (0,0))= true) (fun j=>l.length-j) 0 ⟨Nat.zero_le _,fun i hi=>absurd hi (Nat.not_lt_zero _)⟩ ?_ ?_
 ·(refine xM.same ?_; simp [xP,Fr.get])
 intro j ⟨hj,hi2⟩;refine xN mixed ?_;by_cases hjl:j<l.length
 case neg=>
  have hd2:¬ ((j:Int)<(l.length:Int)):=by omega
  simp only [simprocAttr,-ZA,↓zU,↓zD,zV,zT,zW,hd2]
  (repeat refine sd ?_)
  refine⟨k+1,⟨by omega,hnext (gO (d:=(0,0)) fun i h=>hi2 i (by omega))⟩,?_,by omega⟩
  (refine xM.ren [] [0] (by simp) (by simp) (by decide) ?_; simp only [yK,vwL,vw,vwF,sw,St.get,St.look,Fr.get,simprocAttr,-ZA,exists_eq_left',ne_eq,zR])
  exact wrap_i64 (by omega)
 have hd2:((j:Int)<(l.length:Int)):=by omega
 have hq:=hin _ (xS (d:=(0,0)) hjl);have hqg:=qN l hjl;have hfin2:sy2 rs A (p1,p2) (l.getD j (0,0))= false->sy3 rs A l (p1,p2)= false:=fun h=>gP hjl h
 have hnext2:sy2 rs A (p1,p2) (l.getD j (0,0))= true->∀ i,i<j+1->sy2 rs A (p1,p2) (l.getD i (0,0))= true:=fun h i h2=>by
  by_cases e:i=j
  ·rw [e]; exact h
  ·exact hi2 i (by omega)
 generalize l.getD j (0,0)= q at hq hqg hfin2 hnext2;obtain⟨q1,q2⟩:=q;simp only at hq hqg;simp only [simprocAttr,-ZA,↓zU,↓zD,zV,zT,zW,hd2,zY,hqg]
 (repeat refine sd ?_)
 refine xQ (fun a:Nat=>[(24,.int .i64 a),(23,.int .i64 A),(18,.int .i64 j),(17,.int .i64 l.length),(16,.sl 2 (ptR l)),(11,.int .i64 k),(10,.int .i64 l.length),(9,.sl 2 (ptR l)),(6,.ref 2 2 0 0),(4,.ref 1 2 0 0),(1,.ref 0 4 0 0)]) (fun _=>⟨3,[(2,⟨2,[[.int .i64 q1,.int .i64 q2]]⟩),(1,⟨2,[[.int .i64 p1,.int .i64 p2]]⟩),(0,⟨4,[[.int .i64 A,.int .i64 F,.int .i64 T,.sl 2 (vF rs)]]⟩)]⟩)
  (fun a=>a<=A/\∀ i,i<a->sy1 rs (p1,p2) (q1,q2) i=true) (fun a=>A-a) 0 ⟨Nat.zero_le _,fun i hi=>absurd hi (Nat.not_lt_zero _)⟩ ?_ ?_
 ·(refine xM.same ?_; simp [xP,Fr.get])
 intro a ⟨ha,hi3⟩;refine xN mixed ?_;by_cases hal:a<A
 case neg=>
  have hd3:¬ ((a:Int)<(A:Int)):=by omega
  simp only [simprocAttr,-ZA,↓zU,↓zD,zV,zT,zW,hd3]
  (repeat refine sd ?_)
  refine⟨j+1,⟨by omega,hnext2 (nW fun i h=>hi3 i (by omega))⟩,?_,by omega⟩
  (refine xM.ren [] [1,0] (by simp) (by simp) (by decide) ?_; simp only [yK,vwL,vw,vwF,sw,St.get,St.look,Fr.get,simprocAttr,-ZA,exists_eq_left',ne_eq,zR])
  exact wrap_i64 (by omega)
 have hd3:((a:Int)<(A:Int)):=by omega
 have hnext3:sy1 rs (p1,p2) (q1,q2) a=true->∀ i,i<a+1->sy1 rs (p1,p2) (q1,q2) i=true:=fun h i h2=>by
  by_cases e:i=a
  ·rw [e]; exact h
  ·exact hi3 i (by omega)
 have hfin3:sy1 rs (p1,p2) (q1,q2) a=false->l.all (sy3 rs A l)= false:=fun h=>hfin (hfin2 (bL hal h));have l1:=hloc a hal (p1,p2) hp;have l2:=hloc a hal (q1,q2) hq;unfold sy1 at hnext3 hfin3;simp only at l1 l2 hnext3 hfin3;generalize yQ rs a (p1,p2)= x at l1 hnext3 hfin3;generalize yQ rs a (q1,q2)= y at l2 hnext3 hfin3
 by_cases hne:p2=q2
 ·have hb:((p2:Int) != (q2:Int))= false:=by rw [hne]; simp
  simp only [simprocAttr,-ZA,↓zU,↓zD,zV,zT,zW,hd3,hb]
  (repeat refine sd ?_)
  refine⟨a+1,⟨by omega,hnext3 (by simp [hne])⟩,?_,by omega⟩
  (refine xM.same ?_; simp only [xP,Fr.get,simprocAttr,-ZA,zS])
  exact wrap_i64 (by omega)
 have hb:((p2:Int) != (q2:Int))= true:=by simp; omega
 simp only [simprocAttr,-ZA,↓zU,↓zD,zV,zT,zW,hd3,hb]
 (repeat refine sd ?_)
 refine .go (cr l1) ?_;simp only [simprocAttr,-ZA,↓zU,↓zD,zV,zT,zW];refine .go (cr l2) ?_
 by_cases hxy:x=y
 ·have hb2:(x==y)= true:=by simpa using hxy
  simp only [simprocAttr,-ZA,↓zU,↓zD,zV,zT,zW,hb2];rw [hfin3 (by simp [hne,hxy])];exact .dv
 ·have hb2:(x==y)= false:=by simpa using hxy
  simp only [simprocAttr,-ZA,↓zU,↓zD,zV,zT,zW,hb2];refine⟨a+1,⟨by omega,hnext3 (by simp [hxy])⟩,?_,by omega⟩
  (refine xM.same ?_; simp only [xP,Fr.get,simprocAttr,-ZA,zS])
  exact wrap_i64 (by omega)
open Ru
namespace Ru
def mH (u:List (Int × List Int)):List (Int × D):=u.map fun p=>(p.1,.sl 1 (rows .i64 p.2))
def lkH (x:Int):List (Int × List Int)->Option (List Int)
 | []=>none
 | (k,v) :: r=>if x=k then some v else lkH x r
def aDi (x:Int) (v:List Int):List (Int × List Int)->List (Int × List Int)
 | []=>[(x,v)]
 | (k,w) :: r=>if x=k then(x,v) :: r else(k,w) :: aDi x v r
theorem aU0 (x y:Int) (v:List Int):∀ u,lkH y (aDi x v u)= if y=x then some v else lkH y u
 | []=>by simp [aDi,lkH]
 | (k,w) :: r=>by
  unfold aDi
  by_cases h:x=k
  ·rw [if_pos h];subst h
   by_cases e:y=x
   ·simp [lkH,e]
   ·simp [lkH,e]
  ·rw [if_neg h,lkH,aU0 x y v r]
   by_cases e:y=k
   ·subst e;rw [if_pos rfl,if_neg (fun e=>h e.symm)];simp [lkH]
   ·rw [if_neg e];simp [lkH,e]
theorem aQr (x:Int):∀ (u:List (Int × List Int)) (i:Nat),(lkH x u=none/\wL x (mH u) i=none)\/∃ h j,lkH x u=some h/\wL x (mH u) i=some (j,.sl 1 (rows .i64 h))
 | [],i=>.inl ⟨rfl,rfl⟩
 | (k,y) :: r,i=>by
  show (lkH x ((k,y) :: r)= none/\wL x ((k,.sl 1 (rows .i64 y)) :: mH r) i=none)\/∃ h j,lkH x ((k,y) :: r)= some h/\wL x ((k,.sl 1 (rows .i64 y)) :: mH r) i=some (j,.sl 1 (rows .i64 h));unfold lkH wL
  by_cases h:x=k
  ·rw [if_pos h,if_pos h]; exact .inr ⟨y,i,rfl,rfl⟩
  ·rw [if_neg h,if_neg h]; exact aQr x r (i+1)
theorem fK (x:Int) (v:List Int):∀ u,aVx (mH u) x (.sl 1 (rows .i64 v))= mH (aDi x v u)
 | []=>rfl
 | (k,w) :: r=>by
  have ih:=fK x v r;show aVx ((k,.sl 1 (rows .i64 w)) :: mH r) x _=_;unfold aVx at ih ⊢;unfold wL aDi
  by_cases h:x=k
  ·rw [if_pos h,if_pos h]; rfl
  ·rw [if_neg h,if_neg h,wD]
   cases hf:wL x (mH r) 0 with
   | none=>rw [hf] at ih; simp only [Option.map_none] at ih ⊢; rw [List.cons_append,ih]; rfl
   | some p=>rw [hf] at ih; simp only [Option.map_some] at ih ⊢; rw [List.set_cons_succ,ih]; rfl
theorem aRf (u:List (Int × List Int)):tR (qS .i64 (mH u))= True:=eq_true (aPv fun p hp=>by simp only [mH,List.mem_map] at hp;obtain⟨q,_,rfl⟩:=hp;rfl)
def uH (rs:List xD) (l:List (Nat × Nat)) (a:Nat):Nat->List (Int × List Int)
 | 0=>[]
 | k+1=>aDi (yQ rs a (l.getD k (0,0))) (iV rs a (l.getD k (0,0))) (uH rs l a k)
theorem aMl {rs:List xD} {l:List (Nat × Nat)} {a:Nat} {x:Int}:∀ {k:Nat},lkH x (uH rs l a k)= none->∀ i,i<k->yQ rs a (l.getD i (0,0))≠ x
 | 0,_,i,hi=>by omega
 | k+1,h,i,hi=>by
  unfold uH at h;rw [aU0] at h
  by_cases e:x=yQ rs a (l.getD k (0,0))
  ·rw [if_pos e] at h; cases h
  ·rw [if_neg e] at h
   by_cases ei:i=k
   ·rw [ei]; exact fun c=>e c.symm
   ·exact aMl h i (by omega)
theorem aMk {rs:List xD} {l:List (Nat × Nat)} {a:Nat} {x:Int} {g:List Int}:∀ {k:Nat},lkH x (uH rs l a k)= some g->∃ i,i<k/\yQ rs a (l.getD i (0,0))= x/\iV rs a (l.getD i (0,0))= g
 | 0,h=>by cases h
 | k+1,h=>by
  unfold uH at h;rw [aU0] at h
  by_cases e:x=yQ rs a (l.getD k (0,0))
  ·rw [if_pos e] at h;exact⟨k,by omega,e.symm,by simpa using h⟩
  ·rw [if_neg e] at h;obtain⟨i,h1,h2⟩:=aMk h;exact⟨i,by omega,h2⟩
def rc1 (rs:List xD) (a:Nat) (p q:Nat × Nat):Bool:=!(decide (yQ rs a p=yQ rs a q)) || decide (iV rs a p=iV rs a q)
def rc2 (rs:List xD) (l:List (Nat × Nat)) (a:Nat):Bool:=l.all fun p=>l.all fun q=>rc1 rs a p q
def aIy (rs:List xD) (A:Nat) (l:List (Nat × Nat)):Bool:=(List.range A).all (rc2 rs l)
theorem aRd {rs:List xD} {l:List (Nat × Nat)} {a:Nat} (h:∀ i j,i<l.length->j<l.length->yQ rs a (l.getD i (0,0))= yQ rs a (l.getD j (0,0))->iV rs a (l.getD i (0,0))= iV rs a (l.getD j (0,0))):rc2 rs l a=true:=
 gO (d:=(0,0)) fun i hi=>gO (d:=(0,0)) fun j hj=>by
  unfold rc1
  by_cases e:yQ rs a (l.getD i (0,0))= yQ rs a (l.getD j (0,0))
  ·rw [decide_eq_true (h i j hi hj e),Bool.or_true]
  ·rw [decide_eq_false e]; rfl
theorem aGy {rs:List xD} {l:List (Nat × Nat)} {a i j:Nat} (hi:i<l.length) (hj:j<l.length) (h1:yQ rs a (l.getD i (0,0))= yQ rs a (l.getD j (0,0))) (h2:iV rs a (l.getD i (0,0))≠ iV rs a (l.getD j (0,0))):rc2 rs l a=false:= gP hi (gP hj (by unfold rc1; rw [decide_eq_true h1,decide_eq_false h2]; rfl))
end Ru
theorem aZ4 {rs:List xD} {A F T:Nat} (ok:OkR rs A F T):yB Tryz.prog 40 [sD A F T rs] (.bool (aIy rs A (ptN T (rs.length*T)))):=by
 have hC:=aXq ⟨A,F,T,rs⟩;have hP:=aYp ⟨A,F,T,rs⟩;have hz:=mQ ok;rw [hz] at hC;have ep:cQ ⟨A,F,T,rs⟩= ptN T (rs.length*T):=by unfold cQ; rw [if_neg (by simpa using hz)]; rfl
 rw [ep] at hP;have hin:Inb rs T (ptN T (rs.length*T)):=nC ok.hT.1 (Nat.le_refl _);have hll:(ptN T (rs.length*T)).length<=512:=by rw [vN]; exact ok.hP
 have hloc:=fun(a:Nat) (ha:a<A) (p:Nat × Nat) (hp:p.1<rs.length/\p.2<T)=>aM6 ok ha hp;have hhis:=fun(a:Nat) (ha:a<A) (p:Nat × Nat) (hp:p.1<rs.length/\p.2<T)=>aJu ok ha hp;generalize ptN T (rs.length*T)= l at hP hin hll ⊢;have hD:tZ.d ⟨A,F,T,rs⟩= .agg [.int .i64 (A:Int),.int .i64 (F:Int),.int .i64 (T:Int),.sl 2 (vF rs)]:=rfl;have hA:=ok.hA;rw [hD] at hC hP;unfold sD at *;refine xY.xR mixed Tryz.func40 k40 (by simp) fun hf=>?_;simp only [simprocAttr,-ZA,↓zU,↓zD,zV,zT,zW]
 (repeat refine sd ?_)
 refine xQ (fun a:Nat=>[(13,.int .i64 a),(12,.int .i64 A),(1,.ref 0 4 0 0)]) (fun _=>⟨1,[(0,⟨4,[[.int .i64 A,.int .i64 F,.int .i64 T,.sl 2 (vF rs)]]⟩)]⟩)
  (fun a=>a<=A/\∀ i,i<a->rc2 rs l i=true) (fun a=>A-a) 0 ⟨Nat.zero_le _,fun i hi=>absurd hi (Nat.not_lt_zero _)⟩ ?_ ?_
 ·(refine xM.same ?_; simp [xP,Fr.get])
 intro a ⟨ha,hi⟩;refine xN mixed ?_;by_cases hal:a<A
 case neg=>
  have hd:¬ ((a:Int)<(A:Int)):=by omega
  rw [show aIy rs A l=true from nW fun i h=>hi i (by omega)];simp only [simprocAttr,-ZA,↓zU,↓zD,zV,zT,zW,hd];refine .go (cq hC) ?_;simp only [simprocAttr,-ZA,↓zU,↓zD,zV,zT,zW];exact .dv
 have hd:((a:Int)<(A:Int)):=by omega
 simp only [simprocAttr,-ZA,↓zU,↓zD,zV,zT,zW,hd];refine .go (cq hP) ?_;simp only [simprocAttr,-ZA,↓zU,↓zD,zV,zT,zW,zY]
 refine xQ (fun w:Nat=>[(20,.int .i64 w),(19,.int .i64 l.length),(18,.sl 2 (ptR l)),(13,.int .i64 a),(12,.int .i64 A),(4,.zJ 1),(3,.int .i64 a),(1,.ref 0 4 0 0)]) (fun w=>⟨2,[(1,⟨0,qS .i64 (mH (uH rs l a w))⟩),(0,⟨4,[[.int .i64 A,.int .i64 F,.int .i64 T,.sl 2 (vF rs)]]⟩)]⟩)
  (fun w=>w<=l.length/\∀ i j,i<w->j<w->yQ rs a (l.getD i (0,0))= yQ rs a (l.getD j (0,0))->iV rs a (l.getD i (0,0))= iV rs a (l.getD j (0,0))) (fun w=>l.length-w) 0 ⟨Nat.zero_le _,fun i j h=>absurd h (Nat.not_lt_zero _)⟩ ?_ ?_
 ·(refine xM.same ?_; simp [xP,Fr.get])
 intro w ⟨hw,hi2⟩;refine xN mixed ?_;by_cases hwl:w<l.length
 case neg=>
  have hd2:¬ ((w:Int)<(l.length:Int)):=by omega
  have hnx:rc2 rs l a=true:=aRd fun i j h1 h2=>hi2 i j (by omega) (by omega);simp only [simprocAttr,-ZA,↓zU,↓zD,zV,zT,zW,hd2]
  (repeat refine sd ?_)
  refine⟨a+1,⟨by omega,fun i h=>?_⟩,?_,by omega⟩
  ·by_cases e:i=a
   ·rw [e]; exact hnx
   ·exact hi i (by omega)
  (refine xM.ren [] [0] (by simp) (by simp) (by decide) ?_; simp only [yK,vwL,vw,vwF,sw,St.get,St.look,Fr.get,simprocAttr,-ZA,exists_eq_left',ne_eq,zR])
  exact wrap_i64 (by omega)
 have hd2:((w:Int)<(l.length:Int)):=by omega
 have hp:=hin _ (xS (d:=(0,0)) hwl);have hpg:=qN l hwl;have l1:=hloc a hal _ hp;have l2:=hhis a hal _ hp;have hS:uH rs l a (w+1)= aDi (yQ rs a (l.getD w (0,0))) (iV rs a (l.getD w (0,0))) (uH rs l a w):=rfl;have hfail:∀ i,i<w->yQ rs a (l.getD i (0,0))= yQ rs a (l.getD w (0,0))->iV rs a (l.getD i (0,0))≠ iV rs a (l.getD w (0,0))->aIy rs A l=false:=fun i h1 h2 h3=>bL hal (aGy (show i<l.length by omega) hwl h2 h3)
 have hnext:(∀ i,i<w->yQ rs a (l.getD i (0,0))= yQ rs a (l.getD w (0,0))->iV rs a (l.getD i (0,0))= iV rs a (l.getD w (0,0)))->∀ i j,i<w+1->j<w+1->yQ rs a (l.getD i (0,0))= yQ rs a (l.getD j (0,0))->iV rs a (l.getD i (0,0))= iV rs a (l.getD j (0,0)):=fun h i j h1 h2 h3=>by
  by_cases e1:i=w <;> by_cases e2:j=w
  ·rw [e1,e2]
  ·subst e1; exact(h j (by omega) h3.symm).symm
  ·subst e2; exact h i (by omega) h3
  ·exact hi2 i j (by omega) (by omega) h3
 have hfind:=aQr (yQ rs a (l.getD w (0,0))) (uH rs l a w) 0;have hno:=aMl (rs:=rs) (l:=l) (a:=a) (x:=yQ rs a (l.getD w (0,0))) (k:=w);have hso:=fun g=>aMk (rs:=rs) (l:=l) (a:=a) (x:=yQ rs a (l.getD w (0,0))) (g:=g) (k:=w);generalize yQ rs a (l.getD w (0,0))= x at l1 hS hfail hnext hfind hno hso;generalize iV rs a (l.getD w (0,0))= h at l2 hS hfail hnext;generalize uH rs l a w=u at hS hfind hno hso;generalize l.getD w (0,0)= p at hp hpg l1 l2;obtain⟨p1,p2⟩:=p;simp only at hp hpg l1 l2;simp only [simprocAttr,-ZA,↓zU,↓zD,zV,zT,zW,hd2,zY,hpg]
 (repeat refine sd ?_)
 refine .go (cr l1) ?_;simp only [simprocAttr,-ZA,↓zU,↓zD,zV,zT,zW];refine .go (cr l2) ?_
 rcases hfind with ⟨f1,f2⟩ | ⟨g,j,f1,f2⟩
 ·simp only [simprocAttr,-ZA,↓zU,↓zD,zV,zT,zW,f2,fK]
  refine⟨.go (cr l1) ?_,?_⟩
  ·simp only [simprocAttr,-ZA,↓zU,↓zD,zV,zT,zW]
  refine⟨w+1,⟨by omega,hnext fun i h1 h2=>absurd h2 (hno f1 i h1)⟩,?_,by omega⟩;rw [hS]
  (refine xM.ren [] [1,0] (by simp) (by simp) (by decide) ?_; simp only [yK,vwL,vw,vwF,sw,St.get,St.look,Fr.get,simprocAttr,-ZA,exists_eq_left',ne_eq,zR,aRf])
  exact wrap_i64 (by omega)
 ·have he:=bXi g h;obtain⟨i0,q1,q2,q3⟩:=hso g f1
  by_cases hgh:g=h
  ·rw [decide_eq_true hgh] at he;simp only [simprocAttr,-ZA,↓zU,↓zD,zV,zT,zW,f2,fK]
   refine⟨.go (cr l1) ?_,?_⟩
   ·simp only [simprocAttr,-ZA,↓zU,↓zD,zV,zT,zW]
   refine .go (cr he) ?_;simp only [simprocAttr,-ZA,↓zU,↓zD,zV,zT,zW,fK]
   refine⟨w+1,⟨by omega,hnext fun i h1 h2=>?_⟩,?_,by omega⟩
   ·rw [hi2 i i0 h1 q1 (h2.trans q2.symm),q3,hgh]
   rw [hS]
   (refine xM.ren [] [1,0] (by simp) (by simp) (by decide) ?_; simp only [yK,vwL,vw,vwF,sw,St.get,St.look,Fr.get,simprocAttr,-ZA,exists_eq_left',ne_eq,zR,aRf])
   exact wrap_i64 (by omega)
  ·rw [decide_eq_false hgh] at he;rw [hfail i0 q1 q2 (by rw [q3]; exact hgh)];simp only [simprocAttr,-ZA,↓zU,↓zD,zV,zT,zW,f2,fK]
   refine⟨.go (cr l1) ?_,?_⟩
   ·simp only [simprocAttr,-ZA,↓zU,↓zD,zV,zT,zW]
   refine .go (cr he) ?_;simp only [simprocAttr,-ZA,↓zU,↓zD,zV,zT,zW];exact .dv
end Go.Pd
