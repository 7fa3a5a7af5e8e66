/- Part XE. -/
import Derived.Test.YtndfaefmmcoapaaGreatUbX8
import Derived.Test.YtndfaefmmcoapaaGreatUbXA
import Derived.Test.YtndfaefmmcoapaaGreatUbSM
import Derived.Test.YtndfaefmmcoapaaGreatUbX9
import Derived.Shelf.Small.Bits
import Derived.Test.YtndfaefmmcoapaaGreatUbKX
import Derived.Test.YtndfaefmmcoapaaGreatUbKG
import Derived.Test.YtndfaefmmcoapaaGreatUbE1
set_option linter.unusedSectionVars false
set_option linter.unusedVariables false
set_option linter.unusedSimpArgs false
set_option linter.defProp false
set_option maxRecDepth 20000
set_option maxHeartbeats 1000000
open Go.Proofs.Tryz
open Nat renaming zero_le->γ,not_lt_zero->δ,le_refl->ε
open List renaming pairwise_cons->ζ,all_eq_false->η,all_eq_true->θ
namespace Go.Pd
open Go
variable [rL]
end Go.Pd

/- Part XF. -/
namespace Go.Pd
open Go
variable [rL]
def dd (mask:Nat):Fr->Fr
 | []=>[]
 | (t,d) :: r=>if mask.testBit t=true then dd mask r else(t,d) :: dd (mask ||| 2 ^ t) r
end Go.Pd

/- Part B0. -/
namespace Go.Pd
open Go Go.Proofs
open Go.Shelf
open Rs Fm Ru Te Kb
namespace Kb
end Kb
open Rs Fm Ru Te Kb
namespace Kb
end Kb
open Rs Fm Ru Te Kb
namespace Kb
end Kb
open Rs Fm Ru Te Kb
namespace Kb
end Kb
open Rs Fm Ru Te Kb
namespace Kb
end Kb
open Rs Fm Ru Te Kb
namespace Kb
section
variable {n t : Nat} {sts sts' : List (List (BitVec 64))} {see : List (BitVec 64)}
variable {p : PrA}
end
end Kb
open Rs Fm Ru Te Kb
namespace Kb
end Kb
end Go.Pd

/- Part SG. -/
namespace Go.Pd
open Go Go.Proofs
open BitVec renaming isValue -> ZA
namespace Ru
theorem gC {α:Type} {l:List α} {f:α->Bool} {d:α} (h:∀ i,i<l.length->f (l.getD i d)= true):l.all f=true:=by rw [θ];intro x hx;obtain⟨i,hi,rfl⟩:=List.getElem_of_mem hx;have:=h i hi;simpa [List.getD,hi] using this
theorem gD {α:Type} {l:List α} {f:α->Bool} {d:α} {k:Nat} (hk:k<l.length) (h:f (l.getD k d)= false):l.all f=false:=by rw [η];exact⟨_,xR (d:=d) hk,by rw [h]; simp⟩
theorem aP {n:Nat} {f:Nat->Bool} (h:∀ i,i<n->f i=true):(List.range n).all f=true:=by rw [θ];exact λx hx=>h x (List.mem_range.1 hx)
theorem aQ {n k:Nat} {f:Nat->Bool} (hk:k<n) (h:f k=false):(List.range n).all f=false:=by rw [η];exact⟨k,List.mem_range.2 hk,by rw [h]; simp⟩
def sy1 (rs:List xG) (p q:Nat × Nat) (a:Nat):Bool:=!(decide (p.2≠q.2)&& decide (yJ rs a p=yJ rs a q))
def sy2 (rs:List xG) (A:Nat) (p q:Nat × Nat):Bool:=(List.range A).all (sy1 rs p q)
def sy3 (rs:List xG) (A:Nat) (l:List (Nat × Nat)) (p:Nat × Nat):Bool:=l.all (sy2 rs A p)
def z8 (s:tZ):Bool:=decide (chk s=0)&& (cB s).all (sy3 s.rs s.ag.toNat (cB s))
end Ru
open Ru
theorem Oc (s:tZ):zX prog 39 [s.d] (.bool (z8 s)):=by
 have hC:=lS s;have hP:=gA s;have hD:s.d = .agg [.int .i64 s.ag,.int .i64 s.fa,.int .i64 s.ln,.sl 2 (zL s.rs)]:=rfl;by_cases hz:chk s=0
 case neg=>
  have e:(chk s==0)= false:=by simpa using hz
  rw [show z8 s=false by unfold z8; rw [decide_eq_false hz]; rfl];rw [show cB s = [] by unfold cB; rw [if_pos hz],mj] at hP;rw [hD] at hC hP ⊢;refine xY.xP mixed func39 k39 (by simp) λhf=>?_;simp only [simprocAttr,-ZA,↓zU,↓zD,zV,zT,zW]
  (repeat refine sd ?_)
  refine .go (cq hP) ?_;simp only [simprocAttr,-ZA,↓zU,↓zD,zV,zT,zW]
  refine xT (λ_:Nat=>[(11,.int .i64 0),(10,.int .i64 0),(9,.sl 2 []),(1,.ref 0 4 0 0)]) (λ_=>⟨1,[(0,⟨4,[[.int .i64 s.ag,.int .i64 s.fa,.int .i64 s.ln,.sl 2 (zL s.rs)]]⟩)]⟩) (λ_=>True) (λ_=>0) 0 trivial ?_ ?_
  ·(refine xN.same ?_; simp [xQ,Fr.get])
  intro _ _;refine xO mixed ?_;simp only [simprocAttr,-ZA,↓zU,↓zD,zV,zT,zW];refine .go (cq hC) ?_;simp only [simprocAttr,-ZA,↓zU,↓zD,zV,zT,zW,e];exact .dv
 obtain⟨A,F,T,rs,rfl,ok⟩:=lV hz;obtain⟨T1,T16⟩:=ok.hT;have hA:=ok.hA;have ep:cB ⟨A,F,T,rs⟩= ptN T (rs.length*T):=by unfold cB; rw [if_neg (by simpa using hz)]; rfl
 have hin:Inb rs T (cB ⟨A,F,T,rs⟩):=by rw [ep]; exact lD T1 (ε _)
 have hll:(cB ⟨A,F,T,rs⟩).length<=512:=by rw [ep,vR]; exact ok.hP
 have hs:z8 ⟨A,F,T,rs⟩= (cB ⟨A,F,T,rs⟩).all (sy3 rs A (cB ⟨A,F,T,rs⟩)):=by unfold z8; rw [decide_eq_true hz,Bool.true_and]; rfl
 have hloc:=λ(a:Nat) (ha:a<A) (p:Nat × Nat) (hp:p.1<rs.length/\p.2<T)=>ye ok ha hp;rw [hz] at hC;generalize cB ⟨A,F,T,rs⟩= l at hP hin hs hll;rw [hs];unfold sD at hloc;rw [hD] at hC hP ⊢;simp only at hC hP ⊢;refine xY.xP mixed func39 k39 (by simp) λhf=>?_;simp only [simprocAttr,-ZA,↓zU,↓zD,zV,zT,zW]
 (repeat refine sd ?_)
 refine .go (cq hP) ?_;simp only [simprocAttr,-ZA,↓zU,↓zD,zV,zT,zW,yR]
 refine xT (λk:Nat=>[(11,.int .i64 k),(10,.int .i64 l.length),(9,.sl 2 (ptR l)),(1,.ref 0 4 0 0)]) (λ_=>⟨1,[(0,⟨4,[[.int .i64 A,.int .i64 F,.int .i64 T,.sl 2 (zL rs)]]⟩)]⟩)
  (λk=>k<=l.length/\∀ i,i<k->sy3 rs A l (l.getD i (0,0))= true) (λk=>l.length-k) 0 ⟨γ _,λi hi=>absurd hi (δ _)⟩ ?_ ?_
 ·(refine xN.same ?_; simp [xQ,Fr.get])
 intro k ⟨hk,hi⟩;refine xO mixed ?_;by_cases hkl:k<l.length
 case neg=>
  have hd:¬ ((k:Int)<(l.length:Int)):=by omega
  rw [gC (l:=l) (d:=(0,0)) λi h=>hi i (by omega)];simp only [simprocAttr,-ZA,↓zU,↓zD,zV,zT,zW,hd];refine .go (cq hC) ?_;simp only [simprocAttr,-ZA,↓zU,↓zD,zV,zT,zW];exact .dv
 have hd:((k:Int)<(l.length:Int)):=by omega
 have hp:=hin _ (xR (d:=(0,0)) hkl);have hpg:=uL l hkl;have hfin:sy3 rs A l (l.getD k (0,0))= false->l.all (sy3 rs A l)= false:=λh=>gD hkl h
 have hnext:sy3 rs A l (l.getD k (0,0))= true->∀ i,i<k+1->sy3 rs A l (l.getD i (0,0))= true:=λh i h2=>by
  by_cases e:i=k
  ·rw [e]; exact h
  ·exact hi i (by omega)
 generalize l.getD k (0,0)= p at hp hpg hfin hnext;obtain⟨p1,p2⟩:=p;simp only at hp hpg;simp only [simprocAttr,-ZA,↓zU,↓zD,zV,zT,zW,hd,yR,hpg]
 (repeat refine sd ?_)
 refine .go (cq hP) ?_;simp only [simprocAttr,-ZA,↓zU,↓zD,zV,zT,zW,yR]
 refine xT (λj:Nat=>[(18,.int .i64 j),(17,.int .i64 l.length),(16,.sl 2 (ptR l)),(11,.int .i64 k),(10,.int .i64 l.length),(9,.sl 2 (ptR l)),(4,.ref 1 2 0 0),(1,.ref 0 4 0 0)]) (λ_=>⟨2,[(1,⟨2,[[.int .i64 p1,.int .i64 p2]]⟩),(0,⟨4,[[.int .i64 A,.int .i64 F,.int .i64 T,.sl 2 (zL rs)]]⟩)]⟩)
  (λj=>j<=l.length/\∀ i,i<j->sy2 rs A (p1,p2) (l.getD i (0,0))= true) (λj=>l.length-j) 0 ⟨γ _,λi hi=>absurd hi (δ _)⟩ ?_ ?_
 ·(refine xN.same ?_; simp [xQ,Fr.get])
 intro j ⟨hj,hi2⟩;refine xO mixed ?_;by_cases hjl:j<l.length
 case neg=>
  have hd2:¬ ((j:Int)<(l.length:Int)):=by omega
  simp only [simprocAttr,-ZA,↓zU,↓zD,zV,zT,zW,hd2]
  (repeat refine sd ?_)
  refine⟨k+1,⟨by omega,hnext (gC (d:=(0,0)) λi h=>hi2 i (by omega))⟩,?_,by omega⟩
  (refine xN.ren [] [0] (by simp) (by simp) (by decide) ?_; simp only [yT,zQ,simprocAttr,-ZA,exists_eq_left',ne_eq,zR])
  exact wrap_i64 (by omega)
 have hd2:((j:Int)<(l.length:Int)):=by omega
 have hq:=hin _ (xR (d:=(0,0)) hjl);have hqg:=uL l hjl;have hfin2:sy2 rs A (p1,p2) (l.getD j (0,0))= false->sy3 rs A l (p1,p2)= false:=λh=>gD hjl h
 have hnext2:sy2 rs A (p1,p2) (l.getD j (0,0))= true->∀ i,i<j+1->sy2 rs A (p1,p2) (l.getD i (0,0))= true:=λh i h2=>by
  by_cases e:i=j
  ·rw [e]; exact h
  ·exact hi2 i (by omega)
 generalize l.getD j (0,0)= q at hq hqg hfin2 hnext2;obtain⟨q1,q2⟩:=q;simp only at hq hqg;simp only [simprocAttr,-ZA,↓zU,↓zD,zV,zT,zW,hd2,yR,hqg]
 (repeat refine sd ?_)
 refine xT (λa:Nat=>[(24,.int .i64 a),(23,.int .i64 A),(18,.int .i64 j),(17,.int .i64 l.length),(16,.sl 2 (ptR l)),(11,.int .i64 k),(10,.int .i64 l.length),(9,.sl 2 (ptR l)),(6,.ref 2 2 0 0),(4,.ref 1 2 0 0),(1,.ref 0 4 0 0)]) (λ_=>⟨3,[(2,⟨2,[[.int .i64 q1,.int .i64 q2]]⟩),(1,⟨2,[[.int .i64 p1,.int .i64 p2]]⟩),(0,⟨4,[[.int .i64 A,.int .i64 F,.int .i64 T,.sl 2 (zL rs)]]⟩)]⟩)
  (λa=>a<=A/\∀ i,i<a->sy1 rs (p1,p2) (q1,q2) i=true) (λa=>A-a) 0 ⟨γ _,λi hi=>absurd hi (δ _)⟩ ?_ ?_
 ·(refine xN.same ?_; simp [xQ,Fr.get])
 intro a ⟨ha,hi3⟩;refine xO mixed ?_;by_cases hal:a<A
 case neg=>
  have hd3:¬ ((a:Int)<(A:Int)):=by omega
  simp only [simprocAttr,-ZA,↓zU,↓zD,zV,zT,zW,hd3]
  (repeat refine sd ?_)
  refine⟨j+1,⟨by omega,hnext2 (aP λi h=>hi3 i (by omega))⟩,?_,by omega⟩
  (refine xN.ren [] [1,0] (by simp) (by simp) (by decide) ?_; simp only [yT,zQ,simprocAttr,-ZA,exists_eq_left',ne_eq,zR])
  exact wrap_i64 (by omega)
 have hd3:((a:Int)<(A:Int)):=by omega
 have hnext3:sy1 rs (p1,p2) (q1,q2) a=true->∀ i,i<a+1->sy1 rs (p1,p2) (q1,q2) i=true:=λh i h2=>by
  by_cases e:i=a
  ·rw [e]; exact h
  ·exact hi3 i (by omega)
 have hfin3:sy1 rs (p1,p2) (q1,q2) a=false->l.all (sy3 rs A l)= false:=λh=>hfin (hfin2 (aQ hal h));have l1:=hloc a hal (p1,p2) hp;have l2:=hloc a hal (q1,q2) hq;unfold sy1 at hnext3 hfin3;simp only at l1 l2 hnext3 hfin3;generalize yJ rs a (p1,p2)= x at l1 hnext3 hfin3;generalize yJ rs a (q1,q2)= y at l2 hnext3 hfin3
 by_cases hne:p2=q2
 ·have hb:((p2:Int) != (q2:Int))= false:=by rw [hne]; simp
  simp only [simprocAttr,-ZA,↓zU,↓zD,zV,zT,zW,hd3,hb]
  (repeat refine sd ?_)
  refine⟨a+1,⟨by omega,hnext3 (by simp [hne])⟩,?_,by omega⟩
  (refine xN.same ?_; simp only [xQ,Fr.get,simprocAttr,-ZA,zS])
  exact wrap_i64 (by omega)
 have hb:((p2:Int) != (q2:Int))= true:=by simp; omega
 simp only [simprocAttr,-ZA,↓zU,↓zD,zV,zT,zW,hd3,hb]
 (repeat refine sd ?_)
 refine .go (cr l1) ?_;simp only [simprocAttr,-ZA,↓zU,↓zD,zV,zT,zW];refine .go (cr l2) ?_
 by_cases hxy:x=y
 ·have hb2:(x==y)= true:=by simpa using hxy
  simp only [simprocAttr,-ZA,↓zU,↓zD,zV,zT,zW,hb2];rw [hfin3 (by simp [hne,hxy])];exact .dv
 ·have hb2:(x==y)= false:=by simpa using hxy
  simp only [simprocAttr,-ZA,↓zU,↓zD,zV,zT,zW,hb2];refine⟨a+1,⟨by omega,hnext3 (by simp [hxy])⟩,?_,by omega⟩
  (refine xN.same ?_; simp only [xQ,Fr.get,simprocAttr,-ZA,zS])
  exact wrap_i64 (by omega)
open Ru
namespace Ru
def mH (u:List (Int × List Int)):List (Int × D):=u.map λp=>(p.1,.sl 1 (rows .i64 p.2))
def lkH (x:Int):List (Int × List Int)->Option (List Int)
 | []=>none
 | (k,v) :: r=>if x=k then some v else lkH x r
def Sz (x:Int) (v:List Int):List (Int × List Int)->List (Int × List Int)
 | []=>[(x,v)]
 | (k,w) :: r=>if x=k then(x,v) :: r else(k,w) :: Sz x v r
theorem ma (x y:Int) (v:List Int):∀ u,lkH y (Sz x v u)= if y=x then some v else lkH y u
 | []=>by simp [Sz,lkH]
 | (k,w) :: r=>by
  unfold Sz
  by_cases h:x=k
  ·rw [if_pos h];subst h
   by_cases e:y=x
   ·simp [lkH,e]
   ·simp [lkH,e]
  ·rw [if_neg h,lkH,ma x y v r]
   by_cases e:y=k
   ·subst e;rw [if_pos rfl,if_neg (λe=>h e.symm)];simp [lkH]
   ·rw [if_neg e];simp [lkH,e]
theorem aq (x:Int):∀ (u:List (Int × List Int)) (i:Nat),(lkH x u=none/\wT x (mH u) i=none)\/∃ h j,lkH x u=some h/\wT x (mH u) i=some (j,.sl 1 (rows .i64 h))
 | [],i=>.inl ⟨rfl,rfl⟩
 | (k,y) :: r,i=>by
  show (lkH x ((k,y) :: r)= none/\wT x ((k,.sl 1 (rows .i64 y)) :: mH r) i=none)\/∃ h j,lkH x ((k,y) :: r)= some h/\wT x ((k,.sl 1 (rows .i64 y)) :: mH r) i=some (j,.sl 1 (rows .i64 h));unfold lkH wT
  by_cases h:x=k
  ·rw [if_pos h,if_pos h]; exact .inr ⟨y,i,rfl,rfl⟩
  ·rw [if_neg h,if_neg h]; exact aq x r (i+1)
theorem eY (x:Int) (v:List Int):∀ u,xc (mH u) x (.sl 1 (rows .i64 v))= mH (Sz x v u)
 | []=>rfl
 | (k,w) :: r=>by
  have ih:=eY x v r;show xc ((k,.sl 1 (rows .i64 w)) :: mH r) x _=_;unfold xc at ih ⊢;unfold wT Sz
  by_cases h:x=k
  ·rw [if_pos h,if_pos h]; rfl
  ·rw [if_neg h,if_neg h,wV]
   cases hf:wT x (mH r) 0 with
   | none=>rw [hf] at ih; simp only [Option.map_none] at ih ⊢; rw [List.cons_append,ih]; rfl
   | some p=>rw [hf] at ih; simp only [Option.map_some] at ih ⊢; rw [List.set_cons_succ,ih]; rfl
theorem fb (u:List (Int × List Int)):tW (rB .i64 (mH u))= True:=eq_true (aO λp hp=>by simp only [mH,List.mem_map] at hp;obtain⟨q,_,rfl⟩:=hp;rfl)
def uH (rs:List xG) (l:List (Nat × Nat)) (a:Nat):Nat->List (Int × List Int)
 | 0=>[]
 | k+1=>Sz (yJ rs a (l.getD k (0,0))) (bG rs a (l.getD k (0,0))) (uH rs l a k)
theorem YO {rs:List xG} {l:List (Nat × Nat)} {a:Nat} {x:Int}:∀ {k:Nat},lkH x (uH rs l a k)= none->∀ i,i<k->yJ rs a (l.getD i (0,0))≠ x
 | 0,_,i,hi=>by omega
 | k+1,h,i,hi=>by
  unfold uH at h;rw [ma] at h
  by_cases e:x=yJ rs a (l.getD k (0,0))
  ·rw [if_pos e] at h; cases h
  ·rw [if_neg e] at h
   by_cases ei:i=k
   ·rw [ei]; exact λc=>e c.symm
   ·exact YO h i (by omega)
theorem YP {rs:List xG} {l:List (Nat × Nat)} {a:Nat} {x:Int} {g:List Int}:∀ {k:Nat},lkH x (uH rs l a k)= some g->∃ i,i<k/\yJ rs a (l.getD i (0,0))= x/\bG rs a (l.getD i (0,0))= g
 | 0,h=>by cases h
 | k+1,h=>by
  unfold uH at h;rw [ma] at h
  by_cases e:x=yJ rs a (l.getD k (0,0))
  ·rw [if_pos e] at h;exact⟨k,by omega,e.symm,by simpa using h⟩
  ·rw [if_neg e] at h;obtain⟨i,h1,h2⟩:=YP h;exact⟨i,by omega,h2⟩
def rc1 (rs:List xG) (a:Nat) (p q:Nat × Nat):Bool:=!(decide (yJ rs a p=yJ rs a q)) || decide (bG rs a p=bG rs a q)
def rc2 (rs:List xG) (l:List (Nat × Nat)) (a:Nat):Bool:=l.all λp=>l.all λq=>rc1 rs a p q
def Nf (rs:List xG) (A:Nat) (l:List (Nat × Nat)):Bool:=(List.range A).all (rc2 rs l)
theorem UZ {rs:List xG} {l:List (Nat × Nat)} {a:Nat} (h:∀ i j,i<l.length->j<l.length->yJ rs a (l.getD i (0,0))= yJ rs a (l.getD j (0,0))->bG rs a (l.getD i (0,0))= bG rs a (l.getD j (0,0))):rc2 rs l a=true:=
 gC (d:=(0,0)) λi hi=>gC (d:=(0,0)) λj hj=>by
  unfold rc1
  by_cases e:yJ rs a (l.getD i (0,0))= yJ rs a (l.getD j (0,0))
  ·rw [decide_eq_true (h i j hi hj e),Bool.or_true]
  ·rw [decide_eq_false e]; rfl
theorem UY {rs:List xG} {l:List (Nat × Nat)} {a i j:Nat} (hi:i<l.length) (hj:j<l.length) (h1:yJ rs a (l.getD i (0,0))= yJ rs a (l.getD j (0,0))) (h2:bG rs a (l.getD i (0,0))≠ bG rs a (l.getD j (0,0))):rc2 rs l a=false:= gD hi (gD hj (by unfold rc1; rw [decide_eq_true h1,decide_eq_false h2]; rfl))
end Ru
theorem Wx {rs:List xG} {A F T:Nat} (ok:OkR rs A F T):zX prog 40 [sD A F T rs] (.bool (Nf rs A (ptN T (rs.length*T)))):=by
 have hC:=lS ⟨A,F,T,rs⟩;have hP:=gA ⟨A,F,T,rs⟩;have hz:=fF ok;rw [hz] at hC;have ep:cB ⟨A,F,T,rs⟩= ptN T (rs.length*T):=by unfold cB; rw [if_neg (by simpa using hz)]; rfl
 rw [ep] at hP;have hin:Inb rs T (ptN T (rs.length*T)):=lD ok.hT.1 (ε _);have hll:(ptN T (rs.length*T)).length<=512:=by rw [vR]; exact ok.hP
 have hloc:=λ(a:Nat) (ha:a<A) (p:Nat × Nat) (hp:p.1<rs.length/\p.2<T)=>ye ok ha hp;have hhis:=λ(a:Nat) (ha:a<A) (p:Nat × Nat) (hp:p.1<rs.length/\p.2<T)=>WR ok ha hp;generalize ptN T (rs.length*T)= l at hP hin hll ⊢;have hD:tZ.d ⟨A,F,T,rs⟩= .agg [.int .i64 (A:Int),.int .i64 (F:Int),.int .i64 (T:Int),.sl 2 (zL rs)]:=rfl;have hA:=ok.hA;rw [hD] at hC hP;unfold sD at *;refine xY.xP mixed func40 k40 (by simp) λhf=>?_;simp only [simprocAttr,-ZA,↓zU,↓zD,zV,zT,zW]
 (repeat refine sd ?_)
 refine xT (λa:Nat=>[(13,.int .i64 a),(12,.int .i64 A),(1,.ref 0 4 0 0)]) (λ_=>⟨1,[(0,⟨4,[[.int .i64 A,.int .i64 F,.int .i64 T,.sl 2 (zL rs)]]⟩)]⟩)
  (λa=>a<=A/\∀ i,i<a->rc2 rs l i=true) (λa=>A-a) 0 ⟨γ _,λi hi=>absurd hi (δ _)⟩ ?_ ?_
 ·(refine xN.same ?_; simp [xQ,Fr.get])
 intro a ⟨ha,hi⟩;refine xO mixed ?_;by_cases hal:a<A
 case neg=>
  have hd:¬ ((a:Int)<(A:Int)):=by omega
  rw [show Nf rs A l=true from aP λi h=>hi i (by omega)];simp only [simprocAttr,-ZA,↓zU,↓zD,zV,zT,zW,hd];refine .go (cq hC) ?_;simp only [simprocAttr,-ZA,↓zU,↓zD,zV,zT,zW];exact .dv
 have hd:((a:Int)<(A:Int)):=by omega
 simp only [simprocAttr,-ZA,↓zU,↓zD,zV,zT,zW,hd];refine .go (cq hP) ?_;simp only [simprocAttr,-ZA,↓zU,↓zD,zV,zT,zW,yR]
 refine xT (λw:Nat=>[(20,.int .i64 w),(19,.int .i64 l.length),(18,.sl 2 (ptR l)),(13,.int .i64 a),(12,.int .i64 A),(4,.zE 1),(3,.int .i64 a),(1,.ref 0 4 0 0)]) (λw=>⟨2,[(1,⟨0,rB .i64 (mH (uH rs l a w))⟩),(0,⟨4,[[.int .i64 A,.int .i64 F,.int .i64 T,.sl 2 (zL rs)]]⟩)]⟩)
  (λw=>w<=l.length/\∀ i j,i<w->j<w->yJ rs a (l.getD i (0,0))= yJ rs a (l.getD j (0,0))->bG rs a (l.getD i (0,0))= bG rs a (l.getD j (0,0))) (λw=>l.length-w) 0 ⟨γ _,λi j h=>absurd h (δ _)⟩ ?_ ?_
 ·(refine xN.same ?_; simp [xQ,Fr.get])
 intro w ⟨hw,hi2⟩;refine xO mixed ?_;by_cases hwl:w<l.length
 case neg=>
  have hd2:¬ ((w:Int)<(l.length:Int)):=by omega
  have hnx:rc2 rs l a=true:=UZ λi j h1 h2=>hi2 i j (by omega) (by omega);simp only [simprocAttr,-ZA,↓zU,↓zD,zV,zT,zW,hd2]
  (repeat refine sd ?_)
  refine⟨a+1,⟨by omega,λi h=>?_⟩,?_,by omega⟩
  ·by_cases e:i=a
   ·rw [e]; exact hnx
   ·exact hi i (by omega)
  (refine xN.ren [] [0] (by simp) (by simp) (by decide) ?_; simp only [yT,zQ,simprocAttr,-ZA,exists_eq_left',ne_eq,zR])
  exact wrap_i64 (by omega)
 have hd2:((w:Int)<(l.length:Int)):=by omega
 have hp:=hin _ (xR (d:=(0,0)) hwl);have hpg:=uL l hwl;have l1:=hloc a hal _ hp;have l2:=hhis a hal _ hp;have hS:uH rs l a (w+1)= Sz (yJ rs a (l.getD w (0,0))) (bG rs a (l.getD w (0,0))) (uH rs l a w):=rfl;have hfail:∀ i,i<w->yJ rs a (l.getD i (0,0))= yJ rs a (l.getD w (0,0))->bG rs a (l.getD i (0,0))≠ bG rs a (l.getD w (0,0))->Nf rs A l=false:=λi h1 h2 h3=>aQ hal (UY (show i<l.length by omega) hwl h2 h3)
 have hnext:(∀ i,i<w->yJ rs a (l.getD i (0,0))= yJ rs a (l.getD w (0,0))->bG rs a (l.getD i (0,0))= bG rs a (l.getD w (0,0)))->∀ i j,i<w+1->j<w+1->yJ rs a (l.getD i (0,0))= yJ rs a (l.getD j (0,0))->bG rs a (l.getD i (0,0))= bG rs a (l.getD j (0,0)):=λh i j h1 h2 h3=>by
  by_cases e1:i=w <;> by_cases e2:j=w
  ·rw [e1,e2]
  ·subst e1; exact(h j (by omega) h3.symm).symm
  ·subst e2; exact h i (by omega) h3
  ·exact hi2 i j (by omega) (by omega) h3
 have hfind:=aq (yJ rs a (l.getD w (0,0))) (uH rs l a w) 0;have hno:=YO (rs:=rs) (l:=l) (a:=a) (x:=yJ rs a (l.getD w (0,0))) (k:=w);have hso:=λg=>YP (rs:=rs) (l:=l) (a:=a) (x:=yJ rs a (l.getD w (0,0))) (g:=g) (k:=w);generalize yJ rs a (l.getD w (0,0))= x at l1 hS hfail hnext hfind hno hso;generalize bG rs a (l.getD w (0,0))= h at l2 hS hfail hnext;generalize uH rs l a w=u at hS hfind hno hso;generalize l.getD w (0,0)= p at hp hpg l1 l2;obtain⟨p1,p2⟩:=p;simp only at hp hpg l1 l2;simp only [simprocAttr,-ZA,↓zU,↓zD,zV,zT,zW,hd2,yR,hpg]
 (repeat refine sd ?_)
 refine .go (cr l1) ?_;simp only [simprocAttr,-ZA,↓zU,↓zD,zV,zT,zW];refine .go (cr l2) ?_
 rcases hfind with ⟨f1,f2⟩ | ⟨g,j,f1,f2⟩
 ·simp only [simprocAttr,-ZA,↓zU,↓zD,zV,zT,zW,f2,eY]
  refine⟨.go (cr l1) ?_,?_⟩
  ·simp only [simprocAttr,-ZA,↓zU,↓zD,zV,zT,zW]
  refine⟨w+1,⟨by omega,hnext λi h1 h2=>absurd h2 (hno f1 i h1)⟩,?_,by omega⟩;rw [hS]
  (refine xN.ren [] [1,0] (by simp) (by simp) (by decide) ?_; simp only [yT,zQ,simprocAttr,-ZA,exists_eq_left',ne_eq,zR,fb])
  exact wrap_i64 (by omega)
 ·have he:=Zr g h;obtain⟨i0,q1,q2,q3⟩:=hso g f1
  by_cases hgh:g=h
  ·rw [decide_eq_true hgh] at he;simp only [simprocAttr,-ZA,↓zU,↓zD,zV,zT,zW,f2,eY]
   refine⟨.go (cr l1) ?_,?_⟩
   ·simp only [simprocAttr,-ZA,↓zU,↓zD,zV,zT,zW]
   refine .go (cr he) ?_;simp only [simprocAttr,-ZA,↓zU,↓zD,zV,zT,zW,eY]
   refine⟨w+1,⟨by omega,hnext λi h1 h2=>?_⟩,?_,by omega⟩
   ·rw [hi2 i i0 h1 q1 (h2.trans q2.symm),q3,hgh]
   rw [hS]
   (refine xN.ren [] [1,0] (by simp) (by simp) (by decide) ?_; simp only [yT,zQ,simprocAttr,-ZA,exists_eq_left',ne_eq,zR,fb])
   exact wrap_i64 (by omega)
  ·rw [decide_eq_false hgh] at he;rw [hfail i0 q1 q2 (by rw [q3]; exact hgh)];simp only [simprocAttr,-ZA,↓zU,↓zD,zV,zT,zW,f2,eY]
   refine⟨.go (cr l1) ?_,?_⟩
   ·simp only [simprocAttr,-ZA,↓zU,↓zD,zV,zT,zW]
   refine .go (cr he) ?_;simp only [simprocAttr,-ZA,↓zU,↓zD,zV,zT,zW];exact .dv
namespace Ru
def hT (f:Nat->Int):Nat->List Int
 | 0=>[]
 | k+1=>if 0<k/\f k=f (k-1) then hT f k else hT f k ++ [f k]
theorem Xi {rs:List xG} {A T a:Nat} {p q:Nat × Nat} (ha:a<A) (hp:p.1<rs.length/\p.2<T) (hq:q.1<rs.length/\q.2<T) (e:p.2≠q.2):yJ (iq rs A T (oR rs)) a p≠yJ (iq rs A T (oR rs)) a q:=λh=>by have:=(Ua ha hp hq).1 h;unfold oR at this;simp only [List.cons.injEq] at this;omega
end Ru
open Rs Fm Ru Te Kb
namespace Kb
instance : DecidableEq xG := λa b => decidable_of_iff (a.loc = b.loc /\ a.fac = b.fac) (by cases a; cases b; simp)
instance : DecidableEq tZ := λa b => decidable_of_iff (a.ag = b.ag /\ a.fa = b.fa /\ a.ln = b.ln /\ a.rs = b.rs) (by cases a; cases b; simp)
def S9 (x:List Int):List (List Int)->List (List Int)
 | []=>[x]
 | y :: l=>if kc y x<0 then y :: S9 x l else x :: y :: l
def Pa : List (List Int)->List (List Int)
 | []=>[]
 | x :: l=>S9 x (Pa l)
theorem eC (x:List Int):∀ l,(S9 x l).Perm (x :: l)
 | []=>List.Perm.refl _
 | y :: l=>by
  unfold S9
  split
  ·exact((eC x l).cons y).trans (List.Perm.swap x y l)
  ·exact List.Perm.refl _
theorem qe : ∀ l,(Pa l).Perm l
 | []=>List.Perm.refl _
 | x :: l=>(eC x _).trans ((qe l).cons x)
theorem ca (x:List Int):∀ l,asc l->asc (S9 x l)
 | [],_=>by unfold S9 asc; simp
 | y :: l,h=>by
  have h1:=ζ.1 h;unfold S9
  split
  ·rename_i hc;refine ζ.2 ⟨λz hz=>?_,ca x l h1.2⟩
   rcases List.mem_cons.1 ((eC x l).mem_iff.1 hz) with rfl | hz
   ·have:=oK y z; omega
   ·exact h1.1 z hz
  ·rename_i hc;refine ζ.2 ⟨λz hz=>?_,h⟩
   rcases List.mem_cons.1 hz with rfl | hz
   ·exact hc
   ·exact oC (h1.1 z hz) hc
theorem aw : ∀ l,asc (Pa l)
 | []=>List.Pairwise.nil
 | x :: l=>ca x _ (aw l)
theorem TB (l:List (List Int)):pI l=Pa l:=(ko (qe l) (aw l)).symm
theorem Vz : pI=Pa:=funext TB
def Mb (see:List (BitVec 64)) (sts:List (List (BitVec 64))) (T:Nat):List xG:= xi (nq sts) see.length T λa p=>below (dedup (Pa ((ptN T ((nq sts).length*T)).map (Yx see sts a)))) (Yx see sts a p)
theorem Ux (see:List (BitVec 64)) (sts:List (List (BitVec 64))) (T:Nat):XT see sts T=Mb see sts T:=by unfold XT iq Mb sM;rw [Vz]
end Kb
open Rs Fm Ru Te Kb
def Nw (d d':D):Prop:=∀ (M:Nat->Prop) (w:World) (v:Value),RP M w v d->RP M w v d'
theorem Nw.refl (d:D):Nw d d:=λ_ _ _ h=>h
theorem Nw.xK (sz:Nat):Nw .xK (.sl sz []):=λ_ _ v h=>by cases h;exact .sl0 _ _ _ (by simp)
theorem Nw.sl {sz:Nat} {els els':List (List D)} (hl:els.length=els'.length) (hw:∀ e ∈ els',e.length=sz)
  (h:∀ i,i<els.length->∀ j,j<sz->Nw ((els.getD i []).getD j .top) ((els'.getD i []).getD j .top)):Nw (.sl sz els) (.sl sz els'):=λM w v hv=>by
 cases hv with
 | sl0 a cap sz hh=> have:els' = []:=List.length_eq_zero_iff.1 (by simpa using hl.symm);subst this;exact .sl0 _ _ _ hh
 | sl vs hs hM hc hm hl2 hcell hr=>
  have:=RP.sl (M:=M) (w:=w) (sz:=sz) (els:=els') vs hs hM (by omega) hm hw (by rw [<- hl]; exact hcell) (by rw [<- hl]; exact λi hi j hj=>h i hi j hj M w _ (hr i hi j hj))
  rwa [<- hl] at this
theorem Nw.agg {ds cs:List D} (hl:ds.length=cs.length) (h:∀ j,j<cs.length->Nw (ds.getD j .top) (cs.getD j .top)):Nw (.agg ds) (.agg cs):=λM w v hv=>by
 cases hv with
 | agg h1 h2=>exact .agg (by omega) λj hj=>h j hj M w _ (h2 j (by omega))
theorem Nw.seen {σ:St} {K:Nat->Prop} {d d':D} (h:Nw d d') (hp:d.xL=true):Seen σ K d d':=λM0 w ι v hS hR=>h _ _ _ (Seen.pure hp M0 w ι v hS hR)
theorem zX.seen {P:Program} {g:FuncId} {args args':List D} {d:D} (hc:zX P g args' d) (h:jF St0 (λ_=>False) args args'):zX P g args d:= xY.NN (σ:=St0) (objs':=[]) (λ_=>False) hc h λk o hk=>by cases hk
theorem Me (f g:List Nd):zX prog 37 [.sl 6 (ndR f),.sl 6 (ndR g)] (.sl 6 (ndR (PH f g))):=by
 refine xY.xP mixed func37 k37 (by simp) λhf=>?_;simp only [simprocAttr,-ZA,↓zU,↓zD,zV,zT,zW]
 (repeat refine sd ?_)
 refine .go (xY.yO (zr ⟨7,0,0,0,0,0⟩ [f,g] (by simp)) (by simp [D.xU,D.xL,Nd.row,nl])) ?_;simp only [simprocAttr,-ZA,↓zU,↓zD,zV,zT,zW];exact .same
open Rs Fm Ru Te Kb
namespace Kb
instance : DecidableEq ChA := λa b => decidable_of_iff (a.ag = b.ag /\ a.seen = b.seen /\ a.mv = b.mv) (by cases a; cases b; simp)
end Kb
open Rs Fm Ru Te Kb
open Rs Fm Ru Te Kb
namespace Kb
end Kb
open Rs Fm Ru Te Kb
namespace Kb
def exQ : PrA:=⟨1,[0#64,1#64],[1#64],[],[[]]⟩
def Yz : tZ:=⟨1,1,2,[⟨[[0],[2]],[0#64,0#64]⟩,⟨[[1],[3]],[1#64,1#64]⟩]⟩
def dS : tZ:=⟨1,1,2,[⟨[[0],[1]],[0#64,1#64]⟩,⟨[[0],[1]],[1#64,1#64]⟩]⟩
theorem Xu : uN exQ 1 = [[0#64,0#64],[1#64,1#64]]:=by decide +kernel
theorem Zt : Vn exQ 2=0:=by decide +kernel
theorem TT : nz exQ 2=Yz:=by unfold nz;rw [if_neg (by rw [Zt]; simp),show (2:Int).toNat=2 from rfl,Xu,Ux];decide +kernel
theorem WM : gp exQ:=⟨by decide,by decide,by decide⟩
theorem TU : z8 Yz=true:=by decide +kernel
theorem QL : chk Yz=0:=by decide +kernel
theorem O1 : OkR Yz.rs 1 1 2:=by obtain⟨A,F,T,rs,h,ok⟩:=lV QL;have h1:((1:Int)= A/\(1:Int)= F/\(2:Int)= T)/\ Yz.rs=rs:=⟨⟨congrArg tZ.ag h,congrArg tZ.fa h,congrArg tZ.ln h⟩,congrArg tZ.rs h⟩;obtain⟨⟨a1,a2,a3⟩,a4⟩:=h1;rw [a4,show 1=A by omega,show A=F by omega,show 2=T by omega];rw [show A=F by omega] at ok;exact ok
theorem QM : Nf Yz.rs 1 (ptN 2 (Yz.rs.length*2))= true:=by decide +kernel
theorem TP : Yn dS (PH (pE 0 (mA (sK 0))) (mA (pE 0 (sK 0))))= true:=by decide +kernel
theorem WH : gV dS (PH (pE 0 (mA (sK 0))) (mA (pE 0 (sK 0))))= 0:=by decide +kernel
theorem QG : iD dS (pE 0 (sK 0))= [[.sl 1 [[.bool false],[.bool true]]],[.sl 1 [[.bool false],[.bool true]]]]:=by kernel_rfl
theorem TO : gV dS (pE 0 (sK 0))= 0:=by decide +kernel
def PE : D:=.agg [.int .i64 1,.sl 1 (us [0#64,1#64]),.sl 1 (us [1#64]),.xK,.sl 1 [[.xK]]]
theorem QK : Nw PE exQ.d:=by
 refine Nw.agg rfl λj hj=>?_
 match j,hj with
 | 0,_=>exact Nw.refl _
 | 1,_=>exact Nw.refl _
 | 2,_=>exact Nw.refl _
 | 3,_=>exact Nw.xK 1
 | 4,_=>
  refine Nw.sl rfl (by decide) λi hi j hj=>?_;have e:j=0:=by omega
  subst e
  match i,hi with
  | 0,_=>exact Nw.xK 2
end Kb
theorem Xq : zX prog 107 [] dS.d:=by
 refine xY.xP mixed func107 Kh (by simp) λhf=>?_;simp only [simprocAttr,-ZA,↓zU,↓zD,zV,zT,zW]
 (repeat refine sd ?_)
 exact .drop (by simp) (by simp [vw,vwL,tZ.d,tZ.cells,dS,zL,xG.row,rl,rows,us,ui])
theorem TN : zX prog 46 [] (.bool true):=by
 have hp:PE.xL=true:=rfl;have S1:Seen St0 (λ_=>False) PE exQ.d:=QK.seen hp;have hP:zX prog 19 [PE,.int .i64 2] (.tup [Yz.d,.int .i64 0]):=zX.seen (args':=[exQ.d,.int .i64 2]) (by have:=Nn exQ WM 2; rwa [TT,Zt] at this) ⟨S1,Seen.pure rfl,trivial⟩;have hV:=Q3 dS (PH (pE 0 (mA (sK 0))) (mA (pE 0 (sK 0))));rw [TP,WH] at hV;have hH:=kg dS (pE 0 (sK 0));rw [QG,TO] at hH;have hS:=Oc Yz;rw [TU] at hS;have hR:zX prog 40 [Yz.d] (.bool true):=by have:=Wx O1; rwa [QM] at this
 have c1:=Nm 0;have c2:=SP (sK 0);have c3:=SO 0 (mA (sK 0));have c4:=SO 0 (sK 0);have c5:=SP (pE 0 (sK 0));have c6:=Me (pE 0 (mA (sK 0))) (mA (pE 0 (sK 0)));have hD:=Xq;have hdp:dS.d.xL=true:=rfl;have eS:Yz.d = .agg [.int .i64 1,.int .i64 1,.int .i64 2,.sl 2 [[.sl 1 (rl [[0],[2]]),.sl 1 (us [0#64,0#64])],[.sl 1 (rl [[1],[3]]),.sl 1 (us [1#64,1#64])]]]:=rfl;have eQ:PE = .agg [.int .i64 1,.sl 1 [[.int .u64 0],[.int .u64 1]],.sl 1 [[.int .u64 1]],.xK,.sl 1 [[.xK]]]:=rfl;rw [eS] at hP hS hR;rw [eQ] at hP;generalize dS.d=ds at *;generalize PH (pE 0 (mA (sK 0))) (mA (pE 0 (sK 0)))= g1 at *;generalize mA (pE 0 (sK 0))= g2 at *;generalize pE 0 (mA (sK 0))= g3 at *;generalize mA (sK 0)= g4 at *;generalize pE 0 (sK 0)= g5 at *;generalize sK 0=g6 at *;have w0:IntKind.i64.wrap (0+0)= 0:=rfl;refine xY.xP mixed func46 k46 (by simp) λhf=>?_;simp only [simprocAttr,-ZA,↓zU,↓zD,zV,zT,zW];refine .go (cq c1) ?_;simp only [simprocAttr,-ZA,↓zU,↓zD,zV,zT,zW];refine .go (cq hD) ?_;simp only [simprocAttr,-ZA,↓zU,↓zD,zV,zT,zW];refine .go (cr c2) ?_;simp only [simprocAttr,-ZA,↓zU,↓zD,zV,zT,zW];refine .go (cr c3) ?_;simp only [simprocAttr,-ZA,↓zU,↓zD,zV,zT,zW];refine .go (cr c4) ?_;simp only [simprocAttr,-ZA,↓zU,↓zD,zV,zT,zW];refine .go (cr c5) ?_;simp only [simprocAttr,-ZA,↓zU,↓zD,zV,zT,zW];refine .go (cr c6) ?_;simp only [simprocAttr,-ZA,↓zU,↓zD,zV,zT,zW];refine .go (xY.yO hV (by simp [D.xU,D.xL,hdp])) ?_;simp only [simprocAttr,-ZA,↓zU,↓zD,zV,zT,zW];refine .go (cq hD) ?_;simp only [simprocAttr,-ZA,↓zU,↓zD,zV,zT,zW];refine .go (cr c4) ?_;simp only [simprocAttr,-ZA,↓zU,↓zD,zV,zT,zW];refine .go (xY.yO hH (by simp [D.xU,D.xL,hdp])) ?_;simp only [simprocAttr,-ZA,↓zU,↓zD,zV,zT,zW]
 (repeat refine sd ?_)
 refine .go (cr hP) ?_;simp only [simprocAttr,-ZA,↓zU,↓zD,zV,zT,zW,w0]
 (repeat refine sd ?_)
 refine .go (cr hS) ?_;simp only [simprocAttr,-ZA,↓zU,↓zD,zV,zT,zW];refine .go (cr hR) ?_;simp only [simprocAttr,-ZA,↓zU,↓zD,zV,zT,zW];exact .dv
open Ru
theorem Q2 (s:tZ) (t:Int):zX prog 30 [s.d,.int .i64 t] (.tup [(bE s t).1.d,.int .i64 (bE s t).2]):=by
 have hC:=lS s;have hD:s.d = .agg [.int .i64 s.ag,.int .i64 s.fa,.int .i64 s.ln,.sl 2 (zL s.rs)]:=rfl;by_cases hz:chk s=0
 case neg=>
  have e:(chk s != 0)= true:=by simpa using hz
  rw [show bE s t=(od,chk s) from if_pos hz];rw [hD] at hC ⊢;refine xY.xP mixed func30 k30 (by simp) λhf=>?_;simp only [simprocAttr,-ZA,↓zU,↓zD,zV,zT,zW]
  (repeat refine sd ?_)
  refine .go (cq hC) ?_;simp only [simprocAttr,-ZA,↓zU,↓zD,zV,zT,zW,e];exact .drop (by simp) (by simp [vw,vwL,od,qF.d,us,rr])
 obtain⟨A,F,T,rs,rfl,ok⟩:=lV hz;obtain⟨T1,T16⟩:=ok.hT;obtain⟨R1,R64⟩:=ok.hR
 have hm:bE ⟨A,F,T,rs⟩ t=if t<0\/(T:Int)<=t then(od,2) else(pA rs (yA rs.length t.toNat) A F,0):=by unfold bE; rw [if_neg (by simpa using hz)]; rfl
 rw [hm];rw [hz] at hC;rw [hD] at hC ⊢;simp only at hC ⊢
 by_cases t1:t<0
 ·rw [if_pos (.inl t1)];refine xY.xP mixed func30 k30 (by simp) λhf=>?_;simp only [simprocAttr,-ZA,↓zU,↓zD,zV,zT,zW]
  (repeat refine sd ?_)
  refine .go (cq hC) ?_;simp only [simprocAttr,-ZA,↓zU,↓zD,zV,zT,zW,t1];exact .drop (by simp) (by simp [vw,vwL,od,qF.d,us,rr])
 by_cases t2:(T:Int)<=t
 ·rw [if_pos (.inr t2)];refine xY.xP mixed func30 k30 (by simp) λhf=>?_;simp only [simprocAttr,-ZA,↓zU,↓zD,zV,zT,zW]
  (repeat refine sd ?_)
  refine .go (cq hC) ?_;simp only [simprocAttr,-ZA,↓zU,↓zD,zV,zT,zW,t1,t2];exact .drop (by simp) (by simp [vw,vwL,od,qF.d,us,rr])
 rw [if_neg (by omega)];obtain⟨t,rfl⟩:=Int.eq_ofNat_of_zero_le (show 0<=t by omega);rw [Int.toNat_natCast];have htT:t<T:=by omega
 have hpt:=UT ok (l:=yA rs.length t) (by rw [vU]; omega) (V2 htT (ε _));have hck:=iR (yf ok (l:=yA rs.length t) (by rw [vU]; omega) (by rw [vU]; omega));unfold sD Vf at hpt;unfold qF.d pA at hck;refine xY.xP mixed func30 k30 (by simp) λhf=>?_;simp only [simprocAttr,-ZA,↓zU,↓zD,zV,zT,zW]
 (repeat refine sd ?_)
 refine .go (cq hC) ?_;simp only [simprocAttr,-ZA,↓zU,↓zD,zV,zT,zW,t1,t2,xJ]
 refine zZ (λr:Nat=>[(29,.int .i64 r),(28,.int .i64 rs.length),(7,xD 2 2 (ptR (yA r t))),(4,.ref 1 3 0 0),(2,.ref 0 4 0 0),(1,.int .i64 t)])
  (λr=>⟨3,xA 2 2 (ptR (yA r t))++ [(1,⟨3,[[.int .i64 0,.xK,.xK]]⟩),(0,⟨4,[[.int .i64 A,.int .i64 F,.int .i64 T,.sl 2 (zL rs)]]⟩)]⟩)
  (λr=>r<=rs.length) (λr=>rs.length-r) 0 (γ _) ?_ ?_
 ·(refine xN.ren [] [1,0] (by simp) (by simp) (by decide) ?_; simp only [yT,zQ,simprocAttr,-ZA,exists_eq_left',ne_eq,zR,yA,List.range_zero,List.map_nil,mj,zM,zN,List.nil_append])
 intro r hr;refine xO mixed ?_
 by_cases hrl:r<rs.length
 ·have hd:((r:Int)<(rs.length:Int)):=by omega
  have hS:=p6 r t;have hln:=vU r t;generalize yA r t=l at hS hln;simp only [simprocAttr,-ZA,↓zU,↓zD,zV,zT,zW,hd,yR,hln]
  (repeat refine sd ?_)
  refine⟨r+1,by omega,?_,by omega⟩;rw [hS,ez]
  (refine xN.ren [(2,3)] [2,1,0] (by simp) (by simp) (by decide) ?_; simp only [yT,zQ,simprocAttr,-ZA,exists_eq_left',ne_eq,zR,oG])
  exact wrap_i64 (by omega)
 have hd:¬ ((r:Int)<(rs.length:Int)):=by omega
 rw [show r=rs.length by omega];rw [show r=rs.length by omega] at hd;generalize yA rs.length t=l at hpt hck ⊢;simp only [simprocAttr,-ZA,↓zU,↓zD,zV,zT,zW,hd]
 refine .go [(7,.sl 2 (ptR l)),(4,.ref 1 3 0 0),(2,.ref 0 4 0 0),(1,.int .i64 t)] ⟨2,[(1,⟨3,[[.int .i64 0,.xK,.xK]]⟩),(0,⟨4,[[.int .i64 A,.int .i64 F,.int .i64 T,.sl 2 (zL rs)]]⟩)]⟩ ?_ ?_
 ·(refine xN.ren [] [1,0] (by simp) (by simp) (by decide) ?_; simp only [yT,zQ,simprocAttr,-ZA,exists_eq_left',ne_eq,zR,oG])
 simp only [simprocAttr,-ZA,↓zU,↓zD,zV,zT,zW]
 (repeat refine sd ?_)
 refine .go (cr hpt) ?_;simp only [simprocAttr,-ZA,↓zU,↓zD,zV,zT,zW];refine .go (cr hck) ?_;simp only [simprocAttr,-ZA,↓zU,↓zD,zV,zT,zW];exact .drop (by simp) (by simp [vw,vwL,qF.d,pA])
open Rs Fm Ru Te Kb
theorem Us (s:tZ) (f:List Nd):zX prog 14 [s.d,.sl 6 (ndR f)] (.bool true):=by
 have hFew:=Md s;have hC:=lS s;have hA:=TN;have hD:s.d = .agg [.int .i64 s.ag,.int .i64 s.fa,.int .i64 s.ln,.sl 2 (zL s.rs)]:=rfl
 cases hb:NW s with
 | false=> rw [hb] at hFew;rw [hD] at *;refine xY.xP mixed func14 k14 (by simp) λhf=>?_;simp only [simprocAttr,-ZA,↓zU,↓zD,zV,zT,zW];refine .go (cq hFew) ?_;simp only [simprocAttr,-ZA,↓zU,↓zD,zV,zT,zW];refine .go (cq hA) ?_;simp only [simprocAttr,-ZA,↓zU,↓zD,zV,zT,zW];exact .dv
 | true=>
 rw [hb] at hFew
 by_cases hf30:30<f.length
 ·have q30:(30:Int)<(f.length:Int):=by omega
  rw [hD] at *;refine xY.xP mixed func14 k14 (by simp) λhf=>?_;simp only [simprocAttr,-ZA,↓zU,↓zD,zV,zT,zW];refine .go (cq hFew) ?_;simp only [simprocAttr,-ZA,↓zU,↓zD,zV,zT,zW,xE,q30];refine .go (cq hA) ?_;simp only [simprocAttr,-ZA,↓zU,↓zD,zV,zT,zW];exact .dv
 have q30:¬ (30:Int)<(f.length:Int):=by omega
 by_cases hz:chk s=0
 case neg=>
  have hz':(chk s != 0)= true:=by simpa using hz
  rw [hD] at *;refine xY.xP mixed func14 k14 (by simp) λhf=>?_;simp only [simprocAttr,-ZA,↓zU,↓zD,zV,zT,zW];refine .go (cq hFew) ?_;simp only [simprocAttr,-ZA,↓zU,↓zD,zV,zT,zW,xE,q30];refine .go (cq hC) ?_;simp only [simprocAttr,-ZA,↓zU,↓zD,zV,zT,zW,hz'];refine .go (cq hA) ?_;simp only [simprocAttr,-ZA,↓zU,↓zD,zV,zT,zW];exact .dv
 obtain⟨A,F,T,rs,rfl,ok⟩:=lV hz;rw [hz] at hC;have hCl:=QD ok;have okc:=RJ (kf:=oR rs) ok
 have hsy:PB (iq rs A T (oR rs)) A T:=λa ha x y hx hy h=>by rw [zd] at hx hy;exact Decidable.byContradiction λe=>Xi ha hx hy e h
 have hlen:=zd rs A T (oR rs);generalize iq rs A T (oR rs)= cs at *;have hH:=kg ⟨A,F,T,cs⟩ f;have hG:=zo f;unfold sD at hCl;unfold tZ.d tZ.cells at hFew hC hH;simp only at hFew hC hH;show zX prog 14 [.agg [.int .i64 (A:Int),.int .i64 (F:Int),.int .i64 (T:Int),.sl 2 (zL rs)],.sl 6 (ndR f)] (.bool true);by_cases hE:gV ⟨A,F,T,cs⟩ f=0
 case neg=>
  have hE':(gV ⟨A,F,T,cs⟩ f != 0)= true:=by simpa using hE
  refine xY.xP mixed func14 k14 (by simp) λhf=>?_;simp only [simprocAttr,-ZA,↓zU,↓zD,zV,zT,zW];refine .go (cq hFew) ?_;simp only [simprocAttr,-ZA,↓zU,↓zD,zV,zT,zW,xE,q30];refine .go (cq hC) ?_;simp only [simprocAttr,-ZA,↓zU,↓zD,zV,zT,zW];refine .go (cq hCl) ?_;simp only [simprocAttr,-ZA,↓zU,↓zD,zV,zT,zW]
  (repeat refine sd ?_)
  refine .go (cq hH) ?_;simp only [simprocAttr,-ZA,↓zU,↓zD,zV,zT,zW,hE'];refine .go (cq hA) ?_;simp only [simprocAttr,-ZA,↓zU,↓zD,zV,zT,zW];exact .dv
 have hc:=(Te.kZ hE).2
 have hR:iD ⟨A,F,T,cs⟩ f=zI cs.length T (evT cs A T (oW f)):=by unfold iD;rw [if_neg (by simpa using hE),a8 hc];rfl
 rw [hE,hR] at hH
 cases hfr:(pJ .andNot .i64 (zC f:Int) 15 != 0) with
 | true=>
  refine xY.xP mixed func14 k14 (by simp) λhf=>?_;simp only [simprocAttr,-ZA,↓zU,↓zD,zV,zT,zW];refine .go (cq hFew) ?_;simp only [simprocAttr,-ZA,↓zU,↓zD,zV,zT,zW,xE,q30];refine .go (cq hC) ?_;simp only [simprocAttr,-ZA,↓zU,↓zD,zV,zT,zW];refine .go (cq hCl) ?_;simp only [simprocAttr,-ZA,↓zU,↓zD,zV,zT,zW]
  (repeat refine sd ?_)
  refine .go (cq hH) ?_;simp only [simprocAttr,-ZA,↓zU,↓zD,zV,zT,zW];refine .go (cq hG) ?_;simp only [simprocAttr,-ZA,↓zU,↓zD,zV,zT,zW,hfr];refine .go (cq hA) ?_;simp only [simprocAttr,-ZA,↓zU,↓zD,zV,zT,zW];exact .dv
 | false=>
 have hft:sU f A F=true:=by
  unfold gV at hE
  split at hE
  ·rename_i h; exact absurd hE h
  split at hE
  ·rename_i h; exact absurd hE h
  split at hE
  ·cases hE
  split at hE
  ·cases hE
  ·rename_i h; simpa using h
 have hfine:=eT ok hc hfr hft;have hW:cs.length<=64:=by have:=ok.hR; omega
 have hS:∀ t,t<T->zX prog 30 [.agg [.int .i64 (A:Int),.int .i64 (F:Int),.int .i64 (T:Int),.sl 2 (zL cs)],.int .i64 (t:Int)] (.tup [(pA cs (yA cs.length t) A F).d,.int .i64 0]):=λt ht=>by have:=Q2 ⟨A,F,T,cs⟩ t;unfold bE at this;rw [if_neg (by simpa using fF okc),if_neg (by show ¬ ((t:Int)<0\/(T:Int)<=(t:Int)); omega)] at this;exact this
 have hK:∀ t,t<T->zX prog 54 [(pA cs (yA cs.length t) A F).d,.sl 6 (ndR f)] (.tup [.int .u64 (ui (pB 1 cs.length λq=>evT cs A T (oW f) (q.1,t))),.int .i64 0]):=λt ht=>by
  have h1:=vr (OL okc ht) (by rw [tB]; omega) hc hfr hft;rw [Wp] at h1;unfold iu at h1;rw [if_pos hfine,tB,Nat.mul_one] at h1
  rw [iS (y:=λq=>evT cs A T (oW f) (q.1,t)) (λv hv=>?_) hW] at h1
  ·exact h1
  ·have e:pt 1 v=(v,0):=by unfold pt; rw [Nat.div_one,Nat.mod_one]
   rw [e];exact Yd hsy okc.hT.1 ht _ (gf hc) hfine hv
 generalize evT cs A T (oW f)= φ at *;have hR1:=ok.hR;have hT1:=ok.hT;have hmd:∀ t,∃ V R,(pA cs (yA cs.length t) A F).d = .agg [.int .i64 ((yA cs.length t).length:Int),.sl 1 V,.sl 1 R]:=λt=>⟨_,_,rfl⟩;have hq0:((cs.length:Int) != (rs.length:Int))= false:=by rw [hlen]; simp
 refine xY.xP mixed func14 k14 (by simp) λhf=>?_;simp only [simprocAttr,-ZA,↓zU,↓zD,zV,zT,zW];refine .go (cq hFew) ?_;simp only [simprocAttr,-ZA,↓zU,↓zD,zV,zT,zW,xE,q30];refine .go (cq hC) ?_;simp only [simprocAttr,-ZA,↓zU,↓zD,zV,zT,zW];refine .go (cq hCl) ?_;simp only [simprocAttr,-ZA,↓zU,↓zD,zV,zT,zW]
 (repeat refine sd ?_)
 refine .go (cq hH) ?_;simp only [simprocAttr,-ZA,↓zU,↓zD,zV,zT,zW];refine .go (cq hG) ?_;simp only [simprocAttr,-ZA,↓zU,↓zD,zV,zT,zW,hfr]
 refine xT (λt:Nat=>[(9,.int .i64 t),(7,.sl 1 (zI cs.length T φ)),(5,.ref 1 4 0 0),(2,.ref 0 4 0 0),(1,.sl 6 (ndR f))])
  (λ_=>⟨2,[(1,⟨4,[[.int .i64 (A:Int),.int .i64 (F:Int),.int .i64 (T:Int),.sl 2 (zL cs)]]⟩),(0,⟨4,[[.int .i64 (A:Int),.int .i64 (F:Int),.int .i64 (T:Int),.sl 2 (zL rs)]]⟩)]⟩)
  (λt=>t<=T) (λt=>T-t) 0 (γ _) ?_ ?_
 ·(refine xN.same ?_; simp [xQ,Fr.get])
 intro t ht;refine xO mixed ?_;by_cases htT:t<T
 case neg=>
  have hd:¬ ((t:Int)<(T:Int)):=by omega
  simp only [simprocAttr,-ZA,↓zU,↓zD,zV,zT,zW,hd];refine .go (cq hA) ?_;simp only [simprocAttr,-ZA,↓zU,↓zD,zV,zT,zW];exact .dv
 have hd:((t:Int)<(T:Int)):=by omega
 have hS:=hS t htT;have hK:=hK t htT;obtain⟨V,R,hm⟩:=hmd t;rw [hm] at hS hK;simp only [simprocAttr,-ZA,↓zU,↓zD,zV,zT,zW,hd]
 (repeat refine sd ?_)
 refine .go (cq hS) ?_;simp only [simprocAttr,-ZA,↓zU,↓zD,zV,zT,zW]
 (repeat refine sd ?_)
 refine .go (cq hK) ?_;simp only [simprocAttr,-ZA,↓zU,↓zD,zV,zT,zW,zY,xJ,hq0];have hbit:=λr (hr:r<cs.length)=>yS (T:=1) (x:=λq=>φ (q.1,t)) hW r;generalize pB 1 cs.length (λq=>φ (q.1,t))= S at *
 refine xT (λr:Nat=>[(14,.int .i64 r),(12,.int .u64 (ui S)),(9,.int .i64 t),(7,.sl 1 (zI cs.length T φ)),(5,.ref 1 4 0 0),(2,.ref 0 4 0 0),(1,.sl 6 (ndR f))])
  (λ_=>⟨2,[(1,⟨4,[[.int .i64 (A:Int),.int .i64 (F:Int),.int .i64 (T:Int),.sl 2 (zL cs)]]⟩),(0,⟨4,[[.int .i64 (A:Int),.int .i64 (F:Int),.int .i64 (T:Int),.sl 2 (zL rs)]]⟩)]⟩)
  (λr=>r<=cs.length) (λr=>cs.length-r) 0 (γ _) ?_ ?_
 ·(refine xN.ren [] [1,0] (by simp) (by simp) (by decide) ?_; simp only [yT,zQ,simprocAttr,-ZA,exists_eq_left',ne_eq,zR])
 intro r hr;refine xO mixed ?_;by_cases hrl:r<cs.length
 case neg=>
  have hd2:¬ ((r:Int)<(cs.length:Int)):=by omega
  simp only [simprocAttr,-ZA,↓zU,↓zD,zV,zT,zW,hd2,zY];refine⟨t+1,htT,?_,by omega⟩
  (refine xN.same ?_; simp only [xQ,Fr.get,simprocAttr,-ZA,zS])
  exact rJ (by omega)
 have hd2:((r:Int)<(cs.length:Int)):=by omega
 have g1:=wL (T:=T) (φ:=φ) hrl;have g2:=vB (i:=r) (φ:=φ) htT;have e1:IntKind.u64.wrap (r:Int)= (r:Int):=wrap_u64 (by omega);have hb:=hbit r hrl
 have hx:(φ (r,t) != (S >>> r &&& 1#64==1#64))= false:=by
  rw [jb,hb,decide_eq_true (by omega),Bool.true_and];have e:pt 1 r=(r,0):=by unfold pt; rw [Nat.div_one,Nat.mod_one]
  rw [e];simp
 simp only [simprocAttr,-ZA,↓zU,↓zD,zV,zT,zW,hd2,zY,g1,g2,e1,wW,List.length_map,List.length_range,hx]
 (repeat refine sd ?_)
 refine⟨r+1,hrl,?_,by omega⟩
 (refine xN.same ?_; simp only [xQ,Fr.get,simprocAttr,-ZA,zS])
 exact rJ (by omega)
end Go.Pd
