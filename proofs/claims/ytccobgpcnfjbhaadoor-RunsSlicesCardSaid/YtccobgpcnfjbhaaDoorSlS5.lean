/- Part S5. -/
import Derived.Test.YtccobgpcnfjbhaaDoorSlSQ
set_option linter.unusedSectionVars false
set_option linter.unusedVariables false
set_option linter.unusedSimpArgs false
set_option linter.defProp false
set_option maxRecDepth 20000
set_option maxHeartbeats 1000000
open Go.Proofs.Tryd
open Nat renaming zero_le->γ
namespace Go.Pd
open Go Go.Proofs
open BitVec renaming isValue -> ZA
open Ru
namespace Ru
def nI (F:Nat) (g h:Nat->BitVec 64) (i:Nat):List (BitVec 64):=(List.range F).map λf=>if f<i then g f else h f
theorem bD (F:Nat) (g h:Nat->BitVec 64) (i:Nat):(nI F g h i).length=F:=by simp [nI]
theorem sf (F:Nat) (g h:Nat->BitVec 64):nI F g h 0=(List.range F).map h:=by simp [nI]
theorem lf (F:Nat) (g h:Nat->BitVec 64) {i:Nat} (hi:F<=i):nI F g h i=(List.range F).map g:=by refine List.map_congr_left λf hf=>?_;rw [if_pos (by have:=List.mem_range.1 hf; omega)]
theorem lg {F:Nat} (g h:Nat->BitVec 64) {i:Nat} (hi:i<F):(nI F g h i).getD i 0=h i:=by simp [nI,List.getD,hi]
theorem lh (F:Nat) (g h:Nat->BitVec 64) (i:Nat):(nI F g h i).set i (g i)= nI F g h (i+1):=by
 refine List.ext_getElem (by simp [nI]) λk h1 h2=>?_;rw [List.getElem_set];simp only [nI,List.getElem_map,List.getElem_range]
 by_cases e:i=k
 ·subst e; rw [if_pos rfl,if_pos (by omega)]
 ·rw [if_neg e]
  by_cases hk:k<i
  ·rw [if_pos hk,if_pos (by omega)]
  ·rw [if_neg hk,if_neg (by omega)]
theorem fq (x:BitVec 64) (f w:Nat):(x >>> f &&& 1#64) <<< w=if x.getLsbD f then 1#64 <<< w else 0#64:=by
 rw [aT]
 split
 ·rfl
 ·exact BitVec.zero_shiftLeft _
theorem jD (u:List (Int × BitVec 64)):vZ (pU .i64 (mU u))= True:=eq_true (zq λp hp=>by simp only [mU,List.mem_map] at hp;obtain⟨q,_,rfl⟩:=hp;rfl)
end Ru
theorem bH {rs:List xG} {A F T:Nat} (ok:ew rs A F T) {l:List (Nat × Nat)} (hl:l.length<=64) (hin:Yn rs T l):wP prog 20 [sD A F T rs,.sl 2 (pR l)] (jr rs l A F):=by
 have hA:=ok.hA;have hF:=ok.hF;have hloc:=λ(a:Nat) (ha:a<A) (p:Nat × Nat) (hp:p.1<rs.length/\p.2<T)=>gr ok ha hp;unfold sD jr at *;refine wZ func20 YH λhf=>?_
 have hz:List.replicate F [D.int .u64 (ui 0#64)]=us ((List.range F).map λf=>sM rs l f 0):=by simp only [sM,us,List.map_map];refine List.ext_getElem (by simp) λi h1 h2=>?_;simp
 refine mD uW ?_
 refine xL (λw:Nat=>[(24,.int .i64 w),(23,.int .i64 l.length),(22,.sl 2 (pR l)),(5,.ref 3 3 0 0),(4,.ref 1 3 0 0),(2,.ref 0 4 0 0),(1,.sl 2 (pR l))])
  (λw=>⟨4,[(3,⟨3,[[.int .i64 l.length,.zZ 2 1 F,.xY]]⟩),(2,⟨1,us ((List.range F).map λf=>sM rs l f w)⟩),(1,⟨3,[[.int .i64 0,.xY,.xY]]⟩),(0,⟨4,[[.int .i64 A,.int .i64 F,.int .i64 T,.sl 2 (yL rs)]]⟩)]⟩)
  (λw=>w<=l.length) (λw=>l.length-w) 0 (γ _) ?_ ?_
 ·rw [<- hz];exact uM
 intro w hw;refine yW mixed ?_
 by_cases hwl:w<l.length
 ·have hd:((w:Int)<(l.length:Int)):=by omega
  have hp:=hin _ (zF (d:=(0,0)) hwl);have hpg:=kJ l hwl;have hv:∀ f,sM rs l f (w+1)= sM rs l f w ||| (if (eX rs (l.getD w (0,0))).getLsbD f then 1#64 <<< w else 0#64):=λf=>rfl;generalize l.getD w (0,0)= q at hp hpg hv;obtain⟨q1,q2⟩:=q;have hm:=zF (d:=vH) hp.1;have hg:=uV rs hp.1;have h1:=ok.sK _ hm;unfold eX at hv;simp only at hp hpg hv hm hg h1;generalize rs.getD q1 vH=r at hg h1 hv;have hg2:=pL r.sK (show q2<r.sK.length by omega);generalize r.sK.getD q2 0=x at hg2 hv;refine fF hd uW hpg ?_
  refine xL (λi:Nat=>[(32,.int .i64 i),(31,.int .i64 F),(24,.int .i64 w),(23,.int .i64 l.length),(22,.sl 2 (pR l)),(7,.ref 4 2 0 0),(6,.int .i64 w),(5,.ref 3 3 0 0),(4,.ref 1 3 0 0),(2,.ref 0 4 0 0),(1,.sl 2 (pR l))])
   (λi=>⟨5,[(4,⟨2,[[.int .i64 q1,.int .i64 q2]]⟩),(3,⟨3,[[.int .i64 l.length,.zZ 2 1 F,.xY]]⟩),(2,⟨1,us (nI F (λf=>sM rs l f (w+1)) (λf=>sM rs l f w) i)⟩),(1,⟨3,[[.int .i64 0,.xY,.xY]]⟩),(0,⟨4,[[.int .i64 A,.int .i64 F,.int .i64 T,.sl 2 (yL rs)]]⟩)]⟩)
   (λi=>i<=F) (λi=>F-i) 0 (γ _) ?_ ?_
  ·rw [sf];exact uM
  intro i hi;refine yW mixed ?_
  by_cases hil:i<F
  ·have hd2:((i:Int)<(F:Int)):=by omega
   have hmg:=pL (nI F (λf=>sM rs l f (w+1)) (λf=>sM rs l f w) i) (show i<_ by rw [bD]; exact hil);rw [lg _ _ hil] at hmg;have hms:=lh F (λf=>sM rs l f (w+1)) (λf=>sM rs l f w) i;simp only [hv i] at hms;have hml:=bD F (λf=>sM rs l f (w+1)) (λf=>sM rs l f w) i;generalize nI F (λf=>sM rs l f (w+1)) (λf=>sM rs l f w) i=M at hmg hms hml;simp only [simprocAttr,-ZA,↓zU,↓zD,zV,zT,zW,hd2,yB,hml,hmg,xV,hg,xG.row,h1,hg2,fq,pd,hms]
   (repeat refine sd ?_)
   refine⟨i+1,by omega,?_,by omega⟩;exact oA
  ·have hd2:¬ ((i:Int)<(F:Int)):=by omega
   rw [lf _ _ _ (by omega:F<=i)];refine mD hd2 ?_;refine⟨w+1,by omega,?_,by omega⟩;exact qe [] [3,2,1,0] wE
 have hd:¬ ((w:Int)<(l.length:Int)):=by omega
 obtain rfl:w=l.length:=by omega
 rw [show ((List.range F).map λf=>sM rs l f l.length)= mE rs l F from rfl];refine wL hd ?_
 refine xL (λa:Nat=>[(62,.int .i64 a),(61,.int .i64 A),(5,.ref 3 3 0 0),(4,.ref 1 3 0 0),(2,.ref 0 4 0 0),(1,.sl 2 (pR l))])
  (λa=>⟨5,xN 4 1 (rr (nX rs l a))++ [(3,⟨3,[[.int .i64 l.length,.zZ 2 1 F,xI 4 1 (rr (nX rs l a))]]⟩),(2,⟨1,us (mE rs l F)⟩),(1,⟨3,[[.int .i64 0,.xY,.xY]]⟩),(0,⟨4,[[.int .i64 A,.int .i64 F,.int .i64 T,.sl 2 (yL rs)]]⟩)]⟩)
  (λa=>a<=A) (λa=>A-a) 0 (γ _) ?_ ?_
 ·(refine kQ [] [3,2,1,0] ?_; simp only [vS,zQ,simprocAttr,-ZA,exists_eq_left',ne_eq,zR,nX,List.range_zero,List.map_nil,wM,wN,List.nil_append,wE,show rr [] = [] from rfl])
 intro a ha;refine yW mixed ?_;by_cases hal:a<A
 case neg=>
  have hd2:¬ ((a:Int)<(A:Int)):=by omega
  rw [show a=A by omega];rw [show a=A by omega] at hd2;have hvl:(us (mE rs l F)).length=F:=by simp [us,mE]
  refine wL hd2 ?_
  (refine nW.fc [] [] (by simp) (by simp) (by decide) ?_; simp only [vS,zQ,simprocAttr,-ZA,exists_eq_left',ne_eq,zR,wE,uC])
  exact⟨λ_ h=>h.elim,by omega,(List.take_of_length_le (by omega)).symm,eL _⟩
 have hd2:((a:Int)<(A:Int)):=by omega
 have hrel:nX rs l (a+1)= nX rs l a ++ [uD rs l a]:=by unfold nX; rw [List.range_succ,List.map_append]; rfl
 generalize hRL:nX rs l a=RL at hrel;refine cP hd2 uW ?_
 refine xL (λw:Nat=>[(68,.int .i64 w),(67,.int .i64 l.length),(66,.sl 2 (pR l)),(62,.int .i64 a),(61,.int .i64 A),(10,.yU 5),(9,.int .i64 a),(5,.ref 3 3 0 0),(4,.ref 1 3 0 0),(2,.ref 0 4 0 0),(1,.sl 2 (pR l))])
  (λw=>⟨6,(5,⟨0,pU .i64 (mU (uK rs l a w))⟩) :: (xN 4 1 (rr RL)++ [(3,⟨3,[[.int .i64 l.length,.zZ 2 1 F,xI 4 1 (rr RL)]]⟩),(2,⟨1,us (mE rs l F)⟩),(1,⟨3,[[.int .i64 0,.xY,.xY]]⟩),(0,⟨4,[[.int .i64 A,.int .i64 F,.int .i64 T,.sl 2 (yL rs)]]⟩)])⟩)
  (λw=>w<=l.length) (λw=>l.length-w) 0 (γ _) ?_ ?_
 ·(refine kQ [] [5,4,3,2,1,0] ?_; simp only [vS,zQ,simprocAttr,-ZA,exists_eq_left',ne_eq,zR,uK,mU,List.map_nil,lu,wE,uC])
 intro w hw;refine yW mixed ?_
 by_cases hwl:w<l.length
 ·have hd3:((w:Int)<(l.length:Int)):=by omega
  have hp:=hin _ (zF (d:=(0,0)) hwl);have hpg:=kJ l hwl;have hS:uK rs l a (w+1)= cN (rU rs a (l.getD w (0,0))) (xq (rU rs a (l.getD w (0,0))) (uK rs l a w) ||| 1#64 <<< w) (uK rs l a w):=rfl;have hlc:=hloc a hal _ hp;generalize l.getD w (0,0)= q at hp hpg hS hlc;obtain⟨q1,q2⟩:=q;simp only at hpg hlc;generalize rU rs a (q1,q2)= x at hS hlc;generalize uK rs l a w=u at hS;refine fF hd3 uW hpg ?_;refine .go (cr hlc) ?_;refine cP eF uw ?_;refine⟨w+1,by omega,?_,by omega⟩;rw [hS];exact cn [] [5,4,3,2,1,0] wE uC jD
 have hd3:¬ ((w:Int)<(l.length:Int)):=by omega
 obtain rfl:w=l.length:=by omega
 have hu:=λx=>xc rs l a x l.length;generalize uK rs l a l.length=u at hu;refine rW hd3 uW ?_
 refine oP (λw:Nat=>[(85,.int .i64 w),(84,.int .i64 l.length),(83,.sl 2 (pR l)),(62,.int .i64 a),(61,.int .i64 A),(13,xI 6 1 (us ((uD rs l a).take w))),(10,.yU 5),(9,.int .i64 a),(5,.ref 3 3 0 0),(4,.ref 1 3 0 0),(2,.ref 0 4 0 0),(1,.sl 2 (pR l))])
  (λw=>⟨7,xN 6 1 (us ((uD rs l a).take w))++ ((5,⟨0,pU .i64 (mU u)⟩) :: (xN 4 1 (rr RL)++ [(3,⟨3,[[.int .i64 l.length,.zZ 2 1 F,xI 4 1 (rr RL)]]⟩),(2,⟨1,us (mE rs l F)⟩),(1,⟨3,[[.int .i64 0,.xY,.xY]]⟩),(0,⟨4,[[.int .i64 A,.int .i64 F,.int .i64 T,.sl 2 (yL rs)]]⟩)]))⟩)
  (λw=>w<=l.length) (λw=>l.length-w) 0 (γ _) ?_ ?_
 ·(refine kQ [] [5,4,3,2,1,0] ?_; simp only [vS,zQ,simprocAttr,-ZA,exists_eq_left',ne_eq,zR,List.take_zero,xd,wM,wN,List.nil_append,wE,uC,jD])
 intro w hw;refine yW mixed ?_;have hrl:=(show (uD rs l a).length=l.length by simp [uD])
 by_cases hwl:w<l.length
 ·have hd3:((w:Int)<(l.length:Int)):=by omega
  have hp:=hin _ (zF (d:=(0,0)) hwl);have hpg:=kJ l hwl
  have hrg:(uD rs l a).take (w+1)= (uD rs l a).take w ++ [xq (rU rs a (l.getD w (0,0))) u]:=by rw [tJ (d:=0#64) (by omega),hu];congr 1;simp [uD,List.getD,hwl]
  have hlc:=hloc a hal _ hp;generalize l.getD w (0,0)= q at hp hpg hrg hlc;obtain⟨q1,q2⟩:=q;simp only at hpg hlc;generalize rU rs a (q1,q2)= x at hrg hlc;have htl:((uD rs l a).take w).length=w:=by rw [List.length_take]; omega
  generalize (uD rs l a).take w=rw' at hrg htl;refine fF hd3 uW hpg ?_;refine .go (cr hlc) ?_;refine fF eF yB htl ?_;refine⟨w+1,by omega,?_,by omega⟩;rw [hrg];exact cn [(6,8)] [6,5,4,3,2,1,0] wE uC jD
 have hd3:¬ ((w:Int)<(l.length:Int)):=by omega
 rw [show (uD rs l a).take w=uD rs l a by rw [show w=(uD rs l a).length by omega,List.take_length]];refine wL hd3 ?_
 refine .go [(62,.int .i64 a),(61,.int .i64 A),(13,.sl 1 (us (uD rs l a))),(9,.int .i64 a),(5,.ref 3 3 0 0),(4,.ref 1 3 0 0),(2,.ref 0 4 0 0),(1,.sl 2 (pR l))]
  ⟨5,xN 4 1 (rr RL)++ [(3,⟨3,[[.int .i64 l.length,.zZ 2 1 F,xI 4 1 (rr RL)]]⟩),(2,⟨1,us (mE rs l F)⟩),(1,⟨3,[[.int .i64 0,.xY,.xY]]⟩),(0,⟨4,[[.int .i64 A,.int .i64 F,.int .i64 T,.sl 2 (yL rs)]]⟩)]⟩ ?_ ?_
 ·exact qf [] [4,3,2,1,0] wE uC
 have hRLl:RL.length=a:=by rw [<- hRL]; simp [nX]
 refine cP tB hRLl ?_;refine⟨a+1,by omega,?_,by omega⟩;rw [hrel];exact qf [(4,6)] [4,3,2,1,0] wE uC
end Go.Pd
