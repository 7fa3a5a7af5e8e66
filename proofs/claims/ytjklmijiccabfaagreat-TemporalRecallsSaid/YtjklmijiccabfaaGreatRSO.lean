/- Part SO. -/
import Derived.Test.YtjklmijiccabfaaGreatRSM
import Derived.Test.YtjklmijiccabfaaGreatRSG
set_option linter.unusedSectionVars false
set_option linter.unusedVariables false
set_option linter.unusedSimpArgs false
set_option linter.defProp false
set_option maxRecDepth 20000
set_option maxHeartbeats 1000000
namespace Go.Pd
open Go Go.Proofs
open Int renaming reduceToNat -> ZA, reduceLT -> ZB, reduceLE -> ZC, reduceBEq -> ZD, reduceBNe -> ZE
open Nat renaming reduceEqDiff -> ZF, reduceAdd -> ZG, reduceBEq -> ZH, reduceLT -> ZI, reduceLeDiff -> ZJ, reduceMul -> ZK
open Ru
namespace Ru
def mH (u:List (Int × List Int)):List (Int × D):=u.map fun p=>(p.1,.sl 1 (rows .i64 p.2))
def lkH (x:Int):List (Int × List Int)->Option (List Int)
 | []=>none
 | (k,v) :: r=>if x=k then some v else lkH x r
def putH (x:Int) (v:List Int):List (Int × List Int)->List (Int × List Int)
 | []=>[(x,v)]
 | (k,w) :: r=>if x=k then(x,v) :: r else(k,w) :: putH x v r
theorem lkH_put (x y:Int) (v:List Int):∀ u,lkH y (putH x v u)= if y=x then some v else lkH y u
 | []=>by simp [putH,lkH]
 | (k,w) :: r=>by
  unfold putH
  by_cases h:x=k
  ·rw [if_pos h]
   subst h
   by_cases e:y=x
   ·simp [lkH,e]
   ·simp [lkH,e]
  ·rw [if_neg h,lkH,lkH_put x y v r]
   by_cases e:y=k
   ·subst e
    rw [if_pos rfl,if_neg (fun e=>h e.symm)]
    simp [lkH]
   ·rw [if_neg e]
    simp [lkH,e]
theorem afind_mH (x:Int):∀ (u:List (Int × List Int)) (i:Nat),(lkH x u=none/\afind x (mH u) i=none)\/∃ h j,lkH x u=some h/\afind x (mH u) i=some (j,.sl 1 (rows .i64 h))
 | [],i=>.inl ⟨rfl,rfl⟩
 | (k,y) :: r,i=>by
  show (lkH x ((k,y) :: r)= none/\afind x ((k,.sl 1 (rows .i64 y)) :: mH r) i=none)\/∃ h j,lkH x ((k,y) :: r)= some h/\afind x ((k,.sl 1 (rows .i64 y)) :: mH r) i=some (j,.sl 1 (rows .i64 h))
  unfold lkH afind
  by_cases h:x=k
  ·rw [if_pos h,if_pos h]; exact .inr ⟨y,i,rfl,rfl⟩
  ·rw [if_neg h,if_neg h]; exact afind_mH x r (i+1)
theorem aput_mH (x:Int) (v:List Int):∀ u,aput (mH u) x (.sl 1 (rows .i64 v))= mH (putH x v u)
 | []=>rfl
 | (k,w) :: r=>by
  have ih:=aput_mH x v r
  show aput ((k,.sl 1 (rows .i64 w)) :: mH r) x _=_
  unfold aput at ih ⊢
  unfold afind putH
  by_cases h:x=k
  ·rw [if_pos h,if_pos h]; rfl
  ·rw [if_neg h,if_neg h,afind_shift]
   cases hf:afind x (mH r) 0 with
   | none=>rw [hf] at ih; simp only [Option.map_none] at ih ⊢; rw [List.cons_append,ih]; rfl
   | some p=>rw [hf] at ih; simp only [Option.map_some] at ih ⊢; rw [List.set_cons_succ,ih]; rfl
theorem pureE_mH (u:List (Int × List Int)):pureE (mrow .i64 (mH u))= True:=eq_true (pureE_mrow fun p hp=>by
 simp only [mH,List.mem_map] at hp
 obtain⟨q,_,rfl⟩:=hp
 rfl)
def uH (rs:List RunA) (l:List (Nat × Nat)) (a:Nat):Nat->List (Int × List Int)
 | 0=>[]
 | k+1=>putH (locA rs a (l.getD k (0,0))) (hisA rs a (l.getD k (0,0))) (uH rs l a k)
theorem uH_none {rs:List RunA} {l:List (Nat × Nat)} {a:Nat} {x:Int}:∀ {k:Nat},lkH x (uH rs l a k)= none->∀ i,i<k->locA rs a (l.getD i (0,0))≠ x
 | 0,_,i,hi=>by omega
 | k+1,h,i,hi=>by
  unfold uH at h
  rw [lkH_put] at h
  by_cases e:x=locA rs a (l.getD k (0,0))
  ·rw [if_pos e] at h; cases h
  ·rw [if_neg e] at h
   by_cases ei:i=k
   ·rw [ei]; exact fun c=>e c.symm
   ·exact uH_none h i (by omega)
theorem uH_some {rs:List RunA} {l:List (Nat × Nat)} {a:Nat} {x:Int} {g:List Int}:∀ {k:Nat},lkH x (uH rs l a k)= some g->∃ i,i<k/\locA rs a (l.getD i (0,0))= x/\hisA rs a (l.getD i (0,0))= g
 | 0,h=>by cases h
 | k+1,h=>by
  unfold uH at h
  rw [lkH_put] at h
  by_cases e:x=locA rs a (l.getD k (0,0))
  ·rw [if_pos e] at h
   exact⟨k,by omega,e.symm,by simpa using h⟩
  ·rw [if_neg e] at h
   obtain⟨i,h1,h2⟩:=uH_some h
   exact⟨i,by omega,h2⟩
def rc1 (rs:List RunA) (a:Nat) (p q:Nat × Nat):Bool:=!(decide (locA rs a p=locA rs a q)) || decide (hisA rs a p=hisA rs a q)
def rc2 (rs:List RunA) (l:List (Nat × Nat)) (a:Nat):Bool:=l.all fun p=>l.all fun q=>rc1 rs a p q
def recB (rs:List RunA) (A:Nat) (l:List (Nat × Nat)):Bool:=(List.range A).all (rc2 rs l)
theorem rc2_done {rs:List RunA} {l:List (Nat × Nat)} {a:Nat} (h:∀ i j,i<l.length->j<l.length->locA rs a (l.getD i (0,0))= locA rs a (l.getD j (0,0))->hisA rs a (l.getD i (0,0))= hisA rs a (l.getD j (0,0))):rc2 rs l a=true:=
 all_done (d:=(0,0)) fun i hi=>all_done (d:=(0,0)) fun j hj=>by
  unfold rc1
  by_cases e:locA rs a (l.getD i (0,0))= locA rs a (l.getD j (0,0))
  ·rw [decide_eq_true (h i j hi hj e),Bool.or_true]
  ·rw [decide_eq_false e]; rfl
theorem rc2_fail {rs:List RunA} {l:List (Nat × Nat)} {a i j:Nat} (hi:i<l.length) (hj:j<l.length) (h1:locA rs a (l.getD i (0,0))= locA rs a (l.getD j (0,0))) (h2:hisA rs a (l.getD i (0,0))≠ hisA rs a (l.getD j (0,0))):rc2 rs l a=false:=
 all_fail hi (all_fail hj (by unfold rc1; rw [decide_eq_true h1,decide_eq_false h2]; rfl))
end Ru
theorem recalls26 {rs:List RunA} {A F T:Nat} (ok:OkR rs A F T):Runs Tryz.prog 26 [sD A F T rs] (.bool (recB rs A (ptN T (rs.length*T)))):=by
 have hC:=Check31 ⟨A,F,T,rs⟩
 have hP:=Points29 ⟨A,F,T,rs⟩
 have hz:=okR_chk ok
 rw [hz] at hC
 have ep:ptsA ⟨A,F,T,rs⟩= ptN T (rs.length*T):=by unfold ptsA; rw [if_neg (by simpa using hz)]; rfl
 rw [ep] at hP
 have hin:Inb rs T (ptN T (rs.length*T)):=ptN_in ok.hT.1 (Nat.le_refl _)
 have hll:(ptN T (rs.length*T)).length<=512:=by rw [ptN_len]; exact ok.hP
 have hloc:=fun(a:Nat) (ha:a<A) (p:Nat × Nat) (hp:p.1<rs.length/\p.2<T)=>local38 ok ha hp
 have hhis:=fun(a:Nat) (ha:a<A) (p:Nat × Nat) (hp:p.1<rs.length/\p.2<T)=>history41 ok ha hp
 generalize ptN T (rs.length*T)= l at hP hin hll ⊢
 have hD:SysA.d ⟨A,F,T,rs⟩= .agg [.int .i64 (A:Int),.int .i64 (F:Int),.int .i64 (T:Int),.sl 2 (runR rs)]:=rfl
 have hA:=ok.hA
 rw [hD] at hC hP
 unfold sD at *
 refine CallT.go_fn mixed Tryz.func26 k26 (by simp) fun hf=>?_
 simp only [ZA,ZB,ZC,ZD,ZE,↓reduceIte,reduceIte,ZF,ZG,ZH,ZI,ZJ,reduceCtorEq,ZK,↓zU,↓zD,zV,zT,zW]
 (repeat refine sd ?_)
 refine wpS_loop (fun a:Nat=>[(13,.int .i64 a),(12,.int .i64 A),(1,.ref 0 4 0 0)]) (fun _=>⟨1,[(0,⟨4,[[.int .i64 A,.int .i64 F,.int .i64 T,.sl 2 (runR rs)]]⟩)]⟩)
  (fun a=>a<=A/\∀ i,i<a->rc2 rs l i=true) (fun a=>A-a) 0 ⟨Nat.zero_le _,fun i hi=>absurd hi (Nat.not_lt_zero _)⟩ ?_ ?_
 ·(refine Weak.same ?_; simp [sameF,Fr.get])
 intro a ⟨ha,hi⟩
 refine wpS_go mixed ?_
 by_cases hal:a<A
 case neg=>
  have hd:¬ ((a:Int)<(A:Int)):=by omega
  rw [show recB rs A l=true from range_done fun i h=>hi i (by omega)]
  simp only [ZA,ZB,ZC,ZD,ZE,↓reduceIte,reduceIte,ZF,ZG,ZH,ZI,ZJ,reduceCtorEq,ZK,↓zU,↓zD,zV,zT,zW,hd]
  refine .go (cq hC) ?_
  simp only [ZA,ZB,ZC,ZD,ZE,↓reduceIte,reduceIte,ZF,ZG,ZH,ZI,ZJ,reduceCtorEq,ZK,↓zU,↓zD,zV,zT,zW]
  exact .drop (by simp) (by simp [vw])
 have hd:((a:Int)<(A:Int)):=by omega
 simp only [ZA,ZB,ZC,ZD,ZE,↓reduceIte,reduceIte,ZF,ZG,ZH,ZI,ZJ,reduceCtorEq,ZK,↓zU,↓zD,zV,zT,zW,hd]
 refine .go (cq hP) ?_
 simp only [ZA,ZB,ZC,ZD,ZE,↓reduceIte,reduceIte,ZF,ZG,ZH,ZI,ZJ,reduceCtorEq,ZK,↓zU,↓zD,zV,zT,zW,ptR_len]
 refine wpS_loop (fun w:Nat=>[(20,.int .i64 w),(19,.int .i64 l.length),(18,.sl 2 (ptR l)),(13,.int .i64 a),(12,.int .i64 A),(4,.mref 1),(3,.int .i64 a),(1,.ref 0 4 0 0)]) (fun w=>⟨2,[(1,⟨0,mrow .i64 (mH (uH rs l a w))⟩),(0,⟨4,[[.int .i64 A,.int .i64 F,.int .i64 T,.sl 2 (runR rs)]]⟩)]⟩)
  (fun w=>w<=l.length/\∀ i j,i<w->j<w->locA rs a (l.getD i (0,0))= locA rs a (l.getD j (0,0))->hisA rs a (l.getD i (0,0))= hisA rs a (l.getD j (0,0))) (fun w=>l.length-w) 0 ⟨Nat.zero_le _,fun i j h=>absurd h (Nat.not_lt_zero _)⟩ ?_ ?_
 ·(refine Weak.same ?_; simp [sameF,Fr.get])
 intro w ⟨hw,hi2⟩
 refine wpS_go mixed ?_
 by_cases hwl:w<l.length
 case neg=>
  have hd2:¬ ((w:Int)<(l.length:Int)):=by omega
  have hnx:rc2 rs l a=true:=rc2_done fun i j h1 h2=>hi2 i j (by omega) (by omega)
  simp only [ZA,ZB,ZC,ZD,ZE,↓reduceIte,reduceIte,ZF,ZG,ZH,ZI,ZJ,reduceCtorEq,ZK,↓zU,↓zD,zV,zT,zW,hd2]
  (repeat refine sd ?_)
  refine⟨a+1,⟨by omega,fun i h=>?_⟩,?_,by omega⟩
  ·by_cases e:i=a
   ·rw [e]; exact hnx
   ·exact hi i (by omega)
  (refine Weak.ren [] [0] (by simp) (by simp) (by decide) ?_; simp only [stay1,vwL,vw,vwF,sw,St.get,St.look,Fr.get,↓reduceIte,reduceIte,Nat.reduceEqDiff,Nat.reduceAdd,Nat.reduceBEq,Nat.reduceLT,Nat.reduceLeDiff,exists_eq_left',ne_eq,reduceCtorEq,zR])
  exact wrap_i64 (by omega)
 have hd2:((w:Int)<(l.length:Int)):=by omega
 have hp:=hin _ (getD_mem (d:=(0,0)) hwl)
 have hpg:=ptR_get l hwl
 have l1:=hloc a hal _ hp
 have l2:=hhis a hal _ hp
 have hS:uH rs l a (w+1)= putH (locA rs a (l.getD w (0,0))) (hisA rs a (l.getD w (0,0))) (uH rs l a w):=rfl
 have hfail:∀ i,i<w->locA rs a (l.getD i (0,0))= locA rs a (l.getD w (0,0))->hisA rs a (l.getD i (0,0))≠ hisA rs a (l.getD w (0,0))->recB rs A l=false:=fun i h1 h2 h3=>range_fail hal (rc2_fail (show i<l.length by omega) hwl h2 h3)
 have hnext:(∀ i,i<w->locA rs a (l.getD i (0,0))= locA rs a (l.getD w (0,0))->hisA rs a (l.getD i (0,0))= hisA rs a (l.getD w (0,0)))->∀ i j,i<w+1->j<w+1->locA rs a (l.getD i (0,0))= locA rs a (l.getD j (0,0))->hisA rs a (l.getD i (0,0))= hisA rs a (l.getD j (0,0)):=fun h i j h1 h2 h3=>by
  by_cases e1:i=w <;> by_cases e2:j=w
  ·rw [e1,e2]
  ·subst e1; exact(h j (by omega) h3.symm).symm
  ·subst e2; exact h i (by omega) h3
  ·exact hi2 i j (by omega) (by omega) h3
 have hfind:=afind_mH (locA rs a (l.getD w (0,0))) (uH rs l a w) 0
 have hno:=uH_none (rs:=rs) (l:=l) (a:=a) (x:=locA rs a (l.getD w (0,0))) (k:=w)
 have hso:=fun g=>uH_some (rs:=rs) (l:=l) (a:=a) (x:=locA rs a (l.getD w (0,0))) (g:=g) (k:=w)
 generalize locA rs a (l.getD w (0,0))= x at l1 hS hfail hnext hfind hno hso
 generalize hisA rs a (l.getD w (0,0))= h at l2 hS hfail hnext
 generalize uH rs l a w=u at hS hfind hno hso
 generalize l.getD w (0,0)= p at hp hpg l1 l2
 obtain⟨p1,p2⟩:=p
 simp only at hp hpg l1 l2
 simp only [ZA,ZB,ZC,ZD,ZE,↓reduceIte,reduceIte,ZF,ZG,ZH,ZI,ZJ,reduceCtorEq,ZK,↓zU,↓zD,zV,zT,zW,hd2,ptR_len,hpg]
 (repeat refine sd ?_)
 refine .go (cr l1) ?_
 simp only [ZA,ZB,ZC,ZD,ZE,↓reduceIte,reduceIte,ZF,ZG,ZH,ZI,ZJ,reduceCtorEq,ZK,↓zU,↓zD,zV,zT,zW]
 refine .go (cr l2) ?_
 rcases hfind with ⟨f1,f2⟩ | ⟨g,j,f1,f2⟩
 ·simp only [ZA,ZB,ZC,ZD,ZE,↓reduceIte,reduceIte,ZF,ZG,ZH,ZI,ZJ,reduceCtorEq,ZK,↓zU,↓zD,zV,zT,zW,f2,aput_mH]
  refine⟨.go (cr l1) ?_,?_⟩
  ·simp only [ZA,ZB,ZC,ZD,ZE,↓reduceIte,reduceIte,ZF,ZG,ZH,ZI,ZJ,reduceCtorEq,ZK,↓zU,↓zD,zV,zT,zW]
  refine⟨w+1,⟨by omega,hnext fun i h1 h2=>absurd h2 (hno f1 i h1)⟩,?_,by omega⟩
  rw [hS]
  (refine Weak.ren [] [1,0] (by simp) (by simp) (by decide) ?_; simp only [stay1,vwL,vw,vwF,sw,St.get,St.look,Fr.get,↓reduceIte,reduceIte,Nat.reduceEqDiff,Nat.reduceAdd,Nat.reduceBEq,Nat.reduceLT,Nat.reduceLeDiff,exists_eq_left',ne_eq,reduceCtorEq,zR,pureE_mH])
  exact wrap_i64 (by omega)
 ·have he:=equal49 g h
  obtain⟨i0,q1,q2,q3⟩:=hso g f1
  by_cases hgh:g=h
  ·rw [decide_eq_true hgh] at he
   simp only [ZA,ZB,ZC,ZD,ZE,↓reduceIte,reduceIte,ZF,ZG,ZH,ZI,ZJ,reduceCtorEq,ZK,↓zU,↓zD,zV,zT,zW,f2,aput_mH]
   refine⟨.go (cr l1) ?_,?_⟩
   ·simp only [ZA,ZB,ZC,ZD,ZE,↓reduceIte,reduceIte,ZF,ZG,ZH,ZI,ZJ,reduceCtorEq,ZK,↓zU,↓zD,zV,zT,zW]
   refine .go (cr he) ?_
   simp only [ZA,ZB,ZC,ZD,ZE,↓reduceIte,reduceIte,ZF,ZG,ZH,ZI,ZJ,reduceCtorEq,ZK,↓zU,↓zD,zV,zT,zW,aput_mH]
   refine⟨w+1,⟨by omega,hnext fun i h1 h2=>?_⟩,?_,by omega⟩
   ·rw [hi2 i i0 h1 q1 (h2.trans q2.symm),q3,hgh]
   rw [hS]
   (refine Weak.ren [] [1,0] (by simp) (by simp) (by decide) ?_; simp only [stay1,vwL,vw,vwF,sw,St.get,St.look,Fr.get,↓reduceIte,reduceIte,Nat.reduceEqDiff,Nat.reduceAdd,Nat.reduceBEq,Nat.reduceLT,Nat.reduceLeDiff,exists_eq_left',ne_eq,reduceCtorEq,zR,pureE_mH])
   exact wrap_i64 (by omega)
  ·rw [decide_eq_false hgh] at he
   rw [hfail i0 q1 q2 (by rw [q3]; exact hgh)]
   simp only [ZA,ZB,ZC,ZD,ZE,↓reduceIte,reduceIte,ZF,ZG,ZH,ZI,ZJ,reduceCtorEq,ZK,↓zU,↓zD,zV,zT,zW,f2,aput_mH]
   refine⟨.go (cr l1) ?_,?_⟩
   ·simp only [ZA,ZB,ZC,ZD,ZE,↓reduceIte,reduceIte,ZF,ZG,ZH,ZI,ZJ,reduceCtorEq,ZK,↓zU,↓zD,zV,zT,zW]
   refine .go (cr he) ?_
   simp only [ZA,ZB,ZC,ZD,ZE,↓reduceIte,reduceIte,ZF,ZG,ZH,ZI,ZJ,reduceCtorEq,ZK,↓zU,↓zD,zV,zT,zW]
   exact .drop (by simp) (by simp [vw])
end Go.Pd
