/- Part SG. -/
import Derived.Test.YtjklmijiccabfaaGreatRSQ
set_option linter.unusedSectionVars false
set_option linter.unusedVariables false
set_option linter.unusedSimpArgs false
set_option linter.defProp false
set_option maxRecDepth 20000
set_option maxHeartbeats 1000000
namespace Go.Pd
open Go Go.Proofs
open Int renaming reduceToNat -> ZA, reduceLT -> ZB, reduceLE -> ZC, reduceBEq -> ZD, reduceBNe -> ZE
open Nat renaming reduceEqDiff -> ZF, reduceAdd -> ZG, reduceBEq -> ZH, reduceLT -> ZI, reduceLeDiff -> ZJ, reduceMul -> ZK
namespace Ru
theorem all_done {α:Type} {l:List α} {f:α->Bool} {d:α} (h:∀ i,i<l.length->f (l.getD i d)= true):l.all f=true:=by
 rw [List.all_eq_true]
 intro x hx
 obtain⟨i,hi,rfl⟩:=List.getElem_of_mem hx
 have:=h i hi
 simpa [List.getD,hi] using this
theorem all_fail {α:Type} {l:List α} {f:α->Bool} {d:α} {k:Nat} (hk:k<l.length) (h:f (l.getD k d)= false):l.all f=false:=by
 rw [List.all_eq_false]
 exact⟨_,getD_mem (d:=d) hk,by rw [h]; simp⟩
theorem range_done {n:Nat} {f:Nat->Bool} (h:∀ i,i<n->f i=true):(List.range n).all f=true:=by
 rw [List.all_eq_true]
 exact fun x hx=>h x (List.mem_range.1 hx)
theorem range_fail {n k:Nat} {f:Nat->Bool} (hk:k<n) (h:f k=false):(List.range n).all f=false:=by
 rw [List.all_eq_false]
 exact⟨k,List.mem_range.2 hk,by rw [h]; simp⟩
def sy1 (rs:List RunA) (p q:Nat × Nat) (a:Nat):Bool:=!(decide (p.2≠q.2)&& decide (locA rs a p=locA rs a q))
def sy2 (rs:List RunA) (A:Nat) (p q:Nat × Nat):Bool:=(List.range A).all (sy1 rs p q)
def sy3 (rs:List RunA) (A:Nat) (l:List (Nat × Nat)) (p:Nat × Nat):Bool:=l.all (sy2 rs A p)
def syncB (s:SysA):Bool:=decide (chk s=0)&& (ptsA s).all (sy3 s.rs s.ag.toNat (ptsA s))
end Ru
open Ru
theorem sync25 (s:SysA):Runs Tryz.prog 25 [s.d] (.bool (syncB s)):=by
 have hC:=Check31 s
 have hP:=Points29 s
 have hD:s.d = .agg [.int .i64 s.ag,.int .i64 s.fa,.int .i64 s.ln,.sl 2 (runR s.rs)]:=rfl
 by_cases hz:chk s=0
 case neg=>
  have e:(chk s==0)= false:=by simpa using hz
  rw [show syncB s=false by unfold syncB; rw [decide_eq_false hz]; rfl]
  rw [show ptsA s = [] by unfold ptsA; rw [if_pos hz],ptR_nil] at hP
  rw [hD] at hC hP ⊢
  refine CallT.go_fn mixed Tryz.func25 k25 (by simp) fun hf=>?_
  simp only [ZA,ZB,ZC,ZD,ZE,↓reduceIte,reduceIte,ZF,ZG,ZH,ZI,ZJ,reduceCtorEq,ZK,↓zU,↓zD,zV,zT,zW]
  (repeat refine sd ?_)
  refine .go (cq hP) ?_
  simp only [ZA,ZB,ZC,ZD,ZE,↓reduceIte,reduceIte,ZF,ZG,ZH,ZI,ZJ,reduceCtorEq,ZK,↓zU,↓zD,zV,zT,zW]
  refine wpS_loop (fun _:Nat=>[(11,.int .i64 0),(10,.int .i64 0),(9,.sl 2 []),(1,.ref 0 4 0 0)]) (fun _=>⟨1,[(0,⟨4,[[.int .i64 s.ag,.int .i64 s.fa,.int .i64 s.ln,.sl 2 (runR s.rs)]]⟩)]⟩) (fun _=>True) (fun _=>0) 0 trivial ?_ ?_
  ·(refine Weak.same ?_; simp [sameF,Fr.get])
  intro _ _
  refine wpS_go mixed ?_
  simp only [ZA,ZB,ZC,ZD,ZE,↓reduceIte,reduceIte,ZF,ZG,ZH,ZI,ZJ,reduceCtorEq,ZK,↓zU,↓zD,zV,zT,zW]
  refine .go (cq hC) ?_
  simp only [ZA,ZB,ZC,ZD,ZE,↓reduceIte,reduceIte,ZF,ZG,ZH,ZI,ZJ,reduceCtorEq,ZK,↓zU,↓zD,zV,zT,zW,e]
  exact .drop (by simp) (by simp [vw])
 obtain⟨A,F,T,rs,rfl,ok⟩:=chk_sys hz
 obtain⟨T1,T16⟩:=ok.hT
 have hA:=ok.hA
 have ep:ptsA ⟨A,F,T,rs⟩= ptN T (rs.length*T):=by unfold ptsA; rw [if_neg (by simpa using hz)]; rfl
 have hin:Inb rs T (ptsA ⟨A,F,T,rs⟩):=by rw [ep]; exact ptN_in T1 (Nat.le_refl _)
 have hll:(ptsA ⟨A,F,T,rs⟩).length<=512:=by rw [ep,ptN_len]; exact ok.hP
 have hs:syncB ⟨A,F,T,rs⟩= (ptsA ⟨A,F,T,rs⟩).all (sy3 rs A (ptsA ⟨A,F,T,rs⟩)):=by unfold syncB; rw [decide_eq_true hz,Bool.true_and]; rfl
 have hloc:=fun(a:Nat) (ha:a<A) (p:Nat × Nat) (hp:p.1<rs.length/\p.2<T)=>local38 ok ha hp
 rw [hz] at hC
 generalize ptsA ⟨A,F,T,rs⟩= l at hP hin hs hll
 rw [hs]
 unfold sD at hloc
 rw [hD] at hC hP ⊢
 simp only at hC hP ⊢
 refine CallT.go_fn mixed Tryz.func25 k25 (by simp) fun hf=>?_
 simp only [ZA,ZB,ZC,ZD,ZE,↓reduceIte,reduceIte,ZF,ZG,ZH,ZI,ZJ,reduceCtorEq,ZK,↓zU,↓zD,zV,zT,zW]
 (repeat refine sd ?_)
 refine .go (cq hP) ?_
 simp only [ZA,ZB,ZC,ZD,ZE,↓reduceIte,reduceIte,ZF,ZG,ZH,ZI,ZJ,reduceCtorEq,ZK,↓zU,↓zD,zV,zT,zW,ptR_len]
 refine wpS_loop (fun k:Nat=>[(11,.int .i64 k),(10,.int .i64 l.length),(9,.sl 2 (ptR l)),(1,.ref 0 4 0 0)]) (fun _=>⟨1,[(0,⟨4,[[.int .i64 A,.int .i64 F,.int .i64 T,.sl 2 (runR rs)]]⟩)]⟩)
  (fun k=>k<=l.length/\∀ i,i<k->sy3 rs A l (l.getD i (0,0))= true) (fun k=>l.length-k) 0 ⟨Nat.zero_le _,fun i hi=>absurd hi (Nat.not_lt_zero _)⟩ ?_ ?_
 ·(refine Weak.same ?_; simp [sameF,Fr.get])
 intro k ⟨hk,hi⟩
 refine wpS_go mixed ?_
 by_cases hkl:k<l.length
 case neg=>
  have hd:¬ ((k:Int)<(l.length:Int)):=by omega
  rw [all_done (l:=l) (d:=(0,0)) fun i h=>hi i (by omega)]
  simp only [ZA,ZB,ZC,ZD,ZE,↓reduceIte,reduceIte,ZF,ZG,ZH,ZI,ZJ,reduceCtorEq,ZK,↓zU,↓zD,zV,zT,zW,hd]
  refine .go (cq hC) ?_
  simp only [ZA,ZB,ZC,ZD,ZE,↓reduceIte,reduceIte,ZF,ZG,ZH,ZI,ZJ,reduceCtorEq,ZK,↓zU,↓zD,zV,zT,zW]
  exact .drop (by simp) (by simp [vw])
 have hd:((k:Int)<(l.length:Int)):=by omega
 have hp:=hin _ (getD_mem (d:=(0,0)) hkl)
 have hpg:=ptR_get l hkl
 have hfin:sy3 rs A l (l.getD k (0,0))= false->l.all (sy3 rs A l)= false:=fun h=>all_fail hkl h
 have hnext:sy3 rs A l (l.getD k (0,0))= true->∀ i,i<k+1->sy3 rs A l (l.getD i (0,0))= true:=fun h i h2=>by
  by_cases e:i=k
  ·rw [e]; exact h
  ·exact hi i (by omega)
 generalize l.getD k (0,0)= p at hp hpg hfin hnext
 obtain⟨p1,p2⟩:=p
 simp only at hp hpg
 simp only [ZA,ZB,ZC,ZD,ZE,↓reduceIte,reduceIte,ZF,ZG,ZH,ZI,ZJ,reduceCtorEq,ZK,↓zU,↓zD,zV,zT,zW,hd,ptR_len,hpg]
 (repeat refine sd ?_)
 refine .go (cq hP) ?_
 simp only [ZA,ZB,ZC,ZD,ZE,↓reduceIte,reduceIte,ZF,ZG,ZH,ZI,ZJ,reduceCtorEq,ZK,↓zU,↓zD,zV,zT,zW,ptR_len]
 refine wpS_loop (fun j:Nat=>[(18,.int .i64 j),(17,.int .i64 l.length),(16,.sl 2 (ptR l)),(11,.int .i64 k),(10,.int .i64 l.length),(9,.sl 2 (ptR l)),(4,.ref 1 2 0 0),(1,.ref 0 4 0 0)]) (fun _=>⟨2,[(1,⟨2,[[.int .i64 p1,.int .i64 p2]]⟩),(0,⟨4,[[.int .i64 A,.int .i64 F,.int .i64 T,.sl 2 (runR rs)]]⟩)]⟩)
  (fun j=>j<=l.length/\∀ i,i<j->sy2 rs A (p1,p2) (l.getD i (0,0))= true) (fun j=>l.length-j) 0 ⟨Nat.zero_le _,fun i hi=>absurd hi (Nat.not_lt_zero _)⟩ ?_ ?_
 ·(refine Weak.same ?_; simp [sameF,Fr.get])
 intro j ⟨hj,hi2⟩
 refine wpS_go mixed ?_
 by_cases hjl:j<l.length
 case neg=>
  have hd2:¬ ((j:Int)<(l.length:Int)):=by omega
  simp only [ZA,ZB,ZC,ZD,ZE,↓reduceIte,reduceIte,ZF,ZG,ZH,ZI,ZJ,reduceCtorEq,ZK,↓zU,↓zD,zV,zT,zW,hd2]
  (repeat refine sd ?_)
  refine⟨k+1,⟨by omega,hnext (all_done (d:=(0,0)) fun i h=>hi2 i (by omega))⟩,?_,by omega⟩
  (refine Weak.ren [] [0] (by simp) (by simp) (by decide) ?_; simp only [stay1,vwL,vw,vwF,sw,St.get,St.look,Fr.get,↓reduceIte,reduceIte,Nat.reduceEqDiff,Nat.reduceAdd,Nat.reduceBEq,Nat.reduceLT,Nat.reduceLeDiff,exists_eq_left',ne_eq,reduceCtorEq,zR])
  exact wrap_i64 (by omega)
 have hd2:((j:Int)<(l.length:Int)):=by omega
 have hq:=hin _ (getD_mem (d:=(0,0)) hjl)
 have hqg:=ptR_get l hjl
 have hfin2:sy2 rs A (p1,p2) (l.getD j (0,0))= false->sy3 rs A l (p1,p2)= false:=fun h=>all_fail hjl h
 have hnext2:sy2 rs A (p1,p2) (l.getD j (0,0))= true->∀ i,i<j+1->sy2 rs A (p1,p2) (l.getD i (0,0))= true:=fun h i h2=>by
  by_cases e:i=j
  ·rw [e]; exact h
  ·exact hi2 i (by omega)
 generalize l.getD j (0,0)= q at hq hqg hfin2 hnext2
 obtain⟨q1,q2⟩:=q
 simp only at hq hqg
 simp only [ZA,ZB,ZC,ZD,ZE,↓reduceIte,reduceIte,ZF,ZG,ZH,ZI,ZJ,reduceCtorEq,ZK,↓zU,↓zD,zV,zT,zW,hd2,ptR_len,hqg]
 (repeat refine sd ?_)
 refine wpS_loop (fun a:Nat=>[(24,.int .i64 a),(23,.int .i64 A),(18,.int .i64 j),(17,.int .i64 l.length),(16,.sl 2 (ptR l)),(11,.int .i64 k),(10,.int .i64 l.length),(9,.sl 2 (ptR l)),(6,.ref 2 2 0 0),(4,.ref 1 2 0 0),(1,.ref 0 4 0 0)]) (fun _=>⟨3,[(2,⟨2,[[.int .i64 q1,.int .i64 q2]]⟩),(1,⟨2,[[.int .i64 p1,.int .i64 p2]]⟩),(0,⟨4,[[.int .i64 A,.int .i64 F,.int .i64 T,.sl 2 (runR rs)]]⟩)]⟩)
  (fun a=>a<=A/\∀ i,i<a->sy1 rs (p1,p2) (q1,q2) i=true) (fun a=>A-a) 0 ⟨Nat.zero_le _,fun i hi=>absurd hi (Nat.not_lt_zero _)⟩ ?_ ?_
 ·(refine Weak.same ?_; simp [sameF,Fr.get])
 intro a ⟨ha,hi3⟩
 refine wpS_go mixed ?_
 by_cases hal:a<A
 case neg=>
  have hd3:¬ ((a:Int)<(A:Int)):=by omega
  simp only [ZA,ZB,ZC,ZD,ZE,↓reduceIte,reduceIte,ZF,ZG,ZH,ZI,ZJ,reduceCtorEq,ZK,↓zU,↓zD,zV,zT,zW,hd3]
  (repeat refine sd ?_)
  refine⟨j+1,⟨by omega,hnext2 (range_done fun i h=>hi3 i (by omega))⟩,?_,by omega⟩
  (refine Weak.ren [] [1,0] (by simp) (by simp) (by decide) ?_; simp only [stay1,vwL,vw,vwF,sw,St.get,St.look,Fr.get,↓reduceIte,reduceIte,Nat.reduceEqDiff,Nat.reduceAdd,Nat.reduceBEq,Nat.reduceLT,Nat.reduceLeDiff,exists_eq_left',ne_eq,reduceCtorEq,zR])
  exact wrap_i64 (by omega)
 have hd3:((a:Int)<(A:Int)):=by omega
 have hnext3:sy1 rs (p1,p2) (q1,q2) a=true->∀ i,i<a+1->sy1 rs (p1,p2) (q1,q2) i=true:=fun h i h2=>by
  by_cases e:i=a
  ·rw [e]; exact h
  ·exact hi3 i (by omega)
 have hfin3:sy1 rs (p1,p2) (q1,q2) a=false->l.all (sy3 rs A l)= false:=fun h=>hfin (hfin2 (range_fail hal h))
 have l1:=hloc a hal (p1,p2) hp
 have l2:=hloc a hal (q1,q2) hq
 unfold sy1 at hnext3 hfin3
 simp only at l1 l2 hnext3 hfin3
 generalize locA rs a (p1,p2)= x at l1 hnext3 hfin3
 generalize locA rs a (q1,q2)= y at l2 hnext3 hfin3
 by_cases hne:p2=q2
 ·have hb:((p2:Int) != (q2:Int))= false:=by rw [hne]; simp
  simp only [ZA,ZB,ZC,ZD,ZE,↓reduceIte,reduceIte,ZF,ZG,ZH,ZI,ZJ,reduceCtorEq,ZK,↓zU,↓zD,zV,zT,zW,hd3,hb]
  (repeat refine sd ?_)
  refine⟨a+1,⟨by omega,hnext3 (by simp [hne])⟩,?_,by omega⟩
  (refine Weak.same ?_; simp only [sameF,Fr.get,↓reduceIte,reduceIte,Nat.reduceEqDiff,reduceCtorEq,D.int.injEq,D.bool.injEq,D.sl.injEq,and_true,true_and,and_self])
  exact wrap_i64 (by omega)
 have hb:((p2:Int) != (q2:Int))= true:=by simp; omega
 simp only [ZA,ZB,ZC,ZD,ZE,↓reduceIte,reduceIte,ZF,ZG,ZH,ZI,ZJ,reduceCtorEq,ZK,↓zU,↓zD,zV,zT,zW,hd3,hb]
 (repeat refine sd ?_)
 refine .go (cr l1) ?_
 simp only [ZA,ZB,ZC,ZD,ZE,↓reduceIte,reduceIte,ZF,ZG,ZH,ZI,ZJ,reduceCtorEq,ZK,↓zU,↓zD,zV,zT,zW]
 refine .go (cr l2) ?_
 by_cases hxy:x=y
 ·have hb2:(x==y)= true:=by simpa using hxy
  simp only [ZA,ZB,ZC,ZD,ZE,↓reduceIte,reduceIte,ZF,ZG,ZH,ZI,ZJ,reduceCtorEq,ZK,↓zU,↓zD,zV,zT,zW,hb2]
  rw [hfin3 (by simp [hne,hxy])]
  exact .drop (by simp) (by simp [vw])
 ·have hb2:(x==y)= false:=by simpa using hxy
  simp only [ZA,ZB,ZC,ZD,ZE,↓reduceIte,reduceIte,ZF,ZG,ZH,ZI,ZJ,reduceCtorEq,ZK,↓zU,↓zD,zV,zT,zW,hb2]
  refine⟨a+1,⟨by omega,hnext3 (by simp [hxy])⟩,?_,by omega⟩
  (refine Weak.same ?_; simp only [sameF,Fr.get,↓reduceIte,reduceIte,Nat.reduceEqDiff,reduceCtorEq,D.int.injEq,D.bool.injEq,D.sl.injEq,and_true,true_and,and_self])
  exact wrap_i64 (by omega)
end Go.Pd
