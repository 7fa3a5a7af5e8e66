/- Part SG. -/
import Derived.Test.YtndfaefmmcoapaaGreatKaKG
import Derived.Test.YtndfaefmmcoapaaGreatKaKR
import Derived.Test.YtndfaefmmcoapaaGreatKaLH
set_option linter.unusedSectionVars false
set_option linter.unusedVariables false
set_option linter.unusedSimpArgs false
set_option linter.defProp false
set_option maxRecDepth 20000
set_option maxHeartbeats 1000000
namespace Go.Pd
open Go Go.Proofs
open Int renaming reduceToNat -> ZA, reduceLT -> ZB, reduceLE -> ZC, reduceBEq -> ZD, reduceBNe -> ZE
open Nat renaming reduceEqDiff -> ZF, reduceAdd -> ZG, reduceBEq -> ZH, reduceLT -> ZI, reduceLeDiff -> ZJ, reduceMul -> ZK
namespace Ru
end Ru
open Ru
open Ru
namespace Ru
end Ru
namespace Ru
def hT (f:Nat->Int):Nat->List Int
 | 0=>[]
 | k+1=>if 0<k/\f k=f (k-1) then hT f k else hT f k ++ [f k]
end Ru
open Rs Fm Ru Te Kb
namespace Kb
instance : DecidableEq wO := fun a b => decidable_of_iff (a.loc = b.loc /\ a.fac = b.fac) (by cases a; cases b; simp)
instance : DecidableEq cG := fun a b => decidable_of_iff (a.ag = b.ag /\ a.fa = b.fa /\ a.ln = b.ln /\ a.rs = b.rs) (by cases a; cases b; simp)
def aIp (x:List Int):List (List Int)->List (List Int)
 | []=>[x]
 | y :: l=>if kc y x<0 then y :: aIp x l else x :: y :: l
def aIs : List (List Int)->List (List Int)
 | []=>[]
 | x :: l=>aIp x (aIs l)
theorem jA (x:List Int):∀ l,(aIp x l).Perm (x :: l)
 | []=>List.Perm.refl _
 | y :: l=>by
  unfold aIp
  split
  ·exact((jA x l).cons y).trans (List.Perm.swap x y l)
  ·exact List.Perm.refl _
theorem aXo : ∀ l,(aIs l).Perm l
 | []=>List.Perm.refl _
 | x :: l=>(jA x _).trans ((aXo l).cons x)
theorem aVy (x:List Int):∀ l,asc l->asc (aIp x l)
 | [],_=>by unfold aIp asc; simp
 | y :: l,h=>by
  have h1:=List.pairwise_cons.1 h;unfold aIp
  split
  ·rename_i hc;refine List.pairwise_cons.2 ⟨fun z hz=>?_,aVy x l h1.2⟩
   rcases List.mem_cons.1 ((jA x l).mem_iff.1 hz) with rfl | hz
   ·have:=pG y z; omega
   ·exact h1.1 z hz
  ·rename_i hc;refine List.pairwise_cons.2 ⟨fun z hz=>?_,h⟩
   rcases List.mem_cons.1 hz with rfl | hz
   ·exact hc
   ·exact nP (h1.1 z hz) hc
theorem aUm : ∀ l,asc (aIs l)
 | []=>List.Pairwise.nil
 | x :: l=>aVy x _ (aUm l)
theorem aJi (l:List (List Int)):aYi l=aIs l:=(aQv (aXo l) (aUm l)).symm
theorem aXn : aYi=aIs:=funext aJi
def aAj (see:List (BitVec 64)) (sts:List (List (BitVec 64))) (T:Nat):List wO:=
 aF9 (aYv sts) see.length T fun a p=>below (dedup (aIs ((ptN T ((aYv sts).length*T)).map (pQ see sts a)))) (pQ see sts a p)
theorem aW1 (see:List (BitVec 64)) (sts:List (List (BitVec 64))) (T:Nat):aYl see sts T=aAj see sts T:=by
 unfold aYl aC3 aAj aE0;rw [aXn]
def allI (see:List (BitVec 64)) (sts:List (List (BitVec 64))) (T a:Nat):List (List Int):=dedup (aIs ((ptN T (sts.length*T)).map (pQ see sts a)))
theorem aJo (see:List (BitVec 64)) (sts:List (List (BitVec 64))) (T a:Nat):kG see sts T a=allI see sts T a:=by
 unfold kG allI; rw [aXn]
def exT : List Nd:=aBa (rK 0) (aEa (cC 1 (rK 0)))
def exP : PrA:=⟨2,[0#64,1#64],[1#64,2#64],[[⟨1,rK 0⟩]],[[⟨exT,0⟩],[]]⟩
def exS : cG:=⟨2,2,3,[⟨[[0,0],[2,1],[4,3]],[0#64,0#64,0#64]⟩,⟨[[1,0],[3,2],[5,4]],[1#64,3#64,3#64]⟩]⟩
theorem aXe : wB exP 2 = [[0#64,0#64,0#64],[1#64,3#64,3#64]]:=by decide +kernel
theorem aWt : gU exP 3=0:=by decide +kernel
theorem aG9 : aYq exP 3=exS:=by
 unfold aYq;rw [if_neg (by rw [aWt]; simp),show (3:Int).toNat=3 from rfl,aXe,aW1];decide +kernel
end Kb
open Rs Fm Ru Te Kb
def Nw (d d':D):Prop:=∀ (M:Nat->Prop) (w:World) (v:Value),RP M w v d->RP M w v d'
theorem Nw.refl (d:D):Nw d d:=fun _ _ _ h=>h
theorem Nw.nils (sz:Nat):Nw .nils (.sl sz []):=fun _ _ v h=>by
 cases h;exact .sl0 _ _ _ (by simp)
theorem Nw.sl {sz:Nat} {els els':List (List D)} (hl:els.length=els'.length) (hw:∀ e ∈ els',e.length=sz)
  (h:∀ i,i<els.length->∀ j,j<sz->Nw ((els.getD i []).getD j .top) ((els'.getD i []).getD j .top)):Nw (.sl sz els) (.sl sz els'):=fun M w v hv=>by
 cases hv with
 | sl0 a cap sz hh=>
  have:els' = []:=List.length_eq_zero_iff.1 (by simpa using hl.symm);subst this;exact .sl0 _ _ _ hh
 | sl vs hs hM hc hm hl2 hcell hr=>
  have:=RP.sl (M:=M) (w:=w) (sz:=sz) (els:=els') vs hs hM (by omega) hm hw (by rw [<- hl]; exact hcell) (by rw [<- hl]; exact fun i hi j hj=>h i hi j hj M w _ (hr i hi j hj))
  rwa [<- hl] at this
theorem Nw.agg {ds cs:List D} (hl:ds.length=cs.length) (h:∀ j,j<cs.length->Nw (ds.getD j .top) (cs.getD j .top)):Nw (.agg ds) (.agg cs):=fun M w v hv=>by
 cases hv with
 | agg h1 h2=>exact .agg (by omega) fun j hj=>h j hj M w _ (h2 j (by omega))
theorem Nw.seen {σ:St} {K:Nat->Prop} {d d':D} (h:Nw d d') (hp:d.isPure=true):Seen σ K d d':=fun M0 w ι v hS hR=>h _ _ _ (Seen.pure hp M0 w ι v hS hR)
theorem yX.seen {P:Program} {g:FuncId} {args args':List D} {d:D} (hc:yX P g args' d) (h:oO St0 (fun _=>False) args args'):yX P g args d:=
 xX.give (σ:=St0) (objs':=[]) (fun _=>False) hc h fun k o hk=>by cases hk
theorem aAh (f g:List Nd):yX Tryz.prog 92 [.sl 6 (ndR f),.sl 6 (ndR g)] (.sl 6 (ndR (aBa f g))):=by
 refine xX.go_fn mixed Tryz.func92 k92 (by simp) fun hf=>?_;simp only [ZA,ZB,ZC,ZD,ZE,↓reduceIte,ZF,ZG,ZH,ZI,ZJ,reduceCtorEq,ZK,↓zU,↓zD,zV,zT,zW]
 (repeat refine sd ?_)
 refine .go (xX.of_runs (eC ⟨5,0,0,0,0,0⟩ [f,g] (by simp)) (by simp [D.isPureL,D.isPure,Nd.row,nl])) ?_;simp only [ZA,ZB,ZC,ZD,ZE,↓reduceIte,ZF,ZG,ZH,ZI,ZJ,reduceCtorEq,ZK,↓zU,↓zD,zV,zT,zW];exact .same
theorem aHn (a b:wO):decide (a=b)= (decide (a.fac=b.fac)&& decide (a.loc=b.loc)):=by
 cases a; cases b;rw [Bool.eq_iff_iff];simp [and_comm]
theorem aPp (a b:wO) (h1:a.fac.length<=1000000) (h2:a.loc.length<=1000000) (h3:∀ l ∈ a.loc,l.length<=1000000):yX Tryz.prog 81 [.agg a.row,.agg b.row] (.bool (decide (a=b))):=by
 rw [aHn];have hA:a.row = [.sl 1 (rl a.loc),.sl 1 (us a.fac)]:=rfl;have hB:b.row = [.sl 1 (rl b.loc),.sl 1 (us b.fac)]:=rfl;rw [hA,hB];cases a with | mk la fa=>
 cases b with | mk lb fb=>
 simp only at h1 h2 h3 ⊢;refine xX.go_fn mixed Tryz.func81 k81 (by simp) fun hf=>?_;by_cases c1:fa.length=fb.length
 case neg=>
  have q1:((fa.length:Int) != (fb.length:Int))= true:=by simpa using fun c=>c1 (by omega)
  rw [decide_eq_false (fun c=>c1 (congrArg List.length c))];simp only [ZA,ZB,ZC,ZD,ZE,↓reduceIte,ZF,ZG,ZH,ZI,ZJ,reduceCtorEq,ZK,↓zU,↓zD,zV,zT,zW,xR,vL,q1];exact .drop (by simp) (by simp [vw])
 have q1:((fa.length:Int) != (fb.length:Int))= false:=by rw [c1]; simp
 by_cases c2:la.length=lb.length
 case neg=>
  have q2:((la.length:Int) != (lb.length:Int))= true:=by simpa using fun c=>c2 (by omega)
  rw [decide_eq_false (p:=la=lb) (fun c=>c2 (congrArg List.length c)),Bool.and_false];simp only [ZA,ZB,ZC,ZD,ZE,↓reduceIte,ZF,ZG,ZH,ZI,ZJ,reduceCtorEq,ZK,↓zU,↓zD,zV,zT,zW,xR,vL,q1,q2];exact .drop (by simp) (by simp [vw])
 have q2:((la.length:Int) != (lb.length:Int))= false:=by rw [c2]; simp
 simp only [ZA,ZB,ZC,ZD,ZE,↓reduceIte,ZF,ZG,ZH,ZI,ZJ,reduceCtorEq,ZK,↓zU,↓zD,zV,zT,zW,xR,vL,q1,q2]
 refine xV (fun k:Nat=>[(5,.int .i64 k),(3,.ref 1 2 0 0),(2,.ref 0 2 0 0)]) (fun _=>⟨2,[(1,⟨2,[[.sl 1 (rl lb),.sl 1 (us fb)]]⟩),(0,⟨2,[[.sl 1 (rl la),.sl 1 (us fa)]]⟩)]⟩)
  (fun k=>k<=fa.length/\decide (fa=fb)= decide (fa.drop k=fb.drop k)) (fun k=>fa.length-k) 0 ⟨Nat.zero_le _,rfl⟩ ?_ ?_
 ·(refine xM.same ?_; simp [xS,Fr.get])
 rintro k ⟨hk,hd⟩;refine xQ mixed ?_
 by_cases h:k<fa.length
 ·have q:((k:Int)<(fa.length:Int)):=by omega
  rw [hd,oB (d:=0#64) h (by omega)]
  by_cases e:fa.getD k 0#64=fb.getD k 0#64
  ·rw [decide_eq_true e,Bool.true_and];have e':(fa.getD k 0 != fb.getD k 0)= false:=by show (fa.getD k 0#64 != fb.getD k 0#64)= false; rw [e]; simp
   simp only [ZA,ZB,ZC,ZD,ZE,↓reduceIte,ZF,ZG,ZH,ZI,ZJ,reduceCtorEq,ZK,↓zU,↓zD,zV,zT,zW,q,xR,zI fa h,zI fb (show k<fb.length by omega),e']
   (repeat refine sd ?_)
   refine⟨k+1,⟨h,rfl⟩,?_,by omega⟩
   (refine xM.same ?_; simp only [xS,Fr.get,↓reduceIte,reduceIte,Nat.reduceEqDiff,reduceCtorEq,D.int.injEq,D.bool.injEq,D.sl.injEq,and_true,true_and,and_self])
   exact uB (by omega)
  ·rw [decide_eq_false e,Bool.false_and,Bool.false_and];have e':(fa.getD k 0 != fb.getD k 0)= true:=by simpa using e
   simp only [ZA,ZB,ZC,ZD,ZE,↓reduceIte,ZF,ZG,ZH,ZI,ZJ,reduceCtorEq,ZK,↓zU,↓zD,zV,zT,zW,q,xR,zI fa h,zI fb (show k<fb.length by omega),e']
   (repeat refine sd ?_)
   exact .drop (by simp) (by simp [vw])
 have q:¬ ((k:Int)<(fa.length:Int)):=by omega
 have hf:decide (fa=fb)= true:=by rw [hd,List.drop_eq_nil_of_le (by omega),List.drop_eq_nil_of_le (by omega)]; simp
 rw [hf,Bool.true_and];simp only [ZA,ZB,ZC,ZD,ZE,↓reduceIte,ZF,ZG,ZH,ZI,ZJ,reduceCtorEq,ZK,↓zU,↓zD,zV,zT,zW,q,xR]
 refine xV (fun k:Nat=>[(6,.int .i64 k),(3,.ref 1 2 0 0),(2,.ref 0 2 0 0)]) (fun _=>⟨2,[(1,⟨2,[[.sl 1 (rl lb),.sl 1 (us fb)]]⟩),(0,⟨2,[[.sl 1 (rl la),.sl 1 (us fa)]]⟩)]⟩)
  (fun k=>k<=la.length/\decide (la=lb)= decide (la.drop k=lb.drop k)) (fun k=>la.length-k) 0 ⟨Nat.zero_le _,rfl⟩ ?_ ?_
 ·(refine xM.same ?_; simp [xS,Fr.get])
 rintro k ⟨hk,hd⟩;refine xQ mixed ?_;by_cases h:k<la.length
 case neg=>
  have q:¬ ((k:Int)<(la.length:Int)):=by omega
  rw [hd,List.drop_eq_nil_of_le (by omega),List.drop_eq_nil_of_le (by omega)];simp only [ZA,ZB,ZC,ZD,ZE,↓reduceIte,ZF,ZG,ZH,ZI,ZJ,reduceCtorEq,ZK,↓zU,↓zD,zV,zT,zW,q,vL];exact .drop (by simp) (by simp [vw])
 have q:((k:Int)<(la.length:Int)):=by omega
 have h3k:=h3 _ (xN (d:=[]) h);have g1:=gE la h;have g2:=gE lb (show k<lb.length by omega);have hd2:=hd;rw [oB (d:=[]) h (by omega)] at hd2;rw [hd2];generalize la.getD k []=x at *;generalize lb.getD k []=y at *;by_cases c3:x.length=y.length
 case neg=>
  have q3:((x.length:Int) != (y.length:Int))= true:=by simpa using fun c=>c3 (by omega)
  rw [decide_eq_false (fun c=>c3 (congrArg List.length c)),Bool.false_and];simp only [ZA,ZB,ZC,ZD,ZE,↓reduceIte,ZF,ZG,ZH,ZI,ZJ,reduceCtorEq,ZK,↓zU,↓zD,zV,zT,zW,q,vL,g1,g2,xF,q3]
  (repeat refine sd ?_)
  exact .drop (by simp) (by simp [vw])
 have q3:((x.length:Int) != (y.length:Int))= false:=by rw [c3]; simp
 simp only [ZA,ZB,ZC,ZD,ZE,↓reduceIte,ZF,ZG,ZH,ZI,ZJ,reduceCtorEq,ZK,↓zU,↓zD,zV,zT,zW,q,vL,g1,g2,xF,q3]
 (repeat refine sd ?_)
 refine xV (fun j:Nat=>[(7,.int .i64 j),(6,.int .i64 k),(3,.ref 1 2 0 0),(2,.ref 0 2 0 0)]) (fun _=>⟨2,[(1,⟨2,[[.sl 1 (rl lb),.sl 1 (us fb)]]⟩),(0,⟨2,[[.sl 1 (rl la),.sl 1 (us fa)]]⟩)]⟩)
  (fun j=>j<=x.length/\decide (x=y)= decide (x.drop j=y.drop j)) (fun j=>x.length-j) 0 ⟨Nat.zero_le _,rfl⟩ ?_ ?_
 ·(refine xM.same ?_; simp [xS,Fr.get])
 rintro j ⟨hj,hdj⟩;refine xQ mixed ?_
 by_cases hx:j<x.length
 ·have qx:((j:Int)<(x.length:Int)):=by omega
  rw [hdj,oB (d:=0) hx (by omega)]
  by_cases e:x.getD j 0=y.getD j 0
  ·rw [decide_eq_true e,Bool.true_and];have e':(x.getD j 0 != y.getD j 0)= false:=by rw [e]; simp
   simp only [ZA,ZB,ZC,ZD,ZE,↓reduceIte,ZF,ZG,ZH,ZI,ZJ,reduceCtorEq,ZK,↓zU,↓zD,zV,zT,zW,qx,vL,g1,g2,xF,yM .i64 x hx,yM .i64 y (show j<y.length by omega),e']
   (repeat refine sd ?_)
   refine⟨j+1,⟨hx,rfl⟩,?_,by omega⟩
   (refine xM.same ?_; simp only [xS,Fr.get,↓reduceIte,reduceIte,Nat.reduceEqDiff,reduceCtorEq,D.int.injEq,D.bool.injEq,D.sl.injEq,and_true,true_and,and_self])
   exact uB (by omega)
  ·rw [decide_eq_false e,Bool.false_and,Bool.false_and];have e':(x.getD j 0 != y.getD j 0)= true:=by simpa using e
   simp only [ZA,ZB,ZC,ZD,ZE,↓reduceIte,ZF,ZG,ZH,ZI,ZJ,reduceCtorEq,ZK,↓zU,↓zD,zV,zT,zW,qx,vL,g1,g2,xF,yM .i64 x hx,yM .i64 y (show j<y.length by omega),e']
   (repeat refine sd ?_)
   exact .drop (by simp) (by simp [vw])
 have qx:¬ ((j:Int)<(x.length:Int)):=by omega
 have hxy:decide (x=y)= true:=by rw [hdj,List.drop_eq_nil_of_le (by omega),List.drop_eq_nil_of_le (by omega)]; simp
 simp only [ZA,ZB,ZC,ZD,ZE,↓reduceIte,ZF,ZG,ZH,ZI,ZJ,reduceCtorEq,ZK,↓zU,↓zD,zV,zT,zW,qx,vL,g1,g2,xF]
 (repeat refine sd ?_)
 refine⟨k+1,⟨h,by rw [hxy,Bool.true_and]⟩,?_,by omega⟩
 (refine xM.same ?_; simp only [xS,Fr.get,↓reduceIte,reduceIte,Nat.reduceEqDiff,reduceCtorEq,D.int.injEq,D.bool.injEq,D.sl.injEq,and_true,true_and,and_self])
 exact uB (by omega)
theorem aHk (a b:cG):decide (a=b)= (decide (a.ag=b.ag)&& (decide (a.fa=b.fa)&& (decide (a.ln=b.ln)&& decide (a.rs=b.rs)))):=by
 cases a; cases b;rw [Bool.eq_iff_iff];simp
def aRr (s:cG):Prop:=s.rs.length<=1000000/\∀ r ∈ s.rs,r.fac.length<=1000000/\r.loc.length<=1000000/\∀ l ∈ r.loc,l.length<=1000000
theorem aCq (a b:cG) (hs:aRr a):yX Tryz.prog 23 [a.d,b.d] (.bool (decide (a=b))):=by
 rw [aHk];have hA:a.d = .agg [.int .i64 a.ag,.int .i64 a.fa,.int .i64 a.ln,.sl 2 (oV a.rs)]:=rfl;have hB:b.d = .agg [.int .i64 b.ag,.int .i64 b.fa,.int .i64 b.ln,.sl 2 (oV b.rs)]:=rfl;rw [hA,hB];cases a with | mk a1 a2 a3 xs=>
 cases b with | mk b1 b2 b3 ys=>
 obtain⟨h1,h2⟩:=hs;simp only at h1 h2 ⊢;refine xX.go_fn mixed Tryz.func23 k23 (by simp) fun hf=>?_;by_cases c1:a1=b1
 case neg=>
  have q:(a1 != b1)= true:=by simpa using c1
  rw [decide_eq_false c1,Bool.false_and];simp only [ZA,ZB,ZC,ZD,ZE,↓reduceIte,ZF,ZG,ZH,ZI,ZJ,reduceCtorEq,ZK,↓zU,↓zD,zV,zT,zW,q,tL];exact .drop (by simp) (by simp [vw])
 by_cases c2:a2=b2
 case neg=>
  have q1:(a1 != b1)= false:=by simpa using c1
  have q:(a2 != b2)= true:=by simpa using c2
  rw [decide_eq_false c2,Bool.false_and,Bool.and_false];simp only [ZA,ZB,ZC,ZD,ZE,↓reduceIte,ZF,ZG,ZH,ZI,ZJ,reduceCtorEq,ZK,↓zU,↓zD,zV,zT,zW,q1,q,tL];exact .drop (by simp) (by simp [vw])
 by_cases c3:a3=b3
 case neg=>
  have q1:(a1 != b1)= false:=by simpa using c1
  have q2:(a2 != b2)= false:=by simpa using c2
  have q:(a3 != b3)= true:=by simpa using c3
  rw [decide_eq_false c3,Bool.false_and,Bool.and_false,Bool.and_false];simp only [ZA,ZB,ZC,ZD,ZE,↓reduceIte,ZF,ZG,ZH,ZI,ZJ,reduceCtorEq,ZK,↓zU,↓zD,zV,zT,zW,q1,q2,q,tL];exact .drop (by simp) (by simp [vw])
 have q1:(a1 != b1)= false:=by simpa using c1
 have q2:(a2 != b2)= false:=by simpa using c2
 have q3:(a3 != b3)= false:=by simpa using c3
 rw [decide_eq_true c1,decide_eq_true c2,decide_eq_true c3,Bool.true_and,Bool.true_and,Bool.true_and];by_cases c4:xs.length=ys.length
 case neg=>
  have q:((xs.length:Int) != (ys.length:Int))= true:=by simpa using fun c=>c4 (by omega)
  rw [decide_eq_false (fun c=>c4 (congrArg List.length c))];simp only [ZA,ZB,ZC,ZD,ZE,↓reduceIte,ZF,ZG,ZH,ZI,ZJ,reduceCtorEq,ZK,↓zU,↓zD,zV,zT,zW,q1,q2,q3,q,tL];exact .drop (by simp) (by simp [vw])
 have q4:((xs.length:Int) != (ys.length:Int))= false:=by rw [c4]; simp
 clear c1 c2 c3;simp only [ZA,ZB,ZC,ZD,ZE,↓reduceIte,ZF,ZG,ZH,ZI,ZJ,reduceCtorEq,ZK,↓zU,↓zD,zV,zT,zW,q1,q2,q3,q4,tL]
 refine xV (fun k:Nat=>[(5,.int .i64 k),(3,.ref 1 4 0 0),(2,.ref 0 4 0 0)]) (fun _=>⟨2,[(1,⟨4,[[.int .i64 b1,.int .i64 b2,.int .i64 b3,.sl 2 (oV ys)]]⟩),(0,⟨4,[[.int .i64 a1,.int .i64 a2,.int .i64 a3,.sl 2 (oV xs)]]⟩)]⟩)
  (fun k=>k<=xs.length/\decide (xs=ys)= decide (xs.drop k=ys.drop k)) (fun k=>xs.length-k) 0 ⟨Nat.zero_le _,rfl⟩ ?_ ?_
 ·(refine xM.same ?_; simp [xS,Fr.get])
 rintro k ⟨hk,hd⟩;refine xQ mixed ?_;by_cases h:k<xs.length
 case neg=>
  have q:¬ ((k:Int)<(xs.length:Int)):=by omega
  rw [hd,List.drop_eq_nil_of_le (by omega),List.drop_eq_nil_of_le (by omega)];simp only [ZA,ZB,ZC,ZD,ZE,↓reduceIte,ZF,ZG,ZH,ZI,ZJ,reduceCtorEq,ZK,↓zU,↓zD,zV,zT,zW,q,tL];exact .drop (by simp) (by simp [vw])
 have q:((k:Int)<(xs.length:Int)):=by omega
 have hr:=h2 _ (xN (d:=nE) h);have hc:=aPp (xs.getD k nE) (ys.getD k nE) hr.1 hr.2.1 hr.2.2;have g1:(oV xs).getD k [] = [.sl 1 (rl (xs.getD k nE).loc),.sl 1 (us (xs.getD k nE).fac)]:=aW4 xs h;have g2:(oV ys).getD k [] = [.sl 1 (rl (ys.getD k nE).loc),.sl 1 (us (ys.getD k nE).fac)]:=aW4 ys (by omega);have hc:yX Tryz.prog 81 [.agg [.sl 1 (rl (xs.getD k nE).loc),.sl 1 (us (xs.getD k nE).fac)],.agg [.sl 1 (rl (ys.getD k nE).loc),.sl 1 (us (ys.getD k nE).fac)]] _:=hc;rw [hd,oB (d:=nE) h (by omega)];rw [oB (d:=nE) h (by omega)] at hd;generalize xs.getD k nE=x at *;generalize ys.getD k nE=y at *;generalize hP:decide (x=y)= b at *;simp only [ZA,ZB,ZC,ZD,ZE,↓reduceIte,ZF,ZG,ZH,ZI,ZJ,reduceCtorEq,ZK,↓zU,↓zD,zV,zT,zW,q,tL,g1,g2]
 (repeat refine sd ?_)
 refine .go (cq hc) ?_
 cases b with
 | false=>
  rw [Bool.false_and];simp only [ZA,ZB,ZC,ZD,ZE,↓reduceIte,ZF,ZG,ZH,ZI,ZJ,reduceCtorEq,ZK,↓zU,↓zD,zV,zT,zW];exact .drop (by simp) (by simp [vw])
 | true=>
  rw [Bool.true_and];simp only [ZA,ZB,ZC,ZD,ZE,↓reduceIte,ZF,ZG,ZH,ZI,ZJ,reduceCtorEq,ZK,↓zU,↓zD,zV,zT,zW];refine⟨k+1,⟨h,rfl⟩,?_,by omega⟩
  (refine xM.same ?_; simp only [xS,Fr.get,↓reduceIte,reduceIte,Nat.reduceEqDiff,reduceCtorEq,D.int.injEq,D.bool.injEq,D.sl.injEq,and_true,true_and,and_self])
  exact uB (by omega)
end Go.Pd
