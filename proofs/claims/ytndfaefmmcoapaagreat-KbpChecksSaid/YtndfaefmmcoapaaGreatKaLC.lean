/- Part LC. -/
import Derived.Test.YtndfaefmmcoapaaGreatKaLA
set_option linter.unusedSectionVars false
set_option linter.unusedVariables false
set_option linter.unusedSimpArgs false
set_option linter.defProp false
set_option maxRecDepth 20000
set_option maxHeartbeats 1000000
namespace Go.Pd
open Go Go.Proofs
open Int renaming reduceToNat -> ZA, reduceLT -> ZB, reduceLE -> ZC, reduceBEq -> ZD, reduceBNe -> ZE
open Nat renaming reduceEqDiff -> ZF, reduceAdd -> ZG, reduceBEq -> ZH, reduceLT -> ZI, reduceLeDiff -> ZJ, reduceMul -> ZK
open Rs Fm Ru Te Kb
namespace Kb
def aYv (sts:List (List (BitVec 64))):List wO:=sts.map fun st=>⟨[],st⟩
def aYl (see:List (BitVec 64)) (sts:List (List (BitVec 64))) (T:Nat):List wO:=aC3 (aYv sts) see.length T (pQ see sts)
def rll (l:List (List (List Int))):List (List D):=l.map fun m=>[.sl 1 (rlu m)]
theorem aQb (l:List (List (List Int))):(rll l).length=l.length:=by simp [rll]
theorem aHr {l:List (List (List Int))} {i:Nat} (h:i<l.length):(rll l).getD i [] = [.sl 1 (rlu (l.getD i []))]:=by simp [rll,List.getD,h]
theorem aLh (l:List (List (List Int))) (m:List (List Int)):rll l ++ [[.sl 1 (rlu m)]]=rll (l ++ [m]):=by simp [rll]
theorem aLi (l:List (List (List Int))):∀ e ∈ rll l,D.isPureL e=true:=by
 intro e he;simp only [rll,List.mem_map] at he;obtain⟨m,_,rfl⟩:=he;rfl
theorem aY (l:List (List (List Int))):uN (rll l):=aLi l
theorem aHq : rll [] = []:=rfl
theorem aPq (l:List wO) (r:wO):oV l ++ [[.sl 1 (rl r.loc),.sl 1 (us r.fac)]]=oV (l ++ [r]):=by simp [oV,wO.row]
theorem vW (l:List wO):uN (oV l):=aPr l
theorem aLc : oV [] = []:=rfl
theorem cU (sts:List (List (BitVec 64))):(aYv sts).length=sts.length:=by simp [aYv]
theorem aMu (see:List (BitVec 64)) (sts:List (List (BitVec 64))) (T:Nat):(aYl see sts T).length=sts.length:=by unfold aYl; rw [aLl,cU]
theorem aMv {see:List (BitVec 64)} {sts:List (List (BitVec 64))} {T i:Nat} (hi:i<sts.length) :
  (aYl see sts T).getD i nE=⟨(List.range T).map fun t=>(List.range see.length).map fun a=>((below (kG see sts T a) (pQ see sts a (i,t)):Nat):Int),stR sts i⟩:=by
 unfold aYl aC3;rw [aLk (by rw [cU]; exact hi),cU];have:((aYv sts).getD i nE).fac=stR sts i:=by simp [aYv,stR,List.getD,hi]
 rw [this];rfl
end Kb
theorem aTg {α:Type} {l:List α} {k:Nat} {d:α} (h:k<l.length):l.take (k+1)= l.take k ++ [l.getD k d]:=yE h
theorem aMt {p:PrA} {F:Nat} (hv:PrV p F) {sts:List (List (BitVec 64))} {T:Nat} (hT:1<=T/\T<=16) (hR:1<=sts.length/\sts.length<=16) (hl:∀ st ∈ sts,st.length=T) :
  yX Tryz.prog 70 [plD p sts] (sD p.see.length F T (aYl p.see sts T)):=by
 have hA:=hv.hA
 have hh:∀ a r t,a<p.see.length->r<sts.length->t<T->yX Tryz.prog 75 [plD p sts,.int .i64 a,.int .i64 r,.int .i64 t] (.sl 1 (rows .u64 (pQ p.see sts a (r,t)))):=fun a r t ha hr ht=>by
  have:=rB (qZ p ha hr (show t<(sts.getD r []).length by have:=hl _ (xN (d:=[]) hr); omega) (by omega));rw [mS] at this;exact this
 have hw1:IntKind.i64.wrap ((T:Int)-1)= ((T:Int)-1):=wrap_i64 (by omega);have h73:=fun a ha=>iF (p:=p) (sts:=sts) (a:=a) (T:=T) ha hT hR fun st hs=>by rw [hl st hs]; exact Nat.le_refl _
 have hasc:∀ a,asc (kG p.see sts T a):=fun a=>aO4 (aUl _)
 have hak:∀ a,(kG p.see sts T a).length<=1000:=fun a=>by
  have h1:(kG p.see sts T a).length<=(aYi ((ptN T (sts.length*T)).map (pQ p.see sts a))).length:=aZg _ _;have h2:=(qW ((ptN T (sts.length*T)).map (pQ p.see sts a))).length_eq;rw [List.length_map,sJ] at h2;have hle:sts.length*T<=16*16:=Nat.mul_le_mul hR.2 hT.2;omega
 have hS:=fun i (hi:i<sts.length)=>aMv (see:=p.see) (T:=T) hi;have hSl:=aMu p.see sts T;have hst:∀ r,r<sts.length->(stR sts r).length=T:=fun r hr=>hl _ (xN (d:=[]) hr);generalize pQ p.see sts=kf at *;generalize kG p.see sts T=al at *;generalize aYl p.see sts T=S at *;have hg0:=pP sts (show 0<sts.length by omega);have hd0:(0:Int)<(sts.length:Int):=by omega
 have hl0:=hst 0 (by omega);unfold stR at hl0;unfold plD plC sD at *;rw [hv.fe] at *;refine xX.go_fn mixed Tryz.func70 k70 (by simp) fun hf=>?_;simp only [ZA,ZB,ZC,ZD,ZE,↓reduceIte,ZF,ZG,ZH,ZI,ZJ,reduceCtorEq,ZK,↓zU,↓zD,zV,zT,zW,yF,hd0,hg0,xR,hl0]
 (repeat refine sd ?_)
 refine tX (fun a:Nat=>[(41,.int .i64 a),(40,.int .i64 p.see.length),(5,xG 2 1 (rll ((List.range a).map al))),(4,.ref 1 4 0 0),(3,.int .i64 T),(2,.ref 0 4 0 0),(0,.ptr [.int .i64 F,.sl 1 (us p.init),.sl 1 (us p.see),.sl 1 (mvR p.moves),.sl 1 (cdR p.code),.sl 1 (rr sts)])])
  (fun a=>⟨3,xE 2 1 (rll ((List.range a).map al))++ [(1,⟨4,[[.int .i64 p.see.length,.int .i64 F,.int .i64 T,.nils]]⟩),(0,⟨4,[[.int .i64 0,.int .i64 0,.int .i64 0,.nils]]⟩)]⟩) (fun a=>a<=p.see.length) (fun a=>p.see.length-a) 0 (Nat.zero_le _) ?_ ?_
 ·(refine xM.ren [] [1,0] (by simp) (by simp) (by decide) ?_; simp only [yP,vwL,vw,vwF,sw,St.get,St.look,Fr.get,↓reduceIte,reduceIte,Nat.reduceEqDiff,Nat.reduceAdd,Nat.reduceBEq,Nat.reduceLT,Nat.reduceLeDiff,exists_eq_left',ne_eq,reduceCtorEq,zR,List.range_zero,List.map_nil,aHq,zM,zN,List.nil_append])
 intro a ha;refine xQ mixed ?_;by_cases hal:a<p.see.length
 case pos=>
  have hd:((a:Int)<(p.see.length:Int)):=by omega
  have h1:=h73 a hal;have hsu:(List.range (a+1)).map al=(List.range a).map al ++ [al a]:=by rw [List.range_succ,List.map_append]; rfl
  have hla:((List.range a).map al).length=a:=by simp
  generalize (List.range a).map al=L at *;simp only [ZA,ZB,ZC,ZD,ZE,↓reduceIte,ZF,ZG,ZH,ZI,ZJ,reduceCtorEq,ZK,↓zU,↓zD,zV,zT,zW,hd,hw1];refine .go (cr h1) ?_;simp only [ZA,ZB,ZC,ZD,ZE,↓reduceIte,ZF,ZG,ZH,ZI,ZJ,reduceCtorEq,ZK,↓zU,↓zD,zV,zT,zW,aQb,hla]
  (repeat refine sd ?_)
  refine⟨a+1,by omega,?_,by omega⟩;rw [hsu]
  (refine xM.ren [(2,3)] [2,1,0] (by simp) (by simp) (by decide) ?_; simp only [yP,vwL,vw,vwF,sw,St.get,St.look,Fr.get,↓reduceIte,reduceIte,Nat.reduceEqDiff,Nat.reduceAdd,Nat.reduceBEq,Nat.reduceLT,Nat.reduceLeDiff,exists_eq_left',ne_eq,reduceCtorEq,zR,aLh,aY])
  exact wQ (by omega)
 have hd:¬ ((a:Int)<(p.see.length:Int)):=by omega
 obtain rfl:a=p.see.length:=by omega
 have hlal:((List.range p.see.length).map al).length=p.see.length:=by simp
 have hgal:∀ a,a<p.see.length->(rll ((List.range p.see.length).map al)).getD a [] = [.sl 1 (rlu (al a))]:=fun a ha=>by
  rw [aHr (by rw [hlal]; exact ha)]; simp [List.getD,ha]
 generalize (List.range p.see.length).map al=L at *;simp only [ZA,ZB,ZC,ZD,ZE,↓reduceIte,ZF,ZG,ZH,ZI,ZJ,reduceCtorEq,ZK,↓zU,↓zD,zV,zT,zW,hd]
 refine .go [(5,.sl 1 (rll L)),(4,.ref 1 4 0 0),(3,.int .i64 T),(2,.ref 0 4 0 0),(0,.ptr [.int .i64 F,.sl 1 (us p.init),.sl 1 (us p.see),.sl 1 (mvR p.moves),.sl 1 (cdR p.code),.sl 1 (rr sts)])] ⟨2,[(1,⟨4,[[.int .i64 p.see.length,.int .i64 F,.int .i64 T,.nils]]⟩),(0,⟨4,[[.int .i64 0,.int .i64 0,.int .i64 0,.nils]]⟩)]⟩ ?_ ?_
 ·(refine xM.ren [] [1,0] (by simp) (by simp) (by decide) ?_; simp only [yP,vwL,vw,vwF,sw,St.get,St.look,Fr.get,↓reduceIte,reduceIte,Nat.reduceEqDiff,Nat.reduceAdd,Nat.reduceBEq,Nat.reduceLT,Nat.reduceLeDiff,exists_eq_left',ne_eq,reduceCtorEq,zR,aY])
 simp only [ZA,ZB,ZC,ZD,ZE,↓reduceIte,ZF,ZG,ZH,ZI,ZJ,reduceCtorEq,ZK,↓zU,↓zD,zV,zT,zW,yF]
 refine xV (fun r:Nat=>[(58,.int .i64 r),(57,.int .i64 sts.length),(56,.sl 1 (rr sts)),(5,.sl 1 (rll L)),(4,.ref 1 4 0 0),(3,.int .i64 T),(2,.ref 0 4 0 0),(0,.ptr [.int .i64 F,.sl 1 (us p.init),.sl 1 (us p.see),.sl 1 (mvR p.moves),.sl 1 (cdR p.code),.sl 1 (rr sts)])])
  (fun r=>⟨3,xE 2 2 (oV (S.take r))++ [(1,⟨4,[[.int .i64 p.see.length,.int .i64 F,.int .i64 T,xG 2 2 (oV (S.take r))]]⟩),(0,⟨4,[[.int .i64 0,.int .i64 0,.int .i64 0,.nils]]⟩)]⟩) (fun r=>r<=sts.length) (fun r=>sts.length-r) 0 (Nat.zero_le _) ?_ ?_
 ·(refine xM.ren [] [1,0] (by simp) (by simp) (by decide) ?_; simp only [yP,vwL,vw,vwF,sw,St.get,St.look,Fr.get,↓reduceIte,reduceIte,Nat.reduceEqDiff,Nat.reduceAdd,Nat.reduceBEq,Nat.reduceLT,Nat.reduceLeDiff,exists_eq_left',ne_eq,reduceCtorEq,zR,List.take_zero,aLc,zM,zN,List.nil_append])
 intro r hr;refine xQ mixed ?_;by_cases hrl:r<sts.length
 case neg=>
  have hd2:¬ ((r:Int)<(sts.length:Int)):=by omega
  rw [List.take_of_length_le (show S.length<=r by omega)];simp only [ZA,ZB,ZC,ZD,ZE,↓reduceIte,ZF,ZG,ZH,ZI,ZJ,reduceCtorEq,ZK,↓zU,↓zD,zV,zT,zW,hd2]
  (refine nA.ren [] [] (by simp) (by simp) (by decide) ?_; simp only [yP,vwL,vw,vwF,sw,St.get,St.look,Fr.get,↓reduceIte,reduceIte,Nat.reduceEqDiff,Nat.reduceAdd,Nat.reduceBEq,Nat.reduceLT,Nat.reduceLeDiff,exists_eq_left',ne_eq,reduceCtorEq,zR,vW])
 have hd2:((r:Int)<(sts.length:Int)):=by omega
 have hgr:=pP sts hrl;have hlr:=hst r hrl;have hSr:=hS r hrl;have hSs:=aTg (l:=S) (d:=nE) (show r<S.length by omega);rw [hSr] at hSs;have hSl2:(S.take r).length=r:=by rw [List.length_take]; omega
 unfold stR at hlr hSs;have hcl:=aFe (c:=sts.getD r []) (by omega) (by omega);generalize sts.getD r []=st at *;generalize S.take r=S0 at *;simp only [ZA,ZB,ZC,ZD,ZE,↓reduceIte,ZF,ZG,ZH,ZI,ZJ,reduceCtorEq,ZK,↓zU,↓zD,zV,zT,zW,hd2,yF,hgr]
 (repeat refine sd ?_)
 refine .go (cr hcl) ?_;simp only [ZA,ZB,ZC,ZD,ZE,↓reduceIte,ZF,ZG,ZH,ZI,ZJ,reduceCtorEq,ZK,↓zU,↓zD,zV,zT,zW]
 (repeat refine sd ?_)
 let lrow:Nat->List Int:=(fun t=>(List.range p.see.length).map fun a=>((below (al a) (kf a (r,t)):Nat):Int))
 have hlw:((List.range T).map fun t=>(List.range p.see.length).map fun a=>((below (al a) (kf a (r,t)):Nat):Int))= (List.range T).map lrow:=rfl;rw [hlw] at hSs
 refine tX (fun t:Nat=>[(67,.int .i64 t),(66,.int .i64 T),(58,.int .i64 r),(57,.int .i64 sts.length),(56,.sl 1 (rr sts)),(9,.ref 3 2 0 0),(7,.int .i64 r),(5,.sl 1 (rll L)),(4,.ref 1 4 0 0),(3,.int .i64 T),(2,.ref 0 4 0 0),(0,.ptr [.int .i64 F,.sl 1 (us p.init),.sl 1 (us p.see),.sl 1 (mvR p.moves),.sl 1 (cdR p.code),.sl 1 (rr sts)])])
  (fun t=>⟨5,xE 4 1 (rl ((List.range t).map lrow))++ ((3,⟨2,[[xG 4 1 (rl ((List.range t).map lrow)),.sl 1 (us st)]]⟩) :: (xE 2 2 (oV S0)++ [(1,⟨4,[[.int .i64 p.see.length,.int .i64 F,.int .i64 T,xG 2 2 (oV S0)]]⟩),(0,⟨4,[[.int .i64 0,.int .i64 0,.int .i64 0,.nils]]⟩)]))⟩) (fun t=>t<=T) (fun t=>T-t) 0 (Nat.zero_le _) ?_ ?_
 ·(refine xM.ren [] [3,2,1,0] (by simp) (by simp) (by decide) ?_; simp only [yP,vwL,vw,vwF,sw,St.get,St.look,Fr.get,↓reduceIte,reduceIte,Nat.reduceEqDiff,Nat.reduceAdd,Nat.reduceBEq,Nat.reduceLT,Nat.reduceLeDiff,exists_eq_left',ne_eq,reduceCtorEq,zR,List.range_zero,List.map_nil,aDt,zM,zN,List.nil_append,vW])
 intro t ht;refine xQ mixed ?_;by_cases htl:t<T
 case neg=>
  have hd3:¬ ((t:Int)<(T:Int)):=by omega
  obtain rfl:t=T:=by omega
  generalize (List.range t).map lrow=LL at *;simp only [ZA,ZB,ZC,ZD,ZE,↓reduceIte,ZF,ZG,ZH,ZI,ZJ,reduceCtorEq,ZK,↓zU,↓zD,zV,zT,zW,hd3]
  refine .go [(58,.int .i64 r),(57,.int .i64 sts.length),(56,.sl 1 (rr sts)),(9,.ref 3 2 0 0),(5,.sl 1 (rll L)),(4,.ref 1 4 0 0),(3,.int .i64 t),(2,.ref 0 4 0 0),(0,.ptr [.int .i64 F,.sl 1 (us p.init),.sl 1 (us p.see),.sl 1 (mvR p.moves),.sl 1 (cdR p.code),.sl 1 (rr sts)])]
   ⟨4,(3,⟨2,[[.sl 1 (rl LL),.sl 1 (us st)]]⟩) :: (xE 2 2 (oV S0)++ [(1,⟨4,[[.int .i64 p.see.length,.int .i64 F,.int .i64 t,xG 2 2 (oV S0)]]⟩),(0,⟨4,[[.int .i64 0,.int .i64 0,.int .i64 0,.nils]]⟩)])⟩ ?_ ?_
  ·(refine xM.ren [] [3,2,1,0] (by simp) (by simp) (by decide) ?_; simp only [yP,vwL,vw,vwF,sw,St.get,St.look,Fr.get,↓reduceIte,reduceIte,Nat.reduceEqDiff,Nat.reduceAdd,Nat.reduceBEq,Nat.reduceLT,Nat.reduceLeDiff,exists_eq_left',ne_eq,reduceCtorEq,zR,vW,oG])
  simp only [ZA,ZB,ZC,ZD,ZE,↓reduceIte,ZF,ZG,ZH,ZI,ZJ,reduceCtorEq,ZK,↓zU,↓zD,zV,zT,zW,tL,hSl2]
  (repeat refine sd ?_)
  refine⟨r+1,by omega,?_,by omega⟩;rw [hSs];have hsn:=aPq S0 ⟨LL,st⟩;simp only at hsn
  (refine xM.ren [(2,4)] [2,1,0] (by simp) (by simp) (by decide) ?_; simp only [yP,vwL,vw,vwF,sw,St.get,St.look,Fr.get,↓reduceIte,reduceIte,Nat.reduceEqDiff,Nat.reduceAdd,Nat.reduceBEq,Nat.reduceLT,Nat.reduceLeDiff,exists_eq_left',ne_eq,reduceCtorEq,zR,hsn,vW])
  exact wQ (by omega)
 have hd3:((t:Int)<(T:Int)):=by omega
 have hsu:(List.range (t+1)).map lrow=(List.range t).map lrow ++ [lrow t]:=by rw [List.range_succ,List.map_append]; rfl
 have hll:((List.range t).map lrow).length=t:=by simp
 generalize (List.range t).map lrow=LL at *;simp only [ZA,ZB,ZC,ZD,ZE,↓reduceIte,ZF,ZG,ZH,ZI,ZJ,reduceCtorEq,ZK,↓zU,↓zD,zV,zT,zW,hd3,xR]
 refine tX (fun a:Nat=>[(76,.int .i64 a),(75,.int .i64 p.see.length),(67,.int .i64 t),(66,.int .i64 T),(58,.int .i64 r),(57,.int .i64 sts.length),(56,.sl 1 (rr sts)),(11,xG 5 1 (rows .i64 ((List.range a).map fun a=>((below (al a) (kf a (r,t)):Nat):Int)))),(10,.int .i64 t),(9,.ref 3 2 0 0),(7,.int .i64 r),(5,.sl 1 (rll L)),(4,.ref 1 4 0 0),(3,.int .i64 T),(2,.ref 0 4 0 0),(0,.ptr [.int .i64 F,.sl 1 (us p.init),.sl 1 (us p.see),.sl 1 (mvR p.moves),.sl 1 (cdR p.code),.sl 1 (rr sts)])])
  (fun a=>⟨6,xE 5 1 (rows .i64 ((List.range a).map fun a=>((below (al a) (kf a (r,t)):Nat):Int)))++ (xE 4 1 (rl LL)++ ((3,⟨2,[[xG 4 1 (rl LL),.sl 1 (us st)]]⟩) :: (xE 2 2 (oV S0)++ [(1,⟨4,[[.int .i64 p.see.length,.int .i64 F,.int .i64 T,xG 2 2 (oV S0)]]⟩),(0,⟨4,[[.int .i64 0,.int .i64 0,.int .i64 0,.nils]]⟩)])))⟩) (fun a=>a<=p.see.length) (fun a=>p.see.length-a) 0 (Nat.zero_le _) ?_ ?_
 ·(refine xM.ren [] [4,3,2,1,0] (by simp) (by simp) (by decide) ?_; simp only [yP,vwL,vw,vwF,sw,St.get,St.look,Fr.get,↓reduceIte,reduceIte,Nat.reduceEqDiff,Nat.reduceAdd,Nat.reduceBEq,Nat.reduceLT,Nat.reduceLeDiff,exists_eq_left',ne_eq,reduceCtorEq,zR,List.range_zero,List.map_nil,qM,zM,zN,List.nil_append,vW,oG])
 intro a ha;refine xQ mixed ?_;by_cases hal:a<p.see.length
 case neg=>
  have hd4:¬ ((a:Int)<(p.see.length:Int)):=by omega
  obtain rfl:a=p.see.length:=by omega
  have hlr2:((List.range p.see.length).map fun a=>((below (al a) (kf a (r,t)):Nat):Int))= lrow t:=rfl;rw [hlr2];generalize lrow t=x at *;simp only [ZA,ZB,ZC,ZD,ZE,↓reduceIte,ZF,ZG,ZH,ZI,ZJ,reduceCtorEq,ZK,↓zU,↓zD,zV,zT,zW,hd4]
  refine .go [(67,.int .i64 t),(66,.int .i64 T),(58,.int .i64 r),(57,.int .i64 sts.length),(56,.sl 1 (rr sts)),(11,.sl 1 (rows .i64 x)),(9,.ref 3 2 0 0),(7,.int .i64 r),(5,.sl 1 (rll L)),(4,.ref 1 4 0 0),(3,.int .i64 T),(2,.ref 0 4 0 0),(0,.ptr [.int .i64 F,.sl 1 (us p.init),.sl 1 (us p.see),.sl 1 (mvR p.moves),.sl 1 (cdR p.code),.sl 1 (rr sts)])]
   ⟨5,xE 4 1 (rl LL)++ ((3,⟨2,[[xG 4 1 (rl LL),.sl 1 (us st)]]⟩) :: (xE 2 2 (oV S0)++ [(1,⟨4,[[.int .i64 p.see.length,.int .i64 F,.int .i64 T,xG 2 2 (oV S0)]]⟩),(0,⟨4,[[.int .i64 0,.int .i64 0,.int .i64 0,.nils]]⟩)]))⟩ ?_ ?_
  ·(refine xM.ren [] [4,3,2,1,0] (by simp) (by simp) (by decide) ?_; simp only [yP,vwL,vw,vwF,sw,St.get,St.look,Fr.get,↓reduceIte,reduceIte,Nat.reduceEqDiff,Nat.reduceAdd,Nat.reduceBEq,Nat.reduceLT,Nat.reduceLeDiff,exists_eq_left',ne_eq,reduceCtorEq,zR,vW,oG])
  simp only [ZA,ZB,ZC,ZD,ZE,↓reduceIte,ZF,ZG,ZH,ZI,ZJ,reduceCtorEq,ZK,↓zU,↓zD,zV,zT,zW,vL,hll]
  (repeat refine sd ?_)
  refine⟨t+1,by omega,?_,by omega⟩;rw [hsu]
  (refine xM.ren [(4,5)] [4,3,2,1,0] (by simp) (by simp) (by decide) ?_; simp only [yP,vwL,vw,vwF,sw,St.get,St.look,Fr.get,↓reduceIte,reduceIte,Nat.reduceEqDiff,Nat.reduceAdd,Nat.reduceBEq,Nat.reduceLT,Nat.reduceLeDiff,exists_eq_left',ne_eq,reduceCtorEq,zR,aHs,vW,oG])
  exact wQ (by omega)
 have hd4:((a:Int)<(p.see.length:Int)):=by omega
 have hga:=hgal a hal;obtain⟨bb,hse⟩:=aPo (kf a (r,t)) (hasc a) (hak a);have h75:=hh a r t hal hrl htl;have hsu2:(List.range (a+1)).map (fun a=>((below (al a) (kf a (r,t)):Nat):Int))= (List.range a).map (fun a=>((below (al a) (kf a (r,t)):Nat):Int))++ [((below (al a) (kf a (r,t)):Nat):Int)]:=by rw [List.range_succ,List.map_append]; rfl
 have hla2:((List.range a).map fun a=>((below (al a) (kf a (r,t)):Nat):Int)).length=a:=by simp
 have hdL:((a:Int)<(L.length:Int)):=by omega
 generalize (List.range a).map (fun a=>((below (al a) (kf a (r,t)):Nat):Int))= W at *;simp only [ZA,ZB,ZC,ZD,ZE,↓reduceIte,ZF,ZG,ZH,ZI,ZJ,reduceCtorEq,ZK,↓zU,↓zD,zV,zT,zW,hd4,aQb,hdL,hga]
 (repeat refine sd ?_)
 refine .go (cr h75) ?_;simp only [ZA,ZB,ZC,ZD,ZE,↓reduceIte,ZF,ZG,ZH,ZI,ZJ,reduceCtorEq,ZK,↓zU,↓zD,zV,zT,zW];refine .go (cr hse) ?_;simp only [ZA,ZB,ZC,ZD,ZE,↓reduceIte,ZF,ZG,ZH,ZI,ZJ,reduceCtorEq,ZK,↓zU,↓zD,zV,zT,zW,xF,hla2]
 (repeat refine sd ?_)
 refine⟨a+1,by omega,?_,by omega⟩;rw [hsu2]
 (refine xM.ren [(5,6)] [5,4,3,2,1,0] (by simp) (by simp) (by decide) ?_; simp only [yP,vwL,vw,vwF,sw,St.get,St.look,Fr.get,↓reduceIte,reduceIte,Nat.reduceEqDiff,Nat.reduceAdd,Nat.reduceBEq,Nat.reduceLT,Nat.reduceLeDiff,exists_eq_left',ne_eq,reduceCtorEq,zR,vW,oG])
 exact wQ (by omega)
namespace Kb
def gU (p:PrA) (n:Int):Int:=if tE p≠0 then tE p else if n<1\/6<n then 2 else 0
theorem req_zero {p:PrA} {n:Int} (h:gU p n=0):∃ F k:Nat,PrV p F/\n=((k+1:Nat):Int)/\ k<=5:=by
 unfold gU at h
 split at h
 ·rename_i h1; exact absurd h h1
 ·rename_i h1
  split at h
  ·cases h
  ·obtain⟨F,hv⟩:=aO9 (by simpa using h1);exact⟨F,(n-1).toNat,hv,by omega,by omega⟩
def aYq (p:PrA) (n:Int):cG:=if gU p n≠0 then⟨0,0,0,[]⟩ else⟨p.see.length,p.F,n,aYl p.see (wB p (n.toNat-1)) n.toNat⟩
end Kb
theorem jL (p:PrA) (sm:rU p) (n:Int):yX Tryz.prog 68 [p.d,.int .i64 n] (.int .i64 (gU p n)):=by
 have hC:=aZl p sm;unfold PrA.d PrA.cells gU at *;refine xX.go_fn mixed Tryz.func68 k68 (by simp) fun hf=>?_;simp only [ZA,ZB,ZC,ZD,ZE,↓reduceIte,ZF,ZG,ZH,ZI,ZJ,reduceCtorEq,ZK,↓zU,↓zD,zV,zT,zW]
 (repeat refine sd ?_)
 refine .go (cr hC) ?_;by_cases c:tE p=0
 case neg=>
  have c':(tE p != 0)= true:=by simpa using c
  rw [if_pos c];simp only [ZA,ZB,ZC,ZD,ZE,↓reduceIte,ZF,ZG,ZH,ZI,ZJ,reduceCtorEq,ZK,↓zU,↓zD,zV,zT,zW,c'];exact .drop (by simp) (by simp [vw])
 have c':(tE p != 0)= false:=by simpa using c
 rw [if_neg (by simpa using c)]
 by_cases h1:n<1
 ·rw [if_pos (.inl h1)];simp only [ZA,ZB,ZC,ZD,ZE,↓reduceIte,ZF,ZG,ZH,ZI,ZJ,reduceCtorEq,ZK,↓zU,↓zD,zV,zT,zW,c',h1];exact .drop (by simp) (by simp [vw])
 by_cases h2:6<n
 ·rw [if_pos (.inr h2)];simp only [ZA,ZB,ZC,ZD,ZE,↓reduceIte,ZF,ZG,ZH,ZI,ZJ,reduceCtorEq,ZK,↓zU,↓zD,zV,zT,zW,c',h1,h2];exact .drop (by simp) (by simp [vw])
 rw [if_neg (by omega)];simp only [ZA,ZB,ZC,ZD,ZE,↓reduceIte,ZF,ZG,ZH,ZI,ZJ,reduceCtorEq,ZK,↓zU,↓zD,zV,zT,zW,c',h1,h2];exact .drop (by simp) (by simp [vw])
theorem iN {p:PrA} {F k:Nat} (hv:PrV p F) (hk:k<=5) {sts:List (List (BitVec 64))} (hS:PlS p F sts k):yX Tryz.prog 70 [plD p sts] (sD p.see.length F (k+1) (aYl p.see sts (k+1))):=
 aMt hv ⟨by omega,by omega⟩ (by rw [hS.len]; exact hv.hI) hS.run
theorem aCr (p:PrA) (sm:rU p) (n:Int):yX Tryz.prog 19 [p.d,.int .i64 n] (.tup [(aYq p n).d,.int .i64 (gU p n)]):=by
 have hR:=jL p sm n;by_cases c:gU p n=0
 case neg=>
  have c':(gU p n != 0)= true:=by simpa using c
  have hD:(aYq p n).d = .agg [.int .i64 0,.int .i64 0,.int .i64 0,.sl 2 []]:=by unfold aYq; rw [if_pos c]; rfl
  rw [hD];unfold PrA.d PrA.cells at *;refine xX.go_fn mixed Tryz.func19 k19 (by simp) fun hf=>?_;simp only [ZA,ZB,ZC,ZD,ZE,↓reduceIte,ZF,ZG,ZH,ZI,ZJ,reduceCtorEq,ZK,↓zU,↓zD,zV,zT,zW]
  (repeat refine sd ?_)
  refine .go (cr hR) ?_;simp only [ZA,ZB,ZC,ZD,ZE,↓reduceIte,ZF,ZG,ZH,ZI,ZJ,reduceCtorEq,ZK,↓zU,↓zD,zV,zT,zW,c']
  (repeat refine sd ?_)
  exact .drop (by simp) (by simp [vw,vwL])
 have c':(gU p n != 0)= false:=by simpa using c
 obtain⟨F,k,hv,rfl,hk⟩:=req_zero c;have hP:=aVf hv (n:=k) (by omega);have hS:=iN hv hk (jW hv k)
 have hD:(aYq p ((k+1:Nat):Int)).d=sD p.see.length F (k+1) (aYl p.see (wB p k) (k+1)):=by
  unfold aYq;rw [if_neg (by simpa using c),Int.toNat_natCast,show k+1-1=k by omega];show D.agg [_,_,_,_]=D.agg [_,_,_,_];rw [hv.fe]
 rw [hD];generalize aYl p.see (wB p k) (k+1)= S at *;generalize wB p k=sts at *;unfold PrA.d PrA.cells plD plC sD at *;refine xX.go_fn mixed Tryz.func19 k19 (by simp) fun hf=>?_;simp only [ZA,ZB,ZC,ZD,ZE,↓reduceIte,ZF,ZG,ZH,ZI,ZJ,reduceCtorEq,ZK,↓zU,↓zD,zV,zT,zW]
 (repeat refine sd ?_)
 refine .go (cr hR) ?_;simp only [ZA,ZB,ZC,ZD,ZE,↓reduceIte,ZF,ZG,ZH,ZI,ZJ,reduceCtorEq,ZK,↓zU,↓zD,zV,zT,zW,c'];refine .go (cr hP) ?_;simp only [ZA,ZB,ZC,ZD,ZE,↓reduceIte,ZF,ZG,ZH,ZI,ZJ,reduceCtorEq,ZK,↓zU,↓zD,zV,zT,zW];refine .go (cr hS) ?_;simp only [ZA,ZB,ZC,ZD,ZE,↓reduceIte,ZF,ZG,ZH,ZI,ZJ,reduceCtorEq,ZK,↓zU,↓zD,zV,zT,zW]
 (repeat refine sd ?_)
 exact .drop (by simp) (by simp [vw,vwL]; simpa using c.symm)
end Go.Pd
