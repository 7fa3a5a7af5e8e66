/- Part KI. -/
import Derived.Test.YtndfaefmmcoapaaGreatKcC4
import Derived.Test.YtndfaefmmcoapaaGreatKcXA
import Derived.Test.YtndfaefmmcoapaaGreatKcX9
import Derived.Test.YtndfaefmmcoapaaGreatKcX8
import Derived.Test.YtndfaefmmcoapaaGreatKcSC
import Derived.Test.YtndfaefmmcoapaaGreatKcKG
set_option linter.unusedSectionVars false
set_option linter.unusedVariables false
set_option linter.unusedSimpArgs false
set_option linter.defProp false
set_option maxRecDepth 20000
set_option maxHeartbeats 1000000
namespace Go.Pd
open Go Go.Proofs
open Int renaming reduceToNat -> ZA, reduceLT -> ZB, reduceLE -> ZC, reduceBEq -> ZD, reduceBNe -> ZE
open Nat renaming reduceEqDiff -> ZF, reduceAdd -> ZG, reduceBEq -> ZH, reduceLT -> ZI, reduceLeDiff -> ZJ, reduceMul -> ZK
open Rs Fm Ru Te Kb
structure bXc (p : PrA) (F : Nat) (sts : List (List (BitVec 64))) (t : Nat) : Prop where
 fe:p.F=(F:Int)
 hF:F<=8
 hA:p.see.length<=4
 hR:sts.length<=64
 len:∀ st ∈ sts,t<st.length
 ht:t<=1000
theorem aPa {a b:List (BitVec 64)}:yX Tryz.prog 74 [.sl 1 (us a),.sl 1 (us b)] (.bool (decide (a.map ui=b.map ui))):=by
 rw [mJ,mJ];exact cI _ _
theorem aKv {p:PrA} {F:Nat} {sts:List (List (BitVec 64))} {t:Nat} (ok:bXc p F sts t):yX Tryz.prog 130 [plD p sts,.int .i64 t] (aMn p.see sts t F):=by
 have hF:=ok.hF;have hA:=ok.hA;have hR:=ok.hR;have ht:=ok.ht;have hl:∀ i,i<sts.length->t<(stR sts i).length:=fun i hi=>ok.len _ (xN hi);have hist:∀ a w,a<p.see.length->w<sts.length->yX Tryz.prog 75 [plD p sts,.int .i64 a,.int .i64 w,.int .i64 t] (.sl 1 (us (vK p.see (stR sts w) a t))):=fun a w ha hw=>qZ (qT p ha hw (hl w hw) ht);have hkey:=fun a v w (ha:a<p.see.length) (hv:v<sts.length) (hw:w<sts.length)=>aFj (see:=p.see) (t:=t) ha hv hw;have hfac:=fun w (hw:w<sts.length)=>aLd (see:=p.see) (t:=t) hw;unfold aMn aEs;have hll:(vX sts.length 0).length=sts.length:=aS _ _;have hlg:∀ i,i<sts.length->(vX sts.length 0).getD i (0,0)= (i,0):=fun i hi=>qY hi;generalize wU p.see sts t=rs at *;generalize vX sts.length 0=l at *;unfold plD plC at *;rw [ok.fe] at *;refine xX.go_fn mixed Tryz.func130 bY3 (by simp) fun hf=>?_
 have hz:List.replicate F [D.int .u64 (ui 0#64)]=us ((List.range F).map fun f=>gK rs l f 0):=by
  simp only [gK,us,List.map_map];refine List.ext_getElem (by simp) fun i h1 h2=>?_;simp
 simp only [ZA,ZB,ZC,ZD,ZE,↓reduceIte,ZF,ZG,ZH,ZI,ZJ,reduceCtorEq,ZK,↓zU,↓zD,zV,zT,zW,yE,↓aVc]
 (refine aT mixed ?_; unfold aR1; simp only [ZA,ZB,ZC,ZD,ZE,↓reduceIte,ZF,ZG,ZH,ZI,ZJ,reduceCtorEq,ZK,↓zU,↓zD,zV,zT,zW,↓aEo,↓aEn,↓rz1,↓rz2,↓rz3,↓rz4,↓rz5,↓rz6,↓aRv,rU,pS,yE])
 refine⟨by omega,by omega,by omega,by omega,?_,?_⟩
 ·rw [hz]
  (refine xM.ren [(1,2),(2,1)] [2,1,0] (by simp) (by simp) (by decide) ?_; simp only [yO,vwL,vw,vwF,sw,St.get,St.look,Fr.get,↓reduceIte,reduceIte,Nat.reduceEqDiff,Nat.reduceAdd,Nat.reduceBEq,Nat.reduceLT,Nat.reduceLeDiff,exists_eq_left',ne_eq,reduceCtorEq,zR,yK])
 refine xV (fun w:Nat=>[(31,.int .i64 w),(30,.int .i64 sts.length),(29,.sl 1 (rr sts)),(5,.ref 2 3 0 0),(4,.ref 0 3 0 0),(1,.int .i64 t),(0,.ptr [.int .i64 F,.sl 1 (us p.init),.sl 1 (us p.see),.sl 1 (mvR p.moves),.sl 1 (cdR p.code),.sl 1 (rr sts)])])
  (fun w=>⟨3,[(2,⟨3,[[.int .i64 sts.length,.osl 1 1 F,.nils]]⟩),(1,⟨1,us ((List.range F).map fun f=>gK rs l f w)⟩),(0,⟨3,[[.int .i64 0,.nils,.nils]]⟩)]⟩)
  (fun w=>w<=sts.length) (fun w=>sts.length-w) 0 (Nat.zero_le _) ?_ ?_
 ·rw [<- hz]
  (refine xM.same ?_; simp [xR,Fr.get])
 intro w hw;refine xQ mixed ?_
 by_cases hwl:w<sts.length
 ·have hd:((w:Int)<(sts.length:Int)):=by omega
  have hg:=pK sts hwl
  have hv:∀ f,gK rs l f (w+1)= gK rs l f w ||| (if ((stR sts w).getD t 0).getLsbD f then 1#64 <<< w else 0#64):=fun f=>by
   rw [<- hfac w hwl,<- hlg w hwl]; rfl
  have hlw:=hl w hwl;unfold stR at hv hlw;generalize sts.getD w []=st at hg hv hlw;have hg2:=zH st hlw;have hd0:((t:Int)<(st.length:Int)):=by omega
  generalize st.getD t 0=x at hg2 hv;simp only [ZA,ZB,ZC,ZD,ZE,↓reduceIte,ZF,ZG,ZH,ZI,ZJ,reduceCtorEq,ZK,↓zU,↓zD,zV,zT,zW,hd,yE,hg]
  (repeat refine sd ?_)
  refine xV (fun i:Nat=>[(39,.int .i64 i),(38,.int .i64 F),(31,.int .i64 w),(30,.int .i64 sts.length),(29,.sl 1 (rr sts)),(7,.sl 1 (us st)),(6,.int .i64 w),(5,.ref 2 3 0 0),(4,.ref 0 3 0 0),(1,.int .i64 t),(0,.ptr [.int .i64 F,.sl 1 (us p.init),.sl 1 (us p.see),.sl 1 (mvR p.moves),.sl 1 (cdR p.code),.sl 1 (rr sts)])])
   (fun i=>⟨3,[(2,⟨3,[[.int .i64 sts.length,.osl 1 1 F,.nils]]⟩),(1,⟨1,us (bR F (fun f=>gK rs l f (w+1)) (fun f=>gK rs l f w) i)⟩),(0,⟨3,[[.int .i64 0,.nils,.nils]]⟩)]⟩)
   (fun i=>i<=F) (fun i=>F-i) 0 (Nat.zero_le _) ?_ ?_
  ·rw [aXa]
   (refine xM.same ?_; simp [xR,Fr.get])
  intro i hi;refine xQ mixed ?_
  by_cases hil:i<F
  ·have hd2:((i:Int)<(F:Int)):=by omega
   have hmg:=zH (bR F (fun f=>gK rs l f (w+1)) (fun f=>gK rs l f w) i) (show i<_ by rw [cP]; exact hil);rw [aV8 _ _ hil] at hmg;have hms:=aV7 F (fun f=>gK rs l f (w+1)) (fun f=>gK rs l f w) i;simp only [hv i] at hms;have hml:=cP F (fun f=>gK rs l f (w+1)) (fun f=>gK rs l f w) i;generalize bR F (fun f=>gK rs l f (w+1)) (fun f=>gK rs l f w) i=M at hmg hms hml;simp only [ZA,ZB,ZC,ZD,ZE,↓reduceIte,ZF,ZG,ZH,ZI,ZJ,reduceCtorEq,ZK,↓zU,↓zD,zV,zT,zW,hd2,xT,hml,hmg,hd0,hg2,aF1,oF,hms]
   (repeat refine sd ?_)
   refine⟨i+1,by omega,?_,by omega⟩
   (refine xM.same ?_; simp only [xR,Fr.get,↓reduceIte,reduceIte,Nat.reduceEqDiff,reduceCtorEq,D.int.injEq,D.bool.injEq,D.sl.injEq,and_true,true_and,and_self])
   exact wrap_i64 (by omega)
  ·have hd2:¬ ((i:Int)<(F:Int)):=by omega
   rw [aV9 _ _ _ (by omega:F<=i)];simp only [ZA,ZB,ZC,ZD,ZE,↓reduceIte,ZF,ZG,ZH,ZI,ZJ,reduceCtorEq,ZK,↓zU,↓zD,zV,zT,zW,hd2]
   (repeat refine sd ?_)
   refine⟨w+1,by omega,?_,by omega⟩
   (refine xM.ren [] [2,1,0] (by simp) (by simp) (by decide) ?_; simp only [yO,vwL,vw,vwF,sw,St.get,St.look,Fr.get,↓reduceIte,reduceIte,Nat.reduceEqDiff,Nat.reduceAdd,Nat.reduceBEq,Nat.reduceLT,Nat.reduceLeDiff,exists_eq_left',ne_eq,reduceCtorEq,zR,yK])
   exact wrap_i64 (by omega)
 have hd:¬ ((w:Int)<(sts.length:Int)):=by omega
 obtain rfl:w=sts.length:=by omega
 rw [show ((List.range F).map fun f=>gK rs l f sts.length)= eC rs l F by rw [<- hll]; rfl];simp only [ZA,ZB,ZC,ZD,ZE,↓reduceIte,ZF,ZG,ZH,ZI,ZJ,reduceCtorEq,ZK,↓zU,↓zD,zV,zT,zW,hd]
 refine xV (fun a:Nat=>[(66,.int .i64 a),(65,.int .i64 p.see.length),(5,.ref 2 3 0 0),(4,.ref 0 3 0 0),(1,.int .i64 t),(0,.ptr [.int .i64 F,.sl 1 (us p.init),.sl 1 (us p.see),.sl 1 (mvR p.moves),.sl 1 (cdR p.code),.sl 1 (rr sts)])])
  (fun a=>⟨4,xE 3 1 (rr (oN rs l a))++ [(2,⟨3,[[.int .i64 sts.length,.osl 1 1 F,xG 3 1 (rr (oN rs l a))]]⟩),(1,⟨1,us (eC rs l F)⟩),(0,⟨3,[[.int .i64 0,.nils,.nils]]⟩)]⟩)
  (fun a=>a<=p.see.length) (fun a=>p.see.length-a) 0 (Nat.zero_le _) ?_ ?_
 ·(refine xM.ren [] [2,1,0] (by simp) (by simp) (by decide) ?_; simp only [yO,vwL,vw,vwF,sw,St.get,St.look,Fr.get,↓reduceIte,reduceIte,Nat.reduceEqDiff,Nat.reduceAdd,Nat.reduceBEq,Nat.reduceLT,Nat.reduceLeDiff,exists_eq_left',ne_eq,reduceCtorEq,zR,oN,List.range_zero,List.map_nil,zL,zM,List.nil_append,yK,show rr [] = [] from rfl])
 intro a ha;refine xQ mixed ?_;by_cases hal:a<p.see.length
 case neg=>
  have hd2:¬ ((a:Int)<(p.see.length:Int)):=by omega
  obtain rfl:a=p.see.length:=by omega
  have hvl:(us (eC rs l F)).length=F:=by simp [us,eC]
  rw [hll];simp only [ZA,ZB,ZC,ZD,ZE,↓reduceIte,ZF,ZG,ZH,ZI,ZJ,reduceCtorEq,ZK,↓zU,↓zD,zV,zT,zW,hd2]
  (refine mT.ren [] [] (by simp) (by simp) (by decide) ?_; simp only [yO,vwL,vw,vwF,sw,St.get,St.look,Fr.get,↓reduceIte,reduceIte,Nat.reduceEqDiff,Nat.reduceAdd,Nat.reduceBEq,Nat.reduceLT,Nat.reduceLeDiff,exists_eq_left',ne_eq,reduceCtorEq,zR,yK,tH])
  exact⟨fun _ h=>h.elim,by omega,(List.take_of_length_le (by omega)).symm,sY _⟩
 have hd2:((a:Int)<(p.see.length:Int)):=by omega
 have hrel:oN rs l (a+1)= oN rs l a ++ [mV rs l a]:=by
  unfold oN; rw [List.range_succ,List.map_append]; rfl
 generalize hRL:oN rs l a=RL at hrel;have hrl:(mV rs l a).length=sts.length:=by simp [mV,hll]
 have hrlg:∀ w,w<sts.length->(mV rs l a).getD w 0#64=Ru.relK rs l a (uQ rs a (w,0)) sts.length:=fun w hw=>by
  rw [<- hll] at hw ⊢;have:=hlg w (by omega);simp only [List.getD,hw,List.getElem?_eq_getElem,Option.getD_some] at this;simp [mV,List.getD,hw,this]
 simp only [ZA,ZB,ZC,ZD,ZE,↓reduceIte,ZF,ZG,ZH,ZI,ZJ,reduceCtorEq,ZK,↓zU,↓zD,zV,zT,zW,yE,hd2]
 refine tV (fun w:Nat=>[(74,.int .i64 w),(73,.int .i64 sts.length),(66,.int .i64 a),(65,.int .i64 p.see.length),(10,xG 4 1 (us ((mV rs l a).take w))),(9,.int .i64 a),(5,.ref 2 3 0 0),(4,.ref 0 3 0 0),(1,.int .i64 t),(0,.ptr [.int .i64 F,.sl 1 (us p.init),.sl 1 (us p.see),.sl 1 (mvR p.moves),.sl 1 (cdR p.code),.sl 1 (rr sts)])])
  (fun w=>⟨5,xE 4 1 (us ((mV rs l a).take w))++ (xE 3 1 (rr RL)++ [(2,⟨3,[[.int .i64 sts.length,.osl 1 1 F,xG 3 1 (rr RL)]]⟩),(1,⟨1,us (eC rs l F)⟩),(0,⟨3,[[.int .i64 0,.nils,.nils]]⟩)])⟩)
  (fun w=>w<=sts.length) (fun w=>sts.length-w) 0 (Nat.zero_le _) ?_ ?_
 ·(refine xM.ren [] [3,2,1,0] (by simp) (by simp) (by decide) ?_; simp only [yO,vwL,vw,vwF,sw,St.get,St.look,Fr.get,↓reduceIte,reduceIte,Nat.reduceEqDiff,Nat.reduceAdd,Nat.reduceBEq,Nat.reduceLT,Nat.reduceLeDiff,exists_eq_left',ne_eq,reduceCtorEq,zR,List.take_zero,aW4,zL,zM,List.nil_append,yK,tH])
 intro w hw;refine xQ mixed ?_;by_cases hwl:w<sts.length
 case neg=>
  have hd3:¬ ((w:Int)<(sts.length:Int)):=by omega
  rw [show (mV rs l a).take w=mV rs l a by rw [show w=(mV rs l a).length by omega,List.take_length]];simp only [ZA,ZB,ZC,ZD,ZE,↓reduceIte,ZF,ZG,ZH,ZI,ZJ,reduceCtorEq,ZK,↓zU,↓zD,zV,zT,zW,hd3]
  refine .go [(66,.int .i64 a),(65,.int .i64 p.see.length),(10,.sl 1 (us (mV rs l a))),(9,.int .i64 a),(5,.ref 2 3 0 0),(4,.ref 0 3 0 0),(1,.int .i64 t),(0,.ptr [.int .i64 F,.sl 1 (us p.init),.sl 1 (us p.see),.sl 1 (mvR p.moves),.sl 1 (cdR p.code),.sl 1 (rr sts)])]
   ⟨4,xE 3 1 (rr RL)++ [(2,⟨3,[[.int .i64 sts.length,.osl 1 1 F,xG 3 1 (rr RL)]]⟩),(1,⟨1,us (eC rs l F)⟩),(0,⟨3,[[.int .i64 0,.nils,.nils]]⟩)]⟩ ?_ ?_
  ·(refine xM.ren [] [3,2,1,0] (by simp) (by simp) (by decide) ?_; simp only [yO,vwL,vw,vwF,sw,St.get,St.look,Fr.get,↓reduceIte,reduceIte,Nat.reduceEqDiff,Nat.reduceAdd,Nat.reduceBEq,Nat.reduceLT,Nat.reduceLeDiff,exists_eq_left',ne_eq,reduceCtorEq,zR,yK,tH])
  have hRLl:RL.length=a:=by rw [<- hRL]; simp [oN]
  simp only [ZA,ZB,ZC,ZD,ZE,↓reduceIte,ZF,ZG,ZH,ZI,ZJ,reduceCtorEq,ZK,↓zU,↓zD,zV,zT,zW,yE,hRLl]
  (repeat refine sd ?_)
  refine⟨a+1,by omega,?_,by omega⟩;rw [hrel]
  (refine xM.ren [(3,4)] [3,2,1,0] (by simp) (by simp) (by decide) ?_; simp only [yO,vwL,vw,vwF,sw,St.get,St.look,Fr.get,↓reduceIte,reduceIte,Nat.reduceEqDiff,Nat.reduceAdd,Nat.reduceBEq,Nat.reduceLT,Nat.reduceLeDiff,exists_eq_left',ne_eq,reduceCtorEq,zR,yK,tH])
  exact wrap_i64 (by omega)
 have hd3:((w:Int)<(sts.length:Int)):=by omega
 have hrg:(mV rs l a).take (w+1)= (mV rs l a).take w ++ [Ru.relK rs l a (uQ rs a (w,0)) sts.length]:=by
  rw [yD (d:=0#64) (by omega),hrlg w hwl]
 have htl:((mV rs l a).take w).length=w:=by rw [List.length_take]; omega
 generalize (mV rs l a).take w=rw' at hrg htl;simp only [ZA,ZB,ZC,ZD,ZE,↓reduceIte,ZF,ZG,ZH,ZI,ZJ,reduceCtorEq,ZK,↓zU,↓zD,zV,zT,zW,hd3,yE]
 refine xV (fun v:Nat=>[(82,.int .i64 v),(81,.int .i64 sts.length),(74,.int .i64 w),(73,.int .i64 sts.length),(66,.int .i64 a),(65,.int .i64 p.see.length),(12,.int .u64 (ui (Ru.relK rs l a (uQ rs a (w,0)) v))),(11,.int .i64 w),(10,xG 4 1 (us rw')),(9,.int .i64 a),(5,.ref 2 3 0 0),(4,.ref 0 3 0 0),(1,.int .i64 t),(0,.ptr [.int .i64 F,.sl 1 (us p.init),.sl 1 (us p.see),.sl 1 (mvR p.moves),.sl 1 (cdR p.code),.sl 1 (rr sts)])])
  (fun _=>⟨5,xE 4 1 (us rw')++ (xE 3 1 (rr RL)++ [(2,⟨3,[[.int .i64 sts.length,.osl 1 1 F,xG 3 1 (rr RL)]]⟩),(1,⟨1,us (eC rs l F)⟩),(0,⟨3,[[.int .i64 0,.nils,.nils]]⟩)])⟩)
  (fun v=>v<=sts.length) (fun v=>sts.length-v) 0 (Nat.zero_le _) ?_ ?_
 ·(refine xM.same ?_; simp only [xR,Fr.get,↓reduceIte,reduceIte,Nat.reduceEqDiff,reduceCtorEq,D.int.injEq,D.bool.injEq,D.sl.injEq,and_true,true_and,and_self,Ru.relK])
  rfl
 intro v hv;refine xQ mixed ?_;by_cases hvl:v<sts.length
 case neg=>
  have hd4:¬ ((v:Int)<(sts.length:Int)):=by omega
  obtain rfl:v=sts.length:=by omega
  simp only [ZA,ZB,ZC,ZD,ZE,↓reduceIte,ZF,ZG,ZH,ZI,ZJ,reduceCtorEq,ZK,↓zU,↓zD,zV,zT,zW,hd4,xT,htl]
  (repeat refine sd ?_)
  refine⟨w+1,by omega,?_,by omega⟩;rw [hrg]
  (refine xM.ren [(4,5)] [4,3,2,1,0] (by simp) (by simp) (by decide) ?_; simp only [yO,vwL,vw,vwF,sw,St.get,St.look,Fr.get,↓reduceIte,reduceIte,Nat.reduceEqDiff,Nat.reduceAdd,Nat.reduceBEq,Nat.reduceLT,Nat.reduceLeDiff,exists_eq_left',ne_eq,reduceCtorEq,zR,yK,tH])
  exact wrap_i64 (by omega)
 have hd4:((v:Int)<(sts.length:Int)):=by omega
 have hrk:Ru.relK rs l a (uQ rs a (w,0)) (v+1)= Ru.relK rs l a (uQ rs a (w,0)) v ||| (if uQ rs a (v,0)= uQ rs a (w,0) then 1#64 <<< v else 0#64):=by
  rw [<- hlg v hvl]; rfl
 have heq:=aPa (a:=vK p.see (stR sts w) a t) (b:=vK p.see (stR sts v) a t);rw [hkey a v w hal hvl hwl] at heq;have h1:=hist a w hal hwl;have h2:=hist a v hal hvl;generalize vK p.see (stR sts w) a t=x1 at heq h1;generalize vK p.see (stR sts v) a t=x2 at heq h2;simp only [ZA,ZB,ZC,ZD,ZE,↓reduceIte,ZF,ZG,ZH,ZI,ZJ,reduceCtorEq,ZK,↓zU,↓zD,zV,zT,zW,hd4];refine .go (cr h1) ?_;simp only [ZA,ZB,ZC,ZD,ZE,↓reduceIte,ZF,ZG,ZH,ZI,ZJ,reduceCtorEq,ZK,↓zU,↓zD,zV,zT,zW];refine .go (cr h2) ?_;simp only [ZA,ZB,ZC,ZD,ZE,↓reduceIte,ZF,ZG,ZH,ZI,ZJ,reduceCtorEq,ZK,↓zU,↓zD,zV,zT,zW];refine .go (cr heq) ?_
 by_cases c:uQ rs a (v,0)= uQ rs a (w,0)
 ·rw [if_pos c] at hrk;rw [decide_eq_true c];simp only [ZA,ZB,ZC,ZD,ZE,↓reduceIte,ZF,ZG,ZH,ZI,ZJ,reduceCtorEq,ZK,↓zU,↓zD,zV,zT,zW]
  (repeat refine sd ?_)
  refine⟨v+1,by omega,?_,by omega⟩
  (refine xM.same ?_; simp only [xR,Fr.get,↓reduceIte,reduceIte,Nat.reduceEqDiff,reduceCtorEq,D.int.injEq,D.bool.injEq,D.sl.injEq,and_true,true_and,and_self,hrk])
  exact wrap_i64 (by omega)
 ·rw [if_neg c,BitVec.or_zero] at hrk;rw [decide_eq_false c];simp only [ZA,ZB,ZC,ZD,ZE,↓reduceIte,ZF,ZG,ZH,ZI,ZJ,reduceCtorEq,ZK,↓zU,↓zD,zV,zT,zW];refine⟨v+1,by omega,?_,by omega⟩
  (refine xM.same ?_; simp only [xR,Fr.get,↓reduceIte,reduceIte,Nat.reduceEqDiff,reduceCtorEq,D.int.injEq,D.bool.injEq,D.sl.injEq,and_true,true_and,and_self,hrk])
  exact wrap_i64 (by omega)
def aHi (x y:BitVec 64):BitVec 64:=
 let x0:=x &&& 4294967295#64
 let x1:=x >>> 32
 let y0:=y &&& 4294967295#64
 let y1:=y >>> 32
 let w0:=x0*y0
 let t:=x1*y0+w0 >>> 32
 let w1:=(t &&& 4294967295#64)+ x0*y1
 let w2:=t >>> 32
 x1*y1+w2+w1 >>> 32
theorem aOy : ∀ n:Fin 65,aHi 1#64 (BitVec.ofNat 64 n.val)= 0#64:=by decide +kernel
theorem aAf : D.int .u64 4294967295=D.int .u64 (ui 4294967295#64):=rfl
theorem aCk (x y:BitVec 64):yX Tryz.prog 238 [.int .u64 (ui x),.int .u64 (ui y)] (.tup [.int .u64 (ui (aHi x y)),.int .u64 (ui (x*y))]):=by
 refine xX.go_fn mixed Tryz.func238 bXr (by simp) fun hf=>?_;simp only [ZA,ZB,ZC,ZD,ZE,↓reduceIte,ZF,ZG,ZH,ZI,ZJ,reduceCtorEq,ZK,↓zU,↓zD,zV,zT,zW,aAf]
 (repeat refine sd ?_)
 exact .same
theorem aIp {n:Nat} (hn:n<=64):yX Tryz.prog 190 [.int .u64 1,.int .u64 (n:Int)] (.tup [.int .u64 0,.int .u64 (n:Int)]):=by
 have h:=aCk 1#64 (BitVec.ofNat 64 n);have e1:aHi 1#64 (BitVec.ofNat 64 n)= 0#64:=aOy ⟨n,by omega⟩;have e2:1#64*BitVec.ofNat 64 n=BitVec.ofNat 64 n:=BitVec.one_mul _;rw [e1,e2,aLa (k:=n) (by omega)] at h;refine xX.go_fn mixed Tryz.func190 bYe (by simp) fun hf=>?_;simp only [aBl,aBm] at *;simp only [ZA,ZB,ZC,ZD,ZE,↓reduceIte,ZF,ZG,ZH,ZI,ZJ,reduceCtorEq,ZK,↓zU,↓zD,zV,zT,zW];refine .go (cr h) ?_;simp only [ZA,ZB,ZC,ZD,ZE,↓reduceIte,ZF,ZG,ZH,ZI,ZJ,reduceCtorEq,ZK,↓zU,↓zD,zV,zT,zW];exact .same
theorem aVo {els:List (List D)} {n c:Nat} (h:c<=els.length):rowsOf ⟨n,[(0,⟨1,els⟩)]⟩ 1 (.osl 0 1 c)= some (els.take c):=by
 show (if (1:Nat)= 1 then(if 1=1/\c<=els.length then some (els.take c) else none) else none)= _;rw [if_pos rfl,if_pos ⟨rfl,h⟩]
def sS (d z:D) (n c:Nat):List (List D):=List.replicate c [d]++List.replicate (n-c) [z]
theorem aXs {d z:D} {n c:Nat} (h:c<=n):(sS d z n c).length=n:=by simp [sS]; omega
theorem lS {d z:D} {n c:Nat}:(sS d z n c).take c=List.replicate c [d]:=by
 unfold sS;rw [List.take_left' (by simp)]
theorem eO {d z:D} {n c:Nat} (h:c<n):(sS d z n c).take c++(((sS d z n c).take c).take (min (n-c) c)++ (sS d z n c).drop (c+min (n-c) c))= sS d z n (c+min (n-c) c):=by
 rw [lS]
 have e:(sS d z n c).drop (c+min (n-c) c)= List.replicate (n-(c+min (n-c) c)) [z]:=by
  unfold sS;rw [List.drop_append,List.length_replicate,List.drop_eq_nil_of_le (by simp),List.nil_append,List.drop_replicate];congr 1;omega
 rw [e,List.take_replicate,show min (min (n-c) c) c=min (n-c) c by omega];unfold sS;rw [<- List.append_assoc,List.replicate_append_replicate]
theorem gU {d z:D} {n:Nat} (h:1<=n):[[d]].take (min n 1)++ (List.replicate n [z]).drop (min n 1)= sS d z n 1:=by
 rw [Nat.min_eq_right h,List.drop_replicate];rfl
theorem aOj {d:D} (hd:d.isPure=true) (h1:d.one=true) {n:Nat} (hn:1<=n/\n<=64):xX Tryz.prog 131 [.sl 1 [[d]],.int .i64 (n:Int)] St0 (.osl 0 1 n) ⟨1,[(0,⟨1,List.replicate n [d]⟩)]⟩:=by
 have hM:=aIp hn.2;have hw:=aHn (n:=n) (by omega);have hw1:IntKind.u64.wrap ((1:Nat):Int)= 1:=by decide
 have hw2:IntKind.i64.wrap (n:Int)= (n:Int):=wrap_i64 (by omega);have hneg:¬ ((n:Int)<0):=by omega
 refine xX.go_fn mixed Tryz.func131 bY2 (by simp) fun hf=>?_;simp only [ZA,ZB,ZC,ZD,ZE,↓reduceIte,ZF,ZG,ZH,ZI,ZJ,reduceCtorEq,ZK,↓zU,↓zD,zV,zT,zW,hneg,hw1,hw,show (1:Nat)= 1 from rfl];simp only [aBl,aBm,show IntKind.u64.wrap 1=1 from by decide] at *;refine .go (cr hM) ?_;have hz:¬ (ui 0#64<ui 0#64):=Int.lt_irrefl _;have hb:¬ ((9223372036854775807:Int)<(n:Int)):=by omega
 have hp1:D.isPureL [d]=true:=by simp [D.isPureL,hd]
 simp only [ZA,ZB,ZC,ZD,ZE,↓reduceIte,ZF,ZG,ZH,ZI,ZJ,reduceCtorEq,ZK,↓zU,↓zD,zV,zT,zW,hz,hb,hw2,h1];refine⟨by omega,by omega,by simp,by omega,?_⟩;rw [Nat.min_eq_right hn.1];have hstart:=gU (d:=d) (z:=D.int .i64 0) hn.1;rw [Nat.min_eq_right hn.1] at hstart;have hlr:(List.replicate n [D.int .i64 0]).length=n:=by simp
 refine xV (fun c:Nat=>[(8,.int .i64 c),(7,.osl 0 1 n)]) (fun c=>⟨1,[(0,⟨1,sS d (D.int .i64 0) n c⟩)]⟩) (fun c=>1<=c/\c<=n) (fun c=>n-c) 1 ⟨Nat.le_refl _,hn.1⟩ ?_ ?_
 ·rw [<- hstart]
  (refine xM.same ?_; simp [xR,Fr.get])
 intro c ⟨hc1,hc2⟩;refine xQ mixed ?_;have hL:=aXs (d:=d) (z:=D.int .i64 0) hc2
 by_cases hcn:c<n
 ·have hd1:((c:Int)<(n:Int)):=by omega
  simp only [ZA,ZB,ZC,ZD,ZE,↓reduceIte,ZF,ZG,ZH,ZI,ZJ,reduceCtorEq,ZK,↓zU,↓zD,zV,zT,zW,hd1];have i1:¬ ((c:Int)= 0):=by omega
  have i2:¬ ((c:Int)= (n:Int)):=by omega
  have hst:=eO (d:=d) (z:=D.int .i64 0) hcn;have htk:=lS (d:=d) (z:=D.int .i64 0) (n:=n) (c:=c);generalize sS d (D.int .i64 0) n c=els at hL hst htk ⊢;refine⟨(c:Int),(n:Int),rfl,rfl,by omega,by omega,by omega,0,(c:Int),rfl,rfl,by omega,by omega,by omega,?_⟩;simp only [↓reduceIte,if_neg i1,if_neg i2,Int.toNat_natCast];first | rw [if_pos ⟨trivial,by omega⟩] | rw [aVo (by omega)]
  refine⟨fun r hr=>?_,trivial,trivial,by omega,?_⟩
  ·rw [htk] at hr;rw [List.eq_of_mem_replicate hr];simp [h1]
  have hm:(min (n-c) (els.take c).length)= min (n-c) c:=by rw [List.length_take]; omega
  rw [hm];have em:(n:Int).toNat-c=n-c:=by omega
  refine⟨by omega,c+min (n-c) c,⟨by omega,by omega⟩,?_,by omega⟩;rw [hst]
  (refine xM.same ?_; simp only [xR,Fr.get,↓reduceIte,reduceIte,Nat.reduceEqDiff,reduceCtorEq,D.int.injEq,D.bool.injEq,D.sl.injEq,and_true,true_and,and_self])
  rw [wrap_i64 (by omega)];omega
 ·have hd1:¬ ((c:Int)<(n:Int)):=by omega
  obtain rfl:c=n:=by omega
  have he:sS d (D.int .i64 0) c c=List.replicate c [d]:=by simp [sS]
  rw [he];simp only [ZA,ZB,ZC,ZD,ZE,↓reduceIte,ZF,ZG,ZH,ZI,ZJ,reduceCtorEq,ZK,↓zU,↓zD,zV,zT,zW,hd1];exact .same
theorem aOi {d:D} (hd:d.isPure=true) (h1:d.one=true) {n:Nat} (hn:1<=n/\n<=64):xX Tryz.prog 224 [.sl 1 [[d]],.int .i64 (n:Int)] St0 (.osl 0 1 n) ⟨1,[(0,⟨1,List.replicate n [d]⟩)]⟩:=by
 have hM:=aIp hn.2;have hw:=aHn (n:=n) (by omega);have hw1:IntKind.u64.wrap ((1:Nat):Int)= 1:=by decide
 have hw2:IntKind.i64.wrap (n:Int)= (n:Int):=wrap_i64 (by omega);have hneg:¬ ((n:Int)<0):=by omega
 refine xX.go_fn mixed Tryz.func224 bXv (by simp) fun hf=>?_;simp only [ZA,ZB,ZC,ZD,ZE,↓reduceIte,ZF,ZG,ZH,ZI,ZJ,reduceCtorEq,ZK,↓zU,↓zD,zV,zT,zW,hneg,hw1,hw,show (1:Nat)= 1 from rfl];simp only [aBl,aBm,show IntKind.u64.wrap 1=1 from by decide] at *;refine .go (cr hM) ?_;have hz:¬ (ui 0#64<ui 0#64):=Int.lt_irrefl _;have hb:¬ ((9223372036854775807:Int)<(n:Int)):=by omega
 have hp1:D.isPureL [d]=true:=by simp [D.isPureL,hd]
 simp only [ZA,ZB,ZC,ZD,ZE,↓reduceIte,ZF,ZG,ZH,ZI,ZJ,reduceCtorEq,ZK,↓zU,↓zD,zV,zT,zW,hz,hb,hw2,h1];refine⟨by omega,by omega,by simp,by omega,?_⟩;rw [Nat.min_eq_right hn.1];have hstart:=gU (d:=d) (z:=D.nils) hn.1;rw [Nat.min_eq_right hn.1] at hstart;have hlr:(List.replicate n [D.nils]).length=n:=by simp
 refine xV (fun c:Nat=>[(8,.int .i64 c),(7,.osl 0 1 n)]) (fun c=>⟨1,[(0,⟨1,sS d (D.nils) n c⟩)]⟩) (fun c=>1<=c/\c<=n) (fun c=>n-c) 1 ⟨Nat.le_refl _,hn.1⟩ ?_ ?_
 ·rw [<- hstart]
  (refine xM.same ?_; simp [xR,Fr.get])
 intro c ⟨hc1,hc2⟩;refine xQ mixed ?_;have hL:=aXs (d:=d) (z:=D.nils) hc2
 by_cases hcn:c<n
 ·have hd1:((c:Int)<(n:Int)):=by omega
  simp only [ZA,ZB,ZC,ZD,ZE,↓reduceIte,ZF,ZG,ZH,ZI,ZJ,reduceCtorEq,ZK,↓zU,↓zD,zV,zT,zW,hd1];have i1:¬ ((c:Int)= 0):=by omega
  have i2:¬ ((c:Int)= (n:Int)):=by omega
  have hst:=eO (d:=d) (z:=D.nils) hcn;have htk:=lS (d:=d) (z:=D.nils) (n:=n) (c:=c);generalize sS d (D.nils) n c=els at hL hst htk ⊢;refine⟨(c:Int),(n:Int),rfl,rfl,by omega,by omega,by omega,0,(c:Int),rfl,rfl,by omega,by omega,by omega,?_⟩;simp only [↓reduceIte,if_neg i1,if_neg i2,Int.toNat_natCast];first | rw [if_pos ⟨trivial,by omega⟩] | rw [aVo (by omega)]
  refine⟨fun r hr=>?_,trivial,trivial,by omega,?_⟩
  ·rw [htk] at hr;rw [List.eq_of_mem_replicate hr];simp [h1]
  have hm:(min (n-c) (els.take c).length)= min (n-c) c:=by rw [List.length_take]; omega
  rw [hm];have em:(n:Int).toNat-c=n-c:=by omega
  refine⟨by omega,c+min (n-c) c,⟨by omega,by omega⟩,?_,by omega⟩;rw [hst]
  (refine xM.same ?_; simp only [xR,Fr.get,↓reduceIte,reduceIte,Nat.reduceEqDiff,reduceCtorEq,D.int.injEq,D.bool.injEq,D.sl.injEq,and_true,true_and,and_self])
  rw [wrap_i64 (by omega)];omega
 ·have hd1:¬ ((c:Int)<(n:Int)):=by omega
  obtain rfl:c=n:=by omega
  have he:sS d (D.nils) c c=List.replicate c [d]:=by simp [sS]
  rw [he];simp only [ZA,ZB,ZC,ZD,ZE,↓reduceIte,ZF,ZG,ZH,ZI,ZJ,reduceCtorEq,ZK,↓zU,↓zD,zV,zT,zW,hd1];exact .same
theorem aGz (n:Nat):List.replicate n [D.int .i64 (-1)]=rows .i64 (List.replicate n (-1)):=by simp [rows]
theorem aGp (n:Nat):List.replicate n [D.sl 1 (us [1#64])]=rr (List.replicate n [1#64]):=by simp [rr,aEm]
open Rs Fm Ru Te
namespace Te
theorem aNj {A F:Nat} {c:List Nd} (hv:zB c) (h:∀ p ∈ c,rP A F p=true):∀ i,i<c.length->tL A F (tree c i)= true:=by
 intro i
 induction i using Nat.strongRecOn with
 | _ i ih=>
  intro hi;obtain⟨ox,oy,_,_⟩:=uV (hv i hi);have hs:=h (c.getD i nd0) (by rw [List.getD,List.getElem?_eq_getElem hi]; exact List.getElem_mem hi);rw [uP hv hi];show (rP A F _&&(tL A F _&&tL A F _))= true;rw [show rP A F ⟨(c.getD i nd0).op,(c.getD i nd0).i,(c.getD i nd0).e,(c.getD i nd0).g,0,0⟩= rP A F (c.getD i nd0) from rfl,hs,Bool.true_and,Bool.and_eq_true]
  constructor
  ·split
   ·rename_i hx; have:=ox hx; exact ih _ (by omega) (by omega)
   ·rfl
  ·split
   ·rename_i hy; have:=oy hy; exact ih _ (by omega) (by omega)
   ·rfl
theorem aP4 {A F:Nat} {p:Nd} {k:Int} (hn:yJ p k=0) (ho:okN A F p=true) (ht:tB p &&& 256=0):rP A F p=true:=by
 unfold okN at ho;simp only [Bool.and_eq_true,decide_eq_true_eq] at ho;obtain⟨⟨h1,h2⟩,h3⟩:=ho
 have hi0:p.op=3\/p.op=9\/p.op=10->0<=p.i:=fun h=>by
  rcases h with h | h | h
  ·exact(pB hn (by rw [h]; rfl)).1
  ·exact(vB hn (by rw [h]; rfl)).1
  ·exact(vB hn (by rw [h]; rfl)).1
 have hg0:=nZ hn;have hu:=(zO.1 hn).1
 have lt_of:∀ {a b:Nat},2 ^ a / 2 ^ b=0->a<b:=fun {a b} h=>Decidable.byContradiction fun hh=>by
  have:=Nat.pow_le_pow_right (n:=2) (by decide) (show b<=a by omega);have:=Nat.div_pos this (Nat.two_pow_pos b);omega
 obtain⟨op,i,e,g,a,b⟩:=p;simp only at hi0 hg0 hu
 rcases vP op with rfl | rfl | rfl | rfl | rfl | rfl | rfl | rfl | rfl | rfl | rfl | rfl | rfl | rfl | rfl | rfl | rfl | rfl | rfl | rfl | rfl | h | h
 ·rfl
 ·rfl
 ·have h3:2 ^ i.toNat / 2 ^ F=0:=h3;have:=lt_of h3;have h0:=hi0 (.inl rfl);show decide (i<(F:Int))= true;exact decide_eq_true (by omega)
 ·rfl
 ·rfl
 ·rfl
 ·rfl
 ·rfl
 ·have h2:2 ^ i.toNat / 2 ^ A=0:=h2;have:=lt_of h2;have h0:=hi0 (.inr (.inl rfl));show decide (i<(A:Int))= true;exact decide_eq_true (by omega)
 ·have h2:2 ^ i.toNat / 2 ^ A=0:=h2;have:=lt_of h2;have h0:=hi0 (.inr (.inr rfl));show decide (i<(A:Int))= true;exact decide_eq_true (by omega)
 iterate 3
  ·have h2:g.toNat / 2 ^ A=0:=h2;have:=(Nat.div_eq_zero_iff.1 h2).resolve_left (by have:=Nat.two_pow_pos A; omega);show decide (g<((2 ^ A:Nat):Int))= true;exact decide_eq_true (by omega)
 ·exact absurd h1 (show ¬ (16:Nat)&&& 3824=0 by decide)
 ·exact absurd h1 (show ¬ (32:Nat)&&& 3824=0 by decide)
 ·exact absurd h1 (show ¬ (64:Nat)&&& 3824=0 by decide)
 ·exact absurd h1 (show ¬ (128:Nat)&&& 3824=0 by decide)
 iterate 4
  ·exact absurd ht (show ¬ (256:Nat)&&& 256=0 by decide)
 ·rw [zP (.inl h)] at hu; cases hu
 ·rw [zP (.inr h)] at hu; cases hu
theorem aC5 {a b:Nat} (ha:a<2 ^ 62) (hb:b<2 ^ 62):rM .and .i64 (a:Int) (b:Int)= ((a &&& b:Nat):Int):=by
 show IntKind.i64.wrap ((BitVec.ofInt 64 (a:Int)&&& BitVec.ofInt 64 (b:Int)).toNat:Int)= _;rw [BitVec.ofInt_natCast,BitVec.ofInt_natCast,BitVec.toNat_and,BitVec.toNat_ofNat,BitVec.toNat_ofNat,Nat.mod_eq_of_lt (by omega),Nat.mod_eq_of_lt (by omega)];have:a &&& b<=a:=Nat.and_le_left;exact wrap_i64 (by omega)
theorem aXp {n:Nat} (h:n<4096):(rM .and .i64 (n:Int) 256 != 0)= !decide (n &&& 256=0):=by
 have e:=aC5 (a:=n) (b:=256) (by omega) (by decide);rw [show ((256:Nat):Int)= 256 from rfl] at e;rw [e];generalize n &&& 256=z
 by_cases hz:z=0
 ·subst hz; rfl
 ·rw [decide_eq_false hz];have:((z:Int) != 0)= true:=by rw [bne_iff_ne]; omega
  rw [this]; rfl
theorem aNh {n:Nat} (h:n<4096) (h1:n &&& 3824=0) (h2:n &&& 256=0):(rM .andNot .i64 (n:Int) 15 != 0)= false:=by
 have h16:∀ n:Fin 4096,n.val &&& 3824=0->n.val &&& 256=0->n.val<16:=by decide +kernel
 have:∀ n:Fin 16,(rM .andNot .i64 ((n.val:Nat):Int) 15 != 0)= false:=by decide +kernel
 exact this ⟨n,h16 ⟨n,h⟩ h1 h2⟩
theorem nW (f:List Nd):zS f<4096:=by
 refine sQ fun p _=>?_;have:=mK p.op;unfold tB; omega
theorem aZ5 {s:bP} {A F T:Nat} {rs:List wP} (hs:s=⟨A,F,T,rs⟩) (hz:chk s=0) (ok:OkR rs A F T) {f:List Nd} (hE:aIa s f=0) (ht:zS f &&& 256=0) :
  tL A F (kX f)= true/\(rM .andNot .i64 (zS f:Int) 15 != 0)= false/\sT f A F=true:=by
 have hc:=(req_zero hE).2;have hN:=(aGe hs hz ok hc).1 hE
 have hT:∀ p ∈ xJ f,tB p &&& 256=0:=by
  have:=ht;unfold zS at this
  rwa [sO (φ:=fun n=>n &&& 256) (by decide) (fun a b=>Nat.and_or_distrib_right a b 256),tP] at this
 have h38:zS f &&& 3824=0:=by
  unfold zS;rw [sO (φ:=fun n=>n &&& 3824) (by decide) (fun a b=>Nat.and_or_distrib_right a b 3824),tP];intro p hp;have:=hN p hp;unfold okN at this;simp only [Bool.and_eq_true,decide_eq_true_eq] at this;exact this.1.1
 refine⟨?_,aNh (nW f) h38 ht,?_⟩
 ·have hl:=aRb hc;rw [<- (aYt hc).1];refine aNj (bH f) (fun p hp=>?_) _ (by omega);obtain⟨k,hk⟩:=oD (lL f _) hp;exact aP4 hk (hN p hp) (hT p hp)
 ·unfold aIa at hE;rw [if_neg (by simpa using hz),if_neg (by simpa using hc),cL (nW f),if_neg (by simp [h38])] at hE;subst hs
  cases hf:sT f A F with
  | true=>rfl
  | false=>simp only [hf,↓reduceIte] at hE; cases hE
end Te
namespace Kb
theorem aCr : ∀ n:Fin 4096,(rM .andNot .i64 ((n.val:Nat):Int) 15 != 0)= false->n.val<16:=by decide +kernel
theorem aAi : ∀ n:Fin 4096,(rM .andNot .i64 ((n.val:Nat):Int) 0 != 0)= false->n.val=0:=by decide +kernel
end Kb
open Ru
namespace Ru
def aRy (rs:List wP) (a r t:Nat):List Int:=(List.range t).map fun i=>uQ rs a (r,i)
end Ru
open Ru
namespace Ru
theorem iO {α:Type} (a b:List α) (d:α) {n:Nat} (h:n<a.length):(a++b).getD n d=a.getD n d:=by
 simp [List.getD,List.getElem?_append_left h]
end Ru
theorem aFw {c:List (BitVec 64)} (hc:c.length<=1000) (h0:0<c.length):yX Tryz.prog 122 [.sl 1 (us c)] (.sl 1 (us c)):=by
 obtain⟨x,l,rfl⟩:∃ x l,c=x :: l:=by
  cases c with
  | nil=>simp at h0
  | cons x l=>exact⟨x,l,rfl⟩
 refine xX.go_fn mixed Tryz.func122 aA5 (by simp) fun hf=>?_;have hl:(us (x :: l)).length=l.length+1:=by simp [us]
 have h1:=aR9 (x :: l);have e:us (x :: l)= [.int .u64 (ui x)] :: us l:=rfl;simp only [List.length_cons] at hc;rw [e] at hl h1 ⊢;simp only [ZA,ZB,ZC,ZD,ZE,↓reduceIte,ZF,ZG,ZH,ZI,ZJ,reduceCtorEq,ZK,↓zU,↓zD,zV,zT,zW];refine⟨by simp,h1,by omega,by omega,.drop (by simp) ?_⟩;have hp:=sY (x :: l);rw [e] at hp;have ht:([D.int .u64 (ui x)] :: us l).take (l.length+1)= [D.int .u64 (ui x)] :: us l:=by rw [<- hl,List.take_length]
 simp only [vw];exact⟨trivial,by decide,by simp,⟨1,[D.int .u64 (ui x)] :: us l⟩,rfl,rfl,by simp only; omega,ht.symm,hp⟩
open Ru
namespace Ru
def aDg (kf:Nat->Nat × Nat->List Int) (l:List (Nat × Nat)) (a:Nat) (p:Nat × Nat):Int:=below (dedup (aYz (l.map (kf a)))) (kf a p)
def aEp (rs:List wP) (A T:Nat) (num:Nat->Nat × Nat->Int):List wP:=
 (List.range rs.length).map fun i=>⟨(List.range T).map fun t=>(List.range A).map fun a=>num a (i,t),(rs.getD i mW).fac⟩
end Ru
open Ru
namespace Ru
end Ru
open Ru
theorem kC {l:List (List Int)}:∀ {k:Nat} {x:List Int},x ∈ uH l k ↔ ∃ i,i<k/\l.getD i []=x
 | 0,x=>by simp [uH]
 | k+1,x=>by
  rw [uH]
  by_cases h:0<k/\l.getD k []=l.getD (k-1) []
  ·rw [if_pos h,kC];refine⟨fun⟨i,hi,e⟩=>⟨i,by omega,e⟩,fun⟨i,hi,e⟩=>?_⟩
   by_cases ei:i=k
   ·exact⟨k-1,by omega,by rw [<- h.2,<- ei]; exact e⟩
   ·exact⟨i,by omega,e⟩
  ·rw [if_neg h,List.mem_append,kC,List.mem_singleton];refine⟨fun c=>c.elim (fun⟨i,hi,e⟩=>⟨i,by omega,e⟩) (fun e=>⟨k,by omega,e.symm⟩),fun⟨i,hi,e⟩=>?_⟩
   by_cases ei:i=k
   ·exact .inr (by rw [<- e,ei])
   ·exact .inl ⟨i,by omega,e⟩
theorem aQh {l:List (List Int)} (h:asc l) {i j:Nat} (hij:i<j) (hj:j<l.length):¬ kc (l.getD j []) (l.getD i [])<0:=by
 have:=List.pairwise_iff_getElem.1 h i j (by omega) hj hij;simpa [List.getD,hj,show i<l.length by omega] using this
theorem rT {l:List (List Int)} (h:asc l):∀ {k:Nat},k<=l.length->(uH l k).Pairwise fun a b=>kc a b<0
 | 0,_=>List.Pairwise.nil
 | k + 1,hk=>by
  rw [uH]
  by_cases c:0<k/\l.getD k []=l.getD (k-1) []
  ·rw [if_pos c]; exact rT h (by omega)
  ·rw [if_neg c];refine List.pairwise_append.2 ⟨rT h (by omega),List.pairwise_singleton _ _,fun x hx y hy=>?_⟩;rw [List.mem_singleton] at hy;subst hy;obtain⟨i,hi,rfl⟩:=kC.1 hx;have h1:=aQh h hi (show k<l.length by omega)
   by_cases e:kc (l.getD i []) (l.getD k [])<0
   ·exact e
   ·exfalso;have eq:l.getD i []=l.getD k []:=aZq h1 e
    by_cases e2:i=k-1
    ·exact c ⟨by omega,by rw [<- eq,e2]⟩
    ·have h2:=aQh h (show i<k-1 by omega) (show k-1<l.length by omega);have h3:=aQh h (show k-1<k by omega) (show k<l.length by omega);rw [eq] at h2;exact c ⟨by omega,aZq h3 h2 |>.symm⟩
theorem aNq {l:List (List Int)} (h:asc l):asc (dedup l):=by
 have:=rT h (Nat.le_refl l.length);exact this.imp fun {a b} h=>by have:=pA a b; omega
theorem aWm {l:List (List Int)} (h:asc l):(dedup l).Nodup:=by
 have:=rT h (Nat.le_refl l.length);refine this.imp fun {a b} h e=>?_;rw [e,aQ2] at h;omega
theorem aNp {l:List (List Int)} {x:List Int}:x ∈ dedup l ↔ x ∈ l:=by
 unfold dedup;rw [kC]
 constructor
 ·rintro ⟨i,hi,rfl⟩; exact xN hi
 ·intro h;obtain⟨i,hi,e⟩:=List.mem_iff_getElem.1 h;exact⟨i,hi,by simp [List.getD,hi,e]⟩
open Ru
theorem aQx {rs:List wP} {A F T:Nat} (ok:OkR rs A F T):chk ⟨A,F,T,rs⟩= 0:=by
 obtain⟨h1,h2,h3,h4,h5,h6,h7,h8,h9⟩:=ok;unfold chk;simp only;have hp:((rs.length*T:Nat):Int)<=512:=by omega
 rw [Int.natCast_mul] at hp
 rw [if_neg (by omega),if_neg (by omega),if_neg (by omega),if_neg,if_neg]
 ·rw [Bool.not_eq_true,List.any_eq_false];intro r hr;simp only [aA7,Int.toNat_natCast,List.any_eq_true,not_exists,not_and];intro f hf;simp [h9 r hr f hf]
 ·rw [Bool.not_eq_true,List.any_eq_false];intro r hr;have hrow:=h8 r hr;simp only [aA8,h6 r hr,h7 r hr,decide_true,Bool.not_true,Bool.false_or,List.any_eq_true,not_exists,not_and];intro l hl;simp [hrow l hl]
open Ru
namespace Ru
def aBi (rs:List wP) (A T:Nat) (kf:Nat->Nat × Nat->List Int):List wP:=aEp rs A T (aDg kf (ptN T (rs.length*T)))
theorem aL2 (rs:List wP) (A T:Nat) (num:Nat->Nat × Nat->Int):(aEp rs A T num).length=rs.length:=by simp [aEp]
theorem aL3 {rs:List wP} {A T:Nat} {num:Nat->Nat × Nat->Int} {i:Nat} (h:i<rs.length):(aEp rs A T num).getD i mW=⟨(List.range T).map fun t=>(List.range A).map fun a=>num a (i,t),(rs.getD i mW).fac⟩:=by
 simp [aEp,List.getD,h]
theorem aGh {T R:Nat} {p:Nat × Nat} (hp:p.1<R/\p.2<T):p ∈ ptN T (R*T):=by
 obtain⟨r,t⟩:=p;simp only at hp;simp only [ptN,List.mem_map,List.mem_range];have hm:=Nat.mul_le_mul_right T (show r+1<=R from hp.1);rw [Nat.succ_mul] at hm;refine⟨r*T+t,by omega,?_⟩;rw [Nat.mul_comm,Nat.mul_add_div (by omega),Nat.div_eq_of_lt hp.2,Nat.mul_add_mod,Nat.mod_eq_of_lt hp.2];rfl
theorem aL4 (rs:List wP) (A T:Nat) (kf:Nat->Nat × Nat->List Int):(aBi rs A T kf).length=rs.length:=aL2 _ _ _ _
end Ru
open Rs Fm Ru Te Kb
namespace Kb
theorem aR {rs:List wP} {A F T:Nat} (ok:OkR rs A F T) {f:List Nd} (hc:xH f=0) (hfr:(rM .andNot .i64 (zS f:Int) 15 != 0)= false) (hft:sT f A F=true):tL A F (kX f)= true:=by
 have h16:zS f<16:=aCr ⟨zS f,nW f⟩ hfr;have ha:∀ n:Fin 16,n.val &&& 3824=0/\n.val &&& 256=0:=by decide
 have hE:aIa ⟨A,F,T,rs⟩ f=0:=by
  unfold aIa;rw [if_neg (by simpa using aQx ok),if_neg (by simpa using hc),cL (nW f),if_neg (by simp [(ha ⟨zS f,h16⟩).1])];simp only;rw [if_neg (by rw [hft]; simp)]
 exact(aZ5 rfl (aQx ok) ok hE (ha ⟨zS f,h16⟩).2).1
theorem aQ8 {p:PrA} {f:List Nd} {fr:Int} (h:fmE p f fr=0):xH f=0/\(rM .andNot .i64 (zS f:Int) fr != 0)= false/\sT f p.see.length p.F=true:=by
 unfold fmE at h
 by_cases h1:xH f=0
 ·rw [if_neg (by simpa using h1)] at h
  cases h2:(rM .andNot .i64 (zS f:Int) fr != 0) with
  | true=>rw [h2,if_pos rfl] at h; cases h
  | false=>
   rw [h2,if_neg (by simp)] at h
   cases h3:sT f p.see.length p.F with
   | true=>exact⟨h1,rfl,rfl⟩
   | false=>rw [h3] at h; cases h
 ·rw [if_pos h1] at h; exact absurd h h1
structure PlG (p : PrA) (F : Nat) (sts : List (List (BitVec 64))) (t : Nat) : Prop where
 fe:p.F=(F:Int)
 hF:F<=8
 hA:1<=p.see.length/\p.see.length<=4
 hR:1<=sts.length/\sts.length<=16
 len:∀ st ∈ sts,t<st.length
 ht:t<=1000
 val:∀ st ∈ sts,∀ s ∈ st,s >>> F=0#64
theorem PlG.ok {p:PrA} {F:Nat} {sts:List (List (BitVec 64))} {t:Nat} (h:PlG p F sts t):bXc p F sts t:=⟨h.fe,h.hF,h.hA.2,by have:=h.hR.2; omega,h.len,h.ht⟩
theorem PlG.time {p:PrA} {F:Nat} {sts:List (List (BitVec 64))} {t:Nat} (h:PlG p F sts t):OkR (wU p.see sts t) p.see.length F 1:=
 aH2 h.hA.2 h.hF ⟨h.hR.1,by have:=h.hR.2; omega⟩ fun w hw=>h.val _ (xN hw) _ (xN (h.len _ (xN hw)))
def aBd (see:List (BitVec 64)) (sts:List (List (BitVec 64))) (t:Nat) (f:List Nd) (v:Nat):Bool:=evT (wU see sts t) see.length 1 (kX f) (v,0)
def knT (see:List (BitVec 64)) (sts:List (List (BitVec 64))) (t a:Nat) (f:List Nd) (w:Nat):Bool:=
 (List.range sts.length).all fun v=>!decide (vK see (stR sts v) a t=vK see (stR sts w) a t) || aBd see sts t f v
def aBg (see:List (BitVec 64)) (sts:List (List (BitVec 64))) (t:Nat) (f:List Nd):BitVec 64:=qM 1 sts.length (evT (wU see sts t) see.length 1 (kX f))
def presL (see:List (BitVec 64)) (sts:List (List (BitVec 64))) (t a w:Nat):List ClA->Int
 | []=>-1
 | c :: r=>if knT see sts t a c.test w=true then c.mv else presL see sts t a w r
def presA (p:PrA) (sts:List (List (BitVec 64))) (t a w:Nat):Int:=presL p.see sts t a w (p.code.getD a [])
def presM (p:PrA) (sts:List (List (BitVec 64))) (t:Nat):List (List Int):=(List.range p.see.length).map fun a=>(List.range sts.length).map fun w=>presA p sts t a w
def sU (A:Nat) (s:BitVec 64):List wP:=[⟨[List.replicate A 0],[s]⟩]
def aBs (A:Nat) (f:List Nd) (s:BitVec 64):Bool:=evT (sU A s) A 1 (kX f) (0,0)
def aR0 (A:Nat) (s0:BitVec 64) (out:BitVec 64) (a:AsA):BitVec 64:=out &&& ~~~(1#64 <<< a.fact.toNat) ||| (if aBs A a.to s0=true then 1#64 <<< a.fact.toNat else 0#64)
def aRt (p:PrA) (s0:BitVec 64) (out:BitVec 64) (k:Int):BitVec 64:=if k<0 then out else(p.moves.getD k.toNat []).foldl (aR0 p.see.length s0) out
def aDa (p:PrA) (s0:BitVec 64) (mv:List Int):BitVec 64:=mv.foldl (aRt p s0) s0
theorem aH5 {A F:Nat} {s:BitVec 64} (hA:A<=4) (hF:F<=8) (hs:s >>> F=0#64):OkR (sU A s) A F 1 where
 hA:=hA
 hF:=hF
 hT:=⟨by omega,by omega⟩
 hR:=⟨by simp [sU],by simp [sU]⟩
 hP:=by simp [sU]
 loc:=fun r hr=>by simp only [sU,List.mem_singleton] at hr; subst hr; rfl
 fac:=fun r hr=>by simp only [sU,List.mem_singleton] at hr; subst hr; rfl
 row:=fun r hr l hl=>by
  simp only [sU,List.mem_singleton] at hr; subst hr;simp only [List.mem_singleton] at hl; subst hl;simp
 val:=fun r hr x hx=>by
  simp only [sU,List.mem_singleton] at hr; subst hr;simp only [List.mem_singleton] at hx; subst hx;exact hs
end Kb
theorem aFi {p:PrA} {F:Nat} {sts:List (List (BitVec 64))} {t:Nat} (h:PlG p F sts t) {f:List Nd} (hE:fmE p f 15=0):yX Tryz.prog 54 [aMn p.see sts t F,.sl 6 (ndR f)] (.tup [.int .u64 (ui (aBg p.see sts t f)),.int .i64 0]):=by
 obtain⟨h1,h2,h3⟩:=aQ8 hE;rw [h.fe] at h3;have ok:=h.time;have hl:(wU p.see sts t).length*1=sts.length:=by rw [nN,Nat.mul_one]
 have hh:=aU1 ok (by rw [hl]; have:=h.hR.2; omega) h1 h2 h3;unfold aTd at hh;rw [if_pos (aR ok h1 h2 h3),hl,aLc] at hh;exact hh
theorem aLo {p:PrA} {F:Nat} {sts:List (List (BitVec 64))} {t:Nat} (h:PlG p F sts t) {a w:Nat} (ha:a<p.see.length) (hw:w<sts.length) (f:List Nd) :
  (Ru.relK (wU p.see sts t) (vX sts.length 0) a (uQ (wU p.see sts t) a (w,0)) sts.length &&& ~~~aBg p.see sts t f==0#64)= knT p.see sts t a f w:=by
 have hR:=h.hR.2;rw [Bool.eq_iff_iff,aQr];unfold knT aBg;simp only [List.all_eq_true,List.mem_range]
 constructor
 ·intro hh v hv
  by_cases e:vK p.see (stR sts v) a t=vK p.see (stR sts w) a t
  ·have h1:=hh v (by omega);rw [oA _ _ (by omega),qY hv,xC (by omega)] at h1;have h2:=(dB (t:=t) ha hv hw).2 e;simp only [decide_eq_true hv,decide_eq_true h2,Bool.true_and,true_implies] at h1;unfold aBd;rw [decide_eq_true e,show pt 1 v=(v,0) by unfold pt; rw [Nat.div_one,Nat.mod_one]] at *;rw [h1]; rfl
  ·rw [decide_eq_false e]; rfl
 ·intro hh v hv hb;rw [oA _ _ (by omega)] at hb;simp only [Bool.and_eq_true,decide_eq_true_eq] at hb;obtain⟨hv2,hb⟩:=hb;rw [qY hv2] at hb;have h1:=hh v hv2;rw [decide_eq_true ((dB (t:=t) ha hv2 hw).1 hb)] at h1;rw [xC (by omega),decide_eq_true hv2,show pt 1 v=(v,0) by unfold pt; rw [Nat.div_one,Nat.mod_one]];simpa [aBd] using h1
open Rs Fm Ru Te Kb
namespace Kb
structure PrV (p : PrA) (F : Nat) : Prop where
 fe:p.F=(F:Int)
 hF:F<=8
 hA:1<=p.see.length/\p.see.length<=4
 hI:1<=p.init.length/\p.init.length<=16
 hM:p.moves.length<=8
 hC:p.code.length=p.see.length
 cl:∀ l ∈ p.code,l.length<=6
 init:∀ s ∈ p.init,s >>> F=0#64
 see:∀ s ∈ p.see,s >>> F=0#64
 asc:aMe p.init=true
 ascm:∀ m ∈ p.moves,aY0 m=true
 mv:∀ m ∈ p.moves,∀ a ∈ m,asE p a=0
 code:∀ l ∈ p.code,∀ c ∈ l,clE p c=0
theorem fF {p:PrA} {F:Nat} (h:p.F=(F:Int)) {s:BitVec 64} (hs:oM p s=false):s >>> F=0#64:=by
 unfold oM at hs;rw [h] at hs;simpa using hs
theorem aX3 {p:PrA} (h:uD p=0):∃ F,PrV p F:=by
 unfold uD at h
 split at h
 ·rename_i h0; exact absurd h h0
 rename_i h0;have h0:yG p=0:=by simpa using h0
 split at h
 ·rename_i h1; exact absurd h h1
 rename_i h1;have h1:wS (wS (asE p)) p.moves=0:=by simpa using h1
 unfold yG at h0
 split at h0
 ·cases h0
 rename_i q1
 split at h0
 ·cases h0
 rename_i q2
 split at h0
 ·cases h0
 rename_i q3
 split at h0
 ·cases h0
 rename_i q4;simp only [not_or] at q1 q2 q3 q4;obtain⟨F,hF⟩:∃ F:Nat,p.F=(F:Int):=⟨p.F.toNat,by omega⟩
 refine⟨F,hF,by omega,by omega,by omega,by omega,by have:=q3.2.2.1; omega,fun l hl=>?_,fun s hs=>fF hF ?_,fun s hs=>fF hF ?_,by simpa using q4.1,fun m hm=>?_,fun m hm a ha=>?_,fun l hl c hc=>?_⟩
 ·have:=List.any_eq_false.1 (Bool.eq_false_iff.2 q2.2.2.2) l hl;simpa using this
 ·have:=List.any_eq_false.1 (Bool.eq_false_iff.2 q3.2.2.2.1) s hs;simpa using this
 ·have:=List.any_eq_false.1 (Bool.eq_false_iff.2 q3.2.2.2.2) s hs;simpa using this
 ·have:=List.any_eq_false.1 (Bool.eq_false_iff.2 q4.2) m hm;simpa using this
 ·exact uU.1 (uU.1 h1 m hm) a ha
 ·exact uU.1 (uU.1 h l hl) c hc
theorem aJ1 {p:PrA} {F:Nat} (h:PrV p F) {m:List AsA} (hm:m ∈ p.moves):m.length<=8:=by
 have ha:=aJ2.1 (h.ascm m hm)
 have hf:∀ i,i<m.length->0<=(m.getD i as0).fact/\(m.getD i as0).fact<F:=fun i hi=>by
  have:=h.mv m hm _ (xN (d:=as0) hi);unfold asE at this
  split at this
  ·cases this
  ·rename_i q; have:=h.fe; omega
 have hg:∀ i,i<m.length->(m.map (·.fact)).getD i 0=(m.getD i as0).fact:=fun i hi=>by simp [List.getD,hi]
 have key:∀ i,i<m.length->(i:Int)<=(m.getD i as0).fact:=by
  intro i
  induction i with
  | zero=>intro hi; exact(hf 0 hi).1
  | succ i ih=>
   intro hi;have h1:=ih (by omega);have h2:=ha i (by simpa using hi);rw [hg i (by omega),hg (i+1) hi] at h2;omega
 by_cases h0:m.length=0
 ·omega
 ·have h1:=key (m.length-1) (by omega);have h2:=hf (m.length-1) (by omega);have:=h.hF;omega
end Kb
theorem aT2 (A F:Nat) (s:BitVec 64):aEs (sU A s) (vX 1 0) A F = .agg [.int .i64 1,.sl 1 (us ((List.range F).map fun i=>s >>> i &&& 1#64)),.sl 1 (rr (List.replicate A [1#64]))]:=by
 unfold aEs
 have h1:eC (sU A s) (vX 1 0) F=(List.range F).map fun i=>s >>> i &&& 1#64:=by
  refine List.map_congr_left fun i _=>?_;rw [aU3];show 0#64 ||| (if s.getLsbD i then 1#64 <<< 0 else 0#64)= _;cases s.getLsbD i <;> rfl
 have h2:oN (sU A s) (vX 1 0) A=List.replicate A [1#64]:=by
  refine List.eq_replicate_iff.2 ⟨by simp [oN],fun r hr=>?_⟩;simp only [oN,List.mem_map,List.mem_range] at hr;obtain⟨a,ha,rfl⟩:=hr;show [0#64 ||| (if uQ (sU A s) a (0,0)= uQ (sU A s) a (0,0) then 1#64 <<< 0 else 0#64)]=_;rw [if_pos rfl];rfl
 rw [h1,h2];rfl
theorem aLl (A:Nat) (f:List Nd) (s:BitVec 64) (n:Nat):qM 1 1 (evT (sU A s) A 1 (kX f)) <<< n=if aBs A f s=true then 1#64 <<< n else 0#64:=by
 show (0#64 ||| (if aBs A f s=true then 1#64 <<< 0 else 0#64)) <<< n=_;split <;> simp
theorem aT6 {n:Nat} (hn:1<=n/\n<=64):yX Tryz.prog 224 [.sl 1 [[.sl 1 (us [1#64])]],.int .i64 (n:Int)] (.sl 1 (rr (List.replicate n [1#64]))):=by
 have h:=aOi (d:=.sl 1 (us [1#64])) rfl rfl hn;rw [aGp] at h;exact xX.ret h (.drop (Nat.zero_le _) (aVz (by decide) (aZi _) (by simp [rr])))
open Rs Fm Ru Te Kb
theorem aU8 {p:PrA} {F:Nat} (h:p.F=(F:Int)) {a:AsA} (he:asE p a=0):0<=a.fact/\a.fact<F/\fmE p a.to 0=0:=by
 unfold asE at he
 split at he
 ·cases he
 ·rename_i q; exact⟨by omega,by omega,he⟩
theorem aP6 {p:PrA} {F:Nat} (h:PrV p F) {s:BitVec 64} (hs:s >>> F=0#64) {f:List Nd} (hE:fmE p f 0=0) :
  yX Tryz.prog 54 [aEs (sU p.see.length s) (vX 1 0) p.see.length F,.sl 6 (ndR f)] (.tup [.int .u64 (ui (qM 1 1 (evT (sU p.see.length s) p.see.length 1 (kX f)))),.int .i64 0]):=by
 obtain⟨h1,h2,h3⟩:=aQ8 hE;rw [h.fe] at h3;have h0:zS f=0:=aAi ⟨zS f,nW f⟩ h2;have h2':(rM .andNot .i64 (zS f:Int) 15 != 0)= false:=by rw [h0]; decide
 have ok:=aH5 (s:=s) h.hA.2 h.hF hs;have hh:=aU1 ok (by show 1*1<=64; omega) h1 h2' h3
 have e1:ptl (sU p.see.length s) 1=vX 1 0:=by
  simp [ptl,ptN,vX,sU,List.range_succ]
 have e2:(sU p.see.length s).length*1=1:=rfl;unfold aTd at hh;rw [if_pos (aR ok h1 h2' h3),e1,e2] at hh;exact hh
theorem aGy {p:PrA} {F:Nat} (h:PrV p F) (sts:List (List (BitVec 64))) {s:BitVec 64} (hs:s >>> F=0#64) {mv:List Int} (hl:mv.length<=1000) (hmv:∀ k ∈ mv,k<p.moves.length) :
  yX Tryz.prog 183 [plD p sts,.int .u64 (ui s),.sl 1 (rows .i64 mv)] (.int .u64 (ui (aDa p s mv))):=by
 have hF:=h.hF;have hA:=h.hA;have hrep:=aT6 (n:=p.see.length) ⟨by omega,by omega⟩;have hH:=fun f hE=>aP6 h hs (f:=f) hE;have hmod:=aT2 p.see.length F s;rw [hmod] at hH;unfold plD plC at *;rw [h.fe];refine xX.go_fn mixed Tryz.func183 bYj (by simp) fun hf=>?_;simp only [ZA,ZB,ZC,ZD,ZE,↓reduceIte,ZF,ZG,ZH,ZI,ZJ,reduceCtorEq,ZK,↓zU,↓zD,zV,zT,zW,xT,↓aVc]
 (refine aT mixed ?_; unfold aR1; simp only [ZA,ZB,ZC,ZD,ZE,↓reduceIte,ZF,ZG,ZH,ZI,ZJ,reduceCtorEq,ZK,↓zU,↓zD,zV,zT,zW,↓aEo,↓aEn,↓rz1,↓rz2,↓rz3,↓rz4,↓rz5,↓rz6,↓aRv,rU,pS,xT])
 have hpp:D.isPureL [D.sl 1 [[D.sl 1 (us [1#64])]],D.int .i64 p.see.length]=true:=by simp [D.isPureL,D.isPure]
 have q1:D.isPureL [D.int IntKind.u64 (ui 1#64)]=true:=rfl;have q2:D.isPureL [D.sl 1 [[D.int IntKind.u64 (ui 1#64)]]]=true:=rfl;have q3:(0:Int)<=(F:Int):=by omega
 have q4:8*(F:Int)<=281474976710656:=by omega
 have hrep':∀ σ:St,xX Tryz.prog 224 [.sl 1 [[.sl 1 [[.int .u64 (ui 1#64)]]]],.int .i64 (p.see.length:Int)] σ (.sl 1 (rr (List.replicate p.see.length [1#64]))) σ:=fun σ=>xX.of_runs hrep hpp;repeat (first | (refine And.intro ⟨q1,q2,bI.go (hrep' _) ?_⟩ ?_; focus ((simp only [ZA,ZB,ZC,ZD,ZE,↓reduceIte,ZF,ZG,ZH,ZI,ZJ,reduceCtorEq,ZK,↓zU,↓zD,zV,zT,zW,↓aEo,↓aEn,↓rz1,↓rz2,↓rz3,↓rz4,↓rz5,↓rz6,↓aRv,rU,pS,xT]))) | refine And.intro q1 ?_ | refine And.intro q2 ?_ | refine And.intro q3 ?_ | refine And.intro q4 ?_ | (refine bI.go (hrep' _) ?_; (simp only [ZA,ZB,ZC,ZD,ZE,↓reduceIte,ZF,ZG,ZH,ZI,ZJ,reduceCtorEq,ZK,↓zU,↓zD,zV,zT,zW,↓aEo,↓aEn,↓rz1,↓rz2,↓rz3,↓rz4,↓rz5,↓rz6,↓aRv,rU,pS,xT])))
 have hz:List.replicate F [D.int .u64 (ui 0#64)]=us (bR F (fun i=>s >>> i &&& 1#64) (fun _=>0#64) 0):=by
  rw [aXa,lH];congr 1;refine List.ext_getElem (by simp) fun i h1 h2=>by simp
 refine And.intro ?_ ?_
 ·rw [hz]
  (refine xM.ren [(0,1),(1,0)] [1,0] (by simp) (by simp) (by decide) ?_; simp only [yO,vwL,vw,vwF,sw,St.get,St.look,Fr.get,↓reduceIte,reduceIte,Nat.reduceEqDiff,Nat.reduceAdd,Nat.reduceBEq,Nat.reduceLT,Nat.reduceLeDiff,exists_eq_left',ne_eq,reduceCtorEq,zR,yK,tH])
 refine tV (fun i:Nat=>[(35,.int .i64 i),(34,.int .i64 F),(7,.ref 1 3 0 0),(2,.sl 1 (rows .i64 mv)),(1,.int .u64 (ui s)),(0,.ptr [.int .i64 F,.sl 1 (us p.init),.sl 1 (us p.see),.sl 1 (mvR p.moves),.sl 1 (cdR p.code),.sl 1 (rr sts)])])
  (fun i=>⟨2,[(1,⟨3,[[.int .i64 1,.osl 0 1 F,.sl 1 (rr (List.replicate p.see.length [1#64]))]]⟩),(0,⟨1,us (bR F (fun i=>s >>> i &&& 1#64) (fun _=>0#64) i)⟩)]⟩)
  (fun i=>i<=F) (fun i=>F-i) 0 (Nat.zero_le _) ?_ ?_
 ·rw [hz]
  (refine xM.same ?_; simp [xR,Fr.get])
 intro i hi;refine xQ mixed ?_;have hml:=cP F (fun i=>s >>> i &&& 1#64) (fun _=>0#64) i
 by_cases hil:i<F
 ·have hd:((i:Int)<(F:Int)):=by omega
  have hmg:=zH (bR F (fun i=>s >>> i &&& 1#64) (fun _=>0#64) i) (show i<_ by rw [hml]; exact hil);rw [aV8 _ _ hil] at hmg;have hms:=aV7 F (fun i=>s >>> i &&& 1#64) (fun _=>0#64) i;generalize bR F (fun i=>s >>> i &&& 1#64) (fun _=>0#64) i=M at hmg hms hml;simp only [ZA,ZB,ZC,ZD,ZE,↓reduceIte,ZF,ZG,ZH,ZI,ZJ,reduceCtorEq,ZK,↓zU,↓zD,zV,zT,zW,hd,xT,hml,hmg,oF,hms]
  (repeat refine sd ?_)
  refine⟨i+1,by omega,?_,by omega⟩
  (refine xM.same ?_; simp only [xR,Fr.get,↓reduceIte,reduceIte,Nat.reduceEqDiff,reduceCtorEq,D.int.injEq,D.bool.injEq,D.sl.injEq,and_true,true_and,and_self])
  exact wrap_i64 (by omega)
 have hd:¬ ((i:Int)<(F:Int)):=by omega
 have hvl:(us ((List.range F).map fun i=>s >>> i &&& 1#64)).length=F:=by simp [us]
 rw [aV9 _ _ _ (by omega:F<=i)];generalize hV:((List.range F).map fun i=>s >>> i &&& 1#64)= V at *;simp only [ZA,ZB,ZC,ZD,ZE,↓reduceIte,ZF,ZG,ZH,ZI,ZJ,reduceCtorEq,ZK,↓zU,↓zD,zV,zT,zW,hd]
 refine .go [(7,.ref 1 3 0 0),(2,.sl 1 (rows .i64 mv)),(1,.int .u64 (ui s)),(0,.ptr [.int .i64 F,.sl 1 (us p.init),.sl 1 (us p.see),.sl 1 (mvR p.moves),.sl 1 (cdR p.code),.sl 1 (rr sts)])]
  ⟨2,[(1,⟨3,[[.int .i64 1,.sl 1 (us V),.sl 1 (rr (List.replicate p.see.length [1#64]))]]⟩)]⟩ ?_ ?_
 ·(refine xM.ren [] [1] (by simp) (by simp) (by decide) ?_; simp only [yO,vwL,vw,vwF,sw,St.get,St.look,Fr.get,↓reduceIte,reduceIte,Nat.reduceEqDiff,Nat.reduceAdd,Nat.reduceBEq,Nat.reduceLT,Nat.reduceLeDiff,exists_eq_left',ne_eq,reduceCtorEq,zR,yK,tH])
  refine⟨?_,by omega,(List.take_of_length_le (by omega)).symm,sY _⟩
  rintro q (rfl | h)
  ·exact Nat.one_ne_zero
  ·exact h.elim
 simp only [ZA,ZB,ZC,ZD,ZE,↓reduceIte,ZF,ZG,ZH,ZI,ZJ,reduceCtorEq,ZK,↓zU,↓zD,zV,zT,zW,xF]
 refine xV (fun k:Nat=>[(50,.int .i64 k),(49,.int .i64 mv.length),(48,.sl 1 (rows .i64 mv)),(9,.int .u64 (ui ((mv.take k).foldl (aRt p s) s))),(7,.ref 1 3 0 0),(0,.ptr [.int .i64 F,.sl 1 (us p.init),.sl 1 (us p.see),.sl 1 (mvR p.moves),.sl 1 (cdR p.code),.sl 1 (rr sts)])])
  (fun _=>⟨2,[(1,⟨3,[[.int .i64 1,.sl 1 (us V),.sl 1 (rr (List.replicate p.see.length [1#64]))]]⟩)]⟩)
  (fun k=>k<=mv.length) (fun k=>mv.length-k) 0 (Nat.zero_le _) ?_ ?_
 ·(refine xM.same ?_; simp only [xR,Fr.get,↓reduceIte,reduceIte,Nat.reduceEqDiff,reduceCtorEq,D.int.injEq,D.bool.injEq,D.sl.injEq,and_true,true_and,and_self,List.take_zero,List.foldl_nil])
  rfl
 intro k hk;refine xQ mixed ?_;by_cases hkl:k<mv.length
 case neg=>
  have hd2:¬ ((k:Int)<(mv.length:Int)):=by omega
  rw [List.take_of_length_le (by omega)];simp only [ZA,ZB,ZC,ZD,ZE,↓reduceIte,ZF,ZG,ZH,ZI,ZJ,reduceCtorEq,ZK,↓zU,↓zD,zV,zT,zW,hd2];exact .drop (by simp) (by simp [vw,aDa])
 have hd2:((k:Int)<(mv.length:Int)):=by omega
 have hg:=yL .i64 mv hkl;have hlt:=hmv _ (xN (d:=0) hkl)
 have hfo:(mv.take (k+1)).foldl (aRt p s) s=aRt p s ((mv.take k).foldl (aRt p s) s) (mv.getD k 0):=by
  rw [yD (d:=0) hkl,List.foldl_append]; rfl
 generalize (mv.take k).foldl (aRt p s) s=out0 at hfo ⊢;generalize mv.getD k 0=q at hg hlt hfo
 by_cases hq:q<0
 ·have hm0:aRt p s out0 q=out0:=by unfold aRt; rw [if_pos hq]
  rw [hm0] at hfo;simp only [ZA,ZB,ZC,ZD,ZE,↓reduceIte,ZF,ZG,ZH,ZI,ZJ,reduceCtorEq,ZK,↓zU,↓zD,zV,zT,zW,hd2,xF,hg,hq]
  (repeat refine sd ?_)
  refine⟨k+1,by omega,?_,by omega⟩
  (refine xM.same ?_; simp only [xR,Fr.get,↓reduceIte,reduceIte,Nat.reduceEqDiff,reduceCtorEq,D.int.injEq,D.bool.injEq,D.sl.injEq,and_true,true_and,and_self,hfo])
  exact wrap_i64 (by omega)
 have hqn:q.toNat<p.moves.length:=by omega
 have hq0:0<=q:=by omega
 have hgm:=mF p.moves hqn;have hm0:aRt p s out0 q=(p.moves.getD q.toNat []).foldl (aR0 p.see.length s) out0:=by unfold aRt; rw [if_neg hq]
 have hmem:=xN (d:=[]) hqn;generalize p.moves.getD q.toNat []=m at hgm hm0 hmem;have hml8:=aJ1 h hmem;rw [hm0] at hfo;simp only [ZA,ZB,ZC,ZD,ZE,↓reduceIte,ZF,ZG,ZH,ZI,ZJ,reduceCtorEq,ZK,↓zU,↓zD,zV,zT,zW,hd2,xF,hg,hq,xA,hlt,hgm,zE]
 (repeat refine sd ?_)
 refine xV (fun j:Nat=>[(66,.int .i64 j),(65,.int .i64 m.length),(64,.sl 2 (asR m)),(50,.int .i64 k),(49,.int .i64 mv.length),(48,.sl 1 (rows .i64 mv)),(9,.int .u64 (ui ((m.take j).foldl (aR0 p.see.length s) out0))),(7,.ref 1 3 0 0),(0,.ptr [.int .i64 F,.sl 1 (us p.init),.sl 1 (us p.see),.sl 1 (mvR p.moves),.sl 1 (cdR p.code),.sl 1 (rr sts)])])
  (fun _=>⟨2,[(1,⟨3,[[.int .i64 1,.sl 1 (us V),.sl 1 (rr (List.replicate p.see.length [1#64]))]]⟩)]⟩)
  (fun j=>j<=m.length) (fun j=>m.length-j) 0 (Nat.zero_le _) ?_ ?_
 ·(refine xM.same ?_; simp only [xR,Fr.get,↓reduceIte,reduceIte,Nat.reduceEqDiff,reduceCtorEq,D.int.injEq,D.bool.injEq,D.sl.injEq,and_true,true_and,and_self,List.take_zero,List.foldl_nil])
  rfl
 intro j hj;refine xQ mixed ?_;by_cases hjl:j<m.length
 case neg=>
  have hd3:¬ ((j:Int)<(m.length:Int)):=by omega
  rw [List.take_of_length_le (by omega)];simp only [ZA,ZB,ZC,ZD,ZE,↓reduceIte,ZF,ZG,ZH,ZI,ZJ,reduceCtorEq,ZK,↓zU,↓zD,zV,zT,zW,hd3];refine⟨k+1,by omega,?_,by omega⟩
  (refine xM.same ?_; simp only [xR,Fr.get,↓reduceIte,reduceIte,Nat.reduceEqDiff,reduceCtorEq,D.int.injEq,D.bool.injEq,D.sl.injEq,and_true,true_and,and_self,hfo])
  exact wrap_i64 (by omega)
 have hd3:((j:Int)<(m.length:Int)):=by omega
 have hg2:=oY m hjl
 have hfo2:(m.take (j+1)).foldl (aR0 p.see.length s) out0=aR0 p.see.length s ((m.take j).foldl (aR0 p.see.length s) out0) (m.getD j as0):=by
  rw [yD (d:=as0) hjl,List.foldl_append]; rfl
 obtain⟨a1,a2,a3⟩:=aU8 h.fe (h.mv m hmem _ (xN (d:=as0) hjl));unfold AsA.row at hg2;generalize (m.take j).foldl (aR0 p.see.length s) out0=out1 at hfo2 ⊢;generalize m.getD j as0=a at hg2 hfo2 a1 a2 a3;have hh:=hH a.to a3;have hsol:=aLl p.see.length a.to s a.fact.toNat;simp only [ZA,ZB,ZC,ZD,ZE,↓reduceIte,ZF,ZG,ZH,ZI,ZJ,reduceCtorEq,ZK,↓zU,↓zD,zV,zT,zW,hd3,zE,hg2]
 (repeat refine sd ?_)
 refine .go (cr hh) ?_;simp only [ZA,ZB,ZC,ZD,ZE,↓reduceIte,ZF,ZG,ZH,ZI,ZJ,reduceCtorEq,ZK,↓zU,↓zD,zV,zT,zW]
 (repeat refine sd ?_)
 refine⟨j+1,by omega,?_,by omega⟩;rw [hfo2];unfold aR0;rw [<- hsol]
 (refine xM.ren [] [1] (by simp) (by simp) (by decide) ?_; simp only [yO,vwL,vw,vwF,sw,St.get,St.look,Fr.get,↓reduceIte,reduceIte,Nat.reduceEqDiff,Nat.reduceAdd,Nat.reduceBEq,Nat.reduceLT,Nat.reduceLeDiff,exists_eq_left',ne_eq,reduceCtorEq,zR])
 exact wrap_i64 (by omega)
open Rs Fm Ru Te Kb
section
variable [tM]
theorem xX.deep {P:Program} {g:FuncId} {args:List D} {σ:St} {d1 d:D} {n1:Nat} {objs1 objs':List (Nat × Ob)} (K:Nat->Prop) (hc:xX P g args σ d1 ⟨n1,objs1⟩) (hd:Seen ⟨n1,objs1⟩ K d1 d)
  (hs:∀ k o,St.look objs' k=some o->K k/\St.look objs1 k=some o):xX P g args σ d ⟨n1,objs'⟩:=by
 refine⟨hc.ord,fun M0 w ι vals hS hl hv=>(hc.run M0 w ι vals hS hl hv).mono fun e w' hh=>?_⟩;obtain⟨v,ι1,he,kept,sim,nx,stay,mine,hR⟩:=hh;refine⟨v,ι1,he,kept,sim.sub (objs':=objs') fun k o hk=>(hs k o hk).2,nx,stay,fun k o hk=>mine k o (hs k o hk).2,.pure ((hd M0 w' ι1 v sim hR).keep (fun _ _ _=>rfl) fun b _ hb=>?_)⟩;exact hb.imp id fun⟨k,o,h1,h2⟩=>⟨k,o,(hs k o h1).1,(hs k o h1).2,h2⟩
theorem bW (c:Nat) {l:List (Nat × Ob)} {k:Nat} (h:k<c):St.look (yZ c l) k=none:=by
 cases e:St.look (yZ c l) k with
 | none=>rfl
 | some o=>
  obtain⟨k0,_,h1,_⟩:=pT c l k o e;omega
theorem xX.lentDeep {P:Program} {g:FuncId} {args args':List D} {d0 d:D} {nx m:Nat} {objs ob:List (Nat × Ob)} (hc:xX P g args' St0 d0 ⟨m,objs⟩) (hl:oH ⟨nx,ob⟩ (fun _=>False) args args') (hf:d0.fl=true) (ho:∀ p ∈ objs,∀ e ∈ p.2.els,D.flL e=true)
  (hd:Seen ⟨nx+m,yZ nx objs++ob⟩ (fun k=>k<nx) (d0.shift nx) d):xX P g args ⟨nx,ob⟩ d ⟨nx+m,ob⟩:=
 xX.unders hc.ord fun hu=>xX.deep (fun k=>k<nx) (xX.lentSO hc hl hf ho) hd fun k o hk=>by
  have h1:=(hu k o hk).1;exact⟨h1,by rw [vE,bW nx h1]; exact hk⟩
end
namespace Kb
def sV (ks:List Nat) (ess:List (List (List D))):List (List D):=List.zipWith (fun k e=>[D.osl k 1 e.length]) ks ess
def nsl (ess:List (List (List D))):List (List D):=ess.map fun e=>[.sl 1 e]
structure Nst (objs : List (Nat × Ob)) (kO : Nat) (ks : List Nat) (ess : List (List (List D))) : Prop where
 out:St.look objs kO=some ⟨1,sV ks ess⟩
 len:ks.length=ess.length
 each:∀ i,i<ess.length->St.look objs (ks.getD i 0)= some ⟨1,ess.getD i []⟩
theorem vO {ks:List Nat} {ess:List (List (List D))} (h:ks.length=ess.length):(sV ks ess).length=ess.length:=by simp [sV]; omega
theorem qG {ks:List Nat} {ess:List (List (List D))} (h:ks.length=ess.length) {i:Nat} (hi:i<ess.length):(sV ks ess).getD i [] = [.osl (ks.getD i 0) 1 (ess.getD i []).length]:=by
 have h1:i<ks.length:=by omega
 simp [sV,List.getD,hi,h1,List.getElem?_zipWith]
theorem iW {ks:List Nat} {ess:List (List (List D))} (h:ks.length=ess.length) (k:Nat) (e:List (List D)):sV ks ess ++ [[.osl k 1 e.length]]=sV (ks ++ [k]) (ess ++ [e]):=by
 unfold sV;rw [List.zipWith_append h]; rfl
theorem aKm {ks:List Nat} {ess:List (List (List D))} (h:ks.length=ess.length) {i:Nat} (hi:i<ess.length) (k:Nat) (e:List (List D)):(sV ks ess).set i [.osl k 1 e.length]=sV (ks.set i k) (ess.set i e):=by
 refine List.ext_getElem (by simp [sV]) fun j h1 h2=>?_;simp only [sV,List.getElem_set,List.getElem_zipWith];split <;> rfl
theorem aGx (ess:List (List (List D))):(nsl ess).length=ess.length:=by simp [nsl]
theorem aCf (sts:List (List (BitVec 64))):nsl (sts.map us)= rr sts:=by
 simp only [nsl,rr,List.map_map];rfl
theorem aQe (mv:List (List Int)):nsl (mv.map (rows .i64))= rl mv:=by
 simp only [nsl,rl,List.map_map];rfl
theorem vN {l:List Nat} {i:Nat} (h:i<l.length):l.getD i 0 ∈ l:=by
 simp [List.getD,h]
end Kb
theorem Nst.seen {nx:Nat} {objs:List (Nat × Ob)} {K:Nat->Prop} {kO n:Nat} {ks:List Nat} {ess:List (List (List D))} (h:Nst objs kO ks ess) (hn:n=ess.length) (hK:¬ K kO) (hKs:∀ k ∈ ks,¬ K k) (hp:∀ e ∈ ess,∀ r ∈ e,r.length=1/\D.isPureL r=true) :
  Seen ⟨nx,objs⟩ K (.osl kO 1 n) (.sl 1 (nsl ess)):=by
 refine Seen.osl (ob:=⟨1,sV ks ess⟩) h.out hK (by decide) rfl (by show n<=(sV ks ess).length; rw [vO h.len]; omega) (by rw [aGx]; omega) (fun e he=>?_) fun i hi j hj=>?_
 ·simp only [nsl,List.mem_map] at he;obtain⟨x,_,rfl⟩:=he;rfl
 ·obtain rfl:j=0:=by omega
  have hi':i<ess.length:=by omega
  show Seen _ _ (((sV ks ess).getD i []).getD 0 .top) _;rw [qG h.len hi'];have e2:(nsl ess).getD i [] = [.sl 1 (ess.getD i [])]:=by simp [nsl,List.getD,hi']
  rw [e2];have hm:=xN (d:=[]) hi';exact Seen.rows (h.each i hi') (hKs _ (vN (by rw [h.len]; exact hi'))) (by decide) rfl (fun r hr=>(hp _ hm r hr).1) fun r hr=>(hp _ hm r hr).2
theorem Nst.shift {objs r:List (Nat × Ob)} {kO c:Nat} {ks:List Nat} {ess:List (List (List D))} (h:Nst objs kO ks ess) (hp:∀ e ∈ ess,∀ r ∈ e,D.isPureL r=true):Nst (yZ c objs++r) (c+kO) (ks.map (c + ·)) ess where
 out:=by
  rw [vE,rW c h.out];show some (Ob.shift c _)= _;unfold Ob.shift sV;simp only;congr 2;refine List.ext_getElem (by simp) fun i h1 h2=>?_;simp [D.shiftL,D.shift]
 len:=by rw [List.length_map]; exact h.len
 each:=fun i hi=>by
  have hk:(ks.map (c + ·)).getD i 0=c+ks.getD i 0:=by simp [List.getD,show i<ks.length by rw [h.len]; exact hi]
  rw [hk,vE,rW c (h.each i hi)];show some (Ob.shift c _)= _;unfold Ob.shift;rw [oV c fun e he=>hp _ (xN hi) e he]
namespace Kb
def aTf (ess:List (List (List D))):List (Nat × Ob):=(0,⟨1,sV (List.range' 1 ess.length) ess⟩) :: (List.range ess.length).map fun i=>(1+i,⟨1,ess.getD i []⟩)
theorem aXe {f:Nat->Ob}:∀ {l:List Nat} {i:Nat},i ∈ l->St.look (l.map fun i=>(1+i,f i)) (1+i)= some (f i)
 | [],i,h=>by cases h
 | j :: r,i,h=>by
  show St.look ((1+j,f j) :: _) _=_;rw [xY]
  by_cases e:i=j
  ·subst e; rw [if_pos rfl]
  ·rw [if_neg (by omega)];exact aXe ((List.mem_cons.1 h).resolve_left e)
theorem cR (ess:List (List (List D))):Nst (aTf ess) 0 (List.range' 1 ess.length) ess where
 out:=by unfold aTf; rw [xY,if_pos rfl]
 len:=by simp
 each:=fun i hi=>by
  have e:(List.range' 1 ess.length).getD i 0=1+i:=by simp [List.getD,hi]
  unfold aTf;rw [e,xY,if_neg (by omega)];exact aXe (List.mem_range.2 hi)
theorem aQy {ess:List (List (List D))} (hp:∀ e ∈ ess,∀ r ∈ e,D.flL r=true):∀ p ∈ aTf ess,∀ e ∈ p.2.els,D.flL e=true:=by
 intro p hm e he;unfold aTf at hm
 rcases List.mem_cons.1 hm with rfl | hm
 ·simp only [sV] at he;obtain⟨i,hi,rfl⟩:=List.getElem_of_mem he;simp [D.flL,D.fl]
 ·simp only [List.mem_map,List.mem_range] at hm;obtain⟨i,hi,rfl⟩:=hm;exact hp _ (xN hi) e he
end Kb
theorem aR8 {σ σ':St} {ρ:Nat->Nat}:∀ {xs bs:List (List D)},xs.length=bs.length->(∀ i,i<bs.length->(xs.getD i []).length=(bs.getD i []).length/\vwL σ σ' ρ (xs.getD i []) (bs.getD i []))->vwE σ σ' ρ xs bs
 | [],[],_,_=>.nil
 | [],_ :: _,h,_=>by cases h
 | _ :: _,[],h,_=>by cases h
 | a :: xs,b :: bs,h,hh=>by
  have h0:=hh 0 (by simp);refine .cons h0.1 h0.2 (aR8 (by simpa using h) fun i hi=>?_);simpa using hh (i+1) (by simp; omega)
theorem aZs {ks:List Nat} (hd:ks.Nodup) {i j:Nat} (hi:i<ks.length) (hj:j<ks.length) (e:ks.getD i 0=ks.getD j 0):i=j:=by
 simp only [List.getD,hi,hj,List.getElem?_eq_getElem,Option.getD_some] at e;have hp:=List.pairwise_iff_getElem.1 hd
 rcases Nat.lt_trichotomy i j with h | h | h
 ·exact absurd e (hp i j hi hj h)
 ·exact h
 ·exact absurd e.symm (hp j i hj hi h)
theorem mT.nst {nx n:Nat} {objs:List (Nat × Ob)} {kO:Nat} {ks:List Nat} {ess:List (List (List D))} (h:Nst objs kO ks ess) (hn:n=ess.length) (hd:ks.Nodup) (hk:kO ∉ ks) (hp:∀ e ∈ ess,∀ r ∈ e,D.isPureL r=true) :
  mT 0 ⟨nx,objs⟩ (.osl kO 1 n) ⟨1+ess.length,aTf ess⟩ (.osl 0 1 n):=by
 subst hn;have hlen:=h.len;have hr:(List.range' 1 ess.length).length=ess.length:=by simp
 have key:∀ q ∈ aTf ess,q.1=0\/∃ i,i<ess.length/\q.1=1+i:=fun q hq=>by
  unfold aTf at hq
  rcases List.mem_cons.1 hq with rfl | hq
  ·exact .inl rfl
  ·simp only [List.mem_map,List.mem_range] at hq;obtain⟨i,hi,rfl⟩:=hq;exact .inr ⟨i,hi,rfl⟩
 refine .inr ⟨fun k=>if k=0 then kO else ks.getD (k-1) 0,Nat.zero_le _,fun k hk=>absurd hk (Nat.not_lt_zero _),?_,?_,?_⟩
 ·simp only [vw,↓reduceIte,and_true];omega
 ·intro q hq;unfold aTf at hq
  rcases List.mem_cons.1 hq with rfl | hq
  ·refine⟨by show 0<1+ess.length; omega,_,h.out,rfl,aR8 (by rw [vO hlen,vO hr]) fun i hi=>?_⟩;rw [vO hr] at hi;rw [qG hlen hi,qG hr hi];refine⟨rfl,?_⟩;have e:(List.range' 1 ess.length).getD i 0=1+i:=by simp [List.getD,hi]
   simp only [vwL,vw,e,and_true];rw [if_neg (by omega),show 1+i-1=i by omega];exact⟨by omega,rfl⟩
  ·simp only [List.mem_map,List.mem_range] at hq;obtain⟨i,hi,rfl⟩:=hq;refine⟨by show 1+i<1+ess.length; omega,⟨1,ess.getD i []⟩,?_,rfl,.same fun r hr=>hp _ (xN hi) r hr⟩;show St.look objs (if 1+i=0 then kO else ks.getD (1+i-1) 0)= _;rw [if_neg (by omega),show 1+i-1=i by omega];exact h.each i hi
 ·intro a ha b hb e;simp only at e
  rcases key a ha with h1 | ⟨i,hi,h1⟩ <;> rcases key b hb with h2 | ⟨j,hj,h2⟩ <;> rw [h1,h2] at e ⊢
  ·rw [if_pos rfl,if_neg (by omega)] at e;exact absurd (e ▸ vN (by omega)) hk
  ·rw [if_pos rfl,if_neg (by omega)] at e;exact absurd (e ▸ vN (by omega)) hk
  ·rw [if_neg (by omega),if_neg (by omega),show 1+i-1=i by omega,show 1+j-1=j by omega] at e;rw [aZs hd (by omega) (by omega) e]
end Go.Pd
