/- Part KI. -/
import Derived.Test.YtndfaefmmcoapaaGreatUoC8
import Derived.Test.YtndfaefmmcoapaaGreatUoXA
import Derived.Test.YtndfaefmmcoapaaGreatUoX9
import Derived.Test.YtndfaefmmcoapaaGreatUoX8
import Derived.Test.YtndfaefmmcoapaaGreatUoSC
import Derived.Test.YtndfaefmmcoapaaGreatUoKG
set_option linter.unusedSectionVars false
set_option linter.unusedVariables false
set_option linter.unusedSimpArgs false
set_option linter.defProp false
set_option maxRecDepth 20000
set_option maxHeartbeats 1000000
namespace Go.Pd
open Go Go.Proofs
open BitVec renaming isValue -> ZA
open Rs Fm Ru Te Kb
structure bZ6 (p : PrA) (F : Nat) (sts : List (List (BitVec 64))) (t : Nat) : Prop where
 fe:p.F=(F:Int)
 hF:F<=8
 hA:p.see.length<=4
 hR:sts.length<=64
 len:∀ st ∈ sts,t<st.length
 ht:t<=1000
theorem aNc {a b:List (BitVec 64)}:yT Tryz.prog 74 [.sl 1 (us a),.sl 1 (us b)] (.bool (decide (a.map ui=b.map ui))):=by rw [pR,pR];exact aK _ _
theorem aI0 {p:PrA} {F:Nat} {sts:List (List (BitVec 64))} {t:Nat} (ok:bZ6 p F sts t):yT Tryz.prog 130 [plD p sts,.int .i64 t] (aKq p.see sts t F):=by
 have hF:=ok.hF;have hA:=ok.hA;have hR:=ok.hR;have ht:=ok.ht;have hl:∀ i,i<sts.length->t<(stR sts i).length:=fun i hi=>ok.len _ (xK hi);have hist:∀ a w,a<p.see.length->w<sts.length->yT Tryz.prog 75 [plD p sts,.int .i64 a,.int .i64 w,.int .i64 t] (.sl 1 (us (uQ p.see (stR sts w) a t))):=fun a w ha hw=>pM (pI p ha hw (hl w hw) ht);have hkey:=fun a v w (ha:a<p.see.length) (hv:v<sts.length) (hw:w<sts.length)=>aDv (see:=p.see) (t:=t) ha hv hw;have hfac:=fun w (hw:w<sts.length)=>aJh (see:=p.see) (t:=t) hw;unfold aKq aC6;have hll:(vJ sts.length 0).length=sts.length:=aX9 _ _;have hlg:∀ i,i<sts.length->(vJ sts.length 0).getD i (0,0)= (i,0):=fun i hi=>pO hi;generalize wH p.see sts t=rs at *;generalize vJ sts.length 0=l at *;unfold plD plC at *;rw [ok.fe] at *;refine xX.xR mixed Tryz.func130 bVz (by simp) fun hf=>?_
 have hz:List.replicate F [D.int .u64 (ui 0#64)]=us ((List.range F).map fun f=>eO rs l f 0):=by simp only [eO,us,List.map_map];refine List.ext_getElem (by simp) fun i h1 h2=>?_;simp
 simp only [simprocAttr,-ZA,↓zU,↓zD,zV,zT,zW,zQ,↓aU1]
 (refine aX8 mixed ?_; unfold aP1; simp only [simprocAttr,-ZA,↓zU,↓zD,zV,zT,zW,↓aC2,↓aC1,↓rz1,↓rz2,↓rz3,↓rz4,↓rz5,↓rz6,↓aPu,qS,oK,zQ])
 refine⟨by omega,by omega,by omega,by omega,?_,?_⟩
 ·rw [hz]
  (refine xI.ren [(1,2),(2,1)] [2,1,0] (by simp) (by simp) (by decide) ?_; simp only [yJ,vwL,vw,vwF,sw,St.get,St.look,Fr.get,↓reduceIte,reduceIte,Nat.reduceEqDiff,Nat.reduceAdd,Nat.reduceBEq,Nat.reduceLT,Nat.reduceLeDiff,exists_eq_left',ne_eq,reduceCtorEq,zR,yB])
 refine xW (fun w:Nat=>[(31,.int .i64 w),(30,.int .i64 sts.length),(29,.sl 1 (rr sts)),(5,.ref 2 3 0 0),(4,.ref 0 3 0 0),(1,.int .i64 t),(0,.ptr [.int .i64 F,.sl 1 (us p.init),.sl 1 (us p.see),.sl 1 (mvR p.xM),.sl 1 (cdR p.code),.sl 1 (rr sts)])])
  (fun w=>⟨3,[(2,⟨3,[[.int .i64 sts.length,.osl 1 1 F,.xH]]⟩),(1,⟨1,us ((List.range F).map fun f=>eO rs l f w)⟩),(0,⟨3,[[.int .i64 0,.xH,.xH]]⟩)]⟩)
  (fun w=>w<=sts.length) (fun w=>sts.length-w) 0 (Nat.zero_le _) ?_ ?_
 ·rw [<- hz]
  (refine xI.same ?_; simp [xP,Fr.get])
 intro w hw;refine xN mixed ?_
 by_cases hwl:w<sts.length
 ·have hd:((w:Int)<(sts.length:Int)):=by omega
  have hg:=nX sts hwl
  have hv:∀ f,eO rs l f (w+1)= eO rs l f w ||| (if ((stR sts w).getD t 0).getLsbD f then 1#64 <<< w else 0#64):=fun f=>by rw [<- hfac w hwl,<- hlg w hwl]; rfl
  have hlw:=hl w hwl;unfold stR at hv hlw;generalize sts.getD w []=st at hg hv hlw;have hg2:=wS st hlw;have hd0:((t:Int)<(st.length:Int)):=by omega
  generalize st.getD t 0=x at hg2 hv;simp only [simprocAttr,-ZA,↓zU,↓zD,zV,zT,zW,hd,zQ,hg]
  (repeat refine sd ?_)
  refine xW (fun i:Nat=>[(39,.int .i64 i),(38,.int .i64 F),(31,.int .i64 w),(30,.int .i64 sts.length),(29,.sl 1 (rr sts)),(7,.sl 1 (us st)),(6,.int .i64 w),(5,.ref 2 3 0 0),(4,.ref 0 3 0 0),(1,.int .i64 t),(0,.ptr [.int .i64 F,.sl 1 (us p.init),.sl 1 (us p.see),.sl 1 (mvR p.xM),.sl 1 (cdR p.code),.sl 1 (rr sts)])])
   (fun i=>⟨3,[(2,⟨3,[[.int .i64 sts.length,.osl 1 1 F,.xH]]⟩),(1,⟨1,us (aXi F (fun f=>eO rs l f (w+1)) (fun f=>eO rs l f w) i)⟩),(0,⟨3,[[.int .i64 0,.xH,.xH]]⟩)]⟩)
   (fun i=>i<=F) (fun i=>F-i) 0 (Nat.zero_le _) ?_ ?_
  ·rw [aYt]
   (refine xI.same ?_; simp [xP,Fr.get])
  intro i hi;refine xN mixed ?_
  by_cases hil:i<F
  ·have hd2:((i:Int)<(F:Int)):=by omega
   have hmg:=wS (aXi F (fun f=>eO rs l f (w+1)) (fun f=>eO rs l f w) i) (show i<_ by rw [aS]; exact hil);rw [aTy _ _ hil] at hmg;have hms:=aTx F (fun f=>eO rs l f (w+1)) (fun f=>eO rs l f w) i;simp only [hv i] at hms;have hml:=aS F (fun f=>eO rs l f (w+1)) (fun f=>eO rs l f w) i;generalize aXi F (fun f=>eO rs l f (w+1)) (fun f=>eO rs l f w) i=M at hmg hms hml;simp only [simprocAttr,-ZA,↓zU,↓zD,zV,zT,zW,hd2,xQ,hml,hmg,hd0,hg2,aCe,mT,hms]
   (repeat refine sd ?_)
   refine⟨i+1,by omega,?_,by omega⟩
   (refine xI.same ?_; simp only [xP,Fr.get,↓reduceIte,reduceIte,Nat.reduceEqDiff,reduceCtorEq,D.int.injEq,D.bool.injEq,D.sl.injEq,and_true,true_and,and_self])
   exact wrap_i64 (by omega)
  ·have hd2:¬ ((i:Int)<(F:Int)):=by omega
   rw [aTz _ _ _ (by omega:F<=i)];simp only [simprocAttr,-ZA,↓zU,↓zD,zV,zT,zW,hd2]
   (repeat refine sd ?_)
   refine⟨w+1,by omega,?_,by omega⟩
   (refine xI.ren [] [2,1,0] (by simp) (by simp) (by decide) ?_; simp only [yJ,vwL,vw,vwF,sw,St.get,St.look,Fr.get,↓reduceIte,reduceIte,Nat.reduceEqDiff,Nat.reduceAdd,Nat.reduceBEq,Nat.reduceLT,Nat.reduceLeDiff,exists_eq_left',ne_eq,reduceCtorEq,zR,yB])
   exact wrap_i64 (by omega)
 have hd:¬ ((w:Int)<(sts.length:Int)):=by omega
 obtain rfl:w=sts.length:=by omega
 rw [show ((List.range F).map fun f=>eO rs l f sts.length)= cC rs l F by rw [<- hll]; rfl];simp only [simprocAttr,-ZA,↓zU,↓zD,zV,zT,zW,hd]
 refine xW (fun a:Nat=>[(66,.int .i64 a),(65,.int .i64 p.see.length),(5,.ref 2 3 0 0),(4,.ref 0 3 0 0),(1,.int .i64 t),(0,.ptr [.int .i64 F,.sl 1 (us p.init),.sl 1 (us p.see),.sl 1 (mvR p.xM),.sl 1 (cdR p.code),.sl 1 (rr sts)])])
  (fun a=>⟨4,yY 3 1 (rr (nC rs l a))++ [(2,⟨3,[[.int .i64 sts.length,.osl 1 1 F,yX 3 1 (rr (nC rs l a))]]⟩),(1,⟨1,us (cC rs l F)⟩),(0,⟨3,[[.int .i64 0,.xH,.xH]]⟩)]⟩)
  (fun a=>a<=p.see.length) (fun a=>p.see.length-a) 0 (Nat.zero_le _) ?_ ?_
 ·(refine xI.ren [] [2,1,0] (by simp) (by simp) (by decide) ?_; simp only [yJ,vwL,vw,vwF,sw,St.get,St.look,Fr.get,↓reduceIte,reduceIte,Nat.reduceEqDiff,Nat.reduceAdd,Nat.reduceBEq,Nat.reduceLT,Nat.reduceLeDiff,exists_eq_left',ne_eq,reduceCtorEq,zR,nC,List.range_zero,List.map_nil,wZ,wY,List.nil_append,yB,show rr [] = [] from rfl])
 intro a ha;refine xN mixed ?_;by_cases hal:a<p.see.length
 case neg=>
  have hd2:¬ ((a:Int)<(p.see.length:Int)):=by omega
  obtain rfl:a=p.see.length:=by omega
  have hvl:(us (cC rs l F)).length=F:=by simp [us,cC]
  rw [hll];simp only [simprocAttr,-ZA,↓zU,↓zD,zV,zT,zW,hd2]
  (refine lF.ren [] [] (by simp) (by simp) (by decide) ?_; simp only [yJ,vwL,vw,vwF,sw,St.get,St.look,Fr.get,↓reduceIte,reduceIte,Nat.reduceEqDiff,Nat.reduceAdd,Nat.reduceBEq,Nat.reduceLT,Nat.reduceLeDiff,exists_eq_left',ne_eq,reduceCtorEq,zR,yB,sJ])
  exact⟨fun _ h=>h.elim,by omega,(List.take_of_length_le (by omega)).symm,rV _⟩
 have hd2:((a:Int)<(p.see.length:Int)):=by omega
 have hrel:nC rs l (a+1)= nC rs l a ++ [lI rs l a]:=by unfold nC; rw [List.range_succ,List.map_append]; rfl
 generalize hRL:nC rs l a=RL at hrel;have hrl:(lI rs l a).length=sts.length:=by simp [lI,hll]
 have hrlg:∀ w,w<sts.length->(lI rs l a).getD w 0#64=Ru.cB rs l a (tZ rs a (w,0)) sts.length:=fun w hw=>by rw [<- hll] at hw ⊢;have:=hlg w (by omega);simp only [List.getD,hw,List.getElem?_eq_getElem,Option.getD_some] at this;simp [lI,List.getD,hw,this]
 simp only [simprocAttr,-ZA,↓zU,↓zD,zV,zT,zW,zQ,hd2]
 refine sX (fun w:Nat=>[(74,.int .i64 w),(73,.int .i64 sts.length),(66,.int .i64 a),(65,.int .i64 p.see.length),(10,yX 4 1 (us ((lI rs l a).take w))),(9,.int .i64 a),(5,.ref 2 3 0 0),(4,.ref 0 3 0 0),(1,.int .i64 t),(0,.ptr [.int .i64 F,.sl 1 (us p.init),.sl 1 (us p.see),.sl 1 (mvR p.xM),.sl 1 (cdR p.code),.sl 1 (rr sts)])])
  (fun w=>⟨5,yY 4 1 (us ((lI rs l a).take w))++ (yY 3 1 (rr RL)++ [(2,⟨3,[[.int .i64 sts.length,.osl 1 1 F,yX 3 1 (rr RL)]]⟩),(1,⟨1,us (cC rs l F)⟩),(0,⟨3,[[.int .i64 0,.xH,.xH]]⟩)])⟩)
  (fun w=>w<=sts.length) (fun w=>sts.length-w) 0 (Nat.zero_le _) ?_ ?_
 ·(refine xI.ren [] [3,2,1,0] (by simp) (by simp) (by decide) ?_; simp only [yJ,vwL,vw,vwF,sw,St.get,St.look,Fr.get,↓reduceIte,reduceIte,Nat.reduceEqDiff,Nat.reduceAdd,Nat.reduceBEq,Nat.reduceLT,Nat.reduceLeDiff,exists_eq_left',ne_eq,reduceCtorEq,zR,List.take_zero,aUr,wZ,wY,List.nil_append,yB,sJ])
 intro w hw;refine xN mixed ?_;by_cases hwl:w<sts.length
 case neg=>
  have hd3:¬ ((w:Int)<(sts.length:Int)):=by omega
  rw [show (lI rs l a).take w=lI rs l a by rw [show w=(lI rs l a).length by omega,List.take_length]];simp only [simprocAttr,-ZA,↓zU,↓zD,zV,zT,zW,hd3]
  refine .go [(66,.int .i64 a),(65,.int .i64 p.see.length),(10,.sl 1 (us (lI rs l a))),(9,.int .i64 a),(5,.ref 2 3 0 0),(4,.ref 0 3 0 0),(1,.int .i64 t),(0,.ptr [.int .i64 F,.sl 1 (us p.init),.sl 1 (us p.see),.sl 1 (mvR p.xM),.sl 1 (cdR p.code),.sl 1 (rr sts)])]
   ⟨4,yY 3 1 (rr RL)++ [(2,⟨3,[[.int .i64 sts.length,.osl 1 1 F,yX 3 1 (rr RL)]]⟩),(1,⟨1,us (cC rs l F)⟩),(0,⟨3,[[.int .i64 0,.xH,.xH]]⟩)]⟩ ?_ ?_
  ·(refine xI.ren [] [3,2,1,0] (by simp) (by simp) (by decide) ?_; simp only [yJ,vwL,vw,vwF,sw,St.get,St.look,Fr.get,↓reduceIte,reduceIte,Nat.reduceEqDiff,Nat.reduceAdd,Nat.reduceBEq,Nat.reduceLT,Nat.reduceLeDiff,exists_eq_left',ne_eq,reduceCtorEq,zR,yB,sJ])
  have hRLl:RL.length=a:=by rw [<- hRL]; simp [nC]
  simp only [simprocAttr,-ZA,↓zU,↓zD,zV,zT,zW,zQ,hRLl]
  (repeat refine sd ?_)
  refine⟨a+1,by omega,?_,by omega⟩;rw [hrel]
  (refine xI.ren [(3,4)] [3,2,1,0] (by simp) (by simp) (by decide) ?_; simp only [yJ,vwL,vw,vwF,sw,St.get,St.look,Fr.get,↓reduceIte,reduceIte,Nat.reduceEqDiff,Nat.reduceAdd,Nat.reduceBEq,Nat.reduceLT,Nat.reduceLeDiff,exists_eq_left',ne_eq,reduceCtorEq,zR,yB,sJ])
  exact wrap_i64 (by omega)
 have hd3:((w:Int)<(sts.length:Int)):=by omega
 have hrg:(lI rs l a).take (w+1)= (lI rs l a).take w ++ [Ru.cB rs l a (tZ rs a (w,0)) sts.length]:=by rw [zP (d:=0#64) (by omega),hrlg w hwl]
 have htl:((lI rs l a).take w).length=w:=by rw [List.length_take]; omega
 generalize (lI rs l a).take w=rw' at hrg htl;simp only [simprocAttr,-ZA,↓zU,↓zD,zV,zT,zW,hd3,zQ]
 refine xW (fun v:Nat=>[(82,.int .i64 v),(81,.int .i64 sts.length),(74,.int .i64 w),(73,.int .i64 sts.length),(66,.int .i64 a),(65,.int .i64 p.see.length),(12,.int .u64 (ui (Ru.cB rs l a (tZ rs a (w,0)) v))),(11,.int .i64 w),(10,yX 4 1 (us rw')),(9,.int .i64 a),(5,.ref 2 3 0 0),(4,.ref 0 3 0 0),(1,.int .i64 t),(0,.ptr [.int .i64 F,.sl 1 (us p.init),.sl 1 (us p.see),.sl 1 (mvR p.xM),.sl 1 (cdR p.code),.sl 1 (rr sts)])])
  (fun _=>⟨5,yY 4 1 (us rw')++ (yY 3 1 (rr RL)++ [(2,⟨3,[[.int .i64 sts.length,.osl 1 1 F,yX 3 1 (rr RL)]]⟩),(1,⟨1,us (cC rs l F)⟩),(0,⟨3,[[.int .i64 0,.xH,.xH]]⟩)])⟩)
  (fun v=>v<=sts.length) (fun v=>sts.length-v) 0 (Nat.zero_le _) ?_ ?_
 ·(refine xI.same ?_; simp only [xP,Fr.get,↓reduceIte,reduceIte,Nat.reduceEqDiff,reduceCtorEq,D.int.injEq,D.bool.injEq,D.sl.injEq,and_true,true_and,and_self,Ru.cB])
  rfl
 intro v hv;refine xN mixed ?_;by_cases hvl:v<sts.length
 case neg=>
  have hd4:¬ ((v:Int)<(sts.length:Int)):=by omega
  obtain rfl:v=sts.length:=by omega
  simp only [simprocAttr,-ZA,↓zU,↓zD,zV,zT,zW,hd4,xQ,htl]
  (repeat refine sd ?_)
  refine⟨w+1,by omega,?_,by omega⟩;rw [hrg]
  (refine xI.ren [(4,5)] [4,3,2,1,0] (by simp) (by simp) (by decide) ?_; simp only [yJ,vwL,vw,vwF,sw,St.get,St.look,Fr.get,↓reduceIte,reduceIte,Nat.reduceEqDiff,Nat.reduceAdd,Nat.reduceBEq,Nat.reduceLT,Nat.reduceLeDiff,exists_eq_left',ne_eq,reduceCtorEq,zR,yB,sJ])
  exact wrap_i64 (by omega)
 have hd4:((v:Int)<(sts.length:Int)):=by omega
 have hrk:Ru.cB rs l a (tZ rs a (w,0)) (v+1)= Ru.cB rs l a (tZ rs a (w,0)) v ||| (if tZ rs a (v,0)= tZ rs a (w,0) then 1#64 <<< v else 0#64):=by rw [<- hlg v hvl]; rfl
 have heq:=aNc (a:=uQ p.see (stR sts w) a t) (b:=uQ p.see (stR sts v) a t);rw [hkey a v w hal hvl hwl] at heq;have h1:=hist a w hal hwl;have h2:=hist a v hal hvl;generalize uQ p.see (stR sts w) a t=x1 at heq h1;generalize uQ p.see (stR sts v) a t=x2 at heq h2;simp only [simprocAttr,-ZA,↓zU,↓zD,zV,zT,zW,hd4];refine .go (cr h1) ?_;simp only [simprocAttr,-ZA,↓zU,↓zD,zV,zT,zW];refine .go (cr h2) ?_;simp only [simprocAttr,-ZA,↓zU,↓zD,zV,zT,zW];refine .go (cr heq) ?_
 by_cases c:tZ rs a (v,0)= tZ rs a (w,0)
 ·rw [if_pos c] at hrk;rw [decide_eq_true c];simp only [simprocAttr,-ZA,↓zU,↓zD,zV,zT,zW]
  (repeat refine sd ?_)
  refine⟨v+1,by omega,?_,by omega⟩
  (refine xI.same ?_; simp only [xP,Fr.get,↓reduceIte,reduceIte,Nat.reduceEqDiff,reduceCtorEq,D.int.injEq,D.bool.injEq,D.sl.injEq,and_true,true_and,and_self,hrk])
  exact wrap_i64 (by omega)
 ·rw [if_neg c,BitVec.or_zero] at hrk;rw [decide_eq_false c];simp only [simprocAttr,-ZA,↓zU,↓zD,zV,zT,zW];refine⟨v+1,by omega,?_,by omega⟩
  (refine xI.same ?_; simp only [xP,Fr.get,↓reduceIte,reduceIte,Nat.reduceEqDiff,reduceCtorEq,D.int.injEq,D.bool.injEq,D.sl.injEq,and_true,true_and,and_self,hrk])
  exact wrap_i64 (by omega)
def aFs (x y:BitVec 64):BitVec 64:=
 let x0:=x &&& 4294967295#64
 let x1:=x >>> 32
 let y0:=y &&& 4294967295#64
 let y1:=y >>> 32
 let w0:=x0*y0
 let t:=x1*y0+w0 >>> 32
 let w1:=(t &&& 4294967295#64)+ x0*y1
 let w2:=t >>> 32
 x1*y1+w2+w1 >>> 32
theorem aM1 : ∀ n:Fin 65,aFs 1#64 (BitVec.ofNat 64 n.val)= 0#64:=by decide +kernel
theorem bY5 : D.int .u64 4294967295=D.int .u64 (ui 4294967295#64):=rfl
theorem aA2 (x y:BitVec 64):yT Tryz.prog 238 [.int .u64 (ui x),.int .u64 (ui y)] (.tup [.int .u64 (ui (aFs x y)),.int .u64 (ui (x*y))]):=by
 refine xX.xR mixed Tryz.func238 bWn (by simp) fun hf=>?_;simp only [simprocAttr,-ZA,↓zU,↓zD,zV,zT,zW,bY5]
 (repeat refine sd ?_)
 exact .same
theorem aGu {n:Nat} (hn:n<=64):yT Tryz.prog 190 [.int .u64 1,.int .u64 (n:Int)] (.tup [.int .u64 0,.int .u64 (n:Int)]):=by have h:=aA2 1#64 (BitVec.ofNat 64 n);have e1:aFs 1#64 (BitVec.ofNat 64 n)= 0#64:=aM1 ⟨n,by omega⟩;have e2:1#64*BitVec.ofNat 64 n=BitVec.ofNat 64 n:=BitVec.one_mul _;rw [e1,e2,aJe (k:=n) (by omega)] at h;refine xX.xR mixed Tryz.func190 bVa (by simp) fun hf=>?_;simp only [bX6,bX7] at *;simp only [simprocAttr,-ZA,↓zU,↓zD,zV,zT,zW];refine .go (cr h) ?_;simp only [simprocAttr,-ZA,↓zU,↓zD,zV,zT,zW];exact .same
theorem aTe {els:List (List D)} {n c:Nat} (h:c<=els.length):rowsOf ⟨n,[(0,⟨1,els⟩)]⟩ 1 (.osl 0 1 c)= some (els.take c):=by show (if (1:Nat)= 1 then(if 1=1/\c<=els.length then some (els.take c) else none) else none)= _;rw [if_pos rfl,if_pos ⟨rfl,h⟩]
def rP (d z:D) (n c:Nat):List (List D):=List.replicate c [d]++List.replicate (n-c) [z]
theorem aZb {d z:D} {n c:Nat} (h:c<=n):(rP d z n c).length=n:=by simp [rP]; omega
theorem jW {d z:D} {n c:Nat}:(rP d z n c).take c=List.replicate c [d]:=by unfold rP;rw [List.take_left' (by simp)]
theorem cN {d z:D} {n c:Nat} (h:c<n):(rP d z n c).take c++(((rP d z n c).take c).take (min (n-c) c)++ (rP d z n c).drop (c+min (n-c) c))= rP d z n (c+min (n-c) c):=by
 rw [jW]
 have e:(rP d z n c).drop (c+min (n-c) c)= List.replicate (n-(c+min (n-c) c)) [z]:=by unfold rP;rw [List.drop_append,List.length_replicate,List.drop_eq_nil_of_le (by simp),List.nil_append,List.drop_replicate];congr 1;omega
 rw [e,List.take_replicate,show min (min (n-c) c) c=min (n-c) c by omega];unfold rP;rw [<- List.append_assoc,List.replicate_append_replicate]
theorem eY {d z:D} {n:Nat} (h:1<=n):[[d]].take (min n 1)++ (List.replicate n [z]).drop (min n 1)= rP d z n 1:=by rw [Nat.min_eq_right h,List.drop_replicate];rfl
theorem aMm {d:D} (hd:d.xG=true) (h1:d.one=true) {n:Nat} (hn:1<=n/\n<=64):xX Tryz.prog 131 [.sl 1 [[d]],.int .i64 (n:Int)] St0 (.osl 0 1 n) ⟨1,[(0,⟨1,List.replicate n [d]⟩)]⟩:=by
 have hM:=aGu hn.2;have hw:=aFx (n:=n) (by omega);have hw1:IntKind.u64.wrap ((1:Nat):Int)= 1:=by decide
 have hw2:IntKind.i64.wrap (n:Int)= (n:Int):=wrap_i64 (by omega);have hneg:¬ ((n:Int)<0):=by omega
 refine xX.xR mixed Tryz.func131 bVy (by simp) fun hf=>?_;simp only [simprocAttr,-ZA,↓zU,↓zD,zV,zT,zW,hneg,hw1,hw,show (1:Nat)= 1 from rfl];simp only [bX6,bX7,show IntKind.u64.wrap 1=1 from by decide] at *;refine .go (cr hM) ?_;have hz:¬ (ui 0#64<ui 0#64):=Int.lt_irrefl _;have hb:¬ ((9223372036854775807:Int)<(n:Int)):=by omega
 have hp1:D.xU [d]=true:=by simp [D.xU,hd]
 simp only [simprocAttr,-ZA,↓zU,↓zD,zV,zT,zW,hz,hb,hw2,h1];refine⟨by omega,by omega,by simp,by omega,?_⟩;rw [Nat.min_eq_right hn.1];have hstart:=eY (d:=d) (z:=D.int .i64 0) hn.1;rw [Nat.min_eq_right hn.1] at hstart;have hlr:(List.replicate n [D.int .i64 0]).length=n:=by simp
 refine xW (fun c:Nat=>[(8,.int .i64 c),(7,.osl 0 1 n)]) (fun c=>⟨1,[(0,⟨1,rP d (D.int .i64 0) n c⟩)]⟩) (fun c=>1<=c/\c<=n) (fun c=>n-c) 1 ⟨Nat.le_refl _,hn.1⟩ ?_ ?_
 ·rw [<- hstart]
  (refine xI.same ?_; simp [xP,Fr.get])
 intro c ⟨hc1,hc2⟩;refine xN mixed ?_;have hL:=aZb (d:=d) (z:=D.int .i64 0) hc2
 by_cases hcn:c<n
 ·have hd1:((c:Int)<(n:Int)):=by omega
  simp only [simprocAttr,-ZA,↓zU,↓zD,zV,zT,zW,hd1];have i1:¬ ((c:Int)= 0):=by omega
  have i2:¬ ((c:Int)= (n:Int)):=by omega
  have hst:=cN (d:=d) (z:=D.int .i64 0) hcn;have htk:=jW (d:=d) (z:=D.int .i64 0) (n:=n) (c:=c);generalize rP d (D.int .i64 0) n c=els at hL hst htk ⊢;refine⟨(c:Int),(n:Int),rfl,rfl,by omega,by omega,by omega,0,(c:Int),rfl,rfl,by omega,by omega,by omega,?_⟩;simp only [↓reduceIte,if_neg i1,if_neg i2,Int.toNat_natCast];first | rw [if_pos ⟨trivial,by omega⟩] | rw [aTe (by omega)]
  refine⟨fun r hr=>?_,trivial,trivial,by omega,?_⟩
  ·rw [htk] at hr;rw [List.eq_of_mem_replicate hr];simp [h1]
  have hm:(min (n-c) (els.take c).length)= min (n-c) c:=by rw [List.length_take]; omega
  rw [hm];have em:(n:Int).toNat-c=n-c:=by omega
  refine⟨by omega,c+min (n-c) c,⟨by omega,by omega⟩,?_,by omega⟩;rw [hst]
  (refine xI.same ?_; simp only [xP,Fr.get,↓reduceIte,reduceIte,Nat.reduceEqDiff,reduceCtorEq,D.int.injEq,D.bool.injEq,D.sl.injEq,and_true,true_and,and_self])
  rw [wrap_i64 (by omega)];omega
 ·have hd1:¬ ((c:Int)<(n:Int)):=by omega
  obtain rfl:c=n:=by omega
  have he:rP d (D.int .i64 0) c c=List.replicate c [d]:=by simp [rP]
  rw [he];simp only [simprocAttr,-ZA,↓zU,↓zD,zV,zT,zW,hd1];exact .same
theorem aMl {d:D} (hd:d.xG=true) (h1:d.one=true) {n:Nat} (hn:1<=n/\n<=64):xX Tryz.prog 224 [.sl 1 [[d]],.int .i64 (n:Int)] St0 (.osl 0 1 n) ⟨1,[(0,⟨1,List.replicate n [d]⟩)]⟩:=by
 have hM:=aGu hn.2;have hw:=aFx (n:=n) (by omega);have hw1:IntKind.u64.wrap ((1:Nat):Int)= 1:=by decide
 have hw2:IntKind.i64.wrap (n:Int)= (n:Int):=wrap_i64 (by omega);have hneg:¬ ((n:Int)<0):=by omega
 refine xX.xR mixed Tryz.func224 bWr (by simp) fun hf=>?_;simp only [simprocAttr,-ZA,↓zU,↓zD,zV,zT,zW,hneg,hw1,hw,show (1:Nat)= 1 from rfl];simp only [bX6,bX7,show IntKind.u64.wrap 1=1 from by decide] at *;refine .go (cr hM) ?_;have hz:¬ (ui 0#64<ui 0#64):=Int.lt_irrefl _;have hb:¬ ((9223372036854775807:Int)<(n:Int)):=by omega
 have hp1:D.xU [d]=true:=by simp [D.xU,hd]
 simp only [simprocAttr,-ZA,↓zU,↓zD,zV,zT,zW,hz,hb,hw2,h1];refine⟨by omega,by omega,by simp,by omega,?_⟩;rw [Nat.min_eq_right hn.1];have hstart:=eY (d:=d) (z:=D.xH) hn.1;rw [Nat.min_eq_right hn.1] at hstart;have hlr:(List.replicate n [D.xH]).length=n:=by simp
 refine xW (fun c:Nat=>[(8,.int .i64 c),(7,.osl 0 1 n)]) (fun c=>⟨1,[(0,⟨1,rP d (D.xH) n c⟩)]⟩) (fun c=>1<=c/\c<=n) (fun c=>n-c) 1 ⟨Nat.le_refl _,hn.1⟩ ?_ ?_
 ·rw [<- hstart]
  (refine xI.same ?_; simp [xP,Fr.get])
 intro c ⟨hc1,hc2⟩;refine xN mixed ?_;have hL:=aZb (d:=d) (z:=D.xH) hc2
 by_cases hcn:c<n
 ·have hd1:((c:Int)<(n:Int)):=by omega
  simp only [simprocAttr,-ZA,↓zU,↓zD,zV,zT,zW,hd1];have i1:¬ ((c:Int)= 0):=by omega
  have i2:¬ ((c:Int)= (n:Int)):=by omega
  have hst:=cN (d:=d) (z:=D.xH) hcn;have htk:=jW (d:=d) (z:=D.xH) (n:=n) (c:=c);generalize rP d (D.xH) n c=els at hL hst htk ⊢;refine⟨(c:Int),(n:Int),rfl,rfl,by omega,by omega,by omega,0,(c:Int),rfl,rfl,by omega,by omega,by omega,?_⟩;simp only [↓reduceIte,if_neg i1,if_neg i2,Int.toNat_natCast];first | rw [if_pos ⟨trivial,by omega⟩] | rw [aTe (by omega)]
  refine⟨fun r hr=>?_,trivial,trivial,by omega,?_⟩
  ·rw [htk] at hr;rw [List.eq_of_mem_replicate hr];simp [h1]
  have hm:(min (n-c) (els.take c).length)= min (n-c) c:=by rw [List.length_take]; omega
  rw [hm];have em:(n:Int).toNat-c=n-c:=by omega
  refine⟨by omega,c+min (n-c) c,⟨by omega,by omega⟩,?_,by omega⟩;rw [hst]
  (refine xI.same ?_; simp only [xP,Fr.get,↓reduceIte,reduceIte,Nat.reduceEqDiff,reduceCtorEq,D.int.injEq,D.bool.injEq,D.sl.injEq,and_true,true_and,and_self])
  rw [wrap_i64 (by omega)];omega
 ·have hd1:¬ ((c:Int)<(n:Int)):=by omega
  obtain rfl:c=n:=by omega
  have he:rP d (D.xH) c c=List.replicate c [d]:=by simp [rP]
  rw [he];simp only [simprocAttr,-ZA,↓zU,↓zD,zV,zT,zW,hd1];exact .same
theorem aDb (n:Nat):List.replicate n [D.int .i64 (-1)]=rows .i64 (List.replicate n (-1)):=by simp [rows]
theorem aE1 (n:Nat):List.replicate n [D.sl 1 (us [1#64])]=rr (List.replicate n [1#64]):=by simp [rr,aC0]
open Rs Fm Ru Te
namespace Te
theorem aLm {A F:Nat} {c:List Nd} (hv:wN c) (h:∀ p ∈ c,qM A F p=true):∀ i,i<c.length->sM A F (tree c i)= true:=by
 intro i
 induction i using Nat.strongRecOn with
 | _ i ih=>
  intro hi;obtain⟨ox,oy,_,_⟩:=uB (hv i hi);have hs:=h (c.getD i nd0) (by rw [List.getD,List.getElem?_eq_getElem hi]; exact List.getElem_mem hi);rw [tW hv hi];show (qM A F _&&(sM A F _&&sM A F _))= true;rw [show qM A F ⟨(c.getD i nd0).op,(c.getD i nd0).i,(c.getD i nd0).e,(c.getD i nd0).g,0,0⟩= qM A F (c.getD i nd0) from rfl,hs,Bool.true_and,Bool.and_eq_true]
  constructor
  ·split
   ·rename_i hx; have:=ox hx; exact ih _ (by omega) (by omega)
   ·rfl
  ·split
   ·rename_i hy; have:=oy hy; exact ih _ (by omega) (by omega)
   ·rfl
theorem aN7 {A F:Nat} {p:Nd} {k:Int} (hn:zX p k=0) (ho:okN A F p=true) (ht:rY p &&& 256=0):qM A F p=true:=by
 unfold okN at ho;simp only [Bool.and_eq_true,decide_eq_true_eq] at ho;obtain⟨⟨h1,h2⟩,h3⟩:=ho
 have hi0:p.op=3\/p.op=9\/p.op=10->0<=p.i:=fun h=>by
  rcases h with h | h | h
  ·exact(nR hn (by rw [h]; rfl)).1
  ·exact(uI hn (by rw [h]; rfl)).1
  ·exact(uI hn (by rw [h]; rfl)).1
 have hg0:=mI hn;have hu:=(zA.1 hn).1
 have lt_of:∀ {a b:Nat},2 ^ a / 2 ^ b=0->a<b:=fun {a b} h=>Decidable.byContradiction fun hh=>by have:=Nat.pow_le_pow_right (n:=2) (by decide) (show b<=a by omega);have:=Nat.div_pos this (Nat.two_pow_pos b);omega
 obtain⟨op,i,e,g,a,b⟩:=p;simp only at hi0 hg0 hu
 rcases uW op with rfl | rfl | rfl | rfl | rfl | rfl | rfl | rfl | rfl | rfl | rfl | rfl | rfl | rfl | rfl | rfl | rfl | rfl | rfl | rfl | rfl | h | h
 ·rfl
 ·rfl
 ·have h3:2 ^ i.toNat / 2 ^ F=0:=h3;have:=lt_of h3;have h0:=hi0 (.inl rfl);show decide (i<(F:Int))= true;exact decide_eq_true (by omega)
 ·rfl
 ·rfl
 ·rfl
 ·rfl
 ·rfl
 ·have h2:2 ^ i.toNat / 2 ^ A=0:=h2;have:=lt_of h2;have h0:=hi0 (.inr (.inl rfl));show decide (i<(A:Int))= true;exact decide_eq_true (by omega)
 ·have h2:2 ^ i.toNat / 2 ^ A=0:=h2;have:=lt_of h2;have h0:=hi0 (.inr (.inr rfl));show decide (i<(A:Int))= true;exact decide_eq_true (by omega)
 iterate 3
  ·have h2:g.toNat / 2 ^ A=0:=h2;have:=(Nat.div_eq_zero_iff.1 h2).resolve_left (by have:=Nat.two_pow_pos A; omega);show decide (g<((2 ^ A:Nat):Int))= true;exact decide_eq_true (by omega)
 ·exact absurd h1 (show ¬ (16:Nat)&&& 3824=0 by decide)
 ·exact absurd h1 (show ¬ (32:Nat)&&& 3824=0 by decide)
 ·exact absurd h1 (show ¬ (64:Nat)&&& 3824=0 by decide)
 ·exact absurd h1 (show ¬ (128:Nat)&&& 3824=0 by decide)
 iterate 4
  ·exact absurd ht (show ¬ (256:Nat)&&& 256=0 by decide)
 ·rw [zB (.inl h)] at hu; cases hu
 ·rw [zB (.inr h)] at hu; cases hu
theorem bXr {a b:Nat} (ha:a<2 ^ 62) (hb:b<2 ^ 62):qI .and .i64 (a:Int) (b:Int)= ((a &&& b:Nat):Int):=by show IntKind.i64.wrap ((BitVec.ofInt 64 (a:Int)&&& BitVec.ofInt 64 (b:Int)).toNat:Int)= _;rw [BitVec.ofInt_natCast,BitVec.ofInt_natCast,BitVec.toNat_and,BitVec.toNat_ofNat,BitVec.toNat_ofNat,Nat.mod_eq_of_lt (by omega),Nat.mod_eq_of_lt (by omega)];have:a &&& b<=a:=Nat.and_le_left;exact wrap_i64 (by omega)
theorem aY8 {n:Nat} (h:n<4096):(qI .and .i64 (n:Int) 256 != 0)= !decide (n &&& 256=0):=by
 have e:=bXr (a:=n) (b:=256) (by omega) (by decide);rw [show ((256:Nat):Int)= 256 from rfl] at e;rw [e];generalize n &&& 256=z
 by_cases hz:z=0
 ·subst hz; rfl
 ·rw [decide_eq_false hz];have:((z:Int) != 0)= true:=by rw [bne_iff_ne]; omega
  rw [this]; rfl
theorem aLk {n:Nat} (h:n<4096) (h1:n &&& 3824=0) (h2:n &&& 256=0):(qI .andNot .i64 (n:Int) 15 != 0)= false:=by
 have h16:∀ n:Fin 4096,n.val &&& 3824=0->n.val &&& 256=0->n.val<16:=by decide +kernel
 have:∀ n:Fin 16,(qI .andNot .i64 ((n.val:Nat):Int) 15 != 0)= false:=by decide +kernel
 exact this ⟨n,h16 ⟨n,h⟩ h1 h2⟩
theorem mH (f:List Nd):zG f<4096:=by refine rN fun p _=>?_;have:=kT p.op;unfold rY; omega
theorem aVr {s:aXk} {A F T:Nat} {rs:List wC} (hs:s=⟨A,F,T,rs⟩) (hz:chk s=0) (ok:OkR rs A F T) {f:List Nd} (hE:aGe s f=0) (ht:zG f &&& 256=0) :
  sM A F (jD f)= true/\(qI .andNot .i64 (zG f:Int) 15 != 0)= false/\rQ f A F=true:=by
 have hc:=(oW hE).2;have hN:=(aEq hs hz ok hc).1 hE
 have hT:∀ p ∈ xC f,rY p &&& 256=0:=by
  have:=ht;unfold zG at this
  rwa [rK (φ:=fun n=>n &&& 256) (by decide) (fun a b=>Nat.and_or_distrib_right a b 256),sS] at this
 have h38:zG f &&& 3824=0:=by unfold zG;rw [rK (φ:=fun n=>n &&& 3824) (by decide) (fun a b=>Nat.and_or_distrib_right a b 3824),sS];intro p hp;have:=hN p hp;unfold okN at this;simp only [Bool.and_eq_true,decide_eq_true_eq] at this;exact this.1.1
 refine⟨?_,aLk (mH f) h38 ht,?_⟩
 ·have hl:=aQ5 hc;rw [<- (aWc hc).1];refine aLm (aXu f) (fun p hp=>?_) _ (by omega);obtain⟨k,hk⟩:=mQ (jP f _) hp;exact aN7 hk (hN p hp) (hT p hp)
 ·unfold aGe at hE;rw [if_neg (by simpa using hz),if_neg (by simpa using hc),aN (mH f),if_neg (by simp [h38])] at hE;subst hs
  cases hf:rQ f A F with
  | true=>rfl
  | false=>simp only [hf,↓reduceIte] at hE; cases hE
end Te
namespace Kb
theorem bXc : ∀ n:Fin 4096,(qI .andNot .i64 ((n.val:Nat):Int) 15 != 0)= false->n.val<16:=by decide +kernel
theorem bY8 : ∀ n:Fin 4096,(qI .andNot .i64 ((n.val:Nat):Int) 0 != 0)= false->n.val=0:=by decide +kernel
end Kb
open Ru
namespace Ru
def aPx (rs:List wC) (a r t:Nat):List Int:=(List.range t).map fun i=>tZ rs a (r,i)
end Ru
open Ru
namespace Ru
theorem fU {α:Type} (a b:List α) (d:α) {n:Nat} (h:n<a.length):(a++b).getD n d=a.getD n d:=by simp [List.getD,List.getElem?_append_left h]
end Ru
theorem aD8 {c:List (BitVec 64)} (hc:c.length<=1000) (h0:0<c.length):yT Tryz.prog 122 [.sl 1 (us c)] (.sl 1 (us c)):=by
 obtain⟨x,l,rfl⟩:∃ x l,c=x :: l:=by
  cases c with
  | nil=>simp at h0
  | cons x l=>exact⟨x,l,rfl⟩
 refine xX.xR mixed Tryz.func122 bZx (by simp) fun hf=>?_;have hl:(us (x :: l)).length=l.length+1:=by simp [us]
 have h1:=aOa (x :: l);have e:us (x :: l)= [.int .u64 (ui x)] :: us l:=rfl;simp only [List.length_cons] at hc;rw [e] at hl h1 ⊢;simp only [simprocAttr,-ZA,↓zU,↓zD,zV,zT,zW];refine⟨by simp,h1,by omega,by omega,.drop (by simp) ?_⟩;have hp:=rV (x :: l);rw [e] at hp;have ht:([D.int .u64 (ui x)] :: us l).take (l.length+1)= [D.int .u64 (ui x)] :: us l:=by rw [<- hl,List.take_length]
 simp only [vw];exact⟨trivial,by decide,by simp,⟨1,[D.int .u64 (ui x)] :: us l⟩,rfl,rfl,by simp only; omega,ht.symm,hp⟩
open Ru
namespace Ru
def aBw (kf:Nat->Nat × Nat->List Int) (l:List (Nat × Nat)) (a:Nat) (p:Nat × Nat):Int:=below (dedup (aWi (l.map (kf a)))) (kf a p)
def aC3 (rs:List wC) (A T:Nat) (num:Nat->Nat × Nat->Int):List wC:=(List.range rs.length).map fun i=>⟨(List.range T).map fun t=>(List.range A).map fun a=>num a (i,t),(rs.getD i lJ).fac⟩
end Ru
open Ru
namespace Ru
end Ru
open Ru
theorem iM {l:List (List Int)}:∀ {k:Nat} {x:List Int},x ∈ tN l k ↔ ∃ i,i<k/\l.getD i []=x
 | 0,x=>by simp [tN]
 | k+1,x=>by
  rw [tN]
  by_cases h:0<k/\l.getD k []=l.getD (k-1) []
  ·rw [if_pos h,iM];refine⟨fun⟨i,hi,e⟩=>⟨i,by omega,e⟩,fun⟨i,hi,e⟩=>?_⟩
   by_cases ei:i=k
   ·exact⟨k-1,by omega,by rw [<- h.2,<- ei]; exact e⟩
   ·exact⟨i,by omega,e⟩
  ·rw [if_neg h,List.mem_append,iM,List.mem_singleton];refine⟨fun c=>c.elim (fun⟨i,hi,e⟩=>⟨i,by omega,e⟩) (fun e=>⟨k,by omega,e.symm⟩),fun⟨i,hi,e⟩=>?_⟩
   by_cases ei:i=k
   ·exact .inr (by rw [<- e,ei])
   ·exact .inl ⟨i,by omega,e⟩
theorem aOj {l:List (List Int)} (h:asc l) {i j:Nat} (hij:i<j) (hj:j<l.length):¬ kc (l.getD j []) (l.getD i [])<0:=by have:=List.pairwise_iff_getElem.1 h i j (by omega) hj hij;simpa [List.getD,hj,show i<l.length by omega] using this
theorem qR {l:List (List Int)} (h:asc l):∀ {k:Nat},k<=l.length->(tN l k).Pairwise fun a b=>kc a b<0
 | 0,_=>List.Pairwise.nil
 | k + 1,hk=>by
  rw [tN]
  by_cases c:0<k/\l.getD k []=l.getD (k-1) []
  ·rw [if_pos c]; exact qR h (by omega)
  ·rw [if_neg c];refine List.pairwise_append.2 ⟨qR h (by omega),List.pairwise_singleton _ _,fun x hx y hy=>?_⟩;rw [List.mem_singleton] at hy;subst hy;obtain⟨i,hi,rfl⟩:=iM.1 hx;have h1:=aOj h hi (show k<l.length by omega)
   by_cases e:kc (l.getD i []) (l.getD k [])<0
   ·exact e
   ·exfalso;have eq:l.getD i []=l.getD k []:=aVc h1 e
    by_cases e2:i=k-1
    ·exact c ⟨by omega,by rw [<- eq,e2]⟩
    ·have h2:=aOj h (show i<k-1 by omega) (show k-1<l.length by omega);have h3:=aOj h (show k-1<k by omega) (show k<l.length by omega);rw [eq] at h2;exact c ⟨by omega,aVc h3 h2 |>.symm⟩
theorem aLt {l:List (List Int)} (h:asc l):asc (dedup l):=by have:=qR h (Nat.le_refl l.length);exact this.imp fun {a b} h=>by have:=nP a b; omega
theorem aV8 {l:List (List Int)} (h:asc l):(dedup l).Nodup:=by have:=qR h (Nat.le_refl l.length);refine this.imp fun {a b} h e=>?_;rw [e,aVb] at h;omega
theorem aLs {l:List (List Int)} {x:List Int}:x ∈ dedup l ↔ x ∈ l:=by
 unfold dedup;rw [iM]
 constructor
 ·rintro ⟨i,hi,rfl⟩; exact xK hi
 ·intro h;obtain⟨i,hi,e⟩:=List.mem_iff_getElem.1 h;exact⟨i,hi,by simp [List.getD,hi,e]⟩
open Ru
theorem aOz {rs:List wC} {A F T:Nat} (ok:OkR rs A F T):chk ⟨A,F,T,rs⟩= 0:=by
 obtain⟨h1,h2,h3,h4,h5,h6,h7,h8,h9⟩:=ok;unfold chk;simp only;have hp:((rs.length*T:Nat):Int)<=512:=by omega
 rw [Int.natCast_mul] at hp
 rw [if_neg (by omega),if_neg (by omega),if_neg (by omega),if_neg,if_neg]
 ·rw [Bool.not_eq_true,List.any_eq_false];intro r hr;simp only [bZ1,Int.toNat_natCast,List.any_eq_true,not_exists,not_and];intro f hf;simp [h9 r hr f hf]
 ·rw [Bool.not_eq_true,List.any_eq_false];intro r hr;have hrow:=h8 r hr;simp only [bZ2,h6 r hr,h7 r hr,decide_true,Bool.not_true,Bool.false_or,List.any_eq_true,not_exists,not_and];intro l hl;simp [hrow l hl]
open Ru
namespace Ru
def bX3 (rs:List wC) (A T:Nat) (kf:Nat->Nat × Nat->List Int):List wC:=aC3 rs A T (aBw kf (ptN T (rs.length*T)))
theorem aJ6 (rs:List wC) (A T:Nat) (num:Nat->Nat × Nat->Int):(aC3 rs A T num).length=rs.length:=by simp [aC3]
theorem aJ7 {rs:List wC} {A T:Nat} {num:Nat->Nat × Nat->Int} {i:Nat} (h:i<rs.length):(aC3 rs A T num).getD i lJ=⟨(List.range T).map fun t=>(List.range A).map fun a=>num a (i,t),(rs.getD i lJ).fac⟩:=by simp [aC3,List.getD,h]
theorem aEt {T R:Nat} {p:Nat × Nat} (hp:p.1<R/\p.2<T):p ∈ ptN T (R*T):=by obtain⟨r,t⟩:=p;simp only at hp;simp only [ptN,List.mem_map,List.mem_range];have hm:=Nat.mul_le_mul_right T (show r+1<=R from hp.1);rw [Nat.succ_mul] at hm;refine⟨r*T+t,by omega,?_⟩;rw [Nat.mul_comm,Nat.mul_add_div (by omega),Nat.div_eq_of_lt hp.2,Nat.mul_add_mod,Nat.mod_eq_of_lt hp.2];rfl
theorem aJ8 (rs:List wC) (A T:Nat) (kf:Nat->Nat × Nat->List Int):(bX3 rs A T kf).length=rs.length:=aJ6 _ _ _ _
end Ru
end Go.Pd
