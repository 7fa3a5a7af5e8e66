/- Part KI. -/
import Derived.Test.YtndfaefmmcoapaaGreatUaC7
import Derived.Test.YtndfaefmmcoapaaGreatUaXA
import Derived.Test.YtndfaefmmcoapaaGreatUaX9
import Derived.Test.YtndfaefmmcoapaaGreatUaX8
set_option linter.unusedSectionVars false
set_option linter.unusedVariables false
set_option linter.unusedSimpArgs false
set_option linter.defProp false
set_option maxRecDepth 20000
set_option maxHeartbeats 1000000
namespace Go.Pd
open Go Go.Proofs
open BitVec renaming isValue -> ZA
open Rs Fm Ru Te Kb
structure bU0 (p : PrA) (F : Nat) (sts : List (List (BitVec 64))) (t : Nat) : Prop where
 fe:p.F=(F:Int)
 hF:F<=8
 hA:p.see.length<=4
 hR:sts.length<=64
 len:∀ st ∈ sts,t<st.length
 ht:t<=1000
theorem aMy {a b:List (BitVec 64)}:yU Tryz.prog 74 [.sl 1 (us a),.sl 1 (us b)] (.bool (decide (a.map ui=b.map ui))):=by rw [jT,jT];exact aX6 _ _
theorem aG5 {p:PrA} {F:Nat} {sts:List (List (BitVec 64))} {t:Nat} (ok:bU0 p F sts t):yU Tryz.prog 130 [plD p sts,.int .i64 t] (aIn p.see sts t F):=by
 have hF:=ok.hF;have hA:=ok.hA;have hR:=ok.hR;have ht:=ok.ht;have hl:∀ i,i<sts.length->t<(stR sts i).length:=fun i hi=>ok.len _ (xK hi);have hist:∀ a w,a<p.see.length->w<sts.length->yU Tryz.prog 75 [plD p sts,.int .i64 a,.int .i64 w,.int .i64 t] (.sl 1 (us (sR p.see (stR sts w) a t))):=fun a w ha hw=>oS (oO p ha hw (hl w hw) ht);have hkey:=fun a v w (ha:a<p.see.length) (hv:v<sts.length) (hw:w<sts.length)=>aB9 (see:=p.see) (t:=t) ha hv hw;have hfac:=fun w (hw:w<sts.length)=>aHf (see:=p.see) (t:=t) hw;unfold aIn aIi;have hll:(yM sts.length 0).length=sts.length:=wH _ _;have hlg:∀ i,i<sts.length->(yM sts.length 0).getD i (0,0)= (i,0):=fun i hi=>sH hi;generalize vM p.see sts t=rs at *;generalize yM sts.length 0=l at *;unfold plD plC at *;rw [ok.fe] at *;refine xX.xQ mixed Tryz.func130 bSt (by simp) fun hf=>?_
 have hz:List.replicate F [D.int .u64 (ui 0#64)]=us ((List.range F).map fun f=>rD rs l f 0):=by simp only [rD,us,List.map_map];refine List.ext_getElem (by simp) fun i h1 h2=>?_;simp
 simp only [simprocAttr,-ZA,↓zU,↓zD,zV,zT,zW,zK,↓aSc]
 (refine aZe mixed ?_; unfold aO7; simp only [simprocAttr,-ZA,↓zU,↓zD,zV,zT,zW,↓bXg,↓bXf,↓rz1,↓rz2,↓rz3,↓rz4,↓rz5,↓rz6,↓aOz,pO,nR,zK])
 refine⟨by omega,by omega,by omega,by omega,?_,?_⟩
 ·rw [hz]
  (refine xH.ren [(1,2),(2,1)] [2,1,0] (by simp) (by simp) (by decide) ?_; simp only [yZ,vwL,vw,vwF,sw,St.get,St.look,Fr.get,simprocAttr,-ZA,exists_eq_left',ne_eq,zR,yW])
 refine xW (fun w:Nat=>[(31,.int .i64 w),(30,.int .i64 sts.length),(29,.sl 1 (rr sts)),(5,.ref 2 3 0 0),(4,.ref 0 3 0 0),(1,.int .i64 t),(0,.ptr [.int .i64 F,.sl 1 (us p.init),.sl 1 (us p.see),.sl 1 (mvR p.xN),.sl 1 (cdR p.code),.sl 1 (rr sts)])])
  (fun w=>⟨3,[(2,⟨3,[[.int .i64 sts.length,.osl 1 1 F,.xL]]⟩),(1,⟨1,us ((List.range F).map fun f=>rD rs l f w)⟩),(0,⟨3,[[.int .i64 0,.xL,.xL]]⟩)]⟩)
  (fun w=>w<=sts.length) (fun w=>sts.length-w) 0 (Nat.zero_le _) ?_ ?_
 ·rw [<- hz]
  (refine xH.same ?_; simp [xO,Fr.get])
 intro w hw;refine xP mixed ?_
 by_cases hwl:w<sts.length
 ·have hd:((w:Int)<(sts.length:Int)):=by omega
  have hg:=nG sts hwl
  have hv:∀ f,rD rs l f (w+1)= rD rs l f w ||| (if ((stR sts w).getD t 0).getLsbD f then 1#64 <<< w else 0#64):=fun f=>by rw [<- hfac w hwl,<- hlg w hwl]; rfl
  have hlw:=hl w hwl;unfold stR at hv hlw;generalize sts.getD w []=st at hg hv hlw;have hg2:=zH st hlw;have hd0:((t:Int)<(st.length:Int)):=by omega
  generalize st.getD t 0=x at hg2 hv;simp only [simprocAttr,-ZA,↓zU,↓zD,zV,zT,zW,hd,zK,hg]
  (repeat refine sd ?_)
  refine xW (fun i:Nat=>[(39,.int .i64 i),(38,.int .i64 F),(31,.int .i64 w),(30,.int .i64 sts.length),(29,.sl 1 (rr sts)),(7,.sl 1 (us st)),(6,.int .i64 w),(5,.ref 2 3 0 0),(4,.ref 0 3 0 0),(1,.int .i64 t),(0,.ptr [.int .i64 F,.sl 1 (us p.init),.sl 1 (us p.see),.sl 1 (mvR p.xN),.sl 1 (cdR p.code),.sl 1 (rr sts)])])
   (fun i=>⟨3,[(2,⟨3,[[.int .i64 sts.length,.osl 1 1 F,.xL]]⟩),(1,⟨1,us (cO F (fun f=>rD rs l f (w+1)) (fun f=>rD rs l f w) i)⟩),(0,⟨3,[[.int .i64 0,.xL,.xL]]⟩)]⟩)
   (fun i=>i<=F) (fun i=>F-i) 0 (Nat.zero_le _) ?_ ?_
  ·rw [eQ]
   (refine xH.same ?_; simp [xO,Fr.get])
  intro i hi;refine xP mixed ?_
  by_cases hil:i<F
  ·have hd2:((i:Int)<(F:Int)):=by omega
   have hmg:=zH (cO F (fun f=>rD rs l f (w+1)) (fun f=>rD rs l f w) i) (show i<_ by rw [lL]; exact hil);rw [aXv _ _ hil] at hmg;have hms:=aXu F (fun f=>rD rs l f (w+1)) (fun f=>rD rs l f w) i;simp only [hv i] at hms;have hml:=lL F (fun f=>rD rs l f (w+1)) (fun f=>rD rs l f w) i;generalize cO F (fun f=>rD rs l f (w+1)) (fun f=>rD rs l f w) i=M at hmg hms hml;simp only [simprocAttr,-ZA,↓zU,↓zD,zV,zT,zW,hd2,xR,hml,hmg,hd0,hg2,aM3,nH,hms]
   (repeat refine sd ?_)
   refine⟨i+1,by omega,?_,by omega⟩
   (refine xH.same ?_; simp only [xO,Fr.get,simprocAttr,-ZA,zS])
   exact wrap_i64 (by omega)
  ·have hd2:¬ ((i:Int)<(F:Int)):=by omega
   rw [aXw _ _ _ (by omega:F<=i)];simp only [simprocAttr,-ZA,↓zU,↓zD,zV,zT,zW,hd2]
   (repeat refine sd ?_)
   refine⟨w+1,by omega,?_,by omega⟩
   (refine xH.ren [] [2,1,0] (by simp) (by simp) (by decide) ?_; simp only [yZ,vwL,vw,vwF,sw,St.get,St.look,Fr.get,simprocAttr,-ZA,exists_eq_left',ne_eq,zR,yW])
   exact wrap_i64 (by omega)
 have hd:¬ ((w:Int)<(sts.length:Int)):=by omega
 obtain rfl:w=sts.length:=by omega
 rw [show ((List.range F).map fun f=>rD rs l f sts.length)= mG rs l F by rw [<- hll]; rfl];simp only [simprocAttr,-ZA,↓zU,↓zD,zV,zT,zW,hd]
 refine xW (fun a:Nat=>[(66,.int .i64 a),(65,.int .i64 p.see.length),(5,.ref 2 3 0 0),(4,.ref 0 3 0 0),(1,.int .i64 t),(0,.ptr [.int .i64 F,.sl 1 (us p.init),.sl 1 (us p.see),.sl 1 (mvR p.xN),.sl 1 (cdR p.code),.sl 1 (rr sts)])])
  (fun a=>⟨4,yY 3 1 (rr (rC rs l a))++ [(2,⟨3,[[.int .i64 sts.length,.osl 1 1 F,xA 3 1 (rr (rC rs l a))]]⟩),(1,⟨1,us (mG rs l F)⟩),(0,⟨3,[[.int .i64 0,.xL,.xL]]⟩)]⟩)
  (fun a=>a<=p.see.length) (fun a=>p.see.length-a) 0 (Nat.zero_le _) ?_ ?_
 ·(refine xH.ren [] [2,1,0] (by simp) (by simp) (by decide) ?_; simp only [yZ,vwL,vw,vwF,sw,St.get,St.look,Fr.get,simprocAttr,-ZA,exists_eq_left',ne_eq,zR,rC,List.range_zero,List.map_nil,zM,zN,List.nil_append,yW,show rr [] = [] from rfl])
 intro a ha;refine xP mixed ?_;by_cases hal:a<p.see.length
 case neg=>
  have hd2:¬ ((a:Int)<(p.see.length:Int)):=by omega
  obtain rfl:a=p.see.length:=by omega
  have hvl:(us (mG rs l F)).length=F:=by simp [us,mG]
  rw [hll];simp only [simprocAttr,-ZA,↓zU,↓zD,zV,zT,zW,hd2]
  (refine nC.ren [] [] (by simp) (by simp) (by decide) ?_; simp only [yZ,vwL,vw,vwF,sw,St.get,St.look,Fr.get,simprocAttr,-ZA,exists_eq_left',ne_eq,zR,yW,wB])
  exact⟨fun _ h=>h.elim,by omega,(List.take_of_length_le (by omega)).symm,tE _⟩
 have hd2:((a:Int)<(p.see.length:Int)):=by omega
 have hrel:rC rs l (a+1)= rC rs l a ++ [rI rs l a]:=by unfold rC; rw [List.range_succ,List.map_append]; rfl
 generalize hRL:rC rs l a=RL at hrel;have hrl:(rI rs l a).length=sts.length:=by simp [rI,hll]
 have hrlg:∀ w,w<sts.length->(rI rs l a).getD w 0#64=Ru.gG rs l a (wE rs a (w,0)) sts.length:=fun w hw=>by rw [<- hll] at hw ⊢;have:=hlg w (by omega);simp only [List.getD,hw,List.getElem?_eq_getElem,Option.getD_some] at this;simp [rI,List.getD,hw,this]
 simp only [simprocAttr,-ZA,↓zU,↓zD,zV,zT,zW,zK,hd2]
 refine uX (fun w:Nat=>[(74,.int .i64 w),(73,.int .i64 sts.length),(66,.int .i64 a),(65,.int .i64 p.see.length),(10,xA 4 1 (us ((rI rs l a).take w))),(9,.int .i64 a),(5,.ref 2 3 0 0),(4,.ref 0 3 0 0),(1,.int .i64 t),(0,.ptr [.int .i64 F,.sl 1 (us p.init),.sl 1 (us p.see),.sl 1 (mvR p.xN),.sl 1 (cdR p.code),.sl 1 (rr sts)])])
  (fun w=>⟨5,yY 4 1 (us ((rI rs l a).take w))++ (yY 3 1 (rr RL)++ [(2,⟨3,[[.int .i64 sts.length,.osl 1 1 F,xA 3 1 (rr RL)]]⟩),(1,⟨1,us (mG rs l F)⟩),(0,⟨3,[[.int .i64 0,.xL,.xL]]⟩)])⟩)
  (fun w=>w<=sts.length) (fun w=>sts.length-w) 0 (Nat.zero_le _) ?_ ?_
 ·(refine xH.ren [] [3,2,1,0] (by simp) (by simp) (by decide) ?_; simp only [yZ,vwL,vw,vwF,sw,St.get,St.look,Fr.get,simprocAttr,-ZA,exists_eq_left',ne_eq,zR,List.take_zero,cA,zM,zN,List.nil_append,yW,wB])
 intro w hw;refine xP mixed ?_;by_cases hwl:w<sts.length
 case neg=>
  have hd3:¬ ((w:Int)<(sts.length:Int)):=by omega
  rw [show (rI rs l a).take w=rI rs l a by rw [show w=(rI rs l a).length by omega,List.take_length]];simp only [simprocAttr,-ZA,↓zU,↓zD,zV,zT,zW,hd3]
  refine .go [(66,.int .i64 a),(65,.int .i64 p.see.length),(10,.sl 1 (us (rI rs l a))),(9,.int .i64 a),(5,.ref 2 3 0 0),(4,.ref 0 3 0 0),(1,.int .i64 t),(0,.ptr [.int .i64 F,.sl 1 (us p.init),.sl 1 (us p.see),.sl 1 (mvR p.xN),.sl 1 (cdR p.code),.sl 1 (rr sts)])]
   ⟨4,yY 3 1 (rr RL)++ [(2,⟨3,[[.int .i64 sts.length,.osl 1 1 F,xA 3 1 (rr RL)]]⟩),(1,⟨1,us (mG rs l F)⟩),(0,⟨3,[[.int .i64 0,.xL,.xL]]⟩)]⟩ ?_ ?_
  ·(refine xH.ren [] [3,2,1,0] (by simp) (by simp) (by decide) ?_; simp only [yZ,vwL,vw,vwF,sw,St.get,St.look,Fr.get,simprocAttr,-ZA,exists_eq_left',ne_eq,zR,yW,wB])
  have hRLl:RL.length=a:=by rw [<- hRL]; simp [rC]
  simp only [simprocAttr,-ZA,↓zU,↓zD,zV,zT,zW,zK,hRLl]
  (repeat refine sd ?_)
  refine⟨a+1,by omega,?_,by omega⟩;rw [hrel]
  (refine xH.ren [(3,4)] [3,2,1,0] (by simp) (by simp) (by decide) ?_; simp only [yZ,vwL,vw,vwF,sw,St.get,St.look,Fr.get,simprocAttr,-ZA,exists_eq_left',ne_eq,zR,yW,wB])
  exact wrap_i64 (by omega)
 have hd3:((w:Int)<(sts.length:Int)):=by omega
 have hrg:(rI rs l a).take (w+1)= (rI rs l a).take w ++ [Ru.gG rs l a (wE rs a (w,0)) sts.length]:=by rw [zP (d:=0#64) (by omega),hrlg w hwl]
 have htl:((rI rs l a).take w).length=w:=by rw [List.length_take]; omega
 generalize (rI rs l a).take w=rw' at hrg htl;simp only [simprocAttr,-ZA,↓zU,↓zD,zV,zT,zW,hd3,zK]
 refine xW (fun v:Nat=>[(82,.int .i64 v),(81,.int .i64 sts.length),(74,.int .i64 w),(73,.int .i64 sts.length),(66,.int .i64 a),(65,.int .i64 p.see.length),(12,.int .u64 (ui (Ru.gG rs l a (wE rs a (w,0)) v))),(11,.int .i64 w),(10,xA 4 1 (us rw')),(9,.int .i64 a),(5,.ref 2 3 0 0),(4,.ref 0 3 0 0),(1,.int .i64 t),(0,.ptr [.int .i64 F,.sl 1 (us p.init),.sl 1 (us p.see),.sl 1 (mvR p.xN),.sl 1 (cdR p.code),.sl 1 (rr sts)])])
  (fun _=>⟨5,yY 4 1 (us rw')++ (yY 3 1 (rr RL)++ [(2,⟨3,[[.int .i64 sts.length,.osl 1 1 F,xA 3 1 (rr RL)]]⟩),(1,⟨1,us (mG rs l F)⟩),(0,⟨3,[[.int .i64 0,.xL,.xL]]⟩)])⟩)
  (fun v=>v<=sts.length) (fun v=>sts.length-v) 0 (Nat.zero_le _) ?_ ?_
 ·(refine xH.same ?_; simp only [xO,Fr.get,simprocAttr,-ZA,zS,Ru.gG])
  all_goals rfl
 intro v hv;refine xP mixed ?_;by_cases hvl:v<sts.length
 case neg=>
  have hd4:¬ ((v:Int)<(sts.length:Int)):=by omega
  obtain rfl:v=sts.length:=by omega
  simp only [simprocAttr,-ZA,↓zU,↓zD,zV,zT,zW,hd4,xR,htl]
  (repeat refine sd ?_)
  refine⟨w+1,by omega,?_,by omega⟩;rw [hrg]
  (refine xH.ren [(4,5)] [4,3,2,1,0] (by simp) (by simp) (by decide) ?_; simp only [yZ,vwL,vw,vwF,sw,St.get,St.look,Fr.get,simprocAttr,-ZA,exists_eq_left',ne_eq,zR,yW,wB])
  exact wrap_i64 (by omega)
 have hd4:((v:Int)<(sts.length:Int)):=by omega
 have hrk:Ru.gG rs l a (wE rs a (w,0)) (v+1)= Ru.gG rs l a (wE rs a (w,0)) v ||| (if wE rs a (v,0)= wE rs a (w,0) then 1#64 <<< v else 0#64):=by rw [<- hlg v hvl]; rfl
 have heq:=aMy (a:=sR p.see (stR sts w) a t) (b:=sR p.see (stR sts v) a t);rw [hkey a v w hal hvl hwl] at heq;have h1:=hist a w hal hwl;have h2:=hist a v hal hvl;generalize sR p.see (stR sts w) a t=x1 at heq h1;generalize sR p.see (stR sts v) a t=x2 at heq h2;simp only [simprocAttr,-ZA,↓zU,↓zD,zV,zT,zW,hd4];refine .go (cr h1) ?_;simp only [simprocAttr,-ZA,↓zU,↓zD,zV,zT,zW];refine .go (cr h2) ?_;simp only [simprocAttr,-ZA,↓zU,↓zD,zV,zT,zW];refine .go (cr heq) ?_
 by_cases c:wE rs a (v,0)= wE rs a (w,0)
 ·rw [if_pos c] at hrk;rw [decide_eq_true c];simp only [simprocAttr,-ZA,↓zU,↓zD,zV,zT,zW]
  (repeat refine sd ?_)
  refine⟨v+1,by omega,?_,by omega⟩
  (refine xH.same ?_; simp only [xO,Fr.get,simprocAttr,-ZA,zS,hrk])
  exact wrap_i64 (by omega)
 ·rw [if_neg c,BitVec.or_zero] at hrk;rw [decide_eq_false c];simp only [simprocAttr,-ZA,↓zU,↓zD,zV,zT,zW];refine⟨v+1,by omega,?_,by omega⟩
  (refine xH.same ?_; simp only [xO,Fr.get,simprocAttr,-ZA,zS,hrk])
  exact wrap_i64 (by omega)
def aD5 (x y:BitVec 64):BitVec 64:=
 let x0:=x &&& 4294967295#64
 let x1:=x >>> 32
 let y0:=y &&& 4294967295#64
 let y1:=y >>> 32
 let w0:=x0*y0
 let t:=x1*y0+w0 >>> 32
 let w1:=(t &&& 4294967295#64)+ x0*y1
 let w2:=t >>> 32
 x1*y1+w2+w1 >>> 32
theorem aKt : ∀ n:Fin 65,aD5 1#64 (BitVec.ofNat 64 n.val)= 0#64:=by decide +kernel
theorem bVy : D.int .u64 4294967295=D.int .u64 (ui 4294967295#64):=rfl
theorem bZn (x y:BitVec 64):yU Tryz.prog 238 [.int .u64 (ui x),.int .u64 (ui y)] (.tup [.int .u64 (ui (aD5 x y)),.int .u64 (ui (x*y))]):=by
 refine xX.xQ mixed Tryz.func238 bTg (by simp) fun hf=>?_;simp only [simprocAttr,-ZA,↓zU,↓zD,zV,zT,zW,bVy]
 (repeat refine sd ?_)
 exact .same
theorem aE5 {n:Nat} (hn:n<=64):yU Tryz.prog 190 [.int .u64 1,.int .u64 (n:Int)] (.tup [.int .u64 0,.int .u64 (n:Int)]):=by have h:=bZn 1#64 (BitVec.ofNat 64 n);have e1:aD5 1#64 (BitVec.ofNat 64 n)= 0#64:=aKt ⟨n,by omega⟩;have e2:1#64*BitVec.ofNat 64 n=BitVec.ofNat 64 n:=BitVec.one_mul _;rw [e1,e2,aHd (k:=n) (by omega)] at h;refine xX.xQ mixed Tryz.func190 bT3 (by simp) fun hf=>?_;simp only [bWt,bWu] at *;simp only [simprocAttr,-ZA,↓zU,↓zD,zV,zT,zW];refine .go (cr h) ?_;simp only [simprocAttr,-ZA,↓zU,↓zD,zV,zT,zW];exact .same
theorem aSm {els:List (List D)} {n c:Nat} (h:c<=els.length):rowsOf ⟨n,[(0,⟨1,els⟩)]⟩ 1 (.osl 0 1 c)= some (els.take c):=by show (if (1:Nat)= 1 then(if 1=1/\c<=els.length then some (els.take c) else none) else none)= _;rw [if_pos rfl,if_pos ⟨rfl,h⟩]
def qY (d z:D) (n c:Nat):List (List D):=List.replicate c [d]++List.replicate (n-c) [z]
theorem aWe {d z:D} {n c:Nat} (h:c<=n):(qY d z n c).length=n:=by simp [qY]; omega
theorem iW {d z:D} {n c:Nat}:(qY d z n c).take c=List.replicate c [d]:=by unfold qY;rw [List.take_left' (by simp)]
theorem aW {d z:D} {n c:Nat} (h:c<n):(qY d z n c).take c++(((qY d z n c).take c).take (min (n-c) c)++ (qY d z n c).drop (c+min (n-c) c))= qY d z n (c+min (n-c) c):=by
 rw [iW]
 have e:(qY d z n c).drop (c+min (n-c) c)= List.replicate (n-(c+min (n-c) c)) [z]:=by unfold qY;rw [List.drop_append,List.length_replicate,List.drop_eq_nil_of_le (by simp),List.nil_append,List.drop_replicate];congr 1;omega
 rw [e,List.take_replicate,show min (min (n-c) c) c=min (n-c) c by omega];unfold qY;rw [<- List.append_assoc,List.replicate_append_replicate]
theorem dC {d z:D} {n:Nat} (h:1<=n):[[d]].take (min n 1)++ (List.replicate n [z]).drop (min n 1)= qY d z n 1:=by rw [Nat.min_eq_right h,List.drop_replicate];rfl
theorem aKe {d:D} (hd:d.xG=true) (h1:d.one=true) {n:Nat} (hn:1<=n/\n<=64):xX Tryz.prog 131 [.sl 1 [[d]],.int .i64 (n:Int)] St0 (.osl 0 1 n) ⟨1,[(0,⟨1,List.replicate n [d]⟩)]⟩:=by
 have hM:=aE5 hn.2;have hw:=aCa (n:=n) (by omega);have hw1:IntKind.u64.wrap ((1:Nat):Int)= 1:=by decide
 have hw2:IntKind.i64.wrap (n:Int)= (n:Int):=wrap_i64 (by omega);have hneg:¬ ((n:Int)<0):=by omega
 refine xX.xQ mixed Tryz.func131 bSs (by simp) fun hf=>?_;simp only [simprocAttr,-ZA,↓zU,↓zD,zV,zT,zW,hneg,hw1,hw,show (1:Nat)= 1 from rfl];simp only [bWt,bWu,show IntKind.u64.wrap 1=1 from by decide] at *;refine .go (cr hM) ?_;have hz:¬ (ui 0#64<ui 0#64):=Int.lt_irrefl _;have hb:¬ ((9223372036854775807:Int)<(n:Int)):=by omega
 have hp1:D.xV [d]=true:=by simp [D.xV,hd]
 simp only [simprocAttr,-ZA,↓zU,↓zD,zV,zT,zW,hz,hb,hw2,h1];refine⟨by omega,by omega,by simp,by omega,?_⟩;rw [Nat.min_eq_right hn.1];have hstart:=dC (d:=d) (z:=D.int .i64 0) hn.1;rw [Nat.min_eq_right hn.1] at hstart;have hlr:(List.replicate n [D.int .i64 0]).length=n:=by simp
 refine xW (fun c:Nat=>[(8,.int .i64 c),(7,.osl 0 1 n)]) (fun c=>⟨1,[(0,⟨1,qY d (D.int .i64 0) n c⟩)]⟩) (fun c=>1<=c/\c<=n) (fun c=>n-c) 1 ⟨Nat.le_refl _,hn.1⟩ ?_ ?_
 ·rw [<- hstart]
  (refine xH.same ?_; simp [xO,Fr.get])
 intro c ⟨hc1,hc2⟩;refine xP mixed ?_;have hL:=aWe (d:=d) (z:=D.int .i64 0) hc2
 by_cases hcn:c<n
 ·have hd1:((c:Int)<(n:Int)):=by omega
  simp only [simprocAttr,-ZA,↓zU,↓zD,zV,zT,zW,hd1];have i1:¬ ((c:Int)= 0):=by omega
  have i2:¬ ((c:Int)= (n:Int)):=by omega
  have hst:=aW (d:=d) (z:=D.int .i64 0) hcn;have htk:=iW (d:=d) (z:=D.int .i64 0) (n:=n) (c:=c);generalize qY d (D.int .i64 0) n c=els at hL hst htk ⊢;refine⟨(c:Int),(n:Int),rfl,rfl,by omega,by omega,by omega,0,(c:Int),rfl,rfl,by omega,by omega,by omega,?_⟩;simp only [↓reduceIte,if_neg i1,if_neg i2,Int.toNat_natCast];first | rw [if_pos ⟨trivial,by omega⟩] | rw [aSm (by omega)]
  refine⟨fun r hr=>?_,trivial,trivial,by omega,?_⟩
  ·rw [htk] at hr;rw [List.eq_of_mem_replicate hr];simp [h1]
  have hm:(min (n-c) (els.take c).length)= min (n-c) c:=by rw [List.length_take]; omega
  rw [hm];have em:(n:Int).toNat-c=n-c:=by omega
  refine⟨by omega,c+min (n-c) c,⟨by omega,by omega⟩,?_,by omega⟩;rw [hst]
  (refine xH.same ?_; simp only [xO,Fr.get,simprocAttr,-ZA,zS])
  rw [wrap_i64 (by omega)];omega
 ·have hd1:¬ ((c:Int)<(n:Int)):=by omega
  obtain rfl:c=n:=by omega
  have he:qY d (D.int .i64 0) c c=List.replicate c [d]:=by simp [qY]
  rw [he];simp only [simprocAttr,-ZA,↓zU,↓zD,zV,zT,zW,hd1];exact .same
theorem aKd {d:D} (hd:d.xG=true) (h1:d.one=true) {n:Nat} (hn:1<=n/\n<=64):xX Tryz.prog 224 [.sl 1 [[d]],.int .i64 (n:Int)] St0 (.osl 0 1 n) ⟨1,[(0,⟨1,List.replicate n [d]⟩)]⟩:=by
 have hM:=aE5 hn.2;have hw:=aCa (n:=n) (by omega);have hw1:IntKind.u64.wrap ((1:Nat):Int)= 1:=by decide
 have hw2:IntKind.i64.wrap (n:Int)= (n:Int):=wrap_i64 (by omega);have hneg:¬ ((n:Int)<0):=by omega
 refine xX.xQ mixed Tryz.func224 bTk (by simp) fun hf=>?_;simp only [simprocAttr,-ZA,↓zU,↓zD,zV,zT,zW,hneg,hw1,hw,show (1:Nat)= 1 from rfl];simp only [bWt,bWu,show IntKind.u64.wrap 1=1 from by decide] at *;refine .go (cr hM) ?_;have hz:¬ (ui 0#64<ui 0#64):=Int.lt_irrefl _;have hb:¬ ((9223372036854775807:Int)<(n:Int)):=by omega
 have hp1:D.xV [d]=true:=by simp [D.xV,hd]
 simp only [simprocAttr,-ZA,↓zU,↓zD,zV,zT,zW,hz,hb,hw2,h1];refine⟨by omega,by omega,by simp,by omega,?_⟩;rw [Nat.min_eq_right hn.1];have hstart:=dC (d:=d) (z:=D.xL) hn.1;rw [Nat.min_eq_right hn.1] at hstart;have hlr:(List.replicate n [D.xL]).length=n:=by simp
 refine xW (fun c:Nat=>[(8,.int .i64 c),(7,.osl 0 1 n)]) (fun c=>⟨1,[(0,⟨1,qY d (D.xL) n c⟩)]⟩) (fun c=>1<=c/\c<=n) (fun c=>n-c) 1 ⟨Nat.le_refl _,hn.1⟩ ?_ ?_
 ·rw [<- hstart]
  (refine xH.same ?_; simp [xO,Fr.get])
 intro c ⟨hc1,hc2⟩;refine xP mixed ?_;have hL:=aWe (d:=d) (z:=D.xL) hc2
 by_cases hcn:c<n
 ·have hd1:((c:Int)<(n:Int)):=by omega
  simp only [simprocAttr,-ZA,↓zU,↓zD,zV,zT,zW,hd1];have i1:¬ ((c:Int)= 0):=by omega
  have i2:¬ ((c:Int)= (n:Int)):=by omega
  have hst:=aW (d:=d) (z:=D.xL) hcn;have htk:=iW (d:=d) (z:=D.xL) (n:=n) (c:=c);generalize qY d (D.xL) n c=els at hL hst htk ⊢;refine⟨(c:Int),(n:Int),rfl,rfl,by omega,by omega,by omega,0,(c:Int),rfl,rfl,by omega,by omega,by omega,?_⟩;simp only [↓reduceIte,if_neg i1,if_neg i2,Int.toNat_natCast];first | rw [if_pos ⟨trivial,by omega⟩] | rw [aSm (by omega)]
  refine⟨fun r hr=>?_,trivial,trivial,by omega,?_⟩
  ·rw [htk] at hr;rw [List.eq_of_mem_replicate hr];simp [h1]
  have hm:(min (n-c) (els.take c).length)= min (n-c) c:=by rw [List.length_take]; omega
  rw [hm];have em:(n:Int).toNat-c=n-c:=by omega
  refine⟨by omega,c+min (n-c) c,⟨by omega,by omega⟩,?_,by omega⟩;rw [hst]
  (refine xH.same ?_; simp only [xO,Fr.get,simprocAttr,-ZA,zS])
  rw [wrap_i64 (by omega)];omega
 ·have hd1:¬ ((c:Int)<(n:Int)):=by omega
  obtain rfl:c=n:=by omega
  have he:qY d (D.xL) c c=List.replicate c [d]:=by simp [qY]
  rw [he];simp only [simprocAttr,-ZA,↓zU,↓zD,zV,zT,zW,hd1];exact .same
theorem aBl (n:Nat):List.replicate n [D.int .i64 (-1)]=rows .i64 (List.replicate n (-1)):=by simp [rows]
theorem aBc (n:Nat):List.replicate n [D.sl 1 (us [1#64])]=rr (List.replicate n [1#64]):=by simp [rr,bXe]
end Go.Pd
