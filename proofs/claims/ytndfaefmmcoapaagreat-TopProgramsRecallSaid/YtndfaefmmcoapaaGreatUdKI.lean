/- Part KI. -/
import Derived.Test.YtndfaefmmcoapaaGreatUdC7
import Derived.Test.YtndfaefmmcoapaaGreatUdXA
import Derived.Test.YtndfaefmmcoapaaGreatUdX9
import Derived.Test.YtndfaefmmcoapaaGreatUdX8
set_option linter.unusedSectionVars false
set_option linter.unusedVariables false
set_option linter.unusedSimpArgs false
set_option linter.defProp false
set_option maxRecDepth 20000
set_option maxHeartbeats 1000000
namespace Go.Pd
open Go Go.Proofs
open BitVec renaming isValue -> ZA
open Rs Fm Ru Te Kb
structure bTn (p : PrA) (F : Nat) (sts : List (List (BitVec 64))) (t : Nat) : Prop where
 fe:p.F=(F:Int)
 hF:F<=8
 hA:p.see.length<=4
 hR:sts.length<=64
 len:∀ st ∈ sts,t<st.length
 ht:t<=1000
theorem bXh {a b:List (BitVec 64)}:yB Tryz.prog 74 [.sl 1 (us a),.sl 1 (us b)] (.bool (decide (a.map ui=b.map ui))):=by rw [aXf,aXf];exact aQc _ _
theorem aFw {p:PrA} {F:Nat} {sts:List (List (BitVec 64))} {t:Nat} (ok:bTn p F sts t):yB Tryz.prog 130 [plD p sts,.int .i64 t] (aI9 p.see sts t F):=by
 have hF:=ok.hF;have hA:=ok.hA;have hR:=ok.hR;have ht:=ok.ht;have hl:∀ i,i<sts.length->t<(stR sts i).length:=fun i hi=>ok.len _ (xS hi);have hist:∀ a w,a<p.see.length->w<sts.length->yB Tryz.prog 75 [plD p sts,.int .i64 a,.int .i64 w,.int .i64 t] (.sl 1 (us (nJ p.see (stR sts w) a t))):=fun a w ha hw=>eU (eJ p ha hw (hl w hw) ht);have hkey:=fun a v w (ha:a<p.see.length) (hv:v<sts.length) (hw:w<sts.length)=>aA4 (see:=p.see) (t:=t) ha hv hw;have hfac:=fun w (hw:w<sts.length)=>aH2 (see:=p.see) (t:=t) hw;unfold aI9 bYj;have hll:(vA sts.length 0).length=sts.length:=aZu _ _;have hlg:∀ i,i<sts.length->(vA sts.length 0).getD i (0,0)= (i,0):=fun i hi=>oY hi;generalize vP p.see sts t=rs at *;generalize vA sts.length 0=l at *;unfold plD plC at *;rw [ok.fe] at *;refine xY.xR mixed Tryz.func130 bRp (by simp) fun hf=>?_
 have hz:List.replicate F [D.int .u64 (ui 0#64)]=us ((List.range F).map fun f=>cR rs l f 0):=by simp only [cR,us,List.map_map];refine List.ext_getElem (by simp) fun i h1 h2=>?_;simp
 simp only [simprocAttr,-ZA,↓zU,↓zD,zV,zT,zW,zP,↓aSv]
 (refine aZr mixed ?_; unfold aNp; simp only [simprocAttr,-ZA,↓zU,↓zD,zV,zT,zW,↓bYh,↓bYg,↓rz1,↓rz2,↓rz3,↓rz4,↓rz5,↓rz6,↓aNd,pZ,nR,zP])
 refine⟨by omega,by omega,by omega,by omega,?_,?_⟩
 ·rw [hz]
  (refine xM.ren [(1,2),(2,1)] [2,1,0] (by simp) (by simp) (by decide) ?_; simp only [yK,vwL,vw,vwF,sw,St.get,St.look,Fr.get,simprocAttr,-ZA,exists_eq_left',ne_eq,zR,yD])
 refine xQ (fun w:Nat=>[(31,.int .i64 w),(30,.int .i64 sts.length),(29,.sl 1 (rr sts)),(5,.ref 2 3 0 0),(4,.ref 0 3 0 0),(1,.int .i64 t),(0,.ptr [.int .i64 F,.sl 1 (us p.init),.sl 1 (us p.see),.sl 1 (mvR p.xF),.sl 1 (cdR p.code),.sl 1 (rr sts)])])
  (fun w=>⟨3,[(2,⟨3,[[.int .i64 sts.length,.osl 1 1 F,.xO]]⟩),(1,⟨1,us ((List.range F).map fun f=>cR rs l f w)⟩),(0,⟨3,[[.int .i64 0,.xO,.xO]]⟩)]⟩)
  (fun w=>w<=sts.length) (fun w=>sts.length-w) 0 (Nat.zero_le _) ?_ ?_
 ·rw [<- hz]
  (refine xM.same ?_; simp [xP,Fr.get])
 intro w hw;refine xN mixed ?_
 by_cases hwl:w<sts.length
 ·have hd:((w:Int)<(sts.length:Int)):=by omega
  have hg:=nD sts hwl
  have hv:∀ f,cR rs l f (w+1)= cR rs l f w ||| (if ((stR sts w).getD t 0).getLsbD f then 1#64 <<< w else 0#64):=fun f=>by rw [<- hfac w hwl,<- hlg w hwl]; rfl
  have hlw:=hl w hwl;unfold stR at hv hlw;generalize sts.getD w []=st at hg hv hlw;have hg2:=uW st hlw;have hd0:((t:Int)<(st.length:Int)):=by omega
  generalize st.getD t 0=x at hg2 hv;simp only [simprocAttr,-ZA,↓zU,↓zD,zV,zT,zW,hd,zP,hg]
  (repeat refine sd ?_)
  refine xQ (fun i:Nat=>[(39,.int .i64 i),(38,.int .i64 F),(31,.int .i64 w),(30,.int .i64 sts.length),(29,.sl 1 (rr sts)),(7,.sl 1 (us st)),(6,.int .i64 w),(5,.ref 2 3 0 0),(4,.ref 0 3 0 0),(1,.int .i64 t),(0,.ptr [.int .i64 F,.sl 1 (us p.init),.sl 1 (us p.see),.sl 1 (mvR p.xF),.sl 1 (cdR p.code),.sl 1 (rr sts)])])
   (fun i=>⟨3,[(2,⟨3,[[.int .i64 sts.length,.osl 1 1 F,.xO]]⟩),(1,⟨1,us (aY2 F (fun f=>cR rs l f (w+1)) (fun f=>cR rs l f w) i)⟩),(0,⟨3,[[.int .i64 0,.xO,.xO]]⟩)]⟩)
   (fun i=>i<=F) (fun i=>F-i) 0 (Nat.zero_le _) ?_ ?_
  ·rw [aWe]
   (refine xM.same ?_; simp [xP,Fr.get])
  intro i hi;refine xN mixed ?_
  by_cases hil:i<F
  ·have hd2:((i:Int)<(F:Int)):=by omega
   have hmg:=uW (aY2 F (fun f=>cR rs l f (w+1)) (fun f=>cR rs l f w) i) (show i<_ by rw [aX6]; exact hil);rw [aRw _ _ hil] at hmg;have hms:=aRv F (fun f=>cR rs l f (w+1)) (fun f=>cR rs l f w) i;simp only [hv i] at hms;have hml:=aX6 F (fun f=>cR rs l f (w+1)) (fun f=>cR rs l f w) i;generalize aY2 F (fun f=>cR rs l f (w+1)) (fun f=>cR rs l f w) i=M at hmg hms hml;simp only [simprocAttr,-ZA,↓zU,↓zD,zV,zT,zW,hd2,xK,hml,hmg,hd0,hg2,bXt,lU,hms]
   (repeat refine sd ?_)
   refine⟨i+1,by omega,?_,by omega⟩
   (refine xM.same ?_; simp only [xP,Fr.get,simprocAttr,-ZA,zS])
   exact wrap_i64 (by omega)
  ·have hd2:¬ ((i:Int)<(F:Int)):=by omega
   rw [aRx _ _ _ (by omega:F<=i)];simp only [simprocAttr,-ZA,↓zU,↓zD,zV,zT,zW,hd2]
   (repeat refine sd ?_)
   refine⟨w+1,by omega,?_,by omega⟩
   (refine xM.ren [] [2,1,0] (by simp) (by simp) (by decide) ?_; simp only [yK,vwL,vw,vwF,sw,St.get,St.look,Fr.get,simprocAttr,-ZA,exists_eq_left',ne_eq,zR,yD])
   exact wrap_i64 (by omega)
 have hd:¬ ((w:Int)<(sts.length:Int)):=by omega
 obtain rfl:w=sts.length:=by omega
 rw [show ((List.range F).map fun f=>cR rs l f sts.length)= aH rs l F by rw [<- hll]; rfl];simp only [simprocAttr,-ZA,↓zU,↓zD,zV,zT,zW,hd]
 refine xQ (fun a:Nat=>[(66,.int .i64 a),(65,.int .i64 p.see.length),(5,.ref 2 3 0 0),(4,.ref 0 3 0 0),(1,.int .i64 t),(0,.ptr [.int .i64 F,.sl 1 (us p.init),.sl 1 (us p.see),.sl 1 (mvR p.xF),.sl 1 (cdR p.code),.sl 1 (rr sts)])])
  (fun a=>⟨4,yY 3 1 (rr (mA rs l a))++ [(2,⟨3,[[.int .i64 sts.length,.osl 1 1 F,xA 3 1 (rr (mA rs l a))]]⟩),(1,⟨1,us (aH rs l F)⟩),(0,⟨3,[[.int .i64 0,.xO,.xO]]⟩)]⟩)
  (fun a=>a<=p.see.length) (fun a=>p.see.length-a) 0 (Nat.zero_le _) ?_ ?_
 ·(refine xM.ren [] [2,1,0] (by simp) (by simp) (by decide) ?_; simp only [yK,vwL,vw,vwF,sw,St.get,St.look,Fr.get,simprocAttr,-ZA,exists_eq_left',ne_eq,zR,mA,List.range_zero,List.map_nil,zA,zB,List.nil_append,yD,show rr [] = [] from rfl])
 intro a ha;refine xN mixed ?_;by_cases hal:a<p.see.length
 case neg=>
  have hd2:¬ ((a:Int)<(p.see.length:Int)):=by omega
  obtain rfl:a=p.see.length:=by omega
  have hvl:(us (aH rs l F)).length=F:=by simp [us,aH]
  rw [hll];simp only [simprocAttr,-ZA,↓zU,↓zD,zV,zT,zW,hd2]
  (refine iT.ren [] [] (by simp) (by simp) (by decide) ?_; simp only [yK,vwL,vw,vwF,sw,St.get,St.look,Fr.get,simprocAttr,-ZA,exists_eq_left',ne_eq,zR,yD,rV])
  exact⟨fun _ h=>h.elim,by omega,(List.take_of_length_le (by omega)).symm,rN _⟩
 have hd2:((a:Int)<(p.see.length:Int)):=by omega
 have hrel:mA rs l (a+1)= mA rs l a ++ [kE rs l a]:=by unfold mA; rw [List.range_succ,List.map_append]; rfl
 generalize hRL:mA rs l a=RL at hrel;have hrl:(kE rs l a).length=sts.length:=by simp [kE,hll]
 have hrlg:∀ w,w<sts.length->(kE rs l a).getD w 0#64=Ru.aF rs l a (yQ rs a (w,0)) sts.length:=fun w hw=>by rw [<- hll] at hw ⊢;have:=hlg w (by omega);simp only [List.getD,hw,List.getElem?_eq_getElem,Option.getD_some] at this;simp [kE,List.getD,hw,this]
 simp only [simprocAttr,-ZA,↓zU,↓zD,zV,zT,zW,zP,hd2]
 refine zN (fun w:Nat=>[(74,.int .i64 w),(73,.int .i64 sts.length),(66,.int .i64 a),(65,.int .i64 p.see.length),(10,xA 4 1 (us ((kE rs l a).take w))),(9,.int .i64 a),(5,.ref 2 3 0 0),(4,.ref 0 3 0 0),(1,.int .i64 t),(0,.ptr [.int .i64 F,.sl 1 (us p.init),.sl 1 (us p.see),.sl 1 (mvR p.xF),.sl 1 (cdR p.code),.sl 1 (rr sts)])])
  (fun w=>⟨5,yY 4 1 (us ((kE rs l a).take w))++ (yY 3 1 (rr RL)++ [(2,⟨3,[[.int .i64 sts.length,.osl 1 1 F,xA 3 1 (rr RL)]]⟩),(1,⟨1,us (aH rs l F)⟩),(0,⟨3,[[.int .i64 0,.xO,.xO]]⟩)])⟩)
  (fun w=>w<=sts.length) (fun w=>sts.length-w) 0 (Nat.zero_le _) ?_ ?_
 ·(refine xM.ren [] [3,2,1,0] (by simp) (by simp) (by decide) ?_; simp only [yK,vwL,vw,vwF,sw,St.get,St.look,Fr.get,simprocAttr,-ZA,exists_eq_left',ne_eq,zR,List.take_zero,aSm,zA,zB,List.nil_append,yD,rV])
 intro w hw;refine xN mixed ?_;by_cases hwl:w<sts.length
 case neg=>
  have hd3:¬ ((w:Int)<(sts.length:Int)):=by omega
  rw [show (kE rs l a).take w=kE rs l a by rw [show w=(kE rs l a).length by omega,List.take_length]];simp only [simprocAttr,-ZA,↓zU,↓zD,zV,zT,zW,hd3]
  refine .go [(66,.int .i64 a),(65,.int .i64 p.see.length),(10,.sl 1 (us (kE rs l a))),(9,.int .i64 a),(5,.ref 2 3 0 0),(4,.ref 0 3 0 0),(1,.int .i64 t),(0,.ptr [.int .i64 F,.sl 1 (us p.init),.sl 1 (us p.see),.sl 1 (mvR p.xF),.sl 1 (cdR p.code),.sl 1 (rr sts)])]
   ⟨4,yY 3 1 (rr RL)++ [(2,⟨3,[[.int .i64 sts.length,.osl 1 1 F,xA 3 1 (rr RL)]]⟩),(1,⟨1,us (aH rs l F)⟩),(0,⟨3,[[.int .i64 0,.xO,.xO]]⟩)]⟩ ?_ ?_
  ·(refine xM.ren [] [3,2,1,0] (by simp) (by simp) (by decide) ?_; simp only [yK,vwL,vw,vwF,sw,St.get,St.look,Fr.get,simprocAttr,-ZA,exists_eq_left',ne_eq,zR,yD,rV])
  have hRLl:RL.length=a:=by rw [<- hRL]; simp [mA]
  simp only [simprocAttr,-ZA,↓zU,↓zD,zV,zT,zW,zP,hRLl]
  (repeat refine sd ?_)
  refine⟨a+1,by omega,?_,by omega⟩;rw [hrel]
  (refine xM.ren [(3,4)] [3,2,1,0] (by simp) (by simp) (by decide) ?_; simp only [yK,vwL,vw,vwF,sw,St.get,St.look,Fr.get,simprocAttr,-ZA,exists_eq_left',ne_eq,zR,yD,rV])
  exact wrap_i64 (by omega)
 have hd3:((w:Int)<(sts.length:Int)):=by omega
 have hrg:(kE rs l a).take (w+1)= (kE rs l a).take w ++ [Ru.aF rs l a (yQ rs a (w,0)) sts.length]:=by rw [wT (d:=0#64) (by omega),hrlg w hwl]
 have htl:((kE rs l a).take w).length=w:=by rw [List.length_take]; omega
 generalize (kE rs l a).take w=rw' at hrg htl;simp only [simprocAttr,-ZA,↓zU,↓zD,zV,zT,zW,hd3,zP]
 refine xQ (fun v:Nat=>[(82,.int .i64 v),(81,.int .i64 sts.length),(74,.int .i64 w),(73,.int .i64 sts.length),(66,.int .i64 a),(65,.int .i64 p.see.length),(12,.int .u64 (ui (Ru.aF rs l a (yQ rs a (w,0)) v))),(11,.int .i64 w),(10,xA 4 1 (us rw')),(9,.int .i64 a),(5,.ref 2 3 0 0),(4,.ref 0 3 0 0),(1,.int .i64 t),(0,.ptr [.int .i64 F,.sl 1 (us p.init),.sl 1 (us p.see),.sl 1 (mvR p.xF),.sl 1 (cdR p.code),.sl 1 (rr sts)])])
  (fun _=>⟨5,yY 4 1 (us rw')++ (yY 3 1 (rr RL)++ [(2,⟨3,[[.int .i64 sts.length,.osl 1 1 F,xA 3 1 (rr RL)]]⟩),(1,⟨1,us (aH rs l F)⟩),(0,⟨3,[[.int .i64 0,.xO,.xO]]⟩)])⟩)
  (fun v=>v<=sts.length) (fun v=>sts.length-v) 0 (Nat.zero_le _) ?_ ?_
 ·(refine xM.same ?_; simp only [xP,Fr.get,simprocAttr,-ZA,zS,Ru.aF])
  all_goals rfl
 intro v hv;refine xN mixed ?_;by_cases hvl:v<sts.length
 case neg=>
  have hd4:¬ ((v:Int)<(sts.length:Int)):=by omega
  obtain rfl:v=sts.length:=by omega
  simp only [simprocAttr,-ZA,↓zU,↓zD,zV,zT,zW,hd4,xK,htl]
  (repeat refine sd ?_)
  refine⟨w+1,by omega,?_,by omega⟩;rw [hrg]
  (refine xM.ren [(4,5)] [4,3,2,1,0] (by simp) (by simp) (by decide) ?_; simp only [yK,vwL,vw,vwF,sw,St.get,St.look,Fr.get,simprocAttr,-ZA,exists_eq_left',ne_eq,zR,yD,rV])
  exact wrap_i64 (by omega)
 have hd4:((v:Int)<(sts.length:Int)):=by omega
 have hrk:Ru.aF rs l a (yQ rs a (w,0)) (v+1)= Ru.aF rs l a (yQ rs a (w,0)) v ||| (if yQ rs a (v,0)= yQ rs a (w,0) then 1#64 <<< v else 0#64):=by rw [<- hlg v hvl]; rfl
 have heq:=bXh (a:=nJ p.see (stR sts w) a t) (b:=nJ p.see (stR sts v) a t);rw [hkey a v w hal hvl hwl] at heq;have h1:=hist a w hal hwl;have h2:=hist a v hal hvl;generalize nJ p.see (stR sts w) a t=x1 at heq h1;generalize nJ p.see (stR sts v) a t=x2 at heq h2;simp only [simprocAttr,-ZA,↓zU,↓zD,zV,zT,zW,hd4];refine .go (cr h1) ?_;simp only [simprocAttr,-ZA,↓zU,↓zD,zV,zT,zW];refine .go (cr h2) ?_;simp only [simprocAttr,-ZA,↓zU,↓zD,zV,zT,zW];refine .go (cr heq) ?_
 by_cases c:yQ rs a (v,0)= yQ rs a (w,0)
 ·rw [if_pos c] at hrk;rw [decide_eq_true c];simp only [simprocAttr,-ZA,↓zU,↓zD,zV,zT,zW]
  (repeat refine sd ?_)
  refine⟨v+1,by omega,?_,by omega⟩
  (refine xM.same ?_; simp only [xP,Fr.get,simprocAttr,-ZA,zS,hrk])
  exact wrap_i64 (by omega)
 ·rw [if_neg c,BitVec.or_zero] at hrk;rw [decide_eq_false c];simp only [simprocAttr,-ZA,↓zU,↓zD,zV,zT,zW];refine⟨v+1,by omega,?_,by omega⟩
  (refine xM.same ?_; simp only [xP,Fr.get,simprocAttr,-ZA,zS,hrk])
  exact wrap_i64 (by omega)
def aC1 (x y:BitVec 64):BitVec 64:=
 let x0:=x &&& 4294967295#64
 let x1:=x >>> 32
 let y0:=y &&& 4294967295#64
 let y1:=y >>> 32
 let w0:=x0*y0
 let t:=x1*y0+w0 >>> 32
 let w1:=(t &&& 4294967295#64)+ x0*y1
 let w2:=t >>> 32
 x1*y1+w2+w1 >>> 32
theorem aK9 : ∀ n:Fin 65,aC1 1#64 (BitVec.ofNat 64 n.val)= 0#64:=by decide +kernel
theorem bUt : D.int .u64 4294967295=D.int .u64 (ui 4294967295#64):=rfl
theorem bWq (x y:BitVec 64):yB Tryz.prog 238 [.int .u64 (ui x),.int .u64 (ui y)] (.tup [.int .u64 (ui (aC1 x y)),.int .u64 (ui (x*y))]):=by
 refine xY.xR mixed Tryz.func238 bT0 (by simp) fun hf=>?_;simp only [simprocAttr,-ZA,↓zU,↓zD,zV,zT,zW,bUt]
 (repeat refine sd ?_)
 exact .same
theorem aD3 {n:Nat} (hn:n<=64):yB Tryz.prog 190 [.int .u64 1,.int .u64 (n:Int)] (.tup [.int .u64 0,.int .u64 (n:Int)]):=by have h:=bWq 1#64 (BitVec.ofNat 64 n);have e1:aC1 1#64 (BitVec.ofNat 64 n)= 0#64:=aK9 ⟨n,by omega⟩;have e2:1#64*BitVec.ofNat 64 n=BitVec.ofNat 64 n:=BitVec.one_mul _;rw [e1,e2,aH0 (k:=n) (by omega)] at h;refine xY.xR mixed Tryz.func190 bSn (by simp) fun hf=>?_;simp only [bVm,bVn] at *;simp only [simprocAttr,-ZA,↓zU,↓zD,zV,zT,zW];refine .go (cr h) ?_;simp only [simprocAttr,-ZA,↓zU,↓zD,zV,zT,zW];exact .same
theorem aS7 {els:List (List D)} {n c:Nat} (h:c<=els.length):rowsOf ⟨n,[(0,⟨1,els⟩)]⟩ 1 (.osl 0 1 c)= some (els.take c):=by show (if (1:Nat)= 1 then(if 1=1/\c<=els.length then some (els.take c) else none) else none)= _;rw [if_pos rfl,if_pos ⟨rfl,h⟩]
def rI (d z:D) (n c:Nat):List (List D):=List.replicate c [d]++List.replicate (n-c) [z]
theorem aWz {d z:D} {n c:Nat} (h:c<=n):(rI d z n c).length=n:=by simp [rI]; omega
theorem jC {d z:D} {n c:Nat}:(rI d z n c).take c=List.replicate c [d]:=by unfold rI;rw [List.take_left' (by simp)]
theorem aQ {d z:D} {n c:Nat} (h:c<n):(rI d z n c).take c++(((rI d z n c).take c).take (min (n-c) c)++ (rI d z n c).drop (c+min (n-c) c))= rI d z n (c+min (n-c) c):=by
 rw [jC]
 have e:(rI d z n c).drop (c+min (n-c) c)= List.replicate (n-(c+min (n-c) c)) [z]:=by unfold rI;rw [List.drop_append,List.length_replicate,List.drop_eq_nil_of_le (by simp),List.nil_append,List.drop_replicate];congr 1;omega
 rw [e,List.take_replicate,show min (min (n-c) c) c=min (n-c) c by omega];unfold rI;rw [<- List.append_assoc,List.replicate_append_replicate]
theorem dC {d z:D} {n:Nat} (h:1<=n):[[d]].take (min n 1)++ (List.replicate n [z]).drop (min n 1)= rI d z n 1:=by rw [Nat.min_eq_right h,List.drop_replicate];rfl
theorem aKv {d:D} (hd:d.xL=true) (h1:d.one=true) {n:Nat} (hn:1<=n/\n<=64):xY Tryz.prog 131 [.sl 1 [[d]],.int .i64 (n:Int)] St0 (.osl 0 1 n) ⟨1,[(0,⟨1,List.replicate n [d]⟩)]⟩:=by
 have hM:=aD3 hn.2;have hw:=aC7 (n:=n) (by omega);have hw1:IntKind.u64.wrap ((1:Nat):Int)= 1:=by decide
 have hw2:IntKind.i64.wrap (n:Int)= (n:Int):=wrap_i64 (by omega);have hneg:¬ ((n:Int)<0):=by omega
 refine xY.xR mixed Tryz.func131 bRo (by simp) fun hf=>?_;simp only [simprocAttr,-ZA,↓zU,↓zD,zV,zT,zW,hneg,hw1,hw,show (1:Nat)= 1 from rfl];simp only [bVm,bVn,show IntKind.u64.wrap 1=1 from by decide] at *;refine .go (cr hM) ?_;have hz:¬ (ui 0#64<ui 0#64):=Int.lt_irrefl _;have hb:¬ ((9223372036854775807:Int)<(n:Int)):=by omega
 have hp1:D.xU [d]=true:=by simp [D.xU,hd]
 simp only [simprocAttr,-ZA,↓zU,↓zD,zV,zT,zW,hz,hb,hw2,h1];refine⟨by omega,by omega,by simp,by omega,?_⟩;rw [Nat.min_eq_right hn.1];have hstart:=dC (d:=d) (z:=D.int .i64 0) hn.1;rw [Nat.min_eq_right hn.1] at hstart;have hlr:(List.replicate n [D.int .i64 0]).length=n:=by simp
 refine xQ (fun c:Nat=>[(8,.int .i64 c),(7,.osl 0 1 n)]) (fun c=>⟨1,[(0,⟨1,rI d (D.int .i64 0) n c⟩)]⟩) (fun c=>1<=c/\c<=n) (fun c=>n-c) 1 ⟨Nat.le_refl _,hn.1⟩ ?_ ?_
 ·rw [<- hstart]
  (refine xM.same ?_; simp [xP,Fr.get])
 intro c ⟨hc1,hc2⟩;refine xN mixed ?_;have hL:=aWz (d:=d) (z:=D.int .i64 0) hc2
 by_cases hcn:c<n
 ·have hd1:((c:Int)<(n:Int)):=by omega
  simp only [simprocAttr,-ZA,↓zU,↓zD,zV,zT,zW,hd1];have i1:¬ ((c:Int)= 0):=by omega
  have i2:¬ ((c:Int)= (n:Int)):=by omega
  have hst:=aQ (d:=d) (z:=D.int .i64 0) hcn;have htk:=jC (d:=d) (z:=D.int .i64 0) (n:=n) (c:=c);generalize rI d (D.int .i64 0) n c=els at hL hst htk ⊢;refine⟨(c:Int),(n:Int),rfl,rfl,by omega,by omega,by omega,0,(c:Int),rfl,rfl,by omega,by omega,by omega,?_⟩;simp only [↓reduceIte,if_neg i1,if_neg i2,Int.toNat_natCast];first | rw [if_pos ⟨trivial,by omega⟩] | rw [aS7 (by omega)]
  refine⟨fun r hr=>?_,trivial,trivial,by omega,?_⟩
  ·rw [htk] at hr;rw [List.eq_of_mem_replicate hr];simp [h1]
  have hm:(min (n-c) (els.take c).length)= min (n-c) c:=by rw [List.length_take]; omega
  rw [hm];have em:(n:Int).toNat-c=n-c:=by omega
  refine⟨by omega,c+min (n-c) c,⟨by omega,by omega⟩,?_,by omega⟩;rw [hst]
  (refine xM.same ?_; simp only [xP,Fr.get,simprocAttr,-ZA,zS])
  rw [wrap_i64 (by omega)];omega
 ·have hd1:¬ ((c:Int)<(n:Int)):=by omega
  obtain rfl:c=n:=by omega
  have he:rI d (D.int .i64 0) c c=List.replicate c [d]:=by simp [rI]
  rw [he];simp only [simprocAttr,-ZA,↓zU,↓zD,zV,zT,zW,hd1];exact .same
theorem aKu {d:D} (hd:d.xL=true) (h1:d.one=true) {n:Nat} (hn:1<=n/\n<=64):xY Tryz.prog 224 [.sl 1 [[d]],.int .i64 (n:Int)] St0 (.osl 0 1 n) ⟨1,[(0,⟨1,List.replicate n [d]⟩)]⟩:=by
 have hM:=aD3 hn.2;have hw:=aC7 (n:=n) (by omega);have hw1:IntKind.u64.wrap ((1:Nat):Int)= 1:=by decide
 have hw2:IntKind.i64.wrap (n:Int)= (n:Int):=wrap_i64 (by omega);have hneg:¬ ((n:Int)<0):=by omega
 refine xY.xR mixed Tryz.func224 bT3 (by simp) fun hf=>?_;simp only [simprocAttr,-ZA,↓zU,↓zD,zV,zT,zW,hneg,hw1,hw,show (1:Nat)= 1 from rfl];simp only [bVm,bVn,show IntKind.u64.wrap 1=1 from by decide] at *;refine .go (cr hM) ?_;have hz:¬ (ui 0#64<ui 0#64):=Int.lt_irrefl _;have hb:¬ ((9223372036854775807:Int)<(n:Int)):=by omega
 have hp1:D.xU [d]=true:=by simp [D.xU,hd]
 simp only [simprocAttr,-ZA,↓zU,↓zD,zV,zT,zW,hz,hb,hw2,h1];refine⟨by omega,by omega,by simp,by omega,?_⟩;rw [Nat.min_eq_right hn.1];have hstart:=dC (d:=d) (z:=D.xO) hn.1;rw [Nat.min_eq_right hn.1] at hstart;have hlr:(List.replicate n [D.xO]).length=n:=by simp
 refine xQ (fun c:Nat=>[(8,.int .i64 c),(7,.osl 0 1 n)]) (fun c=>⟨1,[(0,⟨1,rI d (D.xO) n c⟩)]⟩) (fun c=>1<=c/\c<=n) (fun c=>n-c) 1 ⟨Nat.le_refl _,hn.1⟩ ?_ ?_
 ·rw [<- hstart]
  (refine xM.same ?_; simp [xP,Fr.get])
 intro c ⟨hc1,hc2⟩;refine xN mixed ?_;have hL:=aWz (d:=d) (z:=D.xO) hc2
 by_cases hcn:c<n
 ·have hd1:((c:Int)<(n:Int)):=by omega
  simp only [simprocAttr,-ZA,↓zU,↓zD,zV,zT,zW,hd1];have i1:¬ ((c:Int)= 0):=by omega
  have i2:¬ ((c:Int)= (n:Int)):=by omega
  have hst:=aQ (d:=d) (z:=D.xO) hcn;have htk:=jC (d:=d) (z:=D.xO) (n:=n) (c:=c);generalize rI d (D.xO) n c=els at hL hst htk ⊢;refine⟨(c:Int),(n:Int),rfl,rfl,by omega,by omega,by omega,0,(c:Int),rfl,rfl,by omega,by omega,by omega,?_⟩;simp only [↓reduceIte,if_neg i1,if_neg i2,Int.toNat_natCast];first | rw [if_pos ⟨trivial,by omega⟩] | rw [aS7 (by omega)]
  refine⟨fun r hr=>?_,trivial,trivial,by omega,?_⟩
  ·rw [htk] at hr;rw [List.eq_of_mem_replicate hr];simp [h1]
  have hm:(min (n-c) (els.take c).length)= min (n-c) c:=by rw [List.length_take]; omega
  rw [hm];have em:(n:Int).toNat-c=n-c:=by omega
  refine⟨by omega,c+min (n-c) c,⟨by omega,by omega⟩,?_,by omega⟩;rw [hst]
  (refine xM.same ?_; simp only [xP,Fr.get,simprocAttr,-ZA,zS])
  rw [wrap_i64 (by omega)];omega
 ·have hd1:¬ ((c:Int)<(n:Int)):=by omega
  obtain rfl:c=n:=by omega
  have he:rI d (D.xO) c c=List.replicate c [d]:=by simp [rI]
  rw [he];simp only [simprocAttr,-ZA,↓zU,↓zD,zV,zT,zW,hd1];exact .same
theorem aAi (n:Nat):List.replicate n [D.int .i64 (-1)]=rows .i64 (List.replicate n (-1)):=by simp [rows]
theorem aB5 (n:Nat):List.replicate n [D.sl 1 (us [1#64])]=rr (List.replicate n [1#64]):=by simp [rr,bYf]
open Rs Fm Ru Te
namespace Te
theorem aJy {A F:Nat} {c:List Nd} (hv:yA c) (h:∀ p ∈ c,pS A F p=true):∀ i,i<c.length->rX A F (tree c i)= true:=by
 intro i
 induction i using Nat.strongRecOn with
 | _ i ih=>
  intro hi;obtain⟨ox,oy,_,_⟩:=vY (hv i hi);have hs:=h (c.getD i nd0) (by rw [List.getD,List.getElem?_eq_getElem hi]; exact List.getElem_mem hi);rw [wN hv hi];show (pS A F _&&(rX A F _&&rX A F _))= true;rw [show pS A F ⟨(c.getD i nd0).op,(c.getD i nd0).i,(c.getD i nd0).e,(c.getD i nd0).g,0,0⟩= pS A F (c.getD i nd0) from rfl,hs,Bool.true_and,Bool.and_eq_true]
  constructor
  ·split
   ·rename_i hx; have:=ox hx; exact ih _ (by omega) (by omega)
   ·rfl
  ·split
   ·rename_i hy; have:=oy hy; exact ih _ (by omega) (by omega)
   ·rfl
theorem aKe {A F:Nat} {p:Nd} {k:Int} (hn:yE p k=0) (ho:okN A F p=true) (ht:jW p &&& 256=0):pS A F p=true:=by
 unfold okN at ho;simp only [Bool.and_eq_true,decide_eq_true_eq] at ho;obtain⟨⟨h1,h2⟩,h3⟩:=ho
 have hi0:p.op=3\/p.op=9\/p.op=10->0<=p.i:=fun h=>by
  rcases h with h | h | h
  ·exact(jR hn (by rw [h]; rfl)).1
  ·exact(tB hn (by rw [h]; rfl)).1
  ·exact(tB hn (by rw [h]; rfl)).1
 have hg0:=gV hn;have hu:=(vZ.1 hn).1
 have lt_of:∀ {a b:Nat},2 ^ a / 2 ^ b=0->a<b:=fun {a b} h=>Decidable.byContradiction fun hh=>by have:=Nat.pow_le_pow_right (n:=2) (by decide) (show b<=a by omega);have:=Nat.div_pos this (Nat.two_pow_pos b);omega
 obtain⟨op,i,e,g,a,b⟩:=p;simp only at hi0 hg0 hu
 rcases lK op with rfl | rfl | rfl | rfl | rfl | rfl | rfl | rfl | rfl | rfl | rfl | rfl | rfl | rfl | rfl | rfl | rfl | rfl | rfl | rfl | rfl | h | h
 ·rfl
 ·rfl
 ·have h3:2 ^ i.toNat / 2 ^ F=0:=h3;have:=lt_of h3;have h0:=hi0 (.inl rfl);show decide (i<(F:Int))= true;exact decide_eq_true (by omega)
 ·rfl
 ·rfl
 ·rfl
 ·rfl
 ·rfl
 ·have h2:2 ^ i.toNat / 2 ^ A=0:=h2;have:=lt_of h2;have h0:=hi0 (.inr (.inl rfl));show decide (i<(A:Int))= true;exact decide_eq_true (by omega)
 ·have h2:2 ^ i.toNat / 2 ^ A=0:=h2;have:=lt_of h2;have h0:=hi0 (.inr (.inr rfl));show decide (i<(A:Int))= true;exact decide_eq_true (by omega)
 iterate 3
  ·have h2:g.toNat / 2 ^ A=0:=h2;have:=(Nat.div_eq_zero_iff.1 h2).resolve_left (by have:=Nat.two_pow_pos A; omega);show decide (g<((2 ^ A:Nat):Int))= true;exact decide_eq_true (by omega)
 ·exact absurd h1 (show ¬ (16:Nat)&&& 3824=0 by decide)
 ·exact absurd h1 (show ¬ (32:Nat)&&& 3824=0 by decide)
 ·exact absurd h1 (show ¬ (64:Nat)&&& 3824=0 by decide)
 ·exact absurd h1 (show ¬ (128:Nat)&&& 3824=0 by decide)
 iterate 4
  ·exact absurd ht (show ¬ (256:Nat)&&& 256=0 by decide)
 ·rw [lP (.inl h)] at hu; cases hu
 ·rw [lP (.inr h)] at hu; cases hu
theorem aJx {n:Nat} (h:n<4096) (h1:n &&& 3824=0) (h2:n &&& 256=0):(pT .andNot .i64 (n:Int) 15 != 0)= false:=by
 have h16:∀ n:Fin 4096,n.val &&& 3824=0->n.val &&& 256=0->n.val<16:=by decide +kernel
 have:∀ n:Fin 16,(pT .andNot .i64 ((n.val:Nat):Int) 15 != 0)= false:=by decide +kernel
 exact this ⟨n,h16 ⟨n,h⟩ h1 h2⟩
theorem lH (f:List Nd):zC f<4096:=by refine fI fun p _=>?_;have:=aXe p.op;unfold jW; omega
theorem aTm {s:tZ} {A F T:Nat} {rs:List xD} (hs:s=⟨A,F,T,rs⟩) (hz:chk s=0) (ok:OkR rs A F T) {f:List Nd} (hE:kF s f=0) (ht:zC f &&& 256=0) :
  rX A F (uQ f)= true/\(pT .andNot .i64 (zC f:Int) 15 != 0)= false/\sT f A F=true:=by
 have hc:=(oG hE).2;have hN:=(aUo hs hz ok hc).1 hE
 have hT:∀ p ∈ xH f,jW p &&& 256=0:=by
  have:=ht;unfold zC at this
  rwa [rA (φ:=fun n=>n &&& 256) (by decide) (fun a b=>Nat.and_or_distrib_right a b 256),sI] at this
 have h38:zC f &&& 3824=0:=by unfold zC;rw [rA (φ:=fun n=>n &&& 3824) (by decide) (fun a b=>Nat.and_or_distrib_right a b 3824),sI];intro p hp;have:=hN p hp;unfold okN at this;simp only [Bool.and_eq_true,decide_eq_true_eq] at this;exact this.1.1
 refine⟨?_,aJx (lH f) h38 ht,?_⟩
 ·have hl:=uC hc;rw [<- (uT hc).1];refine aJy (iS f) (fun p hp=>?_) _ (by omega);obtain⟨k,hk⟩:=bX (gF f _) hp;exact aKe hk (hN p hp) (hT p hp)
 ·unfold kF at hE;rw [if_neg (by simpa using hz),if_neg (by simpa using hc),aYf (lH f),if_neg (by simp [h38])] at hE;subst hs
  cases hf:sT f A F with
  | true=>rfl
  | false=>simp only [hf,↓reduceIte] at hE; cases hE
end Te
namespace Kb
theorem bWy : ∀ n:Fin 4096,(pT .andNot .i64 ((n.val:Nat):Int) 15 != 0)= false->n.val<16:=by decide +kernel
theorem bUw : ∀ n:Fin 4096,(pT .andNot .i64 ((n.val:Nat):Int) 0 != 0)= false->n.val=0:=by decide +kernel
end Kb
end Go.Pd
