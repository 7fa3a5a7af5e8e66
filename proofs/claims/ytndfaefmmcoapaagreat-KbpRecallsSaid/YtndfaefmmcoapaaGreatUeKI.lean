/- Part KI. -/
import Derived.Test.YtndfaefmmcoapaaGreatUeC6
import Derived.Test.YtndfaefmmcoapaaGreatUeXA
import Derived.Test.YtndfaefmmcoapaaGreatUeX9
import Derived.Test.YtndfaefmmcoapaaGreatUeX8
set_option linter.unusedSectionVars false
set_option linter.unusedVariables false
set_option linter.unusedSimpArgs false
set_option linter.defProp false
set_option maxRecDepth 20000
set_option maxHeartbeats 1000000
namespace Go.Pd
open Go Go.Proofs
open BitVec renaming isValue -> ZA
open Rs Fm Ru Te Kb
structure bVw (p : PrA) (F : Nat) (sts : List (List (BitVec 64))) (t : Nat) : Prop where
 fe:p.F=(F:Int)
 hF:F<=8
 hA:p.see.length<=4
 hR:sts.length<=64
 len:∀ st ∈ sts,t<st.length
 ht:t<=1000
theorem aMh {a b:List (BitVec 64)}:yV Tryz.prog 74 [.sl 1 (us a),.sl 1 (us b)] (.bool (decide (a.map ui=b.map ui))):=by rw [kK,kK];exact aXn _ _
theorem aGh {p:PrA} {F:Nat} {sts:List (List (BitVec 64))} {t:Nat} (ok:bVw p F sts t):yV Tryz.prog 130 [plD p sts,.int .i64 t] (aJ4 p.see sts t F):=by
 have hF:=ok.hF;have hA:=ok.hA;have hR:=ok.hR;have ht:=ok.ht;have hl:∀ i,i<sts.length->t<(stR sts i).length:=fun i hi=>ok.len _ (xN hi);have hist:∀ a w,a<p.see.length->w<sts.length->yV Tryz.prog 75 [plD p sts,.int .i64 a,.int .i64 w,.int .i64 t] (.sl 1 (us (rC p.see (stR sts w) a t))):=fun a w ha hw=>pL (pH p ha hw (hl w hw) ht);have hkey:=fun a v w (ha:a<p.see.length) (hv:v<sts.length) (hw:w<sts.length)=>aBk (see:=p.see) (t:=t) ha hv hw;have hfac:=fun w (hw:w<sts.length)=>aIw (see:=p.see) (t:=t) hw;unfold aJ4 aAv;have hll:(vF sts.length 0).length=sts.length:=aYw _ _;have hlg:∀ i,i<sts.length->(vF sts.length 0).getD i (0,0)= (i,0):=fun i hi=>pO hi;generalize vT p.see sts t=rs at *;generalize vF sts.length 0=l at *;unfold plD plC at *;rw [ok.fe] at *;refine xX.xP mixed Tryz.func130 bTq (by simp) fun hf=>?_
 have hz:List.replicate F [D.int .u64 (ui 0#64)]=us ((List.range F).map fun f=>eB rs l f 0):=by simp only [eB,us,List.map_map];refine List.ext_getElem (by simp) fun i h1 h2=>?_;simp
 simp only [simprocAttr,-ZA,↓zU,↓zD,zV,zT,zW,zM,↓aTr]
 (refine aYv mixed ?_; unfold aOx; simp only [simprocAttr,-ZA,↓zU,↓zD,zV,zT,zW,↓aAs,↓aAr,↓rz1,↓rz2,↓rz3,↓rz4,↓rz5,↓rz6,↓aOs,qQ,oJ,zM])
 refine⟨by omega,by omega,by omega,by omega,?_,?_⟩
 ·rw [hz]
  (refine xI.ren [(1,2),(2,1)] [2,1,0] (by simp) (by simp) (by decide) ?_; simp only [yQ,vwL,vw,vwF,sw,St.get,St.look,Fr.get,simprocAttr,-ZA,exists_eq_left',ne_eq,zR,yC])
 refine xW (fun w:Nat=>[(31,.int .i64 w),(30,.int .i64 sts.length),(29,.sl 1 (rr sts)),(5,.ref 2 3 0 0),(4,.ref 0 3 0 0),(1,.int .i64 t),(0,.ptr [.int .i64 F,.sl 1 (us p.init),.sl 1 (us p.see),.sl 1 (mvR p.xL),.sl 1 (cdR p.code),.sl 1 (rr sts)])])
  (fun w=>⟨3,[(2,⟨3,[[.int .i64 sts.length,.osl 1 1 F,.xH]]⟩),(1,⟨1,us ((List.range F).map fun f=>eB rs l f w)⟩),(0,⟨3,[[.int .i64 0,.xH,.xH]]⟩)]⟩)
  (fun w=>w<=sts.length) (fun w=>sts.length-w) 0 (Nat.zero_le _) ?_ ?_
 ·rw [<- hz]
  (refine xI.same ?_; simp [xR,Fr.get])
 intro w hw;refine xQ mixed ?_
 by_cases hwl:w<sts.length
 ·have hd:((w:Int)<(sts.length:Int)):=by omega
  have hg:=nX sts hwl
  have hv:∀ f,eB rs l f (w+1)= eB rs l f w ||| (if ((stR sts w).getD t 0).getLsbD f then 1#64 <<< w else 0#64):=fun f=>by rw [<- hfac w hwl,<- hlg w hwl]; rfl
  have hlw:=hl w hwl;unfold stR at hv hlw;generalize sts.getD w []=st at hg hv hlw;have hg2:=zE st hlw;have hd0:((t:Int)<(st.length:Int)):=by omega
  generalize st.getD t 0=x at hg2 hv;simp only [simprocAttr,-ZA,↓zU,↓zD,zV,zT,zW,hd,zM,hg]
  (repeat refine sd ?_)
  refine xW (fun i:Nat=>[(39,.int .i64 i),(38,.int .i64 F),(31,.int .i64 w),(30,.int .i64 sts.length),(29,.sl 1 (rr sts)),(7,.sl 1 (us st)),(6,.int .i64 w),(5,.ref 2 3 0 0),(4,.ref 0 3 0 0),(1,.int .i64 t),(0,.ptr [.int .i64 F,.sl 1 (us p.init),.sl 1 (us p.see),.sl 1 (mvR p.xL),.sl 1 (cdR p.code),.sl 1 (rr sts)])])
   (fun i=>⟨3,[(2,⟨3,[[.int .i64 sts.length,.osl 1 1 F,.xH]]⟩),(1,⟨1,us (aX5 F (fun f=>eB rs l f (w+1)) (fun f=>eB rs l f w) i)⟩),(0,⟨3,[[.int .i64 0,.xH,.xH]]⟩)]⟩)
   (fun i=>i<=F) (fun i=>F-i) 0 (Nat.zero_le _) ?_ ?_
  ·rw [aZe]
   (refine xI.same ?_; simp [xR,Fr.get])
  intro i hi;refine xQ mixed ?_
  by_cases hil:i<F
  ·have hd2:((i:Int)<(F:Int)):=by omega
   have hmg:=zE (aX5 F (fun f=>eB rs l f (w+1)) (fun f=>eB rs l f w) i) (show i<_ by rw [aXc]; exact hil);rw [aSq _ _ hil] at hmg;have hms:=aSp F (fun f=>eB rs l f (w+1)) (fun f=>eB rs l f w) i;simp only [hv i] at hms;have hml:=aXc F (fun f=>eB rs l f (w+1)) (fun f=>eB rs l f w) i;generalize aX5 F (fun f=>eB rs l f (w+1)) (fun f=>eB rs l f w) i=M at hmg hms hml;simp only [simprocAttr,-ZA,↓zU,↓zD,zV,zT,zW,hd2,xO,hml,hmg,hd0,hg2,aB5,mS,hms]
   (repeat refine sd ?_)
   refine⟨i+1,by omega,?_,by omega⟩
   (refine xI.same ?_; simp only [xR,Fr.get,simprocAttr,-ZA,zS])
   exact wrap_i64 (by omega)
  ·have hd2:¬ ((i:Int)<(F:Int)):=by omega
   rw [aSr _ _ _ (by omega:F<=i)];simp only [simprocAttr,-ZA,↓zU,↓zD,zV,zT,zW,hd2]
   (repeat refine sd ?_)
   refine⟨w+1,by omega,?_,by omega⟩
   (refine xI.ren [] [2,1,0] (by simp) (by simp) (by decide) ?_; simp only [yQ,vwL,vw,vwF,sw,St.get,St.look,Fr.get,simprocAttr,-ZA,exists_eq_left',ne_eq,zR,yC])
   exact wrap_i64 (by omega)
 have hd:¬ ((w:Int)<(sts.length:Int)):=by omega
 obtain rfl:w=sts.length:=by omega
 rw [show ((List.range F).map fun f=>eB rs l f sts.length)= bJ rs l F by rw [<- hll]; rfl];simp only [simprocAttr,-ZA,↓zU,↓zD,zV,zT,zW,hd]
 refine xW (fun a:Nat=>[(66,.int .i64 a),(65,.int .i64 p.see.length),(5,.ref 2 3 0 0),(4,.ref 0 3 0 0),(1,.int .i64 t),(0,.ptr [.int .i64 F,.sl 1 (us p.init),.sl 1 (us p.see),.sl 1 (mvR p.xL),.sl 1 (cdR p.code),.sl 1 (rr sts)])])
  (fun a=>⟨4,yW 3 1 (rr (nA rs l a))++ [(2,⟨3,[[.int .i64 sts.length,.osl 1 1 F,yX 3 1 (rr (nA rs l a))]]⟩),(1,⟨1,us (bJ rs l F)⟩),(0,⟨3,[[.int .i64 0,.xH,.xH]]⟩)]⟩)
  (fun a=>a<=p.see.length) (fun a=>p.see.length-a) 0 (Nat.zero_le _) ?_ ?_
 ·(refine xI.ren [] [2,1,0] (by simp) (by simp) (by decide) ?_; simp only [yQ,vwL,vw,vwF,sw,St.get,St.look,Fr.get,simprocAttr,-ZA,exists_eq_left',ne_eq,zR,nA,List.range_zero,List.map_nil,zK,zL,List.nil_append,yC,show rr [] = [] from rfl])
 intro a ha;refine xQ mixed ?_;by_cases hal:a<p.see.length
 case neg=>
  have hd2:¬ ((a:Int)<(p.see.length:Int)):=by omega
  obtain rfl:a=p.see.length:=by omega
  have hvl:(us (bJ rs l F)).length=F:=by simp [us,bJ]
  rw [hll];simp only [simprocAttr,-ZA,↓zU,↓zD,zV,zT,zW,hd2]
  (refine nB.ren [] [] (by simp) (by simp) (by decide) ?_; simp only [yQ,vwL,vw,vwF,sw,St.get,St.look,Fr.get,simprocAttr,-ZA,exists_eq_left',ne_eq,zR,yC,sF])
  exact⟨fun _ h=>h.elim,by omega,(List.take_of_length_le (by omega)).symm,rT _⟩
 have hd2:((a:Int)<(p.see.length:Int)):=by omega
 have hrel:nA rs l (a+1)= nA rs l a ++ [lC rs l a]:=by unfold nA; rw [List.range_succ,List.map_append]; rfl
 generalize hRL:nA rs l a=RL at hrel;have hrl:(lC rs l a).length=sts.length:=by simp [lC,hll]
 have hrlg:∀ w,w<sts.length->(lC rs l a).getD w 0#64=Ru.bH rs l a (zH rs a (w,0)) sts.length:=fun w hw=>by rw [<- hll] at hw ⊢;have:=hlg w (by omega);simp only [List.getD,hw,List.getElem?_eq_getElem,Option.getD_some] at this;simp [lC,List.getD,hw,this]
 simp only [simprocAttr,-ZA,↓zU,↓zD,zV,zT,zW,zM,hd2]
 refine sW (fun w:Nat=>[(74,.int .i64 w),(73,.int .i64 sts.length),(66,.int .i64 a),(65,.int .i64 p.see.length),(10,yX 4 1 (us ((lC rs l a).take w))),(9,.int .i64 a),(5,.ref 2 3 0 0),(4,.ref 0 3 0 0),(1,.int .i64 t),(0,.ptr [.int .i64 F,.sl 1 (us p.init),.sl 1 (us p.see),.sl 1 (mvR p.xL),.sl 1 (cdR p.code),.sl 1 (rr sts)])])
  (fun w=>⟨5,yW 4 1 (us ((lC rs l a).take w))++ (yW 3 1 (rr RL)++ [(2,⟨3,[[.int .i64 sts.length,.osl 1 1 F,yX 3 1 (rr RL)]]⟩),(1,⟨1,us (bJ rs l F)⟩),(0,⟨3,[[.int .i64 0,.xH,.xH]]⟩)])⟩)
  (fun w=>w<=sts.length) (fun w=>sts.length-w) 0 (Nat.zero_le _) ?_ ?_
 ·(refine xI.ren [] [3,2,1,0] (by simp) (by simp) (by decide) ?_; simp only [yQ,vwL,vw,vwF,sw,St.get,St.look,Fr.get,simprocAttr,-ZA,exists_eq_left',ne_eq,zR,List.take_zero,aTi,zK,zL,List.nil_append,yC,sF])
 intro w hw;refine xQ mixed ?_;by_cases hwl:w<sts.length
 case neg=>
  have hd3:¬ ((w:Int)<(sts.length:Int)):=by omega
  rw [show (lC rs l a).take w=lC rs l a by rw [show w=(lC rs l a).length by omega,List.take_length]];simp only [simprocAttr,-ZA,↓zU,↓zD,zV,zT,zW,hd3]
  refine .go [(66,.int .i64 a),(65,.int .i64 p.see.length),(10,.sl 1 (us (lC rs l a))),(9,.int .i64 a),(5,.ref 2 3 0 0),(4,.ref 0 3 0 0),(1,.int .i64 t),(0,.ptr [.int .i64 F,.sl 1 (us p.init),.sl 1 (us p.see),.sl 1 (mvR p.xL),.sl 1 (cdR p.code),.sl 1 (rr sts)])]
   ⟨4,yW 3 1 (rr RL)++ [(2,⟨3,[[.int .i64 sts.length,.osl 1 1 F,yX 3 1 (rr RL)]]⟩),(1,⟨1,us (bJ rs l F)⟩),(0,⟨3,[[.int .i64 0,.xH,.xH]]⟩)]⟩ ?_ ?_
  ·(refine xI.ren [] [3,2,1,0] (by simp) (by simp) (by decide) ?_; simp only [yQ,vwL,vw,vwF,sw,St.get,St.look,Fr.get,simprocAttr,-ZA,exists_eq_left',ne_eq,zR,yC,sF])
  have hRLl:RL.length=a:=by rw [<- hRL]; simp [nA]
  simp only [simprocAttr,-ZA,↓zU,↓zD,zV,zT,zW,zM,hRLl]
  (repeat refine sd ?_)
  refine⟨a+1,by omega,?_,by omega⟩;rw [hrel]
  (refine xI.ren [(3,4)] [3,2,1,0] (by simp) (by simp) (by decide) ?_; simp only [yQ,vwL,vw,vwF,sw,St.get,St.look,Fr.get,simprocAttr,-ZA,exists_eq_left',ne_eq,zR,yC,sF])
  exact wrap_i64 (by omega)
 have hd3:((w:Int)<(sts.length:Int)):=by omega
 have hrg:(lC rs l a).take (w+1)= (lC rs l a).take w ++ [Ru.bH rs l a (zH rs a (w,0)) sts.length]:=by rw [yB (d:=0#64) (by omega),hrlg w hwl]
 have htl:((lC rs l a).take w).length=w:=by rw [List.length_take]; omega
 generalize (lC rs l a).take w=rw' at hrg htl;simp only [simprocAttr,-ZA,↓zU,↓zD,zV,zT,zW,hd3,zM]
 refine xW (fun v:Nat=>[(82,.int .i64 v),(81,.int .i64 sts.length),(74,.int .i64 w),(73,.int .i64 sts.length),(66,.int .i64 a),(65,.int .i64 p.see.length),(12,.int .u64 (ui (Ru.bH rs l a (zH rs a (w,0)) v))),(11,.int .i64 w),(10,yX 4 1 (us rw')),(9,.int .i64 a),(5,.ref 2 3 0 0),(4,.ref 0 3 0 0),(1,.int .i64 t),(0,.ptr [.int .i64 F,.sl 1 (us p.init),.sl 1 (us p.see),.sl 1 (mvR p.xL),.sl 1 (cdR p.code),.sl 1 (rr sts)])])
  (fun _=>⟨5,yW 4 1 (us rw')++ (yW 3 1 (rr RL)++ [(2,⟨3,[[.int .i64 sts.length,.osl 1 1 F,yX 3 1 (rr RL)]]⟩),(1,⟨1,us (bJ rs l F)⟩),(0,⟨3,[[.int .i64 0,.xH,.xH]]⟩)])⟩)
  (fun v=>v<=sts.length) (fun v=>sts.length-v) 0 (Nat.zero_le _) ?_ ?_
 ·(refine xI.same ?_; simp only [xR,Fr.get,simprocAttr,-ZA,zS,Ru.bH])
  all_goals rfl
 intro v hv;refine xQ mixed ?_;by_cases hvl:v<sts.length
 case neg=>
  have hd4:¬ ((v:Int)<(sts.length:Int)):=by omega
  obtain rfl:v=sts.length:=by omega
  simp only [simprocAttr,-ZA,↓zU,↓zD,zV,zT,zW,hd4,xO,htl]
  (repeat refine sd ?_)
  refine⟨w+1,by omega,?_,by omega⟩;rw [hrg]
  (refine xI.ren [(4,5)] [4,3,2,1,0] (by simp) (by simp) (by decide) ?_; simp only [yQ,vwL,vw,vwF,sw,St.get,St.look,Fr.get,simprocAttr,-ZA,exists_eq_left',ne_eq,zR,yC,sF])
  exact wrap_i64 (by omega)
 have hd4:((v:Int)<(sts.length:Int)):=by omega
 have hrk:Ru.bH rs l a (zH rs a (w,0)) (v+1)= Ru.bH rs l a (zH rs a (w,0)) v ||| (if zH rs a (v,0)= zH rs a (w,0) then 1#64 <<< v else 0#64):=by rw [<- hlg v hvl]; rfl
 have heq:=aMh (a:=rC p.see (stR sts w) a t) (b:=rC p.see (stR sts v) a t);rw [hkey a v w hal hvl hwl] at heq;have h1:=hist a w hal hwl;have h2:=hist a v hal hvl;generalize rC p.see (stR sts w) a t=x1 at heq h1;generalize rC p.see (stR sts v) a t=x2 at heq h2;simp only [simprocAttr,-ZA,↓zU,↓zD,zV,zT,zW,hd4];refine .go (cr h1) ?_;simp only [simprocAttr,-ZA,↓zU,↓zD,zV,zT,zW];refine .go (cr h2) ?_;simp only [simprocAttr,-ZA,↓zU,↓zD,zV,zT,zW];refine .go (cr heq) ?_
 by_cases c:zH rs a (v,0)= zH rs a (w,0)
 ·rw [if_pos c] at hrk;rw [decide_eq_true c];simp only [simprocAttr,-ZA,↓zU,↓zD,zV,zT,zW]
  (repeat refine sd ?_)
  refine⟨v+1,by omega,?_,by omega⟩
  (refine xI.same ?_; simp only [xR,Fr.get,simprocAttr,-ZA,zS,hrk])
  exact wrap_i64 (by omega)
 ·rw [if_neg c,BitVec.or_zero] at hrk;rw [decide_eq_false c];simp only [simprocAttr,-ZA,↓zU,↓zD,zV,zT,zW];refine⟨v+1,by omega,?_,by omega⟩
  (refine xI.same ?_; simp only [xR,Fr.get,simprocAttr,-ZA,zS,hrk])
  exact wrap_i64 (by omega)
def aDg (x y:BitVec 64):BitVec 64:=
 let x0:=x &&& 4294967295#64
 let x1:=x >>> 32
 let y0:=y &&& 4294967295#64
 let y1:=y >>> 32
 let w0:=x0*y0
 let t:=x1*y0+w0 >>> 32
 let w1:=(t &&& 4294967295#64)+ x0*y1
 let w2:=t >>> 32
 x1*y1+w2+w1 >>> 32
theorem aL9 : ∀ n:Fin 65,aDg 1#64 (BitVec.ofNat 64 n.val)= 0#64:=by decide +kernel
theorem bWx : D.int .u64 4294967295=D.int .u64 (ui 4294967295#64):=rfl
theorem bYr (x y:BitVec 64):yV Tryz.prog 238 [.int .u64 (ui x),.int .u64 (ui y)] (.tup [.int .u64 (ui (aDg x y)),.int .u64 (ui (x*y))]):=by
 refine xX.xP mixed Tryz.func238 bUc (by simp) fun hf=>?_;simp only [simprocAttr,-ZA,↓zU,↓zD,zV,zT,zW,bWx]
 (repeat refine sd ?_)
 exact .same
theorem aEf {n:Nat} (hn:n<=64):yV Tryz.prog 190 [.int .u64 1,.int .u64 (n:Int)] (.tup [.int .u64 0,.int .u64 (n:Int)]):=by have h:=bYr 1#64 (BitVec.ofNat 64 n);have e1:aDg 1#64 (BitVec.ofNat 64 n)= 0#64:=aL9 ⟨n,by omega⟩;have e2:1#64*BitVec.ofNat 64 n=BitVec.ofNat 64 n:=BitVec.one_mul _;rw [e1,e2,aIt (k:=n) (by omega)] at h;refine xX.xP mixed Tryz.func190 bUz (by simp) fun hf=>?_;simp only [bZw,bZx] at *;simp only [simprocAttr,-ZA,↓zU,↓zD,zV,zT,zW];refine .go (cr h) ?_;simp only [simprocAttr,-ZA,↓zU,↓zD,zV,zT,zW];exact .same
theorem aT0 {els:List (List D)} {n c:Nat} (h:c<=els.length):rowsOf ⟨n,[(0,⟨1,els⟩)]⟩ 1 (.osl 0 1 c)= some (els.take c):=by show (if (1:Nat)= 1 then(if 1=1/\c<=els.length then some (els.take c) else none) else none)= _;rw [if_pos rfl,if_pos ⟨rfl,h⟩]
def rN (d z:D) (n c:Nat):List (List D):=List.replicate c [d]++List.replicate (n-c) [z]
theorem aZy {d z:D} {n c:Nat} (h:c<=n):(rN d z n c).length=n:=by simp [rN]; omega
theorem jR {d z:D} {n c:Nat}:(rN d z n c).take c=List.replicate c [d]:=by unfold rN;rw [List.take_left' (by simp)]
theorem bS {d z:D} {n c:Nat} (h:c<n):(rN d z n c).take c++(((rN d z n c).take c).take (min (n-c) c)++ (rN d z n c).drop (c+min (n-c) c))= rN d z n (c+min (n-c) c):=by
 rw [jR]
 have e:(rN d z n c).drop (c+min (n-c) c)= List.replicate (n-(c+min (n-c) c)) [z]:=by unfold rN;rw [List.drop_append,List.length_replicate,List.drop_eq_nil_of_le (by simp),List.nil_append,List.drop_replicate];congr 1;omega
 rw [e,List.take_replicate,show min (min (n-c) c) c=min (n-c) c by omega];unfold rN;rw [<- List.append_assoc,List.replicate_append_replicate]
theorem eK {d z:D} {n:Nat} (h:1<=n):[[d]].take (min n 1)++ (List.replicate n [z]).drop (min n 1)= rN d z n 1:=by rw [Nat.min_eq_right h,List.drop_replicate];rfl
theorem aLs {d:D} (hd:d.xG=true) (h1:d.one=true) {n:Nat} (hn:1<=n/\n<=64):xX Tryz.prog 131 [.sl 1 [[d]],.int .i64 (n:Int)] St0 (.osl 0 1 n) ⟨1,[(0,⟨1,List.replicate n [d]⟩)]⟩:=by
 have hM:=aEf hn.2;have hw:=aDl (n:=n) (by omega);have hw1:IntKind.u64.wrap ((1:Nat):Int)= 1:=by decide
 have hw2:IntKind.i64.wrap (n:Int)= (n:Int):=wrap_i64 (by omega);have hneg:¬ ((n:Int)<0):=by omega
 refine xX.xP mixed Tryz.func131 bTp (by simp) fun hf=>?_;simp only [simprocAttr,-ZA,↓zU,↓zD,zV,zT,zW,hneg,hw1,hw,show (1:Nat)= 1 from rfl];simp only [bZw,bZx,show IntKind.u64.wrap 1=1 from by decide] at *;refine .go (cr hM) ?_;have hz:¬ (ui 0#64<ui 0#64):=Int.lt_irrefl _;have hb:¬ ((9223372036854775807:Int)<(n:Int)):=by omega
 have hp1:D.xU [d]=true:=by simp [D.xU,hd]
 simp only [simprocAttr,-ZA,↓zU,↓zD,zV,zT,zW,hz,hb,hw2,h1];refine⟨by omega,by omega,by simp,by omega,?_⟩;rw [Nat.min_eq_right hn.1];have hstart:=eK (d:=d) (z:=D.int .i64 0) hn.1;rw [Nat.min_eq_right hn.1] at hstart;have hlr:(List.replicate n [D.int .i64 0]).length=n:=by simp
 refine xW (fun c:Nat=>[(8,.int .i64 c),(7,.osl 0 1 n)]) (fun c=>⟨1,[(0,⟨1,rN d (D.int .i64 0) n c⟩)]⟩) (fun c=>1<=c/\c<=n) (fun c=>n-c) 1 ⟨Nat.le_refl _,hn.1⟩ ?_ ?_
 ·rw [<- hstart]
  (refine xI.same ?_; simp [xR,Fr.get])
 intro c ⟨hc1,hc2⟩;refine xQ mixed ?_;have hL:=aZy (d:=d) (z:=D.int .i64 0) hc2
 by_cases hcn:c<n
 ·have hd1:((c:Int)<(n:Int)):=by omega
  simp only [simprocAttr,-ZA,↓zU,↓zD,zV,zT,zW,hd1];have i1:¬ ((c:Int)= 0):=by omega
  have i2:¬ ((c:Int)= (n:Int)):=by omega
  have hst:=bS (d:=d) (z:=D.int .i64 0) hcn;have htk:=jR (d:=d) (z:=D.int .i64 0) (n:=n) (c:=c);generalize rN d (D.int .i64 0) n c=els at hL hst htk ⊢;refine⟨(c:Int),(n:Int),rfl,rfl,by omega,by omega,by omega,0,(c:Int),rfl,rfl,by omega,by omega,by omega,?_⟩;simp only [↓reduceIte,if_neg i1,if_neg i2,Int.toNat_natCast];first | rw [if_pos ⟨trivial,by omega⟩] | rw [aT0 (by omega)]
  refine⟨fun r hr=>?_,trivial,trivial,by omega,?_⟩
  ·rw [htk] at hr;rw [List.eq_of_mem_replicate hr];simp [h1]
  have hm:(min (n-c) (els.take c).length)= min (n-c) c:=by rw [List.length_take]; omega
  rw [hm];have em:(n:Int).toNat-c=n-c:=by omega
  refine⟨by omega,c+min (n-c) c,⟨by omega,by omega⟩,?_,by omega⟩;rw [hst]
  (refine xI.same ?_; simp only [xR,Fr.get,simprocAttr,-ZA,zS])
  rw [wrap_i64 (by omega)];omega
 ·have hd1:¬ ((c:Int)<(n:Int)):=by omega
  obtain rfl:c=n:=by omega
  have he:rN d (D.int .i64 0) c c=List.replicate c [d]:=by simp [rN]
  rw [he];simp only [simprocAttr,-ZA,↓zU,↓zD,zV,zT,zW,hd1];exact .same
theorem aLr {d:D} (hd:d.xG=true) (h1:d.one=true) {n:Nat} (hn:1<=n/\n<=64):xX Tryz.prog 224 [.sl 1 [[d]],.int .i64 (n:Int)] St0 (.osl 0 1 n) ⟨1,[(0,⟨1,List.replicate n [d]⟩)]⟩:=by
 have hM:=aEf hn.2;have hw:=aDl (n:=n) (by omega);have hw1:IntKind.u64.wrap ((1:Nat):Int)= 1:=by decide
 have hw2:IntKind.i64.wrap (n:Int)= (n:Int):=wrap_i64 (by omega);have hneg:¬ ((n:Int)<0):=by omega
 refine xX.xP mixed Tryz.func224 bUg (by simp) fun hf=>?_;simp only [simprocAttr,-ZA,↓zU,↓zD,zV,zT,zW,hneg,hw1,hw,show (1:Nat)= 1 from rfl];simp only [bZw,bZx,show IntKind.u64.wrap 1=1 from by decide] at *;refine .go (cr hM) ?_;have hz:¬ (ui 0#64<ui 0#64):=Int.lt_irrefl _;have hb:¬ ((9223372036854775807:Int)<(n:Int)):=by omega
 have hp1:D.xU [d]=true:=by simp [D.xU,hd]
 simp only [simprocAttr,-ZA,↓zU,↓zD,zV,zT,zW,hz,hb,hw2,h1];refine⟨by omega,by omega,by simp,by omega,?_⟩;rw [Nat.min_eq_right hn.1];have hstart:=eK (d:=d) (z:=D.xH) hn.1;rw [Nat.min_eq_right hn.1] at hstart;have hlr:(List.replicate n [D.xH]).length=n:=by simp
 refine xW (fun c:Nat=>[(8,.int .i64 c),(7,.osl 0 1 n)]) (fun c=>⟨1,[(0,⟨1,rN d (D.xH) n c⟩)]⟩) (fun c=>1<=c/\c<=n) (fun c=>n-c) 1 ⟨Nat.le_refl _,hn.1⟩ ?_ ?_
 ·rw [<- hstart]
  (refine xI.same ?_; simp [xR,Fr.get])
 intro c ⟨hc1,hc2⟩;refine xQ mixed ?_;have hL:=aZy (d:=d) (z:=D.xH) hc2
 by_cases hcn:c<n
 ·have hd1:((c:Int)<(n:Int)):=by omega
  simp only [simprocAttr,-ZA,↓zU,↓zD,zV,zT,zW,hd1];have i1:¬ ((c:Int)= 0):=by omega
  have i2:¬ ((c:Int)= (n:Int)):=by omega
  have hst:=bS (d:=d) (z:=D.xH) hcn;have htk:=jR (d:=d) (z:=D.xH) (n:=n) (c:=c);generalize rN d (D.xH) n c=els at hL hst htk ⊢;refine⟨(c:Int),(n:Int),rfl,rfl,by omega,by omega,by omega,0,(c:Int),rfl,rfl,by omega,by omega,by omega,?_⟩;simp only [↓reduceIte,if_neg i1,if_neg i2,Int.toNat_natCast];first | rw [if_pos ⟨trivial,by omega⟩] | rw [aT0 (by omega)]
  refine⟨fun r hr=>?_,trivial,trivial,by omega,?_⟩
  ·rw [htk] at hr;rw [List.eq_of_mem_replicate hr];simp [h1]
  have hm:(min (n-c) (els.take c).length)= min (n-c) c:=by rw [List.length_take]; omega
  rw [hm];have em:(n:Int).toNat-c=n-c:=by omega
  refine⟨by omega,c+min (n-c) c,⟨by omega,by omega⟩,?_,by omega⟩;rw [hst]
  (refine xI.same ?_; simp only [xR,Fr.get,simprocAttr,-ZA,zS])
  rw [wrap_i64 (by omega)];omega
 ·have hd1:¬ ((c:Int)<(n:Int)):=by omega
  obtain rfl:c=n:=by omega
  have he:rN d (D.xH) c c=List.replicate c [d]:=by simp [rN]
  rw [he];simp only [simprocAttr,-ZA,↓zU,↓zD,zV,zT,zW,hd1];exact .same
theorem aCz (n:Nat):List.replicate n [D.int .i64 (-1)]=rows .i64 (List.replicate n (-1)):=by simp [rows]
theorem aCp (n:Nat):List.replicate n [D.sl 1 (us [1#64])]=rr (List.replicate n [1#64]):=by simp [rr,aAq]
open Rs Fm Ru Te
namespace Te
theorem aKx {A F:Nat} {c:List Nd} (hv:wK c) (h:∀ p ∈ c,qK A F p=true):∀ i,i<c.length->sK A F (tree c i)= true:=by
 intro i
 induction i using Nat.strongRecOn with
 | _ i ih=>
  intro hi;obtain⟨ox,oy,_,_⟩:=uA (hv i hi);have hs:=h (c.getD i nd0) (by rw [List.getD,List.getElem?_eq_getElem hi]; exact List.getElem_mem hi);rw [tW hv hi];show (qK A F _&&(sK A F _&&sK A F _))= true;rw [show qK A F ⟨(c.getD i nd0).op,(c.getD i nd0).i,(c.getD i nd0).e,(c.getD i nd0).g,0,0⟩= qK A F (c.getD i nd0) from rfl,hs,Bool.true_and,Bool.and_eq_true]
  constructor
  ·split
   ·rename_i hx; have:=ox hx; exact ih _ (by omega) (by omega)
   ·rfl
  ·split
   ·rename_i hy; have:=oy hy; exact ih _ (by omega) (by omega)
   ·rfl
theorem aLd {A F:Nat} {p:Nd} {k:Int} (hn:yA p k=0) (ho:okN A F p=true) (ht:rV p &&& 256=0):qK A F p=true:=by
 unfold okN at ho;simp only [Bool.and_eq_true,decide_eq_true_eq] at ho;obtain⟨⟨h1,h2⟩,h3⟩:=ho
 have hi0:p.op=3\/p.op=9\/p.op=10->0<=p.i:=fun h=>by
  rcases h with h | h | h
  ·exact(nO hn (by rw [h]; rfl)).1
  ·exact(uG hn (by rw [h]; rfl)).1
  ·exact(uG hn (by rw [h]; rfl)).1
 have hg0:=mF hn;have hu:=(wT.1 hn).1
 have lt_of:∀ {a b:Nat},2 ^ a / 2 ^ b=0->a<b:=fun {a b} h=>Decidable.byContradiction fun hh=>by have:=Nat.pow_le_pow_right (n:=2) (by decide) (show b<=a by omega);have:=Nat.div_pos this (Nat.two_pow_pos b);omega
 obtain⟨op,i,e,g,a,b⟩:=p;simp only at hi0 hg0 hu
 rcases uV op with rfl | rfl | rfl | rfl | rfl | rfl | rfl | rfl | rfl | rfl | rfl | rfl | rfl | rfl | rfl | rfl | rfl | rfl | rfl | rfl | rfl | h | h
 ·rfl
 ·rfl
 ·have h3:2 ^ i.toNat / 2 ^ F=0:=h3;have:=lt_of h3;have h0:=hi0 (.inl rfl);show decide (i<(F:Int))= true;exact decide_eq_true (by omega)
 ·rfl
 ·rfl
 ·rfl
 ·rfl
 ·rfl
 ·have h2:2 ^ i.toNat / 2 ^ A=0:=h2;have:=lt_of h2;have h0:=hi0 (.inr (.inl rfl));show decide (i<(A:Int))= true;exact decide_eq_true (by omega)
 ·have h2:2 ^ i.toNat / 2 ^ A=0:=h2;have:=lt_of h2;have h0:=hi0 (.inr (.inr rfl));show decide (i<(A:Int))= true;exact decide_eq_true (by omega)
 iterate 3
  ·have h2:g.toNat / 2 ^ A=0:=h2;have:=(Nat.div_eq_zero_iff.1 h2).resolve_left (by have:=Nat.two_pow_pos A; omega);show decide (g<((2 ^ A:Nat):Int))= true;exact decide_eq_true (by omega)
 ·exact absurd h1 (show ¬ (16:Nat)&&& 3824=0 by decide)
 ·exact absurd h1 (show ¬ (32:Nat)&&& 3824=0 by decide)
 ·exact absurd h1 (show ¬ (64:Nat)&&& 3824=0 by decide)
 ·exact absurd h1 (show ¬ (128:Nat)&&& 3824=0 by decide)
 iterate 4
  ·exact absurd ht (show ¬ (256:Nat)&&& 256=0 by decide)
 ·rw [wV (.inl h)] at hu; cases hu
 ·rw [wV (.inr h)] at hu; cases hu
theorem bZg {a b:Nat} (ha:a<2 ^ 62) (hb:b<2 ^ 62):qI .and .i64 (a:Int) (b:Int)= ((a &&& b:Nat):Int):=by show IntKind.i64.wrap ((BitVec.ofInt 64 (a:Int)&&& BitVec.ofInt 64 (b:Int)).toNat:Int)= _;rw [BitVec.ofInt_natCast,BitVec.ofInt_natCast,BitVec.toNat_and,BitVec.toNat_ofNat,BitVec.toNat_ofNat,Nat.mod_eq_of_lt (by omega),Nat.mod_eq_of_lt (by omega)];have:a &&& b<=a:=Nat.and_le_left;exact wrap_i64 (by omega)
theorem aZv {n:Nat} (h:n<4096):(qI .and .i64 (n:Int) 256 != 0)= !decide (n &&& 256=0):=by
 have e:=bZg (a:=n) (b:=256) (by omega) (by decide);rw [show ((256:Nat):Int)= 256 from rfl] at e;rw [e];generalize n &&& 256=z
 by_cases hz:z=0
 ·subst hz; rfl
 ·rw [decide_eq_false hz];have:((z:Int) != 0)= true:=by rw [bne_iff_ne]; omega
  rw [this]; rfl
theorem aKv {n:Nat} (h:n<4096) (h1:n &&& 3824=0) (h2:n &&& 256=0):(qI .andNot .i64 (n:Int) 15 != 0)= false:=by
 have h16:∀ n:Fin 4096,n.val &&& 3824=0->n.val &&& 256=0->n.val<16:=by decide +kernel
 have:∀ n:Fin 16,(qI .andNot .i64 ((n.val:Nat):Int) 15 != 0)= false:=by decide +kernel
 exact this ⟨n,h16 ⟨n,h⟩ h1 h2⟩
theorem mE (f:List Nd):wX f<4096:=by refine rL fun p _=>?_;have:=kL p.op;unfold rV; omega
theorem aUj {s:qL} {A F T:Nat} {rs:List zZ} (hs:s=⟨A,F,T,rs⟩) (hz:chk s=0) (ok:OkR rs A F T) {f:List Nd} (hE:aFx s f=0) (ht:wX f &&& 256=0) :
  sK A F (iX f)= true/\(qI .andNot .i64 (wX f:Int) 15 != 0)= false/\rO f A F=true:=by
 have hc:=(oW hE).2;have hN:=(aCe hs hz ok hc).1 hE
 have hT:∀ p ∈ xC f,rV p &&& 256=0:=by
  have:=ht;unfold wX at this
  rwa [rI (φ:=fun n=>n &&& 256) (by decide) (fun a b=>Nat.and_or_distrib_right a b 256),sP] at this
 have h38:wX f &&& 3824=0:=by unfold wX;rw [rI (φ:=fun n=>n &&& 3824) (by decide) (fun a b=>Nat.and_or_distrib_right a b 3824),sP];intro p hp;have:=hN p hp;unfold okN at this;simp only [Bool.and_eq_true,decide_eq_true_eq] at this;exact this.1.1
 refine⟨?_,aKv (mE f) h38 ht,?_⟩
 ·have hl:=aP0 hc;rw [<- (aW0 hc).1];refine aKx (aYg f) (fun p hp=>?_) _ (by omega);obtain⟨k,hk⟩:=mQ (jL f _) hp;exact aLd hk (hN p hp) (hT p hp)
 ·unfold aFx at hE;rw [if_neg (by simpa using hz),if_neg (by simpa using hc),aXk (mE f),if_neg (by simp [h38])] at hE;subst hs
  cases hf:rO f A F with
  | true=>rfl
  | false=>simp only [hf,↓reduceIte] at hE; cases hE
end Te
namespace Kb
theorem bY1 : ∀ n:Fin 4096,(qI .andNot .i64 ((n.val:Nat):Int) 15 != 0)= false->n.val<16:=by decide +kernel
theorem bW0 : ∀ n:Fin 4096,(qI .andNot .i64 ((n.val:Nat):Int) 0 != 0)= false->n.val=0:=by decide +kernel
end Kb
end Go.Pd
