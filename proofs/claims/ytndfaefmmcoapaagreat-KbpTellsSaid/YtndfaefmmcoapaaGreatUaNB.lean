/- Part NB. -/
import Derived.Test.YtndfaefmmcoapaaGreatUaST
import Derived.Test.YtndfaefmmcoapaaGreatUaLJ
import Derived.Test.YtndfaefmmcoapaaGreatUaAX
set_option linter.unusedSectionVars false
set_option linter.unusedVariables false
set_option linter.unusedSimpArgs false
set_option linter.defProp false
set_option maxRecDepth 20000
set_option maxHeartbeats 1000000
namespace Go.Pd
open Go Go.Proofs
open Rs Fm Ru Te Kb
namespace Kb
def qG (init:List (BitVec 64)):PrA:=⟨4,init,[1#64,2#64],[[⟨1,wZ 0⟩]],[[⟨exT,0⟩],[]]⟩
def aQj : List Nd:=bWx (wZ 0) (rH 1 (wZ 0))
def qX (b:Nat->Bool):Nat->List (BitVec 64)
 | 0=>[]
 | k+1=>if (k &&& 2==0&&(b k&&decide ((qX b k).length<6)))= true then qX b k ++ [BitVec.ofNat 64 k] else qX b k
def aIu (b0 b1 b4 b5 b8 b9 b12 b13:Bool):List (BitVec 64):=qX (fun v=>if v=0 then b0 else if v=1 then b1 else if v=4 then b4 else if v=5 then b5 else if v=8 then b8 else if v=9 then b9 else if v=12 then b12 else b13) 16
theorem aB2 (b:Nat->Bool):qX b 16=aIu (b 0) (b 1) (b 4) (b 5) (b 8) (b 9) (b 12) (b 13):=by kernel_rfl
def aO5 (init:List (BitVec 64)) (sts:List (List (BitVec 64))):Bool:=
 decide (init.length<=6)&& (decide (tP (qG init)= 0)&& ((List.range init.length).all fun r=>(stR sts r).getD 1 0==(stR sts r).getD 2 0&&((stR sts r).getD 1 0 &&& ~~~2#64==init.getD r 0 &&
  ((List.range init.length).all fun v=>[1,2].all fun t=>!((stR sts r).getD t 0).getLsbD 0 || (((stR sts v).getD t 0).getLsbD 0 || !(sR [1#64,2#64] (stR sts v) 1 t==sR [1#64,2#64] (stR sts r) 1 t))))))
theorem aHh : ∀ b0 b1 b4 b5 b8 b9 b12 b13:Bool,(aIu b0 b1 b4 b5 b8 b9 b12 b13 == [] || aO5 (aIu b0 b1 b4 b5 b8 b9 b12 b13) (zL (qG (aIu b0 b1 b4 b5 b8 b9 b12 b13)) 2))= true:=by decide +kernel
theorem aLr {init:List (BitVec 64)} {sts:List (List (BitVec 64))} (h:aO5 init sts=true):init.length<=6/\tP (qG init)= 0/\∀ r,r<init.length->(stR sts r).getD 1 0#64=(stR sts r).getD 2 0#64/\(stR sts r).getD 1 0#64 &&& ~~~2#64=init.getD r 0#64 /\
  ∀ v,v<init.length->∀ t,t=1\/t=2->((stR sts r).getD t 0#64).getLsbD 0=true->sR [1#64,2#64] (stR sts v) 1 t=sR [1#64,2#64] (stR sts r) 1 t->((stR sts v).getD t 0#64).getLsbD 0=true:=by
 unfold aO5 at h;simp only [Bool.and_eq_true,decide_eq_true_eq,List.all_eq_true,List.mem_range,beq_iff_eq] at h;obtain⟨h1,h2,h3⟩:=h;refine⟨h1,h2,fun r hr=>?_⟩;obtain⟨a,b,c⟩:=h3 r hr;refine⟨a,b,fun v hv t ht q1 q2=>?_⟩;have:=c v hv t (by rcases ht with rfl | rfl <;> simp);have q1':((stR sts r).getD t 0).getLsbD 0=true:=q1;rw [q1',q2] at this;simpa using this
theorem aLs (b:Nat->Bool) (h:qX b 16 ≠ []):aO5 (qX b 16) (zL (qG (qX b 16)) 2)= true:=by have:=aHh (b 0) (b 1) (b 4) (b 5) (b 8) (b 9) (b 12) (b 13);rw [<- aB2] at this;simpa [h] using this
theorem aUk : Is 2 4 aQj (bWw (fcT ((0:Nat):Int)) (Te.knT ((1:Nat):Int) (fcT ((0:Nat):Int)))):=by obtain⟨I1,z1⟩:=aMp (A:=2) (F:=4) (x:=0) (by decide) (by decide);obtain⟨I2,z2⟩:=aUl (a:=1) (by decide) (by decide) I1 (by omega);exact(bZv I1 I2 (by omega)).1
theorem aLu : (rB .andNot .i64 (zF aQj:Int) 15 != 0)= false:=by decide +kernel
theorem bY5 {init:List (BitVec 64)} (hv:PrV (qG init) 4) {sts:List (List (BitVec 64))} (hS:PlS (qG init) 4 sts 2) {t:Nat} (ht:t=1\/t=2)
  (hval:∀ r,r<init.length->∀ v,v<init.length->((stR sts r).getD t 0#64).getLsbD 0=true->sR [1#64,2#64] (stR sts v) 1 t=sR [1#64,2#64] (stR sts r) 1 t->((stR sts v).getD t 0#64).getLsbD 0=true) :
  yU Tryz.prog 31 [(qJ (sS [1#64,2#64] sts 3) (yM (sS [1#64,2#64] sts 3).length t) 2 4).d,.sl 6 (ndR aQj)] (.tup [.bool true,.int .i64 0]):=by
 have ok:OkR (sS [1#64,2#64] sts 3) 2 4 3:=aT2 hv (by decide) hS;have hl:=pY [1#64,2#64] sts 3;have hln:sts.length=init.length:=hS.len;have h:=aNx ok (show t<3 by omega) aUk.c aLu (aMb (aUk.req rfl (jO ok) ok))
 have e:((List.range (sS [1#64,2#64] sts 3).length).all fun r=>evT (nL (sS [1#64,2#64] sts 3) t) 2 1 (uV aQj) (r,0))= true:=by
  rw [List.all_eq_true];intro r hr;have hr:=List.mem_range.1 hr;rw [aUk.e,bZ7,aUp]
  have hf:∀ j,j<sts.length->evT (nL (sS [1#64,2#64] sts 3) t) 2 1 (fcT ((0:Nat):Int)) (j,0)= ((stR sts j).getD t 0#64).getLsbD 0:=fun j hj=>by show (aYo (nL (sS [1#64,2#64] sts 3) t) (j,0)).getLsbD 0=_;rw [aUg (by rw [hl]; exact hj),aN5 hj];rfl
  rw [hl] at hr;rw [hf r hr]
  cases hc:((stR sts r).getD t 0#64).getLsbD 0 with
  | false=>rfl
  | true=>
   rw [Bool.not_true,Bool.false_or];refine aXy.2 fun q hq e=>?_;obtain⟨j,v⟩:=q;obtain⟨hj,hv0⟩:=aE1 (by omega) hq;simp only at hj hv0;rw [mV] at hj;obtain rfl:v=0:=by omega
   rw [jP hj,jP (by rw [hl]; exact hr)] at e;rw [hl] at hj;have h1:=(aN4 (see:=[1#64,2#64]) (T:=3) (a:=1) (by decide) (x:=(j,t)) (y:=(r,t)) ⟨hj,by show t<3; omega⟩ ⟨hr,by show t<3; omega⟩).1 e;unfold qI at h1;rw [hf j hj];exact hval r (by omega) j (by omega) hc ((List.map_inj_right fun x y=>aYz.1).1 h1)
 rwa [e] at h
end Kb
end Go.Pd

/- Part ND. -/
namespace Go.Pd
open Go Go.Proofs
open BitVec renaming isValue -> ZA
open Rs Fm Ru Te Kb
namespace Kb
theorem aCr (I:List (BitVec 64)):Nw (.agg [.int .i64 4,.sl 1 (us I),.sl 1 (us [1#64,2#64]),.sl 1 (mvR [[⟨1,wZ 0⟩]]),.sl 1 [[.sl 2 (clR [⟨exT,0⟩])],[.xL]]]) (qG I).d:=by
 refine Nw.agg rfl fun j hj=>?_
 match j,hj with
 | 0,_=>exact Nw.refl _
 | 1,_=>exact Nw.refl _
 | 2,_=>exact Nw.refl _
 | 3,_=>exact Nw.refl _
 | 4,_=>
  refine Nw.sl rfl (fun e he=>?_) fun i hi j hj=>?_
  ·have:e ∈ [[D.sl 2 (clR [⟨exT,0⟩])],[D.sl 2 []]]:=he;simp only [List.mem_cons,List.not_mem_nil,or_false] at this;rcases this with rfl | rfl <;> rfl
  have e:j=0:=by omega
  subst e
  match i,hi with
  | 0,_=>exact Nw.refl _
  | 1,_=>exact Nw.xL 2
theorem three {l:List (BitVec 64)} (h:l.length=3) (e:l.getD 1 0#64=l.getD 2 0#64):l = [l.getD 0 0#64,l.getD 1 0#64,l.getD 1 0#64]:=by
 match l,h with
 | [a,b,c],_=> have e:b=c:=e;rw [e]; rfl
end Kb
theorem aLt {I:List (BitVec 64)} (h:aO5 I (zL (qG I) 2)= true):∃ rs:List zG,rs.length=I.length /\
  yU Tryz.prog 19 [.agg [.int .i64 4,.sl 1 (us I),.sl 1 (us [1#64,2#64]),.sl 1 (mvR [[⟨1,wZ 0⟩]]),.sl 1 [[.sl 2 (clR [⟨exT,0⟩])],[.xL]]],.int .i64 3] (.tup [.agg [.int .i64 2,.int .i64 4,.int .i64 3,.sl 2 (uE rs)],.int .i64 0])/\
  (∀ t:Nat,t=1\/t=2->∃ W V R,yU Tryz.prog 30 [.agg [.int .i64 2,.int .i64 4,.int .i64 3,.sl 2 (uE rs)],.int .i64 (t:Int)] (.tup [.agg [.int .i64 W,.sl 1 V,.sl 1 R],.int .i64 0])/\
   yU Tryz.prog 31 [.agg [.int .i64 W,.sl 1 V,.sl 1 R],.sl 6 (ndR aQj)] (.tup [.bool true,.int .i64 0]))/\
  ∀ i,i<I.length->∃ L a b,(uE rs).getD i [] = [.sl 1 L,.sl 1 (us [a,b,b])]/\b &&& ~~~2#64=I.getD i 0#64:=by
 obtain⟨h6,hz,hf⟩:=aLr h;obtain⟨h0,F,hv,hs⟩:=jA (k:=2) hz (by omega);have hF:F=4:=by have:(4:Int)= (F:Int):=hv.fe; omega
 subst hF;have hS:=mW hv 2;have ok:OkR (sS [1#64,2#64] (zL (qG I) 2) 3) 2 4 3:=aT2 hv (by decide) hS;have hl:(zL (qG I) 2).length=I.length:=gR hv 2
 have hP:=aT9 (qG I) ⟨by show I.length<=_; omega,by show (2:Nat)<=_; decide,fun s hs=>by have:s ∈ [[(⟨1,wZ 0⟩:AsA)]]:=hs;rw [List.mem_singleton.1 this]; decide⟩ 3
 have h0:iS (qG I) 3=0:=h0;have hs:cJ (qG I) 3=⟨2,4,3,sS [1#64,2#64] (zL (qG I) 2) 3⟩:=hs;rw [h0,hs] at hP
 refine⟨sS [1#64,2#64] (zL (qG I) 2) 3,by rw [pY,hl],yU.seen (args':=[(qG I).d,.int .i64 3]) hP ⟨(aCr I).seen (by simp [D.xG,D.xV,clR,ClA.row]),Seen.pure rfl,trivial⟩,fun t ht=>?_,fun i hi=>?_⟩
 ·have h30:=aLc ⟨2,4,3,sS [1#64,2#64] (zL (qG I) 2) 3⟩ t;unfold fZ at h30;rw [if_neg (by simpa using jO ok),if_neg (by show ¬ ((t:Int)<0\/(3:Int)<=(t:Int)); omega)] at h30;exact⟨_,_,_,h30,bY5 hv hS ht fun r hr v hv2=>(hf r hr).2.2 v hv2 t ht⟩
 ·obtain⟨f1,f2,f3⟩:=hf i hi;have hr:(stR (zL (qG I) 2) i).length=3:=hS.run _ (sK (by omega));have e:=three hr f1;rw [rQ _ (by rw [pY]; omega),lR (by omega)];generalize stR (zL (qG I) 2) i=st at f1 f2 hr e ⊢;generalize st.getD 0 0#64=a at *;generalize st.getD 1 0#64=b at *;subst e;exact⟨_,a,b,rfl,f2⟩
theorem bY4 (w:Nat) (hw:w<65536):yU Tryz.prog 9 [.int .u16 (w:Int)] (.bool true):=by
 have hA:=aM4;have hE:=aWh;have hEE:exD = .agg [.int .i64 2,.sl 1 (us [0#64,1#64]),.sl 1 (us [1#64,2#64]),.sl 1 (mvR [[⟨1,wZ 0⟩]]),.sl 1 [[.sl 2 (clR [⟨exT,0⟩])],[.xL]]]:=rfl;rw [hEE] at hE;clear hEE;have hT:=fun(I:List (BitVec 64)) h=>aLt (I:=I) h;have hpS:∀ e ∈ us [1#64,2#64],D.xV e=true:=tE _;generalize us [1#64,2#64]=S at *;generalize mvR [[⟨1,wZ 0⟩]]=M at *;generalize [[D.sl 2 (clR [⟨exT,0⟩])],[D.xL]]=C at *;refine xX.xQ mixed Tryz.func9 k9 (by simp) fun hf=>?_;simp only [simprocAttr,-ZA,↓zU,↓zD,zV,zT,zW];refine .go (cq hA) ?_;simp only [simprocAttr,-ZA,↓zU,↓zD,zV,zT,zW];refine .go (xX.yT hE (by simp [D.xV])) ?_;simp only [simprocAttr,-ZA,↓zU,↓zD,zV,zT,zW]
 (repeat refine sd ?_)
 generalize hb:(fun v:Nat=>rB .and .u16 (aOy .u16 w (ui (BitVec.ofNat 64 v))) 1==1)= b;have hbv:∀ v,(rB .and .u16 (aOy .u16 w (ui (BitVec.ofNat 64 v))) 1==1)= b v:=fun v=>by rw [<- hb]
 have hcv:∀ v:Fin 16,(BitVec.ofNat 64 v.val &&& 2#64==0#64)= (v.val &&& 2==0):=by decide +kernel
 have hT:=fun h=>hT _ (aLs b h)
 have hlen:∀ v,(qX b v).length<=v:=fun v=>by
  induction v with
  | zero=>exact Nat.le_refl _
  | succ v ih=>
   unfold qX
   split
   ·rw [List.length_append]; exact Nat.succ_le_succ ih
   ·omega
 clear hb
 refine uX (fun v:Nat=>[(19,.int .u64 (ui (BitVec.ofNat 64 v))),(3,.ref 0 5 0 0),(0,.int .u16 w)])
  (fun v=>⟨2,yY 1 1 (us (qX b v))++ [(0,⟨5,[[.int .i64 4,xA 1 1 (us (qX b v)),.sl 1 S,.sl 1 M,.sl 1 C]]⟩)]⟩)
  (fun v=>v<=16) (fun v=>16-v) 0 (Nat.zero_le _) ?_ ?_
 ·(refine xH.ren [] [0] (by simp) (by simp) (by decide) ?_; simp only [yZ,vwL,vw,vwF,sw,St.get,St.look,Fr.get,simprocAttr,-ZA,exists_eq_left',ne_eq,zR,qX,cA,zM,zN,List.nil_append])
 intro v hv;refine xP mixed ?_;by_cases hv16:v<16
 case neg=>
  have hd:¬ (ui (BitVec.ofNat 64 v)<16):=by
   obtain rfl:v=16:=by omega
   decide
  obtain rfl:v=16:=by omega
  by_cases hne:qX b 16 = []
  ·rw [hne];simp only [simprocAttr,-ZA,↓zU,↓zD,zV,zT,zW,hd];refine .wW ?_;simp only [simprocAttr,-ZA,↓zU,↓zD,zV,zT,zW];exact .dv
  obtain⟨rs,hl,hP,h30,hg⟩:=hT hne;have hI6:=hlen 16;generalize qX b 16=I at *;simp only [simprocAttr,-ZA,↓zU,↓zD,zV,zT,zW,hd]
  refine .go [(3,.ref 0 5 0 0),(0,.int .u16 w)] ⟨1,[(0,⟨5,[[.int .i64 4,.sl 1 (us I),.sl 1 S,.sl 1 M,.sl 1 C]]⟩)]⟩ ?_ ?_
  ·(refine xH.ren [] [0] (by simp) (by simp) (by decide) ?_; simp only [yZ,vwL,vw,vwF,sw,St.get,St.look,Fr.get,simprocAttr,-ZA,exists_eq_left',ne_eq,zR,yW])
  simp only [simprocAttr,-ZA,↓zU,↓zD,zV,zT,zW,xR];have hIl:I.length≠0:=fun e=>hne (List.length_eq_zero_iff.1 e);have hI0:((I.length:Int)== 0)= false:=by simpa using hIl
  have hq:((rs.length:Int) != (I.length:Int))= false:=by rw [hl]; simp
  simp only [simprocAttr,-ZA,↓zU,↓zD,zV,zT,zW,xR,hI0]
  (repeat refine sd ?_)
  refine .go (cr hP) ?_;simp only [simprocAttr,-ZA,↓zU,↓zD,zV,zT,zW,xR,yD,hq]
  (repeat refine sd ?_)
  refine xW (fun t:Nat=>[(7,.int .i64 ((t+1:Nat):Int)),(5,.ref 1 4 0 0),(3,.ref 0 5 0 0)])
   (fun _=>⟨2,[(1,⟨4,[[.int .i64 2,.int .i64 4,.int .i64 3,.sl 2 (uE rs)]]⟩),(0,⟨5,[[.int .i64 4,.sl 1 (us I),.sl 1 S,.sl 1 M,.sl 1 C]]⟩)]⟩)
   (fun t=>t<=2) (fun t=>2-t) 0 (Nat.zero_le _) ?_ ?_
  ·(refine xH.same ?_; simp [xO,Fr.get])
  intro t ht;refine xP mixed ?_;by_cases ht2:t<2
  case pos=>
   have hd:(((t+1:Nat):Int)<3):=by omega
   obtain⟨W,V,R,k1,k2⟩:=h30 (t+1) (by omega);have c1:=aNu 0;have c2:=aSa 1 (wZ 0);have c3:=bUg (wZ 0) (rH 1 (wZ 0));unfold aQj at k2;generalize bWx (wZ 0) (rH 1 (wZ 0))= x1 at *;generalize rH 1 (wZ 0)= x2 at *;generalize wZ 0=x3 at *;simp only [simprocAttr,-ZA,↓zU,↓zD,zV,zT,zW,hd]
   (repeat refine sd ?_)
   refine .go (cr k1) ?_;simp only [simprocAttr,-ZA,↓zU,↓zD,zV,zT,zW]
   (repeat refine sd ?_)
   refine .go (cq c1) ?_;simp only [simprocAttr,-ZA,↓zU,↓zD,zV,zT,zW];refine .go (cq c1) ?_;simp only [simprocAttr,-ZA,↓zU,↓zD,zV,zT,zW];refine .go (cq c2) ?_;simp only [simprocAttr,-ZA,↓zU,↓zD,zV,zT,zW];refine .go (cq c3) ?_;simp only [simprocAttr,-ZA,↓zU,↓zD,zV,zT,zW];refine .go (cq k2) ?_;simp only [simprocAttr,-ZA,↓zU,↓zD,zV,zT,zW];refine⟨t+1,by omega,?_,by omega⟩
   (refine xH.ren [] [1,0] (by simp) (by simp) (by decide) ?_; simp only [yZ,vwL,vw,vwF,sw,St.get,St.look,Fr.get,simprocAttr,-ZA,exists_eq_left',ne_eq,zR,zQ (show t+1<=1000000000 by omega)])
  have hd:¬ (((t+1:Nat):Int)<3):=by omega
  simp only [simprocAttr,-ZA,↓zU,↓zD,zV,zT,zW,hd,yD]
  refine xW (fun i:Nat=>[(97,.int .i64 i),(96,.int .i64 rs.length),(95,.sl 2 (uE rs)),(3,.ref 0 5 0 0)])
   (fun _=>⟨1,[(0,⟨5,[[.int .i64 4,.sl 1 (us I),.sl 1 S,.sl 1 M,.sl 1 C]]⟩)]⟩)
   (fun i=>i<=rs.length) (fun i=>rs.length-i) 0 (Nat.zero_le _) ?_ ?_
  ·(refine xH.ren [] [0] (by simp) (by simp) (by decide) ?_; simp only [yZ,vwL,vw,vwF,sw,St.get,St.look,Fr.get,simprocAttr,-ZA,exists_eq_left',ne_eq,zR])
  intro i hi;refine xP mixed ?_;by_cases hil:i<rs.length
  case neg=>
   have hd2:¬ ((i:Int)<(rs.length:Int)):=by omega
   simp only [simprocAttr,-ZA,↓zU,↓zD,zV,zT,zW,hd2];exact .dv
  have hd2:((i:Int)<(rs.length:Int)):=by omega
  have hip:i<I.length:=by omega
  obtain⟨L,a,c,g1,g2⟩:=hg i hip;have g3:=zH I hip;have g2':c &&& ~~~2#64=I.getD i 0:=g2;generalize I.getD i 0=y at *;subst g2';simp only [simprocAttr,-ZA,↓zU,↓zD,zV,zT,zW,hd2,yD,xR,g1,g3]
  (repeat refine sd ?_)
  refine⟨i+1,hil,?_,by omega⟩
  (refine xH.ren [] [0] (by simp) (by simp) (by decide) ?_; simp only [yZ,vwL,vw,vwF,sw,St.get,St.look,Fr.get,simprocAttr,-ZA,exists_eq_left',ne_eq,zR,zQ (show i<=1000000000 by omega)])
 have hd:(ui (BitVec.ofNat 64 v)<16):=by
  have:∀ v:Fin 16,ui (BitVec.ofNat 64 v.val)<16:=by decide
  exact this ⟨v,hv16⟩
 have hv1:BitVec.ofNat 64 v+1#64=BitVec.ofNat 64 (v+1):=by
  have:∀ v:Fin 16,BitVec.ofNat 64 v.val+1#64=BitVec.ofNat 64 (v.val+1):=by decide
  exact this ⟨v,hv16⟩
 have h0:=aZf (BitVec.ofNat 64 v);have hbv:=hbv v;have hcv:=hcv ⟨v,hv16⟩;simp only at hcv;have hI:qX b (v+1)= if (v &&& 2==0&&(b v&&decide ((qX b v).length<6)))= true then qX b v ++ [BitVec.ofNat 64 v] else qX b v:=rfl;have hlv:=hlen v;generalize qX b v=l at *;generalize (v &&& 2==0)= c at *;generalize b v=d at *
 cases d with
 | false=>
  rw [Bool.false_and,Bool.and_false,if_neg (by decide)] at hI;simp only [simprocAttr,-ZA,↓zU,↓zD,zV,zT,zW,hd,hbv];refine⟨h0,v+1,by omega,?_,by omega⟩;rw [hI]
  (refine xH.same ?_; simp only [xO,Fr.get,simprocAttr,-ZA,zS])
  rw [hv1]
 | true=>
  cases c with
  | false=>
   rw [Bool.false_and,if_neg (by decide)] at hI;simp only [simprocAttr,-ZA,↓zU,↓zD,zV,zT,zW,hd,hbv,hcv];refine⟨h0,v+1,by omega,?_,by omega⟩;rw [hI]
   (refine xH.same ?_; simp only [xO,Fr.get,simprocAttr,-ZA,zS])
   rw [hv1]
  | true=>
   by_cases h6:l.length<6
   ·have h6':((l.length:Int)<6):=by omega
    rw [decide_eq_true h6,if_pos (by decide)] at hI;simp only [simprocAttr,-ZA,↓zU,↓zD,zV,zT,zW,hd,hbv,hcv,xR,h6']
    (repeat refine sd ?_)
    refine⟨v+1,by omega,?_,by omega⟩;rw [hI,<- hv1]
    (refine xH.ren [(1,2)] [1,0] (by simp) (by simp) (by decide) ?_; simp only [yZ,vwL,vw,vwF,sw,St.get,St.look,Fr.get,simprocAttr,-ZA,exists_eq_left',ne_eq,zR,aE])
   ·have h6':¬ ((l.length:Int)<6):=by omega
    rw [decide_eq_false h6,if_neg (by decide)] at hI;simp only [simprocAttr,-ZA,↓zU,↓zD,zV,zT,zW,hd,hbv,hcv,xR,h6'];refine⟨h0,v+1,by omega,?_,by omega⟩;rw [hI]
    (refine xH.same ?_; simp only [xO,Fr.get,simprocAttr,-ZA,zS])
    rw [hv1]
end Go.Pd
