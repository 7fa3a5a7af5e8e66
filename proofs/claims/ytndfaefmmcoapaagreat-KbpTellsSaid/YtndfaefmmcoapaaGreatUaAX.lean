/- Part AX. -/
import Derived.Test.YtndfaefmmcoapaaGreatUaLJ
import Derived.Test.YtndfaefmmcoapaaGreatUaC4
set_option linter.unusedSectionVars false
set_option linter.unusedVariables false
set_option linter.unusedSimpArgs false
set_option linter.defProp false
set_option maxRecDepth 20000
set_option maxHeartbeats 1000000
namespace Go.Pd
open Go Go.Proofs
open BitVec renaming isValue -> ZA
open Rs Fm Ru Te Kb
def Nw (d d':D):Prop:=∀ (M:Nat->Prop) (w:World) (v:Value),RP M w v d->RP M w v d'
theorem Nw.refl (d:D):Nw d d:=fun _ _ _ h=>h
theorem Nw.xL (sz:Nat):Nw .xL (.sl sz []):=fun _ _ v h=>by cases h;exact .sl0 _ _ _ (by simp)
theorem Nw.sl {sz:Nat} {els els':List (List D)} (hl:els.length=els'.length) (hw:∀ e ∈ els',e.length=sz)
  (h:∀ i,i<els.length->∀ j,j<sz->Nw ((els.getD i []).getD j .top) ((els'.getD i []).getD j .top)):Nw (.sl sz els) (.sl sz els'):=fun M w v hv=>by
 cases hv with
 | sl0 a cap sz hh=> have:els' = []:=List.length_eq_zero_iff.1 (by simpa using hl.symm);subst this;exact .sl0 _ _ _ hh
 | sl vs hs hM hc hm hl2 hcell hr=>
  have:=RP.sl (M:=M) (w:=w) (sz:=sz) (els:=els') vs hs hM (by omega) hm hw (by rw [<- hl]; exact hcell) (by rw [<- hl]; exact fun i hi j hj=>h i hi j hj M w _ (hr i hi j hj))
  rwa [<- hl] at this
theorem Nw.agg {ds cs:List D} (hl:ds.length=cs.length) (h:∀ j,j<cs.length->Nw (ds.getD j .top) (cs.getD j .top)):Nw (.agg ds) (.agg cs):=fun M w v hv=>by
 cases hv with
 | agg h1 h2=>exact .agg (by omega) fun j hj=>h j hj M w _ (h2 j (by omega))
theorem Nw.seen {σ:St} {K:Nat->Prop} {d d':D} (h:Nw d d') (hp:d.xG=true):Seen σ K d d':=fun M0 w ι v hS hR=>h _ _ _ (Seen.pure hp M0 w ι v hS hR)
theorem yU.seen {P:Program} {g:FuncId} {args args':List D} {d:D} (hc:yU P g args' d) (h:nB St0 (fun _=>False) args args'):yU P g args d:= xX.bWz (σ:=St0) (objs':=[]) (fun _=>False) hc h fun k o hk=>by cases hk
theorem bUi (f g:List Nd):yU Tryz.prog 92 [.sl 6 (ndR f),.sl 6 (ndR g)] (.sl 6 (ndR (bW2 f g))):=by
 refine xX.xQ mixed Tryz.func92 k92 (by simp) fun hf=>?_;simp only [simprocAttr,-ZA,↓zU,↓zD,zV,zT,zW]
 (repeat refine sd ?_)
 refine .go (xX.yT (jJ ⟨5,0,0,0,0,0⟩ [f,g] (by simp)) (by simp [D.xV,D.xG,Nd.row,nl])) ?_;simp only [simprocAttr,-ZA,↓zU,↓zD,zV,zT,zW];exact .same
theorem bPt (f g:List Nd):yU Tryz.prog 32 [.sl 6 (ndR f),.sl 6 (ndR g)] (.sl 6 (ndR (orA f g))):=by
 refine xX.xQ mixed Tryz.func32 k32 (by simp) fun hf=>?_;simp only [simprocAttr,-ZA,↓zU,↓zD,zV,zT,zW]
 (repeat refine sd ?_)
 refine .go (xX.yT (jJ ⟨6,0,0,0,0,0⟩ [f,g] (by simp)) (by simp [D.xV,D.xG,Nd.row,nl])) ?_;simp only [simprocAttr,-ZA,↓zU,↓zD,zV,zT,zW];exact .same
theorem bUg (f g:List Nd):yU Tryz.prog 37 [.sl 6 (ndR f),.sl 6 (ndR g)] (.sl 6 (ndR (bWx f g))):=by
 refine xX.xQ mixed Tryz.func37 k37 (by simp) fun hf=>?_;simp only [simprocAttr,-ZA,↓zU,↓zD,zV,zT,zW]
 (repeat refine sd ?_)
 refine .go (xX.yT (jJ ⟨7,0,0,0,0,0⟩ [f,g] (by simp)) (by simp [D.xV,D.xG,Nd.row,nl])) ?_;simp only [simprocAttr,-ZA,↓zU,↓zD,zV,zT,zW];exact .same
theorem aCv (a b:zG):decide (a=b)= (decide (a.fac=b.fac)&& decide (a.loc=b.loc)):=by cases a; cases b;rw [Bool.eq_iff_iff];simp [and_comm]
theorem aL5 (a b:zG) (h1:a.fac.length<=1000000) (h2:a.loc.length<=1000000) (h3:∀ l ∈ a.loc,l.length<=1000000):yU Tryz.prog 81 [.agg a.row,.agg b.row] (.bool (decide (a=b))):=by
 rw [aCv];have hA:a.row = [.sl 1 (rl a.loc),.sl 1 (us a.fac)]:=rfl;have hB:b.row = [.sl 1 (rl b.loc),.sl 1 (us b.fac)]:=rfl;rw [hA,hB];cases a with | mk la fa=>
 cases b with | mk lb fb=>
 simp only at h1 h2 h3 ⊢;refine xX.xQ mixed Tryz.func81 k81 (by simp) fun hf=>?_;by_cases c1:fa.length=fb.length
 case neg=>
  have q1:((fa.length:Int) != (fb.length:Int))= true:=by simpa using fun c=>c1 (by omega)
  rw [decide_eq_false (fun c=>c1 (congrArg List.length c))];simp only [simprocAttr,-ZA,↓zU,↓zD,zV,zT,zW,xR,vR,q1];exact .dv
 have q1:((fa.length:Int) != (fb.length:Int))= false:=by rw [c1]; simp
 by_cases c2:la.length=lb.length
 case neg=>
  have q2:((la.length:Int) != (lb.length:Int))= true:=by simpa using fun c=>c2 (by omega)
  rw [decide_eq_false (p:=la=lb) (fun c=>c2 (congrArg List.length c)),Bool.and_false];simp only [simprocAttr,-ZA,↓zU,↓zD,zV,zT,zW,xR,vR,q1,q2];exact .dv
 have q2:((la.length:Int) != (lb.length:Int))= false:=by rw [c2]; simp
 simp only [simprocAttr,-ZA,↓zU,↓zD,zV,zT,zW,xR,vR,q1,q2]
 refine xW (fun k:Nat=>[(5,.int .i64 k),(3,.ref 1 2 0 0),(2,.ref 0 2 0 0)]) (fun _=>⟨2,[(1,⟨2,[[.sl 1 (rl lb),.sl 1 (us fb)]]⟩),(0,⟨2,[[.sl 1 (rl la),.sl 1 (us fa)]]⟩)]⟩)
  (fun k=>k<=fa.length/\decide (fa=fb)= decide (fa.drop k=fb.drop k)) (fun k=>fa.length-k) 0 ⟨Nat.zero_le _,rfl⟩ ?_ ?_
 ·(refine xH.same ?_; simp [xO,Fr.get])
 rintro k ⟨hk,hd⟩;refine xP mixed ?_
 by_cases h:k<fa.length
 ·have q:((k:Int)<(fa.length:Int)):=by omega
  rw [hd,lI (d:=0#64) h (by omega)]
  by_cases e:fa.getD k 0#64=fb.getD k 0#64
  ·rw [decide_eq_true e,Bool.true_and];have e':(fa.getD k 0 != fb.getD k 0)= false:=by show (fa.getD k 0#64 != fb.getD k 0#64)= false; rw [e]; simp
   simp only [simprocAttr,-ZA,↓zU,↓zD,zV,zT,zW,q,xR,zH fa h,zH fb (show k<fb.length by omega),e']
   (repeat refine sd ?_)
   refine⟨k+1,⟨h,rfl⟩,?_,by omega⟩
   (refine xH.same ?_; simp only [xO,Fr.get,simprocAttr,-ZA,zS])
   exact sL (by omega)
  ·rw [decide_eq_false e,Bool.false_and,Bool.false_and];have e':(fa.getD k 0 != fb.getD k 0)= true:=by simpa using e
   simp only [simprocAttr,-ZA,↓zU,↓zD,zV,zT,zW,q,xR,zH fa h,zH fb (show k<fb.length by omega),e']
   (repeat refine sd ?_)
   exact .dv
 have q:¬ ((k:Int)<(fa.length:Int)):=by omega
 have hf:decide (fa=fb)= true:=by rw [hd,List.drop_eq_nil_of_le (by omega),List.drop_eq_nil_of_le (by omega)]; simp
 rw [hf,Bool.true_and];simp only [simprocAttr,-ZA,↓zU,↓zD,zV,zT,zW,q,xR]
 refine xW (fun k:Nat=>[(6,.int .i64 k),(3,.ref 1 2 0 0),(2,.ref 0 2 0 0)]) (fun _=>⟨2,[(1,⟨2,[[.sl 1 (rl lb),.sl 1 (us fb)]]⟩),(0,⟨2,[[.sl 1 (rl la),.sl 1 (us fa)]]⟩)]⟩)
  (fun k=>k<=la.length/\decide (la=lb)= decide (la.drop k=lb.drop k)) (fun k=>la.length-k) 0 ⟨Nat.zero_le _,rfl⟩ ?_ ?_
 ·(refine xH.same ?_; simp [xO,Fr.get])
 rintro k ⟨hk,hd⟩;refine xP mixed ?_;by_cases h:k<la.length
 case neg=>
  have q:¬ ((k:Int)<(la.length:Int)):=by omega
  rw [hd,List.drop_eq_nil_of_le (by omega),List.drop_eq_nil_of_le (by omega)];simp only [simprocAttr,-ZA,↓zU,↓zD,zV,zT,zW,q,vR];exact .dv
 have q:((k:Int)<(la.length:Int)):=by omega
 have h3k:=h3 _ (xK (d:=[]) h);have g1:=iN la h;have g2:=iN lb (show k<lb.length by omega);have hd2:=hd;rw [lI (d:=[]) h (by omega)] at hd2;rw [hd2];generalize la.getD k []=x at *;generalize lb.getD k []=y at *;by_cases c3:x.length=y.length
 case neg=>
  have q3:((x.length:Int) != (y.length:Int))= true:=by simpa using fun c=>c3 (by omega)
  rw [decide_eq_false (fun c=>c3 (congrArg List.length c)),Bool.false_and];simp only [simprocAttr,-ZA,↓zU,↓zD,zV,zT,zW,q,vR,g1,g2,yX,q3]
  (repeat refine sd ?_)
  exact .dv
 have q3:((x.length:Int) != (y.length:Int))= false:=by rw [c3]; simp
 simp only [simprocAttr,-ZA,↓zU,↓zD,zV,zT,zW,q,vR,g1,g2,yX,q3]
 (repeat refine sd ?_)
 refine xW (fun j:Nat=>[(7,.int .i64 j),(6,.int .i64 k),(3,.ref 1 2 0 0),(2,.ref 0 2 0 0)]) (fun _=>⟨2,[(1,⟨2,[[.sl 1 (rl lb),.sl 1 (us fb)]]⟩),(0,⟨2,[[.sl 1 (rl la),.sl 1 (us fa)]]⟩)]⟩)
  (fun j=>j<=x.length/\decide (x=y)= decide (x.drop j=y.drop j)) (fun j=>x.length-j) 0 ⟨Nat.zero_le _,rfl⟩ ?_ ?_
 ·(refine xH.same ?_; simp [xO,Fr.get])
 rintro j ⟨hj,hdj⟩;refine xP mixed ?_
 by_cases hx:j<x.length
 ·have qx:((j:Int)<(x.length:Int)):=by omega
  rw [hdj,lI (d:=0) hx (by omega)]
  by_cases e:x.getD j 0=y.getD j 0
  ·rw [decide_eq_true e,Bool.true_and];have e':(x.getD j 0 != y.getD j 0)= false:=by rw [e]; simp
   simp only [simprocAttr,-ZA,↓zU,↓zD,zV,zT,zW,qx,vR,g1,g2,yX,yB .i64 x hx,yB .i64 y (show j<y.length by omega),e']
   (repeat refine sd ?_)
   refine⟨j+1,⟨hx,rfl⟩,?_,by omega⟩
   (refine xH.same ?_; simp only [xO,Fr.get,simprocAttr,-ZA,zS])
   exact sL (by omega)
  ·rw [decide_eq_false e,Bool.false_and,Bool.false_and];have e':(x.getD j 0 != y.getD j 0)= true:=by simpa using e
   simp only [simprocAttr,-ZA,↓zU,↓zD,zV,zT,zW,qx,vR,g1,g2,yX,yB .i64 x hx,yB .i64 y (show j<y.length by omega),e']
   (repeat refine sd ?_)
   exact .dv
 have qx:¬ ((j:Int)<(x.length:Int)):=by omega
 have hxy:decide (x=y)= true:=by rw [hdj,List.drop_eq_nil_of_le (by omega),List.drop_eq_nil_of_le (by omega)]; simp
 simp only [simprocAttr,-ZA,↓zU,↓zD,zV,zT,zW,qx,vR,g1,g2,yX]
 (repeat refine sd ?_)
 refine⟨k+1,⟨h,by rw [hxy,Bool.true_and]⟩,?_,by omega⟩
 (refine xH.same ?_; simp only [xO,Fr.get,simprocAttr,-ZA,zS])
 exact sL (by omega)
theorem aCs (a b:pF):decide (a=b)= (decide (a.ag=b.ag)&& (decide (a.fa=b.fa)&& (decide (a.ln=b.ln)&& decide (a.rs=b.rs)))):=by cases a; cases b;rw [Bool.eq_iff_iff];simp
def aNj (s:pF):Prop:=s.rs.length<=1000000/\∀ r ∈ s.rs,r.fac.length<=1000000/\r.loc.length<=1000000/\∀ l ∈ r.loc,l.length<=1000000
theorem bWi (a b:pF) (hs:aNj a):yU Tryz.prog 23 [a.d,b.d] (.bool (decide (a=b))):=by
 rw [aCs];have hA:a.d = .agg [.int .i64 a.ag,.int .i64 a.fa,.int .i64 a.ln,.sl 2 (uE a.rs)]:=rfl;have hB:b.d = .agg [.int .i64 b.ag,.int .i64 b.fa,.int .i64 b.ln,.sl 2 (uE b.rs)]:=rfl;rw [hA,hB];cases a with | mk a1 a2 a3 xs=>
 cases b with | mk b1 b2 b3 ys=>
 obtain⟨h1,h2⟩:=hs;simp only at h1 h2 ⊢;refine xX.xQ mixed Tryz.func23 k23 (by simp) fun hf=>?_;by_cases c1:a1=b1
 case neg=>
  have q:(a1 != b1)= true:=by simpa using c1
  rw [decide_eq_false c1,Bool.false_and];simp only [simprocAttr,-ZA,↓zU,↓zD,zV,zT,zW,q,yD];exact .dv
 by_cases c2:a2=b2
 case neg=>
  have q1:(a1 != b1)= false:=by simpa using c1
  have q:(a2 != b2)= true:=by simpa using c2
  rw [decide_eq_false c2,Bool.false_and,Bool.and_false];simp only [simprocAttr,-ZA,↓zU,↓zD,zV,zT,zW,q1,q,yD];exact .dv
 by_cases c3:a3=b3
 case neg=>
  have q1:(a1 != b1)= false:=by simpa using c1
  have q2:(a2 != b2)= false:=by simpa using c2
  have q:(a3 != b3)= true:=by simpa using c3
  rw [decide_eq_false c3,Bool.false_and,Bool.and_false,Bool.and_false];simp only [simprocAttr,-ZA,↓zU,↓zD,zV,zT,zW,q1,q2,q,yD];exact .dv
 have q1:(a1 != b1)= false:=by simpa using c1
 have q2:(a2 != b2)= false:=by simpa using c2
 have q3:(a3 != b3)= false:=by simpa using c3
 rw [decide_eq_true c1,decide_eq_true c2,decide_eq_true c3,Bool.true_and,Bool.true_and,Bool.true_and];by_cases c4:xs.length=ys.length
 case neg=>
  have q:((xs.length:Int) != (ys.length:Int))= true:=by simpa using fun c=>c4 (by omega)
  rw [decide_eq_false (fun c=>c4 (congrArg List.length c))];simp only [simprocAttr,-ZA,↓zU,↓zD,zV,zT,zW,q1,q2,q3,q,yD];exact .dv
 have q4:((xs.length:Int) != (ys.length:Int))= false:=by rw [c4]; simp
 clear c1 c2 c3;simp only [simprocAttr,-ZA,↓zU,↓zD,zV,zT,zW,q1,q2,q3,q4,yD]
 refine xW (fun k:Nat=>[(5,.int .i64 k),(3,.ref 1 4 0 0),(2,.ref 0 4 0 0)]) (fun _=>⟨2,[(1,⟨4,[[.int .i64 b1,.int .i64 b2,.int .i64 b3,.sl 2 (uE ys)]]⟩),(0,⟨4,[[.int .i64 a1,.int .i64 a2,.int .i64 a3,.sl 2 (uE xs)]]⟩)]⟩)
  (fun k=>k<=xs.length/\decide (xs=ys)= decide (xs.drop k=ys.drop k)) (fun k=>xs.length-k) 0 ⟨Nat.zero_le _,rfl⟩ ?_ ?_
 ·(refine xH.same ?_; simp [xO,Fr.get])
 rintro k ⟨hk,hd⟩;refine xP mixed ?_;by_cases h:k<xs.length
 case neg=>
  have q:¬ ((k:Int)<(xs.length:Int)):=by omega
  rw [hd,List.drop_eq_nil_of_le (by omega),List.drop_eq_nil_of_le (by omega)];simp only [simprocAttr,-ZA,↓zU,↓zD,zV,zT,zW,q,yD];exact .dv
 have q:((k:Int)<(xs.length:Int)):=by omega
 have hr:=h2 _ (xK (d:=qK) h);have hc:=aL5 (xs.getD k qK) (ys.getD k qK) hr.1 hr.2.1 hr.2.2;have g1:(uE xs).getD k [] = [.sl 1 (rl (xs.getD k qK).loc),.sl 1 (us (xs.getD k qK).fac)]:=rQ xs h;have g2:(uE ys).getD k [] = [.sl 1 (rl (ys.getD k qK).loc),.sl 1 (us (ys.getD k qK).fac)]:=rQ ys (by omega);have hc:yU Tryz.prog 81 [.agg [.sl 1 (rl (xs.getD k qK).loc),.sl 1 (us (xs.getD k qK).fac)],.agg [.sl 1 (rl (ys.getD k qK).loc),.sl 1 (us (ys.getD k qK).fac)]] _:=hc;rw [hd,lI (d:=qK) h (by omega)];rw [lI (d:=qK) h (by omega)] at hd;generalize xs.getD k qK=x at *;generalize ys.getD k qK=y at *;generalize hP:decide (x=y)= b at *;simp only [simprocAttr,-ZA,↓zU,↓zD,zV,zT,zW,q,yD,g1,g2]
 (repeat refine sd ?_)
 refine .go (cq hc) ?_
 cases b with
 | false=> rw [Bool.false_and];simp only [simprocAttr,-ZA,↓zU,↓zD,zV,zT,zW];exact .dv
 | true=>
  rw [Bool.true_and];simp only [simprocAttr,-ZA,↓zU,↓zD,zV,zT,zW];refine⟨k+1,⟨h,rfl⟩,?_,by omega⟩
  (refine xH.same ?_; simp only [xO,Fr.get,simprocAttr,-ZA,zS])
  exact sL (by omega)
open Rs Fm Ru Te Kb
namespace Kb
instance : DecidableEq ChA := fun a b => decidable_of_iff (a.ag = b.ag /\ a.seen = b.seen /\ a.mv = b.mv) (by cases a; cases b; simp)
def exL : List ChA:=[⟨0,[0#64],-1⟩,⟨0,[1#64],0⟩,⟨0,[0#64,0#64],-1⟩,⟨0,[1#64,1#64],-1⟩,⟨1,[0#64],-1⟩,⟨1,[0#64,0#64],-1⟩,⟨1,[0#64,2#64],-1⟩]
theorem aPy : aVw exP 3=exL:=by unfold aVw;rw [if_neg (by rw [aT7]; simp),show (3:Int).toNat-1=2 from rfl,aWi];unfold aIq mA;simp only [aEk];decide +kernel
theorem aUo : cN exP exL 3=0:=by decide +kernel
theorem aAj : tQ exP exL 2 = [[0#64,0#64,0#64],[1#64,3#64,3#64]]:=by decide +kernel
theorem bZ3 : aDx exP exL 3=exS:=by unfold aDx;rw [if_neg (by rw [aUo]; simp),show (3:Int).toNat=3 from rfl,aAj,aSi];decide +kernel
theorem bZ2 : bXl exP exL 3=true:=by decide +kernel
theorem lJ : pM exP:=⟨by decide,by decide,by decide⟩
theorem aWj : aZa exL:=⟨by decide,by decide⟩
theorem bZ4 : tP exP=0:=by decide +kernel
theorem aJi : aNj exS:=by unfold aNj; decide
end Kb
open Rs Fm Ru Te Kb
def exD : D:=.agg [.int .i64 2,.sl 1 (us [0#64,1#64]),.sl 1 (us [1#64,2#64]),.sl 1 (mvR [[⟨1,wZ 0⟩]]),.sl 1 [[.sl 2 (clR [⟨exT,0⟩])],[.xL]]]
theorem bZ5 : Nw exD exP.d:=by
 refine Nw.agg rfl fun j hj=>?_
 match j,hj with
 | 0,_=>exact Nw.refl _
 | 1,_=>exact Nw.refl _
 | 2,_=>exact Nw.refl _
 | 3,_=>exact Nw.refl _
 | 4,_=>
  refine Nw.sl rfl (by decide) fun i hi j hj=>?_;have e:j=0:=by omega
  subst e
  match i,hi with
  | 0,_=>exact Nw.refl _
  | 1,_=>exact Nw.xL 2
theorem aWh : yU Tryz.prog 36 [] exD:=by
 have c1:=aNu 0;have c2:=aSa 1 (wZ 0);have c3:=bYk (rH 1 (wZ 0));have c4:=bUi (wZ 0) (aQc (rH 1 (wZ 0)));have hD:exD = .agg [.int .i64 2,.sl 1 (us [0#64,1#64]),.sl 1 (us [1#64,2#64]),.sl 1 [[.sl 2 [[.int .i64 1,.sl 6 (ndR (wZ 0))]]]],.sl 1 [[.sl 2 [[.sl 6 (ndR (bW2 (wZ 0) (aQc (rH 1 (wZ 0))))),.int .i64 0]]],[.xL]]]:=rfl;rw [hD];generalize bW2 (wZ 0) (aQc (rH 1 (wZ 0)))= g1 at *;generalize aQc (rH 1 (wZ 0))= g2 at *;generalize rH 1 (wZ 0)= g3 at *;generalize wZ 0=g4 at *;refine xX.xQ mixed Tryz.func36 k36 (by simp) fun hf=>?_;simp only [simprocAttr,-ZA,↓zU,↓zD,zV,zT,zW];refine .go (cq c1) ?_;simp only [simprocAttr,-ZA,↓zU,↓zD,zV,zT,zW]
 (repeat refine sd ?_)
 refine .go (cr c2) ?_;simp only [simprocAttr,-ZA,↓zU,↓zD,zV,zT,zW];refine .go (cr c3) ?_;simp only [simprocAttr,-ZA,↓zU,↓zD,zV,zT,zW];refine .go (cr c4) ?_;simp only [simprocAttr,-ZA,↓zU,↓zD,zV,zT,zW]
 (repeat refine sd ?_)
 exact .drop (by simp) (by simp [vw,vwL,us,ui])
theorem aM4 : yU Tryz.prog 15 [] (.bool true):=by
 have hp:exD.xG=true:=rfl;have S1:Seen St0 (fun _=>False) exD exP.d:=bZ5.seen hp;have hP:yU Tryz.prog 19 [exD,.int .i64 3] (.tup [exS.d,.int .i64 0]):=yU.seen (args':=[exP.d,.int .i64 3]) (by have:=aT9 exP lJ 3; rwa [aAi,aT7] at this) ⟨S1,Seen.pure rfl,trivial⟩;have hL:yU Tryz.prog 21 [exD,.int .i64 3] (.tup [.sl 3 (chR exL),.int .i64 0]):=yU.seen (args':=[exP.d,.int .i64 3]) (by have:=aOk exP lJ 3; rwa [aPy,aT7] at this) ⟨S1,Seen.pure rfl,trivial⟩;have hG:yU Tryz.prog 25 [exD,.sl 3 (chR exL),.int .i64 3] (.tup [exS.d,.int .i64 0]):=yU.seen (args':=[exP.d,.sl 3 (chR exL),.int .i64 3]) (by have:=aOl exP lJ exL aWj 3; rwa [bZ3,aUo] at this) ⟨S1,Seen.pure rfl,Seen.pure rfl,trivial⟩;have hI:yU Tryz.prog 27 [exD,.sl 3 (chR exL),.int .i64 3] (.tup [.bool true,.int .i64 0]):=yU.seen (args':=[exP.d,.sl 3 (chR exL),.int .i64 3]) (by have:=aVh exP lJ exL aWj 3; rwa [bZ2,aUo] at this) ⟨S1,Seen.pure rfl,Seen.pure rfl,trivial⟩;have hC:yU Tryz.prog 17 [exD] (.int .i64 0):=yU.seen (args':=[exP.d]) (by have:=aLi exP lJ; rwa [bZ4] at this) ⟨S1,trivial⟩;have hS:yU Tryz.prog 23 [exS.d,exS.d] (.bool true):=by have:=bWi exS exS aJi; simpa using this
 have hE:=aWh;have eL:chR exL = [[.int .i64 0,.sl 1 (us [0#64]),.int .i64 (-1)],[.int .i64 0,.sl 1 (us [1#64]),.int .i64 0],[.int .i64 0,.sl 1 (us [0#64,0#64]),.int .i64 (-1)],[.int .i64 0,.sl 1 (us [1#64,1#64]),.int .i64 (-1)],[.int .i64 1,.sl 1 (us [0#64]),.int .i64 (-1)],[.int .i64 1,.sl 1 (us [0#64,0#64]),.int .i64 (-1)],[.int .i64 1,.sl 1 (us [0#64,2#64]),.int .i64 (-1)]]:=rfl;have eS:exS.d = .agg [.int .i64 2,.int .i64 2,.int .i64 3,.sl 2 [[.sl 1 [[.sl 1 [[.int .i64 0],[.int .i64 0]]],[.sl 1 [[.int .i64 2],[.int .i64 1]]],[.sl 1 [[.int .i64 4],[.int .i64 3]]]],.sl 1 [[.int .u64 0],[.int .u64 0],[.int .u64 0]]],[.sl 1 [[.sl 1 [[.int .i64 1],[.int .i64 0]]],[.sl 1 [[.int .i64 3],[.int .i64 2]]],[.sl 1 [[.int .i64 5],[.int .i64 4]]]],.sl 1 [[.int .u64 1],[.int .u64 3],[.int .u64 3]]]]]:=rfl;rw [eS] at hP hG hS;generalize exD=d at *;generalize hl:chR exL=cl at *;refine xX.xQ mixed Tryz.func15 k15 (by simp) fun hf=>?_;simp only [simprocAttr,-ZA,↓zU,↓zD,zV,zT,zW];refine .go (cq hE) ?_;simp only [simprocAttr,-ZA,↓zU,↓zD,zV,zT,zW];refine .go (xX.yT hP (by simp [D.xV,D.xG,hp])) ?_;simp only [simprocAttr,-ZA,↓zU,↓zD,zV,zT,zW];refine .go (cq hE) ?_;simp only [simprocAttr,-ZA,↓zU,↓zD,zV,zT,zW];refine .go (xX.yT hL (by simp [D.xV,D.xG,hp])) ?_;simp only [simprocAttr,-ZA,↓zU,↓zD,zV,zT,zW];refine .go (cq hE) ?_;simp only [simprocAttr,-ZA,↓zU,↓zD,zV,zT,zW];refine .go (xX.yT hG (by simp [D.xV,D.xG,hp])) ?_;simp only [simprocAttr,-ZA,↓zU,↓zD,zV,zT,zW];refine .go (cq hE) ?_;simp only [simprocAttr,-ZA,↓zU,↓zD,zV,zT,zW];refine .go (xX.yT hI (by simp [D.xV,D.xG,hp])) ?_;simp only [simprocAttr,-ZA,↓zU,↓zD,zV,zT,zW]
 (repeat refine sd ?_)
 refine .go (cr hS) ?_;simp only [simprocAttr,-ZA,↓zU,↓zD,zV,zT,zW];refine .go (cr hS) ?_;simp only [simprocAttr,-ZA,↓zU,↓zD,zV,zT,zW,eL]
 (repeat refine sd ?_)
 refine .go (cq hE) ?_;simp only [simprocAttr,-ZA,↓zU,↓zD,zV,zT,zW];refine .go (xX.yT hC (by simp [D.xV,D.xG,hp])) ?_;simp only [simprocAttr,-ZA,↓zU,↓zD,zV,zT,zW];exact .dv
open Rs Fm Ru Te Kb
namespace Kb
end Kb
open Rs Fm Ru Te Kb
theorem bWj (p:PrA):yU Tryz.prog 16 [p.d,.xL] (.bool (cM p [])):=yU.seen (args':=[p.d,.sl 3 (chR [])]) (bUh p []) ⟨Seen.pure rfl,Seen.nil 3,trivial⟩
theorem aPw {p:PrA} {l:List ChA} (h:cM p l=true):pM p:=by obtain⟨h1,h2,h3⟩:=aJh h;exact⟨h1,h2,h3⟩
open Rs Fm Ru Te Kb
namespace Kb
theorem aT2 {p:PrA} {F k:Nat} (hv:PrV p F) (hk:k<=5) {sts:List (List (BitVec 64))} (hS:PlS p F sts k):OkR (sS p.see sts (k+1)) p.see.length F (k+1):=by
 have hl:=pY p.see sts (k+1);have hR:=hv.hI;have hn:=hS.len
 have key:∀ r ∈ sS p.see sts (k+1),∃ i,i<sts.length/\r=⟨(List.range (k+1)).map fun t=>(List.range p.see.length).map fun a=>((below (gW p.see sts (k+1) a) (qI p.see sts a (i,t)):Nat):Int),stR sts i⟩:=fun r hr=>by
  obtain⟨i,hi,rfl⟩:=List.getElem_of_mem hr;have hi':i<sts.length:=by omega
  refine⟨i,hi',?_⟩;rw [<- lR hi'];simp [List.getD,hi]
 refine⟨hv.hA.2,hv.hF,⟨by omega,by omega⟩,⟨by omega,by omega⟩,?_,?_,?_,?_,?_⟩
 ·rw [hl];have:sts.length*(k+1)<=16*6:=Nat.mul_le_mul (by omega) (by omega);omega
 ·intro r hr;obtain⟨i,hi,rfl⟩:=key r hr;simp
 ·intro r hr;obtain⟨i,hi,rfl⟩:=key r hr;exact hS.run _ (sK hi)
 ·intro r hr l hm;obtain⟨i,hi,rfl⟩:=key r hr;simp only [List.mem_map] at hm;obtain⟨t,_,rfl⟩:=hm;simp
 ·intro r hr f hm;obtain⟨i,hi,rfl⟩:=key r hr;exact hS.val _ (sK hi) f hm
theorem aN4 {see:List (BitVec 64)} {sts:List (List (BitVec 64))} {T a:Nat} {x y:Nat × Nat} (ha:a<see.length) (hx:x.1<sts.length/\x.2<T) (hy:y.1<sts.length/\y.2<T) :
  wE (sS see sts T) a x=wE (sS see sts T) a y ↔ qI see sts a x=qI see sts a y:=aH9 ha (by rw [lG]; exact hx) (by rw [lG]; exact hy)
theorem jA {p:PrA} {k:Nat} (h:tP p=0) (hk:k<=5):iS p ((k+1:Nat):Int)= 0/\∃ F,PrV p F/\cJ p ((k+1:Nat):Int)= ⟨p.see.length,F,((k+1:Nat):Int),sS p.see (zL p k) (k+1)⟩:=by
 have h1:iS p ((k+1:Nat):Int)= 0:=by unfold iS;rw [if_neg (by simpa using h),if_neg (by omega)]
 obtain⟨F,hv⟩:=aWr h;refine⟨h1,F,hv,?_⟩;unfold cJ;rw [if_neg (by simpa using h1),hv.fe];rfl
end Kb
open Rs Fm Ru Te
namespace Te
abbrev nT (t:Tr):Tr:=.nd 4 0 0 0 t .nil
abbrev orT (t u:Tr):Tr:=.nd 6 0 0 0 t u
abbrev bWw (t u:Tr):Tr:=.nd 7 0 0 0 t u
abbrev knT (a:Int) (t:Tr):Tr:=.nd 9 a 0 0 t .nil
theorem ok0 {A F:Nat} {p:Nd} (h1:sX p &&& 3824=0) (h2:wJ p=0) (h3:tF p=0):okN A F p=true:=by simp [okN,h1,h2,h3]
section
variable {A F : Nat} {f g : List Nd} {t u : Tr}
theorem bZu (h:Is A F f t) (hl:szT t<200):Is A F (aQc f) (nT t)/\ szT (nT t)<=szT t+1:=h.un (x:=⟨4,0,0,0,0,0⟩) rfl rfl (by decide) rfl (ok0 (by decide) (by decide) (by decide)) hl
theorem aUl {a:Nat} (ha:a<A) (hA:A<=4) (h:Is A F f t) (hl:szT t<200):Is A F (rH a f) (knT a t)/\ szT (knT a t)<=szT t+1:=by
 refine h.un (x:=⟨9,a,0,0,0,0⟩) rfl rfl ?_ rfl ?_ hl
 ·have:a=0\/a=1\/a=2\/a=3:=by omega
  rcases this with rfl | rfl | rfl | rfl <;> decide
 ·have h1:sX ⟨9,(a:Int),0,0,0,0⟩&&& 3824=0:=show (1:Nat)&&& 3824=0 by decide
  have h2:wJ ⟨9,a,0,0,0,0⟩/ 2 ^ A=0:=by have:wJ ⟨9,a,0,0,0,0⟩= 2 ^ a:=rfl;rw [this];exact Nat.div_eq_of_lt (Nat.pow_lt_pow_right (by decide) ha)
  have h3:tF ⟨9,a,0,0,0,0⟩= 0:=rfl;simp [okN,h1,h2,h3]
theorem bV0 (h:Is A F f t) (h2:Is A F g u) (hl:szT t+szT u<200):Is A F (orA f g) (orT t u)/\ szT (orT t u)<=szT t+szT u+1:=h.bin (x:=⟨6,0,0,0,0,0⟩) h2 rfl rfl (by decide) (ok0 (by decide) (by decide) (by decide)) hl
theorem bZv (h:Is A F f t) (h2:Is A F g u) (hl:szT t+szT u<200):Is A F (bWx f g) (bWw t u)/\ szT (bWw t u)<=szT t+szT u+1:=h.bin (x:=⟨7,0,0,0,0,0⟩) h2 rfl rfl (by decide) (ok0 (by decide) (by decide) (by decide)) hl
end
section
variable {rs : List zG} {A T : Nat} {t u : Tr} {p : Nat × Nat}
theorem bZ6 : evT rs A T (nT t) p=!evT rs A T t p:=rfl
theorem bV3 : evT rs A T (orT t u) p=(evT rs A T t p || evT rs A T u p):=rfl
theorem bZ7 : evT rs A T (bWw t u) p=(!evT rs A T t p || evT rs A T u p):=rfl
theorem aUp {a:Nat}:evT rs A T (knT a t) p=lX rs T a (evT rs A T t) p:=rfl
end
theorem aXy {rs:List zG} {T a:Nat} {x:Tab} {p:Nat × Nat}:lX rs T a x p=true ↔ ∀ q ∈ ptl rs T,wE rs a q=wE rs a p->x q=true:=by
 unfold lX;simp only [List.all_eq_true,Bool.or_eq_true,Bool.not_eq_true',decide_eq_false_iff_not]
 constructor
 ·intro h q hq e; exact(h q hq).resolve_left (fun n=>n e)
 ·intro h q hq
  by_cases e:wE rs a q=wE rs a p
  ·exact .inr (h q hq e)
  ·exact .inl e
end Te
open Rs Fm Ru Te
namespace Ru
end Ru
namespace Te
end Te
end Go.Pd
