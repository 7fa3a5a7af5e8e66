/- Part KD. -/
import Derived.Test.YtndfaefmmcoapaaGreatUoKB
set_option linter.unusedSectionVars false
set_option linter.unusedVariables false
set_option linter.unusedSimpArgs false
set_option linter.defProp false
set_option maxRecDepth 20000
set_option maxHeartbeats 1000000
namespace Go.Pd
open Go Go.Proofs
open BitVec renaming isValue -> ZA
open Rs Fm Ru Kb
theorem bXd (p:PrA) (sm:qO p):yT Tryz.prog 66 [p.d] (.int .i64 (zZ p)):=by
 have hD:p.d = .agg [.int .i64 p.F,.sl 1 (us p.init),.sl 1 (us p.see),.sl 1 (mvR p.xM),.sl 1 (cdR p.code)]:=rfl;have h5:=sm.code;rw [hD];refine xX.xR mixed Tryz.func66 k66 (by simp) fun hf=>?_
 by_cases a1:p.F<0
 ·rw [show zZ p=2 by unfold zZ; simp [a1]];simp only [simprocAttr,-ZA,↓zU,↓zD,zV,zT,zW,a1];exact .drop (by simp) (by simp [vw])
 by_cases a2:8<p.F
 ·rw [show zZ p=2 by unfold zZ; simp [a2]];simp only [simprocAttr,-ZA,↓zU,↓zD,zV,zT,zW,a1,a2];exact .drop (by simp) (by simp [vw])
 have hfe:zZ p=if 4<p.see.length\/16<p.init.length\/8<p.xM.length\/p.code.any (fun l=>decide (6<l.length))= true then 8 else
   if p.see.length=0\/p.init.length=0\/p.code.length≠p.see.length\/p.init.any (nB p)= true\/p.see.any (nB p)= true then 3 else
   if aKh p.init=false\/p.xM.any (fun s=>!aWj s)= true then 9 else 0:=by
  unfold zZ; rw [if_neg (by omega)]
 by_cases a3:4<p.see.length
 ·rw [show zZ p=8 by simp [hfe,a3]];have a3':(4:Int)<(p.see.length:Int):=by omega
  simp only [simprocAttr,-ZA,↓zU,↓zD,zV,zT,zW,a1,a2,a3',xQ];exact .drop (by simp) (by simp [vw])
 have a3':¬ (4:Int)<(p.see.length:Int):=by omega
 by_cases a4:16<p.init.length
 ·rw [show zZ p=8 by simp [hfe,a4]];have a4':(16:Int)<(p.init.length:Int):=by omega
  simp only [simprocAttr,-ZA,↓zU,↓zD,zV,zT,zW,a1,a2,a3',a4',xQ];exact .drop (by simp) (by simp [vw])
 have a4':¬ (16:Int)<(p.init.length:Int):=by omega
 by_cases a5:8<p.xM.length
 ·rw [show zZ p=8 by simp [hfe,a5]];have a5':(8:Int)<(p.xM.length:Int):=by omega
  simp only [simprocAttr,-ZA,↓zU,↓zD,zV,zT,zW,a1,a2,a3',a4',a5',xQ,yU];exact .drop (by simp) (by simp [vw])
 have a5':¬ (8:Int)<(p.xM.length:Int):=by omega
 simp only [simprocAttr,-ZA,↓zU,↓zD,zV,zT,zW,a1,a2,a3',a4',a5',xQ,yU]
 refine xW (fun k:Nat=>[(3,.int .i64 k),(1,.ref 0 5 0 0)]) (fun _=>⟨1,[(0,⟨5,[p.cells]⟩)]⟩)
  (fun k=>k<=p.code.length/\p.code.any (fun l=>decide (6<l.length))= (p.code.drop k).any (fun l=>decide (6<l.length))) (fun k=>p.code.length-k) 0 ⟨Nat.zero_le _,rfl⟩ ?_ ?_
 ·unfold PrA.cells; (refine xI.same ?_; simp [xP,Fr.get])
 intro k ⟨hk,hi⟩;refine xN mixed ?_;by_cases hkl:k<p.code.length
 case pos=>
  have hd:((k:Int)<(p.code.length:Int)):=by omega
  rw [drop_cons (d:=[]) hkl,List.any_cons] at hi;have hg:=kH p.code hkl;generalize p.code.getD k []=s at hi hg;unfold PrA.cells
  by_cases h6:6<s.length
  ·have h6':(6:Int)<(s.length:Int):=by omega
   rw [decide_eq_true h6,Bool.true_or] at hi;rw [show zZ p=8 by simp only [hfe,hi]; simp];simp only [simprocAttr,-ZA,↓zU,↓zD,zV,zT,zW,hd,yD,hg,wD,h6']
   (repeat refine sd ?_)
   exact .drop (by simp) (by simp [vw])
  ·have h6':¬ (6:Int)<(s.length:Int):=by omega
   rw [decide_eq_false h6,Bool.false_or] at hi;simp only [simprocAttr,-ZA,↓zU,↓zD,zV,zT,zW,hd,yD,hg,wD,h6']
   (repeat refine sd ?_)
   refine⟨k+1,⟨by omega,hi⟩,?_,by omega⟩
   (refine xI.same ?_; simp only [xP,Fr.get,↓reduceIte,reduceIte,Nat.reduceEqDiff,reduceCtorEq,D.int.injEq,D.bool.injEq,D.sl.injEq,and_true,true_and,and_self])
   exact wrap_i64 (by omega)
 have hd:¬ ((k:Int)<(p.code.length:Int)):=by omega
 have a6:p.code.any (fun l=>decide (6<l.length))= false:=by rw [hi,List.drop_eq_nil_of_le (by omega)]; rfl
 clear hi;unfold PrA.cells;simp only [simprocAttr,-ZA,↓zU,↓zD,zV,zT,zW,hd,yD]
 have hf1:zZ p=if p.see.length=0\/p.init.length=0\/p.code.length≠p.see.length\/p.init.any (nB p)= true\/p.see.any (nB p)= true then 3 else
   if aKh p.init=false\/p.xM.any (fun s=>!aWj s)= true then 9 else 0:=by rw [hfe,if_neg (by rw [a6]; simp only [not_or]; exact⟨by omega,by omega,by omega,by simp⟩)]
 by_cases b1:p.see.length=0
 ·rw [show zZ p=3 by rw [hf1,if_pos (.inl b1)]];have b1':((p.see.length:Int)== 0)= true:=by rw [b1]; rfl
  simp only [simprocAttr,-ZA,↓zU,↓zD,zV,zT,zW,xQ,b1'];exact .drop (by simp) (by simp [vw])
 have b1':((p.see.length:Int)== 0)= false:=by rw [beq_eq_false_iff_ne]; omega
 by_cases b2:p.init.length=0
 ·rw [show zZ p=3 by rw [hf1,if_pos (.inr (.inl b2))]];have b2':((p.init.length:Int)== 0)= true:=by rw [b2]; rfl
  simp only [simprocAttr,-ZA,↓zU,↓zD,zV,zT,zW,xQ,b1',b2'];exact .drop (by simp) (by simp [vw])
 have b2':((p.init.length:Int)== 0)= false:=by rw [beq_eq_false_iff_ne]; omega
 by_cases b3:p.code.length=p.see.length
 case neg=>
  rw [show zZ p=3 by rw [hf1,if_pos (.inr (.inr (.inl b3)))]];have b3':((p.code.length:Int) != (p.see.length:Int))= true:=by rw [bne_iff_ne]; omega
  simp only [simprocAttr,-ZA,↓zU,↓zD,zV,zT,zW,xQ,b1',b2',yD,b3'];exact .drop (by simp) (by simp [vw])
 have b3':((p.code.length:Int) != (p.see.length:Int))= false:=by rw [b3]; exact bne_self_eq_false _
 simp only [simprocAttr,-ZA,↓zU,↓zD,zV,zT,zW,xQ,b1',b2',yD,b3'];clear hk hkl hd
 refine xW (fun k:Nat=>[(4,.int .i64 k),(1,.ref 0 5 0 0)]) (fun _=>⟨1,[(0,⟨5,[p.cells]⟩)]⟩)
  (fun k=>k<=p.init.length/\p.init.any (nB p)= (p.init.drop k).any (nB p)) (fun k=>p.init.length-k) 0 ⟨Nat.zero_le _,rfl⟩ ?_ ?_
 ·unfold PrA.cells; (refine xI.same ?_; simp [xP,Fr.get])
 intro k ⟨hk,hi⟩;refine xN mixed ?_;by_cases hkl:k<p.init.length
 case pos=>
  have hd:((k:Int)<(p.init.length:Int)):=by omega
  rw [drop_cons (d:=0) hkl,List.any_cons] at hi;have hg:=wS p.init hkl;generalize p.init.getD k 0=x at hi hg;unfold PrA.cells
  by_cases hx:x >>> p.F.toNat=0#64
  ·have ex:(x >>> p.F.toNat != 0#64)= false:=by simpa using hx
   rw [show nB p x=false by unfold nB; rw [decide_eq_true hx]; rfl,Bool.false_or] at hi;simp only [simprocAttr,-ZA,↓zU,↓zD,zV,zT,zW,hd,xQ,hg,ex]
   (repeat refine sd ?_)
   refine⟨k+1,⟨by omega,hi⟩,?_,by omega⟩
   (refine xI.same ?_; simp only [xP,Fr.get,↓reduceIte,reduceIte,Nat.reduceEqDiff,reduceCtorEq,D.int.injEq,D.bool.injEq,D.sl.injEq,and_true,true_and,and_self])
   exact wrap_i64 (by omega)
  ·have ex:(x >>> p.F.toNat != 0#64)= true:=by simpa using hx
   rw [show nB p x=true by unfold nB; rw [decide_eq_false hx]; rfl,Bool.true_or] at hi;rw [show zZ p=3 by rw [hf1,if_pos (.inr (.inr (.inr (.inl hi))))]];simp only [simprocAttr,-ZA,↓zU,↓zD,zV,zT,zW,hd,xQ,hg,ex]
   (repeat refine sd ?_)
   exact .drop (by simp) (by simp [vw])
 have hd:¬ ((k:Int)<(p.init.length:Int)):=by omega
 have b4:p.init.any (nB p)= false:=by rw [hi,List.drop_eq_nil_of_le (by omega)]; rfl
 clear hi;unfold PrA.cells;simp only [simprocAttr,-ZA,↓zU,↓zD,zV,zT,zW,hd,xQ];clear hk hkl hd
 refine xW (fun k:Nat=>[(5,.int .i64 k),(1,.ref 0 5 0 0)]) (fun _=>⟨1,[(0,⟨5,[p.cells]⟩)]⟩)
  (fun k=>k<=p.see.length/\p.see.any (nB p)= (p.see.drop k).any (nB p)) (fun k=>p.see.length-k) 0 ⟨Nat.zero_le _,rfl⟩ ?_ ?_
 ·unfold PrA.cells; (refine xI.same ?_; simp [xP,Fr.get])
 intro k ⟨hk,hi⟩;refine xN mixed ?_;by_cases hkl:k<p.see.length
 case pos=>
  have hd:((k:Int)<(p.see.length:Int)):=by omega
  rw [drop_cons (d:=0) hkl,List.any_cons] at hi;have hg:=wS p.see hkl;generalize p.see.getD k 0=x at hi hg;unfold PrA.cells
  by_cases hx:x >>> p.F.toNat=0#64
  ·have ex:(x >>> p.F.toNat != 0#64)= false:=by simpa using hx
   rw [show nB p x=false by unfold nB; rw [decide_eq_true hx]; rfl,Bool.false_or] at hi;simp only [simprocAttr,-ZA,↓zU,↓zD,zV,zT,zW,hd,xQ,hg,ex]
   (repeat refine sd ?_)
   refine⟨k+1,⟨by omega,hi⟩,?_,by omega⟩
   (refine xI.same ?_; simp only [xP,Fr.get,↓reduceIte,reduceIte,Nat.reduceEqDiff,reduceCtorEq,D.int.injEq,D.bool.injEq,D.sl.injEq,and_true,true_and,and_self])
   exact wrap_i64 (by omega)
  ·have ex:(x >>> p.F.toNat != 0#64)= true:=by simpa using hx
   rw [show nB p x=true by unfold nB; rw [decide_eq_false hx]; rfl,Bool.true_or] at hi;rw [show zZ p=3 by rw [hf1,if_pos (.inr (.inr (.inr (.inr hi))))]];simp only [simprocAttr,-ZA,↓zU,↓zD,zV,zT,zW,hd,xQ,hg,ex]
   (repeat refine sd ?_)
   exact .drop (by simp) (by simp [vw])
 have hd:¬ ((k:Int)<(p.see.length:Int)):=by omega
 have b5:p.see.any (nB p)= false:=by rw [hi,List.drop_eq_nil_of_le (by omega)]; rfl
 clear hi;unfold PrA.cells;simp only [simprocAttr,-ZA,↓zU,↓zD,zV,zT,zW,hd,xQ];clear hk hkl hd;have hf2:zZ p=if aKh p.init=false\/p.xM.any (fun s=>!aWj s)= true then 9 else 0:=by rw [hf1,if_neg (by simp [b1,b2,b3,b4,b5])]
 have hlm:(p.init.map ui).length=p.init.length:=by simp
 have hgm:∀ i,(p.init.map ui).getD i 0=ui (p.init.getD i 0):=fun i=>by simp only [List.getD,List.getElem?_map];cases p.init[i]? <;> rfl
 refine xW (fun k:Nat=>[(6,.int .i64 ((k+1:Nat):Int)),(1,.ref 0 5 0 0)]) (fun _=>⟨1,[(0,⟨5,[p.cells]⟩)]⟩)
  (fun k=>k<=p.init.length/\∀ i,i<k->i+1<p.init.length->(p.init.map ui).getD i 0<(p.init.map ui).getD (i+1) 0) (fun k=>p.init.length-k) 0 ⟨Nat.zero_le _,fun i hi=>absurd hi (Nat.not_lt_zero _)⟩ ?_ ?_
 ·unfold PrA.cells; (refine xI.same ?_; simp [xP,Fr.get])
 intro k ⟨hk,hi⟩;refine xN mixed ?_;by_cases hh:k+1<p.init.length
 case pos=>
  have hd:(((k+1:Nat):Int)<(p.init.length:Int)):=by omega
  have hw:IntKind.i64.wrap (((k+1:Nat):Int)-1)= (k:Int):=by rw [wrap_i64 (by omega)]; omega
  have hd2:((k:Int)<(p.init.length:Int)):=by omega
  have g1:=wS p.init (show k<p.init.length by omega);have g2:=wS p.init hh;have q1:=hgm k;have q2:=hgm (k+1);unfold PrA.cells
  by_cases hlt:ui (p.init.getD k 0)<ui (p.init.getD (k+1) 0)
  ·have hlt2:¬ ui (p.init.getD (k+1) 0)<=ui (p.init.getD k 0):=by omega
   simp only [simprocAttr,-ZA,↓zU,↓zD,zV,zT,zW,hd,xQ,hw,hd2,g1,g2,hlt2]
   (repeat refine sd ?_)
   refine⟨k+1,⟨by omega,fun i h1 h2=>?_⟩,?_,by omega⟩
   ·by_cases e:i=k
    ·rw [e,q1,q2]; exact hlt
    ·exact hi i (by omega) h2
   (refine xI.same ?_; simp only [xP,Fr.get,↓reduceIte,reduceIte,Nat.reduceEqDiff,reduceCtorEq,D.int.injEq,D.bool.injEq,D.sl.injEq,and_true,true_and,and_self])
   exact wrap_i64 (by omega)
  ·have hlt2:ui (p.init.getD (k+1) 0)<=ui (p.init.getD k 0):=by omega
   rw [show zZ p=9 by rw [hf2,if_pos (.inl (mD (i:=k) (by omega) (by rw [q1,q2]; exact hlt)))]];simp only [simprocAttr,-ZA,↓zU,↓zD,zV,zT,zW,hd,xQ,hw,hd2,g1,g2,hlt2]
   (repeat refine sd ?_)
   exact .drop (by simp) (by simp [vw])
 have hd:¬ (((k+1:Nat):Int)<(p.init.length:Int)):=by omega
 have c1:aKh p.init=true:=mC fun i h=>hi i (by omega) (by omega);clear hi;unfold PrA.cells;simp only [simprocAttr,-ZA,↓zU,↓zD,zV,zT,zW,hd,xQ];clear hk hh hd
 refine xW (fun k:Nat=>[(7,.int .i64 k),(1,.ref 0 5 0 0)]) (fun _=>⟨1,[(0,⟨5,[p.cells]⟩)]⟩)
  (fun k=>k<=p.xM.length/\p.xM.any (fun s=>!aWj s)= (p.xM.drop k).any (fun s=>!aWj s)) (fun k=>p.xM.length-k) 0 ⟨Nat.zero_le _,rfl⟩ ?_ ?_
 ·unfold PrA.cells; (refine xI.same ?_; simp [xP,Fr.get])
 intro k ⟨hk,hi⟩;refine xN mixed ?_;by_cases hkl:k<p.xM.length
 case neg=>
  have hd:¬ ((k:Int)<(p.xM.length:Int)):=by omega
  have c2:p.xM.any (fun s=>!aWj s)= false:=by rw [hi,List.drop_eq_nil_of_le (by omega)]; rfl
  rw [show zZ p=0 by rw [hf2,if_neg (by simp [c1,c2])]];unfold PrA.cells;simp only [simprocAttr,-ZA,↓zU,↓zD,zV,zT,zW,hd,yU];exact .drop (by simp) (by simp [vw])
 have hd:((k:Int)<(p.xM.length:Int)):=by omega
 rw [drop_cons (d:=[]) hkl,List.any_cons] at hi;have hg:=kM p.xM hkl;have hs:=sm.mv _ (xK (d:=[]) hkl);generalize p.xM.getD k []=s at hi hg hs;have hls:(s.map (·.fact)).length=s.length:=by simp
 have hgs:∀ i,i<s.length->(s.map (·.fact)).getD i 0=(s.getD i as0).fact:=fun i h=>by simp [List.getD,h]
 unfold PrA.cells;simp only [simprocAttr,-ZA,↓zU,↓zD,zV,zT,zW,hd,yU]
 refine xW (fun j:Nat=>[(8,.int .i64 ((j+1:Nat):Int)),(7,.int .i64 k),(1,.ref 0 5 0 0)]) (fun _=>⟨1,[(0,⟨5,[p.cells]⟩)]⟩)
  (fun j=>j<=s.length/\∀ i,i<j->i+1<s.length->(s.map (·.fact)).getD i 0<(s.map (·.fact)).getD (i+1) 0) (fun j=>s.length-j) 0 ⟨Nat.zero_le _,fun i hi=>absurd hi (Nat.not_lt_zero _)⟩ ?_ ?_
 ·unfold PrA.cells; (refine xI.same ?_; simp [xP,Fr.get])
 intro j ⟨hj,hi2⟩;refine xN mixed ?_;by_cases hh:j+1<s.length
 case neg=>
  have hd2:¬ (((j+1:Nat):Int)<(s.length:Int)):=by omega
  have c2:aWj s=true:=mC fun i h=>hi2 i (by omega) (by omega);rw [c2,Bool.not_true,Bool.false_or] at hi;unfold PrA.cells;simp only [simprocAttr,-ZA,↓zU,↓zD,zV,zT,zW,hd2,hd,yU,hg,wP]
  (repeat refine sd ?_)
  refine⟨k+1,⟨by omega,hi⟩,?_,by omega⟩
  (refine xI.same ?_; simp only [xP,Fr.get,↓reduceIte,reduceIte,Nat.reduceEqDiff,reduceCtorEq,D.int.injEq,D.bool.injEq,D.sl.injEq,and_true,true_and,and_self])
  exact wrap_i64 (by omega)
 have hd2:(((j+1:Nat):Int)<(s.length:Int)):=by omega
 have hw:IntKind.i64.wrap (((j+1:Nat):Int)-1)= (j:Int):=by rw [wrap_i64 (by omega)]; omega
 have hd3:((j:Int)<(s.length:Int)):=by omega
 have g1:=nM s (show j<s.length by omega);have g2:=nM s hh;have q1:=hgs j (by omega);have q2:=hgs (j+1) hh;unfold AsA.row at g1 g2;unfold PrA.cells
 by_cases hlt:(s.getD j as0).fact<(s.getD (j+1) as0).fact
 ·have hlt2:¬ (s.getD (j+1) as0).fact<=(s.getD j as0).fact:=by omega
  simp only [simprocAttr,-ZA,↓zU,↓zD,zV,zT,zW,hd2,hd,yU,hg,wP,hw,hd3,g1,g2,hlt2]
  (repeat refine sd ?_)
  refine⟨j+1,⟨by omega,fun i h1 h2=>?_⟩,?_,by omega⟩
  ·by_cases e:i=j
   ·rw [e,q1,q2]; exact hlt
   ·exact hi2 i (by omega) h2
  (refine xI.same ?_; simp only [xP,Fr.get,↓reduceIte,reduceIte,Nat.reduceEqDiff,reduceCtorEq,D.int.injEq,D.bool.injEq,D.sl.injEq,and_true,true_and,and_self])
  exact wrap_i64 (by omega)
 ·have hlt2:(s.getD (j+1) as0).fact<=(s.getD j as0).fact:=by omega
  have c2:aWj s=false:=mD (i:=j) (by omega) (by rw [q1,q2]; exact hlt);rw [show zZ p=9 by rw [hf2,if_pos (.inr (by rw [hi,c2]; rfl))]];simp only [simprocAttr,-ZA,↓zU,↓zD,zV,zT,zW,hd2,hd,yU,hg,wP,hw,hd3,g1,g2,hlt2]
  (repeat refine sd ?_)
  exact .drop (by simp) (by simp [vw])
theorem aZ4 (p:PrA) (f:List Nd) (fr:Int):yT Tryz.prog 67 [p.d,.sl 6 (ndR f),.int .i64 fr] (.int .i64 (fmE p f fr)):=by
 have h1:=aVl f;have h2:=aR3 f;have h3:=aMn f p.see.length p.F;unfold PrA.d PrA.cells fmE;refine xX.xR mixed Tryz.func67 k67 (by simp) fun hf=>?_;simp only [simprocAttr,-ZA,↓zU,↓zD,zV,zT,zW]
 (repeat refine sd ?_)
 refine .go (cr h1) ?_;by_cases e1:xA f=0
 case neg=>
  have e1':(xA f != 0)= true:=by simpa using e1
  simp only [simprocAttr,-ZA,↓zU,↓zD,zV,zT,zW,e1',e1];exact .drop (by simp) (by simp [vw])
 have e1':(xA f != 0)= false:=by simpa using e1
 simp only [simprocAttr,-ZA,↓zU,↓zD,zV,zT,zW,e1',e1];refine .go (cr h2) ?_;cases e2:qI .andNot .i64 (zG f) fr != 0
 case true=> simp only [simprocAttr,-ZA,↓zU,↓zD,zV,zT,zW,e2];exact .drop (by simp) (by simp [vw])
 simp only [simprocAttr,-ZA,↓zU,↓zD,zV,zT,zW,e2]
 (repeat refine sd ?_)
 refine .go (cr h3) ?_
 cases e3:rQ f p.see.length p.F
 ·simp only [simprocAttr,-ZA,↓zU,↓zD,zV,zT,zW];exact .drop (by simp) (by simp [vw])
 ·simp only [simprocAttr,-ZA,↓zU,↓zD,zV,zT,zW];exact .drop (by simp) (by simp [vw])
theorem aR6 (p:PrA) (sm:qO p):yT Tryz.prog 18 [p.d] (.int .i64 (tJ p)):=by
 have hS:=bXd p sm;have hF:=fun f fr=>aZ4 p f fr;have hD:p.d = .agg [.int .i64 p.F,.sl 1 (us p.init),.sl 1 (us p.see),.sl 1 (mvR p.xM),.sl 1 (cdR p.code)]:=rfl;rw [hD] at *;refine xX.xR mixed Tryz.func18 k18 (by simp) fun hf=>?_;simp only [simprocAttr,-ZA,↓zU,↓zD,zV,zT,zW]
 (repeat refine sd ?_)
 refine .go (cr hS) ?_;by_cases s0:zZ p=0
 case neg=>
  have s0':(zZ p != 0)= true:=by simpa using s0
  rw [show tJ p=zZ p by unfold tJ; rw [if_pos s0]];simp only [simprocAttr,-ZA,↓zU,↓zD,zV,zT,zW,s0'];exact .drop (by simp) (by simp [vw])
 have s0':(zZ p != 0)= false:=by simpa using s0
 have hch:tJ p=if wF (wF (asE p)) p.xM≠0 then wF (wF (asE p)) p.xM else wF (wF (clE p)) p.code:=by unfold tJ; rw [s0,if_neg (by simp)]
 have hsm:p.xM.length<=8/\∀ s ∈ p.code,s.length<=6:=by
  unfold zZ at s0
  split at s0
  ·cases s0
  ·split at s0
   ·cases s0
   ·rename_i h;simp only [not_or] at h;refine⟨by omega,fun s hs=>?_⟩;have:=List.any_eq_false.1 (Bool.eq_false_iff.2 h.2.2.2) s hs;simpa using this
 simp only [simprocAttr,-ZA,↓zU,↓zD,zV,zT,zW,s0']
 refine xW (fun k:Nat=>[(4,.int .i64 k),(1,.ref 0 5 0 0)]) (fun _=>⟨1,[(0,⟨5,[p.cells]⟩)]⟩)
  (fun k=>k<=p.xM.length/\wF (wF (asE p)) p.xM=wF (wF (asE p)) (p.xM.drop k)) (fun k=>p.xM.length-k) 0 ⟨Nat.zero_le _,rfl⟩ ?_ ?_
 ·unfold PrA.cells; (refine xI.same ?_; simp [xP,Fr.get])
 intro k ⟨hk,hi⟩;refine xN mixed ?_;by_cases hkl:k<p.xM.length
 case pos=>
  have hd:((k:Int)<(p.xM.length:Int)):=by omega
  rw [uA (d:=[]) _ hkl] at hi;have hg:=kM p.xM hkl;have hs:=sm.mv _ (xK (d:=[]) hkl);generalize p.xM.getD k []=s at hi hg hs;unfold PrA.cells;simp only [simprocAttr,-ZA,↓zU,↓zD,zV,zT,zW,hd,yU]
  refine xW (fun j:Nat=>[(5,.int .i64 j),(4,.int .i64 k),(1,.ref 0 5 0 0)]) (fun _=>⟨1,[(0,⟨5,[p.cells]⟩)]⟩)
   (fun j=>j<=s.length/\wF (asE p) s=wF (asE p) (s.drop j)) (fun j=>s.length-j) 0 ⟨Nat.zero_le _,rfl⟩ ?_ ?_
  ·unfold PrA.cells; (refine xI.same ?_; simp [xP,Fr.get])
  intro j ⟨hj,hi2⟩;refine xN mixed ?_;by_cases hjl:j<s.length
  case neg=>
   have hd2:¬ ((j:Int)<(s.length:Int)):=by omega
   have h0:wF (asE p) s=0:=by rw [hi2,List.drop_eq_nil_of_le (by omega)]; rfl
   rw [h0,if_neg (by simp)] at hi;unfold PrA.cells;simp only [simprocAttr,-ZA,↓zU,↓zD,zV,zT,zW,hd2,hd,yU,hg,wP]
   (repeat refine sd ?_)
   refine⟨k+1,⟨by omega,hi⟩,?_,by omega⟩
   (refine xI.same ?_; simp only [xP,Fr.get,↓reduceIte,reduceIte,Nat.reduceEqDiff,reduceCtorEq,D.int.injEq,D.bool.injEq,D.sl.injEq,and_true,true_and,and_self])
   exact wrap_i64 (by omega)
  have hd2:((j:Int)<(s.length:Int)):=by omega
  rw [uA (d:=as0) _ hjl] at hi2;have hg2:=nM s hjl;unfold AsA.row at hg2;generalize s.getD j as0=a at hi2 hg2;have hend:asE p a≠0->tJ p=asE p a:=fun h=>by rw [hch,hi,hi2,if_pos h,if_pos h,if_pos h]
  unfold PrA.cells;have hFa:=hF a.to 0
  by_cases c1:a.fact<0
  ·have e:asE p a=2:=by unfold asE; rw [if_pos (.inl c1)]
   rw [hend (by rw [e]; decide),e];simp only [simprocAttr,-ZA,↓zU,↓zD,zV,zT,zW,hd2,hd,yU,hg,wP,hg2,c1]
   (repeat refine sd ?_)
   exact .drop (by simp) (by simp [vw])
  by_cases c2:p.F<=a.fact
  ·have e:asE p a=2:=by unfold asE; rw [if_pos (.inr c2)]
   rw [hend (by rw [e]; decide),e];simp only [simprocAttr,-ZA,↓zU,↓zD,zV,zT,zW,hd2,hd,yU,hg,wP,hg2,c1,c2]
   (repeat refine sd ?_)
   exact .drop (by simp) (by simp [vw])
  have e:asE p a=fmE p a.to 0:=by unfold asE; rw [if_neg (by omega)]
  rw [<- e] at hFa;simp only [simprocAttr,-ZA,↓zU,↓zD,zV,zT,zW,hd2,hd,yU,hg,wP,hg2,c1,c2]
  (repeat refine sd ?_)
  refine .go (cr hFa) ?_
  by_cases c3:asE p a=0
  ·have c3':(asE p a != 0)= false:=by simpa using c3
   rw [c3,if_neg (by simp)] at hi2;simp only [simprocAttr,-ZA,↓zU,↓zD,zV,zT,zW,c3'];refine⟨j+1,⟨by omega,hi2⟩,?_,by omega⟩
   (refine xI.ren [] [0] (by simp) (by simp) (by decide) ?_; simp only [yJ,vwL,vw,vwF,sw,St.get,St.look,Fr.get,↓reduceIte,reduceIte,Nat.reduceEqDiff,Nat.reduceAdd,Nat.reduceBEq,Nat.reduceLT,Nat.reduceLeDiff,exists_eq_left',ne_eq,reduceCtorEq,zR])
   exact wrap_i64 (by omega)
  ·have c3':(asE p a != 0)= true:=by simpa using c3
   rw [hend c3];simp only [simprocAttr,-ZA,↓zU,↓zD,zV,zT,zW,c3'];exact .drop (by simp) (by simp [vw])
 have hd:¬ ((k:Int)<(p.xM.length:Int)):=by omega
 have d1:wF (wF (asE p)) p.xM=0:=by rw [hi,List.drop_eq_nil_of_le (by omega)]; rfl
 rw [hch,d1,if_neg (by simp)];unfold PrA.cells;simp only [simprocAttr,-ZA,↓zU,↓zD,zV,zT,zW,hd,yU];clear hk hkl hd hi
 refine xW (fun k:Nat=>[(7,.int .i64 k),(1,.ref 0 5 0 0)]) (fun _=>⟨1,[(0,⟨5,[p.cells]⟩)]⟩)
  (fun k=>k<=p.code.length/\wF (wF (clE p)) p.code=wF (wF (clE p)) (p.code.drop k)) (fun k=>p.code.length-k) 0 ⟨Nat.zero_le _,rfl⟩ ?_ ?_
 ·unfold PrA.cells; (refine xI.same ?_; simp [xP,Fr.get])
 have hcl:=sm.code;intro k ⟨hk,hi⟩;refine xN mixed ?_;by_cases hkl:k<p.code.length
 case neg=>
  have hd:¬ ((k:Int)<(p.code.length:Int)):=by omega
  rw [hi,List.drop_eq_nil_of_le (by omega)];unfold PrA.cells;simp only [simprocAttr,-ZA,↓zU,↓zD,zV,zT,zW,hd,yD];exact .drop (by simp) (by simp [vw,wF])
 have hd:((k:Int)<(p.code.length:Int)):=by omega
 rw [uA (d:=[]) _ hkl] at hi;have hg:=kH p.code hkl;have hs:=hsm.2 _ (xK (d:=[]) hkl);generalize p.code.getD k []=s at hi hg hs;unfold PrA.cells;simp only [simprocAttr,-ZA,↓zU,↓zD,zV,zT,zW,hd,yD]
 refine xW (fun j:Nat=>[(8,.int .i64 j),(7,.int .i64 k),(1,.ref 0 5 0 0)]) (fun _=>⟨1,[(0,⟨5,[p.cells]⟩)]⟩)
  (fun j=>j<=s.length/\wF (clE p) s=wF (clE p) (s.drop j)) (fun j=>s.length-j) 0 ⟨Nat.zero_le _,rfl⟩ ?_ ?_
 ·unfold PrA.cells; (refine xI.same ?_; simp [xP,Fr.get])
 intro j ⟨hj,hi2⟩;refine xN mixed ?_;by_cases hjl:j<s.length
 case neg=>
  have hd2:¬ ((j:Int)<(s.length:Int)):=by omega
  have h0:wF (clE p) s=0:=by rw [hi2,List.drop_eq_nil_of_le (by omega)]; rfl
  rw [h0,if_neg (by simp)] at hi;unfold PrA.cells;simp only [simprocAttr,-ZA,↓zU,↓zD,zV,zT,zW,hd2,hd,yD,hg,wD]
  (repeat refine sd ?_)
  refine⟨k+1,⟨by omega,hi⟩,?_,by omega⟩
  (refine xI.same ?_; simp only [xP,Fr.get,↓reduceIte,reduceIte,Nat.reduceEqDiff,reduceCtorEq,D.int.injEq,D.bool.injEq,D.sl.injEq,and_true,true_and,and_self])
  exact wrap_i64 (by omega)
 have hd2:((j:Int)<(s.length:Int)):=by omega
 rw [uA (d:=cl0) _ hjl] at hi2;have hg2:=bM s hjl;unfold ClA.row at hg2;generalize s.getD j cl0=c at hi2 hg2;have hend:clE p c≠0->wF (wF (clE p)) p.code=clE p c:=fun h=>by rw [hi,hi2,if_pos h,if_pos h]
 unfold PrA.cells;simp only [simprocAttr,-ZA,↓zU,↓zD,zV,zT,zW,hd2,hd,yD,hg,wD,hg2]
 (repeat refine sd ?_)
 refine .go (cr (hF c.test 15)) ?_;by_cases e1:fmE p c.test 15=0
 case neg=>
  have e1':(fmE p c.test 15 != 0)= true:=by simpa using e1
  have e:clE p c=fmE p c.test 15:=by unfold clE; rw [if_pos e1]
  rw [hend (by rw [e]; exact e1),e];simp only [simprocAttr,-ZA,↓zU,↓zD,zV,zT,zW,e1'];exact .drop (by simp) (by simp [vw])
 have e1':(fmE p c.test 15 != 0)= false:=by simpa using e1
 by_cases e2:c.mv < -1
 ·have e:clE p c=2:=by unfold clE; rw [e1,if_neg (by simp),if_pos (.inl e2)]
  rw [hend (by rw [e]; decide),e];simp only [simprocAttr,-ZA,↓zU,↓zD,zV,zT,zW,e1',hd,yD,hg,hd2,wD,hg2,e2]
  (repeat refine sd ?_)
  exact .drop (by simp) (by simp [vw])
 by_cases e3:(p.xM.length:Int)<=c.mv
 ·have e:clE p c=2:=by unfold clE; rw [e1,if_neg (by simp),if_pos (.inr e3)]
  rw [hend (by rw [e]; decide),e];simp only [simprocAttr,-ZA,↓zU,↓zD,zV,zT,zW,e1',hd,yD,hg,hd2,wD,hg2,e2,yU,e3]
  (repeat refine sd ?_)
  exact .drop (by simp) (by simp [vw])
 have e:clE p c=0:=by unfold clE; rw [e1,if_neg (by simp),if_neg (by omega)]
 rw [e,if_neg (by simp)] at hi2;simp only [simprocAttr,-ZA,↓zU,↓zD,zV,zT,zW,e1',hd,yD,hg,hd2,wD,hg2,e2,yU,e3]
 (repeat refine sd ?_)
 refine⟨j+1,⟨by omega,hi2⟩,?_,by omega⟩
 (refine xI.same ?_; simp only [xP,Fr.get,↓reduceIte,reduceIte,Nat.reduceEqDiff,reduceCtorEq,D.int.injEq,D.bool.injEq,D.sl.injEq,and_true,true_and,and_self])
 exact wrap_i64 (by omega)
end Go.Pd
