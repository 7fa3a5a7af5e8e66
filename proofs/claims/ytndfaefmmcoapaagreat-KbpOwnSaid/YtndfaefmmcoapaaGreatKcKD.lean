/- Part KD. -/
import Derived.Test.YtndfaefmmcoapaaGreatKcP7
set_option linter.unusedSectionVars false
set_option linter.unusedVariables false
set_option linter.unusedSimpArgs false
set_option linter.defProp false
set_option maxRecDepth 20000
set_option maxHeartbeats 1000000
namespace Go.Pd
open Go Go.Proofs
open Int renaming reduceToNat -> ZA, reduceLT -> ZB, reduceLE -> ZC, reduceBEq -> ZD, reduceBNe -> ZE
open Nat renaming reduceEqDiff -> ZF, reduceAdd -> ZG, reduceBEq -> ZH, reduceLT -> ZI, reduceLeDiff -> ZJ, reduceMul -> ZK
open Rs Fm Ru Kb
theorem aCs (p:PrA) (sm:rR p):yX Tryz.prog 66 [p.d] (.int .i64 (yG p)):=by
 have hD:p.d = .agg [.int .i64 p.F,.sl 1 (us p.init),.sl 1 (us p.see),.sl 1 (mvR p.moves),.sl 1 (cdR p.code)]:=rfl;have h5:=sm.code;rw [hD];refine xX.go_fn mixed Tryz.func66 k66 (by simp) fun hf=>?_
 by_cases a1:p.F<0
 ·rw [show yG p=2 by unfold yG; simp [a1]];simp only [ZA,ZB,ZC,ZD,ZE,↓reduceIte,ZF,ZG,ZH,ZI,ZJ,reduceCtorEq,ZK,↓zU,↓zD,zV,zT,zW,a1];exact .drop (by simp) (by simp [vw])
 by_cases a2:8<p.F
 ·rw [show yG p=2 by unfold yG; simp [a2]];simp only [ZA,ZB,ZC,ZD,ZE,↓reduceIte,ZF,ZG,ZH,ZI,ZJ,reduceCtorEq,ZK,↓zU,↓zD,zV,zT,zW,a1,a2];exact .drop (by simp) (by simp [vw])
 have hfe:yG p=if 4<p.see.length\/16<p.init.length\/8<p.moves.length\/p.code.any (fun l=>decide (6<l.length))= true then 8 else
   if p.see.length=0\/p.init.length=0\/p.code.length≠p.see.length\/p.init.any (oM p)= true\/p.see.any (oM p)= true then 3 else
   if aMe p.init=false\/p.moves.any (fun s=>!aY0 s)= true then 9 else 0:=by
  unfold yG; rw [if_neg (by omega)]
 by_cases a3:4<p.see.length
 ·rw [show yG p=8 by simp [hfe,a3]];have a3':(4:Int)<(p.see.length:Int):=by omega
  simp only [ZA,ZB,ZC,ZD,ZE,↓reduceIte,ZF,ZG,ZH,ZI,ZJ,reduceCtorEq,ZK,↓zU,↓zD,zV,zT,zW,a1,a2,a3',xT];exact .drop (by simp) (by simp [vw])
 have a3':¬ (4:Int)<(p.see.length:Int):=by omega
 by_cases a4:16<p.init.length
 ·rw [show yG p=8 by simp [hfe,a4]];have a4':(16:Int)<(p.init.length:Int):=by omega
  simp only [ZA,ZB,ZC,ZD,ZE,↓reduceIte,ZF,ZG,ZH,ZI,ZJ,reduceCtorEq,ZK,↓zU,↓zD,zV,zT,zW,a1,a2,a3',a4',xT];exact .drop (by simp) (by simp [vw])
 have a4':¬ (16:Int)<(p.init.length:Int):=by omega
 by_cases a5:8<p.moves.length
 ·rw [show yG p=8 by simp [hfe,a5]];have a5':(8:Int)<(p.moves.length:Int):=by omega
  simp only [ZA,ZB,ZC,ZD,ZE,↓reduceIte,ZF,ZG,ZH,ZI,ZJ,reduceCtorEq,ZK,↓zU,↓zD,zV,zT,zW,a1,a2,a3',a4',a5',xT,xA];exact .drop (by simp) (by simp [vw])
 have a5':¬ (8:Int)<(p.moves.length:Int):=by omega
 simp only [ZA,ZB,ZC,ZD,ZE,↓reduceIte,ZF,ZG,ZH,ZI,ZJ,reduceCtorEq,ZK,↓zU,↓zD,zV,zT,zW,a1,a2,a3',a4',a5',xT,xA]
 refine xV (fun k:Nat=>[(3,.int .i64 k),(1,.ref 0 5 0 0)]) (fun _=>⟨1,[(0,⟨5,[p.cells]⟩)]⟩)
  (fun k=>k<=p.code.length/\p.code.any (fun l=>decide (6<l.length))= (p.code.drop k).any (fun l=>decide (6<l.length))) (fun k=>p.code.length-k) 0 ⟨Nat.zero_le _,rfl⟩ ?_ ?_
 ·unfold PrA.cells; (refine xM.same ?_; simp [xR,Fr.get])
 intro k ⟨hk,hi⟩;refine xQ mixed ?_;by_cases hkl:k<p.code.length
 case pos=>
  have hd:((k:Int)<(p.code.length:Int)):=by omega
  rw [drop_cons (d:=[]) hkl,List.any_cons] at hi;have hg:=mC p.code hkl;generalize p.code.getD k []=s at hi hg;unfold PrA.cells
  by_cases h6:6<s.length
  ·have h6':(6:Int)<(s.length:Int):=by omega
   rw [decide_eq_true h6,Bool.true_or] at hi;rw [show yG p=8 by simp only [hfe,hi]; simp];simp only [ZA,ZB,ZC,ZD,ZE,↓reduceIte,ZF,ZG,ZH,ZI,ZJ,reduceCtorEq,ZK,↓zU,↓zD,zV,zT,zW,hd,yN,hg,wQ,h6']
   (repeat refine sd ?_)
   exact .drop (by simp) (by simp [vw])
  ·have h6':¬ (6:Int)<(s.length:Int):=by omega
   rw [decide_eq_false h6,Bool.false_or] at hi;simp only [ZA,ZB,ZC,ZD,ZE,↓reduceIte,ZF,ZG,ZH,ZI,ZJ,reduceCtorEq,ZK,↓zU,↓zD,zV,zT,zW,hd,yN,hg,wQ,h6']
   (repeat refine sd ?_)
   refine⟨k+1,⟨by omega,hi⟩,?_,by omega⟩
   (refine xM.same ?_; simp only [xR,Fr.get,↓reduceIte,reduceIte,Nat.reduceEqDiff,reduceCtorEq,D.int.injEq,D.bool.injEq,D.sl.injEq,and_true,true_and,and_self])
   exact wrap_i64 (by omega)
 have hd:¬ ((k:Int)<(p.code.length:Int)):=by omega
 have a6:p.code.any (fun l=>decide (6<l.length))= false:=by rw [hi,List.drop_eq_nil_of_le (by omega)]; rfl
 clear hi;unfold PrA.cells;simp only [ZA,ZB,ZC,ZD,ZE,↓reduceIte,ZF,ZG,ZH,ZI,ZJ,reduceCtorEq,ZK,↓zU,↓zD,zV,zT,zW,hd,yN]
 have hf1:yG p=if p.see.length=0\/p.init.length=0\/p.code.length≠p.see.length\/p.init.any (oM p)= true\/p.see.any (oM p)= true then 3 else
   if aMe p.init=false\/p.moves.any (fun s=>!aY0 s)= true then 9 else 0:=by rw [hfe,if_neg (by rw [a6]; simp only [not_or]; exact⟨by omega,by omega,by omega,by simp⟩)]
 by_cases b1:p.see.length=0
 ·rw [show yG p=3 by rw [hf1,if_pos (.inl b1)]];have b1':((p.see.length:Int)== 0)= true:=by rw [b1]; rfl
  simp only [ZA,ZB,ZC,ZD,ZE,↓reduceIte,ZF,ZG,ZH,ZI,ZJ,reduceCtorEq,ZK,↓zU,↓zD,zV,zT,zW,xT,b1'];exact .drop (by simp) (by simp [vw])
 have b1':((p.see.length:Int)== 0)= false:=by rw [beq_eq_false_iff_ne]; omega
 by_cases b2:p.init.length=0
 ·rw [show yG p=3 by rw [hf1,if_pos (.inr (.inl b2))]];have b2':((p.init.length:Int)== 0)= true:=by rw [b2]; rfl
  simp only [ZA,ZB,ZC,ZD,ZE,↓reduceIte,ZF,ZG,ZH,ZI,ZJ,reduceCtorEq,ZK,↓zU,↓zD,zV,zT,zW,xT,b1',b2'];exact .drop (by simp) (by simp [vw])
 have b2':((p.init.length:Int)== 0)= false:=by rw [beq_eq_false_iff_ne]; omega
 by_cases b3:p.code.length=p.see.length
 case neg=>
  rw [show yG p=3 by rw [hf1,if_pos (.inr (.inr (.inl b3)))]];have b3':((p.code.length:Int) != (p.see.length:Int))= true:=by rw [bne_iff_ne]; omega
  simp only [ZA,ZB,ZC,ZD,ZE,↓reduceIte,ZF,ZG,ZH,ZI,ZJ,reduceCtorEq,ZK,↓zU,↓zD,zV,zT,zW,xT,b1',b2',yN,b3'];exact .drop (by simp) (by simp [vw])
 have b3':((p.code.length:Int) != (p.see.length:Int))= false:=by rw [b3]; exact bne_self_eq_false _
 simp only [ZA,ZB,ZC,ZD,ZE,↓reduceIte,ZF,ZG,ZH,ZI,ZJ,reduceCtorEq,ZK,↓zU,↓zD,zV,zT,zW,xT,b1',b2',yN,b3'];clear hk hkl hd
 refine xV (fun k:Nat=>[(4,.int .i64 k),(1,.ref 0 5 0 0)]) (fun _=>⟨1,[(0,⟨5,[p.cells]⟩)]⟩)
  (fun k=>k<=p.init.length/\p.init.any (oM p)= (p.init.drop k).any (oM p)) (fun k=>p.init.length-k) 0 ⟨Nat.zero_le _,rfl⟩ ?_ ?_
 ·unfold PrA.cells; (refine xM.same ?_; simp [xR,Fr.get])
 intro k ⟨hk,hi⟩;refine xQ mixed ?_;by_cases hkl:k<p.init.length
 case pos=>
  have hd:((k:Int)<(p.init.length:Int)):=by omega
  rw [drop_cons (d:=0) hkl,List.any_cons] at hi;have hg:=zH p.init hkl;generalize p.init.getD k 0=x at hi hg;unfold PrA.cells
  by_cases hx:x >>> p.F.toNat=0#64
  ·have ex:(x >>> p.F.toNat != 0#64)= false:=by simpa using hx
   rw [show oM p x=false by unfold oM; rw [decide_eq_true hx]; rfl,Bool.false_or] at hi;simp only [ZA,ZB,ZC,ZD,ZE,↓reduceIte,ZF,ZG,ZH,ZI,ZJ,reduceCtorEq,ZK,↓zU,↓zD,zV,zT,zW,hd,xT,hg,ex]
   (repeat refine sd ?_)
   refine⟨k+1,⟨by omega,hi⟩,?_,by omega⟩
   (refine xM.same ?_; simp only [xR,Fr.get,↓reduceIte,reduceIte,Nat.reduceEqDiff,reduceCtorEq,D.int.injEq,D.bool.injEq,D.sl.injEq,and_true,true_and,and_self])
   exact wrap_i64 (by omega)
  ·have ex:(x >>> p.F.toNat != 0#64)= true:=by simpa using hx
   rw [show oM p x=true by unfold oM; rw [decide_eq_false hx]; rfl,Bool.true_or] at hi;rw [show yG p=3 by rw [hf1,if_pos (.inr (.inr (.inr (.inl hi))))]];simp only [ZA,ZB,ZC,ZD,ZE,↓reduceIte,ZF,ZG,ZH,ZI,ZJ,reduceCtorEq,ZK,↓zU,↓zD,zV,zT,zW,hd,xT,hg,ex]
   (repeat refine sd ?_)
   exact .drop (by simp) (by simp [vw])
 have hd:¬ ((k:Int)<(p.init.length:Int)):=by omega
 have b4:p.init.any (oM p)= false:=by rw [hi,List.drop_eq_nil_of_le (by omega)]; rfl
 clear hi;unfold PrA.cells;simp only [ZA,ZB,ZC,ZD,ZE,↓reduceIte,ZF,ZG,ZH,ZI,ZJ,reduceCtorEq,ZK,↓zU,↓zD,zV,zT,zW,hd,xT];clear hk hkl hd
 refine xV (fun k:Nat=>[(5,.int .i64 k),(1,.ref 0 5 0 0)]) (fun _=>⟨1,[(0,⟨5,[p.cells]⟩)]⟩)
  (fun k=>k<=p.see.length/\p.see.any (oM p)= (p.see.drop k).any (oM p)) (fun k=>p.see.length-k) 0 ⟨Nat.zero_le _,rfl⟩ ?_ ?_
 ·unfold PrA.cells; (refine xM.same ?_; simp [xR,Fr.get])
 intro k ⟨hk,hi⟩;refine xQ mixed ?_;by_cases hkl:k<p.see.length
 case pos=>
  have hd:((k:Int)<(p.see.length:Int)):=by omega
  rw [drop_cons (d:=0) hkl,List.any_cons] at hi;have hg:=zH p.see hkl;generalize p.see.getD k 0=x at hi hg;unfold PrA.cells
  by_cases hx:x >>> p.F.toNat=0#64
  ·have ex:(x >>> p.F.toNat != 0#64)= false:=by simpa using hx
   rw [show oM p x=false by unfold oM; rw [decide_eq_true hx]; rfl,Bool.false_or] at hi;simp only [ZA,ZB,ZC,ZD,ZE,↓reduceIte,ZF,ZG,ZH,ZI,ZJ,reduceCtorEq,ZK,↓zU,↓zD,zV,zT,zW,hd,xT,hg,ex]
   (repeat refine sd ?_)
   refine⟨k+1,⟨by omega,hi⟩,?_,by omega⟩
   (refine xM.same ?_; simp only [xR,Fr.get,↓reduceIte,reduceIte,Nat.reduceEqDiff,reduceCtorEq,D.int.injEq,D.bool.injEq,D.sl.injEq,and_true,true_and,and_self])
   exact wrap_i64 (by omega)
  ·have ex:(x >>> p.F.toNat != 0#64)= true:=by simpa using hx
   rw [show oM p x=true by unfold oM; rw [decide_eq_false hx]; rfl,Bool.true_or] at hi;rw [show yG p=3 by rw [hf1,if_pos (.inr (.inr (.inr (.inr hi))))]];simp only [ZA,ZB,ZC,ZD,ZE,↓reduceIte,ZF,ZG,ZH,ZI,ZJ,reduceCtorEq,ZK,↓zU,↓zD,zV,zT,zW,hd,xT,hg,ex]
   (repeat refine sd ?_)
   exact .drop (by simp) (by simp [vw])
 have hd:¬ ((k:Int)<(p.see.length:Int)):=by omega
 have b5:p.see.any (oM p)= false:=by rw [hi,List.drop_eq_nil_of_le (by omega)]; rfl
 clear hi;unfold PrA.cells;simp only [ZA,ZB,ZC,ZD,ZE,↓reduceIte,ZF,ZG,ZH,ZI,ZJ,reduceCtorEq,ZK,↓zU,↓zD,zV,zT,zW,hd,xT];clear hk hkl hd;have hf2:yG p=if aMe p.init=false\/p.moves.any (fun s=>!aY0 s)= true then 9 else 0:=by rw [hf1,if_neg (by simp [b1,b2,b3,b4,b5])]
 have hlm:(p.init.map ui).length=p.init.length:=by simp
 have hgm:∀ i,(p.init.map ui).getD i 0=ui (p.init.getD i 0):=fun i=>by
  simp only [List.getD,List.getElem?_map];cases p.init[i]? <;> rfl
 refine xV (fun k:Nat=>[(6,.int .i64 ((k+1:Nat):Int)),(1,.ref 0 5 0 0)]) (fun _=>⟨1,[(0,⟨5,[p.cells]⟩)]⟩)
  (fun k=>k<=p.init.length/\∀ i,i<k->i+1<p.init.length->(p.init.map ui).getD i 0<(p.init.map ui).getD (i+1) 0) (fun k=>p.init.length-k) 0 ⟨Nat.zero_le _,fun i hi=>absurd hi (Nat.not_lt_zero _)⟩ ?_ ?_
 ·unfold PrA.cells; (refine xM.same ?_; simp [xR,Fr.get])
 intro k ⟨hk,hi⟩;refine xQ mixed ?_;by_cases hh:k+1<p.init.length
 case pos=>
  have hd:(((k+1:Nat):Int)<(p.init.length:Int)):=by omega
  have hw:IntKind.i64.wrap (((k+1:Nat):Int)-1)= (k:Int):=by rw [wrap_i64 (by omega)]; omega
  have hd2:((k:Int)<(p.init.length:Int)):=by omega
  have g1:=zH p.init (show k<p.init.length by omega);have g2:=zH p.init hh;have q1:=hgm k;have q2:=hgm (k+1);unfold PrA.cells
  by_cases hlt:ui (p.init.getD k 0)<ui (p.init.getD (k+1) 0)
  ·have hlt2:¬ ui (p.init.getD (k+1) 0)<=ui (p.init.getD k 0):=by omega
   simp only [ZA,ZB,ZC,ZD,ZE,↓reduceIte,ZF,ZG,ZH,ZI,ZJ,reduceCtorEq,ZK,↓zU,↓zD,zV,zT,zW,hd,xT,hw,hd2,g1,g2,hlt2]
   (repeat refine sd ?_)
   refine⟨k+1,⟨by omega,fun i h1 h2=>?_⟩,?_,by omega⟩
   ·by_cases e:i=k
    ·rw [e,q1,q2]; exact hlt
    ·exact hi i (by omega) h2
   (refine xM.same ?_; simp only [xR,Fr.get,↓reduceIte,reduceIte,Nat.reduceEqDiff,reduceCtorEq,D.int.injEq,D.bool.injEq,D.sl.injEq,and_true,true_and,and_self])
   exact wrap_i64 (by omega)
  ·have hlt2:ui (p.init.getD (k+1) 0)<=ui (p.init.getD k 0):=by omega
   rw [show yG p=9 by rw [hf2,if_pos (.inl (nS (i:=k) (by omega) (by rw [q1,q2]; exact hlt)))]];simp only [ZA,ZB,ZC,ZD,ZE,↓reduceIte,ZF,ZG,ZH,ZI,ZJ,reduceCtorEq,ZK,↓zU,↓zD,zV,zT,zW,hd,xT,hw,hd2,g1,g2,hlt2]
   (repeat refine sd ?_)
   exact .drop (by simp) (by simp [vw])
 have hd:¬ (((k+1:Nat):Int)<(p.init.length:Int)):=by omega
 have c1:aMe p.init=true:=nR fun i h=>hi i (by omega) (by omega);clear hi;unfold PrA.cells;simp only [ZA,ZB,ZC,ZD,ZE,↓reduceIte,ZF,ZG,ZH,ZI,ZJ,reduceCtorEq,ZK,↓zU,↓zD,zV,zT,zW,hd,xT];clear hk hh hd
 refine xV (fun k:Nat=>[(7,.int .i64 k),(1,.ref 0 5 0 0)]) (fun _=>⟨1,[(0,⟨5,[p.cells]⟩)]⟩)
  (fun k=>k<=p.moves.length/\p.moves.any (fun s=>!aY0 s)= (p.moves.drop k).any (fun s=>!aY0 s)) (fun k=>p.moves.length-k) 0 ⟨Nat.zero_le _,rfl⟩ ?_ ?_
 ·unfold PrA.cells; (refine xM.same ?_; simp [xR,Fr.get])
 intro k ⟨hk,hi⟩;refine xQ mixed ?_;by_cases hkl:k<p.moves.length
 case neg=>
  have hd:¬ ((k:Int)<(p.moves.length:Int)):=by omega
  have c2:p.moves.any (fun s=>!aY0 s)= false:=by rw [hi,List.drop_eq_nil_of_le (by omega)]; rfl
  rw [show yG p=0 by rw [hf2,if_neg (by simp [c1,c2])]];unfold PrA.cells;simp only [ZA,ZB,ZC,ZD,ZE,↓reduceIte,ZF,ZG,ZH,ZI,ZJ,reduceCtorEq,ZK,↓zU,↓zD,zV,zT,zW,hd,xA];exact .drop (by simp) (by simp [vw])
 have hd:((k:Int)<(p.moves.length:Int)):=by omega
 rw [drop_cons (d:=[]) hkl,List.any_cons] at hi;have hg:=mF p.moves hkl;have hs:=sm.mv _ (xN (d:=[]) hkl);generalize p.moves.getD k []=s at hi hg hs;have hls:(s.map (·.fact)).length=s.length:=by simp
 have hgs:∀ i,i<s.length->(s.map (·.fact)).getD i 0=(s.getD i as0).fact:=fun i h=>by simp [List.getD,h]
 unfold PrA.cells;simp only [ZA,ZB,ZC,ZD,ZE,↓reduceIte,ZF,ZG,ZH,ZI,ZJ,reduceCtorEq,ZK,↓zU,↓zD,zV,zT,zW,hd,xA]
 refine xV (fun j:Nat=>[(8,.int .i64 ((j+1:Nat):Int)),(7,.int .i64 k),(1,.ref 0 5 0 0)]) (fun _=>⟨1,[(0,⟨5,[p.cells]⟩)]⟩)
  (fun j=>j<=s.length/\∀ i,i<j->i+1<s.length->(s.map (·.fact)).getD i 0<(s.map (·.fact)).getD (i+1) 0) (fun j=>s.length-j) 0 ⟨Nat.zero_le _,fun i hi=>absurd hi (Nat.not_lt_zero _)⟩ ?_ ?_
 ·unfold PrA.cells; (refine xM.same ?_; simp [xR,Fr.get])
 intro j ⟨hj,hi2⟩;refine xQ mixed ?_;by_cases hh:j+1<s.length
 case neg=>
  have hd2:¬ (((j+1:Nat):Int)<(s.length:Int)):=by omega
  have c2:aY0 s=true:=nR fun i h=>hi2 i (by omega) (by omega);rw [c2,Bool.not_true,Bool.false_or] at hi;unfold PrA.cells;simp only [ZA,ZB,ZC,ZD,ZE,↓reduceIte,ZF,ZG,ZH,ZI,ZJ,reduceCtorEq,ZK,↓zU,↓zD,zV,zT,zW,hd2,hd,xA,hg,zE]
  (repeat refine sd ?_)
  refine⟨k+1,⟨by omega,hi⟩,?_,by omega⟩
  (refine xM.same ?_; simp only [xR,Fr.get,↓reduceIte,reduceIte,Nat.reduceEqDiff,reduceCtorEq,D.int.injEq,D.bool.injEq,D.sl.injEq,and_true,true_and,and_self])
  exact wrap_i64 (by omega)
 have hd2:(((j+1:Nat):Int)<(s.length:Int)):=by omega
 have hw:IntKind.i64.wrap (((j+1:Nat):Int)-1)= (j:Int):=by rw [wrap_i64 (by omega)]; omega
 have hd3:((j:Int)<(s.length:Int)):=by omega
 have g1:=oY s (show j<s.length by omega);have g2:=oY s hh;have q1:=hgs j (by omega);have q2:=hgs (j+1) hh;unfold AsA.row at g1 g2;unfold PrA.cells
 by_cases hlt:(s.getD j as0).fact<(s.getD (j+1) as0).fact
 ·have hlt2:¬ (s.getD (j+1) as0).fact<=(s.getD j as0).fact:=by omega
  simp only [ZA,ZB,ZC,ZD,ZE,↓reduceIte,ZF,ZG,ZH,ZI,ZJ,reduceCtorEq,ZK,↓zU,↓zD,zV,zT,zW,hd2,hd,xA,hg,zE,hw,hd3,g1,g2,hlt2]
  (repeat refine sd ?_)
  refine⟨j+1,⟨by omega,fun i h1 h2=>?_⟩,?_,by omega⟩
  ·by_cases e:i=j
   ·rw [e,q1,q2]; exact hlt
   ·exact hi2 i (by omega) h2
  (refine xM.same ?_; simp only [xR,Fr.get,↓reduceIte,reduceIte,Nat.reduceEqDiff,reduceCtorEq,D.int.injEq,D.bool.injEq,D.sl.injEq,and_true,true_and,and_self])
  exact wrap_i64 (by omega)
 ·have hlt2:(s.getD (j+1) as0).fact<=(s.getD j as0).fact:=by omega
  have c2:aY0 s=false:=nS (i:=j) (by omega) (by rw [q1,q2]; exact hlt);rw [show yG p=9 by rw [hf2,if_pos (.inr (by rw [hi,c2]; rfl))]];simp only [ZA,ZB,ZC,ZD,ZE,↓reduceIte,ZF,ZG,ZH,ZI,ZJ,reduceCtorEq,ZK,↓zU,↓zD,zV,zT,zW,hd2,hd,xA,hg,zE,hw,hd3,g1,g2,hlt2]
  (repeat refine sd ?_)
  exact .drop (by simp) (by simp [vw])
theorem aYl (p:PrA) (f:List Nd) (fr:Int):yX Tryz.prog 67 [p.d,.sl 6 (ndR f),.int .i64 fr] (.int .i64 (fmE p f fr)):=by
 have h1:=aZz f;have h2:=aSa f;have h3:=aOk f p.see.length p.F;unfold PrA.d PrA.cells fmE;refine xX.go_fn mixed Tryz.func67 k67 (by simp) fun hf=>?_;simp only [ZA,ZB,ZC,ZD,ZE,↓reduceIte,ZF,ZG,ZH,ZI,ZJ,reduceCtorEq,ZK,↓zU,↓zD,zV,zT,zW]
 (repeat refine sd ?_)
 refine .go (cr h1) ?_;by_cases e1:xH f=0
 case neg=>
  have e1':(xH f != 0)= true:=by simpa using e1
  simp only [ZA,ZB,ZC,ZD,ZE,↓reduceIte,ZF,ZG,ZH,ZI,ZJ,reduceCtorEq,ZK,↓zU,↓zD,zV,zT,zW,e1',e1];exact .drop (by simp) (by simp [vw])
 have e1':(xH f != 0)= false:=by simpa using e1
 simp only [ZA,ZB,ZC,ZD,ZE,↓reduceIte,ZF,ZG,ZH,ZI,ZJ,reduceCtorEq,ZK,↓zU,↓zD,zV,zT,zW,e1',e1];refine .go (cr h2) ?_;cases e2:rM .andNot .i64 (zS f) fr != 0
 case true=>
  simp only [ZA,ZB,ZC,ZD,ZE,↓reduceIte,ZF,ZG,ZH,ZI,ZJ,reduceCtorEq,ZK,↓zU,↓zD,zV,zT,zW,e2];exact .drop (by simp) (by simp [vw])
 simp only [ZA,ZB,ZC,ZD,ZE,↓reduceIte,ZF,ZG,ZH,ZI,ZJ,reduceCtorEq,ZK,↓zU,↓zD,zV,zT,zW,e2]
 (repeat refine sd ?_)
 refine .go (cr h3) ?_
 cases e3:sT f p.see.length p.F
 ·simp only [ZA,ZB,ZC,ZD,ZE,↓reduceIte,ZF,ZG,ZH,ZI,ZJ,reduceCtorEq,ZK,↓zU,↓zD,zV,zT,zW];exact .drop (by simp) (by simp [vw])
 ·simp only [ZA,ZB,ZC,ZD,ZE,↓reduceIte,ZF,ZG,ZH,ZI,ZJ,reduceCtorEq,ZK,↓zU,↓zD,zV,zT,zW];exact .drop (by simp) (by simp [vw])
theorem aSd (p:PrA) (sm:rR p):yX Tryz.prog 18 [p.d] (.int .i64 (uD p)):=by
 have hS:=aCs p sm;have hF:=fun f fr=>aYl p f fr;have hD:p.d = .agg [.int .i64 p.F,.sl 1 (us p.init),.sl 1 (us p.see),.sl 1 (mvR p.moves),.sl 1 (cdR p.code)]:=rfl;rw [hD] at *;refine xX.go_fn mixed Tryz.func18 k18 (by simp) fun hf=>?_;simp only [ZA,ZB,ZC,ZD,ZE,↓reduceIte,ZF,ZG,ZH,ZI,ZJ,reduceCtorEq,ZK,↓zU,↓zD,zV,zT,zW]
 (repeat refine sd ?_)
 refine .go (cr hS) ?_;by_cases s0:yG p=0
 case neg=>
  have s0':(yG p != 0)= true:=by simpa using s0
  rw [show uD p=yG p by unfold uD; rw [if_pos s0]];simp only [ZA,ZB,ZC,ZD,ZE,↓reduceIte,ZF,ZG,ZH,ZI,ZJ,reduceCtorEq,ZK,↓zU,↓zD,zV,zT,zW,s0'];exact .drop (by simp) (by simp [vw])
 have s0':(yG p != 0)= false:=by simpa using s0
 have hch:uD p=if wS (wS (asE p)) p.moves≠0 then wS (wS (asE p)) p.moves else wS (wS (clE p)) p.code:=by unfold uD; rw [s0,if_neg (by simp)]
 have hsm:p.moves.length<=8/\∀ s ∈ p.code,s.length<=6:=by
  unfold yG at s0
  split at s0
  ·cases s0
  ·split at s0
   ·cases s0
   ·rename_i h;simp only [not_or] at h;refine⟨by omega,fun s hs=>?_⟩;have:=List.any_eq_false.1 (Bool.eq_false_iff.2 h.2.2.2) s hs;simpa using this
 simp only [ZA,ZB,ZC,ZD,ZE,↓reduceIte,ZF,ZG,ZH,ZI,ZJ,reduceCtorEq,ZK,↓zU,↓zD,zV,zT,zW,s0']
 refine xV (fun k:Nat=>[(4,.int .i64 k),(1,.ref 0 5 0 0)]) (fun _=>⟨1,[(0,⟨5,[p.cells]⟩)]⟩)
  (fun k=>k<=p.moves.length/\wS (wS (asE p)) p.moves=wS (wS (asE p)) (p.moves.drop k)) (fun k=>p.moves.length-k) 0 ⟨Nat.zero_le _,rfl⟩ ?_ ?_
 ·unfold PrA.cells; (refine xM.same ?_; simp [xR,Fr.get])
 intro k ⟨hk,hi⟩;refine xQ mixed ?_;by_cases hkl:k<p.moves.length
 case pos=>
  have hd:((k:Int)<(p.moves.length:Int)):=by omega
  rw [uT (d:=[]) _ hkl] at hi;have hg:=mF p.moves hkl;have hs:=sm.mv _ (xN (d:=[]) hkl);generalize p.moves.getD k []=s at hi hg hs;unfold PrA.cells;simp only [ZA,ZB,ZC,ZD,ZE,↓reduceIte,ZF,ZG,ZH,ZI,ZJ,reduceCtorEq,ZK,↓zU,↓zD,zV,zT,zW,hd,xA]
  refine xV (fun j:Nat=>[(5,.int .i64 j),(4,.int .i64 k),(1,.ref 0 5 0 0)]) (fun _=>⟨1,[(0,⟨5,[p.cells]⟩)]⟩)
   (fun j=>j<=s.length/\wS (asE p) s=wS (asE p) (s.drop j)) (fun j=>s.length-j) 0 ⟨Nat.zero_le _,rfl⟩ ?_ ?_
  ·unfold PrA.cells; (refine xM.same ?_; simp [xR,Fr.get])
  intro j ⟨hj,hi2⟩;refine xQ mixed ?_;by_cases hjl:j<s.length
  case neg=>
   have hd2:¬ ((j:Int)<(s.length:Int)):=by omega
   have h0:wS (asE p) s=0:=by rw [hi2,List.drop_eq_nil_of_le (by omega)]; rfl
   rw [h0,if_neg (by simp)] at hi;unfold PrA.cells;simp only [ZA,ZB,ZC,ZD,ZE,↓reduceIte,ZF,ZG,ZH,ZI,ZJ,reduceCtorEq,ZK,↓zU,↓zD,zV,zT,zW,hd2,hd,xA,hg,zE]
   (repeat refine sd ?_)
   refine⟨k+1,⟨by omega,hi⟩,?_,by omega⟩
   (refine xM.same ?_; simp only [xR,Fr.get,↓reduceIte,reduceIte,Nat.reduceEqDiff,reduceCtorEq,D.int.injEq,D.bool.injEq,D.sl.injEq,and_true,true_and,and_self])
   exact wrap_i64 (by omega)
  have hd2:((j:Int)<(s.length:Int)):=by omega
  rw [uT (d:=as0) _ hjl] at hi2;have hg2:=oY s hjl;unfold AsA.row at hg2;generalize s.getD j as0=a at hi2 hg2;have hend:asE p a≠0->uD p=asE p a:=fun h=>by rw [hch,hi,hi2,if_pos h,if_pos h,if_pos h]
  unfold PrA.cells;have hFa:=hF a.to 0
  by_cases c1:a.fact<0
  ·have e:asE p a=2:=by unfold asE; rw [if_pos (.inl c1)]
   rw [hend (by rw [e]; decide),e];simp only [ZA,ZB,ZC,ZD,ZE,↓reduceIte,ZF,ZG,ZH,ZI,ZJ,reduceCtorEq,ZK,↓zU,↓zD,zV,zT,zW,hd2,hd,xA,hg,zE,hg2,c1]
   (repeat refine sd ?_)
   exact .drop (by simp) (by simp [vw])
  by_cases c2:p.F<=a.fact
  ·have e:asE p a=2:=by unfold asE; rw [if_pos (.inr c2)]
   rw [hend (by rw [e]; decide),e];simp only [ZA,ZB,ZC,ZD,ZE,↓reduceIte,ZF,ZG,ZH,ZI,ZJ,reduceCtorEq,ZK,↓zU,↓zD,zV,zT,zW,hd2,hd,xA,hg,zE,hg2,c1,c2]
   (repeat refine sd ?_)
   exact .drop (by simp) (by simp [vw])
  have e:asE p a=fmE p a.to 0:=by unfold asE; rw [if_neg (by omega)]
  rw [<- e] at hFa;simp only [ZA,ZB,ZC,ZD,ZE,↓reduceIte,ZF,ZG,ZH,ZI,ZJ,reduceCtorEq,ZK,↓zU,↓zD,zV,zT,zW,hd2,hd,xA,hg,zE,hg2,c1,c2]
  (repeat refine sd ?_)
  refine .go (cr hFa) ?_
  by_cases c3:asE p a=0
  ·have c3':(asE p a != 0)= false:=by simpa using c3
   rw [c3,if_neg (by simp)] at hi2;simp only [ZA,ZB,ZC,ZD,ZE,↓reduceIte,ZF,ZG,ZH,ZI,ZJ,reduceCtorEq,ZK,↓zU,↓zD,zV,zT,zW,c3'];refine⟨j+1,⟨by omega,hi2⟩,?_,by omega⟩
   (refine xM.ren [] [0] (by simp) (by simp) (by decide) ?_; simp only [yO,vwL,vw,vwF,sw,St.get,St.look,Fr.get,↓reduceIte,reduceIte,Nat.reduceEqDiff,Nat.reduceAdd,Nat.reduceBEq,Nat.reduceLT,Nat.reduceLeDiff,exists_eq_left',ne_eq,reduceCtorEq,zR])
   exact wrap_i64 (by omega)
  ·have c3':(asE p a != 0)= true:=by simpa using c3
   rw [hend c3];simp only [ZA,ZB,ZC,ZD,ZE,↓reduceIte,ZF,ZG,ZH,ZI,ZJ,reduceCtorEq,ZK,↓zU,↓zD,zV,zT,zW,c3'];exact .drop (by simp) (by simp [vw])
 have hd:¬ ((k:Int)<(p.moves.length:Int)):=by omega
 have d1:wS (wS (asE p)) p.moves=0:=by rw [hi,List.drop_eq_nil_of_le (by omega)]; rfl
 rw [hch,d1,if_neg (by simp)];unfold PrA.cells;simp only [ZA,ZB,ZC,ZD,ZE,↓reduceIte,ZF,ZG,ZH,ZI,ZJ,reduceCtorEq,ZK,↓zU,↓zD,zV,zT,zW,hd,xA];clear hk hkl hd hi
 refine xV (fun k:Nat=>[(7,.int .i64 k),(1,.ref 0 5 0 0)]) (fun _=>⟨1,[(0,⟨5,[p.cells]⟩)]⟩)
  (fun k=>k<=p.code.length/\wS (wS (clE p)) p.code=wS (wS (clE p)) (p.code.drop k)) (fun k=>p.code.length-k) 0 ⟨Nat.zero_le _,rfl⟩ ?_ ?_
 ·unfold PrA.cells; (refine xM.same ?_; simp [xR,Fr.get])
 have hcl:=sm.code;intro k ⟨hk,hi⟩;refine xQ mixed ?_;by_cases hkl:k<p.code.length
 case neg=>
  have hd:¬ ((k:Int)<(p.code.length:Int)):=by omega
  rw [hi,List.drop_eq_nil_of_le (by omega)];unfold PrA.cells;simp only [ZA,ZB,ZC,ZD,ZE,↓reduceIte,ZF,ZG,ZH,ZI,ZJ,reduceCtorEq,ZK,↓zU,↓zD,zV,zT,zW,hd,yN];exact .drop (by simp) (by simp [vw,wS])
 have hd:((k:Int)<(p.code.length:Int)):=by omega
 rw [uT (d:=[]) _ hkl] at hi;have hg:=mC p.code hkl;have hs:=hsm.2 _ (xN (d:=[]) hkl);generalize p.code.getD k []=s at hi hg hs;unfold PrA.cells;simp only [ZA,ZB,ZC,ZD,ZE,↓reduceIte,ZF,ZG,ZH,ZI,ZJ,reduceCtorEq,ZK,↓zU,↓zD,zV,zT,zW,hd,yN]
 refine xV (fun j:Nat=>[(8,.int .i64 j),(7,.int .i64 k),(1,.ref 0 5 0 0)]) (fun _=>⟨1,[(0,⟨5,[p.cells]⟩)]⟩)
  (fun j=>j<=s.length/\wS (clE p) s=wS (clE p) (s.drop j)) (fun j=>s.length-j) 0 ⟨Nat.zero_le _,rfl⟩ ?_ ?_
 ·unfold PrA.cells; (refine xM.same ?_; simp [xR,Fr.get])
 intro j ⟨hj,hi2⟩;refine xQ mixed ?_;by_cases hjl:j<s.length
 case neg=>
  have hd2:¬ ((j:Int)<(s.length:Int)):=by omega
  have h0:wS (clE p) s=0:=by rw [hi2,List.drop_eq_nil_of_le (by omega)]; rfl
  rw [h0,if_neg (by simp)] at hi;unfold PrA.cells;simp only [ZA,ZB,ZC,ZD,ZE,↓reduceIte,ZF,ZG,ZH,ZI,ZJ,reduceCtorEq,ZK,↓zU,↓zD,zV,zT,zW,hd2,hd,yN,hg,wQ]
  (repeat refine sd ?_)
  refine⟨k+1,⟨by omega,hi⟩,?_,by omega⟩
  (refine xM.same ?_; simp only [xR,Fr.get,↓reduceIte,reduceIte,Nat.reduceEqDiff,reduceCtorEq,D.int.injEq,D.bool.injEq,D.sl.injEq,and_true,true_and,and_self])
  exact wrap_i64 (by omega)
 have hd2:((j:Int)<(s.length:Int)):=by omega
 rw [uT (d:=cl0) _ hjl] at hi2;have hg2:=dP s hjl;unfold ClA.row at hg2;generalize s.getD j cl0=c at hi2 hg2;have hend:clE p c≠0->wS (wS (clE p)) p.code=clE p c:=fun h=>by rw [hi,hi2,if_pos h,if_pos h]
 unfold PrA.cells;simp only [ZA,ZB,ZC,ZD,ZE,↓reduceIte,ZF,ZG,ZH,ZI,ZJ,reduceCtorEq,ZK,↓zU,↓zD,zV,zT,zW,hd2,hd,yN,hg,wQ,hg2]
 (repeat refine sd ?_)
 refine .go (cr (hF c.test 15)) ?_;by_cases e1:fmE p c.test 15=0
 case neg=>
  have e1':(fmE p c.test 15 != 0)= true:=by simpa using e1
  have e:clE p c=fmE p c.test 15:=by unfold clE; rw [if_pos e1]
  rw [hend (by rw [e]; exact e1),e];simp only [ZA,ZB,ZC,ZD,ZE,↓reduceIte,ZF,ZG,ZH,ZI,ZJ,reduceCtorEq,ZK,↓zU,↓zD,zV,zT,zW,e1'];exact .drop (by simp) (by simp [vw])
 have e1':(fmE p c.test 15 != 0)= false:=by simpa using e1
 by_cases e2:c.mv < -1
 ·have e:clE p c=2:=by unfold clE; rw [e1,if_neg (by simp),if_pos (.inl e2)]
  rw [hend (by rw [e]; decide),e];simp only [ZA,ZB,ZC,ZD,ZE,↓reduceIte,ZF,ZG,ZH,ZI,ZJ,reduceCtorEq,ZK,↓zU,↓zD,zV,zT,zW,e1',hd,yN,hg,hd2,wQ,hg2,e2]
  (repeat refine sd ?_)
  exact .drop (by simp) (by simp [vw])
 by_cases e3:(p.moves.length:Int)<=c.mv
 ·have e:clE p c=2:=by unfold clE; rw [e1,if_neg (by simp),if_pos (.inr e3)]
  rw [hend (by rw [e]; decide),e];simp only [ZA,ZB,ZC,ZD,ZE,↓reduceIte,ZF,ZG,ZH,ZI,ZJ,reduceCtorEq,ZK,↓zU,↓zD,zV,zT,zW,e1',hd,yN,hg,hd2,wQ,hg2,e2,xA,e3]
  (repeat refine sd ?_)
  exact .drop (by simp) (by simp [vw])
 have e:clE p c=0:=by unfold clE; rw [e1,if_neg (by simp),if_neg (by omega)]
 rw [e,if_neg (by simp)] at hi2;simp only [ZA,ZB,ZC,ZD,ZE,↓reduceIte,ZF,ZG,ZH,ZI,ZJ,reduceCtorEq,ZK,↓zU,↓zD,zV,zT,zW,e1',hd,yN,hg,hd2,wQ,hg2,e2,xA,e3]
 (repeat refine sd ?_)
 refine⟨j+1,⟨by omega,hi2⟩,?_,by omega⟩
 (refine xM.same ?_; simp only [xR,Fr.get,↓reduceIte,reduceIte,Nat.reduceEqDiff,reduceCtorEq,D.int.injEq,D.bool.injEq,D.sl.injEq,and_true,true_and,and_self])
 exact wrap_i64 (by omega)
open Rs Fm Ru Kb
namespace Kb
structure ChA where
 ag:Int
 seen:List (BitVec 64)
 mv:Int
def ch0 : ChA:=⟨0,[],0⟩
def ChA.row (c:ChA):List D:=[.int .i64 c.ag,.sl 1 (us c.seen),.int .i64 c.mv]
def chR (l:List ChA):List (List D):=l.map ChA.row
theorem wX (l:List ChA):(chR l).length=l.length:=by simp [chR]
theorem dN (l:List ChA) {i:Nat} (h:i<l.length):(chR l).getD i []=(l.getD i ch0).row:=by simp [chR,List.getD,h]
theorem aJt (l:List ChA):∀ e ∈ chR l,D.isPureL e=true:=by
 intro e he;simp only [chR,List.mem_map] at he;obtain⟨c,_,rfl⟩:=he;rfl
def aMl (s:List AsA):Bool:=decide (12<s.length) || s.any fun a=>decide (40<a.to.length)
def aIe (s:List ClA):Bool:=decide (8<s.length) || s.any fun c=>decide (40<c.test.length)
def gH (p:PrA) (l:List ChA):Bool:=
 decide (p.init.length<=20)&& decide (p.moves.length<=12)&& decide (p.code.length<=8)&& decide (p.see.length<=8)&& decide (l.length<=100)&&
 !p.moves.any aMl&&!p.code.any aIe&&!l.any fun c=>decide (12<c.seen.length)
end Kb
theorem aNk {p:PrA} {l:List ChA} (h:gH p l=true):rR p:=by
 unfold gH at h;simp only [Bool.and_eq_true,decide_eq_true_eq,Bool.not_eq_true'] at h;refine⟨by omega,by omega,fun s hs=>?_⟩;have:=List.any_eq_false.1 h.1.1.2 s hs;unfold aMl at this;simp only [Bool.or_eq_true,decide_eq_true_eq,not_or] at this;omega
theorem aAv (p:PrA) (l:List ChA):yX Tryz.prog 16 [p.d,.sl 3 (chR l)] (.bool (gH p l)):=by
 have hD:p.d = .agg [.int .i64 p.F,.sl 1 (us p.init),.sl 1 (us p.see),.sl 1 (mvR p.moves),.sl 1 (cdR p.code)]:=rfl;rw [hD];refine xX.go_fn mixed Tryz.func16 k16 (by simp) fun hf=>?_
 by_cases a1:20<p.init.length
 ·have a1':(20:Int)<(p.init.length:Int):=by omega
  rw [show gH p l=false by unfold gH; rw [decide_eq_false (show ¬ p.init.length<=20 by omega)]; simp];simp only [ZA,ZB,ZC,ZD,ZE,↓reduceIte,ZF,ZG,ZH,ZI,ZJ,reduceCtorEq,ZK,↓zU,↓zD,zV,zT,zW,xT,a1'];exact .drop (by simp) (by simp [vw])
 have a1':¬ (20:Int)<(p.init.length:Int):=by omega
 by_cases a2:12<p.moves.length
 ·have a2':(12:Int)<(p.moves.length:Int):=by omega
  rw [show gH p l=false by unfold gH; rw [decide_eq_false (show ¬ p.moves.length<=12 by omega)]; simp];simp only [ZA,ZB,ZC,ZD,ZE,↓reduceIte,ZF,ZG,ZH,ZI,ZJ,reduceCtorEq,ZK,↓zU,↓zD,zV,zT,zW,xT,xA,a1',a2'];exact .drop (by simp) (by simp [vw])
 have a2':¬ (12:Int)<(p.moves.length:Int):=by omega
 by_cases a3:8<p.code.length
 ·have a3':(8:Int)<(p.code.length:Int):=by omega
  rw [show gH p l=false by unfold gH; rw [decide_eq_false (show ¬ p.code.length<=8 by omega)]; simp];simp only [ZA,ZB,ZC,ZD,ZE,↓reduceIte,ZF,ZG,ZH,ZI,ZJ,reduceCtorEq,ZK,↓zU,↓zD,zV,zT,zW,xT,xA,yN,a1',a2',a3'];exact .drop (by simp) (by simp [vw])
 have a3':¬ (8:Int)<(p.code.length:Int):=by omega
 by_cases a4:8<p.see.length
 ·have a4':(8:Int)<(p.see.length:Int):=by omega
  rw [show gH p l=false by unfold gH; rw [decide_eq_false (show ¬ p.see.length<=8 by omega)]; simp];simp only [ZA,ZB,ZC,ZD,ZE,↓reduceIte,ZF,ZG,ZH,ZI,ZJ,reduceCtorEq,ZK,↓zU,↓zD,zV,zT,zW,xT,xA,yN,a1',a2',a3',a4'];exact .drop (by simp) (by simp [vw])
 have a4':¬ (8:Int)<(p.see.length:Int):=by omega
 by_cases a5:100<l.length
 ·have a5':(100:Int)<(l.length:Int):=by omega
  rw [show gH p l=false by unfold gH; rw [decide_eq_false (show ¬ l.length<=100 by omega)]; simp];simp only [ZA,ZB,ZC,ZD,ZE,↓reduceIte,ZF,ZG,ZH,ZI,ZJ,reduceCtorEq,ZK,↓zU,↓zD,zV,zT,zW,xT,xA,yN,wX,a1',a2',a3',a4',a5'];exact .drop (by simp) (by simp [vw])
 have a5':¬ (100:Int)<(l.length:Int):=by omega
 have hfe:gH p l=(!p.moves.any aMl&&!p.code.any aIe&&!l.any fun c=>decide (12<c.seen.length)):=by
  unfold gH;rw [decide_eq_true (show p.init.length<=20 by omega),decide_eq_true (show p.moves.length<=12 by omega),decide_eq_true (show p.code.length<=8 by omega),decide_eq_true (show p.see.length<=8 by omega),decide_eq_true (show l.length<=100 by omega)];rfl
 simp only [ZA,ZB,ZC,ZD,ZE,↓reduceIte,ZF,ZG,ZH,ZI,ZJ,reduceCtorEq,ZK,↓zU,↓zD,zV,zT,zW,xT,xA,yN,wX,a1',a2',a3',a4',a5']
 refine xV (fun k:Nat=>[(5,.int .i64 k),(2,.ref 0 5 0 0),(1,.sl 3 (chR l))]) (fun _=>⟨1,[(0,⟨5,[p.cells]⟩)]⟩)
  (fun k=>k<=p.moves.length/\p.moves.any aMl=(p.moves.drop k).any aMl) (fun k=>p.moves.length-k) 0 ⟨Nat.zero_le _,rfl⟩ ?_ ?_
 ·unfold PrA.cells; (refine xM.same ?_; simp [xR,Fr.get])
 intro k ⟨hk,hi⟩;refine xQ mixed ?_;by_cases hkl:k<p.moves.length
 case pos=>
  have hd:((k:Int)<(p.moves.length:Int)):=by omega
  rw [drop_cons (d:=[]) hkl,List.any_cons] at hi;have hg:=mF p.moves hkl;generalize p.moves.getD k []=s at hi hg;have hend:aMl s=true->gH p l=false:=fun h=>by rw [hfe,hi,h]; rfl
  unfold PrA.cells
  by_cases c1:12<s.length
  ·have c1':(12:Int)<(s.length:Int):=by omega
   rw [hend (by unfold aMl; rw [decide_eq_true c1,Bool.true_or])];simp only [ZA,ZB,ZC,ZD,ZE,↓reduceIte,ZF,ZG,ZH,ZI,ZJ,reduceCtorEq,ZK,↓zU,↓zD,zV,zT,zW,hd,xA,hg,zE,c1']
   (repeat refine sd ?_)
   exact .drop (by simp) (by simp [vw])
  have c1':¬ (12:Int)<(s.length:Int):=by omega
  have hb:aMl s=s.any fun a=>decide (40<a.to.length):=by unfold aMl; rw [decide_eq_false c1,Bool.false_or]
  simp only [ZA,ZB,ZC,ZD,ZE,↓reduceIte,ZF,ZG,ZH,ZI,ZJ,reduceCtorEq,ZK,↓zU,↓zD,zV,zT,zW,hd,xA,hg,zE,c1']
  (repeat refine sd ?_)
  refine xV (fun j:Nat=>[(6,.int .i64 j),(5,.int .i64 k),(2,.ref 0 5 0 0),(1,.sl 3 (chR l))]) (fun _=>⟨1,[(0,⟨5,[p.cells]⟩)]⟩)
   (fun j=>j<=s.length/\(s.any fun a=>decide (40<a.to.length))= (s.drop j).any fun a=>decide (40<a.to.length)) (fun j=>s.length-j) 0 ⟨Nat.zero_le _,rfl⟩ ?_ ?_
  ·unfold PrA.cells; (refine xM.same ?_; simp [xR,Fr.get])
  intro j ⟨hj,hi2⟩;refine xQ mixed ?_;by_cases hjl:j<s.length
  case neg=>
   have hd2:¬ ((j:Int)<(s.length:Int)):=by omega
   rw [List.drop_eq_nil_of_le (by omega),List.any_nil] at hi2;rw [hb,hi2,Bool.false_or] at hi;unfold PrA.cells;simp only [ZA,ZB,ZC,ZD,ZE,↓reduceIte,ZF,ZG,ZH,ZI,ZJ,reduceCtorEq,ZK,↓zU,↓zD,zV,zT,zW,hd2,hd,xA,hg,zE]
   (repeat refine sd ?_)
   refine⟨k+1,⟨by omega,hi⟩,?_,by omega⟩
   (refine xM.same ?_; simp only [xR,Fr.get,↓reduceIte,reduceIte,Nat.reduceEqDiff,reduceCtorEq,D.int.injEq,D.bool.injEq,D.sl.injEq,and_true,true_and,and_self])
   exact wrap_i64 (by omega)
  have hd2:((j:Int)<(s.length:Int)):=by omega
  rw [drop_cons (d:=as0) hjl,List.any_cons] at hi2;have hg2:=oY s hjl;unfold AsA.row at hg2;generalize s.getD j as0=a at hi2 hg2;unfold PrA.cells
  by_cases c2:40<a.to.length
  ·have c2':(40:Int)<(a.to.length:Int):=by omega
   rw [hend (by rw [hb,hi2,decide_eq_true c2,Bool.true_or])];simp only [ZA,ZB,ZC,ZD,ZE,↓reduceIte,ZF,ZG,ZH,ZI,ZJ,reduceCtorEq,ZK,↓zU,↓zD,zV,zT,zW,hd2,hd,xA,hg,zE,hg2,xO,c2']
   (repeat refine sd ?_)
   exact .drop (by simp) (by simp [vw])
  have c2':¬ (40:Int)<(a.to.length:Int):=by omega
  rw [decide_eq_false c2,Bool.false_or] at hi2;simp only [ZA,ZB,ZC,ZD,ZE,↓reduceIte,ZF,ZG,ZH,ZI,ZJ,reduceCtorEq,ZK,↓zU,↓zD,zV,zT,zW,hd2,hd,xA,hg,zE,hg2,xO,c2']
  (repeat refine sd ?_)
  refine⟨j+1,⟨by omega,hi2⟩,?_,by omega⟩
  (refine xM.same ?_; simp only [xR,Fr.get,↓reduceIte,reduceIte,Nat.reduceEqDiff,reduceCtorEq,D.int.injEq,D.bool.injEq,D.sl.injEq,and_true,true_and,and_self])
  exact wrap_i64 (by omega)
 have hd:¬ ((k:Int)<(p.moves.length:Int)):=by omega
 rw [List.drop_eq_nil_of_le (by omega),List.any_nil] at hi;rw [hi] at hfe;clear hk hkl hi;unfold PrA.cells;simp only [ZA,ZB,ZC,ZD,ZE,↓reduceIte,ZF,ZG,ZH,ZI,ZJ,reduceCtorEq,ZK,↓zU,↓zD,zV,zT,zW,hd,xA];clear hd
 refine xV (fun k:Nat=>[(7,.int .i64 k),(2,.ref 0 5 0 0),(1,.sl 3 (chR l))]) (fun _=>⟨1,[(0,⟨5,[p.cells]⟩)]⟩)
  (fun k=>k<=p.code.length/\p.code.any aIe=(p.code.drop k).any aIe) (fun k=>p.code.length-k) 0 ⟨Nat.zero_le _,rfl⟩ ?_ ?_
 ·unfold PrA.cells; (refine xM.same ?_; simp [xR,Fr.get])
 intro k ⟨hk,hi⟩;refine xQ mixed ?_;by_cases hkl:k<p.code.length
 case pos=>
  have hd:((k:Int)<(p.code.length:Int)):=by omega
  rw [drop_cons (d:=[]) hkl,List.any_cons] at hi;have hg:=mC p.code hkl;generalize p.code.getD k []=s at hi hg;have hend:aIe s=true->gH p l=false:=fun h=>by rw [hfe,hi,h]; rfl
  unfold PrA.cells
  by_cases c1:8<s.length
  ·have c1':(8:Int)<(s.length:Int):=by omega
   rw [hend (by unfold aIe; rw [decide_eq_true c1,Bool.true_or])];simp only [ZA,ZB,ZC,ZD,ZE,↓reduceIte,ZF,ZG,ZH,ZI,ZJ,reduceCtorEq,ZK,↓zU,↓zD,zV,zT,zW,hd,yN,hg,wQ,c1']
   (repeat refine sd ?_)
   exact .drop (by simp) (by simp [vw])
  have c1':¬ (8:Int)<(s.length:Int):=by omega
  have hb:aIe s=s.any fun a=>decide (40<a.test.length):=by unfold aIe; rw [decide_eq_false c1,Bool.false_or]
  simp only [ZA,ZB,ZC,ZD,ZE,↓reduceIte,ZF,ZG,ZH,ZI,ZJ,reduceCtorEq,ZK,↓zU,↓zD,zV,zT,zW,hd,yN,hg,wQ,c1']
  (repeat refine sd ?_)
  refine xV (fun j:Nat=>[(8,.int .i64 j),(7,.int .i64 k),(2,.ref 0 5 0 0),(1,.sl 3 (chR l))]) (fun _=>⟨1,[(0,⟨5,[p.cells]⟩)]⟩)
   (fun j=>j<=s.length/\(s.any fun a=>decide (40<a.test.length))= (s.drop j).any fun a=>decide (40<a.test.length)) (fun j=>s.length-j) 0 ⟨Nat.zero_le _,rfl⟩ ?_ ?_
  ·unfold PrA.cells; (refine xM.same ?_; simp [xR,Fr.get])
  intro j ⟨hj,hi2⟩;refine xQ mixed ?_;by_cases hjl:j<s.length
  case neg=>
   have hd2:¬ ((j:Int)<(s.length:Int)):=by omega
   rw [List.drop_eq_nil_of_le (by omega),List.any_nil] at hi2;rw [hb,hi2,Bool.false_or] at hi;unfold PrA.cells;simp only [ZA,ZB,ZC,ZD,ZE,↓reduceIte,ZF,ZG,ZH,ZI,ZJ,reduceCtorEq,ZK,↓zU,↓zD,zV,zT,zW,hd2,hd,yN,hg,wQ]
   (repeat refine sd ?_)
   refine⟨k+1,⟨by omega,hi⟩,?_,by omega⟩
   (refine xM.same ?_; simp only [xR,Fr.get,↓reduceIte,reduceIte,Nat.reduceEqDiff,reduceCtorEq,D.int.injEq,D.bool.injEq,D.sl.injEq,and_true,true_and,and_self])
   exact wrap_i64 (by omega)
  have hd2:((j:Int)<(s.length:Int)):=by omega
  rw [drop_cons (d:=cl0) hjl,List.any_cons] at hi2;have hg2:=dP s hjl;unfold ClA.row at hg2;generalize s.getD j cl0=a at hi2 hg2;unfold PrA.cells
  by_cases c2:40<a.test.length
  ·have c2':(40:Int)<(a.test.length:Int):=by omega
   rw [hend (by rw [hb,hi2,decide_eq_true c2,Bool.true_or])];simp only [ZA,ZB,ZC,ZD,ZE,↓reduceIte,ZF,ZG,ZH,ZI,ZJ,reduceCtorEq,ZK,↓zU,↓zD,zV,zT,zW,hd2,hd,yN,hg,wQ,hg2,xO,c2']
   (repeat refine sd ?_)
   exact .drop (by simp) (by simp [vw])
  have c2':¬ (40:Int)<(a.test.length:Int):=by omega
  rw [decide_eq_false c2,Bool.false_or] at hi2;simp only [ZA,ZB,ZC,ZD,ZE,↓reduceIte,ZF,ZG,ZH,ZI,ZJ,reduceCtorEq,ZK,↓zU,↓zD,zV,zT,zW,hd2,hd,yN,hg,wQ,hg2,xO,c2']
  (repeat refine sd ?_)
  refine⟨j+1,⟨by omega,hi2⟩,?_,by omega⟩
  (refine xM.same ?_; simp only [xR,Fr.get,↓reduceIte,reduceIte,Nat.reduceEqDiff,reduceCtorEq,D.int.injEq,D.bool.injEq,D.sl.injEq,and_true,true_and,and_self])
  exact wrap_i64 (by omega)
 have hd:¬ ((k:Int)<(p.code.length:Int)):=by omega
 rw [List.drop_eq_nil_of_le (by omega),List.any_nil] at hi;rw [hi] at hfe;clear hk hkl hi;unfold PrA.cells;simp only [ZA,ZB,ZC,ZD,ZE,↓reduceIte,ZF,ZG,ZH,ZI,ZJ,reduceCtorEq,ZK,↓zU,↓zD,zV,zT,zW,hd,yN];clear hd
 refine xV (fun k:Nat=>[(9,.int .i64 k),(1,.sl 3 (chR l))]) (fun _=>⟨1,[(0,⟨5,[p.cells]⟩)]⟩)
  (fun k=>k<=l.length/\(l.any fun c=>decide (12<c.seen.length))= (l.drop k).any fun c=>decide (12<c.seen.length)) (fun k=>l.length-k) 0 ⟨Nat.zero_le _,rfl⟩ ?_ ?_
 ·unfold PrA.cells; (refine xM.same ?_; simp [xR,Fr.get])
 intro k ⟨hk,hi⟩;refine xQ mixed ?_;by_cases hkl:k<l.length
 case pos=>
  have hd:((k:Int)<(l.length:Int)):=by omega
  rw [drop_cons (d:=ch0) hkl,List.any_cons] at hi;have hg:=dN l hkl;unfold ChA.row at hg;generalize l.getD k ch0=s at hi hg;unfold PrA.cells
  by_cases c1:12<s.seen.length
  ·have c1':(12:Int)<(s.seen.length:Int):=by omega
   rw [show gH p l=false by rw [hfe,hi,decide_eq_true c1]; rfl];simp only [ZA,ZB,ZC,ZD,ZE,↓reduceIte,ZF,ZG,ZH,ZI,ZJ,reduceCtorEq,ZK,↓zU,↓zD,zV,zT,zW,hd,wX,hg,xT,c1']
   (repeat refine sd ?_)
   exact .drop (by simp) (by simp [vw])
  have c1':¬ (12:Int)<(s.seen.length:Int):=by omega
  rw [decide_eq_false c1,Bool.false_or] at hi;simp only [ZA,ZB,ZC,ZD,ZE,↓reduceIte,ZF,ZG,ZH,ZI,ZJ,reduceCtorEq,ZK,↓zU,↓zD,zV,zT,zW,hd,wX,hg,xT,c1']
  (repeat refine sd ?_)
  refine⟨k+1,⟨by omega,hi⟩,?_,by omega⟩
  (refine xM.same ?_; simp only [xR,Fr.get,↓reduceIte,reduceIte,Nat.reduceEqDiff,reduceCtorEq,D.int.injEq,D.bool.injEq,D.sl.injEq,and_true,true_and,and_self])
  exact wrap_i64 (by omega)
 have hd:¬ ((k:Int)<(l.length:Int)):=by omega
 rw [List.drop_eq_nil_of_le (by omega),List.any_nil] at hi;rw [hfe,hi];unfold PrA.cells;simp only [ZA,ZB,ZC,ZD,ZE,↓reduceIte,ZF,ZG,ZH,ZI,ZJ,reduceCtorEq,ZK,↓zU,↓zD,zV,zT,zW,hd,wX];exact .drop (by simp) (by simp [vw])
end Go.Pd
