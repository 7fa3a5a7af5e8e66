/- Part KE. -/
import Derived.Test.YtndfaefmmcoapaaGreatKaKD
set_option linter.unusedSectionVars false
set_option linter.unusedVariables false
set_option linter.unusedSimpArgs false
set_option linter.defProp false
set_option maxRecDepth 20000
set_option maxHeartbeats 1000000
namespace Go.Pd
open Go Go.Proofs
open Int renaming reduceToNat -> ZA, reduceLT -> ZB, reduceLE -> ZC, reduceBEq -> ZD, reduceBNe -> ZE
open Nat renaming reduceEqDiff -> ZF, reduceAdd -> ZG, reduceBEq -> ZH, reduceLT -> ZI, reduceLeDiff -> ZJ, reduceMul -> ZK
open Rs Fm Ru Kb
namespace Kb
structure ChA where
 ag:Int
 seen:List (BitVec 64)
 mv:Int
def ch0 : ChA:=⟨0,[],0⟩
def ChA.row (c:ChA):List D:=[.int .i64 c.ag,.sl 1 (us c.seen),.int .i64 c.mv]
def chR (l:List ChA):List (List D):=l.map ChA.row
theorem wS (l:List ChA):(chR l).length=l.length:=by simp [chR]
theorem eE (l:List ChA) {i:Nat} (h:i<l.length):(chR l).getD i []=(l.getD i ch0).row:=by simp [chR,List.getD,h]
theorem aJb (l:List ChA):∀ e ∈ chR l,D.isPureL e=true:=by
 intro e he;simp only [chR,List.mem_map] at he;obtain⟨c,_,rfl⟩:=he;rfl
def aNz (s:List AsA):Bool:=decide (12<s.length) || s.any fun a=>decide (40<a.to.length)
def aJw (s:List ClA):Bool:=decide (8<s.length) || s.any fun c=>decide (40<c.test.length)
def gQ (p:PrA) (l:List ChA):Bool:=
 decide (p.init.length<=20)&& decide (p.moves.length<=12)&& decide (p.code.length<=8)&& decide (p.see.length<=8)&& decide (l.length<=100)&&
 !p.moves.any aNz&&!p.code.any aJw&&!l.any fun c=>decide (12<c.seen.length)
end Kb
theorem aOy {p:PrA} {l:List ChA} (h:gQ p l=true):rU p:=by
 unfold gQ at h;simp only [Bool.and_eq_true,decide_eq_true_eq,Bool.not_eq_true'] at h;refine⟨by omega,by omega,fun s hs=>?_⟩;have:=List.any_eq_false.1 h.1.1.2 s hs;unfold aNz at this;simp only [Bool.or_eq_true,decide_eq_true_eq,not_or] at this;omega
theorem aAg (p:PrA) (l:List ChA):yX Tryz.prog 16 [p.d,.sl 3 (chR l)] (.bool (gQ p l)):=by
 have hD:p.d = .agg [.int .i64 p.F,.sl 1 (us p.init),.sl 1 (us p.see),.sl 1 (mvR p.moves),.sl 1 (cdR p.code)]:=rfl;rw [hD];refine xX.go_fn mixed Tryz.func16 k16 (by simp) fun hf=>?_
 by_cases a1:20<p.init.length
 ·have a1':(20:Int)<(p.init.length:Int):=by omega
  rw [show gQ p l=false by unfold gQ; rw [decide_eq_false (show ¬ p.init.length<=20 by omega)]; simp];simp only [ZA,ZB,ZC,ZD,ZE,↓reduceIte,ZF,ZG,ZH,ZI,ZJ,reduceCtorEq,ZK,↓zU,↓zD,zV,zT,zW,xR,a1'];exact .drop (by simp) (by simp [vw])
 have a1':¬ (20:Int)<(p.init.length:Int):=by omega
 by_cases a2:12<p.moves.length
 ·have a2':(12:Int)<(p.moves.length:Int):=by omega
  rw [show gQ p l=false by unfold gQ; rw [decide_eq_false (show ¬ p.moves.length<=12 by omega)]; simp];simp only [ZA,ZB,ZC,ZD,ZE,↓reduceIte,ZF,ZG,ZH,ZI,ZJ,reduceCtorEq,ZK,↓zU,↓zD,zV,zT,zW,xR,xA,a1',a2'];exact .drop (by simp) (by simp [vw])
 have a2':¬ (12:Int)<(p.moves.length:Int):=by omega
 by_cases a3:8<p.code.length
 ·have a3':(8:Int)<(p.code.length:Int):=by omega
  rw [show gQ p l=false by unfold gQ; rw [decide_eq_false (show ¬ p.code.length<=8 by omega)]; simp];simp only [ZA,ZB,ZC,ZD,ZE,↓reduceIte,ZF,ZG,ZH,ZI,ZJ,reduceCtorEq,ZK,↓zU,↓zD,zV,zT,zW,xR,xA,yO,a1',a2',a3'];exact .drop (by simp) (by simp [vw])
 have a3':¬ (8:Int)<(p.code.length:Int):=by omega
 by_cases a4:8<p.see.length
 ·have a4':(8:Int)<(p.see.length:Int):=by omega
  rw [show gQ p l=false by unfold gQ; rw [decide_eq_false (show ¬ p.see.length<=8 by omega)]; simp];simp only [ZA,ZB,ZC,ZD,ZE,↓reduceIte,ZF,ZG,ZH,ZI,ZJ,reduceCtorEq,ZK,↓zU,↓zD,zV,zT,zW,xR,xA,yO,a1',a2',a3',a4'];exact .drop (by simp) (by simp [vw])
 have a4':¬ (8:Int)<(p.see.length:Int):=by omega
 by_cases a5:100<l.length
 ·have a5':(100:Int)<(l.length:Int):=by omega
  rw [show gQ p l=false by unfold gQ; rw [decide_eq_false (show ¬ l.length<=100 by omega)]; simp];simp only [ZA,ZB,ZC,ZD,ZE,↓reduceIte,ZF,ZG,ZH,ZI,ZJ,reduceCtorEq,ZK,↓zU,↓zD,zV,zT,zW,xR,xA,yO,wS,a1',a2',a3',a4',a5'];exact .drop (by simp) (by simp [vw])
 have a5':¬ (100:Int)<(l.length:Int):=by omega
 have hfe:gQ p l=(!p.moves.any aNz&&!p.code.any aJw&&!l.any fun c=>decide (12<c.seen.length)):=by
  unfold gQ;rw [decide_eq_true (show p.init.length<=20 by omega),decide_eq_true (show p.moves.length<=12 by omega),decide_eq_true (show p.code.length<=8 by omega),decide_eq_true (show p.see.length<=8 by omega),decide_eq_true (show l.length<=100 by omega)];rfl
 simp only [ZA,ZB,ZC,ZD,ZE,↓reduceIte,ZF,ZG,ZH,ZI,ZJ,reduceCtorEq,ZK,↓zU,↓zD,zV,zT,zW,xR,xA,yO,wS,a1',a2',a3',a4',a5']
 refine xV (fun k:Nat=>[(5,.int .i64 k),(2,.ref 0 5 0 0),(1,.sl 3 (chR l))]) (fun _=>⟨1,[(0,⟨5,[p.cells]⟩)]⟩)
  (fun k=>k<=p.moves.length/\p.moves.any aNz=(p.moves.drop k).any aNz) (fun k=>p.moves.length-k) 0 ⟨Nat.zero_le _,rfl⟩ ?_ ?_
 ·unfold PrA.cells; (refine xM.same ?_; simp [xS,Fr.get])
 intro k ⟨hk,hi⟩;refine xQ mixed ?_;by_cases hkl:k<p.moves.length
 case pos=>
  have hd:((k:Int)<(p.moves.length:Int)):=by omega
  rw [drop_cons (d:=[]) hkl,List.any_cons] at hi;have hg:=mM p.moves hkl;generalize p.moves.getD k []=s at hi hg;have hend:aNz s=true->gQ p l=false:=fun h=>by rw [hfe,hi,h]; rfl
  unfold PrA.cells
  by_cases c1:12<s.length
  ·have c1':(12:Int)<(s.length:Int):=by omega
   rw [hend (by unfold aNz; rw [decide_eq_true c1,Bool.true_or])];simp only [ZA,ZB,ZC,ZD,ZE,↓reduceIte,ZF,ZG,ZH,ZI,ZJ,reduceCtorEq,ZK,↓zU,↓zD,zV,zT,zW,hd,xA,hg,zF,c1']
   (repeat refine sd ?_)
   exact .drop (by simp) (by simp [vw])
  have c1':¬ (12:Int)<(s.length:Int):=by omega
  have hb:aNz s=s.any fun a=>decide (40<a.to.length):=by unfold aNz; rw [decide_eq_false c1,Bool.false_or]
  simp only [ZA,ZB,ZC,ZD,ZE,↓reduceIte,ZF,ZG,ZH,ZI,ZJ,reduceCtorEq,ZK,↓zU,↓zD,zV,zT,zW,hd,xA,hg,zF,c1']
  (repeat refine sd ?_)
  refine xV (fun j:Nat=>[(6,.int .i64 j),(5,.int .i64 k),(2,.ref 0 5 0 0),(1,.sl 3 (chR l))]) (fun _=>⟨1,[(0,⟨5,[p.cells]⟩)]⟩)
   (fun j=>j<=s.length/\(s.any fun a=>decide (40<a.to.length))= (s.drop j).any fun a=>decide (40<a.to.length)) (fun j=>s.length-j) 0 ⟨Nat.zero_le _,rfl⟩ ?_ ?_
  ·unfold PrA.cells; (refine xM.same ?_; simp [xS,Fr.get])
  intro j ⟨hj,hi2⟩;refine xQ mixed ?_;by_cases hjl:j<s.length
  case neg=>
   have hd2:¬ ((j:Int)<(s.length:Int)):=by omega
   rw [List.drop_eq_nil_of_le (by omega),List.any_nil] at hi2;rw [hb,hi2,Bool.false_or] at hi;unfold PrA.cells;simp only [ZA,ZB,ZC,ZD,ZE,↓reduceIte,ZF,ZG,ZH,ZI,ZJ,reduceCtorEq,ZK,↓zU,↓zD,zV,zT,zW,hd2,hd,xA,hg,zF]
   (repeat refine sd ?_)
   refine⟨k+1,⟨by omega,hi⟩,?_,by omega⟩
   (refine xM.same ?_; simp only [xS,Fr.get,↓reduceIte,reduceIte,Nat.reduceEqDiff,reduceCtorEq,D.int.injEq,D.bool.injEq,D.sl.injEq,and_true,true_and,and_self])
   exact wrap_i64 (by omega)
  have hd2:((j:Int)<(s.length:Int)):=by omega
  rw [drop_cons (d:=as0) hjl,List.any_cons] at hi2;have hg2:=pF s hjl;unfold AsA.row at hg2;generalize s.getD j as0=a at hi2 hg2;unfold PrA.cells
  by_cases c2:40<a.to.length
  ·have c2':(40:Int)<(a.to.length:Int):=by omega
   rw [hend (by rw [hb,hi2,decide_eq_true c2,Bool.true_or])];simp only [ZA,ZB,ZC,ZD,ZE,↓reduceIte,ZF,ZG,ZH,ZI,ZJ,reduceCtorEq,ZK,↓zU,↓zD,zV,zT,zW,hd2,hd,xA,hg,zF,hg2,xO,c2']
   (repeat refine sd ?_)
   exact .drop (by simp) (by simp [vw])
  have c2':¬ (40:Int)<(a.to.length:Int):=by omega
  rw [decide_eq_false c2,Bool.false_or] at hi2;simp only [ZA,ZB,ZC,ZD,ZE,↓reduceIte,ZF,ZG,ZH,ZI,ZJ,reduceCtorEq,ZK,↓zU,↓zD,zV,zT,zW,hd2,hd,xA,hg,zF,hg2,xO,c2']
  (repeat refine sd ?_)
  refine⟨j+1,⟨by omega,hi2⟩,?_,by omega⟩
  (refine xM.same ?_; simp only [xS,Fr.get,↓reduceIte,reduceIte,Nat.reduceEqDiff,reduceCtorEq,D.int.injEq,D.bool.injEq,D.sl.injEq,and_true,true_and,and_self])
  exact wrap_i64 (by omega)
 have hd:¬ ((k:Int)<(p.moves.length:Int)):=by omega
 rw [List.drop_eq_nil_of_le (by omega),List.any_nil] at hi;rw [hi] at hfe;clear hk hkl hi;unfold PrA.cells;simp only [ZA,ZB,ZC,ZD,ZE,↓reduceIte,ZF,ZG,ZH,ZI,ZJ,reduceCtorEq,ZK,↓zU,↓zD,zV,zT,zW,hd,xA];clear hd
 refine xV (fun k:Nat=>[(7,.int .i64 k),(2,.ref 0 5 0 0),(1,.sl 3 (chR l))]) (fun _=>⟨1,[(0,⟨5,[p.cells]⟩)]⟩)
  (fun k=>k<=p.code.length/\p.code.any aJw=(p.code.drop k).any aJw) (fun k=>p.code.length-k) 0 ⟨Nat.zero_le _,rfl⟩ ?_ ?_
 ·unfold PrA.cells; (refine xM.same ?_; simp [xS,Fr.get])
 intro k ⟨hk,hi⟩;refine xQ mixed ?_;by_cases hkl:k<p.code.length
 case pos=>
  have hd:((k:Int)<(p.code.length:Int)):=by omega
  rw [drop_cons (d:=[]) hkl,List.any_cons] at hi;have hg:=mJ p.code hkl;generalize p.code.getD k []=s at hi hg;have hend:aJw s=true->gQ p l=false:=fun h=>by rw [hfe,hi,h]; rfl
  unfold PrA.cells
  by_cases c1:8<s.length
  ·have c1':(8:Int)<(s.length:Int):=by omega
   rw [hend (by unfold aJw; rw [decide_eq_true c1,Bool.true_or])];simp only [ZA,ZB,ZC,ZD,ZE,↓reduceIte,ZF,ZG,ZH,ZI,ZJ,reduceCtorEq,ZK,↓zU,↓zD,zV,zT,zW,hd,yO,hg,wT,c1']
   (repeat refine sd ?_)
   exact .drop (by simp) (by simp [vw])
  have c1':¬ (8:Int)<(s.length:Int):=by omega
  have hb:aJw s=s.any fun a=>decide (40<a.test.length):=by unfold aJw; rw [decide_eq_false c1,Bool.false_or]
  simp only [ZA,ZB,ZC,ZD,ZE,↓reduceIte,ZF,ZG,ZH,ZI,ZJ,reduceCtorEq,ZK,↓zU,↓zD,zV,zT,zW,hd,yO,hg,wT,c1']
  (repeat refine sd ?_)
  refine xV (fun j:Nat=>[(8,.int .i64 j),(7,.int .i64 k),(2,.ref 0 5 0 0),(1,.sl 3 (chR l))]) (fun _=>⟨1,[(0,⟨5,[p.cells]⟩)]⟩)
   (fun j=>j<=s.length/\(s.any fun a=>decide (40<a.test.length))= (s.drop j).any fun a=>decide (40<a.test.length)) (fun j=>s.length-j) 0 ⟨Nat.zero_le _,rfl⟩ ?_ ?_
  ·unfold PrA.cells; (refine xM.same ?_; simp [xS,Fr.get])
  intro j ⟨hj,hi2⟩;refine xQ mixed ?_;by_cases hjl:j<s.length
  case neg=>
   have hd2:¬ ((j:Int)<(s.length:Int)):=by omega
   rw [List.drop_eq_nil_of_le (by omega),List.any_nil] at hi2;rw [hb,hi2,Bool.false_or] at hi;unfold PrA.cells;simp only [ZA,ZB,ZC,ZD,ZE,↓reduceIte,ZF,ZG,ZH,ZI,ZJ,reduceCtorEq,ZK,↓zU,↓zD,zV,zT,zW,hd2,hd,yO,hg,wT]
   (repeat refine sd ?_)
   refine⟨k+1,⟨by omega,hi⟩,?_,by omega⟩
   (refine xM.same ?_; simp only [xS,Fr.get,↓reduceIte,reduceIte,Nat.reduceEqDiff,reduceCtorEq,D.int.injEq,D.bool.injEq,D.sl.injEq,and_true,true_and,and_self])
   exact wrap_i64 (by omega)
  have hd2:((j:Int)<(s.length:Int)):=by omega
  rw [drop_cons (d:=cl0) hjl,List.any_cons] at hi2;have hg2:=eF s hjl;unfold ClA.row at hg2;generalize s.getD j cl0=a at hi2 hg2;unfold PrA.cells
  by_cases c2:40<a.test.length
  ·have c2':(40:Int)<(a.test.length:Int):=by omega
   rw [hend (by rw [hb,hi2,decide_eq_true c2,Bool.true_or])];simp only [ZA,ZB,ZC,ZD,ZE,↓reduceIte,ZF,ZG,ZH,ZI,ZJ,reduceCtorEq,ZK,↓zU,↓zD,zV,zT,zW,hd2,hd,yO,hg,wT,hg2,xO,c2']
   (repeat refine sd ?_)
   exact .drop (by simp) (by simp [vw])
  have c2':¬ (40:Int)<(a.test.length:Int):=by omega
  rw [decide_eq_false c2,Bool.false_or] at hi2;simp only [ZA,ZB,ZC,ZD,ZE,↓reduceIte,ZF,ZG,ZH,ZI,ZJ,reduceCtorEq,ZK,↓zU,↓zD,zV,zT,zW,hd2,hd,yO,hg,wT,hg2,xO,c2']
  (repeat refine sd ?_)
  refine⟨j+1,⟨by omega,hi2⟩,?_,by omega⟩
  (refine xM.same ?_; simp only [xS,Fr.get,↓reduceIte,reduceIte,Nat.reduceEqDiff,reduceCtorEq,D.int.injEq,D.bool.injEq,D.sl.injEq,and_true,true_and,and_self])
  exact wrap_i64 (by omega)
 have hd:¬ ((k:Int)<(p.code.length:Int)):=by omega
 rw [List.drop_eq_nil_of_le (by omega),List.any_nil] at hi;rw [hi] at hfe;clear hk hkl hi;unfold PrA.cells;simp only [ZA,ZB,ZC,ZD,ZE,↓reduceIte,ZF,ZG,ZH,ZI,ZJ,reduceCtorEq,ZK,↓zU,↓zD,zV,zT,zW,hd,yO];clear hd
 refine xV (fun k:Nat=>[(9,.int .i64 k),(1,.sl 3 (chR l))]) (fun _=>⟨1,[(0,⟨5,[p.cells]⟩)]⟩)
  (fun k=>k<=l.length/\(l.any fun c=>decide (12<c.seen.length))= (l.drop k).any fun c=>decide (12<c.seen.length)) (fun k=>l.length-k) 0 ⟨Nat.zero_le _,rfl⟩ ?_ ?_
 ·unfold PrA.cells; (refine xM.same ?_; simp [xS,Fr.get])
 intro k ⟨hk,hi⟩;refine xQ mixed ?_;by_cases hkl:k<l.length
 case pos=>
  have hd:((k:Int)<(l.length:Int)):=by omega
  rw [drop_cons (d:=ch0) hkl,List.any_cons] at hi;have hg:=eE l hkl;unfold ChA.row at hg;generalize l.getD k ch0=s at hi hg;unfold PrA.cells
  by_cases c1:12<s.seen.length
  ·have c1':(12:Int)<(s.seen.length:Int):=by omega
   rw [show gQ p l=false by rw [hfe,hi,decide_eq_true c1]; rfl];simp only [ZA,ZB,ZC,ZD,ZE,↓reduceIte,ZF,ZG,ZH,ZI,ZJ,reduceCtorEq,ZK,↓zU,↓zD,zV,zT,zW,hd,wS,hg,xR,c1']
   (repeat refine sd ?_)
   exact .drop (by simp) (by simp [vw])
  have c1':¬ (12:Int)<(s.seen.length:Int):=by omega
  rw [decide_eq_false c1,Bool.false_or] at hi;simp only [ZA,ZB,ZC,ZD,ZE,↓reduceIte,ZF,ZG,ZH,ZI,ZJ,reduceCtorEq,ZK,↓zU,↓zD,zV,zT,zW,hd,wS,hg,xR,c1']
  (repeat refine sd ?_)
  refine⟨k+1,⟨by omega,hi⟩,?_,by omega⟩
  (refine xM.same ?_; simp only [xS,Fr.get,↓reduceIte,reduceIte,Nat.reduceEqDiff,reduceCtorEq,D.int.injEq,D.bool.injEq,D.sl.injEq,and_true,true_and,and_self])
  exact wrap_i64 (by omega)
 have hd:¬ ((k:Int)<(l.length:Int)):=by omega
 rw [List.drop_eq_nil_of_le (by omega),List.any_nil] at hi;rw [hfe,hi];unfold PrA.cells;simp only [ZA,ZB,ZC,ZD,ZE,↓reduceIte,ZF,ZG,ZH,ZI,ZJ,reduceCtorEq,ZK,↓zU,↓zD,zV,zT,zW,hd,wS];exact .drop (by simp) (by simp [vw])
end Go.Pd
