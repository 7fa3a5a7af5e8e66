/- Part KE. -/
import Derived.Test.YtndfaefmmcoapaaGreatUoKD
set_option linter.unusedSectionVars false
set_option linter.unusedVariables false
set_option linter.unusedSimpArgs false
set_option linter.defProp false
set_option maxRecDepth 20000
set_option maxHeartbeats 1000000
namespace Go.Pd
open Go Go.Proofs
open BitVec renaming isValue -> ZA
open Rs Fm Ru Kb
namespace Kb
structure ChA where
 ag:Int
 seen:List (BitVec 64)
 mv:Int
def ch0 : ChA:=⟨0,[],0⟩
def ChA.row (c:ChA):List D:=[.int .i64 c.ag,.sl 1 (us c.seen),.int .i64 c.mv]
def chR (l:List ChA):List (List D):=l.map ChA.row
theorem zJ (l:List ChA):(chR l).length=l.length:=by simp [chR]
theorem kJ (l:List ChA) {i:Nat} (h:i<l.length):(chR l).getD i []=(l.getD i ch0).row:=by simp [chR,List.getD,h]
theorem aHx (l:List ChA):∀ e ∈ chR l,D.xU e=true:=by intro e he;simp only [chR,List.mem_map] at he;obtain⟨c,_,rfl⟩:=he;rfl
def aKo (s:List AsA):Bool:=decide (12<s.length) || s.any fun a=>decide (40<a.to.length)
def aGj (s:List ClA):Bool:=decide (8<s.length) || s.any fun c=>decide (40<c.test.length)
def eN (p:PrA) (l:List ChA):Bool:=
 decide (p.init.length<=20)&& decide (p.xM.length<=12)&& decide (p.code.length<=8)&& decide (p.see.length<=8)&& decide (l.length<=100)&&
 !p.xM.any aKo&&!p.code.any aGj&&!l.any fun c=>decide (12<c.seen.length)
end Kb
theorem aLn {p:PrA} {l:List ChA} (h:eN p l=true):qO p:=by unfold eN at h;simp only [Bool.and_eq_true,decide_eq_true_eq,Bool.not_eq_true'] at h;refine⟨by omega,by omega,fun s hs=>?_⟩;have:=List.any_eq_false.1 h.1.1.2 s hs;unfold aKo at this;simp only [Bool.or_eq_true,decide_eq_true_eq,not_or] at this;omega
theorem bZm (p:PrA) (l:List ChA):yT Tryz.prog 16 [p.d,.sl 3 (chR l)] (.bool (eN p l)):=by
 have hD:p.d = .agg [.int .i64 p.F,.sl 1 (us p.init),.sl 1 (us p.see),.sl 1 (mvR p.xM),.sl 1 (cdR p.code)]:=rfl;rw [hD];refine xX.xR mixed Tryz.func16 k16 (by simp) fun hf=>?_
 by_cases a1:20<p.init.length
 ·have a1':(20:Int)<(p.init.length:Int):=by omega
  rw [show eN p l=false by unfold eN; rw [decide_eq_false (show ¬ p.init.length<=20 by omega)]; simp];simp only [simprocAttr,-ZA,↓zU,↓zD,zV,zT,zW,xQ,a1'];exact .drop (by simp) (by simp [vw])
 have a1':¬ (20:Int)<(p.init.length:Int):=by omega
 by_cases a2:12<p.xM.length
 ·have a2':(12:Int)<(p.xM.length:Int):=by omega
  rw [show eN p l=false by unfold eN; rw [decide_eq_false (show ¬ p.xM.length<=12 by omega)]; simp];simp only [simprocAttr,-ZA,↓zU,↓zD,zV,zT,zW,xQ,yU,a1',a2'];exact .drop (by simp) (by simp [vw])
 have a2':¬ (12:Int)<(p.xM.length:Int):=by omega
 by_cases a3:8<p.code.length
 ·have a3':(8:Int)<(p.code.length:Int):=by omega
  rw [show eN p l=false by unfold eN; rw [decide_eq_false (show ¬ p.code.length<=8 by omega)]; simp];simp only [simprocAttr,-ZA,↓zU,↓zD,zV,zT,zW,xQ,yU,yD,a1',a2',a3'];exact .drop (by simp) (by simp [vw])
 have a3':¬ (8:Int)<(p.code.length:Int):=by omega
 by_cases a4:8<p.see.length
 ·have a4':(8:Int)<(p.see.length:Int):=by omega
  rw [show eN p l=false by unfold eN; rw [decide_eq_false (show ¬ p.see.length<=8 by omega)]; simp];simp only [simprocAttr,-ZA,↓zU,↓zD,zV,zT,zW,xQ,yU,yD,a1',a2',a3',a4'];exact .drop (by simp) (by simp [vw])
 have a4':¬ (8:Int)<(p.see.length:Int):=by omega
 by_cases a5:100<l.length
 ·have a5':(100:Int)<(l.length:Int):=by omega
  rw [show eN p l=false by unfold eN; rw [decide_eq_false (show ¬ l.length<=100 by omega)]; simp];simp only [simprocAttr,-ZA,↓zU,↓zD,zV,zT,zW,xQ,yU,yD,zJ,a1',a2',a3',a4',a5'];exact .drop (by simp) (by simp [vw])
 have a5':¬ (100:Int)<(l.length:Int):=by omega
 have hfe:eN p l=(!p.xM.any aKo&&!p.code.any aGj&&!l.any fun c=>decide (12<c.seen.length)):=by unfold eN;rw [decide_eq_true (show p.init.length<=20 by omega),decide_eq_true (show p.xM.length<=12 by omega),decide_eq_true (show p.code.length<=8 by omega),decide_eq_true (show p.see.length<=8 by omega),decide_eq_true (show l.length<=100 by omega)];rfl
 simp only [simprocAttr,-ZA,↓zU,↓zD,zV,zT,zW,xQ,yU,yD,zJ,a1',a2',a3',a4',a5']
 refine xW (fun k:Nat=>[(5,.int .i64 k),(2,.ref 0 5 0 0),(1,.sl 3 (chR l))]) (fun _=>⟨1,[(0,⟨5,[p.cells]⟩)]⟩)
  (fun k=>k<=p.xM.length/\p.xM.any aKo=(p.xM.drop k).any aKo) (fun k=>p.xM.length-k) 0 ⟨Nat.zero_le _,rfl⟩ ?_ ?_
 ·unfold PrA.cells; (refine xI.same ?_; simp [xP,Fr.get])
 intro k ⟨hk,hi⟩;refine xN mixed ?_;by_cases hkl:k<p.xM.length
 case pos=>
  have hd:((k:Int)<(p.xM.length:Int)):=by omega
  rw [drop_cons (d:=[]) hkl,List.any_cons] at hi;have hg:=kM p.xM hkl;generalize p.xM.getD k []=s at hi hg;have hend:aKo s=true->eN p l=false:=fun h=>by rw [hfe,hi,h]; rfl
  unfold PrA.cells
  by_cases c1:12<s.length
  ·have c1':(12:Int)<(s.length:Int):=by omega
   rw [hend (by unfold aKo; rw [decide_eq_true c1,Bool.true_or])];simp only [simprocAttr,-ZA,↓zU,↓zD,zV,zT,zW,hd,yU,hg,wP,c1']
   (repeat refine sd ?_)
   exact .drop (by simp) (by simp [vw])
  have c1':¬ (12:Int)<(s.length:Int):=by omega
  have hb:aKo s=s.any fun a=>decide (40<a.to.length):=by unfold aKo; rw [decide_eq_false c1,Bool.false_or]
  simp only [simprocAttr,-ZA,↓zU,↓zD,zV,zT,zW,hd,yU,hg,wP,c1']
  (repeat refine sd ?_)
  refine xW (fun j:Nat=>[(6,.int .i64 j),(5,.int .i64 k),(2,.ref 0 5 0 0),(1,.sl 3 (chR l))]) (fun _=>⟨1,[(0,⟨5,[p.cells]⟩)]⟩)
   (fun j=>j<=s.length/\(s.any fun a=>decide (40<a.to.length))= (s.drop j).any fun a=>decide (40<a.to.length)) (fun j=>s.length-j) 0 ⟨Nat.zero_le _,rfl⟩ ?_ ?_
  ·unfold PrA.cells; (refine xI.same ?_; simp [xP,Fr.get])
  intro j ⟨hj,hi2⟩;refine xN mixed ?_;by_cases hjl:j<s.length
  case neg=>
   have hd2:¬ ((j:Int)<(s.length:Int)):=by omega
   rw [List.drop_eq_nil_of_le (by omega),List.any_nil] at hi2;rw [hb,hi2,Bool.false_or] at hi;unfold PrA.cells;simp only [simprocAttr,-ZA,↓zU,↓zD,zV,zT,zW,hd2,hd,yU,hg,wP]
   (repeat refine sd ?_)
   refine⟨k+1,⟨by omega,hi⟩,?_,by omega⟩
   (refine xI.same ?_; simp only [xP,Fr.get,↓reduceIte,reduceIte,Nat.reduceEqDiff,reduceCtorEq,D.int.injEq,D.bool.injEq,D.sl.injEq,and_true,true_and,and_self])
   exact wrap_i64 (by omega)
  have hd2:((j:Int)<(s.length:Int)):=by omega
  rw [drop_cons (d:=as0) hjl,List.any_cons] at hi2;have hg2:=nM s hjl;unfold AsA.row at hg2;generalize s.getD j as0=a at hi2 hg2;unfold PrA.cells
  by_cases c2:40<a.to.length
  ·have c2':(40:Int)<(a.to.length:Int):=by omega
   rw [hend (by rw [hb,hi2,decide_eq_true c2,Bool.true_or])];simp only [simprocAttr,-ZA,↓zU,↓zD,zV,zT,zW,hd2,hd,yU,hg,wP,hg2,xJ,c2']
   (repeat refine sd ?_)
   exact .drop (by simp) (by simp [vw])
  have c2':¬ (40:Int)<(a.to.length:Int):=by omega
  rw [decide_eq_false c2,Bool.false_or] at hi2;simp only [simprocAttr,-ZA,↓zU,↓zD,zV,zT,zW,hd2,hd,yU,hg,wP,hg2,xJ,c2']
  (repeat refine sd ?_)
  refine⟨j+1,⟨by omega,hi2⟩,?_,by omega⟩
  (refine xI.same ?_; simp only [xP,Fr.get,↓reduceIte,reduceIte,Nat.reduceEqDiff,reduceCtorEq,D.int.injEq,D.bool.injEq,D.sl.injEq,and_true,true_and,and_self])
  exact wrap_i64 (by omega)
 have hd:¬ ((k:Int)<(p.xM.length:Int)):=by omega
 rw [List.drop_eq_nil_of_le (by omega),List.any_nil] at hi;rw [hi] at hfe;clear hk hkl hi;unfold PrA.cells;simp only [simprocAttr,-ZA,↓zU,↓zD,zV,zT,zW,hd,yU];clear hd
 refine xW (fun k:Nat=>[(7,.int .i64 k),(2,.ref 0 5 0 0),(1,.sl 3 (chR l))]) (fun _=>⟨1,[(0,⟨5,[p.cells]⟩)]⟩)
  (fun k=>k<=p.code.length/\p.code.any aGj=(p.code.drop k).any aGj) (fun k=>p.code.length-k) 0 ⟨Nat.zero_le _,rfl⟩ ?_ ?_
 ·unfold PrA.cells; (refine xI.same ?_; simp [xP,Fr.get])
 intro k ⟨hk,hi⟩;refine xN mixed ?_;by_cases hkl:k<p.code.length
 case pos=>
  have hd:((k:Int)<(p.code.length:Int)):=by omega
  rw [drop_cons (d:=[]) hkl,List.any_cons] at hi;have hg:=kH p.code hkl;generalize p.code.getD k []=s at hi hg;have hend:aGj s=true->eN p l=false:=fun h=>by rw [hfe,hi,h]; rfl
  unfold PrA.cells
  by_cases c1:8<s.length
  ·have c1':(8:Int)<(s.length:Int):=by omega
   rw [hend (by unfold aGj; rw [decide_eq_true c1,Bool.true_or])];simp only [simprocAttr,-ZA,↓zU,↓zD,zV,zT,zW,hd,yD,hg,wD,c1']
   (repeat refine sd ?_)
   exact .drop (by simp) (by simp [vw])
  have c1':¬ (8:Int)<(s.length:Int):=by omega
  have hb:aGj s=s.any fun a=>decide (40<a.test.length):=by unfold aGj; rw [decide_eq_false c1,Bool.false_or]
  simp only [simprocAttr,-ZA,↓zU,↓zD,zV,zT,zW,hd,yD,hg,wD,c1']
  (repeat refine sd ?_)
  refine xW (fun j:Nat=>[(8,.int .i64 j),(7,.int .i64 k),(2,.ref 0 5 0 0),(1,.sl 3 (chR l))]) (fun _=>⟨1,[(0,⟨5,[p.cells]⟩)]⟩)
   (fun j=>j<=s.length/\(s.any fun a=>decide (40<a.test.length))= (s.drop j).any fun a=>decide (40<a.test.length)) (fun j=>s.length-j) 0 ⟨Nat.zero_le _,rfl⟩ ?_ ?_
  ·unfold PrA.cells; (refine xI.same ?_; simp [xP,Fr.get])
  intro j ⟨hj,hi2⟩;refine xN mixed ?_;by_cases hjl:j<s.length
  case neg=>
   have hd2:¬ ((j:Int)<(s.length:Int)):=by omega
   rw [List.drop_eq_nil_of_le (by omega),List.any_nil] at hi2;rw [hb,hi2,Bool.false_or] at hi;unfold PrA.cells;simp only [simprocAttr,-ZA,↓zU,↓zD,zV,zT,zW,hd2,hd,yD,hg,wD]
   (repeat refine sd ?_)
   refine⟨k+1,⟨by omega,hi⟩,?_,by omega⟩
   (refine xI.same ?_; simp only [xP,Fr.get,↓reduceIte,reduceIte,Nat.reduceEqDiff,reduceCtorEq,D.int.injEq,D.bool.injEq,D.sl.injEq,and_true,true_and,and_self])
   exact wrap_i64 (by omega)
  have hd2:((j:Int)<(s.length:Int)):=by omega
  rw [drop_cons (d:=cl0) hjl,List.any_cons] at hi2;have hg2:=bM s hjl;unfold ClA.row at hg2;generalize s.getD j cl0=a at hi2 hg2;unfold PrA.cells
  by_cases c2:40<a.test.length
  ·have c2':(40:Int)<(a.test.length:Int):=by omega
   rw [hend (by rw [hb,hi2,decide_eq_true c2,Bool.true_or])];simp only [simprocAttr,-ZA,↓zU,↓zD,zV,zT,zW,hd2,hd,yD,hg,wD,hg2,xJ,c2']
   (repeat refine sd ?_)
   exact .drop (by simp) (by simp [vw])
  have c2':¬ (40:Int)<(a.test.length:Int):=by omega
  rw [decide_eq_false c2,Bool.false_or] at hi2;simp only [simprocAttr,-ZA,↓zU,↓zD,zV,zT,zW,hd2,hd,yD,hg,wD,hg2,xJ,c2']
  (repeat refine sd ?_)
  refine⟨j+1,⟨by omega,hi2⟩,?_,by omega⟩
  (refine xI.same ?_; simp only [xP,Fr.get,↓reduceIte,reduceIte,Nat.reduceEqDiff,reduceCtorEq,D.int.injEq,D.bool.injEq,D.sl.injEq,and_true,true_and,and_self])
  exact wrap_i64 (by omega)
 have hd:¬ ((k:Int)<(p.code.length:Int)):=by omega
 rw [List.drop_eq_nil_of_le (by omega),List.any_nil] at hi;rw [hi] at hfe;clear hk hkl hi;unfold PrA.cells;simp only [simprocAttr,-ZA,↓zU,↓zD,zV,zT,zW,hd,yD];clear hd
 refine xW (fun k:Nat=>[(9,.int .i64 k),(1,.sl 3 (chR l))]) (fun _=>⟨1,[(0,⟨5,[p.cells]⟩)]⟩)
  (fun k=>k<=l.length/\(l.any fun c=>decide (12<c.seen.length))= (l.drop k).any fun c=>decide (12<c.seen.length)) (fun k=>l.length-k) 0 ⟨Nat.zero_le _,rfl⟩ ?_ ?_
 ·unfold PrA.cells; (refine xI.same ?_; simp [xP,Fr.get])
 intro k ⟨hk,hi⟩;refine xN mixed ?_;by_cases hkl:k<l.length
 case pos=>
  have hd:((k:Int)<(l.length:Int)):=by omega
  rw [drop_cons (d:=ch0) hkl,List.any_cons] at hi;have hg:=kJ l hkl;unfold ChA.row at hg;generalize l.getD k ch0=s at hi hg;unfold PrA.cells
  by_cases c1:12<s.seen.length
  ·have c1':(12:Int)<(s.seen.length:Int):=by omega
   rw [show eN p l=false by rw [hfe,hi,decide_eq_true c1]; rfl];simp only [simprocAttr,-ZA,↓zU,↓zD,zV,zT,zW,hd,zJ,hg,xQ,c1']
   (repeat refine sd ?_)
   exact .drop (by simp) (by simp [vw])
  have c1':¬ (12:Int)<(s.seen.length:Int):=by omega
  rw [decide_eq_false c1,Bool.false_or] at hi;simp only [simprocAttr,-ZA,↓zU,↓zD,zV,zT,zW,hd,zJ,hg,xQ,c1']
  (repeat refine sd ?_)
  refine⟨k+1,⟨by omega,hi⟩,?_,by omega⟩
  (refine xI.same ?_; simp only [xP,Fr.get,↓reduceIte,reduceIte,Nat.reduceEqDiff,reduceCtorEq,D.int.injEq,D.bool.injEq,D.sl.injEq,and_true,true_and,and_self])
  exact wrap_i64 (by omega)
 have hd:¬ ((k:Int)<(l.length:Int)):=by omega
 rw [List.drop_eq_nil_of_le (by omega),List.any_nil] at hi;rw [hfe,hi];unfold PrA.cells;simp only [simprocAttr,-ZA,↓zU,↓zD,zV,zT,zW,hd,zJ];exact .drop (by simp) (by simp [vw])
end Go.Pd
