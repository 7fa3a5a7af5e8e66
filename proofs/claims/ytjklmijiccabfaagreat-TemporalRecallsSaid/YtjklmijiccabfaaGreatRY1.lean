/- Part Y1. -/
import Derived.Test.YtjklmijiccabfaaGreatRQA
import Derived.Test.YtjklmijiccabfaaGreatRGR
import Derived.Test.YtjklmijiccabfaaGreatRGQ
set_option linter.unusedSectionVars false
set_option linter.unusedVariables false
set_option linter.unusedSimpArgs false
set_option linter.defProp false
set_option maxRecDepth 20000
set_option maxHeartbeats 1000000
namespace Go.Pd
open Go Go.Proofs
open Int renaming reduceToNat -> ZA, reduceLT -> ZB, reduceLE -> ZC, reduceBEq -> ZD, reduceBNe -> ZE
open Nat renaming reduceEqDiff -> ZF, reduceAdd -> ZG, reduceBEq -> ZH, reduceLT -> ZI, reduceLeDiff -> ZJ, reduceMul -> ZK
open Rs Fm Ru Te
namespace Te
def exS : SysA:=⟨1,1,3,[⟨[[0],[1],[2]],[0#64,0#64,1#64]⟩,⟨[[0],[1],[3]],[0#64,0#64,0#64]⟩]⟩
def exB (f:List Nd) (m:Nat):Bool:=decide (reqE exS f=0)&& (List.range 6).all fun i=>lastT exS.rs 1 3 f (i / 3,i % 3)== m.testBit i
theorem ex1 : exB (someA (factA 0)).1 7=true:=by decide +kernel
theorem ex2 : exB (alwaysA (notA (factA 0))).1 56=true:=by decide +kernel
theorem ex3 : exB (nextA (factA 0)) 2=true:=by decide +kernel
theorem ex4 : exB (knowA 0 (someA (factA 0)).1) 4=true:=by decide +kernel
theorem ex5 : exB (prevA (notA (factA 0))) 54=true:=by decide +kernel
theorem ex6 : exB (sinceA trueA (factA 0)) 4=true:=by decide +kernel
theorem ex7 : exB (nextA trueA) 27=true:=by decide +kernel
theorem ex8 : (someA (factA 0)).2=0/\(alwaysA (notA (factA 0))).2=0:=by decide +kernel
end Te
theorem example51 : Runs Tryz.prog 52 [] exS.d:=by
 refine CallT.go_fn mixed Tryz.func52 k52 (by simp) fun hf=>?_
 simp only [ZA,ZB,ZC,ZD,ZE,↓reduceIte,reduceIte,ZF,ZG,ZH,ZI,ZJ,reduceCtorEq,ZK,↓zU,↓zD,zV,zT,zW]
 (repeat refine sd ?_)
 exact .drop (by simp) (by simp [vw,vwL,SysA.d,SysA.cells,exS,runR,RunA.row,rl,rows,us,ui])
theorem holds23 {f:List Nd} {m:Nat} (hm:m<2 ^ 60) (h:exB f m=true):Runs Tryz.prog 31 [.sl 6 (ndR f),.int .i64 (m:Int)] (.bool true):=by
 have hH:=Holds13 exS f
 unfold exB at h
 simp only [Bool.and_eq_true,decide_eq_true_eq] at h
 obtain⟨h0,h1⟩:=h
 have hR:holdsR exS f=tabR 2 3 (lastT exS.rs 1 3 f):=if_neg (by simpa using h0)
 rw [hR,h0] at hH
 generalize lastT exS.rs 1 3 f=φ at h1 hH
 refine CallT.go_fn mixed Tryz.func31 k31 (by simp) fun hf=>?_
 simp only [ZA,ZB,ZC,ZD,ZE,↓reduceIte,reduceIte,ZF,ZG,ZH,ZI,ZJ,reduceCtorEq,ZK,↓zU,↓zD,zV,zT,zW]
 refine .go (cq example51) ?_
 simp only [ZA,ZB,ZC,ZD,ZE,↓reduceIte,reduceIte,ZF,ZG,ZH,ZI,ZJ,reduceCtorEq,ZK,↓zU,↓zD,zV,zT,zW]
 refine .go (CallT.of_runs hH (by simp [D.isPureL,D.isPure,SysA.d,SysA.cells])) ?_
 have g0:=tabR_get (T:=3) (φ:=φ) (show 0<2 by decide)
 have g1:=tabR_get (T:=3) (φ:=φ) (show 1<2 by decide)
 have hq:(((3:Nat):Int) != 3)= false:=rfl
 have hq2:(((2:Nat):Int) != 2)= false:=rfl
 have hl:((2:Nat):Int)= 2:=rfl
 simp only [ZA,ZB,ZC,ZD,ZE,↓reduceIte,reduceIte,ZF,ZG,ZH,ZI,ZJ,reduceCtorEq,ZK,↓zU,↓zD,zV,zT,zW,tabR_len,g0,g1,rbR_len,List.length_map,List.length_range,hq,hq2]
 (repeat refine sd ?_)
 refine wpS_loop (fun i:Nat=>[(7,.int .i64 i),(5,.sl 1 (tabR 2 3 φ)),(1,.int .i64 (m:Int))]) (fun _=>⟨0,[]⟩) (fun i=>i<=6) (fun i=>6-i) 0 (Nat.zero_le _) ?_ ?_
 ·(refine Weak.same ?_; simp [sameF,Fr.get])
 intro i hi
 refine wpS_go mixed ?_
 by_cases h6:i<6
 case neg=>
  have hd:¬ ((i:Int)<6):=by omega
  simp only [ZA,ZB,ZC,ZD,ZE,↓reduceIte,reduceIte,ZF,ZG,ZH,ZI,ZJ,reduceCtorEq,ZK,↓zU,↓zD,zV,zT,zW,hd]
  exact .same
 have hd:((i:Int)<6):=by omega
 have e1:IntKind.i64.wrap ((i:Int).tdiv 3)= ((i / 3:Nat):Int):=by
  rw [Int.tdiv_eq_ediv_of_nonneg (by omega),wrap_i64 (by omega)]; omega
 have e2:((i:Int)).tmod 3=((i % 3:Nat):Int):=by
  rw [Int.tmod_eq_emod_of_nonneg (by omega)]; omega
 have e3:IntKind.u64.wrap (i:Int)= (i:Int):=wrap_u64 (by omega)
 have hb:(bitI .and .i64 (shrI .i64 (m:Int) (i:Int)) 1==1)= m.testBit i:=by
  have:=Nat.div_le_self m (2 ^ i)
  rw [shrNat _ _ (by omega),and1Nat (by omega),bitNat]
 have hφ:=List.all_eq_true.1 h1 i (List.mem_range.2 h6)
 have f1:=tabR_get (T:=3) (φ:=φ) (show i / 3<2 by omega)
 have f2:=rbR_row (i:=i / 3) (φ:=φ) (show i % 3<3 by omega)
 have hne:(φ (i / 3,i % 3) != m.testBit i)= false:=by rw [beq_iff_eq] at hφ; rw [hφ]; simp
 simp only [ZA,ZB,ZC,ZD,ZE,↓reduceIte,reduceIte,ZF,ZG,ZH,ZI,ZJ,reduceCtorEq,ZK,↓zU,↓zD,zV,zT,zW,hd,e1,e2,e3,hb,tabR_len,f1,f2,rbR_len,List.length_map,List.length_range,hne]
 (repeat refine sd ?_)
 refine⟨i+1,by omega,?_,by omega⟩
 (refine Weak.same ?_; simp only [sameF,Fr.get,↓reduceIte,reduceIte,Nat.reduceEqDiff,reduceCtorEq,D.int.injEq,D.bool.injEq,D.sl.injEq,and_true,true_and,and_self])
 exact wrap_up (by omega)
theorem awake6 : Runs Tryz.prog 8 [] (.bool true):=by
 obtain⟨h8,h9⟩:=ex8
 have hS:=Sometime7 (factA 0)
 have hA:=Always9 (notA (factA 0))
 rw [h8] at hS
 rw [h9] at hA
 have q1:=holds23 (by decide) ex1
 have q2:=holds23 (by decide) ex2
 have q3:=holds23 (by decide) ex3
 have q4:=holds23 (by decide) ex4
 have q5:=holds23 (by decide) ex5
 have q6:=holds23 (by decide) ex6
 have q7:=holds23 (by decide) ex7
 have c1:=Fact32 0
 have c2:=Not22 (factA 0)
 have c3:=Next24 (factA 0)
 have c4:=Know33 0 (someA (factA 0)).1
 have c5:=Prev26 (notA (factA 0))
 have c6:=Since27 trueA (factA 0)
 have c7:=Next24 trueA
 generalize nextA (factA 0)= g3 at *
 generalize knowA 0 (someA (factA 0)).1=g4 at *
 generalize prevA (notA (factA 0))= g5 at *
 generalize sinceA trueA (factA 0)= g6 at *
 generalize nextA trueA=g7 at *
 generalize (alwaysA (notA (factA 0))).1=g2 at *
 generalize (someA (factA 0)).1=g1 at *
 generalize notA (factA 0)= gn at *
 have cT:=True81
 generalize factA 0=gf at *
 generalize trueA=gt at *
 refine CallT.go_fn mixed Tryz.func8 k8 (by simp) fun hf=>?_
 simp only [ZA,ZB,ZC,ZD,ZE,↓reduceIte,reduceIte,ZF,ZG,ZH,ZI,ZJ,reduceCtorEq,ZK,↓zU,↓zD,zV,zT,zW]
 refine .go (cq c1) ?_
 simp only [ZA,ZB,ZC,ZD,ZE,↓reduceIte,reduceIte,ZF,ZG,ZH,ZI,ZJ,reduceCtorEq,ZK,↓zU,↓zD,zV,zT,zW]
 refine .go (cr hS) ?_
 simp only [ZA,ZB,ZC,ZD,ZE,↓reduceIte,reduceIte,ZF,ZG,ZH,ZI,ZJ,reduceCtorEq,ZK,↓zU,↓zD,zV,zT,zW]
 refine .go (cr c2) ?_
 simp only [ZA,ZB,ZC,ZD,ZE,↓reduceIte,reduceIte,ZF,ZG,ZH,ZI,ZJ,reduceCtorEq,ZK,↓zU,↓zD,zV,zT,zW]
 refine .go (cr hA) ?_
 simp only [ZA,ZB,ZC,ZD,ZE,↓reduceIte,reduceIte,ZF,ZG,ZH,ZI,ZJ,reduceCtorEq,ZK,↓zU,↓zD,zV,zT,zW]
 refine .go (cr q1) ?_
 simp only [ZA,ZB,ZC,ZD,ZE,↓reduceIte,reduceIte,ZF,ZG,ZH,ZI,ZJ,reduceCtorEq,ZK,↓zU,↓zD,zV,zT,zW]
 refine .go (cr q2) ?_
 simp only [ZA,ZB,ZC,ZD,ZE,↓reduceIte,reduceIte,ZF,ZG,ZH,ZI,ZJ,reduceCtorEq,ZK,↓zU,↓zD,zV,zT,zW]
 refine .go (cr c3) ?_
 simp only [ZA,ZB,ZC,ZD,ZE,↓reduceIte,reduceIte,ZF,ZG,ZH,ZI,ZJ,reduceCtorEq,ZK,↓zU,↓zD,zV,zT,zW]
 refine .go (cr q3) ?_
 simp only [ZA,ZB,ZC,ZD,ZE,↓reduceIte,reduceIte,ZF,ZG,ZH,ZI,ZJ,reduceCtorEq,ZK,↓zU,↓zD,zV,zT,zW]
 refine .go (cr c4) ?_
 simp only [ZA,ZB,ZC,ZD,ZE,↓reduceIte,reduceIte,ZF,ZG,ZH,ZI,ZJ,reduceCtorEq,ZK,↓zU,↓zD,zV,zT,zW]
 refine .go (cr q4) ?_
 simp only [ZA,ZB,ZC,ZD,ZE,↓reduceIte,reduceIte,ZF,ZG,ZH,ZI,ZJ,reduceCtorEq,ZK,↓zU,↓zD,zV,zT,zW]
 refine .go (cr c2) ?_
 simp only [ZA,ZB,ZC,ZD,ZE,↓reduceIte,reduceIte,ZF,ZG,ZH,ZI,ZJ,reduceCtorEq,ZK,↓zU,↓zD,zV,zT,zW]
 refine .go (cr c5) ?_
 simp only [ZA,ZB,ZC,ZD,ZE,↓reduceIte,reduceIte,ZF,ZG,ZH,ZI,ZJ,reduceCtorEq,ZK,↓zU,↓zD,zV,zT,zW]
 refine .go (cr q5) ?_
 simp only [ZA,ZB,ZC,ZD,ZE,↓reduceIte,reduceIte,ZF,ZG,ZH,ZI,ZJ,reduceCtorEq,ZK,↓zU,↓zD,zV,zT,zW]
 refine .go (cq cT) ?_
 simp only [ZA,ZB,ZC,ZD,ZE,↓reduceIte,reduceIte,ZF,ZG,ZH,ZI,ZJ,reduceCtorEq,ZK,↓zU,↓zD,zV,zT,zW]
 refine .go (cr c6) ?_
 simp only [ZA,ZB,ZC,ZD,ZE,↓reduceIte,reduceIte,ZF,ZG,ZH,ZI,ZJ,reduceCtorEq,ZK,↓zU,↓zD,zV,zT,zW]
 refine .go (cr q6) ?_
 simp only [ZA,ZB,ZC,ZD,ZE,↓reduceIte,reduceIte,ZF,ZG,ZH,ZI,ZJ,reduceCtorEq,ZK,↓zU,↓zD,zV,zT,zW]
 refine .go (cq cT) ?_
 simp only [ZA,ZB,ZC,ZD,ZE,↓reduceIte,reduceIte,ZF,ZG,ZH,ZI,ZJ,reduceCtorEq,ZK,↓zU,↓zD,zV,zT,zW]
 refine .go (cr c7) ?_
 simp only [ZA,ZB,ZC,ZD,ZE,↓reduceIte,reduceIte,ZF,ZG,ZH,ZI,ZJ,reduceCtorEq,ZK,↓zU,↓zD,zV,zT,zW]
 refine .go (cr q7) ?_
 simp only [ZA,ZB,ZC,ZD,ZE,↓reduceIte,reduceIte,ZF,ZG,ZH,ZI,ZJ,reduceCtorEq,ZK,↓zU,↓zD,zV,zT,zW]
 exact .same
end Go.Pd
