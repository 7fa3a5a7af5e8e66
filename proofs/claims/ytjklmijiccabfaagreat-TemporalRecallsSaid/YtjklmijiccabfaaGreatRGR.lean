/- Part GR. -/
import Derived.Test.YtjklmijiccabfaaGreatRG1
set_option linter.unusedSectionVars false
set_option linter.unusedVariables false
set_option linter.unusedSimpArgs false
set_option linter.defProp false
set_option maxRecDepth 20000
set_option maxHeartbeats 1000000
namespace Go.Pd
open Go Go.Proofs
open Int renaming reduceToNat -> ZA, reduceLT -> ZB, reduceLE -> ZC, reduceBEq -> ZD, reduceBNe -> ZE
open Nat renaming reduceEqDiff -> ZF, reduceAdd -> ZG, reduceBEq -> ZH, reduceLT -> ZI, reduceLeDiff -> ZJ, reduceMul -> ZK
section
open Rs Fm
namespace Fm
def notA (f:List Nd):List Nd:=buildA ⟨4,0,0,0,0,0⟩ [f]
def impA (f g:List Nd):List Nd:=buildA ⟨7,0,0,0,0,0⟩ [f,g]
def knowA (a:Int) (f:List Nd):List Nd:=buildA ⟨9,a,0,0,0,0⟩ [f]
def factA (i:Int):List Nd:=buildA ⟨3,i,0,0,0,0⟩ []
def trueA : List Nd:=buildA ⟨1,0,0,0,0,0⟩ []
end Fm
theorem build58n (x:Nd):Runs Tryz.prog 32 [.agg x.row,.nils] (.sl 6 (ndR (buildA x []))):=
 CallT.give (σ:=St0) (objs':=[]) (fun _=>False) (build58 x [] (by simp)) ⟨.pure (by simp [D.isPure,D.isPureL,Nd.row]),.nil 1,trivial⟩ (fun k o hk=>by cases hk)
theorem Not22 (f:List Nd):Runs Tryz.prog 12 [.sl 6 (ndR f)] (.sl 6 (ndR (notA f))):=by
 refine CallT.go_fn mixed Tryz.func12 k12 (by simp) fun hf=>?_
 simp only [ZA,ZB,ZC,ZD,ZE,↓reduceIte,reduceIte,ZF,ZG,ZH,ZI,ZJ,reduceCtorEq,ZK,↓zU,↓zD,zV,zT,zW]
 (repeat refine sd ?_)
 refine .go (CallT.of_runs (build58 ⟨4,0,0,0,0,0⟩ [f] (by simp)) (by simp [D.isPureL,D.isPure,Nd.row,nl])) ?_
 simp only [ZA,ZB,ZC,ZD,ZE,↓reduceIte,reduceIte,ZF,ZG,ZH,ZI,ZJ,reduceCtorEq,ZK,↓zU,↓zD,zV,zT,zW]
 exact .same
theorem Know33 (a:Int) (f:List Nd):Runs Tryz.prog 9 [.int .i64 a,.sl 6 (ndR f)] (.sl 6 (ndR (knowA a f))):=by
 refine CallT.go_fn mixed Tryz.func9 k9 (by simp) fun hf=>?_
 simp only [ZA,ZB,ZC,ZD,ZE,↓reduceIte,reduceIte,ZF,ZG,ZH,ZI,ZJ,reduceCtorEq,ZK,↓zU,↓zD,zV,zT,zW]
 (repeat refine sd ?_)
 refine .go (CallT.of_runs (build58 ⟨9,a,0,0,0,0⟩ [f] (by simp)) (by simp [D.isPureL,D.isPure,Nd.row,nl])) ?_
 simp only [ZA,ZB,ZC,ZD,ZE,↓reduceIte,reduceIte,ZF,ZG,ZH,ZI,ZJ,reduceCtorEq,ZK,↓zU,↓zD,zV,zT,zW]
 exact .same
theorem Fact32 (i:Int):Runs Tryz.prog 30 [.int .i64 i] (.sl 6 (ndR (factA i))):=by
 refine CallT.go_fn mixed Tryz.func30 k30 (by simp) fun hf=>?_
 simp only [ZA,ZB,ZC,ZD,ZE,↓reduceIte,reduceIte,ZF,ZG,ZH,ZI,ZJ,reduceCtorEq,ZK,↓zU,↓zD,zV,zT,zW]
 (repeat refine sd ?_)
 refine .go (CallT.of_runs (build58n ⟨3,i,0,0,0,0⟩) (by simp [D.isPureL,D.isPure,Nd.row])) ?_
 simp only [ZA,ZB,ZC,ZD,ZE,↓reduceIte,reduceIte,ZF,ZG,ZH,ZI,ZJ,reduceCtorEq,ZK,↓zU,↓zD,zV,zT,zW]
 exact .same
theorem True81 : Runs Tryz.prog 15 [] (.sl 6 (ndR trueA)):=by
 refine CallT.go_fn mixed Tryz.func15 k15 (by simp) fun hf=>?_
 simp only [ZA,ZB,ZC,ZD,ZE,↓reduceIte,reduceIte,ZF,ZG,ZH,ZI,ZJ,reduceCtorEq,ZK,↓zU,↓zD,zV,zT,zW]
 (repeat refine sd ?_)
 refine .go (CallT.of_runs (build58n ⟨1,0,0,0,0,0⟩) (by simp [D.isPureL,D.isPure,Nd.row])) ?_
 simp only [ZA,ZB,ZC,ZD,ZE,↓reduceIte,reduceIte,ZF,ZG,ZH,ZI,ZJ,reduceCtorEq,ZK,↓zU,↓zD,zV,zT,zW]
 exact .same
end
section
open Rs Fm
namespace Fm
theorem intsOf6 (a b c d e f:Int):intsOf [.int .i64 a,.int .i64 b,.int .i64 c,.int .i64 d,.int .i64 e,.int .i64 f]=some [a,b,c,d,e,f]:=rfl
end Fm
end
end Go.Pd

/- Part G4. -/
set_option linter.unusedSectionVars false
set_option linter.unusedVariables false
set_option linter.unusedSimpArgs false
set_option linter.defProp false
set_option maxRecDepth 20000
set_option maxHeartbeats 1000000
namespace Go.Pd
open Go Go.Proofs
open Int renaming reduceToNat -> ZA, reduceLT -> ZB, reduceLE -> ZC, reduceBEq -> ZD, reduceBNe -> ZE
open Nat renaming reduceEqDiff -> ZF, reduceAdd -> ZG, reduceBEq -> ZH, reduceLT -> ZI, reduceLeDiff -> ZJ, reduceMul -> ZK
open Rs Fm
namespace Fm
def nextA (f:List Nd):List Nd:=buildA ⟨18,0,0,0,0,0⟩ [f]
def untilA (f g:List Nd):List Nd:=buildA ⟨19,0,0,0,0,0⟩ [f,g]
def prevA (f:List Nd):List Nd:=buildA ⟨20,0,0,0,0,0⟩ [f]
def sinceA (f g:List Nd):List Nd:=buildA ⟨21,0,0,0,0,0⟩ [f,g]
def formE (f:List Nd):List Nd × Int:=if f.length=0 then([],3) else(f,0)
def someA (f:List Nd):List Nd × Int:=formE (untilA trueA f)
def alwaysA (f:List Nd):List Nd × Int:=formE (notA (untilA trueA (notA f)))
end Fm
theorem Next24 (f:List Nd):Runs Tryz.prog 14 [.sl 6 (ndR f)] (.sl 6 (ndR (nextA f))):=by
 refine CallT.go_fn mixed Tryz.func14 k14 (by simp) fun hf=>?_
 simp only [ZA,ZB,ZC,ZD,ZE,↓reduceIte,reduceIte,ZF,ZG,ZH,ZI,ZJ,reduceCtorEq,ZK,↓zU,↓zD,zV,zT,zW]
 (repeat refine sd ?_)
 refine .go (CallT.of_runs (build58 ⟨18,0,0,0,0,0⟩ [f] (by simp)) (by simp [D.isPureL,D.isPure,Nd.row,nl])) ?_
 simp only [ZA,ZB,ZC,ZD,ZE,↓reduceIte,reduceIte,ZF,ZG,ZH,ZI,ZJ,reduceCtorEq,ZK,↓zU,↓zD,zV,zT,zW]
 exact .same
theorem Prev26 (f:List Nd):Runs Tryz.prog 16 [.sl 6 (ndR f)] (.sl 6 (ndR (prevA f))):=by
 refine CallT.go_fn mixed Tryz.func16 k16 (by simp) fun hf=>?_
 simp only [ZA,ZB,ZC,ZD,ZE,↓reduceIte,reduceIte,ZF,ZG,ZH,ZI,ZJ,reduceCtorEq,ZK,↓zU,↓zD,zV,zT,zW]
 (repeat refine sd ?_)
 refine .go (CallT.of_runs (build58 ⟨20,0,0,0,0,0⟩ [f] (by simp)) (by simp [D.isPureL,D.isPure,Nd.row,nl])) ?_
 simp only [ZA,ZB,ZC,ZD,ZE,↓reduceIte,reduceIte,ZF,ZG,ZH,ZI,ZJ,reduceCtorEq,ZK,↓zU,↓zD,zV,zT,zW]
 exact .same
theorem Since27 (f g:List Nd):Runs Tryz.prog 20 [.sl 6 (ndR f),.sl 6 (ndR g)] (.sl 6 (ndR (sinceA f g))):=by
 refine CallT.go_fn mixed Tryz.func20 k20 (by simp) fun hf=>?_
 simp only [ZA,ZB,ZC,ZD,ZE,↓reduceIte,reduceIte,ZF,ZG,ZH,ZI,ZJ,reduceCtorEq,ZK,↓zU,↓zD,zV,zT,zW]
 (repeat refine sd ?_)
 refine .go (CallT.of_runs (build58 ⟨21,0,0,0,0,0⟩ [f,g] (by simp)) (by simp [D.isPureL,D.isPure,Nd.row,nl])) ?_
 simp only [ZA,ZB,ZC,ZD,ZE,↓reduceIte,reduceIte,ZF,ZG,ZH,ZI,ZJ,reduceCtorEq,ZK,↓zU,↓zD,zV,zT,zW]
 exact .same
theorem Until29 (f g:List Nd):Runs Tryz.prog 19 [.sl 6 (ndR f),.sl 6 (ndR g)] (.sl 6 (ndR (untilA f g))):=by
 refine CallT.go_fn mixed Tryz.func19 k19 (by simp) fun hf=>?_
 simp only [ZA,ZB,ZC,ZD,ZE,↓reduceIte,reduceIte,ZF,ZG,ZH,ZI,ZJ,reduceCtorEq,ZK,↓zU,↓zD,zV,zT,zW]
 (repeat refine sd ?_)
 refine .go (CallT.of_runs (build58 ⟨19,0,0,0,0,0⟩ [f,g] (by simp)) (by simp [D.isPureL,D.isPure,Nd.row,nl])) ?_
 simp only [ZA,ZB,ZC,ZD,ZE,↓reduceIte,reduceIte,ZF,ZG,ZH,ZI,ZJ,reduceCtorEq,ZK,↓zU,↓zD,zV,zT,zW]
 exact .same
theorem Sometime7 (f:List Nd):Runs Tryz.prog 22 [.sl 6 (ndR f)] (.tup [.sl 6 (ndR (someA f).1),.int .i64 (someA f).2]):=by
 have h:=Until29 trueA f
 unfold someA
 generalize untilA trueA f=u at h
 refine CallT.go_fn mixed Tryz.func22 k22 (by simp) fun hf=>?_
 simp only [ZA,ZB,ZC,ZD,ZE,↓reduceIte,reduceIte,ZF,ZG,ZH,ZI,ZJ,reduceCtorEq,ZK,↓zU,↓zD,zV,zT,zW]
 (repeat refine sd ?_)
 refine .go (cq True81) ?_
 simp only [ZA,ZB,ZC,ZD,ZE,↓reduceIte,reduceIte,ZF,ZG,ZH,ZI,ZJ,reduceCtorEq,ZK,↓zU,↓zD,zV,zT,zW]
 refine .go (cr h) ?_
 by_cases e:u.length=0
 ·have e':((u.length:Int)== 0)= true:=by rw [e]; rfl
  rw [show formE u=([],3) from if_pos e]
  simp only [ZA,ZB,ZC,ZD,ZE,↓reduceIte,reduceIte,ZF,ZG,ZH,ZI,ZJ,reduceCtorEq,ZK,↓zU,↓zD,zV,zT,zW,ndR_len,e']
  exact .drop (by simp) (by simp [vw,vwL,ndR])
 ·have e':((u.length:Int)== 0)= false:=by rw [beq_eq_false_iff_ne]; omega
  rw [show formE u=(u,0) from if_neg e]
  simp only [ZA,ZB,ZC,ZD,ZE,↓reduceIte,reduceIte,ZF,ZG,ZH,ZI,ZJ,reduceCtorEq,ZK,↓zU,↓zD,zV,zT,zW,ndR_len,e']
  exact .drop (by simp) (by simp [vw,vwL])
theorem Always9 (f:List Nd):Runs Tryz.prog 13 [.sl 6 (ndR f)] (.tup [.sl 6 (ndR (alwaysA f).1),.int .i64 (alwaysA f).2]):=by
 have h0:=Not22 f
 unfold alwaysA
 generalize notA f=n at h0
 have h:=Until29 trueA n
 generalize untilA trueA n=v at h
 have h2:=Not22 v
 generalize notA v=u at h2
 refine CallT.go_fn mixed Tryz.func13 k13 (by simp) fun hf=>?_
 simp only [ZA,ZB,ZC,ZD,ZE,↓reduceIte,reduceIte,ZF,ZG,ZH,ZI,ZJ,reduceCtorEq,ZK,↓zU,↓zD,zV,zT,zW]
 (repeat refine sd ?_)
 refine .go (cq True81) ?_
 simp only [ZA,ZB,ZC,ZD,ZE,↓reduceIte,reduceIte,ZF,ZG,ZH,ZI,ZJ,reduceCtorEq,ZK,↓zU,↓zD,zV,zT,zW]
 refine .go (cr h0) ?_
 simp only [ZA,ZB,ZC,ZD,ZE,↓reduceIte,reduceIte,ZF,ZG,ZH,ZI,ZJ,reduceCtorEq,ZK,↓zU,↓zD,zV,zT,zW]
 refine .go (cr h) ?_
 simp only [ZA,ZB,ZC,ZD,ZE,↓reduceIte,reduceIte,ZF,ZG,ZH,ZI,ZJ,reduceCtorEq,ZK,↓zU,↓zD,zV,zT,zW]
 refine .go (cr h2) ?_
 by_cases e:u.length=0
 ·have e':((u.length:Int)== 0)= true:=by rw [e]; rfl
  rw [show formE u=([],3) from if_pos e]
  simp only [ZA,ZB,ZC,ZD,ZE,↓reduceIte,reduceIte,ZF,ZG,ZH,ZI,ZJ,reduceCtorEq,ZK,↓zU,↓zD,zV,zT,zW,ndR_len,e']
  exact .drop (by simp) (by simp [vw,vwL,ndR])
 ·have e':((u.length:Int)== 0)= false:=by rw [beq_eq_false_iff_ne]; omega
  rw [show formE u=(u,0) from if_neg e]
  simp only [ZA,ZB,ZC,ZD,ZE,↓reduceIte,reduceIte,ZF,ZG,ZH,ZI,ZJ,reduceCtorEq,ZK,↓zU,↓zD,zV,zT,zW,ndR_len,e']
  exact .drop (by simp) (by simp [vw,vwL])
end Go.Pd

/- Part V0. -/
set_option linter.unusedSectionVars false
set_option linter.unusedVariables false
set_option linter.unusedSimpArgs false
set_option linter.defProp false
set_option maxRecDepth 20000
set_option maxHeartbeats 1000000
namespace Go.Pd
open Go Go.Proofs
open Rs Fm
namespace Fm
theorem op_cases (op:Int):op=1\/op=2\/op=3\/op=4\/op=5\/op=6\/op=7\/op=8\/op=9\/op=10\/op=11\/op=12\/op=13\/op=14\/op=15\/op=16\/op=17\/op=18\/op=19\/op=20\/op=21\/op<1\/21<op:=by omega
theorem uses_out {op:Int} (h:op<1\/21<op):usesA op=(none0,false):=if_pos h
theorem uses_x (op:Int):(usesA op).1.x=(decide (4<=op)&& decide (op<=21)):=by
 rcases op_cases op with rfl | rfl | rfl | rfl | rfl | rfl | rfl | rfl | rfl | rfl | rfl | rfl | rfl | rfl | rfl | rfl | rfl | rfl | rfl | rfl | rfl | h | h
 rotate_right 2
 ·rw [uses_out (.inl h),decide_eq_false (by omega)]; rfl
 ·rw [uses_out (.inr h),decide_eq_false (show ¬ op<=21 by omega),Bool.and_false]; rfl
 all_goals rfl
theorem uses_g (op:Int):(usesA op).1.gr=(decide (11<=op)&& decide (op<=13)):=by
 rcases op_cases op with rfl | rfl | rfl | rfl | rfl | rfl | rfl | rfl | rfl | rfl | rfl | rfl | rfl | rfl | rfl | rfl | rfl | rfl | rfl | rfl | rfl | h | h
 rotate_right 2
 ·rw [uses_out (.inl h),decide_eq_false (by omega)]; rfl
 ·rw [uses_out (.inr h),decide_eq_false (show ¬ op<=13 by omega),Bool.and_false]; rfl
 all_goals rfl
theorem uses_fa (op:Int):(op==3)= (usesA op).1.fa:=by
 rcases op_cases op with rfl | rfl | rfl | rfl | rfl | rfl | rfl | rfl | rfl | rfl | rfl | rfl | rfl | rfl | rfl | rfl | rfl | rfl | rfl | rfl | rfl | h | h
 rotate_right 2
 ·rw [uses_out (.inl h)]; simp [none0]; omega
 ·rw [uses_out (.inr h)]; simp [none0]; omega
 all_goals rfl
theorem uses_ev (op:Int):(op==17)= (usesA op).1.ev:=by
 rcases op_cases op with rfl | rfl | rfl | rfl | rfl | rfl | rfl | rfl | rfl | rfl | rfl | rfl | rfl | rfl | rfl | rfl | rfl | rfl | rfl | rfl | rfl | h | h
 rotate_right 2
 ·rw [uses_out (.inl h)]; simp [none0]; omega
 ·rw [uses_out (.inr h)]; simp [none0]; omega
 all_goals rfl
theorem uses_ok {op:Int} (h1:¬ op<1) (h2:¬ 21<op):(usesA op).2=true:=by
 rcases op_cases op with rfl | rfl | rfl | rfl | rfl | rfl | rfl | rfl | rfl | rfl | rfl | rfl | rfl | rfl | rfl | rfl | rfl | rfl | rfl | rfl | rfl | h | h
 rotate_right 2
 ·omega
 ·omega
 all_goals rfl
theorem unionN_zero {m:Nd->Nat}:∀ {l:List Nd},unionN m l=0 ↔ ∀ p ∈ l,m p=0:=by
 intro l
 have key:∀ (l:List Nd) (a:Nat),l.foldl (fun a p=>a ||| m p) a=0 ↔ a=0/\∀ p ∈ l,m p=0:=by
  intro l
  induction l with
  | nil=>simp
  | cons p r ih=>
   intro a
   simp only [List.foldl_cons,ih,List.mem_cons,forall_eq_or_imp]
   rw [Nat.or_eq_zero_iff]
   constructor
   ·rintro ⟨⟨h1,h2⟩,h3⟩; exact⟨h1,h2,h3⟩
   ·rintro ⟨h1,h2,h3⟩; exact⟨⟨h1,h2⟩,h3⟩
 rw [unionN,key]
 simp
end Fm
end Go.Pd
