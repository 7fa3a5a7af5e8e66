/- Part AY. -/
import Derived.Test.YtndfaefmmcoapaaGreatKaSG
set_option linter.unusedSectionVars false
set_option linter.unusedVariables false
set_option linter.unusedSimpArgs false
set_option linter.defProp false
set_option maxRecDepth 20000
set_option maxHeartbeats 1000000
namespace Go.Pd
open Go Go.Proofs
open Int renaming reduceToNat -> ZA, reduceLT -> ZB, reduceLE -> ZC, reduceBEq -> ZD, reduceBNe -> ZE
open Nat renaming reduceEqDiff -> ZF, reduceAdd -> ZG, reduceBEq -> ZH, reduceLT -> ZI, reduceLeDiff -> ZJ, reduceMul -> ZK
open Rs Fm Ru Te Kb
namespace Kb
instance : DecidableEq ChA := fun a b => decidable_of_iff (a.ag = b.ag /\ a.seen = b.seen /\ a.mv = b.mv) (by cases a; cases b; simp)
def exL : List ChA:=[⟨0,[0#64],-1⟩,⟨0,[1#64],0⟩,⟨0,[0#64,0#64],-1⟩,⟨0,[1#64,1#64],-1⟩,⟨1,[0#64],-1⟩,⟨1,[0#64,0#64],-1⟩,⟨1,[0#64,2#64],-1⟩]
theorem aSg : aYp exP 3=exL:=by
 unfold aYp;rw [if_neg (by rw [aWt]; simp),show (3:Int).toNat-1=2 from rfl,aXe];unfold aN4 oQ;simp only [aJo];decide +kernel
theorem aZe : gR exP exL 3=0:=by decide +kernel
theorem aFa : vB exP exL 2 = [[0#64,0#64,0#64],[1#64,3#64,3#64]]:=by decide +kernel
theorem aCd : aIq exP exL 3=exS:=by
 unfold aIq;rw [if_neg (by rw [aZe]; simp),show (3:Int).toNat=3 from rfl,aFa,aW1];decide +kernel
theorem aCc : aEf exP exL 3=true:=by decide +kernel
theorem oC : rU exP:=⟨by decide,by decide,by decide⟩
theorem aXf : bM exL:=⟨by decide,by decide⟩
theorem aCe : tE exP=0:=by decide +kernel
theorem aO0 : aRr exS:=by unfold aRr; decide
end Kb
open Rs Fm Ru Te Kb
def exD : D:=.agg [.int .i64 2,.sl 1 (us [0#64,1#64]),.sl 1 (us [1#64,2#64]),.sl 1 (mvR [[⟨1,rK 0⟩]]),.sl 1 [[.sl 2 (clR [⟨exT,0⟩])],[.nils]]]
theorem aCf : Nw exD exP.d:=by
 refine Nw.agg rfl fun j hj=>?_
 match j,hj with
 | 0,_=>exact Nw.refl _
 | 1,_=>exact Nw.refl _
 | 2,_=>exact Nw.refl _
 | 3,_=>exact Nw.refl _
 | 4,_=>
  refine Nw.sl rfl (by decide) fun i hi j hj=>?_;have e:j=0:=by omega
  subst e
  match i,hi with
  | 0,_=>exact Nw.refl _
  | 1,_=>exact Nw.nils 2
theorem aOz : yX Tryz.prog 36 [] exD:=by
 have c1:=aCu 0;have c2:=aCs 1 (rK 0);have c3:=aAf (cC 1 (rK 0));have c4:=aAh (rK 0) (aEa (cC 1 (rK 0)));have hD:exD = .agg [.int .i64 2,.sl 1 (us [0#64,1#64]),.sl 1 (us [1#64,2#64]),.sl 1 [[.sl 2 [[.int .i64 1,.sl 6 (ndR (rK 0))]]]],.sl 1 [[.sl 2 [[.sl 6 (ndR (aBa (rK 0) (aEa (cC 1 (rK 0))))),.int .i64 0]]],[.nils]]]:=rfl;rw [hD];generalize aBa (rK 0) (aEa (cC 1 (rK 0)))= g1 at *;generalize aEa (cC 1 (rK 0))= g2 at *;generalize cC 1 (rK 0)= g3 at *;generalize rK 0=g4 at *;refine xX.go_fn mixed Tryz.func36 k36 (by simp) fun hf=>?_;simp only [ZA,ZB,ZC,ZD,ZE,↓reduceIte,ZF,ZG,ZH,ZI,ZJ,reduceCtorEq,ZK,↓zU,↓zD,zV,zT,zW];refine .go (cq c1) ?_;simp only [ZA,ZB,ZC,ZD,ZE,↓reduceIte,ZF,ZG,ZH,ZI,ZJ,reduceCtorEq,ZK,↓zU,↓zD,zV,zT,zW]
 (repeat refine sd ?_)
 refine .go (cr c2) ?_;simp only [ZA,ZB,ZC,ZD,ZE,↓reduceIte,ZF,ZG,ZH,ZI,ZJ,reduceCtorEq,ZK,↓zU,↓zD,zV,zT,zW];refine .go (cr c3) ?_;simp only [ZA,ZB,ZC,ZD,ZE,↓reduceIte,ZF,ZG,ZH,ZI,ZJ,reduceCtorEq,ZK,↓zU,↓zD,zV,zT,zW];refine .go (cr c4) ?_;simp only [ZA,ZB,ZC,ZD,ZE,↓reduceIte,ZF,ZG,ZH,ZI,ZJ,reduceCtorEq,ZK,↓zU,↓zD,zV,zT,zW]
 (repeat refine sd ?_)
 exact .drop (by simp) (by simp [vw,vwL,us,ui])
theorem aFq : yX Tryz.prog 15 [] (.bool true):=by
 have hp:exD.isPure=true:=rfl;have S1:Seen St0 (fun _=>False) exD exP.d:=aCf.seen hp;have hP:yX Tryz.prog 19 [exD,.int .i64 3] (.tup [exS.d,.int .i64 0]):=yX.seen (args':=[exP.d,.int .i64 3]) (by have:=aCr exP oC 3; rwa [aG9,aWt] at this) ⟨S1,Seen.pure rfl,trivial⟩;have hL:yX Tryz.prog 21 [exD,.int .i64 3] (.tup [.sl 3 (chR exL),.int .i64 0]):=yX.seen (args':=[exP.d,.int .i64 3]) (by have:=aS3 exP oC 3; rwa [aSg,aWt] at this) ⟨S1,Seen.pure rfl,trivial⟩;have hG:yX Tryz.prog 25 [exD,.sl 3 (chR exL),.int .i64 3] (.tup [exS.d,.int .i64 0]):=yX.seen (args':=[exP.d,.sl 3 (chR exL),.int .i64 3]) (by have:=aS4 exP oC exL aXf 3; rwa [aCd,aZe] at this) ⟨S1,Seen.pure rfl,Seen.pure rfl,trivial⟩;have hI:yX Tryz.prog 27 [exD,.sl 3 (chR exL),.int .i64 3] (.tup [.bool true,.int .i64 0]):=yX.seen (args':=[exP.d,.sl 3 (chR exL),.int .i64 3]) (by have:=aYc exP oC exL aXf 3; rwa [aCc,aZe] at this) ⟨S1,Seen.pure rfl,Seen.pure rfl,trivial⟩;have hC:yX Tryz.prog 17 [exD] (.int .i64 0):=yX.seen (args':=[exP.d]) (by have:=aZl exP oC; rwa [aCe] at this) ⟨S1,trivial⟩;have hS:yX Tryz.prog 23 [exS.d,exS.d] (.bool true):=by have:=aCq exS exS aO0; simpa using this
 have hE:=aOz;have eL:chR exL = [[.int .i64 0,.sl 1 (us [0#64]),.int .i64 (-1)],[.int .i64 0,.sl 1 (us [1#64]),.int .i64 0],[.int .i64 0,.sl 1 (us [0#64,0#64]),.int .i64 (-1)],[.int .i64 0,.sl 1 (us [1#64,1#64]),.int .i64 (-1)],[.int .i64 1,.sl 1 (us [0#64]),.int .i64 (-1)],[.int .i64 1,.sl 1 (us [0#64,0#64]),.int .i64 (-1)],[.int .i64 1,.sl 1 (us [0#64,2#64]),.int .i64 (-1)]]:=rfl;have eS:exS.d = .agg [.int .i64 2,.int .i64 2,.int .i64 3,.sl 2 [[.sl 1 [[.sl 1 [[.int .i64 0],[.int .i64 0]]],[.sl 1 [[.int .i64 2],[.int .i64 1]]],[.sl 1 [[.int .i64 4],[.int .i64 3]]]],.sl 1 [[.int .u64 0],[.int .u64 0],[.int .u64 0]]],[.sl 1 [[.sl 1 [[.int .i64 1],[.int .i64 0]]],[.sl 1 [[.int .i64 3],[.int .i64 2]]],[.sl 1 [[.int .i64 5],[.int .i64 4]]]],.sl 1 [[.int .u64 1],[.int .u64 3],[.int .u64 3]]]]]:=rfl;rw [eS] at hP hG hS;generalize exD=d at *;generalize hl:chR exL=cl at *;refine xX.go_fn mixed Tryz.func15 k15 (by simp) fun hf=>?_;simp only [ZA,ZB,ZC,ZD,ZE,↓reduceIte,ZF,ZG,ZH,ZI,ZJ,reduceCtorEq,ZK,↓zU,↓zD,zV,zT,zW];refine .go (cq hE) ?_;simp only [ZA,ZB,ZC,ZD,ZE,↓reduceIte,ZF,ZG,ZH,ZI,ZJ,reduceCtorEq,ZK,↓zU,↓zD,zV,zT,zW];refine .go (xX.of_runs hP (by simp [D.isPureL,D.isPure,hp])) ?_;simp only [ZA,ZB,ZC,ZD,ZE,↓reduceIte,ZF,ZG,ZH,ZI,ZJ,reduceCtorEq,ZK,↓zU,↓zD,zV,zT,zW];refine .go (cq hE) ?_;simp only [ZA,ZB,ZC,ZD,ZE,↓reduceIte,ZF,ZG,ZH,ZI,ZJ,reduceCtorEq,ZK,↓zU,↓zD,zV,zT,zW];refine .go (xX.of_runs hL (by simp [D.isPureL,D.isPure,hp])) ?_;simp only [ZA,ZB,ZC,ZD,ZE,↓reduceIte,ZF,ZG,ZH,ZI,ZJ,reduceCtorEq,ZK,↓zU,↓zD,zV,zT,zW];refine .go (cq hE) ?_;simp only [ZA,ZB,ZC,ZD,ZE,↓reduceIte,ZF,ZG,ZH,ZI,ZJ,reduceCtorEq,ZK,↓zU,↓zD,zV,zT,zW];refine .go (xX.of_runs hG (by simp [D.isPureL,D.isPure,hp])) ?_;simp only [ZA,ZB,ZC,ZD,ZE,↓reduceIte,ZF,ZG,ZH,ZI,ZJ,reduceCtorEq,ZK,↓zU,↓zD,zV,zT,zW];refine .go (cq hE) ?_;simp only [ZA,ZB,ZC,ZD,ZE,↓reduceIte,ZF,ZG,ZH,ZI,ZJ,reduceCtorEq,ZK,↓zU,↓zD,zV,zT,zW];refine .go (xX.of_runs hI (by simp [D.isPureL,D.isPure,hp])) ?_;simp only [ZA,ZB,ZC,ZD,ZE,↓reduceIte,ZF,ZG,ZH,ZI,ZJ,reduceCtorEq,ZK,↓zU,↓zD,zV,zT,zW]
 (repeat refine sd ?_)
 refine .go (cr hS) ?_;simp only [ZA,ZB,ZC,ZD,ZE,↓reduceIte,ZF,ZG,ZH,ZI,ZJ,reduceCtorEq,ZK,↓zU,↓zD,zV,zT,zW];refine .go (cr hS) ?_;simp only [ZA,ZB,ZC,ZD,ZE,↓reduceIte,ZF,ZG,ZH,ZI,ZJ,reduceCtorEq,ZK,↓zU,↓zD,zV,zT,zW,eL]
 (repeat refine sd ?_)
 refine .go (cq hE) ?_;simp only [ZA,ZB,ZC,ZD,ZE,↓reduceIte,ZF,ZG,ZH,ZI,ZJ,reduceCtorEq,ZK,↓zU,↓zD,zV,zT,zW];refine .go (xX.of_runs hC (by simp [D.isPureL,D.isPure,hp])) ?_;simp only [ZA,ZB,ZC,ZD,ZE,↓reduceIte,ZF,ZG,ZH,ZI,ZJ,reduceCtorEq,ZK,↓zU,↓zD,zV,zT,zW];exact .drop (by simp) (by simp [vw])
open Rs Fm Ru Te Kb
theorem aCt (p:PrA):yX Tryz.prog 16 [p.d,.nils] (.bool (gQ p [])):=yX.seen (args':=[p.d,.sl 3 (chR [])]) (aAg p []) ⟨Seen.pure rfl,Seen.nil 3,trivial⟩
theorem aSe {p:PrA} {l:List ChA} (h:gQ p l=true):rU p:=by
 obtain⟨h1,h2,h3⟩:=aOy h;exact⟨h1,h2,h3⟩
theorem aFf (p:PrA):yX Tryz.prog 3 [p.d] (.bool true):=by
 have hD:p.d = .agg [.int .i64 p.F,.sl 1 (us p.init),.sl 1 (us p.see),.sl 1 (mvR p.moves),.sl 1 (cdR p.code)]:=rfl;have hF:=aCt p;have hS:=fun h=>aSe (p:=p) (l:=[]) h;have hC:=fun sm=>aZl p sm;have hR:=fun sm=>aTt p sm;have hA:=aFq;rw [hD] at *;generalize gQ p []=b at *;refine xX.go_fn mixed Tryz.func3 k3 (by simp) fun hf=>?_;simp only [ZA,ZB,ZC,ZD,ZE,↓reduceIte,ZF,ZG,ZH,ZI,ZJ,reduceCtorEq,ZK,↓zU,↓zD,zV,zT,zW];refine .go (cq hA) ?_;simp only [ZA,ZB,ZC,ZD,ZE,↓reduceIte,ZF,ZG,ZH,ZI,ZJ,reduceCtorEq,ZK,↓zU,↓zD,zV,zT,zW];refine .go (cq hF) ?_
 cases b with
 | false=>
  simp only [ZA,ZB,ZC,ZD,ZE,↓reduceIte,ZF,ZG,ZH,ZI,ZJ,reduceCtorEq,ZK,↓zU,↓zD,zV,zT,zW];refine .go (cq hA) ?_;simp only [ZA,ZB,ZC,ZD,ZE,↓reduceIte,ZF,ZG,ZH,ZI,ZJ,reduceCtorEq,ZK,↓zU,↓zD,zV,zT,zW];exact .drop (by simp) (by simp [vw])
 | true=>
  simp only [ZA,ZB,ZC,ZD,ZE,↓reduceIte,ZF,ZG,ZH,ZI,ZJ,reduceCtorEq,ZK,↓zU,↓zD,zV,zT,zW];refine .go (xX.of_runs (hC (hS rfl)) rfl) ?_;simp only [ZA,ZB,ZC,ZD,ZE,↓reduceIte,ZF,ZG,ZH,ZI,ZJ,reduceCtorEq,ZK,↓zU,↓zD,zV,zT,zW];refine .go (xX.of_runs (hR (hS rfl)) rfl) ?_;simp only [ZA,ZB,ZC,ZD,ZE,↓reduceIte,ZF,ZG,ZH,ZI,ZJ,reduceCtorEq,ZK,↓zU,↓zD,zV,zT,zW];exact .drop (by simp) (by simp [vw])
end Go.Pd
