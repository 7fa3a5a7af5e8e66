/- Part Z2. -/
import Derived.Test.YtjklmijiccabfaaGreatRZ1
set_option linter.unusedSectionVars false
set_option linter.unusedVariables false
set_option linter.unusedSimpArgs false
set_option linter.defProp false
set_option maxRecDepth 20000
set_option maxHeartbeats 1000000
namespace Go.Pd
open Go Go.Proofs
open Rs Fm Ru Te
namespace Te
abbrev impT (t u:Tr):Tr:=.nd 7 0 0 0 t u
abbrev knT (a:Int) (t:Tr):Tr:=.nd 9 a 0 0 t .nil
abbrev nxT (t:Tr):Tr:=.nd 18 0 0 0 t .nil
theorem ok0 {A F:Nat} {p:Nd} (h1:fragN p &&& 3824=0) (h2:agentN p=0) (h3:factN p=0):okN A F p=true:=by
 simp [okN,h1,h2,h3]
section
variable {A F : Nat} {f g : List Nd} {t u : Tr}
theorem is_next (h:Is A F f t) (hl:szT t<200):Is A F (nextA f) (nxT t)/\ szT (nxT t)<=szT t+1:=h.un (x:=⟨18,0,0,0,0,0⟩) rfl rfl (by decide) rfl (ok0 (by decide) (by decide) (by decide)) hl
theorem is_know {a:Nat} (ha:a<A) (hA:A<=4) (h:Is A F f t) (hl:szT t<200):Is A F (knowA a f) (knT a t)/\ szT (knT a t)<=szT t+1:=by
 refine h.un (x:=⟨9,a,0,0,0,0⟩) rfl rfl ?_ rfl ?_ hl
 ·have:a=0\/a=1\/a=2\/a=3:=by omega
  rcases this with rfl | rfl | rfl | rfl <;> decide
 ·have h1:fragN ⟨9,(a:Int),0,0,0,0⟩&&& 3824=0:=show (1:Nat)&&& 3824=0 by decide
  have h2:agentN ⟨9,a,0,0,0,0⟩/ 2 ^ A=0:=by
   have:agentN ⟨9,a,0,0,0,0⟩= 2 ^ a:=rfl
   rw [this]
   exact Nat.div_eq_of_lt (Nat.pow_lt_pow_right (by decide) ha)
  have h3:factN ⟨9,a,0,0,0,0⟩= 0:=rfl
  simp [okN,h1,h2,h3]
theorem is_imp (h:Is A F f t) (h2:Is A F g u) (hl:szT t+szT u<200):Is A F (impA f g) (impT t u)/\ szT (impT t u)<=szT t+szT u+1:=h.bin (x:=⟨7,0,0,0,0,0⟩) h2 rfl rfl (by decide) (ok0 (by decide) (by decide) (by decide)) hl
end
theorem valid_of {s:SysA} {A F T:Nat} {rs:List RunA} (hs:s=⟨A,F,T,rs⟩) (hz:chk s=0) (ok:OkR rs A F T) {f:List Nd} {t:Tr} (h:Is A F f t) (hv:∀ i,i<rs.length->∀ u,u<T->evT rs A T t (i,u)= true):validA s f=true:=by
 refine valid_iff.2 ⟨h.req hs hz ok,?_⟩
 rw [h.e]
 subst hs
 exact hv
section
variable {rs : List RunA} {A T : Nat} {t u : Tr} {p : Nat × Nat}
theorem ev_imp : evT rs A T (impT t u) p=(!evT rs A T t p || evT rs A T u p):=rfl
theorem ev_know {a:Nat}:evT rs A T (knT a t) p=knowP rs T a (evT rs A T t) p:=rfl
theorem ev_next : evT rs A T (nxT t) p=shP T 1 (evT rs A T t) p:=rfl
end
theorem next_at {T:Nat} {x:Tab} {i t:Nat}:shP T 1 x (i,t)= (decide (t+1<T)&& x (i,t+1)):=by
 unfold shP
 have e:(((t:Int))+ 1).toNat=t+1:=by omega
 have e1:decide (0<=(t:Int)+ 1)= true:=decide_eq_true (by omega)
 have e2:decide ((t:Int)+ 1<T)= decide (t+1<T):=decide_eq_decide.2 (by omega)
 simp only [e,e1,e2,Bool.true_and]
theorem know_iff {rs:List RunA} {T a:Nat} {x:Tab} {p:Nat × Nat}:knowP rs T a x p=true ↔ ∀ q ∈ ptl rs T,locA rs a q=locA rs a p->x q=true:=by
 unfold knowP
 simp only [List.all_eq_true,Bool.or_eq_true,Bool.not_eq_true',decide_eq_false_iff_not]
 constructor
 ·intro h q hq e; exact(h q hq).resolve_left (fun n=>n e)
 ·intro h q hq
  by_cases e:locA rs a q=locA rs a p
  ·exact .inr (h q hq e)
  ·exact .inl e
end Te
end Go.Pd

/- Part Z3. -/
set_option linter.unusedSectionVars false
set_option linter.unusedVariables false
set_option linter.unusedSimpArgs false
set_option linter.defProp false
set_option maxRecDepth 20000
set_option maxHeartbeats 1000000
namespace Go.Pd
open Go Go.Proofs
open Int renaming reduceToNat -> ZA, reduceLT -> ZB, reduceLE -> ZC, reduceBEq -> ZD, reduceBNe -> ZE
open Nat renaming reduceEqDiff -> ZF, reduceAdd -> ZG, reduceBEq -> ZH, reduceLT -> ZI, reduceLeDiff -> ZJ, reduceMul -> ZK
open Rs Fm Ru Te
theorem Imp11 (f g:List Nd):Runs Tryz.prog 11 [.sl 6 (ndR f),.sl 6 (ndR g)] (.sl 6 (ndR (impA f g))):=by
 refine CallT.go_fn mixed Tryz.func11 k11 (by simp) fun hf=>?_
 simp only [ZA,ZB,ZC,ZD,ZE,↓reduceIte,reduceIte,ZF,ZG,ZH,ZI,ZJ,reduceCtorEq,ZK,↓zU,↓zD,zV,zT,zW]
 (repeat refine sd ?_)
 refine .go (CallT.of_runs (build58 ⟨7,0,0,0,0,0⟩ [f,g] (by simp)) (by simp [D.isPureL,D.isPure,Nd.row,nl])) ?_
 simp only [ZA,ZB,ZC,ZD,ZE,↓reduceIte,reduceIte,ZF,ZG,ZH,ZI,ZJ,reduceCtorEq,ZK,↓zU,↓zD,zV,zT,zW]
 exact .same
theorem valid10 (s:SysA) (f:List Nd):Runs Tryz.prog 10 [s.d,.sl 6 (ndR f)] (.bool (validA s f)):=by
 have hD:s.d = .agg [.int .i64 s.ag,.int .i64 s.fa,.int .i64 s.ln,.sl 2 (runR s.rs)]:=rfl
 have h:=Valid15 s f
 cases hv:validA s f with
 | false=>
  rw [hv] at h
  rw [hD] at h ⊢
  refine CallT.go_fn mixed Tryz.func10 k10 (by simp) fun hf=>?_
  simp only [ZA,ZB,ZC,ZD,ZE,↓reduceIte,reduceIte,ZF,ZG,ZH,ZI,ZJ,reduceCtorEq,ZK,↓zU,↓zD,zV,zT,zW]
  (repeat refine sd ?_)
  refine .go (cq h) ?_
  simp only [ZA,ZB,ZC,ZD,ZE,↓reduceIte,reduceIte,ZF,ZG,ZH,ZI,ZJ,reduceCtorEq,ZK,↓zU,↓zD,zV,zT,zW]
  exact .drop (by simp) (by simp [vw])
 | true=>
  rw [hv,(valid_iff.1 hv).1] at h
  rw [hD] at h ⊢
  refine CallT.go_fn mixed Tryz.func10 k10 (by simp) fun hf=>?_
  simp only [ZA,ZB,ZC,ZD,ZE,↓reduceIte,reduceIte,ZF,ZG,ZH,ZI,ZJ,reduceCtorEq,ZK,↓zU,↓zD,zV,zT,zW]
  (repeat refine sd ?_)
  refine .go (cq h) ?_
  simp only [ZA,ZB,ZC,ZD,ZE,↓reduceIte,reduceIte,ZF,ZG,ZH,ZI,ZJ,reduceCtorEq,ZK,↓zU,↓zD,zV,zT,zW]
  exact .drop (by simp) (by simp [vw])
namespace Te
def twoA (s:SysA) (f g:List Nd):Bool:=fewA s&&(decide (chk s=0)&& (decide ((f.length:Int)<=20)&& (decide ((g.length:Int)<=20)&& (decide (reqE s f=0)&& decide (reqE s g=0)))))
theorem two_iff {s:SysA} {f g:List Nd} (h:twoA s f g=true):∃ (A F T:Nat) (rs:List RunA),s=⟨A,F,T,rs⟩/\ chk s=0/\OkR rs A F T/\f.length<=20/\g.length<=20/\reqE s f=0/\reqE s g=0:=by
 unfold twoA at h
 simp only [Bool.and_eq_true,decide_eq_true_eq] at h
 obtain⟨_,h2,h3,h4,h5,h6⟩:=h
 obtain⟨A,F,T,rs,hs,ok⟩:=chk_sys h2
 exact⟨A,F,T,rs,hs,h2,ok,by omega,by omega,h5,h6⟩
end Te
theorem two7 (s:SysA) (f g:List Nd):Runs Tryz.prog 7 [s.d,.sl 6 (ndR f),.sl 6 (ndR g)] (.bool (twoA s f g)):=by
 have hD:s.d = .agg [.int .i64 s.ag,.int .i64 s.fa,.int .i64 s.ln,.sl 2 (runR s.rs)]:=rfl
 have h0:=Few12 s
 have h1:=Check31 s
 have h2:=refHolds14 s f
 have h3:=refHolds14 s g
 rw [holdsL_eq] at h2 h3
 unfold twoA
 generalize holdsL s f=lf at h2
 generalize holdsL s g=lg at h3
 generalize reqE s f=ef at h2
 generalize reqE s g=eg at h3
 generalize fewA s=b at h0
 generalize chk s=c at h1
 rw [hD] at h0 h1 h2 h3 ⊢
 cases b with
 | false=>
  refine CallT.go_fn mixed Tryz.func7 k7 (by simp) fun hf=>?_
  simp only [ZA,ZB,ZC,ZD,ZE,↓reduceIte,reduceIte,ZF,ZG,ZH,ZI,ZJ,reduceCtorEq,ZK,↓zU,↓zD,zV,zT,zW]
  (repeat refine sd ?_)
  refine .go (cq h0) ?_
  simp only [ZA,ZB,ZC,ZD,ZE,↓reduceIte,reduceIte,ZF,ZG,ZH,ZI,ZJ,reduceCtorEq,ZK,↓zU,↓zD,zV,zT,zW]
  exact .drop (by simp) (by simp [vw])
 | true=>
  rw [Bool.true_and]
  by_cases hc:c=0
  case neg=>
   have e:(c != 0)= true:=by simpa using hc
   rw [decide_eq_false hc,Bool.false_and]
   refine CallT.go_fn mixed Tryz.func7 k7 (by simp) fun hf=>?_
   simp only [ZA,ZB,ZC,ZD,ZE,↓reduceIte,reduceIte,ZF,ZG,ZH,ZI,ZJ,reduceCtorEq,ZK,↓zU,↓zD,zV,zT,zW]
   (repeat refine sd ?_)
   refine .go (cq h0) ?_
   simp only [ZA,ZB,ZC,ZD,ZE,↓reduceIte,reduceIte,ZF,ZG,ZH,ZI,ZJ,reduceCtorEq,ZK,↓zU,↓zD,zV,zT,zW]
   refine .go (cq h1) ?_
   simp only [ZA,ZB,ZC,ZD,ZE,↓reduceIte,reduceIte,ZF,ZG,ZH,ZI,ZJ,reduceCtorEq,ZK,↓zU,↓zD,zV,zT,zW,e]
   exact .drop (by simp) (by simp [vw])
  subst hc
  rw [decide_eq_true rfl,Bool.true_and]
  by_cases hf:(f.length:Int)<=20
  case neg=>
   have e:((20:Int)<(f.length:Int)):=by omega
   rw [decide_eq_false hf,Bool.false_and]
   refine CallT.go_fn mixed Tryz.func7 k7 (by simp) fun hf=>?_
   simp only [ZA,ZB,ZC,ZD,ZE,↓reduceIte,reduceIte,ZF,ZG,ZH,ZI,ZJ,reduceCtorEq,ZK,↓zU,↓zD,zV,zT,zW]
   (repeat refine sd ?_)
   refine .go (cq h0) ?_
   simp only [ZA,ZB,ZC,ZD,ZE,↓reduceIte,reduceIte,ZF,ZG,ZH,ZI,ZJ,reduceCtorEq,ZK,↓zU,↓zD,zV,zT,zW]
   refine .go (cq h1) ?_
   simp only [ZA,ZB,ZC,ZD,ZE,↓reduceIte,reduceIte,ZF,ZG,ZH,ZI,ZJ,reduceCtorEq,ZK,↓zU,↓zD,zV,zT,zW,ndR_len,e]
   exact .drop (by simp) (by simp [vw])
  have ef':¬ ((20:Int)<(f.length:Int)):=by omega
  rw [decide_eq_true hf,Bool.true_and]
  by_cases hg:(g.length:Int)<=20
  case neg=>
   have e:((20:Int)<(g.length:Int)):=by omega
   rw [decide_eq_false hg,Bool.false_and]
   refine CallT.go_fn mixed Tryz.func7 k7 (by simp) fun hf=>?_
   simp only [ZA,ZB,ZC,ZD,ZE,↓reduceIte,reduceIte,ZF,ZG,ZH,ZI,ZJ,reduceCtorEq,ZK,↓zU,↓zD,zV,zT,zW]
   (repeat refine sd ?_)
   refine .go (cq h0) ?_
   simp only [ZA,ZB,ZC,ZD,ZE,↓reduceIte,reduceIte,ZF,ZG,ZH,ZI,ZJ,reduceCtorEq,ZK,↓zU,↓zD,zV,zT,zW]
   refine .go (cq h1) ?_
   simp only [ZA,ZB,ZC,ZD,ZE,↓reduceIte,reduceIte,ZF,ZG,ZH,ZI,ZJ,reduceCtorEq,ZK,↓zU,↓zD,zV,zT,zW,ndR_len,ef',e]
   exact .drop (by simp) (by simp [vw])
  have eg':¬ ((20:Int)<(g.length:Int)):=by omega
  rw [decide_eq_true hg,Bool.true_and]
  refine CallT.go_fn mixed Tryz.func7 k7 (by simp) fun hf=>?_
  simp only [ZA,ZB,ZC,ZD,ZE,↓reduceIte,reduceIte,ZF,ZG,ZH,ZI,ZJ,reduceCtorEq,ZK,↓zU,↓zD,zV,zT,zW]
  (repeat refine sd ?_)
  refine .go (cq h0) ?_
  simp only [ZA,ZB,ZC,ZD,ZE,↓reduceIte,reduceIte,ZF,ZG,ZH,ZI,ZJ,reduceCtorEq,ZK,↓zU,↓zD,zV,zT,zW]
  refine .go (cq h1) ?_
  simp only [ZA,ZB,ZC,ZD,ZE,↓reduceIte,reduceIte,ZF,ZG,ZH,ZI,ZJ,reduceCtorEq,ZK,↓zU,↓zD,zV,zT,zW,ndR_len,ef',eg']
  (repeat refine sd ?_)
  refine .go (cr h2) ?_
  simp only [ZA,ZB,ZC,ZD,ZE,↓reduceIte,reduceIte,ZF,ZG,ZH,ZI,ZJ,reduceCtorEq,ZK,↓zU,↓zD,zV,zT,zW]
  (repeat refine sd ?_)
  refine .go (cr h3) ?_
  by_cases hef:ef=0
  ·subst hef
   rw [decide_eq_true rfl,Bool.true_and]
   by_cases heg:eg=0
   ·subst heg
    simp only [ZA,ZB,ZC,ZD,ZE,↓reduceIte,reduceIte,ZF,ZG,ZH,ZI,ZJ,reduceCtorEq,ZK,↓zU,↓zD,zV,zT,zW]
    exact .drop (by simp) (by simp [vw])
   ·have e:(eg==0)= false:=by simpa using heg
    rw [decide_eq_false heg]
    simp only [ZA,ZB,ZC,ZD,ZE,↓reduceIte,reduceIte,ZF,ZG,ZH,ZI,ZJ,reduceCtorEq,ZK,↓zU,↓zD,zV,zT,zW,e]
    exact .drop (by simp) (by simp [vw])
  ·have e:(ef==0)= false:=by simpa using hef
   rw [decide_eq_false hef,Bool.false_and]
   simp only [ZA,ZB,ZC,ZD,ZE,↓reduceIte,reduceIte,ZF,ZG,ZH,ZI,ZJ,reduceCtorEq,ZK,↓zU,↓zD,zV,zT,zW,e]
   exact .drop (by simp) (by simp [vw])
end Go.Pd
