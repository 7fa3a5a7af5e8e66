/- Part E5. -/
import Derived.Test.YtjklmijiccabfaaGreatRE4
set_option linter.unusedSectionVars false
set_option linter.unusedVariables false
set_option linter.unusedSimpArgs false
set_option linter.defProp false
set_option maxRecDepth 20000
set_option maxHeartbeats 1000000
namespace Go.Pd
open Go Go.Proofs
open Int renaming reduceToNat -> ZA, reduceLT -> ZB, reduceLE -> ZC, reduceBEq -> ZD, reduceBNe -> ZE
open Nat renaming reduceEqDiff -> ZF, reduceAdd -> ZG, reduceBEq -> ZH, reduceLT -> ZI, reduceLeDiff -> ZJ, reduceMul -> ZK
open Rs Fm Ru Te
namespace Te
variable {rs : List RunA} {A T : Nat}
theorem any_pt (f:Nat × Nat->Bool):((List.range (rs.length*T)).any fun q=>f (pt T q))= (ptl rs T).any f:=by
 unfold ptl ptN
 rw [List.any_map]; rfl
theorem foundK_any (g:Nat) (x:Tab) (s m:Bool) (p:Nat):foundK rs A T g x s m p (rs.length*T)= (ptl rs T).any fun z=>relB rs A g m (pt T p) z&&(x z==s):=any_pt (fun z=>relB rs A g m (pt T p) z&&(x z==s))
theorem relP_pow {a:Nat} (ha:a<A) (p q:Nat × Nat):relP rs A (2 ^ a) p q=decide (locA rs a p=locA rs a q):=by
 unfold relP
 rw [Bool.eq_iff_iff,List.any_eq_true,decide_eq_true_iff]
 constructor
 ·rintro ⟨b,hb,h⟩
  rw [Bool.and_eq_true,decide_eq_true_eq,Nat.testBit_two_pow] at h
  obtain⟨h1,h2⟩:=h
  have:a=b:=by simpa using h1
  subst this; exact h2
 ·intro h
  exact⟨a,List.mem_range.2 ha,by rw [Nat.testBit_two_pow_self,decide_eq_true h]; rfl⟩
theorem any_false {α:Type} {l:List α} {f g:α->Bool} (h:∀ z ∈ l,(!f z)= g z):(l.any f==false)= l.all g:=by
 rw [Bool.eq_iff_iff,beq_iff_eq,List.any_eq_false,List.all_eq_true]
 exact⟨fun hh z hz=>by rw [<- h z hz]; simpa using hh z hz,fun hh z hz=>by have:=hh z hz; rw [<- h z hz] at this; simpa using this⟩
theorem modL_know {a:Nat} (ha:a<A) (x:Tab):modL rs A T (2 ^ a) x false false (rs.length*T) (rs.length*T)= flT T (rs.length*T) (knowP rs T a x):=by
 unfold modL flT
 refine List.map_congr_left fun p _=>?_
 rw [foundK_any]
 unfold knowP
 refine any_false fun z _=>?_
 show (!(relP rs A (2 ^ a) (pt T p) z&&(x z==false)))= _
 rw [relP_pow ha]
 have:decide (locA rs a (pt T p)= locA rs a z)= decide (locA rs a z=locA rs a (pt T p)):=by rw [Bool.eq_iff_iff,decide_eq_true_iff,decide_eq_true_iff]; exact eq_comm
 rw [this]
 cases decide (locA rs a z=locA rs a (pt T p)) <;> cases x z <;> rfl
theorem modL_poss {a:Nat} (ha:a<A) (x:Tab):modL rs A T (2 ^ a) x true false (rs.length*T) (rs.length*T)= flT T (rs.length*T) (fun p=>!knowP rs T a (fun q=>!x q) p):=by
 unfold modL flT
 refine List.map_congr_left fun p _=>?_
 have h:(foundK rs A T (2 ^ a) x true false p (rs.length*T)== false)= knowP rs T a (fun q=>!x q) (pt T p):=by
  rw [foundK_any]
  unfold knowP
  refine any_false fun z _=>?_
  show (!(relP rs A (2 ^ a) (pt T p) z&&(x z==true)))= (!decide (locA rs a z=locA rs a (pt T p)) || !x z)
  rw [relP_pow ha]
  have:decide (locA rs a (pt T p)= locA rs a z)= decide (locA rs a z=locA rs a (pt T p)):=by rw [Bool.eq_iff_iff,decide_eq_true_iff,decide_eq_true_iff]; exact eq_comm
  rw [this]
  cases decide (locA rs a z=locA rs a (pt T p)) <;> cases x z <;> rfl
 show _=!knowP rs T a (fun q=>!x q) (pt T p)
 rw [<- h]
 cases foundK rs A T (2 ^ a) x true false p (rs.length*T) <;> rfl
theorem modL_every (g:Nat) (x:Tab):modL rs A T g x false false (rs.length*T) (rs.length*T)= flT T (rs.length*T) (everyP rs A T g x):=by
 unfold modL flT
 refine List.map_congr_left fun p _=>?_
 rw [foundK_any,Bool.eq_iff_iff,everyP_iff,beq_iff_eq,List.any_eq_false]
 constructor
 ·intro h z hz hr
  have:=h z hz
  rw [show relB rs A g false (pt T p) z=relP rs A g (pt T p) z from rfl,hr] at this
  simpa using this
 ·intro h z hz
  show ¬ (relP rs A g (pt T p) z&&(x z==false))= true
  cases hr:relP rs A g (pt T p) z with
  | false=>simp
  | true=>rw [h z hz hr]; simp
theorem modL_dist (g:Nat) (x:Tab):modL rs A T g x false true (rs.length*T) (rs.length*T)= flT T (rs.length*T) (distP rs A T g x):=by
 unfold modL flT
 refine List.map_congr_left fun p _=>?_
 rw [foundK_any]
 unfold distP
 refine any_false fun z _=>?_
 show (!(togP rs A g (pt T p) z&&(x z==false)))= _
 cases togP rs A g (pt T p) z <;> cases x z <;> rfl
end Te
theorem refNode44 {rs:List RunA} {A F T:Nat} {n:Nd} {x y:Tab} {xd yd:D} (ok:OkR rs A F T) (ho:OpsR n T (rs.length*T) x y xd yd) (hi3:n.op=3->0<=n.i/\n.i<=7) (hn:NodeIn n A) :
  Runs Tryz.prog 50 [sD A F T rs,.agg n.row,xd,yd] (.sl 1 (rbR (flT T (rs.length*T) (nodeP rs A T n x y)))):=by
 have hA4:=ok.hA
 have hpl:=refPlain89 ok ho hi3
 obtain⟨hx,hy,px,py⟩:=ho
 have pax:xd.isPure=true:=by rcases px with rfl | ⟨l,rfl⟩ <;> rfl
 have pay:yd.isPure=true:=by rcases py with rfl | ⟨l,rfl⟩ <;> rfl
 by_cases hop:n.op ∈ opsT
 case neg=>
  rw [nodeP_bool hop]
  simp only [opsT,List.mem_cons,List.not_mem_nil,or_false,not_or] at hop
  obtain⟨h1,h2,h3,h4,h5,h6,h7,h8,h9⟩:=hop
  have c1:(n.op==9)= false:=by simpa using h1
  have c2:(n.op==10)= false:=by simpa using h2
  have c3:(n.op==11)= false:=by simpa using h3
  have c4:(n.op==12)= false:=by simpa using h4
  have c5:(n.op==13)= false:=by simpa using h5
  have c6:(n.op==18)= false:=by simpa using h6
  have c7:(n.op==20)= false:=by simpa using h7
  have c8:(n.op==19)= false:=by simpa using h8
  have c9:(n.op==21)= false:=by simpa using h9
  unfold sD at hpl ⊢
  rw [Nd.row] at hpl ⊢
  refine CallT.go_fn mixed Tryz.func50 k50 (by simp) fun hf=>?_
  simp only [ZA,ZB,ZC,ZD,ZE,↓reduceIte,reduceIte,ZF,ZG,ZH,ZI,ZJ,reduceCtorEq,ZK,↓zU,↓zD,zV,zT,zW,c1,c2,c3,c4,c5,c6,c7,c8,c9]
  (repeat refine sd ?_)
  refine .go (CallT.of_runs hpl (by simp [D.isPureL,D.isPure,pax,pay])) ?_
  simp only [ZA,ZB,ZC,ZD,ZE,↓reduceIte,reduceIte,ZF,ZG,ZH,ZI,ZJ,reduceCtorEq,ZK,↓zU,↓zD,zV,zT,zW]
  exact .drop (by simp) (by simp [vw])
 have hsh:∀ a:Nat,a<A->IntKind.u64.wrap (a:Int)= (a:Int)/\ shlI .i64 1 (a:Int)= ((2 ^ a:Nat):Int):=fun a ha=>⟨wrap_u64 (by omega),shlN (by omega)⟩
 have hpw:∀ a:Nat,a<A->2 ^ a<2 ^ 60:=fun a ha=>Nat.pow_lt_pow_right (by decide) (by omega)
 clear hpl
 unfold sD
 rw [Nd.row]
 have hty:=fun(o:Int) (ho:o=18\/o=20\/o=19\/o=21) (h:o=19\/o=21->yd = .sl 1 (rbR (flT T (rs.length*T) y)))=>time88 (x:=x) (y:=y) ok ho h
 have hm:=fun(g:Nat) (s m:Bool) (hg:g<2 ^ 60)=>modal86 (x:=x) (s:=s) (m:=m) ok hg
 have hc:=fun(g:Nat) (hg:g<2 ^ 60)=>refCommon87 (x:=x) (y:=y) ok hg
 unfold sD at hty hm hc
 generalize hop':n.op=op at hop hx hy
 simp only [opsT,List.mem_cons,List.not_mem_nil,or_false] at hop
 rcases hop with rfl | rfl | rfl | rfl | rfl | rfl | rfl | rfl | rfl
 ·obtain⟨a,ha,hi⟩:=hn.ag (.inl hop')
  have hp:nodeP rs A T n x y=knowP rs T a x:=by unfold nodeP; rw [if_pos hop',hi,Int.toNat_natCast]
  rw [hp,<- modL_know ha,hi,hx rfl]
  obtain⟨s1,s2⟩:=hsh a ha
  refine CallT.go_fn mixed Tryz.func50 k50 (by simp) fun hf=>?_
  simp only [ZA,ZB,ZC,ZD,ZE,↓reduceIte,reduceIte,ZF,ZG,ZH,ZI,ZJ,reduceCtorEq,ZK,↓zU,↓zD,zV,zT,zW,s1,s2]
  (repeat refine sd ?_)
  refine .go (CallT.of_runs (hm _ _ _ (hpw a ha)) (by simp [D.isPureL,D.isPure])) ?_
  simp only [ZA,ZB,ZC,ZD,ZE,↓reduceIte,reduceIte,ZF,ZG,ZH,ZI,ZJ,reduceCtorEq,ZK,↓zU,↓zD,zV,zT,zW]
  exact .drop (by simp) (by simp [vw])
 ·obtain⟨a,ha,hi⟩:=hn.ag (.inr hop')
  have hp:nodeP rs A T n x y=fun p=>!knowP rs T a (fun q=>!x q) p:=by unfold nodeP; rw [hop',hi]; simp
  rw [hp,<- modL_poss ha,hi,hx rfl]
  obtain⟨s1,s2⟩:=hsh a ha
  refine CallT.go_fn mixed Tryz.func50 k50 (by simp) fun hf=>?_
  simp only [ZA,ZB,ZC,ZD,ZE,↓reduceIte,reduceIte,ZF,ZG,ZH,ZI,ZJ,reduceCtorEq,ZK,↓zU,↓zD,zV,zT,zW,s1,s2]
  (repeat refine sd ?_)
  refine .go (CallT.of_runs (hm _ _ _ (hpw a ha)) (by simp [D.isPureL,D.isPure])) ?_
  simp only [ZA,ZB,ZC,ZD,ZE,↓reduceIte,reduceIte,ZF,ZG,ZH,ZI,ZJ,reduceCtorEq,ZK,↓zU,↓zD,zV,zT,zW]
  exact .drop (by simp) (by simp [vw])
 ·obtain⟨g,hg,hi⟩:=hn.gr (.inl hop')
  have hp:nodeP rs A T n x y=everyP rs A T g x:=by unfold nodeP; rw [hop',hi]; simp
  rw [hp,<- modL_every,hi,hx rfl]
  refine CallT.go_fn mixed Tryz.func50 k50 (by simp) fun hf=>?_
  simp only [ZA,ZB,ZC,ZD,ZE,↓reduceIte,reduceIte,ZF,ZG,ZH,ZI,ZJ,reduceCtorEq,ZK,↓zU,↓zD,zV,zT,zW]
  (repeat refine sd ?_)
  refine .go (cr (hm _ _ _ hg)) ?_
  simp only [ZA,ZB,ZC,ZD,ZE,↓reduceIte,reduceIte,ZF,ZG,ZH,ZI,ZJ,reduceCtorEq,ZK,↓zU,↓zD,zV,zT,zW]
  exact .drop (by simp) (by simp [vw])
 ·obtain⟨g,hg,hi⟩:=hn.gr (.inr (.inl hop'))
  have hp:nodeP rs A T n x y=distP rs A T g x:=by unfold nodeP; rw [hop',hi]; simp
  rw [hp,<- modL_dist,hi,hx rfl]
  refine CallT.go_fn mixed Tryz.func50 k50 (by simp) fun hf=>?_
  simp only [ZA,ZB,ZC,ZD,ZE,↓reduceIte,reduceIte,ZF,ZG,ZH,ZI,ZJ,reduceCtorEq,ZK,↓zU,↓zD,zV,zT,zW]
  (repeat refine sd ?_)
  refine .go (cr (hm _ _ _ hg)) ?_
  simp only [ZA,ZB,ZC,ZD,ZE,↓reduceIte,reduceIte,ZF,ZG,ZH,ZI,ZJ,reduceCtorEq,ZK,↓zU,↓zD,zV,zT,zW]
  exact .drop (by simp) (by simp [vw])
 ·obtain⟨g,hg,hi⟩:=hn.gr (.inr (.inr hop'))
  have hp:nodeP rs A T n x y=commonP rs A T g x y:=by unfold nodeP; rw [hop',hi]; simp
  rw [hp,show flT T (rs.length*T) (commonP rs A T g x y)= comL rs A T g x y (rs.length*T) from rfl,hi,hx rfl,hy rfl]
  refine CallT.go_fn mixed Tryz.func50 k50 (by simp) fun hf=>?_
  simp only [ZA,ZB,ZC,ZD,ZE,↓reduceIte,reduceIte,ZF,ZG,ZH,ZI,ZJ,reduceCtorEq,ZK,↓zU,↓zD,zV,zT,zW]
  (repeat refine sd ?_)
  refine .go (cr (hc _ hg)) ?_
  simp only [ZA,ZB,ZC,ZD,ZE,↓reduceIte,reduceIte,ZF,ZG,ZH,ZI,ZJ,reduceCtorEq,ZK,↓zU,↓zD,zV,zT,zW]
  exact .drop (by simp) (by simp [vw])
 ·have hp:nodeP rs A T n x y=timeP T 18 x y:=by unfold nodeP timeP; rw [hop']; simp
  have ht:=hty 18 (.inl rfl) (fun h=>by omega)
  rw [hp,hx rfl]
  refine CallT.go_fn mixed Tryz.func50 k50 (by simp) fun hf=>?_
  simp only [ZA,ZB,ZC,ZD,ZE,↓reduceIte,reduceIte,ZF,ZG,ZH,ZI,ZJ,reduceCtorEq,ZK,↓zU,↓zD,zV,zT,zW]
  (repeat refine sd ?_)
  refine .go (CallT.of_runs ht (by simp [D.isPureL,D.isPure,pay])) ?_
  simp only [ZA,ZB,ZC,ZD,ZE,↓reduceIte,reduceIte,ZF,ZG,ZH,ZI,ZJ,reduceCtorEq,ZK,↓zU,↓zD,zV,zT,zW]
  exact .drop (by simp) (by simp [vw])
 ·have hp:nodeP rs A T n x y=timeP T 20 x y:=by unfold nodeP timeP; rw [hop']; simp
  have ht:=hty 20 (.inr (.inl rfl)) (fun h=>by omega)
  rw [hp,hx rfl]
  refine CallT.go_fn mixed Tryz.func50 k50 (by simp) fun hf=>?_
  simp only [ZA,ZB,ZC,ZD,ZE,↓reduceIte,reduceIte,ZF,ZG,ZH,ZI,ZJ,reduceCtorEq,ZK,↓zU,↓zD,zV,zT,zW]
  (repeat refine sd ?_)
  refine .go (CallT.of_runs ht (by simp [D.isPureL,D.isPure,pay])) ?_
  simp only [ZA,ZB,ZC,ZD,ZE,↓reduceIte,reduceIte,ZF,ZG,ZH,ZI,ZJ,reduceCtorEq,ZK,↓zU,↓zD,zV,zT,zW]
  exact .drop (by simp) (by simp [vw])
 ·have hp:nodeP rs A T n x y=timeP T 19 x y:=by unfold nodeP timeP; rw [hop']; simp
  have ht:=hty 19 (.inr (.inr (.inl rfl))) (fun _=>hy rfl)
  rw [hp,hx rfl]
  refine CallT.go_fn mixed Tryz.func50 k50 (by simp) fun hf=>?_
  simp only [ZA,ZB,ZC,ZD,ZE,↓reduceIte,reduceIte,ZF,ZG,ZH,ZI,ZJ,reduceCtorEq,ZK,↓zU,↓zD,zV,zT,zW]
  (repeat refine sd ?_)
  refine .go (CallT.of_runs ht (by simp [D.isPureL,D.isPure,pay])) ?_
  simp only [ZA,ZB,ZC,ZD,ZE,↓reduceIte,reduceIte,ZF,ZG,ZH,ZI,ZJ,reduceCtorEq,ZK,↓zU,↓zD,zV,zT,zW]
  exact .drop (by simp) (by simp [vw])
 ·have hp:nodeP rs A T n x y=timeP T 21 x y:=by unfold nodeP timeP; rw [hop']; simp
  have ht:=hty 21 (.inr (.inr (.inr rfl))) (fun _=>hy rfl)
  rw [hp,hx rfl]
  refine CallT.go_fn mixed Tryz.func50 k50 (by simp) fun hf=>?_
  simp only [ZA,ZB,ZC,ZD,ZE,↓reduceIte,reduceIte,ZF,ZG,ZH,ZI,ZJ,reduceCtorEq,ZK,↓zU,↓zD,zV,zT,zW]
  (repeat refine sd ?_)
  refine .go (CallT.of_runs ht (by simp [D.isPureL,D.isPure,pay])) ?_
  simp only [ZA,ZB,ZC,ZD,ZE,↓reduceIte,reduceIte,ZF,ZG,ZH,ZI,ZJ,reduceCtorEq,ZK,↓zU,↓zD,zV,zT,zW]
  exact .drop (by simp) (by simp [vw])
end Go.Pd
