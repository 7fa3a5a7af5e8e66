/- Part Z6. -/
import Derived.Test.YtjklmijiccabfaaGreatRSP
import Derived.Test.YtjklmijiccabfaaGreatRZ2
import Derived.Test.YtjklmijiccabfaaGreatRY1
set_option linter.unusedSectionVars false
set_option linter.unusedVariables false
set_option linter.unusedSimpArgs false
set_option linter.defProp false
set_option maxRecDepth 20000
set_option maxHeartbeats 1000000
namespace Go.Pd
open Go Go.Proofs
open Int renaming reduceToNat -> ZA, reduceLT -> ZB, reduceLE -> ZC, reduceBEq -> ZD, reduceBNe -> ZE
open Nat renaming reduceEqDiff -> ZF, reduceAdd -> ZG, reduceBEq -> ZH, reduceLT -> ZI, reduceLeDiff -> ZJ, reduceMul -> ZK
open Rs Fm Ru Te
namespace Ru
theorem hT_all {f:Nat->Int}:∀ {k:Nat},(∀ u,0<u->u<k->f u≠f (u-1))->hT f k=(List.range k).map f
 | 0,_=>rfl
 | k+1,h=>by
  rw [hT,if_neg (fun e=>h k e.1 (by omega) e.2),hT_all fun u h1 h2=>h u h1 (by omega),List.range_succ,List.map_append]
  rfl
theorem past_loc {rs:List RunA} {A F T:Nat} (ok:OkR rs A F T) (hs:syncB ⟨A,F,T,rs⟩= true) (hr:recB rs A (ptN T (rs.length*T))= true) {a t i w:Nat} (ha:a<A) (h1:1<=t) (h2:t<T) (hi:i<rs.length) (hw:w<rs.length)
  (e:locA rs a (i,t)= locA rs a (w,t)):locA rs a (i,t-1)= locA rs a (w,t-1):=by
 have hh:=recB_use hr ha (p:=(i,t)) (q:=(w,t)) ⟨hi,h2⟩ ⟨hw,h2⟩ e
 have hn:∀ r,r<rs.length->∀ u,0<u->u<t+1->locA rs a (r,u)≠ locA rs a (r,u-1):=fun r hr2 u hu0 hu=>syncB_use ok hs ha (p:=(r,u)) (q:=(r,u-1)) ⟨hr2,by simp only; omega⟩ ⟨hr2,by simp only; omega⟩ (by simp only; omega)
 rw [his_hT,his_hT,hT_all (hn i hi),hT_all (hn w hw)] at hh
 have:=congrArg (fun l=>l.getD (t-1) 0) hh
 simpa [List.getD,show t-1<t+1 by omega] using this
end Ru
namespace Te
theorem recalls_law {A F T:Nat} {rs:List RunA} (ok:OkR rs A F T) (hsy:syncB ⟨A,F,T,rs⟩= true) (hre:recB rs A (ptN T (rs.length*T))= true) {f:List Nd} {x:Tr} (I:Is A F f x) (hsz:szT x<=20) {a:Nat} (ha:a<A) :
  validA ⟨A,F,T,rs⟩ (impA (knowA a (nextA f)) (nextA (knowA a f)))= true:=by
 have hA:=ok.hA
 have hT:=ok.hT.1
 obtain⟨I1,z1⟩:=is_next I (by omega)
 obtain⟨I2,z2⟩:=is_know ha hA I1 (by omega)
 obtain⟨I3,z3⟩:=is_know ha hA I (by omega)
 obtain⟨I4,z4⟩:=is_next I3 (by omega)
 obtain⟨I5,z5⟩:=is_imp I2 I4 (by omega)
 refine valid_of rfl (okR_chk ok) ok I5 fun i hi u hu=>?_
 rw [ev_imp,ev_know,ev_next]
 cases h:knowP rs T a (evT rs A T (nxT x)) (i,u) with
 | false=>rfl
 | true=>
  have k:=know_iff.1 h
  have h0:=k (i,u) (mem_ptl hT hi hu) rfl
  rw [ev_next,next_at,Bool.and_eq_true,decide_eq_true_eq] at h0
  have hk:evT rs A T (knT a x) (i,u+1)= true:=by
   rw [ev_know,know_iff]
   intro q hq e
   obtain⟨j,v⟩:=q
   obtain⟨hj,hv⟩:=ptl_in hT hq
   simp only at hj hv
   have hvu:v=u+1:=by
    refine Decidable.byContradiction fun n=>?_
    exact syncB_use ok hsy ha (p:=(j,v)) (q:=(i,u+1)) ⟨hj,hv⟩ ⟨hi,h0.1⟩ n e
   subst hvu
   have e2:=past_loc ok hsy hre ha (t:=u+1) (i:=j) (w:=i) (by omega) h0.1 hj hi e
   rw [Nat.add_sub_cancel] at e2
   have h1:=k (j,u) (mem_ptl hT hj hu) e2
   rw [ev_next,next_at,Bool.and_eq_true] at h1
   exact h1.2
  rw [next_at,hk,decide_eq_true h0.1]
  rfl
end Te
theorem recalls6 (s:SysA) (f:List Nd):Runs Tryz.prog 6 [s.d,.sl 6 (ndR f)] (.bool true):=by
 have h0:=two7 s f f
 cases hb:twoA s f f with
 | false=>
  have hD:s.d = .agg [.int .i64 s.ag,.int .i64 s.fa,.int .i64 s.ln,.sl 2 (runR s.rs)]:=rfl
  rw [hb] at h0
  rw [hD] at h0 ⊢
  refine CallT.go_fn mixed Tryz.func6 k6 (by simp) fun hf=>?_
  simp only [ZA,ZB,ZC,ZD,ZE,↓reduceIte,reduceIte,ZF,ZG,ZH,ZI,ZJ,reduceCtorEq,ZK,↓zU,↓zD,zV,zT,zW]
  (repeat refine sd ?_)
  refine .go (cq h0) ?_
  simp only [ZA,ZB,ZC,ZD,ZE,↓reduceIte,reduceIte,ZF,ZG,ZH,ZI,ZJ,reduceCtorEq,ZK,↓zU,↓zD,zV,zT,zW]
  refine .go (cq awake6) ?_
  simp only [ZA,ZB,ZC,ZD,ZE,↓reduceIte,reduceIte,ZF,ZG,ZH,ZI,ZJ,reduceCtorEq,ZK,↓zU,↓zD,zV,zT,zW]
  exact .drop (by simp) (by simp [vw])
 | true=>
  rw [hb] at h0
  obtain⟨A,F,T,rs,rfl,hz,ok,hl,_,hr,_⟩:=two_iff hb
  have hA:=ok.hA
  have I:=Is.start rfl hz ok hr
  have hsz:szT (treeF f)<=20:=Nat.le_trans (sz_le I.c) hl
  generalize treeF f=x at I hsz
  have hc:=clock16 ok
  have okc:=renN_ok (kf:=clockK rs) ok
  have lc:=renN_len rs A T (clockK rs)
  have hcs:syncB ⟨A,F,T,renN rs A T (clockK rs)⟩= true:=syncB_true okc fun a p q ha hp hq e=>clock_sync ha (by rw [lc] at hp; exact hp) (by rw [lc] at hq; exact hq) e
  generalize renN rs A T (clockK rs)= c at hc okc lc hcs
  have hb:=remember18 okc
  have okb:=renN_ok (kf:=hisA c) okc
  have lb:=renN_len c A T (hisA c)
  have hbs:syncB ⟨A,F,T,renN c A T (hisA c)⟩= true:=syncB_true okb fun a p q ha hp hq e h=>syncB_use okc hcs ha (by rw [lb] at hp; exact hp) (by rw [lb] at hq; exact hq) e (rem_finer ha (by rw [lb] at hp; exact hp) (by rw [lb] at hq; exact hq) h)
  have hbr:recB (renN c A T (hisA c)) A (ptN T ((renN c A T (hisA c)).length*T))= true:=recB_true ok.hT.1 fun a p q ha hp hq e=>rem_recalls ha (by rw [lb] at hp; exact hp) (by rw [lb] at hq; exact hq) e
  generalize renN c A T (hisA c)= b at hb okb lb hbs hbr
  have q1:=sync25 ⟨A,F,T,b⟩
  have q2:=recalls26 okb
  rw [hbs] at q1
  rw [hbr] at q2
  have vb:=fun a ha=>recalls_law okb hbs hbr I hsz (a:=a) ha
  have vs:=fun h1 h2 a ha=>recalls_law ok h1 h2 I hsz (a:=a) ha
  have p1:=sync25 ⟨A,F,T,rs⟩
  have p2:=recalls26 ok
  have cb:=fun a:Nat=>valid10 ⟨A,F,T,b⟩ (impA (knowA a (nextA f)) (nextA (knowA a f)))
  have cs:=fun a:Nat=>valid10 ⟨A,F,T,rs⟩ (impA (knowA a (nextA f)) (nextA (knowA a f)))
  have b1:=Next24 f
  have b2:=fun a:Nat=>Know33 a (nextA f)
  have b3:=fun a:Nat=>Know33 a f
  have b4:=fun a:Nat=>Next24 (knowA a f)
  have b5:=fun a:Nat=>Imp11 (knowA a (nextA f)) (nextA (knowA a f))
  have hDD:∀ rs:List RunA,SysA.d ⟨A,F,T,rs⟩= .agg [.int .i64 (A:Int),.int .i64 (F:Int),.int .i64 (T:Int),.sl 2 (runR rs)]:=fun _=>rfl
  rw [hDD] at h0 q1 p1 ⊢
  simp only [hDD] at cb cs
  clear hDD
  unfold sD at hc hb q2 p2
  refine CallT.go_fn mixed Tryz.func6 k6 (by simp) fun hf=>?_
  simp only [ZA,ZB,ZC,ZD,ZE,↓reduceIte,reduceIte,ZF,ZG,ZH,ZI,ZJ,reduceCtorEq,ZK,↓zU,↓zD,zV,zT,zW]
  (repeat refine sd ?_)
  refine .go (cq h0) ?_
  simp only [ZA,ZB,ZC,ZD,ZE,↓reduceIte,reduceIte,ZF,ZG,ZH,ZI,ZJ,reduceCtorEq,ZK,↓zU,↓zD,zV,zT,zW]
  refine .go (cq hc) ?_
  simp only [ZA,ZB,ZC,ZD,ZE,↓reduceIte,reduceIte,ZF,ZG,ZH,ZI,ZJ,reduceCtorEq,ZK,↓zU,↓zD,zV,zT,zW]
  refine .go (cq hb) ?_
  simp only [ZA,ZB,ZC,ZD,ZE,↓reduceIte,reduceIte,ZF,ZG,ZH,ZI,ZJ,reduceCtorEq,ZK,↓zU,↓zD,zV,zT,zW]
  refine .go (cq q1) ?_
  simp only [ZA,ZB,ZC,ZD,ZE,↓reduceIte,reduceIte,ZF,ZG,ZH,ZI,ZJ,reduceCtorEq,ZK,↓zU,↓zD,zV,zT,zW]
  refine .go (cq q2) ?_
  simp only [ZA,ZB,ZC,ZD,ZE,↓reduceIte,reduceIte,ZF,ZG,ZH,ZI,ZJ,reduceCtorEq,ZK,↓zU,↓zD,zV,zT,zW]
  refine wpS_loop (fun a:Nat=>[(9,.int .i64 a),(7,.ref 2 4 0 0),(2,.ref 0 4 0 0),(1,.sl 6 (ndR f))]) (fun _=>⟨3,[(2,⟨4,[[.int .i64 A,.int .i64 F,.int .i64 T,.sl 2 (runR b)]]⟩),(0,⟨4,[[.int .i64 A,.int .i64 F,.int .i64 T,.sl 2 (runR rs)]]⟩)]⟩)
   (fun a=>a<=A) (fun a=>A-a) 0 (Nat.zero_le _) ?_ ?_
  ·(refine Weak.ren [] [2,0] (by simp) (by simp) (by decide) ?_; simp only [stay1,vwL,vw,vwF,sw,St.get,St.look,Fr.get,↓reduceIte,reduceIte,Nat.reduceEqDiff,Nat.reduceAdd,Nat.reduceBEq,Nat.reduceLT,Nat.reduceLeDiff,exists_eq_left',ne_eq,reduceCtorEq,zR])
  intro a ha
  refine wpS_go mixed ?_
  by_cases hal:a<A
  case neg=>
   have hd:¬ ((a:Int)<(A:Int)):=by omega
   simp only [ZA,ZB,ZC,ZD,ZE,↓reduceIte,reduceIte,ZF,ZG,ZH,ZI,ZJ,reduceCtorEq,ZK,↓zU,↓zD,zV,zT,zW,hd]
   refine .go (cq awake6) ?_
   simp only [ZA,ZB,ZC,ZD,ZE,↓reduceIte,reduceIte,ZF,ZG,ZH,ZI,ZJ,reduceCtorEq,ZK,↓zU,↓zD,zV,zT,zW]
   exact .drop (by simp) (by simp [vw])
  have hd:((a:Int)<(A:Int)):=by omega
  have hd4:((a:Int)<4):=by omega
  have ew:IntKind.i64.wrap ((a:Int)+ 1)= ((a+1:Nat):Int):=by rw [wrap_i64 (by omega)]; rfl
  have v1:=vb a hal
  have c1:=cb a
  have c2:=cs a
  rw [v1] at c1
  have b2:=b2 a
  have b3:=b3 a
  have b4:=b4 a
  have b5:=b5 a
  have vs:=fun h1 h2=>vs h1 h2 a hal
  clear vb cb cs
  simp only [ZA,ZB,ZC,ZD,ZE,↓reduceIte,reduceIte,ZF,ZG,ZH,ZI,ZJ,reduceCtorEq,ZK,↓zU,↓zD,zV,zT,zW,hd,hd4]
  (repeat refine sd ?_)
  refine .go (cr b1) ?_
  simp only [ZA,ZB,ZC,ZD,ZE,↓reduceIte,reduceIte,ZF,ZG,ZH,ZI,ZJ,reduceCtorEq,ZK,↓zU,↓zD,zV,zT,zW]
  refine .go (cr b2) ?_
  simp only [ZA,ZB,ZC,ZD,ZE,↓reduceIte,reduceIte,ZF,ZG,ZH,ZI,ZJ,reduceCtorEq,ZK,↓zU,↓zD,zV,zT,zW]
  refine .go (cr b3) ?_
  simp only [ZA,ZB,ZC,ZD,ZE,↓reduceIte,reduceIte,ZF,ZG,ZH,ZI,ZJ,reduceCtorEq,ZK,↓zU,↓zD,zV,zT,zW]
  refine .go (cr b4) ?_
  simp only [ZA,ZB,ZC,ZD,ZE,↓reduceIte,reduceIte,ZF,ZG,ZH,ZI,ZJ,reduceCtorEq,ZK,↓zU,↓zD,zV,zT,zW]
  refine .go (cr b5) ?_
  simp only [ZA,ZB,ZC,ZD,ZE,↓reduceIte,reduceIte,ZF,ZG,ZH,ZI,ZJ,reduceCtorEq,ZK,↓zU,↓zD,zV,zT,zW]
  refine .go (cr c1) ?_
  simp only [ZA,ZB,ZC,ZD,ZE,↓reduceIte,reduceIte,ZF,ZG,ZH,ZI,ZJ,reduceCtorEq,ZK,↓zU,↓zD,zV,zT,zW]
  refine .go (cq p1) ?_
  by_cases hs:syncB ⟨A,F,T,rs⟩= true
  case neg=>
   rw [Bool.not_eq_true] at hs
   rw [hs]
   simp only [ZA,ZB,ZC,ZD,ZE,↓reduceIte,reduceIte,ZF,ZG,ZH,ZI,ZJ,reduceCtorEq,ZK,↓zU,↓zD,zV,zT,zW]
   (repeat refine sd ?_)
   refine⟨a+1,by omega,?_,by omega⟩
   rw [ew]
   (refine Weak.same ?_; simp [sameF,Fr.get])
  rw [hs]
  simp only [ZA,ZB,ZC,ZD,ZE,↓reduceIte,reduceIte,ZF,ZG,ZH,ZI,ZJ,reduceCtorEq,ZK,↓zU,↓zD,zV,zT,zW]
  refine .go (cq p2) ?_
  by_cases hr:recB rs A (ptN T (rs.length*T))= true
  case neg=>
   rw [Bool.not_eq_true] at hr
   rw [hr]
   simp only [ZA,ZB,ZC,ZD,ZE,↓reduceIte,reduceIte,ZF,ZG,ZH,ZI,ZJ,reduceCtorEq,ZK,↓zU,↓zD,zV,zT,zW]
   (repeat refine sd ?_)
   refine⟨a+1,by omega,?_,by omega⟩
   rw [ew]
   (refine Weak.same ?_; simp [sameF,Fr.get])
  rw [hr]
  rw [vs hs hr] at c2
  simp only [ZA,ZB,ZC,ZD,ZE,↓reduceIte,reduceIte,ZF,ZG,ZH,ZI,ZJ,reduceCtorEq,ZK,↓zU,↓zD,zV,zT,zW]
  refine .go (cr c2) ?_
  simp only [ZA,ZB,ZC,ZD,ZE,↓reduceIte,reduceIte,ZF,ZG,ZH,ZI,ZJ,reduceCtorEq,ZK,↓zU,↓zD,zV,zT,zW]
  (repeat refine sd ?_)
  refine⟨a+1,by omega,?_,by omega⟩
  rw [ew]
  (refine Weak.same ?_; simp [sameF,Fr.get])
end Go.Pd
