/- Part E1. -/
import Derived.Test.YtjklmijiccabfaaGreatRQA
set_option linter.unusedSectionVars false
set_option linter.unusedVariables false
set_option linter.unusedSimpArgs false
set_option linter.defProp false
set_option maxRecDepth 20000
set_option maxHeartbeats 1000000
namespace Go.Pd
open Go Go.Proofs
open Int renaming reduceToNat -> ZA, reduceLT -> ZB, reduceLE -> ZC, reduceBEq -> ZD, reduceBNe -> ZE
open Nat renaming reduceEqDiff -> ZF, reduceAdd -> ZG, reduceBEq -> ZH, reduceLT -> ZI, reduceLeDiff -> ZJ, reduceMul -> ZK
open Rs Fm Ru Te
namespace Te
def pt (T p:Nat):Nat × Nat:=(p / T,p % T)
def flT (T n:Nat) (φ:Tab):List Bool:=(List.range n).map fun p=>φ (pt T p)
theorem flT_len (T n:Nat) (φ:Tab):(flT T n φ).length=n:=by simp [flT]
theorem flT_get {T n p:Nat} {φ:Tab} (h:p<n):(rbR (flT T n φ)).getD p [] = [.bool (φ (pt T p))]:=by simp [rbR,flT,List.getD,h]
theorem rbR_at {l:List Bool} {p:Nat} (h:p<l.length):(rbR l).getD p [] = [.bool (l.getD p false)]:=by simp [rbR,List.getD,h]
theorem rbR_snoc (l:List Bool) (b:Bool):rbR l ++ [[.bool b]]=rbR (l ++ [b]):=by simp [rbR]
theorem rbR_nil : rbR [] = []:=rfl
theorem rbR_pure (l:List Bool):∀ e ∈ rbR l,D.isPureL e=true:=by
 intro e he
 simp only [rbR,List.mem_map] at he
 obtain⟨b,_,rfl⟩:=he
 rfl
theorem pureE_rbR (l:List Bool):pureE (rbR l)= True:=eq_true (rbR_pure l)
theorem flT_succ (T n:Nat) (φ:Tab):flT T (n+1) φ=flT T n φ ++ [φ (pt T n)]:=by simp [flT,List.range_succ]
theorem wdiv {p T:Nat} (hp:p<=1000000):IntKind.i64.wrap ((p:Int).tdiv (T:Int))= ((p / T:Nat):Int):=by
 have h:p / T<=p:=Nat.div_le_self _ _
 rw [Int.tdiv_eq_ediv_of_nonneg (by omega),<- Int.natCast_ediv]
 generalize p / T=d at *
 exact wrap_i64 (by omega)
theorem wmod (p T:Nat):((p:Int)).tmod (T:Int)= ((p % T:Nat):Int):=by
 rw [Int.tmod_eq_emod_of_nonneg (by omega),<- Int.natCast_emod]
theorem pt_in {rs:List RunA} {T p:Nat} (hT:1<=T) (h:p<rs.length*T):(pt T p).1<rs.length/\(pt T p).2<T:=
 ⟨(Nat.div_lt_iff_lt_mul (by omega)).2 h,Nat.mod_lt _ (by omega)⟩
def relB (rs:List RunA) (A g:Nat) (m:Bool) (p q:Nat × Nat):Bool:=if m=true then togP rs A g p q else relP rs A g p q
def relK (rs:List RunA) (g:Nat) (m:Bool) (p q:Nat × Nat) (a:Nat):Bool:=(List.range a).all fun b=>!g.testBit b || (decide (locA rs b p=locA rs b q)== m)
theorem relK_succ (rs:List RunA) (g:Nat) (m:Bool) (p q:Nat × Nat) (a:Nat):Te.relK rs g m p q (a+1)= (Te.relK rs g m p q a&&(!g.testBit a || (decide (locA rs a p=locA rs a q)== m))):=by
 unfold Te.relK; rw [List.range_succ,List.all_append,List.all_cons,List.all_nil,Bool.and_true]
theorem relB_end {rs:List RunA} {A g:Nat} {m:Bool} {p q:Nat × Nat} (h:Te.relK rs g m p q A=true):relB rs A g m p q=m:=by
 unfold Te.relK at h
 unfold relB
 cases m with
 | true=>
  rw [if_pos rfl]
  unfold togP
  rw [List.all_eq_true] at h ⊢
  intro a ha
  have:=h a ha
  simpa using this
 | false=>
  rw [if_neg (by simp)]
  unfold relP
  rw [List.all_eq_true] at h
  rw [List.any_eq_false]
  intro a ha
  have:=h a ha
  cases hb:g.testBit a with
  | false=>simp
  | true=>simp [hb] at this; simp [this]
theorem relB_now {rs:List RunA} {A g a:Nat} {m:Bool} {p q:Nat × Nat} (ha:a<A) (hb:g.testBit a=true) (h:decide (locA rs a p=locA rs a q)= !m):relB rs A g m p q=!m:=by
 unfold relB
 cases m with
 | true=>
  rw [if_pos rfl]
  unfold togP
  show _=false
  rw [List.all_eq_false]
  exact⟨a,List.mem_range.2 ha,by rw [hb,h]; simp⟩
 | false=>
  rw [if_neg (by simp)]
  unfold relP
  rw [List.any_eq_true.2 ⟨a,List.mem_range.2 ha,by rw [hb,h]; rfl⟩]
  rfl
end Te
theorem alike124 {rs:List RunA} {A F T a p q:Nat} (ok:OkR rs A F T) (ha:a<A) (hp:p<rs.length*T) (hq:q<rs.length*T) :
  Runs Tryz.prog 134 [sD A F T rs,.int .i64 (a:Int),.int .i64 (p:Int),.int .i64 (q:Int)] (.bool (decide (locA rs a (pt T p)= locA rs a (pt T q)))):=by
 obtain⟨T1,T16⟩:=ok.hT
 have hRT:=ok.hP
 obtain⟨r,x,hr⟩:=locR ok ha (pt_in T1 hp)
 obtain⟨r',x',hr'⟩:=locR ok ha (pt_in T1 hq)
 obtain⟨i1,i2⟩:=pt_in T1 hp
 obtain⟨j1,j2⟩:=pt_in T1 hq
 have u1:=hr.g1; have u2:=hr.l1; have u3:=hr.g2; have u4:=hr.l2; have u5:=hr.g3
 have v1:=hr'.g1; have v2:=hr'.l1; have v3:=hr'.g2; have v4:=hr'.l2; have v5:=hr'.g3
 unfold pt at i1 i2 j1 j2 u1 u3 v1 v3
 simp only at i1 i2 j1 j2 u1 u3 v1 v3
 have w1:=wdiv (T:=T) (show p<=1000000 by omega)
 have w2:=wdiv (T:=T) (show q<=1000000 by omega)
 have w3:=wmod p T
 have w4:=wmod q T
 have hT0:¬ (T:Int)= 0:=by omega
 generalize locA rs a (pt T p)= lp at u5
 generalize locA rs a (pt T q)= lq at v5
 have hb:(lp==lq)= decide (lp=lq):=by rw [Bool.eq_iff_iff,beq_iff_eq,decide_eq_true_iff]
 unfold sD
 refine CallT.go_fn mixed Tryz.func134 k134 (by simp) fun hf=>?_
 simp only [ZA,ZB,ZC,ZD,ZE,↓reduceIte,reduceIte,ZF,ZG,ZH,ZI,ZJ,reduceCtorEq,ZK,↓zU,↓zD,zV,zT,zW,w1,w2,w3,w4,hT0,runR_len,u1,u2,u3,u4,u5,v1,v2,v3,v4,v5,RunA.row,rl_len,rows_len,hb]
 (repeat refine sd ?_)
 exact .drop (by simp) (by simp [vw])
theorem related114 {rs:List RunA} {A F T g p q:Nat} {m:Bool} (ok:OkR rs A F T) (hg:g<2 ^ 60) (hp:p<rs.length*T) (hq:q<rs.length*T) :
  Runs Tryz.prog 94 [sD A F T rs,.int .i64 (g:Int),.int .i64 (p:Int),.int .i64 (q:Int),.bool m] (.bool (relB rs A g m (pt T p) (pt T q))):=by
 have hA4:=ok.hA
 have hal:=fun a (ha:a<A)=>alike124 ok ha hp hq
 unfold sD at hal ⊢
 refine CallT.go_fn mixed Tryz.func94 k94 (by simp) fun hf=>?_
 simp only [ZA,ZB,ZC,ZD,ZE,↓reduceIte,reduceIte,ZF,ZG,ZH,ZI,ZJ,reduceCtorEq,ZK,↓zU,↓zD,zV,zT,zW]
 (repeat refine sd ?_)
 refine wpS_loop (fun a:Nat=>[(11,.int .i64 a),(5,.ref 0 4 0 0),(4,.bool m),(3,.int .i64 q),(2,.int .i64 p),(1,.int .i64 g)]) (fun _=>⟨1,[(0,⟨4,[[.int .i64 (A:Int),.int .i64 (F:Int),.int .i64 (T:Int),.sl 2 (runR rs)]]⟩)]⟩)
  (fun a=>a<=A/\Te.relK rs g m (pt T p) (pt T q) a=true) (fun a=>A-a) 0 ⟨Nat.zero_le _,rfl⟩ ?_ ?_
 ·(refine Weak.same ?_; simp [sameF,Fr.get])
 rintro a ⟨ha,hk⟩
 refine wpS_go mixed ?_
 by_cases hlt:a<A
 case neg=>
  have hd:¬ ((a:Int)<(A:Int)):=by omega
  obtain rfl:a=A:=by omega
  simp only [ZA,ZB,ZC,ZD,ZE,↓reduceIte,reduceIte,ZF,ZG,ZH,ZI,ZJ,reduceCtorEq,ZK,↓zU,↓zD,zV,zT,zW,hd]
  (repeat refine sd ?_)
  exact .drop (by simp) (by simp [vw,relB_end hk])
 have hd:((a:Int)<(A:Int)):=by omega
 have hbit:=grpBit (g:=g) (a:=a) hg (by omega)
 have hw:IntKind.u64.wrap (a:Int)= (a:Int):=wrap_u64 (by omega)
 have hsu:=Te.relK_succ rs g m (pt T p) (pt T q) a
 rw [hk,Bool.true_and] at hsu
 cases hb:g.testBit a with
 | false=>
  rw [hb] at hbit hsu
  simp only [Bool.false_eq_true,if_false] at hbit
  simp only [ZA,ZB,ZC,ZD,ZE,↓reduceIte,reduceIte,ZF,ZG,ZH,ZI,ZJ,reduceCtorEq,ZK,↓zU,↓zD,zV,zT,zW,hd,hw,hbit]
  (repeat refine sd ?_)
  refine⟨a+1,⟨by omega,by rw [hsu]; rfl⟩,?_,by omega⟩
  (refine Weak.same ?_; simp only [sameF,Fr.get,↓reduceIte,reduceIte,Nat.reduceEqDiff,reduceCtorEq,D.int.injEq,D.bool.injEq,D.sl.injEq,and_true,true_and,and_self])
  exact wrap_up (by omega)
 | true=>
  rw [hb] at hbit hsu
  simp only [if_true] at hbit
  have hc:=hal a hlt
  have hnow:=relB_now (rs:=rs) (m:=m) (p:=pt T p) (q:=pt T q) hlt hb
  generalize decide (locA rs a (pt T p)= locA rs a (pt T q))= b at hc hsu hnow
  simp only [ZA,ZB,ZC,ZD,ZE,↓reduceIte,reduceIte,ZF,ZG,ZH,ZI,ZJ,reduceCtorEq,ZK,↓zU,↓zD,zV,zT,zW,hd,hw,hbit]
  (repeat refine sd ?_)
  refine .go (cq hc) ?_
  by_cases hbm:b=m
  ·have e1:(b != m)= false:=by simp [hbm]
   simp only [ZA,ZB,ZC,ZD,ZE,↓reduceIte,reduceIte,ZF,ZG,ZH,ZI,ZJ,reduceCtorEq,ZK,↓zU,↓zD,zV,zT,zW,e1]
   (repeat refine sd ?_)
   refine⟨a+1,⟨by omega,by rw [hsu,hbm]; simp⟩,?_,by omega⟩
   (refine Weak.same ?_; simp only [sameF,Fr.get,↓reduceIte,reduceIte,Nat.reduceEqDiff,reduceCtorEq,D.int.injEq,D.bool.injEq,D.sl.injEq,and_true,true_and,and_self])
   exact wrap_up (by omega)
  ·have e1:(b != m)= true:=by simpa using hbm
   have hnm:b=!m:=by cases b <;> cases m <;> simp_all
   simp only [ZA,ZB,ZC,ZD,ZE,↓reduceIte,reduceIte,ZF,ZG,ZH,ZI,ZJ,reduceCtorEq,ZK,↓zU,↓zD,zV,zT,zW,e1]
   exact .drop (by simp) (by simp [vw,hnow hnm])
def Te.foundK (rs:List RunA) (A T g:Nat) (x:Tab) (s m:Bool) (p:Nat) (k:Nat):Bool:=(List.range k).any fun q=>relB rs A g m (pt T p) (pt T q)&& (x (pt T q)== s)
theorem Te.foundK_succ (rs:List RunA) (A T g:Nat) (x:Tab) (s m:Bool) (p k:Nat):foundK rs A T g x s m p (k+1)= (foundK rs A T g x s m p k || (relB rs A g m (pt T p) (pt T k)&& (x (pt T k)== s))):=by
 unfold foundK; rw [List.range_succ,List.any_append,List.any_cons,List.any_nil,Bool.or_false]
def Te.modL (rs:List RunA) (A T g:Nat) (x:Tab) (s m:Bool) (n k:Nat):List Bool:=(List.range k).map fun p=>foundK rs A T g x s m p n==s
theorem Te.modL_len (rs:List RunA) (A T g:Nat) (x:Tab) (s m:Bool) (n k:Nat):(modL rs A T g x s m n k).length=k:=by simp [modL]
theorem Te.modL_succ (rs:List RunA) (A T g:Nat) (x:Tab) (s m:Bool) (n k:Nat):modL rs A T g x s m n (k+1)= modL rs A T g x s m n k ++ [foundK rs A T g x s m k n==s]:=by simp [modL,List.range_succ]
theorem modal86 {rs:List RunA} {A F T g:Nat} {x:Tab} {s m:Bool} (ok:OkR rs A F T) (hg:g<2 ^ 60) :
  Runs Tryz.prog 71 [sD A F T rs,.int .i64 (g:Int),.sl 1 (rbR (flT T (rs.length*T) x)),.bool s,.bool m] (.sl 1 (rbR (modL rs A T g x s m (rs.length*T) (rs.length*T)))):=by
 have hRT:=ok.hP
 have hrel:=fun p q (hp:p<rs.length*T) (hq:q<rs.length*T)=>related114 (m:=m) ok hg hp hq
 have hfl:=flT_len T (rs.length*T) x
 have hfg:=fun p (hp:p<rs.length*T)=>flT_get (T:=T) (φ:=x) hp
 generalize rs.length*T=N at hRT hrel hfl hfg
 generalize flT T N x=xl at hfl hfg
 unfold sD at hrel ⊢
 refine CallT.go_fn mixed Tryz.func71 k71 (by simp) fun hf=>?_
 simp only [ZA,ZB,ZC,ZD,ZE,↓reduceIte,reduceIte,ZF,ZG,ZH,ZI,ZJ,reduceCtorEq,ZK,↓zU,↓zD,zV,zT,zW]
 (repeat refine sd ?_)
 refine wpS_loop (fun p:Nat=>[(12,.int .i64 p),(11,growD 1 1 (rbR (modL rs A T g x s m N p))),(5,.ref 0 4 0 0),(4,.bool m),(3,.bool s),(2,.sl 1 (rbR xl)),(1,.int .i64 g)]) (fun p=>⟨2,growO 1 1 (rbR (modL rs A T g x s m N p))++ [(0,⟨4,[[.int .i64 (A:Int),.int .i64 (F:Int),.int .i64 (T:Int),.sl 2 (runR rs)]]⟩)]⟩)
  (fun p=>p<=N) (fun p=>N-p) 0 (Nat.zero_le _) ?_ ?_
 ·(refine Weak.ren [] [0] (by simp) (by simp) (by decide) ?_; simp only [stay1,vwL,vw,vwF,sw,St.get,St.look,Fr.get,↓reduceIte,reduceIte,Nat.reduceEqDiff,Nat.reduceAdd,Nat.reduceBEq,Nat.reduceLT,Nat.reduceLeDiff,exists_eq_left',ne_eq,reduceCtorEq,zR,modL,List.range_zero,List.map_nil,rbR_nil,growD_nil,growO_nil,List.nil_append])
 intro p hp
 refine wpS_go mixed ?_
 by_cases hpl:p<N
 case neg=>
  have hd:¬ ((p:Int)<(N:Int)):=by omega
  obtain rfl:p=N:=by omega
  simp only [ZA,ZB,ZC,ZD,ZE,↓reduceIte,reduceIte,ZF,ZG,ZH,ZI,ZJ,reduceCtorEq,ZK,↓zU,↓zD,zV,zT,zW,hd,rbR_len,hfl]
  exact .drop (by simp) (grow_viewL (by decide) (rbR_pure _) (by simp [St.look,look_growO1,look_growO]))
 have hd:((p:Int)<(N:Int)):=by omega
 simp only [ZA,ZB,ZC,ZD,ZE,↓reduceIte,reduceIte,ZF,ZG,ZH,ZI,ZJ,reduceCtorEq,ZK,↓zU,↓zD,zV,zT,zW,hd,rbR_len,hfl]
 refine wpS_loop (fun k:Nat=>[(14,.int .i64 k),(13,.bool (foundK rs A T g x s m p k)),(12,.int .i64 p),(11,growD 1 1 (rbR (modL rs A T g x s m N p))),(5,.ref 0 4 0 0),(4,.bool m),(3,.bool s),(2,.sl 1 (rbR xl)),(1,.int .i64 g)]) (fun _=>⟨2,growO 1 1 (rbR (modL rs A T g x s m N p))++ [(0,⟨4,[[.int .i64 (A:Int),.int .i64 (F:Int),.int .i64 (T:Int),.sl 2 (runR rs)]]⟩)]⟩)
  (fun k=>k<=N) (fun k=>N-k) 0 (Nat.zero_le _) ?_ ?_
 ·(refine Weak.same ?_; simp [sameF,Fr.get,foundK])
 intro k hk
 refine wpS_go mixed ?_
 by_cases hkl:k<N
 case neg=>
  have hd2:¬ ((k:Int)<(N:Int)):=by omega
  obtain rfl:k=N:=by omega
  have hsu:=modL_succ rs A T g x s m k p
  have hln:=modL_len rs A T g x s m k p
  have hw:IntKind.i64.wrap ((p:Int)+ 1)= ((p+1:Nat):Int):=wrap_up (by omega)
  generalize foundK rs A T g x s m p k=b at hsu
  generalize modL rs A T g x s m k p=ml at hsu hln
  simp only [ZA,ZB,ZC,ZD,ZE,↓reduceIte,reduceIte,ZF,ZG,ZH,ZI,ZJ,reduceCtorEq,ZK,↓zU,↓zD,zV,zT,zW,hd2,rbR_len,hfl,hln]
  (repeat refine sd ?_)
  refine⟨p+1,by omega,?_,by omega⟩
  rw [hsu,rbR_snoc]
  (refine Weak.ren [(1,2)] [1,0] (by simp) (by simp) (by decide) ?_; simp only [stay1,vwL,vw,vwF,sw,St.get,St.look,Fr.get,↓reduceIte,reduceIte,Nat.reduceEqDiff,Nat.reduceAdd,Nat.reduceBEq,Nat.reduceLT,Nat.reduceLeDiff,exists_eq_left',ne_eq,reduceCtorEq,zR,pureE_rbR,hw])
 have hd2:((k:Int)<(N:Int)):=by omega
 have hsu:=foundK_succ rs A T g x s m p k
 have hr:=hrel p k hpl hkl
 have hxk:=hfg k hkl
 generalize relB rs A g m (pt T p) (pt T k)= b at hr hsu
 generalize x (pt T k)= xk at hxk hsu
 generalize foundK rs A T g x s m p k=c at hsu
 cases c with
 | true=>
  simp only [ZA,ZB,ZC,ZD,ZE,↓reduceIte,reduceIte,ZF,ZG,ZH,ZI,ZJ,reduceCtorEq,ZK,↓zU,↓zD,zV,zT,zW,hd2,rbR_len,hfl]
  (repeat refine sd ?_)
  refine⟨k+1,by omega,?_,by omega⟩
  (refine Weak.same ?_; simp only [sameF,Fr.get,↓reduceIte,reduceIte,Nat.reduceEqDiff,reduceCtorEq,D.int.injEq,D.bool.injEq,D.sl.injEq,and_true,true_and,and_self,hsu,Bool.true_or])
  exact wrap_up (by omega)
 | false=>
  simp only [ZA,ZB,ZC,ZD,ZE,↓reduceIte,reduceIte,ZF,ZG,ZH,ZI,ZJ,reduceCtorEq,ZK,↓zU,↓zD,zV,zT,zW,hd2,rbR_len,hfl]
  (repeat refine sd ?_)
  refine .go (cq hr) ?_
  cases b with
  | false=>
   simp only [ZA,ZB,ZC,ZD,ZE,↓reduceIte,reduceIte,ZF,ZG,ZH,ZI,ZJ,reduceCtorEq,ZK,↓zU,↓zD,zV,zT,zW]
   (repeat refine sd ?_)
   refine⟨k+1,by omega,?_,by omega⟩
   (refine Weak.same ?_; simp only [sameF,Fr.get,↓reduceIte,reduceIte,Nat.reduceEqDiff,reduceCtorEq,D.int.injEq,D.bool.injEq,D.sl.injEq,and_true,true_and,and_self,hsu,Bool.false_or,Bool.false_and])
   exact wrap_up (by omega)
  | true=>
   simp only [ZA,ZB,ZC,ZD,ZE,↓reduceIte,reduceIte,ZF,ZG,ZH,ZI,ZJ,reduceCtorEq,ZK,↓zU,↓zD,zV,zT,zW,rbR_len,hfl,hxk]
   (repeat refine sd ?_)
   refine⟨k+1,by omega,?_,by omega⟩
   (refine Weak.same ?_; simp only [sameF,Fr.get,↓reduceIte,reduceIte,Nat.reduceEqDiff,reduceCtorEq,D.int.injEq,D.bool.injEq,D.sl.injEq,and_true,true_and,and_self,hsu,Bool.false_or,Bool.true_and])
   exact wrap_up (by omega)
end Go.Pd
