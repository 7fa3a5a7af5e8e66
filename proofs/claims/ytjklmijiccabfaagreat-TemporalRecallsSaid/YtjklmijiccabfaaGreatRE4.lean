/- Part E4. -/
import Derived.Test.YtjklmijiccabfaaGreatRE3
set_option linter.unusedSectionVars false
set_option linter.unusedVariables false
set_option linter.unusedSimpArgs false
set_option linter.defProp false
set_option maxRecDepth 20000
set_option maxHeartbeats 1000000
namespace Go.Pd
open Go Go.Proofs
open Int renaming reduceToNat -> ZA, reduceLT -> ZB, reduceLE -> ZC, reduceBEq -> ZD, reduceBNe -> ZE
open Nat renaming reduceEqDiff -> ZF, reduceAdd -> ZG, reduceBEq -> ZH, reduceLT -> ZI, reduceLeDiff -> ZJ, reduceMul -> ZK
open Rs Fm Ru Te
structure Te.OpsR (n : Nd) (T N : Nat) (x y : Tab) (xd yd : D) : Prop where
 hx:(usesA n.op).1.x=true->xd = .sl 1 (rbR (flT T N x))
 hy:(usesA n.op).1.y=true->yd = .sl 1 (rbR (flT T N y))
 px:xd = .nils\/∃ l,xd = .sl 1 l
 py:yd = .nils\/∃ l,yd = .sl 1 l
theorem vw_nilsl {σ σ':St} {ρ:Nat->Nat} {d:D} (h:d = .nils\/∃ l,d = .sl 1 l):vw σ σ' ρ d d=True:=by
 rcases h with rfl | ⟨l,rfl⟩ <;> simp [vw]
theorem refPlain89 {rs:List RunA} {A F T:Nat} {n:Nd} {x y:Tab} {xd yd:D} (ok:OkR rs A F T) (ho:OpsR n T (rs.length*T) x y xd yd) (hi3:n.op=3->0<=n.i/\n.i<=7) :
  Runs Tryz.prog 74 [sD A F T rs,.agg n.row,xd,yd] (.sl 1 (rbR (flT T (rs.length*T) (boolP rs n x y)))):=by
 obtain⟨T1,T16⟩:=ok.hT
 obtain⟨R1,R64⟩:=ok.hR
 have hRT:=ok.hP
 obtain⟨hx,hy,px,py⟩:=ho
 have vx:=fun(σ σ':St) (ρ:Nat->Nat)=>vw_nilsl (σ:=σ) (σ':=σ') (ρ:=ρ) px
 have vy:=fun(σ σ':St) (ρ:Nat->Nat)=>vw_nilsl (σ:=σ) (σ':=σ') (ρ:=ρ) py
 have hflx:=flT_len T (rs.length*T) x
 have hfgx:=fun p (hp:p<rs.length*T)=>flT_get (T:=T) (φ:=x) hp
 have hfly:=flT_len T (rs.length*T) y
 have hfgy:=fun p (hp:p<rs.length*T)=>flT_get (T:=T) (φ:=y) hp
 have hpin:=fun p (hp:p<rs.length*T)=>pt_in (rs:=rs) T1 hp
 have hm:IntKind.i64.wrap ((rs.length:Int)* (T:Int))= ((rs.length*T:Nat):Int):=by
  rw [<- Int.natCast_mul]; exact wrap_i64 (by omega)
 have hN:∃ N,N=rs.length*T:=⟨_,rfl⟩
 obtain⟨N,hN⟩:=hN
 rw [<- hN] at hRT hx hy hflx hfgx hfly hfgy hm hpin ⊢
 generalize flT T N x=xl at hflx hfgx hx
 generalize flT T N y=yl at hfly hfgy hy
 have hbp:∀ p,boolP rs n x y (pt T p)= (if n.op=1 then true else if n.op=3 then(facA rs (pt T p)).getLsbD n.i.toNat else if n.op=4 then !x (pt T p) else if n.op=5 then x (pt T p)&& y (pt T p) else if n.op=6 then x (pt T p) || y (pt T p)
  else if n.op=7 then !x (pt T p) || y (pt T p) else if n.op=8 then x (pt T p)== y (pt T p) else false):=fun p=>rfl
 generalize boolP rs n x y=φ at hbp
 rw [Nd.row]
 unfold sD
 refine CallT.go_fn mixed Tryz.func74 k74 (by simp) fun hf=>?_
 simp only [ZA,ZB,ZC,ZD,ZE,↓reduceIte,reduceIte,ZF,ZG,ZH,ZI,ZJ,reduceCtorEq,ZK,↓zU,↓zD,zV,zT,zW]
 (repeat refine sd ?_)
 refine wpS_loop (fun p:Nat=>[(10,.int .i64 p),(9,growD 2 1 (rbR (flT T p φ))),(5,.ref 1 6 0 0),(4,.ref 0 4 0 0),(3,yd),(2,xd)]) (fun p=>⟨3,growO 2 1 (rbR (flT T p φ))++ [(1,⟨6,[[.int .i64 n.op,.int .i64 n.i,.int .i64 n.e,.int .i64 n.g,.int .i64 n.x,.int .i64 n.y]]⟩),(0,⟨4,[[.int .i64 (A:Int),.int .i64 (F:Int),.int .i64 (T:Int),.sl 2 (runR rs)]]⟩)]⟩)
  (fun p=>p<=N) (fun p=>N-p) 0 (Nat.zero_le _) ?_ ?_
 ·(refine Weak.ren [] [1,0] (by simp) (by simp) (by decide) ?_; simp only [stay1,vwL,vw,vwF,sw,St.get,St.look,Fr.get,↓reduceIte,reduceIte,Nat.reduceEqDiff,Nat.reduceAdd,Nat.reduceBEq,Nat.reduceLT,Nat.reduceLeDiff,exists_eq_left',ne_eq,reduceCtorEq,zR,vx,vy,flT,List.range_zero,List.map_nil,rbR_nil,growD_nil,growO_nil,List.nil_append])
 intro p hp
 refine wpS_go mixed ?_
 by_cases hpl:p<N
 case neg=>
  have hd:¬ ((p:Int)<(N:Int)):=by omega
  obtain rfl:p=N:=by omega
  simp only [ZA,ZB,ZC,ZD,ZE,↓reduceIte,reduceIte,ZF,ZG,ZH,ZI,ZJ,reduceCtorEq,ZK,↓zU,↓zD,zV,zT,zW,runR_len,hm,hd]
  exact .drop (by simp) (grow_viewL (by decide) (rbR_pure _) (by simp [St.look,look_growO1,look_growO]))
 have hd:((p:Int)<(N:Int)):=by omega
 have hsu:=flT_succ T p φ
 have hln:=flT_len T p φ
 have hb:=hbp p
 have hxp:=hfgx p hpl
 have hyp:=hfgy p hpl
 obtain⟨i1,i2⟩:=hpin p hpl
 have hgr:=runR_get rs i1
 have hfm:=getD_mem (d:=run0) i1
 have hff:=ok.fac _ hfm
 have hfa:(rs.getD (pt T p).1 run0).fac.getD (pt T p).2 0=facA rs (pt T p):=rfl
 generalize rs.getD (pt T p).1 run0=r at hgr hff hfa
 have hg2:=us_get r.fac (show (pt T p).2<r.fac.length by omega)
 rw [hfa] at hg2
 generalize facA rs (pt T p)= fa at hg2 hb
 rw [show (pt T p).1=p / T from rfl] at i1 hgr
 rw [show (pt T p).2=p % T from rfl] at i2 hg2
 generalize φ (pt T p)= b at hsu hb
 generalize x (pt T p)= bx at hxp hb
 generalize y (pt T p)= by_ at hyp hb
 generalize flT T p φ=ol at hsu hln
 have w1:=wdiv (T:=T) (show p<=1000000 by omega)
 have w3:=wmod p T
 have hT0:¬ (T:Int)= 0:=by omega
 have hw:=wrap_up (k:=p) (by omega)
 obtain⟨op,ni,ne,ng,nx_,ny⟩:=n
 simp only at hx hy hi3 hb
 by_cases e1:op=1
 ·subst e1
  rw [if_pos rfl] at hb
  subst hb
  simp only [ZA,ZB,ZC,ZD,ZE,↓reduceIte,reduceIte,ZF,ZG,ZH,ZI,ZJ,reduceCtorEq,ZK,↓zU,↓zD,zV,zT,zW,runR_len,hm,hd,rbR_len,hln]
  (repeat refine sd ?_)
  refine⟨p+1,by omega,?_,by omega⟩
  rw [hsu,rbR_snoc]
  (refine Weak.ren [(2,3)] [2,1,0] (by simp) (by simp) (by decide) ?_; simp only [stay1,vwL,vw,vwF,sw,St.get,St.look,Fr.get,↓reduceIte,reduceIte,Nat.reduceEqDiff,Nat.reduceAdd,Nat.reduceBEq,Nat.reduceLT,Nat.reduceLeDiff,exists_eq_left',ne_eq,reduceCtorEq,zR,pureE_rbR,hw,vx,vy])
 have c1:(op==1)= false:=by simpa using e1
 rw [if_neg e1] at hb
 by_cases e3:op=3
 ·subst e3
  rw [if_pos rfl] at hb
  obtain⟨q0,q7⟩:=hi3 rfl
  have hwu:IntKind.u64.wrap ni=ni:=wrap_u64 (by omega)
  have hfb:=facBit fa ni.toNat
  rw [<- hb] at hfb
  simp only [ZA,ZB,ZC,ZD,ZE,↓reduceIte,reduceIte,ZF,ZG,ZH,ZI,ZJ,reduceCtorEq,ZK,↓zU,↓zD,zV,zT,zW,runR_len,hm,hd,rbR_len,hln,c1,w1,w3,hT0,hgr,RunA.row,us_len,hg2,hwu,hfb]
  (repeat refine sd ?_)
  refine⟨p+1,by omega,?_,by omega⟩
  rw [hsu,rbR_snoc]
  (refine Weak.ren [(2,3)] [2,1,0] (by simp) (by simp) (by decide) ?_; simp only [stay1,vwL,vw,vwF,sw,St.get,St.look,Fr.get,↓reduceIte,reduceIte,Nat.reduceEqDiff,Nat.reduceAdd,Nat.reduceBEq,Nat.reduceLT,Nat.reduceLeDiff,exists_eq_left',ne_eq,reduceCtorEq,zR,pureE_rbR,hw,vx,vy])
 have c3:(op==3)= false:=by simpa using e3
 rw [if_neg e3] at hb
 by_cases e4:op=4
 ·subst e4
  rw [if_pos rfl] at hb
  rw [hx rfl]
  simp only [ZA,ZB,ZC,ZD,ZE,↓reduceIte,reduceIte,ZF,ZG,ZH,ZI,ZJ,reduceCtorEq,ZK,↓zU,↓zD,zV,zT,zW,runR_len,hm,hd,rbR_len,hln,c1,c3,hflx,hfly,hxp,hyp]
  (repeat refine sd ?_)
  refine⟨p+1,by omega,?_,by omega⟩
  rw [hsu,hb,rbR_snoc]
  (refine Weak.ren [(2,3)] [2,1,0] (by simp) (by simp) (by decide) ?_; simp only [stay1,vwL,vw,vwF,sw,St.get,St.look,Fr.get,↓reduceIte,reduceIte,Nat.reduceEqDiff,Nat.reduceAdd,Nat.reduceBEq,Nat.reduceLT,Nat.reduceLeDiff,exists_eq_left',ne_eq,reduceCtorEq,zR,pureE_rbR,hw,vx,vy,Bool.true_and,Bool.false_and,Bool.true_or,Bool.false_or,Bool.not_true,Bool.not_false])
 have c4:(op==4)= false:=by simpa using e4
 rw [if_neg e4] at hb
 by_cases e5:op=5
 ·subst e5
  rw [if_pos rfl] at hb
  rw [hx rfl]
  rw [hy rfl]
  cases bx <;> (simp only [ZA,ZB,ZC,ZD,ZE,↓reduceIte,reduceIte,ZF,ZG,ZH,ZI,ZJ,reduceCtorEq,ZK,↓zU,↓zD,zV,zT,zW,runR_len,hm,hd,rbR_len,hln,c1,c3,c4,hflx,hfly,hxp,hyp]; (repeat refine sd ?_); refine⟨p+1,by omega,?_,by omega⟩; rw [hsu,hb,rbR_snoc]; (refine Weak.ren [(2,3)] [2,1,0] (by simp) (by simp) (by decide) ?_; simp only [stay1,vwL,vw,vwF,sw,St.get,St.look,Fr.get,↓reduceIte,reduceIte,Nat.reduceEqDiff,Nat.reduceAdd,Nat.reduceBEq,Nat.reduceLT,Nat.reduceLeDiff,exists_eq_left',ne_eq,reduceCtorEq,zR,pureE_rbR,hw,vx,vy,Bool.true_and,Bool.false_and,Bool.true_or,Bool.false_or,Bool.not_true,Bool.not_false]))
 have c5:(op==5)= false:=by simpa using e5
 rw [if_neg e5] at hb
 by_cases e6:op=6
 ·subst e6
  rw [if_pos rfl] at hb
  rw [hx rfl]
  rw [hy rfl]
  cases bx <;> (simp only [ZA,ZB,ZC,ZD,ZE,↓reduceIte,reduceIte,ZF,ZG,ZH,ZI,ZJ,reduceCtorEq,ZK,↓zU,↓zD,zV,zT,zW,runR_len,hm,hd,rbR_len,hln,c1,c3,c4,c5,hflx,hfly,hxp,hyp]; (repeat refine sd ?_); refine⟨p+1,by omega,?_,by omega⟩; rw [hsu,hb,rbR_snoc]; (refine Weak.ren [(2,3)] [2,1,0] (by simp) (by simp) (by decide) ?_; simp only [stay1,vwL,vw,vwF,sw,St.get,St.look,Fr.get,↓reduceIte,reduceIte,Nat.reduceEqDiff,Nat.reduceAdd,Nat.reduceBEq,Nat.reduceLT,Nat.reduceLeDiff,exists_eq_left',ne_eq,reduceCtorEq,zR,pureE_rbR,hw,vx,vy,Bool.true_and,Bool.false_and,Bool.true_or,Bool.false_or,Bool.not_true,Bool.not_false]))
 have c6:(op==6)= false:=by simpa using e6
 rw [if_neg e6] at hb
 by_cases e7:op=7
 ·subst e7
  rw [if_pos rfl] at hb
  rw [hx rfl]
  rw [hy rfl]
  cases bx <;> (simp only [ZA,ZB,ZC,ZD,ZE,↓reduceIte,reduceIte,ZF,ZG,ZH,ZI,ZJ,reduceCtorEq,ZK,↓zU,↓zD,zV,zT,zW,runR_len,hm,hd,rbR_len,hln,c1,c3,c4,c5,c6,hflx,hfly,hxp,hyp]; (repeat refine sd ?_); refine⟨p+1,by omega,?_,by omega⟩; rw [hsu,hb,rbR_snoc]; (refine Weak.ren [(2,3)] [2,1,0] (by simp) (by simp) (by decide) ?_; simp only [stay1,vwL,vw,vwF,sw,St.get,St.look,Fr.get,↓reduceIte,reduceIte,Nat.reduceEqDiff,Nat.reduceAdd,Nat.reduceBEq,Nat.reduceLT,Nat.reduceLeDiff,exists_eq_left',ne_eq,reduceCtorEq,zR,pureE_rbR,hw,vx,vy,Bool.true_and,Bool.false_and,Bool.true_or,Bool.false_or,Bool.not_true,Bool.not_false]))
 have c7:(op==7)= false:=by simpa using e7
 rw [if_neg e7] at hb
 by_cases e8:op=8
 ·subst e8
  rw [if_pos rfl] at hb
  rw [hx rfl]
  rw [hy rfl]
  simp only [ZA,ZB,ZC,ZD,ZE,↓reduceIte,reduceIte,ZF,ZG,ZH,ZI,ZJ,reduceCtorEq,ZK,↓zU,↓zD,zV,zT,zW,runR_len,hm,hd,rbR_len,hln,c1,c3,c4,c5,c6,c7,hflx,hfly,hxp,hyp]
  (repeat refine sd ?_)
  refine⟨p+1,by omega,?_,by omega⟩
  rw [hsu,hb,rbR_snoc]
  (refine Weak.ren [(2,3)] [2,1,0] (by simp) (by simp) (by decide) ?_; simp only [stay1,vwL,vw,vwF,sw,St.get,St.look,Fr.get,↓reduceIte,reduceIte,Nat.reduceEqDiff,Nat.reduceAdd,Nat.reduceBEq,Nat.reduceLT,Nat.reduceLeDiff,exists_eq_left',ne_eq,reduceCtorEq,zR,pureE_rbR,hw,vx,vy,Bool.true_and,Bool.false_and,Bool.true_or,Bool.false_or,Bool.not_true,Bool.not_false])
 have c8:(op==8)= false:=by simpa using e8
 rw [if_neg e8] at hb
 subst hb
 simp only [ZA,ZB,ZC,ZD,ZE,↓reduceIte,reduceIte,ZF,ZG,ZH,ZI,ZJ,reduceCtorEq,ZK,↓zU,↓zD,zV,zT,zW,runR_len,hm,hd,rbR_len,hln,c1,c3,c4,c5,c6,c7,c8]
 (repeat refine sd ?_)
 refine⟨p+1,by omega,?_,by omega⟩
 rw [hsu,rbR_snoc]
 (refine Weak.ren [(2,3)] [2,1,0] (by simp) (by simp) (by decide) ?_; simp only [stay1,vwL,vw,vwF,sw,St.get,St.look,Fr.get,↓reduceIte,reduceIte,Nat.reduceEqDiff,Nat.reduceAdd,Nat.reduceBEq,Nat.reduceLT,Nat.reduceLeDiff,exists_eq_left',ne_eq,reduceCtorEq,zR,pureE_rbR,hw,vx,vy])
end Go.Pd
