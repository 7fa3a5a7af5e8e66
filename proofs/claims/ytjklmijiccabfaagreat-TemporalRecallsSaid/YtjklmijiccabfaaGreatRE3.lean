/- Part E3. -/
import Derived.Test.YtjklmijiccabfaaGreatRE2
set_option linter.unusedSectionVars false
set_option linter.unusedVariables false
set_option linter.unusedSimpArgs false
set_option linter.defProp false
set_option maxRecDepth 20000
set_option maxHeartbeats 1000000
namespace Go.Pd
open Go Go.Proofs
open Int renaming reduceToNat -> ZA, reduceLT -> ZB, reduceLE -> ZC, reduceBEq -> ZD, reduceBNe -> ZE
open Nat renaming reduceEqDiff -> ZF, reduceAdd -> ZG, reduceBEq -> ZH, reduceLT -> ZI, reduceLeDiff -> ZJ, reduceMul -> ZK
open Rs Fm Ru Te
namespace Te
def wrt (N:Nat) (v:Nat->Bool) (w:Nat):List Bool:=(List.range N).map fun p=>decide (p<w)&& v p
theorem wrt_len (N:Nat) (v:Nat->Bool) (w:Nat):(wrt N v w).length=N:=by simp [wrt]
theorem wrt_zero (N:Nat) (v:Nat->Bool):rbR (wrt N v 0)= List.replicate N [.bool false]:=by
 refine List.ext_getElem (by simp [rbR,wrt]) fun k h1 h2=>by simp [rbR,wrt]
theorem wrt_end (N:Nat) (v:Nat->Bool):wrt N v N=(List.range N).map v:=by
 unfold wrt
 exact List.map_congr_left fun p hp=>by rw [decide_eq_true (List.mem_range.1 hp),Bool.true_and]
theorem wrt_set {N w:Nat} {v:Nat->Bool} {b:Bool} (hb:v w=b):(rbR (wrt N v w)).set w [.bool b]=rbR (wrt N v (w+1)):=by
 subst hb
 refine List.ext_getElem (by simp [rbR,wrt]) fun k h1 h2=>?_
 rw [List.getElem_set]
 by_cases e:w=k
 ·subst e; rw [if_pos rfl]; simp [rbR,wrt]
 ·rw [if_neg e]
  have:decide (k<w)= decide (k<w+1):=by rw [Bool.eq_iff_iff,decide_eq_true_iff,decide_eq_true_iff]; omega
  simp only [rbR,wrt,List.map_map,List.getElem_map,List.getElem_range,Function.comp,this]
theorem wrt_skip {N w:Nat} {v:Nat->Bool} (hb:v w=false):wrt N v w=wrt N v (w+1):=by
 unfold wrt
 refine List.map_congr_left fun p _=>?_
 by_cases e:p=w
 ·subst e; rw [hb]; simp
 ·have:decide (p<w)= decide (p<w+1):=by rw [Bool.eq_iff_iff,decide_eq_true_iff,decide_eq_true_iff]; omega
  rw [this]
def timeP (T:Nat) (op:Int) (x y:Tab):Tab:=if op=18 then shP T 1 x else if op=20 then shP T (-1) x else if op=19 then untP T 1 x y else untP T (-1) x y
theorem pt_at {T r t:Nat} (h:t<T):pt T (r*T+t)= (r,t):=by
 unfold pt
 have e1:(r*T+t)/ T=r:=by rw [Nat.mul_comm,Nat.mul_add_div (by omega),Nat.div_eq_of_lt h]; rfl
 have e2:(r*T+t) % T=t:=by rw [Nat.mul_comm,Nat.mul_add_mod,Nat.mod_eq_of_lt h]
 rw [e1,e2]
theorem at_lt {R T r t:Nat} (hr:r<R) (ht:t<T):r*T+t<R*T:=by
 have:=Nat.mul_le_mul_right T (show r+1<=R from hr)
 rw [Nat.succ_mul] at this
 omega
theorem untP_fwd {T:Nat} {x y:Tab} {r t:Nat} (h:t<T):untP T 1 x y (r,t)= (y (r,t) || (x (r,t)&& runU T 1 x y r (T-(t+1)))):=by
 unfold untP
 simp only [if_pos (show (0:Int)<1 by decide)]
 rw [show T-t=(T-(t+1))+ 1 by omega]
 show (y (r,tmU T 1 (T-(t+1))) || (x (r,tmU T 1 (T-(t+1)))&& runU T 1 x y r (T-(t+1))))= _
 have:tmU T 1 (T-(t+1))= t:=by unfold tmU; rw [if_pos (by decide)]; omega
 rw [this]
theorem untP_bwd {T:Nat} {x y:Tab} {r t:Nat}:untP T (-1) x y (r,t)= (y (r,t) || (x (r,t)&& runU T (-1) x y r t)):=by
 unfold untP
 simp only [if_neg (show ¬ (0:Int) < -1 by decide)]
 show (y (r,tmU T (-1) t) || (x (r,tmU T (-1) t)&& runU T (-1) x y r t))= _
 have:tmU T (-1) t=t:=by unfold tmU; rw [if_neg (by decide)]
 rw [this]
end Te
theorem at115 {rs:List RunA} {A F T r t:Nat} (hT:T<=16) (hr:r<=64) (ht:t<=16):Runs Tryz.prog 95 [sD A F T rs,.int .i64 (r:Int),.int .i64 (t:Int)] (.int .i64 ((r*T+t:Nat):Int)):=by
 have hm:r*T<=64*16:=Nat.mul_le_mul hr hT
 have e1:IntKind.i64.wrap ((r:Int)* (T:Int))= ((r*T:Nat):Int):=by
  rw [<- Int.natCast_mul]; exact wrap_i64 (by omega)
 have e2:IntKind.i64.wrap (((r*T:Nat):Int)+ (t:Int))= ((r*T+t:Nat):Int):=by
  rw [wrap_i64 (by omega)]; omega
 unfold sD
 refine CallT.go_fn mixed Tryz.func95 k95 (by simp) fun hf=>?_
 simp only [ZA,ZB,ZC,ZD,ZE,↓reduceIte,reduceIte,ZF,ZG,ZH,ZI,ZJ,reduceCtorEq,ZK,↓zU,↓zD,zV,zT,zW,e1,e2]
 exact .drop (by simp) (by simp [vw])
theorem time88 {rs:List RunA} {A F T:Nat} {op:Int} {x y:Tab} {yd:D} (ok:OkR rs A F T) (hop:op=18\/op=20\/op=19\/op=21) (hyd:op=19\/op=21->yd = .sl 1 (rbR (flT T (rs.length*T) y))) :
  Runs Tryz.prog 73 [sD A F T rs,.int .i64 op,.sl 1 (rbR (flT T (rs.length*T) x)),yd] (.sl 1 (rbR (flT T (rs.length*T) (timeP T op x y)))):=by
 obtain⟨T1,T16⟩:=ok.hT
 obtain⟨R1,R64⟩:=ok.hR
 have hRT:=ok.hP
 have hat:=fun r t (hr:r<=64) (ht:t<=16)=>at115 (rs:=rs) (A:=A) (F:=F) T16 hr ht
 have hflx:=flT_len T (rs.length*T) x
 have hfgx:=fun p (hp:p<rs.length*T)=>flT_get (T:=T) (φ:=x) hp
 have hfly:=flT_len T (rs.length*T) y
 have hfgy:=fun p (hp:p<rs.length*T)=>flT_get (T:=T) (φ:=y) hp
 have hlt:=fun r t (hr:r<rs.length) (ht:t<T)=>at_lt (T:=T) hr ht
 have hend:flT T (rs.length*T) (timeP T op x y)= wrt (rs.length*T) (fun p=>timeP T op x y (pt T p)) (rs.length*T):=by rw [wrt_end]; rfl
 rw [hend]
 have hN:∃ N,N=rs.length*T:=⟨_,rfl⟩
 obtain⟨N,hN⟩:=hN
 rw [<- hN] at hRT hflx hfgx hfly hfgy hyd ⊢
 generalize flT T N x=xl at hflx hfgx
 generalize flT T N y=yl at hfly hfgy hyd
 unfold sD at hat ⊢
 have hval:∀ r t,t<T->timeP T op x y (pt T (r*T+t))= timeP T op x y (r,t):=fun r t h=>by rw [pt_at h]
 refine CallT.go_fn mixed Tryz.func73 k73 (by simp) fun hf=>?_
 simp only [ZA,ZB,ZC,ZD,ZE,↓reduceIte,reduceIte,ZF,ZG,ZH,ZI,ZJ,reduceCtorEq,ZK,↓zU,↓zD,zV,zT,zW,rbR_len,hflx]
 (repeat refine sd ?_)
 refine wpS_loop (fun r:Nat=>[(10,.int .i64 r),(9,.osl 1 1 N),(4,.ref 0 4 0 0),(3,yd),(2,.sl 1 (rbR xl)),(1,.int .i64 op)]) (fun r=>⟨2,[(1,⟨1,rbR (wrt N (fun p=>timeP T op x y (pt T p)) (r*T))⟩),(0,⟨4,[[.int .i64 (A:Int),.int .i64 (F:Int),.int .i64 (T:Int),.sl 2 (runR rs)]]⟩)]⟩)
  (fun r=>r<=rs.length) (fun r=>rs.length-r) 0 (Nat.zero_le _) ?_ ?_
 ·rw [Nat.zero_mul,wrt_zero]
  (refine Weak.same ?_; simp [sameF,Fr.get])
 intro r hr
 refine wpS_go mixed ?_
 by_cases hrl:r<rs.length
 case neg=>
  have hd:¬ ((r:Int)<(rs.length:Int)):=by omega
  obtain rfl:r=rs.length:=by omega
  simp only [ZA,ZB,ZC,ZD,ZE,↓reduceIte,reduceIte,ZF,ZG,ZH,ZI,ZJ,reduceCtorEq,ZK,↓zU,↓zD,zV,zT,zW,hd,runR_len]
  rw [<- hN]
  refine .drop (by simp) ?_
  simp only [vw]
  exact⟨trivial,by decide,by simp,_,rfl,rfl,by rw [rbR_len,wrt_len]; exact Nat.le_refl _,(List.take_of_length_le (by rw [rbR_len,wrt_len]; exact Nat.le_refl _)).symm,rbR_pure _⟩
 have hd:((r:Int)<(rs.length:Int)):=by omega
 simp only [ZA,ZB,ZC,ZD,ZE,↓reduceIte,reduceIte,ZF,ZG,ZH,ZI,ZJ,reduceCtorEq,ZK,↓zU,↓zD,zV,zT,zW,hd,runR_len]
 refine wpS_loop (fun t:Nat=>[(11,.int .i64 t),(10,.int .i64 r),(9,.osl 1 1 N),(4,.ref 0 4 0 0),(3,yd),(2,.sl 1 (rbR xl)),(1,.int .i64 op)]) (fun t=>⟨2,[(1,⟨1,rbR (wrt N (fun p=>timeP T op x y (pt T p)) (r*T+t))⟩),(0,⟨4,[[.int .i64 (A:Int),.int .i64 (F:Int),.int .i64 (T:Int),.sl 2 (runR rs)]]⟩)]⟩)
  (fun t=>t<=T) (fun t=>T-t) 0 (Nat.zero_le _) ?_ ?_
 ·(refine Weak.same ?_; simp [sameF,Fr.get])
 intro t ht
 refine wpS_go mixed ?_
 by_cases htl:t<T
 case neg=>
  have hd2:¬ ((t:Int)<(T:Int)):=by omega
  obtain rfl:t=T:=by omega
  simp only [ZA,ZB,ZC,ZD,ZE,↓reduceIte,reduceIte,ZF,ZG,ZH,ZI,ZJ,reduceCtorEq,ZK,↓zU,↓zD,zV,zT,zW,hd2]
  (repeat refine sd ?_)
  refine⟨r+1,by omega,?_,by omega⟩
  rw [show (r+1)* t=r*t+t by rw [Nat.add_mul]; omega]
  (refine Weak.same ?_; simp only [sameF,Fr.get,↓reduceIte,reduceIte,Nat.reduceEqDiff,reduceCtorEq,D.int.injEq,D.bool.injEq,D.sl.injEq,and_true,true_and,and_self])
  exact wrap_up (by omega)
 have hd2:((t:Int)<(T:Int)):=by omega
 have hv:=hval r t htl
 have hpN:=hlt r t hrl htl
 rw [<- hN] at hpN
 have hc:=hat r t (by omega) (by omega)
 have hset:=fun b (h:timeP T op x y (r,t)= b)=>wrt_set (N:=N) (w:=r*T+t) (v:=fun p=>timeP T op x y (pt T p)) (b:=b) (by show timeP T op x y (pt T (r*T+t))= b; rw [hv,h])
 have hskip:=fun(h:timeP T op x y (r,t)= false)=>wrt_skip (N:=N) (w:=r*T+t) (v:=fun p=>timeP T op x y (pt T p)) (by show timeP T op x y (pt T (r*T+t))= false; rw [hv,h])
 have hwl:=wrt_len N (fun p=>timeP T op x y (pt T p)) (r*T+t)
 rw [show r*T+t+1=r*T+(t+1) by omega] at hset hskip
 have hwg:=rbR_at (l:=wrt N (fun p=>timeP T op x y (pt T p)) (r*T+t)) (p:=r*T+t) (by rw [hwl]; exact hpN)
 have hw:=wrap_up (k:=t) (by omega)
 have hw2:=wrap_up (k:=r*T+t) (by omega)
 rcases hop with rfl | rfl | rfl | rfl
 ·have hp:timeP T 18 x y (r,t)= shP T 1 x (r,t):=rfl
  by_cases h1:t+1<T
  ·have hd3:(((t+1:Nat):Int)<(T:Int)):=by omega
   have hs:timeP T 18 x y (r,t)= x (pt T (r*T+t+1)):=by
    rw [hp,show r*T+t+1=r*T+(t+1) by omega,pt_at h1]
    unfold shP
    simp only
    rw [decide_eq_true (by omega),decide_eq_true (by omega),show ((t:Int)+ 1).toNat=t+1 by omega]; rfl
   have hset:=hset _ hs
   have hb:r*T+t+1<N:=by have:=hlt r (t+1) hrl h1; omega
   have hx:=hfgx (r*T+t+1) hb
   have hb2:(((r*T+t+1:Nat):Int)<(N:Int)):=Int.ofNat_lt.2 hb
   have hb3:((0:Int)<=((r*T+t+1:Nat):Int)):=Int.natCast_nonneg _
   simp only [ZA,ZB,ZC,ZD,ZE,↓reduceIte,reduceIte,ZF,ZG,ZH,ZI,ZJ,reduceCtorEq,ZK,↓zU,↓zD,zV,zT,zW,hd2]
   (repeat refine sd ?_)
   refine .go (cq hc) ?_
   simp only [ZA,ZB,ZC,ZD,ZE,↓reduceIte,reduceIte,ZF,ZG,ZH,ZI,ZJ,reduceCtorEq,ZK,↓zU,↓zD,zV,zT,zW,hw,hw2,hd3,rbR_len,hflx,hx,hwl,hwg,hb2,hb3]
   (repeat refine sd ?_)
   refine⟨t+1,by omega,?_,by omega⟩
   rw [hset]
   (refine Weak.same ?_; simp only [sameF,Fr.get,↓reduceIte,reduceIte,Nat.reduceEqDiff,reduceCtorEq,D.int.injEq,D.bool.injEq,D.sl.injEq,and_true,true_and,and_self])
  ·have hd3:¬ (((t+1:Nat):Int)<(T:Int)):=by omega
   have hs:timeP T 18 x y (r,t)= false:=by
    rw [hp]
    unfold shP
    simp only
    rw [decide_eq_false (p:=(t:Int)+ 1<(T:Int)) (by omega),Bool.false_and,Bool.and_false]
   have hset:=hset _ hs
   simp only [ZA,ZB,ZC,ZD,ZE,↓reduceIte,reduceIte,ZF,ZG,ZH,ZI,ZJ,reduceCtorEq,ZK,↓zU,↓zD,zV,zT,zW,hd2]
   (repeat refine sd ?_)
   refine .go (cq hc) ?_
   simp only [ZA,ZB,ZC,ZD,ZE,↓reduceIte,reduceIte,ZF,ZG,ZH,ZI,ZJ,reduceCtorEq,ZK,↓zU,↓zD,zV,zT,zW,hw,hw2,hd3,rbR_len,hflx,hwl,hwg]
   (repeat refine sd ?_)
   refine⟨t+1,by omega,?_,by omega⟩
   rw [hset]
   (refine Weak.same ?_; simp only [sameF,Fr.get,↓reduceIte,reduceIte,Nat.reduceEqDiff,reduceCtorEq,D.int.injEq,D.bool.injEq,D.sl.injEq,and_true,true_and,and_self])
 ·have hp:timeP T 20 x y (r,t)= shP T (-1) x (r,t):=rfl
  by_cases h1:0<t
  ·have hd3:((0:Int)<(t:Int)):=by omega
   have hw3:IntKind.i64.wrap (((r*T+t:Nat):Int)-1)= ((r*T+t-1:Nat):Int):=by
    have h2:0<r*T+t:=by omega
    generalize r*T+t=w at hpN h2
    rw [wrap_i64 (by omega)]; omega
   have hs:timeP T 20 x y (r,t)= x (pt T (r*T+t-1)):=by
    rw [hp,show r*T+t-1=r*T+(t-1) by omega,pt_at (by omega)]
    unfold shP
    simp only
    rw [decide_eq_true (by omega),decide_eq_true (by omega),show ((t:Int)+ -1).toNat=t-1 by omega]; rfl
   have hset:=hset _ hs
   have hx:=hfgx (r*T+t-1) (by omega)
   simp only [ZA,ZB,ZC,ZD,ZE,↓reduceIte,reduceIte,ZF,ZG,ZH,ZI,ZJ,reduceCtorEq,ZK,↓zU,↓zD,zV,zT,zW,hd2]
   (repeat refine sd ?_)
   refine .go (cq hc) ?_
   simp only [ZA,ZB,ZC,ZD,ZE,↓reduceIte,reduceIte,ZF,ZG,ZH,ZI,ZJ,reduceCtorEq,ZK,↓zU,↓zD,zV,zT,zW,hw,hw3,hd3,rbR_len,hflx,hx,hwl,hwg]
   (repeat refine sd ?_)
   refine⟨t+1,by omega,?_,by omega⟩
   rw [hset]
   (refine Weak.same ?_; simp only [sameF,Fr.get,↓reduceIte,reduceIte,Nat.reduceEqDiff,reduceCtorEq,D.int.injEq,D.bool.injEq,D.sl.injEq,and_true,true_and,and_self])
  ·have hd3:¬ ((0:Int)<(t:Int)):=by omega
   have hs:timeP T 20 x y (r,t)= false:=by
    rw [hp]
    unfold shP
    simp only
    rw [decide_eq_false (p:=0<=(t:Int)+ -1) (by omega),Bool.false_and]
   have hset:=hset _ hs
   simp only [ZA,ZB,ZC,ZD,ZE,↓reduceIte,reduceIte,ZF,ZG,ZH,ZI,ZJ,reduceCtorEq,ZK,↓zU,↓zD,zV,zT,zW,hd2]
   (repeat refine sd ?_)
   refine .go (cq hc) ?_
   simp only [ZA,ZB,ZC,ZD,ZE,↓reduceIte,reduceIte,ZF,ZG,ZH,ZI,ZJ,reduceCtorEq,ZK,↓zU,↓zD,zV,zT,zW,hw,hd3,rbR_len,hflx,hwl,hwg]
   (repeat refine sd ?_)
   refine⟨t+1,by omega,?_,by omega⟩
   rw [hset]
   (refine Weak.same ?_; simp only [sameF,Fr.get,↓reduceIte,reduceIte,Nat.reduceEqDiff,reduceCtorEq,D.int.injEq,D.bool.injEq,D.sl.injEq,and_true,true_and,and_self])
 ·have hp:timeP T 19 x y (r,t)= runU T 1 x y r (T-t):=rfl
  rw [hyd (.inl rfl)]
  simp only [ZA,ZB,ZC,ZD,ZE,↓reduceIte,reduceIte,ZF,ZG,ZH,ZI,ZJ,reduceCtorEq,ZK,↓zU,↓zD,zV,zT,zW,hd2]
  (repeat refine sd ?_)
  refine .go (cq hc) ?_
  simp only [ZA,ZB,ZC,ZD,ZE,↓reduceIte,reduceIte,ZF,ZG,ZH,ZI,ZJ,reduceCtorEq,ZK,↓zU,↓zD,zV,zT,zW]
  refine wpS_loopW (fun u:Nat=>[(13,.int .i64 u),(12,.int .i64 ((r*T+t:Nat):Int)),(11,.int .i64 t),(10,.int .i64 r),(9,.osl 1 1 N),(4,.ref 0 4 0 0),(3,.sl 1 (rbR yl)),(2,.sl 1 (rbR xl)),(1,.int .i64 19)]) (fun _=>⟨2,[(1,⟨1,rbR (wrt N (fun p=>timeP T 19 x y (pt T p)) (r*T+t))⟩),(0,⟨4,[[.int .i64 (A:Int),.int .i64 (F:Int),.int .i64 (T:Int),.sl 2 (runR rs)]]⟩)]⟩)
   (fun u=>t<=u/\u<=T/\timeP T 19 x y (r,t)= runU T 1 x y r (T-u)) (fun u=>T-u) t ⟨Nat.le_refl _,by omega,hp⟩ ?_ ?_
  ·(refine Weak.same ?_; simp [sameF,Fr.get])
  rintro u ⟨hu1,hu2,hu3⟩
  refine wpS_go mixed ?_
  by_cases hul:u<T
  case neg=>
   have hd3:¬ ((u:Int)<(T:Int)):=by omega
   obtain rfl:u=T:=by omega
   rw [Nat.sub_self] at hu3
   have hskip:=hskip hu3
   simp only [ZA,ZB,ZC,ZD,ZE,↓reduceIte,reduceIte,ZF,ZG,ZH,ZI,ZJ,reduceCtorEq,ZK,↓zU,↓zD,zV,zT,zW,hd3]
   refine .keep ?_
   simp only [ZA,ZB,ZC,ZD,ZE,↓reduceIte,reduceIte,ZF,ZG,ZH,ZI,ZJ,reduceCtorEq,ZK,↓zU,↓zD,zV,zT,zW]
   (repeat refine sd ?_)
   refine⟨t+1,by omega,?_,by omega⟩
   rw [<- hskip]
   (refine Weak.same ?_; simp only [sameF,Fr.get,↓reduceIte,reduceIte,Nat.reduceEqDiff,reduceCtorEq,D.int.injEq,D.bool.injEq,D.sl.injEq,and_true,true_and,and_self])
   exact hw
  have hd3:((u:Int)<(T:Int)):=by omega
  have hc2:=hat r u (by omega) (by omega)
  have huN:=hlt r u hrl hul
  rw [<- hN] at huN
  have hyu:=hfgy _ huN
  have hxu:=hfgx _ huN
  rw [pt_at hul] at hyu hxu
  have hst:runU T 1 x y r (T-u)= (y (r,u) || (x (r,u)&& runU T 1 x y r (T-(u+1)))):=untP_fwd hul
  rw [hst] at hu3
  cases hy:y (r,u) with
  | true=>
   rw [hy] at hyu hu3
   rw [Bool.true_or] at hu3
   have hset:=hset _ hu3
   simp only [ZA,ZB,ZC,ZD,ZE,↓reduceIte,reduceIte,ZF,ZG,ZH,ZI,ZJ,reduceCtorEq,ZK,↓zU,↓zD,zV,zT,zW,hd3]
   (repeat refine sd ?_)
   refine .go (cq hc2) ?_
   simp only [ZA,ZB,ZC,ZD,ZE,↓reduceIte,reduceIte,ZF,ZG,ZH,ZI,ZJ,reduceCtorEq,ZK,↓zU,↓zD,zV,zT,zW,rbR_len,hfly,hyu,hwl,hwg]
   (repeat refine sd ?_)
   refine .keep ?_
   simp only [ZA,ZB,ZC,ZD,ZE,↓reduceIte,reduceIte,ZF,ZG,ZH,ZI,ZJ,reduceCtorEq,ZK,↓zU,↓zD,zV,zT,zW]
   (repeat refine sd ?_)
   refine⟨t+1,by omega,?_,by omega⟩
   rw [hset]
   (refine Weak.same ?_; simp only [sameF,Fr.get,↓reduceIte,reduceIte,Nat.reduceEqDiff,reduceCtorEq,D.int.injEq,D.bool.injEq,D.sl.injEq,and_true,true_and,and_self])
   exact hw
  | false=>
   rw [hy] at hyu hu3
   rw [Bool.false_or] at hu3
   cases hx:x (r,u) with
   | false=>
    rw [hx] at hxu hu3
    rw [Bool.false_and] at hu3
    have hskip:=hskip hu3
    simp only [ZA,ZB,ZC,ZD,ZE,↓reduceIte,reduceIte,ZF,ZG,ZH,ZI,ZJ,reduceCtorEq,ZK,↓zU,↓zD,zV,zT,zW,hd3]
    (repeat refine sd ?_)
    refine .go (cq hc2) ?_
    simp only [ZA,ZB,ZC,ZD,ZE,↓reduceIte,reduceIte,ZF,ZG,ZH,ZI,ZJ,reduceCtorEq,ZK,↓zU,↓zD,zV,zT,zW,rbR_len,hfly,hyu]
    (repeat refine sd ?_)
    refine .go (cq hc2) ?_
    simp only [ZA,ZB,ZC,ZD,ZE,↓reduceIte,reduceIte,ZF,ZG,ZH,ZI,ZJ,reduceCtorEq,ZK,↓zU,↓zD,zV,zT,zW,rbR_len,hflx,hxu]
    (repeat refine sd ?_)
    refine .keep ?_
    simp only [ZA,ZB,ZC,ZD,ZE,↓reduceIte,reduceIte,ZF,ZG,ZH,ZI,ZJ,reduceCtorEq,ZK,↓zU,↓zD,zV,zT,zW]
    (repeat refine sd ?_)
    refine⟨t+1,by omega,?_,by omega⟩
    rw [<- hskip]
    (refine Weak.same ?_; simp only [sameF,Fr.get,↓reduceIte,reduceIte,Nat.reduceEqDiff,reduceCtorEq,D.int.injEq,D.bool.injEq,D.sl.injEq,and_true,true_and,and_self])
    exact hw
   | true=>
    rw [hx] at hxu hu3
    rw [Bool.true_and] at hu3
    simp only [ZA,ZB,ZC,ZD,ZE,↓reduceIte,reduceIte,ZF,ZG,ZH,ZI,ZJ,reduceCtorEq,ZK,↓zU,↓zD,zV,zT,zW,hd3]
    (repeat refine sd ?_)
    refine .go (cq hc2) ?_
    simp only [ZA,ZB,ZC,ZD,ZE,↓reduceIte,reduceIte,ZF,ZG,ZH,ZI,ZJ,reduceCtorEq,ZK,↓zU,↓zD,zV,zT,zW,rbR_len,hfly,hyu]
    (repeat refine sd ?_)
    refine .go (cq hc2) ?_
    simp only [ZA,ZB,ZC,ZD,ZE,↓reduceIte,reduceIte,ZF,ZG,ZH,ZI,ZJ,reduceCtorEq,ZK,↓zU,↓zD,zV,zT,zW,rbR_len,hflx,hxu]
    (repeat refine sd ?_)
    refine⟨u+1,⟨by omega,by omega,hu3⟩,?_,by omega⟩
    (refine Weak.same ?_; simp only [sameF,Fr.get,↓reduceIte,reduceIte,Nat.reduceEqDiff,reduceCtorEq,D.int.injEq,D.bool.injEq,D.sl.injEq,and_true,true_and,and_self])
    exact wrap_up (by omega)
 ·have hp:timeP T 21 x y (r,t)= runU T (-1) x y r (t+1):=rfl
  rw [hyd (.inr rfl)]
  simp only [ZA,ZB,ZC,ZD,ZE,↓reduceIte,reduceIte,ZF,ZG,ZH,ZI,ZJ,reduceCtorEq,ZK,↓zU,↓zD,zV,zT,zW,hd2]
  (repeat refine sd ?_)
  refine .go (cq hc) ?_
  simp only [ZA,ZB,ZC,ZD,ZE,↓reduceIte,reduceIte,ZF,ZG,ZH,ZI,ZJ,reduceCtorEq,ZK,↓zU,↓zD,zV,zT,zW]
  refine wpS_loopW (fun u:Nat=>[(14,.int .i64 ((u:Int)-1)),(12,.int .i64 ((r*T+t:Nat):Int)),(11,.int .i64 t),(10,.int .i64 r),(9,.osl 1 1 N),(4,.ref 0 4 0 0),(3,.sl 1 (rbR yl)),(2,.sl 1 (rbR xl)),(1,.int .i64 21)]) (fun _=>⟨2,[(1,⟨1,rbR (wrt N (fun p=>timeP T 21 x y (pt T p)) (r*T+t))⟩),(0,⟨4,[[.int .i64 (A:Int),.int .i64 (F:Int),.int .i64 (T:Int),.sl 2 (runR rs)]]⟩)]⟩)
   (fun u=>u<=t+1/\timeP T 21 x y (r,t)= runU T (-1) x y r u) (fun u=>u) (t+1) ⟨Nat.le_refl _,hp⟩ ?_ ?_
  ·(refine Weak.same ?_; simp only [sameF,Fr.get,↓reduceIte,reduceIte,Nat.reduceEqDiff,reduceCtorEq,D.int.injEq,D.bool.injEq,D.sl.injEq,and_true,true_and,and_self])
   omega
  rintro u ⟨hu2,hu3⟩
  refine wpS_go mixed ?_
  cases u with
  | zero=>
   have hd3:¬ ((0:Int)<=((0:Nat):Int)-1):=by omega
   have hskip:=hskip hu3
   simp only [ZA,ZB,ZC,ZD,ZE,↓reduceIte,reduceIte,ZF,ZG,ZH,ZI,ZJ,reduceCtorEq,ZK,↓zU,↓zD,zV,zT,zW,hd3]
   refine .keep ?_
   simp only [ZA,ZB,ZC,ZD,ZE,↓reduceIte,reduceIte,ZF,ZG,ZH,ZI,ZJ,reduceCtorEq,ZK,↓zU,↓zD,zV,zT,zW]
   (repeat refine sd ?_)
   refine⟨t+1,by omega,?_,by omega⟩
   rw [<- hskip]
   (refine Weak.same ?_; simp only [sameF,Fr.get,↓reduceIte,reduceIte,Nat.reduceEqDiff,reduceCtorEq,D.int.injEq,D.bool.injEq,D.sl.injEq,and_true,true_and,and_self])
   exact hw
  | succ u=>
  rw [show (((u+1:Nat):Int)-1)= (u:Int) by omega]
  have hd3:((0:Int)<=(u:Int)):=by omega
  have hul:u<T:=by omega
  have hc2:=hat r u (by omega) (by omega)
  have huN:=hlt r u hrl hul
  rw [<- hN] at huN
  have hyu:=hfgy _ huN
  have hxu:=hfgx _ huN
  rw [pt_at hul] at hyu hxu
  have hst:runU T (-1) x y r (u+1)= (y (r,u) || (x (r,u)&& runU T (-1) x y r u)):=untP_bwd
  rw [hst] at hu3
  cases hy:y (r,u) with
  | true=>
   rw [hy] at hyu hu3
   rw [Bool.true_or] at hu3
   have hset:=hset _ hu3
   simp only [ZA,ZB,ZC,ZD,ZE,↓reduceIte,reduceIte,ZF,ZG,ZH,ZI,ZJ,reduceCtorEq,ZK,↓zU,↓zD,zV,zT,zW,hd3]
   (repeat refine sd ?_)
   refine .go (cq hc2) ?_
   simp only [ZA,ZB,ZC,ZD,ZE,↓reduceIte,reduceIte,ZF,ZG,ZH,ZI,ZJ,reduceCtorEq,ZK,↓zU,↓zD,zV,zT,zW,rbR_len,hfly,hyu,hwl,hwg]
   (repeat refine sd ?_)
   refine .keep ?_
   simp only [ZA,ZB,ZC,ZD,ZE,↓reduceIte,reduceIte,ZF,ZG,ZH,ZI,ZJ,reduceCtorEq,ZK,↓zU,↓zD,zV,zT,zW]
   (repeat refine sd ?_)
   refine⟨t+1,by omega,?_,by omega⟩
   rw [hset]
   (refine Weak.same ?_; simp only [sameF,Fr.get,↓reduceIte,reduceIte,Nat.reduceEqDiff,reduceCtorEq,D.int.injEq,D.bool.injEq,D.sl.injEq,and_true,true_and,and_self])
   exact hw
  | false=>
   rw [hy] at hyu hu3
   rw [Bool.false_or] at hu3
   cases hx:x (r,u) with
   | false=>
    rw [hx] at hxu hu3
    rw [Bool.false_and] at hu3
    have hskip:=hskip hu3
    simp only [ZA,ZB,ZC,ZD,ZE,↓reduceIte,reduceIte,ZF,ZG,ZH,ZI,ZJ,reduceCtorEq,ZK,↓zU,↓zD,zV,zT,zW,hd3]
    (repeat refine sd ?_)
    refine .go (cq hc2) ?_
    simp only [ZA,ZB,ZC,ZD,ZE,↓reduceIte,reduceIte,ZF,ZG,ZH,ZI,ZJ,reduceCtorEq,ZK,↓zU,↓zD,zV,zT,zW,rbR_len,hfly,hyu]
    (repeat refine sd ?_)
    refine .go (cq hc2) ?_
    simp only [ZA,ZB,ZC,ZD,ZE,↓reduceIte,reduceIte,ZF,ZG,ZH,ZI,ZJ,reduceCtorEq,ZK,↓zU,↓zD,zV,zT,zW,rbR_len,hflx,hxu]
    (repeat refine sd ?_)
    refine .keep ?_
    simp only [ZA,ZB,ZC,ZD,ZE,↓reduceIte,reduceIte,ZF,ZG,ZH,ZI,ZJ,reduceCtorEq,ZK,↓zU,↓zD,zV,zT,zW]
    (repeat refine sd ?_)
    refine⟨t+1,by omega,?_,by omega⟩
    rw [<- hskip]
    (refine Weak.same ?_; simp only [sameF,Fr.get,↓reduceIte,reduceIte,Nat.reduceEqDiff,reduceCtorEq,D.int.injEq,D.bool.injEq,D.sl.injEq,and_true,true_and,and_self])
    exact hw
   | true=>
    rw [hx] at hxu hu3
    rw [Bool.true_and] at hu3
    simp only [ZA,ZB,ZC,ZD,ZE,↓reduceIte,reduceIte,ZF,ZG,ZH,ZI,ZJ,reduceCtorEq,ZK,↓zU,↓zD,zV,zT,zW,hd3]
    (repeat refine sd ?_)
    refine .go (cq hc2) ?_
    simp only [ZA,ZB,ZC,ZD,ZE,↓reduceIte,reduceIte,ZF,ZG,ZH,ZI,ZJ,reduceCtorEq,ZK,↓zU,↓zD,zV,zT,zW,rbR_len,hfly,hyu]
    (repeat refine sd ?_)
    refine .go (cq hc2) ?_
    simp only [ZA,ZB,ZC,ZD,ZE,↓reduceIte,reduceIte,ZF,ZG,ZH,ZI,ZJ,reduceCtorEq,ZK,↓zU,↓zD,zV,zT,zW,rbR_len,hflx,hxu]
    (repeat refine sd ?_)
    refine⟨u,⟨by omega,hu3⟩,?_,by omega⟩
    (refine Weak.same ?_; simp only [sameF,Fr.get,↓reduceIte,reduceIte,Nat.reduceEqDiff,reduceCtorEq,D.int.injEq,D.bool.injEq,D.sl.injEq,and_true,true_and,and_self])
    exact wrap_i64 (by omega)
end Go.Pd
