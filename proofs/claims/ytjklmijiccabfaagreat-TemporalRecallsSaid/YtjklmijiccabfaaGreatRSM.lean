/- Part SM. -/
import Derived.Test.YtjklmijiccabfaaGreatRSK
set_option linter.unusedSectionVars false
set_option linter.unusedVariables false
set_option linter.unusedSimpArgs false
set_option linter.defProp false
set_option maxRecDepth 20000
set_option maxHeartbeats 1000000
namespace Go.Pd
open Go Go.Proofs
open Int renaming reduceToNat -> ZA, reduceLT -> ZB, reduceLE -> ZC, reduceBEq -> ZD, reduceBNe -> ZE
open Nat renaming reduceEqDiff -> ZF, reduceAdd -> ZG, reduceBEq -> ZH, reduceLT -> ZI, reduceLeDiff -> ZJ, reduceMul -> ZK
open Ru
namespace Ru
def renN (rs:List RunA) (A T:Nat) (kf:Nat->Nat × Nat->List Int):List RunA:=renR rs A T (rankA kf (ptN T (rs.length*T)))
theorem renR_len (rs:List RunA) (A T:Nat) (num:Nat->Nat × Nat->Int):(renR rs A T num).length=rs.length:=by simp [renR]
theorem renR_get {rs:List RunA} {A T:Nat} {num:Nat->Nat × Nat->Int} {i:Nat} (h:i<rs.length):(renR rs A T num).getD i run0=⟨(List.range T).map fun t=>(List.range A).map fun a=>num a (i,t),(rs.getD i run0).fac⟩:=by
 simp [renR,List.getD,h]
theorem renR_loc {rs:List RunA} {A T:Nat} {num:Nat->Nat × Nat->Int} {a:Nat} {p:Nat × Nat} (ha:a<A) (hp:p.1<rs.length/\p.2<T):locA (renR rs A T num) a p=num a p:=by
 unfold locA
 rw [renR_get hp.1]
 simp [List.getD,hp.2,ha]
theorem renR_ok {rs:List RunA} {A F T:Nat} {num:Nat->Nat × Nat->Int} (ok:OkR rs A F T):OkR (renR rs A T num) A F T where
 hA:=ok.hA
 hF:=ok.hF
 hT:=ok.hT
 hR:=by rw [renR_len]; exact ok.hR
 hP:=by rw [renR_len]; exact ok.hP
 loc:=fun r hr=>by
  simp only [renR,List.mem_map] at hr
  obtain⟨i,_,rfl⟩:=hr
  simp
 fac:=fun r hr=>by
  simp only [renR,List.mem_map,List.mem_range] at hr
  obtain⟨i,hi,rfl⟩:=hr
  exact ok.fac (rs.getD i run0) (getD_mem hi)
 row:=fun r hr l hl=>by
  simp only [renR,List.mem_map] at hr
  obtain⟨i,_,rfl⟩:=hr
  simp only [List.mem_map] at hl
  obtain⟨t,_,rfl⟩:=hl
  simp
 val:=fun r hr=>by
  simp only [renR,List.mem_map,List.mem_range] at hr
  obtain⟨i,hi,rfl⟩:=hr
  exact ok.val (rs.getD i run0) (getD_mem hi)
theorem filter_le {p q:List Int->Bool}:∀ {m:List (List Int)},(∀ y ∈ m,p y=true->q y=true)->(m.filter p).length<=(m.filter q).length
 | [],_=>Nat.le_refl _
 | y :: m,h=>by
  have ih:=filter_le (p:=p) (q:=q) (m:=m) fun z hz=>h z (List.mem_cons_of_mem _ hz)
  have h0:=h y (by simp)
  rw [List.filter_cons,List.filter_cons]
  cases hp:p y
  ·cases hq:q y
   ·simpa using ih
   ·simp; omega
  ·rw [h0 hp]; simpa using ih
theorem filter_lt {p q:List Int->Bool} {x:List Int}:∀ {m:List (List Int)},(∀ y ∈ m,p y=true->q y=true)->x ∈ m->p x=false->q x=true->(m.filter p).length<(m.filter q).length
 | [],_,hx,_,_=>by cases hx
 | y :: m,h,hx,hp,hq=>by
  have h':∀ z ∈ m,p z=true->q z=true:=fun z hz=>h z (List.mem_cons_of_mem _ hz)
  rw [List.filter_cons,List.filter_cons]
  rcases List.mem_cons.1 hx with e | e
  ·subst e
   have:=filter_le h'
   rw [hp,hq]
   simp; omega
  ·have ih:=filter_lt h' e hp hq
   have h0:=h y (by simp)
   cases hpy:p y
   ·cases hqy:q y
    ·simpa using ih
    ·simp; omega
   ·rw [h0 hpy]; simpa using ih
theorem below_lt {m:List (List Int)} {x y:List Int} (hx:x ∈ m) (h:kc x y<0):below m x<below m y:=by
 unfold below
 refine filter_lt (x:=x) (fun z _ hz=>?_) hx (by rw [kc_self]; rfl) (by simpa using h)
 have:=of_decide_eq_true hz
 exact decide_eq_true (kc_trans this h)
theorem below_iff {m:List (List Int)} {x y:List Int} (hx:x ∈ m) (hy:y ∈ m):below m x=below m y ↔ x=y:=by
 refine⟨fun h=>?_,fun h=>by rw [h]⟩
 have a:=kc_anti x y
 by_cases h1:kc x y<0
 ·have:=below_lt hx h1; omega
 ·by_cases h2:kc y x<0
  ·have:=below_lt hy h2; omega
  ·exact kc_zero (by omega)
theorem ptN_mem {T R:Nat} {p:Nat × Nat} (hp:p.1<R/\p.2<T):p ∈ ptN T (R*T):=by
 obtain⟨r,t⟩:=p
 simp only at hp
 simp only [ptN,List.mem_map,List.mem_range]
 have hm:=Nat.mul_le_mul_right T (show r+1<=R from hp.1)
 rw [Nat.succ_mul] at hm
 refine⟨r*T+t,by omega,?_⟩
 rw [Nat.mul_comm,Nat.mul_add_div (by omega),Nat.div_eq_of_lt hp.2,Nat.mul_add_mod,Nat.mod_eq_of_lt hp.2]
 rfl
theorem key_mem {kf:Nat->Nat × Nat->List Int} {T R a:Nat} {p:Nat × Nat} (hp:p.1<R/\p.2<T):kf a p ∈ dedup (ascS ((ptN T (R*T)).map (kf a))):=
 dedup_mem.2 ((ascS_perm _).mem_iff.2 (List.mem_map_of_mem (ptN_mem hp)))
theorem rank_iff {kf:Nat->Nat × Nat->List Int} {T R a:Nat} {p q:Nat × Nat} (hp:p.1<R/\p.2<T) (hq:q.1<R/\q.2<T):rankA kf (ptN T (R*T)) a p=rankA kf (ptN T (R*T)) a q ↔ kf a p=kf a q:=by
 unfold rankA
 rw [<- below_iff (key_mem hp) (key_mem hq)]
 omega
theorem renN_len (rs:List RunA) (A T:Nat) (kf:Nat->Nat × Nat->List Int):(renN rs A T kf).length=rs.length:=renR_len _ _ _ _
theorem renN_ok {rs:List RunA} {A F T:Nat} {kf:Nat->Nat × Nat->List Int} (ok:OkR rs A F T):OkR (renN rs A T kf) A F T:=renR_ok ok
theorem renN_loc {rs:List RunA} {A T:Nat} {kf:Nat->Nat × Nat->List Int} {a:Nat} {p q:Nat × Nat} (ha:a<A) (hp:p.1<rs.length/\p.2<T) (hq:q.1<rs.length/\q.2<T):locA (renN rs A T kf) a p=locA (renN rs A T kf) a q ↔ kf a p=kf a q:=by
 unfold renN
 rw [renR_loc ha hp,renR_loc ha hq,rank_iff hp hq]
end Ru
theorem clock16 {rs:List RunA} {A F T:Nat} (ok:OkR rs A F T):Runs Tryz.prog 23 [sD A F T rs] (.tup [sD A F T (renN rs A T (clockK rs)),.int .i64 0]):=by
 have h:=renumber36 ok (clock37 ok)
 unfold renN
 generalize renR rs A T (rankA (clockK rs) (ptN T (rs.length*T)))= rs' at h ⊢
 unfold sD at h ⊢
 refine CallT.go_fn mixed Tryz.func23 k23 (by simp) fun hf=>?_
 simp only [ZA,ZB,ZC,ZD,ZE,↓reduceIte,reduceIte,ZF,ZG,ZH,ZI,ZJ,reduceCtorEq,ZK,↓zU,↓zD,zV,zT,zW]
 (repeat refine sd ?_)
 refine .go h ?_
 simp only [ZA,ZB,ZC,ZD,ZE,↓reduceIte,reduceIte,ZF,ZG,ZH,ZI,ZJ,reduceCtorEq,ZK,↓zU,↓zD,zV,zT,zW]
 exact .drop (by simp) (by simp [vw,vwL])
theorem remember18 {rs:List RunA} {A F T:Nat} (ok:OkR rs A F T):Runs Tryz.prog 24 [sD A F T rs] (.tup [sD A F T (renN rs A T (hisA rs)),.int .i64 0]):=by
 have h:=renumber36 ok (remember40 ok)
 unfold renN
 generalize renR rs A T (rankA (hisA rs) (ptN T (rs.length*T)))= rs' at h ⊢
 unfold sD at h ⊢
 refine CallT.go_fn mixed Tryz.func24 k24 (by simp) fun hf=>?_
 simp only [ZA,ZB,ZC,ZD,ZE,↓reduceIte,reduceIte,ZF,ZG,ZH,ZI,ZJ,reduceCtorEq,ZK,↓zU,↓zD,zV,zT,zW]
 (repeat refine sd ?_)
 refine .go h ?_
 simp only [ZA,ZB,ZC,ZD,ZE,↓reduceIte,reduceIte,ZF,ZG,ZH,ZI,ZJ,reduceCtorEq,ZK,↓zU,↓zD,zV,zT,zW]
 exact .drop (by simp) (by simp [vw,vwL])
end Go.Pd
