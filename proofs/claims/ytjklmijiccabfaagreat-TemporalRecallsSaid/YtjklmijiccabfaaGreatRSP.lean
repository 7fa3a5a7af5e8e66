/- Part SP. -/
import Derived.Test.YtjklmijiccabfaaGreatRSO
set_option linter.unusedSectionVars false
set_option linter.unusedVariables false
set_option linter.unusedSimpArgs false
set_option linter.defProp false
set_option maxRecDepth 20000
set_option maxHeartbeats 1000000
namespace Go.Pd
open Go Go.Proofs
namespace Ru
def hT (f:Nat->Int):Nat->List Int
 | 0=>[]
 | k+1=>if 0<k/\f k=f (k-1) then hT f k else hT f k ++ [f k]
theorem diTo_hT {l:List Int} {f:Nat->Int}:∀ {k:Nat},(∀ i,i<k->l.getD i 0=f i)->diTo l k=hT f k
 | 0,_=>rfl
 | k+1,h=>by
  unfold diTo hT
  rw [h k (by omega)]
  by_cases c:0<k
  ·rw [h (k-1) (by omega),diTo_hT fun i hi=>h i (by omega)]
  ·rw [if_neg (fun e=>c e.1),if_neg (fun e=>c e.1),diTo_hT fun i hi=>h i (by omega)]
theorem his_hT (rs:List RunA) (a i t:Nat):hisA rs a (i,t)= hT (fun u=>locA rs a (i,u)) (t+1):=by
 unfold hisA dedI
 simp only [locT_len]
 exact diTo_hT fun j hj=>by simp [locT,List.getD,hj]
theorem hT_last (f:Nat->Int):∀ k,(hT f (k+1)).getLast?=some (f k)
 | 0=>by simp [hT]
 | k+1=>by
  rw [hT]
  by_cases c:0<k+1/\f (k+1)= f (k+1-1)
  ·rw [if_pos c,hT_last f k,c.2]; rfl
  ·rw [if_neg c,List.getLast?_concat]
theorem his_last {rs:List RunA} {a:Nat} {p q:Nat × Nat} (h:hisA rs a p=hisA rs a q):locA rs a p=locA rs a q:=by
 obtain⟨i,t⟩:=p
 obtain⟨j,u⟩:=q
 rw [his_hT,his_hT] at h
 have h1:=hT_last (fun u=>locA rs a (i,u)) t
 have h2:=hT_last (fun v=>locA rs a (j,v)) u
 rw [h,h2] at h1
 exact(Option.some.inj h1).symm
def gH (N:List Int->Int) (h:List Int):List Int:=(List.range h.length).map fun j=>N (h.take (j+1))
theorem gH_snoc (N:List Int->Int) (h:List Int) (x:Int):gH N (h ++ [x])= gH N h ++ [N (h ++ [x])]:=by
 unfold gH
 rw [List.length_append,List.length_singleton,List.range_succ,List.map_append]
 congr 1
 ·refine List.map_congr_left fun j hj=>?_
  have:=List.mem_range.1 hj
  rw [List.take_append_of_le_length (by omega)]
 ·simp only [List.map_cons,List.map_nil]
  rw [List.take_of_length_le (by simp)]
theorem hT_num {f g:Nat->Int} {N:List Int->Int} {T:Nat} (hg:∀ t,t<T->g t=N (hT f (t+1))) (hinj:∀ t u,t<T->u<T->N (hT f (t+1))= N (hT f (u+1))->hT f (t+1)= hT f (u+1)) :
  ∀ k,k<=T->hT g k=gH N (hT f k)
 | 0,_=>rfl
 | k+1,hk=>by
  have ih:=hT_num hg hinj k (by omega)
  have gk:=hg k (by omega)
  by_cases c:0<k/\f k=f (k-1)
  ·have e:hT f (k+1)= hT f k:=by rw [hT,if_pos c]
   have gk1:=hg (k-1) (by omega)
   rw [show k-1+1=k by omega] at gk1
   have c2:0<k/\g k=g (k-1):=⟨c.1,by rw [gk,gk1,e]⟩
   rw [hT,if_pos c2,ih,e]
  ·have e:hT f (k+1)= hT f k ++ [f k]:=by rw [hT,if_neg c]
   have c2:¬ (0<k/\g k=g (k-1)):=fun⟨h0,h1⟩=>by
    have gk1:=hg (k-1) (by omega)
    rw [gk,gk1] at h1
    have h2:=hinj k (k-1) (by omega) (by omega) h1
    rw [show k-1+1=k by omega,e] at h2
    have:=congrArg List.length h2
    simp at this
   rw [hT,if_neg c2,ih,e,gH_snoc,gk,e]
def rkN (rs:List RunA) (T:Nat) (kf:Nat->Nat × Nat->List Int) (a:Nat) (h:List Int):Int:=below (dedup (ascS ((ptN T (rs.length*T)).map (kf a)))) h
theorem renN_at {rs:List RunA} {A T:Nat} {kf:Nat->Nat × Nat->List Int} {a:Nat} {p:Nat × Nat} (ha:a<A) (hp:p.1<rs.length/\p.2<T):locA (renN rs A T kf) a p=rkN rs T kf a (kf a p):=renR_loc ha hp
theorem rem_his {rs:List RunA} {A T a:Nat} {p:Nat × Nat} (ha:a<A) (hp:p.1<rs.length/\p.2<T):hisA (renN rs A T (hisA rs)) a p=gH (rkN rs T (hisA rs) a) (hisA rs a p):=by
 obtain⟨i,t⟩:=p
 simp only at hp
 rw [his_hT,his_hT]
 refine hT_num (T:=T) (fun u hu=>?_) (fun u v hu hv e=>?_) (t+1) (by omega)
 ·rw [renN_at ha (p:=(i,u)) ⟨hp.1,hu⟩,his_hT]
 ·rw [<- his_hT,<- his_hT] at e ⊢
  exact(rank_iff (p:=(i,u)) (q:=(i,v)) ⟨hp.1,hu⟩ ⟨hp.1,hv⟩).1 e
theorem rem_recalls {rs:List RunA} {A T a:Nat} {p q:Nat × Nat} (ha:a<A) (hp:p.1<rs.length/\p.2<T) (hq:q.1<rs.length/\q.2<T) (h:locA (renN rs A T (hisA rs)) a p=locA (renN rs A T (hisA rs)) a q) :
  hisA (renN rs A T (hisA rs)) a p=hisA (renN rs A T (hisA rs)) a q:=by
 rw [rem_his ha hp,rem_his ha hq,(renN_loc ha hp hq).1 h]
theorem recB_true {rs:List RunA} {A T:Nat} (hT:1<=T) (h:∀ (a:Nat) (p q:Nat × Nat),a<A->p.1<rs.length/\p.2<T->q.1<rs.length/\q.2<T->locA rs a p=locA rs a q->hisA rs a p=hisA rs a q):recB rs A (ptN T (rs.length*T))= true:=by
 have hin:Inb rs T (ptN T (rs.length*T)):=ptN_in hT (Nat.le_refl _)
 refine range_done fun a ha=>rc2_done fun i j hi hj e=>?_
 exact h a _ _ ha (hin _ (getD_mem hi)) (hin _ (getD_mem hj)) e
theorem recB_use {rs:List RunA} {A T:Nat} (h:recB rs A (ptN T (rs.length*T))= true) {a:Nat} {p q:Nat × Nat} (ha:a<A) (hp:p.1<rs.length/\p.2<T) (hq:q.1<rs.length/\q.2<T) (e:locA rs a p=locA rs a q):hisA rs a p=hisA rs a q:=by
 have h1:=List.all_eq_true.1 h a (List.mem_range.2 ha)
 have h2:=List.all_eq_true.1 h1 p (ptN_mem hp)
 have h3:=List.all_eq_true.1 h2 q (ptN_mem hq)
 unfold rc1 at h3
 rw [decide_eq_true e] at h3
 simpa using h3
theorem syncB_eq {rs:List RunA} {A F T:Nat} (ok:OkR rs A F T):syncB ⟨A,F,T,rs⟩= (ptN T (rs.length*T)).all (sy3 rs A (ptN T (rs.length*T))):=by
 have hz:=okR_chk ok
 have ep:ptsA ⟨A,F,T,rs⟩= ptN T (rs.length*T):=by unfold ptsA; rw [if_neg (by simpa using hz)]; rfl
 unfold syncB
 rw [decide_eq_true hz,Bool.true_and,ep]
 rfl
theorem syncB_true {rs:List RunA} {A F T:Nat} (ok:OkR rs A F T) (h:∀ (a:Nat) (p q:Nat × Nat),a<A->p.1<rs.length/\p.2<T->q.1<rs.length/\q.2<T->p.2≠q.2->locA rs a p≠locA rs a q):syncB ⟨A,F,T,rs⟩= true:=by
 have hin:Inb rs T (ptN T (rs.length*T)):=ptN_in ok.hT.1 (Nat.le_refl _)
 rw [syncB_eq ok]
 refine List.all_eq_true.2 fun p hp=>List.all_eq_true.2 fun q hq=>range_done fun a ha=>?_
 unfold sy1
 by_cases e:p.2=q.2
 ·simp [e]
 ·simp [h a p q ha (hin p hp) (hin q hq) e]
theorem syncB_use {rs:List RunA} {A F T:Nat} (ok:OkR rs A F T) (h:syncB ⟨A,F,T,rs⟩= true) {a:Nat} {p q:Nat × Nat} (ha:a<A) (hp:p.1<rs.length/\p.2<T) (hq:q.1<rs.length/\q.2<T) (e:p.2≠q.2):locA rs a p≠locA rs a q:=by
 rw [syncB_eq ok] at h
 have h1:=List.all_eq_true.1 h p (ptN_mem hp)
 have h2:=List.all_eq_true.1 h1 q (ptN_mem hq)
 have h3:=List.all_eq_true.1 h2 a (List.mem_range.2 ha)
 unfold sy1 at h3
 rw [decide_eq_true e] at h3
 simpa using h3
theorem clock_sync {rs:List RunA} {A T a:Nat} {p q:Nat × Nat} (ha:a<A) (hp:p.1<rs.length/\p.2<T) (hq:q.1<rs.length/\q.2<T) (e:p.2≠q.2):locA (renN rs A T (clockK rs)) a p≠locA (renN rs A T (clockK rs)) a q:=fun h=>by
 have:=(renN_loc ha hp hq).1 h
 unfold clockK at this
 simp only [List.cons.injEq] at this
 omega
theorem rem_finer {rs:List RunA} {A T a:Nat} {p q:Nat × Nat} (ha:a<A) (hp:p.1<rs.length/\p.2<T) (hq:q.1<rs.length/\q.2<T) (h:locA (renN rs A T (hisA rs)) a p=locA (renN rs A T (hisA rs)) a q):locA rs a p=locA rs a q:=
 his_last ((renN_loc ha hp hq).1 h)
end Ru
end Go.Pd
