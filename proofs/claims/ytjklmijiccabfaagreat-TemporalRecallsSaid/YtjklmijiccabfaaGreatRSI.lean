/- Part SI. -/
import Derived.Test.YtjklmijiccabfaaGreatRSH
set_option linter.unusedSectionVars false
set_option linter.unusedVariables false
set_option linter.unusedSimpArgs false
set_option linter.defProp false
set_option maxRecDepth 20000
set_option maxHeartbeats 1000000
namespace Go.Pd
open Go Go.Proofs
open Ru
namespace Ru
def rankA (kf:Nat->Nat × Nat->List Int) (l:List (Nat × Nat)) (a:Nat) (p:Nat × Nat):Int:=below (dedup (ascS (l.map (kf a)))) (kf a p)
def renR (rs:List RunA) (A T:Nat) (num:Nat->Nat × Nat->Int):List RunA:=
 (List.range rs.length).map fun i=>⟨(List.range T).map fun t=>(List.range A).map fun a=>num a (i,t),(rs.getD i run0).fac⟩
def valN (num:Nat->Nat × Nat->Int) (A T a w i t:Nat):List Int:=(List.range A).map fun b=>if b<a\/(b=a/\i*T+t<w) then num b (i,t) else 0
def rowN (rs:List RunA) (T:Nat) (kl:Nat->Nat) (i:Nat):List D:=[.osl (kl i) 1 T,.sl 1 (us (rs.getD i run0).fac)]
def rowsN (rs:List RunA) (T:Nat) (kl:Nat->Nat) (r:Nat):List (List D):=(List.range r).map (rowN rs T kl)
def rowL (A:Nat) (k:Nat->Nat) (t:Nat):List (List D):=(List.range t).map fun i=>[D.osl (k i) 1 A]
theorem rowsN_len (rs:List RunA) (T:Nat) (kl:Nat->Nat) (r:Nat):(rowsN rs T kl r).length=r:=by simp [rowsN]
theorem rowsN_get (rs:List RunA) (T:Nat) (kl:Nat->Nat) {r i:Nat} (h:i<r):(rowsN rs T kl r).getD i [] = [.osl (kl i) 1 T,.sl 1 (us (rs.getD i run0).fac)]:=by simp [rowsN,rowN,List.getD,h]
theorem rowL_len (A:Nat) (k:Nat->Nat) (t:Nat):(rowL A k t).length=t:=by simp [rowL]
theorem rowL_get (A:Nat) (k:Nat->Nat) {t i:Nat} (h:i<t):(rowL A k t).getD i [] = [D.osl (k i) 1 A]:=by simp [rowL,List.getD,h]
theorem rowsN_succ (rs:List RunA) (T:Nat) (kl:Nat->Nat) (r n:Nat):rowsN rs T (fun i=>if i=r then n else kl i) (r+1)= rowsN rs T kl r ++ [[.osl n 1 T,.sl 1 (us (rs.getD r run0).fac)]]:=by
 unfold rowsN
 rw [List.range_succ,List.map_append]
 congr 1
 ·refine List.map_congr_left fun i hi=>?_
  have hi':=List.mem_range.1 hi
  unfold rowN
  simp only [if_neg (show ¬ i=r by omega)]
 ·simp [rowN]
theorem rowL_succ (A:Nat) (k:Nat->Nat) (t n:Nat):rowL A (fun i=>if i=t then n else k i) (t+1)= rowL A k t ++ [[D.osl n 1 A]]:=by
 unfold rowL
 rw [List.range_succ,List.map_append]
 congr 1
 ·refine List.map_congr_left fun i hi=>?_
  have hi':=List.mem_range.1 hi
  simp only [if_neg (show ¬ i=t by omega)]
 ·simp
theorem grow_pos {key sz:Nat} {els:List (List D)} (h:0<els.length):growD key sz els = .osl key sz els.length:=by
 cases els with
 | nil=>simp at h
 | cons e r=>rfl
theorem growG_pos {sz:Nat} {els:List (List D)} (h:0<els.length):growG sz els=some ⟨sz,els⟩:=by
 cases els with
 | nil=>simp at h
 | cons e r=>rfl
structure NI (rs : List RunA) (A F T nb r kr : Nat) (kl : Nat -> Nat) (ki : Nat -> Nat -> Nat) (v : Nat -> Nat -> List Int) (objs : List (Nat × Ob)) : Prop where
 l0:St.look objs 0=some ⟨4,[[.int .i64 (A:Int),.int .i64 (F:Int),.int .i64 (T:Int),.sl 2 (runR rs)]]⟩
 l1:St.look objs 1=some ⟨4,[[.int .i64 0,.int .i64 0,.int .i64 0,.nils]]⟩
 l2:St.look objs 2=some ⟨4,[[.int .i64 (A:Int),.int .i64 (F:Int),.int .i64 (T:Int),.sl 2 (runR rs)]]⟩
 l3:St.look objs 3=some ⟨4,[[.int .i64 0,.int .i64 0,.int .i64 0,.nils]]⟩
 l4:St.look objs 4=some ⟨4,[[.int .i64 (A:Int),.int .i64 (F:Int),.int .i64 (T:Int),growD kr 2 (rowsN rs T kl r)]]⟩
 fr:St.look objs 1000000=none
 lr:St.look objs kr=growG 2 (rowsN rs T kl r)
 k5:5<=nb
 hk:5<=kr/\(kr<nb\/kr=1000000)
 ll:∀ i,i<r->5<=kl i/\kl i<nb/\kl i≠kr/\St.look objs (kl i)= some ⟨1,rowL A (ki i) T⟩
 li:∀ i t,i<r->t<T->5<=ki i t/\ki i t<nb/\ki i t≠kr/\St.look objs (ki i t)= some ⟨1,rows .i64 (v i t)⟩
 dl:∀ i j,i<r->j<r->kl i=kl j->i=j
 dm:∀ i j t,i<r->j<r->t<T->kl i≠ki j t
 di:∀ i j t u,i<r->j<r->t<T->u<T->ki i t=ki j u->i=j/\t=u
theorem NI.frame {rs:List RunA} {A F T nb r kr:Nat} {kl:Nat->Nat} {ki:Nat->Nat->Nat} {v:Nat->Nat->List Int} {objs objs':List (Nat × Ob)} (h:NI rs A F T nb r kr kl ki v objs)
  (hs:∀ k,k<nb->St.look objs' k=St.look objs k) (hf:St.look objs' 1000000=none):NI rs A F T nb r kr kl ki v objs' where
 l0:=by rw [hs _ (by have:=h.k5; omega)]; exact h.l0
 l1:=by rw [hs _ (by have:=h.k5; omega)]; exact h.l1
 l2:=by rw [hs _ (by have:=h.k5; omega)]; exact h.l2
 l3:=by rw [hs _ (by have:=h.k5; omega)]; exact h.l3
 l4:=by rw [hs _ (by have:=h.k5; omega)]; exact h.l4
 fr:=hf
 lr:=by
  rcases h.hk.2 with e | e
  ·rw [hs _ e]; exact h.lr
  ·have:=h.lr
   rw [e,h.fr] at this
   rw [e,hf]; exact this
 k5:=h.k5
 hk:=h.hk
 ll:=fun i hi=>by obtain⟨a,b,c,d⟩:=h.ll i hi; exact⟨a,b,c,by rw [hs _ b]; exact d⟩
 li:=fun i t hi ht=>by obtain⟨a,b,c,d⟩:=h.li i t hi ht; exact⟨a,b,c,by rw [hs _ b]; exact d⟩
 dl:=h.dl
 dm:=h.dm
 di:=h.di
theorem NI.more {rs:List RunA} {A F T nb r kr:Nat} {kl:Nat->Nat} {ki:Nat->Nat->Nat} {v:Nat->Nat->List Int} {objs objs':List (Nat × Ob)} (h:NI rs A F T nb r kr kl ki v objs)
  {nb' kr' kL:Nat} {kj:Nat->Nat} (hn:nb<=nb') (hb:nb'<1000000) (h4:St.look objs' 4=some ⟨4,[[.int .i64 (A:Int),.int .i64 (F:Int),.int .i64 (T:Int),growD kr' 2 (rowsN rs T (fun i=>if i=r then kL else kl i) (r+1))]]⟩)
  (hs:∀ k,k<nb->k≠4->k≠kr->St.look objs' k=St.look objs k) (hf:St.look objs' 1000000=none)
  (hr:St.look objs' kr'=growG 2 (rowsN rs T (fun i=>if i=r then kL else kl i) (r+1))) (hkr:nb<=kr'/\kr'<nb')
  (hL:nb<=kL/\kL<nb'/\kL≠kr'/\St.look objs' kL=some ⟨1,rowL A kj T⟩)
  (hj:∀ t,t<T->nb<=kj t/\kj t<nb'/\kj t≠kr'/\kj t≠kL/\St.look objs' (kj t)= some ⟨1,rows .i64 (v r t)⟩)
  (hd:∀ t u,t<T->u<T->kj t=kj u->t=u):NI rs A F T nb' (r+1) kr' (fun i=>if i=r then kL else kl i) (fun i=>if i=r then kj else ki i) v objs' where
 l0:=by rw [hs _ (by have:=h.k5; omega) (by omega) (by have:=h.hk.1; omega)]; exact h.l0
 l1:=by rw [hs _ (by have:=h.k5; omega) (by omega) (by have:=h.hk.1; omega)]; exact h.l1
 l2:=by rw [hs _ (by have:=h.k5; omega) (by omega) (by have:=h.hk.1; omega)]; exact h.l2
 l3:=by rw [hs _ (by have:=h.k5; omega) (by omega) (by have:=h.hk.1; omega)]; exact h.l3
 l4:=h4
 fr:=hf
 lr:=hr
 k5:=by have:=h.k5; omega
 hk:=by have:=h.k5; omega
 ll:=fun i hi=>by
  have:=h.k5
  by_cases e:i=r
  ·subst e
   simp only [if_true]
   obtain⟨a,b,c,d⟩:=hL
   exact⟨by omega,b,c,d⟩
  ·simp only [if_neg e]
   obtain⟨a,b,c,d⟩:=h.ll i (by omega)
   exact⟨a,by omega,by omega,by rw [hs _ b (by omega) c]; exact d⟩
 li:=fun i t hi ht=>by
  have:=h.k5
  by_cases e:i=r
  ·subst e
   simp only [if_true]
   obtain⟨a,b,c,_,d⟩:=hj t ht
   exact⟨by omega,b,c,d⟩
  ·simp only [if_neg e]
   obtain⟨a,b,c,d⟩:=h.li i t (by omega) ht
   exact⟨a,by omega,by omega,by rw [hs _ b (by omega) c]; exact d⟩
 dl:=fun i j hi hj' e=>by
  by_cases ei:i=r <;> by_cases ej:j=r
  ·omega
  ·subst ei
   simp only [if_true,if_neg ej] at e
   have:=h.ll j (by omega)
   omega
  ·subst ej
   simp only [if_true,if_neg ei] at e
   have:=h.ll i (by omega)
   omega
  ·simp only [if_neg ei,if_neg ej] at e
   exact h.dl i j (by omega) (by omega) e
 dm:=fun i j t hi hj' ht=>by
  by_cases ei:i=r <;> by_cases ej:j=r
  ·subst ei; subst ej
   simp only [if_true]
   have:=hj t ht
   omega
  ·subst ei
   simp only [if_true,if_neg ej]
   have:=h.li j t (by omega) ht
   omega
  ·subst ej
   simp only [if_true,if_neg ei]
   have:=h.ll i (by omega)
   have:=hj t ht
   omega
  ·simp only [if_neg ei,if_neg ej]
   exact h.dm i j t (by omega) (by omega) ht
 di:=fun i j t u hi hj' ht hu e=>by
  by_cases ei:i=r <;> by_cases ej:j=r
  ·subst ei; subst ej
   simp only [if_true] at e
   exact⟨rfl,hd t u ht hu e⟩
  ·subst ei
   simp only [if_true,if_neg ej] at e
   have:=h.li j u (by omega) hu
   have:=hj t ht
   omega
  ·subst ej
   simp only [if_true,if_neg ei] at e
   have:=h.li i t (by omega) ht
   have:=hj u hu
   omega
  ·simp only [if_neg ei,if_neg ej] at e
   exact h.di i j t u (by omega) (by omega) ht hu e
structure BI (A nb : Nat) (fac : List (BitVec 64)) (t kL : Nat) (kj : Nat -> Nat) (nx : Nat) (objs0 objs : List (Nat × Ob)) : Prop where
 n2:nb+2<=nx/\nx<=nb+2+3*t
 ln:St.look objs (nb+1)= some ⟨2,[[growD kL 1 (rowL A kj t),.sl 1 (us fac)]]⟩
 lL:St.look objs kL=growG 1 (rowL A kj t)
 hL:(nb+2<=kL/\kL<nx)\/kL=1000000
 lj:∀ i,i<t->nb+2<=kj i/\kj i<nx/\kj i≠kL/\St.look objs (kj i)= some ⟨1,List.replicate A [.int .i64 0]⟩
 dj:∀ i j,i<t->j<t->kj i=kj j->i=j
 old:∀ k,k<nb->St.look objs k=St.look objs0 k
 fr:St.look objs 1000000=none
end Ru
end Go.Pd
