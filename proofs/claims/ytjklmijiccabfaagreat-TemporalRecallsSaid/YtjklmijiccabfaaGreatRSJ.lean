/- Part SJ. -/
import Derived.Test.YtjklmijiccabfaaGreatRSI
set_option linter.unusedSectionVars false
set_option linter.unusedVariables false
set_option linter.unusedSimpArgs false
set_option linter.defProp false
set_option maxRecDepth 20000
set_option maxHeartbeats 1000000
namespace Go.Pd
open Go Go.Proofs
open Ru
namespace Ru
theorem valN_len (num:Nat->Nat × Nat->Int) (A T a w i t:Nat):(valN num A T a w i t).length=A:=by simp [valN]
theorem valN_all {num:Nat->Nat × Nat->Int} {A T a n i t:Nat} (h:i*T+t<n):valN num A T a n i t=valN num A T (a+1) 0 i t:=by
 unfold valN
 refine List.map_congr_left fun b _=>?_
 by_cases e:b<a+1
 ·rw [if_pos (by omega),if_pos (.inl e)]
 ·rw [if_neg (by omega),if_neg (by omega)]
theorem valN_set {num:Nat->Nat × Nat->Int} {A T a w i t:Nat} (h:i*T+t=w):(valN num A T a w i t).set a (num a (i,t))= valN num A T a (w+1) i t:=by
 refine List.ext_getElem (by simp [valN]) fun k h1 h2=>?_
 rw [List.getElem_set]
 simp only [valN,List.getElem_map,List.getElem_range]
 by_cases e:a=k
 ·subst e; rw [if_pos rfl,if_pos (by omega)]
 ·rw [if_neg e]
  by_cases hk:k<a
  ·rw [if_pos (by omega),if_pos (by omega)]
  ·rw [if_neg (by omega),if_neg (by omega)]
theorem valN_ne {num:Nat->Nat × Nat->Int} {A T a w i t:Nat} (h:i*T+t≠w):valN num A T a w i t=valN num A T a (w+1) i t:=by
 unfold valN
 refine List.map_congr_left fun b _=>?_
 by_cases e:b<a\/(b=a/\i*T+t<w)
 ·rw [if_pos e,if_pos (by omega)]
 ·rw [if_neg e,if_neg (by omega)]
theorem valN_end (num:Nat->Nat × Nat->Int) (A T i t:Nat):valN num A T A 0 i t=(List.range A).map fun a=>num a (i,t):=by
 unfold valN
 refine List.map_congr_left fun b hb=>?_
 rw [if_pos (.inl (List.mem_range.1 hb))]
theorem NI.val {rs:List RunA} {A F T nb r kr:Nat} {kl:Nat->Nat} {ki:Nat->Nat->Nat} {v v':Nat->Nat->List Int} {objs:List (Nat × Ob)} (h:NI rs A F T nb r kr kl ki v objs)
  (hv:∀ i t,i<r->t<T->v i t=v' i t):NI rs A F T nb r kr kl ki v' objs:=
 { h with li:=fun i t hi ht=>by rw [<- hv i t hi ht]; exact h.li i t hi ht }
theorem NI.upd {rs:List RunA} {A F T nb r kr:Nat} {kl:Nat->Nat} {ki:Nat->Nat->Nat} {v v':Nat->Nat->List Int} {objs objs':List (Nat × Ob)} (h:NI rs A F T nb r kr kl ki v objs) {i t:Nat} (hi:i<r) (ht:t<T)
  (hn:∀ j u,j<r->u<T->¬ (j=i/\u=t)->v j u=v' j u) (hx:St.look objs' (ki i t)= some ⟨1,rows .i64 (v' i t)⟩)
  (hs:∀ k,k<nb->k≠ki i t->St.look objs' k=St.look objs k) (hf:St.look objs' 1000000=none):NI rs A F T nb r kr kl ki v' objs':=by
 obtain⟨q1,q2,q3,q4⟩:=h.li i t hi ht
 have k5:=h.k5
 refine⟨by rw [hs _ (by omega) (by omega)]; exact h.l0,by rw [hs _ (by omega) (by omega)]; exact h.l1,by rw [hs _ (by omega) (by omega)]; exact h.l2,by rw [hs _ (by omega) (by omega)]; exact h.l3,by rw [hs _ (by omega) (by omega)]; exact h.l4,hf,?_,k5,h.hk,fun j hj=>?_,fun j u hj hu=>?_,h.dl,h.dm,h.di⟩
 ·rcases h.hk.2 with e | e
  ·rw [hs _ e (by omega)]; exact h.lr
  ·have:=h.lr
   rw [e,h.fr] at this
   rw [e,hf]; exact this
 ·obtain⟨a,b,c,d⟩:=h.ll j hj
  exact⟨a,b,c,by rw [hs _ b (h.dm j i t hj hi ht)]; exact d⟩
 ·obtain⟨a,b,c,d⟩:=h.li j u hj hu
  refine⟨a,b,c,?_⟩
  by_cases e:j=i/\u=t
  ·obtain⟨rfl,rfl⟩:=e
   exact hx
  ·rw [hs _ b (fun e2=>e (h.di j i u t hj hi hu ht e2)),d,hn j u hj hu e]
theorem vwE_map {σ σ':St} {ρ:Nat->Nat} {α:Type} {f g:α->List D}:∀ {l:List α},(∀ i ∈ l,(f i).length=(g i).length/\vwL σ σ' ρ (f i) (g i))->vwE σ σ' ρ (l.map f) (l.map g)
 | [],_=>.nil
 | x :: l,h=>.cons (h x (by simp)).1 (h x (by simp)).2 (vwE_map fun i hi=>h i (List.mem_cons_of_mem _ hi))
theorem look_map {α:Type} {k:α->Nat} {o:α->Ob}:∀ {l:List α} {x:α},x ∈ l->(∀ y ∈ l,k y=k x->y=x)->St.look (l.map fun i=>(k i,o i)) (k x)= some (o x)
 | [],x,h,_=>by cases h
 | y :: l,x,h,hi=>by
  rw [List.map_cons,look_cons]
  by_cases e:k y=k x
  ·rw [if_pos e,hi y (by simp) e]
  ·rw [if_neg e]
   refine look_map ?_ fun z hz=>hi z (List.mem_cons_of_mem _ hz)
   rcases List.mem_cons.1 h with e2 | e2
   ·exact absurd (by rw [e2]) e
   ·exact e2
theorem look_ne {j k:Nat} {o:Ob} {r:List (Nat × Ob)} (h:¬ j=k):St.look ((j,o) :: r) k=St.look r k:=by rw [look_cons,if_neg h]
def fz1 (rs:List RunA) (A F T kr:Nat) (kl:Nat->Nat) (v:Nat->Nat->List Int):List (Nat × Ob):=
 (4,⟨4,[[.int .i64 (A:Int),.int .i64 (F:Int),.int .i64 (T:Int),.osl kr 2 rs.length]]⟩) :: (kr,⟨2,rowsN rs T kl rs.length⟩) :: (3,⟨4,[[.int .i64 0,.int .i64 0,.int .i64 0,.nils]]⟩) :: (1,⟨4,[[.int .i64 0,.int .i64 0,.int .i64 0,.nils]]⟩) ::
  (0,⟨4,[[.int .i64 (A:Int),.int .i64 (F:Int),.int .i64 (T:Int),.sl 2 (runR rs)]]⟩) :: (List.range rs.length).map fun i=>(kl i,⟨1,rl ((List.range T).map (v i))⟩)
def fz2 (rs rs':List RunA) (A F T kr:Nat):List (Nat × Ob):=
 [(4,⟨4,[[.int .i64 (A:Int),.int .i64 (F:Int),.int .i64 (T:Int),.osl kr 2 rs.length]]⟩),(kr,⟨2,runR rs'⟩),(3,⟨4,[[.int .i64 0,.int .i64 0,.int .i64 0,.nils]]⟩),(1,⟨4,[[.int .i64 0,.int .i64 0,.int .i64 0,.nils]]⟩),
  (0,⟨4,[[.int .i64 (A:Int),.int .i64 (F:Int),.int .i64 (T:Int),.sl 2 (runR rs)]]⟩)]
theorem freeze1 {C:Cx} {f:Fr} {rs:List RunA} {A F T nb kr nx:Nat} {kl:Nat->Nat} {ki:Nat->Nat->Nat} {v:Nat->Nat->List Int} {objs:List (Nat × Ob)} (hI:NI rs A F T nb rs.length kr kl ki v objs) (hc:C.n0=2) (hx:nb<=nx)
  (hR:0<rs.length) (hv:∀ i t,i<rs.length->t<T->(v i t).length=A) (h4:f.get 4 = .ref 3 4 0 0) (h7:f.get 7 = .ref 4 4 0 0):Weak C f ⟨nx,objs⟩ [(4,.ref 3 4 0 0),(7,.ref 4 4 0 0)] ⟨nx,fz1 rs A F T kr kl v⟩:=by
 have k5:=hI.k5
 have hkr:kr<nb:=by
  rcases hI.hk.2 with e | e
  ·exact e
  ·have:=hI.lr
   rw [e,hI.fr,growG_pos (by rw [rowsN_len]; exact hR)] at this
   cases this
 have hg:growD kr 2 (rowsN rs T kl rs.length)= .osl kr 2 rs.length:=by rw [grow_pos (by rw [rowsN_len]; exact hR),rowsN_len]
 have l4:=hI.l4
 rw [hg] at l4
 have lr:=hI.lr
 rw [growG_pos (by rw [rowsN_len]; exact hR)] at lr
 refine Weak.view (fun k=>k) (by rw [hc]; show 2<=nx; omega) (fun _ _=>rfl) ?_ ?_ (fun p _ q _ e=>e)
 ·simp only [vwF,vw,h4,h7]
  exact⟨⟨by omega,trivial⟩,⟨by omega,trivial⟩,trivial⟩
 ·intro p hp
  simp only [fz1,List.mem_cons,List.mem_map,List.mem_range] at hp
  rcases hp with rfl | rfl | rfl | rfl | rfl | ⟨i,hi,rfl⟩
  ·refine⟨by show 4<nx; omega,_,l4,rfl,.cons rfl ?_ .nil⟩
   simp only [vwL,vw,and_true,true_and]
   omega
  ·refine⟨by show kr<nx; omega,_,lr,rfl,?_⟩
   refine vwE_map fun i hi=>⟨rfl,?_⟩
   have:=hI.ll i (List.mem_range.1 hi)
   simp only [rowN,vwL,vw,and_true,true_and]
   omega
  ·exact⟨by show 3<nx; omega,_,hI.l3,rfl,.same (by simp [D.isPureL,D.isPure])⟩
  ·exact⟨by show 1<nx; omega,_,hI.l1,rfl,.same (by simp [D.isPureL,D.isPure])⟩
  ·exact⟨by show 0<nx; omega,_,hI.l0,rfl,.same (by simp [D.isPureL,D.isPure])⟩
  ·obtain⟨a,b,c,d⟩:=hI.ll i hi
   refine⟨by show kl i<nx; omega,_,d,rfl,?_⟩
   show vwE _ _ _ (rowL A (ki i) T) (rl ((List.range T).map (v i)))
   unfold rl rowL
   rw [List.map_map]
   refine vwE_map fun t ht=>⟨rfl,?_⟩
   have ht':=List.mem_range.1 ht
   obtain⟨a',b',c',d'⟩:=hI.li i t hi ht'
   simp only [Function.comp,vwL,vw,and_true]
   refine⟨trivial,by decide,fun q hq=>?_,_,d',rfl,?_,?_,rows_pure _ _⟩
   ·simp only [fz1,List.mem_cons,List.mem_map,List.mem_range] at hq
    rcases hq with rfl | rfl | rfl | rfl | rfl | ⟨j,hj,rfl⟩
    ·show 4≠ki i t; omega
    ·exact fun e=>c' e.symm
    ·show 3≠ki i t; omega
    ·show 1≠ki i t; omega
    ·show 0≠ki i t; omega
    ·exact hI.dm j i t hj hi ht'
   ·rw [rows_len,hv i t hi ht']; exact Nat.le_refl _
   ·exact(take_all (by rw [rows_len,hv i t hi ht'])).symm
theorem freeze2 {C:Cx} {rs rs':List RunA} {A F T nb kr nx:Nat} {kl:Nat->Nat} {ki:Nat->Nat->Nat} {v v0:Nat->Nat->List Int} {objs:List (Nat × Ob)} (hI:NI rs A F T nb rs.length kr kl ki v0 objs) (hc:C.n0=2) (hx:nb<=nx) (hkr:kr<nx)
  (hT:∀ i,i<rs.length->(rl ((List.range T).map (v i))).length=T)
  (hr:rs'=(List.range rs.length).map fun i=>⟨(List.range T).map (v i),(rs.getD i run0).fac⟩):Weak C [(4,.ref 3 4 0 0),(7,.ref 4 4 0 0)] ⟨nx,fz1 rs A F T kr kl v⟩ [(4,.ref 3 4 0 0),(7,.ref 4 4 0 0)] ⟨nx,fz2 rs rs' A F T kr⟩:=by
 have k5:=hI.k5
 have hk:=hI.hk.1
 refine Weak.view (fun k=>k) (by rw [hc]; show 2<=nx; omega) (fun _ _=>rfl) ?_ ?_ (fun p _ q _ e=>e)
 ·simp only [vwF,vw,Fr.get,reduceIte,Nat.reduceEqDiff]
  exact⟨⟨by omega,trivial⟩,⟨by omega,trivial⟩,trivial⟩
 ·intro p hp
  simp only [fz2,List.mem_cons,List.not_mem_nil,or_false] at hp
  rcases hp with rfl | rfl | rfl | rfl | rfl
  ·refine⟨by show 4<nx; omega,_,rfl,rfl,.cons rfl ?_ .nil⟩
   simp only [vwL,vw,and_true,true_and]
   omega
  ·have e:St.look (fz1 rs A F T kr kl v) kr=some ⟨2,rowsN rs T kl rs.length⟩:=by unfold fz1; rw [look_ne (by omega),look_cons,if_pos rfl]
   refine⟨by show kr<nx; omega,_,e,rfl,?_⟩
   show vwE _ _ _ (rowsN rs T kl rs.length) (runR rs')
   rw [hr]
   unfold rowsN runR
   rw [List.map_map]
   refine vwE_map fun i hi=>⟨rfl,?_⟩
   have hi':=List.mem_range.1 hi
   obtain⟨a,b,c,_⟩:=hI.ll i hi'
   have hl:St.look (fz1 rs A F T kr kl v) (kl i)= some ⟨1,rl ((List.range T).map (v i))⟩:=by
    unfold fz1
    rw [look_ne (by omega),look_ne (fun e=>c e.symm),look_ne (by omega),look_ne (by omega),look_ne (by omega)]
    exact look_map (o:=fun i=>⟨1,rl ((List.range T).map (v i))⟩) hi fun j hj e=>hI.dl j i (List.mem_range.1 hj) hi' e
   have hh:=hT i hi'
   simp only [rowN,Function.comp,RunA.row,vwL,vw,and_true,true_and]
   refine⟨by decide,fun q hq=>?_,_,hl,rfl,?_,?_,rl_pure _⟩
   ·simp only [fz2,List.mem_cons,List.not_mem_nil,or_false] at hq
    rcases hq with rfl | rfl | rfl | rfl | rfl
    ·show 4≠kl i; omega
    ·exact fun e=>c e.symm
    ·show 3≠kl i; omega
    ·show 1≠kl i; omega
    ·show 0≠kl i; omega
   ·show T<=(rl _).length
    rw [hh]; exact Nat.le_refl _
   ·exact(take_all hh.symm).symm
  ·have e:St.look (fz1 rs A F T kr kl v) 3=some ⟨4,[[.int .i64 0,.int .i64 0,.int .i64 0,.nils]]⟩:=by unfold fz1; rw [look_ne (by omega),look_ne (by omega)]; rfl
   exact⟨by show 3<nx; omega,_,e,rfl,.same (by simp [D.isPureL,D.isPure])⟩
  ·have e:St.look (fz1 rs A F T kr kl v) 1=some ⟨4,[[.int .i64 0,.int .i64 0,.int .i64 0,.nils]]⟩:=by unfold fz1; rw [look_ne (by omega),look_ne (by omega)]; rfl
   exact⟨by show 1<nx; omega,_,e,rfl,.same (by simp [D.isPureL,D.isPure])⟩
  ·have e:St.look (fz1 rs A F T kr kl v) 0=some ⟨4,[[.int .i64 (A:Int),.int .i64 (F:Int),.int .i64 (T:Int),.sl 2 (runR rs)]]⟩:=by unfold fz1; rw [look_ne (by omega),look_ne (by omega)]; rfl
   exact⟨by show 0<nx; omega,_,e,rfl,.same (by simp [D.isPureL,D.isPure])⟩
end Ru
end Go.Pd
