/- Part E2. -/
import Derived.Test.YtjklmijiccabfaaGreatRE1
set_option linter.unusedSectionVars false
set_option linter.unusedVariables false
set_option linter.unusedSimpArgs false
set_option linter.defProp false
set_option maxRecDepth 20000
set_option maxHeartbeats 1000000
namespace Go.Pd
open Go Go.Proofs
open Int renaming reduceToNat -> ZA, reduceLT -> ZB, reduceLE -> ZC, reduceBEq -> ZD, reduceBNe -> ZE
open Nat renaming reduceEqDiff -> ZF, reduceAdd -> ZG, reduceBEq -> ZH, reduceLT -> ZI, reduceLeDiff -> ZJ, reduceMul -> ZK
open Rs Fm Ru Te
theorem Weak.queue1 {C:Cx} {f rest:Fr} {σ:St} {s k sz n:Nat} (h:f.get s = .osl k sz n) (hr:sameF f rest):Weak C f σ ((s,.sub k sz 0 n) :: rest) σ:=Weak.queue fun t=>by
 rw [get_cons]
 by_cases e:s=t
 ·subst e; rw [if_pos rfl]; exact .inr (.inr ⟨_,_,_,h,rfl⟩)
 ·rw [if_neg e]
  rcases sameF_get hr t with h | h
  ·exact .inl h
  ·exact .inr (.inl h)
namespace Te
def mkd (m:Nat->Bool) (N:Nat):List Bool:=(List.range N).map m
theorem mkd_len (m:Nat->Bool) (N:Nat):(mkd m N).length=N:=by simp [mkd]
theorem mkd_get {m:Nat->Bool} {N q:Nat} (h:q<N):(rbR (mkd m N)).getD q [] = [.bool (m q)]:=by simp [rbR,mkd,List.getD,h]
def mset (m:Nat->Bool) (q:Nat):Nat->Bool:=fun i=>if i=q then true else m i
theorem mkd_set {m:Nat->Bool} {N q:Nat}:(rbR (mkd m N)).set q [.bool true]=rbR (mkd (mset m q) N):=by
 refine List.ext_getElem (by simp [rbR,mkd]) fun k h1 h2=>?_
 rw [List.getElem_set]
 by_cases e:q=k
 ·subst e; rw [if_pos rfl]; simp [rbR,mkd,mset]
 ·rw [if_neg e]; simp only [rbR,mkd,mset,List.map_map,List.getElem_map,List.getElem_range,Function.comp,if_neg fun h:k=q=>e h.symm]
theorem mkd_none (N:Nat):rbR (mkd (fun _=>false) N)= List.replicate N [.bool false]:=by
 refine List.ext_getElem (by simp [rbR,mkd]) fun k h1 h2=>by simp [rbR,mkd]
def ptI (l:List Nat):List (List D):=l.map fun(q:Nat)=>[.int .i64 (q:Int)]
theorem ptI_len (l:List Nat):(ptI l).length=l.length:=by simp [ptI]
def unm (m:Nat->Bool) (N:Nat):Nat:=(List.range N).countP fun q=>!m q
theorem unm_set {m:Nat->Bool} {N q:Nat} (hq:q<N) (h:m q=false):unm (mset m q) N<unm m N:=
 countP_less (fun i _ hi=>by unfold mset at hi; split at hi <;> simp_all) ⟨q,List.mem_range.2 hq,by simp [mset,h]⟩
theorem unm_le (m:Nat->Bool) (N:Nat):unm m N<=N:=by
 have:=List.countP_le_length (p:=fun q=>!m q) (l:=List.range N)
 rw [List.length_range] at this
 exact this
structure QI (rs : List RunA) (A T g : Nat) (x : Tab) (N p : Nat) (m : Nat -> Bool) (todo : List Nat) (here k : Nat) : Prop where
 lt:∀ q ∈ todo,q<N
 mk':∀ q,q<N->m q=true->Rch rs A T g x (pt T p) (pt T q)
 wait:∀ q ∈ todo,q=p\/m q=true
 done:∀ h,h<N->(h=p\/m h=true)->h ∉ todo->∀ q,q<(if h=here then k else N)->x (pt T q)= true->relP rs A g (pt T h) (pt T q)= true->m q=true
variable {rs : List RunA} {A T g : Nat} {x : Tab} {N p : Nat} {m : Nat -> Bool} {todo : List Nat} {here k : Nat}
theorem QI.start (hp:p<N):QI rs A T g x N p (fun _=>false) [p] N 0:=
 ⟨fun q hq=>by rw [List.mem_singleton] at hq; subst hq; exact hp,fun q _ h=>absurd h (by simp),fun q hq=>.inl (List.mem_singleton.1 hq),fun h _ hh hn=>by
  rcases hh with rfl | hh
  ·exact absurd (List.mem_singleton.2 rfl) hn
  ·exact absurd hh (by simp)⟩
theorem QI.pop {h:Nat} (hI:QI rs A T g x N p m (h :: todo) N 0):QI rs A T g x N p m todo h 0:=
 ⟨fun q hq=>hI.lt q (List.mem_cons_of_mem _ hq),hI.mk',fun q hq=>hI.wait q (List.mem_cons_of_mem _ hq),fun h' hl hh hn q hq hx hr=>by
  by_cases e:h'=h
  ·rw [if_pos e] at hq; exact absurd hq (Nat.not_lt_zero _)
  ·rw [if_neg e] at hq
   exact hI.done h' hl hh (by rw [List.mem_cons,not_or]; exact⟨e,hn⟩) q (by rw [if_neg (by omega)]; exact hq) hx hr⟩
theorem QI.stay (hI:QI rs A T g x N p m todo here k) (h:x (pt T k)= true->relP rs A g (pt T here) (pt T k)= true->m k=true):QI rs A T g x N p m todo here (k+1):=
 ⟨hI.lt,hI.mk',hI.wait,fun h' hl hh hn q hq hx hr=>by
  by_cases e:h'=here
  ·rw [if_pos e] at hq
   by_cases e2:q=k
   ·subst e2; subst e; exact h hx hr
   ·exact hI.done h' hl hh hn q (by rw [if_pos e]; omega) hx hr
  ·rw [if_neg e] at hq
   exact hI.done h' hl hh hn q (by rw [if_neg e]; exact hq) hx hr⟩
theorem QI.push (hI:QI rs A T g x N p m todo here k) (hk:k<N) (hh0:here=p\/m here=true) (hhN:here<N) (hpt:pt T k ∈ ptl rs T) (hx:x (pt T k)= true) (hr:relP rs A g (pt T here) (pt T k)= true):QI rs A T g x N p (mset m k) (todo ++ [k]) here (k+1):=by
 have hms:∀ q,m q=true->mset m k q=true:=fun q h=>by unfold mset; split <;> simp_all
 refine⟨fun q hq=>?_,fun q hq hm=>?_,fun q hq=>?_,fun h' hl hh hn q hq hx2 hr2=>?_⟩
 ·rcases List.mem_append.1 hq with hq | hq
  ·exact hI.lt q hq
  ·rw [List.mem_singleton] at hq; subst hq; exact hk
 ·by_cases e:q=k
  ·subst e
   rcases hh0 with e | e
   ·rw [<- e]; exact .one hpt hx hr
   ·exact .snoc (hI.mk' here hhN e) hpt hx hr
  ·unfold mset at hm
   rw [if_neg e] at hm
   exact hI.mk' q hq hm
 ·rcases List.mem_append.1 hq with hq | hq
  ·exact(hI.wait q hq).imp id (hms q)
  ·rw [List.mem_singleton] at hq; subst hq; exact .inr (by simp [mset])
 ·rw [List.mem_append,not_or,List.mem_singleton] at hn
  have hh':h'=p\/m h'=true:=hh.imp id fun e=>by unfold mset at e; rw [if_neg hn.2] at e; exact e
  by_cases e2:q=k
  ·subst e2; simp [mset]
  ·refine hms q (hI.done h' hl hh' hn.1 q ?_ hx2 hr2)
   by_cases e:h'=here
   ·rw [if_pos e] at hq ⊢; omega
   ·rw [if_neg e] at hq ⊢; exact hq
theorem QI.round (hI:QI rs A T g x N p m todo here N):QI rs A T g x N p m todo N 0:=
 ⟨hI.lt,hI.mk',hI.wait,fun h' hl hh hn q hq hx hr=>hI.done h' hl hh hn q (by rw [if_neg (by omega)] at hq; split <;> exact hq) hx hr⟩
theorem QI.end_ (hI:QI rs A T g x N p m [] N 0) (hN:N=rs.length*T) (hT:1<=T) (hp:p<N) {q:Nat} (hq:q<N):m q=true ↔ Rch rs A T g x (pt T p) (pt T q):=by
 refine⟨hI.mk' q hq,fun h=>?_⟩
 have key:∀ z,Rch rs A T g x (pt T p) z->∀ q,q<N->pt T q=z->m q=true:=by
  intro z hz
  have num:∀ z,z ∈ ptl rs T->∃ q,q<N/\pt T q=z:=fun z hz=>by
   unfold ptl ptN at hz
   simp only [List.mem_map,List.mem_range] at hz
   obtain⟨q,hq,e⟩:=hz
   exact⟨q,by omega,e⟩
  induction hz with
  | one hz hx hr=>
   rintro q hq rfl
   exact hI.done p hp (.inl rfl) (by simp) q (by rw [if_neg (by omega)]; exact hq) hx hr
  | @snoc w z hw hz hx hr ih=>
   rintro q hq rfl
   have hwm:w ∈ ptl rs T:=by cases hw <;> assumption
   obtain⟨j,hj,rfl⟩:=num w hwm
   exact hI.done j hj (.inr (ih j hj rfl)) (by simp) q (by rw [if_neg (by omega)]; exact hq) hx hr
 exact key _ h q hq rfl
theorem pt_mem {rs:List RunA} {T q:Nat} (h:q<rs.length*T):pt T q ∈ ptl rs T:=by
 unfold ptl ptN
 rw [List.mem_map]
 exact⟨q,List.mem_range.2 h,rfl⟩
theorem QI.all {y:Tab} (hI:QI rs A T g x N p m [] N 0) (hN:N=rs.length*T) (hT:1<=T) (hp:p<N):((List.range N).all fun q=>!m q || y (pt T q))= commonP rs A T g x y (pt T p):=by
 rw [Bool.eq_iff_iff,commonP_reach (pt_mem (by omega)),List.all_eq_true]
 constructor
 ·intro h z hz
  have hzm:z ∈ ptl rs T:=by cases hz <;> assumption
  unfold ptl ptN at hzm
  simp only [List.mem_map,List.mem_range] at hzm
  obtain⟨q,hq,rfl⟩:=hzm
  have:=h q (List.mem_range.2 (by omega))
  have hm:m q=true:=(hI.end_ hN hT hp (by omega)).2 hz
  rw [hm] at this
  have h2:y (pt T q)= true:=by simpa using this
  exact h2
 ·intro h q hq
  have hq':=List.mem_range.1 hq
  cases hm:m q with
  | false=>rfl
  | true=>rw [h _ ((hI.end_ hN hT hp hq').1 hm)]; rfl
end Te
structure Te.CQ (rs : List RunA) (A F T N ko kr : Nat) (out : List Bool) (m : Nat -> Bool) (nx : Nat) (objs : List (Nat × Ob)) : Prop where
 b:St.look objs 0=some ⟨4,[[.int .i64 (A:Int),.int .i64 (F:Int),.int .i64 (T:Int),.sl 2 (runR rs)]]⟩
 o:out ≠ []->0<ko/\ko<nx/\ko≠kr/\St.look objs ko=some ⟨1,rbR out⟩
 r:St.look objs kr=some ⟨1,rbR (mkd m N)⟩
 kr:0<kr/\kr<nx
structure Te.CT (ko kr kq lo nx : Nat) (out : List Bool) (todo : List Nat) (els : List (List D)) (objs : List (Nat × Ob)) : Prop where
 q:St.look objs kq=some ⟨1,els⟩
 e:lo+todo.length<=els.length
 l:(els.drop lo).take todo.length=ptI todo
 k:0<kq/\kq<nx/\kq≠kr
 o:out ≠ []->kq≠ko
structure Te.QA where
 m:Nat->Bool
 todo:List Nat
 kq:Nat
 lo:Nat
 els:List (List D)
 nx:Nat
 objs:List (Nat × Ob)
theorem Te.take_head {els:List (List D)} {lo n:Nat} {a:List D} {rest:List (List D)} (h:(els.drop lo).take (n+1)= a :: rest):els.getD lo []=a/\(els.drop (lo+1)).take n=rest/\lo<els.length:=by
 cases hd:els.drop lo with
 | nil=>rw [hd] at h; simp at h
 | cons e t=>
  rw [hd,List.take_succ_cons,List.cons.injEq] at h
  have h1:els[lo]?=some e:=by
   have:(els.drop lo)[0]?=some e:=by rw [hd]; rfl
   rwa [List.getElem?_drop,Nat.add_zero] at this
  have h2:els.drop (lo+1)= t:=by rw [<- List.drop_drop,hd]; rfl
  exact⟨by simp only [List.getD,h1,Option.getD_some]; exact h.1,by rw [h2]; exact h.2,(List.getElem?_eq_some_iff.1 h1).1⟩
theorem Te.CT.pop {ko kr kq lo nx:Nat} {out:List Bool} {h:Nat} {rest:List Nat} {els:List (List D)} {objs:List (Nat × Ob)} (hT:CT ko kr kq lo nx out (h :: rest) els objs) :
  els.getD lo [] = [.int .i64 (h:Int)]/\CT ko kr kq (lo+1) nx out rest els objs/\lo<els.length:=by
 obtain⟨a,b,c⟩:=take_head hT.l
 have:=hT.e
 rw [List.length_cons] at this
 exact⟨a,⟨hT.q,by omega,b,hT.k,hT.o⟩,c⟩
def Te.comL (rs:List RunA) (A T g:Nat) (x y:Tab) (k:Nat):List Bool:=(List.range k).map fun p=>commonP rs A T g x y (pt T p)
theorem Te.comL_len (rs:List RunA) (A T g:Nat) (x y:Tab) (k:Nat):(comL rs A T g x y k).length=k:=by simp [comL]
theorem Te.comL_succ (rs:List RunA) (A T g:Nat) (x y:Tab) (k:Nat):comL rs A T g x y (k+1)= comL rs A T g x y k ++ [commonP rs A T g x y (pt T k)]:=by simp [comL,List.range_succ]
theorem refCommon87 {rs:List RunA} {A F T g:Nat} {x y:Tab} (ok:OkR rs A F T) (hg:g<2 ^ 60) :
  Runs Tryz.prog 72 [sD A F T rs,.int .i64 (g:Int),.sl 1 (rbR (flT T (rs.length*T) x)),.sl 1 (rbR (flT T (rs.length*T) y))] (.sl 1 (rbR (comL rs A T g x y (rs.length*T)))):=by
 obtain⟨T1,T16⟩:=ok.hT
 have hRT:=ok.hP
 have hrel:=fun p q (hp:p<rs.length*T) (hq:q<rs.length*T)=>related114 (m:=false) ok hg hp hq
 have hflx:=flT_len T (rs.length*T) x
 have hfgx:=fun p (hp:p<rs.length*T)=>flT_get (T:=T) (φ:=x) hp
 have hfly:=flT_len T (rs.length*T) y
 have hfgy:=fun p (hp:p<rs.length*T)=>flT_get (T:=T) (φ:=y) hp
 have hN:∃ N,N=rs.length*T:=⟨_,rfl⟩
 obtain⟨N,hN⟩:=hN
 have hN0:0<N:=by rw [hN]; exact Nat.mul_pos (by have:=ok.hR.1; omega) (by omega)
 rw [<- hN] at hRT hrel hflx hfgx hfly hfgy ⊢
 generalize flT T N x=xl at hflx hfgx
 generalize flT T N y=yl at hfly hfgy
 unfold sD at hrel ⊢
 refine CallT.go_fn mixed Tryz.func72 k72 (by simp) fun hf=>?_
 simp only [ZA,ZB,ZC,ZD,ZE,↓reduceIte,reduceIte,ZF,ZG,ZH,ZI,ZJ,reduceCtorEq,ZK,↓zU,↓zD,zV,zT,zW]
 (repeat refine sd ?_)
 refine wpS_loop (fun a:Nat × Nat × Nat × List (Nat × Ob)=>[(10,.int .i64 a.1),(9,growD a.2.1 1 (rbR (comL rs A T g x y a.1))),(4,.ref 0 4 0 0),(3,.sl 1 (rbR yl)),(2,.sl 1 (rbR xl)),(1,.int .i64 g)]) (fun a=>⟨a.2.2.1,a.2.2.2⟩)
  (fun a=>a.1<=N/\0<a.2.2.1/\St.look a.2.2.2 0=some ⟨4,[[.int .i64 (A:Int),.int .i64 (F:Int),.int .i64 (T:Int),.sl 2 (runR rs)]]⟩/\ (0<a.1->0<a.2.1/\a.2.1<a.2.2.1/\St.look a.2.2.2 a.2.1=some ⟨1,rbR (comL rs A T g x y a.1)⟩)) (fun a=>N-a.1)
  (0,0,1,[(0,⟨4,[[.int .i64 (A:Int),.int .i64 (F:Int),.int .i64 (T:Int),.sl 2 (runR rs)]]⟩)]) ⟨Nat.zero_le _,Nat.one_pos,rfl,fun h=>absurd h (Nat.lt_irrefl _)⟩ ?_ ?_
 ·(refine Weak.same ?_; simp [sameF,Fr.get,comL,rbR,growD])
 rintro ⟨p,ko,nx1,objs1⟩ ⟨hp,hn1,hb1,ho1⟩
 simp only at hp hn1 hb1 ho1 ⊢
 refine wpS_go mixed ?_
 by_cases hpl:p<N
 case neg=>
  have hd:¬ ((p:Int)<(N:Int)):=by omega
  obtain rfl:p=N:=by omega
  simp only [ZA,ZB,ZC,ZD,ZE,↓reduceIte,reduceIte,ZF,ZG,ZH,ZI,ZJ,reduceCtorEq,ZK,↓zU,↓zD,zV,zT,zW,hd,rbR_len,hfly]
  refine .drop (by simp) (grow_viewL (by decide) (rbR_pure _) ?_)
  obtain⟨_,_,h3⟩:=ho1 hN0
  rw [h3,growG_ne]
  exact fun e=>by have:=congrArg List.length e; rw [rbR_len,comL_len] at this; simp at this; omega
 have hd:((p:Int)<(N:Int)):=by omega
 have y1:¬ nx1+1=nx1:=by omega
 simp only [ZA,ZB,ZC,ZD,ZE,↓reduceIte,reduceIte,ZF,ZG,ZH,ZI,ZJ,reduceCtorEq,ZK,↓zU,↓zD,zV,zT,zW,hd,rbR_len,hfly,y1]
 (repeat refine sd ?_)
 have hol:∀ l:List Bool,l=comL rs A T g x y p->l ≠ []->0<p:=fun l e h=>by
  rcases Nat.eq_zero_or_pos p with e0 | e0
  ·subst e0; subst e; exact absurd rfl h
  ·exact e0
 generalize hout:comL rs A T g x y p=out at ho1 ⊢
 refine wpS_loopW (fun b:QA=>[(12,.sub b.kq 1 b.lo b.todo.length),(11,.osl nx1 1 N),(10,.int .i64 p),(9,growD ko 1 (rbR out)),(4,.ref 0 4 0 0),(3,.sl 1 (rbR yl)),(2,.sl 1 (rbR xl)),(1,.int .i64 g)]) (fun b=>⟨b.nx,b.objs⟩)
  (fun b=>CQ rs A F T N ko nx1 out b.m b.nx b.objs/\CT ko nx1 b.kq b.lo b.nx out b.todo b.els b.objs/\QI rs A T g x N p b.m b.todo N 0/\b.todo.length+unm b.m N<=N+1) (fun b=>2*unm b.m N+b.todo.length)
  ⟨fun _=>false,[p],nx1+1,0,[[.int .i64 p]],nx1+1+1,(nx1+1,⟨1,[[.int .i64 p]]⟩) :: (nx1,⟨1,List.replicate N [.bool false]⟩) :: objs1⟩ ⟨⟨?_,fun h=>?_,?_,⟨hn1,by simp only; omega⟩⟩,⟨?_,by simp,rfl,by simp only; omega,fun h=>?_⟩,QI.start hpl,?_⟩ ?_ ?_
 ·simp only; rw [look_cons,if_neg (by omega),look_cons,if_neg (by omega)]; exact hb1
 ·obtain⟨h1,h2,h3⟩:=ho1 (hol _ hout.symm h)
  simp only
  refine⟨h1,by omega,by omega,?_⟩
  rw [look_cons,if_neg (by omega),look_cons,if_neg (by omega)]; exact h3
 ·simp only; rw [look_cons,if_neg (by omega),look_cons,if_pos rfl,mkd_none]
 ·simp only; rw [look_cons,if_pos rfl]
 ·obtain⟨h1,h2,h3⟩:=ho1 (hol _ hout.symm h)
  simp only; omega
 ·have:=unm_le (fun _=>false) N
  simp only [List.length_singleton]; omega
 ·refine Weak.queue1 rfl ?_
  simp only [sameF,Fr.get,↓reduceIte,reduceIte,Nat.reduceEqDiff,and_true,true_and,and_self]
 rintro ⟨m,todo,kq,lo,els,nx2,objs2⟩ ⟨hC,hT,hQ,hμ⟩
 simp only at hC hT hQ hμ ⊢
 refine wpS_go mixed ?_
 cases todo with
 | nil=>
  simp only [ZA,ZB,ZC,ZD,ZE,↓reduceIte,reduceIte,ZF,ZG,ZH,ZI,ZJ,reduceCtorEq,ZK,↓zU,↓zD,zV,zT,zW]
  refine .keep ?_
  simp only [ZA,ZB,ZC,ZD,ZE,↓reduceIte,reduceIte,ZF,ZG,ZH,ZI,ZJ,reduceCtorEq,ZK,↓zU,↓zD,zV,zT,zW]
  (repeat refine sd ?_)
  have lr:=hC.r
  refine wpS_loopW (fun k:Nat=>[(16,.int .i64 k),(15,.bool ((List.range k).all fun q=>!m q || y (pt T q))),(11,.osl nx1 1 N),(10,.int .i64 p),(9,growD ko 1 (rbR out)),(4,.ref 0 4 0 0),(3,.sl 1 (rbR yl)),(2,.sl 1 (rbR xl)),(1,.int .i64 g)]) (fun _=>⟨nx2,objs2⟩)
   (fun k=>k<=N) (fun k=>N-k) 0 (Nat.zero_le _) ?_ ?_
  ·(refine Weak.same ?_; simp [sameF,Fr.get])
  intro k hk
  refine wpS_go mixed ?_
  by_cases hkl:k<N
  ·have hd3:((k:Int)<(N:Int)):=by omega
   have hyk:=hfgy k hkl
   have hmk:=mkd_get (m:=m) hkl
   have hsu:((List.range (k+1)).all fun q=>!m q || y (pt T q))= (((List.range k).all fun q=>!m q || y (pt T q))&& (!m k || y (pt T k))):=by
    rw [List.range_succ,List.all_append,List.all_cons,List.all_nil,Bool.and_true]
   generalize ((List.range k).all fun q=>!m q || y (pt T q))= c at hsu
   generalize m k=mk_ at hmk hsu
   generalize y (pt T k)= yk at hyk hsu
   cases c <;> cases mk_ <;> (simp only [ZA,ZB,ZC,ZD,ZE,↓reduceIte,reduceIte,ZF,ZG,ZH,ZI,ZJ,reduceCtorEq,ZK,↓zU,↓zD,zV,zT,zW,hd3,rbR_len,hfly,lr,mkd_len,hmk,hyk]; (repeat refine sd ?_); refine⟨k+1,by omega,?_,by omega⟩; (refine Weak.same ?_; simp only [sameF,Fr.get,↓reduceIte,reduceIte,Nat.reduceEqDiff,reduceCtorEq,D.int.injEq,D.bool.injEq,D.sl.injEq,and_true,true_and,and_self,hsu,Bool.true_and,Bool.false_and,Bool.not_true,Bool.not_false,Bool.true_or,Bool.false_or]); exact wrap_up (by omega))
  have hd3:¬ ((k:Int)<(N:Int)):=by omega
  obtain rfl:k=N:=by omega
  have hall:=hQ.all (y:=y) hN T1 hpl
  have hsu:=comL_succ rs A T g x y p
  rw [hout] at hsu
  have hol2:=comL_len rs A T g x y p
  rw [hout] at hol2
  have hnl:=comL_len rs A T g x y (p+1)
  rw [hall]
  generalize commonP rs A T g x y (pt T p)= b at hsu
  have hkr:=hC.kr
  rcases Nat.eq_zero_or_pos p with h0 | h0
  ·subst h0
   obtain rfl:out = []:=List.eq_nil_of_length_eq_zero hol2
   rw [show growD ko 1 (rbR [])= .nils from rfl]
   simp only [ZA,ZB,ZC,ZD,ZE,↓reduceIte,reduceIte,ZF,ZG,ZH,ZI,ZJ,reduceCtorEq,ZK,↓zU,↓zD,zV,zT,zW,hd3,rbR_len,hfly]
   refine .keep ?_
   simp only [ZA,ZB,ZC,ZD,ZE,↓reduceIte,reduceIte,ZF,ZG,ZH,ZI,ZJ,reduceCtorEq,ZK,↓zU,↓zD,zV,zT,zW]
   (repeat refine sd ?_)
   refine⟨(0+1,nx2,nx2+1,?zoa),⟨by simp only; omega,by simp only; omega,?_,fun _=>⟨by simp only; omega,Nat.lt_succ_self _,?_⟩⟩,?zta,by simp only; omega⟩
   case zta=>
    simp only
    rw [hsu,growD_ne (by simp [rbR]),rbR_len]
    (refine Weak.same ?_; simp only [sameF,Fr.get,↓reduceIte,reduceIte,Nat.reduceEqDiff,reduceCtorEq,D.int.injEq,D.bool.injEq,D.sl.injEq,and_true,true_and,and_self,List.nil_append])
    exact⟨wrap_up (k:=0) (by omega),rfl⟩
   ·simp only; rw [look_cons,if_neg (by omega)]; exact hC.b
   ·simp only; rw [look_cons,if_pos rfl,hsu]; rfl
  ·have hne:out ≠ []:=fun e=>by rw [e] at hol2; simp at hol2; omega
   obtain⟨o1,o2,o3,o4⟩:=hC.o hne
   have hne2:rbR out ≠ []:=fun e=>hne (by cases out with | nil=>rfl | cons a l=>simp [rbR] at e)
   have htk:(rbR out).take p=rbR out:=List.take_of_length_le (by rw [rbR_len]; omega)
   rw [growD_ne hne2,rbR_len,hol2]
   simp only [ZA,ZB,ZC,ZD,ZE,↓reduceIte,reduceIte,ZF,ZG,ZH,ZI,ZJ,reduceCtorEq,ZK,↓zU,↓zD,zV,zT,zW,hd3,rbR_len,hfly]
   refine .keep ?_
   simp only [ZA,ZB,ZC,ZD,ZE,↓reduceIte,reduceIte,ZF,ZG,ZH,ZI,ZJ,reduceCtorEq,ZK,↓zU,↓zD,zV,zT,zW,o4,rbR_len,hol2]
   (repeat refine sd ?_)
   rw [htk,rbR_snoc]
   refine⟨(p+1,nx2,nx2+1,?zob),⟨by simp only; omega,by simp only; omega,?_,fun _=>⟨by simp only; omega,Nat.lt_succ_self _,?_⟩⟩,?ztb,by simp only; omega⟩
   case ztb=>
    simp only
    rw [growD_ne (by rw [hsu]; simp [rbR]),rbR_len,hnl]
    (refine Weak.same ?_; simp only [sameF,Fr.get,↓reduceIte,reduceIte,Nat.reduceEqDiff,reduceCtorEq,D.int.injEq,D.bool.injEq,D.sl.injEq,and_true,true_and,and_self])
    exact wrap_up (by omega)
   ·simp only; rw [look_cons,if_neg (by omega),look_eraseL,if_neg (by omega)]; exact hC.b
   ·simp only; rw [look_cons,if_pos rfl,hsu]
 | cons h rest=>
 have hh:=hQ.lt h (by simp)
 have hd2:((0:Int)<(((rest.length+1:Nat):Nat):Int)):=by omega
 have hlq:=hT.q
 obtain⟨hge,hT',hlt⟩:=hT.pop
 have hw:=hQ.wait h (by simp)
 rw [List.length_cons] at hμ
 simp only [ZA,ZB,ZC,ZD,ZE,↓reduceIte,reduceIte,ZF,ZG,ZH,ZI,ZJ,reduceCtorEq,ZK,↓zU,↓zD,zV,zT,zW,hd2,hlq,hge]
 (repeat refine sd ?_)
 refine⟨1,_,rfl,rfl,by omega,by omega,by omega,?_⟩
 have e1:((rest.length+1:Nat):Int).toNat-(1:Int).toNat=rest.length:=by omega
 have e2:lo+(1:Int).toNat=lo+1:=rfl
 rw [e1,e2]
 refine wpS_loopW (fun c:Nat × QA=>[(14,.int .i64 c.1),(13,.int .i64 h),(12,.sub c.2.kq 1 c.2.lo c.2.todo.length),(11,.osl nx1 1 N),(10,.int .i64 p),(9,growD ko 1 (rbR out)),(4,.ref 0 4 0 0),(3,.sl 1 (rbR yl)),(2,.sl 1 (rbR xl)),(1,.int .i64 g)]) (fun c=>⟨c.2.nx,c.2.objs⟩)
  (fun c=>c.1<=N/\CQ rs A F T N ko nx1 out c.2.m c.2.nx c.2.objs/\CT ko nx1 c.2.kq c.2.lo c.2.nx out c.2.todo c.2.els c.2.objs/\QI rs A T g x N p c.2.m c.2.todo h c.1/\c.2.todo.length+unm c.2.m N<=N+1/\2*unm c.2.m N+c.2.todo.length<=2*unm m N+rest.length/\(h=p\/c.2.m h=true)) (fun c=>N-c.1)
  (0,⟨m,rest,kq,lo+1,els,nx2,objs2⟩) ⟨Nat.zero_le _,hC,hT',hQ.pop,by simp only; omega,Nat.le_refl _,hw⟩ ?_ ?_
 ·(refine Weak.same ?_; simp [sameF,Fr.get])
 clear hC hT hT' hQ hμ hlq hge hlt hw hd2
 rintro ⟨k,⟨m2,todo,kq,lo,els,nx2,objs2⟩⟩ ⟨hk,hC,hT,hQ,hμ,hν,hw⟩
 simp only at hk hC hT hQ hμ hν hw ⊢
 refine wpS_go mixed ?_
 by_cases hkl:k<N
 case neg=>
  have hd3:¬ ((k:Int)<(N:Int)):=by omega
  obtain rfl:k=N:=by omega
  simp only [ZA,ZB,ZC,ZD,ZE,↓reduceIte,reduceIte,ZF,ZG,ZH,ZI,ZJ,reduceCtorEq,ZK,↓zU,↓zD,zV,zT,zW,hd3,rbR_len,hfly]
  refine .keep ?_
  simp only [ZA,ZB,ZC,ZD,ZE,↓reduceIte,reduceIte,ZF,ZG,ZH,ZI,ZJ,reduceCtorEq,ZK,↓zU,↓zD,zV,zT,zW]
  refine⟨⟨m2,todo,kq,lo,els,nx2,objs2⟩,⟨hC,hT,hQ.round,hμ⟩,?_,by simp only [List.length_cons]; omega⟩
  (refine Weak.same ?_; simp [sameF,Fr.get])
 have hd3:((k:Int)<(N:Int)):=by omega
 have hr:=hrel h k hh hkl
 have hxk:=hfgx k hkl
 have hmk:=mkd_get (m:=m2) hkl
 have lr:=hC.r
 have lb:=hC.b
 have hrb:relB rs A g false (pt T h) (pt T k)= relP rs A g (pt T h) (pt T k):=rfl
 rw [hrb] at hr
 cases hm:m2 k with
 | true=>
  rw [hm] at hmk
  simp only [ZA,ZB,ZC,ZD,ZE,↓reduceIte,reduceIte,ZF,ZG,ZH,ZI,ZJ,reduceCtorEq,ZK,↓zU,↓zD,zV,zT,zW,hd3,rbR_len,hfly,lr,mkd_len,hmk]
  (repeat refine sd ?_)
  refine⟨(k+1,⟨m2,todo,kq,lo,els,nx2,objs2⟩),⟨by simp only; omega,hC,hT,hQ.stay fun _ _=>hm,hμ,hν,hw⟩,?_,by simp only; omega⟩
  (refine Weak.same ?_; simp only [sameF,Fr.get,↓reduceIte,reduceIte,Nat.reduceEqDiff,reduceCtorEq,D.int.injEq,D.bool.injEq,D.sl.injEq,and_true,true_and,and_self])
  exact wrap_up (by omega)
 | false=>
  rw [hm] at hmk
  cases hx:x (pt T k) with
  | false=>
   rw [hx] at hxk
   simp only [ZA,ZB,ZC,ZD,ZE,↓reduceIte,reduceIte,ZF,ZG,ZH,ZI,ZJ,reduceCtorEq,ZK,↓zU,↓zD,zV,zT,zW,hd3,rbR_len,hfly,hflx,lr,mkd_len,hmk,hxk]
   (repeat refine sd ?_)
   refine⟨(k+1,⟨m2,todo,kq,lo,els,nx2,objs2⟩),⟨by simp only; omega,hC,hT,hQ.stay fun h=>absurd h (by rw [hx]; simp),hμ,hν,hw⟩,?_,by simp only; omega⟩
   (refine Weak.same ?_; simp only [sameF,Fr.get,↓reduceIte,reduceIte,Nat.reduceEqDiff,reduceCtorEq,D.int.injEq,D.bool.injEq,D.sl.injEq,and_true,true_and,and_self])
   exact wrap_up (by omega)
  | true=>
   rw [hx] at hxk
   simp only [ZA,ZB,ZC,ZD,ZE,↓reduceIte,reduceIte,ZF,ZG,ZH,ZI,ZJ,reduceCtorEq,ZK,↓zU,↓zD,zV,zT,zW,hd3,rbR_len,hfly,hflx,lr,lb,mkd_len,hmk,hxk]
   (repeat refine sd ?_)
   refine .go (cq hr) ?_
   cases hrl:relP rs A g (pt T h) (pt T k) with
   | false=>
    simp only [ZA,ZB,ZC,ZD,ZE,↓reduceIte,reduceIte,ZF,ZG,ZH,ZI,ZJ,reduceCtorEq,ZK,↓zU,↓zD,zV,zT,zW,rbR_len,hfly]
    (repeat refine sd ?_)
    refine⟨(k+1,⟨m2,todo,kq,lo,els,nx2,objs2⟩),⟨by simp only; omega,hC,hT,hQ.stay fun _ h=>absurd h (by rw [hrl]; simp),hμ,hν,hw⟩,?_,by simp only; omega⟩
    (refine Weak.same ?_; simp only [sameF,Fr.get,↓reduceIte,reduceIte,Nat.reduceEqDiff,reduceCtorEq,D.int.injEq,D.bool.injEq,D.sl.injEq,and_true,true_and,and_self])
    exact wrap_up (by omega)
   | true=>
    have lq:=hT.q
    obtain⟨q1,q2,q3⟩:=hT.k
    have z1:¬ nx1=kq:=by omega
    have hte:=hT.e
    have hset:=mkd_set (m:=m2) (N:=N) (q:=k)
    have lk:St.look (setL objs2 nx1 ⟨1,rbR (mkd (mset m2 k) N)⟩) kq=some ⟨1,els⟩:=by rw [look_setL,if_neg z1]; exact lq
    simp only [ZA,ZB,ZC,ZD,ZE,↓reduceIte,reduceIte,ZF,ZG,ZH,ZI,ZJ,reduceCtorEq,ZK,↓zU,↓zD,zV,zT,zW,lr,mkd_len,rbR_len,hmk,lq,z1,hset,lk]
    (repeat refine sd ?_)
    intro pre hpre
    have hnew:pre++((els.drop lo).take todo.length ++ [[.int .i64 (k:Int)]])= pre++ptI (todo ++ [k]):=by rw [hT.l]; simp [ptI]
    rw [hnew]
    have hul:=unm_set hkl hm
    refine⟨(k+1,⟨mset m2 k,todo ++ [k],nx2,pre.length,pre++ptI (todo ++ [k]),nx2+1,?zo1⟩),⟨by simp only; omega,⟨?_,fun h=>?_,?_,⟨hC.kr.1,Nat.lt_succ_of_lt hC.kr.2⟩⟩,⟨?_,?_,?_,by simp only; have:=hC.kr; omega,fun h=>?_⟩,hQ.push hkl hw hh (by rw [hN] at hkl; exact pt_mem hkl) hx hrl,?_,?_,hw.imp id fun e=>by simp [mset,e]⟩,?zt1,by simp only; omega⟩
    case zt1=>
     simp only
     rw [List.length_append,List.length_singleton]
     (refine Weak.same ?_; simp only [sameF,Fr.get,↓reduceIte,reduceIte,Nat.reduceEqDiff,reduceCtorEq,D.int.injEq,D.bool.injEq,D.sl.injEq,and_true,true_and,and_self])
     exact wrap_up (by omega)
    ·simp only
     have:=hC.kr
     rw [look_cons,if_neg (by omega),look_eraseL,if_neg (by omega),look_setL,if_neg (by omega)]; exact lb
    ·obtain⟨o1,o2,o3,o4⟩:=hC.o h
     have:=hT.o h
     simp only
     refine⟨o1,by omega,o3,?_⟩
     rw [look_cons,if_neg (by omega),look_eraseL,if_neg this,look_setL,if_neg (fun e=>o3 e.symm)]; exact o4
    ·simp only
     have:=hC.kr
     rw [look_cons,if_neg (by omega),look_eraseL,if_neg (fun e=>z1 e.symm),look_setL,if_pos rfl,lr]; rfl
    ·simp only; rw [look_cons,if_pos rfl]
    ·simp only [List.length_append,ptI_len]; omega
    ·simp only; rw [List.drop_left,List.take_of_length_le (by rw [ptI_len]; omega)]
    ·obtain⟨o1,o2,o3,o4⟩:=hC.o h
     simp only; omega
    ·simp only; rw [List.length_append,List.length_singleton]; omega
    ·simp only; rw [List.length_append,List.length_singleton]; omega
end Go.Pd
