/- Part SH. -/
import Derived.Test.YtjklmijiccabfaaGreatRSF
import Derived.Test.YtjklmijiccabfaaGreatRX9
set_option linter.unusedSectionVars false
set_option linter.unusedVariables false
set_option linter.unusedSimpArgs false
set_option linter.defProp false
set_option maxRecDepth 20000
set_option maxHeartbeats 1000000
namespace Go.Pd
open Go Go.Proofs
open Int renaming reduceToNat -> ZA, reduceLT -> ZB, reduceLE -> ZC, reduceBEq -> ZD, reduceBNe -> ZE
open Nat renaming reduceEqDiff -> ZF, reduceAdd -> ZG, reduceBEq -> ZH, reduceLT -> ZI, reduceLeDiff -> ZJ, reduceMul -> ZK
open Ru
namespace Ru
def sysO (A F T:Nat) (rs:List RunA):Ob:=⟨4,[[.int .i64 (A:Int),.int .i64 (F:Int),.int .i64 (T:Int),.sl 2 (runR rs)]]⟩
def clockK (rs:List RunA) (a:Nat) (p:Nat × Nat):List Int:=[(p.2:Int),locA rs a p]
def KeyOk (g:FuncId) (A F T:Nat) (rs:List RunA) (kf:Nat->Nat × Nat->List Int):Prop:=
 ∀ (σ:St) (a:Nat) (p:Nat × Nat),0<σ.nx->St.look σ.objs 0=some (sysO A F T rs)->a<A->p.1<rs.length/\p.2<T ->
  CallT Tryz.prog g ([.int .i64 (a:Int),.agg [.int .i64 (p.1:Int),.int .i64 (p.2:Int)]] ++ [.ref 0 4 0 0]) σ (.sl 1 (rows .i64 (kf a p))) ⟨σ.nx+1,(σ.nx,⟨2,[[.int .i64 (p.1:Int),.int .i64 (p.2:Int)]]⟩) :: σ.objs⟩
theorem getD_left {α:Type} (a b:List α) (d:α) {n:Nat} (h:n<a.length):(a++b).getD n d=a.getD n d:=by
 simp [List.getD,List.getElem?_append_left h]
end Ru
theorem clock37 {rs:List RunA} {A F T:Nat} (ok:OkR rs A F T):KeyOk 35 A F T rs (clockK rs):=by
 intro σ a p hx h0 ha hp
 obtain⟨nx,objs⟩:=σ
 have hx0:¬ nx=0:=by simp only at hx; omega
 have hl:=local38 ok ha hp
 obtain⟨r,t⟩:=p
 simp only at hp hl h0 ⊢
 unfold sD at hl
 unfold sysO at h0
 unfold clockK
 simp only
 generalize locA rs a (r,t)= x at hl
 refine CallT.go_fn mixed Tryz.func35 k35 (by simp) fun hf=>?_
 simp only [ZA,ZB,ZC,ZD,ZE,↓reduceIte,reduceIte,ZF,ZG,ZH,ZI,ZJ,reduceCtorEq,ZK,↓zU,↓zD,zV,zT,zW,h0,hx0]
 (repeat refine sd ?_)
 refine .go (cr hl) ?_
 simp only [ZA,ZB,ZC,ZD,ZE,↓reduceIte,reduceIte,ZF,ZG,ZH,ZI,ZJ,reduceCtorEq,ZK,↓zU,↓zD,zV,zT,zW]
 exact⟨by simp [D.isPureL,D.isPure],.same⟩
theorem remember40 {rs:List RunA} {A F T:Nat} (ok:OkR rs A F T):KeyOk 37 A F T rs (hisA rs):=by
 intro σ a p hx h0 ha hp
 obtain⟨nx,objs⟩:=σ
 have hx0:¬ nx=0:=by simp only at hx; omega
 have hl:=history41 ok ha hp
 obtain⟨r,t⟩:=p
 simp only at hp hl h0 ⊢
 unfold sD at hl
 unfold sysO at h0
 generalize hisA rs a (r,t)= x at hl
 refine CallT.go_fn mixed Tryz.func37 k37 (by simp) fun hf=>?_
 simp only [ZA,ZB,ZC,ZD,ZE,↓reduceIte,reduceIte,ZF,ZG,ZH,ZI,ZJ,reduceCtorEq,ZK,↓zU,↓zD,zV,zT,zW,h0,hx0]
 (repeat refine sd ?_)
 refine .go (cr hl) ?_
 simp only [ZA,ZB,ZC,ZD,ZE,↓reduceIte,reduceIte,ZF,ZG,ZH,ZI,ZJ,reduceCtorEq,ZK,↓zU,↓zD,zV,zT,zW]
 exact .same
theorem clone42 {c:List (BitVec 64)} (hc:c.length<=1000) (h0:0<c.length):Runs Tryz.prog 58 [.sl 1 (us c)] (.sl 1 (us c)):=by
 obtain⟨x,l,rfl⟩:∃ x l,c=x :: l:=by
  cases c with
  | nil=>simp at h0
  | cons x l=>exact⟨x,l,rfl⟩
 refine CallT.go_fn mixed Tryz.func58 k58 (by simp) fun hf=>?_
 have hl:(us (x :: l)).length=l.length+1:=by simp [us]
 have h1:=us_one (x :: l)
 have e:us (x :: l)= [.int .u64 (ui x)] :: us l:=rfl
 simp only [List.length_cons] at hc
 rw [e] at hl h1 ⊢
 simp only [ZA,ZB,ZC,ZD,ZE,↓reduceIte,reduceIte,ZF,ZG,ZH,ZI,ZJ,reduceCtorEq,ZK,↓zU,↓zD,zV,zT,zW]
 refine⟨by simp,h1,by omega,by omega,.drop (by simp) ?_⟩
 have hp:=us_pure (x :: l)
 rw [e] at hp
 have ht:([D.int .u64 (ui x)] :: us l).take (l.length+1)= [D.int .u64 (ui x)] :: us l:=by rw [<- hl,List.take_length]
 simp only [vw]
 exact⟨trivial,by decide,by simp,⟨1,[D.int .u64 (ui x)] :: us l⟩,rfl,rfl,by simp only; omega,ht.symm,hp⟩
theorem search59o {σ:St} {key:Nat} {m:List (List Int)} {more:List (List D)} (x:List Int) (hget:σ.get key=some ⟨1,rl m++more⟩) (hm:asc m) (hl:m.length<=1000):∃ b:Bool,CallT Tryz.prog 63 [.osl key 1 m.length,.sl 1 (rows .i64 x),.fn 60 []] σ (.tup [.int .i64 (below m x),.bool b]) σ:=by
 refine⟨decide (below m x<m.length)&& decide (kc (m.getD (below m x) []) x=0),?_⟩
 obtain⟨nx,objs⟩:=σ
 have hg:St.look objs key=some ⟨1,rl m++more⟩:=hget
 have hgl:m.length<=(rl m++more).length:=by rw [List.length_append,rl_len]; omega
 have hge:∀ i,i<m.length->(rl m++more).getD i [] = [.sl 1 (rows .i64 (m.getD i []))]:=fun i hi=>by
  rw [getD_left _ _ _ (by rw [rl_len]; exact hi),rl_get m hi]
 generalize rl m++more=E at hg hgl hge
 refine CallT.go_fn mixed Tryz.func63 k63 (by simp) fun hf=>?_
 simp only [ZA,ZB,ZC,ZD,ZE,↓reduceIte,reduceIte,ZF,ZG,ZH,ZI,ZJ,reduceCtorEq,ZK,↓zU,↓zD,zV,zT,zW,rl_len]
 refine wpS_loop (fun a:Nat × Nat=>[(10,.int .i64 a.2),(9,.int .i64 a.1),(8,.int .i64 m.length),(2,.fn 60 []),(1,.sl 1 (rows .i64 x)),(0,.osl key 1 m.length)]) (fun _=>⟨nx,objs⟩) (fun a=>a.1<=a.2/\a.2<=m.length/\(∀ i,i<a.1->kc (m.getD i []) x<0)/\ (∀ i,a.2<=i->i<m.length->¬ kc (m.getD i []) x<0)) (fun a=>a.2-a.1) (0,m.length) ⟨Nat.zero_le _,Nat.le_refl _,fun i hi=>by omega,fun i h1 h2=>by omega⟩ ?_ ?_
 ·(refine Weak.same ?_; simp [sameF,Fr.get])
 intro ⟨lo,hi⟩ ⟨h1,h2,h3,h4⟩
 simp only at h1 h2 h3 h4
 refine wpS_go mixed ?_
 by_cases h:lo<hi
 ·have hd:((lo:Int)<(hi:Int)):=by omega
  have es:IntKind.i64.wrap ((lo:Int)+ (hi:Int))= ((lo+hi:Nat):Int):=by rw [wrap_i64 (by omega)]; omega
  have ew:IntKind.i64.wrap (((lo+hi)/ 2:Nat):Int)= (((lo+hi)/ 2:Nat):Int):=wrap_i64 (by omega)
  have hmid:(lo+hi)/ 2<m.length:=by omega
  simp only [ZA,ZB,ZC,ZD,ZE,↓reduceIte,reduceIte,ZF,ZG,ZH,ZI,ZJ,reduceCtorEq,ZK,↓zU,↓zD,zV,zT,zW,hd,es,convN (show lo+hi<=1000000 by omega),shr_half (show lo+hi<=1000000 by omega),ew,hg,hge _ hmid]
  (repeat refine sd ?_)
  refine .go (CallT.of_runs (compare56 (m.getD ((lo+hi)/ 2) []) x) (by simp [D.isPureL,D.isPure])) ?_
  by_cases c:kc (m.getD ((lo+hi)/ 2) []) x<0
  ·simp only [ZA,ZB,ZC,ZD,ZE,↓reduceIte,reduceIte,ZF,ZG,ZH,ZI,ZJ,reduceCtorEq,ZK,↓zU,↓zD,zV,zT,zW,c]
   refine⟨((lo+hi)/ 2+1,hi),⟨by show (lo+hi)/ 2+1<=hi; omega,h2,fun i hi2=>asc_lt hm (show i<=(lo+hi)/ 2 by change i<(lo+hi)/ 2+1 at hi2; omega) hmid c,h4⟩,?_,by show hi-((lo+hi)/ 2+1)<hi-lo; omega⟩
   (refine Weak.same ?_; simp only [sameF,Fr.get,↓reduceIte,reduceIte,Nat.reduceEqDiff,reduceCtorEq,D.int.injEq,D.bool.injEq,D.sl.injEq,and_true,true_and,and_self])
   exact wrap_i64 (by omega)
  ·simp only [ZA,ZB,ZC,ZD,ZE,↓reduceIte,reduceIte,ZF,ZG,ZH,ZI,ZJ,reduceCtorEq,ZK,↓zU,↓zD,zV,zT,zW,c]
   refine⟨(lo,(lo+hi)/ 2),⟨by show lo<=(lo+hi)/ 2; omega,by show (lo+hi)/ 2<=m.length; omega,h3,fun i hi2 hi3 hc=>c (asc_lt hm hi2 hi3 hc)⟩,?_,by show (lo+hi)/ 2-lo<hi-lo; omega⟩
   (refine Weak.same ?_; simp only [sameF,Fr.get,↓reduceIte,reduceIte,Nat.reduceEqDiff,reduceCtorEq,D.int.injEq,D.bool.injEq,D.sl.injEq,and_true,true_and,and_self])
 ·have hd:¬ ((lo:Int)<(hi:Int)):=by omega
  have e:below m x=lo:=below_eq (by omega) h3 fun a ha hb=>h4 a (by omega) hb
  rw [e]
  by_cases hlen:lo<m.length
  ·have hd2:((lo:Int)<(m.length:Int)):=by omega
   simp only [ZA,ZB,ZC,ZD,ZE,↓reduceIte,reduceIte,ZF,ZG,ZH,ZI,ZJ,reduceCtorEq,ZK,↓zU,↓zD,zV,zT,zW,hd,hd2,hg,hge _ hlen]
   (repeat refine sd ?_)
   refine .go (CallT.of_runs (compare56 (m.getD lo []) x) (by simp [D.isPureL,D.isPure])) ?_
   simp only [ZA,ZB,ZC,ZD,ZE,↓reduceIte,reduceIte,ZF,ZG,ZH,ZI,ZJ,reduceCtorEq,ZK,↓zU,↓zD,zV,zT,zW]
   simp only [decide_eq_true hlen,Bool.true_and]
   exact .same
  ·have hd2:¬ ((lo:Int)<(m.length:Int)):=by omega
   simp only [ZA,ZB,ZC,ZD,ZE,↓reduceIte,reduceIte,ZF,ZG,ZH,ZI,ZJ,reduceCtorEq,ZK,↓zU,↓zD,zV,zT,zW,hd,hd2]
   simp only [decide_eq_false hlen,Bool.false_and]
   exact .same
end Go.Pd
