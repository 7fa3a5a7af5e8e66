/- Part S1. -/
import Derived.Test.YtjklmijiccabfaaGreatRXH
import Derived.Test.YtjklmijiccabfaaGreatRX9
set_option linter.unusedSectionVars false
set_option linter.unusedVariables false
set_option linter.unusedSimpArgs false
set_option linter.defProp false
set_option maxRecDepth 20000
set_option maxHeartbeats 1000000
namespace Go.Pd
open Go Go.Proofs
open Int renaming reduceToNat -> ZA, reduceLT -> ZB, reduceLE -> ZC, reduceBEq -> ZD, reduceBNe -> ZE
open Nat renaming reduceEqDiff -> ZF, reduceAdd -> ZG, reduceBEq -> ZH, reduceLT -> ZI, reduceLeDiff -> ZJ, reduceMul -> ZK
namespace Ru
structure RunA where
 loc:List (List Int)
 fac:List (BitVec 64)
structure SysA where
 ag:Int
 fa:Int
 ln:Int
 rs:List RunA
def RunA.row (r:RunA):List D:=[.sl 1 (rl r.loc),.sl 1 (us r.fac)]
def runR (l:List RunA):List (List D):=l.map RunA.row
def SysA.cells (s:SysA):List D:=[.int .i64 s.ag,.int .i64 s.fa,.int .i64 s.ln,.sl 2 (runR s.rs)]
def SysA.d (s:SysA):D:=.agg s.cells
def run0 : RunA:=⟨[],[]⟩
theorem runR_len (l:List RunA):(runR l).length=l.length:=by simp [runR]
theorem runR_get (l:List RunA) {i:Nat} (h:i<l.length):(runR l).getD i []=(l.getD i run0).row:=by simp [runR,List.getD,h]
theorem runR_pure (l:List RunA):∀ e ∈ runR l,D.isPureL e=true:=by
 intro e he
 simp only [runR,List.mem_map] at he
 obtain⟨r,_,rfl⟩:=he
 rfl
def ixF {α:Type} (f:α->Bool):List α->Int->Int
 | [],_=>-1
 | x :: r,i=>if f x=true then i else ixF f r (i+1)
theorem ixF_any {α:Type} {f:α->Bool}:∀ {c:List α} {i:Int},0<=i->(0<=ixF f c i ↔ c.any f=true)
 | [],i,_=>by simp [ixF]
 | x :: r,i,h=>by
  unfold ixF
  by_cases hx:f x=true
  ·rw [if_pos hx,List.any_cons,hx]; simp [h]
  ·rw [if_neg hx,ixF_any (by omega),List.any_cons]; simp [hx]
def badF (s:SysA) (r:RunA):Bool:=!decide ((r.loc.length:Int)= s.ln) || !decide ((r.fac.length:Int)= s.ln) || r.loc.any fun l=>!decide ((l.length:Int)= s.ag)
def badV (s:SysA) (r:RunA):Bool:=r.fac.any fun f=>!decide (f >>> s.fa.toNat=0#64)
def chk (s:SysA):Int:=
 if s.ag<0\/4<s.ag\/s.fa<0\/8<s.fa\/s.ln<1\/16<s.ln then 2 else
 if 64<(s.rs.length:Int)\/512<(s.rs.length:Int)* s.ln then 8 else
 if s.rs.length=0 then 3 else if s.rs.any (badF s)= true then 3 else if s.rs.any (badV s)= true then 2 else 0
end Ru
open Ru
theorem index67 {σ:St} {g:FuncId} {caps:List D} {f:BitVec 64->Bool} {c:List (BitVec 64)} (hl:c.length<=1000) (h:∀ x ∈ c,CallT Tryz.prog g ([.int .u64 (ui x)]++caps) σ (.bool (f x)) σ):CallT Tryz.prog 66 [.sl 1 (us c),.fn g caps] σ (.int .i64 (ixF f c 0)) σ:=by
 refine CallT.go_fn mixed Tryz.func66 k66 (by simp) fun hf=>?_
 simp only [ZA,ZB,ZC,ZD,ZE,↓reduceIte,reduceIte,ZF,ZG,ZH,ZI,ZJ,reduceCtorEq,ZK,↓zU,↓zD,zV,zT,zW,us_len]
 refine wpS_loop (fun k:Nat=>[(8,.int .i64 k),(7,.int .i64 c.length),(1,.fn g caps),(0,.sl 1 (us c))]) (fun _=>σ) (fun k=>k<=c.length/\ixF f c 0=ixF f (c.drop k) k) (fun k=>c.length-k) 0 ⟨Nat.zero_le _,rfl⟩ ?_ ?_
 ·(refine Weak.same ?_; simp [sameF,Fr.get])
 intro k ⟨hk,hi⟩
 refine wpS_go mixed ?_
 by_cases hh:k<c.length
 ·have hd:((k:Int)<(c.length:Int)):=by omega
  rw [drop_cons (d:=0) hh,ixF] at hi
  simp only [ZA,ZB,ZC,ZD,ZE,↓reduceIte,reduceIte,ZF,ZG,ZH,ZI,ZJ,reduceCtorEq,ZK,↓zU,↓zD,zV,zT,zW,hd,us_len,us_get _ hh]
  (repeat refine sd ?_)
  refine .go (h _ (getD_mem hh)) ?_
  cases hx:f (c.getD k 0)
  ·rw [hx,if_neg (by simp)] at hi
   simp only [ZA,ZB,ZC,ZD,ZE,↓reduceIte,reduceIte,ZF,ZG,ZH,ZI,ZJ,reduceCtorEq,ZK,↓zU,↓zD,zV,zT,zW]
   refine⟨k+1,⟨by omega,hi⟩,?_,by omega⟩
   (refine Weak.same ?_; simp only [sameF,Fr.get,↓reduceIte,reduceIte,Nat.reduceEqDiff,reduceCtorEq,D.int.injEq,D.bool.injEq,D.sl.injEq,and_true,true_and,and_self])
   exact wrap_i64 (by omega)
  ·rw [hx,if_pos rfl] at hi
   simp only [ZA,ZB,ZC,ZD,ZE,↓reduceIte,reduceIte,ZF,ZG,ZH,ZI,ZJ,reduceCtorEq,ZK,↓zU,↓zD,zV,zT,zW]
   rw [hi]
   exact .same
 ·have hd:¬ ((k:Int)<(c.length:Int)):=by omega
  rw [List.drop_eq_nil_of_le (by omega),ixF] at hi
  simp only [ZA,ZB,ZC,ZD,ZE,↓reduceIte,reduceIte,ZF,ZG,ZH,ZI,ZJ,reduceCtorEq,ZK,↓zU,↓zD,zV,zT,zW,hd]
  rw [hi]
  exact .same
theorem contains53 {σ:St} {g:FuncId} {caps:List D} {f:BitVec 64->Bool} {c:List (BitVec 64)} (hl:c.length<=1000) (h:∀ x ∈ c,CallT Tryz.prog g ([.int .u64 (ui x)]++caps) σ (.bool (f x)) σ):CallT Tryz.prog 44 [.sl 1 (us c),.fn g caps] σ (.bool (c.any f)) σ:=by
 refine CallT.go_fn mixed Tryz.func44 k44 (by simp) fun hf=>?_
 simp only [ZA,ZB,ZC,ZD,ZE,↓reduceIte,reduceIte,ZF,ZG,ZH,ZI,ZJ,reduceCtorEq,ZK,↓zU,↓zD,zV,zT,zW]
 refine .go (index67 hl h) ?_
 have hx:=ixF_any (f:=f) (c:=c) (i:=0) (Int.le_refl 0)
 cases ha:c.any f
 ·have h1:¬ 0<=ixF f c 0:=fun y=>by rw [hx.1 y] at ha; cases ha
  simp only [ZA,ZB,ZC,ZD,ZE,↓reduceIte,reduceIte,ZF,ZG,ZH,ZI,ZJ,reduceCtorEq,ZK,↓zU,↓zD,zV,zT,zW,h1]
  exact .same
 ·have h1:=hx.2 ha
  simp only [ZA,ZB,ZC,ZD,ZE,↓reduceIte,reduceIte,ZF,ZG,ZH,ZI,ZJ,reduceCtorEq,ZK,↓zU,↓zD,zV,zT,zW,h1]
  exact .same
theorem index66 {σ:St} {g:FuncId} {caps:List D} {f:List Int->Bool} {l:List (List Int)} (hl:l.length<=1000) (h:∀ x ∈ l,CallT Tryz.prog g ([.sl 1 (rows .i64 x)]++caps) σ (.bool (f x)) σ):CallT Tryz.prog 65 [.sl 1 (rl l),.fn g caps] σ (.int .i64 (ixF f l 0)) σ:=by
 refine CallT.go_fn mixed Tryz.func65 k65 (by simp) fun hf=>?_
 simp only [ZA,ZB,ZC,ZD,ZE,↓reduceIte,reduceIte,ZF,ZG,ZH,ZI,ZJ,reduceCtorEq,ZK,↓zU,↓zD,zV,zT,zW,rl_len]
 refine wpS_loop (fun k:Nat=>[(8,.int .i64 k),(7,.int .i64 l.length),(1,.fn g caps),(0,.sl 1 (rl l))]) (fun _=>σ) (fun k=>k<=l.length/\ixF f l 0=ixF f (l.drop k) k) (fun k=>l.length-k) 0 ⟨Nat.zero_le _,rfl⟩ ?_ ?_
 ·(refine Weak.same ?_; simp [sameF,Fr.get])
 intro k ⟨hk,hi⟩
 refine wpS_go mixed ?_
 by_cases hh:k<l.length
 ·have hd:((k:Int)<(l.length:Int)):=by omega
  rw [drop_cons (d:=[]) hh,ixF] at hi
  simp only [ZA,ZB,ZC,ZD,ZE,↓reduceIte,reduceIte,ZF,ZG,ZH,ZI,ZJ,reduceCtorEq,ZK,↓zU,↓zD,zV,zT,zW,hd,rl_len,rl_get _ hh]
  (repeat refine sd ?_)
  refine .go (h _ (getD_mem hh)) ?_
  cases hx:f (l.getD k [])
  ·rw [hx,if_neg (by simp)] at hi
   simp only [ZA,ZB,ZC,ZD,ZE,↓reduceIte,reduceIte,ZF,ZG,ZH,ZI,ZJ,reduceCtorEq,ZK,↓zU,↓zD,zV,zT,zW]
   refine⟨k+1,⟨by omega,hi⟩,?_,by omega⟩
   (refine Weak.same ?_; simp only [sameF,Fr.get,↓reduceIte,reduceIte,Nat.reduceEqDiff,reduceCtorEq,D.int.injEq,D.bool.injEq,D.sl.injEq,and_true,true_and,and_self])
   exact wrap_i64 (by omega)
  ·rw [hx,if_pos rfl] at hi
   simp only [ZA,ZB,ZC,ZD,ZE,↓reduceIte,reduceIte,ZF,ZG,ZH,ZI,ZJ,reduceCtorEq,ZK,↓zU,↓zD,zV,zT,zW]
   rw [hi]
   exact .same
 ·have hd:¬ ((k:Int)<(l.length:Int)):=by omega
  rw [List.drop_eq_nil_of_le (by omega),ixF] at hi
  simp only [ZA,ZB,ZC,ZD,ZE,↓reduceIte,reduceIte,ZF,ZG,ZH,ZI,ZJ,reduceCtorEq,ZK,↓zU,↓zD,zV,zT,zW,hd]
  rw [hi]
  exact .same
theorem contains51 {σ:St} {g:FuncId} {caps:List D} {f:List Int->Bool} {l:List (List Int)} (hl:l.length<=1000) (h:∀ x ∈ l,CallT Tryz.prog g ([.sl 1 (rows .i64 x)]++caps) σ (.bool (f x)) σ):CallT Tryz.prog 42 [.sl 1 (rl l),.fn g caps] σ (.bool (l.any f)) σ:=by
 refine CallT.go_fn mixed Tryz.func42 k42 (by simp) fun hf=>?_
 simp only [ZA,ZB,ZC,ZD,ZE,↓reduceIte,reduceIte,ZF,ZG,ZH,ZI,ZJ,reduceCtorEq,ZK,↓zU,↓zD,zV,zT,zW]
 refine .go (index66 hl h) ?_
 have hx:=ixF_any (f:=f) (c:=l) (i:=0) (Int.le_refl 0)
 cases ha:l.any f
 ·have h1:¬ 0<=ixF f l 0:=fun y=>by rw [hx.1 y] at ha; cases ha
  simp only [ZA,ZB,ZC,ZD,ZE,↓reduceIte,reduceIte,ZF,ZG,ZH,ZI,ZJ,reduceCtorEq,ZK,↓zU,↓zD,zV,zT,zW,h1]
  exact .same
 ·have h1:=hx.2 ha
  simp only [ZA,ZB,ZC,ZD,ZE,↓reduceIte,reduceIte,ZF,ZG,ZH,ZI,ZJ,reduceCtorEq,ZK,↓zU,↓zD,zV,zT,zW,h1]
  exact .same
theorem form52 {nx:Nat} {objs:List (Nat × Ob)} {s:SysA} (h0:St.look objs 0=some ⟨4,[s.cells]⟩) (x:List Int):CallT Tryz.prog 43 ([.sl 1 (rows .i64 x)] ++ [.ref 0 4 0 0]) ⟨nx,objs⟩ (.bool (!decide ((x.length:Int)= s.ag))) ⟨nx,objs⟩:=by
 refine CallT.go_fn mixed Tryz.func43 k43 (by simp) fun hf=>?_
 unfold SysA.cells at h0
 simp only [ZA,ZB,ZC,ZD,ZE,↓reduceIte,reduceIte,ZF,ZG,ZH,ZI,ZJ,reduceCtorEq,ZK,↓zU,↓zD,zV,zT,zW,h0]
 (repeat refine sd ?_)
 rw [show ((x.length:Int) != s.ag)= !decide ((x.length:Int)= s.ag) by rw [bne]; congr 1]
 exact .same
theorem val54 {nx:Nat} {objs:List (Nat × Ob)} {s:SysA} (h0:St.look objs 0=some ⟨4,[s.cells]⟩) (hf:0<=s.fa) (x:BitVec 64):CallT Tryz.prog 45 ([.int .u64 (ui x)] ++ [.ref 0 4 0 0]) ⟨nx,objs⟩ (.bool (!decide (x >>> s.fa.toNat=0#64))) ⟨nx,objs⟩:=by
 refine CallT.go_fn mixed Tryz.func45 k45 (by simp) fun hf=>?_
 unfold SysA.cells at h0
 simp only [ZA,ZB,ZC,ZD,ZE,↓reduceIte,reduceIte,ZF,ZG,ZH,ZI,ZJ,reduceCtorEq,ZK,↓zU,↓zD,zV,zT,zW,h0]
 (repeat refine sd ?_)
 rw [show (x >>> s.fa.toNat != 0#64)= !decide (x >>> s.fa.toNat=0#64) by rw [bne]; congr 1]
 exact .same
theorem Check31 (s:SysA):Runs Tryz.prog 28 [s.d] (.int .i64 (chk s)):=by
 have hD:s.d = .agg [.int .i64 s.ag,.int .i64 s.fa,.int .i64 s.ln,.sl 2 (runR s.rs)]:=rfl
 rw [hD]
 refine CallT.go_fn mixed Tryz.func28 k28 (by simp) fun hf=>?_
 by_cases a1:s.ag<0
 ·rw [show chk s=2 by unfold chk; rw [if_pos (.inl a1)]]
  simp only [ZA,ZB,ZC,ZD,ZE,↓reduceIte,reduceIte,ZF,ZG,ZH,ZI,ZJ,reduceCtorEq,ZK,↓zU,↓zD,zV,zT,zW,a1]
  exact .drop (by simp) (by simp [vw])
 by_cases a2:4<s.ag
 ·rw [show chk s=2 by unfold chk; rw [if_pos (by omega)]]
  simp only [ZA,ZB,ZC,ZD,ZE,↓reduceIte,reduceIte,ZF,ZG,ZH,ZI,ZJ,reduceCtorEq,ZK,↓zU,↓zD,zV,zT,zW,a1,a2]
  exact .drop (by simp) (by simp [vw])
 by_cases a3:s.fa<0
 ·rw [show chk s=2 by unfold chk; rw [if_pos (by omega)]]
  simp only [ZA,ZB,ZC,ZD,ZE,↓reduceIte,reduceIte,ZF,ZG,ZH,ZI,ZJ,reduceCtorEq,ZK,↓zU,↓zD,zV,zT,zW,a1,a2,a3]
  exact .drop (by simp) (by simp [vw])
 by_cases a4:8<s.fa
 ·rw [show chk s=2 by unfold chk; rw [if_pos (by omega)]]
  simp only [ZA,ZB,ZC,ZD,ZE,↓reduceIte,reduceIte,ZF,ZG,ZH,ZI,ZJ,reduceCtorEq,ZK,↓zU,↓zD,zV,zT,zW,a1,a2,a3,a4]
  exact .drop (by simp) (by simp [vw])
 by_cases a5:s.ln<1
 ·rw [show chk s=2 by unfold chk; rw [if_pos (by omega)]]
  simp only [ZA,ZB,ZC,ZD,ZE,↓reduceIte,reduceIte,ZF,ZG,ZH,ZI,ZJ,reduceCtorEq,ZK,↓zU,↓zD,zV,zT,zW,a1,a2,a3,a4,a5]
  exact .drop (by simp) (by simp [vw])
 by_cases a6:16<s.ln
 ·rw [show chk s=2 by unfold chk; rw [if_pos (by omega)]]
  simp only [ZA,ZB,ZC,ZD,ZE,↓reduceIte,reduceIte,ZF,ZG,ZH,ZI,ZJ,reduceCtorEq,ZK,↓zU,↓zD,zV,zT,zW,a1,a2,a3,a4,a5,a6]
  exact .drop (by simp) (by simp [vw])
 have e0:chk s=if 64<(s.rs.length:Int)\/512<(s.rs.length:Int)* s.ln then 8 else
  if s.rs.length=0 then 3 else if s.rs.any (badF s)= true then 3 else if s.rs.any (badV s)= true then 2 else 0:=by
  unfold chk; rw [if_neg (by omega)]
 by_cases b1:64<(s.rs.length:Int)
 ·rw [e0,if_pos (.inl b1)]
  simp only [ZA,ZB,ZC,ZD,ZE,↓reduceIte,reduceIte,ZF,ZG,ZH,ZI,ZJ,reduceCtorEq,ZK,↓zU,↓zD,zV,zT,zW,a1,a2,a3,a4,a5,a6,runR_len,b1]
  exact .drop (by simp) (by simp [vw])
 have hm:(s.rs.length:Int)* s.ln<=64*16:=Int.mul_le_mul (by omega) (by omega) (by omega) (by omega)
 have hm0:0<=(s.rs.length:Int)* s.ln:=Int.mul_nonneg (by omega) (by omega)
 have hw:IntKind.i64.wrap ((s.rs.length:Int)* s.ln)= (s.rs.length:Int)* s.ln:=wrap_i64 (by omega)
 by_cases b2:512<(s.rs.length:Int)* s.ln
 ·rw [e0,if_pos (.inr b2)]
  simp only [ZA,ZB,ZC,ZD,ZE,↓reduceIte,reduceIte,ZF,ZG,ZH,ZI,ZJ,reduceCtorEq,ZK,↓zU,↓zD,zV,zT,zW,a1,a2,a3,a4,a5,a6,runR_len,b1,hw,b2]
  exact .drop (by simp) (by simp [vw])
 rw [e0,if_neg (by omega)]
 by_cases b3:s.rs.length=0
 ·rw [if_pos b3]
  have b3':((s.rs.length:Int)== 0)= true:=by rw [b3]; rfl
  simp only [ZA,ZB,ZC,ZD,ZE,↓reduceIte,reduceIte,ZF,ZG,ZH,ZI,ZJ,reduceCtorEq,ZK,↓zU,↓zD,zV,zT,zW,a1,a2,a3,a4,a5,a6,runR_len,b1,hw,b2,b3']
  exact .drop (by simp) (by simp [vw])
 rw [if_neg b3]
 have b3':((s.rs.length:Int)== 0)= false:=by rw [beq_eq_false_iff_ne]; omega
 simp only [ZA,ZB,ZC,ZD,ZE,↓reduceIte,reduceIte,ZF,ZG,ZH,ZI,ZJ,reduceCtorEq,ZK,↓zU,↓zD,zV,zT,zW,a1,a2,a3,a4,a5,a6,runR_len,b1,hw,b2,b3']
 refine wpS_loop (fun k:Nat=>[(55,.int .i64 k),(54,.int .i64 s.rs.length),(53,.sl 2 (runR s.rs)),(1,.ref 0 4 0 0)]) (fun _=>⟨1,[(0,⟨4,[[.int .i64 s.ag,.int .i64 s.fa,.int .i64 s.ln,.sl 2 (runR s.rs)]]⟩)]⟩)
  (fun k=>k<=s.rs.length/\s.rs.any (badF s)= (s.rs.drop k).any (badF s)) (fun k=>s.rs.length-k) 0 ⟨Nat.zero_le _,rfl⟩ ?_ ?_
 ·(refine Weak.same ?_; simp [sameF,Fr.get])
 intro k ⟨hk,hi⟩
 refine wpS_go mixed ?_
 by_cases hkl:k<s.rs.length
 case neg=>
  have hd:¬ ((k:Int)<(s.rs.length:Int)):=by omega
  rw [List.drop_eq_nil_of_le (by omega),List.any_nil] at hi
  rw [if_neg (by rw [hi]; simp)]
  simp only [ZA,ZB,ZC,ZD,ZE,↓reduceIte,reduceIte,ZF,ZG,ZH,ZI,ZJ,reduceCtorEq,ZK,↓zU,↓zD,zV,zT,zW,hd,runR_len]
  refine wpS_loop (fun k:Nat=>[(83,.int .i64 k),(82,.int .i64 s.rs.length),(81,.sl 2 (runR s.rs)),(1,.ref 0 4 0 0)]) (fun _=>⟨1,[(0,⟨4,[[.int .i64 s.ag,.int .i64 s.fa,.int .i64 s.ln,.sl 2 (runR s.rs)]]⟩)]⟩)
   (fun k=>k<=s.rs.length/\s.rs.any (badV s)= (s.rs.drop k).any (badV s)) (fun k=>s.rs.length-k) 0 ⟨Nat.zero_le _,rfl⟩ ?_ ?_
  ·(refine Weak.same ?_; simp [sameF,Fr.get])
  intro k ⟨hk,hv⟩
  refine wpS_go mixed ?_
  by_cases hkl:k<s.rs.length
  case neg=>
   have hd:¬ ((k:Int)<(s.rs.length:Int)):=by omega
   rw [List.drop_eq_nil_of_le (by omega),List.any_nil] at hv
   rw [if_neg (by rw [hv]; simp)]
   simp only [ZA,ZB,ZC,ZD,ZE,↓reduceIte,reduceIte,ZF,ZG,ZH,ZI,ZJ,reduceCtorEq,ZK,↓zU,↓zD,zV,zT,zW,hd]
   exact .drop (by simp) (by simp [vw])
  have hd:((k:Int)<(s.rs.length:Int)):=by omega
  rw [drop_cons (d:=run0) hkl,List.any_cons] at hv
  have hnb:badF s (s.rs.getD k run0)= false:=by
   have:=List.any_eq_false.1 hi _ (getD_mem (d:=run0) hkl)
   simpa using this
  have hg:=runR_get s.rs hkl
  generalize s.rs.getD k run0=r at hg hv hnb
  have hfl:r.fac.length<=1000:=by
   simp only [badF,Bool.or_eq_false_iff,Bool.not_eq_false',decide_eq_true_eq] at hnb
   omega
  have hc:=contains53 (σ:=⟨2,[(1,⟨2,[r.row]⟩),(0,⟨4,[s.cells]⟩)]⟩) (g:=45) (caps:=[.ref 0 4 0 0]) (c:=r.fac) (f:=fun f=>!decide (f >>> s.fa.toNat=0#64)) hfl fun x _=>val54 rfl (by omega) x
  simp only [SysA.cells,RunA.row] at hc
  simp only [ZA,ZB,ZC,ZD,ZE,↓reduceIte,reduceIte,ZF,ZG,ZH,ZI,ZJ,reduceCtorEq,ZK,↓zU,↓zD,zV,zT,zW,hd,runR_len,hg,RunA.row]
  (repeat refine sd ?_)
  refine .go hc ?_
  cases hb:r.fac.any fun f=>!decide (f >>> s.fa.toNat=0#64)
  ·simp only [ZA,ZB,ZC,ZD,ZE,↓reduceIte,reduceIte,ZF,ZG,ZH,ZI,ZJ,reduceCtorEq,ZK,↓zU,↓zD,zV,zT,zW]
   refine⟨k+1,⟨by omega,?_⟩,?_,by omega⟩
   ·rw [hv,show badV s r=false from hb,Bool.false_or]
   (refine Weak.ren [] [0] (by simp) (by simp) (by decide) ?_; simp only [stay1,vwL,vw,vwF,sw,St.get,St.look,Fr.get,↓reduceIte,reduceIte,Nat.reduceEqDiff,Nat.reduceAdd,Nat.reduceBEq,Nat.reduceLT,Nat.reduceLeDiff,exists_eq_left',ne_eq,reduceCtorEq,zR])
   exact wrap_i64 (by omega)
  ·rw [if_pos (by rw [hv,show badV s r=true from hb,Bool.true_or])]
   simp only [ZA,ZB,ZC,ZD,ZE,↓reduceIte,reduceIte,ZF,ZG,ZH,ZI,ZJ,reduceCtorEq,ZK,↓zU,↓zD,zV,zT,zW]
   exact .drop (by simp) (by simp [vw])
 have hd:((k:Int)<(s.rs.length:Int)):=by omega
 rw [drop_cons (d:=run0) hkl,List.any_cons] at hi
 have hg:=runR_get s.rs hkl
 generalize s.rs.getD k run0=r at hg hi
 have hend:badF s r=true->s.rs.any (badF s)= true:=fun h=>by rw [hi,h,Bool.true_or]
 by_cases c1:(r.loc.length:Int)= s.ln
 case neg=>
  have e1:((r.loc.length:Int) != s.ln)= true:=by simpa using c1
  rw [if_pos (hend (by unfold badF; simp [c1]))]
  simp only [ZA,ZB,ZC,ZD,ZE,↓reduceIte,reduceIte,ZF,ZG,ZH,ZI,ZJ,reduceCtorEq,ZK,↓zU,↓zD,zV,zT,zW,hd,runR_len,hg,RunA.row,rl_len,e1]
  (repeat refine sd ?_)
  exact .drop (by simp) (by simp [vw])
 have e1:((r.loc.length:Int) != s.ln)= false:=by simpa using c1
 by_cases c2:(r.fac.length:Int)= s.ln
 case neg=>
  have e2:((r.fac.length:Int) != s.ln)= true:=by simpa using c2
  rw [if_pos (hend (by unfold badF; simp [c2]))]
  simp only [ZA,ZB,ZC,ZD,ZE,↓reduceIte,reduceIte,ZF,ZG,ZH,ZI,ZJ,reduceCtorEq,ZK,↓zU,↓zD,zV,zT,zW,hd,runR_len,hg,RunA.row,rl_len,e1,us_len,e2]
  (repeat refine sd ?_)
  exact .drop (by simp) (by simp [vw])
 have e2:((r.fac.length:Int) != s.ln)= false:=by simpa using c2
 have hc:=contains51 (σ:=⟨2,[(1,⟨2,[r.row]⟩),(0,⟨4,[s.cells]⟩)]⟩) (g:=43) (caps:=[.ref 0 4 0 0]) (l:=r.loc) (f:=fun l=>!decide ((l.length:Int)= s.ag)) (by omega) fun x _=>form52 rfl x
 simp only [SysA.cells,RunA.row] at hc
 have hbf:badF s r=r.loc.any fun l=>!decide ((l.length:Int)= s.ag):=by unfold badF; simp [c1,c2]
 simp only [ZA,ZB,ZC,ZD,ZE,↓reduceIte,reduceIte,ZF,ZG,ZH,ZI,ZJ,reduceCtorEq,ZK,↓zU,↓zD,zV,zT,zW,hd,runR_len,hg,RunA.row,rl_len,e1,us_len,e2]
 (repeat refine sd ?_)
 refine .go hc ?_
 rw [<- hbf]
 cases hb:badF s r
 ·simp only [ZA,ZB,ZC,ZD,ZE,↓reduceIte,reduceIte,ZF,ZG,ZH,ZI,ZJ,reduceCtorEq,ZK,↓zU,↓zD,zV,zT,zW]
  refine⟨k+1,⟨by omega,?_⟩,?_,by omega⟩
  ·rw [hi,hb,Bool.false_or]
  (refine Weak.ren [] [0] (by simp) (by simp) (by decide) ?_; simp only [stay1,vwL,vw,vwF,sw,St.get,St.look,Fr.get,↓reduceIte,reduceIte,Nat.reduceEqDiff,Nat.reduceAdd,Nat.reduceBEq,Nat.reduceLT,Nat.reduceLeDiff,exists_eq_left',ne_eq,reduceCtorEq,zR])
  exact wrap_i64 (by omega)
 ·rw [if_pos (hend hb)]
  simp only [ZA,ZB,ZC,ZD,ZE,↓reduceIte,reduceIte,ZF,ZG,ZH,ZI,ZJ,reduceCtorEq,ZK,↓zU,↓zD,zV,zT,zW]
  exact .drop (by simp) (by simp [vw])
end Go.Pd
