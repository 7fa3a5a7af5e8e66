/- Part E7. -/
import Derived.Test.YtndfaefmmcoapaaGreatKaP8
import Derived.Test.YtndfaefmmcoapaaGreatKaX9
set_option linter.unusedSectionVars false
set_option linter.unusedVariables false
set_option linter.unusedSimpArgs false
set_option linter.defProp false
set_option maxRecDepth 20000
set_option maxHeartbeats 1000000
namespace Go.Pd
open Go Go.Proofs
open Int renaming reduceToNat -> ZA, reduceLT -> ZB, reduceLE -> ZC, reduceBEq -> ZD, reduceBNe -> ZE
open Nat renaming reduceEqDiff -> ZF, reduceAdd -> ZG, reduceBEq -> ZH, reduceLT -> ZI, reduceLeDiff -> ZJ, reduceMul -> ZK
open Rs Fm
theorem aPz (f:List Nd) (a b:Int):yX Tryz.prog 119 [.sl 6 (ndR f),.int .i64 a,.int .i64 b] (.bool (sV f a b)):=by
 have hA:=aX4 f;have hF:=aTs f;have hC:=aZk f;have ha:=eW (n:=a) (aXq f) (by decide);have hb:=eW (n:=b) (aXd f) (by decide);have la:=aXq f;have lb:=aXd f;unfold sV;rw [ha,hb];generalize uA f=ma at hA la;generalize pN f=mb at hF lb;refine xX.go_fn mixed Tryz.func119 bYu (by simp) fun hf=>?_;simp only [ZA,ZB,ZC,ZD,ZE,↓reduceIte,ZF,ZG,ZH,ZI,ZJ,reduceCtorEq,ZK,↓zU,↓zD,zV,zT,zW];refine .go (cr hC) ?_;by_cases hz:xH f=0
 case neg=>
  have e:(xH f != 0)= true:=by simpa using hz
  simp only [ZA,ZB,ZC,ZD,ZE,↓reduceIte,ZF,ZG,ZH,ZI,ZJ,reduceCtorEq,ZK,↓zU,↓zD,zV,zT,zW,e];exact .drop (by simp) (by simp [vw,hz])
 have e:(xH f != 0)= false:=by simpa using hz
 rw [decide_eq_true hz,Bool.true_and];simp only [ZA,ZB,ZC,ZD,ZE,↓reduceIte,ZF,ZG,ZH,ZI,ZJ,reduceCtorEq,ZK,↓zU,↓zD,zV,zT,zW,e]
 refine xV (fun i:Nat=>[(7,.int .i64 i),(2,.int .i64 b),(1,.int .i64 a),(0,.sl 6 (ndR f))]) (fun _=>⟨0,[]⟩) (fun i=>i<=4/\oP ma i a=true) (fun i=>4-i) 0 ⟨Nat.zero_le _,rfl⟩ ?_ ?_
 ·(refine xM.same ?_; simp [xS,Fr.get])
 rintro i ⟨hi,hk⟩;refine xQ mixed ?_
 by_cases h4:i<4
 ·have hd:((i:Int)<4):=by omega
  have hsu:oP ma (i+1) a=(oP ma i a&&(!ma.testBit i || decide ((i:Int)<a))):=by
   unfold oP; rw [List.range_succ,List.all_append,List.all_cons,List.all_nil,Bool.and_true]
  have hbit:(((ma / 2 ^ i:Nat):Int).tmod 2==1)= ma.testBit i:=by rw [aEz,aIf]
  rw [hk,Bool.true_and] at hsu;simp only [ZA,ZB,ZC,ZD,ZE,↓reduceIte,ZF,ZG,ZH,ZI,ZJ,reduceCtorEq,ZK,↓zU,↓zD,zV,zT,zW,hd];refine .go (cr hA) ?_
  cases hb2:ma.testBit i with
  | false=>
   rw [hb2] at hbit hsu;simp only [ZA,ZB,ZC,ZD,ZE,↓reduceIte,ZF,ZG,ZH,ZI,ZJ,reduceCtorEq,ZK,↓zU,↓zD,zV,zT,zW,lS ma i (by omega),hbit]
   (repeat refine sd ?_)
   refine⟨i+1,⟨by omega,by rw [hsu]; rfl⟩,?_,by omega⟩
   (refine xM.same ?_; simp only [xS,Fr.get,↓reduceIte,reduceIte,Nat.reduceEqDiff,reduceCtorEq,D.int.injEq,D.bool.injEq,D.sl.injEq,and_true,true_and,and_self])
   exact uB (by omega)
  | true=>
   rw [hb2] at hbit hsu
   by_cases hge:a<=(i:Int)
   ·simp only [ZA,ZB,ZC,ZD,ZE,↓reduceIte,ZF,ZG,ZH,ZI,ZJ,reduceCtorEq,ZK,↓zU,↓zD,zV,zT,zW,lS ma i (by omega),hbit,hge]
    (repeat refine sd ?_)
    have hf0:oP ma 4 a=false:=by
     unfold oP;rw [List.all_eq_false];exact⟨i,List.mem_range.2 h4,by rw [hb2,decide_eq_false (by omega)]; simp⟩
    exact .drop (by simp) (by simp [vw,hf0])
   ·simp only [ZA,ZB,ZC,ZD,ZE,↓reduceIte,ZF,ZG,ZH,ZI,ZJ,reduceCtorEq,ZK,↓zU,↓zD,zV,zT,zW,lS ma i (by omega),hbit,hge]
    (repeat refine sd ?_)
    refine⟨i+1,⟨by omega,by rw [hsu,decide_eq_true (by omega)]; rfl⟩,?_,by omega⟩
    (refine xM.same ?_; simp only [xS,Fr.get,↓reduceIte,reduceIte,Nat.reduceEqDiff,reduceCtorEq,D.int.injEq,D.bool.injEq,D.sl.injEq,and_true,true_and,and_self])
    exact uB (by omega)
 have hd:¬ ((i:Int)<4):=by omega
 obtain rfl:i=4:=by omega
 rw [hk,Bool.true_and];simp only [ZA,ZB,ZC,ZD,ZE,↓reduceIte,ZF,ZG,ZH,ZI,ZJ,reduceCtorEq,ZK,↓zU,↓zD,zV,zT,zW,hd]
 refine xV (fun i:Nat=>[(8,.int .i64 i),(2,.int .i64 b),(0,.sl 6 (ndR f))]) (fun _=>⟨0,[]⟩) (fun i=>i<=8/\oP mb i b=true) (fun i=>8-i) 0 ⟨Nat.zero_le _,rfl⟩ ?_ ?_
 ·(refine xM.same ?_; simp [xS,Fr.get])
 clear hd hi hk;rintro i ⟨hi,hk⟩;refine xQ mixed ?_
 by_cases h4:i<8
 ·have hd:((i:Int)<8):=by omega
  have hsu:oP mb (i+1) b=(oP mb i b&&(!mb.testBit i || decide ((i:Int)<b))):=by
   unfold oP; rw [List.range_succ,List.all_append,List.all_cons,List.all_nil,Bool.and_true]
  have hbit:(((mb / 2 ^ i:Nat):Int).tmod 2==1)= mb.testBit i:=by rw [aEz,aIf]
  rw [hk,Bool.true_and] at hsu;simp only [ZA,ZB,ZC,ZD,ZE,↓reduceIte,ZF,ZG,ZH,ZI,ZJ,reduceCtorEq,ZK,↓zU,↓zD,zV,zT,zW,hd];refine .go (cr hF) ?_
  cases hb2:mb.testBit i with
  | false=>
   rw [hb2] at hbit hsu;simp only [ZA,ZB,ZC,ZD,ZE,↓reduceIte,ZF,ZG,ZH,ZI,ZJ,reduceCtorEq,ZK,↓zU,↓zD,zV,zT,zW,lS mb i (by omega),hbit]
   (repeat refine sd ?_)
   refine⟨i+1,⟨by omega,by rw [hsu]; rfl⟩,?_,by omega⟩
   (refine xM.same ?_; simp only [xS,Fr.get,↓reduceIte,reduceIte,Nat.reduceEqDiff,reduceCtorEq,D.int.injEq,D.bool.injEq,D.sl.injEq,and_true,true_and,and_self])
   exact uB (by omega)
  | true=>
   rw [hb2] at hbit hsu
   by_cases hge:b<=(i:Int)
   ·simp only [ZA,ZB,ZC,ZD,ZE,↓reduceIte,ZF,ZG,ZH,ZI,ZJ,reduceCtorEq,ZK,↓zU,↓zD,zV,zT,zW,lS mb i (by omega),hbit,hge]
    (repeat refine sd ?_)
    have hf0:oP mb 8 b=false:=by
     unfold oP;rw [List.all_eq_false];exact⟨i,List.mem_range.2 h4,by rw [hb2,decide_eq_false (by omega)]; simp⟩
    exact .drop (by simp) (by simp [vw,hf0])
   ·simp only [ZA,ZB,ZC,ZD,ZE,↓reduceIte,ZF,ZG,ZH,ZI,ZJ,reduceCtorEq,ZK,↓zU,↓zD,zV,zT,zW,lS mb i (by omega),hbit,hge]
    (repeat refine sd ?_)
    refine⟨i+1,⟨by omega,by rw [hsu,decide_eq_true (by omega)]; rfl⟩,?_,by omega⟩
    (refine xM.same ?_; simp only [xS,Fr.get,↓reduceIte,reduceIte,Nat.reduceEqDiff,reduceCtorEq,D.int.injEq,D.bool.injEq,D.sl.injEq,and_true,true_and,and_self])
    exact uB (by omega)
 have hd:¬ ((i:Int)<8):=by omega
 obtain rfl:i=8:=by omega
 rw [hk];simp only [ZA,ZB,ZC,ZD,ZE,↓reduceIte,ZF,ZG,ZH,ZI,ZJ,reduceCtorEq,ZK,↓zU,↓zD,zV,zT,zW,hd];exact .drop (by simp) (by simp [vw])
namespace Ru
structure wO where
 loc:List (List Int)
 fac:List (BitVec 64)
structure cG where
 ag:Int
 fa:Int
 ln:Int
 rs:List wO
def wO.row (r:wO):List D:=[.sl 1 (rl r.loc),.sl 1 (us r.fac)]
def oV (l:List wO):List (List D):=l.map wO.row
def cG.cells (s:cG):List D:=[.int .i64 s.ag,.int .i64 s.fa,.int .i64 s.ln,.sl 2 (oV s.rs)]
def cG.d (s:cG):D:=.agg s.cells
def nE : wO:=⟨[],[]⟩
theorem tL (l:List wO):(oV l).length=l.length:=by simp [oV]
theorem aW4 (l:List wO) {i:Nat} (h:i<l.length):(oV l).getD i []=(l.getD i nE).row:=by simp [oV,List.getD,h]
theorem aPr (l:List wO):∀ e ∈ oV l,D.isPureL e=true:=by
 intro e he;simp only [oV,List.mem_map] at he;obtain⟨r,_,rfl⟩:=he;rfl
def ixF {α:Type} (f:α->Bool):List α->Int->Int
 | [],_=>-1
 | x :: r,i=>if f x=true then i else ixF f r (i+1)
theorem mK {α:Type} {f:α->Bool}:∀ {c:List α} {i:Int},0<=i->(0<=ixF f c i ↔ c.any f=true)
 | [],i,_=>by simp [ixF]
 | x :: r,i,h=>by
  unfold ixF
  by_cases hx:f x=true
  ·rw [if_pos hx,List.any_cons,hx]; simp [h]
  ·rw [if_neg hx,mK (by omega),List.any_cons]; simp [hx]
def aAt (s:cG) (r:wO):Bool:=!decide ((r.loc.length:Int)= s.ln) || !decide ((r.fac.length:Int)= s.ln) || r.loc.any fun l=>!decide ((l.length:Int)= s.ag)
def aAs (s:cG) (r:wO):Bool:=r.fac.any fun f=>!decide (f >>> s.fa.toNat=0#64)
def chk (s:cG):Int:=
 if s.ag<0\/4<s.ag\/s.fa<0\/8<s.fa\/s.ln<1\/16<s.ln then 2 else
 if 64<(s.rs.length:Int)\/512<(s.rs.length:Int)* s.ln then 8 else
 if s.rs.length=0 then 3 else if s.rs.any (aAt s)= true then 3 else if s.rs.any (aAs s)= true then 2 else 0
end Ru
open Ru
theorem aGv {σ:St} {g:FuncId} {caps:List D} {f:BitVec 64->Bool} {c:List (BitVec 64)} (hl:c.length<=1000) (h:∀ x ∈ c,xX Tryz.prog g ([.int .u64 (ui x)]++caps) σ (.bool (f x)) σ):xX Tryz.prog 115 [.sl 1 (us c),.fn g caps] σ (.int .i64 (ixF f c 0)) σ:=by
 refine xX.go_fn mixed Tryz.func115 bYy (by simp) fun hf=>?_;simp only [ZA,ZB,ZC,ZD,ZE,↓reduceIte,ZF,ZG,ZH,ZI,ZJ,reduceCtorEq,ZK,↓zU,↓zD,zV,zT,zW,xR]
 refine xV (fun k:Nat=>[(8,.int .i64 k),(7,.int .i64 c.length),(1,.fn g caps),(0,.sl 1 (us c))]) (fun _=>σ) (fun k=>k<=c.length/\ixF f c 0=ixF f (c.drop k) k) (fun k=>c.length-k) 0 ⟨Nat.zero_le _,rfl⟩ ?_ ?_
 ·(refine xM.same ?_; simp [xS,Fr.get])
 intro k ⟨hk,hi⟩;refine xQ mixed ?_
 by_cases hh:k<c.length
 ·have hd:((k:Int)<(c.length:Int)):=by omega
  rw [drop_cons (d:=0) hh,ixF] at hi;simp only [ZA,ZB,ZC,ZD,ZE,↓reduceIte,ZF,ZG,ZH,ZI,ZJ,reduceCtorEq,ZK,↓zU,↓zD,zV,zT,zW,hd,xR,zI _ hh]
  (repeat refine sd ?_)
  refine .go (h _ (xN hh)) ?_
  cases hx:f (c.getD k 0)
  ·rw [hx,if_neg (by simp)] at hi;simp only [ZA,ZB,ZC,ZD,ZE,↓reduceIte,ZF,ZG,ZH,ZI,ZJ,reduceCtorEq,ZK,↓zU,↓zD,zV,zT,zW];refine⟨k+1,⟨by omega,hi⟩,?_,by omega⟩
   (refine xM.same ?_; simp only [xS,Fr.get,↓reduceIte,reduceIte,Nat.reduceEqDiff,reduceCtorEq,D.int.injEq,D.bool.injEq,D.sl.injEq,and_true,true_and,and_self])
   exact wrap_i64 (by omega)
  ·rw [hx,if_pos rfl] at hi;simp only [ZA,ZB,ZC,ZD,ZE,↓reduceIte,ZF,ZG,ZH,ZI,ZJ,reduceCtorEq,ZK,↓zU,↓zD,zV,zT,zW];rw [hi];exact .same
 ·have hd:¬ ((k:Int)<(c.length:Int)):=by omega
  rw [List.drop_eq_nil_of_le (by omega),ixF] at hi;simp only [ZA,ZB,ZC,ZD,ZE,↓reduceIte,ZF,ZG,ZH,ZI,ZJ,reduceCtorEq,ZK,↓zU,↓zD,zV,zT,zW,hd];rw [hi];exact .same
theorem lZ {σ:St} {g:FuncId} {caps:List D} {f:BitVec 64->Bool} {c:List (BitVec 64)} (hl:c.length<=1000) (h:∀ x ∈ c,xX Tryz.prog g ([.int .u64 (ui x)]++caps) σ (.bool (f x)) σ):xX Tryz.prog 58 [.sl 1 (us c),.fn g caps] σ (.bool (c.any f)) σ:=by
 refine xX.go_fn mixed Tryz.func58 k58 (by simp) fun hf=>?_;simp only [ZA,ZB,ZC,ZD,ZE,↓reduceIte,ZF,ZG,ZH,ZI,ZJ,reduceCtorEq,ZK,↓zU,↓zD,zV,zT,zW];refine .go (aGv hl h) ?_;have hx:=mK (f:=f) (c:=c) (i:=0) (Int.le_refl 0)
 cases ha:c.any f
 ·have h1:¬ 0<=ixF f c 0:=fun y=>by rw [hx.1 y] at ha; cases ha
  simp only [ZA,ZB,ZC,ZD,ZE,↓reduceIte,ZF,ZG,ZH,ZI,ZJ,reduceCtorEq,ZK,↓zU,↓zD,zV,zT,zW,h1];exact .same
 ·have h1:=hx.2 ha;simp only [ZA,ZB,ZC,ZD,ZE,↓reduceIte,ZF,ZG,ZH,ZI,ZJ,reduceCtorEq,ZK,↓zU,↓zD,zV,zT,zW,h1];exact .same
open Rs Fm Ru
namespace Kb
structure ClA where
 test:List Nd
 mv:Int
structure AsA where
 fact:Int
 to:List Nd
structure PrA where
 F:Int
 init:List (BitVec 64)
 see:List (BitVec 64)
 moves:List (List AsA)
 code:List (List ClA)
def cl0 : ClA:=⟨[],0⟩
def as0 : AsA:=⟨0,[]⟩
def ClA.row (c:ClA):List D:=[.sl 6 (ndR c.test),.int .i64 c.mv]
def AsA.row (a:AsA):List D:=[.int .i64 a.fact,.sl 6 (ndR a.to)]
def clR (l:List ClA):List (List D):=l.map ClA.row
def asR (l:List AsA):List (List D):=l.map AsA.row
def mvR (l:List (List AsA)):List (List D):=l.map fun s=>[.sl 2 (asR s)]
def cdR (l:List (List ClA)):List (List D):=l.map fun s=>[.sl 2 (clR s)]
def PrA.cells (p:PrA):List D:=[.int .i64 p.F,.sl 1 (us p.init),.sl 1 (us p.see),.sl 1 (mvR p.moves),.sl 1 (cdR p.code)]
def PrA.d (p:PrA):D:=.agg p.cells
theorem wT (l:List ClA):(clR l).length=l.length:=by simp [clR]
theorem zF (l:List AsA):(asR l).length=l.length:=by simp [asR]
theorem xA (l:List (List AsA)):(mvR l).length=l.length:=by simp [mvR]
theorem yO (l:List (List ClA)):(cdR l).length=l.length:=by simp [cdR]
theorem eF (l:List ClA) {i:Nat} (h:i<l.length):(clR l).getD i []=(l.getD i cl0).row:=by simp [clR,List.getD,h]
theorem pF (l:List AsA) {i:Nat} (h:i<l.length):(asR l).getD i []=(l.getD i as0).row:=by simp [asR,List.getD,h]
theorem mM (l:List (List AsA)) {i:Nat} (h:i<l.length):(mvR l).getD i [] = [.sl 2 (asR (l.getD i []))]:=by simp [mvR,List.getD,h]
theorem mJ (l:List (List ClA)) {i:Nat} (h:i<l.length):(cdR l).getD i [] = [.sl 2 (clR (l.getD i []))]:=by simp [cdR,List.getD,h]
def wV {α:Type} (f:α->Int):List α->Int
 | []=>0
 | x :: r=>if f x≠0 then f x else wV f r
theorem tV {α:Type} {f:α->Int}:∀ {l:List α},wV f l=0 ↔ ∀ x ∈ l,f x=0
 | []=>by simp [wV]
 | x :: r=>by
  unfold wV
  by_cases h:f x=0
  ·rw [if_neg (by simpa using h),tV]; simp [h]
  ·rw [if_pos h]; simp [h]
def aNu (l:List Int):Bool:=(List.range (l.length-1)).all fun i=>decide (l.getD i 0<l.getD (i+1) 0)
def fmE (p:PrA) (f:List Nd) (frags:Int):Int:=
 if xH f≠0 then xH f else if (rQ .andNot .i64 (zY f) frags != 0)= true then 10 else if sV f p.see.length p.F=true then 0 else 2
def asE (p:PrA) (a:AsA):Int:=if a.fact<0\/p.F<=a.fact then 2 else fmE p a.to 0
def clE (p:PrA) (c:ClA):Int:=if fmE p c.test 15≠0 then fmE p c.test 15 else if c.mv < -1\/(p.moves.length:Int)<=c.mv then 2 else 0
def oT (p:PrA) (s:BitVec 64):Bool:=!decide (s >>> p.F.toNat=0#64)
def aNt (l:List (BitVec 64)):Bool:=aNu (l.map ui)
def aYj (s:List AsA):Bool:=aNu (s.map (·.fact))
def yH (p:PrA):Int:=
 if p.F<0\/8<p.F then 2 else
 if 4<p.see.length\/16<p.init.length\/8<p.moves.length\/p.code.any (fun l=>decide (6<l.length))= true then 8 else
 if p.see.length=0\/p.init.length=0\/p.code.length≠p.see.length\/p.init.any (oT p)= true\/p.see.any (oT p)= true then 3 else
 if aNt p.init=false\/p.moves.any (fun s=>!aYj s)= true then 9 else 0
def tE (p:PrA):Int:=
 if yH p≠0 then yH p else if wV (wV (asE p)) p.moves≠0 then wV (wV (asE p)) p.moves else wV (wV (clE p)) p.code
structure rU (p : PrA) : Prop where
 init:p.init.length<=2000000
 code:p.code.length<=2000000
 mv:∀ s ∈ p.moves,s.length<=2000000
end Kb
open Kb
theorem nY {l:List Int} (h:∀ i,i+1<l.length->l.getD i 0<l.getD (i+1) 0):aNu l=true:=by
 unfold aNu;rw [List.all_eq_true];intro i hi;have:=List.mem_range.1 hi;exact decide_eq_true (h i (by omega))
theorem nX {l:List Int} {i:Nat} (hi:i+1<l.length) (h:¬ l.getD i 0<l.getD (i+1) 0):aNu l=false:=by
 unfold aNu;rw [List.all_eq_false];exact⟨i,List.mem_range.2 (by omega),by simpa using h⟩
theorem aJk {l:List Int}:aNu l=true ↔ ∀ i,i+1<l.length->l.getD i 0<l.getD (i+1) 0:=by
 refine⟨fun h i hi=>Decidable.byContradiction fun hh=>?_,nY⟩;rw [nX hi hh] at h; cases h
theorem aAc (l:List Int) (hl:l.length<=2000000):yX Tryz.prog 59 [.sl 1 (rows .u64 l)] (.bool (aNu l)):=by
 refine xX.go_fn mixed Tryz.func59 k59 (by simp) fun hf=>?_;simp only [ZA,ZB,ZC,ZD,ZE,↓reduceIte,ZF,ZG,ZH,ZI,ZJ,reduceCtorEq,ZK,↓zU,↓zD,zV,zT,zW]
 refine xV (fun k:Nat=>[(3,.int .i64 ((k+1:Nat):Int)),(0,.sl 1 (rows .u64 l))]) (fun _=>⟨0,[]⟩) (fun k=>k<=l.length/\∀ i,i<k->i+1<l.length->l.getD i 0<l.getD (i+1) 0) (fun k=>l.length-k) 0 ⟨Nat.zero_le _,fun i hi=>absurd hi (Nat.not_lt_zero _)⟩ ?_ ?_
 ·(refine xM.same ?_; simp [xS,Fr.get])
 intro k ⟨hk,hi⟩;refine xQ mixed ?_
 by_cases hh:k+1<l.length
 ·have hd:(((k+1:Nat):Int)<(l.length:Int)):=by omega
  have hw:IntKind.i64.wrap (((k+1:Nat):Int)-1)= (k:Int):=by rw [wrap_i64 (by omega)]; omega
  have hd2:((k:Int)<(l.length:Int)):=by omega
  have g1:=yM .u64 l (show k<l.length by omega);have g2:=yM .u64 l hh
  by_cases hlt:l.getD k 0<l.getD (k+1) 0
  ·have hlt2:¬ l.getD (k+1) 0<=l.getD k 0:=by omega
   simp only [ZA,ZB,ZC,ZD,ZE,↓reduceIte,ZF,ZG,ZH,ZI,ZJ,reduceCtorEq,ZK,↓zU,↓zD,zV,zT,zW,hd,xF,hw,hd2,g1,g2,hlt2]
   (repeat refine sd ?_)
   refine⟨k+1,⟨by omega,fun i h1 h2=>?_⟩,?_,by omega⟩
   ·by_cases e:i=k
    ·rw [e]; exact hlt
    ·exact hi i (by omega) h2
   (refine xM.same ?_; simp only [xS,Fr.get,↓reduceIte,reduceIte,Nat.reduceEqDiff,reduceCtorEq,D.int.injEq,D.bool.injEq,D.sl.injEq,and_true,true_and,and_self])
   exact wrap_i64 (by omega)
  ·have hlt2:l.getD (k+1) 0<=l.getD k 0:=by omega
   simp only [ZA,ZB,ZC,ZD,ZE,↓reduceIte,ZF,ZG,ZH,ZI,ZJ,reduceCtorEq,ZK,↓zU,↓zD,zV,zT,zW,hd,xF,hw,hd2,g1,g2,hlt2]
   (repeat refine sd ?_)
   rw [nX hh hlt];exact .same
 ·have hd:¬ (((k+1:Nat):Int)<(l.length:Int)):=by omega
  rw [nY fun i h=>hi i (by omega) h];simp only [ZA,ZB,ZC,ZD,ZE,↓reduceIte,ZF,ZG,ZH,ZI,ZJ,reduceCtorEq,ZK,↓zU,↓zD,zV,zT,zW,hd,xF];exact .same
theorem aAa (l:List Int) (hl:l.length<=2000000):yX Tryz.prog 62 [.sl 1 (rows .i64 l)] (.bool (aNu l)):=by
 refine xX.go_fn mixed Tryz.func62 k62 (by simp) fun hf=>?_;simp only [ZA,ZB,ZC,ZD,ZE,↓reduceIte,ZF,ZG,ZH,ZI,ZJ,reduceCtorEq,ZK,↓zU,↓zD,zV,zT,zW]
 refine xV (fun k:Nat=>[(3,.int .i64 ((k+1:Nat):Int)),(0,.sl 1 (rows .i64 l))]) (fun _=>⟨0,[]⟩) (fun k=>k<=l.length/\∀ i,i<k->i+1<l.length->l.getD i 0<l.getD (i+1) 0) (fun k=>l.length-k) 0 ⟨Nat.zero_le _,fun i hi=>absurd hi (Nat.not_lt_zero _)⟩ ?_ ?_
 ·(refine xM.same ?_; simp [xS,Fr.get])
 intro k ⟨hk,hi⟩;refine xQ mixed ?_
 by_cases hh:k+1<l.length
 ·have hd:(((k+1:Nat):Int)<(l.length:Int)):=by omega
  have hw:IntKind.i64.wrap (((k+1:Nat):Int)-1)= (k:Int):=by rw [wrap_i64 (by omega)]; omega
  have hd2:((k:Int)<(l.length:Int)):=by omega
  have g1:=yM .i64 l (show k<l.length by omega);have g2:=yM .i64 l hh
  by_cases hlt:l.getD k 0<l.getD (k+1) 0
  ·have hlt2:¬ l.getD (k+1) 0<=l.getD k 0:=by omega
   simp only [ZA,ZB,ZC,ZD,ZE,↓reduceIte,ZF,ZG,ZH,ZI,ZJ,reduceCtorEq,ZK,↓zU,↓zD,zV,zT,zW,hd,xF,hw,hd2,g1,g2,hlt2]
   (repeat refine sd ?_)
   refine⟨k+1,⟨by omega,fun i h1 h2=>?_⟩,?_,by omega⟩
   ·by_cases e:i=k
    ·rw [e]; exact hlt
    ·exact hi i (by omega) h2
   (refine xM.same ?_; simp only [xS,Fr.get,↓reduceIte,reduceIte,Nat.reduceEqDiff,reduceCtorEq,D.int.injEq,D.bool.injEq,D.sl.injEq,and_true,true_and,and_self])
   exact wrap_i64 (by omega)
  ·have hlt2:l.getD (k+1) 0<=l.getD k 0:=by omega
   simp only [ZA,ZB,ZC,ZD,ZE,↓reduceIte,ZF,ZG,ZH,ZI,ZJ,reduceCtorEq,ZK,↓zU,↓zD,zV,zT,zW,hd,xF,hw,hd2,g1,g2,hlt2]
   (repeat refine sd ?_)
   rw [nX hh hlt];exact .same
 ·have hd:¬ (((k+1:Nat):Int)<(l.length:Int)):=by omega
  rw [nY fun i h=>hi i (by omega) h];simp only [ZA,ZB,ZC,ZD,ZE,↓reduceIte,ZF,ZG,ZH,ZI,ZJ,reduceCtorEq,ZK,↓zU,↓zD,zV,zT,zW,hd,xF];exact .same
theorem aKs {σ:St} {g:FuncId} {caps:List D} {f:List ClA->Bool} {c:List (List ClA)} (hl:c.length<=2000000) (h:∀ x ∈ c,xX Tryz.prog g ([.sl 2 (clR x)]++caps) σ (.bool (f x)) σ):xX Tryz.prog 114 [.sl 1 (cdR c),.fn g caps] σ (.int .i64 (ixF f c 0)) σ:=by
 refine xX.go_fn mixed Tryz.func114 bYz (by simp) fun hf=>?_;simp only [ZA,ZB,ZC,ZD,ZE,↓reduceIte,ZF,ZG,ZH,ZI,ZJ,reduceCtorEq,ZK,↓zU,↓zD,zV,zT,zW,yO]
 refine xV (fun k:Nat=>[(8,.int .i64 k),(7,.int .i64 c.length),(1,.fn g caps),(0,.sl 1 (cdR c))]) (fun _=>σ) (fun k=>k<=c.length/\ixF f c 0=ixF f (c.drop k) k) (fun k=>c.length-k) 0 ⟨Nat.zero_le _,rfl⟩ ?_ ?_
 ·(refine xM.same ?_; simp [xS,Fr.get])
 intro k ⟨hk,hi⟩;refine xQ mixed ?_
 by_cases hh:k<c.length
 ·have hd:((k:Int)<(c.length:Int)):=by omega
  rw [drop_cons (d:=[]) hh,ixF] at hi;simp only [ZA,ZB,ZC,ZD,ZE,↓reduceIte,ZF,ZG,ZH,ZI,ZJ,reduceCtorEq,ZK,↓zU,↓zD,zV,zT,zW,hd,yO,mJ _ hh]
  (repeat refine sd ?_)
  refine .go (h _ (xN hh)) ?_
  cases hx:f (c.getD k [])
  ·rw [hx,if_neg (by simp)] at hi;simp only [ZA,ZB,ZC,ZD,ZE,↓reduceIte,ZF,ZG,ZH,ZI,ZJ,reduceCtorEq,ZK,↓zU,↓zD,zV,zT,zW];refine⟨k+1,⟨by omega,hi⟩,?_,by omega⟩
   (refine xM.same ?_; simp only [xS,Fr.get,↓reduceIte,reduceIte,Nat.reduceEqDiff,reduceCtorEq,D.int.injEq,D.bool.injEq,D.sl.injEq,and_true,true_and,and_self])
   exact wrap_i64 (by omega)
  ·rw [hx,if_pos rfl] at hi;simp only [ZA,ZB,ZC,ZD,ZE,↓reduceIte,ZF,ZG,ZH,ZI,ZJ,reduceCtorEq,ZK,↓zU,↓zD,zV,zT,zW];rw [hi];exact .same
 ·have hd:¬ ((k:Int)<(c.length:Int)):=by omega
  rw [List.drop_eq_nil_of_le (by omega),ixF] at hi;simp only [ZA,ZB,ZC,ZD,ZE,↓reduceIte,ZF,ZG,ZH,ZI,ZJ,reduceCtorEq,ZK,↓zU,↓zD,zV,zT,zW,hd];rw [hi];exact .same
theorem aSm {σ:St} {g:FuncId} {caps:List D} {f:List ClA->Bool} {c:List (List ClA)} (hl:c.length<=2000000) (h:∀ x ∈ c,xX Tryz.prog g ([.sl 2 (clR x)]++caps) σ (.bool (f x)) σ):xX Tryz.prog 56 [.sl 1 (cdR c),.fn g caps] σ (.bool (c.any f)) σ:=by
 refine xX.go_fn mixed Tryz.func56 k56 (by simp) fun hf=>?_;simp only [ZA,ZB,ZC,ZD,ZE,↓reduceIte,ZF,ZG,ZH,ZI,ZJ,reduceCtorEq,ZK,↓zU,↓zD,zV,zT,zW];refine .go (aKs hl h) ?_;have hx:=mK (f:=f) (c:=c) (i:=0) (Int.le_refl 0)
 cases ha:c.any f
 ·have h1:¬ 0<=ixF f c 0:=fun y=>by rw [hx.1 y] at ha; cases ha
  simp only [ZA,ZB,ZC,ZD,ZE,↓reduceIte,ZF,ZG,ZH,ZI,ZJ,reduceCtorEq,ZK,↓zU,↓zD,zV,zT,zW,h1];exact .same
 ·have h1:=hx.2 ha;simp only [ZA,ZB,ZC,ZD,ZE,↓reduceIte,ZF,ZG,ZH,ZI,ZJ,reduceCtorEq,ZK,↓zU,↓zD,zV,zT,zW,h1];exact .same
theorem aKr {σ:St} {g:FuncId} {caps:List D} {f:List AsA->Bool} {c:List (List AsA)} (hl:c.length<=2000000) (h:∀ x ∈ c,xX Tryz.prog g ([.agg [.sl 2 (asR x)]]++caps) σ (.bool (f x)) σ):xX Tryz.prog 116 [.sl 1 (mvR c),.fn g caps] σ (.int .i64 (ixF f c 0)) σ:=by
 refine xX.go_fn mixed Tryz.func116 bYx (by simp) fun hf=>?_;simp only [ZA,ZB,ZC,ZD,ZE,↓reduceIte,ZF,ZG,ZH,ZI,ZJ,reduceCtorEq,ZK,↓zU,↓zD,zV,zT,zW,xA]
 refine xV (fun k:Nat=>[(8,.int .i64 k),(7,.int .i64 c.length),(1,.fn g caps),(0,.sl 1 (mvR c))]) (fun _=>σ) (fun k=>k<=c.length/\ixF f c 0=ixF f (c.drop k) k) (fun k=>c.length-k) 0 ⟨Nat.zero_le _,rfl⟩ ?_ ?_
 ·(refine xM.same ?_; simp [xS,Fr.get])
 intro k ⟨hk,hi⟩;refine xQ mixed ?_
 by_cases hh:k<c.length
 ·have hd:((k:Int)<(c.length:Int)):=by omega
  rw [drop_cons (d:=[]) hh,ixF] at hi;simp only [ZA,ZB,ZC,ZD,ZE,↓reduceIte,ZF,ZG,ZH,ZI,ZJ,reduceCtorEq,ZK,↓zU,↓zD,zV,zT,zW,hd,xA,mM _ hh]
  (repeat refine sd ?_)
  refine .go (h _ (xN hh)) ?_
  cases hx:f (c.getD k [])
  ·rw [hx,if_neg (by simp)] at hi;simp only [ZA,ZB,ZC,ZD,ZE,↓reduceIte,ZF,ZG,ZH,ZI,ZJ,reduceCtorEq,ZK,↓zU,↓zD,zV,zT,zW];refine⟨k+1,⟨by omega,hi⟩,?_,by omega⟩
   (refine xM.same ?_; simp only [xS,Fr.get,↓reduceIte,reduceIte,Nat.reduceEqDiff,reduceCtorEq,D.int.injEq,D.bool.injEq,D.sl.injEq,and_true,true_and,and_self])
   exact wrap_i64 (by omega)
  ·rw [hx,if_pos rfl] at hi;simp only [ZA,ZB,ZC,ZD,ZE,↓reduceIte,ZF,ZG,ZH,ZI,ZJ,reduceCtorEq,ZK,↓zU,↓zD,zV,zT,zW];rw [hi];exact .same
 ·have hd:¬ ((k:Int)<(c.length:Int)):=by omega
  rw [List.drop_eq_nil_of_le (by omega),ixF] at hi;simp only [ZA,ZB,ZC,ZD,ZE,↓reduceIte,ZF,ZG,ZH,ZI,ZJ,reduceCtorEq,ZK,↓zU,↓zD,zV,zT,zW,hd];rw [hi];exact .same
theorem aSl {σ:St} {g:FuncId} {caps:List D} {f:List AsA->Bool} {c:List (List AsA)} (hl:c.length<=2000000) (h:∀ x ∈ c,xX Tryz.prog g ([.agg [.sl 2 (asR x)]]++caps) σ (.bool (f x)) σ):xX Tryz.prog 60 [.sl 1 (mvR c),.fn g caps] σ (.bool (c.any f)) σ:=by
 refine xX.go_fn mixed Tryz.func60 k60 (by simp) fun hf=>?_;simp only [ZA,ZB,ZC,ZD,ZE,↓reduceIte,ZF,ZG,ZH,ZI,ZJ,reduceCtorEq,ZK,↓zU,↓zD,zV,zT,zW];refine .go (aKr hl h) ?_;have hx:=mK (f:=f) (c:=c) (i:=0) (Int.le_refl 0)
 cases ha:c.any f
 ·have h1:¬ 0<=ixF f c 0:=fun y=>by rw [hx.1 y] at ha; cases ha
  simp only [ZA,ZB,ZC,ZD,ZE,↓reduceIte,ZF,ZG,ZH,ZI,ZJ,reduceCtorEq,ZK,↓zU,↓zD,zV,zT,zW,h1];exact .same
 ·have h1:=hx.2 ha;simp only [ZA,ZB,ZC,ZD,ZE,↓reduceIte,ZF,ZG,ZH,ZI,ZJ,reduceCtorEq,ZK,↓zU,↓zD,zV,zT,zW,h1];exact .same
end Go.Pd
