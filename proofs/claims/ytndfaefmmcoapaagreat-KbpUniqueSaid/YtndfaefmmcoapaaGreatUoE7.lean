/- Part E7. -/
import Derived.Test.YtndfaefmmcoapaaGreatUoP7
import Derived.Test.YtndfaefmmcoapaaGreatUoX9
set_option linter.unusedSectionVars false
set_option linter.unusedVariables false
set_option linter.unusedSimpArgs false
set_option linter.defProp false
set_option maxRecDepth 20000
set_option maxHeartbeats 1000000
namespace Go.Pd
open Go Go.Proofs
open Rs Fm
theorem aMn (f:List Nd) (a b:Int):yT Tryz.prog 119 [.sl 6 (ndR f),.int .i64 a,.int .i64 b] (.bool (rQ f a b)):=by
 have hA:=aZ5 f;have hF:=aR5 f;have hC:=aVl f;have ha:=cI (n:=a) (aZr f) (by decide);have hb:=cI (n:=b) (aZd f) (by decide);have la:=aZr f;have lb:=aZd f;unfold rQ;rw [ha,hb];generalize tA f=ma at hA la;generalize nZ f=mb at hF lb;refine xX.xR mixed Tryz.func119 bV6 (by simp) fun hf=>?_;simp only [simprocAttr,↓zU,↓zD,zV,zT,zW];refine .go (cr hC) ?_;by_cases hz:xA f=0
 case neg=>
  have e:(xA f != 0)= true:=by simpa using hz
  simp only [simprocAttr,↓zU,↓zD,zV,zT,zW,e];exact .drop (by simp) (by simp [vw,hz])
 have e:(xA f != 0)= false:=by simpa using hz
 rw [decide_eq_true hz,Bool.true_and];simp only [simprocAttr,↓zU,↓zD,zV,zT,zW,e]
 refine xW (fun i:Nat=>[(7,.int .i64 i),(2,.int .i64 b),(1,.int .i64 a),(0,.sl 6 (ndR f))]) (fun _=>⟨0,[]⟩) (fun i=>i<=4/\mW ma i a=true) (fun i=>4-i) 0 ⟨Nat.zero_le _,rfl⟩ ?_ ?_
 ·(refine xI.same ?_; simp [xP,Fr.get])
 rintro i ⟨hi,hk⟩;refine xN mixed ?_
 by_cases h4:i<4
 ·have hd:((i:Int)<4):=by omega
  have hsu:mW ma (i+1) a=(mW ma i a&&(!ma.testBit i || decide ((i:Int)<a))):=by unfold mW; rw [List.range_succ,List.all_append,List.all_cons,List.all_nil,Bool.and_true]
  have hbit:(((ma / 2 ^ i:Nat):Int).tmod 2==1)= ma.testBit i:=by rw [aBv,aG3]
  rw [hk,Bool.true_and] at hsu;simp only [simprocAttr,↓zU,↓zD,zV,zT,zW,hd];refine .go (cr hA) ?_
  cases hb2:ma.testBit i with
  | false=>
   rw [hb2] at hbit hsu;simp only [simprocAttr,↓zU,↓zD,zV,zT,zW,jO ma i (by omega),hbit]
   (repeat refine sd ?_)
   refine⟨i+1,⟨by omega,by rw [hsu]; rfl⟩,?_,by omega⟩
   (refine xI.same ?_; simp only [xP,Fr.get,↓reduceIte,reduceIte,Nat.reduceEqDiff,reduceCtorEq,D.int.injEq,D.bool.injEq,D.sl.injEq,and_true,true_and,and_self])
   exact tC (by omega)
  | true=>
   rw [hb2] at hbit hsu
   by_cases hge:a<=(i:Int)
   ·simp only [simprocAttr,↓zU,↓zD,zV,zT,zW,jO ma i (by omega),hbit,hge]
    (repeat refine sd ?_)
    have hf0:mW ma 4 a=false:=by unfold mW;rw [List.all_eq_false];exact⟨i,List.mem_range.2 h4,by rw [hb2,decide_eq_false (by omega)]; simp⟩
    exact .drop (by simp) (by simp [vw,hf0])
   ·simp only [simprocAttr,↓zU,↓zD,zV,zT,zW,jO ma i (by omega),hbit,hge]
    (repeat refine sd ?_)
    refine⟨i+1,⟨by omega,by rw [hsu,decide_eq_true (by omega)]; rfl⟩,?_,by omega⟩
    (refine xI.same ?_; simp only [xP,Fr.get,↓reduceIte,reduceIte,Nat.reduceEqDiff,reduceCtorEq,D.int.injEq,D.bool.injEq,D.sl.injEq,and_true,true_and,and_self])
    exact tC (by omega)
 have hd:¬ ((i:Int)<4):=by omega
 obtain rfl:i=4:=by omega
 rw [hk,Bool.true_and];simp only [simprocAttr,↓zU,↓zD,zV,zT,zW,hd]
 refine xW (fun i:Nat=>[(8,.int .i64 i),(2,.int .i64 b),(0,.sl 6 (ndR f))]) (fun _=>⟨0,[]⟩) (fun i=>i<=8/\mW mb i b=true) (fun i=>8-i) 0 ⟨Nat.zero_le _,rfl⟩ ?_ ?_
 ·(refine xI.same ?_; simp [xP,Fr.get])
 clear hd hi hk;rintro i ⟨hi,hk⟩;refine xN mixed ?_
 by_cases h4:i<8
 ·have hd:((i:Int)<8):=by omega
  have hsu:mW mb (i+1) b=(mW mb i b&&(!mb.testBit i || decide ((i:Int)<b))):=by unfold mW; rw [List.range_succ,List.all_append,List.all_cons,List.all_nil,Bool.and_true]
  have hbit:(((mb / 2 ^ i:Nat):Int).tmod 2==1)= mb.testBit i:=by rw [aBv,aG3]
  rw [hk,Bool.true_and] at hsu;simp only [simprocAttr,↓zU,↓zD,zV,zT,zW,hd];refine .go (cr hF) ?_
  cases hb2:mb.testBit i with
  | false=>
   rw [hb2] at hbit hsu;simp only [simprocAttr,↓zU,↓zD,zV,zT,zW,jO mb i (by omega),hbit]
   (repeat refine sd ?_)
   refine⟨i+1,⟨by omega,by rw [hsu]; rfl⟩,?_,by omega⟩
   (refine xI.same ?_; simp only [xP,Fr.get,↓reduceIte,reduceIte,Nat.reduceEqDiff,reduceCtorEq,D.int.injEq,D.bool.injEq,D.sl.injEq,and_true,true_and,and_self])
   exact tC (by omega)
  | true=>
   rw [hb2] at hbit hsu
   by_cases hge:b<=(i:Int)
   ·simp only [simprocAttr,↓zU,↓zD,zV,zT,zW,jO mb i (by omega),hbit,hge]
    (repeat refine sd ?_)
    have hf0:mW mb 8 b=false:=by unfold mW;rw [List.all_eq_false];exact⟨i,List.mem_range.2 h4,by rw [hb2,decide_eq_false (by omega)]; simp⟩
    exact .drop (by simp) (by simp [vw,hf0])
   ·simp only [simprocAttr,↓zU,↓zD,zV,zT,zW,jO mb i (by omega),hbit,hge]
    (repeat refine sd ?_)
    refine⟨i+1,⟨by omega,by rw [hsu,decide_eq_true (by omega)]; rfl⟩,?_,by omega⟩
    (refine xI.same ?_; simp only [xP,Fr.get,↓reduceIte,reduceIte,Nat.reduceEqDiff,reduceCtorEq,D.int.injEq,D.bool.injEq,D.sl.injEq,and_true,true_and,and_self])
    exact tC (by omega)
 have hd:¬ ((i:Int)<8):=by omega
 obtain rfl:i=8:=by omega
 rw [hk];simp only [simprocAttr,↓zU,↓zD,zV,zT,zW,hd];exact .drop (by simp) (by simp [vw])
namespace Ru
structure wC where
 loc:List (List Int)
 fac:List (BitVec 64)
structure aXk where
 ag:Int
 fa:Int
 ln:Int
 rs:List wC
def wC.row (r:wC):List D:=[.sl 1 (rl r.loc),.sl 1 (us r.fac)]
def nE (l:List wC):List (List D):=l.map wC.row
def aXk.cells (s:aXk):List D:=[.int .i64 s.ag,.int .i64 s.fa,.int .i64 s.ln,.sl 2 (nE s.rs)]
def aXk.d (s:aXk):D:=.agg s.cells
def lJ : wC:=⟨[],[]⟩
theorem sK (l:List wC):(nE l).length=l.length:=by simp [nE]
theorem aTc (l:List wC) {i:Nat} (h:i<l.length):(nE l).getD i []=(l.getD i lJ).row:=by simp [nE,List.getD,h]
theorem aMf (l:List wC):∀ e ∈ nE l,D.xU e=true:=by intro e he;simp only [nE,List.mem_map] at he;obtain⟨r,_,rfl⟩:=he;rfl
def ixF {α:Type} (f:α->Bool):List α->Int->Int
 | [],_=>-1
 | x :: r,i=>if f x=true then i else ixF f r (i+1)
theorem nO {α:Type} {f:α->Bool}:∀ {c:List α} {i:Int},0<=i->(0<=ixF f c i ↔ c.any f=true)
 | [],i,_=>by simp [ixF]
 | x :: r,i,h=>by
  unfold ixF
  by_cases hx:f x=true
  ·rw [if_pos hx,List.any_cons,hx]; simp [h]
  ·rw [if_neg hx,nO (by omega),List.any_cons]; simp [hx]
def bZ2 (s:aXk) (r:wC):Bool:=!decide ((r.loc.length:Int)= s.ln) || !decide ((r.fac.length:Int)= s.ln) || r.loc.any fun l=>!decide ((l.length:Int)= s.ag)
def bZ1 (s:aXk) (r:wC):Bool:=r.fac.any fun f=>!decide (f >>> s.fa.toNat=0#64)
def chk (s:aXk):Int:=
 if s.ag<0\/4<s.ag\/s.fa<0\/8<s.fa\/s.ln<1\/16<s.ln then 2 else
 if 64<(s.rs.length:Int)\/512<(s.rs.length:Int)* s.ln then 8 else
 if s.rs.length=0 then 3 else if s.rs.any (bZ2 s)= true then 3 else if s.rs.any (bZ1 s)= true then 2 else 0
end Ru
open Ru
theorem aDq {σ:St} {g:FuncId} {caps:List D} {f:BitVec 64->Bool} {c:List (BitVec 64)} (hl:c.length<=1000) (h:∀ x ∈ c,xX Tryz.prog g ([.int .u64 (ui x)]++caps) σ (.bool (f x)) σ):xX Tryz.prog 115 [.sl 1 (us c),.fn g caps] σ (.int .i64 (ixF f c 0)) σ:=by
 refine xX.xR mixed Tryz.func115 bUa (by simp) fun hf=>?_;simp only [simprocAttr,↓zU,↓zD,zV,zT,zW,xQ]
 refine xW (fun k:Nat=>[(8,.int .i64 k),(7,.int .i64 c.length),(1,.fn g caps),(0,.sl 1 (us c))]) (fun _=>σ) (fun k=>k<=c.length/\ixF f c 0=ixF f (c.drop k) k) (fun k=>c.length-k) 0 ⟨Nat.zero_le _,rfl⟩ ?_ ?_
 ·(refine xI.same ?_; simp [xP,Fr.get])
 intro k ⟨hk,hi⟩;refine xN mixed ?_
 by_cases hh:k<c.length
 ·have hd:((k:Int)<(c.length:Int)):=by omega
  rw [drop_cons (d:=0) hh,ixF] at hi;simp only [simprocAttr,↓zU,↓zD,zV,zT,zW,hd,xQ,wS _ hh]
  (repeat refine sd ?_)
  refine .go (h _ (xK hh)) ?_
  cases hx:f (c.getD k 0)
  ·rw [hx,if_neg (by simp)] at hi;simp only [simprocAttr,↓zU,↓zD,zV,zT,zW];refine⟨k+1,⟨by omega,hi⟩,?_,by omega⟩
   (refine xI.same ?_; simp only [xP,Fr.get,↓reduceIte,reduceIte,Nat.reduceEqDiff,reduceCtorEq,D.int.injEq,D.bool.injEq,D.sl.injEq,and_true,true_and,and_self])
   exact wrap_i64 (by omega)
  ·rw [hx,if_pos rfl] at hi;simp only [simprocAttr,↓zU,↓zD,zV,zT,zW];rw [hi];exact .same
 ·have hd:¬ ((k:Int)<(c.length:Int)):=by omega
  rw [List.drop_eq_nil_of_le (by omega),ixF] at hi;simp only [simprocAttr,↓zU,↓zD,zV,zT,zW,hd];rw [hi];exact .same
theorem jU {σ:St} {g:FuncId} {caps:List D} {f:BitVec 64->Bool} {c:List (BitVec 64)} (hl:c.length<=1000) (h:∀ x ∈ c,xX Tryz.prog g ([.int .u64 (ui x)]++caps) σ (.bool (f x)) σ):xX Tryz.prog 58 [.sl 1 (us c),.fn g caps] σ (.bool (c.any f)) σ:=by
 refine xX.xR mixed Tryz.func58 k58 (by simp) fun hf=>?_;simp only [simprocAttr,↓zU,↓zD,zV,zT,zW];refine .go (aDq hl h) ?_;have hx:=nO (f:=f) (c:=c) (i:=0) (Int.le_refl 0)
 cases ha:c.any f
 ·have h1:¬ 0<=ixF f c 0:=fun y=>by rw [hx.1 y] at ha; cases ha
  simp only [simprocAttr,↓zU,↓zD,zV,zT,zW,h1];exact .same
 ·have h1:=hx.2 ha;simp only [simprocAttr,↓zU,↓zD,zV,zT,zW,h1];exact .same
open Rs Fm Ru
namespace Kb
structure ClA where
 test:List Nd
 mv:Int
structure AsA where
 fact:Int
 to:List Nd
structure PrA where
 F:Int
 init:List (BitVec 64)
 see:List (BitVec 64)
 xM:List (List AsA)
 code:List (List ClA)
def cl0 : ClA:=⟨[],0⟩
def as0 : AsA:=⟨0,[]⟩
def ClA.row (c:ClA):List D:=[.sl 6 (ndR c.test),.int .i64 c.mv]
def AsA.row (a:AsA):List D:=[.int .i64 a.fact,.sl 6 (ndR a.to)]
def clR (l:List ClA):List (List D):=l.map ClA.row
def asR (l:List AsA):List (List D):=l.map AsA.row
def mvR (l:List (List AsA)):List (List D):=l.map fun s=>[.sl 2 (asR s)]
def cdR (l:List (List ClA)):List (List D):=l.map fun s=>[.sl 2 (clR s)]
def PrA.cells (p:PrA):List D:=[.int .i64 p.F,.sl 1 (us p.init),.sl 1 (us p.see),.sl 1 (mvR p.xM),.sl 1 (cdR p.code)]
def PrA.d (p:PrA):D:=.agg p.cells
theorem wD (l:List ClA):(clR l).length=l.length:=by simp [clR]
theorem wP (l:List AsA):(asR l).length=l.length:=by simp [asR]
theorem yU (l:List (List AsA)):(mvR l).length=l.length:=by simp [mvR]
theorem yD (l:List (List ClA)):(cdR l).length=l.length:=by simp [cdR]
theorem bM (l:List ClA) {i:Nat} (h:i<l.length):(clR l).getD i []=(l.getD i cl0).row:=by simp [clR,List.getD,h]
theorem nM (l:List AsA) {i:Nat} (h:i<l.length):(asR l).getD i []=(l.getD i as0).row:=by simp [asR,List.getD,h]
theorem kM (l:List (List AsA)) {i:Nat} (h:i<l.length):(mvR l).getD i [] = [.sl 2 (asR (l.getD i []))]:=by simp [mvR,List.getD,h]
theorem kH (l:List (List ClA)) {i:Nat} (h:i<l.length):(cdR l).getD i [] = [.sl 2 (clR (l.getD i []))]:=by simp [cdR,List.getD,h]
def wF {α:Type} (f:α->Int):List α->Int
 | []=>0
 | x :: r=>if f x≠0 then f x else wF f r
theorem uS {α:Type} {f:α->Int}:∀ {l:List α},wF f l=0 ↔ ∀ x ∈ l,f x=0
 | []=>by simp [wF]
 | x :: r=>by
  unfold wF
  by_cases h:f x=0
  ·rw [if_neg (by simpa using h),uS]; simp [h]
  ·rw [if_pos h]; simp [h]
def aKi (l:List Int):Bool:=(List.range (l.length-1)).all fun i=>decide (l.getD i 0<l.getD (i+1) 0)
def fmE (p:PrA) (f:List Nd) (frags:Int):Int:= if xA f≠0 then xA f else if (qI .andNot .i64 (zG f) frags != 0)= true then 10 else if rQ f p.see.length p.F=true then 0 else 2
def asE (p:PrA) (a:AsA):Int:=if a.fact<0\/p.F<=a.fact then 2 else fmE p a.to 0
def clE (p:PrA) (c:ClA):Int:=if fmE p c.test 15≠0 then fmE p c.test 15 else if c.mv < -1\/(p.xM.length:Int)<=c.mv then 2 else 0
def nB (p:PrA) (s:BitVec 64):Bool:=!decide (s >>> p.F.toNat=0#64)
def aKh (l:List (BitVec 64)):Bool:=aKi (l.map ui)
def aWj (s:List AsA):Bool:=aKi (s.map (·.fact))
def zZ (p:PrA):Int:=
 if p.F<0\/8<p.F then 2 else
 if 4<p.see.length\/16<p.init.length\/8<p.xM.length\/p.code.any (fun l=>decide (6<l.length))= true then 8 else
 if p.see.length=0\/p.init.length=0\/p.code.length≠p.see.length\/p.init.any (nB p)= true\/p.see.any (nB p)= true then 3 else
 if aKh p.init=false\/p.xM.any (fun s=>!aWj s)= true then 9 else 0
def tJ (p:PrA):Int:= if zZ p≠0 then zZ p else if wF (wF (asE p)) p.xM≠0 then wF (wF (asE p)) p.xM else wF (wF (clE p)) p.code
structure qO (p : PrA) : Prop where
 init:p.init.length<=2000000
 code:p.code.length<=2000000
 mv:∀ s ∈ p.xM,s.length<=4400000000000
end Kb
open Kb
theorem mC {l:List Int} (h:∀ i,i+1<l.length->l.getD i 0<l.getD (i+1) 0):aKi l=true:=by unfold aKi;rw [List.all_eq_true];intro i hi;have:=List.mem_range.1 hi;exact decide_eq_true (h i (by omega))
theorem mD {l:List Int} {i:Nat} (hi:i+1<l.length) (h:¬ l.getD i 0<l.getD (i+1) 0):aKi l=false:=by unfold aKi;rw [List.all_eq_false];exact⟨i,List.mem_range.2 (by omega),by simpa using h⟩
theorem aH6 {l:List Int}:aKi l=true ↔ ∀ i,i+1<l.length->l.getD i 0<l.getD (i+1) 0:=by refine⟨fun h i hi=>Decidable.byContradiction fun hh=>?_,mC⟩;rw [mD hi hh] at h; cases h
theorem bZi (l:List Int) (hl:l.length<=2000000):yT Tryz.prog 59 [.sl 1 (rows .u64 l)] (.bool (aKi l)):=by
 refine xX.xR mixed Tryz.func59 k59 (by simp) fun hf=>?_;simp only [simprocAttr,↓zU,↓zD,zV,zT,zW]
 refine xW (fun k:Nat=>[(3,.int .i64 ((k+1:Nat):Int)),(0,.sl 1 (rows .u64 l))]) (fun _=>⟨0,[]⟩) (fun k=>k<=l.length/\∀ i,i<k->i+1<l.length->l.getD i 0<l.getD (i+1) 0) (fun k=>l.length-k) 0 ⟨Nat.zero_le _,fun i hi=>absurd hi (Nat.not_lt_zero _)⟩ ?_ ?_
 ·(refine xI.same ?_; simp [xP,Fr.get])
 intro k ⟨hk,hi⟩;refine xN mixed ?_
 by_cases hh:k+1<l.length
 ·have hd:(((k+1:Nat):Int)<(l.length:Int)):=by omega
  have hw:IntKind.i64.wrap (((k+1:Nat):Int)-1)= (k:Int):=by rw [wrap_i64 (by omega)]; omega
  have hd2:((k:Int)<(l.length:Int)):=by omega
  have g1:=yF .u64 l (show k<l.length by omega);have g2:=yF .u64 l hh
  by_cases hlt:l.getD k 0<l.getD (k+1) 0
  ·have hlt2:¬ l.getD (k+1) 0<=l.getD k 0:=by omega
   simp only [simprocAttr,↓zU,↓zD,zV,zT,zW,hd,xE,hw,hd2,g1,g2,hlt2]
   (repeat refine sd ?_)
   refine⟨k+1,⟨by omega,fun i h1 h2=>?_⟩,?_,by omega⟩
   ·by_cases e:i=k
    ·rw [e]; exact hlt
    ·exact hi i (by omega) h2
   (refine xI.same ?_; simp only [xP,Fr.get,↓reduceIte,reduceIte,Nat.reduceEqDiff,reduceCtorEq,D.int.injEq,D.bool.injEq,D.sl.injEq,and_true,true_and,and_self])
   exact wrap_i64 (by omega)
  ·have hlt2:l.getD (k+1) 0<=l.getD k 0:=by omega
   simp only [simprocAttr,↓zU,↓zD,zV,zT,zW,hd,xE,hw,hd2,g1,g2,hlt2]
   (repeat refine sd ?_)
   rw [mD hh hlt];exact .same
 ·have hd:¬ (((k+1:Nat):Int)<(l.length:Int)):=by omega
  rw [mC fun i h=>hi i (by omega) h];simp only [simprocAttr,↓zU,↓zD,zV,zT,zW,hd,xE];exact .same
theorem bZg (l:List Int) (hl:l.length<=4400000000000):yT Tryz.prog 62 [.sl 1 (rows .i64 l)] (.bool (aKi l)):=by
 refine xX.xR mixed Tryz.func62 k62 (by simp) fun hf=>?_;simp only [simprocAttr,↓zU,↓zD,zV,zT,zW]
 refine xW (fun k:Nat=>[(3,.int .i64 ((k+1:Nat):Int)),(0,.sl 1 (rows .i64 l))]) (fun _=>⟨0,[]⟩) (fun k=>k<=l.length/\∀ i,i<k->i+1<l.length->l.getD i 0<l.getD (i+1) 0) (fun k=>l.length-k) 0 ⟨Nat.zero_le _,fun i hi=>absurd hi (Nat.not_lt_zero _)⟩ ?_ ?_
 ·(refine xI.same ?_; simp [xP,Fr.get])
 intro k ⟨hk,hi⟩;refine xN mixed ?_
 by_cases hh:k+1<l.length
 ·have hd:(((k+1:Nat):Int)<(l.length:Int)):=by omega
  have hw:IntKind.i64.wrap (((k+1:Nat):Int)-1)= (k:Int):=by rw [wrap_i64 (by omega)]; omega
  have hd2:((k:Int)<(l.length:Int)):=by omega
  have g1:=yF .i64 l (show k<l.length by omega);have g2:=yF .i64 l hh
  by_cases hlt:l.getD k 0<l.getD (k+1) 0
  ·have hlt2:¬ l.getD (k+1) 0<=l.getD k 0:=by omega
   simp only [simprocAttr,↓zU,↓zD,zV,zT,zW,hd,xE,hw,hd2,g1,g2,hlt2]
   (repeat refine sd ?_)
   refine⟨k+1,⟨by omega,fun i h1 h2=>?_⟩,?_,by omega⟩
   ·by_cases e:i=k
    ·rw [e]; exact hlt
    ·exact hi i (by omega) h2
   (refine xI.same ?_; simp only [xP,Fr.get,↓reduceIte,reduceIte,Nat.reduceEqDiff,reduceCtorEq,D.int.injEq,D.bool.injEq,D.sl.injEq,and_true,true_and,and_self])
   exact wrap_i64 (by omega)
  ·have hlt2:l.getD (k+1) 0<=l.getD k 0:=by omega
   simp only [simprocAttr,↓zU,↓zD,zV,zT,zW,hd,xE,hw,hd2,g1,g2,hlt2]
   (repeat refine sd ?_)
   rw [mD hh hlt];exact .same
 ·have hd:¬ (((k+1:Nat):Int)<(l.length:Int)):=by omega
  rw [mC fun i h=>hi i (by omega) h];simp only [simprocAttr,↓zU,↓zD,zV,zT,zW,hd,xE];exact .same
theorem aHh {σ:St} {g:FuncId} {caps:List D} {f:List ClA->Bool} {c:List (List ClA)} (hl:c.length<=2000000) (h:∀ x ∈ c,xX Tryz.prog g ([.sl 2 (clR x)]++caps) σ (.bool (f x)) σ):xX Tryz.prog 114 [.sl 1 (cdR c),.fn g caps] σ (.int .i64 (ixF f c 0)) σ:=by
 refine xX.xR mixed Tryz.func114 bUb (by simp) fun hf=>?_;simp only [simprocAttr,↓zU,↓zD,zV,zT,zW,yD]
 refine xW (fun k:Nat=>[(8,.int .i64 k),(7,.int .i64 c.length),(1,.fn g caps),(0,.sl 1 (cdR c))]) (fun _=>σ) (fun k=>k<=c.length/\ixF f c 0=ixF f (c.drop k) k) (fun k=>c.length-k) 0 ⟨Nat.zero_le _,rfl⟩ ?_ ?_
 ·(refine xI.same ?_; simp [xP,Fr.get])
 intro k ⟨hk,hi⟩;refine xN mixed ?_
 by_cases hh:k<c.length
 ·have hd:((k:Int)<(c.length:Int)):=by omega
  rw [drop_cons (d:=[]) hh,ixF] at hi;simp only [simprocAttr,↓zU,↓zD,zV,zT,zW,hd,yD,kH _ hh]
  (repeat refine sd ?_)
  refine .go (h _ (xK hh)) ?_
  cases hx:f (c.getD k [])
  ·rw [hx,if_neg (by simp)] at hi;simp only [simprocAttr,↓zU,↓zD,zV,zT,zW];refine⟨k+1,⟨by omega,hi⟩,?_,by omega⟩
   (refine xI.same ?_; simp only [xP,Fr.get,↓reduceIte,reduceIte,Nat.reduceEqDiff,reduceCtorEq,D.int.injEq,D.bool.injEq,D.sl.injEq,and_true,true_and,and_self])
   exact wrap_i64 (by omega)
  ·rw [hx,if_pos rfl] at hi;simp only [simprocAttr,↓zU,↓zD,zV,zT,zW];rw [hi];exact .same
 ·have hd:¬ ((k:Int)<(c.length:Int)):=by omega
  rw [List.drop_eq_nil_of_le (by omega),ixF] at hi;simp only [simprocAttr,↓zU,↓zD,zV,zT,zW,hd];rw [hi];exact .same
theorem aQ3 {σ:St} {g:FuncId} {caps:List D} {f:List ClA->Bool} {c:List (List ClA)} (hl:c.length<=2000000) (h:∀ x ∈ c,xX Tryz.prog g ([.sl 2 (clR x)]++caps) σ (.bool (f x)) σ):xX Tryz.prog 56 [.sl 1 (cdR c),.fn g caps] σ (.bool (c.any f)) σ:=by
 refine xX.xR mixed Tryz.func56 k56 (by simp) fun hf=>?_;simp only [simprocAttr,↓zU,↓zD,zV,zT,zW];refine .go (aHh hl h) ?_;have hx:=nO (f:=f) (c:=c) (i:=0) (Int.le_refl 0)
 cases ha:c.any f
 ·have h1:¬ 0<=ixF f c 0:=fun y=>by rw [hx.1 y] at ha; cases ha
  simp only [simprocAttr,↓zU,↓zD,zV,zT,zW,h1];exact .same
 ·have h1:=hx.2 ha;simp only [simprocAttr,↓zU,↓zD,zV,zT,zW,h1];exact .same
theorem aHg {σ:St} {g:FuncId} {caps:List D} {f:List AsA->Bool} {c:List (List AsA)} (hl:c.length<=2000000) (h:∀ x ∈ c,xX Tryz.prog g ([.agg [.sl 2 (asR x)]]++caps) σ (.bool (f x)) σ):xX Tryz.prog 116 [.sl 1 (mvR c),.fn g caps] σ (.int .i64 (ixF f c 0)) σ:=by
 refine xX.xR mixed Tryz.func116 bV9 (by simp) fun hf=>?_;simp only [simprocAttr,↓zU,↓zD,zV,zT,zW,yU]
 refine xW (fun k:Nat=>[(8,.int .i64 k),(7,.int .i64 c.length),(1,.fn g caps),(0,.sl 1 (mvR c))]) (fun _=>σ) (fun k=>k<=c.length/\ixF f c 0=ixF f (c.drop k) k) (fun k=>c.length-k) 0 ⟨Nat.zero_le _,rfl⟩ ?_ ?_
 ·(refine xI.same ?_; simp [xP,Fr.get])
 intro k ⟨hk,hi⟩;refine xN mixed ?_
 by_cases hh:k<c.length
 ·have hd:((k:Int)<(c.length:Int)):=by omega
  rw [drop_cons (d:=[]) hh,ixF] at hi;simp only [simprocAttr,↓zU,↓zD,zV,zT,zW,hd,yU,kM _ hh]
  (repeat refine sd ?_)
  refine .go (h _ (xK hh)) ?_
  cases hx:f (c.getD k [])
  ·rw [hx,if_neg (by simp)] at hi;simp only [simprocAttr,↓zU,↓zD,zV,zT,zW];refine⟨k+1,⟨by omega,hi⟩,?_,by omega⟩
   (refine xI.same ?_; simp only [xP,Fr.get,↓reduceIte,reduceIte,Nat.reduceEqDiff,reduceCtorEq,D.int.injEq,D.bool.injEq,D.sl.injEq,and_true,true_and,and_self])
   exact wrap_i64 (by omega)
  ·rw [hx,if_pos rfl] at hi;simp only [simprocAttr,↓zU,↓zD,zV,zT,zW];rw [hi];exact .same
 ·have hd:¬ ((k:Int)<(c.length:Int)):=by omega
  rw [List.drop_eq_nil_of_le (by omega),ixF] at hi;simp only [simprocAttr,↓zU,↓zD,zV,zT,zW,hd];rw [hi];exact .same
theorem aQ2 {σ:St} {g:FuncId} {caps:List D} {f:List AsA->Bool} {c:List (List AsA)} (hl:c.length<=2000000) (h:∀ x ∈ c,xX Tryz.prog g ([.agg [.sl 2 (asR x)]]++caps) σ (.bool (f x)) σ):xX Tryz.prog 60 [.sl 1 (mvR c),.fn g caps] σ (.bool (c.any f)) σ:=by
 refine xX.xR mixed Tryz.func60 k60 (by simp) fun hf=>?_;simp only [simprocAttr,↓zU,↓zD,zV,zT,zW];refine .go (aHg hl h) ?_;have hx:=nO (f:=f) (c:=c) (i:=0) (Int.le_refl 0)
 cases ha:c.any f
 ·have h1:¬ 0<=ixF f c 0:=fun y=>by rw [hx.1 y] at ha; cases ha
  simp only [simprocAttr,↓zU,↓zD,zV,zT,zW,h1];exact .same
 ·have h1:=hx.2 ha;simp only [simprocAttr,↓zU,↓zD,zV,zT,zW,h1];exact .same
end Go.Pd
