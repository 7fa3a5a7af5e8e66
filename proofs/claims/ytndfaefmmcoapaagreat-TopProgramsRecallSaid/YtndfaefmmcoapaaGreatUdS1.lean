/- Part S1. -/
import Derived.Test.YtndfaefmmcoapaaGreatUdX9
import Derived.Test.YtndfaefmmcoapaaGreatUdP8
set_option linter.unusedSectionVars false
set_option linter.unusedVariables false
set_option linter.unusedSimpArgs false
set_option linter.defProp false
set_option maxRecDepth 20000
set_option maxHeartbeats 1000000
namespace Go.Pd
open Go Go.Proofs
open BitVec renaming isValue -> ZA
namespace Ru
structure xD where
 loc:List (List Int)
 fac:List (BitVec 64)
structure tZ where
 ag:Int
 fa:Int
 ln:Int
 rs:List xD
def xD.row (r:xD):List D:=[.sl 1 (rl r.loc),.sl 1 (us r.fac)]
def vF (l:List xD):List (List D):=l.map xD.row
def tZ.cells (s:tZ):List D:=[.int .i64 s.ag,.int .i64 s.fa,.int .i64 s.ln,.sl 2 (vF s.rs)]
def tZ.d (s:tZ):D:=.agg s.cells
def qT : xD:=⟨[],[]⟩
theorem zQ (l:List xD):(vF l).length=l.length:=by simp [vF]
theorem rW (l:List xD) {i:Nat} (h:i<l.length):(vF l).getD i []=(l.getD i qT).row:=by simp [vF,List.getD,h]
theorem aKl (l:List xD):∀ e ∈ vF l,D.xU e=true:=by intro e he;simp only [vF,List.mem_map] at he;obtain⟨r,_,rfl⟩:=he;rfl
def ixF {α:Type} (f:α->Bool):List α->Int->Int
 | [],_=>-1
 | x :: r,i=>if f x=true then i else ixF f r (i+1)
theorem jP {α:Type} {f:α->Bool}:∀ {c:List α} {i:Int},0<=i->(0<=ixF f c i ↔ c.any f=true)
 | [],i,_=>by simp [ixF]
 | x :: r,i,h=>by
  unfold ixF
  by_cases hx:f x=true
  ·rw [if_pos hx,List.any_cons,hx]; simp [h]
  ·rw [if_neg hx,jP (by omega),List.any_cons]; simp [hx]
def aVw (s:tZ) (r:xD):Bool:=!decide ((r.loc.length:Int)= s.ln) || !decide ((r.fac.length:Int)= s.ln) || r.loc.any fun l=>!decide ((l.length:Int)= s.ag)
def aI7 (s:tZ) (r:xD):Bool:=r.fac.any fun f=>!decide (f >>> s.fa.toNat=0#64)
def chk (s:tZ):Int:=
 if s.ag<0\/4<s.ag\/s.fa<0\/8<s.fa\/s.ln<1\/16<s.ln then 2 else
 if 64<(s.rs.length:Int)\/512<(s.rs.length:Int)* s.ln then 8 else
 if s.rs.length=0 then 3 else if s.rs.any (aVw s)= true then 3 else if s.rs.any (aI7 s)= true then 2 else 0
end Ru
open Ru
theorem aAx {σ:St} {g:FuncId} {caps:List D} {f:BitVec 64->Bool} {c:List (BitVec 64)} (hl:c.length<=1000) (h:∀ x ∈ c,xY Tryz.prog g ([.int .u64 (ui x)]++caps) σ (.bool (f x)) σ):xY Tryz.prog 115 [.sl 1 (us c),.fn g caps] σ (.int .i64 (ixF f c 0)) σ:=by
 refine xY.xR mixed Tryz.func115 bRx (by simp) fun hf=>?_;simp only [simprocAttr,-ZA,↓zU,↓zD,zV,zT,zW,xK]
 refine xQ (fun k:Nat=>[(8,.int .i64 k),(7,.int .i64 c.length),(1,.fn g caps),(0,.sl 1 (us c))]) (fun _=>σ) (fun k=>k<=c.length/\ixF f c 0=ixF f (c.drop k) k) (fun k=>c.length-k) 0 ⟨Nat.zero_le _,rfl⟩ ?_ ?_
 ·(refine xM.same ?_; simp [xP,Fr.get])
 intro k ⟨hk,hi⟩;refine xN mixed ?_
 by_cases hh:k<c.length
 ·have hd:((k:Int)<(c.length:Int)):=by omega
  rw [drop_cons (d:=0) hh,ixF] at hi;simp only [simprocAttr,-ZA,↓zU,↓zD,zV,zT,zW,hd,xK,uW _ hh]
  (repeat refine sd ?_)
  refine .go (h _ (xS hh)) ?_
  cases hx:f (c.getD k 0)
  ·rw [hx,if_neg (by simp)] at hi;simp only [simprocAttr,-ZA,↓zU,↓zD,zV,zT,zW];refine⟨k+1,⟨by omega,hi⟩,?_,by omega⟩
   (refine xM.same ?_; simp only [xP,Fr.get,simprocAttr,-ZA,zS])
   exact wrap_i64 (by omega)
  ·rw [hx,if_pos rfl] at hi;simp only [simprocAttr,-ZA,↓zU,↓zD,zV,zT,zW];rw [hi];exact .same
 ·have hd:¬ ((k:Int)<(c.length:Int)):=by omega
  rw [List.drop_eq_nil_of_le (by omega),ixF] at hi;simp only [simprocAttr,-ZA,↓zU,↓zD,zV,zT,zW,hd];rw [hi];exact .same
theorem jA {σ:St} {g:FuncId} {caps:List D} {f:BitVec 64->Bool} {c:List (BitVec 64)} (hl:c.length<=1000) (h:∀ x ∈ c,xY Tryz.prog g ([.int .u64 (ui x)]++caps) σ (.bool (f x)) σ):xY Tryz.prog 58 [.sl 1 (us c),.fn g caps] σ (.bool (c.any f)) σ:=by
 refine xY.xR mixed Tryz.func58 k58 (by simp) fun hf=>?_;simp only [simprocAttr,-ZA,↓zU,↓zD,zV,zT,zW];refine .go (aAx hl h) ?_;have hx:=jP (f:=f) (c:=c) (i:=0) (Int.le_refl 0)
 cases ha:c.any f
 ·have h1:¬ 0<=ixF f c 0:=fun y=>by rw [hx.1 y] at ha; cases ha
  simp only [simprocAttr,-ZA,↓zU,↓zD,zV,zT,zW,h1];exact .same
 ·have h1:=hx.2 ha;simp only [simprocAttr,-ZA,↓zU,↓zD,zV,zT,zW,h1];exact .same
theorem aAy {σ:St} {g:FuncId} {caps:List D} {f:List Int->Bool} {l:List (List Int)} (hl:l.length<=1000) (h:∀ x ∈ l,xY Tryz.prog g ([.sl 1 (rows .i64 x)]++caps) σ (.bool (f x)) σ):xY Tryz.prog 145 [.sl 1 (rl l),.fn g caps] σ (.int .i64 (ixF f l 0)) σ:=by
 refine xY.xR mixed Tryz.func145 bRg (by simp) fun hf=>?_;simp only [simprocAttr,-ZA,↓zU,↓zD,zV,zT,zW,tH]
 refine xQ (fun k:Nat=>[(8,.int .i64 k),(7,.int .i64 l.length),(1,.fn g caps),(0,.sl 1 (rl l))]) (fun _=>σ) (fun k=>k<=l.length/\ixF f l 0=ixF f (l.drop k) k) (fun k=>l.length-k) 0 ⟨Nat.zero_le _,rfl⟩ ?_ ?_
 ·(refine xM.same ?_; simp [xP,Fr.get])
 intro k ⟨hk,hi⟩;refine xN mixed ?_
 by_cases hh:k<l.length
 ·have hd:((k:Int)<(l.length:Int)):=by omega
  rw [drop_cons (d:=[]) hh,ixF] at hi;simp only [simprocAttr,-ZA,↓zU,↓zD,zV,zT,zW,hd,tH,gC _ hh]
  (repeat refine sd ?_)
  refine .go (h _ (xS hh)) ?_
  cases hx:f (l.getD k [])
  ·rw [hx,if_neg (by simp)] at hi;simp only [simprocAttr,-ZA,↓zU,↓zD,zV,zT,zW];refine⟨k+1,⟨by omega,hi⟩,?_,by omega⟩
   (refine xM.same ?_; simp only [xP,Fr.get,simprocAttr,-ZA,zS])
   exact wrap_i64 (by omega)
  ·rw [hx,if_pos rfl] at hi;simp only [simprocAttr,-ZA,↓zU,↓zD,zV,zT,zW];rw [hi];exact .same
 ·have hd:¬ ((k:Int)<(l.length:Int)):=by omega
  rw [List.drop_eq_nil_of_le (by omega),ixF] at hi;simp only [simprocAttr,-ZA,↓zU,↓zD,zV,zT,zW,hd];rw [hi];exact .same
theorem aOm {σ:St} {g:FuncId} {caps:List D} {f:List Int->Bool} {l:List (List Int)} (hl:l.length<=1000) (h:∀ x ∈ l,xY Tryz.prog g ([.sl 1 (rows .i64 x)]++caps) σ (.bool (f x)) σ):xY Tryz.prog 97 [.sl 1 (rl l),.fn g caps] σ (.bool (l.any f)) σ:=by
 refine xY.xR mixed Tryz.func97 k97 (by simp) fun hf=>?_;simp only [simprocAttr,-ZA,↓zU,↓zD,zV,zT,zW];refine .go (aAy hl h) ?_;have hx:=jP (f:=f) (c:=l) (i:=0) (Int.le_refl 0)
 cases ha:l.any f
 ·have h1:¬ 0<=ixF f l 0:=fun y=>by rw [hx.1 y] at ha; cases ha
  simp only [simprocAttr,-ZA,↓zU,↓zD,zV,zT,zW,h1];exact .same
 ·have h1:=hx.2 ha;simp only [simprocAttr,-ZA,↓zU,↓zD,zV,zT,zW,h1];exact .same
theorem bWz {nx:Nat} {xZ:List (Nat × Ob)} {s:tZ} (h0:St.look xZ 0=some ⟨4,[s.cells]⟩) (x:List Int):xY Tryz.prog 98 ([.sl 1 (rows .i64 x)] ++ [.ref 0 4 0 0]) ⟨nx,xZ⟩ (.bool (!decide ((x.length:Int)= s.ag))) ⟨nx,xZ⟩:=by
 refine xY.xR mixed Tryz.func98 k98 (by simp) fun hf=>?_;unfold tZ.cells at h0;simp only [simprocAttr,-ZA,↓zU,↓zD,zV,zT,zW,h0]
 (repeat refine sd ?_)
 rw [show ((x.length:Int) != s.ag)= !decide ((x.length:Int)= s.ag) by rw [bne]; congr 1];exact .same
theorem bUe {nx:Nat} {xZ:List (Nat × Ob)} {s:tZ} (h0:St.look xZ 0=some ⟨4,[s.cells]⟩) (hf:0<=s.fa) (x:BitVec 64):xY Tryz.prog 99 ([.int .u64 (ui x)] ++ [.ref 0 4 0 0]) ⟨nx,xZ⟩ (.bool (!decide (x >>> s.fa.toNat=0#64))) ⟨nx,xZ⟩:=by
 refine xY.xR mixed Tryz.func99 k99 (by simp) fun hf=>?_;unfold tZ.cells at h0;simp only [simprocAttr,-ZA,↓zU,↓zD,zV,zT,zW,h0]
 (repeat refine sd ?_)
 rw [show (x >>> s.fa.toNat != 0#64)= !decide (x >>> s.fa.toNat=0#64) by rw [bne]; congr 1];exact .same
theorem aXq (s:tZ):yB Tryz.prog 43 [s.d] (.int .i64 (chk s)):=by
 have hD:s.d = .agg [.int .i64 s.ag,.int .i64 s.fa,.int .i64 s.ln,.sl 2 (vF s.rs)]:=rfl;rw [hD];refine xY.xR mixed Tryz.func43 k43 (by simp) fun hf=>?_
 by_cases a1:s.ag<0
 ·rw [show chk s=2 by unfold chk; rw [if_pos (.inl a1)]];simp only [simprocAttr,-ZA,↓zU,↓zD,zV,zT,zW,a1];exact .dv
 by_cases a2:4<s.ag
 ·rw [show chk s=2 by unfold chk; rw [if_pos (by omega)]];simp only [simprocAttr,-ZA,↓zU,↓zD,zV,zT,zW,a1,a2];exact .dv
 by_cases a3:s.fa<0
 ·rw [show chk s=2 by unfold chk; rw [if_pos (by omega)]];simp only [simprocAttr,-ZA,↓zU,↓zD,zV,zT,zW,a1,a2,a3];exact .dv
 by_cases a4:8<s.fa
 ·rw [show chk s=2 by unfold chk; rw [if_pos (by omega)]];simp only [simprocAttr,-ZA,↓zU,↓zD,zV,zT,zW,a1,a2,a3,a4];exact .dv
 by_cases a5:s.ln<1
 ·rw [show chk s=2 by unfold chk; rw [if_pos (by omega)]];simp only [simprocAttr,-ZA,↓zU,↓zD,zV,zT,zW,a1,a2,a3,a4,a5];exact .dv
 by_cases a6:16<s.ln
 ·rw [show chk s=2 by unfold chk; rw [if_pos (by omega)]];simp only [simprocAttr,-ZA,↓zU,↓zD,zV,zT,zW,a1,a2,a3,a4,a5,a6];exact .dv
 have e0:chk s=if 64<(s.rs.length:Int)\/512<(s.rs.length:Int)* s.ln then 8 else
  if s.rs.length=0 then 3 else if s.rs.any (aVw s)= true then 3 else if s.rs.any (aI7 s)= true then 2 else 0:=by
  unfold chk; rw [if_neg (by omega)]
 by_cases b1:64<(s.rs.length:Int)
 ·rw [e0,if_pos (.inl b1)];simp only [simprocAttr,-ZA,↓zU,↓zD,zV,zT,zW,a1,a2,a3,a4,a5,a6,zQ,b1];exact .dv
 have hm:(s.rs.length:Int)* s.ln<=64*16:=Int.mul_le_mul (by omega) (by omega) (by omega) (by omega);have hm0:0<=(s.rs.length:Int)* s.ln:=Int.mul_nonneg (by omega) (by omega);have hw:IntKind.i64.wrap ((s.rs.length:Int)* s.ln)= (s.rs.length:Int)* s.ln:=wrap_i64 (by omega)
 by_cases b2:512<(s.rs.length:Int)* s.ln
 ·rw [e0,if_pos (.inr b2)];simp only [simprocAttr,-ZA,↓zU,↓zD,zV,zT,zW,a1,a2,a3,a4,a5,a6,zQ,b1,hw,b2];exact .dv
 rw [e0,if_neg (by omega)]
 by_cases b3:s.rs.length=0
 ·rw [if_pos b3];have b3':((s.rs.length:Int)== 0)= true:=by rw [b3]; rfl
  simp only [simprocAttr,-ZA,↓zU,↓zD,zV,zT,zW,a1,a2,a3,a4,a5,a6,zQ,b1,hw,b2,b3'];exact .dv
 rw [if_neg b3];have b3':((s.rs.length:Int)== 0)= false:=by rw [beq_eq_false_iff_ne]; omega
 simp only [simprocAttr,-ZA,↓zU,↓zD,zV,zT,zW,a1,a2,a3,a4,a5,a6,zQ,b1,hw,b2,b3']
 refine xQ (fun k:Nat=>[(55,.int .i64 k),(54,.int .i64 s.rs.length),(53,.sl 2 (vF s.rs)),(1,.ref 0 4 0 0)]) (fun _=>⟨1,[(0,⟨4,[[.int .i64 s.ag,.int .i64 s.fa,.int .i64 s.ln,.sl 2 (vF s.rs)]]⟩)]⟩)
  (fun k=>k<=s.rs.length/\s.rs.any (aVw s)= (s.rs.drop k).any (aVw s)) (fun k=>s.rs.length-k) 0 ⟨Nat.zero_le _,rfl⟩ ?_ ?_
 ·(refine xM.same ?_; simp [xP,Fr.get])
 intro k ⟨hk,hi⟩;refine xN mixed ?_;by_cases hkl:k<s.rs.length
 case neg=>
  have hd:¬ ((k:Int)<(s.rs.length:Int)):=by omega
  rw [List.drop_eq_nil_of_le (by omega),List.any_nil] at hi;rw [if_neg (by rw [hi]; simp)];simp only [simprocAttr,-ZA,↓zU,↓zD,zV,zT,zW,hd,zQ]
  refine xQ (fun k:Nat=>[(83,.int .i64 k),(82,.int .i64 s.rs.length),(81,.sl 2 (vF s.rs)),(1,.ref 0 4 0 0)]) (fun _=>⟨1,[(0,⟨4,[[.int .i64 s.ag,.int .i64 s.fa,.int .i64 s.ln,.sl 2 (vF s.rs)]]⟩)]⟩)
   (fun k=>k<=s.rs.length/\s.rs.any (aI7 s)= (s.rs.drop k).any (aI7 s)) (fun k=>s.rs.length-k) 0 ⟨Nat.zero_le _,rfl⟩ ?_ ?_
  ·(refine xM.same ?_; simp [xP,Fr.get])
  intro k ⟨hk,hv⟩;refine xN mixed ?_;by_cases hkl:k<s.rs.length
  case neg=>
   have hd:¬ ((k:Int)<(s.rs.length:Int)):=by omega
   rw [List.drop_eq_nil_of_le (by omega),List.any_nil] at hv;rw [if_neg (by rw [hv]; simp)];simp only [simprocAttr,-ZA,↓zU,↓zD,zV,zT,zW,hd];exact .dv
  have hd:((k:Int)<(s.rs.length:Int)):=by omega
  rw [drop_cons (d:=qT) hkl,List.any_cons] at hv
  have hnb:aVw s (s.rs.getD k qT)= false:=by have:=List.any_eq_false.1 hi _ (xS (d:=qT) hkl);simpa using this
  have hg:=rW s.rs hkl;generalize s.rs.getD k qT=r at hg hv hnb
  have hfl:r.fac.length<=1000:=by simp only [aVw,Bool.or_eq_false_iff,Bool.not_eq_false',decide_eq_true_eq] at hnb;omega
  have hc:=jA (σ:=⟨2,[(1,⟨2,[r.row]⟩),(0,⟨4,[s.cells]⟩)]⟩) (g:=99) (caps:=[.ref 0 4 0 0]) (c:=r.fac) (f:=fun f=>!decide (f >>> s.fa.toNat=0#64)) hfl fun x _=>bUe rfl (by omega) x;simp only [tZ.cells,xD.row] at hc;simp only [simprocAttr,-ZA,↓zU,↓zD,zV,zT,zW,hd,zQ,hg,xD.row]
  (repeat refine sd ?_)
  refine .go hc ?_
  cases hb:r.fac.any fun f=>!decide (f >>> s.fa.toNat=0#64)
  ·simp only [simprocAttr,-ZA,↓zU,↓zD,zV,zT,zW]
   refine⟨k+1,⟨by omega,?_⟩,?_,by omega⟩
   ·rw [hv,show aI7 s r=false from hb,Bool.false_or]
   (refine xM.ren [] [0] (by simp) (by simp) (by decide) ?_; simp only [yK,vwL,vw,vwF,sw,St.get,St.look,Fr.get,simprocAttr,-ZA,exists_eq_left',ne_eq,zR])
   exact wrap_i64 (by omega)
  ·rw [if_pos (by rw [hv,show aI7 s r=true from hb,Bool.true_or])];simp only [simprocAttr,-ZA,↓zU,↓zD,zV,zT,zW];exact .dv
 have hd:((k:Int)<(s.rs.length:Int)):=by omega
 rw [drop_cons (d:=qT) hkl,List.any_cons] at hi;have hg:=rW s.rs hkl;generalize s.rs.getD k qT=r at hg hi;have hend:aVw s r=true->s.rs.any (aVw s)= true:=fun h=>by rw [hi,h,Bool.true_or]
 by_cases c1:(r.loc.length:Int)= s.ln
 case neg=>
  have e1:((r.loc.length:Int) != s.ln)= true:=by simpa using c1
  rw [if_pos (hend (by unfold aVw; simp [c1]))];simp only [simprocAttr,-ZA,↓zU,↓zD,zV,zT,zW,hd,zQ,hg,xD.row,tH,e1]
  (repeat refine sd ?_)
  exact .dv
 have e1:((r.loc.length:Int) != s.ln)= false:=by simpa using c1
 by_cases c2:(r.fac.length:Int)= s.ln
 case neg=>
  have e2:((r.fac.length:Int) != s.ln)= true:=by simpa using c2
  rw [if_pos (hend (by unfold aVw; simp [c2]))];simp only [simprocAttr,-ZA,↓zU,↓zD,zV,zT,zW,hd,zQ,hg,xD.row,tH,e1,xK,e2]
  (repeat refine sd ?_)
  exact .dv
 have e2:((r.fac.length:Int) != s.ln)= false:=by simpa using c2
 have hc:=aOm (σ:=⟨2,[(1,⟨2,[r.row]⟩),(0,⟨4,[s.cells]⟩)]⟩) (g:=98) (caps:=[.ref 0 4 0 0]) (l:=r.loc) (f:=fun l=>!decide ((l.length:Int)= s.ag)) (by omega) fun x _=>bWz rfl x;simp only [tZ.cells,xD.row] at hc;have hbf:aVw s r=r.loc.any fun l=>!decide ((l.length:Int)= s.ag):=by unfold aVw; simp [c1,c2]
 simp only [simprocAttr,-ZA,↓zU,↓zD,zV,zT,zW,hd,zQ,hg,xD.row,tH,e1,xK,e2]
 (repeat refine sd ?_)
 refine .go hc ?_;rw [<- hbf]
 cases hb:aVw s r
 ·simp only [simprocAttr,-ZA,↓zU,↓zD,zV,zT,zW]
  refine⟨k+1,⟨by omega,?_⟩,?_,by omega⟩
  ·rw [hi,hb,Bool.false_or]
  (refine xM.ren [] [0] (by simp) (by simp) (by decide) ?_; simp only [yK,vwL,vw,vwF,sw,St.get,St.look,Fr.get,simprocAttr,-ZA,exists_eq_left',ne_eq,zR])
  exact wrap_i64 (by omega)
 ·rw [if_pos (hend hb)];simp only [simprocAttr,-ZA,↓zU,↓zD,zV,zT,zW];exact .dv
open Rs Fm Ru
namespace Kb
structure ClA where
 test:List Nd
 mv:Int
structure AsA where
 fact:Int
 to:List Nd
structure PrA where
 F:Int
 init:List (BitVec 64)
 see:List (BitVec 64)
 xF:List (List AsA)
 code:List (List ClA)
def cl0 : ClA:=⟨[],0⟩
def as0 : AsA:=⟨0,[]⟩
def ClA.row (c:ClA):List D:=[.sl 6 (ndR c.test),.int .i64 c.mv]
def AsA.row (a:AsA):List D:=[.int .i64 a.fact,.sl 6 (ndR a.to)]
def clR (l:List ClA):List (List D):=l.map ClA.row
def asR (l:List AsA):List (List D):=l.map AsA.row
def mvR (l:List (List AsA)):List (List D):=l.map fun s=>[.sl 2 (asR s)]
def cdR (l:List (List ClA)):List (List D):=l.map fun s=>[.sl 2 (clR s)]
def PrA.cells (p:PrA):List D:=[.int .i64 p.F,.sl 1 (us p.init),.sl 1 (us p.see),.sl 1 (mvR p.xF),.sl 1 (cdR p.code)]
def PrA.d (p:PrA):D:=.agg p.cells
theorem jM (l:List ClA):(clR l).length=l.length:=by simp [clR]
theorem qL (l:List AsA):(asR l).length=l.length:=by simp [asR]
theorem qM (l:List (List AsA)):(mvR l).length=l.length:=by simp [mvR]
theorem tJ (l:List (List ClA)):(cdR l).length=l.length:=by simp [cdR]
theorem aLl (l:List ClA) {i:Nat} (h:i<l.length):(clR l).getD i []=(l.getD i cl0).row:=by simp [clR,List.getD,h]
theorem aU9 (l:List AsA) {i:Nat} (h:i<l.length):(asR l).getD i []=(l.getD i as0).row:=by simp [asR,List.getD,h]
theorem aUx (l:List (List AsA)) {i:Nat} (h:i<l.length):(mvR l).getD i [] = [.sl 2 (asR (l.getD i []))]:=by simp [mvR,List.getD,h]
theorem aU8 (l:List (List ClA)) {i:Nat} (h:i<l.length):(cdR l).getD i [] = [.sl 2 (clR (l.getD i []))]:=by simp [cdR,List.getD,h]
def sE {α:Type} (f:α->Int):List α->Int
 | []=>0
 | x :: r=>if f x≠0 then f x else sE f r
theorem oR {α:Type} {f:α->Int}:∀ {l:List α},sE f l=0 ↔ ∀ x ∈ l,f x=0
 | []=>by simp [sE]
 | x :: r=>by
  unfold sE
  by_cases h:f x=0
  ·rw [if_neg (by simpa using h),oR]; simp [h]
  ·rw [if_pos h]; simp [h]
def aI4 (l:List Int):Bool:=(List.range (l.length-1)).all fun i=>decide (l.getD i 0<l.getD (i+1) 0)
def fmE (p:PrA) (f:List Nd) (frags:Int):Int:= if xB f≠0 then xB f else if (pT .andNot .i64 (zC f) frags != 0)= true then 10 else if sT f p.see.length p.F=true then 0 else 2
def asE (p:PrA) (a:AsA):Int:=if a.fact<0\/p.F<=a.fact then 2 else fmE p a.to 0
def clE (p:PrA) (c:ClA):Int:=if fmE p c.test 15≠0 then fmE p c.test 15 else if c.mv < -1\/(p.xF.length:Int)<=c.mv then 2 else 0
def aNh (p:PrA) (s:BitVec 64):Bool:=!decide (s >>> p.F.toNat=0#64)
def bYp (l:List (BitVec 64)):Bool:=aI4 (l.map ui)
def aDo (s:List AsA):Bool:=aI4 (s.map (·.fact))
def nF (p:PrA):Int:=
 if p.F<0\/8<p.F then 2 else
 if 4<p.see.length\/16<p.init.length\/8<p.xF.length\/p.code.any (fun l=>decide (6<l.length))= true then 8 else
 if p.see.length=0\/p.init.length=0\/p.code.length≠p.see.length\/p.init.any (aNh p)= true\/p.see.any (aNh p)= true then 3 else
 if bYp p.init=false\/p.xF.any (fun s=>!aDo s)= true then 9 else 0
def qU (p:PrA):Int:= if nF p≠0 then nF p else if sE (sE (asE p)) p.xF≠0 then sE (sE (asE p)) p.xF else sE (sE (clE p)) p.code
structure aZl (p : PrA) : Prop where
 init:p.init.length<=2000000
 code:p.code.length<=2000000
 mv:∀ s ∈ p.xF,s.length<=4400000000000
end Kb
open Kb
theorem aYm {l:List Int} (h:∀ i,i+1<l.length->l.getD i 0<l.getD (i+1) 0):aI4 l=true:=by unfold aI4;rw [List.all_eq_true];intro i hi;have:=List.mem_range.1 hi;exact decide_eq_true (h i (by omega))
theorem aYl {l:List Int} {i:Nat} (hi:i+1<l.length) (h:¬ l.getD i 0<l.getD (i+1) 0):aI4 l=false:=by unfold aI4;rw [List.all_eq_false];exact⟨i,List.mem_range.2 (by omega),by simpa using h⟩
theorem aDa {l:List Int}:aI4 l=true ↔ ∀ i,i+1<l.length->l.getD i 0<l.getD (i+1) 0:=by refine⟨fun h i hi=>Decidable.byContradiction fun hh=>?_,aYm⟩;rw [aYl hi hh] at h; cases h
theorem bU7 (l:List Int) (hl:l.length<=2000000):yB Tryz.prog 59 [.sl 1 (rows .u64 l)] (.bool (aI4 l)):=by
 refine xY.xR mixed Tryz.func59 k59 (by simp) fun hf=>?_;simp only [simprocAttr,-ZA,↓zU,↓zD,zV,zT,zW]
 refine xQ (fun k:Nat=>[(3,.int .i64 ((k+1:Nat):Int)),(0,.sl 1 (rows .u64 l))]) (fun _=>⟨0,[]⟩) (fun k=>k<=l.length/\∀ i,i<k->i+1<l.length->l.getD i 0<l.getD (i+1) 0) (fun k=>l.length-k) 0 ⟨Nat.zero_le _,fun i hi=>absurd hi (Nat.not_lt_zero _)⟩ ?_ ?_
 ·(refine xM.same ?_; simp [xP,Fr.get])
 intro k ⟨hk,hi⟩;refine xN mixed ?_
 by_cases hh:k+1<l.length
 ·have hd:(((k+1:Nat):Int)<(l.length:Int)):=by omega
  have hw:IntKind.i64.wrap (((k+1:Nat):Int)-1)= (k:Int):=by rw [wrap_i64 (by omega)]; omega
  have hd2:((k:Int)<(l.length:Int)):=by omega
  have g1:=yX .u64 l (show k<l.length by omega);have g2:=yX .u64 l hh
  by_cases hlt:l.getD k 0<l.getD (k+1) 0
  ·have hlt2:¬ l.getD (k+1) 0<=l.getD k 0:=by omega
   simp only [simprocAttr,-ZA,↓zU,↓zD,zV,zT,zW,hd,yW,hw,hd2,g1,g2,hlt2]
   (repeat refine sd ?_)
   refine⟨k+1,⟨by omega,fun i h1 h2=>?_⟩,?_,by omega⟩
   ·by_cases e:i=k
    ·rw [e]; exact hlt
    ·exact hi i (by omega) h2
   (refine xM.same ?_; simp only [xP,Fr.get,simprocAttr,-ZA,zS])
   exact wrap_i64 (by omega)
  ·have hlt2:l.getD (k+1) 0<=l.getD k 0:=by omega
   simp only [simprocAttr,-ZA,↓zU,↓zD,zV,zT,zW,hd,yW,hw,hd2,g1,g2,hlt2]
   (repeat refine sd ?_)
   rw [aYl hh hlt];exact .same
 ·have hd:¬ (((k+1:Nat):Int)<(l.length:Int)):=by omega
  rw [aYm fun i h=>hi i (by omega) h];simp only [simprocAttr,-ZA,↓zU,↓zD,zV,zT,zW,hd,yW];exact .same
theorem bU5 (l:List Int) (hl:l.length<=4400000000000):yB Tryz.prog 62 [.sl 1 (rows .i64 l)] (.bool (aI4 l)):=by
 refine xY.xR mixed Tryz.func62 k62 (by simp) fun hf=>?_;simp only [simprocAttr,-ZA,↓zU,↓zD,zV,zT,zW]
 refine xQ (fun k:Nat=>[(3,.int .i64 ((k+1:Nat):Int)),(0,.sl 1 (rows .i64 l))]) (fun _=>⟨0,[]⟩) (fun k=>k<=l.length/\∀ i,i<k->i+1<l.length->l.getD i 0<l.getD (i+1) 0) (fun k=>l.length-k) 0 ⟨Nat.zero_le _,fun i hi=>absurd hi (Nat.not_lt_zero _)⟩ ?_ ?_
 ·(refine xM.same ?_; simp [xP,Fr.get])
 intro k ⟨hk,hi⟩;refine xN mixed ?_
 by_cases hh:k+1<l.length
 ·have hd:(((k+1:Nat):Int)<(l.length:Int)):=by omega
  have hw:IntKind.i64.wrap (((k+1:Nat):Int)-1)= (k:Int):=by rw [wrap_i64 (by omega)]; omega
  have hd2:((k:Int)<(l.length:Int)):=by omega
  have g1:=yX .i64 l (show k<l.length by omega);have g2:=yX .i64 l hh
  by_cases hlt:l.getD k 0<l.getD (k+1) 0
  ·have hlt2:¬ l.getD (k+1) 0<=l.getD k 0:=by omega
   simp only [simprocAttr,-ZA,↓zU,↓zD,zV,zT,zW,hd,yW,hw,hd2,g1,g2,hlt2]
   (repeat refine sd ?_)
   refine⟨k+1,⟨by omega,fun i h1 h2=>?_⟩,?_,by omega⟩
   ·by_cases e:i=k
    ·rw [e]; exact hlt
    ·exact hi i (by omega) h2
   (refine xM.same ?_; simp only [xP,Fr.get,simprocAttr,-ZA,zS])
   exact wrap_i64 (by omega)
  ·have hlt2:l.getD (k+1) 0<=l.getD k 0:=by omega
   simp only [simprocAttr,-ZA,↓zU,↓zD,zV,zT,zW,hd,yW,hw,hd2,g1,g2,hlt2]
   (repeat refine sd ?_)
   rw [aYl hh hlt];exact .same
 ·have hd:¬ (((k+1:Nat):Int)<(l.length:Int)):=by omega
  rw [aYm fun i h=>hi i (by omega) h];simp only [simprocAttr,-ZA,↓zU,↓zD,zV,zT,zW,hd,yW];exact .same
theorem aEf {σ:St} {g:FuncId} {caps:List D} {f:List ClA->Bool} {c:List (List ClA)} (hl:c.length<=2000000) (h:∀ x ∈ c,xY Tryz.prog g ([.sl 2 (clR x)]++caps) σ (.bool (f x)) σ):xY Tryz.prog 114 [.sl 1 (cdR c),.fn g caps] σ (.int .i64 (ixF f c 0)) σ:=by
 refine xY.xR mixed Tryz.func114 bRy (by simp) fun hf=>?_;simp only [simprocAttr,-ZA,↓zU,↓zD,zV,zT,zW,tJ]
 refine xQ (fun k:Nat=>[(8,.int .i64 k),(7,.int .i64 c.length),(1,.fn g caps),(0,.sl 1 (cdR c))]) (fun _=>σ) (fun k=>k<=c.length/\ixF f c 0=ixF f (c.drop k) k) (fun k=>c.length-k) 0 ⟨Nat.zero_le _,rfl⟩ ?_ ?_
 ·(refine xM.same ?_; simp [xP,Fr.get])
 intro k ⟨hk,hi⟩;refine xN mixed ?_
 by_cases hh:k<c.length
 ·have hd:((k:Int)<(c.length:Int)):=by omega
  rw [drop_cons (d:=[]) hh,ixF] at hi;simp only [simprocAttr,-ZA,↓zU,↓zD,zV,zT,zW,hd,tJ,aU8 _ hh]
  (repeat refine sd ?_)
  refine .go (h _ (xS hh)) ?_
  cases hx:f (c.getD k [])
  ·rw [hx,if_neg (by simp)] at hi;simp only [simprocAttr,-ZA,↓zU,↓zD,zV,zT,zW];refine⟨k+1,⟨by omega,hi⟩,?_,by omega⟩
   (refine xM.same ?_; simp only [xP,Fr.get,simprocAttr,-ZA,zS])
   exact wrap_i64 (by omega)
  ·rw [hx,if_pos rfl] at hi;simp only [simprocAttr,-ZA,↓zU,↓zD,zV,zT,zW];rw [hi];exact .same
 ·have hd:¬ ((k:Int)<(c.length:Int)):=by omega
  rw [List.drop_eq_nil_of_le (by omega),ixF] at hi;simp only [simprocAttr,-ZA,↓zU,↓zD,zV,zT,zW,hd];rw [hi];exact .same
theorem aOl {σ:St} {g:FuncId} {caps:List D} {f:List ClA->Bool} {c:List (List ClA)} (hl:c.length<=2000000) (h:∀ x ∈ c,xY Tryz.prog g ([.sl 2 (clR x)]++caps) σ (.bool (f x)) σ):xY Tryz.prog 56 [.sl 1 (cdR c),.fn g caps] σ (.bool (c.any f)) σ:=by
 refine xY.xR mixed Tryz.func56 k56 (by simp) fun hf=>?_;simp only [simprocAttr,-ZA,↓zU,↓zD,zV,zT,zW];refine .go (aEf hl h) ?_;have hx:=jP (f:=f) (c:=c) (i:=0) (Int.le_refl 0)
 cases ha:c.any f
 ·have h1:¬ 0<=ixF f c 0:=fun y=>by rw [hx.1 y] at ha; cases ha
  simp only [simprocAttr,-ZA,↓zU,↓zD,zV,zT,zW,h1];exact .same
 ·have h1:=hx.2 ha;simp only [simprocAttr,-ZA,↓zU,↓zD,zV,zT,zW,h1];exact .same
theorem aEe {σ:St} {g:FuncId} {caps:List D} {f:List AsA->Bool} {c:List (List AsA)} (hl:c.length<=2000000) (h:∀ x ∈ c,xY Tryz.prog g ([.agg [.sl 2 (asR x)]]++caps) σ (.bool (f x)) σ):xY Tryz.prog 116 [.sl 1 (mvR c),.fn g caps] σ (.int .i64 (ixF f c 0)) σ:=by
 refine xY.xR mixed Tryz.func116 bRw (by simp) fun hf=>?_;simp only [simprocAttr,-ZA,↓zU,↓zD,zV,zT,zW,qM]
 refine xQ (fun k:Nat=>[(8,.int .i64 k),(7,.int .i64 c.length),(1,.fn g caps),(0,.sl 1 (mvR c))]) (fun _=>σ) (fun k=>k<=c.length/\ixF f c 0=ixF f (c.drop k) k) (fun k=>c.length-k) 0 ⟨Nat.zero_le _,rfl⟩ ?_ ?_
 ·(refine xM.same ?_; simp [xP,Fr.get])
 intro k ⟨hk,hi⟩;refine xN mixed ?_
 by_cases hh:k<c.length
 ·have hd:((k:Int)<(c.length:Int)):=by omega
  rw [drop_cons (d:=[]) hh,ixF] at hi;simp only [simprocAttr,-ZA,↓zU,↓zD,zV,zT,zW,hd,qM,aUx _ hh]
  (repeat refine sd ?_)
  refine .go (h _ (xS hh)) ?_
  cases hx:f (c.getD k [])
  ·rw [hx,if_neg (by simp)] at hi;simp only [simprocAttr,-ZA,↓zU,↓zD,zV,zT,zW];refine⟨k+1,⟨by omega,hi⟩,?_,by omega⟩
   (refine xM.same ?_; simp only [xP,Fr.get,simprocAttr,-ZA,zS])
   exact wrap_i64 (by omega)
  ·rw [hx,if_pos rfl] at hi;simp only [simprocAttr,-ZA,↓zU,↓zD,zV,zT,zW];rw [hi];exact .same
 ·have hd:¬ ((k:Int)<(c.length:Int)):=by omega
  rw [List.drop_eq_nil_of_le (by omega),ixF] at hi;simp only [simprocAttr,-ZA,↓zU,↓zD,zV,zT,zW,hd];rw [hi];exact .same
theorem aOk {σ:St} {g:FuncId} {caps:List D} {f:List AsA->Bool} {c:List (List AsA)} (hl:c.length<=2000000) (h:∀ x ∈ c,xY Tryz.prog g ([.agg [.sl 2 (asR x)]]++caps) σ (.bool (f x)) σ):xY Tryz.prog 60 [.sl 1 (mvR c),.fn g caps] σ (.bool (c.any f)) σ:=by
 refine xY.xR mixed Tryz.func60 k60 (by simp) fun hf=>?_;simp only [simprocAttr,-ZA,↓zU,↓zD,zV,zT,zW];refine .go (aEe hl h) ?_;have hx:=jP (f:=f) (c:=c) (i:=0) (Int.le_refl 0)
 cases ha:c.any f
 ·have h1:¬ 0<=ixF f c 0:=fun y=>by rw [hx.1 y] at ha; cases ha
  simp only [simprocAttr,-ZA,↓zU,↓zD,zV,zT,zW,h1];exact .same
 ·have h1:=hx.2 ha;simp only [simprocAttr,-ZA,↓zU,↓zD,zV,zT,zW,h1];exact .same
end Go.Pd
