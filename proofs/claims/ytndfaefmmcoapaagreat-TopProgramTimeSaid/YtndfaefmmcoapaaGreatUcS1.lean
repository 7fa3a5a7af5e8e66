/- Part S1. -/
import Derived.Test.YtndfaefmmcoapaaGreatUcX9
import Derived.Test.YtndfaefmmcoapaaGreatUcPQ
set_option linter.unusedSectionVars false
set_option linter.unusedVariables false
set_option linter.unusedSimpArgs false
set_option linter.defProp false
set_option maxRecDepth 20000
set_option maxHeartbeats 1000000
open Go.Proofs.Tryz
open List renaming drop_eq_nil_of_le->γ,any_cons->δ,any_nil->ε,any_eq_false->ζ
open Nat renaming zero_le->η,not_lt_zero->θ
open Bool renaming false_or->κ,true_or->μ
namespace Go.Pd
open Go Go.Proofs
open BitVec renaming isValue -> ZA
namespace Ru
structure xC where
 loc:List (List Int)
 nW:List (BitVec 64)
structure tB where
 ag:Int
 fa:Int
 ln:Int
 rs:List xC
def xC.row (r:xC):List D:=[.sl 1 (rl r.loc),.sl 1 (us r.nW)]
def zK (l:List xC):List (List D):=l.map xC.row
def tB.cells (s:tB):List D:=[.int .i64 s.ag,.int .i64 s.fa,.int .i64 s.ln,.sl 2 (zK s.rs)]
def tB.d (s:tB):D:=.agg s.cells
def uX : xC:=⟨[],[]⟩
theorem wP (l:List xC):(zK l).length=l.length:=by simp [zK]
theorem pL (l:List xC) {i:Nat} (h:i<l.length):(zK l).getD i []=(l.getD i uX).row:=by simp [zK,List.getD,h]
theorem jk (l:List xC):∀ e ∈ zK l,D.xR e=true:=by intro e he;simp only [zK,List.mem_map] at he;obtain⟨r,_,rfl⟩:=he;rfl
def fQ {α:Type} (f:α->Bool):List α->Int->Int
 | [],_=>-1
 | x :: r,i=>if f x=true then i else fQ f r (i+1)
theorem fF {α:Type} {f:α->Bool}:∀ {c:List α} {i:Int},0<=i->(0<=fQ f c i ↔ c.any f=true)
 | [],i,_=>by simp [fQ]
 | x :: r,i,h=>by
  unfold fQ
  by_cases hx:f x=true
  ·rw [if_pos hx,δ,hx]; simp [h]
  ·rw [if_neg hx,fF (by omega),δ]; simp [hx]
def eF (s:tB) (r:xC):Bool:=!decide ((r.loc.length:Int)= s.ln) || !decide ((r.nW.length:Int)= s.ln) || r.loc.any λl=>!decide ((l.length:Int)= s.ag)
def ec (s:tB) (r:xC):Bool:=r.nW.any λf=>!decide (f >>> s.fa.toNat=0#64)
def lY (s:tB):Int:=
 if s.ag<0\/4<s.ag\/s.fa<0\/8<s.fa\/s.ln<1\/16<s.ln then 2 else
 if 64<(s.rs.length:Int)\/512<(s.rs.length:Int)* s.ln then 8 else
 if s.rs.length=0 then 3 else if s.rs.any (eF s)= true then 3 else if s.rs.any (ec s)= true then 2 else 0
end Ru
open Ru
theorem OB {σ:St} {g:FuncId} {caps:List D} {f:BitVec 64->Bool} {c:List (BitVec 64)} (hl:c.length<=1000) (h:∀ x ∈ c,xY prog g ([.int .u64 (ui x)]++caps) σ (.bool (f x)) σ):xY prog 115 [.sl 1 (us c),.fn g caps] σ (.int .i64 (fQ f c 0)) σ:=by
 refine xY.xN mixed func115 IJ (by simp) λhf=>?_;simp only [simprocAttr,-ZA,↓zU,↓zD,zV,zT,zW,xI]
 refine xP (λk:Nat=>[(8,.int .i64 k),(7,.int .i64 c.length),(1,.fn g caps),(0,.sl 1 (us c))]) (λ_=>σ) (λk=>k<=c.length/\fQ f c 0=fQ f (c.drop k) k) (λk=>c.length-k) 0 ⟨η _,rfl⟩ ?_ ?_
 ·(refine xT.same ?_; simp [xS,Fr.get])
 intro k ⟨hk,hi⟩;refine xM mixed ?_
 by_cases hh:k<c.length
 ·have hd:((k:Int)<(c.length:Int)):=by omega
  rw [drop_cons (d:=0) hh,fQ] at hi;simp only [simprocAttr,-ZA,↓zU,↓zD,zV,zT,zW,hd,xI,vX _ hh]
  (repeat refine sd ?_)
  refine .go (h _ (xL hh)) ?_
  cases hx:f (c.getD k 0)
  ·rw [hx,if_neg (by simp)] at hi;simp only [simprocAttr,-ZA,↓zU,↓zD,zV,zT,zW];refine⟨k+1,⟨by omega,hi⟩,?_,by omega⟩
   (refine xT.same ?_; simp only [xS,Fr.get,simprocAttr,-ZA,zS])
   exact wrap_i64 (by omega)
  ·rw [hx,if_pos rfl] at hi;simp only [simprocAttr,-ZA,↓zU,↓zD,zV,zT,zW];rw [hi];exact .same
 ·have hd:¬ ((k:Int)<(c.length:Int)):=by omega
  rw [γ (by omega),fQ] at hi;simp only [simprocAttr,-ZA,↓zU,↓zD,zV,zT,zW,hd];rw [hi];exact .same
theorem cJ {σ:St} {g:FuncId} {caps:List D} {f:BitVec 64->Bool} {c:List (BitVec 64)} (hl:c.length<=1000) (h:∀ x ∈ c,xY prog g ([.int .u64 (ui x)]++caps) σ (.bool (f x)) σ):xY prog 58 [.sl 1 (us c),.fn g caps] σ (.bool (c.any f)) σ:=by
 refine xY.xN mixed func58 FZ (by simp) λhf=>?_;simp only [simprocAttr,-ZA,↓zU,↓zD,zV,zT,zW];refine .go (OB hl h) ?_;have hx:=fF (f:=f) (c:=c) (i:=0) (Int.le_refl 0)
 cases ha:c.any f
 ·have h1:¬ 0<=fQ f c 0:=λy=>by rw [hx.1 y] at ha; cases ha
  simp only [simprocAttr,-ZA,↓zU,↓zD,zV,zT,zW,h1];exact .same
 ·have h1:=hx.2 ha;simp only [simprocAttr,-ZA,↓zU,↓zD,zV,zT,zW,h1];exact .same
theorem OA {σ:St} {g:FuncId} {caps:List D} {f:List Int->Bool} {l:List (List Int)} (hl:l.length<=1000) (h:∀ x ∈ l,xY prog g ([.sl 1 (rows .i64 x)]++caps) σ (.bool (f x)) σ):xY prog 145 [.sl 1 (rl l),.fn g caps] σ (.int .i64 (fQ f l 0)) σ:=by
 refine xY.xN mixed func145 Ig (by simp) λhf=>?_;simp only [simprocAttr,-ZA,↓zU,↓zD,zV,zT,zW,wG]
 refine xP (λk:Nat=>[(8,.int .i64 k),(7,.int .i64 l.length),(1,.fn g caps),(0,.sl 1 (rl l))]) (λ_=>σ) (λk=>k<=l.length/\fQ f l 0=fQ f (l.drop k) k) (λk=>l.length-k) 0 ⟨η _,rfl⟩ ?_ ?_
 ·(refine xT.same ?_; simp [xS,Fr.get])
 intro k ⟨hk,hi⟩;refine xM mixed ?_
 by_cases hh:k<l.length
 ·have hd:((k:Int)<(l.length:Int)):=by omega
  rw [drop_cons (d:=[]) hh,fQ] at hi;simp only [simprocAttr,-ZA,↓zU,↓zD,zV,zT,zW,hd,wG,pS _ hh]
  (repeat refine sd ?_)
  refine .go (h _ (xL hh)) ?_
  cases hx:f (l.getD k [])
  ·rw [hx,if_neg (by simp)] at hi;simp only [simprocAttr,-ZA,↓zU,↓zD,zV,zT,zW];refine⟨k+1,⟨by omega,hi⟩,?_,by omega⟩
   (refine xT.same ?_; simp only [xS,Fr.get,simprocAttr,-ZA,zS])
   exact wrap_i64 (by omega)
  ·rw [hx,if_pos rfl] at hi;simp only [simprocAttr,-ZA,↓zU,↓zD,zV,zT,zW];rw [hi];exact .same
 ·have hd:¬ ((k:Int)<(l.length:Int)):=by omega
  rw [γ (by omega),fQ] at hi;simp only [simprocAttr,-ZA,↓zU,↓zD,zV,zT,zW,hd];rw [hi];exact .same
theorem Ww {σ:St} {g:FuncId} {caps:List D} {f:List Int->Bool} {l:List (List Int)} (hl:l.length<=1000) (h:∀ x ∈ l,xY prog g ([.sl 1 (rows .i64 x)]++caps) σ (.bool (f x)) σ):xY prog 97 [.sl 1 (rl l),.fn g caps] σ (.bool (l.any f)) σ:=by
 refine xY.xN mixed func97 G9 (by simp) λhf=>?_;simp only [simprocAttr,-ZA,↓zU,↓zD,zV,zT,zW];refine .go (OA hl h) ?_;have hx:=fF (f:=f) (c:=l) (i:=0) (Int.le_refl 0)
 cases ha:l.any f
 ·have h1:¬ 0<=fQ f l 0:=λy=>by rw [hx.1 y] at ha; cases ha
  simp only [simprocAttr,-ZA,↓zU,↓zD,zV,zT,zW,h1];exact .same
 ·have h1:=hx.2 ha;simp only [simprocAttr,-ZA,↓zU,↓zD,zV,zT,zW,h1];exact .same
theorem Ll {nx:Nat} {xZ:List (Nat × Ob)} {s:tB} (h0:St.look xZ 0=some ⟨4,[s.cells]⟩) (x:List Int):xY prog 98 ([.sl 1 (rows .i64 x)] ++ [.ref 0 4 0 0]) ⟨nx,xZ⟩ (.bool (!decide ((x.length:Int)= s.ag))) ⟨nx,xZ⟩:=by
 refine xY.xN mixed func98 GA (by simp) λhf=>?_;unfold tB.cells at h0;simp only [simprocAttr,-ZA,↓zU,↓zD,zV,zT,zW,h0]
 (repeat refine sd ?_)
 rw [show ((x.length:Int) != s.ag)= !decide ((x.length:Int)= s.ag) by rw [bne]; congr 1];exact .same
theorem KO {nx:Nat} {xZ:List (Nat × Ob)} {s:tB} (h0:St.look xZ 0=some ⟨4,[s.cells]⟩) (hf:0<=s.fa) (x:BitVec 64):xY prog 99 ([.int .u64 (ui x)] ++ [.ref 0 4 0 0]) ⟨nx,xZ⟩ (.bool (!decide (x >>> s.fa.toNat=0#64))) ⟨nx,xZ⟩:=by
 refine xY.xN mixed func99 GB (by simp) λhf=>?_;unfold tB.cells at h0;simp only [simprocAttr,-ZA,↓zU,↓zD,zV,zT,zW,h0]
 (repeat refine sd ?_)
 rw [show (x >>> s.fa.toNat != 0#64)= !decide (x >>> s.fa.toNat=0#64) by rw [bne]; congr 1];exact .same
theorem vg (s:tB):yU prog 43 [s.d] (.int .i64 (lY s)):=by
 have hD:s.d = .agg [.int .i64 s.ag,.int .i64 s.fa,.int .i64 s.ln,.sl 2 (zK s.rs)]:=rfl;rw [hD];refine xY.xN mixed func43 FP (by simp) λhf=>?_
 by_cases a1:s.ag<0
 ·rw [show lY s=2 by unfold lY; rw [if_pos (.inl a1)]];simp only [simprocAttr,-ZA,↓zU,↓zD,zV,zT,zW,a1];exact .dv
 by_cases a2:4<s.ag
 ·rw [show lY s=2 by unfold lY; rw [if_pos (by omega)]];simp only [simprocAttr,-ZA,↓zU,↓zD,zV,zT,zW,a1,a2];exact .dv
 by_cases a3:s.fa<0
 ·rw [show lY s=2 by unfold lY; rw [if_pos (by omega)]];simp only [simprocAttr,-ZA,↓zU,↓zD,zV,zT,zW,a1,a2,a3];exact .dv
 by_cases a4:8<s.fa
 ·rw [show lY s=2 by unfold lY; rw [if_pos (by omega)]];simp only [simprocAttr,-ZA,↓zU,↓zD,zV,zT,zW,a1,a2,a3,a4];exact .dv
 by_cases a5:s.ln<1
 ·rw [show lY s=2 by unfold lY; rw [if_pos (by omega)]];simp only [simprocAttr,-ZA,↓zU,↓zD,zV,zT,zW,a1,a2,a3,a4,a5];exact .dv
 by_cases a6:16<s.ln
 ·rw [show lY s=2 by unfold lY; rw [if_pos (by omega)]];simp only [simprocAttr,-ZA,↓zU,↓zD,zV,zT,zW,a1,a2,a3,a4,a5,a6];exact .dv
 have e0:lY s=if 64<(s.rs.length:Int)\/512<(s.rs.length:Int)* s.ln then 8 else
  if s.rs.length=0 then 3 else if s.rs.any (eF s)= true then 3 else if s.rs.any (ec s)= true then 2 else 0:=by
  unfold lY; rw [if_neg (by omega)]
 by_cases b1:64<(s.rs.length:Int)
 ·rw [e0,if_pos (.inl b1)];simp only [simprocAttr,-ZA,↓zU,↓zD,zV,zT,zW,a1,a2,a3,a4,a5,a6,wP,b1];exact .dv
 have hm:(s.rs.length:Int)* s.ln<=64*16:=Int.mul_le_mul (by omega) (by omega) (by omega) (by omega);have hm0:0<=(s.rs.length:Int)* s.ln:=Int.mul_nonneg (by omega) (by omega);have hw:IntKind.i64.wrap ((s.rs.length:Int)* s.ln)= (s.rs.length:Int)* s.ln:=wrap_i64 (by omega)
 by_cases b2:512<(s.rs.length:Int)* s.ln
 ·rw [e0,if_pos (.inr b2)];simp only [simprocAttr,-ZA,↓zU,↓zD,zV,zT,zW,a1,a2,a3,a4,a5,a6,wP,b1,hw,b2];exact .dv
 rw [e0,if_neg (by omega)]
 by_cases b3:s.rs.length=0
 ·rw [if_pos b3];have b3':((s.rs.length:Int)== 0)= true:=by rw [b3]; rfl
  simp only [simprocAttr,-ZA,↓zU,↓zD,zV,zT,zW,a1,a2,a3,a4,a5,a6,wP,b1,hw,b2,b3'];exact .dv
 rw [if_neg b3];have b3':((s.rs.length:Int)== 0)= false:=by rw [beq_eq_false_iff_ne]; omega
 simp only [simprocAttr,-ZA,↓zU,↓zD,zV,zT,zW,a1,a2,a3,a4,a5,a6,wP,b1,hw,b2,b3']
 refine xP (λk:Nat=>[(55,.int .i64 k),(54,.int .i64 s.rs.length),(53,.sl 2 (zK s.rs)),(1,.ref 0 4 0 0)]) (λ_=>⟨1,[(0,⟨4,[[.int .i64 s.ag,.int .i64 s.fa,.int .i64 s.ln,.sl 2 (zK s.rs)]]⟩)]⟩)
  (λk=>k<=s.rs.length/\s.rs.any (eF s)= (s.rs.drop k).any (eF s)) (λk=>s.rs.length-k) 0 ⟨η _,rfl⟩ ?_ ?_
 ·(refine xT.same ?_; simp [xS,Fr.get])
 intro k ⟨hk,hi⟩;refine xM mixed ?_;by_cases hkl:k<s.rs.length
 case neg=>
  have hd:¬ ((k:Int)<(s.rs.length:Int)):=by omega
  rw [γ (by omega),ε] at hi;rw [if_neg (by rw [hi]; simp)];simp only [simprocAttr,-ZA,↓zU,↓zD,zV,zT,zW,hd,wP]
  refine xP (λk:Nat=>[(83,.int .i64 k),(82,.int .i64 s.rs.length),(81,.sl 2 (zK s.rs)),(1,.ref 0 4 0 0)]) (λ_=>⟨1,[(0,⟨4,[[.int .i64 s.ag,.int .i64 s.fa,.int .i64 s.ln,.sl 2 (zK s.rs)]]⟩)]⟩)
   (λk=>k<=s.rs.length/\s.rs.any (ec s)= (s.rs.drop k).any (ec s)) (λk=>s.rs.length-k) 0 ⟨η _,rfl⟩ ?_ ?_
  ·(refine xT.same ?_; simp [xS,Fr.get])
  intro k ⟨hk,hv⟩;refine xM mixed ?_;by_cases hkl:k<s.rs.length
  case neg=>
   have hd:¬ ((k:Int)<(s.rs.length:Int)):=by omega
   rw [γ (by omega),ε] at hv;rw [if_neg (by rw [hv]; simp)];simp only [simprocAttr,-ZA,↓zU,↓zD,zV,zT,zW,hd];exact .dv
  have hd:((k:Int)<(s.rs.length:Int)):=by omega
  rw [drop_cons (d:=uX) hkl,δ] at hv
  have hnb:eF s (s.rs.getD k uX)= false:=by have:=ζ.1 hi _ (xL (d:=uX) hkl);simpa using this
  have hg:=pL s.rs hkl;generalize s.rs.getD k uX=r at hg hv hnb
  have hfl:r.nW.length<=1000:=by simp only [eF,Bool.or_eq_false_iff,Bool.not_eq_false',decide_eq_true_eq] at hnb;omega
  have hc:=cJ (σ:=⟨2,[(1,⟨2,[r.row]⟩),(0,⟨4,[s.cells]⟩)]⟩) (g:=99) (caps:=[.ref 0 4 0 0]) (c:=r.nW) (f:=λf=>!decide (f >>> s.fa.toNat=0#64)) hfl λx _=>KO rfl (by omega) x;simp only [tB.cells,xC.row] at hc;simp only [simprocAttr,-ZA,↓zU,↓zD,zV,zT,zW,hd,wP,hg,xC.row]
  (repeat refine sd ?_)
  refine .go hc ?_
  cases hb:r.nW.any λf=>!decide (f >>> s.fa.toNat=0#64)
  ·simp only [simprocAttr,-ZA,↓zU,↓zD,zV,zT,zW]
   refine⟨k+1,⟨by omega,?_⟩,?_,by omega⟩
   ·rw [hv,show ec s r=false from hb,κ]
   (refine xT.tP [] [0] (by simp) (by simp) (by decide) ?_; simp only [yQ,zQ,simprocAttr,-ZA,exists_eq_left',ne_eq,zR])
   exact wrap_i64 (by omega)
  ·rw [if_pos (by rw [hv,show ec s r=true from hb,μ])];simp only [simprocAttr,-ZA,↓zU,↓zD,zV,zT,zW];exact .dv
 have hd:((k:Int)<(s.rs.length:Int)):=by omega
 rw [drop_cons (d:=uX) hkl,δ] at hi;have hg:=pL s.rs hkl;generalize s.rs.getD k uX=r at hg hi;have hend:eF s r=true->s.rs.any (eF s)= true:=λh=>by rw [hi,h,μ]
 by_cases c1:(r.loc.length:Int)= s.ln
 case neg=>
  have e1:((r.loc.length:Int) != s.ln)= true:=by simpa using c1
  rw [if_pos (hend (by unfold eF; simp [c1]))];simp only [simprocAttr,-ZA,↓zU,↓zD,zV,zT,zW,hd,wP,hg,xC.row,wG,e1]
  (repeat refine sd ?_)
  exact .dv
 have e1:((r.loc.length:Int) != s.ln)= false:=by simpa using c1
 by_cases c2:(r.nW.length:Int)= s.ln
 case neg=>
  have e2:((r.nW.length:Int) != s.ln)= true:=by simpa using c2
  rw [if_pos (hend (by unfold eF; simp [c2]))];simp only [simprocAttr,-ZA,↓zU,↓zD,zV,zT,zW,hd,wP,hg,xC.row,wG,e1,xI,e2]
  (repeat refine sd ?_)
  exact .dv
 have e2:((r.nW.length:Int) != s.ln)= false:=by simpa using c2
 have hc:=Ww (σ:=⟨2,[(1,⟨2,[r.row]⟩),(0,⟨4,[s.cells]⟩)]⟩) (g:=98) (caps:=[.ref 0 4 0 0]) (l:=r.loc) (f:=λl=>!decide ((l.length:Int)= s.ag)) (by omega) λx _=>Ll rfl x;simp only [tB.cells,xC.row] at hc;have hbf:eF s r=r.loc.any λl=>!decide ((l.length:Int)= s.ag):=by unfold eF; simp [c1,c2]
 simp only [simprocAttr,-ZA,↓zU,↓zD,zV,zT,zW,hd,wP,hg,xC.row,wG,e1,xI,e2]
 (repeat refine sd ?_)
 refine .go hc ?_;rw [<- hbf]
 cases hb:eF s r
 ·simp only [simprocAttr,-ZA,↓zU,↓zD,zV,zT,zW]
  refine⟨k+1,⟨by omega,?_⟩,?_,by omega⟩
  ·rw [hi,hb,κ]
  (refine xT.tP [] [0] (by simp) (by simp) (by decide) ?_; simp only [yQ,zQ,simprocAttr,-ZA,exists_eq_left',ne_eq,zR])
  exact wrap_i64 (by omega)
 ·rw [if_pos (hend hb)];simp only [simprocAttr,-ZA,↓zU,↓zD,zV,zT,zW];exact .dv
open Rs Fm Ru
namespace Kb
structure aH where
 test:List Nd
 mv:Int
structure gZ where
 fact:Int
 to:List Nd
structure yA where
 F:Int
 init:List (BitVec 64)
 xK:List (BitVec 64)
 xJ:List (List gZ)
 code:List (List aH)
def Vb : aH:=⟨[],0⟩
def zp : gZ:=⟨0,[]⟩
def aH.row (c:aH):List D:=[.sl 6 (zB c.test),.int .i64 c.mv]
def gZ.row (a:gZ):List D:=[.int .i64 a.fact,.sl 6 (zB a.to)]
def YF (l:List aH):List (List D):=l.map aH.row
def YP (l:List gZ):List (List D):=l.map gZ.row
def oB (l:List (List gZ)):List (List D):=l.map λs=>[.sl 2 (YP s)]
def oA (l:List (List aH)):List (List D):=l.map λs=>[.sl 2 (YF s)]
def yA.cells (p:yA):List D:=[.int .i64 p.F,.sl 1 (us p.init),.sl 1 (us p.xK),.sl 1 (oB p.xJ),.sl 1 (oA p.code)]
def yA.d (p:yA):D:=.agg p.cells
theorem uP (l:List aH):(YF l).length=l.length:=by simp [YF]
theorem vO (l:List gZ):(YP l).length=l.length:=by simp [YP]
theorem zX (l:List (List gZ)):(oB l).length=l.length:=by simp [oB]
theorem zG (l:List (List aH)):(oA l).length=l.length:=by simp [oA]
theorem vl (l:List aH) {i:Nat} (h:i<l.length):(YF l).getD i []=(l.getD i Vb).row:=by simp [YF,List.getD,h]
theorem iZ (l:List gZ) {i:Nat} (h:i<l.length):(YP l).getD i []=(l.getD i zp).row:=by simp [YP,List.getD,h]
theorem fI (l:List (List gZ)) {i:Nat} (h:i<l.length):(oB l).getD i [] = [.sl 2 (YP (l.getD i []))]:=by simp [oB,List.getD,h]
theorem fC (l:List (List aH)) {i:Nat} (h:i<l.length):(oA l).getD i [] = [.sl 2 (YF (l.getD i []))]:=by simp [oA,List.getD,h]
def wY {α:Type} (f:α->Int):List α->Int
 | []=>0
 | x :: r=>if f x≠0 then f x else wY f r
theorem jJ {α:Type} {f:α->Int}:∀ {l:List α},wY f l=0 ↔ ∀ x ∈ l,f x=0
 | []=>by simp [wY]
 | x :: r=>by
  unfold wY
  by_cases h:f x=0
  ·rw [if_neg (by simpa using h),jJ]; simp [h]
  ·rw [if_pos h]; simp [h]
def mq (l:List Int):Bool:=(List.range (l.length-1)).all λi=>decide (l.getD i 0<l.getD (i+1) 0)
def ve (p:yA) (f:List Nd) (frags:Int):Int:= if yT f≠0 then yT f else if (tY .andNot .i64 (wT f) frags != 0)= true then 10 else if tU f p.xK.length p.F=true then 0 else 2
def nT (p:yA) (a:gZ):Int:=if a.fact<0\/p.F<=a.fact then 2 else ve p a.to 0
def jG (p:yA) (c:aH):Int:=if ve p c.test 15≠0 then ve p c.test 15 else if c.mv < -1\/(p.xJ.length:Int)<=c.mv then 2 else 0
def qD (p:yA) (s:BitVec 64):Bool:=!decide (s >>> p.F.toNat=0#64)
def mr (l:List (BitVec 64)):Bool:=mq (l.map ui)
def eE (s:List gZ):Bool:=mq (s.map (·.fact))
def zC (p:yA):Int:=
 if p.F<0\/8<p.F then 2 else
 if 4<p.xK.length\/16<p.init.length\/8<p.xJ.length\/p.code.any (λl=>decide (6<l.length))= true then 8 else
 if p.xK.length=0\/p.init.length=0\/p.code.length≠p.xK.length\/p.init.any (qD p)= true\/p.xK.any (qD p)= true then 3 else
 if mr p.init=false\/p.xJ.any (λs=>!eE s)= true then 9 else 0
def uN (p:yA):Int:= if zC p≠0 then zC p else if wY (wY (nT p)) p.xJ≠0 then wY (wY (nT p)) p.xJ else wY (wY (jG p)) p.code
structure gM (p : yA) : Prop where
 init:p.init.length<=2000000
 code:p.code.length<=2000000
 mv:∀ s ∈ p.xJ,s.length<=4400000000000
end Kb
open Kb
theorem fX {l:List Int} (h:∀ i,i+1<l.length->l.getD i 0<l.getD (i+1) 0):mq l=true:=by unfold mq;rw [List.all_eq_true];intro i hi;have:=List.mem_range.1 hi;exact decide_eq_true (h i (by omega))
theorem gA {l:List Int} {i:Nat} (hi:i+1<l.length) (h:¬ l.getD i 0<l.getD (i+1) 0):mq l=false:=by unfold mq;rw [List.all_eq_false];exact⟨i,List.mem_range.2 (by omega),by simpa using h⟩
theorem Pq {l:List Int}:mq l=true ↔ ∀ i,i+1<l.length->l.getD i 0<l.getD (i+1) 0:=by refine⟨λh i hi=>Decidable.byContradiction λhh=>?_,fX⟩;rw [gA hi hh] at h; cases h
theorem Jq (l:List Int) (hl:l.length<=2000000):yU prog 59 [.sl 1 (rows .u64 l)] (.bool (mq l)):=by
 refine xY.xN mixed func59 FY (by simp) λhf=>?_;simp only [simprocAttr,-ZA,↓zU,↓zD,zV,zT,zW]
 refine xP (λk:Nat=>[(3,.int .i64 ((k+1:Nat):Int)),(0,.sl 1 (rows .u64 l))]) (λ_=>⟨0,[]⟩) (λk=>k<=l.length/\∀ i,i<k->i+1<l.length->l.getD i 0<l.getD (i+1) 0) (λk=>l.length-k) 0 ⟨η _,λi hi=>absurd hi (θ _)⟩ ?_ ?_
 ·(refine xT.same ?_; simp [xS,Fr.get])
 intro k ⟨hk,hi⟩;refine xM mixed ?_
 by_cases hh:k+1<l.length
 ·have hd:(((k+1:Nat):Int)<(l.length:Int)):=by omega
  have hw:IntKind.i64.wrap (((k+1:Nat):Int)-1)= (k:Int):=by rw [wrap_i64 (by omega)]; omega
  have hd2:((k:Int)<(l.length:Int)):=by omega
  have g1:=yP .u64 l (show k<l.length by omega);have g2:=yP .u64 l hh
  by_cases hlt:l.getD k 0<l.getD (k+1) 0
  ·have hlt2:¬ l.getD (k+1) 0<=l.getD k 0:=by omega
   simp only [simprocAttr,-ZA,↓zU,↓zD,zV,zT,zW,hd,yO,hw,hd2,g1,g2,hlt2]
   (repeat refine sd ?_)
   refine⟨k+1,⟨by omega,λi h1 h2=>?_⟩,?_,by omega⟩
   ·by_cases e:i=k
    ·rw [e]; exact hlt
    ·exact hi i (by omega) h2
   (refine xT.same ?_; simp only [xS,Fr.get,simprocAttr,-ZA,zS])
   exact wrap_i64 (by omega)
  ·have hlt2:l.getD (k+1) 0<=l.getD k 0:=by omega
   simp only [simprocAttr,-ZA,↓zU,↓zD,zV,zT,zW,hd,yO,hw,hd2,g1,g2,hlt2]
   (repeat refine sd ?_)
   rw [gA hh hlt];exact .same
 ·have hd:¬ (((k+1:Nat):Int)<(l.length:Int)):=by omega
  rw [fX λi h=>hi i (by omega) h];simp only [simprocAttr,-ZA,↓zU,↓zD,zV,zT,zW,hd,yO];exact .same
theorem Js (l:List Int) (hl:l.length<=4400000000000):yU prog 62 [.sl 1 (rows .i64 l)] (.bool (mq l)):=by
 refine xY.xN mixed func62 Fb (by simp) λhf=>?_;simp only [simprocAttr,-ZA,↓zU,↓zD,zV,zT,zW]
 refine xP (λk:Nat=>[(3,.int .i64 ((k+1:Nat):Int)),(0,.sl 1 (rows .i64 l))]) (λ_=>⟨0,[]⟩) (λk=>k<=l.length/\∀ i,i<k->i+1<l.length->l.getD i 0<l.getD (i+1) 0) (λk=>l.length-k) 0 ⟨η _,λi hi=>absurd hi (θ _)⟩ ?_ ?_
 ·(refine xT.same ?_; simp [xS,Fr.get])
 intro k ⟨hk,hi⟩;refine xM mixed ?_
 by_cases hh:k+1<l.length
 ·have hd:(((k+1:Nat):Int)<(l.length:Int)):=by omega
  have hw:IntKind.i64.wrap (((k+1:Nat):Int)-1)= (k:Int):=by rw [wrap_i64 (by omega)]; omega
  have hd2:((k:Int)<(l.length:Int)):=by omega
  have g1:=yP .i64 l (show k<l.length by omega);have g2:=yP .i64 l hh
  by_cases hlt:l.getD k 0<l.getD (k+1) 0
  ·have hlt2:¬ l.getD (k+1) 0<=l.getD k 0:=by omega
   simp only [simprocAttr,-ZA,↓zU,↓zD,zV,zT,zW,hd,yO,hw,hd2,g1,g2,hlt2]
   (repeat refine sd ?_)
   refine⟨k+1,⟨by omega,λi h1 h2=>?_⟩,?_,by omega⟩
   ·by_cases e:i=k
    ·rw [e]; exact hlt
    ·exact hi i (by omega) h2
   (refine xT.same ?_; simp only [xS,Fr.get,simprocAttr,-ZA,zS])
   exact wrap_i64 (by omega)
  ·have hlt2:l.getD (k+1) 0<=l.getD k 0:=by omega
   simp only [simprocAttr,-ZA,↓zU,↓zD,zV,zT,zW,hd,yO,hw,hd2,g1,g2,hlt2]
   (repeat refine sd ?_)
   rw [gA hh hlt];exact .same
 ·have hd:¬ (((k+1:Nat):Int)<(l.length:Int)):=by omega
  rw [fX λi h=>hi i (by omega) h];simp only [simprocAttr,-ZA,↓zU,↓zD,zV,zT,zW,hd,yO];exact .same
theorem QH {σ:St} {g:FuncId} {caps:List D} {f:List aH->Bool} {c:List (List aH)} (hl:c.length<=2000000) (h:∀ x ∈ c,xY prog g ([.sl 2 (YF x)]++caps) σ (.bool (f x)) σ):xY prog 114 [.sl 1 (oA c),.fn g caps] σ (.int .i64 (fQ f c 0)) σ:=by
 refine xY.xN mixed func114 II (by simp) λhf=>?_;simp only [simprocAttr,-ZA,↓zU,↓zD,zV,zT,zW,zG]
 refine xP (λk:Nat=>[(8,.int .i64 k),(7,.int .i64 c.length),(1,.fn g caps),(0,.sl 1 (oA c))]) (λ_=>σ) (λk=>k<=c.length/\fQ f c 0=fQ f (c.drop k) k) (λk=>c.length-k) 0 ⟨η _,rfl⟩ ?_ ?_
 ·(refine xT.same ?_; simp [xS,Fr.get])
 intro k ⟨hk,hi⟩;refine xM mixed ?_
 by_cases hh:k<c.length
 ·have hd:((k:Int)<(c.length:Int)):=by omega
  rw [drop_cons (d:=[]) hh,fQ] at hi;simp only [simprocAttr,-ZA,↓zU,↓zD,zV,zT,zW,hd,zG,fC _ hh]
  (repeat refine sd ?_)
  refine .go (h _ (xL hh)) ?_
  cases hx:f (c.getD k [])
  ·rw [hx,if_neg (by simp)] at hi;simp only [simprocAttr,-ZA,↓zU,↓zD,zV,zT,zW];refine⟨k+1,⟨by omega,hi⟩,?_,by omega⟩
   (refine xT.same ?_; simp only [xS,Fr.get,simprocAttr,-ZA,zS])
   exact wrap_i64 (by omega)
  ·rw [hx,if_pos rfl] at hi;simp only [simprocAttr,-ZA,↓zU,↓zD,zV,zT,zW];rw [hi];exact .same
 ·have hd:¬ ((k:Int)<(c.length:Int)):=by omega
  rw [γ (by omega),fQ] at hi;simp only [simprocAttr,-ZA,↓zU,↓zD,zV,zT,zW,hd];rw [hi];exact .same
theorem Wz {σ:St} {g:FuncId} {caps:List D} {f:List aH->Bool} {c:List (List aH)} (hl:c.length<=2000000) (h:∀ x ∈ c,xY prog g ([.sl 2 (YF x)]++caps) σ (.bool (f x)) σ):xY prog 56 [.sl 1 (oA c),.fn g caps] σ (.bool (c.any f)) σ:=by
 refine xY.xN mixed func56 FV (by simp) λhf=>?_;simp only [simprocAttr,-ZA,↓zU,↓zD,zV,zT,zW];refine .go (QH hl h) ?_;have hx:=fF (f:=f) (c:=c) (i:=0) (Int.le_refl 0)
 cases ha:c.any f
 ·have h1:¬ 0<=fQ f c 0:=λy=>by rw [hx.1 y] at ha; cases ha
  simp only [simprocAttr,-ZA,↓zU,↓zD,zV,zT,zW,h1];exact .same
 ·have h1:=hx.2 ha;simp only [simprocAttr,-ZA,↓zU,↓zD,zV,zT,zW,h1];exact .same
theorem QI {σ:St} {g:FuncId} {caps:List D} {f:List gZ->Bool} {c:List (List gZ)} (hl:c.length<=2000000) (h:∀ x ∈ c,xY prog g ([.agg [.sl 2 (YP x)]]++caps) σ (.bool (f x)) σ):xY prog 116 [.sl 1 (oB c),.fn g caps] σ (.int .i64 (fQ f c 0)) σ:=by
 refine xY.xN mixed func116 IK (by simp) λhf=>?_;simp only [simprocAttr,-ZA,↓zU,↓zD,zV,zT,zW,zX]
 refine xP (λk:Nat=>[(8,.int .i64 k),(7,.int .i64 c.length),(1,.fn g caps),(0,.sl 1 (oB c))]) (λ_=>σ) (λk=>k<=c.length/\fQ f c 0=fQ f (c.drop k) k) (λk=>c.length-k) 0 ⟨η _,rfl⟩ ?_ ?_
 ·(refine xT.same ?_; simp [xS,Fr.get])
 intro k ⟨hk,hi⟩;refine xM mixed ?_
 by_cases hh:k<c.length
 ·have hd:((k:Int)<(c.length:Int)):=by omega
  rw [drop_cons (d:=[]) hh,fQ] at hi;simp only [simprocAttr,-ZA,↓zU,↓zD,zV,zT,zW,hd,zX,fI _ hh]
  (repeat refine sd ?_)
  refine .go (h _ (xL hh)) ?_
  cases hx:f (c.getD k [])
  ·rw [hx,if_neg (by simp)] at hi;simp only [simprocAttr,-ZA,↓zU,↓zD,zV,zT,zW];refine⟨k+1,⟨by omega,hi⟩,?_,by omega⟩
   (refine xT.same ?_; simp only [xS,Fr.get,simprocAttr,-ZA,zS])
   exact wrap_i64 (by omega)
  ·rw [hx,if_pos rfl] at hi;simp only [simprocAttr,-ZA,↓zU,↓zD,zV,zT,zW];rw [hi];exact .same
 ·have hd:¬ ((k:Int)<(c.length:Int)):=by omega
  rw [γ (by omega),fQ] at hi;simp only [simprocAttr,-ZA,↓zU,↓zD,zV,zT,zW,hd];rw [hi];exact .same
theorem Wy {σ:St} {g:FuncId} {caps:List D} {f:List gZ->Bool} {c:List (List gZ)} (hl:c.length<=2000000) (h:∀ x ∈ c,xY prog g ([.agg [.sl 2 (YP x)]]++caps) σ (.bool (f x)) σ):xY prog 60 [.sl 1 (oB c),.fn g caps] σ (.bool (c.any f)) σ:=by
 refine xY.xN mixed func60 FX (by simp) λhf=>?_;simp only [simprocAttr,-ZA,↓zU,↓zD,zV,zT,zW];refine .go (QI hl h) ?_;have hx:=fF (f:=f) (c:=c) (i:=0) (Int.le_refl 0)
 cases ha:c.any f
 ·have h1:¬ 0<=fQ f c 0:=λy=>by rw [hx.1 y] at ha; cases ha
  simp only [simprocAttr,-ZA,↓zU,↓zD,zV,zT,zW,h1];exact .same
 ·have h1:=hx.2 ha;simp only [simprocAttr,-ZA,↓zU,↓zD,zV,zT,zW,h1];exact .same
open Rs Fm Ru Kb
theorem KD {nx:Nat} {xZ:List (Nat × Ob)} {p:yA} (h0:St.look xZ 0=some ⟨5,[p.cells]⟩) (hf:0<=p.F) (x:BitVec 64):xY prog 55 ([.int .u64 (ui x)] ++ [.ref 0 5 0 0]) ⟨nx,xZ⟩ (.bool (qD p x)) ⟨nx,xZ⟩:=by
 unfold yA.cells at h0;refine xY.xN mixed func55 FU (by simp) λhf=>?_;simp only [simprocAttr,-ZA,↓zU,↓zD,zV,zT,zW,h0]
 (repeat refine sd ?_)
 unfold qD
 by_cases hx:x >>> p.F.toNat=0#64
 ·have ex:(x >>> p.F.toNat != 0#64)= false:=by simpa using hx
  rw [decide_eq_true hx];simp only [simprocAttr,-ZA,↓zU,↓zD,zV,zT,zW,ex];exact .same
 ·have ex:(x >>> p.F.toNat != 0#64)= true:=by simpa using hx
  rw [decide_eq_false hx];simp only [simprocAttr,-ZA,↓zU,↓zD,zV,zT,zW,ex];exact .same
theorem Lu (l:List aH):yU prog 57 [.sl 2 (YF l)] (.bool (decide (6<l.length))):=by
 refine xY.xN mixed func57 FW (by simp) λhf=>?_
 by_cases h:6<l.length
 ·have h':(6:Int)<(l.length:Int):=by omega
  rw [decide_eq_true h];simp only [simprocAttr,-ZA,↓zU,↓zD,zV,zT,zW,uP,h'];exact .same
 ·have h':¬ (6:Int)<(l.length:Int):=by omega
  rw [decide_eq_false h];simp only [simprocAttr,-ZA,↓zU,↓zD,zV,zT,zW,uP,h'];exact .same
theorem Wm (s:List gZ) (hl:s.length<=4400000000000):yU prog 63 [.agg [.sl 2 (YP s)]] (.sl 1 (rows .i64 (s.map (·.fact)))):=by
 refine xY.xN mixed func63 Fc (by simp) λhf=>?_;simp only [simprocAttr,-ZA,↓zU,↓zD,zV,zT,zW,vO]
 refine xP (λk:Nat=>[(9,.int .i64 k),(8,.int .i64 s.length),(7,.sl 2 (YP s)),(3,xB 1 1 (rows .i64 ((s.take k).map (·.fact))))]) (λk=>⟨2,yZ 1 1 (rows .i64 ((s.take k).map (·.fact)))⟩) (λk=>k<=s.length) (λk=>s.length-k) 0 (η _) ?_ ?_
 ·(refine xT.tP [] [] (by simp) (by simp) (by decide) ?_; simp only [yQ,zQ,simprocAttr,-ZA,exists_eq_left',ne_eq,zR,List.take_zero,List.map_nil,mT,wR,wS])
 intro k hk;refine xM mixed ?_
 by_cases hh:k<s.length
 ·have hd:((k:Int)<(s.length:Int)):=by omega
  have hg:=iZ s hh;have ht:(s.take (k+1)).map (·.fact)= (s.take k).map (·.fact)++ [(s.getD k zp).fact]:=by rw [zA (d:=zp) hh]; simp
  have hkl:((s.take k).map (·.fact)).length=k:=by simp; omega
  unfold gZ.row at hg;generalize (s.take k).map (·.fact)= a at hkl ht ⊢;generalize s.getD k zp=x at hg ht ⊢;simp only [simprocAttr,-ZA,↓zU,↓zD,zV,zT,zW,hd,vO,hg]
  (repeat refine sd ?_)
  refine⟨k+1,by omega,?_,by omega⟩;rw [ht]
  (refine xT.tP [(1,3)] [1] (by simp) (by simp) (by decide) ?_; simp only [yQ,zQ,simprocAttr,-ZA,exists_eq_left',ne_eq,zR])
  exact wrap_i64 (by omega)
 ·have hd:¬ ((k:Int)<(s.length:Int)):=by omega
  rw [pM (show k=s.length by omega)];simp only [simprocAttr,-ZA,↓zU,↓zD,zV,zT,zW,hd];exact .drop (by simp) (U6 (by decide) (tI _ _))
theorem Jr (s:List gZ) (hl:s.length<=4400000000000):yU prog 61 [.agg [.sl 2 (YP s)]] (.bool (!eE s)):=by
 have h1:=Wm s hl;have h2:=Js (s.map (·.fact)) (by simpa using hl);unfold eE;refine xY.xN mixed func61 Fa (by simp) λhf=>?_;simp only [simprocAttr,-ZA,↓zU,↓zD,zV,zT,zW]
 (repeat refine sd ?_)
 refine .go (cr h1) ?_;simp only [simprocAttr,-ZA,↓zU,↓zD,zV,zT,zW];refine .go (cr h2) ?_;simp only [simprocAttr,-ZA,↓zU,↓zD,zV,zT,zW];exact .dv
theorem gv (p:yA) (f:List Nd) (fr:Int):yU prog 65 [p.d,.sl 6 (zB f),.int .i64 fr] (.int .i64 (ve p f fr)):=by
 have h1:=jR f;have h2:=ao f;have h3:=Zt f p.xK.length p.F;unfold yA.d yA.cells ve;refine xY.xN mixed func65 Ff (by simp) λhf=>?_;simp only [simprocAttr,-ZA,↓zU,↓zD,zV,zT,zW]
 (repeat refine sd ?_)
 refine .go (cr h1) ?_;by_cases e1:yT f=0
 case neg=>
  have e1':(yT f != 0)= true:=by simpa using e1
  simp only [simprocAttr,-ZA,↓zU,↓zD,zV,zT,zW,e1',e1];exact .dv
 have e1':(yT f != 0)= false:=by simpa using e1
 simp only [simprocAttr,-ZA,↓zU,↓zD,zV,zT,zW,e1',e1];refine .go (cr h2) ?_;cases e2:tY .andNot .i64 (wT f) fr != 0
 case true=> simp only [simprocAttr,-ZA,↓zU,↓zD,zV,zT,zW,e2];exact .dv
 simp only [simprocAttr,-ZA,↓zU,↓zD,zV,zT,zW,e2]
 (repeat refine sd ?_)
 refine .go (cr h3) ?_
 cases e3:tU f p.xK.length p.F
 ·simp only [simprocAttr,-ZA,↓zU,↓zD,zV,zT,zW];exact .dv
 ·simp only [simprocAttr,-ZA,↓zU,↓zD,zV,zT,zW];exact .dv
theorem qL {α:Type} (f:α->Int) {l:List α} {k:Nat} {d:α} (h:k<l.length):wY f (l.drop k)= if f (l.getD k d)≠ 0 then f (l.getD k d) else wY f (l.drop (k+1)):=by rw [drop_cons (d:=d) h]; rfl
theorem OM (p:yA) (hm:p.xJ.length<=2000000) (hl:∀ s ∈ p.xJ,s.length<=4400000000000):yU prog 64 [p.d] (.int .i64 (wY (wY (nT p)) p.xJ)):=by
 have hF:=λf=>gv p f 0;have hD:p.d = .agg [.int .i64 p.F,.sl 1 (us p.init),.sl 1 (us p.xK),.sl 1 (oB p.xJ),.sl 1 (oA p.code)]:=rfl;rw [hD] at *;refine xY.xN mixed func64 Fe (by simp) λhf=>?_;simp only [simprocAttr,-ZA,↓zU,↓zD,zV,zT,zW,zX]
 (repeat refine sd ?_)
 refine xP (λk:Nat=>[(11,.int .i64 k),(10,.int .i64 p.xJ.length),(9,.sl 1 (oB p.xJ)),(1,.ref 0 5 0 0)]) (λ_=>⟨1,[(0,⟨5,[p.cells]⟩)]⟩)
  (λk=>k<=p.xJ.length/\wY (wY (nT p)) p.xJ=wY (wY (nT p)) (p.xJ.drop k)) (λk=>p.xJ.length-k) 0 ⟨η _,rfl⟩ ?_ ?_
 ·unfold yA.cells; (refine xT.same ?_; simp [xS,Fr.get])
 intro k ⟨hk,hi⟩;refine xM mixed ?_;by_cases hkl:k<p.xJ.length
 case neg=>
  have hd:¬ ((k:Int)<(p.xJ.length:Int)):=by omega
  rw [hi,γ (by omega)];simp only [simprocAttr,-ZA,↓zU,↓zD,zV,zT,zW,hd];exact .drop (by simp) (by simp [vw,wY])
 have hd:((k:Int)<(p.xJ.length:Int)):=by omega
 rw [qL (d:=[]) _ hkl] at hi;have hg:=fI p.xJ hkl;have hs:=hl _ (xL (d:=[]) hkl);generalize p.xJ.getD k []=s at hi hg hs;unfold yA.cells;simp only [simprocAttr,-ZA,↓zU,↓zD,zV,zT,zW,hd,zX,hg,vO]
 (repeat refine sd ?_)
 refine xP (λj:Nat=>[(18,.int .i64 j),(17,.int .i64 s.length),(16,.sl 2 (YP s)),(11,.int .i64 k),(10,.int .i64 p.xJ.length),(9,.sl 1 (oB p.xJ)),(1,.ref 0 5 0 0)]) (λ_=>⟨1,[(0,⟨5,[p.cells]⟩)]⟩)
  (λj=>j<=s.length/\wY (nT p) s=wY (nT p) (s.drop j)) (λj=>s.length-j) 0 ⟨η _,rfl⟩ ?_ ?_
 ·unfold yA.cells; (refine xT.tP [] [0] (by simp) (by simp) (by decide) ?_; simp only [yQ,zQ,simprocAttr,-ZA,exists_eq_left',ne_eq,zR])
 intro j ⟨hj,hi2⟩;refine xM mixed ?_;by_cases hjl:j<s.length
 case neg=>
  have hd2:¬ ((j:Int)<(s.length:Int)):=by omega
  have h0:wY (nT p) s=0:=by rw [hi2,γ (by omega)]; rfl
  rw [h0,if_neg (by simp)] at hi;unfold yA.cells;simp only [simprocAttr,-ZA,↓zU,↓zD,zV,zT,zW,hd2];refine⟨k+1,⟨by omega,hi⟩,?_,by omega⟩
  (refine xT.same ?_; simp only [xS,Fr.get,simprocAttr,-ZA,zS])
  exact wrap_i64 (by omega)
 have hd2:((j:Int)<(s.length:Int)):=by omega
 rw [qL (d:=zp) _ hjl] at hi2;have hg2:=iZ s hjl;unfold gZ.row at hg2;generalize s.getD j zp=a at hi2 hg2;have hend:nT p a≠0->wY (wY (nT p)) p.xJ=nT p a:=λh=>by rw [hi,hi2,if_pos h,if_pos h]
 unfold yA.cells;have hFa:=hF a.to
 by_cases c1:a.fact<0
 ·have e:nT p a=2:=by unfold nT; rw [if_pos (.inl c1)]
  rw [hend (by rw [e]; decide),e];simp only [simprocAttr,-ZA,↓zU,↓zD,zV,zT,zW,hd2,vO,hg2,c1]
  (repeat refine sd ?_)
  exact .dv
 by_cases c2:p.F<=a.fact
 ·have e:nT p a=2:=by unfold nT; rw [if_pos (.inr c2)]
  rw [hend (by rw [e]; decide),e];simp only [simprocAttr,-ZA,↓zU,↓zD,zV,zT,zW,hd2,vO,hg2,c1,c2]
  (repeat refine sd ?_)
  exact .dv
 have e:nT p a=ve p a.to 0:=by unfold nT; rw [if_neg (by omega)]
 rw [<- e] at hFa;simp only [simprocAttr,-ZA,↓zU,↓zD,zV,zT,zW,hd2,vO,hg2,c1,c2]
 (repeat refine sd ?_)
 refine .go (cr hFa) ?_
 by_cases c3:nT p a=0
 ·have c3':(nT p a != 0)= false:=by simpa using c3
  rw [c3,if_neg (by simp)] at hi2;simp only [simprocAttr,-ZA,↓zU,↓zD,zV,zT,zW,c3'];refine⟨j+1,⟨by omega,hi2⟩,?_,by omega⟩
  (refine xT.tP [] [0] (by simp) (by simp) (by decide) ?_; simp only [yQ,zQ,simprocAttr,-ZA,exists_eq_left',ne_eq,zR])
  exact wrap_i64 (by omega)
 ·have c3':(nT p a != 0)= true:=by simpa using c3
  rw [hend c3];simp only [simprocAttr,-ZA,↓zU,↓zD,zV,zT,zW,c3'];exact .dv
open Rs Fm Ru Kb
theorem NQ (p:yA) (sm:gM p):yU prog 17 [p.d] (.int .i64 (uN p)):=by
 have hM:=OM p;have hF:=λf=>gv p f 15
 have hlong:=Wz (σ:=⟨1,[(0,⟨5,[p.cells]⟩)]⟩) (g:=57) (caps:=[]) (c:=p.code) (f:=λl=>decide (6<l.length)) sm.code λx _=>by rw [List.append_nil]; exact xY.yH (Lu x) (by simp [D.xR,D.xD])
 have hasc:=Wy (σ:=⟨1,[(0,⟨5,[p.cells]⟩)]⟩) (g:=61) (caps:=[]) (c:=p.xJ) (f:=λs=>!eE s);have hout:=λ(h0:0<=p.F) (l:List (BitVec 64)) (hl:l.length<=1000)=>cJ (σ:=⟨1,[(0,⟨5,[p.cells]⟩)]⟩) (g:=55) (caps:=[.ref 0 5 0 0]) (c:=l) (f:=qD p) hl λx _=>KD rfl h0 x;have hai:=Jq (p.init.map ui) (by simpa using sm.init);rw [show rows .u64 (p.init.map ui)= us p.init by simp [rows,us]] at hai;have hD:p.d = .agg [.int .i64 p.F,.sl 1 (us p.init),.sl 1 (us p.xK),.sl 1 (oB p.xJ),.sl 1 (oA p.code)]:=rfl;unfold yA.cells at hlong hasc hout;rw [hD] at *;refine xY.xN mixed func17 FI (by simp) λhf=>?_
 by_cases a1:p.F<0
 ·rw [show uN p=2 by unfold uN zC; simp [a1]];simp only [simprocAttr,-ZA,↓zU,↓zD,zV,zT,zW,a1];exact .dv
 by_cases a2:8<p.F
 ·rw [show uN p=2 by unfold uN zC; simp [a2]];simp only [simprocAttr,-ZA,↓zU,↓zD,zV,zT,zW,a1,a2];exact .dv
 have hfe:zC p=if 4<p.xK.length\/16<p.init.length\/8<p.xJ.length\/p.code.any (λl=>decide (6<l.length))= true then 8 else
   if p.xK.length=0\/p.init.length=0\/p.code.length≠p.xK.length\/p.init.any (qD p)= true\/p.xK.any (qD p)= true then 3 else
   if mr p.init=false\/p.xJ.any (λs=>!eE s)= true then 9 else 0:=by
  unfold zC; rw [if_neg (by omega)]
 by_cases a3:4<p.xK.length
 ·rw [show uN p=8 by unfold uN; simp [hfe,a3]];have a3':(4:Int)<(p.xK.length:Int):=by omega
  simp only [simprocAttr,-ZA,↓zU,↓zD,zV,zT,zW,a1,a2,a3',xI];exact .dv
 have a3':¬ (4:Int)<(p.xK.length:Int):=by omega
 by_cases a4:16<p.init.length
 ·rw [show uN p=8 by unfold uN; simp [hfe,a4]];have a4':(16:Int)<(p.init.length:Int):=by omega
  simp only [simprocAttr,-ZA,↓zU,↓zD,zV,zT,zW,a1,a2,a3',a4',xI];exact .dv
 have a4':¬ (16:Int)<(p.init.length:Int):=by omega
 by_cases a5:8<p.xJ.length
 ·rw [show uN p=8 by unfold uN; simp [hfe,a5]];have a5':(8:Int)<(p.xJ.length:Int):=by omega
  simp only [simprocAttr,-ZA,↓zU,↓zD,zV,zT,zW,a1,a2,a3',a4',a5',xI,zX];exact .dv
 have a5':¬ (8:Int)<(p.xJ.length:Int):=by omega
 simp only [simprocAttr,-ZA,↓zU,↓zD,zV,zT,zW,a1,a2,a3',a4',a5',xI,zX];refine .go hlong ?_;cases a6:p.code.any λl=>decide (6<l.length)
 case true=> rw [show uN p=8 by unfold uN; simp [hfe,a6]];simp only [simprocAttr,-ZA,↓zU,↓zD,zV,zT,zW];exact .dv
 by_cases b1:p.xK.length=0
 ·rw [show uN p=3 by unfold uN; simp [hfe,a4,a5,a6,b1]];have b1':((p.xK.length:Int)== 0)= true:=by rw [b1]; rfl
  simp only [simprocAttr,-ZA,↓zU,↓zD,zV,zT,zW,xI,b1'];exact .dv
 have b1':((p.xK.length:Int)== 0)= false:=by rw [beq_eq_false_iff_ne]; omega
 by_cases b2:p.init.length=0
 ·rw [show uN p=3 by unfold uN; simp [hfe,a3,a5,a6,b2]];have b2':((p.init.length:Int)== 0)= true:=by rw [b2]; rfl
  simp only [simprocAttr,-ZA,↓zU,↓zD,zV,zT,zW,xI,b1',b2'];exact .dv
 have b2':((p.init.length:Int)== 0)= false:=by rw [beq_eq_false_iff_ne]; omega
 by_cases b3:p.code.length=p.xK.length
 case neg=>
  rw [show uN p=3 by unfold uN; simp [hfe,a3,a4,a5,a6,b3]];have b3':((p.code.length:Int) != (p.xK.length:Int))= true:=by rw [bne_iff_ne]; omega
  simp only [simprocAttr,-ZA,↓zU,↓zD,zV,zT,zW,xI,b1',b2',zG,b3'];exact .dv
 have b3':((p.code.length:Int) != (p.xK.length:Int))= false:=by rw [b3]; exact bne_self_eq_false _
 simp only [simprocAttr,-ZA,↓zU,↓zD,zV,zT,zW,xI,b1',b2',zG,b3'];refine .go (hout (by omega) p.init (by omega)) ?_;cases b4:p.init.any (qD p)
 case true=> rw [show uN p=3 by unfold uN; simp [hfe,a3,a4,a5,a6,b4]];simp only [simprocAttr,-ZA,↓zU,↓zD,zV,zT,zW];exact .dv
 simp only [simprocAttr,-ZA,↓zU,↓zD,zV,zT,zW];refine .go (hout (by omega) p.xK (by omega)) ?_;cases b5:p.xK.any (qD p)
 case true=> rw [show uN p=3 by unfold uN; simp [hfe,a3,a4,a5,a6,b5]];simp only [simprocAttr,-ZA,↓zU,↓zD,zV,zT,zW];exact .dv
 simp only [simprocAttr,-ZA,↓zU,↓zD,zV,zT,zW];refine .go (cr hai) ?_;have hau:mq (p.init.map ui)= mr p.init:=rfl;rw [hau]
 have hf2:zC p=if mr p.init=false\/p.xJ.any (λs=>!eE s)= true then 9 else 0:=by rw [hfe,if_neg (by simp [a3,a4,a5,a6]),if_neg (by simp [b1,b2,b3,b4,b5])]
 cases c1:mr p.init
 case false=> rw [show uN p=9 by unfold uN; simp [hf2,c1]];simp only [simprocAttr,-ZA,↓zU,↓zD,zV,zT,zW];exact .dv
 simp only [simprocAttr,-ZA,↓zU,↓zD,zV,zT,zW];refine .go (hasc (by omega) λx hx=>by rw [List.append_nil]; exact xY.yH (Jr x (sm.mv x hx)) (by simp [D.xR,D.xD])) ?_;cases c2:p.xJ.any (λs=>!eE s)
 case true=> rw [show uN p=9 by unfold uN; simp [hf2,c2]];simp only [simprocAttr,-ZA,↓zU,↓zD,zV,zT,zW];exact .dv
 have hf0:zC p=0:=by rw [hf2,c1,c2]; rfl
 have hch:uN p=if wY (wY (nT p)) p.xJ≠0 then wY (wY (nT p)) p.xJ else wY (wY (jG p)) p.code:=by unfold uN; rw [hf0,if_neg (by simp)]
 simp only [simprocAttr,-ZA,↓zU,↓zD,zV,zT,zW];refine .go (xY.yH (hM (by omega) sm.mv) (by simp [D.xR,D.xD])) ?_;by_cases d1:wY (wY (nT p)) p.xJ=0
 case neg=>
  have d1':(wY (wY (nT p)) p.xJ != 0)= true:=by simpa using d1
  rw [hch,if_pos d1];simp only [simprocAttr,-ZA,↓zU,↓zD,zV,zT,zW,d1'];exact .dv
 rw [hch,d1,if_neg (by simp)];simp only [simprocAttr,-ZA,↓zU,↓zD,zV,zT,zW,zG]
 refine xP (λk:Nat=>[(92,.int .i64 k),(91,.int .i64 p.code.length),(90,.sl 1 (oA p.code)),(1,.ref 0 5 0 0)]) (λ_=>⟨1,[(0,⟨5,[p.cells]⟩)]⟩)
  (λk=>k<=p.code.length/\wY (wY (jG p)) p.code=wY (wY (jG p)) (p.code.drop k)) (λk=>p.code.length-k) 0 ⟨η _,rfl⟩ ?_ ?_
 ·unfold yA.cells; (refine xT.same ?_; simp [xS,Fr.get])
 intro k ⟨hk,hi⟩;refine xM mixed ?_;by_cases hkl:k<p.code.length
 case neg=>
  have hd:¬ ((k:Int)<(p.code.length:Int)):=by omega
  rw [hi,γ (by omega)];simp only [simprocAttr,-ZA,↓zU,↓zD,zV,zT,zW,hd];exact .drop (by simp) (by simp [vw,wY])
 have hd:((k:Int)<(p.code.length:Int)):=by omega
 rw [qL (d:=[]) _ hkl] at hi;have hg:=fC p.code hkl
 have hs:(p.code.getD k []).length<=6:=by have:=ζ.1 a6 _ (xL (d:=[]) hkl);simpa using this
 generalize p.code.getD k []=s at hi hg hs;unfold yA.cells;simp only [simprocAttr,-ZA,↓zU,↓zD,zV,zT,zW,hd,zG,hg,uP]
 (repeat refine sd ?_)
 refine xP (λj:Nat=>[(98,.int .i64 j),(97,.int .i64 s.length),(96,.sl 2 (YF s)),(92,.int .i64 k),(91,.int .i64 p.code.length),(90,.sl 1 (oA p.code)),(1,.ref 0 5 0 0)]) (λ_=>⟨1,[(0,⟨5,[p.cells]⟩)]⟩)
  (λj=>j<=s.length/\wY (jG p) s=wY (jG p) (s.drop j)) (λj=>s.length-j) 0 ⟨η _,rfl⟩ ?_ ?_
 ·unfold yA.cells; (refine xT.same ?_; simp [xS,Fr.get])
 intro j ⟨hj,hi2⟩;refine xM mixed ?_;by_cases hjl:j<s.length
 case neg=>
  have hd2:¬ ((j:Int)<(s.length:Int)):=by omega
  have h0:wY (jG p) s=0:=by rw [hi2,γ (by omega)]; rfl
  rw [h0,if_neg (by simp)] at hi;unfold yA.cells;simp only [simprocAttr,-ZA,↓zU,↓zD,zV,zT,zW,hd2];refine⟨k+1,⟨by omega,hi⟩,?_,by omega⟩
  (refine xT.same ?_; simp only [xS,Fr.get,simprocAttr,-ZA,zS])
  exact wrap_i64 (by omega)
 have hd2:((j:Int)<(s.length:Int)):=by omega
 rw [qL (d:=Vb) _ hjl] at hi2;have hg2:=vl s hjl;unfold aH.row at hg2;generalize s.getD j Vb=c at hi2 hg2;have hend:jG p c≠0->wY (wY (jG p)) p.code=jG p c:=λh=>by rw [hi,hi2,if_pos h,if_pos h]
 unfold yA.cells;simp only [simprocAttr,-ZA,↓zU,↓zD,zV,zT,zW,hd2,uP,hg2]
 (repeat refine sd ?_)
 refine .go (cr (hF c.test)) ?_;by_cases e1:ve p c.test 15=0
 case neg=>
  have e1':(ve p c.test 15 != 0)= true:=by simpa using e1
  have e:jG p c=ve p c.test 15:=by unfold jG; rw [if_pos e1]
  rw [hend (by rw [e]; exact e1),e];simp only [simprocAttr,-ZA,↓zU,↓zD,zV,zT,zW,e1'];exact .dv
 have e1':(ve p c.test 15 != 0)= false:=by simpa using e1
 by_cases e2:c.mv < -1
 ·have e:jG p c=2:=by unfold jG; rw [e1,if_neg (by simp),if_pos (.inl e2)]
  rw [hend (by rw [e]; decide),e];simp only [simprocAttr,-ZA,↓zU,↓zD,zV,zT,zW,e1',e2];exact .dv
 by_cases e3:(p.xJ.length:Int)<=c.mv
 ·have e:jG p c=2:=by unfold jG; rw [e1,if_neg (by simp),if_pos (.inr e3)]
  rw [hend (by rw [e]; decide),e];simp only [simprocAttr,-ZA,↓zU,↓zD,zV,zT,zW,e1',e2,zX,e3];exact .dv
 have e:jG p c=0:=by unfold jG; rw [e1,if_neg (by simp),if_neg (by omega)]
 rw [e,if_neg (by simp)] at hi2;simp only [simprocAttr,-ZA,↓zU,↓zD,zV,zT,zW,e1',e2,zX,e3];refine⟨j+1,⟨by omega,hi2⟩,?_,by omega⟩
 (refine xT.tP [] [0] (by simp) (by simp) (by decide) ?_; simp only [yQ,zQ,simprocAttr,-ZA,exists_eq_left',ne_eq,zR])
 exact wrap_i64 (by omega)
open Rs Fm Ru Kb
theorem Lm (p:yA) (sm:gM p):yU prog 66 [p.d] (.int .i64 (zC p)):=by
 have hD:p.d = .agg [.int .i64 p.F,.sl 1 (us p.init),.sl 1 (us p.xK),.sl 1 (oB p.xJ),.sl 1 (oA p.code)]:=rfl;have h5:=sm.code;rw [hD];refine xY.xN mixed func66 Fg (by simp) λhf=>?_
 by_cases a1:p.F<0
 ·rw [show zC p=2 by unfold zC; simp [a1]];simp only [simprocAttr,-ZA,↓zU,↓zD,zV,zT,zW,a1];exact .dv
 by_cases a2:8<p.F
 ·rw [show zC p=2 by unfold zC; simp [a2]];simp only [simprocAttr,-ZA,↓zU,↓zD,zV,zT,zW,a1,a2];exact .dv
 have hfe:zC p=if 4<p.xK.length\/16<p.init.length\/8<p.xJ.length\/p.code.any (λl=>decide (6<l.length))= true then 8 else
   if p.xK.length=0\/p.init.length=0\/p.code.length≠p.xK.length\/p.init.any (qD p)= true\/p.xK.any (qD p)= true then 3 else
   if mr p.init=false\/p.xJ.any (λs=>!eE s)= true then 9 else 0:=by
  unfold zC; rw [if_neg (by omega)]
 by_cases a3:4<p.xK.length
 ·rw [show zC p=8 by simp [hfe,a3]];have a3':(4:Int)<(p.xK.length:Int):=by omega
  simp only [simprocAttr,-ZA,↓zU,↓zD,zV,zT,zW,a1,a2,a3',xI];exact .dv
 have a3':¬ (4:Int)<(p.xK.length:Int):=by omega
 by_cases a4:16<p.init.length
 ·rw [show zC p=8 by simp [hfe,a4]];have a4':(16:Int)<(p.init.length:Int):=by omega
  simp only [simprocAttr,-ZA,↓zU,↓zD,zV,zT,zW,a1,a2,a3',a4',xI];exact .dv
 have a4':¬ (16:Int)<(p.init.length:Int):=by omega
 by_cases a5:8<p.xJ.length
 ·rw [show zC p=8 by simp [hfe,a5]];have a5':(8:Int)<(p.xJ.length:Int):=by omega
  simp only [simprocAttr,-ZA,↓zU,↓zD,zV,zT,zW,a1,a2,a3',a4',a5',xI,zX];exact .dv
 have a5':¬ (8:Int)<(p.xJ.length:Int):=by omega
 simp only [simprocAttr,-ZA,↓zU,↓zD,zV,zT,zW,a1,a2,a3',a4',a5',xI,zX]
 refine xP (λk:Nat=>[(3,.int .i64 k),(1,.ref 0 5 0 0)]) (λ_=>⟨1,[(0,⟨5,[p.cells]⟩)]⟩)
  (λk=>k<=p.code.length/\p.code.any (λl=>decide (6<l.length))= (p.code.drop k).any (λl=>decide (6<l.length))) (λk=>p.code.length-k) 0 ⟨η _,rfl⟩ ?_ ?_
 ·unfold yA.cells; (refine xT.same ?_; simp [xS,Fr.get])
 intro k ⟨hk,hi⟩;refine xM mixed ?_;by_cases hkl:k<p.code.length
 case pos=>
  have hd:((k:Int)<(p.code.length:Int)):=by omega
  rw [drop_cons (d:=[]) hkl,δ] at hi;have hg:=fC p.code hkl;generalize p.code.getD k []=s at hi hg;unfold yA.cells
  by_cases h6:6<s.length
  ·have h6':(6:Int)<(s.length:Int):=by omega
   rw [decide_eq_true h6,μ] at hi;rw [show zC p=8 by simp only [hfe,hi]; simp];simp only [simprocAttr,-ZA,↓zU,↓zD,zV,zT,zW,hd,zG,hg,uP,h6']
   (repeat refine sd ?_)
   exact .dv
  ·have h6':¬ (6:Int)<(s.length:Int):=by omega
   rw [decide_eq_false h6,κ] at hi;simp only [simprocAttr,-ZA,↓zU,↓zD,zV,zT,zW,hd,zG,hg,uP,h6']
   (repeat refine sd ?_)
   refine⟨k+1,⟨by omega,hi⟩,?_,by omega⟩
   (refine xT.same ?_; simp only [xS,Fr.get,simprocAttr,-ZA,zS])
   exact wrap_i64 (by omega)
 have hd:¬ ((k:Int)<(p.code.length:Int)):=by omega
 have a6:p.code.any (λl=>decide (6<l.length))= false:=by rw [hi,γ (by omega)]; rfl
 clear hi;unfold yA.cells;simp only [simprocAttr,-ZA,↓zU,↓zD,zV,zT,zW,hd,zG]
 have hf1:zC p=if p.xK.length=0\/p.init.length=0\/p.code.length≠p.xK.length\/p.init.any (qD p)= true\/p.xK.any (qD p)= true then 3 else
   if mr p.init=false\/p.xJ.any (λs=>!eE s)= true then 9 else 0:=by rw [hfe,if_neg (by rw [a6]; simp only [not_or]; exact⟨by omega,by omega,by omega,by simp⟩)]
 by_cases b1:p.xK.length=0
 ·rw [show zC p=3 by rw [hf1,if_pos (.inl b1)]];have b1':((p.xK.length:Int)== 0)= true:=by rw [b1]; rfl
  simp only [simprocAttr,-ZA,↓zU,↓zD,zV,zT,zW,xI,b1'];exact .dv
 have b1':((p.xK.length:Int)== 0)= false:=by rw [beq_eq_false_iff_ne]; omega
 by_cases b2:p.init.length=0
 ·rw [show zC p=3 by rw [hf1,if_pos (.inr (.inl b2))]];have b2':((p.init.length:Int)== 0)= true:=by rw [b2]; rfl
  simp only [simprocAttr,-ZA,↓zU,↓zD,zV,zT,zW,xI,b1',b2'];exact .dv
 have b2':((p.init.length:Int)== 0)= false:=by rw [beq_eq_false_iff_ne]; omega
 by_cases b3:p.code.length=p.xK.length
 case neg=>
  rw [show zC p=3 by rw [hf1,if_pos (.inr (.inr (.inl b3)))]];have b3':((p.code.length:Int) != (p.xK.length:Int))= true:=by rw [bne_iff_ne]; omega
  simp only [simprocAttr,-ZA,↓zU,↓zD,zV,zT,zW,xI,b1',b2',zG,b3'];exact .dv
 have b3':((p.code.length:Int) != (p.xK.length:Int))= false:=by rw [b3]; exact bne_self_eq_false _
 simp only [simprocAttr,-ZA,↓zU,↓zD,zV,zT,zW,xI,b1',b2',zG,b3'];clear hk hkl hd
 refine xP (λk:Nat=>[(4,.int .i64 k),(1,.ref 0 5 0 0)]) (λ_=>⟨1,[(0,⟨5,[p.cells]⟩)]⟩)
  (λk=>k<=p.init.length/\p.init.any (qD p)= (p.init.drop k).any (qD p)) (λk=>p.init.length-k) 0 ⟨η _,rfl⟩ ?_ ?_
 ·unfold yA.cells; (refine xT.same ?_; simp [xS,Fr.get])
 intro k ⟨hk,hi⟩;refine xM mixed ?_;by_cases hkl:k<p.init.length
 case pos=>
  have hd:((k:Int)<(p.init.length:Int)):=by omega
  rw [drop_cons (d:=0) hkl,δ] at hi;have hg:=vX p.init hkl;generalize p.init.getD k 0=x at hi hg;unfold yA.cells
  by_cases hx:x >>> p.F.toNat=0#64
  ·have ex:(x >>> p.F.toNat != 0#64)= false:=by simpa using hx
   rw [show qD p x=false by unfold qD; rw [decide_eq_true hx]; rfl,κ] at hi;simp only [simprocAttr,-ZA,↓zU,↓zD,zV,zT,zW,hd,xI,hg,ex]
   (repeat refine sd ?_)
   refine⟨k+1,⟨by omega,hi⟩,?_,by omega⟩
   (refine xT.same ?_; simp only [xS,Fr.get,simprocAttr,-ZA,zS])
   exact wrap_i64 (by omega)
  ·have ex:(x >>> p.F.toNat != 0#64)= true:=by simpa using hx
   rw [show qD p x=true by unfold qD; rw [decide_eq_false hx]; rfl,μ] at hi;rw [show zC p=3 by rw [hf1,if_pos (.inr (.inr (.inr (.inl hi))))]];simp only [simprocAttr,-ZA,↓zU,↓zD,zV,zT,zW,hd,xI,hg,ex]
   (repeat refine sd ?_)
   exact .dv
 have hd:¬ ((k:Int)<(p.init.length:Int)):=by omega
 have b4:p.init.any (qD p)= false:=by rw [hi,γ (by omega)]; rfl
 clear hi;unfold yA.cells;simp only [simprocAttr,-ZA,↓zU,↓zD,zV,zT,zW,hd,xI];clear hk hkl hd
 refine xP (λk:Nat=>[(5,.int .i64 k),(1,.ref 0 5 0 0)]) (λ_=>⟨1,[(0,⟨5,[p.cells]⟩)]⟩)
  (λk=>k<=p.xK.length/\p.xK.any (qD p)= (p.xK.drop k).any (qD p)) (λk=>p.xK.length-k) 0 ⟨η _,rfl⟩ ?_ ?_
 ·unfold yA.cells; (refine xT.same ?_; simp [xS,Fr.get])
 intro k ⟨hk,hi⟩;refine xM mixed ?_;by_cases hkl:k<p.xK.length
 case pos=>
  have hd:((k:Int)<(p.xK.length:Int)):=by omega
  rw [drop_cons (d:=0) hkl,δ] at hi;have hg:=vX p.xK hkl;generalize p.xK.getD k 0=x at hi hg;unfold yA.cells
  by_cases hx:x >>> p.F.toNat=0#64
  ·have ex:(x >>> p.F.toNat != 0#64)= false:=by simpa using hx
   rw [show qD p x=false by unfold qD; rw [decide_eq_true hx]; rfl,κ] at hi;simp only [simprocAttr,-ZA,↓zU,↓zD,zV,zT,zW,hd,xI,hg,ex]
   (repeat refine sd ?_)
   refine⟨k+1,⟨by omega,hi⟩,?_,by omega⟩
   (refine xT.same ?_; simp only [xS,Fr.get,simprocAttr,-ZA,zS])
   exact wrap_i64 (by omega)
  ·have ex:(x >>> p.F.toNat != 0#64)= true:=by simpa using hx
   rw [show qD p x=true by unfold qD; rw [decide_eq_false hx]; rfl,μ] at hi;rw [show zC p=3 by rw [hf1,if_pos (.inr (.inr (.inr (.inr hi))))]];simp only [simprocAttr,-ZA,↓zU,↓zD,zV,zT,zW,hd,xI,hg,ex]
   (repeat refine sd ?_)
   exact .dv
 have hd:¬ ((k:Int)<(p.xK.length:Int)):=by omega
 have b5:p.xK.any (qD p)= false:=by rw [hi,γ (by omega)]; rfl
 clear hi;unfold yA.cells;simp only [simprocAttr,-ZA,↓zU,↓zD,zV,zT,zW,hd,xI];clear hk hkl hd;have hf2:zC p=if mr p.init=false\/p.xJ.any (λs=>!eE s)= true then 9 else 0:=by rw [hf1,if_neg (by simp [b1,b2,b3,b4,b5])]
 have hlm:(p.init.map ui).length=p.init.length:=by simp
 have hgm:∀ i,(p.init.map ui).getD i 0=ui (p.init.getD i 0):=λi=>by simp only [List.getD,List.getElem?_map];cases p.init[i]? <;> rfl
 refine xP (λk:Nat=>[(6,.int .i64 ((k+1:Nat):Int)),(1,.ref 0 5 0 0)]) (λ_=>⟨1,[(0,⟨5,[p.cells]⟩)]⟩)
  (λk=>k<=p.init.length/\∀ i,i<k->i+1<p.init.length->(p.init.map ui).getD i 0<(p.init.map ui).getD (i+1) 0) (λk=>p.init.length-k) 0 ⟨η _,λi hi=>absurd hi (θ _)⟩ ?_ ?_
 ·unfold yA.cells; (refine xT.same ?_; simp [xS,Fr.get])
 intro k ⟨hk,hi⟩;refine xM mixed ?_;by_cases hh:k+1<p.init.length
 case pos=>
  have hd:(((k+1:Nat):Int)<(p.init.length:Int)):=by omega
  have hw:IntKind.i64.wrap (((k+1:Nat):Int)-1)= (k:Int):=by rw [wrap_i64 (by omega)]; omega
  have hd2:((k:Int)<(p.init.length:Int)):=by omega
  have g1:=vX p.init (show k<p.init.length by omega);have g2:=vX p.init hh;have q1:=hgm k;have q2:=hgm (k+1);unfold yA.cells
  by_cases hlt:ui (p.init.getD k 0)<ui (p.init.getD (k+1) 0)
  ·have hlt2:¬ ui (p.init.getD (k+1) 0)<=ui (p.init.getD k 0):=by omega
   simp only [simprocAttr,-ZA,↓zU,↓zD,zV,zT,zW,hd,xI,hw,hd2,g1,g2,hlt2]
   (repeat refine sd ?_)
   refine⟨k+1,⟨by omega,λi h1 h2=>?_⟩,?_,by omega⟩
   ·by_cases e:i=k
    ·rw [e,q1,q2]; exact hlt
    ·exact hi i (by omega) h2
   (refine xT.same ?_; simp only [xS,Fr.get,simprocAttr,-ZA,zS])
   exact wrap_i64 (by omega)
  ·have hlt2:ui (p.init.getD (k+1) 0)<=ui (p.init.getD k 0):=by omega
   rw [show zC p=9 by rw [hf2,if_pos (.inl (gA (i:=k) (by omega) (by rw [q1,q2]; exact hlt)))]];simp only [simprocAttr,-ZA,↓zU,↓zD,zV,zT,zW,hd,xI,hw,hd2,g1,g2,hlt2]
   (repeat refine sd ?_)
   exact .dv
 have hd:¬ (((k+1:Nat):Int)<(p.init.length:Int)):=by omega
 have c1:mr p.init=true:=fX λi h=>hi i (by omega) (by omega);clear hi;unfold yA.cells;simp only [simprocAttr,-ZA,↓zU,↓zD,zV,zT,zW,hd,xI];clear hk hh hd
 refine xP (λk:Nat=>[(7,.int .i64 k),(1,.ref 0 5 0 0)]) (λ_=>⟨1,[(0,⟨5,[p.cells]⟩)]⟩)
  (λk=>k<=p.xJ.length/\p.xJ.any (λs=>!eE s)= (p.xJ.drop k).any (λs=>!eE s)) (λk=>p.xJ.length-k) 0 ⟨η _,rfl⟩ ?_ ?_
 ·unfold yA.cells; (refine xT.same ?_; simp [xS,Fr.get])
 intro k ⟨hk,hi⟩;refine xM mixed ?_;by_cases hkl:k<p.xJ.length
 case neg=>
  have hd:¬ ((k:Int)<(p.xJ.length:Int)):=by omega
  have c2:p.xJ.any (λs=>!eE s)= false:=by rw [hi,γ (by omega)]; rfl
  rw [show zC p=0 by rw [hf2,if_neg (by simp [c1,c2])]];unfold yA.cells;simp only [simprocAttr,-ZA,↓zU,↓zD,zV,zT,zW,hd,zX];exact .dv
 have hd:((k:Int)<(p.xJ.length:Int)):=by omega
 rw [drop_cons (d:=[]) hkl,δ] at hi;have hg:=fI p.xJ hkl;have hs:=sm.mv _ (xL (d:=[]) hkl);generalize p.xJ.getD k []=s at hi hg hs;have hls:(s.map (·.fact)).length=s.length:=by simp
 have hgs:∀ i,i<s.length->(s.map (·.fact)).getD i 0=(s.getD i zp).fact:=λi h=>by simp [List.getD,h]
 unfold yA.cells;simp only [simprocAttr,-ZA,↓zU,↓zD,zV,zT,zW,hd,zX]
 refine xP (λj:Nat=>[(8,.int .i64 ((j+1:Nat):Int)),(7,.int .i64 k),(1,.ref 0 5 0 0)]) (λ_=>⟨1,[(0,⟨5,[p.cells]⟩)]⟩)
  (λj=>j<=s.length/\∀ i,i<j->i+1<s.length->(s.map (·.fact)).getD i 0<(s.map (·.fact)).getD (i+1) 0) (λj=>s.length-j) 0 ⟨η _,λi hi=>absurd hi (θ _)⟩ ?_ ?_
 ·unfold yA.cells; (refine xT.same ?_; simp [xS,Fr.get])
 intro j ⟨hj,hi2⟩;refine xM mixed ?_;by_cases hh:j+1<s.length
 case neg=>
  have hd2:¬ (((j+1:Nat):Int)<(s.length:Int)):=by omega
  have c2:eE s=true:=fX λi h=>hi2 i (by omega) (by omega);rw [c2,Bool.not_true,κ] at hi;unfold yA.cells;simp only [simprocAttr,-ZA,↓zU,↓zD,zV,zT,zW,hd2,hd,zX,hg,vO]
  (repeat refine sd ?_)
  refine⟨k+1,⟨by omega,hi⟩,?_,by omega⟩
  (refine xT.same ?_; simp only [xS,Fr.get,simprocAttr,-ZA,zS])
  exact wrap_i64 (by omega)
 have hd2:(((j+1:Nat):Int)<(s.length:Int)):=by omega
 have hw:IntKind.i64.wrap (((j+1:Nat):Int)-1)= (j:Int):=by rw [wrap_i64 (by omega)]; omega
 have hd3:((j:Int)<(s.length:Int)):=by omega
 have g1:=iZ s (show j<s.length by omega);have g2:=iZ s hh;have q1:=hgs j (by omega);have q2:=hgs (j+1) hh;unfold gZ.row at g1 g2;unfold yA.cells
 by_cases hlt:(s.getD j zp).fact<(s.getD (j+1) zp).fact
 ·have hlt2:¬ (s.getD (j+1) zp).fact<=(s.getD j zp).fact:=by omega
  simp only [simprocAttr,-ZA,↓zU,↓zD,zV,zT,zW,hd2,hd,zX,hg,vO,hw,hd3,g1,g2,hlt2]
  (repeat refine sd ?_)
  refine⟨j+1,⟨by omega,λi h1 h2=>?_⟩,?_,by omega⟩
  ·by_cases e:i=j
   ·rw [e,q1,q2]; exact hlt
   ·exact hi2 i (by omega) h2
  (refine xT.same ?_; simp only [xS,Fr.get,simprocAttr,-ZA,zS])
  exact wrap_i64 (by omega)
 ·have hlt2:(s.getD (j+1) zp).fact<=(s.getD j zp).fact:=by omega
  have c2:eE s=false:=gA (i:=j) (by omega) (by rw [q1,q2]; exact hlt);rw [show zC p=9 by rw [hf2,if_pos (.inr (by rw [hi,c2]; rfl))]];simp only [simprocAttr,-ZA,↓zU,↓zD,zV,zT,zW,hd2,hd,zX,hg,vO,hw,hd3,g1,g2,hlt2]
  (repeat refine sd ?_)
  exact .dv
theorem x7 (p:yA) (f:List Nd) (fr:Int):yU prog 67 [p.d,.sl 6 (zB f),.int .i64 fr] (.int .i64 (ve p f fr)):=by
 have h1:=aj f;have h2:=ZS f;have h3:=Ug f p.xK.length p.F;unfold yA.d yA.cells ve;refine xY.xN mixed func67 Fh (by simp) λhf=>?_;simp only [simprocAttr,-ZA,↓zU,↓zD,zV,zT,zW]
 (repeat refine sd ?_)
 refine .go (cr h1) ?_;by_cases e1:yT f=0
 case neg=>
  have e1':(yT f != 0)= true:=by simpa using e1
  simp only [simprocAttr,-ZA,↓zU,↓zD,zV,zT,zW,e1',e1];exact .dv
 have e1':(yT f != 0)= false:=by simpa using e1
 simp only [simprocAttr,-ZA,↓zU,↓zD,zV,zT,zW,e1',e1];refine .go (cr h2) ?_;cases e2:tY .andNot .i64 (wT f) fr != 0
 case true=> simp only [simprocAttr,-ZA,↓zU,↓zD,zV,zT,zW,e2];exact .dv
 simp only [simprocAttr,-ZA,↓zU,↓zD,zV,zT,zW,e2]
 (repeat refine sd ?_)
 refine .go (cr h3) ?_
 cases e3:tU f p.xK.length p.F
 ·simp only [simprocAttr,-ZA,↓zU,↓zD,zV,zT,zW];exact .dv
 ·simp only [simprocAttr,-ZA,↓zU,↓zD,zV,zT,zW];exact .dv
theorem ZP (p:yA) (sm:gM p):yU prog 18 [p.d] (.int .i64 (uN p)):=by
 have hS:=Lm p sm;have hF:=λf fr=>x7 p f fr;have hD:p.d = .agg [.int .i64 p.F,.sl 1 (us p.init),.sl 1 (us p.xK),.sl 1 (oB p.xJ),.sl 1 (oA p.code)]:=rfl;rw [hD] at *;refine xY.xN mixed func18 FJ (by simp) λhf=>?_;simp only [simprocAttr,-ZA,↓zU,↓zD,zV,zT,zW]
 (repeat refine sd ?_)
 refine .go (cr hS) ?_;by_cases s0:zC p=0
 case neg=>
  have s0':(zC p != 0)= true:=by simpa using s0
  rw [show uN p=zC p by unfold uN; rw [if_pos s0]];simp only [simprocAttr,-ZA,↓zU,↓zD,zV,zT,zW,s0'];exact .dv
 have s0':(zC p != 0)= false:=by simpa using s0
 have hch:uN p=if wY (wY (nT p)) p.xJ≠0 then wY (wY (nT p)) p.xJ else wY (wY (jG p)) p.code:=by unfold uN; rw [s0,if_neg (by simp)]
 have hsm:p.xJ.length<=8/\∀ s ∈ p.code,s.length<=6:=by
  unfold zC at s0
  split at s0
  ·cases s0
  ·split at s0
   ·cases s0
   ·rename_i h;simp only [not_or] at h;refine⟨by omega,λs hs=>?_⟩;have:=ζ.1 (Bool.eq_false_iff.2 h.2.2.2) s hs;simpa using this
 simp only [simprocAttr,-ZA,↓zU,↓zD,zV,zT,zW,s0']
 refine xP (λk:Nat=>[(4,.int .i64 k),(1,.ref 0 5 0 0)]) (λ_=>⟨1,[(0,⟨5,[p.cells]⟩)]⟩)
  (λk=>k<=p.xJ.length/\wY (wY (nT p)) p.xJ=wY (wY (nT p)) (p.xJ.drop k)) (λk=>p.xJ.length-k) 0 ⟨η _,rfl⟩ ?_ ?_
 ·unfold yA.cells; (refine xT.same ?_; simp [xS,Fr.get])
 intro k ⟨hk,hi⟩;refine xM mixed ?_;by_cases hkl:k<p.xJ.length
 case pos=>
  have hd:((k:Int)<(p.xJ.length:Int)):=by omega
  rw [qL (d:=[]) _ hkl] at hi;have hg:=fI p.xJ hkl;have hs:=sm.mv _ (xL (d:=[]) hkl);generalize p.xJ.getD k []=s at hi hg hs;unfold yA.cells;simp only [simprocAttr,-ZA,↓zU,↓zD,zV,zT,zW,hd,zX]
  refine xP (λj:Nat=>[(5,.int .i64 j),(4,.int .i64 k),(1,.ref 0 5 0 0)]) (λ_=>⟨1,[(0,⟨5,[p.cells]⟩)]⟩)
   (λj=>j<=s.length/\wY (nT p) s=wY (nT p) (s.drop j)) (λj=>s.length-j) 0 ⟨η _,rfl⟩ ?_ ?_
  ·unfold yA.cells; (refine xT.same ?_; simp [xS,Fr.get])
  intro j ⟨hj,hi2⟩;refine xM mixed ?_;by_cases hjl:j<s.length
  case neg=>
   have hd2:¬ ((j:Int)<(s.length:Int)):=by omega
   have h0:wY (nT p) s=0:=by rw [hi2,γ (by omega)]; rfl
   rw [h0,if_neg (by simp)] at hi;unfold yA.cells;simp only [simprocAttr,-ZA,↓zU,↓zD,zV,zT,zW,hd2,hd,zX,hg,vO]
   (repeat refine sd ?_)
   refine⟨k+1,⟨by omega,hi⟩,?_,by omega⟩
   (refine xT.same ?_; simp only [xS,Fr.get,simprocAttr,-ZA,zS])
   exact wrap_i64 (by omega)
  have hd2:((j:Int)<(s.length:Int)):=by omega
  rw [qL (d:=zp) _ hjl] at hi2;have hg2:=iZ s hjl;unfold gZ.row at hg2;generalize s.getD j zp=a at hi2 hg2;have hend:nT p a≠0->uN p=nT p a:=λh=>by rw [hch,hi,hi2,if_pos h,if_pos h,if_pos h]
  unfold yA.cells;have hFa:=hF a.to 0
  by_cases c1:a.fact<0
  ·have e:nT p a=2:=by unfold nT; rw [if_pos (.inl c1)]
   rw [hend (by rw [e]; decide),e];simp only [simprocAttr,-ZA,↓zU,↓zD,zV,zT,zW,hd2,hd,zX,hg,vO,hg2,c1]
   (repeat refine sd ?_)
   exact .dv
  by_cases c2:p.F<=a.fact
  ·have e:nT p a=2:=by unfold nT; rw [if_pos (.inr c2)]
   rw [hend (by rw [e]; decide),e];simp only [simprocAttr,-ZA,↓zU,↓zD,zV,zT,zW,hd2,hd,zX,hg,vO,hg2,c1,c2]
   (repeat refine sd ?_)
   exact .dv
  have e:nT p a=ve p a.to 0:=by unfold nT; rw [if_neg (by omega)]
  rw [<- e] at hFa;simp only [simprocAttr,-ZA,↓zU,↓zD,zV,zT,zW,hd2,hd,zX,hg,vO,hg2,c1,c2]
  (repeat refine sd ?_)
  refine .go (cr hFa) ?_
  by_cases c3:nT p a=0
  ·have c3':(nT p a != 0)= false:=by simpa using c3
   rw [c3,if_neg (by simp)] at hi2;simp only [simprocAttr,-ZA,↓zU,↓zD,zV,zT,zW,c3'];refine⟨j+1,⟨by omega,hi2⟩,?_,by omega⟩
   (refine xT.tP [] [0] (by simp) (by simp) (by decide) ?_; simp only [yQ,zQ,simprocAttr,-ZA,exists_eq_left',ne_eq,zR])
   exact wrap_i64 (by omega)
  ·have c3':(nT p a != 0)= true:=by simpa using c3
   rw [hend c3];simp only [simprocAttr,-ZA,↓zU,↓zD,zV,zT,zW,c3'];exact .dv
 have hd:¬ ((k:Int)<(p.xJ.length:Int)):=by omega
 have d1:wY (wY (nT p)) p.xJ=0:=by rw [hi,γ (by omega)]; rfl
 rw [hch,d1,if_neg (by simp)];unfold yA.cells;simp only [simprocAttr,-ZA,↓zU,↓zD,zV,zT,zW,hd,zX];clear hk hkl hd hi
 refine xP (λk:Nat=>[(7,.int .i64 k),(1,.ref 0 5 0 0)]) (λ_=>⟨1,[(0,⟨5,[p.cells]⟩)]⟩)
  (λk=>k<=p.code.length/\wY (wY (jG p)) p.code=wY (wY (jG p)) (p.code.drop k)) (λk=>p.code.length-k) 0 ⟨η _,rfl⟩ ?_ ?_
 ·unfold yA.cells; (refine xT.same ?_; simp [xS,Fr.get])
 have hcl:=sm.code;intro k ⟨hk,hi⟩;refine xM mixed ?_;by_cases hkl:k<p.code.length
 case neg=>
  have hd:¬ ((k:Int)<(p.code.length:Int)):=by omega
  rw [hi,γ (by omega)];unfold yA.cells;simp only [simprocAttr,-ZA,↓zU,↓zD,zV,zT,zW,hd,zG];exact .drop (by simp) (by simp [vw,wY])
 have hd:((k:Int)<(p.code.length:Int)):=by omega
 rw [qL (d:=[]) _ hkl] at hi;have hg:=fC p.code hkl;have hs:=hsm.2 _ (xL (d:=[]) hkl);generalize p.code.getD k []=s at hi hg hs;unfold yA.cells;simp only [simprocAttr,-ZA,↓zU,↓zD,zV,zT,zW,hd,zG]
 refine xP (λj:Nat=>[(8,.int .i64 j),(7,.int .i64 k),(1,.ref 0 5 0 0)]) (λ_=>⟨1,[(0,⟨5,[p.cells]⟩)]⟩)
  (λj=>j<=s.length/\wY (jG p) s=wY (jG p) (s.drop j)) (λj=>s.length-j) 0 ⟨η _,rfl⟩ ?_ ?_
 ·unfold yA.cells; (refine xT.same ?_; simp [xS,Fr.get])
 intro j ⟨hj,hi2⟩;refine xM mixed ?_;by_cases hjl:j<s.length
 case neg=>
  have hd2:¬ ((j:Int)<(s.length:Int)):=by omega
  have h0:wY (jG p) s=0:=by rw [hi2,γ (by omega)]; rfl
  rw [h0,if_neg (by simp)] at hi;unfold yA.cells;simp only [simprocAttr,-ZA,↓zU,↓zD,zV,zT,zW,hd2,hd,zG,hg,uP]
  (repeat refine sd ?_)
  refine⟨k+1,⟨by omega,hi⟩,?_,by omega⟩
  (refine xT.same ?_; simp only [xS,Fr.get,simprocAttr,-ZA,zS])
  exact wrap_i64 (by omega)
 have hd2:((j:Int)<(s.length:Int)):=by omega
 rw [qL (d:=Vb) _ hjl] at hi2;have hg2:=vl s hjl;unfold aH.row at hg2;generalize s.getD j Vb=c at hi2 hg2;have hend:jG p c≠0->wY (wY (jG p)) p.code=jG p c:=λh=>by rw [hi,hi2,if_pos h,if_pos h]
 unfold yA.cells;simp only [simprocAttr,-ZA,↓zU,↓zD,zV,zT,zW,hd2,hd,zG,hg,uP,hg2]
 (repeat refine sd ?_)
 refine .go (cr (hF c.test 15)) ?_;by_cases e1:ve p c.test 15=0
 case neg=>
  have e1':(ve p c.test 15 != 0)= true:=by simpa using e1
  have e:jG p c=ve p c.test 15:=by unfold jG; rw [if_pos e1]
  rw [hend (by rw [e]; exact e1),e];simp only [simprocAttr,-ZA,↓zU,↓zD,zV,zT,zW,e1'];exact .dv
 have e1':(ve p c.test 15 != 0)= false:=by simpa using e1
 by_cases e2:c.mv < -1
 ·have e:jG p c=2:=by unfold jG; rw [e1,if_neg (by simp),if_pos (.inl e2)]
  rw [hend (by rw [e]; decide),e];simp only [simprocAttr,-ZA,↓zU,↓zD,zV,zT,zW,e1',hd,zG,hg,hd2,uP,hg2,e2]
  (repeat refine sd ?_)
  exact .dv
 by_cases e3:(p.xJ.length:Int)<=c.mv
 ·have e:jG p c=2:=by unfold jG; rw [e1,if_neg (by simp),if_pos (.inr e3)]
  rw [hend (by rw [e]; decide),e];simp only [simprocAttr,-ZA,↓zU,↓zD,zV,zT,zW,e1',hd,zG,hg,hd2,uP,hg2,e2,zX,e3]
  (repeat refine sd ?_)
  exact .dv
 have e:jG p c=0:=by unfold jG; rw [e1,if_neg (by simp),if_neg (by omega)]
 rw [e,if_neg (by simp)] at hi2;simp only [simprocAttr,-ZA,↓zU,↓zD,zV,zT,zW,e1',hd,zG,hg,hd2,uP,hg2,e2,zX,e3]
 (repeat refine sd ?_)
 refine⟨j+1,⟨by omega,hi2⟩,?_,by omega⟩
 (refine xT.same ?_; simp only [xS,Fr.get,simprocAttr,-ZA,zS])
 exact wrap_i64 (by omega)
open Rs Fm Ru Kb
namespace Kb
structure Va where
 ag:Int
 seen:List (BitVec 64)
 mv:Int
def Jd : Va:=⟨0,[],0⟩
def Va.row (c:Va):List D:=[.int .i64 c.ag,.sl 1 (us c.seen),.int .i64 c.mv]
def TQ (l:List Va):List (List D):=l.map Va.row
theorem bE (l:List Va):(TQ l).length=l.length:=by simp [TQ]
theorem Ng (l:List Va) {i:Nat} (h:i<l.length):(TQ l).getD i []=(l.getD i Jd).row:=by simp [TQ,List.getD,h]
def eo (s:List gZ):Bool:=decide (12<s.length) || s.any λa=>decide (40<a.to.length)
def p9 (s:List aH):Bool:=decide (8<s.length) || s.any λc=>decide (40<c.test.length)
def mA (p:yA) (l:List Va):Bool:=
 decide (p.init.length<=20)&& decide (p.xJ.length<=12)&& decide (p.code.length<=8)&& decide (p.xK.length<=8)&& decide (l.length<=100)&&
 !p.xJ.any eo&&!p.code.any p9&&!l.any λc=>decide (12<c.seen.length)
end Kb
theorem U1 {p:yA} {l:List Va} (h:mA p l=true):gM p:=by unfold mA at h;simp only [Bool.and_eq_true,decide_eq_true_eq,Bool.not_eq_true'] at h;refine⟨by omega,by omega,λs hs=>?_⟩;have:=ζ.1 h.1.1.2 s hs;unfold eo at this;simp only [Bool.or_eq_true,decide_eq_true_eq,not_or] at this;omega
theorem Jl (p:yA) (l:List Va):yU prog 16 [p.d,.sl 3 (TQ l)] (.bool (mA p l)):=by
 have hD:p.d = .agg [.int .i64 p.F,.sl 1 (us p.init),.sl 1 (us p.xK),.sl 1 (oB p.xJ),.sl 1 (oA p.code)]:=rfl;rw [hD];refine xY.xN mixed func16 FH (by simp) λhf=>?_
 by_cases a1:20<p.init.length
 ·have a1':(20:Int)<(p.init.length:Int):=by omega
  rw [show mA p l=false by unfold mA; rw [decide_eq_false (show ¬ p.init.length<=20 by omega)]; simp];simp only [simprocAttr,-ZA,↓zU,↓zD,zV,zT,zW,xI,a1'];exact .dv
 have a1':¬ (20:Int)<(p.init.length:Int):=by omega
 by_cases a2:12<p.xJ.length
 ·have a2':(12:Int)<(p.xJ.length:Int):=by omega
  rw [show mA p l=false by unfold mA; rw [decide_eq_false (show ¬ p.xJ.length<=12 by omega)]; simp];simp only [simprocAttr,-ZA,↓zU,↓zD,zV,zT,zW,xI,zX,a1',a2'];exact .dv
 have a2':¬ (12:Int)<(p.xJ.length:Int):=by omega
 by_cases a3:8<p.code.length
 ·have a3':(8:Int)<(p.code.length:Int):=by omega
  rw [show mA p l=false by unfold mA; rw [decide_eq_false (show ¬ p.code.length<=8 by omega)]; simp];simp only [simprocAttr,-ZA,↓zU,↓zD,zV,zT,zW,xI,zX,zG,a1',a2',a3'];exact .dv
 have a3':¬ (8:Int)<(p.code.length:Int):=by omega
 by_cases a4:8<p.xK.length
 ·have a4':(8:Int)<(p.xK.length:Int):=by omega
  rw [show mA p l=false by unfold mA; rw [decide_eq_false (show ¬ p.xK.length<=8 by omega)]; simp];simp only [simprocAttr,-ZA,↓zU,↓zD,zV,zT,zW,xI,zX,zG,a1',a2',a3',a4'];exact .dv
 have a4':¬ (8:Int)<(p.xK.length:Int):=by omega
 by_cases a5:100<l.length
 ·have a5':(100:Int)<(l.length:Int):=by omega
  rw [show mA p l=false by unfold mA; rw [decide_eq_false (show ¬ l.length<=100 by omega)]; simp];simp only [simprocAttr,-ZA,↓zU,↓zD,zV,zT,zW,xI,zX,zG,bE,a1',a2',a3',a4',a5'];exact .dv
 have a5':¬ (100:Int)<(l.length:Int):=by omega
 have hfe:mA p l=(!p.xJ.any eo&&!p.code.any p9&&!l.any λc=>decide (12<c.seen.length)):=by unfold mA;rw [decide_eq_true (show p.init.length<=20 by omega),decide_eq_true (show p.xJ.length<=12 by omega),decide_eq_true (show p.code.length<=8 by omega),decide_eq_true (show p.xK.length<=8 by omega),decide_eq_true (show l.length<=100 by omega)];rfl
 simp only [simprocAttr,-ZA,↓zU,↓zD,zV,zT,zW,xI,zX,zG,bE,a1',a2',a3',a4',a5']
 refine xP (λk:Nat=>[(5,.int .i64 k),(2,.ref 0 5 0 0),(1,.sl 3 (TQ l))]) (λ_=>⟨1,[(0,⟨5,[p.cells]⟩)]⟩)
  (λk=>k<=p.xJ.length/\p.xJ.any eo=(p.xJ.drop k).any eo) (λk=>p.xJ.length-k) 0 ⟨η _,rfl⟩ ?_ ?_
 ·unfold yA.cells; (refine xT.same ?_; simp [xS,Fr.get])
 intro k ⟨hk,hi⟩;refine xM mixed ?_;by_cases hkl:k<p.xJ.length
 case pos=>
  have hd:((k:Int)<(p.xJ.length:Int)):=by omega
  rw [drop_cons (d:=[]) hkl,δ] at hi;have hg:=fI p.xJ hkl;generalize p.xJ.getD k []=s at hi hg;have hend:eo s=true->mA p l=false:=λh=>by rw [hfe,hi,h]; rfl
  unfold yA.cells
  by_cases c1:12<s.length
  ·have c1':(12:Int)<(s.length:Int):=by omega
   rw [hend (by unfold eo; rw [decide_eq_true c1,μ])];simp only [simprocAttr,-ZA,↓zU,↓zD,zV,zT,zW,hd,zX,hg,vO,c1']
   (repeat refine sd ?_)
   exact .dv
  have c1':¬ (12:Int)<(s.length:Int):=by omega
  have hb:eo s=s.any λa=>decide (40<a.to.length):=by unfold eo; rw [decide_eq_false c1,κ]
  simp only [simprocAttr,-ZA,↓zU,↓zD,zV,zT,zW,hd,zX,hg,vO,c1']
  (repeat refine sd ?_)
  refine xP (λj:Nat=>[(6,.int .i64 j),(5,.int .i64 k),(2,.ref 0 5 0 0),(1,.sl 3 (TQ l))]) (λ_=>⟨1,[(0,⟨5,[p.cells]⟩)]⟩)
   (λj=>j<=s.length/\(s.any λa=>decide (40<a.to.length))= (s.drop j).any λa=>decide (40<a.to.length)) (λj=>s.length-j) 0 ⟨η _,rfl⟩ ?_ ?_
  ·unfold yA.cells; (refine xT.same ?_; simp [xS,Fr.get])
  intro j ⟨hj,hi2⟩;refine xM mixed ?_;by_cases hjl:j<s.length
  case neg=>
   have hd2:¬ ((j:Int)<(s.length:Int)):=by omega
   rw [γ (by omega),ε] at hi2;rw [hb,hi2,κ] at hi;unfold yA.cells;simp only [simprocAttr,-ZA,↓zU,↓zD,zV,zT,zW,hd2,hd,zX,hg,vO]
   (repeat refine sd ?_)
   refine⟨k+1,⟨by omega,hi⟩,?_,by omega⟩
   (refine xT.same ?_; simp only [xS,Fr.get,simprocAttr,-ZA,zS])
   exact wrap_i64 (by omega)
  have hd2:((j:Int)<(s.length:Int)):=by omega
  rw [drop_cons (d:=zp) hjl,δ] at hi2;have hg2:=iZ s hjl;unfold gZ.row at hg2;generalize s.getD j zp=a at hi2 hg2;unfold yA.cells
  by_cases c2:40<a.to.length
  ·have c2':(40:Int)<(a.to.length:Int):=by omega
   rw [hend (by rw [hb,hi2,decide_eq_true c2,μ])];simp only [simprocAttr,-ZA,↓zU,↓zD,zV,zT,zW,hd2,hd,zX,hg,vO,hg2,xG,c2']
   (repeat refine sd ?_)
   exact .dv
  have c2':¬ (40:Int)<(a.to.length:Int):=by omega
  rw [decide_eq_false c2,κ] at hi2;simp only [simprocAttr,-ZA,↓zU,↓zD,zV,zT,zW,hd2,hd,zX,hg,vO,hg2,xG,c2']
  (repeat refine sd ?_)
  refine⟨j+1,⟨by omega,hi2⟩,?_,by omega⟩
  (refine xT.same ?_; simp only [xS,Fr.get,simprocAttr,-ZA,zS])
  exact wrap_i64 (by omega)
 have hd:¬ ((k:Int)<(p.xJ.length:Int)):=by omega
 rw [γ (by omega),ε] at hi;rw [hi] at hfe;clear hk hkl hi;unfold yA.cells;simp only [simprocAttr,-ZA,↓zU,↓zD,zV,zT,zW,hd,zX];clear hd
 refine xP (λk:Nat=>[(7,.int .i64 k),(2,.ref 0 5 0 0),(1,.sl 3 (TQ l))]) (λ_=>⟨1,[(0,⟨5,[p.cells]⟩)]⟩)
  (λk=>k<=p.code.length/\p.code.any p9=(p.code.drop k).any p9) (λk=>p.code.length-k) 0 ⟨η _,rfl⟩ ?_ ?_
 ·unfold yA.cells; (refine xT.same ?_; simp [xS,Fr.get])
 intro k ⟨hk,hi⟩;refine xM mixed ?_;by_cases hkl:k<p.code.length
 case pos=>
  have hd:((k:Int)<(p.code.length:Int)):=by omega
  rw [drop_cons (d:=[]) hkl,δ] at hi;have hg:=fC p.code hkl;generalize p.code.getD k []=s at hi hg;have hend:p9 s=true->mA p l=false:=λh=>by rw [hfe,hi,h]; rfl
  unfold yA.cells
  by_cases c1:8<s.length
  ·have c1':(8:Int)<(s.length:Int):=by omega
   rw [hend (by unfold p9; rw [decide_eq_true c1,μ])];simp only [simprocAttr,-ZA,↓zU,↓zD,zV,zT,zW,hd,zG,hg,uP,c1']
   (repeat refine sd ?_)
   exact .dv
  have c1':¬ (8:Int)<(s.length:Int):=by omega
  have hb:p9 s=s.any λa=>decide (40<a.test.length):=by unfold p9; rw [decide_eq_false c1,κ]
  simp only [simprocAttr,-ZA,↓zU,↓zD,zV,zT,zW,hd,zG,hg,uP,c1']
  (repeat refine sd ?_)
  refine xP (λj:Nat=>[(8,.int .i64 j),(7,.int .i64 k),(2,.ref 0 5 0 0),(1,.sl 3 (TQ l))]) (λ_=>⟨1,[(0,⟨5,[p.cells]⟩)]⟩)
   (λj=>j<=s.length/\(s.any λa=>decide (40<a.test.length))= (s.drop j).any λa=>decide (40<a.test.length)) (λj=>s.length-j) 0 ⟨η _,rfl⟩ ?_ ?_
  ·unfold yA.cells; (refine xT.same ?_; simp [xS,Fr.get])
  intro j ⟨hj,hi2⟩;refine xM mixed ?_;by_cases hjl:j<s.length
  case neg=>
   have hd2:¬ ((j:Int)<(s.length:Int)):=by omega
   rw [γ (by omega),ε] at hi2;rw [hb,hi2,κ] at hi;unfold yA.cells;simp only [simprocAttr,-ZA,↓zU,↓zD,zV,zT,zW,hd2,hd,zG,hg,uP]
   (repeat refine sd ?_)
   refine⟨k+1,⟨by omega,hi⟩,?_,by omega⟩
   (refine xT.same ?_; simp only [xS,Fr.get,simprocAttr,-ZA,zS])
   exact wrap_i64 (by omega)
  have hd2:((j:Int)<(s.length:Int)):=by omega
  rw [drop_cons (d:=Vb) hjl,δ] at hi2;have hg2:=vl s hjl;unfold aH.row at hg2;generalize s.getD j Vb=a at hi2 hg2;unfold yA.cells
  by_cases c2:40<a.test.length
  ·have c2':(40:Int)<(a.test.length:Int):=by omega
   rw [hend (by rw [hb,hi2,decide_eq_true c2,μ])];simp only [simprocAttr,-ZA,↓zU,↓zD,zV,zT,zW,hd2,hd,zG,hg,uP,hg2,xG,c2']
   (repeat refine sd ?_)
   exact .dv
  have c2':¬ (40:Int)<(a.test.length:Int):=by omega
  rw [decide_eq_false c2,κ] at hi2;simp only [simprocAttr,-ZA,↓zU,↓zD,zV,zT,zW,hd2,hd,zG,hg,uP,hg2,xG,c2']
  (repeat refine sd ?_)
  refine⟨j+1,⟨by omega,hi2⟩,?_,by omega⟩
  (refine xT.same ?_; simp only [xS,Fr.get,simprocAttr,-ZA,zS])
  exact wrap_i64 (by omega)
 have hd:¬ ((k:Int)<(p.code.length:Int)):=by omega
 rw [γ (by omega),ε] at hi;rw [hi] at hfe;clear hk hkl hi;unfold yA.cells;simp only [simprocAttr,-ZA,↓zU,↓zD,zV,zT,zW,hd,zG];clear hd
 refine xP (λk:Nat=>[(9,.int .i64 k),(1,.sl 3 (TQ l))]) (λ_=>⟨1,[(0,⟨5,[p.cells]⟩)]⟩)
  (λk=>k<=l.length/\(l.any λc=>decide (12<c.seen.length))= (l.drop k).any λc=>decide (12<c.seen.length)) (λk=>l.length-k) 0 ⟨η _,rfl⟩ ?_ ?_
 ·unfold yA.cells; (refine xT.same ?_; simp [xS,Fr.get])
 intro k ⟨hk,hi⟩;refine xM mixed ?_;by_cases hkl:k<l.length
 case pos=>
  have hd:((k:Int)<(l.length:Int)):=by omega
  rw [drop_cons (d:=Jd) hkl,δ] at hi;have hg:=Ng l hkl;unfold Va.row at hg;generalize l.getD k Jd=s at hi hg;unfold yA.cells
  by_cases c1:12<s.seen.length
  ·have c1':(12:Int)<(s.seen.length:Int):=by omega
   rw [show mA p l=false by rw [hfe,hi,decide_eq_true c1]; rfl];simp only [simprocAttr,-ZA,↓zU,↓zD,zV,zT,zW,hd,bE,hg,xI,c1']
   (repeat refine sd ?_)
   exact .dv
  have c1':¬ (12:Int)<(s.seen.length:Int):=by omega
  rw [decide_eq_false c1,κ] at hi;simp only [simprocAttr,-ZA,↓zU,↓zD,zV,zT,zW,hd,bE,hg,xI,c1']
  (repeat refine sd ?_)
  refine⟨k+1,⟨by omega,hi⟩,?_,by omega⟩
  (refine xT.same ?_; simp only [xS,Fr.get,simprocAttr,-ZA,zS])
  exact wrap_i64 (by omega)
 have hd:¬ ((k:Int)<(l.length:Int)):=by omega
 rw [γ (by omega),ε] at hi;rw [hfe,hi];unfold yA.cells;simp only [simprocAttr,-ZA,↓zU,↓zD,zV,zT,zW,hd,bE];exact .dv
end Go.Pd
