/- Part F18. -/
import Derived.Test.YtccobgpcnfjbhaaZtF12
import Derived.Test.YtccobgpcnfjbhaaZtX9
set_option linter.unusedSectionVars false
set_option linter.unusedVariables false
set_option linter.unusedSimpArgs false
set_option linter.defProp false
set_option maxRecDepth 20000
set_option maxHeartbeats 1000000
open Go.Proofs.Try
open List renaming mem_range->γ,mem_map->δ,drop_eq_nil_of_le->ε,any_eq_false->ζ,length_range->η,mem_cons->θ,ext_getElem->κ,length_map->μ,mem_cons_of_mem->ν,map_congr_left->ξ,any_cons->ο,getElem_range->π,getElem_set->υ,getElem_map->χ,cons_append->ω
open Nat renaming zero_le->Aa,mul_comm->Ab,div_eq_of_lt->Ac,mul_add_div->Ad,le_refl->Ae
open Int renaming eq_ofNat_of_zero_le->Af,toNat_natCast->Ag
open Bool renaming or_eq_false_iff->Ah,not_eq_false'->Ai
namespace Go.Pd
open Go Go.Proofs
open Rs Fm
namespace Fm
end Fm
open Rs Fm
namespace Fm
end Fm
open Rs Fm
namespace Fm
def TA (f:List Nd):Prop:=∀ k,k<f.length->wL (f.getD k nG) k=0
theorem T9 (o:List Nd):TA (yL o):=gV o _
end Fm
section
open Rs Fm
namespace Fm
end Fm
end
section
open Rs Fm
namespace Fm
end Fm
end
open Rs Fm
namespace Fm
end Fm
open Rs Fm
namespace Fm
end Fm
section
open Rs Fm
end
section
open Rs Fm
open Rs Fm
end
section
open Rs Fm
namespace Fm
end Fm
end
section
open Rs Fm
namespace Fm
end Fm
end
section
open Rs Fm
namespace Fm
end Fm
end
section
open Rs Fm
open Rs Fm
end
open Rs Fm
namespace Fm
theorem n7 {p:Nd} {k:Nat} (h:wL p k=0):((xS p.op).1.x=true->0<=p.x/\p.x.toNat<k)/\ ((xS p.op).1.y=true->0<=p.y/\p.y.toNat<k)/\ ((xS p.op).1.x=false->p.x=0)/\ ((xS p.op).1.y=false->p.y=0):=by
 obtain⟨h1,h2⟩:=iQ h;rw [qX] at h;obtain⟨_,h3,h4,_⟩:=h
 refine⟨λhx=>?_,λhy=>?_,λhx=>?_,λhy=>?_⟩
 ·have:=h1 hx; omega
 ·have:=h2 hy; omega
 ·rw [hx] at h3; simpa [yE] using h3
 ·rw [hy] at h4; simpa [yE] using h4
end Fm
open Rs Fm
namespace Fm
end Fm
section
open Rs Fm
namespace Fm
end Fm
end
section
open Rs Fm
namespace Fm
end Fm
end
section
open Rs Fm
namespace Fm
end Fm
end
section
open Rs Fm
namespace Fm
end Fm
end
section
open Rs Fm
namespace Fm
end Fm
end
end Go.Pd

/- Part S1. -/
namespace Go.Pd
open Go Go.Proofs
open BitVec renaming isValue -> ZA
namespace Ru
structure xC where
 loc:List (List Int)
 aB:List (BitVec 64)
structure vI where
 ag:Int
 fa:Int
 ln:Int
 rs:List xC
def xC.row (r:xC):List D:=[.sl 1 (rl r.loc),.sl 1 (us r.aB)]
def uR (l:List xC):List (List D):=l.map xC.row
def vI.cells (s:vI):List D:=[.int .i64 s.ag,.int .i64 s.fa,.int .i64 s.ln,.sl 2 (uR s.rs)]
def vI.d (s:vI):D:=.agg s.cells
def pV : xC:=⟨[],[]⟩
theorem zB (l:List xC):(uR l).length=l.length:=by simp [uR]
theorem oN (l:List xC) {i:Nat} (h:i<l.length):(uR l).getD i []=(l.getD i pV).row:=by simp [uR,List.getD,h]
def jt {α:Type} (f:α->Bool):List α->Int->Int
 | [],_=>-1
 | x :: r,i=>if f x=true then i else jt f r (i+1)
theorem vn {α:Type} {f:α->Bool}:∀ {c:List α} {i:Int},0<=i->(0<=jt f c i ↔ c.any f=true)
 | [],i,_=>by simp [jt]
 | x :: r,i,h=>by
  unfold jt
  by_cases hx:f x=true
  ·rw [if_pos hx,ο,hx]; simp [h]
  ·rw [if_neg hx,vn (by omega),ο]; simp [hx]
def kD (s:vI) (r:xC):Bool:=!decide ((r.loc.length:Int)= s.ln) || !decide ((r.aB.length:Int)= s.ln) || r.loc.any λl=>!decide ((l.length:Int)= s.ag)
def tv (s:vI) (r:xC):Bool:=r.aB.any λf=>!decide (f >>> s.fa.toNat=0#64)
def kQ (s:vI):Int:=
 if s.ag<0\/4<s.ag\/s.fa<0\/8<s.fa\/s.ln<1\/16<s.ln then 2 else
 if 64<(s.rs.length:Int)\/512<(s.rs.length:Int)* s.ln then 8 else
 if s.rs.length=0 then 3 else if s.rs.any (kD s)= true then 3 else if s.rs.any (tv s)= true then 2 else 0
end Ru
open Ru
theorem Ub {σ:St} {g:FuncId} {caps:List D} {f:BitVec 64->Bool} {c:List (BitVec 64)} (hl:c.length<=1000) (h:∀ x ∈ c,xW prog g ([.int .u64 (ui x)]++caps) σ (.bool (f x)) σ):xW prog 119 [.sl 1 (us c),.fn g caps] σ (.int .i64 (jt f c 0)) σ:=by
 refine zJ func119 R7 λhf=>?_;refine yF gW ?_
 refine zC (λk:Nat=>[(8,.int .i64 k),(7,.int .i64 c.length),(1,.fn g caps),(0,.sl 1 (us c))]) (λ_=>σ) (λk=>k<=c.length/\jt f c 0=jt f (c.drop k) k) (λk=>c.length-k) 0 ⟨Aa _,rfl⟩ ?_ ?_
 ·exact sV
 intro k ⟨hk,hi⟩;refine wZ mixed ?_
 by_cases hh:k<c.length
 ·have hd:((k:Int)<(c.length:Int)):=by omega
  rw [drop_cons (d:=0) hh,jt] at hi;simp only [simprocAttr,-ZA,↓zU,↓zD,zV,zT,zW,hd,gW,Ym _ hh]
  (repeat refine sd ?_)
  refine .go (h _ (zH hh)) ?_
  cases hx:f (c.getD k 0)
  ·rw [hx,if_neg (by simp)] at hi;refine yQ ?_;refine⟨k+1,⟨by omega,hi⟩,?_,by omega⟩;exact zf
  ·rw [hx,if_pos rfl] at hi;refine yQ ?_;rw [hi];exact .same
 ·have hd:¬ ((k:Int)<(c.length:Int)):=by omega
  rw [ε (by omega),jt] at hi;refine yF hd ?_;rw [hi];exact .same
theorem fh {σ:St} {g:FuncId} {caps:List D} {f:BitVec 64->Bool} {c:List (BitVec 64)} (hl:c.length<=1000) (h:∀ x ∈ c,xW prog g ([.int .u64 (ui x)]++caps) σ (.bool (f x)) σ):xW prog 70 [.sl 1 (us c),.fn g caps] σ (.bool (c.any f)) σ:=by
 refine zJ func70 Mc λhf=>?_;refine yQ ?_;refine .go (Ub hl h) ?_;have hx:=vn (f:=f) (c:=c) (i:=0) (Int.le_refl 0)
 cases ha:c.any f
 ·have h1:¬ 0<=jt f c 0:=λy=>by rw [hx.1 y] at ha; cases ha
  refine yF h1 ?_;exact .same
 ·have h1:=hx.2 ha;refine yF h1 ?_;exact .same
theorem Ua {σ:St} {g:FuncId} {caps:List D} {f:List Int->Bool} {l:List (List Int)} (hl:l.length<=1000) (h:∀ x ∈ l,xW prog g ([.sl 1 (rows .i64 x)]++caps) σ (.bool (f x)) σ):xW prog 118 [.sl 1 (rl l),.fn g caps] σ (.int .i64 (jt f l 0)) σ:=by
 refine zJ func118 R6 λhf=>?_;refine yF pB ?_
 refine zC (λk:Nat=>[(8,.int .i64 k),(7,.int .i64 l.length),(1,.fn g caps),(0,.sl 1 (rl l))]) (λ_=>σ) (λk=>k<=l.length/\jt f l 0=jt f (l.drop k) k) (λk=>l.length-k) 0 ⟨Aa _,rfl⟩ ?_ ?_
 ·exact sV
 intro k ⟨hk,hi⟩;refine wZ mixed ?_
 by_cases hh:k<l.length
 ·have hd:((k:Int)<(l.length:Int)):=by omega
  rw [drop_cons (d:=[]) hh,jt] at hi;simp only [simprocAttr,-ZA,↓zU,↓zD,zV,zT,zW,hd,pB,wu _ hh]
  (repeat refine sd ?_)
  refine .go (h _ (zH hh)) ?_
  cases hx:f (l.getD k [])
  ·rw [hx,if_neg (by simp)] at hi;refine yQ ?_;refine⟨k+1,⟨by omega,hi⟩,?_,by omega⟩;exact zf
  ·rw [hx,if_pos rfl] at hi;refine yQ ?_;rw [hi];exact .same
 ·have hd:¬ ((k:Int)<(l.length:Int)):=by omega
  rw [ε (by omega),jt] at hi;refine yF hd ?_;rw [hi];exact .same
theorem fg {σ:St} {g:FuncId} {caps:List D} {f:List Int->Bool} {l:List (List Int)} (hl:l.length<=1000) (h:∀ x ∈ l,xW prog g ([.sl 1 (rows .i64 x)]++caps) σ (.bool (f x)) σ):xW prog 68 [.sl 1 (rl l),.fn g caps] σ (.bool (l.any f)) σ:=by
 refine zJ func68 Ma λhf=>?_;refine yQ ?_;refine .go (Ua hl h) ?_;have hx:=vn (f:=f) (c:=l) (i:=0) (Int.le_refl 0)
 cases ha:l.any f
 ·have h1:¬ 0<=jt f l 0:=λy=>by rw [hx.1 y] at ha; cases ha
  refine yF h1 ?_;exact .same
 ·have h1:=hx.2 ha;refine yF h1 ?_;exact .same
theorem SH {nx:Nat} {xY:List (Nat × Ob)} {s:vI} (h0:St.look xY 0=some ⟨4,[s.cells]⟩) (x:List Int):xW prog 69 ([.sl 1 (rows .i64 x)] ++ [.ref 0 4 0 0]) ⟨nx,xY⟩ (.bool (!decide ((x.length:Int)= s.ag))) ⟨nx,xY⟩:=by refine zJ func69 Mb λhf=>?_;unfold vI.cells at h0;refine qV h0 ?_;rw [show ((x.length:Int) != s.ag)= !decide ((x.length:Int)= s.ag) by rw [bne]; congr 1];exact .same
theorem Qd {nx:Nat} {xY:List (Nat × Ob)} {s:vI} (h0:St.look xY 0=some ⟨4,[s.cells]⟩) (hf:0<=s.fa) (x:BitVec 64):xW prog 71 ([.int .u64 (ui x)] ++ [.ref 0 4 0 0]) ⟨nx,xY⟩ (.bool (!decide (x >>> s.fa.toNat=0#64))) ⟨nx,xY⟩:=by refine zJ func71 Me λhf=>?_;unfold vI.cells at h0;refine qV h0 ?_;rw [show (x >>> s.fa.toNat != 0#64)= !decide (x >>> s.fa.toNat=0#64) by rw [bne]; congr 1];exact .same
theorem ar (s:vI):xK prog 35 [s.d] (.int .i64 (kQ s)):=by
 have hD:s.d = .agg [.int .i64 s.ag,.int .i64 s.fa,.int .i64 s.ln,.sl 2 (uR s.rs)]:=rfl;rw [hD];refine zJ func35 MP λhf=>?_
 by_cases a1:s.ag<0
 ·rw [show kQ s=2 by unfold kQ; rw [if_pos (.inl a1)]];refine yF a1 ?_;exact .dv
 by_cases a2:4<s.ag
 ·rw [show kQ s=2 by unfold kQ; rw [if_pos (by omega)]];refine mX a1 a2 ?_;exact .dv
 by_cases a3:s.fa<0
 ·rw [show kQ s=2 by unfold kQ; rw [if_pos (by omega)]];refine jl a1 a2 a3 ?_;exact .dv
 by_cases a4:8<s.fa
 ·rw [show kQ s=2 by unfold kQ; rw [if_pos (by omega)]];refine WV a1 a2 a3 a4 ?_;exact .dv
 by_cases a5:s.ln<1
 ·rw [show kQ s=2 by unfold kQ; rw [if_pos (by omega)]];refine RR a1 a2 a3 a4 a5 ?_;exact .dv
 by_cases a6:16<s.ln
 ·rw [show kQ s=2 by unfold kQ; rw [if_pos (by omega)]];refine O8 a1 a2 a3 a4 a5 a6 ?_;exact .dv
 have e0:kQ s=if 64<(s.rs.length:Int)\/512<(s.rs.length:Int)* s.ln then 8 else
  if s.rs.length=0 then 3 else if s.rs.any (kD s)= true then 3 else if s.rs.any (tv s)= true then 2 else 0:=by
  unfold kQ; rw [if_neg (by omega)]
 by_cases b1:64<(s.rs.length:Int)
 ·rw [e0,if_pos (.inl b1)];refine O9 a1 a2 a3 a4 a5 a6 zB b1 ?_;exact .dv
 have hm:(s.rs.length:Int)* s.ln<=64*16:=Int.mul_le_mul (by omega) (by omega) (by omega) (by omega);have hm0:0<=(s.rs.length:Int)* s.ln:=Int.mul_nonneg (by omega) (by omega);have hw:IntKind.i64.wrap ((s.rs.length:Int)* s.ln)= (s.rs.length:Int)* s.ln:=wrap_i64 (by omega)
 by_cases b2:512<(s.rs.length:Int)* s.ln
 ·rw [e0,if_pos (.inr b2)];refine QX a1 a2 a3 a4 a5 a6 zB b1 hw b2 ?_;exact .dv
 rw [e0,if_neg (by omega)]
 by_cases b3:s.rs.length=0
 ·rw [if_pos b3];have b3':((s.rs.length:Int)== 0)= true:=by rw [b3]; rfl
  refine Tx a1 a2 a3 a4 a5 a6 zB b1 hw b2 b3' ?_;exact .dv
 rw [if_neg b3];have b3':((s.rs.length:Int)== 0)= false:=by rw [beq_eq_false_iff_ne]; omega
 refine Tx a1 a2 a3 a4 a5 a6 zB b1 hw b2 b3' ?_
 refine zC (λk:Nat=>[(55,.int .i64 k),(54,.int .i64 s.rs.length),(53,.sl 2 (uR s.rs)),(1,.ref 0 4 0 0)]) (λ_=>⟨1,[(0,⟨4,[[.int .i64 s.ag,.int .i64 s.fa,.int .i64 s.ln,.sl 2 (uR s.rs)]]⟩)]⟩)
  (λk=>k<=s.rs.length/\s.rs.any (kD s)= (s.rs.drop k).any (kD s)) (λk=>s.rs.length-k) 0 ⟨Aa _,rfl⟩ ?_ ?_
 ·exact sV
 intro k ⟨hk,hi⟩;refine wZ mixed ?_;by_cases hkl:k<s.rs.length
 case neg=>
  have hd:¬ ((k:Int)<(s.rs.length:Int)):=by omega
  rw [ε (by omega),List.any_nil] at hi;rw [if_neg (by rw [hi]; simp)];refine mX hd zB ?_
  refine zC (λk:Nat=>[(83,.int .i64 k),(82,.int .i64 s.rs.length),(81,.sl 2 (uR s.rs)),(1,.ref 0 4 0 0)]) (λ_=>⟨1,[(0,⟨4,[[.int .i64 s.ag,.int .i64 s.fa,.int .i64 s.ln,.sl 2 (uR s.rs)]]⟩)]⟩)
   (λk=>k<=s.rs.length/\s.rs.any (tv s)= (s.rs.drop k).any (tv s)) (λk=>s.rs.length-k) 0 ⟨Aa _,rfl⟩ ?_ ?_
  ·exact sV
  intro k ⟨hk,hv⟩;refine wZ mixed ?_;by_cases hkl:k<s.rs.length
  case neg=>
   have hd:¬ ((k:Int)<(s.rs.length:Int)):=by omega
   rw [ε (by omega),List.any_nil] at hv;rw [if_neg (by rw [hv]; simp)];refine yF hd ?_;exact .dv
  have hd:((k:Int)<(s.rs.length:Int)):=by omega
  rw [drop_cons (d:=pV) hkl,ο] at hv
  have hnb:kD s (s.rs.getD k pV)= false:=by have:=ζ.1 hi _ (zH (d:=pV) hkl);simpa using this
  have hg:=oN s.rs hkl;generalize s.rs.getD k pV=r at hg hv hnb
  have hfl:r.aB.length<=1000:=by simp only [kD,Ah,Ai,decide_eq_true_eq] at hnb;omega
  have hc:=fh (σ:=⟨2,[(1,⟨2,[r.row]⟩),(0,⟨4,[s.cells]⟩)]⟩) (g:=71) (caps:=[.ref 0 4 0 0]) (c:=r.aB) (f:=λf=>!decide (f >>> s.fa.toNat=0#64)) hfl λx _=>Qd rfl (by omega) x;simp only [vI.cells,xC.row] at hc;simp only [simprocAttr,-ZA,↓zU,↓zD,zV,zT,zW,hd,zB,hg,xC.row]
  (repeat refine sd ?_)
  refine .go hc ?_
  cases hb:r.aB.any λf=>!decide (f >>> s.fa.toNat=0#64)
  ·refine yQ ?_
   refine⟨k+1,⟨by omega,?_⟩,?_,by omega⟩
   ·rw [hv,show tv s r=false from hb,Bool.false_or]
   exact RK [] [0]
  ·rw [if_pos (by rw [hv,show tv s r=true from hb,Bool.true_or])];refine yQ ?_;exact .dv
 have hd:((k:Int)<(s.rs.length:Int)):=by omega
 rw [drop_cons (d:=pV) hkl,ο] at hi;have hg:=oN s.rs hkl;generalize s.rs.getD k pV=r at hg hi;have hend:kD s r=true->s.rs.any (kD s)= true:=λh=>by rw [hi,h,Bool.true_or]
 by_cases c1:(r.loc.length:Int)= s.ln
 case neg=>
  have e1:((r.loc.length:Int) != s.ln)= true:=by simpa using c1
  rw [if_pos (hend (by unfold kD; simp [c1]))];simp only [simprocAttr,-ZA,↓zU,↓zD,zV,zT,zW,hd,zB,hg,xC.row,pB,e1]
  (repeat refine sd ?_)
  exact .dv
 have e1:((r.loc.length:Int) != s.ln)= false:=by simpa using c1
 by_cases c2:(r.aB.length:Int)= s.ln
 case neg=>
  have e2:((r.aB.length:Int) != s.ln)= true:=by simpa using c2
  rw [if_pos (hend (by unfold kD; simp [c2]))];simp only [simprocAttr,-ZA,↓zU,↓zD,zV,zT,zW,hd,zB,hg,xC.row,pB,e1,gW,e2]
  (repeat refine sd ?_)
  exact .dv
 have e2:((r.aB.length:Int) != s.ln)= false:=by simpa using c2
 have hc:=fg (σ:=⟨2,[(1,⟨2,[r.row]⟩),(0,⟨4,[s.cells]⟩)]⟩) (g:=69) (caps:=[.ref 0 4 0 0]) (l:=r.loc) (f:=λl=>!decide ((l.length:Int)= s.ag)) (by omega) λx _=>SH rfl x;simp only [vI.cells,xC.row] at hc;have hbf:kD s r=r.loc.any λl=>!decide ((l.length:Int)= s.ag):=by unfold kD; simp [c1,c2]
 simp only [simprocAttr,-ZA,↓zU,↓zD,zV,zT,zW,hd,zB,hg,xC.row,pB,e1,gW,e2]
 (repeat refine sd ?_)
 refine .go hc ?_;rw [<- hbf]
 cases hb:kD s r
 ·refine yQ ?_
  refine⟨k+1,⟨by omega,?_⟩,?_,by omega⟩
  ·rw [hi,hb,Bool.false_or]
  exact RK [] [0]
 ·rw [if_pos (hend hb)];refine yQ ?_;exact .dv
section
open Ru
end
section
open Ru
theorem jQ {nx n key sz:Nat} {xY:List (Nat × Ob)} {xZ:List (List D)} (hs:0<sz) (hp:∀ e ∈ xZ,D.xJ e=true) (h:St.look xY key=vF sz xZ) {ρ:Nat->Nat}:vw ⟨nx,xY⟩ ⟨n,[]⟩ ρ (yH key sz xZ) (.sl sz xZ):=by
 cases xZ with
 | nil=>simp [yH,vw]
 | cons e r=> simp only [yH,vw];refine⟨trivial,hs,by simp,⟨sz,e :: r⟩,?_,rfl,by simp,by simp,hp⟩;show St.look xY key=_;rw [h]; rfl
namespace Ru
def pZ (l:List (Nat × Nat)):List (List D):=l.map λp=>[.int .i64 (p.1:Int),.int .i64 (p.2:Int)]
theorem wJ (l:List (Nat × Nat)):(pZ l).length=l.length:=by simp [pZ]
theorem lN (l:List (Nat × Nat)) {i:Nat} (h:i<l.length):(pZ l).getD i [] = [.int .i64 ((l.getD i (0,0)).1:Int),.int .i64 ((l.getD i (0,0)).2:Int)]:=by simp [pZ,List.getD,h]
theorem bL (l:List (Nat × Nat)):∀ e ∈ pZ l,D.xJ e=true:=by intro e he;simp only [pZ,δ] at he;obtain⟨r,_,rfl⟩:=he;rfl
theorem gI (l:List (Nat × Nat)):sG (pZ l)= True:=eq_true (bL l)
theorem Zk (l:List (Nat × Nat)) (a b:Nat):pZ l ++ [[.int .i64 (a:Int),.int .i64 (b:Int)]]=pZ (l ++ [(a,b)]):=by simp [pZ]
theorem Uu : pZ [] = []:=rfl
def mZ (T n:Nat):List (Nat × Nat):=(List.range n).map λi=>(i / T,i % T)
theorem pP (T n:Nat):(mZ T n).length=n:=by simp [mZ]
theorem bw (T:Nat) {n i:Nat} (h:i<n):(mZ T n).getD i (0,0)= (i / T,i % T):=by simp [mZ,List.getD,h]
theorem Zj (T r t:Nat) (ht:t<T):mZ T (r*T+(t+1))= mZ T (r*T+t)++ [(r,t)]:=by
 rw [show r*T+(t+1)= (r*T+t)+ 1 by omega];unfold mZ;rw [List.range_succ,List.map_append,List.map_singleton]
 have e1:(r*T+t)/ T=r:=by rw [Ab,Ad (by omega),Ac ht]; rfl
 have e2:(r*T+t) % T=t:=by rw [Ab,Nat.mul_add_mod,Nat.mod_eq_of_lt ht]
 rw [e1,e2]
def ji (s:vI):List (Nat × Nat):=if kQ s≠0 then [] else mZ s.ln.toNat (s.rs.length*s.ln.toNat)
structure Ok (s : vI) (A F T : Nat) : Prop where
 ag:s.ag=A
 fa:s.fa=F
 ln:s.ln=T
 hA:A<=4
 hF:F<=8
 hT:1<=T/\T<=16
 hR:1<=s.rs.length/\s.rs.length<=64
 hP:s.rs.length*T<=512
 loc:∀ r ∈ s.rs,r.loc.length=T
 aB:∀ r ∈ s.rs,r.aB.length=T
 row:∀ r ∈ s.rs,∀ l ∈ r.loc,l.length=A
 val:∀ r ∈ s.rs,∀ f ∈ r.aB,f >>> F=0#64
theorem ql {s:vI} (h:kQ s=0):∃ A F T,Ok s A F T:=by
 unfold kQ at h
 split at h
 ·cases h
 rename_i h1
 split at h
 ·cases h
 rename_i h2
 split at h
 ·cases h
 rename_i h3
 split at h
 ·cases h
 rename_i h4
 split at h
 ·cases h
 rename_i h5;obtain⟨A,hA⟩:=Af (show 0<=s.ag by omega);obtain⟨F,hF⟩:=Af (show 0<=s.fa by omega);obtain⟨T,hT⟩:=Af (show 0<=s.ln by omega);have h4':∀ r ∈ s.rs,kD s r=false:=λr hr=>by simpa using ζ.1 (by simpa using h4) r hr
 have h5':∀ r ∈ s.rs,tv s r=false:=λr hr=>by simpa using ζ.1 (by simpa using h5) r hr
 have hb:∀ r ∈ s.rs,r.loc.length=T/\r.aB.length=T/\∀ l ∈ r.loc,l.length=A:=λr hr=>by have:=h4' r hr;simp only [kD,Ah,Ai,decide_eq_true_eq,ζ,hT,hA] at this;refine⟨by omega,by omega,λl hl=>?_⟩;have:=this.2 l hl;simp at this;omega
 refine⟨A,F,T,hA,hF,hT,by omega,by omega,by omega,by omega,?_,λr hr=>(hb r hr).1,λr hr=>(hb r hr).2.1,λr hr=>(hb r hr).2.2,λr hr f hf=>?_⟩
 ·have:((s.rs.length*T:Nat):Int)<=512:=by rw [Int.natCast_mul,<- hT]; omega
  omega
 ·have:=h5' r hr;simp only [tv,ζ] at this;have:=this f hf;rw [hF,Ag] at this;simpa using this
theorem Uv {s:vI} {A F T:Nat} (h:Ok s A F T) (hz:kQ s=0):ji s=mZ T (s.rs.length*T):=by unfold ji; rw [if_neg (by simpa using hz),h.ln,Ag]
end Ru
theorem We (s:vI):xK prog 48 [s.d] (.sl 2 (pZ (ji s))):=by
 have hD:s.d = .agg [.int .i64 s.ag,.int .i64 s.fa,.int .i64 s.ln,.sl 2 (uR s.rs)]:=rfl;have hC:=ar s;rw [hD] at hC ⊢;refine zJ func48 MZ λhf=>?_;refine nA ?_;refine .go (cq hC) ?_;by_cases hz:kQ s=0
 case neg=>
  have e:(kQ s != 0)= true:=by simpa using hz
  rw [show ji s = [] by unfold ji; rw [if_pos hz]];refine yF e ?_;exact .drop (by simp) (by simp [vw,pZ])
 have e:(kQ s != 0)= false:=by simpa using hz
 obtain⟨A,F,T,ok⟩:=ql hz;rw [Uv ok hz];obtain⟨T1,T16⟩:=ok.hT;obtain⟨R1,R64⟩:=ok.hR;simp only [simprocAttr,-ZA,↓zU,↓zD,zV,zT,zW,e,ok.ln,ok.ag,ok.fa,zB]
 refine zC (λr:Nat=>[(12,.int .i64 r),(11,.int .i64 s.rs.length),(3,yH 1 2 (pZ (mZ T (r*T)))),(1,.ref 0 4 0 0)]) (λr=>⟨2,yD 1 2 (pZ (mZ T (r*T)))++ [(0,⟨4,[[.int .i64 A,.int .i64 F,.int .i64 T,.sl 2 (uR s.rs)]]⟩)]⟩)
  (λr=>r<=s.rs.length) (λr=>s.rs.length-r) 0 (Aa _) ?_ ?_
 ·rw [Nat.zero_mul]
  (refine RM [] [0] ?_; simp only [eA,zQ,simprocAttr,-ZA,exists_eq_left',ne_eq,zR,mZ,List.range_zero,List.map_nil,Uu,gC,gD,List.nil_append])
 intro r hr;refine wZ mixed ?_;by_cases hrl:r<s.rs.length
 case neg=>
  have hd:¬ ((r:Int)<(s.rs.length:Int)):=by omega
  rw [show r=s.rs.length by omega] at hd ⊢;refine yF hd ?_;exact .drop (by simp) (jQ (by decide) (bL _) (by simp [St.look,lY,zM]))
 have hd:((r:Int)<(s.rs.length:Int)):=by omega
 refine yF hd ?_
 refine zC (λt:Nat=>[(17,.int .i64 t),(16,.int .i64 T),(12,.int .i64 r),(11,.int .i64 s.rs.length),(4,.int .i64 r),(3,yH 1 2 (pZ (mZ T (r*T+t)))),(1,.ref 0 4 0 0)]) (λt=>⟨2,yD 1 2 (pZ (mZ T (r*T+t)))++ [(0,⟨4,[[.int .i64 A,.int .i64 F,.int .i64 T,.sl 2 (uR s.rs)]]⟩)]⟩)
  (λt=>t<=T) (λt=>T-t) 0 (Aa _) ?_ ?_
 ·rw [Nat.add_zero];exact RL [] [1,0] gI
 intro t ht;refine wZ mixed ?_;by_cases htl:t<T
 case neg=>
  have hd2:¬ ((t:Int)<(T:Int)):=by omega
  have et:t=T:=by omega
  refine qV hd2 ?_;refine⟨r+1,by omega,?_,by omega⟩;rw [show (r+1)* T=r*T+t by rw [Nat.add_mul,et]; omega];exact RL [] [1,0] gI
 have hd2:((t:Int)<(T:Int)):=by omega
 have hlen:r*T+t<1024:=by
  have:r*T<=64*16-16:=by have:=Nat.mul_le_mul (show r<=63 by omega) T16;omega
  omega
 have hS:=Zj T r t htl;have hln:=pP T (r*T+t);have hw:IntKind.i64.wrap ((t:Int)+ 1)= ((t+1:Nat):Int):=wrap_i64 (by omega);generalize mZ T (r*T+t)= l at hS hln;refine ai hd2 wJ hln ?_;refine⟨t+1,by omega,?_,by omega⟩;rw [hS,Zk];exact O7 [(1,2)] [1,0] gI hw
end
section
namespace Ru
def uB (rs:List xC) (a:Nat) (p:Nat × Nat):Int:=((rs.getD p.1 pV).loc.getD p.2 []).getD a 0
def XM (rs:List xC) (p:Nat × Nat):BitVec 64:=(rs.getD p.1 pV).aB.getD p.2 0
structure iE (rs : List xC) (A F T : Nat) : Prop where
 hA:A<=4
 hF:F<=8
 hT:1<=T/\T<=16
 hR:1<=rs.length/\rs.length<=64
 hP:rs.length*T<=512
 loc:∀ r ∈ rs,r.loc.length=T
 aB:∀ r ∈ rs,r.aB.length=T
 row:∀ r ∈ rs,∀ l ∈ r.loc,l.length=A
 val:∀ r ∈ rs,∀ f ∈ r.aB,f >>> F=0#64
theorem UJ {s:vI} (h:kQ s=0):∃ (A F T:Nat) (rs:List xC),s=⟨A,F,T,rs⟩/\ iE rs A F T:=by obtain⟨A,F,T,ok⟩:=ql h;obtain⟨ag,fa,ln,rs⟩:=s;obtain⟨h1,h2,h3,h4,h5,h6,h7,h8,h9,h10,h11,h12⟩:=ok;simp only at h1 h2 h3 h7 h8 h9 h10 h11 h12;subst h1 h2 h3;exact⟨A,F,T,rs,rfl,⟨h4,h5,h6,h7,h8,h9,h10,h11,h12⟩⟩
def Ri (rs:List xC) (T:Nat) (l:List (Nat × Nat)):Prop:=∀ p ∈ l,p.1<rs.length/\p.2<T
theorem gU {rs:List xC} {T n:Nat} (hT:1<=T) (hn:n<=rs.length*T):Ri rs T (mZ T n):=λp hp=>by simp only [mZ,δ,γ] at hp;obtain⟨i,hi,rfl⟩:=hp;refine⟨(Nat.div_lt_iff_lt_mul (by omega)).2 (by omega),Nat.mod_lt _ (by omega)⟩
def sD (A F T:Nat) (rs:List xC):D:=.agg [.int .i64 (A:Int),.int .i64 (F:Int),.int .i64 (T:Int),.sl 2 (uR rs)]
theorem uP (x:Int):∀ (l:List (Int × D)) (i:Nat),wD x l i=(wD x l 0).map λp=>(p.1+i,p.2)
 | [],i=>rfl
 | (k,d) :: r,i=>by
  unfold wD
  by_cases h:x=k
  ·rw [if_pos h,if_pos h]; simp
  ·rw [if_neg h,if_neg h,uP x r (i+1),uP x r (0+1)]
   cases wD x r 0 with
   | none=>rfl
   | some p=>simp; omega
end Ru
open Ru
end
section
open Rs Fm Ru
namespace Te
def oD (l:List Bool):List (List D):=l.map λb=>[.bool b]
def xD (R T:Nat) (φ:Nat × Nat->Bool):List (List D):=(List.range R).map λi=>[.sl 1 (oD ((List.range T).map λt=>φ (i,t)))]
def eY (T:Nat) (kr:Nat->Nat) (r i:Nat):List D:=if i<r then [.xP (kr i) 1 T] else [.xU]
def sU (R T:Nat) (kr:Nat->Nat) (r:Nat):List (List D):=(List.range R).map (eY T kr r)
theorem rA (R T:Nat) (kr:Nat->Nat) (r:Nat):(sU R T kr r).length=R:=by simp [sU]
theorem gK {R T:Nat} {kr:Nat->Nat} {r i:Nat} (hi:i<R) (h:i<r):(sU R T kr r).getD i [] = [.xP (kr i) 1 T]:=by simp [sU,eY,List.getD,hi,h]
theorem r7 {R T:Nat} {kr:Nat->Nat} {i:Nat} (hi:i<R):(sU R T kr i).getD i [] = [.xU]:=by simp [sU,eY,List.getD,hi]
theorem r8 {R T:Nat} {kr:Nat->Nat} {r n:Nat}:(sU R T kr r).set r [.xP n 1 T]=sU R T (λi=>if i=r then n else kr i) (r+1):=by
 refine κ (by simp [sU]) λk h1 h2=>?_;rw [υ];simp only [sU,χ,π,eY]
 by_cases e:r=k
 ·subst e; rw [if_pos rfl,if_pos (by omega),if_pos rfl]
 ·rw [if_neg e]
  by_cases hk:k<r
  ·rw [if_pos hk,if_pos (by omega),if_neg (by omega)]
  ·rw [if_neg hk,if_neg (by omega)]
theorem gz (R T:Nat) (kr:Nat->Nat):sU R T kr 0=List.replicate R [.xU]:=by refine κ (by simp [sU]) λk h1 h2=>by simp [sU,eY]
structure TI (R T nb r : Nat) (kr : Nat -> Nat) (v : Nat -> Nat -> Bool) (nx : Nat) (objs0 xY : List (Nat × Ob)) : Prop where
 n1:nb<nx
 uJ:∀ k,k<nb->St.look xY k=St.look objs0 k
 lo:St.look xY nb=some ⟨1,sU R T kr r⟩
 lr:∀ i,i<r->nb<kr i/\kr i<nx/\St.look xY (kr i)= some ⟨1,oD ((List.range T).map (v i))⟩
 dr:∀ i j,i<r->j<r->kr i=kr j->i=j
theorem TI.row {R T nb r:Nat} {kr:Nat->Nat} {v:Nat->Nat->Bool} {nx nx' n:Nat} {objs0 xY objs':List (Nat × Ob)} (h:TI R T nb r kr v nx objs0 xY) (hn:nx<=n/\n<nx')
  (hs:∀ k,k<nx->k≠nb->St.look objs' k=St.look xY k) (ho:St.look objs' nb=some ⟨1,sU R T (λi=>if i=r then n else kr i) (r+1)⟩) (hx:St.look objs' n=some ⟨1,oD ((List.range T).map (v r))⟩) :
  TI R T nb (r+1) (λi=>if i=r then n else kr i) v nx' objs0 objs':=by
 have n1:=h.n1
 refine⟨by omega,λk hk=>by rw [hs k (by omega) (by omega),h.uJ k hk],ho,λi hi=>?_,λi j hi hj e=>?_⟩
 ·by_cases e:i=r
  ·subst e; simp only [if_true]; exact⟨by omega,hn.2,hx⟩
  ·simp only [if_neg e];obtain⟨a,b,c⟩:=h.lr i (by omega);exact⟨a,by omega,by rw [hs _ b (by omega)]; exact c⟩
 ·by_cases ei:i=r <;> by_cases ej:j=r
  ·omega
  ·subst ei; simp only [if_true,if_neg ej] at e;have:=h.lr j (by omega); omega
  ·subst ej; simp only [if_true,if_neg ei] at e;have:=h.lr i (by omega); omega
  ·simp only [if_neg ei,if_neg ej] at e;exact h.dr i j (by omega) (by omega) e
theorem TI.Re {R T nb r:Nat} {kr:Nat->Nat} {v v':Nat->Nat->Bool} {nx nx':Nat} {objs0 xY objs':List (Nat × Ob)} (h:TI R T nb r kr v nx objs0 xY) (hn:nx<=nx') {i:Nat} (hi:i<r)
  (hv:∀ j t,j<r->t<T->j≠i->v j t=v' j t) (hs:∀ k,k<nx->k≠kr i->St.look objs' k=St.look xY k) (hx:St.look objs' (kr i)= some ⟨1,oD ((List.range T).map (v' i))⟩):TI R T nb r kr v' nx' objs0 objs':=by
 have n1:=h.n1;obtain⟨q1,q2,q3⟩:=h.lr i hi;refine⟨by omega,λk hk=>by rw [hs k (by omega) (by omega),h.uJ k hk],by rw [hs nb n1 (by omega)]; exact h.lo,λj hj=>?_,h.dr⟩;obtain⟨a,b,c⟩:=h.lr j hj;refine⟨a,by omega,?_⟩
 by_cases e:j=i
 ·subst e; exact hx
 ·rw [hs _ b (λe2=>e (h.dr j i hj hi e2)),c];congr 3;exact ξ λt ht=>hv j t hj (γ.1 ht) e
end Te
end
section
open Rs Fm Ru Te
mutual
theorem ib {n m:Nat} (hm:n<=m):∀ {d:D},d.under n->d.under m
 | .top,_ | .vP,_ | .int _ _,_ | .bool _,_ | .str _,_ | .sl _ _,_ | .xU,_ | .emp,_ | .ptr _,_ | .sY,_ | .uA,_ | .uL,_ | .kI _,_=>by simp only [D.under]
 | .agg cs,h=>by simp only [D.under] at h ⊢; exact tW hm h
 | .xI cs,h=>by simp only [D.under] at h ⊢; exact tW hm h
 | .fn _ cs,h=>by simp only [D.under] at h ⊢; exact tW hm h
 | .ref _ _ _ _,h=>by simp only [D.under] at h ⊢; omega
 | .xP _ _ _,h=>by simp only [D.under] at h ⊢; omega
 | .sub _ _ _ _,h=>by simp only [D.under] at h ⊢; omega
 | .xG _,h=>by simp only [D.under] at h ⊢; omega
theorem tW {n m:Nat} (hm:n<=m):∀ {cs:List D},D.wE n cs->D.wE m cs
 | [],_=>by simp only [D.wE]
 | d :: r,h=>by simp only [D.wE] at h ⊢; exact⟨ib hm h.1,tW hm h.2⟩
end
theorem lP {σ σ':St} {ρ:Nat->Nat} {α:Type} {f g:α->List D}:∀ {l:List α},(∀ i ∈ l,(f i).length=(g i).length/\rN σ σ' ρ (f i) (g i))->jr σ σ' ρ (l.map f) (l.map g)
 | [],_=>.nil
 | x :: l,h=>.cons (h x (by simp)).1 (h x (by simp)).2 (lP λi hi=>h i (ν _ hi))
mutual
theorem TD {σ σ':St} {ρ:Nat->Nat} {n:Nat} (hn:n<=σ'.nx) (hρ:∀ k,k<n->ρ k=k):∀ {d:D},d.under n->vw σ σ' ρ d d
 | .top,_=>by simp only [vw]
 | .vP,_=>by simp only [vw]
 | .int _ _,_=>by simp only [vw]
 | .bool _,_=>by simp only [vw]
 | .str _,_=>by simp only [vw]
 | .sl _ _,_=>by simp only [vw]; exact⟨trivial,trivial⟩
 | .xU,_=>by simp only [vw]
 | .emp,_=>by simp only [vw]
 | .agg cs,h=>by simp only [vw]; simp only [D.under] at h; exact⟨trivial,jB hn hρ h⟩
 | .xI cs,h=>by simp only [vw]; simp only [D.under] at h; exact⟨trivial,jB hn hρ h⟩
 | .fn _ cs,h=>by simp only [vw]; simp only [D.under] at h; exact⟨trivial,trivial,jB hn hρ h⟩
 | .ref _ _ _ _,h=>by simp only [vw]; simp only [D.under] at h; rw [hρ _ h]; exact⟨by omega,rfl⟩
 | .xP _ _ _,h=>by simp only [vw]; simp only [D.under] at h; rw [hρ _ h]; exact⟨by omega,rfl⟩
 | .sub _ _ _ _,h=>by simp only [vw]; simp only [D.under] at h; rw [hρ _ h]; exact⟨by omega,rfl⟩
 | .ptr _,_=>by simp only [vw]; exact .inl trivial
 | .xG _,h=>by simp only [vw]; simp only [D.under] at h; rw [hρ _ h]; exact⟨by omega,rfl⟩
 | .sY,_=>by simp only [vw]
 | .uA,_=>by simp only [vw]
 | .uL,_=>by simp only [vw]
 | .kI _,_=>by simp only [vw]
theorem jB {σ σ':St} {ρ:Nat->Nat} {n:Nat} (hn:n<=σ'.nx) (hρ:∀ k,k<n->ρ k=k):∀ {cs:List D},D.wE n cs->rN σ σ' ρ cs cs
 | [],_=>by simp only [rN]
 | d :: r,h=>by simp only [rN]; simp only [D.wE] at h; exact⟨TD hn hρ h.1,jB hn hρ h.2⟩
end
theorem cu {σ σ':St} {ρ:Nat->Nat} {n:Nat} (hn:n<=σ'.nx) (hρ:∀ k,k<n->ρ k=k):∀ {xZ:List (List D)},(∀ e ∈ xZ,D.wE n e)->jr σ σ' ρ xZ xZ
 | [],_=>.nil
 | e :: r,h=>.cons rfl (jB hn hρ (h e (by simp))) (cu hn hρ λx hx=>h x (ν _ hx))
namespace Te
def kH (nx R T:Nat) (φ:Nat × Nat->Bool):List (Nat × Ob):=(nx,⟨1,(List.range R).map λi=>[.xP (nx+1+i) 1 T]⟩) :: (List.range R).map λi=>(nx+1+i,⟨1,oD ((List.range T).map λt=>φ (i,t))⟩)
theorem qL : ∀ {a b:List (Nat × Ob)} {k:Nat},St.look (a++b) k=(St.look a k).or (St.look b k)
 | [],_,_=>rfl
 | (j,o) :: r,b,k=>by
  rw [ω,xX,xX]
  by_cases e:j=k
  ·rw [if_pos e,if_pos e]; rfl
  ·rw [if_neg e,if_neg e,qL]
theorem fH {c:Nat} {f:Nat->Ob} {k:Nat}:∀ {l:List Nat},(k ∈ l->St.look (l.map λi=>(c+i,f i)) (c+k)= some (f k))/\ (k ∉ l->St.look (l.map λi=>(c+i,f i)) (c+k)= none)
 | []=>⟨λh=>(by cases h),λ_=>rfl⟩
 | j :: l=>by
  have ih:=fH (c:=c) (f:=f) (k:=k) (l:=l);rw [List.map_cons,xX]
  by_cases e:j=k
  ·subst e; rw [if_pos rfl]; exact⟨λ_=>rfl,λh=>absurd (by simp) h⟩
  ·rw [if_neg (by omega)];refine⟨λh=>ih.1 ?_,λh=>ih.2 λh2=>h (ν _ h2)⟩
   rcases θ.1 h with h | h
   ·exact absurd h.symm e
   ·exact h
theorem nD {c:Nat} {f:Nat->Ob} {k:Nat} (h:k<c):∀ {l:List Nat},St.look (l.map λi=>(c+i,f i)) k=none
 | []=>rfl
 | j :: l=>by rw [List.map_cons,xX,if_neg (by omega)]; exact nD h
theorem Ze {nx R T k:Nat} {φ:Nat × Nat->Bool} (h:k<nx):St.look (kH nx R T φ) k=none:=by unfold kH;rw [xX,if_neg (by omega)];exact nD (by omega)
theorem Zf {nx R T i:Nat} {φ:Nat × Nat->Bool} (h:i<R):St.look (kH nx R T φ) (nx+1+i)= some ⟨1,oD ((List.range T).map λt=>φ (i,t))⟩:=by unfold kH;rw [xX,if_neg (by omega)];exact(fH (f:=λi=>⟨1,oD ((List.range T).map λt=>φ (i,t))⟩)).1 (γ.2 h)
theorem Zg {nx R T:Nat} {φ:Nat × Nat->Bool}:St.look (kH nx R T φ) nx=some ⟨1,(List.range R).map λi=>[.xP (nx+1+i) 1 T]⟩:=by unfold kH; rw [xX,if_pos rfl]
theorem TI.start {nx R T:Nat} {φ:Nat × Nat->Bool} {xY:List (Nat × Ob)}:TI R T nx R (λi=>nx+1+i) (λi t=>φ (i,t)) (nx+1+R) xY (kH nx R T φ++xY):=by refine⟨by omega,λk hk=>by rw [qL,Ze hk]; rfl,?_,λi hi=>⟨by omega,by omega,by rw [qL,Zf hi]; rfl⟩,λi j _ _ e=>by omega⟩;rw [qL,Zg];show some _=_;congr 2;exact ξ λi hi=>by unfold eY; rw [if_pos (γ.1 hi)]
end Te
theorem xW.alike {P:Program} {g:FuncId} {args:List D} {σ:St} {d:D} {nx:Nat} {xY objs':List (Nat × Ob)} (hl:∀ k,St.look xY k=St.look objs' k) (h:xW P g args σ d ⟨nx,objs'⟩):xW P g args σ d ⟨nx,xY⟩:=by
 refine⟨h.ord,λM0 w ι vals hS hl' hv=>(h.run M0 w ι vals hS hl' hv).mono λe w' hh=>?_⟩;obtain⟨v,ι',h1,h2,h3,h4,h5,h6,h7⟩:=hh;have hg:∀ k,St.get ⟨nx,xY⟩ k=St.get ⟨nx,objs'⟩ k:=λk=>hl k
 have hM:yR M0 ι' ⟨nx,xY⟩= yR M0 ι' ⟨nx,objs'⟩:=by funext b;unfold yR;simp only [hg]
 refine⟨v,ι',h1,h2,⟨h3.uJ,λk o hk=>?_,λk k' o o' a b=>?_,λk o hk=>?_,?_⟩,h4,h5,λk o hk=>h6 k o (by rw [<- hg]; exact hk),by rw [hM]; exact h7⟩
 ·rw [hM]; exact h3.holds k o (by rw [<- hg]; exact hk)
 ·exact h3.inj k k' o o' (by rw [<- hg]; exact a) (by rw [<- hg]; exact b)
 ·exact h3.notM k o (by rw [<- hg]; exact hk)
 ·rw [hM]; exact h3.tN
theorem UR {P:Program} {g:FuncId} {args:List D} {nx nx2 R T:Nat} {xY objs2:List (Nat × Ob)} {kr:Nat->Nat} {φ:Nat × Nat->Bool} (hR:1<=R) (ho:oI P g) (hT:TI R T nx R kr (λi t=>φ (i,t)) nx2 xY objs2)
  (h:xW P g args ⟨nx,xY⟩ (.xP nx 1 R) ⟨nx2,objs2⟩):xW P g args ⟨nx,xY⟩ (.sl 1 (xD R T φ)) ⟨nx,xY⟩:=by
 refine xW.wV ho λhu=>xW.clean ?_;have n1:=hT.n1
 have h1:xW P g args ⟨nx,xY⟩ (.xP nx 1 R) ⟨nx2,(nx,⟨1,xD R T φ⟩) :: uj xY⟩:=by
  refine xW.ret h (.inr ⟨λk=>k,by show nx<=nx2; omega,λ_ _=>rfl,?_,?_,λp _ q _ e=>e⟩)
  ·simp only [vw]; exact⟨by omega,trivial⟩
  ·intro p hp
   rcases θ.1 hp with rfl | hp
   ·refine⟨by show nx<nx2; omega,_,hT.lo,rfl,?_⟩;refine lP λi hi=>⟨by unfold eY; split <;> rfl,?_⟩;have hi':=γ.1 hi;obtain⟨b1,b2,b3⟩:=hT.lr i hi';unfold eY;rw [if_pos hi'];simp only [rN,vw,and_true]
    refine⟨trivial,by decide,λq hq=>?_,_,b3,rfl,by simp [oD],?_,?_⟩
    ·rcases θ.1 hq with rfl | hq
     ·show nx≠kr i; omega
     ·have:=(hu q.1 q.2 (rS hq)).1;simp only at this;omega
    ·rw [List.take_of_length_le (by simp [oD])]
    ·intro e he;simp only [oD,δ] at he;obtain⟨b,_,rfl⟩:=he;rfl
   ·have hl:=rS hp;obtain⟨u1,u2⟩:=hu p.1 p.2 hl;simp only at u1 u2;refine⟨by show p.1<nx2; omega,p.2,?_,rfl,mM λe he=>tW (by show nx<=nx2; omega) (u2 e he)⟩;show St.look objs2 p.1=_;rw [hT.uJ p.1 u1]; exact hl
 refine xW.ret h1 (.gone hu (λk o hk=>?_) ?_)
 ·have:=(hu k o hk).1;simp only at this;show St.look (_ :: _) k=_;rw [xX,if_neg (by omega),mJ]; exact hk
 ·simp only [vw]
  refine⟨trivial,by decide,λq hq=>?_,_,by rw [iz,xX,if_pos rfl],rfl,by simp [xD],(bR (show R=(xD R T φ).length by simp [xD])).symm,?_⟩
  ·have:=(hu q.1 q.2 (rS hq)).1;simp only at this;omega
  ·intro e he;simp only [xD,δ] at he;obtain⟨b,_,rfl⟩:=he;rfl
theorem vm {nx kc:Nat} {xY:List (Nat × Ob)} {rs:List xC} {A F T:Nat} {same:D} {g:FuncId} {caps:List D} {φ:Nat × Nat->Bool} (ok:iE rs A F T)
  (hc:St.look xY kc=some ⟨6,[[.int .i64 (A:Int),.int .i64 (F:Int),.int .i64 (T:Int),.sl 2 (uR rs),.sl 2 (pZ (mZ T (rs.length*T))),same]]⟩)
  (hcl:∀ nx1 objs1 i t,nx<=nx1->(∀ k,k<nx->St.look objs1 k=St.look xY k)->i<rs.length->t<T->xW prog g ([.agg [.int .i64 (i:Int),.int .i64 (t:Int)]]++caps) ⟨nx1,objs1⟩ (.bool (φ (i,t))) ⟨nx1,objs1⟩) :
  xW prog 81 [.ref kc 6 0 0,.fn g caps] ⟨nx,xY⟩ (.xP nx 1 rs.length) ⟨nx+1+rs.length,kH nx rs.length T φ++xY⟩:=by
 obtain⟨T1,T16⟩:=ok.hT;obtain⟨R1,R64⟩:=ok.hR;refine xW.wV ⟨_,func81,by kernel_rfl,by kernel_rfl⟩ λhu=>xW.alike (objs':=kH nx rs.length T φ++uj xY) (λk=>by rw [qL,qL,mJ]) ?_;have hkc:=(hu kc _ hc).1;simp only at hkc;refine zJ func81 Mq λhf=>?_;have x1:¬ nx=kc:=by omega
 refine ai hc x1 zB ?_
 refine zC (λa:Nat × Nat × List (Nat × Ob)=>[(18,.int .i64 a.1),(17,.int .i64 rs.length),(5,.xP nx 1 rs.length),(1,.fn g caps),(0,.ref kc 6 0 0)]) (λa=>⟨a.2.1,a.2.2⟩)
  (λa=>a.1<=rs.length/\a.2.1<=nx+1+a.1/\∃ kr,TI rs.length T nx a.1 kr (λ_ _=>false) a.2.1 xY a.2.2) (λa=>rs.length-a.1) (0,nx+1,(nx,⟨1,List.replicate rs.length [.xU]⟩) :: xY) ⟨Aa _,by simp,λ_=>0,?_⟩ ?_ ?_
 ·refine⟨by simp only; omega,λk hk=>by simp only; rw [xX,if_neg (by omega)],?_,λi h=>absurd h (Nat.not_lt_zero _),λi j h=>absurd h (Nat.not_lt_zero _)⟩;rw [gz]; simp only; rw [xX,if_pos rfl]
 ·exact sV
 intro ⟨r,nx1,objs1⟩ ⟨hr,hn1,kr,hT⟩;simp only at hr hn1 hT ⊢;refine wZ mixed ?_
 by_cases hrl:r<rs.length
 ·have hd:((r:Int)<(rs.length:Int)):=by omega
  have n1:=hT.n1;have hc1:St.look objs1 kc=_:=(hT.uJ kc hkc).trans hc;have lo:=hT.lo;have y1:¬ nx1=kc:=by omega
  have y2:¬ nx1=nx:=by omega
  refine OA hd hc1 lo y1 y2 rA ?_
  have hset:(sU rs.length T kr r).set r (((sU rs.length T kr r).getD r []).set 0 (D.xP nx1 1 T))= sU rs.length T (λi=>if i=r then nx1 else kr i) (r+1):=by rw [r7 hrl]; exact r8
  rw [hset];refine⟨(r+1,?zna,?zoa),?ze1,?ze2,by show rs.length-(r+1)<rs.length-r; omega⟩
  case ze2=>
   (refine yV.same ?_; simp only [zL,Fr.get,simprocAttr,-ZA,zS])
   exact wrap_i64 (by omega)
  case ze1=>
   refine⟨by show r+1<=rs.length; omega,by show nx1+1<=nx+1+(r+1); omega,_,hT.row (n:=nx1) ⟨Ae _,Nat.lt_succ_self _⟩ (λk hk hk2=>?_) ?_ ?_⟩
   ·show St.look (_ :: _) _=_;rw [xX,if_neg (by omega),xT,if_neg (by omega)]
   ·show St.look (_ :: _) _=_;rw [xX,if_neg (by omega),xT,if_pos rfl,lo]; rfl
   ·show St.look (_ :: _) _=_;rw [xX,if_pos rfl];congr 2;exact(κ (by simp [oD]) λk h1 h2=>by simp [oD])
 have hd:¬ ((r:Int)<(rs.length:Int)):=by omega
 obtain rfl:rs.length=r:=by omega
 have n1:=hT.n1;have hc1:St.look objs1 kc=_:=(hT.uJ kc hkc).trans hc;have hin:Ri rs T (mZ T (rs.length*T)):=gU T1 (Ae _);have hln:=pP T (rs.length*T);have hlg:∀ w,w<rs.length*T->(mZ T (rs.length*T)).getD w (0,0)= (w / T,w % T):=λw h=>bw T h;have hRT:=ok.hP;generalize mZ T (rs.length*T)= l at hc hc1 hin hln hlg;refine jl hd hc1 wJ ?_
 refine uI (λa:Nat × Nat × List (Nat × Ob)=>[(36,.int .i64 a.1),(35,.int .i64 l.length),(34,.sl 2 (pZ l)),(5,.xP nx 1 rs.length),(1,.fn g caps)]) (λa=>⟨a.2.1,a.2.2⟩)
  (λa=>a.1<=l.length/\a.2.1<=nx1+a.1/\nx1<=a.2.1/\∃ kr,TI rs.length T nx rs.length kr (λi t=>decide (i*T+t<a.1)&& φ (i,t)) a.2.1 xY a.2.2) (λa=>l.length-a.1) (0,nx1,objs1) ⟨Aa _,by simp,Ae _,kr,?_⟩ ?_ ?_
 ·have:(λi t=>decide (i*T+t<0)&& φ (i,t))= λ_ _=>false:=by funext i t; simp
  rw [this]; exact hT
 ·exact sV
 clear hT hc1 n1;intro ⟨w,nx2,objs2⟩ ⟨hw,hn2,hn3,kr,hT⟩;simp only at hw hn2 hn3 hT ⊢;have n1:=hT.n1;refine wZ mixed ?_
 by_cases hwl:w<l.length
 ·have hd3:((w:Int)<(l.length:Int)):=by omega
  have hp:=hin _ (zH (d:=(0,0)) hwl);have hpg:=lN l hwl;have hpe:=hlg w (by omega);have hwe:(w / T)* T+w % T=w:=by rw [Ab]; exact Nat.div_add_mod w T
  rw [hpe] at hp hpg;generalize w / T=i at hp hpg hwe;generalize w % T=t at hp hpg hwe;simp only at hp hpg;obtain⟨hp1,hp2⟩:=hp;obtain⟨a1,a2,a3⟩:=hT.lr i hp1;have lo:=hT.lo;have hrow:=gK (T:=T) (kr:=kr) hp1 hp1;have hk1:=hcl (nx2+1) ((nx2,⟨2,[[.int .i64 i,.int .i64 t]]⟩) :: objs2) i t (by omega) (λk hk=>by rw [xX,if_neg (by omega),hT.uJ k hk]) hp1 hp2;simp only [ω,List.nil_append] at hk1;have y1:¬ nx2=nx:=by omega
  have y2:¬ nx2=kr i:=by omega
  have hrl:∀ v:List Bool,(oD v).length=v.length:=λv=>by simp [oD]
  simp only [simprocAttr,-ZA,↓zU,↓zD,zV,zT,zW,hd3,wJ,hpg,lo,a3,hrow,rA,hrl,μ,η,y1,y2]
  (repeat refine sd ?_)
  refine .go hk1 ?_;simp only [simprocAttr,-ZA,↓zU,↓zD,zV,zT,zW,a3,y1,y2,hrl,μ,η]
  (repeat refine sd ?_)
  have hset:(oD (List.map (λt=>decide (i*T+t<w)&& φ (i,t)) (List.range T))).set t (((oD (List.map (λt=>decide (i*T+t<w)&& φ (i,t)) (List.range T))).getD t []).set 0 (D.bool (φ (i,t))))= oD (List.map (λt=>decide (i*T+t<w+1)&& φ (i,t)) (List.range T)):=by
   have hg:(oD (List.map (λt=>decide (i*T+t<w)&& φ (i,t)) (List.range T))).getD t [] = [.bool (decide (i*T+t<w)&& φ (i,t))]:=by simp [oD,List.getD,hp2]
   rw [hg];refine κ (by simp [oD]) λk h1 h2=>?_;rw [υ]
   by_cases e:t=k
   ·subst e;rw [if_pos rfl];simp [oD,hwe]
   ·rw [if_neg e]
    have:decide (i*T+k<w)= decide (i*T+k<w+1):=by rw [Bool.eq_iff_iff,decide_eq_true_iff,decide_eq_true_iff]; omega
    simp only [oD,χ,π,this]
  rw [hset];refine⟨(w+1,?znb,?zob),?zg1,?zg2,by show l.length-(w+1)<l.length-w; omega⟩
  case zg2=>
   (refine yV.same ?_; simp only [zL,Fr.get,simprocAttr,-ZA,zS])
   exact wrap_i64 (by omega)
  case zg1=>
   refine⟨by show w+1<=l.length; omega,by show nx2+1<=nx1+(w+1); omega,by show nx1<=nx2+1; omega,kr,hT.Re (Nat.le_succ _) hp1 (λj u hj hu hne=>?_) (λk hk hk2=>?_) ?_⟩
   ·have hne':j*T+u≠w:=λe=>hne (by
     have h1:(j*T+u)/ T=j:=by rw [Ab,Ad (by omega),Ac hu]; rfl
     have h2:(i*T+t)/ T=i:=by rw [Ab,Ad (by omega),Ac hp2]; rfl
     rw [e] at h1;rw [hwe] at h2;omega)
    have:decide (j*T+u<w)= decide (j*T+u<w+1):=by rw [Bool.eq_iff_iff,decide_eq_true_iff,decide_eq_true_iff]; omega
    simp only [this]
   ·show St.look (_ :: _) _=_;rw [xX,if_neg (by omega),xT,if_neg (λe=>hk2 e.symm)]
   ·show St.look (_ :: _) _=_;rw [xX,if_neg (by omega),xT,if_pos rfl,a3]; rfl
 have hd3:¬ ((w:Int)<(l.length:Int)):=by omega
 have hv:∀ i t,i<rs.length->t<T->(decide (i*T+t<w)&& φ (i,t))= φ (i,t):=λi t hi ht=>by have:=Nat.mul_le_mul_right T (show i+1<=rs.length from hi);rw [Nat.succ_mul] at this;rw [decide_eq_true (by omega)]; rfl
 refine yF hd3 ?_;refine .yY ?_;refine yQ ?_;have hlow:∀ k,k<nx->(if nx+1<=k/\k<nx+1+rs.length then kr (k-(nx+1)) else k)= k:=λk hk=>if_neg (by omega)
 refine .inr ⟨λk=>if nx+1<=k/\k<nx+1+rs.length then kr (k-(nx+1)) else k,by show nx<=nx+1+rs.length; omega,hlow,?_,?_,?_⟩
 ·simp only [vw];exact⟨by omega,by rw [if_neg (by omega)]⟩
 ·intro p hp
  rcases List.mem_append.1 hp with hp | hp
  ·unfold kH at hp
   rcases θ.1 hp with rfl | hp
   ·refine⟨by show nx<nx+1+rs.length; omega,⟨1,sU rs.length T kr rs.length⟩,?_,rfl,lP λi hi=>⟨?_,?_⟩⟩
    ·show St.look objs2 (if _ then _ else _)= _;rw [if_neg (by simp only; omega)]; exact hT.lo
    ·unfold eY; split <;> rfl
    ·have hi':=γ.1 hi;unfold eY;rw [if_pos hi'];simp only [rN,vw,and_true];refine⟨by omega,?_⟩;rw [if_pos (by omega),show nx+1+i-(nx+1)= i by omega]
   ·simp only [δ,γ] at hp;obtain⟨i,hi,rfl⟩:=hp;obtain⟨b1,b2,b3⟩:=hT.lr i hi
    refine⟨by show nx+1+i<nx+1+rs.length; omega,_,?_,rfl,.same ?_⟩
    ·show St.look objs2 (if _ then _ else _)= _;rw [if_pos (by simp only; omega),show nx+1+i-(nx+1)= i by omega,b3];congr 3;exact ξ λt ht=>hv i t hi (γ.1 ht)
    ·intro e he;simp only [oD,δ] at he;obtain⟨b,_,rfl⟩:=he;rfl
  ·have hl:=rS hp;obtain⟨u1,u2⟩:=hu p.1 p.2 hl;simp only at u1 u2
   refine⟨by show p.1<nx+1+rs.length; omega,p.2,?_,rfl,?_⟩
   ·show St.look objs2 (if _ then _ else _)= _;rw [hlow p.1 u1,hT.uJ p.1 u1]; exact hl
   ·have hself:∀ xZ:List (List D),(∀ e ∈ xZ,D.wE nx e)->jr ⟨nx2,objs2⟩ ⟨nx+1+rs.length,kH nx rs.length T φ++uj xY⟩ (λk=>if nx+1<=k/\k<nx+1+rs.length then kr (k-(nx+1)) else k) xZ xZ:=λxZ he=>cu (n:=nx) (by show nx<=nx+1+rs.length; omega) hlow he;exact hself _ u2
 ·intro p hp q hq e
  have hin:∀ p ∈ kH nx rs.length T φ++uj xY,p.1<nx+1+rs.length:=λp hp=>by
   rcases List.mem_append.1 hp with hp | hp
   ·unfold kH at hp
    rcases θ.1 hp with rfl | hp
    ·show nx<_; omega
    ·simp only [δ,γ] at hp;obtain⟨i,hi,rfl⟩:=hp;show nx+1+i<_; omega
   ·have:=(hu p.1 p.2 (rS hp)).1;simp only at this;omega
  have h1:=hin p hp;have h2:=hin q hq;simp only at e
  split at e <;> split at e
  ·have:=hT.dr _ _ (by omega) (by omega) e;omega
  ·have:=(hT.lr (p.1-(nx+1)) (by omega)).1;omega
  ·have:=(hT.lr (q.1-(nx+1)) (by omega)).1;omega
  ·exact e
theorem nY {nx kc:Nat} {xY:List (Nat × Ob)} {rs:List xC} {A F T:Nat} {same:D} {g:FuncId} {caps:List D} {φ:Nat × Nat->Bool} (ok:iE rs A F T)
  (hc:St.look xY kc=some ⟨6,[[.int .i64 (A:Int),.int .i64 (F:Int),.int .i64 (T:Int),.sl 2 (uR rs),.sl 2 (pZ (mZ T (rs.length*T))),same]]⟩)
  (hcl:∀ nx1 objs1 i t,nx<=nx1->(∀ k,k<nx->St.look objs1 k=St.look xY k)->i<rs.length->t<T->xW prog g ([.agg [.int .i64 (i:Int),.int .i64 (t:Int)]]++caps) ⟨nx1,objs1⟩ (.bool (φ (i,t))) ⟨nx1,objs1⟩) :
  xW prog 81 [.ref kc 6 0 0,.fn g caps] ⟨nx,xY⟩ (.sl 1 (xD rs.length T φ)) ⟨nx,xY⟩:=
 UR (ok.hR.1) ⟨_,func81,by kernel_rfl,by kernel_rfl⟩ (TI.start (xY:=xY)) (vm ok hc hcl)
end
section
open Rs Fm Ru Te
theorem V4 {nx:Nat} {xY:List (Nat × Ob)} {i t:Nat}:xW prog 123 [.agg [.int .i64 (i:Int),.int .i64 (t:Int)]] ⟨nx,xY⟩ (.bool true) ⟨nx,xY⟩:=by refine xW.wV ⟨_,func123,by kernel_rfl,by kernel_rfl⟩ λhu=>xW.clean ?_;refine zJ func123 RB λhf=>?_;refine yQ ?_;refine .gone hu (λk o hk=>?_) (by simp only [vw]);have:=(hu k o hk).1;simp only at this;show St.look (_ :: _) k=_;rw [xX,if_neg (by omega)]; exact hk
theorem V5 {nx:Nat} {xY:List (Nat × Ob)} {i t:Nat}:xW prog 125 [.agg [.int .i64 (i:Int),.int .i64 (t:Int)]] ⟨nx,xY⟩ (.bool true) ⟨nx,xY⟩:=by refine xW.wV ⟨_,func125,by kernel_rfl,by kernel_rfl⟩ λhu=>xW.clean ?_;refine zJ func125 RD λhf=>?_;refine yQ ?_;refine .gone hu (λk o hk=>?_) (by simp only [vw]);have:=(hu k o hk).1;simp only at this;show St.look (_ :: _) k=_;rw [xX,if_neg (by omega)]; exact hk
theorem Wz {nx:Nat} {xY:List (Nat × Ob)} {i t:Nat}:xW prog 128 [.agg [.int .i64 (i:Int),.int .i64 (t:Int)]] ⟨nx,xY⟩ (.bool false) ⟨nx,xY⟩:=by refine xW.wV ⟨_,func128,by kernel_rfl,by kernel_rfl⟩ λhu=>xW.clean ?_;refine zJ func128 RG λhf=>?_;refine yQ ?_;refine .gone hu (λk o hk=>?_) (by simp only [vw]);have:=(hu k o hk).1;simp only at this;show St.look (_ :: _) k=_;rw [xX,if_neg (by omega)]; exact hk
end
section
open Rs Fm Ru Te
namespace Te
theorem yP (R T:Nat) (φ:Nat × Nat->Bool):(xD R T φ).length=R:=by simp [xD]
theorem wP {R T:Nat} {φ:Nat × Nat->Bool} {i:Nat} (h:i<R):(xD R T φ).getD i [] = [.sl 1 (oD ((List.range T).map λt=>φ (i,t)))]:=by simp [xD,List.getD,h]
theorem vB {T i t:Nat} {φ:Nat × Nat->Bool} (h:t<T):(oD ((List.range T).map λt=>φ (i,t))).getD t [] = [.bool (φ (i,t))]:=by simp [oD,List.getD,h]
theorem wU (l:List Bool):(oD l).length=l.length:=by simp [oD]
end Te
theorem Tu {nx kx:Nat} {xY:List (Nat × Ob)} {R T:Nat} {φ:Nat × Nat->Bool} (hR:R<=1000) (hT:T<=1000) (hx:St.look xY kx=some ⟨1,[[.sl 1 (xD R T φ)]]⟩) {i t:Nat} (hi:i<R) (ht:t<T) :
  xW prog 82 ([.agg [.int .i64 (i:Int),.int .i64 (t:Int)]] ++ [.ref kx 1 0 0]) ⟨nx,xY⟩ (.bool (!φ (i,t))) ⟨nx,xY⟩:=by
 refine xW.wV ⟨_,func82,by kernel_rfl,by kernel_rfl⟩ λhu=>xW.clean ?_;have hk:=(hu kx _ hx).1;simp only at hk;have y1:¬ nx=kx:=by omega
 have g1:=wP (T:=T) (φ:=φ) hi;have g2:=vB (i:=i) (φ:=φ) ht;refine zJ func82 Mr λhf=>?_;simp only [simprocAttr,-ZA,↓zU,↓zD,zV,zT,zW,hx,y1,yP,g1,wU,μ,η,g2]
 (repeat refine sd ?_)
 refine .gone hu (λk o hk=>?_) (by simp only [vw]);have:=(hu k o hk).1;simp only at this;show St.look (_ :: _) k=_;rw [xX,if_neg (by omega)]; exact hk
end
section
open Rs Fm Ru Te
namespace Te
def U5 (T:Nat) (s:Int) (φ:Nat × Nat->Bool) (p:Nat × Nat):Bool:=decide (0<=(p.2:Int)+ s)&& (decide ((p.2:Int)+ s<T)&& φ (p.1,((p.2:Int)+ s).toNat))
end Te
theorem YF {nx k5 k3 k4 kc:Nat} {xY:List (Nat × Ob)} {rs:List xC} {A F T:Nat} {l:List (Nat × Nat)} {same:D} {φ:Nat × Nat->Bool} {s:Int} (ok:iE rs A F T) (hs:-1<=s/\s<=1)
  (h5:St.look xY k5=some ⟨1,[[.int .i64 s]]⟩) (h3:St.look xY k3=some ⟨1,[[.ref kc 6 0 0]]⟩) (h4:St.look xY k4=some ⟨1,[[.sl 1 (xD rs.length T φ)]]⟩)
  (hc:St.look xY kc=some ⟨6,[[.int .i64 (A:Int),.int .i64 (F:Int),.int .i64 (T:Int),.sl 2 (uR rs),.sl 2 (pZ l),same]]⟩) {i t:Nat} (hi:i<rs.length) (ht:t<T) :
  xW prog 127 ([.agg [.int .i64 (i:Int),.int .i64 (t:Int)]] ++ [.ref k5 1 0 0,.ref k3 1 0 0,.ref k4 1 0 0]) ⟨nx,xY⟩ (.bool (U5 T s φ (i,t))) ⟨nx,xY⟩:=by
 obtain⟨T1,T16⟩:=ok.hT;refine xW.wV ⟨_,func127,by kernel_rfl,by kernel_rfl⟩ λhu=>xW.clean ?_;have y5:¬ nx=k5:=by have:=(hu k5 _ h5).1; simp only at this; omega
 have y3:¬ nx=k3:=by have:=(hu k3 _ h3).1; simp only at this; omega
 have y4:¬ nx=k4:=by have:=(hu k4 _ h4).1; simp only at this; omega
 have yc:¬ nx=kc:=by have:=(hu kc _ hc).1; simp only at this; omega
 have hkeep:∀ (ob:Ob) k o,St.look xY k=some o->St.get ⟨nx+1,(nx,ob) :: xY⟩ k=some o:=λob k o hk=>by have:=(hu k o hk).1;simp only at this;show St.look (_ :: _) k=_;rw [xX,if_neg (by omega)]; exact hk
 have hw:IntKind.i64.wrap ((t:Int)+ s)= (t:Int)+ s:=wrap_i64 (by omega);have g1:=wP (T:=T) (φ:=φ) hi;unfold U5;simp only;refine zJ func127 RF λhf=>?_;by_cases e1:0<=(t:Int)+ s
 case neg=> refine WV h5 y5 hw e1 ?_;exact .gone hu (hkeep _) (by simp [vw])
 by_cases e2:(t:Int)+ s<(T:Int)
 case neg=> refine RS h5 h3 hc y5 y3 yc hw e1 e2 ?_;exact .gone hu (hkeep _) (by simp [vw])
 obtain⟨u,hu2⟩:=Af e1;rw [hu2] at hw e1 e2 ⊢;have g2:=vB (i:=i) (φ:=φ) (show u<T by omega);simp only [simprocAttr,-ZA,↓zU,↓zD,zV,zT,zW,h5,h3,h4,hc,y5,y3,y4,yc,hw,hu2,e1,e2,yP,g1,wU,μ,η,g2]
 (repeat refine sd ?_)
 exact .gone hu (hkeep _) (by simp only [vw])
end
section
open Rs Fm Ru Te
theorem cl {nx kc:Nat} {xY:List (Nat × Ob)} {rs:List xC} {A F T:Nat} {same:D} {φ:Nat × Nat->Bool} {s:Int} (ok:iE rs A F T) (hs:-1<=s/\s<=1)
  (hc:St.look xY kc=some ⟨6,[[.int .i64 (A:Int),.int .i64 (F:Int),.int .i64 (T:Int),.sl 2 (uR rs),.sl 2 (pZ (mZ T (rs.length*T))),same]]⟩) :
  xW prog 91 [.ref kc 6 0 0,.sl 1 (xD rs.length T φ),.int .i64 s] ⟨nx,xY⟩ (.sl 1 (xD rs.length T (U5 T s φ))) ⟨nx,xY⟩:=by
 refine xW.wV ⟨_,func91,by kernel_rfl,by kernel_rfl⟩ λhu=>xW.clean ?_;have hkc:=(hu kc _ hc).1;simp only at hkc
 have hkeep:∀ (a b c:Ob) k o,St.look xY k=some o->St.look ((nx+1+1,a) :: (nx+1,b) :: (nx,c) :: xY) k=some o:=λa b c k o hk=>by have:=(hu k o hk).1;simp only at this;rw [xX,if_neg (by omega),xX,if_neg (by omega),xX,if_neg (by omega)]; exact hk
 have hfill:=nY (nx:=nx+1+1+1) (kc:=kc) (xY:=(nx+1+1,⟨1,[[.int .i64 s]]⟩) :: (nx+1,⟨1,[[.sl 1 (xD rs.length T φ)]]⟩) :: (nx,⟨1,[[.ref kc 6 0 0]]⟩) :: xY) (g:=127) (caps:=[.ref (nx+1+1) 1 0 0,.ref nx 1 0 0,.ref (nx+1) 1 0 0]) (φ:=U5 T s φ) ok (hkeep _ _ _ _ _ hc) (λnx1 objs1 i t h1 h2 hi ht=> YF ok hs (by rw [h2 _ (by omega),xX,if_pos rfl]) (by rw [h2 _ (by omega),xX,if_neg (by omega),xX,if_neg (by omega),xX,if_pos rfl]) (by rw [h2 _ (by omega),xX,if_neg (by omega),xX,if_pos rfl]) (by rw [h2 _ (by omega)]; exact hkeep _ _ _ _ _ hc) hi ht)
 refine zJ func91 N0 λhf=>?_;have y1:¬ nx+1=nx:=by omega
 have y2:¬ nx+1+1=nx:=by omega
 refine zg y1 y2 ?_;refine .go hfill ?_;refine yQ ?_;exact .gone hu (hkeep _ _ _) (by simp only [vw]; exact⟨trivial,trivial⟩)
end
end Go.Pd
