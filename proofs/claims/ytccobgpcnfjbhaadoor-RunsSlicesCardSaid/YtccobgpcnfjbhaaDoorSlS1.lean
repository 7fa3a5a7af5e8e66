/- Part S1. -/
import Derived.Test.YtccobgpcnfjbhaaDoorSlF0
import Derived.Test.YtccobgpcnfjbhaaDoorSlX9
set_option linter.unusedSectionVars false
set_option linter.unusedVariables false
set_option linter.unusedSimpArgs false
set_option linter.defProp false
set_option maxRecDepth 20000
set_option maxHeartbeats 1000000
open Go.Proofs.Tryd
open List renaming drop_eq_nil_of_le->γ,any_cons->δ
namespace Go.Pd
open Go Go.Proofs
open BitVec renaming isValue -> ZA
namespace Ru
structure xG where
 loc:List (List Int)
 sK:List (BitVec 64)
structure vT where
 ag:Int
 fa:Int
 ln:Int
 rs:List xG
def xG.row (r:xG):List D:=[.sl 1 (rl r.loc),.sl 1 (us r.sK)]
def yL (l:List xG):List (List D):=l.map xG.row
def vT.cells (s:vT):List D:=[.int .i64 s.ag,.int .i64 s.fa,.int .i64 s.ln,.sl 2 (yL s.rs)]
def vT.d (s:vT):D:=.agg s.cells
def vH : xG:=⟨[],[]⟩
theorem xV (l:List xG):(yL l).length=l.length:=by simp [yL]
theorem uV (l:List xG) {i:Nat} (h:i<l.length):(yL l).getD i []=(l.getD i vH).row:=by simp [yL,List.getD,h]
theorem tg (l:List xG):∀ e ∈ yL l,D.xR e=true:=by intro e he;simp only [yL,List.mem_map] at he;obtain⟨r,_,rfl⟩:=he;rfl
def hZ {α:Type} (f:α->Bool):List α->Int->Int
 | [],_=>-1
 | x :: r,i=>if f x=true then i else hZ f r (i+1)
theorem kH {α:Type} {f:α->Bool}:∀ {c:List α} {i:Int},0<=i->(0<=hZ f c i ↔ c.any f=true)
 | [],i,_=>by simp [hZ]
 | x :: r,i,h=>by
  unfold hZ
  by_cases hx:f x=true
  ·rw [if_pos hx,δ,hx]; simp [h]
  ·rw [if_neg hx,kH (by omega),δ]; simp [hx]
def uQ (s:vT) (r:xG):Bool:=!decide ((r.loc.length:Int)= s.ln) || !decide ((r.sK.length:Int)= s.ln) || r.loc.any λl=>!decide ((l.length:Int)= s.ag)
def lW (s:vT) (r:xG):Bool:=r.sK.any λf=>!decide (f >>> s.fa.toNat=0#64)
def uA (s:vT):Int:=
 if s.ag<0\/4<s.ag\/s.fa<0\/8<s.fa\/s.ln<1\/16<s.ln then 2 else
 if 64<(s.rs.length:Int)\/512<(s.rs.length:Int)* s.ln then 8 else
 if s.rs.length=0 then 3 else if s.rs.any (uQ s)= true then 3 else if s.rs.any (lW s)= true then 2 else 0
end Ru
open Ru
theorem gn {σ:St} {g:FuncId} {caps:List D} {f:BitVec 64->Bool} {c:List (BitVec 64)} (hl:c.length<=1000) (h:∀ x ∈ c,xS prog g ([.int .u64 (ui x)]++caps) σ (.bool (f x)) σ):xS prog 50 [.sl 1 (us c),.fn g caps] σ (.int .i64 (hZ f c 0)) σ:=by
 refine wZ func50 YY λhf=>?_;refine wL yB ?_
 refine xL (λk:Nat=>[(8,.int .i64 k),(7,.int .i64 c.length),(1,.fn g caps),(0,.sl 1 (us c))]) (λ_=>σ) (λk=>k<=c.length/\hZ f c 0=hZ f (c.drop k) k) (λk=>c.length-k) 0 ⟨Nat.zero_le _,rfl⟩ ?_ ?_
 ·exact uM
 intro k ⟨hk,hi⟩;refine yW mixed ?_
 by_cases hh:k<c.length
 ·have hd:((k:Int)<(c.length:Int)):=by omega
  rw [drop_cons (d:=0) hh,hZ] at hi;simp only [simprocAttr,-ZA,↓zU,↓zD,zV,zT,zW,hd,yB,pL _ hh]
  (repeat refine sd ?_)
  refine .go (h _ (zF hh)) ?_
  cases hx:f (c.getD k 0)
  ·rw [hx,if_neg (by simp)] at hi;refine yF ?_;refine⟨k+1,⟨by omega,hi⟩,?_,by omega⟩;exact oA
  ·rw [hx,if_pos rfl] at hi;refine yF ?_;rw [hi];exact .same
 ·have hd:¬ ((k:Int)<(c.length:Int)):=by omega
  rw [γ (by omega),hZ] at hi;refine wL hd ?_;rw [hi];exact .same
theorem iG {σ:St} {g:FuncId} {caps:List D} {f:BitVec 64->Bool} {c:List (BitVec 64)} (hl:c.length<=1000) (h:∀ x ∈ c,xS prog g ([.int .u64 (ui x)]++caps) σ (.bool (f x)) σ):xS prog 36 [.sl 1 (us c),.fn g caps] σ (.bool (c.any f)) σ:=by
 refine wZ func36 YR λhf=>?_;refine yF ?_;refine .go (gn hl h) ?_;have hx:=kH (f:=f) (c:=c) (i:=0) (Int.le_refl 0)
 cases ha:c.any f
 ·have h1:¬ 0<=hZ f c 0:=λy=>by rw [hx.1 y] at ha; cases ha
  refine wL h1 ?_;exact .same
 ·have h1:=hx.2 ha;refine wL h1 ?_;exact .same
theorem gm {σ:St} {g:FuncId} {caps:List D} {f:List Int->Bool} {l:List (List Int)} (hl:l.length<=1000) (h:∀ x ∈ l,xS prog g ([.sl 1 (rows .i64 x)]++caps) σ (.bool (f x)) σ):xS prog 49 [.sl 1 (rl l),.fn g caps] σ (.int .i64 (hZ f l 0)) σ:=by
 refine wZ func49 YZ λhf=>?_;refine wL yR ?_
 refine xL (λk:Nat=>[(8,.int .i64 k),(7,.int .i64 l.length),(1,.fn g caps),(0,.sl 1 (rl l))]) (λ_=>σ) (λk=>k<=l.length/\hZ f l 0=hZ f (l.drop k) k) (λk=>l.length-k) 0 ⟨Nat.zero_le _,rfl⟩ ?_ ?_
 ·exact uM
 intro k ⟨hk,hi⟩;refine yW mixed ?_
 by_cases hh:k<l.length
 ·have hd:((k:Int)<(l.length:Int)):=by omega
  rw [drop_cons (d:=[]) hh,hZ] at hi;simp only [simprocAttr,-ZA,↓zU,↓zD,zV,zT,zW,hd,yR,lU _ hh]
  (repeat refine sd ?_)
  refine .go (h _ (zF hh)) ?_
  cases hx:f (l.getD k [])
  ·rw [hx,if_neg (by simp)] at hi;refine yF ?_;refine⟨k+1,⟨by omega,hi⟩,?_,by omega⟩;exact oA
  ·rw [hx,if_pos rfl] at hi;refine yF ?_;rw [hi];exact .same
 ·have hd:¬ ((k:Int)<(l.length:Int)):=by omega
  rw [γ (by omega),hZ] at hi;refine wL hd ?_;rw [hi];exact .same
theorem zb {σ:St} {g:FuncId} {caps:List D} {f:List Int->Bool} {l:List (List Int)} (hl:l.length<=1000) (h:∀ x ∈ l,xS prog g ([.sl 1 (rows .i64 x)]++caps) σ (.bool (f x)) σ):xS prog 34 [.sl 1 (rl l),.fn g caps] σ (.bool (l.any f)) σ:=by
 refine wZ func34 YP λhf=>?_;refine yF ?_;refine .go (gm hl h) ?_;have hx:=kH (f:=f) (c:=l) (i:=0) (Int.le_refl 0)
 cases ha:l.any f
 ·have h1:¬ 0<=hZ f l 0:=λy=>by rw [hx.1 y] at ha; cases ha
  refine wL h1 ?_;exact .same
 ·have h1:=hx.2 ha;refine wL h1 ?_;exact .same
theorem ai {nx:Nat} {xZ:List (Nat × Ob)} {s:vT} (h0:St.look xZ 0=some ⟨4,[s.cells]⟩) (x:List Int):xS prog 35 ([.sl 1 (rows .i64 x)] ++ [.ref 0 4 0 0]) ⟨nx,xZ⟩ (.bool (!decide ((x.length:Int)= s.ag))) ⟨nx,xZ⟩:=by refine wZ func35 YQ λhf=>?_;unfold vT.cells at h0;refine mD h0 ?_;rw [show ((x.length:Int) != s.ag)= !decide ((x.length:Int)= s.ag) by rw [bne]; congr 1];exact .same
theorem n9 {nx:Nat} {xZ:List (Nat × Ob)} {s:vT} (h0:St.look xZ 0=some ⟨4,[s.cells]⟩) (hf:0<=s.fa) (x:BitVec 64):xS prog 37 ([.int .u64 (ui x)] ++ [.ref 0 4 0 0]) ⟨nx,xZ⟩ (.bool (!decide (x >>> s.fa.toNat=0#64))) ⟨nx,xZ⟩:=by refine wZ func37 YS λhf=>?_;unfold vT.cells at h0;refine mD h0 ?_;rw [show (x >>> s.fa.toNat != 0#64)= !decide (x >>> s.fa.toNat=0#64) by rw [bne]; congr 1];exact .same
theorem kE (s:vT):wP prog 19 [s.d] (.int .i64 (uA s)):=by
 have hD:s.d = .agg [.int .i64 s.ag,.int .i64 s.fa,.int .i64 s.ln,.sl 2 (yL s.rs)]:=rfl;rw [hD];refine wZ func19 YG λhf=>?_
 by_cases a1:s.ag<0
 ·rw [show uA s=2 by unfold uA; rw [if_pos (.inl a1)]];refine wL a1 ?_;exact .dv
 by_cases a2:4<s.ag
 ·rw [show uA s=2 by unfold uA; rw [if_pos (by omega)]];refine rW a1 a2 ?_;exact .dv
 by_cases a3:s.fa<0
 ·rw [show uA s=2 by unfold uA; rw [if_pos (by omega)]];refine qi a1 a2 a3 ?_;exact .dv
 by_cases a4:8<s.fa
 ·rw [show uA s=2 by unfold uA; rw [if_pos (by omega)]];refine jt a1 a2 a3 a4 ?_;exact .dv
 by_cases a5:s.ln<1
 ·rw [show uA s=2 by unfold uA; rw [if_pos (by omega)]];refine u6 a1 a2 a3 a4 a5 ?_;exact .dv
 by_cases a6:16<s.ln
 ·rw [show uA s=2 by unfold uA; rw [if_pos (by omega)]];refine u7 a1 a2 a3 a4 a5 a6 ?_;exact .dv
 have e0:uA s=if 64<(s.rs.length:Int)\/512<(s.rs.length:Int)* s.ln then 8 else
  if s.rs.length=0 then 3 else if s.rs.any (uQ s)= true then 3 else if s.rs.any (lW s)= true then 2 else 0:=by
  unfold uA; rw [if_neg (by omega)]
 by_cases b1:64<(s.rs.length:Int)
 ·rw [e0,if_pos (.inl b1)];refine u9 a1 a2 a3 a4 a5 a6 xV b1 ?_;exact .dv
 have hm:(s.rs.length:Int)* s.ln<=64*16:=Int.mul_le_mul (by omega) (by omega) (by omega) (by omega);have hm0:0<=(s.rs.length:Int)* s.ln:=Int.mul_nonneg (by omega) (by omega);have hw:IntKind.i64.wrap ((s.rs.length:Int)* s.ln)= (s.rs.length:Int)* s.ln:=wrap_i64 (by omega)
 by_cases b2:512<(s.rs.length:Int)* s.ln
 ·rw [e0,if_pos (.inr b2)];refine eo a1 a2 a3 a4 a5 a6 xV b1 hw b2 ?_;exact .dv
 rw [e0,if_neg (by omega)]
 by_cases b3:s.rs.length=0
 ·rw [if_pos b3];have b3':((s.rs.length:Int)== 0)= true:=by rw [b3]; rfl
  refine wg a1 a2 a3 a4 a5 a6 xV b1 hw b2 b3' ?_;exact .dv
 rw [if_neg b3];have b3':((s.rs.length:Int)== 0)= false:=by rw [beq_eq_false_iff_ne]; omega
 refine wg a1 a2 a3 a4 a5 a6 xV b1 hw b2 b3' ?_
 refine xL (λk:Nat=>[(55,.int .i64 k),(54,.int .i64 s.rs.length),(53,.sl 2 (yL s.rs)),(1,.ref 0 4 0 0)]) (λ_=>⟨1,[(0,⟨4,[[.int .i64 s.ag,.int .i64 s.fa,.int .i64 s.ln,.sl 2 (yL s.rs)]]⟩)]⟩)
  (λk=>k<=s.rs.length/\s.rs.any (uQ s)= (s.rs.drop k).any (uQ s)) (λk=>s.rs.length-k) 0 ⟨Nat.zero_le _,rfl⟩ ?_ ?_
 ·exact uM
 intro k ⟨hk,hi⟩;refine yW mixed ?_;by_cases hkl:k<s.rs.length
 case neg=>
  have hd:¬ ((k:Int)<(s.rs.length:Int)):=by omega
  rw [γ (by omega),List.any_nil] at hi;rw [if_neg (by rw [hi]; simp)];refine rW hd xV ?_
  refine xL (λk:Nat=>[(83,.int .i64 k),(82,.int .i64 s.rs.length),(81,.sl 2 (yL s.rs)),(1,.ref 0 4 0 0)]) (λ_=>⟨1,[(0,⟨4,[[.int .i64 s.ag,.int .i64 s.fa,.int .i64 s.ln,.sl 2 (yL s.rs)]]⟩)]⟩)
   (λk=>k<=s.rs.length/\s.rs.any (lW s)= (s.rs.drop k).any (lW s)) (λk=>s.rs.length-k) 0 ⟨Nat.zero_le _,rfl⟩ ?_ ?_
  ·exact uM
  intro k ⟨hk,hv⟩;refine yW mixed ?_;by_cases hkl:k<s.rs.length
  case neg=>
   have hd:¬ ((k:Int)<(s.rs.length:Int)):=by omega
   rw [γ (by omega),List.any_nil] at hv;rw [if_neg (by rw [hv]; simp)];refine wL hd ?_;exact .dv
  have hd:((k:Int)<(s.rs.length:Int)):=by omega
  rw [drop_cons (d:=vH) hkl,δ] at hv
  have hnb:uQ s (s.rs.getD k vH)= false:=by have:=List.any_eq_false.1 hi _ (zF (d:=vH) hkl);simpa using this
  have hg:=uV s.rs hkl;generalize s.rs.getD k vH=r at hg hv hnb
  have hfl:r.sK.length<=1000:=by simp only [uQ,Bool.or_eq_false_iff,Bool.not_eq_false',decide_eq_true_eq] at hnb;omega
  have hc:=iG (σ:=⟨2,[(1,⟨2,[r.row]⟩),(0,⟨4,[s.cells]⟩)]⟩) (g:=37) (caps:=[.ref 0 4 0 0]) (c:=r.sK) (f:=λf=>!decide (f >>> s.fa.toNat=0#64)) hfl λx _=>n9 rfl (by omega) x;simp only [vT.cells,xG.row] at hc;simp only [simprocAttr,-ZA,↓zU,↓zD,zV,zT,zW,hd,xV,hg,xG.row]
  (repeat refine sd ?_)
  refine .go hc ?_
  cases hb:r.sK.any λf=>!decide (f >>> s.fa.toNat=0#64)
  ·refine yF ?_
   refine⟨k+1,⟨by omega,?_⟩,?_,by omega⟩
   ·rw [hv,show lW s r=false from hb,Bool.false_or]
   exact xi [] [0]
  ·rw [if_pos (by rw [hv,show lW s r=true from hb,Bool.true_or])];refine yF ?_;exact .dv
 have hd:((k:Int)<(s.rs.length:Int)):=by omega
 rw [drop_cons (d:=vH) hkl,δ] at hi;have hg:=uV s.rs hkl;generalize s.rs.getD k vH=r at hg hi;have hend:uQ s r=true->s.rs.any (uQ s)= true:=λh=>by rw [hi,h,Bool.true_or]
 by_cases c1:(r.loc.length:Int)= s.ln
 case neg=>
  have e1:((r.loc.length:Int) != s.ln)= true:=by simpa using c1
  rw [if_pos (hend (by unfold uQ; simp [c1]))];simp only [simprocAttr,-ZA,↓zU,↓zD,zV,zT,zW,hd,xV,hg,xG.row,yR,e1]
  (repeat refine sd ?_)
  exact .dv
 have e1:((r.loc.length:Int) != s.ln)= false:=by simpa using c1
 by_cases c2:(r.sK.length:Int)= s.ln
 case neg=>
  have e2:((r.sK.length:Int) != s.ln)= true:=by simpa using c2
  rw [if_pos (hend (by unfold uQ; simp [c2]))];simp only [simprocAttr,-ZA,↓zU,↓zD,zV,zT,zW,hd,xV,hg,xG.row,yR,e1,yB,e2]
  (repeat refine sd ?_)
  exact .dv
 have e2:((r.sK.length:Int) != s.ln)= false:=by simpa using c2
 have hc:=zb (σ:=⟨2,[(1,⟨2,[r.row]⟩),(0,⟨4,[s.cells]⟩)]⟩) (g:=35) (caps:=[.ref 0 4 0 0]) (l:=r.loc) (f:=λl=>!decide ((l.length:Int)= s.ag)) (by omega) λx _=>ai rfl x;simp only [vT.cells,xG.row] at hc;have hbf:uQ s r=r.loc.any λl=>!decide ((l.length:Int)= s.ag):=by unfold uQ; simp [c1,c2]
 simp only [simprocAttr,-ZA,↓zU,↓zD,zV,zT,zW,hd,xV,hg,xG.row,yR,e1,yB,e2]
 (repeat refine sd ?_)
 refine .go hc ?_;rw [<- hbf]
 cases hb:uQ s r
 ·refine yF ?_
  refine⟨k+1,⟨by omega,?_⟩,?_,by omega⟩
  ·rw [hi,hb,Bool.false_or]
  exact xi [] [0]
 ·rw [if_pos (hend hb)];refine yF ?_;exact .dv
end Go.Pd
