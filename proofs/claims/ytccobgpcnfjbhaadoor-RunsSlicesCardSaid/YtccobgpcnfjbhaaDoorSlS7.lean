/- Part S7. -/
import Derived.Test.YtccobgpcnfjbhaaDoorSlS5
set_option linter.unusedSectionVars false
set_option linter.unusedVariables false
set_option linter.unusedSimpArgs false
set_option linter.defProp false
set_option maxRecDepth 20000
set_option maxHeartbeats 1000000
open Go.Proofs.Tryd
open List renaming any_eq_false->γ
namespace Go.Pd
open Go Go.Proofs
open BitVec renaming isValue -> ZA
namespace Ru
structure uP where
 W:Int
 V:List (BitVec 64)
 R:List (List (BitVec 64))
def uP.d (m:uP):D:=.agg [.int .i64 m.W,.sl 1 (us m.V),.sl 1 (rr m.R)]
def xe (n:Nat):BitVec 64:=if 64<=n then 18446744073709551615#64 else 1#64 <<< n-1#64
def lX (n:Nat) (x:BitVec 64):Bool:=!decide (x &&& ~~~(xe n)= 0#64)
structure pg (m : uP) (W : Nat) : Prop where
 w:m.W=W
 hW:1<=W/\W<=64
 hV:m.V.length<=8
 hR:m.R.length<=4
 row:∀ r ∈ m.R,r.length=W
 val:∀ x ∈ m.V,lX W x=false
 rel:∀ r ∈ m.R,∀ x ∈ r,lX W x=false
theorem jx {n:Nat} (hn:n<=64) {i:Nat} (hi:i<64):(xe n).getLsbD i=decide (i<n):=by
 unfold xe
 by_cases h:64<=n
 ·rw [if_pos h,show 18446744073709551615#64=BitVec.allOnes 64 from rfl,BitVec.getLsbD_allOnes];simp [hi]; omega
 ·rw [if_neg h];have:∀ n,n<64->∀ i,i<64->(1#64 <<< n-1#64).getLsbD i=decide (i<n):=by decide
  exact this n (by omega) i hi
theorem eH {n:Nat} (hn:n<=64) {x:BitVec 64} (h:∀ i,x.getLsbD i=true->i<n):lX n x=false:=by
 unfold lX;rw [Bool.not_eq_false',decide_eq_true_iff];refine BitVec.eq_of_getLsbD_eq λi hi=>?_;rw [BitVec.getLsbD_and,BitVec.getLsbD_not,jx hn hi,BitVec.getLsbD_zero]
 cases hx:x.getLsbD i
 ·rfl
 ·simp [h i hx]
end Ru
open Ru
theorem gl {σ:St} {g:FuncId} {caps:List D} {f:List (BitVec 64)->Bool} {l:List (List (BitVec 64))} (hl:l.length<=1000) (h:∀ x ∈ l,xS prog g ([.sl 1 (us x)]++caps) σ (.bool (f x)) σ):xS prog 52 [.sl 1 (rr l),.fn g caps] σ (.int .i64 (hZ f l 0)) σ:=by
 refine wZ func52 Ya λhf=>?_;refine wL tB ?_
 refine xL (λk:Nat=>[(8,.int .i64 k),(7,.int .i64 l.length),(1,.fn g caps),(0,.sl 1 (rr l))]) (λ_=>σ) (λk=>k<=l.length/\hZ f l 0=hZ f (l.drop k) k) (λk=>l.length-k) 0 ⟨Nat.zero_le _,rfl⟩ ?_ ?_
 ·exact uM
 intro k ⟨hk,hi⟩;refine yW mixed ?_
 by_cases hh:k<l.length
 ·have hd:((k:Int)<(l.length:Int)):=by omega
  rw [drop_cons (d:=[]) hh,hZ] at hi;simp only [simprocAttr,-ZA,↓zU,↓zD,zV,zT,zW,hd,tB,jV _ hh]
  (repeat refine sd ?_)
  refine .go (h _ (zF hh)) ?_
  cases hx:f (l.getD k [])
  ·rw [hx,if_neg (by simp)] at hi;refine yF ?_;refine⟨k+1,⟨by omega,hi⟩,?_,by omega⟩;exact oA
  ·rw [hx,if_pos rfl] at hi;refine yF ?_;rw [hi];exact .same
 ·have hd:¬ ((k:Int)<(l.length:Int)):=by omega
  rw [List.drop_eq_nil_of_le (by omega),hZ] at hi;refine wL hd ?_;rw [hi];exact .same
theorem za {σ:St} {g:FuncId} {caps:List D} {f:List (BitVec 64)->Bool} {l:List (List (BitVec 64))} (hl:l.length<=1000) (h:∀ x ∈ l,xS prog g ([.sl 1 (us x)]++caps) σ (.bool (f x)) σ):xS prog 39 [.sl 1 (rr l),.fn g caps] σ (.bool (l.any f)) σ:=by
 refine wZ func39 YU λhf=>?_;refine yF ?_;refine .go (gl hl h) ?_;have hx:=kH (f:=f) (c:=l) (i:=0) (Int.le_refl 0)
 cases ha:l.any f
 ·have h1:¬ 0<=hZ f l 0:=λy=>by rw [hx.1 y] at ha; cases ha
  refine wL h1 ?_;exact .same
 ·have h1:=hx.2 ha;refine wL h1 ?_;exact .same
theorem du (n:Nat):wP prog 25 [.int .i64 n] (.int .u64 (ui (xe n))):=by
 refine wZ func25 YL λhf=>?_;unfold xe
 by_cases h:64<=n
 ·have e:(64:Int)<=(n:Int):=by omega
  rw [if_pos h];refine wL e ?_;exact .same
 ·have e:¬ (64:Int)<=(n:Int):=by omega
  rw [if_neg h];refine mD e ?_;exact .same
theorem l9 {n nx:Nat} {xZ:List (Nat × Ob)} {k:Nat} (h0:St.look xZ k=some ⟨1,[[.int .i64 n]]⟩) (x:BitVec 64):xS prog 51 ([.int .u64 (ui x)] ++ [.ref k 1 0 0]) ⟨nx,xZ⟩ (.bool (lX n x)) ⟨nx,xZ⟩:=by refine wZ func51 YX λhf=>?_;refine mD h0 ?_;refine .go (cq (du n)) ?_;refine yF ?_;rw [show (x &&& ~~~(xe n) != 0#64)= lX n x by unfold lX; rw [bne]; congr 1];exact .same
theorem fU {l:List (BitVec 64)} (hl:l.length<=1000) (n:Nat):wP prog 38 [.sl 1 (us l),.int .i64 n] (.bool (l.any (lX n))):=by refine wZ func38 YT λhf=>?_;refine yF ?_;refine .go (iG (caps:=[.ref 0 1 0 0]) hl λx _=>l9 rfl x) ?_;refine yF ?_;exact .dv
theorem j7 {m:uP} {W:Nat} (hw:m.W=W) {nx:Nat} {xZ:List (Nat × Ob)} (h0:St.look xZ 0=some ⟨3,[[.int .i64 m.W,.sl 1 (us m.V),.sl 1 (rr m.R)]]⟩) {x:List (BitVec 64)} (hx:x.length<=1000):xS prog 40 ([.sl 1 (us x)] ++ [.ref 0 3 0 0]) ⟨nx,xZ⟩ (.bool (x.any (lX W))) ⟨nx,xZ⟩:=by refine wZ func40 YV λhf=>?_;refine cP h0 hw ?_;refine .go (cr (fU hx W)) ?_;refine yF ?_;exact .same
theorem iO {m:uP} {W:Nat} (ok:pg m W):wP prog 21 [m.d] (.int .i64 0):=by
 obtain⟨W1,W64⟩:=ok.hW;have h1:¬ (W:Int)<1:=by omega
 have h2:¬ (64:Int)<(W:Int):=by omega
 have h3:¬ (4:Int)<(m.R.length:Int):=by have:=ok.hR; omega
 have h4:¬ (8:Int)<(m.V.length:Int):=by have:=ok.hV; omega
 have hv:m.V.any (lX W)= false:=γ.2 λx hx=>by rw [ok.val x hx]; simp
 have hr:m.R.any (λx=>x.any (lX W))= false:=γ.2 λx hx=>by rw [γ.2 λy hy=>by rw [ok.rel x hx y hy]; simp]; simp
 have ho:=fU (l:=m.V) (by have:=ok.hV; omega) W;have hc:=za (σ:=⟨1,[(0,⟨3,[[.int .i64 m.W,.sl 1 (us m.V),.sl 1 (rr m.R)]]⟩)]⟩) (g:=40) (caps:=[.ref 0 3 0 0]) (f:=λx=>x.any (lX W)) (l:=m.R) (by have:=ok.hR; omega) λx hx=>j7 ok.w rfl (by rw [ok.row x hx]; omega);rw [hv] at ho;rw [hr,ok.w] at hc;unfold uP.d;refine wZ func21 YI λhf=>?_;simp only [simprocAttr,-ZA,↓zU,↓zD,zV,zT,zW,ok.w,h1,h2,tB,yB,h3,h4]
 refine xL (λk:Nat=>[(26,.int .i64 k),(25,.int .i64 m.R.length),(24,.sl 1 (rr m.R)),(1,.ref 0 3 0 0)]) (λ_=>⟨1,[(0,⟨3,[[.int .i64 W,.sl 1 (us m.V),.sl 1 (rr m.R)]]⟩)]⟩)
  (λk=>k<=m.R.length) (λk=>m.R.length-k) 0 (Nat.zero_le _) ?_ ?_
 ·exact uM
 intro k hk;refine yW mixed ?_
 by_cases h:k<m.R.length
 ·have hd:((k:Int)<(m.R.length:Int)):=by omega
  have hrw:=ok.row _ (zF (d:=[]) h);have hg:=jV m.R h;generalize m.R.getD k []=r at hrw hg;have e:((r.length:Int) != (W:Int))= false:=by rw [hrw]; simp
  refine v8 hd tB hg yB e ?_;refine⟨k+1,by omega,?_,by omega⟩;exact oA
 ·have hd:¬ ((k:Int)<(m.R.length:Int)):=by omega
  refine wL hd ?_;refine .go (cr ho) ?_;refine yF ?_;refine .go hc ?_;refine yF ?_;exact .dv
end Go.Pd
