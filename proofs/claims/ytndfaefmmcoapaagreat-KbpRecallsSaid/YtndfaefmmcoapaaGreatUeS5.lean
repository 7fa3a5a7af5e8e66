/- Part S5. -/
import Derived.Test.YtndfaefmmcoapaaGreatUeKG
import Derived.Test.YtndfaefmmcoapaaGreatUeP7
set_option linter.unusedSectionVars false
set_option linter.unusedVariables false
set_option linter.unusedSimpArgs false
set_option linter.defProp false
set_option maxRecDepth 20000
set_option maxHeartbeats 1000000
namespace Go.Pd
open Go Go.Proofs
open Ru
namespace Ru
def aX5 (F:Nat) (g h:Nat->BitVec 64) (i:Nat):List (BitVec 64):=(List.range F).map fun f=>if f<i then g f else h f
theorem aXc (F:Nat) (g h:Nat->BitVec 64) (i:Nat):(aX5 F g h i).length=F:=by simp [aX5]
theorem aZe (F:Nat) (g h:Nat->BitVec 64):aX5 F g h 0=(List.range F).map h:=by simp [aX5]
theorem aSr (F:Nat) (g h:Nat->BitVec 64) {i:Nat} (hi:F<=i):aX5 F g h i=(List.range F).map g:=by refine List.map_congr_left fun f hf=>?_;rw [if_pos (by have:=List.mem_range.1 hf; omega)]
theorem aSq {F:Nat} (g h:Nat->BitVec 64) {i:Nat} (hi:i<F):(aX5 F g h i).getD i 0=h i:=by simp [aX5,List.getD,hi]
theorem aSp (F:Nat) (g h:Nat->BitVec 64) (i:Nat):(aX5 F g h i).set i (g i)= aX5 F g h (i+1):=by
 refine List.ext_getElem (by simp [aX5]) fun k h1 h2=>?_;rw [List.getElem_set];simp only [aX5,List.getElem_map,List.getElem_range]
 by_cases e:i=k
 ·subst e; rw [if_pos rfl,if_pos (by omega)]
 ·rw [if_neg e]
  by_cases hk:k<i
  ·rw [if_pos hk,if_pos (by omega)]
  ·rw [if_neg hk,if_neg (by omega)]
theorem aB5 (x:BitVec 64) (f w:Nat):(x >>> f &&& 1#64) <<< w=if x.getLsbD f then 1#64 <<< w else 0#64:=by
 rw [aRk]
 split
 ·rfl
 ·exact BitVec.zero_shiftLeft _
end Ru
end Go.Pd

/- Part S7. -/
namespace Go.Pd
open Go Go.Proofs
open BitVec renaming isValue -> ZA
namespace Ru
structure oB where
 W:Int
 V:List (BitVec 64)
 R:List (List (BitVec 64))
def oB.d (m:oB):D:=.agg [.int .i64 m.W,.sl 1 (us m.V),.sl 1 (rr m.R)]
def qE (n:Nat):BitVec 64:=if 64<=n then 18446744073709551615#64 else 1#64 <<< n-1#64
def aW3 (n:Nat) (x:BitVec 64):Bool:=!decide (x &&& ~~~(qE n)= 0#64)
structure mT (m : oB) (W : Nat) : Prop where
 w:m.W=W
 hW:1<=W/\W<=64
 hV:m.V.length<=8
 hR:m.R.length<=4
 row:∀ r ∈ m.R,r.length=W
 val:∀ x ∈ m.V,aW3 W x=false
 rel:∀ r ∈ m.R,∀ x ∈ r,aW3 W x=false
theorem rX {n:Nat} (hn:n<=64) {i:Nat} (hi:i<64):(qE n).getLsbD i=decide (i<n):=by
 unfold qE
 by_cases h:64<=n
 ·rw [if_pos h,show 18446744073709551615#64=BitVec.allOnes 64 from rfl,BitVec.getLsbD_allOnes];simp [hi]; omega
 ·rw [if_neg h];have:∀ n,n<64->∀ i,i<64->(1#64 <<< n-1#64).getLsbD i=decide (i<n):=by decide
  exact this n (by omega) i hi
theorem aVx {n:Nat} (hn:n<=64) {x:BitVec 64} (h:∀ i,x.getLsbD i=true->i<n):aW3 n x=false:=by
 unfold aW3;rw [Bool.not_eq_false',decide_eq_true_iff];refine BitVec.eq_of_getLsbD_eq fun i hi=>?_;rw [BitVec.getLsbD_and,BitVec.getLsbD_not,rX hn hi,BitVec.getLsbD_zero]
 cases hx:x.getLsbD i
 ·rfl
 ·simp [h i hx]
end Ru
open Ru
theorem aBg {σ:St} {g:FuncId} {caps:List D} {f:List (BitVec 64)->Bool} {l:List (List (BitVec 64))} (hl:l.length<=1000) (h:∀ x ∈ l,xX Tryz.prog g ([.sl 1 (us x)]++caps) σ (.bool (f x)) σ):xX Tryz.prog 199 [.sl 1 (rr l),.fn g caps] σ (.int .i64 (ixF f l 0)) σ:=by
 refine xX.xP mixed Tryz.func199 bUt (by simp) fun hf=>?_;simp only [simprocAttr,-ZA,↓zU,↓zD,zV,zT,zW,zM]
 refine xW (fun k:Nat=>[(8,.int .i64 k),(7,.int .i64 l.length),(1,.fn g caps),(0,.sl 1 (rr l))]) (fun _=>σ) (fun k=>k<=l.length/\ixF f l 0=ixF f (l.drop k) k) (fun k=>l.length-k) 0 ⟨Nat.zero_le _,rfl⟩ ?_ ?_
 ·(refine xI.same ?_; simp [xR,Fr.get])
 intro k ⟨hk,hi⟩;refine xQ mixed ?_
 by_cases hh:k<l.length
 ·have hd:((k:Int)<(l.length:Int)):=by omega
  rw [drop_cons (d:=[]) hh,ixF] at hi;simp only [simprocAttr,-ZA,↓zU,↓zD,zV,zT,zW,hd,zM,nX _ hh]
  (repeat refine sd ?_)
  refine .go (h _ (xN hh)) ?_
  cases hx:f (l.getD k [])
  ·rw [hx,if_neg (by simp)] at hi;simp only [simprocAttr,-ZA,↓zU,↓zD,zV,zT,zW];refine⟨k+1,⟨by omega,hi⟩,?_,by omega⟩
   (refine xI.same ?_; simp only [xR,Fr.get,simprocAttr,-ZA,zS])
   exact wrap_i64 (by omega)
  ·rw [hx,if_pos rfl] at hi;simp only [simprocAttr,-ZA,↓zU,↓zD,zV,zT,zW];rw [hi];exact .same
 ·have hd:¬ ((k:Int)<(l.length:Int)):=by omega
  rw [List.drop_eq_nil_of_le (by omega),ixF] at hi;simp only [simprocAttr,-ZA,↓zU,↓zD,zV,zT,zW,hd];rw [hi];exact .same
theorem aPz {σ:St} {g:FuncId} {caps:List D} {f:List (BitVec 64)->Bool} {l:List (List (BitVec 64))} (hl:l.length<=1000) (h:∀ x ∈ l,xX Tryz.prog g ([.sl 1 (us x)]++caps) σ (.bool (f x)) σ):xX Tryz.prog 139 [.sl 1 (rr l),.fn g caps] σ (.bool (l.any f)) σ:=by
 refine xX.xP mixed Tryz.func139 bTj (by simp) fun hf=>?_;simp only [simprocAttr,-ZA,↓zU,↓zD,zV,zT,zW];refine .go (aBg hl h) ?_;have hx:=nN (f:=f) (c:=l) (i:=0) (Int.le_refl 0)
 cases ha:l.any f
 ·have h1:¬ 0<=ixF f l 0:=fun y=>by rw [hx.1 y] at ha; cases ha
  simp only [simprocAttr,-ZA,↓zU,↓zD,zV,zT,zW,h1];exact .same
 ·have h1:=hx.2 ha;simp only [simprocAttr,-ZA,↓zU,↓zD,zV,zT,zW,h1];exact .same
theorem bVb (n:Nat):yV Tryz.prog 198 [.int .i64 n] (.int .u64 (ui (qE n))):=by
 refine xX.xP mixed Tryz.func198 bUu (by simp) fun hf=>?_;unfold qE
 by_cases h:64<=n
 ·have e:(64:Int)<=(n:Int):=by omega
  rw [if_pos h];simp only [simprocAttr,-ZA,↓zU,↓zD,zV,zT,zW,e];exact .same
 ·have e:¬ (64:Int)<=(n:Int):=by omega
  rw [if_neg h];simp only [simprocAttr,-ZA,↓zU,↓zD,zV,zT,zW,e]
  (repeat refine sd ?_)
  exact .same
theorem bWt {n nx:Nat} {xS:List (Nat × Ob)} {k:Nat} (h0:St.look xS k=some ⟨1,[[.int .i64 n]]⟩) (x:BitVec 64):xX Tryz.prog 197 ([.int .u64 (ui x)] ++ [.ref k 1 0 0]) ⟨nx,xS⟩ (.bool (aW3 n x)) ⟨nx,xS⟩:=by
 refine xX.xP mixed Tryz.func197 bUv (by simp) fun hf=>?_;simp only [simprocAttr,-ZA,↓zU,↓zD,zV,zT,zW,h0]
 (repeat refine sd ?_)
 refine .go (cq (bVb n)) ?_;simp only [simprocAttr,-ZA,↓zU,↓zD,zV,zT,zW];rw [show (x &&& ~~~(qE n) != 0#64)= aW3 n x by unfold aW3; rw [bne]; congr 1];exact .same
theorem aZb {l:List (BitVec 64)} (hl:l.length<=1000) (n:Nat):yV Tryz.prog 138 [.sl 1 (us l),.int .i64 n] (.bool (l.any (aW3 n))):=by refine xX.xP mixed Tryz.func138 bTk (by simp) fun hf=>?_;simp only [simprocAttr,-ZA,↓zU,↓zD,zV,zT,zW];refine .go (oH (caps:=[.ref 0 1 0 0]) hl fun x _=>bWt rfl x) ?_;simp only [simprocAttr,-ZA,↓zU,↓zD,zV,zT,zW];exact .dv
theorem bW5 {m:oB} {W:Nat} (hw:m.W=W) {nx:Nat} {xS:List (Nat × Ob)} (h0:St.look xS 0=some ⟨3,[[.int .i64 m.W,.sl 1 (us m.V),.sl 1 (rr m.R)]]⟩) {x:List (BitVec 64)} (hx:x.length<=1000):xX Tryz.prog 140 ([.sl 1 (us x)] ++ [.ref 0 3 0 0]) ⟨nx,xS⟩ (.bool (x.any (aW3 W))) ⟨nx,xS⟩:=by
 refine xX.xP mixed Tryz.func140 bTi (by simp) fun hf=>?_;simp only [simprocAttr,-ZA,↓zU,↓zD,zV,zT,zW,h0,hw]
 (repeat refine sd ?_)
 refine .go (cr (aZb hx W)) ?_;simp only [simprocAttr,-ZA,↓zU,↓zD,zV,zT,zW];exact .same
theorem cE {m:oB} {W:Nat} (ok:mT m W):yV Tryz.prog 90 [m.d] (.int .i64 0):=by
 obtain⟨W1,W64⟩:=ok.hW;have h1:¬ (W:Int)<1:=by omega
 have h2:¬ (64:Int)<(W:Int):=by omega
 have h3:¬ (4:Int)<(m.R.length:Int):=by have:=ok.hR; omega
 have h4:¬ (8:Int)<(m.V.length:Int):=by have:=ok.hV; omega
 have hv:m.V.any (aW3 W)= false:=List.any_eq_false.2 fun x hx=>by rw [ok.val x hx]; simp
 have hr:m.R.any (fun x=>x.any (aW3 W))= false:=List.any_eq_false.2 fun x hx=>by rw [List.any_eq_false.2 fun y hy=>by rw [ok.rel x hx y hy]; simp]; simp
 have ho:=aZb (l:=m.V) (by have:=ok.hV; omega) W;have hc:=aPz (σ:=⟨1,[(0,⟨3,[[.int .i64 m.W,.sl 1 (us m.V),.sl 1 (rr m.R)]]⟩)]⟩) (g:=140) (caps:=[.ref 0 3 0 0]) (f:=fun x=>x.any (aW3 W)) (l:=m.R) (by have:=ok.hR; omega) fun x hx=>bW5 ok.w rfl (by rw [ok.row x hx]; omega);rw [hv] at ho;rw [hr,ok.w] at hc;unfold oB.d;refine xX.xP mixed Tryz.func90 k90 (by simp) fun hf=>?_;simp only [simprocAttr,-ZA,↓zU,↓zD,zV,zT,zW,ok.w,h1,h2,zM,xO,h3,h4]
 refine xW (fun k:Nat=>[(26,.int .i64 k),(25,.int .i64 m.R.length),(24,.sl 1 (rr m.R)),(1,.ref 0 3 0 0)]) (fun _=>⟨1,[(0,⟨3,[[.int .i64 W,.sl 1 (us m.V),.sl 1 (rr m.R)]]⟩)]⟩)
  (fun k=>k<=m.R.length) (fun k=>m.R.length-k) 0 (Nat.zero_le _) ?_ ?_
 ·(refine xI.same ?_; simp [xR,Fr.get])
 intro k hk;refine xQ mixed ?_
 by_cases h:k<m.R.length
 ·have hd:((k:Int)<(m.R.length:Int)):=by omega
  have hrw:=ok.row _ (xN (d:=[]) h);have hg:=nX m.R h;generalize m.R.getD k []=r at hrw hg;have e:((r.length:Int) != (W:Int))= false:=by rw [hrw]; simp
  simp only [simprocAttr,-ZA,↓zU,↓zD,zV,zT,zW,hd,zM,hg,xO,e]
  (repeat refine sd ?_)
  refine⟨k+1,by omega,?_,by omega⟩
  (refine xI.same ?_; simp only [xR,Fr.get,simprocAttr,-ZA,zS])
  exact wrap_i64 (by omega)
 ·have hd:¬ ((k:Int)<(m.R.length:Int)):=by omega
  simp only [simprocAttr,-ZA,↓zU,↓zD,zV,zT,zW,hd];refine .go (cr ho) ?_;simp only [simprocAttr,-ZA,↓zU,↓zD,zV,zT,zW];refine .go hc ?_;simp only [simprocAttr,-ZA,↓zU,↓zD,zV,zT,zW];exact .dv
open Ru
theorem bZa (s:BitVec 64):qI .xor .u64 (if IntKind.u64.signed=true then -1 else IntKind.u64.max) (ui s)= ui (~~~s):=by rw [if_neg (by decide),show IntKind.u64.max=ui (BitVec.allOnes 64) by decide +kernel,aF7];congr 1
theorem aNx (n:Nat):yV Tryz.prog 251 [.int .i64 n] (.int .u64 (ui (qE n))):=by
 refine xX.xP mixed Tryz.func251 bUa (by simp) fun hf=>?_;unfold qE
 by_cases h:64<=n
 ·have e:(64:Int)<=(n:Int):=by omega
  rw [if_pos h];simp only [simprocAttr,-ZA,↓zU,↓zD,zV,zT,zW,e];exact .same
 ·have e:¬ (64:Int)<=(n:Int):=by omega
  rw [if_neg h];simp only [simprocAttr,-ZA,↓zU,↓zD,zV,zT,zW,e]
  (repeat refine sd ?_)
  exact .same
namespace Ru
structure aQi (r : List (BitVec 64)) : Prop where
 len:r.length<=64
 ins:∀ x ∈ r,aW3 r.length x=false
def aR3 (r:List (BitVec 64)) (s:BitVec 64):Nat->BitVec 64
 | 0=>0#64
 | w+1=>if (r.getD w 0 &&& ~~~s==0#64)= true then aR3 r s w ||| 1#64 <<< w else aR3 r s w
def aX7 (r:List (BitVec 64)) (s:BitVec 64):BitVec 64:=aR3 r s r.length
def aAz (r:List (BitVec 64)) (s:BitVec 64):BitVec 64:=qE r.length &&& ~~~(aX7 r (~~~s))
end Ru
theorem eR {r:List (BitVec 64)} (ok:aQi r):yV Tryz.prog 250 [.int .i64 r.length,.sl 1 (us r)] (.int .i64 0):=by
 have h1:¬ ((r.length:Int)<0):=by omega
 have h2:¬ ((64:Int)<(r.length:Int)):=by have:=ok.len; omega
 have h3:((r.length:Int) != (r.length:Int))= false:=by simp
 have ha:=aNx r.length;refine xX.xP mixed Tryz.func250 bUb (by simp) fun hf=>?_;simp only [simprocAttr,-ZA,↓zU,↓zD,zV,zT,zW,xO,h1,h2,h3]
 refine xW (fun k:Nat=>[(19,.int .i64 k),(18,.int .i64 r.length),(17,.sl 1 (us r)),(0,.int .i64 r.length)]) (fun _=>⟨0,[]⟩) (fun k=>k<=r.length) (fun k=>r.length-k) 0 (Nat.zero_le _) ?_ ?_
 ·(refine xI.same ?_; simp [xR,Fr.get])
 intro k hk;refine xQ mixed ?_
 by_cases h:k<r.length
 ·have hd:((k:Int)<(r.length:Int)):=by omega
  have hx:=ok.ins _ (xN (d:=0) h)
  have e:(r.getD k 0 &&& ~~~(qE r.length) != 0#64)= false:=by have:=hx;unfold aW3 at this;rw [bne];simpa using this
  have hg:=zE r h;simp only [simprocAttr,-ZA,↓zU,↓zD,zV,zT,zW,hd,xO,hg]
  (repeat refine sd ?_)
  refine .go (cq ha) ?_;simp only [simprocAttr,-ZA,↓zU,↓zD,zV,zT,zW,e]
  (repeat refine sd ?_)
  refine⟨k+1,by omega,?_,by omega⟩
  (refine xI.same ?_; simp only [xR,Fr.get,simprocAttr,-ZA,zS])
  exact wrap_i64 (by omega)
 ·have hd:¬ ((k:Int)<(r.length:Int)):=by omega
  simp only [simprocAttr,-ZA,↓zU,↓zD,zV,zT,zW,hd];exact .same
theorem aYu {r:List (BitVec 64)} (ok:aQi r) (s:BitVec 64):yV Tryz.prog 214 [.sl 1 (us r),.int .u64 (ui s)] (.int .u64 (ui (aX7 r s))):=by
 have hc:=eR ok;have hl:=ok.len;refine xX.xP mixed Tryz.func214 bUo (by simp) fun hf=>?_;simp only [simprocAttr,-ZA,↓zU,↓zD,zV,zT,zW,xO];refine .go (cr hc) ?_;simp only [simprocAttr,-ZA,↓zU,↓zD,zV,zT,zW,xO]
 refine xW (fun k:Nat=>[(14,.int .i64 k),(13,.int .i64 r.length),(5,.int .u64 (ui (aR3 r s k))),(1,.int .u64 (ui s)),(0,.sl 1 (us r))]) (fun _=>⟨0,[]⟩) (fun k=>k<=r.length) (fun k=>r.length-k) 0 (Nat.zero_le _) ?_ ?_
 ·(refine xI.same ?_; simp [xR,Fr.get])
  rfl
 intro k hk;refine xQ mixed ?_
 by_cases h:k<r.length
 ·have hd:((k:Int)<(r.length:Int)):=by omega
  have hg:=zE r h;have hs:aR3 r s (k+1)= if (r.getD k 0 &&& ~~~s==0#64)= true then aR3 r s k ||| 1#64 <<< k else aR3 r s k:=rfl
  cases e:(r.getD k 0 &&& ~~~s==0#64) with
  | true=>
   rw [e,if_pos rfl] at hs;simp only [simprocAttr,-ZA,↓zU,↓zD,zV,zT,zW,hd,xO,hg,e]
   (repeat refine sd ?_)
   refine⟨k+1,by omega,?_,by omega⟩;rw [hs]
   (refine xI.same ?_; simp only [xR,Fr.get,simprocAttr,-ZA,zS])
   exact wrap_i64 (by omega)
  | false=>
   rw [e,if_neg (by simp)] at hs;simp only [simprocAttr,-ZA,↓zU,↓zD,zV,zT,zW,hd,xO,hg,e]
   (repeat refine sd ?_)
   refine⟨k+1,by omega,?_,by omega⟩;rw [hs]
   (refine xI.same ?_; simp only [xR,Fr.get,simprocAttr,-ZA,zS])
   exact wrap_i64 (by omega)
 ·have hd:¬ ((k:Int)<(r.length:Int)):=by omega
  have hk':k=r.length:=by omega
  subst hk';simp only [simprocAttr,-ZA,↓zU,↓zD,zV,zT,zW,hd];exact .same
theorem aOh {r:List (BitVec 64)} (ok:aQi r) (s:BitVec 64):yV Tryz.prog 215 [.sl 1 (us r),.int .u64 (ui s)] (.int .u64 (ui (aAz r s))):=by have hc:=eR ok;have ha:=aNx r.length;have hb:=aYu ok (~~~s);refine xX.xP mixed Tryz.func215 bUn (by simp) fun hf=>?_;simp only [simprocAttr,-ZA,↓zU,↓zD,zV,zT,zW,xO];refine .go (cr hc) ?_;simp only [simprocAttr,-ZA,↓zU,↓zD,zV,zT,zW,xO];refine .go (cq ha) ?_;simp only [simprocAttr,-ZA,↓zU,↓zD,zV,zT,zW,bZa];refine .go (cr hb) ?_;simp only [simprocAttr,-ZA,↓zU,↓zD,zV,zT,zW];exact .drop (by simp) (by simp [vw,aAz])
section
open Rs Fm Ru
namespace Te
end Te
end
section
open Rs Fm Ru Te
namespace Te
end Te
end
section
open Rs Fm Ru Te
end
section
open Rs Fm Ru Te
namespace Te
end Te
end
section
open Rs Fm Ru Te
namespace Te
def shP (T:Nat) (s:Int) (φ:Nat × Nat->Bool) (p:Nat × Nat):Bool:=decide (0<=(p.2:Int)+ s)&& (decide ((p.2:Int)+ s<T)&& φ (p.1,((p.2:Int)+ s).toNat))
end Te
end
section
open Rs Fm Ru Te
end
section
open Rs Fm Ru
namespace Te
abbrev Tab :=Nat × Nat->Bool
section
variable (rs : List zZ) (A T : Nat)
def ptl : List (Nat × Nat):=ptN T (rs.length*T)
def dR (a:Nat) (x:Tab) (p:Nat × Nat):Bool:=(ptl rs T).all fun q=>!decide (zH rs a q=zH rs a p) || x q
def pU (g:Nat) (x:Tab) (p:Nat × Nat):Bool:=(List.range A).all fun a=>!g.testBit a || dR rs T a x p
def bZp (g:Nat) (p q:Nat × Nat):Bool:=(List.range A).all fun a=>!g.testBit a || decide (zH rs a p=zH rs a q)
def bXs (g:Nat) (x:Tab) (p:Nat × Nat):Bool:=(ptl rs T).all fun q=>!bZp rs A g p q || x q
def aDc (g:Nat) (x y now:Tab):Tab:=pU rs A T g fun q=>!x q || (y q&&now q)
def eA (g:Nat) (x y:Tab):Nat->Tab
 | 0=>fun _=>true
 | n+1=>aDc rs A T g x y (eA g x y n)
def aV9 (g:Nat) (x y:Tab):Tab:=eA rs A T g x y (rs.length*T)
end
def tmU (T:Nat) (s:Int) (k:Nat):Nat:=if 0<s then T-1-k else k
def bVi (T:Nat) (s:Int) (x y:Tab) (i:Nat):Nat->Bool
 | 0=>false
 | k+1=>y (i,tmU T s k) || (x (i,tmU T s k)&& bVi T s x y i k)
def bVg (T:Nat) (s:Int) (x y:Tab) (p:Nat × Nat):Bool:=bVi T s x y p.1 (if 0<s then T-p.2 else p.2+1)
def bXu (rs:List zZ) (n:Nd) (x y:Tab) (p:Nat × Nat):Bool:=
 if n.op=1 then true else if n.op=3 then(aJ1 rs p).getLsbD n.i.toNat else if n.op=4 then !x p else if n.op=5 then x p&&y p else if n.op=6 then x p || y p
 else if n.op=7 then !x p || y p else if n.op=8 then x p==y p else false
def aQa (rs:List zZ) (A T:Nat) (n:Nd) (x y:Tab):Tab:=
 if n.op=9 then dR rs T n.i.toNat x else if n.op=10 then fun p=>!dR rs T n.i.toNat (fun q=>!x q) p else if n.op=11 then pU rs A T n.g.toNat x
 else if n.op=12 then bXs rs A T n.g.toNat x else if n.op=13 then aV9 rs A T n.g.toNat x y else if n.op=18 then shP T 1 x else if n.op=20 then shP T (-1) x
 else if n.op=19 then bVg T 1 x y else if n.op=21 then bVg T (-1) x y else bXu rs n x y
section
variable {rs : List zZ} {A T : Nat}
theorem aUa {α:Type} {l:List α} {f g:α->Bool} (h:∀ q ∈ l,f q=g q):l.all f=l.all g:=by
 induction l with
 | nil=>rfl
 | cons a r ih=>rw [List.all_cons,List.all_cons,h a (by simp),ih fun q hq=>h q (List.mem_cons_of_mem _ hq)]
theorem aUs {a:Nat} {x y:Tab} {p:Nat × Nat} (h:∀ q ∈ ptl rs T,x q=y q):dR rs T a x p=dR rs T a y p:=aUa fun q hq=>by rw [h q hq]
theorem aWx {g:Nat} {x y:Tab} {p:Nat × Nat} (h:∀ q ∈ ptl rs T,x q=y q):pU rs A T g x p=pU rs A T g y p:=aUa fun a _=>by rw [aUs h]
theorem aUh {g:Nat} {x y n m:Tab} {p:Nat × Nat} (h:∀ q ∈ ptl rs T,n q=m q):aDc rs A T g x y n p=aDc rs A T g x y m p:=aWx fun q hq=>by rw [h q hq]
theorem aUx {g:Nat} {x y:Tab} {p:Nat × Nat} (h:∀ q ∈ ptl rs T,x q=true->y q=true) (hp:pU rs A T g x p=true):pU rs A T g y p=true:=by
 unfold pU dR at hp ⊢;simp only [List.all_eq_true,Bool.or_eq_true] at hp ⊢;intro a ha
 rcases hp a ha with h1 | h1
 ·exact .inl h1
 ·refine .inr fun q hq=>?_
  rcases h1 q hq with h2 | h2
  ·exact .inl h2
  ·exact .inr (h q hq h2)
theorem aZ8 (g:Nat) (x y:Tab):∀ (n:Nat) (p:Nat × Nat),eA rs A T g x y (n+1) p=true->eA rs A T g x y n p=true
 | 0,_,_=>rfl
 | n+1,p,h=>aUx (fun q _ hq=>by
   simp only [Bool.or_eq_true,Bool.and_eq_true] at hq ⊢
   rcases hq with h1 | ⟨h1,h2⟩
   ·exact .inl h1
   ·exact .inr ⟨h1,aZ8 g x y n q h2⟩) h
theorem fA {g:Nat} {x y:Tab} {n:Nat} (h:∀ p ∈ ptl rs T,eA rs A T g x y (n+1) p=eA rs A T g x y n p):∀ (m:Nat) (p:Nat × Nat),p ∈ ptl rs T->eA rs A T g x y (n+m) p=eA rs A T g x y n p
 | 0,_,_=>rfl
 | m+1,p,hp=>by rw [<- h p hp];exact aUh fun q hq=>fA h m q hq
theorem countP_le {α:Type} {f g:α->Bool}:∀ {l:List α},(∀ q ∈ l,f q=true->g q=true)->l.countP f<=l.countP g
 | [],_=>by simp
 | a :: r,h=>by
  have ih:=countP_le (l:=r) fun q hq=>h q (List.mem_cons_of_mem _ hq);rw [List.countP_cons,List.countP_cons];have:=h a (by simp)
  by_cases e:f a=true
  ·rw [if_pos e,if_pos (this e)]; omega
  ·rw [if_neg e]; omega
theorem eF {α:Type} {f g:α->Bool}:∀ {l:List α},(∀ q ∈ l,f q=true->g q=true)->(∃ q ∈ l,f q≠g q)->l.countP f<l.countP g
 | [],_,h=>by obtain⟨q,hq,_⟩:=h; cases hq
 | a :: r,h,⟨q,hq,hne⟩=>by
  have h':∀ q ∈ r,f q=true->g q=true:=fun q hq=>h q (List.mem_cons_of_mem _ hq);have ih:=countP_le h';rw [List.countP_cons,List.countP_cons];have ha:=h a (by simp)
  by_cases e2:f a=g a
  ·have hr:∃ q ∈ r,f q≠g q:=by
    rcases List.mem_cons.1 hq with e | e
    ·subst e; exact absurd e2 hne
    ·exact⟨q,e,hne⟩
   have:=eF h' hr;rw [e2]; omega
  ·have h1:f a=false:=by cases e3:f a with
    | false=>rfl
    | true=>exact absurd (e3.trans (ha e3).symm) e2
   have h2:g a=true:=by cases e3:g a with
    | true=>rfl
    | false=>exact absurd (h1.trans e3.symm) e2
   rw [h1,h2];simp only [Bool.false_eq_true,if_false,if_true];omega
def aA0 (rs:List zZ) (A T g:Nat) (x y:Tab) (n:Nat):Nat:=(ptl rs T).countP (eA rs A T g x y n)
theorem aK8 (g:Nat) (x y:Tab):aA0 rs A T g x y 0=rs.length*T:=by unfold aA0 ptl;rw [show eA rs A T g x y 0=fun _=>true from rfl,List.countP_true,tV]
theorem aZ9 {g:Nat} {x y:Tab} {n:Nat} (h:∃ p ∈ ptl rs T,eA rs A T g x y (n+1) p≠eA rs A T g x y n p):aA0 rs A T g x y (n+1)<aA0 rs A T g x y n:= eF (fun q _ hq=>aZ8 g x y n q hq) h
def aE2 (rs:List zZ) (A g:Nat) (p q:Nat × Nat):Bool:=(List.range A).any fun a=>g.testBit a&&decide (zH rs a p=zH rs a q)
theorem aPs {g:Nat} {x:Tab} {p:Nat × Nat}:pU rs A T g x p=true ↔ ∀ q ∈ ptl rs T,aE2 rs A g p q=true->x q=true:=by
 unfold pU dR aE2;simp only [List.all_eq_true,List.any_eq_true,Bool.or_eq_true,Bool.and_eq_true,Bool.not_eq_true',decide_eq_true_eq,decide_eq_false_iff_not]
 constructor
 ·rintro h q hq ⟨a,ha,h1,h2⟩
  rcases h a ha with h3 | h3
  ·rw [h1] at h3; cases h3
  ·rcases h3 q hq with h4 | h4
   ·exact absurd h2.symm h4
   ·exact h4
 ·intro h a ha
  cases e:g.testBit a with
  | false=>exact .inl rfl
  | true=>
   refine .inr fun q hq=>?_
   by_cases e2:zH rs a q=zH rs a p
   ·exact .inr (h q hq ⟨a,ha,e,e2.symm⟩)
   ·exact .inl e2
theorem aFc (g:Nat) (x y:Tab):∃ n,n<=rs.length*T/\∀ p ∈ ptl rs T,eA rs A T g x y (n+1) p=eA rs A T g x y n p:=by
 have key:∀ (m n:Nat),aA0 rs A T g x y n<=m->n+aA0 rs A T g x y n<=rs.length*T->∃ n,n<=rs.length*T/\∀ p ∈ ptl rs T,eA rs A T g x y (n+1) p=eA rs A T g x y n p:=by
  intro m
  induction m with
  | zero=> intro n h1 h2;refine⟨n,by omega,fun p hp=>Decidable.byContradiction fun h=>?_⟩;have:=aZ9 (rs:=rs) (A:=A) (T:=T) ⟨p,hp,h⟩;omega
  | succ m ih=>
   intro n h1 h2
   by_cases h:∃ p ∈ ptl rs T,eA rs A T g x y (n+1) p≠eA rs A T g x y n p
   ·have:=aZ9 h;exact ih (n+1) (by omega) (by omega)
   ·exact⟨n,by omega,fun p hp=>Decidable.byContradiction fun h'=>h ⟨p,hp,h'⟩⟩
 exact key _ 0 (Nat.le_refl _) (by rw [aK8]; omega)
end
end Te
end
section
open Rs Fm Ru Te
namespace Te
end Te
end
section
open Rs Fm Ru Te
namespace Te
end Te
end
section
open Rs Fm Ru Te
namespace Te
def blk (x:Int):List (Int × Bool)->Bool
 | []=>false
 | (k,v) :: r=>if x=k then v else blk x r
end Te
end
section
open Rs Fm Ru Te
namespace Te
end Te
end
section
open Rs Fm Ru Te
namespace Te
theorem bYz {g a:Nat} (hg:g<2 ^ 60) (ha:a<=60):qI .and .i64 (aJy .i64 (g:Int) (a:Int)) 1=if g.testBit a then 1 else 0:=by
 have h2:g / 2 ^ a<=g:=Nat.div_le_self _ _;rw [jK _ _ ha,aAb (by omega),Nat.testBit_eq_decide_div_mod_eq];have:=Nat.mod_two_eq_zero_or_one (g / 2 ^ a)
 rcases this with h | h
 ·rw [h]; rfl
 ·rw [h]; rfl
end Te
end
section
open Rs Fm Ru Te
namespace Te
end Te
end
section
open Rs Fm Ru Te
end
section
open Rs Fm Ru Te
namespace Te
end Te
end
section
open Rs Fm Ru Te
namespace Te
end Te
end
end Go.Pd
