/- Part S7. -/
import Derived.Test.YtndfaefmmcoapaaGreatUaKG
import Derived.Test.YtndfaefmmcoapaaGreatUaP7
set_option linter.unusedSectionVars false
set_option linter.unusedVariables false
set_option linter.unusedSimpArgs false
set_option linter.defProp false
set_option maxRecDepth 20000
set_option maxHeartbeats 1000000
namespace Go.Pd
open Go Go.Proofs
open BitVec renaming isValue -> ZA
namespace Ru
structure qL where
 W:Int
 V:List (BitVec 64)
 R:List (List (BitVec 64))
def qL.d (m:qL):D:=.agg [.int .i64 m.W,.sl 1 (us m.V),.sl 1 (rr m.R)]
def pG (n:Nat):BitVec 64:=if 64<=n then 18446744073709551615#64 else 1#64 <<< n-1#64
def aVj (n:Nat) (x:BitVec 64):Bool:=!decide (x &&& ~~~(pG n)= 0#64)
structure lZ (m : qL) (W : Nat) : Prop where
 w:m.W=W
 hW:1<=W/\W<=64
 hV:m.V.length<=8
 hR:m.R.length<=4
 row:∀ r ∈ m.R,r.length=W
 val:∀ x ∈ m.V,aVj W x=false
 rel:∀ r ∈ m.R,∀ x ∈ r,aVj W x=false
theorem rN {n:Nat} (hn:n<=64) {i:Nat} (hi:i<64):(pG n).getLsbD i=decide (i<n):=by
 unfold pG
 by_cases h:64<=n
 ·rw [if_pos h,show 18446744073709551615#64=BitVec.allOnes 64 from rfl,BitVec.getLsbD_allOnes];simp [hi]; omega
 ·rw [if_neg h];have:∀ n,n<64->∀ i,i<64->(1#64 <<< n-1#64).getLsbD i=decide (i<n):=by decide
  exact this n (by omega) i hi
theorem aUd {n:Nat} (hn:n<=64) {x:BitVec 64} (h:∀ i,x.getLsbD i=true->i<n):aVj n x=false:=by
 unfold aVj;rw [Bool.not_eq_false',decide_eq_true_iff];refine BitVec.eq_of_getLsbD_eq fun i hi=>?_;rw [BitVec.getLsbD_and,BitVec.getLsbD_not,rN hn hi,BitVec.getLsbD_zero]
 cases hx:x.getLsbD i
 ·rfl
 ·simp [h i hx]
end Ru
open Ru
theorem aB5 {σ:St} {g:FuncId} {caps:List D} {f:List (BitVec 64)->Bool} {l:List (List (BitVec 64))} (hl:l.length<=1000) (h:∀ x ∈ l,xX Tryz.prog g ([.sl 1 (us x)]++caps) σ (.bool (f x)) σ):xX Tryz.prog 199 [.sl 1 (rr l),.fn g caps] σ (.int .i64 (ixF f l 0)) σ:=by
 refine xX.xQ mixed Tryz.func199 bTx (by simp) fun hf=>?_;simp only [simprocAttr,-ZA,↓zU,↓zD,zV,zT,zW,zK]
 refine xW (fun k:Nat=>[(8,.int .i64 k),(7,.int .i64 l.length),(1,.fn g caps),(0,.sl 1 (rr l))]) (fun _=>σ) (fun k=>k<=l.length/\ixF f l 0=ixF f (l.drop k) k) (fun k=>l.length-k) 0 ⟨Nat.zero_le _,rfl⟩ ?_ ?_
 ·(refine xH.same ?_; simp [xO,Fr.get])
 intro k ⟨hk,hi⟩;refine xP mixed ?_
 by_cases hh:k<l.length
 ·have hd:((k:Int)<(l.length:Int)):=by omega
  rw [drop_cons (d:=[]) hh,ixF] at hi;simp only [simprocAttr,-ZA,↓zU,↓zD,zV,zT,zW,hd,zK,nG _ hh]
  (repeat refine sd ?_)
  refine .go (h _ (xK hh)) ?_
  cases hx:f (l.getD k [])
  ·rw [hx,if_neg (by simp)] at hi;simp only [simprocAttr,-ZA,↓zU,↓zD,zV,zT,zW];refine⟨k+1,⟨by omega,hi⟩,?_,by omega⟩
   (refine xH.same ?_; simp only [xO,Fr.get,simprocAttr,-ZA,zS])
   exact wrap_i64 (by omega)
  ·rw [hx,if_pos rfl] at hi;simp only [simprocAttr,-ZA,↓zU,↓zD,zV,zT,zW];rw [hi];exact .same
 ·have hd:¬ ((k:Int)<(l.length:Int)):=by omega
  rw [List.drop_eq_nil_of_le (by omega),ixF] at hi;simp only [simprocAttr,-ZA,↓zU,↓zD,zV,zT,zW,hd];rw [hi];exact .same
theorem aP6 {σ:St} {g:FuncId} {caps:List D} {f:List (BitVec 64)->Bool} {l:List (List (BitVec 64))} (hl:l.length<=1000) (h:∀ x ∈ l,xX Tryz.prog g ([.sl 1 (us x)]++caps) σ (.bool (f x)) σ):xX Tryz.prog 139 [.sl 1 (rr l),.fn g caps] σ (.bool (l.any f)) σ:=by
 refine xX.xQ mixed Tryz.func139 bSm (by simp) fun hf=>?_;simp only [simprocAttr,-ZA,↓zU,↓zD,zV,zT,zW];refine .go (aB5 hl h) ?_;have hx:=mS (f:=f) (c:=l) (i:=0) (Int.le_refl 0)
 cases ha:l.any f
 ·have h1:¬ 0<=ixF f l 0:=fun y=>by rw [hx.1 y] at ha; cases ha
  simp only [simprocAttr,-ZA,↓zU,↓zD,zV,zT,zW,h1];exact .same
 ·have h1:=hx.2 ha;simp only [simprocAttr,-ZA,↓zU,↓zD,zV,zT,zW,h1];exact .same
theorem bUe (n:Nat):yU Tryz.prog 198 [.int .i64 n] (.int .u64 (ui (pG n))):=by
 refine xX.xQ mixed Tryz.func198 bTy (by simp) fun hf=>?_;unfold pG
 by_cases h:64<=n
 ·have e:(64:Int)<=(n:Int):=by omega
  rw [if_pos h];simp only [simprocAttr,-ZA,↓zU,↓zD,zV,zT,zW,e];exact .same
 ·have e:¬ (64:Int)<=(n:Int):=by omega
  rw [if_neg h];simp only [simprocAttr,-ZA,↓zU,↓zD,zV,zT,zW,e]
  (repeat refine sd ?_)
  exact .same
theorem bVu {n nx:Nat} {xS:List (Nat × Ob)} {k:Nat} (h0:St.look xS k=some ⟨1,[[.int .i64 n]]⟩) (x:BitVec 64):xX Tryz.prog 197 ([.int .u64 (ui x)] ++ [.ref k 1 0 0]) ⟨nx,xS⟩ (.bool (aVj n x)) ⟨nx,xS⟩:=by
 refine xX.xQ mixed Tryz.func197 bTz (by simp) fun hf=>?_;simp only [simprocAttr,-ZA,↓zU,↓zD,zV,zT,zW,h0]
 (repeat refine sd ?_)
 refine .go (cq (bUe n)) ?_;simp only [simprocAttr,-ZA,↓zU,↓zD,zV,zT,zW];rw [show (x &&& ~~~(pG n) != 0#64)= aVj n x by unfold aVj; rw [bne]; congr 1];exact .same
theorem aZs {l:List (BitVec 64)} (hl:l.length<=1000) (n:Nat):yU Tryz.prog 138 [.sl 1 (us l),.int .i64 n] (.bool (l.any (aVj n))):=by refine xX.xQ mixed Tryz.func138 bSn (by simp) fun hf=>?_;simp only [simprocAttr,-ZA,↓zU,↓zD,zV,zT,zW];refine .go (nP (caps:=[.ref 0 1 0 0]) hl fun x _=>bVu rfl x) ?_;simp only [simprocAttr,-ZA,↓zU,↓zD,zV,zT,zW];exact .dv
theorem bV8 {m:qL} {W:Nat} (hw:m.W=W) {nx:Nat} {xS:List (Nat × Ob)} (h0:St.look xS 0=some ⟨3,[[.int .i64 m.W,.sl 1 (us m.V),.sl 1 (rr m.R)]]⟩) {x:List (BitVec 64)} (hx:x.length<=1000):xX Tryz.prog 140 ([.sl 1 (us x)] ++ [.ref 0 3 0 0]) ⟨nx,xS⟩ (.bool (x.any (aVj W))) ⟨nx,xS⟩:=by
 refine xX.xQ mixed Tryz.func140 bSl (by simp) fun hf=>?_;simp only [simprocAttr,-ZA,↓zU,↓zD,zV,zT,zW,h0,hw]
 (repeat refine sd ?_)
 refine .go (cr (aZs hx W)) ?_;simp only [simprocAttr,-ZA,↓zU,↓zD,zV,zT,zW];exact .same
theorem jD {m:qL} {W:Nat} (ok:lZ m W):yU Tryz.prog 90 [m.d] (.int .i64 0):=by
 obtain⟨W1,W64⟩:=ok.hW;have h1:¬ (W:Int)<1:=by omega
 have h2:¬ (64:Int)<(W:Int):=by omega
 have h3:¬ (4:Int)<(m.R.length:Int):=by have:=ok.hR; omega
 have h4:¬ (8:Int)<(m.V.length:Int):=by have:=ok.hV; omega
 have hv:m.V.any (aVj W)= false:=List.any_eq_false.2 fun x hx=>by rw [ok.val x hx]; simp
 have hr:m.R.any (fun x=>x.any (aVj W))= false:=List.any_eq_false.2 fun x hx=>by rw [List.any_eq_false.2 fun y hy=>by rw [ok.rel x hx y hy]; simp]; simp
 have ho:=aZs (l:=m.V) (by have:=ok.hV; omega) W;have hc:=aP6 (σ:=⟨1,[(0,⟨3,[[.int .i64 m.W,.sl 1 (us m.V),.sl 1 (rr m.R)]]⟩)]⟩) (g:=140) (caps:=[.ref 0 3 0 0]) (f:=fun x=>x.any (aVj W)) (l:=m.R) (by have:=ok.hR; omega) fun x hx=>bV8 ok.w rfl (by rw [ok.row x hx]; omega);rw [hv] at ho;rw [hr,ok.w] at hc;unfold qL.d;refine xX.xQ mixed Tryz.func90 k90 (by simp) fun hf=>?_;simp only [simprocAttr,-ZA,↓zU,↓zD,zV,zT,zW,ok.w,h1,h2,zK,xR,h3,h4]
 refine xW (fun k:Nat=>[(26,.int .i64 k),(25,.int .i64 m.R.length),(24,.sl 1 (rr m.R)),(1,.ref 0 3 0 0)]) (fun _=>⟨1,[(0,⟨3,[[.int .i64 W,.sl 1 (us m.V),.sl 1 (rr m.R)]]⟩)]⟩)
  (fun k=>k<=m.R.length) (fun k=>m.R.length-k) 0 (Nat.zero_le _) ?_ ?_
 ·(refine xH.same ?_; simp [xO,Fr.get])
 intro k hk;refine xP mixed ?_
 by_cases h:k<m.R.length
 ·have hd:((k:Int)<(m.R.length:Int)):=by omega
  have hrw:=ok.row _ (xK (d:=[]) h);have hg:=nG m.R h;generalize m.R.getD k []=r at hrw hg;have e:((r.length:Int) != (W:Int))= false:=by rw [hrw]; simp
  simp only [simprocAttr,-ZA,↓zU,↓zD,zV,zT,zW,hd,zK,hg,xR,e]
  (repeat refine sd ?_)
  refine⟨k+1,by omega,?_,by omega⟩
  (refine xH.same ?_; simp only [xO,Fr.get,simprocAttr,-ZA,zS])
  exact wrap_i64 (by omega)
 ·have hd:¬ ((k:Int)<(m.R.length:Int)):=by omega
  simp only [simprocAttr,-ZA,↓zU,↓zD,zV,zT,zW,hd];refine .go (cr ho) ?_;simp only [simprocAttr,-ZA,↓zU,↓zD,zV,zT,zW];refine .go hc ?_;simp only [simprocAttr,-ZA,↓zU,↓zD,zV,zT,zW];exact .dv
open Ru
theorem bWa (s:BitVec 64):rB .xor .u64 (if IntKind.u64.signed=true then -1 else IntKind.u64.max) (ui s)= ui (~~~s):=by rw [if_neg (by decide),show IntKind.u64.max=ui (BitVec.allOnes 64) by decide +kernel,aEx];congr 1
theorem aMc (n:Nat):yU Tryz.prog 251 [.int .i64 n] (.int .u64 (ui (pG n))):=by
 refine xX.xQ mixed Tryz.func251 bTe (by simp) fun hf=>?_;unfold pG
 by_cases h:64<=n
 ·have e:(64:Int)<=(n:Int):=by omega
  rw [if_pos h];simp only [simprocAttr,-ZA,↓zU,↓zD,zV,zT,zW,e];exact .same
 ·have e:¬ (64:Int)<=(n:Int):=by omega
  rw [if_neg h];simp only [simprocAttr,-ZA,↓zU,↓zD,zV,zT,zW,e]
  (repeat refine sd ?_)
  exact .same
namespace Ru
structure aQt (r : List (BitVec 64)) : Prop where
 len:r.length<=64
 ins:∀ x ∈ r,aVj r.length x=false
def aQe (r:List (BitVec 64)) (s:BitVec 64):Nat->BitVec 64
 | 0=>0#64
 | w+1=>if (r.getD w 0 &&& ~~~s==0#64)= true then aQe r s w ||| 1#64 <<< w else aQe r s w
def aYq (r:List (BitVec 64)) (s:BitVec 64):BitVec 64:=aQe r s r.length
def bXm (r:List (BitVec 64)) (s:BitVec 64):BitVec 64:=pG r.length &&& ~~~(aYq r (~~~s))
end Ru
theorem dZ {r:List (BitVec 64)} (ok:aQt r):yU Tryz.prog 250 [.int .i64 r.length,.sl 1 (us r)] (.int .i64 0):=by
 have h1:¬ ((r.length:Int)<0):=by omega
 have h2:¬ ((64:Int)<(r.length:Int)):=by have:=ok.len; omega
 have h3:((r.length:Int) != (r.length:Int))= false:=by simp
 have ha:=aMc r.length;refine xX.xQ mixed Tryz.func250 bTf (by simp) fun hf=>?_;simp only [simprocAttr,-ZA,↓zU,↓zD,zV,zT,zW,xR,h1,h2,h3]
 refine xW (fun k:Nat=>[(19,.int .i64 k),(18,.int .i64 r.length),(17,.sl 1 (us r)),(0,.int .i64 r.length)]) (fun _=>⟨0,[]⟩) (fun k=>k<=r.length) (fun k=>r.length-k) 0 (Nat.zero_le _) ?_ ?_
 ·(refine xH.same ?_; simp [xO,Fr.get])
 intro k hk;refine xP mixed ?_
 by_cases h:k<r.length
 ·have hd:((k:Int)<(r.length:Int)):=by omega
  have hx:=ok.ins _ (xK (d:=0) h)
  have e:(r.getD k 0 &&& ~~~(pG r.length) != 0#64)= false:=by have:=hx;unfold aVj at this;rw [bne];simpa using this
  have hg:=zH r h;simp only [simprocAttr,-ZA,↓zU,↓zD,zV,zT,zW,hd,xR,hg]
  (repeat refine sd ?_)
  refine .go (cq ha) ?_;simp only [simprocAttr,-ZA,↓zU,↓zD,zV,zT,zW,e]
  (repeat refine sd ?_)
  refine⟨k+1,by omega,?_,by omega⟩
  (refine xH.same ?_; simp only [xO,Fr.get,simprocAttr,-ZA,zS])
  exact wrap_i64 (by omega)
 ·have hd:¬ ((k:Int)<(r.length:Int)):=by omega
  simp only [simprocAttr,-ZA,↓zU,↓zD,zV,zT,zW,hd];exact .same
theorem aZd {r:List (BitVec 64)} (ok:aQt r) (s:BitVec 64):yU Tryz.prog 214 [.sl 1 (us r),.int .u64 (ui s)] (.int .u64 (ui (aYq r s))):=by
 have hc:=dZ ok;have hl:=ok.len;refine xX.xQ mixed Tryz.func214 bTs (by simp) fun hf=>?_;simp only [simprocAttr,-ZA,↓zU,↓zD,zV,zT,zW,xR];refine .go (cr hc) ?_;simp only [simprocAttr,-ZA,↓zU,↓zD,zV,zT,zW,xR]
 refine xW (fun k:Nat=>[(14,.int .i64 k),(13,.int .i64 r.length),(5,.int .u64 (ui (aQe r s k))),(1,.int .u64 (ui s)),(0,.sl 1 (us r))]) (fun _=>⟨0,[]⟩) (fun k=>k<=r.length) (fun k=>r.length-k) 0 (Nat.zero_le _) ?_ ?_
 ·(refine xH.same ?_; simp [xO,Fr.get])
  rfl
 intro k hk;refine xP mixed ?_
 by_cases h:k<r.length
 ·have hd:((k:Int)<(r.length:Int)):=by omega
  have hg:=zH r h;have hs:aQe r s (k+1)= if (r.getD k 0 &&& ~~~s==0#64)= true then aQe r s k ||| 1#64 <<< k else aQe r s k:=rfl
  cases e:(r.getD k 0 &&& ~~~s==0#64) with
  | true=>
   rw [e,if_pos rfl] at hs;simp only [simprocAttr,-ZA,↓zU,↓zD,zV,zT,zW,hd,xR,hg,e]
   (repeat refine sd ?_)
   refine⟨k+1,by omega,?_,by omega⟩;rw [hs]
   (refine xH.same ?_; simp only [xO,Fr.get,simprocAttr,-ZA,zS])
   exact wrap_i64 (by omega)
  | false=>
   rw [e,if_neg (by simp)] at hs;simp only [simprocAttr,-ZA,↓zU,↓zD,zV,zT,zW,hd,xR,hg,e]
   (repeat refine sd ?_)
   refine⟨k+1,by omega,?_,by omega⟩;rw [hs]
   (refine xH.same ?_; simp only [xO,Fr.get,simprocAttr,-ZA,zS])
   exact wrap_i64 (by omega)
 ·have hd:¬ ((k:Int)<(r.length:Int)):=by omega
  have hk':k=r.length:=by omega
  subst hk';simp only [simprocAttr,-ZA,↓zU,↓zD,zV,zT,zW,hd];exact .same
theorem aOm {r:List (BitVec 64)} (ok:aQt r) (s:BitVec 64):yU Tryz.prog 215 [.sl 1 (us r),.int .u64 (ui s)] (.int .u64 (ui (bXm r s))):=by have hc:=dZ ok;have ha:=aMc r.length;have hb:=aZd ok (~~~s);refine xX.xQ mixed Tryz.func215 bTr (by simp) fun hf=>?_;simp only [simprocAttr,-ZA,↓zU,↓zD,zV,zT,zW,xR];refine .go (cr hc) ?_;simp only [simprocAttr,-ZA,↓zU,↓zD,zV,zT,zW,xR];refine .go (cq ha) ?_;simp only [simprocAttr,-ZA,↓zU,↓zD,zV,zT,zW,bWa];refine .go (cr hb) ?_;simp only [simprocAttr,-ZA,↓zU,↓zD,zV,zT,zW];exact .drop (by simp) (by simp [vw,bXm])
section
open Rs Fm Ru
namespace Te
end Te
end
section
open Rs Fm Ru Te
namespace Te
end Te
end
section
open Rs Fm Ru Te
end
section
open Rs Fm Ru Te
namespace Te
end Te
end
section
open Rs Fm Ru Te
namespace Te
def shP (T:Nat) (s:Int) (φ:Nat × Nat->Bool) (p:Nat × Nat):Bool:=decide (0<=(p.2:Int)+ s)&& (decide ((p.2:Int)+ s<T)&& φ (p.1,((p.2:Int)+ s).toNat))
end Te
end
section
open Rs Fm Ru Te
end
section
open Rs Fm Ru
namespace Te
abbrev Tab :=Nat × Nat->Bool
section
variable (rs : List zG) (A T : Nat)
def ptl : List (Nat × Nat):=ptN T (rs.length*T)
def lX (a:Nat) (x:Tab) (p:Nat × Nat):Bool:=(ptl rs T).all fun q=>!decide (wE rs a q=wE rs a p) || x q
def oZ (g:Nat) (x:Tab) (p:Nat × Nat):Bool:=(List.range A).all fun a=>!g.testBit a || lX rs T a x p
def bWn (g:Nat) (p q:Nat × Nat):Bool:=(List.range A).all fun a=>!g.testBit a || decide (wE rs a p=wE rs a q)
def bYg (g:Nat) (x:Tab) (p:Nat × Nat):Bool:=(ptl rs T).all fun q=>!bWn rs A g p q || x q
def aD2 (g:Nat) (x y now:Tab):Tab:=oZ rs A T g fun q=>!x q || (y q&&now q)
def cQ (g:Nat) (x y:Tab):Nat->Tab
 | 0=>fun _=>true
 | n+1=>aD2 rs A T g x y (cQ g x y n)
def aUt (g:Nat) (x y:Tab):Tab:=cQ rs A T g x y (rs.length*T)
end
def tmU (T:Nat) (s:Int) (k:Nat):Nat:=if 0<s then T-1-k else k
def bUl (T:Nat) (s:Int) (x y:Tab) (i:Nat):Nat->Bool
 | 0=>false
 | k+1=>y (i,tmU T s k) || (x (i,tmU T s k)&& bUl T s x y i k)
def bUj (T:Nat) (s:Int) (x y:Tab) (p:Nat × Nat):Bool:=bUl T s x y p.1 (if 0<s then T-p.2 else p.2+1)
def bYi (rs:List zG) (n:Nd) (x y:Tab) (p:Nat × Nat):Bool:=
 if n.op=1 then true else if n.op=3 then(aYo rs p).getLsbD n.i.toNat else if n.op=4 then !x p else if n.op=5 then x p&&y p else if n.op=6 then x p || y p
 else if n.op=7 then !x p || y p else if n.op=8 then x p==y p else false
def aQl (rs:List zG) (A T:Nat) (n:Nd) (x y:Tab):Tab:=
 if n.op=9 then lX rs T n.i.toNat x else if n.op=10 then fun p=>!lX rs T n.i.toNat (fun q=>!x q) p else if n.op=11 then oZ rs A T n.g.toNat x
 else if n.op=12 then bYg rs A T n.g.toNat x else if n.op=13 then aUt rs A T n.g.toNat x y else if n.op=18 then shP T 1 x else if n.op=20 then shP T (-1) x
 else if n.op=19 then bUj T 1 x y else if n.op=21 then bUj T (-1) x y else bYi rs n x y
section
variable {rs : List zG} {A T : Nat}
theorem aUv {α:Type} {l:List α} {f g:α->Bool} (h:∀ q ∈ l,f q=g q):l.all f=l.all g:=by
 induction l with
 | nil=>rfl
 | cons a r ih=>rw [List.all_cons,List.all_cons,h a (by simp),ih fun q hq=>h q (List.mem_cons_of_mem _ hq)]
theorem aTc {a:Nat} {x y:Tab} {p:Nat × Nat} (h:∀ q ∈ ptl rs T,x q=y q):lX rs T a x p=lX rs T a y p:=aUv fun q hq=>by rw [h q hq]
theorem aVe {g:Nat} {x y:Tab} {p:Nat × Nat} (h:∀ q ∈ ptl rs T,x q=y q):oZ rs A T g x p=oZ rs A T g y p:=aUv fun a _=>by rw [aTc h]
theorem aU0 {g:Nat} {x y n m:Tab} {p:Nat × Nat} (h:∀ q ∈ ptl rs T,n q=m q):aD2 rs A T g x y n p=aD2 rs A T g x y m p:=aVe fun q hq=>by rw [h q hq]
theorem aTh {g:Nat} {x y:Tab} {p:Nat × Nat} (h:∀ q ∈ ptl rs T,x q=true->y q=true) (hp:oZ rs A T g x p=true):oZ rs A T g y p=true:=by
 unfold oZ lX at hp ⊢;simp only [List.all_eq_true,Bool.or_eq_true] at hp ⊢;intro a ha
 rcases hp a ha with h1 | h1
 ·exact .inl h1
 ·refine .inr fun q hq=>?_
  rcases h1 q hq with h2 | h2
  ·exact .inl h2
  ·exact .inr (h q hq h2)
theorem aWp (g:Nat) (x y:Tab):∀ (n:Nat) (p:Nat × Nat),cQ rs A T g x y (n+1) p=true->cQ rs A T g x y n p=true
 | 0,_,_=>rfl
 | n+1,p,h=>aTh (fun q _ hq=>by
   simp only [Bool.or_eq_true,Bool.and_eq_true] at hq ⊢
   rcases hq with h1 | ⟨h1,h2⟩
   ·exact .inl h1
   ·exact .inr ⟨h1,aWp g x y n q h2⟩) h
theorem eF {g:Nat} {x y:Tab} {n:Nat} (h:∀ p ∈ ptl rs T,cQ rs A T g x y (n+1) p=cQ rs A T g x y n p):∀ (m:Nat) (p:Nat × Nat),p ∈ ptl rs T->cQ rs A T g x y (n+m) p=cQ rs A T g x y n p
 | 0,_,_=>rfl
 | m+1,p,hp=>by rw [<- h p hp];exact aU0 fun q hq=>eF h m q hq
theorem countP_le {α:Type} {f g:α->Bool}:∀ {l:List α},(∀ q ∈ l,f q=true->g q=true)->l.countP f<=l.countP g
 | [],_=>by simp
 | a :: r,h=>by
  have ih:=countP_le (l:=r) fun q hq=>h q (List.mem_cons_of_mem _ hq);rw [List.countP_cons,List.countP_cons];have:=h a (by simp)
  by_cases e:f a=true
  ·rw [if_pos e,if_pos (this e)]; omega
  ·rw [if_neg e]; omega
theorem cW {α:Type} {f g:α->Bool}:∀ {l:List α},(∀ q ∈ l,f q=true->g q=true)->(∃ q ∈ l,f q≠g q)->l.countP f<l.countP g
 | [],_,h=>by obtain⟨q,hq,_⟩:=h; cases hq
 | a :: r,h,⟨q,hq,hne⟩=>by
  have h':∀ q ∈ r,f q=true->g q=true:=fun q hq=>h q (List.mem_cons_of_mem _ hq);have ih:=countP_le h';rw [List.countP_cons,List.countP_cons];have ha:=h a (by simp)
  by_cases e2:f a=g a
  ·have hr:∃ q ∈ r,f q≠g q:=by
    rcases List.mem_cons.1 hq with e | e
    ·subst e; exact absurd e2 hne
    ·exact⟨q,e,hne⟩
   have:=cW h' hr;rw [e2]; omega
  ·have h1:f a=false:=by cases e3:f a with
    | false=>rfl
    | true=>exact absurd (e3.trans (ha e3).symm) e2
   have h2:g a=true:=by cases e3:g a with
    | true=>rfl
    | false=>exact absurd (h1.trans e3.symm) e2
   rw [h1,h2];simp only [Bool.false_eq_true,if_false,if_true];omega
def bXn (rs:List zG) (A T g:Nat) (x y:Tab) (n:Nat):Nat:=(ptl rs T).countP (cQ rs A T g x y n)
theorem aJo (g:Nat) (x y:Tab):bXn rs A T g x y 0=rs.length*T:=by unfold bXn ptl;rw [show cQ rs A T g x y 0=fun _=>true from rfl,List.countP_true,qE]
theorem aWq {g:Nat} {x y:Tab} {n:Nat} (h:∃ p ∈ ptl rs T,cQ rs A T g x y (n+1) p≠cQ rs A T g x y n p):bXn rs A T g x y (n+1)<bXn rs A T g x y n:= cW (fun q _ hq=>aWp g x y n q hq) h
def aDs (rs:List zG) (A g:Nat) (p q:Nat × Nat):Bool:=(List.range A).any fun a=>g.testBit a&&decide (wE rs a p=wE rs a q)
theorem aPz {g:Nat} {x:Tab} {p:Nat × Nat}:oZ rs A T g x p=true ↔ ∀ q ∈ ptl rs T,aDs rs A g p q=true->x q=true:=by
 unfold oZ lX aDs;simp only [List.all_eq_true,List.any_eq_true,Bool.or_eq_true,Bool.and_eq_true,Bool.not_eq_true',decide_eq_true_eq,decide_eq_false_iff_not]
 constructor
 ·rintro h q hq ⟨a,ha,h1,h2⟩
  rcases h a ha with h3 | h3
  ·rw [h1] at h3; cases h3
  ·rcases h3 q hq with h4 | h4
   ·exact absurd h2.symm h4
   ·exact h4
 ·intro h a ha
  cases e:g.testBit a with
  | false=>exact .inl rfl
  | true=>
   refine .inr fun q hq=>?_
   by_cases e2:wE rs a q=wE rs a p
   ·exact .inr (h q hq ⟨a,ha,e,e2.symm⟩)
   ·exact .inl e2
theorem aF2 (g:Nat) (x y:Tab):∃ n,n<=rs.length*T/\∀ p ∈ ptl rs T,cQ rs A T g x y (n+1) p=cQ rs A T g x y n p:=by
 have key:∀ (m n:Nat),bXn rs A T g x y n<=m->n+bXn rs A T g x y n<=rs.length*T->∃ n,n<=rs.length*T/\∀ p ∈ ptl rs T,cQ rs A T g x y (n+1) p=cQ rs A T g x y n p:=by
  intro m
  induction m with
  | zero=> intro n h1 h2;refine⟨n,by omega,fun p hp=>Decidable.byContradiction fun h=>?_⟩;have:=aWq (rs:=rs) (A:=A) (T:=T) ⟨p,hp,h⟩;omega
  | succ m ih=>
   intro n h1 h2
   by_cases h:∃ p ∈ ptl rs T,cQ rs A T g x y (n+1) p≠cQ rs A T g x y n p
   ·have:=aWq h;exact ih (n+1) (by omega) (by omega)
   ·exact⟨n,by omega,fun p hp=>Decidable.byContradiction fun h'=>h ⟨p,hp,h'⟩⟩
 exact key _ 0 (Nat.le_refl _) (by rw [aJo]; omega)
end
end Te
end
section
open Rs Fm Ru Te
namespace Te
end Te
end
section
open Rs Fm Ru Te
namespace Te
end Te
end
section
open Rs Fm Ru Te
namespace Te
def blk (x:Int):List (Int × Bool)->Bool
 | []=>false
 | (k,v) :: r=>if x=k then v else blk x r
theorem aE1 {rs:List zG} {T:Nat} (hT:1<=T) {p:Nat × Nat} (h:p ∈ ptl rs T):p.1<rs.length/\p.2<T:=bZd hT (Nat.le_refl _) p h
end Te
end
section
open Rs Fm Ru Te
namespace Te
end Te
end
section
open Rs Fm Ru Te
namespace Te
theorem bZx {g a:Nat} (hg:g<2 ^ 60) (ha:a<=60):rB .and .i64 (aOy .i64 (g:Int) (a:Int)) 1=if g.testBit a then 1 else 0:=by
 have h2:g / 2 ^ a<=g:=Nat.div_le_self _ _;rw [iO _ _ ha,aAy (by omega),Nat.testBit_eq_decide_div_mod_eq];have:=Nat.mod_two_eq_zero_or_one (g / 2 ^ a)
 rcases this with h | h
 ·rw [h]; rfl
 ·rw [h]; rfl
end Te
end
section
open Rs Fm Ru Te
namespace Te
end Te
end
section
open Rs Fm Ru Te
end
section
open Rs Fm Ru Te
namespace Te
end Te
end
section
open Rs Fm Ru Te
namespace Te
end Te
end
open Rs Fm Ru Te
theorem aF3 (s:BitVec 64) (l:List (BitVec 64)) (hl:l.length<=1000):xX Tryz.prog 122 [.sl 1 (us (s :: l))] St0 (.osl 0 1 (l.length+1)) ⟨1,[(0,⟨1,us (s :: l)⟩)]⟩:=by
 refine xX.xQ mixed Tryz.func122 bUs (by simp) fun hf=>?_;have hln:(us (s :: l)).length=l.length+1:=by simp [us]
 have h1:=aNg (s :: l);have e:us (s :: l)= [.int .u64 (ui s)] :: us l:=rfl;rw [e] at hln h1 ⊢;simp only [simprocAttr,-ZA,↓zU,↓zD,zV,zT,zW];have hp:=tE (s :: l);rw [e] at hp;exact⟨by simp,h1,by omega,by omega,nC.name (n:=0) (by simp) hp (by simp [vw])⟩
theorem aPv {k sz:Nat} {a b:List (List D)} (h:a.length=b.length):xA k sz a=xA k sz b:=by
 cases a with
 | nil=>cases b with
  | nil=>rfl
  | cons e r=>simp at h
 | cons e r=>cases b with
  | nil=>simp at h
  | cons e' r'=>simp only [List.length_cons] at h; simp [xA,h]
theorem aL2 (c:Nat) (l:List (BitVec 64)):(us l).map (D.wV c)= us l:=mM c (tE l)
theorem aTm {n:Nat} {xS:List (Nat × Ob)} (l:List (BitVec 64)) (h:l ≠ []) (hl:l.length<=1000):xX Tryz.prog 122 [.sl 1 (us l)] ⟨n,xS⟩ (xA n 1 (us l)) ⟨n+1,yY n 1 (us l)++ xS⟩:=by
 cases l with
 | nil=>exact absurd rfl h
 | cons s l=> have:=xX.own (σ:=⟨n,xS⟩) (aF3 s l (by simp at hl; omega)) (by simp [D.xV,D.xG]);simp only [D.shift,yN,Ob.shift,aL2,List.cons_append,List.nil_append,Nat.add_zero] at this;simp only [aV4,aX,bA,xR,List.cons_append,List.nil_append];exact this
namespace Ru
def op2 (meet:Bool) (a b:BitVec 64):BitVec 64:=if meet=true then a &&& b else a ||| b
def aIa (meet:Bool) (acc r:List (BitVec 64)):List (BitVec 64):=(List.range acc.length).map fun i=>op2 meet (acc.getD i 0) (r.getD i 0)
def gC (R:List (List (BitVec 64))) (G:Nat) (meet:Bool):Nat->List (BitVec 64)
 | 0=>[]
 | k+1=>if G.testBit k then(if (gC R G meet k).isEmpty then R.getD k [] else aIa meet (gC R G meet k) (R.getD k [])) else gC R G meet k
def wU (m:qL) (G:Nat) (meet:Bool):List (BitVec 64):=gC m.R G meet m.R.length
def aVl (meet:Bool) (acc r:List (BitVec 64)) (w:Nat):List (BitVec 64):=(List.range acc.length).map fun i=>if i<w then op2 meet (acc.getD i 0) (r.getD i 0) else acc.getD i 0
theorem aKz (meet:Bool) (acc r:List (BitVec 64)):aVl meet acc r 0=acc:=by refine List.ext_getElem (by simp [aVl]) fun i h1 h2=>?_;simp [aVl,List.getD,h2]
theorem aFe (meet:Bool) (acc r:List (BitVec 64)):aVl meet acc r acc.length=aIa meet acc r:=by unfold aVl aIa;refine List.map_congr_left fun i hi=>?_;rw [List.mem_range] at hi;rw [if_pos hi]
theorem aS6 (meet:Bool) (acc r:List (BitVec 64)) (w:Nat):(aVl meet acc r w).length=acc.length:=by simp [aVl]
theorem aBv {meet:Bool} {acc r:List (BitVec 64)} {w:Nat} (h:w<acc.length):(aVl meet acc r w).getD w 0=acc.getD w 0:=by simp [aVl,List.getD,h]
theorem aFd {meet:Bool} {acc r:List (BitVec 64)} {w:Nat} (h:w<acc.length):(aVl meet acc r w).set w (op2 meet (acc.getD w 0) (r.getD w 0))= aVl meet acc r (w+1):=by
 refine List.ext_getElem (by simp [aVl]) fun i h1 h2=>?_;simp only [List.getElem_set,aVl,List.getElem_map,List.getElem_range]
 by_cases e:w=i
 ·subst e; simp
 ·rw [if_neg e]
  by_cases e2:i<w
  ·rw [if_pos e2,if_pos (by omega)]
  ·rw [if_neg e2,if_neg (by omega)]
theorem aYe {m:qL} {W:Nat} (ok:lZ m W) (G:Nat) (meet:Bool):∀ k,k<=m.R.length->gC m.R G meet k = []\/(gC m.R G meet k).length=W
 | 0,_=>.inl rfl
 | k+1,hk=>by
  have hr:=ok.row _ (xK (d:=[]) (show k<m.R.length by omega));rw [gC]
  split
  ·split
   ·exact .inr hr
   ·rcases aYe ok G meet k (by omega) with h | h
    ·rename_i hn; rw [h] at hn; exact absurd rfl hn
    ·exact .inr (by simp [aIa,h])
  ·exact aYe ok G meet k (by omega)
theorem aWy (R:List (List (BitVec 64))) (G:Nat) (meet:Bool) (k:Nat):gC R G meet (k+1)= if G.testBit k then(if (gC R G meet k).isEmpty then R.getD k [] else aIa meet (gC R G meet k) (R.getD k [])) else gC R G meet k:=rfl
end Ru
theorem aZ9 {m:qL} {W:Nat} (ok:lZ m W) {g:Nat} (hg:1<=g/\g<2 ^ m.R.length) (meet:Bool) (f:FuncId) (hop:∀ a b,yU Tryz.prog f [.int .u64 (ui a),.int .u64 (ui b)] (.int .u64 (ui (op2 meet a b)))):yU Tryz.prog 252 [m.d,.int .i64 (g:Int),.fn f []] (.sl 1 (us (wU m g meet))):=by
 have hc:=jD ok;have h4:=ok.hR;obtain⟨W1,W64⟩:=ok.hW;have hsh:=aV7 (k:=m.R.length) (by omega);have h2:¬ (g:Int)<1:=by omega
 have h3:¬ ((2 ^ m.R.length:Nat):Int)<=(g:Int):=by omega
 have hg60:g<2 ^ 60:=Nat.lt_of_lt_of_le hg.2 (Nat.pow_le_pow_right (by decide) (by omega));have hall:gC m.R g meet m.R.length=wU m g meet:=rfl;unfold qL.d at hc ⊢;refine xX.xQ mixed Tryz.func252 bTd (by simp) fun hf=>?_;simp only [simprocAttr,-ZA,↓zU,↓zD,zV,zT,zW]
 (repeat refine sd ?_)
 refine .go (cr hc) ?_;simp only [simprocAttr,-ZA,↓zU,↓zD,zV,zT,zW,h2,h3,hsh,zK]
 (repeat refine sd ?_)
 refine xW (fun k:Nat=>[(29,.int .i64 k),(28,.int .i64 m.R.length),(27,.sl 1 (rr m.R)),(7,xA 1 1 (us (gC m.R g meet k))),(2,.fn f []),(1,.int .i64 g)])
  (fun k=>⟨2,yY 1 1 (us (gC m.R g meet k))⟩) (fun k=>k<=m.R.length) (fun k=>m.R.length-k) 0 (Nat.zero_le _) ?_ ?_
 ·(refine xH.ren [] [1,0] (by simp) (by simp) (by decide) ?_; simp only [yZ,vwL,vw,vwF,sw,St.get,St.look,Fr.get,simprocAttr,-ZA,exists_eq_left',ne_eq,zR,gC,zN,zM,List.nil_append,vwL])
 intro k hk;refine xP mixed ?_
 by_cases h:k<m.R.length
 ·have hd:((k:Int)<(m.R.length:Int)):=by omega
  have hu:=sL (k:=k) (by omega);have hrl:=ok.row _ (xK (d:=[]) h);have hbr:=bZx hg60 (show k<=60 by omega);have hs:=aWy m.R g meet k;have hL:=aYe ok g meet k hk;have hrg:=nG m.R h;generalize gC m.R g meet k=acc at hs hL ⊢;generalize m.R.getD k []=r at hrl hs hrg
  cases hb:g.testBit k with
  | false=>
   rw [hb] at hbr hs;simp only [simprocAttr,-ZA,↓zU,↓zD,zV,zT,zW,hd,hbr,hu,hrg,zK]
   (repeat refine sd ?_)
   refine⟨k+1,by omega,?_,by omega⟩;rw [hs,if_neg (by simp)]
   (refine xH.same ?_; simp only [xO,Fr.get,simprocAttr,-ZA,zS])
  | true=>
   rw [hb] at hbr hs;rw [if_pos rfl] at hs hbr
   by_cases he:acc = []
   ·subst he;rw [List.isEmpty_nil,if_pos rfl] at hs;simp only [simprocAttr,-ZA,↓zU,↓zD,zV,zT,zW,hd,hbr,hu,hrg,zK,List.isEmpty_nil]
    (repeat refine sd ?_)
    have hrne:r ≠ []:=by rintro rfl; simp at hrl; omega
    refine .go (aTm r hrne (by omega)) ?_;simp only [simprocAttr,-ZA,↓zU,↓zD,zV,zT,zW,hu];refine⟨k+1,by omega,?_,by omega⟩;rw [hs]
    (refine xH.ren [(1,2)] [1] (by simp) (by simp) (by decide) ?_; simp only [yZ,vwL,vw,vwF,sw,St.get,St.look,Fr.get,simprocAttr,-ZA,exists_eq_left',ne_eq,zR])
   ·have hie:acc.isEmpty=false:=by simpa using he
    have hiu:(us acc).isEmpty=false:=by cases acc with | nil=>exact absurd rfl he | cons a l=>rfl
    rw [hie,if_neg (by simp)] at hs;have hL1:acc.length=W:=hL.resolve_left he;simp only [simprocAttr,-ZA,↓zU,↓zD,zV,zT,zW,hd,hbr,hu,hrg,zK,hiu]
    (repeat refine sd ?_)
    refine xW (fun w:Nat=>[(45,.int .i64 w),(44,.int .i64 acc.length),(29,.int .i64 k),(28,.int .i64 m.R.length),(27,.sl 1 (rr m.R)),(9,.sl 1 (us r)),(7,xA 1 1 (us acc)),(2,.fn f []),(1,.int .i64 g)])
     (fun w=>⟨2,yY 1 1 (us (aVl meet acc r w))⟩) (fun w=>w<=acc.length) (fun w=>acc.length-w) 0 (Nat.zero_le _) ?_ ?_
    ·rw [aKz]
     (refine xH.same ?_; simp [xO,Fr.get])
    intro w hw;refine xP mixed ?_
    by_cases h4:w<acc.length
    ·have hd4:((w:Int)<(acc.length:Int)):=by omega
     have hw4:=sL (k:=w) (by omega);have hx:w<r.length:=by omega
     have hx':(w:Int)<(r.length:Int):=by omega
     have hma:=aBv (meet:=meet) (r:=r) h4;have hms:=aFd (meet:=meet) (r:=r) h4;have hml:=aS6 meet acc r w;have hmw:w<(aVl meet acc r w).length:=by omega
     generalize aVl meet acc r w=z at *;simp only [simprocAttr,-ZA,↓zU,↓zD,zV,zT,zW,hd4,hw4,zH _ hmw,zH _ hx,hma,hml,xR]
     (repeat refine sd ?_)
     refine .go (xX.yT (hop (acc.getD w 0) (r.getD w 0)) rfl) ?_;simp only [simprocAttr,-ZA,↓zU,↓zD,zV,zT,zW,hd4,hw4,zH _ hmw,nH,hma,hml,hms,xR]
     (repeat refine sd ?_)
     refine⟨w+1,by omega,?_,by omega⟩;rw [bP (by rw [xR,xR,aS6,hml])]
     (refine xH.same ?_; simp only [xO,Fr.get,simprocAttr,-ZA,zS])
    ·have hd4:¬ ((w:Int)<(acc.length:Int)):=by omega
     have hw':w=acc.length:=by omega
     subst hw';rw [aFe];simp only [simprocAttr,-ZA,↓zU,↓zD,zV,zT,zW,hd4,hu];refine⟨k+1,by omega,?_,by omega⟩;rw [hs,aPv (show (us acc).length=(us (aIa meet acc r)).length by simp [us,aIa])]
     (refine xH.same ?_; simp only [xO,Fr.get,simprocAttr,-ZA,zS])
 ·have hd:¬ ((k:Int)<(m.R.length:Int)):=by omega
  have hk':k=m.R.length:=by omega
  subst hk';rw [hall];simp only [simprocAttr,-ZA,↓zU,↓zD,zV,zT,zW,hd]
  (repeat refine sd ?_)
  refine .drop (by simp) ?_;simp only [yZ,vwL,vw,vwF,sw,St.get,St.look,Fr.get,simprocAttr,-ZA,exists_eq_left',ne_eq,zR]
theorem aB0 (a b:BitVec 64):yU Tryz.prog 254 [.int .u64 (ui a),.int .u64 (ui b)] (.int .u64 (ui (op2 false a b))):=by refine xX.xQ mixed Tryz.func254 bTb (by simp) fun hf=>?_;simp only [simprocAttr,-ZA,↓zU,↓zD,zV,zT,zW];exact .same
theorem aB1 (a b:BitVec 64):yU Tryz.prog 253 [.int .u64 (ui a),.int .u64 (ui b)] (.int .u64 (ui (op2 true a b))):=by refine xX.xQ mixed Tryz.func253 bTc (by simp) fun hf=>?_;simp only [simprocAttr,-ZA,↓zU,↓zD,zV,zT,zW];exact .same
theorem aR8 {m:qL} {W:Nat} (ok:lZ m W) {g:Nat} (hg:1<=g/\g<2 ^ m.R.length):yU Tryz.prog 217 [m.d,.int .i64 (g:Int)] (.sl 1 (us (wU m g false))):=by
 have h:=aZ9 ok hg false 254 aB0;unfold qL.d at h ⊢;refine xX.xQ mixed Tryz.func217 bTp (by simp) fun hf=>?_;simp only [simprocAttr,-ZA,↓zU,↓zD,zV,zT,zW]
 (repeat refine sd ?_)
 refine .go (cr h) ?_;simp only [simprocAttr,-ZA,↓zU,↓zD,zV,zT,zW];exact .dv
theorem aA0 {m:qL} {W:Nat} (ok:lZ m W) {g:Nat} (hg:1<=g/\g<2 ^ m.R.length):yU Tryz.prog 216 [m.d,.int .i64 (g:Int)] (.sl 1 (us (wU m g true))):=by
 have h:=aZ9 ok hg true 253 aB1;unfold qL.d at h ⊢;refine xX.xQ mixed Tryz.func216 bTq (by simp) fun hf=>?_;simp only [simprocAttr,-ZA,↓zU,↓zD,zV,zT,zW]
 (repeat refine sd ?_)
 refine .go (cr h) ?_;simp only [simprocAttr,-ZA,↓zU,↓zD,zV,zT,zW];exact .dv
open Rs Fm Ru Te
namespace Ru
def mB (r:List (BitVec 64)) (a c s:BitVec 64):Nat->BitVec 64
 | 0=>a
 | n+1=>aYq r (a &&& ~~~c ||| s &&& mB r a c s n)
theorem aWo {r:List (BitVec 64)} {a c s:BitVec 64} {n:Nat} (h:mB r a c s (n+1)= mB r a c s n):∀ m,mB r a c s (n+m)= mB r a c s n
 | 0=>rfl
 | m+1=>by show aYq r (a &&& ~~~c ||| s &&& mB r a c s (n+m))= _;rw [aWo h m];exact h
theorem aB6 {n:Nat} (hn:n<=64) {x:BitVec 64} (h:aVj n x=false) {i:Nat} (hi:x.getLsbD i=true):i<n:=by
 unfold aVj at h;rw [Bool.not_eq_false',decide_eq_true_iff] at h;have h64:i<64:=Decidable.byContradiction fun hh=>by rw [BitVec.getLsbD_of_ge _ _ (by omega)] at hi; cases hi
 have:=congrArg (·.getLsbD i) h;simp only [BitVec.getLsbD_and,BitVec.getLsbD_not,rN hn h64,hi,h64,BitVec.getLsbD_zero] at this;simpa using this
def aO3 (R:List (List (BitVec 64))) (G:Nat) (meet:Bool) (k w v:Nat):Bool:= if meet=true then(List.range k).all fun a=>!G.testBit a || ((R.getD a []).getD w 0).getLsbD v else(List.range k).any fun a=>G.testBit a&&((R.getD a []).getD w 0).getLsbD v
theorem aBa (meet:Bool) (a b:BitVec 64) (v:Nat):(op2 meet a b).getLsbD v=if meet=true then(a.getLsbD v&&b.getLsbD v) else(a.getLsbD v || b.getLsbD v):=by unfold op2;cases meet <;> simp
theorem eE (R:List (List (BitVec 64))) (G:Nat) (meet:Bool) (k w v:Nat):aO3 R G meet (k+1) w v=if G.testBit k=true then(if meet=true then(aO3 R G meet k w v&&((R.getD k []).getD w 0).getLsbD v) else(aO3 R G meet k w v || ((R.getD k []).getD w 0).getLsbD v)) else aO3 R G meet k w v:=by unfold aO3;simp only [List.range_succ,List.any_append,List.all_append,List.any_cons,List.any_nil,List.all_cons,List.all_nil,Bool.or_false,Bool.and_true];cases meet <;> cases hG:G.testBit k <;> simp
theorem aWz {m:qL} {W:Nat} (ok:lZ m W) (G:Nat) (meet:Bool):∀ k,k<=m.R.length->((∀ a,a<k->G.testBit a=false)/\ gC m.R G meet k = [])\/((∃ a,a<k/\G.testBit a=true)/\ (gC m.R G meet k).length=W/\∀ w,w<W->∀ v,((gC m.R G meet k).getD w 0).getLsbD v=aO3 m.R G meet k w v)
 | 0,_=>.inl ⟨fun a h=>by omega,rfl⟩
 | k + 1,hk=>by
  have hr:=ok.row _ (xK (d:=[]) (show k<m.R.length by omega));rw [aWy];have ih:=aWz ok G meet k (by omega)
  cases hb:G.testBit k with
  | false=>
   rw [if_neg (by simp)]
   rcases ih with ⟨h1,h2⟩ | ⟨⟨a,h1,h2⟩,h3,h4⟩
   ·refine .inl ⟨fun a ha=>?_,h2⟩
    by_cases e:a=k
    ·rw [e]; exact hb
    ·exact h1 a (by omega)
   ·refine .inr ⟨⟨a,by omega,h2⟩,h3,fun w hw v=>?_⟩;rw [eE,hb,h4 w hw v]; rfl
  | true=>
   rw [if_pos rfl];refine .inr ⟨⟨k,by omega,hb⟩,?_⟩
   rcases ih with ⟨h1,h2⟩ | ⟨_,h3,h4⟩
   ·rw [h2,List.isEmpty_nil,if_pos rfl];refine⟨hr,fun w hw v=>?_⟩;rw [eE,hb,if_pos rfl]
    have hz:aO3 m.R G meet k w v=meet:=by
     unfold aO3
     cases meet
     ·simp only [Bool.false_eq_true,↓reduceIte,List.any_eq_false,List.mem_range];intro a ha;rw [h1 a ha]; simp
     ·simp only [↓reduceIte,List.all_eq_true,List.mem_range];intro a ha;rw [h1 a ha]; simp
    rw [hz];cases meet <;> simp
   ·have hne:(gC m.R G meet k).isEmpty=false:=by
     cases hc:gC m.R G meet k with
     | nil=>rw [hc] at h3; have:=ok.hW; simp at h3; omega
     | cons a b=>rfl
    rw [hne,if_neg (by simp)];refine⟨by simp [aIa,h3],fun w hw v=>?_⟩;rw [eE,hb,if_pos rfl,<- h4 w hw v]
    have:(aIa meet (gC m.R G meet k) (m.R.getD k [])).getD w 0=op2 meet ((gC m.R G meet k).getD w 0) ((m.R.getD k []).getD w 0):=by simp [aIa,List.getD,h3,hw]
    rw [this,aBa]
theorem dD {m:qL} {W:Nat} (ok:lZ m W) {g:Nat} (hg:1<=g/\g<2 ^ m.R.length) (meet:Bool):(∃ a,a<m.R.length/\g.testBit a=true)/\ (wU m g meet).length=W/\∀ w,w<W->∀ v,((wU m g meet).getD w 0).getLsbD v=aO3 m.R g meet m.R.length w v:=by
 rcases aWz ok g meet m.R.length (Nat.le_refl _) with ⟨h1,_⟩ | h
 ·exfalso
  have:g=0:=by
   refine Nat.eq_of_testBit_eq fun i=>?_;rw [Nat.zero_testBit]
   by_cases hi:i<m.R.length
   ·exact h1 i hi
   ·exact Nat.testBit_lt_two_pow (Nat.lt_of_lt_of_le hg.2 (Nat.pow_le_pow_right (by decide) (by omega)))
  omega
 ·exact h
theorem aE0 {m:qL} {W:Nat} (ok:lZ m W) {a:Nat} (ha:a<m.R.length):aQt (m.R.getD a []):=by have hm:=xK (d:=[]) ha;have:=ok.hW;refine⟨by rw [ok.row _ hm]; omega,fun x hx=>?_⟩;rw [ok.row _ hm];exact ok.rel _ hm x hx
theorem aX2 {m:qL} {W:Nat} (ok:lZ m W) {g:Nat} (hg:1<=g/\g<2 ^ m.R.length) (meet:Bool):aQt (wU m g meet):=by
 obtain⟨⟨a,ha,hb⟩,hl,hv⟩:=dD ok hg meet;have hW:=ok.hW;refine⟨by rw [hl]; omega,fun x hx=>?_⟩;rw [hl];obtain⟨w,hw,rfl⟩:=List.mem_iff_getElem.1 hx;refine aUd hW.2 fun v h=>?_;have hw':w<W:=by omega
 have e:(wU m g meet)[w]=(wU m g meet).getD w 0:=by simp [List.getD,hw]
 rw [e,hv w hw' v] at h
 have key:∀ b,b<m.R.length->((m.R.getD b []).getD w 0).getLsbD v=true->v<W:=fun b hb' h'=>by have hm:=xK (d:=[]) hb';exact aB6 hW.2 (ok.rel _ hm _ (xK (d:=0) (by rw [ok.row _ hm]; exact hw'))) h'
 unfold aO3 at h
 split at h
 ·rw [List.all_eq_true] at h;have:=h a (List.mem_range.2 ha);rw [hb] at this;exact key a ha (by simpa using this)
 ·rw [List.any_eq_true] at h;obtain⟨b,hb1,hb2⟩:=h;rw [Bool.and_eq_true] at hb2;exact key b (List.mem_range.1 hb1) hb2.2
end Ru
theorem aJn {r:List (BitVec 64)} (ok:aQt r) {a c s:BitVec 64} {N:Nat} (hN:mB r a c s (N+1)= mB r a c s N):yU Tryz.prog 218 [.sl 1 (us r),.int .u64 (ui a),.int .u64 (ui c),.int .u64 (ui s)] (.int .u64 (ui (mB r a c s N))):=by
 have hb:=fun x=>aZd ok x;refine xX.xQ mixed Tryz.func218 bTo (by simp) fun hf=>?_;simp only [simprocAttr,-ZA,↓zU,↓zD,zV,zT,zW]
 refine xW (fun n:Nat=>[(9,.int .u64 (ui (mB r a c s n))),(3,.int .u64 (ui s)),(2,.int .u64 (ui c)),(1,.int .u64 (ui a)),(0,.sl 1 (us r))]) (fun _=>⟨0,[]⟩) (fun n=>n<=N) (fun n=>N-n) 0 (Nat.zero_le _) ?_ ?_
 ·(refine xH.same ?_; simp [xO,Fr.get])
  rfl
 intro n hn;refine xP mixed ?_;have hs:mB r a c s (n+1)= aYq r (a &&& ~~~c ||| s &&& mB r a c s n):=rfl;simp only [simprocAttr,-ZA,↓zU,↓zD,zV,zT,zW];refine .go (xX.yT (hb (a &&& ~~~c ||| s &&& mB r a c s n)) (by simp [D.xV,D.xG])) ?_;rw [<- hs]
 by_cases e:mB r a c s (n+1)= mB r a c s n
 ·obtain⟨k,hk⟩:=Nat.exists_eq_add_of_le hn;have hst:=aWo e k;rw [hk,hst];have e':(mB r a c s (n+1)== mB r a c s n)= true:=by rw [e]; simp
  simp only [simprocAttr,-ZA,↓zU,↓zD,zV,zT,zW,e'];exact .same
 ·have e':(mB r a c s (n+1)== mB r a c s n)= false:=by rw [beq_eq_false_iff_ne]; exact e
  have hlt:n<N:=Decidable.byContradiction fun h=>e (by rw [show n=N by omega]; exact hN);simp only [simprocAttr,-ZA,↓zU,↓zD,zV,zT,zW,e'];refine⟨n+1,by omega,?_,by omega⟩
  (refine xH.same ?_; simp only [xO,Fr.get,simprocAttr,-ZA,zS])
end Go.Pd
