/- Part KG. -/
import Derived.Test.YtndfaefmmcoapaaGreatUoKE
import Derived.Test.YtndfaefmmcoapaaGreatUoKF
import Derived.Test.YtndfaefmmcoapaaGreatUoE7
set_option linter.unusedSectionVars false
set_option linter.unusedVariables false
set_option linter.unusedSimpArgs false
set_option linter.defProp false
set_option maxRecDepth 20000
set_option maxHeartbeats 1000000
namespace Go.Pd
open Go Go.Proofs
open BitVec renaming isValue -> ZA
open Rs Fm Ru Kb
namespace Kb
def uQ (see st:List (BitVec 64)) (a t:Nat):List (BitVec 64):=(st.take (t+1)).map fun s=>s &&& see.getD a 0
theorem oS {see st:List (BitVec 64)} {a t:Nat} (h:t<st.length):(uQ see st a t).length=t+1:=by simp [uQ]; omega
theorem aNa {see st:List (BitVec 64)} {a t:Nat} (h:t<st.length):uQ see st a t ≠ []:=fun c=>by have:=oS (see:=see) (a:=a) h;rw [c] at this; cases this
def plC (p:PrA) (sts:List (List (BitVec 64))):List D:=[.int .i64 p.F,.sl 1 (us p.init),.sl 1 (us p.see),.sl 1 (mvR p.xM),.sl 1 (cdR p.code),.sl 1 (rr sts)]
def plD (p:PrA) (sts:List (List (BitVec 64))):D:=.ptr (plC p sts)
end Kb
theorem pM {g:FuncId} {args:List D} {l:List (BitVec 64)} (h:xX Tryz.prog g args St0 (.osl 0 1 l.length) ⟨1,[(0,⟨1,us l⟩)]⟩):yT Tryz.prog g args (.sl 1 (us l)):= xX.ret h (.drop (Nat.zero_le _) (aTp (by decide) (rV l) (xQ l).symm))
theorem pI (p:PrA) {sts:List (List (BitVec 64))} {a r t:Nat} (ha:a<p.see.length) (hr:r<sts.length) (ht:t<(sts.getD r []).length) (hl:t<=1000) :
  xX Tryz.prog 75 [plD p sts,.int .i64 a,.int .i64 r,.int .i64 t] St0 (.osl 0 1 (uQ p.see (sts.getD r []) a t).length) ⟨1,[(0,⟨1,us (uQ p.see (sts.getD r []) a t)⟩)]⟩:=by
 have hg:=nX sts hr;have hne:=aNa (see:=p.see) (a:=a) ht;have hL:=oS (see:=p.see) (a:=a) ht;have hga:=wS p.see ha;have hha:((a:Int)<(p.see.length:Int)):=by omega
 have hhr:((r:Int)<(sts.length:Int)):=by omega
 unfold uQ at hne hL ⊢;generalize sts.getD r []=st at *;generalize p.see.getD a 0=m at *;have hu:(us st).take (t+1)= us (st.take (t+1)):=aOq _ _;have hw:IntKind.i64.wrap ((t:Int)+ 1)= ((t+1:Nat):Int):=by rw [wrap_i64 (by omega)]; rfl
 have hst:(st.take (t+1)).length=t+1:=by rw [List.length_take]; omega
 unfold plD plC;refine xX.xR mixed Tryz.func75 k75 (by simp) fun hf=>?_;simp only [simprocAttr,-ZA,↓zU,↓zD,zV,zT,zW,zQ,hhr,hg,hw]
 (repeat refine sd ?_)
 refine⟨0,((t+1:Nat):Int),rfl,rfl,by omega,by omega,by omega,?_⟩;simp only [Int.toNat_natCast,Int.toNat_zero,List.drop_zero,hu];generalize st.take (t+1)= q at *;simp only [simprocAttr,-ZA,↓zU,↓zD,zV,zT,zW,xQ,hst]
 refine xW (fun k:Nat=>[(23,.int .i64 k),(22,.int .i64 ((t+1:Nat):Int)),(21,.sl 1 (us q)),(9,yX 0 1 (us ((q.take k).map fun s=>s &&& m))),(1,.int .i64 a),(0,plD p sts)]) (fun k=>⟨1,yY 0 1 (us ((q.take k).map fun s=>s &&& m))⟩) (fun k=>k<=t+1) (fun k=>t+1-k) 0 (Nat.zero_le _) ?_ ?_
 ·unfold plD plC
  (refine xI.ren [] [] (by simp) (by simp) (by decide) ?_; simp only [yJ,vwL,vw,vwF,sw,St.get,St.look,Fr.get,↓reduceIte,reduceIte,Nat.reduceEqDiff,Nat.reduceAdd,Nat.reduceBEq,Nat.reduceLT,Nat.reduceLeDiff,exists_eq_left',ne_eq,reduceCtorEq,zR,List.take_zero,List.map_nil,aUr,wZ,wY])
 intro k hk;refine xN mixed ?_;unfold plD plC
 by_cases hh:k<t+1
 ·have hd:((k:Int)<((t+1:Nat):Int)):=by omega
  have hgq:=wS q (show k<q.length by omega);have ht2:(q.take (k+1)).map (fun s=>s &&& m)= (q.take k).map (fun s=>s &&& m)++ [q.getD k 0 &&& m]:=by rw [zP (d:=0) (by omega)]; simp
  have hkl:((q.take k).map fun s=>s &&& m).length=k:=by simp; omega
  generalize (q.take k).map (fun s=>s &&& m)= acc at hkl ht2 ⊢;generalize q.getD k 0=x at hgq ht2;simp only [simprocAttr,-ZA,↓zU,↓zD,zV,zT,zW,hd,xQ,hst,hgq,hha,hga]
  (repeat refine sd ?_)
  refine⟨k+1,by omega,?_,by omega⟩;rw [ht2]
  (refine xI.ren [(0,1)] [0] (by simp) (by simp) (by decide) ?_; simp only [yJ,vwL,vw,vwF,sw,St.get,St.look,Fr.get,↓reduceIte,reduceIte,Nat.reduceEqDiff,Nat.reduceAdd,Nat.reduceBEq,Nat.reduceLT,Nat.reduceLeDiff,exists_eq_left',ne_eq,reduceCtorEq,zR])
  exact wrap_i64 (by omega)
 ·have hd:¬ ((k:Int)<((t+1:Nat):Int)):=by omega
  rw [iU (show k=q.length by omega)];generalize q.map (fun s=>s &&& m)= acc at *;rw [aSf (by intro c; apply hne; cases acc with | nil=>rfl | cons x r=>cases c),aSe (by intro c; apply hne; cases acc with | nil=>rfl | cons x r=>cases c),xQ];simp only [simprocAttr,-ZA,↓zU,↓zD,zV,zT,zW,hd];exact .same
theorem aCm (a b:List Int):yT Tryz.prog 29 [.sl 1 (rows .u64 a),.sl 1 (rows .u64 b)] (.int .i64 (kc a b)):=by
 refine xX.xR mixed Tryz.func29 k29 (by simp) fun hf=>?_;simp only [D.uE,D.fact,xE] at hf;have hlen:=hf.1.1
 by_cases h1:a.length<b.length
 ·have h1':(a.length:Int)<(b.length:Int):=by omega
  rw [show kc a b = -1 by unfold kc; rw [if_pos h1]];simp only [simprocAttr,-ZA,↓zU,↓zD,zV,zT,zW,xE,h1'];exact .same
 have h1':¬ (a.length:Int)<(b.length:Int):=by omega
 by_cases h2:b.length<a.length
 ·have h2':(b.length:Int)<(a.length:Int):=by omega
  rw [show kc a b=1 by unfold kc; rw [if_neg h1,if_pos h2]];simp only [simprocAttr,-ZA,↓zU,↓zD,zV,zT,zW,xE,h1',h2'];exact .same
 have h2':¬ (b.length:Int)<(a.length:Int):=by omega
 have he:kc a b=qK a b:=by unfold kc; rw [if_neg h1,if_neg h2]
 rw [he];have hab:a.length=b.length:=by omega
 simp only [simprocAttr,-ZA,↓zU,↓zD,zV,zT,zW,xE,h1',h2']
 refine xW (fun k:Nat=>[(5,.int .i64 k),(1,.sl 1 (rows .u64 b)),(0,.sl 1 (rows .u64 a))]) (fun _=>⟨0,[]⟩) (fun k=>k<=a.length/\qK a b=qK (a.drop k) (b.drop k)) (fun k=>a.length-k) 0 ⟨Nat.zero_le _,rfl⟩ ?_ ?_
 ·(refine xI.same ?_; simp [xP,Fr.get])
 intro k ⟨hk,hi⟩;refine xN mixed ?_
 by_cases h:k<a.length
 ·have hd:((k:Int)<(a.length:Int)):=by omega
  have hd2:((k:Int)<(b.length:Int)):=by omega
  rw [drop_cons (d:=0) h,drop_cons (d:=0) (show k<b.length by omega),aY1] at hi;have g1:=yF .u64 a h;have g2:=yF .u64 b (show k<b.length by omega);generalize a.getD k 0=x at hi g1;generalize b.getD k 0=y at hi g2
  by_cases c1:x<y
  ·rw [if_pos c1] at hi;rw [hi];simp only [simprocAttr,-ZA,↓zU,↓zD,zV,zT,zW,xE,hd,hd2,g1,g2,c1]
   (repeat refine sd ?_)
   exact .same
  ·by_cases c2:y<x
   ·rw [if_neg c1,if_pos c2] at hi;rw [hi];simp only [simprocAttr,-ZA,↓zU,↓zD,zV,zT,zW,xE,hd,hd2,g1,g2,c1,c2]
    (repeat refine sd ?_)
    exact .same
   ·rw [if_neg c1,if_neg c2] at hi;simp only [simprocAttr,-ZA,↓zU,↓zD,zV,zT,zW,xE,hd,hd2,g1,g2,c1,c2]
    (repeat refine sd ?_)
    refine⟨k+1,⟨by omega,hi⟩,?_,by omega⟩
    (refine xI.same ?_; simp only [xP,Fr.get,↓reduceIte,reduceIte,Nat.reduceEqDiff,reduceCtorEq,D.int.injEq,D.bool.injEq,D.sl.injEq,and_true,true_and,and_self])
    exact wrap_i64 (by omega)
 ·have hd:¬ ((k:Int)<(a.length:Int)):=by omega
  rw [List.drop_eq_nil_of_le (show a.length<=k by omega),List.drop_eq_nil_of_le (show b.length<=k by omega)] at hi;rw [hi];simp only [simprocAttr,-ZA,↓zU,↓zD,zV,zT,zW,xE,hd];exact .same
section
open Ru
end
section
open Ru
theorem jY {nx n key sz:Nat} {xS:List (Nat × Ob)} {els:List (List D)} (hs:0<sz) (hp:∀ e ∈ els,D.xU e=true) (h:St.look xS key=vZ sz els) {ρ:Nat->Nat}:vw ⟨nx,xS⟩ ⟨n,[]⟩ ρ (yX key sz els) (.sl sz els):=by
 cases els with
 | nil=>simp [yX,vw]
 | cons e r=> simp only [yX,vw];refine⟨trivial,hs,by simp,⟨sz,e :: r⟩,?_,rfl,by simp,by simp,hp⟩;show St.look xS key=_;rw [h]; rfl
namespace Ru
def ptN (T n:Nat):List (Nat × Nat):=(List.range n).map fun i=>(i / T,i % T)
theorem rD (T n:Nat):(ptN T n).length=n:=by simp [ptN]
theorem aEu (T:Nat) {n i:Nat} (h:i<n):(ptN T n).getD i (0,0)= (i / T,i % T):=by simp [ptN,List.getD,h]
theorem aId (T r t:Nat) (ht:t<T):ptN T (r*T+(t+1))= ptN T (r*T+t)++ [(r,t)]:=by
 rw [show r*T+(t+1)= (r*T+t)+ 1 by omega];unfold ptN;rw [List.range_succ,List.map_append,List.map_singleton]
 have e1:(r*T+t)/ T=r:=by rw [Nat.mul_comm,Nat.mul_add_div (by omega),Nat.div_eq_of_lt ht]; rfl
 have e2:(r*T+t) % T=t:=by rw [Nat.mul_comm,Nat.mul_add_mod,Nat.mod_eq_of_lt ht]
 rw [e1,e2]
end Ru
end
section
namespace Ru
def tZ (rs:List wC) (a:Nat) (p:Nat × Nat):Int:=((rs.getD p.1 lJ).loc.getD p.2 []).getD a 0
def aKn (rs:List wC) (p:Nat × Nat):BitVec 64:=(rs.getD p.1 lJ).fac.getD p.2 0
def eO (rs:List wC) (l:List (Nat × Nat)) (f:Nat):Nat->BitVec 64
 | 0=>0#64
 | k+1=>eO rs l f k ||| (if (aKn rs (l.getD k (0,0))).getLsbD f then 1#64 <<< k else 0#64)
def cB (rs:List wC) (l:List (Nat × Nat)) (a:Nat) (x:Int):Nat->BitVec 64
 | 0=>0#64
 | k+1=>cB rs l a x k ||| (if tZ rs a (l.getD k (0,0))= x then 1#64 <<< k else 0#64)
def cC (rs:List wC) (l:List (Nat × Nat)) (F:Nat):List (BitVec 64):=(List.range F).map fun f=>eO rs l f l.length
def lI (rs:List wC) (l:List (Nat × Nat)) (a:Nat):List (BitVec 64):=l.map fun p=>cB rs l a (tZ rs a p) l.length
def nC (rs:List wC) (l:List (Nat × Nat)) (A:Nat):List (List (BitVec 64)):=(List.range A).map (lI rs l)
def aC6 (rs:List wC) (l:List (Nat × Nat)) (A F:Nat):D:=.agg [.int .i64 (l.length:Int),.sl 1 (us (cC rs l F)),.sl 1 (rr (nC rs l A))]
structure OkR (rs : List wC) (A F T : Nat) : Prop where
 hA:A<=4
 hF:F<=8
 hT:1<=T/\T<=16
 hR:1<=rs.length/\rs.length<=64
 hP:rs.length*T<=512
 loc:∀ r ∈ rs,r.loc.length=T
 fac:∀ r ∈ rs,r.fac.length=T
 row:∀ r ∈ rs,∀ l ∈ r.loc,l.length=A
 val:∀ r ∈ rs,∀ f ∈ r.fac,f >>> F=0#64
def sD (A F T:Nat) (rs:List wC):D:=.agg [.int .i64 (A:Int),.int .i64 (F:Int),.int .i64 (T:Int),.sl 2 (nE rs)]
theorem qQ (x:Int):∀ (l:List (Int × D)) (i:Nat),rW x l i=(rW x l 0).map fun p=>(p.1+i,p.2)
 | [],i=>rfl
 | (k,d) :: r,i=>by
  unfold rW
  by_cases h:x=k
  ·rw [if_pos h,if_pos h]; simp
  ·rw [if_neg h,if_neg h,qQ x r (i+1),qQ x r (0+1)]
   cases rW x r 0 with
   | none=>rfl
   | some p=>simp; omega
end Ru
open Ru
end
open Ru
namespace Ru
def aXi (F:Nat) (g h:Nat->BitVec 64) (i:Nat):List (BitVec 64):=(List.range F).map fun f=>if f<i then g f else h f
theorem aS (F:Nat) (g h:Nat->BitVec 64) (i:Nat):(aXi F g h i).length=F:=by simp [aXi]
theorem aYt (F:Nat) (g h:Nat->BitVec 64):aXi F g h 0=(List.range F).map h:=by simp [aXi]
theorem aTz (F:Nat) (g h:Nat->BitVec 64) {i:Nat} (hi:F<=i):aXi F g h i=(List.range F).map g:=by refine List.map_congr_left fun f hf=>?_;rw [if_pos (by have:=List.mem_range.1 hf; omega)]
theorem aTy {F:Nat} (g h:Nat->BitVec 64) {i:Nat} (hi:i<F):(aXi F g h i).getD i 0=h i:=by simp [aXi,List.getD,hi]
theorem aTx (F:Nat) (g h:Nat->BitVec 64) (i:Nat):(aXi F g h i).set i (g i)= aXi F g h (i+1):=by
 refine List.ext_getElem (by simp [aXi]) fun k h1 h2=>?_;rw [List.getElem_set];simp only [aXi,List.getElem_map,List.getElem_range]
 by_cases e:i=k
 ·subst e; rw [if_pos rfl,if_pos (by omega)]
 ·rw [if_neg e]
  by_cases hk:k<i
  ·rw [if_pos hk,if_pos (by omega)]
  ·rw [if_neg hk,if_neg (by omega)]
theorem aCe (x:BitVec 64) (f w:Nat):(x >>> f &&& 1#64) <<< w=if x.getLsbD f then 1#64 <<< w else 0#64:=by
 rw [aSv]
 split
 ·rfl
 ·exact BitVec.zero_shiftLeft _
end Ru
namespace Ru
structure oE where
 W:Int
 V:List (BitVec 64)
 R:List (List (BitVec 64))
def oE.d (m:oE):D:=.agg [.int .i64 m.W,.sl 1 (us m.V),.sl 1 (rr m.R)]
def qE (n:Nat):BitVec 64:=if 64<=n then 18446744073709551615#64 else 1#64 <<< n-1#64
def aWe (n:Nat) (x:BitVec 64):Bool:=!decide (x &&& ~~~(qE n)= 0#64)
structure mU (m : oE) (W : Nat) : Prop where
 w:m.W=W
 hW:1<=W/\W<=64
 hV:m.V.length<=8
 hR:m.R.length<=4
 row:∀ r ∈ m.R,r.length=W
 val:∀ x ∈ m.V,aWe W x=false
 rel:∀ r ∈ m.R,∀ x ∈ r,aWe W x=false
theorem sG {n:Nat} (hn:n<=64) {i:Nat} (hi:i<64):(qE n).getLsbD i=decide (i<n):=by
 unfold qE
 by_cases h:64<=n
 ·rw [if_pos h,show 18446744073709551615#64=BitVec.allOnes 64 from rfl,BitVec.getLsbD_allOnes];simp [hi]; omega
 ·rw [if_neg h];have:∀ n,n<64->∀ i,i<64->(1#64 <<< n-1#64).getLsbD i=decide (i<n):=by decide
  exact this n (by omega) i hi
theorem aW7 {n:Nat} (hn:n<=64) {x:BitVec 64} (h:∀ i,x.getLsbD i=true->i<n):aWe n x=false:=by
 unfold aWe;rw [Bool.not_eq_false',decide_eq_true_iff];refine BitVec.eq_of_getLsbD_eq fun i hi=>?_;rw [BitVec.getLsbD_and,BitVec.getLsbD_not,sG hn hi,BitVec.getLsbD_zero]
 cases hx:x.getLsbD i
 ·rfl
 ·simp [h i hx]
end Ru
open Ru
theorem aDr {σ:St} {g:FuncId} {caps:List D} {f:List (BitVec 64)->Bool} {l:List (List (BitVec 64))} (hl:l.length<=1000) (h:∀ x ∈ l,xX Tryz.prog g ([.sl 1 (us x)]++caps) σ (.bool (f x)) σ):xX Tryz.prog 199 [.sl 1 (rr l),.fn g caps] σ (.int .i64 (ixF f l 0)) σ:=by
 refine xX.xR mixed Tryz.func199 bW4 (by simp) fun hf=>?_;simp only [simprocAttr,-ZA,↓zU,↓zD,zV,zT,zW,zQ]
 refine xW (fun k:Nat=>[(8,.int .i64 k),(7,.int .i64 l.length),(1,.fn g caps),(0,.sl 1 (rr l))]) (fun _=>σ) (fun k=>k<=l.length/\ixF f l 0=ixF f (l.drop k) k) (fun k=>l.length-k) 0 ⟨Nat.zero_le _,rfl⟩ ?_ ?_
 ·(refine xI.same ?_; simp [xP,Fr.get])
 intro k ⟨hk,hi⟩;refine xN mixed ?_
 by_cases hh:k<l.length
 ·have hd:((k:Int)<(l.length:Int)):=by omega
  rw [drop_cons (d:=[]) hh,ixF] at hi;simp only [simprocAttr,-ZA,↓zU,↓zD,zV,zT,zW,hd,zQ,nX _ hh]
  (repeat refine sd ?_)
  refine .go (h _ (xK hh)) ?_
  cases hx:f (l.getD k [])
  ·rw [hx,if_neg (by simp)] at hi;simp only [simprocAttr,-ZA,↓zU,↓zD,zV,zT,zW];refine⟨k+1,⟨by omega,hi⟩,?_,by omega⟩
   (refine xI.same ?_; simp only [xP,Fr.get,↓reduceIte,reduceIte,Nat.reduceEqDiff,reduceCtorEq,D.int.injEq,D.bool.injEq,D.sl.injEq,and_true,true_and,and_self])
   exact wrap_i64 (by omega)
  ·rw [hx,if_pos rfl] at hi;simp only [simprocAttr,-ZA,↓zU,↓zD,zV,zT,zW];rw [hi];exact .same
 ·have hd:¬ ((k:Int)<(l.length:Int)):=by omega
  rw [List.drop_eq_nil_of_le (by omega),ixF] at hi;simp only [simprocAttr,-ZA,↓zU,↓zD,zV,zT,zW,hd];rw [hi];exact .same
theorem aQ4 {σ:St} {g:FuncId} {caps:List D} {f:List (BitVec 64)->Bool} {l:List (List (BitVec 64))} (hl:l.length<=1000) (h:∀ x ∈ l,xX Tryz.prog g ([.sl 1 (us x)]++caps) σ (.bool (f x)) σ):xX Tryz.prog 139 [.sl 1 (rr l),.fn g caps] σ (.bool (l.any f)) σ:=by
 refine xX.xR mixed Tryz.func139 bVs (by simp) fun hf=>?_;simp only [simprocAttr,-ZA,↓zU,↓zD,zV,zT,zW];refine .go (aDr hl h) ?_;have hx:=nO (f:=f) (c:=l) (i:=0) (Int.le_refl 0)
 cases ha:l.any f
 ·have h1:¬ 0<=ixF f l 0:=fun y=>by rw [hx.1 y] at ha; cases ha
  simp only [simprocAttr,-ZA,↓zU,↓zD,zV,zT,zW,h1];exact .same
 ·have h1:=hx.2 ha;simp only [simprocAttr,-ZA,↓zU,↓zD,zV,zT,zW,h1];exact .same
theorem bZj (n:Nat):yT Tryz.prog 198 [.int .i64 n] (.int .u64 (ui (qE n))):=by
 refine xX.xR mixed Tryz.func198 bW5 (by simp) fun hf=>?_;unfold qE
 by_cases h:64<=n
 ·have e:(64:Int)<=(n:Int):=by omega
  rw [if_pos h];simp only [simprocAttr,-ZA,↓zU,↓zD,zV,zT,zW,e];exact .same
 ·have e:¬ (64:Int)<=(n:Int):=by omega
  rw [if_neg h];simp only [simprocAttr,-ZA,↓zU,↓zD,zV,zT,zW,e]
  (repeat refine sd ?_)
  exact .same
theorem bY1 {n nx:Nat} {xS:List (Nat × Ob)} {k:Nat} (h0:St.look xS k=some ⟨1,[[.int .i64 n]]⟩) (x:BitVec 64):xX Tryz.prog 197 ([.int .u64 (ui x)] ++ [.ref k 1 0 0]) ⟨nx,xS⟩ (.bool (aWe n x)) ⟨nx,xS⟩:=by
 refine xX.xR mixed Tryz.func197 bW6 (by simp) fun hf=>?_;simp only [simprocAttr,-ZA,↓zU,↓zD,zV,zT,zW,h0]
 (repeat refine sd ?_)
 refine .go (cq (bZj n)) ?_;simp only [simprocAttr,-ZA,↓zU,↓zD,zV,zT,zW];rw [show (x &&& ~~~(qE n) != 0#64)= aWe n x by unfold aWe; rw [bne]; congr 1];exact .same
theorem aYq {l:List (BitVec 64)} (hl:l.length<=1000) (n:Nat):yT Tryz.prog 138 [.sl 1 (us l),.int .i64 n] (.bool (l.any (aWe n))):=by refine xX.xR mixed Tryz.func138 bVt (by simp) fun hf=>?_;simp only [simprocAttr,-ZA,↓zU,↓zD,zV,zT,zW];refine .go (jU (caps:=[.ref 0 1 0 0]) hl fun x _=>bY1 rfl x) ?_;simp only [simprocAttr,-ZA,↓zU,↓zD,zV,zT,zW];exact .drop (by simp) (by simp [vw])
theorem bZd {m:oE} {W:Nat} (hw:m.W=W) {nx:Nat} {xS:List (Nat × Ob)} (h0:St.look xS 0=some ⟨3,[[.int .i64 m.W,.sl 1 (us m.V),.sl 1 (rr m.R)]]⟩) {x:List (BitVec 64)} (hx:x.length<=1000):xX Tryz.prog 140 ([.sl 1 (us x)] ++ [.ref 0 3 0 0]) ⟨nx,xS⟩ (.bool (x.any (aWe W))) ⟨nx,xS⟩:=by
 refine xX.xR mixed Tryz.func140 bVr (by simp) fun hf=>?_;simp only [simprocAttr,-ZA,↓zU,↓zD,zV,zT,zW,h0,hw]
 (repeat refine sd ?_)
 refine .go (cr (aYq hx W)) ?_;simp only [simprocAttr,-ZA,↓zU,↓zD,zV,zT,zW];exact .same
theorem cX {m:oE} {W:Nat} (ok:mU m W):yT Tryz.prog 90 [m.d] (.int .i64 0):=by
 obtain⟨W1,W64⟩:=ok.hW;have h1:¬ (W:Int)<1:=by omega
 have h2:¬ (64:Int)<(W:Int):=by omega
 have h3:¬ (4:Int)<(m.R.length:Int):=by have:=ok.hR; omega
 have h4:¬ (8:Int)<(m.V.length:Int):=by have:=ok.hV; omega
 have hv:m.V.any (aWe W)= false:=List.any_eq_false.2 fun x hx=>by rw [ok.val x hx]; simp
 have hr:m.R.any (fun x=>x.any (aWe W))= false:=List.any_eq_false.2 fun x hx=>by rw [List.any_eq_false.2 fun y hy=>by rw [ok.rel x hx y hy]; simp]; simp
 have ho:=aYq (l:=m.V) (by have:=ok.hV; omega) W;have hc:=aQ4 (σ:=⟨1,[(0,⟨3,[[.int .i64 m.W,.sl 1 (us m.V),.sl 1 (rr m.R)]]⟩)]⟩) (g:=140) (caps:=[.ref 0 3 0 0]) (f:=fun x=>x.any (aWe W)) (l:=m.R) (by have:=ok.hR; omega) fun x hx=>bZd ok.w rfl (by rw [ok.row x hx]; omega);rw [hv] at ho;rw [hr,ok.w] at hc;unfold oE.d;refine xX.xR mixed Tryz.func90 k90 (by simp) fun hf=>?_;simp only [simprocAttr,-ZA,↓zU,↓zD,zV,zT,zW,ok.w,h1,h2,zQ,xQ,h3,h4]
 refine xW (fun k:Nat=>[(26,.int .i64 k),(25,.int .i64 m.R.length),(24,.sl 1 (rr m.R)),(1,.ref 0 3 0 0)]) (fun _=>⟨1,[(0,⟨3,[[.int .i64 W,.sl 1 (us m.V),.sl 1 (rr m.R)]]⟩)]⟩)
  (fun k=>k<=m.R.length) (fun k=>m.R.length-k) 0 (Nat.zero_le _) ?_ ?_
 ·(refine xI.same ?_; simp [xP,Fr.get])
 intro k hk;refine xN mixed ?_
 by_cases h:k<m.R.length
 ·have hd:((k:Int)<(m.R.length:Int)):=by omega
  have hrw:=ok.row _ (xK (d:=[]) h);have hg:=nX m.R h;generalize m.R.getD k []=r at hrw hg;have e:((r.length:Int) != (W:Int))= false:=by rw [hrw]; simp
  simp only [simprocAttr,-ZA,↓zU,↓zD,zV,zT,zW,hd,zQ,hg,xQ,e]
  (repeat refine sd ?_)
  refine⟨k+1,by omega,?_,by omega⟩
  (refine xI.same ?_; simp only [xP,Fr.get,↓reduceIte,reduceIte,Nat.reduceEqDiff,reduceCtorEq,D.int.injEq,D.bool.injEq,D.sl.injEq,and_true,true_and,and_self])
  exact wrap_i64 (by omega)
 ·have hd:¬ ((k:Int)<(m.R.length:Int)):=by omega
  simp only [simprocAttr,-ZA,↓zU,↓zD,zV,zT,zW,hd];refine .go (cr ho) ?_;simp only [simprocAttr,-ZA,↓zU,↓zD,zV,zT,zW];refine .go hc ?_;simp only [simprocAttr,-ZA,↓zU,↓zD,zV,zT,zW];exact .drop (by simp) (by simp [vw])
end Go.Pd
