/- Part KG. -/
import Derived.Test.YtndfaefmmcoapaaGreatKcKD
import Derived.Test.YtndfaefmmcoapaaGreatKcSC
import Derived.Test.YtndfaefmmcoapaaGreatKcP7
set_option linter.unusedSectionVars false
set_option linter.unusedVariables false
set_option linter.unusedSimpArgs false
set_option linter.defProp false
set_option maxRecDepth 20000
set_option maxHeartbeats 1000000
namespace Go.Pd
open Go Go.Proofs
open Int renaming reduceToNat -> ZA, reduceLT -> ZB, reduceLE -> ZC, reduceBEq -> ZD, reduceBNe -> ZE
open Nat renaming reduceEqDiff -> ZF, reduceAdd -> ZG, reduceBEq -> ZH, reduceLT -> ZI, reduceLeDiff -> ZJ, reduceMul -> ZK
open Rs Fm Ru Kb
namespace Kb
def vK (see st:List (BitVec 64)) (a t:Nat):List (BitVec 64):=(st.take (t+1)).map fun s=>s &&& see.getD a 0
theorem qE {see st:List (BitVec 64)} {a t:Nat} (h:t<st.length):(vK see st a t).length=t+1:=by
 simp [vK]; omega
theorem aQ7 {see st:List (BitVec 64)} {a t:Nat} (h:t<st.length):vK see st a t ≠ []:=fun c=>by
 have:=qE (see:=see) (a:=a) h;rw [c] at this; cases this
def plC (p:PrA) (sts:List (List (BitVec 64))):List D:=[.int .i64 p.F,.sl 1 (us p.init),.sl 1 (us p.see),.sl 1 (mvR p.moves),.sl 1 (cdR p.code),.sl 1 (rr sts)]
def plD (p:PrA) (sts:List (List (BitVec 64))):D:=.ptr (plC p sts)
end Kb
theorem qZ {g:FuncId} {args:List D} {l:List (BitVec 64)} (h:xX Tryz.prog g args St0 (.osl 0 1 l.length) ⟨1,[(0,⟨1,us l⟩)]⟩):yX Tryz.prog g args (.sl 1 (us l)):=
 xX.ret h (.drop (Nat.zero_le _) (aVz (by decide) (sY l) (xT l).symm))
theorem qT (p:PrA) {sts:List (List (BitVec 64))} {a r t:Nat} (ha:a<p.see.length) (hr:r<sts.length) (ht:t<(sts.getD r []).length) (hl:t<=1000) :
  xX Tryz.prog 75 [plD p sts,.int .i64 a,.int .i64 r,.int .i64 t] St0 (.osl 0 1 (vK p.see (sts.getD r []) a t).length) ⟨1,[(0,⟨1,us (vK p.see (sts.getD r []) a t)⟩)]⟩:=by
 have hg:=pK sts hr;have hne:=aQ7 (see:=p.see) (a:=a) ht;have hL:=qE (see:=p.see) (a:=a) ht;have hga:=zH p.see ha;have hha:((a:Int)<(p.see.length:Int)):=by omega
 have hhr:((r:Int)<(sts.length:Int)):=by omega
 unfold vK at hne hL ⊢;generalize sts.getD r []=st at *;generalize p.see.getD a 0=m at *;have hu:(us st).take (t+1)= us (st.take (t+1)):=aQo _ _;have hw:IntKind.i64.wrap ((t:Int)+ 1)= ((t+1:Nat):Int):=by rw [wrap_i64 (by omega)]; rfl
 have hst:(st.take (t+1)).length=t+1:=by rw [List.length_take]; omega
 unfold plD plC;refine xX.go_fn mixed Tryz.func75 k75 (by simp) fun hf=>?_;simp only [ZA,ZB,ZC,ZD,ZE,↓reduceIte,ZF,ZG,ZH,ZI,ZJ,reduceCtorEq,ZK,↓zU,↓zD,zV,zT,zW,yE,hhr,hg,hw]
 (repeat refine sd ?_)
 refine⟨0,((t+1:Nat):Int),rfl,rfl,by omega,by omega,by omega,?_⟩;simp only [Int.toNat_natCast,Int.toNat_zero,List.drop_zero,hu];generalize st.take (t+1)= q at *;simp only [ZA,ZB,ZC,ZD,ZE,↓reduceIte,ZF,ZG,ZH,ZI,ZJ,reduceCtorEq,ZK,↓zU,↓zD,zV,zT,zW,xT,hst]
 refine xV (fun k:Nat=>[(23,.int .i64 k),(22,.int .i64 ((t+1:Nat):Int)),(21,.sl 1 (us q)),(9,xG 0 1 (us ((q.take k).map fun s=>s &&& m))),(1,.int .i64 a),(0,plD p sts)]) (fun k=>⟨1,xE 0 1 (us ((q.take k).map fun s=>s &&& m))⟩) (fun k=>k<=t+1) (fun k=>t+1-k) 0 (Nat.zero_le _) ?_ ?_
 ·unfold plD plC
  (refine xM.ren [] [] (by simp) (by simp) (by decide) ?_; simp only [yO,vwL,vw,vwF,sw,St.get,St.look,Fr.get,↓reduceIte,reduceIte,Nat.reduceEqDiff,Nat.reduceAdd,Nat.reduceBEq,Nat.reduceLT,Nat.reduceLeDiff,exists_eq_left',ne_eq,reduceCtorEq,zR,List.take_zero,List.map_nil,aW4,zL,zM])
 intro k hk;refine xQ mixed ?_;unfold plD plC
 by_cases hh:k<t+1
 ·have hd:((k:Int)<((t+1:Nat):Int)):=by omega
  have hgq:=zH q (show k<q.length by omega);have ht2:(q.take (k+1)).map (fun s=>s &&& m)= (q.take k).map (fun s=>s &&& m)++ [q.getD k 0 &&& m]:=by rw [yD (d:=0) (by omega)]; simp
  have hkl:((q.take k).map fun s=>s &&& m).length=k:=by simp; omega
  generalize (q.take k).map (fun s=>s &&& m)= acc at hkl ht2 ⊢;generalize q.getD k 0=x at hgq ht2;simp only [ZA,ZB,ZC,ZD,ZE,↓reduceIte,ZF,ZG,ZH,ZI,ZJ,reduceCtorEq,ZK,↓zU,↓zD,zV,zT,zW,hd,xT,hst,hgq,hha,hga]
  (repeat refine sd ?_)
  refine⟨k+1,by omega,?_,by omega⟩;rw [ht2]
  (refine xM.ren [(0,1)] [0] (by simp) (by simp) (by decide) ?_; simp only [yO,vwL,vw,vwF,sw,St.get,St.look,Fr.get,↓reduceIte,reduceIte,Nat.reduceEqDiff,Nat.reduceAdd,Nat.reduceBEq,Nat.reduceLT,Nat.reduceLeDiff,exists_eq_left',ne_eq,reduceCtorEq,zR])
  exact wrap_i64 (by omega)
 ·have hd:¬ ((k:Int)<((t+1:Nat):Int)):=by omega
  rw [kM (show k=q.length by omega)];generalize q.map (fun s=>s &&& m)= acc at *;rw [aUo (by intro c; apply hne; cases acc with | nil=>rfl | cons x r=>cases c),aUn (by intro c; apply hne; cases acc with | nil=>rfl | cons x r=>cases c),xT];simp only [ZA,ZB,ZC,ZD,ZE,↓reduceIte,ZF,ZG,ZH,ZI,ZJ,reduceCtorEq,ZK,↓zU,↓zD,zV,zT,zW,hd];exact .same
section
open Ru
end
section
open Ru
theorem lU {nx n key sz:Nat} {objs:List (Nat × Ob)} {els:List (List D)} (hs:0<sz) (hp:∀ e ∈ els,D.isPureL e=true) (h:St.look objs key=wK sz els) {ρ:Nat->Nat}:vw ⟨nx,objs⟩ ⟨n,[]⟩ ρ (xG key sz els) (.sl sz els):=by
 cases els with
 | nil=>simp [xG,vw]
 | cons e r=>
  simp only [xG,vw];refine⟨trivial,hs,by simp,⟨sz,e :: r⟩,?_,rfl,by simp,by simp,hp⟩;show St.look objs key=_;rw [h]; rfl
namespace Ru
def ptN (T n:Nat):List (Nat × Nat):=(List.range n).map fun i=>(i / T,i % T)
theorem sH (T n:Nat):(ptN T n).length=n:=by simp [ptN]
theorem aGi (T:Nat) {n i:Nat} (h:i<n):(ptN T n).getD i (0,0)= (i / T,i % T):=by simp [ptN,List.getD,h]
theorem aL9 (T r t:Nat) (ht:t<T):ptN T (r*T+(t+1))= ptN T (r*T+t)++ [(r,t)]:=by
 rw [show r*T+(t+1)= (r*T+t)+ 1 by omega];unfold ptN;rw [List.range_succ,List.map_append,List.map_singleton]
 have e1:(r*T+t)/ T=r:=by
  rw [Nat.mul_comm,Nat.mul_add_div (by omega),Nat.div_eq_of_lt ht]; rfl
 have e2:(r*T+t) % T=t:=by
  rw [Nat.mul_comm,Nat.mul_add_mod,Nat.mod_eq_of_lt ht]
 rw [e1,e2]
end Ru
end
section
namespace Ru
def uQ (rs:List wP) (a:Nat) (p:Nat × Nat):Int:=((rs.getD p.1 mW).loc.getD p.2 []).getD a 0
def aMk (rs:List wP) (p:Nat × Nat):BitVec 64:=(rs.getD p.1 mW).fac.getD p.2 0
def gK (rs:List wP) (l:List (Nat × Nat)) (f:Nat):Nat->BitVec 64
 | 0=>0#64
 | k+1=>gK rs l f k ||| (if (aMk rs (l.getD k (0,0))).getLsbD f then 1#64 <<< k else 0#64)
def relK (rs:List wP) (l:List (Nat × Nat)) (a:Nat) (x:Int):Nat->BitVec 64
 | 0=>0#64
 | k+1=>relK rs l a x k ||| (if uQ rs a (l.getD k (0,0))= x then 1#64 <<< k else 0#64)
def eC (rs:List wP) (l:List (Nat × Nat)) (F:Nat):List (BitVec 64):=(List.range F).map fun f=>gK rs l f l.length
def mV (rs:List wP) (l:List (Nat × Nat)) (a:Nat):List (BitVec 64):=l.map fun p=>relK rs l a (uQ rs a p) l.length
def oN (rs:List wP) (l:List (Nat × Nat)) (A:Nat):List (List (BitVec 64)):=(List.range A).map (mV rs l)
def aEs (rs:List wP) (l:List (Nat × Nat)) (A F:Nat):D:=.agg [.int .i64 (l.length:Int),.sl 1 (us (eC rs l F)),.sl 1 (rr (oN rs l A))]
structure OkR (rs : List wP) (A F T : Nat) : Prop where
 hA:A<=4
 hF:F<=8
 hT:1<=T/\T<=16
 hR:1<=rs.length/\rs.length<=64
 hP:rs.length*T<=512
 loc:∀ r ∈ rs,r.loc.length=T
 fac:∀ r ∈ rs,r.fac.length=T
 row:∀ r ∈ rs,∀ l ∈ r.loc,l.length=A
 val:∀ r ∈ rs,∀ f ∈ r.fac,f >>> F=0#64
def sD (A F T:Nat) (rs:List wP):D:=.agg [.int .i64 (A:Int),.int .i64 (F:Int),.int .i64 (T:Int),.sl 2 (oQ rs)]
theorem rS (x:Int):∀ (l:List (Int × D)) (i:Nat),sX x l i=(sX x l 0).map fun p=>(p.1+i,p.2)
 | [],i=>rfl
 | (k,d) :: r,i=>by
  unfold sX
  by_cases h:x=k
  ·rw [if_pos h,if_pos h]; simp
  ·rw [if_neg h,if_neg h,rS x r (i+1),rS x r (0+1)]
   cases sX x r 0 with
   | none=>rfl
   | some p=>simp; omega
end Ru
open Ru
end
open Ru
namespace Ru
def bR (F:Nat) (g h:Nat->BitVec 64) (i:Nat):List (BitVec 64):=(List.range F).map fun f=>if f<i then g f else h f
theorem cP (F:Nat) (g h:Nat->BitVec 64) (i:Nat):(bR F g h i).length=F:=by simp [bR]
theorem aXa (F:Nat) (g h:Nat->BitVec 64):bR F g h 0=(List.range F).map h:=by simp [bR]
theorem aV9 (F:Nat) (g h:Nat->BitVec 64) {i:Nat} (hi:F<=i):bR F g h i=(List.range F).map g:=by
 refine List.map_congr_left fun f hf=>?_;rw [if_pos (by have:=List.mem_range.1 hf; omega)]
theorem aV8 {F:Nat} (g h:Nat->BitVec 64) {i:Nat} (hi:i<F):(bR F g h i).getD i 0=h i:=by
 simp [bR,List.getD,hi]
theorem aV7 (F:Nat) (g h:Nat->BitVec 64) (i:Nat):(bR F g h i).set i (g i)= bR F g h (i+1):=by
 refine List.ext_getElem (by simp [bR]) fun k h1 h2=>?_;rw [List.getElem_set];simp only [bR,List.getElem_map,List.getElem_range]
 by_cases e:i=k
 ·subst e; rw [if_pos rfl,if_pos (by omega)]
 ·rw [if_neg e]
  by_cases hk:k<i
  ·rw [if_pos hk,if_pos (by omega)]
  ·rw [if_neg hk,if_neg (by omega)]
theorem aF1 (x:BitVec 64) (f w:Nat):(x >>> f &&& 1#64) <<< w=if x.getLsbD f then 1#64 <<< w else 0#64:=by
 rw [aU3]
 split
 ·rfl
 ·exact BitVec.zero_shiftLeft _
end Ru
namespace Ru
structure pM where
 W:Int
 V:List (BitVec 64)
 R:List (List (BitVec 64))
def pM.d (m:pM):D:=.agg [.int .i64 m.W,.sl 1 (us m.V),.sl 1 (rr m.R)]
def rI (n:Nat):BitVec 64:=if 64<=n then 18446744073709551615#64 else 1#64 <<< n-1#64
def aYv (n:Nat) (x:BitVec 64):Bool:=!decide (x &&& ~~~(rI n)= 0#64)
structure oG (m : pM) (W : Nat) : Prop where
 w:m.W=W
 hW:1<=W/\W<=64
 hV:m.V.length<=8
 hR:m.R.length<=4
 row:∀ r ∈ m.R,r.length=W
 val:∀ x ∈ m.V,aYv W x=false
 rel:∀ r ∈ m.R,∀ x ∈ r,aYv W x=false
theorem tF {n:Nat} (hn:n<=64) {i:Nat} (hi:i<64):(rI n).getLsbD i=decide (i<n):=by
 unfold rI
 by_cases h:64<=n
 ·rw [if_pos h,show 18446744073709551615#64=BitVec.allOnes 64 from rfl,BitVec.getLsbD_allOnes];simp [hi]; omega
 ·rw [if_neg h];have:∀ n,n<64->∀ i,i<64->(1#64 <<< n-1#64).getLsbD i=decide (i<n):=by decide
  exact this n (by omega) i hi
theorem aZl {n:Nat} (hn:n<=64) {x:BitVec 64} (h:∀ i,x.getLsbD i=true->i<n):aYv n x=false:=by
 unfold aYv;rw [Bool.not_eq_false',decide_eq_true_iff];refine BitVec.eq_of_getLsbD_eq fun i hi=>?_;rw [BitVec.getLsbD_and,BitVec.getLsbD_not,tF hn hi,BitVec.getLsbD_zero]
 cases hx:x.getLsbD i
 ·rfl
 ·simp [h i hx]
end Ru
open Ru
theorem aFf {σ:St} {g:FuncId} {caps:List D} {f:List (BitVec 64)->Bool} {l:List (List (BitVec 64))} (hl:l.length<=1000) (h:∀ x ∈ l,xX Tryz.prog g ([.sl 1 (us x)]++caps) σ (.bool (f x)) σ):xX Tryz.prog 199 [.sl 1 (rr l),.fn g caps] σ (.int .i64 (ixF f l 0)) σ:=by
 refine xX.go_fn mixed Tryz.func199 bX8 (by simp) fun hf=>?_;simp only [ZA,ZB,ZC,ZD,ZE,↓reduceIte,ZF,ZG,ZH,ZI,ZJ,reduceCtorEq,ZK,↓zU,↓zD,zV,zT,zW,yE]
 refine xV (fun k:Nat=>[(8,.int .i64 k),(7,.int .i64 l.length),(1,.fn g caps),(0,.sl 1 (rr l))]) (fun _=>σ) (fun k=>k<=l.length/\ixF f l 0=ixF f (l.drop k) k) (fun k=>l.length-k) 0 ⟨Nat.zero_le _,rfl⟩ ?_ ?_
 ·(refine xM.same ?_; simp [xR,Fr.get])
 intro k ⟨hk,hi⟩;refine xQ mixed ?_
 by_cases hh:k<l.length
 ·have hd:((k:Int)<(l.length:Int)):=by omega
  rw [drop_cons (d:=[]) hh,ixF] at hi;simp only [ZA,ZB,ZC,ZD,ZE,↓reduceIte,ZF,ZG,ZH,ZI,ZJ,reduceCtorEq,ZK,↓zU,↓zD,zV,zT,zW,hd,yE,pK _ hh]
  (repeat refine sd ?_)
  refine .go (h _ (xN hh)) ?_
  cases hx:f (l.getD k [])
  ·rw [hx,if_neg (by simp)] at hi;simp only [ZA,ZB,ZC,ZD,ZE,↓reduceIte,ZF,ZG,ZH,ZI,ZJ,reduceCtorEq,ZK,↓zU,↓zD,zV,zT,zW];refine⟨k+1,⟨by omega,hi⟩,?_,by omega⟩
   (refine xM.same ?_; simp only [xR,Fr.get,↓reduceIte,reduceIte,Nat.reduceEqDiff,reduceCtorEq,D.int.injEq,D.bool.injEq,D.sl.injEq,and_true,true_and,and_self])
   exact wrap_i64 (by omega)
  ·rw [hx,if_pos rfl] at hi;simp only [ZA,ZB,ZC,ZD,ZE,↓reduceIte,ZF,ZG,ZH,ZI,ZJ,reduceCtorEq,ZK,↓zU,↓zD,zV,zT,zW];rw [hi];exact .same
 ·have hd:¬ ((k:Int)<(l.length:Int)):=by omega
  rw [List.drop_eq_nil_of_le (by omega),ixF] at hi;simp only [ZA,ZB,ZC,ZD,ZE,↓reduceIte,ZF,ZG,ZH,ZI,ZJ,reduceCtorEq,ZK,↓zU,↓zD,zV,zT,zW,hd];rw [hi];exact .same
theorem aRa {σ:St} {g:FuncId} {caps:List D} {f:List (BitVec 64)->Bool} {l:List (List (BitVec 64))} (hl:l.length<=1000) (h:∀ x ∈ l,xX Tryz.prog g ([.sl 1 (us x)]++caps) σ (.bool (f x)) σ):xX Tryz.prog 139 [.sl 1 (rr l),.fn g caps] σ (.bool (l.any f)) σ:=by
 refine xX.go_fn mixed Tryz.func139 bYw (by simp) fun hf=>?_;simp only [ZA,ZB,ZC,ZD,ZE,↓reduceIte,ZF,ZG,ZH,ZI,ZJ,reduceCtorEq,ZK,↓zU,↓zD,zV,zT,zW];refine .go (aFf hl h) ?_;have hx:=oX (f:=f) (c:=l) (i:=0) (Int.le_refl 0)
 cases ha:l.any f
 ·have h1:¬ 0<=ixF f l 0:=fun y=>by rw [hx.1 y] at ha; cases ha
  simp only [ZA,ZB,ZC,ZD,ZE,↓reduceIte,ZF,ZG,ZH,ZI,ZJ,reduceCtorEq,ZK,↓zU,↓zD,zV,zT,zW,h1];exact .same
 ·have h1:=hx.2 ha;simp only [ZA,ZB,ZC,ZD,ZE,↓reduceIte,ZF,ZG,ZH,ZI,ZJ,reduceCtorEq,ZK,↓zU,↓zD,zV,zT,zW,h1];exact .same
theorem aAs (n:Nat):yX Tryz.prog 198 [.int .i64 n] (.int .u64 (ui (rI n))):=by
 refine xX.go_fn mixed Tryz.func198 bX9 (by simp) fun hf=>?_;unfold rI
 by_cases h:64<=n
 ·have e:(64:Int)<=(n:Int):=by omega
  rw [if_pos h];simp only [ZA,ZB,ZC,ZD,ZE,↓reduceIte,ZF,ZG,ZH,ZI,ZJ,reduceCtorEq,ZK,↓zU,↓zD,zV,zT,zW,e];exact .same
 ·have e:¬ (64:Int)<=(n:Int):=by omega
  rw [if_neg h];simp only [ZA,ZB,ZC,ZD,ZE,↓reduceIte,ZF,ZG,ZH,ZI,ZJ,reduceCtorEq,ZK,↓zU,↓zD,zV,zT,zW,e]
  (repeat refine sd ?_)
  exact .same
theorem aAc {n nx:Nat} {objs:List (Nat × Ob)} {k:Nat} (h0:St.look objs k=some ⟨1,[[.int .i64 n]]⟩) (x:BitVec 64):xX Tryz.prog 197 ([.int .u64 (ui x)] ++ [.ref k 1 0 0]) ⟨nx,objs⟩ (.bool (aYv n x)) ⟨nx,objs⟩:=by
 refine xX.go_fn mixed Tryz.func197 bYa (by simp) fun hf=>?_;simp only [ZA,ZB,ZC,ZD,ZE,↓reduceIte,ZF,ZG,ZH,ZI,ZJ,reduceCtorEq,ZK,↓zU,↓zD,zV,zT,zW,h0]
 (repeat refine sd ?_)
 refine .go (cq (aAs n)) ?_;simp only [ZA,ZB,ZC,ZD,ZE,↓reduceIte,ZF,ZG,ZH,ZI,ZJ,reduceCtorEq,ZK,↓zU,↓zD,zV,zT,zW];rw [show (x &&& ~~~(rI n) != 0#64)= aYv n x by unfold aYv; rw [bne]; congr 1];exact .same
theorem aC {l:List (BitVec 64)} (hl:l.length<=1000) (n:Nat):yX Tryz.prog 138 [.sl 1 (us l),.int .i64 n] (.bool (l.any (aYv n))):=by
 refine xX.go_fn mixed Tryz.func138 bYx (by simp) fun hf=>?_;simp only [ZA,ZB,ZC,ZD,ZE,↓reduceIte,ZF,ZG,ZH,ZI,ZJ,reduceCtorEq,ZK,↓zU,↓zD,zV,zT,zW];refine .go (lQ (caps:=[.ref 0 1 0 0]) hl fun x _=>aAc rfl x) ?_;simp only [ZA,ZB,ZC,ZD,ZE,↓reduceIte,ZF,ZG,ZH,ZI,ZJ,reduceCtorEq,ZK,↓zU,↓zD,zV,zT,zW];exact .drop (by simp) (by simp [vw])
theorem aAm {m:pM} {W:Nat} (hw:m.W=W) {nx:Nat} {objs:List (Nat × Ob)} (h0:St.look objs 0=some ⟨3,[[.int .i64 m.W,.sl 1 (us m.V),.sl 1 (rr m.R)]]⟩) {x:List (BitVec 64)} (hx:x.length<=1000):xX Tryz.prog 140 ([.sl 1 (us x)] ++ [.ref 0 3 0 0]) ⟨nx,objs⟩ (.bool (x.any (aYv W))) ⟨nx,objs⟩:=by
 refine xX.go_fn mixed Tryz.func140 bYv (by simp) fun hf=>?_;simp only [ZA,ZB,ZC,ZD,ZE,↓reduceIte,ZF,ZG,ZH,ZI,ZJ,reduceCtorEq,ZK,↓zU,↓zD,zV,zT,zW,h0,hw]
 (repeat refine sd ?_)
 refine .go (cr (aC hx W)) ?_;simp only [ZA,ZB,ZC,ZD,ZE,↓reduceIte,ZF,ZG,ZH,ZI,ZJ,reduceCtorEq,ZK,↓zU,↓zD,zV,zT,zW];exact .same
theorem fA {m:pM} {W:Nat} (ok:oG m W):yX Tryz.prog 90 [m.d] (.int .i64 0):=by
 obtain⟨W1,W64⟩:=ok.hW;have h1:¬ (W:Int)<1:=by omega
 have h2:¬ (64:Int)<(W:Int):=by omega
 have h3:¬ (4:Int)<(m.R.length:Int):=by have:=ok.hR; omega
 have h4:¬ (8:Int)<(m.V.length:Int):=by have:=ok.hV; omega
 have hv:m.V.any (aYv W)= false:=List.any_eq_false.2 fun x hx=>by rw [ok.val x hx]; simp
 have hr:m.R.any (fun x=>x.any (aYv W))= false:=List.any_eq_false.2 fun x hx=>by
  rw [List.any_eq_false.2 fun y hy=>by rw [ok.rel x hx y hy]; simp]; simp
 have ho:=aC (l:=m.V) (by have:=ok.hV; omega) W;have hc:=aRa (σ:=⟨1,[(0,⟨3,[[.int .i64 m.W,.sl 1 (us m.V),.sl 1 (rr m.R)]]⟩)]⟩) (g:=140) (caps:=[.ref 0 3 0 0]) (f:=fun x=>x.any (aYv W)) (l:=m.R) (by have:=ok.hR; omega) fun x hx=>aAm ok.w rfl (by rw [ok.row x hx]; omega);rw [hv] at ho;rw [hr,ok.w] at hc;unfold pM.d;refine xX.go_fn mixed Tryz.func90 k90 (by simp) fun hf=>?_;simp only [ZA,ZB,ZC,ZD,ZE,↓reduceIte,ZF,ZG,ZH,ZI,ZJ,reduceCtorEq,ZK,↓zU,↓zD,zV,zT,zW,ok.w,h1,h2,yE,xT,h3,h4]
 refine xV (fun k:Nat=>[(26,.int .i64 k),(25,.int .i64 m.R.length),(24,.sl 1 (rr m.R)),(1,.ref 0 3 0 0)]) (fun _=>⟨1,[(0,⟨3,[[.int .i64 W,.sl 1 (us m.V),.sl 1 (rr m.R)]]⟩)]⟩)
  (fun k=>k<=m.R.length) (fun k=>m.R.length-k) 0 (Nat.zero_le _) ?_ ?_
 ·(refine xM.same ?_; simp [xR,Fr.get])
 intro k hk;refine xQ mixed ?_
 by_cases h:k<m.R.length
 ·have hd:((k:Int)<(m.R.length:Int)):=by omega
  have hrw:=ok.row _ (xN (d:=[]) h);have hg:=pK m.R h;generalize m.R.getD k []=r at hrw hg;have e:((r.length:Int) != (W:Int))= false:=by rw [hrw]; simp
  simp only [ZA,ZB,ZC,ZD,ZE,↓reduceIte,ZF,ZG,ZH,ZI,ZJ,reduceCtorEq,ZK,↓zU,↓zD,zV,zT,zW,hd,yE,hg,xT,e]
  (repeat refine sd ?_)
  refine⟨k+1,by omega,?_,by omega⟩
  (refine xM.same ?_; simp only [xR,Fr.get,↓reduceIte,reduceIte,Nat.reduceEqDiff,reduceCtorEq,D.int.injEq,D.bool.injEq,D.sl.injEq,and_true,true_and,and_self])
  exact wrap_i64 (by omega)
 ·have hd:¬ ((k:Int)<(m.R.length:Int)):=by omega
  simp only [ZA,ZB,ZC,ZD,ZE,↓reduceIte,ZF,ZG,ZH,ZI,ZJ,reduceCtorEq,ZK,↓zU,↓zD,zV,zT,zW,hd];refine .go (cr ho) ?_;simp only [ZA,ZB,ZC,ZD,ZE,↓reduceIte,ZF,ZG,ZH,ZI,ZJ,reduceCtorEq,ZK,↓zU,↓zD,zV,zT,zW];refine .go hc ?_;simp only [ZA,ZB,ZC,ZD,ZE,↓reduceIte,ZF,ZG,ZH,ZI,ZJ,reduceCtorEq,ZK,↓zU,↓zD,zV,zT,zW];exact .drop (by simp) (by simp [vw])
open Ru
theorem aCz (s:BitVec 64):rM .xor .u64 (if IntKind.u64.signed=true then -1 else IntKind.u64.max) (ui s)= ui (~~~s):=by
 rw [if_neg (by decide),show IntKind.u64.max=ui (BitVec.allOnes 64) by decide +kernel,aIi];congr 1
theorem aQv (n:Nat):yX Tryz.prog 251 [.int .i64 n] (.int .u64 (ui (rI n))):=by
 refine xX.go_fn mixed Tryz.func251 bXp (by simp) fun hf=>?_;unfold rI
 by_cases h:64<=n
 ·have e:(64:Int)<=(n:Int):=by omega
  rw [if_pos h];simp only [ZA,ZB,ZC,ZD,ZE,↓reduceIte,ZF,ZG,ZH,ZI,ZJ,reduceCtorEq,ZK,↓zU,↓zD,zV,zT,zW,e];exact .same
 ·have e:¬ (64:Int)<=(n:Int):=by omega
  rw [if_neg h];simp only [ZA,ZB,ZC,ZD,ZE,↓reduceIte,ZF,ZG,ZH,ZI,ZJ,reduceCtorEq,ZK,↓zU,↓zD,zV,zT,zW,e]
  (repeat refine sd ?_)
  exact .same
namespace Ru
structure aTw (r : List (BitVec 64)) : Prop where
 len:r.length<=64
 ins:∀ x ∈ r,aYv r.length x=false
def aTh (r:List (BitVec 64)) (s:BitVec 64):Nat->BitVec 64
 | 0=>0#64
 | w+1=>if (r.getD w 0 &&& ~~~s==0#64)= true then aTh r s w ||| 1#64 <<< w else aTh r s w
def bN (r:List (BitVec 64)) (s:BitVec 64):BitVec 64:=aTh r s r.length
def aEv (r:List (BitVec 64)) (s:BitVec 64):BitVec 64:=rI r.length &&& ~~~(bN r (~~~s))
end Ru
theorem iA {r:List (BitVec 64)} (ok:aTw r):yX Tryz.prog 250 [.int .i64 r.length,.sl 1 (us r)] (.int .i64 0):=by
 have h1:¬ ((r.length:Int)<0):=by omega
 have h2:¬ ((64:Int)<(r.length:Int)):=by have:=ok.len; omega
 have h3:((r.length:Int) != (r.length:Int))= false:=by simp
 have ha:=aQv r.length;refine xX.go_fn mixed Tryz.func250 bXq (by simp) fun hf=>?_;simp only [ZA,ZB,ZC,ZD,ZE,↓reduceIte,ZF,ZG,ZH,ZI,ZJ,reduceCtorEq,ZK,↓zU,↓zD,zV,zT,zW,xT,h1,h2,h3]
 refine xV (fun k:Nat=>[(19,.int .i64 k),(18,.int .i64 r.length),(17,.sl 1 (us r)),(0,.int .i64 r.length)]) (fun _=>⟨0,[]⟩) (fun k=>k<=r.length) (fun k=>r.length-k) 0 (Nat.zero_le _) ?_ ?_
 ·(refine xM.same ?_; simp [xR,Fr.get])
 intro k hk;refine xQ mixed ?_
 by_cases h:k<r.length
 ·have hd:((k:Int)<(r.length:Int)):=by omega
  have hx:=ok.ins _ (xN (d:=0) h)
  have e:(r.getD k 0 &&& ~~~(rI r.length) != 0#64)= false:=by
   have:=hx;unfold aYv at this;rw [bne];simpa using this
  have hg:=zH r h;simp only [ZA,ZB,ZC,ZD,ZE,↓reduceIte,ZF,ZG,ZH,ZI,ZJ,reduceCtorEq,ZK,↓zU,↓zD,zV,zT,zW,hd,xT,hg]
  (repeat refine sd ?_)
  refine .go (cq ha) ?_;simp only [ZA,ZB,ZC,ZD,ZE,↓reduceIte,ZF,ZG,ZH,ZI,ZJ,reduceCtorEq,ZK,↓zU,↓zD,zV,zT,zW,e]
  (repeat refine sd ?_)
  refine⟨k+1,by omega,?_,by omega⟩
  (refine xM.same ?_; simp only [xR,Fr.get,↓reduceIte,reduceIte,Nat.reduceEqDiff,reduceCtorEq,D.int.injEq,D.bool.injEq,D.sl.injEq,and_true,true_and,and_self])
  exact wrap_i64 (by omega)
 ·have hd:¬ ((k:Int)<(r.length:Int)):=by omega
  simp only [ZA,ZB,ZC,ZD,ZE,↓reduceIte,ZF,ZG,ZH,ZI,ZJ,reduceCtorEq,ZK,↓zU,↓zD,zV,zT,zW,hd];exact .same
theorem aU {r:List (BitVec 64)} (ok:aTw r) (s:BitVec 64):yX Tryz.prog 214 [.sl 1 (us r),.int .u64 (ui s)] (.int .u64 (ui (bN r s))):=by
 have hc:=iA ok;have hl:=ok.len;refine xX.go_fn mixed Tryz.func214 bX3 (by simp) fun hf=>?_;simp only [ZA,ZB,ZC,ZD,ZE,↓reduceIte,ZF,ZG,ZH,ZI,ZJ,reduceCtorEq,ZK,↓zU,↓zD,zV,zT,zW,xT];refine .go (cr hc) ?_;simp only [ZA,ZB,ZC,ZD,ZE,↓reduceIte,ZF,ZG,ZH,ZI,ZJ,reduceCtorEq,ZK,↓zU,↓zD,zV,zT,zW,xT]
 refine xV (fun k:Nat=>[(14,.int .i64 k),(13,.int .i64 r.length),(5,.int .u64 (ui (aTh r s k))),(1,.int .u64 (ui s)),(0,.sl 1 (us r))]) (fun _=>⟨0,[]⟩) (fun k=>k<=r.length) (fun k=>r.length-k) 0 (Nat.zero_le _) ?_ ?_
 ·(refine xM.same ?_; simp [xR,Fr.get])
  rfl
 intro k hk;refine xQ mixed ?_
 by_cases h:k<r.length
 ·have hd:((k:Int)<(r.length:Int)):=by omega
  have hg:=zH r h;have hs:aTh r s (k+1)= if (r.getD k 0 &&& ~~~s==0#64)= true then aTh r s k ||| 1#64 <<< k else aTh r s k:=rfl
  cases e:(r.getD k 0 &&& ~~~s==0#64) with
  | true=>
   rw [e,if_pos rfl] at hs;simp only [ZA,ZB,ZC,ZD,ZE,↓reduceIte,ZF,ZG,ZH,ZI,ZJ,reduceCtorEq,ZK,↓zU,↓zD,zV,zT,zW,hd,xT,hg,e]
   (repeat refine sd ?_)
   refine⟨k+1,by omega,?_,by omega⟩;rw [hs]
   (refine xM.same ?_; simp only [xR,Fr.get,↓reduceIte,reduceIte,Nat.reduceEqDiff,reduceCtorEq,D.int.injEq,D.bool.injEq,D.sl.injEq,and_true,true_and,and_self])
   exact wrap_i64 (by omega)
  | false=>
   rw [e,if_neg (by simp)] at hs;simp only [ZA,ZB,ZC,ZD,ZE,↓reduceIte,ZF,ZG,ZH,ZI,ZJ,reduceCtorEq,ZK,↓zU,↓zD,zV,zT,zW,hd,xT,hg,e]
   (repeat refine sd ?_)
   refine⟨k+1,by omega,?_,by omega⟩;rw [hs]
   (refine xM.same ?_; simp only [xR,Fr.get,↓reduceIte,reduceIte,Nat.reduceEqDiff,reduceCtorEq,D.int.injEq,D.bool.injEq,D.sl.injEq,and_true,true_and,and_self])
   exact wrap_i64 (by omega)
 ·have hd:¬ ((k:Int)<(r.length:Int)):=by omega
  have hk':k=r.length:=by omega
  subst hk';simp only [ZA,ZB,ZC,ZD,ZE,↓reduceIte,ZF,ZG,ZH,ZI,ZJ,reduceCtorEq,ZK,↓zU,↓zD,zV,zT,zW,hd];exact .same
theorem aRq {r:List (BitVec 64)} (ok:aTw r) (s:BitVec 64):yX Tryz.prog 215 [.sl 1 (us r),.int .u64 (ui s)] (.int .u64 (ui (aEv r s))):=by
 have hc:=iA ok;have ha:=aQv r.length;have hb:=aU ok (~~~s);refine xX.go_fn mixed Tryz.func215 bX2 (by simp) fun hf=>?_;simp only [ZA,ZB,ZC,ZD,ZE,↓reduceIte,ZF,ZG,ZH,ZI,ZJ,reduceCtorEq,ZK,↓zU,↓zD,zV,zT,zW,xT];refine .go (cr hc) ?_;simp only [ZA,ZB,ZC,ZD,ZE,↓reduceIte,ZF,ZG,ZH,ZI,ZJ,reduceCtorEq,ZK,↓zU,↓zD,zV,zT,zW,xT];refine .go (cq ha) ?_;simp only [ZA,ZB,ZC,ZD,ZE,↓reduceIte,ZF,ZG,ZH,ZI,ZJ,reduceCtorEq,ZK,↓zU,↓zD,zV,zT,zW,aCz];refine .go (cr hb) ?_;simp only [ZA,ZB,ZC,ZD,ZE,↓reduceIte,ZF,ZG,ZH,ZI,ZJ,reduceCtorEq,ZK,↓zU,↓zD,zV,zT,zW];exact .drop (by simp) (by simp [vw,aEv])
section
open Rs Fm Ru
namespace Te
end Te
end
section
open Rs Fm Ru Te
namespace Te
end Te
end
section
open Rs Fm Ru Te
end
section
open Rs Fm Ru Te
namespace Te
end Te
end
section
open Rs Fm Ru Te
namespace Te
def shP (T:Nat) (s:Int) (φ:Nat × Nat->Bool) (p:Nat × Nat):Bool:=decide (0<=(p.2:Int)+ s)&& (decide ((p.2:Int)+ s<T)&& φ (p.1,((p.2:Int)+ s).toNat))
end Te
end
section
open Rs Fm Ru Te
end
section
open Rs Fm Ru
namespace Te
abbrev Tab :=Nat × Nat->Bool
section
variable (rs : List wP) (A T : Nat)
def ptl : List (Nat × Nat):=ptN T (rs.length*T)
def gE (a:Nat) (x:Tab) (p:Nat × Nat):Bool:=(ptl rs T).all fun q=>!decide (uQ rs a q=uQ rs a p) || x q
def rC (g:Nat) (x:Tab) (p:Nat × Nat):Bool:=(List.range A).all fun a=>!g.testBit a || gE rs T a x p
def aBe (g:Nat) (p q:Nat × Nat):Bool:=(List.range A).all fun a=>!g.testBit a || decide (uQ rs a p=uQ rs a q)
def aDl (g:Nat) (x:Tab) (p:Nat × Nat):Bool:=(ptl rs T).all fun q=>!aBe rs A g p q || x q
def aHe (g:Nat) (x y now:Tab):Tab:=rC rs A T g fun q=>!x q || (y q&&now q)
def gJ (g:Nat) (x y:Tab):Nat->Tab
 | 0=>fun _=>true
 | n+1=>aHe rs A T g x y (gJ g x y n)
def aZw (g:Nat) (x y:Tab):Tab:=gJ rs A T g x y (rs.length*T)
end
def tmU (T:Nat) (s:Int) (k:Nat):Nat:=if 0<s then T-1-k else k
def aAz (T:Nat) (s:Int) (x y:Tab) (i:Nat):Nat->Bool
 | 0=>false
 | k+1=>y (i,tmU T s k) || (x (i,tmU T s k)&& aAz T s x y i k)
def aAx (T:Nat) (s:Int) (x y:Tab) (p:Nat × Nat):Bool:=aAz T s x y p.1 (if 0<s then T-p.2 else p.2+1)
def aDn (rs:List wP) (n:Nd) (x y:Tab) (p:Nat × Nat):Bool:=
 if n.op=1 then true else if n.op=3 then(aMk rs p).getLsbD n.i.toNat else if n.op=4 then !x p else if n.op=5 then x p&&y p else if n.op=6 then x p || y p
 else if n.op=7 then !x p || y p else if n.op=8 then x p==y p else false
def aTo (rs:List wP) (A T:Nat) (n:Nd) (x y:Tab):Tab:=
 if n.op=9 then gE rs T n.i.toNat x else if n.op=10 then fun p=>!gE rs T n.i.toNat (fun q=>!x q) p else if n.op=11 then rC rs A T n.g.toNat x
 else if n.op=12 then aDl rs A T n.g.toNat x else if n.op=13 then aZw rs A T n.g.toNat x y else if n.op=18 then shP T 1 x else if n.op=20 then shP T (-1) x
 else if n.op=19 then aAx T 1 x y else if n.op=21 then aAx T (-1) x y else aDn rs n x y
section
variable {rs : List wP} {A T : Nat}
theorem aZx {α:Type} {l:List α} {f g:α->Bool} (h:∀ q ∈ l,f q=g q):l.all f=l.all g:=by
 induction l with
 | nil=>rfl
 | cons a r ih=>rw [List.all_cons,List.all_cons,h a (by simp),ih fun q hq=>h q (List.mem_cons_of_mem _ hq)]
theorem aWe {a:Nat} {x y:Tab} {p:Nat × Nat} (h:∀ q ∈ ptl rs T,x q=y q):gE rs T a x p=gE rs T a y p:=aZx fun q hq=>by rw [h q hq]
theorem aYq {g:Nat} {x y:Tab} {p:Nat × Nat} (h:∀ q ∈ ptl rs T,x q=y q):rC rs A T g x p=rC rs A T g y p:=aZx fun a _=>by rw [aWe h]
theorem aZ3 {g:Nat} {x y n m:Tab} {p:Nat × Nat} (h:∀ q ∈ ptl rs T,n q=m q):aHe rs A T g x y n p=aHe rs A T g x y m p:=aYq fun q hq=>by rw [h q hq]
theorem aWj {g:Nat} {x y:Tab} {p:Nat × Nat} (h:∀ q ∈ ptl rs T,x q=true->y q=true) (hp:rC rs A T g x p=true):rC rs A T g y p=true:=by
 unfold rC gE at hp ⊢;simp only [List.all_eq_true,Bool.or_eq_true] at hp ⊢;intro a ha
 rcases hp a ha with h1 | h1
 ·exact .inl h1
 ·refine .inr fun q hq=>?_
  rcases h1 q hq with h2 | h2
  ·exact .inl h2
  ·exact .inr (h q hq h2)
theorem aX1 (g:Nat) (x y:Tab):∀ (n:Nat) (p:Nat × Nat),gJ rs A T g x y (n+1) p=true->gJ rs A T g x y n p=true
 | 0,_,_=>rfl
 | n+1,p,h=>aWj (fun q _ hq=>by
   simp only [Bool.or_eq_true,Bool.and_eq_true] at hq ⊢
   rcases hq with h1 | ⟨h1,h2⟩
   ·exact .inl h1
   ·exact .inr ⟨h1,aX1 g x y n q h2⟩) h
theorem iI {g:Nat} {x y:Tab} {n:Nat} (h:∀ p ∈ ptl rs T,gJ rs A T g x y (n+1) p=gJ rs A T g x y n p):∀ (m:Nat) (p:Nat × Nat),p ∈ ptl rs T->gJ rs A T g x y (n+m) p=gJ rs A T g x y n p
 | 0,_,_=>rfl
 | m+1,p,hp=>by
  rw [<- h p hp];exact aZ3 fun q hq=>iI h m q hq
theorem countP_le {α:Type} {f g:α->Bool}:∀ {l:List α},(∀ q ∈ l,f q=true->g q=true)->l.countP f<=l.countP g
 | [],_=>by simp
 | a :: r,h=>by
  have ih:=countP_le (l:=r) fun q hq=>h q (List.mem_cons_of_mem _ hq);rw [List.countP_cons,List.countP_cons];have:=h a (by simp)
  by_cases e:f a=true
  ·rw [if_pos e,if_pos (this e)]; omega
  ·rw [if_neg e]; omega
theorem gP {α:Type} {f g:α->Bool}:∀ {l:List α},(∀ q ∈ l,f q=true->g q=true)->(∃ q ∈ l,f q≠g q)->l.countP f<l.countP g
 | [],_,h=>by obtain⟨q,hq,_⟩:=h; cases hq
 | a :: r,h,⟨q,hq,hne⟩=>by
  have h':∀ q ∈ r,f q=true->g q=true:=fun q hq=>h q (List.mem_cons_of_mem _ hq);have ih:=countP_le h';rw [List.countP_cons,List.countP_cons];have ha:=h a (by simp)
  by_cases e2:f a=g a
  ·have hr:∃ q ∈ r,f q≠g q:=by
    rcases List.mem_cons.1 hq with e | e
    ·subst e; exact absurd e2 hne
    ·exact⟨q,e,hne⟩
   have:=gP h' hr;rw [e2]; omega
  ·have h1:f a=false:=by cases e3:f a with
    | false=>rfl
    | true=>exact absurd (e3.trans (ha e3).symm) e2
   have h2:g a=true:=by cases e3:g a with
    | true=>rfl
    | false=>exact absurd (h1.trans e3.symm) e2
   rw [h1,h2];simp only [Bool.false_eq_true,if_false,if_true];omega
def aEw (rs:List wP) (A T g:Nat) (x y:Tab) (n:Nat):Nat:=(ptl rs T).countP (gJ rs A T g x y n)
theorem aNt (g:Nat) (x y:Tab):aEw rs A T g x y 0=rs.length*T:=by
 unfold aEw ptl;rw [show gJ rs A T g x y 0=fun _=>true from rfl,List.countP_true,sH]
theorem aX2 {g:Nat} {x y:Tab} {n:Nat} (h:∃ p ∈ ptl rs T,gJ rs A T g x y (n+1) p≠gJ rs A T g x y n p):aEw rs A T g x y (n+1)<aEw rs A T g x y n:=
 gP (fun q _ hq=>aX1 g x y n q hq) h
def aI9 (rs:List wP) (A g:Nat) (p q:Nat × Nat):Bool:=(List.range A).any fun a=>g.testBit a&&decide (uQ rs a p=uQ rs a q)
theorem aS4 {g:Nat} {x:Tab} {p:Nat × Nat}:rC rs A T g x p=true ↔ ∀ q ∈ ptl rs T,aI9 rs A g p q=true->x q=true:=by
 unfold rC gE aI9;simp only [List.all_eq_true,List.any_eq_true,Bool.or_eq_true,Bool.and_eq_true,Bool.not_eq_true',decide_eq_true_eq,decide_eq_false_iff_not]
 constructor
 ·rintro h q hq ⟨a,ha,h1,h2⟩
  rcases h a ha with h3 | h3
  ·rw [h1] at h3; cases h3
  ·rcases h3 q hq with h4 | h4
   ·exact absurd h2.symm h4
   ·exact h4
 ·intro h a ha
  cases e:g.testBit a with
  | false=>exact .inl rfl
  | true=>
   refine .inr fun q hq=>?_
   by_cases e2:uQ rs a q=uQ rs a p
   ·exact .inr (h q hq ⟨a,ha,e,e2.symm⟩)
   ·exact .inl e2
theorem aJp (g:Nat) (x y:Tab):∃ n,n<=rs.length*T/\∀ p ∈ ptl rs T,gJ rs A T g x y (n+1) p=gJ rs A T g x y n p:=by
 have key:∀ (m n:Nat),aEw rs A T g x y n<=m->n+aEw rs A T g x y n<=rs.length*T->∃ n,n<=rs.length*T/\∀ p ∈ ptl rs T,gJ rs A T g x y (n+1) p=gJ rs A T g x y n p:=by
  intro m
  induction m with
  | zero=>
   intro n h1 h2;refine⟨n,by omega,fun p hp=>Decidable.byContradiction fun h=>?_⟩;have:=aX2 (rs:=rs) (A:=A) (T:=T) ⟨p,hp,h⟩;omega
  | succ m ih=>
   intro n h1 h2
   by_cases h:∃ p ∈ ptl rs T,gJ rs A T g x y (n+1) p≠gJ rs A T g x y n p
   ·have:=aX2 h;exact ih (n+1) (by omega) (by omega)
   ·exact⟨n,by omega,fun p hp=>Decidable.byContradiction fun h'=>h ⟨p,hp,h'⟩⟩
 exact key _ 0 (Nat.le_refl _) (by rw [aNt]; omega)
end
end Te
end
section
open Rs Fm Ru Te
namespace Te
end Te
end
section
open Rs Fm Ru Te
namespace Te
end Te
end
section
open Rs Fm Ru Te
namespace Te
def blk (x:Int):List (Int × Bool)->Bool
 | []=>false
 | (k,v) :: r=>if x=k then v else blk x r
end Te
end
section
open Rs Fm Ru Te
namespace Te
end Te
end
section
open Rs Fm Ru Te
namespace Te
theorem aCp {g a:Nat} (hg:g<2 ^ 60) (ha:a<=60):rM .and .i64 (aMg .i64 (g:Int) (a:Int)) 1=if g.testBit a then 1 else 0:=by
 have h2:g / 2 ^ a<=g:=Nat.div_le_self _ _;rw [lK _ _ ha,aF7 (by omega),Nat.testBit_eq_decide_div_mod_eq];have:=Nat.mod_two_eq_zero_or_one (g / 2 ^ a)
 rcases this with h | h
 ·rw [h]; rfl
 ·rw [h]; rfl
end Te
end
section
open Rs Fm Ru Te
namespace Te
end Te
end
section
open Rs Fm Ru Te
end
section
open Rs Fm Ru Te
namespace Te
end Te
end
section
open Rs Fm Ru Te
namespace Te
end Te
end
open Rs Fm Ru Te
theorem aJq (s:BitVec 64) (l:List (BitVec 64)) (hl:l.length<=1000):xX Tryz.prog 122 [.sl 1 (us (s :: l))] St0 (.osl 0 1 (l.length+1)) ⟨1,[(0,⟨1,us (s :: l)⟩)]⟩:=by
 refine xX.go_fn mixed Tryz.func122 aA5 (by simp) fun hf=>?_;have hln:(us (s :: l)).length=l.length+1:=by simp [us]
 have h1:=aR9 (s :: l);have e:us (s :: l)= [.int .u64 (ui s)] :: us l:=rfl;rw [e] at hln h1 ⊢;simp only [ZA,ZB,ZC,ZD,ZE,↓reduceIte,ZF,ZG,ZH,ZI,ZJ,reduceCtorEq,ZK,↓zU,↓zD,zV,zT,zW];have hp:=sY (s :: l);rw [e] at hp;exact⟨by simp,h1,by omega,by omega,mT.name (n:=0) (by simp) hp (by simp [vw])⟩
theorem aSz {k sz:Nat} {a b:List (List D)} (h:a.length=b.length):xG k sz a=xG k sz b:=by
 cases a with
 | nil=>cases b with
  | nil=>rfl
  | cons e r=>simp at h
 | cons e r=>cases b with
  | nil=>simp at h
  | cons e' r'=>simp only [List.length_cons] at h; simp [xG,h]
theorem aP7 (c:Nat) (l:List (BitVec 64)):(us l).map (D.shiftL c)= us l:=oV c (sY l)
theorem aWq {n:Nat} {objs:List (Nat × Ob)} (l:List (BitVec 64)) (h:l ≠ []) (hl:l.length<=1000):xX Tryz.prog 122 [.sl 1 (us l)] ⟨n,objs⟩ (xG n 1 (us l)) ⟨n+1,xE n 1 (us l)++ objs⟩:=by
 cases l with
 | nil=>exact absurd rfl h
 | cons s l=>
  have:=xX.own (σ:=⟨n,objs⟩) (aJq s l (by simp at hl; omega)) (by simp [D.isPureL,D.isPure]);simp only [D.shift,yZ,Ob.shift,aP7,List.cons_append,List.nil_append,Nat.add_zero] at this;simp only [aZd,eR,eT,xT,List.cons_append,List.nil_append];exact this
namespace Ru
def op2 (meet:Bool) (a b:BitVec 64):BitVec 64:=if meet=true then a &&& b else a ||| b
def aMa (meet:Bool) (acc r:List (BitVec 64)):List (BitVec 64):=(List.range acc.length).map fun i=>op2 meet (acc.getD i 0) (r.getD i 0)
def jW (R:List (List (BitVec 64))) (G:Nat) (meet:Bool):Nat->List (BitVec 64)
 | 0=>[]
 | k+1=>if G.testBit k then(if (jW R G meet k).isEmpty then R.getD k [] else aMa meet (jW R G meet k) (R.getD k [])) else jW R G meet k
def zQ (m:pM) (G:Nat) (meet:Bool):List (BitVec 64):=jW m.R G meet m.R.length
def aYx (meet:Bool) (acc r:List (BitVec 64)) (w:Nat):List (BitVec 64):=(List.range acc.length).map fun i=>if i<w then op2 meet (acc.getD i 0) (r.getD i 0) else acc.getD i 0
theorem aO4 (meet:Bool) (acc r:List (BitVec 64)):aYx meet acc r 0=acc:=by
 refine List.ext_getElem (by simp [aYx]) fun i h1 h2=>?_;simp [aYx,List.getD,h2]
theorem aK4 (meet:Bool) (acc r:List (BitVec 64)):aYx meet acc r acc.length=aMa meet acc r:=by
 unfold aYx aMa;refine List.map_congr_left fun i hi=>?_;rw [List.mem_range] at hi;rw [if_pos hi]
theorem aUa (meet:Bool) (acc r:List (BitVec 64)) (w:Nat):(aYx meet acc r w).length=acc.length:=by simp [aYx]
theorem aG8 {meet:Bool} {acc r:List (BitVec 64)} {w:Nat} (h:w<acc.length):(aYx meet acc r w).getD w 0=acc.getD w 0:=by
 simp [aYx,List.getD,h]
theorem aK3 {meet:Bool} {acc r:List (BitVec 64)} {w:Nat} (h:w<acc.length):(aYx meet acc r w).set w (op2 meet (acc.getD w 0) (r.getD w 0))= aYx meet acc r (w+1):=by
 refine List.ext_getElem (by simp [aYx]) fun i h1 h2=>?_;simp only [List.getElem_set,aYx,List.getElem_map,List.getElem_range]
 by_cases e:w=i
 ·subst e; simp
 ·rw [if_neg e]
  by_cases e2:i<w
  ·rw [if_pos e2,if_pos (by omega)]
  ·rw [if_neg e2,if_neg (by omega)]
theorem cB {m:pM} {W:Nat} (ok:oG m W) (G:Nat) (meet:Bool):∀ k,k<=m.R.length->jW m.R G meet k = []\/(jW m.R G meet k).length=W
 | 0,_=>.inl rfl
 | k+1,hk=>by
  have hr:=ok.row _ (xN (d:=[]) (show k<m.R.length by omega));rw [jW]
  split
  ·split
   ·exact .inr hr
   ·rcases cB ok G meet k (by omega) with h | h
    ·rename_i hn; rw [h] at hn; exact absurd rfl hn
    ·exact .inr (by simp [aMa,h])
  ·exact cB ok G meet k (by omega)
theorem aYa (R:List (List (BitVec 64))) (G:Nat) (meet:Bool) (k:Nat):jW R G meet (k+1)= if G.testBit k then(if (jW R G meet k).isEmpty then R.getD k [] else aMa meet (jW R G meet k) (R.getD k [])) else jW R G meet k:=rfl
end Ru
theorem aXo {m:pM} {W:Nat} (ok:oG m W) {g:Nat} (hg:1<=g/\g<2 ^ m.R.length) (meet:Bool) (f:FuncId) (hop:∀ a b,yX Tryz.prog f [.int .u64 (ui a),.int .u64 (ui b)] (.int .u64 (ui (op2 meet a b)))):yX Tryz.prog 252 [m.d,.int .i64 (g:Int),.fn f []] (.sl 1 (us (zQ m g meet))):=by
 have hc:=fA ok;have h4:=ok.hR;obtain⟨W1,W64⟩:=ok.hW;have hsh:=aZf (k:=m.R.length) (by omega);have h2:¬ (g:Int)<1:=by omega
 have h3:¬ ((2 ^ m.R.length:Nat):Int)<=(g:Int):=by omega
 have hg60:g<2 ^ 60:=Nat.lt_of_lt_of_le hg.2 (Nat.pow_le_pow_right (by decide) (by omega));have hall:jW m.R g meet m.R.length=zQ m g meet:=rfl;unfold pM.d at hc ⊢;refine xX.go_fn mixed Tryz.func252 bXo (by simp) fun hf=>?_;simp only [ZA,ZB,ZC,ZD,ZE,↓reduceIte,ZF,ZG,ZH,ZI,ZJ,reduceCtorEq,ZK,↓zU,↓zD,zV,zT,zW]
 (repeat refine sd ?_)
 refine .go (cr hc) ?_;simp only [ZA,ZB,ZC,ZD,ZE,↓reduceIte,ZF,ZG,ZH,ZI,ZJ,reduceCtorEq,ZK,↓zU,↓zD,zV,zT,zW,h2,h3,hsh,yE]
 (repeat refine sd ?_)
 refine xV (fun k:Nat=>[(29,.int .i64 k),(28,.int .i64 m.R.length),(27,.sl 1 (rr m.R)),(7,xG 1 1 (us (jW m.R g meet k))),(2,.fn f []),(1,.int .i64 g)])
  (fun k=>⟨2,xE 1 1 (us (jW m.R g meet k))⟩) (fun k=>k<=m.R.length) (fun k=>m.R.length-k) 0 (Nat.zero_le _) ?_ ?_
 ·(refine xM.ren [] [1,0] (by simp) (by simp) (by decide) ?_; simp only [yO,vwL,vw,vwF,sw,St.get,St.look,Fr.get,↓reduceIte,reduceIte,Nat.reduceEqDiff,Nat.reduceAdd,Nat.reduceBEq,Nat.reduceLT,Nat.reduceLeDiff,exists_eq_left',ne_eq,reduceCtorEq,zR,jW,zM,zL,List.nil_append,vwL])
 intro k hk;refine xQ mixed ?_
 by_cases h:k<m.R.length
 ·have hd:((k:Int)<(m.R.length:Int)):=by omega
  have hu:=tY (k:=k) (by omega);have hrl:=ok.row _ (xN (d:=[]) h);have hbr:=aCp hg60 (show k<=60 by omega);have hs:=aYa m.R g meet k;have hL:=cB ok g meet k hk;have hrg:=pK m.R h;generalize jW m.R g meet k=acc at hs hL ⊢;generalize m.R.getD k []=r at hrl hs hrg
  cases hb:g.testBit k with
  | false=>
   rw [hb] at hbr hs;simp only [ZA,ZB,ZC,ZD,ZE,↓reduceIte,ZF,ZG,ZH,ZI,ZJ,reduceCtorEq,ZK,↓zU,↓zD,zV,zT,zW,hd,hbr,hu,hrg,yE]
   (repeat refine sd ?_)
   refine⟨k+1,by omega,?_,by omega⟩;rw [hs,if_neg (by simp)]
   (refine xM.same ?_; simp only [xR,Fr.get,↓reduceIte,reduceIte,Nat.reduceEqDiff,reduceCtorEq,D.int.injEq,D.bool.injEq,D.sl.injEq,and_true,true_and,and_self])
  | true=>
   rw [hb] at hbr hs;rw [if_pos rfl] at hs hbr
   by_cases he:acc = []
   ·subst he;rw [List.isEmpty_nil,if_pos rfl] at hs;simp only [ZA,ZB,ZC,ZD,ZE,↓reduceIte,ZF,ZG,ZH,ZI,ZJ,reduceCtorEq,ZK,↓zU,↓zD,zV,zT,zW,hd,hbr,hu,hrg,yE,List.isEmpty_nil]
    (repeat refine sd ?_)
    have hrne:r ≠ []:=by rintro rfl; simp at hrl; omega
    refine .go (aWq r hrne (by omega)) ?_;simp only [ZA,ZB,ZC,ZD,ZE,↓reduceIte,ZF,ZG,ZH,ZI,ZJ,reduceCtorEq,ZK,↓zU,↓zD,zV,zT,zW,hu];refine⟨k+1,by omega,?_,by omega⟩;rw [hs]
    (refine xM.ren [(1,2)] [1] (by simp) (by simp) (by decide) ?_; simp only [yO,vwL,vw,vwF,sw,St.get,St.look,Fr.get,↓reduceIte,reduceIte,Nat.reduceEqDiff,Nat.reduceAdd,Nat.reduceBEq,Nat.reduceLT,Nat.reduceLeDiff,exists_eq_left',ne_eq,reduceCtorEq,zR])
   ·have hie:acc.isEmpty=false:=by simpa using he
    have hiu:(us acc).isEmpty=false:=by cases acc with | nil=>exact absurd rfl he | cons a l=>rfl
    rw [hie,if_neg (by simp)] at hs;have hL1:acc.length=W:=hL.resolve_left he;simp only [ZA,ZB,ZC,ZD,ZE,↓reduceIte,ZF,ZG,ZH,ZI,ZJ,reduceCtorEq,ZK,↓zU,↓zD,zV,zT,zW,hd,hbr,hu,hrg,yE,hiu]
    (repeat refine sd ?_)
    refine xV (fun w:Nat=>[(45,.int .i64 w),(44,.int .i64 acc.length),(29,.int .i64 k),(28,.int .i64 m.R.length),(27,.sl 1 (rr m.R)),(9,.sl 1 (us r)),(7,xG 1 1 (us acc)),(2,.fn f []),(1,.int .i64 g)])
     (fun w=>⟨2,xE 1 1 (us (aYx meet acc r w))⟩) (fun w=>w<=acc.length) (fun w=>acc.length-w) 0 (Nat.zero_le _) ?_ ?_
    ·rw [aO4]
     (refine xM.same ?_; simp [xR,Fr.get])
    intro w hw;refine xQ mixed ?_
    by_cases h4:w<acc.length
    ·have hd4:((w:Int)<(acc.length:Int)):=by omega
     have hw4:=tY (k:=w) (by omega);have hx:w<r.length:=by omega
     have hx':(w:Int)<(r.length:Int):=by omega
     have hma:=aG8 (meet:=meet) (r:=r) h4;have hms:=aK3 (meet:=meet) (r:=r) h4;have hml:=aUa meet acc r w;have hmw:w<(aYx meet acc r w).length:=by omega
     generalize aYx meet acc r w=z at *;simp only [ZA,ZB,ZC,ZD,ZE,↓reduceIte,ZF,ZG,ZH,ZI,ZJ,reduceCtorEq,ZK,↓zU,↓zD,zV,zT,zW,hd4,hw4,zH _ hmw,zH _ hx,hma,hml,xT]
     (repeat refine sd ?_)
     refine .go (xX.of_runs (hop (acc.getD w 0) (r.getD w 0)) rfl) ?_;simp only [ZA,ZB,ZC,ZD,ZE,↓reduceIte,ZF,ZG,ZH,ZI,ZJ,reduceCtorEq,ZK,↓zU,↓zD,zV,zT,zW,hd4,hw4,zH _ hmw,oF,hma,hml,hms,xT]
     (repeat refine sd ?_)
     refine⟨w+1,by omega,?_,by omega⟩;rw [fI (by rw [xT,xT,aUa,hml])]
     (refine xM.same ?_; simp only [xR,Fr.get,↓reduceIte,reduceIte,Nat.reduceEqDiff,reduceCtorEq,D.int.injEq,D.bool.injEq,D.sl.injEq,and_true,true_and,and_self])
    ·have hd4:¬ ((w:Int)<(acc.length:Int)):=by omega
     have hw':w=acc.length:=by omega
     subst hw';rw [aK4];simp only [ZA,ZB,ZC,ZD,ZE,↓reduceIte,ZF,ZG,ZH,ZI,ZJ,reduceCtorEq,ZK,↓zU,↓zD,zV,zT,zW,hd4,hu];refine⟨k+1,by omega,?_,by omega⟩;rw [hs,aSz (show (us acc).length=(us (aMa meet acc r)).length by simp [us,aMa])]
     (refine xM.same ?_; simp only [xR,Fr.get,↓reduceIte,reduceIte,Nat.reduceEqDiff,reduceCtorEq,D.int.injEq,D.bool.injEq,D.sl.injEq,and_true,true_and,and_self])
 ·have hd:¬ ((k:Int)<(m.R.length:Int)):=by omega
  have hk':k=m.R.length:=by omega
  subst hk';rw [hall];simp only [ZA,ZB,ZC,ZD,ZE,↓reduceIte,ZF,ZG,ZH,ZI,ZJ,reduceCtorEq,ZK,↓zU,↓zD,zV,zT,zW,hd]
  (repeat refine sd ?_)
  refine .drop (by simp) ?_;simp only [yO,vwL,vw,vwF,sw,St.get,St.look,Fr.get,↓reduceIte,reduceIte,Nat.reduceEqDiff,Nat.reduceAdd,Nat.reduceBEq,Nat.reduceLT,Nat.reduceLeDiff,exists_eq_left',ne_eq,reduceCtorEq,zR]
theorem aFc (a b:BitVec 64):yX Tryz.prog 254 [.int .u64 (ui a),.int .u64 (ui b)] (.int .u64 (ui (op2 false a b))):=by
 refine xX.go_fn mixed Tryz.func254 bXm (by simp) fun hf=>?_;simp only [ZA,ZB,ZC,ZD,ZE,↓reduceIte,ZF,ZG,ZH,ZI,ZJ,reduceCtorEq,ZK,↓zU,↓zD,zV,zT,zW];exact .same
theorem aFd (a b:BitVec 64):yX Tryz.prog 253 [.int .u64 (ui a),.int .u64 (ui b)] (.int .u64 (ui (op2 true a b))):=by
 refine xX.go_fn mixed Tryz.func253 bXn (by simp) fun hf=>?_;simp only [ZA,ZB,ZC,ZD,ZE,↓reduceIte,ZF,ZG,ZH,ZI,ZJ,reduceCtorEq,ZK,↓zU,↓zD,zV,zT,zW];exact .same
theorem aTb {m:pM} {W:Nat} (ok:oG m W) {g:Nat} (hg:1<=g/\g<2 ^ m.R.length):yX Tryz.prog 217 [m.d,.int .i64 (g:Int)] (.sl 1 (us (zQ m g false))):=by
 have h:=aXo ok hg false 254 aFc;unfold pM.d at h ⊢;refine xX.go_fn mixed Tryz.func217 bX0 (by simp) fun hf=>?_;simp only [ZA,ZB,ZC,ZD,ZE,↓reduceIte,ZF,ZG,ZH,ZI,ZJ,reduceCtorEq,ZK,↓zU,↓zD,zV,zT,zW]
 (repeat refine sd ?_)
 refine .go (cr h) ?_;simp only [ZA,ZB,ZC,ZD,ZE,↓reduceIte,ZF,ZG,ZH,ZI,ZJ,reduceCtorEq,ZK,↓zU,↓zD,zV,zT,zW];exact .drop (by simp) (by simp [vw])
theorem aF9 {m:pM} {W:Nat} (ok:oG m W) {g:Nat} (hg:1<=g/\g<2 ^ m.R.length):yX Tryz.prog 216 [m.d,.int .i64 (g:Int)] (.sl 1 (us (zQ m g true))):=by
 have h:=aXo ok hg true 253 aFd;unfold pM.d at h ⊢;refine xX.go_fn mixed Tryz.func216 bX1 (by simp) fun hf=>?_;simp only [ZA,ZB,ZC,ZD,ZE,↓reduceIte,ZF,ZG,ZH,ZI,ZJ,reduceCtorEq,ZK,↓zU,↓zD,zV,zT,zW]
 (repeat refine sd ?_)
 refine .go (cr h) ?_;simp only [ZA,ZB,ZC,ZD,ZE,↓reduceIte,ZF,ZG,ZH,ZI,ZJ,reduceCtorEq,ZK,↓zU,↓zD,zV,zT,zW];exact .drop (by simp) (by simp [vw])
open Rs Fm Ru Te
namespace Ru
def oK (r:List (BitVec 64)) (a c s:BitVec 64):Nat->BitVec 64
 | 0=>a
 | n+1=>bN r (a &&& ~~~c ||| s &&& oK r a c s n)
theorem aX0 {r:List (BitVec 64)} {a c s:BitVec 64} {n:Nat} (h:oK r a c s (n+1)= oK r a c s n):∀ m,oK r a c s (n+m)= oK r a c s n
 | 0=>rfl
 | m+1=>by
  show bN r (a &&& ~~~c ||| s &&& oK r a c s (n+m))= _;rw [aX0 h m];exact h
theorem aFg {n:Nat} (hn:n<=64) {x:BitVec 64} (h:aYv n x=false) {i:Nat} (hi:x.getLsbD i=true):i<n:=by
 unfold aYv at h;rw [Bool.not_eq_false',decide_eq_true_iff] at h;have h64:i<64:=Decidable.byContradiction fun hh=>by rw [BitVec.getLsbD_of_ge _ _ (by omega)] at hi; cases hi
 have:=congrArg (·.getLsbD i) h;simp only [BitVec.getLsbD_and,BitVec.getLsbD_not,tF hn h64,hi,h64,BitVec.getLsbD_zero] at this;simpa using this
def aRz (R:List (List (BitVec 64))) (G:Nat) (meet:Bool) (k w v:Nat):Bool:=
 if meet=true then(List.range k).all fun a=>!G.testBit a || ((R.getD a []).getD w 0).getLsbD v else(List.range k).any fun a=>G.testBit a&&((R.getD a []).getD w 0).getLsbD v
theorem aGn (meet:Bool) (a b:BitVec 64) (v:Nat):(op2 meet a b).getLsbD v=if meet=true then(a.getLsbD v&&b.getLsbD v) else(a.getLsbD v || b.getLsbD v):=by
 unfold op2;cases meet <;> simp
theorem iH (R:List (List (BitVec 64))) (G:Nat) (meet:Bool) (k w v:Nat):aRz R G meet (k+1) w v=if G.testBit k=true then(if meet=true then(aRz R G meet k w v&&((R.getD k []).getD w 0).getLsbD v) else(aRz R G meet k w v || ((R.getD k []).getD w 0).getLsbD v)) else aRz R G meet k w v:=by
 unfold aRz;simp only [List.range_succ,List.any_append,List.all_append,List.any_cons,List.any_nil,List.all_cons,List.all_nil,Bool.or_false,Bool.and_true];cases meet <;> cases hG:G.testBit k <;> simp
theorem aYb {m:pM} {W:Nat} (ok:oG m W) (G:Nat) (meet:Bool):∀ k,k<=m.R.length->((∀ a,a<k->G.testBit a=false)/\ jW m.R G meet k = [])\/((∃ a,a<k/\G.testBit a=true)/\ (jW m.R G meet k).length=W/\∀ w,w<W->∀ v,((jW m.R G meet k).getD w 0).getLsbD v=aRz m.R G meet k w v)
 | 0,_=>.inl ⟨fun a h=>by omega,rfl⟩
 | k + 1,hk=>by
  have hr:=ok.row _ (xN (d:=[]) (show k<m.R.length by omega));rw [aYa];have ih:=aYb ok G meet k (by omega)
  cases hb:G.testBit k with
  | false=>
   rw [if_neg (by simp)]
   rcases ih with ⟨h1,h2⟩ | ⟨⟨a,h1,h2⟩,h3,h4⟩
   ·refine .inl ⟨fun a ha=>?_,h2⟩
    by_cases e:a=k
    ·rw [e]; exact hb
    ·exact h1 a (by omega)
   ·refine .inr ⟨⟨a,by omega,h2⟩,h3,fun w hw v=>?_⟩;rw [iH,hb,h4 w hw v]; rfl
  | true=>
   rw [if_pos rfl];refine .inr ⟨⟨k,by omega,hb⟩,?_⟩
   rcases ih with ⟨h1,h2⟩ | ⟨_,h3,h4⟩
   ·rw [h2,List.isEmpty_nil,if_pos rfl];refine⟨hr,fun w hw v=>?_⟩;rw [iH,hb,if_pos rfl]
    have hz:aRz m.R G meet k w v=meet:=by
     unfold aRz
     cases meet
     ·simp only [Bool.false_eq_true,↓reduceIte,List.any_eq_false,List.mem_range];intro a ha;rw [h1 a ha]; simp
     ·simp only [↓reduceIte,List.all_eq_true,List.mem_range];intro a ha;rw [h1 a ha]; simp
    rw [hz];cases meet <;> simp
   ·have hne:(jW m.R G meet k).isEmpty=false:=by
     cases hc:jW m.R G meet k with
     | nil=>rw [hc] at h3; have:=ok.hW; simp at h3; omega
     | cons a b=>rfl
    rw [hne,if_neg (by simp)];refine⟨by simp [aMa,h3],fun w hw v=>?_⟩;rw [iH,hb,if_pos rfl,<- h4 w hw v]
    have:(aMa meet (jW m.R G meet k) (m.R.getD k [])).getD w 0=op2 meet ((jW m.R G meet k).getD w 0) ((m.R.getD k []).getD w 0):=by
     simp [aMa,List.getD,h3,hw]
    rw [this,aGn]
theorem gV {m:pM} {W:Nat} (ok:oG m W) {g:Nat} (hg:1<=g/\g<2 ^ m.R.length) (meet:Bool):(∃ a,a<m.R.length/\g.testBit a=true)/\ (zQ m g meet).length=W/\∀ w,w<W->∀ v,((zQ m g meet).getD w 0).getLsbD v=aRz m.R g meet m.R.length w v:=by
 rcases aYb ok g meet m.R.length (Nat.le_refl _) with ⟨h1,_⟩ | h
 ·exfalso
  have:g=0:=by
   refine Nat.eq_of_testBit_eq fun i=>?_;rw [Nat.zero_testBit]
   by_cases hi:i<m.R.length
   ·exact h1 i hi
   ·exact Nat.testBit_lt_two_pow (Nat.lt_of_lt_of_le hg.2 (Nat.pow_le_pow_right (by decide) (by omega)))
  omega
 ·exact h
theorem aIl {m:pM} {W:Nat} (ok:oG m W) {a:Nat} (ha:a<m.R.length):aTw (m.R.getD a []):=by
 have hm:=xN (d:=[]) ha;have:=ok.hW;refine⟨by rw [ok.row _ hm]; omega,fun x hx=>?_⟩;rw [ok.row _ hm];exact ok.rel _ hm x hx
theorem cM {m:pM} {W:Nat} (ok:oG m W) {g:Nat} (hg:1<=g/\g<2 ^ m.R.length) (meet:Bool):aTw (zQ m g meet):=by
 obtain⟨⟨a,ha,hb⟩,hl,hv⟩:=gV ok hg meet;have hW:=ok.hW;refine⟨by rw [hl]; omega,fun x hx=>?_⟩;rw [hl];obtain⟨w,hw,rfl⟩:=List.mem_iff_getElem.1 hx;refine aZl hW.2 fun v h=>?_;have hw':w<W:=by omega
 have e:(zQ m g meet)[w]=(zQ m g meet).getD w 0:=by simp [List.getD,hw]
 rw [e,hv w hw' v] at h
 have key:∀ b,b<m.R.length->((m.R.getD b []).getD w 0).getLsbD v=true->v<W:=fun b hb' h'=>by
  have hm:=xN (d:=[]) hb';exact aFg hW.2 (ok.rel _ hm _ (xN (d:=0) (by rw [ok.row _ hm]; exact hw'))) h'
 unfold aRz at h
 split at h
 ·rw [List.all_eq_true] at h;have:=h a (List.mem_range.2 ha);rw [hb] at this;exact key a ha (by simpa using this)
 ·rw [List.any_eq_true] at h;obtain⟨b,hb1,hb2⟩:=h;rw [Bool.and_eq_true] at hb2;exact key b (List.mem_range.1 hb1) hb2.2
end Ru
theorem aNs {r:List (BitVec 64)} (ok:aTw r) {a c s:BitVec 64} {N:Nat} (hN:oK r a c s (N+1)= oK r a c s N):yX Tryz.prog 218 [.sl 1 (us r),.int .u64 (ui a),.int .u64 (ui c),.int .u64 (ui s)] (.int .u64 (ui (oK r a c s N))):=by
 have hb:=fun x=>aU ok x;refine xX.go_fn mixed Tryz.func218 bXz (by simp) fun hf=>?_;simp only [ZA,ZB,ZC,ZD,ZE,↓reduceIte,ZF,ZG,ZH,ZI,ZJ,reduceCtorEq,ZK,↓zU,↓zD,zV,zT,zW]
 refine xV (fun n:Nat=>[(9,.int .u64 (ui (oK r a c s n))),(3,.int .u64 (ui s)),(2,.int .u64 (ui c)),(1,.int .u64 (ui a)),(0,.sl 1 (us r))]) (fun _=>⟨0,[]⟩) (fun n=>n<=N) (fun n=>N-n) 0 (Nat.zero_le _) ?_ ?_
 ·(refine xM.same ?_; simp [xR,Fr.get])
  rfl
 intro n hn;refine xQ mixed ?_;have hs:oK r a c s (n+1)= bN r (a &&& ~~~c ||| s &&& oK r a c s n):=rfl;simp only [ZA,ZB,ZC,ZD,ZE,↓reduceIte,ZF,ZG,ZH,ZI,ZJ,reduceCtorEq,ZK,↓zU,↓zD,zV,zT,zW];refine .go (xX.of_runs (hb (a &&& ~~~c ||| s &&& oK r a c s n)) (by simp [D.isPureL,D.isPure])) ?_;rw [<- hs]
 by_cases e:oK r a c s (n+1)= oK r a c s n
 ·obtain⟨k,hk⟩:=Nat.exists_eq_add_of_le hn;have hst:=aX0 e k;rw [hk,hst];have e':(oK r a c s (n+1)== oK r a c s n)= true:=by rw [e]; simp
  simp only [ZA,ZB,ZC,ZD,ZE,↓reduceIte,ZF,ZG,ZH,ZI,ZJ,reduceCtorEq,ZK,↓zU,↓zD,zV,zT,zW,e'];exact .same
 ·have e':(oK r a c s (n+1)== oK r a c s n)= false:=by rw [beq_eq_false_iff_ne]; exact e
  have hlt:n<N:=Decidable.byContradiction fun h=>e (by rw [show n=N by omega]; exact hN);simp only [ZA,ZB,ZC,ZD,ZE,↓reduceIte,ZF,ZG,ZH,ZI,ZJ,reduceCtorEq,ZK,↓zU,↓zD,zV,zT,zW,e'];refine⟨n+1,by omega,?_,by omega⟩
  (refine xM.same ?_; simp only [xR,Fr.get,↓reduceIte,reduceIte,Nat.reduceEqDiff,reduceCtorEq,D.int.injEq,D.bool.injEq,D.sl.injEq,and_true,true_and,and_self])
end Go.Pd
