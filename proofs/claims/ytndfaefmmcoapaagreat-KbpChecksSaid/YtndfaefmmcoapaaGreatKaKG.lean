/- Part KG. -/
import Derived.Test.YtndfaefmmcoapaaGreatKaKE
import Derived.Test.YtndfaefmmcoapaaGreatKaKF
import Derived.Test.YtndfaefmmcoapaaGreatKaE7
set_option linter.unusedSectionVars false
set_option linter.unusedVariables false
set_option linter.unusedSimpArgs false
set_option linter.defProp false
set_option maxRecDepth 20000
set_option maxHeartbeats 1000000
namespace Go.Pd
open Go Go.Proofs
open Int renaming reduceToNat -> ZA, reduceLT -> ZB, reduceLE -> ZC, reduceBEq -> ZD, reduceBNe -> ZE
open Nat renaming reduceEqDiff -> ZF, reduceAdd -> ZG, reduceBEq -> ZH, reduceLT -> ZI, reduceLeDiff -> ZJ, reduceMul -> ZK
open Rs Fm Ru Kb
namespace Kb
def rV (see st:List (BitVec 64)) (a t:Nat):List (BitVec 64):=(st.take (t+1)).map fun s=>s &&& see.getD a 0
theorem dE {see st:List (BitVec 64)} {a t:Nat} (h:t<st.length):(rV see st a t).length=t+1:=by
 simp [rV]; omega
theorem aG1 {see st:List (BitVec 64)} {a t:Nat} (h:t<st.length):rV see st a t ≠ []:=fun c=>by
 have:=dE (see:=see) (a:=a) h;rw [c] at this; cases this
def plC (p:PrA) (sts:List (List (BitVec 64))):List D:=[.int .i64 p.F,.sl 1 (us p.init),.sl 1 (us p.see),.sl 1 (mvR p.moves),.sl 1 (cdR p.code),.sl 1 (rr sts)]
def plD (p:PrA) (sts:List (List (BitVec 64))):D:=.ptr (plC p sts)
end Kb
theorem rB {g:FuncId} {args:List D} {l:List (BitVec 64)} (h:xX Tryz.prog g args St0 (.osl 0 1 l.length) ⟨1,[(0,⟨1,us l⟩)]⟩):yX Tryz.prog g args (.sl 1 (us l)):=
 xX.ret h (.drop (Nat.zero_le _) (aVg (by decide) (tA l) (xR l).symm))
theorem qZ (p:PrA) {sts:List (List (BitVec 64))} {a r t:Nat} (ha:a<p.see.length) (hr:r<sts.length) (ht:t<(sts.getD r []).length) (hl:t<=1000) :
  xX Tryz.prog 75 [plD p sts,.int .i64 a,.int .i64 r,.int .i64 t] St0 (.osl 0 1 (rV p.see (sts.getD r []) a t).length) ⟨1,[(0,⟨1,us (rV p.see (sts.getD r []) a t)⟩)]⟩:=by
 have hg:=pP sts hr;have hne:=aG1 (see:=p.see) (a:=a) ht;have hL:=dE (see:=p.see) (a:=a) ht;have hga:=zI p.see ha;have hha:((a:Int)<(p.see.length:Int)):=by omega
 have hhr:((r:Int)<(sts.length:Int)):=by omega
 unfold rV at hne hL ⊢;generalize sts.getD r []=st at *;generalize p.see.getD a 0=m at *;have hu:(us st).take (t+1)= us (st.take (t+1)):=aR5 _ _;have hw:IntKind.i64.wrap ((t:Int)+ 1)= ((t+1:Nat):Int):=by rw [wrap_i64 (by omega)]; rfl
 have hst:(st.take (t+1)).length=t+1:=by rw [List.length_take]; omega
 unfold plD plC;refine xX.go_fn mixed Tryz.func75 k75 (by simp) fun hf=>?_;simp only [ZA,ZB,ZC,ZD,ZE,↓reduceIte,ZF,ZG,ZH,ZI,ZJ,reduceCtorEq,ZK,↓zU,↓zD,zV,zT,zW,yF,hhr,hg,hw]
 (repeat refine sd ?_)
 refine⟨0,((t+1:Nat):Int),rfl,rfl,by omega,by omega,by omega,?_⟩;simp only [Int.toNat_natCast,Int.toNat_zero,List.drop_zero,hu];generalize st.take (t+1)= q at *;simp only [ZA,ZB,ZC,ZD,ZE,↓reduceIte,ZF,ZG,ZH,ZI,ZJ,reduceCtorEq,ZK,↓zU,↓zD,zV,zT,zW,xR,hst]
 refine xV (fun k:Nat=>[(23,.int .i64 k),(22,.int .i64 ((t+1:Nat):Int)),(21,.sl 1 (us q)),(9,xG 0 1 (us ((q.take k).map fun s=>s &&& m))),(1,.int .i64 a),(0,plD p sts)]) (fun k=>⟨1,xE 0 1 (us ((q.take k).map fun s=>s &&& m))⟩) (fun k=>k<=t+1) (fun k=>t+1-k) 0 (Nat.zero_le _) ?_ ?_
 ·unfold plD plC
  (refine xM.ren [] [] (by simp) (by simp) (by decide) ?_; simp only [yP,vwL,vw,vwF,sw,St.get,St.look,Fr.get,↓reduceIte,reduceIte,Nat.reduceEqDiff,Nat.reduceAdd,Nat.reduceBEq,Nat.reduceLT,Nat.reduceLeDiff,exists_eq_left',ne_eq,reduceCtorEq,zR,List.take_zero,List.map_nil,aWp,zM,zN])
 intro k hk;refine xQ mixed ?_;unfold plD plC
 by_cases hh:k<t+1
 ·have hd:((k:Int)<((t+1:Nat):Int)):=by omega
  have hgq:=zI q (show k<q.length by omega);have ht2:(q.take (k+1)).map (fun s=>s &&& m)= (q.take k).map (fun s=>s &&& m)++ [q.getD k 0 &&& m]:=by rw [yE (d:=0) (by omega)]; simp
  have hkl:((q.take k).map fun s=>s &&& m).length=k:=by simp; omega
  generalize (q.take k).map (fun s=>s &&& m)= acc at hkl ht2 ⊢;generalize q.getD k 0=x at hgq ht2;simp only [ZA,ZB,ZC,ZD,ZE,↓reduceIte,ZF,ZG,ZH,ZI,ZJ,reduceCtorEq,ZK,↓zU,↓zD,zV,zT,zW,hd,xR,hst,hgq,hha,hga]
  (repeat refine sd ?_)
  refine⟨k+1,by omega,?_,by omega⟩;rw [ht2]
  (refine xM.ren [(0,1)] [0] (by simp) (by simp) (by decide) ?_; simp only [yP,vwL,vw,vwF,sw,St.get,St.look,Fr.get,↓reduceIte,reduceIte,Nat.reduceEqDiff,Nat.reduceAdd,Nat.reduceBEq,Nat.reduceLT,Nat.reduceLeDiff,exists_eq_left',ne_eq,reduceCtorEq,zR])
  exact wrap_i64 (by omega)
 ·have hd:¬ ((k:Int)<((t+1:Nat):Int)):=by omega
  rw [kX (show k=q.length by omega)];generalize q.map (fun s=>s &&& m)= acc at *;rw [aV4 (by intro c; apply hne; cases acc with | nil=>rfl | cons x r=>cases c),aV3 (by intro c; apply hne; cases acc with | nil=>rfl | cons x r=>cases c),xR];simp only [ZA,ZB,ZC,ZD,ZE,↓reduceIte,ZF,ZG,ZH,ZI,ZJ,reduceCtorEq,ZK,↓zU,↓zD,zV,zT,zW,hd];exact .same
section
open Ru
end
section
open Ru
theorem mB {nx n key sz:Nat} {objs:List (Nat × Ob)} {els:List (List D)} (hs:0<sz) (hp:∀ e ∈ els,D.isPureL e=true) (h:St.look objs key=wL sz els) {ρ:Nat->Nat}:vw ⟨nx,objs⟩ ⟨n,[]⟩ ρ (xG key sz els) (.sl sz els):=by
 cases els with
 | nil=>simp [xG,vw]
 | cons e r=>
  simp only [xG,vw];refine⟨trivial,hs,by simp,⟨sz,e :: r⟩,?_,rfl,by simp,by simp,hp⟩;show St.look objs key=_;rw [h]; rfl
namespace Ru
def ptN (T n:Nat):List (Nat × Nat):=(List.range n).map fun i=>(i / T,i % T)
theorem sJ (T n:Nat):(ptN T n).length=n:=by simp [ptN]
theorem aHy (T:Nat) {n i:Nat} (h:i<n):(ptN T n).getD i (0,0)= (i / T,i % T):=by simp [ptN,List.getD,h]
theorem aLq (T r t:Nat) (ht:t<T):ptN T (r*T+(t+1))= ptN T (r*T+t)++ [(r,t)]:=by
 rw [show r*T+(t+1)= (r*T+t)+ 1 by omega];unfold ptN;rw [List.range_succ,List.map_append,List.map_singleton]
 have e1:(r*T+t)/ T=r:=by
  rw [Nat.mul_comm,Nat.mul_add_div (by omega),Nat.div_eq_of_lt ht]; rfl
 have e2:(r*T+t) % T=t:=by
  rw [Nat.mul_comm,Nat.mul_add_mod,Nat.mod_eq_of_lt ht]
 rw [e1,e2]
end Ru
end
section
namespace Ru
def uT (rs:List wO) (a:Nat) (p:Nat × Nat):Int:=((rs.getD p.1 nE).loc.getD p.2 []).getD a 0
def aNy (rs:List wO) (p:Nat × Nat):BitVec 64:=(rs.getD p.1 nE).fac.getD p.2 0
def gV (rs:List wO) (l:List (Nat × Nat)) (f:Nat):Nat->BitVec 64
 | 0=>0#64
 | k+1=>gV rs l f k ||| (if (aNy rs (l.getD k (0,0))).getLsbD f then 1#64 <<< k else 0#64)
def relK (rs:List wO) (l:List (Nat × Nat)) (a:Nat) (x:Int):Nat->BitVec 64
 | 0=>0#64
 | k+1=>relK rs l a x k ||| (if uT rs a (l.getD k (0,0))= x then 1#64 <<< k else 0#64)
def eR (rs:List wO) (l:List (Nat × Nat)) (F:Nat):List (BitVec 64):=(List.range F).map fun f=>gV rs l f l.length
def nD (rs:List wO) (l:List (Nat × Nat)) (a:Nat):List (BitVec 64):=l.map fun p=>relK rs l a (uT rs a p) l.length
def oU (rs:List wO) (l:List (Nat × Nat)) (A:Nat):List (List (BitVec 64)):=(List.range A).map (nD rs l)
def aEc (rs:List wO) (l:List (Nat × Nat)) (A F:Nat):D:=.agg [.int .i64 (l.length:Int),.sl 1 (us (eR rs l F)),.sl 1 (rr (oU rs l A))]
structure OkR (rs : List wO) (A F T : Nat) : Prop where
 hA:A<=4
 hF:F<=8
 hT:1<=T/\T<=16
 hR:1<=rs.length/\rs.length<=64
 hP:rs.length*T<=512
 loc:∀ r ∈ rs,r.loc.length=T
 fac:∀ r ∈ rs,r.fac.length=T
 row:∀ r ∈ rs,∀ l ∈ r.loc,l.length=A
 val:∀ r ∈ rs,∀ f ∈ r.fac,f >>> F=0#64
def sD (A F T:Nat) (rs:List wO):D:=.agg [.int .i64 (A:Int),.int .i64 (F:Int),.int .i64 (T:Int),.sl 2 (oV rs)]
theorem rW (x:Int):∀ (l:List (Int × D)) (i:Nat),tB x l i=(tB x l 0).map fun p=>(p.1+i,p.2)
 | [],i=>rfl
 | (k,d) :: r,i=>by
  unfold tB
  by_cases h:x=k
  ·rw [if_pos h,if_pos h]; simp
  ·rw [if_neg h,if_neg h,rW x r (i+1),rW x r (0+1)]
   cases tB x r 0 with
   | none=>rfl
   | some p=>simp; omega
end Ru
open Ru
end
open Ru
namespace Ru
def cI (F:Nat) (g h:Nat->BitVec 64) (i:Nat):List (BitVec 64):=(List.range F).map fun f=>if f<i then g f else h f
theorem dJ (F:Nat) (g h:Nat->BitVec 64) (i:Nat):(cI F g h i).length=F:=by simp [cI]
theorem aR (F:Nat) (g h:Nat->BitVec 64):cI F g h 0=(List.range F).map h:=by simp [cI]
theorem aVq (F:Nat) (g h:Nat->BitVec 64) {i:Nat} (hi:F<=i):cI F g h i=(List.range F).map g:=by
 refine List.map_congr_left fun f hf=>?_;rw [if_pos (by have:=List.mem_range.1 hf; omega)]
theorem aVp {F:Nat} (g h:Nat->BitVec 64) {i:Nat} (hi:i<F):(cI F g h i).getD i 0=h i:=by
 simp [cI,List.getD,hi]
theorem aVo (F:Nat) (g h:Nat->BitVec 64) (i:Nat):(cI F g h i).set i (g i)= cI F g h (i+1):=by
 refine List.ext_getElem (by simp [cI]) fun k h1 h2=>?_;rw [List.getElem_set];simp only [cI,List.getElem_map,List.getElem_range]
 by_cases e:i=k
 ·subst e; rw [if_pos rfl,if_pos (by omega)]
 ·rw [if_neg e]
  by_cases hk:k<i
  ·rw [if_pos hk,if_pos (by omega)]
  ·rw [if_neg hk,if_neg (by omega)]
theorem aFl (x:BitVec 64) (f w:Nat):(x >>> f &&& 1#64) <<< w=if x.getLsbD f then 1#64 <<< w else 0#64:=by
 rw [aUh]
 split
 ·rfl
 ·exact BitVec.zero_shiftLeft _
end Ru
namespace Ru
structure pR where
 W:Int
 V:List (BitVec 64)
 R:List (List (BitVec 64))
def pR.d (m:pR):D:=.agg [.int .i64 m.W,.sl 1 (us m.V),.sl 1 (rr m.R)]
def rM (n:Nat):BitVec 64:=if 64<=n then 18446744073709551615#64 else 1#64 <<< n-1#64
def aYe (n:Nat) (x:BitVec 64):Bool:=!decide (x &&& ~~~(rM n)= 0#64)
structure oN (m : pR) (W : Nat) : Prop where
 w:m.W=W
 hW:1<=W/\W<=64
 hV:m.V.length<=8
 hR:m.R.length<=4
 row:∀ r ∈ m.R,r.length=W
 val:∀ x ∈ m.V,aYe W x=false
 rel:∀ r ∈ m.R,∀ x ∈ r,aYe W x=false
theorem tI {n:Nat} (hn:n<=64) {i:Nat} (hi:i<64):(rM n).getLsbD i=decide (i<n):=by
 unfold rM
 by_cases h:64<=n
 ·rw [if_pos h,show 18446744073709551615#64=BitVec.allOnes 64 from rfl,BitVec.getLsbD_allOnes];simp [hi]; omega
 ·rw [if_neg h];have:∀ n,n<64->∀ i,i<64->(1#64 <<< n-1#64).getLsbD i=decide (i<n):=by decide
  exact this n (by omega) i hi
theorem aY7 {n:Nat} (hn:n<=64) {x:BitVec 64} (h:∀ i,x.getLsbD i=true->i<n):aYe n x=false:=by
 unfold aYe;rw [Bool.not_eq_false',decide_eq_true_iff];refine BitVec.eq_of_getLsbD_eq fun i hi=>?_;rw [BitVec.getLsbD_and,BitVec.getLsbD_not,tI hn hi,BitVec.getLsbD_zero]
 cases hx:x.getLsbD i
 ·rfl
 ·simp [h i hx]
end Ru
open Ru
theorem aGw {σ:St} {g:FuncId} {caps:List D} {f:List (BitVec 64)->Bool} {l:List (List (BitVec 64))} (hl:l.length<=1000) (h:∀ x ∈ l,xX Tryz.prog g ([.sl 1 (us x)]++caps) σ (.bool (f x)) σ):xX Tryz.prog 199 [.sl 1 (rr l),.fn g caps] σ (.int .i64 (ixF f l 0)) σ:=by
 refine xX.go_fn mixed Tryz.func199 bXs (by simp) fun hf=>?_;simp only [ZA,ZB,ZC,ZD,ZE,↓reduceIte,ZF,ZG,ZH,ZI,ZJ,reduceCtorEq,ZK,↓zU,↓zD,zV,zT,zW,yF]
 refine xV (fun k:Nat=>[(8,.int .i64 k),(7,.int .i64 l.length),(1,.fn g caps),(0,.sl 1 (rr l))]) (fun _=>σ) (fun k=>k<=l.length/\ixF f l 0=ixF f (l.drop k) k) (fun k=>l.length-k) 0 ⟨Nat.zero_le _,rfl⟩ ?_ ?_
 ·(refine xM.same ?_; simp [xS,Fr.get])
 intro k ⟨hk,hi⟩;refine xQ mixed ?_
 by_cases hh:k<l.length
 ·have hd:((k:Int)<(l.length:Int)):=by omega
  rw [drop_cons (d:=[]) hh,ixF] at hi;simp only [ZA,ZB,ZC,ZD,ZE,↓reduceIte,ZF,ZG,ZH,ZI,ZJ,reduceCtorEq,ZK,↓zU,↓zD,zV,zT,zW,hd,yF,pP _ hh]
  (repeat refine sd ?_)
  refine .go (h _ (xN hh)) ?_
  cases hx:f (l.getD k [])
  ·rw [hx,if_neg (by simp)] at hi;simp only [ZA,ZB,ZC,ZD,ZE,↓reduceIte,ZF,ZG,ZH,ZI,ZJ,reduceCtorEq,ZK,↓zU,↓zD,zV,zT,zW];refine⟨k+1,⟨by omega,hi⟩,?_,by omega⟩
   (refine xM.same ?_; simp only [xS,Fr.get,↓reduceIte,reduceIte,Nat.reduceEqDiff,reduceCtorEq,D.int.injEq,D.bool.injEq,D.sl.injEq,and_true,true_and,and_self])
   exact wrap_i64 (by omega)
  ·rw [hx,if_pos rfl] at hi;simp only [ZA,ZB,ZC,ZD,ZE,↓reduceIte,ZF,ZG,ZH,ZI,ZJ,reduceCtorEq,ZK,↓zU,↓zD,zV,zT,zW];rw [hi];exact .same
 ·have hd:¬ ((k:Int)<(l.length:Int)):=by omega
  rw [List.drop_eq_nil_of_le (by omega),ixF] at hi;simp only [ZA,ZB,ZC,ZD,ZE,↓reduceIte,ZF,ZG,ZH,ZI,ZJ,reduceCtorEq,ZK,↓zU,↓zD,zV,zT,zW,hd];rw [hi];exact .same
theorem aSn {σ:St} {g:FuncId} {caps:List D} {f:List (BitVec 64)->Bool} {l:List (List (BitVec 64))} (hl:l.length<=1000) (h:∀ x ∈ l,xX Tryz.prog g ([.sl 1 (us x)]++caps) σ (.bool (f x)) σ):xX Tryz.prog 139 [.sl 1 (rr l),.fn g caps] σ (.bool (l.any f)) σ:=by
 refine xX.go_fn mixed Tryz.func139 bYg (by simp) fun hf=>?_;simp only [ZA,ZB,ZC,ZD,ZE,↓reduceIte,ZF,ZG,ZH,ZI,ZJ,reduceCtorEq,ZK,↓zU,↓zD,zV,zT,zW];refine .go (aGw hl h) ?_;have hx:=mK (f:=f) (c:=l) (i:=0) (Int.le_refl 0)
 cases ha:l.any f
 ·have h1:¬ 0<=ixF f l 0:=fun y=>by rw [hx.1 y] at ha; cases ha
  simp only [ZA,ZB,ZC,ZD,ZE,↓reduceIte,ZF,ZG,ZH,ZI,ZJ,reduceCtorEq,ZK,↓zU,↓zD,zV,zT,zW,h1];exact .same
 ·have h1:=hx.2 ha;simp only [ZA,ZB,ZC,ZD,ZE,↓reduceIte,ZF,ZG,ZH,ZI,ZJ,reduceCtorEq,ZK,↓zU,↓zD,zV,zT,zW,h1];exact .same
theorem aAd (n:Nat):yX Tryz.prog 198 [.int .i64 n] (.int .u64 (ui (rM n))):=by
 refine xX.go_fn mixed Tryz.func198 bXt (by simp) fun hf=>?_;unfold rM
 by_cases h:64<=n
 ·have e:(64:Int)<=(n:Int):=by omega
  rw [if_pos h];simp only [ZA,ZB,ZC,ZD,ZE,↓reduceIte,ZF,ZG,ZH,ZI,ZJ,reduceCtorEq,ZK,↓zU,↓zD,zV,zT,zW,e];exact .same
 ·have e:¬ (64:Int)<=(n:Int):=by omega
  rw [if_neg h];simp only [ZA,ZB,ZC,ZD,ZE,↓reduceIte,ZF,ZG,ZH,ZI,ZJ,reduceCtorEq,ZK,↓zU,↓zD,zV,zT,zW,e]
  (repeat refine sd ?_)
  exact .same
theorem aBx {n nx:Nat} {objs:List (Nat × Ob)} {k:Nat} (h0:St.look objs k=some ⟨1,[[.int .i64 n]]⟩) (x:BitVec 64):xX Tryz.prog 197 ([.int .u64 (ui x)] ++ [.ref k 1 0 0]) ⟨nx,objs⟩ (.bool (aYe n x)) ⟨nx,objs⟩:=by
 refine xX.go_fn mixed Tryz.func197 bXu (by simp) fun hf=>?_;simp only [ZA,ZB,ZC,ZD,ZE,↓reduceIte,ZF,ZG,ZH,ZI,ZJ,reduceCtorEq,ZK,↓zU,↓zD,zV,zT,zW,h0]
 (repeat refine sd ?_)
 refine .go (cq (aAd n)) ?_;simp only [ZA,ZB,ZC,ZD,ZE,↓reduceIte,ZF,ZG,ZH,ZI,ZJ,reduceCtorEq,ZK,↓zU,↓zD,zV,zT,zW];rw [show (x &&& ~~~(rM n) != 0#64)= aYe n x by unfold aYe; rw [bne]; congr 1];exact .same
theorem aU {l:List (BitVec 64)} (hl:l.length<=1000) (n:Nat):yX Tryz.prog 138 [.sl 1 (us l),.int .i64 n] (.bool (l.any (aYe n))):=by
 refine xX.go_fn mixed Tryz.func138 bYh (by simp) fun hf=>?_;simp only [ZA,ZB,ZC,ZD,ZE,↓reduceIte,ZF,ZG,ZH,ZI,ZJ,reduceCtorEq,ZK,↓zU,↓zD,zV,zT,zW];refine .go (lZ (caps:=[.ref 0 1 0 0]) hl fun x _=>aBx rfl x) ?_;simp only [ZA,ZB,ZC,ZD,ZE,↓reduceIte,ZF,ZG,ZH,ZI,ZJ,reduceCtorEq,ZK,↓zU,↓zD,zV,zT,zW];exact .drop (by simp) (by simp [vw])
theorem aB7 {m:pR} {W:Nat} (hw:m.W=W) {nx:Nat} {objs:List (Nat × Ob)} (h0:St.look objs 0=some ⟨3,[[.int .i64 m.W,.sl 1 (us m.V),.sl 1 (rr m.R)]]⟩) {x:List (BitVec 64)} (hx:x.length<=1000):xX Tryz.prog 140 ([.sl 1 (us x)] ++ [.ref 0 3 0 0]) ⟨nx,objs⟩ (.bool (x.any (aYe W))) ⟨nx,objs⟩:=by
 refine xX.go_fn mixed Tryz.func140 bYf (by simp) fun hf=>?_;simp only [ZA,ZB,ZC,ZD,ZE,↓reduceIte,ZF,ZG,ZH,ZI,ZJ,reduceCtorEq,ZK,↓zU,↓zD,zV,zT,zW,h0,hw]
 (repeat refine sd ?_)
 refine .go (cr (aU hx W)) ?_;simp only [ZA,ZB,ZC,ZD,ZE,↓reduceIte,ZF,ZG,ZH,ZI,ZJ,reduceCtorEq,ZK,↓zU,↓zD,zV,zT,zW];exact .same
theorem fM {m:pR} {W:Nat} (ok:oN m W):yX Tryz.prog 90 [m.d] (.int .i64 0):=by
 obtain⟨W1,W64⟩:=ok.hW;have h1:¬ (W:Int)<1:=by omega
 have h2:¬ (64:Int)<(W:Int):=by omega
 have h3:¬ (4:Int)<(m.R.length:Int):=by have:=ok.hR; omega
 have h4:¬ (8:Int)<(m.V.length:Int):=by have:=ok.hV; omega
 have hv:m.V.any (aYe W)= false:=List.any_eq_false.2 fun x hx=>by rw [ok.val x hx]; simp
 have hr:m.R.any (fun x=>x.any (aYe W))= false:=List.any_eq_false.2 fun x hx=>by
  rw [List.any_eq_false.2 fun y hy=>by rw [ok.rel x hx y hy]; simp]; simp
 have ho:=aU (l:=m.V) (by have:=ok.hV; omega) W;have hc:=aSn (σ:=⟨1,[(0,⟨3,[[.int .i64 m.W,.sl 1 (us m.V),.sl 1 (rr m.R)]]⟩)]⟩) (g:=140) (caps:=[.ref 0 3 0 0]) (f:=fun x=>x.any (aYe W)) (l:=m.R) (by have:=ok.hR; omega) fun x hx=>aB7 ok.w rfl (by rw [ok.row x hx]; omega);rw [hv] at ho;rw [hr,ok.w] at hc;unfold pR.d;refine xX.go_fn mixed Tryz.func90 k90 (by simp) fun hf=>?_;simp only [ZA,ZB,ZC,ZD,ZE,↓reduceIte,ZF,ZG,ZH,ZI,ZJ,reduceCtorEq,ZK,↓zU,↓zD,zV,zT,zW,ok.w,h1,h2,yF,xR,h3,h4]
 refine xV (fun k:Nat=>[(26,.int .i64 k),(25,.int .i64 m.R.length),(24,.sl 1 (rr m.R)),(1,.ref 0 3 0 0)]) (fun _=>⟨1,[(0,⟨3,[[.int .i64 W,.sl 1 (us m.V),.sl 1 (rr m.R)]]⟩)]⟩)
  (fun k=>k<=m.R.length) (fun k=>m.R.length-k) 0 (Nat.zero_le _) ?_ ?_
 ·(refine xM.same ?_; simp [xS,Fr.get])
 intro k hk;refine xQ mixed ?_
 by_cases h:k<m.R.length
 ·have hd:((k:Int)<(m.R.length:Int)):=by omega
  have hrw:=ok.row _ (xN (d:=[]) h);have hg:=pP m.R h;generalize m.R.getD k []=r at hrw hg;have e:((r.length:Int) != (W:Int))= false:=by rw [hrw]; simp
  simp only [ZA,ZB,ZC,ZD,ZE,↓reduceIte,ZF,ZG,ZH,ZI,ZJ,reduceCtorEq,ZK,↓zU,↓zD,zV,zT,zW,hd,yF,hg,xR,e]
  (repeat refine sd ?_)
  refine⟨k+1,by omega,?_,by omega⟩
  (refine xM.same ?_; simp only [xS,Fr.get,↓reduceIte,reduceIte,Nat.reduceEqDiff,reduceCtorEq,D.int.injEq,D.bool.injEq,D.sl.injEq,and_true,true_and,and_self])
  exact wrap_i64 (by omega)
 ·have hd:¬ ((k:Int)<(m.R.length:Int)):=by omega
  simp only [ZA,ZB,ZC,ZD,ZE,↓reduceIte,ZF,ZG,ZH,ZI,ZJ,reduceCtorEq,ZK,↓zU,↓zD,zV,zT,zW,hd];refine .go (cr ho) ?_;simp only [ZA,ZB,ZC,ZD,ZE,↓reduceIte,ZF,ZG,ZH,ZI,ZJ,reduceCtorEq,ZK,↓zU,↓zD,zV,zT,zW];refine .go hc ?_;simp only [ZA,ZB,ZC,ZD,ZE,↓reduceIte,ZF,ZG,ZH,ZI,ZJ,reduceCtorEq,ZK,↓zU,↓zD,zV,zT,zW];exact .drop (by simp) (by simp [vw])
end Go.Pd
