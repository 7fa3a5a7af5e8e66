/- Part LF. -/
import Derived.Test.YtndfaefmmcoapaaGreatKaXE
set_option linter.unusedSectionVars false
set_option linter.unusedVariables false
set_option linter.unusedSimpArgs false
set_option linter.defProp false
set_option maxRecDepth 20000
set_option maxHeartbeats 1000000
namespace Go.Pd
open Go Go.Proofs
open Int renaming reduceToNat -> ZA, reduceLT -> ZB, reduceLE -> ZC, reduceBEq -> ZD, reduceBNe -> ZE
open Nat renaming reduceEqDiff -> ZF, reduceAdd -> ZG, reduceBEq -> ZH, reduceLT -> ZI, reduceLeDiff -> ZJ, reduceMul -> ZK
open Rs Fm Ru Te Kb
theorem aVz {σ:St} {g:FuncId} {caps:List D} {f:ChA->Bool} {c:List (ChA)} (hl:c.length<=2000000) (h:∀ x ∈ c,xX Tryz.prog g ([.agg x.row]++caps) σ (.bool (f x)) σ):xX Tryz.prog 136 [.sl 3 (chR c),.fn g caps] σ (.int .i64 (ixF f c 0)) σ:=by
 refine xX.go_fn mixed Tryz.func136 bYj (by simp) fun hf=>?_;simp only [ZA,ZB,ZC,ZD,ZE,↓reduceIte,ZF,ZG,ZH,ZI,ZJ,reduceCtorEq,ZK,↓zU,↓zD,zV,zT,zW,wS]
 refine xV (fun k:Nat=>[(8,.int .i64 k),(7,.int .i64 c.length),(1,.fn g caps),(0,.sl 3 (chR c))]) (fun _=>σ) (fun k=>k<=c.length/\ixF f c 0=ixF f (c.drop k) k) (fun k=>c.length-k) 0 ⟨Nat.zero_le _,rfl⟩ ?_ ?_
 ·(refine xM.same ?_; simp [xS,Fr.get])
 intro k ⟨hk,hi⟩;refine xQ mixed ?_
 by_cases hh:k<c.length
 ·have hd:((k:Int)<(c.length:Int)):=by omega
  have hg:=eE c hh;unfold ChA.row at hg;have hcall:=h _ (xN (d:=ch0) hh);unfold ChA.row at hcall;rw [drop_cons (d:=ch0) hh,ixF] at hi;simp only [ZA,ZB,ZC,ZD,ZE,↓reduceIte,ZF,ZG,ZH,ZI,ZJ,reduceCtorEq,ZK,↓zU,↓zD,zV,zT,zW,hd,wS,hg]
  (repeat refine sd ?_)
  refine .go hcall ?_
  cases hx:f (c.getD k ch0)
  ·rw [hx,if_neg (by simp)] at hi;simp only [ZA,ZB,ZC,ZD,ZE,↓reduceIte,ZF,ZG,ZH,ZI,ZJ,reduceCtorEq,ZK,↓zU,↓zD,zV,zT,zW];refine⟨k+1,⟨by omega,hi⟩,?_,by omega⟩
   (refine xM.same ?_; simp only [xS,Fr.get,↓reduceIte,reduceIte,Nat.reduceEqDiff,reduceCtorEq,D.int.injEq,D.bool.injEq,D.sl.injEq,and_true,true_and,and_self])
   exact wrap_i64 (by omega)
  ·rw [hx,if_pos rfl] at hi;simp only [ZA,ZB,ZC,ZD,ZE,↓reduceIte,ZF,ZG,ZH,ZI,ZJ,reduceCtorEq,ZK,↓zU,↓zD,zV,zT,zW];rw [hi];exact .same
 ·have hd:¬ ((k:Int)<(c.length:Int)):=by omega
  rw [List.drop_eq_nil_of_le (by omega),ixF] at hi;simp only [ZA,ZB,ZC,ZD,ZE,↓reduceIte,ZF,ZG,ZH,ZI,ZJ,reduceCtorEq,ZK,↓zU,↓zD,zV,zT,zW,hd];rw [hi];exact .same
theorem aZ8 {σ:St} {g:FuncId} {caps:List D} {f:ChA->Bool} {c:List (ChA)} (hl:c.length<=2000000) (h:∀ x ∈ c,xX Tryz.prog g ([.agg x.row]++caps) σ (.bool (f x)) σ):xX Tryz.prog 195 [.sl 3 (chR c),.fn g caps] σ (.bool (c.any f)) σ:=by
 refine xX.go_fn mixed Tryz.func195 bXw (by simp) fun hf=>?_;simp only [ZA,ZB,ZC,ZD,ZE,↓reduceIte,ZF,ZG,ZH,ZI,ZJ,reduceCtorEq,ZK,↓zU,↓zD,zV,zT,zW];refine .go (aVz hl h) ?_;have hx:=mK (f:=f) (c:=c) (i:=0) (Int.le_refl 0)
 cases ha:c.any f
 ·have h1:¬ 0<=ixF f c 0:=fun y=>by rw [hx.1 y] at ha; cases ha
  simp only [ZA,ZB,ZC,ZD,ZE,↓reduceIte,ZF,ZG,ZH,ZI,ZJ,reduceCtorEq,ZK,↓zU,↓zD,zV,zT,zW,h1];exact .same
 ·have h1:=hx.2 ha;simp only [ZA,ZB,ZC,ZD,ZE,↓reduceIte,ZF,ZG,ZH,ZI,ZJ,reduceCtorEq,ZK,↓zU,↓zD,zV,zT,zW,h1];exact .same
namespace Kb
def aRa (p:PrA) (c:ChA):Bool:=decide (c.ag<0) || decide ((p.see.length:Int)<=c.ag) || decide (c.seen.length=0) || decide (c.mv < -1) || decide ((p.moves.length:Int)<=c.mv)
def aC0 (p:PrA) (c:ChA):Bool:=c.seen.any fun s=>!decide (s &&& ~~~(p.see.getD c.ag.toNat 0)= 0#64)
def lH (ag:Int) (h:List (BitVec 64)) (d:ChA):Bool:=decide (d.ag=ag)&& decide (d.seen=h)
def chE (p:PrA) (l:List ChA) (i:Nat):Int:=if aRa p (l.getD i ch0)= true then 3 else if aC0 p (l.getD i ch0)= true then 3 else if (l.take i).any (lH (l.getD i ch0).ag (l.getD i ch0).seen)= true then 7 else 0
def zQ (p:PrA) (l:List ChA):Int:=wV (chE p l) (List.range l.length)
structure bM (l : List ChA) : Prop where
 len:l.length<=2000000
 seen:∀ c ∈ l,c.seen.length<=1000
theorem aSi {f:Nat->Int} {n k:Nat} (h:k<=n) (hz:∀ i,i<k->f i=0):k<n->f k≠0->wV f (List.range n)= f k:=by
 intro hk hf
 have key:∀ (m s:Nat),s<=k->k<s+m->(∀ i,s<=i->i<k->f i=0)->wV f (List.range' s m)= f k:=by
  intro m
  induction m with
  | zero=>intro s h1 h2; omega
  | succ m ih=>
   intro s h1 h2 h3;rw [List.range'_succ];unfold wV
   by_cases e:s=k
   ·subst e; rw [if_pos hf]
   ·rw [if_neg (by simpa using h3 s (Nat.le_refl _) (by omega))];exact ih (s+1) (by omega) (by omega) fun i hi hi2=>h3 i (by omega) hi2
 rw [List.range_eq_range'];exact key n 0 (Nat.zero_le _) (by omega) fun i _ hi=>hz i hi
theorem aO1 {f:Nat->Int} {n:Nat} (hz:∀ i,i<n->f i=0):wV f (List.range n)= 0:=tV.2 fun i hi=>hz i (List.mem_range.1 hi)
theorem aPd {a b:List (BitVec 64)}:a.map ui=b.map ui ↔ a=b:=⟨fun h=>(List.map_inj_right fun x y=>aRq.1).1 h,fun h=>by rw [h]⟩
end Kb
theorem aUa (a b:List (BitVec 64)):yX Tryz.prog 74 [.sl 1 (us a),.sl 1 (us b)] (.bool (decide (a=b))):=by
 have h:=aQq (a:=a) (b:=b)
 rwa [show decide (a.map ui=b.map ui)= decide (a=b) by rw [Bool.eq_iff_iff,decide_eq_true_eq,decide_eq_true_eq,aPd]] at h
theorem aDs {p:PrA} {c:ChA} {nx k:Nat} {objs:List (Nat × Ob)} (h0:St.look objs 0=some ⟨5,[p.cells]⟩) (h1:St.look objs k=some ⟨3,[c.row]⟩) (hc:0<=c.ag/\c.ag<p.see.length) (s:BitVec 64) :
  xX Tryz.prog 194 ([.int .u64 (ui s)] ++ [.ref 0 5 0 0,.ref k 3 0 0]) ⟨nx,objs⟩ (.bool (!decide (s &&& ~~~(p.see.getD c.ag.toNat 0)= 0#64))) ⟨nx,objs⟩:=by
 unfold PrA.cells at h0;unfold ChA.row at h1;have hg:=zI p.see (show c.ag.toNat<p.see.length by omega);generalize p.see.getD c.ag.toNat 0=m at hg ⊢;have hlt:(c.ag<(p.see.length:Int)):=hc.2;refine xX.go_fn mixed Tryz.func194 bXx (by simp) fun hf=>?_;simp only [ZA,ZB,ZC,ZD,ZE,↓reduceIte,ZF,ZG,ZH,ZI,ZJ,reduceCtorEq,ZK,↓zU,↓zD,zV,zT,zW,h0,h1,xR,hlt,hg]
 (repeat refine sd ?_)
 by_cases hx:s &&& ~~~m=0#64
 ·have ex:(s &&& ~~~m != 0#64)= false:=by simpa using hx
  rw [decide_eq_true hx];simp only [ZA,ZB,ZC,ZD,ZE,↓reduceIte,ZF,ZG,ZH,ZI,ZJ,reduceCtorEq,ZK,↓zU,↓zD,zV,zT,zW,ex]
  (repeat refine sd ?_)
  exact .same
 ·have ex:(s &&& ~~~m != 0#64)= true:=by simpa using hx
  rw [decide_eq_false hx];simp only [ZA,ZB,ZC,ZD,ZE,↓reduceIte,ZF,ZG,ZH,ZI,ZJ,reduceCtorEq,ZK,↓zU,↓zD,zV,zT,zW,ex]
  (repeat refine sd ?_)
  exact .same
theorem aHm {c:ChA} {nx k:Nat} {objs:List (Nat × Ob)} (h1:St.look objs k=some ⟨3,[c.row]⟩) (d:ChA) :
  xX Tryz.prog 196 ([.agg d.row] ++ [.ref k 3 0 0]) ⟨nx,objs⟩ (.bool (lH c.ag c.seen d)) ⟨nx,objs⟩:=by
 refine xX.unders ⟨_,Tryz.func196,by kernel_rfl,by kernel_rfl⟩ fun hu=>xX.clean ?_;have hk:=(hu k _ h1).1;simp only at hk;have y1:¬ nx=k:=by omega
 have he:=aUa d.seen c.seen;unfold ChA.row at h1 ⊢;unfold lH;refine xX.go_fn mixed Tryz.func196 bXv (by simp) fun hf=>?_
 by_cases ha:d.ag=c.ag
 ·have ha':(d.ag==c.ag)= true:=by simpa using ha
  rw [decide_eq_true ha,Bool.true_and];simp only [ZA,ZB,ZC,ZD,ZE,↓reduceIte,ZF,ZG,ZH,ZI,ZJ,reduceCtorEq,ZK,↓zU,↓zD,zV,zT,zW,h1,y1,ha']
  (repeat refine sd ?_)
  refine .go (cr he) ?_;simp only [ZA,ZB,ZC,ZD,ZE,↓reduceIte,ZF,ZG,ZH,ZI,ZJ,reduceCtorEq,ZK,↓zU,↓zD,zV,zT,zW];exact .gone hu (aN7 hu _ _) (by simp only [vw])
 ·have ha':(d.ag==c.ag)= false:=by simpa using ha
  rw [decide_eq_false ha,Bool.false_and];simp only [ZA,ZB,ZC,ZD,ZE,↓reduceIte,ZF,ZG,ZH,ZI,ZJ,reduceCtorEq,ZK,↓zU,↓zD,zV,zT,zW,h1,y1,ha']
  (repeat refine sd ?_)
  exact .gone hu (aN7 hu _ _) (by simp only [vw])
theorem aO8 {a:Int} {h:List (BitVec 64)} {nx k k2:Nat} {objs:List (Nat × Ob)} (h1:St.look objs k=some ⟨1,[[.int .i64 a]]⟩) (h2:St.look objs k2=some ⟨1,[[.sl 1 (us h)]]⟩) (d:ChA) :
  xX Tryz.prog 137 ([.agg d.row] ++ [.ref k 1 0 0,.ref k2 1 0 0]) ⟨nx,objs⟩ (.bool (lH a h d)) ⟨nx,objs⟩:=by
 refine xX.unders ⟨_,Tryz.func137,by kernel_rfl,by kernel_rfl⟩ fun hu=>xX.clean ?_;have hk:=(hu k _ h1).1;have hk2:=(hu k2 _ h2).1;simp only at hk hk2;have y1:¬ nx=k:=by omega
 have y2:¬ nx=k2:=by omega
 have he:=aUa d.seen h;unfold ChA.row;unfold lH;refine xX.go_fn mixed Tryz.func137 bYi (by simp) fun hf=>?_
 by_cases ha:d.ag=a
 ·have ha':(d.ag==a)= true:=by simpa using ha
  rw [decide_eq_true ha,Bool.true_and];simp only [ZA,ZB,ZC,ZD,ZE,↓reduceIte,ZF,ZG,ZH,ZI,ZJ,reduceCtorEq,ZK,↓zU,↓zD,zV,zT,zW,h1,h2,y1,y2,ha']
  (repeat refine sd ?_)
  refine .go (cr he) ?_;simp only [ZA,ZB,ZC,ZD,ZE,↓reduceIte,ZF,ZG,ZH,ZI,ZJ,reduceCtorEq,ZK,↓zU,↓zD,zV,zT,zW];exact .gone hu (aN7 hu _ _) (by simp only [vw])
 ·have ha':(d.ag==a)= false:=by simpa using ha
  rw [decide_eq_false ha,Bool.false_and];simp only [ZA,ZB,ZC,ZD,ZE,↓reduceIte,ZF,ZG,ZH,ZI,ZJ,reduceCtorEq,ZK,↓zU,↓zD,zV,zT,zW,h1,h2,y1,y2,ha']
  (repeat refine sd ?_)
  exact .gone hu (aN7 hu _ _) (by simp only [vw])
theorem aSq (p:PrA) (l:List ChA) (sm:bM l):yX Tryz.prog 134 [p.d,.sl 3 (chR l)] (.int .i64 (zQ p l)):=by
 have hD:p.d = .agg [.int .i64 p.F,.sl 1 (us p.init),.sl 1 (us p.see),.sl 1 (mvR p.moves),.sl 1 (cdR p.code)]:=rfl;have hll:=sm.len;rw [hD];refine xX.go_fn mixed Tryz.func134 bYk (by simp) fun hf=>?_;simp only [ZA,ZB,ZC,ZD,ZE,↓reduceIte,ZF,ZG,ZH,ZI,ZJ,reduceCtorEq,ZK,↓zU,↓zD,zV,zT,zW,wS]
 (repeat refine sd ?_)
 refine xV (fun i:Nat=>[(9,.int .i64 i),(8,.int .i64 l.length),(7,.sl 3 (chR l)),(2,.ref 0 5 0 0),(1,.sl 3 (chR l))]) (fun _=>⟨1,[(0,⟨5,[p.cells]⟩)]⟩)
  (fun i=>i<=l.length/\∀ j,j<i->chE p l j=0) (fun i=>l.length-i) 0 ⟨Nat.zero_le _,fun j hj=>absurd hj (Nat.not_lt_zero _)⟩ ?_ ?_
 ·unfold PrA.cells; (refine xM.same ?_; simp [xS,Fr.get])
 intro i ⟨hi,hz⟩;refine xQ mixed ?_;by_cases hil:i<l.length
 case neg=>
  have hd:¬ ((i:Int)<(l.length:Int)):=by omega
  rw [show zQ p l=0 from aO1 fun j hj=>hz j (by omega)];unfold PrA.cells;simp only [ZA,ZB,ZC,ZD,ZE,↓reduceIte,ZF,ZG,ZH,ZI,ZJ,reduceCtorEq,ZK,↓zU,↓zD,zV,zT,zW,hd];exact .drop (by simp) (by simp [vw])
 have hd:((i:Int)<(l.length:Int)):=by omega
 have hg:=eE l hil;have hend:∀ e,chE p l i=e->e≠0->zQ p l=e:=fun e h1 h2=>by rw [<- h1]; exact aSi hi hz hil (by rw [h1]; exact h2)
 have hE:chE p l i=if aRa p (l.getD i ch0)= true then 3 else if aC0 p (l.getD i ch0)= true then 3 else if (l.take i).any (lH (l.getD i ch0).ag (l.getD i ch0).seen)= true then 7 else 0:=rfl;have hsm:=sm.seen _ (xN (d:=ch0) hil);generalize l.getD i ch0=c at hg hE hsm;unfold ChA.row at hg;unfold PrA.cells;have bad:aRa p c=true->zQ p l=3:=fun h=>hend 3 (by rw [hE,if_pos h]) (by decide)
 by_cases c1:c.ag<0
 ·rw [bad (by unfold aRa; simp [c1])];simp only [ZA,ZB,ZC,ZD,ZE,↓reduceIte,ZF,ZG,ZH,ZI,ZJ,reduceCtorEq,ZK,↓zU,↓zD,zV,zT,zW,hd,wS,hg,c1]
  (repeat refine sd ?_)
  exact .drop (by simp) (by simp [vw])
 by_cases c2:(p.see.length:Int)<=c.ag
 ·rw [bad (by unfold aRa; simp [c2])];simp only [ZA,ZB,ZC,ZD,ZE,↓reduceIte,ZF,ZG,ZH,ZI,ZJ,reduceCtorEq,ZK,↓zU,↓zD,zV,zT,zW,hd,wS,hg,c1,xR,c2]
  (repeat refine sd ?_)
  exact .drop (by simp) (by simp [vw])
 by_cases c3:c.seen.length=0
 ·have c3':((c.seen.length:Int)== 0)= true:=by rw [c3]; rfl
  rw [bad (by unfold aRa; simp [c3])];simp only [ZA,ZB,ZC,ZD,ZE,↓reduceIte,ZF,ZG,ZH,ZI,ZJ,reduceCtorEq,ZK,↓zU,↓zD,zV,zT,zW,hd,wS,hg,c1,xR,c2,c3']
  (repeat refine sd ?_)
  exact .drop (by simp) (by simp [vw])
 have c3':((c.seen.length:Int)== 0)= false:=by rw [beq_eq_false_iff_ne]; omega
 by_cases c4:c.mv < -1
 ·rw [bad (by unfold aRa; simp [c4])];simp only [ZA,ZB,ZC,ZD,ZE,↓reduceIte,ZF,ZG,ZH,ZI,ZJ,reduceCtorEq,ZK,↓zU,↓zD,zV,zT,zW,hd,wS,hg,c1,xR,c2,c3',c4]
  (repeat refine sd ?_)
  exact .drop (by simp) (by simp [vw])
 by_cases c5:(p.moves.length:Int)<=c.mv
 ·rw [bad (by unfold aRa; simp [c5])];simp only [ZA,ZB,ZC,ZD,ZE,↓reduceIte,ZF,ZG,ZH,ZI,ZJ,reduceCtorEq,ZK,↓zU,↓zD,zV,zT,zW,hd,wS,hg,c1,xR,c2,c3',c4,xA,c5]
  (repeat refine sd ?_)
  exact .drop (by simp) (by simp [vw])
 have hb:aRa p c=false:=by unfold aRa; simp [c1,c2,c3,c4,c5]
 rw [hb,if_neg (by simp)] at hE;have hstr:=lZ (σ:=⟨2,[(1,⟨3,[c.row]⟩),(0,⟨5,[p.cells]⟩)]⟩) (g:=194) (caps:=[.ref 0 5 0 0,.ref 1 3 0 0]) (c:=c.seen) (f:=fun s=>!decide (s &&& ~~~(p.see.getD c.ag.toNat 0)= 0#64)) hsm fun s _=>aDs rfl rfl ⟨by omega,by omega⟩ s;have hsame:=aZ8 (σ:=⟨2,[(1,⟨3,[c.row]⟩),(0,⟨5,[p.cells]⟩)]⟩) (g:=196) (caps:=[.ref 1 3 0 0]) (c:=l.take i) (f:=lH c.ag c.seen) (by rw [List.length_take]; omega) fun d _=>aHm rfl d;have hct:chR (l.take i)= (chR l).take i:=by simp [chR,List.map_take]
 rw [hct] at hsame;unfold PrA.cells at hstr hsame;unfold ChA.row at hstr hsame;have hsE:(c.seen.any fun s=>!decide (s &&& ~~~(p.see.getD c.ag.toNat 0)= 0#64))= aC0 p c:=rfl;rw [hsE] at hstr;simp only [ZA,ZB,ZC,ZD,ZE,↓reduceIte,ZF,ZG,ZH,ZI,ZJ,reduceCtorEq,ZK,↓zU,↓zD,zV,zT,zW,hd,wS,hg,c1,xR,c2,c3',c4,xA,c5]
 (repeat refine sd ?_)
 refine .go hstr ?_
 cases hs:aC0 p c with
 | true=>
  rw [hs,if_pos rfl] at hE;rw [hend 3 hE (by decide)];simp only [ZA,ZB,ZC,ZD,ZE,↓reduceIte,ZF,ZG,ZH,ZI,ZJ,reduceCtorEq,ZK,↓zU,↓zD,zV,zT,zW];exact .drop (by simp) (by simp [vw])
 | false=>
  rw [hs,if_neg (by simp)] at hE;simp only [ZA,ZB,ZC,ZD,ZE,↓reduceIte,ZF,ZG,ZH,ZI,ZJ,reduceCtorEq,ZK,↓zU,↓zD,zV,zT,zW];refine⟨0,(i:Int),rfl,rfl,by omega,by omega,by rw [wS]; omega,?_⟩;simp only [Int.toNat_natCast,Int.toNat_zero,List.drop_zero];refine .go hsame ?_
  cases hm:(l.take i).any (lH c.ag c.seen) with
  | true=>
   rw [hm,if_pos rfl] at hE;rw [hend 7 hE (by decide)];simp only [ZA,ZB,ZC,ZD,ZE,↓reduceIte,ZF,ZG,ZH,ZI,ZJ,reduceCtorEq,ZK,↓zU,↓zD,zV,zT,zW];exact .drop (by simp) (by simp [vw])
  | false=>
   rw [hm,if_neg (by simp)] at hE;simp only [ZA,ZB,ZC,ZD,ZE,↓reduceIte,ZF,ZG,ZH,ZI,ZJ,reduceCtorEq,ZK,↓zU,↓zD,zV,zT,zW]
   refine⟨i+1,⟨by omega,fun j hj=>?_⟩,?_,by omega⟩
   ·by_cases e:j=i
    ·rw [e]; exact hE
    ·exact hz j (by omega)
   (refine xM.ren [] [0] (by simp) (by simp) (by decide) ?_; simp only [yP,vwL,vw,vwF,sw,St.get,St.look,Fr.get,↓reduceIte,reduceIte,Nat.reduceEqDiff,Nat.reduceAdd,Nat.reduceBEq,Nat.reduceLT,Nat.reduceLeDiff,exists_eq_left',ne_eq,reduceCtorEq,zR])
   exact wQ (by omega)
end Go.Pd
