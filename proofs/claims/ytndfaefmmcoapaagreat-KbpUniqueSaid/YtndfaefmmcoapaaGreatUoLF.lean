/- Part LF. -/
import Derived.Test.YtndfaefmmcoapaaGreatUoXE
set_option linter.unusedSectionVars false
set_option linter.unusedVariables false
set_option linter.unusedSimpArgs false
set_option linter.defProp false
set_option maxRecDepth 20000
set_option maxHeartbeats 1000000
namespace Go.Pd
open Go Go.Proofs
open BitVec renaming isValue -> ZA
open Rs Fm Ru Te Kb
theorem aT9 {σ:St} {g:FuncId} {caps:List D} {f:ChA->Bool} {c:List (ChA)} (hl:c.length<=2000000) (h:∀ x ∈ c,xX Tryz.prog g ([.agg x.row]++caps) σ (.bool (f x)) σ):xX Tryz.prog 136 [.sl 3 (chR c),.fn g caps] σ (.int .i64 (ixF f c 0)) σ:=by
 refine xX.xR mixed Tryz.func136 bVv (by simp) fun hf=>?_;simp only [simprocAttr,-ZA,↓zU,↓zD,zV,zT,zW,zJ]
 refine xW (fun k:Nat=>[(8,.int .i64 k),(7,.int .i64 c.length),(1,.fn g caps),(0,.sl 3 (chR c))]) (fun _=>σ) (fun k=>k<=c.length/\ixF f c 0=ixF f (c.drop k) k) (fun k=>c.length-k) 0 ⟨Nat.zero_le _,rfl⟩ ?_ ?_
 ·(refine xI.same ?_; simp [xP,Fr.get])
 intro k ⟨hk,hi⟩;refine xN mixed ?_
 by_cases hh:k<c.length
 ·have hd:((k:Int)<(c.length:Int)):=by omega
  have hg:=kJ c hh;unfold ChA.row at hg;have hcall:=h _ (xK (d:=ch0) hh);unfold ChA.row at hcall;rw [drop_cons (d:=ch0) hh,ixF] at hi;simp only [simprocAttr,-ZA,↓zU,↓zD,zV,zT,zW,hd,zJ,hg]
  (repeat refine sd ?_)
  refine .go hcall ?_
  cases hx:f (c.getD k ch0)
  ·rw [hx,if_neg (by simp)] at hi;simp only [simprocAttr,-ZA,↓zU,↓zD,zV,zT,zW];refine⟨k+1,⟨by omega,hi⟩,?_,by omega⟩
   (refine xI.same ?_; simp only [xP,Fr.get,↓reduceIte,reduceIte,Nat.reduceEqDiff,reduceCtorEq,D.int.injEq,D.bool.injEq,D.sl.injEq,and_true,true_and,and_self])
   exact wrap_i64 (by omega)
  ·rw [hx,if_pos rfl] at hi;simp only [simprocAttr,-ZA,↓zU,↓zD,zV,zT,zW];rw [hi];exact .same
 ·have hd:¬ ((k:Int)<(c.length:Int)):=by omega
  rw [List.drop_eq_nil_of_le (by omega),ixF] at hi;simp only [simprocAttr,-ZA,↓zU,↓zD,zV,zT,zW,hd];rw [hi];exact .same
theorem aV9 {σ:St} {g:FuncId} {caps:List D} {f:ChA->Bool} {c:List (ChA)} (hl:c.length<=2000000) (h:∀ x ∈ c,xX Tryz.prog g ([.agg x.row]++caps) σ (.bool (f x)) σ):xX Tryz.prog 195 [.sl 3 (chR c),.fn g caps] σ (.bool (c.any f)) σ:=by
 refine xX.xR mixed Tryz.func195 bW8 (by simp) fun hf=>?_;simp only [simprocAttr,-ZA,↓zU,↓zD,zV,zT,zW];refine .go (aT9 hl h) ?_;have hx:=nO (f:=f) (c:=c) (i:=0) (Int.le_refl 0)
 cases ha:c.any f
 ·have h1:¬ 0<=ixF f c 0:=fun y=>by rw [hx.1 y] at ha; cases ha
  simp only [simprocAttr,-ZA,↓zU,↓zD,zV,zT,zW,h1];exact .same
 ·have h1:=hx.2 ha;simp only [simprocAttr,-ZA,↓zU,↓zD,zV,zT,zW,h1];exact .same
namespace Kb
def aRa (p:PrA) (c:ChA):Bool:=decide (c.ag<0) || decide ((p.see.length:Int)<=c.ag) || decide (c.seen.length=0) || decide (c.mv < -1) || decide ((p.xM.length:Int)<=c.mv)
def aBl (p:PrA) (c:ChA):Bool:=c.seen.any fun s=>!decide (s &&& ~~~(p.see.getD c.ag.toNat 0)= 0#64)
def tI (ag:Int) (h:List (BitVec 64)) (d:ChA):Bool:=decide (d.ag=ag)&& decide (d.seen=h)
def chE (p:PrA) (l:List ChA) (i:Nat):Int:=if aRa p (l.getD i ch0)= true then 3 else if aBl p (l.getD i ch0)= true then 3 else if (l.take i).any (tI (l.getD i ch0).ag (l.getD i ch0).seen)= true then 7 else 0
def yA (p:PrA) (l:List ChA):Int:=wF (chE p l) (List.range l.length)
structure gX (l : List ChA) : Prop where
 len:l.length<=2000000
 seen:∀ c ∈ l,c.seen.length<=1000
theorem aQz {f:Nat->Int} {n k:Nat} (h:k<=n) (hz:∀ i,i<k->f i=0):k<n->f k≠0->wF f (List.range n)= f k:=by
 intro hk hf
 have key:∀ (m s:Nat),s<=k->k<s+m->(∀ i,s<=i->i<k->f i=0)->wF f (List.range' s m)= f k:=by
  intro m
  induction m with
  | zero=>intro s h1 h2; omega
  | succ m ih=>
   intro s h1 h2 h3;rw [List.range'_succ];unfold wF
   by_cases e:s=k
   ·subst e; rw [if_pos hf]
   ·rw [if_neg (by simpa using h3 s (Nat.le_refl _) (by omega))];exact ih (s+1) (by omega) (by omega) fun i hi hi2=>h3 i (by omega) hi2
 rw [List.range_eq_range'];exact key n 0 (Nat.zero_le _) (by omega) fun i _ hi=>hz i hi
theorem aLq {f:Nat->Int} {n:Nat} (hz:∀ i,i<n->f i=0):wF f (List.range n)= 0:=uS.2 fun i hi=>hz i (List.mem_range.1 hi)
theorem aN1 {a b:List (BitVec 64)}:a.map ui=b.map ui ↔ a=b:=⟨fun h=>(List.map_inj_right fun x y=>aUs.1).1 h,fun h=>by rw [h]⟩
end Kb
theorem aSo (a b:List (BitVec 64)):yT Tryz.prog 74 [.sl 1 (us a),.sl 1 (us b)] (.bool (decide (a=b))):=by
 have h:=aNc (a:=a) (b:=b)
 rwa [show decide (a.map ui=b.map ui)= decide (a=b) by rw [Bool.eq_iff_iff,decide_eq_true_eq,decide_eq_true_eq,aN1]] at h
theorem aAr {p:PrA} {c:ChA} {nx k:Nat} {xS:List (Nat × Ob)} (h0:St.look xS 0=some ⟨5,[p.cells]⟩) (h1:St.look xS k=some ⟨3,[c.row]⟩) (hc:0<=c.ag/\c.ag<p.see.length) (s:BitVec 64) :
  xX Tryz.prog 194 ([.int .u64 (ui s)] ++ [.ref 0 5 0 0,.ref k 3 0 0]) ⟨nx,xS⟩ (.bool (!decide (s &&& ~~~(p.see.getD c.ag.toNat 0)= 0#64))) ⟨nx,xS⟩:=by
 unfold PrA.cells at h0;unfold ChA.row at h1;have hg:=wS p.see (show c.ag.toNat<p.see.length by omega);generalize p.see.getD c.ag.toNat 0=m at hg ⊢;have hlt:(c.ag<(p.see.length:Int)):=hc.2;refine xX.xR mixed Tryz.func194 bW9 (by simp) fun hf=>?_;simp only [simprocAttr,-ZA,↓zU,↓zD,zV,zT,zW,h0,h1,xQ,hlt,hg]
 (repeat refine sd ?_)
 by_cases hx:s &&& ~~~m=0#64
 ·have ex:(s &&& ~~~m != 0#64)= false:=by simpa using hx
  rw [decide_eq_true hx];simp only [simprocAttr,-ZA,↓zU,↓zD,zV,zT,zW,ex]
  (repeat refine sd ?_)
  exact .same
 ·have ex:(s &&& ~~~m != 0#64)= true:=by simpa using hx
  rw [decide_eq_false hx];simp only [simprocAttr,-ZA,↓zU,↓zD,zV,zT,zW,ex]
  (repeat refine sd ?_)
  exact .same
theorem aEi {c:ChA} {nx k:Nat} {xS:List (Nat × Ob)} (h1:St.look xS k=some ⟨3,[c.row]⟩) (d:ChA) :
  xX Tryz.prog 196 ([.agg d.row] ++ [.ref k 3 0 0]) ⟨nx,xS⟩ (.bool (tI c.ag c.seen d)) ⟨nx,xS⟩:=by
 refine xX.aOb ⟨_,Tryz.func196,by kernel_rfl,by kernel_rfl⟩ fun hu=>xX.clean ?_;have hk:=(hu k _ h1).1;simp only at hk;have y1:¬ nx=k:=by omega
 have he:=aSo d.seen c.seen;unfold ChA.row at h1 ⊢;unfold tI;refine xX.xR mixed Tryz.func196 bW7 (by simp) fun hf=>?_
 by_cases ha:d.ag=c.ag
 ·have ha':(d.ag==c.ag)= true:=by simpa using ha
  rw [decide_eq_true ha,Bool.true_and];simp only [simprocAttr,-ZA,↓zU,↓zD,zV,zT,zW,h1,y1,ha']
  (repeat refine sd ?_)
  refine .go (cr he) ?_;simp only [simprocAttr,-ZA,↓zU,↓zD,zV,zT,zW];exact .gone hu (aKv hu _ _) (by simp only [vw])
 ·have ha':(d.ag==c.ag)= false:=by simpa using ha
  rw [decide_eq_false ha,Bool.false_and];simp only [simprocAttr,-ZA,↓zU,↓zD,zV,zT,zW,h1,y1,ha']
  (repeat refine sd ?_)
  exact .gone hu (aKv hu _ _) (by simp only [vw])
theorem aLx {a:Int} {h:List (BitVec 64)} {nx k k2:Nat} {xS:List (Nat × Ob)} (h1:St.look xS k=some ⟨1,[[.int .i64 a]]⟩) (h2:St.look xS k2=some ⟨1,[[.sl 1 (us h)]]⟩) (d:ChA) :
  xX Tryz.prog 137 ([.agg d.row] ++ [.ref k 1 0 0,.ref k2 1 0 0]) ⟨nx,xS⟩ (.bool (tI a h d)) ⟨nx,xS⟩:=by
 refine xX.aOb ⟨_,Tryz.func137,by kernel_rfl,by kernel_rfl⟩ fun hu=>xX.clean ?_;have hk:=(hu k _ h1).1;have hk2:=(hu k2 _ h2).1;simp only at hk hk2;have y1:¬ nx=k:=by omega
 have y2:¬ nx=k2:=by omega
 have he:=aSo d.seen h;unfold ChA.row;unfold tI;refine xX.xR mixed Tryz.func137 bVu (by simp) fun hf=>?_
 by_cases ha:d.ag=a
 ·have ha':(d.ag==a)= true:=by simpa using ha
  rw [decide_eq_true ha,Bool.true_and];simp only [simprocAttr,-ZA,↓zU,↓zD,zV,zT,zW,h1,h2,y1,y2,ha']
  (repeat refine sd ?_)
  refine .go (cr he) ?_;simp only [simprocAttr,-ZA,↓zU,↓zD,zV,zT,zW];exact .gone hu (aKv hu _ _) (by simp only [vw])
 ·have ha':(d.ag==a)= false:=by simpa using ha
  rw [decide_eq_false ha,Bool.false_and];simp only [simprocAttr,-ZA,↓zU,↓zD,zV,zT,zW,h1,h2,y1,y2,ha']
  (repeat refine sd ?_)
  exact .gone hu (aKv hu _ _) (by simp only [vw])
theorem aQ7 (p:PrA) (l:List ChA) (sm:gX l):yT Tryz.prog 134 [p.d,.sl 3 (chR l)] (.int .i64 (yA p l)):=by
 have hD:p.d = .agg [.int .i64 p.F,.sl 1 (us p.init),.sl 1 (us p.see),.sl 1 (mvR p.xM),.sl 1 (cdR p.code)]:=rfl;have hll:=sm.len;rw [hD];refine xX.xR mixed Tryz.func134 bVw (by simp) fun hf=>?_;simp only [simprocAttr,-ZA,↓zU,↓zD,zV,zT,zW,zJ]
 (repeat refine sd ?_)
 refine xW (fun i:Nat=>[(9,.int .i64 i),(8,.int .i64 l.length),(7,.sl 3 (chR l)),(2,.ref 0 5 0 0),(1,.sl 3 (chR l))]) (fun _=>⟨1,[(0,⟨5,[p.cells]⟩)]⟩)
  (fun i=>i<=l.length/\∀ j,j<i->chE p l j=0) (fun i=>l.length-i) 0 ⟨Nat.zero_le _,fun j hj=>absurd hj (Nat.not_lt_zero _)⟩ ?_ ?_
 ·unfold PrA.cells; (refine xI.same ?_; simp [xP,Fr.get])
 intro i ⟨hi,hz⟩;refine xN mixed ?_;by_cases hil:i<l.length
 case neg=>
  have hd:¬ ((i:Int)<(l.length:Int)):=by omega
  rw [show yA p l=0 from aLq fun j hj=>hz j (by omega)];unfold PrA.cells;simp only [simprocAttr,-ZA,↓zU,↓zD,zV,zT,zW,hd];exact .drop (by simp) (by simp [vw])
 have hd:((i:Int)<(l.length:Int)):=by omega
 have hg:=kJ l hil;have hend:∀ e,chE p l i=e->e≠0->yA p l=e:=fun e h1 h2=>by rw [<- h1]; exact aQz hi hz hil (by rw [h1]; exact h2)
 have hE:chE p l i=if aRa p (l.getD i ch0)= true then 3 else if aBl p (l.getD i ch0)= true then 3 else if (l.take i).any (tI (l.getD i ch0).ag (l.getD i ch0).seen)= true then 7 else 0:=rfl;have hsm:=sm.seen _ (xK (d:=ch0) hil);generalize l.getD i ch0=c at hg hE hsm;unfold ChA.row at hg;unfold PrA.cells;have bad:aRa p c=true->yA p l=3:=fun h=>hend 3 (by rw [hE,if_pos h]) (by decide)
 by_cases c1:c.ag<0
 ·rw [bad (by unfold aRa; simp [c1])];simp only [simprocAttr,-ZA,↓zU,↓zD,zV,zT,zW,hd,zJ,hg,c1]
  (repeat refine sd ?_)
  exact .drop (by simp) (by simp [vw])
 by_cases c2:(p.see.length:Int)<=c.ag
 ·rw [bad (by unfold aRa; simp [c2])];simp only [simprocAttr,-ZA,↓zU,↓zD,zV,zT,zW,hd,zJ,hg,c1,xQ,c2]
  (repeat refine sd ?_)
  exact .drop (by simp) (by simp [vw])
 by_cases c3:c.seen.length=0
 ·have c3':((c.seen.length:Int)== 0)= true:=by rw [c3]; rfl
  rw [bad (by unfold aRa; simp [c3])];simp only [simprocAttr,-ZA,↓zU,↓zD,zV,zT,zW,hd,zJ,hg,c1,xQ,c2,c3']
  (repeat refine sd ?_)
  exact .drop (by simp) (by simp [vw])
 have c3':((c.seen.length:Int)== 0)= false:=by rw [beq_eq_false_iff_ne]; omega
 by_cases c4:c.mv < -1
 ·rw [bad (by unfold aRa; simp [c4])];simp only [simprocAttr,-ZA,↓zU,↓zD,zV,zT,zW,hd,zJ,hg,c1,xQ,c2,c3',c4]
  (repeat refine sd ?_)
  exact .drop (by simp) (by simp [vw])
 by_cases c5:(p.xM.length:Int)<=c.mv
 ·rw [bad (by unfold aRa; simp [c5])];simp only [simprocAttr,-ZA,↓zU,↓zD,zV,zT,zW,hd,zJ,hg,c1,xQ,c2,c3',c4,yU,c5]
  (repeat refine sd ?_)
  exact .drop (by simp) (by simp [vw])
 have hb:aRa p c=false:=by unfold aRa; simp [c1,c2,c3,c4,c5]
 rw [hb,if_neg (by simp)] at hE;have hstr:=jU (σ:=⟨2,[(1,⟨3,[c.row]⟩),(0,⟨5,[p.cells]⟩)]⟩) (g:=194) (caps:=[.ref 0 5 0 0,.ref 1 3 0 0]) (c:=c.seen) (f:=fun s=>!decide (s &&& ~~~(p.see.getD c.ag.toNat 0)= 0#64)) hsm fun s _=>aAr rfl rfl ⟨by omega,by omega⟩ s;have hsame:=aV9 (σ:=⟨2,[(1,⟨3,[c.row]⟩),(0,⟨5,[p.cells]⟩)]⟩) (g:=196) (caps:=[.ref 1 3 0 0]) (c:=l.take i) (f:=tI c.ag c.seen) (by rw [List.length_take]; omega) fun d _=>aEi rfl d;have hct:chR (l.take i)= (chR l).take i:=by simp [chR,List.map_take]
 rw [hct] at hsame;unfold PrA.cells at hstr hsame;unfold ChA.row at hstr hsame;have hsE:(c.seen.any fun s=>!decide (s &&& ~~~(p.see.getD c.ag.toNat 0)= 0#64))= aBl p c:=rfl;rw [hsE] at hstr;simp only [simprocAttr,-ZA,↓zU,↓zD,zV,zT,zW,hd,zJ,hg,c1,xQ,c2,c3',c4,yU,c5]
 (repeat refine sd ?_)
 refine .go hstr ?_
 cases hs:aBl p c with
 | true=> rw [hs,if_pos rfl] at hE;rw [hend 3 hE (by decide)];simp only [simprocAttr,-ZA,↓zU,↓zD,zV,zT,zW];exact .drop (by simp) (by simp [vw])
 | false=>
  rw [hs,if_neg (by simp)] at hE;simp only [simprocAttr,-ZA,↓zU,↓zD,zV,zT,zW];refine⟨0,(i:Int),rfl,rfl,by omega,by omega,by rw [zJ]; omega,?_⟩;simp only [Int.toNat_natCast,Int.toNat_zero,List.drop_zero];refine .go hsame ?_
  cases hm:(l.take i).any (tI c.ag c.seen) with
  | true=> rw [hm,if_pos rfl] at hE;rw [hend 7 hE (by decide)];simp only [simprocAttr,-ZA,↓zU,↓zD,zV,zT,zW];exact .drop (by simp) (by simp [vw])
  | false=>
   rw [hm,if_neg (by simp)] at hE;simp only [simprocAttr,-ZA,↓zU,↓zD,zV,zT,zW]
   refine⟨i+1,⟨by omega,fun j hj=>?_⟩,?_,by omega⟩
   ·by_cases e:j=i
    ·rw [e]; exact hE
    ·exact hz j (by omega)
   (refine xI.ren [] [0] (by simp) (by simp) (by decide) ?_; simp only [yJ,vwL,vw,vwF,sw,St.get,St.look,Fr.get,↓reduceIte,reduceIte,Nat.reduceEqDiff,Nat.reduceAdd,Nat.reduceBEq,Nat.reduceLT,Nat.reduceLeDiff,exists_eq_left',ne_eq,reduceCtorEq,zR])
   exact zI (by omega)
open Rs Fm Ru Te Kb
namespace Kb
def iZ (l:List ChA) (a:Nat) (h:List (BitVec 64)):Int:=ixF (tI a h) l 0
def mvC (l:List ChA) (a:Nat) (h:List (BitVec 64)):Int:=(l.getD (iZ l a h).toNat ch0).mv
def lG (p:PrA) (sts:List (List (BitVec 64))) (t a r:Nat):List (BitVec 64):=uQ p.see (stR sts r) a t
def mvG (p:PrA) (l:List ChA) (sts:List (List (BitVec 64))) (t a n:Nat):List Int:=(List.range n).map fun r=>mvC l a (lG p sts t a r)
def rX (p:PrA) (l:List ChA) (sts:List (List (BitVec 64))) (t:Nat):List (List Int):=(List.range p.see.length).map fun a=>mvG p l sts t a sts.length
def mZ (p:PrA) (l:List ChA) (sts:List (List (BitVec 64))) (t:Nat):Bool:=(List.range p.see.length).all fun a=>(List.range sts.length).all fun r=>decide (0<=iZ l a (lG p sts t a r))
theorem fZ {α:Type} {f:α->Bool}:∀ {c:List α} {i:Int},0<=i->(ixF f c i = -1\/(i<=ixF f c i/\ixF f c i<i+c.length))
 | [],i,_=>.inl rfl
 | x :: r,i,hi=>by
  unfold ixF
  by_cases h:f x=true
  ·rw [if_pos h]; exact .inr ⟨Int.le_refl _,by simp; omega⟩
  ·rw [if_neg h]
   rcases fZ (c:=r) (i:=i+1) (by omega) with h1 | h1
   ·exact .inl h1
   ·exact .inr ⟨by omega,by simp; omega⟩
theorem bN {l:List ChA} {a:Nat} {h:List (BitVec 64)} (h0:0<=iZ l a h):(iZ l a h).toNat<l.length/\iZ l a h<l.length:=by
 rcases fZ (f:=tI a h) (c:=l) (i:=0) (Int.le_refl 0) with h1 | h1
 ·unfold iZ at h0; omega
 ·unfold iZ at h0 ⊢; omega
structure IG (E : Nat -> List (List D)) (A n0 : Nat) (x : QP) : Prop where
 ha:x.a<=A
 hn:n0<=x.nx
 kO:x.kO<x.nx\/x.a=0
 kl:x.ks.length=x.a
 ks:∀ k ∈ x.ks,k<x.nx
 nd:x.ks.Nodup
 no:x.a≠0->x.kO ∉ x.ks
 nst:x.a≠0->Nst x.xS x.kO x.ks ((List.range x.a).map E)
theorem IG.step {E:Nat->List (List D)} {A n0:Nat} {x:QP} (h:IG E A n0 x) (hal:x.a<A) {kI kN n2:Nat} {ob:List (Nat × Ob)} (h1:x.nx<=kI/\kI<n2) (h2:x.nx<=kN/\kN<n2) (hne:kI≠kN)
  (hout:St.look ob kN=some ⟨1,rS (x.ks ++ [kI]) ((List.range x.a).map E ++ [E x.a])⟩) (hnew:St.look ob kI=some ⟨1,E x.a⟩) (hold:∀ k,k<x.nx->(x.a=0\/k≠x.kO)->St.look ob k=St.look x.xS k) :
  IG E A n0 ⟨x.a+1,n2,kN,x.ks ++ [kI],ob⟩:=by
 have hn:=h.hn
 refine⟨by show x.a+1<=_; omega,by show n0<=n2; omega,.inl h2.2,by simp [h.kl],fun k hk=>?_,?_,fun _ hk=>?_,fun _=>?_⟩
 ·show k<n2
  rcases List.mem_append.1 hk with hk | hk
  ·have:=h.ks k hk; omega
  ·rw [List.mem_singleton.1 hk]; exact h1.2
 ·refine List.nodup_append.2 ⟨h.nd,by simp,fun k hk j hj e=>?_⟩;have:=h.ks k hk;rw [List.mem_singleton.1 hj] at e;omega
 ·have hk:kN ∈ x.ks ++ [kI]:=hk
  rcases List.mem_append.1 hk with hk | hk
  ·have:=h.ks _ hk; omega
  ·exact hne (List.mem_singleton.1 hk).symm
 ·show Nst ob kN (x.ks ++ [kI]) ((List.range (x.a+1)).map E);rw [List.range_succ,List.map_append];have h0:(List.range x.a).map E ≠ []->x.a≠0:=fun c e=>c (by rw [e]; rfl);refine Nst.grow (fun c=>h.nst (h0 c)) (by rw [h.kl]; simp) hout hnew fun k hk=>?_;refine hold k (h.ks k hk) ?_
  by_cases c:x.a=0
  ·exact .inl c
  ·exact .inr fun e=>h.no c (e ▸ hk)
end Kb
theorem lF.bZ8 {n0:Nat} {σ1 σ':St} {d1 d:D} (h:lF n0 σ1 d1 σ' d) (b:Bool):lF n0 σ1 (.tup [d1,.bool b]) σ' (.tup [d,.bool b]):=by
 rcases h with ⟨rfl,rfl⟩ | ⟨ρ,r1,r2,r3,r4,r5⟩
 ·exact .inl ⟨rfl,rfl⟩
 ·refine .inr ⟨ρ,r1,r2,?_,r4,r5⟩;simp only [vw,vwL];exact⟨rfl,r3,trivial,trivial⟩
theorem aSs {p:PrA} {l:List ChA} (hll:l.length<=2000000) {sts:List (List (BitVec 64))} {t:Nat} (hA:1<=p.see.length/\p.see.length<=4) (hR:1<=sts.length/\sts.length<=16) (hl:∀ st ∈ sts,t<st.length) (ht:t<=1000) {d:D} {σ':St}
  (hyes:mZ p l sts t=true->d = .tup [.osl 0 1 p.see.length,.bool true]/\σ'=⟨1+p.see.length,aS7 ((rX p l sts t).map (rows .i64))⟩) (hno:mZ p l sts t=false->d = .tup [.xH,.bool false]/\σ'=St0) :
  xX Tryz.prog 84 [plD p sts,.sl 3 (chR l),.int .i64 t] St0 d σ':=by
 have hh:∀ a r,a<p.see.length->r<sts.length->yT Tryz.prog 75 [plD p sts,.int .i64 a,.int .i64 r,.int .i64 t] (.sl 1 (us (lG p sts t a r))):=fun a r ha hr=> pM (pI p ha hr (hl _ (xK (d:=[]) hr)) ht)
 have hfalse:∀ a r,a<p.see.length->r<sts.length->iZ l a (lG p sts t a r)<0->mZ p l sts t=false:=fun a r ha hr h=>by unfold mZ;rw [List.all_eq_false];refine⟨a,List.mem_range.2 ha,?_⟩;rw [Bool.not_eq_true,List.all_eq_false];exact⟨r,List.mem_range.2 hr,by simpa using h⟩
 unfold plD plC at *;refine xX.xR mixed Tryz.func84 k84 (by simp) fun hf=>?_;simp only [simprocAttr,-ZA,↓zU,↓zD,zV,zT,zW,xQ]
 refine xW (fun x:QP=>[(20,.int .i64 x.a),(19,.int .i64 p.see.length),(8,qH x.kO x.a),(2,.int .i64 t),(1,.sl 3 (chR l)),(0,.ptr [.int .i64 p.F,.sl 1 (us p.init),.sl 1 (us p.see),.sl 1 (mvR p.xM),.sl 1 (cdR p.code),.sl 1 (rr sts)])]) (fun x=>⟨x.nx,x.xS⟩)
  (fun x=>IG (fun a=>rows .i64 (mvG p l sts t a sts.length)) p.see.length 0 x/\∀ a r,a<x.a->r<sts.length->0<=iZ l a (lG p sts t a r)) (fun x=>p.see.length-x.a) ⟨0,0,0,[],[]⟩
  ⟨⟨Nat.zero_le _,Nat.zero_le _,.inr rfl,rfl,by simp,.nil,fun h=>absurd rfl h,fun h=>absurd rfl h⟩,fun a r ha=>absurd ha (Nat.not_lt_zero _)⟩ ?_ ?_
 ·(refine xI.same ?_; simp [xP,Fr.get,qH])
 rintro ⟨a,nx,kO,ks,xS⟩ ⟨hI,hpos⟩;obtain⟨ha,n0,hkO,hkl,hks,hnd,hno',hnst⟩:=id hI;simp only at ha n0 hkO hkl hks hnd hno' hnst hpos;refine xN mixed ?_;by_cases hal:a<p.see.length
 case neg=>
  have hd:¬ ((a:Int)<(p.see.length:Int)):=by omega
  obtain rfl:a=p.see.length:=by omega
  have ha0:p.see.length≠0:=by omega
  have hB:mZ p l sts t=true:=by unfold mZ;rw [List.all_eq_true];intro a ha;rw [List.all_eq_true];intro r hr;exact decide_eq_true (hpos a r (List.mem_range.1 ha) (List.mem_range.1 hr))
  obtain⟨rfl,rfl⟩:=hyes hB;unfold qH;rw [if_neg ha0];simp only [simprocAttr,-ZA,↓zU,↓zD,zV,zT,zW,hd];have hn:=hnst ha0;rw [show (List.range p.see.length).map (fun a=>rows .i64 (mvG p l sts t a sts.length))= (rX p l sts t).map (rows .i64) by simp only [rX,List.map_map]; rfl] at hn;have hl2:((rX p l sts t).map (rows .i64)).length=p.see.length:=by simp [rX]
  have hr:=lF.nst (nx:=nx) hn hl2.symm hnd (hno' ha0) fun e he r hr=>(tL e he r hr).2;rw [hl2] at hr;exact lF.bZ8 hr true
 have hd:((a:Int)<(p.see.length:Int)):=by omega
 have hown:(mvG p l sts t a sts.length).length=sts.length:=by simp [mvG]
 have howg:∀ r,r<sts.length->(mvG p l sts t a sts.length).getD r 0=mvC l a (lG p sts t a r):=fun r hr=>by simp [mvG,List.getD,hr]
 have hstep:=fun kI kN n2 ob=>@IG.step (fun a=>rows .i64 (mvG p l sts t a sts.length)) p.see.length 0 ⟨a,nx,kO,ks,xS⟩ hI hal kI kN n2 ob;simp only at hstep;have hha:=fun r hr=>hh a r hal hr;have hfa:=fun r hr=>hfalse a r hal hr;generalize mvG p l sts t a sts.length=own at *;simp only [simprocAttr,-ZA,↓zU,↓zD,zV,zT,zW,hd,zQ]
 (repeat refine sd ?_)
 refine xW (fun x:OP=>[(28,.int .i64 x.j),(27,.int .i64 sts.length),(20,.int .i64 a),(19,.int .i64 p.see.length),(10,qH x.kW x.j),(9,.ref nx 1 0 0),(8,qH kO a),(2,.int .i64 t),(1,.sl 3 (chR l)),(0,.ptr [.int .i64 p.F,.sl 1 (us p.init),.sl 1 (us p.see),.sl 1 (mvR p.xM),.sl 1 (cdR p.code),.sl 1 (rr sts)])]) (fun x=>⟨x.m,x.ob⟩)
  (fun x=>IO ((nx,⟨1,[[.int .i64 a]]⟩) :: xS) (nx+1) own x/\∀ r,r<x.j->0<=iZ l a (lG p sts t a r)) (fun x=>sts.length-x.j) ⟨0,nx+1,0,(nx,⟨1,[[.int .i64 a]]⟩) :: xS⟩
  ⟨⟨Nat.zero_le _,Nat.le_refl _,fun h=>absurd rfl h,fun _ _=>rfl⟩,fun r hr=>absurd hr (Nat.not_lt_zero _)⟩ ?_ ?_
 ·(refine xI.same ?_; simp only [xP,Fr.get,↓reduceIte,reduceIte,Nat.reduceEqDiff,reduceCtorEq,D.int.injEq,D.bool.injEq,D.sl.injEq,and_true,true_and,and_self,show qH 0 0=D.xH from rfl])
  rfl
 rintro ⟨r,m,kW,ob⟩ ⟨⟨hr,hm,hkW,hold⟩,hpr⟩;simp only at hr hm hkW hold hpr;have gx:St.look ob nx=some ⟨1,[[.int .i64 a]]⟩:=by rw [hold nx (by omega),xY,if_pos rfl]
 have hold2:∀ k,k<nx->St.look ob k=St.look xS k:=fun k hk=>by rw [hold k (by omega),xY,if_neg (by omega)]
 refine xN mixed ?_;by_cases hrl:r<sts.length
 case neg=>
  have hd2:¬ ((r:Int)<(sts.length:Int)):=by omega
  obtain rfl:r=sts.length:=by omega
  have hj0:sts.length≠0:=by omega
  obtain⟨w1,w2,w3⟩:=hkW hj0;rw [List.take_of_length_le (by omega)] at w3;rw [show qH kW sts.length = .osl kW 1 sts.length by unfold qH; rw [if_neg hj0]]
  have hpos2:∀ a' r,a'<a+1->r<sts.length->0<=iZ l a' (lG p sts t a' r):=fun a' r ha' hr'=>by
   by_cases e:a'=a
   ·subst e; exact hpr r hr'
   ·exact hpos a' r (by omega) hr'
  by_cases ha0:a=0
  ·subst ha0;obtain rfl:ks = []:=List.eq_nil_of_length_eq_zero hkl;rw [show qH kO 0=D.xH from rfl];simp only [simprocAttr,-ZA,↓zU,↓zD,zV,zT,zW,hd2]
   (repeat refine sd ?_)
   refine⟨⟨0+1,m+1+1,m+1,[] ++ [kW],(m+1,⟨1,[[.osl kW 1 sts.length]]⟩) :: (m,⟨1,[[.osl kW 1 sts.length]]⟩) :: ob⟩,⟨hstep kW (m+1) (m+1+1) _ ⟨by omega,by omega⟩ ⟨by omega,by omega⟩ (by omega) ?_ ?_ ?_,hpos2⟩,?_,by show p.see.length-(0+1)<_; omega⟩
   ·rw [xY,if_pos rfl];simp [rS,xE,hown]
   ·rw [xY,if_neg (by omega),xY,if_neg (by omega)];exact w3
   ·intro k hk _;rw [xY,if_neg (by omega),xY,if_neg (by omega)];exact hold2 k hk
   ·rw [show qH (m+1) (0+1)= .osl (m+1) 1 1 from rfl]
    (refine xI.same ?_; simp only [xP,Fr.get,↓reduceIte,reduceIte,Nat.reduceEqDiff,reduceCtorEq,D.int.injEq,D.bool.injEq,D.sl.injEq,and_true,true_and,and_self])
    rfl
  ·have hkO2:kO<nx:=hkO.resolve_right ha0;have hn:=hnst ha0;have ho:=hn.out;have ho2:=(hold2 kO hkO2).trans ho;have q2:¬ (m=kO):=by omega
   have hnl:=uV hn.len;rw [List.length_map,List.length_range] at hnl;have htk:(rS ks ((List.range a).map fun a=>rows .i64 (mvG p l sts t a sts.length))).take a=rS ks ((List.range a).map fun a=>rows .i64 (mvG p l sts t a sts.length)):=List.take_of_length_le (by omega);have hsn:=gC hn.len kW (rows .i64 own);rw [xE,hown] at hsn;rw [show qH kO a = .osl kO 1 a by unfold qH; rw [if_neg ha0]];simp only [simprocAttr,-ZA,↓zU,↓zD,zV,zT,zW,hd2,q2,ho2,hnl,htk]
   (repeat refine sd ?_)
   refine⟨⟨a+1,m+1+1,m+1,ks ++ [kW],(m+1,⟨1,rS ks ((List.range a).map fun a=>rows .i64 (mvG p l sts t a sts.length))++ [[.osl kW 1 sts.length]]⟩) :: (m,⟨1,[[.osl kW 1 sts.length]]⟩) :: yG ob kO⟩,⟨hstep kW (m+1) (m+1+1) _ ⟨by omega,by omega⟩ ⟨by omega,by omega⟩ (by omega) ?_ ?_ ?_,hpos2⟩,?_,by show p.see.length-(a+1)<_; omega⟩
   ·rw [xY,if_pos rfl,hsn]
   ·rw [xY,if_neg (by omega),xY,if_neg (by omega),xF,if_neg (by omega)];exact w3
   ·intro k hk hk2;rw [xY,if_neg (by omega),xY,if_neg (by omega),xF,if_neg (fun e=>(hk2.resolve_left ha0) e.symm)];exact hold2 k hk
   ·rw [show qH (m+1) (a+1)= .osl (m+1) 1 (a+1) by unfold qH; rw [if_neg (by omega)]]
    (refine xI.same ?_; simp only [xP,Fr.get,↓reduceIte,reduceIte,Nat.reduceEqDiff,reduceCtorEq,D.int.injEq,D.bool.injEq,D.sl.injEq,and_true,true_and,and_self])
    exact zI (by omega)
 have hd2:((r:Int)<(sts.length:Int)):=by omega
 have h75:=hha r hrl;have hfr:=hfa r hrl;have hwg:=howg r hrl;have htk:=zP (d:=0) (show r<own.length by omega);rw [hwg] at htk
 have hpr2:0<=iZ l a (lG p sts t a r)->∀ r',r'<r+1->0<=iZ l a (lG p sts t a r'):=fun h r' hr'=>by
  by_cases e:r'=r
  ·subst e; exact h
  ·exact hpr r' (by omega)
 have hmvE:mvC l a (lG p sts t a r)= (l.getD (iZ l a (lG p sts t a r)).toNat ch0).mv:=rfl;have hix:=fun h0=>@bN l a (lG p sts t a r) h0;have q1:¬ (m=nx):=by omega
 have hidx:=aT9 (σ:=⟨m+1,(m,⟨1,[[.sl 1 (us (lG p sts t a r))]]⟩) :: ob⟩) (g:=137) (caps:=[.ref nx 1 0 0,.ref m 1 0 0]) (c:=l) (f:=tI a (lG p sts t a r)) hll
  fun d _=>aLx (by rw [xY,if_neg q1]; exact gx) (by rw [xY,if_pos rfl]) d
 rw [show ixF (tI a (lG p sts t a r)) l 0=iZ l a (lG p sts t a r) from rfl] at hidx;generalize iZ l a (lG p sts t a r)= ix at *;generalize lG p sts t a r=h at *
 by_cases hix0:ix<0
 ·obtain⟨rfl,rfl⟩:=hno (hfr hix0);simp only [simprocAttr,-ZA,↓zU,↓zD,zV,zT,zW,hd2,gx]
  (repeat refine sd ?_)
  refine .go (cr h75) ?_;simp only [simprocAttr,-ZA,↓zU,↓zD,zV,zT,zW,q1]
  (repeat refine sd ?_)
  refine .go hidx ?_;simp only [simprocAttr,-ZA,↓zU,↓zD,zV,zT,zW,hix0];exact .drop (by simp) (by simp [vw,vwL])
 obtain⟨x1,x2⟩:=hix (by omega);have hgc:=kJ l x1;have hmv2:=hmvE;unfold ChA.row at hgc;rw [<- hmv2] at hgc;have hixp:0<=ix:=by omega
 generalize mvC l a h=z at *;generalize l.getD ix.toNat ch0=c at *
 by_cases hj0:r=0
 ·subst hj0;have hd20:(0:Int)<(sts.length:Int):=by omega
  rw [show qH kW 0=D.xH from rfl];simp only [simprocAttr,-ZA,↓zU,↓zD,zV,zT,zW,hd20,gx]
  (repeat refine sd ?_)
  refine .go (cr h75) ?_;simp only [simprocAttr,-ZA,↓zU,↓zD,zV,zT,zW,q1]
  (repeat refine sd ?_)
  refine .go hidx ?_;simp only [simprocAttr,-ZA,↓zU,↓zD,zV,zT,zW,hix0,zJ,x2,hgc]
  (repeat refine sd ?_)
  refine⟨⟨0+1,m+1+1,m+1,(m+1,⟨1,[[.int .i64 z]]⟩) :: (m,⟨1,[[.sl 1 (us h)]]⟩) :: ob⟩,⟨⟨by show 0+1<=_; omega,by show nx+1<=m+1+1; omega,fun _=>⟨by show nx+1<=m+1; omega,by show m+1<m+1+1; omega,?_⟩,fun k hk=>?_⟩,hpr2 hixp⟩,?_,by show sts.length-(0+1)<_; omega⟩
  ·show St.look ((m+1,_) :: _) (m+1)= _;rw [xY,if_pos rfl];show _=some (Ob.mk 1 (rows .i64 (own.take (0+1))));rw [htk]; rfl
  ·show St.look ((m+1,_) :: (m,_) :: ob) k=_;rw [xY,if_neg (by omega),xY,if_neg (by omega)];exact hold k hk
  ·rw [show qH (m+1) (0+1)= .osl (m+1) 1 1 from rfl]
   (refine xI.same ?_; simp only [xP,Fr.get,↓reduceIte,reduceIte,Nat.reduceEqDiff,reduceCtorEq,D.int.injEq,D.bool.injEq,D.sl.injEq,and_true,true_and,and_self])
   rfl
 ·obtain⟨w1,w2,w3⟩:=hkW hj0;have q2:¬ (m=kW):=by omega
  have q3:¬ (m+1=kW):=by omega
  have hol:(own.take r).length=r:=by rw [List.length_take]; omega
  have htt:(own.take r).take r=own.take r:=by rw [List.take_take,Nat.min_self]
  rw [show qH kW r = .osl kW 1 r by unfold qH; rw [if_neg hj0]];simp only [simprocAttr,-ZA,↓zU,↓zD,zV,zT,zW,hd2,gx]
  (repeat refine sd ?_)
  refine .go (cr h75) ?_;simp only [simprocAttr,-ZA,↓zU,↓zD,zV,zT,zW,q1]
  (repeat refine sd ?_)
  refine .go hidx ?_;simp only [simprocAttr,-ZA,↓zU,↓zD,zV,zT,zW,hix0,zJ,x2,hgc,q1,q2,q3,w3,xE,hol,htt]
  (repeat refine sd ?_)
  refine⟨⟨r+1,m+1+1,m+1,(m+1,⟨1,rows .i64 (own.take r ++ [z])⟩) :: (m,⟨1,[[.sl 1 (us h)]]⟩) :: yG ob kW⟩,⟨⟨by show r+1<=_; omega,by show nx+1<=m+1+1; omega,fun _=>⟨by show nx+1<=m+1; omega,by show m+1<m+1+1; omega,?_⟩,fun k hk=>?_⟩,hpr2 hixp⟩,?_,by show sts.length-(r+1)<_; omega⟩
  ·show St.look ((m+1,_) :: _) (m+1)= _;rw [xY,if_pos rfl];show _=some (Ob.mk 1 (rows .i64 (own.take (r+1))));rw [htk]
  ·show St.look ((m+1,_) :: (m,_) :: yG ob kW) k=_;rw [xY,if_neg (by omega),xY,if_neg (by omega),xF,if_neg (by omega)];exact hold k hk
  ·rw [show qH (m+1) (r+1)= .osl (m+1) 1 (r+1) by unfold qH; rw [if_neg (by omega)]]
   (refine xI.same ?_; simp only [xP,Fr.get,↓reduceIte,reduceIte,Nat.reduceEqDiff,reduceCtorEq,D.int.injEq,D.bool.injEq,D.sl.injEq,and_true,true_and,and_self])
   exact zI (by omega)
end Go.Pd
