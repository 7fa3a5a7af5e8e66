/- Part LJ. -/
import Derived.Test.YtndfaefmmcoapaaGreatUaLG
import Derived.Test.YtndfaefmmcoapaaGreatUaKG
import Derived.Test.YtndfaefmmcoapaaGreatUaC9
set_option linter.unusedSectionVars false
set_option linter.unusedVariables false
set_option linter.unusedSimpArgs false
set_option linter.defProp false
set_option maxRecDepth 20000
set_option maxHeartbeats 1000000
namespace Go.Pd
open Go Go.Proofs
open Rs Fm Ru Te Kb
namespace Kb
structure Ext (n : Nat) (sts sts' : List (List (BitVec 64))) : Prop where
 len:sts'.length=sts.length
 run:∀ i,i<sts.length->(stR sts' i).take n=(stR sts i).take n
theorem Ext.refl (n:Nat) (sts:List (List (BitVec 64))):Ext n sts sts:=⟨rfl,fun _ _=>rfl⟩
theorem Ext.trans {n:Nat} {a b c:List (List (BitVec 64))} (h:Ext n a b) (h':Ext n b c):Ext n a c:=⟨h'.len.trans h.len,fun i hi=>(h'.run i (by rw [h.len]; exact hi)).trans (h.run i hi)⟩
theorem Ext.mono {n m:Nat} {a b:List (List (BitVec 64))} (h:Ext n a b) (hm:m<=n):Ext m a b:=⟨h.len,fun i hi=>by
 have:=congrArg (List.take m) (h.run i hi)
 rwa [List.take_take,List.take_take,Nat.min_eq_left hm] at this⟩
section
variable {n t : Nat} {sts sts' : List (List (BitVec 64))} {see : List (BitVec 64)}
theorem Ext.his (h:Ext n sts sts') (ht:t<n) {a r:Nat} (hr:r<sts.length):sR see (stR sts' r) a t=sR see (stR sts r) a t:=by have:=(h.mono (show t+1<=n from ht)).run r hr;unfold sR;rw [this]
theorem all_congr {α:Type} {l:List α} {f g:α->Bool} (h:∀ x ∈ l,f x=g x):l.all f=l.all g:=by
 induction l with
 | nil=>rfl
 | cons x r ih=>rw [List.all_cons,List.all_cons,h x (by simp),ih fun y hy=>h y (by simp [hy])]
variable {p : PrA}
theorem Ext.gZ (h:Ext n sts sts') (ht:t<n) {a r:Nat} (hr:r<sts.length):gZ p sts' t a r=gZ p sts t a r:=h.his ht hr
theorem Ext.iD (h:Ext n sts sts') (ht:t<n) {l:List ChA}:iD p l sts' t=iD p l sts t:=by unfold Kb.iD;rw [h.len];refine all_congr fun a _=>all_congr fun r hr=>?_;rw [h.gZ ht (List.mem_range.1 hr)]
theorem Ext.pK (h:Ext n sts sts') (ht:t<n) {l:List ChA}:pK p l sts' t=pK p l sts t:=by unfold Kb.pK mvG;rw [h.len];refine List.map_congr_left fun a _=>List.map_congr_left fun r hr=>?_;rw [h.gZ ht (List.mem_range.1 hr)]
theorem aFx {mv:List (List Int)} (hl:∀ st ∈ sts,n<=st.length):Ext n sts (mE p sts mv) where
 len:=by simp [mE]
 run:=fun i hi=>by
  have e:stR (mE p sts mv) i=stR sts i ++ [aOq p sts mv i]:=by simp [stR,mE,List.getD,hi]
  rw [e,List.take_append_of_le_length (hl _ (sK hi))]
end
theorem aMw {p:PrA} {F:Nat} (hv:PrV p F) {l:List ChA} (hc:wS p l=0) {n:Nat}:∀ {m:Nat},n<=m->(kF p l m).isSome=true->Ext (n+1) (tQ p l n) (tQ p l m)
 | 0,h,_=>by
  have:n=0:=by omega
  subst this; exact .refl _ _
 | m+1,h,hs=>by
  by_cases e:n=m+1
  ·subst e; exact .refl _ _
  ·obtain⟨h1,h2,h3⟩:=kU hs;rw [h3];exact(aMw hv hc (m:=m) (by omega) h1).trans (aFx fun st hs=>by rw [(aY5 hv hc m h1).run st hs]; omega)
theorem aTg {p:PrA} {l:List ChA} {n:Nat}:∀ {m:Nat},n<=m->(kF p l m).isSome=true->(kF p l n).isSome=true:=fun h hs=>by
 cases c:(kF p l n).isSome with
 | true=>rfl
 | false=>rw [eK h c] at hs; cases hs
theorem aFu {p:PrA} {F:Nat} (hv:PrV p F) {l:List ChA} (hc:wS p l=0) {k t:Nat} (hs:(kF p l k).isSome=true) (ht:t<k):iD p l (tQ p l k) t=true/\tQ p l (t+1)= mE p (tQ p l t) (pK p l (tQ p l k) t):=by obtain⟨h1,h2,h3⟩:=kU (aTg (show t+1<=k from ht) hs);have he:=aMw hv hc (n:=t) (m:=k) (by omega) hs;exact⟨by rw [he.iD (by omega)]; exact h2,by rw [he.pK (by omega)]; exact h3⟩
end Kb
end Go.Pd

/- Part LI. -/
namespace Go.Pd
open Go Go.Proofs
open BitVec renaming isValue -> ZA
open Rs Fm Ru Te Kb
namespace Kb
def aDx (p:PrA) (l:List ChA) (n:Int):pF:=if cN p l n≠0 then⟨0,0,0,[]⟩ else⟨p.see.length,p.F,n,sS p.see (tQ p l (n.toNat-1)) n.toNat⟩
def bXl (p:PrA) (l:List ChA) (n:Int):Bool:=decide (cN p l n=0)&& (List.range (n.toNat-1)).all fun t=>decide (pK p l (tQ p l (n.toNat-1)) t=vW p (tQ p l (n.toNat-1)) t)
end Kb
theorem aOl (p:PrA) (sm:pM p) (l:List ChA) (sc:aZa l) (n:Int):yU Tryz.prog 25 [p.d,.sl 3 (chR l),.int .i64 n] (.tup [(aDx p l n).d,.int .i64 (cN p l n)]):=by
 have hG:=aY p sm l sc n;by_cases c:cN p l n=0
 case neg=>
  have c':(cN p l n != 0)= true:=by simpa using c
  have hD:(aDx p l n).d = .agg [.int .i64 0,.int .i64 0,.int .i64 0,.sl 2 []]:=by unfold aDx; rw [if_pos c]; rfl
  have e2:aVt p l n = .nK:=by unfold aVt; rw [if_neg c]
  rw [hD];rw [e2] at hG;unfold PrA.d PrA.cells at *;refine xX.xQ mixed Tryz.func25 k25 (by simp) fun hf=>?_;simp only [simprocAttr,-ZA,↓zU,↓zD,zV,zT,zW]
  (repeat refine sd ?_)
  refine .go (cr hG) ?_;simp only [simprocAttr,-ZA,↓zU,↓zD,zV,zT,zW,c']
  (repeat refine sd ?_)
  exact .drop (by simp) (by simp [vw,vwL])
 have c':(cN p l n != 0)= false:=by simpa using c
 obtain⟨F,k,hv,rfl,hk,hc,hs⟩:=aZ8 c;have hS:=eA hv hk (aY5 hv hc k hs)
 have hD:(aDx p l ((k+1:Nat):Int)).d=sD p.see.length F (k+1) (sS p.see (tQ p l k) (k+1)):=by unfold aDx;rw [if_neg (by simpa using c),Int.toNat_natCast,Nat.add_sub_cancel];show D.agg [_,_,_,_]=D.agg [_,_,_,_];rw [hv.fe]
 have e2:aVt p l ((k+1:Nat):Int)= plD p (tQ p l k):=by unfold aVt; rw [if_pos c,Int.toNat_natCast,Nat.add_sub_cancel]
 rw [hD];rw [e2] at hG;generalize sS p.see (tQ p l k) (k+1)= S at *;generalize tQ p l k=sts at *;unfold PrA.d PrA.cells plD plC sD at *;refine xX.xQ mixed Tryz.func25 k25 (by simp) fun hf=>?_;simp only [simprocAttr,-ZA,↓zU,↓zD,zV,zT,zW]
 (repeat refine sd ?_)
 refine .go (cr hG) ?_;simp only [simprocAttr,-ZA,↓zU,↓zD,zV,zT,zW,c'];refine .go (cr hS) ?_;simp only [simprocAttr,-ZA,↓zU,↓zD,zV,zT,zW]
 (repeat refine sd ?_)
 exact .drop (by simp) (by simp [vw,vwL]; simpa using c.symm)
theorem bVz (a b:List Int):yU Tryz.prog 86 [.sl 1 (rows .i64 a),.sl 1 (rows .i64 b)] (.bool (decide (a=b))):=by refine xX.xQ mixed Tryz.func86 k86 (by simp) fun hf=>?_;simp only [simprocAttr,-ZA,↓zU,↓zD,zV,zT,zW];refine .go (cr (aAl a b)) ?_;simp only [simprocAttr,-ZA,↓zU,↓zD,zV,zT,zW];exact .same
theorem aAk (a b:List (List Int)) (hl:a.length<=1000):yU Tryz.prog 85 [.sl 1 (rl a),.sl 1 (rl b),.fn 86 []] (.bool (decide (a=b))):=by
 refine xX.xQ mixed Tryz.func85 k85 (by simp) fun hf=>?_;by_cases h1:a.length=b.length
 case neg=>
  have h1':((a.length:Int) != (b.length:Int))= true:=by simp; omega
  simp only [simprocAttr,-ZA,↓zU,↓zD,zV,zT,zW,vR,h1'];exact .drop (by simp) (by simp only [vw,D.bool.injEq]; symm; apply decide_eq_false; rintro rfl; exact h1 rfl)
 have h1':((a.length:Int) != (b.length:Int))= false:=by simp; omega
 simp only [simprocAttr,-ZA,↓zU,↓zD,zV,zT,zW,vR,h1']
 refine xW (fun k:Nat=>[(17,.int .i64 k),(16,.int .i64 a.length),(15,.sl 1 (rl a)),(2,.fn 86 []),(1,.sl 1 (rl b))]) (fun _=>⟨0,[]⟩) (fun k=>k<=a.length/\∀ i,i<k->a.getD i []=b.getD i []) (fun k=>a.length-k) 0 ⟨Nat.zero_le _,fun i hi=>by omega⟩ ?_ ?_
 ·(refine xH.same ?_; simp [xO,Fr.get])
 intro k ⟨hk,hi⟩;refine xP mixed ?_
 by_cases h:k<a.length
 ·have hd:((k:Int)<(a.length:Int)):=by omega
  have hd2:((k:Int)<(b.length:Int)):=by omega
  have ga:=iN a h;have gb:=iN b (show k<b.length by omega);have he:=bVz (a.getD k []) (b.getD k [])
  by_cases hb:a.getD k []=b.getD k []
  ·rw [decide_eq_true hb] at he;simp only [simprocAttr,-ZA,↓zU,↓zD,zV,zT,zW,hd,vR,ga,hd2,gb]
   (repeat refine sd ?_)
   refine .go (cr he) ?_;simp only [simprocAttr,-ZA,↓zU,↓zD,zV,zT,zW]
   refine⟨k+1,⟨by omega,fun i hi2=>?_⟩,?_,by omega⟩
   ·by_cases ei:i=k
    ·rw [ei,hb]
    ·exact hi i (by omega)
   (refine xH.same ?_; simp only [xO,Fr.get,simprocAttr,-ZA,zS])
   exact wrap_i64 (by omega)
  ·rw [decide_eq_false hb] at he;simp only [simprocAttr,-ZA,↓zU,↓zD,zV,zT,zW,hd,vR,ga,hd2,gb]
   (repeat refine sd ?_)
   refine .go (cr he) ?_;simp only [simprocAttr,-ZA,↓zU,↓zD,zV,zT,zW];exact .drop (by simp) (by simp only [vw,D.bool.injEq]; symm; apply decide_eq_false; rintro rfl; exact hb rfl)
 ·have hd:¬ ((k:Int)<(a.length:Int)):=by omega
  have hk':k=a.length:=by omega
  subst hk';simp only [simprocAttr,-ZA,↓zU,↓zD,zV,zT,zW,hd];refine .drop (by simp) ?_;simp only [vw,D.bool.injEq]; symm; apply decide_eq_true;refine List.ext_getElem h1 fun i h2 h3=>?_;have:=hi i h2;simpa [List.getD,h2,h3] using this
theorem aVh (p:PrA) (sm:pM p) (l:List ChA) (sc:aZa l) (n:Int):yU Tryz.prog 27 [p.d,.sl 3 (chR l),.int .i64 n] (.tup [.bool (bXl p l n),.int .i64 (cN p l n)]):=by
 have hG:=aY p sm l sc n;by_cases c:cN p l n=0
 case neg=>
  have c':(cN p l n != 0)= true:=by simpa using c
  have hD:bXl p l n=false:=by unfold bXl; rw [decide_eq_false c]; rfl
  have e2:aVt p l n = .nK:=by unfold aVt; rw [if_neg c]
  rw [hD];rw [e2] at hG;unfold PrA.d PrA.cells at *;refine xX.xQ mixed Tryz.func27 k27 (by simp) fun hf=>?_;simp only [simprocAttr,-ZA,↓zU,↓zD,zV,zT,zW]
  (repeat refine sd ?_)
  refine .go (cr hG) ?_;simp only [simprocAttr,-ZA,↓zU,↓zD,zV,zT,zW,c'];exact .drop (by simp) (by simp [vw,vwL])
 have c':(cN p l n != 0)= false:=by simpa using c
 obtain⟨F,k,hv,rfl,hk,hc,hs⟩:=aZ8 c;have hS:=aY5 hv hc k hs;have e2:aVt p l ((k+1:Nat):Int)= plD p (tQ p l k):=by unfold aVt; rw [if_pos c,Int.toNat_natCast,Nat.add_sub_cancel]
 have hIB:bXl p l ((k+1:Nat):Int)= (List.range k).all fun t=>decide (pK p l (tQ p l k) t=vW p (tQ p l k) t):=by unfold bXl;rw [decide_eq_true c,Int.toNat_natCast,Nat.add_sub_cancel,Bool.true_and]
 rw [hIB,c];rw [e2] at hG;rw [c] at hG;have hpm:=fun t ht=>iJ hv (hS.aDw hv (t:=t) ht (by omega));have hall:∀ t,t<k->iD p l (tQ p l k) t=true:=fun t ht=>(aFu hv hc hs ht).1;have hI:=hv.hI;have hlen:=hS.len;have hrun:=hS.run;generalize tQ p l k=sts at *;have hch:=fun(nx:Nat) (ob:List (Nat × Ob)) t (ht:t<k)=>cU (nx:=nx) (ob:=ob) (x:=plD p sts) sc.len hv.hA (by rw [hlen]; exact hI) (fun st hs=>by rw [hrun st hs]; omega) (by omega) (.pure rfl) (hall t ht);have hw:IntKind.i64.wrap (((k+1:Nat):Int)-1)= (k:Int):=by rw [wrap_i64 (by omega)]; omega
 have hA:=hv.hA;have heq:=fun t=>aAk (pK p l sts t) (vW p sts t) (by rw [aX8]; omega);unfold PrA.d PrA.cells plD plC at *;refine xX.xQ mixed Tryz.func27 k27 (by simp) fun hf=>?_;simp only [simprocAttr,-ZA,↓zU,↓zD,zV,zT,zW]
 (repeat refine sd ?_)
 refine .go (cr hG) ?_;simp only [simprocAttr,-ZA,↓zU,↓zD,zV,zT,zW,hw]
 refine xW (fun t:Nat=>[(25,.int .i64 t),(24,.int .i64 k),(8,.ptr [.int .i64 p.F,.sl 1 (us p.init),.sl 1 (us p.see),.sl 1 (mvR p.xN),.sl 1 (cdR p.code),.sl 1 (rr sts)]),(1,.sl 3 (chR l))]) (fun _=>⟨0,[]⟩) (fun t=>t<=k/\∀ j,j<t->pK p l sts j=vW p sts j) (fun t=>k-t) 0 ⟨Nat.zero_le _,fun j hj=>absurd hj (Nat.not_lt_zero _)⟩ ?_ ?_
 ·(refine xH.ren [] [] (by simp) (by simp) (by decide) ?_; simp only [yZ,vwL,vw,vwF,sw,St.get,St.look,Fr.get,simprocAttr,-ZA,exists_eq_left',ne_eq,zR])
 intro t ⟨ht,hj⟩;refine xP mixed ?_;by_cases htk:t<k
 case neg=>
  have hd:¬ ((t:Int)<(k:Int)):=by omega
  rw [show ((List.range k).all fun t=>decide (pK p l sts t=vW p sts t))= true by rw [List.all_eq_true];exact fun j hj2=>decide_eq_true (hj j (by have:=List.mem_range.1 hj2; omega))]
  simp only [simprocAttr,-ZA,↓zU,↓zD,zV,zT,zW,hd];exact .drop (by simp) (by simp [vw,vwL])
 have hd:((t:Int)<(k:Int)):=by omega
 have h1:=hch 0 [] t htk;have h2:=hpm t (by omega);have h3:=heq t
 have hno:pK p l sts t≠vW p sts t->((List.range k).all fun t=>decide (pK p l sts t=vW p sts t))= false:=fun h=>by rw [List.all_eq_false];exact⟨t,List.mem_range.2 htk,by simpa using h⟩
 have hsu:pK p l sts t=vW p sts t->∀ j,j<t+1->pK p l sts j=vW p sts j:=fun h j hj2=>by
  by_cases e:j=t
  ·rw [e]; exact h
  ·exact hj j (by omega)
 generalize pK p l sts t=M1 at *;generalize vW p sts t=M2 at *;simp only [simprocAttr,-ZA,↓zU,↓zD,zV,zT,zW,hd];refine .go h1 ?_;simp only [simprocAttr,-ZA,↓zU,↓zD,zV,zT,zW];refine .go (cr h2) ?_;simp only [simprocAttr,-ZA,↓zU,↓zD,zV,zT,zW];refine .go (cr h3) ?_
 by_cases hq:M1=M2
 ·rw [decide_eq_true hq];simp only [simprocAttr,-ZA,↓zU,↓zD,zV,zT,zW];refine⟨t+1,⟨by omega,hsu hq⟩,?_,by omega⟩
  (refine xH.ren [] [] (by simp) (by simp) (by decide) ?_; simp only [yZ,vwL,vw,vwF,sw,St.get,St.look,Fr.get,simprocAttr,-ZA,exists_eq_left',ne_eq,zR])
  exact zQ (by omega)
 ·rw [decide_eq_false hq,hno hq];simp only [simprocAttr,-ZA,↓zU,↓zD,zV,zT,zW];exact .drop (by simp) (by simp [vw,vwL])
namespace Ru
end Ru
open Ru
open Ru
namespace Ru
end Ru
namespace Ru
def hT (f:Nat->Int):Nat->List Int
 | 0=>[]
 | k+1=>if 0<k/\f k=f (k-1) then hT f k else hT f k ++ [f k]
theorem aUr {l:List Int} {f:Nat->Int}:∀ {k:Nat},(∀ i,i<k->l.getD i 0=f i)->bX7 l k=hT f k
 | 0,_=>rfl
 | k+1,h=>by
  unfold bX7 hT;rw [h k (by omega)]
  by_cases c:0<k
  ·rw [h (k-1) (by omega),aUr fun i hi=>h i (by omega)]
  ·rw [if_neg (fun e=>c e.1),if_neg (fun e=>c e.1),aUr fun i hi=>h i (by omega)]
theorem aE9 (rs:List zG) (a i t:Nat):bWy rs a (i,t)= hT (fun u=>wE rs a (i,u)) (t+1):=by unfold bWy bUw;simp only [aFf];exact aUr fun j hj=>by simp [aOs,List.getD,hj]
theorem aUm (f:Nat->Int):∀ k,(hT f (k+1)).getLast?=some (f k)
 | 0=>by simp [hT]
 | k+1=>by
  rw [hT]
  by_cases c:0<k+1/\f (k+1)= f (k+1-1)
  ·rw [if_pos c,aUm f k,c.2]; rfl
  ·rw [if_neg c,List.getLast?_concat]
theorem aRk {rs:List zG} {a:Nat} {p q:Nat × Nat} (h:bWy rs a p=bWy rs a q):wE rs a p=wE rs a q:=by obtain⟨i,t⟩:=p;obtain⟨j,u⟩:=q;rw [aE9,aE9] at h;have h1:=aUm (fun u=>wE rs a (i,u)) t;have h2:=aUm (fun v=>wE rs a (j,v)) u;rw [h,h2] at h1;exact(Option.some.inj h1).symm
end Ru
open Rs Fm Ru Te Kb
namespace Kb
instance : DecidableEq zG := fun a b => decidable_of_iff (a.loc = b.loc /\ a.fac = b.fac) (by cases a; cases b; simp)
instance : DecidableEq pF := fun a b => decidable_of_iff (a.ag = b.ag /\ a.fa = b.fa /\ a.ln = b.ln /\ a.rs = b.rs) (by cases a; cases b; simp)
def aDv (x:List Int):List (List Int)->List (List Int)
 | []=>[x]
 | y :: l=>if kc y x<0 then y :: aDv x l else x :: y :: l
def aDz : List (List Int)->List (List Int)
 | []=>[]
 | x :: l=>aDv x (aDz l)
theorem eO (x:List Int):∀ l,(aDv x l).Perm (x :: l)
 | []=>List.Perm.refl _
 | y :: l=>by
  unfold aDv
  split
  ·exact((eO x l).cons y).trans (List.Perm.swap x y l)
  ·exact List.Perm.refl _
theorem aWu : ∀ l,(aDz l).Perm l
 | []=>List.Perm.refl _
 | x :: l=>(eO x _).trans ((aWu l).cons x)
theorem aRe (x:List Int):∀ l,asc l->asc (aDv x l)
 | [],_=>by unfold aDv asc; simp
 | y :: l,h=>by
  have h1:=List.pairwise_cons.1 h;unfold aDv
  split
  ·rename_i hc;refine List.pairwise_cons.2 ⟨fun z hz=>?_,aRe x l h1.2⟩
   rcases List.mem_cons.1 ((eO x l).mem_iff.1 hz) with rfl | hz
   ·have:=oT y z; omega
   ·exact h1.1 z hz
  ·rename_i hc;refine List.pairwise_cons.2 ⟨fun z hz=>?_,h⟩
   rcases List.mem_cons.1 hz with rfl | hz
   ·exact hc
   ·exact kV (h1.1 z hz) hc
theorem aR3 : ∀ l,asc (aDz l)
 | []=>List.Pairwise.nil
 | x :: l=>aRe x _ (aR3 l)
theorem aEf (l:List (List Int)):aYr l=aDz l:=(aM5 (aWu l) (aR3 l)).symm
theorem aWt : aYr=aDz:=funext aEf
def bUk (see:List (BitVec 64)) (sts:List (List (BitVec 64))) (T:Nat):List zG:= aDq (aV1 sts) see.length T fun a p=>below (dedup (aDz ((ptN T ((aV1 sts).length*T)).map (qI see sts a)))) (qI see sts a p)
theorem aSi (see:List (BitVec 64)) (sts:List (List (BitVec 64))) (T:Nat):sS see sts T=bUk see sts T:=by unfold sS aDr bUk aO8;rw [aWt]
def allI (see:List (BitVec 64)) (sts:List (List (BitVec 64))) (T a:Nat):List (List Int):=dedup (aDz ((ptN T (sts.length*T)).map (qI see sts a)))
theorem aEk (see:List (BitVec 64)) (sts:List (List (BitVec 64))) (T a:Nat):gW see sts T a=allI see sts T a:=by unfold gW allI; rw [aWt]
def exT : List Nd:=bW2 (wZ 0) (aQc (rH 1 (wZ 0)))
def exP : PrA:=⟨2,[0#64,1#64],[1#64,2#64],[[⟨1,wZ 0⟩]],[[⟨exT,0⟩],[]]⟩
def exS : pF:=⟨2,2,3,[⟨[[0,0],[2,1],[4,3]],[0#64,0#64,0#64]⟩,⟨[[1,0],[3,2],[5,4]],[1#64,3#64,3#64]⟩]⟩
theorem aWi : zL exP 2 = [[0#64,0#64,0#64],[1#64,3#64,3#64]]:=by decide +kernel
theorem aT7 : iS exP 3=0:=by decide +kernel
theorem aAi : cJ exP 3=exS:=by unfold cJ;rw [if_neg (by rw [aT7]; simp),show (3:Int).toNat=3 from rfl,aWi,aSi];decide +kernel
end Kb
end Go.Pd
