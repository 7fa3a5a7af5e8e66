/- Part LJ. -/
import Derived.Test.YtndfaefmmcoapaaGreatUeLG
import Derived.Test.YtndfaefmmcoapaaGreatUeKG
set_option linter.unusedSectionVars false
set_option linter.unusedVariables false
set_option linter.unusedSimpArgs false
set_option linter.defProp false
set_option maxRecDepth 20000
set_option maxHeartbeats 1000000
namespace Go.Pd
open Go Go.Proofs
open Rs Fm Ru Te Kb
namespace Kb
structure Ext (n : Nat) (sts sts' : List (List (BitVec 64))) : Prop where
 len:sts'.length=sts.length
 run:∀ i,i<sts.length->(stR sts' i).take n=(stR sts i).take n
theorem Ext.refl (n:Nat) (sts:List (List (BitVec 64))):Ext n sts sts:=⟨rfl,fun _ _=>rfl⟩
theorem Ext.trans {n:Nat} {a b c:List (List (BitVec 64))} (h:Ext n a b) (h':Ext n b c):Ext n a c:=⟨h'.len.trans h.len,fun i hi=>(h'.run i (by rw [h.len]; exact hi)).trans (h.run i hi)⟩
theorem Ext.mono {n m:Nat} {a b:List (List (BitVec 64))} (h:Ext n a b) (hm:m<=n):Ext m a b:=⟨h.len,fun i hi=>by
 have:=congrArg (List.take m) (h.run i hi)
 rwa [List.take_take,List.take_take,Nat.min_eq_left hm] at this⟩
section
variable {n t : Nat} {sts sts' : List (List (BitVec 64))} {see : List (BitVec 64)}
theorem Ext.his (h:Ext n sts sts') (ht:t<n) {a r:Nat} (hr:r<sts.length):rC see (stR sts' r) a t=rC see (stR sts r) a t:=by have:=(h.mono (show t+1<=n from ht)).run r hr;unfold rC;rw [this]
theorem all_congr {α:Type} {l:List α} {f g:α->Bool} (h:∀ x ∈ l,f x=g x):l.all f=l.all g:=by
 induction l with
 | nil=>rfl
 | cons x r ih=>rw [List.all_cons,List.all_cons,h x (by simp),ih fun y hy=>h y (by simp [hy])]
variable {p : PrA}
theorem Ext.iS (h:Ext n sts sts') (ht:t<n) {a r:Nat} (hr:r<sts.length):iS p sts' t a r=iS p sts t a r:=h.his ht hr
theorem Ext.jA (h:Ext n sts sts') (ht:t<n) {l:List ChA}:jA p l sts' t=jA p l sts t:=by unfold Kb.jA;rw [h.len];refine all_congr fun a _=>all_congr fun r hr=>?_;rw [h.iS ht (List.mem_range.1 hr)]
theorem Ext.qM (h:Ext n sts sts') (ht:t<n) {l:List ChA}:qM p l sts' t=qM p l sts t:=by unfold Kb.qM mvG;rw [h.len];refine List.map_congr_left fun a _=>List.map_congr_left fun r hr=>?_;rw [h.iS ht (List.mem_range.1 hr)]
theorem aG7 {mv:List (List Int)} (hl:∀ st ∈ sts,n<=st.length):Ext n sts (kZ p sts mv) where
 len:=by simp [kZ]
 run:=fun i hi=>by
  have e:stR (kZ p sts mv) i=stR sts i ++ [aJt p sts mv i]:=by simp [stR,kZ,List.getD,hi]
  rw [e,List.take_append_of_le_length (hl _ (sX hi))]
end
theorem aMg {p:PrA} {F:Nat} (hv:PrV p F) {l:List ChA} (hc:wU p l=0) {n:Nat}:∀ {m:Nat},n<=m->(lA p l m).isSome=true->Ext (n+1) (uD p l n) (uD p l m)
 | 0,h,_=>by
  have:n=0:=by omega
  subst this; exact .refl _ _
 | m+1,h,hs=>by
  by_cases e:n=m+1
  ·subst e; exact .refl _ _
  ·obtain⟨h1,h2,h3⟩:=lO hs;rw [h3];exact(aMg hv hc (m:=m) (by omega) h1).trans (aG7 fun st hs=>by rw [(aYm hv hc m h1).run st hs]; omega)
theorem aUw {p:PrA} {l:List ChA} {n:Nat}:∀ {m:Nat},n<=m->(lA p l m).isSome=true->(lA p l n).isSome=true:=fun h hs=>by
 cases c:(lA p l n).isSome with
 | true=>rfl
 | false=>rw [fF h c] at hs; cases hs
theorem aG4 {p:PrA} {F:Nat} (hv:PrV p F) {l:List ChA} (hc:wU p l=0) {k t:Nat} (hs:(lA p l k).isSome=true) (ht:t<k):jA p l (uD p l k) t=true/\uD p l (t+1)= kZ p (uD p l t) (qM p l (uD p l k) t):=by obtain⟨h1,h2,h3⟩:=lO (aUw (show t+1<=k from ht) hs);have he:=aMg hv hc (n:=t) (m:=k) (by omega) hs;exact⟨by rw [he.jA (by omega)]; exact h2,by rw [he.qM (by omega)]; exact h3⟩
end Kb
end Go.Pd

/- Part LI. -/
namespace Go.Pd
open Go Go.Proofs
open BitVec renaming isValue -> ZA
open Rs Fm Ru Te Kb
namespace Kb
def aE7 (p:PrA) (l:List ChA) (n:Int):qL:=if dY p l n≠0 then⟨0,0,0,[]⟩ else⟨p.see.length,p.F,n,lD p.see (uD p l (n.toNat-1)) n.toNat⟩
def aAy (p:PrA) (l:List ChA) (n:Int):Bool:=decide (dY p l n=0)&& (List.range (n.toNat-1)).all fun t=>decide (qM p l (uD p l (n.toNat-1)) t=vN p (uD p l (n.toNat-1)) t)
end Kb
theorem aOg (p:PrA) (sm:qO p) (l:List ChA) (sc:aYr l) (n:Int):yV Tryz.prog 25 [p.d,.sl 3 (chR l),.int .i64 n] (.tup [(aE7 p l n).d,.int .i64 (dY p l n)]):=by
 have hG:=bV p sm l sc n;by_cases c:dY p l n=0
 case neg=>
  have c':(dY p l n != 0)= true:=by simpa using c
  have hD:(aE7 p l n).d = .agg [.int .i64 0,.int .i64 0,.int .i64 0,.sl 2 []]:=by unfold aE7; rw [if_pos c]; rfl
  have e2:aVb p l n = .oE:=by unfold aVb; rw [if_neg c]
  rw [hD];rw [e2] at hG;unfold PrA.d PrA.cells at *;refine xX.xP mixed Tryz.func25 k25 (by simp) fun hf=>?_;simp only [simprocAttr,-ZA,↓zU,↓zD,zV,zT,zW]
  (repeat refine sd ?_)
  refine .go (cr hG) ?_;simp only [simprocAttr,-ZA,↓zU,↓zD,zV,zT,zW,c']
  (repeat refine sd ?_)
  exact .drop (by simp) (by simp [vw,vwL])
 have c':(dY p l n != 0)= false:=by simpa using c
 obtain⟨F,k,hv,rfl,hk,hc,hs⟩:=aZt c;have hS:=eV hv hk (aYm hv hc k hs)
 have hD:(aE7 p l ((k+1:Nat):Int)).d=sD p.see.length F (k+1) (lD p.see (uD p l k) (k+1)):=by unfold aE7;rw [if_neg (by simpa using c),Int.toNat_natCast,Nat.add_sub_cancel];show D.agg [_,_,_,_]=D.agg [_,_,_,_];rw [hv.fe]
 have e2:aVb p l ((k+1:Nat):Int)= plD p (uD p l k):=by unfold aVb; rw [if_pos c,Int.toNat_natCast,Nat.add_sub_cancel]
 rw [hD];rw [e2] at hG;generalize lD p.see (uD p l k) (k+1)= S at *;generalize uD p l k=sts at *;unfold PrA.d PrA.cells plD plC sD at *;refine xX.xP mixed Tryz.func25 k25 (by simp) fun hf=>?_;simp only [simprocAttr,-ZA,↓zU,↓zD,zV,zT,zW]
 (repeat refine sd ?_)
 refine .go (cr hG) ?_;simp only [simprocAttr,-ZA,↓zU,↓zD,zV,zT,zW,c'];refine .go (cr hS) ?_;simp only [simprocAttr,-ZA,↓zU,↓zD,zV,zT,zW]
 (repeat refine sd ?_)
 exact .drop (by simp) (by simp [vw,vwL]; simpa using c.symm)
theorem bWy (a b:List Int):yV Tryz.prog 86 [.sl 1 (rows .i64 a),.sl 1 (rows .i64 b)] (.bool (decide (a=b))):=by refine xX.xP mixed Tryz.func86 k86 (by simp) fun hf=>?_;simp only [simprocAttr,-ZA,↓zU,↓zD,zV,zT,zW];refine .go (cr (aMi a b)) ?_;simp only [simprocAttr,-ZA,↓zU,↓zD,zV,zT,zW];exact .same
theorem aBv (a b:List (List Int)) (hl:a.length<=1000):yV Tryz.prog 85 [.sl 1 (rl a),.sl 1 (rl b),.fn 86 []] (.bool (decide (a=b))):=by
 refine xX.xP mixed Tryz.func85 k85 (by simp) fun hf=>?_;by_cases h1:a.length=b.length
 case neg=>
  have h1':((a.length:Int) != (b.length:Int))= true:=by simp; omega
  simp only [simprocAttr,-ZA,↓zU,↓zD,zV,zT,zW,zA,h1'];exact .drop (by simp) (by simp only [vw,D.bool.injEq]; symm; apply decide_eq_false; rintro rfl; exact h1 rfl)
 have h1':((a.length:Int) != (b.length:Int))= false:=by simp; omega
 simp only [simprocAttr,-ZA,↓zU,↓zD,zV,zT,zW,zA,h1']
 refine xW (fun k:Nat=>[(17,.int .i64 k),(16,.int .i64 a.length),(15,.sl 1 (rl a)),(2,.fn 86 []),(1,.sl 1 (rl b))]) (fun _=>⟨0,[]⟩) (fun k=>k<=a.length/\∀ i,i<k->a.getD i []=b.getD i []) (fun k=>a.length-k) 0 ⟨Nat.zero_le _,fun i hi=>by omega⟩ ?_ ?_
 ·(refine xI.same ?_; simp [xR,Fr.get])
 intro k ⟨hk,hi⟩;refine xQ mixed ?_
 by_cases h:k<a.length
 ·have hd:((k:Int)<(a.length:Int)):=by omega
  have hd2:((k:Int)<(b.length:Int)):=by omega
  have ga:=nY a h;have gb:=nY b (show k<b.length by omega);have he:=bWy (a.getD k []) (b.getD k [])
  by_cases hb:a.getD k []=b.getD k []
  ·rw [decide_eq_true hb] at he;simp only [simprocAttr,-ZA,↓zU,↓zD,zV,zT,zW,hd,zA,ga,hd2,gb]
   (repeat refine sd ?_)
   refine .go (cr he) ?_;simp only [simprocAttr,-ZA,↓zU,↓zD,zV,zT,zW]
   refine⟨k+1,⟨by omega,fun i hi2=>?_⟩,?_,by omega⟩
   ·by_cases ei:i=k
    ·rw [ei,hb]
    ·exact hi i (by omega)
   (refine xI.same ?_; simp only [xR,Fr.get,simprocAttr,-ZA,zS])
   exact wrap_i64 (by omega)
  ·rw [decide_eq_false hb] at he;simp only [simprocAttr,-ZA,↓zU,↓zD,zV,zT,zW,hd,zA,ga,hd2,gb]
   (repeat refine sd ?_)
   refine .go (cr he) ?_;simp only [simprocAttr,-ZA,↓zU,↓zD,zV,zT,zW];exact .drop (by simp) (by simp only [vw,D.bool.injEq]; symm; apply decide_eq_false; rintro rfl; exact hb rfl)
 ·have hd:¬ ((k:Int)<(a.length:Int)):=by omega
  have hk':k=a.length:=by omega
  subst hk';simp only [simprocAttr,-ZA,↓zU,↓zD,zV,zT,zW,hd];refine .drop (by simp) ?_;simp only [vw,D.bool.injEq]; symm; apply decide_eq_true;refine List.ext_getElem h1 fun i h2 h3=>?_;have:=hi i h2;simpa [List.getD,h2,h3] using this
theorem aW1 (p:PrA) (sm:qO p) (l:List ChA) (sc:aYr l) (n:Int):yV Tryz.prog 27 [p.d,.sl 3 (chR l),.int .i64 n] (.tup [.bool (aAy p l n),.int .i64 (dY p l n)]):=by
 have hG:=bV p sm l sc n;by_cases c:dY p l n=0
 case neg=>
  have c':(dY p l n != 0)= true:=by simpa using c
  have hD:aAy p l n=false:=by unfold aAy; rw [decide_eq_false c]; rfl
  have e2:aVb p l n = .oE:=by unfold aVb; rw [if_neg c]
  rw [hD];rw [e2] at hG;unfold PrA.d PrA.cells at *;refine xX.xP mixed Tryz.func27 k27 (by simp) fun hf=>?_;simp only [simprocAttr,-ZA,↓zU,↓zD,zV,zT,zW]
  (repeat refine sd ?_)
  refine .go (cr hG) ?_;simp only [simprocAttr,-ZA,↓zU,↓zD,zV,zT,zW,c'];exact .drop (by simp) (by simp [vw,vwL])
 have c':(dY p l n != 0)= false:=by simpa using c
 obtain⟨F,k,hv,rfl,hk,hc,hs⟩:=aZt c;have hS:=aYm hv hc k hs;have e2:aVb p l ((k+1:Nat):Int)= plD p (uD p l k):=by unfold aVb; rw [if_pos c,Int.toNat_natCast,Nat.add_sub_cancel]
 have hIB:aAy p l ((k+1:Nat):Int)= (List.range k).all fun t=>decide (qM p l (uD p l k) t=vN p (uD p l k) t):=by unfold aAy;rw [decide_eq_true c,Int.toNat_natCast,Nat.add_sub_cancel,Bool.true_and]
 rw [hIB,c];rw [e2] at hG;rw [c] at hG;have hpm:=fun t ht=>jG hv (hS.aE6 hv (t:=t) ht (by omega));have hall:∀ t,t<k->jA p l (uD p l k) t=true:=fun t ht=>(aG4 hv hc hs ht).1;have hI:=hv.hI;have hlen:=hS.len;have hrun:=hS.run;generalize uD p l k=sts at *;have hch:=fun(nx:Nat) (ob:List (Nat × Ob)) t (ht:t<k)=>eE (nx:=nx) (ob:=ob) (x:=plD p sts) sc.len hv.hA (by rw [hlen]; exact hI) (fun st hs=>by rw [hrun st hs]; omega) (by omega) (.pure rfl) (hall t ht);have hw:IntKind.i64.wrap (((k+1:Nat):Int)-1)= (k:Int):=by rw [wrap_i64 (by omega)]; omega
 have hA:=hv.hA;have heq:=fun t=>aBv (qM p l sts t) (vN p sts t) (by rw [aXq]; omega);unfold PrA.d PrA.cells plD plC at *;refine xX.xP mixed Tryz.func27 k27 (by simp) fun hf=>?_;simp only [simprocAttr,-ZA,↓zU,↓zD,zV,zT,zW]
 (repeat refine sd ?_)
 refine .go (cr hG) ?_;simp only [simprocAttr,-ZA,↓zU,↓zD,zV,zT,zW,hw]
 refine xW (fun t:Nat=>[(25,.int .i64 t),(24,.int .i64 k),(8,.ptr [.int .i64 p.F,.sl 1 (us p.init),.sl 1 (us p.see),.sl 1 (mvR p.xL),.sl 1 (cdR p.code),.sl 1 (rr sts)]),(1,.sl 3 (chR l))]) (fun _=>⟨0,[]⟩) (fun t=>t<=k/\∀ j,j<t->qM p l sts j=vN p sts j) (fun t=>k-t) 0 ⟨Nat.zero_le _,fun j hj=>absurd hj (Nat.not_lt_zero _)⟩ ?_ ?_
 ·(refine xI.ren [] [] (by simp) (by simp) (by decide) ?_; simp only [yQ,vwL,vw,vwF,sw,St.get,St.look,Fr.get,simprocAttr,-ZA,exists_eq_left',ne_eq,zR])
 intro t ⟨ht,hj⟩;refine xQ mixed ?_;by_cases htk:t<k
 case neg=>
  have hd:¬ ((t:Int)<(k:Int)):=by omega
  rw [show ((List.range k).all fun t=>decide (qM p l sts t=vN p sts t))= true by rw [List.all_eq_true];exact fun j hj2=>decide_eq_true (hj j (by have:=List.mem_range.1 hj2; omega))]
  simp only [simprocAttr,-ZA,↓zU,↓zD,zV,zT,zW,hd];exact .drop (by simp) (by simp [vw,vwL])
 have hd:((t:Int)<(k:Int)):=by omega
 have h1:=hch 0 [] t htk;have h2:=hpm t (by omega);have h3:=heq t
 have hno:qM p l sts t≠vN p sts t->((List.range k).all fun t=>decide (qM p l sts t=vN p sts t))= false:=fun h=>by rw [List.all_eq_false];exact⟨t,List.mem_range.2 htk,by simpa using h⟩
 have hsu:qM p l sts t=vN p sts t->∀ j,j<t+1->qM p l sts j=vN p sts j:=fun h j hj2=>by
  by_cases e:j=t
  ·rw [e]; exact h
  ·exact hj j (by omega)
 generalize qM p l sts t=M1 at *;generalize vN p sts t=M2 at *;simp only [simprocAttr,-ZA,↓zU,↓zD,zV,zT,zW,hd];refine .go h1 ?_;simp only [simprocAttr,-ZA,↓zU,↓zD,zV,zT,zW];refine .go (cr h2) ?_;simp only [simprocAttr,-ZA,↓zU,↓zD,zV,zT,zW];refine .go (cr h3) ?_
 by_cases hq:M1=M2
 ·rw [decide_eq_true hq];simp only [simprocAttr,-ZA,↓zU,↓zD,zV,zT,zW];refine⟨t+1,⟨by omega,hsu hq⟩,?_,by omega⟩
  (refine xI.ren [] [] (by simp) (by simp) (by decide) ?_; simp only [yQ,vwL,vw,vwF,sw,St.get,St.look,Fr.get,simprocAttr,-ZA,exists_eq_left',ne_eq,zR])
  exact wI (by omega)
 ·rw [decide_eq_false hq,hno hq];simp only [simprocAttr,-ZA,↓zU,↓zD,zV,zT,zW];exact .drop (by simp) (by simp [vw,vwL])
namespace Ru
theorem iD {α:Type} {l:List α} {f:α->Bool} {d:α} (h:∀ i,i<l.length->f (l.getD i d)= true):l.all f=true:=by rw [List.all_eq_true];intro x hx;obtain⟨i,hi,rfl⟩:=List.getElem_of_mem hx;have:=h i hi;simpa [List.getD,hi] using this
theorem iE {α:Type} {l:List α} {f:α->Bool} {d:α} {k:Nat} (hk:k<l.length) (h:f (l.getD k d)= false):l.all f=false:=by rw [List.all_eq_false];exact⟨_,xN (d:=d) hk,by rw [h]; simp⟩
theorem oP {n:Nat} {f:Nat->Bool} (h:∀ i,i<n->f i=true):(List.range n).all f=true:=by rw [List.all_eq_true];exact fun x hx=>h x (List.mem_range.1 hx)
theorem cL {n k:Nat} {f:Nat->Bool} (hk:k<n) (h:f k=false):(List.range n).all f=false:=by rw [List.all_eq_false];exact⟨k,List.mem_range.2 hk,by rw [h]; simp⟩
def sy1 (rs:List zZ) (p q:Nat × Nat) (a:Nat):Bool:=!(decide (p.2≠q.2)&& decide (zH rs a p=zH rs a q))
def sy2 (rs:List zZ) (A:Nat) (p q:Nat × Nat):Bool:=(List.range A).all (sy1 rs p q)
def sy3 (rs:List zZ) (A:Nat) (l:List (Nat × Nat)) (p:Nat × Nat):Bool:=l.all (sy2 rs A p)
def bE (s:qL):Bool:=decide (chk s=0)&& (dB s).all (sy3 s.rs s.ag.toNat (dB s))
end Ru
open Ru
theorem bYe (s:qL):yV Tryz.prog 39 [s.d] (.bool (bE s)):=by
 have hC:=aUd s;have hP:=aRw s;have hD:s.d = .agg [.int .i64 s.ag,.int .i64 s.fa,.int .i64 s.ln,.sl 2 (uP s.rs)]:=rfl;by_cases hz:chk s=0
 case neg=>
  have e:(chk s==0)= false:=by simpa using hz
  rw [show bE s=false by unfold bE; rw [decide_eq_false hz]; rfl];rw [show dB s = [] by unfold dB; rw [if_pos hz],aNy] at hP;rw [hD] at hC hP ⊢;refine xX.xP mixed Tryz.func39 k39 (by simp) fun hf=>?_;simp only [simprocAttr,-ZA,↓zU,↓zD,zV,zT,zW]
  (repeat refine sd ?_)
  refine .go (cq hP) ?_;simp only [simprocAttr,-ZA,↓zU,↓zD,zV,zT,zW]
  refine xW (fun _:Nat=>[(11,.int .i64 0),(10,.int .i64 0),(9,.sl 2 []),(1,.ref 0 4 0 0)]) (fun _=>⟨1,[(0,⟨4,[[.int .i64 s.ag,.int .i64 s.fa,.int .i64 s.ln,.sl 2 (uP s.rs)]]⟩)]⟩) (fun _=>True) (fun _=>0) 0 trivial ?_ ?_
  ·(refine xI.same ?_; simp [xR,Fr.get])
  intro _ _;refine xQ mixed ?_;simp only [simprocAttr,-ZA,↓zU,↓zD,zV,zT,zW];refine .go (cq hC) ?_;simp only [simprocAttr,-ZA,↓zU,↓zD,zV,zT,zW,e];exact .dv
 obtain⟨A,F,T,rs,rfl,ok⟩:=aBz hz;obtain⟨T1,T16⟩:=ok.hT;have hA:=ok.hA;have ep:dB ⟨A,F,T,rs⟩= ptN T (rs.length*T):=by unfold dB; rw [if_neg (by simpa using hz)]; rfl
 have hin:Inb rs T (dB ⟨A,F,T,rs⟩):=by rw [ep]; exact aTl T1 (Nat.le_refl _)
 have hll:(dB ⟨A,F,T,rs⟩).length<=512:=by rw [ep,tV]; exact ok.hP
 have hs:bE ⟨A,F,T,rs⟩= (dB ⟨A,F,T,rs⟩).all (sy3 rs A (dB ⟨A,F,T,rs⟩)):=by unfold bE; rw [decide_eq_true hz,Bool.true_and]; rfl
 have hloc:=fun(a:Nat) (ha:a<A) (p:Nat × Nat) (hp:p.1<rs.length/\p.2<T)=>aN6 ok ha hp;rw [hz] at hC;generalize dB ⟨A,F,T,rs⟩= l at hP hin hs hll;rw [hs];unfold sD at hloc;rw [hD] at hC hP ⊢;simp only at hC hP ⊢;refine xX.xP mixed Tryz.func39 k39 (by simp) fun hf=>?_;simp only [simprocAttr,-ZA,↓zU,↓zD,zV,zT,zW]
 (repeat refine sd ?_)
 refine .go (cq hP) ?_;simp only [simprocAttr,-ZA,↓zU,↓zD,zV,zT,zW,nR]
 refine xW (fun k:Nat=>[(11,.int .i64 k),(10,.int .i64 l.length),(9,.sl 2 (ptR l)),(1,.ref 0 4 0 0)]) (fun _=>⟨1,[(0,⟨4,[[.int .i64 A,.int .i64 F,.int .i64 T,.sl 2 (uP rs)]]⟩)]⟩)
  (fun k=>k<=l.length/\∀ i,i<k->sy3 rs A l (l.getD i (0,0))= true) (fun k=>l.length-k) 0 ⟨Nat.zero_le _,fun i hi=>absurd hi (Nat.not_lt_zero _)⟩ ?_ ?_
 ·(refine xI.same ?_; simp [xR,Fr.get])
 intro k ⟨hk,hi⟩;refine xQ mixed ?_;by_cases hkl:k<l.length
 case neg=>
  have hd:¬ ((k:Int)<(l.length:Int)):=by omega
  rw [iD (l:=l) (d:=(0,0)) fun i h=>hi i (by omega)];simp only [simprocAttr,-ZA,↓zU,↓zD,zV,zT,zW,hd];refine .go (cq hC) ?_;simp only [simprocAttr,-ZA,↓zU,↓zD,zV,zT,zW];exact .dv
 have hd:((k:Int)<(l.length:Int)):=by omega
 have hp:=hin _ (xN (d:=(0,0)) hkl);have hpg:=aVv l hkl;have hfin:sy3 rs A l (l.getD k (0,0))= false->l.all (sy3 rs A l)= false:=fun h=>iE hkl h
 have hnext:sy3 rs A l (l.getD k (0,0))= true->∀ i,i<k+1->sy3 rs A l (l.getD i (0,0))= true:=fun h i h2=>by
  by_cases e:i=k
  ·rw [e]; exact h
  ·exact hi i (by omega)
 generalize l.getD k (0,0)= p at hp hpg hfin hnext;obtain⟨p1,p2⟩:=p;simp only at hp hpg;simp only [simprocAttr,-ZA,↓zU,↓zD,zV,zT,zW,hd,nR,hpg]
 (repeat refine sd ?_)
 refine .go (cq hP) ?_;simp only [simprocAttr,-ZA,↓zU,↓zD,zV,zT,zW,nR]
 refine xW (fun j:Nat=>[(18,.int .i64 j),(17,.int .i64 l.length),(16,.sl 2 (ptR l)),(11,.int .i64 k),(10,.int .i64 l.length),(9,.sl 2 (ptR l)),(4,.ref 1 2 0 0),(1,.ref 0 4 0 0)]) (fun _=>⟨2,[(1,⟨2,[[.int .i64 p1,.int .i64 p2]]⟩),(0,⟨4,[[.int .i64 A,.int .i64 F,.int .i64 T,.sl 2 (uP rs)]]⟩)]⟩)
  (fun j=>j<=l.length/\∀ i,i<j->sy2 rs A (p1,p2) (l.getD i (0,0))= true) (fun j=>l.length-j) 0 ⟨Nat.zero_le _,fun i hi=>absurd hi (Nat.not_lt_zero _)⟩ ?_ ?_
 ·(refine xI.same ?_; simp [xR,Fr.get])
 intro j ⟨hj,hi2⟩;refine xQ mixed ?_;by_cases hjl:j<l.length
 case neg=>
  have hd2:¬ ((j:Int)<(l.length:Int)):=by omega
  simp only [simprocAttr,-ZA,↓zU,↓zD,zV,zT,zW,hd2]
  (repeat refine sd ?_)
  refine⟨k+1,⟨by omega,hnext (iD (d:=(0,0)) fun i h=>hi2 i (by omega))⟩,?_,by omega⟩
  (refine xI.ren [] [0] (by simp) (by simp) (by decide) ?_; simp only [yQ,vwL,vw,vwF,sw,St.get,St.look,Fr.get,simprocAttr,-ZA,exists_eq_left',ne_eq,zR])
  exact wrap_i64 (by omega)
 have hd2:((j:Int)<(l.length:Int)):=by omega
 have hq:=hin _ (xN (d:=(0,0)) hjl);have hqg:=aVv l hjl;have hfin2:sy2 rs A (p1,p2) (l.getD j (0,0))= false->sy3 rs A l (p1,p2)= false:=fun h=>iE hjl h
 have hnext2:sy2 rs A (p1,p2) (l.getD j (0,0))= true->∀ i,i<j+1->sy2 rs A (p1,p2) (l.getD i (0,0))= true:=fun h i h2=>by
  by_cases e:i=j
  ·rw [e]; exact h
  ·exact hi2 i (by omega)
 generalize l.getD j (0,0)= q at hq hqg hfin2 hnext2;obtain⟨q1,q2⟩:=q;simp only at hq hqg;simp only [simprocAttr,-ZA,↓zU,↓zD,zV,zT,zW,hd2,nR,hqg]
 (repeat refine sd ?_)
 refine xW (fun a:Nat=>[(24,.int .i64 a),(23,.int .i64 A),(18,.int .i64 j),(17,.int .i64 l.length),(16,.sl 2 (ptR l)),(11,.int .i64 k),(10,.int .i64 l.length),(9,.sl 2 (ptR l)),(6,.ref 2 2 0 0),(4,.ref 1 2 0 0),(1,.ref 0 4 0 0)]) (fun _=>⟨3,[(2,⟨2,[[.int .i64 q1,.int .i64 q2]]⟩),(1,⟨2,[[.int .i64 p1,.int .i64 p2]]⟩),(0,⟨4,[[.int .i64 A,.int .i64 F,.int .i64 T,.sl 2 (uP rs)]]⟩)]⟩)
  (fun a=>a<=A/\∀ i,i<a->sy1 rs (p1,p2) (q1,q2) i=true) (fun a=>A-a) 0 ⟨Nat.zero_le _,fun i hi=>absurd hi (Nat.not_lt_zero _)⟩ ?_ ?_
 ·(refine xI.same ?_; simp [xR,Fr.get])
 intro a ⟨ha,hi3⟩;refine xQ mixed ?_;by_cases hal:a<A
 case neg=>
  have hd3:¬ ((a:Int)<(A:Int)):=by omega
  simp only [simprocAttr,-ZA,↓zU,↓zD,zV,zT,zW,hd3]
  (repeat refine sd ?_)
  refine⟨j+1,⟨by omega,hnext2 (oP fun i h=>hi3 i (by omega))⟩,?_,by omega⟩
  (refine xI.ren [] [1,0] (by simp) (by simp) (by decide) ?_; simp only [yQ,vwL,vw,vwF,sw,St.get,St.look,Fr.get,simprocAttr,-ZA,exists_eq_left',ne_eq,zR])
  exact wrap_i64 (by omega)
 have hd3:((a:Int)<(A:Int)):=by omega
 have hnext3:sy1 rs (p1,p2) (q1,q2) a=true->∀ i,i<a+1->sy1 rs (p1,p2) (q1,q2) i=true:=fun h i h2=>by
  by_cases e:i=a
  ·rw [e]; exact h
  ·exact hi3 i (by omega)
 have hfin3:sy1 rs (p1,p2) (q1,q2) a=false->l.all (sy3 rs A l)= false:=fun h=>hfin (hfin2 (cL hal h));have l1:=hloc a hal (p1,p2) hp;have l2:=hloc a hal (q1,q2) hq;unfold sy1 at hnext3 hfin3;simp only at l1 l2 hnext3 hfin3;generalize zH rs a (p1,p2)= x at l1 hnext3 hfin3;generalize zH rs a (q1,q2)= y at l2 hnext3 hfin3
 by_cases hne:p2=q2
 ·have hb:((p2:Int) != (q2:Int))= false:=by rw [hne]; simp
  simp only [simprocAttr,-ZA,↓zU,↓zD,zV,zT,zW,hd3,hb]
  (repeat refine sd ?_)
  refine⟨a+1,⟨by omega,hnext3 (by simp [hne])⟩,?_,by omega⟩
  (refine xI.same ?_; simp only [xR,Fr.get,simprocAttr,-ZA,zS])
  exact wrap_i64 (by omega)
 have hb:((p2:Int) != (q2:Int))= true:=by simp; omega
 simp only [simprocAttr,-ZA,↓zU,↓zD,zV,zT,zW,hd3,hb]
 (repeat refine sd ?_)
 refine .go (cr l1) ?_;simp only [simprocAttr,-ZA,↓zU,↓zD,zV,zT,zW];refine .go (cr l2) ?_
 by_cases hxy:x=y
 ·have hb2:(x==y)= true:=by simpa using hxy
  simp only [simprocAttr,-ZA,↓zU,↓zD,zV,zT,zW,hb2];rw [hfin3 (by simp [hne,hxy])];exact .dv
 ·have hb2:(x==y)= false:=by simpa using hxy
  simp only [simprocAttr,-ZA,↓zU,↓zD,zV,zT,zW,hb2];refine⟨a+1,⟨by omega,hnext3 (by simp [hxy])⟩,?_,by omega⟩
  (refine xI.same ?_; simp only [xR,Fr.get,simprocAttr,-ZA,zS])
  exact wrap_i64 (by omega)
end Go.Pd
