/- Part LI. -/
import Derived.Test.YtndfaefmmcoapaaGreatUoLH
import Derived.Test.YtndfaefmmcoapaaGreatUoKG
import Derived.Test.YtndfaefmmcoapaaGreatUoKI
set_option linter.unusedSectionVars false
set_option linter.unusedVariables false
set_option linter.unusedSimpArgs false
set_option linter.defProp false
set_option maxRecDepth 20000
set_option maxHeartbeats 1000000
namespace Go.Pd
open Go Go.Proofs
open BitVec renaming isValue -> ZA
open Rs Fm Ru Te Kb
namespace Kb
def aPy (p:PrA) (l:List ChA) (n:Int):aXk:=if mX p l n≠0 then⟨0,0,0,[]⟩ else⟨p.see.length,p.F,n,eC p.see (vD p l (n.toNat-1)) n.toNat⟩
def aPq (p:PrA) (l:List ChA) (n:Int):Bool:=decide (mX p l n=0)&& (List.range (n.toNat-1)).all fun t=>decide (rX p l (vD p l (n.toNat-1)) t=wV p (vD p l (n.toNat-1)) t)
end Kb
theorem cD (p:PrA) (sm:qO p) (l:List ChA) (sc:gX l) (n:Int):yT Tryz.prog 25 [p.d,.sl 3 (chR l),.int .i64 n] (.tup [(aPy p l n).d,.int .i64 (mX p l n)]):=by
 have hG:=cQ p sm l sc n;by_cases c:mX p l n=0
 case neg=>
  have c':(mX p l n != 0)= true:=by simpa using c
  have hD:(aPy p l n).d = .agg [.int .i64 0,.int .i64 0,.int .i64 0,.sl 2 []]:=by unfold aPy; rw [if_pos c]; rfl
  have e2:aWo p l n = .oG:=by unfold aWo; rw [if_neg c]
  rw [hD];rw [e2] at hG;unfold PrA.d PrA.cells at *;refine xX.xR mixed Tryz.func25 k25 (by simp) fun hf=>?_;simp only [simprocAttr,-ZA,↓zU,↓zD,zV,zT,zW]
  (repeat refine sd ?_)
  refine .go (cr hG) ?_;simp only [simprocAttr,-ZA,↓zU,↓zD,zV,zT,zW,c']
  (repeat refine sd ?_)
  exact .drop (by simp) (by simp [vw,vwL])
 have c':(mX p l n != 0)= false:=by simpa using c
 obtain⟨F,k,hv,rfl,hk,hc,hs⟩:=fT c;have hS:=fI hv hk (aX0 hv hc k hs)
 have hD:(aPy p l ((k+1:Nat):Int)).d=sD p.see.length F (k+1) (eC p.see (vD p l k) (k+1)):=by unfold aPy;rw [if_neg (by simpa using c),Int.toNat_natCast,Nat.add_sub_cancel];show D.agg [_,_,_,_]=D.agg [_,_,_,_];rw [hv.fe]
 have e2:aWo p l ((k+1:Nat):Int)= plD p (vD p l k):=by unfold aWo; rw [if_pos c,Int.toNat_natCast,Nat.add_sub_cancel]
 rw [hD];rw [e2] at hG;generalize eC p.see (vD p l k) (k+1)= S at *;generalize vD p l k=sts at *;unfold PrA.d PrA.cells plD plC sD at *;refine xX.xR mixed Tryz.func25 k25 (by simp) fun hf=>?_;simp only [simprocAttr,-ZA,↓zU,↓zD,zV,zT,zW]
 (repeat refine sd ?_)
 refine .go (cr hG) ?_;simp only [simprocAttr,-ZA,↓zU,↓zD,zV,zT,zW,c'];refine .go (cr hS) ?_;simp only [simprocAttr,-ZA,↓zU,↓zD,zV,zT,zW]
 (repeat refine sd ?_)
 exact .drop (by simp) (by simp [vw,vwL]; simpa using c.symm)
theorem bY6 (a b:List Int):yT Tryz.prog 86 [.sl 1 (rows .i64 a),.sl 1 (rows .i64 b)] (.bool (decide (a=b))):=by refine xX.xR mixed Tryz.func86 k86 (by simp) fun hf=>?_;simp only [simprocAttr,-ZA,↓zU,↓zD,zV,zT,zW];refine .go (cr (aD6 a b)) ?_;simp only [simprocAttr,-ZA,↓zU,↓zD,zV,zT,zW];exact .same
theorem aD5 (a b:List (List Int)) (hl:a.length<=1000):yT Tryz.prog 85 [.sl 1 (rl a),.sl 1 (rl b),.fn 86 []] (.bool (decide (a=b))):=by
 refine xX.xR mixed Tryz.func85 k85 (by simp) fun hf=>?_;by_cases h1:a.length=b.length
 case neg=>
  have h1':((a.length:Int) != (b.length:Int))= true:=by simp; omega
  simp only [simprocAttr,-ZA,↓zU,↓zD,zV,zT,zW,uR,h1'];exact .drop (by simp) (by simp only [vw,D.bool.injEq]; symm; apply decide_eq_false; rintro rfl; exact h1 rfl)
 have h1':((a.length:Int) != (b.length:Int))= false:=by simp; omega
 simp only [simprocAttr,-ZA,↓zU,↓zD,zV,zT,zW,uR,h1']
 refine xW (fun k:Nat=>[(17,.int .i64 k),(16,.int .i64 a.length),(15,.sl 1 (rl a)),(2,.fn 86 []),(1,.sl 1 (rl b))]) (fun _=>⟨0,[]⟩) (fun k=>k<=a.length/\∀ i,i<k->a.getD i []=b.getD i []) (fun k=>a.length-k) 0 ⟨Nat.zero_le _,fun i hi=>by omega⟩ ?_ ?_
 ·(refine xI.same ?_; simp [xP,Fr.get])
 intro k ⟨hk,hi⟩;refine xN mixed ?_
 by_cases h:k<a.length
 ·have hd:((k:Int)<(a.length:Int)):=by omega
  have hd2:((k:Int)<(b.length:Int)):=by omega
  have ga:=dY a h;have gb:=dY b (show k<b.length by omega);have he:=bY6 (a.getD k []) (b.getD k [])
  by_cases hb:a.getD k []=b.getD k []
  ·rw [decide_eq_true hb] at he;simp only [simprocAttr,-ZA,↓zU,↓zD,zV,zT,zW,hd,uR,ga,hd2,gb]
   (repeat refine sd ?_)
   refine .go (cr he) ?_;simp only [simprocAttr,-ZA,↓zU,↓zD,zV,zT,zW]
   refine⟨k+1,⟨by omega,fun i hi2=>?_⟩,?_,by omega⟩
   ·by_cases ei:i=k
    ·rw [ei,hb]
    ·exact hi i (by omega)
   (refine xI.same ?_; simp only [xP,Fr.get,↓reduceIte,reduceIte,Nat.reduceEqDiff,reduceCtorEq,D.int.injEq,D.bool.injEq,D.sl.injEq,and_true,true_and,and_self])
   exact wrap_i64 (by omega)
  ·rw [decide_eq_false hb] at he;simp only [simprocAttr,-ZA,↓zU,↓zD,zV,zT,zW,hd,uR,ga,hd2,gb]
   (repeat refine sd ?_)
   refine .go (cr he) ?_;simp only [simprocAttr,-ZA,↓zU,↓zD,zV,zT,zW];exact .drop (by simp) (by simp only [vw,D.bool.injEq]; symm; apply decide_eq_false; rintro rfl; exact hb rfl)
 ·have hd:¬ ((k:Int)<(a.length:Int)):=by omega
  have hk':k=a.length:=by omega
  subst hk';simp only [simprocAttr,-ZA,↓zU,↓zD,zV,zT,zW,hd];refine .drop (by simp) ?_;simp only [vw,D.bool.injEq]; symm; apply decide_eq_true;refine List.ext_getElem h1 fun i h2 h3=>?_;have:=hi i h2;simpa [List.getD,h2,h3] using this
theorem jF (p:PrA) (sm:qO p) (l:List ChA) (sc:gX l) (n:Int):yT Tryz.prog 27 [p.d,.sl 3 (chR l),.int .i64 n] (.tup [.bool (aPq p l n),.int .i64 (mX p l n)]):=by
 have hG:=cQ p sm l sc n;by_cases c:mX p l n=0
 case neg=>
  have c':(mX p l n != 0)= true:=by simpa using c
  have hD:aPq p l n=false:=by unfold aPq; rw [decide_eq_false c]; rfl
  have e2:aWo p l n = .oG:=by unfold aWo; rw [if_neg c]
  rw [hD];rw [e2] at hG;unfold PrA.d PrA.cells at *;refine xX.xR mixed Tryz.func27 k27 (by simp) fun hf=>?_;simp only [simprocAttr,-ZA,↓zU,↓zD,zV,zT,zW]
  (repeat refine sd ?_)
  refine .go (cr hG) ?_;simp only [simprocAttr,-ZA,↓zU,↓zD,zV,zT,zW,c'];exact .drop (by simp) (by simp [vw,vwL])
 have c':(mX p l n != 0)= false:=by simpa using c
 obtain⟨F,k,hv,rfl,hk,hc,hs⟩:=fT c;have hS:=aX0 hv hc k hs;have e2:aWo p l ((k+1:Nat):Int)= plD p (vD p l k):=by unfold aWo; rw [if_pos c,Int.toNat_natCast,Nat.add_sub_cancel]
 have hIB:aPq p l ((k+1:Nat):Int)= (List.range k).all fun t=>decide (rX p l (vD p l k) t=wV p (vD p l k) t):=by unfold aPq;rw [decide_eq_true c,Int.toNat_natCast,Nat.add_sub_cancel,Bool.true_and]
 rw [hIB,c];rw [e2] at hG;rw [c] at hG;have hpm:=fun t ht=>jK hv (hS.aFj hv (t:=t) ht (by omega));have hall:∀ t,t<k->mZ p l (vD p l k) t=true:=fun t ht=>(aO hv hc hs ht).1;have hI:=hv.hI;have hlen:=hS.len;have hrun:=hS.run;generalize vD p l k=sts at *;have hch:=fun(nx:Nat) (ob:List (Nat × Ob)) t (ht:t<k)=>eR (nx:=nx) (ob:=ob) (x:=plD p sts) sc.len hv.hA (by rw [hlen]; exact hI) (fun st hs=>by rw [hrun st hs]; omega) (by omega) (.pure rfl) (hall t ht);have hw:IntKind.i64.wrap (((k+1:Nat):Int)-1)= (k:Int):=by rw [wrap_i64 (by omega)]; omega
 have hA:=hv.hA;have heq:=fun t=>aD5 (rX p l sts t) (wV p sts t) (by rw [aI]; omega);unfold PrA.d PrA.cells plD plC at *;refine xX.xR mixed Tryz.func27 k27 (by simp) fun hf=>?_;simp only [simprocAttr,-ZA,↓zU,↓zD,zV,zT,zW]
 (repeat refine sd ?_)
 refine .go (cr hG) ?_;simp only [simprocAttr,-ZA,↓zU,↓zD,zV,zT,zW,hw]
 refine xW (fun t:Nat=>[(25,.int .i64 t),(24,.int .i64 k),(8,.ptr [.int .i64 p.F,.sl 1 (us p.init),.sl 1 (us p.see),.sl 1 (mvR p.xM),.sl 1 (cdR p.code),.sl 1 (rr sts)]),(1,.sl 3 (chR l))]) (fun _=>⟨0,[]⟩) (fun t=>t<=k/\∀ j,j<t->rX p l sts j=wV p sts j) (fun t=>k-t) 0 ⟨Nat.zero_le _,fun j hj=>absurd hj (Nat.not_lt_zero _)⟩ ?_ ?_
 ·(refine xI.ren [] [] (by simp) (by simp) (by decide) ?_; simp only [yJ,vwL,vw,vwF,sw,St.get,St.look,Fr.get,↓reduceIte,reduceIte,Nat.reduceEqDiff,Nat.reduceAdd,Nat.reduceBEq,Nat.reduceLT,Nat.reduceLeDiff,exists_eq_left',ne_eq,reduceCtorEq,zR])
 intro t ⟨ht,hj⟩;refine xN mixed ?_;by_cases htk:t<k
 case neg=>
  have hd:¬ ((t:Int)<(k:Int)):=by omega
  rw [show ((List.range k).all fun t=>decide (rX p l sts t=wV p sts t))= true by rw [List.all_eq_true];exact fun j hj2=>decide_eq_true (hj j (by have:=List.mem_range.1 hj2; omega))]
  simp only [simprocAttr,-ZA,↓zU,↓zD,zV,zT,zW,hd];exact .drop (by simp) (by simp [vw,vwL])
 have hd:((t:Int)<(k:Int)):=by omega
 have h1:=hch 0 [] t htk;have h2:=hpm t (by omega);have h3:=heq t
 have hno:rX p l sts t≠wV p sts t->((List.range k).all fun t=>decide (rX p l sts t=wV p sts t))= false:=fun h=>by rw [List.all_eq_false];exact⟨t,List.mem_range.2 htk,by simpa using h⟩
 have hsu:rX p l sts t=wV p sts t->∀ j,j<t+1->rX p l sts j=wV p sts j:=fun h j hj2=>by
  by_cases e:j=t
  ·rw [e]; exact h
  ·exact hj j (by omega)
 generalize rX p l sts t=M1 at *;generalize wV p sts t=M2 at *;simp only [simprocAttr,-ZA,↓zU,↓zD,zV,zT,zW,hd];refine .go h1 ?_;simp only [simprocAttr,-ZA,↓zU,↓zD,zV,zT,zW];refine .go (cr h2) ?_;simp only [simprocAttr,-ZA,↓zU,↓zD,zV,zT,zW];refine .go (cr h3) ?_
 by_cases hq:M1=M2
 ·rw [decide_eq_true hq];simp only [simprocAttr,-ZA,↓zU,↓zD,zV,zT,zW];refine⟨t+1,⟨by omega,hsu hq⟩,?_,by omega⟩
  (refine xI.ren [] [] (by simp) (by simp) (by decide) ?_; simp only [yJ,vwL,vw,vwF,sw,St.get,St.look,Fr.get,↓reduceIte,reduceIte,Nat.reduceEqDiff,Nat.reduceAdd,Nat.reduceBEq,Nat.reduceLT,Nat.reduceLeDiff,exists_eq_left',ne_eq,reduceCtorEq,zR])
  exact zI (by omega)
 ·rw [decide_eq_false hq,hno hq];simp only [simprocAttr,-ZA,↓zU,↓zD,zV,zT,zW];exact .drop (by simp) (by simp [vw,vwL])
namespace Ru
end Ru
open Ru
open Ru
namespace Ru
end Ru
namespace Ru
def hT (f:Nat->Int):Nat->List Int
 | 0=>[]
 | k+1=>if 0<k/\f k=f (k-1) then hT f k else hT f k ++ [f k]
end Ru
open Rs Fm Ru Te Kb
namespace Kb
instance : DecidableEq wC := fun a b => decidable_of_iff (a.loc = b.loc /\ a.fac = b.fac) (by cases a; cases b; simp)
instance : DecidableEq aXk := fun a b => decidable_of_iff (a.ag = b.ag /\ a.fa = b.fa /\ a.ln = b.ln /\ a.rs = b.rs) (by cases a; cases b; simp)
def aFi (x:List Int):List (List Int)->List (List Int)
 | []=>[x]
 | y :: l=>if kc y x<0 then y :: aFi x l else x :: y :: l
def aFl : List (List Int)->List (List Int)
 | []=>[]
 | x :: l=>aFi x (aFl l)
theorem fW (x:List Int):∀ l,(aFi x l).Perm (x :: l)
 | []=>List.Perm.refl _
 | y :: l=>by
  unfold aFi
  split
  ·exact((fW x l).cons y).trans (List.Perm.swap x y l)
  ·exact List.Perm.refl _
theorem aZp : ∀ l,(aFl l).Perm l
 | []=>List.Perm.refl _
 | x :: l=>(fW x _).trans ((aZp l).cons x)
theorem aT8 (x:List Int):∀ l,asc l->asc (aFi x l)
 | [],_=>by unfold aFi asc; simp
 | y :: l,h=>by
  have h1:=List.pairwise_cons.1 h;unfold aFi
  split
  ·rename_i hc;refine List.pairwise_cons.2 ⟨fun z hz=>?_,aT8 x l h1.2⟩
   rcases List.mem_cons.1 ((fW x l).mem_iff.1 hz) with rfl | hz
   ·have:=nP y z; omega
   ·exact h1.1 z hz
  ·rename_i hc;refine List.pairwise_cons.2 ⟨fun z hz=>?_,h⟩
   rcases List.mem_cons.1 hz with rfl | hz
   ·exact hc
   ·exact lT (h1.1 z hz) hc
theorem aSz : ∀ l,asc (aFl l)
 | []=>List.Pairwise.nil
 | x :: l=>aT8 x _ (aSz l)
theorem aH4 (l:List (List Int)):aWi l=aFl l:=(aNh (aZp l) (aSz l)).symm
theorem aZo : aWi=aFl:=funext aH4
def bZp (see:List (BitVec 64)) (sts:List (List (BitVec 64))) (T:Nat):List wC:= aC3 (aWu sts) see.length T fun a p=>below (dedup (aFl ((ptN T ((aWu sts).length*T)).map (qJ see sts a)))) (qJ see sts a p)
theorem aU8 (see:List (BitVec 64)) (sts:List (List (BitVec 64))) (T:Nat):eC see sts T=bZp see sts T:=by unfold eC bX3 bZp aBw;rw [aZo]
def allI (see:List (BitVec 64)) (sts:List (List (BitVec 64))) (T a:Nat):List (List Int):=dedup (aFl ((ptN T (sts.length*T)).map (qJ see sts a)))
theorem aGa (see:List (BitVec 64)) (sts:List (List (BitVec 64))) (T a:Nat):lB see sts T a=allI see sts T a:=by unfold lB allI; rw [aZo]
def exT : List Nd:=bYb (qC 0) (aC4 (aXq 1 (qC 0)))
def exP : PrA:=⟨2,[0#64,1#64],[1#64,2#64],[[⟨1,qC 0⟩]],[[⟨exT,0⟩],[]]⟩
def exS : aXk:=⟨2,2,3,[⟨[[0,0],[2,1],[4,3]],[0#64,0#64,0#64]⟩,⟨[[1,0],[3,2],[5,4]],[1#64,3#64,3#64]⟩]⟩
theorem aZe : yN exP 2 = [[0#64,0#64,0#64],[1#64,3#64,3#64]]:=by decide +kernel
theorem aUy : lD exP 3=0:=by decide +kernel
theorem aD3 : oC exP 3=exS:=by unfold oC;rw [if_neg (by rw [aUy]; simp),show (3:Int).toNat=3 from rfl,aZe,aU8];decide +kernel
end Kb
open Rs Fm Ru Te Kb
def Nw (d d':D):Prop:=∀ (M:Nat->Prop) (w:World) (v:Value),RP M w v d->RP M w v d'
theorem Nw.refl (d:D):Nw d d:=fun _ _ _ h=>h
theorem Nw.xH (sz:Nat):Nw .xH (.sl sz []):=fun _ _ v h=>by cases h;exact .sl0 _ _ _ (by simp)
theorem Nw.sl {sz:Nat} {els els':List (List D)} (hl:els.length=els'.length) (hw:∀ e ∈ els',e.length=sz)
  (h:∀ i,i<els.length->∀ j,j<sz->Nw ((els.getD i []).getD j .top) ((els'.getD i []).getD j .top)):Nw (.sl sz els) (.sl sz els'):=fun M w v hv=>by
 cases hv with
 | sl0 a cap sz hh=> have:els' = []:=List.length_eq_zero_iff.1 (by simpa using hl.symm);subst this;exact .sl0 _ _ _ hh
 | sl vs hs hM hc hm hl2 hcell hr=>
  have:=RP.sl (M:=M) (w:=w) (sz:=sz) (els:=els') vs hs hM (by omega) hm hw (by rw [<- hl]; exact hcell) (by rw [<- hl]; exact fun i hi j hj=>h i hi j hj M w _ (hr i hi j hj))
  rwa [<- hl] at this
theorem Nw.agg {ds cs:List D} (hl:ds.length=cs.length) (h:∀ j,j<cs.length->Nw (ds.getD j .top) (cs.getD j .top)):Nw (.agg ds) (.agg cs):=fun M w v hv=>by
 cases hv with
 | agg h1 h2=>exact .agg (by omega) fun j hj=>h j hj M w _ (h2 j (by omega))
theorem Nw.seen {σ:St} {K:Nat->Prop} {d d':D} (h:Nw d d') (hp:d.xG=true):Seen σ K d d':=fun M0 w ι v hS hR=>h _ _ _ (Seen.pure hp M0 w ι v hS hR)
theorem yT.seen {P:Program} {g:FuncId} {args args':List D} {d:D} (hc:yT P g args' d) (h:mV St0 (fun _=>False) args args'):yT P g args d:= xX.bYl (σ:=St0) (objs':=[]) (fun _=>False) hc h fun k o hk=>by cases hk
theorem bZn (f g:List Nd):yT Tryz.prog 92 [.sl 6 (ndR f),.sl 6 (ndR g)] (.sl 6 (ndR (bYb f g))):=by
 refine xX.xR mixed Tryz.func92 k92 (by simp) fun hf=>?_;simp only [simprocAttr,-ZA,↓zU,↓zD,zV,zT,zW]
 (repeat refine sd ?_)
 refine .go (xX.yR (bJ ⟨5,0,0,0,0,0⟩ [f,g] (by simp)) (by simp [D.xU,D.xG,Nd.row,nl])) ?_;simp only [simprocAttr,-ZA,↓zU,↓zD,zV,zT,zW];exact .same
theorem aEj (a b:wC):decide (a=b)= (decide (a.fac=b.fac)&& decide (a.loc=b.loc)):=by cases a; cases b;rw [Bool.eq_iff_iff];simp [and_comm]
theorem aMd (a b:wC) (h1:a.fac.length<=1000000) (h2:a.loc.length<=1000000) (h3:∀ l ∈ a.loc,l.length<=1000000):yT Tryz.prog 81 [.agg a.row,.agg b.row] (.bool (decide (a=b))):=by
 rw [aEj];have hA:a.row = [.sl 1 (rl a.loc),.sl 1 (us a.fac)]:=rfl;have hB:b.row = [.sl 1 (rl b.loc),.sl 1 (us b.fac)]:=rfl;rw [hA,hB];cases a with | mk la fa=>
 cases b with | mk lb fb=>
 simp only at h1 h2 h3 ⊢;refine xX.xR mixed Tryz.func81 k81 (by simp) fun hf=>?_;by_cases c1:fa.length=fb.length
 case neg=>
  have q1:((fa.length:Int) != (fb.length:Int))= true:=by simpa using fun c=>c1 (by omega)
  rw [decide_eq_false (fun c=>c1 (congrArg List.length c))];simp only [simprocAttr,-ZA,↓zU,↓zD,zV,zT,zW,xQ,uR,q1];exact .drop (by simp) (by simp [vw])
 have q1:((fa.length:Int) != (fb.length:Int))= false:=by rw [c1]; simp
 by_cases c2:la.length=lb.length
 case neg=>
  have q2:((la.length:Int) != (lb.length:Int))= true:=by simpa using fun c=>c2 (by omega)
  rw [decide_eq_false (p:=la=lb) (fun c=>c2 (congrArg List.length c)),Bool.and_false];simp only [simprocAttr,-ZA,↓zU,↓zD,zV,zT,zW,xQ,uR,q1,q2];exact .drop (by simp) (by simp [vw])
 have q2:((la.length:Int) != (lb.length:Int))= false:=by rw [c2]; simp
 simp only [simprocAttr,-ZA,↓zU,↓zD,zV,zT,zW,xQ,uR,q1,q2]
 refine xW (fun k:Nat=>[(5,.int .i64 k),(3,.ref 1 2 0 0),(2,.ref 0 2 0 0)]) (fun _=>⟨2,[(1,⟨2,[[.sl 1 (rl lb),.sl 1 (us fb)]]⟩),(0,⟨2,[[.sl 1 (rl la),.sl 1 (us fa)]]⟩)]⟩)
  (fun k=>k<=fa.length/\decide (fa=fb)= decide (fa.drop k=fb.drop k)) (fun k=>fa.length-k) 0 ⟨Nat.zero_le _,rfl⟩ ?_ ?_
 ·(refine xI.same ?_; simp [xP,Fr.get])
 rintro k ⟨hk,hd⟩;refine xN mixed ?_
 by_cases h:k<fa.length
 ·have q:((k:Int)<(fa.length:Int)):=by omega
  rw [hd,mF (d:=0#64) h (by omega)]
  by_cases e:fa.getD k 0#64=fb.getD k 0#64
  ·rw [decide_eq_true e,Bool.true_and];have e':(fa.getD k 0 != fb.getD k 0)= false:=by show (fa.getD k 0#64 != fb.getD k 0#64)= false; rw [e]; simp
   simp only [simprocAttr,-ZA,↓zU,↓zD,zV,zT,zW,q,xQ,wS fa h,wS fb (show k<fb.length by omega),e']
   (repeat refine sd ?_)
   refine⟨k+1,⟨h,rfl⟩,?_,by omega⟩
   (refine xI.same ?_; simp only [xP,Fr.get,↓reduceIte,reduceIte,Nat.reduceEqDiff,reduceCtorEq,D.int.injEq,D.bool.injEq,D.sl.injEq,and_true,true_and,and_self])
   exact tC (by omega)
  ·rw [decide_eq_false e,Bool.false_and,Bool.false_and];have e':(fa.getD k 0 != fb.getD k 0)= true:=by simpa using e
   simp only [simprocAttr,-ZA,↓zU,↓zD,zV,zT,zW,q,xQ,wS fa h,wS fb (show k<fb.length by omega),e']
   (repeat refine sd ?_)
   exact .drop (by simp) (by simp [vw])
 have q:¬ ((k:Int)<(fa.length:Int)):=by omega
 have hf:decide (fa=fb)= true:=by rw [hd,List.drop_eq_nil_of_le (by omega),List.drop_eq_nil_of_le (by omega)]; simp
 rw [hf,Bool.true_and];simp only [simprocAttr,-ZA,↓zU,↓zD,zV,zT,zW,q,xQ]
 refine xW (fun k:Nat=>[(6,.int .i64 k),(3,.ref 1 2 0 0),(2,.ref 0 2 0 0)]) (fun _=>⟨2,[(1,⟨2,[[.sl 1 (rl lb),.sl 1 (us fb)]]⟩),(0,⟨2,[[.sl 1 (rl la),.sl 1 (us fa)]]⟩)]⟩)
  (fun k=>k<=la.length/\decide (la=lb)= decide (la.drop k=lb.drop k)) (fun k=>la.length-k) 0 ⟨Nat.zero_le _,rfl⟩ ?_ ?_
 ·(refine xI.same ?_; simp [xP,Fr.get])
 rintro k ⟨hk,hd⟩;refine xN mixed ?_;by_cases h:k<la.length
 case neg=>
  have q:¬ ((k:Int)<(la.length:Int)):=by omega
  rw [hd,List.drop_eq_nil_of_le (by omega),List.drop_eq_nil_of_le (by omega)];simp only [simprocAttr,-ZA,↓zU,↓zD,zV,zT,zW,q,uR];exact .drop (by simp) (by simp [vw])
 have q:((k:Int)<(la.length:Int)):=by omega
 have h3k:=h3 _ (xK (d:=[]) h);have g1:=dY la h;have g2:=dY lb (show k<lb.length by omega);have hd2:=hd;rw [mF (d:=[]) h (by omega)] at hd2;rw [hd2];generalize la.getD k []=x at *;generalize lb.getD k []=y at *;by_cases c3:x.length=y.length
 case neg=>
  have q3:((x.length:Int) != (y.length:Int))= true:=by simpa using fun c=>c3 (by omega)
  rw [decide_eq_false (fun c=>c3 (congrArg List.length c)),Bool.false_and];simp only [simprocAttr,-ZA,↓zU,↓zD,zV,zT,zW,q,uR,g1,g2,xE,q3]
  (repeat refine sd ?_)
  exact .drop (by simp) (by simp [vw])
 have q3:((x.length:Int) != (y.length:Int))= false:=by rw [c3]; simp
 simp only [simprocAttr,-ZA,↓zU,↓zD,zV,zT,zW,q,uR,g1,g2,xE,q3]
 (repeat refine sd ?_)
 refine xW (fun j:Nat=>[(7,.int .i64 j),(6,.int .i64 k),(3,.ref 1 2 0 0),(2,.ref 0 2 0 0)]) (fun _=>⟨2,[(1,⟨2,[[.sl 1 (rl lb),.sl 1 (us fb)]]⟩),(0,⟨2,[[.sl 1 (rl la),.sl 1 (us fa)]]⟩)]⟩)
  (fun j=>j<=x.length/\decide (x=y)= decide (x.drop j=y.drop j)) (fun j=>x.length-j) 0 ⟨Nat.zero_le _,rfl⟩ ?_ ?_
 ·(refine xI.same ?_; simp [xP,Fr.get])
 rintro j ⟨hj,hdj⟩;refine xN mixed ?_
 by_cases hx:j<x.length
 ·have qx:((j:Int)<(x.length:Int)):=by omega
  rw [hdj,mF (d:=0) hx (by omega)]
  by_cases e:x.getD j 0=y.getD j 0
  ·rw [decide_eq_true e,Bool.true_and];have e':(x.getD j 0 != y.getD j 0)= false:=by rw [e]; simp
   simp only [simprocAttr,-ZA,↓zU,↓zD,zV,zT,zW,qx,uR,g1,g2,xE,yF .i64 x hx,yF .i64 y (show j<y.length by omega),e']
   (repeat refine sd ?_)
   refine⟨j+1,⟨hx,rfl⟩,?_,by omega⟩
   (refine xI.same ?_; simp only [xP,Fr.get,↓reduceIte,reduceIte,Nat.reduceEqDiff,reduceCtorEq,D.int.injEq,D.bool.injEq,D.sl.injEq,and_true,true_and,and_self])
   exact tC (by omega)
  ·rw [decide_eq_false e,Bool.false_and,Bool.false_and];have e':(x.getD j 0 != y.getD j 0)= true:=by simpa using e
   simp only [simprocAttr,-ZA,↓zU,↓zD,zV,zT,zW,qx,uR,g1,g2,xE,yF .i64 x hx,yF .i64 y (show j<y.length by omega),e']
   (repeat refine sd ?_)
   exact .drop (by simp) (by simp [vw])
 have qx:¬ ((j:Int)<(x.length:Int)):=by omega
 have hxy:decide (x=y)= true:=by rw [hdj,List.drop_eq_nil_of_le (by omega),List.drop_eq_nil_of_le (by omega)]; simp
 simp only [simprocAttr,-ZA,↓zU,↓zD,zV,zT,zW,qx,uR,g1,g2,xE]
 (repeat refine sd ?_)
 refine⟨k+1,⟨h,by rw [hxy,Bool.true_and]⟩,?_,by omega⟩
 (refine xI.same ?_; simp only [xP,Fr.get,↓reduceIte,reduceIte,Nat.reduceEqDiff,reduceCtorEq,D.int.injEq,D.bool.injEq,D.sl.injEq,and_true,true_and,and_self])
 exact tC (by omega)
theorem aEg (a b:aXk):decide (a=b)= (decide (a.ag=b.ag)&& (decide (a.fa=b.fa)&& (decide (a.ln=b.ln)&& decide (a.rs=b.rs)))):=by cases a; cases b;rw [Bool.eq_iff_iff];simp
def aUt (s:aXk):Prop:=s.rs.length<=1000000/\∀ r ∈ s.rs,r.fac.length<=1000000/\r.loc.length<=1000000/\∀ l ∈ r.loc,l.length<=1000000
theorem aG7 (a b:aXk) (hs:aUt a):yT Tryz.prog 23 [a.d,b.d] (.bool (decide (a=b))):=by
 rw [aEg];have hA:a.d = .agg [.int .i64 a.ag,.int .i64 a.fa,.int .i64 a.ln,.sl 2 (nE a.rs)]:=rfl;have hB:b.d = .agg [.int .i64 b.ag,.int .i64 b.fa,.int .i64 b.ln,.sl 2 (nE b.rs)]:=rfl;rw [hA,hB];cases a with | mk a1 a2 a3 xs=>
 cases b with | mk b1 b2 b3 ys=>
 obtain⟨h1,h2⟩:=hs;simp only at h1 h2 ⊢;refine xX.xR mixed Tryz.func23 k23 (by simp) fun hf=>?_;by_cases c1:a1=b1
 case neg=>
  have q:(a1 != b1)= true:=by simpa using c1
  rw [decide_eq_false c1,Bool.false_and];simp only [simprocAttr,-ZA,↓zU,↓zD,zV,zT,zW,q,sK];exact .drop (by simp) (by simp [vw])
 by_cases c2:a2=b2
 case neg=>
  have q1:(a1 != b1)= false:=by simpa using c1
  have q:(a2 != b2)= true:=by simpa using c2
  rw [decide_eq_false c2,Bool.false_and,Bool.and_false];simp only [simprocAttr,-ZA,↓zU,↓zD,zV,zT,zW,q1,q,sK];exact .drop (by simp) (by simp [vw])
 by_cases c3:a3=b3
 case neg=>
  have q1:(a1 != b1)= false:=by simpa using c1
  have q2:(a2 != b2)= false:=by simpa using c2
  have q:(a3 != b3)= true:=by simpa using c3
  rw [decide_eq_false c3,Bool.false_and,Bool.and_false,Bool.and_false];simp only [simprocAttr,-ZA,↓zU,↓zD,zV,zT,zW,q1,q2,q,sK];exact .drop (by simp) (by simp [vw])
 have q1:(a1 != b1)= false:=by simpa using c1
 have q2:(a2 != b2)= false:=by simpa using c2
 have q3:(a3 != b3)= false:=by simpa using c3
 rw [decide_eq_true c1,decide_eq_true c2,decide_eq_true c3,Bool.true_and,Bool.true_and,Bool.true_and];by_cases c4:xs.length=ys.length
 case neg=>
  have q:((xs.length:Int) != (ys.length:Int))= true:=by simpa using fun c=>c4 (by omega)
  rw [decide_eq_false (fun c=>c4 (congrArg List.length c))];simp only [simprocAttr,-ZA,↓zU,↓zD,zV,zT,zW,q1,q2,q3,q,sK];exact .drop (by simp) (by simp [vw])
 have q4:((xs.length:Int) != (ys.length:Int))= false:=by rw [c4]; simp
 clear c1 c2 c3;simp only [simprocAttr,-ZA,↓zU,↓zD,zV,zT,zW,q1,q2,q3,q4,sK]
 refine xW (fun k:Nat=>[(5,.int .i64 k),(3,.ref 1 4 0 0),(2,.ref 0 4 0 0)]) (fun _=>⟨2,[(1,⟨4,[[.int .i64 b1,.int .i64 b2,.int .i64 b3,.sl 2 (nE ys)]]⟩),(0,⟨4,[[.int .i64 a1,.int .i64 a2,.int .i64 a3,.sl 2 (nE xs)]]⟩)]⟩)
  (fun k=>k<=xs.length/\decide (xs=ys)= decide (xs.drop k=ys.drop k)) (fun k=>xs.length-k) 0 ⟨Nat.zero_le _,rfl⟩ ?_ ?_
 ·(refine xI.same ?_; simp [xP,Fr.get])
 rintro k ⟨hk,hd⟩;refine xN mixed ?_;by_cases h:k<xs.length
 case neg=>
  have q:¬ ((k:Int)<(xs.length:Int)):=by omega
  rw [hd,List.drop_eq_nil_of_le (by omega),List.drop_eq_nil_of_le (by omega)];simp only [simprocAttr,-ZA,↓zU,↓zD,zV,zT,zW,q,sK];exact .drop (by simp) (by simp [vw])
 have q:((k:Int)<(xs.length:Int)):=by omega
 have hr:=h2 _ (xK (d:=lJ) h);have hc:=aMd (xs.getD k lJ) (ys.getD k lJ) hr.1 hr.2.1 hr.2.2;have g1:(nE xs).getD k [] = [.sl 1 (rl (xs.getD k lJ).loc),.sl 1 (us (xs.getD k lJ).fac)]:=aTc xs h;have g2:(nE ys).getD k [] = [.sl 1 (rl (ys.getD k lJ).loc),.sl 1 (us (ys.getD k lJ).fac)]:=aTc ys (by omega);have hc:yT Tryz.prog 81 [.agg [.sl 1 (rl (xs.getD k lJ).loc),.sl 1 (us (xs.getD k lJ).fac)],.agg [.sl 1 (rl (ys.getD k lJ).loc),.sl 1 (us (ys.getD k lJ).fac)]] _:=hc;rw [hd,mF (d:=lJ) h (by omega)];rw [mF (d:=lJ) h (by omega)] at hd;generalize xs.getD k lJ=x at *;generalize ys.getD k lJ=y at *;generalize hP:decide (x=y)= b at *;simp only [simprocAttr,-ZA,↓zU,↓zD,zV,zT,zW,q,sK,g1,g2]
 (repeat refine sd ?_)
 refine .go (cq hc) ?_
 cases b with
 | false=> rw [Bool.false_and];simp only [simprocAttr,-ZA,↓zU,↓zD,zV,zT,zW];exact .drop (by simp) (by simp [vw])
 | true=>
  rw [Bool.true_and];simp only [simprocAttr,-ZA,↓zU,↓zD,zV,zT,zW];refine⟨k+1,⟨h,rfl⟩,?_,by omega⟩
  (refine xI.same ?_; simp only [xP,Fr.get,↓reduceIte,reduceIte,Nat.reduceEqDiff,reduceCtorEq,D.int.injEq,D.bool.injEq,D.sl.injEq,and_true,true_and,and_self])
  exact tC (by omega)
end Go.Pd
