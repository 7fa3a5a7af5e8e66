/- Part LH. -/
import Derived.Test.YtndfaefmmcoapaaGreatKaLG
set_option linter.unusedSectionVars false
set_option linter.unusedVariables false
set_option linter.unusedSimpArgs false
set_option linter.defProp false
set_option maxRecDepth 20000
set_option maxHeartbeats 1000000
namespace Go.Pd
open Go Go.Proofs
open Int renaming reduceToNat -> ZA, reduceLT -> ZB, reduceLE -> ZC, reduceBEq -> ZD, reduceBNe -> ZE
open Nat renaming reduceEqDiff -> ZF, reduceAdd -> ZG, reduceBEq -> ZH, reduceLT -> ZI, reduceLeDiff -> ZJ, reduceMul -> ZK
open Rs Fm Ru Te Kb
namespace Kb
def nB (p:PrA) (l:List ChA):Nat->Option (List (List (BitVec 64)))
 | 0=>some (cH p)
 | n+1=>match nB p l n with
  | none=>none
  | some sts=>if chsB p l sts n=true then some (lJ p sts (chsM p l sts n)) else none
def vB (p:PrA) (l:List ChA) (n:Nat):List (List (BitVec 64)):=(nB p l n).getD []
theorem nO {p:PrA} {l:List ChA} {n:Nat} (h:(nB p l (n+1)).isSome=true):(nB p l n).isSome=true/\chsB p l (vB p l n) n=true/\vB p l (n+1)= lJ p (vB p l n) (chsM p l (vB p l n) n):=by
 unfold nB at h;unfold vB
 cases e:nB p l n with
 | none=>rw [e] at h; cases h
 | some sts=>
  rw [e] at h;simp only at h
  by_cases c:chsB p l sts n=true
  ·refine⟨rfl,c,?_⟩;show (nB p l (n+1)).getD []=_;unfold nB;rw [e];simp only [c,↓reduceIte];rfl
  ·rw [if_neg c] at h; cases h
theorem aG3 {p:PrA} {l:List ChA} {n:Nat} (h:(nB p l n).isSome=true):(nB p l (n+1)).isSome=chsB p l (vB p l n) n/\(chsB p l (vB p l n) n=true->vB p l (n+1)= lJ p (vB p l n) (chsM p l (vB p l n) n)):=by
 cases e:nB p l n with
 | none=>rw [e] at h; cases h
 | some sts=>
  have e2:vB p l n=sts:=by unfold vB; rw [e]; rfl
  rw [e2]
  have e3:nB p l (n+1)= if chsB p l sts n=true then some (lJ p sts (chsM p l sts n)) else none:=by
   show (match nB p l n with | none=>none | some sts=>_)= _;rw [e]
  unfold vB;rw [e3]
  cases c:chsB p l sts n with
  | true=>exact⟨rfl,fun _=>rfl⟩
  | false=>exact⟨rfl,fun h=>by cases h⟩
theorem iZ {p:PrA} {l:List ChA} {n:Nat}:∀ {m:Nat},n<=m->(nB p l n).isSome=false->(nB p l m).isSome=false
 | 0,h,hn=>by
  have:n=0:=by omega
  rw [this] at hn;exact hn
 | m+1,h,hn=>by
  by_cases e:n=m+1
  ·rw [<- e]; exact hn
  ·have ih:=iZ (m:=m) (by omega) hn
   cases c:(nB p l (m+1)).isSome with
   | false=>rfl
   | true=>rw [(nO c).1] at ih; cases ih
theorem aK9 {p:PrA} {l:List ChA} (h:zQ p l=0):∀ i,i<l.length->chE p l i=0:=fun i hi=>tV.1 h i (List.mem_range.2 hi)
theorem aCk {p:PrA} {l:List ChA} (h:zQ p l=0) {c:ChA} (hc:c ∈ l):c.mv<p.moves.length /\ -1<=c.mv:=by
 obtain⟨i,hi,rfl⟩:=List.getElem_of_mem hc;have h1:=aK9 h i hi;unfold chE at h1;have e:l.getD i ch0=l[i]:=by simp [List.getD,hi]
 rw [e] at h1
 split at h1
 ·cases h1
 ·rename_i hb;have hb:aRa p l[i]=false:=by simpa using hb
  unfold aRa at hb;simp only [Bool.or_eq_false_iff,decide_eq_false_iff_not] at hb;omega
theorem cW (p:PrA) (l:List ChA) (sts:List (List (BitVec 64))) (t:Nat):(chsM p l sts t).length=p.see.length:=by simp [chsM]
theorem aUd {p:PrA} {l:List ChA} {sts:List (List (BitVec 64))} {t:Nat}:∀ m ∈ chsM p l sts t,m.length=sts.length:=fun m hm=>by
 simp only [chsM,List.mem_map] at hm;obtain⟨a,_,rfl⟩:=hm;simp [mvG]
theorem aQs {p:PrA} {l:List ChA} (h:zQ p l=0) {sts:List (List (BitVec 64))} {t:Nat} (hB:chsB p l sts t=true):∀ m ∈ chsM p l sts t,∀ k ∈ m,k<p.moves.length:=fun m hm k hk=>by
 simp only [chsM,List.mem_map,List.mem_range] at hm;obtain⟨a,ha,rfl⟩:=hm;simp only [mvG,List.mem_map,List.mem_range] at hk;obtain⟨r,hr,rfl⟩:=hk;unfold chsB at hB;rw [List.all_eq_true] at hB;have h1:=hB a (List.mem_range.2 ha);rw [List.all_eq_true] at h1;have h2:=of_decide_eq_true (h1 r (List.mem_range.2 hr));exact(aCk h (xN (aQn h2).1)).1
theorem bR {p:PrA} {F:Nat} (hv:PrV p F) {l:List ChA} (hc:zQ p l=0):∀ n,(nB p l n).isSome=true->PlS p F (vB p l n) n
 | 0,_=>PlS.beg hv
 | n+1,h=>by
  obtain⟨h1,h2,h3⟩:=nO h;rw [h3];exact PlS.step hv (bR hv hc n h1) aUd (aQs hc h2)
def gR (p:PrA) (l:List ChA) (n:Int):Int:=if gU p n≠0 then gU p n else if zQ p l≠0 then zQ p l else if (nB p l (n.toNat-1)).isSome=true then 0 else 6
theorem aD {p:PrA} {l:List ChA} {n:Int} (h:gR p l n=0):∃ F k:Nat,PrV p F/\n=((k+1:Nat):Int)/\ k<=5/\zQ p l=0/\(nB p l k).isSome=true:=by
 unfold gR at h
 split at h
 ·rename_i h1; exact absurd h h1
 ·rename_i h1
  split at h
  ·rename_i h2; exact absurd h h2
  ·rename_i h2
   split at h
   ·rename_i h3;obtain⟨F,k,hv,rfl,hk⟩:=Kb.req_zero (show gU p n=0 by simpa using h1);rw [Int.toNat_natCast,Nat.add_sub_cancel] at h3;exact⟨F,k,hv,rfl,hk,by simpa using h2,h3⟩
   ·cases h
def aYn (p:PrA) (l:List ChA) (n:Int):D:=if gR p l n=0 then plD p (vB p l (n.toNat-1)) else .nilp
end Kb
theorem gY {p:PrA} {l:List ChA} (hll:l.length<=2000000) {sts:List (List (BitVec 64))} {t:Nat} (hA:1<=p.see.length/\p.see.length<=4) (hR:1<=sts.length/\sts.length<=16) (hl:∀ st ∈ sts,t<st.length) (ht:t<=1000) {nx:Nat} {ob:List (Nat × Ob)} {x:D}
  (hx:Seen ⟨nx,ob⟩ (fun _=>False) x (plD p sts)) (hB:chsB p l sts t=true):xX Tryz.prog 84 [x,.sl 3 (chR l),.int .i64 t] ⟨nx,ob⟩ (.tup [.sl 1 (rl (chsM p l sts t)),.bool true]) ⟨nx+(1+p.see.length),ob⟩:=by
 have hc:=aUe hll hA hR hl ht (d:=.tup [.osl 0 1 p.see.length,.bool true]) (σ':=⟨1+p.see.length,aUv ((chsM p l sts t).map (rows .i64))⟩) (fun _=>⟨rfl,rfl⟩) (fun h=>by rw [hB] at h; cases h);refine xX.lentDeep hc ⟨hx,.pure rfl,.pure rfl,trivial⟩ (by simp [D.fl]) (aQf aVl) ?_;have hN:=Nst.shift (c:=nx) (r:=ob) (dN ((chsM p l sts t).map (rows .i64))) fun e he r hr=>(uI e he r hr).2
 have:=Nst.seen (nx:=nx+(1+p.see.length)) (K:=fun k=>k<nx) (n:=p.see.length) hN (by rw [List.length_map,cW]) (by omega) (fun k hk=>by
  simp only [List.mem_map] at hk;obtain⟨j,_,rfl⟩:=hk;omega) uI
 rw [aRv] at this;simp only [D.shift,D.shiftL];exact Seen.tup ⟨this,.pure rfl,trivial⟩
theorem aWc {p:PrA} {l:List ChA} (hll:l.length<=2000000) {sts:List (List (BitVec 64))} {t:Nat} (hA:1<=p.see.length/\p.see.length<=4) (hR:1<=sts.length/\sts.length<=16) (hl:∀ st ∈ sts,t<st.length) (ht:t<=1000) {nx:Nat} {ob:List (Nat × Ob)} {x:D}
  (hx:Seen ⟨nx,ob⟩ (fun _=>False) x (plD p sts)) (hB:chsB p l sts t=false):xX Tryz.prog 84 [x,.sl 3 (chR l),.int .i64 t] ⟨nx,ob⟩ (.tup [.nils,.bool false]) ⟨nx,ob⟩:=by
 have hc:=aUe hll hA hR hl ht (d:=.tup [.nils,.bool false]) (σ':=St0) (fun h=>by rw [hB] at h; cases h) (fun _=>⟨rfl,rfl⟩);exact xX.lentS hc ⟨hx,.pure rfl,.pure rfl,trivial⟩ (by simp [D.flat,D.flatL])
theorem fD (p:PrA) (sm:rU p) (l:List ChA) (sc:bM l) (n:Int):yX Tryz.prog 82 [p.d,.sl 3 (chR l),.int .i64 n] (.tup [aYn p l n,.int .i64 (gR p l n)]):=by
 have hQ:=jL p sm n;have hC:=aSq p l sc;have hll:=sc.len;by_cases c:gU p n=0
 case neg=>
  have c':(gU p n != 0)= true:=by simpa using c
  have e1:gR p l n=gU p n:=by unfold gR; rw [if_pos c]
  have e2:aYn p l n = .nilp:=by unfold aYn; rw [e1,if_neg c]
  rw [e1,e2];unfold PrA.d PrA.cells at *;refine xX.go_fn mixed Tryz.func82 k82 (by simp) fun hf=>?_;simp only [ZA,ZB,ZC,ZD,ZE,↓reduceIte,ZF,ZG,ZH,ZI,ZJ,reduceCtorEq,ZK,↓zU,↓zD,zV,zT,zW]
  (repeat refine sd ?_)
  refine .go (cr hQ) ?_;simp only [ZA,ZB,ZC,ZD,ZE,↓reduceIte,ZF,ZG,ZH,ZI,ZJ,reduceCtorEq,ZK,↓zU,↓zD,zV,zT,zW,c'];exact .drop (by simp) (by simp [vw,vwL])
 have c':(gU p n != 0)= false:=by simpa using c
 by_cases c2:zQ p l=0
 case neg=>
  have c2':(zQ p l != 0)= true:=by simpa using c2
  have e1:gR p l n=zQ p l:=by unfold gR; rw [if_neg (by simpa using c),if_pos c2]
  have e2:aYn p l n = .nilp:=by unfold aYn; rw [e1,if_neg c2]
  rw [e1,e2];unfold PrA.d PrA.cells at *;refine xX.go_fn mixed Tryz.func82 k82 (by simp) fun hf=>?_;simp only [ZA,ZB,ZC,ZD,ZE,↓reduceIte,ZF,ZG,ZH,ZI,ZJ,reduceCtorEq,ZK,↓zU,↓zD,zV,zT,zW]
  (repeat refine sd ?_)
  refine .go (cr hQ) ?_;simp only [ZA,ZB,ZC,ZD,ZE,↓reduceIte,ZF,ZG,ZH,ZI,ZJ,reduceCtorEq,ZK,↓zU,↓zD,zV,zT,zW,c'];refine .go (cr hC) ?_;simp only [ZA,ZB,ZC,ZD,ZE,↓reduceIte,ZF,ZG,ZH,ZI,ZJ,reduceCtorEq,ZK,↓zU,↓zD,zV,zT,zW,c2'];exact .drop (by simp) (by simp [vw,vwL])
 have c2':(zQ p l != 0)= false:=by simpa using c2
 obtain⟨F,k,hv,rfl,hk⟩:=Kb.req_zero c
 have hgE:gR p l ((k+1:Nat):Int)= if (nB p l k).isSome=true then 0 else 6:=by
  unfold gR;rw [if_neg (by simpa using c),if_neg (by simpa using c2),Int.toNat_natCast,Nat.add_sub_cancel]
 have hgD:aYn p l ((k+1:Nat):Int)= if (nB p l k).isSome=true then plD p (vB p l k) else .nilp:=by
  unfold aYn;rw [hgE,Int.toNat_natCast,Nat.add_sub_cancel];split <;> rfl
 have hB:=aUj hv;have hI:=hv.hI;have hA:=hv.hA;have hw:IntKind.i64.wrap (((k+1:Nat):Int)-1)= (k:Int):=by rw [wrap_i64 (by omega)]; omega
 have hB1:=xX.own (σ:=⟨1,[(0,⟨5,[p.cells]⟩)]⟩) hB (by simp [D.isPureL,D.isPure,PrA.d,PrA.cells]);have hPS:=(mP p (Nat.le_refl 2) (cH p)).shift (c:=1) (r:=[(0,⟨5,[p.cells]⟩)]);have hbl:(cH p).length=p.init.length:=by simp [cH]
 have hD:p.d = .agg [.int .i64 p.F,.sl 1 (us p.init),.sl 1 (us p.see),.sl 1 (mvR p.moves),.sl 1 (cdR p.code)]:=rfl;rw [hgE,hgD];unfold PrA.cells at hB1 hPS;rw [hD] at *;refine xX.go_fn mixed Tryz.func82 k82 (by simp) fun hf=>?_;simp only [ZA,ZB,ZC,ZD,ZE,↓reduceIte,ZF,ZG,ZH,ZI,ZJ,reduceCtorEq,ZK,↓zU,↓zD,zV,zT,zW]
 (repeat refine sd ?_)
 refine .go (cr hQ) ?_;simp only [ZA,ZB,ZC,ZD,ZE,↓reduceIte,ZF,ZG,ZH,ZI,ZJ,reduceCtorEq,ZK,↓zU,↓zD,zV,zT,zW,c'];refine .go (cr hC) ?_;simp only [ZA,ZB,ZC,ZD,ZE,↓reduceIte,ZF,ZG,ZH,ZI,ZJ,reduceCtorEq,ZK,↓zU,↓zD,zV,zT,zW,c2'];refine .go hB1 ?_;simp only [ZA,ZB,ZC,ZD,ZE,↓reduceIte,ZF,ZG,ZH,ZI,ZJ,reduceCtorEq,ZK,↓zU,↓zD,zV,zT,zW,hw]
 refine tX (fun t:Nat=>[(30,.int .i64 t),(29,.int .i64 k),(10,.ref 0 6 0 0),(1,.sl 3 (chR l))]) (fun t=>⟨2+(vB p l t).length,plL p 2 (vB p l t)⟩) (fun t=>t<=k/\(nB p l t).isSome=true) (fun t=>k-t) 0 ⟨Nat.zero_le _,rfl⟩ ?_ ?_
 ·refine xM.play hPS (Nat.le_refl _) (Nat.zero_le _) (fun k hk=>absurd hk (Nat.not_lt_zero _)) ?_;simp only [vwF,vw,Fr.get,↓reduceIte,reduceIte,Nat.reduceEqDiff,D.shift,and_true,true_and];exact⟨rfl,by omega,rfl⟩
 intro t ⟨ht,hsome⟩;refine xQ mixed ?_;have hS:=bR hv c2 t hsome;have hl:=hS.len;obtain⟨u1,u2⟩:=aG3 hsome;by_cases htn:t<k
 case neg=>
  have hd:¬ ((t:Int)<(k:Int)):=by omega
  obtain rfl:t=k:=by omega
  rw [if_pos hsome,if_pos hsome];simp only [ZA,ZB,ZC,ZD,ZE,↓reduceIte,ZF,ZG,ZH,ZI,ZJ,reduceCtorEq,ZK,↓zU,↓zD,zV,zT,zW,hd]
  refine .go [(10,plD p (vB p l t))] ⟨2+(vB p l t).length,[]⟩ ?_ ?_
  ·refine xM.deep (fun _=>False) trivial ⟨.inr ?_,trivial⟩;exact kV (Nat.le_refl 2) fun _ h=>h
  simp only [ZA,ZB,ZC,ZD,ZE,↓reduceIte,ZF,ZG,ZH,ZI,ZJ,reduceCtorEq,ZK,↓zU,↓zD,zV,zT,zW];exact .drop (by simp) (by simp [vw,vwL,plD])
 have hd:((t:Int)<(k:Int)):=by omega
 have hseen:Seen ⟨2+(vB p l t).length,plL p 2 (vB p l t)⟩ (fun _=>False) (.ref 0 6 0 0) (plD p (vB p l t)):=kV (Nat.le_refl 2) fun _ h=>h
 cases hcb:chsB p l (vB p l t) t with
 | false=>
  have hno:=aWc hll hA (by rw [hl]; exact hI) (fun st hs=>by rw [hS.run st hs]; omega) (by omega) hseen hcb;have hnk:(nB p l k).isSome=false:=iZ (show t+1<=k by omega) (by rw [u1,hcb]);rw [hnk,if_neg (by simp),if_neg (by simp)];simp only [ZA,ZB,ZC,ZD,ZE,↓reduceIte,ZF,ZG,ZH,ZI,ZJ,reduceCtorEq,ZK,↓zU,↓zD,zV,zT,zW,hd];refine .go hno ?_;simp only [ZA,ZB,ZC,ZD,ZE,↓reduceIte,ZF,ZG,ZH,ZI,ZJ,reduceCtorEq,ZK,↓zU,↓zD,zV,zT,zW];refine .keep ?_;simp only [ZA,ZB,ZC,ZD,ZE,↓reduceIte,ZF,ZG,ZH,ZI,ZJ,reduceCtorEq,ZK,↓zU,↓zD,zV,zT,zW];exact .drop (by simp) (by simp [vw,vwL])
 | true=>
  have hyes:=gY hll hA (by rw [hl]; exact hI) (fun st hs=>by rw [hS.run st hs]; omega) (by omega) hseen hcb;have hpl:=cW p l (vB p l t) t;have h121:=eT hv (sts:=vB p l t) (by rw [hl]; exact hI) (fun st hs=>by rw [hS.run st hs]; omega) hS.val (mv:=chsM p l (vB p l t) t) (by rw [hpl]; omega) aUd (aQs c2 hcb) (nx:=2+(vB p l t).length+(1+p.see.length)) (by omega);have hnext:=u2 hcb;have hsl:(lJ p (vB p l t) (chsM p l (vB p l t) t)).length=(vB p l t).length:=by simp [lJ]
  have hPI:=mP p (b:=2+(vB p l t).length+(1+p.see.length)) (by omega) (lJ p (vB p l t) (chsM p l (vB p l t) t));simp only [ZA,ZB,ZC,ZD,ZE,↓reduceIte,ZF,ZG,ZH,ZI,ZJ,reduceCtorEq,ZK,↓zU,↓zD,zV,zT,zW,hd];refine .go hyes ?_;simp only [ZA,ZB,ZC,ZD,ZE,↓reduceIte,ZF,ZG,ZH,ZI,ZJ,reduceCtorEq,ZK,↓zU,↓zD,zV,zT,zW];refine .go h121 ?_;simp only [ZA,ZB,ZC,ZD,ZE,↓reduceIte,ZF,ZG,ZH,ZI,ZJ,reduceCtorEq,ZK,↓zU,↓zD,zV,zT,zW];refine⟨t+1,⟨by omega,by rw [u1,hcb]⟩,?_,by omega⟩;rw [hnext];refine xM.play hPI (Nat.le_refl _) (Nat.zero_le _) (fun k hk=>absurd hk (Nat.not_lt_zero _)) ?_;simp only [vwF,vw,Fr.get,↓reduceIte,reduceIte,Nat.reduceEqDiff,and_true,true_and];exact⟨by rw [wrap_i64 (by omega)]; rfl,by omega,rfl⟩
open Rs Fm Ru Te Kb
namespace Kb
structure Ext (n : Nat) (sts sts' : List (List (BitVec 64))) : Prop where
 len:sts'.length=sts.length
 run:∀ i,i<sts.length->(stR sts' i).take n=(stR sts i).take n
theorem Ext.refl (n:Nat) (sts:List (List (BitVec 64))):Ext n sts sts:=⟨rfl,fun _ _=>rfl⟩
theorem Ext.trans {n:Nat} {a b c:List (List (BitVec 64))} (h:Ext n a b) (h':Ext n b c):Ext n a c:=⟨h'.len.trans h.len,fun i hi=>(h'.run i (by rw [h.len]; exact hi)).trans (h.run i hi)⟩
theorem Ext.mono {n m:Nat} {a b:List (List (BitVec 64))} (h:Ext n a b) (hm:m<=n):Ext m a b:=⟨h.len,fun i hi=>by
 have:=congrArg (List.take m) (h.run i hi)
 rwa [List.take_take,List.take_take,Nat.min_eq_left hm] at this⟩
section
variable {n t : Nat} {sts sts' : List (List (BitVec 64))} {see : List (BitVec 64)}
theorem Ext.his (h:Ext n sts sts') (ht:t<n) {a r:Nat} (hr:r<sts.length):rV see (stR sts' r) a t=rV see (stR sts r) a t:=by
 have:=(h.mono (show t+1<=n from ht)).run r hr;unfold rV;rw [this]
theorem all_congr {α:Type} {l:List α} {f g:α->Bool} (h:∀ x ∈ l,f x=g x):l.all f=l.all g:=by
 induction l with
 | nil=>rfl
 | cons x r ih=>rw [List.all_cons,List.all_cons,h x (by simp),ih fun y hy=>h y (by simp [hy])]
variable {p : PrA}
theorem Ext.hisT (h:Ext n sts sts') (ht:t<n) {a r:Nat} (hr:r<sts.length):hisT p sts' t a r=hisT p sts t a r:=h.his ht hr
theorem Ext.chsB (h:Ext n sts sts') (ht:t<n) {l:List ChA}:chsB p l sts' t=chsB p l sts t:=by
 unfold Kb.chsB;rw [h.len];refine all_congr fun a _=>all_congr fun r hr=>?_;rw [h.hisT ht (List.mem_range.1 hr)]
theorem Ext.chsM (h:Ext n sts sts') (ht:t<n) {l:List ChA}:chsM p l sts' t=chsM p l sts t:=by
 unfold Kb.chsM mvG;rw [h.len];refine List.map_congr_left fun a _=>List.map_congr_left fun r hr=>?_;rw [h.hisT ht (List.mem_range.1 hr)]
theorem aK2 {mv:List (List Int)} (hl:∀ st ∈ sts,n<=st.length):Ext n sts (lJ p sts mv) where
 len:=by simp [lJ]
 run:=fun i hi=>by
  have e:stR (lJ p sts mv) i=stR sts i ++ [aNw p sts mv i]:=by simp [stR,lJ,List.getD,hi]
  rw [e,List.take_append_of_le_length (hl _ (mR hi))]
end
theorem aQp {p:PrA} {F:Nat} (hv:PrV p F) {l:List ChA} (hc:zQ p l=0) {n:Nat}:∀ {m:Nat},n<=m->(nB p l m).isSome=true->Ext (n+1) (vB p l n) (vB p l m)
 | 0,h,_=>by
  have:n=0:=by omega
  subst this; exact .refl _ _
 | m+1,h,hs=>by
  by_cases e:n=m+1
  ·subst e; exact .refl _ _
  ·obtain⟨h1,h2,h3⟩:=nO hs;rw [h3];exact(aQp hv hc (m:=m) (by omega) h1).trans (aK2 fun st hs=>by rw [(bR hv hc m h1).run st hs]; omega)
theorem aZ4 {p:PrA} {l:List ChA} {n:Nat}:∀ {m:Nat},n<=m->(nB p l m).isSome=true->(nB p l n).isSome=true:=fun h hs=>by
 cases c:(nB p l n).isSome with
 | true=>rfl
 | false=>rw [iZ h c] at hs; cases hs
theorem aKz {p:PrA} {F:Nat} (hv:PrV p F) {l:List ChA} (hc:zQ p l=0) {k t:Nat} (hs:(nB p l k).isSome=true) (ht:t<k):chsB p l (vB p l k) t=true/\vB p l (t+1)= lJ p (vB p l t) (chsM p l (vB p l k) t):=by
 obtain⟨h1,h2,h3⟩:=nO (aZ4 (show t+1<=k from ht) hs);have he:=aQp hv hc (n:=t) (m:=k) (by omega) hs;exact⟨by rw [he.chsB (by omega)]; exact h2,by rw [he.chsM (by omega)]; exact h3⟩
end Kb
open Rs Fm Ru Te Kb
namespace Kb
def aIq (p:PrA) (l:List ChA) (n:Int):cG:=if gR p l n≠0 then⟨0,0,0,[]⟩ else⟨p.see.length,p.F,n,aYl p.see (vB p l (n.toNat-1)) n.toNat⟩
def aEf (p:PrA) (l:List ChA) (n:Int):Bool:=decide (gR p l n=0)&& (List.range (n.toNat-1)).all fun t=>decide (chsM p l (vB p l (n.toNat-1)) t=wC p (vB p l (n.toNat-1)) t)
end Kb
theorem aS4 (p:PrA) (sm:rU p) (l:List ChA) (sc:bM l) (n:Int):yX Tryz.prog 25 [p.d,.sl 3 (chR l),.int .i64 n] (.tup [(aIq p l n).d,.int .i64 (gR p l n)]):=by
 have hG:=fD p sm l sc n;by_cases c:gR p l n=0
 case neg=>
  have c':(gR p l n != 0)= true:=by simpa using c
  have hD:(aIq p l n).d = .agg [.int .i64 0,.int .i64 0,.int .i64 0,.sl 2 []]:=by unfold aIq; rw [if_pos c]; rfl
  have e2:aYn p l n = .nilp:=by unfold aYn; rw [if_neg c]
  rw [hD];rw [e2] at hG;unfold PrA.d PrA.cells at *;refine xX.go_fn mixed Tryz.func25 k25 (by simp) fun hf=>?_;simp only [ZA,ZB,ZC,ZD,ZE,↓reduceIte,ZF,ZG,ZH,ZI,ZJ,reduceCtorEq,ZK,↓zU,↓zD,zV,zT,zW]
  (repeat refine sd ?_)
  refine .go (cr hG) ?_;simp only [ZA,ZB,ZC,ZD,ZE,↓reduceIte,ZF,ZG,ZH,ZI,ZJ,reduceCtorEq,ZK,↓zU,↓zD,zV,zT,zW,c']
  (repeat refine sd ?_)
  exact .drop (by simp) (by simp [vw,vwL])
 have c':(gR p l n != 0)= false:=by simpa using c
 obtain⟨F,k,hv,rfl,hk,hc,hs⟩:=aD c;have hS:=iN hv hk (bR hv hc k hs)
 have hD:(aIq p l ((k+1:Nat):Int)).d=sD p.see.length F (k+1) (aYl p.see (vB p l k) (k+1)):=by
  unfold aIq;rw [if_neg (by simpa using c),Int.toNat_natCast,Nat.add_sub_cancel];show D.agg [_,_,_,_]=D.agg [_,_,_,_];rw [hv.fe]
 have e2:aYn p l ((k+1:Nat):Int)= plD p (vB p l k):=by unfold aYn; rw [if_pos c,Int.toNat_natCast,Nat.add_sub_cancel]
 rw [hD];rw [e2] at hG;generalize aYl p.see (vB p l k) (k+1)= S at *;generalize vB p l k=sts at *;unfold PrA.d PrA.cells plD plC sD at *;refine xX.go_fn mixed Tryz.func25 k25 (by simp) fun hf=>?_;simp only [ZA,ZB,ZC,ZD,ZE,↓reduceIte,ZF,ZG,ZH,ZI,ZJ,reduceCtorEq,ZK,↓zU,↓zD,zV,zT,zW]
 (repeat refine sd ?_)
 refine .go (cr hG) ?_;simp only [ZA,ZB,ZC,ZD,ZE,↓reduceIte,ZF,ZG,ZH,ZI,ZJ,reduceCtorEq,ZK,↓zU,↓zD,zV,zT,zW,c'];refine .go (cr hS) ?_;simp only [ZA,ZB,ZC,ZD,ZE,↓reduceIte,ZF,ZG,ZH,ZI,ZJ,reduceCtorEq,ZK,↓zU,↓zD,zV,zT,zW]
 (repeat refine sd ?_)
 exact .drop (by simp) (by simp [vw,vwL]; simpa using c.symm)
theorem aB1 (a b:List Int):yX Tryz.prog 86 [.sl 1 (rows .i64 a),.sl 1 (rows .i64 b)] (.bool (decide (a=b))):=by
 refine xX.go_fn mixed Tryz.func86 k86 (by simp) fun hf=>?_;simp only [ZA,ZB,ZC,ZD,ZE,↓reduceIte,ZF,ZG,ZH,ZI,ZJ,reduceCtorEq,ZK,↓zU,↓zD,zV,zT,zW];refine .go (cr (aFc a b)) ?_;simp only [ZA,ZB,ZC,ZD,ZE,↓reduceIte,ZF,ZG,ZH,ZI,ZJ,reduceCtorEq,ZK,↓zU,↓zD,zV,zT,zW];exact .same
theorem aFb (a b:List (List Int)) (hl:a.length<=1000):yX Tryz.prog 85 [.sl 1 (rl a),.sl 1 (rl b),.fn 86 []] (.bool (decide (a=b))):=by
 refine xX.go_fn mixed Tryz.func85 k85 (by simp) fun hf=>?_;by_cases h1:a.length=b.length
 case neg=>
  have h1':((a.length:Int) != (b.length:Int))= true:=by simp; omega
  simp only [ZA,ZB,ZC,ZD,ZE,↓reduceIte,ZF,ZG,ZH,ZI,ZJ,reduceCtorEq,ZK,↓zU,↓zD,zV,zT,zW,vL,h1'];exact .drop (by simp) (by simp only [vw,D.bool.injEq]; symm; apply decide_eq_false; rintro rfl; exact h1 rfl)
 have h1':((a.length:Int) != (b.length:Int))= false:=by simp; omega
 simp only [ZA,ZB,ZC,ZD,ZE,↓reduceIte,ZF,ZG,ZH,ZI,ZJ,reduceCtorEq,ZK,↓zU,↓zD,zV,zT,zW,vL,h1']
 refine xV (fun k:Nat=>[(17,.int .i64 k),(16,.int .i64 a.length),(15,.sl 1 (rl a)),(2,.fn 86 []),(1,.sl 1 (rl b))]) (fun _=>⟨0,[]⟩) (fun k=>k<=a.length/\∀ i,i<k->a.getD i []=b.getD i []) (fun k=>a.length-k) 0 ⟨Nat.zero_le _,fun i hi=>by omega⟩ ?_ ?_
 ·(refine xM.same ?_; simp [xS,Fr.get])
 intro k ⟨hk,hi⟩;refine xQ mixed ?_
 by_cases h:k<a.length
 ·have hd:((k:Int)<(a.length:Int)):=by omega
  have hd2:((k:Int)<(b.length:Int)):=by omega
  have ga:=gE a h;have gb:=gE b (show k<b.length by omega);have he:=aB1 (a.getD k []) (b.getD k [])
  by_cases hb:a.getD k []=b.getD k []
  ·rw [decide_eq_true hb] at he;simp only [ZA,ZB,ZC,ZD,ZE,↓reduceIte,ZF,ZG,ZH,ZI,ZJ,reduceCtorEq,ZK,↓zU,↓zD,zV,zT,zW,hd,vL,ga,hd2,gb]
   (repeat refine sd ?_)
   refine .go (cr he) ?_;simp only [ZA,ZB,ZC,ZD,ZE,↓reduceIte,ZF,ZG,ZH,ZI,ZJ,reduceCtorEq,ZK,↓zU,↓zD,zV,zT,zW]
   refine⟨k+1,⟨by omega,fun i hi2=>?_⟩,?_,by omega⟩
   ·by_cases ei:i=k
    ·rw [ei,hb]
    ·exact hi i (by omega)
   (refine xM.same ?_; simp only [xS,Fr.get,↓reduceIte,reduceIte,Nat.reduceEqDiff,reduceCtorEq,D.int.injEq,D.bool.injEq,D.sl.injEq,and_true,true_and,and_self])
   exact wrap_i64 (by omega)
  ·rw [decide_eq_false hb] at he;simp only [ZA,ZB,ZC,ZD,ZE,↓reduceIte,ZF,ZG,ZH,ZI,ZJ,reduceCtorEq,ZK,↓zU,↓zD,zV,zT,zW,hd,vL,ga,hd2,gb]
   (repeat refine sd ?_)
   refine .go (cr he) ?_;simp only [ZA,ZB,ZC,ZD,ZE,↓reduceIte,ZF,ZG,ZH,ZI,ZJ,reduceCtorEq,ZK,↓zU,↓zD,zV,zT,zW];exact .drop (by simp) (by simp only [vw,D.bool.injEq]; symm; apply decide_eq_false; rintro rfl; exact hb rfl)
 ·have hd:¬ ((k:Int)<(a.length:Int)):=by omega
  have hk':k=a.length:=by omega
  subst hk';simp only [ZA,ZB,ZC,ZD,ZE,↓reduceIte,ZF,ZG,ZH,ZI,ZJ,reduceCtorEq,ZK,↓zU,↓zD,zV,zT,zW,hd];refine .drop (by simp) ?_;simp only [vw,D.bool.injEq]; symm; apply decide_eq_true;refine List.ext_getElem h1 fun i h2 h3=>?_;have:=hi i h2;simpa [List.getD,h2,h3] using this
theorem aYc (p:PrA) (sm:rU p) (l:List ChA) (sc:bM l) (n:Int):yX Tryz.prog 27 [p.d,.sl 3 (chR l),.int .i64 n] (.tup [.bool (aEf p l n),.int .i64 (gR p l n)]):=by
 have hG:=fD p sm l sc n;by_cases c:gR p l n=0
 case neg=>
  have c':(gR p l n != 0)= true:=by simpa using c
  have hD:aEf p l n=false:=by unfold aEf; rw [decide_eq_false c]; rfl
  have e2:aYn p l n = .nilp:=by unfold aYn; rw [if_neg c]
  rw [hD];rw [e2] at hG;unfold PrA.d PrA.cells at *;refine xX.go_fn mixed Tryz.func27 k27 (by simp) fun hf=>?_;simp only [ZA,ZB,ZC,ZD,ZE,↓reduceIte,ZF,ZG,ZH,ZI,ZJ,reduceCtorEq,ZK,↓zU,↓zD,zV,zT,zW]
  (repeat refine sd ?_)
  refine .go (cr hG) ?_;simp only [ZA,ZB,ZC,ZD,ZE,↓reduceIte,ZF,ZG,ZH,ZI,ZJ,reduceCtorEq,ZK,↓zU,↓zD,zV,zT,zW,c'];exact .drop (by simp) (by simp [vw,vwL])
 have c':(gR p l n != 0)= false:=by simpa using c
 obtain⟨F,k,hv,rfl,hk,hc,hs⟩:=aD c;have hS:=bR hv hc k hs;have e2:aYn p l ((k+1:Nat):Int)= plD p (vB p l k):=by unfold aYn; rw [if_pos c,Int.toNat_natCast,Nat.add_sub_cancel]
 have hIB:aEf p l ((k+1:Nat):Int)= (List.range k).all fun t=>decide (chsM p l (vB p l k) t=wC p (vB p l k) t):=by
  unfold aEf;rw [decide_eq_true c,Int.toNat_natCast,Nat.add_sub_cancel,Bool.true_and]
 rw [hIB,c];rw [e2] at hG;rw [c] at hG;have hpm:=fun t ht=>lO hv (hS.good hv (t:=t) ht (by omega));have hall:∀ t,t<k->chsB p l (vB p l k) t=true:=fun t ht=>(aKz hv hc hs ht).1;have hI:=hv.hI;have hlen:=hS.len;have hrun:=hS.run;generalize vB p l k=sts at *;have hch:=fun(nx:Nat) (ob:List (Nat × Ob)) t (ht:t<k)=>gY (nx:=nx) (ob:=ob) (x:=plD p sts) sc.len hv.hA (by rw [hlen]; exact hI) (fun st hs=>by rw [hrun st hs]; omega) (by omega) (.pure rfl) (hall t ht);have hw:IntKind.i64.wrap (((k+1:Nat):Int)-1)= (k:Int):=by rw [wrap_i64 (by omega)]; omega
 have hA:=hv.hA;have heq:=fun t=>aFb (chsM p l sts t) (wC p sts t) (by rw [cW]; omega);unfold PrA.d PrA.cells plD plC at *;refine xX.go_fn mixed Tryz.func27 k27 (by simp) fun hf=>?_;simp only [ZA,ZB,ZC,ZD,ZE,↓reduceIte,ZF,ZG,ZH,ZI,ZJ,reduceCtorEq,ZK,↓zU,↓zD,zV,zT,zW]
 (repeat refine sd ?_)
 refine .go (cr hG) ?_;simp only [ZA,ZB,ZC,ZD,ZE,↓reduceIte,ZF,ZG,ZH,ZI,ZJ,reduceCtorEq,ZK,↓zU,↓zD,zV,zT,zW,hw]
 refine xV (fun t:Nat=>[(25,.int .i64 t),(24,.int .i64 k),(8,.ptr [.int .i64 p.F,.sl 1 (us p.init),.sl 1 (us p.see),.sl 1 (mvR p.moves),.sl 1 (cdR p.code),.sl 1 (rr sts)]),(1,.sl 3 (chR l))]) (fun _=>⟨0,[]⟩) (fun t=>t<=k/\∀ j,j<t->chsM p l sts j=wC p sts j) (fun t=>k-t) 0 ⟨Nat.zero_le _,fun j hj=>absurd hj (Nat.not_lt_zero _)⟩ ?_ ?_
 ·(refine xM.ren [] [] (by simp) (by simp) (by decide) ?_; simp only [yP,vwL,vw,vwF,sw,St.get,St.look,Fr.get,↓reduceIte,reduceIte,Nat.reduceEqDiff,Nat.reduceAdd,Nat.reduceBEq,Nat.reduceLT,Nat.reduceLeDiff,exists_eq_left',ne_eq,reduceCtorEq,zR])
 intro t ⟨ht,hj⟩;refine xQ mixed ?_;by_cases htk:t<k
 case neg=>
  have hd:¬ ((t:Int)<(k:Int)):=by omega
  rw [show ((List.range k).all fun t=>decide (chsM p l sts t=wC p sts t))= true by
   rw [List.all_eq_true];exact fun j hj2=>decide_eq_true (hj j (by have:=List.mem_range.1 hj2; omega))]
  simp only [ZA,ZB,ZC,ZD,ZE,↓reduceIte,ZF,ZG,ZH,ZI,ZJ,reduceCtorEq,ZK,↓zU,↓zD,zV,zT,zW,hd];exact .drop (by simp) (by simp [vw,vwL])
 have hd:((t:Int)<(k:Int)):=by omega
 have h1:=hch 0 [] t htk;have h2:=hpm t (by omega);have h3:=heq t
 have hno:chsM p l sts t≠wC p sts t->((List.range k).all fun t=>decide (chsM p l sts t=wC p sts t))= false:=fun h=>by
  rw [List.all_eq_false];exact⟨t,List.mem_range.2 htk,by simpa using h⟩
 have hsu:chsM p l sts t=wC p sts t->∀ j,j<t+1->chsM p l sts j=wC p sts j:=fun h j hj2=>by
  by_cases e:j=t
  ·rw [e]; exact h
  ·exact hj j (by omega)
 generalize chsM p l sts t=M1 at *;generalize wC p sts t=M2 at *;simp only [ZA,ZB,ZC,ZD,ZE,↓reduceIte,ZF,ZG,ZH,ZI,ZJ,reduceCtorEq,ZK,↓zU,↓zD,zV,zT,zW,hd];refine .go h1 ?_;simp only [ZA,ZB,ZC,ZD,ZE,↓reduceIte,ZF,ZG,ZH,ZI,ZJ,reduceCtorEq,ZK,↓zU,↓zD,zV,zT,zW];refine .go (cr h2) ?_;simp only [ZA,ZB,ZC,ZD,ZE,↓reduceIte,ZF,ZG,ZH,ZI,ZJ,reduceCtorEq,ZK,↓zU,↓zD,zV,zT,zW];refine .go (cr h3) ?_
 by_cases hq:M1=M2
 ·rw [decide_eq_true hq];simp only [ZA,ZB,ZC,ZD,ZE,↓reduceIte,ZF,ZG,ZH,ZI,ZJ,reduceCtorEq,ZK,↓zU,↓zD,zV,zT,zW];refine⟨t+1,⟨by omega,hsu hq⟩,?_,by omega⟩
  (refine xM.ren [] [] (by simp) (by simp) (by decide) ?_; simp only [yP,vwL,vw,vwF,sw,St.get,St.look,Fr.get,↓reduceIte,reduceIte,Nat.reduceEqDiff,Nat.reduceAdd,Nat.reduceBEq,Nat.reduceLT,Nat.reduceLeDiff,exists_eq_left',ne_eq,reduceCtorEq,zR])
  exact wQ (by omega)
 ·rw [decide_eq_false hq,hno hq];simp only [ZA,ZB,ZC,ZD,ZE,↓reduceIte,ZF,ZG,ZH,ZI,ZJ,reduceCtorEq,ZK,↓zU,↓zD,zV,zT,zW];exact .drop (by simp) (by simp [vw,vwL])
end Go.Pd
