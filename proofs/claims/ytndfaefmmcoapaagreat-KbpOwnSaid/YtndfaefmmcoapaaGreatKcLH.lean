/- Part LH. -/
import Derived.Test.YtndfaefmmcoapaaGreatKcXE
import Derived.Test.YtndfaefmmcoapaaGreatKcKG
import Derived.Test.YtndfaefmmcoapaaGreatKcKI
set_option linter.unusedSectionVars false
set_option linter.unusedVariables false
set_option linter.unusedSimpArgs false
set_option linter.defProp false
set_option maxRecDepth 20000
set_option maxHeartbeats 1000000
namespace Go.Pd
open Go Go.Proofs
open Int renaming reduceToNat -> ZA, reduceLT -> ZB, reduceLE -> ZC, reduceBEq -> ZD, reduceBNe -> ZE
open Nat renaming reduceEqDiff -> ZF, reduceAdd -> ZG, reduceBEq -> ZH, reduceLT -> ZI, reduceLeDiff -> ZJ, reduceMul -> ZK
open Rs Fm Ru Te Kb
namespace Kb
def oO (p:PrA) (l:List ChA):Nat->Option (List (List (BitVec 64)))
 | 0=>some (bQ p)
 | n+1=>match oO p l n with
  | none=>none
  | some sts=>if chsB p l sts n=true then some (lA p sts (chsM p l sts n)) else none
def vJ (p:PrA) (l:List ChA) (n:Nat):List (List (BitVec 64)):=(oO p l n).getD []
theorem nG {p:PrA} {l:List ChA} {n:Nat} (h:(oO p l (n+1)).isSome=true):(oO p l n).isSome=true/\chsB p l (vJ p l n) n=true/\vJ p l (n+1)= lA p (vJ p l n) (chsM p l (vJ p l n) n):=by
 unfold oO at h;unfold vJ
 cases e:oO p l n with
 | none=>rw [e] at h; cases h
 | some sts=>
  rw [e] at h;simp only at h
  by_cases c:chsB p l sts n=true
  ·refine⟨rfl,c,?_⟩;show (oO p l (n+1)).getD []=_;unfold oO;rw [e];simp only [c,↓reduceIte];rfl
  ·rw [if_neg c] at h; cases h
theorem aFl {p:PrA} {l:List ChA} {n:Nat} (h:(oO p l n).isSome=true):(oO p l (n+1)).isSome=chsB p l (vJ p l n) n/\(chsB p l (vJ p l n) n=true->vJ p l (n+1)= lA p (vJ p l n) (chsM p l (vJ p l n) n)):=by
 cases e:oO p l n with
 | none=>rw [e] at h; cases h
 | some sts=>
  have e2:vJ p l n=sts:=by unfold vJ; rw [e]; rfl
  rw [e2]
  have e3:oO p l (n+1)= if chsB p l sts n=true then some (lA p sts (chsM p l sts n)) else none:=by
   show (match oO p l n with | none=>none | some sts=>_)= _;rw [e]
  unfold vJ;rw [e3]
  cases c:chsB p l sts n with
  | true=>exact⟨rfl,fun _=>rfl⟩
  | false=>exact⟨rfl,fun h=>by cases h⟩
theorem iN {p:PrA} {l:List ChA} {n:Nat}:∀ {m:Nat},n<=m->(oO p l n).isSome=false->(oO p l m).isSome=false
 | 0,h,hn=>by
  have:n=0:=by omega
  rw [this] at hn;exact hn
 | m+1,h,hn=>by
  by_cases e:n=m+1
  ·rw [<- e]; exact hn
  ·have ih:=iN (m:=m) (by omega) hn
   cases c:(oO p l (m+1)).isSome with
   | false=>rfl
   | true=>rw [(nG c).1] at ih; cases ih
theorem aJr {p:PrA} {l:List ChA} (h:yB p l=0):∀ i,i<l.length->chE p l i=0:=fun i hi=>uU.1 h i (List.mem_range.2 hi)
theorem aC1 {p:PrA} {l:List ChA} (h:yB p l=0) {c:ChA} (hc:c ∈ l):c.mv<p.moves.length /\ -1<=c.mv:=by
 obtain⟨i,hi,rfl⟩:=List.getElem_of_mem hc;have h1:=aJr h i hi;unfold chE at h1;have e:l.getD i ch0=l[i]:=by simp [List.getD,hi]
 rw [e] at h1
 split at h1
 ·cases h1
 ·rename_i hb;have hb:aTi p l[i]=false:=by simpa using hb
  unfold aTi at hb;simp only [Bool.or_eq_false_iff,decide_eq_false_iff_not] at hb;omega
theorem cG (p:PrA) (l:List ChA) (sts:List (List (BitVec 64))) (t:Nat):(chsM p l sts t).length=p.see.length:=by simp [chsM]
theorem aUz {p:PrA} {l:List ChA} {sts:List (List (BitVec 64))} {t:Nat}:∀ m ∈ chsM p l sts t,m.length=sts.length:=fun m hm=>by
 simp only [chsM,List.mem_map] at hm;obtain⟨a,_,rfl⟩:=hm;simp [mvG]
theorem aPc {p:PrA} {l:List ChA} (h:yB p l=0) {sts:List (List (BitVec 64))} {t:Nat} (hB:chsB p l sts t=true):∀ m ∈ chsM p l sts t,∀ k ∈ m,k<p.moves.length:=fun m hm k hk=>by
 simp only [chsM,List.mem_map,List.mem_range] at hm;obtain⟨a,ha,rfl⟩:=hm;simp only [mvG,List.mem_map,List.mem_range] at hk;obtain⟨r,hr,rfl⟩:=hk;unfold chsB at hB;rw [List.all_eq_true] at hB;have h1:=hB a (List.mem_range.2 ha);rw [List.all_eq_true] at h1;have h2:=of_decide_eq_true (h1 r (List.mem_range.2 hr));exact(aC1 h (xN (aZr h2).1)).1
theorem bB {p:PrA} {F:Nat} (hv:PrV p F) {l:List ChA} (hc:yB p l=0):∀ n,(oO p l n).isSome=true->PlS p F (vJ p l n) n
 | 0,_=>PlS.beg hv
 | n+1,h=>by
  obtain⟨h1,h2,h3⟩:=nG h;rw [h3];exact PlS.step hv (bB hv hc n h1) aUz (aPc hc h2)
def kR (p:PrA) (l:List ChA) (n:Int):Int:=if lO p n≠0 then lO p n else if yB p l≠0 then yB p l else if (oO p l (n.toNat-1)).isSome=true then 0 else 6
theorem aXn {p:PrA} {l:List ChA} {n:Int} (h:kR p l n=0):∃ F k:Nat,PrV p F/\n=((k+1:Nat):Int)/\ k<=5/\yB p l=0/\(oO p l k).isSome=true:=by
 unfold kR at h
 split at h
 ·rename_i h1; exact absurd h h1
 ·rename_i h1
  split at h
  ·rename_i h2; exact absurd h h2
  ·rename_i h2
   split at h
   ·rename_i h3;obtain⟨F,k,hv,rfl,hk⟩:=Kb.req_zero (show lO p n=0 by simpa using h1);rw [Int.toNat_natCast,Nat.add_sub_cancel] at h3;exact⟨F,k,hv,rfl,hk,by simpa using h2,h3⟩
   ·cases h
def aY3 (p:PrA) (l:List ChA) (n:Int):D:=if kR p l n=0 then plD p (vJ p l (n.toNat-1)) else .nilp
end Kb
theorem gN {p:PrA} {l:List ChA} (hll:l.length<=2000000) {sts:List (List (BitVec 64))} {t:Nat} (hA:1<=p.see.length/\p.see.length<=4) (hR:1<=sts.length/\sts.length<=16) (hl:∀ st ∈ sts,t<st.length) (ht:t<=1000) {nx:Nat} {ob:List (Nat × Ob)} {x:D}
  (hx:Seen ⟨nx,ob⟩ (fun _=>False) x (plD p sts)) (hB:chsB p l sts t=true):xX Tryz.prog 84 [x,.sl 3 (chR l),.int .i64 t] ⟨nx,ob⟩ (.tup [.sl 1 (rl (chsM p l sts t)),.bool true]) ⟨nx+(1+p.see.length),ob⟩:=by
 have hc:=aU0 hll hA hR hl ht (d:=.tup [.osl 0 1 p.see.length,.bool true]) (σ':=⟨1+p.see.length,aTf ((chsM p l sts t).map (rows .i64))⟩) (fun _=>⟨rfl,rfl⟩) (fun h=>by rw [hB] at h; cases h);refine xX.lentDeep hc ⟨hx,.pure rfl,.pure rfl,trivial⟩ (by simp [D.fl]) (aQy aV4) ?_;have hN:=Nst.shift (c:=nx) (r:=ob) (cR ((chsM p l sts t).map (rows .i64))) fun e he r hr=>(uF e he r hr).2
 have:=Nst.seen (nx:=nx+(1+p.see.length)) (K:=fun k=>k<nx) (n:=p.see.length) hN (by rw [List.length_map,cG]) (by omega) (fun k hk=>by
  simp only [List.mem_map] at hk;obtain⟨j,_,rfl⟩:=hk;omega) uF
 rw [aQe] at this;simp only [D.shift,D.shiftL];exact Seen.tup ⟨this,.pure rfl,trivial⟩
theorem aWr {p:PrA} {l:List ChA} (hll:l.length<=2000000) {sts:List (List (BitVec 64))} {t:Nat} (hA:1<=p.see.length/\p.see.length<=4) (hR:1<=sts.length/\sts.length<=16) (hl:∀ st ∈ sts,t<st.length) (ht:t<=1000) {nx:Nat} {ob:List (Nat × Ob)} {x:D}
  (hx:Seen ⟨nx,ob⟩ (fun _=>False) x (plD p sts)) (hB:chsB p l sts t=false):xX Tryz.prog 84 [x,.sl 3 (chR l),.int .i64 t] ⟨nx,ob⟩ (.tup [.nils,.bool false]) ⟨nx,ob⟩:=by
 have hc:=aU0 hll hA hR hl ht (d:=.tup [.nils,.bool false]) (σ':=St0) (fun h=>by rw [hB] at h; cases h) (fun _=>⟨rfl,rfl⟩);exact xX.lentS hc ⟨hx,.pure rfl,.pure rfl,trivial⟩ (by simp [D.flat,D.flatL])
theorem eQ (p:PrA) (sm:rR p) (l:List ChA) (sc:fO l) (n:Int):yX Tryz.prog 82 [p.d,.sl 3 (chR l),.int .i64 n] (.tup [aY3 p l n,.int .i64 (kR p l n)]):=by
 have hQ:=jD p sm n;have hC:=aRd p l sc;have hll:=sc.len;by_cases c:lO p n=0
 case neg=>
  have c':(lO p n != 0)= true:=by simpa using c
  have e1:kR p l n=lO p n:=by unfold kR; rw [if_pos c]
  have e2:aY3 p l n = .nilp:=by unfold aY3; rw [e1,if_neg c]
  rw [e1,e2];unfold PrA.d PrA.cells at *;refine xX.go_fn mixed Tryz.func82 k82 (by simp) fun hf=>?_;simp only [ZA,ZB,ZC,ZD,ZE,↓reduceIte,ZF,ZG,ZH,ZI,ZJ,reduceCtorEq,ZK,↓zU,↓zD,zV,zT,zW]
  (repeat refine sd ?_)
  refine .go (cr hQ) ?_;simp only [ZA,ZB,ZC,ZD,ZE,↓reduceIte,ZF,ZG,ZH,ZI,ZJ,reduceCtorEq,ZK,↓zU,↓zD,zV,zT,zW,c'];exact .drop (by simp) (by simp [vw,vwL])
 have c':(lO p n != 0)= false:=by simpa using c
 by_cases c2:yB p l=0
 case neg=>
  have c2':(yB p l != 0)= true:=by simpa using c2
  have e1:kR p l n=yB p l:=by unfold kR; rw [if_neg (by simpa using c),if_pos c2]
  have e2:aY3 p l n = .nilp:=by unfold aY3; rw [e1,if_neg c2]
  rw [e1,e2];unfold PrA.d PrA.cells at *;refine xX.go_fn mixed Tryz.func82 k82 (by simp) fun hf=>?_;simp only [ZA,ZB,ZC,ZD,ZE,↓reduceIte,ZF,ZG,ZH,ZI,ZJ,reduceCtorEq,ZK,↓zU,↓zD,zV,zT,zW]
  (repeat refine sd ?_)
  refine .go (cr hQ) ?_;simp only [ZA,ZB,ZC,ZD,ZE,↓reduceIte,ZF,ZG,ZH,ZI,ZJ,reduceCtorEq,ZK,↓zU,↓zD,zV,zT,zW,c'];refine .go (cr hC) ?_;simp only [ZA,ZB,ZC,ZD,ZE,↓reduceIte,ZF,ZG,ZH,ZI,ZJ,reduceCtorEq,ZK,↓zU,↓zD,zV,zT,zW,c2'];exact .drop (by simp) (by simp [vw,vwL])
 have c2':(yB p l != 0)= false:=by simpa using c2
 obtain⟨F,k,hv,rfl,hk⟩:=Kb.req_zero c
 have hgE:kR p l ((k+1:Nat):Int)= if (oO p l k).isSome=true then 0 else 6:=by
  unfold kR;rw [if_neg (by simpa using c),if_neg (by simpa using c2),Int.toNat_natCast,Nat.add_sub_cancel]
 have hgD:aY3 p l ((k+1:Nat):Int)= if (oO p l k).isSome=true then plD p (vJ p l k) else .nilp:=by
  unfold aY3;rw [hgE,Int.toNat_natCast,Nat.add_sub_cancel];split <;> rfl
 have hB:=aU5 hv;have hI:=hv.hI;have hA:=hv.hA;have hw:IntKind.i64.wrap (((k+1:Nat):Int)-1)= (k:Int):=by rw [wrap_i64 (by omega)]; omega
 have hB1:=xX.own (σ:=⟨1,[(0,⟨5,[p.cells]⟩)]⟩) hB (by simp [D.isPureL,D.isPure,PrA.d,PrA.cells]);have hPS:=(mH p (Nat.le_refl 2) (bQ p)).shift (c:=1) (r:=[(0,⟨5,[p.cells]⟩)]);have hbl:(bQ p).length=p.init.length:=by simp [bQ]
 have hD:p.d = .agg [.int .i64 p.F,.sl 1 (us p.init),.sl 1 (us p.see),.sl 1 (mvR p.moves),.sl 1 (cdR p.code)]:=rfl;rw [hgE,hgD];unfold PrA.cells at hB1 hPS;rw [hD] at *;refine xX.go_fn mixed Tryz.func82 k82 (by simp) fun hf=>?_;simp only [ZA,ZB,ZC,ZD,ZE,↓reduceIte,ZF,ZG,ZH,ZI,ZJ,reduceCtorEq,ZK,↓zU,↓zD,zV,zT,zW]
 (repeat refine sd ?_)
 refine .go (cr hQ) ?_;simp only [ZA,ZB,ZC,ZD,ZE,↓reduceIte,ZF,ZG,ZH,ZI,ZJ,reduceCtorEq,ZK,↓zU,↓zD,zV,zT,zW,c'];refine .go (cr hC) ?_;simp only [ZA,ZB,ZC,ZD,ZE,↓reduceIte,ZF,ZG,ZH,ZI,ZJ,reduceCtorEq,ZK,↓zU,↓zD,zV,zT,zW,c2'];refine .go hB1 ?_;simp only [ZA,ZB,ZC,ZD,ZE,↓reduceIte,ZF,ZG,ZH,ZI,ZJ,reduceCtorEq,ZK,↓zU,↓zD,zV,zT,zW,hw]
 refine tV (fun t:Nat=>[(30,.int .i64 t),(29,.int .i64 k),(10,.ref 0 6 0 0),(1,.sl 3 (chR l))]) (fun t=>⟨2+(vJ p l t).length,plL p 2 (vJ p l t)⟩) (fun t=>t<=k/\(oO p l t).isSome=true) (fun t=>k-t) 0 ⟨Nat.zero_le _,rfl⟩ ?_ ?_
 ·refine xM.play hPS (Nat.le_refl _) (Nat.zero_le _) (fun k hk=>absurd hk (Nat.not_lt_zero _)) ?_;simp only [vwF,vw,Fr.get,↓reduceIte,reduceIte,Nat.reduceEqDiff,D.shift,and_true,true_and];exact⟨rfl,by omega,rfl⟩
 intro t ⟨ht,hsome⟩;refine xQ mixed ?_;have hS:=bB hv c2 t hsome;have hl:=hS.len;obtain⟨u1,u2⟩:=aFl hsome;by_cases htn:t<k
 case neg=>
  have hd:¬ ((t:Int)<(k:Int)):=by omega
  obtain rfl:t=k:=by omega
  rw [if_pos hsome,if_pos hsome];simp only [ZA,ZB,ZC,ZD,ZE,↓reduceIte,ZF,ZG,ZH,ZI,ZJ,reduceCtorEq,ZK,↓zU,↓zD,zV,zT,zW,hd]
  refine .go [(10,plD p (vJ p l t))] ⟨2+(vJ p l t).length,[]⟩ ?_ ?_
  ·refine xM.deep (fun _=>False) trivial ⟨.inr ?_,trivial⟩;exact kJ (Nat.le_refl 2) fun _ h=>h
  simp only [ZA,ZB,ZC,ZD,ZE,↓reduceIte,ZF,ZG,ZH,ZI,ZJ,reduceCtorEq,ZK,↓zU,↓zD,zV,zT,zW];exact .drop (by simp) (by simp [vw,vwL,plD])
 have hd:((t:Int)<(k:Int)):=by omega
 have hseen:Seen ⟨2+(vJ p l t).length,plL p 2 (vJ p l t)⟩ (fun _=>False) (.ref 0 6 0 0) (plD p (vJ p l t)):=kJ (Nat.le_refl 2) fun _ h=>h
 cases hcb:chsB p l (vJ p l t) t with
 | false=>
  have hno:=aWr hll hA (by rw [hl]; exact hI) (fun st hs=>by rw [hS.run st hs]; omega) (by omega) hseen hcb;have hnk:(oO p l k).isSome=false:=iN (show t+1<=k by omega) (by rw [u1,hcb]);rw [hnk,if_neg (by simp),if_neg (by simp)];simp only [ZA,ZB,ZC,ZD,ZE,↓reduceIte,ZF,ZG,ZH,ZI,ZJ,reduceCtorEq,ZK,↓zU,↓zD,zV,zT,zW,hd];refine .go hno ?_;simp only [ZA,ZB,ZC,ZD,ZE,↓reduceIte,ZF,ZG,ZH,ZI,ZJ,reduceCtorEq,ZK,↓zU,↓zD,zV,zT,zW];refine .keep ?_;simp only [ZA,ZB,ZC,ZD,ZE,↓reduceIte,ZF,ZG,ZH,ZI,ZJ,reduceCtorEq,ZK,↓zU,↓zD,zV,zT,zW];exact .drop (by simp) (by simp [vw,vwL])
 | true=>
  have hyes:=gN hll hA (by rw [hl]; exact hI) (fun st hs=>by rw [hS.run st hs]; omega) (by omega) hseen hcb;have hpl:=cG p l (vJ p l t) t;have h121:=eF hv (sts:=vJ p l t) (by rw [hl]; exact hI) (fun st hs=>by rw [hS.run st hs]; omega) hS.val (mv:=chsM p l (vJ p l t) t) (by rw [hpl]; omega) aUz (aPc c2 hcb) (nx:=2+(vJ p l t).length+(1+p.see.length)) (by omega);have hnext:=u2 hcb;have hsl:(lA p (vJ p l t) (chsM p l (vJ p l t) t)).length=(vJ p l t).length:=by simp [lA]
  have hPI:=mH p (b:=2+(vJ p l t).length+(1+p.see.length)) (by omega) (lA p (vJ p l t) (chsM p l (vJ p l t) t));simp only [ZA,ZB,ZC,ZD,ZE,↓reduceIte,ZF,ZG,ZH,ZI,ZJ,reduceCtorEq,ZK,↓zU,↓zD,zV,zT,zW,hd];refine .go hyes ?_;simp only [ZA,ZB,ZC,ZD,ZE,↓reduceIte,ZF,ZG,ZH,ZI,ZJ,reduceCtorEq,ZK,↓zU,↓zD,zV,zT,zW];refine .go h121 ?_;simp only [ZA,ZB,ZC,ZD,ZE,↓reduceIte,ZF,ZG,ZH,ZI,ZJ,reduceCtorEq,ZK,↓zU,↓zD,zV,zT,zW];refine⟨t+1,⟨by omega,by rw [u1,hcb]⟩,?_,by omega⟩;rw [hnext];refine xM.play hPI (Nat.le_refl _) (Nat.zero_le _) (fun k hk=>absurd hk (Nat.not_lt_zero _)) ?_;simp only [vwF,vw,Fr.get,↓reduceIte,reduceIte,Nat.reduceEqDiff,and_true,true_and];exact⟨by rw [wrap_i64 (by omega)]; rfl,by omega,rfl⟩
open Rs Fm Ru Te Kb
namespace Kb
structure Ext (n : Nat) (sts sts' : List (List (BitVec 64))) : Prop where
 len:sts'.length=sts.length
 run:∀ i,i<sts.length->(stR sts' i).take n=(stR sts i).take n
theorem Ext.refl (n:Nat) (sts:List (List (BitVec 64))):Ext n sts sts:=⟨rfl,fun _ _=>rfl⟩
theorem Ext.trans {n:Nat} {a b c:List (List (BitVec 64))} (h:Ext n a b) (h':Ext n b c):Ext n a c:=⟨h'.len.trans h.len,fun i hi=>(h'.run i (by rw [h.len]; exact hi)).trans (h.run i hi)⟩
theorem Ext.mono {n m:Nat} {a b:List (List (BitVec 64))} (h:Ext n a b) (hm:m<=n):Ext m a b:=⟨h.len,fun i hi=>by
 have:=congrArg (List.take m) (h.run i hi)
 rwa [List.take_take,List.take_take,Nat.min_eq_left hm] at this⟩
section
variable {n t : Nat} {sts sts' : List (List (BitVec 64))} {see : List (BitVec 64)}
theorem Ext.his (h:Ext n sts sts') (ht:t<n) {a r:Nat} (hr:r<sts.length):vK see (stR sts' r) a t=vK see (stR sts r) a t:=by
 have:=(h.mono (show t+1<=n from ht)).run r hr;unfold vK;rw [this]
theorem Ext.state (h:Ext n sts sts') (ht:t<n) {r:Nat} (hr:r<sts.length):(stR sts' r).getD t 0=(stR sts r).getD t 0:=by
 have:=(h.mono (show t+1<=n from ht)).run r hr;have e:=congrArg (fun l:List (BitVec 64)=>l[t]?) this;simp only [List.getElem?_take,show t<t+1 by omega,↓reduceIte] at e;simp only [List.getD,e]
theorem Ext.loc (h:Ext n sts sts') (ht:t<n) {a w:Nat} (hw:w<sts.length):aRy see sts' t a w=aRy see sts t a w:=by
 unfold aRy;rw [h.len,h.his ht hw]
 have key:∀ (l:List Nat),(∀ v ∈ l,v<sts.length)->l.findIdx (fun v=>decide (vK see (stR sts' v) a t=vK see (stR sts w) a t))= l.findIdx (fun v=>decide (vK see (stR sts v) a t=vK see (stR sts w) a t)):=by
  intro l
  induction l with
  | nil=>intro _; rfl
  | cons v r ih=>
   intro hv;rw [List.findIdx_cons,List.findIdx_cons,h.his ht (hv v (by simp)),ih fun u hu=>hv u (by simp [hu])]
 exact key _ fun v hv=>List.mem_range.1 hv
theorem Ext.time (h:Ext n sts sts') (ht:t<n):wU see sts' t=wU see sts t:=by
 unfold wU;rw [h.len];refine List.map_congr_left fun w hw=>?_;have hw:=List.mem_range.1 hw;rw [h.state ht hw];congr 2;refine List.map_congr_left fun a _=>?_;rw [h.loc ht hw]
theorem all_congr {α:Type} {l:List α} {f g:α->Bool} (h:∀ x ∈ l,f x=g x):l.all f=l.all g:=by
 induction l with
 | nil=>rfl
 | cons x r ih=>rw [List.all_cons,List.all_cons,h x (by simp),ih fun y hy=>h y (by simp [hy])]
theorem Ext.know (h:Ext n sts sts') (ht:t<n) {a w:Nat} (hw:w<sts.length) (f:List Nd):knT see sts' t a f w=knT see sts t a f w:=by
 unfold knT aBd;rw [h.len,h.time ht];refine all_congr fun v hv=>?_;rw [h.his ht (List.mem_range.1 hv),h.his ht hw]
theorem Ext.presL (h:Ext n sts sts') (ht:t<n) {a w:Nat} (hw:w<sts.length):∀ l,presL see sts' t a w l=presL see sts t a w l
 | []=>rfl
 | c :: r=>by
  unfold Kb.presL;rw [h.know ht hw,h.presL ht hw r]
variable {p : PrA}
theorem Ext.presA (h:Ext n sts sts') (ht:t<n) {a w:Nat} (hw:w<sts.length):presA p sts' t a w=presA p sts t a w:=h.presL ht hw _
theorem Ext.presM (h:Ext n sts sts') (ht:t<n):presM p sts' t=presM p sts t:=by
 unfold Kb.presM;rw [h.len];refine List.map_congr_left fun a _=>List.map_congr_left fun w hw=>h.presA ht (List.mem_range.1 hw)
theorem Ext.hisT (h:Ext n sts sts') (ht:t<n) {a r:Nat} (hr:r<sts.length):hisT p sts' t a r=hisT p sts t a r:=h.his ht hr
theorem Ext.chsB (h:Ext n sts sts') (ht:t<n) {l:List ChA}:chsB p l sts' t=chsB p l sts t:=by
 unfold Kb.chsB;rw [h.len];refine all_congr fun a _=>all_congr fun r hr=>?_;rw [h.hisT ht (List.mem_range.1 hr)]
theorem Ext.chsM (h:Ext n sts sts') (ht:t<n) {l:List ChA}:chsM p l sts' t=chsM p l sts t:=by
 unfold Kb.chsM mvG;rw [h.len];refine List.map_congr_left fun a _=>List.map_congr_left fun r hr=>?_;rw [h.hisT ht (List.mem_range.1 hr)]
theorem aUu {mv:List (List Int)} (hl:∀ st ∈ sts,n<=st.length):Ext n sts (lA p sts mv) where
 len:=by simp [lA]
 run:=fun i hi=>by
  have e:stR (lA p sts mv) i=stR sts i ++ [aMh p sts mv i]:=by simp [stR,lA,List.getD,hi]
  rw [e,List.take_append_of_le_length (hl _ (vI hi))]
end
theorem aUv {p:PrA} {F:Nat} (hv:PrV p F) {n:Nat}:∀ {m:Nat},n<=m->Ext (n+1) (yU p n) (yU p m)
 | 0,h=>by
  have:n=0:=by omega
  subst this; exact .refl _ _
 | m+1,h=>by
  by_cases e:n=m+1
  ·subst e; exact .refl _ _
  ·exact(aUv hv (m:=m) (by omega)).trans (aUu fun st hs=>by rw [(tZ hv m).run st hs]; omega)
theorem aQ9 {p:PrA} {F:Nat} (hv:PrV p F) {l:List ChA} (hc:yB p l=0) {n:Nat}:∀ {m:Nat},n<=m->(oO p l m).isSome=true->Ext (n+1) (vJ p l n) (vJ p l m)
 | 0,h,_=>by
  have:n=0:=by omega
  subst this; exact .refl _ _
 | m+1,h,hs=>by
  by_cases e:n=m+1
  ·subst e; exact .refl _ _
  ·obtain⟨h1,h2,h3⟩:=nG hs;rw [h3];exact(aQ9 hv hc (m:=m) (by omega) h1).trans (aUu fun st hs=>by rw [(bB hv hc m h1).run st hs]; omega)
theorem aWi {p:PrA} {l:List ChA} {n:Nat}:∀ {m:Nat},n<=m->(oO p l m).isSome=true->(oO p l n).isSome=true:=fun h hs=>by
 cases c:(oO p l n).isSome with
 | true=>rfl
 | false=>rw [iN h c] at hs; cases hs
theorem aJi {p:PrA} {F:Nat} (hv:PrV p F) {l:List ChA} (hc:yB p l=0) {k t:Nat} (hs:(oO p l k).isSome=true) (ht:t<k):chsB p l (vJ p l k) t=true/\vJ p l (t+1)= lA p (vJ p l t) (chsM p l (vJ p l k) t):=by
 obtain⟨h1,h2,h3⟩:=nG (aWi (show t+1<=k from ht) hs);have he:=aQ9 hv hc (n:=t) (m:=k) (by omega) hs;exact⟨by rw [he.chsB (by omega)]; exact h2,by rw [he.chsM (by omega)]; exact h3⟩
end Kb
open Rs Fm Ru Te Kb
namespace Kb
def aMj (p:PrA) (l:List ChA) (n:Int):bP:=if kR p l n≠0 then⟨0,0,0,[]⟩ else⟨p.see.length,p.F,n,fY p.see (vJ p l (n.toNat-1)) n.toNat⟩
def aIc (p:PrA) (l:List ChA) (n:Int):Bool:=decide (kR p l n=0)&& (List.range (n.toNat-1)).all fun t=>decide (chsM p l (vJ p l (n.toNat-1)) t=presM p (vJ p l (n.toNat-1)) t)
end Kb
theorem eD (p:PrA) (sm:rR p) (l:List ChA) (sc:fO l) (n:Int):yX Tryz.prog 25 [p.d,.sl 3 (chR l),.int .i64 n] (.tup [(aMj p l n).d,.int .i64 (kR p l n)]):=by
 have hG:=eQ p sm l sc n;by_cases c:kR p l n=0
 case neg=>
  have c':(kR p l n != 0)= true:=by simpa using c
  have hD:(aMj p l n).d = .agg [.int .i64 0,.int .i64 0,.int .i64 0,.sl 2 []]:=by unfold aMj; rw [if_pos c]; rfl
  have e2:aY3 p l n = .nilp:=by unfold aY3; rw [if_neg c]
  rw [hD];rw [e2] at hG;unfold PrA.d PrA.cells at *;refine xX.go_fn mixed Tryz.func25 k25 (by simp) fun hf=>?_;simp only [ZA,ZB,ZC,ZD,ZE,↓reduceIte,ZF,ZG,ZH,ZI,ZJ,reduceCtorEq,ZK,↓zU,↓zD,zV,zT,zW]
  (repeat refine sd ?_)
  refine .go (cr hG) ?_;simp only [ZA,ZB,ZC,ZD,ZE,↓reduceIte,ZF,ZG,ZH,ZI,ZJ,reduceCtorEq,ZK,↓zU,↓zD,zV,zT,zW,c']
  (repeat refine sd ?_)
  exact .drop (by simp) (by simp [vw,vwL])
 have c':(kR p l n != 0)= false:=by simpa using c
 obtain⟨F,k,hv,rfl,hk,hc,hs⟩:=aXn c;have hS:=iD hv hk (bB hv hc k hs)
 have hD:(aMj p l ((k+1:Nat):Int)).d=sD p.see.length F (k+1) (fY p.see (vJ p l k) (k+1)):=by
  unfold aMj;rw [if_neg (by simpa using c),Int.toNat_natCast,Nat.add_sub_cancel];show D.agg [_,_,_,_]=D.agg [_,_,_,_];rw [hv.fe]
 have e2:aY3 p l ((k+1:Nat):Int)= plD p (vJ p l k):=by unfold aY3; rw [if_pos c,Int.toNat_natCast,Nat.add_sub_cancel]
 rw [hD];rw [e2] at hG;generalize fY p.see (vJ p l k) (k+1)= S at *;generalize vJ p l k=sts at *;unfold PrA.d PrA.cells plD plC sD at *;refine xX.go_fn mixed Tryz.func25 k25 (by simp) fun hf=>?_;simp only [ZA,ZB,ZC,ZD,ZE,↓reduceIte,ZF,ZG,ZH,ZI,ZJ,reduceCtorEq,ZK,↓zU,↓zD,zV,zT,zW]
 (repeat refine sd ?_)
 refine .go (cr hG) ?_;simp only [ZA,ZB,ZC,ZD,ZE,↓reduceIte,ZF,ZG,ZH,ZI,ZJ,reduceCtorEq,ZK,↓zU,↓zD,zV,zT,zW,c'];refine .go (cr hS) ?_;simp only [ZA,ZB,ZC,ZD,ZE,↓reduceIte,ZF,ZG,ZH,ZI,ZJ,reduceCtorEq,ZK,↓zU,↓zD,zV,zT,zW]
 (repeat refine sd ?_)
 exact .drop (by simp) (by simp [vw,vwL]; simpa using c.symm)
theorem aAg (a b:List Int):yX Tryz.prog 86 [.sl 1 (rows .i64 a),.sl 1 (rows .i64 b)] (.bool (decide (a=b))):=by
 refine xX.go_fn mixed Tryz.func86 k86 (by simp) fun hf=>?_;simp only [ZA,ZB,ZC,ZD,ZE,↓reduceIte,ZF,ZG,ZH,ZI,ZJ,reduceCtorEq,ZK,↓zU,↓zD,zV,zT,zW];refine .go (cr (aFu a b)) ?_;simp only [ZA,ZB,ZC,ZD,ZE,↓reduceIte,ZF,ZG,ZH,ZI,ZJ,reduceCtorEq,ZK,↓zU,↓zD,zV,zT,zW];exact .same
theorem aFt (a b:List (List Int)) (hl:a.length<=1000):yX Tryz.prog 85 [.sl 1 (rl a),.sl 1 (rl b),.fn 86 []] (.bool (decide (a=b))):=by
 refine xX.go_fn mixed Tryz.func85 k85 (by simp) fun hf=>?_;by_cases h1:a.length=b.length
 case neg=>
  have h1':((a.length:Int) != (b.length:Int))= true:=by simp; omega
  simp only [ZA,ZB,ZC,ZD,ZE,↓reduceIte,ZF,ZG,ZH,ZI,ZJ,reduceCtorEq,ZK,↓zU,↓zD,zV,zT,zW,vL,h1'];exact .drop (by simp) (by simp only [vw,D.bool.injEq]; symm; apply decide_eq_false; rintro rfl; exact h1 rfl)
 have h1':((a.length:Int) != (b.length:Int))= false:=by simp; omega
 simp only [ZA,ZB,ZC,ZD,ZE,↓reduceIte,ZF,ZG,ZH,ZI,ZJ,reduceCtorEq,ZK,↓zU,↓zD,zV,zT,zW,vL,h1']
 refine xV (fun k:Nat=>[(17,.int .i64 k),(16,.int .i64 a.length),(15,.sl 1 (rl a)),(2,.fn 86 []),(1,.sl 1 (rl b))]) (fun _=>⟨0,[]⟩) (fun k=>k<=a.length/\∀ i,i<k->a.getD i []=b.getD i []) (fun k=>a.length-k) 0 ⟨Nat.zero_le _,fun i hi=>by omega⟩ ?_ ?_
 ·(refine xM.same ?_; simp [xR,Fr.get])
 intro k ⟨hk,hi⟩;refine xQ mixed ?_
 by_cases h:k<a.length
 ·have hd:((k:Int)<(a.length:Int)):=by omega
  have hd2:((k:Int)<(b.length:Int)):=by omega
  have ga:=fT a h;have gb:=fT b (show k<b.length by omega);have he:=aAg (a.getD k []) (b.getD k [])
  by_cases hb:a.getD k []=b.getD k []
  ·rw [decide_eq_true hb] at he;simp only [ZA,ZB,ZC,ZD,ZE,↓reduceIte,ZF,ZG,ZH,ZI,ZJ,reduceCtorEq,ZK,↓zU,↓zD,zV,zT,zW,hd,vL,ga,hd2,gb]
   (repeat refine sd ?_)
   refine .go (cr he) ?_;simp only [ZA,ZB,ZC,ZD,ZE,↓reduceIte,ZF,ZG,ZH,ZI,ZJ,reduceCtorEq,ZK,↓zU,↓zD,zV,zT,zW]
   refine⟨k+1,⟨by omega,fun i hi2=>?_⟩,?_,by omega⟩
   ·by_cases ei:i=k
    ·rw [ei,hb]
    ·exact hi i (by omega)
   (refine xM.same ?_; simp only [xR,Fr.get,↓reduceIte,reduceIte,Nat.reduceEqDiff,reduceCtorEq,D.int.injEq,D.bool.injEq,D.sl.injEq,and_true,true_and,and_self])
   exact wrap_i64 (by omega)
  ·rw [decide_eq_false hb] at he;simp only [ZA,ZB,ZC,ZD,ZE,↓reduceIte,ZF,ZG,ZH,ZI,ZJ,reduceCtorEq,ZK,↓zU,↓zD,zV,zT,zW,hd,vL,ga,hd2,gb]
   (repeat refine sd ?_)
   refine .go (cr he) ?_;simp only [ZA,ZB,ZC,ZD,ZE,↓reduceIte,ZF,ZG,ZH,ZI,ZJ,reduceCtorEq,ZK,↓zU,↓zD,zV,zT,zW];exact .drop (by simp) (by simp only [vw,D.bool.injEq]; symm; apply decide_eq_false; rintro rfl; exact hb rfl)
 ·have hd:¬ ((k:Int)<(a.length:Int)):=by omega
  have hk':k=a.length:=by omega
  subst hk';simp only [ZA,ZB,ZC,ZD,ZE,↓reduceIte,ZF,ZG,ZH,ZI,ZJ,reduceCtorEq,ZK,↓zU,↓zD,zV,zT,zW,hd];refine .drop (by simp) ?_;simp only [vw,D.bool.injEq]; symm; apply decide_eq_true;refine List.ext_getElem h1 fun i h2 h3=>?_;have:=hi i h2;simpa [List.getD,h2,h3] using this
theorem lB (p:PrA) (sm:rR p) (l:List ChA) (sc:fO l) (n:Int):yX Tryz.prog 27 [p.d,.sl 3 (chR l),.int .i64 n] (.tup [.bool (aIc p l n),.int .i64 (kR p l n)]):=by
 have hG:=eQ p sm l sc n;by_cases c:kR p l n=0
 case neg=>
  have c':(kR p l n != 0)= true:=by simpa using c
  have hD:aIc p l n=false:=by unfold aIc; rw [decide_eq_false c]; rfl
  have e2:aY3 p l n = .nilp:=by unfold aY3; rw [if_neg c]
  rw [hD];rw [e2] at hG;unfold PrA.d PrA.cells at *;refine xX.go_fn mixed Tryz.func27 k27 (by simp) fun hf=>?_;simp only [ZA,ZB,ZC,ZD,ZE,↓reduceIte,ZF,ZG,ZH,ZI,ZJ,reduceCtorEq,ZK,↓zU,↓zD,zV,zT,zW]
  (repeat refine sd ?_)
  refine .go (cr hG) ?_;simp only [ZA,ZB,ZC,ZD,ZE,↓reduceIte,ZF,ZG,ZH,ZI,ZJ,reduceCtorEq,ZK,↓zU,↓zD,zV,zT,zW,c'];exact .drop (by simp) (by simp [vw,vwL])
 have c':(kR p l n != 0)= false:=by simpa using c
 obtain⟨F,k,hv,rfl,hk,hc,hs⟩:=aXn c;have hS:=bB hv hc k hs;have e2:aY3 p l ((k+1:Nat):Int)= plD p (vJ p l k):=by unfold aY3; rw [if_pos c,Int.toNat_natCast,Nat.add_sub_cancel]
 have hIB:aIc p l ((k+1:Nat):Int)= (List.range k).all fun t=>decide (chsM p l (vJ p l k) t=presM p (vJ p l k) t):=by
  unfold aIc;rw [decide_eq_true c,Int.toNat_natCast,Nat.add_sub_cancel,Bool.true_and]
 rw [hIB,c];rw [e2] at hG;rw [c] at hG;have hpm:=fun t ht=>lG hv (hS.good hv (t:=t) ht (by omega));have hall:∀ t,t<k->chsB p l (vJ p l k) t=true:=fun t ht=>(aJi hv hc hs ht).1;have hI:=hv.hI;have hlen:=hS.len;have hrun:=hS.run;generalize vJ p l k=sts at *;have hch:=fun(nx:Nat) (ob:List (Nat × Ob)) t (ht:t<k)=>gN (nx:=nx) (ob:=ob) (x:=plD p sts) sc.len hv.hA (by rw [hlen]; exact hI) (fun st hs=>by rw [hrun st hs]; omega) (by omega) (.pure rfl) (hall t ht);have hw:IntKind.i64.wrap (((k+1:Nat):Int)-1)= (k:Int):=by rw [wrap_i64 (by omega)]; omega
 have hA:=hv.hA;have heq:=fun t=>aFt (chsM p l sts t) (presM p sts t) (by rw [cG]; omega);unfold PrA.d PrA.cells plD plC at *;refine xX.go_fn mixed Tryz.func27 k27 (by simp) fun hf=>?_;simp only [ZA,ZB,ZC,ZD,ZE,↓reduceIte,ZF,ZG,ZH,ZI,ZJ,reduceCtorEq,ZK,↓zU,↓zD,zV,zT,zW]
 (repeat refine sd ?_)
 refine .go (cr hG) ?_;simp only [ZA,ZB,ZC,ZD,ZE,↓reduceIte,ZF,ZG,ZH,ZI,ZJ,reduceCtorEq,ZK,↓zU,↓zD,zV,zT,zW,hw]
 refine xV (fun t:Nat=>[(25,.int .i64 t),(24,.int .i64 k),(8,.ptr [.int .i64 p.F,.sl 1 (us p.init),.sl 1 (us p.see),.sl 1 (mvR p.moves),.sl 1 (cdR p.code),.sl 1 (rr sts)]),(1,.sl 3 (chR l))]) (fun _=>⟨0,[]⟩) (fun t=>t<=k/\∀ j,j<t->chsM p l sts j=presM p sts j) (fun t=>k-t) 0 ⟨Nat.zero_le _,fun j hj=>absurd hj (Nat.not_lt_zero _)⟩ ?_ ?_
 ·(refine xM.ren [] [] (by simp) (by simp) (by decide) ?_; simp only [yO,vwL,vw,vwF,sw,St.get,St.look,Fr.get,↓reduceIte,reduceIte,Nat.reduceEqDiff,Nat.reduceAdd,Nat.reduceBEq,Nat.reduceLT,Nat.reduceLeDiff,exists_eq_left',ne_eq,reduceCtorEq,zR])
 intro t ⟨ht,hj⟩;refine xQ mixed ?_;by_cases htk:t<k
 case neg=>
  have hd:¬ ((t:Int)<(k:Int)):=by omega
  rw [show ((List.range k).all fun t=>decide (chsM p l sts t=presM p sts t))= true by
   rw [List.all_eq_true];exact fun j hj2=>decide_eq_true (hj j (by have:=List.mem_range.1 hj2; omega))]
  simp only [ZA,ZB,ZC,ZD,ZE,↓reduceIte,ZF,ZG,ZH,ZI,ZJ,reduceCtorEq,ZK,↓zU,↓zD,zV,zT,zW,hd];exact .drop (by simp) (by simp [vw,vwL])
 have hd:((t:Int)<(k:Int)):=by omega
 have h1:=hch 0 [] t htk;have h2:=hpm t (by omega);have h3:=heq t
 have hno:chsM p l sts t≠presM p sts t->((List.range k).all fun t=>decide (chsM p l sts t=presM p sts t))= false:=fun h=>by
  rw [List.all_eq_false];exact⟨t,List.mem_range.2 htk,by simpa using h⟩
 have hsu:chsM p l sts t=presM p sts t->∀ j,j<t+1->chsM p l sts j=presM p sts j:=fun h j hj2=>by
  by_cases e:j=t
  ·rw [e]; exact h
  ·exact hj j (by omega)
 generalize chsM p l sts t=M1 at *;generalize presM p sts t=M2 at *;simp only [ZA,ZB,ZC,ZD,ZE,↓reduceIte,ZF,ZG,ZH,ZI,ZJ,reduceCtorEq,ZK,↓zU,↓zD,zV,zT,zW,hd];refine .go h1 ?_;simp only [ZA,ZB,ZC,ZD,ZE,↓reduceIte,ZF,ZG,ZH,ZI,ZJ,reduceCtorEq,ZK,↓zU,↓zD,zV,zT,zW];refine .go (cr h2) ?_;simp only [ZA,ZB,ZC,ZD,ZE,↓reduceIte,ZF,ZG,ZH,ZI,ZJ,reduceCtorEq,ZK,↓zU,↓zD,zV,zT,zW];refine .go (cr h3) ?_
 by_cases hq:M1=M2
 ·rw [decide_eq_true hq];simp only [ZA,ZB,ZC,ZD,ZE,↓reduceIte,ZF,ZG,ZH,ZI,ZJ,reduceCtorEq,ZK,↓zU,↓zD,zV,zT,zW];refine⟨t+1,⟨by omega,hsu hq⟩,?_,by omega⟩
  (refine xM.ren [] [] (by simp) (by simp) (by decide) ?_; simp only [yO,vwL,vw,vwF,sw,St.get,St.look,Fr.get,↓reduceIte,reduceIte,Nat.reduceEqDiff,Nat.reduceAdd,Nat.reduceBEq,Nat.reduceLT,Nat.reduceLeDiff,exists_eq_left',ne_eq,reduceCtorEq,zR])
  exact wN (by omega)
 ·rw [decide_eq_false hq,hno hq];simp only [ZA,ZB,ZC,ZD,ZE,↓reduceIte,ZF,ZG,ZH,ZI,ZJ,reduceCtorEq,ZK,↓zU,↓zD,zV,zT,zW];exact .drop (by simp) (by simp [vw,vwL])
namespace Ru
end Ru
open Ru
open Ru
namespace Ru
end Ru
namespace Ru
def hT (f:Nat->Int):Nat->List Int
 | 0=>[]
 | k+1=>if 0<k/\f k=f (k-1) then hT f k else hT f k ++ [f k]
end Ru
open Rs Fm Ru Te Kb
namespace Kb
instance : DecidableEq wP := fun a b => decidable_of_iff (a.loc = b.loc /\ a.fac = b.fac) (by cases a; cases b; simp)
instance : DecidableEq bP := fun a b => decidable_of_iff (a.ag = b.ag /\ a.fa = b.fa /\ a.ln = b.ln /\ a.rs = b.rs) (by cases a; cases b; simp)
def aHa (x:List Int):List (List Int)->List (List Int)
 | []=>[x]
 | y :: l=>if kc y x<0 then y :: aHa x l else x :: y :: l
def aHc : List (List Int)->List (List Int)
 | []=>[]
 | x :: l=>aHa x (aHc l)
theorem iQ (x:List Int):∀ l,(aHa x l).Perm (x :: l)
 | []=>List.Perm.refl _
 | y :: l=>by
  unfold aHa
  split
  ·exact((iQ x l).cons y).trans (List.Perm.swap x y l)
  ·exact List.Perm.refl _
theorem aX6 : ∀ l,(aHc l).Perm l
 | []=>List.Perm.refl _
 | x :: l=>(iQ x _).trans ((aX6 l).cons x)
theorem aUh (x:List Int):∀ l,asc l->asc (aHa x l)
 | [],_=>by unfold aHa asc; simp
 | y :: l,h=>by
  have h1:=List.pairwise_cons.1 h;unfold aHa
  split
  ·rename_i hc;refine List.pairwise_cons.2 ⟨fun z hz=>?_,aUh x l h1.2⟩
   rcases List.mem_cons.1 ((iQ x l).mem_iff.1 hz) with rfl | hz
   ·have:=pA y z; omega
   ·exact h1.1 z hz
  ·rename_i hc;refine List.pairwise_cons.2 ⟨fun z hz=>?_,h⟩
   rcases List.mem_cons.1 hz with rfl | hz
   ·exact hc
   ·exact nH (h1.1 z hz) hc
theorem aU7 : ∀ l,asc (aHc l)
 | []=>List.Pairwise.nil
 | x :: l=>aUh x _ (aU7 l)
theorem aJ0 (l:List (List Int)):aYz l=aHc l:=(aPf (aX6 l) (aU7 l)).symm
theorem aX5 : aYz=aHc:=funext aJ0
def aAy (see:List (BitVec 64)) (sts:List (List (BitVec 64))) (T:Nat):List wP:=
 aEp (aY9 sts) see.length T fun a p=>below (dedup (aHc ((ptN T ((aY9 sts).length*T)).map (rN see sts a)))) (rN see sts a p)
theorem aVi (see:List (BitVec 64)) (sts:List (List (BitVec 64))) (T:Nat):fY see sts T=aAy see sts T:=by
 unfold fY aBi aAy aDg;rw [aX5]
def allI (see:List (BitVec 64)) (sts:List (List (BitVec 64))) (T a:Nat):List (List Int):=dedup (aHc ((ptN T (sts.length*T)).map (rN see sts a)))
theorem aJ6 (see:List (BitVec 64)) (sts:List (List (BitVec 64))) (T a:Nat):mR see sts T a=allI see sts T a:=by
 unfold mR allI; rw [aX5]
def exT : List Nd:=aBp (rG 0) (aEq (bL 1 (rG 0)))
def exP : PrA:=⟨2,[0#64,1#64],[1#64,2#64],[[⟨1,rG 0⟩]],[[⟨exT,0⟩],[]]⟩
def exS : bP:=⟨2,2,3,[⟨[[0,0],[2,1],[4,3]],[0#64,0#64,0#64]⟩,⟨[[1,0],[3,2],[5,4]],[1#64,3#64,3#64]⟩]⟩
theorem aXv : yU exP 2 = [[0#64,0#64,0#64],[1#64,3#64,3#64]]:=by decide +kernel
theorem aW9 : lO exP 3=0:=by decide +kernel
theorem aFr : oJ exP 3=exS:=by
 unfold oJ;rw [if_neg (by rw [aW9]; simp),show (3:Int).toNat=3 from rfl,aXv,aVi];decide +kernel
end Kb
open Rs Fm Ru Te Kb
def Nw (d d':D):Prop:=∀ (M:Nat->Prop) (w:World) (v:Value),RP M w v d->RP M w v d'
theorem Nw.refl (d:D):Nw d d:=fun _ _ _ h=>h
theorem Nw.nils (sz:Nat):Nw .nils (.sl sz []):=fun _ _ v h=>by
 cases h;exact .sl0 _ _ _ (by simp)
theorem Nw.sl {sz:Nat} {els els':List (List D)} (hl:els.length=els'.length) (hw:∀ e ∈ els',e.length=sz)
  (h:∀ i,i<els.length->∀ j,j<sz->Nw ((els.getD i []).getD j .top) ((els'.getD i []).getD j .top)):Nw (.sl sz els) (.sl sz els'):=fun M w v hv=>by
 cases hv with
 | sl0 a cap sz hh=>
  have:els' = []:=List.length_eq_zero_iff.1 (by simpa using hl.symm);subst this;exact .sl0 _ _ _ hh
 | sl vs hs hM hc hm hl2 hcell hr=>
  have:=RP.sl (M:=M) (w:=w) (sz:=sz) (els:=els') vs hs hM (by omega) hm hw (by rw [<- hl]; exact hcell) (by rw [<- hl]; exact fun i hi j hj=>h i hi j hj M w _ (hr i hi j hj))
  rwa [<- hl] at this
theorem Nw.agg {ds cs:List D} (hl:ds.length=cs.length) (h:∀ j,j<cs.length->Nw (ds.getD j .top) (cs.getD j .top)):Nw (.agg ds) (.agg cs):=fun M w v hv=>by
 cases hv with
 | agg h1 h2=>exact .agg (by omega) fun j hj=>h j hj M w _ (h2 j (by omega))
theorem Nw.seen {σ:St} {K:Nat->Prop} {d d':D} (h:Nw d d') (hp:d.isPure=true):Seen σ K d d':=fun M0 w ι v hS hR=>h _ _ _ (Seen.pure hp M0 w ι v hS hR)
theorem yX.seen {P:Program} {g:FuncId} {args args':List D} {d:D} (hc:yX P g args' d) (h:oH St0 (fun _=>False) args args'):yX P g args d:=
 xX.give (σ:=St0) (objs':=[]) (fun _=>False) hc h fun k o hk=>by cases hk
theorem aAw (f g:List Nd):yX Tryz.prog 92 [.sl 6 (ndR f),.sl 6 (ndR g)] (.sl 6 (ndR (aBp f g))):=by
 refine xX.go_fn mixed Tryz.func92 k92 (by simp) fun hf=>?_;simp only [ZA,ZB,ZC,ZD,ZE,↓reduceIte,ZF,ZG,ZH,ZI,ZJ,reduceCtorEq,ZK,↓zU,↓zD,zV,zT,zW]
 (repeat refine sd ?_)
 refine .go (xX.of_runs (dI ⟨5,0,0,0,0,0⟩ [f,g] (by simp)) (by simp [D.isPureL,D.isPure,Nd.row,nl])) ?_;simp only [ZA,ZB,ZC,ZD,ZE,↓reduceIte,ZF,ZG,ZH,ZI,ZJ,reduceCtorEq,ZK,↓zU,↓zD,zV,zT,zW];exact .same
theorem aH7 (a b:wP):decide (a=b)= (decide (a.fac=b.fac)&& decide (a.loc=b.loc)):=by
 cases a; cases b;rw [Bool.eq_iff_iff];simp [and_comm]
theorem aOa (a b:wP) (h1:a.fac.length<=1000000) (h2:a.loc.length<=1000000) (h3:∀ l ∈ a.loc,l.length<=1000000):yX Tryz.prog 81 [.agg a.row,.agg b.row] (.bool (decide (a=b))):=by
 rw [aH7];have hA:a.row = [.sl 1 (rl a.loc),.sl 1 (us a.fac)]:=rfl;have hB:b.row = [.sl 1 (rl b.loc),.sl 1 (us b.fac)]:=rfl;rw [hA,hB];cases a with | mk la fa=>
 cases b with | mk lb fb=>
 simp only at h1 h2 h3 ⊢;refine xX.go_fn mixed Tryz.func81 k81 (by simp) fun hf=>?_;by_cases c1:fa.length=fb.length
 case neg=>
  have q1:((fa.length:Int) != (fb.length:Int))= true:=by simpa using fun c=>c1 (by omega)
  rw [decide_eq_false (fun c=>c1 (congrArg List.length c))];simp only [ZA,ZB,ZC,ZD,ZE,↓reduceIte,ZF,ZG,ZH,ZI,ZJ,reduceCtorEq,ZK,↓zU,↓zD,zV,zT,zW,xT,vL,q1];exact .drop (by simp) (by simp [vw])
 have q1:((fa.length:Int) != (fb.length:Int))= false:=by rw [c1]; simp
 by_cases c2:la.length=lb.length
 case neg=>
  have q2:((la.length:Int) != (lb.length:Int))= true:=by simpa using fun c=>c2 (by omega)
  rw [decide_eq_false (p:=la=lb) (fun c=>c2 (congrArg List.length c)),Bool.and_false];simp only [ZA,ZB,ZC,ZD,ZE,↓reduceIte,ZF,ZG,ZH,ZI,ZJ,reduceCtorEq,ZK,↓zU,↓zD,zV,zT,zW,xT,vL,q1,q2];exact .drop (by simp) (by simp [vw])
 have q2:((la.length:Int) != (lb.length:Int))= false:=by rw [c2]; simp
 simp only [ZA,ZB,ZC,ZD,ZE,↓reduceIte,ZF,ZG,ZH,ZI,ZJ,reduceCtorEq,ZK,↓zU,↓zD,zV,zT,zW,xT,vL,q1,q2]
 refine xV (fun k:Nat=>[(5,.int .i64 k),(3,.ref 1 2 0 0),(2,.ref 0 2 0 0)]) (fun _=>⟨2,[(1,⟨2,[[.sl 1 (rl lb),.sl 1 (us fb)]]⟩),(0,⟨2,[[.sl 1 (rl la),.sl 1 (us fa)]]⟩)]⟩)
  (fun k=>k<=fa.length/\decide (fa=fb)= decide (fa.drop k=fb.drop k)) (fun k=>fa.length-k) 0 ⟨Nat.zero_le _,rfl⟩ ?_ ?_
 ·(refine xM.same ?_; simp [xR,Fr.get])
 rintro k ⟨hk,hd⟩;refine xQ mixed ?_
 by_cases h:k<fa.length
 ·have q:((k:Int)<(fa.length:Int)):=by omega
  rw [hd,nU (d:=0#64) h (by omega)]
  by_cases e:fa.getD k 0#64=fb.getD k 0#64
  ·rw [decide_eq_true e,Bool.true_and];have e':(fa.getD k 0 != fb.getD k 0)= false:=by show (fa.getD k 0#64 != fb.getD k 0#64)= false; rw [e]; simp
   simp only [ZA,ZB,ZC,ZD,ZE,↓reduceIte,ZF,ZG,ZH,ZI,ZJ,reduceCtorEq,ZK,↓zU,↓zD,zV,zT,zW,q,xT,zH fa h,zH fb (show k<fb.length by omega),e']
   (repeat refine sd ?_)
   refine⟨k+1,⟨h,rfl⟩,?_,by omega⟩
   (refine xM.same ?_; simp only [xR,Fr.get,↓reduceIte,reduceIte,Nat.reduceEqDiff,reduceCtorEq,D.int.injEq,D.bool.injEq,D.sl.injEq,and_true,true_and,and_self])
   exact tY (by omega)
  ·rw [decide_eq_false e,Bool.false_and,Bool.false_and];have e':(fa.getD k 0 != fb.getD k 0)= true:=by simpa using e
   simp only [ZA,ZB,ZC,ZD,ZE,↓reduceIte,ZF,ZG,ZH,ZI,ZJ,reduceCtorEq,ZK,↓zU,↓zD,zV,zT,zW,q,xT,zH fa h,zH fb (show k<fb.length by omega),e']
   (repeat refine sd ?_)
   exact .drop (by simp) (by simp [vw])
 have q:¬ ((k:Int)<(fa.length:Int)):=by omega
 have hf:decide (fa=fb)= true:=by rw [hd,List.drop_eq_nil_of_le (by omega),List.drop_eq_nil_of_le (by omega)]; simp
 rw [hf,Bool.true_and];simp only [ZA,ZB,ZC,ZD,ZE,↓reduceIte,ZF,ZG,ZH,ZI,ZJ,reduceCtorEq,ZK,↓zU,↓zD,zV,zT,zW,q,xT]
 refine xV (fun k:Nat=>[(6,.int .i64 k),(3,.ref 1 2 0 0),(2,.ref 0 2 0 0)]) (fun _=>⟨2,[(1,⟨2,[[.sl 1 (rl lb),.sl 1 (us fb)]]⟩),(0,⟨2,[[.sl 1 (rl la),.sl 1 (us fa)]]⟩)]⟩)
  (fun k=>k<=la.length/\decide (la=lb)= decide (la.drop k=lb.drop k)) (fun k=>la.length-k) 0 ⟨Nat.zero_le _,rfl⟩ ?_ ?_
 ·(refine xM.same ?_; simp [xR,Fr.get])
 rintro k ⟨hk,hd⟩;refine xQ mixed ?_;by_cases h:k<la.length
 case neg=>
  have q:¬ ((k:Int)<(la.length:Int)):=by omega
  rw [hd,List.drop_eq_nil_of_le (by omega),List.drop_eq_nil_of_le (by omega)];simp only [ZA,ZB,ZC,ZD,ZE,↓reduceIte,ZF,ZG,ZH,ZI,ZJ,reduceCtorEq,ZK,↓zU,↓zD,zV,zT,zW,q,vL];exact .drop (by simp) (by simp [vw])
 have q:((k:Int)<(la.length:Int)):=by omega
 have h3k:=h3 _ (xN (d:=[]) h);have g1:=fT la h;have g2:=fT lb (show k<lb.length by omega);have hd2:=hd;rw [nU (d:=[]) h (by omega)] at hd2;rw [hd2];generalize la.getD k []=x at *;generalize lb.getD k []=y at *;by_cases c3:x.length=y.length
 case neg=>
  have q3:((x.length:Int) != (y.length:Int))= true:=by simpa using fun c=>c3 (by omega)
  rw [decide_eq_false (fun c=>c3 (congrArg List.length c)),Bool.false_and];simp only [ZA,ZB,ZC,ZD,ZE,↓reduceIte,ZF,ZG,ZH,ZI,ZJ,reduceCtorEq,ZK,↓zU,↓zD,zV,zT,zW,q,vL,g1,g2,xF,q3]
  (repeat refine sd ?_)
  exact .drop (by simp) (by simp [vw])
 have q3:((x.length:Int) != (y.length:Int))= false:=by rw [c3]; simp
 simp only [ZA,ZB,ZC,ZD,ZE,↓reduceIte,ZF,ZG,ZH,ZI,ZJ,reduceCtorEq,ZK,↓zU,↓zD,zV,zT,zW,q,vL,g1,g2,xF,q3]
 (repeat refine sd ?_)
 refine xV (fun j:Nat=>[(7,.int .i64 j),(6,.int .i64 k),(3,.ref 1 2 0 0),(2,.ref 0 2 0 0)]) (fun _=>⟨2,[(1,⟨2,[[.sl 1 (rl lb),.sl 1 (us fb)]]⟩),(0,⟨2,[[.sl 1 (rl la),.sl 1 (us fa)]]⟩)]⟩)
  (fun j=>j<=x.length/\decide (x=y)= decide (x.drop j=y.drop j)) (fun j=>x.length-j) 0 ⟨Nat.zero_le _,rfl⟩ ?_ ?_
 ·(refine xM.same ?_; simp [xR,Fr.get])
 rintro j ⟨hj,hdj⟩;refine xQ mixed ?_
 by_cases hx:j<x.length
 ·have qx:((j:Int)<(x.length:Int)):=by omega
  rw [hdj,nU (d:=0) hx (by omega)]
  by_cases e:x.getD j 0=y.getD j 0
  ·rw [decide_eq_true e,Bool.true_and];have e':(x.getD j 0 != y.getD j 0)= false:=by rw [e]; simp
   simp only [ZA,ZB,ZC,ZD,ZE,↓reduceIte,ZF,ZG,ZH,ZI,ZJ,reduceCtorEq,ZK,↓zU,↓zD,zV,zT,zW,qx,vL,g1,g2,xF,yL .i64 x hx,yL .i64 y (show j<y.length by omega),e']
   (repeat refine sd ?_)
   refine⟨j+1,⟨hx,rfl⟩,?_,by omega⟩
   (refine xM.same ?_; simp only [xR,Fr.get,↓reduceIte,reduceIte,Nat.reduceEqDiff,reduceCtorEq,D.int.injEq,D.bool.injEq,D.sl.injEq,and_true,true_and,and_self])
   exact tY (by omega)
  ·rw [decide_eq_false e,Bool.false_and,Bool.false_and];have e':(x.getD j 0 != y.getD j 0)= true:=by simpa using e
   simp only [ZA,ZB,ZC,ZD,ZE,↓reduceIte,ZF,ZG,ZH,ZI,ZJ,reduceCtorEq,ZK,↓zU,↓zD,zV,zT,zW,qx,vL,g1,g2,xF,yL .i64 x hx,yL .i64 y (show j<y.length by omega),e']
   (repeat refine sd ?_)
   exact .drop (by simp) (by simp [vw])
 have qx:¬ ((j:Int)<(x.length:Int)):=by omega
 have hxy:decide (x=y)= true:=by rw [hdj,List.drop_eq_nil_of_le (by omega),List.drop_eq_nil_of_le (by omega)]; simp
 simp only [ZA,ZB,ZC,ZD,ZE,↓reduceIte,ZF,ZG,ZH,ZI,ZJ,reduceCtorEq,ZK,↓zU,↓zD,zV,zT,zW,qx,vL,g1,g2,xF]
 (repeat refine sd ?_)
 refine⟨k+1,⟨h,by rw [hxy,Bool.true_and]⟩,?_,by omega⟩
 (refine xM.same ?_; simp only [xR,Fr.get,↓reduceIte,reduceIte,Nat.reduceEqDiff,reduceCtorEq,D.int.injEq,D.bool.injEq,D.sl.injEq,and_true,true_and,and_self])
 exact tY (by omega)
theorem aH4 (a b:bP):decide (a=b)= (decide (a.ag=b.ag)&& (decide (a.fa=b.fa)&& (decide (a.ln=b.ln)&& decide (a.rs=b.rs)))):=by
 cases a; cases b;rw [Bool.eq_iff_iff];simp
def aW5 (s:bP):Prop:=s.rs.length<=1000000/\∀ r ∈ s.rs,r.fac.length<=1000000/\r.loc.length<=1000000/\∀ l ∈ r.loc,l.length<=1000000
theorem aI1 (a b:bP) (hs:aW5 a):yX Tryz.prog 23 [a.d,b.d] (.bool (decide (a=b))):=by
 rw [aH4];have hA:a.d = .agg [.int .i64 a.ag,.int .i64 a.fa,.int .i64 a.ln,.sl 2 (oQ a.rs)]:=rfl;have hB:b.d = .agg [.int .i64 b.ag,.int .i64 b.fa,.int .i64 b.ln,.sl 2 (oQ b.rs)]:=rfl;rw [hA,hB];cases a with | mk a1 a2 a3 xs=>
 cases b with | mk b1 b2 b3 ys=>
 obtain⟨h1,h2⟩:=hs;simp only at h1 h2 ⊢;refine xX.go_fn mixed Tryz.func23 k23 (by simp) fun hf=>?_;by_cases c1:a1=b1
 case neg=>
  have q:(a1 != b1)= true:=by simpa using c1
  rw [decide_eq_false c1,Bool.false_and];simp only [ZA,ZB,ZC,ZD,ZE,↓reduceIte,ZF,ZG,ZH,ZI,ZJ,reduceCtorEq,ZK,↓zU,↓zD,zV,zT,zW,q,tI];exact .drop (by simp) (by simp [vw])
 by_cases c2:a2=b2
 case neg=>
  have q1:(a1 != b1)= false:=by simpa using c1
  have q:(a2 != b2)= true:=by simpa using c2
  rw [decide_eq_false c2,Bool.false_and,Bool.and_false];simp only [ZA,ZB,ZC,ZD,ZE,↓reduceIte,ZF,ZG,ZH,ZI,ZJ,reduceCtorEq,ZK,↓zU,↓zD,zV,zT,zW,q1,q,tI];exact .drop (by simp) (by simp [vw])
 by_cases c3:a3=b3
 case neg=>
  have q1:(a1 != b1)= false:=by simpa using c1
  have q2:(a2 != b2)= false:=by simpa using c2
  have q:(a3 != b3)= true:=by simpa using c3
  rw [decide_eq_false c3,Bool.false_and,Bool.and_false,Bool.and_false];simp only [ZA,ZB,ZC,ZD,ZE,↓reduceIte,ZF,ZG,ZH,ZI,ZJ,reduceCtorEq,ZK,↓zU,↓zD,zV,zT,zW,q1,q2,q,tI];exact .drop (by simp) (by simp [vw])
 have q1:(a1 != b1)= false:=by simpa using c1
 have q2:(a2 != b2)= false:=by simpa using c2
 have q3:(a3 != b3)= false:=by simpa using c3
 rw [decide_eq_true c1,decide_eq_true c2,decide_eq_true c3,Bool.true_and,Bool.true_and,Bool.true_and];by_cases c4:xs.length=ys.length
 case neg=>
  have q:((xs.length:Int) != (ys.length:Int))= true:=by simpa using fun c=>c4 (by omega)
  rw [decide_eq_false (fun c=>c4 (congrArg List.length c))];simp only [ZA,ZB,ZC,ZD,ZE,↓reduceIte,ZF,ZG,ZH,ZI,ZJ,reduceCtorEq,ZK,↓zU,↓zD,zV,zT,zW,q1,q2,q3,q,tI];exact .drop (by simp) (by simp [vw])
 have q4:((xs.length:Int) != (ys.length:Int))= false:=by rw [c4]; simp
 clear c1 c2 c3;simp only [ZA,ZB,ZC,ZD,ZE,↓reduceIte,ZF,ZG,ZH,ZI,ZJ,reduceCtorEq,ZK,↓zU,↓zD,zV,zT,zW,q1,q2,q3,q4,tI]
 refine xV (fun k:Nat=>[(5,.int .i64 k),(3,.ref 1 4 0 0),(2,.ref 0 4 0 0)]) (fun _=>⟨2,[(1,⟨4,[[.int .i64 b1,.int .i64 b2,.int .i64 b3,.sl 2 (oQ ys)]]⟩),(0,⟨4,[[.int .i64 a1,.int .i64 a2,.int .i64 a3,.sl 2 (oQ xs)]]⟩)]⟩)
  (fun k=>k<=xs.length/\decide (xs=ys)= decide (xs.drop k=ys.drop k)) (fun k=>xs.length-k) 0 ⟨Nat.zero_le _,rfl⟩ ?_ ?_
 ·(refine xM.same ?_; simp [xR,Fr.get])
 rintro k ⟨hk,hd⟩;refine xQ mixed ?_;by_cases h:k<xs.length
 case neg=>
  have q:¬ ((k:Int)<(xs.length:Int)):=by omega
  rw [hd,List.drop_eq_nil_of_le (by omega),List.drop_eq_nil_of_le (by omega)];simp only [ZA,ZB,ZC,ZD,ZE,↓reduceIte,ZF,ZG,ZH,ZI,ZJ,reduceCtorEq,ZK,↓zU,↓zD,zV,zT,zW,q,tI];exact .drop (by simp) (by simp [vw])
 have q:((k:Int)<(xs.length:Int)):=by omega
 have hr:=h2 _ (xN (d:=mW) h);have hc:=aOa (xs.getD k mW) (ys.getD k mW) hr.1 hr.2.1 hr.2.2;have g1:(oQ xs).getD k [] = [.sl 1 (rl (xs.getD k mW).loc),.sl 1 (us (xs.getD k mW).fac)]:=aVm xs h;have g2:(oQ ys).getD k [] = [.sl 1 (rl (ys.getD k mW).loc),.sl 1 (us (ys.getD k mW).fac)]:=aVm ys (by omega);have hc:yX Tryz.prog 81 [.agg [.sl 1 (rl (xs.getD k mW).loc),.sl 1 (us (xs.getD k mW).fac)],.agg [.sl 1 (rl (ys.getD k mW).loc),.sl 1 (us (ys.getD k mW).fac)]] _:=hc;rw [hd,nU (d:=mW) h (by omega)];rw [nU (d:=mW) h (by omega)] at hd;generalize xs.getD k mW=x at *;generalize ys.getD k mW=y at *;generalize hP:decide (x=y)= b at *;simp only [ZA,ZB,ZC,ZD,ZE,↓reduceIte,ZF,ZG,ZH,ZI,ZJ,reduceCtorEq,ZK,↓zU,↓zD,zV,zT,zW,q,tI,g1,g2]
 (repeat refine sd ?_)
 refine .go (cq hc) ?_
 cases b with
 | false=>
  rw [Bool.false_and];simp only [ZA,ZB,ZC,ZD,ZE,↓reduceIte,ZF,ZG,ZH,ZI,ZJ,reduceCtorEq,ZK,↓zU,↓zD,zV,zT,zW];exact .drop (by simp) (by simp [vw])
 | true=>
  rw [Bool.true_and];simp only [ZA,ZB,ZC,ZD,ZE,↓reduceIte,ZF,ZG,ZH,ZI,ZJ,reduceCtorEq,ZK,↓zU,↓zD,zV,zT,zW];refine⟨k+1,⟨h,rfl⟩,?_,by omega⟩
  (refine xM.same ?_; simp only [xR,Fr.get,↓reduceIte,reduceIte,Nat.reduceEqDiff,reduceCtorEq,D.int.injEq,D.bool.injEq,D.sl.injEq,and_true,true_and,and_self])
  exact tY (by omega)
open Rs Fm Ru Te Kb
namespace Kb
instance : DecidableEq ChA := fun a b => decidable_of_iff (a.ag = b.ag /\ a.seen = b.seen /\ a.mv = b.mv) (by cases a; cases b; simp)
def exL : List ChA:=[⟨0,[0#64],-1⟩,⟨0,[1#64],0⟩,⟨0,[0#64,0#64],-1⟩,⟨0,[1#64,1#64],-1⟩,⟨1,[0#64],-1⟩,⟨1,[0#64,0#64],-1⟩,⟨1,[0#64,2#64],-1⟩]
theorem aS3 : eA exP 3=exL:=by
 unfold eA;rw [if_neg (by rw [aW9]; simp),show (3:Int).toNat-1=2 from rfl,aXv];unfold vU pL;simp only [aJ6];decide +kernel
theorem aZt : kR exP exL 3=0:=by decide +kernel
theorem aFs : vJ exP exL 2 = [[0#64,0#64,0#64],[1#64,3#64,3#64]]:=by decide +kernel
theorem aCu : aMj exP exL 3=exS:=by
 unfold aMj;rw [if_neg (by rw [aZt]; simp),show (3:Int).toNat=3 from rfl,aFs,aVi];decide +kernel
theorem aCt : aIc exP exL 3=true:=by decide +kernel
theorem nV : rR exP:=⟨by decide,by decide,by decide⟩
theorem aXw : fO exL:=⟨by decide,by decide⟩
theorem aCv : uD exP=0:=by decide +kernel
theorem aNm : aW5 exS:=by unfold aW5; decide
end Kb
open Rs Fm Ru Te Kb
def exD : D:=.agg [.int .i64 2,.sl 1 (us [0#64,1#64]),.sl 1 (us [1#64,2#64]),.sl 1 (mvR [[⟨1,rG 0⟩]]),.sl 1 [[.sl 2 (clR [⟨exT,0⟩])],[.nils]]]
theorem aCw : Nw exD exP.d:=by
 refine Nw.agg rfl fun j hj=>?_
 match j,hj with
 | 0,_=>exact Nw.refl _
 | 1,_=>exact Nw.refl _
 | 2,_=>exact Nw.refl _
 | 3,_=>exact Nw.refl _
 | 4,_=>
  refine Nw.sl rfl (by decide) fun i hi j hj=>?_;have e:j=0:=by omega
  subst e
  match i,hi with
  | 0,_=>exact Nw.refl _
  | 1,_=>exact Nw.nils 2
theorem aNl : yX Tryz.prog 36 [] exD:=by
 have c1:=aC9 0;have c2:=aC7 1 (rG 0);have c3:=aAu (bL 1 (rG 0));have c4:=aAw (rG 0) (aEq (bL 1 (rG 0)));have hD:exD = .agg [.int .i64 2,.sl 1 (us [0#64,1#64]),.sl 1 (us [1#64,2#64]),.sl 1 [[.sl 2 [[.int .i64 1,.sl 6 (ndR (rG 0))]]]],.sl 1 [[.sl 2 [[.sl 6 (ndR (aBp (rG 0) (aEq (bL 1 (rG 0))))),.int .i64 0]]],[.nils]]]:=rfl;rw [hD];generalize aBp (rG 0) (aEq (bL 1 (rG 0)))= g1 at *;generalize aEq (bL 1 (rG 0))= g2 at *;generalize bL 1 (rG 0)= g3 at *;generalize rG 0=g4 at *;refine xX.go_fn mixed Tryz.func36 k36 (by simp) fun hf=>?_;simp only [ZA,ZB,ZC,ZD,ZE,↓reduceIte,ZF,ZG,ZH,ZI,ZJ,reduceCtorEq,ZK,↓zU,↓zD,zV,zT,zW];refine .go (cq c1) ?_;simp only [ZA,ZB,ZC,ZD,ZE,↓reduceIte,ZF,ZG,ZH,ZI,ZJ,reduceCtorEq,ZK,↓zU,↓zD,zV,zT,zW]
 (repeat refine sd ?_)
 refine .go (cr c2) ?_;simp only [ZA,ZB,ZC,ZD,ZE,↓reduceIte,ZF,ZG,ZH,ZI,ZJ,reduceCtorEq,ZK,↓zU,↓zD,zV,zT,zW];refine .go (cr c3) ?_;simp only [ZA,ZB,ZC,ZD,ZE,↓reduceIte,ZF,ZG,ZH,ZI,ZJ,reduceCtorEq,ZK,↓zU,↓zD,zV,zT,zW];refine .go (cr c4) ?_;simp only [ZA,ZB,ZC,ZD,ZE,↓reduceIte,ZF,ZG,ZH,ZI,ZJ,reduceCtorEq,ZK,↓zU,↓zD,zV,zT,zW]
 (repeat refine sd ?_)
 exact .drop (by simp) (by simp [vw,vwL,us,ui])
theorem aF6 : yX Tryz.prog 15 [] (.bool true):=by
 have hp:exD.isPure=true:=rfl;have S1:Seen St0 (fun _=>False) exD exP.d:=aCw.seen hp;have hP:yX Tryz.prog 19 [exD,.int .i64 3] (.tup [exS.d,.int .i64 0]):=yX.seen (args':=[exP.d,.int .i64 3]) (by have:=aI2 exP nV 3; rwa [aFr,aW9] at this) ⟨S1,Seen.pure rfl,trivial⟩;have hL:yX Tryz.prog 21 [exD,.int .i64 3] (.tup [.sl 3 (chR exL),.int .i64 0]):=yX.seen (args':=[exP.d,.int .i64 3]) (by have:=eE exP nV 3; rwa [aS3,aW9] at this) ⟨S1,Seen.pure rfl,trivial⟩;have hG:yX Tryz.prog 25 [exD,.sl 3 (chR exL),.int .i64 3] (.tup [exS.d,.int .i64 0]):=yX.seen (args':=[exP.d,.sl 3 (chR exL),.int .i64 3]) (by have:=eD exP nV exL aXw 3; rwa [aCu,aZt] at this) ⟨S1,Seen.pure rfl,Seen.pure rfl,trivial⟩;have hI:yX Tryz.prog 27 [exD,.sl 3 (chR exL),.int .i64 3] (.tup [.bool true,.int .i64 0]):=yX.seen (args':=[exP.d,.sl 3 (chR exL),.int .i64 3]) (by have:=lB exP nV exL aXw 3; rwa [aCt,aZt] at this) ⟨S1,Seen.pure rfl,Seen.pure rfl,trivial⟩;have hC:yX Tryz.prog 17 [exD] (.int .i64 0):=yX.seen (args':=[exP.d]) (by have:=aPq exP nV; rwa [aCv] at this) ⟨S1,trivial⟩;have hS:yX Tryz.prog 23 [exS.d,exS.d] (.bool true):=by have:=aI1 exS exS aNm; simpa using this
 have hE:=aNl;have eL:chR exL = [[.int .i64 0,.sl 1 (us [0#64]),.int .i64 (-1)],[.int .i64 0,.sl 1 (us [1#64]),.int .i64 0],[.int .i64 0,.sl 1 (us [0#64,0#64]),.int .i64 (-1)],[.int .i64 0,.sl 1 (us [1#64,1#64]),.int .i64 (-1)],[.int .i64 1,.sl 1 (us [0#64]),.int .i64 (-1)],[.int .i64 1,.sl 1 (us [0#64,0#64]),.int .i64 (-1)],[.int .i64 1,.sl 1 (us [0#64,2#64]),.int .i64 (-1)]]:=rfl;have eS:exS.d = .agg [.int .i64 2,.int .i64 2,.int .i64 3,.sl 2 [[.sl 1 [[.sl 1 [[.int .i64 0],[.int .i64 0]]],[.sl 1 [[.int .i64 2],[.int .i64 1]]],[.sl 1 [[.int .i64 4],[.int .i64 3]]]],.sl 1 [[.int .u64 0],[.int .u64 0],[.int .u64 0]]],[.sl 1 [[.sl 1 [[.int .i64 1],[.int .i64 0]]],[.sl 1 [[.int .i64 3],[.int .i64 2]]],[.sl 1 [[.int .i64 5],[.int .i64 4]]]],.sl 1 [[.int .u64 1],[.int .u64 3],[.int .u64 3]]]]]:=rfl;rw [eS] at hP hG hS;generalize exD=d at *;generalize hl:chR exL=cl at *;refine xX.go_fn mixed Tryz.func15 k15 (by simp) fun hf=>?_;simp only [ZA,ZB,ZC,ZD,ZE,↓reduceIte,ZF,ZG,ZH,ZI,ZJ,reduceCtorEq,ZK,↓zU,↓zD,zV,zT,zW];refine .go (cq hE) ?_;simp only [ZA,ZB,ZC,ZD,ZE,↓reduceIte,ZF,ZG,ZH,ZI,ZJ,reduceCtorEq,ZK,↓zU,↓zD,zV,zT,zW];refine .go (xX.of_runs hP (by simp [D.isPureL,D.isPure,hp])) ?_;simp only [ZA,ZB,ZC,ZD,ZE,↓reduceIte,ZF,ZG,ZH,ZI,ZJ,reduceCtorEq,ZK,↓zU,↓zD,zV,zT,zW];refine .go (cq hE) ?_;simp only [ZA,ZB,ZC,ZD,ZE,↓reduceIte,ZF,ZG,ZH,ZI,ZJ,reduceCtorEq,ZK,↓zU,↓zD,zV,zT,zW];refine .go (xX.of_runs hL (by simp [D.isPureL,D.isPure,hp])) ?_;simp only [ZA,ZB,ZC,ZD,ZE,↓reduceIte,ZF,ZG,ZH,ZI,ZJ,reduceCtorEq,ZK,↓zU,↓zD,zV,zT,zW];refine .go (cq hE) ?_;simp only [ZA,ZB,ZC,ZD,ZE,↓reduceIte,ZF,ZG,ZH,ZI,ZJ,reduceCtorEq,ZK,↓zU,↓zD,zV,zT,zW];refine .go (xX.of_runs hG (by simp [D.isPureL,D.isPure,hp])) ?_;simp only [ZA,ZB,ZC,ZD,ZE,↓reduceIte,ZF,ZG,ZH,ZI,ZJ,reduceCtorEq,ZK,↓zU,↓zD,zV,zT,zW];refine .go (cq hE) ?_;simp only [ZA,ZB,ZC,ZD,ZE,↓reduceIte,ZF,ZG,ZH,ZI,ZJ,reduceCtorEq,ZK,↓zU,↓zD,zV,zT,zW];refine .go (xX.of_runs hI (by simp [D.isPureL,D.isPure,hp])) ?_;simp only [ZA,ZB,ZC,ZD,ZE,↓reduceIte,ZF,ZG,ZH,ZI,ZJ,reduceCtorEq,ZK,↓zU,↓zD,zV,zT,zW]
 (repeat refine sd ?_)
 refine .go (cr hS) ?_;simp only [ZA,ZB,ZC,ZD,ZE,↓reduceIte,ZF,ZG,ZH,ZI,ZJ,reduceCtorEq,ZK,↓zU,↓zD,zV,zT,zW];refine .go (cr hS) ?_;simp only [ZA,ZB,ZC,ZD,ZE,↓reduceIte,ZF,ZG,ZH,ZI,ZJ,reduceCtorEq,ZK,↓zU,↓zD,zV,zT,zW,eL]
 (repeat refine sd ?_)
 refine .go (cq hE) ?_;simp only [ZA,ZB,ZC,ZD,ZE,↓reduceIte,ZF,ZG,ZH,ZI,ZJ,reduceCtorEq,ZK,↓zU,↓zD,zV,zT,zW];refine .go (xX.of_runs hC (by simp [D.isPureL,D.isPure,hp])) ?_;simp only [ZA,ZB,ZC,ZD,ZE,↓reduceIte,ZF,ZG,ZH,ZI,ZJ,reduceCtorEq,ZK,↓zU,↓zD,zV,zT,zW];exact .drop (by simp) (by simp [vw])
open Rs Fm Ru Te Kb
theorem aC8 (p:PrA):yX Tryz.prog 16 [p.d,.nils] (.bool (gH p [])):=yX.seen (args':=[p.d,.sl 3 (chR [])]) (aAv p []) ⟨Seen.pure rfl,Seen.nil 3,trivial⟩
theorem aS1 {p:PrA} {l:List ChA} (h:gH p l=true):rR p:=by
 obtain⟨h1,h2,h3⟩:=aNk h;exact⟨h1,h2,h3⟩
open Rs Fm Ru Te Kb
namespace Kb
theorem aD7 {p:PrA} {F k:Nat} (hv:PrV p F) (hk:k<=5) {sts:List (List (BitVec 64))} (hS:PlS p F sts k):OkR (fY p.see sts (k+1)) p.see.length F (k+1):=by
 have hl:=aVh p.see sts (k+1);have hR:=hv.hI;have hn:=hS.len
 have key:∀ r ∈ fY p.see sts (k+1),∃ i,i<sts.length/\r=⟨(List.range (k+1)).map fun t=>(List.range p.see.length).map fun a=>((below (mR p.see sts (k+1) a) (rN p.see sts a (i,t)):Nat):Int),stR sts i⟩:=fun r hr=>by
  obtain⟨i,hi,rfl⟩:=List.getElem_of_mem hr;have hi':i<sts.length:=by omega
  refine⟨i,hi',?_⟩;rw [<- aVj hi'];simp [List.getD,hi]
 refine⟨hv.hA.2,hv.hF,⟨by omega,by omega⟩,⟨by omega,by omega⟩,?_,?_,?_,?_,?_⟩
 ·rw [hl];have:sts.length*(k+1)<=16*6:=Nat.mul_le_mul (by omega) (by omega);omega
 ·intro r hr;obtain⟨i,hi,rfl⟩:=key r hr;simp
 ·intro r hr;obtain⟨i,hi,rfl⟩:=key r hr;exact hS.run _ (vI hi)
 ·intro r hr l hm;obtain⟨i,hi,rfl⟩:=key r hr;simp only [List.mem_map] at hm;obtain⟨t,_,rfl⟩:=hm;simp
 ·intro r hr f hm;obtain⟨i,hi,rfl⟩:=key r hr;exact hS.val _ (vI hi) f hm
theorem aSx {p:PrA} {k:Nat} (h:uD p=0) (hk:k<=5):lO p ((k+1:Nat):Int)= 0/\∃ F,PrV p F/\oJ p ((k+1:Nat):Int)= ⟨p.see.length,F,((k+1:Nat):Int),fY p.see (yU p k) (k+1)⟩:=by
 have h1:lO p ((k+1:Nat):Int)= 0:=by
  unfold lO;rw [if_neg (by simpa using h),if_neg (by omega)]
 obtain⟨F,hv⟩:=aX3 h;refine⟨h1,F,hv,?_⟩;unfold oJ;rw [if_neg (by simpa using h1),hv.fe];rfl
end Kb
open Rs Fm Ru Te Kb
open Rs Fm Ru Te Kb
namespace Kb
theorem aIr {α:Type} {f:α->Bool} {d:α}:∀ {c:List α} {i:Int},0<=i->0<=ixF f c i->f (c.getD (ixF f c i-i).toNat d)= true
 | [],i,_,h=>by simp [ixF] at h
 | x :: r,i,hi,h=>by
  unfold ixF at h ⊢
  by_cases hx:f x=true
  ·rw [if_pos hx,Int.sub_self]; exact hx
  ·rw [if_neg hx] at h ⊢;have h1:=aIr (d:=d) (c:=r) (i:=i+1) (by omega) h
   rcases iR (f:=f) (c:=r) (i:=i+1) (by omega) with h2 | h2
   ·omega
   ·rw [show (ixF f r (i+1)-i).toNat=(ixF f r (i+1)-(i+1)).toNat+1 by omega];simpa [List.getD] using h1
theorem iX {see:List (BitVec 64)} {sts:List (List (BitVec 64))} {t a v w:Nat} (h:vK see (stR sts v) a t=vK see (stR sts w) a t):∀ l,presL see sts t a v l=presL see sts t a w l
 | []=>rfl
 | c :: r=>by
  unfold presL knT;rw [h,iX h r]
section
variable {p : PrA} {sts : List (List (BitVec 64))} {T : Nat}
theorem mD (hl:∀ st ∈ sts,T<=st.length) {a r t:Nat} (hr:r<sts.length) (ht:t<T):aYy p sts a (rN p.see sts a (r,t))= ⟨a,vK p.see (stR sts r) a t,presA p sts t a r⟩:=by
 have hm:rN p.see sts a (r,t)∈ mR p.see sts T a:=rX.2 ⟨r,t,hr,ht,rfl⟩;have hlen:=aUm (see:=p.see) (a:=a) (sts:=sts) (r:=r) (t:=t) (by have:=hl _ (vI hr); omega);obtain⟨h1,h2,h3,h4⟩:=fH hm hl;unfold aYy;rw [hlen,Nat.add_sub_cancel] at *;have e:=congrArg bvL h2;rw [dJ,dJ] at e;rw [dJ];congr 1;exact iX e _
theorem nM {x:ChA}:x ∈ vU p sts T ↔ ∃ a r t,a<p.see.length/\r<sts.length/\t<T/\x=aYy p sts a (rN p.see sts a (r,t)):=by
 unfold vU pL;simp only [List.mem_flatMap,List.mem_range,List.mem_map]
 constructor
 ·rintro ⟨a,ha,h,hm,rfl⟩;obtain⟨r,t,hr,ht,rfl⟩:=rX.1 hm;exact⟨a,r,t,ha,hr,ht,rfl⟩
 ·rintro ⟨a,r,t,ha,hr,ht,rfl⟩;exact⟨a,ha,_,rX.2 ⟨r,t,hr,ht,rfl⟩,rfl⟩
theorem jF {ag:Int} {h:List (BitVec 64)} {d:ChA}:pF ag h d=true ↔ d.ag=ag/\d.seen=h:=by
 unfold pF;simp only [Bool.and_eq_true,decide_eq_true_eq]
theorem aH (hl:∀ st ∈ sts,T<=st.length) {a r t:Nat} (ha:a<p.see.length) (hr:r<sts.length) (ht:t<T) :
  0<=fW (vU p sts T) a (hisT p sts t a r)/\ mvC (vU p sts T) a (hisT p sts t a r)= presA p sts t a r:=by
 have h0:0<=fW (vU p sts T) a (hisT p sts t a r):=by
  unfold fW;rw [oX (Int.le_refl 0),List.any_eq_true];refine⟨_,nM.2 ⟨a,r,t,ha,hr,ht,rfl⟩,?_⟩;rw [mD hl hr ht];exact jF.2 ⟨rfl,rfl⟩
 refine⟨h0,?_⟩;have h1:=aIr (d:=ch0) (f:=pF a (hisT p sts t a r)) (c:=vU p sts T) (i:=0) (Int.le_refl 0) h0;have h2:=aZr h0;unfold mvC;rw [Int.sub_zero] at h1;have hm:=xN (d:=ch0) h2.1;unfold fW at hm ⊢;obtain⟨a',r',t',ha',hr',ht',e⟩:=nM.1 hm;rw [mD hl hr' ht'] at e;rw [e] at h1 ⊢;obtain⟨q1,q2⟩:=jF.1 h1;have q1:(a':Int)= (a:Int):=q1;have q1:a'=a:=by omega
 subst q1;have q2:vK p.see (stR sts r') a' t'=vK p.see (stR sts r) a' t:=q2;have l1:=qE (see:=p.see) (st:=stR sts r') (a:=a') (t:=t') (by have:=hl _ (vI hr'); omega);have l2:=qE (see:=p.see) (st:=stR sts r) (a:=a') (t:=t) (by have:=hl _ (vI hr); omega);rw [q2,l2] at l1;have:t'=t:=by omega
 subst this;exact iX q2 _
theorem aOp (hl:∀ st ∈ sts,T<=st.length) {t:Nat} (ht:t<T):chsB p (vU p sts T) sts t=true:=by
 unfold chsB;rw [List.all_eq_true];intro a ha;rw [List.all_eq_true];intro r hr;exact decide_eq_true (aH hl (List.mem_range.1 ha) (List.mem_range.1 hr) ht).1
theorem aG (hl:∀ st ∈ sts,T<=st.length) {t:Nat} (ht:t<T):chsM p (vU p sts T) sts t=presM p sts t:=by
 unfold chsM presM mvG;refine List.map_congr_left fun a ha=>List.map_congr_left fun r hr=>?_;exact(aH hl (List.mem_range.1 ha) (List.mem_range.1 hr) ht).2
theorem aSg (hl:∀ st ∈ sts,T<=st.length):(vU p sts T).Pairwise fun x y=>¬ (x.ag=y.ag/\x.seen=y.seen):=by
 unfold vU pL;rw [List.pairwise_flatMap]
 refine⟨fun a _=>?_,?_⟩
 ·rw [List.pairwise_map];refine(aWm (cD _)).imp_of_mem fun {x y} hx hy hne h=>hne ?_;have hx:x ∈ mR p.see sts T a:=hx;have hy:y ∈ mR p.see sts T a:=hy;obtain⟨r,t,hr,ht,rfl⟩:=rX.1 hx;obtain⟨r',t',hr',ht',rfl⟩:=rX.1 hy;rw [mD hl hr ht,mD hl hr' ht'] at h;have h2:vK p.see (stR sts r) a t=vK p.see (stR sts r') a t':=h.2;show (vK p.see (stR sts r) a t).map ui=(vK p.see (stR sts r') a t').map ui;rw [h2]
 ·refine List.pairwise_iff_getElem.2 fun i j hi hj hij x hx y hy h=>?_;simp only [List.mem_map] at hx hy;obtain⟨_,_,rfl⟩:=hx;obtain⟨_,_,rfl⟩:=hy;have h1:=h.1;simp only [aYy,List.getElem_range] at h1;omega
end
theorem aVt {p:PrA} {F:Nat} (hv:PrV p F) (k:Nat):∀ j,j<=k->oO p (vU p (yU p k) k) j=some (yU p j)
 | 0,_=>rfl
 | j+1,h=>by
  have hl:∀ st ∈ yU p k,k<=st.length:=fun st hs=>by rw [(tZ hv k).run st hs]; omega
  have he:=aUv hv (n:=j) (m:=k) (by omega);unfold oO;rw [aVt hv k j (by omega)];simp only;rw [if_pos (by rw [<- he.chsB (by omega)]; exact aOp hl (by omega)),<- he.chsM (by omega),aG hl (by omega),he.presM (by omega)];rfl
theorem aOo {p:PrA} {F:Nat} (hv:PrV p F) (k:Nat):yB p (vU p (yU p k) k)= 0:=by
 have hl:∀ st ∈ yU p k,k<=st.length:=fun st hs=>by rw [(tZ hv k).run st hs]; omega
 unfold yB;rw [uU];intro i hi;have hi:=List.mem_range.1 hi;have hm:=xN (d:=ch0) hi;have hP:=List.pairwise_iff_getElem.1 (aSg (p:=p) hl);obtain⟨a,r,t,ha,hr,ht,e⟩:=nM.1 hm;rw [mD hl hr ht] at e;have hpm:=cU (p:=p) (sts:=yU p k) (t:=t) (a:=a) (w:=r) (l:=p.code.getD a []) fun c hc=>hv.code _ (xN (d:=[]) (by rw [hv.hC]; exact ha)) c hc;have hrl:=hl _ (vI hr);unfold chE
 rw [e,if_neg,if_neg,if_neg]
 ·intro c;rw [List.any_eq_true] at c;obtain⟨x,hx,hs⟩:=c;obtain⟨q1,q2⟩:=jF.1 hs;obtain⟨j,hj,rfl⟩:=List.getElem_of_mem hx;rw [List.length_take] at hj;have:=hP j i (by omega) hi (by omega);rw [List.getElem_take] at q1 q2;have e2:(vU p (yU p k) k)[i]=⟨a,vK p.see (stR (yU p k) r) a t,presA p (yU p k) t a r⟩:=by rw [<- e]; simp [List.getD,hi]
  rw [e2] at this;exact this ⟨q1,q2⟩
 ·simp only [aE7,vK,List.any_map,Bool.not_eq_true,List.any_eq_false,Function.comp,Int.toNat_natCast];intro x _
  have:x &&& p.see.getD a 0 &&& ~~~(p.see.getD a 0)= 0#64:=by
   rw [BitVec.and_assoc,BitVec.and_not_self];exact BitVec.and_zero
  simpa [List.getD] using decide_eq_true this
 ·have hn:=aQ7 (see:=p.see) (a:=a) (st:=stR (yU p k) r) (t:=t) (by omega);have hn':¬ (vK p.see (stR (yU p k) r) a t).length=0:=fun c=>hn (List.length_eq_zero_iff.1 c);have h1:¬ ((p.moves.length:Int)<=presA p (yU p k) t a r):=by unfold presA; omega
  have h2:¬ (presA p (yU p k) t a r < -1):=by unfold presA; omega
  simp only [aTi,decide_eq_false hn',decide_eq_false h1,decide_eq_false h2,Bool.or_false];rw [decide_eq_false (show ¬ ((a:Int)<0) by omega),decide_eq_false (show ¬ ((p.see.length:Int)<=(a:Int)) by omega)];simp
theorem aSf {p:PrA} {F:Nat} (hv:PrV p F) {k:Nat} (hk:k<=5):(vU p (yU p k) k).length<=p.see.length*(p.init.length*k)/\ fO (vU p (yU p k) k):=by
 have hl:∀ st ∈ yU p k,k<=st.length:=fun st hs=>by rw [(tZ hv k).run st hs]; omega
 have h1:=aF (p:=p) (sts:=yU p k) (T:=k) (n:=p.see.length);rw [aVy hv] at h1;have hA:=hv.hA;have hI:=hv.hI;have hb:p.see.length*(p.init.length*k)<=4*(16*5):=Nat.mul_le_mul hA.2 (Nat.mul_le_mul hI.2 hk);refine⟨h1,⟨by show (vU p (yU p k) k).length<=_; unfold vU; omega,fun c hc=>?_⟩⟩;obtain⟨a,r,t,ha,hr,ht,rfl⟩:=nM.1 hc;rw [mD hl hr ht];have:=qE (see:=p.see) (st:=stR (yU p k) r) (a:=a) (t:=t) (by have:=hl _ (vI hr); omega);show (vK p.see (stR (yU p k) r) a t).length<=1000;omega
theorem aKa {p:PrA} {F:Nat} (hv:PrV p F) {k:Nat} (hk:k<=5) (h0:lO p ((k+1:Nat):Int)= 0) :
  eA p ((k+1:Nat):Int)= vU p (yU p k) k/\kR p (vU p (yU p k) k) ((k+1:Nat):Int)= 0/\aMj p (vU p (yU p k) k) ((k+1:Nat):Int)= oJ p ((k+1:Nat):Int)/\ aIc p (vU p (yU p k) k) ((k+1:Nat):Int)= true:=by
 have hl:∀ st ∈ yU p k,k<=st.length:=fun st hs=>by rw [(tZ hv k).run st hs]; omega
 have ek:((k+1:Nat):Int).toNat-1=k:=by rw [Int.toNat_natCast,Nat.add_sub_cancel]
 have hg:=aVt hv k k (Nat.le_refl k)
 have hE:kR p (vU p (yU p k) k) ((k+1:Nat):Int)= 0:=by
  unfold kR;rw [if_neg (by simpa using h0),if_neg (by rw [aOo hv]; simp),ek,hg];rfl
 have hS:vJ p (vU p (yU p k) k) k=yU p k:=by unfold vJ; rw [hg]; rfl
 refine⟨?_,hE,?_,?_⟩
 ·unfold eA;rw [if_neg (by simpa using h0),ek]
 ·unfold aMj oJ;rw [if_neg (by simpa using hE),if_neg (by simpa using h0),ek,hS]
 ·unfold aIc;rw [decide_eq_true hE,ek,hS,Bool.true_and,List.all_eq_true];exact fun t ht=>decide_eq_true (aG hl (List.mem_range.1 ht))
end Kb
open Rs Fm Ru Te Kb
theorem aKk {rs:List wP} {A F T:Nat} (ok:OkR rs A F T):aW5 ⟨A,F,T,rs⟩:=by
 have hT:=ok.hT;have hR:=ok.hR;have hA:=ok.hA;refine⟨by show rs.length<=_; omega,fun r hr=>⟨by rw [ok.fac r hr]; omega,by rw [ok.loc r hr]; omega,fun l hl=>by rw [ok.row r hr l hl]; omega⟩⟩
theorem bXf (p:PrA) (n:Nat) (hn:n<256):yX Tryz.prog 6 [p.d,.int .u8 (n:Int)] (.bool true):=by
 have hD:p.d = .agg [.int .i64 p.F,.sl 1 (us p.init),.sl 1 (us p.see),.sl 1 (mvR p.moves),.sl 1 (cdR p.code)]:=rfl;have hF:=aC8 p;have hS:=fun h=>aS1 (p:=p) (l:=[]) h;have hR:=fun sm=>aSd p sm;have hA:=aF6;have hP:=fun sm=>aI2 p sm ((n % 4+1:Nat):Int);have hL:=fun sm=>eE p sm ((n % 4+1:Nat):Int);have hG:=fun sm l sc=>eD p sm l sc ((n % 4+1:Nat):Int);have hI:=fun sm l sc=>lB p sm l sc ((n % 4+1:Nat):Int);have e1:IntKind.i64.wrap (n:Int)= (n:Int):=wrap_i64 (by omega)
 have e2:((n:Int)).tmod 4=((n % 4:Nat):Int):=by
  rw [Int.tmod_eq_emod_of_nonneg (by omega)]; omega
 have e3:IntKind.i64.wrap (1+((n % 4:Nat):Int))= ((n % 4+1:Nat):Int):=by rw [wrap_i64 (by omega)]; omega
 rw [hD] at *;generalize gH p []=b at *;refine xX.go_fn mixed Tryz.func6 k6 (by simp) fun hf=>?_
 cases b with
 | false=>
  simp only [ZA,ZB,ZC,ZD,ZE,↓reduceIte,ZF,ZG,ZH,ZI,ZJ,reduceCtorEq,ZK,↓zU,↓zD,zV,zT,zW];refine .go (cq hA) ?_;simp only [ZA,ZB,ZC,ZD,ZE,↓reduceIte,ZF,ZG,ZH,ZI,ZJ,reduceCtorEq,ZK,↓zU,↓zD,zV,zT,zW];refine .go (cq hF) ?_;simp only [ZA,ZB,ZC,ZD,ZE,↓reduceIte,ZF,ZG,ZH,ZI,ZJ,reduceCtorEq,ZK,↓zU,↓zD,zV,zT,zW];refine .go (cq hA) ?_;simp only [ZA,ZB,ZC,ZD,ZE,↓reduceIte,ZF,ZG,ZH,ZI,ZJ,reduceCtorEq,ZK,↓zU,↓zD,zV,zT,zW];exact .drop (by simp) (by simp [vw])
 | true=>
  have sm:=hS rfl;have hR:=hR sm;have hP:=hP sm;have hL:=hL sm;have hG:=hG sm;have hI:=hI sm
  by_cases c6:6<p.init.length
  ·have c6':(6:Int)<(p.init.length:Int):=by omega
   simp only [ZA,ZB,ZC,ZD,ZE,↓reduceIte,ZF,ZG,ZH,ZI,ZJ,reduceCtorEq,ZK,↓zU,↓zD,zV,zT,zW];refine .go (cq hA) ?_;simp only [ZA,ZB,ZC,ZD,ZE,↓reduceIte,ZF,ZG,ZH,ZI,ZJ,reduceCtorEq,ZK,↓zU,↓zD,zV,zT,zW];refine .go (cq hF) ?_;simp only [ZA,ZB,ZC,ZD,ZE,↓reduceIte,ZF,ZG,ZH,ZI,ZJ,reduceCtorEq,ZK,↓zU,↓zD,zV,zT,zW,xT,c6'];refine .go (cq hA) ?_;simp only [ZA,ZB,ZC,ZD,ZE,↓reduceIte,ZF,ZG,ZH,ZI,ZJ,reduceCtorEq,ZK,↓zU,↓zD,zV,zT,zW];exact .drop (by simp) (by simp [vw])
  have c6':¬ (6:Int)<(p.init.length:Int):=by omega
  by_cases hz:uD p=0
  case neg=>
   have hz':(uD p != 0)= true:=by simpa using hz
   simp only [ZA,ZB,ZC,ZD,ZE,↓reduceIte,ZF,ZG,ZH,ZI,ZJ,reduceCtorEq,ZK,↓zU,↓zD,zV,zT,zW];refine .go (cq hA) ?_;simp only [ZA,ZB,ZC,ZD,ZE,↓reduceIte,ZF,ZG,ZH,ZI,ZJ,reduceCtorEq,ZK,↓zU,↓zD,zV,zT,zW];refine .go (cq hF) ?_;simp only [ZA,ZB,ZC,ZD,ZE,↓reduceIte,ZF,ZG,ZH,ZI,ZJ,reduceCtorEq,ZK,↓zU,↓zD,zV,zT,zW,xT,c6'];refine .go (cq hR) ?_;simp only [ZA,ZB,ZC,ZD,ZE,↓reduceIte,ZF,ZG,ZH,ZI,ZJ,reduceCtorEq,ZK,↓zU,↓zD,zV,zT,zW,hz'];refine .go (cq hA) ?_;simp only [ZA,ZB,ZC,ZD,ZE,↓reduceIte,ZF,ZG,ZH,ZI,ZJ,reduceCtorEq,ZK,↓zU,↓zD,zV,zT,zW];exact .drop (by simp) (by simp [vw])
  have hz':(uD p != 0)= false:=by simpa using hz
  obtain⟨h0,F,hv,hs⟩:=aSx (k:=n % 4) hz (by omega);have ok:=aD7 hv (show n % 4<=5 by omega) (tZ hv (n % 4));obtain⟨q1,q2,q3,q4⟩:=aKa hv (show n % 4<=5 by omega) h0;obtain⟨s1,sc⟩:=aSf hv (show n % 4<=5 by omega);have hG:=hG _ sc;have hI:=hI _ sc;rw [q3,q2] at hG;rw [q4,q2] at hI;rw [q1,h0] at hL;rw [h0] at hP;have hA4:=hv.hA
  have hlen:(vU p (yU p (n % 4)) (n % 4)).length<=200:=by
   have:p.see.length*(p.init.length*(n % 4))<=4*(6*3):=Nat.mul_le_mul hA4.2 (Nat.mul_le_mul (by omega) (by omega));omega
  have c2:¬ ((200:Int)<((vU p (yU p (n % 4)) (n % 4)).length:Int)):=by omega
  have hE:=aI1 (oJ p ((n % 4+1:Nat):Int)) (oJ p ((n % 4+1:Nat):Int)) (by rw [hs]; exact aKk ok);rw [decide_eq_true rfl] at hE;have hM:(oJ p ((n % 4+1:Nat):Int)).d = .agg [.int .i64 p.see.length,.int .i64 F,.int .i64 (n % 4+1:Nat),.sl 2 (oQ (fY p.see (yU p (n % 4)) (n % 4+1)))]:=by rw [hs]; rfl
  rw [hM] at hP hG hE;clear hs ok hM q1 q2 q3 q4 s1 sc hlen;generalize fY p.see (yU p (n % 4)) (n % 4+1)= rs at *;generalize vU p (yU p (n % 4)) (n % 4)= l at *;simp only [ZA,ZB,ZC,ZD,ZE,↓reduceIte,ZF,ZG,ZH,ZI,ZJ,reduceCtorEq,ZK,↓zU,↓zD,zV,zT,zW];refine .go (cq hA) ?_;simp only [ZA,ZB,ZC,ZD,ZE,↓reduceIte,ZF,ZG,ZH,ZI,ZJ,reduceCtorEq,ZK,↓zU,↓zD,zV,zT,zW];refine .go (cq hF) ?_;simp only [ZA,ZB,ZC,ZD,ZE,↓reduceIte,ZF,ZG,ZH,ZI,ZJ,reduceCtorEq,ZK,↓zU,↓zD,zV,zT,zW,xT,c6'];refine .go (cq hR) ?_;simp only [ZA,ZB,ZC,ZD,ZE,↓reduceIte,ZF,ZG,ZH,ZI,ZJ,reduceCtorEq,ZK,↓zU,↓zD,zV,zT,zW,hz',e1,e2,e3]
  (repeat refine sd ?_)
  refine .go (cq hP) ?_;simp only [ZA,ZB,ZC,ZD,ZE,↓reduceIte,ZF,ZG,ZH,ZI,ZJ,reduceCtorEq,ZK,↓zU,↓zD,zV,zT,zW]
  (repeat refine sd ?_)
  refine .go (cq hL) ?_;simp only [ZA,ZB,ZC,ZD,ZE,↓reduceIte,ZF,ZG,ZH,ZI,ZJ,reduceCtorEq,ZK,↓zU,↓zD,zV,zT,zW,wX,c2];refine .go (cq hG) ?_;simp only [ZA,ZB,ZC,ZD,ZE,↓reduceIte,ZF,ZG,ZH,ZI,ZJ,reduceCtorEq,ZK,↓zU,↓zD,zV,zT,zW]
  (repeat refine sd ?_)
  refine .go (cq hI) ?_;simp only [ZA,ZB,ZC,ZD,ZE,↓reduceIte,ZF,ZG,ZH,ZI,ZJ,reduceCtorEq,ZK,↓zU,↓zD,zV,zT,zW];refine .go (cq hE) ?_;simp only [ZA,ZB,ZC,ZD,ZE,↓reduceIte,ZF,ZG,ZH,ZI,ZJ,reduceCtorEq,ZK,↓zU,↓zD,zV,zT,zW];exact .drop (by simp) (by simp [vw])
end Go.Pd
