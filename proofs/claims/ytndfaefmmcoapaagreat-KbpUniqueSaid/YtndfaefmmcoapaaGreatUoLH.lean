/- Part LH. -/
import Derived.Test.YtndfaefmmcoapaaGreatUoLF
set_option linter.unusedSectionVars false
set_option linter.unusedVariables false
set_option linter.unusedSimpArgs false
set_option linter.defProp false
set_option maxRecDepth 20000
set_option maxHeartbeats 1000000
namespace Go.Pd
open Go Go.Proofs
open BitVec renaming isValue -> ZA
open Rs Fm Ru Te Kb
namespace Kb
def oA (p:PrA) (l:List ChA):Nat->Option (List (List (BitVec 64)))
 | 0=>some (aXj p)
 | n+1=>match oA p l n with
  | none=>none
  | some sts=>if mZ p l sts n=true then some (jE p sts (rX p l sts n)) else none
def vD (p:PrA) (l:List ChA) (n:Nat):List (List (BitVec 64)):=(oA p l n).getD []
theorem lS {p:PrA} {l:List ChA} {n:Nat} (h:(oA p l (n+1)).isSome=true):(oA p l n).isSome=true/\mZ p l (vD p l n) n=true/\vD p l (n+1)= jE p (vD p l n) (rX p l (vD p l n) n):=by
 unfold oA at h;unfold vD
 cases e:oA p l n with
 | none=>rw [e] at h; cases h
 | some sts=>
  rw [e] at h;simp only at h
  by_cases c:mZ p l sts n=true
  ·refine⟨rfl,c,?_⟩;show (oA p l (n+1)).getD []=_;unfold oA;rw [e];simp only [c,↓reduceIte];rfl
  ·rw [if_neg c] at h; cases h
theorem aDx {p:PrA} {l:List ChA} {n:Nat} (h:(oA p l n).isSome=true):(oA p l (n+1)).isSome=mZ p l (vD p l n) n/\(mZ p l (vD p l n) n=true->vD p l (n+1)= jE p (vD p l n) (rX p l (vD p l n) n)):=by
 cases e:oA p l n with
 | none=>rw [e] at h; cases h
 | some sts=>
  have e2:vD p l n=sts:=by unfold vD; rw [e]; rfl
  rw [e2]
  have e3:oA p l (n+1)= if mZ p l sts n=true then some (jE p sts (rX p l sts n)) else none:=by show (match oA p l n with | none=>none | some sts=>_)= _;rw [e]
  unfold vD;rw [e3]
  cases c:mZ p l sts n with
  | true=>exact⟨rfl,fun _=>rfl⟩
  | false=>exact⟨rfl,fun h=>by cases h⟩
theorem fS {p:PrA} {l:List ChA} {n:Nat}:∀ {m:Nat},n<=m->(oA p l n).isSome=false->(oA p l m).isSome=false
 | 0,h,hn=>by
  have:n=0:=by omega
  rw [this] at hn;exact hn
 | m+1,h,hn=>by
  by_cases e:n=m+1
  ·rw [<- e]; exact hn
  ·have ih:=fS (m:=m) (by omega) hn
   cases c:(oA p l (m+1)).isSome with
   | false=>rfl
   | true=>rw [(lS c).1] at ih; cases ih
theorem aHv {p:PrA} {l:List ChA} (h:yA p l=0):∀ i,i<l.length->chE p l i=0:=fun i hi=>uS.1 h i (List.mem_range.2 hi)
theorem bXn {p:PrA} {l:List ChA} (h:yA p l=0) {c:ChA} (hc:c ∈ l):c.mv<p.xM.length /\ -1<=c.mv:=by
 obtain⟨i,hi,rfl⟩:=List.getElem_of_mem hc;have h1:=aHv h i hi;unfold chE at h1;have e:l.getD i ch0=l[i]:=by simp [List.getD,hi]
 rw [e] at h1
 split at h1
 ·cases h1
 ·rename_i hb;have hb:aRa p l[i]=false:=by simpa using hb
  unfold aRa at hb;simp only [Bool.or_eq_false_iff,decide_eq_false_iff_not] at hb;omega
theorem aI (p:PrA) (l:List ChA) (sts:List (List (BitVec 64))) (t:Nat):(rX p l sts t).length=p.see.length:=by simp [rX]
theorem aSr {p:PrA} {l:List ChA} {sts:List (List (BitVec 64))} {t:Nat}:∀ m ∈ rX p l sts t,m.length=sts.length:=fun m hm=>by simp only [rX,List.mem_map] at hm;obtain⟨a,_,rfl⟩:=hm;simp [mvG]
theorem aNe {p:PrA} {l:List ChA} (h:yA p l=0) {sts:List (List (BitVec 64))} {t:Nat} (hB:mZ p l sts t=true):∀ m ∈ rX p l sts t,∀ k ∈ m,k<p.xM.length:=fun m hm k hk=>by simp only [rX,List.mem_map,List.mem_range] at hm;obtain⟨a,ha,rfl⟩:=hm;simp only [mvG,List.mem_map,List.mem_range] at hk;obtain⟨r,hr,rfl⟩:=hk;unfold mZ at hB;rw [List.all_eq_true] at hB;have h1:=hB a (List.mem_range.2 ha);rw [List.all_eq_true] at h1;have h2:=of_decide_eq_true (h1 r (List.mem_range.2 hr));exact(bXn h (xK (bN h2).1)).1
theorem aX0 {p:PrA} {F:Nat} (hv:PrV p F) {l:List ChA} (hc:yA p l=0):∀ n,(oA p l n).isSome=true->PlS p F (vD p l n) n
 | 0,_=>PlS.beg hv
 | n+1,h=>by obtain⟨h1,h2,h3⟩:=lS h;rw [h3];exact PlS.step hv (aX0 hv hc n h1) aSr (aNe hc h2)
def mX (p:PrA) (l:List ChA) (n:Int):Int:=if lD p n≠0 then lD p n else if yA p l≠0 then yA p l else if (oA p l (n.toNat-1)).isSome=true then 0 else 6
theorem fT {p:PrA} {l:List ChA} {n:Int} (h:mX p l n=0):∃ F k:Nat,PrV p F/\n=((k+1:Nat):Int)/\ k<=5/\yA p l=0/\(oA p l k).isSome=true:=by
 unfold mX at h
 split at h
 ·rename_i h1; exact absurd h h1
 ·rename_i h1
  split at h
  ·rename_i h2; exact absurd h h2
  ·rename_i h2
   split at h
   ·rename_i h3;obtain⟨F,k,hv,rfl,hk⟩:=Kb.oW (show lD p n=0 by simpa using h1);rw [Int.toNat_natCast,Nat.add_sub_cancel] at h3;exact⟨F,k,hv,rfl,hk,by simpa using h2,h3⟩
   ·cases h
def aWo (p:PrA) (l:List ChA) (n:Int):D:=if mX p l n=0 then plD p (vD p l (n.toNat-1)) else .oG
end Kb
theorem eR {p:PrA} {l:List ChA} (hll:l.length<=2000000) {sts:List (List (BitVec 64))} {t:Nat} (hA:1<=p.see.length/\p.see.length<=4) (hR:1<=sts.length/\sts.length<=16) (hl:∀ st ∈ sts,t<st.length) (ht:t<=1000) {nx:Nat} {ob:List (Nat × Ob)} {x:D}
  (hx:Seen ⟨nx,ob⟩ (fun _=>False) x (plD p sts)) (hB:mZ p l sts t=true):xX Tryz.prog 84 [x,.sl 3 (chR l),.int .i64 t] ⟨nx,ob⟩ (.tup [.sl 1 (rl (rX p l sts t)),.bool true]) ⟨nx+(1+p.see.length),ob⟩:=by
 have hc:=aSs hll hA hR hl ht (d:=.tup [.osl 0 1 p.see.length,.bool true]) (σ':=⟨1+p.see.length,aS7 ((rX p l sts t).map (rows .i64))⟩) (fun _=>⟨rfl,rfl⟩) (fun h=>by rw [hB] at h; cases h);refine xX.aT5 hc ⟨hx,.pure rfl,.pure rfl,trivial⟩ (by simp [D.fl]) (aO1 aTu) ?_;have hN:=Nst.shift (c:=nx) (r:=ob) (aU ((rX p l sts t).map (rows .i64))) fun e he r hr=>(tL e he r hr).2
 have:=Nst.seen (nx:=nx+(1+p.see.length)) (K:=fun k=>k<nx) (n:=p.see.length) hN (by rw [List.length_map,aI]) (by omega) (fun k hk=>by simp only [List.mem_map] at hk;obtain⟨j,_,rfl⟩:=hk;omega) tL
 rw [aOf] at this;simp only [D.shift,D.zE];exact Seen.tup ⟨this,.pure rfl,trivial⟩
theorem aUd {p:PrA} {l:List ChA} (hll:l.length<=2000000) {sts:List (List (BitVec 64))} {t:Nat} (hA:1<=p.see.length/\p.see.length<=4) (hR:1<=sts.length/\sts.length<=16) (hl:∀ st ∈ sts,t<st.length) (ht:t<=1000) {nx:Nat} {ob:List (Nat × Ob)} {x:D}
  (hx:Seen ⟨nx,ob⟩ (fun _=>False) x (plD p sts)) (hB:mZ p l sts t=false):xX Tryz.prog 84 [x,.sl 3 (chR l),.int .i64 t] ⟨nx,ob⟩ (.tup [.xH,.bool false]) ⟨nx,ob⟩:=by
 have hc:=aSs hll hA hR hl ht (d:=.tup [.xH,.bool false]) (σ':=St0) (fun h=>by rw [hB] at h; cases h) (fun _=>⟨rfl,rfl⟩);exact xX.aB1 hc ⟨hx,.pure rfl,.pure rfl,trivial⟩ (by simp [D.flat,D.aP5])
theorem cQ (p:PrA) (sm:qO p) (l:List ChA) (sc:gX l) (n:Int):yT Tryz.prog 82 [p.d,.sl 3 (chR l),.int .i64 n] (.tup [aWo p l n,.int .i64 (mX p l n)]):=by
 have hQ:=gK p sm n;have hC:=aQ7 p l sc;have hll:=sc.len;by_cases c:lD p n=0
 case neg=>
  have c':(lD p n != 0)= true:=by simpa using c
  have e1:mX p l n=lD p n:=by unfold mX; rw [if_pos c]
  have e2:aWo p l n = .oG:=by unfold aWo; rw [e1,if_neg c]
  rw [e1,e2];unfold PrA.d PrA.cells at *;refine xX.xR mixed Tryz.func82 k82 (by simp) fun hf=>?_;simp only [simprocAttr,-ZA,↓zU,↓zD,zV,zT,zW]
  (repeat refine sd ?_)
  refine .go (cr hQ) ?_;simp only [simprocAttr,-ZA,↓zU,↓zD,zV,zT,zW,c'];exact .drop (by simp) (by simp [vw,vwL])
 have c':(lD p n != 0)= false:=by simpa using c
 by_cases c2:yA p l=0
 case neg=>
  have c2':(yA p l != 0)= true:=by simpa using c2
  have e1:mX p l n=yA p l:=by unfold mX; rw [if_neg (by simpa using c),if_pos c2]
  have e2:aWo p l n = .oG:=by unfold aWo; rw [e1,if_neg c2]
  rw [e1,e2];unfold PrA.d PrA.cells at *;refine xX.xR mixed Tryz.func82 k82 (by simp) fun hf=>?_;simp only [simprocAttr,-ZA,↓zU,↓zD,zV,zT,zW]
  (repeat refine sd ?_)
  refine .go (cr hQ) ?_;simp only [simprocAttr,-ZA,↓zU,↓zD,zV,zT,zW,c'];refine .go (cr hC) ?_;simp only [simprocAttr,-ZA,↓zU,↓zD,zV,zT,zW,c2'];exact .drop (by simp) (by simp [vw,vwL])
 have c2':(yA p l != 0)= false:=by simpa using c2
 obtain⟨F,k,hv,rfl,hk⟩:=Kb.oW c
 have hgE:mX p l ((k+1:Nat):Int)= if (oA p l k).isSome=true then 0 else 6:=by unfold mX;rw [if_neg (by simpa using c),if_neg (by simpa using c2),Int.toNat_natCast,Nat.add_sub_cancel]
 have hgD:aWo p l ((k+1:Nat):Int)= if (oA p l k).isSome=true then plD p (vD p l k) else .oG:=by unfold aWo;rw [hgE,Int.toNat_natCast,Nat.add_sub_cancel];split <;> rfl
 have hB:=aSx hv;have hI:=hv.hI;have hA:=hv.hA;have hw:IntKind.i64.wrap (((k+1:Nat):Int)-1)= (k:Int):=by rw [wrap_i64 (by omega)]; omega
 have hB1:=xX.own (σ:=⟨1,[(0,⟨5,[p.cells]⟩)]⟩) hB (by simp [D.xU,D.xG,PrA.d,PrA.cells]);have hPS:=(kQ p (Nat.le_refl 2) (aXj p)).shift (c:=1) (r:=[(0,⟨5,[p.cells]⟩)]);have hbl:(aXj p).length=p.init.length:=by simp [aXj]
 have hD:p.d = .agg [.int .i64 p.F,.sl 1 (us p.init),.sl 1 (us p.see),.sl 1 (mvR p.xM),.sl 1 (cdR p.code)]:=rfl;rw [hgE,hgD];unfold PrA.cells at hB1 hPS;rw [hD] at *;refine xX.xR mixed Tryz.func82 k82 (by simp) fun hf=>?_;simp only [simprocAttr,-ZA,↓zU,↓zD,zV,zT,zW]
 (repeat refine sd ?_)
 refine .go (cr hQ) ?_;simp only [simprocAttr,-ZA,↓zU,↓zD,zV,zT,zW,c'];refine .go (cr hC) ?_;simp only [simprocAttr,-ZA,↓zU,↓zD,zV,zT,zW,c2'];refine .go hB1 ?_;simp only [simprocAttr,-ZA,↓zU,↓zD,zV,zT,zW,hw]
 refine sX (fun t:Nat=>[(30,.int .i64 t),(29,.int .i64 k),(10,.ref 0 6 0 0),(1,.sl 3 (chR l))]) (fun t=>⟨2+(vD p l t).length,plL p 2 (vD p l t)⟩) (fun t=>t<=k/\(oA p l t).isSome=true) (fun t=>k-t) 0 ⟨Nat.zero_le _,rfl⟩ ?_ ?_
 ·refine xI.aFg hPS (Nat.le_refl _) (Nat.zero_le _) (fun k hk=>absurd hk (Nat.not_lt_zero _)) ?_;simp only [vwF,vw,Fr.get,↓reduceIte,reduceIte,Nat.reduceEqDiff,D.shift,and_true,true_and];exact⟨rfl,by omega,rfl⟩
 intro t ⟨ht,hsome⟩;refine xN mixed ?_;have hS:=aX0 hv c2 t hsome;have hl:=hS.len;obtain⟨u1,u2⟩:=aDx hsome;by_cases htn:t<k
 case neg=>
  have hd:¬ ((t:Int)<(k:Int)):=by omega
  obtain rfl:t=k:=by omega
  rw [if_pos hsome,if_pos hsome];simp only [simprocAttr,-ZA,↓zU,↓zD,zV,zT,zW,hd]
  refine .go [(10,plD p (vD p l t))] ⟨2+(vD p l t).length,[]⟩ ?_ ?_
  ·refine xI.deep (fun _=>False) trivial ⟨.inr ?_,trivial⟩;exact iR (Nat.le_refl 2) fun _ h=>h
  simp only [simprocAttr,-ZA,↓zU,↓zD,zV,zT,zW];exact .drop (by simp) (by simp [vw,vwL,plD])
 have hd:((t:Int)<(k:Int)):=by omega
 have hseen:Seen ⟨2+(vD p l t).length,plL p 2 (vD p l t)⟩ (fun _=>False) (.ref 0 6 0 0) (plD p (vD p l t)):=iR (Nat.le_refl 2) fun _ h=>h
 cases hcb:mZ p l (vD p l t) t with
 | false=> have hno:=aUd hll hA (by rw [hl]; exact hI) (fun st hs=>by rw [hS.run st hs]; omega) (by omega) hseen hcb;have hnk:(oA p l k).isSome=false:=fS (show t+1<=k by omega) (by rw [u1,hcb]);rw [hnk,if_neg (by simp),if_neg (by simp)];simp only [simprocAttr,-ZA,↓zU,↓zD,zV,zT,zW,hd];refine .go hno ?_;simp only [simprocAttr,-ZA,↓zU,↓zD,zV,zT,zW];refine .zF ?_;simp only [simprocAttr,-ZA,↓zU,↓zD,zV,zT,zW];exact .drop (by simp) (by simp [vw,vwL])
 | true=>
  have hyes:=eR hll hA (by rw [hl]; exact hI) (fun st hs=>by rw [hS.run st hs]; omega) (by omega) hseen hcb;have hpl:=aI p l (vD p l t) t;have h121:=cF hv (sts:=vD p l t) (by rw [hl]; exact hI) (fun st hs=>by rw [hS.run st hs]; omega) hS.val (mv:=rX p l (vD p l t) t) (by rw [hpl]; omega) aSr (aNe c2 hcb) (nx:=2+(vD p l t).length+(1+p.see.length)) (by omega);have hnext:=u2 hcb;have hsl:(jE p (vD p l t) (rX p l (vD p l t) t)).length=(vD p l t).length:=by simp [jE]
  have hPI:=kQ p (b:=2+(vD p l t).length+(1+p.see.length)) (by omega) (jE p (vD p l t) (rX p l (vD p l t) t));simp only [simprocAttr,-ZA,↓zU,↓zD,zV,zT,zW,hd];refine .go hyes ?_;simp only [simprocAttr,-ZA,↓zU,↓zD,zV,zT,zW];refine .go h121 ?_;simp only [simprocAttr,-ZA,↓zU,↓zD,zV,zT,zW];refine⟨t+1,⟨by omega,by rw [u1,hcb]⟩,?_,by omega⟩;rw [hnext];refine xI.aFg hPI (Nat.le_refl _) (Nat.zero_le _) (fun k hk=>absurd hk (Nat.not_lt_zero _)) ?_;simp only [vwF,vw,Fr.get,↓reduceIte,reduceIte,Nat.reduceEqDiff,and_true,true_and];exact⟨by rw [wrap_i64 (by omega)]; rfl,by omega,rfl⟩
open Rs Fm Ru Te Kb
namespace Kb
structure Ext (n : Nat) (sts sts' : List (List (BitVec 64))) : Prop where
 len:sts'.length=sts.length
 run:∀ i,i<sts.length->(stR sts' i).take n=(stR sts i).take n
theorem Ext.refl (n:Nat) (sts:List (List (BitVec 64))):Ext n sts sts:=⟨rfl,fun _ _=>rfl⟩
theorem Ext.trans {n:Nat} {a b c:List (List (BitVec 64))} (h:Ext n a b) (h':Ext n b c):Ext n a c:=⟨h'.len.trans h.len,fun i hi=>(h'.run i (by rw [h.len]; exact hi)).trans (h.run i hi)⟩
theorem Ext.mono {n m:Nat} {a b:List (List (BitVec 64))} (h:Ext n a b) (hm:m<=n):Ext m a b:=⟨h.len,fun i hi=>by
 have:=congrArg (List.take m) (h.run i hi)
 rwa [List.take_take,List.take_take,Nat.min_eq_left hm] at this⟩
section
variable {n t : Nat} {sts sts' : List (List (BitVec 64))} {see : List (BitVec 64)}
theorem Ext.his (h:Ext n sts sts') (ht:t<n) {a r:Nat} (hr:r<sts.length):uQ see (stR sts' r) a t=uQ see (stR sts r) a t:=by have:=(h.mono (show t+1<=n from ht)).run r hr;unfold uQ;rw [this]
theorem Ext.state (h:Ext n sts sts') (ht:t<n) {r:Nat} (hr:r<sts.length):(stR sts' r).getD t 0=(stR sts r).getD t 0:=by have:=(h.mono (show t+1<=n from ht)).run r hr;have e:=congrArg (fun l:List (BitVec 64)=>l[t]?) this;simp only [List.getElem?_take,show t<t+1 by omega,↓reduceIte] at e;simp only [List.getD,e]
theorem Ext.loc (h:Ext n sts sts') (ht:t<n) {a w:Nat} (hw:w<sts.length):aPx see sts' t a w=aPx see sts t a w:=by
 unfold aPx;rw [h.len,h.his ht hw]
 have key:∀ (l:List Nat),(∀ v ∈ l,v<sts.length)->l.findIdx (fun v=>decide (uQ see (stR sts' v) a t=uQ see (stR sts w) a t))= l.findIdx (fun v=>decide (uQ see (stR sts v) a t=uQ see (stR sts w) a t)):=by
  intro l
  induction l with
  | nil=>intro _; rfl
  | cons v r ih=> intro hv;rw [List.findIdx_cons,List.findIdx_cons,h.his ht (hv v (by simp)),ih fun u hu=>hv u (by simp [hu])]
 exact key _ fun v hv=>List.mem_range.1 hv
theorem Ext.time (h:Ext n sts sts') (ht:t<n):wH see sts' t=wH see sts t:=by unfold wH;rw [h.len];refine List.map_congr_left fun w hw=>?_;have hw:=List.mem_range.1 hw;rw [h.state ht hw];congr 2;refine List.map_congr_left fun a _=>?_;rw [h.loc ht hw]
theorem all_congr {α:Type} {l:List α} {f g:α->Bool} (h:∀ x ∈ l,f x=g x):l.all f=l.all g:=by
 induction l with
 | nil=>rfl
 | cons x r ih=>rw [List.all_cons,List.all_cons,h x (by simp),ih fun y hy=>h y (by simp [hy])]
theorem Ext.bWf (h:Ext n sts sts') (ht:t<n) {a w:Nat} (hw:w<sts.length) (f:List Nd):knT see sts' t a f w=knT see sts t a f w:=by unfold knT bXy;rw [h.len,h.time ht];refine all_congr fun v hv=>?_;rw [h.his ht (List.mem_range.1 hv),h.his ht hw]
theorem Ext.vM (h:Ext n sts sts') (ht:t<n) {a w:Nat} (hw:w<sts.length):∀ l,vM see sts' t a w l=vM see sts t a w l
 | []=>rfl
 | c :: r=>by unfold Kb.vM;rw [h.bWf ht hw,h.vM ht hw r]
variable {p : PrA}
theorem Ext.sN (h:Ext n sts sts') (ht:t<n) {a w:Nat} (hw:w<sts.length):sN p sts' t a w=sN p sts t a w:=h.vM ht hw _
theorem Ext.wV (h:Ext n sts sts') (ht:t<n):wV p sts' t=wV p sts t:=by unfold Kb.wV;rw [h.len];refine List.map_congr_left fun a _=>List.map_congr_left fun w hw=>h.sN ht (List.mem_range.1 hw)
theorem Ext.lG (h:Ext n sts sts') (ht:t<n) {a r:Nat} (hr:r<sts.length):lG p sts' t a r=lG p sts t a r:=h.his ht hr
theorem Ext.mZ (h:Ext n sts sts') (ht:t<n) {l:List ChA}:mZ p l sts' t=mZ p l sts t:=by unfold Kb.mZ;rw [h.len];refine all_congr fun a _=>all_congr fun r hr=>?_;rw [h.lG ht (List.mem_range.1 hr)]
theorem Ext.rX (h:Ext n sts sts') (ht:t<n) {l:List ChA}:rX p l sts' t=rX p l sts t:=by unfold Kb.rX mvG;rw [h.len];refine List.map_congr_left fun a _=>List.map_congr_left fun r hr=>?_;rw [h.lG ht (List.mem_range.1 hr)]
theorem aSm {mv:List (List Int)} (hl:∀ st ∈ sts,n<=st.length):Ext n sts (jE p sts mv) where
 len:=by simp [jE]
 run:=fun i hi=>by
  have e:stR (jE p sts mv) i=stR sts i ++ [aKl p sts mv i]:=by simp [stR,jE,List.getD,hi]
  rw [e,List.take_append_of_le_length (hl _ (uP hi))]
end
theorem aSn {p:PrA} {F:Nat} (hv:PrV p F) {n:Nat}:∀ {m:Nat},n<=m->Ext (n+1) (yN p n) (yN p m)
 | 0,h=>by
  have:n=0:=by omega
  subst this; exact .refl _ _
 | m+1,h=>by
  by_cases e:n=m+1
  ·subst e; exact .refl _ _
  ·exact(aSn hv (m:=m) (by omega)).trans (aSm fun st hs=>by rw [(tV hv m).run st hs]; omega)
theorem aVe {p:PrA} {F:Nat} (hv:PrV p F) {l:List ChA} (hc:yA p l=0) {n:Nat}:∀ {m:Nat},n<=m->(oA p l m).isSome=true->Ext (n+1) (vD p l n) (vD p l m)
 | 0,h,_=>by
  have:n=0:=by omega
  subst this; exact .refl _ _
 | m+1,h,hs=>by
  by_cases e:n=m+1
  ·subst e; exact .refl _ _
  ·obtain⟨h1,h2,h3⟩:=lS hs;rw [h3];exact(aVe hv hc (m:=m) (by omega) h1).trans (aSm fun st hs=>by rw [(aX0 hv hc m h1).run st hs]; omega)
theorem aV4 {p:PrA} {l:List ChA} {n:Nat}:∀ {m:Nat},n<=m->(oA p l m).isSome=true->(oA p l n).isSome=true:=fun h hs=>by
 cases c:(oA p l n).isSome with
 | true=>rfl
 | false=>rw [fS h c] at hs; cases hs
theorem aO {p:PrA} {F:Nat} (hv:PrV p F) {l:List ChA} (hc:yA p l=0) {k t:Nat} (hs:(oA p l k).isSome=true) (ht:t<k):mZ p l (vD p l k) t=true/\vD p l (t+1)= jE p (vD p l t) (rX p l (vD p l k) t):=by obtain⟨h1,h2,h3⟩:=lS (aV4 (show t+1<=k from ht) hs);have he:=aVe hv hc (n:=t) (m:=k) (by omega) hs;exact⟨by rw [he.mZ (by omega)]; exact h2,by rw [he.rX (by omega)]; exact h3⟩
end Kb
end Go.Pd
