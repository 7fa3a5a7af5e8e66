/- Part XE. -/
import Derived.Test.YtndfaefmmcoapaaGreatKcX8
import Derived.Test.YtndfaefmmcoapaaGreatKcXA
import Derived.Test.YtndfaefmmcoapaaGreatKcXR
import Derived.Test.YtndfaefmmcoapaaGreatKcX9
import Derived.Shelf.Small.Bits
import Derived.Test.YtndfaefmmcoapaaGreatKcKX
set_option linter.unusedSectionVars false
set_option linter.unusedVariables false
set_option linter.unusedSimpArgs false
set_option linter.defProp false
set_option maxRecDepth 20000
set_option maxHeartbeats 1000000
namespace Go.Pd
open Go
variable [tM]
end Go.Pd

/- Part XF. -/
namespace Go.Pd
open Go
variable [tM]
def dd (mask:Nat):Fr->Fr
 | []=>[]
 | (t,d) :: r=>if mask.testBit t=true then dd mask r else(t,d) :: dd (mask ||| 2 ^ t) r
end Go.Pd

/- Part B0. -/
namespace Go.Pd
open Go Go.Proofs
open Go.Shelf
def aCb : Go.Shelf.Ren where
 f:=fun x=>match x with | 125=>189 | 128=>235 | 129=>236 | n=>n
 t:=fun x=>match x with | 46=>88 | 51=>248 | 53=>56 | n=>n
 g:=fun x=>x
theorem aFb : Lays.n125 Tryz.prog aCb:=
 { mixed:=Eq.refl true,f125:=Eq.trans Tryz.func189 (congrArg some (by kernel_rfl)),f128:=Eq.trans Tryz.func235 (congrArg some (by kernel_rfl)),f129:=Eq.trans Tryz.func236 (congrArg some (by kernel_rfl)),t3:=Tryz.underlying3,a3:=Tryz.isAgg3,z3:=Tryz.sizeOf3,v3:=Tryz.zeroValue3,t4:=Tryz.underlying4,a4:=Tryz.isAgg4,z4:=Tryz.sizeOf4,v4:=Tryz.zeroValue4,t5:=Tryz.underlying5,a5:=Tryz.isAgg5,z5:=Tryz.sizeOf5,v5:=Tryz.zeroValue5,t9:=Tryz.underlying9,a9:=Tryz.isAgg9,z9:=Tryz.sizeOf9,v9:=Tryz.zeroValue9,t46:=Tryz.underlying88,a46:=Tryz.isAgg88,z46:=Tryz.sizeOf88,v46:=Tryz.zeroValue88,t51:=Tryz.underlying248,a51:=Tryz.isAgg248,z51:=Tryz.sizeOf248,v51:=Tryz.zeroValue248,t53:=Tryz.underlying56,a53:=Tryz.isAgg56,z53:=Tryz.sizeOf56,v53:=Tryz.zeroValue56 }
theorem aCn {n:Int} (h:0<=n/\n<=18446744073709551615) (hb:(Lib.bitLen n.toNat:Int)<=9223372036854775807):yX Tryz.prog 189 [.int .u64 n] (.int .i64 (Lib.bitLen n.toNat)):=by
 refine⟨⟨_,Tryz.func189,by kernel_rfl,by kernel_rfl⟩,fun M0 w ι vals hS hl hv=>?_⟩;have h0:=hv 0 (by simp);simp only [List.getD_cons_zero] at h0
 have e0:vals = #[.int .u64 n]:=by
  have:vals.getD 0 undef = .int .u64 n:=h0.int_inv.1;obtain⟨l⟩:=vals
  match l,hl with
  | [v],_=>simp at this; rw [this]
 subst e0;refine(Any.bits_Len aFb n w h.1 h.2).mono fun e w' hh=>?_;obtain⟨rfl,rfl⟩:=hh;refine⟨_,ι,rfl,Kept.refl _ _,hS,Nat.le_refl _,fun _ _=>rfl,(fun k o hk=>by cases hk),R.pure (RP.int ?_)⟩;have e1:IntKind.i64.min = -9223372036854775808:=rfl;have e2:IntKind.i64.max=9223372036854775807:=rfl;omega
end Go.Pd

/- Part LD. -/
namespace Go.Pd
open Go Go.Proofs
open Int renaming reduceToNat -> ZA, reduceLT -> ZB, reduceLE -> ZC, reduceBEq -> ZD, reduceBNe -> ZE
open Nat renaming reduceEqDiff -> ZF, reduceAdd -> ZG, reduceBEq -> ZH, reduceLT -> ZI, reduceLeDiff -> ZJ, reduceMul -> ZK
open Rs Fm Ru Te Kb
theorem aSv (g:FuncId):yX Tryz.prog 227 [.nils,.int .i64 0,.int .i64 0,.fn g []] (.tup []):=by
 refine xX.go_fn mixed Tryz.func227 bXs (by simp) fun hf=>?_;simp only [ZA,ZB,ZC,ZD,ZE,↓reduceIte,ZF,ZG,ZH,ZI,ZJ,reduceCtorEq,ZK,↓zU,↓zD,zV,zT,zW]
 refine xV (fun _:Nat=>[(8,.int .i64 1),(2,.int .i64 0)]) (fun _=>⟨0,[]⟩) (fun k=>k=0) (fun k=>k) 0 rfl ?_ ?_
 ·(refine xM.same ?_; simp only [xR,Fr.get,↓reduceIte,reduceIte,Nat.reduceEqDiff,reduceCtorEq,D.int.injEq,D.bool.injEq,D.sl.injEq,and_true,true_and,and_self])
  rfl
 intro k _;refine xQ mixed ?_;simp only [ZA,ZB,ZC,ZD,ZE,↓reduceIte,ZF,ZG,ZH,ZI,ZJ,reduceCtorEq,ZK,↓zU,↓zD,zV,zT,zW];exact .same
theorem aGk (g:FuncId) (n:Int):yX Tryz.prog 188 [.nils,.int .i64 0,.int .i64 0,.int .i64 n,.fn g []] (.tup []):=by
 refine xX.go_fn mixed Tryz.func188 bYf (by simp) fun hf=>?_;simp only [ZA,ZB,ZC,ZD,ZE,↓reduceIte,ZF,ZG,ZH,ZI,ZJ,reduceCtorEq,ZK,↓zU,↓zD,zV,zT,zW]
 refine xV (fun _:Nat=>[(11,.bool true),(10,.bool true),(4,.fn g []),(3,.int .i64 n),(2,.int .i64 0),(1,.int .i64 0),(0,.nils)]) (fun _=>⟨0,[]⟩) (fun k=>k=0) (fun k=>k) 0 rfl ?_ ?_
 ·(refine xM.same ?_; simp only [xR,Fr.get,↓reduceIte,reduceIte,Nat.reduceEqDiff,reduceCtorEq,D.int.injEq,D.bool.injEq,D.sl.injEq,and_true,true_and,and_self])
 intro k _;refine xQ mixed ?_;simp only [ZA,ZB,ZC,ZD,ZE,↓reduceIte,ZF,ZG,ZH,ZI,ZJ,reduceCtorEq,ZK,↓zU,↓zD,zV,zT,zW,show IntKind.i64.wrap (0-0)= 0 from rfl];refine .go (cr (aSv g)) ?_;simp only [ZA,ZB,ZC,ZD,ZE,↓reduceIte,ZF,ZG,ZH,ZI,ZJ,reduceCtorEq,ZK,↓zU,↓zD,zV,zT,zW];exact .same
theorem aLk (g:FuncId):yX Tryz.prog 127 [.nils,.fn g []] (.tup []):=by
 have hl:=aCn (n:=0) ⟨by decide,by decide⟩ (by decide);refine xX.go_fn mixed Tryz.func127 bY5 (by simp) fun hf=>?_;simp only [ZA,ZB,ZC,ZD,ZE,↓reduceIte,ZF,ZG,ZH,ZI,ZJ,reduceCtorEq,ZK,↓zU,↓zD,zV,zT,zW,show IntKind.u64.wrap 0=0 from rfl];refine .go (cr hl) ?_;simp only [ZA,ZB,ZC,ZD,ZE,↓reduceIte,ZF,ZG,ZH,ZI,ZJ,reduceCtorEq,ZK,↓zU,↓zD,zV,zT,zW];refine .go (cr (aGk g _)) ?_;simp only [ZA,ZB,ZC,ZD,ZE,↓reduceIte,ZF,ZG,ZH,ZI,ZJ,reduceCtorEq,ZK,↓zU,↓zD,zV,zT,zW];exact .same
theorem aWp (g:FuncId):yX Tryz.prog 128 [.nils,.fn g []] .nils:=by
 refine xX.go_fn mixed Tryz.func128 aA4 (by simp) fun hf=>?_;simp only [ZA,ZB,ZC,ZD,ZE,↓reduceIte,ZF,ZG,ZH,ZI,ZJ,reduceCtorEq,ZK,↓zU,↓zD,zV,zT,zW];exact .same
theorem aSw {p:PrA} {sts:List (List (BitVec 64))} {a:Nat} (hR:sts.length<=16):yX Tryz.prog 73 [plD p sts,.int .i64 a,.int .i64 (-1)] (.sl 1 (rlu [])):=by
 have h1:=aLk 124;have h2:=aWp 129;have hw:IntKind.i64.wrap (-1+1)= 0:=rfl;unfold plD plC;refine xX.go_fn mixed Tryz.func73 k73 (by simp) fun hf=>?_;simp only [ZA,ZB,ZC,ZD,ZE,↓reduceIte,ZF,ZG,ZH,ZI,ZJ,reduceCtorEq,ZK,↓zU,↓zD,zV,zT,zW,yE]
 refine xV (fun r:Nat=>[(15,.int .i64 r),(14,.int .i64 sts.length),(7,.nils),(2,.int .i64 (-1)),(1,.int .i64 a),(0,plD p sts)])
  (fun r=>⟨0,[]⟩) (fun r=>r<=sts.length) (fun r=>sts.length-r) 0 (Nat.zero_le _) ?_ ?_
 ·unfold plD plC
  (refine xM.same ?_; simp [xR,Fr.get])
 intro r hr;refine xQ mixed ?_;unfold plD plC;by_cases hrl:r<sts.length
 case neg=>
  have hd:¬ ((r:Int)<(sts.length:Int)):=by omega
  simp only [ZA,ZB,ZC,ZD,ZE,↓reduceIte,ZF,ZG,ZH,ZI,ZJ,reduceCtorEq,ZK,↓zU,↓zD,zV,zT,zW,hd];refine .go (cr h1) ?_;simp only [ZA,ZB,ZC,ZD,ZE,↓reduceIte,ZF,ZG,ZH,ZI,ZJ,reduceCtorEq,ZK,↓zU,↓zD,zV,zT,zW];refine .go (cr h2) ?_;simp only [ZA,ZB,ZC,ZD,ZE,↓reduceIte,ZF,ZG,ZH,ZI,ZJ,reduceCtorEq,ZK,↓zU,↓zD,zV,zT,zW];exact .drop (by simp) (by simp [vw,rlu])
 have hd:((r:Int)<(sts.length:Int)):=by omega
 simp only [ZA,ZB,ZC,ZD,ZE,↓reduceIte,ZF,ZG,ZH,ZI,ZJ,reduceCtorEq,ZK,↓zU,↓zD,zV,zT,zW,hd,hw]
 refine xV (fun k:Nat=>[(20,.int .i64 0),(19,.int .i64 0),(15,.int .i64 r),(14,.int .i64 sts.length),(7,.nils),(2,.int .i64 (-1)),(1,.int .i64 a),(0,plD p sts)])
  (fun r=>⟨0,[]⟩) (fun k=>k=0) (fun k=>k) 0 rfl ?_ ?_
 ·unfold plD plC
  (refine xM.same ?_; simp [xR,Fr.get])
 intro k _;refine xQ mixed ?_;simp only [ZA,ZB,ZC,ZD,ZE,↓reduceIte,ZF,ZG,ZH,ZI,ZJ,reduceCtorEq,ZK,↓zU,↓zD,zV,zT,zW];refine⟨r+1,by omega,?_,by omega⟩;unfold plD plC
 (refine xM.same ?_; simp only [xR,Fr.get,↓reduceIte,reduceIte,Nat.reduceEqDiff,reduceCtorEq,D.int.injEq,D.bool.injEq,D.sl.injEq,and_true,true_and,and_self])
 exact wN (by omega)
theorem lG {p:PrA} {F:Nat} (hv:PrV p F) {sts:List (List (BitVec 64))} {t:Nat} (ok:PlG p F sts t):yX Tryz.prog 76 [plD p sts,.int .i64 t] (.sl 1 (rl (presM p sts t))):=by
 have h:=lF hv ok;have hN:=Nst.seen (nx:=1+p.see.length) (K:=fun _=>False) (n:=p.see.length) (cR ((presM p sts t).map (rows .i64))) (by rw [List.length_map,nL]) (fun h=>h) (fun _ _ h=>h) uF;rw [aQe] at hN;have h2:=xX.deep (objs':=[]) (fun _=>False) h hN fun k o hk=>by cases hk
 exact xX.ret h2 (.drop (Nat.zero_le _) (by simp [vw]))
namespace Kb
def bvL (h:List Int):List (BitVec 64):=h.map (BitVec.ofInt 64)
theorem dJ (see:List (BitVec 64)) (sts:List (List (BitVec 64))) (a:Nat) (q:Nat × Nat):bvL (rN see sts a q)= vK see (stR sts q.1) a q.2:=by
 unfold bvL rN;rw [List.map_map];conv=>rhs; rw [<- List.map_id (vK see (stR sts q.1) a q.2)]
 exact List.map_congr_left fun x _=>zF x
theorem aDx {see:List (BitVec 64)} {sts:List (List (BitVec 64))} {a:Nat} {q:Nat × Nat} {h:List Int} (e:h=rN see sts a q):us (bvL h)= rows .u64 h:=by
 subst e;rw [dJ,mJ]; rfl
theorem rX {see:List (BitVec 64)} {sts:List (List (BitVec 64))} {T a:Nat} {h:List Int}:h ∈ mR see sts T a ↔ ∃ r t,r<sts.length/\t<T/\h=rN see sts a (r,t):=by
 unfold mR;rw [aNp,(qS _).mem_iff];simp only [List.mem_map]
 constructor
 ·rintro ⟨⟨r,t⟩,hq,rfl⟩
  by_cases hT:1<=T
  ·simp only [ptN,List.mem_map,List.mem_range] at hq;obtain⟨i,hi,e⟩:=hq;simp only [Prod.mk.injEq] at e
   refine⟨r,t,?_,?_,rfl⟩
   ·rw [<- e.1]; exact Nat.div_lt_of_lt_mul (by rw [Nat.mul_comm]; exact hi)
   ·rw [<- e.2]; exact Nat.mod_lt _ (by omega)
  ·obtain rfl:T=0:=by omega
   simp [ptN] at hq
 ·rintro ⟨r,t,hr,ht,rfl⟩;exact⟨(r,t),aGh ⟨hr,ht⟩,rfl⟩
theorem aUm {see:List (BitVec 64)} {sts:List (List (BitVec 64))} {a r t:Nat} (h:t<(stR sts r).length):(rN see sts a (r,t)).length=t+1:=by
 unfold rN;rw [List.length_map];exact qE h
def jV (see:List (BitVec 64)) (sts:List (List (BitVec 64))) (a:Nat) (h:List Int):Nat:=(List.range sts.length).findIdx fun r=>decide (rN see sts a (r,h.length-1)= h)
def aYy (p:PrA) (sts:List (List (BitVec 64))) (a:Nat) (h:List Int):ChA:=⟨a,bvL h,presA p sts (h.length-1) a (jV p.see sts a h)⟩
def pL (p:PrA) (sts:List (List (BitVec 64))) (T a:Nat):List ChA:=(mR p.see sts T a).map (aYy p sts a)
def vU (p:PrA) (sts:List (List (BitVec 64))) (T:Nat):List ChA:=(List.range p.see.length).flatMap (pL p sts T)
theorem fH {see:List (BitVec 64)} {sts:List (List (BitVec 64))} {a T:Nat} {h:List Int} (hm:h ∈ mR see sts T a) (hl:∀ st ∈ sts,T<=st.length) :
  jV see sts a h<sts.length/\rN see sts a (jV see sts a h,h.length-1)= h/\1<=h.length/\h.length<=T:=by
 obtain⟨r,t,hr,ht,e⟩:=rX.1 hm;have hlen:=aUm (see:=see) (a:=a) (sts:=sts) (r:=r) (t:=t) (by have:=hl _ (vI hr); omega);rw [<- e] at hlen;have:=mY (n:=sts.length) (q:=fun r=>decide (rN see sts a (r,h.length-1)= h)) ⟨r,hr,by rw [hlen,Nat.add_sub_cancel,<- e]; simp⟩;refine⟨this.1,?_,by omega,by omega⟩;have h2:=this.2;simp only [decide_eq_true_eq] at h2;exact h2
theorem aZ8 {see:List (BitVec 64)} {sts:List (List (BitVec 64))} {a r:Nat} {h:List Int} (hr:r<sts.length) (e:rN see sts a (r,h.length-1)= h) (hf:∀ i,i<r->rN see sts a (i,h.length-1)≠ h):jV see sts a h=r:=by
 unfold jV;refine List.findIdx_eq (by simpa using hr) |>.2 ⟨by simpa using e,fun j hj=>?_⟩;simpa using hf j hj
end Kb
end Go.Pd

/- Part LE. -/
namespace Go.Pd
open Go Go.Proofs
open Int renaming reduceToNat -> ZA, reduceLT -> ZB, reduceLE -> ZC, reduceBEq -> ZD, reduceBNe -> ZE
open Nat renaming reduceEqDiff -> ZF, reduceAdd -> ZG, reduceBEq -> ZH, reduceLT -> ZI, reduceLeDiff -> ZJ, reduceMul -> ZK
open Rs Fm Ru Te Kb
namespace Kb
def eA (p:PrA) (n:Int):List ChA:=if lO p n≠0 then [] else vU p (yU p (n.toNat-1)) (n.toNat-1)
theorem aJs (l:List ChA) (a:Int) (s:List (BitVec 64)) (m:Int):chR l ++ [[.int .i64 a,.sl 1 (us s),.int .i64 m]]=chR (l ++ [⟨a,s,m⟩]):=by simp [chR,ChA.row]
theorem aI (l:List ChA):uK (chR l):=aJt l
theorem aPd : chR [] = []:=rfl
theorem aN9 (see:List (BitVec 64)) (sts:List (List (BitVec 64))) (a:Nat):mR see sts 0 a = []:=by
 unfold mR;simp [ptN,aYz,dedup,uH]
theorem aTa (see:List (BitVec 64)) (sts:List (List (BitVec 64))) (T a:Nat):(mR see sts T a).length<=sts.length*T:=by
 have h1:(mR see sts T a).length<=(aYz ((ptN T (sts.length*T)).map (rN see sts a))).length:=aZv _ _;have h2:=(qS ((ptN T (sts.length*T)).map (rN see sts a))).length_eq;rw [List.length_map,sH] at h2;omega
theorem aF {p:PrA} {sts:List (List (BitVec 64))} {T n:Nat}:((List.range n).flatMap (pL p sts T)).length<=n*(sts.length*T):=by
 induction n with
 | zero=>simp
 | succ n ih=>
  rw [List.range_succ,List.flatMap_append,List.length_append,List.flatMap_cons,List.flatMap_nil,List.append_nil];have h1:(pL p sts T n).length<=sts.length*T:=by unfold pL; rw [List.length_map]; exact aTa _ _ _ _
  rw [Nat.succ_mul];omega
end Kb
theorem aJf {p:PrA} {sts:List (List (BitVec 64))} {a k:Nat} (ha:a<p.see.length) (hk:k<=5) (hR:1<=sts.length/\sts.length<=16) (hl:∀ st ∈ sts,k<=st.length) :
  yX Tryz.prog 73 [plD p sts,.int .i64 a,.int .i64 ((k:Int)-1)] (.sl 1 (rlu (mR p.see sts k a))):=by
 by_cases h0:k=0
 ·subst h0;rw [aN9];exact aSw hR.2
 ·exact gW ha ⟨by omega,by omega⟩ hR hl
theorem eE (p:PrA) (sm:rR p) (n:Int):yX Tryz.prog 21 [p.d,.int .i64 n] (.tup [.sl 3 (chR (eA p n)),.int .i64 (lO p n)]):=by
 have hQ:=jD p sm n;by_cases c:lO p n=0
 case neg=>
  have c':(lO p n != 0)= true:=by simpa using c
  have hD:eA p n = []:=by unfold eA; rw [if_pos c]
  rw [hD,aPd];unfold PrA.d PrA.cells at *;refine xX.go_fn mixed Tryz.func21 k21 (by simp) fun hf=>?_;simp only [ZA,ZB,ZC,ZD,ZE,↓reduceIte,ZF,ZG,ZH,ZI,ZJ,reduceCtorEq,ZK,↓zU,↓zD,zV,zT,zW]
  (repeat refine sd ?_)
  refine .go (cr hQ) ?_;simp only [ZA,ZB,ZC,ZD,ZE,↓reduceIte,ZF,ZG,ZH,ZI,ZJ,reduceCtorEq,ZK,↓zU,↓zD,zV,zT,zW,c'];exact .drop (by simp) (by simp [vw,vwL])
 have c':(lO p n != 0)= false:=by simpa using c
 obtain⟨F,k,hv,rfl,hk⟩:=req_zero c;have hP:=aVx hv (n:=k) (by omega);have hS:=tZ hv k
 have hD:eA p ((k+1:Nat):Int)= vU p (yU p k) k:=by
  unfold eA;rw [if_neg (by simpa using c),Int.toNat_natCast,Nat.add_sub_cancel]
 rw [hD];have hlen:=hS.len;have hI:=hv.hI;have hA:=hv.hA;have hrun:=hS.run;have hgood:=fun t ht=>hS.good hv (t:=t) ht (by omega);generalize yU p k=sts at *;have hpm:=fun t ht=>lG hv (hgood t ht);have hha:=fun a ha=>aJf (p:=p) (sts:=sts) (a:=a) (k:=k) ha hk (by omega) fun st hs=>by rw [hrun st hs]; omega
 have hh:∀ a r t,a<p.see.length->r<sts.length->t<=k->yX Tryz.prog 75 [plD p sts,.int .i64 a,.int .i64 r,.int .i64 t] (.sl 1 (rows .u64 (rN p.see sts a (r,t)))):=fun a r t ha hr ht=>by
  have:=qZ (qT p ha hr (show t<(sts.getD r []).length by have:=hrun _ (xN (d:=[]) hr); omega) (by omega));rw [mJ] at this;exact this
 have hw2:IntKind.i64.wrap (((k+1:Nat):Int)-2)= (k:Int)-1:=by rw [wrap_i64 (by omega)]; omega
 unfold PrA.d PrA.cells plD plC at *;refine xX.go_fn mixed Tryz.func21 k21 (by simp) fun hf=>?_;simp only [ZA,ZB,ZC,ZD,ZE,↓reduceIte,ZF,ZG,ZH,ZI,ZJ,reduceCtorEq,ZK,↓zU,↓zD,zV,zT,zW]
 (repeat refine sd ?_)
 refine .go (cr hQ) ?_;simp only [ZA,ZB,ZC,ZD,ZE,↓reduceIte,ZF,ZG,ZH,ZI,ZJ,reduceCtorEq,ZK,↓zU,↓zD,zV,zT,zW,c'];refine .go (cr hP) ?_;simp only [ZA,ZB,ZC,ZD,ZE,↓reduceIte,ZF,ZG,ZH,ZI,ZJ,reduceCtorEq,ZK,↓zU,↓zD,zV,zT,zW,xT]
 refine xV (fun a:Nat=>[(26,.int .i64 a),(25,.int .i64 p.see.length),(8,xG 1 3 (chR ((List.range a).flatMap (pL p sts k)))),(7,.ptr [.int .i64 p.F,.sl 1 (us p.init),.sl 1 (us p.see),.sl 1 (mvR p.moves),.sl 1 (cdR p.code),.sl 1 (rr sts)]),(1,.int .i64 ((k+1:Nat):Int))])
  (fun a=>⟨2,xE 1 3 (chR ((List.range a).flatMap (pL p sts k)))⟩) (fun a=>a<=p.see.length) (fun a=>p.see.length-a) 0 (Nat.zero_le _) ?_ ?_
 ·(refine xM.ren [] [] (by simp) (by simp) (by decide) ?_; simp only [yO,vwL,vw,vwF,sw,St.get,St.look,Fr.get,↓reduceIte,reduceIte,Nat.reduceEqDiff,Nat.reduceAdd,Nat.reduceBEq,Nat.reduceLT,Nat.reduceLeDiff,exists_eq_left',ne_eq,reduceCtorEq,zR,List.range_zero,List.flatMap_nil,aPd,zL,zM])
 intro a ha;refine xQ mixed ?_;by_cases hal:a<p.see.length
 case neg=>
  have hd:¬ ((a:Int)<(p.see.length:Int)):=by omega
  obtain rfl:a=p.see.length:=by omega
  simp only [ZA,ZB,ZC,ZD,ZE,↓reduceIte,ZF,ZG,ZH,ZI,ZJ,reduceCtorEq,ZK,↓zU,↓zD,zV,zT,zW,hd];rw [show (List.range p.see.length).flatMap (pL p sts k)= vU p sts k from rfl,c]
  (refine mT.ren [] [] (by simp) (by simp) (by decide) ?_; simp only [yO,vwL,vw,vwF,sw,St.get,St.look,Fr.get,↓reduceIte,reduceIte,Nat.reduceEqDiff,Nat.reduceAdd,Nat.reduceBEq,Nat.reduceLT,Nat.reduceLeDiff,exists_eq_left',ne_eq,reduceCtorEq,zR,aI])
 have hd:((a:Int)<(p.see.length:Int)):=by omega
 have h73:=hha a hal;have hsu:(List.range (a+1)).flatMap (pL p sts k)= (List.range a).flatMap (pL p sts k)++ pL p sts k a:=by rw [List.range_succ,List.flatMap_append]; simp
 have hla:((List.range a).flatMap (pL p sts k)).length<=4*(16*5):=by
  have h1:=aF (p:=p) (sts:=sts) (T:=k) (n:=a);have h2:sts.length*k<=16*5:=Nat.mul_le_mul (by omega) hk;have h3:a*(sts.length*k)<=4*(16*5):=Nat.mul_le_mul (by omega) h2;omega
 have hpa:pL p sts k a=(mR p.see sts k a).map (aYy p sts a):=rfl;rw [hpa] at hsu
 have hlk:(mR p.see sts k a).length<=16*5:=by
  have h1:=aTa p.see sts k a;have h2:sts.length*k<=16*5:=Nat.mul_le_mul (by omega) hk;omega
 have hmm:=fun h (hm:h ∈ mR p.see sts k a)=>fH hm (fun st hs=>by rw [hrun st hs]; omega);have hms:=fun h (hm:h ∈ mR p.see sts k a)=>rX.1 hm;generalize mR p.see sts k a=hs at *;generalize (List.range a).flatMap (pL p sts k)= L at *;simp only [ZA,ZB,ZC,ZD,ZE,↓reduceIte,ZF,ZG,ZH,ZI,ZJ,reduceCtorEq,ZK,↓zU,↓zD,zV,zT,zW,hd,hw2];refine .go (cr h73) ?_;simp only [ZA,ZB,ZC,ZD,ZE,↓reduceIte,ZF,ZG,ZH,ZI,ZJ,reduceCtorEq,ZK,↓zU,↓zD,zV,zT,zW,wH]
 refine xV (fun j:Nat=>[(35,.int .i64 j),(34,.int .i64 hs.length),(33,.sl 1 (rlu hs)),(26,.int .i64 a),(25,.int .i64 p.see.length),(9,.int .i64 a),(8,xG 1 3 (chR (L++(hs.take j).map (aYy p sts a)))),(7,.ptr [.int .i64 p.F,.sl 1 (us p.init),.sl 1 (us p.see),.sl 1 (mvR p.moves),.sl 1 (cdR p.code),.sl 1 (rr sts)]),(1,.int .i64 ((k+1:Nat):Int))])
  (fun j=>⟨2,xE 1 3 (chR (L++(hs.take j).map (aYy p sts a)))⟩) (fun j=>j<=hs.length) (fun j=>hs.length-j) 0 (Nat.zero_le _) ?_ ?_
 ·rw [List.take_zero,List.map_nil,List.append_nil]
  (refine xM.same ?_; simp only [xR,Fr.get,↓reduceIte,reduceIte,Nat.reduceEqDiff,reduceCtorEq,D.int.injEq,D.bool.injEq,D.sl.injEq,and_true,true_and,and_self])
  rfl
 intro j hj;refine xQ mixed ?_;by_cases hjl:j<hs.length
 case neg=>
  have hd2:¬ ((j:Int)<(hs.length:Int)):=by omega
  rw [List.take_of_length_le (by omega),<- hsu];simp only [ZA,ZB,ZC,ZD,ZE,↓reduceIte,ZF,ZG,ZH,ZI,ZJ,reduceCtorEq,ZK,↓zU,↓zD,zV,zT,zW,hd2];refine⟨a+1,by omega,?_,by omega⟩
  (refine xM.same ?_; simp only [xR,Fr.get,↓reduceIte,reduceIte,Nat.reduceEqDiff,reduceCtorEq,D.int.injEq,D.bool.injEq,D.sl.injEq,and_true,true_and,and_self])
  exact wN (by omega)
 have hd2:((j:Int)<(hs.length:Int)):=by omega
 have hgh:=sZ hs hjl;have hmem:=xN (d:=[]) hjl;obtain⟨m1,m2,m3,m4⟩:=hmm _ hmem;obtain⟨r0,t0,hr0,ht0,e0⟩:=hms _ hmem;have hub:=aDx e0;have hsj:(hs.take (j+1)).map (aYy p sts a)= (hs.take j).map (aYy p sts a)++ [aYy p sts a (hs.getD j [])]:=by rw [yD (d:=[]) hjl,List.map_append]; rfl
 have hlj:(L++(hs.take j).map (aYy p sts a)).length=L.length+j:=by rw [List.length_append,List.length_map,List.length_take]; omega
 have hfirst:=fun r=>@aZ8 p.see sts a r (hs.getD j []);have hch:aYy p sts a (hs.getD j [])= ⟨a,bvL (hs.getD j []),presA p sts ((hs.getD j []).length-1) a (jV p.see sts a (hs.getD j []))⟩:=rfl;rw [hch] at hsj;have hidx:L++(hs.take (j+1)).map (aYy p sts a)= (L++(hs.take j).map (aYy p sts a))++ [⟨a,bvL (hs.getD j []),presA p sts ((hs.getD j []).length-1) a (jV p.see sts a (hs.getD j []))⟩]:=by rw [hsj,List.append_assoc]
 generalize L++(hs.take j).map (aYy p sts a)= LL at *;generalize hs.getD j []=h at *;have hwt:IntKind.i64.wrap ((h.length:Int)-1)= ((h.length-1:Nat):Int):=by rw [wrap_i64 (by omega)]; omega
 generalize ht:h.length-1=t at *;have htk:t<=k:=by omega
 simp only [ZA,ZB,ZC,ZD,ZE,↓reduceIte,ZF,ZG,ZH,ZI,ZJ,reduceCtorEq,ZK,↓zU,↓zD,zV,zT,zW,hd2,wH,hgh,xF,hwt]
 (repeat refine sd ?_)
 refine xV (fun r:Nat=>[(13,.int .i64 r),(12,.int .i64 t),(11,.sl 1 (rows .u64 h)),(35,.int .i64 j),(34,.int .i64 hs.length),(33,.sl 1 (rlu hs)),(26,.int .i64 a),(25,.int .i64 p.see.length),(9,.int .i64 a),(8,xG 1 3 (chR LL)),(7,.ptr [.int .i64 p.F,.sl 1 (us p.init),.sl 1 (us p.see),.sl 1 (mvR p.moves),.sl 1 (cdR p.code),.sl 1 (rr sts)]),(1,.int .i64 ((k+1:Nat):Int))])
  (fun _=>⟨2,xE 1 3 (chR LL)⟩) (fun r=>r<=jV p.see sts a h/\∀ i,i<r->rN p.see sts a (i,t)≠ h) (fun r=>sts.length-r) 0 ⟨Nat.zero_le _,fun i hi=>absurd hi (Nat.not_lt_zero _)⟩ ?_ ?_
 ·(refine xM.same ?_; simp only [xR,Fr.get,↓reduceIte,reduceIte,Nat.reduceEqDiff,reduceCtorEq,D.int.injEq,D.bool.injEq,D.sl.injEq,and_true,true_and,and_self])
  rfl
 intro r ⟨hr1,hr2⟩;refine xQ mixed ?_;have h75:=hh a r t hal (by omega) htk;have heq:=cI (rN p.see sts a (r,t)) h;have hff:=hfirst r (by omega);by_cases hq:rN p.see sts a (r,t)= h
 case neg=>
  have hrlt:r<jV p.see sts a h:=by
   rcases Nat.lt_or_ge r (jV p.see sts a h) with h1 | h1
   ·exact h1
   ·exact absurd (by rw [show r=jV p.see sts a h by omega]; exact m2) hq
  have hq2:∀ i,i=r->rN p.see sts a (i,t)≠ h:=fun i e=>e ▸ hq;rw [decide_eq_false hq] at heq;generalize rN p.see sts a (r,t)= x at *;simp only [ZA,ZB,ZC,ZD,ZE,↓reduceIte,ZF,ZG,ZH,ZI,ZJ,reduceCtorEq,ZK,↓zU,↓zD,zV,zT,zW];refine .go (cr h75) ?_;simp only [ZA,ZB,ZC,ZD,ZE,↓reduceIte,ZF,ZG,ZH,ZI,ZJ,reduceCtorEq,ZK,↓zU,↓zD,zV,zT,zW];refine .go (cr heq) ?_;simp only [ZA,ZB,ZC,ZD,ZE,↓reduceIte,ZF,ZG,ZH,ZI,ZJ,reduceCtorEq,ZK,↓zU,↓zD,zV,zT,zW]
  refine⟨r+1,⟨by omega,fun i hi=>?_⟩,?_,by omega⟩
  ·by_cases e:i=r
   ·exact hq2 i e
   ·exact hr2 i (by omega)
  (refine xM.same ?_; simp only [xR,Fr.get,↓reduceIte,reduceIte,Nat.reduceEqDiff,reduceCtorEq,D.int.injEq,D.bool.injEq,D.sl.injEq,and_true,true_and,and_self])
  exact wN (by omega)
 rw [decide_eq_true hq] at heq;have hro:=hff hq hr2;have hrs:r<sts.length:=by omega
 rw [hro] at hidx;have h76:=hpm t htk;have hmg:=fT (presM p sts t) (show a<_ by rw [nL]; exact hal);have hrow:(presM p sts t).getD a []=(List.range sts.length).map fun w=>presA p sts t a w:=by simp [presM,List.getD,hal]
 rw [hrow] at hmg;have hgw:=yL .i64 ((List.range sts.length).map fun w=>presA p sts t a w) (show r<_ by simpa using hrs);have hgw2:((List.range sts.length).map fun w=>presA p sts t a w).getD r 0=presA p sts t a r:=by simp [List.getD,hrs]
 rw [hgw2] at hgw;have hml:=nL p sts t;have hrl2:((List.range sts.length).map fun w=>presA p sts t a w).length=sts.length:=by simp
 have hda:((a:Int)<(p.see.length:Int)):=by omega
 have hdr:((r:Int)<(sts.length:Int)):=by omega
 generalize (List.range sts.length).map (fun w=>presA p sts t a w)= row at *;generalize presA p sts t a r=z at *;generalize presM p sts t=M at *;generalize rN p.see sts a (r,t)= x at *;simp only [ZA,ZB,ZC,ZD,ZE,↓reduceIte,ZF,ZG,ZH,ZI,ZJ,reduceCtorEq,ZK,↓zU,↓zD,zV,zT,zW];refine .go (cr h75) ?_;simp only [ZA,ZB,ZC,ZD,ZE,↓reduceIte,ZF,ZG,ZH,ZI,ZJ,reduceCtorEq,ZK,↓zU,↓zD,zV,zT,zW];refine .go (cr heq) ?_;simp only [ZA,ZB,ZC,ZD,ZE,↓reduceIte,ZF,ZG,ZH,ZI,ZJ,reduceCtorEq,ZK,↓zU,↓zD,zV,zT,zW];refine .go (cr h76) ?_;simp only [ZA,ZB,ZC,ZD,ZE,↓reduceIte,ZF,ZG,ZH,ZI,ZJ,reduceCtorEq,ZK,↓zU,↓zD,zV,zT,zW,vL,hml,hda,hmg,xF,hrl2,hdr,hgw,wX,hlj]
 (repeat refine sd ?_)
 refine⟨j+1,by omega,?_,by omega⟩;rw [hidx,<- hub]
 (refine xM.ren [(1,2)] [1] (by simp) (by simp) (by decide) ?_; simp only [yO,vwL,vw,vwF,sw,St.get,St.look,Fr.get,↓reduceIte,reduceIte,Nat.reduceEqDiff,Nat.reduceAdd,Nat.reduceBEq,Nat.reduceLT,Nat.reduceLeDiff,exists_eq_left',ne_eq,reduceCtorEq,zR,aJs,aI])
 exact wN (by omega)
end Go.Pd

/- Part LF. -/
namespace Go.Pd
open Go Go.Proofs
open Int renaming reduceToNat -> ZA, reduceLT -> ZB, reduceLE -> ZC, reduceBEq -> ZD, reduceBNe -> ZE
open Nat renaming reduceEqDiff -> ZF, reduceAdd -> ZG, reduceBEq -> ZH, reduceLT -> ZI, reduceLeDiff -> ZJ, reduceMul -> ZK
open Rs Fm Ru Te Kb
theorem aUi {σ:St} {g:FuncId} {caps:List D} {f:ChA->Bool} {c:List (ChA)} (hl:c.length<=2000000) (h:∀ x ∈ c,xX Tryz.prog g ([.agg x.row]++caps) σ (.bool (f x)) σ):xX Tryz.prog 136 [.sl 3 (chR c),.fn g caps] σ (.int .i64 (ixF f c 0)) σ:=by
 refine xX.go_fn mixed Tryz.func136 bYz (by simp) fun hf=>?_;simp only [ZA,ZB,ZC,ZD,ZE,↓reduceIte,ZF,ZG,ZH,ZI,ZJ,reduceCtorEq,ZK,↓zU,↓zD,zV,zT,zW,wX]
 refine xV (fun k:Nat=>[(8,.int .i64 k),(7,.int .i64 c.length),(1,.fn g caps),(0,.sl 3 (chR c))]) (fun _=>σ) (fun k=>k<=c.length/\ixF f c 0=ixF f (c.drop k) k) (fun k=>c.length-k) 0 ⟨Nat.zero_le _,rfl⟩ ?_ ?_
 ·(refine xM.same ?_; simp [xR,Fr.get])
 intro k ⟨hk,hi⟩;refine xQ mixed ?_
 by_cases hh:k<c.length
 ·have hd:((k:Int)<(c.length:Int)):=by omega
  have hg:=dN c hh;unfold ChA.row at hg;have hcall:=h _ (xN (d:=ch0) hh);unfold ChA.row at hcall;rw [drop_cons (d:=ch0) hh,ixF] at hi;simp only [ZA,ZB,ZC,ZD,ZE,↓reduceIte,ZF,ZG,ZH,ZI,ZJ,reduceCtorEq,ZK,↓zU,↓zD,zV,zT,zW,hd,wX,hg]
  (repeat refine sd ?_)
  refine .go hcall ?_
  cases hx:f (c.getD k ch0)
  ·rw [hx,if_neg (by simp)] at hi;simp only [ZA,ZB,ZC,ZD,ZE,↓reduceIte,ZF,ZG,ZH,ZI,ZJ,reduceCtorEq,ZK,↓zU,↓zD,zV,zT,zW];refine⟨k+1,⟨by omega,hi⟩,?_,by omega⟩
   (refine xM.same ?_; simp only [xR,Fr.get,↓reduceIte,reduceIte,Nat.reduceEqDiff,reduceCtorEq,D.int.injEq,D.bool.injEq,D.sl.injEq,and_true,true_and,and_self])
   exact wrap_i64 (by omega)
  ·rw [hx,if_pos rfl] at hi;simp only [ZA,ZB,ZC,ZD,ZE,↓reduceIte,ZF,ZG,ZH,ZI,ZJ,reduceCtorEq,ZK,↓zU,↓zD,zV,zT,zW];rw [hi];exact .same
 ·have hd:¬ ((k:Int)<(c.length:Int)):=by omega
  rw [List.drop_eq_nil_of_le (by omega),ixF] at hi;simp only [ZA,ZB,ZC,ZD,ZE,↓reduceIte,ZF,ZG,ZH,ZI,ZJ,reduceCtorEq,ZK,↓zU,↓zD,zV,zT,zW,hd];rw [hi];exact .same
theorem aWn {σ:St} {g:FuncId} {caps:List D} {f:ChA->Bool} {c:List (ChA)} (hl:c.length<=2000000) (h:∀ x ∈ c,xX Tryz.prog g ([.agg x.row]++caps) σ (.bool (f x)) σ):xX Tryz.prog 195 [.sl 3 (chR c),.fn g caps] σ (.bool (c.any f)) σ:=by
 refine xX.go_fn mixed Tryz.func195 bYc (by simp) fun hf=>?_;simp only [ZA,ZB,ZC,ZD,ZE,↓reduceIte,ZF,ZG,ZH,ZI,ZJ,reduceCtorEq,ZK,↓zU,↓zD,zV,zT,zW];refine .go (aUi hl h) ?_;have hx:=oX (f:=f) (c:=c) (i:=0) (Int.le_refl 0)
 cases ha:c.any f
 ·have h1:¬ 0<=ixF f c 0:=fun y=>by rw [hx.1 y] at ha; cases ha
  simp only [ZA,ZB,ZC,ZD,ZE,↓reduceIte,ZF,ZG,ZH,ZI,ZJ,reduceCtorEq,ZK,↓zU,↓zD,zV,zT,zW,h1];exact .same
 ·have h1:=hx.2 ha;simp only [ZA,ZB,ZC,ZD,ZE,↓reduceIte,ZF,ZG,ZH,ZI,ZJ,reduceCtorEq,ZK,↓zU,↓zD,zV,zT,zW,h1];exact .same
namespace Kb
def aTi (p:PrA) (c:ChA):Bool:=decide (c.ag<0) || decide ((p.see.length:Int)<=c.ag) || decide (c.seen.length=0) || decide (c.mv < -1) || decide ((p.moves.length:Int)<=c.mv)
def aE7 (p:PrA) (c:ChA):Bool:=c.seen.any fun s=>!decide (s &&& ~~~(p.see.getD c.ag.toNat 0)= 0#64)
def pF (ag:Int) (h:List (BitVec 64)) (d:ChA):Bool:=decide (d.ag=ag)&& decide (d.seen=h)
def chE (p:PrA) (l:List ChA) (i:Nat):Int:=if aTi p (l.getD i ch0)= true then 3 else if aE7 p (l.getD i ch0)= true then 3 else if (l.take i).any (pF (l.getD i ch0).ag (l.getD i ch0).seen)= true then 7 else 0
def yB (p:PrA) (l:List ChA):Int:=wS (chE p l) (List.range l.length)
structure fO (l : List ChA) : Prop where
 len:l.length<=2000000
 seen:∀ c ∈ l,c.seen.length<=1000
theorem aS5 {f:Nat->Int} {n k:Nat} (h:k<=n) (hz:∀ i,i<k->f i=0):k<n->f k≠0->wS f (List.range n)= f k:=by
 intro hk hf
 have key:∀ (m s:Nat),s<=k->k<s+m->(∀ i,s<=i->i<k->f i=0)->wS f (List.range' s m)= f k:=by
  intro m
  induction m with
  | zero=>intro s h1 h2; omega
  | succ m ih=>
   intro s h1 h2 h3;rw [List.range'_succ];unfold wS
   by_cases e:s=k
   ·subst e; rw [if_pos hf]
   ·rw [if_neg (by simpa using h3 s (Nat.le_refl _) (by omega))];exact ih (s+1) (by omega) (by omega) fun i hi hi2=>h3 i (by omega) hi2
 rw [List.range_eq_range'];exact key n 0 (Nat.zero_le _) (by omega) fun i _ hi=>hz i hi
theorem aNn {f:Nat->Int} {n:Nat} (hz:∀ i,i<n->f i=0):wS f (List.range n)= 0:=uU.2 fun i hi=>hz i (List.mem_range.1 hi)
theorem aPy {a b:List (BitVec 64)}:a.map ui=b.map ui ↔ a=b:=⟨fun h=>(List.map_inj_right fun x y=>aQa.1).1 h,fun h=>by rw [h]⟩
end Kb
theorem aUw (a b:List (BitVec 64)):yX Tryz.prog 74 [.sl 1 (us a),.sl 1 (us b)] (.bool (decide (a=b))):=by
 have h:=aPa (a:=a) (b:=b)
 rwa [show decide (a.map ui=b.map ui)= decide (a=b) by rw [Bool.eq_iff_iff,decide_eq_true_eq,decide_eq_true_eq,aPy]] at h
theorem aD9 {p:PrA} {c:ChA} {nx k:Nat} {objs:List (Nat × Ob)} (h0:St.look objs 0=some ⟨5,[p.cells]⟩) (h1:St.look objs k=some ⟨3,[c.row]⟩) (hc:0<=c.ag/\c.ag<p.see.length) (s:BitVec 64) :
  xX Tryz.prog 194 ([.int .u64 (ui s)] ++ [.ref 0 5 0 0,.ref k 3 0 0]) ⟨nx,objs⟩ (.bool (!decide (s &&& ~~~(p.see.getD c.ag.toNat 0)= 0#64))) ⟨nx,objs⟩:=by
 unfold PrA.cells at h0;unfold ChA.row at h1;have hg:=zH p.see (show c.ag.toNat<p.see.length by omega);generalize p.see.getD c.ag.toNat 0=m at hg ⊢;have hlt:(c.ag<(p.see.length:Int)):=hc.2;refine xX.go_fn mixed Tryz.func194 bYd (by simp) fun hf=>?_;simp only [ZA,ZB,ZC,ZD,ZE,↓reduceIte,ZF,ZG,ZH,ZI,ZJ,reduceCtorEq,ZK,↓zU,↓zD,zV,zT,zW,h0,h1,xT,hlt,hg]
 (repeat refine sd ?_)
 by_cases hx:s &&& ~~~m=0#64
 ·have ex:(s &&& ~~~m != 0#64)= false:=by simpa using hx
  rw [decide_eq_true hx];simp only [ZA,ZB,ZC,ZD,ZE,↓reduceIte,ZF,ZG,ZH,ZI,ZJ,reduceCtorEq,ZK,↓zU,↓zD,zV,zT,zW,ex]
  (repeat refine sd ?_)
  exact .same
 ·have ex:(s &&& ~~~m != 0#64)= true:=by simpa using hx
  rw [decide_eq_false hx];simp only [ZA,ZB,ZC,ZD,ZE,↓reduceIte,ZF,ZG,ZH,ZI,ZJ,reduceCtorEq,ZK,↓zU,↓zD,zV,zT,zW,ex]
  (repeat refine sd ?_)
  exact .same
theorem aH6 {c:ChA} {nx k:Nat} {objs:List (Nat × Ob)} (h1:St.look objs k=some ⟨3,[c.row]⟩) (d:ChA) :
  xX Tryz.prog 196 ([.agg d.row] ++ [.ref k 3 0 0]) ⟨nx,objs⟩ (.bool (pF c.ag c.seen d)) ⟨nx,objs⟩:=by
 refine xX.unders ⟨_,Tryz.func196,by kernel_rfl,by kernel_rfl⟩ fun hu=>xX.clean ?_;have hk:=(hu k _ h1).1;simp only at hk;have y1:¬ nx=k:=by omega
 have he:=aUw d.seen c.seen;unfold ChA.row at h1 ⊢;unfold pF;refine xX.go_fn mixed Tryz.func196 bYb (by simp) fun hf=>?_
 by_cases ha:d.ag=c.ag
 ·have ha':(d.ag==c.ag)= true:=by simpa using ha
  rw [decide_eq_true ha,Bool.true_and];simp only [ZA,ZB,ZC,ZD,ZE,↓reduceIte,ZF,ZG,ZH,ZI,ZJ,reduceCtorEq,ZK,↓zU,↓zD,zV,zT,zW,h1,y1,ha']
  (repeat refine sd ?_)
  refine .go (cr he) ?_;simp only [ZA,ZB,ZC,ZD,ZE,↓reduceIte,ZF,ZG,ZH,ZI,ZJ,reduceCtorEq,ZK,↓zU,↓zD,zV,zT,zW];exact .gone hu (aMs hu _ _) (by simp only [vw])
 ·have ha':(d.ag==c.ag)= false:=by simpa using ha
  rw [decide_eq_false ha,Bool.false_and];simp only [ZA,ZB,ZC,ZD,ZE,↓reduceIte,ZF,ZG,ZH,ZI,ZJ,reduceCtorEq,ZK,↓zU,↓zD,zV,zT,zW,h1,y1,ha']
  (repeat refine sd ?_)
  exact .gone hu (aMs hu _ _) (by simp only [vw])
theorem aNu {a:Int} {h:List (BitVec 64)} {nx k k2:Nat} {objs:List (Nat × Ob)} (h1:St.look objs k=some ⟨1,[[.int .i64 a]]⟩) (h2:St.look objs k2=some ⟨1,[[.sl 1 (us h)]]⟩) (d:ChA) :
  xX Tryz.prog 137 ([.agg d.row] ++ [.ref k 1 0 0,.ref k2 1 0 0]) ⟨nx,objs⟩ (.bool (pF a h d)) ⟨nx,objs⟩:=by
 refine xX.unders ⟨_,Tryz.func137,by kernel_rfl,by kernel_rfl⟩ fun hu=>xX.clean ?_;have hk:=(hu k _ h1).1;have hk2:=(hu k2 _ h2).1;simp only at hk hk2;have y1:¬ nx=k:=by omega
 have y2:¬ nx=k2:=by omega
 have he:=aUw d.seen h;unfold ChA.row;unfold pF;refine xX.go_fn mixed Tryz.func137 bYy (by simp) fun hf=>?_
 by_cases ha:d.ag=a
 ·have ha':(d.ag==a)= true:=by simpa using ha
  rw [decide_eq_true ha,Bool.true_and];simp only [ZA,ZB,ZC,ZD,ZE,↓reduceIte,ZF,ZG,ZH,ZI,ZJ,reduceCtorEq,ZK,↓zU,↓zD,zV,zT,zW,h1,h2,y1,y2,ha']
  (repeat refine sd ?_)
  refine .go (cr he) ?_;simp only [ZA,ZB,ZC,ZD,ZE,↓reduceIte,ZF,ZG,ZH,ZI,ZJ,reduceCtorEq,ZK,↓zU,↓zD,zV,zT,zW];exact .gone hu (aMs hu _ _) (by simp only [vw])
 ·have ha':(d.ag==a)= false:=by simpa using ha
  rw [decide_eq_false ha,Bool.false_and];simp only [ZA,ZB,ZC,ZD,ZE,↓reduceIte,ZF,ZG,ZH,ZI,ZJ,reduceCtorEq,ZK,↓zU,↓zD,zV,zT,zW,h1,h2,y1,y2,ha']
  (repeat refine sd ?_)
  exact .gone hu (aMs hu _ _) (by simp only [vw])
theorem aRd (p:PrA) (l:List ChA) (sm:fO l):yX Tryz.prog 134 [p.d,.sl 3 (chR l)] (.int .i64 (yB p l)):=by
 have hD:p.d = .agg [.int .i64 p.F,.sl 1 (us p.init),.sl 1 (us p.see),.sl 1 (mvR p.moves),.sl 1 (cdR p.code)]:=rfl;have hll:=sm.len;rw [hD];refine xX.go_fn mixed Tryz.func134 bY0 (by simp) fun hf=>?_;simp only [ZA,ZB,ZC,ZD,ZE,↓reduceIte,ZF,ZG,ZH,ZI,ZJ,reduceCtorEq,ZK,↓zU,↓zD,zV,zT,zW,wX]
 (repeat refine sd ?_)
 refine xV (fun i:Nat=>[(9,.int .i64 i),(8,.int .i64 l.length),(7,.sl 3 (chR l)),(2,.ref 0 5 0 0),(1,.sl 3 (chR l))]) (fun _=>⟨1,[(0,⟨5,[p.cells]⟩)]⟩)
  (fun i=>i<=l.length/\∀ j,j<i->chE p l j=0) (fun i=>l.length-i) 0 ⟨Nat.zero_le _,fun j hj=>absurd hj (Nat.not_lt_zero _)⟩ ?_ ?_
 ·unfold PrA.cells; (refine xM.same ?_; simp [xR,Fr.get])
 intro i ⟨hi,hz⟩;refine xQ mixed ?_;by_cases hil:i<l.length
 case neg=>
  have hd:¬ ((i:Int)<(l.length:Int)):=by omega
  rw [show yB p l=0 from aNn fun j hj=>hz j (by omega)];unfold PrA.cells;simp only [ZA,ZB,ZC,ZD,ZE,↓reduceIte,ZF,ZG,ZH,ZI,ZJ,reduceCtorEq,ZK,↓zU,↓zD,zV,zT,zW,hd];exact .drop (by simp) (by simp [vw])
 have hd:((i:Int)<(l.length:Int)):=by omega
 have hg:=dN l hil;have hend:∀ e,chE p l i=e->e≠0->yB p l=e:=fun e h1 h2=>by rw [<- h1]; exact aS5 hi hz hil (by rw [h1]; exact h2)
 have hE:chE p l i=if aTi p (l.getD i ch0)= true then 3 else if aE7 p (l.getD i ch0)= true then 3 else if (l.take i).any (pF (l.getD i ch0).ag (l.getD i ch0).seen)= true then 7 else 0:=rfl;have hsm:=sm.seen _ (xN (d:=ch0) hil);generalize l.getD i ch0=c at hg hE hsm;unfold ChA.row at hg;unfold PrA.cells;have bad:aTi p c=true->yB p l=3:=fun h=>hend 3 (by rw [hE,if_pos h]) (by decide)
 by_cases c1:c.ag<0
 ·rw [bad (by unfold aTi; simp [c1])];simp only [ZA,ZB,ZC,ZD,ZE,↓reduceIte,ZF,ZG,ZH,ZI,ZJ,reduceCtorEq,ZK,↓zU,↓zD,zV,zT,zW,hd,wX,hg,c1]
  (repeat refine sd ?_)
  exact .drop (by simp) (by simp [vw])
 by_cases c2:(p.see.length:Int)<=c.ag
 ·rw [bad (by unfold aTi; simp [c2])];simp only [ZA,ZB,ZC,ZD,ZE,↓reduceIte,ZF,ZG,ZH,ZI,ZJ,reduceCtorEq,ZK,↓zU,↓zD,zV,zT,zW,hd,wX,hg,c1,xT,c2]
  (repeat refine sd ?_)
  exact .drop (by simp) (by simp [vw])
 by_cases c3:c.seen.length=0
 ·have c3':((c.seen.length:Int)== 0)= true:=by rw [c3]; rfl
  rw [bad (by unfold aTi; simp [c3])];simp only [ZA,ZB,ZC,ZD,ZE,↓reduceIte,ZF,ZG,ZH,ZI,ZJ,reduceCtorEq,ZK,↓zU,↓zD,zV,zT,zW,hd,wX,hg,c1,xT,c2,c3']
  (repeat refine sd ?_)
  exact .drop (by simp) (by simp [vw])
 have c3':((c.seen.length:Int)== 0)= false:=by rw [beq_eq_false_iff_ne]; omega
 by_cases c4:c.mv < -1
 ·rw [bad (by unfold aTi; simp [c4])];simp only [ZA,ZB,ZC,ZD,ZE,↓reduceIte,ZF,ZG,ZH,ZI,ZJ,reduceCtorEq,ZK,↓zU,↓zD,zV,zT,zW,hd,wX,hg,c1,xT,c2,c3',c4]
  (repeat refine sd ?_)
  exact .drop (by simp) (by simp [vw])
 by_cases c5:(p.moves.length:Int)<=c.mv
 ·rw [bad (by unfold aTi; simp [c5])];simp only [ZA,ZB,ZC,ZD,ZE,↓reduceIte,ZF,ZG,ZH,ZI,ZJ,reduceCtorEq,ZK,↓zU,↓zD,zV,zT,zW,hd,wX,hg,c1,xT,c2,c3',c4,xA,c5]
  (repeat refine sd ?_)
  exact .drop (by simp) (by simp [vw])
 have hb:aTi p c=false:=by unfold aTi; simp [c1,c2,c3,c4,c5]
 rw [hb,if_neg (by simp)] at hE;have hstr:=lQ (σ:=⟨2,[(1,⟨3,[c.row]⟩),(0,⟨5,[p.cells]⟩)]⟩) (g:=194) (caps:=[.ref 0 5 0 0,.ref 1 3 0 0]) (c:=c.seen) (f:=fun s=>!decide (s &&& ~~~(p.see.getD c.ag.toNat 0)= 0#64)) hsm fun s _=>aD9 rfl rfl ⟨by omega,by omega⟩ s;have hsame:=aWn (σ:=⟨2,[(1,⟨3,[c.row]⟩),(0,⟨5,[p.cells]⟩)]⟩) (g:=196) (caps:=[.ref 1 3 0 0]) (c:=l.take i) (f:=pF c.ag c.seen) (by rw [List.length_take]; omega) fun d _=>aH6 rfl d;have hct:chR (l.take i)= (chR l).take i:=by simp [chR,List.map_take]
 rw [hct] at hsame;unfold PrA.cells at hstr hsame;unfold ChA.row at hstr hsame;have hsE:(c.seen.any fun s=>!decide (s &&& ~~~(p.see.getD c.ag.toNat 0)= 0#64))= aE7 p c:=rfl;rw [hsE] at hstr;simp only [ZA,ZB,ZC,ZD,ZE,↓reduceIte,ZF,ZG,ZH,ZI,ZJ,reduceCtorEq,ZK,↓zU,↓zD,zV,zT,zW,hd,wX,hg,c1,xT,c2,c3',c4,xA,c5]
 (repeat refine sd ?_)
 refine .go hstr ?_
 cases hs:aE7 p c with
 | true=>
  rw [hs,if_pos rfl] at hE;rw [hend 3 hE (by decide)];simp only [ZA,ZB,ZC,ZD,ZE,↓reduceIte,ZF,ZG,ZH,ZI,ZJ,reduceCtorEq,ZK,↓zU,↓zD,zV,zT,zW];exact .drop (by simp) (by simp [vw])
 | false=>
  rw [hs,if_neg (by simp)] at hE;simp only [ZA,ZB,ZC,ZD,ZE,↓reduceIte,ZF,ZG,ZH,ZI,ZJ,reduceCtorEq,ZK,↓zU,↓zD,zV,zT,zW];refine⟨0,(i:Int),rfl,rfl,by omega,by omega,by rw [wX]; omega,?_⟩;simp only [Int.toNat_natCast,Int.toNat_zero,List.drop_zero];refine .go hsame ?_
  cases hm:(l.take i).any (pF c.ag c.seen) with
  | true=>
   rw [hm,if_pos rfl] at hE;rw [hend 7 hE (by decide)];simp only [ZA,ZB,ZC,ZD,ZE,↓reduceIte,ZF,ZG,ZH,ZI,ZJ,reduceCtorEq,ZK,↓zU,↓zD,zV,zT,zW];exact .drop (by simp) (by simp [vw])
  | false=>
   rw [hm,if_neg (by simp)] at hE;simp only [ZA,ZB,ZC,ZD,ZE,↓reduceIte,ZF,ZG,ZH,ZI,ZJ,reduceCtorEq,ZK,↓zU,↓zD,zV,zT,zW]
   refine⟨i+1,⟨by omega,fun j hj=>?_⟩,?_,by omega⟩
   ·by_cases e:j=i
    ·rw [e]; exact hE
    ·exact hz j (by omega)
   (refine xM.ren [] [0] (by simp) (by simp) (by decide) ?_; simp only [yO,vwL,vw,vwF,sw,St.get,St.look,Fr.get,↓reduceIte,reduceIte,Nat.reduceEqDiff,Nat.reduceAdd,Nat.reduceBEq,Nat.reduceLT,Nat.reduceLeDiff,exists_eq_left',ne_eq,reduceCtorEq,zR])
   exact wN (by omega)
end Go.Pd

/- Part LG. -/
namespace Go.Pd
open Go Go.Proofs
open Int renaming reduceToNat -> ZA, reduceLT -> ZB, reduceLE -> ZC, reduceBEq -> ZD, reduceBNe -> ZE
open Nat renaming reduceEqDiff -> ZF, reduceAdd -> ZG, reduceBEq -> ZH, reduceLT -> ZI, reduceLeDiff -> ZJ, reduceMul -> ZK
open Rs Fm Ru Te Kb
namespace Kb
def fW (l:List ChA) (a:Nat) (h:List (BitVec 64)):Int:=ixF (pF a h) l 0
def mvC (l:List ChA) (a:Nat) (h:List (BitVec 64)):Int:=(l.getD (fW l a h).toNat ch0).mv
def hisT (p:PrA) (sts:List (List (BitVec 64))) (t a r:Nat):List (BitVec 64):=vK p.see (stR sts r) a t
def mvG (p:PrA) (l:List ChA) (sts:List (List (BitVec 64))) (t a n:Nat):List Int:=(List.range n).map fun r=>mvC l a (hisT p sts t a r)
def chsM (p:PrA) (l:List ChA) (sts:List (List (BitVec 64))) (t:Nat):List (List Int):=(List.range p.see.length).map fun a=>mvG p l sts t a sts.length
def chsB (p:PrA) (l:List ChA) (sts:List (List (BitVec 64))) (t:Nat):Bool:=(List.range p.see.length).all fun a=>(List.range sts.length).all fun r=>decide (0<=fW l a (hisT p sts t a r))
theorem iR {α:Type} {f:α->Bool}:∀ {c:List α} {i:Int},0<=i->(ixF f c i = -1\/(i<=ixF f c i/\ixF f c i<i+c.length))
 | [],i,_=>.inl rfl
 | x :: r,i,hi=>by
  unfold ixF
  by_cases h:f x=true
  ·rw [if_pos h]; exact .inr ⟨Int.le_refl _,by simp; omega⟩
  ·rw [if_neg h]
   rcases iR (c:=r) (i:=i+1) (by omega) with h1 | h1
   ·exact .inl h1
   ·exact .inr ⟨by omega,by simp; omega⟩
theorem aZr {l:List ChA} {a:Nat} {h:List (BitVec 64)} (h0:0<=fW l a h):(fW l a h).toNat<l.length/\fW l a h<l.length:=by
 rcases iR (f:=pF a h) (c:=l) (i:=0) (Int.le_refl 0) with h1 | h1
 ·unfold fW at h0; omega
 ·unfold fW at h0 ⊢; omega
structure IG (E : Nat -> List (List D)) (A n0 : Nat) (x : QP) : Prop where
 ha:x.a<=A
 hn:n0<=x.nx
 kO:x.kO<x.nx\/x.a=0
 kl:x.ks.length=x.a
 ks:∀ k ∈ x.ks,k<x.nx
 nd:x.ks.Nodup
 no:x.a≠0->x.kO ∉ x.ks
 nst:x.a≠0->Nst x.objs x.kO x.ks ((List.range x.a).map E)
theorem IG.step {E:Nat->List (List D)} {A n0:Nat} {x:QP} (h:IG E A n0 x) (hal:x.a<A) {kI kN n2:Nat} {ob:List (Nat × Ob)} (h1:x.nx<=kI/\kI<n2) (h2:x.nx<=kN/\kN<n2) (hne:kI≠kN)
  (hout:St.look ob kN=some ⟨1,sV (x.ks ++ [kI]) ((List.range x.a).map E ++ [E x.a])⟩) (hnew:St.look ob kI=some ⟨1,E x.a⟩) (hold:∀ k,k<x.nx->(x.a=0\/k≠x.kO)->St.look ob k=St.look x.objs k) :
  IG E A n0 ⟨x.a+1,n2,kN,x.ks ++ [kI],ob⟩:=by
 have hn:=h.hn
 refine⟨by show x.a+1<=_; omega,by show n0<=n2; omega,.inl h2.2,by simp [h.kl],fun k hk=>?_,?_,fun _ hk=>?_,fun _=>?_⟩
 ·show k<n2
  rcases List.mem_append.1 hk with hk | hk
  ·have:=h.ks k hk; omega
  ·rw [List.mem_singleton.1 hk]; exact h1.2
 ·refine List.nodup_append.2 ⟨h.nd,by simp,fun k hk j hj e=>?_⟩;have:=h.ks k hk;rw [List.mem_singleton.1 hj] at e;omega
 ·have hk:kN ∈ x.ks ++ [kI]:=hk
  rcases List.mem_append.1 hk with hk | hk
  ·have:=h.ks _ hk; omega
  ·exact hne (List.mem_singleton.1 hk).symm
 ·show Nst ob kN (x.ks ++ [kI]) ((List.range (x.a+1)).map E);rw [List.range_succ,List.map_append];have h0:(List.range x.a).map E ≠ []->x.a≠0:=fun c e=>c (by rw [e]; rfl);refine Nst.grow (fun c=>h.nst (h0 c)) (by rw [h.kl]; simp) hout hnew fun k hk=>?_;refine hold k (h.ks k hk) ?_
  by_cases c:x.a=0
  ·exact .inl c
  ·exact .inr fun e=>h.no c (e ▸ hk)
end Kb
theorem mT.tup1 {n0:Nat} {σ1 σ':St} {d1 d:D} (h:mT n0 σ1 d1 σ' d) (b:Bool):mT n0 σ1 (.tup [d1,.bool b]) σ' (.tup [d,.bool b]):=by
 rcases h with ⟨rfl,rfl⟩ | ⟨ρ,r1,r2,r3,r4,r5⟩
 ·exact .inl ⟨rfl,rfl⟩
 ·refine .inr ⟨ρ,r1,r2,?_,r4,r5⟩;simp only [vw,vwL];exact⟨rfl,r3,trivial,trivial⟩
theorem aU0 {p:PrA} {l:List ChA} (hll:l.length<=2000000) {sts:List (List (BitVec 64))} {t:Nat} (hA:1<=p.see.length/\p.see.length<=4) (hR:1<=sts.length/\sts.length<=16) (hl:∀ st ∈ sts,t<st.length) (ht:t<=1000) {d:D} {σ':St}
  (hyes:chsB p l sts t=true->d = .tup [.osl 0 1 p.see.length,.bool true]/\σ'=⟨1+p.see.length,aTf ((chsM p l sts t).map (rows .i64))⟩) (hno:chsB p l sts t=false->d = .tup [.nils,.bool false]/\σ'=St0) :
  xX Tryz.prog 84 [plD p sts,.sl 3 (chR l),.int .i64 t] St0 d σ':=by
 have hh:∀ a r,a<p.see.length->r<sts.length->yX Tryz.prog 75 [plD p sts,.int .i64 a,.int .i64 r,.int .i64 t] (.sl 1 (us (hisT p sts t a r))):=fun a r ha hr=>
  qZ (qT p ha hr (hl _ (xN (d:=[]) hr)) ht)
 have hfalse:∀ a r,a<p.see.length->r<sts.length->fW l a (hisT p sts t a r)<0->chsB p l sts t=false:=fun a r ha hr h=>by
  unfold chsB;rw [List.all_eq_false];refine⟨a,List.mem_range.2 ha,?_⟩;rw [Bool.not_eq_true,List.all_eq_false];exact⟨r,List.mem_range.2 hr,by simpa using h⟩
 unfold plD plC at *;refine xX.go_fn mixed Tryz.func84 k84 (by simp) fun hf=>?_;simp only [ZA,ZB,ZC,ZD,ZE,↓reduceIte,ZF,ZG,ZH,ZI,ZJ,reduceCtorEq,ZK,↓zU,↓zD,zV,zT,zW,xT]
 refine xV (fun x:QP=>[(20,.int .i64 x.a),(19,.int .i64 p.see.length),(8,rL x.kO x.a),(2,.int .i64 t),(1,.sl 3 (chR l)),(0,.ptr [.int .i64 p.F,.sl 1 (us p.init),.sl 1 (us p.see),.sl 1 (mvR p.moves),.sl 1 (cdR p.code),.sl 1 (rr sts)])]) (fun x=>⟨x.nx,x.objs⟩)
  (fun x=>IG (fun a=>rows .i64 (mvG p l sts t a sts.length)) p.see.length 0 x/\∀ a r,a<x.a->r<sts.length->0<=fW l a (hisT p sts t a r)) (fun x=>p.see.length-x.a) ⟨0,0,0,[],[]⟩
  ⟨⟨Nat.zero_le _,Nat.zero_le _,.inr rfl,rfl,by simp,.nil,fun h=>absurd rfl h,fun h=>absurd rfl h⟩,fun a r ha=>absurd ha (Nat.not_lt_zero _)⟩ ?_ ?_
 ·(refine xM.same ?_; simp [xR,Fr.get,rL])
 rintro ⟨a,nx,kO,ks,objs⟩ ⟨hI,hpos⟩;obtain⟨ha,n0,hkO,hkl,hks,hnd,hno',hnst⟩:=id hI;simp only at ha n0 hkO hkl hks hnd hno' hnst hpos;refine xQ mixed ?_;by_cases hal:a<p.see.length
 case neg=>
  have hd:¬ ((a:Int)<(p.see.length:Int)):=by omega
  obtain rfl:a=p.see.length:=by omega
  have ha0:p.see.length≠0:=by omega
  have hB:chsB p l sts t=true:=by
   unfold chsB;rw [List.all_eq_true];intro a ha;rw [List.all_eq_true];intro r hr;exact decide_eq_true (hpos a r (List.mem_range.1 ha) (List.mem_range.1 hr))
  obtain⟨rfl,rfl⟩:=hyes hB;unfold rL;rw [if_neg ha0];simp only [ZA,ZB,ZC,ZD,ZE,↓reduceIte,ZF,ZG,ZH,ZI,ZJ,reduceCtorEq,ZK,↓zU,↓zD,zV,zT,zW,hd];have hn:=hnst ha0;rw [show (List.range p.see.length).map (fun a=>rows .i64 (mvG p l sts t a sts.length))= (chsM p l sts t).map (rows .i64) by simp only [chsM,List.map_map]; rfl] at hn;have hl2:((chsM p l sts t).map (rows .i64)).length=p.see.length:=by simp [chsM]
  have hr:=mT.nst (nx:=nx) hn hl2.symm hnd (hno' ha0) fun e he r hr=>(uF e he r hr).2;rw [hl2] at hr;exact mT.tup1 hr true
 have hd:((a:Int)<(p.see.length:Int)):=by omega
 have hown:(mvG p l sts t a sts.length).length=sts.length:=by simp [mvG]
 have howg:∀ r,r<sts.length->(mvG p l sts t a sts.length).getD r 0=mvC l a (hisT p sts t a r):=fun r hr=>by simp [mvG,List.getD,hr]
 have hstep:=fun kI kN n2 ob=>@IG.step (fun a=>rows .i64 (mvG p l sts t a sts.length)) p.see.length 0 ⟨a,nx,kO,ks,objs⟩ hI hal kI kN n2 ob;simp only at hstep;have hha:=fun r hr=>hh a r hal hr;have hfa:=fun r hr=>hfalse a r hal hr;generalize mvG p l sts t a sts.length=own at *;simp only [ZA,ZB,ZC,ZD,ZE,↓reduceIte,ZF,ZG,ZH,ZI,ZJ,reduceCtorEq,ZK,↓zU,↓zD,zV,zT,zW,hd,yE]
 (repeat refine sd ?_)
 refine xV (fun x:OP=>[(28,.int .i64 x.j),(27,.int .i64 sts.length),(20,.int .i64 a),(19,.int .i64 p.see.length),(10,rL x.kW x.j),(9,.ref nx 1 0 0),(8,rL kO a),(2,.int .i64 t),(1,.sl 3 (chR l)),(0,.ptr [.int .i64 p.F,.sl 1 (us p.init),.sl 1 (us p.see),.sl 1 (mvR p.moves),.sl 1 (cdR p.code),.sl 1 (rr sts)])]) (fun x=>⟨x.m,x.ob⟩)
  (fun x=>IO ((nx,⟨1,[[.int .i64 a]]⟩) :: objs) (nx+1) own x/\∀ r,r<x.j->0<=fW l a (hisT p sts t a r)) (fun x=>sts.length-x.j) ⟨0,nx+1,0,(nx,⟨1,[[.int .i64 a]]⟩) :: objs⟩
  ⟨⟨Nat.zero_le _,Nat.le_refl _,fun h=>absurd rfl h,fun _ _=>rfl⟩,fun r hr=>absurd hr (Nat.not_lt_zero _)⟩ ?_ ?_
 ·(refine xM.same ?_; simp only [xR,Fr.get,↓reduceIte,reduceIte,Nat.reduceEqDiff,reduceCtorEq,D.int.injEq,D.bool.injEq,D.sl.injEq,and_true,true_and,and_self,show rL 0 0=D.nils from rfl])
  rfl
 rintro ⟨r,m,kW,ob⟩ ⟨⟨hr,hm,hkW,hold⟩,hpr⟩;simp only at hr hm hkW hold hpr;have gx:St.look ob nx=some ⟨1,[[.int .i64 a]]⟩:=by rw [hold nx (by omega),xY,if_pos rfl]
 have hold2:∀ k,k<nx->St.look ob k=St.look objs k:=fun k hk=>by rw [hold k (by omega),xY,if_neg (by omega)]
 refine xQ mixed ?_;by_cases hrl:r<sts.length
 case neg=>
  have hd2:¬ ((r:Int)<(sts.length:Int)):=by omega
  obtain rfl:r=sts.length:=by omega
  have hj0:sts.length≠0:=by omega
  obtain⟨w1,w2,w3⟩:=hkW hj0;rw [List.take_of_length_le (by omega)] at w3;rw [show rL kW sts.length = .osl kW 1 sts.length by unfold rL; rw [if_neg hj0]]
  have hpos2:∀ a' r,a'<a+1->r<sts.length->0<=fW l a' (hisT p sts t a' r):=fun a' r ha' hr'=>by
   by_cases e:a'=a
   ·subst e; exact hpr r hr'
   ·exact hpos a' r (by omega) hr'
  by_cases ha0:a=0
  ·subst ha0;obtain rfl:ks = []:=List.eq_nil_of_length_eq_zero hkl;rw [show rL kO 0=D.nils from rfl];simp only [ZA,ZB,ZC,ZD,ZE,↓reduceIte,ZF,ZG,ZH,ZI,ZJ,reduceCtorEq,ZK,↓zU,↓zD,zV,zT,zW,hd2]
   (repeat refine sd ?_)
   refine⟨⟨0+1,m+1+1,m+1,[] ++ [kW],(m+1,⟨1,[[.osl kW 1 sts.length]]⟩) :: (m,⟨1,[[.osl kW 1 sts.length]]⟩) :: ob⟩,⟨hstep kW (m+1) (m+1+1) _ ⟨by omega,by omega⟩ ⟨by omega,by omega⟩ (by omega) ?_ ?_ ?_,hpos2⟩,?_,by show p.see.length-(0+1)<_; omega⟩
   ·rw [xY,if_pos rfl];simp [sV,xF,hown]
   ·rw [xY,if_neg (by omega),xY,if_neg (by omega)];exact w3
   ·intro k hk _;rw [xY,if_neg (by omega),xY,if_neg (by omega)];exact hold2 k hk
   ·rw [show rL (m+1) (0+1)= .osl (m+1) 1 1 from rfl]
    (refine xM.same ?_; simp only [xR,Fr.get,↓reduceIte,reduceIte,Nat.reduceEqDiff,reduceCtorEq,D.int.injEq,D.bool.injEq,D.sl.injEq,and_true,true_and,and_self])
    rfl
  ·have hkO2:kO<nx:=hkO.resolve_right ha0;have hn:=hnst ha0;have ho:=hn.out;have ho2:=(hold2 kO hkO2).trans ho;have q2:¬ (m=kO):=by omega
   have hnl:=vO hn.len;rw [List.length_map,List.length_range] at hnl;have htk:(sV ks ((List.range a).map fun a=>rows .i64 (mvG p l sts t a sts.length))).take a=sV ks ((List.range a).map fun a=>rows .i64 (mvG p l sts t a sts.length)):=List.take_of_length_le (by omega);have hsn:=iW hn.len kW (rows .i64 own);rw [xF,hown] at hsn;rw [show rL kO a = .osl kO 1 a by unfold rL; rw [if_neg ha0]];simp only [ZA,ZB,ZC,ZD,ZE,↓reduceIte,ZF,ZG,ZH,ZI,ZJ,reduceCtorEq,ZK,↓zU,↓zD,zV,zT,zW,hd2,q2,ho2,hnl,htk]
   (repeat refine sd ?_)
   refine⟨⟨a+1,m+1+1,m+1,ks ++ [kW],(m+1,⟨1,sV ks ((List.range a).map fun a=>rows .i64 (mvG p l sts t a sts.length))++ [[.osl kW 1 sts.length]]⟩) :: (m,⟨1,[[.osl kW 1 sts.length]]⟩) :: yQ ob kO⟩,⟨hstep kW (m+1) (m+1+1) _ ⟨by omega,by omega⟩ ⟨by omega,by omega⟩ (by omega) ?_ ?_ ?_,hpos2⟩,?_,by show p.see.length-(a+1)<_; omega⟩
   ·rw [xY,if_pos rfl,hsn]
   ·rw [xY,if_neg (by omega),xY,if_neg (by omega),xL,if_neg (by omega)];exact w3
   ·intro k hk hk2;rw [xY,if_neg (by omega),xY,if_neg (by omega),xL,if_neg (fun e=>(hk2.resolve_left ha0) e.symm)];exact hold2 k hk
   ·rw [show rL (m+1) (a+1)= .osl (m+1) 1 (a+1) by unfold rL; rw [if_neg (by omega)]]
    (refine xM.same ?_; simp only [xR,Fr.get,↓reduceIte,reduceIte,Nat.reduceEqDiff,reduceCtorEq,D.int.injEq,D.bool.injEq,D.sl.injEq,and_true,true_and,and_self])
    exact wN (by omega)
 have hd2:((r:Int)<(sts.length:Int)):=by omega
 have h75:=hha r hrl;have hfr:=hfa r hrl;have hwg:=howg r hrl;have htk:=yD (d:=0) (show r<own.length by omega);rw [hwg] at htk
 have hpr2:0<=fW l a (hisT p sts t a r)->∀ r',r'<r+1->0<=fW l a (hisT p sts t a r'):=fun h r' hr'=>by
  by_cases e:r'=r
  ·subst e; exact h
  ·exact hpr r' (by omega)
 have hmvE:mvC l a (hisT p sts t a r)= (l.getD (fW l a (hisT p sts t a r)).toNat ch0).mv:=rfl;have hix:=fun h0=>@aZr l a (hisT p sts t a r) h0;have q1:¬ (m=nx):=by omega
 have hidx:=aUi (σ:=⟨m+1,(m,⟨1,[[.sl 1 (us (hisT p sts t a r))]]⟩) :: ob⟩) (g:=137) (caps:=[.ref nx 1 0 0,.ref m 1 0 0]) (c:=l) (f:=pF a (hisT p sts t a r)) hll
  fun d _=>aNu (by rw [xY,if_neg q1]; exact gx) (by rw [xY,if_pos rfl]) d
 rw [show ixF (pF a (hisT p sts t a r)) l 0=fW l a (hisT p sts t a r) from rfl] at hidx;generalize fW l a (hisT p sts t a r)= ix at *;generalize hisT p sts t a r=h at *
 by_cases hix0:ix<0
 ·obtain⟨rfl,rfl⟩:=hno (hfr hix0);simp only [ZA,ZB,ZC,ZD,ZE,↓reduceIte,ZF,ZG,ZH,ZI,ZJ,reduceCtorEq,ZK,↓zU,↓zD,zV,zT,zW,hd2,gx]
  (repeat refine sd ?_)
  refine .go (cr h75) ?_;simp only [ZA,ZB,ZC,ZD,ZE,↓reduceIte,ZF,ZG,ZH,ZI,ZJ,reduceCtorEq,ZK,↓zU,↓zD,zV,zT,zW,q1]
  (repeat refine sd ?_)
  refine .go hidx ?_;simp only [ZA,ZB,ZC,ZD,ZE,↓reduceIte,ZF,ZG,ZH,ZI,ZJ,reduceCtorEq,ZK,↓zU,↓zD,zV,zT,zW,hix0];exact .drop (by simp) (by simp [vw,vwL])
 obtain⟨x1,x2⟩:=hix (by omega);have hgc:=dN l x1;have hmv2:=hmvE;unfold ChA.row at hgc;rw [<- hmv2] at hgc;have hixp:0<=ix:=by omega
 generalize mvC l a h=z at *;generalize l.getD ix.toNat ch0=c at *
 by_cases hj0:r=0
 ·subst hj0;have hd20:(0:Int)<(sts.length:Int):=by omega
  rw [show rL kW 0=D.nils from rfl];simp only [ZA,ZB,ZC,ZD,ZE,↓reduceIte,ZF,ZG,ZH,ZI,ZJ,reduceCtorEq,ZK,↓zU,↓zD,zV,zT,zW,hd20,gx]
  (repeat refine sd ?_)
  refine .go (cr h75) ?_;simp only [ZA,ZB,ZC,ZD,ZE,↓reduceIte,ZF,ZG,ZH,ZI,ZJ,reduceCtorEq,ZK,↓zU,↓zD,zV,zT,zW,q1]
  (repeat refine sd ?_)
  refine .go hidx ?_;simp only [ZA,ZB,ZC,ZD,ZE,↓reduceIte,ZF,ZG,ZH,ZI,ZJ,reduceCtorEq,ZK,↓zU,↓zD,zV,zT,zW,hix0,wX,x2,hgc]
  (repeat refine sd ?_)
  refine⟨⟨0+1,m+1+1,m+1,(m+1,⟨1,[[.int .i64 z]]⟩) :: (m,⟨1,[[.sl 1 (us h)]]⟩) :: ob⟩,⟨⟨by show 0+1<=_; omega,by show nx+1<=m+1+1; omega,fun _=>⟨by show nx+1<=m+1; omega,by show m+1<m+1+1; omega,?_⟩,fun k hk=>?_⟩,hpr2 hixp⟩,?_,by show sts.length-(0+1)<_; omega⟩
  ·show St.look ((m+1,_) :: _) (m+1)= _;rw [xY,if_pos rfl];show _=some (Ob.mk 1 (rows .i64 (own.take (0+1))));rw [htk]; rfl
  ·show St.look ((m+1,_) :: (m,_) :: ob) k=_;rw [xY,if_neg (by omega),xY,if_neg (by omega)];exact hold k hk
  ·rw [show rL (m+1) (0+1)= .osl (m+1) 1 1 from rfl]
   (refine xM.same ?_; simp only [xR,Fr.get,↓reduceIte,reduceIte,Nat.reduceEqDiff,reduceCtorEq,D.int.injEq,D.bool.injEq,D.sl.injEq,and_true,true_and,and_self])
   rfl
 ·obtain⟨w1,w2,w3⟩:=hkW hj0;have q2:¬ (m=kW):=by omega
  have q3:¬ (m+1=kW):=by omega
  have hol:(own.take r).length=r:=by rw [List.length_take]; omega
  have htt:(own.take r).take r=own.take r:=by rw [List.take_take,Nat.min_self]
  rw [show rL kW r = .osl kW 1 r by unfold rL; rw [if_neg hj0]];simp only [ZA,ZB,ZC,ZD,ZE,↓reduceIte,ZF,ZG,ZH,ZI,ZJ,reduceCtorEq,ZK,↓zU,↓zD,zV,zT,zW,hd2,gx]
  (repeat refine sd ?_)
  refine .go (cr h75) ?_;simp only [ZA,ZB,ZC,ZD,ZE,↓reduceIte,ZF,ZG,ZH,ZI,ZJ,reduceCtorEq,ZK,↓zU,↓zD,zV,zT,zW,q1]
  (repeat refine sd ?_)
  refine .go hidx ?_;simp only [ZA,ZB,ZC,ZD,ZE,↓reduceIte,ZF,ZG,ZH,ZI,ZJ,reduceCtorEq,ZK,↓zU,↓zD,zV,zT,zW,hix0,wX,x2,hgc,q1,q2,q3,w3,xF,hol,htt]
  (repeat refine sd ?_)
  refine⟨⟨r+1,m+1+1,m+1,(m+1,⟨1,rows .i64 (own.take r ++ [z])⟩) :: (m,⟨1,[[.sl 1 (us h)]]⟩) :: yQ ob kW⟩,⟨⟨by show r+1<=_; omega,by show nx+1<=m+1+1; omega,fun _=>⟨by show nx+1<=m+1; omega,by show m+1<m+1+1; omega,?_⟩,fun k hk=>?_⟩,hpr2 hixp⟩,?_,by show sts.length-(r+1)<_; omega⟩
  ·show St.look ((m+1,_) :: _) (m+1)= _;rw [xY,if_pos rfl];show _=some (Ob.mk 1 (rows .i64 (own.take (r+1))));rw [htk]
  ·show St.look ((m+1,_) :: (m,_) :: yQ ob kW) k=_;rw [xY,if_neg (by omega),xY,if_neg (by omega),xL,if_neg (by omega)];exact hold k hk
  ·rw [show rL (m+1) (r+1)= .osl (m+1) 1 (r+1) by unfold rL; rw [if_neg (by omega)]]
   (refine xM.same ?_; simp only [xR,Fr.get,↓reduceIte,reduceIte,Nat.reduceEqDiff,reduceCtorEq,D.int.injEq,D.bool.injEq,D.sl.injEq,and_true,true_and,and_self])
   exact wN (by omega)
end Go.Pd
