/- Part XE. -/
import Derived.Test.YtndfaefmmcoapaaGreatUoX8
import Derived.Test.YtndfaefmmcoapaaGreatUoXA
import Derived.Test.YtndfaefmmcoapaaGreatUoXR
import Derived.Test.YtndfaefmmcoapaaGreatUoX9
import Derived.Shelf.Small.Bits
import Derived.Test.YtndfaefmmcoapaaGreatUoLA
set_option linter.unusedSectionVars false
set_option linter.unusedVariables false
set_option linter.unusedSimpArgs false
set_option linter.defProp false
set_option maxRecDepth 20000
set_option maxHeartbeats 1000000
namespace Go.Pd
open Go
open BitVec renaming isValue -> ZA
variable [sO]
end Go.Pd

/- Part XF. -/
namespace Go.Pd
open Go
open BitVec renaming isValue -> ZA
variable [sO]
def dd (mask:Nat):Fr->Fr
 | []=>[]
 | (t,d) :: r=>if mask.testBit t=true then dd mask r else(t,d) :: dd (mask ||| 2 ^ t) r
end Go.Pd

/- Part B0. -/
namespace Go.Pd
open Go Go.Proofs
open BitVec renaming isValue -> ZA
open Go.Shelf
def aAt : Go.Shelf.Ren where
 f:=fun x=>match x with | 125=>189 | 128=>235 | 129=>236 | n=>n
 t:=fun x=>match x with | 46=>88 | 51=>248 | 53=>56 | n=>n
 g:=fun x=>x
theorem aDn : Lays.n125 Tryz.prog aAt:= { mixed:=Eq.refl true,f125:=Eq.trans Tryz.func189 (congrArg some (by kernel_rfl)),f128:=Eq.trans Tryz.func235 (congrArg some (by kernel_rfl)),f129:=Eq.trans Tryz.func236 (congrArg some (by kernel_rfl)),t3:=Tryz.underlying3,a3:=Tryz.isAgg3,z3:=Tryz.sizeOf3,v3:=Tryz.zeroValue3,t4:=Tryz.underlying4,a4:=Tryz.isAgg4,z4:=Tryz.sizeOf4,v4:=Tryz.zeroValue4,t5:=Tryz.underlying5,a5:=Tryz.isAgg5,z5:=Tryz.sizeOf5,v5:=Tryz.zeroValue5,t9:=Tryz.underlying9,a9:=Tryz.isAgg9,z9:=Tryz.sizeOf9,v9:=Tryz.zeroValue9,t46:=Tryz.underlying88,a46:=Tryz.isAgg88,z46:=Tryz.sizeOf88,v46:=Tryz.zeroValue88,t51:=Tryz.underlying248,a51:=Tryz.isAgg248,z51:=Tryz.sizeOf248,v51:=Tryz.zeroValue248,t53:=Tryz.underlying56,a53:=Tryz.isAgg56,z53:=Tryz.sizeOf56,v53:=Tryz.zeroValue56 }
theorem aA8 {n:Int} (h:0<=n/\n<=18446744073709551615) (hb:(Lib.bitLen n.toNat:Int)<=9223372036854775807):yT Tryz.prog 189 [.int .u64 n] (.int .i64 (Lib.bitLen n.toNat)):=by
 refine⟨⟨_,Tryz.func189,by kernel_rfl,by kernel_rfl⟩,fun M0 w ι vals hS hl hv=>?_⟩;have h0:=hv 0 (by simp);simp only [List.getD_cons_zero] at h0
 have e0:vals = #[.int .u64 n]:=by
  have:vals.getD 0 undef = .int .u64 n:=h0.yK.1;obtain⟨l⟩:=vals
  match l,hl with
  | [v],_=>simp at this; rw [this]
 subst e0;refine(Any.bits_Len aDn n w h.1 h.2).mono fun e w' hh=>?_;obtain⟨rfl,rfl⟩:=hh;refine⟨_,ι,rfl,Kept.refl _ _,hS,Nat.le_refl _,fun _ _=>rfl,(fun k o hk=>by cases hk),R.pure (RP.int ?_)⟩;have e1:IntKind.i64.min = -9223372036854775808:=rfl;have e2:IntKind.i64.max=9223372036854775807:=rfl;omega
end Go.Pd

/- Part LD. -/
namespace Go.Pd
open Go Go.Proofs
open BitVec renaming isValue -> ZA
open Rs Fm Ru Te Kb
theorem aQo (g:FuncId):yT Tryz.prog 227 [.xH,.int .i64 0,.int .i64 0,.fn g []] (.tup []):=by
 refine xX.xR mixed Tryz.func227 bWo (by simp) fun hf=>?_;simp only [simprocAttr,-ZA,↓zU,↓zD,zV,zT,zW]
 refine xW (fun _:Nat=>[(8,.int .i64 1),(2,.int .i64 0)]) (fun _=>⟨0,[]⟩) (fun k=>k=0) (fun k=>k) 0 rfl ?_ ?_
 ·(refine xI.same ?_; simp only [xP,Fr.get,↓reduceIte,reduceIte,Nat.reduceEqDiff,reduceCtorEq,D.int.injEq,D.bool.injEq,D.sl.injEq,and_true,true_and,and_self])
  rfl
 intro k _;refine xN mixed ?_;simp only [simprocAttr,-ZA,↓zU,↓zD,zV,zT,zW];exact .same
theorem aEw (g:FuncId) (n:Int):yT Tryz.prog 188 [.xH,.int .i64 0,.int .i64 0,.int .i64 n,.fn g []] (.tup []):=by
 refine xX.xR mixed Tryz.func188 bVb (by simp) fun hf=>?_;simp only [simprocAttr,-ZA,↓zU,↓zD,zV,zT,zW]
 refine xW (fun _:Nat=>[(11,.bool true),(10,.bool true),(4,.fn g []),(3,.int .i64 n),(2,.int .i64 0),(1,.int .i64 0),(0,.xH)]) (fun _=>⟨0,[]⟩) (fun k=>k=0) (fun k=>k) 0 rfl ?_ ?_
 ·(refine xI.same ?_; simp only [xP,Fr.get,↓reduceIte,reduceIte,Nat.reduceEqDiff,reduceCtorEq,D.int.injEq,D.bool.injEq,D.sl.injEq,and_true,true_and,and_self])
 intro k _;refine xN mixed ?_;simp only [simprocAttr,-ZA,↓zU,↓zD,zV,zT,zW,show IntKind.i64.wrap (0-0)= 0 from rfl];refine .go (cr (aQo g)) ?_;simp only [simprocAttr,-ZA,↓zU,↓zD,zV,zT,zW];exact .same
theorem aJo (g:FuncId):yT Tryz.prog 127 [.xH,.fn g []] (.tup []):=by have hl:=aA8 (n:=0) ⟨by decide,by decide⟩ (by decide);refine xX.xR mixed Tryz.func127 bV1 (by simp) fun hf=>?_;simp only [simprocAttr,-ZA,↓zU,↓zD,zV,zT,zW,show IntKind.u64.wrap 0=0 from rfl];refine .go (cr hl) ?_;simp only [simprocAttr,-ZA,↓zU,↓zD,zV,zT,zW];refine .go (cr (aEw g _)) ?_;simp only [simprocAttr,-ZA,↓zU,↓zD,zV,zT,zW];exact .same
theorem aUb (g:FuncId):yT Tryz.prog 128 [.xH,.fn g []] .xH:=by refine xX.xR mixed Tryz.func128 bZw (by simp) fun hf=>?_;simp only [simprocAttr,-ZA,↓zU,↓zD,zV,zT,zW];exact .same
theorem aQp {p:PrA} {sts:List (List (BitVec 64))} {a:Nat} (hR:sts.length<=16):yT Tryz.prog 73 [plD p sts,.int .i64 a,.int .i64 (-1)] (.sl 1 (rlu [])):=by
 have h1:=aJo 124;have h2:=aUb 129;have hw:IntKind.i64.wrap (-1+1)= 0:=rfl;unfold plD plC;refine xX.xR mixed Tryz.func73 k73 (by simp) fun hf=>?_;simp only [simprocAttr,-ZA,↓zU,↓zD,zV,zT,zW,zQ]
 refine xW (fun r:Nat=>[(15,.int .i64 r),(14,.int .i64 sts.length),(7,.xH),(2,.int .i64 (-1)),(1,.int .i64 a),(0,plD p sts)])
  (fun r=>⟨0,[]⟩) (fun r=>r<=sts.length) (fun r=>sts.length-r) 0 (Nat.zero_le _) ?_ ?_
 ·unfold plD plC
  (refine xI.same ?_; simp [xP,Fr.get])
 intro r hr;refine xN mixed ?_;unfold plD plC;by_cases hrl:r<sts.length
 case neg=>
  have hd:¬ ((r:Int)<(sts.length:Int)):=by omega
  simp only [simprocAttr,-ZA,↓zU,↓zD,zV,zT,zW,hd];refine .go (cr h1) ?_;simp only [simprocAttr,-ZA,↓zU,↓zD,zV,zT,zW];refine .go (cr h2) ?_;simp only [simprocAttr,-ZA,↓zU,↓zD,zV,zT,zW];exact .drop (by simp) (by simp [vw,rlu])
 have hd:((r:Int)<(sts.length:Int)):=by omega
 simp only [simprocAttr,-ZA,↓zU,↓zD,zV,zT,zW,hd,hw,show IntKind.i64.wrap 0=0 from rfl]
 refine xW (fun k:Nat=>[(20,.int .i64 0),(19,.int .i64 0),(15,.int .i64 r),(14,.int .i64 sts.length),(7,.xH),(2,.int .i64 (-1)),(1,.int .i64 a),(0,plD p sts)])
  (fun r=>⟨0,[]⟩) (fun k=>k=0) (fun k=>k) 0 rfl ?_ ?_
 ·unfold plD plC
  (refine xI.same ?_; simp [xP,Fr.get])
 intro k _;refine xN mixed ?_;simp only [simprocAttr,-ZA,↓zU,↓zD,zV,zT,zW];refine⟨r+1,by omega,?_,by omega⟩;unfold plD plC
 (refine xI.same ?_; simp only [xP,Fr.get,↓reduceIte,reduceIte,Nat.reduceEqDiff,reduceCtorEq,D.int.injEq,D.bool.injEq,D.sl.injEq,and_true,true_and,and_self])
 exact zI (by omega)
theorem jK {p:PrA} {F:Nat} (hv:PrV p F) {sts:List (List (BitVec 64))} {t:Nat} (ok:PlG p F sts t):yT Tryz.prog 76 [plD p sts,.int .i64 t] (.sl 1 (rl (wV p sts t))):=by
 have h:=jJ hv ok;have hN:=Nst.seen (nx:=1+p.see.length) (K:=fun _=>False) (n:=p.see.length) (aU ((wV p sts t).map (rows .i64))) (by rw [List.length_map,lZ]) (fun h=>h) (fun _ _ h=>h) tL;rw [aOf] at hN;have h2:=xX.deep (objs':=[]) (fun _=>False) h hN fun k o hk=>by cases hk
 exact xX.ret h2 (.drop (Nat.zero_le _) (by simp [vw]))
namespace Kb
def bvL (h:List Int):List (BitVec 64):=h.map (BitVec.ofInt 64)
theorem bK (see:List (BitVec 64)) (sts:List (List (BitVec 64))) (a:Nat) (q:Nat × Nat):bvL (qJ see sts a q)= uQ see (stR sts q.1) a q.2:=by
 unfold bvL qJ;rw [List.map_map];conv=>rhs; rw [<- List.map_id (uQ see (stR sts q.1) a q.2)]
 exact List.map_congr_left fun x _=>wQ x
theorem aAf {see:List (BitVec 64)} {sts:List (List (BitVec 64))} {a:Nat} {q:Nat × Nat} {h:List Int} (e:h=qJ see sts a q):us (bvL h)= rows .u64 h:=by subst e;rw [bK,pR]; rfl
theorem qZ {see:List (BitVec 64)} {sts:List (List (BitVec 64))} {T a:Nat} {h:List Int}:h ∈ lB see sts T a ↔ ∃ r t,r<sts.length/\t<T/\h=qJ see sts a (r,t):=by
 unfold lB;rw [aLs,(pH _).mem_iff];simp only [List.mem_map]
 constructor
 ·rintro ⟨⟨r,t⟩,hq,rfl⟩
  by_cases hT:1<=T
  ·simp only [ptN,List.mem_map,List.mem_range] at hq;obtain⟨i,hi,e⟩:=hq;simp only [Prod.mk.injEq] at e
   refine⟨r,t,?_,?_,rfl⟩
   ·rw [<- e.1]; exact Nat.div_lt_of_lt_mul (by rw [Nat.mul_comm]; exact hi)
   ·rw [<- e.2]; exact Nat.mod_lt _ (by omega)
  ·obtain rfl:T=0:=by omega
   simp [ptN] at hq
 ·rintro ⟨r,t,hr,ht,rfl⟩;exact⟨(r,t),aEt ⟨hr,ht⟩,rfl⟩
theorem aSd {see:List (BitVec 64)} {sts:List (List (BitVec 64))} {a r t:Nat} (h:t<(stR sts r).length):(qJ see sts a (r,t)).length=t+1:=by unfold qJ;rw [List.length_map];exact oS h
def iE (see:List (BitVec 64)) (sts:List (List (BitVec 64))) (a:Nat) (h:List Int):Nat:=(List.range sts.length).findIdx fun r=>decide (qJ see sts a (r,h.length-1)= h)
def aWh (p:PrA) (sts:List (List (BitVec 64))) (a:Nat) (h:List Int):ChA:=⟨a,bvL h,sN p sts (h.length-1) a (iE p.see sts a h)⟩
def oD (p:PrA) (sts:List (List (BitVec 64))) (T a:Nat):List ChA:=(lB p.see sts T a).map (aWh p sts a)
def vC (p:PrA) (sts:List (List (BitVec 64))) (T:Nat):List ChA:=(List.range p.see.length).flatMap (oD p sts T)
theorem dJ {see:List (BitVec 64)} {sts:List (List (BitVec 64))} {a T:Nat} {h:List Int} (hm:h ∈ lB see sts T a) (hl:∀ st ∈ sts,T<=st.length) :
  iE see sts a h<sts.length/\qJ see sts a (iE see sts a h,h.length-1)= h/\1<=h.length/\h.length<=T:=by
 obtain⟨r,t,hr,ht,e⟩:=qZ.1 hm;have hlen:=aSd (see:=see) (a:=a) (sts:=sts) (r:=r) (t:=t) (by have:=hl _ (uP hr); omega);rw [<- e] at hlen;have:=lL (n:=sts.length) (q:=fun r=>decide (qJ see sts a (r,h.length-1)= h)) ⟨r,hr,by rw [hlen,Nat.add_sub_cancel,<- e]; simp⟩;refine⟨this.1,?_,by omega,by omega⟩;have h2:=this.2;simp only [decide_eq_true_eq] at h2;exact h2
theorem aVu {see:List (BitVec 64)} {sts:List (List (BitVec 64))} {a r:Nat} {h:List Int} (hr:r<sts.length) (e:qJ see sts a (r,h.length-1)= h) (hf:∀ i,i<r->qJ see sts a (i,h.length-1)≠ h):iE see sts a h=r:=by unfold iE;refine List.findIdx_eq (by simpa using hr) |>.2 ⟨by simpa using e,fun j hj=>?_⟩;simpa using hf j hj
end Kb
open Rs Fm Ru Te Kb
namespace Kb
def bX (p:PrA) (n:Int):List ChA:=if lD p n≠0 then [] else vC p (yN p (n.toNat-1)) (n.toNat-1)
theorem aHw (l:List ChA) (a:Int) (s:List (BitVec 64)) (m:Int):chR l ++ [[.int .i64 a,.sl 1 (us s),.int .i64 m]]=chR (l ++ [⟨a,s,m⟩]):=by simp [chR,ChA.row]
theorem aYk (l:List ChA):tQ (chR l):=aHx l
theorem aNf : chR [] = []:=rfl
theorem aKc (see:List (BitVec 64)) (sts:List (List (BitVec 64))) (a:Nat):lB see sts 0 a = []:=by unfold lB;simp [ptN,aWi,dedup,tN]
theorem aS2 (see:List (BitVec 64)) (sts:List (List (BitVec 64))) (T a:Nat):(lB see sts T a).length<=sts.length*T:=by have h1:(lB see sts T a).length<=(aWi ((ptN T (sts.length*T)).map (qJ see sts a))).length:=aVh _ _;have h2:=(pH ((ptN T (sts.length*T)).map (qJ see sts a))).length_eq;rw [List.length_map,rD] at h2;omega
theorem aYn {p:PrA} {sts:List (List (BitVec 64))} {T n:Nat}:((List.range n).flatMap (oD p sts T)).length<=n*(sts.length*T):=by
 induction n with
 | zero=>simp
 | succ n ih=>
  rw [List.range_succ,List.flatMap_append,List.length_append,List.flatMap_cons,List.flatMap_nil,List.append_nil];have h1:(oD p sts T n).length<=sts.length*T:=by unfold oD; rw [List.length_map]; exact aS2 _ _ _ _
  rw [Nat.succ_mul];omega
end Kb
theorem aHk {p:PrA} {sts:List (List (BitVec 64))} {a k:Nat} (ha:a<p.see.length) (hk:k<=5) (hR:1<=sts.length/\sts.length<=16) (hl:∀ st ∈ sts,k<=st.length) :
  yT Tryz.prog 73 [plD p sts,.int .i64 a,.int .i64 ((k:Int)-1)] (.sl 1 (rlu (lB p.see sts k a))):=by
 by_cases h0:k=0
 ·subst h0;rw [aKc];exact aQp hR.2
 ·exact fA ha ⟨by omega,by omega⟩ hR hl
theorem cE (p:PrA) (sm:qO p) (n:Int):yT Tryz.prog 21 [p.d,.int .i64 n] (.tup [.sl 3 (chR (bX p n)),.int .i64 (lD p n)]):=by
 have hQ:=gK p sm n;by_cases c:lD p n=0
 case neg=>
  have c':(lD p n != 0)= true:=by simpa using c
  have hD:bX p n = []:=by unfold bX; rw [if_pos c]
  rw [hD,aNf];unfold PrA.d PrA.cells at *;refine xX.xR mixed Tryz.func21 k21 (by simp) fun hf=>?_;simp only [simprocAttr,-ZA,↓zU,↓zD,zV,zT,zW]
  (repeat refine sd ?_)
  refine .go (cr hQ) ?_;simp only [simprocAttr,-ZA,↓zU,↓zD,zV,zT,zW,c'];exact .drop (by simp) (by simp [vw,vwL])
 have c':(lD p n != 0)= false:=by simpa using c
 obtain⟨F,k,hv,rfl,hk⟩:=oW c;have hP:=aTn hv (n:=k) (by omega);have hS:=tV hv k
 have hD:bX p ((k+1:Nat):Int)= vC p (yN p k) k:=by unfold bX;rw [if_neg (by simpa using c),Int.toNat_natCast,Nat.add_sub_cancel]
 rw [hD];have hlen:=hS.len;have hI:=hv.hI;have hA:=hv.hA;have hrun:=hS.run;have hgood:=fun t ht=>hS.aFj hv (t:=t) ht (by omega);generalize yN p k=sts at *;have hpm:=fun t ht=>jK hv (hgood t ht);have hha:=fun a ha=>aHk (p:=p) (sts:=sts) (a:=a) (k:=k) ha hk (by omega) fun st hs=>by rw [hrun st hs]; omega
 have hh:∀ a r t,a<p.see.length->r<sts.length->t<=k->yT Tryz.prog 75 [plD p sts,.int .i64 a,.int .i64 r,.int .i64 t] (.sl 1 (rows .u64 (qJ p.see sts a (r,t)))):=fun a r t ha hr ht=>by have:=pM (pI p ha hr (show t<(sts.getD r []).length by have:=hrun _ (xK (d:=[]) hr); omega) (by omega));rw [pR] at this;exact this
 have hw2:IntKind.i64.wrap (((k+1:Nat):Int)-2)= (k:Int)-1:=by rw [wrap_i64 (by omega)]; omega
 unfold PrA.d PrA.cells plD plC at *;refine xX.xR mixed Tryz.func21 k21 (by simp) fun hf=>?_;simp only [simprocAttr,-ZA,↓zU,↓zD,zV,zT,zW]
 (repeat refine sd ?_)
 refine .go (cr hQ) ?_;simp only [simprocAttr,-ZA,↓zU,↓zD,zV,zT,zW,c'];refine .go (cr hP) ?_;simp only [simprocAttr,-ZA,↓zU,↓zD,zV,zT,zW,xQ]
 refine xW (fun a:Nat=>[(26,.int .i64 a),(25,.int .i64 p.see.length),(8,yX 1 3 (chR ((List.range a).flatMap (oD p sts k)))),(7,.ptr [.int .i64 p.F,.sl 1 (us p.init),.sl 1 (us p.see),.sl 1 (mvR p.xM),.sl 1 (cdR p.code),.sl 1 (rr sts)]),(1,.int .i64 ((k+1:Nat):Int))])
  (fun a=>⟨2,yY 1 3 (chR ((List.range a).flatMap (oD p sts k)))⟩) (fun a=>a<=p.see.length) (fun a=>p.see.length-a) 0 (Nat.zero_le _) ?_ ?_
 ·(refine xI.ren [] [] (by simp) (by simp) (by decide) ?_; simp only [yJ,vwL,vw,vwF,sw,St.get,St.look,Fr.get,↓reduceIte,reduceIte,Nat.reduceEqDiff,Nat.reduceAdd,Nat.reduceBEq,Nat.reduceLT,Nat.reduceLeDiff,exists_eq_left',ne_eq,reduceCtorEq,zR,List.range_zero,List.flatMap_nil,aNf,wZ,wY])
 intro a ha;refine xN mixed ?_;by_cases hal:a<p.see.length
 case neg=>
  have hd:¬ ((a:Int)<(p.see.length:Int)):=by omega
  obtain rfl:a=p.see.length:=by omega
  simp only [simprocAttr,-ZA,↓zU,↓zD,zV,zT,zW,hd];rw [show (List.range p.see.length).flatMap (oD p sts k)= vC p sts k from rfl,c]
  (refine lF.ren [] [] (by simp) (by simp) (by decide) ?_; simp only [yJ,vwL,vw,vwF,sw,St.get,St.look,Fr.get,↓reduceIte,reduceIte,Nat.reduceEqDiff,Nat.reduceAdd,Nat.reduceBEq,Nat.reduceLT,Nat.reduceLeDiff,exists_eq_left',ne_eq,reduceCtorEq,zR,aYk])
 have hd:((a:Int)<(p.see.length:Int)):=by omega
 have h73:=hha a hal;have hsu:(List.range (a+1)).flatMap (oD p sts k)= (List.range a).flatMap (oD p sts k)++ oD p sts k a:=by rw [List.range_succ,List.flatMap_append]; simp
 have hla:((List.range a).flatMap (oD p sts k)).length<=4*(16*5):=by have h1:=aYn (p:=p) (sts:=sts) (T:=k) (n:=a);have h2:sts.length*k<=16*5:=Nat.mul_le_mul (by omega) hk;have h3:a*(sts.length*k)<=4*(16*5):=Nat.mul_le_mul (by omega) h2;omega
 have hpa:oD p sts k a=(lB p.see sts k a).map (aWh p sts a):=rfl;rw [hpa] at hsu
 have hlk:(lB p.see sts k a).length<=16*5:=by have h1:=aS2 p.see sts k a;have h2:sts.length*k<=16*5:=Nat.mul_le_mul (by omega) hk;omega
 have hmm:=fun h (hm:h ∈ lB p.see sts k a)=>dJ hm (fun st hs=>by rw [hrun st hs]; omega);have hms:=fun h (hm:h ∈ lB p.see sts k a)=>qZ.1 hm;generalize lB p.see sts k a=hs at *;generalize (List.range a).flatMap (oD p sts k)= L at *;simp only [simprocAttr,-ZA,↓zU,↓zD,zV,zT,zW,hd,hw2];refine .go (cr h73) ?_;simp only [simprocAttr,-ZA,↓zU,↓zD,zV,zT,zW,vU]
 refine xW (fun j:Nat=>[(35,.int .i64 j),(34,.int .i64 hs.length),(33,.sl 1 (rlu hs)),(26,.int .i64 a),(25,.int .i64 p.see.length),(9,.int .i64 a),(8,yX 1 3 (chR (L++(hs.take j).map (aWh p sts a)))),(7,.ptr [.int .i64 p.F,.sl 1 (us p.init),.sl 1 (us p.see),.sl 1 (mvR p.xM),.sl 1 (cdR p.code),.sl 1 (rr sts)]),(1,.int .i64 ((k+1:Nat):Int))])
  (fun j=>⟨2,yY 1 3 (chR (L++(hs.take j).map (aWh p sts a)))⟩) (fun j=>j<=hs.length) (fun j=>hs.length-j) 0 (Nat.zero_le _) ?_ ?_
 ·rw [List.take_zero,List.map_nil,List.append_nil]
  (refine xI.same ?_; simp only [xP,Fr.get,↓reduceIte,reduceIte,Nat.reduceEqDiff,reduceCtorEq,D.int.injEq,D.bool.injEq,D.sl.injEq,and_true,true_and,and_self])
  rfl
 intro j hj;refine xN mixed ?_;by_cases hjl:j<hs.length
 case neg=>
  have hd2:¬ ((j:Int)<(hs.length:Int)):=by omega
  rw [List.take_of_length_le (by omega),<- hsu];simp only [simprocAttr,-ZA,↓zU,↓zD,zV,zT,zW,hd2];refine⟨a+1,by omega,?_,by omega⟩
  (refine xI.same ?_; simp only [xP,Fr.get,↓reduceIte,reduceIte,Nat.reduceEqDiff,reduceCtorEq,D.int.injEq,D.bool.injEq,D.sl.injEq,and_true,true_and,and_self])
  exact zI (by omega)
 have hd2:((j:Int)<(hs.length:Int)):=by omega
 have hgh:=rU hs hjl;have hmem:=xK (d:=[]) hjl;obtain⟨m1,m2,m3,m4⟩:=hmm _ hmem;obtain⟨r0,t0,hr0,ht0,e0⟩:=hms _ hmem;have hub:=aAf e0;have hsj:(hs.take (j+1)).map (aWh p sts a)= (hs.take j).map (aWh p sts a)++ [aWh p sts a (hs.getD j [])]:=by rw [zP (d:=[]) hjl,List.map_append]; rfl
 have hlj:(L++(hs.take j).map (aWh p sts a)).length=L.length+j:=by rw [List.length_append,List.length_map,List.length_take]; omega
 have hfirst:=fun r=>@aVu p.see sts a r (hs.getD j []);have hch:aWh p sts a (hs.getD j [])= ⟨a,bvL (hs.getD j []),sN p sts ((hs.getD j []).length-1) a (iE p.see sts a (hs.getD j []))⟩:=rfl;rw [hch] at hsj;have hidx:L++(hs.take (j+1)).map (aWh p sts a)= (L++(hs.take j).map (aWh p sts a))++ [⟨a,bvL (hs.getD j []),sN p sts ((hs.getD j []).length-1) a (iE p.see sts a (hs.getD j []))⟩]:=by rw [hsj,List.append_assoc]
 generalize L++(hs.take j).map (aWh p sts a)= LL at *;generalize hs.getD j []=h at *;have hwt:IntKind.i64.wrap ((h.length:Int)-1)= ((h.length-1:Nat):Int):=by rw [wrap_i64 (by omega)]; omega
 generalize ht:h.length-1=t at *;have htk:t<=k:=by omega
 simp only [simprocAttr,-ZA,↓zU,↓zD,zV,zT,zW,hd2,vU,hgh,xE,hwt]
 (repeat refine sd ?_)
 refine xW (fun r:Nat=>[(13,.int .i64 r),(12,.int .i64 t),(11,.sl 1 (rows .u64 h)),(35,.int .i64 j),(34,.int .i64 hs.length),(33,.sl 1 (rlu hs)),(26,.int .i64 a),(25,.int .i64 p.see.length),(9,.int .i64 a),(8,yX 1 3 (chR LL)),(7,.ptr [.int .i64 p.F,.sl 1 (us p.init),.sl 1 (us p.see),.sl 1 (mvR p.xM),.sl 1 (cdR p.code),.sl 1 (rr sts)]),(1,.int .i64 ((k+1:Nat):Int))])
  (fun _=>⟨2,yY 1 3 (chR LL)⟩) (fun r=>r<=iE p.see sts a h/\∀ i,i<r->qJ p.see sts a (i,t)≠ h) (fun r=>sts.length-r) 0 ⟨Nat.zero_le _,fun i hi=>absurd hi (Nat.not_lt_zero _)⟩ ?_ ?_
 ·(refine xI.same ?_; simp only [xP,Fr.get,↓reduceIte,reduceIte,Nat.reduceEqDiff,reduceCtorEq,D.int.injEq,D.bool.injEq,D.sl.injEq,and_true,true_and,and_self])
  rfl
 intro r ⟨hr1,hr2⟩;refine xN mixed ?_;have h75:=hh a r t hal (by omega) htk;have heq:=aK (qJ p.see sts a (r,t)) h;have hff:=hfirst r (by omega);by_cases hq:qJ p.see sts a (r,t)= h
 case neg=>
  have hrlt:r<iE p.see sts a h:=by
   rcases Nat.lt_or_ge r (iE p.see sts a h) with h1 | h1
   ·exact h1
   ·exact absurd (by rw [show r=iE p.see sts a h by omega]; exact m2) hq
  have hq2:∀ i,i=r->qJ p.see sts a (i,t)≠ h:=fun i e=>e ▸ hq;rw [decide_eq_false hq] at heq;generalize qJ p.see sts a (r,t)= x at *;simp only [simprocAttr,-ZA,↓zU,↓zD,zV,zT,zW];refine .go (cr h75) ?_;simp only [simprocAttr,-ZA,↓zU,↓zD,zV,zT,zW];refine .go (cr heq) ?_;simp only [simprocAttr,-ZA,↓zU,↓zD,zV,zT,zW]
  refine⟨r+1,⟨by omega,fun i hi=>?_⟩,?_,by omega⟩
  ·by_cases e:i=r
   ·exact hq2 i e
   ·exact hr2 i (by omega)
  (refine xI.same ?_; simp only [xP,Fr.get,↓reduceIte,reduceIte,Nat.reduceEqDiff,reduceCtorEq,D.int.injEq,D.bool.injEq,D.sl.injEq,and_true,true_and,and_self])
  exact zI (by omega)
 rw [decide_eq_true hq] at heq;have hro:=hff hq hr2;have hrs:r<sts.length:=by omega
 rw [hro] at hidx;have h76:=hpm t htk;have hmg:=dY (wV p sts t) (show a<_ by rw [lZ]; exact hal);have hrow:(wV p sts t).getD a []=(List.range sts.length).map fun w=>sN p sts t a w:=by simp [wV,List.getD,hal]
 rw [hrow] at hmg;have hgw:=yF .i64 ((List.range sts.length).map fun w=>sN p sts t a w) (show r<_ by simpa using hrs);have hgw2:((List.range sts.length).map fun w=>sN p sts t a w).getD r 0=sN p sts t a r:=by simp [List.getD,hrs]
 rw [hgw2] at hgw;have hml:=lZ p sts t;have hrl2:((List.range sts.length).map fun w=>sN p sts t a w).length=sts.length:=by simp
 have hda:((a:Int)<(p.see.length:Int)):=by omega
 have hdr:((r:Int)<(sts.length:Int)):=by omega
 generalize (List.range sts.length).map (fun w=>sN p sts t a w)= row at *;generalize sN p sts t a r=z at *;generalize wV p sts t=M at *;generalize qJ p.see sts a (r,t)= x at *;simp only [simprocAttr,-ZA,↓zU,↓zD,zV,zT,zW];refine .go (cr h75) ?_;simp only [simprocAttr,-ZA,↓zU,↓zD,zV,zT,zW];refine .go (cr heq) ?_;simp only [simprocAttr,-ZA,↓zU,↓zD,zV,zT,zW];refine .go (cr h76) ?_;simp only [simprocAttr,-ZA,↓zU,↓zD,zV,zT,zW,uR,hml,hda,hmg,xE,hrl2,hdr,hgw,zJ,hlj]
 (repeat refine sd ?_)
 refine⟨j+1,by omega,?_,by omega⟩;rw [hidx,<- hub]
 (refine xI.ren [(1,2)] [1] (by simp) (by simp) (by decide) ?_; simp only [yJ,vwL,vw,vwF,sw,St.get,St.look,Fr.get,↓reduceIte,reduceIte,Nat.reduceEqDiff,Nat.reduceAdd,Nat.reduceBEq,Nat.reduceLT,Nat.reduceLeDiff,exists_eq_left',ne_eq,reduceCtorEq,zR,aHw,aYk])
 exact zI (by omega)
end Go.Pd
