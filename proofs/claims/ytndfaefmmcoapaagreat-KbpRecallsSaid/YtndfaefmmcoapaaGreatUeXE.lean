/- Part XE. -/
import Derived.Test.YtndfaefmmcoapaaGreatUeX8
import Derived.Test.YtndfaefmmcoapaaGreatUeXA
import Derived.Test.YtndfaefmmcoapaaGreatUeXR
import Derived.Test.YtndfaefmmcoapaaGreatUeX9
import Derived.Shelf.Small.Bits
import Derived.Test.YtndfaefmmcoapaaGreatUeLA
set_option linter.unusedSectionVars false
set_option linter.unusedVariables false
set_option linter.unusedSimpArgs false
set_option linter.defProp false
set_option maxRecDepth 20000
set_option maxHeartbeats 1000000
namespace Go.Pd
open Go
variable [sL]
end Go.Pd

/- Part XF. -/
namespace Go.Pd
open Go
variable [sL]
def dd (mask:Nat):Fr->Fr
 | []=>[]
 | (t,d) :: r=>if mask.testBit t=true then dd mask r else(t,d) :: dd (mask ||| 2 ^ t) r
end Go.Pd

/- Part B0. -/
namespace Go.Pd
open Go Go.Proofs
open Go.Shelf
def bYi : Go.Shelf.Ren where
 f:=fun x=>match x with | 125=>189 | 128=>235 | 129=>236 | n=>n
 t:=fun x=>match x with | 46=>88 | 51=>248 | 53=>56 | n=>n
 g:=fun x=>x
theorem aBb : Lays.n125 Tryz.prog bYi:= { mixed:=Eq.refl true,f125:=Eq.trans Tryz.func189 (congrArg some (by kernel_rfl)),f128:=Eq.trans Tryz.func235 (congrArg some (by kernel_rfl)),f129:=Eq.trans Tryz.func236 (congrArg some (by kernel_rfl)),t3:=Tryz.underlying3,a3:=Tryz.isAgg3,z3:=Tryz.sizeOf3,v3:=Tryz.zeroValue3,t4:=Tryz.underlying4,a4:=Tryz.isAgg4,z4:=Tryz.sizeOf4,v4:=Tryz.zeroValue4,t5:=Tryz.underlying5,a5:=Tryz.isAgg5,z5:=Tryz.sizeOf5,v5:=Tryz.zeroValue5,t9:=Tryz.underlying9,a9:=Tryz.isAgg9,z9:=Tryz.sizeOf9,v9:=Tryz.zeroValue9,t46:=Tryz.underlying88,a46:=Tryz.isAgg88,z46:=Tryz.sizeOf88,v46:=Tryz.zeroValue88,t51:=Tryz.underlying248,a51:=Tryz.isAgg248,z51:=Tryz.sizeOf248,v51:=Tryz.zeroValue248,t53:=Tryz.underlying56,a53:=Tryz.isAgg56,z53:=Tryz.sizeOf56,v53:=Tryz.zeroValue56 }
theorem bYx {n:Int} (h:0<=n/\n<=18446744073709551615) (hb:(Lib.bitLen n.toNat:Int)<=9223372036854775807):yV Tryz.prog 189 [.int .u64 n] (.int .i64 (Lib.bitLen n.toNat)):=by
 refine⟨⟨_,Tryz.func189,by kernel_rfl,by kernel_rfl⟩,fun M0 w ι vals hS hl hv=>?_⟩;have h0:=hv 0 (by simp);simp only [List.getD_cons_zero] at h0
 have e0:vals = #[.int .u64 n]:=by
  have:vals.getD 0 undef = .int .u64 n:=h0.yH.1;obtain⟨l⟩:=vals
  match l,hl with
  | [v],_=>simp at this; rw [this]
 subst e0;refine(Any.bits_Len aBb n w h.1 h.2).mono fun e w' hh=>?_;obtain⟨rfl,rfl⟩:=hh;refine⟨_,ι,rfl,Kept.refl _ _,hS,Nat.le_refl _,fun _ _=>rfl,(fun k o hk=>by cases hk),R.pure (RP.int ?_)⟩;have e1:IntKind.i64.min = -9223372036854775808:=rfl;have e2:IntKind.i64.max=9223372036854775807:=rfl;omega
end Go.Pd

/- Part LD. -/
namespace Go.Pd
open Go Go.Proofs
open BitVec renaming isValue -> ZA
open Rs Fm Ru Te Kb
theorem aPj (g:FuncId):yV Tryz.prog 227 [.xH,.int .i64 0,.int .i64 0,.fn g []] (.tup []):=by
 refine xX.xP mixed Tryz.func227 bUd (by simp) fun hf=>?_;simp only [simprocAttr,-ZA,↓zU,↓zD,zV,zT,zW]
 refine xW (fun _:Nat=>[(8,.int .i64 1),(2,.int .i64 0)]) (fun _=>⟨0,[]⟩) (fun k=>k=0) (fun k=>k) 0 rfl ?_ ?_
 ·(refine xI.same ?_; simp only [xR,Fr.get,simprocAttr,-ZA,zS])
  all_goals rfl
 intro k _;refine xQ mixed ?_;simp only [simprocAttr,-ZA,↓zU,↓zD,zV,zT,zW];exact .same
theorem aCk (g:FuncId) (n:Int):yV Tryz.prog 188 [.xH,.int .i64 0,.int .i64 0,.int .i64 n,.fn g []] (.tup []):=by
 refine xX.xP mixed Tryz.func188 bU0 (by simp) fun hf=>?_;simp only [simprocAttr,-ZA,↓zU,↓zD,zV,zT,zW]
 refine xW (fun _:Nat=>[(11,.bool true),(10,.bool true),(4,.fn g []),(3,.int .i64 n),(2,.int .i64 0),(1,.int .i64 0),(0,.xH)]) (fun _=>⟨0,[]⟩) (fun k=>k=0) (fun k=>k) 0 rfl ?_ ?_
 ·(refine xI.same ?_; simp only [xR,Fr.get,simprocAttr,-ZA,zS])
 intro k _;refine xQ mixed ?_;simp only [simprocAttr,-ZA,↓zU,↓zD,zV,zT,zW,show IntKind.i64.wrap (0-0)= 0 from rfl];refine .go (cr (aPj g)) ?_;simp only [simprocAttr,-ZA,↓zU,↓zD,zV,zT,zW];exact .same
theorem aI5 (g:FuncId):yV Tryz.prog 127 [.xH,.fn g []] (.tup []):=by have hl:=bYx (n:=0) ⟨by decide,by decide⟩ (by decide);refine xX.xP mixed Tryz.func127 bTs (by simp) fun hf=>?_;simp only [simprocAttr,-ZA,↓zU,↓zD,zV,zT,zW,show IntKind.u64.wrap 0=0 from rfl];refine .go (cr hl) ?_;simp only [simprocAttr,-ZA,↓zU,↓zD,zV,zT,zW];refine .go (cr (aCk g _)) ?_;simp only [simprocAttr,-ZA,↓zU,↓zD,zV,zT,zW];exact .same
theorem aU2 (g:FuncId):yV Tryz.prog 128 [.xH,.fn g []] .xH:=by refine xX.xP mixed Tryz.func128 bVo (by simp) fun hf=>?_;simp only [simprocAttr,-ZA,↓zU,↓zD,zV,zT,zW];exact .same
theorem aPk {p:PrA} {sts:List (List (BitVec 64))} {a:Nat} (hR:sts.length<=16):yV Tryz.prog 73 [plD p sts,.int .i64 a,.int .i64 (-1)] (.sl 1 (rlu [])):=by
 have h1:=aI5 124;have h2:=aU2 129;have hw:IntKind.i64.wrap (-1+1)= 0:=rfl;unfold plD plC;refine xX.xP mixed Tryz.func73 k73 (by simp) fun hf=>?_;simp only [simprocAttr,-ZA,↓zU,↓zD,zV,zT,zW,zM]
 refine xW (fun r:Nat=>[(15,.int .i64 r),(14,.int .i64 sts.length),(7,.xH),(2,.int .i64 (-1)),(1,.int .i64 a),(0,plD p sts)])
  (fun r=>⟨0,[]⟩) (fun r=>r<=sts.length) (fun r=>sts.length-r) 0 (Nat.zero_le _) ?_ ?_
 ·unfold plD plC
  (refine xI.same ?_; simp [xR,Fr.get])
 intro r hr;refine xQ mixed ?_;unfold plD plC;by_cases hrl:r<sts.length
 case neg=>
  have hd:¬ ((r:Int)<(sts.length:Int)):=by omega
  simp only [simprocAttr,-ZA,↓zU,↓zD,zV,zT,zW,hd];refine .go (cr h1) ?_;simp only [simprocAttr,-ZA,↓zU,↓zD,zV,zT,zW];refine .go (cr h2) ?_;simp only [simprocAttr,-ZA,↓zU,↓zD,zV,zT,zW];exact .drop (by simp) (by simp [vw,rlu])
 have hd:((r:Int)<(sts.length:Int)):=by omega
 simp only [simprocAttr,-ZA,↓zU,↓zD,zV,zT,zW,hd,hw,show IntKind.i64.wrap 0=0 from rfl]
 refine xW (fun k:Nat=>[(20,.int .i64 0),(19,.int .i64 0),(15,.int .i64 r),(14,.int .i64 sts.length),(7,.xH),(2,.int .i64 (-1)),(1,.int .i64 a),(0,plD p sts)])
  (fun r=>⟨0,[]⟩) (fun k=>k=0) (fun k=>k) 0 rfl ?_ ?_
 ·unfold plD plC
  (refine xI.same ?_; simp [xR,Fr.get])
 intro k _;refine xQ mixed ?_;simp only [simprocAttr,-ZA,↓zU,↓zD,zV,zT,zW];refine⟨r+1,by omega,?_,by omega⟩;unfold plD plC
 (refine xI.same ?_; simp only [xR,Fr.get,simprocAttr,-ZA,zS])
 exact wI (by omega)
theorem jG {p:PrA} {F:Nat} (hv:PrV p F) {sts:List (List (BitVec 64))} {t:Nat} (ok:PlG p F sts t):yV Tryz.prog 76 [plD p sts,.int .i64 t] (.sl 1 (rl (vN p sts t))):=by
 have h:=jF hv ok;have hN:=Nst.seen (nx:=1+p.see.length) (K:=fun _=>False) (n:=p.see.length) (aXa ((vN p sts t).map (rows .i64))) (by rw [List.length_map,lT]) (fun h=>h) (fun _ _ h=>h) tJ;rw [aNe] at hN;have h2:=xX.deep (objs':=[]) (fun _=>False) h hN fun k o hk=>by cases hk
 exact xX.ret h2 (.drop (Nat.zero_le _) (by simp [vw]))
namespace Kb
def bvL (h:List Int):List (BitVec 64):=h.map (BitVec.ofInt 64)
theorem aB4 (see:List (BitVec 64)) (sts:List (List (BitVec 64))) (a:Nat) (q:Nat × Nat):bvL (sJ see sts a q)= rC see (stR sts q.1) a q.2:=by
 unfold bvL sJ;rw [List.map_map];conv=>rhs; rw [<- List.map_id (rC see (stR sts q.1) a q.2)]
 exact List.map_congr_left fun x _=>wN x
theorem bX4 {see:List (BitVec 64)} {sts:List (List (BitVec 64))} {a:Nat} {q:Nat × Nat} {h:List Int} (e:h=sJ see sts a q):us (bvL h)= rows .u64 h:=by subst e;rw [aB4,kK]; rfl
theorem aRt {see:List (BitVec 64)} {sts:List (List (BitVec 64))} {T a:Nat} {h:List Int}:h ∈ iQ see sts T a ↔ ∃ r t,r<sts.length/\t<T/\h=sJ see sts a (r,t):=by
 unfold iQ;rw [aZ5,(rJ _).mem_iff];simp only [List.mem_map]
 constructor
 ·rintro ⟨⟨r,t⟩,hq,rfl⟩
  by_cases hT:1<=T
  ·simp only [ptN,List.mem_map,List.mem_range] at hq;obtain⟨i,hi,e⟩:=hq;simp only [Prod.mk.injEq] at e
   refine⟨r,t,?_,?_,rfl⟩
   ·rw [<- e.1]; exact Nat.div_lt_of_lt_mul (by rw [Nat.mul_comm]; exact hi)
   ·rw [<- e.2]; exact Nat.mod_lt _ (by omega)
  ·obtain rfl:T=0:=by omega
   simp [ptN] at hq
 ·rintro ⟨r,t,hr,ht,rfl⟩;exact⟨(r,t),aNz ⟨hr,ht⟩,rfl⟩
theorem aXi {see:List (BitVec 64)} {sts:List (List (BitVec 64))} {a r t:Nat} (h:t<(stR sts r).length):(sJ see sts a (r,t)).length=t+1:=by unfold sJ;rw [List.length_map];exact aXh h
def gW (see:List (BitVec 64)) (sts:List (List (BitVec 64))) (a:Nat) (h:List Int):Nat:=(List.range sts.length).findIdx fun r=>decide (sJ see sts a (r,h.length-1)= h)
def aOo (p:PrA) (sts:List (List (BitVec 64))) (a:Nat) (h:List Int):ChA:=⟨a,bvL h,gU p sts (h.length-1) a (gW p.see sts a h)⟩
def mW (p:PrA) (sts:List (List (BitVec 64))) (T a:Nat):List ChA:=(iQ p.see sts T a).map (aOo p sts a)
def aJ7 (p:PrA) (sts:List (List (BitVec 64))) (T:Nat):List ChA:=(List.range p.see.length).flatMap (mW p sts T)
theorem aQq {see:List (BitVec 64)} {sts:List (List (BitVec 64))} {a T:Nat} {h:List Int} (hm:h ∈ iQ see sts T a) (hl:∀ st ∈ sts,T<=st.length) :
  gW see sts a h<sts.length/\sJ see sts a (gW see sts a h,h.length-1)= h/\1<=h.length/\h.length<=T:=by
 obtain⟨r,t,hr,ht,e⟩:=aRt.1 hm;have hlen:=aXi (see:=see) (a:=a) (sts:=sts) (r:=r) (t:=t) (by have:=hl _ (sX hr); omega);rw [<- e] at hlen;have:=lF (n:=sts.length) (q:=fun r=>decide (sJ see sts a (r,h.length-1)= h)) ⟨r,hr,by rw [hlen,Nat.add_sub_cancel,<- e]; simp⟩;refine⟨this.1,?_,by omega,by omega⟩;have h2:=this.2;simp only [decide_eq_true_eq] at h2;exact h2
theorem aUm {see:List (BitVec 64)} {sts:List (List (BitVec 64))} {a r:Nat} {h:List Int} (hr:r<sts.length) (e:sJ see sts a (r,h.length-1)= h) (hf:∀ i,i<r->sJ see sts a (i,h.length-1)≠ h):gW see sts a h=r:=by unfold gW;refine List.findIdx_eq (by simpa using hr) |>.2 ⟨by simpa using e,fun j hj=>?_⟩;simpa using hf j hj
end Kb
open Rs Fm Ru Te Kb
namespace Kb
def aVd (p:PrA) (n:Int):List ChA:=if jB p n≠0 then [] else aJ7 p (zQ p (n.toNat-1)) (n.toNat-1)
theorem aFf (l:List ChA) (a:Int) (s:List (BitVec 64)) (m:Int):chR l ++ [[.int .i64 a,.sl 1 (us s),.int .i64 m]]=chR (l ++ [⟨a,s,m⟩]):=by simp [chR,ChA.row]
theorem aY7 (l:List ChA):uO (chR l):=aFg l
theorem aMl : chR [] = []:=rfl
theorem aJp (see:List (BitVec 64)) (sts:List (List (BitVec 64))) (a:Nat):iQ see sts 0 a = []:=by unfold iQ;simp [ptN,aX8,dedup,tM]
theorem aRu (see:List (BitVec 64)) (sts:List (List (BitVec 64))) (T a:Nat):(iQ see sts T a).length<=sts.length*T:=by have h1:(iQ see sts T a).length<=(aX8 ((ptN T (sts.length*T)).map (sJ see sts a))).length:=aV8 _ _;have h2:=(rJ ((ptN T (sts.length*T)).map (sJ see sts a))).length_eq;rw [List.length_map,tV] at h2;omega
theorem aL0 {p:PrA} {sts:List (List (BitVec 64))} {T n:Nat}:((List.range n).flatMap (mW p sts T)).length<=n*(sts.length*T):=by
 induction n with
 | zero=>simp
 | succ n ih=>
  rw [List.range_succ,List.flatMap_append,List.length_append,List.flatMap_cons,List.flatMap_nil,List.append_nil];have h1:(mW p sts T n).length<=sts.length*T:=by unfold mW; rw [List.length_map]; exact aRu _ _ _ _
  rw [Nat.succ_mul];omega
end Kb
theorem aG1 {p:PrA} {sts:List (List (BitVec 64))} {a k:Nat} (ha:a<p.see.length) (hk:k<=5) (hR:1<=sts.length/\sts.length<=16) (hl:∀ st ∈ sts,k<=st.length) :
  yV Tryz.prog 73 [plD p sts,.int .i64 a,.int .i64 ((k:Int)-1)] (.sl 1 (rlu (iQ p.see sts k a))):=by
 by_cases h0:k=0
 ·subst h0;rw [aJp];exact aPk hR.2
 ·exact eN ha ⟨by omega,by omega⟩ hR hl
theorem aOf (p:PrA) (sm:qO p) (n:Int):yV Tryz.prog 21 [p.d,.int .i64 n] (.tup [.sl 3 (chR (aVd p n)),.int .i64 (jB p n)]):=by
 have hQ:=fX p sm n;by_cases c:jB p n=0
 case neg=>
  have c':(jB p n != 0)= true:=by simpa using c
  have hD:aVd p n = []:=by unfold aVd; rw [if_pos c]
  rw [hD,aMl];unfold PrA.d PrA.cells at *;refine xX.xP mixed Tryz.func21 k21 (by simp) fun hf=>?_;simp only [simprocAttr,-ZA,↓zU,↓zD,zV,zT,zW]
  (repeat refine sd ?_)
  refine .go (cr hQ) ?_;simp only [simprocAttr,-ZA,↓zU,↓zD,zV,zT,zW,c'];exact .drop (by simp) (by simp [vw,vwL])
 have c':(jB p n != 0)= false:=by simpa using c
 obtain⟨F,k,hv,rfl,hk⟩:=oW c;have hP:=aSf hv (n:=k) (by omega);have hS:=rA hv k
 have hD:aVd p ((k+1:Nat):Int)= aJ7 p (zQ p k) k:=by unfold aVd;rw [if_neg (by simpa using c),Int.toNat_natCast,Nat.add_sub_cancel]
 rw [hD];have hlen:=hS.len;have hI:=hv.hI;have hA:=hv.hA;have hrun:=hS.run;have hgood:=fun t ht=>hS.aE6 hv (t:=t) ht (by omega);generalize zQ p k=sts at *;have hpm:=fun t ht=>jG hv (hgood t ht);have hha:=fun a ha=>aG1 (p:=p) (sts:=sts) (a:=a) (k:=k) ha hk (by omega) fun st hs=>by rw [hrun st hs]; omega
 have hh:∀ a r t,a<p.see.length->r<sts.length->t<=k->yV Tryz.prog 75 [plD p sts,.int .i64 a,.int .i64 r,.int .i64 t] (.sl 1 (rows .u64 (sJ p.see sts a (r,t)))):=fun a r t ha hr ht=>by have:=pL (pH p ha hr (show t<(sts.getD r []).length by have:=hrun _ (xN (d:=[]) hr); omega) (by omega));rw [kK] at this;exact this
 have hw2:IntKind.i64.wrap (((k+1:Nat):Int)-2)= (k:Int)-1:=by rw [wrap_i64 (by omega)]; omega
 unfold PrA.d PrA.cells plD plC at *;refine xX.xP mixed Tryz.func21 k21 (by simp) fun hf=>?_;simp only [simprocAttr,-ZA,↓zU,↓zD,zV,zT,zW]
 (repeat refine sd ?_)
 refine .go (cr hQ) ?_;simp only [simprocAttr,-ZA,↓zU,↓zD,zV,zT,zW,c'];refine .go (cr hP) ?_;simp only [simprocAttr,-ZA,↓zU,↓zD,zV,zT,zW,xO]
 refine xW (fun a:Nat=>[(26,.int .i64 a),(25,.int .i64 p.see.length),(8,yX 1 3 (chR ((List.range a).flatMap (mW p sts k)))),(7,.ptr [.int .i64 p.F,.sl 1 (us p.init),.sl 1 (us p.see),.sl 1 (mvR p.xL),.sl 1 (cdR p.code),.sl 1 (rr sts)]),(1,.int .i64 ((k+1:Nat):Int))])
  (fun a=>⟨2,yW 1 3 (chR ((List.range a).flatMap (mW p sts k)))⟩) (fun a=>a<=p.see.length) (fun a=>p.see.length-a) 0 (Nat.zero_le _) ?_ ?_
 ·(refine xI.ren [] [] (by simp) (by simp) (by decide) ?_; simp only [yQ,vwL,vw,vwF,sw,St.get,St.look,Fr.get,simprocAttr,-ZA,exists_eq_left',ne_eq,zR,List.range_zero,List.flatMap_nil,aMl,zK,zL])
 intro a ha;refine xQ mixed ?_;by_cases hal:a<p.see.length
 case neg=>
  have hd:¬ ((a:Int)<(p.see.length:Int)):=by omega
  obtain rfl:a=p.see.length:=by omega
  simp only [simprocAttr,-ZA,↓zU,↓zD,zV,zT,zW,hd];rw [show (List.range p.see.length).flatMap (mW p sts k)= aJ7 p sts k from rfl,c]
  (refine nB.ren [] [] (by simp) (by simp) (by decide) ?_; simp only [yQ,vwL,vw,vwF,sw,St.get,St.look,Fr.get,simprocAttr,-ZA,exists_eq_left',ne_eq,zR,aY7])
 have hd:((a:Int)<(p.see.length:Int)):=by omega
 have h73:=hha a hal;have hsu:(List.range (a+1)).flatMap (mW p sts k)= (List.range a).flatMap (mW p sts k)++ mW p sts k a:=by rw [List.range_succ,List.flatMap_append]; simp
 have hla:((List.range a).flatMap (mW p sts k)).length<=4*(16*5):=by have h1:=aL0 (p:=p) (sts:=sts) (T:=k) (n:=a);have h2:sts.length*k<=16*5:=Nat.mul_le_mul (by omega) hk;have h3:a*(sts.length*k)<=4*(16*5):=Nat.mul_le_mul (by omega) h2;omega
 have hpa:mW p sts k a=(iQ p.see sts k a).map (aOo p sts a):=rfl;rw [hpa] at hsu
 have hlk:(iQ p.see sts k a).length<=16*5:=by have h1:=aRu p.see sts k a;have h2:sts.length*k<=16*5:=Nat.mul_le_mul (by omega) hk;omega
 have hmm:=fun h (hm:h ∈ iQ p.see sts k a)=>aQq hm (fun st hs=>by rw [hrun st hs]; omega);have hms:=fun h (hm:h ∈ iQ p.see sts k a)=>aRt.1 hm;generalize iQ p.see sts k a=hs at *;generalize (List.range a).flatMap (mW p sts k)= L at *;simp only [simprocAttr,-ZA,↓zU,↓zD,zV,zT,zW,hd,hw2];refine .go (cr h73) ?_;simp only [simprocAttr,-ZA,↓zU,↓zD,zV,zT,zW,vP]
 refine xW (fun j:Nat=>[(35,.int .i64 j),(34,.int .i64 hs.length),(33,.sl 1 (rlu hs)),(26,.int .i64 a),(25,.int .i64 p.see.length),(9,.int .i64 a),(8,yX 1 3 (chR (L++(hs.take j).map (aOo p sts a)))),(7,.ptr [.int .i64 p.F,.sl 1 (us p.init),.sl 1 (us p.see),.sl 1 (mvR p.xL),.sl 1 (cdR p.code),.sl 1 (rr sts)]),(1,.int .i64 ((k+1:Nat):Int))])
  (fun j=>⟨2,yW 1 3 (chR (L++(hs.take j).map (aOo p sts a)))⟩) (fun j=>j<=hs.length) (fun j=>hs.length-j) 0 (Nat.zero_le _) ?_ ?_
 ·rw [List.take_zero,List.map_nil,List.append_nil]
  (refine xI.same ?_; simp only [xR,Fr.get,simprocAttr,-ZA,zS])
  all_goals rfl
 intro j hj;refine xQ mixed ?_;by_cases hjl:j<hs.length
 case neg=>
  have hd2:¬ ((j:Int)<(hs.length:Int)):=by omega
  rw [List.take_of_length_le (by omega),<- hsu];simp only [simprocAttr,-ZA,↓zU,↓zD,zV,zT,zW,hd2];refine⟨a+1,by omega,?_,by omega⟩
  (refine xI.same ?_; simp only [xR,Fr.get,simprocAttr,-ZA,zS])
  exact wI (by omega)
 have hd2:((j:Int)<(hs.length:Int)):=by omega
 have hgh:=rS hs hjl;have hmem:=xN (d:=[]) hjl;obtain⟨m1,m2,m3,m4⟩:=hmm _ hmem;obtain⟨r0,t0,hr0,ht0,e0⟩:=hms _ hmem;have hub:=bX4 e0;have hsj:(hs.take (j+1)).map (aOo p sts a)= (hs.take j).map (aOo p sts a)++ [aOo p sts a (hs.getD j [])]:=by rw [yB (d:=[]) hjl,List.map_append]; rfl
 have hlj:(L++(hs.take j).map (aOo p sts a)).length=L.length+j:=by rw [List.length_append,List.length_map,List.length_take]; omega
 have hfirst:=fun r=>@aUm p.see sts a r (hs.getD j []);have hch:aOo p sts a (hs.getD j [])= ⟨a,bvL (hs.getD j []),gU p sts ((hs.getD j []).length-1) a (gW p.see sts a (hs.getD j []))⟩:=rfl;rw [hch] at hsj;have hidx:L++(hs.take (j+1)).map (aOo p sts a)= (L++(hs.take j).map (aOo p sts a))++ [⟨a,bvL (hs.getD j []),gU p sts ((hs.getD j []).length-1) a (gW p.see sts a (hs.getD j []))⟩]:=by rw [hsj,List.append_assoc]
 generalize L++(hs.take j).map (aOo p sts a)= LL at *;generalize hs.getD j []=h at *;have hwt:IntKind.i64.wrap ((h.length:Int)-1)= ((h.length-1:Nat):Int):=by rw [wrap_i64 (by omega)]; omega
 generalize ht:h.length-1=t at *;have htk:t<=k:=by omega
 simp only [simprocAttr,-ZA,↓zU,↓zD,zV,zT,zW,hd2,vP,hgh,xE,hwt]
 (repeat refine sd ?_)
 refine xW (fun r:Nat=>[(13,.int .i64 r),(12,.int .i64 t),(11,.sl 1 (rows .u64 h)),(35,.int .i64 j),(34,.int .i64 hs.length),(33,.sl 1 (rlu hs)),(26,.int .i64 a),(25,.int .i64 p.see.length),(9,.int .i64 a),(8,yX 1 3 (chR LL)),(7,.ptr [.int .i64 p.F,.sl 1 (us p.init),.sl 1 (us p.see),.sl 1 (mvR p.xL),.sl 1 (cdR p.code),.sl 1 (rr sts)]),(1,.int .i64 ((k+1:Nat):Int))])
  (fun _=>⟨2,yW 1 3 (chR LL)⟩) (fun r=>r<=gW p.see sts a h/\∀ i,i<r->sJ p.see sts a (i,t)≠ h) (fun r=>sts.length-r) 0 ⟨Nat.zero_le _,fun i hi=>absurd hi (Nat.not_lt_zero _)⟩ ?_ ?_
 ·(refine xI.same ?_; simp only [xR,Fr.get,simprocAttr,-ZA,zS])
  all_goals rfl
 intro r ⟨hr1,hr2⟩;refine xQ mixed ?_;have h75:=hh a r t hal (by omega) htk;have heq:=aXn (sJ p.see sts a (r,t)) h;have hff:=hfirst r (by omega);by_cases hq:sJ p.see sts a (r,t)= h
 case neg=>
  have hrlt:r<gW p.see sts a h:=by
   rcases Nat.lt_or_ge r (gW p.see sts a h) with h1 | h1
   ·exact h1
   ·exact absurd (by rw [show r=gW p.see sts a h by omega]; exact m2) hq
  have hq2:∀ i,i=r->sJ p.see sts a (i,t)≠ h:=fun i e=>e ▸ hq;rw [decide_eq_false hq] at heq;generalize sJ p.see sts a (r,t)= x at *;simp only [simprocAttr,-ZA,↓zU,↓zD,zV,zT,zW];refine .go (cr h75) ?_;simp only [simprocAttr,-ZA,↓zU,↓zD,zV,zT,zW];refine .go (cr heq) ?_;simp only [simprocAttr,-ZA,↓zU,↓zD,zV,zT,zW]
  refine⟨r+1,⟨by omega,fun i hi=>?_⟩,?_,by omega⟩
  ·by_cases e:i=r
   ·exact hq2 i e
   ·exact hr2 i (by omega)
  (refine xI.same ?_; simp only [xR,Fr.get,simprocAttr,-ZA,zS])
  exact wI (by omega)
 rw [decide_eq_true hq] at heq;have hro:=hff hq hr2;have hrs:r<sts.length:=by omega
 rw [hro] at hidx;have h76:=hpm t htk;have hmg:=nY (vN p sts t) (show a<_ by rw [lT]; exact hal);have hrow:(vN p sts t).getD a []=(List.range sts.length).map fun w=>gU p sts t a w:=by simp [vN,List.getD,hal]
 rw [hrow] at hmg;have hgw:=yZ .i64 ((List.range sts.length).map fun w=>gU p sts t a w) (show r<_ by simpa using hrs);have hgw2:((List.range sts.length).map fun w=>gU p sts t a w).getD r 0=gU p sts t a r:=by simp [List.getD,hrs]
 rw [hgw2] at hgw;have hml:=lT p sts t;have hrl2:((List.range sts.length).map fun w=>gU p sts t a w).length=sts.length:=by simp
 have hda:((a:Int)<(p.see.length:Int)):=by omega
 have hdr:((r:Int)<(sts.length:Int)):=by omega
 generalize (List.range sts.length).map (fun w=>gU p sts t a w)= row at *;generalize gU p sts t a r=z at *;generalize vN p sts t=M at *;generalize sJ p.see sts a (r,t)= x at *;simp only [simprocAttr,-ZA,↓zU,↓zD,zV,zT,zW];refine .go (cr h75) ?_;simp only [simprocAttr,-ZA,↓zU,↓zD,zV,zT,zW];refine .go (cr heq) ?_;simp only [simprocAttr,-ZA,↓zU,↓zD,zV,zT,zW];refine .go (cr h76) ?_;simp only [simprocAttr,-ZA,↓zU,↓zD,zV,zT,zW,zA,hml,hda,hmg,xE,hrl2,hdr,hgw,vX,hlj]
 (repeat refine sd ?_)
 refine⟨j+1,by omega,?_,by omega⟩;rw [hidx,<- hub]
 (refine xI.ren [(1,2)] [1] (by simp) (by simp) (by decide) ?_; simp only [yQ,vwL,vw,vwF,sw,St.get,St.look,Fr.get,simprocAttr,-ZA,exists_eq_left',ne_eq,zR,aFf,aY7])
 exact wI (by omega)
open Rs Fm Ru Te Kb
theorem aS0 {σ:St} {g:FuncId} {caps:List D} {f:ChA->Bool} {c:List (ChA)} (hl:c.length<=2000000) (h:∀ x ∈ c,xX Tryz.prog g ([.agg x.row]++caps) σ (.bool (f x)) σ):xX Tryz.prog 136 [.sl 3 (chR c),.fn g caps] σ (.int .i64 (ixF f c 0)) σ:=by
 refine xX.xP mixed Tryz.func136 bTm (by simp) fun hf=>?_;simp only [simprocAttr,-ZA,↓zU,↓zD,zV,zT,zW,vX]
 refine xW (fun k:Nat=>[(8,.int .i64 k),(7,.int .i64 c.length),(1,.fn g caps),(0,.sl 3 (chR c))]) (fun _=>σ) (fun k=>k<=c.length/\ixF f c 0=ixF f (c.drop k) k) (fun k=>c.length-k) 0 ⟨Nat.zero_le _,rfl⟩ ?_ ?_
 ·(refine xI.same ?_; simp [xR,Fr.get])
 intro k ⟨hk,hi⟩;refine xQ mixed ?_
 by_cases hh:k<c.length
 ·have hd:((k:Int)<(c.length:Int)):=by omega
  have hg:=aQ c hh;unfold ChA.row at hg;have hcall:=h _ (xN (d:=ch0) hh);unfold ChA.row at hcall;rw [drop_cons (d:=ch0) hh,ixF] at hi;simp only [simprocAttr,-ZA,↓zU,↓zD,zV,zT,zW,hd,vX,hg]
  (repeat refine sd ?_)
  refine .go hcall ?_
  cases hx:f (c.getD k ch0)
  ·rw [hx,if_neg (by simp)] at hi;simp only [simprocAttr,-ZA,↓zU,↓zD,zV,zT,zW];refine⟨k+1,⟨by omega,hi⟩,?_,by omega⟩
   (refine xI.same ?_; simp only [xR,Fr.get,simprocAttr,-ZA,zS])
   exact wrap_i64 (by omega)
  ·rw [hx,if_pos rfl] at hi;simp only [simprocAttr,-ZA,↓zU,↓zD,zV,zT,zW];rw [hi];exact .same
 ·have hd:¬ ((k:Int)<(c.length:Int)):=by omega
  rw [List.drop_eq_nil_of_le (by omega),ixF] at hi;simp only [simprocAttr,-ZA,↓zU,↓zD,zV,zT,zW,hd];rw [hi];exact .same
theorem aU0 {σ:St} {g:FuncId} {caps:List D} {f:ChA->Bool} {c:List (ChA)} (hl:c.length<=2000000) (h:∀ x ∈ c,xX Tryz.prog g ([.agg x.row]++caps) σ (.bool (f x)) σ):xX Tryz.prog 195 [.sl 3 (chR c),.fn g caps] σ (.bool (c.any f)) σ:=by
 refine xX.xP mixed Tryz.func195 bUx (by simp) fun hf=>?_;simp only [simprocAttr,-ZA,↓zU,↓zD,zV,zT,zW];refine .go (aS0 hl h) ?_;have hx:=nN (f:=f) (c:=c) (i:=0) (Int.le_refl 0)
 cases ha:c.any f
 ·have h1:¬ 0<=ixF f c 0:=fun y=>by rw [hx.1 y] at ha; cases ha
  simp only [simprocAttr,-ZA,↓zU,↓zD,zV,zT,zW,h1];exact .same
 ·have h1:=hx.2 ha;simp only [simprocAttr,-ZA,↓zU,↓zD,zV,zT,zW,h1];exact .same
namespace Kb
def aOp (p:PrA) (c:ChA):Bool:=decide (c.ag<0) || decide ((p.see.length:Int)<=c.ag) || decide (c.seen.length=0) || decide (c.mv < -1) || decide ((p.xL.length:Int)<=c.mv)
def bZr (p:PrA) (c:ChA):Bool:=c.seen.any fun s=>!decide (s &&& ~~~(p.see.getD c.ag.toNat 0)= 0#64)
def iY (ag:Int) (h:List (BitVec 64)) (d:ChA):Bool:=decide (d.ag=ag)&& decide (d.seen=h)
def chE (p:PrA) (l:List ChA) (i:Nat):Int:=if aOp p (l.getD i ch0)= true then 3 else if bZr p (l.getD i ch0)= true then 3 else if (l.take i).any (iY (l.getD i ch0).ag (l.getD i ch0).seen)= true then 7 else 0
def wU (p:PrA) (l:List ChA):Int:=wC (chE p l) (List.range l.length)
structure aYr (l : List ChA) : Prop where
 len:l.length<=2000000
 seen:∀ c ∈ l,c.seen.length<=1000
theorem aPt {f:Nat->Int} {n k:Nat} (h:k<=n) (hz:∀ i,i<k->f i=0):k<n->f k≠0->wC f (List.range n)= f k:=by
 intro hk hf
 have key:∀ (m s:Nat),s<=k->k<s+m->(∀ i,s<=i->i<k->f i=0)->wC f (List.range' s m)= f k:=by
  intro m
  induction m with
  | zero=>intro s h1 h2; omega
  | succ m ih=>
   intro s h1 h2 h3;rw [List.range'_succ];unfold wC
   by_cases e:s=k
   ·subst e; rw [if_pos hf]
   ·rw [if_neg (by simpa using h3 s (Nat.le_refl _) (by omega))];exact ih (s+1) (by omega) (by omega) fun i hi hi2=>h3 i (by omega) hi2
 rw [List.range_eq_range'];exact key n 0 (Nat.zero_le _) (by omega) fun i _ hi=>hz i hi
theorem aK1 {f:Nat->Int} {n:Nat} (hz:∀ i,i<n->f i=0):wC f (List.range n)= 0:=sS.2 fun i hi=>hz i (List.mem_range.1 hi)
theorem aM7 {a b:List (BitVec 64)}:a.map ui=b.map ui ↔ a=b:=⟨fun h=>(List.map_inj_right fun x y=>aO9.1).1 h,fun h=>by rw [h]⟩
end Kb
theorem aRc (a b:List (BitVec 64)):yV Tryz.prog 74 [.sl 1 (us a),.sl 1 (us b)] (.bool (decide (a=b))):=by
 have h:=aMh (a:=a) (b:=b)
 rwa [show decide (a.map ui=b.map ui)= decide (a=b) by rw [Bool.eq_iff_iff,decide_eq_true_eq,decide_eq_true_eq,aM7]] at h
theorem bYg {p:PrA} {c:ChA} {nx k:Nat} {xS:List (Nat × Ob)} (h0:St.look xS 0=some ⟨5,[p.cells]⟩) (h1:St.look xS k=some ⟨3,[c.row]⟩) (hc:0<=c.ag/\c.ag<p.see.length) (s:BitVec 64) :
  xX Tryz.prog 194 ([.int .u64 (ui s)] ++ [.ref 0 5 0 0,.ref k 3 0 0]) ⟨nx,xS⟩ (.bool (!decide (s &&& ~~~(p.see.getD c.ag.toNat 0)= 0#64))) ⟨nx,xS⟩:=by
 unfold PrA.cells at h0;unfold ChA.row at h1;have hg:=zE p.see (show c.ag.toNat<p.see.length by omega);generalize p.see.getD c.ag.toNat 0=m at hg ⊢;have hlt:(c.ag<(p.see.length:Int)):=hc.2;refine xX.xP mixed Tryz.func194 bUy (by simp) fun hf=>?_;simp only [simprocAttr,-ZA,↓zU,↓zD,zV,zT,zW,h0,h1,xO,hlt,hg]
 (repeat refine sd ?_)
 by_cases hx:s &&& ~~~m=0#64
 ·have ex:(s &&& ~~~m != 0#64)= false:=by simpa using hx
  rw [decide_eq_true hx];simp only [simprocAttr,-ZA,↓zU,↓zD,zV,zT,zW,ex]
  (repeat refine sd ?_)
  exact .same
 ·have ex:(s &&& ~~~m != 0#64)= true:=by simpa using hx
  rw [decide_eq_false hx];simp only [simprocAttr,-ZA,↓zU,↓zD,zV,zT,zW,ex]
  (repeat refine sd ?_)
  exact .same
theorem aD6 {c:ChA} {nx k:Nat} {xS:List (Nat × Ob)} (h1:St.look xS k=some ⟨3,[c.row]⟩) (d:ChA) :
  xX Tryz.prog 196 ([.agg d.row] ++ [.ref k 3 0 0]) ⟨nx,xS⟩ (.bool (iY c.ag c.seen d)) ⟨nx,xS⟩:=by
 refine xX.aO8 ⟨_,Tryz.func196,by kernel_rfl,by kernel_rfl⟩ fun hu=>xX.clean ?_;have hk:=(hu k _ h1).1;simp only at hk;have y1:¬ nx=k:=by omega
 have he:=aRc d.seen c.seen;unfold ChA.row at h1 ⊢;unfold iY;refine xX.xP mixed Tryz.func196 bUw (by simp) fun hf=>?_
 by_cases ha:d.ag=c.ag
 ·have ha':(d.ag==c.ag)= true:=by simpa using ha
  rw [decide_eq_true ha,Bool.true_and];simp only [simprocAttr,-ZA,↓zU,↓zD,zV,zT,zW,h1,y1,ha']
  (repeat refine sd ?_)
  refine .go (cr he) ?_;simp only [simprocAttr,-ZA,↓zU,↓zD,zV,zT,zW];exact .gone hu (aIa hu _ _) (by simp only [vw])
 ·have ha':(d.ag==c.ag)= false:=by simpa using ha
  rw [decide_eq_false ha,Bool.false_and];simp only [simprocAttr,-ZA,↓zU,↓zD,zV,zT,zW,h1,y1,ha']
  (repeat refine sd ?_)
  exact .gone hu (aIa hu _ _) (by simp only [vw])
theorem aK9 {a:Int} {h:List (BitVec 64)} {nx k k2:Nat} {xS:List (Nat × Ob)} (h1:St.look xS k=some ⟨1,[[.int .i64 a]]⟩) (h2:St.look xS k2=some ⟨1,[[.sl 1 (us h)]]⟩) (d:ChA) :
  xX Tryz.prog 137 ([.agg d.row] ++ [.ref k 1 0 0,.ref k2 1 0 0]) ⟨nx,xS⟩ (.bool (iY a h d)) ⟨nx,xS⟩:=by
 refine xX.aO8 ⟨_,Tryz.func137,by kernel_rfl,by kernel_rfl⟩ fun hu=>xX.clean ?_;have hk:=(hu k _ h1).1;have hk2:=(hu k2 _ h2).1;simp only at hk hk2;have y1:¬ nx=k:=by omega
 have y2:¬ nx=k2:=by omega
 have he:=aRc d.seen h;unfold ChA.row;unfold iY;refine xX.xP mixed Tryz.func137 bTl (by simp) fun hf=>?_
 by_cases ha:d.ag=a
 ·have ha':(d.ag==a)= true:=by simpa using ha
  rw [decide_eq_true ha,Bool.true_and];simp only [simprocAttr,-ZA,↓zU,↓zD,zV,zT,zW,h1,h2,y1,y2,ha']
  (repeat refine sd ?_)
  refine .go (cr he) ?_;simp only [simprocAttr,-ZA,↓zU,↓zD,zV,zT,zW];exact .gone hu (aIa hu _ _) (by simp only [vw])
 ·have ha':(d.ag==a)= false:=by simpa using ha
  rw [decide_eq_false ha,Bool.false_and];simp only [simprocAttr,-ZA,↓zU,↓zD,zV,zT,zW,h1,h2,y1,y2,ha']
  (repeat refine sd ?_)
  exact .gone hu (aIa hu _ _) (by simp only [vw])
theorem aP2 (p:PrA) (l:List ChA) (sm:aYr l):yV Tryz.prog 134 [p.d,.sl 3 (chR l)] (.int .i64 (wU p l)):=by
 have hD:p.d = .agg [.int .i64 p.F,.sl 1 (us p.init),.sl 1 (us p.see),.sl 1 (mvR p.xL),.sl 1 (cdR p.code)]:=rfl;have hll:=sm.len;rw [hD];refine xX.xP mixed Tryz.func134 bTn (by simp) fun hf=>?_;simp only [simprocAttr,-ZA,↓zU,↓zD,zV,zT,zW,vX]
 (repeat refine sd ?_)
 refine xW (fun i:Nat=>[(9,.int .i64 i),(8,.int .i64 l.length),(7,.sl 3 (chR l)),(2,.ref 0 5 0 0),(1,.sl 3 (chR l))]) (fun _=>⟨1,[(0,⟨5,[p.cells]⟩)]⟩)
  (fun i=>i<=l.length/\∀ j,j<i->chE p l j=0) (fun i=>l.length-i) 0 ⟨Nat.zero_le _,fun j hj=>absurd hj (Nat.not_lt_zero _)⟩ ?_ ?_
 ·unfold PrA.cells; (refine xI.same ?_; simp [xR,Fr.get])
 intro i ⟨hi,hz⟩;refine xQ mixed ?_;by_cases hil:i<l.length
 case neg=>
  have hd:¬ ((i:Int)<(l.length:Int)):=by omega
  rw [show wU p l=0 from aK1 fun j hj=>hz j (by omega)];unfold PrA.cells;simp only [simprocAttr,-ZA,↓zU,↓zD,zV,zT,zW,hd];exact .dv
 have hd:((i:Int)<(l.length:Int)):=by omega
 have hg:=aQ l hil;have hend:∀ e,chE p l i=e->e≠0->wU p l=e:=fun e h1 h2=>by rw [<- h1]; exact aPt hi hz hil (by rw [h1]; exact h2)
 have hE:chE p l i=if aOp p (l.getD i ch0)= true then 3 else if bZr p (l.getD i ch0)= true then 3 else if (l.take i).any (iY (l.getD i ch0).ag (l.getD i ch0).seen)= true then 7 else 0:=rfl;have hsm:=sm.seen _ (xN (d:=ch0) hil);generalize l.getD i ch0=c at hg hE hsm;unfold ChA.row at hg;unfold PrA.cells;have bad:aOp p c=true->wU p l=3:=fun h=>hend 3 (by rw [hE,if_pos h]) (by decide)
 by_cases c1:c.ag<0
 ·rw [bad (by unfold aOp; simp [c1])];simp only [simprocAttr,-ZA,↓zU,↓zD,zV,zT,zW,hd,vX,hg,c1]
  (repeat refine sd ?_)
  exact .dv
 by_cases c2:(p.see.length:Int)<=c.ag
 ·rw [bad (by unfold aOp; simp [c2])];simp only [simprocAttr,-ZA,↓zU,↓zD,zV,zT,zW,hd,vX,hg,c1,xO,c2]
  (repeat refine sd ?_)
  exact .dv
 by_cases c3:c.seen.length=0
 ·have c3':((c.seen.length:Int)== 0)= true:=by rw [c3]; rfl
  rw [bad (by unfold aOp; simp [c3])];simp only [simprocAttr,-ZA,↓zU,↓zD,zV,zT,zW,hd,vX,hg,c1,xO,c2,c3']
  (repeat refine sd ?_)
  exact .dv
 have c3':((c.seen.length:Int)== 0)= false:=by rw [beq_eq_false_iff_ne]; omega
 by_cases c4:c.mv < -1
 ·rw [bad (by unfold aOp; simp [c4])];simp only [simprocAttr,-ZA,↓zU,↓zD,zV,zT,zW,hd,vX,hg,c1,xO,c2,c3',c4]
  (repeat refine sd ?_)
  exact .dv
 by_cases c5:(p.xL.length:Int)<=c.mv
 ·rw [bad (by unfold aOp; simp [c5])];simp only [simprocAttr,-ZA,↓zU,↓zD,zV,zT,zW,hd,vX,hg,c1,xO,c2,c3',c4,yP,c5]
  (repeat refine sd ?_)
  exact .dv
 have hb:aOp p c=false:=by unfold aOp; simp [c1,c2,c3,c4,c5]
 rw [hb,if_neg (by simp)] at hE;have hstr:=oH (σ:=⟨2,[(1,⟨3,[c.row]⟩),(0,⟨5,[p.cells]⟩)]⟩) (g:=194) (caps:=[.ref 0 5 0 0,.ref 1 3 0 0]) (c:=c.seen) (f:=fun s=>!decide (s &&& ~~~(p.see.getD c.ag.toNat 0)= 0#64)) hsm fun s _=>bYg rfl rfl ⟨by omega,by omega⟩ s;have hsame:=aU0 (σ:=⟨2,[(1,⟨3,[c.row]⟩),(0,⟨5,[p.cells]⟩)]⟩) (g:=196) (caps:=[.ref 1 3 0 0]) (c:=l.take i) (f:=iY c.ag c.seen) (by rw [List.length_take]; omega) fun d _=>aD6 rfl d;have hct:chR (l.take i)= (chR l).take i:=by simp [chR,List.map_take]
 rw [hct] at hsame;unfold PrA.cells at hstr hsame;unfold ChA.row at hstr hsame;have hsE:(c.seen.any fun s=>!decide (s &&& ~~~(p.see.getD c.ag.toNat 0)= 0#64))= bZr p c:=rfl;rw [hsE] at hstr;simp only [simprocAttr,-ZA,↓zU,↓zD,zV,zT,zW,hd,vX,hg,c1,xO,c2,c3',c4,yP,c5]
 (repeat refine sd ?_)
 refine .go hstr ?_
 cases hs:bZr p c with
 | true=> rw [hs,if_pos rfl] at hE;rw [hend 3 hE (by decide)];simp only [simprocAttr,-ZA,↓zU,↓zD,zV,zT,zW];exact .dv
 | false=>
  rw [hs,if_neg (by simp)] at hE;simp only [simprocAttr,-ZA,↓zU,↓zD,zV,zT,zW];refine⟨0,(i:Int),rfl,rfl,by omega,by omega,by rw [vX]; omega,?_⟩;simp only [Int.toNat_natCast,Int.toNat_zero,List.drop_zero];refine .go hsame ?_
  cases hm:(l.take i).any (iY c.ag c.seen) with
  | true=> rw [hm,if_pos rfl] at hE;rw [hend 7 hE (by decide)];simp only [simprocAttr,-ZA,↓zU,↓zD,zV,zT,zW];exact .dv
  | false=>
   rw [hm,if_neg (by simp)] at hE;simp only [simprocAttr,-ZA,↓zU,↓zD,zV,zT,zW]
   refine⟨i+1,⟨by omega,fun j hj=>?_⟩,?_,by omega⟩
   ·by_cases e:j=i
    ·rw [e]; exact hE
    ·exact hz j (by omega)
   (refine xI.ren [] [0] (by simp) (by simp) (by decide) ?_; simp only [yQ,vwL,vw,vwF,sw,St.get,St.look,Fr.get,simprocAttr,-ZA,exists_eq_left',ne_eq,zR])
   exact wI (by omega)
end Go.Pd
