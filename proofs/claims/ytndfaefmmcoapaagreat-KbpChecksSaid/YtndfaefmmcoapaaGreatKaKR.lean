/- Part KR. -/
import Derived.Test.YtndfaefmmcoapaaGreatKaX9
import Derived.Test.YtndfaefmmcoapaaGreatKaX8
import Derived.Test.YtndfaefmmcoapaaGreatKaC8
import Derived.Test.YtndfaefmmcoapaaGreatKaSC
import Derived.Test.YtndfaefmmcoapaaGreatKaKG
set_option linter.unusedSectionVars false
set_option linter.unusedVariables false
set_option linter.unusedSimpArgs false
set_option linter.defProp false
set_option maxRecDepth 20000
set_option maxHeartbeats 1000000
namespace Go.Pd
open Go Go.Proofs
open Int renaming reduceToNat -> ZA, reduceLT -> ZB, reduceLE -> ZC, reduceBEq -> ZD, reduceBNe -> ZE
open Nat renaming reduceEqDiff -> ZF, reduceAdd -> ZG, reduceBEq -> ZH, reduceLT -> ZI, reduceLeDiff -> ZJ, reduceMul -> ZK
def aIy (x y:BitVec 64):BitVec 64:=
 let x0:=x &&& 4294967295#64
 let x1:=x >>> 32
 let y0:=y &&& 4294967295#64
 let y1:=y >>> 32
 let w0:=x0*y0
 let t:=x1*y0+w0 >>> 32
 let w1:=(t &&& 4294967295#64)+ x0*y1
 let w2:=t >>> 32
 x1*y1+w2+w1 >>> 32
theorem aOc : ∀ n:Fin 65,aIy 1#64 (BitVec.ofNat 64 n.val)= 0#64:=by decide +kernel
theorem aB0 : D.int .u64 4294967295=D.int .u64 (ui 4294967295#64):=rfl
theorem aD3 (x y:BitVec 64):yX Tryz.prog 238 [.int .u64 (ui x),.int .u64 (ui y)] (.tup [.int .u64 (ui (aIy x y)),.int .u64 (ui (x*y))]):=by
 refine xX.go_fn mixed Tryz.func238 bXb (by simp) fun hf=>?_;simp only [ZA,ZB,ZC,ZD,ZE,↓reduceIte,ZF,ZG,ZH,ZI,ZJ,reduceCtorEq,ZK,↓zU,↓zD,zV,zT,zW,aB0]
 (repeat refine sd ?_)
 exact .same
theorem aJ7 {n:Nat} (hn:n<=64):yX Tryz.prog 190 [.int .u64 1,.int .u64 (n:Int)] (.tup [.int .u64 0,.int .u64 (n:Int)]):=by
 have h:=aD3 1#64 (BitVec.ofNat 64 n);have e1:aIy 1#64 (BitVec.ofNat 64 n)= 0#64:=aOc ⟨n,by omega⟩;have e2:1#64*BitVec.ofNat 64 n=BitVec.ofNat 64 n:=BitVec.one_mul _;rw [e1,e2,aMp (k:=n) (by omega)] at h;refine xX.go_fn mixed Tryz.func190 bXy (by simp) fun hf=>?_;simp only [aC6,aC7] at *;simp only [ZA,ZB,ZC,ZD,ZE,↓reduceIte,ZF,ZG,ZH,ZI,ZJ,reduceCtorEq,ZK,↓zU,↓zD,zV,zT,zW];refine .go (cr h) ?_;simp only [ZA,ZB,ZC,ZD,ZE,↓reduceIte,ZF,ZG,ZH,ZI,ZJ,reduceCtorEq,ZK,↓zU,↓zD,zV,zT,zW];exact .same
theorem aW6 {els:List (List D)} {n c:Nat} (h:c<=els.length):rowsOf ⟨n,[(0,⟨1,els⟩)]⟩ 1 (.osl 0 1 c)= some (els.take c):=by
 show (if (1:Nat)= 1 then(if 1=1/\c<=els.length then some (els.take c) else none) else none)= _;rw [if_pos rfl,if_pos ⟨rfl,h⟩]
def sU (d z:D) (n c:Nat):List (List D):=List.replicate c [d]++List.replicate (n-c) [z]
theorem aXb {d z:D} {n c:Nat} (h:c<=n):(sU d z n c).length=n:=by simp [sU]; omega
theorem lX {d z:D} {n c:Nat}:(sU d z n c).take c=List.replicate c [d]:=by
 unfold sU;rw [List.take_left' (by simp)]
theorem fB {d z:D} {n c:Nat} (h:c<n):(sU d z n c).take c++(((sU d z n c).take c).take (min (n-c) c)++ (sU d z n c).drop (c+min (n-c) c))= sU d z n (c+min (n-c) c):=by
 rw [lX]
 have e:(sU d z n c).drop (c+min (n-c) c)= List.replicate (n-(c+min (n-c) c)) [z]:=by
  unfold sU;rw [List.drop_append,List.length_replicate,List.drop_eq_nil_of_le (by simp),List.nil_append,List.drop_replicate];congr 1;omega
 rw [e,List.take_replicate,show min (min (n-c) c) c=min (n-c) c by omega];unfold sU;rw [<- List.append_assoc,List.replicate_append_replicate]
theorem iD {d z:D} {n:Nat} (h:1<=n):[[d]].take (min n 1)++ (List.replicate n [z]).drop (min n 1)= sU d z n 1:=by
 rw [Nat.min_eq_right h,List.drop_replicate];rfl
theorem aPy {d:D} (hd:d.isPure=true) (h1:d.one=true) {n:Nat} (hn:1<=n/\n<=64):xX Tryz.prog 131 [.sl 1 [[d]],.int .i64 (n:Int)] St0 (.osl 0 1 n) ⟨1,[(0,⟨1,List.replicate n [d]⟩)]⟩:=by
 have hM:=aJ7 hn.2;have hw:=aI3 (n:=n) (by omega);have hw1:IntKind.u64.wrap ((1:Nat):Int)= 1:=by decide
 have hw2:IntKind.i64.wrap (n:Int)= (n:Int):=wrap_i64 (by omega);have hneg:¬ ((n:Int)<0):=by omega
 refine xX.go_fn mixed Tryz.func131 bYm (by simp) fun hf=>?_;simp only [ZA,ZB,ZC,ZD,ZE,↓reduceIte,ZF,ZG,ZH,ZI,ZJ,reduceCtorEq,ZK,↓zU,↓zD,zV,zT,zW,hneg,hw1,hw,show (1:Nat)= 1 from rfl];simp only [aC6,aC7,show IntKind.u64.wrap 1=1 from by decide] at *;refine .go (cr hM) ?_;have hz:¬ (ui 0#64<ui 0#64):=Int.lt_irrefl _;have hb:¬ ((9223372036854775807:Int)<(n:Int)):=by omega
 have hp1:D.isPureL [d]=true:=by simp [D.isPureL,hd]
 simp only [ZA,ZB,ZC,ZD,ZE,↓reduceIte,ZF,ZG,ZH,ZI,ZJ,reduceCtorEq,ZK,↓zU,↓zD,zV,zT,zW,hz,hb,hw2,h1];refine⟨by omega,by omega,by simp,by omega,?_⟩;rw [Nat.min_eq_right hn.1];have hstart:=iD (d:=d) (z:=D.int .i64 0) hn.1;rw [Nat.min_eq_right hn.1] at hstart;have hlr:(List.replicate n [D.int .i64 0]).length=n:=by simp
 refine xV (fun c:Nat=>[(8,.int .i64 c),(7,.osl 0 1 n)]) (fun c=>⟨1,[(0,⟨1,sU d (D.int .i64 0) n c⟩)]⟩) (fun c=>1<=c/\c<=n) (fun c=>n-c) 1 ⟨Nat.le_refl _,hn.1⟩ ?_ ?_
 ·rw [<- hstart]
  (refine xM.same ?_; simp [xS,Fr.get])
 intro c ⟨hc1,hc2⟩;refine xQ mixed ?_;have hL:=aXb (d:=d) (z:=D.int .i64 0) hc2
 by_cases hcn:c<n
 ·have hd1:((c:Int)<(n:Int)):=by omega
  simp only [ZA,ZB,ZC,ZD,ZE,↓reduceIte,ZF,ZG,ZH,ZI,ZJ,reduceCtorEq,ZK,↓zU,↓zD,zV,zT,zW,hd1];have i1:¬ ((c:Int)= 0):=by omega
  have i2:¬ ((c:Int)= (n:Int)):=by omega
  have hst:=fB (d:=d) (z:=D.int .i64 0) hcn;have htk:=lX (d:=d) (z:=D.int .i64 0) (n:=n) (c:=c);generalize sU d (D.int .i64 0) n c=els at hL hst htk ⊢;refine⟨(c:Int),(n:Int),rfl,rfl,by omega,by omega,by omega,0,(c:Int),rfl,rfl,by omega,by omega,by omega,?_⟩;simp only [↓reduceIte,if_neg i1,if_neg i2,Int.toNat_natCast];first | rw [if_pos ⟨trivial,by omega⟩] | rw [aW6 (by omega)]
  refine⟨fun r hr=>?_,trivial,trivial,by omega,?_⟩
  ·rw [htk] at hr;rw [List.eq_of_mem_replicate hr];simp [h1]
  have hm:(min (n-c) (els.take c).length)= min (n-c) c:=by rw [List.length_take]; omega
  rw [hm];have em:(n:Int).toNat-c=n-c:=by omega
  refine⟨by omega,c+min (n-c) c,⟨by omega,by omega⟩,?_,by omega⟩;rw [hst]
  (refine xM.same ?_; simp only [xS,Fr.get,↓reduceIte,reduceIte,Nat.reduceEqDiff,reduceCtorEq,D.int.injEq,D.bool.injEq,D.sl.injEq,and_true,true_and,and_self])
  rw [wrap_i64 (by omega)];omega
 ·have hd1:¬ ((c:Int)<(n:Int)):=by omega
  obtain rfl:c=n:=by omega
  have he:sU d (D.int .i64 0) c c=List.replicate c [d]:=by simp [sU]
  rw [he];simp only [ZA,ZB,ZC,ZD,ZE,↓reduceIte,ZF,ZG,ZH,ZI,ZJ,reduceCtorEq,ZK,↓zU,↓zD,zV,zT,zW,hd1];exact .same
theorem aPx {d:D} (hd:d.isPure=true) (h1:d.one=true) {n:Nat} (hn:1<=n/\n<=64):xX Tryz.prog 224 [.sl 1 [[d]],.int .i64 (n:Int)] St0 (.osl 0 1 n) ⟨1,[(0,⟨1,List.replicate n [d]⟩)]⟩:=by
 have hM:=aJ7 hn.2;have hw:=aI3 (n:=n) (by omega);have hw1:IntKind.u64.wrap ((1:Nat):Int)= 1:=by decide
 have hw2:IntKind.i64.wrap (n:Int)= (n:Int):=wrap_i64 (by omega);have hneg:¬ ((n:Int)<0):=by omega
 refine xX.go_fn mixed Tryz.func224 bXf (by simp) fun hf=>?_;simp only [ZA,ZB,ZC,ZD,ZE,↓reduceIte,ZF,ZG,ZH,ZI,ZJ,reduceCtorEq,ZK,↓zU,↓zD,zV,zT,zW,hneg,hw1,hw,show (1:Nat)= 1 from rfl];simp only [aC6,aC7,show IntKind.u64.wrap 1=1 from by decide] at *;refine .go (cr hM) ?_;have hz:¬ (ui 0#64<ui 0#64):=Int.lt_irrefl _;have hb:¬ ((9223372036854775807:Int)<(n:Int)):=by omega
 have hp1:D.isPureL [d]=true:=by simp [D.isPureL,hd]
 simp only [ZA,ZB,ZC,ZD,ZE,↓reduceIte,ZF,ZG,ZH,ZI,ZJ,reduceCtorEq,ZK,↓zU,↓zD,zV,zT,zW,hz,hb,hw2,h1];refine⟨by omega,by omega,by simp,by omega,?_⟩;rw [Nat.min_eq_right hn.1];have hstart:=iD (d:=d) (z:=D.nils) hn.1;rw [Nat.min_eq_right hn.1] at hstart;have hlr:(List.replicate n [D.nils]).length=n:=by simp
 refine xV (fun c:Nat=>[(8,.int .i64 c),(7,.osl 0 1 n)]) (fun c=>⟨1,[(0,⟨1,sU d (D.nils) n c⟩)]⟩) (fun c=>1<=c/\c<=n) (fun c=>n-c) 1 ⟨Nat.le_refl _,hn.1⟩ ?_ ?_
 ·rw [<- hstart]
  (refine xM.same ?_; simp [xS,Fr.get])
 intro c ⟨hc1,hc2⟩;refine xQ mixed ?_;have hL:=aXb (d:=d) (z:=D.nils) hc2
 by_cases hcn:c<n
 ·have hd1:((c:Int)<(n:Int)):=by omega
  simp only [ZA,ZB,ZC,ZD,ZE,↓reduceIte,ZF,ZG,ZH,ZI,ZJ,reduceCtorEq,ZK,↓zU,↓zD,zV,zT,zW,hd1];have i1:¬ ((c:Int)= 0):=by omega
  have i2:¬ ((c:Int)= (n:Int)):=by omega
  have hst:=fB (d:=d) (z:=D.nils) hcn;have htk:=lX (d:=d) (z:=D.nils) (n:=n) (c:=c);generalize sU d (D.nils) n c=els at hL hst htk ⊢;refine⟨(c:Int),(n:Int),rfl,rfl,by omega,by omega,by omega,0,(c:Int),rfl,rfl,by omega,by omega,by omega,?_⟩;simp only [↓reduceIte,if_neg i1,if_neg i2,Int.toNat_natCast];first | rw [if_pos ⟨trivial,by omega⟩] | rw [aW6 (by omega)]
  refine⟨fun r hr=>?_,trivial,trivial,by omega,?_⟩
  ·rw [htk] at hr;rw [List.eq_of_mem_replicate hr];simp [h1]
  have hm:(min (n-c) (els.take c).length)= min (n-c) c:=by rw [List.length_take]; omega
  rw [hm];have em:(n:Int).toNat-c=n-c:=by omega
  refine⟨by omega,c+min (n-c) c,⟨by omega,by omega⟩,?_,by omega⟩;rw [hst]
  (refine xM.same ?_; simp only [xS,Fr.get,↓reduceIte,reduceIte,Nat.reduceEqDiff,reduceCtorEq,D.int.injEq,D.bool.injEq,D.sl.injEq,and_true,true_and,and_self])
  rw [wrap_i64 (by omega)];omega
 ·have hd1:¬ ((c:Int)<(n:Int)):=by omega
  obtain rfl:c=n:=by omega
  have he:sU d (D.nils) c c=List.replicate c [d]:=by simp [sU]
  rw [he];simp only [ZA,ZB,ZC,ZD,ZE,↓reduceIte,ZF,ZG,ZH,ZI,ZJ,reduceCtorEq,ZK,↓zU,↓zD,zV,zT,zW,hd1];exact .same
theorem aGf (n:Nat):List.replicate n [D.int .i64 (-1)]=rows .i64 (List.replicate n (-1)):=by simp [rows]
theorem aH5 (n:Nat):List.replicate n [D.sl 1 (us [1#64])]=rr (List.replicate n [1#64]):=by simp [rr,aF6]
open Rs Fm Ru Te
namespace Te
theorem aOx {A F:Nat} {c:List Nd} (hv:zC c) (h:∀ p ∈ c,rS A F p=true):∀ i,i<c.length->tO A F (tree c i)= true:=by
 intro i
 induction i using Nat.strongRecOn with
 | _ i ih=>
  intro hi;obtain⟨ox,oy,_,_⟩:=uZ (hv i hi);have hs:=h (c.getD i nd0) (by rw [List.getD,List.getElem?_eq_getElem hi]; exact List.getElem_mem hi);rw [uS hv hi];show (rS A F _&&(tO A F _&&tO A F _))= true;rw [show rS A F ⟨(c.getD i nd0).op,(c.getD i nd0).i,(c.getD i nd0).e,(c.getD i nd0).g,0,0⟩= rS A F (c.getD i nd0) from rfl,hs,Bool.true_and,Bool.and_eq_true]
  constructor
  ·split
   ·rename_i hx; have:=ox hx; exact ih _ (by omega) (by omega)
   ·rfl
  ·split
   ·rename_i hy; have:=oy hy; exact ih _ (by omega) (by omega)
   ·rfl
theorem aPj {A F:Nat} {p:Nd} {k:Int} (hn:yK p k=0) (ho:okN A F p=true) (ht:tD p &&& 256=0):rS A F p=true:=by
 unfold okN at ho;simp only [Bool.and_eq_true,decide_eq_true_eq] at ho;obtain⟨⟨h1,h2⟩,h3⟩:=ho
 have hi0:p.op=3\/p.op=9\/p.op=10->0<=p.i:=fun h=>by
  rcases h with h | h | h
  ·exact(pH hn (by rw [h]; rfl)).1
  ·exact(vE hn (by rw [h]; rfl)).1
  ·exact(vE hn (by rw [h]; rfl)).1
 have hg0:=oE hn;have hu:=(zP.1 hn).1
 have lt_of:∀ {a b:Nat},2 ^ a / 2 ^ b=0->a<b:=fun {a b} h=>Decidable.byContradiction fun hh=>by
  have:=Nat.pow_le_pow_right (n:=2) (by decide) (show b<=a by omega);have:=Nat.div_pos this (Nat.two_pow_pos b);omega
 obtain⟨op,i,e,g,a,b⟩:=p;simp only at hi0 hg0 hu
 rcases vP op with rfl | rfl | rfl | rfl | rfl | rfl | rfl | rfl | rfl | rfl | rfl | rfl | rfl | rfl | rfl | rfl | rfl | rfl | rfl | rfl | rfl | h | h
 ·rfl
 ·rfl
 ·have h3:2 ^ i.toNat / 2 ^ F=0:=h3;have:=lt_of h3;have h0:=hi0 (.inl rfl);show decide (i<(F:Int))= true;exact decide_eq_true (by omega)
 ·rfl
 ·rfl
 ·rfl
 ·rfl
 ·rfl
 ·have h2:2 ^ i.toNat / 2 ^ A=0:=h2;have:=lt_of h2;have h0:=hi0 (.inr (.inl rfl));show decide (i<(A:Int))= true;exact decide_eq_true (by omega)
 ·have h2:2 ^ i.toNat / 2 ^ A=0:=h2;have:=lt_of h2;have h0:=hi0 (.inr (.inr rfl));show decide (i<(A:Int))= true;exact decide_eq_true (by omega)
 iterate 3
  ·have h2:g.toNat / 2 ^ A=0:=h2;have:=(Nat.div_eq_zero_iff.1 h2).resolve_left (by have:=Nat.two_pow_pos A; omega);show decide (g<((2 ^ A:Nat):Int))= true;exact decide_eq_true (by omega)
 ·exact absurd h1 (show ¬ (16:Nat)&&& 3824=0 by decide)
 ·exact absurd h1 (show ¬ (32:Nat)&&& 3824=0 by decide)
 ·exact absurd h1 (show ¬ (64:Nat)&&& 3824=0 by decide)
 ·exact absurd h1 (show ¬ (128:Nat)&&& 3824=0 by decide)
 iterate 4
  ·exact absurd ht (show ¬ (256:Nat)&&& 256=0 by decide)
 ·rw [zS (.inl h)] at hu; cases hu
 ·rw [zS (.inr h)] at hu; cases hu
theorem aCo {a b:Nat} (ha:a<2 ^ 62) (hb:b<2 ^ 62):rQ .and .i64 (a:Int) (b:Int)= ((a &&& b:Nat):Int):=by
 show IntKind.i64.wrap ((BitVec.ofInt 64 (a:Int)&&& BitVec.ofInt 64 (b:Int)).toNat:Int)= _;rw [BitVec.ofInt_natCast,BitVec.ofInt_natCast,BitVec.toNat_and,BitVec.toNat_ofNat,BitVec.toNat_ofNat,Nat.mod_eq_of_lt (by omega),Nat.mod_eq_of_lt (by omega)];have:a &&& b<=a:=Nat.and_le_left;exact wrap_i64 (by omega)
theorem aB {n:Nat} (h:n<4096):(rQ .and .i64 (n:Int) 256 != 0)= !decide (n &&& 256=0):=by
 have e:=aCo (a:=n) (b:=256) (by omega) (by decide);rw [show ((256:Nat):Int)= 256 from rfl] at e;rw [e];generalize n &&& 256=z
 by_cases hz:z=0
 ·subst hz; rfl
 ·rw [decide_eq_false hz];have:((z:Int) != 0)= true:=by rw [bne_iff_ne]; omega
  rw [this]; rfl
theorem aOv {n:Nat} (h:n<4096) (h1:n &&& 3824=0) (h2:n &&& 256=0):(rQ .andNot .i64 (n:Int) 15 != 0)= false:=by
 have h16:∀ n:Fin 4096,n.val &&& 3824=0->n.val &&& 256=0->n.val<16:=by decide +kernel
 have:∀ n:Fin 16,(rQ .andNot .i64 ((n.val:Nat):Int) 15 != 0)= false:=by decide +kernel
 exact this ⟨n,h16 ⟨n,h⟩ h1 h2⟩
theorem oD (f:List Nd):zY f<4096:=by
 refine sS fun p _=>?_;have:=mT p.op;unfold tD; omega
theorem aZr {s:cG} {A F T:Nat} {rs:List wO} (hs:s=⟨A,F,T,rs⟩) (hz:chk s=0) (ok:OkR rs A F T) {f:List Nd} (hE:aJs s f=0) (ht:zY f &&& 256=0) :
  tO A F (lI f)= true/\(rQ .andNot .i64 (zY f:Int) 15 != 0)= false/\sV f A F=true:=by
 have hc:=(req_zero hE).2;have hN:=(aHu hs hz ok hc).1 hE
 have hT:∀ p ∈ xJ f,tD p &&& 256=0:=by
  have:=ht;unfold zY at this
  rwa [sQ (φ:=fun n=>n &&& 256) (by decide) (fun a b=>Nat.and_or_distrib_right a b 256),tS] at this
 have h38:zY f &&& 3824=0:=by
  unfold zY;rw [sQ (φ:=fun n=>n &&& 3824) (by decide) (fun a b=>Nat.and_or_distrib_right a b 3824),tS];intro p hp;have:=hN p hp;unfold okN at this;simp only [Bool.and_eq_true,decide_eq_true_eq] at this;exact this.1.1
 refine⟨?_,aOv (oD f) h38 ht,?_⟩
 ·have hl:=aSo hc;rw [<- (aYb hc).1];refine aOx (bY f) (fun p hp=>?_) _ (by omega);obtain⟨k,hk⟩:=oK (lT f _) hp;exact aPj hk (hN p hp) (hT p hp)
 ·unfold aJs at hE;rw [if_neg (by simpa using hz),if_neg (by simpa using hc),dC (oD f),if_neg (by simp [h38])] at hE;subst hs
  cases hf:sV f A F with
  | true=>rfl
  | false=>simp only [hf,↓reduceIte] at hE; cases hE
end Te
namespace Kb
theorem aCa : ∀ n:Fin 4096,(rQ .andNot .i64 ((n.val:Nat):Int) 15 != 0)= false->n.val<16:=by decide +kernel
theorem aB3 : ∀ n:Fin 4096,(rQ .andNot .i64 ((n.val:Nat):Int) 0 != 0)= false->n.val=0:=by decide +kernel
end Kb
open Ru
namespace Ru
def aJu (rs:List wO) (a r t:Nat):List Int:=(List.range t).map fun i=>uT rs a (r,i)
end Ru
open Ru
namespace Ru
theorem iY {α:Type} (a b:List α) (d:α) {n:Nat} (h:n<a.length):(a++b).getD n d=a.getD n d:=by
 simp [List.getD,List.getElem?_append_left h]
end Ru
theorem aFe {c:List (BitVec 64)} (hc:c.length<=1000) (h0:0<c.length):yX Tryz.prog 122 [.sl 1 (us c)] (.sl 1 (us c)):=by
 obtain⟨x,l,rfl⟩:∃ x l,c=x :: l:=by
  cases c with
  | nil=>simp at h0
  | cons x l=>exact⟨x,l,rfl⟩
 refine xX.go_fn mixed Tryz.func122 aAq (by simp) fun hf=>?_;have hl:(us (x :: l)).length=l.length+1:=by simp [us]
 have h1:=aRp (x :: l);have e:us (x :: l)= [.int .u64 (ui x)] :: us l:=rfl;simp only [List.length_cons] at hc;rw [e] at hl h1 ⊢;simp only [ZA,ZB,ZC,ZD,ZE,↓reduceIte,ZF,ZG,ZH,ZI,ZJ,reduceCtorEq,ZK,↓zU,↓zD,zV,zT,zW];refine⟨by simp,h1,by omega,by omega,.drop (by simp) ?_⟩;have hp:=tA (x :: l);rw [e] at hp;have ht:([D.int .u64 (ui x)] :: us l).take (l.length+1)= [D.int .u64 (ui x)] :: us l:=by rw [<- hl,List.take_length]
 simp only [vw];exact⟨trivial,by decide,by simp,⟨1,[D.int .u64 (ui x)] :: us l⟩,rfl,rfl,by simp only; omega,ht.symm,hp⟩
open Ru
namespace Ru
def aE0 (kf:Nat->Nat × Nat->List Int) (l:List (Nat × Nat)) (a:Nat) (p:Nat × Nat):Int:=below (dedup (aYi (l.map (kf a)))) (kf a p)
def aF9 (rs:List wO) (A T:Nat) (num:Nat->Nat × Nat->Int):List wO:=
 (List.range rs.length).map fun i=>⟨(List.range T).map fun t=>(List.range A).map fun a=>num a (i,t),(rs.getD i nE).fac⟩
end Ru
open Ru
namespace Ru
end Ru
open Ru
theorem kP {l:List (List Int)}:∀ {k:Nat} {x:List Int},x ∈ uK l k ↔ ∃ i,i<k/\l.getD i []=x
 | 0,x=>by simp [uK]
 | k+1,x=>by
  rw [uK]
  by_cases h:0<k/\l.getD k []=l.getD (k-1) []
  ·rw [if_pos h,kP];refine⟨fun⟨i,hi,e⟩=>⟨i,by omega,e⟩,fun⟨i,hi,e⟩=>?_⟩
   by_cases ei:i=k
   ·exact⟨k-1,by omega,by rw [<- h.2,<- ei]; exact e⟩
   ·exact⟨i,by omega,e⟩
  ·rw [if_neg h,List.mem_append,kP,List.mem_singleton];refine⟨fun c=>c.elim (fun⟨i,hi,e⟩=>⟨i,by omega,e⟩) (fun e=>⟨k,by omega,e.symm⟩),fun⟨i,hi,e⟩=>?_⟩
   by_cases ei:i=k
   ·exact .inr (by rw [<- e,ei])
   ·exact .inl ⟨i,by omega,e⟩
theorem aRy {l:List (List Int)} (h:asc l) {i j:Nat} (hij:i<j) (hj:j<l.length):¬ kc (l.getD j []) (l.getD i [])<0:=by
 have:=List.pairwise_iff_getElem.1 h i j (by omega) hj hij;simpa [List.getD,hj,show i<l.length by omega] using this
theorem oY {l:List (List Int)} (h:asc l):∀ {k:Nat},k<=l.length->(uK l k).Pairwise fun a b=>kc a b<0
 | 0,_=>List.Pairwise.nil
 | k + 1,hk=>by
  rw [uK]
  by_cases c:0<k/\l.getD k []=l.getD (k-1) []
  ·rw [if_pos c]; exact oY h (by omega)
  ·rw [if_neg c];refine List.pairwise_append.2 ⟨oY h (by omega),List.pairwise_singleton _ _,fun x hx y hy=>?_⟩;rw [List.mem_singleton] at hy;subst hy;obtain⟨i,hi,rfl⟩:=kP.1 hx;have h1:=aRy h hi (show k<l.length by omega)
   by_cases e:kc (l.getD i []) (l.getD k [])<0
   ·exact e
   ·exfalso;have eq:l.getD i []=l.getD k []:=aZc h1 e
    by_cases e2:i=k-1
    ·exact c ⟨by omega,by rw [<- eq,e2]⟩
    ·have h2:=aRy h (show i<k-1 by omega) (show k-1<l.length by omega);have h3:=aRy h (show k-1<k by omega) (show k<l.length by omega);rw [eq] at h2;exact c ⟨by omega,aZc h3 h2 |>.symm⟩
theorem aO4 {l:List (List Int)} (h:asc l):asc (dedup l):=by
 have:=oY h (Nat.le_refl l.length);exact this.imp fun {a b} h=>by have:=pG a b; omega
theorem aO3 {l:List (List Int)} {x:List Int}:x ∈ dedup l ↔ x ∈ l:=by
 unfold dedup;rw [kP]
 constructor
 ·rintro ⟨i,hi,rfl⟩; exact xN hi
 ·intro h;obtain⟨i,hi,e⟩:=List.mem_iff_getElem.1 h;exact⟨i,hi,by simp [List.getD,hi,e]⟩
open Ru
theorem aQe {rs:List wO} {A F T:Nat} (ok:OkR rs A F T):chk ⟨A,F,T,rs⟩= 0:=by
 obtain⟨h1,h2,h3,h4,h5,h6,h7,h8,h9⟩:=ok;unfold chk;simp only;have hp:((rs.length*T:Nat):Int)<=512:=by omega
 rw [Int.natCast_mul] at hp
 rw [if_neg (by omega),if_neg (by omega),if_neg (by omega),if_neg,if_neg]
 ·rw [Bool.not_eq_true,List.any_eq_false];intro r hr;simp only [aAs,Int.toNat_natCast,List.any_eq_true,not_exists,not_and];intro f hf;simp [h9 r hr f hf]
 ·rw [Bool.not_eq_true,List.any_eq_false];intro r hr;have hrow:=h8 r hr;simp only [aAt,h6 r hr,h7 r hr,decide_true,Bool.not_true,Bool.false_or,List.any_eq_true,not_exists,not_and];intro l hl;simp [hrow l hl]
open Ru
namespace Ru
def aC3 (rs:List wO) (A T:Nat) (kf:Nat->Nat × Nat->List Int):List wO:=aF9 rs A T (aE0 kf (ptN T (rs.length*T)))
theorem aLj (rs:List wO) (A T:Nat) (num:Nat->Nat × Nat->Int):(aF9 rs A T num).length=rs.length:=by simp [aF9]
theorem aLk {rs:List wO} {A T:Nat} {num:Nat->Nat × Nat->Int} {i:Nat} (h:i<rs.length):(aF9 rs A T num).getD i nE=⟨(List.range T).map fun t=>(List.range A).map fun a=>num a (i,t),(rs.getD i nE).fac⟩:=by
 simp [aF9,List.getD,h]
theorem aHx {T R:Nat} {p:Nat × Nat} (hp:p.1<R/\p.2<T):p ∈ ptN T (R*T):=by
 obtain⟨r,t⟩:=p;simp only at hp;simp only [ptN,List.mem_map,List.mem_range];have hm:=Nat.mul_le_mul_right T (show r+1<=R from hp.1);rw [Nat.succ_mul] at hm;refine⟨r*T+t,by omega,?_⟩;rw [Nat.mul_comm,Nat.mul_add_div (by omega),Nat.div_eq_of_lt hp.2,Nat.mul_add_mod,Nat.mod_eq_of_lt hp.2];rfl
theorem aLl (rs:List wO) (A T:Nat) (kf:Nat->Nat × Nat->List Int):(aC3 rs A T kf).length=rs.length:=aLj _ _ _ _
end Ru
end Go.Pd
