/- Part P8. -/
import Derived.Test.YtndfaefmmcoapaaGreatKaP7
import Derived.Test.YtndfaefmmcoapaaGreatKaF18
import Derived.Test.YtndfaefmmcoapaaGreatKaPQ
set_option linter.unusedSectionVars false
set_option linter.unusedVariables false
set_option linter.unusedSimpArgs false
set_option linter.defProp false
set_option maxRecDepth 20000
set_option maxHeartbeats 1000000
namespace Go.Pd
open Go Go.Proofs
open Int renaming reduceToNat -> ZA, reduceLT -> ZB, reduceLE -> ZC, reduceBEq -> ZD, reduceBNe -> ZE
open Nat renaming reduceEqDiff -> ZF, reduceAdd -> ZG, reduceBEq -> ZH, reduceLT -> ZI, reduceLeDiff -> ZJ, reduceMul -> ZK
open Rs Fm
namespace Fm
structure aEi (f : List Nd) (s : CS) : Prop where
 v:zC s.out
 n:s.out.Nodup
 d:∀ z k,zL z s.done=some k->∃ i j:Nat,z=i/\k=j/\i<f.length/\j<s.out.length/\tree s.out j=tree f i
theorem iU {f:List Nd} (hv:zC f):∀ (n:Nat) {i:Nat} {s:CS},i<n->i<f.length->aEi f s ->
  (xP f n i s).1=(pS (tree f i) s.out).1/\(xP f n i s).2.out=(pS (tree f i) s.out).2/\aEi f (xP f n i s).2
 | 0,_,_,h,_,_=>by omega
 | n + 1,i,s,h,hi,hI=>by
  cases hu:zL (i:Int) s.done with
  | some k=>
   rw [xP,hu];obtain⟨i',j,e1,e2,_,e4,e5⟩:=hI.d _ _ hu;obtain rfl:i=i':=by omega
   rw [iV _ _ j hI.v hI.n e4 e5];exact⟨e2,rfl,hI⟩
  | none=>
   rw [sN hu];obtain⟨ox,oy,zx,zy⟩:=uZ (hv i hi);have hsp:=nM _ s.out (aR7 hv i hi) hI.v hI.n;rw [uS hv hi] at hsp ⊢;simp only;generalize hp:f.getD i nd0=p at hsp ox oy zx zy ⊢
   have S1:(if (xZ p.op).1.x=true then xP f n p.x.toNat s else(p.x,s)).1=(if (xZ p.op).1.x=true then pS (tree f p.x.toNat) s.out else(0,s.out)).1 /\
     (if (xZ p.op).1.x=true then xP f n p.x.toNat s else(p.x,s)).2.out=(if (xZ p.op).1.x=true then pS (tree f p.x.toNat) s.out else(0,s.out)).2/\aEi f (if (xZ p.op).1.x=true then xP f n p.x.toNat s else(p.x,s)).2:=by
    by_cases hx:(xZ p.op).1.x=true
    ·rw [if_pos hx,if_pos hx];exact iU hv n (by have:=ox hx; omega) (by have:=ox hx; omega) hI
    ·rw [if_neg hx,if_neg hx];exact⟨zx (by simpa using hx),rfl,hI⟩
   have e1:(if (xZ p.op).1.x=true then pS (if (xZ p.op).1.x=true then tree f p.x.toNat else .nil) s.out else(0,s.out))= (if (xZ p.op).1.x=true then pS (tree f p.x.toNat) s.out else(0,s.out)):=by
    by_cases hx:(xZ p.op).1.x=true
    ·rw [if_pos hx,if_pos hx,if_pos hx]
    ·rw [if_neg hx,if_neg hx]
   have hfin:pS (.nd p.op p.i p.e p.g (if (xZ p.op).1.x=true then tree f p.x.toNat else .nil) (if (xZ p.op).1.y=true then tree f p.y.toNat else .nil)) s.out =
     (let a:=(if (xZ p.op).1.x=true then pS (tree f p.x.toNat) s.out else(0,s.out))
      let b:=if (xZ p.op).1.y=true then pS (tree f p.y.toNat) a.2 else(0,a.2)
      match rO ⟨p.op,p.i,p.e,p.g,a.1,b.1⟩ b.2 0 with
      | some k=>((k:Int),b.2)
      | none=>((b.2.length:Int),b.2 ++ [⟨p.op,p.i,p.e,p.g,a.1,b.1⟩])):=by
    conv=>lhs; unfold pS
    simp only [e1]
    by_cases hy:(xZ p.op).1.y=true
    ·simp only [if_pos hy];rfl
    ·simp only [if_neg hy];rfl
   rw [hfin] at hsp ⊢;simp only at hsp ⊢;generalize (if (xZ p.op).1.x=true then xP f n p.x.toNat s else(p.x,s))= A at S1 ⊢;generalize (if (xZ p.op).1.x=true then pS (tree f p.x.toNat) s.out else(0,s.out))= A' at S1 hsp ⊢;obtain⟨a1,a2⟩:=A';obtain⟨A1,A2⟩:=A;obtain⟨rfl,rfl,IA⟩:=S1;simp only at hsp ⊢
   have S2:(if (xZ p.op).1.y=true then xP f n p.y.toNat A2 else(p.y,A2)).1=(if (xZ p.op).1.y=true then pS (tree f p.y.toNat) A2.out else(0,A2.out)).1 /\
     (if (xZ p.op).1.y=true then xP f n p.y.toNat A2 else(p.y,A2)).2.out=(if (xZ p.op).1.y=true then pS (tree f p.y.toNat) A2.out else(0,A2.out)).2/\aEi f (if (xZ p.op).1.y=true then xP f n p.y.toNat A2 else(p.y,A2)).2:=by
    by_cases hy:(xZ p.op).1.y=true
    ·rw [if_pos hy,if_pos hy];exact iU hv n (by have:=oy hy; omega) (by have:=oy hy; omega) IA
    ·rw [if_neg hy,if_neg hy];exact⟨zy (by simpa using hy),rfl,IA⟩
   generalize (if (xZ p.op).1.y=true then xP f n p.y.toNat A2 else(p.y,A2))= B at S2 ⊢;generalize (if (xZ p.op).1.y=true then pS (tree f p.y.toNat) A2.out else(0,A2.out))= B' at S2 hsp ⊢;obtain⟨b1,b2⟩:=B';obtain⟨B1,B2⟩:=B;obtain⟨rfl,rfl,IB⟩:=S2;replace IB:aEi f B2:=IB;simp only at hsp ⊢
   have hset:∀ (out':List Nd) (k:Nat),(∃ l,out'=B2.out++l)->zC out'->out'.Nodup->k<out'.length->tree out' k=tree f i->aEi f ⟨out',kK i k B2.done⟩:=by
    rintro out' k ⟨l,rfl⟩ hv' hn' hk' ht';refine⟨hv',hn',fun z k' hz=>?_⟩;simp only at hz ⊢;rw [vZ] at hz
    split at hz
    ·cases hz;exact⟨i,k,by assumption,rfl,hi,hk',ht'⟩
    ·obtain⟨i',j,q1,q2,q3,q4,q5⟩:=IB.d _ _ hz;exact⟨i',j,q1,q2,q3,by simp; omega,by rw [lA hv' _ q4]; exact q5⟩
   have htf:tree f i = .nd p.op p.i p.e p.g (if (xZ p.op).1.x=true then tree f p.x.toNat else .nil) (if (xZ p.op).1.y=true then tree f p.y.toNat else .nil):=by
    rw [uS hv hi,hp]
   unfold gG
   cases hq:rO ⟨p.op,p.i,p.e,p.g,A1,B1⟩ B2.out 0 with
   | some k=>
    rw [hq] at hsp;obtain⟨s1,s2,_,k',s3,s4,s5,_⟩:=hsp;simp only at s1 s2 s3 s4 s5 ⊢;obtain rfl:k=k':=by omega
    exact⟨trivial,trivial,hset _ k ⟨[],by simp⟩ s1 s2 s4 (by rw [s5,htf])⟩
   | none=>
    rw [hq] at hsp;obtain⟨s1,s2,_,k',s3,s4,s5,_⟩:=hsp;simp only at s1 s2 s3 s4 s5 ⊢;obtain rfl:B2.out.length=k':=by omega
    exact⟨trivial,trivial,hset _ _ ⟨_,rfl⟩ s1 s2 s4 (by rw [s5,htf])⟩
theorem gJ {f:List Nd} (hv:zC f) {i:Nat} (hi:i<f.length):wP f i=canon (tree f i):=
 (iU hv (i+1) (s:=⟨[],[]⟩) (by omega) hi ⟨fun k h=>by simp at h,.nil,fun z k h=>by cases h⟩).2.1
theorem aSx {t:Tr} (h:wfT t):zC (canon t)/\ (canon t).Nodup/\0<(canon t).length/\tree (canon t) ((canon t).length-1)= t:=by
 obtain⟨v,n,_,k,e1,e2,e3,e4⟩:=nM t [] h (fun k h=>by simp at h) .nil;refine⟨v,n,by unfold canon; omega,?_⟩
 have:k=(canon t).length-1:=by
  rcases e4 with e4 | e4
  ·rw [e4] at e2; simp at e2
  ·unfold canon; omega
 rw [<- this]; exact e3
theorem aZ9 {f:List Nd} (h:xH f=0):xJ f=canon (tree f (f.length-1)):=by
 obtain⟨h1,h2,h3⟩:=zJ h;have hl:0<f.length:=by cases f with | nil=>exact absurd rfl h1 | cons a b=>simp
 unfold xJ lD;rw [if_neg (by omega),show ((f.length:Int)-1).toNat=f.length-1 by omega];exact gJ h3 (by omega)
end Fm
section
open Rs Fm
namespace Fm
end Fm
end
section
open Rs Fm
namespace Fm
def lI (f:List Nd):Tr:=tree f (f.length-1)
theorem aMq {f:List Nd} (h:xH f=0):wfT (lI f):=by
 obtain⟨h1,h2,h3⟩:=zJ h;have hl:0<f.length:=by cases f with | nil=>exact absurd rfl h1 | cons a b=>simp
 exact aR7 h3 _ (by omega)
theorem aYb {f:List Nd} (h:xH f=0):tree (xJ f) ((xJ f).length-1)= lI f/\(xJ f).Nodup:=by
 rw [aZ9 h];obtain⟨_,b,_,d⟩:=aSx (aMq h);exact⟨d,b⟩
end Fm
end
section
open Rs Fm
namespace Fm
end Fm
end
section
open Rs Fm
namespace Fm
end Fm
end
section
open Rs Fm
namespace Fm
end Fm
end
open Rs Fm
namespace Fm
theorem aK1 (m:Nat) (h:m<=6):(xZ (11+(m:Int))).1.fr=((2 ^ (m+1):Nat):Int):=by
 have hc:m=0\/m=1\/m=2\/m=3\/m=4\/m=5\/m=6:=by omega
 rcases hc with rfl | rfl | rfl | rfl | rfl | rfl | rfl <;> decide
theorem aV6 (op:Int) (h:op=9\/op=10):(xZ op).1.fr=1:=by rcases h with rfl | rfl <;> decide
theorem aB (op:Int) (h:18<=op/\op<=21):(xZ op).1.fr=256:=by
 have hc:op=18\/op=19\/op=20\/op=21:=by omega
 rcases hc with rfl | rfl | rfl | rfl <;> decide
theorem aOw (op:Int) (h:1<=op/\op<=8):(xZ op).1.fr=0:=by
 have hc:op=1\/op=2\/op=3\/op=4\/op=5\/op=6\/op=7\/op=8:=by omega
 rcases hc with rfl | rfl | rfl | rfl | rfl | rfl | rfl | rfl <;> decide
def oP (m k:Nat) (n:Int):Bool:=(List.range k).all fun i=>!m.testBit i || decide ((i:Int)<n)
theorem eW {m k:Nat} {n:Int} (hm:m<2 ^ k) (hk:k<=31):oJ m n=oP m k n:=by
 unfold oJ oP;rw [Bool.eq_iff_iff,Bool.or_eq_true,decide_eq_true_iff,decide_eq_true_iff,List.all_eq_true]
 constructor
 ·rintro h i hi;have hi':=List.mem_range.1 hi
  rcases h with h | h
  ·rw [decide_eq_true (by omega),Bool.or_true]
  ·cases hb:m.testBit i with
   | false=>rfl
   | true=>
    have h2:m<2 ^ n.toNat:=by
     rcases Nat.div_eq_zero_iff.1 h with h | h
     ·have:=Nat.two_pow_pos n.toNat; omega
     ·exact h
    have h3:i<n.toNat:=Decidable.byContradiction fun hh=>by
     have h4:=Nat.testBit_lt_two_pow (Nat.lt_of_lt_of_le h2 (Nat.pow_le_pow_right (by decide) (show n.toNat<=i by omega)));rw [h4] at hb; cases hb
    rw [decide_eq_true (by omega)]; rfl
 ·intro h;refine .inr (Nat.div_eq_of_lt (Nat.lt_pow_two_of_testBit _ fun i hi=>?_))
  cases hb:m.testBit i with
  | false=>rfl
  | true=>
   have hik:i<k:=Decidable.byContradiction fun hh=>by
    have h4:=Nat.testBit_lt_two_pow (Nat.lt_of_lt_of_le hm (Nat.pow_le_pow_right (by decide) (show k<=i by omega)));rw [h4] at hb; cases hb
   have:=h i (List.mem_range.2 hik);rw [hb] at this;simp at this;omega
theorem iO {m:Nd->Nat} {k:Nat}:∀ {l:List Nd},(∀ p ∈ l,m p<2 ^ k)->yN m l<2 ^ k:=by
 have key:∀ (l:List Nd) (a:Nat),(∀ p ∈ l,m p<2 ^ k)->a<2 ^ k->l.foldl (fun a p=>a ||| m p) a<2 ^ k:=by
  intro l
  induction l with
  | nil=>intro a _ h; exact h
  | cons p r ih=>intro a h ha; exact ih _ (fun q hq=>h q (List.mem_cons_of_mem _ hq)) (Nat.or_lt_two_pow ha (h p (by simp)))
 exact fun {l} h=>key l 0 h (Nat.two_pow_pos k)
theorem aLu {p:Nd} {k:Int} (h:yK p k=0):1<=p.op/\p.op<=21:=by
 have h1:=(zP.1 h).1;refine Decidable.byContradiction fun hc=>?_;rw [show xZ p.op=(uF,false) from if_pos (by omega)] at h1;cases h1
theorem aTv {p:Nd} {k:Int} (h:yK p k=0) (hg:(xZ p.op).1.gr=false):p.g=0:=by
 have h2:=(zP.1 h).2.2.2.1;simp only [hg,Bool.or_eq_false_iff,Bool.not_false,Bool.true_and,decide_eq_false_iff_not] at h2;omega
theorem aXq (f:List Nd):uA f<2 ^ 4:=iO fun p hp=>by
 obtain⟨k,hk⟩:=oK (lT f _) hp;unfold wJ
 split
 ·rename_i hf;have:=vE hk hf;exact Nat.pow_lt_pow_right (by decide) (by omega)
 ·have:=oE hk;omega
theorem aXd (f:List Nd):pN f<2 ^ 8:=iO fun p hp=>by
 obtain⟨k,hk⟩:=oK (lT f _) hp;unfold tC
 split
 ·rename_i hf;have:=pH hk hf;exact Nat.pow_lt_pow_right (by decide) (by omega)
 ·decide
end Fm
theorem aTr {op:Int} (h:1<=op/\op<=21):yX Tryz.prog 180 [.int .i64 op] (.int .i64 (xZ op).1.fr):=by
 refine xX.go_fn mixed Tryz.func180 bX6 (by simp) fun hf=>?_
 by_cases e9:op=9
 ·subst e9;rw [aV6 9 (.inl rfl)];simp only [ZA,ZB,ZC,ZD,ZE,↓reduceIte,ZF,ZG,ZH,ZI,ZJ,reduceCtorEq,ZK,↓zU,↓zD,zV,zT,zW];exact .same
 have c9:(op==9)= false:=by simpa using e9
 by_cases e10:op=10
 ·subst e10;rw [aV6 10 (.inr rfl)];simp only [ZA,ZB,ZC,ZD,ZE,↓reduceIte,ZF,ZG,ZH,ZI,ZJ,reduceCtorEq,ZK,↓zU,↓zD,zV,zT,zW];exact .same
 have c10:(op==10)= false:=by simpa using e10
 by_cases h11:11<=op
 case neg=>
  have h18:¬ 18<=op:=by omega
  rw [aOw op (by omega)];simp only [ZA,ZB,ZC,ZD,ZE,↓reduceIte,ZF,ZG,ZH,ZI,ZJ,reduceCtorEq,ZK,↓zU,↓zD,zV,zT,zW,c9,c10,h11,h18];exact .same
 by_cases h17:op<=17
 case neg=>
  have h18:18<=op:=by omega
  rw [aB op (by omega)];simp only [ZA,ZB,ZC,ZD,ZE,↓reduceIte,ZF,ZG,ZH,ZI,ZJ,reduceCtorEq,ZK,↓zU,↓zD,zV,zT,zW,c9,c10,h11,h17,h18];exact .same
 obtain⟨m,hm⟩:∃ m:Nat,op=11+(m:Int):=⟨(op-11).toNat,by omega⟩;have hfr:=aK1 m (by omega);rw [<- hm] at hfr;rw [hfr];have e1:IntKind.i64.wrap (op-11)= (m:Int):=by rw [wrap_i64 (by omega)]; omega
 have e2:IntKind.i64.wrap ((m:Int)+ 1)= ((m+1:Nat):Int):=uB (by omega);simp only [ZA,ZB,ZC,ZD,ZE,↓reduceIte,ZF,ZG,ZH,ZI,ZJ,reduceCtorEq,ZK,↓zU,↓zD,zV,zT,zW,c9,c10,h11,h17,e1,e2,aEt (show m+1<=61 by omega)]
 (repeat refine sd ?_)
 exact .same
theorem aTq (f:List Nd):yX Tryz.prog 118 [.sl 6 (ndR f)] (.int .i64 (zY f)):=by
 have hlen:=pK f ((f.length:Int)-1);rw [show lD f ((f.length:Int)-1)= xJ f from rfl] at hlen;have hnd:=bY f;have hall:∀ p ∈ xJ f,tD p<4096:=fun p _=>by have:=mT p.op; unfold tD; omega
 refine xX.go_fn mixed Tryz.func118 bYv (by simp) fun hf=>?_;simp only [ZA,ZB,ZC,ZD,ZE,↓reduceIte,ZF,ZG,ZH,ZI,ZJ,reduceCtorEq,ZK,↓zU,↓zD,zV,zT,zW];refine .go (cr (qU f)) ?_;simp only [ZA,ZB,ZC,ZD,ZE,↓reduceIte,ZF,ZG,ZH,ZI,ZJ,reduceCtorEq,ZK,↓zU,↓zD,zV,zT,zW];unfold zY;generalize xJ f=c at hlen hnd hall
 refine xV (fun k:Nat=>[(5,.int .i64 k),(4,.int .i64 (yN tD (c.take k))),(3,.sl 6 (ndR c))]) (fun _=>⟨0,[]⟩) (fun k=>k<=c.length) (fun k=>c.length-k) 0 (Nat.zero_le _) ?_ ?_
 ·(refine xM.same ?_; simp [xS,Fr.get,yN])
 intro k hk;refine xQ mixed ?_
 by_cases h:k<c.length
 ·have hd:((k:Int)<(c.length:Int)):=by omega
  have hw:IntKind.i64.wrap ((k:Int)+ 1)= ((k+1:Nat):Int):=wrap_i64 (by omega);have hg:=vK c h;have hq:=hnd k h;have hlt:yN tD (c.take k)<2 ^ 12:=sS fun p hp=>hall p (List.mem_of_mem_take hp);have hlp:=hall _ (xN (d:=nd0) h);have hs:yN tD (c.take (k+1))= yN tD (c.take k) ||| tD (c.getD k nd0):=by rw [yE (d:=nd0) h,sE]
  generalize c.getD k nd0=p at hg hq hs hlp;have hop:1<=p.op/\p.op<=21:=aLu hq;have hfr:=aTr hop;have hu:=mT p.op;rw [show (xZ p.op).1.fr=((tD p:Nat):Int) from(Int.toNat_of_nonneg hu.1).symm] at hfr;have hor:=aU2 (a:=yN tD (c.take k)) (b:=tD p) (by omega) (by omega);simp only [ZA,ZB,ZC,ZD,ZE,↓reduceIte,ZF,ZG,ZH,ZI,ZJ,reduceCtorEq,ZK,↓zU,↓zD,zV,zT,zW,hd,xO,hg,Nd.row]
  (repeat refine sd ?_)
  refine .go (cq hfr) ?_;simp only [ZA,ZB,ZC,ZD,ZE,↓reduceIte,ZF,ZG,ZH,ZI,ZJ,reduceCtorEq,ZK,↓zU,↓zD,zV,zT,zW,hor]
  (repeat refine sd ?_)
  refine⟨k+1,by omega,?_,by omega⟩;rw [hs]
  (refine xM.same ?_; simp only [xS,Fr.get,↓reduceIte,reduceIte,Nat.reduceEqDiff,reduceCtorEq,D.int.injEq,D.bool.injEq,D.sl.injEq,and_true,true_and,and_self])
  exact hw
 have hd:¬ ((k:Int)<(c.length:Int)):=by omega
 obtain rfl:k=c.length:=by omega
 simp only [ZA,ZB,ZC,ZD,ZE,↓reduceIte,ZF,ZG,ZH,ZI,ZJ,reduceCtorEq,ZK,↓zU,↓zD,zV,zT,zW,hd,xO];exact .same
theorem aX4 (f:List Nd):yX Tryz.prog 181 [.sl 6 (ndR f)] (.int .i64 (uA f)):=by
 have hlen:=pK f ((f.length:Int)-1);rw [show lD f ((f.length:Int)-1)= xJ f from rfl] at hlen;have hnd:=bY f
 have hall:∀ p ∈ xJ f,wJ p<4096:=fun p hp=>by
  obtain⟨k,hk⟩:=oK hnd hp;exact aXr hk
 refine xX.go_fn mixed Tryz.func181 bX5 (by simp) fun hf=>?_;simp only [ZA,ZB,ZC,ZD,ZE,↓reduceIte,ZF,ZG,ZH,ZI,ZJ,reduceCtorEq,ZK,↓zU,↓zD,zV,zT,zW];refine .go (cr (qU f)) ?_;simp only [ZA,ZB,ZC,ZD,ZE,↓reduceIte,ZF,ZG,ZH,ZI,ZJ,reduceCtorEq,ZK,↓zU,↓zD,zV,zT,zW];unfold uA;generalize xJ f=c at hlen hnd hall
 refine xV (fun k:Nat=>[(5,.int .i64 k),(4,.int .i64 (yN wJ (c.take k))),(3,.sl 6 (ndR c))]) (fun _=>⟨0,[]⟩) (fun k=>k<=c.length) (fun k=>c.length-k) 0 (Nat.zero_le _) ?_ ?_
 ·(refine xM.same ?_; simp [xS,Fr.get,yN])
 intro k hk;refine xQ mixed ?_
 by_cases h:k<c.length
 ·have hd:((k:Int)<(c.length:Int)):=by omega
  have hw:IntKind.i64.wrap ((k:Int)+ 1)= ((k+1:Nat):Int):=wrap_i64 (by omega);have hg:=vK c h;have hq:=hnd k h;have hlt:yN wJ (c.take k)<2 ^ 12:=sS fun p hp=>hall p (List.mem_of_mem_take hp);have hlp:=hall _ (xN (d:=nd0) h);have hs:yN wJ (c.take (k+1))= yN wJ (c.take k) ||| wJ (c.getD k nd0):=by rw [yE (d:=nd0) h,sE]
  generalize c.getD k nd0=p at hg hq hs hlp;have hag:=aQx p.op;have hgr:=oE hq;obtain⟨g,hgg⟩:=Int.eq_ofNat_of_zero_le hgr.1
  cases hu:(xZ p.op).1.ag with
  | false=>
   rw [hu] at hag;have hfn:wJ p=g:=by rw [wJ,if_neg (by rw [hu]; simp),hgg,Int.toNat_natCast]
   have hor:=aU2 (a:=yN wJ (c.take k)) (b:=g) (by omega) (by omega);simp only [ZA,ZB,ZC,ZD,ZE,↓reduceIte,ZF,ZG,ZH,ZI,ZJ,reduceCtorEq,ZK,↓zU,↓zD,zV,zT,zW,hd,xO,hg,Nd.row]
   (repeat refine sd ?_)
   refine .go (cq hag) ?_;simp only [ZA,ZB,ZC,ZD,ZE,↓reduceIte,ZF,ZG,ZH,ZI,ZJ,reduceCtorEq,ZK,↓zU,↓zD,zV,zT,zW,xO,hg,Nd.row,hgg,hor]
   (repeat refine sd ?_)
   refine⟨k+1,by omega,?_,by omega⟩;rw [hs,hfn]
   (refine xM.same ?_; simp only [xS,Fr.get,↓reduceIte,reduceIte,Nat.reduceEqDiff,reduceCtorEq,D.int.injEq,D.bool.injEq,D.sl.injEq,and_true,true_and,and_self])
   exact hw
  | true=>
   rw [hu] at hag;obtain⟨i0,i3⟩:=vE hq hu;obtain⟨m,hm⟩:=Int.eq_ofNat_of_zero_le i0;have hm3:m<=3:=by omega
   have hg0:p.g=0:=aTv hq (by rcases mG p.op with h | h | h | h | h <;> simp_all);have hp2:(2:Nat)^ m<2 ^ 12:=Nat.pow_lt_pow_right (by omega) (by omega);have hfn:wJ p=2 ^ m:=by rw [wJ,if_pos hu,hm,Int.toNat_natCast]
   have hor:=aU2 (a:=yN wJ (c.take k)) (b:=2 ^ m) (by omega) (by omega);have hor2:=aU2 (a:=yN wJ (c.take k) ||| 2 ^ m) (b:=0) (by have:=Nat.or_lt_two_pow hlt hp2; omega) (by omega);rw [Nat.or_zero] at hor2;simp only [ZA,ZB,ZC,ZD,ZE,↓reduceIte,ZF,ZG,ZH,ZI,ZJ,reduceCtorEq,ZK,↓zU,↓zD,zV,zT,zW,hd,xO,hg,Nd.row]
   (repeat refine sd ?_)
   refine .go (cq hag) ?_;simp only [ZA,ZB,ZC,ZD,ZE,↓reduceIte,ZF,ZG,ZH,ZI,ZJ,reduceCtorEq,ZK,↓zU,↓zD,zV,zT,zW,xO,hg,Nd.row,hm,aEt (show m<=61 by omega),hor,hg0,hor2]
   (repeat refine sd ?_)
   refine⟨k+1,by omega,?_,by omega⟩;rw [hs,hfn]
   (refine xM.same ?_; simp only [xS,Fr.get,↓reduceIte,reduceIte,Nat.reduceEqDiff,reduceCtorEq,D.int.injEq,D.bool.injEq,D.sl.injEq,and_true,true_and,and_self])
   exact⟨hw,hor2⟩
 have hd:¬ ((k:Int)<(c.length:Int)):=by omega
 obtain rfl:k=c.length:=by omega
 simp only [ZA,ZB,ZC,ZD,ZE,↓reduceIte,ZF,ZG,ZH,ZI,ZJ,reduceCtorEq,ZK,↓zU,↓zD,zV,zT,zW,hd,xO];exact .same
end Go.Pd
