/- Part F16. -/
import Derived.Test.YtndfaefmmcoapaaGreatKcF8
set_option linter.unusedSectionVars false
set_option linter.unusedVariables false
set_option linter.unusedSimpArgs false
set_option linter.defProp false
set_option maxRecDepth 20000
set_option maxHeartbeats 1000000
namespace Go.Pd
open Go Go.Proofs
open Int renaming reduceToNat -> ZA, reduceLT -> ZB, reduceLE -> ZC, reduceBEq -> ZD, reduceBNe -> ZE
open Nat renaming reduceEqDiff -> ZF, reduceAdd -> ZG, reduceBEq -> ZH, reduceLT -> ZI, reduceLeDiff -> ZJ, reduceMul -> ZK
open Rs Fm
theorem aTn {a b:Nat} (ha:a<2 ^ 62) (hb:b<2 ^ 62):rM .or .i64 (a:Int) (b:Int)= ((a ||| b:Nat):Int):=by
 show IntKind.i64.wrap ((BitVec.ofInt 64 (a:Int) ||| BitVec.ofInt 64 (b:Int)).toNat:Int)= _;rw [BitVec.ofInt_natCast,BitVec.ofInt_natCast,BitVec.toNat_or,BitVec.toNat_ofNat,BitVec.toNat_ofNat,Nat.mod_eq_of_lt (by omega),Nat.mod_eq_of_lt (by omega)];have:=Nat.or_lt_two_pow ha hb;exact wrap_i64 (by omega)
namespace Fm
def yM (m:Nd->Nat) (l:List Nd):Nat:=l.foldl (fun a p=>a ||| m p) 0
theorem rY (m:Nd->Nat) (l:List Nd) (p:Nd):yM m (l ++ [p])= yM m l ||| m p:=by simp [yM]
theorem sQ {m:Nd->Nat} {l:List Nd} (h:∀ p ∈ l,m p<4096):yM m l<2 ^ 12:=by
 have key:∀ (l:List Nd) (a:Nat),a<2 ^ 12->(∀ p ∈ l,m p<4096)->l.foldl (fun a p=>a ||| m p) a<2 ^ 12:=by
  intro l
  induction l with
  | nil=>intro a ha _; exact ha
  | cons p r ih=>intro a ha h; exact ih _ (Nat.or_lt_two_pow ha (h p (by simp))) fun q hq=>h q (by simp [hq])
 exact key l 0 (by decide) h
end Fm
theorem aZe {f:List Nd} {g:FuncId} {m:Nd->Nat} (hm:∀ p ∈ xJ f,m p<4096) (h:∀ p ∈ xJ f,yX Tryz.prog g [.agg p.row,.agg (xZ p.op).1.row] (.int .i64 (m p))) (hlen:(xJ f).length<=1000) :
  yX Tryz.prog 111 [.sl 6 (ndR f),.fn g []] (.int .i64 (yM m (xJ f))):=by
 refine xX.go_fn mixed Tryz.func111 bZi (by simp) fun hf=>?_;simp only [ZA,ZB,ZC,ZD,ZE,↓reduceIte,ZF,ZG,ZH,ZI,ZJ,reduceCtorEq,ZK,↓zU,↓zD,zV,zT,zW];refine .go (cr (aYd f)) ?_;generalize xJ f=l at hm h hlen;simp only [ZA,ZB,ZC,ZD,ZE,↓reduceIte,ZF,ZG,ZH,ZI,ZJ,reduceCtorEq,ZK,↓zU,↓zD,zV,zT,zW,xO]
 refine xV (fun k:Nat=>[(13,.int .i64 k),(12,.int .i64 l.length),(11,.sl 6 (ndR l)),(5,.int .i64 (yM m (l.take k))),(1,.fn g [])]) (fun _=>⟨0,[]⟩) (fun k=>k<=l.length) (fun k=>l.length-k) 0 (Nat.zero_le _) ?_ ?_
 ·(refine xM.same ?_; simp [xR,Fr.get,yM])
 intro k hk;refine xQ mixed ?_;by_cases hh:k<l.length
 case neg=>
  have hd:¬ ((k:Int)<(l.length:Int)):=by omega
  rw [kM (show k=l.length by omega)];simp only [ZA,ZB,ZC,ZD,ZE,↓reduceIte,ZF,ZG,ZH,ZI,ZJ,reduceCtorEq,ZK,↓zU,↓zD,zV,zT,zW,hd];exact .same
 have hd:((k:Int)<(l.length:Int)):=by omega
 have hs:yM m (l.take (k+1))= yM m (l.take k) ||| m (l.getD k nd0):=by rw [yD (d:=nd0) hh,rY]
 have hg:=vH l hh;have hmem:=xN (d:=nd0) hh;have hlt:yM m (l.take k)<2 ^ 12:=sQ fun p hp=>hm p (List.mem_of_mem_take hp);generalize l.getD k nd0=p at hs hg hmem;have hmp:=hm p hmem;simp only [ZA,ZB,ZC,ZD,ZE,↓reduceIte,ZF,ZG,ZH,ZI,ZJ,reduceCtorEq,ZK,↓zU,↓zD,zV,zT,zW,hd,xO,hg,Nd.row]
 (repeat refine sd ?_)
 refine .go (cq (fU p.op)) ?_;simp only [ZA,ZB,ZC,ZD,ZE,↓reduceIte,ZF,ZG,ZH,ZI,ZJ,reduceCtorEq,ZK,↓zU,↓zD,zV,zT,zW,Use.row]
 (repeat refine sd ?_)
 refine .go (xX.of_runs (h p hmem) (by simp [D.isPureL,D.isPure,Nd.row,Use.row])) ?_;simp only [ZA,ZB,ZC,ZD,ZE,↓reduceIte,ZF,ZG,ZH,ZI,ZJ,reduceCtorEq,ZK,↓zU,↓zD,zV,zT,zW,aTn (show yM m (l.take k)<2 ^ 62 by omega) (show m p<2 ^ 62 by omega)];refine⟨k+1,by omega,?_,by omega⟩;rw [hs]
 (refine xM.view (fun k=>k) (by simp) (by simp) ?_ (by simp [stays]) (by simp [vW]); simp [vwF,vw,vwL,Fr.get])
 exact wrap_i64 (by omega)
open Rs Fm
namespace Fm
theorem mK (op:Int):0<=(xZ op).1.fr/\(xZ op).1.fr<=256:=by
 have hc:op=1\/op=2\/op=3\/op=4\/op=5\/op=6\/op=7\/op=8\/op=9\/op=10\/op=11\/op=12\/op=13\/op=14\/op=15\/op=16\/op=17\/op=18\/op=19\/op=20\/op=21\/(op<1\/21<op):=by omega
 rcases hc with rfl | rfl | rfl | rfl | rfl | rfl | rfl | rfl | rfl | rfl | rfl | rfl | rfl | rfl | rfl | rfl | rfl | rfl | rfl | rfl | rfl | hc
 rotate_right
 ·rw [show xZ op=(uC,false) from if_pos hc]; exact⟨by decide,by decide⟩
 all_goals simp [xZ,uC]
def tB (p:Nd):Nat:=(xZ p.op).1.fr.toNat
def zS (f:List Nd):Nat:=yM tB (xJ f)
theorem aS0 {f:List Nd} {i:Nat} (hc:∀ k,k<f.length->yJ (f.getD k nd0) k=0) (hi:i<f.length):(wM f i).length<=f.length:=
 (tS hc (i+1) (i:=i) (s:=⟨[],[]⟩) (by omega) hi ⟨Nat.le_refl _,by simp,fun p hp=>by cases hp⟩).1.len
theorem pE (f:List Nd) (i:Int):(kU f i).length<=200:=by
 unfold kU
 by_cases h:xH f≠0\/i<0\/(f.length:Int)<=i
 ·rw [if_pos h]; simp
 ·rw [if_neg h];obtain⟨c1,c2,c3⟩:=zI (f:=f) (by omega);have:=aS0 c3 (i:=i.toNat) (by omega);omega
end Fm
theorem aPo (f:List Nd):yX Tryz.prog 53 [.sl 6 (ndR f)] (.int .i64 (zS f)):=by
 refine xX.go_fn mixed Tryz.func53 k53 (by simp) fun hf=>?_;simp only [ZA,ZB,ZC,ZD,ZE,↓reduceIte,ZF,ZG,ZH,ZI,ZJ,reduceCtorEq,ZK,↓zU,↓zD,zV,zT,zW]
 refine .go (xX.of_runs (aZe (m:=tB) (fun p _=>by have:=mK p.op; unfold tB; omega) (fun p _=>?_) (by have:=pE f ((f.length:Int)-1); unfold xJ; omega)) rfl) ?_
 ·have h:=aFp p (xZ p.op).1;have:=mK p.op;rw [show ((tB p:Nat):Int)= (xZ p.op).1.fr from Int.toNat_of_nonneg this.1];exact h
 simp only [ZA,ZB,ZC,ZD,ZE,↓reduceIte,ZF,ZG,ZH,ZI,ZJ,reduceCtorEq,ZK,↓zU,↓zD,zV,zT,zW];exact .same
open Rs Fm
namespace Fm
def oC (m:Nat) (n:Int):Bool:=decide (31<=n) || decide (m / 2 ^ n.toNat=0)
end Fm
theorem aIw (m:Nat) (n:Int):yX Tryz.prog 146 [.int .i64 m,.int .i64 n] (.bool (oC m n)):=by
 refine xX.go_fn mixed Tryz.func146 bYs (by simp) fun hf=>?_
 by_cases h1:31<=n
 ·simp only [ZA,ZB,ZC,ZD,ZE,↓reduceIte,ZF,ZG,ZH,ZI,ZJ,reduceCtorEq,ZK,↓zU,↓zD,zV,zT,zW,h1];exact .drop (by simp) (by simp [vw,oC,h1])
 have e:max n 0=((n.toNat:Nat):Int):=by omega
 have e2:max 0 n=((n.toNat:Nat):Int):=by omega
 have hb:(((m / 2 ^ n.toNat:Nat):Int)== 0)= decide (m / 2 ^ n.toNat=0):=by
  rw [Bool.eq_iff_iff,beq_iff_eq,decide_eq_true_iff]; omega
 simp only [ZA,ZB,ZC,ZD,ZE,↓reduceIte,ZF,ZG,ZH,ZI,ZJ,reduceCtorEq,ZK,↓zU,↓zD,zV,zT,zW,h1,aCj,e,e2,lK m n.toNat (by omega),hb]
 (repeat refine sd ?_)
 exact .drop (by simp) (by simp [vw,oC,h1])
open Rs Fm
namespace Fm
theorem zO {p:Nd} {k:Int}:yJ p k=0 ↔ (xZ p.op).2=true/\xK (xZ p.op).1.x p.x k=true/\xK (xZ p.op).1.y p.y k=true /\
  ((!((xZ p.op).1.fa || (xZ p.op).1.ag || (xZ p.op).1.ev)&& decide (p.i≠0)) || (!(xZ p.op).1.ev&&decide (p.e≠0)) || (!(xZ p.op).1.gr&&decide (p.g≠0)))= false /\
  (xS (xZ p.op).1.fa p.i 0 7 || xS (xZ p.op).1.ag p.i 0 3 || xS (xZ p.op).1.ev p.i 0 7 || xS (xZ p.op).1.ev p.e 0 7 || xS (xZ p.op).1.gr p.g 1 15)= false:=by
 unfold yJ
 cases h1:(xZ p.op).2
 ·simp
 cases h2:xK (xZ p.op).1.x p.x k
 ·simp
 cases h3:xK (xZ p.op).1.y p.y k
 ·simp
 generalize ((!((xZ p.op).1.fa || (xZ p.op).1.ag || (xZ p.op).1.ev)&& decide (p.i≠0)) || (!(xZ p.op).1.ev&&decide (p.e≠0)) || (!(xZ p.op).1.gr&&decide (p.g≠0)))= c;generalize (xS (xZ p.op).1.fa p.i 0 7 || xS (xZ p.op).1.ag p.i 0 3 || xS (xZ p.op).1.ev p.i 0 7 || xS (xZ p.op).1.ev p.e 0 7 || xS (xZ p.op).1.gr p.g 1 15)= d;cases c <;> cases d <;> simp
theorem nI {p:Nd} {a b k k':Int} (h:yJ p k=0) (ha:if (xZ p.op).1.x=true then 0<=a/\a<k' else a=p.x) (hb:if (xZ p.op).1.y=true then 0<=b/\b<k' else b=p.y):yJ ⟨p.op,p.i,p.e,p.g,a,b⟩ k'=0:=by
 rw [zO] at h ⊢;obtain⟨h1,h2,h3,h4,h5⟩:=h
 refine⟨h1,?_,?_,h4,h5⟩
 ·simp only
  cases hx:(xZ p.op).1.x
  ·rw [hx] at ha h2;rw [if_neg (by simp)] at ha;rw [ha]; exact h2
  ·rw [hx,if_pos rfl] at ha;simp [xK,ha]
 ·simp only
  cases hx:(xZ p.op).1.y
  ·rw [hx] at hb h3;rw [if_neg (by simp)] at hb;rw [hb]; exact h3
  ·rw [hx,if_pos rfl] at hb;simp [xK,hb]
structure aEy (s : CS) : Prop where
 nd:∀ k,k<s.out.length->yJ (s.out.getD k nd0) k=0
 dn:∀ z k:Int,zK z s.done=some k->0<=k/\k<s.out.length
theorem aQ5 {q:Nd}:∀ {l:List Nd} {k j:Nat},rK q l k=some j->k<=j/\j<k+l.length
 | [],_,_,h=>by cases h
 | p :: r,k,j,h=>by
  unfold rK at h
  by_cases e:q=p
  ·rw [if_pos e] at h; cases h; simp
  ·rw [if_neg e] at h;have:=aQ5 h;simp only [List.length_cons]; omega
theorem aCy {s:CS} {i:Nat} {q:Nd} (h:aEy s) (hq:yJ q s.out.length=0):aEy (fV i q s).2/\0<=(fV i q s).1/\(fV i q s).1<(fV i q s).2.out.length/\s.out.length<=(fV i q s).2.out.length:=by
 unfold fV
 cases he:rK q s.out 0 with
 | some k=>
  have hk:=aQ5 he;refine⟨⟨h.nd,fun z j hz=>?_⟩,by simp,by simp only; omega,Nat.le_refl _⟩;simp only at hz;rw [vY] at hz
  by_cases e:z=i
  ·rw [if_pos e] at hz; cases hz; simp only; omega
  ·rw [if_neg e] at hz; exact h.dn z j hz
 | none=>
  refine⟨⟨fun k hk=>?_,fun z j hz=>?_⟩,by simp,by simp; omega,by simp⟩
  ·simp only [List.length_append,List.length_singleton] at hk
   by_cases hl:k<s.out.length
   ·have:=h.nd k hl;simp only [List.getD_eq_getElem?_getD] at this ⊢
    rwa [List.getElem?_append_left hl]
   ·obtain rfl:k=s.out.length:=by omega
    simpa [List.getD_eq_getElem?_getD] using hq
  ·simp only at hz;rw [vY] at hz
   by_cases e:z=i
   ·rw [if_pos e] at hz; cases hz; simp; omega
   ·rw [if_neg e] at hz;have:=h.dn z j hz;simp only [List.length_append,List.length_singleton]; omega
theorem nF {f:List Nd} (hc:∀ k,k<f.length->yJ (f.getD k nd0) k=0):∀ (n:Nat) {i:Nat} {s:CS},i<n->i<f.length->aEy s ->
  aEy (xP f n i s).2/\0<=(xP f n i s).1/\(xP f n i s).1<(xP f n i s).2.out.length/\s.out.length<=(xP f n i s).2.out.length
 | 0,i,s,h,_,_=>by omega
 | n + 1,i,s,h,hi,hs=>by
  cases hu:zK i s.done with
  | some k=>rw [xP,hu]; exact⟨hs,(hs.dn _ _ hu).1,(hs.dn _ _ hu).2,Nat.le_refl _⟩
  | none=>
   rw [sL hu];have hp:=hc i hi;obtain⟨ox,oy⟩:=sE hp;simp only;generalize f.getD i nd0=p at ox oy hp
   have ha:aEy (if (xZ p.op).1.x=true then xP f n p.x.toNat s else(p.x,s)).2/\(if (xZ p.op).1.x=true then 0<=(if (xZ p.op).1.x=true then xP f n p.x.toNat s else(p.x,s)).1/\(if (xZ p.op).1.x=true then xP f n p.x.toNat s else(p.x,s)).1<(if (xZ p.op).1.x=true then xP f n p.x.toNat s else(p.x,s)).2.out.length else(if (xZ p.op).1.x=true then xP f n p.x.toNat s else(p.x,s)).1=p.x)/\ s.out.length<=(if (xZ p.op).1.x=true then xP f n p.x.toNat s else(p.x,s)).2.out.length:=by
    by_cases hx:(xZ p.op).1.x=true
    ·simp only [if_pos hx];have:=ox hx;obtain⟨b1,b2,b3,b4⟩:=nF hc n (i:=p.x.toNat) (s:=s) (by omega) (by omega) hs;exact⟨b1,⟨b2,b3⟩,b4⟩
    ·simp only [if_neg hx]; exact⟨hs,trivial,Nat.le_refl _⟩
   generalize (if (xZ p.op).1.x=true then xP f n p.x.toNat s else(p.x,s))= a at ha;obtain⟨a1,a2,a3⟩:=ha
   have hb:aEy (if (xZ p.op).1.y=true then xP f n p.y.toNat a.2 else(p.y,a.2)).2/\(if (xZ p.op).1.y=true then 0<=(if (xZ p.op).1.y=true then xP f n p.y.toNat a.2 else(p.y,a.2)).1/\(if (xZ p.op).1.y=true then xP f n p.y.toNat a.2 else(p.y,a.2)).1<(if (xZ p.op).1.y=true then xP f n p.y.toNat a.2 else(p.y,a.2)).2.out.length else(if (xZ p.op).1.y=true then xP f n p.y.toNat a.2 else(p.y,a.2)).1=p.y)/\ a.2.out.length<=(if (xZ p.op).1.y=true then xP f n p.y.toNat a.2 else(p.y,a.2)).2.out.length:=by
    by_cases hy:(xZ p.op).1.y=true
    ·simp only [if_pos hy];have:=oy hy;obtain⟨b1,b2,b3,b4⟩:=nF hc n (i:=p.y.toNat) (s:=a.2) (by omega) (by omega) a1;exact⟨b1,⟨b2,b3⟩,b4⟩
    ·simp only [if_neg hy]; exact⟨a1,trivial,Nat.le_refl _⟩
   generalize (if (xZ p.op).1.y=true then xP f n p.y.toNat a.2 else(p.y,a.2))= b at hb;obtain⟨b1,b2,b3⟩:=hb
   have hq:yJ ⟨p.op,p.i,p.e,p.g,a.1,b.1⟩ b.2.out.length=0:=by
    refine nI hp ?_ b2
    split
    ·rename_i hx;rw [if_pos hx] at a2; omega
    ·rename_i hx;rw [if_neg hx] at a2; exact a2
   obtain⟨e1,e2,e3,e4⟩:=aCy (i:=i) b1 hq;exact⟨e1,e2,e3,by omega⟩
theorem lL (f:List Nd) (i:Int):∀ k,k<(kU f i).length->yJ ((kU f i).getD k nd0) k=0:=by
 unfold kU
 by_cases h:xH f≠0\/i<0\/(f.length:Int)<=i
 ·rw [if_pos h]; intro k hk; simp at hk
 ·rw [if_neg h];obtain⟨c1,c2,c3⟩:=zI (f:=f) (by omega);exact(nF c3 (i.toNat+1) (i:=i.toNat) (s:=⟨[],[]⟩) (by omega) (by omega) ⟨fun k hk=>by simp at hk,fun z k hz=>by cases hz⟩).1.nd
theorem aD8 {f:List Nd} {i:Nat} (hc:xH f=0) (hi:i<f.length):0<(kU f i).length:=by
 obtain⟨c1,c2,c3⟩:=zI hc;unfold kU;rw [if_neg (by omega)];have:=(nF c3 ((i:Int).toNat+1) (i:=(i:Int).toNat) (s:=⟨[],[]⟩) (by omega) (by omega) ⟨fun k hk=>by simp at hk,fun z k hz=>by cases hz⟩).2;unfold wM;omega
theorem aRb {f:List Nd} (hc:xH f=0):0<(xJ f).length:=by
 have h1:=(zI hc).1;have:0<f.length:=List.length_pos_iff.2 h1;have:=aD8 (i:=f.length-1) hc (by omega);unfold xJ
 rwa [show ((f.length:Int)-1)= ((f.length-1:Nat):Int) by omega]
theorem oD {l:List Nd} (h:∀ k,k<l.length->yJ (l.getD k nd0) k=0) {p:Nd} (hp:p ∈ l):∃ k:Nat,yJ p k=0:=by
 obtain⟨k,hk,rfl⟩:=List.getElem_of_mem hp;refine⟨k,?_⟩;have:=h k hk
 rwa [List.getD_eq_getElem?_getD,List.getElem?_eq_getElem hk] at this
theorem pB {p:Nd} {k:Int} (h:yJ p k=0) (hf:(xZ p.op).1.fa=true):0<=p.i/\p.i<=7:=by
 have:=(zO.1 h).2.2.2.2;simp only [xS,hf,Bool.or_eq_false_iff,Bool.true_and,decide_eq_false_iff_not] at this;omega
theorem vB {p:Nd} {k:Int} (h:yJ p k=0) (hf:(xZ p.op).1.ag=true):0<=p.i/\p.i<=3:=by
 have:=(zO.1 h).2.2.2.2;simp only [xS,hf,Bool.or_eq_false_iff,Bool.true_and,decide_eq_false_iff_not] at this;omega
theorem nZ {p:Nd} {k:Int} (h:yJ p k=0):0<=p.g/\p.g<=15:=by
 have h1:=(zO.1 h).2.2.2.2;have h2:=(zO.1 h).2.2.2.1
 cases hg:(xZ p.op).1.gr
 ·simp only [hg,Bool.or_eq_false_iff,Bool.not_false,Bool.true_and,decide_eq_false_iff_not] at h2;omega
 ·simp only [xS,hg,Bool.or_eq_false_iff,Bool.true_and,decide_eq_false_iff_not] at h1;omega
def wI (p:Nd):Nat:=if (xZ p.op).1.ag=true then 2 ^ p.i.toNat else p.g.toNat
def tA (p:Nd):Nat:=if (xZ p.op).1.fa=true then 2 ^ p.i.toNat else 0
def tW (f:List Nd):Nat:=yM wI (xJ f)
def pI (f:List Nd):Nat:=yM tA (xJ f)
theorem aX9 {p:Nd} {k:Int} (h:yJ p k=0):wI p<4096:=by
 unfold wI
 split
 ·rename_i hf;have:=vB h hf;have:2 ^ p.i.toNat<=2 ^ 3:=Nat.pow_le_pow_right (by decide) (by omega);omega
 ·have:=nZ h;omega
theorem aUs {p:Nd} {k:Int} (h:yJ p k=0):tA p<4096:=by
 unfold tA
 split
 ·rename_i hf;have:=pB h hf;have:2 ^ p.i.toNat<=2 ^ 7:=Nat.pow_le_pow_right (by decide) (by omega);omega
 ·omega
def sT (f:List Nd) (a b:Int):Bool:=decide (xH f=0)&& oC (tW f) a&&oC (pI f) b
end Fm
theorem aJ8 (f:List Nd):yX Tryz.prog 147 [.sl 6 (ndR f)] (.int .i64 (tW f)):=by
 refine xX.go_fn mixed Tryz.func147 bYr (by simp) fun hf=>?_;simp only [ZA,ZB,ZC,ZD,ZE,↓reduceIte,ZF,ZG,ZH,ZI,ZJ,reduceCtorEq,ZK,↓zU,↓zD,zV,zT,zW]
 refine .go (xX.of_runs (aZe (m:=wI) (fun p hp=>?_) (fun p hp=>?_) (by have:=pE f ((f.length:Int)-1); unfold xJ; omega)) rfl) ?_
 ·obtain⟨k,hk⟩:=oD (lL f _) hp;exact aX9 hk
 ·obtain⟨k,hk⟩:=oD (lL f _) hp;have h:=aJ7 p (xZ p.op).1 (fun ha=>by have:=vB hk ha; omega)
  rw [show ((wI p:Nat):Int)= (if (xZ p.op).1.ag=true then((2 ^ p.i.toNat:Nat):Int) else p.g) by
   unfold wI
   split
   ·rfl
   ·have:=nZ hk; omega]
  exact h
 simp only [ZA,ZB,ZC,ZD,ZE,↓reduceIte,ZF,ZG,ZH,ZI,ZJ,reduceCtorEq,ZK,↓zU,↓zD,zV,zT,zW];exact .same
theorem aEa (f:List Nd):yX Tryz.prog 148 [.sl 6 (ndR f)] (.int .i64 (pI f)):=by
 refine xX.go_fn mixed Tryz.func148 bYq (by simp) fun hf=>?_;simp only [ZA,ZB,ZC,ZD,ZE,↓reduceIte,ZF,ZG,ZH,ZI,ZJ,reduceCtorEq,ZK,↓zU,↓zD,zV,zT,zW]
 refine .go (xX.of_runs (aZe (m:=tA) (fun p hp=>?_) (fun p hp=>?_) (by have:=pE f ((f.length:Int)-1); unfold xJ; omega)) rfl) ?_
 ·obtain⟨k,hk⟩:=oD (lL f _) hp;exact aUs hk
 ·obtain⟨k,hk⟩:=oD (lL f _) hp;have h:=aFq p (xZ p.op).1 (fun ha=>by have:=pB hk ha; omega)
  rw [show ((tA p:Nat):Int)= (if (xZ p.op).1.fa=true then((2 ^ p.i.toNat:Nat):Int) else 0) by
   unfold tA;split <;> rfl]
  exact h
 simp only [ZA,ZB,ZC,ZD,ZE,↓reduceIte,ZF,ZG,ZH,ZI,ZJ,reduceCtorEq,ZK,↓zU,↓zD,zV,zT,zW];exact .same
theorem aI3 (f:List Nd) (a b:Int):yX Tryz.prog 101 [.sl 6 (ndR f),.int .i64 a,.int .i64 b] (.bool (sT f a b)):=by
 refine xX.go_fn mixed Tryz.func101 bZk (by simp) fun hf=>?_;simp only [ZA,ZB,ZC,ZD,ZE,↓reduceIte,ZF,ZG,ZH,ZI,ZJ,reduceCtorEq,ZK,↓zU,↓zD,zV,zT,zW];refine .go (cr (nT f)) ?_;by_cases hc:xH f=0
 case neg=>
  have e:(xH f==0)= false:=by simpa using hc
  simp only [ZA,ZB,ZC,ZD,ZE,↓reduceIte,ZF,ZG,ZH,ZI,ZJ,reduceCtorEq,ZK,↓zU,↓zD,zV,zT,zW,e];exact .drop (by simp) (by simp [vw,sT,hc])
 have e:(xH f==0)= true:=by simpa using hc
 simp only [ZA,ZB,ZC,ZD,ZE,↓reduceIte,ZF,ZG,ZH,ZI,ZJ,reduceCtorEq,ZK,↓zU,↓zD,zV,zT,zW,e];refine .go (cr (aJ8 f)) ?_;simp only [ZA,ZB,ZC,ZD,ZE,↓reduceIte,ZF,ZG,ZH,ZI,ZJ,reduceCtorEq,ZK,↓zU,↓zD,zV,zT,zW];refine .go (xX.of_runs (aIw (tW f) a) rfl) ?_
 cases hb:oC (tW f) a
 ·simp only [ZA,ZB,ZC,ZD,ZE,↓reduceIte,ZF,ZG,ZH,ZI,ZJ,reduceCtorEq,ZK,↓zU,↓zD,zV,zT,zW];exact .drop (by simp) (by simp [vw,sT,hb])
 simp only [ZA,ZB,ZC,ZD,ZE,↓reduceIte,ZF,ZG,ZH,ZI,ZJ,reduceCtorEq,ZK,↓zU,↓zD,zV,zT,zW];refine .go (cr (aEa f)) ?_;simp only [ZA,ZB,ZC,ZD,ZE,↓reduceIte,ZF,ZG,ZH,ZI,ZJ,reduceCtorEq,ZK,↓zU,↓zD,zV,zT,zW];refine .go (xX.of_runs (aIw (pI f) b) rfl) ?_;simp only [ZA,ZB,ZC,ZD,ZE,↓reduceIte,ZF,ZG,ZH,ZI,ZJ,reduceCtorEq,ZK,↓zU,↓zD,zV,zT,zW];exact .drop (by simp) (by simp [vw,sT,hb,hc])
open Rs Fm
namespace Fm
def rb (l:List Bool):List (List D):=l.map fun b=>[.bool b]
theorem uN (l:List Bool):(rb l).length=l.length:=by simp [rb]
theorem aQb (l:List Bool) {i:Nat} (h:i<l.length):(rb l).getD i [] = [.bool (l.getD i false)]:=by simp [rb,List.getD,h]
theorem bG (l:List Bool) (i:Nat) (b:Bool):(rb l).set i [.bool b]=rb (l.set i b):=by simp [rb,List.map_set]
theorem aYn (n:Nat) (b:Bool):List.replicate n [D.bool b]=rb (List.replicate n b):=by simp [rb]
theorem aGf (l:List Bool):∀ e ∈ rb l,D.isPureL e=true:=by
 intro e he;simp only [rb,List.mem_map] at he;obtain⟨n,_,rfl⟩:=he;rfl
theorem vQ (l:List Bool):uK (rb l)= True:=eq_true (aGf l)
theorem aYu (a b:D):List.set [a] 0 b = [b]:=rfl
theorem aQz {p:Nd} {k:Nat} (h:yJ p k=0):(∃ x:Nat,p.x=x/\x<=k)/\ (∃ y:Nat,p.y=y/\y<=k):=by
 obtain⟨_,h2,h3,_⟩:=zO.1 h
 refine⟨?_,?_⟩
 ·unfold xK at h2
  split at h2
  ·simp only [Bool.and_eq_true,decide_eq_true_eq] at h2;exact⟨p.x.toNat,by omega,by omega⟩
  ·simp only [decide_eq_true_eq] at h2;exact⟨0,by omega,by omega⟩
 ·unfold xK at h3
  split at h3
  ·simp only [Bool.and_eq_true,decide_eq_true_eq] at h3;exact⟨p.y.toNat,by omega,by omega⟩
  ·simp only [decide_eq_true_eq] at h3;exact⟨0,by omega,by omega⟩
end Fm
open Rs Fm
namespace Fm
end Fm
open Rs Fm
namespace Fm
def nl (ops:List (List Nd)):List (List D):=ops.map fun o=>[.sl 6 (ndR o)]
theorem aIm (l:List (List Nd)):(nl l).length=l.length:=by simp [nl]
theorem aCh (l:List (List Nd)) {i:Nat} (h:i<l.length):(nl l).getD i [] = [.sl 6 (ndR (l.getD i []))]:=by simp [nl,List.getD,h]
theorem jA (l:List Nd):uK (ndR l)= True:=eq_true (kH l)
theorem aV1 (l:List Nd) (a b c d e f:Int):ndR l ++ [[.int .i64 a,.int .i64 b,.int .i64 c,.int .i64 d,.int .i64 e,.int .i64 f]]=ndR (l ++ [⟨a,b,c,d,e,f⟩]):=by simp [ndR,Nd.row]
theorem aG1 : ndR [] = []:=rfl
theorem aG0 (l:List Nd):∀ e ∈ ndR l,e.length=6:=by
 intro e he;simp only [ndR,List.mem_map] at he;obtain⟨p,_,rfl⟩:=he;rfl
def uA (n:Nat) (p:Nd):Nd:=⟨p.op,p.i,p.e,p.g,if (xZ p.op).1.x=true then p.x+n else p.x,if (xZ p.op).1.y=true then p.y+n else p.y⟩
def zB (f:List Nd):Prop:=∀ k,k<f.length->yJ (f.getD k nd0) k=0
theorem aLn {p:Nd} {k n:Nat} (h:yJ p k=0):yJ (uA n p) ((n+k:Nat):Int)= 0:=by
 obtain⟨ox,oy⟩:=sE h
 refine nI h ?_ ?_
 ·split
  ·rename_i hx; have:=ox hx; omega
  ·rfl
 ·split
  ·rename_i hy; have:=oy hy; omega
  ·rfl
theorem aTz {f c:List Nd} (hf:zB f) (hc:zB c):zB (f++c.map (uA f.length)):=by
 intro k hk;simp only [List.length_append,List.length_map] at hk;simp only [List.getD_eq_getElem?_getD]
 by_cases h:k<f.length
 ·rw [List.getElem?_append_left h];have:=hf k h
  rwa [List.getD_eq_getElem?_getD] at this
 ·rw [List.getElem?_append_right (by omega),List.getElem?_map];have hk':k-f.length<c.length:=by omega
  have h1:=hc (k-f.length) hk';rw [List.getD_eq_getElem?_getD,List.getElem?_eq_getElem hk',Option.getD_some] at h1;rw [List.getElem?_eq_getElem hk',Option.map_some,Option.getD_some];have:=aLn (n:=f.length) h1
  rwa [show f.length+(k-f.length)= k by omega] at this
theorem iG {f:List Nd} {p:Nd} (hf:zB f) (hp:yJ p f.length=0):zB (f ++ [p]):=by
 intro k hk;simp only [List.length_append,List.length_singleton] at hk;simp only [List.getD_eq_getElem?_getD]
 by_cases h:k<f.length
 ·rw [List.getElem?_append_left h];have:=hf k h
  rwa [List.getD_eq_getElem?_getD] at this
 ·obtain rfl:k=f.length:=by omega
  simpa using hp
theorem bH (o:List Nd):zB (xJ o):=lL o _
def aHf (k:Nat) (x:Nd) (v:Int):Nd:=if k=0 then⟨x.op,x.i,x.e,x.g,v,x.y⟩ else⟨x.op,x.i,x.e,x.g,x.x,v⟩
def fP : Nat->List (List Nd)->List Nd->Nd->Option (List Nd × Nd)
 | _,[],f,x=>some (f,x)
 | k,o :: r,f,x=>if xH o≠0 then none else
  fP (k+1) r (f++(xJ o).map (uA f.length)) (aHf k x (((f++(xJ o).map (uA f.length)).length:Int)-1))
def pH (x:Nd) (ops:List (List Nd)):List Nd:=match fP 0 ops [] x with
 | none=>[]
 | some (f,x')=>if yJ x' f.length≠0 then [] else if 200<(wM (f ++ [x']) f.length).length then [] else wM (f ++ [x']) f.length
end Fm
theorem dI (x:Nd) (ops:List (List Nd)) (ho:ops.length<=2):yX Tryz.prog 91 [.agg x.row,.sl 1 (nl ops)] (.sl 6 (ndR (pH x ops))):=by
 refine xX.go_fn mixed Tryz.func91 k91 (by simp) fun hf=>?_;simp only [ZA,ZB,ZC,ZD,ZE,↓reduceIte,ZF,ZG,ZH,ZI,ZJ,reduceCtorEq,ZK,↓zU,↓zD,zV,zT,zW,aIm,Nd.row]
 (repeat refine sd ?_)
 refine xV (fun a:Nat × List Nd × Nd=>[(16,.int .i64 a.1),(15,.int .i64 ops.length),(14,.sl 1 (nl ops)),(5,xG 1 6 (ndR a.2.1)),(2,.ref 0 6 0 0)]) (fun a=>⟨2,xE 1 6 (ndR a.2.1)++ [(0,⟨6,[a.2.2.row]⟩)]⟩)
  (fun a=>a.1<=ops.length/\zB a.2.1/\a.2.1.length<=200*a.1/\fP 0 ops [] x=fP a.1 (ops.drop a.1) a.2.1 a.2.2) (fun a=>ops.length-a.1) (0,[],x) ⟨Nat.zero_le _,fun k hk=>by simp at hk,by simp,rfl⟩ ?_ ?_
 ·(refine xM.ren [] [0] (by simp) (by simp) (by decide) ?_; simp only [yO,vwL,vw,vwF,sw,St.get,St.look,Fr.get,↓reduceIte,reduceIte,Nat.reduceEqDiff,Nat.reduceAdd,Nat.reduceBEq,Nat.reduceLT,Nat.reduceLeDiff,exists_eq_left',ne_eq,reduceCtorEq,zR,aG1,zL,zM,List.nil_append,Nd.row])
 rintro ⟨k,f,x1⟩ ⟨hk,hf,hfl,hb⟩;simp only at hk hf hfl hb;refine xQ mixed ?_;by_cases h:k<ops.length
 case neg=>
  have hd:¬ ((k:Int)<(ops.length:Int)):=by omega
  rw [List.drop_eq_nil_of_le (by omega),fP] at hb;have eb:pH x ops=if yJ x1 f.length≠0 then [] else if 200<(wM (f ++ [x1]) f.length).length then [] else wM (f ++ [x1]) f.length:=by rw [pH,hb]
  rw [eb];simp only [ZA,ZB,ZC,ZD,ZE,↓reduceIte,ZF,ZG,ZH,ZI,ZJ,reduceCtorEq,ZK,↓zU,↓zD,zV,zT,zW,hd,Nd.row,xO]
  (repeat refine sd ?_)
  refine .go (xX.of_runs (gY x1 f.length) (by simp [D.isPureL,D.isPure,Nd.row])) ?_;by_cases hn:yJ x1 f.length=0
  case neg=>
   have e:(yJ x1 f.length != 0)= true:=by simpa using hn
   rw [if_pos hn];simp only [ZA,ZB,ZC,ZD,ZE,↓reduceIte,ZF,ZG,ZH,ZI,ZJ,reduceCtorEq,ZK,↓zU,↓zD,zV,zT,zW,e];exact .drop (by simp) (by simp [vw,ndR])
  have e:(yJ x1 f.length != 0)= false:=by simpa using hn
  rw [if_neg (by simpa using hn)];simp only [ZA,ZB,ZC,ZD,ZE,↓reduceIte,ZF,ZG,ZH,ZI,ZJ,reduceCtorEq,ZK,↓zU,↓zD,zV,zT,zW,e,Nd.row,xO]
  (repeat refine sd ?_)
  have hv:zB (f ++ [x1]):=iG hf hn;have hlen:(f ++ [x1]).length<=900:=by rw [List.length_append,List.length_singleton]; omega
  have hcall:=xX.give (σ:=⟨3,xE 2 6 (ndR (f ++ [x1]))++ [(0,⟨6,[x1.row]⟩)]⟩) (args:=[xG 2 6 (ndR (f ++ [x1])),.int .i64 f.length]) (objs':=[]) (fun _=>False) (aXz (i:=f.length) hv hlen (by simp))
   ⟨Seen.grow (by rw [St.get,yR,if_pos rfl]; cases wK 6 (ndR (f ++ [x1])) <;> rfl) id (by omega) (aG0 _) (kH _),.pure rfl,trivial⟩ (fun k o hk=>by cases hk)
  rw [aV1];simp only [Nd.row] at hcall;refine .go hcall ?_;generalize wM (f ++ [x1]) f.length=c
  by_cases hc:200<c.length
  ·have hc':(200:Int)<(c.length:Int):=by omega
   rw [if_pos hc];simp only [ZA,ZB,ZC,ZD,ZE,↓reduceIte,ZF,ZG,ZH,ZI,ZJ,reduceCtorEq,ZK,↓zU,↓zD,zV,zT,zW,xO,hc'];exact .drop (by simp) (by simp [vw,ndR])
  ·have hc':¬ (200:Int)<(c.length:Int):=by omega
   rw [if_neg hc];simp only [ZA,ZB,ZC,ZD,ZE,↓reduceIte,ZF,ZG,ZH,ZI,ZJ,reduceCtorEq,ZK,↓zU,↓zD,zV,zT,zW,xO,hc'];exact .drop (by simp) (by simp [vw])
 have hd:((k:Int)<(ops.length:Int)):=by omega
 have hg:=aCh ops h;rw [drop_cons (d:=[]) h,fP] at hb;generalize ops.getD k []=o at hg hb;have hw:IntKind.i64.wrap ((k:Int)+ 1)= ((k+1:Nat):Int):=wrap_i64 (by omega);simp only [ZA,ZB,ZC,ZD,ZE,↓reduceIte,ZF,ZG,ZH,ZI,ZJ,reduceCtorEq,ZK,↓zU,↓zD,zV,zT,zW,hd,aIm,hg]
 (repeat refine sd ?_)
 refine .go (cr (nT o)) ?_;by_cases hc:xH o=0
 case neg=>
  have e:(xH o != 0)= true:=by simpa using hc
  rw [if_pos hc] at hb;simp only [ZA,ZB,ZC,ZD,ZE,↓reduceIte,ZF,ZG,ZH,ZI,ZJ,reduceCtorEq,ZK,↓zU,↓zD,zV,zT,zW,e];rw [show pH x ops = [] by rw [pH,hb]];exact .drop (by simp) (by simp [vw,ndR])
 have e:(xH o != 0)= false:=by simpa using hc
 rw [if_neg (by simpa using hc)] at hb;simp only [ZA,ZB,ZC,ZD,ZE,↓reduceIte,ZF,ZG,ZH,ZI,ZJ,reduceCtorEq,ZK,↓zU,↓zD,zV,zT,zW,e,xO];refine .go (cr (aYd o)) ?_;have hcv:=bH o;have hcl:(xJ o).length<=200:=pE o _;generalize xJ o=c at hb hcv hcl;simp only [ZA,ZB,ZC,ZD,ZE,↓reduceIte,ZF,ZG,ZH,ZI,ZJ,reduceCtorEq,ZK,↓zU,↓zD,zV,zT,zW,xO]
 refine xV (fun j:Nat=>[(29,.int .i64 j),(28,.int .i64 c.length),(27,.sl 6 (ndR c)),(16,.int .i64 k),(15,.int .i64 ops.length),(14,.sl 1 (nl ops)),(8,.int .i64 f.length),(6,.int .i64 k),(5,xG 1 6 (ndR (f++(c.take j).map (uA f.length)))),(2,.ref 0 6 0 0)]) (fun j=>⟨2,xE 1 6 (ndR (f++(c.take j).map (uA f.length)))++ [(0,⟨6,[x1.row]⟩)]⟩)
  (fun j=>j<=c.length) (fun j=>c.length-j) 0 (Nat.zero_le _) ?_ ?_
 ·rw [show f++(c.take 0).map (uA f.length)= f by simp]
  (refine xM.same ?_; simp [xR,Fr.get])
 intro j hj;refine xQ mixed ?_;by_cases hjl:j<c.length
 case neg=>
  have hd2:¬ ((j:Int)<(c.length:Int)):=by omega
  rw [kM (show j=c.length by omega)];have hfl2:(f++c.map (uA f.length)).length<=200*(k+1):=by rw [List.length_append,List.length_map]; omega
  have hv2:=aTz hf hcv;generalize f++c.map (uA f.length)= f2 at hb hfl2 hv2;have hw2:IntKind.i64.wrap ((f2.length:Int)-1)= (f2.length:Int)-1:=wrap_i64 (by omega)
  by_cases hk0:k=0
  ·have e0:((k:Int)== 0)= true:=by rw [hk0]; rfl
   rw [aHf,if_pos hk0] at hb;simp only [ZA,ZB,ZC,ZD,ZE,↓reduceIte,ZF,ZG,ZH,ZI,ZJ,reduceCtorEq,ZK,↓zU,↓zD,zV,zT,zW,hd2,e0,xO,hw2,Nd.row]
   (repeat refine sd ?_)
   refine⟨(k+1,f2,⟨x1.op,x1.i,x1.e,x1.g,(f2.length:Int)-1,x1.y⟩),⟨by omega,hv2,hfl2,hb⟩,?_,by simp only; omega⟩
   (refine xM.ren [] [1,0] (by simp) (by simp) (by decide) ?_; simp only [yO,vwL,vw,vwF,sw,St.get,St.look,Fr.get,↓reduceIte,reduceIte,Nat.reduceEqDiff,Nat.reduceAdd,Nat.reduceBEq,Nat.reduceLT,Nat.reduceLeDiff,exists_eq_left',ne_eq,reduceCtorEq,zR,jA,Nd.row,hw])
  ·have e0:((k:Int)== 0)= false:=by rw [beq_eq_false_iff_ne]; omega
   rw [aHf,if_neg hk0] at hb;simp only [ZA,ZB,ZC,ZD,ZE,↓reduceIte,ZF,ZG,ZH,ZI,ZJ,reduceCtorEq,ZK,↓zU,↓zD,zV,zT,zW,hd2,e0,xO,hw2,Nd.row]
   (repeat refine sd ?_)
   refine⟨(k+1,f2,⟨x1.op,x1.i,x1.e,x1.g,x1.x,(f2.length:Int)-1⟩),⟨by omega,hv2,hfl2,hb⟩,?_,by simp only; omega⟩
   (refine xM.ren [] [1,0] (by simp) (by simp) (by decide) ?_; simp only [yO,vwL,vw,vwF,sw,St.get,St.look,Fr.get,↓reduceIte,reduceIte,Nat.reduceEqDiff,Nat.reduceAdd,Nat.reduceBEq,Nat.reduceLT,Nat.reduceLeDiff,exists_eq_left',ne_eq,reduceCtorEq,zR,jA,Nd.row,hw])
 have hd2:((j:Int)<(c.length:Int)):=by omega
 have hgj:=vH c hjl;have hnj:=hcv j hjl;obtain⟨⟨px,hpx,hpx2⟩,⟨py,hpy,hpy2⟩⟩:=aQz hnj;have hsn:f++(c.take (j+1)).map (uA f.length)= f++(c.take j).map (uA f.length)++ [uA f.length (c.getD j nd0)]:=by rw [yD (d:=nd0) hjl,List.map_append,<- List.append_assoc]; rfl
 generalize c.getD j nd0=p at hgj hnj hpx hpy hsn;have hwj:IntKind.i64.wrap ((j:Int)+ 1)= ((j+1:Nat):Int):=wrap_i64 (by omega);have hl2:(f++(c.take j).map (uA f.length)).length<=1000:=by rw [List.length_append,List.length_map,List.length_take]; omega
 generalize f++(c.take j).map (uA f.length)= f1 at hsn hl2;have hwx:IntKind.i64.wrap (p.x+(f.length:Int))= p.x+(f.length:Int):=wrap_i64 (by omega);have hwy:IntKind.i64.wrap (p.y+(f.length:Int))= p.y+(f.length:Int):=wrap_i64 (by omega);simp only [ZA,ZB,ZC,ZD,ZE,↓reduceIte,ZF,ZG,ZH,ZI,ZJ,reduceCtorEq,ZK,↓zU,↓zD,zV,zT,zW,hd2,xO,hgj,Nd.row]
 (repeat refine sd ?_)
 refine .go (cq (fU p.op)) ?_;have es:uA f.length p=⟨p.op,p.i,p.e,p.g,if (xZ p.op).1.x=true then p.x+f.length else p.x,if (xZ p.op).1.y=true then p.y+f.length else p.y⟩:=rfl;cases hux:(xZ p.op).1.x <;> cases huy:(xZ p.op).1.y <;> rw [hux,huy] at es
 all_goals
  simp only [ZA,ZB,ZC,ZD,ZE,↓reduceIte,ZF,ZG,ZH,ZI,ZJ,reduceCtorEq,ZK,↓zU,↓zD,zV,zT,zW,Use.row,hux,huy,hwx,hwy,aV1,xO,List.length_append,List.length_singleton]
  (repeat refine sd ?_)
  refine⟨j+1,by omega,?_,by omega⟩;rw [hsn,es]
  (refine xM.ren [(1,4)] [1,0] (by simp) (by simp) (by decide) ?_; simp only [yO,vwL,vw,vwF,sw,St.get,St.look,Fr.get,↓reduceIte,reduceIte,Nat.reduceEqDiff,Nat.reduceAdd,Nat.reduceBEq,Nat.reduceLT,Nat.reduceLeDiff,exists_eq_left',ne_eq,reduceCtorEq,zR,jA,hwj,Nd.row,Bool.false_eq_true,if_false,if_true])
section
open Rs Fm
namespace Fm
def aEq (f:List Nd):List Nd:=pH ⟨4,0,0,0,0,0⟩ [f]
def aBp (f g:List Nd):List Nd:=pH ⟨5,0,0,0,0,0⟩ [f,g]
def bL (a:Int) (f:List Nd):List Nd:=pH ⟨9,a,0,0,0,0⟩ [f]
def rG (i:Int):List Nd:=pH ⟨3,i,0,0,0,0⟩ []
end Fm
theorem aJy (x:Nd):yX Tryz.prog 91 [.agg x.row,.nils] (.sl 6 (ndR (pH x []))):=
 xX.give (σ:=St0) (objs':=[]) (fun _=>False) (dI x [] (by simp)) ⟨.pure (by simp [D.isPure,D.isPureL,Nd.row]),.nil 1,trivial⟩ (fun k o hk=>by cases hk)
theorem aAu (f:List Nd):yX Tryz.prog 35 [.sl 6 (ndR f)] (.sl 6 (ndR (aEq f))):=by
 refine xX.go_fn mixed Tryz.func35 k35 (by simp) fun hf=>?_;simp only [ZA,ZB,ZC,ZD,ZE,↓reduceIte,ZF,ZG,ZH,ZI,ZJ,reduceCtorEq,ZK,↓zU,↓zD,zV,zT,zW]
 (repeat refine sd ?_)
 refine .go (xX.of_runs (dI ⟨4,0,0,0,0,0⟩ [f] (by simp)) (by simp [D.isPureL,D.isPure,Nd.row,nl])) ?_;simp only [ZA,ZB,ZC,ZD,ZE,↓reduceIte,ZF,ZG,ZH,ZI,ZJ,reduceCtorEq,ZK,↓zU,↓zD,zV,zT,zW];exact .same
theorem aC7 (a:Int) (f:List Nd):yX Tryz.prog 33 [.int .i64 a,.sl 6 (ndR f)] (.sl 6 (ndR (bL a f))):=by
 refine xX.go_fn mixed Tryz.func33 k33 (by simp) fun hf=>?_;simp only [ZA,ZB,ZC,ZD,ZE,↓reduceIte,ZF,ZG,ZH,ZI,ZJ,reduceCtorEq,ZK,↓zU,↓zD,zV,zT,zW]
 (repeat refine sd ?_)
 refine .go (xX.of_runs (dI ⟨9,a,0,0,0,0⟩ [f] (by simp)) (by simp [D.isPureL,D.isPure,Nd.row,nl])) ?_;simp only [ZA,ZB,ZC,ZD,ZE,↓reduceIte,ZF,ZG,ZH,ZI,ZJ,reduceCtorEq,ZK,↓zU,↓zD,zV,zT,zW];exact .same
theorem aC9 (i:Int):yX Tryz.prog 34 [.int .i64 i] (.sl 6 (ndR (rG i))):=by
 refine xX.go_fn mixed Tryz.func34 k34 (by simp) fun hf=>?_;simp only [ZA,ZB,ZC,ZD,ZE,↓reduceIte,ZF,ZG,ZH,ZI,ZJ,reduceCtorEq,ZK,↓zU,↓zD,zV,zT,zW]
 (repeat refine sd ?_)
 refine .go (xX.of_runs (aJy ⟨3,i,0,0,0,0⟩) (by simp [D.isPureL,D.isPure,Nd.row])) ?_;simp only [ZA,ZB,ZC,ZD,ZE,↓reduceIte,ZF,ZG,ZH,ZI,ZJ,reduceCtorEq,ZK,↓zU,↓zD,zV,zT,zW];exact .same
end
section
open Rs Fm
namespace Fm
theorem aQ3 (a b c d e f:Int):fQ [.int .i64 a,.int .i64 b,.int .i64 c,.int .i64 d,.int .i64 e,.int .i64 f]=some [a,b,c,d,e,f]:=rfl
theorem nU {α:Type} [DecidableEq α] {a b:List α} {k:Nat} {d:α} (ha:k<a.length) (hb:k<b.length):decide (a.drop k=b.drop k)= (decide (a.getD k d=b.getD k d)&& decide (a.drop (k+1)= b.drop (k+1))):=by
 rw [drop_cons (d:=d) ha,drop_cons (d:=d) hb,Bool.eq_iff_iff];simp
end Fm
end
open Rs Fm
namespace Fm
end Fm
open Rs Fm
namespace Fm
theorem vP (op:Int):op=1\/op=2\/op=3\/op=4\/op=5\/op=6\/op=7\/op=8\/op=9\/op=10\/op=11\/op=12\/op=13\/op=14\/op=15\/op=16\/op=17\/op=18\/op=19\/op=20\/op=21\/op<1\/21<op:=by omega
theorem zP {op:Int} (h:op<1\/21<op):xZ op=(uC,false):=if_pos h
theorem aIh (op:Int):(xZ op).1.x=(decide (4<=op)&& decide (op<=21)):=by
 rcases vP op with rfl | rfl | rfl | rfl | rfl | rfl | rfl | rfl | rfl | rfl | rfl | rfl | rfl | rfl | rfl | rfl | rfl | rfl | rfl | rfl | rfl | h | h
 rotate_right 2
 ·rw [zP (.inl h),decide_eq_false (by omega)]; rfl
 ·rw [zP (.inr h),decide_eq_false (show ¬ op<=21 by omega),Bool.and_false]; rfl
 all_goals rfl
theorem aDw (op:Int):(xZ op).1.gr=(decide (11<=op)&& decide (op<=13)):=by
 rcases vP op with rfl | rfl | rfl | rfl | rfl | rfl | rfl | rfl | rfl | rfl | rfl | rfl | rfl | rfl | rfl | rfl | rfl | rfl | rfl | rfl | rfl | h | h
 rotate_right 2
 ·rw [zP (.inl h),decide_eq_false (by omega)]; rfl
 ·rw [zP (.inr h),decide_eq_false (show ¬ op<=13 by omega),Bool.and_false]; rfl
 all_goals rfl
theorem aQn (op:Int):(op==3)= (xZ op).1.fa:=by
 rcases vP op with rfl | rfl | rfl | rfl | rfl | rfl | rfl | rfl | rfl | rfl | rfl | rfl | rfl | rfl | rfl | rfl | rfl | rfl | rfl | rfl | rfl | h | h
 rotate_right 2
 ·rw [zP (.inl h)]; simp [uC]; omega
 ·rw [zP (.inr h)]; simp [uC]; omega
 all_goals rfl
theorem aH1 (op:Int):(op==17)= (xZ op).1.ev:=by
 rcases vP op with rfl | rfl | rfl | rfl | rfl | rfl | rfl | rfl | rfl | rfl | rfl | rfl | rfl | rfl | rfl | rfl | rfl | rfl | rfl | rfl | rfl | h | h
 rotate_right 2
 ·rw [zP (.inl h)]; simp [uC]; omega
 ·rw [zP (.inr h)]; simp [uC]; omega
 all_goals rfl
theorem aH0 {op:Int} (h1:¬ op<1) (h2:¬ 21<op):(xZ op).2=true:=by
 rcases vP op with rfl | rfl | rfl | rfl | rfl | rfl | rfl | rfl | rfl | rfl | rfl | rfl | rfl | rfl | rfl | rfl | rfl | rfl | rfl | rfl | rfl | h | h
 rotate_right 2
 ·omega
 ·omega
 all_goals rfl
theorem tP {m:Nd->Nat}:∀ {l:List Nd},yM m l=0 ↔ ∀ p ∈ l,m p=0:=by
 intro l
 have key:∀ (l:List Nd) (a:Nat),l.foldl (fun a p=>a ||| m p) a=0 ↔ a=0/\∀ p ∈ l,m p=0:=by
  intro l
  induction l with
  | nil=>simp
  | cons p r ih=>
   intro a;simp only [List.foldl_cons,ih,List.mem_cons,forall_eq_or_imp];rw [Nat.or_eq_zero_iff]
   constructor
   ·rintro ⟨⟨h1,h2⟩,h3⟩; exact⟨h1,h2,h3⟩
   ·rintro ⟨h1,h2,h3⟩; exact⟨⟨h1,h2⟩,h3⟩
 rw [yM,key];simp
end Fm
end Go.Pd
