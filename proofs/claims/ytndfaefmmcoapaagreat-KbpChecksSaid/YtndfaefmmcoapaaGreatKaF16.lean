/- Part F16. -/
import Derived.Test.YtndfaefmmcoapaaGreatKaF12
set_option linter.unusedSectionVars false
set_option linter.unusedVariables false
set_option linter.unusedSimpArgs false
set_option linter.defProp false
set_option maxRecDepth 20000
set_option maxHeartbeats 1000000
namespace Go.Pd
open Go Go.Proofs
open Int renaming reduceToNat -> ZA, reduceLT -> ZB, reduceLE -> ZC, reduceBEq -> ZD, reduceBNe -> ZE
open Nat renaming reduceEqDiff -> ZF, reduceAdd -> ZG, reduceBEq -> ZH, reduceLT -> ZI, reduceLeDiff -> ZJ, reduceMul -> ZK
open Rs Fm
theorem aU2 {a b:Nat} (ha:a<2 ^ 62) (hb:b<2 ^ 62):rQ .or .i64 (a:Int) (b:Int)= ((a ||| b:Nat):Int):=by
 show IntKind.i64.wrap ((BitVec.ofInt 64 (a:Int) ||| BitVec.ofInt 64 (b:Int)).toNat:Int)= _;rw [BitVec.ofInt_natCast,BitVec.ofInt_natCast,BitVec.toNat_or,BitVec.toNat_ofNat,BitVec.toNat_ofNat,Nat.mod_eq_of_lt (by omega),Nat.mod_eq_of_lt (by omega)];have:=Nat.or_lt_two_pow ha hb;exact wrap_i64 (by omega)
namespace Fm
def yN (m:Nd->Nat) (l:List Nd):Nat:=l.foldl (fun a p=>a ||| m p) 0
theorem sE (m:Nd->Nat) (l:List Nd) (p:Nd):yN m (l ++ [p])= yN m l ||| m p:=by simp [yN]
theorem sS {m:Nd->Nat} {l:List Nd} (h:∀ p ∈ l,m p<4096):yN m l<2 ^ 12:=by
 have key:∀ (l:List Nd) (a:Nat),a<2 ^ 12->(∀ p ∈ l,m p<4096)->l.foldl (fun a p=>a ||| m p) a<2 ^ 12:=by
  intro l
  induction l with
  | nil=>intro a ha _; exact ha
  | cons p r ih=>intro a ha h; exact ih _ (Nat.or_lt_two_pow ha (h p (by simp))) fun q hq=>h q (by simp [hq])
 exact key l 0 (by decide) h
end Fm
theorem aY0 {f:List Nd} {g:FuncId} {m:Nd->Nat} (hm:∀ p ∈ xJ f,m p<4096) (h:∀ p ∈ xJ f,yX Tryz.prog g [.agg p.row,.agg (xZ p.op).1.row] (.int .i64 (m p))) (hlen:(xJ f).length<=1000) :
  yX Tryz.prog 111 [.sl 6 (ndR f),.fn g []] (.int .i64 (yN m (xJ f))):=by
 refine xX.go_fn mixed Tryz.func111 bY2 (by simp) fun hf=>?_;simp only [ZA,ZB,ZC,ZD,ZE,↓reduceIte,ZF,ZG,ZH,ZI,ZJ,reduceCtorEq,ZK,↓zU,↓zD,zV,zT,zW];refine .go (cr (aXv f)) ?_;generalize xJ f=l at hm h hlen;simp only [ZA,ZB,ZC,ZD,ZE,↓reduceIte,ZF,ZG,ZH,ZI,ZJ,reduceCtorEq,ZK,↓zU,↓zD,zV,zT,zW,xO]
 refine xV (fun k:Nat=>[(13,.int .i64 k),(12,.int .i64 l.length),(11,.sl 6 (ndR l)),(5,.int .i64 (yN m (l.take k))),(1,.fn g [])]) (fun _=>⟨0,[]⟩) (fun k=>k<=l.length) (fun k=>l.length-k) 0 (Nat.zero_le _) ?_ ?_
 ·(refine xM.same ?_; simp [xS,Fr.get,yN])
 intro k hk;refine xQ mixed ?_;by_cases hh:k<l.length
 case neg=>
  have hd:¬ ((k:Int)<(l.length:Int)):=by omega
  rw [kX (show k=l.length by omega)];simp only [ZA,ZB,ZC,ZD,ZE,↓reduceIte,ZF,ZG,ZH,ZI,ZJ,reduceCtorEq,ZK,↓zU,↓zD,zV,zT,zW,hd];exact .same
 have hd:((k:Int)<(l.length:Int)):=by omega
 have hs:yN m (l.take (k+1))= yN m (l.take k) ||| m (l.getD k nd0):=by rw [yE (d:=nd0) hh,sE]
 have hg:=vK l hh;have hmem:=xN (d:=nd0) hh;have hlt:yN m (l.take k)<2 ^ 12:=sS fun p hp=>hm p (List.mem_of_mem_take hp);generalize l.getD k nd0=p at hs hg hmem;have hmp:=hm p hmem;simp only [ZA,ZB,ZC,ZD,ZE,↓reduceIte,ZF,ZG,ZH,ZI,ZJ,reduceCtorEq,ZK,↓zU,↓zD,zV,zT,zW,hd,xO,hg,Nd.row]
 (repeat refine sd ?_)
 refine .go (cq (gF p.op)) ?_;simp only [ZA,ZB,ZC,ZD,ZE,↓reduceIte,ZF,ZG,ZH,ZI,ZJ,reduceCtorEq,ZK,↓zU,↓zD,zV,zT,zW,Use.row]
 (repeat refine sd ?_)
 refine .go (xX.of_runs (h p hmem) (by simp [D.isPureL,D.isPure,Nd.row,Use.row])) ?_;simp only [ZA,ZB,ZC,ZD,ZE,↓reduceIte,ZF,ZG,ZH,ZI,ZJ,reduceCtorEq,ZK,↓zU,↓zD,zV,zT,zW,aU2 (show yN m (l.take k)<2 ^ 62 by omega) (show m p<2 ^ 62 by omega)];refine⟨k+1,by omega,?_,by omega⟩;rw [hs]
 (refine xM.view (fun k=>k) (by simp) (by simp) ?_ (by simp [stays]) (by simp [vV]); simp [vwF,vw,vwL,Fr.get])
 exact wrap_i64 (by omega)
open Rs Fm
namespace Fm
theorem mT (op:Int):0<=(xZ op).1.fr/\(xZ op).1.fr<=256:=by
 have hc:op=1\/op=2\/op=3\/op=4\/op=5\/op=6\/op=7\/op=8\/op=9\/op=10\/op=11\/op=12\/op=13\/op=14\/op=15\/op=16\/op=17\/op=18\/op=19\/op=20\/op=21\/(op<1\/21<op):=by omega
 rcases hc with rfl | rfl | rfl | rfl | rfl | rfl | rfl | rfl | rfl | rfl | rfl | rfl | rfl | rfl | rfl | rfl | rfl | rfl | rfl | rfl | rfl | hc
 rotate_right
 ·rw [show xZ op=(uF,false) from if_pos hc]; exact⟨by decide,by decide⟩
 all_goals simp [xZ,uF]
def tD (p:Nd):Nat:=(xZ p.op).1.fr.toNat
def zY (f:List Nd):Nat:=yN tD (xJ f)
theorem aSd {f:List Nd} {i:Nat} (hc:∀ k,k<f.length->yK (f.getD k nd0) k=0) (hi:i<f.length):(wP f i).length<=f.length:=
 (tW hc (i+1) (i:=i) (s:=⟨[],[]⟩) (by omega) hi ⟨Nat.le_refl _,by simp,fun p hp=>by cases hp⟩).1.len
theorem pK (f:List Nd) (i:Int):(lD f i).length<=200:=by
 unfold lD
 by_cases h:xH f≠0\/i<0\/(f.length:Int)<=i
 ·rw [if_pos h]; simp
 ·rw [if_neg h];obtain⟨c1,c2,c3⟩:=zJ (f:=f) (by omega);have:=aSd c3 (i:=i.toNat) (by omega);omega
end Fm
theorem aQ4 (f:List Nd):yX Tryz.prog 53 [.sl 6 (ndR f)] (.int .i64 (zY f)):=by
 refine xX.go_fn mixed Tryz.func53 k53 (by simp) fun hf=>?_;simp only [ZA,ZB,ZC,ZD,ZE,↓reduceIte,ZF,ZG,ZH,ZI,ZJ,reduceCtorEq,ZK,↓zU,↓zD,zV,zT,zW]
 refine .go (xX.of_runs (aY0 (m:=tD) (fun p _=>by have:=mT p.op; unfold tD; omega) (fun p _=>?_) (by have:=pK f ((f.length:Int)-1); unfold xJ; omega)) rfl) ?_
 ·have h:=aG7 p (xZ p.op).1;have:=mT p.op;rw [show ((tD p:Nat):Int)= (xZ p.op).1.fr from Int.toNat_of_nonneg this.1];exact h
 simp only [ZA,ZB,ZC,ZD,ZE,↓reduceIte,ZF,ZG,ZH,ZI,ZJ,reduceCtorEq,ZK,↓zU,↓zD,zV,zT,zW];exact .same
open Rs Fm
namespace Fm
def oJ (m:Nat) (n:Int):Bool:=decide (31<=n) || decide (m / 2 ^ n.toNat=0)
end Fm
theorem aId (m:Nat) (n:Int):yX Tryz.prog 146 [.int .i64 m,.int .i64 n] (.bool (oJ m n)):=by
 refine xX.go_fn mixed Tryz.func146 bYc (by simp) fun hf=>?_
 by_cases h1:31<=n
 ·simp only [ZA,ZB,ZC,ZD,ZE,↓reduceIte,ZF,ZG,ZH,ZI,ZJ,reduceCtorEq,ZK,↓zU,↓zD,zV,zT,zW,h1];exact .drop (by simp) (by simp [vw,oJ,h1])
 have e:max n 0=((n.toNat:Nat):Int):=by omega
 have e2:max 0 n=((n.toNat:Nat):Int):=by omega
 have hb:(((m / 2 ^ n.toNat:Nat):Int)== 0)= decide (m / 2 ^ n.toNat=0):=by
  rw [Bool.eq_iff_iff,beq_iff_eq,decide_eq_true_iff]; omega
 simp only [ZA,ZB,ZC,ZD,ZE,↓reduceIte,ZF,ZG,ZH,ZI,ZJ,reduceCtorEq,ZK,↓zU,↓zD,zV,zT,zW,h1,aD2,e,e2,lS m n.toNat (by omega),hb]
 (repeat refine sd ?_)
 exact .drop (by simp) (by simp [vw,oJ,h1])
open Rs Fm
namespace Fm
theorem zP {p:Nd} {k:Int}:yK p k=0 ↔ (xZ p.op).2=true/\xK (xZ p.op).1.x p.x k=true/\xK (xZ p.op).1.y p.y k=true /\
  ((!((xZ p.op).1.fa || (xZ p.op).1.ag || (xZ p.op).1.ev)&& decide (p.i≠0)) || (!(xZ p.op).1.ev&&decide (p.e≠0)) || (!(xZ p.op).1.gr&&decide (p.g≠0)))= false /\
  (xT (xZ p.op).1.fa p.i 0 7 || xT (xZ p.op).1.ag p.i 0 3 || xT (xZ p.op).1.ev p.i 0 7 || xT (xZ p.op).1.ev p.e 0 7 || xT (xZ p.op).1.gr p.g 1 15)= false:=by
 unfold yK
 cases h1:(xZ p.op).2
 ·simp
 cases h2:xK (xZ p.op).1.x p.x k
 ·simp
 cases h3:xK (xZ p.op).1.y p.y k
 ·simp
 generalize ((!((xZ p.op).1.fa || (xZ p.op).1.ag || (xZ p.op).1.ev)&& decide (p.i≠0)) || (!(xZ p.op).1.ev&&decide (p.e≠0)) || (!(xZ p.op).1.gr&&decide (p.g≠0)))= c;generalize (xT (xZ p.op).1.fa p.i 0 7 || xT (xZ p.op).1.ag p.i 0 3 || xT (xZ p.op).1.ev p.i 0 7 || xT (xZ p.op).1.ev p.e 0 7 || xT (xZ p.op).1.gr p.g 1 15)= d;cases c <;> cases d <;> simp
theorem nQ {p:Nd} {a b k k':Int} (h:yK p k=0) (ha:if (xZ p.op).1.x=true then 0<=a/\a<k' else a=p.x) (hb:if (xZ p.op).1.y=true then 0<=b/\b<k' else b=p.y):yK ⟨p.op,p.i,p.e,p.g,a,b⟩ k'=0:=by
 rw [zP] at h ⊢;obtain⟨h1,h2,h3,h4,h5⟩:=h
 refine⟨h1,?_,?_,h4,h5⟩
 ·simp only
  cases hx:(xZ p.op).1.x
  ·rw [hx] at ha h2;rw [if_neg (by simp)] at ha;rw [ha]; exact h2
  ·rw [hx,if_pos rfl] at ha;simp [xK,ha]
 ·simp only
  cases hx:(xZ p.op).1.y
  ·rw [hx] at hb h3;rw [if_neg (by simp)] at hb;rw [hb]; exact h3
  ·rw [hx,if_pos rfl] at hb;simp [xK,hb]
structure aEj (s : CS) : Prop where
 nd:∀ k,k<s.out.length->yK (s.out.getD k nd0) k=0
 dn:∀ z k:Int,zL z s.done=some k->0<=k/\k<s.out.length
theorem aQl {q:Nd}:∀ {l:List Nd} {k j:Nat},rO q l k=some j->k<=j/\j<k+l.length
 | [],_,_,h=>by cases h
 | p :: r,k,j,h=>by
  unfold rO at h
  by_cases e:q=p
  ·rw [if_pos e] at h; cases h; simp
  ·rw [if_neg e] at h;have:=aQl h;simp only [List.length_cons]; omega
theorem aCh {s:CS} {i:Nat} {q:Nd} (h:aEj s) (hq:yK q s.out.length=0):aEj (gG i q s).2/\0<=(gG i q s).1/\(gG i q s).1<(gG i q s).2.out.length/\s.out.length<=(gG i q s).2.out.length:=by
 unfold gG
 cases he:rO q s.out 0 with
 | some k=>
  have hk:=aQl he;refine⟨⟨h.nd,fun z j hz=>?_⟩,by simp,by simp only; omega,Nat.le_refl _⟩;simp only at hz;rw [vZ] at hz
  by_cases e:z=i
  ·rw [if_pos e] at hz; cases hz; simp only; omega
  ·rw [if_neg e] at hz; exact h.dn z j hz
 | none=>
  refine⟨⟨fun k hk=>?_,fun z j hz=>?_⟩,by simp,by simp; omega,by simp⟩
  ·simp only [List.length_append,List.length_singleton] at hk
   by_cases hl:k<s.out.length
   ·have:=h.nd k hl;simp only [List.getD_eq_getElem?_getD] at this ⊢
    rwa [List.getElem?_append_left hl]
   ·obtain rfl:k=s.out.length:=by omega
    simpa [List.getD_eq_getElem?_getD] using hq
  ·simp only at hz;rw [vZ] at hz
   by_cases e:z=i
   ·rw [if_pos e] at hz; cases hz; simp; omega
   ·rw [if_neg e] at hz;have:=h.dn z j hz;simp only [List.length_append,List.length_singleton]; omega
theorem nN {f:List Nd} (hc:∀ k,k<f.length->yK (f.getD k nd0) k=0):∀ (n:Nat) {i:Nat} {s:CS},i<n->i<f.length->aEj s ->
  aEj (xP f n i s).2/\0<=(xP f n i s).1/\(xP f n i s).1<(xP f n i s).2.out.length/\s.out.length<=(xP f n i s).2.out.length
 | 0,i,s,h,_,_=>by omega
 | n + 1,i,s,h,hi,hs=>by
  cases hu:zL i s.done with
  | some k=>rw [xP,hu]; exact⟨hs,(hs.dn _ _ hu).1,(hs.dn _ _ hu).2,Nat.le_refl _⟩
  | none=>
   rw [sN hu];have hp:=hc i hi;obtain⟨ox,oy⟩:=sG hp;simp only;generalize f.getD i nd0=p at ox oy hp
   have ha:aEj (if (xZ p.op).1.x=true then xP f n p.x.toNat s else(p.x,s)).2/\(if (xZ p.op).1.x=true then 0<=(if (xZ p.op).1.x=true then xP f n p.x.toNat s else(p.x,s)).1/\(if (xZ p.op).1.x=true then xP f n p.x.toNat s else(p.x,s)).1<(if (xZ p.op).1.x=true then xP f n p.x.toNat s else(p.x,s)).2.out.length else(if (xZ p.op).1.x=true then xP f n p.x.toNat s else(p.x,s)).1=p.x)/\ s.out.length<=(if (xZ p.op).1.x=true then xP f n p.x.toNat s else(p.x,s)).2.out.length:=by
    by_cases hx:(xZ p.op).1.x=true
    ·simp only [if_pos hx];have:=ox hx;obtain⟨b1,b2,b3,b4⟩:=nN hc n (i:=p.x.toNat) (s:=s) (by omega) (by omega) hs;exact⟨b1,⟨b2,b3⟩,b4⟩
    ·simp only [if_neg hx]; exact⟨hs,trivial,Nat.le_refl _⟩
   generalize (if (xZ p.op).1.x=true then xP f n p.x.toNat s else(p.x,s))= a at ha;obtain⟨a1,a2,a3⟩:=ha
   have hb:aEj (if (xZ p.op).1.y=true then xP f n p.y.toNat a.2 else(p.y,a.2)).2/\(if (xZ p.op).1.y=true then 0<=(if (xZ p.op).1.y=true then xP f n p.y.toNat a.2 else(p.y,a.2)).1/\(if (xZ p.op).1.y=true then xP f n p.y.toNat a.2 else(p.y,a.2)).1<(if (xZ p.op).1.y=true then xP f n p.y.toNat a.2 else(p.y,a.2)).2.out.length else(if (xZ p.op).1.y=true then xP f n p.y.toNat a.2 else(p.y,a.2)).1=p.y)/\ a.2.out.length<=(if (xZ p.op).1.y=true then xP f n p.y.toNat a.2 else(p.y,a.2)).2.out.length:=by
    by_cases hy:(xZ p.op).1.y=true
    ·simp only [if_pos hy];have:=oy hy;obtain⟨b1,b2,b3,b4⟩:=nN hc n (i:=p.y.toNat) (s:=a.2) (by omega) (by omega) a1;exact⟨b1,⟨b2,b3⟩,b4⟩
    ·simp only [if_neg hy]; exact⟨a1,trivial,Nat.le_refl _⟩
   generalize (if (xZ p.op).1.y=true then xP f n p.y.toNat a.2 else(p.y,a.2))= b at hb;obtain⟨b1,b2,b3⟩:=hb
   have hq:yK ⟨p.op,p.i,p.e,p.g,a.1,b.1⟩ b.2.out.length=0:=by
    refine nQ hp ?_ b2
    split
    ·rename_i hx;rw [if_pos hx] at a2; omega
    ·rename_i hx;rw [if_neg hx] at a2; exact a2
   obtain⟨e1,e2,e3,e4⟩:=aCh (i:=i) b1 hq;exact⟨e1,e2,e3,by omega⟩
theorem lT (f:List Nd) (i:Int):∀ k,k<(lD f i).length->yK ((lD f i).getD k nd0) k=0:=by
 unfold lD
 by_cases h:xH f≠0\/i<0\/(f.length:Int)<=i
 ·rw [if_pos h]; intro k hk; simp at hk
 ·rw [if_neg h];obtain⟨c1,c2,c3⟩:=zJ (f:=f) (by omega);exact(nN c3 (i.toNat+1) (i:=i.toNat) (s:=⟨[],[]⟩) (by omega) (by omega) ⟨fun k hk=>by simp at hk,fun z k hz=>by cases hz⟩).1.nd
theorem aDr {f:List Nd} {i:Nat} (hc:xH f=0) (hi:i<f.length):0<(lD f i).length:=by
 obtain⟨c1,c2,c3⟩:=zJ hc;unfold lD;rw [if_neg (by omega)];have:=(nN c3 ((i:Int).toNat+1) (i:=(i:Int).toNat) (s:=⟨[],[]⟩) (by omega) (by omega) ⟨fun k hk=>by simp at hk,fun z k hz=>by cases hz⟩).2;unfold wP;omega
theorem aSo {f:List Nd} (hc:xH f=0):0<(xJ f).length:=by
 have h1:=(zJ hc).1;have:0<f.length:=List.length_pos_iff.2 h1;have:=aDr (i:=f.length-1) hc (by omega);unfold xJ
 rwa [show ((f.length:Int)-1)= ((f.length-1:Nat):Int) by omega]
theorem oK {l:List Nd} (h:∀ k,k<l.length->yK (l.getD k nd0) k=0) {p:Nd} (hp:p ∈ l):∃ k:Nat,yK p k=0:=by
 obtain⟨k,hk,rfl⟩:=List.getElem_of_mem hp;refine⟨k,?_⟩;have:=h k hk
 rwa [List.getD_eq_getElem?_getD,List.getElem?_eq_getElem hk] at this
theorem pH {p:Nd} {k:Int} (h:yK p k=0) (hf:(xZ p.op).1.fa=true):0<=p.i/\p.i<=7:=by
 have:=(zP.1 h).2.2.2.2;simp only [xT,hf,Bool.or_eq_false_iff,Bool.true_and,decide_eq_false_iff_not] at this;omega
theorem vE {p:Nd} {k:Int} (h:yK p k=0) (hf:(xZ p.op).1.ag=true):0<=p.i/\p.i<=3:=by
 have:=(zP.1 h).2.2.2.2;simp only [xT,hf,Bool.or_eq_false_iff,Bool.true_and,decide_eq_false_iff_not] at this;omega
theorem oE {p:Nd} {k:Int} (h:yK p k=0):0<=p.g/\p.g<=15:=by
 have h1:=(zP.1 h).2.2.2.2;have h2:=(zP.1 h).2.2.2.1
 cases hg:(xZ p.op).1.gr
 ·simp only [hg,Bool.or_eq_false_iff,Bool.not_false,Bool.true_and,decide_eq_false_iff_not] at h2;omega
 ·simp only [xT,hg,Bool.or_eq_false_iff,Bool.true_and,decide_eq_false_iff_not] at h1;omega
def wJ (p:Nd):Nat:=if (xZ p.op).1.ag=true then 2 ^ p.i.toNat else p.g.toNat
def tC (p:Nd):Nat:=if (xZ p.op).1.fa=true then 2 ^ p.i.toNat else 0
def uA (f:List Nd):Nat:=yN wJ (xJ f)
def pN (f:List Nd):Nat:=yN tC (xJ f)
theorem aXr {p:Nd} {k:Int} (h:yK p k=0):wJ p<4096:=by
 unfold wJ
 split
 ·rename_i hf;have:=vE h hf;have:2 ^ p.i.toNat<=2 ^ 3:=Nat.pow_le_pow_right (by decide) (by omega);omega
 ·have:=oE h;omega
theorem aV8 {p:Nd} {k:Int} (h:yK p k=0):tC p<4096:=by
 unfold tC
 split
 ·rename_i hf;have:=pH h hf;have:2 ^ p.i.toNat<=2 ^ 7:=Nat.pow_le_pow_right (by decide) (by omega);omega
 ·omega
def sV (f:List Nd) (a b:Int):Bool:=decide (xH f=0)&& oJ (uA f) a&&oJ (pN f) b
end Fm
theorem aJq (f:List Nd):yX Tryz.prog 147 [.sl 6 (ndR f)] (.int .i64 (uA f)):=by
 refine xX.go_fn mixed Tryz.func147 bYb (by simp) fun hf=>?_;simp only [ZA,ZB,ZC,ZD,ZE,↓reduceIte,ZF,ZG,ZH,ZI,ZJ,reduceCtorEq,ZK,↓zU,↓zD,zV,zT,zW]
 refine .go (xX.of_runs (aY0 (m:=wJ) (fun p hp=>?_) (fun p hp=>?_) (by have:=pK f ((f.length:Int)-1); unfold xJ; omega)) rfl) ?_
 ·obtain⟨k,hk⟩:=oK (lT f _) hp;exact aXr hk
 ·obtain⟨k,hk⟩:=oK (lT f _) hp;have h:=aJp p (xZ p.op).1 (fun ha=>by have:=vE hk ha; omega)
  rw [show ((wJ p:Nat):Int)= (if (xZ p.op).1.ag=true then((2 ^ p.i.toNat:Nat):Int) else p.g) by
   unfold wJ
   split
   ·rfl
   ·have:=oE hk; omega]
  exact h
 simp only [ZA,ZB,ZC,ZD,ZE,↓reduceIte,ZF,ZG,ZH,ZI,ZJ,reduceCtorEq,ZK,↓zU,↓zD,zV,zT,zW];exact .same
theorem aFu (f:List Nd):yX Tryz.prog 148 [.sl 6 (ndR f)] (.int .i64 (pN f)):=by
 refine xX.go_fn mixed Tryz.func148 bYa (by simp) fun hf=>?_;simp only [ZA,ZB,ZC,ZD,ZE,↓reduceIte,ZF,ZG,ZH,ZI,ZJ,reduceCtorEq,ZK,↓zU,↓zD,zV,zT,zW]
 refine .go (xX.of_runs (aY0 (m:=tC) (fun p hp=>?_) (fun p hp=>?_) (by have:=pK f ((f.length:Int)-1); unfold xJ; omega)) rfl) ?_
 ·obtain⟨k,hk⟩:=oK (lT f _) hp;exact aV8 hk
 ·obtain⟨k,hk⟩:=oK (lT f _) hp;have h:=aG8 p (xZ p.op).1 (fun ha=>by have:=pH hk ha; omega)
  rw [show ((tC p:Nat):Int)= (if (xZ p.op).1.fa=true then((2 ^ p.i.toNat:Nat):Int) else 0) by
   unfold tC;split <;> rfl]
  exact h
 simp only [ZA,ZB,ZC,ZD,ZE,↓reduceIte,ZF,ZG,ZH,ZI,ZJ,reduceCtorEq,ZK,↓zU,↓zD,zV,zT,zW];exact .same
theorem aIi (f:List Nd) (a b:Int):yX Tryz.prog 101 [.sl 6 (ndR f),.int .i64 a,.int .i64 b] (.bool (sV f a b)):=by
 refine xX.go_fn mixed Tryz.func101 bY4 (by simp) fun hf=>?_;simp only [ZA,ZB,ZC,ZD,ZE,↓reduceIte,ZF,ZG,ZH,ZI,ZJ,reduceCtorEq,ZK,↓zU,↓zD,zV,zT,zW];refine .go (cr (oA f)) ?_;by_cases hc:xH f=0
 case neg=>
  have e:(xH f==0)= false:=by simpa using hc
  simp only [ZA,ZB,ZC,ZD,ZE,↓reduceIte,ZF,ZG,ZH,ZI,ZJ,reduceCtorEq,ZK,↓zU,↓zD,zV,zT,zW,e];exact .drop (by simp) (by simp [vw,sV,hc])
 have e:(xH f==0)= true:=by simpa using hc
 simp only [ZA,ZB,ZC,ZD,ZE,↓reduceIte,ZF,ZG,ZH,ZI,ZJ,reduceCtorEq,ZK,↓zU,↓zD,zV,zT,zW,e];refine .go (cr (aJq f)) ?_;simp only [ZA,ZB,ZC,ZD,ZE,↓reduceIte,ZF,ZG,ZH,ZI,ZJ,reduceCtorEq,ZK,↓zU,↓zD,zV,zT,zW];refine .go (xX.of_runs (aId (uA f) a) rfl) ?_
 cases hb:oJ (uA f) a
 ·simp only [ZA,ZB,ZC,ZD,ZE,↓reduceIte,ZF,ZG,ZH,ZI,ZJ,reduceCtorEq,ZK,↓zU,↓zD,zV,zT,zW];exact .drop (by simp) (by simp [vw,sV,hb])
 simp only [ZA,ZB,ZC,ZD,ZE,↓reduceIte,ZF,ZG,ZH,ZI,ZJ,reduceCtorEq,ZK,↓zU,↓zD,zV,zT,zW];refine .go (cr (aFu f)) ?_;simp only [ZA,ZB,ZC,ZD,ZE,↓reduceIte,ZF,ZG,ZH,ZI,ZJ,reduceCtorEq,ZK,↓zU,↓zD,zV,zT,zW];refine .go (xX.of_runs (aId (pN f) b) rfl) ?_;simp only [ZA,ZB,ZC,ZD,ZE,↓reduceIte,ZF,ZG,ZH,ZI,ZJ,reduceCtorEq,ZK,↓zU,↓zD,zV,zT,zW];exact .drop (by simp) (by simp [vw,sV,hb,hc])
end Go.Pd
