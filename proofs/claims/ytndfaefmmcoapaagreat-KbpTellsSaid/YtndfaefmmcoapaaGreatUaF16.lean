/- Part F16. -/
import Derived.Test.YtndfaefmmcoapaaGreatUaF8
set_option linter.unusedSectionVars false
set_option linter.unusedVariables false
set_option linter.unusedSimpArgs false
set_option linter.defProp false
set_option maxRecDepth 20000
set_option maxHeartbeats 1000000
namespace Go.Pd
open Go Go.Proofs
open BitVec renaming isValue -> ZA
open Rs Fm
theorem aQk {a b:Nat} (ha:a<2 ^ 62) (hb:b<2 ^ 62):rB .or .i64 (a:Int) (b:Int)= ((a ||| b:Nat):Int):=by show IntKind.i64.wrap ((BitVec.ofInt 64 (a:Int) ||| BitVec.ofInt 64 (b:Int)).toNat:Int)= _;rw [BitVec.ofInt_natCast,BitVec.ofInt_natCast,BitVec.toNat_or,BitVec.toNat_ofNat,BitVec.toNat_ofNat,Nat.mod_eq_of_lt (by omega),Nat.mod_eq_of_lt (by omega)];have:=Nat.or_lt_two_pow ha hb;exact wrap_i64 (by omega)
namespace Fm
def yA (m:Nd->Nat) (l:List Nd):Nat:=l.foldl (fun a p=>a ||| m p) 0
theorem pS (m:Nd->Nat) (l:List Nd) (p:Nd):yA m (l ++ [p])= yA m l ||| m p:=by simp [yA]
theorem qV {m:Nd->Nat} {l:List Nd} (h:∀ p ∈ l,m p<4096):yA m l<2 ^ 12:=by
 have key:∀ (l:List Nd) (a:Nat),a<2 ^ 12->(∀ p ∈ l,m p<4096)->l.foldl (fun a p=>a ||| m p) a<2 ^ 12:=by
  intro l
  induction l with
  | nil=>intro a ha _; exact ha
  | cons p r ih=>intro a ha h; exact ih _ (Nat.or_lt_two_pow ha (h p (by simp))) fun q hq=>h q (by simp [hq])
 exact key l 0 (by decide) h
end Fm
theorem aV5 {f:List Nd} {g:FuncId} {m:Nd->Nat} (hm:∀ p ∈ xE f,m p<4096) (h:∀ p ∈ xE f,yU Tryz.prog g [.agg p.row,.agg (xZ p.op).1.row] (.int .i64 (m p))) (hlen:(xE f).length<=1000) :
  yU Tryz.prog 111 [.sl 6 (ndR f),.fn g []] (.int .i64 (yA m (xE f))):=by
 refine xX.xQ mixed Tryz.func111 bS8 (by simp) fun hf=>?_;simp only [simprocAttr,-ZA,↓zU,↓zD,zV,zT,zW];refine .go (cr (aW1 f)) ?_;generalize xE f=l at hm h hlen;simp only [simprocAttr,-ZA,↓zU,↓zD,zV,zT,zW,xI]
 refine xW (fun k:Nat=>[(13,.int .i64 k),(12,.int .i64 l.length),(11,.sl 6 (ndR l)),(5,.int .i64 (yA m (l.take k))),(1,.fn g [])]) (fun _=>⟨0,[]⟩) (fun k=>k<=l.length) (fun k=>l.length-k) 0 (Nat.zero_le _) ?_ ?_
 ·(refine xH.same ?_; simp [xO,Fr.get,yA])
 intro k hk;refine xP mixed ?_;by_cases hh:k<l.length
 case neg=>
  have hd:¬ ((k:Int)<(l.length:Int)):=by omega
  rw [gU (show k=l.length by omega)];simp only [simprocAttr,-ZA,↓zU,↓zD,zV,zT,zW,hd];exact .same
 have hd:((k:Int)<(l.length:Int)):=by omega
 have hs:yA m (l.take (k+1))= yA m (l.take k) ||| m (l.getD k nd0):=by rw [zP (d:=nd0) hh,pS]
 have hg:=uB l hh;have hmem:=xK (d:=nd0) hh;have hlt:yA m (l.take k)<2 ^ 12:=qV fun p hp=>hm p (List.mem_of_mem_take hp);generalize l.getD k nd0=p at hs hg hmem;have hmp:=hm p hmem;simp only [simprocAttr,-ZA,↓zU,↓zD,zV,zT,zW,hd,xI,hg,Nd.row]
 (repeat refine sd ?_)
 refine .go (cq (cB p.op)) ?_;simp only [simprocAttr,-ZA,↓zU,↓zD,zV,zT,zW,Use.row]
 (repeat refine sd ?_)
 refine .go (xX.yT (h p hmem) (by simp [D.xV,D.xG,Nd.row,Use.row])) ?_;simp only [simprocAttr,-ZA,↓zU,↓zD,zV,zT,zW,aQk (show yA m (l.take k)<2 ^ 62 by omega) (show m p<2 ^ 62 by omega)];refine⟨k+1,by omega,?_,by omega⟩;rw [hs]
 (refine xH.view (fun k=>k) (by simp) (by simp) ?_ (by simp [stays]) (by simp [uS]); simp [vwF,vw,vwL,Fr.get])
 exact wrap_i64 (by omega)
open Rs Fm
namespace Fm
theorem jU (op:Int):0<=(xZ op).1.fr/\(xZ op).1.fr<=256:=by
 have hc:op=1\/op=2\/op=3\/op=4\/op=5\/op=6\/op=7\/op=8\/op=9\/op=10\/op=11\/op=12\/op=13\/op=14\/op=15\/op=16\/op=17\/op=18\/op=19\/op=20\/op=21\/(op<1\/21<op):=by omega
 rcases hc with rfl | rfl | rfl | rfl | rfl | rfl | rfl | rfl | rfl | rfl | rfl | rfl | rfl | rfl | rfl | rfl | rfl | rfl | rfl | rfl | rfl | hc
 rotate_right
 ·rw [show xZ op=(sP,false) from if_pos hc]; exact⟨by decide,by decide⟩
 all_goals simp [xZ,sP]
def sX (p:Nd):Nat:=(xZ p.op).1.fr.toNat
def zF (f:List Nd):Nat:=yA sX (xE f)
theorem iZ {f:List Nd} {i:Nat} (hc:∀ k,k<f.length->yK (f.getD k nd0) k=0) (hi:i<f.length):(vO f i).length<=f.length:=(sE hc (i+1) (i:=i) (s:=⟨[],[]⟩) (by omega) hi ⟨Nat.le_refl _,by simp,fun p hp=>by cases hp⟩).1.len
theorem nA (f:List Nd) (i:Int):(gX f i).length<=200:=by
 unfold gX
 by_cases h:xC f≠0\/i<0\/(f.length:Int)<=i
 ·rw [if_pos h]; simp
 ·rw [if_neg h];obtain⟨c1,c2,c3⟩:=wN (f:=f) (by omega);have:=iZ c3 (i:=i.toNat) (by omega);omega
end Fm
theorem aLg (f:List Nd):yU Tryz.prog 53 [.sl 6 (ndR f)] (.int .i64 (zF f)):=by
 refine xX.xQ mixed Tryz.func53 k53 (by simp) fun hf=>?_;simp only [simprocAttr,-ZA,↓zU,↓zD,zV,zT,zW]
 refine .go (xX.yT (aV5 (m:=sX) (fun p _=>by have:=jU p.op; unfold sX; omega) (fun p _=>?_) (by have:=nA f ((f.length:Int)-1); unfold xE; omega)) rfl) ?_
 ·have h:=aAg p (xZ p.op).1;have:=jU p.op;rw [show ((sX p:Nat):Int)= (xZ p.op).1.fr from Int.toNat_of_nonneg this.1];exact h
 simp only [simprocAttr,-ZA,↓zU,↓zD,zV,zT,zW];exact .same
open Rs Fm
namespace Fm
def lT (m:Nat) (n:Int):Bool:=decide (31<=n) || decide (m / 2 ^ n.toNat=0)
end Fm
theorem aDe (m:Nat) (n:Int):yU Tryz.prog 146 [.int .i64 m,.int .i64 n] (.bool (lT m n)):=by
 refine xX.xQ mixed Tryz.func146 bSh (by simp) fun hf=>?_
 by_cases h1:31<=n
 ·simp only [simprocAttr,-ZA,↓zU,↓zD,zV,zT,zW,h1];exact .drop (by simp) (by simp [vw,lT,h1])
 have e:max n 0=((n.toNat:Nat):Int):=by omega
 have e2:max 0 n=((n.toNat:Nat):Int):=by omega
 have hb:(((m / 2 ^ n.toNat:Nat):Int)== 0)= decide (m / 2 ^ n.toNat=0):=by rw [Bool.eq_iff_iff,beq_iff_eq,decide_eq_true_iff]; omega
 simp only [simprocAttr,-ZA,↓zU,↓zD,zV,zT,zW,h1,bZm,e,e2,iO m n.toNat (by omega),hb]
 (repeat refine sd ?_)
 exact .drop (by simp) (by simp [vw,lT,h1])
open Rs Fm
namespace Fm
theorem wR {p:Nd} {k:Int}:yK p k=0 ↔ (xZ p.op).2=true/\xD (xZ p.op).1.x p.x k=true/\xD (xZ p.op).1.y p.y k=true /\
  ((!((xZ p.op).1.fa || (xZ p.op).1.ag || (xZ p.op).1.ev)&& decide (p.i≠0)) || (!(xZ p.op).1.ev&&decide (p.e≠0)) || (!(xZ p.op).1.gr&&decide (p.g≠0)))= false /\
  (xM (xZ p.op).1.fa p.i 0 7 || xM (xZ p.op).1.ag p.i 0 3 || xM (xZ p.op).1.ev p.i 0 7 || xM (xZ p.op).1.ev p.e 0 7 || xM (xZ p.op).1.gr p.g 1 15)= false:=by
 unfold yK
 cases h1:(xZ p.op).2
 ·simp
 cases h2:xD (xZ p.op).1.x p.x k
 ·simp
 cases h3:xD (xZ p.op).1.y p.y k
 ·simp
 generalize ((!((xZ p.op).1.fa || (xZ p.op).1.ag || (xZ p.op).1.ev)&& decide (p.i≠0)) || (!(xZ p.op).1.ev&&decide (p.e≠0)) || (!(xZ p.op).1.gr&&decide (p.g≠0)))= c;generalize (xM (xZ p.op).1.fa p.i 0 7 || xM (xZ p.op).1.ag p.i 0 3 || xM (xZ p.op).1.ev p.i 0 7 || xM (xZ p.op).1.ev p.e 0 7 || xM (xZ p.op).1.gr p.g 1 15)= d;cases c <;> cases d <;> simp
theorem tL {p:Nd} {a b k k':Int} (h:yK p k=0) (ha:if (xZ p.op).1.x=true then 0<=a/\a<k' else a=p.x) (hb:if (xZ p.op).1.y=true then 0<=b/\b<k' else b=p.y):yK ⟨p.op,p.i,p.e,p.g,a,b⟩ k'=0:=by
 rw [wR] at h ⊢;obtain⟨h1,h2,h3,h4,h5⟩:=h
 refine⟨h1,?_,?_,h4,h5⟩
 ·simp only
  cases hx:(xZ p.op).1.x
  ·rw [hx] at ha h2;rw [if_neg (by simp)] at ha;rw [ha]; exact h2
  ·rw [hx,if_pos rfl] at ha;simp [xD,ha]
 ·simp only
  cases hx:(xZ p.op).1.y
  ·rw [hx] at hb h3;rw [if_neg (by simp)] at hb;rw [hb]; exact h3
  ·rw [hx,if_pos rfl] at hb;simp [xD,hb]
structure bXq (s : CS) : Prop where
 nd:∀ k,k<s.out.length->yK (s.out.getD k nd0) k=0
 dn:∀ z k:Int,wP z s.done=some k->0<=k/\k<s.out.length
theorem aMs {q:Nd}:∀ {l:List Nd} {k j:Nat},pD q l k=some j->k<=j/\j<k+l.length
 | [],_,_,h=>by cases h
 | p :: r,k,j,h=>by
  unfold pD at h
  by_cases e:q=p
  ·rw [if_pos e] at h; cases h; simp
  ·rw [if_neg e] at h;have:=aMs h;simp only [List.length_cons]; omega
theorem bZ9 {s:CS} {i:Nat} {q:Nd} (h:bXq s) (hq:yK q s.out.length=0):bXq (cD i q s).2/\0<=(cD i q s).1/\(cD i q s).1<(cD i q s).2.out.length/\s.out.length<=(cD i q s).2.out.length:=by
 unfold cD
 cases he:pD q s.out 0 with
 | some k=>
  have hk:=aMs he;refine⟨⟨h.nd,fun z j hz=>?_⟩,by simp,by simp only; omega,Nat.le_refl _⟩;simp only at hz;rw [uU] at hz
  by_cases e:z=i
  ·rw [if_pos e] at hz; cases hz; simp only; omega
  ·rw [if_neg e] at hz; exact h.dn z j hz
 | none=>
  refine⟨⟨fun k hk=>?_,fun z j hz=>?_⟩,by simp,by simp; omega,by simp⟩
  ·simp only [List.length_append,List.length_singleton] at hk
   by_cases hl:k<s.out.length
   ·have:=h.nd k hl;simp only [List.getD_eq_getElem?_getD] at this ⊢
    rwa [List.getElem?_append_left hl]
   ·obtain rfl:k=s.out.length:=by omega
    simpa [List.getD_eq_getElem?_getD] using hq
  ·simp only at hz;rw [uU] at hz
   by_cases e:z=i
   ·rw [if_pos e] at hz; cases hz; simp; omega
   ·rw [if_neg e] at hz;have:=h.dn z j hz;simp only [List.length_append,List.length_singleton]; omega
theorem kT {f:List Nd} (hc:∀ k,k<f.length->yK (f.getD k nd0) k=0):∀ (n:Nat) {i:Nat} {s:CS},i<n->i<f.length->bXq s ->
  bXq (xJ f n i s).2/\0<=(xJ f n i s).1/\(xJ f n i s).1<(xJ f n i s).2.out.length/\s.out.length<=(xJ f n i s).2.out.length
 | 0,i,s,h,_,_=>by omega
 | n + 1,i,s,h,hi,hs=>by
  cases hu:wP i s.done with
  | some k=>rw [xJ,hu]; exact⟨hs,(hs.dn _ _ hu).1,(hs.dn _ _ hu).2,Nat.le_refl _⟩
  | none=>
   rw [qP hu];have hp:=hc i hi;obtain⟨ox,oy⟩:=pV hp;simp only;generalize f.getD i nd0=p at ox oy hp
   have ha:bXq (if (xZ p.op).1.x=true then xJ f n p.x.toNat s else(p.x,s)).2/\(if (xZ p.op).1.x=true then 0<=(if (xZ p.op).1.x=true then xJ f n p.x.toNat s else(p.x,s)).1/\(if (xZ p.op).1.x=true then xJ f n p.x.toNat s else(p.x,s)).1<(if (xZ p.op).1.x=true then xJ f n p.x.toNat s else(p.x,s)).2.out.length else(if (xZ p.op).1.x=true then xJ f n p.x.toNat s else(p.x,s)).1=p.x)/\ s.out.length<=(if (xZ p.op).1.x=true then xJ f n p.x.toNat s else(p.x,s)).2.out.length:=by
    by_cases hx:(xZ p.op).1.x=true
    ·simp only [if_pos hx];have:=ox hx;obtain⟨b1,b2,b3,b4⟩:=kT hc n (i:=p.x.toNat) (s:=s) (by omega) (by omega) hs;exact⟨b1,⟨b2,b3⟩,b4⟩
    ·simp only [if_neg hx]; exact⟨hs,trivial,Nat.le_refl _⟩
   generalize (if (xZ p.op).1.x=true then xJ f n p.x.toNat s else(p.x,s))= a at ha;obtain⟨a1,a2,a3⟩:=ha
   have hb:bXq (if (xZ p.op).1.y=true then xJ f n p.y.toNat a.2 else(p.y,a.2)).2/\(if (xZ p.op).1.y=true then 0<=(if (xZ p.op).1.y=true then xJ f n p.y.toNat a.2 else(p.y,a.2)).1/\(if (xZ p.op).1.y=true then xJ f n p.y.toNat a.2 else(p.y,a.2)).1<(if (xZ p.op).1.y=true then xJ f n p.y.toNat a.2 else(p.y,a.2)).2.out.length else(if (xZ p.op).1.y=true then xJ f n p.y.toNat a.2 else(p.y,a.2)).1=p.y)/\ a.2.out.length<=(if (xZ p.op).1.y=true then xJ f n p.y.toNat a.2 else(p.y,a.2)).2.out.length:=by
    by_cases hy:(xZ p.op).1.y=true
    ·simp only [if_pos hy];have:=oy hy;obtain⟨b1,b2,b3,b4⟩:=kT hc n (i:=p.y.toNat) (s:=a.2) (by omega) (by omega) a1;exact⟨b1,⟨b2,b3⟩,b4⟩
    ·simp only [if_neg hy]; exact⟨a1,trivial,Nat.le_refl _⟩
   generalize (if (xZ p.op).1.y=true then xJ f n p.y.toNat a.2 else(p.y,a.2))= b at hb;obtain⟨b1,b2,b3⟩:=hb
   have hq:yK ⟨p.op,p.i,p.e,p.g,a.1,b.1⟩ b.2.out.length=0:=by
    refine tL hp ?_ b2
    split
    ·rename_i hx;rw [if_pos hx] at a2; omega
    ·rename_i hx;rw [if_neg hx] at a2; exact a2
   obtain⟨e1,e2,e3,e4⟩:=bZ9 (i:=i) b1 hq;exact⟨e1,e2,e3,by omega⟩
theorem iP (f:List Nd) (i:Int):∀ k,k<(gX f i).length->yK ((gX f i).getD k nd0) k=0:=by
 unfold gX
 by_cases h:xC f≠0\/i<0\/(f.length:Int)<=i
 ·rw [if_pos h]; intro k hk; simp at hk
 ·rw [if_neg h];obtain⟨c1,c2,c3⟩:=wN (f:=f) (by omega);exact(kT c3 (i.toNat+1) (i:=i.toNat) (s:=⟨[],[]⟩) (by omega) (by omega) ⟨fun k hk=>by simp at hk,fun z k hz=>by cases hz⟩).1.nd
theorem bY8 {f:List Nd} {i:Nat} (hc:xC f=0) (hi:i<f.length):0<(gX f i).length:=by obtain⟨c1,c2,c3⟩:=wN hc;unfold gX;rw [if_neg (by omega)];have:=(kT c3 ((i:Int).toNat+1) (i:=(i:Int).toNat) (s:=⟨[],[]⟩) (by omega) (by omega) ⟨fun k hk=>by simp at hk,fun z k hz=>by cases hz⟩).2;unfold vO;omega
theorem nO {f:List Nd} (hc:xC f=0):0<(xE f).length:=by
 have h1:=(wN hc).1;have:0<f.length:=List.length_pos_iff.2 h1;have:=bY8 (i:=f.length-1) hc (by omega);unfold xE
 rwa [show ((f.length:Int)-1)= ((f.length-1:Nat):Int) by omega]
theorem lU {l:List Nd} (h:∀ k,k<l.length->yK (l.getD k nd0) k=0) {p:Nd} (hp:p ∈ l):∃ k:Nat,yK p k=0:=by
 obtain⟨k,hk,rfl⟩:=List.getElem_of_mem hp;refine⟨k,?_⟩;have:=h k hk
 rwa [List.getD_eq_getElem?_getD,List.getElem?_eq_getElem hk] at this
theorem mT {p:Nd} {k:Int} (h:yK p k=0) (hf:(xZ p.op).1.fa=true):0<=p.i/\p.i<=7:=by have:=(wR.1 h).2.2.2.2;simp only [xM,hf,Bool.or_eq_false_iff,Bool.true_and,decide_eq_false_iff_not] at this;omega
theorem tT {p:Nd} {k:Int} (h:yK p k=0) (hf:(xZ p.op).1.ag=true):0<=p.i/\p.i<=3:=by have:=(wR.1 h).2.2.2.2;simp only [xM,hf,Bool.or_eq_false_iff,Bool.true_and,decide_eq_false_iff_not] at this;omega
theorem lM {p:Nd} {k:Int} (h:yK p k=0):0<=p.g/\p.g<=15:=by
 have h1:=(wR.1 h).2.2.2.2;have h2:=(wR.1 h).2.2.2.1
 cases hg:(xZ p.op).1.gr
 ·simp only [hg,Bool.or_eq_false_iff,Bool.not_false,Bool.true_and,decide_eq_false_iff_not] at h2;omega
 ·simp only [xM,hg,Bool.or_eq_false_iff,Bool.true_and,decide_eq_false_iff_not] at h1;omega
def wJ (p:Nd):Nat:=if (xZ p.op).1.ag=true then 2 ^ p.i.toNat else p.g.toNat
def tF (p:Nd):Nat:=if (xZ p.op).1.fa=true then 2 ^ p.i.toNat else 0
def sI (f:List Nd):Nat:=yA wJ (xE f)
def nE (f:List Nd):Nat:=yA tF (xE f)
theorem aWx {p:Nd} {k:Int} (h:yK p k=0):wJ p<4096:=by
 unfold wJ
 split
 ·rename_i hf;have:=tT h hf;have:2 ^ p.i.toNat<=2 ^ 3:=Nat.pow_le_pow_right (by decide) (by omega);omega
 ·have:=lM h;omega
theorem aRq {p:Nd} {k:Int} (h:yK p k=0):tF p<4096:=by
 unfold tF
 split
 ·rename_i hf;have:=mT h hf;have:2 ^ p.i.toNat<=2 ^ 7:=Nat.pow_le_pow_right (by decide) (by omega);omega
 ·omega
def rU (f:List Nd) (a b:Int):Bool:=decide (xC f=0)&& lT (sI f) a&&lT (nE f) b
end Fm
theorem aEm (f:List Nd):yU Tryz.prog 147 [.sl 6 (ndR f)] (.int .i64 (sI f)):=by
 refine xX.xQ mixed Tryz.func147 bSg (by simp) fun hf=>?_;simp only [simprocAttr,-ZA,↓zU,↓zD,zV,zT,zW]
 refine .go (xX.yT (aV5 (m:=wJ) (fun p hp=>?_) (fun p hp=>?_) (by have:=nA f ((f.length:Int)-1); unfold xE; omega)) rfl) ?_
 ·obtain⟨k,hk⟩:=lU (iP f _) hp;exact aWx hk
 ·obtain⟨k,hk⟩:=lU (iP f _) hp;have h:=aEl p (xZ p.op).1 (fun ha=>by have:=tT hk ha; omega)
  rw [show ((wJ p:Nat):Int)= (if (xZ p.op).1.ag=true then((2 ^ p.i.toNat:Nat):Int) else p.g) by
   unfold wJ
   split
   ·rfl
   ·have:=lM hk; omega]
  exact h
 simp only [simprocAttr,-ZA,↓zU,↓zD,zV,zT,zW];exact .same
theorem aA1 (f:List Nd):yU Tryz.prog 148 [.sl 6 (ndR f)] (.int .i64 (nE f)):=by
 refine xX.xQ mixed Tryz.func148 bSf (by simp) fun hf=>?_;simp only [simprocAttr,-ZA,↓zU,↓zD,zV,zT,zW]
 refine .go (xX.yT (aV5 (m:=tF) (fun p hp=>?_) (fun p hp=>?_) (by have:=nA f ((f.length:Int)-1); unfold xE; omega)) rfl) ?_
 ·obtain⟨k,hk⟩:=lU (iP f _) hp;exact aRq hk
 ·obtain⟨k,hk⟩:=lU (iP f _) hp;have h:=aAh p (xZ p.op).1 (fun ha=>by have:=mT hk ha; omega)
  rw [show ((tF p:Nat):Int)= (if (xZ p.op).1.fa=true then((2 ^ p.i.toNat:Nat):Int) else 0) by unfold tF;split <;> rfl]
  exact h
 simp only [simprocAttr,-ZA,↓zU,↓zD,zV,zT,zW];exact .same
theorem aDk (f:List Nd) (a b:Int):yU Tryz.prog 101 [.sl 6 (ndR f),.int .i64 a,.int .i64 b] (.bool (rU f a b)):=by
 refine xX.xQ mixed Tryz.func101 bRa (by simp) fun hf=>?_;simp only [simprocAttr,-ZA,↓zU,↓zD,zV,zT,zW];refine .go (cr (lH f)) ?_;by_cases hc:xC f=0
 case neg=>
  have e:(xC f==0)= false:=by simpa using hc
  simp only [simprocAttr,-ZA,↓zU,↓zD,zV,zT,zW,e];exact .drop (by simp) (by simp [vw,rU,hc])
 have e:(xC f==0)= true:=by simpa using hc
 simp only [simprocAttr,-ZA,↓zU,↓zD,zV,zT,zW,e];refine .go (cr (aEm f)) ?_;simp only [simprocAttr,-ZA,↓zU,↓zD,zV,zT,zW];refine .go (xX.yT (aDe (sI f) a) rfl) ?_
 cases hb:lT (sI f) a
 ·simp only [simprocAttr,-ZA,↓zU,↓zD,zV,zT,zW];exact .drop (by simp) (by simp [vw,rU,hb])
 simp only [simprocAttr,-ZA,↓zU,↓zD,zV,zT,zW];refine .go (cr (aA1 f)) ?_;simp only [simprocAttr,-ZA,↓zU,↓zD,zV,zT,zW];refine .go (xX.yT (aDe (nE f) b) rfl) ?_;simp only [simprocAttr,-ZA,↓zU,↓zD,zV,zT,zW];exact .drop (by simp) (by simp [vw,rU,hb,hc])
open Rs Fm
namespace Fm
def rb (l:List Bool):List (List D):=l.map fun b=>[.bool b]
theorem tC (l:List Bool):(rb l).length=l.length:=by simp [rb]
theorem aNk (l:List Bool) {i:Nat} (h:i<l.length):(rb l).getD i [] = [.bool (l.getD i false)]:=by simp [rb,List.getD,h]
theorem aY0 (l:List Bool) (i:Nat) (b:Bool):(rb l).set i [.bool b]=rb (l.set i b):=by simp [rb,List.map_set]
theorem aVb (n:Nat) (b:Bool):List.replicate n [D.bool b]=rb (List.replicate n b):=by simp [rb]
theorem aC2 (l:List Bool):∀ e ∈ rb l,D.xV e=true:=by intro e he;simp only [rb,List.mem_map] at he;obtain⟨n,_,rfl⟩:=he;rfl
theorem uM (l:List Bool):uD (rb l)= True:=eq_true (aC2 l)
theorem aVi (a b:D):List.set [a] 0 b = [b]:=rfl
theorem aMk {p:Nd} {k:Nat} (h:yK p k=0):(∃ x:Nat,p.x=x/\x<=k)/\ (∃ y:Nat,p.y=y/\y<=k):=by
 obtain⟨_,h2,h3,_⟩:=wR.1 h
 refine⟨?_,?_⟩
 ·unfold xD at h2
  split at h2
  ·simp only [Bool.and_eq_true,decide_eq_true_eq] at h2;exact⟨p.x.toNat,by omega,by omega⟩
  ·simp only [decide_eq_true_eq] at h2;exact⟨0,by omega,by omega⟩
 ·unfold xD at h3
  split at h3
  ·simp only [Bool.and_eq_true,decide_eq_true_eq] at h3;exact⟨p.y.toNat,by omega,by omega⟩
  ·simp only [decide_eq_true_eq] at h3;exact⟨0,by omega,by omega⟩
end Fm
open Rs Fm
namespace Fm
end Fm
open Rs Fm
namespace Fm
def nl (ops:List (List Nd)):List (List D):=ops.map fun o=>[.sl 6 (ndR o)]
theorem aE2 (l:List (List Nd)):(nl l).length=l.length:=by simp [nl]
theorem bZk (l:List (List Nd)) {i:Nat} (h:i<l.length):(nl l).getD i [] = [.sl 6 (ndR (l.getD i []))]:=by simp [nl,List.getD,h]
theorem eY (l:List Nd):uD (ndR l)= True:=eq_true (gP l)
theorem aS0 (l:List Nd) (a b c d e f:Int):ndR l ++ [[.int .i64 a,.int .i64 b,.int .i64 c,.int .i64 d,.int .i64 e,.int .i64 f]]=ndR (l ++ [⟨a,b,c,d,e,f⟩]):=by simp [ndR,Nd.row]
theorem aBn : ndR [] = []:=rfl
theorem aBm (l:List Nd):∀ e ∈ ndR l,e.length=6:=by intro e he;simp only [ndR,List.mem_map] at he;obtain⟨p,_,rfl⟩:=he;rfl
def wM (n:Nat) (p:Nd):Nd:=⟨p.op,p.i,p.e,p.g,if (xZ p.op).1.x=true then p.x+n else p.x,if (xZ p.op).1.y=true then p.y+n else p.y⟩
def zI (f:List Nd):Prop:=∀ k,k<f.length->yK (f.getD k nd0) k=0
theorem aHr {p:Nd} {k n:Nat} (h:yK p k=0):yK (wM n p) ((n+k:Nat):Int)= 0:=by
 obtain⟨ox,oy⟩:=pV h
 refine tL h ?_ ?_
 ·split
  ·rename_i hx; have:=ox hx; omega
  ·rfl
 ·split
  ·rename_i hy; have:=oy hy; omega
  ·rfl
theorem nY {f c:List Nd} (hf:zI f) (hc:zI c):zI (f++c.map (wM f.length)):=by
 intro k hk;simp only [List.length_append,List.length_map] at hk;simp only [List.getD_eq_getElem?_getD]
 by_cases h:k<f.length
 ·rw [List.getElem?_append_left h];have:=hf k h
  rwa [List.getD_eq_getElem?_getD] at this
 ·rw [List.getElem?_append_right (by omega),List.getElem?_map];have hk':k-f.length<c.length:=by omega
  have h1:=hc (k-f.length) hk';rw [List.getD_eq_getElem?_getD,List.getElem?_eq_getElem hk',Option.getD_some] at h1;rw [List.getElem?_eq_getElem hk',Option.map_some,Option.getD_some];have:=aHr (n:=f.length) h1
  rwa [show f.length+(k-f.length)= k by omega] at this
theorem tY {f:List Nd} {p:Nd} (hf:zI f) (hp:yK p f.length=0):zI (f ++ [p]):=by
 intro k hk;simp only [List.length_append,List.length_singleton] at hk;simp only [List.getD_eq_getElem?_getD]
 by_cases h:k<f.length
 ·rw [List.getElem?_append_left h];have:=hf k h
  rwa [List.getD_eq_getElem?_getD] at this
 ·obtain rfl:k=f.length:=by omega
  simpa using hp
theorem iQ (o:List Nd):zI (xE o):=iP o _
def aO6 (k:Nat) (x:Nd) (v:Int):Nd:=if k=0 then⟨x.op,x.i,x.e,x.g,v,x.y⟩ else⟨x.op,x.i,x.e,x.g,x.x,v⟩
def qW : Nat->List (List Nd)->List Nd->Nd->Option (List Nd × Nd)
 | _,[],f,x=>some (f,x)
 | k,o :: r,f,x=>if xC o≠0 then none else
  qW (k+1) r (f++(xE o).map (wM f.length)) (aO6 k x (((f++(xE o).map (wM f.length)).length:Int)-1))
def uF (x:Nd) (ops:List (List Nd)):List Nd:=match qW 0 ops [] x with
 | none=>[]
 | some (f,x')=>if yK x' f.length≠0 then [] else if 200<(vO (f ++ [x']) f.length).length then [] else vO (f ++ [x']) f.length
end Fm
theorem jJ (x:Nd) (ops:List (List Nd)) (ho:ops.length<=2):yU Tryz.prog 91 [.agg x.row,.sl 1 (nl ops)] (.sl 6 (ndR (uF x ops))):=by
 refine xX.xQ mixed Tryz.func91 k91 (by simp) fun hf=>?_;simp only [simprocAttr,-ZA,↓zU,↓zD,zV,zT,zW,aE2,Nd.row]
 (repeat refine sd ?_)
 refine xW (fun a:Nat × List Nd × Nd=>[(16,.int .i64 a.1),(15,.int .i64 ops.length),(14,.sl 1 (nl ops)),(5,xA 1 6 (ndR a.2.1)),(2,.ref 0 6 0 0)]) (fun a=>⟨2,yY 1 6 (ndR a.2.1)++ [(0,⟨6,[a.2.2.row]⟩)]⟩)
  (fun a=>a.1<=ops.length/\zI a.2.1/\a.2.1.length<=200*a.1/\qW 0 ops [] x=qW a.1 (ops.drop a.1) a.2.1 a.2.2) (fun a=>ops.length-a.1) (0,[],x) ⟨Nat.zero_le _,fun k hk=>by simp at hk,by simp,rfl⟩ ?_ ?_
 ·(refine xH.ren [] [0] (by simp) (by simp) (by decide) ?_; simp only [yZ,vwL,vw,vwF,sw,St.get,St.look,Fr.get,simprocAttr,-ZA,exists_eq_left',ne_eq,zR,aBn,zM,zN,List.nil_append,Nd.row])
 rintro ⟨k,f,x1⟩ ⟨hk,hf,hfl,hb⟩;simp only at hk hf hfl hb;refine xP mixed ?_;by_cases h:k<ops.length
 case neg=>
  have hd:¬ ((k:Int)<(ops.length:Int)):=by omega
  rw [List.drop_eq_nil_of_le (by omega),qW] at hb;have eb:uF x ops=if yK x1 f.length≠0 then [] else if 200<(vO (f ++ [x1]) f.length).length then [] else vO (f ++ [x1]) f.length:=by rw [uF,hb]
  rw [eb];simp only [simprocAttr,-ZA,↓zU,↓zD,zV,zT,zW,hd,Nd.row,xI]
  (repeat refine sd ?_)
  refine .go (xX.yT (dR x1 f.length) (by simp [D.xV,D.xG,Nd.row])) ?_;by_cases hn:yK x1 f.length=0
  case neg=>
   have e:(yK x1 f.length != 0)= true:=by simpa using hn
   rw [if_pos hn];simp only [simprocAttr,-ZA,↓zU,↓zD,zV,zT,zW,e];exact .drop (by simp) (by simp [vw,ndR])
  have e:(yK x1 f.length != 0)= false:=by simpa using hn
  rw [if_neg (by simpa using hn)];simp only [simprocAttr,-ZA,↓zU,↓zD,zV,zT,zW,e,Nd.row,xI]
  (repeat refine sd ?_)
  have hv:zI (f ++ [x1]):=tY hf hn;have hlen:(f ++ [x1]).length<=900:=by rw [List.length_append,List.length_singleton]; omega
  have hcall:=xX.bWz (σ:=⟨3,yY 2 6 (ndR (f ++ [x1]))++ [(0,⟨6,[x1.row]⟩)]⟩) (args:=[xA 2 6 (ndR (f ++ [x1])),.int .i64 f.length]) (objs':=[]) (fun _=>False) (aWn (i:=f.length) hv hlen (by simp))
   ⟨Seen.grow (by rw [St.get,yG,if_pos rfl]; cases vL 6 (ndR (f ++ [x1])) <;> rfl) id (by omega) (aBm _) (gP _),.pure rfl,trivial⟩ (fun k o hk=>by cases hk)
  rw [aS0];simp only [Nd.row] at hcall;refine .go hcall ?_;generalize vO (f ++ [x1]) f.length=c
  by_cases hc:200<c.length
  ·have hc':(200:Int)<(c.length:Int):=by omega
   rw [if_pos hc];simp only [simprocAttr,-ZA,↓zU,↓zD,zV,zT,zW,xI,hc'];exact .drop (by simp) (by simp [vw,ndR])
  ·have hc':¬ (200:Int)<(c.length:Int):=by omega
   rw [if_neg hc];simp only [simprocAttr,-ZA,↓zU,↓zD,zV,zT,zW,xI,hc'];exact .dv
 have hd:((k:Int)<(ops.length:Int)):=by omega
 have hg:=bZk ops h;rw [drop_cons (d:=[]) h,qW] at hb;generalize ops.getD k []=o at hg hb;have hw:IntKind.i64.wrap ((k:Int)+ 1)= ((k+1:Nat):Int):=wrap_i64 (by omega);simp only [simprocAttr,-ZA,↓zU,↓zD,zV,zT,zW,hd,aE2,hg]
 (repeat refine sd ?_)
 refine .go (cr (lH o)) ?_;by_cases hc:xC o=0
 case neg=>
  have e:(xC o != 0)= true:=by simpa using hc
  rw [if_pos hc] at hb;simp only [simprocAttr,-ZA,↓zU,↓zD,zV,zT,zW,e];rw [show uF x ops = [] by rw [uF,hb]];exact .drop (by simp) (by simp [vw,ndR])
 have e:(xC o != 0)= false:=by simpa using hc
 rw [if_neg (by simpa using hc)] at hb;simp only [simprocAttr,-ZA,↓zU,↓zD,zV,zT,zW,e,xI];refine .go (cr (aW1 o)) ?_;have hcv:=iQ o;have hcl:(xE o).length<=200:=nA o _;generalize xE o=c at hb hcv hcl;simp only [simprocAttr,-ZA,↓zU,↓zD,zV,zT,zW,xI]
 refine xW (fun j:Nat=>[(29,.int .i64 j),(28,.int .i64 c.length),(27,.sl 6 (ndR c)),(16,.int .i64 k),(15,.int .i64 ops.length),(14,.sl 1 (nl ops)),(8,.int .i64 f.length),(6,.int .i64 k),(5,xA 1 6 (ndR (f++(c.take j).map (wM f.length)))),(2,.ref 0 6 0 0)]) (fun j=>⟨2,yY 1 6 (ndR (f++(c.take j).map (wM f.length)))++ [(0,⟨6,[x1.row]⟩)]⟩)
  (fun j=>j<=c.length) (fun j=>c.length-j) 0 (Nat.zero_le _) ?_ ?_
 ·rw [show f++(c.take 0).map (wM f.length)= f by simp]
  (refine xH.same ?_; simp [xO,Fr.get])
 intro j hj;refine xP mixed ?_;by_cases hjl:j<c.length
 case neg=>
  have hd2:¬ ((j:Int)<(c.length:Int)):=by omega
  rw [gU (show j=c.length by omega)];have hfl2:(f++c.map (wM f.length)).length<=200*(k+1):=by rw [List.length_append,List.length_map]; omega
  have hv2:=nY hf hcv;generalize f++c.map (wM f.length)= f2 at hb hfl2 hv2;have hw2:IntKind.i64.wrap ((f2.length:Int)-1)= (f2.length:Int)-1:=wrap_i64 (by omega)
  by_cases hk0:k=0
  ·have e0:((k:Int)== 0)= true:=by rw [hk0]; rfl
   rw [aO6,if_pos hk0] at hb;simp only [simprocAttr,-ZA,↓zU,↓zD,zV,zT,zW,hd2,e0,xI,hw2,Nd.row]
   (repeat refine sd ?_)
   refine⟨(k+1,f2,⟨x1.op,x1.i,x1.e,x1.g,(f2.length:Int)-1,x1.y⟩),⟨by omega,hv2,hfl2,hb⟩,?_,by simp only; omega⟩
   (refine xH.ren [] [1,0] (by simp) (by simp) (by decide) ?_; simp only [yZ,vwL,vw,vwF,sw,St.get,St.look,Fr.get,simprocAttr,-ZA,exists_eq_left',ne_eq,zR,eY,Nd.row,hw])
  ·have e0:((k:Int)== 0)= false:=by rw [beq_eq_false_iff_ne]; omega
   rw [aO6,if_neg hk0] at hb;simp only [simprocAttr,-ZA,↓zU,↓zD,zV,zT,zW,hd2,e0,xI,hw2,Nd.row]
   (repeat refine sd ?_)
   refine⟨(k+1,f2,⟨x1.op,x1.i,x1.e,x1.g,x1.x,(f2.length:Int)-1⟩),⟨by omega,hv2,hfl2,hb⟩,?_,by simp only; omega⟩
   (refine xH.ren [] [1,0] (by simp) (by simp) (by decide) ?_; simp only [yZ,vwL,vw,vwF,sw,St.get,St.look,Fr.get,simprocAttr,-ZA,exists_eq_left',ne_eq,zR,eY,Nd.row,hw])
 have hd2:((j:Int)<(c.length:Int)):=by omega
 have hgj:=uB c hjl;have hnj:=hcv j hjl;obtain⟨⟨px,hpx,hpx2⟩,⟨py,hpy,hpy2⟩⟩:=aMk hnj;have hsn:f++(c.take (j+1)).map (wM f.length)= f++(c.take j).map (wM f.length)++ [wM f.length (c.getD j nd0)]:=by rw [zP (d:=nd0) hjl,List.map_append,<- List.append_assoc]; rfl
 generalize c.getD j nd0=p at hgj hnj hpx hpy hsn;have hwj:IntKind.i64.wrap ((j:Int)+ 1)= ((j+1:Nat):Int):=wrap_i64 (by omega);have hl2:(f++(c.take j).map (wM f.length)).length<=1000:=by rw [List.length_append,List.length_map,List.length_take]; omega
 generalize f++(c.take j).map (wM f.length)= f1 at hsn hl2;have hwx:IntKind.i64.wrap (p.x+(f.length:Int))= p.x+(f.length:Int):=wrap_i64 (by omega);have hwy:IntKind.i64.wrap (p.y+(f.length:Int))= p.y+(f.length:Int):=wrap_i64 (by omega);simp only [simprocAttr,-ZA,↓zU,↓zD,zV,zT,zW,hd2,xI,hgj,Nd.row]
 (repeat refine sd ?_)
 refine .go (cq (cB p.op)) ?_;have es:wM f.length p=⟨p.op,p.i,p.e,p.g,if (xZ p.op).1.x=true then p.x+f.length else p.x,if (xZ p.op).1.y=true then p.y+f.length else p.y⟩:=rfl;cases hux:(xZ p.op).1.x <;> cases huy:(xZ p.op).1.y <;> rw [hux,huy] at es
 all_goals
  simp only [simprocAttr,-ZA,↓zU,↓zD,zV,zT,zW,Use.row,hux,huy,hwx,hwy,aS0,xI,List.length_append,List.length_singleton]
  (repeat refine sd ?_)
  refine⟨j+1,by omega,?_,by omega⟩;rw [hsn,es]
  (refine xH.ren [(1,4)] [1,0] (by simp) (by simp) (by decide) ?_; simp only [yZ,vwL,vw,vwF,sw,St.get,St.look,Fr.get,simprocAttr,-ZA,exists_eq_left',ne_eq,zR,eY,hwj,Nd.row,Bool.false_eq_true,if_false,if_true])
section
open Rs Fm
namespace Fm
def aQc (f:List Nd):List Nd:=uF ⟨4,0,0,0,0,0⟩ [f]
def bW2 (f g:List Nd):List Nd:=uF ⟨5,0,0,0,0,0⟩ [f,g]
def orA (f g:List Nd):List Nd:=uF ⟨6,0,0,0,0,0⟩ [f,g]
def bWx (f g:List Nd):List Nd:=uF ⟨7,0,0,0,0,0⟩ [f,g]
def rH (a:Int) (f:List Nd):List Nd:=uF ⟨9,a,0,0,0,0⟩ [f]
def wZ (i:Int):List Nd:=uF ⟨3,i,0,0,0,0⟩ []
end Fm
theorem aEc (x:Nd):yU Tryz.prog 91 [.agg x.row,.xL] (.sl 6 (ndR (uF x []))):= xX.bWz (σ:=St0) (objs':=[]) (fun _=>False) (jJ x [] (by simp)) ⟨.pure (by simp [D.xG,D.xV,Nd.row]),.nil 1,trivial⟩ (fun k o hk=>by cases hk)
theorem bYk (f:List Nd):yU Tryz.prog 35 [.sl 6 (ndR f)] (.sl 6 (ndR (aQc f))):=by
 refine xX.xQ mixed Tryz.func35 k35 (by simp) fun hf=>?_;simp only [simprocAttr,-ZA,↓zU,↓zD,zV,zT,zW]
 (repeat refine sd ?_)
 refine .go (xX.yT (jJ ⟨4,0,0,0,0,0⟩ [f] (by simp)) (by simp [D.xV,D.xG,Nd.row,nl])) ?_;simp only [simprocAttr,-ZA,↓zU,↓zD,zV,zT,zW];exact .same
theorem aSa (a:Int) (f:List Nd):yU Tryz.prog 33 [.int .i64 a,.sl 6 (ndR f)] (.sl 6 (ndR (rH a f))):=by
 refine xX.xQ mixed Tryz.func33 k33 (by simp) fun hf=>?_;simp only [simprocAttr,-ZA,↓zU,↓zD,zV,zT,zW]
 (repeat refine sd ?_)
 refine .go (xX.yT (jJ ⟨9,a,0,0,0,0⟩ [f] (by simp)) (by simp [D.xV,D.xG,Nd.row,nl])) ?_;simp only [simprocAttr,-ZA,↓zU,↓zD,zV,zT,zW];exact .same
theorem aNu (i:Int):yU Tryz.prog 34 [.int .i64 i] (.sl 6 (ndR (wZ i))):=by
 refine xX.xQ mixed Tryz.func34 k34 (by simp) fun hf=>?_;simp only [simprocAttr,-ZA,↓zU,↓zD,zV,zT,zW]
 (repeat refine sd ?_)
 refine .go (xX.yT (aEc ⟨3,i,0,0,0,0⟩) (by simp [D.xV,D.xG,Nd.row])) ?_;simp only [simprocAttr,-ZA,↓zU,↓zD,zV,zT,zW];exact .same
end
section
open Rs Fm
namespace Fm
theorem aMq (a b c d e f:Int):bZ [.int .i64 a,.int .i64 b,.int .i64 c,.int .i64 d,.int .i64 e,.int .i64 f]=some [a,b,c,d,e,f]:=rfl
theorem lI {α:Type} [DecidableEq α] {a b:List α} {k:Nat} {d:α} (ha:k<a.length) (hb:k<b.length):decide (a.drop k=b.drop k)= (decide (a.getD k d=b.getD k d)&& decide (a.drop (k+1)= b.drop (k+1))):=by rw [drop_cons (d:=d) ha,drop_cons (d:=d) hb,Bool.eq_iff_iff];simp
end Fm
end
open Rs Fm
namespace Fm
end Fm
open Rs Fm
namespace Fm
theorem uL (op:Int):op=1\/op=2\/op=3\/op=4\/op=5\/op=6\/op=7\/op=8\/op=9\/op=10\/op=11\/op=12\/op=13\/op=14\/op=15\/op=16\/op=17\/op=18\/op=19\/op=20\/op=21\/op<1\/21<op:=by omega
theorem wT {op:Int} (h:op<1\/21<op):xZ op=(sP,false):=if_pos h
theorem aEw (op:Int):(xZ op).1.x=(decide (4<=op)&& decide (op<=21)):=by
 rcases uL op with rfl | rfl | rfl | rfl | rfl | rfl | rfl | rfl | rfl | rfl | rfl | rfl | rfl | rfl | rfl | rfl | rfl | rfl | rfl | rfl | rfl | h | h
 rotate_right 2
 ·rw [wT (.inl h),decide_eq_false (by omega)]; rfl
 ·rw [wT (.inr h),decide_eq_false (show ¬ op<=21 by omega),Bool.and_false]; rfl
 all_goals rfl
theorem bYs (op:Int):(xZ op).1.gr=(decide (11<=op)&& decide (op<=13)):=by
 rcases uL op with rfl | rfl | rfl | rfl | rfl | rfl | rfl | rfl | rfl | rfl | rfl | rfl | rfl | rfl | rfl | rfl | rfl | rfl | rfl | rfl | rfl | h | h
 rotate_right 2
 ·rw [wT (.inl h),decide_eq_false (by omega)]; rfl
 ·rw [wT (.inr h),decide_eq_false (show ¬ op<=13 by omega),Bool.and_false]; rfl
 all_goals rfl
theorem aNy (op:Int):(op==3)= (xZ op).1.fa:=by
 rcases uL op with rfl | rfl | rfl | rfl | rfl | rfl | rfl | rfl | rfl | rfl | rfl | rfl | rfl | rfl | rfl | rfl | rfl | rfl | rfl | rfl | rfl | h | h
 rotate_right 2
 ·rw [wT (.inl h)]; simp [sP]; omega
 ·rw [wT (.inr h)]; simp [sP]; omega
 all_goals rfl
theorem aCo (op:Int):(op==17)= (xZ op).1.ev:=by
 rcases uL op with rfl | rfl | rfl | rfl | rfl | rfl | rfl | rfl | rfl | rfl | rfl | rfl | rfl | rfl | rfl | rfl | rfl | rfl | rfl | rfl | rfl | h | h
 rotate_right 2
 ·rw [wT (.inl h)]; simp [sP]; omega
 ·rw [wT (.inr h)]; simp [sP]; omega
 all_goals rfl
theorem aCn {op:Int} (h1:¬ op<1) (h2:¬ 21<op):(xZ op).2=true:=by
 rcases uL op with rfl | rfl | rfl | rfl | rfl | rfl | rfl | rfl | rfl | rfl | rfl | rfl | rfl | rfl | rfl | rfl | rfl | rfl | rfl | rfl | rfl | h | h
 rotate_right 2
 ·omega
 ·omega
 all_goals rfl
theorem rY {m:Nd->Nat}:∀ {l:List Nd},yA m l=0 ↔ ∀ p ∈ l,m p=0:=by
 intro l
 have key:∀ (l:List Nd) (a:Nat),l.foldl (fun a p=>a ||| m p) a=0 ↔ a=0/\∀ p ∈ l,m p=0:=by
  intro l
  induction l with
  | nil=>simp
  | cons p r ih=>
   intro a;simp only [List.foldl_cons,ih,List.mem_cons,forall_eq_or_imp];rw [Nat.or_eq_zero_iff]
   constructor
   ·rintro ⟨⟨h1,h2⟩,h3⟩; exact⟨h1,h2,h3⟩
   ·rintro ⟨h1,h2,h3⟩; exact⟨⟨h1,h2⟩,h3⟩
 rw [yA,key];simp
end Fm
end Go.Pd
