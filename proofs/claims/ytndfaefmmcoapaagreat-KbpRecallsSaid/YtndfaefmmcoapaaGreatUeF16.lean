/- Part F16. -/
import Derived.Test.YtndfaefmmcoapaaGreatUeF12
set_option linter.unusedSectionVars false
set_option linter.unusedVariables false
set_option linter.unusedSimpArgs false
set_option linter.defProp false
set_option maxRecDepth 20000
set_option maxHeartbeats 1000000
namespace Go.Pd
open Go Go.Proofs
open BitVec renaming isValue -> ZA
open Rs Fm
theorem aR9 {a b:Nat} (ha:a<2 ^ 62) (hb:b<2 ^ 62):qI .or .i64 (a:Int) (b:Int)= ((a ||| b:Nat):Int):=by show IntKind.i64.wrap ((BitVec.ofInt 64 (a:Int) ||| BitVec.ofInt 64 (b:Int)).toNat:Int)= _;rw [BitVec.ofInt_natCast,BitVec.ofInt_natCast,BitVec.toNat_or,BitVec.toNat_ofNat,BitVec.toNat_ofNat,Nat.mod_eq_of_lt (by omega),Nat.mod_eq_of_lt (by omega)];have:=Nat.or_lt_two_pow ha hb;exact wrap_i64 (by omega)
namespace Fm
def yD (m:Nd->Nat) (l:List Nd):Nat:=l.foldl (fun a p=>a ||| m p) 0
theorem qU (m:Nd->Nat) (l:List Nd) (p:Nd):yD m (l ++ [p])= yD m l ||| m p:=by simp [yD]
theorem rL {m:Nd->Nat} {l:List Nd} (h:∀ p ∈ l,m p<4096):yD m l<2 ^ 12:=by
 have key:∀ (l:List Nd) (a:Nat),a<2 ^ 12->(∀ p ∈ l,m p<4096)->l.foldl (fun a p=>a ||| m p) a<2 ^ 12:=by
  intro l
  induction l with
  | nil=>intro a ha _; exact ha
  | cons p r ih=>intro a ha h; exact ih _ (Nat.or_lt_two_pow ha (h p (by simp))) fun q hq=>h q (by simp [hq])
 exact key l 0 (by decide) h
end Fm
theorem aVn {f:List Nd} {g:FuncId} {m:Nd->Nat} (hm:∀ p ∈ xC f,m p<4096) (h:∀ p ∈ xC f,yV Tryz.prog g [.agg p.row,.agg (xZ p.op).1.row] (.int .i64 (m p))) (hlen:(xC f).length<=1000) :
  yV Tryz.prog 111 [.sl 6 (ndR f),.fn g []] (.int .i64 (yD m (xC f))):=by
 refine xX.xP mixed Tryz.func111 bT5 (by simp) fun hf=>?_;simp only [simprocAttr,-ZA,↓zU,↓zD,zV,zT,zW];refine .go (cr (aWk f)) ?_;generalize xC f=l at hm h hlen;simp only [simprocAttr,-ZA,↓zU,↓zD,zV,zT,zW,xJ]
 refine xW (fun k:Nat=>[(13,.int .i64 k),(12,.int .i64 l.length),(11,.sl 6 (ndR l)),(5,.int .i64 (yD m (l.take k))),(1,.fn g [])]) (fun _=>⟨0,[]⟩) (fun k=>k<=l.length) (fun k=>l.length-k) 0 (Nat.zero_le _) ?_ ?_
 ·(refine xI.same ?_; simp [xR,Fr.get,yD])
 intro k hk;refine xQ mixed ?_;by_cases hh:k<l.length
 case neg=>
  have hd:¬ ((k:Int)<(l.length:Int)):=by omega
  rw [iN (show k=l.length by omega)];simp only [simprocAttr,-ZA,↓zU,↓zD,zV,zT,zW,hd];exact .same
 have hd:((k:Int)<(l.length:Int)):=by omega
 have hs:yD m (l.take (k+1))= yD m (l.take k) ||| m (l.getD k nd0):=by rw [yB (d:=nd0) hh,qU]
 have hg:=uN l hh;have hmem:=xN (d:=nd0) hh;have hlt:yD m (l.take k)<2 ^ 12:=rL fun p hp=>hm p (List.mem_of_mem_take hp);generalize l.getD k nd0=p at hs hg hmem;have hmp:=hm p hmem;simp only [simprocAttr,-ZA,↓zU,↓zD,zV,zT,zW,hd,xJ,hg,Nd.row]
 (repeat refine sd ?_)
 refine .go (cq (cW p.op)) ?_;simp only [simprocAttr,-ZA,↓zU,↓zD,zV,zT,zW,Use.row]
 (repeat refine sd ?_)
 refine .go (xX.yN (h p hmem) (by simp [D.xU,D.xG,Nd.row,Use.row])) ?_;simp only [simprocAttr,-ZA,↓zU,↓zD,zV,zT,zW,aR9 (show yD m (l.take k)<2 ^ 62 by omega) (show m p<2 ^ 62 by omega)];refine⟨k+1,by omega,?_,by omega⟩;rw [hs]
 (refine xI.view (fun k=>k) (by simp) (by simp) ?_ (by simp [stays]) (by simp [vC]); simp [vwF,vw,vwL,Fr.get])
 exact wrap_i64 (by omega)
open Rs Fm
namespace Fm
theorem kL (op:Int):0<=(xZ op).1.fr/\(xZ op).1.fr<=256:=by
 have hc:op=1\/op=2\/op=3\/op=4\/op=5\/op=6\/op=7\/op=8\/op=9\/op=10\/op=11\/op=12\/op=13\/op=14\/op=15\/op=16\/op=17\/op=18\/op=19\/op=20\/op=21\/(op<1\/21<op):=by omega
 rcases hc with rfl | rfl | rfl | rfl | rfl | rfl | rfl | rfl | rfl | rfl | rfl | rfl | rfl | rfl | rfl | rfl | rfl | rfl | rfl | rfl | rfl | hc
 rotate_right
 ·rw [show xZ op=(tF,false) from if_pos hc]; exact⟨by decide,by decide⟩
 all_goals simp [xZ,tF]
def rV (p:Nd):Nat:=(xZ p.op).1.fr.toNat
def wX (f:List Nd):Nat:=yD rV (xC f)
theorem aPo {f:List Nd} {i:Nat} (hc:∀ k,k<f.length->yA (f.getD k nd0) k=0) (hi:i<f.length):(vW f i).length<=f.length:=(sT hc (i+1) (i:=i) (s:=⟨[],[]⟩) (by omega) hi ⟨Nat.le_refl _,by simp,fun p hp=>by cases hp⟩).1.len
theorem nS (f:List Nd) (i:Int):(iU f i).length<=200:=by
 unfold iU
 by_cases h:yY f≠0\/i<0\/(f.length:Int)<=i
 ·rw [if_pos h]; simp
 ·rw [if_neg h];obtain⟨c1,c2,c3⟩:=wP (f:=f) (by omega);have:=aPo c3 (i:=i.toNat) (by omega);omega
end Fm
theorem aMx (f:List Nd):yV Tryz.prog 53 [.sl 6 (ndR f)] (.int .i64 (wX f)):=by
 refine xX.xP mixed Tryz.func53 k53 (by simp) fun hf=>?_;simp only [simprocAttr,-ZA,↓zU,↓zD,zV,zT,zW]
 refine .go (xX.yN (aVn (m:=rV) (fun p _=>by have:=kL p.op; unfold rV; omega) (fun p _=>?_) (by have:=nS f ((f.length:Int)-1); unfold xC; omega)) rfl) ?_
 ·have h:=aBr p (xZ p.op).1;have:=kL p.op;rw [show ((rV p:Nat):Int)= (xZ p.op).1.fr from Int.toNat_of_nonneg this.1];exact h
 simp only [simprocAttr,-ZA,↓zU,↓zD,zV,zT,zW];exact .same
open Rs Fm
namespace Fm
def mP (m:Nat) (n:Int):Bool:=decide (31<=n) || decide (m / 2 ^ n.toNat=0)
end Fm
theorem aEn (m:Nat) (n:Int):yV Tryz.prog 146 [.int .i64 m,.int .i64 n] (.bool (mP m n)):=by
 refine xX.xP mixed Tryz.func146 bTd (by simp) fun hf=>?_
 by_cases h1:31<=n
 ·simp only [simprocAttr,-ZA,↓zU,↓zD,zV,zT,zW,h1];exact .drop (by simp) (by simp [vw,mP,h1])
 have e:max n 0=((n.toNat:Nat):Int):=by omega
 have e2:max 0 n=((n.toNat:Nat):Int):=by omega
 have hb:(((m / 2 ^ n.toNat:Nat):Int)== 0)= decide (m / 2 ^ n.toNat=0):=by rw [Bool.eq_iff_iff,beq_iff_eq,decide_eq_true_iff]; omega
 simp only [simprocAttr,-ZA,↓zU,↓zD,zV,zT,zW,h1,bYq,e,e2,jK m n.toNat (by omega),hb]
 (repeat refine sd ?_)
 exact .drop (by simp) (by simp [vw,mP,h1])
open Rs Fm
namespace Fm
theorem wT {p:Nd} {k:Int}:yA p k=0 ↔ (xZ p.op).2=true/\xD (xZ p.op).1.x p.x k=true/\xD (xZ p.op).1.y p.y k=true /\
  ((!((xZ p.op).1.fa || (xZ p.op).1.ag || (xZ p.op).1.ev)&& decide (p.i≠0)) || (!(xZ p.op).1.ev&&decide (p.e≠0)) || (!(xZ p.op).1.gr&&decide (p.g≠0)))= false /\
  (xM (xZ p.op).1.fa p.i 0 7 || xM (xZ p.op).1.ag p.i 0 3 || xM (xZ p.op).1.ev p.i 0 7 || xM (xZ p.op).1.ev p.e 0 7 || xM (xZ p.op).1.gr p.g 1 15)= false:=by
 unfold yA
 cases h1:(xZ p.op).2
 ·simp
 cases h2:xD (xZ p.op).1.x p.x k
 ·simp
 cases h3:xD (xZ p.op).1.y p.y k
 ·simp
 generalize ((!((xZ p.op).1.fa || (xZ p.op).1.ag || (xZ p.op).1.ev)&& decide (p.i≠0)) || (!(xZ p.op).1.ev&&decide (p.e≠0)) || (!(xZ p.op).1.gr&&decide (p.g≠0)))= c;generalize (xM (xZ p.op).1.fa p.i 0 7 || xM (xZ p.op).1.ag p.i 0 3 || xM (xZ p.op).1.ev p.i 0 7 || xM (xZ p.op).1.ev p.e 0 7 || xM (xZ p.op).1.gr p.g 1 15)= d;cases c <;> cases d <;> simp
theorem lQ {p:Nd} {a b k k':Int} (h:yA p k=0) (ha:if (xZ p.op).1.x=true then 0<=a/\a<k' else a=p.x) (hb:if (xZ p.op).1.y=true then 0<=b/\b<k' else b=p.y):yA ⟨p.op,p.i,p.e,p.g,a,b⟩ k'=0:=by
 rw [wT] at h ⊢;obtain⟨h1,h2,h3,h4,h5⟩:=h
 refine⟨h1,?_,?_,h4,h5⟩
 ·simp only
  cases hx:(xZ p.op).1.x
  ·rw [hx] at ha h2;rw [if_neg (by simp)] at ha;rw [ha]; exact h2
  ·rw [hx,if_pos rfl] at ha;simp [xD,ha]
 ·simp only
  cases hx:(xZ p.op).1.y
  ·rw [hx] at hb h3;rw [if_neg (by simp)] at hb;rw [hb]; exact h3
  ·rw [hx,if_pos rfl] at hb;simp [xD,hb]
structure aA2 (s : CS) : Prop where
 nd:∀ k,k<s.out.length->yA (s.out.getD k nd0) k=0
 dn:∀ z k:Int,wR z s.done=some k->0<=k/\k<s.out.length
theorem aMc {q:Nd}:∀ {l:List Nd} {k j:Nat},qG q l k=some j->k<=j/\j<k+l.length
 | [],_,_,h=>by cases h
 | p :: r,k,j,h=>by
  unfold qG at h
  by_cases e:q=p
  ·rw [if_pos e] at h; cases h; simp
  ·rw [if_neg e] at h;have:=aMc h;simp only [List.length_cons]; omega
theorem bY9 {s:CS} {i:Nat} {q:Nd} (h:aA2 s) (hq:yA q s.out.length=0):aA2 (cZ i q s).2/\0<=(cZ i q s).1/\(cZ i q s).1<(cZ i q s).2.out.length/\s.out.length<=(cZ i q s).2.out.length:=by
 unfold cZ
 cases he:qG q s.out 0 with
 | some k=>
  have hk:=aMc he;refine⟨⟨h.nd,fun z j hz=>?_⟩,by simp,by simp only; omega,Nat.le_refl _⟩;simp only at hz;rw [vE] at hz
  by_cases e:z=i
  ·rw [if_pos e] at hz; cases hz; simp only; omega
  ·rw [if_neg e] at hz; exact h.dn z j hz
 | none=>
  refine⟨⟨fun k hk=>?_,fun z j hz=>?_⟩,by simp,by simp; omega,by simp⟩
  ·simp only [List.length_append,List.length_singleton] at hk
   by_cases hl:k<s.out.length
   ·have:=h.nd k hl;simp only [List.getD_eq_getElem?_getD] at this ⊢
    rwa [List.getElem?_append_left hl]
   ·obtain rfl:k=s.out.length:=by omega
    simpa [List.getD_eq_getElem?_getD] using hq
  ·simp only at hz;rw [vE] at hz
   by_cases e:z=i
   ·rw [if_pos e] at hz; cases hz; simp; omega
   ·rw [if_neg e] at hz;have:=h.dn z j hz;simp only [List.length_append,List.length_singleton]; omega
theorem lN {f:List Nd} (hc:∀ k,k<f.length->yA (f.getD k nd0) k=0):∀ (n:Nat) {i:Nat} {s:CS},i<n->i<f.length->aA2 s ->
  aA2 (xK f n i s).2/\0<=(xK f n i s).1/\(xK f n i s).1<(xK f n i s).2.out.length/\s.out.length<=(xK f n i s).2.out.length
 | 0,i,s,h,_,_=>by omega
 | n + 1,i,s,h,hi,hs=>by
  cases hu:wR i s.done with
  | some k=>rw [xK,hu]; exact⟨hs,(hs.dn _ _ hu).1,(hs.dn _ _ hu).2,Nat.le_refl _⟩
  | none=>
   rw [rF hu];have hp:=hc i hi;obtain⟨ox,oy⟩:=qZ hp;simp only;generalize f.getD i nd0=p at ox oy hp
   have ha:aA2 (if (xZ p.op).1.x=true then xK f n p.x.toNat s else(p.x,s)).2/\(if (xZ p.op).1.x=true then 0<=(if (xZ p.op).1.x=true then xK f n p.x.toNat s else(p.x,s)).1/\(if (xZ p.op).1.x=true then xK f n p.x.toNat s else(p.x,s)).1<(if (xZ p.op).1.x=true then xK f n p.x.toNat s else(p.x,s)).2.out.length else(if (xZ p.op).1.x=true then xK f n p.x.toNat s else(p.x,s)).1=p.x)/\ s.out.length<=(if (xZ p.op).1.x=true then xK f n p.x.toNat s else(p.x,s)).2.out.length:=by
    by_cases hx:(xZ p.op).1.x=true
    ·simp only [if_pos hx];have:=ox hx;obtain⟨b1,b2,b3,b4⟩:=lN hc n (i:=p.x.toNat) (s:=s) (by omega) (by omega) hs;exact⟨b1,⟨b2,b3⟩,b4⟩
    ·simp only [if_neg hx]; exact⟨hs,trivial,Nat.le_refl _⟩
   generalize (if (xZ p.op).1.x=true then xK f n p.x.toNat s else(p.x,s))= a at ha;obtain⟨a1,a2,a3⟩:=ha
   have hb:aA2 (if (xZ p.op).1.y=true then xK f n p.y.toNat a.2 else(p.y,a.2)).2/\(if (xZ p.op).1.y=true then 0<=(if (xZ p.op).1.y=true then xK f n p.y.toNat a.2 else(p.y,a.2)).1/\(if (xZ p.op).1.y=true then xK f n p.y.toNat a.2 else(p.y,a.2)).1<(if (xZ p.op).1.y=true then xK f n p.y.toNat a.2 else(p.y,a.2)).2.out.length else(if (xZ p.op).1.y=true then xK f n p.y.toNat a.2 else(p.y,a.2)).1=p.y)/\ a.2.out.length<=(if (xZ p.op).1.y=true then xK f n p.y.toNat a.2 else(p.y,a.2)).2.out.length:=by
    by_cases hy:(xZ p.op).1.y=true
    ·simp only [if_pos hy];have:=oy hy;obtain⟨b1,b2,b3,b4⟩:=lN hc n (i:=p.y.toNat) (s:=a.2) (by omega) (by omega) a1;exact⟨b1,⟨b2,b3⟩,b4⟩
    ·simp only [if_neg hy]; exact⟨a1,trivial,Nat.le_refl _⟩
   generalize (if (xZ p.op).1.y=true then xK f n p.y.toNat a.2 else(p.y,a.2))= b at hb;obtain⟨b1,b2,b3⟩:=hb
   have hq:yA ⟨p.op,p.i,p.e,p.g,a.1,b.1⟩ b.2.out.length=0:=by
    refine lQ hp ?_ b2
    split
    ·rename_i hx;rw [if_pos hx] at a2; omega
    ·rename_i hx;rw [if_neg hx] at a2; exact a2
   obtain⟨e1,e2,e3,e4⟩:=bY9 (i:=i) b1 hq;exact⟨e1,e2,e3,by omega⟩
theorem jL (f:List Nd) (i:Int):∀ k,k<(iU f i).length->yA ((iU f i).getD k nd0) k=0:=by
 unfold iU
 by_cases h:yY f≠0\/i<0\/(f.length:Int)<=i
 ·rw [if_pos h]; intro k hk; simp at hk
 ·rw [if_neg h];obtain⟨c1,c2,c3⟩:=wP (f:=f) (by omega);exact(lN c3 (i.toNat+1) (i:=i.toNat) (s:=⟨[],[]⟩) (by omega) (by omega) ⟨fun k hk=>by simp at hk,fun z k hz=>by cases hz⟩).1.nd
theorem bYf {f:List Nd} {i:Nat} (hc:yY f=0) (hi:i<f.length):0<(iU f i).length:=by obtain⟨c1,c2,c3⟩:=wP hc;unfold iU;rw [if_neg (by omega)];have:=(lN c3 ((i:Int).toNat+1) (i:=(i:Int).toNat) (s:=⟨[],[]⟩) (by omega) (by omega) ⟨fun k hk=>by simp at hk,fun z k hz=>by cases hz⟩).2;unfold vW;omega
theorem aP0 {f:List Nd} (hc:yY f=0):0<(xC f).length:=by
 have h1:=(wP hc).1;have:0<f.length:=List.length_pos_iff.2 h1;have:=bYf (i:=f.length-1) hc (by omega);unfold xC
 rwa [show ((f.length:Int)-1)= ((f.length-1:Nat):Int) by omega]
theorem mQ {l:List Nd} (h:∀ k,k<l.length->yA (l.getD k nd0) k=0) {p:Nd} (hp:p ∈ l):∃ k:Nat,yA p k=0:=by
 obtain⟨k,hk,rfl⟩:=List.getElem_of_mem hp;refine⟨k,?_⟩;have:=h k hk
 rwa [List.getD_eq_getElem?_getD,List.getElem?_eq_getElem hk] at this
theorem nO {p:Nd} {k:Int} (h:yA p k=0) (hf:(xZ p.op).1.fa=true):0<=p.i/\p.i<=7:=by have:=(wT.1 h).2.2.2.2;simp only [xM,hf,Bool.or_eq_false_iff,Bool.true_and,decide_eq_false_iff_not] at this;omega
theorem uG {p:Nd} {k:Int} (h:yA p k=0) (hf:(xZ p.op).1.ag=true):0<=p.i/\p.i<=3:=by have:=(wT.1 h).2.2.2.2;simp only [xM,hf,Bool.or_eq_false_iff,Bool.true_and,decide_eq_false_iff_not] at this;omega
theorem mF {p:Nd} {k:Int} (h:yA p k=0):0<=p.g/\p.g<=15:=by
 have h1:=(wT.1 h).2.2.2.2;have h2:=(wT.1 h).2.2.2.1
 cases hg:(xZ p.op).1.gr
 ·simp only [hg,Bool.or_eq_false_iff,Bool.not_false,Bool.true_and,decide_eq_false_iff_not] at h2;omega
 ·simp only [xM,hg,Bool.or_eq_false_iff,Bool.true_and,decide_eq_false_iff_not] at h1;omega
def vQ (p:Nd):Nat:=if (xZ p.op).1.ag=true then 2 ^ p.i.toNat else p.g.toNat
def rU (p:Nd):Nat:=if (xZ p.op).1.fa=true then 2 ^ p.i.toNat else 0
def sZ (f:List Nd):Nat:=yD vQ (xC f)
def nW (f:List Nd):Nat:=yD rU (xC f)
theorem aWg {p:Nd} {k:Int} (h:yA p k=0):vQ p<4096:=by
 unfold vQ
 split
 ·rename_i hf;have:=uG h hf;have:2 ^ p.i.toNat<=2 ^ 3:=Nat.pow_le_pow_right (by decide) (by omega);omega
 ·have:=mF h;omega
theorem aRa {p:Nd} {k:Int} (h:yA p k=0):rU p<4096:=by
 unfold rU
 split
 ·rename_i hf;have:=nO h hf;have:2 ^ p.i.toNat<=2 ^ 7:=Nat.pow_le_pow_right (by decide) (by omega);omega
 ·omega
def rO (f:List Nd) (a b:Int):Bool:=decide (yY f=0)&& mP (sZ f) a&&mP (nW f) b
end Fm
theorem aFv (f:List Nd):yV Tryz.prog 147 [.sl 6 (ndR f)] (.int .i64 (sZ f)):=by
 refine xX.xP mixed Tryz.func147 bTc (by simp) fun hf=>?_;simp only [simprocAttr,-ZA,↓zU,↓zD,zV,zT,zW]
 refine .go (xX.yN (aVn (m:=vQ) (fun p hp=>?_) (fun p hp=>?_) (by have:=nS f ((f.length:Int)-1); unfold xC; omega)) rfl) ?_
 ·obtain⟨k,hk⟩:=mQ (jL f _) hp;exact aWg hk
 ·obtain⟨k,hk⟩:=mQ (jL f _) hp;have h:=aFu p (xZ p.op).1 (fun ha=>by have:=uG hk ha; omega)
  rw [show ((vQ p:Nat):Int)= (if (xZ p.op).1.ag=true then((2 ^ p.i.toNat:Nat):Int) else p.g) by
   unfold vQ
   split
   ·rfl
   ·have:=mF hk; omega]
  exact h
 simp only [simprocAttr,-ZA,↓zU,↓zD,zV,zT,zW];exact .same
theorem aAe (f:List Nd):yV Tryz.prog 148 [.sl 6 (ndR f)] (.int .i64 (nW f)):=by
 refine xX.xP mixed Tryz.func148 bTb (by simp) fun hf=>?_;simp only [simprocAttr,-ZA,↓zU,↓zD,zV,zT,zW]
 refine .go (xX.yN (aVn (m:=rU) (fun p hp=>?_) (fun p hp=>?_) (by have:=nS f ((f.length:Int)-1); unfold xC; omega)) rfl) ?_
 ·obtain⟨k,hk⟩:=mQ (jL f _) hp;exact aRa hk
 ·obtain⟨k,hk⟩:=mQ (jL f _) hp;have h:=aBs p (xZ p.op).1 (fun ha=>by have:=nO hk ha; omega)
  rw [show ((rU p:Nat):Int)= (if (xZ p.op).1.fa=true then((2 ^ p.i.toNat:Nat):Int) else 0) by unfold rU;split <;> rfl]
  exact h
 simp only [simprocAttr,-ZA,↓zU,↓zD,zV,zT,zW];exact .same
theorem aEu (f:List Nd) (a b:Int):yV Tryz.prog 101 [.sl 6 (ndR f),.int .i64 a,.int .i64 b] (.bool (rO f a b)):=by
 refine xX.xP mixed Tryz.func101 bT7 (by simp) fun hf=>?_;simp only [simprocAttr,-ZA,↓zU,↓zD,zV,zT,zW];refine .go (cr (mB f)) ?_;by_cases hc:yY f=0
 case neg=>
  have e:(yY f==0)= false:=by simpa using hc
  simp only [simprocAttr,-ZA,↓zU,↓zD,zV,zT,zW,e];exact .drop (by simp) (by simp [vw,rO,hc])
 have e:(yY f==0)= true:=by simpa using hc
 simp only [simprocAttr,-ZA,↓zU,↓zD,zV,zT,zW,e];refine .go (cr (aFv f)) ?_;simp only [simprocAttr,-ZA,↓zU,↓zD,zV,zT,zW];refine .go (xX.yN (aEn (sZ f) a) rfl) ?_
 cases hb:mP (sZ f) a
 ·simp only [simprocAttr,-ZA,↓zU,↓zD,zV,zT,zW];exact .drop (by simp) (by simp [vw,rO,hb])
 simp only [simprocAttr,-ZA,↓zU,↓zD,zV,zT,zW];refine .go (cr (aAe f)) ?_;simp only [simprocAttr,-ZA,↓zU,↓zD,zV,zT,zW];refine .go (xX.yN (aEn (nW f) b) rfl) ?_;simp only [simprocAttr,-ZA,↓zU,↓zD,zV,zT,zW];exact .drop (by simp) (by simp [vw,rO,hb,hc])
open Rs Fm
namespace Fm
def rb (l:List Bool):List (List D):=l.map fun b=>[.bool b]
theorem tT (l:List Bool):(rb l).length=l.length:=by simp [rb]
theorem aNb (l:List Bool) {i:Nat} (h:i<l.length):(rb l).getD i [] = [.bool (l.getD i false)]:=by simp [rb,List.getD,h]
theorem aYh (l:List Bool) (i:Nat) (b:Bool):(rb l).set i [.bool b]=rb (l.set i b):=by simp [rb,List.map_set]
theorem aWu (n:Nat) (b:Bool):List.replicate n [D.bool b]=rb (List.replicate n b):=by simp [rb]
theorem aCf (l:List Bool):∀ e ∈ rb l,D.xU e=true:=by intro e he;simp only [rb,List.mem_map] at he;obtain⟨n,_,rfl⟩:=he;rfl
theorem uW (l:List Bool):uO (rb l)= True:=eq_true (aCf l)
theorem aW2 (a b:D):List.set [a] 0 b = [b]:=rfl
theorem aN4 {p:Nd} {k:Nat} (h:yA p k=0):(∃ x:Nat,p.x=x/\x<=k)/\ (∃ y:Nat,p.y=y/\y<=k):=by
 obtain⟨_,h2,h3,_⟩:=wT.1 h
 refine⟨?_,?_⟩
 ·unfold xD at h2
  split at h2
  ·simp only [Bool.and_eq_true,decide_eq_true_eq] at h2;exact⟨p.x.toNat,by omega,by omega⟩
  ·simp only [decide_eq_true_eq] at h2;exact⟨0,by omega,by omega⟩
 ·unfold xD at h3
  split at h3
  ·simp only [Bool.and_eq_true,decide_eq_true_eq] at h3;exact⟨p.y.toNat,by omega,by omega⟩
  ·simp only [decide_eq_true_eq] at h3;exact⟨0,by omega,by omega⟩
end Fm
open Rs Fm
namespace Fm
end Fm
open Rs Fm
namespace Fm
def nl (ops:List (List Nd)):List (List D):=ops.map fun o=>[.sl 6 (ndR o)]
theorem aEc (l:List (List Nd)):(nl l).length=l.length:=by simp [nl]
theorem bYo (l:List (List Nd)) {i:Nat} (h:i<l.length):(nl l).getD i [] = [.sl 6 (ndR (l.getD i []))]:=by simp [nl,List.getD,h]
theorem fV (l:List Nd):uO (ndR l)= True:=eq_true (iJ l)
theorem aSj (l:List Nd) (a b c d e f:Int):ndR l ++ [[.int .i64 a,.int .i64 b,.int .i64 c,.int .i64 d,.int .i64 e,.int .i64 f]]=ndR (l ++ [⟨a,b,c,d,e,f⟩]):=by simp [ndR,Nd.row]
theorem aC1 : ndR [] = []:=rfl
theorem aC0 (l:List Nd):∀ e ∈ ndR l,e.length=6:=by intro e he;simp only [ndR,List.mem_map] at he;obtain⟨p,_,rfl⟩:=he;rfl
def tC (n:Nat) (p:Nd):Nd:=⟨p.op,p.i,p.e,p.g,if (xZ p.op).1.x=true then p.x+n else p.x,if (xZ p.op).1.y=true then p.y+n else p.y⟩
def wK (f:List Nd):Prop:=∀ k,k<f.length->yA (f.getD k nd0) k=0
theorem aI8 {p:Nd} {k n:Nat} (h:yA p k=0):yA (tC n p) ((n+k:Nat):Int)= 0:=by
 obtain⟨ox,oy⟩:=qZ h
 refine lQ h ?_ ?_
 ·split
  ·rename_i hx; have:=ox hx; omega
  ·rfl
 ·split
  ·rename_i hy; have:=oy hy; omega
  ·rfl
theorem aQl {f c:List Nd} (hf:wK f) (hc:wK c):wK (f++c.map (tC f.length)):=by
 intro k hk;simp only [List.length_append,List.length_map] at hk;simp only [List.getD_eq_getElem?_getD]
 by_cases h:k<f.length
 ·rw [List.getElem?_append_left h];have:=hf k h
  rwa [List.getD_eq_getElem?_getD] at this
 ·rw [List.getElem?_append_right (by omega),List.getElem?_map];have hk':k-f.length<c.length:=by omega
  have h1:=hc (k-f.length) hk';rw [List.getD_eq_getElem?_getD,List.getElem?_eq_getElem hk',Option.getD_some] at h1;rw [List.getElem?_eq_getElem hk',Option.map_some,Option.getD_some];have:=aI8 (n:=f.length) h1
  rwa [show f.length+(k-f.length)= k by omega] at this
theorem eY {f:List Nd} {p:Nd} (hf:wK f) (hp:yA p f.length=0):wK (f ++ [p]):=by
 intro k hk;simp only [List.length_append,List.length_singleton] at hk;simp only [List.getD_eq_getElem?_getD]
 by_cases h:k<f.length
 ·rw [List.getElem?_append_left h];have:=hf k h
  rwa [List.getD_eq_getElem?_getD] at this
 ·obtain rfl:k=f.length:=by omega
  simpa using hp
theorem aYg (o:List Nd):wK (xC o):=jL o _
def aDd (k:Nat) (x:Nd) (v:Int):Nd:=if k=0 then⟨x.op,x.i,x.e,x.g,v,x.y⟩ else⟨x.op,x.i,x.e,x.g,x.x,v⟩
def cS : Nat->List (List Nd)->List Nd->Nd->Option (List Nd × Nd)
 | _,[],f,x=>some (f,x)
 | k,o :: r,f,x=>if yY o≠0 then none else
  cS (k+1) r (f++(xC o).map (tC f.length)) (aDd k x (((f++(xC o).map (tC f.length)).length:Int)-1))
def nV (x:Nd) (ops:List (List Nd)):List Nd:=match cS 0 ops [] x with
 | none=>[]
 | some (f,x')=>if yA x' f.length≠0 then [] else if 200<(vW (f ++ [x']) f.length).length then [] else vW (f ++ [x']) f.length
end Fm
theorem aO (x:Nd) (ops:List (List Nd)) (ho:ops.length<=2):yV Tryz.prog 91 [.agg x.row,.sl 1 (nl ops)] (.sl 6 (ndR (nV x ops))):=by
 refine xX.xP mixed Tryz.func91 k91 (by simp) fun hf=>?_;simp only [simprocAttr,-ZA,↓zU,↓zD,zV,zT,zW,aEc,Nd.row]
 (repeat refine sd ?_)
 refine xW (fun a:Nat × List Nd × Nd=>[(16,.int .i64 a.1),(15,.int .i64 ops.length),(14,.sl 1 (nl ops)),(5,yX 1 6 (ndR a.2.1)),(2,.ref 0 6 0 0)]) (fun a=>⟨2,yW 1 6 (ndR a.2.1)++ [(0,⟨6,[a.2.2.row]⟩)]⟩)
  (fun a=>a.1<=ops.length/\wK a.2.1/\a.2.1.length<=200*a.1/\cS 0 ops [] x=cS a.1 (ops.drop a.1) a.2.1 a.2.2) (fun a=>ops.length-a.1) (0,[],x) ⟨Nat.zero_le _,fun k hk=>by simp at hk,by simp,rfl⟩ ?_ ?_
 ·(refine xI.ren [] [0] (by simp) (by simp) (by decide) ?_; simp only [yQ,vwL,vw,vwF,sw,St.get,St.look,Fr.get,simprocAttr,-ZA,exists_eq_left',ne_eq,zR,aC1,zK,zL,List.nil_append,Nd.row])
 rintro ⟨k,f,x1⟩ ⟨hk,hf,hfl,hb⟩;simp only at hk hf hfl hb;refine xQ mixed ?_;by_cases h:k<ops.length
 case neg=>
  have hd:¬ ((k:Int)<(ops.length:Int)):=by omega
  rw [List.drop_eq_nil_of_le (by omega),cS] at hb;have eb:nV x ops=if yA x1 f.length≠0 then [] else if 200<(vW (f ++ [x1]) f.length).length then [] else vW (f ++ [x1]) f.length:=by rw [nV,hb]
  rw [eb];simp only [simprocAttr,-ZA,↓zU,↓zD,zV,zT,zW,hd,Nd.row,xJ]
  (repeat refine sd ?_)
  refine .go (xX.yN (eO x1 f.length) (by simp [D.xU,D.xG,Nd.row])) ?_;by_cases hn:yA x1 f.length=0
  case neg=>
   have e:(yA x1 f.length != 0)= true:=by simpa using hn
   rw [if_pos hn];simp only [simprocAttr,-ZA,↓zU,↓zD,zV,zT,zW,e];exact .drop (by simp) (by simp [vw,ndR])
  have e:(yA x1 f.length != 0)= false:=by simpa using hn
  rw [if_neg (by simpa using hn)];simp only [simprocAttr,-ZA,↓zU,↓zD,zV,zT,zW,e,Nd.row,xJ]
  (repeat refine sd ?_)
  have hv:wK (f ++ [x1]):=eY hf hn;have hlen:(f ++ [x1]).length<=900:=by rw [List.length_append,List.length_singleton]; omega
  have hcall:=xX.bWc (σ:=⟨3,yW 2 6 (ndR (f ++ [x1]))++ [(0,⟨6,[x1.row]⟩)]⟩) (args:=[yX 2 6 (ndR (f ++ [x1])),.int .i64 f.length]) (objs':=[]) (fun _=>False) (aZ6 (i:=f.length) hv hlen (by simp))
   ⟨Seen.grow (by rw [St.get,yK,if_pos rfl]; cases vS 6 (ndR (f ++ [x1])) <;> rfl) id (by omega) (aC0 _) (iJ _),.pure rfl,trivial⟩ (fun k o hk=>by cases hk)
  rw [aSj];simp only [Nd.row] at hcall;refine .go hcall ?_;generalize vW (f ++ [x1]) f.length=c
  by_cases hc:200<c.length
  ·have hc':(200:Int)<(c.length:Int):=by omega
   rw [if_pos hc];simp only [simprocAttr,-ZA,↓zU,↓zD,zV,zT,zW,xJ,hc'];exact .drop (by simp) (by simp [vw,ndR])
  ·have hc':¬ (200:Int)<(c.length:Int):=by omega
   rw [if_neg hc];simp only [simprocAttr,-ZA,↓zU,↓zD,zV,zT,zW,xJ,hc'];exact .dv
 have hd:((k:Int)<(ops.length:Int)):=by omega
 have hg:=bYo ops h;rw [drop_cons (d:=[]) h,cS] at hb;generalize ops.getD k []=o at hg hb;have hw:IntKind.i64.wrap ((k:Int)+ 1)= ((k+1:Nat):Int):=wrap_i64 (by omega);simp only [simprocAttr,-ZA,↓zU,↓zD,zV,zT,zW,hd,aEc,hg]
 (repeat refine sd ?_)
 refine .go (cr (mB o)) ?_;by_cases hc:yY o=0
 case neg=>
  have e:(yY o != 0)= true:=by simpa using hc
  rw [if_pos hc] at hb;simp only [simprocAttr,-ZA,↓zU,↓zD,zV,zT,zW,e];rw [show nV x ops = [] by rw [nV,hb]];exact .drop (by simp) (by simp [vw,ndR])
 have e:(yY o != 0)= false:=by simpa using hc
 rw [if_neg (by simpa using hc)] at hb;simp only [simprocAttr,-ZA,↓zU,↓zD,zV,zT,zW,e,xJ];refine .go (cr (aWk o)) ?_;have hcv:=aYg o;have hcl:(xC o).length<=200:=nS o _;generalize xC o=c at hb hcv hcl;simp only [simprocAttr,-ZA,↓zU,↓zD,zV,zT,zW,xJ]
 refine xW (fun j:Nat=>[(29,.int .i64 j),(28,.int .i64 c.length),(27,.sl 6 (ndR c)),(16,.int .i64 k),(15,.int .i64 ops.length),(14,.sl 1 (nl ops)),(8,.int .i64 f.length),(6,.int .i64 k),(5,yX 1 6 (ndR (f++(c.take j).map (tC f.length)))),(2,.ref 0 6 0 0)]) (fun j=>⟨2,yW 1 6 (ndR (f++(c.take j).map (tC f.length)))++ [(0,⟨6,[x1.row]⟩)]⟩)
  (fun j=>j<=c.length) (fun j=>c.length-j) 0 (Nat.zero_le _) ?_ ?_
 ·rw [show f++(c.take 0).map (tC f.length)= f by simp]
  (refine xI.same ?_; simp [xR,Fr.get])
 intro j hj;refine xQ mixed ?_;by_cases hjl:j<c.length
 case neg=>
  have hd2:¬ ((j:Int)<(c.length:Int)):=by omega
  rw [iN (show j=c.length by omega)];have hfl2:(f++c.map (tC f.length)).length<=200*(k+1):=by rw [List.length_append,List.length_map]; omega
  have hv2:=aQl hf hcv;generalize f++c.map (tC f.length)= f2 at hb hfl2 hv2;have hw2:IntKind.i64.wrap ((f2.length:Int)-1)= (f2.length:Int)-1:=wrap_i64 (by omega)
  by_cases hk0:k=0
  ·have e0:((k:Int)== 0)= true:=by rw [hk0]; rfl
   rw [aDd,if_pos hk0] at hb;simp only [simprocAttr,-ZA,↓zU,↓zD,zV,zT,zW,hd2,e0,xJ,hw2,Nd.row]
   (repeat refine sd ?_)
   refine⟨(k+1,f2,⟨x1.op,x1.i,x1.e,x1.g,(f2.length:Int)-1,x1.y⟩),⟨by omega,hv2,hfl2,hb⟩,?_,by simp only; omega⟩
   (refine xI.ren [] [1,0] (by simp) (by simp) (by decide) ?_; simp only [yQ,vwL,vw,vwF,sw,St.get,St.look,Fr.get,simprocAttr,-ZA,exists_eq_left',ne_eq,zR,fV,Nd.row,hw])
  ·have e0:((k:Int)== 0)= false:=by rw [beq_eq_false_iff_ne]; omega
   rw [aDd,if_neg hk0] at hb;simp only [simprocAttr,-ZA,↓zU,↓zD,zV,zT,zW,hd2,e0,xJ,hw2,Nd.row]
   (repeat refine sd ?_)
   refine⟨(k+1,f2,⟨x1.op,x1.i,x1.e,x1.g,x1.x,(f2.length:Int)-1⟩),⟨by omega,hv2,hfl2,hb⟩,?_,by simp only; omega⟩
   (refine xI.ren [] [1,0] (by simp) (by simp) (by decide) ?_; simp only [yQ,vwL,vw,vwF,sw,St.get,St.look,Fr.get,simprocAttr,-ZA,exists_eq_left',ne_eq,zR,fV,Nd.row,hw])
 have hd2:((j:Int)<(c.length:Int)):=by omega
 have hgj:=uN c hjl;have hnj:=hcv j hjl;obtain⟨⟨px,hpx,hpx2⟩,⟨py,hpy,hpy2⟩⟩:=aN4 hnj;have hsn:f++(c.take (j+1)).map (tC f.length)= f++(c.take j).map (tC f.length)++ [tC f.length (c.getD j nd0)]:=by rw [yB (d:=nd0) hjl,List.map_append,<- List.append_assoc]; rfl
 generalize c.getD j nd0=p at hgj hnj hpx hpy hsn;have hwj:IntKind.i64.wrap ((j:Int)+ 1)= ((j+1:Nat):Int):=wrap_i64 (by omega);have hl2:(f++(c.take j).map (tC f.length)).length<=1000:=by rw [List.length_append,List.length_map,List.length_take]; omega
 generalize f++(c.take j).map (tC f.length)= f1 at hsn hl2;have hwx:IntKind.i64.wrap (p.x+(f.length:Int))= p.x+(f.length:Int):=wrap_i64 (by omega);have hwy:IntKind.i64.wrap (p.y+(f.length:Int))= p.y+(f.length:Int):=wrap_i64 (by omega);simp only [simprocAttr,-ZA,↓zU,↓zD,zV,zT,zW,hd2,xJ,hgj,Nd.row]
 (repeat refine sd ?_)
 refine .go (cq (cW p.op)) ?_;have es:tC f.length p=⟨p.op,p.i,p.e,p.g,if (xZ p.op).1.x=true then p.x+f.length else p.x,if (xZ p.op).1.y=true then p.y+f.length else p.y⟩:=rfl;cases hux:(xZ p.op).1.x <;> cases huy:(xZ p.op).1.y <;> rw [hux,huy] at es
 all_goals
  simp only [simprocAttr,-ZA,↓zU,↓zD,zV,zT,zW,Use.row,hux,huy,hwx,hwy,aSj,xJ,List.length_append,List.length_singleton]
  (repeat refine sd ?_)
  refine⟨j+1,by omega,?_,by omega⟩;rw [hsn,es]
  (refine xI.ren [(1,4)] [1,0] (by simp) (by simp) (by decide) ?_; simp only [yQ,vwL,vw,vwF,sw,St.get,St.look,Fr.get,simprocAttr,-ZA,exists_eq_left',ne_eq,zR,fV,hwj,Nd.row,Bool.false_eq_true,if_false,if_true])
section
open Rs Fm
namespace Fm
def aAt (f:List Nd):List Nd:=nV ⟨4,0,0,0,0,0⟩ [f]
def bZ1 (f g:List Nd):List Nd:=nV ⟨5,0,0,0,0,0⟩ [f,g]
def aYc (a:Int) (f:List Nd):List Nd:=nV ⟨9,a,0,0,0,0⟩ [f]
def qC (i:Int):List Nd:=nV ⟨3,i,0,0,0,0⟩ []
end Fm
theorem aFl (x:Nd):yV Tryz.prog 91 [.agg x.row,.xH] (.sl 6 (ndR (nV x []))):= xX.bWc (σ:=St0) (objs':=[]) (fun _=>False) (aO x [] (by simp)) ⟨.pure (by simp [D.xG,D.xU,Nd.row]),.nil 1,trivial⟩ (fun k o hk=>by cases hk)
theorem bVd (f:List Nd):yV Tryz.prog 35 [.sl 6 (ndR f)] (.sl 6 (ndR (aAt f))):=by
 refine xX.xP mixed Tryz.func35 k35 (by simp) fun hf=>?_;simp only [simprocAttr,-ZA,↓zU,↓zD,zV,zT,zW]
 (repeat refine sd ?_)
 refine .go (xX.yN (aO ⟨4,0,0,0,0,0⟩ [f] (by simp)) (by simp [D.xU,D.xG,Nd.row,nl])) ?_;simp only [simprocAttr,-ZA,↓zU,↓zD,zV,zT,zW];exact .same
theorem bZj (a:Int) (f:List Nd):yV Tryz.prog 33 [.int .i64 a,.sl 6 (ndR f)] (.sl 6 (ndR (aYc a f))):=by
 refine xX.xP mixed Tryz.func33 k33 (by simp) fun hf=>?_;simp only [simprocAttr,-ZA,↓zU,↓zD,zV,zT,zW]
 (repeat refine sd ?_)
 refine .go (xX.yN (aO ⟨9,a,0,0,0,0⟩ [f] (by simp)) (by simp [D.xU,D.xG,Nd.row,nl])) ?_;simp only [simprocAttr,-ZA,↓zU,↓zD,zV,zT,zW];exact .same
theorem bZl (i:Int):yV Tryz.prog 34 [.int .i64 i] (.sl 6 (ndR (qC i))):=by
 refine xX.xP mixed Tryz.func34 k34 (by simp) fun hf=>?_;simp only [simprocAttr,-ZA,↓zU,↓zD,zV,zT,zW]
 (repeat refine sd ?_)
 refine .go (xX.yN (aFl ⟨3,i,0,0,0,0⟩) (by simp [D.xU,D.xG,Nd.row])) ?_;simp only [simprocAttr,-ZA,↓zU,↓zD,zV,zT,zW];exact .same
end
section
open Rs Fm
namespace Fm
theorem aMa (a b c d e f:Int):cT [.int .i64 a,.int .i64 b,.int .i64 c,.int .i64 d,.int .i64 e,.int .i64 f]=some [a,b,c,d,e,f]:=rfl
theorem mC {α:Type} [DecidableEq α] {a b:List α} {k:Nat} {d:α} (ha:k<a.length) (hb:k<b.length):decide (a.drop k=b.drop k)= (decide (a.getD k d=b.getD k d)&& decide (a.drop (k+1)= b.drop (k+1))):=by rw [drop_cons (d:=d) ha,drop_cons (d:=d) hb,Bool.eq_iff_iff];simp
end Fm
end
open Rs Fm
namespace Fm
end Fm
open Rs Fm
namespace Fm
theorem uV (op:Int):op=1\/op=2\/op=3\/op=4\/op=5\/op=6\/op=7\/op=8\/op=9\/op=10\/op=11\/op=12\/op=13\/op=14\/op=15\/op=16\/op=17\/op=18\/op=19\/op=20\/op=21\/op<1\/21<op:=by omega
theorem wV {op:Int} (h:op<1\/21<op):xZ op=(tF,false):=if_pos h
theorem aF6 (op:Int):(xZ op).1.x=(decide (4<=op)&& decide (op<=21)):=by
 rcases uV op with rfl | rfl | rfl | rfl | rfl | rfl | rfl | rfl | rfl | rfl | rfl | rfl | rfl | rfl | rfl | rfl | rfl | rfl | rfl | rfl | rfl | h | h
 rotate_right 2
 ·rw [wV (.inl h),decide_eq_false (by omega)]; rfl
 ·rw [wV (.inr h),decide_eq_false (show ¬ op<=21 by omega),Bool.and_false]; rfl
 all_goals rfl
theorem bX3 (op:Int):(xZ op).1.gr=(decide (11<=op)&& decide (op<=13)):=by
 rcases uV op with rfl | rfl | rfl | rfl | rfl | rfl | rfl | rfl | rfl | rfl | rfl | rfl | rfl | rfl | rfl | rfl | rfl | rfl | rfl | rfl | rfl | h | h
 rotate_right 2
 ·rw [wV (.inl h),decide_eq_false (by omega)]; rfl
 ·rw [wV (.inr h),decide_eq_false (show ¬ op<=13 by omega),Bool.and_false]; rfl
 all_goals rfl
theorem aNn (op:Int):(op==3)= (xZ op).1.fa:=by
 rcases uV op with rfl | rfl | rfl | rfl | rfl | rfl | rfl | rfl | rfl | rfl | rfl | rfl | rfl | rfl | rfl | rfl | rfl | rfl | rfl | rfl | rfl | h | h
 rotate_right 2
 ·rw [wV (.inl h)]; simp [tF]; omega
 ·rw [wV (.inr h)]; simp [tF]; omega
 all_goals rfl
theorem aDz (op:Int):(op==17)= (xZ op).1.ev:=by
 rcases uV op with rfl | rfl | rfl | rfl | rfl | rfl | rfl | rfl | rfl | rfl | rfl | rfl | rfl | rfl | rfl | rfl | rfl | rfl | rfl | rfl | rfl | h | h
 rotate_right 2
 ·rw [wV (.inl h)]; simp [tF]; omega
 ·rw [wV (.inr h)]; simp [tF]; omega
 all_goals rfl
theorem aDy {op:Int} (h1:¬ op<1) (h2:¬ 21<op):(xZ op).2=true:=by
 rcases uV op with rfl | rfl | rfl | rfl | rfl | rfl | rfl | rfl | rfl | rfl | rfl | rfl | rfl | rfl | rfl | rfl | rfl | rfl | rfl | rfl | rfl | h | h
 rotate_right 2
 ·omega
 ·omega
 all_goals rfl
theorem sP {m:Nd->Nat}:∀ {l:List Nd},yD m l=0 ↔ ∀ p ∈ l,m p=0:=by
 intro l
 have key:∀ (l:List Nd) (a:Nat),l.foldl (fun a p=>a ||| m p) a=0 ↔ a=0/\∀ p ∈ l,m p=0:=by
  intro l
  induction l with
  | nil=>simp
  | cons p r ih=>
   intro a;simp only [List.foldl_cons,ih,List.mem_cons,forall_eq_or_imp];rw [Nat.or_eq_zero_iff]
   constructor
   ·rintro ⟨⟨h1,h2⟩,h3⟩; exact⟨h1,h2,h3⟩
   ·rintro ⟨h1,h2,h3⟩; exact⟨⟨h1,h2⟩,h3⟩
 rw [yD,key];simp
end Fm
end Go.Pd
