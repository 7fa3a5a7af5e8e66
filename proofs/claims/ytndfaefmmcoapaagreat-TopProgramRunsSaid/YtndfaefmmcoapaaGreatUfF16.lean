/- Part F16. -/
import Derived.Test.YtndfaefmmcoapaaGreatUfX9
set_option linter.unusedSectionVars false
set_option linter.unusedVariables false
set_option linter.unusedSimpArgs false
set_option linter.defProp false
set_option maxRecDepth 20000
set_option maxHeartbeats 1000000
open Go.Proofs.Tryz
open Bool renaming not_false->γ,not_true->δ,or_eq_false_iff->ε,true_and->ζ,and_eq_true->η
open List renaming getD_eq_getElem?_getD->θ,length_append->κ,length_singleton->μ,getElem?_append_left->ν,getElem?_eq_getElem->ξ,drop_eq_nil_of_le->ο,length_map->π,mem_of_mem_take->τ
open Nat renaming zero_le->υ,le_refl->χ,pow_le_pow_right->ω,or_lt_two_pow->Aa
open Int renaming toNat_of_nonneg->Ab,eq_ofNat_of_zero_le->Ac,toNat_natCast->Ad
open Option renaming getD_some->Ae,map_some->Af
open BitVec renaming ofInt_natCast->Ag,toNat_ofNat->Ah
namespace Go.Pd
open Go Go.Proofs
open BitVec renaming isValue -> ZA
open Rs Fm
theorem jw {a b:Nat} (ha:a<2 ^ 62) (hb:b<2 ^ 62):tS .or .i64 (a:Int) (b:Int)= ((a ||| b:Nat):Int):=by show IntKind.i64.wrap ((BitVec.ofInt 64 (a:Int) ||| BitVec.ofInt 64 (b:Int)).toNat:Int)= _;rw [Ag,Ag,BitVec.toNat_or,Ah,Ah,Nat.mod_eq_of_lt (by omega),Nat.mod_eq_of_lt (by omega)];have:=Aa ha hb;exact wrap_i64 (by omega)
namespace Fm
def yA (m:Nd->Nat) (l:List Nd):Nat:=l.foldl (λa p=>a ||| m p) 0
theorem lK (m:Nd->Nat) (l:List Nd) (p:Nd):yA m (l ++ [p])= yA m l ||| m p:=by simp [yA]
theorem nI {m:Nd->Nat} {l:List Nd} (h:∀ p ∈ l,m p<4096):yA m l<2 ^ 12:=by
 have key:∀ (l:List Nd) (a:Nat),a<2 ^ 12->(∀ p ∈ l,m p<4096)->l.foldl (λa p=>a ||| m p) a<2 ^ 12:=by
  intro l
  induction l with
  | nil=>intro a ha _; exact ha
  | cons p r ih=>intro a ha h; exact ih _ (Aa ha (h p (by simp))) λq hq=>h q (by simp [hq])
 exact key l 0 (by decide) h
end Fm
theorem bp {f:List Nd} {g:FuncId} {m:Nd->Nat} (hm:∀ p ∈ xE f,m p<4096) (h:∀ p ∈ xE f,yW prog g [.agg p.row,.agg (xW p.op).1.row] (.int .i64 (m p))) (hlen:(xE f).length<=1000) :
  yW prog 111 [.sl 6 (zG f),.fn g []] (.int .i64 (yA m (xE f))):=by
 refine xY.xQ mixed func111 Hm (by simp) λhf=>?_;simp only [simprocAttr,-ZA,↓zU,↓zD,zV,zT,zW];refine .go (cr (eE f)) ?_;generalize xE f=l at hm h hlen;simp only [simprocAttr,-ZA,↓zU,↓zD,zV,zT,zW,xI]
 refine xO (λk:Nat=>[(13,.int .i64 k),(12,.int .i64 l.length),(11,.sl 6 (zG l)),(5,.int .i64 (yA m (l.take k))),(1,.fn g [])]) (λ_=>⟨0,[]⟩) (λk=>k<=l.length) (λk=>l.length-k) 0 (υ _) ?_ ?_
 ·(refine xT.same ?_; simp [xR,Fr.get,yA])
 intro k hk;refine xL mixed ?_;by_cases hh:k<l.length
 case neg=>
  have hd:¬ ((k:Int)<(l.length:Int)):=by omega
  rw [jY (show k=l.length by omega)];simp only [simprocAttr,-ZA,↓zU,↓zD,zV,zT,zW,hd];exact .same
 have hd:((k:Int)<(l.length:Int)):=by omega
 have hs:yA m (l.take (k+1))= yA m (l.take k) ||| m (l.getD k wK):=by rw [vW (d:=wK) hh,lK]
 have hg:=sX l hh;have hmem:=xK (d:=wK) hh;have hlt:yA m (l.take k)<2 ^ 12:=nI λp hp=>hm p (τ hp);generalize l.getD k wK=p at hs hg hmem;have hmp:=hm p hmem;simp only [simprocAttr,-ZA,↓zU,↓zD,zV,zT,zW,hd,xI,hg,Nd.row]
 (repeat refine sd ?_)
 refine .go (cq (xj p.op)) ?_;simp only [simprocAttr,-ZA,↓zU,↓zD,zV,zT,zW,ud.row]
 (repeat refine sd ?_)
 refine .go (xY.zP (h p hmem) (by simp [D.xP,D.xD,Nd.row,ud.row])) ?_;simp only [simprocAttr,-ZA,↓zU,↓zD,zV,zT,zW,jw (show yA m (l.take k)<2 ^ 62 by omega) (show m p<2 ^ 62 by omega)];refine⟨k+1,by omega,?_,by omega⟩;rw [hs]
 (refine xT.view (λk=>k) (by simp) (by simp) ?_ (by simp [stays]) (by simp [rS]); simp [YO,vw,uR,Fr.get])
 exact wrap_i64 (by omega)
open Rs Fm
namespace Fm
theorem fF (op:Int):0<=(xW op).1.fr/\(xW op).1.fr<=256:=by
 have hc:op=1\/op=2\/op=3\/op=4\/op=5\/op=6\/op=7\/op=8\/op=9\/op=10\/op=11\/op=12\/op=13\/op=14\/op=15\/op=16\/op=17\/op=18\/op=19\/op=20\/op=21\/(op<1\/21<op):=by omega
 rcases hc with rfl | rfl | rfl | rfl | rfl | rfl | rfl | rfl | rfl | rfl | rfl | rfl | rfl | rfl | rfl | rfl | rfl | rfl | rfl | rfl | rfl | hc
 rotate_right
 ·rw [show xW op=(rY,false) from if_pos hc]; exact⟨by decide,by decide⟩
 all_goals simp [xW,rY]
def sN (p:Nd):Nat:=(xW p.op).1.fr.toNat
def zH (f:List Nd):Nat:=yA sN (xE f)
theorem cB {f:List Nd} {i:Nat} (hc:∀ k,k<f.length->yM (f.getD k wK) k=0) (hi:i<f.length):(tY f i).length<=f.length:=(oX hc (i+1) (i:=i) (s:=⟨[],[]⟩) (by omega) hi ⟨χ _,by simp,λp hp=>by cases hp⟩).1.len
theorem nS (f:List Nd) (i:Int):(nU f i).length<=200:=by
 unfold nU
 by_cases h:yZ f≠0\/i<0\/(f.length:Int)<=i
 ·rw [if_pos h]; simp
 ·rw [if_neg h];obtain⟨c1,c2,c3⟩:=vH (f:=f) (by omega);have:=cB c3 (i:=i.toNat) (by omega);omega
end Fm
theorem ug (f:List Nd):yW prog 53 [.sl 6 (zG f)] (.int .i64 (zH f)):=by
 refine xY.xQ mixed func53 Et (by simp) λhf=>?_;simp only [simprocAttr,-ZA,↓zU,↓zD,zV,zT,zW]
 refine .go (xY.zP (bp (m:=sN) (λp _=>by have:=fF p.op; unfold sN; omega) (λp _=>?_) (by have:=nS f ((f.length:Int)-1); unfold xE; omega)) rfl) ?_
 ·have h:=Nl p (xW p.op).1;have:=fF p.op;rw [show ((sN p:Nat):Int)= (xW p.op).1.fr from Ab this.1];exact h
 simp only [simprocAttr,-ZA,↓zU,↓zD,zV,zT,zW];exact .same
open Rs Fm
namespace Fm
def kT (m:Nat) (n:Int):Bool:=decide (31<=n) || decide (m / 2 ^ n.toNat=0)
end Fm
theorem Sd (m:Nat) (n:Int):yW prog 146 [.int .i64 m,.int .i64 n] (.bool (kT m n)):=by
 refine xY.xQ mixed func146 IE (by simp) λhf=>?_
 by_cases h1:31<=n
 ·simp only [simprocAttr,-ZA,↓zU,↓zD,zV,zT,zW,h1];exact .drop (by simp) (by simp [vw,kT,h1])
 have e:max n 0=((n.toNat:Nat):Int):=by omega
 have e2:max 0 n=((n.toNat:Nat):Int):=by omega
 have hb:(((m / 2 ^ n.toNat:Nat):Int)== 0)= decide (m / 2 ^ n.toNat=0):=by rw [Bool.eq_iff_iff,beq_iff_eq,decide_eq_true_iff]; omega
 simp only [simprocAttr,-ZA,↓zU,↓zD,zV,zT,zW,h1,Lk,e,e2,gJ m n.toNat (by omega),hb]
 (repeat refine sd ?_)
 exact .drop (by simp) (by simp [vw,kT,h1])
open Rs Fm
namespace Fm
theorem wN {p:Nd} {k:Int}:yM p k=0 ↔ (xW p.op).2=true/\yU (xW p.op).1.x p.x k=true/\yU (xW p.op).1.y p.y k=true /\
  ((!((xW p.op).1.fa || (xW p.op).1.ag || (xW p.op).1.ev)&& decide (p.i≠0)) || (!(xW p.op).1.ev&&decide (p.e≠0)) || (!(xW p.op).1.gr&&decide (p.g≠0)))= false /\
  (xG (xW p.op).1.fa p.i 0 7 || xG (xW p.op).1.ag p.i 0 3 || xG (xW p.op).1.ev p.i 0 7 || xG (xW p.op).1.ev p.e 0 7 || xG (xW p.op).1.gr p.g 1 15)= false:=by
 unfold yM
 cases h1:(xW p.op).2
 ·simp
 cases h2:yU (xW p.op).1.x p.x k
 ·simp
 cases h3:yU (xW p.op).1.y p.y k
 ·simp
 generalize ((!((xW p.op).1.fa || (xW p.op).1.ag || (xW p.op).1.ev)&& decide (p.i≠0)) || (!(xW p.op).1.ev&&decide (p.e≠0)) || (!(xW p.op).1.gr&&decide (p.g≠0)))= c;generalize (xG (xW p.op).1.fa p.i 0 7 || xG (xW p.op).1.ag p.i 0 3 || xG (xW p.op).1.ev p.i 0 7 || xG (xW p.op).1.ev p.e 0 7 || xG (xW p.op).1.gr p.g 1 15)= d;cases c <;> cases d <;> simp
theorem nF {p:Nd} {a b k k':Int} (h:yM p k=0) (ha:if (xW p.op).1.x=true then 0<=a/\a<k' else a=p.x) (hb:if (xW p.op).1.y=true then 0<=b/\b<k' else b=p.y):yM ⟨p.op,p.i,p.e,p.g,a,b⟩ k'=0:=by
 rw [wN] at h ⊢;obtain⟨h1,h2,h3,h4,h5⟩:=h
 refine⟨h1,?_,?_,h4,h5⟩
 ·simp only
  cases hx:(xW p.op).1.x
  ·rw [hx] at ha h2;rw [if_neg (by simp)] at ha;rw [ha]; exact h2
  ·rw [hx,if_pos rfl] at ha;simp [yU,ha]
 ·simp only
  cases hx:(xW p.op).1.y
  ·rw [hx] at hb h3;rw [if_neg (by simp)] at hb;rw [hb]; exact h3
  ·rw [hx,if_pos rfl] at hb;simp [yU,hb]
structure VF (s : CS) : Prop where
 nd:∀ k,k<s.out.length->yM (s.out.getD k wK) k=0
 dn:∀ z k:Int,wL z s.done=some k->0<=k/\k<s.out.length
theorem Vu {q:Nd}:∀ {l:List Nd} {k j:Nat},sG q l k=some j->k<=j/\j<k+l.length
 | [],_,_,h=>by cases h
 | p :: r,k,j,h=>by
  unfold sG at h
  by_cases e:q=p
  ·rw [if_pos e] at h; cases h; simp
  ·rw [if_neg e] at h;have:=Vu h;simp only [List.length_cons]; omega
theorem LW {s:CS} {i:Nat} {q:Nd} (h:VF s) (hq:yM q s.out.length=0):VF (kL i q s).2/\0<=(kL i q s).1/\(kL i q s).1<(kL i q s).2.out.length/\s.out.length<=(kL i q s).2.out.length:=by
 unfold kL
 cases he:sG q s.out 0 with
 | some k=>
  have hk:=Vu he;refine⟨⟨h.nd,λz j hz=>?_⟩,by simp,by simp only; omega,χ _⟩;simp only at hz;rw [rU] at hz
  by_cases e:z=i
  ·rw [if_pos e] at hz; cases hz; simp only; omega
  ·rw [if_neg e] at hz; exact h.dn z j hz
 | none=>
  refine⟨⟨λk hk=>?_,λz j hz=>?_⟩,by simp,by simp; omega,by simp⟩
  ·simp only [κ,μ] at hk
   by_cases hl:k<s.out.length
   ·have:=h.nd k hl;simp only [θ] at this ⊢
    rwa [ν hl]
   ·obtain rfl:k=s.out.length:=by omega
    simpa [θ] using hq
  ·simp only at hz;rw [rU] at hz
   by_cases e:z=i
   ·rw [if_pos e] at hz; cases hz; simp; omega
   ·rw [if_neg e] at hz;have:=h.dn z j hz;simp only [κ,μ]; omega
theorem eK {f:List Nd} (hc:∀ k,k<f.length->yM (f.getD k wK) k=0):∀ (n:Nat) {i:Nat} {s:CS},i<n->i<f.length->VF s ->
  VF (xF f n i s).2/\0<=(xF f n i s).1/\(xF f n i s).1<(xF f n i s).2.out.length/\s.out.length<=(xF f n i s).2.out.length
 | 0,i,s,h,_,_=>by omega
 | n + 1,i,s,h,hi,hs=>by
  cases hu:wL i s.done with
  | some k=>rw [xF,hu]; exact⟨hs,(hs.dn _ _ hu).1,(hs.dn _ _ hu).2,χ _⟩
  | none=>
   rw [mF hu];have hp:=hc i hi;obtain⟨ox,oy⟩:=mQ hp;simp only;generalize f.getD i wK=p at ox oy hp
   have ha:VF (if (xW p.op).1.x=true then xF f n p.x.toNat s else(p.x,s)).2/\(if (xW p.op).1.x=true then 0<=(if (xW p.op).1.x=true then xF f n p.x.toNat s else(p.x,s)).1/\(if (xW p.op).1.x=true then xF f n p.x.toNat s else(p.x,s)).1<(if (xW p.op).1.x=true then xF f n p.x.toNat s else(p.x,s)).2.out.length else(if (xW p.op).1.x=true then xF f n p.x.toNat s else(p.x,s)).1=p.x)/\ s.out.length<=(if (xW p.op).1.x=true then xF f n p.x.toNat s else(p.x,s)).2.out.length:=by
    by_cases hx:(xW p.op).1.x=true
    ·simp only [if_pos hx];have:=ox hx;obtain⟨b1,b2,b3,b4⟩:=eK hc n (i:=p.x.toNat) (s:=s) (by omega) (by omega) hs;exact⟨b1,⟨b2,b3⟩,b4⟩
    ·simp only [if_neg hx]; exact⟨hs,trivial,χ _⟩
   generalize (if (xW p.op).1.x=true then xF f n p.x.toNat s else(p.x,s))= a at ha;obtain⟨a1,a2,a3⟩:=ha
   have hb:VF (if (xW p.op).1.y=true then xF f n p.y.toNat a.2 else(p.y,a.2)).2/\(if (xW p.op).1.y=true then 0<=(if (xW p.op).1.y=true then xF f n p.y.toNat a.2 else(p.y,a.2)).1/\(if (xW p.op).1.y=true then xF f n p.y.toNat a.2 else(p.y,a.2)).1<(if (xW p.op).1.y=true then xF f n p.y.toNat a.2 else(p.y,a.2)).2.out.length else(if (xW p.op).1.y=true then xF f n p.y.toNat a.2 else(p.y,a.2)).1=p.y)/\ a.2.out.length<=(if (xW p.op).1.y=true then xF f n p.y.toNat a.2 else(p.y,a.2)).2.out.length:=by
    by_cases hy:(xW p.op).1.y=true
    ·simp only [if_pos hy];have:=oy hy;obtain⟨b1,b2,b3,b4⟩:=eK hc n (i:=p.y.toNat) (s:=a.2) (by omega) (by omega) a1;exact⟨b1,⟨b2,b3⟩,b4⟩
    ·simp only [if_neg hy]; exact⟨a1,trivial,χ _⟩
   generalize (if (xW p.op).1.y=true then xF f n p.y.toNat a.2 else(p.y,a.2))= b at hb;obtain⟨b1,b2,b3⟩:=hb
   have hq:yM ⟨p.op,p.i,p.e,p.g,a.1,b.1⟩ b.2.out.length=0:=by
    refine nF hp ?_ b2
    split
    ·rename_i hx;rw [if_pos hx] at a2; omega
    ·rename_i hx;rw [if_neg hx] at a2; exact a2
   obtain⟨e1,e2,e3,e4⟩:=LW (i:=i) b1 hq;exact⟨e1,e2,e3,by omega⟩
theorem jB (f:List Nd) (i:Int):∀ k,k<(nU f i).length->yM ((nU f i).getD k wK) k=0:=by
 unfold nU
 by_cases h:yZ f≠0\/i<0\/(f.length:Int)<=i
 ·rw [if_pos h]; intro k hk; simp at hk
 ·rw [if_neg h];obtain⟨c1,c2,c3⟩:=vH (f:=f) (by omega);exact(eK c3 (i.toNat+1) (i:=i.toNat) (s:=⟨[],[]⟩) (by omega) (by omega) ⟨λk hk=>by simp at hk,λz k hz=>by cases hz⟩).1.nd
theorem M7 {f:List Nd} {i:Nat} (hc:yZ f=0) (hi:i<f.length):0<(nU f i).length:=by obtain⟨c1,c2,c3⟩:=vH hc;unfold nU;rw [if_neg (by omega)];have:=(eK c3 ((i:Int).toNat+1) (i:=(i:Int).toNat) (s:=⟨[],[]⟩) (by omega) (by omega) ⟨λk hk=>by simp at hk,λz k hz=>by cases hz⟩).2;unfold tY;omega
theorem oU {f:List Nd} (hc:yZ f=0):0<(xE f).length:=by
 have h1:=(vH hc).1;have:0<f.length:=List.length_pos_iff.2 h1;have:=M7 (i:=f.length-1) hc (by omega);unfold xE
 rwa [show ((f.length:Int)-1)= ((f.length-1:Nat):Int) by omega]
theorem kZ {l:List Nd} (h:∀ k,k<l.length->yM (l.getD k wK) k=0) {p:Nd} (hp:p ∈ l):∃ k:Nat,yM p k=0:=by
 obtain⟨k,hk,rfl⟩:=List.getElem_of_mem hp;refine⟨k,?_⟩;have:=h k hk
 rwa [θ,ξ hk] at this
theorem lQ {p:Nd} {k:Int} (h:yM p k=0) (hf:(xW p.op).1.fa=true):0<=p.i/\p.i<=7:=by have:=(wN.1 h).2.2.2.2;simp only [xG,hf,ε,ζ,decide_eq_false_iff_not] at this;omega
theorem uJ {p:Nd} {k:Int} (h:yM p k=0) (hf:(xW p.op).1.ag=true):0<=p.i/\p.i<=3:=by have:=(wN.1 h).2.2.2.2;simp only [xG,hf,ε,ζ,decide_eq_false_iff_not] at this;omega
theorem jT {p:Nd} {k:Int} (h:yM p k=0):0<=p.g/\p.g<=15:=by
 have h1:=(wN.1 h).2.2.2.2;have h2:=(wN.1 h).2.2.2.1
 cases hg:(xW p.op).1.gr
 ·simp only [hg,ε,γ,ζ,decide_eq_false_iff_not] at h2;omega
 ·simp only [xG,hg,ε,ζ,decide_eq_false_iff_not] at h1;omega
def vX (p:Nd):Nat:=if (xW p.op).1.ag=true then 2 ^ p.i.toNat else p.g.toNat
def rK (p:Nd):Nat:=if (xW p.op).1.fa=true then 2 ^ p.i.toNat else 0
def rO (f:List Nd):Nat:=yA vX (xE f)
def kU (f:List Nd):Nat:=yA rK (xE f)
theorem dw {p:Nd} {k:Int} (h:yM p k=0):vX p<4096:=by
 unfold vX
 split
 ·rename_i hf;have:=uJ h hf;have:2 ^ p.i.toNat<=2 ^ 3:=ω (by decide) (by omega);omega
 ·have:=jT h;omega
theorem XT {p:Nd} {k:Int} (h:yM p k=0):rK p<4096:=by
 unfold rK
 split
 ·rename_i hf;have:=lQ h hf;have:2 ^ p.i.toNat<=2 ^ 7:=ω (by decide) (by omega);omega
 ·omega
def tU (f:List Nd) (a b:Int):Bool:=decide (yZ f=0)&& kT (rO f) a&&kT (kU f) b
end Fm
theorem Pc (f:List Nd):yW prog 147 [.sl 6 (zG f)] (.int .i64 (rO f)):=by
 refine xY.xQ mixed func147 IF (by simp) λhf=>?_;simp only [simprocAttr,-ZA,↓zU,↓zD,zV,zT,zW]
 refine .go (xY.zP (bp (m:=vX) (λp hp=>?_) (λp hp=>?_) (by have:=nS f ((f.length:Int)-1); unfold xE; omega)) rfl) ?_
 ·obtain⟨k,hk⟩:=kZ (jB f _) hp;exact dw hk
 ·obtain⟨k,hk⟩:=kZ (jB f _) hp;have h:=Pf p (xW p.op).1 (λha=>by have:=uJ hk ha; omega)
  rw [show ((vX p:Nat):Int)= (if (xW p.op).1.ag=true then((2 ^ p.i.toNat:Nat):Int) else p.g) by
   unfold vX
   split
   ·rfl
   ·have:=jT hk; omega]
  exact h
 simp only [simprocAttr,-ZA,↓zU,↓zD,zV,zT,zW];exact .same
theorem NK (f:List Nd):yW prog 148 [.sl 6 (zG f)] (.int .i64 (kU f)):=by
 refine xY.xQ mixed func148 IG (by simp) λhf=>?_;simp only [simprocAttr,-ZA,↓zU,↓zD,zV,zT,zW]
 refine .go (xY.zP (bp (m:=rK) (λp hp=>?_) (λp hp=>?_) (by have:=nS f ((f.length:Int)-1); unfold xE; omega)) rfl) ?_
 ·obtain⟨k,hk⟩:=kZ (jB f _) hp;exact XT hk
 ·obtain⟨k,hk⟩:=kZ (jB f _) hp;have h:=Nk p (xW p.op).1 (λha=>by have:=lQ hk ha; omega)
  rw [show ((rK p:Nat):Int)= (if (xW p.op).1.fa=true then((2 ^ p.i.toNat:Nat):Int) else 0) by unfold rK;split <;> rfl]
  exact h
 simp only [simprocAttr,-ZA,↓zU,↓zD,zV,zT,zW];exact .same
theorem cd (f:List Nd) (a b:Int):yW prog 101 [.sl 6 (zG f),.int .i64 a,.int .i64 b] (.bool (tU f a b)):=by
 refine xY.xQ mixed func101 Hg (by simp) λhf=>?_;simp only [simprocAttr,-ZA,↓zU,↓zD,zV,zT,zW];refine .go (cr (mM f)) ?_;by_cases hc:yZ f=0
 case neg=>
  have e:(yZ f==0)= false:=by simpa using hc
  simp only [simprocAttr,-ZA,↓zU,↓zD,zV,zT,zW,e];exact .drop (by simp) (by simp [vw,tU,hc])
 have e:(yZ f==0)= true:=by simpa using hc
 simp only [simprocAttr,-ZA,↓zU,↓zD,zV,zT,zW,e];refine .go (cr (Pc f)) ?_;simp only [simprocAttr,-ZA,↓zU,↓zD,zV,zT,zW];refine .go (xY.zP (Sd (rO f) a) rfl) ?_
 cases hb:kT (rO f) a
 ·simp only [simprocAttr,-ZA,↓zU,↓zD,zV,zT,zW];exact .drop (by simp) (by simp [vw,tU,hb])
 simp only [simprocAttr,-ZA,↓zU,↓zD,zV,zT,zW];refine .go (cr (NK f)) ?_;simp only [simprocAttr,-ZA,↓zU,↓zD,zV,zT,zW];refine .go (xY.zP (Sd (kU f) b) rfl) ?_;simp only [simprocAttr,-ZA,↓zU,↓zD,zV,zT,zW];exact .drop (by simp) (by simp [vw,tU,hb,hc])
open Rs Fm
namespace Fm
def rb (l:List Bool):List (List D):=l.map λb=>[.bool b]
theorem rF (l:List Bool):(rb l).length=l.length:=by simp [rb]
theorem Y8 (l:List Bool) {i:Nat} (h:i<l.length):(rb l).getD i [] = [.bool (l.getD i false)]:=by simp [rb,List.getD,h]
theorem sr (l:List Bool) (i:Nat) (b:Bool):(rb l).set i [.bool b]=rb (l.set i b):=by simp [rb,List.map_set]
theorem w8 (n:Nat) (b:Bool):List.replicate n [D.bool b]=rb (List.replicate n b):=by simp [rb]
theorem Oi (l:List Bool):∀ e ∈ rb l,D.xP e=true:=by intro e he;simp only [rb,List.mem_map] at he;obtain⟨n,_,rfl⟩:=he;rfl
theorem rW (l:List Bool):tK (rb l)= True:=eq_true (Oi l)
theorem eB (a b:D):List.set [a] 0 b = [b]:=rfl
theorem W5 {p:Nd} {k:Nat} (h:yM p k=0):(∃ x:Nat,p.x=x/\x<=k)/\ (∃ y:Nat,p.y=y/\y<=k):=by
 obtain⟨_,h2,h3,_⟩:=wN.1 h
 refine⟨?_,?_⟩
 ·unfold yU at h2
  split at h2
  ·simp only [η,decide_eq_true_eq] at h2;exact⟨p.x.toNat,by omega,by omega⟩
  ·simp only [decide_eq_true_eq] at h2;exact⟨0,by omega,by omega⟩
 ·unfold yU at h3
  split at h3
  ·simp only [η,decide_eq_true_eq] at h3;exact⟨p.y.toNat,by omega,by omega⟩
  ·simp only [decide_eq_true_eq] at h3;exact⟨0,by omega,by omega⟩
end Fm
open Rs Fm
namespace Fm
end Fm
open Rs Fm
namespace Fm
def nl (ops:List (List Nd)):List (List D):=ops.map λo=>[.sl 6 (zG o)]
theorem Sq (l:List (List Nd)):(nl l).length=l.length:=by simp [nl]
theorem Lm (l:List (List Nd)) {i:Nat} (h:i<l.length):(nl l).getD i [] = [.sl 6 (zG (l.getD i []))]:=by simp [nl,List.getD,h]
theorem ym (l:List Nd):tK (zG l)= True:=eq_true (aH l)
theorem Xp (l:List Nd) (a b c d e f:Int):zG l ++ [[.int .i64 a,.int .i64 b,.int .i64 c,.int .i64 d,.int .i64 e,.int .i64 f]]=zG (l ++ [⟨a,b,c,d,e,f⟩]):=by simp [zG,Nd.row]
theorem OI : zG [] = []:=rfl
theorem OJ (l:List Nd):∀ e ∈ zG l,e.length=6:=by intro e he;simp only [zG,List.mem_map] at he;obtain⟨p,_,rfl⟩:=he;rfl
def tC (n:Nat) (p:Nd):Nd:=⟨p.op,p.i,p.e,p.g,if (xW p.op).1.x=true then p.x+n else p.x,if (xW p.op).1.y=true then p.y+n else p.y⟩
def wP (f:List Nd):Prop:=∀ k,k<f.length->yM (f.getD k wK) k=0
theorem Rc {p:Nd} {k n:Nat} (h:yM p k=0):yM (tC n p) ((n+k:Nat):Int)= 0:=by
 obtain⟨ox,oy⟩:=mQ h
 refine nF h ?_ ?_
 ·split
  ·rename_i hx; have:=ox hx; omega
  ·rfl
 ·split
  ·rename_i hy; have:=oy hy; omega
  ·rfl
theorem Zp {f c:List Nd} (hf:wP f) (hc:wP c):wP (f++c.map (tC f.length)):=by
 intro k hk;simp only [κ,π] at hk;simp only [θ]
 by_cases h:k<f.length
 ·rw [ν h];have:=hf k h
  rwa [θ] at this
 ·rw [List.getElem?_append_right (by omega),List.getElem?_map];have hk':k-f.length<c.length:=by omega
  have h1:=hc (k-f.length) hk';rw [θ,ξ hk',Ae] at h1;rw [ξ hk',Af,Ae];have:=Rc (n:=f.length) h1
  rwa [show f.length+(k-f.length)= k by omega] at this
theorem lL {f:List Nd} {p:Nd} (hf:wP f) (hp:yM p f.length=0):wP (f ++ [p]):=by
 intro k hk;simp only [κ,μ] at hk;simp only [θ]
 by_cases h:k<f.length
 ·rw [ν h];have:=hf k h
  rwa [θ] at this
 ·obtain rfl:k=f.length:=by omega
  simpa using hp
theorem mY (o:List Nd):wP (xE o):=jB o _
def Wf (k:Nat) (x:Nd) (v:Int):Nd:=if k=0 then⟨x.op,x.i,x.e,x.g,v,x.y⟩ else⟨x.op,x.i,x.e,x.g,x.x,v⟩
def iY : Nat->List (List Nd)->List Nd->Nd->Option (List Nd × Nd)
 | _,[],f,x=>some (f,x)
 | k,o :: r,f,x=>if yZ o≠0 then none else
  iY (k+1) r (f++(xE o).map (tC f.length)) (Wf k x (((f++(xE o).map (tC f.length)).length:Int)-1))
def pC (x:Nd) (ops:List (List Nd)):List Nd:=match iY 0 ops [] x with
 | none=>[]
 | some (f,x')=>if yM x' f.length≠0 then [] else if 200<(tY (f ++ [x']) f.length).length then [] else tY (f ++ [x']) f.length
end Fm
theorem uj (x:Nd) (ops:List (List Nd)) (ho:ops.length<=2):yW prog 91 [.agg x.row,.sl 1 (nl ops)] (.sl 6 (zG (pC x ops))):=by
 refine xY.xQ mixed func91 FJ (by simp) λhf=>?_;simp only [simprocAttr,-ZA,↓zU,↓zD,zV,zT,zW,Sq,Nd.row]
 (repeat refine sd ?_)
 refine xO (λa:Nat × List Nd × Nd=>[(16,.int .i64 a.1),(15,.int .i64 ops.length),(14,.sl 1 (nl ops)),(5,xA 1 6 (zG a.2.1)),(2,.ref 0 6 0 0)]) (λa=>⟨2,yV 1 6 (zG a.2.1)++ [(0,⟨6,[a.2.2.row]⟩)]⟩)
  (λa=>a.1<=ops.length/\wP a.2.1/\a.2.1.length<=200*a.1/\iY 0 ops [] x=iY a.1 (ops.drop a.1) a.2.1 a.2.2) (λa=>ops.length-a.1) (0,[],x) ⟨υ _,λk hk=>by simp at hk,by simp,rfl⟩ ?_ ?_
 ·(refine xT.sZ [] [0] (by simp) (by simp) (by decide) ?_; simp only [yT,zQ,simprocAttr,-ZA,exists_eq_left',ne_eq,zR,OI,vU,vV,List.nil_append,Nd.row])
 rintro ⟨k,f,x1⟩ ⟨hk,hf,hfl,hb⟩;simp only at hk hf hfl hb;refine xL mixed ?_;by_cases h:k<ops.length
 case neg=>
  have hd:¬ ((k:Int)<(ops.length:Int)):=by omega
  rw [ο (by omega),iY] at hb;have eb:pC x ops=if yM x1 f.length≠0 then [] else if 200<(tY (f ++ [x1]) f.length).length then [] else tY (f ++ [x1]) f.length:=by rw [pC,hb]
  rw [eb];simp only [simprocAttr,-ZA,↓zU,↓zD,zV,zT,zW,hd,Nd.row,xI]
  (repeat refine sd ?_)
  refine .go (xY.zP (wh x1 f.length) (by simp [D.xP,D.xD,Nd.row])) ?_;by_cases hn:yM x1 f.length=0
  case neg=>
   have e:(yM x1 f.length != 0)= true:=by simpa using hn
   rw [if_pos hn];simp only [simprocAttr,-ZA,↓zU,↓zD,zV,zT,zW,e];exact .drop (by simp) (by simp [vw,zG])
  have e:(yM x1 f.length != 0)= false:=by simpa using hn
  rw [if_neg (by simpa using hn)];simp only [simprocAttr,-ZA,↓zU,↓zD,zV,zT,zW,e,Nd.row,xI]
  (repeat refine sd ?_)
  have hv:wP (f ++ [x1]):=lL hf hn;have hlen:(f ++ [x1]).length<=900:=by rw [κ,μ]; omega
  have hcall:=xY.MV (σ:=⟨3,yV 2 6 (zG (f ++ [x1]))++ [(0,⟨6,[x1.row]⟩)]⟩) (args:=[xA 2 6 (zG (f ++ [x1])),.int .i64 f.length]) (objs':=[]) (λ_=>False) (fi (i:=f.length) hv hlen (by simp))
   ⟨Seen.grow (by rw [St.get,yQ,if_pos rfl]; cases vT 6 (zG (f ++ [x1])) <;> rfl) id (by omega) (OJ _) (aH _),.pure rfl,trivial⟩ (λk o hk=>by cases hk)
  rw [Xp];simp only [Nd.row] at hcall;refine .go hcall ?_;generalize tY (f ++ [x1]) f.length=c
  by_cases hc:200<c.length
  ·have hc':(200:Int)<(c.length:Int):=by omega
   rw [if_pos hc];simp only [simprocAttr,-ZA,↓zU,↓zD,zV,zT,zW,xI,hc'];exact .drop (by simp) (by simp [vw,zG])
  ·have hc':¬ (200:Int)<(c.length:Int):=by omega
   rw [if_neg hc];simp only [simprocAttr,-ZA,↓zU,↓zD,zV,zT,zW,xI,hc'];exact .dv
 have hd:((k:Int)<(ops.length:Int)):=by omega
 have hg:=Lm ops h;rw [drop_cons (d:=[]) h,iY] at hb;generalize ops.getD k []=o at hg hb;have hw:IntKind.i64.wrap ((k:Int)+ 1)= ((k+1:Nat):Int):=wrap_i64 (by omega);simp only [simprocAttr,-ZA,↓zU,↓zD,zV,zT,zW,hd,Sq,hg]
 (repeat refine sd ?_)
 refine .go (cr (mM o)) ?_;by_cases hc:yZ o=0
 case neg=>
  have e:(yZ o != 0)= true:=by simpa using hc
  rw [if_pos hc] at hb;simp only [simprocAttr,-ZA,↓zU,↓zD,zV,zT,zW,e];rw [show pC x ops = [] by rw [pC,hb]];exact .drop (by simp) (by simp [vw,zG])
 have e:(yZ o != 0)= false:=by simpa using hc
 rw [if_neg (by simpa using hc)] at hb;simp only [simprocAttr,-ZA,↓zU,↓zD,zV,zT,zW,e,xI];refine .go (cr (eE o)) ?_;have hcv:=mY o;have hcl:(xE o).length<=200:=nS o _;generalize xE o=c at hb hcv hcl;simp only [simprocAttr,-ZA,↓zU,↓zD,zV,zT,zW,xI]
 refine xO (λj:Nat=>[(29,.int .i64 j),(28,.int .i64 c.length),(27,.sl 6 (zG c)),(16,.int .i64 k),(15,.int .i64 ops.length),(14,.sl 1 (nl ops)),(8,.int .i64 f.length),(6,.int .i64 k),(5,xA 1 6 (zG (f++(c.take j).map (tC f.length)))),(2,.ref 0 6 0 0)]) (λj=>⟨2,yV 1 6 (zG (f++(c.take j).map (tC f.length)))++ [(0,⟨6,[x1.row]⟩)]⟩)
  (λj=>j<=c.length) (λj=>c.length-j) 0 (υ _) ?_ ?_
 ·rw [show f++(c.take 0).map (tC f.length)= f by simp]
  (refine xT.same ?_; simp [xR,Fr.get])
 intro j hj;refine xL mixed ?_;by_cases hjl:j<c.length
 case neg=>
  have hd2:¬ ((j:Int)<(c.length:Int)):=by omega
  rw [jY (show j=c.length by omega)];have hfl2:(f++c.map (tC f.length)).length<=200*(k+1):=by rw [κ,π]; omega
  have hv2:=Zp hf hcv;generalize f++c.map (tC f.length)= f2 at hb hfl2 hv2;have hw2:IntKind.i64.wrap ((f2.length:Int)-1)= (f2.length:Int)-1:=wrap_i64 (by omega)
  by_cases hk0:k=0
  ·have e0:((k:Int)== 0)= true:=by rw [hk0]; rfl
   rw [Wf,if_pos hk0] at hb;simp only [simprocAttr,-ZA,↓zU,↓zD,zV,zT,zW,hd2,e0,xI,hw2,Nd.row]
   (repeat refine sd ?_)
   refine⟨(k+1,f2,⟨x1.op,x1.i,x1.e,x1.g,(f2.length:Int)-1,x1.y⟩),⟨by omega,hv2,hfl2,hb⟩,?_,by simp only; omega⟩
   (refine xT.sZ [] [1,0] (by simp) (by simp) (by decide) ?_; simp only [yT,zQ,simprocAttr,-ZA,exists_eq_left',ne_eq,zR,ym,Nd.row,hw])
  ·have e0:((k:Int)== 0)= false:=by rw [beq_eq_false_iff_ne]; omega
   rw [Wf,if_neg hk0] at hb;simp only [simprocAttr,-ZA,↓zU,↓zD,zV,zT,zW,hd2,e0,xI,hw2,Nd.row]
   (repeat refine sd ?_)
   refine⟨(k+1,f2,⟨x1.op,x1.i,x1.e,x1.g,x1.x,(f2.length:Int)-1⟩),⟨by omega,hv2,hfl2,hb⟩,?_,by simp only; omega⟩
   (refine xT.sZ [] [1,0] (by simp) (by simp) (by decide) ?_; simp only [yT,zQ,simprocAttr,-ZA,exists_eq_left',ne_eq,zR,ym,Nd.row,hw])
 have hd2:((j:Int)<(c.length:Int)):=by omega
 have hgj:=sX c hjl;have hnj:=hcv j hjl;obtain⟨⟨px,hpx,hpx2⟩,⟨py,hpy,hpy2⟩⟩:=W5 hnj;have hsn:f++(c.take (j+1)).map (tC f.length)= f++(c.take j).map (tC f.length)++ [tC f.length (c.getD j wK)]:=by rw [vW (d:=wK) hjl,List.map_append,<- List.append_assoc]; rfl
 generalize c.getD j wK=p at hgj hnj hpx hpy hsn;have hwj:IntKind.i64.wrap ((j:Int)+ 1)= ((j+1:Nat):Int):=wrap_i64 (by omega);have hl2:(f++(c.take j).map (tC f.length)).length<=1000:=by rw [κ,π,List.length_take]; omega
 generalize f++(c.take j).map (tC f.length)= f1 at hsn hl2;have hwx:IntKind.i64.wrap (p.x+(f.length:Int))= p.x+(f.length:Int):=wrap_i64 (by omega);have hwy:IntKind.i64.wrap (p.y+(f.length:Int))= p.y+(f.length:Int):=wrap_i64 (by omega);simp only [simprocAttr,-ZA,↓zU,↓zD,zV,zT,zW,hd2,xI,hgj,Nd.row]
 (repeat refine sd ?_)
 refine .go (cq (xj p.op)) ?_;have es:tC f.length p=⟨p.op,p.i,p.e,p.g,if (xW p.op).1.x=true then p.x+f.length else p.x,if (xW p.op).1.y=true then p.y+f.length else p.y⟩:=rfl;cases hux:(xW p.op).1.x <;> cases huy:(xW p.op).1.y <;> rw [hux,huy] at es
 all_goals
  simp only [simprocAttr,-ZA,↓zU,↓zD,zV,zT,zW,ud.row,hux,huy,hwx,hwy,Xp,xI,κ,μ]
  (repeat refine sd ?_)
  refine⟨j+1,by omega,?_,by omega⟩;rw [hsn,es]
  (refine xT.sZ [(1,4)] [1,0] (by simp) (by simp) (by decide) ?_; simp only [yT,zQ,simprocAttr,-ZA,exists_eq_left',ne_eq,zR,ym,hwj,Nd.row,Bool.false_eq_true,if_false,if_true])
section
open Rs Fm
namespace Fm
def VQ (f:List Nd):List Nd:=pC ⟨4,0,0,0,0,0⟩ [f]
def PK (f g:List Nd):List Nd:=pC ⟨5,0,0,0,0,0⟩ [f,g]
def pS (a:Int) (f:List Nd):List Nd:=pC ⟨9,a,0,0,0,0⟩ [f]
def rZ (i:Int):List Nd:=pC ⟨3,i,0,0,0,0⟩ []
end Fm
theorem Pq (x:Nd):yW prog 91 [.agg x.row,.xJ] (.sl 6 (zG (pC x []))):= xY.MV (σ:=gR) (objs':=[]) (λ_=>False) (uj x [] (by simp)) ⟨.pure (by simp [D.xD,D.xP,Nd.row]),.nil 1,trivial⟩ (λk o hk=>by cases hk)
theorem Jb (f:List Nd):yW prog 35 [.sl 6 (zG f)] (.sl 6 (zG (VQ f))):=by
 refine xY.xQ mixed func35 En (by simp) λhf=>?_;simp only [simprocAttr,-ZA,↓zU,↓zD,zV,zT,zW]
 (repeat refine sd ?_)
 refine .go (xY.zP (uj ⟨4,0,0,0,0,0⟩ [f] (by simp)) (by simp [D.xP,D.xD,Nd.row,nl])) ?_;simp only [simprocAttr,-ZA,↓zU,↓zD,zV,zT,zW];exact .same
theorem Zu (a:Int) (f:List Nd):yW prog 33 [.int .i64 a,.sl 6 (zG f)] (.sl 6 (zG (pS a f))):=by
 refine xY.xQ mixed func33 El (by simp) λhf=>?_;simp only [simprocAttr,-ZA,↓zU,↓zD,zV,zT,zW]
 (repeat refine sd ?_)
 refine .go (xY.zP (uj ⟨9,a,0,0,0,0⟩ [f] (by simp)) (by simp [D.xP,D.xD,Nd.row,nl])) ?_;simp only [simprocAttr,-ZA,↓zU,↓zD,zV,zT,zW];exact .same
theorem SR (i:Int):yW prog 34 [.int .i64 i] (.sl 6 (zG (rZ i))):=by
 refine xY.xQ mixed func34 Em (by simp) λhf=>?_;simp only [simprocAttr,-ZA,↓zU,↓zD,zV,zT,zW]
 (repeat refine sd ?_)
 refine .go (xY.zP (Pq ⟨3,i,0,0,0,0⟩) (by simp [D.xP,D.xD,Nd.row])) ?_;simp only [simprocAttr,-ZA,↓zU,↓zD,zV,zT,zW];exact .same
end
section
open Rs Fm
namespace Fm
theorem Vw (a b c d e f:Int):xf [.int .i64 a,.int .i64 b,.int .i64 c,.int .i64 d,.int .i64 e,.int .i64 f]=some [a,b,c,d,e,f]:=rfl
end Fm
end
open Rs Fm
namespace Fm
end Fm
open Rs Fm
namespace Fm
theorem sU (op:Int):op=1\/op=2\/op=3\/op=4\/op=5\/op=6\/op=7\/op=8\/op=9\/op=10\/op=11\/op=12\/op=13\/op=14\/op=15\/op=16\/op=17\/op=18\/op=19\/op=20\/op=21\/op<1\/21<op:=by omega
theorem vY {op:Int} (h:op<1\/21<op):xW op=(rY,false):=if_pos h
theorem Sw (op:Int):(xW op).1.x=(decide (4<=op)&& decide (op<=21)):=by
 rcases sU op with rfl | rfl | rfl | rfl | rfl | rfl | rfl | rfl | rfl | rfl | rfl | rfl | rfl | rfl | rfl | rfl | rfl | rfl | rfl | rfl | rfl | h | h
 rotate_right 2
 ·rw [vY (.inl h),decide_eq_false (by omega)]; rfl
 ·rw [vY (.inr h),decide_eq_false (show ¬ op<=21 by omega),Bool.and_false]; rfl
 all_goals rfl
theorem MK (op:Int):(xW op).1.gr=(decide (11<=op)&& decide (op<=13)):=by
 rcases sU op with rfl | rfl | rfl | rfl | rfl | rfl | rfl | rfl | rfl | rfl | rfl | rfl | rfl | rfl | rfl | rfl | rfl | rfl | rfl | rfl | rfl | h | h
 rotate_right 2
 ·rw [vY (.inl h),decide_eq_false (by omega)]; rfl
 ·rw [vY (.inr h),decide_eq_false (show ¬ op<=13 by omega),Bool.and_false]; rfl
 all_goals rfl
theorem WW (op:Int):(op==3)= (xW op).1.fa:=by
 rcases sU op with rfl | rfl | rfl | rfl | rfl | rfl | rfl | rfl | rfl | rfl | rfl | rfl | rfl | rfl | rfl | rfl | rfl | rfl | rfl | rfl | rfl | h | h
 rotate_right 2
 ·rw [vY (.inl h)]; simp [rY]; omega
 ·rw [vY (.inr h)]; simp [rY]; omega
 all_goals rfl
theorem P4 (op:Int):(op==17)= (xW op).1.ev:=by
 rcases sU op with rfl | rfl | rfl | rfl | rfl | rfl | rfl | rfl | rfl | rfl | rfl | rfl | rfl | rfl | rfl | rfl | rfl | rfl | rfl | rfl | rfl | h | h
 rotate_right 2
 ·rw [vY (.inl h)]; simp [rY]; omega
 ·rw [vY (.inr h)]; simp [rY]; omega
 all_goals rfl
theorem P5 {op:Int} (h1:¬ op<1) (h2:¬ 21<op):(xW op).2=true:=by
 rcases sU op with rfl | rfl | rfl | rfl | rfl | rfl | rfl | rfl | rfl | rfl | rfl | rfl | rfl | rfl | rfl | rfl | rfl | rfl | rfl | rfl | rfl | h | h
 rotate_right 2
 ·omega
 ·omega
 all_goals rfl
theorem rR {m:Nd->Nat}:∀ {l:List Nd},yA m l=0 ↔ ∀ p ∈ l,m p=0:=by
 intro l
 have key:∀ (l:List Nd) (a:Nat),l.foldl (λa p=>a ||| m p) a=0 ↔ a=0/\∀ p ∈ l,m p=0:=by
  intro l
  induction l with
  | nil=>simp
  | cons p r ih=>
   intro a;simp only [List.foldl_cons,ih,List.mem_cons,forall_eq_or_imp];rw [Nat.or_eq_zero_iff]
   constructor
   ·rintro ⟨⟨h1,h2⟩,h3⟩; exact⟨h1,h2,h3⟩
   ·rintro ⟨h1,h2,h3⟩; exact⟨⟨h1,h2⟩,h3⟩
 rw [yA,key];simp
end Fm
section
open Rs Fm
theorem Vf (op:Int):yW prog 219 [.int .i64 op] (.bool (xW op).1.x):=by
 rw [Sw];refine xY.xQ mixed func219 JC (by simp) λhf=>?_
 by_cases h1:4<=op
 ·by_cases h2:op<=21
  ·simp only [simprocAttr,-ZA,↓zU,↓zD,zV,zT,zW,h1,h2];exact .same
  ·simp only [simprocAttr,-ZA,↓zU,↓zD,zV,zT,zW,h1,h2];exact .dv
 ·simp only [simprocAttr,-ZA,↓zU,↓zD,zV,zT,zW,h1];exact .dv
theorem Nq (op:Int):yW prog 222 [.int .i64 op] (.bool (xW op).1.gr):=by
 rw [MK];refine xY.xQ mixed func222 JD (by simp) λhf=>?_
 by_cases h1:11<=op
 ·by_cases h2:op<=13
  ·simp only [simprocAttr,-ZA,↓zU,↓zD,zV,zT,zW,h1,h2];exact .same
  ·simp only [simprocAttr,-ZA,↓zU,↓zD,zV,zT,zW,h1,h2];exact .dv
 ·simp only [simprocAttr,-ZA,↓zU,↓zD,zV,zT,zW,h1];exact .dv
theorem Vg (op:Int):yW prog 220 [.int .i64 op] (.bool (xW op).1.y):=by
 rcases sU op with rfl | rfl | rfl | rfl | rfl | rfl | rfl | rfl | rfl | rfl | rfl | rfl | rfl | rfl | rfl | rfl | rfl | rfl | rfl | rfl | rfl | h | h
 rotate_right 2
 ·have e:∀ i:Int,1<=i->i<=21->(op==i)= false:=λi h1 h2=>by simp; omega
  have h5:¬ 5<=op:=by omega
  rw [vY (.inl h)];refine xY.xQ mixed func220 MZ (by simp) λhf=>?_;simp only [simprocAttr,-ZA,↓zU,↓zD,zV,zT,zW,h5,e 13 (by omega) (by omega),e 14 (by omega) (by omega),e 16 (by omega) (by omega),e 19 (by omega) (by omega),e 21 (by omega) (by omega)];exact .drop (by simp) (by simp [vw,rY])
 ·have e:∀ i:Int,1<=i->i<=21->(op==i)= false:=λi h1 h2=>by simp; omega
  have h5:5<=op:=by omega
  have h8:¬ op<=8:=by omega
  rw [vY (.inr h)];refine xY.xQ mixed func220 MZ (by simp) λhf=>?_;simp only [simprocAttr,-ZA,↓zU,↓zD,zV,zT,zW,h5,h8,e 13 (by omega) (by omega),e 14 (by omega) (by omega),e 16 (by omega) (by omega),e 19 (by omega) (by omega),e 21 (by omega) (by omega)];exact .drop (by simp) (by simp [vw,rY])
 all_goals
  refine xY.xQ mixed func220 MZ (by simp) λhf=>?_;simp only [simprocAttr,-ZA,↓zU,↓zD,zV,zT,zW];exact .drop (by simp) (by simp [vw,xW,rY])
theorem Vi (op:Int):yW prog 221 [.int .i64 op] (.bool (xW op).1.ag):=by
 rcases sU op with rfl | rfl | rfl | rfl | rfl | rfl | rfl | rfl | rfl | rfl | rfl | rfl | rfl | rfl | rfl | rfl | rfl | rfl | rfl | rfl | rfl | h | h
 rotate_right 2
 ·have e:∀ i:Int,1<=i->i<=21->(op==i)= false:=λi h1 h2=>by simp; omega
  rw [vY (.inl h)];refine xY.xQ mixed func221 MY (by simp) λhf=>?_;simp only [simprocAttr,-ZA,↓zU,↓zD,zV,zT,zW,e 9 (by omega) (by omega),e 10 (by omega) (by omega),e 14 (by omega) (by omega),e 15 (by omega) (by omega)];exact .drop (by simp) (by simp [vw,rY])
 ·have e:∀ i:Int,1<=i->i<=21->(op==i)= false:=λi h1 h2=>by simp; omega
  rw [vY (.inr h)];refine xY.xQ mixed func221 MY (by simp) λhf=>?_;simp only [simprocAttr,-ZA,↓zU,↓zD,zV,zT,zW,e 9 (by omega) (by omega),e 10 (by omega) (by omega),e 14 (by omega) (by omega),e 15 (by omega) (by omega)];exact .drop (by simp) (by simp [vw,rY])
 all_goals
  refine xY.xQ mixed func221 MY (by simp) λhf=>?_;simp only [simprocAttr,-ZA,↓zU,↓zD,zV,zT,zW];exact .drop (by simp) (by simp [vw,xW,rY])
end
section
open Rs Fm
theorem Ln (p:Nd) (k:Int):yW prog 178 [.agg p.row,.int .i64 k] (.int .i64 (yM p k)):=by
 have hk:=cH p.op;have hx:=Vf p.op;have hy:=Vg p.op;have ha:=Vi p.op;have hg:=Nq p.op;have e3:=WW p.op;have e17:=P4 p.op;have e17n:(p.op != 17)= !(xW p.op).1.ev:=by rw [bne,e17]
 have en:yM p k=if (xW p.op).2=false then 10 else
  if (yU (xW p.op).1.x p.x k&&yU (xW p.op).1.y p.y k)= false then 3 else
  if ((!((xW p.op).1.fa || (xW p.op).1.ag || (xW p.op).1.ev)&& decide (p.i≠0)) || (!(xW p.op).1.ev&&decide (p.e≠0)) || (!(xW p.op).1.gr&&decide (p.g≠0)))= true then 3 else
  if (xG (xW p.op).1.fa p.i 0 7 || xG (xW p.op).1.ag p.i 0 3 || xG (xW p.op).1.ev p.i 0 7 || xG (xW p.op).1.ev p.e 0 7 || xG (xW p.op).1.gr p.g 1 15)= true then 2 else 0:=rfl
 by_cases h1:p.op<1
 ·rw [show yM p k=10 by rw [en,vY (.inl h1)]; rfl];refine xY.xQ mixed func178 MW (by simp) λhf=>?_;simp only [simprocAttr,-ZA,↓zU,↓zD,zV,zT,zW,Nd.row,h1]
  (repeat refine sd ?_)
  exact .dv
 by_cases h2:21<p.op
 ·rw [show yM p k=10 by rw [en,vY (.inr h2)]; rfl];refine xY.xQ mixed func178 MW (by simp) λhf=>?_;simp only [simprocAttr,-ZA,↓zU,↓zD,zV,zT,zW,Nd.row,h1,h2]
  (repeat refine sd ?_)
  exact .dv
 have hok:=P5 h1 h2;rw [en];generalize xW p.op=q at hk hx hy ha hg e3 e17 e17n hok;obtain⟨⟨ux,uy,fa,ag,gr,ev,fr⟩,ok⟩:=q;simp only at hk hx hy ha hg e3 e17 e17n hok ⊢;subst hok;refine xY.Sh mixed func178 MW (by simp) λhf=>?_;refine wpS_seq (xL mixed ?_);simp only [simprocAttr,-ZA,↓zU,↓zD,zV,zT,zW,Nd.row]
 (repeat refine sd ?_)
 refine wpS_seq (xL mixed ?_);simp only [simprocAttr,-ZA,↓zU,↓zD,zV,zT,zW,h1,h2]
 (repeat refine sd ?_)
 cases hX:yU ux p.x k
 ·refine wpS_seq (xL mixed ?_);simp only [simprocAttr,-ZA,↓zU,↓zD,zV,zT,zW];refine .go (cq hx) ?_
  cases ux
  ·have e:(p.x != 0)= true:=by simpa [yU] using hX
   simp only [simprocAttr,-ZA,↓zU,↓zD,zV,zT,zW];refine .go (cq hx) ?_;simp only [simprocAttr,-ZA,↓zU,↓zD,zV,zT,zW,e];exact .dv
  ·by_cases l1:p.x<0
   ·simp only [simprocAttr,-ZA,↓zU,↓zD,zV,zT,zW,l1];exact .dv
   ·have l2:k<=p.x:=by
     have:0<=p.x:=by omega
     simpa [yU,this] using hX
    simp only [simprocAttr,-ZA,↓zU,↓zD,zV,zT,zW,l1,l2];exact .dv
 refine ve [(2,.ref 0 6 0 0),(1,.int .i64 k)] ⟨1,[(0,⟨6,[p.row]⟩)]⟩ (xL mixed ?_) ?_
 ·simp only [simprocAttr,-ZA,↓zU,↓zD,zV,zT,zW];refine .go (cq hx) ?_
  cases ux
  ·have e:(p.x != 0)= false:=by simpa [yU] using hX
   simp only [simprocAttr,-ZA,↓zU,↓zD,zV,zT,zW];refine .go (cq hx) ?_;simp only [simprocAttr,-ZA,↓zU,↓zD,zV,zT,zW,e]
   (refine xT.same ?_; simp [xR,Fr.get,Nd.row])
  ·have l1:¬ p.x<0:=by simp [yU] at hX; omega
   have l2:¬ k<=p.x:=by simp [yU] at hX; omega
   simp only [simprocAttr,-ZA,↓zU,↓zD,zV,zT,zW,l1,l2];refine .go (cq hx) ?_;simp only [simprocAttr,-ZA,↓zU,↓zD,zV,zT,zW]
   (refine xT.same ?_; simp [xR,Fr.get,Nd.row])
 cases hY:yU uy p.y k
 ·refine wpS_seq (xL mixed ?_);simp only [simprocAttr,-ZA,↓zU,↓zD,zV,zT,zW,Nd.row];refine .go (cq hy) ?_
  cases uy
  ·have e:(p.y != 0)= true:=by simpa [yU] using hY
   simp only [simprocAttr,-ZA,↓zU,↓zD,zV,zT,zW];refine .go (cq hy) ?_;simp only [simprocAttr,-ZA,↓zU,↓zD,zV,zT,zW,e];exact .dv
  ·by_cases l1:p.y<0
   ·simp only [simprocAttr,-ZA,↓zU,↓zD,zV,zT,zW,l1];exact .dv
   ·have l2:k<=p.y:=by
     have:0<=p.y:=by omega
     simpa [yU,this] using hY
    simp only [simprocAttr,-ZA,↓zU,↓zD,zV,zT,zW,l1,l2];exact .dv
 refine ve [(2,.ref 0 6 0 0),(1,.int .i64 k)] ⟨1,[(0,⟨6,[p.row]⟩)]⟩ (xL mixed ?_) ?_
 ·simp only [simprocAttr,-ZA,↓zU,↓zD,zV,zT,zW,Nd.row];refine .go (cq hy) ?_
  cases uy
  ·have e:(p.y != 0)= false:=by simpa [yU] using hY
   simp only [simprocAttr,-ZA,↓zU,↓zD,zV,zT,zW];refine .go (cq hy) ?_;simp only [simprocAttr,-ZA,↓zU,↓zD,zV,zT,zW,e]
   (refine xT.same ?_; simp [xR,Fr.get,Nd.row])
  ·have l1:¬ p.y<0:=by simp [yU] at hY; omega
   have l2:¬ k<=p.y:=by simp [yU] at hY; omega
   simp only [simprocAttr,-ZA,↓zU,↓zD,zV,zT,zW,l1,l2];refine .go (cq hy) ?_;simp only [simprocAttr,-ZA,↓zU,↓zD,zV,zT,zW]
   (refine xT.same ?_; simp [xR,Fr.get,Nd.row])
 simp only [Bool.and_self,Bool.true_eq_false,if_false,reduceCtorEq];refine xL mixed ?_
 rcases hk with ⟨rfl,rfl,rfl,rfl⟩ | ⟨rfl,rfl,rfl,rfl⟩ | ⟨rfl,rfl,rfl,rfl⟩ | ⟨rfl,rfl,rfl,rfl⟩ | ⟨rfl,rfl,rfl,rfl⟩
 ·simp only [simprocAttr,-ZA,↓zU,↓zD,zV,zT,zW,Nd.row,e3,e17,e17n,δ,γ];refine .go (cq ha) ?_;by_cases hi:p.i=0
  case neg=> have ei:(p.i != 0)= true:=bne_iff_ne.2 hi;simp only [simprocAttr,-ZA,↓zU,↓zD,zV,zT,zW,Nd.row,e3,e17,e17n,δ,γ,ei];exact .drop (by simp) (by simp [vw,xG, *])
  have ei:(p.i != 0)= false:=by simpa using hi
  by_cases he:p.e=0
  case neg=> have ee:(p.e != 0)= true:=bne_iff_ne.2 he;simp only [simprocAttr,-ZA,↓zU,↓zD,zV,zT,zW,Nd.row,e3,e17,e17n,δ,γ,ei,ee];exact .drop (by simp) (by simp [vw,xG, *])
  have ee:(p.e != 0)= false:=by simpa using he
  simp only [simprocAttr,-ZA,↓zU,↓zD,zV,zT,zW,Nd.row,e3,e17,e17n,δ,γ,ei,ee];refine .go (cq hg) ?_;by_cases hgz:p.g=0
  case neg=> have eg:(p.g != 0)= true:=bne_iff_ne.2 hgz;simp only [simprocAttr,-ZA,↓zU,↓zD,zV,zT,zW,Nd.row,e3,e17,e17n,δ,γ,ei,ee,eg];exact .drop (by simp) (by simp [vw,xG, *])
  have eg:(p.g != 0)= false:=by simpa using hgz
  simp only [simprocAttr,-ZA,↓zU,↓zD,zV,zT,zW,Nd.row,e3,e17,e17n,δ,γ,ei,ee,eg];refine .go (cq ha) ?_;simp only [simprocAttr,-ZA,↓zU,↓zD,zV,zT,zW,Nd.row,e3,e17,e17n,δ,γ,ei,ee,eg];refine .go (cq hg) ?_;simp only [simprocAttr,-ZA,↓zU,↓zD,zV,zT,zW,Nd.row,e3,e17,e17n,δ,γ,ei,ee,eg];exact .drop (by simp) (by simp [vw,xG, *])
 ·simp only [simprocAttr,-ZA,↓zU,↓zD,zV,zT,zW,Nd.row,e3,e17,e17n,δ,γ];by_cases he:p.e=0
  case neg=> have ee:(p.e != 0)= true:=bne_iff_ne.2 he;simp only [simprocAttr,-ZA,↓zU,↓zD,zV,zT,zW,Nd.row,e3,e17,e17n,δ,γ,ee];exact .drop (by simp) (by simp [vw,xG, *])
  have ee:(p.e != 0)= false:=by simpa using he
  simp only [simprocAttr,-ZA,↓zU,↓zD,zV,zT,zW,Nd.row,e3,e17,e17n,δ,γ,ee];refine .go (cq hg) ?_;by_cases hgz:p.g=0
  case neg=> have eg:(p.g != 0)= true:=bne_iff_ne.2 hgz;simp only [simprocAttr,-ZA,↓zU,↓zD,zV,zT,zW,Nd.row,e3,e17,e17n,δ,γ,ee,eg];exact .drop (by simp) (by simp [vw,xG, *])
  have eg:(p.g != 0)= false:=by simpa using hgz
  by_cases ri1:p.i<0
  ·simp only [simprocAttr,-ZA,↓zU,↓zD,zV,zT,zW,Nd.row,e3,e17,e17n,δ,γ,ee,eg,ri1];exact .drop (by simp) (by simp [vw,xG, *])
  by_cases ri2:8<=p.i
  ·simp only [simprocAttr,-ZA,↓zU,↓zD,zV,zT,zW,Nd.row,e3,e17,e17n,δ,γ,ee,eg,ri1,ri2];have ri3:7<p.i:=by omega
   exact .drop (by simp) (by simp [vw,xG, *])
  have ri3:¬ 7<p.i:=by omega
  simp only [simprocAttr,-ZA,↓zU,↓zD,zV,zT,zW,Nd.row,e3,e17,e17n,δ,γ,ee,eg,ri1,ri2];refine .go (cq ha) ?_;simp only [simprocAttr,-ZA,↓zU,↓zD,zV,zT,zW,Nd.row,e3,e17,e17n,δ,γ,ee,eg,ri1,ri2];refine .go (cq hg) ?_;simp only [simprocAttr,-ZA,↓zU,↓zD,zV,zT,zW,Nd.row,e3,e17,e17n,δ,γ,ee,eg,ri1,ri2];exact .drop (by simp) (by simp [vw,xG, *])
 ·simp only [simprocAttr,-ZA,↓zU,↓zD,zV,zT,zW,Nd.row,e3,e17,e17n,δ,γ];refine .go (cq ha) ?_;by_cases he:p.e=0
  case neg=> have ee:(p.e != 0)= true:=bne_iff_ne.2 he;simp only [simprocAttr,-ZA,↓zU,↓zD,zV,zT,zW,Nd.row,e3,e17,e17n,δ,γ,ee];exact .drop (by simp) (by simp [vw,xG, *])
  have ee:(p.e != 0)= false:=by simpa using he
  simp only [simprocAttr,-ZA,↓zU,↓zD,zV,zT,zW,Nd.row,e3,e17,e17n,δ,γ,ee];refine .go (cq hg) ?_;by_cases hgz:p.g=0
  case neg=> have eg:(p.g != 0)= true:=bne_iff_ne.2 hgz;simp only [simprocAttr,-ZA,↓zU,↓zD,zV,zT,zW,Nd.row,e3,e17,e17n,δ,γ,ee,eg];exact .drop (by simp) (by simp [vw,xG, *])
  have eg:(p.g != 0)= false:=by simpa using hgz
  simp only [simprocAttr,-ZA,↓zU,↓zD,zV,zT,zW,Nd.row,e3,e17,e17n,δ,γ,ee,eg];refine .go (cq ha) ?_
  by_cases ri1:p.i<0
  ·simp only [simprocAttr,-ZA,↓zU,↓zD,zV,zT,zW,Nd.row,e3,e17,e17n,δ,γ,ee,eg,ri1];exact .drop (by simp) (by simp [vw,xG, *])
  by_cases ri2:4<=p.i
  ·simp only [simprocAttr,-ZA,↓zU,↓zD,zV,zT,zW,Nd.row,e3,e17,e17n,δ,γ,ee,eg,ri1,ri2];have ri3:3<p.i:=by omega
   exact .drop (by simp) (by simp [vw,xG, *])
  have ri3:¬ 3<p.i:=by omega
  simp only [simprocAttr,-ZA,↓zU,↓zD,zV,zT,zW,Nd.row,e3,e17,e17n,δ,γ,ee,eg,ri1,ri2];refine .go (cq hg) ?_;simp only [simprocAttr,-ZA,↓zU,↓zD,zV,zT,zW,Nd.row,e3,e17,e17n,δ,γ,ee,eg,ri1,ri2];exact .drop (by simp) (by simp [vw,xG, *])
 ·simp only [simprocAttr,-ZA,↓zU,↓zD,zV,zT,zW,Nd.row,e3,e17,e17n,δ,γ];refine .go (cq ha) ?_;by_cases hi:p.i=0
  case neg=> have ei:(p.i != 0)= true:=bne_iff_ne.2 hi;simp only [simprocAttr,-ZA,↓zU,↓zD,zV,zT,zW,Nd.row,e3,e17,e17n,δ,γ,ei];exact .drop (by simp) (by simp [vw,xG, *])
  have ei:(p.i != 0)= false:=by simpa using hi
  by_cases he:p.e=0
  case neg=> have ee:(p.e != 0)= true:=bne_iff_ne.2 he;simp only [simprocAttr,-ZA,↓zU,↓zD,zV,zT,zW,Nd.row,e3,e17,e17n,δ,γ,ei,ee];exact .drop (by simp) (by simp [vw,xG, *])
  have ee:(p.e != 0)= false:=by simpa using he
  simp only [simprocAttr,-ZA,↓zU,↓zD,zV,zT,zW,Nd.row,e3,e17,e17n,δ,γ,ei,ee];refine .go (cq hg) ?_;simp only [simprocAttr,-ZA,↓zU,↓zD,zV,zT,zW,Nd.row,e3,e17,e17n,δ,γ,ei,ee];refine .go (cq ha) ?_;simp only [simprocAttr,-ZA,↓zU,↓zD,zV,zT,zW,Nd.row,e3,e17,e17n,δ,γ,ei,ee];refine .go (cq hg) ?_
  by_cases rg1:p.g<1
  ·simp only [simprocAttr,-ZA,↓zU,↓zD,zV,zT,zW,Nd.row,e3,e17,e17n,δ,γ,ei,ee,rg1];exact .drop (by simp) (by simp [vw,xG, *])
  by_cases rg2:16<=p.g
  ·simp only [simprocAttr,-ZA,↓zU,↓zD,zV,zT,zW,Nd.row,e3,e17,e17n,δ,γ,ei,ee,rg1,rg2];have rg3:15<p.g:=by omega
   exact .drop (by simp) (by simp [vw,xG, *])
  have rg3:¬ 15<p.g:=by omega
  simp only [simprocAttr,-ZA,↓zU,↓zD,zV,zT,zW,Nd.row,e3,e17,e17n,δ,γ,ei,ee,rg1,rg2];exact .drop (by simp) (by simp [vw,xG, *])
 ·simp only [simprocAttr,-ZA,↓zU,↓zD,zV,zT,zW,Nd.row,e3,e17,e17n,δ,γ];refine .go (cq ha) ?_;simp only [simprocAttr,-ZA,↓zU,↓zD,zV,zT,zW,Nd.row,e3,e17,e17n,δ,γ];refine .go (cq hg) ?_;by_cases hgz:p.g=0
  case neg=> have eg:(p.g != 0)= true:=bne_iff_ne.2 hgz;simp only [simprocAttr,-ZA,↓zU,↓zD,zV,zT,zW,Nd.row,e3,e17,e17n,δ,γ,eg];exact .drop (by simp) (by simp [vw,xG, *])
  have eg:(p.g != 0)= false:=by simpa using hgz
  simp only [simprocAttr,-ZA,↓zU,↓zD,zV,zT,zW,Nd.row,e3,e17,e17n,δ,γ,eg];refine .go (cq ha) ?_
  by_cases ri1:p.i<0
  ·simp only [simprocAttr,-ZA,↓zU,↓zD,zV,zT,zW,Nd.row,e3,e17,e17n,δ,γ,eg,ri1];exact .drop (by simp) (by simp [vw,xG, *])
  by_cases ri2:8<=p.i
  ·simp only [simprocAttr,-ZA,↓zU,↓zD,zV,zT,zW,Nd.row,e3,e17,e17n,δ,γ,eg,ri1,ri2];have ri3:7<p.i:=by omega
   exact .drop (by simp) (by simp [vw,xG, *])
  have ri3:¬ 7<p.i:=by omega
  by_cases re1:p.e<0
  ·simp only [simprocAttr,-ZA,↓zU,↓zD,zV,zT,zW,Nd.row,e3,e17,e17n,δ,γ,eg,ri1,ri2,re1];exact .drop (by simp) (by simp [vw,xG, *])
  by_cases re2:8<=p.e
  ·simp only [simprocAttr,-ZA,↓zU,↓zD,zV,zT,zW,Nd.row,e3,e17,e17n,δ,γ,eg,ri1,ri2,re1,re2];have re3:7<p.e:=by omega
   exact .drop (by simp) (by simp [vw,xG, *])
  have re3:¬ 7<p.e:=by omega
  simp only [simprocAttr,-ZA,↓zU,↓zD,zV,zT,zW,Nd.row,e3,e17,e17n,δ,γ,eg,ri1,ri2,re1,re2];refine .go (cq hg) ?_;simp only [simprocAttr,-ZA,↓zU,↓zD,zV,zT,zW,Nd.row,e3,e17,e17n,δ,γ,eg,ri1,ri2,re1,re2];exact .drop (by simp) (by simp [vw,xG, *])
open Rs Fm
theorem af (f:List Nd):yW prog 117 [.sl 6 (zG f)] (.int .i64 (yZ f)):=by
 refine xY.xQ mixed func117 Hs (by simp) λhf=>?_;simp only [D.rJ,D.fact,xI] at hf;have hlen:=hf.1.1
 by_cases h1:f.length=0
 ·have e1:((f.length:Int)== 0)= true:=by simpa using h1
  simp only [simprocAttr,-ZA,↓zU,↓zD,zV,zT,zW,xI,e1];rw [show yZ f=3 from if_pos (List.length_eq_zero_iff.1 h1)];exact .same
 have e1:((f.length:Int)== 0)= false:=by simpa using h1
 have hne:f ≠ []:=λe=>h1 (by rw [e]; rfl)
 by_cases h2:200<f.length
 ·have h2':(200:Int)<(f.length:Int):=by omega
  simp only [simprocAttr,-ZA,↓zU,↓zD,zV,zT,zW,xI,e1,h2'];rw [show yZ f=8 by rw [yZ,if_neg hne,if_pos h2]];exact .same
 have h2':¬ (200:Int)<(f.length:Int):=by omega
 rw [show yZ f=dW f 0 by rw [yZ,if_neg hne,if_neg h2]];simp only [simprocAttr,-ZA,↓zU,↓zD,zV,zT,zW,xI,e1,h2']
 refine xO (λk:Nat=>[(3,.int .i64 k),(0,.sl 6 (zG f))]) (λ_=>⟨0,[]⟩) (λk=>k<=f.length/\dW f 0=dW (f.drop k) k) (λk=>f.length-k) 0 ⟨υ _,rfl⟩ ?_ ?_
 ·(refine xT.same ?_; simp [xR,Fr.get])
 intro k ⟨hk,hi⟩;refine xL mixed ?_;by_cases h:k<f.length
 case neg=>
  have hd:¬ ((k:Int)<(f.length:Int)):=by omega
  rw [ο (by omega),dW] at hi;simp only [simprocAttr,-ZA,↓zU,↓zD,zV,zT,zW,hd,xI];rw [hi];exact .same
 have hd:((k:Int)<(f.length:Int)):=by omega
 rw [drop_cons (d:=wK) h,dW] at hi;have hg:=sX f h;generalize f.getD k wK=p at hg hi;simp only [simprocAttr,-ZA,↓zU,↓zD,zV,zT,zW,hd,xI,hg,Nd.row]
 (repeat refine sd ?_)
 refine .go (xY.zP (Ln p k) (by simp [D.xP,D.xD,Nd.row])) ?_
 by_cases he:yM p k=0
 ·have e:(yM p k != 0)= false:=by simpa using he
  rw [if_neg (by simpa using he)] at hi;simp only [simprocAttr,-ZA,↓zU,↓zD,zV,zT,zW,e];refine⟨k+1,⟨by omega,hi⟩,?_,by omega⟩
  (refine xT.view (λk=>k) (by simp) (by simp) ?_ (by simp [stays]) (by simp [rS]); simp [YO,vw,uR,Fr.get])
  exact wrap_i64 (by omega)
 ·have e:(yM p k != 0)= true:=bne_iff_ne.2 he;rw [if_pos he] at hi;simp only [simprocAttr,-ZA,↓zU,↓zD,zV,zT,zW,e];rw [hi];exact .dv
end
section
open Rs Fm
namespace Fm
def kg (kO kD:Nat) (out:List Nd) (dl:List Int):Ob:=⟨2,[[xA kO 6 (zG out),xA kD 1 (rows .i64 dl)]]⟩
def FX (nx:Nat) (xZ:List (Nat × Ob)) (kO kD:Nat) (out:List Nd) (dl:List Int) (q:Nd) (d:D) (σ':St):Prop:=
 (∃ k:Nat,sG q out 0=some k/\d = .int .i64 k/\σ'=⟨nx+1,(nx,wT q.op q.i q.e q.g q.x q.y) :: xZ⟩) \/
 (sG q out 0=none/\d = .int .i64 out.length/\σ'=⟨nx+1+1,yV (nx+1) 6 (zG (out ++ [q]))++ zA (zX ((nx,wT q.op q.i q.e q.g q.x q.y) :: xZ) kO) 0 (kg (nx+1) kD (out ++ [q]) dl)⟩)
end Fm
theorem N4 {nx kO kD:Nat} {xZ:List (Nat × Ob)} {out:List Nd} {dl:List Int} {q:Nd} {d:D} {σ':St} (h0:St.look xZ 0=some (kg kO kD out dl)) (hn:1<=nx) (hlen:out.length<=1000) (hk0:kO≠0) (hk1:kO≠nx) (hk:St.look xZ kO=vT 6 (zG out))
  (h:FX nx xZ kO kD out dl q d σ'):xY prog 272 [.ref 0 2 0 0,.agg q.row] ⟨nx,xZ⟩ d σ':=by
 have hx0:¬ nx=0:=by omega
 have hx1:¬ nx=kO:=λe=>hk1 e.symm;refine xY.xQ mixed func272 JP (by simp) λhf=>?_;simp only [simprocAttr,-ZA,↓zU,↓zD,zV,zT,zW,Nd.row]
 (repeat refine sd ?_)
 refine xO (λk:Nat=>[(5,.int .i64 k),(3,.ref nx 6 0 0),(0,.ref 0 2 0 0)]) (λ_=>⟨nx+1,(nx,wT q.op q.i q.e q.g q.x q.y) :: xZ⟩) (λk=>k<=out.length/\sG q out 0=sG q (out.drop k) k) (λk=>out.length-k) 0 ⟨υ _,rfl⟩ ?_ ?_
 ·(refine xT.same ?_; simp [xR,Fr.get,wT])
 intro k ⟨hkl,hi⟩;refine xL mixed ?_;by_cases hlt:k<out.length
 case pos=>
  have hd:(k:Int)<(out.length:Int):=by omega
  have hg:=sX out hlt;rw [drop_cons (d:=wK) hlt,sG] at hi;generalize out.getD k wK=p at hg hi
  by_cases hqp:q=p
  ·subst hqp;rw [if_pos rfl] at hi;have hq:decide ([q.op,q.i,q.e,q.g,q.x,q.y] = [q.op,q.i,q.e,q.g,q.x,q.y])= true:=by simp
   simp only [simprocAttr,-ZA,↓zU,↓zD,zV,zT,zW,hx0,hx1,h0,kg,xI,hd,hk,hg,Nd.row,wT,Vw,hq]
   (repeat refine sd ?_)
   rcases h with ⟨k',e1,rfl,rfl⟩ | ⟨e1,_,_⟩
   ·rw [hi] at e1;cases e1;simp only [wT];exact .same
   ·rw [hi] at e1; cases e1
  ·rw [if_neg hqp] at hi
   have hq:decide ([p.op,p.i,p.e,p.g,p.x,p.y] = [q.op,q.i,q.e,q.g,q.x,q.y])= false:=by rw [decide_eq_false_iff_not];exact λh=>hqp (key_inj h).symm
   simp only [simprocAttr,-ZA,↓zU,↓zD,zV,zT,zW,hx0,hx1,h0,kg,xI,hd,hk,hg,Nd.row,wT,Vw,hq]
   (repeat refine sd ?_)
   refine⟨k+1,⟨by omega,hi⟩,?_,by omega⟩
   (refine xT.same ?_; simp only [xR,Fr.get,simprocAttr,-ZA,zS])
   exact wrap_i64 (by omega)
 have hd:¬ (k:Int)<(out.length:Int):=by omega
 rw [ο (by omega),sG] at hi
 rcases h with ⟨k',e1,_,_⟩ | ⟨e1,rfl,rfl⟩
 ·rw [hi] at e1; cases e1
 have hq0:¬ kO=0:=hk0;have er:zG (out ++ [q])= zG out ++ [[.int .i64 q.op,.int .i64 q.i,.int .i64 q.e,.int .i64 q.g,.int .i64 q.x,.int .i64 q.y]]:=by simp [zG,Nd.row]
 simp only [simprocAttr,-ZA,↓zU,↓zD,zV,zT,zW,hx0,hx1,h0,kg,xI,hd,hk,Nd.row,wT,xU,yX,hq0]
 (repeat refine sd ?_)
 rw [er,show IntKind.i64.wrap (((out.length+1:Nat):Int)-1)= (out.length:Int) by rw [wrap_i64 (by omega)]; omega];exact .same
end
section
open Rs Fm
namespace Fm
def KP (i nx2:Nat) (objs2:List (Nat × Ob)) (kO kD:Nat) (out:List Nd) (dl:List Int) (q:Nd) (d:D) (σ':St):Prop:=
 (∃ k:Nat,sG q out 0=some k/\d = .int .i64 k/\σ'=⟨nx2+1,(nx2,wT q.op q.i q.e q.g q.x q.y) :: zA objs2 kD ⟨1,rows .i64 (dl.set i k)⟩⟩) \/
 (sG q out 0=none/\d = .int .i64 out.length/\σ'=⟨nx2+1+1,yV (nx2+1) 6 (zG (out ++ [q]))++ (nx2,wT q.op q.i q.e q.g q.x q.y) :: zA (zA (zX objs2 kO) 0 (kg (nx2+1) kD (out ++ [q]) dl)) kD ⟨1,rows .i64 (dl.set i (out.length:Int))⟩⟩)
end Fm
theorem MO {f:List Nd} {nx i:Nat} {xZ:List (Nat × Ob)} {kO kD:Nat} {s:CS} {dl:List Int} {p:Nd}
  (h0:St.look xZ 0=some (kg kO kD s.out dl)) (hn:1<=nx) (hkD:kD≠0/\kD<nx/\St.look xZ kD=some ⟨1,rows .i64 dl⟩) (hdl:dl.length=f.length) (hi:i<f.length) (hp:f.getD i wK=p) (hno:dl.getD i 0 = -1)
  {a b:Int} {nx1 nx2:Nat} {O1 O2:List (Nat × Ob)} {kO2:Nat} {out2:List Nd} {dl2:List Int}
  (h3:((xW p.op).1.x=true/\∃ objs1,xY prog 255 [.sl 6 (zG f),.int .i64 p.x,.ref 0 2 0 0] ⟨nx+1,(nx,wT p.op p.i p.e p.g p.x p.y) :: xZ⟩ (.int .i64 a) ⟨nx1,objs1⟩/\ St.look objs1 nx=some (wT p.op p.i p.e p.g p.x p.y)/\ O1=zA objs1 nx (wT p.op p.i p.e p.g a p.y)) \/
   ((xW p.op).1.x=false/\a=p.x/\nx1=nx+1/\O1=(nx,wT p.op p.i p.e p.g p.x p.y) :: xZ))
  (hN1:St.look O1 nx=some (wT p.op p.i p.e p.g a p.y))
  (h4:((xW p.op).1.y=true/\∃ objs2,xY prog 255 [.sl 6 (zG f),.int .i64 p.y,.ref 0 2 0 0] ⟨nx1,O1⟩ (.int .i64 b) ⟨nx2,objs2⟩/\ St.look objs2 nx=some (wT p.op p.i p.e p.g a p.y)/\ O2=zA objs2 nx (wT p.op p.i p.e p.g a b)) \/
   ((xW p.op).1.y=false/\b=p.y/\nx2=nx1/\O2=O1))
  (hN2:St.look O2 nx=some (wT p.op p.i p.e p.g a b)) (g0:St.look O2 0=some (kg kO2 kD out2 dl2)) (gD:St.look O2 kD=some ⟨1,rows .i64 dl2⟩) (gd:dl2.length=f.length) (gO:kO2≠0/\kO2≠nx/\kO2≠nx2/\kO2≠kD/\St.look O2 kO2=vT 6 (zG out2)) (hlen:out2.length<=1000) (hnx:nx<nx2)
  {d:D} {σ':St} (h5:KP i nx2 O2 kO2 kD out2 dl2 ⟨p.op,p.i,p.e,p.g,a,b⟩ d σ') :
  xY prog 255 [.sl 6 (zG f),.int .i64 i,.ref 0 2 0 0] ⟨nx,xZ⟩ d σ':=by
 have hg:=sX f hi;rw [hp] at hg;have hx0:¬ nx=0:=by omega
 have hx1:¬ nx=kD:=by omega
 obtain⟨hkD0,hkDn,hkD⟩:=hkD;obtain⟨gO0,gOn,gO2,gOD,gO⟩:=gO;have hrl:(rows IntKind.i64 dl).length=dl.length:=zK _ _
 have hgd:(rows IntKind.i64 dl).getD i [] = [.int .i64 (-1)]:=by rw [<- hno]; simp [rows,List.getD,hdl,hi]
 refine xY.Sh mixed func255 Ke (by simp) λhf=>?_;refine wpS_seq (xL mixed ?_);simp only [simprocAttr,-ZA,↓zU,↓zD,zV,zT,zW];refine wpS_seq (xL mixed ?_);simp only [simprocAttr,-ZA,↓zU,↓zD,zV,zT,zW,h0,kg,hrl,hdl,hkD,hgd]
 (repeat refine sd ?_)
 refine wpS_seq (xL mixed ?_);simp only [simprocAttr,-ZA,↓zU,↓zD,zV,zT,zW,xI,hg,Nd.row]
 (repeat refine sd ?_)
 refine ve [(7,.ref nx 6 0 0),(2,.ref 0 2 0 0),(1,.int .i64 i),(0,.sl 6 (zG f))] ⟨nx1,O1⟩ (xL mixed ?_) ?_
 ·simp only [simprocAttr,-ZA,↓zU,↓zD,zV,zT,zW];refine .go (cq (Vf p.op)) ?_
  rcases h3 with ⟨ux,objs1,hc,hl,rfl⟩ | ⟨ux,rfl,rfl,rfl⟩
  ·rw [ux];simp only [wT] at hc hl;simp only [simprocAttr,-ZA,↓zU,↓zD,zV,zT,zW,xI,hg,Nd.row]
   (repeat refine sd ?_)
   refine .go hc ?_;simp only [simprocAttr,-ZA,↓zU,↓zD,zV,zT,zW,hl]
   (repeat refine sd ?_)
   (refine xT.same ?_; simp [xR,Fr.get,wT])
  ·rw [ux];simp only [simprocAttr,-ZA,↓zU,↓zD,zV,zT,zW]
   (refine xT.same ?_; simp [xR,Fr.get,wT])
 refine ve [(7,.ref nx 6 0 0),(2,.ref 0 2 0 0),(1,.int .i64 i),(0,.sl 6 (zG f))] ⟨nx2,O2⟩ (xL mixed ?_) ?_
 ·simp only [wT] at hN1;simp only [simprocAttr,-ZA,↓zU,↓zD,zV,zT,zW,hN1]
  (repeat refine sd ?_)
  refine .go (cq (Vg p.op)) ?_
  rcases h4 with ⟨uy,objs2,hc,hl,rfl⟩ | ⟨uy,rfl,rfl,rfl⟩
  ·rw [uy];simp only [wT] at hc hl;simp only [simprocAttr,-ZA,↓zU,↓zD,zV,zT,zW,xI,hg,Nd.row]
   (repeat refine sd ?_)
   refine .go hc ?_;simp only [simprocAttr,-ZA,↓zU,↓zD,zV,zT,zW,hl]
   (repeat refine sd ?_)
   (refine xT.same ?_; simp [xR,Fr.get,wT])
  ·rw [uy];simp only [simprocAttr,-ZA,↓zU,↓zD,zV,zT,zW]
   (refine xT.same ?_; simp [xR,Fr.get,wT])
 refine xL mixed ?_;have hrl2:(rows IntKind.i64 dl2).length=dl2.length:=zK _ _;have hset:∀ x:Int,(rows IntKind.i64 dl2).set i [.int .i64 x]=rows .i64 (dl2.set i x):=λx=>by simp [rows,List.map_set]
 have hget:∀ x:Int,(rows IntKind.i64 (dl2.set i x)).getD i [] = [.int .i64 x]:=λx=>by simp [rows,List.getD,gd,hi]
 have y0:¬ nx2=0:=by omega
 have y1:¬ nx2=nx:=by omega
 have y2:¬ nx2=kD:=by omega
 have y3:¬ nx2=kO2:=λe=>gO2 e.symm;have y4:¬ nx2+1=0:=by omega
 have y5:¬ nx2+1=nx:=by omega
 have y6:¬ nx2+1=kD:=by omega
 have z1:¬ kD=nx2+1:=by omega
 have z0:¬ 0=kD:=λe=>hkD0 e.symm;have z2:¬ kD=0:=hkD0;have z3:¬ 0=nx:=by omega
 have z4:¬ kD=nx:=by omega
 have z5:¬ kD=nx2:=by omega
 have hgd2:(rows IntKind.i64 dl2).getD i [] = [.int .i64 (dl2.getD i 0)]:=by simp [rows,List.getD,gd,hi]
 simp only [wT] at hN2;simp only [simprocAttr,-ZA,↓zU,↓zD,zV,zT,zW,g0,kg,hN2]
 (repeat refine sd ?_)
 rcases h5 with ⟨k,e1,rfl,rfl⟩ | ⟨e1,rfl,rfl⟩
 ·refine .go (N4 g0 (by omega) hlen gO0 gO2 gO (.inl ⟨k,e1,rfl,rfl⟩)) ?_;simp only [simprocAttr,-ZA,↓zU,↓zD,zV,zT,zW,g0,kg,hN2,y0,y1,y2,wT,gD,hrl2,gd,xU,hgd2,hset,hget,z0,z2,z3,z4,z5]
  (repeat refine sd ?_)
  exact .same
 ·refine .go (N4 g0 (by omega) hlen gO0 gO2 gO (.inr ⟨e1,rfl,rfl⟩)) ?_;simp only [simprocAttr,-ZA,↓zU,↓zD,zV,zT,zW,g0,kg,hN2,y0,y1,y2,y3,y4,y5,y6,gO0,gOn,gOD,wT,gD,hrl2,gd,xU,yX,hgd2,hset,hget,z0,z1,z2,z3,z4,z5]
  (repeat refine sd ?_)
  exact .same
end
section
open Rs Fm
namespace Fm
structure dR (f : List Nd) (nx : Nat) (xZ : List (Nat × Ob)) (kO kD : Nat) (s : CS) (dl : List Int) : Prop where
 hn:1<=nx
 h0:St.look xZ 0=some (kg kO kD s.out dl)
 hO:s.out = []\/(kO<nx/\kO≠0/\kO≠kD/\St.look xZ kO=vT 6 (zG s.out))
 hD:kD≠0/\kD<nx/\St.look xZ kD=some ⟨1,rows .i64 dl⟩
 dn:dl.length=f.length
 rel:∀ i,i<f.length->dl.getD i 0=(wL (i:Int) s.done).getD (-1)
 pos:∀ z k,wL z s.done=some k->0<=k
 fr:∀ k,nx<=k->St.look xZ k=none
theorem dR.key {f:List Nd} {nx:Nat} {xZ:List (Nat × Ob)} {kO kD:Nat} {s:CS} {dl:List Int} (h:dR f nx xZ kO kD s dl):∃ k,St.look xZ 0=some (kg k kD s.out dl)/\ k≠0/\k≠kD/\St.look xZ k=vT 6 (zG s.out)/\ ((s.out = []/\k=nx+9)\/(s.out ≠ []/\k=kO/\k<nx)):=by
 rcases h.hO with ho | ⟨h1,h2,h3,h4⟩
 ·refine⟨nx+9,?_,by have:=h.hn; omega,by have:=h.hD; omega,?_,.inl ⟨ho,rfl⟩⟩
  ·rw [h.h0,ho]; rfl
  ·rw [h.fr _ (by omega),ho]; rfl
 ·by_cases ho:s.out = []
  ·refine⟨nx+9,?_,by have:=h.hn; omega,by have:=h.hD; omega,?_,.inl ⟨ho,rfl⟩⟩
   ·rw [h.h0,ho]; rfl
   ·rw [h.fr _ (by omega),ho]; rfl
  ·exact⟨kO,h.h0,h2,h3,h4,.inr ⟨ho,rfl,h1⟩⟩
theorem dR.alloc {f:List Nd} {nx:Nat} {xZ:List (Nat × Ob)} {kO kD:Nat} {s:CS} {dl:List Int} (h:dR f nx xZ kO kD s dl) (o:Ob):dR f (nx+1) ((nx,o) :: xZ) kO kD s dl:=by
 obtain⟨hn,h0,hO,hD,dn,rel,pos,fr⟩:=h;have hl:∀ k,k≠nx->St.look ((nx,o) :: xZ) k=St.look xZ k:=λk a=>by rw [xX,if_neg (λe=>a e.symm)]
 refine⟨by omega,by rw [hl 0 (by omega)]; exact h0,?_,⟨hD.1,by omega,by rw [hl kD (by omega)]; exact hD.2.2⟩,dn,rel,pos,λk hk=>by rw [hl k (by omega)]; exact fr k (by omega)⟩
 rcases hO with ho | ⟨a,b,c,d⟩
 ·exact .inl ho
 ·exact .inr ⟨by omega,b,c,by rw [hl kO (by omega)]; exact d⟩
theorem dR.set {f:List Nd} {nx:Nat} {xZ:List (Nat × Ob)} {kO kD:Nat} {s:CS} {dl:List Int} (h:dR f nx xZ kO kD s dl) {j:Nat} (hj:j≠0/\j≠kD/\(s.out = []\/j≠kO)) (o:Ob):dR f nx (zA xZ j o) kO kD s dl:=by
 obtain⟨hn,h0,hO,hD,dn,rel,pos,fr⟩:=h;have hl:∀ k,k≠j->St.look (zA xZ j o) k=St.look xZ k:=λk a=>by rw [xU,if_neg (λe=>a e.symm)]
 refine⟨hn,by rw [hl 0 (by omega)]; exact h0,?_,⟨hD.1,hD.2.1,by rw [hl kD (by omega)]; exact hD.2.2⟩,dn,rel,pos,λk hk=>wF (fr k hk)⟩
 rcases hO with ho | ⟨a,b,c,d⟩
 ·exact .inl ho
 ·rcases hj.2.2 with e | e
  ·exact .inl e
  ·exact .inr ⟨a,b,c,by rw [hl kO (λh=>e h.symm)]; exact d⟩
theorem Q2 {f:List Nd} {nx nx2 i:Nat} {objs2:List (Nat × Ob)} {kO kD:Nat} {s2:CS} {dl2:List Int} {q:Nd} (hI:dR f nx2 objs2 kO kD s2 dl2) (hi:i<f.length) (hnx:1<=nx) (hlt:nx<nx2) (hk:s2.out = []\/kO≠nx) :
  ∃ k2 nx' objs' kO' dl',KP i nx2 objs2 k2 kD s2.out dl2 q (.int .i64 (kL i q s2).1) ⟨nx',objs'⟩/\ dR f nx' objs' kO' kD (kL i q s2).2 dl'/\nx2<=nx'/\((kO'=kO/\s2.out ≠ [])\/nx2<=kO')/\
   St.look objs2 0=some (kg k2 kD s2.out dl2)/\ (k2≠0/\k2≠nx/\k2≠nx2/\k2≠kD/\St.look objs2 k2=vT 6 (zG s2.out))/\
   (∀ k,1<=k->k<nx2->k≠kD->(k≠kO\/s2.out = [])->St.look objs' k=St.look objs2 k):=by
 obtain⟨k2,g0,gz,gD,gO,gk⟩:=hI.key;obtain⟨hn,h0,hO,hD,dn,rel,pos,fr⟩:=hI
 have hk2:k2≠nx/\k2≠nx2:=by
  rcases gk with ⟨ho,e⟩ | ⟨ho,e,e2⟩
  ·omega
  ·rcases hk with h | h
   ·exact absurd h ho
   ·omega
 have hdl:∀ x:Int,(dl2.set i x).length=f.length:=λx=>by rw [List.length_set,dn]
 have hrel:∀ (x:Int) (out:List Nd) (j:Nat),j<f.length->(dl2.set i x).getD j 0=(wL (j:Int) (⟨out,nC i x s2.done⟩:CS).done).getD (-1):=by
  intro x out j hj;simp only;rw [rU]
  by_cases e:j=i
  ·subst e;rw [if_pos rfl];simp [List.getD,dn,hj]
  ·rw [if_neg (by omega),<- rel j hj];simp only [List.getD,List.getElem?_set_ne (Ne.symm e)]
 have hpos:∀ (x:Int) (out:List Nd),0<=x->∀ z k,wL z (⟨out,nC i x s2.done⟩:CS).done=some k->0<=k:=by
  intro x out hx z k h;simp only at h;rw [rU] at h
  split at h
  ·cases h; exact hx
  ·exact pos z k h
 cases hq:sG q s2.out 0 with
 | some k=>
  have e:kL i q s2=((k:Int),(⟨s2.out,nC i k s2.done⟩:CS)):=by simp only [kL,hq]
  rw [e]
  refine⟨k2,nx2+1,_,kO,dl2.set i k,.inl ⟨k,hq,rfl,rfl⟩,?_,by omega,.inl ⟨rfl,λe=>by rw [e] at hq; cases hq⟩,g0,⟨gz,hk2.1,hk2.2,gD,gO⟩,λj a1 a2 a3 a4=>?_⟩
  ·have hl:∀ j,j≠nx2->j≠kD->St.look ((nx2,wT q.op q.i q.e q.g q.x q.y) :: zA objs2 kD ⟨1,rows .i64 (dl2.set i k)⟩) j=St.look objs2 j:=λj a b=>by rw [xX,if_neg (λe=>a e.symm),xU,if_neg (λe=>b e.symm)]
   refine⟨by omega,?_,?_,⟨hD.1,by omega,?_⟩,hdl _,hrel _ _,hpos _ _ (by omega),λj hj=>?_⟩
   ·rw [hl 0 (by omega) (λe=>hD.1 e.symm),h0]
    obtain⟨d0,dr,hdr⟩:∃ a b,dl2=a :: b:=by
     cases dl2 with
     | nil=>simp at dn; omega
     | cons a b=>exact⟨a,b,rfl⟩
    have:xA kD 1 (rows IntKind.i64 (dl2.set i k))= xA kD 1 (rows IntKind.i64 dl2):=by
     rw [hdr]
     cases i with
     | zero=>simp [xA,rows]
     | succ i=>simp [xA,rows]
    simp only [kg,this]
   ·rcases hO with ho | ⟨a,b,c,d⟩
    ·exact .inl ho
    ·exact .inr ⟨by omega,b,c,by rw [hl kO (by omega) c]; exact d⟩
   ·rw [xX,if_neg (by omega),xU,if_pos rfl,hD.2.2]; rfl
   ·rw [hl j (by omega) (by omega)]; exact fr j (by omega)
  ·rw [xX,if_neg (by omega),xU,if_neg (by omega)]
 | none=>
  have e:kL i q s2=((s2.out.length:Int),(⟨s2.out ++ [q],nC i s2.out.length s2.done⟩:CS)):=by simp only [kL,hq]
  rw [e]
  refine⟨k2,nx2+1+1,_,nx2+1,dl2.set i (s2.out.length:Int),.inr ⟨hq,rfl,rfl⟩,?_,by omega,.inr (by omega),g0,⟨gz,hk2.1,hk2.2,gD,gO⟩,λj a1 a2 a3 a4=>?_⟩
  ·have hne:vT 6 (zG (s2.out ++ [q]))≠ none:=by obtain⟨e,r,h⟩:=Sp s2.out q;rw [h]; simp [vT]
   have hl:∀ j,j≠nx2+1->j≠nx2->j≠kD->j≠0->j≠k2->St.look (yV (nx2+1) 6 (zG (s2.out ++ [q]))++ (nx2,wT q.op q.i q.e q.g q.x q.y) :: zA (zA (zX objs2 k2) 0 (kg (nx2+1) kD (s2.out ++ [q]) dl2)) kD ⟨1,rows .i64 (dl2.set i (s2.out.length:Int))⟩) j=St.look objs2 j:=λj a b c d e=>by rw [yQ,if_neg (λe=>a e.symm),xX,if_neg (λe=>b e.symm),xU,if_neg (λe=>c e.symm),xU,if_neg (λe=>d e.symm),yX,if_neg (λh=>e h.symm)]
   have hgD:xA kD 1 (rows IntKind.i64 (dl2.set i (s2.out.length:Int)))= xA kD 1 (rows IntKind.i64 dl2):=by
    obtain⟨d0,dr,hdr⟩:∃ a b,dl2=a :: b:=by
     cases dl2 with
     | nil=>simp at dn; omega
     | cons a b=>exact⟨a,b,rfl⟩
    rw [hdr]
    cases i with
    | zero=>simp [xA,rows]
    | succ i=>simp [xA,rows]
   refine⟨by omega,?_,.inr ⟨by omega,by omega,by omega,?_⟩,⟨hD.1,by omega,?_⟩,hdl _,hrel _ _,hpos _ _ (by omega),λj hj=>?_⟩
   ·rw [yQ,if_neg (by omega),xX,if_neg (by omega),xU,if_neg hD.1,xU,if_pos rfl,yX,if_neg gz,h0];simp only [kg,hgD,Af]
   ·rw [yQ,if_pos rfl]
    cases hgg:vT 6 (zG (s2.out ++ [q])) with
    | none=>exact absurd hgg hne
    | some o=>rfl
   ·rw [yQ,if_neg (by omega),xX,if_neg (by omega),xU,if_pos rfl,xU,if_neg (λe=>hD.1 e.symm),yX,if_neg gD,hD.2.2]; rfl
   ·rw [yQ,if_neg (by omega),xX,if_neg (by omega)];refine wF (wF ?_);rw [yX]
    split
    ·rfl
    ·exact fr j (by omega)
  ·have hjk:j≠k2:=by
    rcases gk with ⟨ho,e⟩ | ⟨ho,e,e2⟩
    ·omega
    ·rcases a4 with a4 | a4
     ·rw [e]; exact a4
     ·exact absurd a4 ho
   rw [yQ,if_neg (by omega),xX,if_neg (by omega),xU,if_neg (λe=>a3 e.symm),xU,if_neg (by omega),yX,if_neg (λe=>hjk e.symm)]
end Fm
end
section
open Rs Fm
theorem PE {f:List Nd} {nx i:Nat} {xZ:List (Nat × Ob)} {kO kD:Nat} {s:CS} {dl:List Int} {k:Int} (hI:dR f nx xZ kO kD s dl) (hi:i<f.length) (hu:wL (i:Int) s.done=some k) :
  xY prog 255 [.sl 6 (zG f),.int .i64 i,.ref 0 2 0 0] ⟨nx,xZ⟩ (.int .i64 k) ⟨nx,xZ⟩:=by
 obtain⟨hn,h0,hO,⟨hD0,hDn,hD⟩,dn,rel,pos,fr⟩:=hI;have hr:=rel i hi;rw [hu,Ae] at hr;have hk:0<=k:=pos _ _ hu;have hrl:(rows IntKind.i64 dl).length=dl.length:=zK _ _
 have hgd:(rows IntKind.i64 dl).getD i [] = [.int .i64 k]:=by rw [<- hr]; simp [rows,List.getD,dn,hi]
 refine xY.xQ mixed func255 Ke (by simp) λhf=>?_;simp only [simprocAttr,-ZA,↓zU,↓zD,zV,zT,zW,h0,kg,hrl,dn,hD,hgd,hk]
 (repeat refine sd ?_)
 exact .same
theorem qj {f:List Nd} {kD:Nat} (hc:∀ k,k<f.length->yM (f.getD k wK) k=0) (hlen:f.length<=900):∀ (n:Nat) {i nx:Nat} {xZ:List (Nat × Ob)} {kO:Nat} {s:CS} {dl:List Int},i<n->i<f.length->kE f s->dR f nx xZ kO kD s dl ->
  ∃ nx' objs' kO' dl',dR f nx' objs' kO' kD (xF f n i s).2 dl'/\nx<=nx'/\((kO'=kO/\s.out ≠ [])\/nx<=kO'\/(xF f n i s).2.out = [])/\ (∀ k,1<=k->k<nx->k≠kD->(k≠kO\/s.out = [])->St.look objs' k=St.look xZ k)/\
   xY prog 255 [.sl 6 (zG f),.int .i64 i,.ref 0 2 0 0] ⟨nx,xZ⟩ (.int .i64 (xF f n i s).1) ⟨nx',objs'⟩
 | 0,i,nx,xZ,kO,s,dl,h,_,_,_=>by omega
 | n + 1,i,nx,xZ,kO,s,dl,h,hi,hs,hI=>by
  cases hu:wL (i:Int) s.done with
  | some k=>
   rw [xF,hu];refine⟨nx,xZ,kO,dl,hI,χ _,?_,λ_ _ _ _ _=>rfl,PE hI hi hu⟩
   by_cases ho:s.out = []
   ·exact .inr (.inr ho)
   ·exact .inl ⟨rfl,ho⟩
  | none=>
   rw [mF hu];obtain⟨ox,oy⟩:=mQ (hc i hi);simp only;generalize hp:f.getD i wK=p at ox oy;have hno:dl.getD i 0 = -1:=by rw [hI.rel i hi,hu]; rfl
   have hn:=hI.hn;have hD:=hI.hD;have hA:=hI.alloc (wT p.op p.i p.e p.g p.x p.y);have hA0:∀ k,k<nx->St.look ((nx,wT p.op p.i p.e p.g p.x p.y) :: xZ) k=St.look xZ k:=λk hk=>by rw [xX,if_neg (by omega)]
   have hAn:St.look ((nx,wT p.op p.i p.e p.g p.x p.y) :: xZ) nx=some (wT p.op p.i p.e p.g p.x p.y):=by rw [xX,if_pos rfl]
   have hkO:s.out = []\/kO<nx:=by rcases hI.hO with ho | ⟨a,_⟩; exact .inl ho; exact .inr a
   have S1:∃ nx1 O1 kO1 dl1,dR f nx1 O1 kO1 kD (if (xW p.op).1.x=true then xF f n p.x.toNat s else(p.x,s)).2 dl1/\kE f (if (xW p.op).1.x=true then xF f n p.x.toNat s else(p.x,s)).2/\nx<nx1 /\
     ((kO1=kO/\s.out ≠ [])\/nx+1<=kO1\/(if (xW p.op).1.x=true then xF f n p.x.toNat s else(p.x,s)).2.out = [])/\ (∀ k,1<=k->k<nx->k≠kD->(k≠kO\/s.out = [])->St.look O1 k=St.look xZ k)/\
     (((xW p.op).1.x=true/\∃ objs1,xY prog 255 [.sl 6 (zG f),.int .i64 p.x,.ref 0 2 0 0] ⟨nx+1,(nx,wT p.op p.i p.e p.g p.x p.y) :: xZ⟩ (.int .i64 (if (xW p.op).1.x=true then xF f n p.x.toNat s else(p.x,s)).1) ⟨nx1,objs1⟩/\ St.look objs1 nx=some (wT p.op p.i p.e p.g p.x p.y)/\ O1=zA objs1 nx (wT p.op p.i p.e p.g (if (xW p.op).1.x=true then xF f n p.x.toNat s else(p.x,s)).1 p.y)) \/
      ((xW p.op).1.x=false/\(if (xW p.op).1.x=true then xF f n p.x.toNat s else(p.x,s)).1=p.x/\nx1=nx+1/\O1=(nx,wT p.op p.i p.e p.g p.x p.y) :: xZ))/\
     St.look O1 nx=some (wT p.op p.i p.e p.g (if (xW p.op).1.x=true then xF f n p.x.toNat s else(p.x,s)).1 p.y):=by
    by_cases hx:(xW p.op).1.x=true
    ·obtain⟨hx1,hx2⟩:=ox hx;have hxn:((p.x.toNat:Nat):Int)= p.x:=Ab hx1;obtain⟨nx1,objs1,kO1,dl1,I1,l1,k1,f1,c1⟩:=qj hc hlen n (i:=p.x.toNat) (by omega) (by omega) hs hA;have g1:=oX hc n (i:=p.x.toNat) (s:=s) (by omega) (by omega) hs;rw [if_pos hx];rw [hxn] at c1
     have hl:St.look objs1 nx=some (wT p.op p.i p.e p.g p.x p.y):=by rw [f1 nx hn (by omega) (by omega) (by rcases hkO with h | h; exact .inr h; exact .inl (by omega))]; exact hAn
     have hkn:(xF f n p.x.toNat s).2.out = []\/nx≠kO1:=by
      rcases k1 with ⟨e,ho⟩ | h | h
      ·rcases hkO with h | h
       ·exact absurd h ho
       ·exact .inr (by omega)
      ·exact .inr (by omega)
      ·exact .inl h
     refine⟨nx1,_,kO1,dl1,I1.set (j:=nx) ⟨by omega,by omega,hkn⟩ _,g1.1,by omega,k1,λk a1 a2 a3 a4=>?_,.inl ⟨hx,objs1,c1,hl,rfl⟩,?_⟩
     ·rw [xU,if_neg (by omega),f1 k a1 (by omega) a3 a4]; exact hA0 k a2
     ·rw [xU,if_pos rfl,hl]; rfl
    ·rw [if_neg hx];refine⟨nx+1,_,kO,dl,hA,hs,by omega,?_,λk a1 a2 a3 a4=>hA0 k a2,.inr ⟨by simpa using hx,rfl,rfl,rfl⟩,hAn⟩
     by_cases ho:s.out = []
     ·exact .inr (.inr ho)
     ·exact .inl ⟨rfl,ho⟩
   generalize (if (xW p.op).1.x=true then xF f n p.x.toNat s else(p.x,s))= A at S1;obtain⟨nx1,O1,kO1,dl1,I1,F1,l1,k1,f1,c1,n1⟩:=S1
   have hk1:A.2.out = []\/nx≠kO1:=by
    rcases k1 with ⟨e,ho⟩ | h | h
    ·rcases hkO with h | h
     ·exact absurd h ho
     ·exact .inr (by omega)
    ·exact .inr (by omega)
    ·exact .inl h
   have S2:∃ nx2 O2 kO2 dl2,dR f nx2 O2 kO2 kD (if (xW p.op).1.y=true then xF f n p.y.toNat A.2 else(p.y,A.2)).2 dl2/\kE f (if (xW p.op).1.y=true then xF f n p.y.toNat A.2 else(p.y,A.2)).2/\nx1<=nx2 /\
     ((kO2=kO1/\A.2.out ≠ [])\/nx1<=kO2\/(if (xW p.op).1.y=true then xF f n p.y.toNat A.2 else(p.y,A.2)).2.out = [])/\ (∀ k,1<=k->k<nx->k≠kD->(k≠kO1\/A.2.out = [])->St.look O2 k=St.look O1 k)/\
     (((xW p.op).1.y=true/\∃ objs2,xY prog 255 [.sl 6 (zG f),.int .i64 p.y,.ref 0 2 0 0] ⟨nx1,O1⟩ (.int .i64 (if (xW p.op).1.y=true then xF f n p.y.toNat A.2 else(p.y,A.2)).1) ⟨nx2,objs2⟩/\ St.look objs2 nx=some (wT p.op p.i p.e p.g A.1 p.y)/\ O2=zA objs2 nx (wT p.op p.i p.e p.g A.1 (if (xW p.op).1.y=true then xF f n p.y.toNat A.2 else(p.y,A.2)).1)) \/
      ((xW p.op).1.y=false/\(if (xW p.op).1.y=true then xF f n p.y.toNat A.2 else(p.y,A.2)).1=p.y/\nx2=nx1/\O2=O1))/\
     St.look O2 nx=some (wT p.op p.i p.e p.g A.1 (if (xW p.op).1.y=true then xF f n p.y.toNat A.2 else(p.y,A.2)).1):=by
    by_cases hy:(xW p.op).1.y=true
    ·obtain⟨hy1,hy2⟩:=oy hy;have hyn:((p.y.toNat:Nat):Int)= p.y:=Ab hy1;obtain⟨nx2,objs2,kO2,dl2,I2,l2,k2,f2,c2⟩:=qj hc hlen n (i:=p.y.toNat) (by omega) (by omega) F1 I1;have g2:=oX hc n (i:=p.y.toNat) (s:=A.2) (by omega) (by omega) F1;rw [if_pos hy];rw [hyn] at c2
     have hl:St.look objs2 nx=some (wT p.op p.i p.e p.g A.1 p.y):=by rw [f2 nx hn (by omega) (by omega) (by rcases hk1 with h | h; exact .inr h; exact .inl h)]; exact n1
     have hkn:(xF f n p.y.toNat A.2).2.out = []\/nx≠kO2:=by
      rcases k2 with ⟨e,ho⟩ | h | h
      ·rcases hk1 with h | h
       ·exact absurd h ho
       ·exact .inr (by omega)
      ·exact .inr (by omega)
      ·exact .inl h
     refine⟨nx2,_,kO2,dl2,I2.set (j:=nx) ⟨by omega,by omega,hkn⟩ _,g2.1,by omega,k2,λk a1 a2 a3 a4=>?_,.inl ⟨hy,objs2,c2,hl,rfl⟩,?_⟩
     ·rw [xU,if_neg (by omega),f2 k a1 (by omega) a3 a4]
     ·rw [xU,if_pos rfl,hl]; rfl
    ·rw [if_neg hy];refine⟨nx1,_,kO1,dl1,I1,F1,by omega,?_,λk a1 a2 a3 a4=>rfl,.inr ⟨by simpa using hy,rfl,rfl,rfl⟩,n1⟩
     by_cases ho:A.2.out = []
     ·exact .inr (.inr ho)
     ·exact .inl ⟨rfl,ho⟩
   generalize (if (xW p.op).1.y=true then xF f n p.y.toNat A.2 else(p.y,A.2))= B at S2;obtain⟨nx2,O2,kO2,dl2,I2,F2,l2,k2,f2,c2,n2⟩:=S2
   have hk2:B.2.out = []\/kO2≠nx:=by
    rcases k2 with ⟨e,ho⟩ | h | h
    ·rcases hk1 with h | h
     ·exact absurd h ho
     ·exact .inr (by omega)
    ·exact .inr (by omega)
    ·exact .inl h
   obtain⟨kk,nx',objs',kO',dl',e1,e2,e3,e4,e5,e6,e7⟩:=Q2 (q:=⟨p.op,p.i,p.e,p.g,A.1,B.1⟩) (i:=i) (nx:=nx) I2 hi hn (by omega) hk2
   refine⟨nx',objs',kO',dl',e2,by omega,?_,λk a1 a2 a3 a4=>?_,MO hI.h0 hn hD hI.dn hi hp hno c1 n1 c2 n2 e5 I2.hD.2.2 I2.dn e6 (by have:=F2.len; omega) (by omega) e1⟩
   ·rcases e4 with ⟨a,b⟩ | h
    ·rcases k2 with ⟨c,d⟩ | h | h
     ·rcases k1 with ⟨c',d'⟩ | h | h
      ·exact .inl ⟨by omega,d'⟩
      ·exact .inr (.inl (by omega))
      ·exact absurd h d
     ·exact .inr (.inl (by omega))
     ·exact absurd h b
    ·exact .inr (.inl (by omega))
   ·have ka:k≠kO1\/A.2.out = []:=by
     rcases k1 with ⟨c',d'⟩ | h | h
     ·rcases a4 with a4 | a4
      ·exact .inl (by omega)
      ·exact absurd a4 d'
     ·exact .inl (by omega)
     ·exact .inr h
    have kb:k≠kO2\/B.2.out = []:=by
     rcases k2 with ⟨c',d'⟩ | h | h
     ·rcases ka with a4 | a4
      ·exact .inl (by omega)
      ·exact absurd a4 d'
     ·exact .inl (by omega)
     ·exact .inr h
    rw [e7 k a1 (by omega) a3 kb,f2 k a1 a2 a3 ka,f1 k a1 a2 a3 a4]
open Rs Fm
theorem RE (f:List Nd) (i:Int):yW prog 223 [.sl 6 (zG f),.int .i64 i] (.sl 6 (zG (nU f i))):=by
 refine xY.xQ mixed func223 JE (by simp) λhf=>?_;simp only [simprocAttr,-ZA,↓zU,↓zD,zV,zT,zW];refine .go (cr (af f)) ?_;by_cases hc:yZ f=0
 case neg=> have e:(yZ f != 0)= true:=bne_iff_ne.2 hc;simp only [simprocAttr,-ZA,↓zU,↓zD,zV,zT,zW,e];rw [show nU f i = [] from if_pos (.inl hc)];exact .drop (by simp) (by simp [vw,zG])
 have e:(yZ f != 0)= false:=by simpa using hc
 by_cases h1:i<0
 ·simp only [simprocAttr,-ZA,↓zU,↓zD,zV,zT,zW,e,h1];rw [show nU f i = [] from if_pos (.inr (.inl h1))];exact .drop (by simp) (by simp [vw,zG])
 by_cases h2:(f.length:Int)<=i
 ·simp only [simprocAttr,-ZA,↓zU,↓zD,zV,zT,zW,e,h1,xI,h2];rw [show nU f i = [] from if_pos (.inr (.inr h2))];exact .drop (by simp) (by simp [vw,zG])
 obtain⟨j,rfl⟩:=Ac (show 0<=i by omega);obtain⟨c1,c2,c3⟩:=vH hc;rw [show nU f j=tY f j by rw [nU,if_neg (by omega),Ad]];simp only [simprocAttr,-ZA,↓zU,↓zD,zV,zT,zW,e,h1,xI,h2]
 refine xO (λk:Nat=>[(6,.int .i64 k),(5,.ref 0 2 0 0),(1,.int .i64 j),(0,.sl 6 (zG f))]) (λk=>⟨2,yV 1 1 (rows .i64 (List.replicate k (-1)))++ [(0,⟨2,[[.xJ,xA 1 1 (rows .i64 (List.replicate k (-1)))]]⟩)]⟩) (λk=>k<=f.length) (λk=>f.length-k) 0 (υ _) ?_ ?_
 ·(refine xT.sZ [] [0] (by simp) (by simp) (by decide) ?_; simp only [yT,zQ,simprocAttr,-ZA,exists_eq_left',ne_eq,zR,List.replicate_zero,jZ,vU,vV,List.nil_append])
 intro k hk;refine xL mixed ?_
 by_cases h:k<f.length
 ·have hd:((k:Int)<(f.length:Int)):=by omega
  have hw:IntKind.i64.wrap ((k:Int)+ 1)= ((k+1:Nat):Int):=wrap_i64 (by omega);have hrl:(rows IntKind.i64 (List.replicate k (-1))).length=k:=by simp [rows]
  have hsn:rows IntKind.i64 (List.replicate (k+1) (-1))= rows .i64 (List.replicate k (-1))++ [[.int .i64 (-1)]]:=by rw [List.replicate_succ']; simp [rows]
  simp only [simprocAttr,-ZA,↓zU,↓zD,zV,zT,zW,hd,xI,hrl]
  (repeat refine sd ?_)
  refine⟨k+1,by omega,?_,by omega⟩;rw [hsn]
  (refine xT.sZ [(1,2)] [1,0] (by simp) (by simp) (by decide) ?_; simp only [yT,zQ,simprocAttr,-ZA,exists_eq_left',ne_eq,zR,hw])
 have hd:¬ ((k:Int)<(f.length:Int)):=by omega
 obtain rfl:k=f.length:=by omega
 simp only [simprocAttr,-ZA,↓zU,↓zD,zV,zT,zW,hd,xI];have hne:0<f.length:=by cases f with | nil=>exact absurd rfl c1 | cons a b=>simp
 have hI0:dR f 2 (yV 1 1 (rows .i64 (List.replicate f.length (-1)))++ [(0,⟨2,[[.xJ,xA 1 1 (rows .i64 (List.replicate f.length (-1)))]]⟩)]) 11 1 ⟨[],[]⟩ (List.replicate f.length (-1)):=by
  have hcons:∃ a b,rows IntKind.i64 (List.replicate f.length (-1))= a :: b:=by
   cases hl:f.length with
   | zero=>omega
   | succ m=>exact⟨_,_,rfl⟩
  refine⟨by omega,by rw [yQ,if_neg (by omega)]; rfl,.inl rfl,⟨by omega,by omega,?_⟩,by simp,λi hi=>?_,λz k h=>(by cases h),λk hk=>?_⟩
  ·obtain⟨a,b,hab⟩:=hcons;rw [hab]; rfl
  ·simp [List.getD,hi,wL]
  ·rw [yQ,if_neg (by omega),xX,if_neg (by omega)]; rfl
 obtain⟨nx',objs',kO',dl',I1,_,_,_,cc⟩:=qj c3 (by omega) (j+1) (i:=j) (by omega) (show j<f.length by omega) ⟨χ _,by simp,λp hp=>by cases hp⟩ hI0;have ee:(xF f (j+1) j ⟨[],[]⟩).2.out=tY f j:=rfl;have g0:=I1.h0;have gO:=I1.hO;rw [ee] at g0 gO;refine .go cc ?_;simp only [simprocAttr,-ZA,↓zU,↓zD,zV,zT,zW,g0,kg]
 (repeat refine sd ?_)
 rcases gO with hO | ⟨a1,a2,a3,a4⟩
 ·rw [hO];exact .drop (by simp) (by simp [vw,zG,xA])
 ·exact .drop (by simp) (iJ (by simp) (aH _) a4)
theorem iC (f:List Nd):yW prog 179 [.sl 6 (zG f)] (.sl 6 (zG (xE f))):=by refine xY.xQ mixed func179 Ih (by simp) λhf=>?_;simp only [D.rJ,D.fact,xI] at hf;have hlen:=hf.1.1;have e:IntKind.i64.wrap ((f.length:Int)-1)= (f.length:Int)-1:=wrap_i64 (by omega);simp only [simprocAttr,-ZA,↓zU,↓zD,zV,zT,zW,xI,e];refine .go (cr (RE f _)) ?_;simp only [simprocAttr,-ZA,↓zU,↓zD,zV,zT,zW];exact .same
theorem ZZ (f:List Nd):yW prog 182 [.sl 6 (zG f)] (.int .i64 (kU f)):=by
 have hlen:=nS f ((f.length:Int)-1);rw [show nU f ((f.length:Int)-1)= xE f from rfl] at hlen;have hnd:=mY f
 have hall:∀ p ∈ xE f,rK p<4096:=λp hp=>by obtain⟨k,hk⟩:=kZ hnd hp;exact XT hk
 refine xY.xQ mixed func182 Ik (by simp) λhf=>?_;simp only [simprocAttr,-ZA,↓zU,↓zD,zV,zT,zW];refine .go (cr (iC f)) ?_;simp only [simprocAttr,-ZA,↓zU,↓zD,zV,zT,zW];unfold kU;generalize xE f=c at hlen hnd hall
 refine xO (λk:Nat=>[(5,.int .i64 k),(4,.int .i64 (yA rK (c.take k))),(3,.sl 6 (zG c))]) (λ_=>⟨0,[]⟩) (λk=>k<=c.length) (λk=>c.length-k) 0 (υ _) ?_ ?_
 ·(refine xT.same ?_; simp [xR,Fr.get,yA])
 intro k hk;refine xL mixed ?_
 by_cases h:k<c.length
 ·have hd:((k:Int)<(c.length:Int)):=by omega
  have hw:IntKind.i64.wrap ((k:Int)+ 1)= ((k+1:Nat):Int):=wrap_i64 (by omega);have hg:=sX c h;have hq:=hnd k h;have hlt:yA rK (c.take k)<2 ^ 12:=nI λp hp=>hall p (τ hp);have hs:yA rK (c.take (k+1))= yA rK (c.take k) ||| rK (c.getD k wK):=by rw [vW (d:=wK) h,lK]
  generalize c.getD k wK=p at hg hq hs;have hu:=WW p.op
  by_cases h3:p.op=3
  ·have e3:(p.op==3)= true:=by simpa using h3
   rw [e3] at hu;obtain⟨i0,i7⟩:=lQ hq hu.symm;obtain⟨m,hm⟩:=Ac i0;have hm7:m<=7:=by omega
   have hp2:(2:Nat)^ m<2 ^ 62:=Nat.pow_lt_pow_right (by omega) (by omega);have hor:=jw (a:=yA rK (c.take k)) (b:=2 ^ m) (by omega) hp2;have hfn:rK p=2 ^ m:=by rw [rK,if_pos hu.symm,hm,Ad]
   simp only [simprocAttr,-ZA,↓zU,↓zD,zV,zT,zW,hd,xI,hg,Nd.row,e3,hm,TO (show m<=61 by omega),hor]
   (repeat refine sd ?_)
   refine⟨k+1,by omega,?_,by omega⟩;rw [hs,hfn]
   (refine xT.same ?_; simp only [xR,Fr.get,simprocAttr,-ZA,zS])
   exact hw
  ·have e3:(p.op==3)= false:=by simpa using h3
   rw [e3] at hu;have hfn:rK p=0:=by rw [rK,if_neg (by rw [<- hu]; simp)]
   simp only [simprocAttr,-ZA,↓zU,↓zD,zV,zT,zW,hd,xI,hg,Nd.row,e3]
   (repeat refine sd ?_)
   refine⟨k+1,by omega,?_,by omega⟩;rw [hs,hfn,Nat.or_zero]
   (refine xT.same ?_; simp only [xR,Fr.get,simprocAttr,-ZA,zS])
   exact hw
 have hd:¬ ((k:Int)<(c.length:Int)):=by omega
 obtain rfl:k=c.length:=by omega
 simp only [simprocAttr,-ZA,↓zU,↓zD,zV,zT,zW,hd,xI];exact .same
end
end Go.Pd
