/- Part F16. -/
import Derived.Test.YtndfaefmmcoapaaGreatGeX9
set_option linter.unusedSectionVars false
set_option linter.unusedVariables false
set_option linter.unusedSimpArgs false
set_option linter.defProp false
set_option maxRecDepth 20000
set_option maxHeartbeats 1000000
open Go.Proofs.Tryz
open Bool renaming not_false->γ,not_true->δ,or_eq_false_iff->ε,true_and->ζ,and_eq_true->η
open List renaming getD_eq_getElem?_getD->θ,length_append->κ,length_singleton->μ,getElem?_append_left->ν,getElem?_eq_getElem->ξ,drop_eq_nil_of_le->ο,length_map->π,mem_of_mem_take->τ
open Nat renaming zero_le->υ,le_refl->χ,pow_le_pow_right->ψ,or_lt_two_pow->ω
open Int renaming toNat_of_nonneg->Aa,eq_ofNat_of_zero_le->Ab,toNat_natCast->Ac
open Option renaming getD_some->Ad,map_some->Ae
open BitVec renaming ofInt_natCast->Af,toNat_ofNat->Ag
namespace Go.Pd
open Go Go.Proofs
open BitVec renaming isValue -> ZA
open Rs Fm
theorem jh {a b:Nat} (ha:a<2 ^ 62) (hb:b<2 ^ 62):sW .or .i64 (a:Int) (b:Int)= ((a ||| b:Nat):Int):=by show IntKind.i64.wrap ((BitVec.ofInt 64 (a:Int) ||| BitVec.ofInt 64 (b:Int)).toNat:Int)= _;rw [Af,Af,BitVec.toNat_or,Ag,Ag,Nat.mod_eq_of_lt (by omega),Nat.mod_eq_of_lt (by omega)];have:=ω ha hb;exact wrap_i64 (by omega)
namespace Fm
def wW (m:Nd->Nat) (l:List Nd):Nat:=l.foldl (λa p=>a ||| m p) 0
theorem kU (m:Nd->Nat) (l:List Nd) (p:Nd):wW m (l ++ [p])= wW m l ||| m p:=by simp [wW]
theorem mK {m:Nd->Nat} {l:List Nd} (h:∀ p ∈ l,m p<4096):wW m l<2 ^ 12:=by
 have key:∀ (l:List Nd) (a:Nat),a<2 ^ 12->(∀ p ∈ l,m p<4096)->l.foldl (λa p=>a ||| m p) a<2 ^ 12:=by
  intro l
  induction l with
  | nil=>intro a ha _; exact ha
  | cons p r ih=>intro a ha h; exact ih _ (ω ha (h p (by simp))) λq hq=>h q (by simp [hq])
 exact key l 0 (by decide) h
end Fm
theorem x8 {f:List Nd} {g:FuncId} {m:Nd->Nat} (hm:∀ p ∈ xD f,m p<4096) (h:∀ p ∈ xD f,xA prog g [.agg p.row,.agg (xY p.op).1.row] (.int .i64 (m p))) (hlen:(xD f).length<=1000) :
  xA prog 111 [.sl 6 (wN f),.fn g []] (.int .i64 (wW m (xD f))):=by
 refine xI func111 IE λhf=>?_;refine xJ ?_;refine .go (cr (bz f)) ?_;generalize xD f=l at hm h hlen;refine xH xM ?_
 refine xU (λk:Nat=>[(13,.int .i64 k),(12,.int .i64 l.length),(11,.sl 6 (wN l)),(5,.int .i64 (wW m (l.take k))),(1,.fn g [])]) (λ_=>⟨0,[]⟩) (λk=>k<=l.length) (λk=>l.length-k) 0 (υ _) ?_ ?_
 ·(refine yR.same ?_; simp [yS,Fr.get,wW])
 intro k hk;refine xN mixed ?_;by_cases hh:k<l.length
 case neg=>
  have hd:¬ ((k:Int)<(l.length:Int)):=by omega
  rw [xf (show k=l.length by omega)];refine xH hd ?_;exact .same
 have hd:((k:Int)<(l.length:Int)):=by omega
 have hs:wW m (l.take (k+1))= wW m (l.take k) ||| m (l.getD k vV):=by rw [yE (d:=vV) hh,kU]
 have hg:=sE l hh;have hmem:=xK (d:=vV) hh;have hlt:wW m (l.take k)<2 ^ 12:=mK λp hp=>hm p (τ hp);generalize l.getD k vV=p at hs hg hmem;have hmp:=hm p hmem;simp only [simprocAttr,-ZA,↓zU,↓zD,zV,zT,zW,hd,xM,hg,Nd.row]
 (repeat refine sd ?_)
 refine .go (cq (zn p.op)) ?_;simp only [simprocAttr,-ZA,↓zU,↓zD,zV,zT,zW,ry.row]
 (repeat refine sd ?_)
 refine .go (xQ.yP (h p hmem) (by simp [D.xR,D.xF,Nd.row,ry.row])) ?_;simp only [simprocAttr,-ZA,↓zU,↓zD,zV,zT,zW,jh (show wW m (l.take k)<2 ^ 62 by omega) (show m p<2 ^ 62 by omega)];refine⟨k+1,by omega,?_,by omega⟩;rw [hs]
 (refine yR.view (λk=>k) (by simp) (by simp) ?_ (by simp [stays]) (by simp [qY]); simp [bw,vw,vC,Fr.get])
 exact wrap_i64 (by omega)
open Rs Fm
namespace Fm
theorem eC (op:Int):0<=(xY op).1.fr/\(xY op).1.fr<=256:=by
 have hc:op=1\/op=2\/op=3\/op=4\/op=5\/op=6\/op=7\/op=8\/op=9\/op=10\/op=11\/op=12\/op=13\/op=14\/op=15\/op=16\/op=17\/op=18\/op=19\/op=20\/op=21\/(op<1\/21<op):=by omega
 rcases hc with rfl | rfl | rfl | rfl | rfl | rfl | rfl | rfl | rfl | rfl | rfl | rfl | rfl | rfl | rfl | rfl | rfl | rfl | rfl | rfl | rfl | hc
 rotate_right
 ·rw [show xY op=(rB,false) from if_pos hc]; exact⟨by decide,by decide⟩
 all_goals simp [xY,rB]
def rA (p:Nd):Nat:=(xY p.op).1.fr.toNat
def zX (f:List Nd):Nat:=wW rA (xD f)
theorem WY {f:List Nd} {i:Nat} (hc:∀ k,k<f.length->zP (f.getD k vV) k=0) (hi:i<f.length):(tC f i).length<=f.length:=(oD hc (i+1) (i:=i) (s:=⟨[],[]⟩) (by omega) hi ⟨χ _,by simp,λp hp=>by cases hp⟩).1.len
theorem mS (f:List Nd) (i:Int):(rY f i).length<=200:=by
 unfold rY
 by_cases h:yW f≠0\/i<0\/(f.length:Int)<=i
 ·rw [if_pos h]; simp
 ·rw [if_neg h];obtain⟨c1,c2,c3⟩:=zE (f:=f) (by omega);have:=WY c3 (i:=i.toNat) (by omega);omega
end Fm
theorem VE (f:List Nd):xA prog 53 [.sl 6 (wN f)] (.int .i64 (zX f)):=by
 refine xI func53 FH λhf=>?_;refine xJ ?_
 refine .go (xQ.yP (x8 (m:=rA) (λp _=>by have:=eC p.op; unfold rA; omega) (λp _=>?_) (by have:=mS f ((f.length:Int)-1); unfold xD; omega)) rfl) ?_
 ·have h:=O7 p (xY p.op).1;have:=eC p.op;rw [show ((rA p:Nat):Int)= (xY p.op).1.fr from Aa this.1];exact h
 refine xJ ?_;exact .same
open Rs Fm
namespace Fm
def iI (m:Nat) (n:Int):Bool:=decide (31<=n) || decide (m / 2 ^ n.toNat=0)
end Fm
theorem SO (m:Nat) (n:Int):xA prog 146 [.int .i64 m,.int .i64 n] (.bool (iI m n)):=by
 refine xI func146 Io λhf=>?_
 by_cases h1:31<=n
 ·refine xH h1 ?_;exact .drop (by simp) (by simp [vw,iI,h1])
 have e:max n 0=((n.toNat:Nat):Int):=by omega
 have e2:max 0 n=((n.toNat:Nat):Int):=by omega
 have hb:(((m / 2 ^ n.toNat:Nat):Int)== 0)= decide (m / 2 ^ n.toNat=0):=by rw [Bool.eq_iff_iff,beq_iff_eq,decide_eq_true_iff]; omega
 simp only [simprocAttr,-ZA,↓zU,↓zD,zV,zT,zW,h1,MK,e,e2,kA m n.toNat (by omega),hb]
 (repeat refine sd ?_)
 exact .drop (by simp) (by simp [vw,iI,h1])
open Rs Fm
namespace Fm
theorem vU {p:Nd} {k:Int}:zP p k=0 ↔ (xY p.op).2=true/\yQ (xY p.op).1.x p.x k=true/\yQ (xY p.op).1.y p.y k=true /\
  ((!((xY p.op).1.fa || (xY p.op).1.ag || (xY p.op).1.ev)&& decide (p.i≠0)) || (!(xY p.op).1.ev&&decide (p.e≠0)) || (!(xY p.op).1.gr&&decide (p.g≠0)))= false /\
  (xG (xY p.op).1.fa p.i 0 7 || xG (xY p.op).1.ag p.i 0 3 || xG (xY p.op).1.ev p.i 0 7 || xG (xY p.op).1.ev p.e 0 7 || xG (xY p.op).1.gr p.g 1 15)= false:=by
 unfold zP
 cases h1:(xY p.op).2
 ·simp
 cases h2:yQ (xY p.op).1.x p.x k
 ·simp
 cases h3:yQ (xY p.op).1.y p.y k
 ·simp
 generalize ((!((xY p.op).1.fa || (xY p.op).1.ag || (xY p.op).1.ev)&& decide (p.i≠0)) || (!(xY p.op).1.ev&&decide (p.e≠0)) || (!(xY p.op).1.gr&&decide (p.g≠0)))= c;generalize (xG (xY p.op).1.fa p.i 0 7 || xG (xY p.op).1.ag p.i 0 3 || xG (xY p.op).1.ev p.i 0 7 || xG (xY p.op).1.ev p.e 0 7 || xG (xY p.op).1.gr p.g 1 15)= d;cases c <;> cases d <;> simp
theorem cO {p:Nd} {a b k k':Int} (h:zP p k=0) (ha:if (xY p.op).1.x=true then 0<=a/\a<k' else a=p.x) (hb:if (xY p.op).1.y=true then 0<=b/\b<k' else b=p.y):zP ⟨p.op,p.i,p.e,p.g,a,b⟩ k'=0:=by
 rw [vU] at h ⊢;obtain⟨h1,h2,h3,h4,h5⟩:=h
 refine⟨h1,?_,?_,h4,h5⟩
 ·simp only
  cases hx:(xY p.op).1.x
  ·rw [hx] at ha h2;rw [if_neg (by simp)] at ha;rw [ha]; exact h2
  ·rw [hx,if_pos rfl] at ha;simp [yQ,ha]
 ·simp only
  cases hx:(xY p.op).1.y
  ·rw [hx] at hb h3;rw [if_neg (by simp)] at hb;rw [hb]; exact h3
  ·rw [hx,if_pos rfl] at hb;simp [yQ,hb]
structure Uu (s : CS) : Prop where
 nd:∀ k,k<s.out.length->zP (s.out.getD k vV) k=0
 dn:∀ z k:Int,vX z s.done=some k->0<=k/\k<s.out.length
theorem Va {q:Nd}:∀ {l:List Nd} {k j:Nat},rE q l k=some j->k<=j/\j<k+l.length
 | [],_,_,h=>by cases h
 | p :: r,k,j,h=>by
  unfold rE at h
  by_cases e:q=p
  ·rw [if_pos e] at h; cases h; simp
  ·rw [if_neg e] at h;have:=Va h;simp only [List.length_cons]; omega
theorem Ly {s:CS} {i:Nat} {q:Nd} (h:Uu s) (hq:zP q s.out.length=0):Uu (jP i q s).2/\0<=(jP i q s).1/\(jP i q s).1<(jP i q s).2.out.length/\s.out.length<=(jP i q s).2.out.length:=by
 unfold jP
 cases he:rE q s.out 0 with
 | some k=>
  have hk:=Va he;refine⟨⟨h.nd,λz j hz=>?_⟩,by simp,by simp only; omega,χ _⟩;simp only at hz;rw [qX] at hz
  by_cases e:z=i
  ·rw [if_pos e] at hz; cases hz; simp only; omega
  ·rw [if_neg e] at hz; exact h.dn z j hz
 | none=>
  refine⟨⟨λk hk=>?_,λz j hz=>?_⟩,by simp,by simp; omega,by simp⟩
  ·simp only [κ,μ] at hk
   by_cases hl:k<s.out.length
   ·have:=h.nd k hl;simp only [θ] at this ⊢
    rwa [ν hl]
   ·obtain rfl:k=s.out.length:=by omega
    simpa [θ] using hq
  ·simp only at hz;rw [qX] at hz
   by_cases e:z=i
   ·rw [if_pos e] at hz; cases hz; simp; omega
   ·rw [if_neg e] at hz;have:=h.dn z j hz;simp only [κ,μ]; omega
theorem cK {f:List Nd} (hc:∀ k,k<f.length->zP (f.getD k vV) k=0):∀ (n:Nat) {i:Nat} {s:CS},i<n->i<f.length->Uu s ->
  Uu (xE f n i s).2/\0<=(xE f n i s).1/\(xE f n i s).1<(xE f n i s).2.out.length/\s.out.length<=(xE f n i s).2.out.length
 | 0,i,s,h,_,_=>by omega
 | n + 1,i,s,h,hi,hs=>by
  cases hu:vX i s.done with
  | some k=>rw [xE,hu]; exact⟨hs,(hs.dn _ _ hu).1,(hs.dn _ _ hu).2,χ _⟩
  | none=>
   rw [lG hu];have hp:=hc i hi;obtain⟨ox,oy⟩:=nI hp;simp only;generalize f.getD i vV=p at ox oy hp
   have ha:Uu (if (xY p.op).1.x=true then xE f n p.x.toNat s else(p.x,s)).2/\(if (xY p.op).1.x=true then 0<=(if (xY p.op).1.x=true then xE f n p.x.toNat s else(p.x,s)).1/\(if (xY p.op).1.x=true then xE f n p.x.toNat s else(p.x,s)).1<(if (xY p.op).1.x=true then xE f n p.x.toNat s else(p.x,s)).2.out.length else(if (xY p.op).1.x=true then xE f n p.x.toNat s else(p.x,s)).1=p.x)/\ s.out.length<=(if (xY p.op).1.x=true then xE f n p.x.toNat s else(p.x,s)).2.out.length:=by
    by_cases hx:(xY p.op).1.x=true
    ·simp only [if_pos hx];have:=ox hx;obtain⟨b1,b2,b3,b4⟩:=cK hc n (i:=p.x.toNat) (s:=s) (by omega) (by omega) hs;exact⟨b1,⟨b2,b3⟩,b4⟩
    ·simp only [if_neg hx]; exact⟨hs,trivial,χ _⟩
   generalize (if (xY p.op).1.x=true then xE f n p.x.toNat s else(p.x,s))= a at ha;obtain⟨a1,a2,a3⟩:=ha
   have hb:Uu (if (xY p.op).1.y=true then xE f n p.y.toNat a.2 else(p.y,a.2)).2/\(if (xY p.op).1.y=true then 0<=(if (xY p.op).1.y=true then xE f n p.y.toNat a.2 else(p.y,a.2)).1/\(if (xY p.op).1.y=true then xE f n p.y.toNat a.2 else(p.y,a.2)).1<(if (xY p.op).1.y=true then xE f n p.y.toNat a.2 else(p.y,a.2)).2.out.length else(if (xY p.op).1.y=true then xE f n p.y.toNat a.2 else(p.y,a.2)).1=p.y)/\ a.2.out.length<=(if (xY p.op).1.y=true then xE f n p.y.toNat a.2 else(p.y,a.2)).2.out.length:=by
    by_cases hy:(xY p.op).1.y=true
    ·simp only [if_pos hy];have:=oy hy;obtain⟨b1,b2,b3,b4⟩:=cK hc n (i:=p.y.toNat) (s:=a.2) (by omega) (by omega) a1;exact⟨b1,⟨b2,b3⟩,b4⟩
    ·simp only [if_neg hy]; exact⟨a1,trivial,χ _⟩
   generalize (if (xY p.op).1.y=true then xE f n p.y.toNat a.2 else(p.y,a.2))= b at hb;obtain⟨b1,b2,b3⟩:=hb
   have hq:zP ⟨p.op,p.i,p.e,p.g,a.1,b.1⟩ b.2.out.length=0:=by
    refine cO hp ?_ b2
    split
    ·rename_i hx;rw [if_pos hx] at a2; omega
    ·rename_i hx;rw [if_neg hx] at a2; exact a2
   obtain⟨e1,e2,e3,e4⟩:=Ly (i:=i) b1 hq;exact⟨e1,e2,e3,by omega⟩
theorem iM (f:List Nd) (i:Int):∀ k,k<(rY f i).length->zP ((rY f i).getD k vV) k=0:=by
 unfold rY
 by_cases h:yW f≠0\/i<0\/(f.length:Int)<=i
 ·rw [if_pos h]; intro k hk; simp at hk
 ·rw [if_neg h];obtain⟨c1,c2,c3⟩:=zE (f:=f) (by omega);exact(cK c3 (i.toNat+1) (i:=i.toNat) (s:=⟨[],[]⟩) (by omega) (by omega) ⟨λk hk=>by simp at hk,λz k hz=>by cases hz⟩).1.nd
theorem MZ {f:List Nd} {i:Nat} (hc:yW f=0) (hi:i<f.length):0<(rY f i).length:=by obtain⟨c1,c2,c3⟩:=zE hc;unfold rY;rw [if_neg (by omega)];have:=(cK c3 ((i:Int).toNat+1) (i:=(i:Int).toNat) (s:=⟨[],[]⟩) (by omega) (by omega) ⟨λk hk=>by simp at hk,λz k hz=>by cases hz⟩).2;unfold tC;omega
theorem gP {f:List Nd} (hc:yW f=0):0<(xD f).length:=by
 have h1:=(zE hc).1;have:0<f.length:=List.length_pos_iff.2 h1;have:=MZ (i:=f.length-1) hc (by omega);unfold xD
 rwa [show ((f.length:Int)-1)= ((f.length-1:Nat):Int) by omega]
theorem jX {l:List Nd} (h:∀ k,k<l.length->zP (l.getD k vV) k=0) {p:Nd} (hp:p ∈ l):∃ k:Nat,zP p k=0:=by
 obtain⟨k,hk,rfl⟩:=List.getElem_of_mem hp;refine⟨k,?_⟩;have:=h k hk
 rwa [θ,ξ hk] at this
theorem mR {p:Nd} {k:Int} (h:zP p k=0) (hf:(xY p.op).1.fa=true):0<=p.i/\p.i<=7:=by have:=(vU.1 h).2.2.2.2;simp only [xG,hf,ε,ζ,decide_eq_false_iff_not] at this;omega
theorem rU {p:Nd} {k:Int} (h:zP p k=0) (hf:(xY p.op).1.ag=true):0<=p.i/\p.i<=3:=by have:=(vU.1 h).2.2.2.2;simp only [xG,hf,ε,ζ,decide_eq_false_iff_not] at this;omega
theorem eR {p:Nd} {k:Int} (h:zP p k=0):0<=p.g/\p.g<=15:=by
 have h1:=(vU.1 h).2.2.2.2;have h2:=(vU.1 h).2.2.2.1
 cases hg:(xY p.op).1.gr
 ·simp only [hg,ε,γ,ζ,decide_eq_false_iff_not] at h2;omega
 ·simp only [xG,hg,ε,ζ,decide_eq_false_iff_not] at h1;omega
def tW (p:Nd):Nat:=if (xY p.op).1.ag=true then 2 ^ p.i.toNat else p.g.toNat
def qI (p:Nd):Nat:=if (xY p.op).1.fa=true then 2 ^ p.i.toNat else 0
def oZ (f:List Nd):Nat:=wW tW (xD f)
def jZ (f:List Nd):Nat:=wW qI (xD f)
theorem cj {p:Nd} {k:Int} (h:zP p k=0):tW p<4096:=by
 unfold tW
 split
 ·rename_i hf;have:=rU h hf;have:2 ^ p.i.toNat<=2 ^ 3:=ψ (by decide) (by omega);omega
 ·have:=eR h;omega
theorem Yj {p:Nd} {k:Int} (h:zP p k=0):qI p<4096:=by
 unfold qI
 split
 ·rename_i hf;have:=mR h hf;have:2 ^ p.i.toNat<=2 ^ 7:=ψ (by decide) (by omega);omega
 ·omega
def sL (f:List Nd) (a b:Int):Bool:=decide (yW f=0)&& iI (oZ f) a&&iI (jZ f) b
end Fm
theorem Po (f:List Nd):xA prog 147 [.sl 6 (wN f)] (.int .i64 (oZ f)):=by
 refine xI func147 Ip λhf=>?_;refine xJ ?_
 refine .go (xQ.yP (x8 (m:=tW) (λp hp=>?_) (λp hp=>?_) (by have:=mS f ((f.length:Int)-1); unfold xD; omega)) rfl) ?_
 ·obtain⟨k,hk⟩:=jX (iM f _) hp;exact cj hk
 ·obtain⟨k,hk⟩:=jX (iM f _) hp;have h:=Pp p (xY p.op).1 (λha=>by have:=rU hk ha; omega)
  rw [show ((tW p:Nat):Int)= (if (xY p.op).1.ag=true then((2 ^ p.i.toNat:Nat):Int) else p.g) by
   unfold tW
   split
   ·rfl
   ·have:=eR hk; omega]
  exact h
 refine xJ ?_;exact .same
theorem Ng (f:List Nd):xA prog 148 [.sl 6 (wN f)] (.int .i64 (jZ f)):=by
 refine xI func148 Iq λhf=>?_;refine xJ ?_
 refine .go (xQ.yP (x8 (m:=qI) (λp hp=>?_) (λp hp=>?_) (by have:=mS f ((f.length:Int)-1); unfold xD; omega)) rfl) ?_
 ·obtain⟨k,hk⟩:=jX (iM f _) hp;exact Yj hk
 ·obtain⟨k,hk⟩:=jX (iM f _) hp;have h:=O6 p (xY p.op).1 (λha=>by have:=mR hk ha; omega)
  rw [show ((qI p:Nat):Int)= (if (xY p.op).1.fa=true then((2 ^ p.i.toNat:Nat):Int) else 0) by unfold qI;split <;> rfl]
  exact h
 refine xJ ?_;exact .same
theorem SA (f:List Nd) (a b:Int):xA prog 101 [.sl 6 (wN f),.int .i64 a,.int .i64 b] (.bool (sL f a b)):=by
 refine xI func101 IC λhf=>?_;refine xJ ?_;refine .go (cr (eN f)) ?_;by_cases hc:yW f=0
 case neg=>
  have e:(yW f==0)= false:=by simpa using hc
  refine xH e ?_;exact .drop (by simp) (by simp [vw,sL,hc])
 have e:(yW f==0)= true:=by simpa using hc
 refine xH e ?_;refine .go (cr (Po f)) ?_;refine xJ ?_;refine .go (xQ.yP (SO (oZ f) a) rfl) ?_
 cases hb:iI (oZ f) a
 ·refine xJ ?_;exact .drop (by simp) (by simp [vw,sL,hb])
 refine xJ ?_;refine .go (cr (Ng f)) ?_;refine xJ ?_;refine .go (xQ.yP (SO (jZ f) b) rfl) ?_;refine xJ ?_;exact .drop (by simp) (by simp [vw,sL,hb,hc])
open Rs Fm
namespace Fm
def rb (l:List Bool):List (List D):=l.map λb=>[.bool b]
theorem wY (l:List Bool):(rb l).length=l.length:=by simp [rb]
theorem qv (l:List Bool) {i:Nat} (h:i<l.length):(rb l).getD i [] = [.bool (l.getD i false)]:=by simp [rb,List.getD,h]
theorem qw (l:List Bool) (i:Nat) (b:Bool):(rb l).set i [.bool b]=rb (l.set i b):=by simp [rb,List.map_set]
theorem o9 (n:Nat) (b:Bool):List.replicate n [D.bool b]=rb (List.replicate n b):=by simp [rb]
theorem P1 (l:List Bool):∀ e ∈ rb l,D.xR e=true:=by intro e he;simp only [rb,List.mem_map] at he;obtain⟨n,_,rfl⟩:=he;rfl
theorem vL (l:List Bool):rP (rb l)= True:=eq_true (P1 l)
theorem cD (a b:D):List.set [a] 0 b = [b]:=rfl
theorem v7 {p:Nd} {k:Nat} (h:zP p k=0):(∃ x:Nat,p.x=x/\x<=k)/\ (∃ y:Nat,p.y=y/\y<=k):=by
 obtain⟨_,h2,h3,_⟩:=vU.1 h
 refine⟨?_,?_⟩
 ·unfold yQ at h2
  split at h2
  ·simp only [η,decide_eq_true_eq] at h2;exact⟨p.x.toNat,by omega,by omega⟩
  ·simp only [decide_eq_true_eq] at h2;exact⟨0,by omega,by omega⟩
 ·unfold yQ at h3
  split at h3
  ·simp only [η,decide_eq_true_eq] at h3;exact⟨p.y.toNat,by omega,by omega⟩
  ·simp only [decide_eq_true_eq] at h3;exact⟨0,by omega,by omega⟩
end Fm
open Rs Fm
namespace Fm
end Fm
open Rs Fm
namespace Fm
def nl (ops:List (List Nd)):List (List D):=ops.map λo=>[.sl 6 (wN o)]
theorem Se (l:List (List Nd)):(nl l).length=l.length:=by simp [nl]
theorem MM (l:List (List Nd)) {i:Nat} (h:i<l.length):(nl l).getD i [] = [.sl 6 (wN (l.getD i []))]:=by simp [nl,List.getD,h]
theorem wu (l:List Nd):rP (wN l)= True:=eq_true (xc l)
theorem XL (l:List Nd) (a b c d e f:Int):wN l ++ [[.int .i64 a,.int .i64 b,.int .i64 c,.int .i64 d,.int .i64 e,.int .i64 f]]=wN (l ++ [⟨a,b,c,d,e,f⟩]):=by simp [wN,Nd.row]
theorem OW : wN [] = []:=rfl
theorem OZ (l:List Nd):∀ e ∈ wN l,e.length=6:=by intro e he;simp only [wN,List.mem_map] at he;obtain⟨p,_,rfl⟩:=he;rfl
def pZ (n:Nat) (p:Nd):Nd:=⟨p.op,p.i,p.e,p.g,if (xY p.op).1.x=true then p.x+n else p.x,if (xY p.op).1.y=true then p.y+n else p.y⟩
def vP (f:List Nd):Prop:=∀ k,k<f.length->zP (f.getD k vV) k=0
theorem Ra {p:Nd} {k n:Nat} (h:zP p k=0):zP (pZ n p) ((n+k:Nat):Int)= 0:=by
 obtain⟨ox,oy⟩:=nI h
 refine cO h ?_ ?_
 ·split
  ·rename_i hx; have:=ox hx; omega
  ·rfl
 ·split
  ·rename_i hy; have:=oy hy; omega
  ·rfl
theorem ZB {f c:List Nd} (hf:vP f) (hc:vP c):vP (f++c.map (pZ f.length)):=by
 intro k hk;simp only [κ,π] at hk;simp only [θ]
 by_cases h:k<f.length
 ·rw [ν h];have:=hf k h
  rwa [θ] at this
 ·rw [List.getElem?_append_right (by omega),List.getElem?_map];have hk':k-f.length<c.length:=by omega
  have h1:=hc (k-f.length) hk';rw [θ,ξ hk',Ad] at h1;rw [ξ hk',Ae,Ad];have:=Ra (n:=f.length) h1
  rwa [show f.length+(k-f.length)= k by omega] at this
theorem vi {f:List Nd} {p:Nd} (hf:vP f) (hp:zP p f.length=0):vP (f ++ [p]):=by
 intro k hk;simp only [κ,μ] at hk;simp only [θ]
 by_cases h:k<f.length
 ·rw [ν h];have:=hf k h
  rwa [θ] at this
 ·obtain rfl:k=f.length:=by omega
  simpa using hp
theorem bD (o:List Nd):vP (xD o):=iM o _
def Sz (k:Nat) (x:Nd) (v:Int):Nd:=if k=0 then⟨x.op,x.i,x.e,x.g,v,x.y⟩ else⟨x.op,x.i,x.e,x.g,x.x,v⟩
def zi : Nat->List (List Nd)->List Nd->Nd->Option (List Nd × Nd)
 | _,[],f,x=>some (f,x)
 | k,o :: r,f,x=>if yW o≠0 then none else
  zi (k+1) r (f++(xD o).map (pZ f.length)) (Sz k x (((f++(xD o).map (pZ f.length)).length:Int)-1))
def jW (x:Nd) (ops:List (List Nd)):List Nd:=match zi 0 ops [] x with
 | none=>[]
 | some (f,x')=>if zP x' f.length≠0 then [] else if 200<(tC (f ++ [x']) f.length).length then [] else tC (f ++ [x']) f.length
end Fm
theorem sg (x:Nd) (ops:List (List Nd)) (ho:ops.length<=2):xA prog 91 [.agg x.row,.sl 1 (nl ops)] (.sl 6 (wN (jW x ops))):=by
 refine xI func91 Fs λhf=>?_;simp only [simprocAttr,-ZA,↓zU,↓zD,zV,zT,zW,Se,Nd.row]
 (repeat refine sd ?_)
 refine xU (λa:Nat × List Nd × Nd=>[(16,.int .i64 a.1),(15,.int .i64 ops.length),(14,.sl 1 (nl ops)),(5,xB 1 6 (wN a.2.1)),(2,.ref 0 6 0 0)]) (λa=>⟨2,yX 1 6 (wN a.2.1)++ [(0,⟨6,[a.2.2.row]⟩)]⟩)
  (λa=>a.1<=ops.length/\vP a.2.1/\a.2.1.length<=200*a.1/\zi 0 ops [] x=zi a.1 (ops.drop a.1) a.2.1 a.2.2) (λa=>ops.length-a.1) (0,[],x) ⟨υ _,λk hk=>by simp at hk,by simp,rfl⟩ ?_ ?_
 ·(refine rZ [] [0] ?_; simp only [wR,zQ,simprocAttr,-ZA,exists_eq_left',ne_eq,zR,OW,zK,zL,List.nil_append,Nd.row])
 rintro ⟨k,f,x1⟩ ⟨hk,hf,hfl,hb⟩;simp only at hk hf hfl hb;refine xN mixed ?_;by_cases h:k<ops.length
 case neg=>
  have hd:¬ ((k:Int)<(ops.length:Int)):=by omega
  rw [ο (by omega),zi] at hb;have eb:jW x ops=if zP x1 f.length≠0 then [] else if 200<(tC (f ++ [x1]) f.length).length then [] else tC (f ++ [x1]) f.length:=by rw [jW,hb]
  rw [eb];simp only [simprocAttr,-ZA,↓zU,↓zD,zV,zT,zW,hd,Nd.row,xM]
  (repeat refine sd ?_)
  refine .go (xQ.yP (ur x1 f.length) (by simp [D.xR,D.xF,Nd.row])) ?_;by_cases hn:zP x1 f.length=0
  case neg=>
   have e:(zP x1 f.length != 0)= true:=by simpa using hn
   rw [if_pos hn];refine xH e ?_;exact .drop (by simp) (by simp [vw,wN])
  have e:(zP x1 f.length != 0)= false:=by simpa using hn
  rw [if_neg (by simpa using hn)];simp only [simprocAttr,-ZA,↓zU,↓zD,zV,zT,zW,e,Nd.row,xM]
  (repeat refine sd ?_)
  have hv:vP (f ++ [x1]):=vi hf hn;have hlen:(f ++ [x1]).length<=900:=by rw [κ,μ]; omega
  have hcall:=xQ.Ms (σ:=⟨3,yX 2 6 (wN (f ++ [x1]))++ [(0,⟨6,[x1.row]⟩)]⟩) (args:=[xB 2 6 (wN (f ++ [x1])),.int .i64 f.length]) (objs':=[]) (λ_=>False) (df (i:=f.length) hv hlen (by simp))
   ⟨Seen.grow (by rw [St.get,wZ,if_pos rfl]; cases vA 6 (wN (f ++ [x1])) <;> rfl) id (by omega) (OZ _) (xc _),.pure rfl,trivial⟩ (λk o hk=>by cases hk)
  rw [XL];simp only [Nd.row] at hcall;refine .go hcall ?_;generalize tC (f ++ [x1]) f.length=c
  by_cases hc:200<c.length
  ·have hc':(200:Int)<(c.length:Int):=by omega
   rw [if_pos hc];refine yO xM hc' ?_;exact .drop (by simp) (by simp [vw,wN])
  ·have hc':¬ (200:Int)<(c.length:Int):=by omega
   rw [if_neg hc];refine yO xM hc' ?_;exact .dv
 have hd:((k:Int)<(ops.length:Int)):=by omega
 have hg:=MM ops h;rw [drop_cons (d:=[]) h,zi] at hb;generalize ops.getD k []=o at hg hb;have hw:IntKind.i64.wrap ((k:Int)+ 1)= ((k+1:Nat):Int):=wrap_i64 (by omega);refine rF hd Se hg ?_;refine .go (cr (eN o)) ?_;by_cases hc:yW o=0
 case neg=>
  have e:(yW o != 0)= true:=by simpa using hc
  rw [if_pos hc] at hb;refine xH e ?_;rw [show jW x ops = [] by rw [jW,hb]];exact .drop (by simp) (by simp [vw,wN])
 have e:(yW o != 0)= false:=by simpa using hc
 rw [if_neg (by simpa using hc)] at hb;refine yO e xM ?_;refine .go (cr (bz o)) ?_;have hcv:=bD o;have hcl:(xD o).length<=200:=mS o _;generalize xD o=c at hb hcv hcl;refine xH xM ?_
 refine xU (λj:Nat=>[(29,.int .i64 j),(28,.int .i64 c.length),(27,.sl 6 (wN c)),(16,.int .i64 k),(15,.int .i64 ops.length),(14,.sl 1 (nl ops)),(8,.int .i64 f.length),(6,.int .i64 k),(5,xB 1 6 (wN (f++(c.take j).map (pZ f.length)))),(2,.ref 0 6 0 0)]) (λj=>⟨2,yX 1 6 (wN (f++(c.take j).map (pZ f.length)))++ [(0,⟨6,[x1.row]⟩)]⟩)
  (λj=>j<=c.length) (λj=>c.length-j) 0 (υ _) ?_ ?_
 ·rw [show f++(c.take 0).map (pZ f.length)= f by simp];exact wO
 intro j hj;refine xN mixed ?_;by_cases hjl:j<c.length
 case neg=>
  have hd2:¬ ((j:Int)<(c.length:Int)):=by omega
  rw [xf (show j=c.length by omega)];have hfl2:(f++c.map (pZ f.length)).length<=200*(k+1):=by rw [κ,π]; omega
  have hv2:=ZB hf hcv;generalize f++c.map (pZ f.length)= f2 at hb hfl2 hv2;have hw2:IntKind.i64.wrap ((f2.length:Int)-1)= (f2.length:Int)-1:=wrap_i64 (by omega)
  by_cases hk0:k=0
  ·have e0:((k:Int)== 0)= true:=by rw [hk0]; rfl
   rw [Sz,if_pos hk0] at hb;simp only [simprocAttr,-ZA,↓zU,↓zD,zV,zT,zW,hd2,e0,xM,hw2,Nd.row]
   (repeat refine sd ?_)
   refine⟨(k+1,f2,⟨x1.op,x1.i,x1.e,x1.g,(f2.length:Int)-1,x1.y⟩),⟨by omega,hv2,hfl2,hb⟩,?_,by simp only; omega⟩
   (refine rZ [] [1,0] ?_; simp only [wR,zQ,simprocAttr,-ZA,exists_eq_left',ne_eq,zR,wu,Nd.row,hw])
  ·have e0:((k:Int)== 0)= false:=by rw [beq_eq_false_iff_ne]; omega
   rw [Sz,if_neg hk0] at hb;simp only [simprocAttr,-ZA,↓zU,↓zD,zV,zT,zW,hd2,e0,xM,hw2,Nd.row]
   (repeat refine sd ?_)
   refine⟨(k+1,f2,⟨x1.op,x1.i,x1.e,x1.g,x1.x,(f2.length:Int)-1⟩),⟨by omega,hv2,hfl2,hb⟩,?_,by simp only; omega⟩
   (refine rZ [] [1,0] ?_; simp only [wR,zQ,simprocAttr,-ZA,exists_eq_left',ne_eq,zR,wu,Nd.row,hw])
 have hd2:((j:Int)<(c.length:Int)):=by omega
 have hgj:=sE c hjl;have hnj:=hcv j hjl;obtain⟨⟨px,hpx,hpx2⟩,⟨py,hpy,hpy2⟩⟩:=v7 hnj;have hsn:f++(c.take (j+1)).map (pZ f.length)= f++(c.take j).map (pZ f.length)++ [pZ f.length (c.getD j vV)]:=by rw [yE (d:=vV) hjl,List.map_append,<- List.append_assoc]; rfl
 generalize c.getD j vV=p at hgj hnj hpx hpy hsn;have hwj:IntKind.i64.wrap ((j:Int)+ 1)= ((j+1:Nat):Int):=wrap_i64 (by omega);have hl2:(f++(c.take j).map (pZ f.length)).length<=1000:=by rw [κ,π,List.length_take]; omega
 generalize f++(c.take j).map (pZ f.length)= f1 at hsn hl2;have hwx:IntKind.i64.wrap (p.x+(f.length:Int))= p.x+(f.length:Int):=wrap_i64 (by omega);have hwy:IntKind.i64.wrap (p.y+(f.length:Int))= p.y+(f.length:Int):=wrap_i64 (by omega);simp only [simprocAttr,-ZA,↓zU,↓zD,zV,zT,zW,hd2,xM,hgj,Nd.row]
 (repeat refine sd ?_)
 refine .go (cq (zn p.op)) ?_;have es:pZ f.length p=⟨p.op,p.i,p.e,p.g,if (xY p.op).1.x=true then p.x+f.length else p.x,if (xY p.op).1.y=true then p.y+f.length else p.y⟩:=rfl;cases hux:(xY p.op).1.x <;> cases huy:(xY p.op).1.y <;> rw [hux,huy] at es
 all_goals
  simp only [simprocAttr,-ZA,↓zU,↓zD,zV,zT,zW,ry.row,hux,huy,hwx,hwy,XL,xM,κ,μ]
  (repeat refine sd ?_)
  refine⟨j+1,by omega,?_,by omega⟩;rw [hsn,es]
  (refine rZ [(1,4)] [1,0] ?_; simp only [wR,zQ,simprocAttr,-ZA,exists_eq_left',ne_eq,zR,wu,hwj,Nd.row,Bool.false_eq_true,if_false,if_true])
section
open Rs Fm
namespace Fm
def V0 (f:List Nd):List Nd:=jW ⟨4,0,0,0,0,0⟩ [f]
def PU (f g:List Nd):List Nd:=jW ⟨5,0,0,0,0,0⟩ [f,g]
def vl (a:Int) (f:List Nd):List Nd:=jW ⟨9,a,0,0,0,0⟩ [f]
def nM (i:Int):List Nd:=jW ⟨3,i,0,0,0,0⟩ []
end Fm
theorem Py (x:Nd):xA prog 91 [.agg x.row,.xL] (.sl 6 (wN (jW x []))):= xQ.Ms (σ:=jR) (objs':=[]) (λ_=>False) (sg x [] (by simp)) ⟨.pure (by simp [D.xF,D.xR,Nd.row]),.nil 1,trivial⟩ (λk o hk=>by cases hk)
theorem K6 (f:List Nd):xA prog 35 [.sl 6 (wN f)] (.sl 6 (wN (V0 f))):=by refine xI func35 FF λhf=>?_;refine zI ?_;refine .go (xQ.yP (sg ⟨4,0,0,0,0,0⟩ [f] (by simp)) (by simp [D.xR,D.xF,Nd.row,nl])) ?_;refine xJ ?_;exact .same
theorem Ln (a:Int) (f:List Nd):xA prog 33 [.int .i64 a,.sl 6 (wN f)] (.sl 6 (wN (vl a f))):=by refine xI func33 FD λhf=>?_;refine zI ?_;refine .go (xQ.yP (sg ⟨9,a,0,0,0,0⟩ [f] (by simp)) (by simp [D.xR,D.xF,Nd.row,nl])) ?_;refine xJ ?_;exact .same
theorem Lm (i:Int):xA prog 34 [.int .i64 i] (.sl 6 (wN (nM i))):=by refine xI func34 FE λhf=>?_;refine zI ?_;refine .go (xQ.yP (Py ⟨3,i,0,0,0,0⟩) (by simp [D.xR,D.xF,Nd.row])) ?_;refine xJ ?_;exact .same
end
section
open Rs Fm
namespace Fm
theorem Vc (a b c d e f:Int):zj [.int .i64 a,.int .i64 b,.int .i64 c,.int .i64 d,.int .i64 e,.int .i64 f]=some [a,b,c,d,e,f]:=rfl
theorem eO {α:Type} [DecidableEq α] {a b:List α} {k:Nat} {d:α} (ha:k<a.length) (hb:k<b.length):decide (a.drop k=b.drop k)= (decide (a.getD k d=b.getD k d)&& decide (a.drop (k+1)= b.drop (k+1))):=by rw [drop_cons (d:=d) ha,drop_cons (d:=d) hb,Bool.eq_iff_iff];simp
end Fm
end
open Rs Fm
namespace Fm
end Fm
open Rs Fm
namespace Fm
theorem rV (op:Int):op=1\/op=2\/op=3\/op=4\/op=5\/op=6\/op=7\/op=8\/op=9\/op=10\/op=11\/op=12\/op=13\/op=14\/op=15\/op=16\/op=17\/op=18\/op=19\/op=20\/op=21\/op<1\/21<op:=by omega
theorem vM {op:Int} (h:op<1\/21<op):xY op=(rB,false):=if_pos h
theorem Si (op:Int):(xY op).1.x=(decide (4<=op)&& decide (op<=21)):=by
 rcases rV op with rfl | rfl | rfl | rfl | rfl | rfl | rfl | rfl | rfl | rfl | rfl | rfl | rfl | rfl | rfl | rfl | rfl | rfl | rfl | rfl | rfl | h | h
 rotate_right 2
 ·rw [vM (.inl h),decide_eq_false (by omega)]; rfl
 ·rw [vM (.inr h),decide_eq_false (show ¬ op<=21 by omega),Bool.and_false]; rfl
 all_goals rfl
theorem Mj (op:Int):(xY op).1.gr=(decide (11<=op)&& decide (op<=13)):=by
 rcases rV op with rfl | rfl | rfl | rfl | rfl | rfl | rfl | rfl | rfl | rfl | rfl | rfl | rfl | rfl | rfl | rfl | rfl | rfl | rfl | rfl | rfl | h | h
 rotate_right 2
 ·rw [vM (.inl h),decide_eq_false (by omega)]; rfl
 ·rw [vM (.inr h),decide_eq_false (show ¬ op<=13 by omega),Bool.and_false]; rfl
 all_goals rfl
theorem Vs (op:Int):(op==3)= (xY op).1.fa:=by
 rcases rV op with rfl | rfl | rfl | rfl | rfl | rfl | rfl | rfl | rfl | rfl | rfl | rfl | rfl | rfl | rfl | rfl | rfl | rfl | rfl | rfl | rfl | h | h
 rotate_right 2
 ·rw [vM (.inl h)]; simp [rB]; omega
 ·rw [vM (.inr h)]; simp [rB]; omega
 all_goals rfl
theorem PD (op:Int):(op==17)= (xY op).1.ev:=by
 rcases rV op with rfl | rfl | rfl | rfl | rfl | rfl | rfl | rfl | rfl | rfl | rfl | rfl | rfl | rfl | rfl | rfl | rfl | rfl | rfl | rfl | rfl | h | h
 rotate_right 2
 ·rw [vM (.inl h)]; simp [rB]; omega
 ·rw [vM (.inr h)]; simp [rB]; omega
 all_goals rfl
theorem PE {op:Int} (h1:¬ op<1) (h2:¬ 21<op):(xY op).2=true:=by
 rcases rV op with rfl | rfl | rfl | rfl | rfl | rfl | rfl | rfl | rfl | rfl | rfl | rfl | rfl | rfl | rfl | rfl | rfl | rfl | rfl | rfl | rfl | h | h
 rotate_right 2
 ·omega
 ·omega
 all_goals rfl
theorem sK {m:Nd->Nat}:∀ {l:List Nd},wW m l=0 ↔ ∀ p ∈ l,m p=0:=by
 intro l
 have key:∀ (l:List Nd) (a:Nat),l.foldl (λa p=>a ||| m p) a=0 ↔ a=0/\∀ p ∈ l,m p=0:=by
  intro l
  induction l with
  | nil=>simp
  | cons p r ih=>
   intro a;simp only [List.foldl_cons,ih,List.mem_cons,forall_eq_or_imp];rw [Nat.or_eq_zero_iff]
   constructor
   ·rintro ⟨⟨h1,h2⟩,h3⟩; exact⟨h1,h2,h3⟩
   ·rintro ⟨h1,h2,h3⟩; exact⟨⟨h1,h2⟩,h3⟩
 rw [wW,key];simp
end Fm
section
open Rs Fm
theorem oV (op:Int):xA prog 219 [.int .i64 op] (.bool (xY op).1.x):=by
 rw [Si];refine xI func219 JM λhf=>?_
 by_cases h1:4<=op
 ·by_cases h2:op<=21
  ·refine yO h1 h2 ?_;exact .same
  ·refine yO h1 h2 ?_;exact .dv
 ·refine xH h1 ?_;exact .dv
theorem OB (op:Int):xA prog 222 [.int .i64 op] (.bool (xY op).1.gr):=by
 rw [Mj];refine xI func222 JN λhf=>?_
 by_cases h1:11<=op
 ·by_cases h2:op<=13
  ·refine yO h1 h2 ?_;exact .same
  ·refine yO h1 h2 ?_;exact .dv
 ·refine xH h1 ?_;exact .dv
theorem oW (op:Int):xA prog 220 [.int .i64 op] (.bool (xY op).1.y):=by
 rcases rV op with rfl | rfl | rfl | rfl | rfl | rfl | rfl | rfl | rfl | rfl | rfl | rfl | rfl | rfl | rfl | rfl | rfl | rfl | rfl | rfl | rfl | h | h
 rotate_right 2
 ·have e:∀ i:Int,1<=i->i<=21->(op==i)= false:=λi h1 h2=>by simp; omega
  have h5:¬ 5<=op:=by omega
  rw [vM (.inl h)];refine xI func220 Mu λhf=>?_;simp only [simprocAttr,-ZA,↓zU,↓zD,zV,zT,zW,h5,e 13 (by omega) (by omega),e 14 (by omega) (by omega),e 16 (by omega) (by omega),e 19 (by omega) (by omega),e 21 (by omega) (by omega)];exact .drop (by simp) (by simp [vw,rB])
 ·have e:∀ i:Int,1<=i->i<=21->(op==i)= false:=λi h1 h2=>by simp; omega
  have h5:5<=op:=by omega
  have h8:¬ op<=8:=by omega
  rw [vM (.inr h)];refine xI func220 Mu λhf=>?_;simp only [simprocAttr,-ZA,↓zU,↓zD,zV,zT,zW,h5,h8,e 13 (by omega) (by omega),e 14 (by omega) (by omega),e 16 (by omega) (by omega),e 19 (by omega) (by omega),e 21 (by omega) (by omega)];exact .drop (by simp) (by simp [vw,rB])
 all_goals
  refine xI func220 Mu λhf=>?_;refine xJ ?_;exact .drop (by simp) (by simp [vw,xY,rB])
theorem VK (op:Int):xA prog 221 [.int .i64 op] (.bool (xY op).1.ag):=by
 rcases rV op with rfl | rfl | rfl | rfl | rfl | rfl | rfl | rfl | rfl | rfl | rfl | rfl | rfl | rfl | rfl | rfl | rfl | rfl | rfl | rfl | rfl | h | h
 rotate_right 2
 ·have e:∀ i:Int,1<=i->i<=21->(op==i)= false:=λi h1 h2=>by simp; omega
  rw [vM (.inl h)];refine xI func221 Mv λhf=>?_;simp only [simprocAttr,-ZA,↓zU,↓zD,zV,zT,zW,e 9 (by omega) (by omega),e 10 (by omega) (by omega),e 14 (by omega) (by omega),e 15 (by omega) (by omega)];exact .drop (by simp) (by simp [vw,rB])
 ·have e:∀ i:Int,1<=i->i<=21->(op==i)= false:=λi h1 h2=>by simp; omega
  rw [vM (.inr h)];refine xI func221 Mv λhf=>?_;simp only [simprocAttr,-ZA,↓zU,↓zD,zV,zT,zW,e 9 (by omega) (by omega),e 10 (by omega) (by omega),e 14 (by omega) (by omega),e 15 (by omega) (by omega)];exact .drop (by simp) (by simp [vw,rB])
 all_goals
  refine xI func221 Mv λhf=>?_;refine xJ ?_;exact .drop (by simp) (by simp [vw,xY,rB])
end
section
open Rs Fm
theorem MN (p:Nd) (k:Int):xA prog 178 [.agg p.row,.int .i64 k] (.int .i64 (zP p k)):=by
 have hk:=aX p.op;have hx:=oV p.op;have hy:=oW p.op;have ha:=VK p.op;have hg:=OB p.op;have e3:=Vs p.op;have e17:=PD p.op;have e17n:(p.op != 17)= !(xY p.op).1.ev:=by rw [bne,e17]
 have en:zP p k=if (xY p.op).2=false then 10 else
  if (yQ (xY p.op).1.x p.x k&&yQ (xY p.op).1.y p.y k)= false then 3 else
  if ((!((xY p.op).1.fa || (xY p.op).1.ag || (xY p.op).1.ev)&& decide (p.i≠0)) || (!(xY p.op).1.ev&&decide (p.e≠0)) || (!(xY p.op).1.gr&&decide (p.g≠0)))= true then 3 else
  if (xG (xY p.op).1.fa p.i 0 7 || xG (xY p.op).1.ag p.i 0 3 || xG (xY p.op).1.ev p.i 0 7 || xG (xY p.op).1.ev p.e 0 7 || xG (xY p.op).1.gr p.g 1 15)= true then 2 else 0:=rfl
 by_cases h1:p.op<1
 ·rw [show zP p k=10 by rw [en,vM (.inl h1)]; rfl];refine xI func178 Mt λhf=>?_;simp only [simprocAttr,-ZA,↓zU,↓zD,zV,zT,zW,Nd.row,h1]
  (repeat refine sd ?_)
  exact .dv
 by_cases h2:21<p.op
 ·rw [show zP p k=10 by rw [en,vM (.inr h2)]; rfl];refine xI func178 Mt λhf=>?_;simp only [simprocAttr,-ZA,↓zU,↓zD,zV,zT,zW,Nd.row,h1,h2]
  (repeat refine sd ?_)
  exact .dv
 have hok:=PE h1 h2;rw [en];generalize xY p.op=q at hk hx hy ha hg e3 e17 e17n hok;obtain⟨⟨ux,uy,fa,ag,gr,ev,fr⟩,ok⟩:=q;simp only at hk hx hy ha hg e3 e17 e17n hok ⊢;subst hok;refine xQ.SZ mixed func178 Mt (by simp) λhf=>?_;refine wpS_seq (xN mixed ?_);simp only [simprocAttr,-ZA,↓zU,↓zD,zV,zT,zW,Nd.row]
 (repeat refine sd ?_)
 refine wpS_seq (xN mixed ?_);refine nQ h1 h2 ?_
 cases hX:yQ ux p.x k
 ·refine wpS_seq (xN mixed ?_);refine xJ ?_;refine .go (cq hx) ?_
  cases ux
  ·have e:(p.x != 0)= true:=by simpa [yQ] using hX
   refine xJ ?_;refine .go (cq hx) ?_;refine xH e ?_;exact .dv
  ·by_cases l1:p.x<0
   ·refine xH l1 ?_;exact .dv
   ·have l2:k<=p.x:=by
     have:0<=p.x:=by omega
     simpa [yQ,this] using hX
    refine yO l1 l2 ?_;exact .dv
 refine tp [(2,.ref 0 6 0 0),(1,.int .i64 k)] ⟨1,[(0,⟨6,[p.row]⟩)]⟩ (xN mixed ?_) ?_
 ·refine xJ ?_;refine .go (cq hx) ?_
  cases ux
  ·have e:(p.x != 0)= false:=by simpa [yQ] using hX
   refine xJ ?_;refine .go (cq hx) ?_;refine xH e ?_
   (refine yR.same ?_; simp [yS,Fr.get,Nd.row])
  ·have l1:¬ p.x<0:=by simp [yQ] at hX; omega
   have l2:¬ k<=p.x:=by simp [yQ] at hX; omega
   refine yO l1 l2 ?_;refine .go (cq hx) ?_;refine xJ ?_
   (refine yR.same ?_; simp [yS,Fr.get,Nd.row])
 cases hY:yQ uy p.y k
 ·refine wpS_seq (xN mixed ?_);simp only [simprocAttr,-ZA,↓zU,↓zD,zV,zT,zW,Nd.row];refine .go (cq hy) ?_
  cases uy
  ·have e:(p.y != 0)= true:=by simpa [yQ] using hY
   refine xJ ?_;refine .go (cq hy) ?_;refine xH e ?_;exact .dv
  ·by_cases l1:p.y<0
   ·refine xH l1 ?_;exact .dv
   ·have l2:k<=p.y:=by
     have:0<=p.y:=by omega
     simpa [yQ,this] using hY
    refine yO l1 l2 ?_;exact .dv
 refine tp [(2,.ref 0 6 0 0),(1,.int .i64 k)] ⟨1,[(0,⟨6,[p.row]⟩)]⟩ (xN mixed ?_) ?_
 ·simp only [simprocAttr,-ZA,↓zU,↓zD,zV,zT,zW,Nd.row];refine .go (cq hy) ?_
  cases uy
  ·have e:(p.y != 0)= false:=by simpa [yQ] using hY
   refine xJ ?_;refine .go (cq hy) ?_;refine xH e ?_
   (refine yR.same ?_; simp [yS,Fr.get,Nd.row])
  ·have l1:¬ p.y<0:=by simp [yQ] at hY; omega
   have l2:¬ k<=p.y:=by simp [yQ] at hY; omega
   refine yO l1 l2 ?_;refine .go (cq hy) ?_;refine xJ ?_
   (refine yR.same ?_; simp [yS,Fr.get,Nd.row])
 simp only [Bool.and_self,Bool.true_eq_false,if_false,reduceCtorEq];refine xN mixed ?_
 rcases hk with ⟨rfl,rfl,rfl,rfl⟩ | ⟨rfl,rfl,rfl,rfl⟩ | ⟨rfl,rfl,rfl,rfl⟩ | ⟨rfl,rfl,rfl,rfl⟩ | ⟨rfl,rfl,rfl,rfl⟩
 ·simp only [simprocAttr,-ZA,↓zU,↓zD,zV,zT,zW,Nd.row,e3,e17,e17n,δ,γ];refine .go (cq ha) ?_;by_cases hi:p.i=0
  case neg=> have ei:(p.i != 0)= true:=bne_iff_ne.2 hi;simp only [simprocAttr,-ZA,↓zU,↓zD,zV,zT,zW,Nd.row,e3,e17,e17n,δ,γ,ei];exact .drop (by simp) (by simp [vw,xG, *])
  have ei:(p.i != 0)= false:=by simpa using hi
  by_cases he:p.e=0
  case neg=> have ee:(p.e != 0)= true:=bne_iff_ne.2 he;simp only [simprocAttr,-ZA,↓zU,↓zD,zV,zT,zW,Nd.row,e3,e17,e17n,δ,γ,ei,ee];exact .drop (by simp) (by simp [vw,xG, *])
  have ee:(p.e != 0)= false:=by simpa using he
  simp only [simprocAttr,-ZA,↓zU,↓zD,zV,zT,zW,Nd.row,e3,e17,e17n,δ,γ,ei,ee];refine .go (cq hg) ?_;by_cases hgz:p.g=0
  case neg=> have eg:(p.g != 0)= true:=bne_iff_ne.2 hgz;simp only [simprocAttr,-ZA,↓zU,↓zD,zV,zT,zW,Nd.row,e3,e17,e17n,δ,γ,ei,ee,eg];exact .drop (by simp) (by simp [vw,xG, *])
  have eg:(p.g != 0)= false:=by simpa using hgz
  simp only [simprocAttr,-ZA,↓zU,↓zD,zV,zT,zW,Nd.row,e3,e17,e17n,δ,γ,ei,ee,eg];refine .go (cq ha) ?_;simp only [simprocAttr,-ZA,↓zU,↓zD,zV,zT,zW,Nd.row,e3,e17,e17n,δ,γ,ei,ee,eg];refine .go (cq hg) ?_;simp only [simprocAttr,-ZA,↓zU,↓zD,zV,zT,zW,Nd.row,e3,e17,e17n,δ,γ,ei,ee,eg];exact .drop (by simp) (by simp [vw,xG, *])
 ·simp only [simprocAttr,-ZA,↓zU,↓zD,zV,zT,zW,Nd.row,e3,e17,e17n,δ,γ];by_cases he:p.e=0
  case neg=> have ee:(p.e != 0)= true:=bne_iff_ne.2 he;simp only [simprocAttr,-ZA,↓zU,↓zD,zV,zT,zW,Nd.row,e3,e17,e17n,δ,γ,ee];exact .drop (by simp) (by simp [vw,xG, *])
  have ee:(p.e != 0)= false:=by simpa using he
  simp only [simprocAttr,-ZA,↓zU,↓zD,zV,zT,zW,Nd.row,e3,e17,e17n,δ,γ,ee];refine .go (cq hg) ?_;by_cases hgz:p.g=0
  case neg=> have eg:(p.g != 0)= true:=bne_iff_ne.2 hgz;simp only [simprocAttr,-ZA,↓zU,↓zD,zV,zT,zW,Nd.row,e3,e17,e17n,δ,γ,ee,eg];exact .drop (by simp) (by simp [vw,xG, *])
  have eg:(p.g != 0)= false:=by simpa using hgz
  by_cases ri1:p.i<0
  ·simp only [simprocAttr,-ZA,↓zU,↓zD,zV,zT,zW,Nd.row,e3,e17,e17n,δ,γ,ee,eg,ri1];exact .drop (by simp) (by simp [vw,xG, *])
  by_cases ri2:8<=p.i
  ·simp only [simprocAttr,-ZA,↓zU,↓zD,zV,zT,zW,Nd.row,e3,e17,e17n,δ,γ,ee,eg,ri1,ri2];have ri3:7<p.i:=by omega
   exact .drop (by simp) (by simp [vw,xG, *])
  have ri3:¬ 7<p.i:=by omega
  simp only [simprocAttr,-ZA,↓zU,↓zD,zV,zT,zW,Nd.row,e3,e17,e17n,δ,γ,ee,eg,ri1,ri2];refine .go (cq ha) ?_;simp only [simprocAttr,-ZA,↓zU,↓zD,zV,zT,zW,Nd.row,e3,e17,e17n,δ,γ,ee,eg,ri1,ri2];refine .go (cq hg) ?_;simp only [simprocAttr,-ZA,↓zU,↓zD,zV,zT,zW,Nd.row,e3,e17,e17n,δ,γ,ee,eg,ri1,ri2];exact .drop (by simp) (by simp [vw,xG, *])
 ·simp only [simprocAttr,-ZA,↓zU,↓zD,zV,zT,zW,Nd.row,e3,e17,e17n,δ,γ];refine .go (cq ha) ?_;by_cases he:p.e=0
  case neg=> have ee:(p.e != 0)= true:=bne_iff_ne.2 he;simp only [simprocAttr,-ZA,↓zU,↓zD,zV,zT,zW,Nd.row,e3,e17,e17n,δ,γ,ee];exact .drop (by simp) (by simp [vw,xG, *])
  have ee:(p.e != 0)= false:=by simpa using he
  simp only [simprocAttr,-ZA,↓zU,↓zD,zV,zT,zW,Nd.row,e3,e17,e17n,δ,γ,ee];refine .go (cq hg) ?_;by_cases hgz:p.g=0
  case neg=> have eg:(p.g != 0)= true:=bne_iff_ne.2 hgz;simp only [simprocAttr,-ZA,↓zU,↓zD,zV,zT,zW,Nd.row,e3,e17,e17n,δ,γ,ee,eg];exact .drop (by simp) (by simp [vw,xG, *])
  have eg:(p.g != 0)= false:=by simpa using hgz
  simp only [simprocAttr,-ZA,↓zU,↓zD,zV,zT,zW,Nd.row,e3,e17,e17n,δ,γ,ee,eg];refine .go (cq ha) ?_
  by_cases ri1:p.i<0
  ·simp only [simprocAttr,-ZA,↓zU,↓zD,zV,zT,zW,Nd.row,e3,e17,e17n,δ,γ,ee,eg,ri1];exact .drop (by simp) (by simp [vw,xG, *])
  by_cases ri2:4<=p.i
  ·simp only [simprocAttr,-ZA,↓zU,↓zD,zV,zT,zW,Nd.row,e3,e17,e17n,δ,γ,ee,eg,ri1,ri2];have ri3:3<p.i:=by omega
   exact .drop (by simp) (by simp [vw,xG, *])
  have ri3:¬ 3<p.i:=by omega
  simp only [simprocAttr,-ZA,↓zU,↓zD,zV,zT,zW,Nd.row,e3,e17,e17n,δ,γ,ee,eg,ri1,ri2];refine .go (cq hg) ?_;simp only [simprocAttr,-ZA,↓zU,↓zD,zV,zT,zW,Nd.row,e3,e17,e17n,δ,γ,ee,eg,ri1,ri2];exact .drop (by simp) (by simp [vw,xG, *])
 ·simp only [simprocAttr,-ZA,↓zU,↓zD,zV,zT,zW,Nd.row,e3,e17,e17n,δ,γ];refine .go (cq ha) ?_;by_cases hi:p.i=0
  case neg=> have ei:(p.i != 0)= true:=bne_iff_ne.2 hi;simp only [simprocAttr,-ZA,↓zU,↓zD,zV,zT,zW,Nd.row,e3,e17,e17n,δ,γ,ei];exact .drop (by simp) (by simp [vw,xG, *])
  have ei:(p.i != 0)= false:=by simpa using hi
  by_cases he:p.e=0
  case neg=> have ee:(p.e != 0)= true:=bne_iff_ne.2 he;simp only [simprocAttr,-ZA,↓zU,↓zD,zV,zT,zW,Nd.row,e3,e17,e17n,δ,γ,ei,ee];exact .drop (by simp) (by simp [vw,xG, *])
  have ee:(p.e != 0)= false:=by simpa using he
  simp only [simprocAttr,-ZA,↓zU,↓zD,zV,zT,zW,Nd.row,e3,e17,e17n,δ,γ,ei,ee];refine .go (cq hg) ?_;simp only [simprocAttr,-ZA,↓zU,↓zD,zV,zT,zW,Nd.row,e3,e17,e17n,δ,γ,ei,ee];refine .go (cq ha) ?_;simp only [simprocAttr,-ZA,↓zU,↓zD,zV,zT,zW,Nd.row,e3,e17,e17n,δ,γ,ei,ee];refine .go (cq hg) ?_
  by_cases rg1:p.g<1
  ·simp only [simprocAttr,-ZA,↓zU,↓zD,zV,zT,zW,Nd.row,e3,e17,e17n,δ,γ,ei,ee,rg1];exact .drop (by simp) (by simp [vw,xG, *])
  by_cases rg2:16<=p.g
  ·simp only [simprocAttr,-ZA,↓zU,↓zD,zV,zT,zW,Nd.row,e3,e17,e17n,δ,γ,ei,ee,rg1,rg2];have rg3:15<p.g:=by omega
   exact .drop (by simp) (by simp [vw,xG, *])
  have rg3:¬ 15<p.g:=by omega
  simp only [simprocAttr,-ZA,↓zU,↓zD,zV,zT,zW,Nd.row,e3,e17,e17n,δ,γ,ei,ee,rg1,rg2];exact .drop (by simp) (by simp [vw,xG, *])
 ·simp only [simprocAttr,-ZA,↓zU,↓zD,zV,zT,zW,Nd.row,e3,e17,e17n,δ,γ];refine .go (cq ha) ?_;simp only [simprocAttr,-ZA,↓zU,↓zD,zV,zT,zW,Nd.row,e3,e17,e17n,δ,γ];refine .go (cq hg) ?_;by_cases hgz:p.g=0
  case neg=> have eg:(p.g != 0)= true:=bne_iff_ne.2 hgz;simp only [simprocAttr,-ZA,↓zU,↓zD,zV,zT,zW,Nd.row,e3,e17,e17n,δ,γ,eg];exact .drop (by simp) (by simp [vw,xG, *])
  have eg:(p.g != 0)= false:=by simpa using hgz
  simp only [simprocAttr,-ZA,↓zU,↓zD,zV,zT,zW,Nd.row,e3,e17,e17n,δ,γ,eg];refine .go (cq ha) ?_
  by_cases ri1:p.i<0
  ·simp only [simprocAttr,-ZA,↓zU,↓zD,zV,zT,zW,Nd.row,e3,e17,e17n,δ,γ,eg,ri1];exact .drop (by simp) (by simp [vw,xG, *])
  by_cases ri2:8<=p.i
  ·simp only [simprocAttr,-ZA,↓zU,↓zD,zV,zT,zW,Nd.row,e3,e17,e17n,δ,γ,eg,ri1,ri2];have ri3:7<p.i:=by omega
   exact .drop (by simp) (by simp [vw,xG, *])
  have ri3:¬ 7<p.i:=by omega
  by_cases re1:p.e<0
  ·simp only [simprocAttr,-ZA,↓zU,↓zD,zV,zT,zW,Nd.row,e3,e17,e17n,δ,γ,eg,ri1,ri2,re1];exact .drop (by simp) (by simp [vw,xG, *])
  by_cases re2:8<=p.e
  ·simp only [simprocAttr,-ZA,↓zU,↓zD,zV,zT,zW,Nd.row,e3,e17,e17n,δ,γ,eg,ri1,ri2,re1,re2];have re3:7<p.e:=by omega
   exact .drop (by simp) (by simp [vw,xG, *])
  have re3:¬ 7<p.e:=by omega
  simp only [simprocAttr,-ZA,↓zU,↓zD,zV,zT,zW,Nd.row,e3,e17,e17n,δ,γ,eg,ri1,ri2,re1,re2];refine .go (cq hg) ?_;simp only [simprocAttr,-ZA,↓zU,↓zD,zV,zT,zW,Nd.row,e3,e17,e17n,δ,γ,eg,ri1,ri2,re1,re2];exact .drop (by simp) (by simp [vw,xG, *])
open Rs Fm
theorem sb (f:List Nd):xA prog 117 [.sl 6 (wN f)] (.int .i64 (yW f)):=by
 refine xI func117 IL λhf=>?_;simp only [D.sR,D.fact,xM] at hf;have hlen:=hf.1.1
 by_cases h1:f.length=0
 ·have e1:((f.length:Int)== 0)= true:=by simpa using h1
  refine yO xM e1 ?_;rw [show yW f=3 from if_pos (List.length_eq_zero_iff.1 h1)];exact .same
 have e1:((f.length:Int)== 0)= false:=by simpa using h1
 have hne:f ≠ []:=λe=>h1 (by rw [e]; rfl)
 by_cases h2:200<f.length
 ·have h2':(200:Int)<(f.length:Int):=by omega
  refine fY xM e1 h2' ?_;rw [show yW f=8 by rw [yW,if_neg hne,if_pos h2]];exact .same
 have h2':¬ (200:Int)<(f.length:Int):=by omega
 rw [show yW f=bX f 0 by rw [yW,if_neg hne,if_neg h2]];refine fY xM e1 h2' ?_
 refine xU (λk:Nat=>[(3,.int .i64 k),(0,.sl 6 (wN f))]) (λ_=>⟨0,[]⟩) (λk=>k<=f.length/\bX f 0=bX (f.drop k) k) (λk=>f.length-k) 0 ⟨υ _,rfl⟩ ?_ ?_
 ·exact wO
 intro k ⟨hk,hi⟩;refine xN mixed ?_;by_cases h:k<f.length
 case neg=>
  have hd:¬ ((k:Int)<(f.length:Int)):=by omega
  rw [ο (by omega),bX] at hi;refine yO hd xM ?_;rw [hi];exact .same
 have hd:((k:Int)<(f.length:Int)):=by omega
 rw [drop_cons (d:=vV) h,bX] at hi;have hg:=sE f h;generalize f.getD k vV=p at hg hi;simp only [simprocAttr,-ZA,↓zU,↓zD,zV,zT,zW,hd,xM,hg,Nd.row]
 (repeat refine sd ?_)
 refine .go (xQ.yP (MN p k) (by simp [D.xR,D.xF,Nd.row])) ?_
 by_cases he:zP p k=0
 ·have e:(zP p k != 0)= false:=by simpa using he
  rw [if_neg (by simpa using he)] at hi;refine xH e ?_;refine⟨k+1,⟨by omega,hi⟩,?_,by omega⟩
  (refine yR.view (λk=>k) (by simp) (by simp) ?_ (by simp [stays]) (by simp [qY]); simp [bw,vw,vC,Fr.get])
  exact wrap_i64 (by omega)
 ·have e:(zP p k != 0)= true:=bne_iff_ne.2 he;rw [if_pos he] at hi;refine xH e ?_;rw [hi];exact .dv
end
section
open Rs Fm
namespace Fm
def jm (kO kD:Nat) (out:List Nd) (dl:List Int):Ob:=⟨2,[[xB kO 6 (wN out),xB kD 1 (rows .i64 dl)]]⟩
def GH (nx:Nat) (xZ:List (Nat × Ob)) (kO kD:Nat) (out:List Nd) (dl:List Int) (q:Nd) (d:D) (σ':St):Prop:=
 (∃ k:Nat,rE q out 0=some k/\d = .int .i64 k/\σ'=⟨nx+1,(nx,wC q.op q.i q.e q.g q.x q.y) :: xZ⟩) \/
 (rE q out 0=none/\d = .int .i64 out.length/\σ'=⟨nx+1+1,yX (nx+1) 6 (wN (out ++ [q]))++ zC (yN ((nx,wC q.op q.i q.e q.g q.x q.y) :: xZ) kO) 0 (jm (nx+1) kD (out ++ [q]) dl)⟩)
end Fm
theorem NR {nx kO kD:Nat} {xZ:List (Nat × Ob)} {out:List Nd} {dl:List Int} {q:Nd} {d:D} {σ':St} (h0:St.look xZ 0=some (jm kO kD out dl)) (hn:1<=nx) (hlen:out.length<=1000) (hk0:kO≠0) (hk1:kO≠nx) (hk:St.look xZ kO=vA 6 (wN out))
  (h:GH nx xZ kO kD out dl q d σ'):xQ prog 272 [.ref 0 2 0 0,.agg q.row] ⟨nx,xZ⟩ d σ':=by
 have hx0:¬ nx=0:=by omega
 have hx1:¬ nx=kO:=λe=>hk1 e.symm;refine xI func272 Jj λhf=>?_;simp only [simprocAttr,-ZA,↓zU,↓zD,zV,zT,zW,Nd.row]
 (repeat refine sd ?_)
 refine xU (λk:Nat=>[(5,.int .i64 k),(3,.ref nx 6 0 0),(0,.ref 0 2 0 0)]) (λ_=>⟨nx+1,(nx,wC q.op q.i q.e q.g q.x q.y) :: xZ⟩) (λk=>k<=out.length/\rE q out 0=rE q (out.drop k) k) (λk=>out.length-k) 0 ⟨υ _,rfl⟩ ?_ ?_
 ·(refine yR.same ?_; simp [yS,Fr.get,wC])
 intro k ⟨hkl,hi⟩;refine xN mixed ?_;by_cases hlt:k<out.length
 case pos=>
  have hd:(k:Int)<(out.length:Int):=by omega
  have hg:=sE out hlt;rw [drop_cons (d:=vV) hlt,rE] at hi;generalize out.getD k vV=p at hg hi
  by_cases hqp:q=p
  ·subst hqp;rw [if_pos rfl] at hi;have hq:decide ([q.op,q.i,q.e,q.g,q.x,q.y] = [q.op,q.i,q.e,q.g,q.x,q.y])= true:=by simp
   simp only [simprocAttr,-ZA,↓zU,↓zD,zV,zT,zW,hx0,hx1,h0,jm,xM,hd,hk,hg,Nd.row,wC,Vc,hq]
   (repeat refine sd ?_)
   rcases h with ⟨k',e1,rfl,rfl⟩ | ⟨e1,_,_⟩
   ·rw [hi] at e1;cases e1;simp only [wC];exact .same
   ·rw [hi] at e1; cases e1
  ·rw [if_neg hqp] at hi
   have hq:decide ([p.op,p.i,p.e,p.g,p.x,p.y] = [q.op,q.i,q.e,q.g,q.x,q.y])= false:=by rw [decide_eq_false_iff_not];exact λh=>hqp (key_inj h).symm
   simp only [simprocAttr,-ZA,↓zU,↓zD,zV,zT,zW,hx0,hx1,h0,jm,xM,hd,hk,hg,Nd.row,wC,Vc,hq]
   (repeat refine sd ?_)
   refine⟨k+1,⟨by omega,hi⟩,?_,by omega⟩;exact yL
 have hd:¬ (k:Int)<(out.length:Int):=by omega
 rw [ο (by omega),rE] at hi
 rcases h with ⟨k',e1,_,_⟩ | ⟨e1,rfl,rfl⟩
 ·rw [hi] at e1; cases e1
 have hq0:¬ kO=0:=hk0;have er:wN (out ++ [q])= wN out ++ [[.int .i64 q.op,.int .i64 q.i,.int .i64 q.e,.int .i64 q.g,.int .i64 q.x,.int .i64 q.y]]:=by simp [wN,Nd.row]
 simp only [simprocAttr,-ZA,↓zU,↓zD,zV,zT,zW,hx0,hx1,h0,jm,xM,hd,hk,Nd.row,wC,xP,xC,hq0]
 (repeat refine sd ?_)
 rw [er,show IntKind.i64.wrap (((out.length+1:Nat):Int)-1)= (out.length:Int) by rw [wrap_i64 (by omega)]; omega];exact .same
end
section
open Rs Fm
namespace Fm
def Kr (i nx2:Nat) (objs2:List (Nat × Ob)) (kO kD:Nat) (out:List Nd) (dl:List Int) (q:Nd) (d:D) (σ':St):Prop:=
 (∃ k:Nat,rE q out 0=some k/\d = .int .i64 k/\σ'=⟨nx2+1,(nx2,wC q.op q.i q.e q.g q.x q.y) :: zC objs2 kD ⟨1,rows .i64 (dl.set i k)⟩⟩) \/
 (rE q out 0=none/\d = .int .i64 out.length/\σ'=⟨nx2+1+1,yX (nx2+1) 6 (wN (out ++ [q]))++ (nx2,wC q.op q.i q.e q.g q.x q.y) :: zC (zC (yN objs2 kO) 0 (jm (nx2+1) kD (out ++ [q]) dl)) kD ⟨1,rows .i64 (dl.set i (out.length:Int))⟩⟩)
end Fm
theorem Mo {f:List Nd} {nx i:Nat} {xZ:List (Nat × Ob)} {kO kD:Nat} {s:CS} {dl:List Int} {p:Nd}
  (h0:St.look xZ 0=some (jm kO kD s.out dl)) (hn:1<=nx) (hkD:kD≠0/\kD<nx/\St.look xZ kD=some ⟨1,rows .i64 dl⟩) (hdl:dl.length=f.length) (hi:i<f.length) (hp:f.getD i vV=p) (hno:dl.getD i 0 = -1)
  {a b:Int} {nx1 nx2:Nat} {O1 O2:List (Nat × Ob)} {kO2:Nat} {out2:List Nd} {dl2:List Int}
  (h3:((xY p.op).1.x=true/\∃ objs1,xQ prog 255 [.sl 6 (wN f),.int .i64 p.x,.ref 0 2 0 0] ⟨nx+1,(nx,wC p.op p.i p.e p.g p.x p.y) :: xZ⟩ (.int .i64 a) ⟨nx1,objs1⟩/\ St.look objs1 nx=some (wC p.op p.i p.e p.g p.x p.y)/\ O1=zC objs1 nx (wC p.op p.i p.e p.g a p.y)) \/
   ((xY p.op).1.x=false/\a=p.x/\nx1=nx+1/\O1=(nx,wC p.op p.i p.e p.g p.x p.y) :: xZ))
  (hN1:St.look O1 nx=some (wC p.op p.i p.e p.g a p.y))
  (h4:((xY p.op).1.y=true/\∃ objs2,xQ prog 255 [.sl 6 (wN f),.int .i64 p.y,.ref 0 2 0 0] ⟨nx1,O1⟩ (.int .i64 b) ⟨nx2,objs2⟩/\ St.look objs2 nx=some (wC p.op p.i p.e p.g a p.y)/\ O2=zC objs2 nx (wC p.op p.i p.e p.g a b)) \/
   ((xY p.op).1.y=false/\b=p.y/\nx2=nx1/\O2=O1))
  (hN2:St.look O2 nx=some (wC p.op p.i p.e p.g a b)) (g0:St.look O2 0=some (jm kO2 kD out2 dl2)) (gD:St.look O2 kD=some ⟨1,rows .i64 dl2⟩) (gd:dl2.length=f.length) (gO:kO2≠0/\kO2≠nx/\kO2≠nx2/\kO2≠kD/\St.look O2 kO2=vA 6 (wN out2)) (hlen:out2.length<=1000) (hnx:nx<nx2)
  {d:D} {σ':St} (h5:Kr i nx2 O2 kO2 kD out2 dl2 ⟨p.op,p.i,p.e,p.g,a,b⟩ d σ') :
  xQ prog 255 [.sl 6 (wN f),.int .i64 i,.ref 0 2 0 0] ⟨nx,xZ⟩ d σ':=by
 have hg:=sE f hi;rw [hp] at hg;have hx0:¬ nx=0:=by omega
 have hx1:¬ nx=kD:=by omega
 obtain⟨hkD0,hkDn,hkD⟩:=hkD;obtain⟨gO0,gOn,gO2,gOD,gO⟩:=gO;have hrl:(rows IntKind.i64 dl).length=dl.length:=yU _ _
 have hgd:(rows IntKind.i64 dl).getD i [] = [.int .i64 (-1)]:=by rw [<- hno]; simp [rows,List.getD,hdl,hi]
 refine xQ.SZ mixed func255 L5 (by simp) λhf=>?_;refine wpS_seq (xN mixed ?_);refine xJ ?_;refine wpS_seq (xN mixed ?_);simp only [simprocAttr,-ZA,↓zU,↓zD,zV,zT,zW,h0,jm,hrl,hdl,hkD,hgd]
 (repeat refine sd ?_)
 refine wpS_seq (xN mixed ?_);simp only [simprocAttr,-ZA,↓zU,↓zD,zV,zT,zW,xM,hg,Nd.row]
 (repeat refine sd ?_)
 refine tp [(7,.ref nx 6 0 0),(2,.ref 0 2 0 0),(1,.int .i64 i),(0,.sl 6 (wN f))] ⟨nx1,O1⟩ (xN mixed ?_) ?_
 ·refine xJ ?_;refine .go (cq (oV p.op)) ?_
  rcases h3 with ⟨ux,objs1,hc,hl,rfl⟩ | ⟨ux,rfl,rfl,rfl⟩
  ·rw [ux];simp only [wC] at hc hl;simp only [simprocAttr,-ZA,↓zU,↓zD,zV,zT,zW,xM,hg,Nd.row]
   (repeat refine sd ?_)
   refine .go hc ?_;refine vR hl ?_
   (refine yR.same ?_; simp [yS,Fr.get,wC])
  ·rw [ux];refine xJ ?_
   (refine yR.same ?_; simp [yS,Fr.get,wC])
 refine tp [(7,.ref nx 6 0 0),(2,.ref 0 2 0 0),(1,.int .i64 i),(0,.sl 6 (wN f))] ⟨nx2,O2⟩ (xN mixed ?_) ?_
 ·simp only [wC] at hN1;refine vR hN1 ?_;refine .go (cq (oW p.op)) ?_
  rcases h4 with ⟨uy,objs2,hc,hl,rfl⟩ | ⟨uy,rfl,rfl,rfl⟩
  ·rw [uy];simp only [wC] at hc hl;simp only [simprocAttr,-ZA,↓zU,↓zD,zV,zT,zW,xM,hg,Nd.row]
   (repeat refine sd ?_)
   refine .go hc ?_;refine vR hl ?_
   (refine yR.same ?_; simp [yS,Fr.get,wC])
  ·rw [uy];refine xJ ?_
   (refine yR.same ?_; simp [yS,Fr.get,wC])
 refine xN mixed ?_;have hrl2:(rows IntKind.i64 dl2).length=dl2.length:=yU _ _;have hset:∀ x:Int,(rows IntKind.i64 dl2).set i [.int .i64 x]=rows .i64 (dl2.set i x):=λx=>by simp [rows,List.map_set]
 have hget:∀ x:Int,(rows IntKind.i64 (dl2.set i x)).getD i [] = [.int .i64 x]:=λx=>by simp [rows,List.getD,gd,hi]
 have y0:¬ nx2=0:=by omega
 have y1:¬ nx2=nx:=by omega
 have y2:¬ nx2=kD:=by omega
 have y3:¬ nx2=kO2:=λe=>gO2 e.symm;have y4:¬ nx2+1=0:=by omega
 have y5:¬ nx2+1=nx:=by omega
 have y6:¬ nx2+1=kD:=by omega
 have z1:¬ kD=nx2+1:=by omega
 have z0:¬ 0=kD:=λe=>hkD0 e.symm;have z2:¬ kD=0:=hkD0;have z3:¬ 0=nx:=by omega
 have z4:¬ kD=nx:=by omega
 have z5:¬ kD=nx2:=by omega
 have hgd2:(rows IntKind.i64 dl2).getD i [] = [.int .i64 (dl2.getD i 0)]:=by simp [rows,List.getD,gd,hi]
 simp only [wC] at hN2;simp only [simprocAttr,-ZA,↓zU,↓zD,zV,zT,zW,g0,jm,hN2]
 (repeat refine sd ?_)
 rcases h5 with ⟨k,e1,rfl,rfl⟩ | ⟨e1,rfl,rfl⟩
 ·refine .go (NR g0 (by omega) hlen gO0 gO2 gO (.inl ⟨k,e1,rfl,rfl⟩)) ?_;simp only [simprocAttr,-ZA,↓zU,↓zD,zV,zT,zW,g0,jm,hN2,y0,y1,y2,wC,gD,hrl2,gd,xP,hgd2,hset,hget,z0,z2,z3,z4,z5]
  (repeat refine sd ?_)
  exact .same
 ·refine .go (NR g0 (by omega) hlen gO0 gO2 gO (.inr ⟨e1,rfl,rfl⟩)) ?_;simp only [simprocAttr,-ZA,↓zU,↓zD,zV,zT,zW,g0,jm,hN2,y0,y1,y2,y3,y4,y5,y6,gO0,gOn,gOD,wC,gD,hrl2,gd,xP,xC,hgd2,hset,hget,z0,z1,z2,z3,z4,z5]
  (repeat refine sd ?_)
  exact .same
end
section
open Rs Fm
namespace Fm
structure bU (f : List Nd) (nx : Nat) (xZ : List (Nat × Ob)) (kO kD : Nat) (s : CS) (dl : List Int) : Prop where
 hn:1<=nx
 h0:St.look xZ 0=some (jm kO kD s.out dl)
 hO:s.out = []\/(kO<nx/\kO≠0/\kO≠kD/\St.look xZ kO=vA 6 (wN s.out))
 hD:kD≠0/\kD<nx/\St.look xZ kD=some ⟨1,rows .i64 dl⟩
 dn:dl.length=f.length
 rel:∀ i,i<f.length->dl.getD i 0=(vX (i:Int) s.done).getD (-1)
 pos:∀ z k,vX z s.done=some k->0<=k
 fr:∀ k,nx<=k->St.look xZ k=none
theorem bU.key {f:List Nd} {nx:Nat} {xZ:List (Nat × Ob)} {kO kD:Nat} {s:CS} {dl:List Int} (h:bU f nx xZ kO kD s dl):∃ k,St.look xZ 0=some (jm k kD s.out dl)/\ k≠0/\k≠kD/\St.look xZ k=vA 6 (wN s.out)/\ ((s.out = []/\k=nx+9)\/(s.out ≠ []/\k=kO/\k<nx)):=by
 rcases h.hO with ho | ⟨h1,h2,h3,h4⟩
 ·refine⟨nx+9,?_,by have:=h.hn; omega,by have:=h.hD; omega,?_,.inl ⟨ho,rfl⟩⟩
  ·rw [h.h0,ho]; rfl
  ·rw [h.fr _ (by omega),ho]; rfl
 ·by_cases ho:s.out = []
  ·refine⟨nx+9,?_,by have:=h.hn; omega,by have:=h.hD; omega,?_,.inl ⟨ho,rfl⟩⟩
   ·rw [h.h0,ho]; rfl
   ·rw [h.fr _ (by omega),ho]; rfl
  ·exact⟨kO,h.h0,h2,h3,h4,.inr ⟨ho,rfl,h1⟩⟩
theorem bU.alloc {f:List Nd} {nx:Nat} {xZ:List (Nat × Ob)} {kO kD:Nat} {s:CS} {dl:List Int} (h:bU f nx xZ kO kD s dl) (o:Ob):bU f (nx+1) ((nx,o) :: xZ) kO kD s dl:=by
 obtain⟨hn,h0,hO,hD,dn,rel,pos,fr⟩:=h;have hl:∀ k,k≠nx->St.look ((nx,o) :: xZ) k=St.look xZ k:=λk a=>by rw [xX,if_neg (λe=>a e.symm)]
 refine⟨by omega,by rw [hl 0 (by omega)]; exact h0,?_,⟨hD.1,by omega,by rw [hl kD (by omega)]; exact hD.2.2⟩,dn,rel,pos,λk hk=>by rw [hl k (by omega)]; exact fr k (by omega)⟩
 rcases hO with ho | ⟨a,b,c,d⟩
 ·exact .inl ho
 ·exact .inr ⟨by omega,b,c,by rw [hl kO (by omega)]; exact d⟩
theorem bU.set {f:List Nd} {nx:Nat} {xZ:List (Nat × Ob)} {kO kD:Nat} {s:CS} {dl:List Int} (h:bU f nx xZ kO kD s dl) {j:Nat} (hj:j≠0/\j≠kD/\(s.out = []\/j≠kO)) (o:Ob):bU f nx (zC xZ j o) kO kD s dl:=by
 obtain⟨hn,h0,hO,hD,dn,rel,pos,fr⟩:=h;have hl:∀ k,k≠j->St.look (zC xZ j o) k=St.look xZ k:=λk a=>by rw [xP,if_neg (λe=>a e.symm)]
 refine⟨hn,by rw [hl 0 (by omega)]; exact h0,?_,⟨hD.1,hD.2.1,by rw [hl kD (by omega)]; exact hD.2.2⟩,dn,rel,pos,λk hk=>vO (fr k hk)⟩
 rcases hO with ho | ⟨a,b,c,d⟩
 ·exact .inl ho
 ·rcases hj.2.2 with e | e
  ·exact .inl e
  ·exact .inr ⟨a,b,c,by rw [hl kO (λh=>e h.symm)]; exact d⟩
theorem QD {f:List Nd} {nx nx2 i:Nat} {objs2:List (Nat × Ob)} {kO kD:Nat} {s2:CS} {dl2:List Int} {q:Nd} (hI:bU f nx2 objs2 kO kD s2 dl2) (hi:i<f.length) (hnx:1<=nx) (hlt:nx<nx2) (hk:s2.out = []\/kO≠nx) :
  ∃ k2 nx' objs' kO' dl',Kr i nx2 objs2 k2 kD s2.out dl2 q (.int .i64 (jP i q s2).1) ⟨nx',objs'⟩/\ bU f nx' objs' kO' kD (jP i q s2).2 dl'/\nx2<=nx'/\((kO'=kO/\s2.out ≠ [])\/nx2<=kO')/\
   St.look objs2 0=some (jm k2 kD s2.out dl2)/\ (k2≠0/\k2≠nx/\k2≠nx2/\k2≠kD/\St.look objs2 k2=vA 6 (wN s2.out))/\
   (∀ k,1<=k->k<nx2->k≠kD->(k≠kO\/s2.out = [])->St.look objs' k=St.look objs2 k):=by
 obtain⟨k2,g0,gz,gD,gO,gk⟩:=hI.key;obtain⟨hn,h0,hO,hD,dn,rel,pos,fr⟩:=hI
 have hk2:k2≠nx/\k2≠nx2:=by
  rcases gk with ⟨ho,e⟩ | ⟨ho,e,e2⟩
  ·omega
  ·rcases hk with h | h
   ·exact absurd h ho
   ·omega
 have hdl:∀ x:Int,(dl2.set i x).length=f.length:=λx=>by rw [List.length_set,dn]
 have hrel:∀ (x:Int) (out:List Nd) (j:Nat),j<f.length->(dl2.set i x).getD j 0=(vX (j:Int) (⟨out,mE i x s2.done⟩:CS).done).getD (-1):=by
  intro x out j hj;simp only;rw [qX]
  by_cases e:j=i
  ·subst e;rw [if_pos rfl];simp [List.getD,dn,hj]
  ·rw [if_neg (by omega),<- rel j hj];simp only [List.getD,List.getElem?_set_ne (Ne.symm e)]
 have hpos:∀ (x:Int) (out:List Nd),0<=x->∀ z k,vX z (⟨out,mE i x s2.done⟩:CS).done=some k->0<=k:=by
  intro x out hx z k h;simp only at h;rw [qX] at h
  split at h
  ·cases h; exact hx
  ·exact pos z k h
 cases hq:rE q s2.out 0 with
 | some k=>
  have e:jP i q s2=((k:Int),(⟨s2.out,mE i k s2.done⟩:CS)):=by simp only [jP,hq]
  rw [e]
  refine⟨k2,nx2+1,_,kO,dl2.set i k,.inl ⟨k,hq,rfl,rfl⟩,?_,by omega,.inl ⟨rfl,λe=>by rw [e] at hq; cases hq⟩,g0,⟨gz,hk2.1,hk2.2,gD,gO⟩,λj a1 a2 a3 a4=>?_⟩
  ·have hl:∀ j,j≠nx2->j≠kD->St.look ((nx2,wC q.op q.i q.e q.g q.x q.y) :: zC objs2 kD ⟨1,rows .i64 (dl2.set i k)⟩) j=St.look objs2 j:=λj a b=>by rw [xX,if_neg (λe=>a e.symm),xP,if_neg (λe=>b e.symm)]
   refine⟨by omega,?_,?_,⟨hD.1,by omega,?_⟩,hdl _,hrel _ _,hpos _ _ (by omega),λj hj=>?_⟩
   ·rw [hl 0 (by omega) (λe=>hD.1 e.symm),h0]
    obtain⟨d0,dr,hdr⟩:∃ a b,dl2=a :: b:=by
     cases dl2 with
     | nil=>simp at dn; omega
     | cons a b=>exact⟨a,b,rfl⟩
    have:xB kD 1 (rows IntKind.i64 (dl2.set i k))= xB kD 1 (rows IntKind.i64 dl2):=by
     rw [hdr]
     cases i with
     | zero=>simp [xB,rows]
     | succ i=>simp [xB,rows]
    simp only [jm,this]
   ·rcases hO with ho | ⟨a,b,c,d⟩
    ·exact .inl ho
    ·exact .inr ⟨by omega,b,c,by rw [hl kO (by omega) c]; exact d⟩
   ·rw [xX,if_neg (by omega),xP,if_pos rfl,hD.2.2]; rfl
   ·rw [hl j (by omega) (by omega)]; exact fr j (by omega)
  ·rw [xX,if_neg (by omega),xP,if_neg (by omega)]
 | none=>
  have e:jP i q s2=((s2.out.length:Int),(⟨s2.out ++ [q],mE i s2.out.length s2.done⟩:CS)):=by simp only [jP,hq]
  rw [e]
  refine⟨k2,nx2+1+1,_,nx2+1,dl2.set i (s2.out.length:Int),.inr ⟨hq,rfl,rfl⟩,?_,by omega,.inr (by omega),g0,⟨gz,hk2.1,hk2.2,gD,gO⟩,λj a1 a2 a3 a4=>?_⟩
  ·have hne:vA 6 (wN (s2.out ++ [q]))≠ none:=by obtain⟨e,r,h⟩:=Sd s2.out q;rw [h]; simp [vA]
   have hl:∀ j,j≠nx2+1->j≠nx2->j≠kD->j≠0->j≠k2->St.look (yX (nx2+1) 6 (wN (s2.out ++ [q]))++ (nx2,wC q.op q.i q.e q.g q.x q.y) :: zC (zC (yN objs2 k2) 0 (jm (nx2+1) kD (s2.out ++ [q]) dl2)) kD ⟨1,rows .i64 (dl2.set i (s2.out.length:Int))⟩) j=St.look objs2 j:=λj a b c d e=>by rw [wZ,if_neg (λe=>a e.symm),xX,if_neg (λe=>b e.symm),xP,if_neg (λe=>c e.symm),xP,if_neg (λe=>d e.symm),xC,if_neg (λh=>e h.symm)]
   have hgD:xB kD 1 (rows IntKind.i64 (dl2.set i (s2.out.length:Int)))= xB kD 1 (rows IntKind.i64 dl2):=by
    obtain⟨d0,dr,hdr⟩:∃ a b,dl2=a :: b:=by
     cases dl2 with
     | nil=>simp at dn; omega
     | cons a b=>exact⟨a,b,rfl⟩
    rw [hdr]
    cases i with
    | zero=>simp [xB,rows]
    | succ i=>simp [xB,rows]
   refine⟨by omega,?_,.inr ⟨by omega,by omega,by omega,?_⟩,⟨hD.1,by omega,?_⟩,hdl _,hrel _ _,hpos _ _ (by omega),λj hj=>?_⟩
   ·rw [wZ,if_neg (by omega),xX,if_neg (by omega),xP,if_neg hD.1,xP,if_pos rfl,xC,if_neg gz,h0];simp only [jm,hgD,Ae]
   ·rw [wZ,if_pos rfl]
    cases hgg:vA 6 (wN (s2.out ++ [q])) with
    | none=>exact absurd hgg hne
    | some o=>rfl
   ·rw [wZ,if_neg (by omega),xX,if_neg (by omega),xP,if_pos rfl,xP,if_neg (λe=>hD.1 e.symm),xC,if_neg gD,hD.2.2]; rfl
   ·rw [wZ,if_neg (by omega),xX,if_neg (by omega)];refine vO (vO ?_);rw [xC]
    split
    ·rfl
    ·exact fr j (by omega)
  ·have hjk:j≠k2:=by
    rcases gk with ⟨ho,e⟩ | ⟨ho,e,e2⟩
    ·omega
    ·rcases a4 with a4 | a4
     ·rw [e]; exact a4
     ·exact absurd a4 ho
   rw [wZ,if_neg (by omega),xX,if_neg (by omega),xP,if_neg (λe=>a3 e.symm),xP,if_neg (by omega),xC,if_neg (λe=>hjk e.symm)]
end Fm
end
section
open Rs Fm
theorem PM {f:List Nd} {nx i:Nat} {xZ:List (Nat × Ob)} {kO kD:Nat} {s:CS} {dl:List Int} {k:Int} (hI:bU f nx xZ kO kD s dl) (hi:i<f.length) (hu:vX (i:Int) s.done=some k) :
  xQ prog 255 [.sl 6 (wN f),.int .i64 i,.ref 0 2 0 0] ⟨nx,xZ⟩ (.int .i64 k) ⟨nx,xZ⟩:=by
 obtain⟨hn,h0,hO,⟨hD0,hDn,hD⟩,dn,rel,pos,fr⟩:=hI;have hr:=rel i hi;rw [hu,Ad] at hr;have hk:0<=k:=pos _ _ hu;have hrl:(rows IntKind.i64 dl).length=dl.length:=yU _ _
 have hgd:(rows IntKind.i64 dl).getD i [] = [.int .i64 k]:=by rw [<- hr]; simp [rows,List.getD,dn,hi]
 refine xI func255 L5 λhf=>?_;simp only [simprocAttr,-ZA,↓zU,↓zD,zV,zT,zW,h0,jm,hrl,dn,hD,hgd,hk]
 (repeat refine sd ?_)
 exact .same
theorem pc {f:List Nd} {kD:Nat} (hc:∀ k,k<f.length->zP (f.getD k vV) k=0) (hlen:f.length<=900):∀ (n:Nat) {i nx:Nat} {xZ:List (Nat × Ob)} {kO:Nat} {s:CS} {dl:List Int},i<n->i<f.length->jJ f s->bU f nx xZ kO kD s dl ->
  ∃ nx' objs' kO' dl',bU f nx' objs' kO' kD (xE f n i s).2 dl'/\nx<=nx'/\((kO'=kO/\s.out ≠ [])\/nx<=kO'\/(xE f n i s).2.out = [])/\ (∀ k,1<=k->k<nx->k≠kD->(k≠kO\/s.out = [])->St.look objs' k=St.look xZ k)/\
   xQ prog 255 [.sl 6 (wN f),.int .i64 i,.ref 0 2 0 0] ⟨nx,xZ⟩ (.int .i64 (xE f n i s).1) ⟨nx',objs'⟩
 | 0,i,nx,xZ,kO,s,dl,h,_,_,_=>by omega
 | n + 1,i,nx,xZ,kO,s,dl,h,hi,hs,hI=>by
  cases hu:vX (i:Int) s.done with
  | some k=>
   rw [xE,hu];refine⟨nx,xZ,kO,dl,hI,χ _,?_,λ_ _ _ _ _=>rfl,PM hI hi hu⟩
   by_cases ho:s.out = []
   ·exact .inr (.inr ho)
   ·exact .inl ⟨rfl,ho⟩
  | none=>
   rw [lG hu];obtain⟨ox,oy⟩:=nI (hc i hi);simp only;generalize hp:f.getD i vV=p at ox oy;have hno:dl.getD i 0 = -1:=by rw [hI.rel i hi,hu]; rfl
   have hn:=hI.hn;have hD:=hI.hD;have hA:=hI.alloc (wC p.op p.i p.e p.g p.x p.y);have hA0:∀ k,k<nx->St.look ((nx,wC p.op p.i p.e p.g p.x p.y) :: xZ) k=St.look xZ k:=λk hk=>by rw [xX,if_neg (by omega)]
   have hAn:St.look ((nx,wC p.op p.i p.e p.g p.x p.y) :: xZ) nx=some (wC p.op p.i p.e p.g p.x p.y):=by rw [xX,if_pos rfl]
   have hkO:s.out = []\/kO<nx:=by rcases hI.hO with ho | ⟨a,_⟩; exact .inl ho; exact .inr a
   have S1:∃ nx1 O1 kO1 dl1,bU f nx1 O1 kO1 kD (if (xY p.op).1.x=true then xE f n p.x.toNat s else(p.x,s)).2 dl1/\jJ f (if (xY p.op).1.x=true then xE f n p.x.toNat s else(p.x,s)).2/\nx<nx1 /\
     ((kO1=kO/\s.out ≠ [])\/nx+1<=kO1\/(if (xY p.op).1.x=true then xE f n p.x.toNat s else(p.x,s)).2.out = [])/\ (∀ k,1<=k->k<nx->k≠kD->(k≠kO\/s.out = [])->St.look O1 k=St.look xZ k)/\
     (((xY p.op).1.x=true/\∃ objs1,xQ prog 255 [.sl 6 (wN f),.int .i64 p.x,.ref 0 2 0 0] ⟨nx+1,(nx,wC p.op p.i p.e p.g p.x p.y) :: xZ⟩ (.int .i64 (if (xY p.op).1.x=true then xE f n p.x.toNat s else(p.x,s)).1) ⟨nx1,objs1⟩/\ St.look objs1 nx=some (wC p.op p.i p.e p.g p.x p.y)/\ O1=zC objs1 nx (wC p.op p.i p.e p.g (if (xY p.op).1.x=true then xE f n p.x.toNat s else(p.x,s)).1 p.y)) \/
      ((xY p.op).1.x=false/\(if (xY p.op).1.x=true then xE f n p.x.toNat s else(p.x,s)).1=p.x/\nx1=nx+1/\O1=(nx,wC p.op p.i p.e p.g p.x p.y) :: xZ))/\
     St.look O1 nx=some (wC p.op p.i p.e p.g (if (xY p.op).1.x=true then xE f n p.x.toNat s else(p.x,s)).1 p.y):=by
    by_cases hx:(xY p.op).1.x=true
    ·obtain⟨hx1,hx2⟩:=ox hx;have hxn:((p.x.toNat:Nat):Int)= p.x:=Aa hx1;obtain⟨nx1,objs1,kO1,dl1,I1,l1,k1,f1,c1⟩:=pc hc hlen n (i:=p.x.toNat) (by omega) (by omega) hs hA;have g1:=oD hc n (i:=p.x.toNat) (s:=s) (by omega) (by omega) hs;rw [if_pos hx];rw [hxn] at c1
     have hl:St.look objs1 nx=some (wC p.op p.i p.e p.g p.x p.y):=by rw [f1 nx hn (by omega) (by omega) (by rcases hkO with h | h; exact .inr h; exact .inl (by omega))]; exact hAn
     have hkn:(xE f n p.x.toNat s).2.out = []\/nx≠kO1:=by
      rcases k1 with ⟨e,ho⟩ | h | h
      ·rcases hkO with h | h
       ·exact absurd h ho
       ·exact .inr (by omega)
      ·exact .inr (by omega)
      ·exact .inl h
     refine⟨nx1,_,kO1,dl1,I1.set (j:=nx) ⟨by omega,by omega,hkn⟩ _,g1.1,by omega,k1,λk a1 a2 a3 a4=>?_,.inl ⟨hx,objs1,c1,hl,rfl⟩,?_⟩
     ·rw [xP,if_neg (by omega),f1 k a1 (by omega) a3 a4]; exact hA0 k a2
     ·rw [xP,if_pos rfl,hl]; rfl
    ·rw [if_neg hx];refine⟨nx+1,_,kO,dl,hA,hs,by omega,?_,λk a1 a2 a3 a4=>hA0 k a2,.inr ⟨by simpa using hx,rfl,rfl,rfl⟩,hAn⟩
     by_cases ho:s.out = []
     ·exact .inr (.inr ho)
     ·exact .inl ⟨rfl,ho⟩
   generalize (if (xY p.op).1.x=true then xE f n p.x.toNat s else(p.x,s))= A at S1;obtain⟨nx1,O1,kO1,dl1,I1,F1,l1,k1,f1,c1,n1⟩:=S1
   have hk1:A.2.out = []\/nx≠kO1:=by
    rcases k1 with ⟨e,ho⟩ | h | h
    ·rcases hkO with h | h
     ·exact absurd h ho
     ·exact .inr (by omega)
    ·exact .inr (by omega)
    ·exact .inl h
   have S2:∃ nx2 O2 kO2 dl2,bU f nx2 O2 kO2 kD (if (xY p.op).1.y=true then xE f n p.y.toNat A.2 else(p.y,A.2)).2 dl2/\jJ f (if (xY p.op).1.y=true then xE f n p.y.toNat A.2 else(p.y,A.2)).2/\nx1<=nx2 /\
     ((kO2=kO1/\A.2.out ≠ [])\/nx1<=kO2\/(if (xY p.op).1.y=true then xE f n p.y.toNat A.2 else(p.y,A.2)).2.out = [])/\ (∀ k,1<=k->k<nx->k≠kD->(k≠kO1\/A.2.out = [])->St.look O2 k=St.look O1 k)/\
     (((xY p.op).1.y=true/\∃ objs2,xQ prog 255 [.sl 6 (wN f),.int .i64 p.y,.ref 0 2 0 0] ⟨nx1,O1⟩ (.int .i64 (if (xY p.op).1.y=true then xE f n p.y.toNat A.2 else(p.y,A.2)).1) ⟨nx2,objs2⟩/\ St.look objs2 nx=some (wC p.op p.i p.e p.g A.1 p.y)/\ O2=zC objs2 nx (wC p.op p.i p.e p.g A.1 (if (xY p.op).1.y=true then xE f n p.y.toNat A.2 else(p.y,A.2)).1)) \/
      ((xY p.op).1.y=false/\(if (xY p.op).1.y=true then xE f n p.y.toNat A.2 else(p.y,A.2)).1=p.y/\nx2=nx1/\O2=O1))/\
     St.look O2 nx=some (wC p.op p.i p.e p.g A.1 (if (xY p.op).1.y=true then xE f n p.y.toNat A.2 else(p.y,A.2)).1):=by
    by_cases hy:(xY p.op).1.y=true
    ·obtain⟨hy1,hy2⟩:=oy hy;have hyn:((p.y.toNat:Nat):Int)= p.y:=Aa hy1;obtain⟨nx2,objs2,kO2,dl2,I2,l2,k2,f2,c2⟩:=pc hc hlen n (i:=p.y.toNat) (by omega) (by omega) F1 I1;have g2:=oD hc n (i:=p.y.toNat) (s:=A.2) (by omega) (by omega) F1;rw [if_pos hy];rw [hyn] at c2
     have hl:St.look objs2 nx=some (wC p.op p.i p.e p.g A.1 p.y):=by rw [f2 nx hn (by omega) (by omega) (by rcases hk1 with h | h; exact .inr h; exact .inl h)]; exact n1
     have hkn:(xE f n p.y.toNat A.2).2.out = []\/nx≠kO2:=by
      rcases k2 with ⟨e,ho⟩ | h | h
      ·rcases hk1 with h | h
       ·exact absurd h ho
       ·exact .inr (by omega)
      ·exact .inr (by omega)
      ·exact .inl h
     refine⟨nx2,_,kO2,dl2,I2.set (j:=nx) ⟨by omega,by omega,hkn⟩ _,g2.1,by omega,k2,λk a1 a2 a3 a4=>?_,.inl ⟨hy,objs2,c2,hl,rfl⟩,?_⟩
     ·rw [xP,if_neg (by omega),f2 k a1 (by omega) a3 a4]
     ·rw [xP,if_pos rfl,hl]; rfl
    ·rw [if_neg hy];refine⟨nx1,_,kO1,dl1,I1,F1,by omega,?_,λk a1 a2 a3 a4=>rfl,.inr ⟨by simpa using hy,rfl,rfl,rfl⟩,n1⟩
     by_cases ho:A.2.out = []
     ·exact .inr (.inr ho)
     ·exact .inl ⟨rfl,ho⟩
   generalize (if (xY p.op).1.y=true then xE f n p.y.toNat A.2 else(p.y,A.2))= B at S2;obtain⟨nx2,O2,kO2,dl2,I2,F2,l2,k2,f2,c2,n2⟩:=S2
   have hk2:B.2.out = []\/kO2≠nx:=by
    rcases k2 with ⟨e,ho⟩ | h | h
    ·rcases hk1 with h | h
     ·exact absurd h ho
     ·exact .inr (by omega)
    ·exact .inr (by omega)
    ·exact .inl h
   obtain⟨kk,nx',objs',kO',dl',e1,e2,e3,e4,e5,e6,e7⟩:=QD (q:=⟨p.op,p.i,p.e,p.g,A.1,B.1⟩) (i:=i) (nx:=nx) I2 hi hn (by omega) hk2
   refine⟨nx',objs',kO',dl',e2,by omega,?_,λk a1 a2 a3 a4=>?_,Mo hI.h0 hn hD hI.dn hi hp hno c1 n1 c2 n2 e5 I2.hD.2.2 I2.dn e6 (by have:=F2.len; omega) (by omega) e1⟩
   ·rcases e4 with ⟨a,b⟩ | h
    ·rcases k2 with ⟨c,d⟩ | h | h
     ·rcases k1 with ⟨c',d'⟩ | h | h
      ·exact .inl ⟨by omega,d'⟩
      ·exact .inr (.inl (by omega))
      ·exact absurd h d
     ·exact .inr (.inl (by omega))
     ·exact absurd h b
    ·exact .inr (.inl (by omega))
   ·have ka:k≠kO1\/A.2.out = []:=by
     rcases k1 with ⟨c',d'⟩ | h | h
     ·rcases a4 with a4 | a4
      ·exact .inl (by omega)
      ·exact absurd a4 d'
     ·exact .inl (by omega)
     ·exact .inr h
    have kb:k≠kO2\/B.2.out = []:=by
     rcases k2 with ⟨c',d'⟩ | h | h
     ·rcases ka with a4 | a4
      ·exact .inl (by omega)
      ·exact absurd a4 d'
     ·exact .inl (by omega)
     ·exact .inr h
    rw [e7 k a1 (by omega) a3 kb,f2 k a1 a2 a3 ka,f1 k a1 a2 a3 a4]
open Rs Fm
theorem XX (f:List Nd) (i:Int):xA prog 223 [.sl 6 (wN f),.int .i64 i] (.sl 6 (wN (rY f i))):=by
 refine xI func223 JO λhf=>?_;refine xJ ?_;refine .go (cr (sb f)) ?_;by_cases hc:yW f=0
 case neg=> have e:(yW f != 0)= true:=bne_iff_ne.2 hc;refine xH e ?_;rw [show rY f i = [] from if_pos (.inl hc)];exact .drop (by simp) (by simp [vw,wN])
 have e:(yW f != 0)= false:=by simpa using hc
 by_cases h1:i<0
 ·refine yO e h1 ?_;rw [show rY f i = [] from if_pos (.inr (.inl h1))];exact .drop (by simp) (by simp [vw,wN])
 by_cases h2:(f.length:Int)<=i
 ·refine cE e h1 xM h2 ?_;rw [show rY f i = [] from if_pos (.inr (.inr h2))];exact .drop (by simp) (by simp [vw,wN])
 obtain⟨j,rfl⟩:=Ab (show 0<=i by omega);obtain⟨c1,c2,c3⟩:=zE hc;rw [show rY f j=tC f j by rw [rY,if_neg (by omega),Ac]];refine cE e h1 xM h2 ?_
 refine xU (λk:Nat=>[(6,.int .i64 k),(5,.ref 0 2 0 0),(1,.int .i64 j),(0,.sl 6 (wN f))]) (λk=>⟨2,yX 1 1 (rows .i64 (List.replicate k (-1)))++ [(0,⟨2,[[.xL,xB 1 1 (rows .i64 (List.replicate k (-1)))]]⟩)]⟩) (λk=>k<=f.length) (λk=>f.length-k) 0 (υ _) ?_ ?_
 ·(refine rZ [] [0] ?_; simp only [wR,zQ,simprocAttr,-ZA,exists_eq_left',ne_eq,zR,List.replicate_zero,lQ,zK,zL,List.nil_append])
 intro k hk;refine xN mixed ?_
 by_cases h:k<f.length
 ·have hd:((k:Int)<(f.length:Int)):=by omega
  have hw:IntKind.i64.wrap ((k:Int)+ 1)= ((k+1:Nat):Int):=wrap_i64 (by omega);have hrl:(rows IntKind.i64 (List.replicate k (-1))).length=k:=by simp [rows]
  have hsn:rows IntKind.i64 (List.replicate (k+1) (-1))= rows .i64 (List.replicate k (-1))++ [[.int .i64 (-1)]]:=by rw [List.replicate_succ']; simp [rows]
  refine rF hd xM hrl ?_;refine⟨k+1,by omega,?_,by omega⟩;rw [hsn];exact bj [(1,2)] [1,0] hw
 have hd:¬ ((k:Int)<(f.length:Int)):=by omega
 obtain rfl:k=f.length:=by omega
 refine yO hd xM ?_;have hne:0<f.length:=by cases f with | nil=>exact absurd rfl c1 | cons a b=>simp
 have hI0:bU f 2 (yX 1 1 (rows .i64 (List.replicate f.length (-1)))++ [(0,⟨2,[[.xL,xB 1 1 (rows .i64 (List.replicate f.length (-1)))]]⟩)]) 11 1 ⟨[],[]⟩ (List.replicate f.length (-1)):=by
  have hcons:∃ a b,rows IntKind.i64 (List.replicate f.length (-1))= a :: b:=by
   cases hl:f.length with
   | zero=>omega
   | succ m=>exact⟨_,_,rfl⟩
  refine⟨by omega,by rw [wZ,if_neg (by omega)]; rfl,.inl rfl,⟨by omega,by omega,?_⟩,by simp,λi hi=>?_,λz k h=>(by cases h),λk hk=>?_⟩
  ·obtain⟨a,b,hab⟩:=hcons;rw [hab]; rfl
  ·simp [List.getD,hi,vX]
  ·rw [wZ,if_neg (by omega),xX,if_neg (by omega)]; rfl
 obtain⟨nx',objs',kO',dl',I1,_,_,_,cc⟩:=pc c3 (by omega) (j+1) (i:=j) (by omega) (show j<f.length by omega) ⟨χ _,by simp,λp hp=>by cases hp⟩ hI0;have ee:(xE f (j+1) j ⟨[],[]⟩).2.out=tC f j:=rfl;have g0:=I1.h0;have gO:=I1.hO;rw [ee] at g0 gO;refine .go cc ?_;simp only [simprocAttr,-ZA,↓zU,↓zD,zV,zT,zW,g0,jm]
 (repeat refine sd ?_)
 rcases gO with hO | ⟨a1,a2,a3,a4⟩
 ·rw [hO];exact .drop (by simp) (by simp [vw,wN,xB])
 ·exact .drop (by simp) (aT (by simp) (xc _) a4)
theorem oQ (f:List Nd):xA prog 179 [.sl 6 (wN f)] (.sl 6 (wN (xD f))):=by refine xI func179 It λhf=>?_;simp only [D.sR,D.fact,xM] at hf;have hlen:=hf.1.1;have e:IntKind.i64.wrap ((f.length:Int)-1)= (f.length:Int)-1:=wrap_i64 (by omega);refine yO xM e ?_;refine .go (cr (XX f _)) ?_;refine xJ ?_;exact .same
theorem Ww (f:List Nd):xA prog 182 [.sl 6 (wN f)] (.int .i64 (jZ f)):=by
 have hlen:=mS f ((f.length:Int)-1);rw [show rY f ((f.length:Int)-1)= xD f from rfl] at hlen;have hnd:=bD f
 have hall:∀ p ∈ xD f,qI p<4096:=λp hp=>by obtain⟨k,hk⟩:=jX hnd hp;exact Yj hk
 refine xI func182 Iw λhf=>?_;refine xJ ?_;refine .go (cr (oQ f)) ?_;refine xJ ?_;unfold jZ;generalize xD f=c at hlen hnd hall
 refine xU (λk:Nat=>[(5,.int .i64 k),(4,.int .i64 (wW qI (c.take k))),(3,.sl 6 (wN c))]) (λ_=>⟨0,[]⟩) (λk=>k<=c.length) (λk=>c.length-k) 0 (υ _) ?_ ?_
 ·(refine yR.same ?_; simp [yS,Fr.get,wW])
 intro k hk;refine xN mixed ?_
 by_cases h:k<c.length
 ·have hd:((k:Int)<(c.length:Int)):=by omega
  have hw:IntKind.i64.wrap ((k:Int)+ 1)= ((k+1:Nat):Int):=wrap_i64 (by omega);have hg:=sE c h;have hq:=hnd k h;have hlt:wW qI (c.take k)<2 ^ 12:=mK λp hp=>hall p (τ hp);have hs:wW qI (c.take (k+1))= wW qI (c.take k) ||| qI (c.getD k vV):=by rw [yE (d:=vV) h,kU]
  generalize c.getD k vV=p at hg hq hs;have hu:=Vs p.op
  by_cases h3:p.op=3
  ·have e3:(p.op==3)= true:=by simpa using h3
   rw [e3] at hu;obtain⟨i0,i7⟩:=mR hq hu.symm;obtain⟨m,hm⟩:=Ab i0;have hm7:m<=7:=by omega
   have hp2:(2:Nat)^ m<2 ^ 62:=Nat.pow_lt_pow_right (by omega) (by omega);have hor:=jh (a:=wW qI (c.take k)) (b:=2 ^ m) (by omega) hp2;have hfn:qI p=2 ^ m:=by rw [qI,if_pos hu.symm,hm,Ac]
   simp only [simprocAttr,-ZA,↓zU,↓zD,zV,zT,zW,hd,xM,hg,Nd.row,e3,hm,TC (show m<=61 by omega),hor]
   (repeat refine sd ?_)
   refine⟨k+1,by omega,?_,by omega⟩;rw [hs,hfn]
   (refine yR.same ?_; simp only [yS,Fr.get,simprocAttr,-ZA,zS])
   exact hw
  ·have e3:(p.op==3)= false:=by simpa using h3
   rw [e3] at hu;have hfn:qI p=0:=by rw [qI,if_neg (by rw [<- hu]; simp)]
   simp only [simprocAttr,-ZA,↓zU,↓zD,zV,zT,zW,hd,xM,hg,Nd.row,e3]
   (repeat refine sd ?_)
   refine⟨k+1,by omega,?_,by omega⟩;rw [hs,hfn,Nat.or_zero]
   (refine yR.same ?_; simp only [yS,Fr.get,simprocAttr,-ZA,zS])
   exact hw
 have hd:¬ ((k:Int)<(c.length:Int)):=by omega
 obtain rfl:k=c.length:=by omega
 refine yO hd xM ?_;exact .same
end
end Go.Pd
