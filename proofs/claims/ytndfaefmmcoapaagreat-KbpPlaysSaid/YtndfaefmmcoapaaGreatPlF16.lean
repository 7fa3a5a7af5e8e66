/- Part F16. -/
import Derived.Test.YtndfaefmmcoapaaGreatPlX9
set_option linter.unusedSectionVars false
set_option linter.unusedVariables false
set_option linter.unusedSimpArgs false
set_option linter.defProp false
set_option maxRecDepth 20000
set_option maxHeartbeats 1000000
open Go.Proofs.Tryz
open Bool renaming not_false->γ,not_true->δ,or_eq_false_iff->ε,true_and->ζ,and_eq_true->η
open List renaming getD_eq_getElem?_getD->θ,length_append->κ,length_singleton->μ,getElem?_append_left->ν,getElem?_eq_getElem->ξ,drop_eq_nil_of_le->ο,length_map->π,mem_of_mem_take->τ
open Nat renaming zero_le->υ,le_refl->χ,pow_le_pow_right->ψ,or_lt_two_pow->ω
open Int renaming toNat_of_nonneg->Aa,eq_ofNat_of_zero_le->Ab,toNat_natCast->Ac
open Option renaming getD_some->Ad,map_some->Ae
open BitVec renaming ofInt_natCast->Af,toNat_ofNat->Ag
namespace Go.Pd
open Go Go.Proofs
open BitVec renaming isValue -> ZA
open Rs Fm
theorem ja {a b:Nat} (ha:a<2 ^ 62) (hb:b<2 ^ 62):tB .or .i64 (a:Int) (b:Int)= ((a ||| b:Nat):Int):=by show IntKind.i64.wrap ((BitVec.ofInt 64 (a:Int) ||| BitVec.ofInt 64 (b:Int)).toNat:Int)= _;rw [Af,Af,BitVec.toNat_or,Ag,Ag,Nat.mod_eq_of_lt (by omega),Nat.mod_eq_of_lt (by omega)];have:=ω ha hb;exact wrap_i64 (by omega)
namespace Fm
def wU (m:Nd->Nat) (l:List Nd):Nat:=l.foldl (λa p=>a ||| m p) 0
theorem kT (m:Nd->Nat) (l:List Nd) (p:Nd):wU m (l ++ [p])= wU m l ||| m p:=by simp [wU]
theorem mH {m:Nd->Nat} {l:List Nd} (h:∀ p ∈ l,m p<4096):wU m l<2 ^ 12:=by
 have key:∀ (l:List Nd) (a:Nat),a<2 ^ 12->(∀ p ∈ l,m p<4096)->l.foldl (λa p=>a ||| m p) a<2 ^ 12:=by
  intro l
  induction l with
  | nil=>intro a ha _; exact ha
  | cons p r ih=>intro a ha h; exact ih _ (ω ha (h p (by simp))) λq hq=>h q (by simp [hq])
 exact key l 0 (by decide) h
end Fm
theorem y7 {f:List Nd} {g:FuncId} {m:Nd->Nat} (hm:∀ p ∈ xB f,m p<4096) (h:∀ p ∈ xB f,xA prog g [.agg p.row,.agg (xY p.op).1.row] (.int .i64 (m p))) (hlen:(xB f).length<=1000) :
  xA prog 111 [.sl 6 (wP f),.fn g []] (.int .i64 (wU m (xB f))):=by
 refine xI func111 IL λhf=>?_;refine xJ ?_;refine .go (cr (bp f)) ?_;generalize xB f=l at hm h hlen;refine xG xM ?_
 refine xU (λk:Nat=>[(13,.int .i64 k),(12,.int .i64 l.length),(11,.sl 6 (wP l)),(5,.int .i64 (wU m (l.take k))),(1,.fn g [])]) (λ_=>⟨0,[]⟩) (λk=>k<=l.length) (λk=>l.length-k) 0 (υ _) ?_ ?_
 ·(refine yR.same ?_; simp [yS,Fr.get,wU])
 intro k hk;refine xN mixed ?_;by_cases hh:k<l.length
 case neg=>
  have hd:¬ ((k:Int)<(l.length:Int)):=by omega
  rw [xf (show k=l.length by omega)];refine xG hd ?_;exact .same
 have hd:((k:Int)<(l.length:Int)):=by omega
 have hs:wU m (l.take (k+1))= wU m (l.take k) ||| m (l.getD k vW):=by rw [yC (d:=vW) hh,kT]
 have hg:=sG l hh;have hmem:=xK (d:=vW) hh;have hlt:wU m (l.take k)<2 ^ 12:=mH λp hp=>hm p (τ hp);generalize l.getD k vW=p at hs hg hmem;have hmp:=hm p hmem;simp only [simprocAttr,-ZA,↓zU,↓zD,zV,zT,zW,hd,xM,hg,Nd.row]
 (repeat refine sd ?_)
 refine .go (cq (zr p.op)) ?_;simp only [simprocAttr,-ZA,↓zU,↓zD,zV,zT,zW,rp.row]
 (repeat refine sd ?_)
 refine .go (xP.yP (h p hmem) (by simp [D.xR,D.xF,Nd.row,rp.row])) ?_;simp only [simprocAttr,-ZA,↓zU,↓zD,zV,zT,zW,ja (show wU m (l.take k)<2 ^ 62 by omega) (show m p<2 ^ 62 by omega)];refine⟨k+1,by omega,?_,by omega⟩;rw [hs]
 (refine yR.view (λk=>k) (by simp) (by simp) ?_ (by simp [stays]) (by simp [qX]); simp [bo,vw,uK,Fr.get])
 exact wrap_i64 (by omega)
open Rs Fm
namespace Fm
theorem eF (op:Int):0<=(xY op).1.fr/\(xY op).1.fr<=256:=by
 have hc:op=1\/op=2\/op=3\/op=4\/op=5\/op=6\/op=7\/op=8\/op=9\/op=10\/op=11\/op=12\/op=13\/op=14\/op=15\/op=16\/op=17\/op=18\/op=19\/op=20\/op=21\/(op<1\/21<op):=by omega
 rcases hc with rfl | rfl | rfl | rfl | rfl | rfl | rfl | rfl | rfl | rfl | rfl | rfl | rfl | rfl | rfl | rfl | rfl | rfl | rfl | rfl | rfl | hc
 rotate_right
 ·rw [show xY op=(rC,false) from if_pos hc]; exact⟨by decide,by decide⟩
 all_goals simp [xY,rC]
def rB (p:Nd):Nat:=(xY p.op).1.fr.toNat
def zP (f:List Nd):Nat:=wU rB (xB f)
theorem WX {f:List Nd} {i:Nat} (hc:∀ k,k<f.length->zK (f.getD k vW) k=0) (hi:i<f.length):(tH f i).length<=f.length:=(oB hc (i+1) (i:=i) (s:=⟨[],[]⟩) (by omega) hi ⟨χ _,by simp,λp hp=>by cases hp⟩).1.len
theorem mP (f:List Nd) (i:Int):(sE f i).length<=200:=by
 unfold sE
 by_cases h:yW f≠0\/i<0\/(f.length:Int)<=i
 ·rw [if_pos h]; simp
 ·rw [if_neg h];obtain⟨c1,c2,c3⟩:=zF (f:=f) (by omega);have:=WX c3 (i:=i.toNat) (by omega);omega
end Fm
theorem VD (f:List Nd):xA prog 53 [.sl 6 (wP f)] (.int .i64 (zP f)):=by
 refine xI func53 FQ λhf=>?_;refine xJ ?_
 refine .go (xP.yP (y7 (m:=rB) (λp _=>by have:=eF p.op; unfold rB; omega) (λp _=>?_) (by have:=mP f ((f.length:Int)-1); unfold xB; omega)) rfl) ?_
 ·have h:=OA p (xY p.op).1;have:=eF p.op;rw [show ((rB p:Nat):Int)= (xY p.op).1.fr from Aa this.1];exact h
 refine xJ ?_;exact .same
open Rs Fm
namespace Fm
def iG (m:Nat) (n:Int):Bool:=decide (31<=n) || decide (m / 2 ^ n.toNat=0)
end Fm
theorem SO (m:Nat) (n:Int):xA prog 146 [.int .i64 m,.int .i64 n] (.bool (iG m n)):=by
 refine xI func146 It λhf=>?_
 by_cases h1:31<=n
 ·refine xG h1 ?_;exact .drop (by simp) (by simp [vw,iG,h1])
 have e:max n 0=((n.toNat:Nat):Int):=by omega
 have e2:max 0 n=((n.toNat:Nat):Int):=by omega
 have hb:(((m / 2 ^ n.toNat:Nat):Int)== 0)= decide (m / 2 ^ n.toNat=0):=by rw [Bool.eq_iff_iff,beq_iff_eq,decide_eq_true_iff]; omega
 simp only [simprocAttr,-ZA,↓zU,↓zD,zV,zT,zW,h1,MO,e,e2,jU m n.toNat (by omega),hb]
 (repeat refine sd ?_)
 exact .drop (by simp) (by simp [vw,iG,h1])
open Rs Fm
namespace Fm
theorem vU {p:Nd} {k:Int}:zK p k=0 ↔ (xY p.op).2=true/\yQ (xY p.op).1.x p.x k=true/\yQ (xY p.op).1.y p.y k=true /\
  ((!((xY p.op).1.fa || (xY p.op).1.ag || (xY p.op).1.ev)&& decide (p.i≠0)) || (!(xY p.op).1.ev&&decide (p.e≠0)) || (!(xY p.op).1.gr&&decide (p.g≠0)))= false /\
  (xH (xY p.op).1.fa p.i 0 7 || xH (xY p.op).1.ag p.i 0 3 || xH (xY p.op).1.ev p.i 0 7 || xH (xY p.op).1.ev p.e 0 7 || xH (xY p.op).1.gr p.g 1 15)= false:=by
 unfold zK
 cases h1:(xY p.op).2
 ·simp
 cases h2:yQ (xY p.op).1.x p.x k
 ·simp
 cases h3:yQ (xY p.op).1.y p.y k
 ·simp
 generalize ((!((xY p.op).1.fa || (xY p.op).1.ag || (xY p.op).1.ev)&& decide (p.i≠0)) || (!(xY p.op).1.ev&&decide (p.e≠0)) || (!(xY p.op).1.gr&&decide (p.g≠0)))= c;generalize (xH (xY p.op).1.fa p.i 0 7 || xH (xY p.op).1.ag p.i 0 3 || xH (xY p.op).1.ev p.i 0 7 || xH (xY p.op).1.ev p.e 0 7 || xH (xY p.op).1.gr p.g 1 15)= d;cases c <;> cases d <;> simp
theorem cR {p:Nd} {a b k k':Int} (h:zK p k=0) (ha:if (xY p.op).1.x=true then 0<=a/\a<k' else a=p.x) (hb:if (xY p.op).1.y=true then 0<=b/\b<k' else b=p.y):zK ⟨p.op,p.i,p.e,p.g,a,b⟩ k'=0:=by
 rw [vU] at h ⊢;obtain⟨h1,h2,h3,h4,h5⟩:=h
 refine⟨h1,?_,?_,h4,h5⟩
 ·simp only
  cases hx:(xY p.op).1.x
  ·rw [hx] at ha h2;rw [if_neg (by simp)] at ha;rw [ha]; exact h2
  ·rw [hx,if_pos rfl] at ha;simp [yQ,ha]
 ·simp only
  cases hx:(xY p.op).1.y
  ·rw [hx] at hb h3;rw [if_neg (by simp)] at hb;rw [hb]; exact h3
  ·rw [hx,if_pos rfl] at hb;simp [yQ,hb]
structure Ut (s : CS) : Prop where
 nd:∀ k,k<s.out.length->zK (s.out.getD k vW) k=0
 dn:∀ z k:Int,wB z s.done=some k->0<=k/\k<s.out.length
theorem VZ {q:Nd}:∀ {l:List Nd} {k j:Nat},rF q l k=some j->k<=j/\j<k+l.length
 | [],_,_,h=>by cases h
 | p :: r,k,j,h=>by
  unfold rF at h
  by_cases e:q=p
  ·rw [if_pos e] at h; cases h; simp
  ·rw [if_neg e] at h;have:=VZ h;simp only [List.length_cons]; omega
theorem M6 {s:CS} {i:Nat} {q:Nd} (h:Ut s) (hq:zK q s.out.length=0):Ut (jL i q s).2/\0<=(jL i q s).1/\(jL i q s).1<(jL i q s).2.out.length/\s.out.length<=(jL i q s).2.out.length:=by
 unfold jL
 cases he:rF q s.out 0 with
 | some k=>
  have hk:=VZ he;refine⟨⟨h.nd,λz j hz=>?_⟩,by simp,by simp only; omega,χ _⟩;simp only at hz;rw [rA] at hz
  by_cases e:z=i
  ·rw [if_pos e] at hz; cases hz; simp only; omega
  ·rw [if_neg e] at hz; exact h.dn z j hz
 | none=>
  refine⟨⟨λk hk=>?_,λz j hz=>?_⟩,by simp,by simp; omega,by simp⟩
  ·simp only [κ,μ] at hk
   by_cases hl:k<s.out.length
   ·have:=h.nd k hl;simp only [θ] at this ⊢
    rwa [ν hl]
   ·obtain rfl:k=s.out.length:=by omega
    simpa [θ] using hq
  ·simp only at hz;rw [rA] at hz
   by_cases e:z=i
   ·rw [if_pos e] at hz; cases hz; simp; omega
   ·rw [if_neg e] at hz;have:=h.dn z j hz;simp only [κ,μ]; omega
theorem cO {f:List Nd} (hc:∀ k,k<f.length->zK (f.getD k vW) k=0):∀ (n:Nat) {i:Nat} {s:CS},i<n->i<f.length->Ut s ->
  Ut (xC f n i s).2/\0<=(xC f n i s).1/\(xC f n i s).1<(xC f n i s).2.out.length/\s.out.length<=(xC f n i s).2.out.length
 | 0,i,s,h,_,_=>by omega
 | n + 1,i,s,h,hi,hs=>by
  cases hu:wB i s.done with
  | some k=>rw [xC,hu]; exact⟨hs,(hs.dn _ _ hu).1,(hs.dn _ _ hu).2,χ _⟩
  | none=>
   rw [lH hu];have hp:=hc i hi;obtain⟨ox,oy⟩:=nH hp;simp only;generalize f.getD i vW=p at ox oy hp
   have ha:Ut (if (xY p.op).1.x=true then xC f n p.x.toNat s else(p.x,s)).2/\(if (xY p.op).1.x=true then 0<=(if (xY p.op).1.x=true then xC f n p.x.toNat s else(p.x,s)).1/\(if (xY p.op).1.x=true then xC f n p.x.toNat s else(p.x,s)).1<(if (xY p.op).1.x=true then xC f n p.x.toNat s else(p.x,s)).2.out.length else(if (xY p.op).1.x=true then xC f n p.x.toNat s else(p.x,s)).1=p.x)/\ s.out.length<=(if (xY p.op).1.x=true then xC f n p.x.toNat s else(p.x,s)).2.out.length:=by
    by_cases hx:(xY p.op).1.x=true
    ·simp only [if_pos hx];have:=ox hx;obtain⟨b1,b2,b3,b4⟩:=cO hc n (i:=p.x.toNat) (s:=s) (by omega) (by omega) hs;exact⟨b1,⟨b2,b3⟩,b4⟩
    ·simp only [if_neg hx]; exact⟨hs,trivial,χ _⟩
   generalize (if (xY p.op).1.x=true then xC f n p.x.toNat s else(p.x,s))= a at ha;obtain⟨a1,a2,a3⟩:=ha
   have hb:Ut (if (xY p.op).1.y=true then xC f n p.y.toNat a.2 else(p.y,a.2)).2/\(if (xY p.op).1.y=true then 0<=(if (xY p.op).1.y=true then xC f n p.y.toNat a.2 else(p.y,a.2)).1/\(if (xY p.op).1.y=true then xC f n p.y.toNat a.2 else(p.y,a.2)).1<(if (xY p.op).1.y=true then xC f n p.y.toNat a.2 else(p.y,a.2)).2.out.length else(if (xY p.op).1.y=true then xC f n p.y.toNat a.2 else(p.y,a.2)).1=p.y)/\ a.2.out.length<=(if (xY p.op).1.y=true then xC f n p.y.toNat a.2 else(p.y,a.2)).2.out.length:=by
    by_cases hy:(xY p.op).1.y=true
    ·simp only [if_pos hy];have:=oy hy;obtain⟨b1,b2,b3,b4⟩:=cO hc n (i:=p.y.toNat) (s:=a.2) (by omega) (by omega) a1;exact⟨b1,⟨b2,b3⟩,b4⟩
    ·simp only [if_neg hy]; exact⟨a1,trivial,χ _⟩
   generalize (if (xY p.op).1.y=true then xC f n p.y.toNat a.2 else(p.y,a.2))= b at hb;obtain⟨b1,b2,b3⟩:=hb
   have hq:zK ⟨p.op,p.i,p.e,p.g,a.1,b.1⟩ b.2.out.length=0:=by
    refine cR hp ?_ b2
    split
    ·rename_i hx;rw [if_pos hx] at a2; omega
    ·rename_i hx;rw [if_neg hx] at a2; exact a2
   obtain⟨e1,e2,e3,e4⟩:=M6 (i:=i) b1 hq;exact⟨e1,e2,e3,by omega⟩
theorem iI (f:List Nd) (i:Int):∀ k,k<(sE f i).length->zK ((sE f i).getD k vW) k=0:=by
 unfold sE
 by_cases h:yW f≠0\/i<0\/(f.length:Int)<=i
 ·rw [if_pos h]; intro k hk; simp at hk
 ·rw [if_neg h];obtain⟨c1,c2,c3⟩:=zF (f:=f) (by omega);exact(cO c3 (i.toNat+1) (i:=i.toNat) (s:=⟨[],[]⟩) (by omega) (by omega) ⟨λk hk=>by simp at hk,λz k hz=>by cases hz⟩).1.nd
theorem Mc {f:List Nd} {i:Nat} (hc:yW f=0) (hi:i<f.length):0<(sE f i).length:=by obtain⟨c1,c2,c3⟩:=zF hc;unfold sE;rw [if_neg (by omega)];have:=(cO c3 ((i:Int).toNat+1) (i:=(i:Int).toNat) (s:=⟨[],[]⟩) (by omega) (by omega) ⟨λk hk=>by simp at hk,λz k hz=>by cases hz⟩).2;unfold tH;omega
theorem gQ {f:List Nd} (hc:yW f=0):0<(xB f).length:=by
 have h1:=(zF hc).1;have:0<f.length:=List.length_pos_iff.2 h1;have:=Mc (i:=f.length-1) hc (by omega);unfold xB
 rwa [show ((f.length:Int)-1)= ((f.length-1:Nat):Int) by omega]
theorem jT {l:List Nd} (h:∀ k,k<l.length->zK (l.getD k vW) k=0) {p:Nd} (hp:p ∈ l):∃ k:Nat,zK p k=0:=by
 obtain⟨k,hk,rfl⟩:=List.getElem_of_mem hp;refine⟨k,?_⟩;have:=h k hk
 rwa [θ,ξ hk] at this
theorem mN {p:Nd} {k:Int} (h:zK p k=0) (hf:(xY p.op).1.fa=true):0<=p.i/\p.i<=7:=by have:=(vU.1 h).2.2.2.2;simp only [xH,hf,ε,ζ,decide_eq_false_iff_not] at this;omega
theorem rZ {p:Nd} {k:Int} (h:zK p k=0) (hf:(xY p.op).1.ag=true):0<=p.i/\p.i<=3:=by have:=(vU.1 h).2.2.2.2;simp only [xH,hf,ε,ζ,decide_eq_false_iff_not] at this;omega
theorem eW {p:Nd} {k:Int} (h:zK p k=0):0<=p.g/\p.g<=15:=by
 have h1:=(vU.1 h).2.2.2.2;have h2:=(vU.1 h).2.2.2.1
 cases hg:(xY p.op).1.gr
 ·simp only [hg,ε,γ,ζ,decide_eq_false_iff_not] at h2;omega
 ·simp only [xH,hg,ε,ζ,decide_eq_false_iff_not] at h1;omega
def tZ (p:Nd):Nat:=if (xY p.op).1.ag=true then 2 ^ p.i.toNat else p.g.toNat
def qL (p:Nd):Nat:=if (xY p.op).1.fa=true then 2 ^ p.i.toNat else 0
def oW (f:List Nd):Nat:=wU tZ (xB f)
def jR (f:List Nd):Nat:=wU qL (xB f)
theorem bu {p:Nd} {k:Int} (h:zK p k=0):tZ p<4096:=by
 unfold tZ
 split
 ·rename_i hf;have:=rZ h hf;have:2 ^ p.i.toNat<=2 ^ 3:=ψ (by decide) (by omega);omega
 ·have:=eW h;omega
theorem Yg {p:Nd} {k:Int} (h:zK p k=0):qL p<4096:=by
 unfold qL
 split
 ·rename_i hf;have:=mN h hf;have:2 ^ p.i.toNat<=2 ^ 7:=ψ (by decide) (by omega);omega
 ·omega
def sO (f:List Nd) (a b:Int):Bool:=decide (yW f=0)&& iG (oW f) a&&iG (jR f) b
end Fm
theorem Pt (f:List Nd):xA prog 147 [.sl 6 (wP f)] (.int .i64 (oW f)):=by
 refine xI func147 Iu λhf=>?_;refine xJ ?_
 refine .go (xP.yP (y7 (m:=tZ) (λp hp=>?_) (λp hp=>?_) (by have:=mP f ((f.length:Int)-1); unfold xB; omega)) rfl) ?_
 ·obtain⟨k,hk⟩:=jT (iI f _) hp;exact bu hk
 ·obtain⟨k,hk⟩:=jT (iI f _) hp;have h:=Pu p (xY p.op).1 (λha=>by have:=rZ hk ha; omega)
  rw [show ((tZ p:Nat):Int)= (if (xY p.op).1.ag=true then((2 ^ p.i.toNat:Nat):Int) else p.g) by
   unfold tZ
   split
   ·rfl
   ·have:=eW hk; omega]
  exact h
 refine xJ ?_;exact .same
theorem Nl (f:List Nd):xA prog 148 [.sl 6 (wP f)] (.int .i64 (jR f)):=by
 refine xI func148 Iv λhf=>?_;refine xJ ?_
 refine .go (xP.yP (y7 (m:=qL) (λp hp=>?_) (λp hp=>?_) (by have:=mP f ((f.length:Int)-1); unfold xB; omega)) rfl) ?_
 ·obtain⟨k,hk⟩:=jT (iI f _) hp;exact Yg hk
 ·obtain⟨k,hk⟩:=jT (iI f _) hp;have h:=O9 p (xY p.op).1 (λha=>by have:=mN hk ha; omega)
  rw [show ((qL p:Nat):Int)= (if (xY p.op).1.fa=true then((2 ^ p.i.toNat:Nat):Int) else 0) by unfold qL;split <;> rfl]
  exact h
 refine xJ ?_;exact .same
theorem SA (f:List Nd) (a b:Int):xA prog 101 [.sl 6 (wP f),.int .i64 a,.int .i64 b] (.bool (sO f a b)):=by
 refine xI func101 IJ λhf=>?_;refine xJ ?_;refine .go (cr (eQ f)) ?_;by_cases hc:yW f=0
 case neg=>
  have e:(yW f==0)= false:=by simpa using hc
  refine xG e ?_;exact .drop (by simp) (by simp [vw,sO,hc])
 have e:(yW f==0)= true:=by simpa using hc
 refine xG e ?_;refine .go (cr (Pt f)) ?_;refine xJ ?_;refine .go (xP.yP (SO (oW f) a) rfl) ?_
 cases hb:iG (oW f) a
 ·refine xJ ?_;exact .drop (by simp) (by simp [vw,sO,hb])
 refine xJ ?_;refine .go (cr (Nl f)) ?_;refine xJ ?_;refine .go (xP.yP (SO (jR f) b) rfl) ?_;refine xJ ?_;exact .drop (by simp) (by simp [vw,sO,hb,hc])
open Rs Fm
namespace Fm
def rb (l:List Bool):List (List D):=l.map λb=>[.bool b]
theorem wZ (l:List Bool):(rb l).length=l.length:=by simp [rb]
theorem qt (l:List Bool) {i:Nat} (h:i<l.length):(rb l).getD i [] = [.bool (l.getD i false)]:=by simp [rb,List.getD,h]
theorem qu (l:List Bool) (i:Nat) (b:Bool):(rb l).set i [.bool b]=rb (l.set i b):=by simp [rb,List.map_set]
theorem o5 (n:Nat) (b:Bool):List.replicate n [D.bool b]=rb (List.replicate n b):=by simp [rb]
theorem P3 (l:List Bool):∀ e ∈ rb l,D.xR e=true:=by intro e he;simp only [rb,List.mem_map] at he;obtain⟨n,_,rfl⟩:=he;rfl
theorem vM (l:List Bool):rR (rb l)= True:=eq_true (P3 l)
theorem cH (a b:D):List.set [a] 0 b = [b]:=rfl
theorem u5 {p:Nd} {k:Nat} (h:zK p k=0):(∃ x:Nat,p.x=x/\x<=k)/\ (∃ y:Nat,p.y=y/\y<=k):=by
 obtain⟨_,h2,h3,_⟩:=vU.1 h
 refine⟨?_,?_⟩
 ·unfold yQ at h2
  split at h2
  ·simp only [η,decide_eq_true_eq] at h2;exact⟨p.x.toNat,by omega,by omega⟩
  ·simp only [decide_eq_true_eq] at h2;exact⟨0,by omega,by omega⟩
 ·unfold yQ at h3
  split at h3
  ·simp only [η,decide_eq_true_eq] at h3;exact⟨p.y.toNat,by omega,by omega⟩
  ·simp only [decide_eq_true_eq] at h3;exact⟨0,by omega,by omega⟩
end Fm
open Rs Fm
namespace Fm
end Fm
open Rs Fm
namespace Fm
def nl (ops:List (List Nd)):List (List D):=ops.map λo=>[.sl 6 (wP o)]
theorem Se (l:List (List Nd)):(nl l).length=l.length:=by simp [nl]
theorem MQ (l:List (List Nd)) {i:Nat} (h:i<l.length):(nl l).getD i [] = [.sl 6 (wP (l.getD i []))]:=by simp [nl,List.getD,h]
theorem wy (l:List Nd):rR (wP l)= True:=eq_true (xc l)
theorem XI (l:List Nd) (a b c d e f:Int):wP l ++ [[.int .i64 a,.int .i64 b,.int .i64 c,.int .i64 d,.int .i64 e,.int .i64 f]]=wP (l ++ [⟨a,b,c,d,e,f⟩]):=by simp [wP,Nd.row]
theorem OX : wP [] = []:=rfl
theorem Oa (l:List Nd):∀ e ∈ wP l,e.length=6:=by intro e he;simp only [wP,List.mem_map] at he;obtain⟨p,_,rfl⟩:=he;rfl
def pV (n:Nat) (p:Nd):Nd:=⟨p.op,p.i,p.e,p.g,if (xY p.op).1.x=true then p.x+n else p.x,if (xY p.op).1.y=true then p.y+n else p.y⟩
def vR (f:List Nd):Prop:=∀ k,k<f.length->zK (f.getD k vW) k=0
theorem Ra {p:Nd} {k n:Nat} (h:zK p k=0):zK (pV n p) ((n+k:Nat):Int)= 0:=by
 obtain⟨ox,oy⟩:=nH h
 refine cR h ?_ ?_
 ·split
  ·rename_i hx; have:=ox hx; omega
  ·rfl
 ·split
  ·rename_i hy; have:=oy hy; omega
  ·rfl
theorem Z8 {f c:List Nd} (hf:vR f) (hc:vR c):vR (f++c.map (pV f.length)):=by
 intro k hk;simp only [κ,π] at hk;simp only [θ]
 by_cases h:k<f.length
 ·rw [ν h];have:=hf k h
  rwa [θ] at this
 ·rw [List.getElem?_append_right (by omega),List.getElem?_map];have hk':k-f.length<c.length:=by omega
  have h1:=hc (k-f.length) hk';rw [θ,ξ hk',Ad] at h1;rw [ξ hk',Ae,Ad];have:=Ra (n:=f.length) h1
  rwa [show f.length+(k-f.length)= k by omega] at this
theorem vi {f:List Nd} {p:Nd} (hf:vR f) (hp:zK p f.length=0):vR (f ++ [p]):=by
 intro k hk;simp only [κ,μ] at hk;simp only [θ]
 by_cases h:k<f.length
 ·rw [ν h];have:=hf k h
  rwa [θ] at this
 ·obtain rfl:k=f.length:=by omega
  simpa using hp
theorem bG (o:List Nd):vR (xB o):=iI o _
def Sx (k:Nat) (x:Nd) (v:Int):Nd:=if k=0 then⟨x.op,x.i,x.e,x.g,v,x.y⟩ else⟨x.op,x.i,x.e,x.g,x.x,v⟩
def zm : Nat->List (List Nd)->List Nd->Nd->Option (List Nd × Nd)
 | _,[],f,x=>some (f,x)
 | k,o :: r,f,x=>if yW o≠0 then none else
  zm (k+1) r (f++(xB o).map (pV f.length)) (Sx k x (((f++(xB o).map (pV f.length)).length:Int)-1))
def jQ (x:Nd) (ops:List (List Nd)):List Nd:=match zm 0 ops [] x with
 | none=>[]
 | some (f,x')=>if zK x' f.length≠0 then [] else if 200<(tH (f ++ [x']) f.length).length then [] else tH (f ++ [x']) f.length
end Fm
theorem sb (x:Nd) (ops:List (List Nd)) (ho:ops.length<=2):xA prog 91 [.agg x.row,.sl 1 (nl ops)] (.sl 6 (wP (jQ x ops))):=by
 refine xI func91 G9 λhf=>?_;simp only [simprocAttr,-ZA,↓zU,↓zD,zV,zT,zW,Se,Nd.row]
 (repeat refine sd ?_)
 refine xU (λa:Nat × List Nd × Nd=>[(16,.int .i64 a.1),(15,.int .i64 ops.length),(14,.sl 1 (nl ops)),(5,xD 1 6 (wP a.2.1)),(2,.ref 0 6 0 0)]) (λa=>⟨2,yX 1 6 (wP a.2.1)++ [(0,⟨6,[a.2.2.row]⟩)]⟩)
  (λa=>a.1<=ops.length/\vR a.2.1/\a.2.1.length<=200*a.1/\zm 0 ops [] x=zm a.1 (ops.drop a.1) a.2.1 a.2.2) (λa=>ops.length-a.1) (0,[],x) ⟨υ _,λk hk=>by simp at hk,by simp,rfl⟩ ?_ ?_
 ·(refine sS [] [0] ?_; simp only [wY,zQ,simprocAttr,-ZA,exists_eq_left',ne_eq,zR,OX,yA,yB,List.nil_append,Nd.row])
 rintro ⟨k,f,x1⟩ ⟨hk,hf,hfl,hb⟩;simp only at hk hf hfl hb;refine xN mixed ?_;by_cases h:k<ops.length
 case neg=>
  have hd:¬ ((k:Int)<(ops.length:Int)):=by omega
  rw [ο (by omega),zm] at hb;have eb:jQ x ops=if zK x1 f.length≠0 then [] else if 200<(tH (f ++ [x1]) f.length).length then [] else tH (f ++ [x1]) f.length:=by rw [jQ,hb]
  rw [eb];simp only [simprocAttr,-ZA,↓zU,↓zD,zV,zT,zW,hd,Nd.row,xM]
  (repeat refine sd ?_)
  refine .go (xP.yP (ur x1 f.length) (by simp [D.xR,D.xF,Nd.row])) ?_;by_cases hn:zK x1 f.length=0
  case neg=>
   have e:(zK x1 f.length != 0)= true:=by simpa using hn
   rw [if_pos hn];refine xG e ?_;exact .drop (by simp) (by simp [vw,wP])
  have e:(zK x1 f.length != 0)= false:=by simpa using hn
  rw [if_neg (by simpa using hn)];simp only [simprocAttr,-ZA,↓zU,↓zD,zV,zT,zW,e,Nd.row,xM]
  (repeat refine sd ?_)
  have hv:vR (f ++ [x1]):=vi hf hn;have hlen:(f ++ [x1]).length<=900:=by rw [κ,μ]; omega
  have hcall:=xP.Mw (σ:=⟨3,yX 2 6 (wP (f ++ [x1]))++ [(0,⟨6,[x1.row]⟩)]⟩) (args:=[xD 2 6 (wP (f ++ [x1])),.int .i64 f.length]) (objs':=[]) (λ_=>False) (ct (i:=f.length) hv hlen (by simp))
   ⟨Seen.grow (by rw [St.get,wW,if_pos rfl]; cases vA 6 (wP (f ++ [x1])) <;> rfl) id (by omega) (Oa _) (xc _),.pure rfl,trivial⟩ (λk o hk=>by cases hk)
  rw [XI];simp only [Nd.row] at hcall;refine .go hcall ?_;generalize tH (f ++ [x1]) f.length=c
  by_cases hc:200<c.length
  ·have hc':(200:Int)<(c.length:Int):=by omega
   rw [if_pos hc];refine yM xM hc' ?_;exact .drop (by simp) (by simp [vw,wP])
  ·have hc':¬ (200:Int)<(c.length:Int):=by omega
   rw [if_neg hc];refine yM xM hc' ?_;exact .dv
 have hd:((k:Int)<(ops.length:Int)):=by omega
 have hg:=MQ ops h;rw [drop_cons (d:=[]) h,zm] at hb;generalize ops.getD k []=o at hg hb;have hw:IntKind.i64.wrap ((k:Int)+ 1)= ((k+1:Nat):Int):=wrap_i64 (by omega);refine sT hd Se hg ?_;refine .go (cr (eQ o)) ?_;by_cases hc:yW o=0
 case neg=>
  have e:(yW o != 0)= true:=by simpa using hc
  rw [if_pos hc] at hb;refine xG e ?_;rw [show jQ x ops = [] by rw [jQ,hb]];exact .drop (by simp) (by simp [vw,wP])
 have e:(yW o != 0)= false:=by simpa using hc
 rw [if_neg (by simpa using hc)] at hb;refine yM e xM ?_;refine .go (cr (bp o)) ?_;have hcv:=bG o;have hcl:(xB o).length<=200:=mP o _;generalize xB o=c at hb hcv hcl;refine xG xM ?_
 refine xU (λj:Nat=>[(29,.int .i64 j),(28,.int .i64 c.length),(27,.sl 6 (wP c)),(16,.int .i64 k),(15,.int .i64 ops.length),(14,.sl 1 (nl ops)),(8,.int .i64 f.length),(6,.int .i64 k),(5,xD 1 6 (wP (f++(c.take j).map (pV f.length)))),(2,.ref 0 6 0 0)]) (λj=>⟨2,yX 1 6 (wP (f++(c.take j).map (pV f.length)))++ [(0,⟨6,[x1.row]⟩)]⟩)
  (λj=>j<=c.length) (λj=>c.length-j) 0 (υ _) ?_ ?_
 ·rw [show f++(c.take 0).map (pV f.length)= f by simp];exact wE
 intro j hj;refine xN mixed ?_;by_cases hjl:j<c.length
 case neg=>
  have hd2:¬ ((j:Int)<(c.length:Int)):=by omega
  rw [xf (show j=c.length by omega)];have hfl2:(f++c.map (pV f.length)).length<=200*(k+1):=by rw [κ,π]; omega
  have hv2:=Z8 hf hcv;generalize f++c.map (pV f.length)= f2 at hb hfl2 hv2;have hw2:IntKind.i64.wrap ((f2.length:Int)-1)= (f2.length:Int)-1:=wrap_i64 (by omega)
  by_cases hk0:k=0
  ·have e0:((k:Int)== 0)= true:=by rw [hk0]; rfl
   rw [Sx,if_pos hk0] at hb;simp only [simprocAttr,-ZA,↓zU,↓zD,zV,zT,zW,hd2,e0,xM,hw2,Nd.row]
   (repeat refine sd ?_)
   refine⟨(k+1,f2,⟨x1.op,x1.i,x1.e,x1.g,(f2.length:Int)-1,x1.y⟩),⟨by omega,hv2,hfl2,hb⟩,?_,by simp only; omega⟩
   (refine sS [] [1,0] ?_; simp only [wY,zQ,simprocAttr,-ZA,exists_eq_left',ne_eq,zR,wy,Nd.row,hw])
  ·have e0:((k:Int)== 0)= false:=by rw [beq_eq_false_iff_ne]; omega
   rw [Sx,if_neg hk0] at hb;simp only [simprocAttr,-ZA,↓zU,↓zD,zV,zT,zW,hd2,e0,xM,hw2,Nd.row]
   (repeat refine sd ?_)
   refine⟨(k+1,f2,⟨x1.op,x1.i,x1.e,x1.g,x1.x,(f2.length:Int)-1⟩),⟨by omega,hv2,hfl2,hb⟩,?_,by simp only; omega⟩
   (refine sS [] [1,0] ?_; simp only [wY,zQ,simprocAttr,-ZA,exists_eq_left',ne_eq,zR,wy,Nd.row,hw])
 have hd2:((j:Int)<(c.length:Int)):=by omega
 have hgj:=sG c hjl;have hnj:=hcv j hjl;obtain⟨⟨px,hpx,hpx2⟩,⟨py,hpy,hpy2⟩⟩:=u5 hnj;have hsn:f++(c.take (j+1)).map (pV f.length)= f++(c.take j).map (pV f.length)++ [pV f.length (c.getD j vW)]:=by rw [yC (d:=vW) hjl,List.map_append,<- List.append_assoc]; rfl
 generalize c.getD j vW=p at hgj hnj hpx hpy hsn;have hwj:IntKind.i64.wrap ((j:Int)+ 1)= ((j+1:Nat):Int):=wrap_i64 (by omega);have hl2:(f++(c.take j).map (pV f.length)).length<=1000:=by rw [κ,π,List.length_take]; omega
 generalize f++(c.take j).map (pV f.length)= f1 at hsn hl2;have hwx:IntKind.i64.wrap (p.x+(f.length:Int))= p.x+(f.length:Int):=wrap_i64 (by omega);have hwy:IntKind.i64.wrap (p.y+(f.length:Int))= p.y+(f.length:Int):=wrap_i64 (by omega);simp only [simprocAttr,-ZA,↓zU,↓zD,zV,zT,zW,hd2,xM,hgj,Nd.row]
 (repeat refine sd ?_)
 refine .go (cq (zr p.op)) ?_;have es:pV f.length p=⟨p.op,p.i,p.e,p.g,if (xY p.op).1.x=true then p.x+f.length else p.x,if (xY p.op).1.y=true then p.y+f.length else p.y⟩:=rfl;cases hux:(xY p.op).1.x <;> cases huy:(xY p.op).1.y <;> rw [hux,huy] at es
 all_goals
  simp only [simprocAttr,-ZA,↓zU,↓zD,zV,zT,zW,rp.row,hux,huy,hwx,hwy,XI,xM,κ,μ]
  (repeat refine sd ?_)
  refine⟨j+1,by omega,?_,by omega⟩;rw [hsn,es]
  (refine sS [(1,4)] [1,0] ?_; simp only [wY,zQ,simprocAttr,-ZA,exists_eq_left',ne_eq,zR,wy,hwj,Nd.row,Bool.false_eq_true,if_false,if_true])
section
open Rs Fm
namespace Fm
def V0 (f:List Nd):List Nd:=jQ ⟨4,0,0,0,0,0⟩ [f]
def PW (f g:List Nd):List Nd:=jQ ⟨5,0,0,0,0,0⟩ [f,g]
def vl (a:Int) (f:List Nd):List Nd:=jQ ⟨9,a,0,0,0,0⟩ [f]
def nL (i:Int):List Nd:=jQ ⟨3,i,0,0,0,0⟩ []
end Fm
theorem Q3 (x:Nd):xA prog 91 [.agg x.row,.xL] (.sl 6 (wP (jQ x []))):= xP.Mw (σ:=jN) (objs':=[]) (λ_=>False) (sb x [] (by simp)) ⟨.pure (by simp [D.xF,D.xR,Nd.row]),.nil 1,trivial⟩ (λk o hk=>by cases hk)
theorem KC (f:List Nd):xA prog 35 [.sl 6 (wP f)] (.sl 6 (wP (V0 f))):=by refine xI func35 FO λhf=>?_;refine zC ?_;refine .go (xP.yP (sb ⟨4,0,0,0,0,0⟩ [f] (by simp)) (by simp [D.xR,D.xF,Nd.row,nl])) ?_;refine xJ ?_;exact .same
theorem Lt (a:Int) (f:List Nd):xA prog 33 [.int .i64 a,.sl 6 (wP f)] (.sl 6 (wP (vl a f))):=by refine xI func33 FM λhf=>?_;refine zC ?_;refine .go (xP.yP (sb ⟨9,a,0,0,0,0⟩ [f] (by simp)) (by simp [D.xR,D.xF,Nd.row,nl])) ?_;refine xJ ?_;exact .same
theorem Lr (i:Int):xA prog 34 [.int .i64 i] (.sl 6 (wP (nL i))):=by refine xI func34 FN λhf=>?_;refine zC ?_;refine .go (xP.yP (Q3 ⟨3,i,0,0,0,0⟩) (by simp [D.xR,D.xF,Nd.row])) ?_;refine xJ ?_;exact .same
end
section
open Rs Fm
namespace Fm
theorem VX (a b c d e f:Int):zn [.int .i64 a,.int .i64 b,.int .i64 c,.int .i64 d,.int .i64 e,.int .i64 f]=some [a,b,c,d,e,f]:=rfl
theorem eR {α:Type} [DecidableEq α] {a b:List α} {k:Nat} {d:α} (ha:k<a.length) (hb:k<b.length):decide (a.drop k=b.drop k)= (decide (a.getD k d=b.getD k d)&& decide (a.drop (k+1)= b.drop (k+1))):=by rw [drop_cons (d:=d) ha,drop_cons (d:=d) hb,Bool.eq_iff_iff];simp
end Fm
end
open Rs Fm
namespace Fm
end Fm
open Rs Fm
namespace Fm
theorem rY (op:Int):op=1\/op=2\/op=3\/op=4\/op=5\/op=6\/op=7\/op=8\/op=9\/op=10\/op=11\/op=12\/op=13\/op=14\/op=15\/op=16\/op=17\/op=18\/op=19\/op=20\/op=21\/op<1\/21<op:=by omega
theorem vN {op:Int} (h:op<1\/21<op):xY op=(rC,false):=if_pos h
theorem Sj (op:Int):(xY op).1.x=(decide (4<=op)&& decide (op<=21)):=by
 rcases rY op with rfl | rfl | rfl | rfl | rfl | rfl | rfl | rfl | rfl | rfl | rfl | rfl | rfl | rfl | rfl | rfl | rfl | rfl | rfl | rfl | rfl | h | h
 rotate_right 2
 ·rw [vN (.inl h),decide_eq_false (by omega)]; rfl
 ·rw [vN (.inr h),decide_eq_false (show ¬ op<=21 by omega),Bool.and_false]; rfl
 all_goals rfl
theorem Mp (op:Int):(xY op).1.gr=(decide (11<=op)&& decide (op<=13)):=by
 rcases rY op with rfl | rfl | rfl | rfl | rfl | rfl | rfl | rfl | rfl | rfl | rfl | rfl | rfl | rfl | rfl | rfl | rfl | rfl | rfl | rfl | rfl | h | h
 rotate_right 2
 ·rw [vN (.inl h),decide_eq_false (by omega)]; rfl
 ·rw [vN (.inr h),decide_eq_false (show ¬ op<=13 by omega),Bool.and_false]; rfl
 all_goals rfl
theorem Vt (op:Int):(op==3)= (xY op).1.fa:=by
 rcases rY op with rfl | rfl | rfl | rfl | rfl | rfl | rfl | rfl | rfl | rfl | rfl | rfl | rfl | rfl | rfl | rfl | rfl | rfl | rfl | rfl | rfl | h | h
 rotate_right 2
 ·rw [vN (.inl h)]; simp [rC]; omega
 ·rw [vN (.inr h)]; simp [rC]; omega
 all_goals rfl
theorem PG (op:Int):(op==17)= (xY op).1.ev:=by
 rcases rY op with rfl | rfl | rfl | rfl | rfl | rfl | rfl | rfl | rfl | rfl | rfl | rfl | rfl | rfl | rfl | rfl | rfl | rfl | rfl | rfl | rfl | h | h
 rotate_right 2
 ·rw [vN (.inl h)]; simp [rC]; omega
 ·rw [vN (.inr h)]; simp [rC]; omega
 all_goals rfl
theorem PH {op:Int} (h1:¬ op<1) (h2:¬ 21<op):(xY op).2=true:=by
 rcases rY op with rfl | rfl | rfl | rfl | rfl | rfl | rfl | rfl | rfl | rfl | rfl | rfl | rfl | rfl | rfl | rfl | rfl | rfl | rfl | rfl | rfl | h | h
 rotate_right 2
 ·omega
 ·omega
 all_goals rfl
theorem sN {m:Nd->Nat}:∀ {l:List Nd},wU m l=0 ↔ ∀ p ∈ l,m p=0:=by
 intro l
 have key:∀ (l:List Nd) (a:Nat),l.foldl (λa p=>a ||| m p) a=0 ↔ a=0/\∀ p ∈ l,m p=0:=by
  intro l
  induction l with
  | nil=>simp
  | cons p r ih=>
   intro a;simp only [List.foldl_cons,ih,List.mem_cons,forall_eq_or_imp];rw [Nat.or_eq_zero_iff]
   constructor
   ·rintro ⟨⟨h1,h2⟩,h3⟩; exact⟨h1,h2,h3⟩
   ·rintro ⟨h1,h2,h3⟩; exact⟨⟨h1,h2⟩,h3⟩
 rw [wU,key];simp
end Fm
section
open Rs Fm
theorem oU (op:Int):xA prog 219 [.int .i64 op] (.bool (xY op).1.x):=by
 rw [Sj];refine xI func219 JR λhf=>?_
 by_cases h1:4<=op
 ·by_cases h2:op<=21
  ·refine yM h1 h2 ?_;exact .same
  ·refine yM h1 h2 ?_;exact .dv
 ·refine xG h1 ?_;exact .dv
theorem OF (op:Int):xA prog 222 [.int .i64 op] (.bool (xY op).1.gr):=by
 rw [Mp];refine xI func222 JS λhf=>?_
 by_cases h1:11<=op
 ·by_cases h2:op<=13
  ·refine yM h1 h2 ?_;exact .same
  ·refine yM h1 h2 ?_;exact .dv
 ·refine xG h1 ?_;exact .dv
theorem oV (op:Int):xA prog 220 [.int .i64 op] (.bool (xY op).1.y):=by
 rcases rY op with rfl | rfl | rfl | rfl | rfl | rfl | rfl | rfl | rfl | rfl | rfl | rfl | rfl | rfl | rfl | rfl | rfl | rfl | rfl | rfl | rfl | h | h
 rotate_right 2
 ·have e:∀ i:Int,1<=i->i<=21->(op==i)= false:=λi h1 h2=>by simp; omega
  have h5:¬ 5<=op:=by omega
  rw [vN (.inl h)];refine xI func220 My λhf=>?_;simp only [simprocAttr,-ZA,↓zU,↓zD,zV,zT,zW,h5,e 13 (by omega) (by omega),e 14 (by omega) (by omega),e 16 (by omega) (by omega),e 19 (by omega) (by omega),e 21 (by omega) (by omega)];exact .drop (by simp) (by simp [vw,rC])
 ·have e:∀ i:Int,1<=i->i<=21->(op==i)= false:=λi h1 h2=>by simp; omega
  have h5:5<=op:=by omega
  have h8:¬ op<=8:=by omega
  rw [vN (.inr h)];refine xI func220 My λhf=>?_;simp only [simprocAttr,-ZA,↓zU,↓zD,zV,zT,zW,h5,h8,e 13 (by omega) (by omega),e 14 (by omega) (by omega),e 16 (by omega) (by omega),e 19 (by omega) (by omega),e 21 (by omega) (by omega)];exact .drop (by simp) (by simp [vw,rC])
 all_goals
  refine xI func220 My λhf=>?_;refine xJ ?_;exact .drop (by simp) (by simp [vw,xY,rC])
theorem VJ (op:Int):xA prog 221 [.int .i64 op] (.bool (xY op).1.ag):=by
 rcases rY op with rfl | rfl | rfl | rfl | rfl | rfl | rfl | rfl | rfl | rfl | rfl | rfl | rfl | rfl | rfl | rfl | rfl | rfl | rfl | rfl | rfl | h | h
 rotate_right 2
 ·have e:∀ i:Int,1<=i->i<=21->(op==i)= false:=λi h1 h2=>by simp; omega
  rw [vN (.inl h)];refine xI func221 Mx λhf=>?_;simp only [simprocAttr,-ZA,↓zU,↓zD,zV,zT,zW,e 9 (by omega) (by omega),e 10 (by omega) (by omega),e 14 (by omega) (by omega),e 15 (by omega) (by omega)];exact .drop (by simp) (by simp [vw,rC])
 ·have e:∀ i:Int,1<=i->i<=21->(op==i)= false:=λi h1 h2=>by simp; omega
  rw [vN (.inr h)];refine xI func221 Mx λhf=>?_;simp only [simprocAttr,-ZA,↓zU,↓zD,zV,zT,zW,e 9 (by omega) (by omega),e 10 (by omega) (by omega),e 14 (by omega) (by omega),e 15 (by omega) (by omega)];exact .drop (by simp) (by simp [vw,rC])
 all_goals
  refine xI func221 Mx λhf=>?_;refine xJ ?_;exact .drop (by simp) (by simp [vw,xY,rC])
end
section
open Rs Fm
theorem MR (p:Nd) (k:Int):xA prog 178 [.agg p.row,.int .i64 k] (.int .i64 (zK p k)):=by
 have hk:=bB p.op;have hx:=oU p.op;have hy:=oV p.op;have ha:=VJ p.op;have hg:=OF p.op;have e3:=Vt p.op;have e17:=PG p.op;have e17n:(p.op != 17)= !(xY p.op).1.ev:=by rw [bne,e17]
 have en:zK p k=if (xY p.op).2=false then 10 else
  if (yQ (xY p.op).1.x p.x k&&yQ (xY p.op).1.y p.y k)= false then 3 else
  if ((!((xY p.op).1.fa || (xY p.op).1.ag || (xY p.op).1.ev)&& decide (p.i≠0)) || (!(xY p.op).1.ev&&decide (p.e≠0)) || (!(xY p.op).1.gr&&decide (p.g≠0)))= true then 3 else
  if (xH (xY p.op).1.fa p.i 0 7 || xH (xY p.op).1.ag p.i 0 3 || xH (xY p.op).1.ev p.i 0 7 || xH (xY p.op).1.ev p.e 0 7 || xH (xY p.op).1.gr p.g 1 15)= true then 2 else 0:=rfl
 by_cases h1:p.op<1
 ·rw [show zK p k=10 by rw [en,vN (.inl h1)]; rfl];refine xI func178 Mz λhf=>?_;simp only [simprocAttr,-ZA,↓zU,↓zD,zV,zT,zW,Nd.row,h1]
  (repeat refine sd ?_)
  exact .dv
 by_cases h2:21<p.op
 ·rw [show zK p k=10 by rw [en,vN (.inr h2)]; rfl];refine xI func178 Mz λhf=>?_;simp only [simprocAttr,-ZA,↓zU,↓zD,zV,zT,zW,Nd.row,h1,h2]
  (repeat refine sd ?_)
  exact .dv
 have hok:=PH h1 h2;rw [en];generalize xY p.op=q at hk hx hy ha hg e3 e17 e17n hok;obtain⟨⟨ux,uy,fa,ag,gr,ev,fr⟩,ok⟩:=q;simp only at hk hx hy ha hg e3 e17 e17n hok ⊢;subst hok;refine xP.SZ mixed func178 Mz (by simp) λhf=>?_;refine wpS_seq (xN mixed ?_);simp only [simprocAttr,-ZA,↓zU,↓zD,zV,zT,zW,Nd.row]
 (repeat refine sd ?_)
 refine wpS_seq (xN mixed ?_);refine nQ h1 h2 ?_
 cases hX:yQ ux p.x k
 ·refine wpS_seq (xN mixed ?_);refine xJ ?_;refine .go (cq hx) ?_
  cases ux
  ·have e:(p.x != 0)= true:=by simpa [yQ] using hX
   refine xJ ?_;refine .go (cq hx) ?_;refine xG e ?_;exact .dv
  ·by_cases l1:p.x<0
   ·refine xG l1 ?_;exact .dv
   ·have l2:k<=p.x:=by
     have:0<=p.x:=by omega
     simpa [yQ,this] using hX
    refine yM l1 l2 ?_;exact .dv
 refine tn [(2,.ref 0 6 0 0),(1,.int .i64 k)] ⟨1,[(0,⟨6,[p.row]⟩)]⟩ (xN mixed ?_) ?_
 ·refine xJ ?_;refine .go (cq hx) ?_
  cases ux
  ·have e:(p.x != 0)= false:=by simpa [yQ] using hX
   refine xJ ?_;refine .go (cq hx) ?_;refine xG e ?_
   (refine yR.same ?_; simp [yS,Fr.get,Nd.row])
  ·have l1:¬ p.x<0:=by simp [yQ] at hX; omega
   have l2:¬ k<=p.x:=by simp [yQ] at hX; omega
   refine yM l1 l2 ?_;refine .go (cq hx) ?_;refine xJ ?_
   (refine yR.same ?_; simp [yS,Fr.get,Nd.row])
 cases hY:yQ uy p.y k
 ·refine wpS_seq (xN mixed ?_);simp only [simprocAttr,-ZA,↓zU,↓zD,zV,zT,zW,Nd.row];refine .go (cq hy) ?_
  cases uy
  ·have e:(p.y != 0)= true:=by simpa [yQ] using hY
   refine xJ ?_;refine .go (cq hy) ?_;refine xG e ?_;exact .dv
  ·by_cases l1:p.y<0
   ·refine xG l1 ?_;exact .dv
   ·have l2:k<=p.y:=by
     have:0<=p.y:=by omega
     simpa [yQ,this] using hY
    refine yM l1 l2 ?_;exact .dv
 refine tn [(2,.ref 0 6 0 0),(1,.int .i64 k)] ⟨1,[(0,⟨6,[p.row]⟩)]⟩ (xN mixed ?_) ?_
 ·simp only [simprocAttr,-ZA,↓zU,↓zD,zV,zT,zW,Nd.row];refine .go (cq hy) ?_
  cases uy
  ·have e:(p.y != 0)= false:=by simpa [yQ] using hY
   refine xJ ?_;refine .go (cq hy) ?_;refine xG e ?_
   (refine yR.same ?_; simp [yS,Fr.get,Nd.row])
  ·have l1:¬ p.y<0:=by simp [yQ] at hY; omega
   have l2:¬ k<=p.y:=by simp [yQ] at hY; omega
   refine yM l1 l2 ?_;refine .go (cq hy) ?_;refine xJ ?_
   (refine yR.same ?_; simp [yS,Fr.get,Nd.row])
 simp only [Bool.and_self,Bool.true_eq_false,if_false,reduceCtorEq];refine xN mixed ?_
 rcases hk with ⟨rfl,rfl,rfl,rfl⟩ | ⟨rfl,rfl,rfl,rfl⟩ | ⟨rfl,rfl,rfl,rfl⟩ | ⟨rfl,rfl,rfl,rfl⟩ | ⟨rfl,rfl,rfl,rfl⟩
 ·simp only [simprocAttr,-ZA,↓zU,↓zD,zV,zT,zW,Nd.row,e3,e17,e17n,δ,γ];refine .go (cq ha) ?_;by_cases hi:p.i=0
  case neg=> have ei:(p.i != 0)= true:=bne_iff_ne.2 hi;simp only [simprocAttr,-ZA,↓zU,↓zD,zV,zT,zW,Nd.row,e3,e17,e17n,δ,γ,ei];exact .drop (by simp) (by simp [vw,xH, *])
  have ei:(p.i != 0)= false:=by simpa using hi
  by_cases he:p.e=0
  case neg=> have ee:(p.e != 0)= true:=bne_iff_ne.2 he;simp only [simprocAttr,-ZA,↓zU,↓zD,zV,zT,zW,Nd.row,e3,e17,e17n,δ,γ,ei,ee];exact .drop (by simp) (by simp [vw,xH, *])
  have ee:(p.e != 0)= false:=by simpa using he
  simp only [simprocAttr,-ZA,↓zU,↓zD,zV,zT,zW,Nd.row,e3,e17,e17n,δ,γ,ei,ee];refine .go (cq hg) ?_;by_cases hgz:p.g=0
  case neg=> have eg:(p.g != 0)= true:=bne_iff_ne.2 hgz;simp only [simprocAttr,-ZA,↓zU,↓zD,zV,zT,zW,Nd.row,e3,e17,e17n,δ,γ,ei,ee,eg];exact .drop (by simp) (by simp [vw,xH, *])
  have eg:(p.g != 0)= false:=by simpa using hgz
  simp only [simprocAttr,-ZA,↓zU,↓zD,zV,zT,zW,Nd.row,e3,e17,e17n,δ,γ,ei,ee,eg];refine .go (cq ha) ?_;simp only [simprocAttr,-ZA,↓zU,↓zD,zV,zT,zW,Nd.row,e3,e17,e17n,δ,γ,ei,ee,eg];refine .go (cq hg) ?_;simp only [simprocAttr,-ZA,↓zU,↓zD,zV,zT,zW,Nd.row,e3,e17,e17n,δ,γ,ei,ee,eg];exact .drop (by simp) (by simp [vw,xH, *])
 ·simp only [simprocAttr,-ZA,↓zU,↓zD,zV,zT,zW,Nd.row,e3,e17,e17n,δ,γ];by_cases he:p.e=0
  case neg=> have ee:(p.e != 0)= true:=bne_iff_ne.2 he;simp only [simprocAttr,-ZA,↓zU,↓zD,zV,zT,zW,Nd.row,e3,e17,e17n,δ,γ,ee];exact .drop (by simp) (by simp [vw,xH, *])
  have ee:(p.e != 0)= false:=by simpa using he
  simp only [simprocAttr,-ZA,↓zU,↓zD,zV,zT,zW,Nd.row,e3,e17,e17n,δ,γ,ee];refine .go (cq hg) ?_;by_cases hgz:p.g=0
  case neg=> have eg:(p.g != 0)= true:=bne_iff_ne.2 hgz;simp only [simprocAttr,-ZA,↓zU,↓zD,zV,zT,zW,Nd.row,e3,e17,e17n,δ,γ,ee,eg];exact .drop (by simp) (by simp [vw,xH, *])
  have eg:(p.g != 0)= false:=by simpa using hgz
  by_cases ri1:p.i<0
  ·simp only [simprocAttr,-ZA,↓zU,↓zD,zV,zT,zW,Nd.row,e3,e17,e17n,δ,γ,ee,eg,ri1];exact .drop (by simp) (by simp [vw,xH, *])
  by_cases ri2:8<=p.i
  ·simp only [simprocAttr,-ZA,↓zU,↓zD,zV,zT,zW,Nd.row,e3,e17,e17n,δ,γ,ee,eg,ri1,ri2];have ri3:7<p.i:=by omega
   exact .drop (by simp) (by simp [vw,xH, *])
  have ri3:¬ 7<p.i:=by omega
  simp only [simprocAttr,-ZA,↓zU,↓zD,zV,zT,zW,Nd.row,e3,e17,e17n,δ,γ,ee,eg,ri1,ri2];refine .go (cq ha) ?_;simp only [simprocAttr,-ZA,↓zU,↓zD,zV,zT,zW,Nd.row,e3,e17,e17n,δ,γ,ee,eg,ri1,ri2];refine .go (cq hg) ?_;simp only [simprocAttr,-ZA,↓zU,↓zD,zV,zT,zW,Nd.row,e3,e17,e17n,δ,γ,ee,eg,ri1,ri2];exact .drop (by simp) (by simp [vw,xH, *])
 ·simp only [simprocAttr,-ZA,↓zU,↓zD,zV,zT,zW,Nd.row,e3,e17,e17n,δ,γ];refine .go (cq ha) ?_;by_cases he:p.e=0
  case neg=> have ee:(p.e != 0)= true:=bne_iff_ne.2 he;simp only [simprocAttr,-ZA,↓zU,↓zD,zV,zT,zW,Nd.row,e3,e17,e17n,δ,γ,ee];exact .drop (by simp) (by simp [vw,xH, *])
  have ee:(p.e != 0)= false:=by simpa using he
  simp only [simprocAttr,-ZA,↓zU,↓zD,zV,zT,zW,Nd.row,e3,e17,e17n,δ,γ,ee];refine .go (cq hg) ?_;by_cases hgz:p.g=0
  case neg=> have eg:(p.g != 0)= true:=bne_iff_ne.2 hgz;simp only [simprocAttr,-ZA,↓zU,↓zD,zV,zT,zW,Nd.row,e3,e17,e17n,δ,γ,ee,eg];exact .drop (by simp) (by simp [vw,xH, *])
  have eg:(p.g != 0)= false:=by simpa using hgz
  simp only [simprocAttr,-ZA,↓zU,↓zD,zV,zT,zW,Nd.row,e3,e17,e17n,δ,γ,ee,eg];refine .go (cq ha) ?_
  by_cases ri1:p.i<0
  ·simp only [simprocAttr,-ZA,↓zU,↓zD,zV,zT,zW,Nd.row,e3,e17,e17n,δ,γ,ee,eg,ri1];exact .drop (by simp) (by simp [vw,xH, *])
  by_cases ri2:4<=p.i
  ·simp only [simprocAttr,-ZA,↓zU,↓zD,zV,zT,zW,Nd.row,e3,e17,e17n,δ,γ,ee,eg,ri1,ri2];have ri3:3<p.i:=by omega
   exact .drop (by simp) (by simp [vw,xH, *])
  have ri3:¬ 3<p.i:=by omega
  simp only [simprocAttr,-ZA,↓zU,↓zD,zV,zT,zW,Nd.row,e3,e17,e17n,δ,γ,ee,eg,ri1,ri2];refine .go (cq hg) ?_;simp only [simprocAttr,-ZA,↓zU,↓zD,zV,zT,zW,Nd.row,e3,e17,e17n,δ,γ,ee,eg,ri1,ri2];exact .drop (by simp) (by simp [vw,xH, *])
 ·simp only [simprocAttr,-ZA,↓zU,↓zD,zV,zT,zW,Nd.row,e3,e17,e17n,δ,γ];refine .go (cq ha) ?_;by_cases hi:p.i=0
  case neg=> have ei:(p.i != 0)= true:=bne_iff_ne.2 hi;simp only [simprocAttr,-ZA,↓zU,↓zD,zV,zT,zW,Nd.row,e3,e17,e17n,δ,γ,ei];exact .drop (by simp) (by simp [vw,xH, *])
  have ei:(p.i != 0)= false:=by simpa using hi
  by_cases he:p.e=0
  case neg=> have ee:(p.e != 0)= true:=bne_iff_ne.2 he;simp only [simprocAttr,-ZA,↓zU,↓zD,zV,zT,zW,Nd.row,e3,e17,e17n,δ,γ,ei,ee];exact .drop (by simp) (by simp [vw,xH, *])
  have ee:(p.e != 0)= false:=by simpa using he
  simp only [simprocAttr,-ZA,↓zU,↓zD,zV,zT,zW,Nd.row,e3,e17,e17n,δ,γ,ei,ee];refine .go (cq hg) ?_;simp only [simprocAttr,-ZA,↓zU,↓zD,zV,zT,zW,Nd.row,e3,e17,e17n,δ,γ,ei,ee];refine .go (cq ha) ?_;simp only [simprocAttr,-ZA,↓zU,↓zD,zV,zT,zW,Nd.row,e3,e17,e17n,δ,γ,ei,ee];refine .go (cq hg) ?_
  by_cases rg1:p.g<1
  ·simp only [simprocAttr,-ZA,↓zU,↓zD,zV,zT,zW,Nd.row,e3,e17,e17n,δ,γ,ei,ee,rg1];exact .drop (by simp) (by simp [vw,xH, *])
  by_cases rg2:16<=p.g
  ·simp only [simprocAttr,-ZA,↓zU,↓zD,zV,zT,zW,Nd.row,e3,e17,e17n,δ,γ,ei,ee,rg1,rg2];have rg3:15<p.g:=by omega
   exact .drop (by simp) (by simp [vw,xH, *])
  have rg3:¬ 15<p.g:=by omega
  simp only [simprocAttr,-ZA,↓zU,↓zD,zV,zT,zW,Nd.row,e3,e17,e17n,δ,γ,ei,ee,rg1,rg2];exact .drop (by simp) (by simp [vw,xH, *])
 ·simp only [simprocAttr,-ZA,↓zU,↓zD,zV,zT,zW,Nd.row,e3,e17,e17n,δ,γ];refine .go (cq ha) ?_;simp only [simprocAttr,-ZA,↓zU,↓zD,zV,zT,zW,Nd.row,e3,e17,e17n,δ,γ];refine .go (cq hg) ?_;by_cases hgz:p.g=0
  case neg=> have eg:(p.g != 0)= true:=bne_iff_ne.2 hgz;simp only [simprocAttr,-ZA,↓zU,↓zD,zV,zT,zW,Nd.row,e3,e17,e17n,δ,γ,eg];exact .drop (by simp) (by simp [vw,xH, *])
  have eg:(p.g != 0)= false:=by simpa using hgz
  simp only [simprocAttr,-ZA,↓zU,↓zD,zV,zT,zW,Nd.row,e3,e17,e17n,δ,γ,eg];refine .go (cq ha) ?_
  by_cases ri1:p.i<0
  ·simp only [simprocAttr,-ZA,↓zU,↓zD,zV,zT,zW,Nd.row,e3,e17,e17n,δ,γ,eg,ri1];exact .drop (by simp) (by simp [vw,xH, *])
  by_cases ri2:8<=p.i
  ·simp only [simprocAttr,-ZA,↓zU,↓zD,zV,zT,zW,Nd.row,e3,e17,e17n,δ,γ,eg,ri1,ri2];have ri3:7<p.i:=by omega
   exact .drop (by simp) (by simp [vw,xH, *])
  have ri3:¬ 7<p.i:=by omega
  by_cases re1:p.e<0
  ·simp only [simprocAttr,-ZA,↓zU,↓zD,zV,zT,zW,Nd.row,e3,e17,e17n,δ,γ,eg,ri1,ri2,re1];exact .drop (by simp) (by simp [vw,xH, *])
  by_cases re2:8<=p.e
  ·simp only [simprocAttr,-ZA,↓zU,↓zD,zV,zT,zW,Nd.row,e3,e17,e17n,δ,γ,eg,ri1,ri2,re1,re2];have re3:7<p.e:=by omega
   exact .drop (by simp) (by simp [vw,xH, *])
  have re3:¬ 7<p.e:=by omega
  simp only [simprocAttr,-ZA,↓zU,↓zD,zV,zT,zW,Nd.row,e3,e17,e17n,δ,γ,eg,ri1,ri2,re1,re2];refine .go (cq hg) ?_;simp only [simprocAttr,-ZA,↓zU,↓zD,zV,zT,zW,Nd.row,e3,e17,e17n,δ,γ,eg,ri1,ri2,re1,re2];exact .drop (by simp) (by simp [vw,xH, *])
open Rs Fm
theorem rq (f:List Nd):xA prog 117 [.sl 6 (wP f)] (.int .i64 (yW f)):=by
 refine xI func117 IT λhf=>?_;simp only [D.rX,D.fact,xM] at hf;have hlen:=hf.1.1
 by_cases h1:f.length=0
 ·have e1:((f.length:Int)== 0)= true:=by simpa using h1
  refine yM xM e1 ?_;rw [show yW f=3 from if_pos (List.length_eq_zero_iff.1 h1)];exact .same
 have e1:((f.length:Int)== 0)= false:=by simpa using h1
 have hne:f ≠ []:=λe=>h1 (by rw [e]; rfl)
 by_cases h2:200<f.length
 ·have h2':(200:Int)<(f.length:Int):=by omega
  refine bO xM e1 h2' ?_;rw [show yW f=8 by rw [yW,if_neg hne,if_pos h2]];exact .same
 have h2':¬ (200:Int)<(f.length:Int):=by omega
 rw [show yW f=cC f 0 by rw [yW,if_neg hne,if_neg h2]];refine bO xM e1 h2' ?_
 refine xU (λk:Nat=>[(3,.int .i64 k),(0,.sl 6 (wP f))]) (λ_=>⟨0,[]⟩) (λk=>k<=f.length/\cC f 0=cC (f.drop k) k) (λk=>f.length-k) 0 ⟨υ _,rfl⟩ ?_ ?_
 ·exact wE
 intro k ⟨hk,hi⟩;refine xN mixed ?_;by_cases h:k<f.length
 case neg=>
  have hd:¬ ((k:Int)<(f.length:Int)):=by omega
  rw [ο (by omega),cC] at hi;refine yM hd xM ?_;rw [hi];exact .same
 have hd:((k:Int)<(f.length:Int)):=by omega
 rw [drop_cons (d:=vW) h,cC] at hi;have hg:=sG f h;generalize f.getD k vW=p at hg hi;simp only [simprocAttr,-ZA,↓zU,↓zD,zV,zT,zW,hd,xM,hg,Nd.row]
 (repeat refine sd ?_)
 refine .go (xP.yP (MR p k) (by simp [D.xR,D.xF,Nd.row])) ?_
 by_cases he:zK p k=0
 ·have e:(zK p k != 0)= false:=by simpa using he
  rw [if_neg (by simpa using he)] at hi;refine xG e ?_;refine⟨k+1,⟨by omega,hi⟩,?_,by omega⟩
  (refine yR.view (λk=>k) (by simp) (by simp) ?_ (by simp [stays]) (by simp [qX]); simp [bo,vw,uK,Fr.get])
  exact wrap_i64 (by omega)
 ·have e:(zK p k != 0)= true:=bne_iff_ne.2 he;rw [if_pos he] at hi;refine xG e ?_;rw [hi];exact .dv
end
section
open Rs Fm
namespace Fm
def je (kO kD:Nat) (out:List Nd) (dl:List Int):Ob:=⟨2,[[xD kO 6 (wP out),xD kD 1 (rows .i64 dl)]]⟩
def GP (nx:Nat) (xZ:List (Nat × Ob)) (kO kD:Nat) (out:List Nd) (dl:List Int) (q:Nd) (d:D) (σ':St):Prop:=
 (∃ k:Nat,rF q out 0=some k/\d = .int .i64 k/\σ'=⟨nx+1,(nx,wG q.op q.i q.e q.g q.x q.y) :: xZ⟩) \/
 (rF q out 0=none/\d = .int .i64 out.length/\σ'=⟨nx+1+1,yX (nx+1) 6 (wP (out ++ [q]))++ zG (yO ((nx,wG q.op q.i q.e q.g q.x q.y) :: xZ) kO) 0 (je (nx+1) kD (out ++ [q]) dl)⟩)
end Fm
theorem NU {nx kO kD:Nat} {xZ:List (Nat × Ob)} {out:List Nd} {dl:List Int} {q:Nd} {d:D} {σ':St} (h0:St.look xZ 0=some (je kO kD out dl)) (hn:1<=nx) (hlen:out.length<=1000) (hk0:kO≠0) (hk1:kO≠nx) (hk:St.look xZ kO=vA 6 (wP out))
  (h:GP nx xZ kO kD out dl q d σ'):xP prog 272 [.ref 0 2 0 0,.agg q.row] ⟨nx,xZ⟩ d σ':=by
 have hx0:¬ nx=0:=by omega
 have hx1:¬ nx=kO:=λe=>hk1 e.symm;refine xI func272 Jo λhf=>?_;simp only [simprocAttr,-ZA,↓zU,↓zD,zV,zT,zW,Nd.row]
 (repeat refine sd ?_)
 refine xU (λk:Nat=>[(5,.int .i64 k),(3,.ref nx 6 0 0),(0,.ref 0 2 0 0)]) (λ_=>⟨nx+1,(nx,wG q.op q.i q.e q.g q.x q.y) :: xZ⟩) (λk=>k<=out.length/\rF q out 0=rF q (out.drop k) k) (λk=>out.length-k) 0 ⟨υ _,rfl⟩ ?_ ?_
 ·(refine yR.same ?_; simp [yS,Fr.get,wG])
 intro k ⟨hkl,hi⟩;refine xN mixed ?_;by_cases hlt:k<out.length
 case pos=>
  have hd:(k:Int)<(out.length:Int):=by omega
  have hg:=sG out hlt;rw [drop_cons (d:=vW) hlt,rF] at hi;generalize out.getD k vW=p at hg hi
  by_cases hqp:q=p
  ·subst hqp;rw [if_pos rfl] at hi;have hq:decide ([q.op,q.i,q.e,q.g,q.x,q.y] = [q.op,q.i,q.e,q.g,q.x,q.y])= true:=by simp
   simp only [simprocAttr,-ZA,↓zU,↓zD,zV,zT,zW,hx0,hx1,h0,je,xM,hd,hk,hg,Nd.row,wG,VX,hq]
   (repeat refine sd ?_)
   rcases h with ⟨k',e1,rfl,rfl⟩ | ⟨e1,_,_⟩
   ·rw [hi] at e1;cases e1;simp only [wG];exact .same
   ·rw [hi] at e1; cases e1
  ·rw [if_neg hqp] at hi
   have hq:decide ([p.op,p.i,p.e,p.g,p.x,p.y] = [q.op,q.i,q.e,q.g,q.x,q.y])= false:=by rw [decide_eq_false_iff_not];exact λh=>hqp (key_inj h).symm
   simp only [simprocAttr,-ZA,↓zU,↓zD,zV,zT,zW,hx0,hx1,h0,je,xM,hd,hk,hg,Nd.row,wG,VX,hq]
   (repeat refine sd ?_)
   refine⟨k+1,⟨by omega,hi⟩,?_,by omega⟩;exact yH
 have hd:¬ (k:Int)<(out.length:Int):=by omega
 rw [ο (by omega),rF] at hi
 rcases h with ⟨k',e1,_,_⟩ | ⟨e1,rfl,rfl⟩
 ·rw [hi] at e1; cases e1
 have hq0:¬ kO=0:=hk0;have er:wP (out ++ [q])= wP out ++ [[.int .i64 q.op,.int .i64 q.i,.int .i64 q.e,.int .i64 q.g,.int .i64 q.x,.int .i64 q.y]]:=by simp [wP,Nd.row]
 simp only [simprocAttr,-ZA,↓zU,↓zD,zV,zT,zW,hx0,hx1,h0,je,xM,hd,hk,Nd.row,wG,xQ,xE,hq0]
 (repeat refine sd ?_)
 rw [er,show IntKind.i64.wrap (((out.length+1:Nat):Int)-1)= (out.length:Int) by rw [wrap_i64 (by omega)]; omega];exact .same
end
section
open Rs Fm
namespace Fm
def Kw (i nx2:Nat) (objs2:List (Nat × Ob)) (kO kD:Nat) (out:List Nd) (dl:List Int) (q:Nd) (d:D) (σ':St):Prop:=
 (∃ k:Nat,rF q out 0=some k/\d = .int .i64 k/\σ'=⟨nx2+1,(nx2,wG q.op q.i q.e q.g q.x q.y) :: zG objs2 kD ⟨1,rows .i64 (dl.set i k)⟩⟩) \/
 (rF q out 0=none/\d = .int .i64 out.length/\σ'=⟨nx2+1+1,yX (nx2+1) 6 (wP (out ++ [q]))++ (nx2,wG q.op q.i q.e q.g q.x q.y) :: zG (zG (yO objs2 kO) 0 (je (nx2+1) kD (out ++ [q]) dl)) kD ⟨1,rows .i64 (dl.set i (out.length:Int))⟩⟩)
end Fm
theorem Ms {f:List Nd} {nx i:Nat} {xZ:List (Nat × Ob)} {kO kD:Nat} {s:CS} {dl:List Int} {p:Nd}
  (h0:St.look xZ 0=some (je kO kD s.out dl)) (hn:1<=nx) (hkD:kD≠0/\kD<nx/\St.look xZ kD=some ⟨1,rows .i64 dl⟩) (hdl:dl.length=f.length) (hi:i<f.length) (hp:f.getD i vW=p) (hno:dl.getD i 0 = -1)
  {a b:Int} {nx1 nx2:Nat} {O1 O2:List (Nat × Ob)} {kO2:Nat} {out2:List Nd} {dl2:List Int}
  (h3:((xY p.op).1.x=true/\∃ objs1,xP prog 255 [.sl 6 (wP f),.int .i64 p.x,.ref 0 2 0 0] ⟨nx+1,(nx,wG p.op p.i p.e p.g p.x p.y) :: xZ⟩ (.int .i64 a) ⟨nx1,objs1⟩/\ St.look objs1 nx=some (wG p.op p.i p.e p.g p.x p.y)/\ O1=zG objs1 nx (wG p.op p.i p.e p.g a p.y)) \/
   ((xY p.op).1.x=false/\a=p.x/\nx1=nx+1/\O1=(nx,wG p.op p.i p.e p.g p.x p.y) :: xZ))
  (hN1:St.look O1 nx=some (wG p.op p.i p.e p.g a p.y))
  (h4:((xY p.op).1.y=true/\∃ objs2,xP prog 255 [.sl 6 (wP f),.int .i64 p.y,.ref 0 2 0 0] ⟨nx1,O1⟩ (.int .i64 b) ⟨nx2,objs2⟩/\ St.look objs2 nx=some (wG p.op p.i p.e p.g a p.y)/\ O2=zG objs2 nx (wG p.op p.i p.e p.g a b)) \/
   ((xY p.op).1.y=false/\b=p.y/\nx2=nx1/\O2=O1))
  (hN2:St.look O2 nx=some (wG p.op p.i p.e p.g a b)) (g0:St.look O2 0=some (je kO2 kD out2 dl2)) (gD:St.look O2 kD=some ⟨1,rows .i64 dl2⟩) (gd:dl2.length=f.length) (gO:kO2≠0/\kO2≠nx/\kO2≠nx2/\kO2≠kD/\St.look O2 kO2=vA 6 (wP out2)) (hlen:out2.length<=1000) (hnx:nx<nx2)
  {d:D} {σ':St} (h5:Kw i nx2 O2 kO2 kD out2 dl2 ⟨p.op,p.i,p.e,p.g,a,b⟩ d σ') :
  xP prog 255 [.sl 6 (wP f),.int .i64 i,.ref 0 2 0 0] ⟨nx,xZ⟩ d σ':=by
 have hg:=sG f hi;rw [hp] at hg;have hx0:¬ nx=0:=by omega
 have hx1:¬ nx=kD:=by omega
 obtain⟨hkD0,hkDn,hkD⟩:=hkD;obtain⟨gO0,gOn,gO2,gOD,gO⟩:=gO;have hrl:(rows IntKind.i64 dl).length=dl.length:=yV _ _
 have hgd:(rows IntKind.i64 dl).getD i [] = [.int .i64 (-1)]:=by rw [<- hno]; simp [rows,List.getD,hdl,hi]
 refine xP.SZ mixed func255 LA (by simp) λhf=>?_;refine wpS_seq (xN mixed ?_);refine xJ ?_;refine wpS_seq (xN mixed ?_);simp only [simprocAttr,-ZA,↓zU,↓zD,zV,zT,zW,h0,je,hrl,hdl,hkD,hgd]
 (repeat refine sd ?_)
 refine wpS_seq (xN mixed ?_);simp only [simprocAttr,-ZA,↓zU,↓zD,zV,zT,zW,xM,hg,Nd.row]
 (repeat refine sd ?_)
 refine tn [(7,.ref nx 6 0 0),(2,.ref 0 2 0 0),(1,.int .i64 i),(0,.sl 6 (wP f))] ⟨nx1,O1⟩ (xN mixed ?_) ?_
 ·refine xJ ?_;refine .go (cq (oU p.op)) ?_
  rcases h3 with ⟨ux,objs1,hc,hl,rfl⟩ | ⟨ux,rfl,rfl,rfl⟩
  ·rw [ux];simp only [wG] at hc hl;simp only [simprocAttr,-ZA,↓zU,↓zD,zV,zT,zW,xM,hg,Nd.row]
   (repeat refine sd ?_)
   refine .go hc ?_;refine wA hl ?_
   (refine yR.same ?_; simp [yS,Fr.get,wG])
  ·rw [ux];refine xJ ?_
   (refine yR.same ?_; simp [yS,Fr.get,wG])
 refine tn [(7,.ref nx 6 0 0),(2,.ref 0 2 0 0),(1,.int .i64 i),(0,.sl 6 (wP f))] ⟨nx2,O2⟩ (xN mixed ?_) ?_
 ·simp only [wG] at hN1;refine wA hN1 ?_;refine .go (cq (oV p.op)) ?_
  rcases h4 with ⟨uy,objs2,hc,hl,rfl⟩ | ⟨uy,rfl,rfl,rfl⟩
  ·rw [uy];simp only [wG] at hc hl;simp only [simprocAttr,-ZA,↓zU,↓zD,zV,zT,zW,xM,hg,Nd.row]
   (repeat refine sd ?_)
   refine .go hc ?_;refine wA hl ?_
   (refine yR.same ?_; simp [yS,Fr.get,wG])
  ·rw [uy];refine xJ ?_
   (refine yR.same ?_; simp [yS,Fr.get,wG])
 refine xN mixed ?_;have hrl2:(rows IntKind.i64 dl2).length=dl2.length:=yV _ _;have hset:∀ x:Int,(rows IntKind.i64 dl2).set i [.int .i64 x]=rows .i64 (dl2.set i x):=λx=>by simp [rows,List.map_set]
 have hget:∀ x:Int,(rows IntKind.i64 (dl2.set i x)).getD i [] = [.int .i64 x]:=λx=>by simp [rows,List.getD,gd,hi]
 have y0:¬ nx2=0:=by omega
 have y1:¬ nx2=nx:=by omega
 have y2:¬ nx2=kD:=by omega
 have y3:¬ nx2=kO2:=λe=>gO2 e.symm;have y4:¬ nx2+1=0:=by omega
 have y5:¬ nx2+1=nx:=by omega
 have y6:¬ nx2+1=kD:=by omega
 have z1:¬ kD=nx2+1:=by omega
 have z0:¬ 0=kD:=λe=>hkD0 e.symm;have z2:¬ kD=0:=hkD0;have z3:¬ 0=nx:=by omega
 have z4:¬ kD=nx:=by omega
 have z5:¬ kD=nx2:=by omega
 have hgd2:(rows IntKind.i64 dl2).getD i [] = [.int .i64 (dl2.getD i 0)]:=by simp [rows,List.getD,gd,hi]
 simp only [wG] at hN2;simp only [simprocAttr,-ZA,↓zU,↓zD,zV,zT,zW,g0,je,hN2]
 (repeat refine sd ?_)
 rcases h5 with ⟨k,e1,rfl,rfl⟩ | ⟨e1,rfl,rfl⟩
 ·refine .go (NU g0 (by omega) hlen gO0 gO2 gO (.inl ⟨k,e1,rfl,rfl⟩)) ?_;simp only [simprocAttr,-ZA,↓zU,↓zD,zV,zT,zW,g0,je,hN2,y0,y1,y2,wG,gD,hrl2,gd,xQ,hgd2,hset,hget,z0,z2,z3,z4,z5]
  (repeat refine sd ?_)
  exact .same
 ·refine .go (NU g0 (by omega) hlen gO0 gO2 gO (.inr ⟨e1,rfl,rfl⟩)) ?_;simp only [simprocAttr,-ZA,↓zU,↓zD,zV,zT,zW,g0,je,hN2,y0,y1,y2,y3,y4,y5,y6,gO0,gOn,gOD,wG,gD,hrl2,gd,xQ,xE,hgd2,hset,hget,z0,z1,z2,z3,z4,z5]
  (repeat refine sd ?_)
  exact .same
end
section
open Rs Fm
namespace Fm
structure bY (f : List Nd) (nx : Nat) (xZ : List (Nat × Ob)) (kO kD : Nat) (s : CS) (dl : List Int) : Prop where
 hn:1<=nx
 h0:St.look xZ 0=some (je kO kD s.out dl)
 hO:s.out = []\/(kO<nx/\kO≠0/\kO≠kD/\St.look xZ kO=vA 6 (wP s.out))
 hD:kD≠0/\kD<nx/\St.look xZ kD=some ⟨1,rows .i64 dl⟩
 dn:dl.length=f.length
 rel:∀ i,i<f.length->dl.getD i 0=(wB (i:Int) s.done).getD (-1)
 pos:∀ z k,wB z s.done=some k->0<=k
 fr:∀ k,nx<=k->St.look xZ k=none
theorem bY.key {f:List Nd} {nx:Nat} {xZ:List (Nat × Ob)} {kO kD:Nat} {s:CS} {dl:List Int} (h:bY f nx xZ kO kD s dl):∃ k,St.look xZ 0=some (je k kD s.out dl)/\ k≠0/\k≠kD/\St.look xZ k=vA 6 (wP s.out)/\ ((s.out = []/\k=nx+9)\/(s.out ≠ []/\k=kO/\k<nx)):=by
 rcases h.hO with ho | ⟨h1,h2,h3,h4⟩
 ·refine⟨nx+9,?_,by have:=h.hn; omega,by have:=h.hD; omega,?_,.inl ⟨ho,rfl⟩⟩
  ·rw [h.h0,ho]; rfl
  ·rw [h.fr _ (by omega),ho]; rfl
 ·by_cases ho:s.out = []
  ·refine⟨nx+9,?_,by have:=h.hn; omega,by have:=h.hD; omega,?_,.inl ⟨ho,rfl⟩⟩
   ·rw [h.h0,ho]; rfl
   ·rw [h.fr _ (by omega),ho]; rfl
  ·exact⟨kO,h.h0,h2,h3,h4,.inr ⟨ho,rfl,h1⟩⟩
theorem bY.alloc {f:List Nd} {nx:Nat} {xZ:List (Nat × Ob)} {kO kD:Nat} {s:CS} {dl:List Int} (h:bY f nx xZ kO kD s dl) (o:Ob):bY f (nx+1) ((nx,o) :: xZ) kO kD s dl:=by
 obtain⟨hn,h0,hO,hD,dn,rel,pos,fr⟩:=h;have hl:∀ k,k≠nx->St.look ((nx,o) :: xZ) k=St.look xZ k:=λk a=>by rw [xX,if_neg (λe=>a e.symm)]
 refine⟨by omega,by rw [hl 0 (by omega)]; exact h0,?_,⟨hD.1,by omega,by rw [hl kD (by omega)]; exact hD.2.2⟩,dn,rel,pos,λk hk=>by rw [hl k (by omega)]; exact fr k (by omega)⟩
 rcases hO with ho | ⟨a,b,c,d⟩
 ·exact .inl ho
 ·exact .inr ⟨by omega,b,c,by rw [hl kO (by omega)]; exact d⟩
theorem bY.set {f:List Nd} {nx:Nat} {xZ:List (Nat × Ob)} {kO kD:Nat} {s:CS} {dl:List Int} (h:bY f nx xZ kO kD s dl) {j:Nat} (hj:j≠0/\j≠kD/\(s.out = []\/j≠kO)) (o:Ob):bY f nx (zG xZ j o) kO kD s dl:=by
 obtain⟨hn,h0,hO,hD,dn,rel,pos,fr⟩:=h;have hl:∀ k,k≠j->St.look (zG xZ j o) k=St.look xZ k:=λk a=>by rw [xQ,if_neg (λe=>a e.symm)]
 refine⟨hn,by rw [hl 0 (by omega)]; exact h0,?_,⟨hD.1,hD.2.1,by rw [hl kD (by omega)]; exact hD.2.2⟩,dn,rel,pos,λk hk=>vP (fr k hk)⟩
 rcases hO with ho | ⟨a,b,c,d⟩
 ·exact .inl ho
 ·rcases hj.2.2 with e | e
  ·exact .inl e
  ·exact .inr ⟨a,b,c,by rw [hl kO (λh=>e h.symm)]; exact d⟩
theorem QE {f:List Nd} {nx nx2 i:Nat} {objs2:List (Nat × Ob)} {kO kD:Nat} {s2:CS} {dl2:List Int} {q:Nd} (hI:bY f nx2 objs2 kO kD s2 dl2) (hi:i<f.length) (hnx:1<=nx) (hlt:nx<nx2) (hk:s2.out = []\/kO≠nx) :
  ∃ k2 nx' objs' kO' dl',Kw i nx2 objs2 k2 kD s2.out dl2 q (.int .i64 (jL i q s2).1) ⟨nx',objs'⟩/\ bY f nx' objs' kO' kD (jL i q s2).2 dl'/\nx2<=nx'/\((kO'=kO/\s2.out ≠ [])\/nx2<=kO')/\
   St.look objs2 0=some (je k2 kD s2.out dl2)/\ (k2≠0/\k2≠nx/\k2≠nx2/\k2≠kD/\St.look objs2 k2=vA 6 (wP s2.out))/\
   (∀ k,1<=k->k<nx2->k≠kD->(k≠kO\/s2.out = [])->St.look objs' k=St.look objs2 k):=by
 obtain⟨k2,g0,gz,gD,gO,gk⟩:=hI.key;obtain⟨hn,h0,hO,hD,dn,rel,pos,fr⟩:=hI
 have hk2:k2≠nx/\k2≠nx2:=by
  rcases gk with ⟨ho,e⟩ | ⟨ho,e,e2⟩
  ·omega
  ·rcases hk with h | h
   ·exact absurd h ho
   ·omega
 have hdl:∀ x:Int,(dl2.set i x).length=f.length:=λx=>by rw [List.length_set,dn]
 have hrel:∀ (x:Int) (out:List Nd) (j:Nat),j<f.length->(dl2.set i x).getD j 0=(wB (j:Int) (⟨out,mD i x s2.done⟩:CS).done).getD (-1):=by
  intro x out j hj;simp only;rw [rA]
  by_cases e:j=i
  ·subst e;rw [if_pos rfl];simp [List.getD,dn,hj]
  ·rw [if_neg (by omega),<- rel j hj];simp only [List.getD,List.getElem?_set_ne (Ne.symm e)]
 have hpos:∀ (x:Int) (out:List Nd),0<=x->∀ z k,wB z (⟨out,mD i x s2.done⟩:CS).done=some k->0<=k:=by
  intro x out hx z k h;simp only at h;rw [rA] at h
  split at h
  ·cases h; exact hx
  ·exact pos z k h
 cases hq:rF q s2.out 0 with
 | some k=>
  have e:jL i q s2=((k:Int),(⟨s2.out,mD i k s2.done⟩:CS)):=by simp only [jL,hq]
  rw [e]
  refine⟨k2,nx2+1,_,kO,dl2.set i k,.inl ⟨k,hq,rfl,rfl⟩,?_,by omega,.inl ⟨rfl,λe=>by rw [e] at hq; cases hq⟩,g0,⟨gz,hk2.1,hk2.2,gD,gO⟩,λj a1 a2 a3 a4=>?_⟩
  ·have hl:∀ j,j≠nx2->j≠kD->St.look ((nx2,wG q.op q.i q.e q.g q.x q.y) :: zG objs2 kD ⟨1,rows .i64 (dl2.set i k)⟩) j=St.look objs2 j:=λj a b=>by rw [xX,if_neg (λe=>a e.symm),xQ,if_neg (λe=>b e.symm)]
   refine⟨by omega,?_,?_,⟨hD.1,by omega,?_⟩,hdl _,hrel _ _,hpos _ _ (by omega),λj hj=>?_⟩
   ·rw [hl 0 (by omega) (λe=>hD.1 e.symm),h0]
    obtain⟨d0,dr,hdr⟩:∃ a b,dl2=a :: b:=by
     cases dl2 with
     | nil=>simp at dn; omega
     | cons a b=>exact⟨a,b,rfl⟩
    have:xD kD 1 (rows IntKind.i64 (dl2.set i k))= xD kD 1 (rows IntKind.i64 dl2):=by
     rw [hdr]
     cases i with
     | zero=>simp [xD,rows]
     | succ i=>simp [xD,rows]
    simp only [je,this]
   ·rcases hO with ho | ⟨a,b,c,d⟩
    ·exact .inl ho
    ·exact .inr ⟨by omega,b,c,by rw [hl kO (by omega) c]; exact d⟩
   ·rw [xX,if_neg (by omega),xQ,if_pos rfl,hD.2.2]; rfl
   ·rw [hl j (by omega) (by omega)]; exact fr j (by omega)
  ·rw [xX,if_neg (by omega),xQ,if_neg (by omega)]
 | none=>
  have e:jL i q s2=((s2.out.length:Int),(⟨s2.out ++ [q],mD i s2.out.length s2.done⟩:CS)):=by simp only [jL,hq]
  rw [e]
  refine⟨k2,nx2+1+1,_,nx2+1,dl2.set i (s2.out.length:Int),.inr ⟨hq,rfl,rfl⟩,?_,by omega,.inr (by omega),g0,⟨gz,hk2.1,hk2.2,gD,gO⟩,λj a1 a2 a3 a4=>?_⟩
  ·have hne:vA 6 (wP (s2.out ++ [q]))≠ none:=by obtain⟨e,r,h⟩:=Sd s2.out q;rw [h]; simp [vA]
   have hl:∀ j,j≠nx2+1->j≠nx2->j≠kD->j≠0->j≠k2->St.look (yX (nx2+1) 6 (wP (s2.out ++ [q]))++ (nx2,wG q.op q.i q.e q.g q.x q.y) :: zG (zG (yO objs2 k2) 0 (je (nx2+1) kD (s2.out ++ [q]) dl2)) kD ⟨1,rows .i64 (dl2.set i (s2.out.length:Int))⟩) j=St.look objs2 j:=λj a b c d e=>by rw [wW,if_neg (λe=>a e.symm),xX,if_neg (λe=>b e.symm),xQ,if_neg (λe=>c e.symm),xQ,if_neg (λe=>d e.symm),xE,if_neg (λh=>e h.symm)]
   have hgD:xD kD 1 (rows IntKind.i64 (dl2.set i (s2.out.length:Int)))= xD kD 1 (rows IntKind.i64 dl2):=by
    obtain⟨d0,dr,hdr⟩:∃ a b,dl2=a :: b:=by
     cases dl2 with
     | nil=>simp at dn; omega
     | cons a b=>exact⟨a,b,rfl⟩
    rw [hdr]
    cases i with
    | zero=>simp [xD,rows]
    | succ i=>simp [xD,rows]
   refine⟨by omega,?_,.inr ⟨by omega,by omega,by omega,?_⟩,⟨hD.1,by omega,?_⟩,hdl _,hrel _ _,hpos _ _ (by omega),λj hj=>?_⟩
   ·rw [wW,if_neg (by omega),xX,if_neg (by omega),xQ,if_neg hD.1,xQ,if_pos rfl,xE,if_neg gz,h0];simp only [je,hgD,Ae]
   ·rw [wW,if_pos rfl]
    cases hgg:vA 6 (wP (s2.out ++ [q])) with
    | none=>exact absurd hgg hne
    | some o=>rfl
   ·rw [wW,if_neg (by omega),xX,if_neg (by omega),xQ,if_pos rfl,xQ,if_neg (λe=>hD.1 e.symm),xE,if_neg gD,hD.2.2]; rfl
   ·rw [wW,if_neg (by omega),xX,if_neg (by omega)];refine vP (vP ?_);rw [xE]
    split
    ·rfl
    ·exact fr j (by omega)
  ·have hjk:j≠k2:=by
    rcases gk with ⟨ho,e⟩ | ⟨ho,e,e2⟩
    ·omega
    ·rcases a4 with a4 | a4
     ·rw [e]; exact a4
     ·exact absurd a4 ho
   rw [wW,if_neg (by omega),xX,if_neg (by omega),xQ,if_neg (λe=>a3 e.symm),xQ,if_neg (by omega),xE,if_neg (λe=>hjk e.symm)]
end Fm
end
section
open Rs Fm
theorem PP {f:List Nd} {nx i:Nat} {xZ:List (Nat × Ob)} {kO kD:Nat} {s:CS} {dl:List Int} {k:Int} (hI:bY f nx xZ kO kD s dl) (hi:i<f.length) (hu:wB (i:Int) s.done=some k) :
  xP prog 255 [.sl 6 (wP f),.int .i64 i,.ref 0 2 0 0] ⟨nx,xZ⟩ (.int .i64 k) ⟨nx,xZ⟩:=by
 obtain⟨hn,h0,hO,⟨hD0,hDn,hD⟩,dn,rel,pos,fr⟩:=hI;have hr:=rel i hi;rw [hu,Ad] at hr;have hk:0<=k:=pos _ _ hu;have hrl:(rows IntKind.i64 dl).length=dl.length:=yV _ _
 have hgd:(rows IntKind.i64 dl).getD i [] = [.int .i64 k]:=by rw [<- hr]; simp [rows,List.getD,dn,hi]
 refine xI func255 LA λhf=>?_;simp only [simprocAttr,-ZA,↓zU,↓zD,zV,zT,zW,h0,je,hrl,dn,hD,hgd,hk]
 (repeat refine sd ?_)
 exact .same
theorem ou {f:List Nd} {kD:Nat} (hc:∀ k,k<f.length->zK (f.getD k vW) k=0) (hlen:f.length<=900):∀ (n:Nat) {i nx:Nat} {xZ:List (Nat × Ob)} {kO:Nat} {s:CS} {dl:List Int},i<n->i<f.length->jG f s->bY f nx xZ kO kD s dl ->
  ∃ nx' objs' kO' dl',bY f nx' objs' kO' kD (xC f n i s).2 dl'/\nx<=nx'/\((kO'=kO/\s.out ≠ [])\/nx<=kO'\/(xC f n i s).2.out = [])/\ (∀ k,1<=k->k<nx->k≠kD->(k≠kO\/s.out = [])->St.look objs' k=St.look xZ k)/\
   xP prog 255 [.sl 6 (wP f),.int .i64 i,.ref 0 2 0 0] ⟨nx,xZ⟩ (.int .i64 (xC f n i s).1) ⟨nx',objs'⟩
 | 0,i,nx,xZ,kO,s,dl,h,_,_,_=>by omega
 | n + 1,i,nx,xZ,kO,s,dl,h,hi,hs,hI=>by
  cases hu:wB (i:Int) s.done with
  | some k=>
   rw [xC,hu];refine⟨nx,xZ,kO,dl,hI,χ _,?_,λ_ _ _ _ _=>rfl,PP hI hi hu⟩
   by_cases ho:s.out = []
   ·exact .inr (.inr ho)
   ·exact .inl ⟨rfl,ho⟩
  | none=>
   rw [lH hu];obtain⟨ox,oy⟩:=nH (hc i hi);simp only;generalize hp:f.getD i vW=p at ox oy;have hno:dl.getD i 0 = -1:=by rw [hI.rel i hi,hu]; rfl
   have hn:=hI.hn;have hD:=hI.hD;have hA:=hI.alloc (wG p.op p.i p.e p.g p.x p.y);have hA0:∀ k,k<nx->St.look ((nx,wG p.op p.i p.e p.g p.x p.y) :: xZ) k=St.look xZ k:=λk hk=>by rw [xX,if_neg (by omega)]
   have hAn:St.look ((nx,wG p.op p.i p.e p.g p.x p.y) :: xZ) nx=some (wG p.op p.i p.e p.g p.x p.y):=by rw [xX,if_pos rfl]
   have hkO:s.out = []\/kO<nx:=by rcases hI.hO with ho | ⟨a,_⟩; exact .inl ho; exact .inr a
   have S1:∃ nx1 O1 kO1 dl1,bY f nx1 O1 kO1 kD (if (xY p.op).1.x=true then xC f n p.x.toNat s else(p.x,s)).2 dl1/\jG f (if (xY p.op).1.x=true then xC f n p.x.toNat s else(p.x,s)).2/\nx<nx1 /\
     ((kO1=kO/\s.out ≠ [])\/nx+1<=kO1\/(if (xY p.op).1.x=true then xC f n p.x.toNat s else(p.x,s)).2.out = [])/\ (∀ k,1<=k->k<nx->k≠kD->(k≠kO\/s.out = [])->St.look O1 k=St.look xZ k)/\
     (((xY p.op).1.x=true/\∃ objs1,xP prog 255 [.sl 6 (wP f),.int .i64 p.x,.ref 0 2 0 0] ⟨nx+1,(nx,wG p.op p.i p.e p.g p.x p.y) :: xZ⟩ (.int .i64 (if (xY p.op).1.x=true then xC f n p.x.toNat s else(p.x,s)).1) ⟨nx1,objs1⟩/\ St.look objs1 nx=some (wG p.op p.i p.e p.g p.x p.y)/\ O1=zG objs1 nx (wG p.op p.i p.e p.g (if (xY p.op).1.x=true then xC f n p.x.toNat s else(p.x,s)).1 p.y)) \/
      ((xY p.op).1.x=false/\(if (xY p.op).1.x=true then xC f n p.x.toNat s else(p.x,s)).1=p.x/\nx1=nx+1/\O1=(nx,wG p.op p.i p.e p.g p.x p.y) :: xZ))/\
     St.look O1 nx=some (wG p.op p.i p.e p.g (if (xY p.op).1.x=true then xC f n p.x.toNat s else(p.x,s)).1 p.y):=by
    by_cases hx:(xY p.op).1.x=true
    ·obtain⟨hx1,hx2⟩:=ox hx;have hxn:((p.x.toNat:Nat):Int)= p.x:=Aa hx1;obtain⟨nx1,objs1,kO1,dl1,I1,l1,k1,f1,c1⟩:=ou hc hlen n (i:=p.x.toNat) (by omega) (by omega) hs hA;have g1:=oB hc n (i:=p.x.toNat) (s:=s) (by omega) (by omega) hs;rw [if_pos hx];rw [hxn] at c1
     have hl:St.look objs1 nx=some (wG p.op p.i p.e p.g p.x p.y):=by rw [f1 nx hn (by omega) (by omega) (by rcases hkO with h | h; exact .inr h; exact .inl (by omega))]; exact hAn
     have hkn:(xC f n p.x.toNat s).2.out = []\/nx≠kO1:=by
      rcases k1 with ⟨e,ho⟩ | h | h
      ·rcases hkO with h | h
       ·exact absurd h ho
       ·exact .inr (by omega)
      ·exact .inr (by omega)
      ·exact .inl h
     refine⟨nx1,_,kO1,dl1,I1.set (j:=nx) ⟨by omega,by omega,hkn⟩ _,g1.1,by omega,k1,λk a1 a2 a3 a4=>?_,.inl ⟨hx,objs1,c1,hl,rfl⟩,?_⟩
     ·rw [xQ,if_neg (by omega),f1 k a1 (by omega) a3 a4]; exact hA0 k a2
     ·rw [xQ,if_pos rfl,hl]; rfl
    ·rw [if_neg hx];refine⟨nx+1,_,kO,dl,hA,hs,by omega,?_,λk a1 a2 a3 a4=>hA0 k a2,.inr ⟨by simpa using hx,rfl,rfl,rfl⟩,hAn⟩
     by_cases ho:s.out = []
     ·exact .inr (.inr ho)
     ·exact .inl ⟨rfl,ho⟩
   generalize (if (xY p.op).1.x=true then xC f n p.x.toNat s else(p.x,s))= A at S1;obtain⟨nx1,O1,kO1,dl1,I1,F1,l1,k1,f1,c1,n1⟩:=S1
   have hk1:A.2.out = []\/nx≠kO1:=by
    rcases k1 with ⟨e,ho⟩ | h | h
    ·rcases hkO with h | h
     ·exact absurd h ho
     ·exact .inr (by omega)
    ·exact .inr (by omega)
    ·exact .inl h
   have S2:∃ nx2 O2 kO2 dl2,bY f nx2 O2 kO2 kD (if (xY p.op).1.y=true then xC f n p.y.toNat A.2 else(p.y,A.2)).2 dl2/\jG f (if (xY p.op).1.y=true then xC f n p.y.toNat A.2 else(p.y,A.2)).2/\nx1<=nx2 /\
     ((kO2=kO1/\A.2.out ≠ [])\/nx1<=kO2\/(if (xY p.op).1.y=true then xC f n p.y.toNat A.2 else(p.y,A.2)).2.out = [])/\ (∀ k,1<=k->k<nx->k≠kD->(k≠kO1\/A.2.out = [])->St.look O2 k=St.look O1 k)/\
     (((xY p.op).1.y=true/\∃ objs2,xP prog 255 [.sl 6 (wP f),.int .i64 p.y,.ref 0 2 0 0] ⟨nx1,O1⟩ (.int .i64 (if (xY p.op).1.y=true then xC f n p.y.toNat A.2 else(p.y,A.2)).1) ⟨nx2,objs2⟩/\ St.look objs2 nx=some (wG p.op p.i p.e p.g A.1 p.y)/\ O2=zG objs2 nx (wG p.op p.i p.e p.g A.1 (if (xY p.op).1.y=true then xC f n p.y.toNat A.2 else(p.y,A.2)).1)) \/
      ((xY p.op).1.y=false/\(if (xY p.op).1.y=true then xC f n p.y.toNat A.2 else(p.y,A.2)).1=p.y/\nx2=nx1/\O2=O1))/\
     St.look O2 nx=some (wG p.op p.i p.e p.g A.1 (if (xY p.op).1.y=true then xC f n p.y.toNat A.2 else(p.y,A.2)).1):=by
    by_cases hy:(xY p.op).1.y=true
    ·obtain⟨hy1,hy2⟩:=oy hy;have hyn:((p.y.toNat:Nat):Int)= p.y:=Aa hy1;obtain⟨nx2,objs2,kO2,dl2,I2,l2,k2,f2,c2⟩:=ou hc hlen n (i:=p.y.toNat) (by omega) (by omega) F1 I1;have g2:=oB hc n (i:=p.y.toNat) (s:=A.2) (by omega) (by omega) F1;rw [if_pos hy];rw [hyn] at c2
     have hl:St.look objs2 nx=some (wG p.op p.i p.e p.g A.1 p.y):=by rw [f2 nx hn (by omega) (by omega) (by rcases hk1 with h | h; exact .inr h; exact .inl h)]; exact n1
     have hkn:(xC f n p.y.toNat A.2).2.out = []\/nx≠kO2:=by
      rcases k2 with ⟨e,ho⟩ | h | h
      ·rcases hk1 with h | h
       ·exact absurd h ho
       ·exact .inr (by omega)
      ·exact .inr (by omega)
      ·exact .inl h
     refine⟨nx2,_,kO2,dl2,I2.set (j:=nx) ⟨by omega,by omega,hkn⟩ _,g2.1,by omega,k2,λk a1 a2 a3 a4=>?_,.inl ⟨hy,objs2,c2,hl,rfl⟩,?_⟩
     ·rw [xQ,if_neg (by omega),f2 k a1 (by omega) a3 a4]
     ·rw [xQ,if_pos rfl,hl]; rfl
    ·rw [if_neg hy];refine⟨nx1,_,kO1,dl1,I1,F1,by omega,?_,λk a1 a2 a3 a4=>rfl,.inr ⟨by simpa using hy,rfl,rfl,rfl⟩,n1⟩
     by_cases ho:A.2.out = []
     ·exact .inr (.inr ho)
     ·exact .inl ⟨rfl,ho⟩
   generalize (if (xY p.op).1.y=true then xC f n p.y.toNat A.2 else(p.y,A.2))= B at S2;obtain⟨nx2,O2,kO2,dl2,I2,F2,l2,k2,f2,c2,n2⟩:=S2
   have hk2:B.2.out = []\/kO2≠nx:=by
    rcases k2 with ⟨e,ho⟩ | h | h
    ·rcases hk1 with h | h
     ·exact absurd h ho
     ·exact .inr (by omega)
    ·exact .inr (by omega)
    ·exact .inl h
   obtain⟨kk,nx',objs',kO',dl',e1,e2,e3,e4,e5,e6,e7⟩:=QE (q:=⟨p.op,p.i,p.e,p.g,A.1,B.1⟩) (i:=i) (nx:=nx) I2 hi hn (by omega) hk2
   refine⟨nx',objs',kO',dl',e2,by omega,?_,λk a1 a2 a3 a4=>?_,Ms hI.h0 hn hD hI.dn hi hp hno c1 n1 c2 n2 e5 I2.hD.2.2 I2.dn e6 (by have:=F2.len; omega) (by omega) e1⟩
   ·rcases e4 with ⟨a,b⟩ | h
    ·rcases k2 with ⟨c,d⟩ | h | h
     ·rcases k1 with ⟨c',d'⟩ | h | h
      ·exact .inl ⟨by omega,d'⟩
      ·exact .inr (.inl (by omega))
      ·exact absurd h d
     ·exact .inr (.inl (by omega))
     ·exact absurd h b
    ·exact .inr (.inl (by omega))
   ·have ka:k≠kO1\/A.2.out = []:=by
     rcases k1 with ⟨c',d'⟩ | h | h
     ·rcases a4 with a4 | a4
      ·exact .inl (by omega)
      ·exact absurd a4 d'
     ·exact .inl (by omega)
     ·exact .inr h
    have kb:k≠kO2\/B.2.out = []:=by
     rcases k2 with ⟨c',d'⟩ | h | h
     ·rcases ka with a4 | a4
      ·exact .inl (by omega)
      ·exact absurd a4 d'
     ·exact .inl (by omega)
     ·exact .inr h
    rw [e7 k a1 (by omega) a3 kb,f2 k a1 a2 a3 ka,f1 k a1 a2 a3 a4]
open Rs Fm
theorem XV (f:List Nd) (i:Int):xA prog 223 [.sl 6 (wP f),.int .i64 i] (.sl 6 (wP (sE f i))):=by
 refine xI func223 JT λhf=>?_;refine xJ ?_;refine .go (cr (rq f)) ?_;by_cases hc:yW f=0
 case neg=> have e:(yW f != 0)= true:=bne_iff_ne.2 hc;refine xG e ?_;rw [show sE f i = [] from if_pos (.inl hc)];exact .drop (by simp) (by simp [vw,wP])
 have e:(yW f != 0)= false:=by simpa using hc
 by_cases h1:i<0
 ·refine yM e h1 ?_;rw [show sE f i = [] from if_pos (.inr (.inl h1))];exact .drop (by simp) (by simp [vw,wP])
 by_cases h2:(f.length:Int)<=i
 ·refine cI e h1 xM h2 ?_;rw [show sE f i = [] from if_pos (.inr (.inr h2))];exact .drop (by simp) (by simp [vw,wP])
 obtain⟨j,rfl⟩:=Ab (show 0<=i by omega);obtain⟨c1,c2,c3⟩:=zF hc;rw [show sE f j=tH f j by rw [sE,if_neg (by omega),Ac]];refine cI e h1 xM h2 ?_
 refine xU (λk:Nat=>[(6,.int .i64 k),(5,.ref 0 2 0 0),(1,.int .i64 j),(0,.sl 6 (wP f))]) (λk=>⟨2,yX 1 1 (rows .i64 (List.replicate k (-1)))++ [(0,⟨2,[[.xL,xD 1 1 (rows .i64 (List.replicate k (-1)))]]⟩)]⟩) (λk=>k<=f.length) (λk=>f.length-k) 0 (υ _) ?_ ?_
 ·(refine sS [] [0] ?_; simp only [wY,zQ,simprocAttr,-ZA,exists_eq_left',ne_eq,zR,List.replicate_zero,lQ,yA,yB,List.nil_append])
 intro k hk;refine xN mixed ?_
 by_cases h:k<f.length
 ·have hd:((k:Int)<(f.length:Int)):=by omega
  have hw:IntKind.i64.wrap ((k:Int)+ 1)= ((k+1:Nat):Int):=wrap_i64 (by omega);have hrl:(rows IntKind.i64 (List.replicate k (-1))).length=k:=by simp [rows]
  have hsn:rows IntKind.i64 (List.replicate (k+1) (-1))= rows .i64 (List.replicate k (-1))++ [[.int .i64 (-1)]]:=by rw [List.replicate_succ']; simp [rows]
  refine sT hd xM hrl ?_;refine⟨k+1,by omega,?_,by omega⟩;rw [hsn];exact yf [(1,2)] [1,0] hw
 have hd:¬ ((k:Int)<(f.length:Int)):=by omega
 obtain rfl:k=f.length:=by omega
 refine yM hd xM ?_;have hne:0<f.length:=by cases f with | nil=>exact absurd rfl c1 | cons a b=>simp
 have hI0:bY f 2 (yX 1 1 (rows .i64 (List.replicate f.length (-1)))++ [(0,⟨2,[[.xL,xD 1 1 (rows .i64 (List.replicate f.length (-1)))]]⟩)]) 11 1 ⟨[],[]⟩ (List.replicate f.length (-1)):=by
  have hcons:∃ a b,rows IntKind.i64 (List.replicate f.length (-1))= a :: b:=by
   cases hl:f.length with
   | zero=>omega
   | succ m=>exact⟨_,_,rfl⟩
  refine⟨by omega,by rw [wW,if_neg (by omega)]; rfl,.inl rfl,⟨by omega,by omega,?_⟩,by simp,λi hi=>?_,λz k h=>(by cases h),λk hk=>?_⟩
  ·obtain⟨a,b,hab⟩:=hcons;rw [hab]; rfl
  ·simp [List.getD,hi,wB]
  ·rw [wW,if_neg (by omega),xX,if_neg (by omega)]; rfl
 obtain⟨nx',objs',kO',dl',I1,_,_,_,cc⟩:=ou c3 (by omega) (j+1) (i:=j) (by omega) (show j<f.length by omega) ⟨χ _,by simp,λp hp=>by cases hp⟩ hI0;have ee:(xC f (j+1) j ⟨[],[]⟩).2.out=tH f j:=rfl;have g0:=I1.h0;have gO:=I1.hO;rw [ee] at g0 gO;refine .go cc ?_;simp only [simprocAttr,-ZA,↓zU,↓zD,zV,zT,zW,g0,je]
 (repeat refine sd ?_)
 rcases gO with hO | ⟨a1,a2,a3,a4⟩
 ·rw [hO];exact .drop (by simp) (by simp [vw,wP,xD])
 ·exact .drop (by simp) (aU (by simp) (xc _) a4)
theorem oP (f:List Nd):xA prog 179 [.sl 6 (wP f)] (.sl 6 (wP (xB f))):=by refine xI func179 Iy λhf=>?_;simp only [D.rX,D.fact,xM] at hf;have hlen:=hf.1.1;have e:IntKind.i64.wrap ((f.length:Int)-1)= (f.length:Int)-1:=wrap_i64 (by omega);refine yM xM e ?_;refine .go (cr (XV f _)) ?_;refine xJ ?_;exact .same
theorem Ww (f:List Nd):xA prog 182 [.sl 6 (wP f)] (.int .i64 (jR f)):=by
 have hlen:=mP f ((f.length:Int)-1);rw [show sE f ((f.length:Int)-1)= xB f from rfl] at hlen;have hnd:=bG f
 have hall:∀ p ∈ xB f,qL p<4096:=λp hp=>by obtain⟨k,hk⟩:=jT hnd hp;exact Yg hk
 refine xI func182 J1 λhf=>?_;refine xJ ?_;refine .go (cr (oP f)) ?_;refine xJ ?_;unfold jR;generalize xB f=c at hlen hnd hall
 refine xU (λk:Nat=>[(5,.int .i64 k),(4,.int .i64 (wU qL (c.take k))),(3,.sl 6 (wP c))]) (λ_=>⟨0,[]⟩) (λk=>k<=c.length) (λk=>c.length-k) 0 (υ _) ?_ ?_
 ·(refine yR.same ?_; simp [yS,Fr.get,wU])
 intro k hk;refine xN mixed ?_
 by_cases h:k<c.length
 ·have hd:((k:Int)<(c.length:Int)):=by omega
  have hw:IntKind.i64.wrap ((k:Int)+ 1)= ((k+1:Nat):Int):=wrap_i64 (by omega);have hg:=sG c h;have hq:=hnd k h;have hlt:wU qL (c.take k)<2 ^ 12:=mH λp hp=>hall p (τ hp);have hs:wU qL (c.take (k+1))= wU qL (c.take k) ||| qL (c.getD k vW):=by rw [yC (d:=vW) h,kT]
  generalize c.getD k vW=p at hg hq hs;have hu:=Vt p.op
  by_cases h3:p.op=3
  ·have e3:(p.op==3)= true:=by simpa using h3
   rw [e3] at hu;obtain⟨i0,i7⟩:=mN hq hu.symm;obtain⟨m,hm⟩:=Ab i0;have hm7:m<=7:=by omega
   have hp2:(2:Nat)^ m<2 ^ 62:=Nat.pow_lt_pow_right (by omega) (by omega);have hor:=ja (a:=wU qL (c.take k)) (b:=2 ^ m) (by omega) hp2;have hfn:qL p=2 ^ m:=by rw [qL,if_pos hu.symm,hm,Ac]
   simp only [simprocAttr,-ZA,↓zU,↓zD,zV,zT,zW,hd,xM,hg,Nd.row,e3,hm,TD (show m<=61 by omega),hor]
   (repeat refine sd ?_)
   refine⟨k+1,by omega,?_,by omega⟩;rw [hs,hfn]
   (refine yR.same ?_; simp only [yS,Fr.get,simprocAttr,-ZA,zS])
   exact hw
  ·have e3:(p.op==3)= false:=by simpa using h3
   rw [e3] at hu;have hfn:qL p=0:=by rw [qL,if_neg (by rw [<- hu]; simp)]
   simp only [simprocAttr,-ZA,↓zU,↓zD,zV,zT,zW,hd,xM,hg,Nd.row,e3]
   (repeat refine sd ?_)
   refine⟨k+1,by omega,?_,by omega⟩;rw [hs,hfn,Nat.or_zero]
   (refine yR.same ?_; simp only [yS,Fr.get,simprocAttr,-ZA,zS])
   exact hw
 have hd:¬ ((k:Int)<(c.length:Int)):=by omega
 obtain rfl:k=c.length:=by omega
 refine yM hd xM ?_;exact .same
end
end Go.Pd
