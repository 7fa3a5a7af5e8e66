/- Part P8. -/
import Derived.Test.YtndfaefmmcoapaaGreatUdF18
set_option linter.unusedSectionVars false
set_option linter.unusedVariables false
set_option linter.unusedSimpArgs false
set_option linter.defProp false
set_option maxRecDepth 20000
set_option maxHeartbeats 1000000
namespace Go.Pd
open Go Go.Proofs
open Rs Fm
namespace Fm
structure bYs (f : List Nd) (s : CS) : Prop where
 v:yA s.out
 n:s.out.Nodup
 d:∀ z k,vS z s.done=some k->∃ i j:Nat,z=i/\k=j/\i<f.length/\j<s.out.length/\tree s.out j=tree f i
theorem eE {f:List Nd} (hv:yA f):∀ (n:Nat) {i:Nat} {s:CS},i<n->i<f.length->bYs f s ->
  (xJ f n i s).1=(qR (tree f i) s.out).1/\(xJ f n i s).2.out=(qR (tree f i) s.out).2/\bYs f (xJ f n i s).2
 | 0,_,_,h,_,_=>by omega
 | n + 1,i,s,h,hi,hI=>by
  cases hu:vS (i:Int) s.done with
  | some k=>
   rw [xJ,hu];obtain⟨i',j,e1,e2,_,e4,e5⟩:=hI.d _ _ hu;obtain rfl:i=i':=by omega
   rw [eF _ _ j hI.v hI.n e4 e5];exact⟨e2,rfl,hI⟩
  | none=>
   rw [nP hu];obtain⟨ox,oy,zx,zy⟩:=vY (hv i hi);have hsp:=kU _ s.out (aMn hv i hi) hI.v hI.n;rw [wN hv hi] at hsp ⊢;simp only;generalize hp:f.getD i nd0=p at hsp ox oy zx zy ⊢
   have S1:(if (xW p.op).1.x=true then xJ f n p.x.toNat s else(p.x,s)).1=(if (xW p.op).1.x=true then qR (tree f p.x.toNat) s.out else(0,s.out)).1 /\
     (if (xW p.op).1.x=true then xJ f n p.x.toNat s else(p.x,s)).2.out=(if (xW p.op).1.x=true then qR (tree f p.x.toNat) s.out else(0,s.out)).2/\bYs f (if (xW p.op).1.x=true then xJ f n p.x.toNat s else(p.x,s)).2:=by
    by_cases hx:(xW p.op).1.x=true
    ·rw [if_pos hx,if_pos hx];exact eE hv n (by have:=ox hx; omega) (by have:=ox hx; omega) hI
    ·rw [if_neg hx,if_neg hx];exact⟨zx (by simpa using hx),rfl,hI⟩
   have e1:(if (xW p.op).1.x=true then qR (if (xW p.op).1.x=true then tree f p.x.toNat else .nil) s.out else(0,s.out))= (if (xW p.op).1.x=true then qR (tree f p.x.toNat) s.out else(0,s.out)):=by
    by_cases hx:(xW p.op).1.x=true
    ·rw [if_pos hx,if_pos hx,if_pos hx]
    ·rw [if_neg hx,if_neg hx]
   have hfin:qR (.nd p.op p.i p.e p.g (if (xW p.op).1.x=true then tree f p.x.toNat else .nil) (if (xW p.op).1.y=true then tree f p.y.toNat else .nil)) s.out =
     (let a:=(if (xW p.op).1.x=true then qR (tree f p.x.toNat) s.out else(0,s.out))
      let b:=if (xW p.op).1.y=true then qR (tree f p.y.toNat) a.2 else(0,a.2)
      match iW ⟨p.op,p.i,p.e,p.g,a.1,b.1⟩ b.2 0 with
      | some k=>((k:Int),b.2)
      | none=>((b.2.length:Int),b.2 ++ [⟨p.op,p.i,p.e,p.g,a.1,b.1⟩])):=by
    conv=>lhs; unfold qR
    simp only [e1]
    by_cases hy:(xW p.op).1.y=true
    ·simp only [if_pos hy];all_goals rfl
    ·simp only [if_neg hy];all_goals rfl
   rw [hfin] at hsp ⊢;simp only at hsp ⊢;generalize (if (xW p.op).1.x=true then xJ f n p.x.toNat s else(p.x,s))= A at S1 ⊢;generalize (if (xW p.op).1.x=true then qR (tree f p.x.toNat) s.out else(0,s.out))= A' at S1 hsp ⊢;obtain⟨a1,a2⟩:=A';obtain⟨A1,A2⟩:=A;obtain⟨rfl,rfl,IA⟩:=S1;simp only at hsp ⊢
   have S2:(if (xW p.op).1.y=true then xJ f n p.y.toNat A2 else(p.y,A2)).1=(if (xW p.op).1.y=true then qR (tree f p.y.toNat) A2.out else(0,A2.out)).1 /\
     (if (xW p.op).1.y=true then xJ f n p.y.toNat A2 else(p.y,A2)).2.out=(if (xW p.op).1.y=true then qR (tree f p.y.toNat) A2.out else(0,A2.out)).2/\bYs f (if (xW p.op).1.y=true then xJ f n p.y.toNat A2 else(p.y,A2)).2:=by
    by_cases hy:(xW p.op).1.y=true
    ·rw [if_pos hy,if_pos hy];exact eE hv n (by have:=oy hy; omega) (by have:=oy hy; omega) IA
    ·rw [if_neg hy,if_neg hy];exact⟨zy (by simpa using hy),rfl,IA⟩
   generalize (if (xW p.op).1.y=true then xJ f n p.y.toNat A2 else(p.y,A2))= B at S2 ⊢;generalize (if (xW p.op).1.y=true then qR (tree f p.y.toNat) A2.out else(0,A2.out))= B' at S2 hsp ⊢;obtain⟨b1,b2⟩:=B';obtain⟨B1,B2⟩:=B;obtain⟨rfl,rfl,IB⟩:=S2;replace IB:bYs f B2:=IB;simp only at hsp ⊢
   have hset:∀ (out':List Nd) (k:Nat),(∃ l,out'=B2.out++l)->yA out'->out'.Nodup->k<out'.length->tree out' k=tree f i->bYs f ⟨out',aG i k B2.done⟩:=by
    rintro out' k ⟨l,rfl⟩ hv' hn' hk' ht';refine⟨hv',hn',fun z k' hz=>?_⟩;simp only at hz ⊢;rw [sX] at hz
    split at hz
    ·cases hz;exact⟨i,k,by assumption,rfl,hi,hk',ht'⟩
    ·obtain⟨i',j,q1,q2,q3,q4,q5⟩:=IB.d _ _ hz;exact⟨i',j,q1,q2,q3,by simp; omega,by rw [vC hv' _ q4]; exact q5⟩
   have htf:tree f i = .nd p.op p.i p.e p.g (if (xW p.op).1.x=true then tree f p.x.toNat else .nil) (if (xW p.op).1.y=true then tree f p.y.toNat else .nil):=by rw [wN hv hi,hp]
   unfold aSh
   cases hq:iW ⟨p.op,p.i,p.e,p.g,A1,B1⟩ B2.out 0 with
   | some k=>
    rw [hq] at hsp;obtain⟨s1,s2,_,k',s3,s4,s5,_⟩:=hsp;simp only at s1 s2 s3 s4 s5 ⊢;obtain rfl:k=k':=by omega
    exact⟨trivial,trivial,hset _ k ⟨[],by simp⟩ s1 s2 s4 (by rw [s5,htf])⟩
   | none=>
    rw [hq] at hsp;obtain⟨s1,s2,_,k',s3,s4,s5,_⟩:=hsp;simp only at s1 s2 s3 s4 s5 ⊢;obtain rfl:B2.out.length=k':=by omega
    exact⟨trivial,trivial,hset _ _ ⟨_,rfl⟩ s1 s2 s4 (by rw [s5,htf])⟩
theorem vW {f:List Nd} (hv:yA f) {i:Nat} (hi:i<f.length):vB f i=canon (tree f i):=(eE hv (i+1) (s:=⟨[],[]⟩) (by omega) hi ⟨fun k h=>by simp at h,.nil,fun z k h=>by cases h⟩).2.1
theorem qZ {t:Tr} (h:wfT t):yA (canon t)/\ (canon t).Nodup/\0<(canon t).length/\tree (canon t) ((canon t).length-1)= t:=by
 obtain⟨v,n,_,k,e1,e2,e3,e4⟩:=kU t [] h (fun k h=>by simp at h) .nil;refine⟨v,n,by unfold canon; omega,?_⟩
 have:k=(canon t).length-1:=by
  rcases e4 with e4 | e4
  ·rw [e4] at e2; simp at e2
  ·unfold canon; omega
 rw [<- this]; exact e3
theorem cU {f:List Nd} (h:xB f=0):xH f=canon (tree f (f.length-1)):=by
 obtain⟨h1,h2,h3⟩:=wQ h;have hl:0<f.length:=by cases f with | nil=>exact absurd rfl h1 | cons a b=>simp
 unfold xH aVy;rw [if_neg (by omega),show ((f.length:Int)-1).toNat=f.length-1 by omega];exact vW h3 (by omega)
theorem aLj : ∀ {f:List Nd} {i:Int},(∀ k,k<f.length->yE (f.getD k nd0) (i+k)= 0)->aNl f i=0
 | [],_,_=>rfl
 | p :: r,i,h=>by have h0:=h 0 (by simp);simp only [List.getD_cons_zero] at h0;unfold aNl;rw [show (((0:Nat):Int))= 0 from rfl,Int.add_zero] at h0;rw [if_neg (by simpa using h0)];refine aLj fun k hk=>?_;have:=h (k+1) (by simpa using hk);rw [List.getD_cons_succ] at this;rw [show i+1+(k:Int)= i+((k+1:Nat):Int) by omega]; exact this
theorem aJ9 {f:List Nd} (h1:0<f.length) (h2:f.length<=200) (h3:yA f):xB f=0:=by unfold xB;rw [if_neg (by intro e; rw [e] at h1; simp at h1),if_neg (by omega)];exact aLj fun k hk=>by rw [Int.zero_add]; exact h3 k hk
end Fm
section
open Rs Fm
namespace Fm
end Fm
end
section
open Rs Fm
namespace Fm
def uQ (f:List Nd):Tr:=tree f (f.length-1)
theorem aS1 {f:List Nd} (h:xB f=0):wfT (uQ f):=by
 obtain⟨h1,h2,h3⟩:=wQ h;have hl:0<f.length:=by cases f with | nil=>exact absurd rfl h1 | cons a b=>simp
 exact aMn h3 _ (by omega)
theorem uT {f:List Nd} (h:xB f=0):tree (xH f) ((xH f).length-1)= uQ f/\(xH f).Nodup:=by rw [cU h];obtain⟨_,b,_,d⟩:=qZ (aS1 h);exact⟨d,b⟩
theorem aTo (p:Nd):wP 0 p=p:=by obtain⟨op,i,e,g,x,y⟩:=p;simp [wP]
theorem aY (c:List Nd):c.map (wP 0)= c:=by rw [show wP 0=id from funext aTo,List.map_id]
theorem aIk {x:Nd} {f:List Nd} (hc:xB f=0) (hx:(xW x.op).1.x=true) (hy:(xW x.op).1.y=false) (hw:yE ⟨x.op,x.i,x.e,x.g,0,0⟩ 1=0) (hx0:x.y=0) :
  tO x [f]=if 200<(canon (.nd x.op x.i x.e x.g (uQ f) .nil)).length then [] else canon (.nd x.op x.i x.e x.g (uQ f) .nil):=by
 have hv:=iS f;have hn:=uC hc;have ht:=(uT hc).1;generalize hcd:xH f=c at hv hn ht
 have hq:yE ⟨x.op,x.i,x.e,x.g,(c.length:Int)-1,x.y⟩ c.length=0:=by
  refine tM (p:=⟨x.op,x.i,x.e,x.g,0,0⟩) hw ?_ ?_
  ·simp only [hx,↓reduceIte]; omega
  ·simp only [hy,Bool.false_eq_true,↓reduceIte]; exact hx0
 have hva:yA (c ++ [⟨x.op,x.i,x.e,x.g,(c.length:Int)-1,x.y⟩]):=uB hv hq
 have hb:rF 0 [f] [] x=some (c,⟨x.op,x.i,x.e,x.g,(c.length:Int)-1,x.y⟩):=by unfold rF;rw [if_neg (by simpa using hc),hcd];simp only [List.nil_append,List.length_nil,aY];unfold rF aNo;rw [if_pos rfl]
 have htr:tree (c ++ [⟨x.op,x.i,x.e,x.g,(c.length:Int)-1,x.y⟩]) c.length = .nd x.op x.i x.e x.g (uQ f) .nil:=by
  rw [wN hva (by simp)];have hgl:(c ++ [(⟨x.op,x.i,x.e,x.g,(c.length:Int)-1,x.y⟩:Nd)]).getD c.length nd0=⟨x.op,x.i,x.e,x.g,(c.length:Int)-1,x.y⟩:=by simp [List.getD]
  rw [hgl];simp only [hx,hy,Bool.false_eq_true,↓reduceIte];rw [vC hva _ (by omega),show ((c.length:Int)-1).toNat=c.length-1 by omega,ht]
 unfold tO;rw [hb];simp only;rw [if_neg (by simpa using hq),vW hva (by simp),htr]
theorem bQ {l c:List Nd} (hl:yA l) (hc:yA c):∀ k,k<c.length->tree (l++c.map (wP l.length)) (l.length+k)= tree c k:=by
 have hv:=nY hl hc;intro k
 induction k using Nat.strongRecOn with
 | _ k ih=>
  intro hk;obtain⟨ox,oy,_,_⟩:=vY (hc k hk)
  have hg:(l++c.map (wP l.length)).getD (l.length+k) nd0=wP l.length (c.getD k nd0):=by simp [List.getD,hk]
  rw [wN hv (by simp; omega),wN hc hk,hg];generalize c.getD k nd0=p at ox oy;unfold wP;simp only
  congr 1
  ·by_cases hx:(xW p.op).1.x=true
   ·have:=ox hx;rw [if_pos hx,if_pos hx,if_pos hx,show (p.x+(l.length:Int)).toNat=l.length+p.x.toNat by omega];exact ih _ (by omega) (by omega)
   ·rw [if_neg hx,if_neg hx]
  ·by_cases hy:(xW p.op).1.y=true
   ·have:=oy hy;rw [if_pos hy,if_pos hy,if_pos hy,show (p.y+(l.length:Int)).toNat=l.length+p.y.toNat by omega];exact ih _ (by omega) (by omega)
   ·rw [if_neg hy,if_neg hy]
theorem aIj {x:Nd} {f g:List Nd} (hf:xB f=0) (hg:xB g=0) (hx:(xW x.op).1.x=true) (hy:(xW x.op).1.y=true) (hw:yE ⟨x.op,x.i,x.e,x.g,0,0⟩ 1=0) :
  tO x [f,g]=if 200<(canon (.nd x.op x.i x.e x.g (uQ f) (uQ g))).length then [] else canon (.nd x.op x.i x.e x.g (uQ f) (uQ g)):=by
 have hv:=iS f;have hn:=uC hf;have ht:=(uT hf).1;have hv2:=iS g;have hn2:=uC hg;have ht2:=(uT hg).1;generalize hcd:xH f=c at hv hn ht;generalize hce:xH g=d at hv2 hn2 ht2;have hva:=nY hv hv2;have hsh:=bQ hv hv2 (d.length-1) (by omega);have hlen:(c++d.map (wP c.length)).length=c.length+d.length:=by simp
 have hb:rF 0 [f,g] [] x=some (c++d.map (wP c.length),⟨x.op,x.i,x.e,x.g,(c.length:Int)-1,((c.length+d.length:Nat):Int)-1⟩):=by unfold rF;rw [if_neg (by simpa using hf),hcd];simp only [List.nil_append,List.length_nil,aY];unfold rF;rw [if_neg (by simpa using hg),hce];unfold rF aNo;rw [if_pos rfl,if_neg (by omega),hlen]
 have htl:tree (c++d.map (wP c.length)) (c.length-1)= uQ f:=by rw [vC hva _ (by omega),ht]
 generalize hcd2:c++d.map (wP c.length)= cc at hva hsh hlen hb htl
 have hq:yE ⟨x.op,x.i,x.e,x.g,(c.length:Int)-1,((c.length+d.length:Nat):Int)-1⟩ cc.length=0:=by
  refine tM (p:=⟨x.op,x.i,x.e,x.g,0,0⟩) hw ?_ ?_
  ·simp only [hx,↓reduceIte]; omega
  ·simp only [hy,↓reduceIte]; omega
 have hvs:yA (cc ++ [⟨x.op,x.i,x.e,x.g,(c.length:Int)-1,((c.length+d.length:Nat):Int)-1⟩]):=uB hva hq
 have htr:tree (cc ++ [⟨x.op,x.i,x.e,x.g,(c.length:Int)-1,((c.length+d.length:Nat):Int)-1⟩]) cc.length = .nd x.op x.i x.e x.g (uQ f) (uQ g):=by
  rw [wN hvs (by simp)];have hgl:(cc ++ [(⟨x.op,x.i,x.e,x.g,(c.length:Int)-1,((c.length+d.length:Nat):Int)-1⟩:Nd)]).getD cc.length nd0=⟨x.op,x.i,x.e,x.g,(c.length:Int)-1,((c.length+d.length:Nat):Int)-1⟩:=by simp [List.getD]
  rw [hgl];simp only [hx,hy,↓reduceIte];rw [vC hvs _ (by omega),vC hvs _ (by omega),show ((c.length:Int)-1).toNat=c.length-1 by omega,show (((c.length+d.length:Nat):Int)-1).toNat=c.length+(d.length-1) by omega,htl,hsh,ht2]
 unfold tO;rw [hb];simp only;rw [if_neg (by simpa using hq),vW hvs (by simp),htr]
theorem aE2 {f:List Nd} (h:xB f=0):(canon (uQ f)).length<=f.length:=by
 obtain⟨h1,h2,h3⟩:=wQ h;have hl:0<f.length:=by cases f with | nil=>exact absurd rfl h1 | cons a b=>simp
 have:=nQ h3 (i:=f.length-1) (by omega)
 rwa [vW h3 (by omega)] at this
end Fm
end
section
open Rs Fm
namespace Fm
end Fm
end
section
open Rs Fm
namespace Fm
def bYo (a b:List Nd):List Nd:=a++b.map (wP a.length)
theorem aE4 (a b:List Nd):(bYo a b).length=a.length+b.length:=by simp [bYo]
end Fm
end
section
open Rs Fm
namespace Fm
end Fm
end
open Rs Fm
namespace Fm
end Fm
open Rs Fm
end Go.Pd
