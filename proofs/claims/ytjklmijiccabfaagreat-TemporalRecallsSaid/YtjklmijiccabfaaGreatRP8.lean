/- Part P8. -/
import Derived.Test.YtjklmijiccabfaaGreatRP7
import Derived.Test.YtjklmijiccabfaaGreatRF18
set_option linter.unusedSectionVars false
set_option linter.unusedVariables false
set_option linter.unusedSimpArgs false
set_option linter.defProp false
set_option maxRecDepth 20000
set_option maxHeartbeats 1000000
namespace Go.Pd
open Go Go.Proofs
open Rs Fm
namespace Fm
structure InvT (f : List Nd) (s : CS) : Prop where
 v:validL s.out
 n:s.out.Nodup
 d:∀ z k,ulook z s.done=some k->∃ i j:Nat,z=i/\k=j/\i<f.length/\j<s.out.length/\tree s.out j=tree f i
theorem finS_tree {f:List Nd} (hv:validL f):∀ (n:Nat) {i:Nat} {s:CS},i<n->i<f.length->InvT f s ->
  (finishS f n i s).1=(finT (tree f i) s.out).1/\(finishS f n i s).2.out=(finT (tree f i) s.out).2/\InvT f (finishS f n i s).2
 | 0,_,_,h,_,_=>by omega
 | n + 1,i,s,h,hi,hI=>by
  cases hu:ulook (i:Int) s.done with
  | some k=>
   rw [finishS,hu]
   obtain⟨i',j,e1,e2,_,e4,e5⟩:=hI.d _ _ hu
   obtain rfl:i=i':=by omega
   rw [finT_have _ _ j hI.v hI.n e4 e5]
   exact⟨e2,rfl,hI⟩
  | none=>
   rw [finishS_eq hu]
   obtain⟨ox,oy,zx,zy⟩:=node_ops' (hv i hi)
   have hsp:=finT_spec _ s.out (tree_wf hv i hi) hI.v hI.n
   rw [tree_eq hv hi] at hsp ⊢
   simp only
   generalize hp:f.getD i nd0=p at hsp ox oy zx zy ⊢
   have S1:(if (usesA p.op).1.x=true then finishS f n p.x.toNat s else(p.x,s)).1=(if (usesA p.op).1.x=true then finT (tree f p.x.toNat) s.out else(0,s.out)).1 /\
     (if (usesA p.op).1.x=true then finishS f n p.x.toNat s else(p.x,s)).2.out=(if (usesA p.op).1.x=true then finT (tree f p.x.toNat) s.out else(0,s.out)).2/\InvT f (if (usesA p.op).1.x=true then finishS f n p.x.toNat s else(p.x,s)).2:=by
    by_cases hx:(usesA p.op).1.x=true
    ·rw [if_pos hx,if_pos hx]
     exact finS_tree hv n (by have:=ox hx; omega) (by have:=ox hx; omega) hI
    ·rw [if_neg hx,if_neg hx]
     exact⟨zx (by simpa using hx),rfl,hI⟩
   have e1:(if (usesA p.op).1.x=true then finT (if (usesA p.op).1.x=true then tree f p.x.toNat else .nil) s.out else(0,s.out))= (if (usesA p.op).1.x=true then finT (tree f p.x.toNat) s.out else(0,s.out)):=by
    by_cases hx:(usesA p.op).1.x=true
    ·rw [if_pos hx,if_pos hx,if_pos hx]
    ·rw [if_neg hx,if_neg hx]
   have hfin:finT (.nd p.op p.i p.e p.g (if (usesA p.op).1.x=true then tree f p.x.toNat else .nil) (if (usesA p.op).1.y=true then tree f p.y.toNat else .nil)) s.out =
     (let a:=(if (usesA p.op).1.x=true then finT (tree f p.x.toNat) s.out else(0,s.out))
      let b:=if (usesA p.op).1.y=true then finT (tree f p.y.toNat) a.2 else(0,a.2)
      match idxN ⟨p.op,p.i,p.e,p.g,a.1,b.1⟩ b.2 0 with
      | some k=>((k:Int),b.2)
      | none=>((b.2.length:Int),b.2 ++ [⟨p.op,p.i,p.e,p.g,a.1,b.1⟩])):=by
    conv=>lhs; unfold finT
    simp only [e1]
    by_cases hy:(usesA p.op).1.y=true
    ·simp only [if_pos hy]
     rfl
    ·simp only [if_neg hy]
     rfl
   rw [hfin] at hsp ⊢
   simp only at hsp ⊢
   generalize (if (usesA p.op).1.x=true then finishS f n p.x.toNat s else(p.x,s))= A at S1 ⊢
   generalize (if (usesA p.op).1.x=true then finT (tree f p.x.toNat) s.out else(0,s.out))= A' at S1 hsp ⊢
   obtain⟨a1,a2⟩:=A'
   obtain⟨A1,A2⟩:=A
   obtain⟨rfl,rfl,IA⟩:=S1
   simp only at hsp ⊢
   have S2:(if (usesA p.op).1.y=true then finishS f n p.y.toNat A2 else(p.y,A2)).1=(if (usesA p.op).1.y=true then finT (tree f p.y.toNat) A2.out else(0,A2.out)).1 /\
     (if (usesA p.op).1.y=true then finishS f n p.y.toNat A2 else(p.y,A2)).2.out=(if (usesA p.op).1.y=true then finT (tree f p.y.toNat) A2.out else(0,A2.out)).2/\InvT f (if (usesA p.op).1.y=true then finishS f n p.y.toNat A2 else(p.y,A2)).2:=by
    by_cases hy:(usesA p.op).1.y=true
    ·rw [if_pos hy,if_pos hy]
     exact finS_tree hv n (by have:=oy hy; omega) (by have:=oy hy; omega) IA
    ·rw [if_neg hy,if_neg hy]
     exact⟨zy (by simpa using hy),rfl,IA⟩
   generalize (if (usesA p.op).1.y=true then finishS f n p.y.toNat A2 else(p.y,A2))= B at S2 ⊢
   generalize (if (usesA p.op).1.y=true then finT (tree f p.y.toNat) A2.out else(0,A2.out))= B' at S2 hsp ⊢
   obtain⟨b1,b2⟩:=B'
   obtain⟨B1,B2⟩:=B
   obtain⟨rfl,rfl,IB⟩:=S2
   replace IB:InvT f B2:=IB
   simp only at hsp ⊢
   have hset:∀ (out':List Nd) (k:Nat),(∃ l,out'=B2.out++l)->validL out'->out'.Nodup->k<out'.length->tree out' k=tree f i->InvT f ⟨out',uput i k B2.done⟩:=by
    rintro out' k ⟨l,rfl⟩ hv' hn' hk' ht'
    refine⟨hv',hn',fun z k' hz=>?_⟩
    simp only at hz ⊢
    rw [ulook_uput] at hz
    split at hz
    ·cases hz
     exact⟨i,k,by assumption,rfl,hi,hk',ht'⟩
    ·obtain⟨i',j,q1,q2,q3,q4,q5⟩:=IB.d _ _ hz
     exact⟨i',j,q1,q2,q3,by simp; omega,by rw [tree_app hv' _ q4]; exact q5⟩
   have htf:tree f i = .nd p.op p.i p.e p.g (if (usesA p.op).1.x=true then tree f p.x.toNat else .nil) (if (usesA p.op).1.y=true then tree f p.y.toNat else .nil):=by
    rw [tree_eq hv hi,hp]
   unfold endS
   cases hq:idxN ⟨p.op,p.i,p.e,p.g,A1,B1⟩ B2.out 0 with
   | some k=>
    rw [hq] at hsp
    obtain⟨s1,s2,_,k',s3,s4,s5,_⟩:=hsp
    simp only at s1 s2 s3 s4 s5 ⊢
    obtain rfl:k=k':=by omega
    exact⟨trivial,trivial,hset _ k ⟨[],by simp⟩ s1 s2 s4 (by rw [s5,htf])⟩
   | none=>
    rw [hq] at hsp
    obtain⟨s1,s2,_,k',s3,s4,s5,_⟩:=hsp
    simp only at s1 s2 s3 s4 s5 ⊢
    obtain rfl:B2.out.length=k':=by omega
    exact⟨trivial,trivial,hset _ _ ⟨_,rfl⟩ s1 s2 s4 (by rw [s5,htf])⟩
theorem compactS_canon {f:List Nd} (hv:validL f) {i:Nat} (hi:i<f.length):compactS f i=canon (tree f i):=
 (finS_tree hv (i+1) (s:=⟨[],[]⟩) (by omega) hi ⟨fun k h=>by simp at h,.nil,fun z k h=>by cases h⟩).2.1
theorem canon_spec {t:Tr} (h:wfT t):validL (canon t)/\ (canon t).Nodup/\0<(canon t).length/\tree (canon t) ((canon t).length-1)= t:=by
 obtain⟨v,n,_,k,e1,e2,e3,e4⟩:=finT_spec t [] h (fun k h=>by simp at h) .nil
 refine⟨v,n,by unfold canon; omega,?_⟩
 have:k=(canon t).length-1:=by
  rcases e4 with e4 | e4
  ·rw [e4] at e2; simp at e2
  ·unfold canon; omega
 rw [<- this]; exact e3
theorem compactA_eq {f:List Nd} (h:checkF f=0):compactA f=canon (tree f (f.length-1)):=by
 obtain⟨h1,h2,h3⟩:=checkF_zero h
 have hl:0<f.length:=by cases f with | nil=>exact absurd rfl h1 | cons a b=>simp
 unfold compactA subA
 rw [if_neg (by omega),show ((f.length:Int)-1).toNat=f.length-1 by omega]
 exact compactS_canon h3 (by omega)
theorem errF_ok : ∀ {f:List Nd} {i:Int},(∀ k,k<f.length->nodeE (f.getD k nd0) (i+k)= 0)->errF f i=0
 | [],_,_=>rfl
 | p :: r,i,h=>by
  have h0:=h 0 (by simp)
  simp only [List.getD_cons_zero] at h0
  unfold errF
  rw [show (((0:Nat):Int))= 0 from rfl,Int.add_zero] at h0
  rw [if_neg (by simpa using h0)]
  refine errF_ok fun k hk=>?_
  have:=h (k+1) (by simpa using hk)
  rw [List.getD_cons_succ] at this
  rw [show i+1+(k:Int)= i+((k+1:Nat):Int) by omega]; exact this
theorem checkF_ok {f:List Nd} (h1:0<f.length) (h2:f.length<=200) (h3:validL f):checkF f=0:=by
 unfold checkF
 rw [if_neg (by intro e; rw [e] at h1; simp at h1),if_neg (by omega)]
 exact errF_ok fun k hk=>by rw [Int.zero_add]; exact h3 k hk
end Fm
end Go.Pd
