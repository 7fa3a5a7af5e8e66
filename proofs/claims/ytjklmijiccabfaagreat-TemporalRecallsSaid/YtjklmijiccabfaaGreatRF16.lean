/- Part F16. -/
import Derived.Test.YtjklmijiccabfaaGreatRF12
set_option linter.unusedSectionVars false
set_option linter.unusedVariables false
set_option linter.unusedSimpArgs false
set_option linter.defProp false
set_option maxRecDepth 20000
set_option maxHeartbeats 1000000
namespace Go.Pd
open Go Go.Proofs
open Int renaming reduceToNat -> ZA, reduceLT -> ZB, reduceLE -> ZC, reduceBEq -> ZD, reduceBNe -> ZE
open Nat renaming reduceEqDiff -> ZF, reduceAdd -> ZG, reduceBEq -> ZH, reduceLT -> ZI, reduceLeDiff -> ZJ, reduceMul -> ZK
open Rs Fm
theorem orNat {a b:Nat} (ha:a<2 ^ 62) (hb:b<2 ^ 62):bitI .or .i64 (a:Int) (b:Int)= ((a ||| b:Nat):Int):=by
 show IntKind.i64.wrap ((BitVec.ofInt 64 (a:Int) ||| BitVec.ofInt 64 (b:Int)).toNat:Int)= _
 rw [BitVec.ofInt_natCast,BitVec.ofInt_natCast,BitVec.toNat_or,BitVec.toNat_ofNat,BitVec.toNat_ofNat,Nat.mod_eq_of_lt (by omega),Nat.mod_eq_of_lt (by omega)]
 have:=Nat.or_lt_two_pow ha hb
 exact wrap_i64 (by omega)
namespace Fm
def unionN (m:Nd->Nat) (l:List Nd):Nat:=l.foldl (fun a p=>a ||| m p) 0
theorem unionN_snoc (m:Nd->Nat) (l:List Nd) (p:Nd):unionN m (l ++ [p])= unionN m l ||| m p:=by simp [unionN]
theorem unionN_lt {m:Nd->Nat} {l:List Nd} (h:∀ p ∈ l,m p<4096):unionN m l<2 ^ 12:=by
 have key:∀ (l:List Nd) (a:Nat),a<2 ^ 12->(∀ p ∈ l,m p<4096)->l.foldl (fun a p=>a ||| m p) a<2 ^ 12:=by
  intro l
  induction l with
  | nil=>intro a ha _; exact ha
  | cons p r ih=>intro a ha h; exact ih _ (Nat.or_lt_two_pow ha (h p (by simp))) fun q hq=>h q (by simp [hq])
 exact key l 0 (by decide) h
end Fm
theorem union75 {f:List Nd} {g:FuncId} {m:Nd->Nat} (hm:∀ p ∈ compactA f,m p<4096) (h:∀ p ∈ compactA f,Runs Tryz.prog g [.agg p.row,.agg (usesA p.op).1.row] (.int .i64 (m p))) (hlen:(compactA f).length<=1000) :
  Runs Tryz.prog 96 [.sl 6 (ndR f),.fn g []] (.int .i64 (unionN m (compactA f))):=by
 refine CallT.go_fn mixed Tryz.func96 k96 (by simp) fun hf=>?_
 simp only [ZA,ZB,ZC,ZD,ZE,↓reduceIte,reduceIte,ZF,ZG,ZH,ZI,ZJ,reduceCtorEq,ZK,↓zU,↓zD,zV,zT,zW]
 refine .go (cr (Compact59 f)) ?_
 generalize compactA f=l at hm h hlen
 simp only [ZA,ZB,ZC,ZD,ZE,↓reduceIte,reduceIte,ZF,ZG,ZH,ZI,ZJ,reduceCtorEq,ZK,↓zU,↓zD,zV,zT,zW,ndR_len]
 refine wpS_loop (fun k:Nat=>[(13,.int .i64 k),(12,.int .i64 l.length),(11,.sl 6 (ndR l)),(5,.int .i64 (unionN m (l.take k))),(1,.fn g [])]) (fun _=>⟨0,[]⟩) (fun k=>k<=l.length) (fun k=>l.length-k) 0 (Nat.zero_le _) ?_ ?_
 ·(refine Weak.same ?_; simp [sameF,Fr.get,unionN])
 intro k hk
 refine wpS_go mixed ?_
 by_cases hh:k<l.length
 case neg=>
  have hd:¬ ((k:Int)<(l.length:Int)):=by omega
  rw [take_all (show k=l.length by omega)]
  simp only [ZA,ZB,ZC,ZD,ZE,↓reduceIte,reduceIte,ZF,ZG,ZH,ZI,ZJ,reduceCtorEq,ZK,↓zU,↓zD,zV,zT,zW,hd]
  exact .same
 have hd:((k:Int)<(l.length:Int)):=by omega
 have hs:unionN m (l.take (k+1))= unionN m (l.take k) ||| m (l.getD k nd0):=by rw [take_snoc (d:=nd0) hh,unionN_snoc]
 have hg:=ndR_get l hh
 have hmem:=getD_mem (d:=nd0) hh
 have hlt:unionN m (l.take k)<2 ^ 12:=unionN_lt fun p hp=>hm p (List.mem_of_mem_take hp)
 generalize l.getD k nd0=p at hs hg hmem
 have hmp:=hm p hmem
 simp only [ZA,ZB,ZC,ZD,ZE,↓reduceIte,reduceIte,ZF,ZG,ZH,ZI,ZJ,reduceCtorEq,ZK,↓zU,↓zD,zV,zT,zW,hd,ndR_len,hg,Nd.row]
 (repeat refine sd ?_)
 refine .go (cq (uses86 p.op)) ?_
 simp only [ZA,ZB,ZC,ZD,ZE,↓reduceIte,reduceIte,ZF,ZG,ZH,ZI,ZJ,reduceCtorEq,ZK,↓zU,↓zD,zV,zT,zW,Use.row]
 (repeat refine sd ?_)
 refine .go (CallT.of_runs (h p hmem) (by simp [D.isPureL,D.isPure,Nd.row,Use.row])) ?_
 simp only [ZA,ZB,ZC,ZD,ZE,↓reduceIte,reduceIte,ZF,ZG,ZH,ZI,ZJ,reduceCtorEq,ZK,↓zU,↓zD,zV,zT,zW,orNat (show unionN m (l.take k)<2 ^ 62 by omega) (show m p<2 ^ 62 by omega)]
 refine⟨k+1,by omega,?_,by omega⟩
 rw [hs]
 (refine Weak.view (fun k=>k) (by simp) (by simp) ?_ (by simp [stays]) (by simp [apartNames]); simp [vwF,vw,vwL,Fr.get])
 exact wrap_i64 (by omega)
open Rs Fm
namespace Fm
theorem uses_fr (op:Int):0<=(usesA op).1.fr/\(usesA op).1.fr<=256:=by
 have hc:op=1\/op=2\/op=3\/op=4\/op=5\/op=6\/op=7\/op=8\/op=9\/op=10\/op=11\/op=12\/op=13\/op=14\/op=15\/op=16\/op=17\/op=18\/op=19\/op=20\/op=21\/(op<1\/21<op):=by omega
 rcases hc with rfl | rfl | rfl | rfl | rfl | rfl | rfl | rfl | rfl | rfl | rfl | rfl | rfl | rfl | rfl | rfl | rfl | rfl | rfl | rfl | rfl | hc
 rotate_right
 ·rw [show usesA op=(none0,false) from if_pos hc]; exact⟨by decide,by decide⟩
 all_goals simp [usesA,none0]
def fragN (p:Nd):Nat:=(usesA p.op).1.fr.toNat
def fragsA (f:List Nd):Nat:=unionN fragN (compactA f)
theorem finish_len {f:List Nd} {i:Nat} (hc:∀ k,k<f.length->nodeE (f.getD k nd0) k=0) (hi:i<f.length):(compactS f i).length<=f.length:=
 (finish_ok hc (i+1) (i:=i) (s:=⟨[],[]⟩) (by omega) hi ⟨Nat.le_refl _,by simp,fun p hp=>by cases hp⟩).1.len
theorem sub_len (f:List Nd) (i:Int):(subA f i).length<=200:=by
 unfold subA
 by_cases h:checkF f≠0\/i<0\/(f.length:Int)<=i
 ·rw [if_pos h]; simp
 ·rw [if_neg h]
  obtain⟨c1,c2,c3⟩:=checkF_zero (f:=f) (by omega)
  have:=finish_len c3 (i:=i.toNat) (by omega)
  omega
end Fm
theorem Frags57 (f:List Nd):Runs Tryz.prog 75 [.sl 6 (ndR f)] (.int .i64 (fragsA f)):=by
 refine CallT.go_fn mixed Tryz.func75 k75 (by simp) fun hf=>?_
 simp only [ZA,ZB,ZC,ZD,ZE,↓reduceIte,reduceIte,ZF,ZG,ZH,ZI,ZJ,reduceCtorEq,ZK,↓zU,↓zD,zV,zT,zW]
 refine .go (CallT.of_runs (union75 (m:=fragN) (fun p _=>by have:=uses_fr p.op; unfold fragN; omega) (fun p _=>?_) (by have:=sub_len f ((f.length:Int)-1); unfold compactA; omega)) rfl) ?_
 ·have h:=frags76 p (usesA p.op).1
  have:=uses_fr p.op
  rw [show ((fragN p:Nat):Int)= (usesA p.op).1.fr from Int.toNat_of_nonneg this.1]
  exact h
 simp only [ZA,ZB,ZC,ZD,ZE,↓reduceIte,reduceIte,ZF,ZG,ZH,ZI,ZJ,reduceCtorEq,ZK,↓zU,↓zD,zV,zT,zW]
 exact .same
open Rs Fm
namespace Fm
def belowB (m:Nat) (n:Int):Bool:=decide (31<=n) || decide (m / 2 ^ n.toNat=0)
end Fm
theorem fits77 (m:Nat) (n:Int):Runs Tryz.prog 98 [.int .i64 m,.int .i64 n] (.bool (belowB m n)):=by
 refine CallT.go_fn mixed Tryz.func98 k98 (by simp) fun hf=>?_
 by_cases h1:31<=n
 ·simp only [ZA,ZB,ZC,ZD,ZE,↓reduceIte,reduceIte,ZF,ZG,ZH,ZI,ZJ,reduceCtorEq,ZK,↓zU,↓zD,zV,zT,zW,h1]
  exact .drop (by simp) (by simp [vw,belowB,h1])
 have e:max n 0=((n.toNat:Nat):Int):=by omega
 have e2:max 0 n=((n.toNat:Nat):Int):=by omega
 have hb:(((m / 2 ^ n.toNat:Nat):Int)== 0)= decide (m / 2 ^ n.toNat=0):=by
  rw [Bool.eq_iff_iff,beq_iff_eq,decide_eq_true_iff]; omega
 simp only [ZA,ZB,ZC,ZD,ZE,↓reduceIte,reduceIte,ZF,ZG,ZH,ZI,ZJ,reduceCtorEq,ZK,↓zU,↓zD,zV,zT,zW,h1,mx_max,e,e2,shrNat m n.toNat (by omega),hb]
 (repeat refine sd ?_)
 exact .drop (by simp) (by simp [vw,belowB,h1])
open Rs Fm
namespace Fm
theorem nodeE_iff {p:Nd} {k:Int}:nodeE p k=0 ↔ (usesA p.op).2=true/\operandB (usesA p.op).1.x p.x k=true/\operandB (usesA p.op).1.y p.y k=true /\
  ((!((usesA p.op).1.fa || (usesA p.op).1.ag || (usesA p.op).1.ev)&& decide (p.i≠0)) || (!(usesA p.op).1.ev&&decide (p.e≠0)) || (!(usesA p.op).1.gr&&decide (p.g≠0)))= false /\
  (outsideB (usesA p.op).1.fa p.i 0 7 || outsideB (usesA p.op).1.ag p.i 0 3 || outsideB (usesA p.op).1.ev p.i 0 7 || outsideB (usesA p.op).1.ev p.e 0 7 || outsideB (usesA p.op).1.gr p.g 1 15)= false:=by
 unfold nodeE
 cases h1:(usesA p.op).2
 ·simp
 cases h2:operandB (usesA p.op).1.x p.x k
 ·simp
 cases h3:operandB (usesA p.op).1.y p.y k
 ·simp
 generalize ((!((usesA p.op).1.fa || (usesA p.op).1.ag || (usesA p.op).1.ev)&& decide (p.i≠0)) || (!(usesA p.op).1.ev&&decide (p.e≠0)) || (!(usesA p.op).1.gr&&decide (p.g≠0)))= c
 generalize (outsideB (usesA p.op).1.fa p.i 0 7 || outsideB (usesA p.op).1.ag p.i 0 3 || outsideB (usesA p.op).1.ev p.i 0 7 || outsideB (usesA p.op).1.ev p.e 0 7 || outsideB (usesA p.op).1.gr p.g 1 15)= d
 cases c <;> cases d <;> simp
theorem nodeE_ops {p:Nd} {a b k k':Int} (h:nodeE p k=0) (ha:if (usesA p.op).1.x=true then 0<=a/\a<k' else a=p.x) (hb:if (usesA p.op).1.y=true then 0<=b/\b<k' else b=p.y):nodeE ⟨p.op,p.i,p.e,p.g,a,b⟩ k'=0:=by
 rw [nodeE_iff] at h ⊢
 obtain⟨h1,h2,h3,h4,h5⟩:=h
 refine⟨h1,?_,?_,h4,h5⟩
 ·simp only
  cases hx:(usesA p.op).1.x
  ·rw [hx] at ha h2
   rw [if_neg (by simp)] at ha
   rw [ha]; exact h2
  ·rw [hx,if_pos rfl] at ha
   simp [operandB,ha]
 ·simp only
  cases hx:(usesA p.op).1.y
  ·rw [hx] at hb h3
   rw [if_neg (by simp)] at hb
   rw [hb]; exact h3
  ·rw [hx,if_pos rfl] at hb
   simp [operandB,hb]
structure FinN (s : CS) : Prop where
 nd:∀ k,k<s.out.length->nodeE (s.out.getD k nd0) k=0
 dn:∀ z k:Int,ulook z s.done=some k->0<=k/\k<s.out.length
theorem idxN_lt {q:Nd}:∀ {l:List Nd} {k j:Nat},idxN q l k=some j->k<=j/\j<k+l.length
 | [],_,_,h=>by cases h
 | p :: r,k,j,h=>by
  unfold idxN at h
  by_cases e:q=p
  ·rw [if_pos e] at h; cases h; simp
  ·rw [if_neg e] at h
   have:=idxN_lt h
   simp only [List.length_cons]; omega
theorem end_nd {s:CS} {i:Nat} {q:Nd} (h:FinN s) (hq:nodeE q s.out.length=0):FinN (endS i q s).2/\0<=(endS i q s).1/\(endS i q s).1<(endS i q s).2.out.length/\s.out.length<=(endS i q s).2.out.length:=by
 unfold endS
 cases he:idxN q s.out 0 with
 | some k=>
  have hk:=idxN_lt he
  refine⟨⟨h.nd,fun z j hz=>?_⟩,by simp,by simp only; omega,Nat.le_refl _⟩
  simp only at hz
  rw [ulook_uput] at hz
  by_cases e:z=i
  ·rw [if_pos e] at hz; cases hz; simp only; omega
  ·rw [if_neg e] at hz; exact h.dn z j hz
 | none=>
  refine⟨⟨fun k hk=>?_,fun z j hz=>?_⟩,by simp,by simp; omega,by simp⟩
  ·simp only [List.length_append,List.length_singleton] at hk
   by_cases hl:k<s.out.length
   ·have:=h.nd k hl
    simp only [List.getD_eq_getElem?_getD] at this ⊢
    rwa [List.getElem?_append_left hl]
   ·obtain rfl:k=s.out.length:=by omega
    simpa [List.getD_eq_getElem?_getD] using hq
  ·simp only at hz
   rw [ulook_uput] at hz
   by_cases e:z=i
   ·rw [if_pos e] at hz; cases hz; simp; omega
   ·rw [if_neg e] at hz
    have:=h.dn z j hz
    simp only [List.length_append,List.length_singleton]; omega
theorem finish_nd {f:List Nd} (hc:∀ k,k<f.length->nodeE (f.getD k nd0) k=0):∀ (n:Nat) {i:Nat} {s:CS},i<n->i<f.length->FinN s ->
  FinN (finishS f n i s).2/\0<=(finishS f n i s).1/\(finishS f n i s).1<(finishS f n i s).2.out.length/\s.out.length<=(finishS f n i s).2.out.length
 | 0,i,s,h,_,_=>by omega
 | n + 1,i,s,h,hi,hs=>by
  cases hu:ulook i s.done with
  | some k=>rw [finishS,hu]; exact⟨hs,(hs.dn _ _ hu).1,(hs.dn _ _ hu).2,Nat.le_refl _⟩
  | none=>
   rw [finishS_eq hu]
   have hp:=hc i hi
   obtain⟨ox,oy⟩:=node_ops hp
   simp only
   generalize f.getD i nd0=p at ox oy hp
   have ha:FinN (if (usesA p.op).1.x=true then finishS f n p.x.toNat s else(p.x,s)).2/\(if (usesA p.op).1.x=true then 0<=(if (usesA p.op).1.x=true then finishS f n p.x.toNat s else(p.x,s)).1/\(if (usesA p.op).1.x=true then finishS f n p.x.toNat s else(p.x,s)).1<(if (usesA p.op).1.x=true then finishS f n p.x.toNat s else(p.x,s)).2.out.length else(if (usesA p.op).1.x=true then finishS f n p.x.toNat s else(p.x,s)).1=p.x)/\ s.out.length<=(if (usesA p.op).1.x=true then finishS f n p.x.toNat s else(p.x,s)).2.out.length:=by
    by_cases hx:(usesA p.op).1.x=true
    ·simp only [if_pos hx]
     have:=ox hx
     obtain⟨b1,b2,b3,b4⟩:=finish_nd hc n (i:=p.x.toNat) (s:=s) (by omega) (by omega) hs
     exact⟨b1,⟨b2,b3⟩,b4⟩
    ·simp only [if_neg hx]; exact⟨hs,trivial,Nat.le_refl _⟩
   generalize (if (usesA p.op).1.x=true then finishS f n p.x.toNat s else(p.x,s))= a at ha
   obtain⟨a1,a2,a3⟩:=ha
   have hb:FinN (if (usesA p.op).1.y=true then finishS f n p.y.toNat a.2 else(p.y,a.2)).2/\(if (usesA p.op).1.y=true then 0<=(if (usesA p.op).1.y=true then finishS f n p.y.toNat a.2 else(p.y,a.2)).1/\(if (usesA p.op).1.y=true then finishS f n p.y.toNat a.2 else(p.y,a.2)).1<(if (usesA p.op).1.y=true then finishS f n p.y.toNat a.2 else(p.y,a.2)).2.out.length else(if (usesA p.op).1.y=true then finishS f n p.y.toNat a.2 else(p.y,a.2)).1=p.y)/\ a.2.out.length<=(if (usesA p.op).1.y=true then finishS f n p.y.toNat a.2 else(p.y,a.2)).2.out.length:=by
    by_cases hy:(usesA p.op).1.y=true
    ·simp only [if_pos hy]
     have:=oy hy
     obtain⟨b1,b2,b3,b4⟩:=finish_nd hc n (i:=p.y.toNat) (s:=a.2) (by omega) (by omega) a1
     exact⟨b1,⟨b2,b3⟩,b4⟩
    ·simp only [if_neg hy]; exact⟨a1,trivial,Nat.le_refl _⟩
   generalize (if (usesA p.op).1.y=true then finishS f n p.y.toNat a.2 else(p.y,a.2))= b at hb
   obtain⟨b1,b2,b3⟩:=hb
   have hq:nodeE ⟨p.op,p.i,p.e,p.g,a.1,b.1⟩ b.2.out.length=0:=by
    refine nodeE_ops hp ?_ b2
    split
    ·rename_i hx
     rw [if_pos hx] at a2; omega
    ·rename_i hx
     rw [if_neg hx] at a2; exact a2
   obtain⟨e1,e2,e3,e4⟩:=end_nd (i:=i) b1 hq
   exact⟨e1,e2,e3,by omega⟩
theorem sub_nd (f:List Nd) (i:Int):∀ k,k<(subA f i).length->nodeE ((subA f i).getD k nd0) k=0:=by
 unfold subA
 by_cases h:checkF f≠0\/i<0\/(f.length:Int)<=i
 ·rw [if_pos h]; intro k hk; simp at hk
 ·rw [if_neg h]
  obtain⟨c1,c2,c3⟩:=checkF_zero (f:=f) (by omega)
  exact(finish_nd c3 (i.toNat+1) (i:=i.toNat) (s:=⟨[],[]⟩) (by omega) (by omega) ⟨fun k hk=>by simp at hk,fun z k hz=>by cases hz⟩).1.nd
theorem sub_ne {f:List Nd} {i:Nat} (hc:checkF f=0) (hi:i<f.length):0<(subA f i).length:=by
 obtain⟨c1,c2,c3⟩:=checkF_zero hc
 unfold subA
 rw [if_neg (by omega)]
 have:=(finish_nd c3 ((i:Int).toNat+1) (i:=(i:Int).toNat) (s:=⟨[],[]⟩) (by omega) (by omega) ⟨fun k hk=>by simp at hk,fun z k hz=>by cases hz⟩).2
 unfold compactS
 omega
theorem compact_ne {f:List Nd} (hc:checkF f=0):0<(compactA f).length:=by
 have h1:=(checkF_zero hc).1
 have:0<f.length:=List.length_pos_iff.2 h1
 have:=sub_ne (i:=f.length-1) hc (by omega)
 unfold compactA
 rwa [show ((f.length:Int)-1)= ((f.length-1:Nat):Int) by omega]
theorem mem_nd {l:List Nd} (h:∀ k,k<l.length->nodeE (l.getD k nd0) k=0) {p:Nd} (hp:p ∈ l):∃ k:Nat,nodeE p k=0:=by
 obtain⟨k,hk,rfl⟩:=List.getElem_of_mem hp
 refine⟨k,?_⟩
 have:=h k hk
 rwa [List.getD_eq_getElem?_getD,List.getElem?_eq_getElem hk] at this
theorem nd_fact {p:Nd} {k:Int} (h:nodeE p k=0) (hf:(usesA p.op).1.fa=true):0<=p.i/\p.i<=7:=by
 have:=(nodeE_iff.1 h).2.2.2.2
 simp only [outsideB,hf,Bool.or_eq_false_iff,Bool.true_and,decide_eq_false_iff_not] at this
 omega
theorem nd_agent {p:Nd} {k:Int} (h:nodeE p k=0) (hf:(usesA p.op).1.ag=true):0<=p.i/\p.i<=3:=by
 have:=(nodeE_iff.1 h).2.2.2.2
 simp only [outsideB,hf,Bool.or_eq_false_iff,Bool.true_and,decide_eq_false_iff_not] at this
 omega
theorem nd_group {p:Nd} {k:Int} (h:nodeE p k=0):0<=p.g/\p.g<=15:=by
 have h1:=(nodeE_iff.1 h).2.2.2.2
 have h2:=(nodeE_iff.1 h).2.2.2.1
 cases hg:(usesA p.op).1.gr
 ·simp only [hg,Bool.or_eq_false_iff,Bool.not_false,Bool.true_and,decide_eq_false_iff_not] at h2
  omega
 ·simp only [outsideB,hg,Bool.or_eq_false_iff,Bool.true_and,decide_eq_false_iff_not] at h1
  omega
def agentN (p:Nd):Nat:=if (usesA p.op).1.ag=true then 2 ^ p.i.toNat else p.g.toNat
def factN (p:Nd):Nat:=if (usesA p.op).1.fa=true then 2 ^ p.i.toNat else 0
def agentsA (f:List Nd):Nat:=unionN agentN (compactA f)
def factsA (f:List Nd):Nat:=unionN factN (compactA f)
theorem agentN_lt {p:Nd} {k:Int} (h:nodeE p k=0):agentN p<4096:=by
 unfold agentN
 split
 ·rename_i hf
  have:=nd_agent h hf
  have:2 ^ p.i.toNat<=2 ^ 3:=Nat.pow_le_pow_right (by decide) (by omega)
  omega
 ·have:=nd_group h
  omega
theorem factN_lt {p:Nd} {k:Int} (h:nodeE p k=0):factN p<4096:=by
 unfold factN
 split
 ·rename_i hf
  have:=nd_fact h hf
  have:2 ^ p.i.toNat<=2 ^ 7:=Nat.pow_le_pow_right (by decide) (by omega)
  omega
 ·omega
def fitsB (f:List Nd) (a b:Int):Bool:=decide (checkF f=0)&& belowB (agentsA f) a&&belowB (factsA f) b
end Fm
theorem Agents78 (f:List Nd):Runs Tryz.prog 99 [.sl 6 (ndR f)] (.int .i64 (agentsA f)):=by
 refine CallT.go_fn mixed Tryz.func99 k99 (by simp) fun hf=>?_
 simp only [ZA,ZB,ZC,ZD,ZE,↓reduceIte,reduceIte,ZF,ZG,ZH,ZI,ZJ,reduceCtorEq,ZK,↓zU,↓zD,zV,zT,zW]
 refine .go (CallT.of_runs (union75 (m:=agentN) (fun p hp=>?_) (fun p hp=>?_) (by have:=sub_len f ((f.length:Int)-1); unfold compactA; omega)) rfl) ?_
 ·obtain⟨k,hk⟩:=mem_nd (sub_nd f _) hp
  exact agentN_lt hk
 ·obtain⟨k,hk⟩:=mem_nd (sub_nd f _) hp
  have h:=agents89 p (usesA p.op).1 (fun ha=>by have:=nd_agent hk ha; omega)
  rw [show ((agentN p:Nat):Int)= (if (usesA p.op).1.ag=true then((2 ^ p.i.toNat:Nat):Int) else p.g) by
   unfold agentN
   split
   ·rfl
   ·have:=nd_group hk; omega]
  exact h
 simp only [ZA,ZB,ZC,ZD,ZE,↓reduceIte,reduceIte,ZF,ZG,ZH,ZI,ZJ,reduceCtorEq,ZK,↓zU,↓zD,zV,zT,zW]
 exact .same
theorem Facts79 (f:List Nd):Runs Tryz.prog 100 [.sl 6 (ndR f)] (.int .i64 (factsA f)):=by
 refine CallT.go_fn mixed Tryz.func100 k100 (by simp) fun hf=>?_
 simp only [ZA,ZB,ZC,ZD,ZE,↓reduceIte,reduceIte,ZF,ZG,ZH,ZI,ZJ,reduceCtorEq,ZK,↓zU,↓zD,zV,zT,zW]
 refine .go (CallT.of_runs (union75 (m:=factN) (fun p hp=>?_) (fun p hp=>?_) (by have:=sub_len f ((f.length:Int)-1); unfold compactA; omega)) rfl) ?_
 ·obtain⟨k,hk⟩:=mem_nd (sub_nd f _) hp
  exact factN_lt hk
 ·obtain⟨k,hk⟩:=mem_nd (sub_nd f _) hp
  have h:=facts90 p (usesA p.op).1 (fun ha=>by have:=nd_fact hk ha; omega)
  rw [show ((factN p:Nat):Int)= (if (usesA p.op).1.fa=true then((2 ^ p.i.toNat:Nat):Int) else 0) by
   unfold factN
   split <;> rfl]
  exact h
 simp only [ZA,ZB,ZC,ZD,ZE,↓reduceIte,reduceIte,ZF,ZG,ZH,ZI,ZJ,reduceCtorEq,ZK,↓zU,↓zD,zV,zT,zW]
 exact .same
theorem Fits58 (f:List Nd) (a b:Int):Runs Tryz.prog 76 [.sl 6 (ndR f),.int .i64 a,.int .i64 b] (.bool (fitsB f a b)):=by
 refine CallT.go_fn mixed Tryz.func76 k76 (by simp) fun hf=>?_
 simp only [ZA,ZB,ZC,ZD,ZE,↓reduceIte,reduceIte,ZF,ZG,ZH,ZI,ZJ,reduceCtorEq,ZK,↓zU,↓zD,zV,zT,zW]
 refine .go (cr (checkF56 f)) ?_
 by_cases hc:checkF f=0
 case neg=>
  have e:(checkF f==0)= false:=by simpa using hc
  simp only [ZA,ZB,ZC,ZD,ZE,↓reduceIte,reduceIte,ZF,ZG,ZH,ZI,ZJ,reduceCtorEq,ZK,↓zU,↓zD,zV,zT,zW,e]
  exact .drop (by simp) (by simp [vw,fitsB,hc])
 have e:(checkF f==0)= true:=by simpa using hc
 simp only [ZA,ZB,ZC,ZD,ZE,↓reduceIte,reduceIte,ZF,ZG,ZH,ZI,ZJ,reduceCtorEq,ZK,↓zU,↓zD,zV,zT,zW,e]
 refine .go (cr (Agents78 f)) ?_
 simp only [ZA,ZB,ZC,ZD,ZE,↓reduceIte,reduceIte,ZF,ZG,ZH,ZI,ZJ,reduceCtorEq,ZK,↓zU,↓zD,zV,zT,zW]
 refine .go (CallT.of_runs (fits77 (agentsA f) a) rfl) ?_
 cases hb:belowB (agentsA f) a
 ·simp only [ZA,ZB,ZC,ZD,ZE,↓reduceIte,reduceIte,ZF,ZG,ZH,ZI,ZJ,reduceCtorEq,ZK,↓zU,↓zD,zV,zT,zW]
  exact .drop (by simp) (by simp [vw,fitsB,hb])
 simp only [ZA,ZB,ZC,ZD,ZE,↓reduceIte,reduceIte,ZF,ZG,ZH,ZI,ZJ,reduceCtorEq,ZK,↓zU,↓zD,zV,zT,zW]
 refine .go (cr (Facts79 f)) ?_
 simp only [ZA,ZB,ZC,ZD,ZE,↓reduceIte,reduceIte,ZF,ZG,ZH,ZI,ZJ,reduceCtorEq,ZK,↓zU,↓zD,zV,zT,zW]
 refine .go (CallT.of_runs (fits77 (factsA f) b) rfl) ?_
 simp only [ZA,ZB,ZC,ZD,ZE,↓reduceIte,reduceIte,ZF,ZG,ZH,ZI,ZJ,reduceCtorEq,ZK,↓zU,↓zD,zV,zT,zW]
 exact .drop (by simp) (by simp [vw,fitsB,hb,hc])
end Go.Pd
