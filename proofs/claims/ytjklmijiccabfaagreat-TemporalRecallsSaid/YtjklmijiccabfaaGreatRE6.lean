/- Part E6. -/
import Derived.Test.YtjklmijiccabfaaGreatRE5
set_option linter.unusedSectionVars false
set_option linter.unusedVariables false
set_option linter.unusedSimpArgs false
set_option linter.defProp false
set_option maxRecDepth 20000
set_option maxHeartbeats 1000000
namespace Go.Pd
open Go Go.Proofs
open Int renaming reduceToNat -> ZA, reduceLT -> ZB, reduceLE -> ZC, reduceBEq -> ZD, reduceBNe -> ZE
open Nat renaming reduceEqDiff -> ZF, reduceAdd -> ZG, reduceBEq -> ZH, reduceLT -> ZI, reduceLeDiff -> ZJ, reduceMul -> ZK
open Rs Fm Ru Te
namespace Fm
theorem frag_pow (m:Nat) (h:m<=6):(usesA (11+(m:Int))).1.fr=((2 ^ (m+1):Nat):Int):=by
 have hc:m=0\/m=1\/m=2\/m=3\/m=4\/m=5\/m=6:=by omega
 rcases hc with rfl | rfl | rfl | rfl | rfl | rfl | rfl <;> decide
theorem frag_one (op:Int) (h:op=9\/op=10):(usesA op).1.fr=1:=by rcases h with rfl | rfl <;> decide
theorem frag_time (op:Int) (h:18<=op/\op<=21):(usesA op).1.fr=256:=by
 have hc:op=18\/op=19\/op=20\/op=21:=by omega
 rcases hc with rfl | rfl | rfl | rfl <;> decide
theorem frag_none (op:Int) (h:1<=op/\op<=8):(usesA op).1.fr=0:=by
 have hc:op=1\/op=2\/op=3\/op=4\/op=5\/op=6\/op=7\/op=8:=by omega
 rcases hc with rfl | rfl | rfl | rfl | rfl | rfl | rfl | rfl <;> decide
def bitsB (m k:Nat) (n:Int):Bool:=(List.range k).all fun i=>!m.testBit i || decide ((i:Int)<n)
theorem bits_below {m k:Nat} {n:Int} (hm:m<2 ^ k) (hk:k<=31):belowB m n=bitsB m k n:=by
 unfold belowB bitsB
 rw [Bool.eq_iff_iff,Bool.or_eq_true,decide_eq_true_iff,decide_eq_true_iff,List.all_eq_true]
 constructor
 ·rintro h i hi
  have hi':=List.mem_range.1 hi
  rcases h with h | h
  ·rw [decide_eq_true (by omega),Bool.or_true]
  ·cases hb:m.testBit i with
   | false=>rfl
   | true=>
    have h2:m<2 ^ n.toNat:=by
     rcases Nat.div_eq_zero_iff.1 h with h | h
     ·have:=Nat.two_pow_pos n.toNat; omega
     ·exact h
    have h3:i<n.toNat:=Decidable.byContradiction fun hh=>by
     have h4:=Nat.testBit_lt_two_pow (Nat.lt_of_lt_of_le h2 (Nat.pow_le_pow_right (by decide) (show n.toNat<=i by omega)))
     rw [h4] at hb; cases hb
    rw [decide_eq_true (by omega)]; rfl
 ·intro h
  refine .inr (Nat.div_eq_of_lt (Nat.lt_pow_two_of_testBit _ fun i hi=>?_))
  cases hb:m.testBit i with
  | false=>rfl
  | true=>
   have hik:i<k:=Decidable.byContradiction fun hh=>by
    have h4:=Nat.testBit_lt_two_pow (Nat.lt_of_lt_of_le hm (Nat.pow_le_pow_right (by decide) (show k<=i by omega)))
    rw [h4] at hb; cases hb
   have:=h i (List.mem_range.2 hik)
   rw [hb] at this
   simp at this
   omega
theorem union_below {m:Nd->Nat} {k:Nat}:∀ {l:List Nd},(∀ p ∈ l,m p<2 ^ k)->unionN m l<2 ^ k:=by
 have key:∀ (l:List Nd) (a:Nat),(∀ p ∈ l,m p<2 ^ k)->a<2 ^ k->l.foldl (fun a p=>a ||| m p) a<2 ^ k:=by
  intro l
  induction l with
  | nil=>intro a _ h; exact h
  | cons p r ih=>intro a h ha; exact ih _ (fun q hq=>h q (List.mem_cons_of_mem _ hq)) (Nat.or_lt_two_pow ha (h p (by simp)))
 exact fun {l} h=>key l 0 h (Nat.two_pow_pos k)
theorem op_range {p:Nd} {k:Int} (h:nodeE p k=0):1<=p.op/\p.op<=21:=by
 have h1:=(nodeE_iff.1 h).1
 refine Decidable.byContradiction fun hc=>?_
 rw [show usesA p.op=(none0,false) from if_pos (by omega)] at h1
 cases h1
theorem nd_nogroup {p:Nd} {k:Int} (h:nodeE p k=0) (hg:(usesA p.op).1.gr=false):p.g=0:=by
 have h2:=(nodeE_iff.1 h).2.2.2.1
 simp only [hg,Bool.or_eq_false_iff,Bool.not_false,Bool.true_and,decide_eq_false_iff_not] at h2
 omega
theorem agents_16 (f:List Nd):agentsA f<2 ^ 4:=union_below fun p hp=>by
 obtain⟨k,hk⟩:=mem_nd (sub_nd f _) hp
 unfold agentN
 split
 ·rename_i hf
  have:=nd_agent hk hf
  exact Nat.pow_lt_pow_right (by decide) (by omega)
 ·have:=nd_group hk
  omega
theorem facts_256 (f:List Nd):factsA f<2 ^ 8:=union_below fun p hp=>by
 obtain⟨k,hk⟩:=mem_nd (sub_nd f _) hp
 unfold factN
 split
 ·rename_i hf
  have:=nd_fact hk hf
  exact Nat.pow_lt_pow_right (by decide) (by omega)
 ·decide
end Fm
theorem refFrag111 {op:Int} (h:1<=op/\op<=21):Runs Tryz.prog 90 [.int .i64 op] (.int .i64 (usesA op).1.fr):=by
 refine CallT.go_fn mixed Tryz.func90 k90 (by simp) fun hf=>?_
 by_cases e9:op=9
 ·subst e9
  rw [frag_one 9 (.inl rfl)]
  simp only [ZA,ZB,ZC,ZD,ZE,↓reduceIte,reduceIte,ZF,ZG,ZH,ZI,ZJ,reduceCtorEq,ZK,↓zU,↓zD,zV,zT,zW]
  exact .same
 have c9:(op==9)= false:=by simpa using e9
 by_cases e10:op=10
 ·subst e10
  rw [frag_one 10 (.inr rfl)]
  simp only [ZA,ZB,ZC,ZD,ZE,↓reduceIte,reduceIte,ZF,ZG,ZH,ZI,ZJ,reduceCtorEq,ZK,↓zU,↓zD,zV,zT,zW]
  exact .same
 have c10:(op==10)= false:=by simpa using e10
 by_cases h11:11<=op
 case neg=>
  have h18:¬ 18<=op:=by omega
  rw [frag_none op (by omega)]
  simp only [ZA,ZB,ZC,ZD,ZE,↓reduceIte,reduceIte,ZF,ZG,ZH,ZI,ZJ,reduceCtorEq,ZK,↓zU,↓zD,zV,zT,zW,c9,c10,h11,h18]
  exact .same
 by_cases h17:op<=17
 case neg=>
  have h18:18<=op:=by omega
  rw [frag_time op (by omega)]
  simp only [ZA,ZB,ZC,ZD,ZE,↓reduceIte,reduceIte,ZF,ZG,ZH,ZI,ZJ,reduceCtorEq,ZK,↓zU,↓zD,zV,zT,zW,c9,c10,h11,h17,h18]
  exact .same
 obtain⟨m,hm⟩:∃ m:Nat,op=11+(m:Int):=⟨(op-11).toNat,by omega⟩
 have hfr:=frag_pow m (by omega)
 rw [<- hm] at hfr
 rw [hfr]
 have e1:IntKind.i64.wrap (op-11)= (m:Int):=by rw [wrap_i64 (by omega)]; omega
 have e2:IntKind.i64.wrap ((m:Int)+ 1)= ((m+1:Nat):Int):=wrap_up (by omega)
 simp only [ZA,ZB,ZC,ZD,ZE,↓reduceIte,reduceIte,ZF,ZG,ZH,ZI,ZJ,reduceCtorEq,ZK,↓zU,↓zD,zV,zT,zW,c9,c10,h11,h17,e1,e2,shlN (show m+1<=61 by omega)]
 (repeat refine sd ?_)
 exact .same
theorem refFrags83 (f:List Nd):Runs Tryz.prog 68 [.sl 6 (ndR f)] (.int .i64 (fragsA f)):=by
 have hlen:=sub_len f ((f.length:Int)-1)
 rw [show subA f ((f.length:Int)-1)= compactA f from rfl] at hlen
 have hnd:=validC f
 have hall:∀ p ∈ compactA f,fragN p<4096:=fun p _=>by have:=uses_fr p.op; unfold fragN; omega
 refine CallT.go_fn mixed Tryz.func68 k68 (by simp) fun hf=>?_
 simp only [ZA,ZB,ZC,ZD,ZE,↓reduceIte,reduceIte,ZF,ZG,ZH,ZI,ZJ,reduceCtorEq,ZK,↓zU,↓zD,zV,zT,zW]
 refine .go (cr (refCompact40 f)) ?_
 simp only [ZA,ZB,ZC,ZD,ZE,↓reduceIte,reduceIte,ZF,ZG,ZH,ZI,ZJ,reduceCtorEq,ZK,↓zU,↓zD,zV,zT,zW]
 unfold fragsA
 generalize compactA f=c at hlen hnd hall
 refine wpS_loop (fun k:Nat=>[(5,.int .i64 k),(4,.int .i64 (unionN fragN (c.take k))),(3,.sl 6 (ndR c))]) (fun _=>⟨0,[]⟩) (fun k=>k<=c.length) (fun k=>c.length-k) 0 (Nat.zero_le _) ?_ ?_
 ·(refine Weak.same ?_; simp [sameF,Fr.get,unionN])
 intro k hk
 refine wpS_go mixed ?_
 by_cases h:k<c.length
 ·have hd:((k:Int)<(c.length:Int)):=by omega
  have hw:IntKind.i64.wrap ((k:Int)+ 1)= ((k+1:Nat):Int):=wrap_i64 (by omega)
  have hg:=ndR_get c h
  have hq:=hnd k h
  have hlt:unionN fragN (c.take k)<2 ^ 12:=unionN_lt fun p hp=>hall p (List.mem_of_mem_take hp)
  have hlp:=hall _ (getD_mem (d:=nd0) h)
  have hs:unionN fragN (c.take (k+1))= unionN fragN (c.take k) ||| fragN (c.getD k nd0):=by rw [take_snoc (d:=nd0) h,unionN_snoc]
  generalize c.getD k nd0=p at hg hq hs hlp
  have hop:1<=p.op/\p.op<=21:=op_range hq
  have hfr:=refFrag111 hop
  have hu:=uses_fr p.op
  rw [show (usesA p.op).1.fr=((fragN p:Nat):Int) from(Int.toNat_of_nonneg hu.1).symm] at hfr
  have hor:=orNat (a:=unionN fragN (c.take k)) (b:=fragN p) (by omega) (by omega)
  simp only [ZA,ZB,ZC,ZD,ZE,↓reduceIte,reduceIte,ZF,ZG,ZH,ZI,ZJ,reduceCtorEq,ZK,↓zU,↓zD,zV,zT,zW,hd,ndR_len,hg,Nd.row]
  (repeat refine sd ?_)
  refine .go (cq hfr) ?_
  simp only [ZA,ZB,ZC,ZD,ZE,↓reduceIte,reduceIte,ZF,ZG,ZH,ZI,ZJ,reduceCtorEq,ZK,↓zU,↓zD,zV,zT,zW,hor]
  (repeat refine sd ?_)
  refine⟨k+1,by omega,?_,by omega⟩
  rw [hs]
  (refine Weak.same ?_; simp only [sameF,Fr.get,↓reduceIte,reduceIte,Nat.reduceEqDiff,reduceCtorEq,D.int.injEq,D.bool.injEq,D.sl.injEq,and_true,true_and,and_self])
  exact hw
 have hd:¬ ((k:Int)<(c.length:Int)):=by omega
 obtain rfl:k=c.length:=by omega
 simp only [ZA,ZB,ZC,ZD,ZE,↓reduceIte,reduceIte,ZF,ZG,ZH,ZI,ZJ,reduceCtorEq,ZK,↓zU,↓zD,zV,zT,zW,hd,ndR_len]
 exact .same
theorem refAgents112 (f:List Nd):Runs Tryz.prog 91 [.sl 6 (ndR f)] (.int .i64 (agentsA f)):=by
 have hlen:=sub_len f ((f.length:Int)-1)
 rw [show subA f ((f.length:Int)-1)= compactA f from rfl] at hlen
 have hnd:=validC f
 have hall:∀ p ∈ compactA f,agentN p<4096:=fun p hp=>by
  obtain⟨k,hk⟩:=mem_nd hnd hp
  exact agentN_lt hk
 refine CallT.go_fn mixed Tryz.func91 k91 (by simp) fun hf=>?_
 simp only [ZA,ZB,ZC,ZD,ZE,↓reduceIte,reduceIte,ZF,ZG,ZH,ZI,ZJ,reduceCtorEq,ZK,↓zU,↓zD,zV,zT,zW]
 refine .go (cr (refCompact40 f)) ?_
 simp only [ZA,ZB,ZC,ZD,ZE,↓reduceIte,reduceIte,ZF,ZG,ZH,ZI,ZJ,reduceCtorEq,ZK,↓zU,↓zD,zV,zT,zW]
 unfold agentsA
 generalize compactA f=c at hlen hnd hall
 refine wpS_loop (fun k:Nat=>[(5,.int .i64 k),(4,.int .i64 (unionN agentN (c.take k))),(3,.sl 6 (ndR c))]) (fun _=>⟨0,[]⟩) (fun k=>k<=c.length) (fun k=>c.length-k) 0 (Nat.zero_le _) ?_ ?_
 ·(refine Weak.same ?_; simp [sameF,Fr.get,unionN])
 intro k hk
 refine wpS_go mixed ?_
 by_cases h:k<c.length
 ·have hd:((k:Int)<(c.length:Int)):=by omega
  have hw:IntKind.i64.wrap ((k:Int)+ 1)= ((k+1:Nat):Int):=wrap_i64 (by omega)
  have hg:=ndR_get c h
  have hq:=hnd k h
  have hlt:unionN agentN (c.take k)<2 ^ 12:=unionN_lt fun p hp=>hall p (List.mem_of_mem_take hp)
  have hlp:=hall _ (getD_mem (d:=nd0) h)
  have hs:unionN agentN (c.take (k+1))= unionN agentN (c.take k) ||| agentN (c.getD k nd0):=by rw [take_snoc (d:=nd0) h,unionN_snoc]
  generalize c.getD k nd0=p at hg hq hs hlp
  have hag:=agent83 p.op
  have hgr:=nd_group hq
  obtain⟨g,hgg⟩:=Int.eq_ofNat_of_zero_le hgr.1
  cases hu:(usesA p.op).1.ag with
  | false=>
   rw [hu] at hag
   have hfn:agentN p=g:=by rw [agentN,if_neg (by rw [hu]; simp),hgg,Int.toNat_natCast]
   have hor:=orNat (a:=unionN agentN (c.take k)) (b:=g) (by omega) (by omega)
   simp only [ZA,ZB,ZC,ZD,ZE,↓reduceIte,reduceIte,ZF,ZG,ZH,ZI,ZJ,reduceCtorEq,ZK,↓zU,↓zD,zV,zT,zW,hd,ndR_len,hg,Nd.row]
   (repeat refine sd ?_)
   refine .go (cq hag) ?_
   simp only [ZA,ZB,ZC,ZD,ZE,↓reduceIte,reduceIte,ZF,ZG,ZH,ZI,ZJ,reduceCtorEq,ZK,↓zU,↓zD,zV,zT,zW,ndR_len,hg,Nd.row,hgg,hor]
   (repeat refine sd ?_)
   refine⟨k+1,by omega,?_,by omega⟩
   rw [hs,hfn]
   (refine Weak.same ?_; simp only [sameF,Fr.get,↓reduceIte,reduceIte,Nat.reduceEqDiff,reduceCtorEq,D.int.injEq,D.bool.injEq,D.sl.injEq,and_true,true_and,and_self])
   exact hw
  | true=>
   rw [hu] at hag
   obtain⟨i0,i3⟩:=nd_agent hq hu
   obtain⟨m,hm⟩:=Int.eq_ofNat_of_zero_le i0
   have hm3:m<=3:=by omega
   have hg0:p.g=0:=nd_nogroup hq (by rcases uses_kinds p.op with h | h | h | h | h <;> simp_all)
   have hp2:(2:Nat)^ m<2 ^ 12:=Nat.pow_lt_pow_right (by omega) (by omega)
   have hfn:agentN p=2 ^ m:=by rw [agentN,if_pos hu,hm,Int.toNat_natCast]
   have hor:=orNat (a:=unionN agentN (c.take k)) (b:=2 ^ m) (by omega) (by omega)
   have hor2:=orNat (a:=unionN agentN (c.take k) ||| 2 ^ m) (b:=0) (by have:=Nat.or_lt_two_pow hlt hp2; omega) (by omega)
   rw [Nat.or_zero] at hor2
   simp only [ZA,ZB,ZC,ZD,ZE,↓reduceIte,reduceIte,ZF,ZG,ZH,ZI,ZJ,reduceCtorEq,ZK,↓zU,↓zD,zV,zT,zW,hd,ndR_len,hg,Nd.row]
   (repeat refine sd ?_)
   refine .go (cq hag) ?_
   simp only [ZA,ZB,ZC,ZD,ZE,↓reduceIte,reduceIte,ZF,ZG,ZH,ZI,ZJ,reduceCtorEq,ZK,↓zU,↓zD,zV,zT,zW,ndR_len,hg,Nd.row,hm,shlN (show m<=61 by omega),hor,hg0,hor2]
   (repeat refine sd ?_)
   refine⟨k+1,by omega,?_,by omega⟩
   rw [hs,hfn]
   (refine Weak.same ?_; simp only [sameF,Fr.get,↓reduceIte,reduceIte,Nat.reduceEqDiff,reduceCtorEq,D.int.injEq,D.bool.injEq,D.sl.injEq,and_true,true_and,and_self])
   exact⟨hw,hor2⟩
 have hd:¬ ((k:Int)<(c.length:Int)):=by omega
 obtain rfl:k=c.length:=by omega
 simp only [ZA,ZB,ZC,ZD,ZE,↓reduceIte,reduceIte,ZF,ZG,ZH,ZI,ZJ,reduceCtorEq,ZK,↓zU,↓zD,zV,zT,zW,hd,ndR_len]
 exact .same
end Go.Pd
