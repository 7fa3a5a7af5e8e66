/- Part LS. -/
import Derived.Test.YtccobgpcnfjbhaaDoorSlMR
import Derived.Test.YtccobgpcnfjbhaaDoorSlCU
import Derived.Test.YtccobgpcnfjbhaaDoorSlA0
set_option linter.unusedSectionVars false
set_option linter.unusedVariables false
set_option linter.unusedSimpArgs false
set_option linter.defProp false
set_option maxRecDepth 20000
set_option maxHeartbeats 1000000
open Go.Proofs.Tryd
namespace Go.Pd
open Go Go.Proofs
open BitVec renaming isValue -> ZA
open Ru
namespace Ru
def gY (T t:Nat):Nat->BitVec 64
 | 0=>0#64
 | k+1=>gY T t k ||| (if k % T=t then 1#64 <<< k else 0#64)
theorem bQ {T t:Nat}:∀ {k:Nat},k<=64->∀ i,(gY T t k).getLsbD i=(decide (i<k)&& decide (i % T=t))
 | 0,_,i=>by simp [gY]
 | k+1,hk,i=>by
  unfold gY;rw [BitVec.getLsbD_or,bQ (by omega) i]
  by_cases e:i=k
  ·subst e
   by_cases c:i % T=t
   ·rw [if_pos c,rD (by omega)]; simp [c]
   ·rw [if_neg c]; simp [c]
  ·by_cases c:k % T=t
   ·rw [if_pos c,rD (by omega),decide_eq_false e,Bool.or_false]
    by_cases h:i<k
    ·rw [decide_eq_true h,decide_eq_true (show i<k+1 by omega)]
    ·rw [decide_eq_false h,decide_eq_false (show ¬ i<k+1 by omega)]
   ·rw [if_neg c,BitVec.getLsbD_zero,Bool.or_false]
    by_cases h:i<k
    ·rw [decide_eq_true h,decide_eq_true (show i<k+1 by omega)]
    ·rw [decide_eq_false h,decide_eq_false (show ¬ i<k+1 by omega)]
end Ru
theorem ja (s:vT) (k:Nat) (hk:k<256):wP prog 3 [s.d,.int .u8 (k:Int)] (.bool true):=by
 have hA:=aa;have hF:=Yd s;have hC:=zt s;have hD:s.d = .agg [.int .i64 s.ag,.int .i64 s.fa,.int .i64 s.ln,.sl 2 (yL s.rs)]:=rfl
 cases hb:jm s with
 | false=> rw [hb] at hF;rw [hD] at *;refine wZ func3 k3 λhf=>?_;refine yF ?_;refine .go (cq hA) ?_;refine yF ?_;refine .go (cq hF) ?_;refine yF ?_;refine .go (cq hA) ?_;refine yF ?_;exact .dv
 | true=>
 rw [hb] at hF;by_cases hz:uA s=0
 case neg=>
  have hz':(uA s != 0)= true:=by simpa using hz
  rw [hD] at *;refine wZ func3 k3 λhf=>?_;refine yF ?_;refine .go (cq hA) ?_;refine yF ?_;refine .go (cq hF) ?_;refine yF ?_;refine .go (cq hC) ?_;refine wL hz' ?_;refine .go (cq hA) ?_;refine yF ?_;exact .dv
 obtain⟨A,F,T,rs,rfl,ok⟩:=eD hz;rw [hz] at hC;have hT:=ok.hT;have hR:=ok.hR;obtain⟨t,ht⟩:∃ t,t=k % T:=⟨_,rfl⟩;have htT:t<T:=by rw [ht]; exact Nat.mod_lt _ (by omega)
 have e1:IntKind.i64.wrap (k:Int)= (k:Int):=wrap_i64 (by omega);have e2:((k:Int)).tmod (T:Int)= (t:Int):=by rw [ht,Int.tmod_eq_emod_of_nonneg (by omega),Int.natCast_emod]
 have e3:IntKind.i64.wrap ((t:Int)+ 1)= ((t+1:Nat):Int):=rJ (by omega);have hT0:¬ (T:Int)= 0:=by omega
 have hM:=fj ⟨A,F,T,rs⟩;have hS:=ur ⟨A,F,T,rs⟩ t;have hcut:=j4 ok (n:=t+1) (by omega) (by omega);have hS2:=ur ⟨A,F,(t+1:Nat),pT rs (t+1)⟩ t;have okc:=ah ok (n:=t+1) (by omega) (by omega)
 have hs1:qS ⟨A,F,T,rs⟩ t=(wQ rs (yS rs.length t) A F,0):=by unfold qS;rw [if_neg (by simpa using hz),if_neg (by show ¬ ((t:Int)<0\/(T:Int)<=(t:Int)); omega)];rfl
 have hs2:qS ⟨A,F,(t+1:Nat),pT rs (t+1)⟩ t=(wQ rs (yS rs.length t) A F,0):=by unfold qS;rw [if_neg (by simpa using vi okc),if_neg (by show ¬ ((t:Int)<0\/((t+1:Nat):Int)<=(t:Int)); omega)];show (wQ (pT rs (t+1)) (yS (pT rs (t+1)).length t) A F,(0:Int))= _;rw [mM,rh hR.2 (by omega)]
 rw [hs1] at hS;rw [hs2] at hS2;have hE:=x8 (wQ rs (yS rs.length t) A F) (wQ rs (yS rs.length t) A F);rw [ye] at hE;have ep:pZ ⟨A,F,T,rs⟩= qZ T (rs.length*T):=by unfold pZ; rw [if_neg (by simpa using hz)]; rfl
 have hm:pI ⟨A,F,T,rs⟩= if 64<rs.length*T then(tE,[],8) else(wQ rs (qZ T (rs.length*T)) A F,qZ T (rs.length*T),0):=by unfold pI; rw [if_neg (by simpa using hz),ep,uF]; rfl
 rw [hm] at hM;have hR2:rs.length*T<=64->∃ R:D,(wQ rs (yS rs.length t) A F).d=R:=λ_=>⟨_,rfl⟩
 have hres:∀ hW:rs.length*T<=64,wP prog 11 [(wQ rs (qZ T (rs.length*T)) A F).d,.int .u64 (ui (gY T t (rs.length*T)))] (.yN [(wQ rs (yS rs.length t) A F).d,.sl 1 (rows .i64 (pQ rs.length T t)),.int .i64 0]):=λhW=>by
  have h1:1<=rs.length*T:=Nat.mul_pos (by omega) (by omega);have hTW:T<=rs.length*T:=Nat.le_mul_of_pos_left _ (by omega);have hbit:=λi=>bQ (T:=T) (t:=t) hW i
  have:=gV (vf ok (l:=qZ T (rs.length*T)) (by rw [uF]; exact h1) (by rw [uF]; exact hW)) (s:=gY T t (rs.length*T)) (λi hi=>by
   rw [hbit] at hi;simp only [Bool.and_eq_true,decide_eq_true_eq] at hi;rw [uF]; exact hi.1) (λh0=>by
   have:=hbit t;rw [h0,BitVec.getLsbD_zero,decide_eq_true (show t<rs.length*T by omega),decide_eq_true (show t % T=t from Nat.mod_eq_of_lt htT)] at this;cases this)
  rw [sb hW htT hbit,yh hW htT] at this;exact this
 have hmx:(wQ rs (yS rs.length t) A F).d = .agg [.int .i64 (wQ rs (yS rs.length t) A F).W,.sl 1 (us (wQ rs (yS rs.length t) A F).V),.sl 1 (rr (wQ rs (yS rs.length t) A F).R)]:=rfl;simp only at hS hS2;rw [hmx] at hS hS2 hE hres;generalize wQ rs (yS rs.length t) A F=X at *;unfold sD at hcut;unfold vT.d vT.cells at hF hC hM hS hS2;simp only at hF hC hM hS hS2;show wP prog 3 [.agg [.int .i64 (A:Int),.int .i64 (F:Int),.int .i64 (T:Int),.sl 2 (yL rs)],.int .u8 (k:Int)] (.bool true)
 by_cases h64:64<rs.length*T
 ·rw [if_pos h64] at hM;have hz0:(tE,([]:List (Nat × Nat)),(8:Int)).1.d = .agg [.int .i64 0,.sl 1 (us []),.sl 1 (rr [])]:=rfl;rw [hz0] at hM;refine wZ func3 k3 λhf=>?_;refine yF ?_;refine .go (cq hA) ?_;refine yF ?_;refine .go (cq hF) ?_;refine yF ?_;refine .go (cq hC) ?_;refine fF e1 e2 hT0 ?_;refine .go (cq hM) ?_;refine rZ ?_;refine .go (cq hS) ?_;refine mD e3 ?_;refine .go (cq hcut) ?_;refine rZ ?_;refine .go (cq hS2) ?_;refine rZ ?_;refine .go (cq hE) ?_;refine rZ ?_;exact .dv
 rw [if_neg h64] at hM;have hW:rs.length*T<=64:=by omega
 have hres:=hres hW;have hmy:(wQ rs (qZ T (rs.length*T)) A F).d = .agg [.int .i64 (wQ rs (qZ T (rs.length*T)) A F).W,.sl 1 (us (wQ rs (qZ T (rs.length*T)) A F).V),.sl 1 (rr (wQ rs (qZ T (rs.length*T)) A F).R)]:=rfl;simp only at hM;rw [hmy] at hM hres;generalize wQ rs (qZ T (rs.length*T)) A F=Y at *;have hgp:=λi (hi:i<rs.length*T)=>kJ (qZ T (rs.length*T)) (i:=i) (by rw [uF]; exact hi);have hgn:=λi (hi:i<rs.length*T)=>kI T (n:=rs.length*T) hi;have hpl:(pR (qZ T (rs.length*T))).length=rs.length*T:=by rw [uW,uF]
 generalize rs.length*T=W at *;refine wZ func3 k3 λhf=>?_;refine yF ?_;refine .go (cq hA) ?_;refine yF ?_;refine .go (cq hF) ?_;refine yF ?_;refine .go (cq hC) ?_;refine fF e1 e2 hT0 ?_;refine .go (cq hM) ?_;refine rZ ?_;refine .go (cq hS) ?_;refine mD e3 ?_;refine .go (cq hcut) ?_;refine rZ ?_;refine .go (cq hS2) ?_;refine rZ ?_;refine .go (cq hE) ?_;refine mD hpl ?_
 refine xL (λi:Nat=>[(84,.int .i64 i),(83,.int .i64 W),(82,.sl 2 (pR (qZ T W))),(15,.int .u64 (ui (gY T t i))),(9,.ref 2 3 0 0),(6,.ref 1 3 0 0),(5,.int .i64 t)])
  (λ_=>⟨3,[(2,⟨3,[[.int .i64 X.W,.sl 1 (us X.V),.sl 1 (rr X.R)]]⟩),(1,⟨3,[[.int .i64 Y.W,.sl 1 (us Y.V),.sl 1 (rr Y.R)]]⟩)]⟩) (λi=>i<=W) (λi=>W-i) 0 (Nat.zero_le _) ?_ ?_
 ·(refine kQ [] [2,1] ?_; simp only [vS,zQ,simprocAttr,-ZA,exists_eq_left',ne_eq,zR,gY])
 intro i hi;refine yW mixed ?_;by_cases hil:i<W
 case neg=>
  have hd:¬ ((i:Int)<(W:Int)):=by omega
  obtain rfl:i=W:=by omega
  refine mD hd ?_;refine .go (cq hres) ?_;refine rZ ?_;refine .go (cq hE) ?_;refine yF ?_;exact .dv
 have hd:((i:Int)<(W:Int)):=by omega
 have hg:=hgp i hil;rw [hgn i hil] at hg;simp only at hg;have hsw:gY T t (i+1)= gY T t i ||| (if i % T=t then 1#64 <<< i else 0#64):=rfl
 by_cases c:i % T=t
 ·have c1:(((i % T:Nat):Int)== (t:Int))= true:=by rw [c]; simp
  rw [if_pos c] at hsw;refine v7 hd hpl hg c1 ?_;refine⟨i+1,by omega,?_,by omega⟩;rw [hsw];exact xi [] [2,1]
 ·have c1:(((i % T:Nat):Int)== (t:Int))= false:=by rw [beq_eq_false_iff_ne]; omega
  rw [if_neg c,BitVec.or_zero] at hsw;refine v7 hd hpl hg c1 ?_;refine⟨i+1,by omega,?_,by omega⟩;rw [hsw];exact xi [] [2,1]
end Go.Pd
