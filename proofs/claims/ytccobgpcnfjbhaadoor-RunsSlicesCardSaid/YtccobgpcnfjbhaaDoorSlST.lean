/- Part ST. -/
import Derived.Test.YtccobgpcnfjbhaaDoorSlS9
set_option linter.unusedSectionVars false
set_option linter.unusedVariables false
set_option linter.unusedSimpArgs false
set_option linter.defProp false
set_option maxRecDepth 20000
set_option maxHeartbeats 1000000
open Go.Proofs.Tryd
namespace Go.Pd
open Go Go.Proofs
open BitVec renaming isValue -> ZA
open Ru
theorem ur (s:vT) (t:Int):wP prog 8 [s.d,.int .i64 t] (.yN [(qS s t).1.d,.int .i64 (qS s t).2]):=by
 have hC:=kE s;have hD:s.d = .agg [.int .i64 s.ag,.int .i64 s.fa,.int .i64 s.ln,.sl 2 (yL s.rs)]:=rfl;by_cases hz:uA s=0
 case neg=>
  have e:(uA s != 0)= true:=by simpa using hz
  rw [show qS s t=(tE,uA s) from if_pos hz];rw [hD] at hC ⊢;refine wZ func8 k8 λhf=>?_;simp only [simprocAttr,-ZA,↓zU,↓zD,zV,zT,zW]
  (repeat refine sd ?_)
  refine .go (cq hC) ?_;refine wL e ?_;exact .drop (by simp) (by simp [vw,pY,tE,uP.d,us,rr])
 obtain⟨A,F,T,rs,rfl,ok⟩:=eD hz;obtain⟨T1,T16⟩:=ok.hT;obtain⟨R1,R64⟩:=ok.hR
 have hm:qS ⟨A,F,T,rs⟩ t=if t<0\/(T:Int)<=t then(tE,2) else(wQ rs (yS rs.length t.toNat) A F,0):=by unfold qS; rw [if_neg (by simpa using hz)]; rfl
 rw [hm];rw [hz] at hC;rw [hD] at hC ⊢;simp only at hC ⊢
 by_cases t1:t<0
 ·rw [if_pos (.inl t1)];refine wZ func8 k8 λhf=>?_;simp only [simprocAttr,-ZA,↓zU,↓zD,zV,zT,zW]
  (repeat refine sd ?_)
  refine .go (cq hC) ?_;refine wL t1 ?_;exact .drop (by simp) (by simp [vw,pY,tE,uP.d,us,rr])
 by_cases t2:(T:Int)<=t
 ·rw [if_pos (.inr t2)];refine wZ func8 k8 λhf=>?_;simp only [simprocAttr,-ZA,↓zU,↓zD,zV,zT,zW]
  (repeat refine sd ?_)
  refine .go (cq hC) ?_;refine rW t1 t2 ?_;exact .drop (by simp) (by simp [vw,pY,tE,uP.d,us,rr])
 rw [if_neg (by omega)];obtain⟨t,rfl⟩:=Int.eq_ofNat_of_zero_le (show 0<=t by omega);rw [Int.toNat_natCast];have htT:t<T:=by omega
 have hpt:=bH ok (l:=yS rs.length t) (by rw [wB]; omega) (nw htT (Nat.le_refl _));have hck:=iO (vf ok (l:=yS rs.length t) (by rw [wB]; omega) (by rw [wB]; omega));unfold sD jr at hpt;unfold uP.d wQ at hck;refine wZ func8 k8 λhf=>?_;simp only [simprocAttr,-ZA,↓zU,↓zD,zV,zT,zW]
 (repeat refine sd ?_)
 refine .go (cq hC) ?_;refine qi t1 t2 xV ?_
 refine oP (λr:Nat=>[(29,.int .i64 r),(28,.int .i64 rs.length),(7,xI 2 2 (pR (yS r t))),(4,.ref 1 3 0 0),(2,.ref 0 4 0 0),(1,.int .i64 t)])
  (λr=>⟨3,xN 2 2 (pR (yS r t))++ [(1,⟨3,[[.int .i64 0,.xY,.xY]]⟩),(0,⟨4,[[.int .i64 A,.int .i64 F,.int .i64 T,.sl 2 (yL rs)]]⟩)]⟩)
  (λr=>r<=rs.length) (λr=>rs.length-r) 0 (Nat.zero_le _) ?_ ?_
 ·(refine kQ [] [1,0] ?_; simp only [vS,zQ,simprocAttr,-ZA,exists_eq_left',ne_eq,zR,yS,List.range_zero,List.map_nil,vk,wM,wN,List.nil_append])
 intro r hr;refine yW mixed ?_
 by_cases hrl:r<rs.length
 ·have hd:((r:Int)<(rs.length:Int)):=by omega
  have hS:=yi r t;have hln:=wB r t;generalize yS r t=l at hS hln;refine fF hd uW hln ?_;refine⟨r+1,by omega,?_,by omega⟩;rw [hS,bK];exact qe [(2,3)] [2,1,0] rA
 have hd:¬ ((r:Int)<(rs.length:Int)):=by omega
 rw [show r=rs.length by omega];rw [show r=rs.length by omega] at hd;generalize yS rs.length t=l at hpt hck ⊢;refine wL hd ?_
 refine .go [(7,.sl 2 (pR l)),(4,.ref 1 3 0 0),(2,.ref 0 4 0 0),(1,.int .i64 t)] ⟨2,[(1,⟨3,[[.int .i64 0,.xY,.xY]]⟩),(0,⟨4,[[.int .i64 A,.int .i64 F,.int .i64 T,.sl 2 (yL rs)]]⟩)]⟩ ?_ ?_
 ·exact qe [] [1,0] rA
 refine rZ ?_;refine .go (cr hpt) ?_;refine yF ?_;refine .go (cr hck) ?_;refine yF ?_;exact .drop (by simp) (by simp [vw,pY,uP.d,wQ])
end Go.Pd
