/- Part S9. -/
import Derived.Test.YtccobgpcnfjbhaaDoorSlS8
set_option linter.unusedSectionVars false
set_option linter.unusedVariables false
set_option linter.unusedSimpArgs false
set_option linter.defProp false
set_option maxRecDepth 20000
set_option maxHeartbeats 1000000
open Go.Proofs.Tryd
open List renaming mem_map->γ
open BitVec renaming getLsbD_zero->δ,getLsbD_or->ε
namespace Go.Pd
open Go Go.Proofs
open BitVec renaming isValue -> ZA
open Ru
namespace Ru
def tE : uP:=⟨0,[],[]⟩
def wQ (rs:List xG) (l:List (Nat × Nat)) (A F:Nat):uP:=⟨(l.length:Int),mE rs l F,nX rs l A⟩
def pI (s:vT):uP × List (Nat × Nat) × Int:= if uA s≠0 then(tE,[],uA s) else if 64<(pZ s).length then(tE,[],8) else(wQ s.rs (pZ s) s.ag.toNat s.fa.toNat,pZ s,0)
def yS (R t:Nat):List (Nat × Nat):=(List.range R).map λr=>(r,t)
theorem wB (R t:Nat):(yS R t).length=R:=by simp [yS]
theorem yi (R t:Nat):yS (R+1) t=yS R t ++ [(R,t)]:=by unfold yS; rw [List.range_succ,List.map_append]; rfl
theorem nw {rs:List xG} {T t R:Nat} (ht:t<T) (hR:R<=rs.length):Yn rs T (yS R t):=λp hp=>by simp only [yS,γ,List.mem_range] at hp;obtain⟨i,hi,rfl⟩:=hp;exact⟨by omega,ht⟩
def qS (s:vT) (t:Int):uP × Int:= if uA s≠0 then(tE,uA s) else if t<0\/s.ln<=t then(tE,2) else(wQ s.rs (yS s.rs.length t.toNat) s.ag.toNat s.fa.toNat,0)
theorem rD {k:Nat} (hk:k<64) (i:Nat):(1#64 <<< k).getLsbD i=decide (i=k):=by
 by_cases hi:i<64
 ·have:∀ k,k<64->∀ i,i<64->(1#64 <<< k).getLsbD i=decide (i=k):=by decide
  exact this k hk i hi
 ·rw [BitVec.getLsbD_of_ge _ _ (by omega)];exact(decide_eq_false (by omega)).symm
theorem rG {rs:List xG} {l:List (Nat × Nat)} {f:Nat}:∀ (k i:Nat),k<=64->(sM rs l f k).getLsbD i=(decide (i<k)&& (eX rs (l.getD i (0,0))).getLsbD f)
 | 0,i,_=>by simp [sM]
 | k+1,i,hk=>by
  unfold sM;rw [ε,rG k i (by omega)]
  by_cases e:i=k
  ·subst e
   cases hb:(eX rs (l.getD i (0,0))).getLsbD f
   ·simp
   ·rw [if_pos rfl,rD (by omega)];simp
  ·have h2:(if (eX rs (l.getD k (0,0))).getLsbD f=true then 1#64 <<< k else 0#64).getLsbD i=false:=by
    split
    ·rw [rD (by omega)]; exact decide_eq_false e
    ·exact δ
   rw [h2,Bool.or_false];congr 1;rw [Bool.eq_iff_iff,decide_eq_true_iff,decide_eq_true_iff]; omega
theorem rE {rs:List xG} {l:List (Nat × Nat)} {a:Nat} {x:Int}:∀ (k i:Nat),k<=64->(gZ rs l a x k).getLsbD i=(decide (i<k)&& decide (rU rs a (l.getD i (0,0))= x))
 | 0,i,_=>by simp [gZ]
 | k+1,i,hk=>by
  unfold gZ;rw [ε,rE k i (by omega)]
  by_cases e:i=k
  ·subst e
   by_cases hb:rU rs a (l.getD i (0,0))= x
   ·rw [if_pos hb,rD (by omega),decide_eq_true hb];simp
   ·rw [if_neg hb,decide_eq_false hb];simp
  ·have h2:(if rU rs a (l.getD k (0,0))= x then 1#64 <<< k else 0#64).getLsbD i=false:=by
    split
    ·rw [rD (by omega)]; exact decide_eq_false e
    ·exact δ
   rw [h2,Bool.or_false];congr 1;rw [Bool.eq_iff_iff,decide_eq_true_iff,decide_eq_true_iff]; omega
theorem vf {rs:List xG} {A F T:Nat} (ok:ew rs A F T) {l:List (Nat × Nat)} (h1:1<=l.length) (h2:l.length<=64):pg (wQ rs l A F) l.length where
 w:=rfl
 hW:=⟨h1,h2⟩
 hV:=by have:=ok.hF; simp [wQ,mE]; exact this
 hR:=by have:=ok.hA; simp [wQ,nX]; exact this
 row:=λr hr=>by simp only [wQ,nX,γ] at hr;obtain⟨a,_,rfl⟩:=hr;simp [uD]
 val:=λx hx=>by simp only [wQ,mE,γ] at hx;obtain⟨f,_,rfl⟩:=hx;refine eH h2 λi hi=>?_;rw [rG _ _ h2,Bool.and_eq_true] at hi;exact of_decide_eq_true hi.1
 rel:=λr hr x hx=>by simp only [wQ,nX,γ] at hr;obtain⟨a,_,rfl⟩:=hr;simp only [uD,γ] at hx;obtain⟨p,_,rfl⟩:=hx;refine eH h2 λi hi=>?_;rw [rE _ _ h2,Bool.and_eq_true] at hi;exact of_decide_eq_true hi.1
end Ru
theorem fj (s:vT):wP prog 7 [s.d] (.yN [(pI s).1.d,.sl 2 (pR (pI s).2.1),.int .i64 (pI s).2.2]):=by
 have hC:=kE s;have hP:=jy s;have hD:s.d = .agg [.int .i64 s.ag,.int .i64 s.fa,.int .i64 s.ln,.sl 2 (yL s.rs)]:=rfl;by_cases hz:uA s=0
 case neg=>
  have e:(uA s != 0)= true:=by simpa using hz
  rw [show pI s=(tE,[],uA s) from if_pos hz];rw [hD] at hC ⊢;refine wZ func7 k7 λhf=>?_;refine rZ ?_;refine .go (cq hC) ?_;refine wL e ?_;exact .drop (by simp) (by simp [vw,pY,pR,tE,uP.d,us,rr])
 obtain⟨A,F,T,rs,rfl,ok⟩:=eD hz;obtain⟨T1,T16⟩:=ok.hT;obtain⟨R1,R64⟩:=ok.hR;have ep:pZ ⟨A,F,T,rs⟩= qZ T (rs.length*T):=by unfold pZ; rw [if_neg (by simpa using hz)]; rfl
 have hin:Yn rs T (pZ ⟨A,F,T,rs⟩):=by rw [ep]; exact ba T1 (Nat.le_refl _)
 have hm:pI ⟨A,F,T,rs⟩= if 64<(pZ ⟨A,F,T,rs⟩).length then(tE,[],8) else(wQ rs (pZ ⟨A,F,T,rs⟩) A F,pZ ⟨A,F,T,rs⟩,0):=by unfold pI; rw [if_neg (by simpa using hz)]; rfl
 rw [hm];rw [hz] at hC;have hpt:=λh=>bH ok (l:=pZ ⟨A,F,T,rs⟩) h hin;generalize pZ ⟨A,F,T,rs⟩= l at hP hpt;rw [hD] at hC hP ⊢;simp only at hC hP ⊢
 by_cases h64:64<l.length
 ·have e:(64:Int)<(l.length:Int):=by omega
  rw [if_pos h64];refine wZ func7 k7 λhf=>?_;refine rZ ?_;refine .go (cq hC) ?_;refine yF ?_;refine .go (cq hP) ?_;refine rW uW e ?_;exact .drop (by simp) (by simp [vw,pY,pR,tE,uP.d,us,rr])
 ·have e:¬ (64:Int)<(l.length:Int):=by omega
  have hpt:=hpt (by omega);rw [if_neg h64];unfold sD jr at hpt;refine wZ func7 k7 λhf=>?_;refine rZ ?_;refine .go (cq hC) ?_;refine yF ?_;refine .go (cq hP) ?_;refine rW uW e ?_;refine .go (cr hpt) ?_;refine yF ?_;exact .drop (by simp) (by simp [vw,pY,uP.d,wQ])
end Go.Pd
