/- Part RA. -/
import Derived.Test.YtccobgpcnfjbhaaDoorSlST
set_option linter.unusedSectionVars false
set_option linter.unusedVariables false
set_option linter.unusedSimpArgs false
set_option linter.defProp false
set_option maxRecDepth 20000
set_option maxHeartbeats 1000000
open List renaming map_congr_left->γ,mem_map->δ,append_nil->ε,getElem?_eq_getElem->ζ,mem_of_mem_take->η,getElem?_take->θ,filter_append->κ,length_take->μ,getElem_map->ν
open Bool renaming false_and->ξ,true_and->ο
open BitVec renaming eq_of_getLsbD_eq->π,getLsbD_shiftLeft->τ
namespace Go.Pd
open Go Go.Proofs
open Ru
namespace Ru
def fA (s:BitVec 64) (w:Int):Bool:=decide (0<=w)&& s.getLsbD w.toNat
def pJ (s:BitVec 64) (l:List Int):Nat->BitVec 64
 | 0=>0#64
 | k+1=>pJ s l k ||| (if fA s (l.getD k 0) then 1#64 else 0#64) <<< k
def vW (s:BitVec 64) (l:List Int):BitVec 64:=pJ s l l.length
def sI (s:BitVec 64) (n:Nat):List Int:=((List.range n).filter λi=>s.getLsbD i).map Int.ofNat
def uS (s:BitVec 64):List Int:=sI s 64
def rowOf (r:List (BitVec 64)) (l:List Int):List (BitVec 64):=l.map λw=>vW (r.getD w.toNat 0) l
def oI (m:uP) (l:List Int):uP:=⟨l.length,m.V.map λs=>vW s l,m.R.map λr=>rowOf r l⟩
theorem mR {R t i:Nat} (hi:i<R):(yS R t).getD i (0,0)= (i,t):=by simp [yS,List.getD,hi]
theorem bL {s:BitVec 64} {l:List Int}:∀ (k i:Nat),k<=64->(pJ s l k).getLsbD i=(decide (i<k)&& fA s (l.getD i 0))
 | 0,i,_=>by simp [pJ]
 | k + 1,i,hk=>by
  unfold pJ;rw [BitVec.getLsbD_or,bL k i (by omega)]
  by_cases e:i=k
  ·subst e;rw [decide_eq_false (by omega),decide_eq_true (by omega),ξ,Bool.false_or,ο];rw [τ,decide_eq_true (show i<64 by omega),decide_eq_false (show ¬ i<i by omega),Nat.sub_self];cases fA s (l.getD i 0) <;> simp
  ·have e2:((if fA s (l.getD k 0) then 1#64 else 0#64) <<< k).getLsbD i=false:=by
    rw [τ]
    by_cases h:i<k
    ·rw [decide_eq_true h]; simp
    ·obtain⟨d,hd⟩:=Nat.exists_eq_add_of_lt (show k<i by omega);rw [show i-k=d+1 by omega];cases fA s (l.getD k 0) <;> simp
   rw [e2,Bool.or_false]
   by_cases h:i<k
   ·rw [decide_eq_true h,decide_eq_true (show i<k+1 by omega)]
   ·rw [decide_eq_false h,decide_eq_false (show ¬ i<k+1 by omega)]
def pQ (R T t:Nat):List Int:=(List.range R).map λi=>((i*T+t:Nat):Int)
theorem bS (R T t:Nat):(pQ R T t).length=R:=by simp [pQ]
theorem nv {R T t i:Nat} (h:i<R):(pQ R T t).getD i 0=((i*T+t:Nat):Int):=by simp [pQ,List.getD,h]
theorem pw {T t i:Nat} (ht:t<T):((i*T+t)/ T,(i*T+t) % T)= (i,t):=by rw [Nat.mul_comm,Nat.mul_add_div (by omega),Nat.div_eq_of_lt ht,Nat.mul_add_mod,Nat.mod_eq_of_lt ht,Nat.add_zero]
theorem yh {rs:List xG} {A F T t:Nat} (hW:rs.length*T<=64) (ht:t<T):oI (wQ rs (qZ T (rs.length*T)) A F) (pQ rs.length T t)= wQ rs (yS rs.length t) A F:=by
 have hR:rs.length<=64:=Nat.le_trans (Nat.le_mul_of_pos_right _ (by omega)) hW
 have hin:∀ i,i<rs.length->i*T+t<rs.length*T:=λi hi=>by have:(i+1)* T<=rs.length*T:=Nat.mul_le_mul_right _ hi;rw [Nat.add_mul,Nat.one_mul] at this;omega
 have hbit:∀ (s:BitVec 64) (i:Nat),(vW s (pQ rs.length T t)).getLsbD i=(decide (i<rs.length)&& s.getLsbD (i*T+t)):=λs i=>by
  unfold vW;rw [bS,bL _ _ hR]
  by_cases hi:i<rs.length
  ·rw [nv hi];unfold fA;rw [decide_eq_true (show (0:Int)<=((i*T+t:Nat):Int) by omega),Int.toNat_natCast,ο]
  ·rw [decide_eq_false hi,ξ,ξ]
 unfold oI wQ;simp only
 congr 1
 ·rw [bS,wB]
 ·unfold mE;rw [List.map_map];refine γ λf _=>?_;refine π λi _=>?_;show (vW (sM rs (qZ T (rs.length*T)) f (qZ T (rs.length*T)).length) _).getLsbD i=_;rw [hbit,uF,wB,rG _ _ hW,rG _ _ hR]
  by_cases hi:i<rs.length
  ·rw [decide_eq_true hi,decide_eq_true (hin i hi),kI T (hin i hi),pw ht,mR (t:=t) hi];rfl
  ·rw [decide_eq_false hi,ξ,ξ]
 ·unfold nX;rw [List.map_map];refine γ λa _=>?_;show rowOf (uD rs (qZ T (rs.length*T)) a) _=uD rs (yS rs.length t) a;refine List.ext_getElem (by simp [rowOf,uD,pQ,yS]) λw h1 h2=>?_;have hw:w<rs.length:=by simpa [rowOf,pQ] using h1
  have e1:(rowOf (uD rs (qZ T (rs.length*T)) a) (pQ rs.length T t))[w]=vW (gZ rs (qZ T (rs.length*T)) a (rU rs a (w,t)) (rs.length*T)) (pQ rs.length T t):=by
   simp only [rowOf,pQ,ν,List.getElem_range];congr 1;rw [Int.toNat_natCast]
   have hg:(uD rs (qZ T (rs.length*T)) a).getD (w*T+t) 0=gZ rs (qZ T (rs.length*T)) a (rU rs a (w,t)) (rs.length*T):=by
    have hl:w*T+t<(qZ T (rs.length*T)).length:=by rw [uF]; exact hin w hw
    unfold uD;rw [List.getD,List.getElem?_map,ζ hl,Option.map_some,Option.getD_some,uF];have h3:=kI T (hin w hw);rw [pw ht,List.getD,ζ hl,Option.getD_some] at h3;rw [h3]
   exact hg
  have e2:(uD rs (yS rs.length t) a)[w]=gZ rs (yS rs.length t) a (rU rs a (w,t)) rs.length:=by simp only [uD,ν,wB];congr 2;simp [yS]
  rw [e1,e2];refine π λi _=>?_;rw [hbit,rE _ _ hW,rE _ _ hR]
  by_cases hi:i<rs.length
  ·rw [decide_eq_true hi,decide_eq_true (hin i hi),kI T (hin i hi),pw ht,mR (t:=t) hi];rfl
  ·rw [decide_eq_false hi,ξ,ξ]
theorem sb {s:BitVec 64} {R T t:Nat} (hW:R*T<=64) (ht:t<T) (hs:∀ i,s.getLsbD i=(decide (i<R*T)&& decide (i % T=t))):uS s=pQ R T t:=by
 have key:∀ r,r<=R->sI s (r*T)= pQ r T t:=by
  intro r
  induction r with
  | zero=>intro _; simp [sI,pQ]
  | succ r ih=>
   intro hr;have hrT:(r+1)* T<=R*T:=Nat.mul_le_mul_right _ hr;have hrT2:(r+1)* T=r*T+T:=by rw [Nat.add_mul,Nat.one_mul]
   have step:∀ d,d<=T->sI s (r*T+d)= pQ r T t++(if t<d then [((r*T+t:Nat):Int)] else []):=by
    intro d
    induction d with
    | zero=>intro _; rw [Nat.add_zero,ih (by omega),if_neg (by omega),ε]
    | succ d ihd=>
     intro hd;have h1:=ihd (by omega);have hb:=hs (r*T+d);rw [decide_eq_true (show r*T+d<R*T by omega),ο,Nat.add_comm (r*T) d,Nat.add_mul_mod_self_right,Nat.mod_eq_of_lt (show d<T by omega),Nat.add_comm d] at hb
     have e:sI s (r*T+(d+1))= sI s (r*T+d)++ (if s.getLsbD (r*T+d) then [((r*T+d:Nat):Int)] else []):=by unfold sI;rw [<- Nat.add_assoc,List.range_succ,κ,List.map_append];congr 1;cases h:s.getLsbD (r*T+d) <;> simp [h]
     rw [e,h1,hb]
     by_cases c:d=t
     ·subst c;rw [if_neg (by omega),if_pos (by simp),if_pos (by omega),ε]
     ·have e0:(if decide (d=t)= true then [((r*T+d:Nat):Int)] else [])= []:=by rw [decide_eq_false c]; rfl
      rw [e0,ε]
      by_cases c2:t<d
      ·rw [if_pos c2,if_pos (by omega)]
      ·rw [if_neg c2,if_neg (by omega)]
   rw [hrT2,step T (Nat.le_refl _),if_pos ht];unfold pQ;rw [List.range_succ,List.map_append];rfl
 have h2:uS s=sI s (R*T):=by
  unfold uS sI;obtain⟨m,hm⟩:=Nat.exists_eq_add_of_le hW;have h64:List.range 64=List.range (R*T+m):=by rw [<- hm]
  rw [h64,List.range_add,κ]
  have:((List.range m).map λx=>R*T+x).filter (λi=>s.getLsbD i)= []:=by rw [List.filter_eq_nil_iff];intro x hx;obtain⟨y,_,rfl⟩:=δ.1 hx;rw [hs,decide_eq_false (by omega)];simp
  rw [this,ε]
 rw [h2,key R (Nat.le_refl _)]
def pT (rs:List xG) (n:Nat):List xG:=rs.map λr=>⟨r.loc.take n,r.sK.take n⟩
theorem mM (rs:List xG) (n:Nat):(pT rs n).length=rs.length:=by simp [pT]
theorem iV {rs:List xG} {n i:Nat} (h:i<rs.length):(pT rs n).getD i vH=⟨(rs.getD i vH).loc.take n,(rs.getD i vH).sK.take n⟩:=by simp [pT,List.getD,h]
theorem fx {rs:List xG} {n i t:Nat} (h:i<rs.length) (ht:t<n):eX (pT rs n) (i,t)= eX rs (i,t):=by unfold eX;simp only [iV h];simp [List.getD,θ,ht]
theorem ux {rs:List xG} {n a i t:Nat} (h:i<rs.length) (ht:t<n):rU (pT rs n) a (i,t)= rU rs a (i,t):=by unfold rU;simp only [iV h];simp [List.getD,θ,ht]
theorem rh {rs:List xG} {A F t n:Nat} (hR:rs.length<=64) (ht:t<n):wQ (pT rs n) (yS rs.length t) A F=wQ rs (yS rs.length t) A F:=by
 unfold wQ
 congr 1
 ·unfold mE;refine γ λf _=>?_;refine π λi _=>?_;rw [wB,rG _ _ hR,rG _ _ hR]
  by_cases hi:i<rs.length
  ·rw [mR (t:=t) hi,fx hi ht]
  ·rw [decide_eq_false hi,ξ,ξ]
 ·unfold nX;refine γ λa _=>?_;unfold uD;refine γ λp hp=>?_;simp only [yS,δ,List.mem_range] at hp;obtain⟨w,hw,rfl⟩:=hp;rw [ux hw ht];refine π λi _=>?_;rw [wB,rE _ _ hR,rE _ _ hR]
  by_cases hi:i<rs.length
  ·rw [mR (t:=t) hi,ux hi ht]
  ·rw [decide_eq_false hi,ξ,ξ]
theorem ah {rs:List xG} {A F T n:Nat} (ok:ew rs A F T) (h1:1<=n) (hn:n<=T):ew (pT rs n) A F n:=by
 have hT:=ok.hT
 refine⟨ok.hA,ok.hF,⟨h1,by omega⟩,by rw [mM]; exact ok.hR,?_,?_,?_,?_,?_⟩
 ·rw [mM];exact Nat.le_trans (Nat.mul_le_mul_left _ hn) ok.hP
 ·intro r hr;simp only [pT,δ] at hr;obtain⟨q,hq,rfl⟩:=hr;have:=ok.loc q hq;simp only [μ];omega
 ·intro r hr;simp only [pT,δ] at hr;obtain⟨q,hq,rfl⟩:=hr;have:=ok.sK q hq;simp only [μ];omega
 ·intro r hr l hl;simp only [pT,δ] at hr;obtain⟨q,hq,rfl⟩:=hr;exact ok.row q hq l (η hl)
 ·intro r hr f hf;simp only [pT,δ] at hr;obtain⟨q,hq,rfl⟩:=hr;exact ok.val q hq f (η hf)
end Ru
end Go.Pd
