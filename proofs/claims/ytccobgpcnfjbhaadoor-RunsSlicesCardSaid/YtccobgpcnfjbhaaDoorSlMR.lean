/- Part MR. -/
import Derived.Test.YtccobgpcnfjbhaaDoorSlRA
import Derived.Test.YtccobgpcnfjbhaaDoorSlS7
import Derived.Test.YtccobgpcnfjbhaaDoorSlTZ
set_option linter.unusedSectionVars false
set_option linter.unusedVariables false
set_option linter.unusedSimpArgs false
set_option linter.defProp false
set_option maxRecDepth 20000
set_option maxHeartbeats 1000000
open Go.Proofs.Tryd
open List renaming nil_append->γ,take_length->δ,map_append->ε,take_zero->ζ,mem_range->η,map_nil->θ,filter_eq_nil_iff->κ,length_filter_le->μ,length_append->ν,filter_append->ξ,length_cons->ο
open BitVec renaming getLsbD->π,toNat_sub_of_le->τ,eq_of_toNat_eq->υ
open Nat renaming zero_le->χ,testBit_two_pow_mul_add->ψ
namespace Go.Pd
open Go Go.Proofs
open BitVec renaming isValue -> ZA
open Ru
theorem cW {p p':Nat->Bool} {t:Nat} (h0:∀ i,i<t->p i=false) (h1:p t=true) (h2:∀ i,p' i=(p i&&i != t)):∀ n,t<n->(List.range n).filter p=t :: (List.range n).filter p':=by
 have z:∀ n,n<=t->(List.range n).filter p = []/\(List.range n).filter p' = []:=by
  intro n hn
  constructor
  ·rw [κ]; intro i hi; rw [η] at hi; rw [h0 i (by omega)]; simp
  ·rw [κ]; intro i hi; rw [η] at hi; rw [h2,h0 i (by omega)]; simp
 intro n
 induction n with
 | zero=>intro h; omega
 | succ n ih=>
  intro h;rw [List.range_succ,ξ,ξ]
  by_cases e:n=t
  ·subst e;rw [(z n (Nat.le_refl _)).1,(z n (Nat.le_refl _)).2];simp [h1,h2]
  ·rw [ih (by omega)];have:p' n=p n:=by rw [h2]; simp [e]
   simp [List.filter_cons,this]
theorem nz {s:BitVec 64} (h:s≠0#64):tz s<64/\s.getLsbD (tz s)= true/\(∀ i,i<tz s->s.getLsbD i=false)/\ ∀ i,(s &&& (s-1#64)).getLsbD i=(s.getLsbD i&&i != tz s):=by
 have h0:s.toNat≠0:=λe=>h (υ (by rw [e]; rfl));have hs:=s.isLt;obtain⟨m,hm,ht⟩:=Lib.ctzFrom_spec 64 s.toNat (by omega) hs;have et:tz s=Lib.ctzFrom 64 s.toNat:=by unfold tz Lib.ctz; rw [if_neg h0]
 rw [<- et] at hm ht;have hp:0<2 ^ tz s:=Nat.two_pow_pos _
 have e1:(s-1#64).toNat=2 ^ (tz s)* (2*m)+ (2 ^ tz s-1):=by rw [τ (by rw [BitVec.le_def]; show 1<=s.toNat; omega)];show s.toNat-1=_;rw [hm,Nat.mul_add,Nat.mul_one]; omega
 have e2:s.toNat=2 ^ (tz s)* (2*m+1)+ 0:=by omega
 have b1:∀ i,s.toNat.testBit i=if i<tz s then false else(2*m+1).testBit (i-tz s):=by intro i;rw [e2,ψ _ hp];simp
 have b2:∀ i,(s-1#64).toNat.testBit i=if i<tz s then true else(2*m).testBit (i-tz s):=by
  intro i;rw [e1,ψ _ (by omega)]
  split
  ·rw [Nat.testBit_two_pow_sub_one]; simpa
  ·rfl
 refine⟨ht,?_,?_,?_⟩
 ·unfold π; rw [b1,if_neg (by omega),Nat.sub_self]; simp
 ·intro i hi; unfold π; rw [b1,if_pos hi]
 ·intro i;rw [BitVec.getLsbD_and];unfold π;rw [b1,b2]
  by_cases hi:i<tz s
  ·simp [hi]
  ·rw [if_neg hi,if_neg hi]
   by_cases e:i=tz s
   ·subst e; simp
   ·have e3:i-tz s=(i-tz s-1)+ 1:=by omega
    rw [e3,Nat.testBit_succ,Nat.testBit_succ];have f1:(2*m+1)/ 2=m:=by omega
    have f2:2*m / 2=m:=by omega
    have f3:(i != tz s)= true:=by simpa using e
    rw [f1,f2,f3,Bool.and_true,Bool.and_self]
theorem ry {s:BitVec 64} (h:s≠0#64):uS s=(tz s:Int) :: uS (s &&& (s-1#64)):=by obtain⟨h1,h2,h3,h4⟩:=nz h;unfold uS sI;rw [cW h3 h2 h4 64 h1];rfl
theorem sc : uS 0#64 = []:=by simp [uS,sI]
theorem uv {s:BitVec 64} (h:s≠0#64):(s &&& (s-1#64)).toNat<s.toNat:=by
 have h0:s.toNat≠0:=λe=>h (υ (by rw [e]; rfl));rw [BitVec.toNat_and]
 have:(s-1#64).toNat=s.toNat-1:=by rw [τ (by rw [BitVec.le_def]; show 1<=s.toNat; omega)]; rfl
 have:=Nat.and_le_right (n:=s.toNat) (m:=(s-1#64).toNat);omega
theorem cZ (s:BitVec 64):wP prog 26 [.int .u64 (ui s)] (.sl 1 (rows .i64 (uS s))):=by
 refine wZ func26 YM λhf=>?_;refine yF ?_
 refine xL (λp:BitVec 64 × List Int=>[(3,xI 0 1 (rows .i64 p.2)),(0,.int .u64 (ui p.1))]) (λp=>⟨1,xN 0 1 (rows .i64 p.2)⟩) (λp=>uS s=p.2++uS p.1) (λp=>p.1.toNat) (s,[]) rfl ?_ ?_
 ·exact zA.view (λk=>k) (by simp) (by simp) (by simp [cS,vw,Fr.get,rows,xI]) (by simp [stays,rows,xN]) (by simp [sO,rows,xN])
 intro ⟨t,l⟩ hi;simp only at hi;refine yW mixed ?_
 by_cases h:t=0#64
 ·have hd:(t != 0#64)= false:=by simp [h]
  refine wL hd ?_;rw [h,sc,List.append_nil] at hi;rw [hi];exact .drop (by simp) (ri (by simp) (uL _ _))
 ·have hd:(t != 0#64)= true:=by simp [h]
  have hlen:(uS s).length<=64:=by unfold uS sI;rw [List.length_map];exact Nat.le_trans (μ _ _) (by simp)
  rw [hi,ν] at hlen;have hi':uS s=(l ++ [(tz t:Int)])++ uS (t &&& (t-1#64)):=by rw [hi,ry h]; simp
  refine wL hd ?_;refine .go (cq (jc t)) ?_
  cases l with
  | nil=> refine yF ?_;refine⟨rfl,(t &&& (t-1#64),[(tz t:Int)]),hi',?_,uv h⟩;refine zA.grow (n:=0) (by simp) (uL _ [(tz t:Int)]) ?_;simp only [cS,vw,Fr.get,↓reduceIte,reduceIte,Nat.reduceEqDiff,and_true,true_and,D.int.injEq,γ,oO,mP,nN,List.length_nil,Nat.zero_add,Nat.zero_lt_succ]
  | cons a r=> rw [ο] at hlen;refine yF ?_;refine⟨rfl,by omega,by omega,(t &&& (t-1#64),a :: r ++ [(tz t:Int)]),hi',?_,uv h⟩;refine zA.grow (n:=0) (by simp) (uL _ (a :: r ++ [(tz t:Int)])) ?_;simp only [cS,vw,Fr.get,↓reduceIte,reduceIte,Nat.reduceEqDiff,and_true,true_and,D.int.injEq,List.cons_append,oO,mP,nN,List.length_nil,Nat.zero_add,Nat.zero_lt_succ,wF,ν,ο]
theorem fV (s:BitVec 64) (l:List Int) (hl:∀ x ∈ l,0<=x):wP prog 42 [.int .u64 (ui s),.sl 1 (rows .i64 l)] (.int .u64 (ui (vW s l))):=by
 refine wZ func42 YW λhf=>?_;simp only [D.vU,D.fact,wF] at hf;have hlen:=hf.2.1.1;refine yF ?_
 refine xL (λk:Nat=>[(10,.int .i64 k),(9,.int .i64 l.length),(8,.sl 1 (rows .i64 l)),(5,.int .u64 (ui (pJ s l k))),(0,.int .u64 (ui s))]) (λ_=>⟨0,[]⟩) (λk=>k<=l.length) (λk=>l.length-k) 0 (χ _) ?_ ?_
 ·(refine zA.same ?_; simp [nD,Fr.get,pJ])
 intro k hk;refine yW mixed ?_
 by_cases h:k<l.length
 ·have hd:((k:Int)<(l.length:Int)):=by omega
  have h0:0<=l.getD k 0:=hl _ (by simp [List.getD,h]);simp only [simprocAttr,-ZA,↓zU,↓zD,zV,zT,zW,hd,jH _ _ h];refine⟨by omega,h0,by omega,k+1,by omega,?_,by omega⟩
  (refine zA.same ?_; simp only [nD,Fr.get,simprocAttr,-ZA,zS,pJ])
  refine⟨wrap_i64 (by omega),?_⟩;rw [aT];have:Ru.fA s (l.getD k 0)= s.getLsbD (l.getD k 0).toNat:=by unfold Ru.fA; rw [decide_eq_true h0,Bool.true_and]
  rw [this]
 ·have hd:¬ ((k:Int)<(l.length:Int)):=by omega
  have hk':k=l.length:=by omega
  subst hk';refine wL hd ?_;exact .same
theorem cT (m:uP) (l:List Int) (h0:∀ x ∈ l,0<=x) (h1:∀ r ∈ m.R,∀ x ∈ l,x<r.length) (hV:m.V.length<=1000) (hR:m.R.length<=1000) (hl:l.length<=1000) :
  wP prog 27 [m.d,.sl 1 (rows .i64 l)] (oI m l).d:=by
 refine wZ func27 YN λhf=>?_;simp only [simprocAttr,-ZA,↓zU,↓zD,zV,zT,zW,uP.d]
 refine xL (λk:Nat=>[(19,.int .i64 k),(18,.int .i64 m.V.length),(17,.sl 1 (us m.V)),(5,.ref 2 3 0 0),(4,.ref 1 3 0 0),(2,.ref 0 3 0 0),(1,.sl 1 (rows .i64 l))])
  (λk=>⟨4,xN 3 1 (us ((m.V.take k).map λs=>vW s l))++ [(2,⟨3,[[.int .i64 l.length,xI 3 1 (us ((m.V.take k).map λs=>vW s l)),.xY]]⟩),(1,⟨3,[[.int .i64 0,.xY,.xY]]⟩),(0,⟨3,[[.int .i64 m.W,.sl 1 (us m.V),.sl 1 (rr m.R)]]⟩)]⟩)
  (λk=>k<=m.V.length) (λk=>m.V.length-k) 0 (χ _) ?_ ?_
 ·(refine kQ [] [3,2,1,0] ?_; simp only [vS,zQ,simprocAttr,-ZA,exists_eq_left',ne_eq,zR,ζ,θ,wN,wM,γ])
 ·intro k hk;refine yW mixed ?_
  by_cases h:k<m.V.length
  ·have hd:((k:Int)<(m.V.length:Int)):=by omega
   have hw:=sH (k:=k) (by omega)
   have ht:(m.V.take (k+1)).map (λs=>vW s l)= (m.V.take k).map (λs=>vW s l)++ [vW (m.V.getD k 0) l]:=by rw [tJ (d:=0) h,ε]; rfl
   have hlen:((m.V.take k).map λs=>vW s l).length=k:=by simp; omega
   generalize hv:(m.V.take k).map (λs=>vW s l)= v at *;simp only [simprocAttr,-ZA,↓zU,↓zD,zV,zT,zW,hd,hw,pL _ h];refine⟨by omega,.go (xS.tP (fV (m.V.getD k 0) l h0) rfl) ?_⟩;refine rW hw hlen ?_;refine⟨rfl,by omega,by omega,k+1,by omega,?_,by omega⟩;rw [ht];exact xi [(3,4)] [3,2,1,0]
  ·have hd:¬ ((k:Int)<(m.V.length:Int)):=by omega
   have hk':k=m.V.length:=by omega
   subst hk';rw [δ];generalize hv:m.V.map (λs=>vW s l)= v;refine wL hd ?_
   refine xL (λk:Nat=>[(35,.int .i64 k),(34,.int .i64 m.R.length),(33,.sl 1 (rr m.R)),(5,.ref 2 3 0 0),(4,.ref 1 3 0 0),(1,.sl 1 (rows .i64 l))])
    (λk=>⟨5,xN 4 1 (rr ((m.R.take k).map λr=>rowOf r l))++ (xN 3 1 (us v)++ [(2,⟨3,[[.int .i64 l.length,xI 3 1 (us v),xI 4 1 (rr ((m.R.take k).map λr=>rowOf r l))]]⟩),(1,⟨3,[[.int .i64 0,.xY,.xY]]⟩)])⟩)
    (λk=>k<=m.R.length) (λk=>m.R.length-k) 0 (χ _) ?_ ?_
   ·(refine kQ [] [4,3,2,1] ?_; simp only [vS,zQ,simprocAttr,-ZA,exists_eq_left',ne_eq,zR,ζ,θ,wN,wM,γ])
    done
   ·intro k hk;refine yW mixed ?_
    by_cases h:k<m.R.length
    ·have hd:((k:Int)<(m.R.length:Int)):=by omega
     have hw:=sH (k:=k) (by omega)
     have ht:(m.R.take (k+1)).map (λr=>rowOf r l)= (m.R.take k).map (λr=>rowOf r l)++ [rowOf (m.R.getD k []) l]:=by rw [tJ (d:=[]) h,ε]; rfl
     have hlen:((m.R.take k).map λr=>rowOf r l).length=k:=by simp; omega
     generalize hv:(m.R.take k).map (λr=>rowOf r l)= u at *;have hr:m.R.getD k [] ∈ m.R:=by simp [List.getD,h]
     generalize hrow:m.R.getD k []=r at *;simp only [simprocAttr,-ZA,↓zU,↓zD,zV,zT,zW,hd,hw,jV _ h,hrow];refine⟨by omega,?_⟩
     refine oP (λi:Nat=>[(41,.int .i64 i),(40,.int .i64 l.length),(39,.sl 1 (rows .i64 l)),(10,xI 5 1 (us ((l.take i).map λw=>vW (r.getD w.toNat 0) l))),(9,.sl 1 (us r)),(35,.int .i64 k),(34,.int .i64 m.R.length),(33,.sl 1 (rr m.R)),(5,.ref 2 3 0 0),(4,.ref 1 3 0 0),(1,.sl 1 (rows .i64 l))])
      (λi=>⟨6,xN 5 1 (us ((l.take i).map λw=>vW (r.getD w.toNat 0) l))++ (xN 4 1 (rr u)++ (xN 3 1 (us v)++ [(2,⟨3,[[.int .i64 l.length,xI 3 1 (us v),xI 4 1 (rr u)]]⟩),(1,⟨3,[[.int .i64 0,.xY,.xY]]⟩)]))⟩)
      (λi=>i<=l.length) (λi=>l.length-i) 0 (χ _) ?_ ?_
     ·(refine kQ [] [5,4,3,2,1] ?_; simp only [vS,zQ,simprocAttr,-ZA,exists_eq_left',ne_eq,zR,ζ,θ,wN,wM,γ])
     intro i hi;refine yW mixed ?_
     by_cases h2:i<l.length
     ·have hd2:((i:Int)<(l.length:Int)):=by omega
      have hw2:=sH (k:=i) (by omega)
      have ht2:(l.take (i+1)).map (λw=>vW (r.getD w.toNat 0) l)= (l.take i).map (λw=>vW (r.getD w.toNat 0) l)++ [vW (r.getD (l.getD i 0).toNat 0) l]:=by rw [tJ (d:=0) h2,ε]; rfl
      have hlen2:((l.take i).map λw=>vW (r.getD w.toNat 0) l).length=i:=by simp; omega
      generalize (l.take i).map (λw=>vW (r.getD w.toNat 0) l)= z at *;have hx:l.getD i 0 ∈ l:=by simp [List.getD,h2]
      generalize hxe:l.getD i 0=x at *;have hx0:=h0 x hx;have hx1:=h1 r hr x hx;have hx2:x.toNat<r.length:=by omega
      simp only [simprocAttr,-ZA,↓zU,↓zD,zV,zT,zW,hd2,hw2,jH _ _ h2,hxe,pL _ hx2];refine⟨by omega,hx0,by omega,.go (xS.tP (fV (r.getD x.toNat 0) l h0) rfl) ?_⟩;refine rW hw2 hlen2 ?_;refine⟨rfl,by omega,by omega,i+1,by omega,?_,by omega⟩;rw [ht2];exact xi [(5,6)] [5,4,3,2,1]
     ·have hd2:¬ ((i:Int)<(l.length:Int)):=by omega
      have hi':i=l.length:=by omega
      subst hi';rw [δ];refine wL hd2 ?_
      refine .go [(10,.sl 1 (us (rowOf r l))),(35,.int .i64 k),(34,.int .i64 m.R.length),(33,.sl 1 (rr m.R)),(5,.ref 2 3 0 0),(4,.ref 1 3 0 0),(1,.sl 1 (rows .i64 l))]
       ⟨6,xN 4 1 (rr u)++ (xN 3 1 (us v)++ [(2,⟨3,[[.int .i64 l.length,xI 3 1 (us v),xI 4 1 (rr u)]]⟩),(1,⟨3,[[.int .i64 0,.xY,.xY]]⟩)])⟩ ?_ ?_
      ·(refine kQ [] [4,3,2,1] ?_; simp only [vS,zQ,simprocAttr,-ZA,exists_eq_left',ne_eq,zR,rowOf])
      refine rW hw hlen ?_;refine⟨rfl,by omega,by omega,k+1,by omega,?_,by omega⟩;rw [ht];exact xi [(4,6)] [4,3,2,1]
    ·have hd:¬ ((k:Int)<(m.R.length:Int)):=by omega
     have hk':k=m.R.length:=by omega
     subst hk';rw [δ];generalize hu:m.R.map (λr=>rowOf r l)= u;refine wL hd ?_;refine .drop (by simp) ?_;simp only [vS,zQ,simprocAttr,-ZA,exists_eq_left',ne_eq,zR,oI,uP.d,hv,hu,ug,u5]
theorem la (s:BitVec 64):(uS s).length<=64:=by unfold uS sI;rw [List.length_map];exact Nat.le_trans (μ _ _) (by simp)
theorem lb {s:BitVec 64} {x:Int}:x ∈ uS s ↔ ∃ i:Nat,i<64/\s.getLsbD i=true/\x=i:=by
 simp only [uS,sI,List.mem_map,List.mem_filter,η]
 constructor
 ·rintro ⟨i,⟨h1,h2⟩,rfl⟩; exact⟨i,h1,h2,rfl⟩
 ·rintro ⟨i,h1,h2,rfl⟩; exact⟨i,⟨h1,h2⟩,rfl⟩
theorem gV {m:uP} {W:Nat} (ok:pg m W) {s:BitVec 64} (h2:∀ i,s.getLsbD i=true->i<W) (h3:s≠0#64) :
  wP prog 11 [m.d,.int .u64 (ui s)] (.yN [(oI m (uS s)).d,.sl 1 (rows .i64 (uS s)),.int .i64 0]):=by
 obtain⟨W1,W64⟩:=ok.hW;have hC:=iO ok;have hA:=du W;have hM:=cZ s
 have hn:∀ x ∈ uS s,0<=x/\x<W:=λx hx=>by obtain⟨i,_,h,rfl⟩:=lb.1 hx;have:=h2 i h;omega
 have hR:=cT m (uS s) (λx hx=>(hn x hx).1) (λr hr x hx=>by rw [ok.row r hr]; exact(hn x hx).2) (by have:=ok.hV; omega) (by have:=ok.hR; omega) (by have:=la s; omega)
 have hb:(s &&& ~~~(xe W) != 0#64)= false:=by have:=eH W64 h2;unfold lX at this;simpa using this
 have h3b:(s==0#64)= false:=by simp [h3]
 have hw:=ok.w;have hD:m.d = .agg [.int .i64 m.W,.sl 1 (us m.V),.sl 1 (rr m.R)]:=rfl;have hT:(oI m (uS s)).d = .agg [.int .i64 (oI m (uS s)).W,.sl 1 (us (oI m (uS s)).V),.sl 1 (rr (oI m (uS s)).R)]:=rfl;rw [hT] at hR ⊢;rw [hD,hw] at hC hR ⊢;generalize oI m (uS s)= t at *;refine wZ func11 YE λhf=>?_;refine rZ ?_;refine .go (cr hC) ?_;refine rZ ?_;refine .go (cr hA) ?_;refine cP hb h3b ?_;refine .go (cr hM) ?_;refine rZ ?_;refine .go (cr hR) ?_;refine rZ ?_;exact .drop (by simp) (by simp [vw,pY])
end Go.Pd
