/- Part M2. -/
import Derived.Test.YtcniiejbcjijjaaDoorZmG2
set_option linter.unusedSectionVars false
set_option linter.unusedVariables false
set_option linter.unusedSimpArgs false
set_option linter.defProp false
set_option maxRecDepth 20000
set_option maxHeartbeats 1000000
open Go.Proofs.Tryd
namespace Go.Pd
open Go Go.Proofs
open BitVec renaming isValue -> ZA
open Mg
theorem aw : ∀ k:Nat,k<16->yY prog 55 [.int .u64 (ui (BitVec.ofNat 64 k))] (.int .i64 (vF k 0 4)):=by
 intro k hk;refine yP func55 Xq λhf=>?_;simp only [simprocAttr,-ZA,↓zU,↓zD,zV,zT,zW,show (D.int .u64 6148914691236517205)= D.int .u64 (ui 6148914691236517205#64) from rfl,show (D.int .u64 3689348814741910323)= D.int .u64 (ui 3689348814741910323#64) from rfl,show (D.int .u64 1085102592571150095)= D.int .u64 (ui 1085102592571150095#64) from rfl]
 (repeat refine sd ?_)
 refine .drop (by simp) ?_;simp only [vw,D.int.injEq,true_and];clear hf;revert k;decide +kernel
theorem oa {k:Nat} (hk:k<16):yY prog 46 [.int .u64 k] (.int .i64 (vF k 0 4)):=by rw [<- jY (show k<18446744073709551616 by omega)];refine yP func46 Xl λhf=>?_;refine xC ?_;refine .go (cq (aw k hk)) ?_;refine xC ?_;exact .same
theorem ot {u v:Nat} (hu:u<16) (hv:v<16):pF .xor .i64 (u:Int) (v:Int)= ((u ^^^ v:Nat):Int)/\ u ^^^ v<16:=by
 have h:∀ u:Nat,u<16->∀ v:Nat,v<16->pF .xor .i64 (u:Int) (v:Int)= ((u ^^^ v:Nat):Int)/\ u ^^^ v<16:=by decide +kernel
 exact h u hu v hv
theorem uz {n u v:Nat} (hn:n<=4) (hu:u<2 ^ n) (hv:v<2 ^ n):vF (u ^^^ v) 0 4=vF u v n:=by
 have h:∀ n,n<5->∀ u,u<2 ^ n->∀ v,v<2 ^ n->vF (u ^^^ v) 0 4=vF u v n:=by decide +kernel
 exact h n (by omega) u hu v hv
theorem rS (n:Int) (p:List (BitVec 64)):yY prog 6 [.int .i64 n,.sl 1 (us p)] (.int .i64 (yU n p)):=by
 refine yP func6 k6 λhf=>?_;simp only [D.tV,D.fact,yC] at hf;have hlen:=hf.2.1.1
 by_cases h1:n<0
 ·refine yN h1 ?_;exact .drop (by simp) (by simp [vw,yU,h1])
 by_cases h2:4<n
 ·refine rE h1 h2 ?_;exact .drop (by simp) (by simp [vw,yU,h2])
 by_cases h3:8<p.length
 ·have h3':(8:Int)<(p.length:Int):=by omega
  refine v7 h1 h2 h3' ?_;exact .drop (by simp) (by simp only [vw,yU,if_neg (show ¬ (n<0\/4<n) by omega),if_pos h3])
 have h3':¬ (8:Int)<(p.length:Int):=by omega
 obtain⟨m,rfl⟩:=Int.eq_ofNat_of_zero_le (show 0<=n by omega);refine v7 h1 h2 h3' ?_;have ec:yU (m:Int) p=sT m p:=by rw [yU,if_neg (show ¬ ((m:Int)<0\/4<(m:Int)) by omega),if_neg h3,Int.toNat_natCast]
 rw [ec]
 refine xO (λk:Nat=>[(18,.int .i64 k),(17,.int .i64 p.length),(16,.sl 1 (us p)),(0,.int .i64 m)]) (λ_=>⟨0,[]⟩) (λk=>k<=p.length/\sT m p=sT m (p.drop k)) (λk=>p.length-k) 0 ⟨Nat.zero_le _,rfl⟩ ?_ ?_
 ·exact tW
 intro k ⟨hk,hi⟩;refine yQ mixed ?_
 by_cases h:k<p.length
 ·have hd:((k:Int)<(p.length:Int)):=by omega
  have e:p.drop k=p.getD k 0 :: p.drop (k+1):=by simp [List.getD,h]
  rw [e,sT] at hi;simp only [simprocAttr,-ZA,↓zU,↓zD,zV,zT,zW,hd,kJ _ h]
  (repeat refine sd ?_)
  refine .go (xU.zI (aZ (n:=m) (by omega)) rfl) ?_
  by_cases hb:p.getD k 0 &&& ~~~(allM m)= 0#64
  ·by_cases hz:p.getD k 0=0#64
   ·have e2:rB m (p.getD k 0)= 11:=by rw [rB,if_neg (by simpa using hb),if_pos hz]
    rw [e2,if_pos (by decide)] at hi;have hb1:(p.getD k 0 &&& ~~~(allM m) != 0#64)= false:=by simpa using hb
    have hz1:(p.getD k 0==0#64)= true:=by simpa using hz
    refine rE hb1 hz1 ?_;exact .drop (by simp) (by simp only [vw,hi])
   ·have e2:rB m (p.getD k 0)= 0:=by rw [rB,if_neg (by simpa using hb),if_neg hz]
    rw [e2,if_neg (by decide)] at hi;have hb1:(p.getD k 0 &&& ~~~(allM m) != 0#64)= false:=by simpa using hb
    have hz1:(p.getD k 0==0#64)= false:=by simpa using hz
    refine rE hb1 hz1 ?_;refine⟨k+1,⟨by omega,hi⟩,?_,by omega⟩;exact vR
  ·have e2:rB m (p.getD k 0)= 2:=by rw [rB,if_pos hb]
   rw [e2,if_pos (by decide)] at hi;have hb1:(p.getD k 0 &&& ~~~(allM m) != 0#64)= true:=by simpa using hb
   refine yN hb1 ?_;exact .drop (by simp) (by simp only [vw,hi])
 ·have hd:¬ ((k:Int)<(p.length:Int)):=by omega
  have hk':k=p.length:=by omega
  subst hk';rw [List.drop_length,sT] at hi;refine yN hd ?_;exact .drop (by simp) (by simp only [vw,hi])
open Mg
def wM (a:BitVec 64 × Int) (b:Bool) (k:Nat) (r:Int):BitVec 64 × Int:= if b=false\/(a.1≠0#64/\a.2<r) then a else if a.1=0#64\/r<a.2 then(1#64 <<< k,r) else(a.1 ||| 1#64 <<< k,a.2)
theorem lR (r:List Int) (s:BitVec 64) (k:Nat):xM r s (k+1)= wM (xM r s k) (s.getLsbD k) k (r.getD k 0):=rfl
theorem qd (r:List Int) (s:BitVec 64) (hr:r.length<=64):yY prog 19 [.sl 1 (rows .i64 r),.int .u64 (ui s)] (.int .u64 (ui (zJ r s))):=by
 refine yP func19 XM λhf=>?_;refine xC ?_
 refine xO (λk:Nat=>[(11,.int .i64 k),(10,.int .i64 r.length),(9,.sl 1 (rows .i64 r)),(6,.int .i64 (xM r s k).2),(5,.int .u64 (ui (xM r s k).1)),(1,.int .u64 (ui s))]) (λ_=>⟨0,[]⟩) (λk=>k<=r.length) (λk=>r.length-k) 0 (Nat.zero_le _) ?_ ?_
 ·(refine zG.same ?_; simp [wR,Fr.get,xM])
 intro k hk;refine yQ mixed ?_
 by_cases h:k<r.length
 ·have hd:((k:Int)<(r.length:Int)):=by omega
  have hs:=lR r s k;generalize xM r s k=a at hs ⊢;obtain⟨out,least⟩:=a
  cases hb:s.getLsbD k
  ·rw [hb] at hs;have e:xM r s (k+1)= (out,least):=by rw [hs]; simp [wM]
   simp only [simprocAttr,-ZA,↓zU,↓zD,zV,zT,zW,hd,xD _ _ h,wN,hb,show ((0#64:BitVec 64)== 0#64)= true from rfl]
   (repeat refine sd ?_)
   refine⟨k+1,by omega,?_,by omega⟩;rw [e];exact vR
  ·rw [hb] at hs
   by_cases hz:out=0#64
   ·subst hz;have e:xM r s (k+1)= (1#64 <<< k,r.getD k 0):=by rw [hs]; simp [wM]
    simp only [simprocAttr,-ZA,↓zU,↓zD,zV,zT,zW,hd,xD _ _ h,wN,hb,show ((1#64:BitVec 64)== 0#64)= false from rfl,show ((0#64:BitVec 64)== 0#64)= true from rfl,show ((0#64:BitVec 64) != 0#64)= false from rfl]
    (repeat refine sd ?_)
    refine⟨k+1,by omega,?_,by omega⟩;rw [e];exact vR
   ·have hz1:(out==0#64)= false:=by simpa using hz
    have hz2:(out != 0#64)= true:=by simpa using hz
    by_cases hw:least<r.getD k 0
    ·have e:xM r s (k+1)= (out,least):=by rw [hs]; simp only [wM,if_pos (show (true=false\/(out≠0#64/\least<r.getD k 0)) from .inr ⟨hz,hw⟩)]
     simp only [simprocAttr,-ZA,↓zU,↓zD,zV,zT,zW,hd,xD _ _ h,wN,hb,show ((1#64:BitVec 64)== 0#64)= false from rfl,hz1,hz2,hw]
     (repeat refine sd ?_)
     refine⟨k+1,by omega,?_,by omega⟩;rw [e];exact vR
    ·have hw':¬ (true=false\/(out≠0#64/\least<r.getD k 0)):=by rintro (c | ⟨_,c⟩); cases c; exact hw c
     by_cases hl:r.getD k 0<least
     ·have e:xM r s (k+1)= (1#64 <<< k,r.getD k 0):=by rw [hs]; simp only [wM,if_neg hw',if_pos (show (out=0#64\/r.getD k 0<least) from .inr hl)]
      simp only [simprocAttr,-ZA,↓zU,↓zD,zV,zT,zW,hd,xD _ _ h,wN,hb,show ((1#64:BitVec 64)== 0#64)= false from rfl,hz1,hz2,hw,hl]
      (repeat refine sd ?_)
      refine⟨k+1,by omega,?_,by omega⟩;rw [e];exact vR
     ·have hl':¬ (out=0#64\/r.getD k 0<least):=by rintro (c | c); exact hz c; exact hl c
      have e:xM r s (k+1)= (out ||| 1#64 <<< k,least):=by rw [hs]; simp only [wM,if_neg hw',if_neg hl']
      simp only [simprocAttr,-ZA,↓zU,↓zD,zV,zT,zW,hd,xD _ _ h,wN,hb,show ((1#64:BitVec 64)== 0#64)= false from rfl,hz1,hz2,hw,hl]
      (repeat refine sd ?_)
      refine⟨k+1,by omega,?_,by omega⟩;rw [e];exact vR
 ·have hd:¬ ((k:Int)<(r.length:Int)):=by omega
  have hk':k=r.length:=by omega
  have e:(xM r s k).1=zJ r s:=by rw [hk']; rfl
  rw [e];generalize (xM r s k).2=z;generalize zJ r s=y;refine yN hd ?_;exact .same
theorem iR (r:List Int) (s:BitVec 64) (hr:r.length<=64):yY prog 22 [.sl 1 (rows .i64 r),.int .u64 (ui s)] (.int .u64 (ui (zJ r s))):=by
 refine yP func22 XP λhf=>?_;refine xC ?_
 refine xO (λk:Nat=>[(11,.int .i64 k),(10,.int .i64 r.length),(9,.sl 1 (rows .i64 r)),(6,.int .i64 (xM r s k).2),(5,.int .u64 (ui (xM r s k).1)),(1,.int .u64 (ui s))]) (λ_=>⟨0,[]⟩) (λk=>k<=r.length) (λk=>r.length-k) 0 (Nat.zero_le _) ?_ ?_
 ·(refine zG.same ?_; simp [wR,Fr.get,xM])
 intro k hk;refine yQ mixed ?_
 by_cases h:k<r.length
 ·have hd:((k:Int)<(r.length:Int)):=by omega
  have hs:=lR r s k;generalize xM r s k=a at hs ⊢;obtain⟨out,least⟩:=a
  cases hb:s.getLsbD k
  ·rw [hb] at hs;have e:xM r s (k+1)= (out,least):=by rw [hs]; simp [wM]
   simp only [simprocAttr,-ZA,↓zU,↓zD,zV,zT,zW,hd,xD _ _ h,wN,hb,show ((0#64:BitVec 64)== 0#64)= true from rfl]
   (repeat refine sd ?_)
   refine⟨k+1,by omega,?_,by omega⟩;rw [e];exact vR
  ·rw [hb] at hs
   by_cases hz:out=0#64
   ·subst hz;have e:xM r s (k+1)= (1#64 <<< k,r.getD k 0):=by rw [hs]; simp [wM]
    simp only [simprocAttr,-ZA,↓zU,↓zD,zV,zT,zW,hd,xD _ _ h,wN,hb,show ((1#64:BitVec 64)== 0#64)= false from rfl,show ((0#64:BitVec 64)== 0#64)= true from rfl,show ((0#64:BitVec 64) != 0#64)= false from rfl]
    (repeat refine sd ?_)
    refine⟨k+1,by omega,?_,by omega⟩;rw [e];exact vR
   ·have hz1:(out==0#64)= false:=by simpa using hz
    by_cases hw:least<r.getD k 0
    ·have e:xM r s (k+1)= (out,least):=by rw [hs]; simp only [wM,if_pos (show (true=false\/(out≠0#64/\least<r.getD k 0)) from .inr ⟨hz,hw⟩)]
     have hl:¬ r.getD k 0<least:=by omega
     have he:(r.getD k 0==least)= false:=beq_eq_false_iff_ne.2 (by omega);simp only [simprocAttr,-ZA,↓zU,↓zD,zV,zT,zW,hd,xD _ _ h,wN,hb,show ((1#64:BitVec 64)== 0#64)= false from rfl,hz1,hl,he]
     (repeat refine sd ?_)
     refine⟨k+1,by omega,?_,by omega⟩;rw [e];exact vR
    ·have hw':¬ (true=false\/(out≠0#64/\least<r.getD k 0)):=by rintro (c | ⟨_,c⟩); cases c; exact hw c
     by_cases hl:r.getD k 0<least
     ·have e:xM r s (k+1)= (1#64 <<< k,r.getD k 0):=by rw [hs]; simp only [wM,if_neg hw',if_pos (show (out=0#64\/r.getD k 0<least) from .inr hl)]
      simp only [simprocAttr,-ZA,↓zU,↓zD,zV,zT,zW,hd,xD _ _ h,wN,hb,show ((1#64:BitVec 64)== 0#64)= false from rfl,hz1,hl]
      (repeat refine sd ?_)
      refine⟨k+1,by omega,?_,by omega⟩;rw [e];exact vR
     ·have hl':¬ (out=0#64\/r.getD k 0<least):=by rintro (c | c); exact hz c; exact hl c
      have e:xM r s (k+1)= (out ||| 1#64 <<< k,least):=by rw [hs]; simp only [wM,if_neg hw',if_neg hl']
      have he:(r.getD k 0==least)= true:=beq_iff_eq.2 (by omega);simp only [simprocAttr,-ZA,↓zU,↓zD,zV,zT,zW,hd,xD _ _ h,wN,hb,show ((1#64:BitVec 64)== 0#64)= false from rfl,hz1,hl,he]
      (repeat refine sd ?_)
      refine⟨k+1,by omega,?_,by omega⟩;rw [e];exact vR
 ·have hd:¬ ((k:Int)<(r.length:Int)):=by omega
  have hk':k=r.length:=by omega
  subst hk';refine yN hd ?_;exact .same
end Go.Pd
