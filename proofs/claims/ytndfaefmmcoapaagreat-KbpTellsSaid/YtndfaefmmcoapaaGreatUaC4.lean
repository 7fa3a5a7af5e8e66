/- Part C4. -/
import Derived.Test.YtndfaefmmcoapaaGreatUaS7
import Derived.Test.YtndfaefmmcoapaaGreatUaP7
set_option linter.unusedSectionVars false
set_option linter.unusedVariables false
set_option linter.unusedSimpArgs false
set_option linter.defProp false
set_option maxRecDepth 20000
set_option maxHeartbeats 1000000
namespace Go.Pd
open Go Go.Proofs
open BitVec renaming isValue -> ZA
open Rs Fm Ru Te
namespace Ru
def pL (m:qL) (W:Nat) (n:Nd) (x y:BitVec 64):BitVec 64 × Bool:=
 if n.op=1 then(pG W,true) else if n.op=2 then(0#64,true) else if n.op=3 then(if n.i<m.V.length then(m.V.getD n.i.toNat 0,true) else(0#64,false)) else if n.op=4 then(pG W &&& ~~~x,true)
 else if n.op=5 then(x &&& y,true) else if n.op=6 then(x ||| y,true) else if n.op=7 then(pG W &&& ~~~x ||| y,true) else if n.op=8 then(pG W &&& ~~~(x ^^^ y),true)
 else if n.op=9 then(if n.i<m.R.length then(aYq (m.R.getD n.i.toNat []) x,true) else(0#64,false)) else if n.op=10 then(if n.i<m.R.length then(bXm (m.R.getD n.i.toNat []) x,true) else(0#64,false))
 else if n.op=11 then(if n.g<(2 ^ m.R.length:Nat) then(aYq (wU m n.g.toNat false) x,true) else(0#64,false)) else if n.op=12 then(if n.g<(2 ^ m.R.length:Nat) then(aYq (wU m n.g.toNat true) x,true) else(0#64,false))
 else if n.op=13 then(if n.g<(2 ^ m.R.length:Nat) then(mB (wU m n.g.toNat false) (pG W) x y W,true) else(0#64,false)) else(0#64,false)
theorem aR5 {W:Nat} (h1:1<=W) (h2:W<=64):18446744073709551615#64 >>> (64-W)= pG W:=by
 have:∀ W,W<65->1<=W->18446744073709551615#64 >>> (64-W)= pG W:=by decide
 exact this W (by omega) h1
end Ru
theorem aCk {m:qL} {W:Nat} (ok:lZ m W) {n:Nd} {k:Int} (hn:yK n k=0) {x y:BitVec 64} (hcom:n.op=13->n.g<(2 ^ m.R.length:Nat)->mB (wU m n.g.toNat false) (pG W) x y (W+1)= mB (wU m n.g.toNat false) (pG W) x y W) :
  yU Tryz.prog 177 [m.d,.agg n.row,.int .u64 (ui x),.int .u64 (ui y)] (.tup [.int .u64 (ui (pL m W n x y).1),.bool (pL m W n x y).2]):=by
 obtain⟨W1,W64⟩:=ok.hW;have hR4:=ok.hR;have hV8:=ok.hV;have hw:IntKind.i64.wrap (64-m.W)= ((64-W:Nat):Int):=by rw [ok.w,wrap_i64 (by omega)]; omega
 have hfull:(18446744073709551615:Int)= ui 18446744073709551615#64:=rfl;have hall:=aR5 W1 W64
 have hi0:n.op=3\/n.op=9\/n.op=10->0<=n.i:=fun h=>by
  rcases h with h | h | h
  ·exact(mT hn (by rw [h]; rfl)).1
  ·exact(tT hn (by rw [h]; rfl)).1
  ·exact(tT hn (by rw [h]; rfl)).1
 have hg0:n.op=11\/n.op=12\/n.op=13->1<=n.g/\n.g<=15:=fun h=>by
  have hgr:(xZ n.op).1.gr=true:=by rcases h with h | h | h <;> rw [h] <;> rfl
  have h1:=(wR.1 hn).2.2.2.2;simp only [Bool.or_eq_false_iff,hgr,xM,Bool.true_and,decide_eq_false_iff_not] at h1;omega
 have hsh:=aV7 (k:=m.R.length) (by omega);obtain⟨op,i,e,g,a,b⟩:=n;simp only at hi0 hg0 hcom;have hrow:(Nd.row ⟨op,i,e,g,a,b⟩)= [.int .i64 op,.int .i64 i,.int .i64 e,.int .i64 g,.int .i64 a,.int .i64 b]:=rfl;rw [hrow];unfold qL.d
 rcases uL op with rfl | rfl | rfl | rfl | rfl | rfl | rfl | rfl | rfl | rfl | rfl | rfl | rfl | rfl | rfl | rfl | rfl | rfl | rfl | rfl | rfl | h | h
 ·rw [show pL m W ⟨1,i,e,g,a,b⟩ x y=(pG W,true) from rfl,<- hall];refine xX.xQ mixed Tryz.func177 mC (by simp) fun hf=>?_;simp only [simprocAttr,-ZA,↓zU,↓zD,zV,zT,zW,hw]
  (repeat refine sd ?_)
  exact .drop (by simp) (by simp [vw,vwL])
 ·rw [show pL m W ⟨2,i,e,g,a,b⟩ x y=(0#64,true) from rfl];refine xX.xQ mixed Tryz.func177 mC (by simp) fun hf=>?_;simp only [simprocAttr,-ZA,↓zU,↓zD,zV,zT,zW,hw]
  (repeat refine sd ?_)
  exact .drop (by simp) (by simp [vw,vwL])
 ·have h0:=hi0 (.inl rfl)
  by_cases hlt:i<(m.V.length:Int)
  ·have hv:pL m W ⟨3,i,e,g,a,b⟩ x y=(m.V.getD i.toNat 0,true):=if_pos hlt;have hge:¬ (m.V.length:Int)<=i:=by omega
   obtain⟨j,rfl⟩:=Int.eq_ofNat_of_zero_le h0;have hg:=zH m.V (show j<m.V.length by omega);rw [Int.toNat_natCast] at hv;rw [hv];generalize m.V.getD j 0=z at hg;refine xX.xQ mixed Tryz.func177 mC (by simp) fun hf=>?_;simp only [simprocAttr,-ZA,↓zU,↓zD,zV,zT,zW,hw,xR,hge,hg]
   (repeat refine sd ?_)
   exact .drop (by simp) (by simp [vw,vwL])
  ·have hv:pL m W ⟨3,i,e,g,a,b⟩ x y=(0#64,false):=if_neg hlt;have hge:(m.V.length:Int)<=i:=by omega
   rw [hv];refine xX.xQ mixed Tryz.func177 mC (by simp) fun hf=>?_;simp only [simprocAttr,-ZA,↓zU,↓zD,zV,zT,zW,hw,xR,hge]
   (repeat refine sd ?_)
   exact .drop (by simp) (by simp [vw,vwL])
 ·rw [show pL m W ⟨4,i,e,g,a,b⟩ x y=(pG W &&& ~~~x,true) from rfl,<- hall];refine xX.xQ mixed Tryz.func177 mC (by simp) fun hf=>?_;simp only [simprocAttr,-ZA,↓zU,↓zD,zV,zT,zW,hw]
  (repeat refine sd ?_)
  exact .drop (by simp) (by simp [vw,vwL])
 ·rw [show pL m W ⟨5,i,e,g,a,b⟩ x y=(x &&& y,true) from rfl];refine xX.xQ mixed Tryz.func177 mC (by simp) fun hf=>?_;simp only [simprocAttr,-ZA,↓zU,↓zD,zV,zT,zW,hw]
  (repeat refine sd ?_)
  exact .drop (by simp) (by simp [vw,vwL])
 ·rw [show pL m W ⟨6,i,e,g,a,b⟩ x y=(x ||| y,true) from rfl];refine xX.xQ mixed Tryz.func177 mC (by simp) fun hf=>?_;simp only [simprocAttr,-ZA,↓zU,↓zD,zV,zT,zW,hw]
  (repeat refine sd ?_)
  exact .drop (by simp) (by simp [vw,vwL])
 ·rw [show pL m W ⟨7,i,e,g,a,b⟩ x y=(pG W &&& ~~~x ||| y,true) from rfl,<- hall];refine xX.xQ mixed Tryz.func177 mC (by simp) fun hf=>?_;simp only [simprocAttr,-ZA,↓zU,↓zD,zV,zT,zW,hw]
  (repeat refine sd ?_)
  exact .drop (by simp) (by simp [vw,vwL])
 ·rw [show pL m W ⟨8,i,e,g,a,b⟩ x y=(pG W &&& ~~~(x ^^^ y),true) from rfl,<- hall];refine xX.xQ mixed Tryz.func177 mC (by simp) fun hf=>?_;simp only [simprocAttr,-ZA,↓zU,↓zD,zV,zT,zW,hw]
  (repeat refine sd ?_)
  exact .drop (by simp) (by simp [vw,vwL])
 ·have h0:=hi0 (.inr (.inl rfl))
  by_cases hlt:i<(m.R.length:Int)
  ·have hv:pL m W ⟨9,i,e,g,a,b⟩ x y=(aYq (m.R.getD i.toNat []) x,true):=if_pos hlt;have hge:¬ (m.R.length:Int)<=i:=by omega
   obtain⟨j,rfl⟩:=Int.eq_ofNat_of_zero_le h0;have hg:=nG m.R (show j<m.R.length by omega);have hc:=aZd (aE0 ok (show j<m.R.length by omega)) x;rw [Int.toNat_natCast] at hv;rw [hv];generalize m.R.getD j []=z at hg hc;refine xX.xQ mixed Tryz.func177 mC (by simp) fun hf=>?_;simp only [simprocAttr,-ZA,↓zU,↓zD,zV,zT,zW,hw,zK,hge,hg]
   (repeat refine sd ?_)
   refine .go (cr hc) ?_;simp only [simprocAttr,-ZA,↓zU,↓zD,zV,zT,zW];exact .drop (by simp) (by simp [vw,vwL])
  ·have hv:pL m W ⟨9,i,e,g,a,b⟩ x y=(0#64,false):=if_neg hlt;have hge:(m.R.length:Int)<=i:=by omega
   rw [hv];refine xX.xQ mixed Tryz.func177 mC (by simp) fun hf=>?_;simp only [simprocAttr,-ZA,↓zU,↓zD,zV,zT,zW,hw,zK,hge]
   (repeat refine sd ?_)
   exact .drop (by simp) (by simp [vw,vwL])
 ·have h0:=hi0 (.inr (.inr rfl))
  by_cases hlt:i<(m.R.length:Int)
  ·have hv:pL m W ⟨10,i,e,g,a,b⟩ x y=(bXm (m.R.getD i.toNat []) x,true):=if_pos hlt;have hge:¬ (m.R.length:Int)<=i:=by omega
   obtain⟨j,rfl⟩:=Int.eq_ofNat_of_zero_le h0;have hg:=nG m.R (show j<m.R.length by omega);have hc:=aOm (aE0 ok (show j<m.R.length by omega)) x;rw [Int.toNat_natCast] at hv;rw [hv];generalize m.R.getD j []=z at hg hc;refine xX.xQ mixed Tryz.func177 mC (by simp) fun hf=>?_;simp only [simprocAttr,-ZA,↓zU,↓zD,zV,zT,zW,hw,zK,hge,hg]
   (repeat refine sd ?_)
   refine .go (cr hc) ?_;simp only [simprocAttr,-ZA,↓zU,↓zD,zV,zT,zW];exact .drop (by simp) (by simp [vw,vwL])
  ·have hv:pL m W ⟨10,i,e,g,a,b⟩ x y=(0#64,false):=if_neg hlt;have hge:(m.R.length:Int)<=i:=by omega
   rw [hv];refine xX.xQ mixed Tryz.func177 mC (by simp) fun hf=>?_;simp only [simprocAttr,-ZA,↓zU,↓zD,zV,zT,zW,hw,zK,hge]
   (repeat refine sd ?_)
   exact .drop (by simp) (by simp [vw,vwL])
 ·have h0:=hg0 (.inl rfl)
  by_cases hlt:g<((2 ^ m.R.length:Nat):Int)
  ·have hv:pL m W ⟨11,i,e,g,a,b⟩ x y=(aYq (wU m g.toNat false) x,true):=if_pos hlt;have hge:¬ ((2 ^ m.R.length:Nat):Int)<=g:=by omega
   obtain⟨j,rfl⟩:=Int.eq_ofNat_of_zero_le (show 0<=g by omega);have hj:1<=j/\j<2 ^ m.R.length:=by omega
   have hc:=aR8 ok hj;have hb:=aZd (aX2 ok hj false) x;rw [Int.toNat_natCast] at hv;rw [hv];unfold qL.d at hc;generalize wU m j false=z at hc hb ⊢;refine xX.xQ mixed Tryz.func177 mC (by simp) fun hf=>?_;simp only [simprocAttr,-ZA,↓zU,↓zD,zV,zT,zW,hw,zK,hge,hsh]
   (repeat refine sd ?_)
   refine .go (cr hc) ?_;simp only [simprocAttr,-ZA,↓zU,↓zD,zV,zT,zW];refine .go (cr hb) ?_;simp only [simprocAttr,-ZA,↓zU,↓zD,zV,zT,zW];exact .drop (by simp) (by simp [vw,vwL])
  ·have hv:pL m W ⟨11,i,e,g,a,b⟩ x y=(0#64,false):=if_neg hlt;have hge:((2 ^ m.R.length:Nat):Int)<=g:=by omega
   rw [hv];refine xX.xQ mixed Tryz.func177 mC (by simp) fun hf=>?_;simp only [simprocAttr,-ZA,↓zU,↓zD,zV,zT,zW,hw,zK,hge,hsh]
   (repeat refine sd ?_)
   exact .drop (by simp) (by simp [vw,vwL])
 ·have h0:=hg0 (.inr (.inl rfl))
  by_cases hlt:g<((2 ^ m.R.length:Nat):Int)
  ·have hv:pL m W ⟨12,i,e,g,a,b⟩ x y=(aYq (wU m g.toNat true) x,true):=if_pos hlt;have hge:¬ ((2 ^ m.R.length:Nat):Int)<=g:=by omega
   obtain⟨j,rfl⟩:=Int.eq_ofNat_of_zero_le (show 0<=g by omega);have hj:1<=j/\j<2 ^ m.R.length:=by omega
   have hc:=aA0 ok hj;have hb:=aZd (aX2 ok hj true) x;rw [Int.toNat_natCast] at hv;rw [hv];unfold qL.d at hc;generalize wU m j true=z at hc hb ⊢;refine xX.xQ mixed Tryz.func177 mC (by simp) fun hf=>?_;simp only [simprocAttr,-ZA,↓zU,↓zD,zV,zT,zW,hw,zK,hge,hsh]
   (repeat refine sd ?_)
   refine .go (cr hc) ?_;simp only [simprocAttr,-ZA,↓zU,↓zD,zV,zT,zW];refine .go (cr hb) ?_;simp only [simprocAttr,-ZA,↓zU,↓zD,zV,zT,zW];exact .drop (by simp) (by simp [vw,vwL])
  ·have hv:pL m W ⟨12,i,e,g,a,b⟩ x y=(0#64,false):=if_neg hlt;have hge:((2 ^ m.R.length:Nat):Int)<=g:=by omega
   rw [hv];refine xX.xQ mixed Tryz.func177 mC (by simp) fun hf=>?_;simp only [simprocAttr,-ZA,↓zU,↓zD,zV,zT,zW,hw,zK,hge,hsh]
   (repeat refine sd ?_)
   exact .drop (by simp) (by simp [vw,vwL])
 ·have h0:=hg0 (.inr (.inr rfl))
  by_cases hlt:g<((2 ^ m.R.length:Nat):Int)
  ·have hv:pL m W ⟨13,i,e,g,a,b⟩ x y=(mB (wU m g.toNat false) (pG W) x y W,true):=if_pos hlt;have hge:¬ ((2 ^ m.R.length:Nat):Int)<=g:=by omega
   have hcm:=hcom rfl hlt;obtain⟨j,rfl⟩:=Int.eq_ofNat_of_zero_le (show 0<=g by omega);have hj:1<=j/\j<2 ^ m.R.length:=by omega
   have hc:=aR8 ok hj;have hb:=aJn (aX2 ok hj false) (by rw [Int.toNat_natCast] at hcm; exact hcm);rw [Int.toNat_natCast] at hv;rw [hv];unfold qL.d at hc;generalize wU m j false=z at hc hb ⊢;refine xX.xQ mixed Tryz.func177 mC (by simp) fun hf=>?_;simp only [simprocAttr,-ZA,↓zU,↓zD,zV,zT,zW,hw,zK,hge,hsh]
   (repeat refine sd ?_)
   refine .go (cr hc) ?_;simp only [simprocAttr,-ZA,↓zU,↓zD,zV,zT,zW,hall];refine .go (cr hb) ?_;simp only [simprocAttr,-ZA,↓zU,↓zD,zV,zT,zW];exact .drop (by simp) (by simp [vw,vwL])
  ·have hv:pL m W ⟨13,i,e,g,a,b⟩ x y=(0#64,false):=if_neg hlt;have hge:((2 ^ m.R.length:Nat):Int)<=g:=by omega
   rw [hv];refine xX.xQ mixed Tryz.func177 mC (by simp) fun hf=>?_;simp only [simprocAttr,-ZA,↓zU,↓zD,zV,zT,zW,hw,zK,hge,hsh]
   (repeat refine sd ?_)
   exact .drop (by simp) (by simp [vw,vwL])
 ·rw [show pL m W ⟨14,i,e,g,a,b⟩ x y=(0#64,false) from rfl];refine xX.xQ mixed Tryz.func177 mC (by simp) fun hf=>?_;simp only [simprocAttr,-ZA,↓zU,↓zD,zV,zT,zW,hw]
  (repeat refine sd ?_)
  exact .drop (by simp) (by simp [vw,vwL])
 ·rw [show pL m W ⟨15,i,e,g,a,b⟩ x y=(0#64,false) from rfl];refine xX.xQ mixed Tryz.func177 mC (by simp) fun hf=>?_;simp only [simprocAttr,-ZA,↓zU,↓zD,zV,zT,zW,hw]
  (repeat refine sd ?_)
  exact .drop (by simp) (by simp [vw,vwL])
 ·rw [show pL m W ⟨16,i,e,g,a,b⟩ x y=(0#64,false) from rfl];refine xX.xQ mixed Tryz.func177 mC (by simp) fun hf=>?_;simp only [simprocAttr,-ZA,↓zU,↓zD,zV,zT,zW,hw]
  (repeat refine sd ?_)
  exact .drop (by simp) (by simp [vw,vwL])
 ·rw [show pL m W ⟨17,i,e,g,a,b⟩ x y=(0#64,false) from rfl];refine xX.xQ mixed Tryz.func177 mC (by simp) fun hf=>?_;simp only [simprocAttr,-ZA,↓zU,↓zD,zV,zT,zW,hw]
  (repeat refine sd ?_)
  exact .drop (by simp) (by simp [vw,vwL])
 ·rw [show pL m W ⟨18,i,e,g,a,b⟩ x y=(0#64,false) from rfl];refine xX.xQ mixed Tryz.func177 mC (by simp) fun hf=>?_;simp only [simprocAttr,-ZA,↓zU,↓zD,zV,zT,zW,hw]
  (repeat refine sd ?_)
  exact .drop (by simp) (by simp [vw,vwL])
 ·rw [show pL m W ⟨19,i,e,g,a,b⟩ x y=(0#64,false) from rfl];refine xX.xQ mixed Tryz.func177 mC (by simp) fun hf=>?_;simp only [simprocAttr,-ZA,↓zU,↓zD,zV,zT,zW,hw]
  (repeat refine sd ?_)
  exact .drop (by simp) (by simp [vw,vwL])
 ·rw [show pL m W ⟨20,i,e,g,a,b⟩ x y=(0#64,false) from rfl];refine xX.xQ mixed Tryz.func177 mC (by simp) fun hf=>?_;simp only [simprocAttr,-ZA,↓zU,↓zD,zV,zT,zW,hw]
  (repeat refine sd ?_)
  exact .drop (by simp) (by simp [vw,vwL])
 ·rw [show pL m W ⟨21,i,e,g,a,b⟩ x y=(0#64,false) from rfl];refine xX.xQ mixed Tryz.func177 mC (by simp) fun hf=>?_;simp only [simprocAttr,-ZA,↓zU,↓zD,zV,zT,zW,hw]
  (repeat refine sd ?_)
  exact .drop (by simp) (by simp [vw,vwL])
 ·have hv:pL m W ⟨op,i,e,g,a,b⟩ x y=(0#64,false):=by unfold pL; simp only; repeat rw [if_neg (by omega)]
  have q1:(op==1)= false:=by rw [beq_eq_false_iff_ne]; omega
  have q2:(op==2)= false:=by rw [beq_eq_false_iff_ne]; omega
  have q3:(op==3)= false:=by rw [beq_eq_false_iff_ne]; omega
  have q4:(op==4)= false:=by rw [beq_eq_false_iff_ne]; omega
  have q5:(op==5)= false:=by rw [beq_eq_false_iff_ne]; omega
  have q6:(op==6)= false:=by rw [beq_eq_false_iff_ne]; omega
  have q7:(op==7)= false:=by rw [beq_eq_false_iff_ne]; omega
  have q8:(op==8)= false:=by rw [beq_eq_false_iff_ne]; omega
  have q9:(op==9)= false:=by rw [beq_eq_false_iff_ne]; omega
  have q10:(op==10)= false:=by rw [beq_eq_false_iff_ne]; omega
  have q11:(op==11)= false:=by rw [beq_eq_false_iff_ne]; omega
  have q12:(op==12)= false:=by rw [beq_eq_false_iff_ne]; omega
  have q13:(op==13)= false:=by rw [beq_eq_false_iff_ne]; omega
  rw [hv];refine xX.xQ mixed Tryz.func177 mC (by simp) fun hf=>?_;simp only [simprocAttr,-ZA,↓zU,↓zD,zV,zT,zW,hw,q1,q2,q3,q4,q5,q6,q7,q8,q9,q10,q11,q12,q13]
  (repeat refine sd ?_)
  exact .drop (by simp) (by simp [vw,vwL])
 ·have hv:pL m W ⟨op,i,e,g,a,b⟩ x y=(0#64,false):=by unfold pL; simp only; repeat rw [if_neg (by omega)]
  have q1:(op==1)= false:=by rw [beq_eq_false_iff_ne]; omega
  have q2:(op==2)= false:=by rw [beq_eq_false_iff_ne]; omega
  have q3:(op==3)= false:=by rw [beq_eq_false_iff_ne]; omega
  have q4:(op==4)= false:=by rw [beq_eq_false_iff_ne]; omega
  have q5:(op==5)= false:=by rw [beq_eq_false_iff_ne]; omega
  have q6:(op==6)= false:=by rw [beq_eq_false_iff_ne]; omega
  have q7:(op==7)= false:=by rw [beq_eq_false_iff_ne]; omega
  have q8:(op==8)= false:=by rw [beq_eq_false_iff_ne]; omega
  have q9:(op==9)= false:=by rw [beq_eq_false_iff_ne]; omega
  have q10:(op==10)= false:=by rw [beq_eq_false_iff_ne]; omega
  have q11:(op==11)= false:=by rw [beq_eq_false_iff_ne]; omega
  have q12:(op==12)= false:=by rw [beq_eq_false_iff_ne]; omega
  have q13:(op==13)= false:=by rw [beq_eq_false_iff_ne]; omega
  rw [hv];refine xX.xQ mixed Tryz.func177 mC (by simp) fun hf=>?_;simp only [simprocAttr,-ZA,↓zU,↓zD,zV,zT,zW,hw,q1,q2,q3,q4,q5,q6,q7,q8,q9,q10,q11,q12,q13]
  (repeat refine sd ?_)
  exact .drop (by simp) (by simp [vw,vwL])
section
open Rs Fm Ru Te
namespace Te
theorem aIt {nx:Nat} {xS:List (Nat × Ob)} (hu:aXf ⟨nx,xS⟩) (nx':Nat) (ob:Ob):∀ k o,St.look xS k=some o->St.get ⟨nx',(nx,ob) :: xS⟩ k=some o:=fun k o hk=>by have:=(hu k o hk).1;simp only at this;show St.look (_ :: _) k=_;rw [xY,if_neg (by omega)]; exact hk
end Te
end
section
open Rs Fm Ru Te
end
section
open Rs Fm Ru Te
theorem pQ (c:Nat):∀ {l:List (Nat × Ob)} {k:Nat} {o:Ob},St.look l k=some o->St.look (yN c l) (c+k)= some (o.shift c)
 | [],k,o,h=>by cases h
 | (j,ob) :: r,k,o,h=>by
  rw [xY] at h;show St.look ((c+j,ob.shift c) :: yN c r) _=_;rw [xY]
  by_cases e:j=k
  ·rw [if_pos e] at h; rw [if_pos (by omega)]; cases h; rfl
  ·rw [if_neg e] at h; rw [if_neg (by omega)]; exact pQ c h
namespace Te
def aO0 (s:pF) (f:List Nd):Int:=if chk s≠0 then chk s else if xC f≠0 then xC f else if (rB .andNot .i64 (zF f:Int) 271 != 0)= true then 10 else if rU f s.ag s.fa=false then 2 else 0
theorem oE {s:pF} {f:List Nd} (h:aO0 s f=0):chk s=0/\xC f=0:=by
 unfold aO0 at h
 by_cases c1:chk s≠0
 ·rw [if_pos c1] at h; exact absurd h c1
 rw [if_neg c1] at h
 by_cases c2:xC f≠0
 ·rw [if_pos c2] at h; exact absurd h c2
 exact⟨by simpa using c1,by simpa using c2⟩
end Te
end
section
open Rs Fm Ru Te
namespace Te
end Te
end
open Rs Fm Ru Te
namespace Te
def pt (T p:Nat):Nat × Nat:=(p / T,p % T)
def gG (rs:List zG) (g:Nat) (m:Bool) (p q:Nat × Nat) (a:Nat):Bool:=(List.range a).all fun b=>!g.testBit b || (decide (wE rs b p=wE rs b q)== m)
end Te
open Ru
namespace Ru
def aVu : qL:=⟨0,[],[]⟩
def qJ (rs:List zG) (l:List (Nat × Nat)) (A F:Nat):qL:=⟨(l.length:Int),mG rs l F,rC rs l A⟩
def yM (R t:Nat):List (Nat × Nat):=(List.range R).map fun r=>(r,t)
theorem wH (R t:Nat):(yM R t).length=R:=by simp [yM]
theorem aQx (R t:Nat):yM (R+1) t=yM R t ++ [(R,t)]:=by unfold yM; rw [List.range_succ,List.map_append]; rfl
theorem aHg {rs:List zG} {T t R:Nat} (ht:t<T) (hR:R<=rs.length):Inb rs T (yM R t):=fun p hp=>by simp only [yM,List.mem_map,List.mem_range] at hp;obtain⟨i,hi,rfl⟩:=hp;exact⟨by omega,ht⟩
def fZ (s:pF) (t:Int):qL × Int:= if chk s≠0 then(aVu,chk s) else if t<0\/s.ln<=t then(aVu,2) else(qJ s.rs (yM s.rs.length t.toNat) s.ag.toNat s.fa.toNat,0)
theorem rP {k:Nat} (hk:k<64) (i:Nat):(1#64 <<< k).getLsbD i=decide (i=k):=by
 by_cases hi:i<64
 ·have:∀ k,k<64->∀ i,i<64->(1#64 <<< k).getLsbD i=decide (i=k):=by decide
  exact this k hk i hi
 ·rw [BitVec.getLsbD_of_ge _ _ (by omega)];exact(decide_eq_false (by omega)).symm
theorem aXi {rs:List zG} {l:List (Nat × Nat)} {f:Nat}:∀ (k i:Nat),k<=64->(rD rs l f k).getLsbD i=(decide (i<k)&& (aYo rs (l.getD i (0,0))).getLsbD f)
 | 0,i,_=>by simp [rD]
 | k+1,i,hk=>by
  unfold rD;rw [BitVec.getLsbD_or,aXi k i (by omega)]
  by_cases e:i=k
  ·subst e
   cases hb:(aYo rs (l.getD i (0,0))).getLsbD f
   ·simp
   ·rw [if_pos rfl,rP (by omega)];simp
  ·have h2:(if (aYo rs (l.getD k (0,0))).getLsbD f=true then 1#64 <<< k else 0#64).getLsbD i=false:=by
    split
    ·rw [rP (by omega)]; exact decide_eq_false e
    ·exact BitVec.getLsbD_zero
   rw [h2,Bool.or_false];congr 1;rw [Bool.eq_iff_iff,decide_eq_true_iff,decide_eq_true_iff]; omega
theorem lQ {rs:List zG} {l:List (Nat × Nat)} {a:Nat} {x:Int}:∀ (k i:Nat),k<=64->(gG rs l a x k).getLsbD i=(decide (i<k)&& decide (wE rs a (l.getD i (0,0))= x))
 | 0,i,_=>by simp [gG]
 | k+1,i,hk=>by
  unfold gG;rw [BitVec.getLsbD_or,lQ k i (by omega)]
  by_cases e:i=k
  ·subst e
   by_cases hb:wE rs a (l.getD i (0,0))= x
   ·rw [if_pos hb,rP (by omega),decide_eq_true hb];simp
   ·rw [if_neg hb,decide_eq_false hb];simp
  ·have h2:(if wE rs a (l.getD k (0,0))= x then 1#64 <<< k else 0#64).getLsbD i=false:=by
    split
    ·rw [rP (by omega)]; exact decide_eq_false e
    ·exact BitVec.getLsbD_zero
   rw [h2,Bool.or_false];congr 1;rw [Bool.eq_iff_iff,decide_eq_true_iff,decide_eq_true_iff]; omega
theorem aB {rs:List zG} {A F T:Nat} (ok:OkR rs A F T) {l:List (Nat × Nat)} (h1:1<=l.length) (h2:l.length<=64):lZ (qJ rs l A F) l.length where
 w:=rfl
 hW:=⟨h1,h2⟩
 hV:=by have:=ok.hF; simp [qJ,mG]; exact this
 hR:=by have:=ok.hA; simp [qJ,rC]; exact this
 row:=fun r hr=>by simp only [qJ,rC,List.mem_map] at hr;obtain⟨a,_,rfl⟩:=hr;simp [rI]
 val:=fun x hx=>by simp only [qJ,mG,List.mem_map] at hx;obtain⟨f,_,rfl⟩:=hx;refine aUd h2 fun i hi=>?_;rw [aXi _ _ h2,Bool.and_eq_true] at hi;exact of_decide_eq_true hi.1
 rel:=fun r hr x hx=>by simp only [qJ,rC,List.mem_map] at hr;obtain⟨a,_,rfl⟩:=hr;simp only [rI,List.mem_map] at hx;obtain⟨p,_,rfl⟩:=hx;refine aUd h2 fun i hi=>?_;rw [lQ _ _ h2,Bool.and_eq_true] at hi;exact of_decide_eq_true hi.1
end Ru
open Rs Fm Ru Te
namespace Te
end Te
namespace Te
end Te
open Rs Fm Ru Te
namespace Te
def evT (rs:List zG) (A T:Nat):Tr->Tab
 | .nil=>fun _=>false
 | .nd op i e g x y=>aQl rs A T ⟨op,i,e,g,0,0⟩ (evT rs A T x) (evT rs A T y)
theorem aKs {rs:List zG} {A T:Nat} {n m:Nd} {x y x' y':Tab} (h1:n.op=m.op) (h2:n.i=m.i) (h3:n.g=m.g) (hx:(xZ n.op).1.x=true->x=x') (hy:(xZ n.op).1.y=true->y=y') :
  aQl rs A T n x y=aQl rs A T m x' y':=by
 obtain⟨op,i,e,g,a,b⟩:=n;obtain⟨op',i',e',g',a',b'⟩:=m;simp only at h1 h2 h3 hx hy;subst h1 h2 h3;rcases uL op with rfl | rfl | rfl | rfl | rfl | rfl | rfl | rfl | rfl | rfl | rfl | rfl | rfl | rfl | rfl | rfl | rfl | rfl | rfl | rfl | rfl | h | h
 all_goals first
  | (have hx':=hx rfl; have hy':=hy rfl; subst hx' hy'; rfl)
  | (have hx':=hx rfl; subst hx'; rfl)
  | rfl
  | (unfold aQl bYi; simp only; funext p; repeat rw [if_neg (by omega)])
def okN (A F:Nat) (p:Nd):Bool:=decide (sX p &&& 3824=0)&& decide (wJ p / 2 ^ A=0)&& decide (tF p / 2 ^ F=0)
theorem qS {m:Nd->Nat} {φ:Nat->Nat} (h0:φ 0=0) (h:∀ a b,φ (a ||| b)= φ a ||| φ b) (l:List Nd):φ (yA m l)= yA (fun p=>φ (m p)) l:=by
 have key:∀ (l:List Nd) (a:Nat),φ (l.foldl (fun a p=>a ||| m p) a)= l.foldl (fun a p=>a ||| φ (m p)) (φ a):=by
  intro l
  induction l with
  | nil=>intro a; rfl
  | cons p r ih=>intro a; rw [List.foldl_cons,List.foldl_cons,ih,h]
 unfold yA;rw [key,h0]
theorem aX3 {n:Nat} (h:n<4096):(rB .andNot .i64 (n:Int) 271 != 0)= !decide (n &&& 3824=0):=by
 have:∀ n:Fin 4096,(rB .andNot .i64 ((n.val:Nat):Int) 271 != 0)= !decide (n.val &&& 3824=0):=by decide +kernel
 exact this ⟨n,h⟩
theorem aMa {s:pF} {A F T:Nat} {rs:List zG} (hs:s=⟨A,F,T,rs⟩) (hz:chk s=0) (ok:OkR rs A F T) {f:List Nd} (hc:xC f=0):aO0 s f=0 ↔ ∀ p ∈ xE f,okN A F p=true:=by
 have hlt:zF f<4096:=by refine qV fun p _=>?_;have:=jU p.op;unfold sX; omega
 have e1:(zF f &&& 3824=0) ↔ ∀ p ∈ xE f,sX p &&& 3824=0:=by unfold zF;rw [qS (φ:=fun n=>n &&& 3824) (by decide) (fun a b=>Nat.and_or_distrib_right a b 3824),rY]
 have dv:∀ n a b:Nat,(a ||| b)/ 2 ^ n=a / 2 ^ n ||| b / 2 ^ n:=fun n a b=>by rw [<- Nat.shiftRight_eq_div_pow,<- Nat.shiftRight_eq_div_pow,<- Nat.shiftRight_eq_div_pow,Nat.shiftRight_or_distrib]
 have e2:sI f / 2 ^ A=0 ↔ ∀ p ∈ xE f,wJ p / 2 ^ A=0:=by unfold sI;rw [qS (φ:=fun n=>n / 2 ^ A) (by simp) (dv A),rY]
 have e3:nE f / 2 ^ F=0 ↔ ∀ p ∈ xE f,tF p / 2 ^ F=0:=by unfold nE;rw [qS (φ:=fun n=>n / 2 ^ F) (by simp) (dv F),rY]
 have hA:=ok.hA;have hF:=ok.hF
 have ef:rU f s.ag s.fa=true ↔ sI f / 2 ^ A=0/\nE f / 2 ^ F=0:=by
  subst hs;unfold rU lT;simp only [Bool.and_eq_true,Bool.or_eq_true,decide_eq_true_eq,Int.toNat_natCast]
  constructor
  ·rintro ⟨⟨_,h1⟩,h2⟩; exact⟨h1.resolve_left (by omega),h2.resolve_left (by omega)⟩
  ·rintro ⟨h1,h2⟩; exact⟨⟨hc,.inr h1⟩,.inr h2⟩
 unfold aO0;rw [if_neg (by simpa using hz),if_neg (by simpa using hc),aX3 hlt]
 constructor
 ·intro h p hp
  by_cases c:zF f &&& 3824=0
  ·rw [if_neg (by simp [c])] at h
   cases h2:rU f s.ag s.fa with
   | false=>rw [h2,if_pos rfl] at h; cases h
   | true=> have h3:=ef.1 h2;unfold okN;simp only [Bool.and_eq_true,decide_eq_true_eq];exact⟨⟨e1.1 c p hp,e2.1 h3.1 p hp⟩,e3.1 h3.2 p hp⟩
  ·rw [if_pos (by simp [c])] at h; cases h
 ·intro h;have h':∀ p ∈ xE f,(sX p &&& 3824=0/\wJ p / 2 ^ A=0)/\ tF p / 2 ^ F=0:=fun p hp=>by simpa [okN] using h p hp
  have c:zF f &&& 3824=0:=e1.2 fun p hp=>(h' p hp).1.1;rw [if_neg (by simp [c]),ef.2 ⟨e2.2 fun p hp=>(h' p hp).1.2,e3.2 fun p hp=>(h' p hp).2⟩,if_neg (by decide)]
def okT (A F:Nat):Tr->Prop
 | .nil=>True
 | .nd op i e g x y=>okN A F ⟨op,i,e,g,0,0⟩= true/\okT A F x/\okT A F y
theorem aUh {A F:Nat}:∀ (t:Tr) (out:List Nd),okT A F t->(∀ q ∈ out,okN A F q=true)->∀ q ∈ (qH t out).2,okN A F q=true
 | .nil,out,_,h=>h
 | .nd op i e g x y,out,⟨h1,h2,h3⟩,h=>by
  have hx:∀ q ∈ (if (xZ op).1.x=true then qH x out else(0,out)).2,okN A F q=true:=by
   split
   ·exact aUh x out h2 h
   ·exact h
  have hy:∀ q ∈ (if (xZ op).1.y=true then qH y (if (xZ op).1.x=true then qH x out else(0,out)).2 else(0,(if (xZ op).1.x=true then qH x out else(0,out)).2)).2,okN A F q=true:=by
   split
   ·exact aUh y _ h3 hx
   ·exact hx
  intro q hq;unfold qH at hq;simp only at hq
  split at hq
  ·exact hy q hq
  ·simp only [List.mem_append,List.mem_singleton] at hq
   rcases hq with hq | rfl
   ·exact hy q hq
   ·exact h1
end Te
namespace Fm
theorem aWd {t:Tr} (h:wfT t) (hl:(canon t).length<=200):xC (canon t)= 0/\uV (canon t)= t:=by obtain⟨a,_,c,d⟩:=qO h;exact⟨aJq c hl a,d⟩
def szT (t:Tr):Nat:=(canon t).length
theorem bY7 {op i e g:Int} {x:Tr} (hx:(xZ op).1.x=true) (hy:(xZ op).1.y=false) (hw:yK ⟨op,i,e,g,0,0⟩ 1=0) (h:wfT x):szT (.nd op i e g x .nil)<=szT x+1:=by
 obtain⟨hv,_,hp,ht⟩:=qO h;unfold szT;generalize canon x=c at hv hp ht
 have hq:yK ⟨op,i,e,g,(c.length:Int)-1,0⟩ c.length=0:=by
  refine tL (p:=⟨op,i,e,g,0,0⟩) hw ?_ ?_
  ·simp only [hx,↓reduceIte]; omega
  ·simp only [hy,Bool.false_eq_true,↓reduceIte]
 have hvs:zI (c ++ [⟨op,i,e,g,(c.length:Int)-1,0⟩]):=tY hv hq
 have htr:tree (c ++ [⟨op,i,e,g,(c.length:Int)-1,0⟩]) c.length = .nd op i e g x .nil:=by
  rw [vV hvs (by simp)];have hgl:(c ++ [(⟨op,i,e,g,(c.length:Int)-1,0⟩:Nd)]).getD c.length nd0=⟨op,i,e,g,(c.length:Int)-1,0⟩:=by simp [List.getD]
  rw [hgl];simp only [hx,hy,Bool.false_eq_true,↓reduceIte];rw [uW hvs _ (by omega),show ((c.length:Int)-1).toNat=c.length-1 by omega,ht]
 have:=iZ hvs (i:=c.length) (by simp);rw [uZ hvs (by simp),htr] at this;simpa using this
theorem bY6 {op i e g:Int} {x y:Tr} (hx:(xZ op).1.x=true) (hy:(xZ op).1.y=true) (hw:yK ⟨op,i,e,g,0,0⟩ 1=0) (h:wfT x) (h2:wfT y):szT (.nd op i e g x y)<=szT x+szT y+1:=by
 obtain⟨hv,_,hp,ht⟩:=qO h;obtain⟨hv2,_,hp2,ht2⟩:=qO h2;unfold szT;generalize canon x=a at hv hp ht;generalize canon y=b at hv2 hp2 ht2;have hva:zI (bXo a b):=nY hv hv2;have hsh:=bS hv hv2 (b.length-1) (by omega);have hta:=uW hva (a.length-1) (by omega);have hll:=aEd a b;have hsh':tree (bXo a b) (a.length+(b.length-1))= y:=by rw [<- ht2]; exact hsh
 have hta':tree (bXo a b) (a.length-1)= x:=by rw [<- ht]; exact hta
 generalize bXo a b=l at hva hll hsh' hta'
 have hq:yK ⟨op,i,e,g,(a.length:Int)-1,((a.length+b.length:Nat):Int)-1⟩ l.length=0:=by
  refine tL (p:=⟨op,i,e,g,0,0⟩) hw ?_ ?_
  ·simp only [hx,↓reduceIte]; omega
  ·simp only [hy,↓reduceIte]; omega
 have hvs:zI (l ++ [⟨op,i,e,g,(a.length:Int)-1,((a.length+b.length:Nat):Int)-1⟩]):=tY hva hq
 have htr:tree (l ++ [⟨op,i,e,g,(a.length:Int)-1,((a.length+b.length:Nat):Int)-1⟩]) l.length = .nd op i e g x y:=by
  rw [vV hvs (by simp)];have hgl:(l ++ [(⟨op,i,e,g,(a.length:Int)-1,((a.length+b.length:Nat):Int)-1⟩:Nd)]).getD l.length nd0=⟨op,i,e,g,(a.length:Int)-1,((a.length+b.length:Nat):Int)-1⟩:=by simp [List.getD]
  rw [hgl];simp only [hx,hy,↓reduceIte];rw [show ((a.length:Int)-1).toNat=a.length-1 by omega,show (((a.length+b.length:Nat):Int)-1).toNat=a.length+(b.length-1) by omega,uW hvs _ (by omega),uW hvs _ (by omega),hta',hsh']
 have:=iZ hvs (i:=l.length) (by simp);rw [uZ hvs (by simp),htr] at this;simp only [List.length_append,List.length_singleton,hll] at this;exact this
end Fm
namespace Te
structure Is (A F : Nat) (f : List Nd) (t : Tr) : Prop where
 c:xC f=0
 e:uV f=t
 o:okT A F t
theorem Is.wf {A F:Nat} {f:List Nd} {t:Tr} (h:Is A F f t):wfT t:=by rw [<- h.e]; exact aSh h.c
theorem Is.req {s:pF} {A F T:Nat} {rs:List zG} (hs:s=⟨A,F,T,rs⟩) (hz:chk s=0) (ok:OkR rs A F T) {f:List Nd} {t:Tr} (h:Is A F f t):aO0 s f=0:=by refine(aMa hs hz ok h.c).2 ?_;rw [cV h.c];exact aUh _ [] (by have:=h.o; rw [<- h.e] at this; exact this) fun q hq=>by cases hq
theorem Is.un {A F:Nat} {x:Nd} {f:List Nd} {t:Tr} (h:Is A F f t) (hx:(xZ x.op).1.x=true) (hy:(xZ x.op).1.y=false) (hw:yK ⟨x.op,x.i,x.e,x.g,0,0⟩ 1=0) (hx0:x.y=0) (ho:okN A F ⟨x.op,x.i,x.e,x.g,0,0⟩= true) (hl:szT t<200) :
  Is A F (uF x [f]) (.nd x.op x.i x.e x.g t .nil)/\ szT (.nd x.op x.i x.e x.g t .nil)<=szT t+1:=by
 have h1:=bY7 hx hy hw h.wf;have hwf:wfT (.nd x.op x.i x.e x.g t .nil):=⟨hw,by rw [if_pos hx]; exact h.wf,by rw [if_neg (by rw [hy]; decide)]⟩;refine⟨?_,h1⟩;rw [aJ1 h.c hx hy hw hx0,h.e,if_neg (by unfold szT at h1 hl; omega)];obtain⟨a,b⟩:=aWd hwf (by unfold szT at h1 hl; omega);exact⟨a,b,ho,h.o,trivial⟩
theorem Is.bin {A F:Nat} {x:Nd} {f g:List Nd} {t u:Tr} (h:Is A F f t) (h2:Is A F g u) (hx:(xZ x.op).1.x=true) (hy:(xZ x.op).1.y=true) (hw:yK ⟨x.op,x.i,x.e,x.g,0,0⟩ 1=0) (ho:okN A F ⟨x.op,x.i,x.e,x.g,0,0⟩= true) (hl:szT t+szT u<200) :
  Is A F (uF x [f,g]) (.nd x.op x.i x.e x.g t u)/\ szT (.nd x.op x.i x.e x.g t u)<=szT t+szT u+1:=by
 have h1:=bY6 hx hy hw h.wf h2.wf;have hwf:wfT (.nd x.op x.i x.e x.g t u):=⟨hw,by rw [if_pos hx]; exact h.wf,by rw [if_pos hy]; exact h2.wf⟩;refine⟨?_,h1⟩;rw [aJ0 h.c h2.c hx hy hw,h.e,h2.e,if_neg (by unfold szT at h1 hl; omega)];obtain⟨a,b⟩:=aWd hwf (by unfold szT at h1 hl; omega);exact⟨a,b,ho,h.o,h2.o⟩
end Te
end Go.Pd
