/- Part C4. -/
import Derived.Test.YtndfaefmmcoapaaGreatUoC1
import Derived.Test.YtndfaefmmcoapaaGreatUoP7
import Derived.Test.YtndfaefmmcoapaaGreatUoKG
set_option linter.unusedSectionVars false
set_option linter.unusedVariables false
set_option linter.unusedSimpArgs false
set_option linter.defProp false
set_option maxRecDepth 20000
set_option maxHeartbeats 1000000
namespace Go.Pd
open Go Go.Proofs
open BitVec renaming isValue -> ZA
open Rs Fm Ru Te
namespace Ru
def qN (m:oE) (W:Nat) (n:Nd) (x y:BitVec 64):BitVec 64 × Bool:=
 if n.op=1 then(qE W,true) else if n.op=2 then(0#64,true) else if n.op=3 then(if n.i<m.V.length then(m.V.getD n.i.toNat 0,true) else(0#64,false)) else if n.op=4 then(qE W &&& ~~~x,true)
 else if n.op=5 then(x &&& y,true) else if n.op=6 then(x ||| y,true) else if n.op=7 then(qE W &&& ~~~x ||| y,true) else if n.op=8 then(qE W &&& ~~~(x ^^^ y),true)
 else if n.op=9 then(if n.i<m.R.length then(aXm (m.R.getD n.i.toNat []) x,true) else(0#64,false)) else if n.op=10 then(if n.i<m.R.length then(aC9 (m.R.getD n.i.toNat []) x,true) else(0#64,false))
 else if n.op=11 then(if n.g<(2 ^ m.R.length:Nat) then(aXm (zC m n.g.toNat false) x,true) else(0#64,false)) else if n.op=12 then(if n.g<(2 ^ m.R.length:Nat) then(aXm (zC m n.g.toNat true) x,true) else(0#64,false))
 else if n.op=13 then(if n.g<(2 ^ m.R.length:Nat) then(mY (zC m n.g.toNat false) (qE W) x y W,true) else(0#64,false)) else(0#64,false)
theorem aH9 {W:Nat} (h1:1<=W) (h2:W<=64):18446744073709551615#64 >>> (64-W)= qE W:=by
 have:∀ W,W<65->1<=W->18446744073709551615#64 >>> (64-W)= qE W:=by decide
 exact this W (by omega) h1
end Ru
theorem aF7 {m:oE} {W:Nat} (ok:mU m W) {n:Nd} {k:Int} (hn:zX n k=0) {x y:BitVec 64} (hcom:n.op=13->n.g<(2 ^ m.R.length:Nat)->mY (zC m n.g.toNat false) (qE W) x y (W+1)= mY (zC m n.g.toNat false) (qE W) x y W) :
  yT Tryz.prog 177 [m.d,.agg n.row,.int .u64 (ui x),.int .u64 (ui y)] (.tup [.int .u64 (ui (qN m W n x y).1),.bool (qN m W n x y).2]):=by
 obtain⟨W1,W64⟩:=ok.hW;have hR4:=ok.hR;have hV8:=ok.hV;have hw:IntKind.i64.wrap (64-m.W)= ((64-W:Nat):Int):=by rw [ok.w,wrap_i64 (by omega)]; omega
 have hfull:(18446744073709551615:Int)= ui 18446744073709551615#64:=rfl;have hall:=aH9 W1 W64
 have hi0:n.op=3\/n.op=9\/n.op=10->0<=n.i:=fun h=>by
  rcases h with h | h | h
  ·exact(nR hn (by rw [h]; rfl)).1
  ·exact(uI hn (by rw [h]; rfl)).1
  ·exact(uI hn (by rw [h]; rfl)).1
 have hg0:n.op=11\/n.op=12\/n.op=13->1<=n.g/\n.g<=15:=fun h=>by
  have hgr:(xZ n.op).1.gr=true:=by rcases h with h | h | h <;> rw [h] <;> rfl
  have h1:=(zA.1 hn).2.2.2.2;simp only [Bool.or_eq_false_iff,hgr,xO,Bool.true_and,decide_eq_false_iff_not] at h1;omega
 have hsh:=aW1 (k:=m.R.length) (by omega);obtain⟨op,i,e,g,a,b⟩:=n;simp only at hi0 hg0 hcom;have hrow:(Nd.row ⟨op,i,e,g,a,b⟩)= [.int .i64 op,.int .i64 i,.int .i64 e,.int .i64 g,.int .i64 a,.int .i64 b]:=rfl;rw [hrow];unfold oE.d
 rcases uW op with rfl | rfl | rfl | rfl | rfl | rfl | rfl | rfl | rfl | rfl | rfl | rfl | rfl | rfl | rfl | rfl | rfl | rfl | rfl | rfl | rfl | h | h
 ·rw [show qN m W ⟨1,i,e,g,a,b⟩ x y=(qE W,true) from rfl,<- hall];refine xX.xR mixed Tryz.func177 nA (by simp) fun hf=>?_;simp only [simprocAttr,-ZA,↓zU,↓zD,zV,zT,zW,hw]
  (repeat refine sd ?_)
  exact .drop (by simp) (by simp [vw,vwL])
 ·rw [show qN m W ⟨2,i,e,g,a,b⟩ x y=(0#64,true) from rfl];refine xX.xR mixed Tryz.func177 nA (by simp) fun hf=>?_;simp only [simprocAttr,-ZA,↓zU,↓zD,zV,zT,zW,hw]
  (repeat refine sd ?_)
  exact .drop (by simp) (by simp [vw,vwL])
 ·have h0:=hi0 (.inl rfl)
  by_cases hlt:i<(m.V.length:Int)
  ·have hv:qN m W ⟨3,i,e,g,a,b⟩ x y=(m.V.getD i.toNat 0,true):=if_pos hlt;have hge:¬ (m.V.length:Int)<=i:=by omega
   obtain⟨j,rfl⟩:=Int.eq_ofNat_of_zero_le h0;have hg:=wS m.V (show j<m.V.length by omega);rw [Int.toNat_natCast] at hv;rw [hv];generalize m.V.getD j 0=z at hg;refine xX.xR mixed Tryz.func177 nA (by simp) fun hf=>?_;simp only [simprocAttr,-ZA,↓zU,↓zD,zV,zT,zW,hw,xQ,hge,hg]
   (repeat refine sd ?_)
   exact .drop (by simp) (by simp [vw,vwL])
  ·have hv:qN m W ⟨3,i,e,g,a,b⟩ x y=(0#64,false):=if_neg hlt;have hge:(m.V.length:Int)<=i:=by omega
   rw [hv];refine xX.xR mixed Tryz.func177 nA (by simp) fun hf=>?_;simp only [simprocAttr,-ZA,↓zU,↓zD,zV,zT,zW,hw,xQ,hge]
   (repeat refine sd ?_)
   exact .drop (by simp) (by simp [vw,vwL])
 ·rw [show qN m W ⟨4,i,e,g,a,b⟩ x y=(qE W &&& ~~~x,true) from rfl,<- hall];refine xX.xR mixed Tryz.func177 nA (by simp) fun hf=>?_;simp only [simprocAttr,-ZA,↓zU,↓zD,zV,zT,zW,hw]
  (repeat refine sd ?_)
  exact .drop (by simp) (by simp [vw,vwL])
 ·rw [show qN m W ⟨5,i,e,g,a,b⟩ x y=(x &&& y,true) from rfl];refine xX.xR mixed Tryz.func177 nA (by simp) fun hf=>?_;simp only [simprocAttr,-ZA,↓zU,↓zD,zV,zT,zW,hw]
  (repeat refine sd ?_)
  exact .drop (by simp) (by simp [vw,vwL])
 ·rw [show qN m W ⟨6,i,e,g,a,b⟩ x y=(x ||| y,true) from rfl];refine xX.xR mixed Tryz.func177 nA (by simp) fun hf=>?_;simp only [simprocAttr,-ZA,↓zU,↓zD,zV,zT,zW,hw]
  (repeat refine sd ?_)
  exact .drop (by simp) (by simp [vw,vwL])
 ·rw [show qN m W ⟨7,i,e,g,a,b⟩ x y=(qE W &&& ~~~x ||| y,true) from rfl,<- hall];refine xX.xR mixed Tryz.func177 nA (by simp) fun hf=>?_;simp only [simprocAttr,-ZA,↓zU,↓zD,zV,zT,zW,hw]
  (repeat refine sd ?_)
  exact .drop (by simp) (by simp [vw,vwL])
 ·rw [show qN m W ⟨8,i,e,g,a,b⟩ x y=(qE W &&& ~~~(x ^^^ y),true) from rfl,<- hall];refine xX.xR mixed Tryz.func177 nA (by simp) fun hf=>?_;simp only [simprocAttr,-ZA,↓zU,↓zD,zV,zT,zW,hw]
  (repeat refine sd ?_)
  exact .drop (by simp) (by simp [vw,vwL])
 ·have h0:=hi0 (.inr (.inl rfl))
  by_cases hlt:i<(m.R.length:Int)
  ·have hv:qN m W ⟨9,i,e,g,a,b⟩ x y=(aXm (m.R.getD i.toNat []) x,true):=if_pos hlt;have hge:¬ (m.R.length:Int)<=i:=by omega
   obtain⟨j,rfl⟩:=Int.eq_ofNat_of_zero_le h0;have hg:=nX m.R (show j<m.R.length by omega);have hc:=aX7 (aGq ok (show j<m.R.length by omega)) x;rw [Int.toNat_natCast] at hv;rw [hv];generalize m.R.getD j []=z at hg hc;refine xX.xR mixed Tryz.func177 nA (by simp) fun hf=>?_;simp only [simprocAttr,-ZA,↓zU,↓zD,zV,zT,zW,hw,zQ,hge,hg]
   (repeat refine sd ?_)
   refine .go (cr hc) ?_;simp only [simprocAttr,-ZA,↓zU,↓zD,zV,zT,zW];exact .drop (by simp) (by simp [vw,vwL])
  ·have hv:qN m W ⟨9,i,e,g,a,b⟩ x y=(0#64,false):=if_neg hlt;have hge:(m.R.length:Int)<=i:=by omega
   rw [hv];refine xX.xR mixed Tryz.func177 nA (by simp) fun hf=>?_;simp only [simprocAttr,-ZA,↓zU,↓zD,zV,zT,zW,hw,zQ,hge]
   (repeat refine sd ?_)
   exact .drop (by simp) (by simp [vw,vwL])
 ·have h0:=hi0 (.inr (.inr rfl))
  by_cases hlt:i<(m.R.length:Int)
  ·have hv:qN m W ⟨10,i,e,g,a,b⟩ x y=(aC9 (m.R.getD i.toNat []) x,true):=if_pos hlt;have hge:¬ (m.R.length:Int)<=i:=by omega
   obtain⟨j,rfl⟩:=Int.eq_ofNat_of_zero_le h0;have hg:=nX m.R (show j<m.R.length by omega);have hc:=aPk (aGq ok (show j<m.R.length by omega)) x;rw [Int.toNat_natCast] at hv;rw [hv];generalize m.R.getD j []=z at hg hc;refine xX.xR mixed Tryz.func177 nA (by simp) fun hf=>?_;simp only [simprocAttr,-ZA,↓zU,↓zD,zV,zT,zW,hw,zQ,hge,hg]
   (repeat refine sd ?_)
   refine .go (cr hc) ?_;simp only [simprocAttr,-ZA,↓zU,↓zD,zV,zT,zW];exact .drop (by simp) (by simp [vw,vwL])
  ·have hv:qN m W ⟨10,i,e,g,a,b⟩ x y=(0#64,false):=if_neg hlt;have hge:(m.R.length:Int)<=i:=by omega
   rw [hv];refine xX.xR mixed Tryz.func177 nA (by simp) fun hf=>?_;simp only [simprocAttr,-ZA,↓zU,↓zD,zV,zT,zW,hw,zQ,hge]
   (repeat refine sd ?_)
   exact .drop (by simp) (by simp [vw,vwL])
 ·have h0:=hg0 (.inl rfl)
  by_cases hlt:g<((2 ^ m.R.length:Nat):Int)
  ·have hv:qN m W ⟨11,i,e,g,a,b⟩ x y=(aXm (zC m g.toNat false) x,true):=if_pos hlt;have hge:¬ ((2 ^ m.R.length:Nat):Int)<=g:=by omega
   obtain⟨j,rfl⟩:=Int.eq_ofNat_of_zero_le (show 0<=g by omega);have hj:1<=j/\j<2 ^ m.R.length:=by omega
   have hc:=aS3 ok hj;have hb:=aX7 (aP ok hj false) x;rw [Int.toNat_natCast] at hv;rw [hv];unfold oE.d at hc;generalize zC m j false=z at hc hb ⊢;refine xX.xR mixed Tryz.func177 nA (by simp) fun hf=>?_;simp only [simprocAttr,-ZA,↓zU,↓zD,zV,zT,zW,hw,zQ,hge,hsh]
   (repeat refine sd ?_)
   refine .go (cr hc) ?_;simp only [simprocAttr,-ZA,↓zU,↓zD,zV,zT,zW];refine .go (cr hb) ?_;simp only [simprocAttr,-ZA,↓zU,↓zD,zV,zT,zW];exact .drop (by simp) (by simp [vw,vwL])
  ·have hv:qN m W ⟨11,i,e,g,a,b⟩ x y=(0#64,false):=if_neg hlt;have hge:((2 ^ m.R.length:Nat):Int)<=g:=by omega
   rw [hv];refine xX.xR mixed Tryz.func177 nA (by simp) fun hf=>?_;simp only [simprocAttr,-ZA,↓zU,↓zD,zV,zT,zW,hw,zQ,hge,hsh]
   (repeat refine sd ?_)
   exact .drop (by simp) (by simp [vw,vwL])
 ·have h0:=hg0 (.inr (.inl rfl))
  by_cases hlt:g<((2 ^ m.R.length:Nat):Int)
  ·have hv:qN m W ⟨12,i,e,g,a,b⟩ x y=(aXm (zC m g.toNat true) x,true):=if_pos hlt;have hge:¬ ((2 ^ m.R.length:Nat):Int)<=g:=by omega
   obtain⟨j,rfl⟩:=Int.eq_ofNat_of_zero_le (show 0<=g by omega);have hj:1<=j/\j<2 ^ m.R.length:=by omega
   have hc:=aCn ok hj;have hb:=aX7 (aP ok hj true) x;rw [Int.toNat_natCast] at hv;rw [hv];unfold oE.d at hc;generalize zC m j true=z at hc hb ⊢;refine xX.xR mixed Tryz.func177 nA (by simp) fun hf=>?_;simp only [simprocAttr,-ZA,↓zU,↓zD,zV,zT,zW,hw,zQ,hge,hsh]
   (repeat refine sd ?_)
   refine .go (cr hc) ?_;simp only [simprocAttr,-ZA,↓zU,↓zD,zV,zT,zW];refine .go (cr hb) ?_;simp only [simprocAttr,-ZA,↓zU,↓zD,zV,zT,zW];exact .drop (by simp) (by simp [vw,vwL])
  ·have hv:qN m W ⟨12,i,e,g,a,b⟩ x y=(0#64,false):=if_neg hlt;have hge:((2 ^ m.R.length:Nat):Int)<=g:=by omega
   rw [hv];refine xX.xR mixed Tryz.func177 nA (by simp) fun hf=>?_;simp only [simprocAttr,-ZA,↓zU,↓zD,zV,zT,zW,hw,zQ,hge,hsh]
   (repeat refine sd ?_)
   exact .drop (by simp) (by simp [vw,vwL])
 ·have h0:=hg0 (.inr (.inr rfl))
  by_cases hlt:g<((2 ^ m.R.length:Nat):Int)
  ·have hv:qN m W ⟨13,i,e,g,a,b⟩ x y=(mY (zC m g.toNat false) (qE W) x y W,true):=if_pos hlt;have hge:¬ ((2 ^ m.R.length:Nat):Int)<=g:=by omega
   have hcm:=hcom rfl hlt;obtain⟨j,rfl⟩:=Int.eq_ofNat_of_zero_le (show 0<=g by omega);have hj:1<=j/\j<2 ^ m.R.length:=by omega
   have hc:=aS3 ok hj;have hb:=aLv (aP ok hj false) (by rw [Int.toNat_natCast] at hcm; exact hcm);rw [Int.toNat_natCast] at hv;rw [hv];unfold oE.d at hc;generalize zC m j false=z at hc hb ⊢;refine xX.xR mixed Tryz.func177 nA (by simp) fun hf=>?_;simp only [simprocAttr,-ZA,↓zU,↓zD,zV,zT,zW,hw,zQ,hge,hsh]
   (repeat refine sd ?_)
   refine .go (cr hc) ?_;simp only [simprocAttr,-ZA,↓zU,↓zD,zV,zT,zW,hall];refine .go (cr hb) ?_;simp only [simprocAttr,-ZA,↓zU,↓zD,zV,zT,zW];exact .drop (by simp) (by simp [vw,vwL])
  ·have hv:qN m W ⟨13,i,e,g,a,b⟩ x y=(0#64,false):=if_neg hlt;have hge:((2 ^ m.R.length:Nat):Int)<=g:=by omega
   rw [hv];refine xX.xR mixed Tryz.func177 nA (by simp) fun hf=>?_;simp only [simprocAttr,-ZA,↓zU,↓zD,zV,zT,zW,hw,zQ,hge,hsh]
   (repeat refine sd ?_)
   exact .drop (by simp) (by simp [vw,vwL])
 ·rw [show qN m W ⟨14,i,e,g,a,b⟩ x y=(0#64,false) from rfl];refine xX.xR mixed Tryz.func177 nA (by simp) fun hf=>?_;simp only [simprocAttr,-ZA,↓zU,↓zD,zV,zT,zW,hw]
  (repeat refine sd ?_)
  exact .drop (by simp) (by simp [vw,vwL])
 ·rw [show qN m W ⟨15,i,e,g,a,b⟩ x y=(0#64,false) from rfl];refine xX.xR mixed Tryz.func177 nA (by simp) fun hf=>?_;simp only [simprocAttr,-ZA,↓zU,↓zD,zV,zT,zW,hw]
  (repeat refine sd ?_)
  exact .drop (by simp) (by simp [vw,vwL])
 ·rw [show qN m W ⟨16,i,e,g,a,b⟩ x y=(0#64,false) from rfl];refine xX.xR mixed Tryz.func177 nA (by simp) fun hf=>?_;simp only [simprocAttr,-ZA,↓zU,↓zD,zV,zT,zW,hw]
  (repeat refine sd ?_)
  exact .drop (by simp) (by simp [vw,vwL])
 ·rw [show qN m W ⟨17,i,e,g,a,b⟩ x y=(0#64,false) from rfl];refine xX.xR mixed Tryz.func177 nA (by simp) fun hf=>?_;simp only [simprocAttr,-ZA,↓zU,↓zD,zV,zT,zW,hw]
  (repeat refine sd ?_)
  exact .drop (by simp) (by simp [vw,vwL])
 ·rw [show qN m W ⟨18,i,e,g,a,b⟩ x y=(0#64,false) from rfl];refine xX.xR mixed Tryz.func177 nA (by simp) fun hf=>?_;simp only [simprocAttr,-ZA,↓zU,↓zD,zV,zT,zW,hw]
  (repeat refine sd ?_)
  exact .drop (by simp) (by simp [vw,vwL])
 ·rw [show qN m W ⟨19,i,e,g,a,b⟩ x y=(0#64,false) from rfl];refine xX.xR mixed Tryz.func177 nA (by simp) fun hf=>?_;simp only [simprocAttr,-ZA,↓zU,↓zD,zV,zT,zW,hw]
  (repeat refine sd ?_)
  exact .drop (by simp) (by simp [vw,vwL])
 ·rw [show qN m W ⟨20,i,e,g,a,b⟩ x y=(0#64,false) from rfl];refine xX.xR mixed Tryz.func177 nA (by simp) fun hf=>?_;simp only [simprocAttr,-ZA,↓zU,↓zD,zV,zT,zW,hw]
  (repeat refine sd ?_)
  exact .drop (by simp) (by simp [vw,vwL])
 ·rw [show qN m W ⟨21,i,e,g,a,b⟩ x y=(0#64,false) from rfl];refine xX.xR mixed Tryz.func177 nA (by simp) fun hf=>?_;simp only [simprocAttr,-ZA,↓zU,↓zD,zV,zT,zW,hw]
  (repeat refine sd ?_)
  exact .drop (by simp) (by simp [vw,vwL])
 ·have hv:qN m W ⟨op,i,e,g,a,b⟩ x y=(0#64,false):=by unfold qN; simp only; repeat rw [if_neg (by omega)]
  have q1:(op==1)= false:=by rw [beq_eq_false_iff_ne]; omega
  have q2:(op==2)= false:=by rw [beq_eq_false_iff_ne]; omega
  have q3:(op==3)= false:=by rw [beq_eq_false_iff_ne]; omega
  have q4:(op==4)= false:=by rw [beq_eq_false_iff_ne]; omega
  have q5:(op==5)= false:=by rw [beq_eq_false_iff_ne]; omega
  have q6:(op==6)= false:=by rw [beq_eq_false_iff_ne]; omega
  have q7:(op==7)= false:=by rw [beq_eq_false_iff_ne]; omega
  have q8:(op==8)= false:=by rw [beq_eq_false_iff_ne]; omega
  have q9:(op==9)= false:=by rw [beq_eq_false_iff_ne]; omega
  have q10:(op==10)= false:=by rw [beq_eq_false_iff_ne]; omega
  have q11:(op==11)= false:=by rw [beq_eq_false_iff_ne]; omega
  have q12:(op==12)= false:=by rw [beq_eq_false_iff_ne]; omega
  have q13:(op==13)= false:=by rw [beq_eq_false_iff_ne]; omega
  rw [hv];refine xX.xR mixed Tryz.func177 nA (by simp) fun hf=>?_;simp only [simprocAttr,-ZA,↓zU,↓zD,zV,zT,zW,hw,q1,q2,q3,q4,q5,q6,q7,q8,q9,q10,q11,q12,q13]
  (repeat refine sd ?_)
  exact .drop (by simp) (by simp [vw,vwL])
 ·have hv:qN m W ⟨op,i,e,g,a,b⟩ x y=(0#64,false):=by unfold qN; simp only; repeat rw [if_neg (by omega)]
  have q1:(op==1)= false:=by rw [beq_eq_false_iff_ne]; omega
  have q2:(op==2)= false:=by rw [beq_eq_false_iff_ne]; omega
  have q3:(op==3)= false:=by rw [beq_eq_false_iff_ne]; omega
  have q4:(op==4)= false:=by rw [beq_eq_false_iff_ne]; omega
  have q5:(op==5)= false:=by rw [beq_eq_false_iff_ne]; omega
  have q6:(op==6)= false:=by rw [beq_eq_false_iff_ne]; omega
  have q7:(op==7)= false:=by rw [beq_eq_false_iff_ne]; omega
  have q8:(op==8)= false:=by rw [beq_eq_false_iff_ne]; omega
  have q9:(op==9)= false:=by rw [beq_eq_false_iff_ne]; omega
  have q10:(op==10)= false:=by rw [beq_eq_false_iff_ne]; omega
  have q11:(op==11)= false:=by rw [beq_eq_false_iff_ne]; omega
  have q12:(op==12)= false:=by rw [beq_eq_false_iff_ne]; omega
  have q13:(op==13)= false:=by rw [beq_eq_false_iff_ne]; omega
  rw [hv];refine xX.xR mixed Tryz.func177 nA (by simp) fun hf=>?_;simp only [simprocAttr,-ZA,↓zU,↓zD,zV,zT,zW,hw,q1,q2,q3,q4,q5,q6,q7,q8,q9,q10,q11,q12,q13]
  (repeat refine sd ?_)
  exact .drop (by simp) (by simp [vw,vwL])
section
open Rs Fm Ru Te
namespace Te
theorem aKv {nx:Nat} {xS:List (Nat × Ob)} (hu:bH ⟨nx,xS⟩) (nx':Nat) (ob:Ob):∀ k o,St.look xS k=some o->St.get ⟨nx',(nx,ob) :: xS⟩ k=some o:=fun k o hk=>by have:=(hu k o hk).1;simp only at this;show St.look (_ :: _) k=_;rw [xY,if_neg (by omega)]; exact hk
end Te
end
section
open Rs Fm Ru Te
end
section
open Rs Fm Ru Te
theorem qU (c:Nat):∀ {l:List (Nat × Ob)} {k:Nat} {o:Ob},St.look l k=some o->St.look (yQ c l) (c+k)= some (o.shift c)
 | [],k,o,h=>by cases h
 | (j,ob) :: r,k,o,h=>by
  rw [xY] at h;show St.look ((c+j,ob.shift c) :: yQ c r) _=_;rw [xY]
  by_cases e:j=k
  ·rw [if_pos e] at h; rw [if_pos (by omega)]; cases h; rfl
  ·rw [if_neg e] at h; rw [if_neg (by omega)]; exact qU c h
namespace Te
def aGe (s:aXk) (f:List Nd):Int:=if chk s≠0 then chk s else if xA f≠0 then xA f else if (qI .andNot .i64 (zG f:Int) 271 != 0)= true then 10 else if rQ f s.ag s.fa=false then 2 else 0
theorem oW {s:aXk} {f:List Nd} (h:aGe s f=0):chk s=0/\xA f=0:=by
 unfold aGe at h
 by_cases c1:chk s≠0
 ·rw [if_pos c1] at h; exact absurd h c1
 rw [if_neg c1] at h
 by_cases c2:xA f≠0
 ·rw [if_pos c2] at h; exact absurd h c2
 exact⟨by simpa using c1,by simpa using c2⟩
end Te
end
section
open Rs Fm Ru Te
namespace Te
end Te
end
open Rs Fm Ru Te
namespace Te
def pt (T p:Nat):Nat × Nat:=(p / T,p % T)
def cB (rs:List wC) (g:Nat) (m:Bool) (p q:Nat × Nat) (a:Nat):Bool:=(List.range a).all fun b=>!g.testBit b || (decide (tZ rs b p=tZ rs b q)== m)
end Te
open Ru
namespace Ru
def jR (rs:List wC) (l:List (Nat × Nat)) (A F:Nat):oE:=⟨(l.length:Int),cC rs l F,nC rs l A⟩
def vJ (R t:Nat):List (Nat × Nat):=(List.range R).map fun r=>(r,t)
theorem aX9 (R t:Nat):(vJ R t).length=R:=by simp [vJ]
theorem sI {k:Nat} (hk:k<64) (i:Nat):(1#64 <<< k).getLsbD i=decide (i=k):=by
 by_cases hi:i<64
 ·have:∀ k,k<64->∀ i,i<64->(1#64 <<< k).getLsbD i=decide (i=k):=by decide
  exact this k hk i hi
 ·rw [BitVec.getLsbD_of_ge _ _ (by omega)];exact(decide_eq_false (by omega)).symm
theorem bE {rs:List wC} {l:List (Nat × Nat)} {f:Nat}:∀ (k i:Nat),k<=64->(eO rs l f k).getLsbD i=(decide (i<k)&& (aKn rs (l.getD i (0,0))).getLsbD f)
 | 0,i,_=>by simp [eO]
 | k+1,i,hk=>by
  unfold eO;rw [BitVec.getLsbD_or,bE k i (by omega)]
  by_cases e:i=k
  ·subst e
   cases hb:(aKn rs (l.getD i (0,0))).getLsbD f
   ·simp
   ·rw [if_pos rfl,sI (by omega)];simp
  ·have h2:(if (aKn rs (l.getD k (0,0))).getLsbD f=true then 1#64 <<< k else 0#64).getLsbD i=false:=by
    split
    ·rw [sI (by omega)]; exact decide_eq_false e
    ·exact BitVec.getLsbD_zero
   rw [h2,Bool.or_false];congr 1;rw [Bool.eq_iff_iff,decide_eq_true_iff,decide_eq_true_iff]; omega
theorem mM {rs:List wC} {l:List (Nat × Nat)} {a:Nat} {x:Int}:∀ (k i:Nat),k<=64->(cB rs l a x k).getLsbD i=(decide (i<k)&& decide (tZ rs a (l.getD i (0,0))= x))
 | 0,i,_=>by simp [cB]
 | k+1,i,hk=>by
  unfold cB;rw [BitVec.getLsbD_or,mM k i (by omega)]
  by_cases e:i=k
  ·subst e
   by_cases hb:tZ rs a (l.getD i (0,0))= x
   ·rw [if_pos hb,sI (by omega),decide_eq_true hb];simp
   ·rw [if_neg hb,decide_eq_false hb];simp
  ·have h2:(if tZ rs a (l.getD k (0,0))= x then 1#64 <<< k else 0#64).getLsbD i=false:=by
    split
    ·rw [sI (by omega)]; exact decide_eq_false e
    ·exact BitVec.getLsbD_zero
   rw [h2,Bool.or_false];congr 1;rw [Bool.eq_iff_iff,decide_eq_true_iff,decide_eq_true_iff]; omega
theorem aVa {rs:List wC} {A F T:Nat} (ok:OkR rs A F T) {l:List (Nat × Nat)} (h1:1<=l.length) (h2:l.length<=64):mU (jR rs l A F) l.length where
 w:=rfl
 hW:=⟨h1,h2⟩
 hV:=by have:=ok.hF; simp [jR,cC]; exact this
 hR:=by have:=ok.hA; simp [jR,nC]; exact this
 row:=fun r hr=>by simp only [jR,nC,List.mem_map] at hr;obtain⟨a,_,rfl⟩:=hr;simp [lI]
 val:=fun x hx=>by simp only [jR,cC,List.mem_map] at hx;obtain⟨f,_,rfl⟩:=hx;refine aW7 h2 fun i hi=>?_;rw [bE _ _ h2,Bool.and_eq_true] at hi;exact of_decide_eq_true hi.1
 rel:=fun r hr x hx=>by simp only [jR,nC,List.mem_map] at hr;obtain⟨a,_,rfl⟩:=hr;simp only [lI,List.mem_map] at hx;obtain⟨p,_,rfl⟩:=hx;refine aW7 h2 fun i hi=>?_;rw [mM _ _ h2,Bool.and_eq_true] at hi;exact of_decide_eq_true hi.1
end Ru
open Rs Fm Ru Te
namespace Te
end Te
namespace Te
end Te
open Rs Fm Ru Te
namespace Te
def evT (rs:List wC) (A T:Nat):Tr->Tab
 | .nil=>fun _=>false
 | .nd op i e g x y=>aRg rs A T ⟨op,i,e,g,0,0⟩ (evT rs A T x) (evT rs A T y)
theorem aM0 {rs:List wC} {A T:Nat} {n m:Nd} {x y x' y':Tab} (h1:n.op=m.op) (h2:n.i=m.i) (h3:n.g=m.g) (hx:(xZ n.op).1.x=true->x=x') (hy:(xZ n.op).1.y=true->y=y') :
  aRg rs A T n x y=aRg rs A T m x' y':=by
 obtain⟨op,i,e,g,a,b⟩:=n;obtain⟨op',i',e',g',a',b'⟩:=m;simp only at h1 h2 h3 hx hy;subst h1 h2 h3;rcases uW op with rfl | rfl | rfl | rfl | rfl | rfl | rfl | rfl | rfl | rfl | rfl | rfl | rfl | rfl | rfl | rfl | rfl | rfl | rfl | rfl | rfl | h | h
 all_goals first
  | (have hx':=hx rfl; have hy':=hy rfl; subst hx' hy'; rfl)
  | (have hx':=hx rfl; subst hx'; rfl)
  | rfl
  | (unfold aRg aB5; simp only; funext p; repeat rw [if_neg (by omega)])
def okN (A F:Nat) (p:Nd):Bool:=decide (rY p &&& 3824=0)&& decide (vV p / 2 ^ A=0)&& decide (rZ p / 2 ^ F=0)
theorem rK {m:Nd->Nat} {φ:Nat->Nat} (h0:φ 0=0) (h:∀ a b,φ (a ||| b)= φ a ||| φ b) (l:List Nd):φ (yC m l)= yC (fun p=>φ (m p)) l:=by
 have key:∀ (l:List Nd) (a:Nat),φ (l.foldl (fun a p=>a ||| m p) a)= l.foldl (fun a p=>a ||| φ (m p)) (φ a):=by
  intro l
  induction l with
  | nil=>intro a; rfl
  | cons p r ih=>intro a; rw [List.foldl_cons,List.foldl_cons,ih,h]
 unfold yC;rw [key,h0]
theorem aN {n:Nat} (h:n<4096):(qI .andNot .i64 (n:Int) 271 != 0)= !decide (n &&& 3824=0):=by
 have:∀ n:Fin 4096,(qI .andNot .i64 ((n.val:Nat):Int) 271 != 0)= !decide (n.val &&& 3824=0):=by decide +kernel
 exact this ⟨n,h⟩
theorem aEq {s:aXk} {A F T:Nat} {rs:List wC} (hs:s=⟨A,F,T,rs⟩) (hz:chk s=0) (ok:OkR rs A F T) {f:List Nd} (hc:xA f=0):aGe s f=0 ↔ ∀ p ∈ xC f,okN A F p=true:=by
 have hlt:zG f<4096:=by refine rN fun p _=>?_;have:=kT p.op;unfold rY; omega
 have e1:(zG f &&& 3824=0) ↔ ∀ p ∈ xC f,rY p &&& 3824=0:=by unfold zG;rw [rK (φ:=fun n=>n &&& 3824) (by decide) (fun a b=>Nat.and_or_distrib_right a b 3824),sS]
 have dv:∀ n a b:Nat,(a ||| b)/ 2 ^ n=a / 2 ^ n ||| b / 2 ^ n:=fun n a b=>by rw [<- Nat.shiftRight_eq_div_pow,<- Nat.shiftRight_eq_div_pow,<- Nat.shiftRight_eq_div_pow,Nat.shiftRight_or_distrib]
 have e2:tA f / 2 ^ A=0 ↔ ∀ p ∈ xC f,vV p / 2 ^ A=0:=by unfold tA;rw [rK (φ:=fun n=>n / 2 ^ A) (by simp) (dv A),sS]
 have e3:nZ f / 2 ^ F=0 ↔ ∀ p ∈ xC f,rZ p / 2 ^ F=0:=by unfold nZ;rw [rK (φ:=fun n=>n / 2 ^ F) (by simp) (dv F),sS]
 have hA:=ok.hA;have hF:=ok.hF
 have ef:rQ f s.ag s.fa=true ↔ tA f / 2 ^ A=0/\nZ f / 2 ^ F=0:=by
  subst hs;unfold rQ mP;simp only [Bool.and_eq_true,Bool.or_eq_true,decide_eq_true_eq,Int.toNat_natCast]
  constructor
  ·rintro ⟨⟨_,h1⟩,h2⟩; exact⟨h1.resolve_left (by omega),h2.resolve_left (by omega)⟩
  ·rintro ⟨h1,h2⟩; exact⟨⟨hc,.inr h1⟩,.inr h2⟩
 unfold aGe;rw [if_neg (by simpa using hz),if_neg (by simpa using hc),aN hlt]
 constructor
 ·intro h p hp
  by_cases c:zG f &&& 3824=0
  ·rw [if_neg (by simp [c])] at h
   cases h2:rQ f s.ag s.fa with
   | false=>rw [h2,if_pos rfl] at h; cases h
   | true=> have h3:=ef.1 h2;unfold okN;simp only [Bool.and_eq_true,decide_eq_true_eq];exact⟨⟨e1.1 c p hp,e2.1 h3.1 p hp⟩,e3.1 h3.2 p hp⟩
  ·rw [if_pos (by simp [c])] at h; cases h
 ·intro h;have h':∀ p ∈ xC f,(rY p &&& 3824=0/\vV p / 2 ^ A=0)/\ rZ p / 2 ^ F=0:=fun p hp=>by simpa [okN] using h p hp
  have c:zG f &&& 3824=0:=e1.2 fun p hp=>(h' p hp).1.1;rw [if_neg (by simp [c]),ef.2 ⟨e2.2 fun p hp=>(h' p hp).1.2,e3.2 fun p hp=>(h' p hp).2⟩,if_neg (by decide)]
end Te
namespace Fm
end Fm
namespace Te
end Te
open Rs Fm Ru Te
namespace Te
def aBp (φ:Nat->Bool):Nat->BitVec 64
 | 0=>0#64
 | k+1=>aBp φ k ||| (if φ k=true then 1#64 <<< k else 0#64)
theorem aTt {φ:Nat->Bool}:∀ (k i:Nat),k<=64->(aBp φ k).getLsbD i=(decide (i<k)&& φ i)
 | 0,i,_=>by simp [aBp]
 | k+1,i,hk=>by
  unfold aBp;rw [BitVec.getLsbD_or,aTt k i (by omega)]
  by_cases e:i=k
  ·subst e
   cases hb:φ i
   ·simp
   ·rw [if_pos rfl,sI (by omega)];simp
  ·have h2:(if φ k=true then 1#64 <<< k else 0#64).getLsbD i=false:=by
    split
    ·rw [sI (by omega)]; exact decide_eq_false e
    ·exact BitVec.getLsbD_zero
   rw [h2,Bool.or_false];congr 1;exact decide_eq_decide.2 (by omega)
def pB (T W:Nat) (x:Tab):BitVec 64:=aBp (fun w=>x (pt T w)) W
theorem yW {T W:Nat} {x:Tab} (hW:W<=64) (i:Nat):(pB T W x).getLsbD i=(decide (i<W)&& x (pt T i)):=aTt W i hW
theorem kG {a b:BitVec 64} (h:∀ i,i<64->a.getLsbD i=b.getLsbD i):a=b:=BitVec.eq_of_getLsbD_eq h
theorem aSu (r:List (BitVec 64)) (s:BitVec 64):∀ (k i:Nat),k<=64->(aS9 r s k).getLsbD i=(decide (i<k)&& (r.getD i 0 &&& ~~~s==0#64))
 | 0,i,_=>by simp [aS9]
 | k+1,i,hk=>by
  unfold aS9
  have e1:(if (r.getD k 0 &&& ~~~s==0#64)= true then aS9 r s k ||| 1#64 <<< k else aS9 r s k)= aS9 r s k ||| (if (r.getD k 0 &&& ~~~s==0#64)= true then 1#64 <<< k else 0#64):=by
   split
   ·rfl
   ·exact BitVec.or_zero.symm
  rw [e1,BitVec.getLsbD_or,aSu r s k i (by omega)]
  by_cases e:i=k
  ·subst e
   cases hb:(r.getD i 0 &&& ~~~s==0#64)
   ·simp
   ·rw [if_pos rfl,sI (by omega)];simp
  ·have h2:(if (r.getD k 0 &&& ~~~s==0#64)= true then 1#64 <<< k else 0#64).getLsbD i=false:=by
    split
    ·rw [sI (by omega)]; exact decide_eq_false e
    ·exact BitVec.getLsbD_zero
   rw [h2,Bool.or_false];congr 1;exact decide_eq_decide.2 (by omega)
theorem aOt {a s:BitVec 64}:(a &&& ~~~s==0#64)= true ↔ ∀ v,v<64->a.getLsbD v=true->s.getLsbD v=true:=by
 rw [beq_iff_eq]
 constructor
 ·intro h v hv ha;have:=congrArg (·.getLsbD v) h;simp only [BitVec.getLsbD_and,BitVec.getLsbD_not,ha,hv,BitVec.getLsbD_zero] at this;simpa using this
 ·intro h;refine kG fun v hv=>?_;rw [BitVec.getLsbD_and,BitVec.getLsbD_not,BitVec.getLsbD_zero]
  cases ha:a.getLsbD v
  ·rfl
  ·rw [h v hv ha]; simp
theorem aOd {rs:List wC} {T v:Nat} (h:v<rs.length*T):(ptl rs T).getD v (0,0)= pt T v:=aEu T h
theorem aCl {rs:List wC} {T:Nat} {P:Nat × Nat->Bool}:(ptl rs T).all P=true ↔ ∀ v,v<rs.length*T->P (pt T v)= true:=by
 rw [List.all_eq_true]
 constructor
 ·intro h v hv;refine h _ ?_;unfold ptl ptN;exact List.mem_map.2 ⟨v,List.mem_range.2 hv,rfl⟩
 ·intro h q hq;unfold ptl ptN at hq;obtain⟨v,hv,rfl⟩:=List.mem_map.1 hq;exact h v (List.mem_range.1 hv)
def aFm (rs:List wC) (T:Nat) (r:List (BitVec 64)) (ρ:Nat × Nat->Nat × Nat->Bool):Prop:= r.length=rs.length*T/\∀ w,w<rs.length*T->∀ v,(r.getD w 0).getLsbD v=(decide (v<rs.length*T)&& ρ (pt T w) (pt T v))
theorem gS {rs:List wC} {T:Nat} (hW:rs.length*T<=64) {r:List (BitVec 64)} {ρ:Nat × Nat->Nat × Nat->Bool} (h:aFm rs T r ρ) {s:BitVec 64} {x:Tab} (hs:∀ v,v<rs.length*T->s.getLsbD v=x (pt T v)) :
  aXm r s=pB T (rs.length*T) fun p=>(ptl rs T).all fun q=>!ρ p q || x q:=by
 obtain⟨hl,hr⟩:=h;refine kG fun i _=>?_;rw [yW hW,aXm,aSu r s _ i (by omega),hl]
 by_cases hi:i<rs.length*T
 ·rw [decide_eq_true hi,Bool.true_and,Bool.true_and,Bool.eq_iff_iff,aOt,aCl]
  constructor
  ·intro h v hv
   cases e:ρ (pt T i) (pt T v) with
   | false=>rfl
   | true=> have:=h v (by omega) (by rw [hr i hi v,decide_eq_true hv,e]; rfl);rw [hs v hv] at this;simpa using this
  ·intro h v _ ha;rw [hr i hi v,Bool.and_eq_true] at ha;have hv:=of_decide_eq_true ha.1;have:=h v hv;rw [ha.2] at this;rw [hs v hv];simpa using this
 ·rw [decide_eq_false hi,Bool.false_and,Bool.false_and]
section
variable {rs : List wC} {A F T : Nat}
theorem aTh {a:Nat} (ha:a<A) (hW:rs.length*T<=64):aFm rs T ((jR rs (ptl rs T) A F).R.getD a []) fun p q=>decide (tZ rs a q=tZ rs a p):=by
 have hl:(ptl rs T).length=rs.length*T:=rD T _
 have hg:(jR rs (ptl rs T) A F).R.getD a []=lI rs (ptl rs T) a:=by show (nC rs (ptl rs T) A).getD a []=_;simp [nC,List.getD,ha]
 rw [hg];refine⟨by simp [lI,hl],fun w hw v=>?_⟩
 have hw':(lI rs (ptl rs T) a).getD w 0=Ru.cB rs (ptl rs T) a (tZ rs a (pt T w)) (rs.length*T):=by
  have h1:w<(ptl rs T).length:=by omega
  have h2:=aOd (rs:=rs) hw;rw [List.getD,List.getElem?_eq_getElem h1] at h2;simp only [Option.getD_some] at h2;simp only [lI,List.getD,List.getElem?_map,List.getElem?_eq_getElem h1,Option.map_some,Option.getD_some,h2,hl]
 rw [hw',mM _ _ hW]
 by_cases hv:v<rs.length*T
 ·rw [decide_eq_true hv,aOd hv]
 ·rw [decide_eq_false hv,Bool.false_and,Bool.false_and]
theorem fV {m:oE} {W:Nat} (ok:mU m W) (hW:rs.length*T=W) (hR:m.R.length=A) {g:Nat} (hg:1<=g/\g<2 ^ m.R.length) (meet:Bool) (hk:∀ a,a<A->aFm rs T (m.R.getD a []) fun p q=>decide (tZ rs a q=tZ rs a p)) :
  aFm rs T (zC m g meet) fun p q=>if meet=true then bXz rs A g p q else aFf rs A g p q:=by
 obtain⟨⟨a0,ha0,hb0⟩,hl,hv⟩:=eX ok hg meet;refine⟨by rw [hl,hW],fun w hw v=>?_⟩;rw [hv w (by omega) v];unfold aPz;rw [hR] at ha0 ⊢
 have hbit:∀ a,a<A->((m.R.getD a []).getD w 0).getLsbD v=(decide (v<rs.length*T)&& decide (tZ rs a (pt T w)= tZ rs a (pt T v))):=fun a ha=>by rw [(hk a ha).2 w hw v];congr 1;exact decide_eq_decide.2 ⟨fun h=>h.symm,fun h=>h.symm⟩
 cases meet with
 | true=>
  show _=(decide (v<rs.length*T)&& bXz rs A g (pt T w) (pt T v));rw [if_pos rfl];unfold bXz
  by_cases hvw:v<rs.length*T
  ·rw [decide_eq_true hvw,Bool.true_and];refine aVj fun a ha=>?_;rw [hbit a (List.mem_range.1 ha),decide_eq_true hvw,Bool.true_and]
  ·rw [decide_eq_false hvw,Bool.false_and];refine Bool.eq_false_iff.2 fun h=>?_;rw [List.all_eq_true] at h;have:=h a0 (List.mem_range.2 ha0);rw [hb0,hbit a0 ha0,decide_eq_false hvw] at this;simp at this
 | false=>
  show _=(decide (v<rs.length*T)&& aFf rs A g (pt T w) (pt T v));rw [if_neg (by decide)];unfold aFf
  by_cases hvw:v<rs.length*T
  ·rw [decide_eq_true hvw,Bool.true_and,Bool.eq_iff_iff,List.any_eq_true,List.any_eq_true]
   constructor
   ·rintro ⟨a,ha,h⟩;refine⟨a,ha,?_⟩
    rwa [hbit a (List.mem_range.1 ha),decide_eq_true hvw,Bool.true_and] at h
   ·rintro ⟨a,ha,h⟩;refine⟨a,ha,?_⟩
    rwa [hbit a (List.mem_range.1 ha),decide_eq_true hvw,Bool.true_and]
  ·rw [decide_eq_false hvw,Bool.false_and];refine Bool.eq_false_iff.2 fun h=>?_;rw [List.any_eq_true] at h;obtain⟨a,ha,h⟩:=h;rw [hbit a (List.mem_range.1 ha),decide_eq_false hvw] at h;simp at h
theorem aZg {g:Nat} {x:Tab} {p:Nat × Nat}:pU rs A T g x p=(ptl rs T).all fun q=>!aFf rs A g p q || x q:=by
 rw [Bool.eq_iff_iff,aQy,List.all_eq_true]
 constructor
 ·intro h q hq
  cases e:aFf rs A g p q with
  | false=>rfl
  | true=>rw [h q hq e]; rfl
 ·intro h q hq e;have:=h q hq;rw [e] at this;simpa using this
theorem aS1 {W T:Nat} (hW:W<=64):qE W=pB T W fun _=>true:=by refine kG fun i hi=>?_;rw [sG hW hi,yW hW,Bool.and_true]
theorem oI {m:oE} {W:Nat} (ok:mU m W) (hW:rs.length*T=W) (hR:m.R.length=A) {g:Nat} (hg:1<=g/\g<2 ^ m.R.length) (hk:∀ a,a<A->aFm rs T (m.R.getD a []) fun p q=>decide (tZ rs a q=tZ rs a p)) (x y:Tab) :
  ∀ n,mY (zC m g false) (qE W) (pB T W x) (pB T W y) n=pB T W (eM rs A T g x y n)
 | 0=>by have:=ok.hW; exact aS1 this.2
 | n+1=>by
  have hW64:=ok.hW.2;show aXm _ _=_;rw [oI ok hW hR hg hk x y n];have hrel:=fV ok hW hR hg false hk
  rw [gS (by omega) hrel (x:=fun q=>!x q || (y q&&eM rs A T g x y n q)) fun v hv=>?_]
  ·rw [hW];congr 1;funext p;simp only [Bool.false_eq_true,↓reduceIte];rw [<- aZg];rfl
  ·rw [hW] at hv;simp only [BitVec.getLsbD_or,BitVec.getLsbD_and,BitVec.getLsbD_not,sG hW64 (show v<64 by omega),yW hW64,decide_eq_true hv,decide_eq_true (show v<64 by omega),Bool.true_and]
end
end Te
end Go.Pd
