/- Part C4. -/
import Derived.Test.YtndfaefmmcoapaaGreatKaC2
set_option linter.unusedSectionVars false
set_option linter.unusedVariables false
set_option linter.unusedSimpArgs false
set_option linter.defProp false
set_option maxRecDepth 20000
set_option maxHeartbeats 1000000
namespace Go.Pd
open Go Go.Proofs
open Int renaming reduceToNat -> ZA, reduceLT -> ZB, reduceLE -> ZC, reduceBEq -> ZD, reduceBNe -> ZE
open Nat renaming reduceEqDiff -> ZF, reduceAdd -> ZG, reduceBEq -> ZH, reduceLT -> ZI, reduceLeDiff -> ZJ, reduceMul -> ZK
open Rs Fm Ru Te
namespace Ru
def rT (m:pR) (W:Nat) (n:Nd) (x y:BitVec 64):BitVec 64 × Bool:=
 if n.op=1 then(rM W,true) else if n.op=2 then(0#64,true) else if n.op=3 then(if n.i<m.V.length then(m.V.getD n.i.toNat 0,true) else(0#64,false)) else if n.op=4 then(rM W &&& ~~~x,true)
 else if n.op=5 then(x &&& y,true) else if n.op=6 then(x ||| y,true) else if n.op=7 then(rM W &&& ~~~x ||| y,true) else if n.op=8 then(rM W &&& ~~~(x ^^^ y),true)
 else if n.op=9 then(if n.i<m.R.length then(cE (m.R.getD n.i.toNat []) x,true) else(0#64,false)) else if n.op=10 then(if n.i<m.R.length then(aEg (m.R.getD n.i.toNat []) x,true) else(0#64,false))
 else if n.op=11 then(if n.g<(2 ^ m.R.length:Nat) then(cE (zZ m n.g.toNat false) x,true) else(0#64,false)) else if n.op=12 then(if n.g<(2 ^ m.R.length:Nat) then(cE (zZ m n.g.toNat true) x,true) else(0#64,false))
 else if n.op=13 then(if n.g<(2 ^ m.R.length:Nat) then(oR (zZ m n.g.toNat false) (rM W) x y W,true) else(0#64,false)) else(0#64,false)
theorem aJn {W:Nat} (h1:1<=W) (h2:W<=64):18446744073709551615#64 >>> (64-W)= rM W:=by
 have:∀ W,W<65->1<=W->18446744073709551615#64 >>> (64-W)= rM W:=by decide
 exact this W (by omega) h1
end Ru
theorem aHd {m:pR} {W:Nat} (ok:oN m W) {n:Nd} {k:Int} (hn:yK n k=0) {x y:BitVec 64} (hcom:n.op=13->n.g<(2 ^ m.R.length:Nat)->oR (zZ m n.g.toNat false) (rM W) x y (W+1)= oR (zZ m n.g.toNat false) (rM W) x y W) :
  yX Tryz.prog 177 [m.d,.agg n.row,.int .u64 (ui x),.int .u64 (ui y)] (.tup [.int .u64 (ui (rT m W n x y).1),.bool (rT m W n x y).2]):=by
 obtain⟨W1,W64⟩:=ok.hW;have hR4:=ok.hR;have hV8:=ok.hV;have hw:IntKind.i64.wrap (64-m.W)= ((64-W:Nat):Int):=by rw [ok.w,wrap_i64 (by omega)]; omega
 have hfull:(18446744073709551615:Int)= ui 18446744073709551615#64:=rfl;have hall:=aJn W1 W64
 have hi0:n.op=3\/n.op=9\/n.op=10->0<=n.i:=fun h=>by
  rcases h with h | h | h
  ·exact(pH hn (by rw [h]; rfl)).1
  ·exact(vE hn (by rw [h]; rfl)).1
  ·exact(vE hn (by rw [h]; rfl)).1
 have hg0:n.op=11\/n.op=12\/n.op=13->1<=n.g/\n.g<=15:=fun h=>by
  have hgr:(xZ n.op).1.gr=true:=by rcases h with h | h | h <;> rw [h] <;> rfl
  have h1:=(zP.1 hn).2.2.2.2;simp only [Bool.or_eq_false_iff,hgr,xT,Bool.true_and,decide_eq_false_iff_not] at h1;omega
 have hsh:=aY1 (k:=m.R.length) (by omega);obtain⟨op,i,e,g,a,b⟩:=n;simp only at hi0 hg0 hcom;have hrow:(Nd.row ⟨op,i,e,g,a,b⟩)= [.int .i64 op,.int .i64 i,.int .i64 e,.int .i64 g,.int .i64 a,.int .i64 b]:=rfl;rw [hrow];unfold pR.d
 rcases vP op with rfl | rfl | rfl | rfl | rfl | rfl | rfl | rfl | rfl | rfl | rfl | rfl | rfl | rfl | rfl | rfl | rfl | rfl | rfl | rfl | rfl | h | h
 ·rw [show rT m W ⟨1,i,e,g,a,b⟩ x y=(rM W,true) from rfl,<- hall];refine xX.go_fn mixed Tryz.func177 oS (by simp) fun hf=>?_;simp only [ZA,ZB,ZC,ZD,ZE,↓reduceIte,ZF,ZG,ZH,ZI,ZJ,reduceCtorEq,ZK,↓zU,↓zD,zV,zT,zW,hw]
  (repeat refine sd ?_)
  exact .drop (by simp) (by simp [vw,vwL])
 ·rw [show rT m W ⟨2,i,e,g,a,b⟩ x y=(0#64,true) from rfl];refine xX.go_fn mixed Tryz.func177 oS (by simp) fun hf=>?_;simp only [ZA,ZB,ZC,ZD,ZE,↓reduceIte,ZF,ZG,ZH,ZI,ZJ,reduceCtorEq,ZK,↓zU,↓zD,zV,zT,zW,hw]
  (repeat refine sd ?_)
  exact .drop (by simp) (by simp [vw,vwL])
 ·have h0:=hi0 (.inl rfl)
  by_cases hlt:i<(m.V.length:Int)
  ·have hv:rT m W ⟨3,i,e,g,a,b⟩ x y=(m.V.getD i.toNat 0,true):=if_pos hlt;have hge:¬ (m.V.length:Int)<=i:=by omega
   obtain⟨j,rfl⟩:=Int.eq_ofNat_of_zero_le h0;have hg:=zI m.V (show j<m.V.length by omega);rw [Int.toNat_natCast] at hv;rw [hv];generalize m.V.getD j 0=z at hg;refine xX.go_fn mixed Tryz.func177 oS (by simp) fun hf=>?_;simp only [ZA,ZB,ZC,ZD,ZE,↓reduceIte,ZF,ZG,ZH,ZI,ZJ,reduceCtorEq,ZK,↓zU,↓zD,zV,zT,zW,hw,xR,hge,hg]
   (repeat refine sd ?_)
   exact .drop (by simp) (by simp [vw,vwL])
  ·have hv:rT m W ⟨3,i,e,g,a,b⟩ x y=(0#64,false):=if_neg hlt;have hge:(m.V.length:Int)<=i:=by omega
   rw [hv];refine xX.go_fn mixed Tryz.func177 oS (by simp) fun hf=>?_;simp only [ZA,ZB,ZC,ZD,ZE,↓reduceIte,ZF,ZG,ZH,ZI,ZJ,reduceCtorEq,ZK,↓zU,↓zD,zV,zT,zW,hw,xR,hge]
   (repeat refine sd ?_)
   exact .drop (by simp) (by simp [vw,vwL])
 ·rw [show rT m W ⟨4,i,e,g,a,b⟩ x y=(rM W &&& ~~~x,true) from rfl,<- hall];refine xX.go_fn mixed Tryz.func177 oS (by simp) fun hf=>?_;simp only [ZA,ZB,ZC,ZD,ZE,↓reduceIte,ZF,ZG,ZH,ZI,ZJ,reduceCtorEq,ZK,↓zU,↓zD,zV,zT,zW,hw]
  (repeat refine sd ?_)
  exact .drop (by simp) (by simp [vw,vwL])
 ·rw [show rT m W ⟨5,i,e,g,a,b⟩ x y=(x &&& y,true) from rfl];refine xX.go_fn mixed Tryz.func177 oS (by simp) fun hf=>?_;simp only [ZA,ZB,ZC,ZD,ZE,↓reduceIte,ZF,ZG,ZH,ZI,ZJ,reduceCtorEq,ZK,↓zU,↓zD,zV,zT,zW,hw]
  (repeat refine sd ?_)
  exact .drop (by simp) (by simp [vw,vwL])
 ·rw [show rT m W ⟨6,i,e,g,a,b⟩ x y=(x ||| y,true) from rfl];refine xX.go_fn mixed Tryz.func177 oS (by simp) fun hf=>?_;simp only [ZA,ZB,ZC,ZD,ZE,↓reduceIte,ZF,ZG,ZH,ZI,ZJ,reduceCtorEq,ZK,↓zU,↓zD,zV,zT,zW,hw]
  (repeat refine sd ?_)
  exact .drop (by simp) (by simp [vw,vwL])
 ·rw [show rT m W ⟨7,i,e,g,a,b⟩ x y=(rM W &&& ~~~x ||| y,true) from rfl,<- hall];refine xX.go_fn mixed Tryz.func177 oS (by simp) fun hf=>?_;simp only [ZA,ZB,ZC,ZD,ZE,↓reduceIte,ZF,ZG,ZH,ZI,ZJ,reduceCtorEq,ZK,↓zU,↓zD,zV,zT,zW,hw]
  (repeat refine sd ?_)
  exact .drop (by simp) (by simp [vw,vwL])
 ·rw [show rT m W ⟨8,i,e,g,a,b⟩ x y=(rM W &&& ~~~(x ^^^ y),true) from rfl,<- hall];refine xX.go_fn mixed Tryz.func177 oS (by simp) fun hf=>?_;simp only [ZA,ZB,ZC,ZD,ZE,↓reduceIte,ZF,ZG,ZH,ZI,ZJ,reduceCtorEq,ZK,↓zU,↓zD,zV,zT,zW,hw]
  (repeat refine sd ?_)
  exact .drop (by simp) (by simp [vw,vwL])
 ·have h0:=hi0 (.inr (.inl rfl))
  by_cases hlt:i<(m.R.length:Int)
  ·have hv:rT m W ⟨9,i,e,g,a,b⟩ x y=(cE (m.R.getD i.toNat []) x,true):=if_pos hlt;have hge:¬ (m.R.length:Int)<=i:=by omega
   obtain⟨j,rfl⟩:=Int.eq_ofNat_of_zero_le h0;have hg:=pP m.R (show j<m.R.length by omega);have hc:=bJ (aJ3 ok (show j<m.R.length by omega)) x;rw [Int.toNat_natCast] at hv;rw [hv];generalize m.R.getD j []=z at hg hc;refine xX.go_fn mixed Tryz.func177 oS (by simp) fun hf=>?_;simp only [ZA,ZB,ZC,ZD,ZE,↓reduceIte,ZF,ZG,ZH,ZI,ZJ,reduceCtorEq,ZK,↓zU,↓zD,zV,zT,zW,hw,yF,hge,hg]
   (repeat refine sd ?_)
   refine .go (cr hc) ?_;simp only [ZA,ZB,ZC,ZD,ZE,↓reduceIte,ZF,ZG,ZH,ZI,ZJ,reduceCtorEq,ZK,↓zU,↓zD,zV,zT,zW];exact .drop (by simp) (by simp [vw,vwL])
  ·have hv:rT m W ⟨9,i,e,g,a,b⟩ x y=(0#64,false):=if_neg hlt;have hge:(m.R.length:Int)<=i:=by omega
   rw [hv];refine xX.go_fn mixed Tryz.func177 oS (by simp) fun hf=>?_;simp only [ZA,ZB,ZC,ZD,ZE,↓reduceIte,ZF,ZG,ZH,ZI,ZJ,reduceCtorEq,ZK,↓zU,↓zD,zV,zT,zW,hw,yF,hge]
   (repeat refine sd ?_)
   exact .drop (by simp) (by simp [vw,vwL])
 ·have h0:=hi0 (.inr (.inr rfl))
  by_cases hlt:i<(m.R.length:Int)
  ·have hv:rT m W ⟨10,i,e,g,a,b⟩ x y=(aEg (m.R.getD i.toNat []) x,true):=if_pos hlt;have hge:¬ (m.R.length:Int)<=i:=by omega
   obtain⟨j,rfl⟩:=Int.eq_ofNat_of_zero_le h0;have hg:=pP m.R (show j<m.R.length by omega);have hc:=aS5 (aJ3 ok (show j<m.R.length by omega)) x;rw [Int.toNat_natCast] at hv;rw [hv];generalize m.R.getD j []=z at hg hc;refine xX.go_fn mixed Tryz.func177 oS (by simp) fun hf=>?_;simp only [ZA,ZB,ZC,ZD,ZE,↓reduceIte,ZF,ZG,ZH,ZI,ZJ,reduceCtorEq,ZK,↓zU,↓zD,zV,zT,zW,hw,yF,hge,hg]
   (repeat refine sd ?_)
   refine .go (cr hc) ?_;simp only [ZA,ZB,ZC,ZD,ZE,↓reduceIte,ZF,ZG,ZH,ZI,ZJ,reduceCtorEq,ZK,↓zU,↓zD,zV,zT,zW];exact .drop (by simp) (by simp [vw,vwL])
  ·have hv:rT m W ⟨10,i,e,g,a,b⟩ x y=(0#64,false):=if_neg hlt;have hge:(m.R.length:Int)<=i:=by omega
   rw [hv];refine xX.go_fn mixed Tryz.func177 oS (by simp) fun hf=>?_;simp only [ZA,ZB,ZC,ZD,ZE,↓reduceIte,ZF,ZG,ZH,ZI,ZJ,reduceCtorEq,ZK,↓zU,↓zD,zV,zT,zW,hw,yF,hge]
   (repeat refine sd ?_)
   exact .drop (by simp) (by simp [vw,vwL])
 ·have h0:=hg0 (.inl rfl)
  by_cases hlt:g<((2 ^ m.R.length:Nat):Int)
  ·have hv:rT m W ⟨11,i,e,g,a,b⟩ x y=(cE (zZ m g.toNat false) x,true):=if_pos hlt;have hge:¬ ((2 ^ m.R.length:Nat):Int)<=g:=by omega
   obtain⟨j,rfl⟩:=Int.eq_ofNat_of_zero_le (show 0<=g by omega);have hj:1<=j/\j<2 ^ m.R.length:=by omega
   have hc:=aUr ok hj;have hb:=bJ (dD ok hj false) x;rw [Int.toNat_natCast] at hv;rw [hv];unfold pR.d at hc;generalize zZ m j false=z at hc hb ⊢;refine xX.go_fn mixed Tryz.func177 oS (by simp) fun hf=>?_;simp only [ZA,ZB,ZC,ZD,ZE,↓reduceIte,ZF,ZG,ZH,ZI,ZJ,reduceCtorEq,ZK,↓zU,↓zD,zV,zT,zW,hw,yF,hge,hsh]
   (repeat refine sd ?_)
   refine .go (cr hc) ?_;simp only [ZA,ZB,ZC,ZD,ZE,↓reduceIte,ZF,ZG,ZH,ZI,ZJ,reduceCtorEq,ZK,↓zU,↓zD,zV,zT,zW];refine .go (cr hb) ?_;simp only [ZA,ZB,ZC,ZD,ZE,↓reduceIte,ZF,ZG,ZH,ZI,ZJ,reduceCtorEq,ZK,↓zU,↓zD,zV,zT,zW];exact .drop (by simp) (by simp [vw,vwL])
  ·have hv:rT m W ⟨11,i,e,g,a,b⟩ x y=(0#64,false):=if_neg hlt;have hge:((2 ^ m.R.length:Nat):Int)<=g:=by omega
   rw [hv];refine xX.go_fn mixed Tryz.func177 oS (by simp) fun hf=>?_;simp only [ZA,ZB,ZC,ZD,ZE,↓reduceIte,ZF,ZG,ZH,ZI,ZJ,reduceCtorEq,ZK,↓zU,↓zD,zV,zT,zW,hw,yF,hge,hsh]
   (repeat refine sd ?_)
   exact .drop (by simp) (by simp [vw,vwL])
 ·have h0:=hg0 (.inr (.inl rfl))
  by_cases hlt:g<((2 ^ m.R.length:Nat):Int)
  ·have hv:rT m W ⟨12,i,e,g,a,b⟩ x y=(cE (zZ m g.toNat true) x,true):=if_pos hlt;have hge:¬ ((2 ^ m.R.length:Nat):Int)<=g:=by omega
   obtain⟨j,rfl⟩:=Int.eq_ofNat_of_zero_le (show 0<=g by omega);have hj:1<=j/\j<2 ^ m.R.length:=by omega
   have hc:=aFt ok hj;have hb:=bJ (dD ok hj true) x;rw [Int.toNat_natCast] at hv;rw [hv];unfold pR.d at hc;generalize zZ m j true=z at hc hb ⊢;refine xX.go_fn mixed Tryz.func177 oS (by simp) fun hf=>?_;simp only [ZA,ZB,ZC,ZD,ZE,↓reduceIte,ZF,ZG,ZH,ZI,ZJ,reduceCtorEq,ZK,↓zU,↓zD,zV,zT,zW,hw,yF,hge,hsh]
   (repeat refine sd ?_)
   refine .go (cr hc) ?_;simp only [ZA,ZB,ZC,ZD,ZE,↓reduceIte,ZF,ZG,ZH,ZI,ZJ,reduceCtorEq,ZK,↓zU,↓zD,zV,zT,zW];refine .go (cr hb) ?_;simp only [ZA,ZB,ZC,ZD,ZE,↓reduceIte,ZF,ZG,ZH,ZI,ZJ,reduceCtorEq,ZK,↓zU,↓zD,zV,zT,zW];exact .drop (by simp) (by simp [vw,vwL])
  ·have hv:rT m W ⟨12,i,e,g,a,b⟩ x y=(0#64,false):=if_neg hlt;have hge:((2 ^ m.R.length:Nat):Int)<=g:=by omega
   rw [hv];refine xX.go_fn mixed Tryz.func177 oS (by simp) fun hf=>?_;simp only [ZA,ZB,ZC,ZD,ZE,↓reduceIte,ZF,ZG,ZH,ZI,ZJ,reduceCtorEq,ZK,↓zU,↓zD,zV,zT,zW,hw,yF,hge,hsh]
   (repeat refine sd ?_)
   exact .drop (by simp) (by simp [vw,vwL])
 ·have h0:=hg0 (.inr (.inr rfl))
  by_cases hlt:g<((2 ^ m.R.length:Nat):Int)
  ·have hv:rT m W ⟨13,i,e,g,a,b⟩ x y=(oR (zZ m g.toNat false) (rM W) x y W,true):=if_pos hlt;have hge:¬ ((2 ^ m.R.length:Nat):Int)<=g:=by omega
   have hcm:=hcom rfl hlt;obtain⟨j,rfl⟩:=Int.eq_ofNat_of_zero_le (show 0<=g by omega);have hj:1<=j/\j<2 ^ m.R.length:=by omega
   have hc:=aUr ok hj;have hb:=aO6 (dD ok hj false) (by rw [Int.toNat_natCast] at hcm; exact hcm);rw [Int.toNat_natCast] at hv;rw [hv];unfold pR.d at hc;generalize zZ m j false=z at hc hb ⊢;refine xX.go_fn mixed Tryz.func177 oS (by simp) fun hf=>?_;simp only [ZA,ZB,ZC,ZD,ZE,↓reduceIte,ZF,ZG,ZH,ZI,ZJ,reduceCtorEq,ZK,↓zU,↓zD,zV,zT,zW,hw,yF,hge,hsh]
   (repeat refine sd ?_)
   refine .go (cr hc) ?_;simp only [ZA,ZB,ZC,ZD,ZE,↓reduceIte,ZF,ZG,ZH,ZI,ZJ,reduceCtorEq,ZK,↓zU,↓zD,zV,zT,zW,hall];refine .go (cr hb) ?_;simp only [ZA,ZB,ZC,ZD,ZE,↓reduceIte,ZF,ZG,ZH,ZI,ZJ,reduceCtorEq,ZK,↓zU,↓zD,zV,zT,zW];exact .drop (by simp) (by simp [vw,vwL])
  ·have hv:rT m W ⟨13,i,e,g,a,b⟩ x y=(0#64,false):=if_neg hlt;have hge:((2 ^ m.R.length:Nat):Int)<=g:=by omega
   rw [hv];refine xX.go_fn mixed Tryz.func177 oS (by simp) fun hf=>?_;simp only [ZA,ZB,ZC,ZD,ZE,↓reduceIte,ZF,ZG,ZH,ZI,ZJ,reduceCtorEq,ZK,↓zU,↓zD,zV,zT,zW,hw,yF,hge,hsh]
   (repeat refine sd ?_)
   exact .drop (by simp) (by simp [vw,vwL])
 ·rw [show rT m W ⟨14,i,e,g,a,b⟩ x y=(0#64,false) from rfl];refine xX.go_fn mixed Tryz.func177 oS (by simp) fun hf=>?_;simp only [ZA,ZB,ZC,ZD,ZE,↓reduceIte,ZF,ZG,ZH,ZI,ZJ,reduceCtorEq,ZK,↓zU,↓zD,zV,zT,zW,hw]
  (repeat refine sd ?_)
  exact .drop (by simp) (by simp [vw,vwL])
 ·rw [show rT m W ⟨15,i,e,g,a,b⟩ x y=(0#64,false) from rfl];refine xX.go_fn mixed Tryz.func177 oS (by simp) fun hf=>?_;simp only [ZA,ZB,ZC,ZD,ZE,↓reduceIte,ZF,ZG,ZH,ZI,ZJ,reduceCtorEq,ZK,↓zU,↓zD,zV,zT,zW,hw]
  (repeat refine sd ?_)
  exact .drop (by simp) (by simp [vw,vwL])
 ·rw [show rT m W ⟨16,i,e,g,a,b⟩ x y=(0#64,false) from rfl];refine xX.go_fn mixed Tryz.func177 oS (by simp) fun hf=>?_;simp only [ZA,ZB,ZC,ZD,ZE,↓reduceIte,ZF,ZG,ZH,ZI,ZJ,reduceCtorEq,ZK,↓zU,↓zD,zV,zT,zW,hw]
  (repeat refine sd ?_)
  exact .drop (by simp) (by simp [vw,vwL])
 ·rw [show rT m W ⟨17,i,e,g,a,b⟩ x y=(0#64,false) from rfl];refine xX.go_fn mixed Tryz.func177 oS (by simp) fun hf=>?_;simp only [ZA,ZB,ZC,ZD,ZE,↓reduceIte,ZF,ZG,ZH,ZI,ZJ,reduceCtorEq,ZK,↓zU,↓zD,zV,zT,zW,hw]
  (repeat refine sd ?_)
  exact .drop (by simp) (by simp [vw,vwL])
 ·rw [show rT m W ⟨18,i,e,g,a,b⟩ x y=(0#64,false) from rfl];refine xX.go_fn mixed Tryz.func177 oS (by simp) fun hf=>?_;simp only [ZA,ZB,ZC,ZD,ZE,↓reduceIte,ZF,ZG,ZH,ZI,ZJ,reduceCtorEq,ZK,↓zU,↓zD,zV,zT,zW,hw]
  (repeat refine sd ?_)
  exact .drop (by simp) (by simp [vw,vwL])
 ·rw [show rT m W ⟨19,i,e,g,a,b⟩ x y=(0#64,false) from rfl];refine xX.go_fn mixed Tryz.func177 oS (by simp) fun hf=>?_;simp only [ZA,ZB,ZC,ZD,ZE,↓reduceIte,ZF,ZG,ZH,ZI,ZJ,reduceCtorEq,ZK,↓zU,↓zD,zV,zT,zW,hw]
  (repeat refine sd ?_)
  exact .drop (by simp) (by simp [vw,vwL])
 ·rw [show rT m W ⟨20,i,e,g,a,b⟩ x y=(0#64,false) from rfl];refine xX.go_fn mixed Tryz.func177 oS (by simp) fun hf=>?_;simp only [ZA,ZB,ZC,ZD,ZE,↓reduceIte,ZF,ZG,ZH,ZI,ZJ,reduceCtorEq,ZK,↓zU,↓zD,zV,zT,zW,hw]
  (repeat refine sd ?_)
  exact .drop (by simp) (by simp [vw,vwL])
 ·rw [show rT m W ⟨21,i,e,g,a,b⟩ x y=(0#64,false) from rfl];refine xX.go_fn mixed Tryz.func177 oS (by simp) fun hf=>?_;simp only [ZA,ZB,ZC,ZD,ZE,↓reduceIte,ZF,ZG,ZH,ZI,ZJ,reduceCtorEq,ZK,↓zU,↓zD,zV,zT,zW,hw]
  (repeat refine sd ?_)
  exact .drop (by simp) (by simp [vw,vwL])
 ·have hv:rT m W ⟨op,i,e,g,a,b⟩ x y=(0#64,false):=by
   unfold rT; simp only; repeat rw [if_neg (by omega)]
  have q1:(op==1)= false:=by rw [beq_eq_false_iff_ne]; omega
  have q2:(op==2)= false:=by rw [beq_eq_false_iff_ne]; omega
  have q3:(op==3)= false:=by rw [beq_eq_false_iff_ne]; omega
  have q4:(op==4)= false:=by rw [beq_eq_false_iff_ne]; omega
  have q5:(op==5)= false:=by rw [beq_eq_false_iff_ne]; omega
  have q6:(op==6)= false:=by rw [beq_eq_false_iff_ne]; omega
  have q7:(op==7)= false:=by rw [beq_eq_false_iff_ne]; omega
  have q8:(op==8)= false:=by rw [beq_eq_false_iff_ne]; omega
  have q9:(op==9)= false:=by rw [beq_eq_false_iff_ne]; omega
  have q10:(op==10)= false:=by rw [beq_eq_false_iff_ne]; omega
  have q11:(op==11)= false:=by rw [beq_eq_false_iff_ne]; omega
  have q12:(op==12)= false:=by rw [beq_eq_false_iff_ne]; omega
  have q13:(op==13)= false:=by rw [beq_eq_false_iff_ne]; omega
  rw [hv];refine xX.go_fn mixed Tryz.func177 oS (by simp) fun hf=>?_;simp only [ZA,ZB,ZC,ZD,ZE,↓reduceIte,ZF,ZG,ZH,ZI,ZJ,reduceCtorEq,ZK,↓zU,↓zD,zV,zT,zW,hw,q1,q2,q3,q4,q5,q6,q7,q8,q9,q10,q11,q12,q13]
  (repeat refine sd ?_)
  exact .drop (by simp) (by simp [vw,vwL])
 ·have hv:rT m W ⟨op,i,e,g,a,b⟩ x y=(0#64,false):=by
   unfold rT; simp only; repeat rw [if_neg (by omega)]
  have q1:(op==1)= false:=by rw [beq_eq_false_iff_ne]; omega
  have q2:(op==2)= false:=by rw [beq_eq_false_iff_ne]; omega
  have q3:(op==3)= false:=by rw [beq_eq_false_iff_ne]; omega
  have q4:(op==4)= false:=by rw [beq_eq_false_iff_ne]; omega
  have q5:(op==5)= false:=by rw [beq_eq_false_iff_ne]; omega
  have q6:(op==6)= false:=by rw [beq_eq_false_iff_ne]; omega
  have q7:(op==7)= false:=by rw [beq_eq_false_iff_ne]; omega
  have q8:(op==8)= false:=by rw [beq_eq_false_iff_ne]; omega
  have q9:(op==9)= false:=by rw [beq_eq_false_iff_ne]; omega
  have q10:(op==10)= false:=by rw [beq_eq_false_iff_ne]; omega
  have q11:(op==11)= false:=by rw [beq_eq_false_iff_ne]; omega
  have q12:(op==12)= false:=by rw [beq_eq_false_iff_ne]; omega
  have q13:(op==13)= false:=by rw [beq_eq_false_iff_ne]; omega
  rw [hv];refine xX.go_fn mixed Tryz.func177 oS (by simp) fun hf=>?_;simp only [ZA,ZB,ZC,ZD,ZE,↓reduceIte,ZF,ZG,ZH,ZI,ZJ,reduceCtorEq,ZK,↓zU,↓zD,zV,zT,zW,hw,q1,q2,q3,q4,q5,q6,q7,q8,q9,q10,q11,q12,q13]
  (repeat refine sd ?_)
  exact .drop (by simp) (by simp [vw,vwL])
end Go.Pd
