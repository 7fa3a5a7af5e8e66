/- Part C4. -/
import Derived.Test.YtndfaefmmcoapaaGreatKcKG
import Derived.Test.YtndfaefmmcoapaaGreatKcP7
set_option linter.unusedSectionVars false
set_option linter.unusedVariables false
set_option linter.unusedSimpArgs false
set_option linter.defProp false
set_option maxRecDepth 20000
set_option maxHeartbeats 1000000
namespace Go.Pd
open Go Go.Proofs
open Int renaming reduceToNat -> ZA, reduceLT -> ZB, reduceLE -> ZC, reduceBEq -> ZD, reduceBNe -> ZE
open Nat renaming reduceEqDiff -> ZF, reduceAdd -> ZG, reduceBEq -> ZH, reduceLT -> ZI, reduceLeDiff -> ZJ, reduceMul -> ZK
open Rs Fm Ru Te
namespace Ru
def rQ (m:pM) (W:Nat) (n:Nd) (x y:BitVec 64):BitVec 64 × Bool:=
 if n.op=1 then(rI W,true) else if n.op=2 then(0#64,true) else if n.op=3 then(if n.i<m.V.length then(m.V.getD n.i.toNat 0,true) else(0#64,false)) else if n.op=4 then(rI W &&& ~~~x,true)
 else if n.op=5 then(x &&& y,true) else if n.op=6 then(x ||| y,true) else if n.op=7 then(rI W &&& ~~~x ||| y,true) else if n.op=8 then(rI W &&& ~~~(x ^^^ y),true)
 else if n.op=9 then(if n.i<m.R.length then(bN (m.R.getD n.i.toNat []) x,true) else(0#64,false)) else if n.op=10 then(if n.i<m.R.length then(aEv (m.R.getD n.i.toNat []) x,true) else(0#64,false))
 else if n.op=11 then(if n.g<(2 ^ m.R.length:Nat) then(bN (zQ m n.g.toNat false) x,true) else(0#64,false)) else if n.op=12 then(if n.g<(2 ^ m.R.length:Nat) then(bN (zQ m n.g.toNat true) x,true) else(0#64,false))
 else if n.op=13 then(if n.g<(2 ^ m.R.length:Nat) then(oK (zQ m n.g.toNat false) (rI W) x y W,true) else(0#64,false)) else(0#64,false)
theorem aJ5 {W:Nat} (h1:1<=W) (h2:W<=64):18446744073709551615#64 >>> (64-W)= rI W:=by
 have:∀ W,W<65->1<=W->18446744073709551615#64 >>> (64-W)= rI W:=by decide
 exact this W (by omega) h1
end Ru
theorem aHx {m:pM} {W:Nat} (ok:oG m W) {n:Nd} {k:Int} (hn:yJ n k=0) {x y:BitVec 64} (hcom:n.op=13->n.g<(2 ^ m.R.length:Nat)->oK (zQ m n.g.toNat false) (rI W) x y (W+1)= oK (zQ m n.g.toNat false) (rI W) x y W) :
  yX Tryz.prog 177 [m.d,.agg n.row,.int .u64 (ui x),.int .u64 (ui y)] (.tup [.int .u64 (ui (rQ m W n x y).1),.bool (rQ m W n x y).2]):=by
 obtain⟨W1,W64⟩:=ok.hW;have hR4:=ok.hR;have hV8:=ok.hV;have hw:IntKind.i64.wrap (64-m.W)= ((64-W:Nat):Int):=by rw [ok.w,wrap_i64 (by omega)]; omega
 have hfull:(18446744073709551615:Int)= ui 18446744073709551615#64:=rfl;have hall:=aJ5 W1 W64
 have hi0:n.op=3\/n.op=9\/n.op=10->0<=n.i:=fun h=>by
  rcases h with h | h | h
  ·exact(pB hn (by rw [h]; rfl)).1
  ·exact(vB hn (by rw [h]; rfl)).1
  ·exact(vB hn (by rw [h]; rfl)).1
 have hg0:n.op=11\/n.op=12\/n.op=13->1<=n.g/\n.g<=15:=fun h=>by
  have hgr:(xZ n.op).1.gr=true:=by rcases h with h | h | h <;> rw [h] <;> rfl
  have h1:=(zO.1 hn).2.2.2.2;simp only [Bool.or_eq_false_iff,hgr,xS,Bool.true_and,decide_eq_false_iff_not] at h1;omega
 have hsh:=aZf (k:=m.R.length) (by omega);obtain⟨op,i,e,g,a,b⟩:=n;simp only at hi0 hg0 hcom;have hrow:(Nd.row ⟨op,i,e,g,a,b⟩)= [.int .i64 op,.int .i64 i,.int .i64 e,.int .i64 g,.int .i64 a,.int .i64 b]:=rfl;rw [hrow];unfold pM.d
 rcases vP op with rfl | rfl | rfl | rfl | rfl | rfl | rfl | rfl | rfl | rfl | rfl | rfl | rfl | rfl | rfl | rfl | rfl | rfl | rfl | rfl | rfl | h | h
 ·rw [show rQ m W ⟨1,i,e,g,a,b⟩ x y=(rI W,true) from rfl,<- hall];refine xX.go_fn mixed Tryz.func177 oL (by simp) fun hf=>?_;simp only [ZA,ZB,ZC,ZD,ZE,↓reduceIte,ZF,ZG,ZH,ZI,ZJ,reduceCtorEq,ZK,↓zU,↓zD,zV,zT,zW,hw]
  (repeat refine sd ?_)
  exact .drop (by simp) (by simp [vw,vwL])
 ·rw [show rQ m W ⟨2,i,e,g,a,b⟩ x y=(0#64,true) from rfl];refine xX.go_fn mixed Tryz.func177 oL (by simp) fun hf=>?_;simp only [ZA,ZB,ZC,ZD,ZE,↓reduceIte,ZF,ZG,ZH,ZI,ZJ,reduceCtorEq,ZK,↓zU,↓zD,zV,zT,zW,hw]
  (repeat refine sd ?_)
  exact .drop (by simp) (by simp [vw,vwL])
 ·have h0:=hi0 (.inl rfl)
  by_cases hlt:i<(m.V.length:Int)
  ·have hv:rQ m W ⟨3,i,e,g,a,b⟩ x y=(m.V.getD i.toNat 0,true):=if_pos hlt;have hge:¬ (m.V.length:Int)<=i:=by omega
   obtain⟨j,rfl⟩:=Int.eq_ofNat_of_zero_le h0;have hg:=zH m.V (show j<m.V.length by omega);rw [Int.toNat_natCast] at hv;rw [hv];generalize m.V.getD j 0=z at hg;refine xX.go_fn mixed Tryz.func177 oL (by simp) fun hf=>?_;simp only [ZA,ZB,ZC,ZD,ZE,↓reduceIte,ZF,ZG,ZH,ZI,ZJ,reduceCtorEq,ZK,↓zU,↓zD,zV,zT,zW,hw,xT,hge,hg]
   (repeat refine sd ?_)
   exact .drop (by simp) (by simp [vw,vwL])
  ·have hv:rQ m W ⟨3,i,e,g,a,b⟩ x y=(0#64,false):=if_neg hlt;have hge:(m.V.length:Int)<=i:=by omega
   rw [hv];refine xX.go_fn mixed Tryz.func177 oL (by simp) fun hf=>?_;simp only [ZA,ZB,ZC,ZD,ZE,↓reduceIte,ZF,ZG,ZH,ZI,ZJ,reduceCtorEq,ZK,↓zU,↓zD,zV,zT,zW,hw,xT,hge]
   (repeat refine sd ?_)
   exact .drop (by simp) (by simp [vw,vwL])
 ·rw [show rQ m W ⟨4,i,e,g,a,b⟩ x y=(rI W &&& ~~~x,true) from rfl,<- hall];refine xX.go_fn mixed Tryz.func177 oL (by simp) fun hf=>?_;simp only [ZA,ZB,ZC,ZD,ZE,↓reduceIte,ZF,ZG,ZH,ZI,ZJ,reduceCtorEq,ZK,↓zU,↓zD,zV,zT,zW,hw]
  (repeat refine sd ?_)
  exact .drop (by simp) (by simp [vw,vwL])
 ·rw [show rQ m W ⟨5,i,e,g,a,b⟩ x y=(x &&& y,true) from rfl];refine xX.go_fn mixed Tryz.func177 oL (by simp) fun hf=>?_;simp only [ZA,ZB,ZC,ZD,ZE,↓reduceIte,ZF,ZG,ZH,ZI,ZJ,reduceCtorEq,ZK,↓zU,↓zD,zV,zT,zW,hw]
  (repeat refine sd ?_)
  exact .drop (by simp) (by simp [vw,vwL])
 ·rw [show rQ m W ⟨6,i,e,g,a,b⟩ x y=(x ||| y,true) from rfl];refine xX.go_fn mixed Tryz.func177 oL (by simp) fun hf=>?_;simp only [ZA,ZB,ZC,ZD,ZE,↓reduceIte,ZF,ZG,ZH,ZI,ZJ,reduceCtorEq,ZK,↓zU,↓zD,zV,zT,zW,hw]
  (repeat refine sd ?_)
  exact .drop (by simp) (by simp [vw,vwL])
 ·rw [show rQ m W ⟨7,i,e,g,a,b⟩ x y=(rI W &&& ~~~x ||| y,true) from rfl,<- hall];refine xX.go_fn mixed Tryz.func177 oL (by simp) fun hf=>?_;simp only [ZA,ZB,ZC,ZD,ZE,↓reduceIte,ZF,ZG,ZH,ZI,ZJ,reduceCtorEq,ZK,↓zU,↓zD,zV,zT,zW,hw]
  (repeat refine sd ?_)
  exact .drop (by simp) (by simp [vw,vwL])
 ·rw [show rQ m W ⟨8,i,e,g,a,b⟩ x y=(rI W &&& ~~~(x ^^^ y),true) from rfl,<- hall];refine xX.go_fn mixed Tryz.func177 oL (by simp) fun hf=>?_;simp only [ZA,ZB,ZC,ZD,ZE,↓reduceIte,ZF,ZG,ZH,ZI,ZJ,reduceCtorEq,ZK,↓zU,↓zD,zV,zT,zW,hw]
  (repeat refine sd ?_)
  exact .drop (by simp) (by simp [vw,vwL])
 ·have h0:=hi0 (.inr (.inl rfl))
  by_cases hlt:i<(m.R.length:Int)
  ·have hv:rQ m W ⟨9,i,e,g,a,b⟩ x y=(bN (m.R.getD i.toNat []) x,true):=if_pos hlt;have hge:¬ (m.R.length:Int)<=i:=by omega
   obtain⟨j,rfl⟩:=Int.eq_ofNat_of_zero_le h0;have hg:=pK m.R (show j<m.R.length by omega);have hc:=aU (aIl ok (show j<m.R.length by omega)) x;rw [Int.toNat_natCast] at hv;rw [hv];generalize m.R.getD j []=z at hg hc;refine xX.go_fn mixed Tryz.func177 oL (by simp) fun hf=>?_;simp only [ZA,ZB,ZC,ZD,ZE,↓reduceIte,ZF,ZG,ZH,ZI,ZJ,reduceCtorEq,ZK,↓zU,↓zD,zV,zT,zW,hw,yE,hge,hg]
   (repeat refine sd ?_)
   refine .go (cr hc) ?_;simp only [ZA,ZB,ZC,ZD,ZE,↓reduceIte,ZF,ZG,ZH,ZI,ZJ,reduceCtorEq,ZK,↓zU,↓zD,zV,zT,zW];exact .drop (by simp) (by simp [vw,vwL])
  ·have hv:rQ m W ⟨9,i,e,g,a,b⟩ x y=(0#64,false):=if_neg hlt;have hge:(m.R.length:Int)<=i:=by omega
   rw [hv];refine xX.go_fn mixed Tryz.func177 oL (by simp) fun hf=>?_;simp only [ZA,ZB,ZC,ZD,ZE,↓reduceIte,ZF,ZG,ZH,ZI,ZJ,reduceCtorEq,ZK,↓zU,↓zD,zV,zT,zW,hw,yE,hge]
   (repeat refine sd ?_)
   exact .drop (by simp) (by simp [vw,vwL])
 ·have h0:=hi0 (.inr (.inr rfl))
  by_cases hlt:i<(m.R.length:Int)
  ·have hv:rQ m W ⟨10,i,e,g,a,b⟩ x y=(aEv (m.R.getD i.toNat []) x,true):=if_pos hlt;have hge:¬ (m.R.length:Int)<=i:=by omega
   obtain⟨j,rfl⟩:=Int.eq_ofNat_of_zero_le h0;have hg:=pK m.R (show j<m.R.length by omega);have hc:=aRq (aIl ok (show j<m.R.length by omega)) x;rw [Int.toNat_natCast] at hv;rw [hv];generalize m.R.getD j []=z at hg hc;refine xX.go_fn mixed Tryz.func177 oL (by simp) fun hf=>?_;simp only [ZA,ZB,ZC,ZD,ZE,↓reduceIte,ZF,ZG,ZH,ZI,ZJ,reduceCtorEq,ZK,↓zU,↓zD,zV,zT,zW,hw,yE,hge,hg]
   (repeat refine sd ?_)
   refine .go (cr hc) ?_;simp only [ZA,ZB,ZC,ZD,ZE,↓reduceIte,ZF,ZG,ZH,ZI,ZJ,reduceCtorEq,ZK,↓zU,↓zD,zV,zT,zW];exact .drop (by simp) (by simp [vw,vwL])
  ·have hv:rQ m W ⟨10,i,e,g,a,b⟩ x y=(0#64,false):=if_neg hlt;have hge:(m.R.length:Int)<=i:=by omega
   rw [hv];refine xX.go_fn mixed Tryz.func177 oL (by simp) fun hf=>?_;simp only [ZA,ZB,ZC,ZD,ZE,↓reduceIte,ZF,ZG,ZH,ZI,ZJ,reduceCtorEq,ZK,↓zU,↓zD,zV,zT,zW,hw,yE,hge]
   (repeat refine sd ?_)
   exact .drop (by simp) (by simp [vw,vwL])
 ·have h0:=hg0 (.inl rfl)
  by_cases hlt:g<((2 ^ m.R.length:Nat):Int)
  ·have hv:rQ m W ⟨11,i,e,g,a,b⟩ x y=(bN (zQ m g.toNat false) x,true):=if_pos hlt;have hge:¬ ((2 ^ m.R.length:Nat):Int)<=g:=by omega
   obtain⟨j,rfl⟩:=Int.eq_ofNat_of_zero_le (show 0<=g by omega);have hj:1<=j/\j<2 ^ m.R.length:=by omega
   have hc:=aTb ok hj;have hb:=aU (cM ok hj false) x;rw [Int.toNat_natCast] at hv;rw [hv];unfold pM.d at hc;generalize zQ m j false=z at hc hb ⊢;refine xX.go_fn mixed Tryz.func177 oL (by simp) fun hf=>?_;simp only [ZA,ZB,ZC,ZD,ZE,↓reduceIte,ZF,ZG,ZH,ZI,ZJ,reduceCtorEq,ZK,↓zU,↓zD,zV,zT,zW,hw,yE,hge,hsh]
   (repeat refine sd ?_)
   refine .go (cr hc) ?_;simp only [ZA,ZB,ZC,ZD,ZE,↓reduceIte,ZF,ZG,ZH,ZI,ZJ,reduceCtorEq,ZK,↓zU,↓zD,zV,zT,zW];refine .go (cr hb) ?_;simp only [ZA,ZB,ZC,ZD,ZE,↓reduceIte,ZF,ZG,ZH,ZI,ZJ,reduceCtorEq,ZK,↓zU,↓zD,zV,zT,zW];exact .drop (by simp) (by simp [vw,vwL])
  ·have hv:rQ m W ⟨11,i,e,g,a,b⟩ x y=(0#64,false):=if_neg hlt;have hge:((2 ^ m.R.length:Nat):Int)<=g:=by omega
   rw [hv];refine xX.go_fn mixed Tryz.func177 oL (by simp) fun hf=>?_;simp only [ZA,ZB,ZC,ZD,ZE,↓reduceIte,ZF,ZG,ZH,ZI,ZJ,reduceCtorEq,ZK,↓zU,↓zD,zV,zT,zW,hw,yE,hge,hsh]
   (repeat refine sd ?_)
   exact .drop (by simp) (by simp [vw,vwL])
 ·have h0:=hg0 (.inr (.inl rfl))
  by_cases hlt:g<((2 ^ m.R.length:Nat):Int)
  ·have hv:rQ m W ⟨12,i,e,g,a,b⟩ x y=(bN (zQ m g.toNat true) x,true):=if_pos hlt;have hge:¬ ((2 ^ m.R.length:Nat):Int)<=g:=by omega
   obtain⟨j,rfl⟩:=Int.eq_ofNat_of_zero_le (show 0<=g by omega);have hj:1<=j/\j<2 ^ m.R.length:=by omega
   have hc:=aF9 ok hj;have hb:=aU (cM ok hj true) x;rw [Int.toNat_natCast] at hv;rw [hv];unfold pM.d at hc;generalize zQ m j true=z at hc hb ⊢;refine xX.go_fn mixed Tryz.func177 oL (by simp) fun hf=>?_;simp only [ZA,ZB,ZC,ZD,ZE,↓reduceIte,ZF,ZG,ZH,ZI,ZJ,reduceCtorEq,ZK,↓zU,↓zD,zV,zT,zW,hw,yE,hge,hsh]
   (repeat refine sd ?_)
   refine .go (cr hc) ?_;simp only [ZA,ZB,ZC,ZD,ZE,↓reduceIte,ZF,ZG,ZH,ZI,ZJ,reduceCtorEq,ZK,↓zU,↓zD,zV,zT,zW];refine .go (cr hb) ?_;simp only [ZA,ZB,ZC,ZD,ZE,↓reduceIte,ZF,ZG,ZH,ZI,ZJ,reduceCtorEq,ZK,↓zU,↓zD,zV,zT,zW];exact .drop (by simp) (by simp [vw,vwL])
  ·have hv:rQ m W ⟨12,i,e,g,a,b⟩ x y=(0#64,false):=if_neg hlt;have hge:((2 ^ m.R.length:Nat):Int)<=g:=by omega
   rw [hv];refine xX.go_fn mixed Tryz.func177 oL (by simp) fun hf=>?_;simp only [ZA,ZB,ZC,ZD,ZE,↓reduceIte,ZF,ZG,ZH,ZI,ZJ,reduceCtorEq,ZK,↓zU,↓zD,zV,zT,zW,hw,yE,hge,hsh]
   (repeat refine sd ?_)
   exact .drop (by simp) (by simp [vw,vwL])
 ·have h0:=hg0 (.inr (.inr rfl))
  by_cases hlt:g<((2 ^ m.R.length:Nat):Int)
  ·have hv:rQ m W ⟨13,i,e,g,a,b⟩ x y=(oK (zQ m g.toNat false) (rI W) x y W,true):=if_pos hlt;have hge:¬ ((2 ^ m.R.length:Nat):Int)<=g:=by omega
   have hcm:=hcom rfl hlt;obtain⟨j,rfl⟩:=Int.eq_ofNat_of_zero_le (show 0<=g by omega);have hj:1<=j/\j<2 ^ m.R.length:=by omega
   have hc:=aTb ok hj;have hb:=aNs (cM ok hj false) (by rw [Int.toNat_natCast] at hcm; exact hcm);rw [Int.toNat_natCast] at hv;rw [hv];unfold pM.d at hc;generalize zQ m j false=z at hc hb ⊢;refine xX.go_fn mixed Tryz.func177 oL (by simp) fun hf=>?_;simp only [ZA,ZB,ZC,ZD,ZE,↓reduceIte,ZF,ZG,ZH,ZI,ZJ,reduceCtorEq,ZK,↓zU,↓zD,zV,zT,zW,hw,yE,hge,hsh]
   (repeat refine sd ?_)
   refine .go (cr hc) ?_;simp only [ZA,ZB,ZC,ZD,ZE,↓reduceIte,ZF,ZG,ZH,ZI,ZJ,reduceCtorEq,ZK,↓zU,↓zD,zV,zT,zW,hall];refine .go (cr hb) ?_;simp only [ZA,ZB,ZC,ZD,ZE,↓reduceIte,ZF,ZG,ZH,ZI,ZJ,reduceCtorEq,ZK,↓zU,↓zD,zV,zT,zW];exact .drop (by simp) (by simp [vw,vwL])
  ·have hv:rQ m W ⟨13,i,e,g,a,b⟩ x y=(0#64,false):=if_neg hlt;have hge:((2 ^ m.R.length:Nat):Int)<=g:=by omega
   rw [hv];refine xX.go_fn mixed Tryz.func177 oL (by simp) fun hf=>?_;simp only [ZA,ZB,ZC,ZD,ZE,↓reduceIte,ZF,ZG,ZH,ZI,ZJ,reduceCtorEq,ZK,↓zU,↓zD,zV,zT,zW,hw,yE,hge,hsh]
   (repeat refine sd ?_)
   exact .drop (by simp) (by simp [vw,vwL])
 ·rw [show rQ m W ⟨14,i,e,g,a,b⟩ x y=(0#64,false) from rfl];refine xX.go_fn mixed Tryz.func177 oL (by simp) fun hf=>?_;simp only [ZA,ZB,ZC,ZD,ZE,↓reduceIte,ZF,ZG,ZH,ZI,ZJ,reduceCtorEq,ZK,↓zU,↓zD,zV,zT,zW,hw]
  (repeat refine sd ?_)
  exact .drop (by simp) (by simp [vw,vwL])
 ·rw [show rQ m W ⟨15,i,e,g,a,b⟩ x y=(0#64,false) from rfl];refine xX.go_fn mixed Tryz.func177 oL (by simp) fun hf=>?_;simp only [ZA,ZB,ZC,ZD,ZE,↓reduceIte,ZF,ZG,ZH,ZI,ZJ,reduceCtorEq,ZK,↓zU,↓zD,zV,zT,zW,hw]
  (repeat refine sd ?_)
  exact .drop (by simp) (by simp [vw,vwL])
 ·rw [show rQ m W ⟨16,i,e,g,a,b⟩ x y=(0#64,false) from rfl];refine xX.go_fn mixed Tryz.func177 oL (by simp) fun hf=>?_;simp only [ZA,ZB,ZC,ZD,ZE,↓reduceIte,ZF,ZG,ZH,ZI,ZJ,reduceCtorEq,ZK,↓zU,↓zD,zV,zT,zW,hw]
  (repeat refine sd ?_)
  exact .drop (by simp) (by simp [vw,vwL])
 ·rw [show rQ m W ⟨17,i,e,g,a,b⟩ x y=(0#64,false) from rfl];refine xX.go_fn mixed Tryz.func177 oL (by simp) fun hf=>?_;simp only [ZA,ZB,ZC,ZD,ZE,↓reduceIte,ZF,ZG,ZH,ZI,ZJ,reduceCtorEq,ZK,↓zU,↓zD,zV,zT,zW,hw]
  (repeat refine sd ?_)
  exact .drop (by simp) (by simp [vw,vwL])
 ·rw [show rQ m W ⟨18,i,e,g,a,b⟩ x y=(0#64,false) from rfl];refine xX.go_fn mixed Tryz.func177 oL (by simp) fun hf=>?_;simp only [ZA,ZB,ZC,ZD,ZE,↓reduceIte,ZF,ZG,ZH,ZI,ZJ,reduceCtorEq,ZK,↓zU,↓zD,zV,zT,zW,hw]
  (repeat refine sd ?_)
  exact .drop (by simp) (by simp [vw,vwL])
 ·rw [show rQ m W ⟨19,i,e,g,a,b⟩ x y=(0#64,false) from rfl];refine xX.go_fn mixed Tryz.func177 oL (by simp) fun hf=>?_;simp only [ZA,ZB,ZC,ZD,ZE,↓reduceIte,ZF,ZG,ZH,ZI,ZJ,reduceCtorEq,ZK,↓zU,↓zD,zV,zT,zW,hw]
  (repeat refine sd ?_)
  exact .drop (by simp) (by simp [vw,vwL])
 ·rw [show rQ m W ⟨20,i,e,g,a,b⟩ x y=(0#64,false) from rfl];refine xX.go_fn mixed Tryz.func177 oL (by simp) fun hf=>?_;simp only [ZA,ZB,ZC,ZD,ZE,↓reduceIte,ZF,ZG,ZH,ZI,ZJ,reduceCtorEq,ZK,↓zU,↓zD,zV,zT,zW,hw]
  (repeat refine sd ?_)
  exact .drop (by simp) (by simp [vw,vwL])
 ·rw [show rQ m W ⟨21,i,e,g,a,b⟩ x y=(0#64,false) from rfl];refine xX.go_fn mixed Tryz.func177 oL (by simp) fun hf=>?_;simp only [ZA,ZB,ZC,ZD,ZE,↓reduceIte,ZF,ZG,ZH,ZI,ZJ,reduceCtorEq,ZK,↓zU,↓zD,zV,zT,zW,hw]
  (repeat refine sd ?_)
  exact .drop (by simp) (by simp [vw,vwL])
 ·have hv:rQ m W ⟨op,i,e,g,a,b⟩ x y=(0#64,false):=by
   unfold rQ; simp only; repeat rw [if_neg (by omega)]
  have q1:(op==1)= false:=by rw [beq_eq_false_iff_ne]; omega
  have q2:(op==2)= false:=by rw [beq_eq_false_iff_ne]; omega
  have q3:(op==3)= false:=by rw [beq_eq_false_iff_ne]; omega
  have q4:(op==4)= false:=by rw [beq_eq_false_iff_ne]; omega
  have q5:(op==5)= false:=by rw [beq_eq_false_iff_ne]; omega
  have q6:(op==6)= false:=by rw [beq_eq_false_iff_ne]; omega
  have q7:(op==7)= false:=by rw [beq_eq_false_iff_ne]; omega
  have q8:(op==8)= false:=by rw [beq_eq_false_iff_ne]; omega
  have q9:(op==9)= false:=by rw [beq_eq_false_iff_ne]; omega
  have q10:(op==10)= false:=by rw [beq_eq_false_iff_ne]; omega
  have q11:(op==11)= false:=by rw [beq_eq_false_iff_ne]; omega
  have q12:(op==12)= false:=by rw [beq_eq_false_iff_ne]; omega
  have q13:(op==13)= false:=by rw [beq_eq_false_iff_ne]; omega
  rw [hv];refine xX.go_fn mixed Tryz.func177 oL (by simp) fun hf=>?_;simp only [ZA,ZB,ZC,ZD,ZE,↓reduceIte,ZF,ZG,ZH,ZI,ZJ,reduceCtorEq,ZK,↓zU,↓zD,zV,zT,zW,hw,q1,q2,q3,q4,q5,q6,q7,q8,q9,q10,q11,q12,q13]
  (repeat refine sd ?_)
  exact .drop (by simp) (by simp [vw,vwL])
 ·have hv:rQ m W ⟨op,i,e,g,a,b⟩ x y=(0#64,false):=by
   unfold rQ; simp only; repeat rw [if_neg (by omega)]
  have q1:(op==1)= false:=by rw [beq_eq_false_iff_ne]; omega
  have q2:(op==2)= false:=by rw [beq_eq_false_iff_ne]; omega
  have q3:(op==3)= false:=by rw [beq_eq_false_iff_ne]; omega
  have q4:(op==4)= false:=by rw [beq_eq_false_iff_ne]; omega
  have q5:(op==5)= false:=by rw [beq_eq_false_iff_ne]; omega
  have q6:(op==6)= false:=by rw [beq_eq_false_iff_ne]; omega
  have q7:(op==7)= false:=by rw [beq_eq_false_iff_ne]; omega
  have q8:(op==8)= false:=by rw [beq_eq_false_iff_ne]; omega
  have q9:(op==9)= false:=by rw [beq_eq_false_iff_ne]; omega
  have q10:(op==10)= false:=by rw [beq_eq_false_iff_ne]; omega
  have q11:(op==11)= false:=by rw [beq_eq_false_iff_ne]; omega
  have q12:(op==12)= false:=by rw [beq_eq_false_iff_ne]; omega
  have q13:(op==13)= false:=by rw [beq_eq_false_iff_ne]; omega
  rw [hv];refine xX.go_fn mixed Tryz.func177 oL (by simp) fun hf=>?_;simp only [ZA,ZB,ZC,ZD,ZE,↓reduceIte,ZF,ZG,ZH,ZI,ZJ,reduceCtorEq,ZK,↓zU,↓zD,zV,zT,zW,hw,q1,q2,q3,q4,q5,q6,q7,q8,q9,q10,q11,q12,q13]
  (repeat refine sd ?_)
  exact .drop (by simp) (by simp [vw,vwL])
section
open Rs Fm Ru Te
namespace Te
theorem aMs {nx:Nat} {objs:List (Nat × Ob)} (hu:dH ⟨nx,objs⟩) (nx':Nat) (ob:Ob):∀ k o,St.look objs k=some o->St.get ⟨nx',(nx,ob) :: objs⟩ k=some o:=fun k o hk=>by
 have:=(hu k o hk).1;simp only at this;show St.look (_ :: _) k=_;rw [xY,if_neg (by omega)]; exact hk
end Te
end
section
open Rs Fm Ru Te
end
section
open Rs Fm Ru Te
theorem rW (c:Nat):∀ {l:List (Nat × Ob)} {k:Nat} {o:Ob},St.look l k=some o->St.look (yZ c l) (c+k)= some (o.shift c)
 | [],k,o,h=>by cases h
 | (j,ob) :: r,k,o,h=>by
  rw [xY] at h;show St.look ((c+j,ob.shift c) :: yZ c r) _=_;rw [xY]
  by_cases e:j=k
  ·rw [if_pos e] at h; rw [if_pos (by omega)]; cases h; rfl
  ·rw [if_neg e] at h; rw [if_neg (by omega)]; exact rW c h
namespace Te
def aIa (s:bP) (f:List Nd):Int:=if chk s≠0 then chk s else if xH f≠0 then xH f else if (rM .andNot .i64 (zS f:Int) 271 != 0)= true then 10 else if sT f s.ag s.fa=false then 2 else 0
theorem req_zero {s:bP} {f:List Nd} (h:aIa s f=0):chk s=0/\xH f=0:=by
 unfold aIa at h
 by_cases c1:chk s≠0
 ·rw [if_pos c1] at h; exact absurd h c1
 rw [if_neg c1] at h
 by_cases c2:xH f≠0
 ·rw [if_pos c2] at h; exact absurd h c2
 exact⟨by simpa using c1,by simpa using c2⟩
end Te
end
section
open Rs Fm Ru Te
namespace Te
end Te
end
open Rs Fm Ru Te
namespace Te
def pt (T p:Nat):Nat × Nat:=(p / T,p % T)
def relK (rs:List wP) (g:Nat) (m:Bool) (p q:Nat × Nat) (a:Nat):Bool:=(List.range a).all fun b=>!g.testBit b || (decide (uQ rs b p=uQ rs b q)== m)
end Te
open Ru
namespace Ru
def lN (rs:List wP) (l:List (Nat × Nat)) (A F:Nat):pM:=⟨(l.length:Int),eC rs l F,oN rs l A⟩
def vX (R t:Nat):List (Nat × Nat):=(List.range R).map fun r=>(r,t)
theorem aS (R t:Nat):(vX R t).length=R:=by simp [vX]
theorem tG {k:Nat} (hk:k<64) (i:Nat):(1#64 <<< k).getLsbD i=decide (i=k):=by
 by_cases hi:i<64
 ·have:∀ k,k<64->∀ i,i<64->(1#64 <<< k).getLsbD i=decide (i=k):=by decide
  exact this k hk i hi
 ·rw [BitVec.getLsbD_of_ge _ _ (by omega)];exact(decide_eq_false (by omega)).symm
theorem dC {rs:List wP} {l:List (Nat × Nat)} {f:Nat}:∀ (k i:Nat),k<=64->(gK rs l f k).getLsbD i=(decide (i<k)&& (aMk rs (l.getD i (0,0))).getLsbD f)
 | 0,i,_=>by simp [gK]
 | k+1,i,hk=>by
  unfold gK;rw [BitVec.getLsbD_or,dC k i (by omega)]
  by_cases e:i=k
  ·subst e
   cases hb:(aMk rs (l.getD i (0,0))).getLsbD f
   ·simp
   ·rw [if_pos rfl,tG (by omega)];simp
  ·have h2:(if (aMk rs (l.getD k (0,0))).getLsbD f=true then 1#64 <<< k else 0#64).getLsbD i=false:=by
    split
    ·rw [tG (by omega)]; exact decide_eq_false e
    ·exact BitVec.getLsbD_zero
   rw [h2,Bool.or_false];congr 1;rw [Bool.eq_iff_iff,decide_eq_true_iff,decide_eq_true_iff]; omega
theorem oA {rs:List wP} {l:List (Nat × Nat)} {a:Nat} {x:Int}:∀ (k i:Nat),k<=64->(relK rs l a x k).getLsbD i=(decide (i<k)&& decide (uQ rs a (l.getD i (0,0))= x))
 | 0,i,_=>by simp [relK]
 | k+1,i,hk=>by
  unfold relK;rw [BitVec.getLsbD_or,oA k i (by omega)]
  by_cases e:i=k
  ·subst e
   by_cases hb:uQ rs a (l.getD i (0,0))= x
   ·rw [if_pos hb,tG (by omega),decide_eq_true hb];simp
   ·rw [if_neg hb,decide_eq_false hb];simp
  ·have h2:(if uQ rs a (l.getD k (0,0))= x then 1#64 <<< k else 0#64).getLsbD i=false:=by
    split
    ·rw [tG (by omega)]; exact decide_eq_false e
    ·exact BitVec.getLsbD_zero
   rw [h2,Bool.or_false];congr 1;rw [Bool.eq_iff_iff,decide_eq_true_iff,decide_eq_true_iff]; omega
theorem aZo {rs:List wP} {A F T:Nat} (ok:OkR rs A F T) {l:List (Nat × Nat)} (h1:1<=l.length) (h2:l.length<=64):oG (lN rs l A F) l.length where
 w:=rfl
 hW:=⟨h1,h2⟩
 hV:=by have:=ok.hF; simp [lN,eC]; exact this
 hR:=by have:=ok.hA; simp [lN,oN]; exact this
 row:=fun r hr=>by
  simp only [lN,oN,List.mem_map] at hr;obtain⟨a,_,rfl⟩:=hr;simp [mV]
 val:=fun x hx=>by
  simp only [lN,eC,List.mem_map] at hx;obtain⟨f,_,rfl⟩:=hx;refine aZl h2 fun i hi=>?_;rw [dC _ _ h2,Bool.and_eq_true] at hi;exact of_decide_eq_true hi.1
 rel:=fun r hr x hx=>by
  simp only [lN,oN,List.mem_map] at hr;obtain⟨a,_,rfl⟩:=hr;simp only [mV,List.mem_map] at hx;obtain⟨p,_,rfl⟩:=hx;refine aZl h2 fun i hi=>?_;rw [oA _ _ h2,Bool.and_eq_true] at hi;exact of_decide_eq_true hi.1
end Ru
open Rs Fm Ru Te
namespace Te
end Te
namespace Te
end Te
open Rs Fm Ru Te
namespace Te
def evT (rs:List wP) (A T:Nat):Tr->Tab
 | .nil=>fun _=>false
 | .nd op i e g x y=>aTo rs A T ⟨op,i,e,g,0,0⟩ (evT rs A T x) (evT rs A T y)
theorem aOx {rs:List wP} {A T:Nat} {n m:Nd} {x y x' y':Tab} (h1:n.op=m.op) (h2:n.i=m.i) (h3:n.g=m.g) (hx:(xZ n.op).1.x=true->x=x') (hy:(xZ n.op).1.y=true->y=y') :
  aTo rs A T n x y=aTo rs A T m x' y':=by
 obtain⟨op,i,e,g,a,b⟩:=n;obtain⟨op',i',e',g',a',b'⟩:=m;simp only at h1 h2 h3 hx hy;subst h1 h2 h3;rcases vP op with rfl | rfl | rfl | rfl | rfl | rfl | rfl | rfl | rfl | rfl | rfl | rfl | rfl | rfl | rfl | rfl | rfl | rfl | rfl | rfl | rfl | h | h
 all_goals first
  | (have hx':=hx rfl; have hy':=hy rfl; subst hx' hy'; rfl)
  | (have hx':=hx rfl; subst hx'; rfl)
  | rfl
  | (unfold aTo aDn; simp only; funext p; repeat rw [if_neg (by omega)])
def okN (A F:Nat) (p:Nd):Bool:=decide (tB p &&& 3824=0)&& decide (wI p / 2 ^ A=0)&& decide (tA p / 2 ^ F=0)
theorem sO {m:Nd->Nat} {φ:Nat->Nat} (h0:φ 0=0) (h:∀ a b,φ (a ||| b)= φ a ||| φ b) (l:List Nd):φ (yM m l)= yM (fun p=>φ (m p)) l:=by
 have key:∀ (l:List Nd) (a:Nat),φ (l.foldl (fun a p=>a ||| m p) a)= l.foldl (fun a p=>a ||| φ (m p)) (φ a):=by
  intro l
  induction l with
  | nil=>intro a; rfl
  | cons p r ih=>intro a; rw [List.foldl_cons,List.foldl_cons,ih,h]
 unfold yM;rw [key,h0]
theorem cL {n:Nat} (h:n<4096):(rM .andNot .i64 (n:Int) 271 != 0)= !decide (n &&& 3824=0):=by
 have:∀ n:Fin 4096,(rM .andNot .i64 ((n.val:Nat):Int) 271 != 0)= !decide (n.val &&& 3824=0):=by decide +kernel
 exact this ⟨n,h⟩
theorem aGe {s:bP} {A F T:Nat} {rs:List wP} (hs:s=⟨A,F,T,rs⟩) (hz:chk s=0) (ok:OkR rs A F T) {f:List Nd} (hc:xH f=0):aIa s f=0 ↔ ∀ p ∈ xJ f,okN A F p=true:=by
 have hlt:zS f<4096:=by
  refine sQ fun p _=>?_;have:=mK p.op;unfold tB; omega
 have e1:(zS f &&& 3824=0) ↔ ∀ p ∈ xJ f,tB p &&& 3824=0:=by
  unfold zS;rw [sO (φ:=fun n=>n &&& 3824) (by decide) (fun a b=>Nat.and_or_distrib_right a b 3824),tP]
 have dv:∀ n a b:Nat,(a ||| b)/ 2 ^ n=a / 2 ^ n ||| b / 2 ^ n:=fun n a b=>by
  rw [<- Nat.shiftRight_eq_div_pow,<- Nat.shiftRight_eq_div_pow,<- Nat.shiftRight_eq_div_pow,Nat.shiftRight_or_distrib]
 have e2:tW f / 2 ^ A=0 ↔ ∀ p ∈ xJ f,wI p / 2 ^ A=0:=by
  unfold tW;rw [sO (φ:=fun n=>n / 2 ^ A) (by simp) (dv A),tP]
 have e3:pI f / 2 ^ F=0 ↔ ∀ p ∈ xJ f,tA p / 2 ^ F=0:=by
  unfold pI;rw [sO (φ:=fun n=>n / 2 ^ F) (by simp) (dv F),tP]
 have hA:=ok.hA;have hF:=ok.hF
 have ef:sT f s.ag s.fa=true ↔ tW f / 2 ^ A=0/\pI f / 2 ^ F=0:=by
  subst hs;unfold sT oC;simp only [Bool.and_eq_true,Bool.or_eq_true,decide_eq_true_eq,Int.toNat_natCast]
  constructor
  ·rintro ⟨⟨_,h1⟩,h2⟩; exact⟨h1.resolve_left (by omega),h2.resolve_left (by omega)⟩
  ·rintro ⟨h1,h2⟩; exact⟨⟨hc,.inr h1⟩,.inr h2⟩
 unfold aIa;rw [if_neg (by simpa using hz),if_neg (by simpa using hc),cL hlt]
 constructor
 ·intro h p hp
  by_cases c:zS f &&& 3824=0
  ·rw [if_neg (by simp [c])] at h
   cases h2:sT f s.ag s.fa with
   | false=>rw [h2,if_pos rfl] at h; cases h
   | true=>
    have h3:=ef.1 h2;unfold okN;simp only [Bool.and_eq_true,decide_eq_true_eq];exact⟨⟨e1.1 c p hp,e2.1 h3.1 p hp⟩,e3.1 h3.2 p hp⟩
  ·rw [if_pos (by simp [c])] at h; cases h
 ·intro h;have h':∀ p ∈ xJ f,(tB p &&& 3824=0/\wI p / 2 ^ A=0)/\ tA p / 2 ^ F=0:=fun p hp=>by simpa [okN] using h p hp
  have c:zS f &&& 3824=0:=e1.2 fun p hp=>(h' p hp).1.1;rw [if_neg (by simp [c]),ef.2 ⟨e2.2 fun p hp=>(h' p hp).1.2,e3.2 fun p hp=>(h' p hp).2⟩,if_neg (by decide)]
end Te
namespace Fm
end Fm
namespace Te
end Te
open Rs Fm Ru Te
namespace Te
def aDb (φ:Nat->Bool):Nat->BitVec 64
 | 0=>0#64
 | k+1=>aDb φ k ||| (if φ k=true then 1#64 <<< k else 0#64)
theorem aV3 {φ:Nat->Bool}:∀ (k i:Nat),k<=64->(aDb φ k).getLsbD i=(decide (i<k)&& φ i)
 | 0,i,_=>by simp [aDb]
 | k+1,i,hk=>by
  unfold aDb;rw [BitVec.getLsbD_or,aV3 k i (by omega)]
  by_cases e:i=k
  ·subst e
   cases hb:φ i
   ·simp
   ·rw [if_pos rfl,tG (by omega)];simp
  ·have h2:(if φ k=true then 1#64 <<< k else 0#64).getLsbD i=false:=by
    split
    ·rw [tG (by omega)]; exact decide_eq_false e
    ·exact BitVec.getLsbD_zero
   rw [h2,Bool.or_false];congr 1;exact decide_eq_decide.2 (by omega)
def qM (T W:Nat) (x:Tab):BitVec 64:=aDb (fun w=>x (pt T w)) W
theorem xC {T W:Nat} {x:Tab} (hW:W<=64) (i:Nat):(qM T W x).getLsbD i=(decide (i<W)&& x (pt T i)):=aV3 W i hW
theorem mB {a b:BitVec 64} (h:∀ i,i<64->a.getLsbD i=b.getLsbD i):a=b:=BitVec.eq_of_getLsbD_eq h
theorem aU2 (r:List (BitVec 64)) (s:BitVec 64):∀ (k i:Nat),k<=64->(aTh r s k).getLsbD i=(decide (i<k)&& (r.getD i 0 &&& ~~~s==0#64))
 | 0,i,_=>by simp [aTh]
 | k+1,i,hk=>by
  unfold aTh
  have e1:(if (r.getD k 0 &&& ~~~s==0#64)= true then aTh r s k ||| 1#64 <<< k else aTh r s k)= aTh r s k ||| (if (r.getD k 0 &&& ~~~s==0#64)= true then 1#64 <<< k else 0#64):=by
   split
   ·rfl
   ·exact BitVec.or_zero.symm
  rw [e1,BitVec.getLsbD_or,aU2 r s k i (by omega)]
  by_cases e:i=k
  ·subst e
   cases hb:(r.getD i 0 &&& ~~~s==0#64)
   ·simp
   ·rw [if_pos rfl,tG (by omega)];simp
  ·have h2:(if (r.getD k 0 &&& ~~~s==0#64)= true then 1#64 <<< k else 0#64).getLsbD i=false:=by
    split
    ·rw [tG (by omega)]; exact decide_eq_false e
    ·exact BitVec.getLsbD_zero
   rw [h2,Bool.or_false];congr 1;exact decide_eq_decide.2 (by omega)
theorem aQr {a s:BitVec 64}:(a &&& ~~~s==0#64)= true ↔ ∀ v,v<64->a.getLsbD v=true->s.getLsbD v=true:=by
 rw [beq_iff_eq]
 constructor
 ·intro h v hv ha;have:=congrArg (·.getLsbD v) h;simp only [BitVec.getLsbD_and,BitVec.getLsbD_not,ha,hv,BitVec.getLsbD_zero] at this;simpa using this
 ·intro h;refine mB fun v hv=>?_;rw [BitVec.getLsbD_and,BitVec.getLsbD_not,BitVec.getLsbD_zero]
  cases ha:a.getLsbD v
  ·rfl
  ·rw [h v hv ha]; simp
theorem aQc {rs:List wP} {T v:Nat} (h:v<rs.length*T):(ptl rs T).getD v (0,0)= pt T v:=aGi T h
theorem aF8 {rs:List wP} {T:Nat} {P:Nat × Nat->Bool}:(ptl rs T).all P=true ↔ ∀ v,v<rs.length*T->P (pt T v)= true:=by
 rw [List.all_eq_true]
 constructor
 ·intro h v hv;refine h _ ?_;unfold ptl ptN;exact List.mem_map.2 ⟨v,List.mem_range.2 hv,rfl⟩
 ·intro h q hq;unfold ptl ptN at hq;obtain⟨v,hv,rfl⟩:=List.mem_map.1 hq;exact h v (List.mem_range.1 hv)
def aHd (rs:List wP) (T:Nat) (r:List (BitVec 64)) (ρ:Nat × Nat->Nat × Nat->Bool):Prop:=
 r.length=rs.length*T/\∀ w,w<rs.length*T->∀ v,(r.getD w 0).getLsbD v=(decide (v<rs.length*T)&& ρ (pt T w) (pt T v))
theorem jL {rs:List wP} {T:Nat} (hW:rs.length*T<=64) {r:List (BitVec 64)} {ρ:Nat × Nat->Nat × Nat->Bool} (h:aHd rs T r ρ) {s:BitVec 64} {x:Tab} (hs:∀ v,v<rs.length*T->s.getLsbD v=x (pt T v)) :
  bN r s=qM T (rs.length*T) fun p=>(ptl rs T).all fun q=>!ρ p q || x q:=by
 obtain⟨hl,hr⟩:=h;refine mB fun i _=>?_;rw [xC hW,bN,aU2 r s _ i (by omega),hl]
 by_cases hi:i<rs.length*T
 ·rw [decide_eq_true hi,Bool.true_and,Bool.true_and,Bool.eq_iff_iff,aQr,aF8]
  constructor
  ·intro h v hv
   cases e:ρ (pt T i) (pt T v) with
   | false=>rfl
   | true=>
    have:=h v (by omega) (by rw [hr i hi v,decide_eq_true hv,e]; rfl);rw [hs v hv] at this;simpa using this
  ·intro h v _ ha;rw [hr i hi v,Bool.and_eq_true] at ha;have hv:=of_decide_eq_true ha.1;have:=h v hv;rw [ha.2] at this;rw [hs v hv];simpa using this
 ·rw [decide_eq_false hi,Bool.false_and,Bool.false_and]
section
variable {rs : List wP} {A F T : Nat}
theorem aVr {a:Nat} (ha:a<A) (hW:rs.length*T<=64):aHd rs T ((lN rs (ptl rs T) A F).R.getD a []) fun p q=>decide (uQ rs a q=uQ rs a p):=by
 have hl:(ptl rs T).length=rs.length*T:=sH T _
 have hg:(lN rs (ptl rs T) A F).R.getD a []=mV rs (ptl rs T) a:=by
  show (oN rs (ptl rs T) A).getD a []=_;simp [oN,List.getD,ha]
 rw [hg];refine⟨by simp [mV,hl],fun w hw v=>?_⟩
 have hw':(mV rs (ptl rs T) a).getD w 0=Ru.relK rs (ptl rs T) a (uQ rs a (pt T w)) (rs.length*T):=by
  have h1:w<(ptl rs T).length:=by omega
  have h2:=aQc (rs:=rs) hw;rw [List.getD,List.getElem?_eq_getElem h1] at h2;simp only [Option.getD_some] at h2;simp only [mV,List.getD,List.getElem?_map,List.getElem?_eq_getElem h1,Option.map_some,Option.getD_some,h2,hl]
 rw [hw',oA _ _ hW]
 by_cases hv:v<rs.length*T
 ·rw [decide_eq_true hv,aQc hv]
 ·rw [decide_eq_false hv,Bool.false_and,Bool.false_and]
theorem iP {m:pM} {W:Nat} (ok:oG m W) (hW:rs.length*T=W) (hR:m.R.length=A) {g:Nat} (hg:1<=g/\g<2 ^ m.R.length) (meet:Bool) (hk:∀ a,a<A->aHd rs T (m.R.getD a []) fun p q=>decide (uQ rs a q=uQ rs a p)) :
  aHd rs T (zQ m g meet) fun p q=>if meet=true then aBe rs A g p q else aI9 rs A g p q:=by
 obtain⟨⟨a0,ha0,hb0⟩,hl,hv⟩:=gV ok hg meet;refine⟨by rw [hl,hW],fun w hw v=>?_⟩;rw [hv w (by omega) v];unfold aRz;rw [hR] at ha0 ⊢
 have hbit:∀ a,a<A->((m.R.getD a []).getD w 0).getLsbD v=(decide (v<rs.length*T)&& decide (uQ rs a (pt T w)= uQ rs a (pt T v))):=fun a ha=>by
  rw [(hk a ha).2 w hw v];congr 1;exact decide_eq_decide.2 ⟨fun h=>h.symm,fun h=>h.symm⟩
 cases meet with
 | true=>
  show _=(decide (v<rs.length*T)&& aBe rs A g (pt T w) (pt T v));rw [if_pos rfl];unfold aBe
  by_cases hvw:v<rs.length*T
  ·rw [decide_eq_true hvw,Bool.true_and];refine aZx fun a ha=>?_;rw [hbit a (List.mem_range.1 ha),decide_eq_true hvw,Bool.true_and]
  ·rw [decide_eq_false hvw,Bool.false_and];refine Bool.eq_false_iff.2 fun h=>?_;rw [List.all_eq_true] at h;have:=h a0 (List.mem_range.2 ha0);rw [hb0,hbit a0 ha0,decide_eq_false hvw] at this;simp at this
 | false=>
  show _=(decide (v<rs.length*T)&& aI9 rs A g (pt T w) (pt T v));rw [if_neg (by decide)];unfold aI9
  by_cases hvw:v<rs.length*T
  ·rw [decide_eq_true hvw,Bool.true_and,Bool.eq_iff_iff,List.any_eq_true,List.any_eq_true]
   constructor
   ·rintro ⟨a,ha,h⟩;refine⟨a,ha,?_⟩
    rwa [hbit a (List.mem_range.1 ha),decide_eq_true hvw,Bool.true_and] at h
   ·rintro ⟨a,ha,h⟩;refine⟨a,ha,?_⟩
    rwa [hbit a (List.mem_range.1 ha),decide_eq_true hvw,Bool.true_and]
  ·rw [decide_eq_false hvw,Bool.false_and];refine Bool.eq_false_iff.2 fun h=>?_;rw [List.any_eq_true] at h;obtain⟨a,ha,h⟩:=h;rw [hbit a (List.mem_range.1 ha),decide_eq_false hvw] at h;simp at h
theorem aXx {g:Nat} {x:Tab} {p:Nat × Nat}:rC rs A T g x p=(ptl rs T).all fun q=>!aI9 rs A g p q || x q:=by
 rw [Bool.eq_iff_iff,aS4,List.all_eq_true]
 constructor
 ·intro h q hq
  cases e:aI9 rs A g p q with
  | false=>rfl
  | true=>rw [h q hq e]; rfl
 ·intro h q hq e;have:=h q hq;rw [e] at this;simpa using this
theorem aU9 {W T:Nat} (hW:W<=64):rI W=qM T W fun _=>true:=by
 refine mB fun i hi=>?_;rw [tF hW hi,xC hW,Bool.and_true]
theorem pQ {m:pM} {W:Nat} (ok:oG m W) (hW:rs.length*T=W) (hR:m.R.length=A) {g:Nat} (hg:1<=g/\g<2 ^ m.R.length) (hk:∀ a,a<A->aHd rs T (m.R.getD a []) fun p q=>decide (uQ rs a q=uQ rs a p)) (x y:Tab) :
  ∀ n,oK (zQ m g false) (rI W) (qM T W x) (qM T W y) n=qM T W (gJ rs A T g x y n)
 | 0=>by have:=ok.hW; exact aU9 this.2
 | n+1=>by
  have hW64:=ok.hW.2;show bN _ _=_;rw [pQ ok hW hR hg hk x y n];have hrel:=iP ok hW hR hg false hk
  rw [jL (by omega) hrel (x:=fun q=>!x q || (y q&&gJ rs A T g x y n q)) fun v hv=>?_]
  ·rw [hW];congr 1;funext p;simp only [Bool.false_eq_true,↓reduceIte];rw [<- aXx];rfl
  ·rw [hW] at hv;simp only [BitVec.getLsbD_or,BitVec.getLsbD_and,BitVec.getLsbD_not,tF hW64 (show v<64 by omega),xC hW64,decide_eq_true hv,decide_eq_true (show v<64 by omega),Bool.true_and]
end
end Te
open Rs Fm Ru Te
namespace Te
def rP (A F:Nat) (n:Nd):Bool:=
 if n.op<1 then false else if n.op=3 then decide (n.i<(F:Int)) else if n.op<=8 then true else if n.op<=10 then decide (n.i<(A:Int)) else if n.op<=13 then decide (n.g<((2 ^ A:Nat):Int)) else false
theorem aLi {A F:Nat} {n:Nd} (h:n.op<1\/21<n.op):rP A F n=false:=by
 rcases h with h | h <;> unfold rP <;> repeat (first | rw [if_pos (by omega)] | rw [if_neg (by omega)])
theorem aHy {m:pM} {W:Nat} {n:Nd} {x y:BitVec 64} (h:n.op<1\/21<n.op):rQ m W n x y=(0#64,false):=by
 unfold rQ; repeat rw [if_neg (by omega)]
theorem fD {T W:Nat} {x y:Tab} (h:∀ v,v<W->x (pt T v)= y (pt T v)) (hW:W<=64):qM T W x=qM T W y:=by
 refine mB fun i _=>?_;rw [xC hW,xC hW]
 by_cases hi:i<W
 ·rw [h i hi]
 ·rw [decide_eq_false hi,Bool.false_and,Bool.false_and]
theorem aGg {rs:List wP} {T v:Nat} (hv:v<rs.length*T):pt T v ∈ ptl rs T:=by
 unfold ptl ptN;exact List.mem_map.2 ⟨v,List.mem_range.2 hv,rfl⟩
theorem aJo (rs:List wP) (A T g:Nat) (x y:Tab) {p:Nat × Nat} (hp:p ∈ ptl rs T):gJ rs A T g x y (rs.length*T+1) p=gJ rs A T g x y (rs.length*T) p:=by
 obtain⟨n,h1,h2⟩:=aJp (rs:=rs) (A:=A) (T:=T) g x y;obtain⟨m,hm⟩:=Nat.exists_eq_add_of_le h1;rw [hm,iI h2 m p hp,show n+m+1=n+(m+1) by omega,iI h2 (m+1) p hp]
section
variable {rs : List wP} {A F T : Nat}
theorem aFv (ok:OkR rs A F T) (hW:rs.length*T<=64) {g:Nat} (hg:1<=g/\g<2 ^ A) (x y:Tab) :
  oK (zQ (lN rs (ptl rs T) A F) g false) (rI (rs.length*T)) (qM T (rs.length*T) x) (qM T (rs.length*T) y) (rs.length*T+1)= oK (zQ (lN rs (ptl rs T) A F) g false) (rI (rs.length*T)) (qM T (rs.length*T) x) (qM T (rs.length*T) y) (rs.length*T):=by
 have hl:(ptl rs T).length=rs.length*T:=sH T _;have h1:1<=rs.length*T:=Nat.mul_pos ok.hR.1 ok.hT.1;have hm:=aZo (F:=F) ok (l:=ptl rs T) (by omega) (by omega);rw [hl] at hm;have hRl:(lN rs (ptl rs T) A F).R.length=A:=by show (oN rs (ptl rs T) A).length=A; simp [oN]
 have hk:∀ a,a<A->aHd rs T ((lN rs (ptl rs T) A F).R.getD a []) fun p q=>decide (uQ rs a q=uQ rs a p):=fun a ha=>aVr ha hW;rw [pQ hm rfl hRl (by rw [hRl]; exact hg) hk,pQ hm rfl hRl (by rw [hRl]; exact hg) hk];exact fD (fun v hv=>aJo rs A T g x y (aGg hv)) hW
theorem aM9 (ok:OkR rs A F T) (hW:rs.length*T<=64) {n:Nd} {k:Int} (hn:yJ n k=0) {x y:BitVec 64} {tx ty:Tab} (hx:(xZ n.op).1.x=true->x=qM T (rs.length*T) tx) (hy:(xZ n.op).1.y=true->y=qM T (rs.length*T) ty) :
  rQ (lN rs (ptl rs T) A F) (rs.length*T) n x y=if rP A F n=true then(qM T (rs.length*T) (aTo rs A T n tx ty),true) else(0#64,false):=by
 have hl:(ptl rs T).length=rs.length*T:=sH T _;have h1:1<=rs.length*T:=Nat.mul_pos ok.hR.1 ok.hT.1;have hm:=aZo (F:=F) ok (l:=ptl rs T) (by omega) (by omega);rw [hl] at hm;have hRl:(lN rs (ptl rs T) A F).R.length=A:=by show (oN rs (ptl rs T) A).length=A; simp [oN]
 have hVl:(lN rs (ptl rs T) A F).V.length=F:=by show (eC rs (ptl rs T) F).length=F; simp [eC]
 have hk:∀ a,a<A->aHd rs T ((lN rs (ptl rs T) A F).R.getD a []) fun p q=>decide (uQ rs a q=uQ rs a p):=fun a ha=>aVr ha hW
 have hVg:∀ f,f<F->∀ i,((lN rs (ptl rs T) A F).V.getD f 0).getLsbD i=(decide (i<rs.length*T)&& (aMk rs (pt T i)).getLsbD f):=fun f hf i=>by
  have e:(lN rs (ptl rs T) A F).V.getD f 0=gK rs (ptl rs T) f (ptl rs T).length:=by
   show (eC rs (ptl rs T) F).getD f 0=_;simp [eC,List.getD,hf]
  rw [e,hl,dC _ _ hW]
  by_cases hi:i<rs.length*T
  ·rw [aQc hi]
  ·rw [decide_eq_false hi,Bool.false_and,Bool.false_and]
 have hi0:n.op=3\/n.op=9\/n.op=10->0<=n.i:=fun h=>by
  rcases h with h | h | h
  ·exact(pB hn (by rw [h]; rfl)).1
  ·exact(vB hn (by rw [h]; rfl)).1
  ·exact(vB hn (by rw [h]; rfl)).1
 have hg0:n.op=11\/n.op=12\/n.op=13->1<=n.g/\n.g<=15:=fun h=>by
  have hgr:(xZ n.op).1.gr=true:=by rcases h with h | h | h <;> rw [h] <;> rfl
  have h1:=(zO.1 hn).2.2.2.2;simp only [Bool.or_eq_false_iff,hgr,xS,Bool.true_and,decide_eq_false_iff_not] at h1;omega
 obtain⟨op,i,e,g,a,b⟩:=n;simp only at hi0 hg0 hx hy;generalize hm':lN rs (ptl rs T) A F=m at *;generalize hWW:rs.length*T=W at *;have fin:∀ {p q:BitVec 64},(∀ v,v<64->p.getLsbD v=q.getLsbD v)->(p,true)= (q,true):=fun h=>by rw [mB h]
 rcases vP op with rfl | rfl | rfl | rfl | rfl | rfl | rfl | rfl | rfl | rfl | rfl | rfl | rfl | rfl | rfl | rfl | rfl | rfl | rfl | rfl | rfl | h | h
 ·show (rI W,true)= (qM T W fun _=>true,true);rw [aU9 hW]
 ·show (0#64,true)= (qM T W fun _=>false,true);refine fin fun v _=>?_;rw [xC hW,Bool.and_false,BitVec.getLsbD_zero]
 ·have h0:=hi0 (.inl rfl);show (if i<(m.V.length:Int) then(m.V.getD i.toNat 0,true) else(0#64,false))= if decide (i<(F:Int))= true then(qM T W fun p=>(aMk rs p).getLsbD i.toNat,true) else(0#64,false);rw [hVl]
  by_cases hlt:i<(F:Int)
  ·rw [if_pos hlt,if_pos (decide_eq_true hlt)];refine fin fun v _=>?_;rw [hVg i.toNat (by omega),xC hW]
  ·rw [if_neg hlt,if_neg (by simpa using hlt)]
 ·have hx:=hx rfl;show (rI W &&& ~~~x,true)= (qM T W fun p=>!tx p,true);refine fin fun v hv=>?_;rw [hx,BitVec.getLsbD_and,BitVec.getLsbD_not,tF hW hv,xC hW,xC hW,decide_eq_true hv];cases decide (v<W) <;> simp
 ·have hx:=hx rfl;have hy:=hy rfl;show (x &&& y,true)= (qM T W fun p=>tx p&&ty p,true);refine fin fun v hv=>?_;rw [hx,hy,BitVec.getLsbD_and,xC hW,xC hW,xC hW];cases decide (v<W) <;> simp
 ·have hx:=hx rfl;have hy:=hy rfl;show (x ||| y,true)= (qM T W fun p=>tx p || ty p,true);refine fin fun v hv=>?_;rw [hx,hy,BitVec.getLsbD_or,xC hW,xC hW,xC hW];cases decide (v<W) <;> simp
 ·have hx:=hx rfl;have hy:=hy rfl;show (rI W &&& ~~~x ||| y,true)= (qM T W fun p=>!tx p || ty p,true);refine fin fun v hv=>?_;rw [hx,hy,BitVec.getLsbD_or,BitVec.getLsbD_and,BitVec.getLsbD_not,tF hW hv,xC hW,xC hW,xC hW,decide_eq_true hv];cases decide (v<W) <;> simp
 ·have hx:=hx rfl;have hy:=hy rfl;show (rI W &&& ~~~(x ^^^ y),true)= (qM T W fun p=>tx p==ty p,true);refine fin fun v hv=>?_;rw [hx,hy,BitVec.getLsbD_and,BitVec.getLsbD_not,BitVec.getLsbD_xor,tF hW hv,xC hW,xC hW,xC hW,decide_eq_true hv];cases decide (v<W) <;> cases tx (pt T v) <;> cases ty (pt T v) <;> rfl
 ·have h0:=hi0 (.inr (.inl rfl));have hx:=hx rfl;show (if i<(m.R.length:Int) then(bN (m.R.getD i.toNat []) x,true) else(0#64,false))= if decide (i<(A:Int))= true then(qM T W (gE rs T i.toNat tx),true) else(0#64,false);rw [hRl]
  by_cases hlt:i<(A:Int)
  ·rw [if_pos hlt,if_pos (decide_eq_true hlt)];have:=jL (by omega) (hk i.toNat (by omega)) (s:=x) (x:=tx) fun v hv=>by rw [hx,xC hW,decide_eq_true (by omega),Bool.true_and]
   rw [this,hWW];rfl
  ·rw [if_neg hlt,if_neg (by simpa using hlt)]
 ·have h0:=hi0 (.inr (.inr rfl));have hx:=hx rfl;show (if i<(m.R.length:Int) then(aEv (m.R.getD i.toNat []) x,true) else(0#64,false))= if decide (i<(A:Int))= true then(qM T W fun p=>!gE rs T i.toNat (fun q=>!tx q) p,true) else(0#64,false);rw [hRl]
  by_cases hlt:i<(A:Int)
  ·rw [if_pos hlt,if_pos (decide_eq_true hlt)];have hkk:=hk i.toNat (by omega);have:=jL (by omega) hkk (s:= ~~~x) (x:=fun q=>!tx q) fun v hv=>by rw [hx,BitVec.getLsbD_not,xC hW,decide_eq_true (show v<64 by omega),decide_eq_true (show v<W by omega),Bool.true_and,Bool.true_and]
   unfold aEv;rw [this,hkk.1,hWW];refine fin fun v hv=>?_;rw [BitVec.getLsbD_and,BitVec.getLsbD_not,tF hW hv,xC hW,xC hW,decide_eq_true hv];show (decide (v<W)&& (true&&!(decide (v<W)&& gE rs T i.toNat (fun q=>!tx q) (pt T v))))= _;cases decide (v<W) <;> simp
  ·rw [if_neg hlt,if_neg (by simpa using hlt)]
 ·have h0:=hg0 (.inl rfl);have hx:=hx rfl;show (if g<((2 ^ m.R.length:Nat):Int) then(bN (zQ m g.toNat false) x,true) else(0#64,false))= if decide (g<((2 ^ A:Nat):Int))= true then(qM T W (rC rs A T g.toNat tx),true) else(0#64,false);rw [hRl]
  by_cases hlt:g<((2 ^ A:Nat):Int)
  ·rw [if_pos hlt,if_pos (decide_eq_true hlt)];have hrel:=iP hm hWW hRl (g:=g.toNat) (by rw [hRl]; omega) false hk;have:=jL (by omega) hrel (s:=x) (x:=tx) fun v hv=>by rw [hx,xC hW,decide_eq_true (by omega),Bool.true_and]
   rw [this,hWW];refine congrArg (fun z=>(z,true)) (fD (fun v _=>?_) hW);rw [aXx];rfl
  ·rw [if_neg hlt,if_neg (by simpa using hlt)]
 ·have h0:=hg0 (.inr (.inl rfl));have hx:=hx rfl;show (if g<((2 ^ m.R.length:Nat):Int) then(bN (zQ m g.toNat true) x,true) else(0#64,false))= if decide (g<((2 ^ A:Nat):Int))= true then(qM T W (aDl rs A T g.toNat tx),true) else(0#64,false);rw [hRl]
  by_cases hlt:g<((2 ^ A:Nat):Int)
  ·rw [if_pos hlt,if_pos (decide_eq_true hlt)];have hrel:=iP hm hWW hRl (g:=g.toNat) (by rw [hRl]; omega) true hk;have:=jL (by omega) hrel (s:=x) (x:=tx) fun v hv=>by rw [hx,xC hW,decide_eq_true (by omega),Bool.true_and]
   rw [this,hWW];rfl
  ·rw [if_neg hlt,if_neg (by simpa using hlt)]
 ·have h0:=hg0 (.inr (.inr rfl));have hx:=hx rfl;have hy:=hy rfl;show (if g<((2 ^ m.R.length:Nat):Int) then(oK (zQ m g.toNat false) (rI W) x y W,true) else(0#64,false))= if decide (g<((2 ^ A:Nat):Int))= true then(qM T W (aZw rs A T g.toNat tx ty),true) else(0#64,false);rw [hRl]
  by_cases hlt:g<((2 ^ A:Nat):Int)
  ·rw [if_pos hlt,if_pos (decide_eq_true hlt),hx,hy,pQ hm hWW hRl (by rw [hRl]; omega) hk];unfold aZw;rw [hWW]
  ·rw [if_neg hlt,if_neg (by simpa using hlt)]
 all_goals first
  | rfl
  | (rw [aLi (by first | exact .inl h | exact .inr h),if_neg (by decide)]; exact aHy (by first | exact .inl h | exact .inr h))
end
end Te
open Rs Fm Ru Te
namespace Te
def jZ {α:Type} (L:Nat) (g h:Nat->α) (k:Nat):List α:=(List.range L).map fun i=>if i<k then g i else h i
theorem aUc {α:Type} (L:Nat) (g h:Nat->α) (k:Nat):(jZ L g h k).length=L:=by simp [jZ]
theorem kG {α:Type} {L:Nat} (g h:Nat->α) (k:Nat) {i:Nat} (hi:i<L) (d:α):(jZ L g h k).getD i d=if i<k then g i else h i:=by
 simp [jZ,List.getD,hi]
theorem aUb {α:Type} (L:Nat) (g h:Nat->α) (k:Nat):(jZ L g h k).set k (g k)= jZ L g h (k+1):=by
 refine List.ext_getElem (by simp [jZ]) fun i h1 h2=>?_;rw [List.getElem_set];simp only [jZ,List.getElem_map,List.getElem_range]
 by_cases e:k=i
 ·subst e; rw [if_pos rfl,if_pos (by omega)]
 ·rw [if_neg e]
  by_cases hk:i<k
  ·rw [if_pos hk,if_pos (by omega)]
  ·rw [if_neg hk,if_neg (by omega)]
theorem aXc {α:Type} {L:Nat} {g h:Nat->α} {k:Nat} (e:g k=h k):jZ L g h k=jZ L g h (k+1):=by
 unfold jZ;refine List.map_congr_left fun i _=>?_
 by_cases hk:i<k
 ·rw [if_pos hk,if_pos (by omega)]
 ·rw [if_neg hk]
  by_cases e2:i=k
  ·subst e2; rw [if_pos (by omega),e]
  ·rw [if_neg (by omega)]
theorem aXb {α:Type} (L:Nat) (g:Nat->α) (c:α):jZ L g (fun _=>c) 0=List.replicate L c:=by
 refine List.ext_getElem (by simp [jZ]) fun i h1 h2=>by simp [jZ]
theorem aUd {α:Type} (L:Nat) (g h:Nat->α):jZ L g h L=(List.range L).map g:=by
 refine List.map_congr_left fun f hf=>?_;rw [if_pos (List.mem_range.1 hf)]
def aMd (op:Int):Bool:=(decide (5<=op)&& decide (op<=8)) || decide (op=13)
def okF (f:List Nd) (fv:Nat->Bool) (k:Nat):Bool:=(if 4<=(f.getD k nd0).op then fv (f.getD k nd0).x.toNat else true)&& (if aMd (f.getD k nd0).op=true then fv (f.getD k nd0).y.toNat else true)
end Te
theorem aC6 {m:pM} {f:List Nd} (hc:xH f=0) (hreq:yX Tryz.prog 176 [m.d,.sl 6 (ndR f)] (.int .i64 0)) {sv:Nat->BitVec 64} {fv:Nat->Bool}
  (hcall:∀ k,k<f.length->okF f fv k=true->∀ x y,((xZ (f.getD k nd0).op).1.x=true->x=sv (f.getD k nd0).x.toNat)->((xZ (f.getD k nd0).op).1.y=true->y=sv (f.getD k nd0).y.toNat) ->
   yX Tryz.prog 177 [m.d,.agg (f.getD k nd0).row,.int .u64 (ui x),.int .u64 (ui y)] (.tup [.int .u64 (ui (sv k)),.bool (fv k)]))
  (hno:∀ k,k<f.length->okF f fv k=false->sv k=0#64/\fv k=false) :
  yX Tryz.prog 113 [m.d,.sl 6 (ndR f)] (.tup [.sl 1 (us ((List.range f.length).map sv)),.int .i64 0]):=by
 obtain⟨c1,c2,c3⟩:=zI hc;have hn:0<f.length:=List.length_pos_iff.2 c1;unfold pM.d at hreq hcall ⊢;refine xX.go_fn mixed Tryz.func113 bZg (by simp) fun hf=>?_;simp only [ZA,ZB,ZC,ZD,ZE,↓reduceIte,ZF,ZG,ZH,ZI,ZJ,reduceCtorEq,ZK,↓zU,↓zD,zV,zT,zW]
 (repeat refine sd ?_)
 refine .go (cr hreq) ?_;simp only [ZA,ZB,ZC,ZD,ZE,↓reduceIte,ZF,ZG,ZH,ZI,ZJ,reduceCtorEq,ZK,↓zU,↓zD,zV,zT,zW,xO]
 (repeat refine sd ?_)
 refine xV (fun k:Nat=>[(26,.int .i64 k),(25,.int .i64 f.length),(24,.sl 6 (ndR f)),(8,.osl 2 1 f.length),(7,.osl 1 1 f.length),(2,.ref 0 3 0 0)])
  (fun k=>⟨3,[(2,⟨1,rb (jZ f.length fv (fun _=>false) k)⟩),(1,⟨1,us (jZ f.length sv (fun _=>0#64) k)⟩),(0,⟨3,[[.int .i64 m.W,.sl 1 (us m.V),.sl 1 (rr m.R)]]⟩)]⟩)
  (fun k=>k<=f.length) (fun k=>f.length-k) 0 (Nat.zero_le _) ?_ ?_
 ·rw [aXb,aXb,<- lH,<- aYn]
  (refine xM.same ?_; simp [xR,Fr.get])
 intro k hk;refine xQ mixed ?_;by_cases hkl:k<f.length
 case neg=>
  have hd:¬ ((k:Int)<(f.length:Int)):=by omega
  have hke:k=f.length:=by omega
  subst hke;rw [aUd,aUd];have hlen:((List.range f.length).map sv).length=f.length:=by simp
  generalize (List.range f.length).map sv=l at hlen ⊢;simp only [ZA,ZB,ZC,ZD,ZE,↓reduceIte,ZF,ZG,ZH,ZI,ZJ,reduceCtorEq,ZK,↓zU,↓zD,zV,zT,zW,hd];refine .drop (by simp) ?_;simp only [vw,vwL];exact⟨rfl,⟨trivial,by decide,by simp,⟨1,us l⟩,rfl,rfl,by simp only [xT]; omega,by rw [<- hlen,<- xT,List.take_length],sY l⟩,trivial,trivial⟩
 have hd:((k:Int)<(f.length:Int)):=by omega
 have hcall:=hcall k hkl;have hno:=hno k hkl;have hnd:=c3 k hkl;have hg:=vH f hkl;have hux:=aIh (f.getD k nd0).op;obtain⟨hox,hoy⟩:=sE hnd;obtain⟨⟨x,hx,hxk⟩,⟨y,hy,hyk⟩⟩:=aQz hnd;unfold okF at hcall hno;generalize f.getD k nd0=p at hcall hno hnd hg hux hox hoy hx hy;obtain⟨op,i,e,g,px,py⟩:=p;simp only at hx hy;subst hx hy;have hrow:(Nd.row ⟨op,i,e,g,x,y⟩)= [.int .i64 op,.int .i64 i,.int .i64 e,.int .i64 g,.int .i64 x,.int .i64 y]:=rfl;rw [hrow] at hg hcall;have hxl:x<f.length:=by omega
 have hyl:y<f.length:=by omega
 have hxl':((x:Int)<(f.length:Int)):=by omega
 have hyl':((y:Int)<(f.length:Int)):=by omega
 have hSx:=kG sv (fun _=>0#64) k hxl 0#64;have hSy:=kG sv (fun _=>0#64) k hyl 0#64;have hBx:=kG fv (fun _=>false) k hxl false;have hBy:=kG fv (fun _=>false) k hyl false;have hSl:=aUc f.length sv (fun _=>0#64) k;have hBl:=aUc f.length fv (fun _=>false) k;have hSs:=aUb f.length sv (fun _=>0#64) k;have hBs:=aUb f.length fv (fun _=>false) k;have hSk:sv k=0#64->jZ f.length sv (fun _=>0#64) k=jZ f.length sv (fun _=>0#64) (k+1):=fun h=>aXc h;have hBk:fv k=false->jZ f.length fv (fun _=>false) k=jZ f.length fv (fun _=>false) (k+1):=fun h=>aXc h;generalize jZ f.length sv (fun _=>0#64) k=S at hSx hSy hSl hSs hSk ⊢;generalize jZ f.length fv (fun _=>false) k=B at hBx hBy hBl hBs hBk ⊢;simp only [Int.toNat_natCast] at hcall hno hux hox hoy;have gSx:=zH S (show x<S.length by omega);have gSy:=zH S (show y<S.length by omega);have gBx:=aQb B (show x<B.length by omega);have gBy:=aQb B (show y<B.length by omega)
 have hop:1<=op/\op<=21:=by
  have h2:=(zO.1 hnd).1;simp only at h2;refine Decidable.byContradiction fun hh=>?_;rw [zP (by omega)] at h2;cases h2
 have hxu:(xZ op).1.x=true->S.getD x 0#64=sv x:=fun h=>by rw [hSx,if_pos (by have:=hox h; omega)]
 have hyu:(xZ op).1.y=true->S.getD y 0#64=sv y:=fun h=>by rw [hSy,if_pos (by have:=hoy h; omega)]
 have hfx:4<=op->B.getD x false=fv x:=fun h=>by
  have hu:(xZ op).1.x=true:=by rw [hux,decide_eq_true h,decide_eq_true hop.2]; rfl
  rw [hBx,if_pos (by have:=hox hu; omega)]
 have hby:aMd op=true->(xZ op).1.y=true:=fun h=>by
  unfold aMd at h;simp only [Bool.or_eq_true,Bool.and_eq_true,decide_eq_true_eq] at h;have:op=5\/op=6\/op=7\/op=8\/op=13:=by omega
  rcases this with rfl | rfl | rfl | rfl | rfl <;> rfl
 have hfy:aMd op=true->B.getD y false=fv y:=fun h=>by rw [hBy,if_pos (by have:=hoy (hby h); omega)]
 have hc':=fun h=>hcall h (S.getD x 0#64) (S.getD y 0#64) hxu hyu;clear hcall hxu hyu hSx hSy hBx hBy;generalize S.getD x 0#64=sx at gSx hc';generalize S.getD y 0#64=sy at gSy hc';generalize B.getD x false=bx at gBx hfx;generalize B.getD y false=by' at gBy hfy
 have hwu:IntKind.i64.wrap ((k:Int)+ 1)= ((k+1:Nat):Int):=wrap_i64 (by omega);have gSk:=zH S (show k<S.length by omega);have gBk:=aQb B (show k<B.length by omega);by_cases h4:4<=op
 case neg=>
  have h5:¬ (5:Int)<=op:=by omega
  have h13:(op==13)= false:=by rw [beq_eq_false_iff_ne]; omega
  have hb:aMd op=false:=by unfold aMd; rw [decide_eq_false h5,decide_eq_false (show ¬ op=13 by omega)]; rfl
  simp only [ZA,ZB,ZC,ZD,ZE,↓reduceIte,ZF,ZG,ZH,ZI,ZJ,reduceCtorEq,ZK,↓zU,↓zD,zV,zT,zW,hd,hwu,xO,hg,xT,uN,hSl,hBl,hxl',hyl',gSx,gSy,gBx,gBy,gSk,gBk,aYu,h4,h5,h13]
  (repeat refine sd ?_)
  refine .go (xX.of_runs (hc' (by rw [if_neg h4,hb]; rfl)) (by simp [D.isPureL,D.isPure])) ?_;simp only [ZA,ZB,ZC,ZD,ZE,↓reduceIte,ZF,ZG,ZH,ZI,ZJ,reduceCtorEq,ZK,↓zU,↓zD,zV,zT,zW,hd,hwu,xO,hg,xT,uN,hSl,hBl,hxl',hyl',gSx,gSy,gBx,gBy,gSk,gBk,aYu,h4,h5,h13,oF,bG,hSs,hBs]
  (repeat refine sd ?_)
  refine⟨k+1,by omega,?_,by omega⟩
  (refine xM.ren [] [2,1,0] (by simp) (by simp) (by decide) ?_; simp only [yO,vwL,vw,vwF,sw,St.get,St.look,Fr.get,↓reduceIte,reduceIte,Nat.reduceEqDiff,Nat.reduceAdd,Nat.reduceBEq,Nat.reduceLT,Nat.reduceLeDiff,exists_eq_left',ne_eq,reduceCtorEq,zR,yK,vQ])
 have hfx:=hfx h4;subst hfx;rw [if_pos h4] at hc' hno
 cases hb:aMd op with
 | false=>
  rw [hb,if_neg (by decide),Bool.and_true] at hc' hno
  have h13:(op==13)= false:=by
   rw [beq_eq_false_iff_ne]; rintro rfl; cases hb
  have h58:¬ (5<=op/\op<=8):=by
   rintro ⟨z1,z2⟩; unfold aMd at hb; rw [decide_eq_true z1,decide_eq_true z2] at hb; cases hb
  by_cases h5:5<=op
  ·have h8:¬ op<=8:=by omega
   cases hf:fv x with
   | true=>
    simp only [ZA,ZB,ZC,ZD,ZE,↓reduceIte,ZF,ZG,ZH,ZI,ZJ,reduceCtorEq,ZK,↓zU,↓zD,zV,zT,zW,hd,hwu,xO,hg,xT,uN,hSl,hBl,hxl',hyl',gSx,gSy,gBx,gBy,gSk,gBk,aYu,h4,h5,h8,h13,hf]
    (repeat refine sd ?_)
    refine .go (cr (hc' hf)) ?_;simp only [ZA,ZB,ZC,ZD,ZE,↓reduceIte,ZF,ZG,ZH,ZI,ZJ,reduceCtorEq,ZK,↓zU,↓zD,zV,zT,zW,hd,hwu,xO,hg,xT,uN,hSl,hBl,hxl',hyl',gSx,gSy,gBx,gBy,gSk,gBk,aYu,h4,h5,h8,h13,hf,oF,bG,hSs,hBs]
    (repeat refine sd ?_)
    refine⟨k+1,by omega,?_,by omega⟩
    (refine xM.ren [] [2,1,0] (by simp) (by simp) (by decide) ?_; simp only [yO,vwL,vw,vwF,sw,St.get,St.look,Fr.get,↓reduceIte,reduceIte,Nat.reduceEqDiff,Nat.reduceAdd,Nat.reduceBEq,Nat.reduceLT,Nat.reduceLeDiff,exists_eq_left',ne_eq,reduceCtorEq,zR,yK,vQ])
   | false=>
    simp only [ZA,ZB,ZC,ZD,ZE,↓reduceIte,ZF,ZG,ZH,ZI,ZJ,reduceCtorEq,ZK,↓zU,↓zD,zV,zT,zW,hd,hwu,xO,hg,xT,uN,hSl,hBl,hxl',hyl',gSx,gSy,gBx,gBy,gSk,gBk,aYu,h4,h5,h8,h13,hf]
    (repeat refine sd ?_)
    obtain⟨q1,q2⟩:=hno hf;rw [hSk q1,hBk q2];refine⟨k+1,by omega,?_,by omega⟩
    (refine xM.ren [] [2,1,0] (by simp) (by simp) (by decide) ?_; simp only [yO,vwL,vw,vwF,sw,St.get,St.look,Fr.get,↓reduceIte,reduceIte,Nat.reduceEqDiff,Nat.reduceAdd,Nat.reduceBEq,Nat.reduceLT,Nat.reduceLeDiff,exists_eq_left',ne_eq,reduceCtorEq,zR,yK,vQ])
  ·cases hf:fv x with
   | true=>
    simp only [ZA,ZB,ZC,ZD,ZE,↓reduceIte,ZF,ZG,ZH,ZI,ZJ,reduceCtorEq,ZK,↓zU,↓zD,zV,zT,zW,hd,hwu,xO,hg,xT,uN,hSl,hBl,hxl',hyl',gSx,gSy,gBx,gBy,gSk,gBk,aYu,h4,h5,h13,hf]
    (repeat refine sd ?_)
    refine .go (cr (hc' hf)) ?_;simp only [ZA,ZB,ZC,ZD,ZE,↓reduceIte,ZF,ZG,ZH,ZI,ZJ,reduceCtorEq,ZK,↓zU,↓zD,zV,zT,zW,hd,hwu,xO,hg,xT,uN,hSl,hBl,hxl',hyl',gSx,gSy,gBx,gBy,gSk,gBk,aYu,h4,h5,h13,hf,oF,bG,hSs,hBs]
    (repeat refine sd ?_)
    refine⟨k+1,by omega,?_,by omega⟩
    (refine xM.ren [] [2,1,0] (by simp) (by simp) (by decide) ?_; simp only [yO,vwL,vw,vwF,sw,St.get,St.look,Fr.get,↓reduceIte,reduceIte,Nat.reduceEqDiff,Nat.reduceAdd,Nat.reduceBEq,Nat.reduceLT,Nat.reduceLeDiff,exists_eq_left',ne_eq,reduceCtorEq,zR,yK,vQ])
   | false=>
    simp only [ZA,ZB,ZC,ZD,ZE,↓reduceIte,ZF,ZG,ZH,ZI,ZJ,reduceCtorEq,ZK,↓zU,↓zD,zV,zT,zW,hd,hwu,xO,hg,xT,uN,hSl,hBl,hxl',hyl',gSx,gSy,gBx,gBy,gSk,gBk,aYu,h4,h5,h13,hf]
    (repeat refine sd ?_)
    obtain⟨q1,q2⟩:=hno hf;rw [hSk q1,hBk q2];refine⟨k+1,by omega,?_,by omega⟩
    (refine xM.ren [] [2,1,0] (by simp) (by simp) (by decide) ?_; simp only [yO,vwL,vw,vwF,sw,St.get,St.look,Fr.get,↓reduceIte,reduceIte,Nat.reduceEqDiff,Nat.reduceAdd,Nat.reduceBEq,Nat.reduceLT,Nat.reduceLeDiff,exists_eq_left',ne_eq,reduceCtorEq,zR,yK,vQ])
 | true=>
  have hfy:=hfy hb;subst hfy;rw [hb,if_pos rfl] at hc' hno
  by_cases h13:op=13
  ·subst h13
   cases hf:fv x with
   | false=>
    simp only [ZA,ZB,ZC,ZD,ZE,↓reduceIte,ZF,ZG,ZH,ZI,ZJ,reduceCtorEq,ZK,↓zU,↓zD,zV,zT,zW,hd,hwu,xO,hg,xT,uN,hSl,hBl,hxl',hyl',gSx,gSy,gBx,gBy,gSk,gBk,aYu,hf]
    (repeat refine sd ?_)
    obtain⟨q1,q2⟩:=hno (by rw [hf]; rfl);rw [hSk q1,hBk q2];refine⟨k+1,by omega,?_,by omega⟩
    (refine xM.ren [] [2,1,0] (by simp) (by simp) (by decide) ?_; simp only [yO,vwL,vw,vwF,sw,St.get,St.look,Fr.get,↓reduceIte,reduceIte,Nat.reduceEqDiff,Nat.reduceAdd,Nat.reduceBEq,Nat.reduceLT,Nat.reduceLeDiff,exists_eq_left',ne_eq,reduceCtorEq,zR,yK,vQ])
   | true=>
    cases hf2:fv y with
    | true=>
     simp only [ZA,ZB,ZC,ZD,ZE,↓reduceIte,ZF,ZG,ZH,ZI,ZJ,reduceCtorEq,ZK,↓zU,↓zD,zV,zT,zW,hd,hwu,xO,hg,xT,uN,hSl,hBl,hxl',hyl',gSx,gSy,gBx,gBy,gSk,gBk,aYu,hf,hf2]
     (repeat refine sd ?_)
     refine .go (xX.of_runs (hc' (by rw [hf,hf2]; rfl)) (by simp [D.isPureL,D.isPure])) ?_;simp only [ZA,ZB,ZC,ZD,ZE,↓reduceIte,ZF,ZG,ZH,ZI,ZJ,reduceCtorEq,ZK,↓zU,↓zD,zV,zT,zW,hd,hwu,xO,hg,xT,uN,hSl,hBl,hxl',hyl',gSx,gSy,gBx,gBy,gSk,gBk,aYu,hf,hf2,oF,bG,hSs,hBs]
     (repeat refine sd ?_)
     refine⟨k+1,by omega,?_,by omega⟩
     (refine xM.ren [] [2,1,0] (by simp) (by simp) (by decide) ?_; simp only [yO,vwL,vw,vwF,sw,St.get,St.look,Fr.get,↓reduceIte,reduceIte,Nat.reduceEqDiff,Nat.reduceAdd,Nat.reduceBEq,Nat.reduceLT,Nat.reduceLeDiff,exists_eq_left',ne_eq,reduceCtorEq,zR,yK,vQ])
    | false=>
     simp only [ZA,ZB,ZC,ZD,ZE,↓reduceIte,ZF,ZG,ZH,ZI,ZJ,reduceCtorEq,ZK,↓zU,↓zD,zV,zT,zW,hd,hwu,xO,hg,xT,uN,hSl,hBl,hxl',hyl',gSx,gSy,gBx,gBy,gSk,gBk,aYu,hf,hf2]
     (repeat refine sd ?_)
     obtain⟨q1,q2⟩:=hno (by rw [hf,hf2]; rfl);rw [hSk q1,hBk q2];refine⟨k+1,by omega,?_,by omega⟩
     (refine xM.ren [] [2,1,0] (by simp) (by simp) (by decide) ?_; simp only [yO,vwL,vw,vwF,sw,St.get,St.look,Fr.get,↓reduceIte,reduceIte,Nat.reduceEqDiff,Nat.reduceAdd,Nat.reduceBEq,Nat.reduceLT,Nat.reduceLeDiff,exists_eq_left',ne_eq,reduceCtorEq,zR,yK,vQ])
  ·have h58:5<=op/\op<=8:=by
    unfold aMd at hb; rw [decide_eq_false h13,Bool.or_false,Bool.and_eq_true] at hb; exact⟨of_decide_eq_true hb.1,of_decide_eq_true hb.2⟩
   have h5:=h58.1;have h8:=h58.2
   cases hf:fv x with
   | false=>
    simp only [ZA,ZB,ZC,ZD,ZE,↓reduceIte,ZF,ZG,ZH,ZI,ZJ,reduceCtorEq,ZK,↓zU,↓zD,zV,zT,zW,hd,hwu,xO,hg,xT,uN,hSl,hBl,hxl',hyl',gSx,gSy,gBx,gBy,gSk,gBk,aYu,h4,h5,h8,hf]
    (repeat refine sd ?_)
    obtain⟨q1,q2⟩:=hno (by rw [hf]; rfl);rw [hSk q1,hBk q2];refine⟨k+1,by omega,?_,by omega⟩
    (refine xM.ren [] [2,1,0] (by simp) (by simp) (by decide) ?_; simp only [yO,vwL,vw,vwF,sw,St.get,St.look,Fr.get,↓reduceIte,reduceIte,Nat.reduceEqDiff,Nat.reduceAdd,Nat.reduceBEq,Nat.reduceLT,Nat.reduceLeDiff,exists_eq_left',ne_eq,reduceCtorEq,zR,yK,vQ])
   | true=>
    cases hf2:fv y with
    | true=>
     simp only [ZA,ZB,ZC,ZD,ZE,↓reduceIte,ZF,ZG,ZH,ZI,ZJ,reduceCtorEq,ZK,↓zU,↓zD,zV,zT,zW,hd,hwu,xO,hg,xT,uN,hSl,hBl,hxl',hyl',gSx,gSy,gBx,gBy,gSk,gBk,aYu,h4,h5,h8,hf,hf2]
     (repeat refine sd ?_)
     refine .go (xX.of_runs (hc' (by rw [hf,hf2]; rfl)) (by simp [D.isPureL,D.isPure])) ?_;simp only [ZA,ZB,ZC,ZD,ZE,↓reduceIte,ZF,ZG,ZH,ZI,ZJ,reduceCtorEq,ZK,↓zU,↓zD,zV,zT,zW,hd,hwu,xO,hg,xT,uN,hSl,hBl,hxl',hyl',gSx,gSy,gBx,gBy,gSk,gBk,aYu,h4,h5,h8,hf,hf2,oF,bG,hSs,hBs]
     (repeat refine sd ?_)
     refine⟨k+1,by omega,?_,by omega⟩
     (refine xM.ren [] [2,1,0] (by simp) (by simp) (by decide) ?_; simp only [yO,vwL,vw,vwF,sw,St.get,St.look,Fr.get,↓reduceIte,reduceIte,Nat.reduceEqDiff,Nat.reduceAdd,Nat.reduceBEq,Nat.reduceLT,Nat.reduceLeDiff,exists_eq_left',ne_eq,reduceCtorEq,zR,yK,vQ])
    | false=>
     simp only [ZA,ZB,ZC,ZD,ZE,↓reduceIte,ZF,ZG,ZH,ZI,ZJ,reduceCtorEq,ZK,↓zU,↓zD,zV,zT,zW,hd,hwu,xO,hg,xT,uN,hSl,hBl,hxl',hyl',gSx,gSy,gBx,gBy,gSk,gBk,aYu,h4,h5,h8,hf,hf2]
     (repeat refine sd ?_)
     obtain⟨q1,q2⟩:=hno (by rw [hf,hf2]; rfl);rw [hSk q1,hBk q2];refine⟨k+1,by omega,?_,by omega⟩
     (refine xM.ren [] [2,1,0] (by simp) (by simp) (by decide) ?_; simp only [yO,vwL,vw,vwF,sw,St.get,St.look,Fr.get,↓reduceIte,reduceIte,Nat.reduceEqDiff,Nat.reduceAdd,Nat.reduceBEq,Nat.reduceLT,Nat.reduceLeDiff,exists_eq_left',ne_eq,reduceCtorEq,zR,yK,vQ])
open Rs Fm Ru Te
theorem aOh {m:pM} {W:Nat} (ok:oG m W) {f:List Nd} (hc:xH f=0) (hfr:(rM .andNot .i64 (zS f:Int) 15 != 0)= false) (hft:sT f m.R.length m.V.length=true):yX Tryz.prog 176 [m.d,.sl 6 (ndR f)] (.int .i64 0):=by
 have h1:=fA ok;have h2:=nT f;have h3:=aPo f;have h4:=aI3 f m.R.length m.V.length;rw [hc] at h2;rw [hft] at h4;unfold pM.d at h1 ⊢;refine xX.go_fn mixed Tryz.func176 bYo (by simp) fun hf=>?_;simp only [ZA,ZB,ZC,ZD,ZE,↓reduceIte,ZF,ZG,ZH,ZI,ZJ,reduceCtorEq,ZK,↓zU,↓zD,zV,zT,zW]
 (repeat refine sd ?_)
 refine .go (cr h1) ?_;simp only [ZA,ZB,ZC,ZD,ZE,↓reduceIte,ZF,ZG,ZH,ZI,ZJ,reduceCtorEq,ZK,↓zU,↓zD,zV,zT,zW];refine .go (cr h2) ?_;simp only [ZA,ZB,ZC,ZD,ZE,↓reduceIte,ZF,ZG,ZH,ZI,ZJ,reduceCtorEq,ZK,↓zU,↓zD,zV,zT,zW];refine .go (cr h3) ?_;simp only [ZA,ZB,ZC,ZD,ZE,↓reduceIte,ZF,ZG,ZH,ZI,ZJ,reduceCtorEq,ZK,↓zU,↓zD,zV,zT,zW,hfr,yE,xT]
 (repeat refine sd ?_)
 refine .go (cr h4) ?_;simp only [ZA,ZB,ZC,ZD,ZE,↓reduceIte,ZF,ZG,ZH,ZI,ZJ,reduceCtorEq,ZK,↓zU,↓zD,zV,zT,zW];exact .drop (by simp) (by simp [vw])
namespace Te
def tL (A F:Nat):Tr->Bool
 | .nil=>true
 | .nd op i e g x y=>rP A F ⟨op,i,e,g,0,0⟩&& (tL A F x&&tL A F y)
def aTd (rs:List wP) (A F T:Nat) (t:Tr):BitVec 64:=if tL A F t=true then qM T (rs.length*T) (evT rs A T t) else 0#64
def aBf (rs:List wP) (A F T:Nat) (t:Tr):Tab:=if tL A F t=true then evT rs A T t else fun _=>false
theorem aLr (rs:List wP) (A F T:Nat) (hW:rs.length*T<=64) (t:Tr):aTd rs A F T t=qM T (rs.length*T) (aBf rs A F T t):=by
 unfold aTd aBf
 split
 ·rfl
 ·refine mB fun i _=>?_;rw [xC hW,Bool.and_false,BitVec.getLsbD_zero]
theorem aVk {A F:Nat} {op i e g:Int} (h:rP A F ⟨op,i,e,g,0,0⟩= true):1<=op/\op<=13:=by
 unfold rP at h;simp only at h
 refine⟨Decidable.byContradiction fun hh=>?_,Decidable.byContradiction fun hh=>?_⟩
 ·rw [if_pos (by omega)] at h; cases h
 ·rw [if_neg (by omega),if_neg (by omega),if_neg (by omega),if_neg (by omega),if_neg (by omega)] at h; cases h
theorem aU4 {op:Int} (h1:1<=op) (h2:op<=13):(xZ op).1.y=aMd op/\(xZ op).1.x=decide (4<=op):=by
 have:op=1\/op=2\/op=3\/op=4\/op=5\/op=6\/op=7\/op=8\/op=9\/op=10\/op=11\/op=12\/op=13:=by omega
 rcases this with rfl | rfl | rfl | rfl | rfl | rfl | rfl | rfl | rfl | rfl | rfl | rfl | rfl <;> exact⟨rfl,rfl⟩
end Te
theorem aU1 {rs:List wP} {A F T:Nat} (ok:OkR rs A F T) (hW:rs.length*T<=64) {f:List Nd} (hc:xH f=0) (hfr:(rM .andNot .i64 (zS f:Int) 15 != 0)= false) (hft:sT f A F=true) :
  yX Tryz.prog 54 [(lN rs (ptl rs T) A F).d,.sl 6 (ndR f)] (.tup [.int .u64 (ui (aTd rs A F T (kX f))),.int .i64 0]):=by
 have hl:(ptl rs T).length=rs.length*T:=sH T _;have h1:1<=rs.length*T:=Nat.mul_pos ok.hR.1 ok.hT.1;have hm:=aZo (F:=F) ok (l:=ptl rs T) (by omega) (by omega);rw [hl] at hm;have hRl:(lN rs (ptl rs T) A F).R.length=A:=by show (oN rs (ptl rs T) A).length=A; simp [oN]
 have hVl:(lN rs (ptl rs T) A F).V.length=F:=by show (eC rs (ptl rs T) F).length=F; simp [eC]
 obtain⟨c1,c2,c3⟩:=zI hc;have hn:0<f.length:=List.length_pos_iff.2 c1;have hreq:=aOh hm hc hfr (by rw [hRl,hVl]; exact hft);have hS:=aC6 (sv:=fun k=>aTd rs A F T (tree f k)) (fv:=fun k=>tL A F (tree f k)) hc hreq (fun k hk hok x y hx hy=>?_) fun k hk hno=>?_
 rotate_left
 ·have hnd:=c3 k hk;have ht:=uP c3 hk;unfold okF at hok;dsimp only at hok;generalize f.getD k nd0=n at hnd ht hok hx hy ⊢;rw [aLr rs A F T hW] at hx hy
  have hcom:n.op=13->n.g<(2 ^ (lN rs (ptl rs T) A F).R.length:Nat)->oK (zQ (lN rs (ptl rs T) A F) n.g.toNat false) (rI (rs.length*T)) x y (rs.length*T+1)= oK (zQ (lN rs (ptl rs T) A F) n.g.toNat false) (rI (rs.length*T)) x y (rs.length*T):=fun h13 hg=>by
   have hu:(xZ n.op).1.x=true/\(xZ n.op).1.y=true/\(xZ n.op).1.gr=true:=by rw [h13]; exact⟨rfl,rfl,rfl⟩
   have h1:=(zO.1 hnd).2.2.2.2;simp only [Bool.or_eq_false_iff,hu.2.2,xS,Bool.true_and,decide_eq_false_iff_not] at h1;rw [hRl] at hg;rw [hx hu.1,hy hu.2.1];exact aFv ok hW (by omega) _ _
  have hv:=aHx hm hnd (x:=x) (y:=y) hcom;have hs:=aM9 ok hW (F:=F) hnd hx hy
  have key:(rQ (lN rs (ptl rs T) A F) (rs.length*T) n x y)= (aTd rs A F T (tree f k),tL A F (tree f k)):=by
   rw [hs,ht];unfold aTd;show _=(if (rP A F ⟨n.op,n.i,n.e,n.g,0,0⟩&& (tL A F (if (xZ n.op).1.x=true then tree f n.x.toNat else .nil)&& tL A F (if (xZ n.op).1.y=true then tree f n.y.toNat else .nil)))= true then _ else _,rP A F ⟨n.op,n.i,n.e,n.g,0,0⟩&& (tL A F (if (xZ n.op).1.x=true then tree f n.x.toNat else .nil)&& tL A F (if (xZ n.op).1.y=true then tree f n.y.toNat else .nil)));have hst:rP A F ⟨n.op,n.i,n.e,n.g,0,0⟩= rP A F n:=rfl;rw [hst]
   cases hst2:rP A F n with
   | false=>rfl
   | true=>
    obtain⟨o1,o2⟩:=aVk (hst.trans hst2);obtain⟨uy,ux⟩:=aU4 o1 o2;rw [<- uy] at hok
    have fx:(xZ n.op).1.x=true->tL A F (tree f n.x.toNat)= true:=fun h=>by
     rw [ux,decide_eq_true_iff] at h;rw [if_pos h,Bool.and_eq_true] at hok;exact hok.1
    have fy:(xZ n.op).1.y=true->tL A F (tree f n.y.toNat)= true:=fun h=>by
     rw [if_pos h,Bool.and_eq_true] at hok;exact hok.2
    have fx':tL A F (if (xZ n.op).1.x=true then tree f n.x.toNat else .nil)= true:=by
     split
     ·rename_i h; exact fx h
     ·rfl
    have fy':tL A F (if (xZ n.op).1.y=true then tree f n.y.toNat else .nil)= true:=by
     split
     ·rename_i h; exact fy h
     ·rfl
    rw [fx',fy',if_pos rfl,if_pos (show (true&&(true&&true))= true from rfl)];refine Prod.ext ?_ rfl;refine congrArg (qM T (rs.length*T)) ?_;show _=aTo rs A T ⟨n.op,n.i,n.e,n.g,0,0⟩ _ _
    refine aOx rfl rfl rfl (fun h=>?_) fun h=>?_
    ·rw [if_pos h,aBf,if_pos (fx h)]
    ·rw [if_pos h,aBf,if_pos (fy h)]
  rw [key] at hv;exact hv
 ·have ht:=uP c3 hk;unfold okF at hno;dsimp only at hno;generalize f.getD k nd0=n at ht hno
  have hf:tL A F (tree f k)= false:=by
   rw [ht];show (rP A F ⟨n.op,n.i,n.e,n.g,0,0⟩&& (tL A F (if (xZ n.op).1.x=true then tree f n.x.toNat else .nil)&& tL A F (if (xZ n.op).1.y=true then tree f n.y.toNat else .nil)))= false
   cases hst:rP A F ⟨n.op,n.i,n.e,n.g,0,0⟩ with
   | false=>rfl
   | true=>
    obtain⟨o1,o2⟩:=aVk hst;obtain⟨uy,ux⟩:=aU4 o1 o2;rw [<- uy] at hno;rw [Bool.true_and]
    by_cases h4:4<=n.op
    ·rw [if_pos h4] at hno;rw [if_pos (by rw [ux,decide_eq_true h4])]
     cases hy:(xZ n.op).1.y with
     | true=>rw [hy,if_pos rfl] at hno; rw [if_pos rfl]; exact hno
     | false=>rw [hy,if_neg (by decide),Bool.and_true] at hno; rw [hno]; rfl
    ·rw [if_neg h4] at hno
     cases hy:(xZ n.op).1.y with
     | true=>rw [hy,if_pos rfl,Bool.true_and] at hno; rw [if_pos rfl,hno,Bool.and_false]
     | false=>rw [hy] at hno; cases hno
  exact⟨by unfold aTd; rw [hf,if_neg (by decide)],hf⟩
 have hlast:((List.range f.length).map fun k=>aTd rs A F T (tree f k)).getD (f.length-1) 0=aTd rs A F T (kX f):=by
  have:f.length-1<f.length:=by omega
  simp [List.getD,this,kX]
 have hlen:((List.range f.length).map fun k=>aTd rs A F T (tree f k)).length=f.length:=by simp
 generalize ((List.range f.length).map fun k=>aTd rs A F T (tree f k))= l at hS hlast hlen;have hg:=zH l (show f.length-1<l.length by omega);rw [hlast] at hg;have hw:IntKind.i64.wrap ((l.length:Int)-1)= ((f.length-1:Nat):Int):=by rw [hlen,wrap_i64 (by omega)]; omega
 have hlt:((f.length-1:Nat):Int)<(l.length:Int):=by omega
 unfold pM.d at hS ⊢;refine xX.go_fn mixed Tryz.func54 k54 (by simp) fun hf=>?_;simp only [ZA,ZB,ZC,ZD,ZE,↓reduceIte,ZF,ZG,ZH,ZI,ZJ,reduceCtorEq,ZK,↓zU,↓zD,zV,zT,zW]
 (repeat refine sd ?_)
 refine .go (cr hS) ?_;simp only [ZA,ZB,ZC,ZD,ZE,↓reduceIte,ZF,ZG,ZH,ZI,ZJ,reduceCtorEq,ZK,↓zU,↓zD,zV,zT,zW,xT,hw,hg,hlt]
 (repeat refine sd ?_)
 exact .drop (by simp) (by simp [vw,vwL])
open Rs Fm Ru Te
namespace Te
def aBj (rs:List wP) (t:Nat):List wP:=rs.map fun r=>⟨[r.loc.getD t []],[r.fac.getD t 0]⟩
section
variable {rs : List wP} {A F T t : Nat}
theorem aGv {i:Nat} (hi:i<rs.length):(aBj rs t).getD i mW=⟨[(rs.getD i mW).loc.getD t []],[(rs.getD i mW).fac.getD t 0]⟩:=by
 simp [aBj,List.getD,hi]
theorem aGt {a i:Nat} (hi:i<rs.length):uQ (aBj rs t) a (i,0)= uQ rs a (i,t):=by
 unfold uQ;simp only [aGv hi];rfl
theorem qY {R i:Nat} (hi:i<R):(vX R t).getD i (0,0)= (i,t):=by simp [vX,List.getD,hi]
theorem qX (a:Nat) (x:Int):∀ k,k<=rs.length->Ru.relK (aBj rs t) (vX rs.length 0) a x k=Ru.relK rs (vX rs.length t) a x k
 | 0,_=>rfl
 | k+1,h=>by
  unfold Ru.relK;rw [qX a x k (by omega),qY (by omega),qY (by omega),aGt (by omega)]
end
end Te
open Rs Fm Ru Te Kb
namespace Kb
def stR (sts:List (List (BitVec 64))) (i:Nat):List (BitVec 64):=sts.getD i []
def aRy (see:List (BitVec 64)) (sts:List (List (BitVec 64))) (t a w:Nat):Nat:=(List.range sts.length).findIdx fun v=>decide (vK see (stR sts v) a t=vK see (stR sts w) a t)
def wU (see:List (BitVec 64)) (sts:List (List (BitVec 64))) (t:Nat):List wP:=(List.range sts.length).map fun w=>⟨[(List.range see.length).map fun a=>((aRy see sts t a w:Nat):Int)],[(stR sts w).getD t 0]⟩
section
variable {see : List (BitVec 64)} {sts : List (List (BitVec 64))} {t : Nat}
theorem nN : (wU see sts t).length=sts.length:=by simp [wU]
theorem jK {i:Nat} (hi:i<sts.length):(wU see sts t).getD i mW=⟨[(List.range see.length).map fun a=>((aRy see sts t a i:Nat):Int)],[(stR sts i).getD t 0]⟩:=by
 simp [wU,List.getD,hi]
theorem mY {n:Nat} {q:Nat->Bool} (h:∃ i,i<n/\q i=true):(List.range n).findIdx q<n/\q ((List.range n).findIdx q)= true:=by
 obtain⟨i,hi,hq⟩:=h;have h1:(List.range n).findIdx q<(List.range n).length:=List.findIdx_lt_length.2 ⟨i,List.mem_range.2 hi,hq⟩;refine⟨by simpa using h1,?_⟩;have:=List.findIdx_getElem (p:=q) (w:=h1);simpa using this
theorem aXf {a w:Nat} (hw:w<sts.length):aRy see sts t a w<sts.length/\vK see (stR sts (aRy see sts t a w)) a t=vK see (stR sts w) a t:=by
 have:=mY (n:=sts.length) (q:=fun v=>decide (vK see (stR sts v) a t=vK see (stR sts w) a t)) ⟨w,hw,by simp⟩;refine⟨this.1,?_⟩;have h2:=this.2;simp only [decide_eq_true_eq] at h2;exact h2
theorem aK5 {a v w:Nat} (hv:v<sts.length) (hw:w<sts.length):aRy see sts t a v=aRy see sts t a w ↔ vK see (stR sts v) a t=vK see (stR sts w) a t:=by
 constructor
 ·intro h;rw [<- (aXf (see:=see) (t:=t) (a:=a) hv).2,<- (aXf (see:=see) (t:=t) (a:=a) hw).2,h]
 ·intro h;unfold aRy;rw [h]
theorem dB {a v w:Nat} (ha:a<see.length) (hv:v<sts.length) (hw:w<sts.length):uQ (wU see sts t) a (v,0)= uQ (wU see sts t) a (w,0) ↔ vK see (stR sts v) a t=vK see (stR sts w) a t:=by
 unfold uQ;simp only [jK hv,jK hw];rw [<- aK5 hv hw];simp [List.getD,ha];omega
theorem aLd {w:Nat} (hw:w<sts.length):aMk (wU see sts t) (w,0)= (stR sts w).getD t 0:=by
 unfold aMk;simp only [jK hw];rfl
theorem aLc : ptl (wU see sts t) 1=vX sts.length 0:=by
 unfold ptl ptN vX;rw [nN,Nat.mul_one];refine List.map_congr_left fun i _=>?_;rw [Nat.div_one,Nat.mod_one]
theorem aH2 {F:Nat} (hA:see.length<=4) (hF:F<=8) (hR:1<=sts.length/\sts.length<=64) (hv:∀ w,w<sts.length->(stR sts w).getD t 0 >>> F=0#64):OkR (wU see sts t) see.length F 1 where
 hA:=hA
 hF:=hF
 hT:=⟨by omega,by omega⟩
 hR:=by rw [nN]; exact hR
 hP:=by rw [nN]; omega
 loc:=fun r hr=>by
  simp only [wU,List.mem_map] at hr;obtain⟨i,_,rfl⟩:=hr;rfl
 fac:=fun r hr=>by
  simp only [wU,List.mem_map] at hr;obtain⟨i,_,rfl⟩:=hr;rfl
 row:=fun r hr l hl=>by
  simp only [wU,List.mem_map] at hr;obtain⟨i,_,rfl⟩:=hr;simp only [List.mem_singleton] at hl;subst hl;simp
 val:=fun r hr x hx=>by
  simp only [wU,List.mem_map,List.mem_range] at hr;obtain⟨i,hi,rfl⟩:=hr;simp only [List.mem_singleton] at hx;subst hx;exact hv i hi
end
def aMn (see:List (BitVec 64)) (sts:List (List (BitVec 64))) (t F:Nat):D:=aEs (wU see sts t) (vX sts.length 0) see.length F
end Kb
theorem aFj {see:List (BitVec 64)} {sts:List (List (BitVec 64))} {t a v w:Nat} (ha:a<see.length) (hv:v<sts.length) (hw:w<sts.length) :
  decide ((vK see (stR sts w) a t).map ui=(vK see (stR sts v) a t).map ui)= decide (uQ (wU see sts t) a (v,0)= uQ (wU see sts t) a (w,0)):=by
 have h1:=dB (see:=see) (sts:=sts) (t:=t) ha hv hw
 have h2:(vK see (stR sts w) a t).map ui=(vK see (stR sts v) a t).map ui ↔ vK see (stR sts v) a t=vK see (stR sts w) a t:=
  ⟨fun h=>((List.map_inj_right fun x y=>aQa.1).1 h).symm,fun h=>by rw [h]⟩
 rw [Bool.eq_iff_iff,decide_eq_true_eq,decide_eq_true_eq,h2,h1]
end Go.Pd
