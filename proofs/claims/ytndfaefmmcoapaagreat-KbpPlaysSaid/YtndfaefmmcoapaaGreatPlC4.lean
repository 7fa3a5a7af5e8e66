/- Part C4. -/
import Derived.Test.YtndfaefmmcoapaaGreatPlC1
import Derived.Test.YtndfaefmmcoapaaGreatPlP7
import Derived.Test.YtndfaefmmcoapaaGreatPlSC
set_option linter.unusedSectionVars false
set_option linter.unusedVariables false
set_option linter.unusedSimpArgs false
set_option linter.defProp false
set_option maxRecDepth 20000
set_option maxHeartbeats 1000000
open Go.Proofs.Tryz
open Bool renaming true_and->γ,and_eq_true->δ,false_and->ε,eq_iff_iff->ζ,or_false->η,or_eq_false_iff->θ,and_false->κ,and_true->μ,eq_false_iff->ν
open BitVec renaming getLsbD_zero->ξ,getLsbD_not->ο,getLsbD_and->π,getLsbD_or->τ
open List renaming mem_range->υ,mem_map->χ,map_congr_left->ψ,any_eq_true->ω,all_eq_true->Aa,getElem?_eq_getElem->Ab,length_pos_iff->Ac,mem_singleton->Ad,ext_getElem->Ae
open Int renaming toNat_natCast->Af,eq_ofNat_of_zero_le->Ag
open Nat renaming exists_eq_add_of_le->Ah,shiftRight_eq_div_pow->Ai,mul_pos->Aj
namespace Go.Pd
open Go Go.Proofs
open BitVec renaming isValue -> ZA
open Rs Fm Ru Te
namespace Ru
def uR (m:vY) (W:Nat) (n:Nd) (x y:BitVec 64):BitVec 64 × Bool:=
 if n.op=1 then(wO W,true) else if n.op=2 then(0#64,true) else if n.op=3 then(if n.i<m.V.length then(m.V.getD n.i.toNat 0,true) else(0#64,false)) else if n.op=4 then(wO W &&& ~~~x,true)
 else if n.op=5 then(x &&& y,true) else if n.op=6 then(x ||| y,true) else if n.op=7 then(wO W &&& ~~~x ||| y,true) else if n.op=8 then(wO W &&& ~~~(x ^^^ y),true)
 else if n.op=9 then(if n.i<m.R.length then(oF (m.R.getD n.i.toNat []) x,true) else(0#64,false)) else if n.op=10 then(if n.i<m.R.length then(au (m.R.getD n.i.toNat []) x,true) else(0#64,false))
 else if n.op=11 then(if n.g<(2 ^ m.R.length:Nat) then(oF (zZ m n.g.toNat false) x,true) else(0#64,false)) else if n.op=12 then(if n.g<(2 ^ m.R.length:Nat) then(oF (zZ m n.g.toNat true) x,true) else(0#64,false))
 else if n.op=13 then(if n.g<(2 ^ m.R.length:Nat) then(tA (zZ m n.g.toNat false) (wO W) x y W,true) else(0#64,false)) else(0#64,false)
theorem Pw {W:Nat} (h1:1<=W) (h2:W<=64):18446744073709551615#64 >>> (64-W)= wO W:=by
 have:∀ W,W<65->1<=W->18446744073709551615#64 >>> (64-W)= wO W:=by decide
 exact this W (by omega) h1
end Ru
theorem PL {m:vY} {W:Nat} (ok:qJ m W) {n:Nd} {k:Int} (hn:zK n k=0) {x y:BitVec 64} (hcom:n.op=13->n.g<(2 ^ m.R.length:Nat)->tA (zZ m n.g.toNat false) (wO W) x y (W+1)= tA (zZ m n.g.toNat false) (wO W) x y W) :
  xA prog 177 [m.d,.agg n.row,.int .u64 (ui x),.int .u64 (ui y)] (.wH [.int .u64 (ui (uR m W n x y).1),.bool (uR m W n x y).2]):=by
 obtain⟨W1,W64⟩:=ok.hW;have hR4:=ok.hR;have hV8:=ok.hV;have hw:IntKind.i64.wrap (64-m.W)= ((64-W:Nat):Int):=by rw [ok.w,wrap_i64 (by omega)]; omega
 have hfull:(18446744073709551615:Int)= ui 18446744073709551615#64:=rfl;have hall:=Pw W1 W64
 have hi0:n.op=3\/n.op=9\/n.op=10->0<=n.i:=λh=>by
  rcases h with h | h | h
  ·exact(mN hn (by rw [h]; rfl)).1
  ·exact(rZ hn (by rw [h]; rfl)).1
  ·exact(rZ hn (by rw [h]; rfl)).1
 have hg0:n.op=11\/n.op=12\/n.op=13->1<=n.g/\n.g<=15:=λh=>by
  have hgr:(xY n.op).1.gr=true:=by rcases h with h | h | h <;> rw [h] <;> rfl
  have h1:=(vU.1 hn).2.2.2.2;simp only [θ,hgr,xH,γ,decide_eq_false_iff_not] at h1;omega
 have hsh:=ti (k:=m.R.length) (by omega);obtain⟨op,i,e,g,a,b⟩:=n;simp only at hi0 hg0 hcom;have hrow:(Nd.row ⟨op,i,e,g,a,b⟩)= [.int .i64 op,.int .i64 i,.int .i64 e,.int .i64 g,.int .i64 a,.int .i64 b]:=rfl;rw [hrow];unfold vY.d
 rcases rY op with rfl | rfl | rfl | rfl | rfl | rfl | rfl | rfl | rfl | rfl | rfl | rfl | rfl | rfl | rfl | rfl | rfl | rfl | rfl | rfl | rfl | h | h
 ·rw [show uR m W ⟨1,i,e,g,a,b⟩ x y=(wO W,true) from rfl,<- hall];refine xI func177 pD λhf=>?_;refine wA hw ?_;exact .drop (by simp) (by simp [vw,uK])
 ·rw [show uR m W ⟨2,i,e,g,a,b⟩ x y=(0#64,true) from rfl];refine xI func177 pD λhf=>?_;refine wA hw ?_;exact .drop (by simp) (by simp [vw,uK])
 ·have h0:=hi0 (.inl rfl)
  by_cases hlt:i<(m.V.length:Int)
  ·have hv:uR m W ⟨3,i,e,g,a,b⟩ x y=(m.V.getD i.toNat 0,true):=if_pos hlt;have hge:¬ (m.V.length:Int)<=i:=by omega
   obtain⟨j,rfl⟩:=Ag h0;have hg:=zX m.V (show j<m.V.length by omega);rw [Af] at hv;rw [hv];generalize m.V.getD j 0=z at hg;refine xI func177 pD λhf=>?_;refine uC hw xT hge hg ?_;exact .drop (by simp) (by simp [vw,uK])
  ·have hv:uR m W ⟨3,i,e,g,a,b⟩ x y=(0#64,false):=if_neg hlt;have hge:(m.V.length:Int)<=i:=by omega
   rw [hv];refine xI func177 pD λhf=>?_;refine sT hw xT hge ?_;exact .drop (by simp) (by simp [vw,uK])
 ·rw [show uR m W ⟨4,i,e,g,a,b⟩ x y=(wO W &&& ~~~x,true) from rfl,<- hall];refine xI func177 pD λhf=>?_;refine wA hw ?_;exact .drop (by simp) (by simp [vw,uK])
 ·rw [show uR m W ⟨5,i,e,g,a,b⟩ x y=(x &&& y,true) from rfl];refine xI func177 pD λhf=>?_;refine wA hw ?_;exact .drop (by simp) (by simp [vw,uK])
 ·rw [show uR m W ⟨6,i,e,g,a,b⟩ x y=(x ||| y,true) from rfl];refine xI func177 pD λhf=>?_;refine wA hw ?_;exact .drop (by simp) (by simp [vw,uK])
 ·rw [show uR m W ⟨7,i,e,g,a,b⟩ x y=(wO W &&& ~~~x ||| y,true) from rfl,<- hall];refine xI func177 pD λhf=>?_;refine wA hw ?_;exact .drop (by simp) (by simp [vw,uK])
 ·rw [show uR m W ⟨8,i,e,g,a,b⟩ x y=(wO W &&& ~~~(x ^^^ y),true) from rfl,<- hall];refine xI func177 pD λhf=>?_;refine wA hw ?_;exact .drop (by simp) (by simp [vw,uK])
 ·have h0:=hi0 (.inr (.inl rfl))
  by_cases hlt:i<(m.R.length:Int)
  ·have hv:uR m W ⟨9,i,e,g,a,b⟩ x y=(oF (m.R.getD i.toNat []) x,true):=if_pos hlt;have hge:¬ (m.R.length:Int)<=i:=by omega
   obtain⟨j,rfl⟩:=Ag h0;have hg:=tY m.R (show j<m.R.length by omega);have hc:=qf (ah ok (show j<m.R.length by omega)) x;rw [Af] at hv;rw [hv];generalize m.R.getD j []=z at hg hc;refine xI func177 pD λhf=>?_;refine uC hw yZ hge hg ?_;refine .go (cr hc) ?_;refine xJ ?_;exact .drop (by simp) (by simp [vw,uK])
  ·have hv:uR m W ⟨9,i,e,g,a,b⟩ x y=(0#64,false):=if_neg hlt;have hge:(m.R.length:Int)<=i:=by omega
   rw [hv];refine xI func177 pD λhf=>?_;refine sT hw yZ hge ?_;exact .drop (by simp) (by simp [vw,uK])
 ·have h0:=hi0 (.inr (.inr rfl))
  by_cases hlt:i<(m.R.length:Int)
  ·have hv:uR m W ⟨10,i,e,g,a,b⟩ x y=(au (m.R.getD i.toNat []) x,true):=if_pos hlt;have hge:¬ (m.R.length:Int)<=i:=by omega
   obtain⟨j,rfl⟩:=Ag h0;have hg:=tY m.R (show j<m.R.length by omega);have hc:=W8 (ah ok (show j<m.R.length by omega)) x;rw [Af] at hv;rw [hv];generalize m.R.getD j []=z at hg hc;refine xI func177 pD λhf=>?_;refine uC hw yZ hge hg ?_;refine .go (cr hc) ?_;refine xJ ?_;exact .drop (by simp) (by simp [vw,uK])
  ·have hv:uR m W ⟨10,i,e,g,a,b⟩ x y=(0#64,false):=if_neg hlt;have hge:(m.R.length:Int)<=i:=by omega
   rw [hv];refine xI func177 pD λhf=>?_;refine sT hw yZ hge ?_;exact .drop (by simp) (by simp [vw,uK])
 ·have h0:=hg0 (.inl rfl)
  by_cases hlt:g<((2 ^ m.R.length:Nat):Int)
  ·have hv:uR m W ⟨11,i,e,g,a,b⟩ x y=(oF (zZ m g.toNat false) x,true):=if_pos hlt;have hge:¬ ((2 ^ m.R.length:Nat):Int)<=g:=by omega
   obtain⟨j,rfl⟩:=Ag (show 0<=g by omega);have hj:1<=j/\j<2 ^ m.R.length:=by omega
   have hc:=YP ok hj;have hb:=qf (jA ok hj false) x;rw [Af] at hv;rw [hv];unfold vY.d at hc;generalize zZ m j false=z at hc hb ⊢;refine xI func177 pD λhf=>?_;refine uC hw yZ hge hsh ?_;refine .go (cr hc) ?_;refine xJ ?_;refine .go (cr hb) ?_;refine xJ ?_;exact .drop (by simp) (by simp [vw,uK])
  ·have hv:uR m W ⟨11,i,e,g,a,b⟩ x y=(0#64,false):=if_neg hlt;have hge:((2 ^ m.R.length:Nat):Int)<=g:=by omega
   rw [hv];refine xI func177 pD λhf=>?_;refine uC hw yZ hge hsh ?_;exact .drop (by simp) (by simp [vw,uK])
 ·have h0:=hg0 (.inr (.inl rfl))
  by_cases hlt:g<((2 ^ m.R.length:Nat):Int)
  ·have hv:uR m W ⟨12,i,e,g,a,b⟩ x y=(oF (zZ m g.toNat true) x,true):=if_pos hlt;have hge:¬ ((2 ^ m.R.length:Nat):Int)<=g:=by omega
   obtain⟨j,rfl⟩:=Ag (show 0<=g by omega);have hj:1<=j/\j<2 ^ m.R.length:=by omega
   have hc:=Nm ok hj;have hb:=qf (jA ok hj true) x;rw [Af] at hv;rw [hv];unfold vY.d at hc;generalize zZ m j true=z at hc hb ⊢;refine xI func177 pD λhf=>?_;refine uC hw yZ hge hsh ?_;refine .go (cr hc) ?_;refine xJ ?_;refine .go (cr hb) ?_;refine xJ ?_;exact .drop (by simp) (by simp [vw,uK])
  ·have hv:uR m W ⟨12,i,e,g,a,b⟩ x y=(0#64,false):=if_neg hlt;have hge:((2 ^ m.R.length:Nat):Int)<=g:=by omega
   rw [hv];refine xI func177 pD λhf=>?_;refine uC hw yZ hge hsh ?_;exact .drop (by simp) (by simp [vw,uK])
 ·have h0:=hg0 (.inr (.inr rfl))
  by_cases hlt:g<((2 ^ m.R.length:Nat):Int)
  ·have hv:uR m W ⟨13,i,e,g,a,b⟩ x y=(tA (zZ m g.toNat false) (wO W) x y W,true):=if_pos hlt;have hge:¬ ((2 ^ m.R.length:Nat):Int)<=g:=by omega
   have hcm:=hcom rfl hlt;obtain⟨j,rfl⟩:=Ag (show 0<=g by omega);have hj:1<=j/\j<2 ^ m.R.length:=by omega
   have hc:=YP ok hj;have hb:=Tf (jA ok hj false) (by rw [Af] at hcm; exact hcm);rw [Af] at hv;rw [hv];unfold vY.d at hc;generalize zZ m j false=z at hc hb ⊢;refine xI func177 pD λhf=>?_;refine uC hw yZ hge hsh ?_;refine .go (cr hc) ?_;refine xG hall ?_;refine .go (cr hb) ?_;refine xJ ?_;exact .drop (by simp) (by simp [vw,uK])
  ·have hv:uR m W ⟨13,i,e,g,a,b⟩ x y=(0#64,false):=if_neg hlt;have hge:((2 ^ m.R.length:Nat):Int)<=g:=by omega
   rw [hv];refine xI func177 pD λhf=>?_;refine uC hw yZ hge hsh ?_;exact .drop (by simp) (by simp [vw,uK])
 ·rw [show uR m W ⟨14,i,e,g,a,b⟩ x y=(0#64,false) from rfl];refine xI func177 pD λhf=>?_;refine wA hw ?_;exact .drop (by simp) (by simp [vw,uK])
 ·rw [show uR m W ⟨15,i,e,g,a,b⟩ x y=(0#64,false) from rfl];refine xI func177 pD λhf=>?_;refine wA hw ?_;exact .drop (by simp) (by simp [vw,uK])
 ·rw [show uR m W ⟨16,i,e,g,a,b⟩ x y=(0#64,false) from rfl];refine xI func177 pD λhf=>?_;refine wA hw ?_;exact .drop (by simp) (by simp [vw,uK])
 ·rw [show uR m W ⟨17,i,e,g,a,b⟩ x y=(0#64,false) from rfl];refine xI func177 pD λhf=>?_;refine wA hw ?_;exact .drop (by simp) (by simp [vw,uK])
 ·rw [show uR m W ⟨18,i,e,g,a,b⟩ x y=(0#64,false) from rfl];refine xI func177 pD λhf=>?_;refine wA hw ?_;exact .drop (by simp) (by simp [vw,uK])
 ·rw [show uR m W ⟨19,i,e,g,a,b⟩ x y=(0#64,false) from rfl];refine xI func177 pD λhf=>?_;refine wA hw ?_;exact .drop (by simp) (by simp [vw,uK])
 ·rw [show uR m W ⟨20,i,e,g,a,b⟩ x y=(0#64,false) from rfl];refine xI func177 pD λhf=>?_;refine wA hw ?_;exact .drop (by simp) (by simp [vw,uK])
 ·rw [show uR m W ⟨21,i,e,g,a,b⟩ x y=(0#64,false) from rfl];refine xI func177 pD λhf=>?_;refine wA hw ?_;exact .drop (by simp) (by simp [vw,uK])
 ·have hv:uR m W ⟨op,i,e,g,a,b⟩ x y=(0#64,false):=by unfold uR; simp only; repeat rw [if_neg (by omega)]
  have q1:(op==1)= false:=by rw [beq_eq_false_iff_ne]; omega
  have q2:(op==2)= false:=by rw [beq_eq_false_iff_ne]; omega
  have q3:(op==3)= false:=by rw [beq_eq_false_iff_ne]; omega
  have q4:(op==4)= false:=by rw [beq_eq_false_iff_ne]; omega
  have q5:(op==5)= false:=by rw [beq_eq_false_iff_ne]; omega
  have q6:(op==6)= false:=by rw [beq_eq_false_iff_ne]; omega
  have q7:(op==7)= false:=by rw [beq_eq_false_iff_ne]; omega
  have q8:(op==8)= false:=by rw [beq_eq_false_iff_ne]; omega
  have q9:(op==9)= false:=by rw [beq_eq_false_iff_ne]; omega
  have q10:(op==10)= false:=by rw [beq_eq_false_iff_ne]; omega
  have q11:(op==11)= false:=by rw [beq_eq_false_iff_ne]; omega
  have q12:(op==12)= false:=by rw [beq_eq_false_iff_ne]; omega
  have q13:(op==13)= false:=by rw [beq_eq_false_iff_ne]; omega
  rw [hv];refine xI func177 pD λhf=>?_;refine T5 hw q1 q2 q3 q4 q5 q6 q7 q8 q9 q10 q11 q12 q13 ?_;exact .drop (by simp) (by simp [vw,uK])
 ·have hv:uR m W ⟨op,i,e,g,a,b⟩ x y=(0#64,false):=by unfold uR; simp only; repeat rw [if_neg (by omega)]
  have q1:(op==1)= false:=by rw [beq_eq_false_iff_ne]; omega
  have q2:(op==2)= false:=by rw [beq_eq_false_iff_ne]; omega
  have q3:(op==3)= false:=by rw [beq_eq_false_iff_ne]; omega
  have q4:(op==4)= false:=by rw [beq_eq_false_iff_ne]; omega
  have q5:(op==5)= false:=by rw [beq_eq_false_iff_ne]; omega
  have q6:(op==6)= false:=by rw [beq_eq_false_iff_ne]; omega
  have q7:(op==7)= false:=by rw [beq_eq_false_iff_ne]; omega
  have q8:(op==8)= false:=by rw [beq_eq_false_iff_ne]; omega
  have q9:(op==9)= false:=by rw [beq_eq_false_iff_ne]; omega
  have q10:(op==10)= false:=by rw [beq_eq_false_iff_ne]; omega
  have q11:(op==11)= false:=by rw [beq_eq_false_iff_ne]; omega
  have q12:(op==12)= false:=by rw [beq_eq_false_iff_ne]; omega
  have q13:(op==13)= false:=by rw [beq_eq_false_iff_ne]; omega
  rw [hv];refine xI func177 pD λhf=>?_;refine T5 hw q1 q2 q3 q4 q5 q6 q7 q8 q9 q10 q11 q12 q13 ?_;exact .drop (by simp) (by simp [vw,uK])
section
open Rs Fm Ru Te
namespace Te
theorem Vz {nx:Nat} {xZ:List (Nat × Ob)} (hu:rv ⟨nx,xZ⟩) (nx':Nat) (ob:Ob):∀ k o,St.look xZ k=some o->St.get ⟨nx',(nx,ob) :: xZ⟩ k=some o:=λk o hk=>by have:=(hu k o hk).1;simp only at this;show St.look (_ :: _) k=_;rw [xX,if_neg (by omega)]; exact hk
end Te
end
section
open Rs Fm Ru Te
end
section
open Rs Fm Ru Te
theorem nD (c:Nat):∀ {l:List (Nat × Ob)} {k:Nat} {o:Ob},St.look l k=some o->St.look (yG c l) (c+k)= some (o.shift c)
 | [],k,o,h=>by cases h
 | (j,ob) :: r,k,o,h=>by
  rw [xX] at h;show St.look ((c+j,ob.shift c) :: yG c r) _=_;rw [xX]
  by_cases e:j=k
  ·rw [if_pos e] at h; rw [if_pos (by omega)]; cases h; rfl
  ·rw [if_neg e] at h; rw [if_neg (by omega)]; exact nD c h
namespace Te
def jt (s:jW) (f:List Nd):Int:=if Nb s≠0 then Nb s else if yW f≠0 then yW f else if (tB .andNot .i64 (zP f:Int) 271 != 0)= true then 10 else if sO f s.ag s.fa=false then 2 else 0
theorem qI {s:jW} {f:List Nd} (h:jt s f=0):Nb s=0/\yW f=0:=by
 unfold jt at h
 by_cases c1:Nb s≠0
 ·rw [if_pos c1] at h; exact absurd h c1
 rw [if_neg c1] at h
 by_cases c2:yW f≠0
 ·rw [if_pos c2] at h; exact absurd h c2
 exact⟨by simpa using c1,by simpa using c2⟩
end Te
end
section
open Rs Fm Ru Te
namespace Te
end Te
end
open Rs Fm Ru Te
namespace Te
def pt (T p:Nat):Nat × Nat:=(p / T,p % T)
def pG (rs:List zB) (g:Nat) (m:Bool) (p q:Nat × Nat) (a:Nat):Bool:=(List.range a).all λb=>!g.testBit b || (decide (vL rs b p=vL rs b q)== m)
end Te
end Go.Pd

/- Part S9. -/
namespace Go.Pd
open Go Go.Proofs
open Ru
namespace Ru
def pE (rs:List zB) (l:List (Nat × Nat)) (A F:Nat):vY:=⟨(l.length:Int),rG rs l F,tP rs l A⟩
def wX (R t:Nat):List (Nat × Nat):=(List.range R).map λr=>(r,t)
theorem oE (R t:Nat):(wX R t).length=R:=by simp [wX]
theorem nI {k:Nat} (hk:k<64) (i:Nat):(1#64 <<< k).getLsbD i=decide (i=k):=by
 by_cases hi:i<64
 ·have:∀ k,k<64->∀ i,i<64->(1#64 <<< k).getLsbD i=decide (i=k):=by decide
  exact this k hk i hi
 ·rw [BitVec.getLsbD_of_ge _ _ (by omega)];exact(decide_eq_false (by omega)).symm
theorem qc {rs:List zB} {l:List (Nat × Nat)} {f:Nat}:∀ (k i:Nat),k<=64->(oN rs l f k).getLsbD i=(decide (i<k)&& (aw rs (l.getD i (0,0))).getLsbD f)
 | 0,i,_=>by simp [oN]
 | k+1,i,hk=>by
  unfold oN;rw [τ,qc k i (by omega)]
  by_cases e:i=k
  ·subst e
   cases hb:(aw rs (l.getD i (0,0))).getLsbD f
   ·simp
   ·rw [if_pos rfl,nI (by omega)];simp
  ·have h2:(if (aw rs (l.getD k (0,0))).getLsbD f=true then 1#64 <<< k else 0#64).getLsbD i=false:=by
    split
    ·rw [nI (by omega)]; exact decide_eq_false e
    ·exact ξ
   rw [h2,η];congr 1;rw [ζ,decide_eq_true_iff,decide_eq_true_iff]; omega
theorem eX {rs:List zB} {l:List (Nat × Nat)} {a:Nat} {x:Int}:∀ (k i:Nat),k<=64->(pG rs l a x k).getLsbD i=(decide (i<k)&& decide (vL rs a (l.getD i (0,0))= x))
 | 0,i,_=>by simp [pG]
 | k+1,i,hk=>by
  unfold pG;rw [τ,eX k i (by omega)]
  by_cases e:i=k
  ·subst e
   by_cases hb:vL rs a (l.getD i (0,0))= x
   ·rw [if_pos hb,nI (by omega),decide_eq_true hb];simp
   ·rw [if_neg hb,decide_eq_false hb];simp
  ·have h2:(if vL rs a (l.getD k (0,0))= x then 1#64 <<< k else 0#64).getLsbD i=false:=by
    split
    ·rw [nI (by omega)]; exact decide_eq_false e
    ·exact ξ
   rw [h2,η];congr 1;rw [ζ,decide_eq_true_iff,decide_eq_true_iff]; omega
theorem sq {rs:List zB} {A F T:Nat} (ok:j5 rs A F T) {l:List (Nat × Nat)} (h1:1<=l.length) (h2:l.length<=64):qJ (pE rs l A F) l.length where
 w:=rfl
 hW:=⟨h1,h2⟩
 hV:=by have:=ok.hF; simp [pE,rG]; exact this
 hR:=by have:=ok.hA; simp [pE,tP]; exact this
 row:=λr hr=>by simp only [pE,tP,χ] at hr;obtain⟨a,_,rfl⟩:=hr;simp [tQ]
 val:=λx hx=>by simp only [pE,rG,χ] at hx;obtain⟨f,_,rfl⟩:=hx;refine v7 h2 λi hi=>?_;rw [qc _ _ h2,δ] at hi;exact of_decide_eq_true hi.1
 rel:=λr hr x hx=>by simp only [pE,tP,χ] at hr;obtain⟨a,_,rfl⟩:=hr;simp only [tQ,χ] at hx;obtain⟨p,_,rfl⟩:=hx;refine v7 h2 λi hi=>?_;rw [eX _ _ h2,δ] at hi;exact of_decide_eq_true hi.1
end Ru
open Rs Fm Ru Te
namespace Te
end Te
namespace Te
end Te
open Rs Fm Ru Te
namespace Te
def bl (rs:List zB) (A T:Nat):Tr->gF
 | .nil=>λ_=>false
 | .nd op i e g x y=>gA rs A T ⟨op,i,e,g,0,0⟩ (bl rs A T x) (bl rs A T y)
theorem wm {rs:List zB} {A T:Nat} {n m:Nd} {x y x' y':gF} (h1:n.op=m.op) (h2:n.i=m.i) (h3:n.g=m.g) (hx:(xY n.op).1.x=true->x=x') (hy:(xY n.op).1.y=true->y=y') :
  gA rs A T n x y=gA rs A T m x' y':=by
 obtain⟨op,i,e,g,a,b⟩:=n;obtain⟨op',i',e',g',a',b'⟩:=m;simp only at h1 h2 h3 hx hy;subst h1 h2 h3;rcases rY op with rfl | rfl | rfl | rfl | rfl | rfl | rfl | rfl | rfl | rfl | rfl | rfl | rfl | rfl | rfl | rfl | rfl | rfl | rfl | rfl | rfl | h | h
 all_goals first
  | (have hx':=hx rfl; have hy':=hy rfl; subst hx' hy'; rfl)
  | (have hx':=hx rfl; subst hx'; rfl)
  | rfl
  | (unfold gA Sn; simp only; funext p; repeat rw [if_neg (by omega)])
theorem iV {rs:List zB} {A T:Nat} {c:List Nd} {k:Nat}:∀ (m:Nat) {i:Nat},i<k->(sY rs A T c (k+m)).getD i (λ_=>false)= (sY rs A T c k).getD i λ_=>false
 | 0,_,_=>rfl
 | m+1,i,h=>by rw [show k+(m+1)= (k+m)+ 1 from rfl,sY,List.getD,List.getElem?_append_left (by rw [cV]; omega)];exact iV m h
theorem ig {rs:List zB} {A T:Nat} {c:List Nd} {k n:Nat} (h:k<n):(sY rs A T c n).getD k (λ_=>false)= gA rs A T (c.getD k vW) ((sY rs A T c k).getD (c.getD k vW).x.toNat λ_=>false) ((sY rs A T c k).getD (c.getD k vW).y.toNat λ_=>false):=by obtain⟨m,rfl⟩:=Ah (show k+1<=n by omega);rw [iV m (by omega),sY,List.getD,List.getElem?_append_right (by rw [cV]; omega),cV,Nat.sub_self];rfl
theorem Z6 {rs:List zB} {A T:Nat} {c:List Nd} (hv:vR c) {n:Nat} (hn:n<=c.length):∀ (i:Nat),i<n->(sY rs A T c n).getD i (λ_=>false)= bl rs A T (tree c i):=by
 intro i
 induction i using Nat.strongRecOn with
 | _ i ih=>
  intro hi;obtain⟨ox,oy,_,_⟩:=tO (hv i (by omega));rw [ig hi,sH hv (by omega)];show _=gA _ _ _ _ _ _
  refine wm rfl rfl rfl (λhx=>?_) λhy=>?_
  ·have:=ox hx;obtain⟨m,hm⟩:=Ah (show i<=n by omega);rw [if_pos hx,<- ih _ (by omega) (by omega),hm,iV m (by omega)]
  ·have:=oy hy;obtain⟨m,hm⟩:=Ah (show i<=n by omega);rw [if_pos hy,<- ih _ (by omega) (by omega),hm,iV m (by omega)]
def N5 (A F:Nat) (p:Nd):Bool:=decide (rB p &&& 3824=0)&& decide (tZ p / 2 ^ A=0)&& decide (qL p / 2 ^ F=0)
theorem pT {m:Nd->Nat} {φ:Nat->Nat} (h0:φ 0=0) (h:∀ a b,φ (a ||| b)= φ a ||| φ b) (l:List Nd):φ (wU m l)= wU (λp=>φ (m p)) l:=by
 have key:∀ (l:List Nd) (a:Nat),φ (l.foldl (λa p=>a ||| m p) a)= l.foldl (λa p=>a ||| φ (m p)) (φ a):=by
  intro l
  induction l with
  | nil=>intro a; rfl
  | cons p r ih=>intro a; rw [List.foldl_cons,List.foldl_cons,ih,h]
 unfold wU;rw [key,h0]
theorem yy {n:Nat} (h:n<4096):(tB .andNot .i64 (n:Int) 271 != 0)= !decide (n &&& 3824=0):=by
 have:∀ n:Fin 4096,(tB .andNot .i64 ((n.val:Nat):Int) 271 != 0)= !decide (n.val &&& 3824=0):=by decide +kernel
 exact this ⟨n,h⟩
theorem w8 {s:jW} {A F T:Nat} {rs:List zB} (hs:s=⟨A,F,T,rs⟩) (hz:Nb s=0) (ok:j5 rs A F T) {f:List Nd} (hc:yW f=0):jt s f=0 ↔ ∀ p ∈ xB f,N5 A F p=true:=by
 have hlt:zP f<4096:=by refine mH λp _=>?_;have:=eF p.op;unfold rB; omega
 have e1:(zP f &&& 3824=0) ↔ ∀ p ∈ xB f,rB p &&& 3824=0:=by unfold zP;rw [pT (φ:=λn=>n &&& 3824) (by decide) (λa b=>Nat.and_or_distrib_right a b 3824),sN]
 have dv:∀ n a b:Nat,(a ||| b)/ 2 ^ n=a / 2 ^ n ||| b / 2 ^ n:=λn a b=>by rw [<- Ai,<- Ai,<- Ai,Nat.shiftRight_or_distrib]
 have e2:oW f / 2 ^ A=0 ↔ ∀ p ∈ xB f,tZ p / 2 ^ A=0:=by unfold oW;rw [pT (φ:=λn=>n / 2 ^ A) (by simp) (dv A),sN]
 have e3:jR f / 2 ^ F=0 ↔ ∀ p ∈ xB f,qL p / 2 ^ F=0:=by unfold jR;rw [pT (φ:=λn=>n / 2 ^ F) (by simp) (dv F),sN]
 have hA:=ok.hA;have hF:=ok.hF
 have ef:sO f s.ag s.fa=true ↔ oW f / 2 ^ A=0/\jR f / 2 ^ F=0:=by
  subst hs;unfold sO iG;simp only [δ,Bool.or_eq_true,decide_eq_true_eq,Af]
  constructor
  ·rintro ⟨⟨_,h1⟩,h2⟩; exact⟨h1.resolve_left (by omega),h2.resolve_left (by omega)⟩
  ·rintro ⟨h1,h2⟩; exact⟨⟨hc,.inr h1⟩,.inr h2⟩
 unfold jt;rw [if_neg (by simpa using hz),if_neg (by simpa using hc),yy hlt]
 constructor
 ·intro h p hp
  by_cases c:zP f &&& 3824=0
  ·rw [if_neg (by simp [c])] at h
   cases h2:sO f s.ag s.fa with
   | false=>rw [h2,if_pos rfl] at h; cases h
   | true=> have h3:=ef.1 h2;unfold N5;simp only [δ,decide_eq_true_eq];exact⟨⟨e1.1 c p hp,e2.1 h3.1 p hp⟩,e3.1 h3.2 p hp⟩
  ·rw [if_pos (by simp [c])] at h; cases h
 ·intro h;have h':∀ p ∈ xB f,(rB p &&& 3824=0/\tZ p / 2 ^ A=0)/\ qL p / 2 ^ F=0:=λp hp=>by simpa [N5] using h p hp
  have c:zP f &&& 3824=0:=e1.2 λp hp=>(h' p hp).1.1;rw [if_neg (by simp [c]),ef.2 ⟨e2.2 λp hp=>(h' p hp).1.2,e3.2 λp hp=>(h' p hp).2⟩,if_neg (by decide)]
end Te
namespace Fm
end Fm
namespace Te
end Te
open Rs Fm Ru Te
namespace Te
def TC (φ:Nat->Bool):Nat->BitVec 64
 | 0=>0#64
 | k+1=>TC φ k ||| (if φ k=true then 1#64 <<< k else 0#64)
theorem XG {φ:Nat->Bool}:∀ (k i:Nat),k<=64->(TC φ k).getLsbD i=(decide (i<k)&& φ i)
 | 0,i,_=>by simp [TC]
 | k+1,i,hk=>by
  unfold TC;rw [τ,XG k i (by omega)]
  by_cases e:i=k
  ·subst e
   cases hb:φ i
   ·simp
   ·rw [if_pos rfl,nI (by omega)];simp
  ·have h2:(if φ k=true then 1#64 <<< k else 0#64).getLsbD i=false:=by
    split
    ·rw [nI (by omega)]; exact decide_eq_false e
    ·exact ξ
   rw [h2,η];congr 1;exact decide_eq_decide.2 (by omega)
def tC (T W:Nat) (x:gF):BitVec 64:=TC (λw=>x (pt T w)) W
theorem zM {T W:Nat} {x:gF} (hW:W<=64) (i:Nat):(tC T W x).getLsbD i=(decide (i<W)&& x (pt T i)):=XG W i hW
theorem cX {a b:BitVec 64} (h:∀ i,i<64->a.getLsbD i=b.getLsbD i):a=b:=BitVec.eq_of_getLsbD_eq h
theorem lN (r:List (BitVec 64)) (s:BitVec 64):∀ (k i:Nat),k<=64->(lX r s k).getLsbD i=(decide (i<k)&& (r.getD i 0 &&& ~~~s==0#64))
 | 0,i,_=>by simp [lX]
 | k+1,i,hk=>by
  unfold lX
  have e1:(if (r.getD k 0 &&& ~~~s==0#64)= true then lX r s k ||| 1#64 <<< k else lX r s k)= lX r s k ||| (if (r.getD k 0 &&& ~~~s==0#64)= true then 1#64 <<< k else 0#64):=by
   split
   ·rfl
   ·exact BitVec.or_zero.symm
  rw [e1,τ,lN r s k i (by omega)]
  by_cases e:i=k
  ·subst e
   cases hb:(r.getD i 0 &&& ~~~s==0#64)
   ·simp
   ·rw [if_pos rfl,nI (by omega)];simp
  ·have h2:(if (r.getD k 0 &&& ~~~s==0#64)= true then 1#64 <<< k else 0#64).getLsbD i=false:=by
    split
    ·rw [nI (by omega)]; exact decide_eq_false e
    ·exact ξ
   rw [h2,η];congr 1;exact decide_eq_decide.2 (by omega)
theorem eE {a s:BitVec 64}:(a &&& ~~~s==0#64)= true ↔ ∀ v,v<64->a.getLsbD v=true->s.getLsbD v=true:=by
 rw [beq_iff_eq]
 constructor
 ·intro h v hv ha;have:=congrArg (·.getLsbD v) h;simp only [π,ο,ha,hv,ξ] at this;simpa using this
 ·intro h;refine cX λv hv=>?_;rw [π,ο,ξ]
  cases ha:a.getLsbD v
  ·rfl
  ·rw [h v hv ha]; simp
theorem ZO {rs:List zB} {T v:Nat} (h:v<rs.length*T):(rU rs T).getD v (0,0)= pt T v:=Oz T h
theorem Nn {rs:List zB} {T:Nat} {P:Nat × Nat->Bool}:(rU rs T).all P=true ↔ ∀ v,v<rs.length*T->P (pt T v)= true:=by
 rw [Aa]
 constructor
 ·intro h v hv;refine h _ ?_;unfold rU iO;exact χ.2 ⟨v,υ.2 hv,rfl⟩
 ·intro h q hq;unfold rU iO at hq;obtain⟨v,hv,rfl⟩:=χ.1 hq;exact h v (υ.1 hv)
def ZS (rs:List zB) (T:Nat) (r:List (BitVec 64)) (ρ:Nat × Nat->Nat × Nat->Bool):Prop:= r.length=rs.length*T/\∀ w,w<rs.length*T->∀ v,(r.getD w 0).getLsbD v=(decide (v<rs.length*T)&& ρ (pt T w) (pt T v))
theorem xl {rs:List zB} {T:Nat} (hW:rs.length*T<=64) {r:List (BitVec 64)} {ρ:Nat × Nat->Nat × Nat->Bool} (h:ZS rs T r ρ) {s:BitVec 64} {x:gF} (hs:∀ v,v<rs.length*T->s.getLsbD v=x (pt T v)) :
  oF r s=tC T (rs.length*T) λp=>(rU rs T).all λq=>!ρ p q || x q:=by
 obtain⟨hl,hr⟩:=h;refine cX λi _=>?_;rw [zM hW,oF,lN r s _ i (by omega),hl]
 by_cases hi:i<rs.length*T
 ·rw [decide_eq_true hi,γ,γ,ζ,eE,Nn]
  constructor
  ·intro h v hv
   cases e:ρ (pt T i) (pt T v) with
   | false=>rfl
   | true=> have:=h v (by omega) (by rw [hr i hi v,decide_eq_true hv,e]; rfl);rw [hs v hv] at this;simpa using this
  ·intro h v _ ha;rw [hr i hi v,δ] at ha;have hv:=of_decide_eq_true ha.1;have:=h v hv;rw [ha.2] at this;rw [hs v hv];simpa using this
 ·rw [decide_eq_false hi,ε,ε]
section
variable {rs : List zB} {A F T : Nat}
theorem XW {a:Nat} (ha:a<A) (hW:rs.length*T<=64):ZS rs T ((pE rs (rU rs T) A F).R.getD a []) λp q=>decide (vL rs a q=vL rs a p):=by
 have hl:(rU rs T).length=rs.length*T:=nT T _
 have hg:(pE rs (rU rs T) A F).R.getD a []=tQ rs (rU rs T) a:=by show (tP rs (rU rs T) A).getD a []=_;simp [tP,List.getD,ha]
 rw [hg];refine⟨by simp [tQ,hl],λw hw v=>?_⟩
 have hw':(tQ rs (rU rs T) a).getD w 0=Ru.pG rs (rU rs T) a (vL rs a (pt T w)) (rs.length*T):=by
  have h1:w<(rU rs T).length:=by omega
  have h2:=ZO (rs:=rs) hw;rw [List.getD,Ab h1] at h2;simp only [Option.getD_some] at h2;simp only [tQ,List.getD,List.getElem?_map,Ab h1,Option.map_some,Option.getD_some,h2,hl]
 rw [hw',eX _ _ hW]
 by_cases hv:v<rs.length*T
 ·rw [decide_eq_true hv,ZO hv]
 ·rw [decide_eq_false hv,ε,ε]
theorem wg {m:vY} {W:Nat} (ok:qJ m W) (hW:rs.length*T=W) (hR:m.R.length=A) {g:Nat} (hg:1<=g/\g<2 ^ m.R.length) (meet:Bool) (hk:∀ a,a<A->ZS rs T (m.R.getD a []) λp q=>decide (vL rs a q=vL rs a p)) :
  ZS rs T (zZ m g meet) λp q=>if meet=true then Pk rs A g p q else ZX rs A g p q:=by
 obtain⟨⟨a0,ha0,hb0⟩,hl,hv⟩:=qY ok hg meet;refine⟨by rw [hl,hW],λw hw v=>?_⟩;rw [hv w (by omega) v];unfold cA;rw [hR] at ha0 ⊢
 have hbit:∀ a,a<A->((m.R.getD a []).getD w 0).getLsbD v=(decide (v<rs.length*T)&& decide (vL rs a (pt T w)= vL rs a (pt T v))):=λa ha=>by rw [(hk a ha).2 w hw v];congr 1;exact decide_eq_decide.2 ⟨λh=>h.symm,λh=>h.symm⟩
 cases meet with
 | true=>
  show _=(decide (v<rs.length*T)&& Pk rs A g (pt T w) (pt T v));rw [if_pos rfl];unfold Pk
  by_cases hvw:v<rs.length*T
  ·rw [decide_eq_true hvw,γ];refine p9 λa ha=>?_;rw [hbit a (υ.1 ha),decide_eq_true hvw,γ]
  ·rw [decide_eq_false hvw,ε];refine ν.2 λh=>?_;rw [Aa] at h;have:=h a0 (υ.2 ha0);rw [hb0,hbit a0 ha0,decide_eq_false hvw] at this;simp at this
 | false=>
  show _=(decide (v<rs.length*T)&& ZX rs A g (pt T w) (pt T v));rw [if_neg (by decide)];unfold ZX
  by_cases hvw:v<rs.length*T
  ·rw [decide_eq_true hvw,γ,ζ,ω,ω]
   constructor
   ·rintro ⟨a,ha,h⟩;refine⟨a,ha,?_⟩
    rwa [hbit a (υ.1 ha),decide_eq_true hvw,γ] at h
   ·rintro ⟨a,ha,h⟩;refine⟨a,ha,?_⟩
    rwa [hbit a (υ.1 ha),decide_eq_true hvw,γ]
  ·rw [decide_eq_false hvw,ε];refine ν.2 λh=>?_;rw [ω] at h;obtain⟨a,ha,h⟩:=h;rw [hbit a (υ.1 ha),decide_eq_false hvw] at h;simp at h
theorem cz {g:Nat} {x:gF} {p:Nat × Nat}:lU rs A T g x p=(rU rs T).all λq=>!ZX rs A g p q || x q:=by
 rw [ζ,WV,Aa]
 constructor
 ·intro h q hq
  cases e:ZX rs A g p q with
  | false=>rfl
  | true=>rw [h q hq e]; rfl
 ·intro h q hq e;have:=h q hq;rw [e] at this;simpa using this
theorem YR {W T:Nat} (hW:W<=64):wO W=tC T W λ_=>true:=by refine cX λi hi=>?_;rw [uL hW hi,zM hW,μ]
theorem gP {m:vY} {W:Nat} (ok:qJ m W) (hW:rs.length*T=W) (hR:m.R.length=A) {g:Nat} (hg:1<=g/\g<2 ^ m.R.length) (hk:∀ a,a<A->ZS rs T (m.R.getD a []) λp q=>decide (vL rs a q=vL rs a p)) (x y:gF) :
  ∀ n,tA (zZ m g false) (wO W) (tC T W x) (tC T W y) n=tC T W (lC rs A T g x y n)
 | 0=>by have:=ok.hW; exact YR this.2
 | n+1=>by
  have hW64:=ok.hW.2;show oF _ _=_;rw [gP ok hW hR hg hk x y n];have hrel:=wg ok hW hR hg false hk
  rw [xl (by omega) hrel (x:=λq=>!x q || (y q&&lC rs A T g x y n q)) λv hv=>?_]
  ·rw [hW];congr 1;funext p;simp only [Bool.false_eq_true,↓reduceIte];rw [<- cz];rfl
  ·rw [hW] at hv;simp only [τ,π,ο,uL hW64 (show v<64 by omega),zM hW64,decide_eq_true hv,decide_eq_true (show v<64 by omega),γ]
end
end Te
open Rs Fm Ru Te
namespace Te
def qR (A F:Nat) (n:Nd):Bool:= if n.op<1 then false else if n.op=3 then decide (n.i<(F:Int)) else if n.op<=8 then true else if n.op<=10 then decide (n.i<(A:Int)) else if n.op<=13 then decide (n.g<((2 ^ A:Nat):Int)) else false
theorem Rh {A F:Nat} {n:Nd} (h:n.op<1\/21<n.op):qR A F n=false:=by rcases h with h | h <;> unfold qR <;> repeat (first | rw [if_pos (by omega)] | rw [if_neg (by omega)])
theorem PK {m:vY} {W:Nat} {n:Nd} {x y:BitVec 64} (h:n.op<1\/21<n.op):uR m W n x y=(0#64,false):=by unfold uR; repeat rw [if_neg (by omega)]
theorem mz {T W:Nat} {x y:gF} (h:∀ v,v<W->x (pt T v)= y (pt T v)) (hW:W<=64):tC T W x=tC T W y:=by
 refine cX λi _=>?_;rw [zM hW,zM hW]
 by_cases hi:i<W
 ·rw [h i hi]
 ·rw [decide_eq_false hi,ε,ε]
theorem Ox {rs:List zB} {T v:Nat} (hv:v<rs.length*T):pt T v ∈ rU rs T:=by unfold rU iO;exact χ.2 ⟨v,υ.2 hv,rfl⟩
theorem QD (rs:List zB) (A T g:Nat) (x y:gF) {p:Nat × Nat} (hp:p ∈ rU rs T):lC rs A T g x y (rs.length*T+1) p=lC rs A T g x y (rs.length*T) p:=by obtain⟨n,h1,h2⟩:=QC (rs:=rs) (A:=A) (T:=T) g x y;obtain⟨m,hm⟩:=Ah h1;rw [hm,vt h2 m p hp,show n+m+1=n+(m+1) by omega,vt h2 (m+1) p hp]
section
variable {rs : List zB} {A F T : Nat}
theorem VO (ok:j5 rs A F T) (hW:rs.length*T<=64) {g:Nat} (hg:1<=g/\g<2 ^ A) (x y:gF) :
  tA (zZ (pE rs (rU rs T) A F) g false) (wO (rs.length*T)) (tC T (rs.length*T) x) (tC T (rs.length*T) y) (rs.length*T+1)= tA (zZ (pE rs (rU rs T) A F) g false) (wO (rs.length*T)) (tC T (rs.length*T) x) (tC T (rs.length*T) y) (rs.length*T):=by
 have hl:(rU rs T).length=rs.length*T:=nT T _;have h1:1<=rs.length*T:=Aj ok.hR.1 ok.hT.1;have hm:=sq (F:=F) ok (l:=rU rs T) (by omega) (by omega);rw [hl] at hm;have hRl:(pE rs (rU rs T) A F).R.length=A:=by show (tP rs (rU rs T) A).length=A; simp [tP]
 have hk:∀ a,a<A->ZS rs T ((pE rs (rU rs T) A F).R.getD a []) λp q=>decide (vL rs a q=vL rs a p):=λa ha=>XW ha hW;rw [gP hm rfl hRl (by rw [hRl]; exact hg) hk,gP hm rfl hRl (by rw [hRl]; exact hg) hk];exact mz (λv hv=>QD rs A T g x y (Ox hv)) hW
theorem Xo (ok:j5 rs A F T) (hW:rs.length*T<=64) {n:Nd} {k:Int} (hn:zK n k=0) {x y:BitVec 64} {tx ty:gF} (hx:(xY n.op).1.x=true->x=tC T (rs.length*T) tx) (hy:(xY n.op).1.y=true->y=tC T (rs.length*T) ty) :
  uR (pE rs (rU rs T) A F) (rs.length*T) n x y=if qR A F n=true then(tC T (rs.length*T) (gA rs A T n tx ty),true) else(0#64,false):=by
 have hl:(rU rs T).length=rs.length*T:=nT T _;have h1:1<=rs.length*T:=Aj ok.hR.1 ok.hT.1;have hm:=sq (F:=F) ok (l:=rU rs T) (by omega) (by omega);rw [hl] at hm;have hRl:(pE rs (rU rs T) A F).R.length=A:=by show (tP rs (rU rs T) A).length=A; simp [tP]
 have hVl:(pE rs (rU rs T) A F).V.length=F:=by show (rG rs (rU rs T) F).length=F; simp [rG]
 have hk:∀ a,a<A->ZS rs T ((pE rs (rU rs T) A F).R.getD a []) λp q=>decide (vL rs a q=vL rs a p):=λa ha=>XW ha hW
 have hVg:∀ f,f<F->∀ i,((pE rs (rU rs T) A F).V.getD f 0).getLsbD i=(decide (i<rs.length*T)&& (aw rs (pt T i)).getLsbD f):=λf hf i=>by
  have e:(pE rs (rU rs T) A F).V.getD f 0=oN rs (rU rs T) f (rU rs T).length:=by show (rG rs (rU rs T) F).getD f 0=_;simp [rG,List.getD,hf]
  rw [e,hl,qc _ _ hW]
  by_cases hi:i<rs.length*T
  ·rw [ZO hi]
  ·rw [decide_eq_false hi,ε,ε]
 have hi0:n.op=3\/n.op=9\/n.op=10->0<=n.i:=λh=>by
  rcases h with h | h | h
  ·exact(mN hn (by rw [h]; rfl)).1
  ·exact(rZ hn (by rw [h]; rfl)).1
  ·exact(rZ hn (by rw [h]; rfl)).1
 have hg0:n.op=11\/n.op=12\/n.op=13->1<=n.g/\n.g<=15:=λh=>by
  have hgr:(xY n.op).1.gr=true:=by rcases h with h | h | h <;> rw [h] <;> rfl
  have h1:=(vU.1 hn).2.2.2.2;simp only [θ,hgr,xH,γ,decide_eq_false_iff_not] at h1;omega
 obtain⟨op,i,e,g,a,b⟩:=n;simp only at hi0 hg0 hx hy;generalize hm':pE rs (rU rs T) A F=m at *;generalize hWW:rs.length*T=W at *;have fin:∀ {p q:BitVec 64},(∀ v,v<64->p.getLsbD v=q.getLsbD v)->(p,true)= (q,true):=λh=>by rw [cX h]
 rcases rY op with rfl | rfl | rfl | rfl | rfl | rfl | rfl | rfl | rfl | rfl | rfl | rfl | rfl | rfl | rfl | rfl | rfl | rfl | rfl | rfl | rfl | h | h
 ·show (wO W,true)= (tC T W λ_=>true,true);rw [YR hW]
 ·show (0#64,true)= (tC T W λ_=>false,true);refine fin λv _=>?_;rw [zM hW,κ,ξ]
 ·have h0:=hi0 (.inl rfl);show (if i<(m.V.length:Int) then(m.V.getD i.toNat 0,true) else(0#64,false))= if decide (i<(F:Int))= true then(tC T W λp=>(aw rs p).getLsbD i.toNat,true) else(0#64,false);rw [hVl]
  by_cases hlt:i<(F:Int)
  ·rw [if_pos hlt,if_pos (decide_eq_true hlt)];refine fin λv _=>?_;rw [hVg i.toNat (by omega),zM hW]
  ·rw [if_neg hlt,if_neg (by simpa using hlt)]
 ·have hx:=hx rfl;show (wO W &&& ~~~x,true)= (tC T W λp=>!tx p,true);refine fin λv hv=>?_;rw [hx,π,ο,uL hW hv,zM hW,zM hW,decide_eq_true hv];cases decide (v<W) <;> simp
 ·have hx:=hx rfl;have hy:=hy rfl;show (x &&& y,true)= (tC T W λp=>tx p&&ty p,true);refine fin λv hv=>?_;rw [hx,hy,π,zM hW,zM hW,zM hW];cases decide (v<W) <;> simp
 ·have hx:=hx rfl;have hy:=hy rfl;show (x ||| y,true)= (tC T W λp=>tx p || ty p,true);refine fin λv hv=>?_;rw [hx,hy,τ,zM hW,zM hW,zM hW];cases decide (v<W) <;> simp
 ·have hx:=hx rfl;have hy:=hy rfl;show (wO W &&& ~~~x ||| y,true)= (tC T W λp=>!tx p || ty p,true);refine fin λv hv=>?_;rw [hx,hy,τ,π,ο,uL hW hv,zM hW,zM hW,zM hW,decide_eq_true hv];cases decide (v<W) <;> simp
 ·have hx:=hx rfl;have hy:=hy rfl;show (wO W &&& ~~~(x ^^^ y),true)= (tC T W λp=>tx p==ty p,true);refine fin λv hv=>?_;rw [hx,hy,π,ο,BitVec.getLsbD_xor,uL hW hv,zM hW,zM hW,zM hW,decide_eq_true hv];cases decide (v<W) <;> cases tx (pt T v) <;> cases ty (pt T v) <;> rfl
 ·have h0:=hi0 (.inr (.inl rfl));have hx:=hx rfl;show (if i<(m.R.length:Int) then(oF (m.R.getD i.toNat []) x,true) else(0#64,false))= if decide (i<(A:Int))= true then(tC T W (bW rs T i.toNat tx),true) else(0#64,false);rw [hRl]
  by_cases hlt:i<(A:Int)
  ·rw [if_pos hlt,if_pos (decide_eq_true hlt)];have:=xl (by omega) (hk i.toNat (by omega)) (s:=x) (x:=tx) λv hv=>by rw [hx,zM hW,decide_eq_true (by omega),γ]
   rw [this,hWW];rfl
  ·rw [if_neg hlt,if_neg (by simpa using hlt)]
 ·have h0:=hi0 (.inr (.inr rfl));have hx:=hx rfl;show (if i<(m.R.length:Int) then(au (m.R.getD i.toNat []) x,true) else(0#64,false))= if decide (i<(A:Int))= true then(tC T W λp=>!bW rs T i.toNat (λq=>!tx q) p,true) else(0#64,false);rw [hRl]
  by_cases hlt:i<(A:Int)
  ·rw [if_pos hlt,if_pos (decide_eq_true hlt)];have hkk:=hk i.toNat (by omega);have:=xl (by omega) hkk (s:= ~~~x) (x:=λq=>!tx q) λv hv=>by rw [hx,ο,zM hW,decide_eq_true (show v<64 by omega),decide_eq_true (show v<W by omega),γ,γ]
   unfold au;rw [this,hkk.1,hWW];refine fin λv hv=>?_;rw [π,ο,uL hW hv,zM hW,zM hW,decide_eq_true hv];show (decide (v<W)&& (true&&!(decide (v<W)&& bW rs T i.toNat (λq=>!tx q) (pt T v))))= _;cases decide (v<W) <;> simp
  ·rw [if_neg hlt,if_neg (by simpa using hlt)]
 ·have h0:=hg0 (.inl rfl);have hx:=hx rfl;show (if g<((2 ^ m.R.length:Nat):Int) then(oF (zZ m g.toNat false) x,true) else(0#64,false))= if decide (g<((2 ^ A:Nat):Int))= true then(tC T W (lU rs A T g.toNat tx),true) else(0#64,false);rw [hRl]
  by_cases hlt:g<((2 ^ A:Nat):Int)
  ·rw [if_pos hlt,if_pos (decide_eq_true hlt)];have hrel:=wg hm hWW hRl (g:=g.toNat) (by rw [hRl]; omega) false hk;have:=xl (by omega) hrel (s:=x) (x:=tx) λv hv=>by rw [hx,zM hW,decide_eq_true (by omega),γ]
   rw [this,hWW];refine congrArg (λz=>(z,true)) (mz (λv _=>?_) hW);rw [cz];rfl
  ·rw [if_neg hlt,if_neg (by simpa using hlt)]
 ·have h0:=hg0 (.inr (.inl rfl));have hx:=hx rfl;show (if g<((2 ^ m.R.length:Nat):Int) then(oF (zZ m g.toNat true) x,true) else(0#64,false))= if decide (g<((2 ^ A:Nat):Int))= true then(tC T W (NO rs A T g.toNat tx),true) else(0#64,false);rw [hRl]
  by_cases hlt:g<((2 ^ A:Nat):Int)
  ·rw [if_pos hlt,if_pos (decide_eq_true hlt)];have hrel:=wg hm hWW hRl (g:=g.toNat) (by rw [hRl]; omega) true hk;have:=xl (by omega) hrel (s:=x) (x:=tx) λv hv=>by rw [hx,zM hW,decide_eq_true (by omega),γ]
   rw [this,hWW];rfl
  ·rw [if_neg hlt,if_neg (by simpa using hlt)]
 ·have h0:=hg0 (.inr (.inr rfl));have hx:=hx rfl;have hy:=hy rfl;show (if g<((2 ^ m.R.length:Nat):Int) then(tA (zZ m g.toNat false) (wO W) x y W,true) else(0#64,false))= if decide (g<((2 ^ A:Nat):Int))= true then(tC T W (r7 rs A T g.toNat tx ty),true) else(0#64,false);rw [hRl]
  by_cases hlt:g<((2 ^ A:Nat):Int)
  ·rw [if_pos hlt,if_pos (decide_eq_true hlt),hx,hy,gP hm hWW hRl (by rw [hRl]; omega) hk];unfold r7;rw [hWW]
  ·rw [if_neg hlt,if_neg (by simpa using hlt)]
 all_goals first
  | rfl
  | (rw [Rh (by first | exact .inl h | exact .inr h),if_neg (by decide)]; exact PK (by first | exact .inl h | exact .inr h))
end
end Te
end Go.Pd

/- Part C7. -/
namespace Go.Pd
open Go Go.Proofs
open BitVec renaming isValue -> ZA
open Rs Fm Ru Te
namespace Te
def mA {α:Type} (L:Nat) (g h:Nat->α) (k:Nat):List α:=(List.range L).map λi=>if i<k then g i else h i
theorem Yv {α:Type} (L:Nat) (g h:Nat->α) (k:Nat):(mA L g h k).length=L:=by simp [mA]
theorem xb {α:Type} {L:Nat} (g h:Nat->α) (k:Nat) {i:Nat} (hi:i<L) (d:α):(mA L g h k).getD i d=if i<k then g i else h i:=by simp [mA,List.getD,hi]
theorem Yw {α:Type} (L:Nat) (g h:Nat->α) (k:Nat):(mA L g h k).set k (g k)= mA L g h (k+1):=by
 refine Ae (by simp [mA]) λi h1 h2=>?_;rw [List.getElem_set];simp only [mA,List.getElem_map,List.getElem_range]
 by_cases e:k=i
 ·subst e; rw [if_pos rfl,if_pos (by omega)]
 ·rw [if_neg e]
  by_cases hk:i<k
  ·rw [if_pos hk,if_pos (by omega)]
  ·rw [if_neg hk,if_neg (by omega)]
theorem fp {α:Type} {L:Nat} {g h:Nat->α} {k:Nat} (e:g k=h k):mA L g h k=mA L g h (k+1):=by
 unfold mA;refine ψ λi _=>?_
 by_cases hk:i<k
 ·rw [if_pos hk,if_pos (by omega)]
 ·rw [if_neg hk]
  by_cases e2:i=k
  ·subst e2; rw [if_pos (by omega),e]
  ·rw [if_neg (by omega)]
theorem fq {α:Type} (L:Nat) (g:Nat->α) (c:α):mA L g (λ_=>c) 0=List.replicate L c:=by refine Ae (by simp [mA]) λi h1 h2=>by simp [mA]
theorem Yu {α:Type} (L:Nat) (g h:Nat->α):mA L g h L=(List.range L).map g:=by refine ψ λf hf=>?_;rw [if_pos (υ.1 hf)]
def jm (op:Int):Bool:=(decide (5<=op)&& decide (op<=8)) || decide (op=13)
def okF (f:List Nd) (fv:Nat->Bool) (k:Nat):Bool:=(if 4<=(f.getD k vW).op then fv (f.getD k vW).x.toNat else true)&& (if jm (f.getD k vW).op=true then fv (f.getD k vW).y.toNat else true)
end Te
theorem Lu {m:vY} {f:List Nd} (hc:yW f=0) (hreq:xA prog 176 [m.d,.sl 6 (wP f)] (.int .i64 0)) {sv:Nat->BitVec 64} {fv:Nat->Bool}
  (hcall:∀ k,k<f.length->okF f fv k=true->∀ x y,((xY (f.getD k vW).op).1.x=true->x=sv (f.getD k vW).x.toNat)->((xY (f.getD k vW).op).1.y=true->y=sv (f.getD k vW).y.toNat) ->
   xA prog 177 [m.d,.agg (f.getD k vW).row,.int .u64 (ui x),.int .u64 (ui y)] (.wH [.int .u64 (ui (sv k)),.bool (fv k)]))
  (hno:∀ k,k<f.length->okF f fv k=false->sv k=0#64/\fv k=false) :
  xA prog 113 [m.d,.sl 6 (wP f)] (.wH [.sl 1 (us ((List.range f.length).map sv)),.int .i64 0]):=by
 obtain⟨c1,c2,c3⟩:=zF hc;have hn:0<f.length:=Ac.2 c1;unfold vY.d at hreq hcall ⊢;refine xI func113 IN λhf=>?_;refine zC ?_;refine .go (cr hreq) ?_;refine wA xM ?_
 refine xU (λk:Nat=>[(26,.int .i64 k),(25,.int .i64 f.length),(24,.sl 6 (wP f)),(8,.yD 2 1 f.length),(7,.yD 1 1 f.length),(2,.ref 0 3 0 0)])
  (λk=>⟨3,[(2,⟨1,rb (mA f.length fv (λ_=>false) k)⟩),(1,⟨1,us (mA f.length sv (λ_=>0#64) k)⟩),(0,⟨3,[[.int .i64 m.W,.sl 1 (us m.V),.sl 1 (rr m.R)]]⟩)]⟩)
  (λk=>k<=f.length) (λk=>f.length-k) 0 (Nat.zero_le _) ?_ ?_
 ·rw [fq,fq,<- yt,<- o5];exact wE
 intro k hk;refine xN mixed ?_;by_cases hkl:k<f.length
 case neg=>
  have hd:¬ ((k:Int)<(f.length:Int)):=by omega
  have hke:k=f.length:=by omega
  subst hke;rw [Yu,Yu];have hlen:((List.range f.length).map sv).length=f.length:=by simp
  generalize (List.range f.length).map sv=l at hlen ⊢;refine xG hd ?_;refine .drop (by simp) ?_;simp only [vw,uK];exact⟨rfl,⟨trivial,by decide,by simp,⟨1,us l⟩,rfl,rfl,by simp only [xT]; omega,by rw [<- hlen,<- xT,List.take_length],vD l⟩,trivial,trivial⟩
 have hd:((k:Int)<(f.length:Int)):=by omega
 have hcall:=hcall k hkl;have hno:=hno k hkl;have hnd:=c3 k hkl;have hg:=sG f hkl;have hux:=Sj (f.getD k vW).op;obtain⟨hox,hoy⟩:=nH hnd;obtain⟨⟨x,hx,hxk⟩,⟨y,hy,hyk⟩⟩:=u5 hnd;unfold okF at hcall hno;generalize f.getD k vW=p at hcall hno hnd hg hux hox hoy hx hy;obtain⟨op,i,e,g,px,py⟩:=p;simp only at hx hy;subst hx hy;have hrow:(Nd.row ⟨op,i,e,g,x,y⟩)= [.int .i64 op,.int .i64 i,.int .i64 e,.int .i64 g,.int .i64 x,.int .i64 y]:=rfl;rw [hrow] at hg hcall;have hxl:x<f.length:=by omega
 have hyl:y<f.length:=by omega
 have hxl':((x:Int)<(f.length:Int)):=by omega
 have hyl':((y:Int)<(f.length:Int)):=by omega
 have hSx:=xb sv (λ_=>0#64) k hxl 0#64;have hSy:=xb sv (λ_=>0#64) k hyl 0#64;have hBx:=xb fv (λ_=>false) k hxl false;have hBy:=xb fv (λ_=>false) k hyl false;have hSl:=Yv f.length sv (λ_=>0#64) k;have hBl:=Yv f.length fv (λ_=>false) k;have hSs:=Yw f.length sv (λ_=>0#64) k;have hBs:=Yw f.length fv (λ_=>false) k;have hSk:sv k=0#64->mA f.length sv (λ_=>0#64) k=mA f.length sv (λ_=>0#64) (k+1):=λh=>fp h;have hBk:fv k=false->mA f.length fv (λ_=>false) k=mA f.length fv (λ_=>false) (k+1):=λh=>fp h;generalize mA f.length sv (λ_=>0#64) k=S at hSx hSy hSl hSs hSk ⊢;generalize mA f.length fv (λ_=>false) k=B at hBx hBy hBl hBs hBk ⊢;simp only [Af] at hcall hno hux hox hoy;have gSx:=zX S (show x<S.length by omega);have gSy:=zX S (show y<S.length by omega);have gBx:=qt B (show x<B.length by omega);have gBy:=qt B (show y<B.length by omega)
 have hop:1<=op/\op<=21:=by have h2:=(vU.1 hnd).1;simp only at h2;refine Decidable.byContradiction λhh=>?_;rw [vN (by omega)] at h2;cases h2
 have hxu:(xY op).1.x=true->S.getD x 0#64=sv x:=λh=>by rw [hSx,if_pos (by have:=hox h; omega)]
 have hyu:(xY op).1.y=true->S.getD y 0#64=sv y:=λh=>by rw [hSy,if_pos (by have:=hoy h; omega)]
 have hfx:4<=op->B.getD x false=fv x:=λh=>by
  have hu:(xY op).1.x=true:=by rw [hux,decide_eq_true h,decide_eq_true hop.2]; rfl
  rw [hBx,if_pos (by have:=hox hu; omega)]
 have hby:jm op=true->(xY op).1.y=true:=λh=>by
  unfold jm at h;simp only [Bool.or_eq_true,δ,decide_eq_true_eq] at h;have:op=5\/op=6\/op=7\/op=8\/op=13:=by omega
  rcases this with rfl | rfl | rfl | rfl | rfl <;> rfl
 have hfy:jm op=true->B.getD y false=fv y:=λh=>by rw [hBy,if_pos (by have:=hoy (hby h); omega)]
 have hc':=λh=>hcall h (S.getD x 0#64) (S.getD y 0#64) hxu hyu;clear hcall hxu hyu hSx hSy hBx hBy;generalize S.getD x 0#64=sx at gSx hc';generalize S.getD y 0#64=sy at gSy hc';generalize B.getD x false=bx at gBx hfx;generalize B.getD y false=by' at gBy hfy
 have hwu:IntKind.i64.wrap ((k:Int)+ 1)= ((k+1:Nat):Int):=wrap_i64 (by omega);have gSk:=zX S (show k<S.length by omega);have gBk:=qt B (show k<B.length by omega);by_cases h4:4<=op
 case neg=>
  have h5:¬ (5:Int)<=op:=by omega
  have h13:(op==13)= false:=by rw [beq_eq_false_iff_ne]; omega
  have hb:jm op=false:=by unfold jm; rw [decide_eq_false h5,decide_eq_false (show ¬ op=13 by omega)]; rfl
  simp only [simprocAttr,-ZA,↓zU,↓zD,zV,zT,zW,hd,hwu,xM,hg,xT,wZ,hSl,hBl,hxl',hyl',gSx,gSy,gBx,gBy,gSk,gBk,cH,h4,h5,h13]
  (repeat refine sd ?_)
  refine .go (xP.yP (hc' (by rw [if_neg h4,hb]; rfl)) (by simp [D.xR,D.xF])) ?_;simp only [simprocAttr,-ZA,↓zU,↓zD,zV,zT,zW,hd,hwu,xM,hg,xT,wZ,hSl,hBl,hxl',hyl',gSx,gSy,gBx,gBy,gSk,gBk,cH,h4,h5,h13,iK,qu,hSs,hBs]
  (repeat refine sd ?_)
  refine⟨k+1,by omega,?_,by omega⟩;exact qW [] [2,1,0] yE vM
 have hfx:=hfx h4;subst hfx;rw [if_pos h4] at hc' hno
 cases hb:jm op with
 | false=>
  rw [hb,if_neg (by decide),μ] at hc' hno
  have h13:(op==13)= false:=by rw [beq_eq_false_iff_ne]; rintro rfl; cases hb
  have h58:¬ (5<=op/\op<=8):=by rintro ⟨z1,z2⟩; unfold jm at hb; rw [decide_eq_true z1,decide_eq_true z2] at hb; cases hb
  by_cases h5:5<=op
  ·have h8:¬ op<=8:=by omega
   cases hf:fv x with
   | true=>
    simp only [simprocAttr,-ZA,↓zU,↓zD,zV,zT,zW,hd,hwu,xM,hg,xT,wZ,hSl,hBl,hxl',hyl',gSx,gSy,gBx,gBy,gSk,gBk,cH,h4,h5,h8,h13,hf]
    (repeat refine sd ?_)
    refine .go (cr (hc' hf)) ?_;simp only [simprocAttr,-ZA,↓zU,↓zD,zV,zT,zW,hd,hwu,xM,hg,xT,wZ,hSl,hBl,hxl',hyl',gSx,gSy,gBx,gBy,gSk,gBk,cH,h4,h5,h8,h13,hf,iK,qu,hSs,hBs]
    (repeat refine sd ?_)
    refine⟨k+1,by omega,?_,by omega⟩;exact qW [] [2,1,0] yE vM
   | false=>
    simp only [simprocAttr,-ZA,↓zU,↓zD,zV,zT,zW,hd,hwu,xM,hg,xT,wZ,hSl,hBl,hxl',hyl',gSx,gSy,gBx,gBy,gSk,gBk,cH,h4,h5,h8,h13,hf]
    (repeat refine sd ?_)
    obtain⟨q1,q2⟩:=hno hf;rw [hSk q1,hBk q2];refine⟨k+1,by omega,?_,by omega⟩;exact qW [] [2,1,0] yE vM
  ·cases hf:fv x with
   | true=>
    simp only [simprocAttr,-ZA,↓zU,↓zD,zV,zT,zW,hd,hwu,xM,hg,xT,wZ,hSl,hBl,hxl',hyl',gSx,gSy,gBx,gBy,gSk,gBk,cH,h4,h5,h13,hf]
    (repeat refine sd ?_)
    refine .go (cr (hc' hf)) ?_;simp only [simprocAttr,-ZA,↓zU,↓zD,zV,zT,zW,hd,hwu,xM,hg,xT,wZ,hSl,hBl,hxl',hyl',gSx,gSy,gBx,gBy,gSk,gBk,cH,h4,h5,h13,hf,iK,qu,hSs,hBs]
    (repeat refine sd ?_)
    refine⟨k+1,by omega,?_,by omega⟩;exact qW [] [2,1,0] yE vM
   | false=>
    simp only [simprocAttr,-ZA,↓zU,↓zD,zV,zT,zW,hd,hwu,xM,hg,xT,wZ,hSl,hBl,hxl',hyl',gSx,gSy,gBx,gBy,gSk,gBk,cH,h4,h5,h13,hf]
    (repeat refine sd ?_)
    obtain⟨q1,q2⟩:=hno hf;rw [hSk q1,hBk q2];refine⟨k+1,by omega,?_,by omega⟩;exact qW [] [2,1,0] yE vM
 | true=>
  have hfy:=hfy hb;subst hfy;rw [hb,if_pos rfl] at hc' hno
  by_cases h13:op=13
  ·subst h13
   cases hf:fv x with
   | false=>
    simp only [simprocAttr,-ZA,↓zU,↓zD,zV,zT,zW,hd,hwu,xM,hg,xT,wZ,hSl,hBl,hxl',hyl',gSx,gSy,gBx,gBy,gSk,gBk,cH,hf]
    (repeat refine sd ?_)
    obtain⟨q1,q2⟩:=hno (by rw [hf]; rfl);rw [hSk q1,hBk q2];refine⟨k+1,by omega,?_,by omega⟩;exact qW [] [2,1,0] yE vM
   | true=>
    cases hf2:fv y with
    | true=>
     simp only [simprocAttr,-ZA,↓zU,↓zD,zV,zT,zW,hd,hwu,xM,hg,xT,wZ,hSl,hBl,hxl',hyl',gSx,gSy,gBx,gBy,gSk,gBk,cH,hf,hf2]
     (repeat refine sd ?_)
     refine .go (xP.yP (hc' (by rw [hf,hf2]; rfl)) (by simp [D.xR,D.xF])) ?_;simp only [simprocAttr,-ZA,↓zU,↓zD,zV,zT,zW,hd,hwu,xM,hg,xT,wZ,hSl,hBl,hxl',hyl',gSx,gSy,gBx,gBy,gSk,gBk,cH,hf,hf2,iK,qu,hSs,hBs]
     (repeat refine sd ?_)
     refine⟨k+1,by omega,?_,by omega⟩;exact qW [] [2,1,0] yE vM
    | false=>
     simp only [simprocAttr,-ZA,↓zU,↓zD,zV,zT,zW,hd,hwu,xM,hg,xT,wZ,hSl,hBl,hxl',hyl',gSx,gSy,gBx,gBy,gSk,gBk,cH,hf,hf2]
     (repeat refine sd ?_)
     obtain⟨q1,q2⟩:=hno (by rw [hf,hf2]; rfl);rw [hSk q1,hBk q2];refine⟨k+1,by omega,?_,by omega⟩;exact qW [] [2,1,0] yE vM
  ·have h58:5<=op/\op<=8:=by unfold jm at hb; rw [decide_eq_false h13,η,δ] at hb; exact⟨of_decide_eq_true hb.1,of_decide_eq_true hb.2⟩
   have h5:=h58.1;have h8:=h58.2
   cases hf:fv x with
   | false=>
    simp only [simprocAttr,-ZA,↓zU,↓zD,zV,zT,zW,hd,hwu,xM,hg,xT,wZ,hSl,hBl,hxl',hyl',gSx,gSy,gBx,gBy,gSk,gBk,cH,h4,h5,h8,hf]
    (repeat refine sd ?_)
    obtain⟨q1,q2⟩:=hno (by rw [hf]; rfl);rw [hSk q1,hBk q2];refine⟨k+1,by omega,?_,by omega⟩;exact qW [] [2,1,0] yE vM
   | true=>
    cases hf2:fv y with
    | true=>
     simp only [simprocAttr,-ZA,↓zU,↓zD,zV,zT,zW,hd,hwu,xM,hg,xT,wZ,hSl,hBl,hxl',hyl',gSx,gSy,gBx,gBy,gSk,gBk,cH,h4,h5,h8,hf,hf2]
     (repeat refine sd ?_)
     refine .go (xP.yP (hc' (by rw [hf,hf2]; rfl)) (by simp [D.xR,D.xF])) ?_;simp only [simprocAttr,-ZA,↓zU,↓zD,zV,zT,zW,hd,hwu,xM,hg,xT,wZ,hSl,hBl,hxl',hyl',gSx,gSy,gBx,gBy,gSk,gBk,cH,h4,h5,h8,hf,hf2,iK,qu,hSs,hBs]
     (repeat refine sd ?_)
     refine⟨k+1,by omega,?_,by omega⟩;exact qW [] [2,1,0] yE vM
    | false=>
     simp only [simprocAttr,-ZA,↓zU,↓zD,zV,zT,zW,hd,hwu,xM,hg,xT,wZ,hSl,hBl,hxl',hyl',gSx,gSy,gBx,gBy,gSk,gBk,cH,h4,h5,h8,hf,hf2]
     (repeat refine sd ?_)
     obtain⟨q1,q2⟩:=hno (by rw [hf,hf2]; rfl);rw [hSk q1,hBk q2];refine⟨k+1,by omega,?_,by omega⟩;exact qW [] [2,1,0] yE vM
open Rs Fm Ru Te
theorem UU {m:vY} {W:Nat} (ok:qJ m W) {f:List Nd} (hc:yW f=0) (hfr:(tB .andNot .i64 (zP f:Int) 15 != 0)= false) (hft:sO f m.R.length m.V.length=true):xA prog 176 [m.d,.sl 6 (wP f)] (.int .i64 0):=by have h1:=mq ok;have h2:=eQ f;have h3:=VD f;have h4:=SA f m.R.length m.V.length;rw [hc] at h2;rw [hft] at h4;unfold vY.d at h1 ⊢;refine xI func176 Iz λhf=>?_;refine zC ?_;refine .go (cr h1) ?_;refine xJ ?_;refine .go (cr h2) ?_;refine xJ ?_;refine .go (cr h3) ?_;refine sT hfr yZ xT ?_;refine .go (cr h4) ?_;refine xJ ?_;exact .dv
namespace Te
def rP (A F:Nat):Tr->Bool
 | .nil=>true
 | .nd op i e g x y=>qR A F ⟨op,i,e,g,0,0⟩&& (rP A F x&&rP A F y)
def yg (rs:List zB) (A F T:Nat) (t:Tr):BitVec 64:=if rP A F t=true then tC T (rs.length*T) (bl rs A T t) else 0#64
def Pj (rs:List zB) (A F T:Nat) (t:Tr):gF:=if rP A F t=true then bl rs A T t else λ_=>false
theorem RY (rs:List zB) (A F T:Nat) (hW:rs.length*T<=64) (t:Tr):yg rs A F T t=tC T (rs.length*T) (Pj rs A F T t):=by
 unfold yg Pj
 split
 ·rfl
 ·refine cX λi _=>?_;rw [zM hW,κ,ξ]
theorem pz {A F:Nat} {op i e g:Int} (h:qR A F ⟨op,i,e,g,0,0⟩= true):1<=op/\op<=13:=by
 unfold qR at h;simp only at h
 refine⟨Decidable.byContradiction λhh=>?_,Decidable.byContradiction λhh=>?_⟩
 ·rw [if_pos (by omega)] at h; cases h
 ·rw [if_neg (by omega),if_neg (by omega),if_neg (by omega),if_neg (by omega),if_neg (by omega)] at h; cases h
theorem YW {op:Int} (h1:1<=op) (h2:op<=13):(xY op).1.y=jm op/\(xY op).1.x=decide (4<=op):=by
 have:op=1\/op=2\/op=3\/op=4\/op=5\/op=6\/op=7\/op=8\/op=9\/op=10\/op=11\/op=12\/op=13:=by omega
 rcases this with rfl | rfl | rfl | rfl | rfl | rfl | rfl | rfl | rfl | rfl | rfl | rfl | rfl <;> exact⟨rfl,rfl⟩
end Te
theorem YZ {rs:List zB} {A F T:Nat} (ok:j5 rs A F T) (hW:rs.length*T<=64) {f:List Nd} (hc:yW f=0) (hfr:(tB .andNot .i64 (zP f:Int) 15 != 0)= false) (hft:sO f A F=true) :
  xA prog 54 [(pE rs (rU rs T) A F).d,.sl 6 (wP f)] (.wH [.int .u64 (ui (yg rs A F T (mV f))),.int .i64 0]):=by
 have hl:(rU rs T).length=rs.length*T:=nT T _;have h1:1<=rs.length*T:=Aj ok.hR.1 ok.hT.1;have hm:=sq (F:=F) ok (l:=rU rs T) (by omega) (by omega);rw [hl] at hm;have hRl:(pE rs (rU rs T) A F).R.length=A:=by show (tP rs (rU rs T) A).length=A; simp [tP]
 have hVl:(pE rs (rU rs T) A F).V.length=F:=by show (rG rs (rU rs T) F).length=F; simp [rG]
 obtain⟨c1,c2,c3⟩:=zF hc;have hn:0<f.length:=Ac.2 c1;have hreq:=UU hm hc hfr (by rw [hRl,hVl]; exact hft);have hS:=Lu (sv:=λk=>yg rs A F T (tree f k)) (fv:=λk=>rP A F (tree f k)) hc hreq (λk hk hok x y hx hy=>?_) λk hk hno=>?_
 rotate_left
 ·have hnd:=c3 k hk;have ht:=sH c3 hk;unfold okF at hok;dsimp only at hok;generalize f.getD k vW=n at hnd ht hok hx hy ⊢;rw [RY rs A F T hW] at hx hy
  have hcom:n.op=13->n.g<(2 ^ (pE rs (rU rs T) A F).R.length:Nat)->tA (zZ (pE rs (rU rs T) A F) n.g.toNat false) (wO (rs.length*T)) x y (rs.length*T+1)= tA (zZ (pE rs (rU rs T) A F) n.g.toNat false) (wO (rs.length*T)) x y (rs.length*T):=λh13 hg=>by
   have hu:(xY n.op).1.x=true/\(xY n.op).1.y=true/\(xY n.op).1.gr=true:=by rw [h13]; exact⟨rfl,rfl,rfl⟩
   have h1:=(vU.1 hnd).2.2.2.2;simp only [θ,hu.2.2,xH,γ,decide_eq_false_iff_not] at h1;rw [hRl] at hg;rw [hx hu.1,hy hu.2.1];exact VO ok hW (by omega) _ _
  have hv:=PL hm hnd (x:=x) (y:=y) hcom;have hs:=Xo ok hW (F:=F) hnd hx hy
  have key:(uR (pE rs (rU rs T) A F) (rs.length*T) n x y)= (yg rs A F T (tree f k),rP A F (tree f k)):=by
   rw [hs,ht];unfold yg;show _=(if (qR A F ⟨n.op,n.i,n.e,n.g,0,0⟩&& (rP A F (if (xY n.op).1.x=true then tree f n.x.toNat else .nil)&& rP A F (if (xY n.op).1.y=true then tree f n.y.toNat else .nil)))= true then _ else _,qR A F ⟨n.op,n.i,n.e,n.g,0,0⟩&& (rP A F (if (xY n.op).1.x=true then tree f n.x.toNat else .nil)&& rP A F (if (xY n.op).1.y=true then tree f n.y.toNat else .nil)));have hst:qR A F ⟨n.op,n.i,n.e,n.g,0,0⟩= qR A F n:=rfl;rw [hst]
   cases hst2:qR A F n with
   | false=>rfl
   | true=>
    obtain⟨o1,o2⟩:=pz (hst.trans hst2);obtain⟨uy,ux⟩:=YW o1 o2;rw [<- uy] at hok
    have fx:(xY n.op).1.x=true->rP A F (tree f n.x.toNat)= true:=λh=>by rw [ux,decide_eq_true_iff] at h;rw [if_pos h,δ] at hok;exact hok.1
    have fy:(xY n.op).1.y=true->rP A F (tree f n.y.toNat)= true:=λh=>by rw [if_pos h,δ] at hok;exact hok.2
    have fx':rP A F (if (xY n.op).1.x=true then tree f n.x.toNat else .nil)= true:=by
     split
     ·rename_i h; exact fx h
     ·rfl
    have fy':rP A F (if (xY n.op).1.y=true then tree f n.y.toNat else .nil)= true:=by
     split
     ·rename_i h; exact fy h
     ·rfl
    rw [fx',fy',if_pos rfl,if_pos (show (true&&(true&&true))= true from rfl)];refine Prod.ext ?_ rfl;refine congrArg (tC T (rs.length*T)) ?_;show _=gA rs A T ⟨n.op,n.i,n.e,n.g,0,0⟩ _ _
    refine wm rfl rfl rfl (λh=>?_) λh=>?_
    ·rw [if_pos h,Pj,if_pos (fx h)]
    ·rw [if_pos h,Pj,if_pos (fy h)]
  rw [key] at hv;exact hv
 ·have ht:=sH c3 hk;unfold okF at hno;dsimp only at hno;generalize f.getD k vW=n at ht hno
  have hf:rP A F (tree f k)= false:=by
   rw [ht];show (qR A F ⟨n.op,n.i,n.e,n.g,0,0⟩&& (rP A F (if (xY n.op).1.x=true then tree f n.x.toNat else .nil)&& rP A F (if (xY n.op).1.y=true then tree f n.y.toNat else .nil)))= false
   cases hst:qR A F ⟨n.op,n.i,n.e,n.g,0,0⟩ with
   | false=>rfl
   | true=>
    obtain⟨o1,o2⟩:=pz hst;obtain⟨uy,ux⟩:=YW o1 o2;rw [<- uy] at hno;rw [γ]
    by_cases h4:4<=n.op
    ·rw [if_pos h4] at hno;rw [if_pos (by rw [ux,decide_eq_true h4])]
     cases hy:(xY n.op).1.y with
     | true=>rw [hy,if_pos rfl] at hno; rw [if_pos rfl]; exact hno
     | false=>rw [hy,if_neg (by decide),μ] at hno; rw [hno]; rfl
    ·rw [if_neg h4] at hno
     cases hy:(xY n.op).1.y with
     | true=>rw [hy,if_pos rfl,γ] at hno; rw [if_pos rfl,hno,κ]
     | false=>rw [hy] at hno; cases hno
  exact⟨by unfold yg; rw [hf,if_neg (by decide)],hf⟩
 have hlast:((List.range f.length).map λk=>yg rs A F T (tree f k)).getD (f.length-1) 0=yg rs A F T (mV f):=by
  have:f.length-1<f.length:=by omega
  simp [List.getD,this,mV]
 have hlen:((List.range f.length).map λk=>yg rs A F T (tree f k)).length=f.length:=by simp
 generalize ((List.range f.length).map λk=>yg rs A F T (tree f k))= l at hS hlast hlen;have hg:=zX l (show f.length-1<l.length by omega);rw [hlast] at hg;have hw:IntKind.i64.wrap ((l.length:Int)-1)= ((f.length-1:Nat):Int):=by rw [hlen,wrap_i64 (by omega)]; omega
 have hlt:((f.length-1:Nat):Int)<(l.length:Int):=by omega
 unfold vY.d at hS ⊢;refine xI func54 FR λhf=>?_;refine zC ?_;refine .go (cr hS) ?_;refine uC xT hw hg hlt ?_;exact .drop (by simp) (by simp [vw,uK])
open Rs Fm Ru Te
namespace Te
def Pf (rs:List zB) (t:Nat):List zB:=rs.map λr=>⟨[r.loc.getD t []],[r.yi.getD t 0]⟩
section
variable {rs : List zB} {A F T t : Nat}
theorem Oh {i:Nat} (hi:i<rs.length):(Pf rs t).getD i pH=⟨[(rs.getD i pH).loc.getD t []],[(rs.getD i pH).yi.getD t 0]⟩:=by simp [Pf,List.getD,hi]
theorem Oj {a i:Nat} (hi:i<rs.length):vL (Pf rs t) a (i,0)= vL rs a (i,t):=by unfold vL;simp only [Oh hi];rfl
theorem mG {R i:Nat} (hi:i<R):(wX R t).getD i (0,0)= (i,t):=by simp [wX,List.getD,hi]
theorem kV (a:Nat) (x:Int):∀ k,k<=rs.length->Ru.pG (Pf rs t) (wX rs.length 0) a x k=Ru.pG rs (wX rs.length t) a x k
 | 0,_=>rfl
 | k+1,h=>by unfold Ru.pG;rw [kV a x k (by omega),mG (by omega),mG (by omega),Oj (by omega)]
end
end Te
open Rs Fm Ru Te Kb
namespace Kb
def vQ (sts:List (List (BitVec 64))) (i:Nat):List (BitVec 64):=sts.getD i []
def b9 (xW:List (BitVec 64)) (sts:List (List (BitVec 64))) (t a w:Nat):Nat:=(List.range sts.length).findIdx λv=>decide (uQ xW (vQ sts v) a t=uQ xW (vQ sts w) a t)
def zA (xW:List (BitVec 64)) (sts:List (List (BitVec 64))) (t:Nat):List zB:=(List.range sts.length).map λw=>⟨[(List.range xW.length).map λa=>((b9 xW sts t a w:Nat):Int)],[(vQ sts w).getD t 0]⟩
section
variable {xW : List (BitVec 64)} {sts : List (List (BitVec 64))} {t : Nat}
theorem iW : (zA xW sts t).length=sts.length:=by simp [zA]
theorem zj {i:Nat} (hi:i<sts.length):(zA xW sts t).getD i pH=⟨[(List.range xW.length).map λa=>((b9 xW sts t a i:Nat):Int)],[(vQ sts i).getD t 0]⟩:=by simp [zA,List.getD,hi]
theorem bR {n:Nat} {q:Nat->Bool} (h:∃ i,i<n/\q i=true):(List.range n).findIdx q<n/\q ((List.range n).findIdx q)= true:=by obtain⟨i,hi,hq⟩:=h;have h1:(List.range n).findIdx q<(List.range n).length:=List.findIdx_lt_length.2 ⟨i,υ.2 hi,hq⟩;refine⟨by simpa using h1,?_⟩;have:=List.findIdx_getElem (p:=q) (w:=h1);simpa using this
theorem fj {a w:Nat} (hw:w<sts.length):b9 xW sts t a w<sts.length/\uQ xW (vQ sts (b9 xW sts t a w)) a t=uQ xW (vQ sts w) a t:=by have:=bR (n:=sts.length) (q:=λv=>decide (uQ xW (vQ sts v) a t=uQ xW (vQ sts w) a t)) ⟨w,hw,by simp⟩;refine⟨this.1,?_⟩;have h2:=this.2;simp only [decide_eq_true_eq] at h2;exact h2
theorem Qc {a v w:Nat} (hv:v<sts.length) (hw:w<sts.length):b9 xW sts t a v=b9 xW sts t a w ↔ uQ xW (vQ sts v) a t=uQ xW (vQ sts w) a t:=by
 constructor
 ·intro h;rw [<- (fj (xW:=xW) (t:=t) (a:=a) hv).2,<- (fj (xW:=xW) (t:=t) (a:=a) hw).2,h]
 ·intro h;unfold b9;rw [h]
theorem xg {a v w:Nat} (ha:a<xW.length) (hv:v<sts.length) (hw:w<sts.length):vL (zA xW sts t) a (v,0)= vL (zA xW sts t) a (w,0) ↔ uQ xW (vQ sts v) a t=uQ xW (vQ sts w) a t:=by unfold vL;simp only [zj hv,zj hw];rw [<- Qc hv hw];simp [List.getD,ha];omega
theorem Xk {w:Nat} (hw:w<sts.length):aw (zA xW sts t) (w,0)= (vQ sts w).getD t 0:=by unfold aw;simp only [zj hw];rfl
theorem Xl : rU (zA xW sts t) 1=wX sts.length 0:=by unfold rU iO wX;rw [iW,Nat.mul_one];refine ψ λi _=>?_;rw [Nat.div_one,Nat.mod_one]
theorem PD {F:Nat} (hA:xW.length<=4) (hF:F<=8) (hR:1<=sts.length/\sts.length<=64) (hv:∀ w,w<sts.length->(vQ sts w).getD t 0 >>> F=0#64):j5 (zA xW sts t) xW.length F 1 where
 hA:=hA
 hF:=hF
 hT:=⟨by omega,by omega⟩
 hR:=by rw [iW]; exact hR
 hP:=by rw [iW]; omega
 loc:=λr hr=>by simp only [zA,χ] at hr;obtain⟨i,_,rfl⟩:=hr;rfl
 yi:=λr hr=>by simp only [zA,χ] at hr;obtain⟨i,_,rfl⟩:=hr;rfl
 row:=λr hr l hl=>by simp only [zA,χ] at hr;obtain⟨i,_,rfl⟩:=hr;simp only [Ad] at hl;subst hl;simp
 val:=λr hr x hx=>by simp only [zA,χ,υ] at hr;obtain⟨i,hi,rfl⟩:=hr;simp only [Ad] at hx;subst hx;exact hv i hi
end
def lB (xW:List (BitVec 64)) (sts:List (List (BitVec 64))) (t F:Nat):D:=rh (zA xW sts t) (wX sts.length 0) xW.length F
end Kb
theorem OG {xW:List (BitVec 64)} {sts:List (List (BitVec 64))} {t a v w:Nat} (ha:a<xW.length) (hv:v<sts.length) (hw:w<sts.length) :
  decide ((uQ xW (vQ sts w) a t).map ui=(uQ xW (vQ sts v) a t).map ui)= decide (vL (zA xW sts t) a (v,0)= vL (zA xW sts t) a (w,0)):=by
 have h1:=xg (xW:=xW) (sts:=sts) (t:=t) ha hv hw
 have h2:(uQ xW (vQ sts w) a t).map ui=(uQ xW (vQ sts v) a t).map ui ↔ uQ xW (vQ sts v) a t=uQ xW (vQ sts w) a t:=⟨λh=>((List.map_inj_right λx y=>ZP.1).1 h).symm,λh=>by rw [h]⟩
 rw [ζ,decide_eq_true_eq,decide_eq_true_eq,h2,h1]
end Go.Pd
