/- Part C4. -/
import Derived.Test.YtndfaefmmcoapaaGreatGeC1
import Derived.Test.YtndfaefmmcoapaaGreatGeP7
import Derived.Test.YtndfaefmmcoapaaGreatGeSC
set_option linter.unusedSectionVars false
set_option linter.unusedVariables false
set_option linter.unusedSimpArgs false
set_option linter.defProp false
set_option maxRecDepth 20000
set_option maxHeartbeats 1000000
open Go.Proofs.Tryz
open Bool renaming true_and->γ,and_eq_true->δ,false_and->ε,eq_iff_iff->ζ,or_false->η,or_eq_false_iff->θ,and_false->κ,and_true->μ,eq_false_iff->ν
open BitVec renaming getLsbD_zero->ξ,getLsbD_not->ο,getLsbD_and->π,getLsbD_or->τ
open List renaming mem_range->υ,mem_map->χ,map_congr_left->ψ,any_eq_true->ω,all_eq_true->Aa,getElem?_eq_getElem->Ab,length_pos_iff->Ac,mem_singleton->Ad,ext_getElem->Ae
open Int renaming toNat_natCast->Af,eq_ofNat_of_zero_le->Ag
open Nat renaming exists_eq_add_of_le->Ah,shiftRight_eq_div_pow->Ai,mul_pos->Aj
namespace Go.Pd
open Go Go.Proofs
open BitVec renaming isValue -> ZA
open Rs Fm Ru Te
namespace Ru
def uQ (m:vZ) (W:Nat) (n:Nd) (x y:BitVec 64):BitVec 64 × Bool:=
 if n.op=1 then(wM W,true) else if n.op=2 then(0#64,true) else if n.op=3 then(if n.i<m.V.length then(m.V.getD n.i.toNat 0,true) else(0#64,false)) else if n.op=4 then(wM W &&& ~~~x,true)
 else if n.op=5 then(x &&& y,true) else if n.op=6 then(x ||| y,true) else if n.op=7 then(wM W &&& ~~~x ||| y,true) else if n.op=8 then(wM W &&& ~~~(x ^^^ y),true)
 else if n.op=9 then(if n.i<m.R.length then(oG (m.R.getD n.i.toNat []) x,true) else(0#64,false)) else if n.op=10 then(if n.i<m.R.length then(bd (m.R.getD n.i.toNat []) x,true) else(0#64,false))
 else if n.op=11 then(if n.g<(2 ^ m.R.length:Nat) then(oG (yA m n.g.toNat false) x,true) else(0#64,false)) else if n.op=12 then(if n.g<(2 ^ m.R.length:Nat) then(oG (yA m n.g.toNat true) x,true) else(0#64,false))
 else if n.op=13 then(if n.g<(2 ^ m.R.length:Nat) then(sU (yA m n.g.toNat false) (wM W) x y W,true) else(0#64,false)) else(0#64,false)
theorem Pr {W:Nat} (h1:1<=W) (h2:W<=64):18446744073709551615#64 >>> (64-W)= wM W:=by
 have:∀ W,W<65->1<=W->18446744073709551615#64 >>> (64-W)= wM W:=by decide
 exact this W (by omega) h1
end Ru
theorem PH {m:vZ} {W:Nat} (ok:qG m W) {n:Nd} {k:Int} (hn:zP n k=0) {x y:BitVec 64} (hcom:n.op=13->n.g<(2 ^ m.R.length:Nat)->sU (yA m n.g.toNat false) (wM W) x y (W+1)= sU (yA m n.g.toNat false) (wM W) x y W) :
  xA prog 177 [m.d,.agg n.row,.int .u64 (ui x),.int .u64 (ui y)] (.wF [.int .u64 (ui (uQ m W n x y).1),.bool (uQ m W n x y).2]):=by
 obtain⟨W1,W64⟩:=ok.hW;have hR4:=ok.hR;have hV8:=ok.hV;have hw:IntKind.i64.wrap (64-m.W)= ((64-W:Nat):Int):=by rw [ok.w,wrap_i64 (by omega)]; omega
 have hfull:(18446744073709551615:Int)= ui 18446744073709551615#64:=rfl;have hall:=Pr W1 W64
 have hi0:n.op=3\/n.op=9\/n.op=10->0<=n.i:=λh=>by
  rcases h with h | h | h
  ·exact(mR hn (by rw [h]; rfl)).1
  ·exact(rU hn (by rw [h]; rfl)).1
  ·exact(rU hn (by rw [h]; rfl)).1
 have hg0:n.op=11\/n.op=12\/n.op=13->1<=n.g/\n.g<=15:=λh=>by
  have hgr:(xY n.op).1.gr=true:=by rcases h with h | h | h <;> rw [h] <;> rfl
  have h1:=(vU.1 hn).2.2.2.2;simp only [θ,hgr,xG,γ,decide_eq_false_iff_not] at h1;omega
 have hsh:=tj (k:=m.R.length) (by omega);obtain⟨op,i,e,g,a,b⟩:=n;simp only at hi0 hg0 hcom;have hrow:(Nd.row ⟨op,i,e,g,a,b⟩)= [.int .i64 op,.int .i64 i,.int .i64 e,.int .i64 g,.int .i64 a,.int .i64 b]:=rfl;rw [hrow];unfold vZ.d
 rcases rV op with rfl | rfl | rfl | rfl | rfl | rfl | rfl | rfl | rfl | rfl | rfl | rfl | rfl | rfl | rfl | rfl | rfl | rfl | rfl | rfl | rfl | h | h
 ·rw [show uQ m W ⟨1,i,e,g,a,b⟩ x y=(wM W,true) from rfl,<- hall];refine xI func177 pC λhf=>?_;refine vR hw ?_;exact .drop (by simp) (by simp [vw,vC])
 ·rw [show uQ m W ⟨2,i,e,g,a,b⟩ x y=(0#64,true) from rfl];refine xI func177 pC λhf=>?_;refine vR hw ?_;exact .drop (by simp) (by simp [vw,vC])
 ·have h0:=hi0 (.inl rfl)
  by_cases hlt:i<(m.V.length:Int)
  ·have hv:uQ m W ⟨3,i,e,g,a,b⟩ x y=(m.V.getD i.toNat 0,true):=if_pos hlt;have hge:¬ (m.V.length:Int)<=i:=by omega
   obtain⟨j,rfl⟩:=Ag h0;have hg:=yF m.V (show j<m.V.length by omega);rw [Af] at hv;rw [hv];generalize m.V.getD j 0=z at hg;refine xI func177 pC λhf=>?_;refine uC hw xT hge hg ?_;exact .drop (by simp) (by simp [vw,vC])
  ·have hv:uQ m W ⟨3,i,e,g,a,b⟩ x y=(0#64,false):=if_neg hlt;have hge:(m.V.length:Int)<=i:=by omega
   rw [hv];refine xI func177 pC λhf=>?_;refine rF hw xT hge ?_;exact .drop (by simp) (by simp [vw,vC])
 ·rw [show uQ m W ⟨4,i,e,g,a,b⟩ x y=(wM W &&& ~~~x,true) from rfl,<- hall];refine xI func177 pC λhf=>?_;refine vR hw ?_;exact .drop (by simp) (by simp [vw,vC])
 ·rw [show uQ m W ⟨5,i,e,g,a,b⟩ x y=(x &&& y,true) from rfl];refine xI func177 pC λhf=>?_;refine vR hw ?_;exact .drop (by simp) (by simp [vw,vC])
 ·rw [show uQ m W ⟨6,i,e,g,a,b⟩ x y=(x ||| y,true) from rfl];refine xI func177 pC λhf=>?_;refine vR hw ?_;exact .drop (by simp) (by simp [vw,vC])
 ·rw [show uQ m W ⟨7,i,e,g,a,b⟩ x y=(wM W &&& ~~~x ||| y,true) from rfl,<- hall];refine xI func177 pC λhf=>?_;refine vR hw ?_;exact .drop (by simp) (by simp [vw,vC])
 ·rw [show uQ m W ⟨8,i,e,g,a,b⟩ x y=(wM W &&& ~~~(x ^^^ y),true) from rfl,<- hall];refine xI func177 pC λhf=>?_;refine vR hw ?_;exact .drop (by simp) (by simp [vw,vC])
 ·have h0:=hi0 (.inr (.inl rfl))
  by_cases hlt:i<(m.R.length:Int)
  ·have hv:uQ m W ⟨9,i,e,g,a,b⟩ x y=(oG (m.R.getD i.toNat []) x,true):=if_pos hlt;have hge:¬ (m.R.length:Int)<=i:=by omega
   obtain⟨j,rfl⟩:=Ag h0;have hg:=tZ m.R (show j<m.R.length by omega);have hc:=qh (aq ok (show j<m.R.length by omega)) x;rw [Af] at hv;rw [hv];generalize m.R.getD j []=z at hg hc;refine xI func177 pC λhf=>?_;refine uC hw yZ hge hg ?_;refine .go (cr hc) ?_;refine xJ ?_;exact .drop (by simp) (by simp [vw,vC])
  ·have hv:uQ m W ⟨9,i,e,g,a,b⟩ x y=(0#64,false):=if_neg hlt;have hge:(m.R.length:Int)<=i:=by omega
   rw [hv];refine xI func177 pC λhf=>?_;refine rF hw yZ hge ?_;exact .drop (by simp) (by simp [vw,vC])
 ·have h0:=hi0 (.inr (.inr rfl))
  by_cases hlt:i<(m.R.length:Int)
  ·have hv:uQ m W ⟨10,i,e,g,a,b⟩ x y=(bd (m.R.getD i.toNat []) x,true):=if_pos hlt;have hge:¬ (m.R.length:Int)<=i:=by omega
   obtain⟨j,rfl⟩:=Ag h0;have hg:=tZ m.R (show j<m.R.length by omega);have hc:=W6 (aq ok (show j<m.R.length by omega)) x;rw [Af] at hv;rw [hv];generalize m.R.getD j []=z at hg hc;refine xI func177 pC λhf=>?_;refine uC hw yZ hge hg ?_;refine .go (cr hc) ?_;refine xJ ?_;exact .drop (by simp) (by simp [vw,vC])
  ·have hv:uQ m W ⟨10,i,e,g,a,b⟩ x y=(0#64,false):=if_neg hlt;have hge:(m.R.length:Int)<=i:=by omega
   rw [hv];refine xI func177 pC λhf=>?_;refine rF hw yZ hge ?_;exact .drop (by simp) (by simp [vw,vC])
 ·have h0:=hg0 (.inl rfl)
  by_cases hlt:g<((2 ^ m.R.length:Nat):Int)
  ·have hv:uQ m W ⟨11,i,e,g,a,b⟩ x y=(oG (yA m g.toNat false) x,true):=if_pos hlt;have hge:¬ ((2 ^ m.R.length:Nat):Int)<=g:=by omega
   obtain⟨j,rfl⟩:=Ag (show 0<=g by omega);have hj:1<=j/\j<2 ^ m.R.length:=by omega
   have hc:=YR ok hj;have hb:=qh (jD ok hj false) x;rw [Af] at hv;rw [hv];unfold vZ.d at hc;generalize yA m j false=z at hc hb ⊢;refine xI func177 pC λhf=>?_;refine uC hw yZ hge hsh ?_;refine .go (cr hc) ?_;refine xJ ?_;refine .go (cr hb) ?_;refine xJ ?_;exact .drop (by simp) (by simp [vw,vC])
  ·have hv:uQ m W ⟨11,i,e,g,a,b⟩ x y=(0#64,false):=if_neg hlt;have hge:((2 ^ m.R.length:Nat):Int)<=g:=by omega
   rw [hv];refine xI func177 pC λhf=>?_;refine uC hw yZ hge hsh ?_;exact .drop (by simp) (by simp [vw,vC])
 ·have h0:=hg0 (.inr (.inl rfl))
  by_cases hlt:g<((2 ^ m.R.length:Nat):Int)
  ·have hv:uQ m W ⟨12,i,e,g,a,b⟩ x y=(oG (yA m g.toNat true) x,true):=if_pos hlt;have hge:¬ ((2 ^ m.R.length:Nat):Int)<=g:=by omega
   obtain⟨j,rfl⟩:=Ag (show 0<=g by omega);have hj:1<=j/\j<2 ^ m.R.length:=by omega
   have hc:=Nh ok hj;have hb:=qh (jD ok hj true) x;rw [Af] at hv;rw [hv];unfold vZ.d at hc;generalize yA m j true=z at hc hb ⊢;refine xI func177 pC λhf=>?_;refine uC hw yZ hge hsh ?_;refine .go (cr hc) ?_;refine xJ ?_;refine .go (cr hb) ?_;refine xJ ?_;exact .drop (by simp) (by simp [vw,vC])
  ·have hv:uQ m W ⟨12,i,e,g,a,b⟩ x y=(0#64,false):=if_neg hlt;have hge:((2 ^ m.R.length:Nat):Int)<=g:=by omega
   rw [hv];refine xI func177 pC λhf=>?_;refine uC hw yZ hge hsh ?_;exact .drop (by simp) (by simp [vw,vC])
 ·have h0:=hg0 (.inr (.inr rfl))
  by_cases hlt:g<((2 ^ m.R.length:Nat):Int)
  ·have hv:uQ m W ⟨13,i,e,g,a,b⟩ x y=(sU (yA m g.toNat false) (wM W) x y W,true):=if_pos hlt;have hge:¬ ((2 ^ m.R.length:Nat):Int)<=g:=by omega
   have hcm:=hcom rfl hlt;obtain⟨j,rfl⟩:=Ag (show 0<=g by omega);have hj:1<=j/\j<2 ^ m.R.length:=by omega
   have hc:=YR ok hj;have hb:=Tf (jD ok hj false) (by rw [Af] at hcm; exact hcm);rw [Af] at hv;rw [hv];unfold vZ.d at hc;generalize yA m j false=z at hc hb ⊢;refine xI func177 pC λhf=>?_;refine uC hw yZ hge hsh ?_;refine .go (cr hc) ?_;refine xH hall ?_;refine .go (cr hb) ?_;refine xJ ?_;exact .drop (by simp) (by simp [vw,vC])
  ·have hv:uQ m W ⟨13,i,e,g,a,b⟩ x y=(0#64,false):=if_neg hlt;have hge:((2 ^ m.R.length:Nat):Int)<=g:=by omega
   rw [hv];refine xI func177 pC λhf=>?_;refine uC hw yZ hge hsh ?_;exact .drop (by simp) (by simp [vw,vC])
 ·rw [show uQ m W ⟨14,i,e,g,a,b⟩ x y=(0#64,false) from rfl];refine xI func177 pC λhf=>?_;refine vR hw ?_;exact .drop (by simp) (by simp [vw,vC])
 ·rw [show uQ m W ⟨15,i,e,g,a,b⟩ x y=(0#64,false) from rfl];refine xI func177 pC λhf=>?_;refine vR hw ?_;exact .drop (by simp) (by simp [vw,vC])
 ·rw [show uQ m W ⟨16,i,e,g,a,b⟩ x y=(0#64,false) from rfl];refine xI func177 pC λhf=>?_;refine vR hw ?_;exact .drop (by simp) (by simp [vw,vC])
 ·rw [show uQ m W ⟨17,i,e,g,a,b⟩ x y=(0#64,false) from rfl];refine xI func177 pC λhf=>?_;refine vR hw ?_;exact .drop (by simp) (by simp [vw,vC])
 ·rw [show uQ m W ⟨18,i,e,g,a,b⟩ x y=(0#64,false) from rfl];refine xI func177 pC λhf=>?_;refine vR hw ?_;exact .drop (by simp) (by simp [vw,vC])
 ·rw [show uQ m W ⟨19,i,e,g,a,b⟩ x y=(0#64,false) from rfl];refine xI func177 pC λhf=>?_;refine vR hw ?_;exact .drop (by simp) (by simp [vw,vC])
 ·rw [show uQ m W ⟨20,i,e,g,a,b⟩ x y=(0#64,false) from rfl];refine xI func177 pC λhf=>?_;refine vR hw ?_;exact .drop (by simp) (by simp [vw,vC])
 ·rw [show uQ m W ⟨21,i,e,g,a,b⟩ x y=(0#64,false) from rfl];refine xI func177 pC λhf=>?_;refine vR hw ?_;exact .drop (by simp) (by simp [vw,vC])
 ·have hv:uQ m W ⟨op,i,e,g,a,b⟩ x y=(0#64,false):=by unfold uQ; simp only; repeat rw [if_neg (by omega)]
  have q1:(op==1)= false:=by rw [beq_eq_false_iff_ne]; omega
  have q2:(op==2)= false:=by rw [beq_eq_false_iff_ne]; omega
  have q3:(op==3)= false:=by rw [beq_eq_false_iff_ne]; omega
  have q4:(op==4)= false:=by rw [beq_eq_false_iff_ne]; omega
  have q5:(op==5)= false:=by rw [beq_eq_false_iff_ne]; omega
  have q6:(op==6)= false:=by rw [beq_eq_false_iff_ne]; omega
  have q7:(op==7)= false:=by rw [beq_eq_false_iff_ne]; omega
  have q8:(op==8)= false:=by rw [beq_eq_false_iff_ne]; omega
  have q9:(op==9)= false:=by rw [beq_eq_false_iff_ne]; omega
  have q10:(op==10)= false:=by rw [beq_eq_false_iff_ne]; omega
  have q11:(op==11)= false:=by rw [beq_eq_false_iff_ne]; omega
  have q12:(op==12)= false:=by rw [beq_eq_false_iff_ne]; omega
  have q13:(op==13)= false:=by rw [beq_eq_false_iff_ne]; omega
  rw [hv];refine xI func177 pC λhf=>?_;refine Sx hw q1 q2 q3 q4 q5 q6 q7 q8 q9 q10 q11 q12 q13 ?_;exact .drop (by simp) (by simp [vw,vC])
 ·have hv:uQ m W ⟨op,i,e,g,a,b⟩ x y=(0#64,false):=by unfold uQ; simp only; repeat rw [if_neg (by omega)]
  have q1:(op==1)= false:=by rw [beq_eq_false_iff_ne]; omega
  have q2:(op==2)= false:=by rw [beq_eq_false_iff_ne]; omega
  have q3:(op==3)= false:=by rw [beq_eq_false_iff_ne]; omega
  have q4:(op==4)= false:=by rw [beq_eq_false_iff_ne]; omega
  have q5:(op==5)= false:=by rw [beq_eq_false_iff_ne]; omega
  have q6:(op==6)= false:=by rw [beq_eq_false_iff_ne]; omega
  have q7:(op==7)= false:=by rw [beq_eq_false_iff_ne]; omega
  have q8:(op==8)= false:=by rw [beq_eq_false_iff_ne]; omega
  have q9:(op==9)= false:=by rw [beq_eq_false_iff_ne]; omega
  have q10:(op==10)= false:=by rw [beq_eq_false_iff_ne]; omega
  have q11:(op==11)= false:=by rw [beq_eq_false_iff_ne]; omega
  have q12:(op==12)= false:=by rw [beq_eq_false_iff_ne]; omega
  have q13:(op==13)= false:=by rw [beq_eq_false_iff_ne]; omega
  rw [hv];refine xI func177 pC λhf=>?_;refine Sx hw q1 q2 q3 q4 q5 q6 q7 q8 q9 q10 q11 q12 q13 ?_;exact .drop (by simp) (by simp [vw,vC])
section
open Rs Fm Ru Te
namespace Te
theorem Vv {nx:Nat} {xZ:List (Nat × Ob)} (hu:se ⟨nx,xZ⟩) (nx':Nat) (ob:Ob):∀ k o,St.look xZ k=some o->St.get ⟨nx',(nx,ob) :: xZ⟩ k=some o:=λk o hk=>by have:=(hu k o hk).1;simp only at this;show St.look (_ :: _) k=_;rw [xX,if_neg (by omega)]; exact hk
end Te
end
section
open Rs Fm Ru Te
end
section
open Rs Fm Ru Te
theorem pM (c:Nat):∀ {l:List (Nat × Ob)} {k:Nat} {o:Ob},St.look l k=some o->St.look (yH c l) (c+k)= some (o.shift c)
 | [],k,o,h=>by cases h
 | (j,ob) :: r,k,o,h=>by
  rw [xX] at h;show St.look ((c+j,ob.shift c) :: yH c r) _=_;rw [xX]
  by_cases e:j=k
  ·rw [if_pos e] at h; rw [if_pos (by omega)]; cases h; rfl
  ·rw [if_neg e] at h; rw [if_neg (by omega)]; exact pM c h
namespace Te
def ke (s:jO) (f:List Nd):Int:=if NZ s≠0 then NZ s else if yW f≠0 then yW f else if (sW .andNot .i64 (zX f:Int) 271 != 0)= true then 10 else if sL f s.ag s.fa=false then 2 else 0
theorem lP {s:jO} {f:List Nd} (h:ke s f=0):NZ s=0/\yW f=0:=by
 unfold ke at h
 by_cases c1:NZ s≠0
 ·rw [if_pos c1] at h; exact absurd h c1
 rw [if_neg c1] at h
 by_cases c2:yW f≠0
 ·rw [if_pos c2] at h; exact absurd h c2
 exact⟨by simpa using c1,by simpa using c2⟩
end Te
end
section
open Rs Fm Ru Te
namespace Te
end Te
end
open Rs Fm Ru Te
namespace Te
def pt (T p:Nat):Nat × Nat:=(p / T,p % T)
def pF (rs:List wX) (g:Nat) (m:Bool) (p q:Nat × Nat) (a:Nat):Bool:=(List.range a).all λb=>!g.testBit b || (decide (vJ rs b p=vJ rs b q)== m)
end Te
end Go.Pd

/- Part S9. -/
namespace Go.Pd
open Go Go.Proofs
open Ru
namespace Ru
def pD (rs:List wX) (l:List (Nat × Nat)) (A F:Nat):vZ:=⟨(l.length:Int),qV rs l F,tJ rs l A⟩
def wS (R t:Nat):List (Nat × Nat):=(List.range R).map λr=>(r,t)
theorem mJ (R t:Nat):(wS R t).length=R:=by simp [wS]
theorem nJ {k:Nat} (hk:k<64) (i:Nat):(1#64 <<< k).getLsbD i=decide (i=k):=by
 by_cases hi:i<64
 ·have:∀ k,k<64->∀ i,i<64->(1#64 <<< k).getLsbD i=decide (i=k):=by decide
  exact this k hk i hi
 ·rw [BitVec.getLsbD_of_ge _ _ (by omega)];exact(decide_eq_false (by omega)).symm
theorem qe {rs:List wX} {l:List (Nat × Nat)} {f:Nat}:∀ (k i:Nat),k<=64->(oO rs l f k).getLsbD i=(decide (i<k)&& (bf rs (l.getD i (0,0))).getLsbD f)
 | 0,i,_=>by simp [oO]
 | k+1,i,hk=>by
  unfold oO;rw [τ,qe k i (by omega)]
  by_cases e:i=k
  ·subst e
   cases hb:(bf rs (l.getD i (0,0))).getLsbD f
   ·simp
   ·rw [if_pos rfl,nJ (by omega)];simp
  ·have h2:(if (bf rs (l.getD k (0,0))).getLsbD f=true then 1#64 <<< k else 0#64).getLsbD i=false:=by
    split
    ·rw [nJ (by omega)]; exact decide_eq_false e
    ·exact ξ
   rw [h2,η];congr 1;rw [ζ,decide_eq_true_iff,decide_eq_true_iff]; omega
theorem eV {rs:List wX} {l:List (Nat × Nat)} {a:Nat} {x:Int}:∀ (k i:Nat),k<=64->(pF rs l a x k).getLsbD i=(decide (i<k)&& decide (vJ rs a (l.getD i (0,0))= x))
 | 0,i,_=>by simp [pF]
 | k+1,i,hk=>by
  unfold pF;rw [τ,eV k i (by omega)]
  by_cases e:i=k
  ·subst e
   by_cases hb:vJ rs a (l.getD i (0,0))= x
   ·rw [if_pos hb,nJ (by omega),decide_eq_true hb];simp
   ·rw [if_neg hb,decide_eq_false hb];simp
  ·have h2:(if vJ rs a (l.getD k (0,0))= x then 1#64 <<< k else 0#64).getLsbD i=false:=by
    split
    ·rw [nJ (by omega)]; exact decide_eq_false e
    ·exact ξ
   rw [h2,η];congr 1;rw [ζ,decide_eq_true_iff,decide_eq_true_iff]; omega
theorem sr {rs:List wX} {A F T:Nat} (ok:k8 rs A F T) {l:List (Nat × Nat)} (h1:1<=l.length) (h2:l.length<=64):qG (pD rs l A F) l.length where
 w:=rfl
 hW:=⟨h1,h2⟩
 hV:=by have:=ok.hF; simp [pD,qV]; exact this
 hR:=by have:=ok.hA; simp [pD,tJ]; exact this
 row:=λr hr=>by simp only [pD,tJ,χ] at hr;obtain⟨a,_,rfl⟩:=hr;simp [tO]
 val:=λx hx=>by simp only [pD,qV,χ] at hx;obtain⟨f,_,rfl⟩:=hx;refine w8 h2 λi hi=>?_;rw [qe _ _ h2,δ] at hi;exact of_decide_eq_true hi.1
 rel:=λr hr x hx=>by simp only [pD,tJ,χ] at hr;obtain⟨a,_,rfl⟩:=hr;simp only [tO,χ] at hx;obtain⟨p,_,rfl⟩:=hx;refine w8 h2 λi hi=>?_;rw [eV _ _ h2,δ] at hi;exact of_decide_eq_true hi.1
end Ru
open Rs Fm Ru Te
namespace Te
end Te
namespace Te
end Te
open Rs Fm Ru Te
namespace Te
def bt (rs:List wX) (A T:Nat):Tr->gF
 | .nil=>λ_=>false
 | .nd op i e g x y=>gB rs A T ⟨op,i,e,g,0,0⟩ (bt rs A T x) (bt rs A T y)
theorem wk {rs:List wX} {A T:Nat} {n m:Nd} {x y x' y':gF} (h1:n.op=m.op) (h2:n.i=m.i) (h3:n.g=m.g) (hx:(xY n.op).1.x=true->x=x') (hy:(xY n.op).1.y=true->y=y') :
  gB rs A T n x y=gB rs A T m x' y':=by
 obtain⟨op,i,e,g,a,b⟩:=n;obtain⟨op',i',e',g',a',b'⟩:=m;simp only at h1 h2 h3 hx hy;subst h1 h2 h3;rcases rV op with rfl | rfl | rfl | rfl | rfl | rfl | rfl | rfl | rfl | rfl | rfl | rfl | rfl | rfl | rfl | rfl | rfl | rfl | rfl | rfl | rfl | h | h
 all_goals first
  | (have hx':=hx rfl; have hy':=hy rfl; subst hx' hy'; rfl)
  | (have hx':=hx rfl; subst hx'; rfl)
  | rfl
  | (unfold gB Sl; simp only; funext p; repeat rw [if_neg (by omega)])
theorem jA {rs:List wX} {A T:Nat} {c:List Nd} {k:Nat}:∀ (m:Nat) {i:Nat},i<k->(sS rs A T c (k+m)).getD i (λ_=>false)= (sS rs A T c k).getD i λ_=>false
 | 0,_,_=>rfl
 | m+1,i,h=>by rw [show k+(m+1)= (k+m)+ 1 from rfl,sS,List.getD,List.getElem?_append_left (by rw [cT]; omega)];exact jA m h
theorem iu {rs:List wX} {A T:Nat} {c:List Nd} {k n:Nat} (h:k<n):(sS rs A T c n).getD k (λ_=>false)= gB rs A T (c.getD k vV) ((sS rs A T c k).getD (c.getD k vV).x.toNat λ_=>false) ((sS rs A T c k).getD (c.getD k vV).y.toNat λ_=>false):=by obtain⟨m,rfl⟩:=Ah (show k+1<=n by omega);rw [jA m (by omega),sS,List.getD,List.getElem?_append_right (by rw [cT]; omega),cT,Nat.sub_self];rfl
theorem Z8 {rs:List wX} {A T:Nat} {c:List Nd} (hv:vP c) {n:Nat} (hn:n<=c.length):∀ (i:Nat),i<n->(sS rs A T c n).getD i (λ_=>false)= bt rs A T (tree c i):=by
 intro i
 induction i using Nat.strongRecOn with
 | _ i ih=>
  intro hi;obtain⟨ox,oy,_,_⟩:=tK (hv i (by omega));rw [iu hi,sF hv (by omega)];show _=gB _ _ _ _ _ _
  refine wk rfl rfl rfl (λhx=>?_) λhy=>?_
  ·have:=ox hx;obtain⟨m,hm⟩:=Ah (show i<=n by omega);rw [if_pos hx,<- ih _ (by omega) (by omega),hm,jA m (by omega)]
  ·have:=oy hy;obtain⟨m,hm⟩:=Ah (show i<=n by omega);rw [if_pos hy,<- ih _ (by omega) (by omega),hm,jA m (by omega)]
def N2 (A F:Nat) (p:Nd):Bool:=decide (rA p &&& 3824=0)&& decide (tW p / 2 ^ A=0)&& decide (qI p / 2 ^ F=0)
theorem pS {m:Nd->Nat} {φ:Nat->Nat} (h0:φ 0=0) (h:∀ a b,φ (a ||| b)= φ a ||| φ b) (l:List Nd):φ (wW m l)= wW (λp=>φ (m p)) l:=by
 have key:∀ (l:List Nd) (a:Nat),φ (l.foldl (λa p=>a ||| m p) a)= l.foldl (λa p=>a ||| φ (m p)) (φ a):=by
  intro l
  induction l with
  | nil=>intro a; rfl
  | cons p r ih=>intro a; rw [List.foldl_cons,List.foldl_cons,ih,h]
 unfold wW;rw [key,h0]
theorem yw {n:Nat} (h:n<4096):(sW .andNot .i64 (n:Int) 271 != 0)= !decide (n &&& 3824=0):=by
 have:∀ n:Fin 4096,(sW .andNot .i64 ((n.val:Nat):Int) 271 != 0)= !decide (n.val &&& 3824=0):=by decide +kernel
 exact this ⟨n,h⟩
theorem z8 {s:jO} {A F T:Nat} {rs:List wX} (hs:s=⟨A,F,T,rs⟩) (hz:NZ s=0) (ok:k8 rs A F T) {f:List Nd} (hc:yW f=0):ke s f=0 ↔ ∀ p ∈ xD f,N2 A F p=true:=by
 have hlt:zX f<4096:=by refine mK λp _=>?_;have:=eC p.op;unfold rA; omega
 have e1:(zX f &&& 3824=0) ↔ ∀ p ∈ xD f,rA p &&& 3824=0:=by unfold zX;rw [pS (φ:=λn=>n &&& 3824) (by decide) (λa b=>Nat.and_or_distrib_right a b 3824),sK]
 have dv:∀ n a b:Nat,(a ||| b)/ 2 ^ n=a / 2 ^ n ||| b / 2 ^ n:=λn a b=>by rw [<- Ai,<- Ai,<- Ai,Nat.shiftRight_or_distrib]
 have e2:oZ f / 2 ^ A=0 ↔ ∀ p ∈ xD f,tW p / 2 ^ A=0:=by unfold oZ;rw [pS (φ:=λn=>n / 2 ^ A) (by simp) (dv A),sK]
 have e3:jZ f / 2 ^ F=0 ↔ ∀ p ∈ xD f,qI p / 2 ^ F=0:=by unfold jZ;rw [pS (φ:=λn=>n / 2 ^ F) (by simp) (dv F),sK]
 have hA:=ok.hA;have hF:=ok.hF
 have ef:sL f s.ag s.fa=true ↔ oZ f / 2 ^ A=0/\jZ f / 2 ^ F=0:=by
  subst hs;unfold sL iI;simp only [δ,Bool.or_eq_true,decide_eq_true_eq,Af]
  constructor
  ·rintro ⟨⟨_,h1⟩,h2⟩; exact⟨h1.resolve_left (by omega),h2.resolve_left (by omega)⟩
  ·rintro ⟨h1,h2⟩; exact⟨⟨hc,.inr h1⟩,.inr h2⟩
 unfold ke;rw [if_neg (by simpa using hz),if_neg (by simpa using hc),yw hlt]
 constructor
 ·intro h p hp
  by_cases c:zX f &&& 3824=0
  ·rw [if_neg (by simp [c])] at h
   cases h2:sL f s.ag s.fa with
   | false=>rw [h2,if_pos rfl] at h; cases h
   | true=> have h3:=ef.1 h2;unfold N2;simp only [δ,decide_eq_true_eq];exact⟨⟨e1.1 c p hp,e2.1 h3.1 p hp⟩,e3.1 h3.2 p hp⟩
  ·rw [if_pos (by simp [c])] at h; cases h
 ·intro h;have h':∀ p ∈ xD f,(rA p &&& 3824=0/\tW p / 2 ^ A=0)/\ qI p / 2 ^ F=0:=λp hp=>by simpa [N2] using h p hp
  have c:zX f &&& 3824=0:=e1.2 λp hp=>(h' p hp).1.1;rw [if_neg (by simp [c]),ef.2 ⟨e2.2 λp hp=>(h' p hp).1.2,e3.2 λp hp=>(h' p hp).2⟩,if_neg (by decide)]
end Te
namespace Fm
end Fm
namespace Te
end Te
open Rs Fm Ru Te
namespace Te
def TB (φ:Nat->Bool):Nat->BitVec 64
 | 0=>0#64
 | k+1=>TB φ k ||| (if φ k=true then 1#64 <<< k else 0#64)
theorem XJ {φ:Nat->Bool}:∀ (k i:Nat),k<=64->(TB φ k).getLsbD i=(decide (i<k)&& φ i)
 | 0,i,_=>by simp [TB]
 | k+1,i,hk=>by
  unfold TB;rw [τ,XJ k i (by omega)]
  by_cases e:i=k
  ·subst e
   cases hb:φ i
   ·simp
   ·rw [if_pos rfl,nJ (by omega)];simp
  ·have h2:(if φ k=true then 1#64 <<< k else 0#64).getLsbD i=false:=by
    split
    ·rw [nJ (by omega)]; exact decide_eq_false e
    ·exact ξ
   rw [h2,η];congr 1;exact decide_eq_decide.2 (by omega)
def sZ (T W:Nat) (x:gF):BitVec 64:=TB (λw=>x (pt T w)) W
theorem zZ {T W:Nat} {x:gF} (hW:W<=64) (i:Nat):(sZ T W x).getLsbD i=(decide (i<W)&& x (pt T i)):=XJ W i hW
theorem cY {a b:BitVec 64} (h:∀ i,i<64->a.getLsbD i=b.getLsbD i):a=b:=BitVec.eq_of_getLsbD_eq h
theorem lM (r:List (BitVec 64)) (s:BitVec 64):∀ (k i:Nat),k<=64->(lX r s k).getLsbD i=(decide (i<k)&& (r.getD i 0 &&& ~~~s==0#64))
 | 0,i,_=>by simp [lX]
 | k+1,i,hk=>by
  unfold lX
  have e1:(if (r.getD k 0 &&& ~~~s==0#64)= true then lX r s k ||| 1#64 <<< k else lX r s k)= lX r s k ||| (if (r.getD k 0 &&& ~~~s==0#64)= true then 1#64 <<< k else 0#64):=by
   split
   ·rfl
   ·exact BitVec.or_zero.symm
  rw [e1,τ,lM r s k i (by omega)]
  by_cases e:i=k
  ·subst e
   cases hb:(r.getD i 0 &&& ~~~s==0#64)
   ·simp
   ·rw [if_pos rfl,nJ (by omega)];simp
  ·have h2:(if (r.getD k 0 &&& ~~~s==0#64)= true then 1#64 <<< k else 0#64).getLsbD i=false:=by
    split
    ·rw [nJ (by omega)]; exact decide_eq_false e
    ·exact ξ
   rw [h2,η];congr 1;exact decide_eq_decide.2 (by omega)
theorem eB {a s:BitVec 64}:(a &&& ~~~s==0#64)= true ↔ ∀ v,v<64->a.getLsbD v=true->s.getLsbD v=true:=by
 rw [beq_iff_eq]
 constructor
 ·intro h v hv ha;have:=congrArg (·.getLsbD v) h;simp only [π,ο,ha,hv,ξ] at this;simpa using this
 ·intro h;refine cY λv hv=>?_;rw [π,ο,ξ]
  cases ha:a.getLsbD v
  ·rfl
  ·rw [h v hv ha]; simp
theorem ZQ {rs:List wX} {T v:Nat} (h:v<rs.length*T):(rR rs T).getD v (0,0)= pt T v:=Ou T h
theorem Ni {rs:List wX} {T:Nat} {P:Nat × Nat->Bool}:(rR rs T).all P=true ↔ ∀ v,v<rs.length*T->P (pt T v)= true:=by
 rw [Aa]
 constructor
 ·intro h v hv;refine h _ ?_;unfold rR iS;exact χ.2 ⟨v,υ.2 hv,rfl⟩
 ·intro h q hq;unfold rR iS at hq;obtain⟨v,hv,rfl⟩:=χ.1 hq;exact h v (υ.1 hv)
def ZT (rs:List wX) (T:Nat) (r:List (BitVec 64)) (ρ:Nat × Nat->Nat × Nat->Bool):Prop:= r.length=rs.length*T/\∀ w,w<rs.length*T->∀ v,(r.getD w 0).getLsbD v=(decide (v<rs.length*T)&& ρ (pt T w) (pt T v))
theorem xl {rs:List wX} {T:Nat} (hW:rs.length*T<=64) {r:List (BitVec 64)} {ρ:Nat × Nat->Nat × Nat->Bool} (h:ZT rs T r ρ) {s:BitVec 64} {x:gF} (hs:∀ v,v<rs.length*T->s.getLsbD v=x (pt T v)) :
  oG r s=sZ T (rs.length*T) λp=>(rR rs T).all λq=>!ρ p q || x q:=by
 obtain⟨hl,hr⟩:=h;refine cY λi _=>?_;rw [zZ hW,oG,lM r s _ i (by omega),hl]
 by_cases hi:i<rs.length*T
 ·rw [decide_eq_true hi,γ,γ,ζ,eB,Ni]
  constructor
  ·intro h v hv
   cases e:ρ (pt T i) (pt T v) with
   | false=>rfl
   | true=> have:=h v (by omega) (by rw [hr i hi v,decide_eq_true hv,e]; rfl);rw [hs v hv] at this;simpa using this
  ·intro h v _ ha;rw [hr i hi v,δ] at ha;have hv:=of_decide_eq_true ha.1;have:=h v hv;rw [ha.2] at this;rw [hs v hv];simpa using this
 ·rw [decide_eq_false hi,ε,ε]
section
variable {rs : List wX} {A F T : Nat}
theorem Xa {a:Nat} (ha:a<A) (hW:rs.length*T<=64):ZT rs T ((pD rs (rR rs T) A F).R.getD a []) λp q=>decide (vJ rs a q=vJ rs a p):=by
 have hl:(rR rs T).length=rs.length*T:=nT T _
 have hg:(pD rs (rR rs T) A F).R.getD a []=tO rs (rR rs T) a:=by show (tJ rs (rR rs T) A).getD a []=_;simp [tJ,List.getD,ha]
 rw [hg];refine⟨by simp [tO,hl],λw hw v=>?_⟩
 have hw':(tO rs (rR rs T) a).getD w 0=Ru.pF rs (rR rs T) a (vJ rs a (pt T w)) (rs.length*T):=by
  have h1:w<(rR rs T).length:=by omega
  have h2:=ZQ (rs:=rs) hw;rw [List.getD,Ab h1] at h2;simp only [Option.getD_some] at h2;simp only [tO,List.getD,List.getElem?_map,Ab h1,Option.map_some,Option.getD_some,h2,hl]
 rw [hw',eV _ _ hW]
 by_cases hv:v<rs.length*T
 ·rw [decide_eq_true hv,ZQ hv]
 ·rw [decide_eq_false hv,ε,ε]
theorem wc {m:vZ} {W:Nat} (ok:qG m W) (hW:rs.length*T=W) (hR:m.R.length=A) {g:Nat} (hg:1<=g/\g<2 ^ m.R.length) (meet:Bool) (hk:∀ a,a<A->ZT rs T (m.R.getD a []) λp q=>decide (vJ rs a q=vJ rs a p)) :
  ZT rs T (yA m g meet) λp q=>if meet=true then Pg rs A g p q else ZX rs A g p q:=by
 obtain⟨⟨a0,ha0,hb0⟩,hl,hv⟩:=qZ ok hg meet;refine⟨by rw [hl,hW],λw hw v=>?_⟩;rw [hv w (by omega) v];unfold bZ;rw [hR] at ha0 ⊢
 have hbit:∀ a,a<A->((m.R.getD a []).getD w 0).getLsbD v=(decide (v<rs.length*T)&& decide (vJ rs a (pt T w)= vJ rs a (pt T v))):=λa ha=>by rw [(hk a ha).2 w hw v];congr 1;exact decide_eq_decide.2 ⟨λh=>h.symm,λh=>h.symm⟩
 cases meet with
 | true=>
  show _=(decide (v<rs.length*T)&& Pg rs A g (pt T w) (pt T v));rw [if_pos rfl];unfold Pg
  by_cases hvw:v<rs.length*T
  ·rw [decide_eq_true hvw,γ];refine s7 λa ha=>?_;rw [hbit a (υ.1 ha),decide_eq_true hvw,γ]
  ·rw [decide_eq_false hvw,ε];refine ν.2 λh=>?_;rw [Aa] at h;have:=h a0 (υ.2 ha0);rw [hb0,hbit a0 ha0,decide_eq_false hvw] at this;simp at this
 | false=>
  show _=(decide (v<rs.length*T)&& ZX rs A g (pt T w) (pt T v));rw [if_neg (by decide)];unfold ZX
  by_cases hvw:v<rs.length*T
  ·rw [decide_eq_true hvw,γ,ζ,ω,ω]
   constructor
   ·rintro ⟨a,ha,h⟩;refine⟨a,ha,?_⟩
    rwa [hbit a (υ.1 ha),decide_eq_true hvw,γ] at h
   ·rintro ⟨a,ha,h⟩;refine⟨a,ha,?_⟩
    rwa [hbit a (υ.1 ha),decide_eq_true hvw,γ]
  ·rw [decide_eq_false hvw,ε];refine ν.2 λh=>?_;rw [ω] at h;obtain⟨a,ha,h⟩:=h;rw [hbit a (υ.1 ha),decide_eq_false hvw] at h;simp at h
theorem dp {g:Nat} {x:gF} {p:Nat × Nat}:lU rs A T g x p=(rR rs T).all λq=>!ZX rs A g p q || x q:=by
 rw [ζ,WT,Aa]
 constructor
 ·intro h q hq
  cases e:ZX rs A g p q with
  | false=>rfl
  | true=>rw [h q hq e]; rfl
 ·intro h q hq e;have:=h q hq;rw [e] at this;simpa using this
theorem YV {W T:Nat} (hW:W<=64):wM W=sZ T W λ_=>true:=by refine cY λi hi=>?_;rw [uL hW hi,zZ hW,μ]
theorem gN {m:vZ} {W:Nat} (ok:qG m W) (hW:rs.length*T=W) (hR:m.R.length=A) {g:Nat} (hg:1<=g/\g<2 ^ m.R.length) (hk:∀ a,a<A->ZT rs T (m.R.getD a []) λp q=>decide (vJ rs a q=vJ rs a p)) (x y:gF) :
  ∀ n,sU (yA m g false) (wM W) (sZ T W x) (sZ T W y) n=sZ T W (lC rs A T g x y n)
 | 0=>by have:=ok.hW; exact YV this.2
 | n+1=>by
  have hW64:=ok.hW.2;show oG _ _=_;rw [gN ok hW hR hg hk x y n];have hrel:=wc ok hW hR hg false hk
  rw [xl (by omega) hrel (x:=λq=>!x q || (y q&&lC rs A T g x y n q)) λv hv=>?_]
  ·rw [hW];congr 1;funext p;simp only [Bool.false_eq_true,↓reduceIte];rw [<- dp];rfl
  ·rw [hW] at hv;simp only [τ,π,ο,uL hW64 (show v<64 by omega),zZ hW64,decide_eq_true hv,decide_eq_true (show v<64 by omega),γ]
end
end Te
open Rs Fm Ru Te
namespace Te
def qP (A F:Nat) (n:Nd):Bool:= if n.op<1 then false else if n.op=3 then decide (n.i<(F:Int)) else if n.op<=8 then true else if n.op<=10 then decide (n.i<(A:Int)) else if n.op<=13 then decide (n.g<((2 ^ A:Nat):Int)) else false
theorem Rh {A F:Nat} {n:Nd} (h:n.op<1\/21<n.op):qP A F n=false:=by rcases h with h | h <;> unfold qP <;> repeat (first | rw [if_pos (by omega)] | rw [if_neg (by omega)])
theorem PG {m:vZ} {W:Nat} {n:Nd} {x y:BitVec 64} (h:n.op<1\/21<n.op):uQ m W n x y=(0#64,false):=by unfold uQ; repeat rw [if_neg (by omega)]
theorem nm {T W:Nat} {x y:gF} (h:∀ v,v<W->x (pt T v)= y (pt T v)) (hW:W<=64):sZ T W x=sZ T W y:=by
 refine cY λi _=>?_;rw [zZ hW,zZ hW]
 by_cases hi:i<W
 ·rw [h i hi]
 ·rw [decide_eq_false hi,ε,ε]
theorem Ow {rs:List wX} {T v:Nat} (hv:v<rs.length*T):pt T v ∈ rR rs T:=by unfold rR iS;exact χ.2 ⟨v,υ.2 hv,rfl⟩
theorem QC (rs:List wX) (A T g:Nat) (x y:gF) {p:Nat × Nat} (hp:p ∈ rR rs T):lC rs A T g x y (rs.length*T+1) p=lC rs A T g x y (rs.length*T) p:=by obtain⟨n,h1,h2⟩:=QB (rs:=rs) (A:=A) (T:=T) g x y;obtain⟨m,hm⟩:=Ah h1;rw [hm,vt h2 m p hp,show n+m+1=n+(m+1) by omega,vt h2 (m+1) p hp]
section
variable {rs : List wX} {A F T : Nat}
theorem VQ (ok:k8 rs A F T) (hW:rs.length*T<=64) {g:Nat} (hg:1<=g/\g<2 ^ A) (x y:gF) :
  sU (yA (pD rs (rR rs T) A F) g false) (wM (rs.length*T)) (sZ T (rs.length*T) x) (sZ T (rs.length*T) y) (rs.length*T+1)= sU (yA (pD rs (rR rs T) A F) g false) (wM (rs.length*T)) (sZ T (rs.length*T) x) (sZ T (rs.length*T) y) (rs.length*T):=by
 have hl:(rR rs T).length=rs.length*T:=nT T _;have h1:1<=rs.length*T:=Aj ok.hR.1 ok.hT.1;have hm:=sr (F:=F) ok (l:=rR rs T) (by omega) (by omega);rw [hl] at hm;have hRl:(pD rs (rR rs T) A F).R.length=A:=by show (tJ rs (rR rs T) A).length=A; simp [tJ]
 have hk:∀ a,a<A->ZT rs T ((pD rs (rR rs T) A F).R.getD a []) λp q=>decide (vJ rs a q=vJ rs a p):=λa ha=>Xa ha hW;rw [gN hm rfl hRl (by rw [hRl]; exact hg) hk,gN hm rfl hRl (by rw [hRl]; exact hg) hk];exact nm (λv hv=>QC rs A T g x y (Ow hv)) hW
theorem Xs (ok:k8 rs A F T) (hW:rs.length*T<=64) {n:Nd} {k:Int} (hn:zP n k=0) {x y:BitVec 64} {tx ty:gF} (hx:(xY n.op).1.x=true->x=sZ T (rs.length*T) tx) (hy:(xY n.op).1.y=true->y=sZ T (rs.length*T) ty) :
  uQ (pD rs (rR rs T) A F) (rs.length*T) n x y=if qP A F n=true then(sZ T (rs.length*T) (gB rs A T n tx ty),true) else(0#64,false):=by
 have hl:(rR rs T).length=rs.length*T:=nT T _;have h1:1<=rs.length*T:=Aj ok.hR.1 ok.hT.1;have hm:=sr (F:=F) ok (l:=rR rs T) (by omega) (by omega);rw [hl] at hm;have hRl:(pD rs (rR rs T) A F).R.length=A:=by show (tJ rs (rR rs T) A).length=A; simp [tJ]
 have hVl:(pD rs (rR rs T) A F).V.length=F:=by show (qV rs (rR rs T) F).length=F; simp [qV]
 have hk:∀ a,a<A->ZT rs T ((pD rs (rR rs T) A F).R.getD a []) λp q=>decide (vJ rs a q=vJ rs a p):=λa ha=>Xa ha hW
 have hVg:∀ f,f<F->∀ i,((pD rs (rR rs T) A F).V.getD f 0).getLsbD i=(decide (i<rs.length*T)&& (bf rs (pt T i)).getLsbD f):=λf hf i=>by
  have e:(pD rs (rR rs T) A F).V.getD f 0=oO rs (rR rs T) f (rR rs T).length:=by show (qV rs (rR rs T) F).getD f 0=_;simp [qV,List.getD,hf]
  rw [e,hl,qe _ _ hW]
  by_cases hi:i<rs.length*T
  ·rw [ZQ hi]
  ·rw [decide_eq_false hi,ε,ε]
 have hi0:n.op=3\/n.op=9\/n.op=10->0<=n.i:=λh=>by
  rcases h with h | h | h
  ·exact(mR hn (by rw [h]; rfl)).1
  ·exact(rU hn (by rw [h]; rfl)).1
  ·exact(rU hn (by rw [h]; rfl)).1
 have hg0:n.op=11\/n.op=12\/n.op=13->1<=n.g/\n.g<=15:=λh=>by
  have hgr:(xY n.op).1.gr=true:=by rcases h with h | h | h <;> rw [h] <;> rfl
  have h1:=(vU.1 hn).2.2.2.2;simp only [θ,hgr,xG,γ,decide_eq_false_iff_not] at h1;omega
 obtain⟨op,i,e,g,a,b⟩:=n;simp only at hi0 hg0 hx hy;generalize hm':pD rs (rR rs T) A F=m at *;generalize hWW:rs.length*T=W at *;have fin:∀ {p q:BitVec 64},(∀ v,v<64->p.getLsbD v=q.getLsbD v)->(p,true)= (q,true):=λh=>by rw [cY h]
 rcases rV op with rfl | rfl | rfl | rfl | rfl | rfl | rfl | rfl | rfl | rfl | rfl | rfl | rfl | rfl | rfl | rfl | rfl | rfl | rfl | rfl | rfl | h | h
 ·show (wM W,true)= (sZ T W λ_=>true,true);rw [YV hW]
 ·show (0#64,true)= (sZ T W λ_=>false,true);refine fin λv _=>?_;rw [zZ hW,κ,ξ]
 ·have h0:=hi0 (.inl rfl);show (if i<(m.V.length:Int) then(m.V.getD i.toNat 0,true) else(0#64,false))= if decide (i<(F:Int))= true then(sZ T W λp=>(bf rs p).getLsbD i.toNat,true) else(0#64,false);rw [hVl]
  by_cases hlt:i<(F:Int)
  ·rw [if_pos hlt,if_pos (decide_eq_true hlt)];refine fin λv _=>?_;rw [hVg i.toNat (by omega),zZ hW]
  ·rw [if_neg hlt,if_neg (by simpa using hlt)]
 ·have hx:=hx rfl;show (wM W &&& ~~~x,true)= (sZ T W λp=>!tx p,true);refine fin λv hv=>?_;rw [hx,π,ο,uL hW hv,zZ hW,zZ hW,decide_eq_true hv];cases decide (v<W) <;> simp
 ·have hx:=hx rfl;have hy:=hy rfl;show (x &&& y,true)= (sZ T W λp=>tx p&&ty p,true);refine fin λv hv=>?_;rw [hx,hy,π,zZ hW,zZ hW,zZ hW];cases decide (v<W) <;> simp
 ·have hx:=hx rfl;have hy:=hy rfl;show (x ||| y,true)= (sZ T W λp=>tx p || ty p,true);refine fin λv hv=>?_;rw [hx,hy,τ,zZ hW,zZ hW,zZ hW];cases decide (v<W) <;> simp
 ·have hx:=hx rfl;have hy:=hy rfl;show (wM W &&& ~~~x ||| y,true)= (sZ T W λp=>!tx p || ty p,true);refine fin λv hv=>?_;rw [hx,hy,τ,π,ο,uL hW hv,zZ hW,zZ hW,zZ hW,decide_eq_true hv];cases decide (v<W) <;> simp
 ·have hx:=hx rfl;have hy:=hy rfl;show (wM W &&& ~~~(x ^^^ y),true)= (sZ T W λp=>tx p==ty p,true);refine fin λv hv=>?_;rw [hx,hy,π,ο,BitVec.getLsbD_xor,uL hW hv,zZ hW,zZ hW,zZ hW,decide_eq_true hv];cases decide (v<W) <;> cases tx (pt T v) <;> cases ty (pt T v) <;> rfl
 ·have h0:=hi0 (.inr (.inl rfl));have hx:=hx rfl;show (if i<(m.R.length:Int) then(oG (m.R.getD i.toNat []) x,true) else(0#64,false))= if decide (i<(A:Int))= true then(sZ T W (bR rs T i.toNat tx),true) else(0#64,false);rw [hRl]
  by_cases hlt:i<(A:Int)
  ·rw [if_pos hlt,if_pos (decide_eq_true hlt)];have:=xl (by omega) (hk i.toNat (by omega)) (s:=x) (x:=tx) λv hv=>by rw [hx,zZ hW,decide_eq_true (by omega),γ]
   rw [this,hWW];rfl
  ·rw [if_neg hlt,if_neg (by simpa using hlt)]
 ·have h0:=hi0 (.inr (.inr rfl));have hx:=hx rfl;show (if i<(m.R.length:Int) then(bd (m.R.getD i.toNat []) x,true) else(0#64,false))= if decide (i<(A:Int))= true then(sZ T W λp=>!bR rs T i.toNat (λq=>!tx q) p,true) else(0#64,false);rw [hRl]
  by_cases hlt:i<(A:Int)
  ·rw [if_pos hlt,if_pos (decide_eq_true hlt)];have hkk:=hk i.toNat (by omega);have:=xl (by omega) hkk (s:= ~~~x) (x:=λq=>!tx q) λv hv=>by rw [hx,ο,zZ hW,decide_eq_true (show v<64 by omega),decide_eq_true (show v<W by omega),γ,γ]
   unfold bd;rw [this,hkk.1,hWW];refine fin λv hv=>?_;rw [π,ο,uL hW hv,zZ hW,zZ hW,decide_eq_true hv];show (decide (v<W)&& (true&&!(decide (v<W)&& bR rs T i.toNat (λq=>!tx q) (pt T v))))= _;cases decide (v<W) <;> simp
  ·rw [if_neg hlt,if_neg (by simpa using hlt)]
 ·have h0:=hg0 (.inl rfl);have hx:=hx rfl;show (if g<((2 ^ m.R.length:Nat):Int) then(oG (yA m g.toNat false) x,true) else(0#64,false))= if decide (g<((2 ^ A:Nat):Int))= true then(sZ T W (lU rs A T g.toNat tx),true) else(0#64,false);rw [hRl]
  by_cases hlt:g<((2 ^ A:Nat):Int)
  ·rw [if_pos hlt,if_pos (decide_eq_true hlt)];have hrel:=wc hm hWW hRl (g:=g.toNat) (by rw [hRl]; omega) false hk;have:=xl (by omega) hrel (s:=x) (x:=tx) λv hv=>by rw [hx,zZ hW,decide_eq_true (by omega),γ]
   rw [this,hWW];refine congrArg (λz=>(z,true)) (nm (λv _=>?_) hW);rw [dp];rfl
  ·rw [if_neg hlt,if_neg (by simpa using hlt)]
 ·have h0:=hg0 (.inr (.inl rfl));have hx:=hx rfl;show (if g<((2 ^ m.R.length:Nat):Int) then(oG (yA m g.toNat true) x,true) else(0#64,false))= if decide (g<((2 ^ A:Nat):Int))= true then(sZ T W (NL rs A T g.toNat tx),true) else(0#64,false);rw [hRl]
  by_cases hlt:g<((2 ^ A:Nat):Int)
  ·rw [if_pos hlt,if_pos (decide_eq_true hlt)];have hrel:=wc hm hWW hRl (g:=g.toNat) (by rw [hRl]; omega) true hk;have:=xl (by omega) hrel (s:=x) (x:=tx) λv hv=>by rw [hx,zZ hW,decide_eq_true (by omega),γ]
   rw [this,hWW];rfl
  ·rw [if_neg hlt,if_neg (by simpa using hlt)]
 ·have h0:=hg0 (.inr (.inr rfl));have hx:=hx rfl;have hy:=hy rfl;show (if g<((2 ^ m.R.length:Nat):Int) then(sU (yA m g.toNat false) (wM W) x y W,true) else(0#64,false))= if decide (g<((2 ^ A:Nat):Int))= true then(sZ T W (s8 rs A T g.toNat tx ty),true) else(0#64,false);rw [hRl]
  by_cases hlt:g<((2 ^ A:Nat):Int)
  ·rw [if_pos hlt,if_pos (decide_eq_true hlt),hx,hy,gN hm hWW hRl (by rw [hRl]; omega) hk];unfold s8;rw [hWW]
  ·rw [if_neg hlt,if_neg (by simpa using hlt)]
 all_goals first
  | rfl
  | (rw [Rh (by first | exact .inl h | exact .inr h),if_neg (by decide)]; exact PG (by first | exact .inl h | exact .inr h))
end
end Te
end Go.Pd

/- Part C7. -/
namespace Go.Pd
open Go Go.Proofs
open BitVec renaming isValue -> ZA
open Rs Fm Ru Te
namespace Te
def mA {α:Type} (L:Nat) (g h:Nat->α) (k:Nat):List α:=(List.range L).map λi=>if i<k then g i else h i
theorem Yy {α:Type} (L:Nat) (g h:Nat->α) (k:Nat):(mA L g h k).length=L:=by simp [mA]
theorem xb {α:Type} {L:Nat} (g h:Nat->α) (k:Nat) {i:Nat} (hi:i<L) (d:α):(mA L g h k).getD i d=if i<k then g i else h i:=by simp [mA,List.getD,hi]
theorem Yx {α:Type} (L:Nat) (g h:Nat->α) (k:Nat):(mA L g h k).set k (g k)= mA L g h (k+1):=by
 refine Ae (by simp [mA]) λi h1 h2=>?_;rw [List.getElem_set];simp only [mA,List.getElem_map,List.getElem_range]
 by_cases e:k=i
 ·subst e; rw [if_pos rfl,if_pos (by omega)]
 ·rw [if_neg e]
  by_cases hk:i<k
  ·rw [if_pos hk,if_pos (by omega)]
  ·rw [if_neg hk,if_neg (by omega)]
theorem fz {α:Type} {L:Nat} {g h:Nat->α} {k:Nat} (e:g k=h k):mA L g h k=mA L g h (k+1):=by
 unfold mA;refine ψ λi _=>?_
 by_cases hk:i<k
 ·rw [if_pos hk,if_pos (by omega)]
 ·rw [if_neg hk]
  by_cases e2:i=k
  ·subst e2; rw [if_pos (by omega),e]
  ·rw [if_neg (by omega)]
theorem gf {α:Type} (L:Nat) (g:Nat->α) (c:α):mA L g (λ_=>c) 0=List.replicate L c:=by refine Ae (by simp [mA]) λi h1 h2=>by simp [mA]
theorem Yz {α:Type} (L:Nat) (g h:Nat->α):mA L g h L=(List.range L).map g:=by refine ψ λf hf=>?_;rw [if_pos (υ.1 hf)]
def jw (op:Int):Bool:=(decide (5<=op)&& decide (op<=8)) || decide (op=13)
def okF (f:List Nd) (fv:Nat->Bool) (k:Nat):Bool:=(if 4<=(f.getD k vV).op then fv (f.getD k vV).x.toNat else true)&& (if jw (f.getD k vV).op=true then fv (f.getD k vV).y.toNat else true)
end Te
theorem Lp {m:vZ} {f:List Nd} (hc:yW f=0) (hreq:xA prog 176 [m.d,.sl 6 (wN f)] (.int .i64 0)) {sv:Nat->BitVec 64} {fv:Nat->Bool}
  (hcall:∀ k,k<f.length->okF f fv k=true->∀ x y,((xY (f.getD k vV).op).1.x=true->x=sv (f.getD k vV).x.toNat)->((xY (f.getD k vV).op).1.y=true->y=sv (f.getD k vV).y.toNat) ->
   xA prog 177 [m.d,.agg (f.getD k vV).row,.int .u64 (ui x),.int .u64 (ui y)] (.wF [.int .u64 (ui (sv k)),.bool (fv k)]))
  (hno:∀ k,k<f.length->okF f fv k=false->sv k=0#64/\fv k=false) :
  xA prog 113 [m.d,.sl 6 (wN f)] (.wF [.sl 1 (us ((List.range f.length).map sv)),.int .i64 0]):=by
 obtain⟨c1,c2,c3⟩:=zE hc;have hn:0<f.length:=Ac.2 c1;unfold vZ.d at hreq hcall ⊢;refine xI func113 IH λhf=>?_;refine zI ?_;refine .go (cr hreq) ?_;refine vR xM ?_
 refine xU (λk:Nat=>[(26,.int .i64 k),(25,.int .i64 f.length),(24,.sl 6 (wN f)),(8,.yD 2 1 f.length),(7,.yD 1 1 f.length),(2,.ref 0 3 0 0)])
  (λk=>⟨3,[(2,⟨1,rb (mA f.length fv (λ_=>false) k)⟩),(1,⟨1,us (mA f.length sv (λ_=>0#64) k)⟩),(0,⟨3,[[.int .i64 m.W,.sl 1 (us m.V),.sl 1 (rr m.R)]]⟩)]⟩)
  (λk=>k<=f.length) (λk=>f.length-k) 0 (Nat.zero_le _) ?_ ?_
 ·rw [gf,gf,<- yo,<- o9];exact wO
 intro k hk;refine xN mixed ?_;by_cases hkl:k<f.length
 case neg=>
  have hd:¬ ((k:Int)<(f.length:Int)):=by omega
  have hke:k=f.length:=by omega
  subst hke;rw [Yz,Yz];have hlen:((List.range f.length).map sv).length=f.length:=by simp
  generalize (List.range f.length).map sv=l at hlen ⊢;refine xH hd ?_;refine .drop (by simp) ?_;simp only [vw,vC];exact⟨rfl,⟨trivial,by decide,by simp,⟨1,us l⟩,rfl,rfl,by simp only [xT]; omega,by rw [<- hlen,<- xT,List.take_length],vT l⟩,trivial,trivial⟩
 have hd:((k:Int)<(f.length:Int)):=by omega
 have hcall:=hcall k hkl;have hno:=hno k hkl;have hnd:=c3 k hkl;have hg:=sE f hkl;have hux:=Si (f.getD k vV).op;obtain⟨hox,hoy⟩:=nI hnd;obtain⟨⟨x,hx,hxk⟩,⟨y,hy,hyk⟩⟩:=v7 hnd;unfold okF at hcall hno;generalize f.getD k vV=p at hcall hno hnd hg hux hox hoy hx hy;obtain⟨op,i,e,g,px,py⟩:=p;simp only at hx hy;subst hx hy;have hrow:(Nd.row ⟨op,i,e,g,x,y⟩)= [.int .i64 op,.int .i64 i,.int .i64 e,.int .i64 g,.int .i64 x,.int .i64 y]:=rfl;rw [hrow] at hg hcall;have hxl:x<f.length:=by omega
 have hyl:y<f.length:=by omega
 have hxl':((x:Int)<(f.length:Int)):=by omega
 have hyl':((y:Int)<(f.length:Int)):=by omega
 have hSx:=xb sv (λ_=>0#64) k hxl 0#64;have hSy:=xb sv (λ_=>0#64) k hyl 0#64;have hBx:=xb fv (λ_=>false) k hxl false;have hBy:=xb fv (λ_=>false) k hyl false;have hSl:=Yy f.length sv (λ_=>0#64) k;have hBl:=Yy f.length fv (λ_=>false) k;have hSs:=Yx f.length sv (λ_=>0#64) k;have hBs:=Yx f.length fv (λ_=>false) k;have hSk:sv k=0#64->mA f.length sv (λ_=>0#64) k=mA f.length sv (λ_=>0#64) (k+1):=λh=>fz h;have hBk:fv k=false->mA f.length fv (λ_=>false) k=mA f.length fv (λ_=>false) (k+1):=λh=>fz h;generalize mA f.length sv (λ_=>0#64) k=S at hSx hSy hSl hSs hSk ⊢;generalize mA f.length fv (λ_=>false) k=B at hBx hBy hBl hBs hBk ⊢;simp only [Af] at hcall hno hux hox hoy;have gSx:=yF S (show x<S.length by omega);have gSy:=yF S (show y<S.length by omega);have gBx:=qv B (show x<B.length by omega);have gBy:=qv B (show y<B.length by omega)
 have hop:1<=op/\op<=21:=by have h2:=(vU.1 hnd).1;simp only at h2;refine Decidable.byContradiction λhh=>?_;rw [vM (by omega)] at h2;cases h2
 have hxu:(xY op).1.x=true->S.getD x 0#64=sv x:=λh=>by rw [hSx,if_pos (by have:=hox h; omega)]
 have hyu:(xY op).1.y=true->S.getD y 0#64=sv y:=λh=>by rw [hSy,if_pos (by have:=hoy h; omega)]
 have hfx:4<=op->B.getD x false=fv x:=λh=>by
  have hu:(xY op).1.x=true:=by rw [hux,decide_eq_true h,decide_eq_true hop.2]; rfl
  rw [hBx,if_pos (by have:=hox hu; omega)]
 have hby:jw op=true->(xY op).1.y=true:=λh=>by
  unfold jw at h;simp only [Bool.or_eq_true,δ,decide_eq_true_eq] at h;have:op=5\/op=6\/op=7\/op=8\/op=13:=by omega
  rcases this with rfl | rfl | rfl | rfl | rfl <;> rfl
 have hfy:jw op=true->B.getD y false=fv y:=λh=>by rw [hBy,if_pos (by have:=hoy (hby h); omega)]
 have hc':=λh=>hcall h (S.getD x 0#64) (S.getD y 0#64) hxu hyu;clear hcall hxu hyu hSx hSy hBx hBy;generalize S.getD x 0#64=sx at gSx hc';generalize S.getD y 0#64=sy at gSy hc';generalize B.getD x false=bx at gBx hfx;generalize B.getD y false=by' at gBy hfy
 have hwu:IntKind.i64.wrap ((k:Int)+ 1)= ((k+1:Nat):Int):=wrap_i64 (by omega);have gSk:=yF S (show k<S.length by omega);have gBk:=qv B (show k<B.length by omega);by_cases h4:4<=op
 case neg=>
  have h5:¬ (5:Int)<=op:=by omega
  have h13:(op==13)= false:=by rw [beq_eq_false_iff_ne]; omega
  have hb:jw op=false:=by unfold jw; rw [decide_eq_false h5,decide_eq_false (show ¬ op=13 by omega)]; rfl
  simp only [simprocAttr,-ZA,↓zU,↓zD,zV,zT,zW,hd,hwu,xM,hg,xT,wY,hSl,hBl,hxl',hyl',gSx,gSy,gBx,gBy,gSk,gBk,cD,h4,h5,h13]
  (repeat refine sd ?_)
  refine .go (xQ.yP (hc' (by rw [if_neg h4,hb]; rfl)) (by simp [D.xR,D.xF])) ?_;simp only [simprocAttr,-ZA,↓zU,↓zD,zV,zT,zW,hd,hwu,xM,hg,xT,wY,hSl,hBl,hxl',hyl',gSx,gSy,gBx,gBy,gSk,gBk,cD,h4,h5,h13,iO,qw,hSs,hBs]
  (repeat refine sd ?_)
  refine⟨k+1,by omega,?_,by omega⟩;exact qN [] [2,1,0] yC vL
 have hfx:=hfx h4;subst hfx;rw [if_pos h4] at hc' hno
 cases hb:jw op with
 | false=>
  rw [hb,if_neg (by decide),μ] at hc' hno
  have h13:(op==13)= false:=by rw [beq_eq_false_iff_ne]; rintro rfl; cases hb
  have h58:¬ (5<=op/\op<=8):=by rintro ⟨z1,z2⟩; unfold jw at hb; rw [decide_eq_true z1,decide_eq_true z2] at hb; cases hb
  by_cases h5:5<=op
  ·have h8:¬ op<=8:=by omega
   cases hf:fv x with
   | true=>
    simp only [simprocAttr,-ZA,↓zU,↓zD,zV,zT,zW,hd,hwu,xM,hg,xT,wY,hSl,hBl,hxl',hyl',gSx,gSy,gBx,gBy,gSk,gBk,cD,h4,h5,h8,h13,hf]
    (repeat refine sd ?_)
    refine .go (cr (hc' hf)) ?_;simp only [simprocAttr,-ZA,↓zU,↓zD,zV,zT,zW,hd,hwu,xM,hg,xT,wY,hSl,hBl,hxl',hyl',gSx,gSy,gBx,gBy,gSk,gBk,cD,h4,h5,h8,h13,hf,iO,qw,hSs,hBs]
    (repeat refine sd ?_)
    refine⟨k+1,by omega,?_,by omega⟩;exact qN [] [2,1,0] yC vL
   | false=>
    simp only [simprocAttr,-ZA,↓zU,↓zD,zV,zT,zW,hd,hwu,xM,hg,xT,wY,hSl,hBl,hxl',hyl',gSx,gSy,gBx,gBy,gSk,gBk,cD,h4,h5,h8,h13,hf]
    (repeat refine sd ?_)
    obtain⟨q1,q2⟩:=hno hf;rw [hSk q1,hBk q2];refine⟨k+1,by omega,?_,by omega⟩;exact qN [] [2,1,0] yC vL
  ·cases hf:fv x with
   | true=>
    simp only [simprocAttr,-ZA,↓zU,↓zD,zV,zT,zW,hd,hwu,xM,hg,xT,wY,hSl,hBl,hxl',hyl',gSx,gSy,gBx,gBy,gSk,gBk,cD,h4,h5,h13,hf]
    (repeat refine sd ?_)
    refine .go (cr (hc' hf)) ?_;simp only [simprocAttr,-ZA,↓zU,↓zD,zV,zT,zW,hd,hwu,xM,hg,xT,wY,hSl,hBl,hxl',hyl',gSx,gSy,gBx,gBy,gSk,gBk,cD,h4,h5,h13,hf,iO,qw,hSs,hBs]
    (repeat refine sd ?_)
    refine⟨k+1,by omega,?_,by omega⟩;exact qN [] [2,1,0] yC vL
   | false=>
    simp only [simprocAttr,-ZA,↓zU,↓zD,zV,zT,zW,hd,hwu,xM,hg,xT,wY,hSl,hBl,hxl',hyl',gSx,gSy,gBx,gBy,gSk,gBk,cD,h4,h5,h13,hf]
    (repeat refine sd ?_)
    obtain⟨q1,q2⟩:=hno hf;rw [hSk q1,hBk q2];refine⟨k+1,by omega,?_,by omega⟩;exact qN [] [2,1,0] yC vL
 | true=>
  have hfy:=hfy hb;subst hfy;rw [hb,if_pos rfl] at hc' hno
  by_cases h13:op=13
  ·subst h13
   cases hf:fv x with
   | false=>
    simp only [simprocAttr,-ZA,↓zU,↓zD,zV,zT,zW,hd,hwu,xM,hg,xT,wY,hSl,hBl,hxl',hyl',gSx,gSy,gBx,gBy,gSk,gBk,cD,hf]
    (repeat refine sd ?_)
    obtain⟨q1,q2⟩:=hno (by rw [hf]; rfl);rw [hSk q1,hBk q2];refine⟨k+1,by omega,?_,by omega⟩;exact qN [] [2,1,0] yC vL
   | true=>
    cases hf2:fv y with
    | true=>
     simp only [simprocAttr,-ZA,↓zU,↓zD,zV,zT,zW,hd,hwu,xM,hg,xT,wY,hSl,hBl,hxl',hyl',gSx,gSy,gBx,gBy,gSk,gBk,cD,hf,hf2]
     (repeat refine sd ?_)
     refine .go (xQ.yP (hc' (by rw [hf,hf2]; rfl)) (by simp [D.xR,D.xF])) ?_;simp only [simprocAttr,-ZA,↓zU,↓zD,zV,zT,zW,hd,hwu,xM,hg,xT,wY,hSl,hBl,hxl',hyl',gSx,gSy,gBx,gBy,gSk,gBk,cD,hf,hf2,iO,qw,hSs,hBs]
     (repeat refine sd ?_)
     refine⟨k+1,by omega,?_,by omega⟩;exact qN [] [2,1,0] yC vL
    | false=>
     simp only [simprocAttr,-ZA,↓zU,↓zD,zV,zT,zW,hd,hwu,xM,hg,xT,wY,hSl,hBl,hxl',hyl',gSx,gSy,gBx,gBy,gSk,gBk,cD,hf,hf2]
     (repeat refine sd ?_)
     obtain⟨q1,q2⟩:=hno (by rw [hf,hf2]; rfl);rw [hSk q1,hBk q2];refine⟨k+1,by omega,?_,by omega⟩;exact qN [] [2,1,0] yC vL
  ·have h58:5<=op/\op<=8:=by unfold jw at hb; rw [decide_eq_false h13,η,δ] at hb; exact⟨of_decide_eq_true hb.1,of_decide_eq_true hb.2⟩
   have h5:=h58.1;have h8:=h58.2
   cases hf:fv x with
   | false=>
    simp only [simprocAttr,-ZA,↓zU,↓zD,zV,zT,zW,hd,hwu,xM,hg,xT,wY,hSl,hBl,hxl',hyl',gSx,gSy,gBx,gBy,gSk,gBk,cD,h4,h5,h8,hf]
    (repeat refine sd ?_)
    obtain⟨q1,q2⟩:=hno (by rw [hf]; rfl);rw [hSk q1,hBk q2];refine⟨k+1,by omega,?_,by omega⟩;exact qN [] [2,1,0] yC vL
   | true=>
    cases hf2:fv y with
    | true=>
     simp only [simprocAttr,-ZA,↓zU,↓zD,zV,zT,zW,hd,hwu,xM,hg,xT,wY,hSl,hBl,hxl',hyl',gSx,gSy,gBx,gBy,gSk,gBk,cD,h4,h5,h8,hf,hf2]
     (repeat refine sd ?_)
     refine .go (xQ.yP (hc' (by rw [hf,hf2]; rfl)) (by simp [D.xR,D.xF])) ?_;simp only [simprocAttr,-ZA,↓zU,↓zD,zV,zT,zW,hd,hwu,xM,hg,xT,wY,hSl,hBl,hxl',hyl',gSx,gSy,gBx,gBy,gSk,gBk,cD,h4,h5,h8,hf,hf2,iO,qw,hSs,hBs]
     (repeat refine sd ?_)
     refine⟨k+1,by omega,?_,by omega⟩;exact qN [] [2,1,0] yC vL
    | false=>
     simp only [simprocAttr,-ZA,↓zU,↓zD,zV,zT,zW,hd,hwu,xM,hg,xT,wY,hSl,hBl,hxl',hyl',gSx,gSy,gBx,gBy,gSk,gBk,cD,h4,h5,h8,hf,hf2]
     (repeat refine sd ?_)
     obtain⟨q1,q2⟩:=hno (by rw [hf,hf2]; rfl);rw [hSk q1,hBk q2];refine⟨k+1,by omega,?_,by omega⟩;exact qN [] [2,1,0] yC vL
open Rs Fm Ru Te
theorem UU {m:vZ} {W:Nat} (ok:qG m W) {f:List Nd} (hc:yW f=0) (hfr:(sW .andNot .i64 (zX f:Int) 15 != 0)= false) (hft:sL f m.R.length m.V.length=true):xA prog 176 [m.d,.sl 6 (wN f)] (.int .i64 0):=by have h1:=ni ok;have h2:=eN f;have h3:=VE f;have h4:=SA f m.R.length m.V.length;rw [hc] at h2;rw [hft] at h4;unfold vZ.d at h1 ⊢;refine xI func176 Is λhf=>?_;refine zI ?_;refine .go (cr h1) ?_;refine xJ ?_;refine .go (cr h2) ?_;refine xJ ?_;refine .go (cr h3) ?_;refine rF hfr yZ xT ?_;refine .go (cr h4) ?_;refine xJ ?_;exact .dv
namespace Te
def rO (A F:Nat):Tr->Bool
 | .nil=>true
 | .nd op i e g x y=>qP A F ⟨op,i,e,g,0,0⟩&& (rO A F x&&rO A F y)
def zu (rs:List wX) (A F T:Nat) (t:Tr):BitVec 64:=if rO A F t=true then sZ T (rs.length*T) (bt rs A T t) else 0#64
def Pf (rs:List wX) (A F T:Nat) (t:Tr):gF:=if rO A F t=true then bt rs A T t else λ_=>false
theorem RY (rs:List wX) (A F T:Nat) (hW:rs.length*T<=64) (t:Tr):zu rs A F T t=sZ T (rs.length*T) (Pf rs A F T t):=by
 unfold zu Pf
 split
 ·rfl
 ·refine cY λi _=>?_;rw [zZ hW,κ,ξ]
theorem qb {A F:Nat} {op i e g:Int} (h:qP A F ⟨op,i,e,g,0,0⟩= true):1<=op/\op<=13:=by
 unfold qP at h;simp only at h
 refine⟨Decidable.byContradiction λhh=>?_,Decidable.byContradiction λhh=>?_⟩
 ·rw [if_pos (by omega)] at h; cases h
 ·rw [if_neg (by omega),if_neg (by omega),if_neg (by omega),if_neg (by omega),if_neg (by omega)] at h; cases h
theorem Ya {op:Int} (h1:1<=op) (h2:op<=13):(xY op).1.y=jw op/\(xY op).1.x=decide (4<=op):=by
 have:op=1\/op=2\/op=3\/op=4\/op=5\/op=6\/op=7\/op=8\/op=9\/op=10\/op=11\/op=12\/op=13:=by omega
 rcases this with rfl | rfl | rfl | rfl | rfl | rfl | rfl | rfl | rfl | rfl | rfl | rfl | rfl <;> exact⟨rfl,rfl⟩
end Te
theorem Yb {rs:List wX} {A F T:Nat} (ok:k8 rs A F T) (hW:rs.length*T<=64) {f:List Nd} (hc:yW f=0) (hfr:(sW .andNot .i64 (zX f:Int) 15 != 0)= false) (hft:sL f A F=true) :
  xA prog 54 [(pD rs (rR rs T) A F).d,.sl 6 (wN f)] (.wF [.int .u64 (ui (zu rs A F T (mZ f))),.int .i64 0]):=by
 have hl:(rR rs T).length=rs.length*T:=nT T _;have h1:1<=rs.length*T:=Aj ok.hR.1 ok.hT.1;have hm:=sr (F:=F) ok (l:=rR rs T) (by omega) (by omega);rw [hl] at hm;have hRl:(pD rs (rR rs T) A F).R.length=A:=by show (tJ rs (rR rs T) A).length=A; simp [tJ]
 have hVl:(pD rs (rR rs T) A F).V.length=F:=by show (qV rs (rR rs T) F).length=F; simp [qV]
 obtain⟨c1,c2,c3⟩:=zE hc;have hn:0<f.length:=Ac.2 c1;have hreq:=UU hm hc hfr (by rw [hRl,hVl]; exact hft);have hS:=Lp (sv:=λk=>zu rs A F T (tree f k)) (fv:=λk=>rO A F (tree f k)) hc hreq (λk hk hok x y hx hy=>?_) λk hk hno=>?_
 rotate_left
 ·have hnd:=c3 k hk;have ht:=sF c3 hk;unfold okF at hok;dsimp only at hok;generalize f.getD k vV=n at hnd ht hok hx hy ⊢;rw [RY rs A F T hW] at hx hy
  have hcom:n.op=13->n.g<(2 ^ (pD rs (rR rs T) A F).R.length:Nat)->sU (yA (pD rs (rR rs T) A F) n.g.toNat false) (wM (rs.length*T)) x y (rs.length*T+1)= sU (yA (pD rs (rR rs T) A F) n.g.toNat false) (wM (rs.length*T)) x y (rs.length*T):=λh13 hg=>by
   have hu:(xY n.op).1.x=true/\(xY n.op).1.y=true/\(xY n.op).1.gr=true:=by rw [h13]; exact⟨rfl,rfl,rfl⟩
   have h1:=(vU.1 hnd).2.2.2.2;simp only [θ,hu.2.2,xG,γ,decide_eq_false_iff_not] at h1;rw [hRl] at hg;rw [hx hu.1,hy hu.2.1];exact VQ ok hW (by omega) _ _
  have hv:=PH hm hnd (x:=x) (y:=y) hcom;have hs:=Xs ok hW (F:=F) hnd hx hy
  have key:(uQ (pD rs (rR rs T) A F) (rs.length*T) n x y)= (zu rs A F T (tree f k),rO A F (tree f k)):=by
   rw [hs,ht];unfold zu;show _=(if (qP A F ⟨n.op,n.i,n.e,n.g,0,0⟩&& (rO A F (if (xY n.op).1.x=true then tree f n.x.toNat else .nil)&& rO A F (if (xY n.op).1.y=true then tree f n.y.toNat else .nil)))= true then _ else _,qP A F ⟨n.op,n.i,n.e,n.g,0,0⟩&& (rO A F (if (xY n.op).1.x=true then tree f n.x.toNat else .nil)&& rO A F (if (xY n.op).1.y=true then tree f n.y.toNat else .nil)));have hst:qP A F ⟨n.op,n.i,n.e,n.g,0,0⟩= qP A F n:=rfl;rw [hst]
   cases hst2:qP A F n with
   | false=>rfl
   | true=>
    obtain⟨o1,o2⟩:=qb (hst.trans hst2);obtain⟨uy,ux⟩:=Ya o1 o2;rw [<- uy] at hok
    have fx:(xY n.op).1.x=true->rO A F (tree f n.x.toNat)= true:=λh=>by rw [ux,decide_eq_true_iff] at h;rw [if_pos h,δ] at hok;exact hok.1
    have fy:(xY n.op).1.y=true->rO A F (tree f n.y.toNat)= true:=λh=>by rw [if_pos h,δ] at hok;exact hok.2
    have fx':rO A F (if (xY n.op).1.x=true then tree f n.x.toNat else .nil)= true:=by
     split
     ·rename_i h; exact fx h
     ·rfl
    have fy':rO A F (if (xY n.op).1.y=true then tree f n.y.toNat else .nil)= true:=by
     split
     ·rename_i h; exact fy h
     ·rfl
    rw [fx',fy',if_pos rfl,if_pos (show (true&&(true&&true))= true from rfl)];refine Prod.ext ?_ rfl;refine congrArg (sZ T (rs.length*T)) ?_;show _=gB rs A T ⟨n.op,n.i,n.e,n.g,0,0⟩ _ _
    refine wk rfl rfl rfl (λh=>?_) λh=>?_
    ·rw [if_pos h,Pf,if_pos (fx h)]
    ·rw [if_pos h,Pf,if_pos (fy h)]
  rw [key] at hv;exact hv
 ·have ht:=sF c3 hk;unfold okF at hno;dsimp only at hno;generalize f.getD k vV=n at ht hno
  have hf:rO A F (tree f k)= false:=by
   rw [ht];show (qP A F ⟨n.op,n.i,n.e,n.g,0,0⟩&& (rO A F (if (xY n.op).1.x=true then tree f n.x.toNat else .nil)&& rO A F (if (xY n.op).1.y=true then tree f n.y.toNat else .nil)))= false
   cases hst:qP A F ⟨n.op,n.i,n.e,n.g,0,0⟩ with
   | false=>rfl
   | true=>
    obtain⟨o1,o2⟩:=qb hst;obtain⟨uy,ux⟩:=Ya o1 o2;rw [<- uy] at hno;rw [γ]
    by_cases h4:4<=n.op
    ·rw [if_pos h4] at hno;rw [if_pos (by rw [ux,decide_eq_true h4])]
     cases hy:(xY n.op).1.y with
     | true=>rw [hy,if_pos rfl] at hno; rw [if_pos rfl]; exact hno
     | false=>rw [hy,if_neg (by decide),μ] at hno; rw [hno]; rfl
    ·rw [if_neg h4] at hno
     cases hy:(xY n.op).1.y with
     | true=>rw [hy,if_pos rfl,γ] at hno; rw [if_pos rfl,hno,κ]
     | false=>rw [hy] at hno; cases hno
  exact⟨by unfold zu; rw [hf,if_neg (by decide)],hf⟩
 have hlast:((List.range f.length).map λk=>zu rs A F T (tree f k)).getD (f.length-1) 0=zu rs A F T (mZ f):=by
  have:f.length-1<f.length:=by omega
  simp [List.getD,this,mZ]
 have hlen:((List.range f.length).map λk=>zu rs A F T (tree f k)).length=f.length:=by simp
 generalize ((List.range f.length).map λk=>zu rs A F T (tree f k))= l at hS hlast hlen;have hg:=yF l (show f.length-1<l.length by omega);rw [hlast] at hg;have hw:IntKind.i64.wrap ((l.length:Int)-1)= ((f.length-1:Nat):Int):=by rw [hlen,wrap_i64 (by omega)]; omega
 have hlt:((f.length-1:Nat):Int)<(l.length:Int):=by omega
 unfold vZ.d at hS ⊢;refine xI func54 FI λhf=>?_;refine zI ?_;refine .go (cr hS) ?_;refine uC xT hw hg hlt ?_;exact .drop (by simp) (by simp [vw,vC])
open Rs Fm Ru Te
namespace Te
def Pb (rs:List wX) (t:Nat):List wX:=rs.map λr=>⟨[r.loc.getD t []],[r.ye.getD t 0]⟩
section
variable {rs : List wX} {A F T t : Nat}
theorem Oe {i:Nat} (hi:i<rs.length):(Pb rs t).getD i pG=⟨[(rs.getD i pG).loc.getD t []],[(rs.getD i pG).ye.getD t 0]⟩:=by simp [Pb,List.getD,hi]
theorem Og {a i:Nat} (hi:i<rs.length):vJ (Pb rs t) a (i,0)= vJ rs a (i,t):=by unfold vJ;simp only [Oe hi];rfl
theorem mI {R i:Nat} (hi:i<R):(wS R t).getD i (0,0)= (i,t):=by simp [wS,List.getD,hi]
theorem kZ (a:Nat) (x:Int):∀ k,k<=rs.length->Ru.pF (Pb rs t) (wS rs.length 0) a x k=Ru.pF rs (wS rs.length t) a x k
 | 0,_=>rfl
 | k+1,h=>by unfold Ru.pF;rw [kZ a x k (by omega),mI (by omega),mI (by omega),Og (by omega)]
end
end Te
open Rs Fm Ru Te Kb
namespace Kb
def vK (sts:List (List (BitVec 64))) (i:Nat):List (BitVec 64):=sts.getD i []
def j4 (xV:List (BitVec 64)) (sts:List (List (BitVec 64))) (t a w:Nat):Nat:=(List.range sts.length).findIdx λv=>decide (vG xV (vK sts v) a t=vG xV (vK sts w) a t)
def wV (xV:List (BitVec 64)) (sts:List (List (BitVec 64))) (t:Nat):List wX:=(List.range sts.length).map λw=>⟨[(List.range xV.length).map λa=>((j4 xV sts t a w:Nat):Int)],[(vK sts w).getD t 0]⟩
section
variable {xV : List (BitVec 64)} {sts : List (List (BitVec 64))} {t : Nat}
theorem jB : (wV xV sts t).length=sts.length:=by simp [wV]
theorem zg {i:Nat} (hi:i<sts.length):(wV xV sts t).getD i pG=⟨[(List.range xV.length).map λa=>((j4 xV sts t a i:Nat):Int)],[(vK sts i).getD t 0]⟩:=by simp [wV,List.getD,hi]
theorem bN {n:Nat} {q:Nat->Bool} (h:∃ i,i<n/\q i=true):(List.range n).findIdx q<n/\q ((List.range n).findIdx q)= true:=by obtain⟨i,hi,hq⟩:=h;have h1:(List.range n).findIdx q<(List.range n).length:=List.findIdx_lt_length.2 ⟨i,υ.2 hi,hq⟩;refine⟨by simpa using h1,?_⟩;have:=List.findIdx_getElem (p:=q) (w:=h1);simpa using this
theorem fq {a w:Nat} (hw:w<sts.length):j4 xV sts t a w<sts.length/\vG xV (vK sts (j4 xV sts t a w)) a t=vG xV (vK sts w) a t:=by have:=bN (n:=sts.length) (q:=λv=>decide (vG xV (vK sts v) a t=vG xV (vK sts w) a t)) ⟨w,hw,by simp⟩;refine⟨this.1,?_⟩;have h2:=this.2;simp only [decide_eq_true_eq] at h2;exact h2
theorem Qb {a v w:Nat} (hv:v<sts.length) (hw:w<sts.length):j4 xV sts t a v=j4 xV sts t a w ↔ vG xV (vK sts v) a t=vG xV (vK sts w) a t:=by
 constructor
 ·intro h;rw [<- (fq (xV:=xV) (t:=t) (a:=a) hv).2,<- (fq (xV:=xV) (t:=t) (a:=a) hw).2,h]
 ·intro h;unfold j4;rw [h]
theorem xg {a v w:Nat} (ha:a<xV.length) (hv:v<sts.length) (hw:w<sts.length):vJ (wV xV sts t) a (v,0)= vJ (wV xV sts t) a (w,0) ↔ vG xV (vK sts v) a t=vG xV (vK sts w) a t:=by unfold vJ;simp only [zg hv,zg hw];rw [<- Qb hv hw];simp [List.getD,ha];omega
theorem Xo {w:Nat} (hw:w<sts.length):bf (wV xV sts t) (w,0)= (vK sts w).getD t 0:=by unfold bf;simp only [zg hw];rfl
theorem Xp : rR (wV xV sts t) 1=wS sts.length 0:=by unfold rR iS wS;rw [jB,Nat.mul_one];refine ψ λi _=>?_;rw [Nat.div_one,Nat.mod_one]
theorem PB {F:Nat} (hA:xV.length<=4) (hF:F<=8) (hR:1<=sts.length/\sts.length<=64) (hv:∀ w,w<sts.length->(vK sts w).getD t 0 >>> F=0#64):k8 (wV xV sts t) xV.length F 1 where
 hA:=hA
 hF:=hF
 hT:=⟨by omega,by omega⟩
 hR:=by rw [jB]; exact hR
 hP:=by rw [jB]; omega
 loc:=λr hr=>by simp only [wV,χ] at hr;obtain⟨i,_,rfl⟩:=hr;rfl
 ye:=λr hr=>by simp only [wV,χ] at hr;obtain⟨i,_,rfl⟩:=hr;rfl
 row:=λr hr l hl=>by simp only [wV,χ] at hr;obtain⟨i,_,rfl⟩:=hr;simp only [Ad] at hl;subst hl;simp
 val:=λr hr x hx=>by simp only [wV,χ,υ] at hr;obtain⟨i,hi,rfl⟩:=hr;simp only [Ad] at hx;subst hx;exact hv i hi
end
def gE (xV:List (BitVec 64)) (sts:List (List (BitVec 64))) (t F:Nat):D:=kd (wV xV sts t) (wS sts.length 0) xV.length F
end Kb
theorem OC {xV:List (BitVec 64)} {sts:List (List (BitVec 64))} {t a v w:Nat} (ha:a<xV.length) (hv:v<sts.length) (hw:w<sts.length) :
  decide ((vG xV (vK sts w) a t).map ui=(vG xV (vK sts v) a t).map ui)= decide (vJ (wV xV sts t) a (v,0)= vJ (wV xV sts t) a (w,0)):=by
 have h1:=xg (xV:=xV) (sts:=sts) (t:=t) ha hv hw
 have h2:(vG xV (vK sts w) a t).map ui=(vG xV (vK sts v) a t).map ui ↔ vG xV (vK sts v) a t=vG xV (vK sts w) a t:=⟨λh=>((List.map_inj_right λx y=>ZR.1).1 h).symm,λh=>by rw [h]⟩
 rw [ζ,decide_eq_true_eq,decide_eq_true_eq,h2,h1]
end Go.Pd
