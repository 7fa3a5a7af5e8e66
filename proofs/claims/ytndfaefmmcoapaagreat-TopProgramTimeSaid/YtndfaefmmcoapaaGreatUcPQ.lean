/- Part PQ. -/
import Derived.Test.YtndfaefmmcoapaaGreatUcX9
set_option linter.unusedSectionVars false
set_option linter.unusedVariables false
set_option linter.unusedSimpArgs false
set_option linter.defProp false
set_option maxRecDepth 20000
set_option maxHeartbeats 1000000
open Go.Proofs.Tryz
open Bool renaming not_false->γ,not_true->δ,true_and->ε
open Int renaming toNat_natCast->ζ,toNat_of_nonneg->η,eq_ofNat_of_zero_le->θ
open Nat renaming zero_le->κ,pow_lt_pow_right->μ,testBit_lt_two_pow->ν,pow_le_pow_right->ξ,le_refl->ο,lt_of_lt_of_le->π,or_lt_two_pow->τ
open List renaming mem_range->υ,mem_of_mem_take->χ,length_append->ω,drop_eq_nil_of_le->Aa,getD_cons_succ->Ab,all_eq_false->Ac
namespace Go.Pd
open Go Go.Proofs
open BitVec renaming isValue -> ZA
section
open Rs Fm
theorem Vj (op:Int):yU prog 219 [.int .i64 op] (.bool (xW op).1.x):=by
 rw [Ss];refine xY.xN mixed func219 JJ (by simp) λhf=>?_
 by_cases h1:4<=op
 ·by_cases h2:op<=21
  ·simp only [simprocAttr,-ZA,↓zU,↓zD,zV,zT,zW,h1,h2];exact .same
  ·simp only [simprocAttr,-ZA,↓zU,↓zD,zV,zT,zW,h1,h2];exact .dv
 ·simp only [simprocAttr,-ZA,↓zU,↓zD,zV,zT,zW,h1];exact .dv
theorem Nx (op:Int):yU prog 222 [.int .i64 op] (.bool (xW op).1.gr):=by
 rw [MQ];refine xY.xN mixed func222 JK (by simp) λhf=>?_
 by_cases h1:11<=op
 ·by_cases h2:op<=13
  ·simp only [simprocAttr,-ZA,↓zU,↓zD,zV,zT,zW,h1,h2];exact .same
  ·simp only [simprocAttr,-ZA,↓zU,↓zD,zV,zT,zW,h1,h2];exact .dv
 ·simp only [simprocAttr,-ZA,↓zU,↓zD,zV,zT,zW,h1];exact .dv
theorem Vk (op:Int):yU prog 220 [.int .i64 op] (.bool (xW op).1.y):=by
 rcases sG op with rfl | rfl | rfl | rfl | rfl | rfl | rfl | rfl | rfl | rfl | rfl | rfl | rfl | rfl | rfl | rfl | rfl | rfl | rfl | rfl | rfl | h | h
 rotate_right 2
 ·have e:∀ i:Int,1<=i->i<=21->(op==i)= false:=λi h1 h2=>by simp; omega
  have h5:¬ 5<=op:=by omega
  rw [vS (.inl h)];refine xY.xN mixed func220 Mc (by simp) λhf=>?_;simp only [simprocAttr,-ZA,↓zU,↓zD,zV,zT,zW,h5,e 13 (by omega) (by omega),e 14 (by omega) (by omega),e 16 (by omega) (by omega),e 19 (by omega) (by omega),e 21 (by omega) (by omega)];exact .drop (by simp) (by simp [vw,sI])
 ·have e:∀ i:Int,1<=i->i<=21->(op==i)= false:=λi h1 h2=>by simp; omega
  have h5:5<=op:=by omega
  have h8:¬ op<=8:=by omega
  rw [vS (.inr h)];refine xY.xN mixed func220 Mc (by simp) λhf=>?_;simp only [simprocAttr,-ZA,↓zU,↓zD,zV,zT,zW,h5,h8,e 13 (by omega) (by omega),e 14 (by omega) (by omega),e 16 (by omega) (by omega),e 19 (by omega) (by omega),e 21 (by omega) (by omega)];exact .drop (by simp) (by simp [vw,sI])
 all_goals
  refine xY.xN mixed func220 Mc (by simp) λhf=>?_;simp only [simprocAttr,-ZA,↓zU,↓zD,zV,zT,zW];exact .drop (by simp) (by simp [vw,xW,sI])
theorem Vm (op:Int):yU prog 221 [.int .i64 op] (.bool (xW op).1.ag):=by
 rcases sG op with rfl | rfl | rfl | rfl | rfl | rfl | rfl | rfl | rfl | rfl | rfl | rfl | rfl | rfl | rfl | rfl | rfl | rfl | rfl | rfl | rfl | h | h
 rotate_right 2
 ·have e:∀ i:Int,1<=i->i<=21->(op==i)= false:=λi h1 h2=>by simp; omega
  rw [vS (.inl h)];refine xY.xN mixed func221 Md (by simp) λhf=>?_;simp only [simprocAttr,-ZA,↓zU,↓zD,zV,zT,zW,e 9 (by omega) (by omega),e 10 (by omega) (by omega),e 14 (by omega) (by omega),e 15 (by omega) (by omega)];exact .drop (by simp) (by simp [vw,sI])
 ·have e:∀ i:Int,1<=i->i<=21->(op==i)= false:=λi h1 h2=>by simp; omega
  rw [vS (.inr h)];refine xY.xN mixed func221 Md (by simp) λhf=>?_;simp only [simprocAttr,-ZA,↓zU,↓zD,zV,zT,zW,e 9 (by omega) (by omega),e 10 (by omega) (by omega),e 14 (by omega) (by omega),e 15 (by omega) (by omega)];exact .drop (by simp) (by simp [vw,sI])
 all_goals
  refine xY.xN mixed func221 Md (by simp) λhf=>?_;simp only [simprocAttr,-ZA,↓zU,↓zD,zV,zT,zW];exact .drop (by simp) (by simp [vw,xW,sI])
end
section
open Rs Fm
theorem M4 (p:Nd) (k:Int):yU prog 178 [.agg p.row,.int .i64 k] (.int .i64 (zY p k)):=by
 have hk:=cS p.op;have hx:=Vj p.op;have hy:=Vk p.op;have ha:=Vm p.op;have hg:=Nx p.op;have e3:=WQ p.op;have e17:=P6 p.op;have e17n:(p.op != 17)= !(xW p.op).1.ev:=by rw [bne,e17]
 have en:zY p k=if (xW p.op).2=false then 10 else
  if (yR (xW p.op).1.x p.x k&&yR (xW p.op).1.y p.y k)= false then 3 else
  if ((!((xW p.op).1.fa || (xW p.op).1.ag || (xW p.op).1.ev)&& decide (p.i≠0)) || (!(xW p.op).1.ev&&decide (p.e≠0)) || (!(xW p.op).1.gr&&decide (p.g≠0)))= true then 3 else
  if (xH (xW p.op).1.fa p.i 0 7 || xH (xW p.op).1.ag p.i 0 3 || xH (xW p.op).1.ev p.i 0 7 || xH (xW p.op).1.ev p.e 0 7 || xH (xW p.op).1.gr p.g 1 15)= true then 2 else 0:=rfl
 by_cases h1:p.op<1
 ·rw [show zY p k=10 by rw [en,vS (.inl h1)]; rfl];refine xY.xN mixed func178 Mb (by simp) λhf=>?_;simp only [simprocAttr,-ZA,↓zU,↓zD,zV,zT,zW,Nd.row,h1]
  (repeat refine sd ?_)
  exact .dv
 by_cases h2:21<p.op
 ·rw [show zY p k=10 by rw [en,vS (.inr h2)]; rfl];refine xY.xN mixed func178 Mb (by simp) λhf=>?_;simp only [simprocAttr,-ZA,↓zU,↓zD,zV,zT,zW,Nd.row,h1,h2]
  (repeat refine sd ?_)
  exact .dv
 have hok:=P7 h1 h2;rw [en];generalize xW p.op=q at hk hx hy ha hg e3 e17 e17n hok;obtain⟨⟨ux,uy,fa,ag,gr,ev,fr⟩,ok⟩:=q;simp only at hk hx hy ha hg e3 e17 e17n hok ⊢;subst hok;refine xY.Sf mixed func178 Mb (by simp) λhf=>?_;refine wpS_seq (xM mixed ?_);simp only [simprocAttr,-ZA,↓zU,↓zD,zV,zT,zW,Nd.row]
 (repeat refine sd ?_)
 refine wpS_seq (xM mixed ?_);simp only [simprocAttr,-ZA,↓zU,↓zD,zV,zT,zW,h1,h2]
 (repeat refine sd ?_)
 cases hX:yR ux p.x k
 ·refine wpS_seq (xM mixed ?_);simp only [simprocAttr,-ZA,↓zU,↓zD,zV,zT,zW];refine .go (cq hx) ?_
  cases ux
  ·have e:(p.x != 0)= true:=by simpa [yR] using hX
   simp only [simprocAttr,-ZA,↓zU,↓zD,zV,zT,zW];refine .go (cq hx) ?_;simp only [simprocAttr,-ZA,↓zU,↓zD,zV,zT,zW,e];exact .dv
  ·by_cases l1:p.x<0
   ·simp only [simprocAttr,-ZA,↓zU,↓zD,zV,zT,zW,l1];exact .dv
   ·have l2:k<=p.x:=by
     have:0<=p.x:=by omega
     simpa [yR,this] using hX
    simp only [simprocAttr,-ZA,↓zU,↓zD,zV,zT,zW,l1,l2];exact .dv
 refine vy [(2,.ref 0 6 0 0),(1,.int .i64 k)] ⟨1,[(0,⟨6,[p.row]⟩)]⟩ (xM mixed ?_) ?_
 ·simp only [simprocAttr,-ZA,↓zU,↓zD,zV,zT,zW];refine .go (cq hx) ?_
  cases ux
  ·have e:(p.x != 0)= false:=by simpa [yR] using hX
   simp only [simprocAttr,-ZA,↓zU,↓zD,zV,zT,zW];refine .go (cq hx) ?_;simp only [simprocAttr,-ZA,↓zU,↓zD,zV,zT,zW,e]
   (refine xT.same ?_; simp [xS,Fr.get,Nd.row])
  ·have l1:¬ p.x<0:=by simp [yR] at hX; omega
   have l2:¬ k<=p.x:=by simp [yR] at hX; omega
   simp only [simprocAttr,-ZA,↓zU,↓zD,zV,zT,zW,l1,l2];refine .go (cq hx) ?_;simp only [simprocAttr,-ZA,↓zU,↓zD,zV,zT,zW]
   (refine xT.same ?_; simp [xS,Fr.get,Nd.row])
 cases hY:yR uy p.y k
 ·refine wpS_seq (xM mixed ?_);simp only [simprocAttr,-ZA,↓zU,↓zD,zV,zT,zW,Nd.row];refine .go (cq hy) ?_
  cases uy
  ·have e:(p.y != 0)= true:=by simpa [yR] using hY
   simp only [simprocAttr,-ZA,↓zU,↓zD,zV,zT,zW];refine .go (cq hy) ?_;simp only [simprocAttr,-ZA,↓zU,↓zD,zV,zT,zW,e];exact .dv
  ·by_cases l1:p.y<0
   ·simp only [simprocAttr,-ZA,↓zU,↓zD,zV,zT,zW,l1];exact .dv
   ·have l2:k<=p.y:=by
     have:0<=p.y:=by omega
     simpa [yR,this] using hY
    simp only [simprocAttr,-ZA,↓zU,↓zD,zV,zT,zW,l1,l2];exact .dv
 refine vy [(2,.ref 0 6 0 0),(1,.int .i64 k)] ⟨1,[(0,⟨6,[p.row]⟩)]⟩ (xM mixed ?_) ?_
 ·simp only [simprocAttr,-ZA,↓zU,↓zD,zV,zT,zW,Nd.row];refine .go (cq hy) ?_
  cases uy
  ·have e:(p.y != 0)= false:=by simpa [yR] using hY
   simp only [simprocAttr,-ZA,↓zU,↓zD,zV,zT,zW];refine .go (cq hy) ?_;simp only [simprocAttr,-ZA,↓zU,↓zD,zV,zT,zW,e]
   (refine xT.same ?_; simp [xS,Fr.get,Nd.row])
  ·have l1:¬ p.y<0:=by simp [yR] at hY; omega
   have l2:¬ k<=p.y:=by simp [yR] at hY; omega
   simp only [simprocAttr,-ZA,↓zU,↓zD,zV,zT,zW,l1,l2];refine .go (cq hy) ?_;simp only [simprocAttr,-ZA,↓zU,↓zD,zV,zT,zW]
   (refine xT.same ?_; simp [xS,Fr.get,Nd.row])
 simp only [Bool.and_self,Bool.true_eq_false,if_false,reduceCtorEq];refine xM mixed ?_
 rcases hk with ⟨rfl,rfl,rfl,rfl⟩ | ⟨rfl,rfl,rfl,rfl⟩ | ⟨rfl,rfl,rfl,rfl⟩ | ⟨rfl,rfl,rfl,rfl⟩ | ⟨rfl,rfl,rfl,rfl⟩
 ·simp only [simprocAttr,-ZA,↓zU,↓zD,zV,zT,zW,Nd.row,e3,e17,e17n,δ,γ];refine .go (cq ha) ?_;by_cases hi:p.i=0
  case neg=> have ei:(p.i != 0)= true:=bne_iff_ne.2 hi;simp only [simprocAttr,-ZA,↓zU,↓zD,zV,zT,zW,Nd.row,e3,e17,e17n,δ,γ,ei];exact .drop (by simp) (by simp [vw,xH, *])
  have ei:(p.i != 0)= false:=by simpa using hi
  by_cases he:p.e=0
  case neg=> have ee:(p.e != 0)= true:=bne_iff_ne.2 he;simp only [simprocAttr,-ZA,↓zU,↓zD,zV,zT,zW,Nd.row,e3,e17,e17n,δ,γ,ei,ee];exact .drop (by simp) (by simp [vw,xH, *])
  have ee:(p.e != 0)= false:=by simpa using he
  simp only [simprocAttr,-ZA,↓zU,↓zD,zV,zT,zW,Nd.row,e3,e17,e17n,δ,γ,ei,ee];refine .go (cq hg) ?_;by_cases hgz:p.g=0
  case neg=> have eg:(p.g != 0)= true:=bne_iff_ne.2 hgz;simp only [simprocAttr,-ZA,↓zU,↓zD,zV,zT,zW,Nd.row,e3,e17,e17n,δ,γ,ei,ee,eg];exact .drop (by simp) (by simp [vw,xH, *])
  have eg:(p.g != 0)= false:=by simpa using hgz
  simp only [simprocAttr,-ZA,↓zU,↓zD,zV,zT,zW,Nd.row,e3,e17,e17n,δ,γ,ei,ee,eg];refine .go (cq ha) ?_;simp only [simprocAttr,-ZA,↓zU,↓zD,zV,zT,zW,Nd.row,e3,e17,e17n,δ,γ,ei,ee,eg];refine .go (cq hg) ?_;simp only [simprocAttr,-ZA,↓zU,↓zD,zV,zT,zW,Nd.row,e3,e17,e17n,δ,γ,ei,ee,eg];exact .drop (by simp) (by simp [vw,xH, *])
 ·simp only [simprocAttr,-ZA,↓zU,↓zD,zV,zT,zW,Nd.row,e3,e17,e17n,δ,γ];by_cases he:p.e=0
  case neg=> have ee:(p.e != 0)= true:=bne_iff_ne.2 he;simp only [simprocAttr,-ZA,↓zU,↓zD,zV,zT,zW,Nd.row,e3,e17,e17n,δ,γ,ee];exact .drop (by simp) (by simp [vw,xH, *])
  have ee:(p.e != 0)= false:=by simpa using he
  simp only [simprocAttr,-ZA,↓zU,↓zD,zV,zT,zW,Nd.row,e3,e17,e17n,δ,γ,ee];refine .go (cq hg) ?_;by_cases hgz:p.g=0
  case neg=> have eg:(p.g != 0)= true:=bne_iff_ne.2 hgz;simp only [simprocAttr,-ZA,↓zU,↓zD,zV,zT,zW,Nd.row,e3,e17,e17n,δ,γ,ee,eg];exact .drop (by simp) (by simp [vw,xH, *])
  have eg:(p.g != 0)= false:=by simpa using hgz
  by_cases ri1:p.i<0
  ·simp only [simprocAttr,-ZA,↓zU,↓zD,zV,zT,zW,Nd.row,e3,e17,e17n,δ,γ,ee,eg,ri1];exact .drop (by simp) (by simp [vw,xH, *])
  by_cases ri2:8<=p.i
  ·simp only [simprocAttr,-ZA,↓zU,↓zD,zV,zT,zW,Nd.row,e3,e17,e17n,δ,γ,ee,eg,ri1,ri2];have ri3:7<p.i:=by omega
   exact .drop (by simp) (by simp [vw,xH, *])
  have ri3:¬ 7<p.i:=by omega
  simp only [simprocAttr,-ZA,↓zU,↓zD,zV,zT,zW,Nd.row,e3,e17,e17n,δ,γ,ee,eg,ri1,ri2];refine .go (cq ha) ?_;simp only [simprocAttr,-ZA,↓zU,↓zD,zV,zT,zW,Nd.row,e3,e17,e17n,δ,γ,ee,eg,ri1,ri2];refine .go (cq hg) ?_;simp only [simprocAttr,-ZA,↓zU,↓zD,zV,zT,zW,Nd.row,e3,e17,e17n,δ,γ,ee,eg,ri1,ri2];exact .drop (by simp) (by simp [vw,xH, *])
 ·simp only [simprocAttr,-ZA,↓zU,↓zD,zV,zT,zW,Nd.row,e3,e17,e17n,δ,γ];refine .go (cq ha) ?_;by_cases he:p.e=0
  case neg=> have ee:(p.e != 0)= true:=bne_iff_ne.2 he;simp only [simprocAttr,-ZA,↓zU,↓zD,zV,zT,zW,Nd.row,e3,e17,e17n,δ,γ,ee];exact .drop (by simp) (by simp [vw,xH, *])
  have ee:(p.e != 0)= false:=by simpa using he
  simp only [simprocAttr,-ZA,↓zU,↓zD,zV,zT,zW,Nd.row,e3,e17,e17n,δ,γ,ee];refine .go (cq hg) ?_;by_cases hgz:p.g=0
  case neg=> have eg:(p.g != 0)= true:=bne_iff_ne.2 hgz;simp only [simprocAttr,-ZA,↓zU,↓zD,zV,zT,zW,Nd.row,e3,e17,e17n,δ,γ,ee,eg];exact .drop (by simp) (by simp [vw,xH, *])
  have eg:(p.g != 0)= false:=by simpa using hgz
  simp only [simprocAttr,-ZA,↓zU,↓zD,zV,zT,zW,Nd.row,e3,e17,e17n,δ,γ,ee,eg];refine .go (cq ha) ?_
  by_cases ri1:p.i<0
  ·simp only [simprocAttr,-ZA,↓zU,↓zD,zV,zT,zW,Nd.row,e3,e17,e17n,δ,γ,ee,eg,ri1];exact .drop (by simp) (by simp [vw,xH, *])
  by_cases ri2:4<=p.i
  ·simp only [simprocAttr,-ZA,↓zU,↓zD,zV,zT,zW,Nd.row,e3,e17,e17n,δ,γ,ee,eg,ri1,ri2];have ri3:3<p.i:=by omega
   exact .drop (by simp) (by simp [vw,xH, *])
  have ri3:¬ 3<p.i:=by omega
  simp only [simprocAttr,-ZA,↓zU,↓zD,zV,zT,zW,Nd.row,e3,e17,e17n,δ,γ,ee,eg,ri1,ri2];refine .go (cq hg) ?_;simp only [simprocAttr,-ZA,↓zU,↓zD,zV,zT,zW,Nd.row,e3,e17,e17n,δ,γ,ee,eg,ri1,ri2];exact .drop (by simp) (by simp [vw,xH, *])
 ·simp only [simprocAttr,-ZA,↓zU,↓zD,zV,zT,zW,Nd.row,e3,e17,e17n,δ,γ];refine .go (cq ha) ?_;by_cases hi:p.i=0
  case neg=> have ei:(p.i != 0)= true:=bne_iff_ne.2 hi;simp only [simprocAttr,-ZA,↓zU,↓zD,zV,zT,zW,Nd.row,e3,e17,e17n,δ,γ,ei];exact .drop (by simp) (by simp [vw,xH, *])
  have ei:(p.i != 0)= false:=by simpa using hi
  by_cases he:p.e=0
  case neg=> have ee:(p.e != 0)= true:=bne_iff_ne.2 he;simp only [simprocAttr,-ZA,↓zU,↓zD,zV,zT,zW,Nd.row,e3,e17,e17n,δ,γ,ei,ee];exact .drop (by simp) (by simp [vw,xH, *])
  have ee:(p.e != 0)= false:=by simpa using he
  simp only [simprocAttr,-ZA,↓zU,↓zD,zV,zT,zW,Nd.row,e3,e17,e17n,δ,γ,ei,ee];refine .go (cq hg) ?_;simp only [simprocAttr,-ZA,↓zU,↓zD,zV,zT,zW,Nd.row,e3,e17,e17n,δ,γ,ei,ee];refine .go (cq ha) ?_;simp only [simprocAttr,-ZA,↓zU,↓zD,zV,zT,zW,Nd.row,e3,e17,e17n,δ,γ,ei,ee];refine .go (cq hg) ?_
  by_cases rg1:p.g<1
  ·simp only [simprocAttr,-ZA,↓zU,↓zD,zV,zT,zW,Nd.row,e3,e17,e17n,δ,γ,ei,ee,rg1];exact .drop (by simp) (by simp [vw,xH, *])
  by_cases rg2:16<=p.g
  ·simp only [simprocAttr,-ZA,↓zU,↓zD,zV,zT,zW,Nd.row,e3,e17,e17n,δ,γ,ei,ee,rg1,rg2];have rg3:15<p.g:=by omega
   exact .drop (by simp) (by simp [vw,xH, *])
  have rg3:¬ 15<p.g:=by omega
  simp only [simprocAttr,-ZA,↓zU,↓zD,zV,zT,zW,Nd.row,e3,e17,e17n,δ,γ,ei,ee,rg1,rg2];exact .drop (by simp) (by simp [vw,xH, *])
 ·simp only [simprocAttr,-ZA,↓zU,↓zD,zV,zT,zW,Nd.row,e3,e17,e17n,δ,γ];refine .go (cq ha) ?_;simp only [simprocAttr,-ZA,↓zU,↓zD,zV,zT,zW,Nd.row,e3,e17,e17n,δ,γ];refine .go (cq hg) ?_;by_cases hgz:p.g=0
  case neg=> have eg:(p.g != 0)= true:=bne_iff_ne.2 hgz;simp only [simprocAttr,-ZA,↓zU,↓zD,zV,zT,zW,Nd.row,e3,e17,e17n,δ,γ,eg];exact .drop (by simp) (by simp [vw,xH, *])
  have eg:(p.g != 0)= false:=by simpa using hgz
  simp only [simprocAttr,-ZA,↓zU,↓zD,zV,zT,zW,Nd.row,e3,e17,e17n,δ,γ,eg];refine .go (cq ha) ?_
  by_cases ri1:p.i<0
  ·simp only [simprocAttr,-ZA,↓zU,↓zD,zV,zT,zW,Nd.row,e3,e17,e17n,δ,γ,eg,ri1];exact .drop (by simp) (by simp [vw,xH, *])
  by_cases ri2:8<=p.i
  ·simp only [simprocAttr,-ZA,↓zU,↓zD,zV,zT,zW,Nd.row,e3,e17,e17n,δ,γ,eg,ri1,ri2];have ri3:7<p.i:=by omega
   exact .drop (by simp) (by simp [vw,xH, *])
  have ri3:¬ 7<p.i:=by omega
  by_cases re1:p.e<0
  ·simp only [simprocAttr,-ZA,↓zU,↓zD,zV,zT,zW,Nd.row,e3,e17,e17n,δ,γ,eg,ri1,ri2,re1];exact .drop (by simp) (by simp [vw,xH, *])
  by_cases re2:8<=p.e
  ·simp only [simprocAttr,-ZA,↓zU,↓zD,zV,zT,zW,Nd.row,e3,e17,e17n,δ,γ,eg,ri1,ri2,re1,re2];have re3:7<p.e:=by omega
   exact .drop (by simp) (by simp [vw,xH, *])
  have re3:¬ 7<p.e:=by omega
  simp only [simprocAttr,-ZA,↓zU,↓zD,zV,zT,zW,Nd.row,e3,e17,e17n,δ,γ,eg,ri1,ri2,re1,re2];refine .go (cq hg) ?_;simp only [simprocAttr,-ZA,↓zU,↓zD,zV,zT,zW,Nd.row,e3,e17,e17n,δ,γ,eg,ri1,ri2,re1,re2];exact .drop (by simp) (by simp [vw,xH, *])
open Rs Fm
theorem aj (f:List Nd):yU prog 117 [.sl 6 (zB f)] (.int .i64 (yT f)):=by
 refine xY.xN mixed func117 IL (by simp) λhf=>?_;simp only [D.sZ,D.fact,xG] at hf;have hlen:=hf.1.1
 by_cases h1:f.length=0
 ·have e1:((f.length:Int)== 0)= true:=by simpa using h1
  simp only [simprocAttr,-ZA,↓zU,↓zD,zV,zT,zW,xG,e1];rw [show yT f=3 from if_pos (List.length_eq_zero_iff.1 h1)];exact .same
 have e1:((f.length:Int)== 0)= false:=by simpa using h1
 have hne:f ≠ []:=λe=>h1 (by rw [e]; rfl)
 by_cases h2:200<f.length
 ·have h2':(200:Int)<(f.length:Int):=by omega
  simp only [simprocAttr,-ZA,↓zU,↓zD,zV,zT,zW,xG,e1,h2'];rw [show yT f=8 by rw [yT,if_neg hne,if_pos h2]];exact .same
 have h2':¬ (200:Int)<(f.length:Int):=by omega
 rw [show yT f=bX f 0 by rw [yT,if_neg hne,if_neg h2]];simp only [simprocAttr,-ZA,↓zU,↓zD,zV,zT,zW,xG,e1,h2']
 refine xP (λk:Nat=>[(3,.int .i64 k),(0,.sl 6 (zB f))]) (λ_=>⟨0,[]⟩) (λk=>k<=f.length/\bX f 0=bX (f.drop k) k) (λk=>f.length-k) 0 ⟨κ _,rfl⟩ ?_ ?_
 ·(refine xT.same ?_; simp [xS,Fr.get])
 intro k ⟨hk,hi⟩;refine xM mixed ?_;by_cases h:k<f.length
 case neg=>
  have hd:¬ ((k:Int)<(f.length:Int)):=by omega
  rw [Aa (by omega),bX] at hi;simp only [simprocAttr,-ZA,↓zU,↓zD,zV,zT,zW,hd,xG];rw [hi];exact .same
 have hd:((k:Int)<(f.length:Int)):=by omega
 rw [drop_cons (d:=wA) h,bX] at hi;have hg:=sT f h;generalize f.getD k wA=p at hg hi;simp only [simprocAttr,-ZA,↓zU,↓zD,zV,zT,zW,hd,xG,hg,Nd.row]
 (repeat refine sd ?_)
 refine .go (xY.yH (M4 p k) (by simp [D.xR,D.xD,Nd.row])) ?_
 by_cases he:zY p k=0
 ·have e:(zY p k != 0)= false:=by simpa using he
  rw [if_neg (by simpa using he)] at hi;simp only [simprocAttr,-ZA,↓zU,↓zD,zV,zT,zW,e];refine⟨k+1,⟨by omega,hi⟩,?_,by omega⟩
  (refine xT.view (λk=>k) (by simp) (by simp) ?_ (by simp [stays]) (by simp [rY]); simp [YR,vw,vI,Fr.get])
  exact wrap_i64 (by omega)
 ·have e:(zY p k != 0)= true:=bne_iff_ne.2 he;rw [if_pos he] at hi;simp only [simprocAttr,-ZA,↓zU,↓zD,zV,zT,zW,e];rw [hi];exact .dv
end
section
open Rs Fm
namespace Fm
def lz (kO kD:Nat) (out:List Nd) (dl:List Int):Ob:=⟨2,[[xB kO 6 (zB out),xB kD 1 (rows .i64 dl)]]⟩
def GO (nx:Nat) (xZ:List (Nat × Ob)) (kO kD:Nat) (out:List Nd) (dl:List Int) (q:Nd) (d:D) (σ':St):Prop:=
 (∃ k:Nat,sN q out 0=some k/\d = .int .i64 k/\σ'=⟨nx+1,(nx,wQ q.op q.i q.e q.g q.x q.y) :: xZ⟩) \/
 (sN q out 0=none/\d = .int .i64 out.length/\σ'=⟨nx+1+1,yZ (nx+1) 6 (zB (out ++ [q]))++ zL (yC ((nx,wQ q.op q.i q.e q.g q.x q.y) :: xZ) kO) 0 (lz (nx+1) kD (out ++ [q]) dl)⟩)
end Fm
theorem NC {nx kO kD:Nat} {xZ:List (Nat × Ob)} {out:List Nd} {dl:List Int} {q:Nd} {d:D} {σ':St} (h0:St.look xZ 0=some (lz kO kD out dl)) (hn:1<=nx) (hlen:out.length<=1000) (hk0:kO≠0) (hk1:kO≠nx) (hk:St.look xZ kO=wU 6 (zB out))
  (h:GO nx xZ kO kD out dl q d σ'):xY prog 272 [.ref 0 2 0 0,.agg q.row] ⟨nx,xZ⟩ d σ':=by
 have hx0:¬ nx=0:=by omega
 have hx1:¬ nx=kO:=λe=>hk1 e.symm;refine xY.xN mixed func272 JW (by simp) λhf=>?_;simp only [simprocAttr,-ZA,↓zU,↓zD,zV,zT,zW,Nd.row]
 (repeat refine sd ?_)
 refine xP (λk:Nat=>[(5,.int .i64 k),(3,.ref nx 6 0 0),(0,.ref 0 2 0 0)]) (λ_=>⟨nx+1,(nx,wQ q.op q.i q.e q.g q.x q.y) :: xZ⟩) (λk=>k<=out.length/\sN q out 0=sN q (out.drop k) k) (λk=>out.length-k) 0 ⟨κ _,rfl⟩ ?_ ?_
 ·(refine xT.same ?_; simp [xS,Fr.get,wQ])
 intro k ⟨hkl,hi⟩;refine xM mixed ?_;by_cases hlt:k<out.length
 case pos=>
  have hd:(k:Int)<(out.length:Int):=by omega
  have hg:=sT out hlt;rw [drop_cons (d:=wA) hlt,sN] at hi;generalize out.getD k wA=p at hg hi
  by_cases hqp:q=p
  ·subst hqp;rw [if_pos rfl] at hi;have hq:decide ([q.op,q.i,q.e,q.g,q.x,q.y] = [q.op,q.i,q.e,q.g,q.x,q.y])= true:=by simp
   simp only [simprocAttr,-ZA,↓zU,↓zD,zV,zT,zW,hx0,hx1,h0,lz,xG,hd,hk,hg,Nd.row,wQ,Vx,hq]
   (repeat refine sd ?_)
   rcases h with ⟨k',e1,rfl,rfl⟩ | ⟨e1,_,_⟩
   ·rw [hi] at e1;cases e1;simp only [wQ];exact .same
   ·rw [hi] at e1; cases e1
  ·rw [if_neg hqp] at hi
   have hq:decide ([p.op,p.i,p.e,p.g,p.x,p.y] = [q.op,q.i,q.e,q.g,q.x,q.y])= false:=by rw [decide_eq_false_iff_not];exact λh=>hqp (key_inj h).symm
   simp only [simprocAttr,-ZA,↓zU,↓zD,zV,zT,zW,hx0,hx1,h0,lz,xG,hd,hk,hg,Nd.row,wQ,Vx,hq]
   (repeat refine sd ?_)
   refine⟨k+1,⟨by omega,hi⟩,?_,by omega⟩
   (refine xT.same ?_; simp only [xS,Fr.get,simprocAttr,-ZA,zS])
   exact wrap_i64 (by omega)
 have hd:¬ (k:Int)<(out.length:Int):=by omega
 rw [Aa (by omega),sN] at hi
 rcases h with ⟨k',e1,_,_⟩ | ⟨e1,rfl,rfl⟩
 ·rw [hi] at e1; cases e1
 have hq0:¬ kO=0:=hk0;have er:zB (out ++ [q])= zB out ++ [[.int .i64 q.op,.int .i64 q.i,.int .i64 q.e,.int .i64 q.g,.int .i64 q.x,.int .i64 q.y]]:=by simp [zB,Nd.row]
 simp only [simprocAttr,-ZA,↓zU,↓zD,zV,zT,zW,hx0,hx1,h0,lz,xG,hd,hk,Nd.row,wQ,xU,xF,hq0]
 (repeat refine sd ?_)
 rw [er,show IntKind.i64.wrap (((out.length+1:Nat):Int)-1)= (out.length:Int) by rw [wrap_i64 (by omega)]; omega];exact .same
end
section
open Rs Fm
namespace Fm
def Kf (i nx2:Nat) (objs2:List (Nat × Ob)) (kO kD:Nat) (out:List Nd) (dl:List Int) (q:Nd) (d:D) (σ':St):Prop:=
 (∃ k:Nat,sN q out 0=some k/\d = .int .i64 k/\σ'=⟨nx2+1,(nx2,wQ q.op q.i q.e q.g q.x q.y) :: zL objs2 kD ⟨1,rows .i64 (dl.set i k)⟩⟩) \/
 (sN q out 0=none/\d = .int .i64 out.length/\σ'=⟨nx2+1+1,yZ (nx2+1) 6 (zB (out ++ [q]))++ (nx2,wQ q.op q.i q.e q.g q.x q.y) :: zL (zL (yC objs2 kO) 0 (lz (nx2+1) kD (out ++ [q]) dl)) kD ⟨1,rows .i64 (dl.set i (out.length:Int))⟩⟩)
end Fm
theorem MU {f:List Nd} {nx i:Nat} {xZ:List (Nat × Ob)} {kO kD:Nat} {s:CS} {dl:List Int} {p:Nd}
  (h0:St.look xZ 0=some (lz kO kD s.out dl)) (hn:1<=nx) (hkD:kD≠0/\kD<nx/\St.look xZ kD=some ⟨1,rows .i64 dl⟩) (hdl:dl.length=f.length) (hi:i<f.length) (hp:f.getD i wA=p) (hno:dl.getD i 0 = -1)
  {a b:Int} {nx1 nx2:Nat} {O1 O2:List (Nat × Ob)} {kO2:Nat} {out2:List Nd} {dl2:List Int}
  (h3:((xW p.op).1.x=true/\∃ objs1,xY prog 255 [.sl 6 (zB f),.int .i64 p.x,.ref 0 2 0 0] ⟨nx+1,(nx,wQ p.op p.i p.e p.g p.x p.y) :: xZ⟩ (.int .i64 a) ⟨nx1,objs1⟩/\ St.look objs1 nx=some (wQ p.op p.i p.e p.g p.x p.y)/\ O1=zL objs1 nx (wQ p.op p.i p.e p.g a p.y)) \/
   ((xW p.op).1.x=false/\a=p.x/\nx1=nx+1/\O1=(nx,wQ p.op p.i p.e p.g p.x p.y) :: xZ))
  (hN1:St.look O1 nx=some (wQ p.op p.i p.e p.g a p.y))
  (h4:((xW p.op).1.y=true/\∃ objs2,xY prog 255 [.sl 6 (zB f),.int .i64 p.y,.ref 0 2 0 0] ⟨nx1,O1⟩ (.int .i64 b) ⟨nx2,objs2⟩/\ St.look objs2 nx=some (wQ p.op p.i p.e p.g a p.y)/\ O2=zL objs2 nx (wQ p.op p.i p.e p.g a b)) \/
   ((xW p.op).1.y=false/\b=p.y/\nx2=nx1/\O2=O1))
  (hN2:St.look O2 nx=some (wQ p.op p.i p.e p.g a b)) (g0:St.look O2 0=some (lz kO2 kD out2 dl2)) (gD:St.look O2 kD=some ⟨1,rows .i64 dl2⟩) (gd:dl2.length=f.length) (gO:kO2≠0/\kO2≠nx/\kO2≠nx2/\kO2≠kD/\St.look O2 kO2=wU 6 (zB out2)) (hlen:out2.length<=1000) (hnx:nx<nx2)
  {d:D} {σ':St} (h5:Kf i nx2 O2 kO2 kD out2 dl2 ⟨p.op,p.i,p.e,p.g,a,b⟩ d σ') :
  xY prog 255 [.sl 6 (zB f),.int .i64 i,.ref 0 2 0 0] ⟨nx,xZ⟩ d σ':=by
 have hg:=sT f hi;rw [hp] at hg;have hx0:¬ nx=0:=by omega
 have hx1:¬ nx=kD:=by omega
 obtain⟨hkD0,hkDn,hkD⟩:=hkD;obtain⟨gO0,gOn,gO2,gOD,gO⟩:=gO;have hrl:(rows IntKind.i64 dl).length=dl.length:=yO _ _
 have hgd:(rows IntKind.i64 dl).getD i [] = [.int .i64 (-1)]:=by rw [<- hno]; simp [rows,List.getD,hdl,hi]
 refine xY.Sf mixed func255 Ko (by simp) λhf=>?_;refine wpS_seq (xM mixed ?_);simp only [simprocAttr,-ZA,↓zU,↓zD,zV,zT,zW];refine wpS_seq (xM mixed ?_);simp only [simprocAttr,-ZA,↓zU,↓zD,zV,zT,zW,h0,lz,hrl,hdl,hkD,hgd]
 (repeat refine sd ?_)
 refine wpS_seq (xM mixed ?_);simp only [simprocAttr,-ZA,↓zU,↓zD,zV,zT,zW,xG,hg,Nd.row]
 (repeat refine sd ?_)
 refine vy [(7,.ref nx 6 0 0),(2,.ref 0 2 0 0),(1,.int .i64 i),(0,.sl 6 (zB f))] ⟨nx1,O1⟩ (xM mixed ?_) ?_
 ·simp only [simprocAttr,-ZA,↓zU,↓zD,zV,zT,zW];refine .go (cq (Vj p.op)) ?_
  rcases h3 with ⟨ux,objs1,hc,hl,rfl⟩ | ⟨ux,rfl,rfl,rfl⟩
  ·rw [ux];simp only [wQ] at hc hl;simp only [simprocAttr,-ZA,↓zU,↓zD,zV,zT,zW,xG,hg,Nd.row]
   (repeat refine sd ?_)
   refine .go hc ?_;simp only [simprocAttr,-ZA,↓zU,↓zD,zV,zT,zW,hl]
   (repeat refine sd ?_)
   (refine xT.same ?_; simp [xS,Fr.get,wQ])
  ·rw [ux];simp only [simprocAttr,-ZA,↓zU,↓zD,zV,zT,zW]
   (refine xT.same ?_; simp [xS,Fr.get,wQ])
 refine vy [(7,.ref nx 6 0 0),(2,.ref 0 2 0 0),(1,.int .i64 i),(0,.sl 6 (zB f))] ⟨nx2,O2⟩ (xM mixed ?_) ?_
 ·simp only [wQ] at hN1;simp only [simprocAttr,-ZA,↓zU,↓zD,zV,zT,zW,hN1]
  (repeat refine sd ?_)
  refine .go (cq (Vk p.op)) ?_
  rcases h4 with ⟨uy,objs2,hc,hl,rfl⟩ | ⟨uy,rfl,rfl,rfl⟩
  ·rw [uy];simp only [wQ] at hc hl;simp only [simprocAttr,-ZA,↓zU,↓zD,zV,zT,zW,xG,hg,Nd.row]
   (repeat refine sd ?_)
   refine .go hc ?_;simp only [simprocAttr,-ZA,↓zU,↓zD,zV,zT,zW,hl]
   (repeat refine sd ?_)
   (refine xT.same ?_; simp [xS,Fr.get,wQ])
  ·rw [uy];simp only [simprocAttr,-ZA,↓zU,↓zD,zV,zT,zW]
   (refine xT.same ?_; simp [xS,Fr.get,wQ])
 refine xM mixed ?_;have hrl2:(rows IntKind.i64 dl2).length=dl2.length:=yO _ _;have hset:∀ x:Int,(rows IntKind.i64 dl2).set i [.int .i64 x]=rows .i64 (dl2.set i x):=λx=>by simp [rows,List.map_set]
 have hget:∀ x:Int,(rows IntKind.i64 (dl2.set i x)).getD i [] = [.int .i64 x]:=λx=>by simp [rows,List.getD,gd,hi]
 have y0:¬ nx2=0:=by omega
 have y1:¬ nx2=nx:=by omega
 have y2:¬ nx2=kD:=by omega
 have y3:¬ nx2=kO2:=λe=>gO2 e.symm;have y4:¬ nx2+1=0:=by omega
 have y5:¬ nx2+1=nx:=by omega
 have y6:¬ nx2+1=kD:=by omega
 have z1:¬ kD=nx2+1:=by omega
 have z0:¬ 0=kD:=λe=>hkD0 e.symm;have z2:¬ kD=0:=hkD0;have z3:¬ 0=nx:=by omega
 have z4:¬ kD=nx:=by omega
 have z5:¬ kD=nx2:=by omega
 have hgd2:(rows IntKind.i64 dl2).getD i [] = [.int .i64 (dl2.getD i 0)]:=by simp [rows,List.getD,gd,hi]
 simp only [wQ] at hN2;simp only [simprocAttr,-ZA,↓zU,↓zD,zV,zT,zW,g0,lz,hN2]
 (repeat refine sd ?_)
 rcases h5 with ⟨k,e1,rfl,rfl⟩ | ⟨e1,rfl,rfl⟩
 ·refine .go (NC g0 (by omega) hlen gO0 gO2 gO (.inl ⟨k,e1,rfl,rfl⟩)) ?_;simp only [simprocAttr,-ZA,↓zU,↓zD,zV,zT,zW,g0,lz,hN2,y0,y1,y2,wQ,gD,hrl2,gd,xU,hgd2,hset,hget,z0,z2,z3,z4,z5]
  (repeat refine sd ?_)
  exact .same
 ·refine .go (NC g0 (by omega) hlen gO0 gO2 gO (.inr ⟨e1,rfl,rfl⟩)) ?_;simp only [simprocAttr,-ZA,↓zU,↓zD,zV,zT,zW,g0,lz,hN2,y0,y1,y2,y3,y4,y5,y6,gO0,gOn,gOD,wQ,gD,hrl2,gd,xU,xF,hgd2,hset,hget,z0,z1,z2,z3,z4,z5]
  (repeat refine sd ?_)
  exact .same
end
section
open Rs Fm
namespace Fm
structure eC (f : List Nd) (nx : Nat) (xZ : List (Nat × Ob)) (kO kD : Nat) (s : CS) (dl : List Int) : Prop where
 hn:1<=nx
 h0:St.look xZ 0=some (lz kO kD s.out dl)
 hO:s.out = []\/(kO<nx/\kO≠0/\kO≠kD/\St.look xZ kO=wU 6 (zB s.out))
 hD:kD≠0/\kD<nx/\St.look xZ kD=some ⟨1,rows .i64 dl⟩
 dn:dl.length=f.length
 rel:∀ i,i<f.length->dl.getD i 0=(wO (i:Int) s.done).getD (-1)
 pos:∀ z k,wO z s.done=some k->0<=k
 fr:∀ k,nx<=k->St.look xZ k=none
theorem eC.key {f:List Nd} {nx:Nat} {xZ:List (Nat × Ob)} {kO kD:Nat} {s:CS} {dl:List Int} (h:eC f nx xZ kO kD s dl):∃ k,St.look xZ 0=some (lz k kD s.out dl)/\ k≠0/\k≠kD/\St.look xZ k=wU 6 (zB s.out)/\ ((s.out = []/\k=nx+9)\/(s.out ≠ []/\k=kO/\k<nx)):=by
 rcases h.hO with ho | ⟨h1,h2,h3,h4⟩
 ·refine⟨nx+9,?_,by have:=h.hn; omega,by have:=h.hD; omega,?_,.inl ⟨ho,rfl⟩⟩
  ·rw [h.h0,ho]; rfl
  ·rw [h.fr _ (by omega),ho]; rfl
 ·by_cases ho:s.out = []
  ·refine⟨nx+9,?_,by have:=h.hn; omega,by have:=h.hD; omega,?_,.inl ⟨ho,rfl⟩⟩
   ·rw [h.h0,ho]; rfl
   ·rw [h.fr _ (by omega),ho]; rfl
  ·exact⟨kO,h.h0,h2,h3,h4,.inr ⟨ho,rfl,h1⟩⟩
theorem eC.alloc {f:List Nd} {nx:Nat} {xZ:List (Nat × Ob)} {kO kD:Nat} {s:CS} {dl:List Int} (h:eC f nx xZ kO kD s dl) (o:Ob):eC f (nx+1) ((nx,o) :: xZ) kO kD s dl:=by
 obtain⟨hn,h0,hO,hD,dn,rel,pos,fr⟩:=h;have hl:∀ k,k≠nx->St.look ((nx,o) :: xZ) k=St.look xZ k:=λk a=>by rw [xX,if_neg (λe=>a e.symm)]
 refine⟨by omega,by rw [hl 0 (by omega)]; exact h0,?_,⟨hD.1,by omega,by rw [hl kD (by omega)]; exact hD.2.2⟩,dn,rel,pos,λk hk=>by rw [hl k (by omega)]; exact fr k (by omega)⟩
 rcases hO with ho | ⟨a,b,c,d⟩
 ·exact .inl ho
 ·exact .inr ⟨by omega,b,c,by rw [hl kO (by omega)]; exact d⟩
theorem eC.set {f:List Nd} {nx:Nat} {xZ:List (Nat × Ob)} {kO kD:Nat} {s:CS} {dl:List Int} (h:eC f nx xZ kO kD s dl) {j:Nat} (hj:j≠0/\j≠kD/\(s.out = []\/j≠kO)) (o:Ob):eC f nx (zL xZ j o) kO kD s dl:=by
 obtain⟨hn,h0,hO,hD,dn,rel,pos,fr⟩:=h;have hl:∀ k,k≠j->St.look (zL xZ j o) k=St.look xZ k:=λk a=>by rw [xU,if_neg (λe=>a e.symm)]
 refine⟨hn,by rw [hl 0 (by omega)]; exact h0,?_,⟨hD.1,hD.2.1,by rw [hl kD (by omega)]; exact hD.2.2⟩,dn,rel,pos,λk hk=>wJ (fr k hk)⟩
 rcases hO with ho | ⟨a,b,c,d⟩
 ·exact .inl ho
 ·rcases hj.2.2 with e | e
  ·exact .inl e
  ·exact .inr ⟨a,b,c,by rw [hl kO (λh=>e h.symm)]; exact d⟩
theorem Q4 {f:List Nd} {nx nx2 i:Nat} {objs2:List (Nat × Ob)} {kO kD:Nat} {s2:CS} {dl2:List Int} {q:Nd} (hI:eC f nx2 objs2 kO kD s2 dl2) (hi:i<f.length) (hnx:1<=nx) (hlt:nx<nx2) (hk:s2.out = []\/kO≠nx) :
  ∃ k2 nx' objs' kO' dl',Kf i nx2 objs2 k2 kD s2.out dl2 q (.int .i64 (kK i q s2).1) ⟨nx',objs'⟩/\ eC f nx' objs' kO' kD (kK i q s2).2 dl'/\nx2<=nx'/\((kO'=kO/\s2.out ≠ [])\/nx2<=kO')/\
   St.look objs2 0=some (lz k2 kD s2.out dl2)/\ (k2≠0/\k2≠nx/\k2≠nx2/\k2≠kD/\St.look objs2 k2=wU 6 (zB s2.out))/\
   (∀ k,1<=k->k<nx2->k≠kD->(k≠kO\/s2.out = [])->St.look objs' k=St.look objs2 k):=by
 obtain⟨k2,g0,gz,gD,gO,gk⟩:=hI.key;obtain⟨hn,h0,hO,hD,dn,rel,pos,fr⟩:=hI
 have hk2:k2≠nx/\k2≠nx2:=by
  rcases gk with ⟨ho,e⟩ | ⟨ho,e,e2⟩
  ·omega
  ·rcases hk with h | h
   ·exact absurd h ho
   ·omega
 have hdl:∀ x:Int,(dl2.set i x).length=f.length:=λx=>by rw [List.length_set,dn]
 have hrel:∀ (x:Int) (out:List Nd) (j:Nat),j<f.length->(dl2.set i x).getD j 0=(wO (j:Int) (⟨out,nH i x s2.done⟩:CS).done).getD (-1):=by
  intro x out j hj;simp only;rw [sC]
  by_cases e:j=i
  ·subst e;rw [if_pos rfl];simp [List.getD,dn,hj]
  ·rw [if_neg (by omega),<- rel j hj];simp only [List.getD,List.getElem?_set_ne (Ne.symm e)]
 have hpos:∀ (x:Int) (out:List Nd),0<=x->∀ z k,wO z (⟨out,nH i x s2.done⟩:CS).done=some k->0<=k:=by
  intro x out hx z k h;simp only at h;rw [sC] at h
  split at h
  ·cases h; exact hx
  ·exact pos z k h
 cases hq:sN q s2.out 0 with
 | some k=>
  have e:kK i q s2=((k:Int),(⟨s2.out,nH i k s2.done⟩:CS)):=by simp only [kK,hq]
  rw [e]
  refine⟨k2,nx2+1,_,kO,dl2.set i k,.inl ⟨k,hq,rfl,rfl⟩,?_,by omega,.inl ⟨rfl,λe=>by rw [e] at hq; cases hq⟩,g0,⟨gz,hk2.1,hk2.2,gD,gO⟩,λj a1 a2 a3 a4=>?_⟩
  ·have hl:∀ j,j≠nx2->j≠kD->St.look ((nx2,wQ q.op q.i q.e q.g q.x q.y) :: zL objs2 kD ⟨1,rows .i64 (dl2.set i k)⟩) j=St.look objs2 j:=λj a b=>by rw [xX,if_neg (λe=>a e.symm),xU,if_neg (λe=>b e.symm)]
   refine⟨by omega,?_,?_,⟨hD.1,by omega,?_⟩,hdl _,hrel _ _,hpos _ _ (by omega),λj hj=>?_⟩
   ·rw [hl 0 (by omega) (λe=>hD.1 e.symm),h0]
    obtain⟨d0,dr,hdr⟩:∃ a b,dl2=a :: b:=by
     cases dl2 with
     | nil=>simp at dn; omega
     | cons a b=>exact⟨a,b,rfl⟩
    have:xB kD 1 (rows IntKind.i64 (dl2.set i k))= xB kD 1 (rows IntKind.i64 dl2):=by
     rw [hdr]
     cases i with
     | zero=>simp [xB,rows]
     | succ i=>simp [xB,rows]
    simp only [lz,this]
   ·rcases hO with ho | ⟨a,b,c,d⟩
    ·exact .inl ho
    ·exact .inr ⟨by omega,b,c,by rw [hl kO (by omega) c]; exact d⟩
   ·rw [xX,if_neg (by omega),xU,if_pos rfl,hD.2.2]; rfl
   ·rw [hl j (by omega) (by omega)]; exact fr j (by omega)
  ·rw [xX,if_neg (by omega),xU,if_neg (by omega)]
 | none=>
  have e:kK i q s2=((s2.out.length:Int),(⟨s2.out ++ [q],nH i s2.out.length s2.done⟩:CS)):=by simp only [kK,hq]
  rw [e]
  refine⟨k2,nx2+1+1,_,nx2+1,dl2.set i (s2.out.length:Int),.inr ⟨hq,rfl,rfl⟩,?_,by omega,.inr (by omega),g0,⟨gz,hk2.1,hk2.2,gD,gO⟩,λj a1 a2 a3 a4=>?_⟩
  ·have hne:wU 6 (zB (s2.out ++ [q]))≠ none:=by obtain⟨e,r,h⟩:=Sl s2.out q;rw [h]; simp [wU]
   have hl:∀ j,j≠nx2+1->j≠nx2->j≠kD->j≠0->j≠k2->St.look (yZ (nx2+1) 6 (zB (s2.out ++ [q]))++ (nx2,wQ q.op q.i q.e q.g q.x q.y) :: zL (zL (yC objs2 k2) 0 (lz (nx2+1) kD (s2.out ++ [q]) dl2)) kD ⟨1,rows .i64 (dl2.set i (s2.out.length:Int))⟩) j=St.look objs2 j:=λj a b c d e=>by rw [xA,if_neg (λe=>a e.symm),xX,if_neg (λe=>b e.symm),xU,if_neg (λe=>c e.symm),xU,if_neg (λe=>d e.symm),xF,if_neg (λh=>e h.symm)]
   have hgD:xB kD 1 (rows IntKind.i64 (dl2.set i (s2.out.length:Int)))= xB kD 1 (rows IntKind.i64 dl2):=by
    obtain⟨d0,dr,hdr⟩:∃ a b,dl2=a :: b:=by
     cases dl2 with
     | nil=>simp at dn; omega
     | cons a b=>exact⟨a,b,rfl⟩
    rw [hdr]
    cases i with
    | zero=>simp [xB,rows]
    | succ i=>simp [xB,rows]
   refine⟨by omega,?_,.inr ⟨by omega,by omega,by omega,?_⟩,⟨hD.1,by omega,?_⟩,hdl _,hrel _ _,hpos _ _ (by omega),λj hj=>?_⟩
   ·rw [xA,if_neg (by omega),xX,if_neg (by omega),xU,if_neg hD.1,xU,if_pos rfl,xF,if_neg gz,h0];simp only [lz,hgD,Option.map_some]
   ·rw [xA,if_pos rfl]
    cases hgg:wU 6 (zB (s2.out ++ [q])) with
    | none=>exact absurd hgg hne
    | some o=>rfl
   ·rw [xA,if_neg (by omega),xX,if_neg (by omega),xU,if_pos rfl,xU,if_neg (λe=>hD.1 e.symm),xF,if_neg gD,hD.2.2]; rfl
   ·rw [xA,if_neg (by omega),xX,if_neg (by omega)];refine wJ (wJ ?_);rw [xF]
    split
    ·rfl
    ·exact fr j (by omega)
  ·have hjk:j≠k2:=by
    rcases gk with ⟨ho,e⟩ | ⟨ho,e,e2⟩
    ·omega
    ·rcases a4 with a4 | a4
     ·rw [e]; exact a4
     ·exact absurd a4 ho
   rw [xA,if_neg (by omega),xX,if_neg (by omega),xU,if_neg (λe=>a3 e.symm),xU,if_neg (by omega),xF,if_neg (λe=>hjk e.symm)]
end Fm
end
section
open Rs Fm
theorem PF {f:List Nd} {nx i:Nat} {xZ:List (Nat × Ob)} {kO kD:Nat} {s:CS} {dl:List Int} {k:Int} (hI:eC f nx xZ kO kD s dl) (hi:i<f.length) (hu:wO (i:Int) s.done=some k) :
  xY prog 255 [.sl 6 (zB f),.int .i64 i,.ref 0 2 0 0] ⟨nx,xZ⟩ (.int .i64 k) ⟨nx,xZ⟩:=by
 obtain⟨hn,h0,hO,⟨hD0,hDn,hD⟩,dn,rel,pos,fr⟩:=hI;have hr:=rel i hi;rw [hu,Option.getD_some] at hr;have hk:0<=k:=pos _ _ hu;have hrl:(rows IntKind.i64 dl).length=dl.length:=yO _ _
 have hgd:(rows IntKind.i64 dl).getD i [] = [.int .i64 k]:=by rw [<- hr]; simp [rows,List.getD,dn,hi]
 refine xY.xN mixed func255 Ko (by simp) λhf=>?_;simp only [simprocAttr,-ZA,↓zU,↓zD,zV,zT,zW,h0,lz,hrl,dn,hD,hgd,hk]
 (repeat refine sd ?_)
 exact .same
theorem qv {f:List Nd} {kD:Nat} (hc:∀ k,k<f.length->zY (f.getD k wA) k=0) (hlen:f.length<=900):∀ (n:Nat) {i nx:Nat} {xZ:List (Nat × Ob)} {kO:Nat} {s:CS} {dl:List Int},i<n->i<f.length->kB f s->eC f nx xZ kO kD s dl ->
  ∃ nx' objs' kO' dl',eC f nx' objs' kO' kD (xE f n i s).2 dl'/\nx<=nx'/\((kO'=kO/\s.out ≠ [])\/nx<=kO'\/(xE f n i s).2.out = [])/\ (∀ k,1<=k->k<nx->k≠kD->(k≠kO\/s.out = [])->St.look objs' k=St.look xZ k)/\
   xY prog 255 [.sl 6 (zB f),.int .i64 i,.ref 0 2 0 0] ⟨nx,xZ⟩ (.int .i64 (xE f n i s).1) ⟨nx',objs'⟩
 | 0,i,nx,xZ,kO,s,dl,h,_,_,_=>by omega
 | n + 1,i,nx,xZ,kO,s,dl,h,hi,hs,hI=>by
  cases hu:wO (i:Int) s.done with
  | some k=>
   rw [xE,hu];refine⟨nx,xZ,kO,dl,hI,ο _,?_,λ_ _ _ _ _=>rfl,PF hI hi hu⟩
   by_cases ho:s.out = []
   ·exact .inr (.inr ho)
   ·exact .inl ⟨rfl,ho⟩
  | none=>
   rw [mI hu];obtain⟨ox,oy⟩:=mR (hc i hi);simp only;generalize hp:f.getD i wA=p at ox oy;have hno:dl.getD i 0 = -1:=by rw [hI.rel i hi,hu]; rfl
   have hn:=hI.hn;have hD:=hI.hD;have hA:=hI.alloc (wQ p.op p.i p.e p.g p.x p.y);have hA0:∀ k,k<nx->St.look ((nx,wQ p.op p.i p.e p.g p.x p.y) :: xZ) k=St.look xZ k:=λk hk=>by rw [xX,if_neg (by omega)]
   have hAn:St.look ((nx,wQ p.op p.i p.e p.g p.x p.y) :: xZ) nx=some (wQ p.op p.i p.e p.g p.x p.y):=by rw [xX,if_pos rfl]
   have hkO:s.out = []\/kO<nx:=by rcases hI.hO with ho | ⟨a,_⟩; exact .inl ho; exact .inr a
   have S1:∃ nx1 O1 kO1 dl1,eC f nx1 O1 kO1 kD (if (xW p.op).1.x=true then xE f n p.x.toNat s else(p.x,s)).2 dl1/\kB f (if (xW p.op).1.x=true then xE f n p.x.toNat s else(p.x,s)).2/\nx<nx1 /\
     ((kO1=kO/\s.out ≠ [])\/nx+1<=kO1\/(if (xW p.op).1.x=true then xE f n p.x.toNat s else(p.x,s)).2.out = [])/\ (∀ k,1<=k->k<nx->k≠kD->(k≠kO\/s.out = [])->St.look O1 k=St.look xZ k)/\
     (((xW p.op).1.x=true/\∃ objs1,xY prog 255 [.sl 6 (zB f),.int .i64 p.x,.ref 0 2 0 0] ⟨nx+1,(nx,wQ p.op p.i p.e p.g p.x p.y) :: xZ⟩ (.int .i64 (if (xW p.op).1.x=true then xE f n p.x.toNat s else(p.x,s)).1) ⟨nx1,objs1⟩/\ St.look objs1 nx=some (wQ p.op p.i p.e p.g p.x p.y)/\ O1=zL objs1 nx (wQ p.op p.i p.e p.g (if (xW p.op).1.x=true then xE f n p.x.toNat s else(p.x,s)).1 p.y)) \/
      ((xW p.op).1.x=false/\(if (xW p.op).1.x=true then xE f n p.x.toNat s else(p.x,s)).1=p.x/\nx1=nx+1/\O1=(nx,wQ p.op p.i p.e p.g p.x p.y) :: xZ))/\
     St.look O1 nx=some (wQ p.op p.i p.e p.g (if (xW p.op).1.x=true then xE f n p.x.toNat s else(p.x,s)).1 p.y):=by
    by_cases hx:(xW p.op).1.x=true
    ·obtain⟨hx1,hx2⟩:=ox hx;have hxn:((p.x.toNat:Nat):Int)= p.x:=η hx1;obtain⟨nx1,objs1,kO1,dl1,I1,l1,k1,f1,c1⟩:=qv hc hlen n (i:=p.x.toNat) (by omega) (by omega) hs hA;have g1:=oZ hc n (i:=p.x.toNat) (s:=s) (by omega) (by omega) hs;rw [if_pos hx];rw [hxn] at c1
     have hl:St.look objs1 nx=some (wQ p.op p.i p.e p.g p.x p.y):=by rw [f1 nx hn (by omega) (by omega) (by rcases hkO with h | h; exact .inr h; exact .inl (by omega))]; exact hAn
     have hkn:(xE f n p.x.toNat s).2.out = []\/nx≠kO1:=by
      rcases k1 with ⟨e,ho⟩ | h | h
      ·rcases hkO with h | h
       ·exact absurd h ho
       ·exact .inr (by omega)
      ·exact .inr (by omega)
      ·exact .inl h
     refine⟨nx1,_,kO1,dl1,I1.set (j:=nx) ⟨by omega,by omega,hkn⟩ _,g1.1,by omega,k1,λk a1 a2 a3 a4=>?_,.inl ⟨hx,objs1,c1,hl,rfl⟩,?_⟩
     ·rw [xU,if_neg (by omega),f1 k a1 (by omega) a3 a4]; exact hA0 k a2
     ·rw [xU,if_pos rfl,hl]; rfl
    ·rw [if_neg hx];refine⟨nx+1,_,kO,dl,hA,hs,by omega,?_,λk a1 a2 a3 a4=>hA0 k a2,.inr ⟨by simpa using hx,rfl,rfl,rfl⟩,hAn⟩
     by_cases ho:s.out = []
     ·exact .inr (.inr ho)
     ·exact .inl ⟨rfl,ho⟩
   generalize (if (xW p.op).1.x=true then xE f n p.x.toNat s else(p.x,s))= A at S1;obtain⟨nx1,O1,kO1,dl1,I1,F1,l1,k1,f1,c1,n1⟩:=S1
   have hk1:A.2.out = []\/nx≠kO1:=by
    rcases k1 with ⟨e,ho⟩ | h | h
    ·rcases hkO with h | h
     ·exact absurd h ho
     ·exact .inr (by omega)
    ·exact .inr (by omega)
    ·exact .inl h
   have S2:∃ nx2 O2 kO2 dl2,eC f nx2 O2 kO2 kD (if (xW p.op).1.y=true then xE f n p.y.toNat A.2 else(p.y,A.2)).2 dl2/\kB f (if (xW p.op).1.y=true then xE f n p.y.toNat A.2 else(p.y,A.2)).2/\nx1<=nx2 /\
     ((kO2=kO1/\A.2.out ≠ [])\/nx1<=kO2\/(if (xW p.op).1.y=true then xE f n p.y.toNat A.2 else(p.y,A.2)).2.out = [])/\ (∀ k,1<=k->k<nx->k≠kD->(k≠kO1\/A.2.out = [])->St.look O2 k=St.look O1 k)/\
     (((xW p.op).1.y=true/\∃ objs2,xY prog 255 [.sl 6 (zB f),.int .i64 p.y,.ref 0 2 0 0] ⟨nx1,O1⟩ (.int .i64 (if (xW p.op).1.y=true then xE f n p.y.toNat A.2 else(p.y,A.2)).1) ⟨nx2,objs2⟩/\ St.look objs2 nx=some (wQ p.op p.i p.e p.g A.1 p.y)/\ O2=zL objs2 nx (wQ p.op p.i p.e p.g A.1 (if (xW p.op).1.y=true then xE f n p.y.toNat A.2 else(p.y,A.2)).1)) \/
      ((xW p.op).1.y=false/\(if (xW p.op).1.y=true then xE f n p.y.toNat A.2 else(p.y,A.2)).1=p.y/\nx2=nx1/\O2=O1))/\
     St.look O2 nx=some (wQ p.op p.i p.e p.g A.1 (if (xW p.op).1.y=true then xE f n p.y.toNat A.2 else(p.y,A.2)).1):=by
    by_cases hy:(xW p.op).1.y=true
    ·obtain⟨hy1,hy2⟩:=oy hy;have hyn:((p.y.toNat:Nat):Int)= p.y:=η hy1;obtain⟨nx2,objs2,kO2,dl2,I2,l2,k2,f2,c2⟩:=qv hc hlen n (i:=p.y.toNat) (by omega) (by omega) F1 I1;have g2:=oZ hc n (i:=p.y.toNat) (s:=A.2) (by omega) (by omega) F1;rw [if_pos hy];rw [hyn] at c2
     have hl:St.look objs2 nx=some (wQ p.op p.i p.e p.g A.1 p.y):=by rw [f2 nx hn (by omega) (by omega) (by rcases hk1 with h | h; exact .inr h; exact .inl h)]; exact n1
     have hkn:(xE f n p.y.toNat A.2).2.out = []\/nx≠kO2:=by
      rcases k2 with ⟨e,ho⟩ | h | h
      ·rcases hk1 with h | h
       ·exact absurd h ho
       ·exact .inr (by omega)
      ·exact .inr (by omega)
      ·exact .inl h
     refine⟨nx2,_,kO2,dl2,I2.set (j:=nx) ⟨by omega,by omega,hkn⟩ _,g2.1,by omega,k2,λk a1 a2 a3 a4=>?_,.inl ⟨hy,objs2,c2,hl,rfl⟩,?_⟩
     ·rw [xU,if_neg (by omega),f2 k a1 (by omega) a3 a4]
     ·rw [xU,if_pos rfl,hl]; rfl
    ·rw [if_neg hy];refine⟨nx1,_,kO1,dl1,I1,F1,by omega,?_,λk a1 a2 a3 a4=>rfl,.inr ⟨by simpa using hy,rfl,rfl,rfl⟩,n1⟩
     by_cases ho:A.2.out = []
     ·exact .inr (.inr ho)
     ·exact .inl ⟨rfl,ho⟩
   generalize (if (xW p.op).1.y=true then xE f n p.y.toNat A.2 else(p.y,A.2))= B at S2;obtain⟨nx2,O2,kO2,dl2,I2,F2,l2,k2,f2,c2,n2⟩:=S2
   have hk2:B.2.out = []\/kO2≠nx:=by
    rcases k2 with ⟨e,ho⟩ | h | h
    ·rcases hk1 with h | h
     ·exact absurd h ho
     ·exact .inr (by omega)
    ·exact .inr (by omega)
    ·exact .inl h
   obtain⟨kk,nx',objs',kO',dl',e1,e2,e3,e4,e5,e6,e7⟩:=Q4 (q:=⟨p.op,p.i,p.e,p.g,A.1,B.1⟩) (i:=i) (nx:=nx) I2 hi hn (by omega) hk2
   refine⟨nx',objs',kO',dl',e2,by omega,?_,λk a1 a2 a3 a4=>?_,MU hI.h0 hn hD hI.dn hi hp hno c1 n1 c2 n2 e5 I2.hD.2.2 I2.dn e6 (by have:=F2.len; omega) (by omega) e1⟩
   ·rcases e4 with ⟨a,b⟩ | h
    ·rcases k2 with ⟨c,d⟩ | h | h
     ·rcases k1 with ⟨c',d'⟩ | h | h
      ·exact .inl ⟨by omega,d'⟩
      ·exact .inr (.inl (by omega))
      ·exact absurd h d
     ·exact .inr (.inl (by omega))
     ·exact absurd h b
    ·exact .inr (.inl (by omega))
   ·have ka:k≠kO1\/A.2.out = []:=by
     rcases k1 with ⟨c',d'⟩ | h | h
     ·rcases a4 with a4 | a4
      ·exact .inl (by omega)
      ·exact absurd a4 d'
     ·exact .inl (by omega)
     ·exact .inr h
    have kb:k≠kO2\/B.2.out = []:=by
     rcases k2 with ⟨c',d'⟩ | h | h
     ·rcases ka with a4 | a4
      ·exact .inl (by omega)
      ·exact absurd a4 d'
     ·exact .inl (by omega)
     ·exact .inr h
    rw [e7 k a1 (by omega) a3 kb,f2 k a1 a2 a3 ka,f1 k a1 a2 a3 a4]
open Rs Fm
theorem RE (f:List Nd) (i:Int):yU prog 223 [.sl 6 (zB f),.int .i64 i] (.sl 6 (zB (nS f i))):=by
 refine xY.xN mixed func223 JL (by simp) λhf=>?_;simp only [simprocAttr,-ZA,↓zU,↓zD,zV,zT,zW];refine .go (cr (aj f)) ?_;by_cases hc:yT f=0
 case neg=> have e:(yT f != 0)= true:=bne_iff_ne.2 hc;simp only [simprocAttr,-ZA,↓zU,↓zD,zV,zT,zW,e];rw [show nS f i = [] from if_pos (.inl hc)];exact .drop (by simp) (by simp [vw,zB])
 have e:(yT f != 0)= false:=by simpa using hc
 by_cases h1:i<0
 ·simp only [simprocAttr,-ZA,↓zU,↓zD,zV,zT,zW,e,h1];rw [show nS f i = [] from if_pos (.inr (.inl h1))];exact .drop (by simp) (by simp [vw,zB])
 by_cases h2:(f.length:Int)<=i
 ·simp only [simprocAttr,-ZA,↓zU,↓zD,zV,zT,zW,e,h1,xG,h2];rw [show nS f i = [] from if_pos (.inr (.inr h2))];exact .drop (by simp) (by simp [vw,zB])
 obtain⟨j,rfl⟩:=θ (show 0<=i by omega);obtain⟨c1,c2,c3⟩:=vB hc;rw [show nS f j=uF f j by rw [nS,if_neg (by omega),ζ]];simp only [simprocAttr,-ZA,↓zU,↓zD,zV,zT,zW,e,h1,xG,h2]
 refine xP (λk:Nat=>[(6,.int .i64 k),(5,.ref 0 2 0 0),(1,.int .i64 j),(0,.sl 6 (zB f))]) (λk=>⟨2,yZ 1 1 (rows .i64 (List.replicate k (-1)))++ [(0,⟨2,[[.xO,xB 1 1 (rows .i64 (List.replicate k (-1)))]]⟩)]⟩) (λk=>k<=f.length) (λk=>f.length-k) 0 (κ _) ?_ ?_
 ·(refine xT.tP [] [0] (by simp) (by simp) (by decide) ?_; simp only [yQ,zQ,simprocAttr,-ZA,exists_eq_left',ne_eq,zR,List.replicate_zero,mT,wR,wS,List.nil_append])
 intro k hk;refine xM mixed ?_
 by_cases h:k<f.length
 ·have hd:((k:Int)<(f.length:Int)):=by omega
  have hw:IntKind.i64.wrap ((k:Int)+ 1)= ((k+1:Nat):Int):=wrap_i64 (by omega);have hrl:(rows IntKind.i64 (List.replicate k (-1))).length=k:=by simp [rows]
  have hsn:rows IntKind.i64 (List.replicate (k+1) (-1))= rows .i64 (List.replicate k (-1))++ [[.int .i64 (-1)]]:=by rw [List.replicate_succ']; simp [rows]
  simp only [simprocAttr,-ZA,↓zU,↓zD,zV,zT,zW,hd,xG,hrl]
  (repeat refine sd ?_)
  refine⟨k+1,by omega,?_,by omega⟩;rw [hsn]
  (refine xT.tP [(1,2)] [1,0] (by simp) (by simp) (by decide) ?_; simp only [yQ,zQ,simprocAttr,-ZA,exists_eq_left',ne_eq,zR,hw])
 have hd:¬ ((k:Int)<(f.length:Int)):=by omega
 obtain rfl:k=f.length:=by omega
 simp only [simprocAttr,-ZA,↓zU,↓zD,zV,zT,zW,hd,xG];have hne:0<f.length:=by cases f with | nil=>exact absurd rfl c1 | cons a b=>simp
 have hI0:eC f 2 (yZ 1 1 (rows .i64 (List.replicate f.length (-1)))++ [(0,⟨2,[[.xO,xB 1 1 (rows .i64 (List.replicate f.length (-1)))]]⟩)]) 11 1 ⟨[],[]⟩ (List.replicate f.length (-1)):=by
  have hcons:∃ a b,rows IntKind.i64 (List.replicate f.length (-1))= a :: b:=by
   cases hl:f.length with
   | zero=>omega
   | succ m=>exact⟨_,_,rfl⟩
  refine⟨by omega,by rw [xA,if_neg (by omega)]; rfl,.inl rfl,⟨by omega,by omega,?_⟩,by simp,λi hi=>?_,λz k h=>(by cases h),λk hk=>?_⟩
  ·obtain⟨a,b,hab⟩:=hcons;rw [hab]; rfl
  ·simp [List.getD,hi,wO]
  ·rw [xA,if_neg (by omega),xX,if_neg (by omega)]; rfl
 obtain⟨nx',objs',kO',dl',I1,_,_,_,cc⟩:=qv c3 (by omega) (j+1) (i:=j) (by omega) (show j<f.length by omega) ⟨ο _,by simp,λp hp=>by cases hp⟩ hI0;have ee:(xE f (j+1) j ⟨[],[]⟩).2.out=uF f j:=rfl;have g0:=I1.h0;have gO:=I1.hO;rw [ee] at g0 gO;refine .go cc ?_;simp only [simprocAttr,-ZA,↓zU,↓zD,zV,zT,zW,g0,lz]
 (repeat refine sd ?_)
 rcases gO with hO | ⟨a1,a2,a3,a4⟩
 ·rw [hO];exact .drop (by simp) (by simp [vw,zB,xB])
 ·exact .drop (by simp) (iO (by simp) (aW _) a4)
theorem iH (f:List Nd):yU prog 179 [.sl 6 (zB f)] (.sl 6 (zB (yY f))):=by refine xY.xN mixed func179 Iv (by simp) λhf=>?_;simp only [D.sZ,D.fact,xG] at hf;have hlen:=hf.1.1;have e:IntKind.i64.wrap ((f.length:Int)-1)= (f.length:Int)-1:=wrap_i64 (by omega);simp only [simprocAttr,-ZA,↓zU,↓zD,zV,zT,zW,xG,e];refine .go (cr (RE f _)) ?_;simp only [simprocAttr,-ZA,↓zU,↓zD,zV,zT,zW];exact .same
theorem ZQ (f:List Nd):yU prog 182 [.sl 6 (zB f)] (.int .i64 (kV f)):=by
 have hlen:=lV f ((f.length:Int)-1);rw [show nS f ((f.length:Int)-1)= yY f from rfl] at hlen;have hnd:=xv f
 have hall:∀ p ∈ yY f,rE p<4096:=λp hp=>by obtain⟨k,hk⟩:=kY hnd hp;exact XS hk
 refine xY.xN mixed func182 Iy (by simp) λhf=>?_;simp only [simprocAttr,-ZA,↓zU,↓zD,zV,zT,zW];refine .go (cr (iH f)) ?_;simp only [simprocAttr,-ZA,↓zU,↓zD,zV,zT,zW];unfold kV;generalize yY f=c at hlen hnd hall
 refine xP (λk:Nat=>[(5,.int .i64 k),(4,.int .i64 (zZ rE (c.take k))),(3,.sl 6 (zB c))]) (λ_=>⟨0,[]⟩) (λk=>k<=c.length) (λk=>c.length-k) 0 (κ _) ?_ ?_
 ·(refine xT.same ?_; simp [xS,Fr.get,zZ])
 intro k hk;refine xM mixed ?_
 by_cases h:k<c.length
 ·have hd:((k:Int)<(c.length:Int)):=by omega
  have hw:IntKind.i64.wrap ((k:Int)+ 1)= ((k+1:Nat):Int):=wrap_i64 (by omega);have hg:=sT c h;have hq:=hnd k h;have hlt:zZ rE (c.take k)<2 ^ 12:=nK λp hp=>hall p (χ hp);have hs:zZ rE (c.take (k+1))= zZ rE (c.take k) ||| rE (c.getD k wA):=by rw [zA (d:=wA) h,lN]
  generalize c.getD k wA=p at hg hq hs;have hu:=WQ p.op
  by_cases h3:p.op=3
  ·have e3:(p.op==3)= true:=by simpa using h3
   rw [e3] at hu;obtain⟨i0,i7⟩:=lP hq hu.symm;obtain⟨m,hm⟩:=θ i0;have hm7:m<=7:=by omega
   have hp2:(2:Nat)^ m<2 ^ 62:=μ (by omega) (by omega);have hor:=kh (a:=zZ rE (c.take k)) (b:=2 ^ m) (by omega) hp2;have hfn:rE p=2 ^ m:=by rw [rE,if_pos hu.symm,hm,ζ]
   simp only [simprocAttr,-ZA,↓zU,↓zD,zV,zT,zW,hd,xG,hg,Nd.row,e3,hm,TO (show m<=61 by omega),hor]
   (repeat refine sd ?_)
   refine⟨k+1,by omega,?_,by omega⟩;rw [hs,hfn]
   (refine xT.same ?_; simp only [xS,Fr.get,simprocAttr,-ZA,zS])
   exact hw
  ·have e3:(p.op==3)= false:=by simpa using h3
   rw [e3] at hu;have hfn:rE p=0:=by rw [rE,if_neg (by rw [<- hu]; simp)]
   simp only [simprocAttr,-ZA,↓zU,↓zD,zV,zT,zW,hd,xG,hg,Nd.row,e3]
   (repeat refine sd ?_)
   refine⟨k+1,by omega,?_,by omega⟩;rw [hs,hfn,Nat.or_zero]
   (refine xT.same ?_; simp only [xS,Fr.get,simprocAttr,-ZA,zS])
   exact hw
 have hd:¬ ((k:Int)<(c.length:Int)):=by omega
 obtain rfl:k=c.length:=by omega
 simp only [simprocAttr,-ZA,↓zU,↓zD,zV,zT,zW,hd,xG];exact .same
end
open Rs Fm
namespace Fm
inductive Tr where
 | nil
 | nd (op i e g:Int) (x y:Tr)
def um (f:List Nd):Nat->Nat->Tr
 | 0,_=>.nil
 | n+1,i=>.nd (f.getD i wA).op (f.getD i wA).i (f.getD i wA).e (f.getD i wA).g (if (xW (f.getD i wA).op).1.x=true then um f n (f.getD i wA).x.toNat else .nil) (if (xW (f.getD i wA).op).1.y=true then um f n (f.getD i wA).y.toNat else .nil)
def tree (f:List Nd) (i:Nat):Tr:=um f (i+1) i
def LM : Tr->Prop
 | .nil=>False
 | .nd op i e g x y=>zY ⟨op,i,e,g,0,0⟩ 1=0/\(if (xW op).1.x=true then LM x else x = .nil)/\ (if (xW op).1.y=true then LM y else y = .nil)
def rL : Tr->List Nd->Int × List Nd
 | .nil,out=>(0,out)
 | .nd op i e g x y,out=>
  let a:=if (xW op).1.x=true then rL x out else(0,out)
  let b:=if (xW op).1.y=true then rL y a.2 else(0,a.2)
  match sN ⟨op,i,e,g,a.1,b.1⟩ b.2 0 with
  | some k=>((k:Int),b.2)
  | none=>((b.2.length:Int),b.2 ++ [⟨op,i,e,g,a.1,b.1⟩])
def canon (t:Tr):List Nd:=(rL t []).2
theorem rS {p:Nd} {k:Nat} (h:zY p k=0):((xW p.op).1.x=true->0<=p.x/\p.x.toNat<k)/\ ((xW p.op).1.y=true->0<=p.y/\p.y.toNat<k)/\ ((xW p.op).1.x=false->p.x=0)/\ ((xW p.op).1.y=false->p.y=0):=by
 obtain⟨h1,h2⟩:=mR h;rw [vN] at h;obtain⟨_,h3,h4,_⟩:=h
 refine⟨λhx=>?_,λhy=>?_,λhx=>?_,λhy=>?_⟩
 ·have:=h1 hx; omega
 ·have:=h2 hy; omega
 ·rw [hx] at h3; simpa [yR] using h3
 ·rw [hy] at h4; simpa [yR] using h4
theorem iT {f:List Nd} (hv:vU f):∀ (n m i:Nat),i<n->i<m->i<f.length->um f n i=um f m i
 | 0,_,_,h,_,_=>by omega
 | _+1,0,_,_,h,_=>by omega
 | n+1,m+1,i,h1,h2,hi=>by
  obtain⟨ox,oy,_,_⟩:=rS (hv i hi);unfold um
  congr 1
  ·by_cases hx:(xW (f.getD i wA).op).1.x=true
   ·rw [if_pos hx,if_pos hx];exact iT hv n m _ (by have:=ox hx; omega) (by have:=ox hx; omega) (by have:=ox hx; omega)
   ·rw [if_neg hx,if_neg hx]
  ·by_cases hy:(xW (f.getD i wA).op).1.y=true
   ·rw [if_pos hy,if_pos hy];exact iT hv n m _ (by have:=oy hy; omega) (by have:=oy hy; omega) (by have:=oy hy; omega)
   ·rw [if_neg hy,if_neg hy]
theorem rA {f:List Nd} (hv:vU f) {i:Nat} (hi:i<f.length):tree f i = .nd (f.getD i wA).op (f.getD i wA).i (f.getD i wA).e (f.getD i wA).g (if (xW (f.getD i wA).op).1.x=true then tree f (f.getD i wA).x.toNat else .nil) (if (xW (f.getD i wA).op).1.y=true then tree f (f.getD i wA).y.toNat else .nil):=by
 obtain⟨ox,oy,_,_⟩:=rS (hv i hi);unfold tree;rw [um]
 congr 1
 ·by_cases hx:(xW (f.getD i wA).op).1.x=true
  ·rw [if_pos hx,if_pos hx];exact iT hv _ _ _ (by have:=ox hx; omega) (by omega) (by have:=ox hx; omega)
  ·rw [if_neg hx,if_neg hx]
 ·by_cases hy:(xW (f.getD i wA).op).1.y=true
  ·rw [if_pos hy,if_pos hy];exact iT hv _ _ _ (by have:=oy hy; omega) (by omega) (by have:=oy hy; omega)
  ·rw [if_neg hy,if_neg hy]
theorem XV {l r:List Nd} {k:Nat} (h:k<l.length):(l++r).getD k wA=l.getD k wA:=by simp only [List.getD,List.getElem?_append_left h]
theorem zh {l r:List Nd} (h:vU (l++r)):vU l:=λk hk=>by
 have:=h k (by simp; omega)
 rwa [XV hk] at this
theorem bA {l r:List Nd} (hv:vU (l++r)):∀ (k:Nat),k<l.length->tree (l++r) k=tree l k:=by
 intro k
 induction k using Nat.strongRecOn with
 | _ k ih=>
  intro hk;obtain⟨ox,oy,_,_⟩:=rS (zh hv k hk);rw [rA hv (by simp; omega),rA (zh hv) hk,XV hk]
  congr 1
  ·by_cases hx:(xW (l.getD k wA).op).1.x=true
   ·rw [if_pos hx,if_pos hx];exact ih _ (by have:=ox hx; omega) (by have:=ox hx; omega)
   ·rw [if_neg hx,if_neg hx]
  ·by_cases hy:(xW (l.getD k wA).op).1.y=true
   ·rw [if_pos hy,if_pos hy];exact ih _ (by have:=oy hy; omega) (by have:=oy hy; omega)
   ·rw [if_neg hy,if_neg hy]
theorem WK {f:List Nd} (hv:vU f):∀ (i:Nat),i<f.length->LM (tree f i):=by
 intro i
 induction i using Nat.strongRecOn with
 | _ i ih=>
  intro hi;obtain⟨ox,oy,zx,zy⟩:=rS (hv i hi);rw [rA hv hi]
  refine⟨eQ (hv i hi) ?_ ?_,?_,?_⟩
  ·split
   ·omega
   ·rename_i h; exact(zx (by simpa using h)).symm
  ·split
   ·omega
   ·rename_i h; exact(zy (by simpa using h)).symm
  ·by_cases hx:(xW (f.getD i wA).op).1.x=true
   ·rw [if_pos hx,if_pos hx];exact ih _ (by have:=ox hx; omega) (by have:=ox hx; omega)
   ·rw [if_neg hx,if_neg hx]
  ·by_cases hy:(xW (f.getD i wA).op).1.y=true
   ·rw [if_pos hy,if_pos hy];exact ih _ (by have:=oy hy; omega) (by have:=oy hy; omega)
   ·rw [if_neg hy,if_neg hy]
theorem ij {q:Nd}:∀ {l:List Nd} {k j:Nat},sN q l k=some j->k<=j/\j-k<l.length/\l.getD (j-k) wA=q
 | [],_,_,h=>by cases h
 | p :: r,k,j,h=>by
  unfold sN at h
  by_cases e:q=p
  ·rw [if_pos e] at h; cases h; simp [e]
  ·rw [if_neg e] at h;obtain⟨h1,h2,h3⟩:=ij h;refine⟨by omega,by simp only [List.length_cons]; omega,?_⟩;rw [show j-k=j-(k+1)+ 1 by omega,Ab]; exact h3
theorem XZ {q:Nd}:∀ {l:List Nd} {k:Nat},sN q l k=none->q ∉ l
 | [],_,_=>by simp
 | p :: r,k,h=>by
  unfold sN at h
  by_cases e:q=p
  ·rw [if_pos e] at h; cases h
  ·rw [if_neg e] at h;simp only [List.mem_cons,not_or];exact⟨e,XZ h⟩
theorem Vw {q:Nd}:∀ {l:List Nd} {k j:Nat},l.Nodup->j<l.length->l.getD j wA=q->sN q l k=some (k+j)
 | [],_,_,_,h,_=>by simp at h
 | p :: r,k,j,hn,h,hq=>by
  unfold sN
  cases j with
  | zero=>rw [if_pos (by simpa using hq.symm)]; rfl
  | succ j=>
   rw [Ab] at hq;have hj:j<r.length:=by simpa using h
   have hm:q ∈ r:=by
    have:r.getD j wA=r[j]:=by simp [List.getD,hj]
    rw [<- hq,this]; exact List.getElem_mem hj
   rw [if_neg (λe:q=p=>(List.nodup_cons.1 hn).1 (e ▸ hm)),Vw (List.nodup_cons.1 hn).2 hj hq];congr 1; omega
theorem yj : ∀ (t:Tr) (out:List Nd) (k:Nat),vU out->out.Nodup->k<out.length->tree out k=t->rL t out=((k:Int),out)
 | .nil,out,k,hv,hn,hk,ht=>by rw [rA hv hk] at ht; cases ht
 | .nd op i e g x y,out,k,hv,hn,hk,ht=>by
  obtain⟨ox,oy,zx,zy⟩:=rS (hv k hk);rw [rA hv hk] at ht;simp only [Tr.nd.injEq] at ht;obtain⟨rfl,rfl,rfl,rfl,hx,hy⟩:=ht
  have ha:(if (xW (out.getD k wA).op).1.x=true then rL x out else(0,out))= ((out.getD k wA).x,out):=by
   by_cases h:(xW (out.getD k wA).op).1.x=true
   ·rw [if_pos h] at hx ⊢;rw [yj x out _ hv hn (by have:=ox h; omega) hx,η (ox h).1]
   ·rw [if_neg h,zx (by simpa using h)]
  have hb:(if (xW (out.getD k wA).op).1.y=true then rL y out else(0,out))= ((out.getD k wA).y,out):=by
   by_cases h:(xW (out.getD k wA).op).1.y=true
   ·rw [if_pos h] at hy ⊢;rw [yj y out _ hv hn (by have:=oy h; omega) hy,η (oy h).1]
   ·rw [if_neg h,zy (by simpa using h)]
  unfold rL;simp only [ha,hb];rw [Vw (k:=0) hn hk rfl,Nat.zero_add]
theorem eM : ∀ (t:Tr) (out:List Nd),LM t->vU out->out.Nodup->vU (rL t out).2/\(rL t out).2.Nodup/\(∃ l,(rL t out).2=out++l)/\ ∃ k:Nat,(rL t out).1=k/\k<(rL t out).2.length/\tree (rL t out).2 k=t/\((rL t out).2=out\/k+1=(rL t out).2.length)
 | .nil,out,h,_,_=>h.elim
 | .nd op i e g x y,out,⟨h1,h2,h3⟩,hv,hn=>by
  have A:∃ (a:Int) (oa:List Nd),(if (xW op).1.x=true then rL x out else(0,out))= (a,oa)/\ vU oa/\oa.Nodup/\(∃ l,oa=out++l)/\ (if (xW op).1.x=true then 0<=a/\a<(oa.length:Int)/\ tree oa a.toNat=x/\(oa=out\/a+1=oa.length) else a=0/\oa=out):=by
   by_cases hx:(xW op).1.x=true
   ·rw [if_pos hx] at h2 ⊢;obtain⟨v,n,l,k,e1,e2,e3,e4⟩:=eM x out h2 hv hn;refine⟨_,_,rfl,v,n,l,?_⟩;rw [if_pos hx,e1,ζ];exact⟨by omega,by omega,e3,e4.imp id λh=>by omega⟩
   ·rw [if_neg hx] at h2 ⊢;exact⟨0,out,rfl,hv,hn,⟨[],by simp⟩,by rw [if_neg hx]; exact⟨rfl,rfl⟩⟩
  obtain⟨a,oa,ea,va,na,⟨la,rfl⟩,ha⟩:=A
  have B:∃ (b:Int) (ob:List Nd),(if (xW op).1.y=true then rL y (out++la) else(0,out++la))= (b,ob)/\ vU ob/\ob.Nodup/\(∃ l,ob=out++la++l)/\ (if (xW op).1.y=true then 0<=b/\b<(ob.length:Int)/\ tree ob b.toNat=y/\(ob=out++la\/b+1=ob.length) else b=0/\ob=out++la):=by
   by_cases hy:(xW op).1.y=true
   ·rw [if_pos hy] at h3 ⊢;obtain⟨v,n,l,k,e1,e2,e3,e4⟩:=eM y (out++la) h3 va na;refine⟨_,_,rfl,v,n,l,?_⟩;rw [if_pos hy,e1,ζ];exact⟨by omega,by omega,e3,e4.imp id λh=>by omega⟩
   ·rw [if_neg hy] at h3 ⊢;exact⟨0,out++la,rfl,va,na,⟨[],by simp⟩,by rw [if_neg hy]; exact⟨rfl,rfl⟩⟩
  obtain⟨b,ob,eb,vb,nb,⟨lb,rfl⟩,hb⟩:=B
  have hE:∀ n:Nat,(out++la++lb).length<=n->zY ⟨op,i,e,g,a,b⟩ n=0:=λn hln=>by
   refine eQ (p:=⟨op,i,e,g,0,0⟩) h1 ?_ ?_
   ·simp only
    split
    ·rename_i h; rw [if_pos h] at ha; simp only [ω] at hln ha; omega
    ·rename_i h; rw [if_neg h] at ha; exact ha.1
   ·simp only
    split
    ·rename_i h; rw [if_pos h] at hb; omega
    ·rename_i h; rw [if_neg h] at hb; exact hb.1
  have tx:(if (xW op).1.x=true then tree (out++la++lb) a.toNat else .nil)= x:=by
   by_cases hx:(xW op).1.x=true
   ·rw [if_pos hx] at ha ⊢;rw [bA vb _ (by omega)]; exact ha.2.2.1
   ·rw [if_neg hx] at h2 ⊢; exact h2.symm
  have ty:(if (xW op).1.y=true then tree (out++la++lb) b.toNat else .nil)= y:=by
   by_cases hy:(xW op).1.y=true
   ·rw [if_pos hy] at hb ⊢;exact hb.2.2.1
   ·rw [if_neg hy] at h3 ⊢; exact h3.symm
  have hr:rL (.nd op i e g x y) out=match sN ⟨op,i,e,g,a,b⟩ (out++la++lb) 0 with
    | some k=>((k:Int),out++la++lb)
    | none=>(((out++la++lb).length:Int),out++la++lb ++ [⟨op,i,e,g,a,b⟩]):=by
   conv=>lhs; unfold rL
   simp only [ea,eb]
  rw [hr]
  cases hq:sN ⟨op,i,e,g,a,b⟩ (out++la++lb) 0 with
  | some k=>
   obtain⟨_,k1,k2⟩:=ij hq;rw [Nat.sub_zero] at k1 k2;have hvk:=vb k k1;obtain⟨ox,oy,_,_⟩:=rS hvk;rw [k2] at ox oy;simp only at ox oy
   refine⟨vb,nb,⟨la++lb,by simp⟩,k,rfl,k1,?_,.inl ?_⟩
   ·rw [rA vb k1,k2];simp only [tx,ty]
   ·show out++la++lb=out
    have e1:out++la++lb=out++la:=by
     by_cases hy:(xW op).1.y=true
     ·rw [if_pos hy] at hb
      rcases hb.2.2.2 with h | h
      ·exact h
      ·have:=oy hy; omega
     ·rw [if_neg hy] at hb; exact hb.2
    have e2:out++la=out:=by
     by_cases hx:(xW op).1.x=true
     ·rw [if_pos hx] at ha
      rcases ha.2.2.2 with h | h
      ·exact h
      ·have:=ox hx;rw [e1] at k1;omega
     ·rw [if_neg hx] at ha; exact ha.2
    rw [e1,e2]
  | none=>
   have vs:vU (out++la++lb ++ [⟨op,i,e,g,a,b⟩]):=zi vb (hE _ (ο _))
   refine⟨vs,?_,⟨la++lb ++ [⟨op,i,e,g,a,b⟩],by simp⟩,(out++la++lb).length,rfl,by simp,?_,.inr (by simp only [ω,List.length_singleton])⟩
   ·rw [List.nodup_append];refine⟨nb,by simp,λp hp q hq'=>?_⟩;rw [List.mem_singleton] at hq';subst hq';exact λe=>XZ hq (e ▸ hp)
   ·have hgl:(out++la++lb ++ [(⟨op,i,e,g,a,b⟩:Nd)]).getD (out++la++lb).length wA=⟨op,i,e,g,a,b⟩:=by simp [List.getD]
    rw [rA vs (by simp),hgl];simp only
    congr 1
    ·by_cases hx:(xW op).1.x=true
     ·rw [if_pos hx] at tx ha ⊢;rw [bA vs _ (by simp only [ω] at ha ⊢; omega)]; exact tx
     ·rw [if_neg hx] at tx ⊢; exact tx
    ·by_cases hy:(xW op).1.y=true
     ·rw [if_pos hy] at ty hb ⊢;rw [bA vs _ (by omega)]; exact ty
     ·rw [if_neg hy] at ty ⊢; exact ty
end Fm
open Rs Fm
namespace Fm
structure VL (f : List Nd) (s : CS) : Prop where
 v:vU s.out
 n:s.out.Nodup
 d:∀ z k,wO z s.done=some k->∃ i j:Nat,z=i/\k=j/\i<f.length/\j<s.out.length/\tree s.out j=tree f i
theorem yi {f:List Nd} (hv:vU f):∀ (n:Nat) {i:Nat} {s:CS},i<n->i<f.length->VL f s ->
  (xE f n i s).1=(rL (tree f i) s.out).1/\(xE f n i s).2.out=(rL (tree f i) s.out).2/\VL f (xE f n i s).2
 | 0,_,_,h,_,_=>by omega
 | n + 1,i,s,h,hi,hI=>by
  cases hu:wO (i:Int) s.done with
  | some k=>
   rw [xE,hu];obtain⟨i',j,e1,e2,_,e4,e5⟩:=hI.d _ _ hu;obtain rfl:i=i':=by omega
   rw [yj _ _ j hI.v hI.n e4 e5];exact⟨e2,rfl,hI⟩
  | none=>
   rw [mI hu];obtain⟨ox,oy,zx,zy⟩:=rS (hv i hi);have hsp:=eM _ s.out (WK hv i hi) hI.v hI.n;rw [rA hv hi] at hsp ⊢;simp only;generalize hp:f.getD i wA=p at hsp ox oy zx zy ⊢
   have S1:(if (xW p.op).1.x=true then xE f n p.x.toNat s else(p.x,s)).1=(if (xW p.op).1.x=true then rL (tree f p.x.toNat) s.out else(0,s.out)).1 /\
     (if (xW p.op).1.x=true then xE f n p.x.toNat s else(p.x,s)).2.out=(if (xW p.op).1.x=true then rL (tree f p.x.toNat) s.out else(0,s.out)).2/\VL f (if (xW p.op).1.x=true then xE f n p.x.toNat s else(p.x,s)).2:=by
    by_cases hx:(xW p.op).1.x=true
    ·rw [if_pos hx,if_pos hx];exact yi hv n (by have:=ox hx; omega) (by have:=ox hx; omega) hI
    ·rw [if_neg hx,if_neg hx];exact⟨zx (by simpa using hx),rfl,hI⟩
   have e1:(if (xW p.op).1.x=true then rL (if (xW p.op).1.x=true then tree f p.x.toNat else .nil) s.out else(0,s.out))= (if (xW p.op).1.x=true then rL (tree f p.x.toNat) s.out else(0,s.out)):=by
    by_cases hx:(xW p.op).1.x=true
    ·rw [if_pos hx,if_pos hx,if_pos hx]
    ·rw [if_neg hx,if_neg hx]
   have hfin:rL (.nd p.op p.i p.e p.g (if (xW p.op).1.x=true then tree f p.x.toNat else .nil) (if (xW p.op).1.y=true then tree f p.y.toNat else .nil)) s.out =
     (let a:=(if (xW p.op).1.x=true then rL (tree f p.x.toNat) s.out else(0,s.out))
      let b:=if (xW p.op).1.y=true then rL (tree f p.y.toNat) a.2 else(0,a.2)
      match sN ⟨p.op,p.i,p.e,p.g,a.1,b.1⟩ b.2 0 with
      | some k=>((k:Int),b.2)
      | none=>((b.2.length:Int),b.2 ++ [⟨p.op,p.i,p.e,p.g,a.1,b.1⟩])):=by
    conv=>lhs; unfold rL
    simp only [e1]
    by_cases hy:(xW p.op).1.y=true
    ·simp only [if_pos hy];all_goals rfl
    ·simp only [if_neg hy];all_goals rfl
   rw [hfin] at hsp ⊢;simp only at hsp ⊢;generalize (if (xW p.op).1.x=true then xE f n p.x.toNat s else(p.x,s))= A at S1 ⊢;generalize (if (xW p.op).1.x=true then rL (tree f p.x.toNat) s.out else(0,s.out))= A' at S1 hsp ⊢;obtain⟨a1,a2⟩:=A';obtain⟨A1,A2⟩:=A;obtain⟨rfl,rfl,IA⟩:=S1;simp only at hsp ⊢
   have S2:(if (xW p.op).1.y=true then xE f n p.y.toNat A2 else(p.y,A2)).1=(if (xW p.op).1.y=true then rL (tree f p.y.toNat) A2.out else(0,A2.out)).1 /\
     (if (xW p.op).1.y=true then xE f n p.y.toNat A2 else(p.y,A2)).2.out=(if (xW p.op).1.y=true then rL (tree f p.y.toNat) A2.out else(0,A2.out)).2/\VL f (if (xW p.op).1.y=true then xE f n p.y.toNat A2 else(p.y,A2)).2:=by
    by_cases hy:(xW p.op).1.y=true
    ·rw [if_pos hy,if_pos hy];exact yi hv n (by have:=oy hy; omega) (by have:=oy hy; omega) IA
    ·rw [if_neg hy,if_neg hy];exact⟨zy (by simpa using hy),rfl,IA⟩
   generalize (if (xW p.op).1.y=true then xE f n p.y.toNat A2 else(p.y,A2))= B at S2 ⊢;generalize (if (xW p.op).1.y=true then rL (tree f p.y.toNat) A2.out else(0,A2.out))= B' at S2 hsp ⊢;obtain⟨b1,b2⟩:=B';obtain⟨B1,B2⟩:=B;obtain⟨rfl,rfl,IB⟩:=S2;replace IB:VL f B2:=IB;simp only at hsp ⊢
   have hset:∀ (out':List Nd) (k:Nat),(∃ l,out'=B2.out++l)->vU out'->out'.Nodup->k<out'.length->tree out' k=tree f i->VL f ⟨out',nH i k B2.done⟩:=by
    rintro out' k ⟨l,rfl⟩ hv' hn' hk' ht';refine⟨hv',hn',λz k' hz=>?_⟩;simp only at hz ⊢;rw [sC] at hz
    split at hz
    ·cases hz;exact⟨i,k,by assumption,rfl,hi,hk',ht'⟩
    ·obtain⟨i',j,q1,q2,q3,q4,q5⟩:=IB.d _ _ hz;exact⟨i',j,q1,q2,q3,by simp; omega,by rw [bA hv' _ q4]; exact q5⟩
   have htf:tree f i = .nd p.op p.i p.e p.g (if (xW p.op).1.x=true then tree f p.x.toNat else .nil) (if (xW p.op).1.y=true then tree f p.y.toNat else .nil):=by rw [rA hv hi,hp]
   unfold kK
   cases hq:sN ⟨p.op,p.i,p.e,p.g,A1,B1⟩ B2.out 0 with
   | some k=>
    rw [hq] at hsp;obtain⟨s1,s2,_,k',s3,s4,s5,_⟩:=hsp;simp only at s1 s2 s3 s4 s5 ⊢;obtain rfl:k=k':=by omega
    exact⟨trivial,trivial,hset _ k ⟨[],by simp⟩ s1 s2 s4 (by rw [s5,htf])⟩
   | none=>
    rw [hq] at hsp;obtain⟨s1,s2,_,k',s3,s4,s5,_⟩:=hsp;simp only at s1 s2 s3 s4 s5 ⊢;obtain rfl:B2.out.length=k':=by omega
    exact⟨trivial,trivial,hset _ _ ⟨_,rfl⟩ s1 s2 s4 (by rw [s5,htf])⟩
theorem nv {f:List Nd} (hv:vU f) {i:Nat} (hi:i<f.length):uF f i=canon (tree f i):=(yi hv (i+1) (s:=⟨[],[]⟩) (by omega) hi ⟨λk h=>by simp at h,.nil,λz k h=>by cases h⟩).2.1
theorem Wn {t:Tr} (h:LM t):vU (canon t)/\ (canon t).Nodup/\0<(canon t).length/\tree (canon t) ((canon t).length-1)= t:=by
 obtain⟨v,n,_,k,e1,e2,e3,e4⟩:=eM t [] h (λk h=>by simp at h) .nil;refine⟨v,n,by unfold canon; omega,?_⟩
 have:k=(canon t).length-1:=by
  rcases e4 with e4 | e4
  ·rw [e4] at e2; simp at e2
  ·unfold canon; omega
 rw [<- this]; exact e3
theorem Ya {f:List Nd} (h:yT f=0):yY f=canon (tree f (f.length-1)):=by
 obtain⟨h1,h2,h3⟩:=vB h;have hl:0<f.length:=by cases f with | nil=>exact absurd rfl h1 | cons a b=>simp
 unfold yY nS;rw [if_neg (by omega),show ((f.length:Int)-1).toNat=f.length-1 by omega];exact nv h3 (by omega)
end Fm
section
open Rs Fm
namespace Fm
end Fm
end
section
open Rs Fm
namespace Fm
def iD (f:List Nd):Tr:=tree f (f.length-1)
theorem Rm {f:List Nd} (h:yT f=0):LM (iD f):=by
 obtain⟨h1,h2,h3⟩:=vB h;have hl:0<f.length:=by cases f with | nil=>exact absurd rfl h1 | cons a b=>simp
 exact WK h3 _ (by omega)
theorem u7 {f:List Nd} (h:yT f=0):tree (yY f) ((yY f).length-1)= iD f/\(yY f).Nodup:=by rw [Ya h];obtain⟨_,b,_,d⟩:=Wn (Rm h);exact⟨d,b⟩
end Fm
end
section
open Rs Fm
namespace Fm
end Fm
end
section
open Rs Fm
namespace Fm
end Fm
end
section
open Rs Fm
namespace Fm
end Fm
end
open Rs Fm
namespace Fm
theorem Q9 (m:Nat) (h:m<=6):(xW (11+(m:Int))).1.fr=((2 ^ (m+1):Nat):Int):=by
 have hc:m=0\/m=1\/m=2\/m=3\/m=4\/m=5\/m=6:=by omega
 rcases hc with rfl | rfl | rfl | rfl | rfl | rfl | rfl <;> decide
theorem XU (op:Int) (h:op=9\/op=10):(xW op).1.fr=1:=by rcases h with rfl | rfl <;> decide
theorem gw (op:Int) (h:18<=op/\op<=21):(xW op).1.fr=256:=by
 have hc:op=18\/op=19\/op=20\/op=21:=by omega
 rcases hc with rfl | rfl | rfl | rfl <;> decide
theorem U4 (op:Int) (h:1<=op/\op<=8):(xW op).1.fr=0:=by
 have hc:op=1\/op=2\/op=3\/op=4\/op=5\/op=6\/op=7\/op=8:=by omega
 rcases hc with rfl | rfl | rfl | rfl | rfl | rfl | rfl | rfl <;> decide
def lZ (m k:Nat) (n:Int):Bool:=(List.range k).all λi=>!m.testBit i || decide ((i:Int)<n)
theorem oh {m k:Nat} {n:Int} (hm:m<2 ^ k) (hk:k<=31):kT m n=lZ m k n:=by
 unfold kT lZ;rw [Bool.eq_iff_iff,Bool.or_eq_true,decide_eq_true_iff,decide_eq_true_iff,List.all_eq_true]
 constructor
 ·rintro h i hi;have hi':=υ.1 hi
  rcases h with h | h
  ·rw [decide_eq_true (by omega),Bool.or_true]
  ·cases hb:m.testBit i with
   | false=>rfl
   | true=>
    have h2:m<2 ^ n.toNat:=by
     rcases Nat.div_eq_zero_iff.1 h with h | h
     ·have:=Nat.two_pow_pos n.toNat; omega
     ·exact h
    have h3:i<n.toNat:=Decidable.byContradiction λhh=>by have h4:=ν (π h2 (ξ (by decide) (show n.toNat<=i by omega)));rw [h4] at hb; cases hb
    rw [decide_eq_true (by omega)]; rfl
 ·intro h;refine .inr (Nat.div_eq_of_lt (Nat.lt_pow_two_of_testBit _ λi hi=>?_))
  cases hb:m.testBit i with
  | false=>rfl
  | true=>
   have hik:i<k:=Decidable.byContradiction λhh=>by have h4:=ν (π hm (ξ (by decide) (show k<=i by omega)));rw [h4] at hb; cases hb
   have:=h i (υ.2 hik);rw [hb] at this;simp at this;omega
theorem zg {m:Nd->Nat} {k:Nat}:∀ {l:List Nd},(∀ p ∈ l,m p<2 ^ k)->zZ m l<2 ^ k:=by
 have key:∀ (l:List Nd) (a:Nat),(∀ p ∈ l,m p<2 ^ k)->a<2 ^ k->l.foldl (λa p=>a ||| m p) a<2 ^ k:=by
  intro l
  induction l with
  | nil=>intro a _ h; exact h
  | cons p r ih=>intro a h ha; exact ih _ (λq hq=>h q (List.mem_cons_of_mem _ hq)) (τ ha (h p (by simp)))
 exact λ{l} h=>key l 0 h (Nat.two_pow_pos k)
theorem Qy {p:Nd} {k:Int} (h:zY p k=0):1<=p.op/\p.op<=21:=by have h1:=(vN.1 h).1;refine Decidable.byContradiction λhc=>?_;rw [show xW p.op=(sI,false) from if_pos (by omega)] at h1;cases h1
theorem ZL {p:Nd} {k:Int} (h:zY p k=0) (hg:(xW p.op).1.gr=false):p.g=0:=by have h2:=(vN.1 h).2.2.2.1;simp only [hg,Bool.or_eq_false_iff,γ,ε,decide_eq_false_iff_not] at h2;omega
theorem fm (f:List Nd):qX f<2 ^ 4:=zg λp hp=>by
 obtain⟨k,hk⟩:=kY (jC f _) hp;unfold vY
 split
 ·rename_i hf;have:=sF hk hf;exact μ (by decide) (by omega)
 ·have:=jS hk;omega
theorem gn (f:List Nd):kV f<2 ^ 8:=zg λp hp=>by
 obtain⟨k,hk⟩:=kY (jC f _) hp;unfold rE
 split
 ·rename_i hf;have:=lP hk hf;exact μ (by decide) (by omega)
 ·decide
end Fm
theorem ZR {op:Int} (h:1<=op/\op<=21):yU prog 180 [.int .i64 op] (.int .i64 (xW op).1.fr):=by
 refine xY.xN mixed func180 Iw (by simp) λhf=>?_
 by_cases e9:op=9
 ·subst e9;rw [XU 9 (.inl rfl)];simp only [simprocAttr,-ZA,↓zU,↓zD,zV,zT,zW];exact .same
 have c9:(op==9)= false:=by simpa using e9
 by_cases e10:op=10
 ·subst e10;rw [XU 10 (.inr rfl)];simp only [simprocAttr,-ZA,↓zU,↓zD,zV,zT,zW];exact .same
 have c10:(op==10)= false:=by simpa using e10
 by_cases h11:11<=op
 case neg=>
  have h18:¬ 18<=op:=by omega
  rw [U4 op (by omega)];simp only [simprocAttr,-ZA,↓zU,↓zD,zV,zT,zW,c9,c10,h11,h18];exact .same
 by_cases h17:op<=17
 case neg=>
  have h18:18<=op:=by omega
  rw [gw op (by omega)];simp only [simprocAttr,-ZA,↓zU,↓zD,zV,zT,zW,c9,c10,h11,h17,h18];exact .same
 obtain⟨m,hm⟩:∃ m:Nat,op=11+(m:Int):=⟨(op-11).toNat,by omega⟩;have hfr:=Q9 m (by omega);rw [<- hm] at hfr;rw [hfr];have e1:IntKind.i64.wrap (op-11)= (m:Int):=by rw [wrap_i64 (by omega)]; omega
 have e2:IntKind.i64.wrap ((m:Int)+ 1)= ((m+1:Nat):Int):=vP (by omega);simp only [simprocAttr,-ZA,↓zU,↓zD,zV,zT,zW,c9,c10,h11,h17,e1,e2,TO (show m+1<=61 by omega)]
 (repeat refine sd ?_)
 exact .same
theorem ZS (f:List Nd):yU prog 118 [.sl 6 (zB f)] (.int .i64 (wT f)):=by
 have hlen:=lV f ((f.length:Int)-1);rw [show nS f ((f.length:Int)-1)= yY f from rfl] at hlen;have hnd:=xv f;have hall:∀ p ∈ yY f,rF p<4096:=λp _=>by have:=fO p.op; unfold rF; omega
 refine xY.xN mixed func118 IM (by simp) λhf=>?_;simp only [simprocAttr,-ZA,↓zU,↓zD,zV,zT,zW];refine .go (cr (iH f)) ?_;simp only [simprocAttr,-ZA,↓zU,↓zD,zV,zT,zW];unfold wT;generalize yY f=c at hlen hnd hall
 refine xP (λk:Nat=>[(5,.int .i64 k),(4,.int .i64 (zZ rF (c.take k))),(3,.sl 6 (zB c))]) (λ_=>⟨0,[]⟩) (λk=>k<=c.length) (λk=>c.length-k) 0 (κ _) ?_ ?_
 ·(refine xT.same ?_; simp [xS,Fr.get,zZ])
 intro k hk;refine xM mixed ?_
 by_cases h:k<c.length
 ·have hd:((k:Int)<(c.length:Int)):=by omega
  have hw:IntKind.i64.wrap ((k:Int)+ 1)= ((k+1:Nat):Int):=wrap_i64 (by omega);have hg:=sT c h;have hq:=hnd k h;have hlt:zZ rF (c.take k)<2 ^ 12:=nK λp hp=>hall p (χ hp);have hlp:=hall _ (xL (d:=wA) h);have hs:zZ rF (c.take (k+1))= zZ rF (c.take k) ||| rF (c.getD k wA):=by rw [zA (d:=wA) h,lN]
  generalize c.getD k wA=p at hg hq hs hlp;have hop:1<=p.op/\p.op<=21:=Qy hq;have hfr:=ZR hop;have hu:=fO p.op;rw [show (xW p.op).1.fr=((rF p:Nat):Int) from(η hu.1).symm] at hfr;have hor:=kh (a:=zZ rF (c.take k)) (b:=rF p) (by omega) (by omega);simp only [simprocAttr,-ZA,↓zU,↓zD,zV,zT,zW,hd,xG,hg,Nd.row]
  (repeat refine sd ?_)
  refine .go (cq hfr) ?_;simp only [simprocAttr,-ZA,↓zU,↓zD,zV,zT,zW,hor]
  (repeat refine sd ?_)
  refine⟨k+1,by omega,?_,by omega⟩;rw [hs]
  (refine xT.same ?_; simp only [xS,Fr.get,simprocAttr,-ZA,zS])
  exact hw
 have hd:¬ ((k:Int)<(c.length:Int)):=by omega
 obtain rfl:k=c.length:=by omega
 simp only [simprocAttr,-ZA,↓zU,↓zD,zV,zT,zW,hd,xG];exact .same
theorem z8 (f:List Nd):yU prog 181 [.sl 6 (zB f)] (.int .i64 (qX f)):=by
 have hlen:=lV f ((f.length:Int)-1);rw [show nS f ((f.length:Int)-1)= yY f from rfl] at hlen;have hnd:=xv f
 have hall:∀ p ∈ yY f,vY p<4096:=λp hp=>by obtain⟨k,hk⟩:=kY hnd hp;exact fk hk
 refine xY.xN mixed func181 Iz (by simp) λhf=>?_;simp only [simprocAttr,-ZA,↓zU,↓zD,zV,zT,zW];refine .go (cr (iH f)) ?_;simp only [simprocAttr,-ZA,↓zU,↓zD,zV,zT,zW];unfold qX;generalize yY f=c at hlen hnd hall
 refine xP (λk:Nat=>[(5,.int .i64 k),(4,.int .i64 (zZ vY (c.take k))),(3,.sl 6 (zB c))]) (λ_=>⟨0,[]⟩) (λk=>k<=c.length) (λk=>c.length-k) 0 (κ _) ?_ ?_
 ·(refine xT.same ?_; simp [xS,Fr.get,zZ])
 intro k hk;refine xM mixed ?_
 by_cases h:k<c.length
 ·have hd:((k:Int)<(c.length:Int)):=by omega
  have hw:IntKind.i64.wrap ((k:Int)+ 1)= ((k+1:Nat):Int):=wrap_i64 (by omega);have hg:=sT c h;have hq:=hnd k h;have hlt:zZ vY (c.take k)<2 ^ 12:=nK λp hp=>hall p (χ hp);have hlp:=hall _ (xL (d:=wA) h);have hs:zZ vY (c.take (k+1))= zZ vY (c.take k) ||| vY (c.getD k wA):=by rw [zA (d:=wA) h,lN]
  generalize c.getD k wA=p at hg hq hs hlp;have hag:=Vm p.op;have hgr:=jS hq;obtain⟨g,hgg⟩:=θ hgr.1
  cases hu:(xW p.op).1.ag with
  | false=>
   rw [hu] at hag;have hfn:vY p=g:=by rw [vY,if_neg (by rw [hu]; simp),hgg,ζ]
   have hor:=kh (a:=zZ vY (c.take k)) (b:=g) (by omega) (by omega);simp only [simprocAttr,-ZA,↓zU,↓zD,zV,zT,zW,hd,xG,hg,Nd.row]
   (repeat refine sd ?_)
   refine .go (cq hag) ?_;simp only [simprocAttr,-ZA,↓zU,↓zD,zV,zT,zW,xG,hg,Nd.row,hgg,hor]
   (repeat refine sd ?_)
   refine⟨k+1,by omega,?_,by omega⟩;rw [hs,hfn]
   (refine xT.same ?_; simp only [xS,Fr.get,simprocAttr,-ZA,zS])
   exact hw
  | true=>
   rw [hu] at hag;obtain⟨i0,i3⟩:=sF hq hu;obtain⟨m,hm⟩:=θ i0;have hm3:m<=3:=by omega
   have hg0:p.g=0:=ZL hq (by rcases cS p.op with h | h | h | h | h <;> simp_all);have hp2:(2:Nat)^ m<2 ^ 12:=μ (by omega) (by omega);have hfn:vY p=2 ^ m:=by rw [vY,if_pos hu,hm,ζ]
   have hor:=kh (a:=zZ vY (c.take k)) (b:=2 ^ m) (by omega) (by omega);have hor2:=kh (a:=zZ vY (c.take k) ||| 2 ^ m) (b:=0) (by have:=τ hlt hp2; omega) (by omega);rw [Nat.or_zero] at hor2;simp only [simprocAttr,-ZA,↓zU,↓zD,zV,zT,zW,hd,xG,hg,Nd.row]
   (repeat refine sd ?_)
   refine .go (cq hag) ?_;simp only [simprocAttr,-ZA,↓zU,↓zD,zV,zT,zW,xG,hg,Nd.row,hm,TO (show m<=61 by omega),hor,hg0,hor2]
   (repeat refine sd ?_)
   refine⟨k+1,by omega,?_,by omega⟩;rw [hs,hfn]
   (refine xT.same ?_; simp only [xS,Fr.get,simprocAttr,-ZA,zS])
   exact⟨hw,hor2⟩
 have hd:¬ ((k:Int)<(c.length:Int)):=by omega
 obtain rfl:k=c.length:=by omega
 simp only [simprocAttr,-ZA,↓zU,↓zD,zV,zT,zW,hd,xG];exact .same
open Rs Fm
theorem Ug (f:List Nd) (a b:Int):yU prog 119 [.sl 6 (zB f),.int .i64 a,.int .i64 b] (.bool (tU f a b)):=by
 have hA:=z8 f;have hF:=ZQ f;have hC:=aj f;have ha:=oh (n:=a) (fm f) (by decide);have hb:=oh (n:=b) (gn f) (by decide);have la:=fm f;have lb:=gn f;unfold tU;rw [ha,hb];generalize qX f=ma at hA la;generalize kV f=mb at hF lb;refine xY.xN mixed func119 IN (by simp) λhf=>?_;simp only [simprocAttr,-ZA,↓zU,↓zD,zV,zT,zW];refine .go (cr hC) ?_;by_cases hz:yT f=0
 case neg=>
  have e:(yT f != 0)= true:=by simpa using hz
  simp only [simprocAttr,-ZA,↓zU,↓zD,zV,zT,zW,e];exact .drop (by simp) (by simp [vw,hz])
 have e:(yT f != 0)= false:=by simpa using hz
 rw [decide_eq_true hz,ε];simp only [simprocAttr,-ZA,↓zU,↓zD,zV,zT,zW,e]
 refine xP (λi:Nat=>[(7,.int .i64 i),(2,.int .i64 b),(1,.int .i64 a),(0,.sl 6 (zB f))]) (λ_=>⟨0,[]⟩) (λi=>i<=4/\lZ ma i a=true) (λi=>4-i) 0 ⟨κ _,rfl⟩ ?_ ?_
 ·(refine xT.same ?_; simp [xS,Fr.get])
 rintro i ⟨hi,hk⟩;refine xM mixed ?_
 by_cases h4:i<4
 ·have hd:((i:Int)<4):=by omega
  have hsu:lZ ma (i+1) a=(lZ ma i a&&(!ma.testBit i || decide ((i:Int)<a))):=by unfold lZ; rw [List.range_succ,List.all_append,List.all_cons,List.all_nil,Bool.and_true]
  have hbit:(((ma / 2 ^ i:Nat):Int).tmod 2==1)= ma.testBit i:=by rw [ND,SU]
  rw [hk,ε] at hsu;simp only [simprocAttr,-ZA,↓zU,↓zD,zV,zT,zW,hd];refine .go (cr hA) ?_
  cases hb2:ma.testBit i with
  | false=>
   rw [hb2] at hbit hsu;simp only [simprocAttr,-ZA,↓zU,↓zD,zV,zT,zW,gR ma i (by omega),hbit]
   (repeat refine sd ?_)
   refine⟨i+1,⟨by omega,by rw [hsu]; rfl⟩,?_,by omega⟩
   (refine xT.same ?_; simp only [xS,Fr.get,simprocAttr,-ZA,zS])
   exact vP (by omega)
  | true=>
   rw [hb2] at hbit hsu
   by_cases hge:a<=(i:Int)
   ·simp only [simprocAttr,-ZA,↓zU,↓zD,zV,zT,zW,gR ma i (by omega),hbit,hge]
    (repeat refine sd ?_)
    have hf0:lZ ma 4 a=false:=by unfold lZ;rw [Ac];exact⟨i,υ.2 h4,by rw [hb2,decide_eq_false (by omega)]; simp⟩
    exact .drop (by simp) (by simp [vw,hf0])
   ·simp only [simprocAttr,-ZA,↓zU,↓zD,zV,zT,zW,gR ma i (by omega),hbit,hge]
    (repeat refine sd ?_)
    refine⟨i+1,⟨by omega,by rw [hsu,decide_eq_true (by omega)]; rfl⟩,?_,by omega⟩
    (refine xT.same ?_; simp only [xS,Fr.get,simprocAttr,-ZA,zS])
    exact vP (by omega)
 have hd:¬ ((i:Int)<4):=by omega
 obtain rfl:i=4:=by omega
 rw [hk,ε];simp only [simprocAttr,-ZA,↓zU,↓zD,zV,zT,zW,hd]
 refine xP (λi:Nat=>[(8,.int .i64 i),(2,.int .i64 b),(0,.sl 6 (zB f))]) (λ_=>⟨0,[]⟩) (λi=>i<=8/\lZ mb i b=true) (λi=>8-i) 0 ⟨κ _,rfl⟩ ?_ ?_
 ·(refine xT.same ?_; simp [xS,Fr.get])
 clear hd hi hk;rintro i ⟨hi,hk⟩;refine xM mixed ?_
 by_cases h4:i<8
 ·have hd:((i:Int)<8):=by omega
  have hsu:lZ mb (i+1) b=(lZ mb i b&&(!mb.testBit i || decide ((i:Int)<b))):=by unfold lZ; rw [List.range_succ,List.all_append,List.all_cons,List.all_nil,Bool.and_true]
  have hbit:(((mb / 2 ^ i:Nat):Int).tmod 2==1)= mb.testBit i:=by rw [ND,SU]
  rw [hk,ε] at hsu;simp only [simprocAttr,-ZA,↓zU,↓zD,zV,zT,zW,hd];refine .go (cr hF) ?_
  cases hb2:mb.testBit i with
  | false=>
   rw [hb2] at hbit hsu;simp only [simprocAttr,-ZA,↓zU,↓zD,zV,zT,zW,gR mb i (by omega),hbit]
   (repeat refine sd ?_)
   refine⟨i+1,⟨by omega,by rw [hsu]; rfl⟩,?_,by omega⟩
   (refine xT.same ?_; simp only [xS,Fr.get,simprocAttr,-ZA,zS])
   exact vP (by omega)
  | true=>
   rw [hb2] at hbit hsu
   by_cases hge:b<=(i:Int)
   ·simp only [simprocAttr,-ZA,↓zU,↓zD,zV,zT,zW,gR mb i (by omega),hbit,hge]
    (repeat refine sd ?_)
    have hf0:lZ mb 8 b=false:=by unfold lZ;rw [Ac];exact⟨i,υ.2 h4,by rw [hb2,decide_eq_false (by omega)]; simp⟩
    exact .drop (by simp) (by simp [vw,hf0])
   ·simp only [simprocAttr,-ZA,↓zU,↓zD,zV,zT,zW,gR mb i (by omega),hbit,hge]
    (repeat refine sd ?_)
    refine⟨i+1,⟨by omega,by rw [hsu,decide_eq_true (by omega)]; rfl⟩,?_,by omega⟩
    (refine xT.same ?_; simp only [xS,Fr.get,simprocAttr,-ZA,zS])
    exact vP (by omega)
 have hd:¬ ((i:Int)<8):=by omega
 obtain rfl:i=8:=by omega
 rw [hk];simp only [simprocAttr,-ZA,↓zU,↓zD,zV,zT,zW,hd];exact .dv
end Go.Pd
