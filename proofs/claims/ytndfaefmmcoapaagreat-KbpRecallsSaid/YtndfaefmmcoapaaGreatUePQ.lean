/- Part PQ. -/
import Derived.Test.YtndfaefmmcoapaaGreatUeF16
set_option linter.unusedSectionVars false
set_option linter.unusedVariables false
set_option linter.unusedSimpArgs false
set_option linter.defProp false
set_option maxRecDepth 20000
set_option maxHeartbeats 1000000
namespace Go.Pd
open Go Go.Proofs
open BitVec renaming isValue -> ZA
section
open Rs Fm
theorem aMs (op:Int):yV Tryz.prog 219 [.int .i64 op] (.bool (xZ op).1.x):=by
 rw [aF6];refine xX.xP mixed Tryz.func219 bUj (by simp) fun hf=>?_
 by_cases h1:4<=op
 ·by_cases h2:op<=21
  ·simp only [simprocAttr,-ZA,↓zU,↓zD,zV,zT,zW,h1,h2];exact .same
  ·simp only [simprocAttr,-ZA,↓zU,↓zD,zV,zT,zW,h1,h2];exact .dv
 ·simp only [simprocAttr,-ZA,↓zU,↓zD,zV,zT,zW,h1];exact .dv
theorem aBm (op:Int):yV Tryz.prog 222 [.int .i64 op] (.bool (xZ op).1.gr):=by
 rw [bX3];refine xX.xP mixed Tryz.func222 bUi (by simp) fun hf=>?_
 by_cases h1:11<=op
 ·by_cases h2:op<=13
  ·simp only [simprocAttr,-ZA,↓zU,↓zD,zV,zT,zW,h1,h2];exact .same
  ·simp only [simprocAttr,-ZA,↓zU,↓zD,zV,zT,zW,h1,h2];exact .dv
 ·simp only [simprocAttr,-ZA,↓zU,↓zD,zV,zT,zW,h1];exact .dv
theorem aMr (op:Int):yV Tryz.prog 220 [.int .i64 op] (.bool (xZ op).1.y):=by
 rcases uV op with rfl | rfl | rfl | rfl | rfl | rfl | rfl | rfl | rfl | rfl | rfl | rfl | rfl | rfl | rfl | rfl | rfl | rfl | rfl | rfl | rfl | h | h
 rotate_right 2
 ·have e:∀ i:Int,1<=i->i<=21->(op==i)= false:=fun i h1 h2=>by simp; omega
  have h5:¬ 5<=op:=by omega
  rw [wV (.inl h)];refine xX.xP mixed Tryz.func220 bWa (by simp) fun hf=>?_;simp only [simprocAttr,-ZA,↓zU,↓zD,zV,zT,zW,h5,e 13 (by omega) (by omega),e 14 (by omega) (by omega),e 16 (by omega) (by omega),e 19 (by omega) (by omega),e 21 (by omega) (by omega)];exact .drop (by simp) (by simp [vw,tF])
 ·have e:∀ i:Int,1<=i->i<=21->(op==i)= false:=fun i h1 h2=>by simp; omega
  have h5:5<=op:=by omega
  have h8:¬ op<=8:=by omega
  rw [wV (.inr h)];refine xX.xP mixed Tryz.func220 bWa (by simp) fun hf=>?_;simp only [simprocAttr,-ZA,↓zU,↓zD,zV,zT,zW,h5,h8,e 13 (by omega) (by omega),e 14 (by omega) (by omega),e 16 (by omega) (by omega),e 19 (by omega) (by omega),e 21 (by omega) (by omega)];exact .drop (by simp) (by simp [vw,tF])
 all_goals
  refine xX.xP mixed Tryz.func220 bWa (by simp) fun hf=>?_;simp only [simprocAttr,-ZA,↓zU,↓zD,zV,zT,zW];exact .drop (by simp) (by simp [vw,xZ,tF])
theorem aMp (op:Int):yV Tryz.prog 221 [.int .i64 op] (.bool (xZ op).1.ag):=by
 rcases uV op with rfl | rfl | rfl | rfl | rfl | rfl | rfl | rfl | rfl | rfl | rfl | rfl | rfl | rfl | rfl | rfl | rfl | rfl | rfl | rfl | rfl | h | h
 rotate_right 2
 ·have e:∀ i:Int,1<=i->i<=21->(op==i)= false:=fun i h1 h2=>by simp; omega
  rw [wV (.inl h)];refine xX.xP mixed Tryz.func221 bZ9 (by simp) fun hf=>?_;simp only [simprocAttr,-ZA,↓zU,↓zD,zV,zT,zW,e 9 (by omega) (by omega),e 10 (by omega) (by omega),e 14 (by omega) (by omega),e 15 (by omega) (by omega)];exact .drop (by simp) (by simp [vw,tF])
 ·have e:∀ i:Int,1<=i->i<=21->(op==i)= false:=fun i h1 h2=>by simp; omega
  rw [wV (.inr h)];refine xX.xP mixed Tryz.func221 bZ9 (by simp) fun hf=>?_;simp only [simprocAttr,-ZA,↓zU,↓zD,zV,zT,zW,e 9 (by omega) (by omega),e 10 (by omega) (by omega),e 14 (by omega) (by omega),e 15 (by omega) (by omega)];exact .drop (by simp) (by simp [vw,tF])
 all_goals
  refine xX.xP mixed Tryz.func221 bZ9 (by simp) fun hf=>?_;simp only [simprocAttr,-ZA,↓zU,↓zD,zV,zT,zW];exact .drop (by simp) (by simp [vw,xZ,tF])
end
section
open Rs Fm
theorem bYn (p:Nd) (k:Int):yV Tryz.prog 178 [.agg p.row,.int .i64 k] (.int .i64 (yA p k)):=by
 have hk:=jZ p.op;have hx:=aMs p.op;have hy:=aMr p.op;have ha:=aMp p.op;have hg:=aBm p.op;have e3:=aNn p.op;have e17:=aDz p.op;have e17n:(p.op != 17)= !(xZ p.op).1.ev:=by rw [bne,e17]
 have en:yA p k=if (xZ p.op).2=false then 10 else
  if (xD (xZ p.op).1.x p.x k&&xD (xZ p.op).1.y p.y k)= false then 3 else
  if ((!((xZ p.op).1.fa || (xZ p.op).1.ag || (xZ p.op).1.ev)&& decide (p.i≠0)) || (!(xZ p.op).1.ev&&decide (p.e≠0)) || (!(xZ p.op).1.gr&&decide (p.g≠0)))= true then 3 else
  if (xM (xZ p.op).1.fa p.i 0 7 || xM (xZ p.op).1.ag p.i 0 3 || xM (xZ p.op).1.ev p.i 0 7 || xM (xZ p.op).1.ev p.e 0 7 || xM (xZ p.op).1.gr p.g 1 15)= true then 2 else 0:=rfl
 by_cases h1:p.op<1
 ·rw [show yA p k=10 by rw [en,wV (.inl h1)]; rfl];refine xX.xP mixed Tryz.func178 bWb (by simp) fun hf=>?_;simp only [simprocAttr,-ZA,↓zU,↓zD,zV,zT,zW,Nd.row,h1]
  (repeat refine sd ?_)
  exact .dv
 by_cases h2:21<p.op
 ·rw [show yA p k=10 by rw [en,wV (.inr h2)]; rfl];refine xX.xP mixed Tryz.func178 bWb (by simp) fun hf=>?_;simp only [simprocAttr,-ZA,↓zU,↓zD,zV,zT,zW,Nd.row,h1,h2]
  (repeat refine sd ?_)
  exact .dv
 have hok:=aDy h1 h2;rw [en];generalize xZ p.op=q at hk hx hy ha hg e3 e17 e17n hok;obtain⟨⟨ux,uy,fa,ag,gr,ev,fr⟩,ok⟩:=q;simp only at hk hx hy ha hg e3 e17 e17n hok ⊢;subst hok;refine xX.aEk mixed Tryz.func178 bWb (by simp) fun hf=>?_;refine wpS_seq (xQ mixed ?_);simp only [simprocAttr,-ZA,↓zU,↓zD,zV,zT,zW,Nd.row]
 (repeat refine sd ?_)
 refine wpS_seq (xQ mixed ?_);simp only [simprocAttr,-ZA,↓zU,↓zD,zV,zT,zW,h1,h2]
 (repeat refine sd ?_)
 cases hX:xD ux p.x k
 ·refine wpS_seq (xQ mixed ?_);simp only [simprocAttr,-ZA,↓zU,↓zD,zV,zT,zW];refine .go (cq hx) ?_
  cases ux
  ·have e:(p.x != 0)= true:=by simpa [xD] using hX
   simp only [simprocAttr,-ZA,↓zU,↓zD,zV,zT,zW];refine .go (cq hx) ?_;simp only [simprocAttr,-ZA,↓zU,↓zD,zV,zT,zW,e];exact .dv
  ·by_cases l1:p.x<0
   ·simp only [simprocAttr,-ZA,↓zU,↓zD,zV,zT,zW,l1];exact .dv
   ·have l2:k<=p.x:=by
     have:0<=p.x:=by omega
     simpa [xD,this] using hX
    simp only [simprocAttr,-ZA,↓zU,↓zD,zV,zT,zW,l1,l2];exact .dv
 refine aZ [(2,.ref 0 6 0 0),(1,.int .i64 k)] ⟨1,[(0,⟨6,[p.row]⟩)]⟩ (xQ mixed ?_) ?_
 ·simp only [simprocAttr,-ZA,↓zU,↓zD,zV,zT,zW];refine .go (cq hx) ?_
  cases ux
  ·have e:(p.x != 0)= false:=by simpa [xD] using hX
   simp only [simprocAttr,-ZA,↓zU,↓zD,zV,zT,zW];refine .go (cq hx) ?_;simp only [simprocAttr,-ZA,↓zU,↓zD,zV,zT,zW,e]
   (refine xI.same ?_; simp [xR,Fr.get,Nd.row])
  ·have l1:¬ p.x<0:=by simp [xD] at hX; omega
   have l2:¬ k<=p.x:=by simp [xD] at hX; omega
   simp only [simprocAttr,-ZA,↓zU,↓zD,zV,zT,zW,l1,l2];refine .go (cq hx) ?_;simp only [simprocAttr,-ZA,↓zU,↓zD,zV,zT,zW]
   (refine xI.same ?_; simp [xR,Fr.get,Nd.row])
 cases hY:xD uy p.y k
 ·refine wpS_seq (xQ mixed ?_);simp only [simprocAttr,-ZA,↓zU,↓zD,zV,zT,zW,Nd.row];refine .go (cq hy) ?_
  cases uy
  ·have e:(p.y != 0)= true:=by simpa [xD] using hY
   simp only [simprocAttr,-ZA,↓zU,↓zD,zV,zT,zW];refine .go (cq hy) ?_;simp only [simprocAttr,-ZA,↓zU,↓zD,zV,zT,zW,e];exact .dv
  ·by_cases l1:p.y<0
   ·simp only [simprocAttr,-ZA,↓zU,↓zD,zV,zT,zW,l1];exact .dv
   ·have l2:k<=p.y:=by
     have:0<=p.y:=by omega
     simpa [xD,this] using hY
    simp only [simprocAttr,-ZA,↓zU,↓zD,zV,zT,zW,l1,l2];exact .dv
 refine aZ [(2,.ref 0 6 0 0),(1,.int .i64 k)] ⟨1,[(0,⟨6,[p.row]⟩)]⟩ (xQ mixed ?_) ?_
 ·simp only [simprocAttr,-ZA,↓zU,↓zD,zV,zT,zW,Nd.row];refine .go (cq hy) ?_
  cases uy
  ·have e:(p.y != 0)= false:=by simpa [xD] using hY
   simp only [simprocAttr,-ZA,↓zU,↓zD,zV,zT,zW];refine .go (cq hy) ?_;simp only [simprocAttr,-ZA,↓zU,↓zD,zV,zT,zW,e]
   (refine xI.same ?_; simp [xR,Fr.get,Nd.row])
  ·have l1:¬ p.y<0:=by simp [xD] at hY; omega
   have l2:¬ k<=p.y:=by simp [xD] at hY; omega
   simp only [simprocAttr,-ZA,↓zU,↓zD,zV,zT,zW,l1,l2];refine .go (cq hy) ?_;simp only [simprocAttr,-ZA,↓zU,↓zD,zV,zT,zW]
   (refine xI.same ?_; simp [xR,Fr.get,Nd.row])
 simp only [Bool.and_self,Bool.true_eq_false,if_false,reduceCtorEq];refine xQ mixed ?_
 rcases hk with ⟨rfl,rfl,rfl,rfl⟩ | ⟨rfl,rfl,rfl,rfl⟩ | ⟨rfl,rfl,rfl,rfl⟩ | ⟨rfl,rfl,rfl,rfl⟩ | ⟨rfl,rfl,rfl,rfl⟩
 ·simp only [simprocAttr,-ZA,↓zU,↓zD,zV,zT,zW,Nd.row,e3,e17,e17n,Bool.not_true,Bool.not_false];refine .go (cq ha) ?_;by_cases hi:p.i=0
  case neg=> have ei:(p.i != 0)= true:=bne_iff_ne.2 hi;simp only [simprocAttr,-ZA,↓zU,↓zD,zV,zT,zW,Nd.row,e3,e17,e17n,Bool.not_true,Bool.not_false,ei];exact .drop (by simp) (by simp [vw,xM, *])
  have ei:(p.i != 0)= false:=by simpa using hi
  by_cases he:p.e=0
  case neg=> have ee:(p.e != 0)= true:=bne_iff_ne.2 he;simp only [simprocAttr,-ZA,↓zU,↓zD,zV,zT,zW,Nd.row,e3,e17,e17n,Bool.not_true,Bool.not_false,ei,ee];exact .drop (by simp) (by simp [vw,xM, *])
  have ee:(p.e != 0)= false:=by simpa using he
  simp only [simprocAttr,-ZA,↓zU,↓zD,zV,zT,zW,Nd.row,e3,e17,e17n,Bool.not_true,Bool.not_false,ei,ee];refine .go (cq hg) ?_;by_cases hgz:p.g=0
  case neg=> have eg:(p.g != 0)= true:=bne_iff_ne.2 hgz;simp only [simprocAttr,-ZA,↓zU,↓zD,zV,zT,zW,Nd.row,e3,e17,e17n,Bool.not_true,Bool.not_false,ei,ee,eg];exact .drop (by simp) (by simp [vw,xM, *])
  have eg:(p.g != 0)= false:=by simpa using hgz
  simp only [simprocAttr,-ZA,↓zU,↓zD,zV,zT,zW,Nd.row,e3,e17,e17n,Bool.not_true,Bool.not_false,ei,ee,eg];refine .go (cq ha) ?_;simp only [simprocAttr,-ZA,↓zU,↓zD,zV,zT,zW,Nd.row,e3,e17,e17n,Bool.not_true,Bool.not_false,ei,ee,eg];refine .go (cq hg) ?_;simp only [simprocAttr,-ZA,↓zU,↓zD,zV,zT,zW,Nd.row,e3,e17,e17n,Bool.not_true,Bool.not_false,ei,ee,eg];exact .drop (by simp) (by simp [vw,xM, *])
 ·simp only [simprocAttr,-ZA,↓zU,↓zD,zV,zT,zW,Nd.row,e3,e17,e17n,Bool.not_true,Bool.not_false];by_cases he:p.e=0
  case neg=> have ee:(p.e != 0)= true:=bne_iff_ne.2 he;simp only [simprocAttr,-ZA,↓zU,↓zD,zV,zT,zW,Nd.row,e3,e17,e17n,Bool.not_true,Bool.not_false,ee];exact .drop (by simp) (by simp [vw,xM, *])
  have ee:(p.e != 0)= false:=by simpa using he
  simp only [simprocAttr,-ZA,↓zU,↓zD,zV,zT,zW,Nd.row,e3,e17,e17n,Bool.not_true,Bool.not_false,ee];refine .go (cq hg) ?_;by_cases hgz:p.g=0
  case neg=> have eg:(p.g != 0)= true:=bne_iff_ne.2 hgz;simp only [simprocAttr,-ZA,↓zU,↓zD,zV,zT,zW,Nd.row,e3,e17,e17n,Bool.not_true,Bool.not_false,ee,eg];exact .drop (by simp) (by simp [vw,xM, *])
  have eg:(p.g != 0)= false:=by simpa using hgz
  by_cases ri1:p.i<0
  ·simp only [simprocAttr,-ZA,↓zU,↓zD,zV,zT,zW,Nd.row,e3,e17,e17n,Bool.not_true,Bool.not_false,ee,eg,ri1];exact .drop (by simp) (by simp [vw,xM, *])
  by_cases ri2:8<=p.i
  ·simp only [simprocAttr,-ZA,↓zU,↓zD,zV,zT,zW,Nd.row,e3,e17,e17n,Bool.not_true,Bool.not_false,ee,eg,ri1,ri2];have ri3:7<p.i:=by omega
   exact .drop (by simp) (by simp [vw,xM, *])
  have ri3:¬ 7<p.i:=by omega
  simp only [simprocAttr,-ZA,↓zU,↓zD,zV,zT,zW,Nd.row,e3,e17,e17n,Bool.not_true,Bool.not_false,ee,eg,ri1,ri2];refine .go (cq ha) ?_;simp only [simprocAttr,-ZA,↓zU,↓zD,zV,zT,zW,Nd.row,e3,e17,e17n,Bool.not_true,Bool.not_false,ee,eg,ri1,ri2];refine .go (cq hg) ?_;simp only [simprocAttr,-ZA,↓zU,↓zD,zV,zT,zW,Nd.row,e3,e17,e17n,Bool.not_true,Bool.not_false,ee,eg,ri1,ri2];exact .drop (by simp) (by simp [vw,xM, *])
 ·simp only [simprocAttr,-ZA,↓zU,↓zD,zV,zT,zW,Nd.row,e3,e17,e17n,Bool.not_true,Bool.not_false];refine .go (cq ha) ?_;by_cases he:p.e=0
  case neg=> have ee:(p.e != 0)= true:=bne_iff_ne.2 he;simp only [simprocAttr,-ZA,↓zU,↓zD,zV,zT,zW,Nd.row,e3,e17,e17n,Bool.not_true,Bool.not_false,ee];exact .drop (by simp) (by simp [vw,xM, *])
  have ee:(p.e != 0)= false:=by simpa using he
  simp only [simprocAttr,-ZA,↓zU,↓zD,zV,zT,zW,Nd.row,e3,e17,e17n,Bool.not_true,Bool.not_false,ee];refine .go (cq hg) ?_;by_cases hgz:p.g=0
  case neg=> have eg:(p.g != 0)= true:=bne_iff_ne.2 hgz;simp only [simprocAttr,-ZA,↓zU,↓zD,zV,zT,zW,Nd.row,e3,e17,e17n,Bool.not_true,Bool.not_false,ee,eg];exact .drop (by simp) (by simp [vw,xM, *])
  have eg:(p.g != 0)= false:=by simpa using hgz
  simp only [simprocAttr,-ZA,↓zU,↓zD,zV,zT,zW,Nd.row,e3,e17,e17n,Bool.not_true,Bool.not_false,ee,eg];refine .go (cq ha) ?_
  by_cases ri1:p.i<0
  ·simp only [simprocAttr,-ZA,↓zU,↓zD,zV,zT,zW,Nd.row,e3,e17,e17n,Bool.not_true,Bool.not_false,ee,eg,ri1];exact .drop (by simp) (by simp [vw,xM, *])
  by_cases ri2:4<=p.i
  ·simp only [simprocAttr,-ZA,↓zU,↓zD,zV,zT,zW,Nd.row,e3,e17,e17n,Bool.not_true,Bool.not_false,ee,eg,ri1,ri2];have ri3:3<p.i:=by omega
   exact .drop (by simp) (by simp [vw,xM, *])
  have ri3:¬ 3<p.i:=by omega
  simp only [simprocAttr,-ZA,↓zU,↓zD,zV,zT,zW,Nd.row,e3,e17,e17n,Bool.not_true,Bool.not_false,ee,eg,ri1,ri2];refine .go (cq hg) ?_;simp only [simprocAttr,-ZA,↓zU,↓zD,zV,zT,zW,Nd.row,e3,e17,e17n,Bool.not_true,Bool.not_false,ee,eg,ri1,ri2];exact .drop (by simp) (by simp [vw,xM, *])
 ·simp only [simprocAttr,-ZA,↓zU,↓zD,zV,zT,zW,Nd.row,e3,e17,e17n,Bool.not_true,Bool.not_false];refine .go (cq ha) ?_;by_cases hi:p.i=0
  case neg=> have ei:(p.i != 0)= true:=bne_iff_ne.2 hi;simp only [simprocAttr,-ZA,↓zU,↓zD,zV,zT,zW,Nd.row,e3,e17,e17n,Bool.not_true,Bool.not_false,ei];exact .drop (by simp) (by simp [vw,xM, *])
  have ei:(p.i != 0)= false:=by simpa using hi
  by_cases he:p.e=0
  case neg=> have ee:(p.e != 0)= true:=bne_iff_ne.2 he;simp only [simprocAttr,-ZA,↓zU,↓zD,zV,zT,zW,Nd.row,e3,e17,e17n,Bool.not_true,Bool.not_false,ei,ee];exact .drop (by simp) (by simp [vw,xM, *])
  have ee:(p.e != 0)= false:=by simpa using he
  simp only [simprocAttr,-ZA,↓zU,↓zD,zV,zT,zW,Nd.row,e3,e17,e17n,Bool.not_true,Bool.not_false,ei,ee];refine .go (cq hg) ?_;simp only [simprocAttr,-ZA,↓zU,↓zD,zV,zT,zW,Nd.row,e3,e17,e17n,Bool.not_true,Bool.not_false,ei,ee];refine .go (cq ha) ?_;simp only [simprocAttr,-ZA,↓zU,↓zD,zV,zT,zW,Nd.row,e3,e17,e17n,Bool.not_true,Bool.not_false,ei,ee];refine .go (cq hg) ?_
  by_cases rg1:p.g<1
  ·simp only [simprocAttr,-ZA,↓zU,↓zD,zV,zT,zW,Nd.row,e3,e17,e17n,Bool.not_true,Bool.not_false,ei,ee,rg1];exact .drop (by simp) (by simp [vw,xM, *])
  by_cases rg2:16<=p.g
  ·simp only [simprocAttr,-ZA,↓zU,↓zD,zV,zT,zW,Nd.row,e3,e17,e17n,Bool.not_true,Bool.not_false,ei,ee,rg1,rg2];have rg3:15<p.g:=by omega
   exact .drop (by simp) (by simp [vw,xM, *])
  have rg3:¬ 15<p.g:=by omega
  simp only [simprocAttr,-ZA,↓zU,↓zD,zV,zT,zW,Nd.row,e3,e17,e17n,Bool.not_true,Bool.not_false,ei,ee,rg1,rg2];exact .drop (by simp) (by simp [vw,xM, *])
 ·simp only [simprocAttr,-ZA,↓zU,↓zD,zV,zT,zW,Nd.row,e3,e17,e17n,Bool.not_true,Bool.not_false];refine .go (cq ha) ?_;simp only [simprocAttr,-ZA,↓zU,↓zD,zV,zT,zW,Nd.row,e3,e17,e17n,Bool.not_true,Bool.not_false];refine .go (cq hg) ?_;by_cases hgz:p.g=0
  case neg=> have eg:(p.g != 0)= true:=bne_iff_ne.2 hgz;simp only [simprocAttr,-ZA,↓zU,↓zD,zV,zT,zW,Nd.row,e3,e17,e17n,Bool.not_true,Bool.not_false,eg];exact .drop (by simp) (by simp [vw,xM, *])
  have eg:(p.g != 0)= false:=by simpa using hgz
  simp only [simprocAttr,-ZA,↓zU,↓zD,zV,zT,zW,Nd.row,e3,e17,e17n,Bool.not_true,Bool.not_false,eg];refine .go (cq ha) ?_
  by_cases ri1:p.i<0
  ·simp only [simprocAttr,-ZA,↓zU,↓zD,zV,zT,zW,Nd.row,e3,e17,e17n,Bool.not_true,Bool.not_false,eg,ri1];exact .drop (by simp) (by simp [vw,xM, *])
  by_cases ri2:8<=p.i
  ·simp only [simprocAttr,-ZA,↓zU,↓zD,zV,zT,zW,Nd.row,e3,e17,e17n,Bool.not_true,Bool.not_false,eg,ri1,ri2];have ri3:7<p.i:=by omega
   exact .drop (by simp) (by simp [vw,xM, *])
  have ri3:¬ 7<p.i:=by omega
  by_cases re1:p.e<0
  ·simp only [simprocAttr,-ZA,↓zU,↓zD,zV,zT,zW,Nd.row,e3,e17,e17n,Bool.not_true,Bool.not_false,eg,ri1,ri2,re1];exact .drop (by simp) (by simp [vw,xM, *])
  by_cases re2:8<=p.e
  ·simp only [simprocAttr,-ZA,↓zU,↓zD,zV,zT,zW,Nd.row,e3,e17,e17n,Bool.not_true,Bool.not_false,eg,ri1,ri2,re1,re2];have re3:7<p.e:=by omega
   exact .drop (by simp) (by simp [vw,xM, *])
  have re3:¬ 7<p.e:=by omega
  simp only [simprocAttr,-ZA,↓zU,↓zD,zV,zT,zW,Nd.row,e3,e17,e17n,Bool.not_true,Bool.not_false,eg,ri1,ri2,re1,re2];refine .go (cq hg) ?_;simp only [simprocAttr,-ZA,↓zU,↓zD,zV,zT,zW,Nd.row,e3,e17,e17n,Bool.not_true,Bool.not_false,eg,ri1,ri2,re1,re2];exact .drop (by simp) (by simp [vw,xM, *])
open Rs Fm
theorem aUc (f:List Nd):yV Tryz.prog 117 [.sl 6 (ndR f)] (.int .i64 (yY f)):=by
 refine xX.xP mixed Tryz.func117 bTz (by simp) fun hf=>?_;simp only [D.tE,D.fact,xJ] at hf;have hlen:=hf.1.1
 by_cases h1:f.length=0
 ·have e1:((f.length:Int)== 0)= true:=by simpa using h1
  simp only [simprocAttr,-ZA,↓zU,↓zD,zV,zT,zW,xJ,e1];rw [show yY f=3 from if_pos (List.length_eq_zero_iff.1 h1)];exact .same
 have e1:((f.length:Int)== 0)= false:=by simpa using h1
 have hne:f ≠ []:=fun e=>h1 (by rw [e]; rfl)
 by_cases h2:200<f.length
 ·have h2':(200:Int)<(f.length:Int):=by omega
  simp only [simprocAttr,-ZA,↓zU,↓zD,zV,zT,zW,xJ,e1,h2'];rw [show yY f=8 by rw [yY,if_neg hne,if_pos h2]];exact .same
 have h2':¬ (200:Int)<(f.length:Int):=by omega
 rw [show yY f=aTf f 0 by rw [yY,if_neg hne,if_neg h2]];simp only [simprocAttr,-ZA,↓zU,↓zD,zV,zT,zW,xJ,e1,h2']
 refine xW (fun k:Nat=>[(3,.int .i64 k),(0,.sl 6 (ndR f))]) (fun _=>⟨0,[]⟩) (fun k=>k<=f.length/\aTf f 0=aTf (f.drop k) k) (fun k=>f.length-k) 0 ⟨Nat.zero_le _,rfl⟩ ?_ ?_
 ·(refine xI.same ?_; simp [xR,Fr.get])
 intro k ⟨hk,hi⟩;refine xQ mixed ?_;by_cases h:k<f.length
 case neg=>
  have hd:¬ ((k:Int)<(f.length:Int)):=by omega
  rw [List.drop_eq_nil_of_le (by omega),aTf] at hi;simp only [simprocAttr,-ZA,↓zU,↓zD,zV,zT,zW,hd,xJ];rw [hi];exact .same
 have hd:((k:Int)<(f.length:Int)):=by omega
 rw [drop_cons (d:=nd0) h,aTf] at hi;have hg:=uN f h;generalize f.getD k nd0=p at hg hi;simp only [simprocAttr,-ZA,↓zU,↓zD,zV,zT,zW,hd,xJ,hg,Nd.row]
 (repeat refine sd ?_)
 refine .go (xX.yN (bYn p k) (by simp [D.xU,D.xG,Nd.row])) ?_
 by_cases he:yA p k=0
 ·have e:(yA p k != 0)= false:=by simpa using he
  rw [if_neg (by simpa using he)] at hi;simp only [simprocAttr,-ZA,↓zU,↓zD,zV,zT,zW,e];refine⟨k+1,⟨by omega,hi⟩,?_,by omega⟩
  (refine xI.view (fun k=>k) (by simp) (by simp) ?_ (by simp [stays]) (by simp [vC]); simp [vwF,vw,vwL,Fr.get])
  exact wrap_i64 (by omega)
 ·have e:(yA p k != 0)= true:=bne_iff_ne.2 he;rw [if_pos he] at hi;simp only [simprocAttr,-ZA,↓zU,↓zD,zV,zT,zW,e];rw [hi];exact .dv
end
section
open Rs Fm
namespace Fm
def wOb (kO kD:Nat) (out:List Nd) (dl:List Int):Ob:=⟨2,[[yX kO 6 (ndR out),yX kD 1 (rows .i64 dl)]]⟩
def bQr (nx:Nat) (xS:List (Nat × Ob)) (kO kD:Nat) (out:List Nd) (dl:List Int) (q:Nd) (d:D) (σ':St):Prop:=
 (∃ k:Nat,qG q out 0=some k/\d = .int .i64 k/\σ'=⟨nx+1,(nx,vK q.op q.i q.e q.g q.x q.y) :: xS⟩) \/
 (qG q out 0=none/\d = .int .i64 out.length/\σ'=⟨nx+1+1,yW (nx+1) 6 (ndR (out ++ [q]))++ vV (yG ((nx,vK q.op q.i q.e q.g q.x q.y) :: xS) kO) 0 (wOb (nx+1) kD (out ++ [q]) dl)⟩)
end Fm
theorem bXm {nx kO kD:Nat} {xS:List (Nat × Ob)} {out:List Nd} {dl:List Int} {q:Nd} {d:D} {σ':St} (h0:St.look xS 0=some (wOb kO kD out dl)) (hn:1<=nx) (hlen:out.length<=1000) (hk0:kO≠0) (hk1:kO≠nx) (hk:St.look xS kO=vS 6 (ndR out))
  (h:bQr nx xS kO kD out dl q d σ'):xX Tryz.prog 272 [.ref 0 2 0 0,.agg q.row] ⟨nx,xS⟩ d σ':=by
 have hx0:¬ nx=0:=by omega
 have hx1:¬ nx=kO:=fun e=>hk1 e.symm;refine xX.xP mixed Tryz.func272 bV5 (by simp) fun hf=>?_;simp only [simprocAttr,-ZA,↓zU,↓zD,zV,zT,zW,Nd.row]
 (repeat refine sd ?_)
 refine xW (fun k:Nat=>[(5,.int .i64 k),(3,.ref nx 6 0 0),(0,.ref 0 2 0 0)]) (fun _=>⟨nx+1,(nx,vK q.op q.i q.e q.g q.x q.y) :: xS⟩) (fun k=>k<=out.length/\qG q out 0=qG q (out.drop k) k) (fun k=>out.length-k) 0 ⟨Nat.zero_le _,rfl⟩ ?_ ?_
 ·(refine xI.same ?_; simp [xR,Fr.get,vK])
 intro k ⟨hkl,hi⟩;refine xQ mixed ?_;by_cases hlt:k<out.length
 case pos=>
  have hd:(k:Int)<(out.length:Int):=by omega
  have hg:=uN out hlt;rw [drop_cons (d:=nd0) hlt,qG] at hi;generalize out.getD k nd0=p at hg hi
  by_cases hqp:q=p
  ·subst hqp;rw [if_pos rfl] at hi;have hq:decide ([q.op,q.i,q.e,q.g,q.x,q.y] = [q.op,q.i,q.e,q.g,q.x,q.y])= true:=by simp
   simp only [simprocAttr,-ZA,↓zU,↓zD,zV,zT,zW,hx0,hx1,h0,wOb,xJ,hd,hk,hg,Nd.row,vK,aMa,hq]
   (repeat refine sd ?_)
   rcases h with ⟨k',e1,rfl,rfl⟩ | ⟨e1,_,_⟩
   ·rw [hi] at e1;cases e1;simp only [vK];exact .same
   ·rw [hi] at e1; cases e1
  ·rw [if_neg hqp] at hi
   have hq:decide ([p.op,p.i,p.e,p.g,p.x,p.y] = [q.op,q.i,q.e,q.g,q.x,q.y])= false:=by rw [decide_eq_false_iff_not];exact fun h=>hqp (key_inj h).symm
   simp only [simprocAttr,-ZA,↓zU,↓zD,zV,zT,zW,hx0,hx1,h0,wOb,xJ,hd,hk,hg,Nd.row,vK,aMa,hq]
   (repeat refine sd ?_)
   refine⟨k+1,⟨by omega,hi⟩,?_,by omega⟩
   (refine xI.same ?_; simp only [xR,Fr.get,simprocAttr,-ZA,zS])
   exact wrap_i64 (by omega)
 have hd:¬ (k:Int)<(out.length:Int):=by omega
 rw [List.drop_eq_nil_of_le (by omega),qG] at hi
 rcases h with ⟨k',e1,_,_⟩ | ⟨e1,rfl,rfl⟩
 ·rw [hi] at e1; cases e1
 have hq0:¬ kO=0:=hk0;have er:ndR (out ++ [q])= ndR out ++ [[.int .i64 q.op,.int .i64 q.i,.int .i64 q.e,.int .i64 q.g,.int .i64 q.x,.int .i64 q.y]]:=by simp [ndR,Nd.row]
 simp only [simprocAttr,-ZA,↓zU,↓zD,zV,zT,zW,hx0,hx1,h0,wOb,xJ,hd,hk,Nd.row,vK,xV,xF,hq0]
 (repeat refine sd ?_)
 rw [er,show IntKind.i64.wrap (((out.length+1:Nat):Int)-1)= (out.length:Int) by rw [wrap_i64 (by omega)]; omega];exact .same
end
section
open Rs Fm
namespace Fm
def bVx (i nx2:Nat) (objs2:List (Nat × Ob)) (kO kD:Nat) (out:List Nd) (dl:List Int) (q:Nd) (d:D) (σ':St):Prop:=
 (∃ k:Nat,qG q out 0=some k/\d = .int .i64 k/\σ'=⟨nx2+1,(nx2,vK q.op q.i q.e q.g q.x q.y) :: vV objs2 kD ⟨1,rows .i64 (dl.set i k)⟩⟩) \/
 (qG q out 0=none/\d = .int .i64 out.length/\σ'=⟨nx2+1+1,yW (nx2+1) 6 (ndR (out ++ [q]))++ (nx2,vK q.op q.i q.e q.g q.x q.y) :: vV (vV (yG objs2 kO) 0 (wOb (nx2+1) kD (out ++ [q]) dl)) kD ⟨1,rows .i64 (dl.set i (out.length:Int))⟩⟩)
end Fm
theorem bX0 {f:List Nd} {nx i:Nat} {xS:List (Nat × Ob)} {kO kD:Nat} {s:CS} {dl:List Int} {p:Nd}
  (h0:St.look xS 0=some (wOb kO kD s.out dl)) (hn:1<=nx) (hkD:kD≠0/\kD<nx/\St.look xS kD=some ⟨1,rows .i64 dl⟩) (hdl:dl.length=f.length) (hi:i<f.length) (hp:f.getD i nd0=p) (hno:dl.getD i 0 = -1)
  {a b:Int} {nx1 nx2:Nat} {O1 O2:List (Nat × Ob)} {kO2:Nat} {out2:List Nd} {dl2:List Int}
  (h3:((xZ p.op).1.x=true/\∃ objs1,xX Tryz.prog 255 [.sl 6 (ndR f),.int .i64 p.x,.ref 0 2 0 0] ⟨nx+1,(nx,vK p.op p.i p.e p.g p.x p.y) :: xS⟩ (.int .i64 a) ⟨nx1,objs1⟩/\ St.look objs1 nx=some (vK p.op p.i p.e p.g p.x p.y)/\ O1=vV objs1 nx (vK p.op p.i p.e p.g a p.y)) \/
   ((xZ p.op).1.x=false/\a=p.x/\nx1=nx+1/\O1=(nx,vK p.op p.i p.e p.g p.x p.y) :: xS))
  (hN1:St.look O1 nx=some (vK p.op p.i p.e p.g a p.y))
  (h4:((xZ p.op).1.y=true/\∃ objs2,xX Tryz.prog 255 [.sl 6 (ndR f),.int .i64 p.y,.ref 0 2 0 0] ⟨nx1,O1⟩ (.int .i64 b) ⟨nx2,objs2⟩/\ St.look objs2 nx=some (vK p.op p.i p.e p.g a p.y)/\ O2=vV objs2 nx (vK p.op p.i p.e p.g a b)) \/
   ((xZ p.op).1.y=false/\b=p.y/\nx2=nx1/\O2=O1))
  (hN2:St.look O2 nx=some (vK p.op p.i p.e p.g a b)) (g0:St.look O2 0=some (wOb kO2 kD out2 dl2)) (gD:St.look O2 kD=some ⟨1,rows .i64 dl2⟩) (gd:dl2.length=f.length) (gO:kO2≠0/\kO2≠nx/\kO2≠nx2/\kO2≠kD/\St.look O2 kO2=vS 6 (ndR out2)) (hlen:out2.length<=1000) (hnx:nx<nx2)
  {d:D} {σ':St} (h5:bVx i nx2 O2 kO2 kD out2 dl2 ⟨p.op,p.i,p.e,p.g,a,b⟩ d σ') :
  xX Tryz.prog 255 [.sl 6 (ndR f),.int .i64 i,.ref 0 2 0 0] ⟨nx,xS⟩ d σ':=by
 have hg:=uN f hi;rw [hp] at hg;have hx0:¬ nx=0:=by omega
 have hx1:¬ nx=kD:=by omega
 obtain⟨hkD0,hkDn,hkD⟩:=hkD;obtain⟨gO0,gOn,gO2,gOD,gO⟩:=gO;have hrl:(rows IntKind.i64 dl).length=dl.length:=xE _ _
 have hgd:(rows IntKind.i64 dl).getD i [] = [.int .i64 (-1)]:=by rw [<- hno]; simp [rows,List.getD,hdl,hi]
 refine xX.aEk mixed Tryz.func255 bVm (by simp) fun hf=>?_;refine wpS_seq (xQ mixed ?_);simp only [simprocAttr,-ZA,↓zU,↓zD,zV,zT,zW];refine wpS_seq (xQ mixed ?_);simp only [simprocAttr,-ZA,↓zU,↓zD,zV,zT,zW,h0,wOb,hrl,hdl,hkD,hgd]
 (repeat refine sd ?_)
 refine wpS_seq (xQ mixed ?_);simp only [simprocAttr,-ZA,↓zU,↓zD,zV,zT,zW,xJ,hg,Nd.row]
 (repeat refine sd ?_)
 refine aZ [(7,.ref nx 6 0 0),(2,.ref 0 2 0 0),(1,.int .i64 i),(0,.sl 6 (ndR f))] ⟨nx1,O1⟩ (xQ mixed ?_) ?_
 ·simp only [simprocAttr,-ZA,↓zU,↓zD,zV,zT,zW];refine .go (cq (aMs p.op)) ?_
  rcases h3 with ⟨ux,objs1,hc,hl,rfl⟩ | ⟨ux,rfl,rfl,rfl⟩
  ·rw [ux];simp only [vK] at hc hl;simp only [simprocAttr,-ZA,↓zU,↓zD,zV,zT,zW,xJ,hg,Nd.row]
   (repeat refine sd ?_)
   refine .go hc ?_;simp only [simprocAttr,-ZA,↓zU,↓zD,zV,zT,zW,hl]
   (repeat refine sd ?_)
   (refine xI.same ?_; simp [xR,Fr.get,vK])
  ·rw [ux];simp only [simprocAttr,-ZA,↓zU,↓zD,zV,zT,zW]
   (refine xI.same ?_; simp [xR,Fr.get,vK])
 refine aZ [(7,.ref nx 6 0 0),(2,.ref 0 2 0 0),(1,.int .i64 i),(0,.sl 6 (ndR f))] ⟨nx2,O2⟩ (xQ mixed ?_) ?_
 ·simp only [vK] at hN1;simp only [simprocAttr,-ZA,↓zU,↓zD,zV,zT,zW,hN1]
  (repeat refine sd ?_)
  refine .go (cq (aMr p.op)) ?_
  rcases h4 with ⟨uy,objs2,hc,hl,rfl⟩ | ⟨uy,rfl,rfl,rfl⟩
  ·rw [uy];simp only [vK] at hc hl;simp only [simprocAttr,-ZA,↓zU,↓zD,zV,zT,zW,xJ,hg,Nd.row]
   (repeat refine sd ?_)
   refine .go hc ?_;simp only [simprocAttr,-ZA,↓zU,↓zD,zV,zT,zW,hl]
   (repeat refine sd ?_)
   (refine xI.same ?_; simp [xR,Fr.get,vK])
  ·rw [uy];simp only [simprocAttr,-ZA,↓zU,↓zD,zV,zT,zW]
   (refine xI.same ?_; simp [xR,Fr.get,vK])
 refine xQ mixed ?_;have hrl2:(rows IntKind.i64 dl2).length=dl2.length:=xE _ _;have hset:∀ x:Int,(rows IntKind.i64 dl2).set i [.int .i64 x]=rows .i64 (dl2.set i x):=fun x=>by simp [rows,List.map_set]
 have hget:∀ x:Int,(rows IntKind.i64 (dl2.set i x)).getD i [] = [.int .i64 x]:=fun x=>by simp [rows,List.getD,gd,hi]
 have y0:¬ nx2=0:=by omega
 have y1:¬ nx2=nx:=by omega
 have y2:¬ nx2=kD:=by omega
 have y3:¬ nx2=kO2:=fun e=>gO2 e.symm;have y4:¬ nx2+1=0:=by omega
 have y5:¬ nx2+1=nx:=by omega
 have y6:¬ nx2+1=kD:=by omega
 have z1:¬ kD=nx2+1:=by omega
 have z0:¬ 0=kD:=fun e=>hkD0 e.symm;have z2:¬ kD=0:=hkD0;have z3:¬ 0=nx:=by omega
 have z4:¬ kD=nx:=by omega
 have z5:¬ kD=nx2:=by omega
 have hgd2:(rows IntKind.i64 dl2).getD i [] = [.int .i64 (dl2.getD i 0)]:=by simp [rows,List.getD,gd,hi]
 simp only [vK] at hN2;simp only [simprocAttr,-ZA,↓zU,↓zD,zV,zT,zW,g0,wOb,hN2]
 (repeat refine sd ?_)
 rcases h5 with ⟨k,e1,rfl,rfl⟩ | ⟨e1,rfl,rfl⟩
 ·refine .go (bXm g0 (by omega) hlen gO0 gO2 gO (.inl ⟨k,e1,rfl,rfl⟩)) ?_;simp only [simprocAttr,-ZA,↓zU,↓zD,zV,zT,zW,g0,wOb,hN2,y0,y1,y2,vK,gD,hrl2,gd,xV,hgd2,hset,hget,z0,z2,z3,z4,z5]
  (repeat refine sd ?_)
  exact .same
 ·refine .go (bXm g0 (by omega) hlen gO0 gO2 gO (.inr ⟨e1,rfl,rfl⟩)) ?_;simp only [simprocAttr,-ZA,↓zU,↓zD,zV,zT,zW,g0,wOb,hN2,y0,y1,y2,y3,y4,y5,y6,gO0,gOn,gOD,vK,gD,hrl2,gd,xV,xF,hgd2,hset,hget,z0,z1,z2,z3,z4,z5]
  (repeat refine sd ?_)
  exact .same
end
section
open Rs Fm
namespace Fm
structure aW8 (f : List Nd) (nx : Nat) (xS : List (Nat × Ob)) (kO kD : Nat) (s : CS) (dl : List Int) : Prop where
 hn:1<=nx
 h0:St.look xS 0=some (wOb kO kD s.out dl)
 hO:s.out = []\/(kO<nx/\kO≠0/\kO≠kD/\St.look xS kO=vS 6 (ndR s.out))
 hD:kD≠0/\kD<nx/\St.look xS kD=some ⟨1,rows .i64 dl⟩
 dn:dl.length=f.length
 rel:∀ i,i<f.length->dl.getD i 0=(wR (i:Int) s.done).getD (-1)
 pos:∀ z k,wR z s.done=some k->0<=k
 fr:∀ k,nx<=k->St.look xS k=none
theorem aW8.key {f:List Nd} {nx:Nat} {xS:List (Nat × Ob)} {kO kD:Nat} {s:CS} {dl:List Int} (h:aW8 f nx xS kO kD s dl):∃ k,St.look xS 0=some (wOb k kD s.out dl)/\ k≠0/\k≠kD/\St.look xS k=vS 6 (ndR s.out)/\ ((s.out = []/\k=nx+9)\/(s.out ≠ []/\k=kO/\k<nx)):=by
 rcases h.hO with ho | ⟨h1,h2,h3,h4⟩
 ·refine⟨nx+9,?_,by have:=h.hn; omega,by have:=h.hD; omega,?_,.inl ⟨ho,rfl⟩⟩
  ·rw [h.h0,ho]; rfl
  ·rw [h.fr _ (by omega),ho]; rfl
 ·by_cases ho:s.out = []
  ·refine⟨nx+9,?_,by have:=h.hn; omega,by have:=h.hD; omega,?_,.inl ⟨ho,rfl⟩⟩
   ·rw [h.h0,ho]; rfl
   ·rw [h.fr _ (by omega),ho]; rfl
  ·exact⟨kO,h.h0,h2,h3,h4,.inr ⟨ho,rfl,h1⟩⟩
theorem aW8.alloc {f:List Nd} {nx:Nat} {xS:List (Nat × Ob)} {kO kD:Nat} {s:CS} {dl:List Int} (h:aW8 f nx xS kO kD s dl) (o:Ob):aW8 f (nx+1) ((nx,o) :: xS) kO kD s dl:=by
 obtain⟨hn,h0,hO,hD,dn,rel,pos,fr⟩:=h;have hl:∀ k,k≠nx->St.look ((nx,o) :: xS) k=St.look xS k:=fun k a=>by rw [xY,if_neg (fun e=>a e.symm)]
 refine⟨by omega,by rw [hl 0 (by omega)]; exact h0,?_,⟨hD.1,by omega,by rw [hl kD (by omega)]; exact hD.2.2⟩,dn,rel,pos,fun k hk=>by rw [hl k (by omega)]; exact fr k (by omega)⟩
 rcases hO with ho | ⟨a,b,c,d⟩
 ·exact .inl ho
 ·exact .inr ⟨by omega,b,c,by rw [hl kO (by omega)]; exact d⟩
theorem aW8.set {f:List Nd} {nx:Nat} {xS:List (Nat × Ob)} {kO kD:Nat} {s:CS} {dl:List Int} (h:aW8 f nx xS kO kD s dl) {j:Nat} (hj:j≠0/\j≠kD/\(s.out = []\/j≠kO)) (o:Ob):aW8 f nx (vV xS j o) kO kD s dl:=by
 obtain⟨hn,h0,hO,hD,dn,rel,pos,fr⟩:=h;have hl:∀ k,k≠j->St.look (vV xS j o) k=St.look xS k:=fun k a=>by rw [xV,if_neg (fun e=>a e.symm)]
 refine⟨hn,by rw [hl 0 (by omega)]; exact h0,?_,⟨hD.1,hD.2.1,by rw [hl kD (by omega)]; exact hD.2.2⟩,dn,rel,pos,fun k hk=>zN (fr k hk)⟩
 rcases hO with ho | ⟨a,b,c,d⟩
 ·exact .inl ho
 ·rcases hj.2.2 with e | e
  ·exact .inl e
  ·exact .inr ⟨a,b,c,by rw [hl kO (fun h=>e h.symm)]; exact d⟩
theorem aFa {f:List Nd} {nx nx2 i:Nat} {objs2:List (Nat × Ob)} {kO kD:Nat} {s2:CS} {dl2:List Int} {q:Nd} (hI:aW8 f nx2 objs2 kO kD s2 dl2) (hi:i<f.length) (hnx:1<=nx) (hlt:nx<nx2) (hk:s2.out = []\/kO≠nx) :
  ∃ k2 nx' objs' kO' dl',bVx i nx2 objs2 k2 kD s2.out dl2 q (.int .i64 (cZ i q s2).1) ⟨nx',objs'⟩/\ aW8 f nx' objs' kO' kD (cZ i q s2).2 dl'/\nx2<=nx'/\((kO'=kO/\s2.out ≠ [])\/nx2<=kO')/\
   St.look objs2 0=some (wOb k2 kD s2.out dl2)/\ (k2≠0/\k2≠nx/\k2≠nx2/\k2≠kD/\St.look objs2 k2=vS 6 (ndR s2.out))/\
   (∀ k,1<=k->k<nx2->k≠kD->(k≠kO\/s2.out = [])->St.look objs' k=St.look objs2 k):=by
 obtain⟨k2,g0,gz,gD,gO,gk⟩:=hI.key;obtain⟨hn,h0,hO,hD,dn,rel,pos,fr⟩:=hI
 have hk2:k2≠nx/\k2≠nx2:=by
  rcases gk with ⟨ho,e⟩ | ⟨ho,e,e2⟩
  ·omega
  ·rcases hk with h | h
   ·exact absurd h ho
   ·omega
 have hdl:∀ x:Int,(dl2.set i x).length=f.length:=fun x=>by rw [List.length_set,dn]
 have hrel:∀ (x:Int) (out:List Nd) (j:Nat),j<f.length->(dl2.set i x).getD j 0=(wR (j:Int) (⟨out,iA i x s2.done⟩:CS).done).getD (-1):=by
  intro x out j hj;simp only;rw [vE]
  by_cases e:j=i
  ·subst e;rw [if_pos rfl];simp [List.getD,dn,hj]
  ·rw [if_neg (by omega),<- rel j hj];simp only [List.getD,List.getElem?_set_ne (Ne.symm e)]
 have hpos:∀ (x:Int) (out:List Nd),0<=x->∀ z k,wR z (⟨out,iA i x s2.done⟩:CS).done=some k->0<=k:=by
  intro x out hx z k h;simp only at h;rw [vE] at h
  split at h
  ·cases h; exact hx
  ·exact pos z k h
 cases hq:qG q s2.out 0 with
 | some k=>
  have e:cZ i q s2=((k:Int),(⟨s2.out,iA i k s2.done⟩:CS)):=by simp only [cZ,hq]
  rw [e]
  refine⟨k2,nx2+1,_,kO,dl2.set i k,.inl ⟨k,hq,rfl,rfl⟩,?_,by omega,.inl ⟨rfl,fun e=>by rw [e] at hq; cases hq⟩,g0,⟨gz,hk2.1,hk2.2,gD,gO⟩,fun j a1 a2 a3 a4=>?_⟩
  ·have hl:∀ j,j≠nx2->j≠kD->St.look ((nx2,vK q.op q.i q.e q.g q.x q.y) :: vV objs2 kD ⟨1,rows .i64 (dl2.set i k)⟩) j=St.look objs2 j:=fun j a b=>by rw [xY,if_neg (fun e=>a e.symm),xV,if_neg (fun e=>b e.symm)]
   refine⟨by omega,?_,?_,⟨hD.1,by omega,?_⟩,hdl _,hrel _ _,hpos _ _ (by omega),fun j hj=>?_⟩
   ·rw [hl 0 (by omega) (fun e=>hD.1 e.symm),h0]
    obtain⟨d0,dr,hdr⟩:∃ a b,dl2=a :: b:=by
     cases dl2 with
     | nil=>simp at dn; omega
     | cons a b=>exact⟨a,b,rfl⟩
    have:yX kD 1 (rows IntKind.i64 (dl2.set i k))= yX kD 1 (rows IntKind.i64 dl2):=by
     rw [hdr]
     cases i with
     | zero=>simp [yX,rows]
     | succ i=>simp [yX,rows]
    simp only [wOb,this]
   ·rcases hO with ho | ⟨a,b,c,d⟩
    ·exact .inl ho
    ·exact .inr ⟨by omega,b,c,by rw [hl kO (by omega) c]; exact d⟩
   ·rw [xY,if_neg (by omega),xV,if_pos rfl,hD.2.2]; rfl
   ·rw [hl j (by omega) (by omega)]; exact fr j (by omega)
  ·rw [xY,if_neg (by omega),xV,if_neg (by omega)]
 | none=>
  have e:cZ i q s2=((s2.out.length:Int),(⟨s2.out ++ [q],iA i s2.out.length s2.done⟩:CS)):=by simp only [cZ,hq]
  rw [e]
  refine⟨k2,nx2+1+1,_,nx2+1,dl2.set i (s2.out.length:Int),.inr ⟨hq,rfl,rfl⟩,?_,by omega,.inr (by omega),g0,⟨gz,hk2.1,hk2.2,gD,gO⟩,fun j a1 a2 a3 a4=>?_⟩
  ·have hne:vS 6 (ndR (s2.out ++ [q]))≠ none:=by obtain⟨e,r,h⟩:=aEd s2.out q;rw [h]; simp [vS]
   have hl:∀ j,j≠nx2+1->j≠nx2->j≠kD->j≠0->j≠k2->St.look (yW (nx2+1) 6 (ndR (s2.out ++ [q]))++ (nx2,vK q.op q.i q.e q.g q.x q.y) :: vV (vV (yG objs2 k2) 0 (wOb (nx2+1) kD (s2.out ++ [q]) dl2)) kD ⟨1,rows .i64 (dl2.set i (s2.out.length:Int))⟩) j=St.look objs2 j:=fun j a b c d e=>by rw [yK,if_neg (fun e=>a e.symm),xY,if_neg (fun e=>b e.symm),xV,if_neg (fun e=>c e.symm),xV,if_neg (fun e=>d e.symm),xF,if_neg (fun h=>e h.symm)]
   have hgD:yX kD 1 (rows IntKind.i64 (dl2.set i (s2.out.length:Int)))= yX kD 1 (rows IntKind.i64 dl2):=by
    obtain⟨d0,dr,hdr⟩:∃ a b,dl2=a :: b:=by
     cases dl2 with
     | nil=>simp at dn; omega
     | cons a b=>exact⟨a,b,rfl⟩
    rw [hdr]
    cases i with
    | zero=>simp [yX,rows]
    | succ i=>simp [yX,rows]
   refine⟨by omega,?_,.inr ⟨by omega,by omega,by omega,?_⟩,⟨hD.1,by omega,?_⟩,hdl _,hrel _ _,hpos _ _ (by omega),fun j hj=>?_⟩
   ·rw [yK,if_neg (by omega),xY,if_neg (by omega),xV,if_neg hD.1,xV,if_pos rfl,xF,if_neg gz,h0];simp only [wOb,hgD,Option.map_some]
   ·rw [yK,if_pos rfl]
    cases hgg:vS 6 (ndR (s2.out ++ [q])) with
    | none=>exact absurd hgg hne
    | some o=>rfl
   ·rw [yK,if_neg (by omega),xY,if_neg (by omega),xV,if_pos rfl,xV,if_neg (fun e=>hD.1 e.symm),xF,if_neg gD,hD.2.2]; rfl
   ·rw [yK,if_neg (by omega),xY,if_neg (by omega)];refine zN (zN ?_);rw [xF]
    split
    ·rfl
    ·exact fr j (by omega)
  ·have hjk:j≠k2:=by
    rcases gk with ⟨ho,e⟩ | ⟨ho,e,e2⟩
    ·omega
    ·rcases a4 with a4 | a4
     ·rw [e]; exact a4
     ·exact absurd a4 ho
   rw [yK,if_neg (by omega),xY,if_neg (by omega),xV,if_neg (fun e=>a3 e.symm),xV,if_neg (by omega),xF,if_neg (fun e=>hjk e.symm)]
end Fm
end
section
open Rs Fm
theorem aDq {f:List Nd} {nx i:Nat} {xS:List (Nat × Ob)} {kO kD:Nat} {s:CS} {dl:List Int} {k:Int} (hI:aW8 f nx xS kO kD s dl) (hi:i<f.length) (hu:wR (i:Int) s.done=some k) :
  xX Tryz.prog 255 [.sl 6 (ndR f),.int .i64 i,.ref 0 2 0 0] ⟨nx,xS⟩ (.int .i64 k) ⟨nx,xS⟩:=by
 obtain⟨hn,h0,hO,⟨hD0,hDn,hD⟩,dn,rel,pos,fr⟩:=hI;have hr:=rel i hi;rw [hu,Option.getD_some] at hr;have hk:0<=k:=pos _ _ hu;have hrl:(rows IntKind.i64 dl).length=dl.length:=xE _ _
 have hgd:(rows IntKind.i64 dl).getD i [] = [.int .i64 k]:=by rw [<- hr]; simp [rows,List.getD,dn,hi]
 refine xX.xP mixed Tryz.func255 bVm (by simp) fun hf=>?_;simp only [simprocAttr,-ZA,↓zU,↓zD,zV,zT,zW,h0,wOb,hrl,dn,hD,hgd,hk]
 (repeat refine sd ?_)
 exact .same
theorem aXl {f:List Nd} {kD:Nat} (hc:∀ k,k<f.length->yA (f.getD k nd0) k=0) (hlen:f.length<=900):∀ (n:Nat) {i nx:Nat} {xS:List (Nat × Ob)} {kO:Nat} {s:CS} {dl:List Int},i<n->i<f.length->kP f s->aW8 f nx xS kO kD s dl ->
  ∃ nx' objs' kO' dl',aW8 f nx' objs' kO' kD (xK f n i s).2 dl'/\nx<=nx'/\((kO'=kO/\s.out ≠ [])\/nx<=kO'\/(xK f n i s).2.out = [])/\ (∀ k,1<=k->k<nx->k≠kD->(k≠kO\/s.out = [])->St.look objs' k=St.look xS k)/\
   xX Tryz.prog 255 [.sl 6 (ndR f),.int .i64 i,.ref 0 2 0 0] ⟨nx,xS⟩ (.int .i64 (xK f n i s).1) ⟨nx',objs'⟩
 | 0,i,nx,xS,kO,s,dl,h,_,_,_=>by omega
 | n + 1,i,nx,xS,kO,s,dl,h,hi,hs,hI=>by
  cases hu:wR (i:Int) s.done with
  | some k=>
   rw [xK,hu];refine⟨nx,xS,kO,dl,hI,Nat.le_refl _,?_,fun _ _ _ _ _=>rfl,aDq hI hi hu⟩
   by_cases ho:s.out = []
   ·exact .inr (.inr ho)
   ·exact .inl ⟨rfl,ho⟩
  | none=>
   rw [rF hu];obtain⟨ox,oy⟩:=qZ (hc i hi);simp only;generalize hp:f.getD i nd0=p at ox oy;have hno:dl.getD i 0 = -1:=by rw [hI.rel i hi,hu]; rfl
   have hn:=hI.hn;have hD:=hI.hD;have hA:=hI.alloc (vK p.op p.i p.e p.g p.x p.y);have hA0:∀ k,k<nx->St.look ((nx,vK p.op p.i p.e p.g p.x p.y) :: xS) k=St.look xS k:=fun k hk=>by rw [xY,if_neg (by omega)]
   have hAn:St.look ((nx,vK p.op p.i p.e p.g p.x p.y) :: xS) nx=some (vK p.op p.i p.e p.g p.x p.y):=by rw [xY,if_pos rfl]
   have hkO:s.out = []\/kO<nx:=by rcases hI.hO with ho | ⟨a,_⟩; exact .inl ho; exact .inr a
   have S1:∃ nx1 O1 kO1 dl1,aW8 f nx1 O1 kO1 kD (if (xZ p.op).1.x=true then xK f n p.x.toNat s else(p.x,s)).2 dl1/\kP f (if (xZ p.op).1.x=true then xK f n p.x.toNat s else(p.x,s)).2/\nx<nx1 /\
     ((kO1=kO/\s.out ≠ [])\/nx+1<=kO1\/(if (xZ p.op).1.x=true then xK f n p.x.toNat s else(p.x,s)).2.out = [])/\ (∀ k,1<=k->k<nx->k≠kD->(k≠kO\/s.out = [])->St.look O1 k=St.look xS k)/\
     (((xZ p.op).1.x=true/\∃ objs1,xX Tryz.prog 255 [.sl 6 (ndR f),.int .i64 p.x,.ref 0 2 0 0] ⟨nx+1,(nx,vK p.op p.i p.e p.g p.x p.y) :: xS⟩ (.int .i64 (if (xZ p.op).1.x=true then xK f n p.x.toNat s else(p.x,s)).1) ⟨nx1,objs1⟩/\ St.look objs1 nx=some (vK p.op p.i p.e p.g p.x p.y)/\ O1=vV objs1 nx (vK p.op p.i p.e p.g (if (xZ p.op).1.x=true then xK f n p.x.toNat s else(p.x,s)).1 p.y)) \/
      ((xZ p.op).1.x=false/\(if (xZ p.op).1.x=true then xK f n p.x.toNat s else(p.x,s)).1=p.x/\nx1=nx+1/\O1=(nx,vK p.op p.i p.e p.g p.x p.y) :: xS))/\
     St.look O1 nx=some (vK p.op p.i p.e p.g (if (xZ p.op).1.x=true then xK f n p.x.toNat s else(p.x,s)).1 p.y):=by
    by_cases hx:(xZ p.op).1.x=true
    ·obtain⟨hx1,hx2⟩:=ox hx;have hxn:((p.x.toNat:Nat):Int)= p.x:=Int.toNat_of_nonneg hx1;obtain⟨nx1,objs1,kO1,dl1,I1,l1,k1,f1,c1⟩:=aXl hc hlen n (i:=p.x.toNat) (by omega) (by omega) hs hA;have g1:=sT hc n (i:=p.x.toNat) (s:=s) (by omega) (by omega) hs;rw [if_pos hx];rw [hxn] at c1
     have hl:St.look objs1 nx=some (vK p.op p.i p.e p.g p.x p.y):=by rw [f1 nx hn (by omega) (by omega) (by rcases hkO with h | h; exact .inr h; exact .inl (by omega))]; exact hAn
     have hkn:(xK f n p.x.toNat s).2.out = []\/nx≠kO1:=by
      rcases k1 with ⟨e,ho⟩ | h | h
      ·rcases hkO with h | h
       ·exact absurd h ho
       ·exact .inr (by omega)
      ·exact .inr (by omega)
      ·exact .inl h
     refine⟨nx1,_,kO1,dl1,I1.set (j:=nx) ⟨by omega,by omega,hkn⟩ _,g1.1,by omega,k1,fun k a1 a2 a3 a4=>?_,.inl ⟨hx,objs1,c1,hl,rfl⟩,?_⟩
     ·rw [xV,if_neg (by omega),f1 k a1 (by omega) a3 a4]; exact hA0 k a2
     ·rw [xV,if_pos rfl,hl]; rfl
    ·rw [if_neg hx];refine⟨nx+1,_,kO,dl,hA,hs,by omega,?_,fun k a1 a2 a3 a4=>hA0 k a2,.inr ⟨by simpa using hx,rfl,rfl,rfl⟩,hAn⟩
     by_cases ho:s.out = []
     ·exact .inr (.inr ho)
     ·exact .inl ⟨rfl,ho⟩
   generalize (if (xZ p.op).1.x=true then xK f n p.x.toNat s else(p.x,s))= A at S1;obtain⟨nx1,O1,kO1,dl1,I1,F1,l1,k1,f1,c1,n1⟩:=S1
   have hk1:A.2.out = []\/nx≠kO1:=by
    rcases k1 with ⟨e,ho⟩ | h | h
    ·rcases hkO with h | h
     ·exact absurd h ho
     ·exact .inr (by omega)
    ·exact .inr (by omega)
    ·exact .inl h
   have S2:∃ nx2 O2 kO2 dl2,aW8 f nx2 O2 kO2 kD (if (xZ p.op).1.y=true then xK f n p.y.toNat A.2 else(p.y,A.2)).2 dl2/\kP f (if (xZ p.op).1.y=true then xK f n p.y.toNat A.2 else(p.y,A.2)).2/\nx1<=nx2 /\
     ((kO2=kO1/\A.2.out ≠ [])\/nx1<=kO2\/(if (xZ p.op).1.y=true then xK f n p.y.toNat A.2 else(p.y,A.2)).2.out = [])/\ (∀ k,1<=k->k<nx->k≠kD->(k≠kO1\/A.2.out = [])->St.look O2 k=St.look O1 k)/\
     (((xZ p.op).1.y=true/\∃ objs2,xX Tryz.prog 255 [.sl 6 (ndR f),.int .i64 p.y,.ref 0 2 0 0] ⟨nx1,O1⟩ (.int .i64 (if (xZ p.op).1.y=true then xK f n p.y.toNat A.2 else(p.y,A.2)).1) ⟨nx2,objs2⟩/\ St.look objs2 nx=some (vK p.op p.i p.e p.g A.1 p.y)/\ O2=vV objs2 nx (vK p.op p.i p.e p.g A.1 (if (xZ p.op).1.y=true then xK f n p.y.toNat A.2 else(p.y,A.2)).1)) \/
      ((xZ p.op).1.y=false/\(if (xZ p.op).1.y=true then xK f n p.y.toNat A.2 else(p.y,A.2)).1=p.y/\nx2=nx1/\O2=O1))/\
     St.look O2 nx=some (vK p.op p.i p.e p.g A.1 (if (xZ p.op).1.y=true then xK f n p.y.toNat A.2 else(p.y,A.2)).1):=by
    by_cases hy:(xZ p.op).1.y=true
    ·obtain⟨hy1,hy2⟩:=oy hy;have hyn:((p.y.toNat:Nat):Int)= p.y:=Int.toNat_of_nonneg hy1;obtain⟨nx2,objs2,kO2,dl2,I2,l2,k2,f2,c2⟩:=aXl hc hlen n (i:=p.y.toNat) (by omega) (by omega) F1 I1;have g2:=sT hc n (i:=p.y.toNat) (s:=A.2) (by omega) (by omega) F1;rw [if_pos hy];rw [hyn] at c2
     have hl:St.look objs2 nx=some (vK p.op p.i p.e p.g A.1 p.y):=by rw [f2 nx hn (by omega) (by omega) (by rcases hk1 with h | h; exact .inr h; exact .inl h)]; exact n1
     have hkn:(xK f n p.y.toNat A.2).2.out = []\/nx≠kO2:=by
      rcases k2 with ⟨e,ho⟩ | h | h
      ·rcases hk1 with h | h
       ·exact absurd h ho
       ·exact .inr (by omega)
      ·exact .inr (by omega)
      ·exact .inl h
     refine⟨nx2,_,kO2,dl2,I2.set (j:=nx) ⟨by omega,by omega,hkn⟩ _,g2.1,by omega,k2,fun k a1 a2 a3 a4=>?_,.inl ⟨hy,objs2,c2,hl,rfl⟩,?_⟩
     ·rw [xV,if_neg (by omega),f2 k a1 (by omega) a3 a4]
     ·rw [xV,if_pos rfl,hl]; rfl
    ·rw [if_neg hy];refine⟨nx1,_,kO1,dl1,I1,F1,by omega,?_,fun k a1 a2 a3 a4=>rfl,.inr ⟨by simpa using hy,rfl,rfl,rfl⟩,n1⟩
     by_cases ho:A.2.out = []
     ·exact .inr (.inr ho)
     ·exact .inl ⟨rfl,ho⟩
   generalize (if (xZ p.op).1.y=true then xK f n p.y.toNat A.2 else(p.y,A.2))= B at S2;obtain⟨nx2,O2,kO2,dl2,I2,F2,l2,k2,f2,c2,n2⟩:=S2
   have hk2:B.2.out = []\/kO2≠nx:=by
    rcases k2 with ⟨e,ho⟩ | h | h
    ·rcases hk1 with h | h
     ·exact absurd h ho
     ·exact .inr (by omega)
    ·exact .inr (by omega)
    ·exact .inl h
   obtain⟨kk,nx',objs',kO',dl',e1,e2,e3,e4,e5,e6,e7⟩:=aFa (q:=⟨p.op,p.i,p.e,p.g,A.1,B.1⟩) (i:=i) (nx:=nx) I2 hi hn (by omega) hk2
   refine⟨nx',objs',kO',dl',e2,by omega,?_,fun k a1 a2 a3 a4=>?_,bX0 hI.h0 hn hD hI.dn hi hp hno c1 n1 c2 n2 e5 I2.hD.2.2 I2.dn e6 (by have:=F2.len; omega) (by omega) e1⟩
   ·rcases e4 with ⟨a,b⟩ | h
    ·rcases k2 with ⟨c,d⟩ | h | h
     ·rcases k1 with ⟨c',d'⟩ | h | h
      ·exact .inl ⟨by omega,d'⟩
      ·exact .inr (.inl (by omega))
      ·exact absurd h d
     ·exact .inr (.inl (by omega))
     ·exact absurd h b
    ·exact .inr (.inl (by omega))
   ·have ka:k≠kO1\/A.2.out = []:=by
     rcases k1 with ⟨c',d'⟩ | h | h
     ·rcases a4 with a4 | a4
      ·exact .inl (by omega)
      ·exact absurd a4 d'
     ·exact .inl (by omega)
     ·exact .inr h
    have kb:k≠kO2\/B.2.out = []:=by
     rcases k2 with ⟨c',d'⟩ | h | h
     ·rcases ka with a4 | a4
      ·exact .inl (by omega)
      ·exact absurd a4 d'
     ·exact .inl (by omega)
     ·exact .inr h
    rw [e7 k a1 (by omega) a3 kb,f2 k a1 a2 a3 ka,f1 k a1 a2 a3 a4]
open Rs Fm
theorem aHr (f:List Nd) (i:Int):yV Tryz.prog 223 [.sl 6 (ndR f),.int .i64 i] (.sl 6 (ndR (iU f i))):=by
 refine xX.xP mixed Tryz.func223 bUh (by simp) fun hf=>?_;simp only [simprocAttr,-ZA,↓zU,↓zD,zV,zT,zW];refine .go (cr (aUc f)) ?_;by_cases hc:yY f=0
 case neg=> have e:(yY f != 0)= true:=bne_iff_ne.2 hc;simp only [simprocAttr,-ZA,↓zU,↓zD,zV,zT,zW,e];rw [show iU f i = [] from if_pos (.inl hc)];exact .drop (by simp) (by simp [vw,ndR])
 have e:(yY f != 0)= false:=by simpa using hc
 by_cases h1:i<0
 ·simp only [simprocAttr,-ZA,↓zU,↓zD,zV,zT,zW,e,h1];rw [show iU f i = [] from if_pos (.inr (.inl h1))];exact .drop (by simp) (by simp [vw,ndR])
 by_cases h2:(f.length:Int)<=i
 ·simp only [simprocAttr,-ZA,↓zU,↓zD,zV,zT,zW,e,h1,xJ,h2];rw [show iU f i = [] from if_pos (.inr (.inr h2))];exact .drop (by simp) (by simp [vw,ndR])
 obtain⟨j,rfl⟩:=Int.eq_ofNat_of_zero_le (show 0<=i by omega);obtain⟨c1,c2,c3⟩:=wP hc;rw [show iU f j=vW f j by rw [iU,if_neg (by omega),Int.toNat_natCast]];simp only [simprocAttr,-ZA,↓zU,↓zD,zV,zT,zW,e,h1,xJ,h2]
 refine xW (fun k:Nat=>[(6,.int .i64 k),(5,.ref 0 2 0 0),(1,.int .i64 j),(0,.sl 6 (ndR f))]) (fun k=>⟨2,yW 1 1 (rows .i64 (List.replicate k (-1)))++ [(0,⟨2,[[.xH,yX 1 1 (rows .i64 (List.replicate k (-1)))]]⟩)]⟩) (fun k=>k<=f.length) (fun k=>f.length-k) 0 (Nat.zero_le _) ?_ ?_
 ·(refine xI.ren [] [0] (by simp) (by simp) (by decide) ?_; simp only [yQ,vwL,vw,vwF,sw,St.get,St.look,Fr.get,simprocAttr,-ZA,exists_eq_left',ne_eq,zR,List.replicate_zero,oZ,zK,zL,List.nil_append])
 intro k hk;refine xQ mixed ?_
 by_cases h:k<f.length
 ·have hd:((k:Int)<(f.length:Int)):=by omega
  have hw:IntKind.i64.wrap ((k:Int)+ 1)= ((k+1:Nat):Int):=wrap_i64 (by omega);have hrl:(rows IntKind.i64 (List.replicate k (-1))).length=k:=by simp [rows]
  have hsn:rows IntKind.i64 (List.replicate (k+1) (-1))= rows .i64 (List.replicate k (-1))++ [[.int .i64 (-1)]]:=by rw [List.replicate_succ']; simp [rows]
  simp only [simprocAttr,-ZA,↓zU,↓zD,zV,zT,zW,hd,xJ,hrl]
  (repeat refine sd ?_)
  refine⟨k+1,by omega,?_,by omega⟩;rw [hsn]
  (refine xI.ren [(1,2)] [1,0] (by simp) (by simp) (by decide) ?_; simp only [yQ,vwL,vw,vwF,sw,St.get,St.look,Fr.get,simprocAttr,-ZA,exists_eq_left',ne_eq,zR,hw])
 have hd:¬ ((k:Int)<(f.length:Int)):=by omega
 obtain rfl:k=f.length:=by omega
 simp only [simprocAttr,-ZA,↓zU,↓zD,zV,zT,zW,hd,xJ];have hne:0<f.length:=by cases f with | nil=>exact absurd rfl c1 | cons a b=>simp
 have hI0:aW8 f 2 (yW 1 1 (rows .i64 (List.replicate f.length (-1)))++ [(0,⟨2,[[.xH,yX 1 1 (rows .i64 (List.replicate f.length (-1)))]]⟩)]) 11 1 ⟨[],[]⟩ (List.replicate f.length (-1)):=by
  have hcons:∃ a b,rows IntKind.i64 (List.replicate f.length (-1))= a :: b:=by
   cases hl:f.length with
   | zero=>omega
   | succ m=>exact⟨_,_,rfl⟩
  refine⟨by omega,by rw [yK,if_neg (by omega)]; rfl,.inl rfl,⟨by omega,by omega,?_⟩,by simp,fun i hi=>?_,fun z k h=>(by cases h),fun k hk=>?_⟩
  ·obtain⟨a,b,hab⟩:=hcons;rw [hab]; rfl
  ·simp [List.getD,hi,wR]
  ·rw [yK,if_neg (by omega),xY,if_neg (by omega)]; rfl
 obtain⟨nx',objs',kO',dl',I1,_,_,_,cc⟩:=aXl c3 (by omega) (j+1) (i:=j) (by omega) (show j<f.length by omega) ⟨Nat.le_refl _,by simp,fun p hp=>by cases hp⟩ hI0;have ee:(xK f (j+1) j ⟨[],[]⟩).2.out=vW f j:=rfl;have g0:=I1.h0;have gO:=I1.hO;rw [ee] at g0 gO;refine .go cc ?_;simp only [simprocAttr,-ZA,↓zU,↓zD,zV,zT,zW,g0,wOb]
 (repeat refine sd ?_)
 rcases gO with hO | ⟨a1,a2,a3,a4⟩
 ·rw [hO];exact .drop (by simp) (by simp [vw,ndR,yX])
 ·exact .drop (by simp) (oK (by simp) (iJ _) a4)
theorem pF (f:List Nd):yV Tryz.prog 179 [.sl 6 (ndR f)] (.sl 6 (ndR (xC f))):=by refine xX.xP mixed Tryz.func179 bU8 (by simp) fun hf=>?_;simp only [D.tE,D.fact,xJ] at hf;have hlen:=hf.1.1;have e:IntKind.i64.wrap ((f.length:Int)-1)= (f.length:Int)-1:=wrap_i64 (by omega);simp only [simprocAttr,-ZA,↓zU,↓zD,zV,zT,zW,xJ,e];refine .go (cr (aHr f _)) ?_;simp only [simprocAttr,-ZA,↓zU,↓zD,zV,zT,zW];exact .same
theorem aQ0 (f:List Nd):yV Tryz.prog 182 [.sl 6 (ndR f)] (.int .i64 (nW f)):=by
 have hlen:=nS f ((f.length:Int)-1);rw [show iU f ((f.length:Int)-1)= xC f from rfl] at hlen;have hnd:=aYg f
 have hall:∀ p ∈ xC f,rU p<4096:=fun p hp=>by obtain⟨k,hk⟩:=mQ hnd hp;exact aRa hk
 refine xX.xP mixed Tryz.func182 bU5 (by simp) fun hf=>?_;simp only [simprocAttr,-ZA,↓zU,↓zD,zV,zT,zW];refine .go (cr (pF f)) ?_;simp only [simprocAttr,-ZA,↓zU,↓zD,zV,zT,zW];unfold nW;generalize xC f=c at hlen hnd hall
 refine xW (fun k:Nat=>[(5,.int .i64 k),(4,.int .i64 (yD rU (c.take k))),(3,.sl 6 (ndR c))]) (fun _=>⟨0,[]⟩) (fun k=>k<=c.length) (fun k=>c.length-k) 0 (Nat.zero_le _) ?_ ?_
 ·(refine xI.same ?_; simp [xR,Fr.get,yD])
 intro k hk;refine xQ mixed ?_
 by_cases h:k<c.length
 ·have hd:((k:Int)<(c.length:Int)):=by omega
  have hw:IntKind.i64.wrap ((k:Int)+ 1)= ((k+1:Nat):Int):=wrap_i64 (by omega);have hg:=uN c h;have hq:=hnd k h;have hlt:yD rU (c.take k)<2 ^ 12:=rL fun p hp=>hall p (List.mem_of_mem_take hp);have hs:yD rU (c.take (k+1))= yD rU (c.take k) ||| rU (c.getD k nd0):=by rw [yB (d:=nd0) h,qU]
  generalize c.getD k nd0=p at hg hq hs;have hu:=aNn p.op
  by_cases h3:p.op=3
  ·have e3:(p.op==3)= true:=by simpa using h3
   rw [e3] at hu;obtain⟨i0,i7⟩:=nO hq hu.symm;obtain⟨m,hm⟩:=Int.eq_ofNat_of_zero_le i0;have hm7:m<=7:=by omega
   have hp2:(2:Nat)^ m<2 ^ 62:=Nat.pow_lt_pow_right (by omega) (by omega);have hor:=aR9 (a:=yD rU (c.take k)) (b:=2 ^ m) (by omega) hp2;have hfn:rU p=2 ^ m:=by rw [rU,if_pos hu.symm,hm,Int.toNat_natCast]
   simp only [simprocAttr,-ZA,↓zU,↓zD,zV,zT,zW,hd,xJ,hg,Nd.row,e3,hm,bXc (show m<=61 by omega),hor]
   (repeat refine sd ?_)
   refine⟨k+1,by omega,?_,by omega⟩;rw [hs,hfn]
   (refine xI.same ?_; simp only [xR,Fr.get,simprocAttr,-ZA,zS])
   exact hw
  ·have e3:(p.op==3)= false:=by simpa using h3
   rw [e3] at hu;have hfn:rU p=0:=by rw [rU,if_neg (by rw [<- hu]; simp)]
   simp only [simprocAttr,-ZA,↓zU,↓zD,zV,zT,zW,hd,xJ,hg,Nd.row,e3]
   (repeat refine sd ?_)
   refine⟨k+1,by omega,?_,by omega⟩;rw [hs,hfn,Nat.or_zero]
   (refine xI.same ?_; simp only [xR,Fr.get,simprocAttr,-ZA,zS])
   exact hw
 have hd:¬ ((k:Int)<(c.length:Int)):=by omega
 obtain rfl:k=c.length:=by omega
 simp only [simprocAttr,-ZA,↓zU,↓zD,zV,zT,zW,hd,xJ];exact .same
end
end Go.Pd
