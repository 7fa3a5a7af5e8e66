/- Part KA. -/
import Derived.Test.YtndfaefmmcoapaaGreatGeP7
set_option linter.unusedSectionVars false
set_option linter.unusedVariables false
set_option linter.unusedSimpArgs false
set_option linter.defProp false
set_option maxRecDepth 20000
set_option maxHeartbeats 1000000
open Go.Proofs.Tryz
open List renaming drop_eq_nil_of_le->γ,any_cons->δ,any_nil->ε,any_eq_false->ζ
open Nat renaming zero_le->η,not_lt_zero->θ
open Bool renaming false_or->κ,true_or->μ
namespace Go.Pd
open Go Go.Proofs
open BitVec renaming isValue -> ZA
open Rs Fm Ru
namespace Kb
structure bL where
 test:List Nd
 mv:Int
structure fP where
 fact:Int
 to:List Nd
structure yT where
 F:Int
 init:List (BitVec 64)
 xV:List (BitVec 64)
 xO:List (List fP)
 code:List (List bL)
def l6 : bL:=⟨[],0⟩
def aN : fP:=⟨0,[]⟩
def bL.row (c:bL):List D:=[.sl 6 (wN c.test),.int .i64 c.mv]
def fP.row (a:fP):List D:=[.int .i64 a.fact,.sl 6 (wN a.to)]
def Ze (l:List bL):List (List D):=l.map bL.row
def k9 (l:List fP):List (List D):=l.map fP.row
def uK (l:List (List fP)):List (List D):=l.map λs=>[.sl 2 (k9 s)]
def uJ (l:List (List bL)):List (List D):=l.map λs=>[.sl 2 (Ze s)]
def yT.cells (p:yT):List D:=[.int .i64 p.F,.sl 1 (us p.init),.sl 1 (us p.xV),.sl 1 (uK p.xO),.sl 1 (uJ p.code)]
def yT.d (p:yT):D:=.agg p.cells
theorem vI (l:List bL):(Ze l).length=l.length:=by simp [Ze]
theorem vS (l:List fP):(k9 l).length=l.length:=by simp [k9]
theorem yJ (l:List (List fP)):(uK l).length=l.length:=by simp [uK]
theorem zF (l:List (List bL)):(uJ l).length=l.length:=by simp [uJ]
theorem xm (l:List bL) {i:Nat} (h:i<l.length):(Ze l).getD i []=(l.getD i l6).row:=by simp [Ze,List.getD,h]
theorem kV (l:List fP) {i:Nat} (h:i<l.length):(k9 l).getD i []=(l.getD i aN).row:=by simp [k9,List.getD,h]
theorem iE (l:List (List fP)) {i:Nat} (h:i<l.length):(uK l).getD i [] = [.sl 2 (k9 (l.getD i []))]:=by simp [uK,List.getD,h]
theorem hZ (l:List (List bL)) {i:Nat} (h:i<l.length):(uJ l).getD i [] = [.sl 2 (Ze (l.getD i []))]:=by simp [uJ,List.getD,h]
def wT {α:Type} (f:α->Int):List α->Int
 | []=>0
 | x :: r=>if f x≠0 then f x else wT f r
theorem oC {α:Type} {f:α->Int}:∀ {l:List α},wT f l=0 ↔ ∀ x ∈ l,f x=0
 | []=>by simp [wT]
 | x :: r=>by
  unfold wT
  by_cases h:f x=0
  ·rw [if_neg (by simpa using h),oC]; simp [h]
  ·rw [if_pos h]; simp [h]
def ju (l:List Int):Bool:=(List.range (l.length-1)).all λi=>decide (l.getD i 0<l.getD (i+1) 0)
def vq (p:yT) (f:List Nd) (frags:Int):Int:= if yW f≠0 then yW f else if (sW .andNot .i64 (zX f) frags != 0)= true then 10 else if sL f p.xV.length p.F=true then 0 else 2
def mV (p:yT) (a:fP):Int:=if a.fact<0\/p.F<=a.fact then 2 else vq p a.to 0
def jS (p:yT) (c:bL):Int:=if vq p c.test 15≠0 then vq p c.test 15 else if c.mv < -1\/(p.xO.length:Int)<=c.mv then 2 else 0
def pE (p:yT) (s:BitVec 64):Bool:=!decide (s >>> p.F.toNat=0#64)
def jv (l:List (BitVec 64)):Bool:=ju (l.map ui)
def bV (s:List fP):Bool:=ju (s.map (·.fact))
def wL (p:yT):Int:=
 if p.F<0\/8<p.F then 2 else
 if 4<p.xV.length\/16<p.init.length\/8<p.xO.length\/p.code.any (λl=>decide (6<l.length))= true then 8 else
 if p.xV.length=0\/p.init.length=0\/p.code.length≠p.xV.length\/p.init.any (pE p)= true\/p.xV.any (pE p)= true then 3 else
 if jv p.init=false\/p.xO.any (λs=>!bV s)= true then 9 else 0
def uA (p:yT):Int:= if wL p≠0 then wL p else if wT (wT (mV p)) p.xO≠0 then wT (wT (mV p)) p.xO else wT (wT (jS p)) p.code
structure pT (p : yT) : Prop where
 init:p.init.length<=2000000
 code:p.code.length<=2000000
 mv:∀ s ∈ p.xO,s.length<=4400000000000
end Kb
open Kb
theorem eK {l:List Int} (h:∀ i,i+1<l.length->l.getD i 0<l.getD (i+1) 0):ju l=true:=by unfold ju;rw [List.all_eq_true];intro i hi;have:=List.mem_range.1 hi;exact decide_eq_true (h i (by omega))
theorem eM {l:List Int} {i:Nat} (hi:i+1<l.length) (h:¬ l.getD i 0<l.getD (i+1) 0):ju l=false:=by unfold ju;rw [List.all_eq_false];exact⟨i,List.mem_range.2 (by omega),by simpa using h⟩
theorem Pu {l:List Int}:ju l=true ↔ ∀ i,i+1<l.length->l.getD i 0<l.getD (i+1) 0:=by refine⟨λh i hi=>Decidable.byContradiction λhh=>?_,eK⟩;rw [eM hi hh] at h; cases h
theorem K9 (l:List Int) (hl:l.length<=2000000):xA prog 59 [.sl 1 (rows .u64 l)] (.bool (ju l)):=by
 refine xI func59 FN λhf=>?_;refine xJ ?_
 refine xU (λk:Nat=>[(3,.int .i64 ((k+1:Nat):Int)),(0,.sl 1 (rows .u64 l))]) (λ_=>⟨0,[]⟩) (λk=>k<=l.length/\∀ i,i<k->i+1<l.length->l.getD i 0<l.getD (i+1) 0) (λk=>l.length-k) 0 ⟨η _,λi hi=>absurd hi (θ _)⟩ ?_ ?_
 ·exact wO
 intro k ⟨hk,hi⟩;refine xN mixed ?_
 by_cases hh:k+1<l.length
 ·have hd:(((k+1:Nat):Int)<(l.length:Int)):=by omega
  have hw:IntKind.i64.wrap (((k+1:Nat):Int)-1)= (k:Int):=by rw [wrap_i64 (by omega)]; omega
  have hd2:((k:Int)<(l.length:Int)):=by omega
  have g1:=wU .u64 l (show k<l.length by omega);have g2:=wU .u64 l hh
  by_cases hlt:l.getD k 0<l.getD (k+1) 0
  ·have hlt2:¬ l.getD (k+1) 0<=l.getD k 0:=by omega
   refine cF hd yU hw hd2 g1 g2 hlt2 ?_
   refine⟨k+1,⟨by omega,λi h1 h2=>?_⟩,?_,by omega⟩
   ·by_cases e:i=k
    ·rw [e]; exact hlt
    ·exact hi i (by omega) h2
   exact yL
  ·have hlt2:l.getD (k+1) 0<=l.getD k 0:=by omega
   refine cF hd yU hw hd2 g1 g2 hlt2 ?_;rw [eM hh hlt];exact .same
 ·have hd:¬ (((k+1:Nat):Int)<(l.length:Int)):=by omega
  rw [eK λi h=>hi i (by omega) h];refine yO hd yU ?_;exact .same
theorem KC (l:List Int) (hl:l.length<=4400000000000):xA prog 62 [.sl 1 (rows .i64 l)] (.bool (ju l)):=by
 refine xI func62 FQ λhf=>?_;refine xJ ?_
 refine xU (λk:Nat=>[(3,.int .i64 ((k+1:Nat):Int)),(0,.sl 1 (rows .i64 l))]) (λ_=>⟨0,[]⟩) (λk=>k<=l.length/\∀ i,i<k->i+1<l.length->l.getD i 0<l.getD (i+1) 0) (λk=>l.length-k) 0 ⟨η _,λi hi=>absurd hi (θ _)⟩ ?_ ?_
 ·exact wO
 intro k ⟨hk,hi⟩;refine xN mixed ?_
 by_cases hh:k+1<l.length
 ·have hd:(((k+1:Nat):Int)<(l.length:Int)):=by omega
  have hw:IntKind.i64.wrap (((k+1:Nat):Int)-1)= (k:Int):=by rw [wrap_i64 (by omega)]; omega
  have hd2:((k:Int)<(l.length:Int)):=by omega
  have g1:=wU .i64 l (show k<l.length by omega);have g2:=wU .i64 l hh
  by_cases hlt:l.getD k 0<l.getD (k+1) 0
  ·have hlt2:¬ l.getD (k+1) 0<=l.getD k 0:=by omega
   refine cF hd yU hw hd2 g1 g2 hlt2 ?_
   refine⟨k+1,⟨by omega,λi h1 h2=>?_⟩,?_,by omega⟩
   ·by_cases e:i=k
    ·rw [e]; exact hlt
    ·exact hi i (by omega) h2
   exact yL
  ·have hlt2:l.getD (k+1) 0<=l.getD k 0:=by omega
   refine cF hd yU hw hd2 g1 g2 hlt2 ?_;rw [eM hh hlt];exact .same
 ·have hd:¬ (((k+1:Nat):Int)<(l.length:Int)):=by omega
  rw [eK λi h=>hi i (by omega) h];refine yO hd yU ?_;exact .same
theorem QS {σ:St} {g:FuncId} {caps:List D} {f:List bL->Bool} {c:List (List bL)} (hl:c.length<=2000000) (h:∀ x ∈ c,xQ prog g ([.sl 2 (Ze x)]++caps) σ (.bool (f x)) σ):xQ prog 114 [.sl 1 (uJ c),.fn g caps] σ (.int .i64 (kH f c 0)) σ:=by
 refine xI func114 II λhf=>?_;refine xH zF ?_
 refine xU (λk:Nat=>[(8,.int .i64 k),(7,.int .i64 c.length),(1,.fn g caps),(0,.sl 1 (uJ c))]) (λ_=>σ) (λk=>k<=c.length/\kH f c 0=kH f (c.drop k) k) (λk=>c.length-k) 0 ⟨η _,rfl⟩ ?_ ?_
 ·exact wO
 intro k ⟨hk,hi⟩;refine xN mixed ?_
 by_cases hh:k<c.length
 ·have hd:((k:Int)<(c.length:Int)):=by omega
  rw [drop_cons (d:=[]) hh,kH] at hi;simp only [simprocAttr,-ZA,↓zU,↓zD,zV,zT,zW,hd,zF,hZ _ hh]
  (repeat refine sd ?_)
  refine .go (h _ (xK hh)) ?_
  cases hx:f (c.getD k [])
  ·rw [hx,if_neg (by simp)] at hi;refine xJ ?_;refine⟨k+1,⟨by omega,hi⟩,?_,by omega⟩;exact yL
  ·rw [hx,if_pos rfl] at hi;refine xJ ?_;rw [hi];exact .same
 ·have hd:¬ ((k:Int)<(c.length:Int)):=by omega
  rw [γ (by omega),kH] at hi;refine xH hd ?_;rw [hi];exact .same
theorem WN {σ:St} {g:FuncId} {caps:List D} {f:List bL->Bool} {c:List (List bL)} (hl:c.length<=2000000) (h:∀ x ∈ c,xQ prog g ([.sl 2 (Ze x)]++caps) σ (.bool (f x)) σ):xQ prog 56 [.sl 1 (uJ c),.fn g caps] σ (.bool (c.any f)) σ:=by
 refine xI func56 FK λhf=>?_;refine xJ ?_;refine .go (QS hl h) ?_;have hx:=dR (f:=f) (c:=c) (i:=0) (Int.le_refl 0)
 cases ha:c.any f
 ·have h1:¬ 0<=kH f c 0:=λy=>by rw [hx.1 y] at ha; cases ha
  refine xH h1 ?_;exact .same
 ·have h1:=hx.2 ha;refine xH h1 ?_;exact .same
theorem QT {σ:St} {g:FuncId} {caps:List D} {f:List fP->Bool} {c:List (List fP)} (hl:c.length<=2000000) (h:∀ x ∈ c,xQ prog g ([.agg [.sl 2 (k9 x)]]++caps) σ (.bool (f x)) σ):xQ prog 116 [.sl 1 (uK c),.fn g caps] σ (.int .i64 (kH f c 0)) σ:=by
 refine xI func116 IK λhf=>?_;refine xH yJ ?_
 refine xU (λk:Nat=>[(8,.int .i64 k),(7,.int .i64 c.length),(1,.fn g caps),(0,.sl 1 (uK c))]) (λ_=>σ) (λk=>k<=c.length/\kH f c 0=kH f (c.drop k) k) (λk=>c.length-k) 0 ⟨η _,rfl⟩ ?_ ?_
 ·exact wO
 intro k ⟨hk,hi⟩;refine xN mixed ?_
 by_cases hh:k<c.length
 ·have hd:((k:Int)<(c.length:Int)):=by omega
  rw [drop_cons (d:=[]) hh,kH] at hi;simp only [simprocAttr,-ZA,↓zU,↓zD,zV,zT,zW,hd,yJ,iE _ hh]
  (repeat refine sd ?_)
  refine .go (h _ (xK hh)) ?_
  cases hx:f (c.getD k [])
  ·rw [hx,if_neg (by simp)] at hi;refine xJ ?_;refine⟨k+1,⟨by omega,hi⟩,?_,by omega⟩;exact yL
  ·rw [hx,if_pos rfl] at hi;refine xJ ?_;rw [hi];exact .same
 ·have hd:¬ ((k:Int)<(c.length:Int)):=by omega
  rw [γ (by omega),kH] at hi;refine xH hd ?_;rw [hi];exact .same
theorem WO {σ:St} {g:FuncId} {caps:List D} {f:List fP->Bool} {c:List (List fP)} (hl:c.length<=2000000) (h:∀ x ∈ c,xQ prog g ([.agg [.sl 2 (k9 x)]]++caps) σ (.bool (f x)) σ):xQ prog 60 [.sl 1 (uK c),.fn g caps] σ (.bool (c.any f)) σ:=by
 refine xI func60 FO λhf=>?_;refine xJ ?_;refine .go (QT hl h) ?_;have hx:=dR (f:=f) (c:=c) (i:=0) (Int.le_refl 0)
 cases ha:c.any f
 ·have h1:¬ 0<=kH f c 0:=λy=>by rw [hx.1 y] at ha; cases ha
  refine xH h1 ?_;exact .same
 ·have h1:=hx.2 ha;refine xH h1 ?_;exact .same
open Rs Fm Ru Kb
theorem KX {nx:Nat} {xZ:List (Nat × Ob)} {p:yT} (h0:St.look xZ 0=some ⟨5,[p.cells]⟩) (hf:0<=p.F) (x:BitVec 64):xQ prog 55 ([.int .u64 (ui x)] ++ [.ref 0 5 0 0]) ⟨nx,xZ⟩ (.bool (pE p x)) ⟨nx,xZ⟩:=by
 unfold yT.cells at h0;refine xI func55 FJ λhf=>?_;refine vR h0 ?_;unfold pE
 by_cases hx:x >>> p.F.toNat=0#64
 ·have ex:(x >>> p.F.toNat != 0#64)= false:=by simpa using hx
  rw [decide_eq_true hx];refine xH ex ?_;exact .same
 ·have ex:(x >>> p.F.toNat != 0#64)= true:=by simpa using hx
  rw [decide_eq_false hx];refine xH ex ?_;exact .same
theorem MH (l:List bL):xA prog 57 [.sl 2 (Ze l)] (.bool (decide (6<l.length))):=by
 refine xI func57 FL λhf=>?_
 by_cases h:6<l.length
 ·have h':(6:Int)<(l.length:Int):=by omega
  rw [decide_eq_true h];refine yO vI h' ?_;exact .same
 ·have h':¬ (6:Int)<(l.length:Int):=by omega
  rw [decide_eq_false h];refine yO vI h' ?_;exact .same
theorem WC (s:List fP) (hl:s.length<=4400000000000):xA prog 63 [.agg [.sl 2 (k9 s)]] (.sl 1 (rows .i64 (s.map (·.fact)))):=by
 refine xI func63 FR λhf=>?_;refine xH vS ?_
 refine xU (λk:Nat=>[(9,.int .i64 k),(8,.int .i64 s.length),(7,.sl 2 (k9 s)),(3,xB 1 1 (rows .i64 ((s.take k).map (·.fact))))]) (λk=>⟨2,yX 1 1 (rows .i64 ((s.take k).map (·.fact)))⟩) (λk=>k<=s.length) (λk=>s.length-k) 0 (η _) ?_ ?_
 ·(refine rZ [] [] ?_; simp only [wR,zQ,simprocAttr,-ZA,exists_eq_left',ne_eq,zR,List.take_zero,List.map_nil,lQ,zK,zL])
 intro k hk;refine xN mixed ?_
 by_cases hh:k<s.length
 ·have hd:((k:Int)<(s.length:Int)):=by omega
  have hg:=kV s hh;have ht:(s.take (k+1)).map (·.fact)= (s.take k).map (·.fact)++ [(s.getD k aN).fact]:=by rw [yE (d:=aN) hh]; simp
  have hkl:((s.take k).map (·.fact)).length=k:=by simp; omega
  unfold fP.row at hg;generalize (s.take k).map (·.fact)= a at hkl ht ⊢;generalize s.getD k aN=x at hg ht ⊢;refine rF hd vS hg ?_;refine⟨k+1,by omega,?_,by omega⟩;rw [ht];exact mD [(1,3)] [1]
 ·have hd:¬ ((k:Int)<(s.length:Int)):=by omega
  rw [xf (show k=s.length by omega)];refine xH hd ?_;exact .drop (by simp) (Ts (by decide) (qS _ _))
theorem KB (s:List fP) (hl:s.length<=4400000000000):xA prog 61 [.agg [.sl 2 (k9 s)]] (.bool (!bV s)):=by have h1:=WC s hl;have h2:=KC (s.map (·.fact)) (by simpa using hl);unfold bV;refine xI func61 FP λhf=>?_;refine zI ?_;refine .go (cr h1) ?_;refine xJ ?_;refine .go (cr h2) ?_;refine xJ ?_;exact .dv
theorem ep (p:yT) (f:List Nd) (fr:Int):xA prog 65 [p.d,.sl 6 (wN f),.int .i64 fr] (.int .i64 (vq p f fr)):=by
 have h1:=eN f;have h2:=VE f;have h3:=SA f p.xV.length p.F;unfold yT.d yT.cells vq;refine xI func65 FT λhf=>?_;refine zI ?_;refine .go (cr h1) ?_;by_cases e1:yW f=0
 case neg=>
  have e1':(yW f != 0)= true:=by simpa using e1
  refine yO e1' e1 ?_;exact .dv
 have e1':(yW f != 0)= false:=by simpa using e1
 refine yO e1' e1 ?_;refine .go (cr h2) ?_;cases e2:sW .andNot .i64 (zX f) fr != 0
 case true=> refine xH e2 ?_;exact .dv
 refine vR e2 ?_;refine .go (cr h3) ?_
 cases e3:sL f p.xV.length p.F
 ·refine xJ ?_;exact .dv
 ·refine xJ ?_;exact .dv
theorem pN {α:Type} (f:α->Int) {l:List α} {k:Nat} {d:α} (h:k<l.length):wT f (l.drop k)= if f (l.getD k d)≠ 0 then f (l.getD k d) else wT f (l.drop (k+1)):=by rw [drop_cons (d:=d) h]; rfl
theorem OT (p:yT) (hm:p.xO.length<=2000000) (hl:∀ s ∈ p.xO,s.length<=4400000000000):xA prog 64 [p.d] (.int .i64 (wT (wT (mV p)) p.xO)):=by
 have hF:=λf=>ep p f 0;have hD:p.d = .agg [.int .i64 p.F,.sl 1 (us p.init),.sl 1 (us p.xV),.sl 1 (uK p.xO),.sl 1 (uJ p.code)]:=rfl;rw [hD] at *;refine xI func64 FS λhf=>?_;refine vR yJ ?_
 refine xU (λk:Nat=>[(11,.int .i64 k),(10,.int .i64 p.xO.length),(9,.sl 1 (uK p.xO)),(1,.ref 0 5 0 0)]) (λ_=>⟨1,[(0,⟨5,[p.cells]⟩)]⟩)
  (λk=>k<=p.xO.length/\wT (wT (mV p)) p.xO=wT (wT (mV p)) (p.xO.drop k)) (λk=>p.xO.length-k) 0 ⟨η _,rfl⟩ ?_ ?_
 ·unfold yT.cells; (refine yR.same ?_; simp [yS,Fr.get])
 intro k ⟨hk,hi⟩;refine xN mixed ?_;by_cases hkl:k<p.xO.length
 case neg=>
  have hd:¬ ((k:Int)<(p.xO.length:Int)):=by omega
  rw [hi,γ (by omega)];refine xH hd ?_;exact .drop (by simp) (by simp [vw,wT])
 have hd:((k:Int)<(p.xO.length:Int)):=by omega
 rw [pN (d:=[]) _ hkl] at hi;have hg:=iE p.xO hkl;have hs:=hl _ (xK (d:=[]) hkl);generalize p.xO.getD k []=s at hi hg hs;unfold yT.cells;refine uC hd yJ hg vS ?_
 refine xU (λj:Nat=>[(18,.int .i64 j),(17,.int .i64 s.length),(16,.sl 2 (k9 s)),(11,.int .i64 k),(10,.int .i64 p.xO.length),(9,.sl 1 (uK p.xO)),(1,.ref 0 5 0 0)]) (λ_=>⟨1,[(0,⟨5,[p.cells]⟩)]⟩)
  (λj=>j<=s.length/\wT (mV p) s=wT (mV p) (s.drop j)) (λj=>s.length-j) 0 ⟨η _,rfl⟩ ?_ ?_
 ·unfold yT.cells; (refine rZ [] [0] ?_; simp only [wR,zQ,simprocAttr,-ZA,exists_eq_left',ne_eq,zR])
 intro j ⟨hj,hi2⟩;refine xN mixed ?_;by_cases hjl:j<s.length
 case neg=>
  have hd2:¬ ((j:Int)<(s.length:Int)):=by omega
  have h0:wT (mV p) s=0:=by rw [hi2,γ (by omega)]; rfl
  rw [h0,if_neg (by simp)] at hi;unfold yT.cells;refine xH hd2 ?_;refine⟨k+1,⟨by omega,hi⟩,?_,by omega⟩;exact yL
 have hd2:((j:Int)<(s.length:Int)):=by omega
 rw [pN (d:=aN) _ hjl] at hi2;have hg2:=kV s hjl;unfold fP.row at hg2;generalize s.getD j aN=a at hi2 hg2;have hend:mV p a≠0->wT (wT (mV p)) p.xO=mV p a:=λh=>by rw [hi,hi2,if_pos h,if_pos h]
 unfold yT.cells;have hFa:=hF a.to
 by_cases c1:a.fact<0
 ·have e:mV p a=2:=by unfold mV; rw [if_pos (.inl c1)]
  rw [hend (by rw [e]; decide),e];refine uC hd2 vS hg2 c1 ?_;exact .dv
 by_cases c2:p.F<=a.fact
 ·have e:mV p a=2:=by unfold mV; rw [if_pos (.inr c2)]
  rw [hend (by rw [e]; decide),e];refine rI hd2 vS hg2 c1 c2 ?_;exact .dv
 have e:mV p a=vq p a.to 0:=by unfold mV; rw [if_neg (by omega)]
 rw [<- e] at hFa;refine rI hd2 vS hg2 c1 c2 ?_;refine .go (cr hFa) ?_
 by_cases c3:mV p a=0
 ·have c3':(mV p a != 0)= false:=by simpa using c3
  rw [c3,if_neg (by simp)] at hi2;refine xH c3' ?_;refine⟨j+1,⟨by omega,hi2⟩,?_,by omega⟩;exact mD [] [0]
 ·have c3':(mV p a != 0)= true:=by simpa using c3
  rw [hend c3];refine xH c3' ?_;exact .dv
open Rs Fm Ru Kb
theorem VC (p:yT) (sm:pT p):xA prog 17 [p.d] (.int .i64 (uA p)):=by
 have hM:=OT p;have hF:=λf=>ep p f 15
 have hlong:=WN (σ:=⟨1,[(0,⟨5,[p.cells]⟩)]⟩) (g:=57) (caps:=[]) (c:=p.code) (f:=λl=>decide (6<l.length)) sm.code λx _=>by rw [List.append_nil]; exact xQ.yP (MH x) (by simp [D.xR,D.xF])
 have hasc:=WO (σ:=⟨1,[(0,⟨5,[p.cells]⟩)]⟩) (g:=61) (caps:=[]) (c:=p.xO) (f:=λs=>!bV s);have hout:=λ(h0:0<=p.F) (l:List (BitVec 64)) (hl:l.length<=1000)=>aP (σ:=⟨1,[(0,⟨5,[p.cells]⟩)]⟩) (g:=55) (caps:=[.ref 0 5 0 0]) (c:=l) (f:=pE p) hl λx _=>KX rfl h0 x;have hai:=K9 (p.init.map ui) (by simpa using sm.init);rw [show rows .u64 (p.init.map ui)= us p.init by simp [rows,us]] at hai;have hD:p.d = .agg [.int .i64 p.F,.sl 1 (us p.init),.sl 1 (us p.xV),.sl 1 (uK p.xO),.sl 1 (uJ p.code)]:=rfl;unfold yT.cells at hlong hasc hout;rw [hD] at *;refine xI func17 F9 λhf=>?_
 by_cases a1:p.F<0
 ·rw [show uA p=2 by unfold uA wL; simp [a1]];refine xH a1 ?_;exact .dv
 by_cases a2:8<p.F
 ·rw [show uA p=2 by unfold uA wL; simp [a2]];refine yO a1 a2 ?_;exact .dv
 have hfe:wL p=if 4<p.xV.length\/16<p.init.length\/8<p.xO.length\/p.code.any (λl=>decide (6<l.length))= true then 8 else
   if p.xV.length=0\/p.init.length=0\/p.code.length≠p.xV.length\/p.init.any (pE p)= true\/p.xV.any (pE p)= true then 3 else
   if jv p.init=false\/p.xO.any (λs=>!bV s)= true then 9 else 0:=by
  unfold wL; rw [if_neg (by omega)]
 by_cases a3:4<p.xV.length
 ·rw [show uA p=8 by unfold uA; simp [hfe,a3]];have a3':(4:Int)<(p.xV.length:Int):=by omega
  refine cE a1 a2 a3' xT ?_;exact .dv
 have a3':¬ (4:Int)<(p.xV.length:Int):=by omega
 by_cases a4:16<p.init.length
 ·rw [show uA p=8 by unfold uA; simp [hfe,a4]];have a4':(16:Int)<(p.init.length:Int):=by omega
  refine bn a1 a2 a3' a4' xT ?_;exact .dv
 have a4':¬ (16:Int)<(p.init.length:Int):=by omega
 by_cases a5:8<p.xO.length
 ·rw [show uA p=8 by unfold uA; simp [hfe,a5]];have a5':(8:Int)<(p.xO.length:Int):=by omega
  refine TE a1 a2 a3' a4' a5' xT yJ ?_;exact .dv
 have a5':¬ (8:Int)<(p.xO.length:Int):=by omega
 refine TE a1 a2 a3' a4' a5' xT yJ ?_;refine .go hlong ?_;cases a6:p.code.any λl=>decide (6<l.length)
 case true=> rw [show uA p=8 by unfold uA; simp [hfe,a6]];refine xJ ?_;exact .dv
 by_cases b1:p.xV.length=0
 ·rw [show uA p=3 by unfold uA; simp [hfe,a4,a5,a6,b1]];have b1':((p.xV.length:Int)== 0)= true:=by rw [b1]; rfl
  refine yO xT b1' ?_;exact .dv
 have b1':((p.xV.length:Int)== 0)= false:=by rw [beq_eq_false_iff_ne]; omega
 by_cases b2:p.init.length=0
 ·rw [show uA p=3 by unfold uA; simp [hfe,a3,a5,a6,b2]];have b2':((p.init.length:Int)== 0)= true:=by rw [b2]; rfl
  refine fY xT b1' b2' ?_;exact .dv
 have b2':((p.init.length:Int)== 0)= false:=by rw [beq_eq_false_iff_ne]; omega
 by_cases b3:p.code.length=p.xV.length
 case neg=>
  rw [show uA p=3 by unfold uA; simp [hfe,a3,a4,a5,a6,b3]];have b3':((p.code.length:Int) != (p.xV.length:Int))= true:=by rw [bne_iff_ne]; omega
  refine bn xT b1' b2' zF b3' ?_;exact .dv
 have b3':((p.code.length:Int) != (p.xV.length:Int))= false:=by rw [b3]; exact bne_self_eq_false _
 refine bn xT b1' b2' zF b3' ?_;refine .go (hout (by omega) p.init (by omega)) ?_;cases b4:p.init.any (pE p)
 case true=> rw [show uA p=3 by unfold uA; simp [hfe,a3,a4,a5,a6,b4]];refine xJ ?_;exact .dv
 refine xJ ?_;refine .go (hout (by omega) p.xV (by omega)) ?_;cases b5:p.xV.any (pE p)
 case true=> rw [show uA p=3 by unfold uA; simp [hfe,a3,a4,a5,a6,b5]];refine xJ ?_;exact .dv
 refine xJ ?_;refine .go (cr hai) ?_;have hau:ju (p.init.map ui)= jv p.init:=rfl;rw [hau]
 have hf2:wL p=if jv p.init=false\/p.xO.any (λs=>!bV s)= true then 9 else 0:=by rw [hfe,if_neg (by simp [a3,a4,a5,a6]),if_neg (by simp [b1,b2,b3,b4,b5])]
 cases c1:jv p.init
 case false=> rw [show uA p=9 by unfold uA; simp [hf2,c1]];refine xJ ?_;exact .dv
 refine xJ ?_;refine .go (hasc (by omega) λx hx=>by rw [List.append_nil]; exact xQ.yP (KB x (sm.mv x hx)) (by simp [D.xR,D.xF])) ?_;cases c2:p.xO.any (λs=>!bV s)
 case true=> rw [show uA p=9 by unfold uA; simp [hf2,c2]];refine xJ ?_;exact .dv
 have hf0:wL p=0:=by rw [hf2,c1,c2]; rfl
 have hch:uA p=if wT (wT (mV p)) p.xO≠0 then wT (wT (mV p)) p.xO else wT (wT (jS p)) p.code:=by unfold uA; rw [hf0,if_neg (by simp)]
 refine xJ ?_;refine .go (xQ.yP (hM (by omega) sm.mv) (by simp [D.xR,D.xF])) ?_;by_cases d1:wT (wT (mV p)) p.xO=0
 case neg=>
  have d1':(wT (wT (mV p)) p.xO != 0)= true:=by simpa using d1
  rw [hch,if_pos d1];refine xH d1' ?_;exact .dv
 rw [hch,d1,if_neg (by simp)];refine xH zF ?_
 refine xU (λk:Nat=>[(92,.int .i64 k),(91,.int .i64 p.code.length),(90,.sl 1 (uJ p.code)),(1,.ref 0 5 0 0)]) (λ_=>⟨1,[(0,⟨5,[p.cells]⟩)]⟩)
  (λk=>k<=p.code.length/\wT (wT (jS p)) p.code=wT (wT (jS p)) (p.code.drop k)) (λk=>p.code.length-k) 0 ⟨η _,rfl⟩ ?_ ?_
 ·unfold yT.cells; (refine yR.same ?_; simp [yS,Fr.get])
 intro k ⟨hk,hi⟩;refine xN mixed ?_;by_cases hkl:k<p.code.length
 case neg=>
  have hd:¬ ((k:Int)<(p.code.length:Int)):=by omega
  rw [hi,γ (by omega)];refine xH hd ?_;exact .drop (by simp) (by simp [vw,wT])
 have hd:((k:Int)<(p.code.length:Int)):=by omega
 rw [pN (d:=[]) _ hkl] at hi;have hg:=hZ p.code hkl
 have hs:(p.code.getD k []).length<=6:=by have:=ζ.1 a6 _ (xK (d:=[]) hkl);simpa using this
 generalize p.code.getD k []=s at hi hg hs;unfold yT.cells;refine uC hd zF hg vI ?_
 refine xU (λj:Nat=>[(98,.int .i64 j),(97,.int .i64 s.length),(96,.sl 2 (Ze s)),(92,.int .i64 k),(91,.int .i64 p.code.length),(90,.sl 1 (uJ p.code)),(1,.ref 0 5 0 0)]) (λ_=>⟨1,[(0,⟨5,[p.cells]⟩)]⟩)
  (λj=>j<=s.length/\wT (jS p) s=wT (jS p) (s.drop j)) (λj=>s.length-j) 0 ⟨η _,rfl⟩ ?_ ?_
 ·unfold yT.cells; (refine yR.same ?_; simp [yS,Fr.get])
 intro j ⟨hj,hi2⟩;refine xN mixed ?_;by_cases hjl:j<s.length
 case neg=>
  have hd2:¬ ((j:Int)<(s.length:Int)):=by omega
  have h0:wT (jS p) s=0:=by rw [hi2,γ (by omega)]; rfl
  rw [h0,if_neg (by simp)] at hi;unfold yT.cells;refine xH hd2 ?_;refine⟨k+1,⟨by omega,hi⟩,?_,by omega⟩;exact yL
 have hd2:((j:Int)<(s.length:Int)):=by omega
 rw [pN (d:=l6) _ hjl] at hi2;have hg2:=xm s hjl;unfold bL.row at hg2;generalize s.getD j l6=c at hi2 hg2;have hend:jS p c≠0->wT (wT (jS p)) p.code=jS p c:=λh=>by rw [hi,hi2,if_pos h,if_pos h]
 unfold yT.cells;refine rF hd2 vI hg2 ?_;refine .go (cr (hF c.test)) ?_;by_cases e1:vq p c.test 15=0
 case neg=>
  have e1':(vq p c.test 15 != 0)= true:=by simpa using e1
  have e:jS p c=vq p c.test 15:=by unfold jS; rw [if_pos e1]
  rw [hend (by rw [e]; exact e1),e];refine xH e1' ?_;exact .dv
 have e1':(vq p c.test 15 != 0)= false:=by simpa using e1
 by_cases e2:c.mv < -1
 ·have e:jS p c=2:=by unfold jS; rw [e1,if_neg (by simp),if_pos (.inl e2)]
  rw [hend (by rw [e]; decide),e];refine yO e1' e2 ?_;exact .dv
 by_cases e3:(p.xO.length:Int)<=c.mv
 ·have e:jS p c=2:=by unfold jS; rw [e1,if_neg (by simp),if_pos (.inr e3)]
  rw [hend (by rw [e]; decide),e];refine cE e1' e2 yJ e3 ?_;exact .dv
 have e:jS p c=0:=by unfold jS; rw [e1,if_neg (by simp),if_neg (by omega)]
 rw [e,if_neg (by simp)] at hi2;refine cE e1' e2 yJ e3 ?_;refine⟨j+1,⟨by omega,hi2⟩,?_,by omega⟩;exact mD [] [0]
open Rs Fm Ru Kb
theorem M7 (p:yT) (sm:pT p):xA prog 66 [p.d] (.int .i64 (wL p)):=by
 have hD:p.d = .agg [.int .i64 p.F,.sl 1 (us p.init),.sl 1 (us p.xV),.sl 1 (uK p.xO),.sl 1 (uJ p.code)]:=rfl;have h5:=sm.code;rw [hD];refine xI func66 FU λhf=>?_
 by_cases a1:p.F<0
 ·rw [show wL p=2 by unfold wL; simp [a1]];refine xH a1 ?_;exact .dv
 by_cases a2:8<p.F
 ·rw [show wL p=2 by unfold wL; simp [a2]];refine yO a1 a2 ?_;exact .dv
 have hfe:wL p=if 4<p.xV.length\/16<p.init.length\/8<p.xO.length\/p.code.any (λl=>decide (6<l.length))= true then 8 else
   if p.xV.length=0\/p.init.length=0\/p.code.length≠p.xV.length\/p.init.any (pE p)= true\/p.xV.any (pE p)= true then 3 else
   if jv p.init=false\/p.xO.any (λs=>!bV s)= true then 9 else 0:=by
  unfold wL; rw [if_neg (by omega)]
 by_cases a3:4<p.xV.length
 ·rw [show wL p=8 by simp [hfe,a3]];have a3':(4:Int)<(p.xV.length:Int):=by omega
  refine cE a1 a2 a3' xT ?_;exact .dv
 have a3':¬ (4:Int)<(p.xV.length:Int):=by omega
 by_cases a4:16<p.init.length
 ·rw [show wL p=8 by simp [hfe,a4]];have a4':(16:Int)<(p.init.length:Int):=by omega
  refine bn a1 a2 a3' a4' xT ?_;exact .dv
 have a4':¬ (16:Int)<(p.init.length:Int):=by omega
 by_cases a5:8<p.xO.length
 ·rw [show wL p=8 by simp [hfe,a5]];have a5':(8:Int)<(p.xO.length:Int):=by omega
  refine TE a1 a2 a3' a4' a5' xT yJ ?_;exact .dv
 have a5':¬ (8:Int)<(p.xO.length:Int):=by omega
 refine TE a1 a2 a3' a4' a5' xT yJ ?_
 refine xU (λk:Nat=>[(3,.int .i64 k),(1,.ref 0 5 0 0)]) (λ_=>⟨1,[(0,⟨5,[p.cells]⟩)]⟩)
  (λk=>k<=p.code.length/\p.code.any (λl=>decide (6<l.length))= (p.code.drop k).any (λl=>decide (6<l.length))) (λk=>p.code.length-k) 0 ⟨η _,rfl⟩ ?_ ?_
 ·unfold yT.cells; (refine yR.same ?_; simp [yS,Fr.get])
 intro k ⟨hk,hi⟩;refine xN mixed ?_;by_cases hkl:k<p.code.length
 case pos=>
  have hd:((k:Int)<(p.code.length:Int)):=by omega
  rw [drop_cons (d:=[]) hkl,δ] at hi;have hg:=hZ p.code hkl;generalize p.code.getD k []=s at hi hg;unfold yT.cells
  by_cases h6:6<s.length
  ·have h6':(6:Int)<(s.length:Int):=by omega
   rw [decide_eq_true h6,μ] at hi;rw [show wL p=8 by simp only [hfe,hi]; simp];refine rI hd zF hg vI h6' ?_;exact .dv
  ·have h6':¬ (6:Int)<(s.length:Int):=by omega
   rw [decide_eq_false h6,κ] at hi;refine rI hd zF hg vI h6' ?_;refine⟨k+1,⟨by omega,hi⟩,?_,by omega⟩;exact yL
 have hd:¬ ((k:Int)<(p.code.length:Int)):=by omega
 have a6:p.code.any (λl=>decide (6<l.length))= false:=by rw [hi,γ (by omega)]; rfl
 clear hi;unfold yT.cells;refine yO hd zF ?_
 have hf1:wL p=if p.xV.length=0\/p.init.length=0\/p.code.length≠p.xV.length\/p.init.any (pE p)= true\/p.xV.any (pE p)= true then 3 else
   if jv p.init=false\/p.xO.any (λs=>!bV s)= true then 9 else 0:=by rw [hfe,if_neg (by rw [a6]; simp only [not_or]; exact⟨by omega,by omega,by omega,by simp⟩)]
 by_cases b1:p.xV.length=0
 ·rw [show wL p=3 by rw [hf1,if_pos (.inl b1)]];have b1':((p.xV.length:Int)== 0)= true:=by rw [b1]; rfl
  refine yO xT b1' ?_;exact .dv
 have b1':((p.xV.length:Int)== 0)= false:=by rw [beq_eq_false_iff_ne]; omega
 by_cases b2:p.init.length=0
 ·rw [show wL p=3 by rw [hf1,if_pos (.inr (.inl b2))]];have b2':((p.init.length:Int)== 0)= true:=by rw [b2]; rfl
  refine fY xT b1' b2' ?_;exact .dv
 have b2':((p.init.length:Int)== 0)= false:=by rw [beq_eq_false_iff_ne]; omega
 by_cases b3:p.code.length=p.xV.length
 case neg=>
  rw [show wL p=3 by rw [hf1,if_pos (.inr (.inr (.inl b3)))]];have b3':((p.code.length:Int) != (p.xV.length:Int))= true:=by rw [bne_iff_ne]; omega
  refine bn xT b1' b2' zF b3' ?_;exact .dv
 have b3':((p.code.length:Int) != (p.xV.length:Int))= false:=by rw [b3]; exact bne_self_eq_false _
 refine bn xT b1' b2' zF b3' ?_;clear hk hkl hd
 refine xU (λk:Nat=>[(4,.int .i64 k),(1,.ref 0 5 0 0)]) (λ_=>⟨1,[(0,⟨5,[p.cells]⟩)]⟩)
  (λk=>k<=p.init.length/\p.init.any (pE p)= (p.init.drop k).any (pE p)) (λk=>p.init.length-k) 0 ⟨η _,rfl⟩ ?_ ?_
 ·unfold yT.cells; (refine yR.same ?_; simp [yS,Fr.get])
 intro k ⟨hk,hi⟩;refine xN mixed ?_;by_cases hkl:k<p.init.length
 case pos=>
  have hd:((k:Int)<(p.init.length:Int)):=by omega
  rw [drop_cons (d:=0) hkl,δ] at hi;have hg:=yF p.init hkl;generalize p.init.getD k 0=x at hi hg;unfold yT.cells
  by_cases hx:x >>> p.F.toNat=0#64
  ·have ex:(x >>> p.F.toNat != 0#64)= false:=by simpa using hx
   rw [show pE p x=false by unfold pE; rw [decide_eq_true hx]; rfl,κ] at hi;refine uC hd xT hg ex ?_;refine⟨k+1,⟨by omega,hi⟩,?_,by omega⟩;exact yL
  ·have ex:(x >>> p.F.toNat != 0#64)= true:=by simpa using hx
   rw [show pE p x=true by unfold pE; rw [decide_eq_false hx]; rfl,μ] at hi;rw [show wL p=3 by rw [hf1,if_pos (.inr (.inr (.inr (.inl hi))))]];refine uC hd xT hg ex ?_;exact .dv
 have hd:¬ ((k:Int)<(p.init.length:Int)):=by omega
 have b4:p.init.any (pE p)= false:=by rw [hi,γ (by omega)]; rfl
 clear hi;unfold yT.cells;refine yO hd xT ?_;clear hk hkl hd
 refine xU (λk:Nat=>[(5,.int .i64 k),(1,.ref 0 5 0 0)]) (λ_=>⟨1,[(0,⟨5,[p.cells]⟩)]⟩)
  (λk=>k<=p.xV.length/\p.xV.any (pE p)= (p.xV.drop k).any (pE p)) (λk=>p.xV.length-k) 0 ⟨η _,rfl⟩ ?_ ?_
 ·unfold yT.cells; (refine yR.same ?_; simp [yS,Fr.get])
 intro k ⟨hk,hi⟩;refine xN mixed ?_;by_cases hkl:k<p.xV.length
 case pos=>
  have hd:((k:Int)<(p.xV.length:Int)):=by omega
  rw [drop_cons (d:=0) hkl,δ] at hi;have hg:=yF p.xV hkl;generalize p.xV.getD k 0=x at hi hg;unfold yT.cells
  by_cases hx:x >>> p.F.toNat=0#64
  ·have ex:(x >>> p.F.toNat != 0#64)= false:=by simpa using hx
   rw [show pE p x=false by unfold pE; rw [decide_eq_true hx]; rfl,κ] at hi;refine uC hd xT hg ex ?_;refine⟨k+1,⟨by omega,hi⟩,?_,by omega⟩;exact yL
  ·have ex:(x >>> p.F.toNat != 0#64)= true:=by simpa using hx
   rw [show pE p x=true by unfold pE; rw [decide_eq_false hx]; rfl,μ] at hi;rw [show wL p=3 by rw [hf1,if_pos (.inr (.inr (.inr (.inr hi))))]];refine uC hd xT hg ex ?_;exact .dv
 have hd:¬ ((k:Int)<(p.xV.length:Int)):=by omega
 have b5:p.xV.any (pE p)= false:=by rw [hi,γ (by omega)]; rfl
 clear hi;unfold yT.cells;refine yO hd xT ?_;clear hk hkl hd;have hf2:wL p=if jv p.init=false\/p.xO.any (λs=>!bV s)= true then 9 else 0:=by rw [hf1,if_neg (by simp [b1,b2,b3,b4,b5])]
 have hlm:(p.init.map ui).length=p.init.length:=by simp
 have hgm:∀ i,(p.init.map ui).getD i 0=ui (p.init.getD i 0):=λi=>by simp only [List.getD,List.getElem?_map];cases p.init[i]? <;> rfl
 refine xU (λk:Nat=>[(6,.int .i64 ((k+1:Nat):Int)),(1,.ref 0 5 0 0)]) (λ_=>⟨1,[(0,⟨5,[p.cells]⟩)]⟩)
  (λk=>k<=p.init.length/\∀ i,i<k->i+1<p.init.length->(p.init.map ui).getD i 0<(p.init.map ui).getD (i+1) 0) (λk=>p.init.length-k) 0 ⟨η _,λi hi=>absurd hi (θ _)⟩ ?_ ?_
 ·unfold yT.cells; (refine yR.same ?_; simp [yS,Fr.get])
 intro k ⟨hk,hi⟩;refine xN mixed ?_;by_cases hh:k+1<p.init.length
 case pos=>
  have hd:(((k+1:Nat):Int)<(p.init.length:Int)):=by omega
  have hw:IntKind.i64.wrap (((k+1:Nat):Int)-1)= (k:Int):=by rw [wrap_i64 (by omega)]; omega
  have hd2:((k:Int)<(p.init.length:Int)):=by omega
  have g1:=yF p.init (show k<p.init.length by omega);have g2:=yF p.init hh;have q1:=hgm k;have q2:=hgm (k+1);unfold yT.cells
  by_cases hlt:ui (p.init.getD k 0)<ui (p.init.getD (k+1) 0)
  ·have hlt2:¬ ui (p.init.getD (k+1) 0)<=ui (p.init.getD k 0):=by omega
   refine cF hd xT hw hd2 g1 g2 hlt2 ?_
   refine⟨k+1,⟨by omega,λi h1 h2=>?_⟩,?_,by omega⟩
   ·by_cases e:i=k
    ·rw [e,q1,q2]; exact hlt
    ·exact hi i (by omega) h2
   exact yL
  ·have hlt2:ui (p.init.getD (k+1) 0)<=ui (p.init.getD k 0):=by omega
   rw [show wL p=9 by rw [hf2,if_pos (.inl (eM (i:=k) (by omega) (by rw [q1,q2]; exact hlt)))]];refine cF hd xT hw hd2 g1 g2 hlt2 ?_;exact .dv
 have hd:¬ (((k+1:Nat):Int)<(p.init.length:Int)):=by omega
 have c1:jv p.init=true:=eK λi h=>hi i (by omega) (by omega);clear hi;unfold yT.cells;refine yO hd xT ?_;clear hk hh hd
 refine xU (λk:Nat=>[(7,.int .i64 k),(1,.ref 0 5 0 0)]) (λ_=>⟨1,[(0,⟨5,[p.cells]⟩)]⟩)
  (λk=>k<=p.xO.length/\p.xO.any (λs=>!bV s)= (p.xO.drop k).any (λs=>!bV s)) (λk=>p.xO.length-k) 0 ⟨η _,rfl⟩ ?_ ?_
 ·unfold yT.cells; (refine yR.same ?_; simp [yS,Fr.get])
 intro k ⟨hk,hi⟩;refine xN mixed ?_;by_cases hkl:k<p.xO.length
 case neg=>
  have hd:¬ ((k:Int)<(p.xO.length:Int)):=by omega
  have c2:p.xO.any (λs=>!bV s)= false:=by rw [hi,γ (by omega)]; rfl
  rw [show wL p=0 by rw [hf2,if_neg (by simp [c1,c2])]];unfold yT.cells;refine yO hd yJ ?_;exact .dv
 have hd:((k:Int)<(p.xO.length:Int)):=by omega
 rw [drop_cons (d:=[]) hkl,δ] at hi;have hg:=iE p.xO hkl;have hs:=sm.mv _ (xK (d:=[]) hkl);generalize p.xO.getD k []=s at hi hg hs;have hls:(s.map (·.fact)).length=s.length:=by simp
 have hgs:∀ i,i<s.length->(s.map (·.fact)).getD i 0=(s.getD i aN).fact:=λi h=>by simp [List.getD,h]
 unfold yT.cells;refine yO hd yJ ?_
 refine xU (λj:Nat=>[(8,.int .i64 ((j+1:Nat):Int)),(7,.int .i64 k),(1,.ref 0 5 0 0)]) (λ_=>⟨1,[(0,⟨5,[p.cells]⟩)]⟩)
  (λj=>j<=s.length/\∀ i,i<j->i+1<s.length->(s.map (·.fact)).getD i 0<(s.map (·.fact)).getD (i+1) 0) (λj=>s.length-j) 0 ⟨η _,λi hi=>absurd hi (θ _)⟩ ?_ ?_
 ·unfold yT.cells; (refine yR.same ?_; simp [yS,Fr.get])
 intro j ⟨hj,hi2⟩;refine xN mixed ?_;by_cases hh:j+1<s.length
 case neg=>
  have hd2:¬ (((j+1:Nat):Int)<(s.length:Int)):=by omega
  have c2:bV s=true:=eK λi h=>hi2 i (by omega) (by omega);rw [c2,Bool.not_true,κ] at hi;unfold yT.cells;refine rI hd2 hd yJ hg vS ?_;refine⟨k+1,⟨by omega,hi⟩,?_,by omega⟩;exact yL
 have hd2:(((j+1:Nat):Int)<(s.length:Int)):=by omega
 have hw:IntKind.i64.wrap (((j+1:Nat):Int)-1)= (j:Int):=by rw [wrap_i64 (by omega)]; omega
 have hd3:((j:Int)<(s.length:Int)):=by omega
 have g1:=kV s (show j<s.length by omega);have g2:=kV s hh;have q1:=hgs j (by omega);have q2:=hgs (j+1) hh;unfold fP.row at g1 g2;unfold yT.cells
 by_cases hlt:(s.getD j aN).fact<(s.getD (j+1) aN).fact
 ·have hlt2:¬ (s.getD (j+1) aN).fact<=(s.getD j aN).fact:=by omega
  refine rC hd2 hd yJ hg vS hw hd3 g1 g2 hlt2 ?_
  refine⟨j+1,⟨by omega,λi h1 h2=>?_⟩,?_,by omega⟩
  ·by_cases e:i=j
   ·rw [e,q1,q2]; exact hlt
   ·exact hi2 i (by omega) h2
  exact yL
 ·have hlt2:(s.getD (j+1) aN).fact<=(s.getD j aN).fact:=by omega
  have c2:bV s=false:=eM (i:=j) (by omega) (by rw [q1,q2]; exact hlt);rw [show wL p=9 by rw [hf2,if_pos (.inr (by rw [hi,c2]; rfl))]];refine rC hd2 hd yJ hg vS hw hd3 g1 g2 hlt2 ?_;exact .dv
theorem p4 (p:yT) (f:List Nd) (fr:Int):xA prog 67 [p.d,.sl 6 (wN f),.int .i64 fr] (.int .i64 (vq p f fr)):=by
 have h1:=sb f;have h2:=aW f;have h3:=wz f p.xV.length p.F;unfold yT.d yT.cells vq;refine xI func67 FV λhf=>?_;refine zI ?_;refine .go (cr h1) ?_;by_cases e1:yW f=0
 case neg=>
  have e1':(yW f != 0)= true:=by simpa using e1
  refine yO e1' e1 ?_;exact .dv
 have e1':(yW f != 0)= false:=by simpa using e1
 refine yO e1' e1 ?_;refine .go (cr h2) ?_;cases e2:sW .andNot .i64 (zX f) fr != 0
 case true=> refine xH e2 ?_;exact .dv
 refine vR e2 ?_;refine .go (cr h3) ?_
 cases e3:sL f p.xV.length p.F
 ·refine xJ ?_;exact .dv
 ·refine xJ ?_;exact .dv
theorem Wv (p:yT) (sm:pT p):xA prog 18 [p.d] (.int .i64 (uA p)):=by
 have hS:=M7 p sm;have hF:=λf fr=>p4 p f fr;have hD:p.d = .agg [.int .i64 p.F,.sl 1 (us p.init),.sl 1 (us p.xV),.sl 1 (uK p.xO),.sl 1 (uJ p.code)]:=rfl;rw [hD] at *;refine xI func18 FA λhf=>?_;refine zI ?_;refine .go (cr hS) ?_;by_cases s0:wL p=0
 case neg=>
  have s0':(wL p != 0)= true:=by simpa using s0
  rw [show uA p=wL p by unfold uA; rw [if_pos s0]];refine xH s0' ?_;exact .dv
 have s0':(wL p != 0)= false:=by simpa using s0
 have hch:uA p=if wT (wT (mV p)) p.xO≠0 then wT (wT (mV p)) p.xO else wT (wT (jS p)) p.code:=by unfold uA; rw [s0,if_neg (by simp)]
 have hsm:p.xO.length<=8/\∀ s ∈ p.code,s.length<=6:=by
  unfold wL at s0
  split at s0
  ·cases s0
  ·split at s0
   ·cases s0
   ·rename_i h;simp only [not_or] at h;refine⟨by omega,λs hs=>?_⟩;have:=ζ.1 (Bool.eq_false_iff.2 h.2.2.2) s hs;simpa using this
 refine xH s0' ?_
 refine xU (λk:Nat=>[(4,.int .i64 k),(1,.ref 0 5 0 0)]) (λ_=>⟨1,[(0,⟨5,[p.cells]⟩)]⟩)
  (λk=>k<=p.xO.length/\wT (wT (mV p)) p.xO=wT (wT (mV p)) (p.xO.drop k)) (λk=>p.xO.length-k) 0 ⟨η _,rfl⟩ ?_ ?_
 ·unfold yT.cells; (refine yR.same ?_; simp [yS,Fr.get])
 intro k ⟨hk,hi⟩;refine xN mixed ?_;by_cases hkl:k<p.xO.length
 case pos=>
  have hd:((k:Int)<(p.xO.length:Int)):=by omega
  rw [pN (d:=[]) _ hkl] at hi;have hg:=iE p.xO hkl;have hs:=sm.mv _ (xK (d:=[]) hkl);generalize p.xO.getD k []=s at hi hg hs;unfold yT.cells;refine yO hd yJ ?_
  refine xU (λj:Nat=>[(5,.int .i64 j),(4,.int .i64 k),(1,.ref 0 5 0 0)]) (λ_=>⟨1,[(0,⟨5,[p.cells]⟩)]⟩)
   (λj=>j<=s.length/\wT (mV p) s=wT (mV p) (s.drop j)) (λj=>s.length-j) 0 ⟨η _,rfl⟩ ?_ ?_
  ·unfold yT.cells; (refine yR.same ?_; simp [yS,Fr.get])
  intro j ⟨hj,hi2⟩;refine xN mixed ?_;by_cases hjl:j<s.length
  case neg=>
   have hd2:¬ ((j:Int)<(s.length:Int)):=by omega
   have h0:wT (mV p) s=0:=by rw [hi2,γ (by omega)]; rfl
   rw [h0,if_neg (by simp)] at hi;unfold yT.cells;refine rI hd2 hd yJ hg vS ?_;refine⟨k+1,⟨by omega,hi⟩,?_,by omega⟩;exact yL
  have hd2:((j:Int)<(s.length:Int)):=by omega
  rw [pN (d:=aN) _ hjl] at hi2;have hg2:=kV s hjl;unfold fP.row at hg2;generalize s.getD j aN=a at hi2 hg2;have hend:mV p a≠0->uA p=mV p a:=λh=>by rw [hch,hi,hi2,if_pos h,if_pos h,if_pos h]
  unfold yT.cells;have hFa:=hF a.to 0
  by_cases c1:a.fact<0
  ·have e:mV p a=2:=by unfold mV; rw [if_pos (.inl c1)]
   rw [hend (by rw [e]; decide),e];refine cF hd2 hd yJ hg vS hg2 c1 ?_;exact .dv
  by_cases c2:p.F<=a.fact
  ·have e:mV p a=2:=by unfold mV; rw [if_pos (.inr c2)]
   rw [hend (by rw [e]; decide),e];refine mU hd2 hd yJ hg vS hg2 c1 c2 ?_;exact .dv
  have e:mV p a=vq p a.to 0:=by unfold mV; rw [if_neg (by omega)]
  rw [<- e] at hFa;refine mU hd2 hd yJ hg vS hg2 c1 c2 ?_;refine .go (cr hFa) ?_
  by_cases c3:mV p a=0
  ·have c3':(mV p a != 0)= false:=by simpa using c3
   rw [c3,if_neg (by simp)] at hi2;refine xH c3' ?_;refine⟨j+1,⟨by omega,hi2⟩,?_,by omega⟩;exact mD [] [0]
  ·have c3':(mV p a != 0)= true:=by simpa using c3
   rw [hend c3];refine xH c3' ?_;exact .dv
 have hd:¬ ((k:Int)<(p.xO.length:Int)):=by omega
 have d1:wT (wT (mV p)) p.xO=0:=by rw [hi,γ (by omega)]; rfl
 rw [hch,d1,if_neg (by simp)];unfold yT.cells;refine yO hd yJ ?_;clear hk hkl hd hi
 refine xU (λk:Nat=>[(7,.int .i64 k),(1,.ref 0 5 0 0)]) (λ_=>⟨1,[(0,⟨5,[p.cells]⟩)]⟩)
  (λk=>k<=p.code.length/\wT (wT (jS p)) p.code=wT (wT (jS p)) (p.code.drop k)) (λk=>p.code.length-k) 0 ⟨η _,rfl⟩ ?_ ?_
 ·unfold yT.cells; (refine yR.same ?_; simp [yS,Fr.get])
 have hcl:=sm.code;intro k ⟨hk,hi⟩;refine xN mixed ?_;by_cases hkl:k<p.code.length
 case neg=>
  have hd:¬ ((k:Int)<(p.code.length:Int)):=by omega
  rw [hi,γ (by omega)];unfold yT.cells;refine yO hd zF ?_;exact .drop (by simp) (by simp [vw,wT])
 have hd:((k:Int)<(p.code.length:Int)):=by omega
 rw [pN (d:=[]) _ hkl] at hi;have hg:=hZ p.code hkl;have hs:=hsm.2 _ (xK (d:=[]) hkl);generalize p.code.getD k []=s at hi hg hs;unfold yT.cells;refine yO hd zF ?_
 refine xU (λj:Nat=>[(8,.int .i64 j),(7,.int .i64 k),(1,.ref 0 5 0 0)]) (λ_=>⟨1,[(0,⟨5,[p.cells]⟩)]⟩)
  (λj=>j<=s.length/\wT (jS p) s=wT (jS p) (s.drop j)) (λj=>s.length-j) 0 ⟨η _,rfl⟩ ?_ ?_
 ·unfold yT.cells; (refine yR.same ?_; simp [yS,Fr.get])
 intro j ⟨hj,hi2⟩;refine xN mixed ?_;by_cases hjl:j<s.length
 case neg=>
  have hd2:¬ ((j:Int)<(s.length:Int)):=by omega
  have h0:wT (jS p) s=0:=by rw [hi2,γ (by omega)]; rfl
  rw [h0,if_neg (by simp)] at hi;unfold yT.cells;refine rI hd2 hd zF hg vI ?_;refine⟨k+1,⟨by omega,hi⟩,?_,by omega⟩;exact yL
 have hd2:((j:Int)<(s.length:Int)):=by omega
 rw [pN (d:=l6) _ hjl] at hi2;have hg2:=xm s hjl;unfold bL.row at hg2;generalize s.getD j l6=c at hi2 hg2;have hend:jS p c≠0->wT (wT (jS p)) p.code=jS p c:=λh=>by rw [hi,hi2,if_pos h,if_pos h]
 unfold yT.cells;refine pH hd2 hd zF hg vI hg2 ?_;refine .go (cr (hF c.test 15)) ?_;by_cases e1:vq p c.test 15=0
 case neg=>
  have e1':(vq p c.test 15 != 0)= true:=by simpa using e1
  have e:jS p c=vq p c.test 15:=by unfold jS; rw [if_pos e1]
  rw [hend (by rw [e]; exact e1),e];refine xH e1' ?_;exact .dv
 have e1':(vq p c.test 15 != 0)= false:=by simpa using e1
 by_cases e2:c.mv < -1
 ·have e:jS p c=2:=by unfold jS; rw [e1,if_neg (by simp),if_pos (.inl e2)]
  rw [hend (by rw [e]; decide),e];refine mU e1' hd zF hg hd2 vI hg2 e2 ?_;exact .dv
 by_cases e3:(p.xO.length:Int)<=c.mv
 ·have e:jS p c=2:=by unfold jS; rw [e1,if_neg (by simp),if_pos (.inr e3)]
  rw [hend (by rw [e]; decide),e];refine rC e1' hd zF hg hd2 vI hg2 e2 yJ e3 ?_;exact .dv
 have e:jS p c=0:=by unfold jS; rw [e1,if_neg (by simp),if_neg (by omega)]
 rw [e,if_neg (by simp)] at hi2;refine rC e1' hd zF hg hd2 vI hg2 e2 yJ e3 ?_;refine⟨j+1,⟨by omega,hi2⟩,?_,by omega⟩;exact yL
open Rs Fm Ru Kb
namespace Kb
structure uI where
 ag:Int
 seen:List (BitVec 64)
 mv:Int
def iR : uI:=⟨0,[],0⟩
def uI.row (c:uI):List D:=[.int .i64 c.ag,.sl 1 (us c.seen),.int .i64 c.mv]
def qO (l:List uI):List (List D):=l.map uI.row
theorem zA (l:List uI):(qO l).length=l.length:=by simp [qO]
theorem iA (l:List uI) {i:Nat} (h:i<l.length):(qO l).getD i []=(l.getD i iR).row:=by simp [qO,List.getD,h]
theorem Q3 (l:List uI):∀ e ∈ qO l,D.xR e=true:=by intro e he;simp only [qO,List.mem_map] at he;obtain⟨c,_,rfl⟩:=he;rfl
def bc (s:List fP):Bool:=decide (12<s.length) || s.any λa=>decide (40<a.to.length)
def c8 (s:List bL):Bool:=decide (8<s.length) || s.any λc=>decide (40<c.test.length)
def lD (p:yT) (l:List uI):Bool:=
 decide (p.init.length<=20)&& decide (p.xO.length<=12)&& decide (p.code.length<=8)&& decide (p.xV.length<=8)&& decide (l.length<=100)&&
 !p.xO.any bc&&!p.code.any c8&&!l.any λc=>decide (12<c.seen.length)
end Kb
theorem Tl {p:yT} {l:List uI} (h:lD p l=true):pT p:=by unfold lD at h;simp only [Bool.and_eq_true,decide_eq_true_eq,Bool.not_eq_true'] at h;refine⟨by omega,by omega,λs hs=>?_⟩;have:=ζ.1 h.1.1.2 s hs;unfold bc at this;simp only [Bool.or_eq_true,decide_eq_true_eq,not_or] at this;omega
theorem K5 (p:yT) (l:List uI):xA prog 16 [p.d,.sl 3 (qO l)] (.bool (lD p l)):=by
 have hD:p.d = .agg [.int .i64 p.F,.sl 1 (us p.init),.sl 1 (us p.xV),.sl 1 (uK p.xO),.sl 1 (uJ p.code)]:=rfl;rw [hD];refine xI func16 F8 λhf=>?_
 by_cases a1:20<p.init.length
 ·have a1':(20:Int)<(p.init.length:Int):=by omega
  rw [show lD p l=false by unfold lD; rw [decide_eq_false (show ¬ p.init.length<=20 by omega)]; simp];refine yO xT a1' ?_;exact .dv
 have a1':¬ (20:Int)<(p.init.length:Int):=by omega
 by_cases a2:12<p.xO.length
 ·have a2':(12:Int)<(p.xO.length:Int):=by omega
  rw [show lD p l=false by unfold lD; rw [decide_eq_false (show ¬ p.xO.length<=12 by omega)]; simp];refine cE xT yJ a1' a2' ?_;exact .dv
 have a2':¬ (12:Int)<(p.xO.length:Int):=by omega
 by_cases a3:8<p.code.length
 ·have a3':(8:Int)<(p.code.length:Int):=by omega
  rw [show lD p l=false by unfold lD; rw [decide_eq_false (show ¬ p.code.length<=8 by omega)]; simp];refine Js xT yJ zF a1' a2' a3' ?_;exact .dv
 have a3':¬ (8:Int)<(p.code.length:Int):=by omega
 by_cases a4:8<p.xV.length
 ·have a4':(8:Int)<(p.xV.length:Int):=by omega
  rw [show lD p l=false by unfold lD; rw [decide_eq_false (show ¬ p.xV.length<=8 by omega)]; simp];refine TE xT yJ zF a1' a2' a3' a4' ?_;exact .dv
 have a4':¬ (8:Int)<(p.xV.length:Int):=by omega
 by_cases a5:100<l.length
 ·have a5':(100:Int)<(l.length:Int):=by omega
  rw [show lD p l=false by unfold lD; rw [decide_eq_false (show ¬ l.length<=100 by omega)]; simp];refine LB xT yJ zF zA a1' a2' a3' a4' a5' ?_;exact .dv
 have a5':¬ (100:Int)<(l.length:Int):=by omega
 have hfe:lD p l=(!p.xO.any bc&&!p.code.any c8&&!l.any λc=>decide (12<c.seen.length)):=by unfold lD;rw [decide_eq_true (show p.init.length<=20 by omega),decide_eq_true (show p.xO.length<=12 by omega),decide_eq_true (show p.code.length<=8 by omega),decide_eq_true (show p.xV.length<=8 by omega),decide_eq_true (show l.length<=100 by omega)];rfl
 refine LB xT yJ zF zA a1' a2' a3' a4' a5' ?_
 refine xU (λk:Nat=>[(5,.int .i64 k),(2,.ref 0 5 0 0),(1,.sl 3 (qO l))]) (λ_=>⟨1,[(0,⟨5,[p.cells]⟩)]⟩)
  (λk=>k<=p.xO.length/\p.xO.any bc=(p.xO.drop k).any bc) (λk=>p.xO.length-k) 0 ⟨η _,rfl⟩ ?_ ?_
 ·unfold yT.cells; (refine yR.same ?_; simp [yS,Fr.get])
 intro k ⟨hk,hi⟩;refine xN mixed ?_;by_cases hkl:k<p.xO.length
 case pos=>
  have hd:((k:Int)<(p.xO.length:Int)):=by omega
  rw [drop_cons (d:=[]) hkl,δ] at hi;have hg:=iE p.xO hkl;generalize p.xO.getD k []=s at hi hg;have hend:bc s=true->lD p l=false:=λh=>by rw [hfe,hi,h]; rfl
  unfold yT.cells
  by_cases c1:12<s.length
  ·have c1':(12:Int)<(s.length:Int):=by omega
   rw [hend (by unfold bc; rw [decide_eq_true c1,μ])];refine rI hd yJ hg vS c1' ?_;exact .dv
  have c1':¬ (12:Int)<(s.length:Int):=by omega
  have hb:bc s=s.any λa=>decide (40<a.to.length):=by unfold bc; rw [decide_eq_false c1,κ]
  refine rI hd yJ hg vS c1' ?_
  refine xU (λj:Nat=>[(6,.int .i64 j),(5,.int .i64 k),(2,.ref 0 5 0 0),(1,.sl 3 (qO l))]) (λ_=>⟨1,[(0,⟨5,[p.cells]⟩)]⟩)
   (λj=>j<=s.length/\(s.any λa=>decide (40<a.to.length))= (s.drop j).any λa=>decide (40<a.to.length)) (λj=>s.length-j) 0 ⟨η _,rfl⟩ ?_ ?_
  ·unfold yT.cells; (refine yR.same ?_; simp [yS,Fr.get])
  intro j ⟨hj,hi2⟩;refine xN mixed ?_;by_cases hjl:j<s.length
  case neg=>
   have hd2:¬ ((j:Int)<(s.length:Int)):=by omega
   rw [γ (by omega),ε] at hi2;rw [hb,hi2,κ] at hi;unfold yT.cells;refine rI hd2 hd yJ hg vS ?_;refine⟨k+1,⟨by omega,hi⟩,?_,by omega⟩;exact yL
  have hd2:((j:Int)<(s.length:Int)):=by omega
  rw [drop_cons (d:=aN) hjl,δ] at hi2;have hg2:=kV s hjl;unfold fP.row at hg2;generalize s.getD j aN=a at hi2 hg2;unfold yT.cells
  by_cases c2:40<a.to.length
  ·have c2':(40:Int)<(a.to.length:Int):=by omega
   rw [hend (by rw [hb,hi2,decide_eq_true c2,μ])];refine mU hd2 hd yJ hg vS hg2 xM c2' ?_;exact .dv
  have c2':¬ (40:Int)<(a.to.length:Int):=by omega
  rw [decide_eq_false c2,κ] at hi2;refine mU hd2 hd yJ hg vS hg2 xM c2' ?_;refine⟨j+1,⟨by omega,hi2⟩,?_,by omega⟩;exact yL
 have hd:¬ ((k:Int)<(p.xO.length:Int)):=by omega
 rw [γ (by omega),ε] at hi;rw [hi] at hfe;clear hk hkl hi;unfold yT.cells;refine yO hd yJ ?_;clear hd
 refine xU (λk:Nat=>[(7,.int .i64 k),(2,.ref 0 5 0 0),(1,.sl 3 (qO l))]) (λ_=>⟨1,[(0,⟨5,[p.cells]⟩)]⟩)
  (λk=>k<=p.code.length/\p.code.any c8=(p.code.drop k).any c8) (λk=>p.code.length-k) 0 ⟨η _,rfl⟩ ?_ ?_
 ·unfold yT.cells; (refine yR.same ?_; simp [yS,Fr.get])
 intro k ⟨hk,hi⟩;refine xN mixed ?_;by_cases hkl:k<p.code.length
 case pos=>
  have hd:((k:Int)<(p.code.length:Int)):=by omega
  rw [drop_cons (d:=[]) hkl,δ] at hi;have hg:=hZ p.code hkl;generalize p.code.getD k []=s at hi hg;have hend:c8 s=true->lD p l=false:=λh=>by rw [hfe,hi,h]; rfl
  unfold yT.cells
  by_cases c1:8<s.length
  ·have c1':(8:Int)<(s.length:Int):=by omega
   rw [hend (by unfold c8; rw [decide_eq_true c1,μ])];refine rI hd zF hg vI c1' ?_;exact .dv
  have c1':¬ (8:Int)<(s.length:Int):=by omega
  have hb:c8 s=s.any λa=>decide (40<a.test.length):=by unfold c8; rw [decide_eq_false c1,κ]
  refine rI hd zF hg vI c1' ?_
  refine xU (λj:Nat=>[(8,.int .i64 j),(7,.int .i64 k),(2,.ref 0 5 0 0),(1,.sl 3 (qO l))]) (λ_=>⟨1,[(0,⟨5,[p.cells]⟩)]⟩)
   (λj=>j<=s.length/\(s.any λa=>decide (40<a.test.length))= (s.drop j).any λa=>decide (40<a.test.length)) (λj=>s.length-j) 0 ⟨η _,rfl⟩ ?_ ?_
  ·unfold yT.cells; (refine yR.same ?_; simp [yS,Fr.get])
  intro j ⟨hj,hi2⟩;refine xN mixed ?_;by_cases hjl:j<s.length
  case neg=>
   have hd2:¬ ((j:Int)<(s.length:Int)):=by omega
   rw [γ (by omega),ε] at hi2;rw [hb,hi2,κ] at hi;unfold yT.cells;refine rI hd2 hd zF hg vI ?_;refine⟨k+1,⟨by omega,hi⟩,?_,by omega⟩;exact yL
  have hd2:((j:Int)<(s.length:Int)):=by omega
  rw [drop_cons (d:=l6) hjl,δ] at hi2;have hg2:=xm s hjl;unfold bL.row at hg2;generalize s.getD j l6=a at hi2 hg2;unfold yT.cells
  by_cases c2:40<a.test.length
  ·have c2':(40:Int)<(a.test.length:Int):=by omega
   rw [hend (by rw [hb,hi2,decide_eq_true c2,μ])];refine mU hd2 hd zF hg vI hg2 xM c2' ?_;exact .dv
  have c2':¬ (40:Int)<(a.test.length:Int):=by omega
  rw [decide_eq_false c2,κ] at hi2;refine mU hd2 hd zF hg vI hg2 xM c2' ?_;refine⟨j+1,⟨by omega,hi2⟩,?_,by omega⟩;exact yL
 have hd:¬ ((k:Int)<(p.code.length:Int)):=by omega
 rw [γ (by omega),ε] at hi;rw [hi] at hfe;clear hk hkl hi;unfold yT.cells;refine yO hd zF ?_;clear hd
 refine xU (λk:Nat=>[(9,.int .i64 k),(1,.sl 3 (qO l))]) (λ_=>⟨1,[(0,⟨5,[p.cells]⟩)]⟩)
  (λk=>k<=l.length/\(l.any λc=>decide (12<c.seen.length))= (l.drop k).any λc=>decide (12<c.seen.length)) (λk=>l.length-k) 0 ⟨η _,rfl⟩ ?_ ?_
 ·unfold yT.cells; (refine yR.same ?_; simp [yS,Fr.get])
 intro k ⟨hk,hi⟩;refine xN mixed ?_;by_cases hkl:k<l.length
 case pos=>
  have hd:((k:Int)<(l.length:Int)):=by omega
  rw [drop_cons (d:=iR) hkl,δ] at hi;have hg:=iA l hkl;unfold uI.row at hg;generalize l.getD k iR=s at hi hg;unfold yT.cells
  by_cases c1:12<s.seen.length
  ·have c1':(12:Int)<(s.seen.length:Int):=by omega
   rw [show lD p l=false by rw [hfe,hi,decide_eq_true c1]; rfl];refine rI hd zA hg xT c1' ?_;exact .dv
  have c1':¬ (12:Int)<(s.seen.length:Int):=by omega
  rw [decide_eq_false c1,κ] at hi;refine rI hd zA hg xT c1' ?_;refine⟨k+1,⟨by omega,hi⟩,?_,by omega⟩;exact yL
 have hd:¬ ((k:Int)<(l.length:Int)):=by omega
 rw [γ (by omega),ε] at hi;rw [hfe,hi];unfold yT.cells;refine yO hd zA ?_;exact .dv
end Go.Pd
