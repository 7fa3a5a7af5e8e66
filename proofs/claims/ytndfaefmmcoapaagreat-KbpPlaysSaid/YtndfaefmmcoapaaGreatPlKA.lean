/- Part KA. -/
import Derived.Test.YtndfaefmmcoapaaGreatPlP7
set_option linter.unusedSectionVars false
set_option linter.unusedVariables false
set_option linter.unusedSimpArgs false
set_option linter.defProp false
set_option maxRecDepth 20000
set_option maxHeartbeats 1000000
open Go.Proofs.Tryz
open List renaming drop_eq_nil_of_le->γ,any_cons->δ,any_nil->ε,any_eq_false->ζ
open Nat renaming zero_le->η,not_lt_zero->θ
open Bool renaming false_or->κ,true_or->μ
namespace Go.Pd
open Go Go.Proofs
open BitVec renaming isValue -> ZA
open Rs Fm Ru
namespace Kb
structure bP where
 test:List Nd
 mv:Int
structure fQ where
 fact:Int
 to:List Nd
structure yT where
 F:Int
 init:List (BitVec 64)
 xW:List (BitVec 64)
 xO:List (List fQ)
 code:List (List bP)
def j9 : bP:=⟨[],0⟩
def aO : fQ:=⟨0,[]⟩
def bP.row (c:bP):List D:=[.sl 6 (wP c.test),.int .i64 c.mv]
def fQ.row (a:fQ):List D:=[.int .i64 a.fact,.sl 6 (wP a.to)]
def Zc (l:List bP):List (List D):=l.map bP.row
def j6 (l:List fQ):List (List D):=l.map fQ.row
def uH (l:List (List fQ)):List (List D):=l.map λs=>[.sl 2 (j6 s)]
def uG (l:List (List bP)):List (List D):=l.map λs=>[.sl 2 (Zc s)]
def yT.cells (p:yT):List D:=[.int .i64 p.F,.sl 1 (us p.init),.sl 1 (us p.xW),.sl 1 (uH p.xO),.sl 1 (uG p.code)]
def yT.d (p:yT):D:=.agg p.cells
theorem vK (l:List bP):(Zc l).length=l.length:=by simp [Zc]
theorem vT (l:List fQ):(j6 l).length=l.length:=by simp [j6]
theorem yF (l:List (List fQ)):(uH l).length=l.length:=by simp [uH]
theorem zH (l:List (List bP)):(uG l).length=l.length:=by simp [uG]
theorem xn (l:List bP) {i:Nat} (h:i<l.length):(Zc l).getD i []=(l.getD i j9).row:=by simp [Zc,List.getD,h]
theorem kU (l:List fQ) {i:Nat} (h:i<l.length):(j6 l).getD i []=(l.getD i aO).row:=by simp [j6,List.getD,h]
theorem iC (l:List (List fQ)) {i:Nat} (h:i<l.length):(uH l).getD i [] = [.sl 2 (j6 (l.getD i []))]:=by simp [uH,List.getD,h]
theorem iA (l:List (List bP)) {i:Nat} (h:i<l.length):(uG l).getD i [] = [.sl 2 (Zc (l.getD i []))]:=by simp [uG,List.getD,h]
def wQ {α:Type} (f:α->Int):List α->Int
 | []=>0
 | x :: r=>if f x≠0 then f x else wQ f r
theorem oA {α:Type} {f:α->Int}:∀ {l:List α},wQ f l=0 ↔ ∀ x ∈ l,f x=0
 | []=>by simp [wQ]
 | x :: r=>by
  unfold wQ
  by_cases h:f x=0
  ·rw [if_neg (by simpa using h),oA]; simp [h]
  ·rw [if_pos h]; simp [h]
def jk (l:List Int):Bool:=(List.range (l.length-1)).all λi=>decide (l.getD i 0<l.getD (i+1) 0)
def vq (p:yT) (f:List Nd) (frags:Int):Int:= if yW f≠0 then yW f else if (tB .andNot .i64 (zP f) frags != 0)= true then 10 else if sO f p.xW.length p.F=true then 0 else 2
def mS (p:yT) (a:fQ):Int:=if a.fact<0\/p.F<=a.fact then 2 else vq p a.to 0
def jO (p:yT) (c:bP):Int:=if vq p c.test 15≠0 then vq p c.test 15 else if c.mv < -1\/(p.xO.length:Int)<=c.mv then 2 else 0
def pF (p:yT) (s:BitVec 64):Bool:=!decide (s >>> p.F.toNat=0#64)
def jl (l:List (BitVec 64)):Bool:=jk (l.map ui)
def bX (s:List fQ):Bool:=jk (s.map (·.fact))
def wN (p:yT):Int:=
 if p.F<0\/8<p.F then 2 else
 if 4<p.xW.length\/16<p.init.length\/8<p.xO.length\/p.code.any (λl=>decide (6<l.length))= true then 8 else
 if p.xW.length=0\/p.init.length=0\/p.code.length≠p.xW.length\/p.init.any (pF p)= true\/p.xW.any (pF p)= true then 3 else
 if jl p.init=false\/p.xO.any (λs=>!bX s)= true then 9 else 0
def uA (p:yT):Int:= if wN p≠0 then wN p else if wQ (wQ (mS p)) p.xO≠0 then wQ (wQ (mS p)) p.xO else wQ (wQ (jO p)) p.code
structure oY (p : yT) : Prop where
 init:p.init.length<=2000000
 code:p.code.length<=2000000
 mv:∀ s ∈ p.xO,s.length<=4400000000000
end Kb
open Kb
theorem eO {l:List Int} (h:∀ i,i+1<l.length->l.getD i 0<l.getD (i+1) 0):jk l=true:=by unfold jk;rw [List.all_eq_true];intro i hi;have:=List.mem_range.1 hi;exact decide_eq_true (h i (by omega))
theorem eP {l:List Int} {i:Nat} (hi:i+1<l.length) (h:¬ l.getD i 0<l.getD (i+1) 0):jk l=false:=by unfold jk;rw [List.all_eq_false];exact⟨i,List.mem_range.2 (by omega),by simpa using h⟩
theorem Px {l:List Int}:jk l=true ↔ ∀ i,i+1<l.length->l.getD i 0<l.getD (i+1) 0:=by refine⟨λh i hi=>Decidable.byContradiction λhh=>?_,eO⟩;rw [eP hi hh] at h; cases h
theorem KH (l:List Int) (hl:l.length<=2000000):xA prog 59 [.sl 1 (rows .u64 l)] (.bool (jk l)):=by
 refine xI func59 FW λhf=>?_;refine xJ ?_
 refine xU (λk:Nat=>[(3,.int .i64 ((k+1:Nat):Int)),(0,.sl 1 (rows .u64 l))]) (λ_=>⟨0,[]⟩) (λk=>k<=l.length/\∀ i,i<k->i+1<l.length->l.getD i 0<l.getD (i+1) 0) (λk=>l.length-k) 0 ⟨η _,λi hi=>absurd hi (θ _)⟩ ?_ ?_
 ·exact wE
 intro k ⟨hk,hi⟩;refine xN mixed ?_
 by_cases hh:k+1<l.length
 ·have hd:(((k+1:Nat):Int)<(l.length:Int)):=by omega
  have hw:IntKind.i64.wrap (((k+1:Nat):Int)-1)= (k:Int):=by rw [wrap_i64 (by omega)]; omega
  have hd2:((k:Int)<(l.length:Int)):=by omega
  have g1:=wT .u64 l (show k<l.length by omega);have g2:=wT .u64 l hh
  by_cases hlt:l.getD k 0<l.getD (k+1) 0
  ·have hlt2:¬ l.getD (k+1) 0<=l.getD k 0:=by omega
   refine uc hd yV hw hd2 g1 g2 hlt2 ?_
   refine⟨k+1,⟨by omega,λi h1 h2=>?_⟩,?_,by omega⟩
   ·by_cases e:i=k
    ·rw [e]; exact hlt
    ·exact hi i (by omega) h2
   exact yH
  ·have hlt2:l.getD (k+1) 0<=l.getD k 0:=by omega
   refine uc hd yV hw hd2 g1 g2 hlt2 ?_;rw [eP hh hlt];exact .same
 ·have hd:¬ (((k+1:Nat):Int)<(l.length:Int)):=by omega
  rw [eO λi h=>hi i (by omega) h];refine yM hd yV ?_;exact .same
theorem KK (l:List Int) (hl:l.length<=4400000000000):xA prog 62 [.sl 1 (rows .i64 l)] (.bool (jk l)):=by
 refine xI func62 FX λhf=>?_;refine xJ ?_
 refine xU (λk:Nat=>[(3,.int .i64 ((k+1:Nat):Int)),(0,.sl 1 (rows .i64 l))]) (λ_=>⟨0,[]⟩) (λk=>k<=l.length/\∀ i,i<k->i+1<l.length->l.getD i 0<l.getD (i+1) 0) (λk=>l.length-k) 0 ⟨η _,λi hi=>absurd hi (θ _)⟩ ?_ ?_
 ·exact wE
 intro k ⟨hk,hi⟩;refine xN mixed ?_
 by_cases hh:k+1<l.length
 ·have hd:(((k+1:Nat):Int)<(l.length:Int)):=by omega
  have hw:IntKind.i64.wrap (((k+1:Nat):Int)-1)= (k:Int):=by rw [wrap_i64 (by omega)]; omega
  have hd2:((k:Int)<(l.length:Int)):=by omega
  have g1:=wT .i64 l (show k<l.length by omega);have g2:=wT .i64 l hh
  by_cases hlt:l.getD k 0<l.getD (k+1) 0
  ·have hlt2:¬ l.getD (k+1) 0<=l.getD k 0:=by omega
   refine uc hd yV hw hd2 g1 g2 hlt2 ?_
   refine⟨k+1,⟨by omega,λi h1 h2=>?_⟩,?_,by omega⟩
   ·by_cases e:i=k
    ·rw [e]; exact hlt
    ·exact hi i (by omega) h2
   exact yH
  ·have hlt2:l.getD (k+1) 0<=l.getD k 0:=by omega
   refine uc hd yV hw hd2 g1 g2 hlt2 ?_;rw [eP hh hlt];exact .same
 ·have hd:¬ (((k+1:Nat):Int)<(l.length:Int)):=by omega
  rw [eO λi h=>hi i (by omega) h];refine yM hd yV ?_;exact .same
theorem QT {σ:St} {g:FuncId} {caps:List D} {f:List bP->Bool} {c:List (List bP)} (hl:c.length<=2000000) (h:∀ x ∈ c,xP prog g ([.sl 2 (Zc x)]++caps) σ (.bool (f x)) σ):xP prog 114 [.sl 1 (uG c),.fn g caps] σ (.int .i64 (iN f c 0)) σ:=by
 refine xI func114 IQ λhf=>?_;refine xG zH ?_
 refine xU (λk:Nat=>[(8,.int .i64 k),(7,.int .i64 c.length),(1,.fn g caps),(0,.sl 1 (uG c))]) (λ_=>σ) (λk=>k<=c.length/\iN f c 0=iN f (c.drop k) k) (λk=>c.length-k) 0 ⟨η _,rfl⟩ ?_ ?_
 ·exact wE
 intro k ⟨hk,hi⟩;refine xN mixed ?_
 by_cases hh:k<c.length
 ·have hd:((k:Int)<(c.length:Int)):=by omega
  rw [drop_cons (d:=[]) hh,iN] at hi;simp only [simprocAttr,-ZA,↓zU,↓zD,zV,zT,zW,hd,zH,iA _ hh]
  (repeat refine sd ?_)
  refine .go (h _ (xK hh)) ?_
  cases hx:f (c.getD k [])
  ·rw [hx,if_neg (by simp)] at hi;refine xJ ?_;refine⟨k+1,⟨by omega,hi⟩,?_,by omega⟩;exact yH
  ·rw [hx,if_pos rfl] at hi;refine xJ ?_;rw [hi];exact .same
 ·have hd:¬ ((k:Int)<(c.length:Int)):=by omega
  rw [γ (by omega),iN] at hi;refine xG hd ?_;rw [hi];exact .same
theorem WQ {σ:St} {g:FuncId} {caps:List D} {f:List bP->Bool} {c:List (List bP)} (hl:c.length<=2000000) (h:∀ x ∈ c,xP prog g ([.sl 2 (Zc x)]++caps) σ (.bool (f x)) σ):xP prog 56 [.sl 1 (uG c),.fn g caps] σ (.bool (c.any f)) σ:=by
 refine xI func56 FT λhf=>?_;refine xJ ?_;refine .go (QT hl h) ?_;have hx:=dS (f:=f) (c:=c) (i:=0) (Int.le_refl 0)
 cases ha:c.any f
 ·have h1:¬ 0<=iN f c 0:=λy=>by rw [hx.1 y] at ha; cases ha
  refine xG h1 ?_;exact .same
 ·have h1:=hx.2 ha;refine xG h1 ?_;exact .same
theorem QU {σ:St} {g:FuncId} {caps:List D} {f:List fQ->Bool} {c:List (List fQ)} (hl:c.length<=2000000) (h:∀ x ∈ c,xP prog g ([.agg [.sl 2 (j6 x)]]++caps) σ (.bool (f x)) σ):xP prog 116 [.sl 1 (uH c),.fn g caps] σ (.int .i64 (iN f c 0)) σ:=by
 refine xI func116 IS λhf=>?_;refine xG yF ?_
 refine xU (λk:Nat=>[(8,.int .i64 k),(7,.int .i64 c.length),(1,.fn g caps),(0,.sl 1 (uH c))]) (λ_=>σ) (λk=>k<=c.length/\iN f c 0=iN f (c.drop k) k) (λk=>c.length-k) 0 ⟨η _,rfl⟩ ?_ ?_
 ·exact wE
 intro k ⟨hk,hi⟩;refine xN mixed ?_
 by_cases hh:k<c.length
 ·have hd:((k:Int)<(c.length:Int)):=by omega
  rw [drop_cons (d:=[]) hh,iN] at hi;simp only [simprocAttr,-ZA,↓zU,↓zD,zV,zT,zW,hd,yF,iC _ hh]
  (repeat refine sd ?_)
  refine .go (h _ (xK hh)) ?_
  cases hx:f (c.getD k [])
  ·rw [hx,if_neg (by simp)] at hi;refine xJ ?_;refine⟨k+1,⟨by omega,hi⟩,?_,by omega⟩;exact yH
  ·rw [hx,if_pos rfl] at hi;refine xJ ?_;rw [hi];exact .same
 ·have hd:¬ ((k:Int)<(c.length:Int)):=by omega
  rw [γ (by omega),iN] at hi;refine xG hd ?_;rw [hi];exact .same
theorem WR {σ:St} {g:FuncId} {caps:List D} {f:List fQ->Bool} {c:List (List fQ)} (hl:c.length<=2000000) (h:∀ x ∈ c,xP prog g ([.agg [.sl 2 (j6 x)]]++caps) σ (.bool (f x)) σ):xP prog 60 [.sl 1 (uH c),.fn g caps] σ (.bool (c.any f)) σ:=by
 refine xI func60 FZ λhf=>?_;refine xJ ?_;refine .go (QU hl h) ?_;have hx:=dS (f:=f) (c:=c) (i:=0) (Int.le_refl 0)
 cases ha:c.any f
 ·have h1:¬ 0<=iN f c 0:=λy=>by rw [hx.1 y] at ha; cases ha
  refine xG h1 ?_;exact .same
 ·have h1:=hx.2 ha;refine xG h1 ?_;exact .same
open Rs Fm Ru Kb
theorem Kf {nx:Nat} {xZ:List (Nat × Ob)} {p:yT} (h0:St.look xZ 0=some ⟨5,[p.cells]⟩) (hf:0<=p.F) (x:BitVec 64):xP prog 55 ([.int .u64 (ui x)] ++ [.ref 0 5 0 0]) ⟨nx,xZ⟩ (.bool (pF p x)) ⟨nx,xZ⟩:=by
 unfold yT.cells at h0;refine xI func55 FS λhf=>?_;refine wA h0 ?_;unfold pF
 by_cases hx:x >>> p.F.toNat=0#64
 ·have ex:(x >>> p.F.toNat != 0#64)= false:=by simpa using hx
  rw [decide_eq_true hx];refine xG ex ?_;exact .same
 ·have ex:(x >>> p.F.toNat != 0#64)= true:=by simpa using hx
  rw [decide_eq_false hx];refine xG ex ?_;exact .same
theorem ML (l:List bP):xA prog 57 [.sl 2 (Zc l)] (.bool (decide (6<l.length))):=by
 refine xI func57 FU λhf=>?_
 by_cases h:6<l.length
 ·have h':(6:Int)<(l.length:Int):=by omega
  rw [decide_eq_true h];refine yM vK h' ?_;exact .same
 ·have h':¬ (6:Int)<(l.length:Int):=by omega
  rw [decide_eq_false h];refine yM vK h' ?_;exact .same
theorem WE (s:List fQ) (hl:s.length<=4400000000000):xA prog 63 [.agg [.sl 2 (j6 s)]] (.sl 1 (rows .i64 (s.map (·.fact)))):=by
 refine xI func63 Fa λhf=>?_;refine xG vT ?_
 refine xU (λk:Nat=>[(9,.int .i64 k),(8,.int .i64 s.length),(7,.sl 2 (j6 s)),(3,xD 1 1 (rows .i64 ((s.take k).map (·.fact))))]) (λk=>⟨2,yX 1 1 (rows .i64 ((s.take k).map (·.fact)))⟩) (λk=>k<=s.length) (λk=>s.length-k) 0 (η _) ?_ ?_
 ·(refine sS [] [] ?_; simp only [wY,zQ,simprocAttr,-ZA,exists_eq_left',ne_eq,zR,List.take_zero,List.map_nil,lQ,yA,yB])
 intro k hk;refine xN mixed ?_
 by_cases hh:k<s.length
 ·have hd:((k:Int)<(s.length:Int)):=by omega
  have hg:=kU s hh;have ht:(s.take (k+1)).map (·.fact)= (s.take k).map (·.fact)++ [(s.getD k aO).fact]:=by rw [yC (d:=aO) hh]; simp
  have hkl:((s.take k).map (·.fact)).length=k:=by simp; omega
  unfold fQ.row at hg;generalize (s.take k).map (·.fact)= a at hkl ht ⊢;generalize s.getD k aO=x at hg ht ⊢;refine sT hd vT hg ?_;refine⟨k+1,by omega,?_,by omega⟩;rw [ht];exact kC [(1,3)] [1]
 ·have hd:¬ ((k:Int)<(s.length:Int)):=by omega
  rw [xf (show k=s.length by omega)];refine xG hd ?_;exact .drop (by simp) (Ts (by decide) (qV _ _))
theorem KJ (s:List fQ) (hl:s.length<=4400000000000):xA prog 61 [.agg [.sl 2 (j6 s)]] (.bool (!bX s)):=by have h1:=WE s hl;have h2:=KK (s.map (·.fact)) (by simpa using hl);unfold bX;refine xI func61 FY λhf=>?_;refine zC ?_;refine .go (cr h1) ?_;refine xJ ?_;refine .go (cr h2) ?_;refine xJ ?_;exact .dv
theorem dt (p:yT) (f:List Nd) (fr:Int):xA prog 65 [p.d,.sl 6 (wP f),.int .i64 fr] (.int .i64 (vq p f fr)):=by
 have h1:=eQ f;have h2:=VD f;have h3:=SA f p.xW.length p.F;unfold yT.d yT.cells vq;refine xI func65 Fc λhf=>?_;refine zC ?_;refine .go (cr h1) ?_;by_cases e1:yW f=0
 case neg=>
  have e1':(yW f != 0)= true:=by simpa using e1
  refine yM e1' e1 ?_;exact .dv
 have e1':(yW f != 0)= false:=by simpa using e1
 refine yM e1' e1 ?_;refine .go (cr h2) ?_;cases e2:tB .andNot .i64 (zP f) fr != 0
 case true=> refine xG e2 ?_;exact .dv
 refine wA e2 ?_;refine .go (cr h3) ?_
 cases e3:sO f p.xW.length p.F
 ·refine xJ ?_;exact .dv
 ·refine xJ ?_;exact .dv
theorem pM {α:Type} (f:α->Int) {l:List α} {k:Nat} {d:α} (h:k<l.length):wQ f (l.drop k)= if f (l.getD k d)≠ 0 then f (l.getD k d) else wQ f (l.drop (k+1)):=by rw [drop_cons (d:=d) h]; rfl
theorem OW (p:yT) (hm:p.xO.length<=2000000) (hl:∀ s ∈ p.xO,s.length<=4400000000000):xA prog 64 [p.d] (.int .i64 (wQ (wQ (mS p)) p.xO)):=by
 have hF:=λf=>dt p f 0;have hD:p.d = .agg [.int .i64 p.F,.sl 1 (us p.init),.sl 1 (us p.xW),.sl 1 (uH p.xO),.sl 1 (uG p.code)]:=rfl;rw [hD] at *;refine xI func64 Fb λhf=>?_;refine wA yF ?_
 refine xU (λk:Nat=>[(11,.int .i64 k),(10,.int .i64 p.xO.length),(9,.sl 1 (uH p.xO)),(1,.ref 0 5 0 0)]) (λ_=>⟨1,[(0,⟨5,[p.cells]⟩)]⟩)
  (λk=>k<=p.xO.length/\wQ (wQ (mS p)) p.xO=wQ (wQ (mS p)) (p.xO.drop k)) (λk=>p.xO.length-k) 0 ⟨η _,rfl⟩ ?_ ?_
 ·unfold yT.cells; (refine yR.same ?_; simp [yS,Fr.get])
 intro k ⟨hk,hi⟩;refine xN mixed ?_;by_cases hkl:k<p.xO.length
 case neg=>
  have hd:¬ ((k:Int)<(p.xO.length:Int)):=by omega
  rw [hi,γ (by omega)];refine xG hd ?_;exact .drop (by simp) (by simp [vw,wQ])
 have hd:((k:Int)<(p.xO.length:Int)):=by omega
 rw [pM (d:=[]) _ hkl] at hi;have hg:=iC p.xO hkl;have hs:=hl _ (xK (d:=[]) hkl);generalize p.xO.getD k []=s at hi hg hs;unfold yT.cells;refine uC hd yF hg vT ?_
 refine xU (λj:Nat=>[(18,.int .i64 j),(17,.int .i64 s.length),(16,.sl 2 (j6 s)),(11,.int .i64 k),(10,.int .i64 p.xO.length),(9,.sl 1 (uH p.xO)),(1,.ref 0 5 0 0)]) (λ_=>⟨1,[(0,⟨5,[p.cells]⟩)]⟩)
  (λj=>j<=s.length/\wQ (mS p) s=wQ (mS p) (s.drop j)) (λj=>s.length-j) 0 ⟨η _,rfl⟩ ?_ ?_
 ·unfold yT.cells; (refine sS [] [0] ?_; simp only [wY,zQ,simprocAttr,-ZA,exists_eq_left',ne_eq,zR])
 intro j ⟨hj,hi2⟩;refine xN mixed ?_;by_cases hjl:j<s.length
 case neg=>
  have hd2:¬ ((j:Int)<(s.length:Int)):=by omega
  have h0:wQ (mS p) s=0:=by rw [hi2,γ (by omega)]; rfl
  rw [h0,if_neg (by simp)] at hi;unfold yT.cells;refine xG hd2 ?_;refine⟨k+1,⟨by omega,hi⟩,?_,by omega⟩;exact yH
 have hd2:((j:Int)<(s.length:Int)):=by omega
 rw [pM (d:=aO) _ hjl] at hi2;have hg2:=kU s hjl;unfold fQ.row at hg2;generalize s.getD j aO=a at hi2 hg2;have hend:mS p a≠0->wQ (wQ (mS p)) p.xO=mS p a:=λh=>by rw [hi,hi2,if_pos h,if_pos h]
 unfold yT.cells;have hFa:=hF a.to
 by_cases c1:a.fact<0
 ·have e:mS p a=2:=by unfold mS; rw [if_pos (.inl c1)]
  rw [hend (by rw [e]; decide),e];refine uC hd2 vT hg2 c1 ?_;exact .dv
 by_cases c2:p.F<=a.fact
 ·have e:mS p a=2:=by unfold mS; rw [if_pos (.inr c2)]
  rw [hend (by rw [e]; decide),e];refine qP hd2 vT hg2 c1 c2 ?_;exact .dv
 have e:mS p a=vq p a.to 0:=by unfold mS; rw [if_neg (by omega)]
 rw [<- e] at hFa;refine qP hd2 vT hg2 c1 c2 ?_;refine .go (cr hFa) ?_
 by_cases c3:mS p a=0
 ·have c3':(mS p a != 0)= false:=by simpa using c3
  rw [c3,if_neg (by simp)] at hi2;refine xG c3' ?_;refine⟨j+1,⟨by omega,hi2⟩,?_,by omega⟩;exact kC [] [0]
 ·have c3':(mS p a != 0)= true:=by simpa using c3
  rw [hend c3];refine xG c3' ?_;exact .dv
open Rs Fm Ru Kb
theorem VB (p:yT) (sm:oY p):xA prog 17 [p.d] (.int .i64 (uA p)):=by
 have hM:=OW p;have hF:=λf=>dt p f 15
 have hlong:=WQ (σ:=⟨1,[(0,⟨5,[p.cells]⟩)]⟩) (g:=57) (caps:=[]) (c:=p.code) (f:=λl=>decide (6<l.length)) sm.code λx _=>by rw [List.append_nil]; exact xP.yP (ML x) (by simp [D.xR,D.xF])
 have hasc:=WR (σ:=⟨1,[(0,⟨5,[p.cells]⟩)]⟩) (g:=61) (caps:=[]) (c:=p.xO) (f:=λs=>!bX s);have hout:=λ(h0:0<=p.F) (l:List (BitVec 64)) (hl:l.length<=1000)=>aQ (σ:=⟨1,[(0,⟨5,[p.cells]⟩)]⟩) (g:=55) (caps:=[.ref 0 5 0 0]) (c:=l) (f:=pF p) hl λx _=>Kf rfl h0 x;have hai:=KH (p.init.map ui) (by simpa using sm.init);rw [show rows .u64 (p.init.map ui)= us p.init by simp [rows,us]] at hai;have hD:p.d = .agg [.int .i64 p.F,.sl 1 (us p.init),.sl 1 (us p.xW),.sl 1 (uH p.xO),.sl 1 (uG p.code)]:=rfl;unfold yT.cells at hlong hasc hout;rw [hD] at *;refine xI func17 FI λhf=>?_
 by_cases a1:p.F<0
 ·rw [show uA p=2 by unfold uA wN; simp [a1]];refine xG a1 ?_;exact .dv
 by_cases a2:8<p.F
 ·rw [show uA p=2 by unfold uA wN; simp [a2]];refine yM a1 a2 ?_;exact .dv
 have hfe:wN p=if 4<p.xW.length\/16<p.init.length\/8<p.xO.length\/p.code.any (λl=>decide (6<l.length))= true then 8 else
   if p.xW.length=0\/p.init.length=0\/p.code.length≠p.xW.length\/p.init.any (pF p)= true\/p.xW.any (pF p)= true then 3 else
   if jl p.init=false\/p.xO.any (λs=>!bX s)= true then 9 else 0:=by
  unfold wN; rw [if_neg (by omega)]
 by_cases a3:4<p.xW.length
 ·rw [show uA p=8 by unfold uA; simp [hfe,a3]];have a3':(4:Int)<(p.xW.length:Int):=by omega
  refine cI a1 a2 a3' xT ?_;exact .dv
 have a3':¬ (4:Int)<(p.xW.length:Int):=by omega
 by_cases a4:16<p.init.length
 ·rw [show uA p=8 by unfold uA; simp [hfe,a4]];have a4':(16:Int)<(p.init.length:Int):=by omega
  refine bd a1 a2 a3' a4' xT ?_;exact .dv
 have a4':¬ (16:Int)<(p.init.length:Int):=by omega
 by_cases a5:8<p.xO.length
 ·rw [show uA p=8 by unfold uA; simp [hfe,a5]];have a5':(8:Int)<(p.xO.length:Int):=by omega
  refine TF a1 a2 a3' a4' a5' xT yF ?_;exact .dv
 have a5':¬ (8:Int)<(p.xO.length:Int):=by omega
 refine TF a1 a2 a3' a4' a5' xT yF ?_;refine .go hlong ?_;cases a6:p.code.any λl=>decide (6<l.length)
 case true=> rw [show uA p=8 by unfold uA; simp [hfe,a6]];refine xJ ?_;exact .dv
 by_cases b1:p.xW.length=0
 ·rw [show uA p=3 by unfold uA; simp [hfe,a4,a5,a6,b1]];have b1':((p.xW.length:Int)== 0)= true:=by rw [b1]; rfl
  refine yM xT b1' ?_;exact .dv
 have b1':((p.xW.length:Int)== 0)= false:=by rw [beq_eq_false_iff_ne]; omega
 by_cases b2:p.init.length=0
 ·rw [show uA p=3 by unfold uA; simp [hfe,a3,a5,a6,b2]];have b2':((p.init.length:Int)== 0)= true:=by rw [b2]; rfl
  refine bO xT b1' b2' ?_;exact .dv
 have b2':((p.init.length:Int)== 0)= false:=by rw [beq_eq_false_iff_ne]; omega
 by_cases b3:p.code.length=p.xW.length
 case neg=>
  rw [show uA p=3 by unfold uA; simp [hfe,a3,a4,a5,a6,b3]];have b3':((p.code.length:Int) != (p.xW.length:Int))= true:=by rw [bne_iff_ne]; omega
  refine bd xT b1' b2' zH b3' ?_;exact .dv
 have b3':((p.code.length:Int) != (p.xW.length:Int))= false:=by rw [b3]; exact bne_self_eq_false _
 refine bd xT b1' b2' zH b3' ?_;refine .go (hout (by omega) p.init (by omega)) ?_;cases b4:p.init.any (pF p)
 case true=> rw [show uA p=3 by unfold uA; simp [hfe,a3,a4,a5,a6,b4]];refine xJ ?_;exact .dv
 refine xJ ?_;refine .go (hout (by omega) p.xW (by omega)) ?_;cases b5:p.xW.any (pF p)
 case true=> rw [show uA p=3 by unfold uA; simp [hfe,a3,a4,a5,a6,b5]];refine xJ ?_;exact .dv
 refine xJ ?_;refine .go (cr hai) ?_;have hau:jk (p.init.map ui)= jl p.init:=rfl;rw [hau]
 have hf2:wN p=if jl p.init=false\/p.xO.any (λs=>!bX s)= true then 9 else 0:=by rw [hfe,if_neg (by simp [a3,a4,a5,a6]),if_neg (by simp [b1,b2,b3,b4,b5])]
 cases c1:jl p.init
 case false=> rw [show uA p=9 by unfold uA; simp [hf2,c1]];refine xJ ?_;exact .dv
 refine xJ ?_;refine .go (hasc (by omega) λx hx=>by rw [List.append_nil]; exact xP.yP (KJ x (sm.mv x hx)) (by simp [D.xR,D.xF])) ?_;cases c2:p.xO.any (λs=>!bX s)
 case true=> rw [show uA p=9 by unfold uA; simp [hf2,c2]];refine xJ ?_;exact .dv
 have hf0:wN p=0:=by rw [hf2,c1,c2]; rfl
 have hch:uA p=if wQ (wQ (mS p)) p.xO≠0 then wQ (wQ (mS p)) p.xO else wQ (wQ (jO p)) p.code:=by unfold uA; rw [hf0,if_neg (by simp)]
 refine xJ ?_;refine .go (xP.yP (hM (by omega) sm.mv) (by simp [D.xR,D.xF])) ?_;by_cases d1:wQ (wQ (mS p)) p.xO=0
 case neg=>
  have d1':(wQ (wQ (mS p)) p.xO != 0)= true:=by simpa using d1
  rw [hch,if_pos d1];refine xG d1' ?_;exact .dv
 rw [hch,d1,if_neg (by simp)];refine xG zH ?_
 refine xU (λk:Nat=>[(92,.int .i64 k),(91,.int .i64 p.code.length),(90,.sl 1 (uG p.code)),(1,.ref 0 5 0 0)]) (λ_=>⟨1,[(0,⟨5,[p.cells]⟩)]⟩)
  (λk=>k<=p.code.length/\wQ (wQ (jO p)) p.code=wQ (wQ (jO p)) (p.code.drop k)) (λk=>p.code.length-k) 0 ⟨η _,rfl⟩ ?_ ?_
 ·unfold yT.cells; (refine yR.same ?_; simp [yS,Fr.get])
 intro k ⟨hk,hi⟩;refine xN mixed ?_;by_cases hkl:k<p.code.length
 case neg=>
  have hd:¬ ((k:Int)<(p.code.length:Int)):=by omega
  rw [hi,γ (by omega)];refine xG hd ?_;exact .drop (by simp) (by simp [vw,wQ])
 have hd:((k:Int)<(p.code.length:Int)):=by omega
 rw [pM (d:=[]) _ hkl] at hi;have hg:=iA p.code hkl
 have hs:(p.code.getD k []).length<=6:=by have:=ζ.1 a6 _ (xK (d:=[]) hkl);simpa using this
 generalize p.code.getD k []=s at hi hg hs;unfold yT.cells;refine uC hd zH hg vK ?_
 refine xU (λj:Nat=>[(98,.int .i64 j),(97,.int .i64 s.length),(96,.sl 2 (Zc s)),(92,.int .i64 k),(91,.int .i64 p.code.length),(90,.sl 1 (uG p.code)),(1,.ref 0 5 0 0)]) (λ_=>⟨1,[(0,⟨5,[p.cells]⟩)]⟩)
  (λj=>j<=s.length/\wQ (jO p) s=wQ (jO p) (s.drop j)) (λj=>s.length-j) 0 ⟨η _,rfl⟩ ?_ ?_
 ·unfold yT.cells; (refine yR.same ?_; simp [yS,Fr.get])
 intro j ⟨hj,hi2⟩;refine xN mixed ?_;by_cases hjl:j<s.length
 case neg=>
  have hd2:¬ ((j:Int)<(s.length:Int)):=by omega
  have h0:wQ (jO p) s=0:=by rw [hi2,γ (by omega)]; rfl
  rw [h0,if_neg (by simp)] at hi;unfold yT.cells;refine xG hd2 ?_;refine⟨k+1,⟨by omega,hi⟩,?_,by omega⟩;exact yH
 have hd2:((j:Int)<(s.length:Int)):=by omega
 rw [pM (d:=j9) _ hjl] at hi2;have hg2:=xn s hjl;unfold bP.row at hg2;generalize s.getD j j9=c at hi2 hg2;have hend:jO p c≠0->wQ (wQ (jO p)) p.code=jO p c:=λh=>by rw [hi,hi2,if_pos h,if_pos h]
 unfold yT.cells;refine sT hd2 vK hg2 ?_;refine .go (cr (hF c.test)) ?_;by_cases e1:vq p c.test 15=0
 case neg=>
  have e1':(vq p c.test 15 != 0)= true:=by simpa using e1
  have e:jO p c=vq p c.test 15:=by unfold jO; rw [if_pos e1]
  rw [hend (by rw [e]; exact e1),e];refine xG e1' ?_;exact .dv
 have e1':(vq p c.test 15 != 0)= false:=by simpa using e1
 by_cases e2:c.mv < -1
 ·have e:jO p c=2:=by unfold jO; rw [e1,if_neg (by simp),if_pos (.inl e2)]
  rw [hend (by rw [e]; decide),e];refine yM e1' e2 ?_;exact .dv
 by_cases e3:(p.xO.length:Int)<=c.mv
 ·have e:jO p c=2:=by unfold jO; rw [e1,if_neg (by simp),if_pos (.inr e3)]
  rw [hend (by rw [e]; decide),e];refine cI e1' e2 yF e3 ?_;exact .dv
 have e:jO p c=0:=by unfold jO; rw [e1,if_neg (by simp),if_neg (by omega)]
 rw [e,if_neg (by simp)] at hi2;refine cI e1' e2 yF e3 ?_;refine⟨j+1,⟨by omega,hi2⟩,?_,by omega⟩;exact kC [] [0]
open Rs Fm Ru Kb
theorem MC (p:yT) (sm:oY p):xA prog 66 [p.d] (.int .i64 (wN p)):=by
 have hD:p.d = .agg [.int .i64 p.F,.sl 1 (us p.init),.sl 1 (us p.xW),.sl 1 (uH p.xO),.sl 1 (uG p.code)]:=rfl;have h5:=sm.code;rw [hD];refine xI func66 Fe λhf=>?_
 by_cases a1:p.F<0
 ·rw [show wN p=2 by unfold wN; simp [a1]];refine xG a1 ?_;exact .dv
 by_cases a2:8<p.F
 ·rw [show wN p=2 by unfold wN; simp [a2]];refine yM a1 a2 ?_;exact .dv
 have hfe:wN p=if 4<p.xW.length\/16<p.init.length\/8<p.xO.length\/p.code.any (λl=>decide (6<l.length))= true then 8 else
   if p.xW.length=0\/p.init.length=0\/p.code.length≠p.xW.length\/p.init.any (pF p)= true\/p.xW.any (pF p)= true then 3 else
   if jl p.init=false\/p.xO.any (λs=>!bX s)= true then 9 else 0:=by
  unfold wN; rw [if_neg (by omega)]
 by_cases a3:4<p.xW.length
 ·rw [show wN p=8 by simp [hfe,a3]];have a3':(4:Int)<(p.xW.length:Int):=by omega
  refine cI a1 a2 a3' xT ?_;exact .dv
 have a3':¬ (4:Int)<(p.xW.length:Int):=by omega
 by_cases a4:16<p.init.length
 ·rw [show wN p=8 by simp [hfe,a4]];have a4':(16:Int)<(p.init.length:Int):=by omega
  refine bd a1 a2 a3' a4' xT ?_;exact .dv
 have a4':¬ (16:Int)<(p.init.length:Int):=by omega
 by_cases a5:8<p.xO.length
 ·rw [show wN p=8 by simp [hfe,a5]];have a5':(8:Int)<(p.xO.length:Int):=by omega
  refine TF a1 a2 a3' a4' a5' xT yF ?_;exact .dv
 have a5':¬ (8:Int)<(p.xO.length:Int):=by omega
 refine TF a1 a2 a3' a4' a5' xT yF ?_
 refine xU (λk:Nat=>[(3,.int .i64 k),(1,.ref 0 5 0 0)]) (λ_=>⟨1,[(0,⟨5,[p.cells]⟩)]⟩)
  (λk=>k<=p.code.length/\p.code.any (λl=>decide (6<l.length))= (p.code.drop k).any (λl=>decide (6<l.length))) (λk=>p.code.length-k) 0 ⟨η _,rfl⟩ ?_ ?_
 ·unfold yT.cells; (refine yR.same ?_; simp [yS,Fr.get])
 intro k ⟨hk,hi⟩;refine xN mixed ?_;by_cases hkl:k<p.code.length
 case pos=>
  have hd:((k:Int)<(p.code.length:Int)):=by omega
  rw [drop_cons (d:=[]) hkl,δ] at hi;have hg:=iA p.code hkl;generalize p.code.getD k []=s at hi hg;unfold yT.cells
  by_cases h6:6<s.length
  ·have h6':(6:Int)<(s.length:Int):=by omega
   rw [decide_eq_true h6,μ] at hi;rw [show wN p=8 by simp only [hfe,hi]; simp];refine qP hd zH hg vK h6' ?_;exact .dv
  ·have h6':¬ (6:Int)<(s.length:Int):=by omega
   rw [decide_eq_false h6,κ] at hi;refine qP hd zH hg vK h6' ?_;refine⟨k+1,⟨by omega,hi⟩,?_,by omega⟩;exact yH
 have hd:¬ ((k:Int)<(p.code.length:Int)):=by omega
 have a6:p.code.any (λl=>decide (6<l.length))= false:=by rw [hi,γ (by omega)]; rfl
 clear hi;unfold yT.cells;refine yM hd zH ?_
 have hf1:wN p=if p.xW.length=0\/p.init.length=0\/p.code.length≠p.xW.length\/p.init.any (pF p)= true\/p.xW.any (pF p)= true then 3 else
   if jl p.init=false\/p.xO.any (λs=>!bX s)= true then 9 else 0:=by rw [hfe,if_neg (by rw [a6]; simp only [not_or]; exact⟨by omega,by omega,by omega,by simp⟩)]
 by_cases b1:p.xW.length=0
 ·rw [show wN p=3 by rw [hf1,if_pos (.inl b1)]];have b1':((p.xW.length:Int)== 0)= true:=by rw [b1]; rfl
  refine yM xT b1' ?_;exact .dv
 have b1':((p.xW.length:Int)== 0)= false:=by rw [beq_eq_false_iff_ne]; omega
 by_cases b2:p.init.length=0
 ·rw [show wN p=3 by rw [hf1,if_pos (.inr (.inl b2))]];have b2':((p.init.length:Int)== 0)= true:=by rw [b2]; rfl
  refine bO xT b1' b2' ?_;exact .dv
 have b2':((p.init.length:Int)== 0)= false:=by rw [beq_eq_false_iff_ne]; omega
 by_cases b3:p.code.length=p.xW.length
 case neg=>
  rw [show wN p=3 by rw [hf1,if_pos (.inr (.inr (.inl b3)))]];have b3':((p.code.length:Int) != (p.xW.length:Int))= true:=by rw [bne_iff_ne]; omega
  refine bd xT b1' b2' zH b3' ?_;exact .dv
 have b3':((p.code.length:Int) != (p.xW.length:Int))= false:=by rw [b3]; exact bne_self_eq_false _
 refine bd xT b1' b2' zH b3' ?_;clear hk hkl hd
 refine xU (λk:Nat=>[(4,.int .i64 k),(1,.ref 0 5 0 0)]) (λ_=>⟨1,[(0,⟨5,[p.cells]⟩)]⟩)
  (λk=>k<=p.init.length/\p.init.any (pF p)= (p.init.drop k).any (pF p)) (λk=>p.init.length-k) 0 ⟨η _,rfl⟩ ?_ ?_
 ·unfold yT.cells; (refine yR.same ?_; simp [yS,Fr.get])
 intro k ⟨hk,hi⟩;refine xN mixed ?_;by_cases hkl:k<p.init.length
 case pos=>
  have hd:((k:Int)<(p.init.length:Int)):=by omega
  rw [drop_cons (d:=0) hkl,δ] at hi;have hg:=zX p.init hkl;generalize p.init.getD k 0=x at hi hg;unfold yT.cells
  by_cases hx:x >>> p.F.toNat=0#64
  ·have ex:(x >>> p.F.toNat != 0#64)= false:=by simpa using hx
   rw [show pF p x=false by unfold pF; rw [decide_eq_true hx]; rfl,κ] at hi;refine uC hd xT hg ex ?_;refine⟨k+1,⟨by omega,hi⟩,?_,by omega⟩;exact yH
  ·have ex:(x >>> p.F.toNat != 0#64)= true:=by simpa using hx
   rw [show pF p x=true by unfold pF; rw [decide_eq_false hx]; rfl,μ] at hi;rw [show wN p=3 by rw [hf1,if_pos (.inr (.inr (.inr (.inl hi))))]];refine uC hd xT hg ex ?_;exact .dv
 have hd:¬ ((k:Int)<(p.init.length:Int)):=by omega
 have b4:p.init.any (pF p)= false:=by rw [hi,γ (by omega)]; rfl
 clear hi;unfold yT.cells;refine yM hd xT ?_;clear hk hkl hd
 refine xU (λk:Nat=>[(5,.int .i64 k),(1,.ref 0 5 0 0)]) (λ_=>⟨1,[(0,⟨5,[p.cells]⟩)]⟩)
  (λk=>k<=p.xW.length/\p.xW.any (pF p)= (p.xW.drop k).any (pF p)) (λk=>p.xW.length-k) 0 ⟨η _,rfl⟩ ?_ ?_
 ·unfold yT.cells; (refine yR.same ?_; simp [yS,Fr.get])
 intro k ⟨hk,hi⟩;refine xN mixed ?_;by_cases hkl:k<p.xW.length
 case pos=>
  have hd:((k:Int)<(p.xW.length:Int)):=by omega
  rw [drop_cons (d:=0) hkl,δ] at hi;have hg:=zX p.xW hkl;generalize p.xW.getD k 0=x at hi hg;unfold yT.cells
  by_cases hx:x >>> p.F.toNat=0#64
  ·have ex:(x >>> p.F.toNat != 0#64)= false:=by simpa using hx
   rw [show pF p x=false by unfold pF; rw [decide_eq_true hx]; rfl,κ] at hi;refine uC hd xT hg ex ?_;refine⟨k+1,⟨by omega,hi⟩,?_,by omega⟩;exact yH
  ·have ex:(x >>> p.F.toNat != 0#64)= true:=by simpa using hx
   rw [show pF p x=true by unfold pF; rw [decide_eq_false hx]; rfl,μ] at hi;rw [show wN p=3 by rw [hf1,if_pos (.inr (.inr (.inr (.inr hi))))]];refine uC hd xT hg ex ?_;exact .dv
 have hd:¬ ((k:Int)<(p.xW.length:Int)):=by omega
 have b5:p.xW.any (pF p)= false:=by rw [hi,γ (by omega)]; rfl
 clear hi;unfold yT.cells;refine yM hd xT ?_;clear hk hkl hd;have hf2:wN p=if jl p.init=false\/p.xO.any (λs=>!bX s)= true then 9 else 0:=by rw [hf1,if_neg (by simp [b1,b2,b3,b4,b5])]
 have hlm:(p.init.map ui).length=p.init.length:=by simp
 have hgm:∀ i,(p.init.map ui).getD i 0=ui (p.init.getD i 0):=λi=>by simp only [List.getD,List.getElem?_map];cases p.init[i]? <;> rfl
 refine xU (λk:Nat=>[(6,.int .i64 ((k+1:Nat):Int)),(1,.ref 0 5 0 0)]) (λ_=>⟨1,[(0,⟨5,[p.cells]⟩)]⟩)
  (λk=>k<=p.init.length/\∀ i,i<k->i+1<p.init.length->(p.init.map ui).getD i 0<(p.init.map ui).getD (i+1) 0) (λk=>p.init.length-k) 0 ⟨η _,λi hi=>absurd hi (θ _)⟩ ?_ ?_
 ·unfold yT.cells; (refine yR.same ?_; simp [yS,Fr.get])
 intro k ⟨hk,hi⟩;refine xN mixed ?_;by_cases hh:k+1<p.init.length
 case pos=>
  have hd:(((k+1:Nat):Int)<(p.init.length:Int)):=by omega
  have hw:IntKind.i64.wrap (((k+1:Nat):Int)-1)= (k:Int):=by rw [wrap_i64 (by omega)]; omega
  have hd2:((k:Int)<(p.init.length:Int)):=by omega
  have g1:=zX p.init (show k<p.init.length by omega);have g2:=zX p.init hh;have q1:=hgm k;have q2:=hgm (k+1);unfold yT.cells
  by_cases hlt:ui (p.init.getD k 0)<ui (p.init.getD (k+1) 0)
  ·have hlt2:¬ ui (p.init.getD (k+1) 0)<=ui (p.init.getD k 0):=by omega
   refine uc hd xT hw hd2 g1 g2 hlt2 ?_
   refine⟨k+1,⟨by omega,λi h1 h2=>?_⟩,?_,by omega⟩
   ·by_cases e:i=k
    ·rw [e,q1,q2]; exact hlt
    ·exact hi i (by omega) h2
   exact yH
  ·have hlt2:ui (p.init.getD (k+1) 0)<=ui (p.init.getD k 0):=by omega
   rw [show wN p=9 by rw [hf2,if_pos (.inl (eP (i:=k) (by omega) (by rw [q1,q2]; exact hlt)))]];refine uc hd xT hw hd2 g1 g2 hlt2 ?_;exact .dv
 have hd:¬ (((k+1:Nat):Int)<(p.init.length:Int)):=by omega
 have c1:jl p.init=true:=eO λi h=>hi i (by omega) (by omega);clear hi;unfold yT.cells;refine yM hd xT ?_;clear hk hh hd
 refine xU (λk:Nat=>[(7,.int .i64 k),(1,.ref 0 5 0 0)]) (λ_=>⟨1,[(0,⟨5,[p.cells]⟩)]⟩)
  (λk=>k<=p.xO.length/\p.xO.any (λs=>!bX s)= (p.xO.drop k).any (λs=>!bX s)) (λk=>p.xO.length-k) 0 ⟨η _,rfl⟩ ?_ ?_
 ·unfold yT.cells; (refine yR.same ?_; simp [yS,Fr.get])
 intro k ⟨hk,hi⟩;refine xN mixed ?_;by_cases hkl:k<p.xO.length
 case neg=>
  have hd:¬ ((k:Int)<(p.xO.length:Int)):=by omega
  have c2:p.xO.any (λs=>!bX s)= false:=by rw [hi,γ (by omega)]; rfl
  rw [show wN p=0 by rw [hf2,if_neg (by simp [c1,c2])]];unfold yT.cells;refine yM hd yF ?_;exact .dv
 have hd:((k:Int)<(p.xO.length:Int)):=by omega
 rw [drop_cons (d:=[]) hkl,δ] at hi;have hg:=iC p.xO hkl;have hs:=sm.mv _ (xK (d:=[]) hkl);generalize p.xO.getD k []=s at hi hg hs;have hls:(s.map (·.fact)).length=s.length:=by simp
 have hgs:∀ i,i<s.length->(s.map (·.fact)).getD i 0=(s.getD i aO).fact:=λi h=>by simp [List.getD,h]
 unfold yT.cells;refine yM hd yF ?_
 refine xU (λj:Nat=>[(8,.int .i64 ((j+1:Nat):Int)),(7,.int .i64 k),(1,.ref 0 5 0 0)]) (λ_=>⟨1,[(0,⟨5,[p.cells]⟩)]⟩)
  (λj=>j<=s.length/\∀ i,i<j->i+1<s.length->(s.map (·.fact)).getD i 0<(s.map (·.fact)).getD (i+1) 0) (λj=>s.length-j) 0 ⟨η _,λi hi=>absurd hi (θ _)⟩ ?_ ?_
 ·unfold yT.cells; (refine yR.same ?_; simp [yS,Fr.get])
 intro j ⟨hj,hi2⟩;refine xN mixed ?_;by_cases hh:j+1<s.length
 case neg=>
  have hd2:¬ (((j+1:Nat):Int)<(s.length:Int)):=by omega
  have c2:bX s=true:=eO λi h=>hi2 i (by omega) (by omega);rw [c2,Bool.not_true,κ] at hi;unfold yT.cells;refine qP hd2 hd yF hg vT ?_;refine⟨k+1,⟨by omega,hi⟩,?_,by omega⟩;exact yH
 have hd2:(((j+1:Nat):Int)<(s.length:Int)):=by omega
 have hw:IntKind.i64.wrap (((j+1:Nat):Int)-1)= (j:Int):=by rw [wrap_i64 (by omega)]; omega
 have hd3:((j:Int)<(s.length:Int)):=by omega
 have g1:=kU s (show j<s.length by omega);have g2:=kU s hh;have q1:=hgs j (by omega);have q2:=hgs (j+1) hh;unfold fQ.row at g1 g2;unfold yT.cells
 by_cases hlt:(s.getD j aO).fact<(s.getD (j+1) aO).fact
 ·have hlt2:¬ (s.getD (j+1) aO).fact<=(s.getD j aO).fact:=by omega
  refine qN hd2 hd yF hg vT hw hd3 g1 g2 hlt2 ?_
  refine⟨j+1,⟨by omega,λi h1 h2=>?_⟩,?_,by omega⟩
  ·by_cases e:i=j
   ·rw [e,q1,q2]; exact hlt
   ·exact hi2 i (by omega) h2
  exact yH
 ·have hlt2:(s.getD (j+1) aO).fact<=(s.getD j aO).fact:=by omega
  have c2:bX s=false:=eP (i:=j) (by omega) (by rw [q1,q2]; exact hlt);rw [show wN p=9 by rw [hf2,if_pos (.inr (by rw [hi,c2]; rfl))]];refine qN hd2 hd yF hg vT hw hd3 g1 g2 hlt2 ?_;exact .dv
theorem o7 (p:yT) (f:List Nd) (fr:Int):xA prog 67 [p.d,.sl 6 (wP f),.int .i64 fr] (.int .i64 (vq p f fr)):=by
 have h1:=rq f;have h2:=aZ f;have h3:=za f p.xW.length p.F;unfold yT.d yT.cells vq;refine xI func67 Ff λhf=>?_;refine zC ?_;refine .go (cr h1) ?_;by_cases e1:yW f=0
 case neg=>
  have e1':(yW f != 0)= true:=by simpa using e1
  refine yM e1' e1 ?_;exact .dv
 have e1':(yW f != 0)= false:=by simpa using e1
 refine yM e1' e1 ?_;refine .go (cr h2) ?_;cases e2:tB .andNot .i64 (zP f) fr != 0
 case true=> refine xG e2 ?_;exact .dv
 refine wA e2 ?_;refine .go (cr h3) ?_
 cases e3:sO f p.xW.length p.F
 ·refine xJ ?_;exact .dv
 ·refine xJ ?_;exact .dv
theorem Wv (p:yT) (sm:oY p):xA prog 18 [p.d] (.int .i64 (uA p)):=by
 have hS:=MC p sm;have hF:=λf fr=>o7 p f fr;have hD:p.d = .agg [.int .i64 p.F,.sl 1 (us p.init),.sl 1 (us p.xW),.sl 1 (uH p.xO),.sl 1 (uG p.code)]:=rfl;rw [hD] at *;refine xI func18 FJ λhf=>?_;refine zC ?_;refine .go (cr hS) ?_;by_cases s0:wN p=0
 case neg=>
  have s0':(wN p != 0)= true:=by simpa using s0
  rw [show uA p=wN p by unfold uA; rw [if_pos s0]];refine xG s0' ?_;exact .dv
 have s0':(wN p != 0)= false:=by simpa using s0
 have hch:uA p=if wQ (wQ (mS p)) p.xO≠0 then wQ (wQ (mS p)) p.xO else wQ (wQ (jO p)) p.code:=by unfold uA; rw [s0,if_neg (by simp)]
 have hsm:p.xO.length<=8/\∀ s ∈ p.code,s.length<=6:=by
  unfold wN at s0
  split at s0
  ·cases s0
  ·split at s0
   ·cases s0
   ·rename_i h;simp only [not_or] at h;refine⟨by omega,λs hs=>?_⟩;have:=ζ.1 (Bool.eq_false_iff.2 h.2.2.2) s hs;simpa using this
 refine xG s0' ?_
 refine xU (λk:Nat=>[(4,.int .i64 k),(1,.ref 0 5 0 0)]) (λ_=>⟨1,[(0,⟨5,[p.cells]⟩)]⟩)
  (λk=>k<=p.xO.length/\wQ (wQ (mS p)) p.xO=wQ (wQ (mS p)) (p.xO.drop k)) (λk=>p.xO.length-k) 0 ⟨η _,rfl⟩ ?_ ?_
 ·unfold yT.cells; (refine yR.same ?_; simp [yS,Fr.get])
 intro k ⟨hk,hi⟩;refine xN mixed ?_;by_cases hkl:k<p.xO.length
 case pos=>
  have hd:((k:Int)<(p.xO.length:Int)):=by omega
  rw [pM (d:=[]) _ hkl] at hi;have hg:=iC p.xO hkl;have hs:=sm.mv _ (xK (d:=[]) hkl);generalize p.xO.getD k []=s at hi hg hs;unfold yT.cells;refine yM hd yF ?_
  refine xU (λj:Nat=>[(5,.int .i64 j),(4,.int .i64 k),(1,.ref 0 5 0 0)]) (λ_=>⟨1,[(0,⟨5,[p.cells]⟩)]⟩)
   (λj=>j<=s.length/\wQ (mS p) s=wQ (mS p) (s.drop j)) (λj=>s.length-j) 0 ⟨η _,rfl⟩ ?_ ?_
  ·unfold yT.cells; (refine yR.same ?_; simp [yS,Fr.get])
  intro j ⟨hj,hi2⟩;refine xN mixed ?_;by_cases hjl:j<s.length
  case neg=>
   have hd2:¬ ((j:Int)<(s.length:Int)):=by omega
   have h0:wQ (mS p) s=0:=by rw [hi2,γ (by omega)]; rfl
   rw [h0,if_neg (by simp)] at hi;unfold yT.cells;refine qP hd2 hd yF hg vT ?_;refine⟨k+1,⟨by omega,hi⟩,?_,by omega⟩;exact yH
  have hd2:((j:Int)<(s.length:Int)):=by omega
  rw [pM (d:=aO) _ hjl] at hi2;have hg2:=kU s hjl;unfold fQ.row at hg2;generalize s.getD j aO=a at hi2 hg2;have hend:mS p a≠0->uA p=mS p a:=λh=>by rw [hch,hi,hi2,if_pos h,if_pos h,if_pos h]
  unfold yT.cells;have hFa:=hF a.to 0
  by_cases c1:a.fact<0
  ·have e:mS p a=2:=by unfold mS; rw [if_pos (.inl c1)]
   rw [hend (by rw [e]; decide),e];refine uc hd2 hd yF hg vT hg2 c1 ?_;exact .dv
  by_cases c2:p.F<=a.fact
  ·have e:mS p a=2:=by unfold mS; rw [if_pos (.inr c2)]
   rw [hend (by rw [e]; decide),e];refine lE hd2 hd yF hg vT hg2 c1 c2 ?_;exact .dv
  have e:mS p a=vq p a.to 0:=by unfold mS; rw [if_neg (by omega)]
  rw [<- e] at hFa;refine lE hd2 hd yF hg vT hg2 c1 c2 ?_;refine .go (cr hFa) ?_
  by_cases c3:mS p a=0
  ·have c3':(mS p a != 0)= false:=by simpa using c3
   rw [c3,if_neg (by simp)] at hi2;refine xG c3' ?_;refine⟨j+1,⟨by omega,hi2⟩,?_,by omega⟩;exact kC [] [0]
  ·have c3':(mS p a != 0)= true:=by simpa using c3
   rw [hend c3];refine xG c3' ?_;exact .dv
 have hd:¬ ((k:Int)<(p.xO.length:Int)):=by omega
 have d1:wQ (wQ (mS p)) p.xO=0:=by rw [hi,γ (by omega)]; rfl
 rw [hch,d1,if_neg (by simp)];unfold yT.cells;refine yM hd yF ?_;clear hk hkl hd hi
 refine xU (λk:Nat=>[(7,.int .i64 k),(1,.ref 0 5 0 0)]) (λ_=>⟨1,[(0,⟨5,[p.cells]⟩)]⟩)
  (λk=>k<=p.code.length/\wQ (wQ (jO p)) p.code=wQ (wQ (jO p)) (p.code.drop k)) (λk=>p.code.length-k) 0 ⟨η _,rfl⟩ ?_ ?_
 ·unfold yT.cells; (refine yR.same ?_; simp [yS,Fr.get])
 have hcl:=sm.code;intro k ⟨hk,hi⟩;refine xN mixed ?_;by_cases hkl:k<p.code.length
 case neg=>
  have hd:¬ ((k:Int)<(p.code.length:Int)):=by omega
  rw [hi,γ (by omega)];unfold yT.cells;refine yM hd zH ?_;exact .drop (by simp) (by simp [vw,wQ])
 have hd:((k:Int)<(p.code.length:Int)):=by omega
 rw [pM (d:=[]) _ hkl] at hi;have hg:=iA p.code hkl;have hs:=hsm.2 _ (xK (d:=[]) hkl);generalize p.code.getD k []=s at hi hg hs;unfold yT.cells;refine yM hd zH ?_
 refine xU (λj:Nat=>[(8,.int .i64 j),(7,.int .i64 k),(1,.ref 0 5 0 0)]) (λ_=>⟨1,[(0,⟨5,[p.cells]⟩)]⟩)
  (λj=>j<=s.length/\wQ (jO p) s=wQ (jO p) (s.drop j)) (λj=>s.length-j) 0 ⟨η _,rfl⟩ ?_ ?_
 ·unfold yT.cells; (refine yR.same ?_; simp [yS,Fr.get])
 intro j ⟨hj,hi2⟩;refine xN mixed ?_;by_cases hjl:j<s.length
 case neg=>
  have hd2:¬ ((j:Int)<(s.length:Int)):=by omega
  have h0:wQ (jO p) s=0:=by rw [hi2,γ (by omega)]; rfl
  rw [h0,if_neg (by simp)] at hi;unfold yT.cells;refine qP hd2 hd zH hg vK ?_;refine⟨k+1,⟨by omega,hi⟩,?_,by omega⟩;exact yH
 have hd2:((j:Int)<(s.length:Int)):=by omega
 rw [pM (d:=j9) _ hjl] at hi2;have hg2:=xn s hjl;unfold bP.row at hg2;generalize s.getD j j9=c at hi2 hg2;have hend:jO p c≠0->wQ (wQ (jO p)) p.code=jO p c:=λh=>by rw [hi,hi2,if_pos h,if_pos h]
 unfold yT.cells;refine oH hd2 hd zH hg vK hg2 ?_;refine .go (cr (hF c.test 15)) ?_;by_cases e1:vq p c.test 15=0
 case neg=>
  have e1':(vq p c.test 15 != 0)= true:=by simpa using e1
  have e:jO p c=vq p c.test 15:=by unfold jO; rw [if_pos e1]
  rw [hend (by rw [e]; exact e1),e];refine xG e1' ?_;exact .dv
 have e1':(vq p c.test 15 != 0)= false:=by simpa using e1
 by_cases e2:c.mv < -1
 ·have e:jO p c=2:=by unfold jO; rw [e1,if_neg (by simp),if_pos (.inl e2)]
  rw [hend (by rw [e]; decide),e];refine lE e1' hd zH hg hd2 vK hg2 e2 ?_;exact .dv
 by_cases e3:(p.xO.length:Int)<=c.mv
 ·have e:jO p c=2:=by unfold jO; rw [e1,if_neg (by simp),if_pos (.inr e3)]
  rw [hend (by rw [e]; decide),e];refine qN e1' hd zH hg hd2 vK hg2 e2 yF e3 ?_;exact .dv
 have e:jO p c=0:=by unfold jO; rw [e1,if_neg (by simp),if_neg (by omega)]
 rw [e,if_neg (by simp)] at hi2;refine qN e1' hd zH hg hd2 vK hg2 e2 yF e3 ?_;refine⟨j+1,⟨by omega,hi2⟩,?_,by omega⟩;exact yH
open Rs Fm Ru Kb
namespace Kb
structure sV where
 ag:Int
 seen:List (BitVec 64)
 mv:Int
def jz : sV:=⟨0,[],0⟩
def sV.row (c:sV):List D:=[.int .i64 c.ag,.sl 1 (us c.seen),.int .i64 c.mv]
def pQ (l:List sV):List (List D):=l.map sV.row
theorem vJ (l:List sV):(pQ l).length=l.length:=by simp [pQ]
theorem xm (l:List sV) {i:Nat} (h:i<l.length):(pQ l).getD i []=(l.getD i jz).row:=by simp [pQ,List.getD,h]
theorem Q8 (l:List sV):∀ e ∈ pQ l,D.xR e=true:=by intro e he;simp only [pQ,List.mem_map] at he;obtain⟨c,_,rfl⟩:=he;rfl
def ar (s:List fQ):Bool:=decide (12<s.length) || s.any λa=>decide (40<a.to.length)
def b7 (s:List bP):Bool:=decide (8<s.length) || s.any λc=>decide (40<c.test.length)
def jZ (p:yT) (l:List sV):Bool:=
 decide (p.init.length<=20)&& decide (p.xO.length<=12)&& decide (p.code.length<=8)&& decide (p.xW.length<=8)&& decide (l.length<=100)&&
 !p.xO.any ar&&!p.code.any b7&&!l.any λc=>decide (12<c.seen.length)
end Kb
theorem Tl {p:yT} {l:List sV} (h:jZ p l=true):oY p:=by unfold jZ at h;simp only [Bool.and_eq_true,decide_eq_true_eq,Bool.not_eq_true'] at h;refine⟨by omega,by omega,λs hs=>?_⟩;have:=ζ.1 h.1.1.2 s hs;unfold ar at this;simp only [Bool.or_eq_true,decide_eq_true_eq,not_or] at this;omega
theorem KB (p:yT) (l:List sV):xA prog 16 [p.d,.sl 3 (pQ l)] (.bool (jZ p l)):=by
 have hD:p.d = .agg [.int .i64 p.F,.sl 1 (us p.init),.sl 1 (us p.xW),.sl 1 (uH p.xO),.sl 1 (uG p.code)]:=rfl;rw [hD];refine xI func16 FH λhf=>?_
 by_cases a1:20<p.init.length
 ·have a1':(20:Int)<(p.init.length:Int):=by omega
  rw [show jZ p l=false by unfold jZ; rw [decide_eq_false (show ¬ p.init.length<=20 by omega)]; simp];refine yM xT a1' ?_;exact .dv
 have a1':¬ (20:Int)<(p.init.length:Int):=by omega
 by_cases a2:12<p.xO.length
 ·have a2':(12:Int)<(p.xO.length:Int):=by omega
  rw [show jZ p l=false by unfold jZ; rw [decide_eq_false (show ¬ p.xO.length<=12 by omega)]; simp];refine cI xT yF a1' a2' ?_;exact .dv
 have a2':¬ (12:Int)<(p.xO.length:Int):=by omega
 by_cases a3:8<p.code.length
 ·have a3':(8:Int)<(p.code.length:Int):=by omega
  rw [show jZ p l=false by unfold jZ; rw [decide_eq_false (show ¬ p.code.length<=8 by omega)]; simp];refine Jz xT yF zH a1' a2' a3' ?_;exact .dv
 have a3':¬ (8:Int)<(p.code.length:Int):=by omega
 by_cases a4:8<p.xW.length
 ·have a4':(8:Int)<(p.xW.length:Int):=by omega
  rw [show jZ p l=false by unfold jZ; rw [decide_eq_false (show ¬ p.xW.length<=8 by omega)]; simp];refine TF xT yF zH a1' a2' a3' a4' ?_;exact .dv
 have a4':¬ (8:Int)<(p.xW.length:Int):=by omega
 by_cases a5:100<l.length
 ·have a5':(100:Int)<(l.length:Int):=by omega
  rw [show jZ p l=false by unfold jZ; rw [decide_eq_false (show ¬ l.length<=100 by omega)]; simp];refine LJ xT yF zH vJ a1' a2' a3' a4' a5' ?_;exact .dv
 have a5':¬ (100:Int)<(l.length:Int):=by omega
 have hfe:jZ p l=(!p.xO.any ar&&!p.code.any b7&&!l.any λc=>decide (12<c.seen.length)):=by unfold jZ;rw [decide_eq_true (show p.init.length<=20 by omega),decide_eq_true (show p.xO.length<=12 by omega),decide_eq_true (show p.code.length<=8 by omega),decide_eq_true (show p.xW.length<=8 by omega),decide_eq_true (show l.length<=100 by omega)];rfl
 refine LJ xT yF zH vJ a1' a2' a3' a4' a5' ?_
 refine xU (λk:Nat=>[(5,.int .i64 k),(2,.ref 0 5 0 0),(1,.sl 3 (pQ l))]) (λ_=>⟨1,[(0,⟨5,[p.cells]⟩)]⟩)
  (λk=>k<=p.xO.length/\p.xO.any ar=(p.xO.drop k).any ar) (λk=>p.xO.length-k) 0 ⟨η _,rfl⟩ ?_ ?_
 ·unfold yT.cells; (refine yR.same ?_; simp [yS,Fr.get])
 intro k ⟨hk,hi⟩;refine xN mixed ?_;by_cases hkl:k<p.xO.length
 case pos=>
  have hd:((k:Int)<(p.xO.length:Int)):=by omega
  rw [drop_cons (d:=[]) hkl,δ] at hi;have hg:=iC p.xO hkl;generalize p.xO.getD k []=s at hi hg;have hend:ar s=true->jZ p l=false:=λh=>by rw [hfe,hi,h]; rfl
  unfold yT.cells
  by_cases c1:12<s.length
  ·have c1':(12:Int)<(s.length:Int):=by omega
   rw [hend (by unfold ar; rw [decide_eq_true c1,μ])];refine qP hd yF hg vT c1' ?_;exact .dv
  have c1':¬ (12:Int)<(s.length:Int):=by omega
  have hb:ar s=s.any λa=>decide (40<a.to.length):=by unfold ar; rw [decide_eq_false c1,κ]
  refine qP hd yF hg vT c1' ?_
  refine xU (λj:Nat=>[(6,.int .i64 j),(5,.int .i64 k),(2,.ref 0 5 0 0),(1,.sl 3 (pQ l))]) (λ_=>⟨1,[(0,⟨5,[p.cells]⟩)]⟩)
   (λj=>j<=s.length/\(s.any λa=>decide (40<a.to.length))= (s.drop j).any λa=>decide (40<a.to.length)) (λj=>s.length-j) 0 ⟨η _,rfl⟩ ?_ ?_
  ·unfold yT.cells; (refine yR.same ?_; simp [yS,Fr.get])
  intro j ⟨hj,hi2⟩;refine xN mixed ?_;by_cases hjl:j<s.length
  case neg=>
   have hd2:¬ ((j:Int)<(s.length:Int)):=by omega
   rw [γ (by omega),ε] at hi2;rw [hb,hi2,κ] at hi;unfold yT.cells;refine qP hd2 hd yF hg vT ?_;refine⟨k+1,⟨by omega,hi⟩,?_,by omega⟩;exact yH
  have hd2:((j:Int)<(s.length:Int)):=by omega
  rw [drop_cons (d:=aO) hjl,δ] at hi2;have hg2:=kU s hjl;unfold fQ.row at hg2;generalize s.getD j aO=a at hi2 hg2;unfold yT.cells
  by_cases c2:40<a.to.length
  ·have c2':(40:Int)<(a.to.length:Int):=by omega
   rw [hend (by rw [hb,hi2,decide_eq_true c2,μ])];refine lE hd2 hd yF hg vT hg2 xM c2' ?_;exact .dv
  have c2':¬ (40:Int)<(a.to.length:Int):=by omega
  rw [decide_eq_false c2,κ] at hi2;refine lE hd2 hd yF hg vT hg2 xM c2' ?_;refine⟨j+1,⟨by omega,hi2⟩,?_,by omega⟩;exact yH
 have hd:¬ ((k:Int)<(p.xO.length:Int)):=by omega
 rw [γ (by omega),ε] at hi;rw [hi] at hfe;clear hk hkl hi;unfold yT.cells;refine yM hd yF ?_;clear hd
 refine xU (λk:Nat=>[(7,.int .i64 k),(2,.ref 0 5 0 0),(1,.sl 3 (pQ l))]) (λ_=>⟨1,[(0,⟨5,[p.cells]⟩)]⟩)
  (λk=>k<=p.code.length/\p.code.any b7=(p.code.drop k).any b7) (λk=>p.code.length-k) 0 ⟨η _,rfl⟩ ?_ ?_
 ·unfold yT.cells; (refine yR.same ?_; simp [yS,Fr.get])
 intro k ⟨hk,hi⟩;refine xN mixed ?_;by_cases hkl:k<p.code.length
 case pos=>
  have hd:((k:Int)<(p.code.length:Int)):=by omega
  rw [drop_cons (d:=[]) hkl,δ] at hi;have hg:=iA p.code hkl;generalize p.code.getD k []=s at hi hg;have hend:b7 s=true->jZ p l=false:=λh=>by rw [hfe,hi,h]; rfl
  unfold yT.cells
  by_cases c1:8<s.length
  ·have c1':(8:Int)<(s.length:Int):=by omega
   rw [hend (by unfold b7; rw [decide_eq_true c1,μ])];refine qP hd zH hg vK c1' ?_;exact .dv
  have c1':¬ (8:Int)<(s.length:Int):=by omega
  have hb:b7 s=s.any λa=>decide (40<a.test.length):=by unfold b7; rw [decide_eq_false c1,κ]
  refine qP hd zH hg vK c1' ?_
  refine xU (λj:Nat=>[(8,.int .i64 j),(7,.int .i64 k),(2,.ref 0 5 0 0),(1,.sl 3 (pQ l))]) (λ_=>⟨1,[(0,⟨5,[p.cells]⟩)]⟩)
   (λj=>j<=s.length/\(s.any λa=>decide (40<a.test.length))= (s.drop j).any λa=>decide (40<a.test.length)) (λj=>s.length-j) 0 ⟨η _,rfl⟩ ?_ ?_
  ·unfold yT.cells; (refine yR.same ?_; simp [yS,Fr.get])
  intro j ⟨hj,hi2⟩;refine xN mixed ?_;by_cases hjl:j<s.length
  case neg=>
   have hd2:¬ ((j:Int)<(s.length:Int)):=by omega
   rw [γ (by omega),ε] at hi2;rw [hb,hi2,κ] at hi;unfold yT.cells;refine qP hd2 hd zH hg vK ?_;refine⟨k+1,⟨by omega,hi⟩,?_,by omega⟩;exact yH
  have hd2:((j:Int)<(s.length:Int)):=by omega
  rw [drop_cons (d:=j9) hjl,δ] at hi2;have hg2:=xn s hjl;unfold bP.row at hg2;generalize s.getD j j9=a at hi2 hg2;unfold yT.cells
  by_cases c2:40<a.test.length
  ·have c2':(40:Int)<(a.test.length:Int):=by omega
   rw [hend (by rw [hb,hi2,decide_eq_true c2,μ])];refine lE hd2 hd zH hg vK hg2 xM c2' ?_;exact .dv
  have c2':¬ (40:Int)<(a.test.length:Int):=by omega
  rw [decide_eq_false c2,κ] at hi2;refine lE hd2 hd zH hg vK hg2 xM c2' ?_;refine⟨j+1,⟨by omega,hi2⟩,?_,by omega⟩;exact yH
 have hd:¬ ((k:Int)<(p.code.length:Int)):=by omega
 rw [γ (by omega),ε] at hi;rw [hi] at hfe;clear hk hkl hi;unfold yT.cells;refine yM hd zH ?_;clear hd
 refine xU (λk:Nat=>[(9,.int .i64 k),(1,.sl 3 (pQ l))]) (λ_=>⟨1,[(0,⟨5,[p.cells]⟩)]⟩)
  (λk=>k<=l.length/\(l.any λc=>decide (12<c.seen.length))= (l.drop k).any λc=>decide (12<c.seen.length)) (λk=>l.length-k) 0 ⟨η _,rfl⟩ ?_ ?_
 ·unfold yT.cells; (refine yR.same ?_; simp [yS,Fr.get])
 intro k ⟨hk,hi⟩;refine xN mixed ?_;by_cases hkl:k<l.length
 case pos=>
  have hd:((k:Int)<(l.length:Int)):=by omega
  rw [drop_cons (d:=jz) hkl,δ] at hi;have hg:=xm l hkl;unfold sV.row at hg;generalize l.getD k jz=s at hi hg;unfold yT.cells
  by_cases c1:12<s.seen.length
  ·have c1':(12:Int)<(s.seen.length:Int):=by omega
   rw [show jZ p l=false by rw [hfe,hi,decide_eq_true c1]; rfl];refine qP hd vJ hg xT c1' ?_;exact .dv
  have c1':¬ (12:Int)<(s.seen.length:Int):=by omega
  rw [decide_eq_false c1,κ] at hi;refine qP hd vJ hg xT c1' ?_;refine⟨k+1,⟨by omega,hi⟩,?_,by omega⟩;exact yH
 have hd:¬ ((k:Int)<(l.length:Int)):=by omega
 rw [γ (by omega),ε] at hi;rw [hfe,hi];unfold yT.cells;refine yM hd vJ ?_;exact .dv
end Go.Pd
