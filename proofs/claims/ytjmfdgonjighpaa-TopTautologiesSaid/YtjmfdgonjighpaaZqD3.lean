/- Part D3. -/
import Derived.Test.YtjmfdgonjighpaaZqB6
import Derived.Test.YtjmfdgonjighpaaZqBF
set_option linter.unusedSectionVars false
set_option linter.unusedVariables false
set_option linter.unusedSimpArgs false
set_option linter.defProp false
set_option maxRecDepth 20000
set_option maxHeartbeats 1000000
open Go.Proofs.Try
open List renaming length_append->γ,length_singleton->δ,drop_eq_nil_of_le->ε,length_cons->ζ
open Bool renaming false_and->η,true_and->θ,and_eq_true->κ
open Nat renaming le_refl->μ,two_pow_pos->ν,pow_succ->ξ
open Int renaming eq_ofNat_of_zero_le->ο,toNat_natCast->π
namespace Go.Pd
open Go Go.Proofs
open BitVec renaming isValue -> ZA
open Rs
namespace Rs
def wE (m:Int):List Ln->Int->Bool
 | [],_=>true
 | p :: r,i=>uU i m p&&wE m r (i+1)
theorem nD {m:Int}:∀ {ls:List Ln} {i:Int},wE m ls i=true->∀ k,k<ls.length->uU (i+k) m (ls.getD k tV)= true
 | [],_,_,k,hk=>by simp at hk
 | p :: r,i,h,k,hk=>by
  rw [wE,κ] at h
  cases k with
  | zero=>simpa using h.1
  | succ k=> have:=nD h.2 k (by simp at hk; omega);rw [List.getD_cons_succ,show i+((k+1:Nat):Int)= i+1+k by omega];exact this
def oN (n:Int) (l:List (List Int)) (ls:List Ln):Int:=if vY n l≠0 then vY n l else if wE l.length ls 0=false then 3 else if ls.all (uE l ls)= false then 13 else if ls = []\/(ls.getD (ls.length-1) tV).cl ≠ [] then 13 else 0
end Rs
theorem TR (n:Int) (l:List (List Int)) (ls:List Ln):zX prog 11 [.int .i64 n,.sl 1 (rl l),.sl 4 (mC ls)] (.int .i64 (oN n l ls)):=by
 refine yS func11 L4 λhf=>?_;simp only [D.pJ,D.fact,wJ] at hf;have hlen:=hf.2.2.1.1;refine xB ?_;refine .go (cr (ir n l)) ?_;by_cases hc:vY n l=0
 case neg=>
  have e:(vY n l != 0)= true:=by simpa using hc
  refine yK e ?_;rw [show oN n l ls=vY n l from if_pos hc];exact .same
 have e:(vY n l != 0)= false:=by simpa using hc
 obtain⟨h1,h2,h3,h4⟩:=qZ hc;have ev:oN n l ls=if wE l.length ls 0=false then 3 else if ls.all (uE l ls)= false then 13 else if ls = []\/(ls.getD (ls.length-1) tV).cl ≠ [] then 13 else 0:=if_neg (by omega);rw [ev];refine yK e ?_
 refine yM (λk:Nat=>[(22,.int .i64 k),(21,.int .i64 ls.length),(20,.sl 4 (mC ls)),(2,.sl 4 (mC ls)),(1,.sl 1 (rl l))]) (λ_=>⟨0,[]⟩) (λk=>k<=ls.length/\wE l.length ls 0=wE l.length (ls.drop k) k) (λk=>ls.length-k) 0 ⟨Nat.zero_le _,rfl⟩ ?_ ?_
 ·(refine yJ.same ?_; simp [vI,Fr.get,wJ])
 intro k ⟨hk,hi⟩;refine wH mixed ?_
 by_cases h:k<ls.length
 ·have hd:((k:Int)<(ls.length:Int)):=by omega
  rw [drop_cons (d:=tV) h,wE] at hi;have hg:=mS ls h;generalize ls.getD k tV=p at hg hi
  cases hx:uU k l.length p
  ·rw [hx,η] at hi;rw [if_pos hi]
   by_cases h1:p.lf = -1
   ·have e1:(p.lf == -1)= true:=by simpa using h1
    by_cases h2:p.rt<0
    ·simp only [simprocAttr,-ZA,↓zU,↓zD,zV,zT,zW,hd,wJ,tI,hg,rW,e1,h2]
     (repeat refine sd ?_)
     exact .dv
    ·by_cases h3:(l.length:Int)<=p.rt
     ·simp only [simprocAttr,-ZA,↓zU,↓zD,zV,zT,zW,hd,wJ,tI,hg,rW,e1,h2,h3]
      (repeat refine sd ?_)
      exact .dv
     ·have h4:p.on≠0:=λh4=>by rw [uU,if_pos h1,h4] at hx;simp at hx; omega
      have e4:(p.on != 0)= true:=bne_iff_ne.2 h4;simp only [simprocAttr,-ZA,↓zU,↓zD,zV,zT,zW,hd,wJ,tI,hg,rW,e1,h2,h3,e4]
      (repeat refine sd ?_)
      exact .dv
   ·have e1:(p.lf == -1)= false:=by simpa using h1
    have e1':(p.lf != -1)= true:=bne_iff_ne.2 h1
    by_cases h2:p.lf<0
    ·simp only [simprocAttr,-ZA,↓zU,↓zD,zV,zT,zW,hd,wJ,tI,hg,rW,e1,e1',h2]
     (repeat refine sd ?_)
     exact .dv
    ·by_cases h3:(k:Int)<=p.lf
     ·simp only [simprocAttr,-ZA,↓zU,↓zD,zV,zT,zW,hd,wJ,tI,hg,rW,e1,e1',h2,h3]
      (repeat refine sd ?_)
      exact .dv
     ·by_cases h4:p.rt<0
      ·simp only [simprocAttr,-ZA,↓zU,↓zD,zV,zT,zW,hd,wJ,tI,hg,rW,e1,e1',h2,h3,h4]
       (repeat refine sd ?_)
       exact .dv
      ·have h5:(k:Int)<=p.rt:=by rw [uU,if_neg h1] at hx;simp at hx; omega
       simp only [simprocAttr,-ZA,↓zU,↓zD,zV,zT,zW,hd,wJ,tI,hg,rW,e1,e1',h2,h3,h4,h5]
       (repeat refine sd ?_)
       exact .dv
  ·rw [hx,θ] at hi
   by_cases h1:p.lf = -1
   ·have e1:(p.lf == -1)= true:=by simpa using h1
    have e1':(p.lf != -1)= false:=by simpa using h1
    simp only [uU,if_pos h1,κ,decide_eq_true_eq] at hx;have h2:¬ p.rt<0:=by omega
    have h3:¬ (l.length:Int)<=p.rt:=by omega
    have e4:(p.on != 0)= false:=by simpa using hx.2
    simp only [simprocAttr,-ZA,↓zU,↓zD,zV,zT,zW,hd,wJ,tI,hg,rW,e1,e1',h2,h3,e4]
    (repeat refine sd ?_)
    refine⟨k+1,⟨by omega,hi⟩,?_,by omega⟩
    (refine yJ.view (λk=>k) (by simp) (by simp) ?_ (by simp [stays]) (by simp [wQ]); simp [aK,vw,sV,Fr.get])
    exact wrap_i64 (by omega)
   ·have e1:(p.lf == -1)= false:=by simpa using h1
    have e1':(p.lf != -1)= true:=bne_iff_ne.2 h1;simp only [uU,if_neg h1,κ,decide_eq_true_eq] at hx;have h2:¬ p.lf<0:=by omega
    have h3:¬ (k:Int)<=p.lf:=by omega
    have h4:¬ p.rt<0:=by omega
    have h5:¬ (k:Int)<=p.rt:=by omega
    simp only [simprocAttr,-ZA,↓zU,↓zD,zV,zT,zW,hd,wJ,tI,hg,rW,e1,e1',h2,h3,h4,h5]
    (repeat refine sd ?_)
    refine⟨k+1,⟨by omega,hi⟩,?_,by omega⟩
    (refine yJ.view (λk=>k) (by simp) (by simp) ?_ (by simp [stays]) (by simp [wQ]); simp [aK,vw,sV,Fr.get])
    exact wrap_i64 (by omega)
 have hd:¬ ((k:Int)<(ls.length:Int)):=by omega
 rw [ε (by omega),wE] at hi;have hform:=nD hi;rw [if_neg (by rw [hi]; simp)];refine sC hd wJ ?_
 refine yM (λk:Nat=>[(76,.int .i64 k),(75,.int .i64 ls.length),(74,.sl 4 (mC ls)),(2,.sl 4 (mC ls)),(1,.sl 1 (rl l))]) (λ_=>⟨0,[]⟩) (λk=>k<=ls.length/\ls.all (uE l ls)= (ls.drop k).all (uE l ls)) (λk=>ls.length-k) 0 ⟨Nat.zero_le _,rfl⟩ ?_ ?_
 ·(refine yJ.same ?_; simp [vI,Fr.get,wJ])
 clear hk hi h hd;intro k ⟨hk,hi⟩;refine wH mixed ?_
 by_cases h:k<ls.length
 ·have hd:((k:Int)<(ls.length:Int)):=by omega
  rw [drop_cons (d:=tV) h,List.all_cons] at hi;have hfk:=hform k h;rw [Int.zero_add] at hfk;have hg:=mS ls h;generalize ls.getD k tV=p at hg hi hfk
  by_cases h1:p.lf = -1
  ·have e1:(p.lf == -1)= true:=by simpa using h1
   obtain⟨i1,i2⟩:=nr hfk h1;obtain⟨j,hj⟩:=ο i1;have hgj:=kl l (show j<l.length by omega);have er:uE l ls p=decide (p.cl=l.getD j []):=by rw [uE,if_pos h1,hj,π]
   rw [er] at hi;simp only [simprocAttr,-ZA,↓zU,↓zD,zV,zT,zW,hd,wJ,tI,hg,rW,e1,hj,hgj]
   (repeat refine sd ?_)
   refine .go (xU.yU (Zt p.cl (l.getD j [])) (by simp [D.xT,D.xO])) ?_
   by_cases h5:p.cl=l.getD j []
   ·rw [decide_eq_true h5,θ] at hi;simp only [simprocAttr,-ZA,↓zU,↓zD,zV,zT,zW,decide_eq_true h5];refine⟨k+1,⟨by omega,hi⟩,?_,by omega⟩
    (refine yJ.view (λk=>k) (by simp) (by simp) ?_ (by simp [stays]) (by simp [wQ]); simp [aK,vw,sV,Fr.get])
    exact wrap_i64 (by omega)
   ·rw [decide_eq_false h5,η] at hi;simp only [simprocAttr,-ZA,↓zU,↓zD,zV,zT,zW,decide_eq_false h5];rw [if_pos hi];exact .dv
  ·have e1:(p.lf == -1)= false:=by simpa using h1
   obtain⟨⟨i1,i2⟩,i3,i4⟩:=aQ hfk h1;obtain⟨x,hx⟩:=ο i1;obtain⟨y,hy⟩:=ο i3;have hgx:=mS ls (show x<ls.length by omega);have hgy:=mS ls (show y<ls.length by omega);have er:uE l ls p=(decide ((zF (ls.getD x tV).cl (ls.getD y tV).cl p.on).2=0)&& decide (p.cl=(zF (ls.getD x tV).cl (ls.getD y tV).cl p.on).1)):=by rw [uE,if_neg h1,hx,hy,π,π]
   rw [er] at hi;simp only [simprocAttr,-ZA,↓zU,↓zD,zV,zT,zW,hd,wJ,tI,hg,rW,e1,hx,hy,hgx,hgy]
   (repeat refine sd ?_)
   refine .go (xU.yU (mj (ls.getD x tV).cl (ls.getD y tV).cl p.on) (by simp [D.xT,D.xO])) ?_;generalize zF (ls.getD x tV).cl (ls.getD y tV).cl p.on=q at hi
   by_cases h5:q.2=0
   ·have e5:(q.2 != 0)= false:=by simpa using h5
    rw [decide_eq_true h5,θ] at hi;refine j4 e5 ?_;refine .go (cr (Zt q.1 p.cl)) ?_
    by_cases h6:p.cl=q.1
    ·rw [decide_eq_true h6,θ] at hi;simp only [simprocAttr,-ZA,↓zU,↓zD,zV,zT,zW,decide_eq_true h6.symm];refine⟨k+1,⟨by omega,hi⟩,?_,by omega⟩
     (refine yJ.view (λk=>k) (by simp) (by simp) ?_ (by simp [stays]) (by simp [wQ]); simp [aK,vw,sV,Fr.get])
     exact wrap_i64 (by omega)
    ·rw [decide_eq_false h6,η] at hi;simp only [simprocAttr,-ZA,↓zU,↓zD,zV,zT,zW,decide_eq_false (show ¬ q.1=p.cl from λe=>h6 e.symm)];rw [if_pos hi];exact .dv
   ·have e5:(q.2 != 0)= true:=bne_iff_ne.2 h5;rw [decide_eq_false h5,η,η] at hi;refine j4 e5 ?_;rw [if_pos hi];exact .dv
 have hd:¬ ((k:Int)<(ls.length:Int)):=by omega
 rw [ε (by omega),List.all_nil] at hi;rw [if_neg (by rw [hi]; simp)]
 by_cases hz:ls.length=0
 ·have hz0:((ls.length:Int)== 0)= true:=by simpa using hz
  refine zl hd wJ hz0 ?_;rw [if_pos (.inl (List.length_eq_zero_iff.1 hz))];exact .same
 ·have hz0:((ls.length:Int)== 0)= false:=by simpa using hz
  have el:IntKind.i64.wrap ((ls.length:Int)-1)= ((ls.length-1:Nat):Int):=by rw [wrap_i64 (by omega)]; omega
  have hgl:=mS ls (show ls.length-1<ls.length by omega);have zL:ls ≠ []:=λh=>hz (by rw [h]; rfl)
  by_cases hcl:(ls.getD (ls.length-1) tV).cl = []
  ·have e7:(((ls.getD (ls.length-1) tV).cl.length:Int) != 0)= false:=by rw [hcl]; rfl
   simp only [simprocAttr,-ZA,↓zU,↓zD,zV,zT,zW,hd,wJ,hz0,el,hgl,rW,e7]
   (repeat refine sd ?_)
   rw [if_neg (by rintro (h | h); exact zL h; exact h hcl)];exact .same
  ·have e7:(((ls.getD (ls.length-1) tV).cl.length:Int) != 0)= true:=by have:=List.length_pos_iff.2 hcl;exact bne_iff_ne.2 (by omega)
   simp only [simprocAttr,-ZA,↓zU,↓zD,zV,zT,zW,hd,wJ,hz0,el,hgl,rW,e7]
   (repeat refine sd ?_)
   rw [if_pos (.inr hcl)];exact .same
open Rs
namespace Rs
structure RS where
 ls:List Ln
 us:List (Int × Int)
theorem Zl {x y:Int} {u:List (Int × Int)} (h:qG x (mo u) 0=none):ff (mo u) x (.int .i64 y)= mo (u ++ [(x,y)]):=by unfold ff;rw [h];simp [mo]
def uL (l:List (List Int)) (i:Nat) (s:RS):Int × RS:=match zZ i s.us with
 | some y=>(y,s)
 | none=>(s.ls.length,⟨s.ls ++ [⟨l.getD i [],-1,i,0⟩],s.us ++ [((i:Int),(s.ls.length:Int))]⟩)
structure lj (n : Int) (l : List (List Int)) (σ : St) (s : RS) : Prop where
 hn:2<=σ.nx
 ex:∃ key,2<=key/\St.look σ.xX 1=some ⟨4,[[.int .i64 n,.sl 1 (rl l),xJ key 4 (mC s.ls),.yV 0]]⟩/\ St.look σ.xX key=wW 4 (mC s.ls)/\ St.look σ.xX 0=some ⟨0,oX .i64 (mo s.us)⟩
end Rs
namespace Rs
theorem az (ls:List Ln) (c:List Int) (a b v:Int):mC ls ++ [[.sl 1 (rows .i64 c),.int .i64 a,.int .i64 b,.int .i64 v]]=mC (ls ++ [⟨c,a,b,v⟩]):=by simp [mC,rW]
theorem Y5 (ls:List Ln) (p:Ln):∃ e r,mC (ls ++ [p])= e :: r:=by
 cases h:mC (ls ++ [p]) with
 | nil=>simp [mC] at h
 | cons e r=>exact⟨e,r,rfl⟩
def VZ (n:Int) (l:List (List Int)) (nx:Nat) (xX:List (Nat × Ob)) (key:Nat) (ls:List Ln):St:=⟨nx+1,yX nx 4 (mC ls)++ wO (yE xX key) 1 ⟨4,[[.int .i64 n,.sl 1 (rl l),xJ nx 4 (mC ls),.yV 0]]⟩⟩
def V7 (n:Int) (l:List (List Int)) (nx:Nat) (xX:List (Nat × Ob)) (key:Nat) (ls:List Ln) (u:List (Int × Int)):St:=⟨nx+1,yX nx 4 (mC ls)++ wO (wO (yE xX key) 1 ⟨4,[[.int .i64 n,.sl 1 (rl l),xJ nx 4 (mC ls),.yV 0]]⟩) 0 ⟨0,oX .i64 (mo u)⟩⟩
theorem WD {n:Int} {l:List (List Int)} {nx:Nat} {xX:List (Nat × Ob)} {key:Nat} {ls:List Ln} {p:Ln} {u:List (Int × Int)} {B:Ob} (hn:2<=nx) (hk:2<=key) (hb:St.look xX 1=some B) (hm:St.look xX 0=some ⟨0,oX .i64 (mo u)⟩):lj n l (VZ n l nx xX key (ls ++ [p])) ⟨ls ++ [p],u⟩:=by
 refine⟨by show 2<=nx+1; omega,nx,hn,?_,?_,?_⟩
 ·show St.look (yX _ _ _++_) 1=_;rw [xG,if_neg (by omega),xV,if_pos rfl,xK,if_neg (by omega),hb]; rfl
 ·show St.look (yX _ _ _++_) nx=_;obtain⟨e,r,he⟩:=Y5 ls p;rw [xG,if_pos rfl];show (wW 4 (mC (ls ++ [p]))).or _=wW 4 (mC (ls ++ [p]));rw [he]; rfl
 ·show St.look (yX _ _ _++_) 0=_;rw [xG,if_neg (by omega),xV,if_neg (by omega),xK,if_neg (by omega),hm]
theorem Yd {n:Int} {l:List (List Int)} {nx:Nat} {xX:List (Nat × Ob)} {key:Nat} {ls:List Ln} {p:Ln} {u:List (Int × Int)} {B B0:Ob} (hn:2<=nx) (hk:2<=key) (hb:St.look xX 1=some B) (hm:St.look xX 0=some B0):lj n l (V7 n l nx xX key (ls ++ [p]) u) ⟨ls ++ [p],u⟩:=by
 refine⟨by show 2<=nx+1; omega,nx,hn,?_,?_,?_⟩
 ·show St.look (yX _ _ _++_) 1=_;rw [xG,if_neg (by omega),xV,if_neg (by omega),xV,if_pos rfl,xK,if_neg (by omega),hb]; rfl
 ·show St.look (yX _ _ _++_) nx=_;obtain⟨e,r,he⟩:=Y5 ls p;rw [xG,if_pos rfl];show (wW 4 (mC (ls ++ [p]))).or _=wW 4 (mC (ls ++ [p]));rw [he]; rfl
 ·show St.look (yX _ _ _++_) 0=_;rw [xG,if_neg (by omega),xV,if_pos rfl,xV,if_neg (by omega),xK,if_neg (by omega),hm]; rfl
end Rs
theorem S8 {n:Int} {l:List (List Int)} {σ:St} {s:RS} {i:Nat} (hi:i<l.length) (hlen:s.ls.length<=100000) (hI:lj n l σ s) (hl:VK l) :
  ∃ σ',lj n l σ' (uL l i s).2/\σ.nx<=σ'.nx/\xU prog 56 [.ref 1 4 0 0,.int .i64 i] σ (.int .i64 (uL l i s).1) σ':=by
 obtain⟨nx,xX⟩:=σ;obtain⟨hn,key,hk,hb,hkk,hm⟩:=hI;simp only at hn hb hkk hm
 rcases sJ (i:Int) s.us 0 with ⟨h1,h2⟩ | ⟨y,j,h1,h2⟩
 ·rw [show uL l i s=((s.ls.length:Int),(⟨s.ls ++ [⟨l.getD i [],-1,i,0⟩],s.us ++ [((i:Int),(s.ls.length:Int))]⟩:RS)) by rw [uL,h1]]
  refine⟨V7 n l nx xX key (s.ls ++ [⟨l.getD i [],-1,i,0⟩]) (s.us ++ [((i:Int),(s.ls.length:Int))]),Yd hn hk hb hm,by show nx<=nx+1; omega,?_⟩
  ·have hcl:=Rr (c:=l.getD i []) (by have:=(hl _ (wR (d:=[]) hi)).1; omega);refine yS func56 MZ λhf=>?_;refine eG hb hm h2 ?_;simp only [simprocAttr,-ZA,↓zU,↓zD,zV,zT,zW,hb,tI,kl l hi]
   (repeat refine sd ?_)
   refine .go (cr hcl) ?_;have he1:St.look (yE xX key) 1=some ⟨4,[[.int .i64 n,.sl 1 (rl l),xJ key 4 (mC s.ls),.yV 0]]⟩:=by rw [xK,if_neg (by omega)]; exact hb
   have he0:St.look (yE xX key) 0=some ⟨0,oX .i64 (mo s.us)⟩:=by rw [xK,if_neg (by omega)]; exact hm
   have hx1:¬ nx=1:=by omega
   have hx0:¬ nx=0:=by omega
   have hpz:D.xT [.sl 1 (rows .i64 (l.getD i [])),.int .i64 (-1),.int .i64 (i:Int),.int .i64 0]=true:=by simp [D.xT,D.xO,rows]
   refine ML hb hkk he1 he0 hx0 hx1 hpz wJ xV ?_;have el:IntKind.i64.wrap (((s.ls.length+1:Nat):Int)-1)= (s.ls.length:Int):=by rw [wrap_i64 (by omega)]; omega
   rw [el,Zl h2,az];exact .same
 ·rw [show uL l i s=(y,s) by rw [uL,h1]];refine⟨⟨nx,xX⟩,⟨hn,key,hk,hb,hkk,hm⟩,μ _,?_⟩;refine yS func56 MZ λhf=>?_;refine zl hb hm h2 ?_;exact .same
open Rs
namespace Rs
def nR (idx:Int) (v:Nat) (x:Int):Bool:=decide (wU x<idx)&& !sf v x
def uK (idx:Int) (v:Nat):List (List Int)->Nat->Option Nat
 | [],_=>none
 | c :: r,i=>if c.all (nR idx v)= true then some i else uK idx v r (i+1)
theorem fX {idx:Int} {v:Nat}:∀ {l:List (List Int)} {i j:Nat},uK idx v l i=some j->i<=j/\j<i+l.length
 | [],_,_,h=>by cases h
 | c :: r,i,j,h=>by
  unfold uK at h
  by_cases hc:c.all (nR idx v)= true
  ·rw [if_pos hc] at h; cases h; simp
  ·rw [if_neg hc] at h;have:=fX h;rw [ζ]; omega
def xS (l:List (List Int)):Nat->Nat->Nat->RS->Int × RS
 | m,idx,v,s=>match uK idx v l 0 with
  | some i=>uL l i s
  | none=>match m with
   | 0=>(-1,s)
   | m+1=>
    let p:=xS l m (idx+1) v s
    if p.1<0\/(idx:Int)+ 1 ∉ (p.2.ls.getD p.1.toNat tV).cl then p else
    let q:=xS l m (idx+1) (v+2 ^ idx) p.2
    if q.1<0 \/ -(idx:Int)-1 ∉ (q.2.ls.getD q.1.toNat tV).cl then q else
    (q.2.ls.length,⟨q.2.ls ++ [⟨(zF (q.2.ls.getD p.1.toNat tV).cl (q.2.ls.getD q.1.toNat tV).cl idx).1,p.1,q.1,idx⟩],q.2.us⟩)
def PY (s:RS):Prop:=∀ x y,zZ x s.us=some y->0<=y/\y<s.ls.length
theorem kA {x k y:Int}:∀ {u:List (Int × Int)},zZ x (u ++ [(k,y)])= (zZ x u).or (if x=k then some y else none)
 | []=>by simp [zZ]
 | (k',y') :: r=>by
  show zZ x ((k',y') :: (r ++ [(k,y)]))= _;unfold zZ
  by_cases h:x=k'
  ·rw [if_pos h,if_pos h]; rfl
  ·rw [if_neg h,if_neg h]; exact kA
theorem aw {l:List (List Int)} {i:Nat} {s:RS} (h:PY s):PY (uL l i s).2/\0<=(uL l i s).1/\(uL l i s).1<(uL l i s).2.ls.length/\s.ls.length<=(uL l i s).2.ls.length/\(uL l i s).2.ls.length<=s.ls.length+1:=by
 unfold uL
 cases hu:zZ i s.us with
 | some y=>exact⟨h,(h _ _ hu).1,(h _ _ hu).2,μ _,Nat.le_succ _⟩
 | none=>
  refine⟨λx y hxy=>?_,by simp,by simp; omega,by simp,by simp⟩;simp only at hxy ⊢;rw [kA] at hxy;rw [γ,δ]
  cases hx:zZ x s.us with
  | some z=>rw [hx] at hxy; simp at hxy; subst hxy; have:=h _ _ hx; omega
  | none=> rw [hx] at hxy;simp at hxy;omega
theorem ph {l:List (List Int)}:∀ {m idx v:Nat} {s:RS},PY s->PY (xS l m idx v s).2 /\ -1<=(xS l m idx v s).1/\(xS l m idx v s).1<(xS l m idx v s).2.ls.length/\s.ls.length<=(xS l m idx v s).2.ls.length/\(xS l m idx v s).2.ls.length+1<=s.ls.length+2 ^ (m+1):=by
 intro m
 induction m with
 | zero=>
  intro idx v s h;unfold xS
  cases hf:uK idx v l 0 with
  | some i=> obtain⟨h1,h2,h3,h4,h5⟩:=aw (l:=l) (i:=i) h;exact⟨h1,by simp only; omega,h3,h4,by simp only; omega⟩
  | none=>exact⟨h,by simp,by simp only; omega,μ _,by simp⟩
 | succ m ih=>
  intro idx v s h;have hp2:2 ^ (m+1+1)= 2 ^ (m+1)+ 2 ^ (m+1):=by rw [ξ 2 (m+1)]; omega
  have hp0:0<2 ^ (m+1):=ν _;unfold xS
  cases hf:uK idx v l 0 with
  | some i=> obtain⟨h1,h2,h3,h4,h5⟩:=aw (l:=l) (i:=i) h;exact⟨h1,by simp only; omega,h3,h4,by simp only; omega⟩
  | none=>
   simp only;obtain⟨a1,a2,a3,a4,a5⟩:=ih (idx:=idx+1) (v:=v) h;generalize xS l m (idx+1) v s=p at a1 a2 a3 a4 a5
   by_cases hc:p.1<0\/(idx:Int)+ 1 ∉ (p.2.ls.getD p.1.toNat tV).cl
   ·rw [if_pos hc]; exact⟨a1,a2,a3,a4,by omega⟩
   ·rw [if_neg hc];obtain⟨b1,b2,b3,b4,b5⟩:=ih (idx:=idx+1) (v:=v+2 ^ idx) a1;generalize xS l m (idx+1) (v+2 ^ idx) p.2=q at b1 b2 b3 b4 b5
    by_cases hd:q.1<0 \/ -(idx:Int)-1 ∉ (q.2.ls.getD q.1.toNat tV).cl
    ·rw [if_pos hd]; exact⟨b1,b2,b3,by omega,by omega⟩
    ·rw [if_neg hd];refine⟨λx y hxy=>?_,by simp only; omega,by simp; omega,by simp; omega,by simp; omega⟩;have:=b1 x y hxy;simp only [γ,δ];omega
end Rs
open Rs Bd Fm
namespace Bd
def Xx : List (Nat × yH)->Nat->List (Int × Int)
 | [],_=>[]
 | y :: r,i=>((y.1:Int),((i+2:Nat):Int)) :: Xx r (i+1)
def Yc (O:List (Nat × yH)):List (Int × Int):=(0,0) :: (1,1) :: Xx O 0
theorem pb (x:Nat):∀ (O:List (Nat × yH)) (i:Nat),zZ (x:Int) (Xx O i)= (lY x O i).map λk=>((k+2:Nat):Int)
 | [],_=>rfl
 | y :: r,i=>by
  unfold Xx zZ lY
  by_cases h:x=y.1
  ·rw [if_pos (by omega),if_pos h]; rfl
  ·rw [if_neg (by omega),if_neg h]; exact pb x r (i+1)
theorem pc (y:Nat × yH):∀ (O:List (Nat × yH)) (i:Nat),Xx (O ++ [y]) i=Xx O i ++ [((y.1:Int),((i+O.length+2:Nat):Int))]
 | [],i=>rfl
 | z :: r,i=>by show _ :: Xx (r ++ [y]) (i+1)= _;rw [pc y r (i+1),ζ,show i+1+r.length+2=i+(r.length+1)+ 2 by omega];rfl
theorem ZI {x:Nat} (O:List (Nat × yH)) (h:x<2):zZ (x:Int) (Yc O)= some (x:Int):=by rcases(show x=0\/x=1 by omega) with rfl | rfl <;> rfl
theorem YJ {x:Nat} (O:List (Nat × yH)) (h:2<=x):zZ (x:Int) (Yc O)= (lY x O 0).map λk=>((k+2:Nat):Int):=by unfold Yc zZ;rw [if_neg (by omega)];unfold zZ;rw [if_neg (by omega),pb]
theorem cu (O:List (Nat × yH)) (y:Nat × yH):Yc (O ++ [y])= Yc O ++ [((y.1:Int),((O.length+2:Nat):Int))]:=by unfold Yc;rw [pc,Nat.zero_add]; rfl
theorem YP (S:List yH):∀ (m i:Nat) (O:List (Nat × yH)),(zP S m i O).2.length+1<=O.length+2 ^ m:=by
 intro m
 induction m with
 | zero=>intro i O; simp [zP]
 | succ m ih=>
  intro i O;have hp:0<2 ^ m:=ν _;have hp2:2 ^ (m+1)= 2 ^ m+2 ^ m:=by rw [ξ]; omega
  unfold zP
  split
  ·simp only; omega
  ·split
   ·simp only; omega
   ·have h1:=ih (yP S (i-2)).2.1 O;have h2:=ih (yP S (i-2)).2.2 (zP S m (yP S (i-2)).2.1 O).2;simp only [γ,δ]; omega
structure RT (nb : Nat) (base : List (Nat × Ob)) (n ks ke : Nat) (O : List (Nat × yH)) (nx : Nat) (xX : List (Nat × Ob)) : Prop where
 lt:nb+6<=ke/\ke<nx
 fr:∀ k,k<nb->St.look xX k=St.look base k
 b:St.look xX nb=some ⟨1,[[.ref ks 3 0 0]]⟩
 r:St.look xX (nb+1)= some ⟨3,[[.int .i64 0,.xI,.int .i64 0]]⟩
 d:St.look xX (nb+2)= some ⟨3,[[.int .i64 (n:Int),xJ ke 3 (vJ (qF O)),.int .i64 0]]⟩
 t:St.look xX (nb+3)= some ⟨0,oX .i64 (mo (Yc O))⟩
 c:St.look xX (nb+4)= some ⟨1,[[.yV (nb+3)]]⟩
 v:St.look xX (nb+5)= some ⟨1,[[.fn 75 [.ref (nb+4) 1 0 0,.ref nb 1 0 0,.ref (nb+5) 1 0 0,.ref (nb+2) 3 0 0]]]⟩
 e:St.look xX ke=wW 3 (vJ (qF O))
structure MO (nb ke ke' nx nx' : Nat) (xX objs' : List (Nat × Ob)) : Prop where
 le:nx<=nx'
 new:ke'=ke\/nx<=ke'
 xC:∀ k,nb+6<=k->k<nx->k≠ke->St.look objs' k=St.look xX k
theorem MO.refl {nb ke nx:Nat} {xX:List (Nat × Ob)}:MO nb ke ke nx nx xX xX:=⟨μ _,.inl rfl,λ_ _ _ _=>rfl⟩
theorem RT.new {nb n ks ke:Nat} {base:List (Nat × Ob)} {O:List (Nat × yH)} {nx:Nat} {xX:List (Nat × Ob)} (h:RT nb base n ks ke O nx xX) (ob:Ob):RT nb base n ks ke O (nx+1) ((nx,ob) :: xX):=by
 obtain⟨⟨l1,l2⟩,fr,b,r,d,t,c,v,e⟩:=h;have key:∀ k,k<nx->St.look ((nx,ob) :: xX) k=St.look xX k:=λk hk=>by rw [xY,if_neg (by omega)]
 exact⟨⟨l1,by omega⟩,λk hk=>(key k (by omega)).trans (fr k hk),(key _ (by omega)).trans b,(key _ (by omega)).trans r,(key _ (by omega)).trans d,(key _ (by omega)).trans t,(key _ (by omega)).trans c,(key _ (by omega)).trans v,(key _ (by omega)).trans e⟩
theorem ZO {n:Nat} {S:List yH} (hI:sU n S) {m i:Nat} {O:List (Nat × yH)} (h2:2<=i) (hi:i<S.length+2) (hm:n<=uR S i+(m+1)) (hO:ln n S O) (hno:lY i O 0=none) :
  ln n S (zP S m (yP S (i-2)).2.1 O).2/\lY i (zP S m (yP S (i-2)).2.2 (zP S m (yP S (i-2)).2.1 O).2).2 0=none:=by
 have hno:=aV hno;obtain⟨a1,a2,a3,a4,a5,a6⟩:=hI.mb h2 hi;have P:=Xu hI m (yP S (i-2)).2.1 O (by omega) (by omega) hO;generalize zP S m (yP S (i-2)).2.1 O=p at P;have Q:=Xu hI m (yP S (i-2)).2.2 p.2 (by omega) (by omega) P.out;generalize zP S m (yP S (i-2)).2.2 p.2=q at Q;obtain⟨p1,O1⟩:=p;obtain⟨q1,O2⟩:=q;obtain⟨⟨T1,e1⟩,outP,isP,lenP,lvP⟩:=P;obtain⟨⟨T2,e2⟩,outQ,isQ,lenQ,lvQ⟩:=Q;simp only at e1 outP lvP e2 lvQ ⊢;refine⟨outP,jg λk hk=>?_⟩;have hl1:O1.length=O.length+T1.length:=by rw [e1,γ]
 have hl2:O2.length=O1.length+T2.length:=by rw [e2,γ]
 by_cases ck:k<O.length
 ·rw [e2,zJ (by omega),e1,zJ ck]; exact hno k ck
 ·intro e
  have h3:uR S i<uR S (O2.getD k (0,sD)).1:=by
   by_cases ck2:k<O1.length
   ·have:=lvP k (by omega) ck2;rw [e2,zJ ck2]; omega
   ·have:=lvQ k (by omega) hk; omega
  rw [e] at h3; omega
theorem Z3 (O:List (Nat × yH)) (y:Nat × yH):qF (O ++ [y])= qF O ++ [y.2]:=by simp [qF]
def aG (nb n ks:Nat) (nx:Nat) (xX:List (Nat × Ob)) (ke:Nat) (O':List (Nat × yH)):List (Nat × Ob):= yX nx 3 (vJ (qF O'))++ wO (wO (yE xX ke) (nb+2) ⟨3,[[.int .i64 (n:Int),xJ nx 3 (vJ (qF O')),.int .i64 0]]⟩) (nb+3) ⟨0,oX .i64 (mo (Yc O'))⟩
theorem Up {nb n ks ke:Nat} {base:List (Nat × Ob)} {O:List (Nat × yH)} {nx:Nat} {xX:List (Nat × Ob)} (h:RT nb base n ks ke O nx xX) (y:Nat × yH):RT nb base n ks nx (O ++ [y]) (nx+1) (aG nb n ks nx xX ke (O ++ [y])):=by
 obtain⟨⟨l1,l2⟩,fr,b,r,d,t,c,v,e⟩:=h
 have key:∀ k,k<nx->k≠ke->k≠nb+2->k≠nb+3->St.look (aG nb n ks nx xX ke (O ++ [y])) k=St.look xX k:=λk h1 h2 h3 h4=>by unfold aG;rw [xG,if_neg (by omega),xV,if_neg (by omega),xV,if_neg (by omega),xK,if_neg (by omega)]
 have he:∀ k,k≠ke->St.look (yE xX ke) k=St.look xX k:=λk h1=>by rw [xK,if_neg (by omega)]
 refine⟨⟨by omega,by omega⟩,λk hk=>(key k (by omega) (by omega) (by omega) (by omega)).trans (fr k hk),(key _ (by omega) (by omega) (by omega) (by omega)).trans b,(key _ (by omega) (by omega) (by omega) (by omega)).trans r,?_,?_,(key _ (by omega) (by omega) (by omega) (by omega)).trans c,(key _ (by omega) (by omega) (by omega) (by omega)).trans v,?_⟩
 ·unfold aG;rw [xG,if_neg (by omega),xV,if_neg (by omega),xV,if_pos rfl,he _ (by omega),d]; rfl
 ·unfold aG;rw [xG,if_neg (by omega),xV,if_pos rfl,xV,if_neg (by omega),he _ (by omega),t]; rfl
 ·unfold aG;rw [xG,if_pos rfl,kZ (by rw [rN]; simp)]; rfl
end Bd
theorem Sn {n nb ks km kk kn:Nat} {base:List (Nat × Ob)} {S:List yH} {K:Mem} (hI:sU n S) (hB:fJ ks km kk kn S K nb base) (hlS:S.length<=100000):∀ (m:Nat) {i ke nx:Nat} {O:List (Nat × yH)} {xX:List (Nat × Ob)},RT nb base n ks ke O nx xX->ln n S O->i<S.length+2->n<=uR S i+m->O.length+2 ^ m<=90000 ->
  ∃ nx' objs' ke',xU prog 75 [.int .i64 (i:Int),.ref (nb+4) 1 0 0,.ref nb 1 0 0,.ref (nb+5) 1 0 0,.ref (nb+2) 3 0 0] ⟨nx,xX⟩ (.int .i64 ((zP S m i O).1:Int)) ⟨nx',objs'⟩/\ RT nb base n ks ke' (zP S m i O).2 nx' objs'/\MO nb ke ke' nx nx' xX objs':=by
 have small:∀ {i ke nx:Nat} {O:List (Nat × yH)} {xX:List (Nat × Ob)},RT nb base n ks ke O nx xX->i<2->xU prog 75 [.int .i64 (i:Int),.ref (nb+4) 1 0 0,.ref nb 1 0 0,.ref (nb+5) 1 0 0,.ref (nb+2) 3 0 0] ⟨nx,xX⟩ (.int .i64 (i:Int)) ⟨nx,xX⟩:=by
  intro i ke nx O xX h hi;have hu:=ZI O hi
  rcases sJ (i:Int) (Yc O) 0 with ⟨h1,h2⟩ | ⟨y,j,h1,h2⟩
  ·rw [hu] at h1; cases h1
  rw [hu] at h1;cases h1;have hc:=h.c;have ht:=h.t;refine yS func75 OD λhf=>?_;refine eG hc ht h2 ?_;exact .same
 intro m
 induction m with
 | zero=>
  intro i ke nx O xX h hO hi hm _
  have c:i<2:=by
   rcases Nat.lt_or_ge i 2 with c | c
   ·exact c
   ·have:=(hI.mb c hi).1; omega
  exact⟨nx,xX,ke,small h c,h,.refl⟩
 | succ m ih=>
  intro i ke nx O xX h hO hi hm hlen
  by_cases c:i<2
  ·rw [show zP S (m+1) i O=(i,O) by unfold zP; rw [if_pos c]];exact⟨nx,xX,ke,small h c,h,.refl⟩
  have hp:0<2 ^ m:=ν _;have hp2:2 ^ (m+1)= 2 ^ m+2 ^ m:=by rw [ξ]; omega
  have hu:=YJ O (show 2<=i by omega);have hc:=h.c;have ht:=h.t
  cases hpo:lY i O 0 with
  | some k=>
   rw [show zP S (m+1) i O=(k+2,O) by unfold zP; rw [if_neg c,hpo]];rw [hpo] at hu
   rcases sJ (i:Int) (Yc O) 0 with ⟨h1,h2⟩ | ⟨y,j,h1,h2⟩
   ·rw [hu] at h1; cases h1
   rw [hu] at h1;cases h1;refine⟨nx,xX,ke,?_,h,.refl⟩;refine yS func75 OD λhf=>?_;refine eG hc ht h2 ?_;exact .same
  | none=>
   have c2:2<=i:=by omega
   obtain⟨a1,a2,a3,a4,a5,a6⟩:=hI.mb c2 hi;obtain⟨hO1,hno2⟩:=ZO hI c2 hi hm hO hpo
   rw [show zP S (m+1) i O=((zP S m (yP S (i-2)).2.2 (zP S m (yP S (i-2)).2.1 O).2).2.length+2,(zP S m (yP S (i-2)).2.2 (zP S m (yP S (i-2)).2.1 O).2).2 ++ [(i,((yP S (i-2)).1,(zP S m (yP S (i-2)).2.1 O).1,(zP S m (yP S (i-2)).2.2 (zP S m (yP S (i-2)).2.1 O).2).1))]) by
    conv=>lhs; unfold zP
    rw [if_neg c,hpo]]
   obtain⟨nx1,objs1,ke1,call1,E1,F1⟩:=ih (h.new (rT (yP S (i-2)).1 (yP S (i-2)).2.1 (yP S (i-2)).2.2)) hO (show (yP S (i-2)).2.1<S.length+2 by omega) (by omega) (by omega);have hln1:=YP S m (yP S (i-2)).2.1 O;generalize zP S m (yP S (i-2)).2.1 O=p at *;obtain⟨nx2,objs2,ke2,call2,E2,F2⟩:=ih E1 hO1 (show (yP S (i-2)).2.2<S.length+2 by omega) (by omega) (by omega);have hln2:=YP S m (yP S (i-2)).2.2 p.2;generalize zP S m (yP S (i-2)).2.2 p.2=q at *;obtain⟨p1,O1⟩:=p;obtain⟨q1,O2⟩:=q;simp only at *;rcases sJ (i:Int) (Yc O) 0 with ⟨h1,h2⟩ | ⟨y,j,h1,h2⟩
   case inr=>rw [hu,hpo] at h1; cases h1
   have hu2:=YJ O2 c2;rw [hno2] at hu2;rcases sJ (i:Int) (Yc O2) 0 with ⟨h3,h4⟩ | ⟨y,j,h3,h4⟩
   case inr=>rw [hu2] at h3; cases h3
   obtain⟨⟨l1,l2⟩,aJ,hb,hr,hd,_,_,hv,he⟩:=id h;have hpos:0<S.length:=by omega
   have blt:=hB.lt;have hs:=(aJ ks blt.1).trans hB.s;have hn:=(aJ kn blt.2.2.2).trans hB.n;rw [aR hpos] at hs;rw [kZ hpos] at hn;have hg:=pI S (show i-2<S.length by omega);have e:IntKind.i64.wrap ((i:Int)-2)= ((i-2:Nat):Int):=by rw [wrap_i64 (by omega)]; omega
   have x5:¬ nx=nb+5:=by omega
   have w1:=F1.le;have w2:=F1.new;have w3:=F2.le;have w4:=F2.new
   have o1:St.look objs1 nx=some (rT (yP S (i-2)).1 (yP S (i-2)).2.1 (yP S (i-2)).2.2):=by rw [F1.xC nx (by omega) (by omega) (by omega),xY,if_pos rfl]
   have o2:St.look objs2 nx=some (rT (yP S (i-2)).1 (yP S (i-2)).2.1 (yP S (i-2)).2.2):=by rw [F2.xC nx (by omega) (by omega) (by omega)]; exact o1
   have hv1:=E1.v;have hd2:=E2.d;have he2:=E2.e;have hc2:=E2.c;have ht2:=E2.t;have l3:=E2.lt;have hee:∀ k,k≠ke2->St.look (yE objs2 ke2) k=St.look objs2 k:=λk h1=>by rw [xK,if_neg (by omega)]
   have he3:=(hee (nb+2) (by omega)).trans hd2;have he4:=(hee (nb+4) (by omega)).trans hc2;have he5:=(hee (nb+3) (by omega)).trans ht2;have hpz:D.xT [.int .i64 ((yP S (i-2)).1:Int),.int .i64 (p1:Int),.int .i64 (q1:Int)]=true:=by simp [D.xT,D.xO]
   have y2:¬ nx2=nb+2:=by omega
   have y3:¬ nx2=nb+3:=by omega
   have y4:¬ nx2=nb+4:=by omega
   have z1:¬ nb+2=nb+3:=by omega
   have z2:¬ nb+3=nb+2:=by omega
   have z3:¬ nb+2=nb+4:=by omega
   have z4:¬ nb+3=nb+4:=by omega
   refine⟨nx2+1,aG nb n ks nx2 objs2 ke2 (O2 ++ [(i,((yP S (i-2)).1,p1,q1))]),nx2,?_,Up E2 _,⟨by omega,.inr (by omega),λk g1 g2 g3=>?_⟩⟩
   ·refine yS func75 OD λhf=>?_;refine On hc ht h2 hb hs hn e vP hg hv x5 ?_;refine .go call1 ?_;simp only [simprocAttr,-ZA,↓zU,↓zD,zV,zT,zW,hv1,o1,rT];refine .go call2 ?_;simp only [simprocAttr,-ZA,↓zU,↓zD,zV,zT,zW,hd2,he2,hc2,ht2,o2,rT,he3,he4,he5,hpz,y2,y3,y4,z1,z2,z3,z4,h4,vP,rN,xV]
    (repeat refine sd ?_)
    have hu3:zZ (i:Int) (Yc (O2 ++ [(i,((yP S (i-2)).1,p1,q1))]))= some ((O2.length+2:Nat):Int):=by rw [cu,kA,hu2,if_pos rfl]; rfl
    rw [show IntKind.i64.wrap (((O2.length+1:Nat):Int)+ 1)= ((O2.length+2:Nat):Int) from vX (by omega),Zl h4,<- cu O2 (i,((yP S (i-2)).1,p1,q1)),qc,<- Z3 O2 (i,((yP S (i-2)).1,p1,q1))]
    rcases sJ (i:Int) (Yc (O2 ++ [(i,((yP S (i-2)).1,p1,q1))])) 0 with ⟨h5,h6⟩ | ⟨y,j,h5,h6⟩
    ·rw [hu3] at h5; cases h5
    rw [hu3] at h5;cases h5;rw [h6];exact .same
   ·unfold aG;rw [xG,if_neg (by omega),xV,if_neg (by omega),xV,if_neg (by omega),xK,if_neg (by omega),F2.xC k g1 (by omega) (by omega),F1.xC k g1 (by omega) (by omega),xY,if_neg (by omega)]
open Rs Bd Fm
theorem xU.MH {P:Program} {g:FuncId} {args:List D} {nx j:Nat} {xX:List (Nat × Ob)} {d:D} {σ':St} (h:xU P g args ⟨nx+j,xX⟩ d σ'):xU P g args ⟨nx,xX⟩ d σ':=
 ⟨h.ord,λM0 w ι vals hS hl hv=>(h.run M0 w ι vals hS.W7 hl λj hj=>(hv j hj).W7).mono λe w' hh=>by obtain⟨v,ι',h1,h2,h3,h4,h5,h6,h7⟩:=hh;exact⟨v,ι',h1,h2,h3,Nat.le_trans (Nat.le_add_right _ _) h4,λk hk=>h5 k (Nat.lt_of_lt_of_le hk (Nat.le_add_right _ _)),h6,h7⟩⟩
namespace Bd
structure eI (n : Nat) (E : List yH) (r : Nat) : Prop where
 inv:sU n E
 lt:r<E.length+2
 self:(zP E n r []).1=r/\qF (zP E n r []).2=E
 len:E.length+1<=2 ^ n
def kP (n:Nat) (S:List yH) (i:Nat):List yH:=qF (zP S n i []).2
theorem Zv {n:Nat} {S:List yH} (hI:sU n S) {i:Nat} (hi:i<S.length+2):eI n (kP n S i) (zP S n i []).1/\∀ w,den (kP n S i) n (zP S n i []).1 w=den S n i w:=by
 have V:=Xu hI n i [] (by omega) hi (Y7 n S);have hs:=Ug (S:=S) (E:=kP n S i) n i [] ⟨[],by simp [kP]⟩;have hl:=V.len
 refine⟨⟨SY hI V.out,?_,?_,?_⟩,λw=>SZ V.out n i _ w V.is⟩
 ·unfold kP;rw [rN];rcases V.is with ⟨h1,h2⟩ | ⟨h1,j,h2,h3,h4⟩ <;> omega
 ·have e0:iX (kP n S i) ([]:List (Nat × yH)).length = []:=rfl;rw [e0] at hs;rw [hs];refine⟨rfl,?_⟩;simp only;refine List.ext_getElem (by rw [rN,lD]; unfold kP; rw [rN]) λk h1 h2=>?_;have hk:k<(zP S n i []).2.length:=by rw [rN,lD] at h1; exact h1
  simp only [qF,iX,List.map_map,List.getElem_map,List.getElem_range,Function.comp];unfold yP;rw [List.getD,List.getElem?_eq_getElem h2,Option.getD_some]
 ·unfold kP;rw [rN];simpa using hl
theorem Us {σ1:St} {n ke:Nat} {xZ:List (List D)} {ρ:Nat->Nat} {xX:List (Nat × Ob)} (hp:∀ e ∈ xZ,D.xT e=true) (h:St.look σ1.xX ke=wW 3 xZ) (hr:∀ p ∈ xX,ρ p.1≠ke):vw σ1 ⟨n,xX⟩ ρ (xJ ke 3 xZ) (.sl 3 xZ):=by
 cases xZ with
 | nil=>simp [xJ,vw]
 | cons e t=> simp only [xJ,vw];exact⟨trivial,by decide,by simpa using λa b hab=>hr (a,b) hab,⟨3,e :: t⟩,h,rfl,μ _,by simp,hp⟩
end Bd
theorem af {n nb ks km kk kn i:Nat} {base:List (Nat × Ob)} {S:List yH} {K:Mem} (hI:sU n S) (hB:fJ ks km kk kn S K nb base) (hlS:S.length<=100000) (hi:i<S.length+2) (hn:n<=11) :
  xU prog 61 [.ref ks 3 0 0,.int .i64 (n:Int),.int .i64 (i:Int)] ⟨nb,base⟩ (.yD [yA n (kP n S i) (zP S n i []).1,.int .i64 0]) ⟨nb,base⟩:=by
 have hp:2 ^ n<=2 ^ 11:=Nat.pow_le_pow_right (by decide) hn;have hp':(2:Nat)^ 11=2048:=rfl;obtain⟨V1,V2⟩:=Zv hI hi;have vl:=V1.len;refine xU.Qb ⟨_,func61,by kernel_rfl,by kernel_rfl⟩ λhu=>xU.clean ?_
 have hbk:∀ k,nb<=k->St.look base k=none:=λk hk=>by
  cases h:St.look base k with
  | none=>rfl
  | some o=>have:=(hu k o h).1; simp only at this; omega
 obtain⟨nx',objs',ke',call,E1,F1⟩:=Sn (nb:=nb) hI hB hlS n (i:=i) (ke:=nb+6) (nx:=nb+1+1+1+1+1+1+1) (O:=[]) (xX:=(nb+1+1+1+1+1,⟨1,[[.fn 75 [.ref (nb+1+1+1+1) 1 0 0,.ref nb 1 0 0,.ref (nb+1+1+1+1+1) 1 0 0,.ref (nb+1+1) 3 0 0]]]⟩) :: (nb+1+1+1+1,⟨1,[[.yV (nb+1+1+1)]]⟩) ::
   (nb+1+1+1,⟨0,oX .i64 (ff [(0,.int .i64 0)] 1 (.int .i64 1))⟩) :: (nb+1+1,⟨3,[[.int .i64 (n:Int),.xI,.int .i64 0]]⟩) :: (nb+1,⟨3,[[.int .i64 0,.xI,.int .i64 0]]⟩) :: (nb,⟨1,[[.ref ks 3 0 0]]⟩) :: base) ⟨⟨by omega,by omega⟩,λk hk=>by
    rw [xY,if_neg (by omega),xY,if_neg (by omega),xY,if_neg (by omega),xY,if_neg (by omega),xY,if_neg (by omega),xY,if_neg (by omega)],by
    rw [xY,if_neg (by omega),xY,if_neg (by omega),xY,if_neg (by omega),xY,if_neg (by omega),xY,if_neg (by omega),xY,if_pos rfl],by
    rw [xY,if_neg (by omega),xY,if_neg (by omega),xY,if_neg (by omega),xY,if_neg (by omega),xY,if_pos rfl],by
    rw [xY,if_neg (by omega),xY,if_neg (by omega),xY,if_neg (by omega),xY,if_pos rfl]; rfl,by
    rw [xY,if_neg (by omega),xY,if_neg (by omega),xY,if_pos rfl]; rfl,by
    rw [xY,if_neg (by omega),xY,if_pos rfl],by
    rw [xY,if_pos rfl],by
    rw [xY,if_neg (by omega),xY,if_neg (by omega),xY,if_neg (by omega),xY,if_neg (by omega),xY,if_neg (by omega),xY,if_neg (by omega),hbk _ (by omega)]; rfl⟩ (Y7 n S) hi (by omega) (by simp; omega)
 have hr:=E1.r;have hd:=E1.d;have he:=E1.e;have l3:=E1.lt;rw [show qF (zP S n i []).2=kP n S i from rfl] at hd he;have hc4:¬ (4096:Int)<((kP n S i).length:Int):=by omega
 refine yS func61 Lo λhf=>?_;refine j0 ?_;refine .go (xU.MH (j:=1) call) ?_;have z1:¬ nb+2=nb+1:=by omega
 have z2:¬ nb+1=nb+2:=by omega
 refine MK hd hr he vP hc4 xV z1 z2 ?_
 have hL:∀ k,k≠nb+1+1->k≠nb+1->St.look (wO (wO objs' (nb+1+1) ⟨3,[[.int .i64 (n:Int),xJ ke' 3 (vJ (kP n S i)),.int .i64 ((zP S n i []).1:Int)]]⟩) (nb+1) ⟨3,[[.int .i64 (n:Int),xJ ke' 3 (vJ (kP n S i)),.int .i64 ((zP S n i []).1:Int)]]⟩) k=St.look objs' k:=λk h1 h2=>by rw [xV,if_neg (by omega),xV,if_neg (by omega)]
 refine .gone hu (λk o hk=>?_) ?_
 ·have hkn:=(hu k o hk).1;simp only at hkn;show St.look _ k=_;rw [hL k (by omega) (by omega),E1.fr k hkn]; exact hk
 ·have hg:vw ⟨nx',wO (wO objs' (nb+1+1) ⟨3,[[.int .i64 (n:Int),xJ ke' 3 (vJ (kP n S i)),.int .i64 ((zP S n i []).1:Int)]]⟩) (nb+1) ⟨3,[[.int .i64 (n:Int),xJ ke' 3 (vJ (kP n S i)),.int .i64 ((zP S n i []).1:Int)]]⟩⟩ ⟨nb,W4 base⟩ (λk=>k) (xJ ke' 3 (vJ (kP n S i))) (.sl 3 (vJ (kP n S i))):=
   Us (ZJ _) ((hL ke' (by omega) (by omega)).trans he) λp hp=>by have h1:=(hu p.1 p.2 (iv hp)).1;simp only at h1; omega
  simp only [yA,xD,vw,sV];exact⟨rfl,⟨rfl,trivial,hg,trivial,trivial⟩,trivial,trivial⟩
end Go.Pd
