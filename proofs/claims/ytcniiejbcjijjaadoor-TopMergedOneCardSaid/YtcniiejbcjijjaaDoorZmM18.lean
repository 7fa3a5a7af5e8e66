/- Part M18. -/
import Derived.Test.YtcniiejbcjijjaaDoorZmM17
import Derived.Test.YtcniiejbcjijjaaDoorZmM20
set_option linter.unusedSectionVars false
set_option linter.unusedVariables false
set_option linter.unusedSimpArgs false
set_option linter.defProp false
set_option maxRecDepth 20000
set_option maxHeartbeats 1000000
open Go.Proofs.Tryd
open Nat renaming zero_le->γ,pow_le_pow_right->δ,le_refl->ε,lt_of_le_of_lt->ζ
open Int renaming toNat_natCast->η,eq_ofNat_of_zero_le->θ
namespace Go.Pd
open Go Go.Proofs
open BitVec renaming isValue -> ZA
open Mg
def oL (way n:Int) (p:List (BitVec 64)):List Int × Int:= if yU n p≠0 then([],yU n p) else if way<1\/3<way then([],1) else(xE way n.toNat p,0)
theorem wk (way n:Int) (p:List (BitVec 64)):yY prog 8 [.int .i64 way,.int .i64 n,.sl 1 (us p)] (.yK [.sl 1 (rows .i64 (oL way n p).1),.int .i64 (oL way n p).2]):=by
 refine yP func8 k8 λhf=>?_;refine xC ?_;refine .go (cq (rS n p)) ?_;by_cases hc:yU n p=0
 case neg=>
  have e:(yU n p != 0)= true:=by simpa using hc
  have ed:oL way n p=([],yU n p):=if_pos hc;refine yN e ?_;rw [ed];exact .drop (by simp) (by simp [vw,sB,rows])
 have e:(yU n p != 0)= false:=by simpa using hc
 have hc':¬ yU n p≠0:=by simpa using hc
 obtain⟨h1,h2,h3,h4⟩:=uM hc;obtain⟨m,rfl⟩:=θ h1;refine yN e ?_;refine .go (cq (iQ way)) ?_
 by_cases hw:1<=way/\way<=3
 ·have ed:oL way m p=(xE way m p,0):=by rw [oL,if_neg hc',if_neg (by omega),η]
  simp only [simprocAttr,-ZA,↓zU,↓zD,zV,zT,zW,decide_eq_true hw];refine .go (xU.pc (jF way hc hw) rfl (wV _ _)) ?_;refine xC ?_;rw [ed];exact .drop (by simp) ⟨rfl,bK (by simp) (wV _ _) (by rw [zE,wK]),by simp [vw],trivial⟩
 ·have ed:oL way m p=([],1):=by rw [oL,if_neg hc',if_pos (by omega)]
  simp only [simprocAttr,-ZA,↓zU,↓zD,zV,zT,zW,decide_eq_false hw];rw [ed];exact .drop (by simp) (by simp [vw,sB,rows])
def vP (way n:Int) (p:List (BitVec 64)) (c:BitVec 64):BitVec 64 × Int:= if yU n p≠0 then(0#64,yU n p) else if way<1\/3<way then(0#64,1) else if c &&& ~~~(allM n.toNat)≠ 0#64 then(0#64,2) else(rZ way n.toNat p c,0)
theorem yi (way:Int) (n:Nat) (p:List (BitVec 64)) (i:Nat):0<=(xE way n p).getD i 0:=by
 by_cases h:i<2 ^ n
 ·rw [uX h];unfold mK
  by_cases h3:way=3
  ·rw [if_pos h3]; exact aG _ _
  ·rw [if_neg h3]
   by_cases h2:way=2
   ·rw [if_pos h2]; exact sX _
   ·rw [if_neg h2];exact(qC λx hx=>vN x hx).1
 ·rw [List.getD,List.getElem?_eq_none (by rw [wK]; omega)]; exact Int.le_refl _
theorem oS (way n:Int) (p:List (BitVec 64)) (c:BitVec 64):yY prog 9 [.int .i64 way,.int .i64 n,.sl 1 (us p),.int .u64 (ui c)] (.yK [.int .u64 (ui (vP way n p c).1),.int .i64 (vP way n p c).2]):=by
 refine yP func9 k9 λhf=>?_;refine xC ?_;refine .go (cq (rS n p)) ?_;by_cases hc:yU n p=0
 case neg=>
  have e:(yU n p != 0)= true:=by simpa using hc
  have ed:vP way n p c=(0#64,yU n p):=if_pos hc;refine yN e ?_;rw [ed];exact .same
 have e:(yU n p != 0)= false:=by simpa using hc
 have hc':¬ yU n p≠0:=by simpa using hc
 obtain⟨h1,h2,h3,h4⟩:=uM hc;obtain⟨m,rfl⟩:=θ h1;have hm:m<=4:=by omega
 have h16:=vK hm;refine yN e ?_;refine .go (cq (iQ way)) ?_;by_cases hw:1<=way/\way<=3
 case neg=>
  have ed:vP way m p c=(0#64,1):=by rw [vP,if_neg hc',if_pos (by omega)]
  simp only [simprocAttr,-ZA,↓zU,↓zD,zV,zT,zW,decide_eq_false hw];rw [ed];exact .same
 simp only [simprocAttr,-ZA,↓zU,↓zD,zV,zT,zW,decide_eq_true hw];refine .go (cq (aZ hm)) ?_;by_cases hb:c &&& ~~~(allM m)= 0#64
 case neg=>
  have ed:vP way m p c=(0#64,2):=by rw [vP,if_neg hc',if_neg (by omega),η,if_pos hb]
  have hb1:(c &&& ~~~(allM m) != 0#64)= true:=by simpa using hb
  refine yN hb1 ?_;rw [ed];exact .same
 have ed:vP way m p c=(rZ way m p c,0):=by rw [vP,if_neg hc',if_neg (by omega),η,if_neg (by simpa using hb)]
 have hb1:(c &&& ~~~(allM m) != 0#64)= false:=by simpa using hb
 refine yN hb1 ?_;refine .go (xU.pc (jF way hc hw) rfl (wV _ _)) ?_;refine xC ?_;have hr:=wK way m p;refine .go (xU.u7 (qd (xE way m p) c (by omega)) ⟨fT (by simp [St.get,St.look]) hr.symm,jO _ _,trivial⟩ rfl) ?_;refine xC ?_;rw [ed];exact .drop (by simp) (by simp only [vw,sB,rZ,and_self])
open Mg
namespace Mg
def rA (i:Nat) (k:BitVec 64) (t:List (BitVec 64)) (x y:BitVec 64):Bool:=match i with
 | 0=>t.getD x.toNat 0 &&& ~~~x==0#64
 | 1=>k &&& x==0#64 || t.getD x.toNat 0==k &&& x
 | 2=>x==0#64 || t.getD x.toNat 0 != 0#64
 | 3=>true
 | 4=>t.getD x.toNat 0 &&& y &&& ~~~(t.getD (x &&& y).toNat 0)== 0#64
 | _=>t.getD x.toNat 0 &&& y==0#64 || t.getD (x &&& y).toNat 0 &&& ~~~(t.getD x.toNat 0 &&& y)== 0#64
theorem xc (x y:BitVec 64):(x &&& y).toNat<=x.toNat:=by rw [BitVec.toNat_and]; exact Nat.and_le_left
theorem mJ {n:Nat} (hn:n<=3):2 ^ n<=8/\2 ^ 2 ^ n<=256:=by have h:2 ^ n<=2 ^ 3:=δ (by omega) hn;exact⟨h,δ (n:=2) (by omega) h⟩
theorem kT (t:List (BitVec 64)) {x:BitVec 64} (h:x.toNat<t.length):(us t).getD (ui x).toNat [] = [.int .u64 (ui (t.getD x.toNat 0))]:=by
 have e:(ui x).toNat=x.toNat:=by unfold ui; omega
 rw [e,kJ t h]
theorem kS (x:BitVec 64):0<=ui x:=gG x
theorem tR {t:List (BitVec 64)} {x:BitVec 64} (h:x.toNat<t.length):ui x<(t.length:Int):=by unfold ui; omega
end Mg
theorem eW {n:Nat} (hn:n<=3):yY prog 23 [.int .i64 n] (.int .i64 ((2 ^ 2 ^ n:Nat):Int)):=by
 have h:=mJ hn;refine yP func23 XQ λhf=>?_;simp only [simprocAttr,-ZA,↓zU,↓zD,zV,zT,zW,wc (show n<=61 by omega),xm (show 2 ^ n<=61 by omega)]
 (repeat refine sd ?_)
 exact .dv
theorem p7 {n:Nat} (hn:n<=3) {x:BitVec 64} (hx:x.toNat<2 ^ 2 ^ n):xU prog 43 [.int .u64 (ui x),.ref 0 1 0 0] ⟨1,[(0,⟨1,[[.int .i64 n]]⟩)]⟩ (.bool false) ⟨1,[(0,⟨1,[[.int .i64 n]]⟩)]⟩:=by
 have h:=mJ hn;have hS:=eW hn;have hd:¬ ((2 ^ 2 ^ n:Nat):Int)<=ui x:=by unfold ui; omega
 have hc:=pN (show 2 ^ 2 ^ n<=1000000 by omega);refine yP func43 Xj λhf=>?_;refine pI ?_;refine .go (cq hS) ?_;refine hU hc hd ?_
 (refine oN.pq [] [0] (by simp) (by simp) (by decide) ?_; simp only [zP,zQ,simprocAttr,-ZA,exists_eq_left',ne_eq,zR])
theorem gh {n:Nat} (hn:n<=3) {t:List (BitVec 64)} (hl:t.length<=1000) (ht:∀ i,i<t.length->(t.getD i 0).toNat<2 ^ 2 ^ n) :
  xU prog 53 [.sl 1 (us t),.fn 43 [.ref 0 1 0 0]] ⟨1,[(0,⟨1,[[.int .i64 n]]⟩)]⟩ (.int .i64 (-1)) ⟨1,[(0,⟨1,[[.int .i64 n]]⟩)]⟩:=by
 refine yP func53 Xp λhf=>?_;refine yN yC ?_
 refine xO (λk:Nat=>[(8,.int .i64 k),(7,.int .i64 t.length),(1,.fn 43 [.ref 0 1 0 0]),(0,.sl 1 (us t))]) (λ_=>⟨1,[(0,⟨1,[[.int .i64 n]]⟩)]⟩) (λk=>k<=t.length) (λk=>t.length-k) 0 (γ _) ?_ ?_
 ·exact tW
 intro k hk;refine yQ mixed ?_
 by_cases hkl:k<t.length
 ·have hd:((k:Int)<(t.length:Int)):=by omega
  have hg:=kJ t hkl;have hC:=p7 hn (ht k hkl);refine uf hd yC hg ?_;refine .go hC ?_;refine xC ?_;refine⟨k+1,by omega,?_,by omega⟩;exact vR
 ·have hd:¬ ((k:Int)<(t.length:Int)):=by omega
  refine yN hd ?_
  (refine oN.pq [] [0] (by simp) (by simp) (by decide) ?_; simp only [zP,zQ,simprocAttr,-ZA,exists_eq_left',ne_eq,zR])
theorem iz {n:Nat} (hn:n<=3) {t:List (BitVec 64)} (hl:t.length=2 ^ 2 ^ n) (ht:∀ i,i<t.length->(t.getD i 0).toNat<2 ^ 2 ^ n):yY prog 24 [.int .i64 n,.sl 1 (us t)] (.int .i64 0):=by
 have h:=mJ hn;have hS:=eW hn;have hI:=gh hn (by omega) ht
 have hC:xU prog 42 [.sl 1 (us t),.fn 43 [.ref 0 1 0 0]] ⟨1,[(0,⟨1,[[.int .i64 n]]⟩)]⟩ (.bool false) ⟨1,[(0,⟨1,[[.int .i64 n]]⟩)]⟩:=by
  refine yP func42 Xi λhf=>?_;refine xC ?_;refine .go hI ?_;refine xC ?_
  (refine oN.pq [] [0] (by simp) (by simp) (by decide) ?_; simp only [zP,zQ,simprocAttr,-ZA,exists_eq_left',ne_eq,zR])
 refine yP func24 XR λhf=>?_;refine hU yC hl ?_;refine .go (cq hS) ?_;refine pI ?_;refine .go hC ?_;refine xC ?_;exact .dv
open Mg
section
variable {k x y : BitVec 64} {t : List (BitVec 64)}
theorem b7 (hx:x.toNat<t.length):yY prog 101 [.int .u64 (ui k),.sl 1 (us t),.int .u64 (ui x),.int .u64 (ui y)] (.bool (rA 0 k t x y)):=by have hg:=kT t hx;have h1:=kS x;have h2:=tR hx;show yY _ _ _ (.bool (t.getD x.toNat 0 &&& ~~~x==0#64));refine yP func101 j0 λhf=>?_;refine pk yC hg h1 h2 ?_;exact .dv
theorem b8 (hx:x.toNat<t.length):yY prog 102 [.int .u64 (ui k),.sl 1 (us t),.int .u64 (ui x),.int .u64 (ui y)] (.bool (rA 1 k t x y)):=by
 have hg:=kT t hx;have h1:=kS x;have h2:=tR hx;show yY _ _ _ (.bool (k &&& x==0#64 || t.getD x.toNat 0==k &&& x));refine yP func102 j1 λhf=>?_
 cases hc:(k &&& x==0#64) with
 | true=> refine ug hc yC hg h1 h2 ?_;exact .dv
 | false=> refine ug hc yC hg h1 h2 ?_;exact .dv
theorem b9 (hx:x.toNat<t.length):yY prog 103 [.int .u64 (ui k),.sl 1 (us t),.int .u64 (ui x),.int .u64 (ui y)] (.bool (rA 2 k t x y)):=by
 have hg:=kT t hx;have h1:=kS x;have h2:=tR hx;show yY _ _ _ (.bool (x==0#64 || t.getD x.toNat 0 != 0#64));refine yP func103 j2 λhf=>?_
 cases hc:(x==0#64) with
 | true=> refine ug hc yC hg h1 h2 ?_;exact .dv
 | false=> refine ug hc yC hg h1 h2 ?_;exact .dv
theorem e7 : yY prog 104 [.int .u64 (ui k),.sl 1 (us t),.int .u64 (ui x),.int .u64 (ui y)] (.bool (rA 3 k t x y)):=by show yY _ _ _ (.bool true);refine yP func104 j3 λhf=>?_;refine xC ?_;exact .dv
theorem e8 (hx:x.toNat<t.length):yY prog 105 [.int .u64 (ui k),.sl 1 (us t),.int .u64 (ui x),.int .u64 (ui y)] (.bool (rA 4 k t x y)):=by have hy:(x &&& y).toNat<t.length:=ζ (xc x y) hx;have hg:=kT t hx;have h1:=kS x;have h2:=tR hx;have hg':=kT t hy;have h1':=kS (x &&& y);have h2':=tR hy;show yY _ _ _ (.bool (t.getD x.toNat 0 &&& y &&& ~~~(t.getD (x &&& y).toNat 0)== 0#64));refine yP func105 j4 λhf=>?_;refine cw yC hg h1 h2 hg' h1' h2' ?_;exact .dv
theorem e9 (hx:x.toNat<t.length):yY prog 106 [.int .u64 (ui k),.sl 1 (us t),.int .u64 (ui x),.int .u64 (ui y)] (.bool (rA 5 k t x y)):=by
 have hy:(x &&& y).toNat<t.length:=ζ (xc x y) hx;have hg:=kT t hx;have h1:=kS x;have h2:=tR hx;have hg':=kT t hy;have h1':=kS (x &&& y);have h2':=tR hy;show yY _ _ _ (.bool (t.getD x.toNat 0 &&& y==0#64 || t.getD (x &&& y).toNat 0 &&& ~~~(t.getD x.toNat 0 &&& y)== 0#64));refine yP func106 j5 λhf=>?_
 cases hc:(t.getD x.toNat 0 &&& y==0#64) with
 | true=> refine v8 hc yC hg h1 h2 hg' h1' h2' ?_;exact .dv
 | false=> refine v8 hc yC hg h1 h2 hg' h1' h2' ?_;exact .dv
theorem fits (hx:x.toNat<t.length):∀ {i:Nat},i<6->yY prog (101+i) [.int .u64 (ui k),.sl 1 (us t),.int .u64 (ui x),.int .u64 (ui y)] (.bool (rA i k t x y))
 | 0,_=>b7 hx
 | 1,_=>b8 hx
 | 2,_=>b9 hx
 | 3,_=>e7
 | 4,_=>e8 hx
 | 5,_=>e9 hx
 | _+6,h=>absurd h (by omega)
end
theorem bN : kV.length=6:=rfl
theorem vk : ∀ {i:Nat},i<6->kV.getD i [] = [.bool (decide (4<=i)),.fn (101+i) []]
 | 0,_=>rfl
 | 1,_=>rfl
 | 2,_=>rfl
 | 3,_=>rfl
 | 4,_=>rfl
 | 5,_=>rfl
 | _+6,h=>absurd h (by omega)
theorem qv {i n:Nat} {b:BitVec 64} {t:List (BitVec 64)} (hi:i<6) (hn:n<=3) (hl:t.length=2 ^ 2 ^ n) (hp:∀ x y:BitVec 64,x.toNat<t.length->y.toNat<t.length->rA i b t x y=true) :
  yY prog 25 [.int .i64 i,.int .i64 n,.int .u64 (ui b),.sl 1 (us t)] (.yK [.int .u64 0,.int .u64 0,.bool false]):=by
 have h:=mJ hn;have hS:=eW hn;have hr:=vk hi;have hrl:=bN;have h1:1<=2 ^ 2 ^ n:=Nat.one_le_two_pow;have hcN:=pN (show 2 ^ 2 ^ n<=1000000 by omega);have htab:=w5;generalize decide (4<=i)= tw at hr;generalize kV=RT at *
 have hst:∀ k:Nat,BitVec.ofNat 64 k+1#64=BitVec.ofNat 64 (k+1):=λk=>by apply BitVec.eq_of_toNat_eq;simp [BitVec.toNat_add,BitVec.toNat_ofNat]
 have huk:∀ k:Nat,k<=1000->ui (BitVec.ofNat 64 k)= (k:Int):=λk hk=>jY (by omega);have hnk:∀ k:Nat,k<=1000->(BitVec.ofNat 64 k).toNat=k:=λk hk=>by rw [BitVec.toNat_ofNat]; exact Nat.mod_eq_of_lt (by omega)
 have hfit:=λx y (hx:x.toNat<t.length)=>fits (k:=b) (t:=t) (x:=x) (y:=y) hx hi;generalize hN:2 ^ 2 ^ n=N at *;refine yP func25 XT λhf=>?_;refine yN @qA ?_;refine⟨_,htab,ε _,?_⟩;refine hU hr hrl ?_
 cases tw with
 | true=>
  refine pI ?_;refine .go (cq hS) ?_;refine pI ?_;refine .go (cq hS) ?_;refine yN hcN ?_
  refine xO (λk:Nat=>[(24,.int .u64 (ui (BitVec.ofNat 64 k))),(23,.int .u64 (N:Int)),(11,.int .i64 (N:Int)),(3,.sl 1 (us t)),(2,.int .u64 (ui b)),(0,.int .i64 i)]) (λ_=>⟨0,[]⟩) (λk=>k<=N) (λk=>N-k) 0 (γ _) ?_ ?_
  ·exact tW
  intro k hk;refine yQ mixed ?_;have uk:=huk k (by omega);by_cases hkl:k<N
  case neg=>
   have hd:¬ (ui (BitVec.ofNat 64 k)<(N:Int)):=by omega
   refine yN hd ?_;exact .drop (by simp) (by simp [vw,sB])
  have hd:(ui (BitVec.ofNat 64 k)<(N:Int)):=by omega
  refine rE hd hcN ?_
  refine xO (λj:Nat=>[(29,.int .u64 (ui (BitVec.ofNat 64 j))),(28,.int .u64 (N:Int)),(24,.int .u64 (ui (BitVec.ofNat 64 k))),(23,.int .u64 (N:Int)),(12,.int .u64 (ui (BitVec.ofNat 64 k))),(11,.int .i64 (N:Int)),(3,.sl 1 (us t)),(2,.int .u64 (ui b)),(0,.int .i64 i)]) (λ_=>⟨0,[]⟩) (λj=>(j:Int)<=(N:Int)) (λj=>N-j) 0 (by show ((0:Nat):Int)<=(N:Int); omega) ?_ ?_
  ·exact tW
  intro j hj;refine yQ mixed ?_;have uj:=huk j (by omega);by_cases hjl:(j:Int)<(N:Int)
  case neg=>
   have vF:¬ (ui (BitVec.ofNat 64 j)<(N:Int)):=by omega
   simp only [simprocAttr,-ZA,↓zU,↓zD,zV,zT,zW,vF];refine⟨k+1,by omega,?_,by omega⟩;rw [<- hst k];exact vR
  have vF:(ui (BitVec.ofNat 64 j)<(N:Int)):=by omega
  have hf:=hfit (BitVec.ofNat 64 k) (BitVec.ofNat 64 j) (by rw [hnk k (by omega)]; omega);rw [hp _ _ (by rw [hnk k (by omega)]; omega) (by rw [hnk j (by omega)]; omega)] at hf;simp only [simprocAttr,-ZA,↓zU,↓zD,zV,zT,zW,vF,qA];refine⟨_,htab,ε _,?_⟩;refine hU hr hrl ?_;refine .go (cr hf) ?_;refine xC ?_;refine⟨j+1,by omega,?_,by omega⟩;rw [<- hst j];exact vR
 | false=>
  refine pI ?_;refine .go (cq hS) ?_;refine yN hcN ?_;have hc1:IntKind.u64.wrap 1=1:=rfl;have u1:ui 1#64=1:=rfl
  refine xO (λk:Nat=>[(24,.int .u64 (ui (BitVec.ofNat 64 k))),(23,.int .u64 (N:Int)),(11,.int .i64 (1:Int)),(3,.sl 1 (us t)),(2,.int .u64 (ui b)),(0,.int .i64 i)]) (λ_=>⟨0,[]⟩) (λk=>k<=N) (λk=>N-k) 0 (γ _) ?_ ?_
  ·exact tW
  intro k hk;refine yQ mixed ?_;have uk:=huk k (by omega);by_cases hkl:k<N
  case neg=>
   have hd:¬ (ui (BitVec.ofNat 64 k)<(N:Int)):=by omega
   refine yN hd ?_;exact .drop (by simp) (by simp [vw,sB])
  have hd:(ui (BitVec.ofNat 64 k)<(N:Int)):=by omega
  refine rE hd hc1 ?_
  refine xO (λj:Nat=>[(29,.int .u64 (ui (BitVec.ofNat 64 j))),(28,.int .u64 (ui 1#64)),(24,.int .u64 (ui (BitVec.ofNat 64 k))),(23,.int .u64 (N:Int)),(12,.int .u64 (ui (BitVec.ofNat 64 k))),(11,.int .i64 (1:Int)),(3,.sl 1 (us t)),(2,.int .u64 (ui b)),(0,.int .i64 i)]) (λ_=>⟨0,[]⟩) (λj=>(j:Int)<=(1:Int)) (λj=>1-j) 0 (by show ((0:Nat):Int)<=(1:Int); omega) ?_ ?_
  ·exact tW
  intro j hj;refine yQ mixed ?_;have uj:=huk j (by omega);by_cases hjl:(j:Int)<(1:Int)
  case neg=>
   have vF:¬ (ui (BitVec.ofNat 64 j)<ui 1#64):=by omega
   simp only [simprocAttr,-ZA,↓zU,↓zD,zV,zT,zW,vF];refine⟨k+1,by omega,?_,by omega⟩;rw [<- hst k];exact vR
  have vF:(ui (BitVec.ofNat 64 j)<ui 1#64):=by omega
  have hf:=hfit (BitVec.ofNat 64 k) (BitVec.ofNat 64 j) (by rw [hnk k (by omega)]; omega);rw [hp _ _ (by rw [hnk k (by omega)]; omega) (by rw [hnk j (by omega)]; omega)] at hf;simp only [simprocAttr,-ZA,↓zU,↓zD,zV,zT,zW,vF,qA];refine⟨_,htab,ε _,?_⟩;refine hU hr hrl ?_;refine .go (cr hf) ?_;refine xC ?_;refine⟨j+1,by omega,?_,by omega⟩;rw [<- hst j];exact vR
end Go.Pd
