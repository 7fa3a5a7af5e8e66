/- Part M20. -/
import Derived.Test.YtcniiejbcjijjaaDoorZmM4
set_option linter.unusedSectionVars false
set_option linter.unusedVariables false
set_option linter.unusedSimpArgs false
set_option linter.defProp false
set_option maxRecDepth 20000
set_option maxHeartbeats 1000000
open Go.Proofs.Tryd
namespace Go.Pd
open Go Go.Proofs
open Mg
end Go.Pd

/- Part M21. -/
namespace Go.Pd
open Go Go.Proofs
open BitVec renaming isValue -> ZA
open Mg
theorem ja {n:Nat} (hn:n<=4):yY prog 40 [.int .i64 n] (.bool true):=by
 refine yP func40 Xg λhf=>?_;have h1:(0:Int)<=(n:Int):=by omega
 have h2:(n:Int)<=4:=by omega
 refine rE h1 h2 ?_;exact .same
theorem lQ {n:Nat} (s:BitVec 64) (hn:n<=4):yY prog 21 [.int .u64 (ui s),.int .i64 n] (.int .i64 (if s &&& ~~~(allM n)≠ 0#64 then 2 else 0)):=by
 refine yP func21 XO λhf=>?_;refine xC ?_;refine .go (cq (ja hn)) ?_;refine xC ?_;refine .go (cq (o8 hn)) ?_
 by_cases hb:s &&& ~~~(allM n)= 0#64
 ·have hb1:(s &&& ~~~(allM n) != 0#64)= false:=by simpa using hb
  refine yN hb1 ?_;rw [if_neg (by simpa using hb)];exact .same
 ·have hb1:(s &&& ~~~(allM n) != 0#64)= true:=by simpa using hb
  refine yN hb1 ?_;rw [if_pos hb];exact .same
theorem az {x:Int} (h:0<=x/\x<=1000):yY prog 39 [.int .i64 x] (.bool false):=by
 refine yP func39 Xf λhf=>?_;have h1:¬ x<0:=by omega
 have h2:¬ (1000:Int)<x:=by omega
 refine rE h1 h2 ?_;exact .same
theorem gi {r:List Int} (hr:∀ x ∈ r,0<=x/\x<=1000) (hl:r.length<=1000):yY prog 52 [.sl 1 (rows .i64 r),.fn 39 []] (.int .i64 (-1)):=by
 refine yP func52 Xo λhf=>?_;refine xC ?_
 refine xO (λk:Nat=>[(8,.int .i64 k),(7,.int .i64 r.length),(1,.fn 39 []),(0,.sl 1 (rows .i64 r))]) (λ_=>⟨0,[]⟩) (λk=>k<=r.length) (λk=>r.length-k) 0 (Nat.zero_le _) ?_ ?_
 ·exact tW
 intro k hk;refine yQ mixed ?_
 by_cases h:k<r.length
 ·have hd:((k:Int)<(r.length:Int)):=by omega
  simp only [simprocAttr,-ZA,↓zU,↓zD,zV,zT,zW,hd,xD _ _ h]
  (repeat refine sd ?_)
  refine .go (xU.zI (az (hr _ (nT h))) rfl) ?_;refine xC ?_;refine⟨k+1,by omega,?_,by omega⟩;exact vR
 ·have hd:¬ ((k:Int)<(r.length:Int)):=by omega
  refine yN hd ?_;exact .same
theorem ze {r:List Int} (hr:∀ x ∈ r,0<=x/\x<=1000) (hl:r.length<=1000):yY prog 38 [.sl 1 (rows .i64 r),.fn 39 []] (.bool false):=by refine yP func38 Xe λhf=>?_;refine xC ?_;refine .go (cr (gi hr hl)) ?_;refine xC ?_;exact .same
theorem fX {n:Nat} {r:List Int} (hn:n<=4) (hl:r.length=2 ^ n) (hr:∀ x ∈ r,0<=x/\x<=1000):yY prog 20 [.int .i64 n,.sl 1 (rows .i64 r)] (.int .i64 0):=by
 refine yP func20 XN λhf=>?_;have h16:=vK hn;have h1:¬ (n:Int)<0:=by omega
 have h2:¬ (4:Int)<(n:Int):=by omega
 have h3:((r.length:Int) != ((2 ^ n:Nat):Int))= false:=by rw [hl]; simp
 simp only [simprocAttr,-ZA,↓zU,↓zD,zV,zT,zW,h1,h2,xm (show n<=61 by omega),h3]
 (repeat refine sd ?_)
 refine .go (xU.zI (ze hr (by omega)) (by simp [D.xZ,D.xS])) ?_;refine xC ?_;exact .same
theorem lP {n:Nat} {r:List Int} (c:BitVec 64) (hn:n<=4) (hl:r.length=2 ^ n) (hr:∀ x ∈ r,0<=x/\x<=1000) :
  yY prog 10 [.int .i64 n,.sl 1 (rows .i64 r),.int .u64 (ui c)] (.yK [.int .u64 (ui (if c &&& ~~~(allM n)≠ 0#64 then 0#64 else zJ r c)),.int .i64 (if c &&& ~~~(allM n)≠ 0#64 then 1 else 0)]):=by
 refine yP func10 XD λhf=>?_;have h16:=vK hn;refine xC ?_;refine .go (cr (fX hn hl hr)) ?_;refine xC ?_;refine .go (cq (lQ c hn)) ?_
 by_cases hb:c &&& ~~~(allM n)= 0#64
 ·rw [if_neg (by simpa using hb),if_neg (by simpa using hb),if_neg (by simpa using hb)];refine xC ?_;refine .go (xU.zI (iR r c (by omega)) (by simp [D.xZ,D.xS])) ?_;refine xC ?_;exact .same
 ·rw [if_pos hb,if_pos hb,if_pos hb];refine xC ?_;exact .same
def uG (n:Nat) (b:BitVec 64) (v:Nat):Nat->Int
 | 0=>0
 | u+1=>if b.getLsbD u=true/\(uG n b v u=0\/(vF u v n:Int)+ 1<uG n b v u) then(vF u v n:Int)+ 1 else uG n b v u
theorem bJ (n:Nat) (b:BitVec 64) (v:Nat):∀ k,(uG n b v k=0/\uF (λu=>(vF u v n:Int)) (λu=>b.getLsbD u) n k=n/\∀ u,u<k->b.getLsbD u=false)\/uG n b v k=uF (λu=>(vF u v n:Int)) (λu=>b.getLsbD u) n k+1
 | 0=>.inl ⟨rfl,rfl,λu h=>by omega⟩
 | k + 1=>by
  have ih:=bJ n b v k;have hle:=eQ k v n;have h0:0<=uF (λu=>(vF u v n:Int)) (λu=>b.getLsbD u) n k:=vd (by omega) (λi=>by omega) k;have e0:uF (λu=>(vF u v n:Int)) (λu=>b.getLsbD u) n (k+1)= if b.getLsbD k then min (uF (λu=>(vF u v n:Int)) (λu=>b.getLsbD u) n k) (vF k v n) else uF (λu=>(vF u v n:Int)) (λu=>b.getLsbD u) n k:=rfl;rw [e0,uG];generalize uF (λu=>(vF u v n:Int)) (λu=>b.getLsbD u) n k=m at ih h0 ⊢
  cases hb:b.getLsbD k
  ·rw [if_neg (by simp),if_neg (by simp)]
   rcases ih with ⟨h1,h2,h3⟩ | h1
   ·exact .inl ⟨h1,h2,λu hu=>by
     by_cases e:u=k
     ·rw [e]; exact hb
     ·exact h3 u (by omega)⟩
   ·exact .inr h1
  ·rw [if_pos rfl];right
   rcases ih with ⟨h1,h2,h3⟩ | h1
   ·rw [if_pos ⟨rfl,.inl h1⟩]; omega
   ·by_cases c:(vF k v n:Int)+ 1<uG n b v k
    ·rw [if_pos ⟨rfl,.inr c⟩]; omega
    ·rw [if_neg (λx=>by rcases x.2 with y | y <;> omega)]; omega
theorem lp {n:Nat} {b:BitVec 64} (hb:∃ u,u<2 ^ n/\b.getLsbD u=true) (v:Nat):uG n b v (2 ^ n)= vW n b v+1:=by
 rcases bJ n b v (2 ^ n) with ⟨_,_,h⟩ | h
 ·obtain⟨u,h1,h2⟩:=hb;rw [h u h1] at h2; cases h2
 ·exact h
theorem jD (n:Nat) (b:BitVec 64) (v:Nat):∀ k,0<=uG n b v k/\uG n b v k<=n+1
 | 0=>by simp [uG]; omega
 | k+1=>by have:=jD n b v k;have:=eQ k v n;rw [uG]; split <;> omega
theorem tP (n:Nat) (b:BitVec 64):(wC n b).length=2 ^ n:=by simp [wC]
theorem ik {n:Nat} {b:BitVec 64} {v:Nat} (h:v<2 ^ n):(wC n b).getD v 0=vW n b v:=by simp [wC,List.getD,h]
def sM (n:Nat) (b:BitVec 64) (v:Nat) (x:Int):List Int:=(wC n b).take v++x :: List.replicate (2 ^ n-v-1) 0
theorem kd {n:Nat} {b:BitVec 64} {v:Nat} (h:v<2 ^ n) (x:Int):(sM n b v x).getD v 0=x:=by
 have:((wC n b).take v).length=v:=by rw [List.length_take,tP]; omega
 unfold sM;simp [List.getD,List.getElem?_append_right (show ((wC n b).take v).length<=v by omega),this]
theorem mP {n:Nat} {b:BitVec 64} {v:Nat} (h:v<2 ^ n) (x y:Int):(sM n b v x).set v y=sM n b v y:=by
 have:((wC n b).take v).length=v:=by rw [List.length_take,tP]; omega
 unfold sM;rw [List.set_append_right _ _ (by omega),this,Nat.sub_self,List.set_cons_zero]
theorem qw {n:Nat} {b:BitVec 64} {v:Nat} (h:v<2 ^ n) (x:Int):(sM n b v x).length=2 ^ n:=by
 have:((wC n b).take v).length=v:=by rw [List.length_take,tP]; omega
 unfold sM;rw [List.length_append,List.length_cons,List.length_replicate]; omega
theorem zk {n:Nat} {b:BitVec 64} {v:Nat} (h:v<2 ^ n):sM n b v (vW n b v)= (wC n b).take (v+1)++ List.replicate (2 ^ n-(v+1)) 0:=by unfold sM;rw [wF (d:=0) (by rw [tP]; exact h),ik h,List.append_assoc];rfl
theorem aD {n:Nat} {b:BitVec 64} {v:Nat} (h:v<2 ^ n):(wC n b).take v++List.replicate (2 ^ n-v) 0=sM n b v 0:=by unfold sM;rw [show 2 ^ n-v=(2 ^ n-v-1)+ 1 by omega,List.replicate_succ];rfl
theorem wj {n:Nat} {b:BitVec 64} (hn:n<=4) (hb0:rB n b=0):xU prog 27 [.int .i64 n,.int .u64 (ui b)] hZ (.yK [.yR 0 1 (2 ^ n),.int .i64 0]) ⟨1,[(0,⟨1,rows .i64 (wC n b)⟩)]⟩:=by
 refine yP func27 XV λhf=>?_;have h16:=vK hn;have hp0:0<2 ^ n:=Nat.two_pow_pos n;have hex:=(qc hn hb0).2
 have hbz:b &&& ~~~(allM n)= 0#64:=by
  by_cases c:b &&& ~~~(allM n)= 0#64
  ·exact c
  ·rw [rB,if_pos c] at hb0; cases hb0
 have h1:¬ (n:Int)<0:=by omega
 have h2:¬ (4:Int)<(n:Int):=by omega
 refine rE h1 h2 ?_;refine .go (cq (lQ b hn)) ?_;rw [if_neg (by simpa using hbz)];simp only [simprocAttr,-ZA,↓zU,↓zD,zV,zT,zW,xm (show n<=61 by omega)]
 (repeat refine sd ?_)
 rw [iC]
 refine xO (λk:Nat=>[(25,.int .i64 k),(24,.int .i64 ((2 ^ n:Nat):Int)),(6,.yR 0 1 (2 ^ n)),(1,.int .u64 (ui b))]) (λk=>⟨1,[(0,⟨1,rows .i64 ((wC n b).take k++List.replicate (2 ^ n-k) 0)⟩)]⟩) (λk=>k<=2 ^ n) (λk=>2 ^ n-k) 0 (Nat.zero_le _) ?_ ?_
 ·(refine zG.same ?_; simp only [wR,Fr.get,simprocAttr,-ZA,zS,List.take_zero,List.nil_append,Nat.sub_zero,Int.natCast_zero,Int.cast_ofNat_Int,ow])
 intro k hk;refine yQ mixed ?_;by_cases h:k<2 ^ n
 case neg=>
  have hd:¬ ((k:Int)<((2 ^ n:Nat):Int)):=by omega
  refine yN hd ?_;rw [show k=2 ^ n by omega,Nat.sub_self,List.replicate_zero,List.append_nil,show (wC n b).take (2 ^ n)= wC n b by rw [<- tP n b,List.take_length]];exact .same
 have hd:((k:Int)<((2 ^ n:Nat):Int)):=by omega
 rw [aD h];refine yN hd ?_
 refine xO (λu:Nat=>[(30,.int .i64 u),(29,.int .i64 ((2 ^ n:Nat):Int)),(25,.int .i64 k),(24,.int .i64 ((2 ^ n:Nat):Int)),(7,.int .i64 k),(6,.yR 0 1 (2 ^ n)),(1,.int .u64 (ui b))]) (λu=>⟨1,[(0,⟨1,rows .i64 (sM n b k (uG n b k u))⟩)]⟩) (λu=>u<=2 ^ n) (λu=>2 ^ n-u) 0 (Nat.zero_le _) ?_ ?_
 ·(refine zG.same ?_; simp [wR,Fr.get,uG])
 intro u hu;refine yQ mixed ?_;have hL:=qw (b:=b) h (uG n b k u);have hg:=xD .i64 (sM n b k (uG n b k u)) (i:=k) (by omega);rw [kd h] at hg;have hr:=jD n b k u
 by_cases h3:u<2 ^ n
 ·have hd3:((u:Int)<((2 ^ n:Nat):Int)):=by omega
  have hx:=ot (show u<16 by omega) (show k<16 by omega);have hle:=eQ u k n;simp only [simprocAttr,-ZA,↓zU,↓zD,zV,zT,zW,hd3,wH,hx.1,pN (show u ^^^ k<=1000000 by omega)]
  (repeat refine sd ?_)
  refine .go (xU.zI (oa (k:=u ^^^ k) hx.2) rfl) ?_;rw [uz hn h3 h];have e0:uG n b k (u+1)= if b.getLsbD u=true/\(uG n b k u=0\/(vF u k n:Int)+ 1<uG n b k u) then(vF u k n:Int)+ 1 else uG n b k u:=rfl;have ew:IntKind.i64.wrap ((vF u k n:Int)+ 1)= (vF u k n:Int)+ 1:=wrap_i64 (by omega)
  cases hb:b.getLsbD u
  ·rw [hb,if_neg (by simp)] at e0;refine hU wH hb ?_;refine⟨u+1,by omega,?_,by omega⟩;rw [e0];exact vR
  ·rw [hb] at e0
   by_cases hz:uG n b k u=0
   ·rw [if_pos ⟨rfl,.inl hz⟩] at e0;have hz1:(uG n b k u==0)= true:=by simpa using hz
    refine l8 wH hb hg hL hz1 ew ?_;refine⟨u+1,by omega,?_,by omega⟩;rw [nZ,mP h,e0];exact vR
   ·have hz1:(uG n b k u==0)= false:=by simpa using hz
    by_cases hl:(vF u k n:Int)+ 1<uG n b k u
    ·rw [if_pos ⟨rfl,.inr hl⟩] at e0;refine cw wH hb hg hL hz1 ew hl ?_;refine⟨u+1,by omega,?_,by omega⟩;rw [nZ,mP h,e0];exact vR
    ·rw [if_neg (λx=>by rcases x.2 with y | y <;> omega)] at e0;refine cw wH hb hg hL hz1 ew hl ?_;refine⟨u+1,by omega,?_,by omega⟩;rw [e0];exact vR
 ·have hd3:¬ ((u:Int)<((2 ^ n:Nat):Int)):=by omega
  obtain rfl:u=2 ^ n:=by omega
  rw [lp hex] at hg hL ⊢;have hdr:=wI n b k;have ew:IntKind.i64.wrap (vW n b k+1-1)= vW n b k:=by rw [wrap_i64 (by omega)]; omega
  have hmx:(if (0:Int)<vW n b k then vW n b k else 0)= vW n b k:=by split <;> omega
  refine ug hd3 hg hL ew hmx ?_;refine⟨k+1,by omega,?_,by omega⟩;rw [nZ,mP h,zk h];exact vR
theorem iF {n:Nat} {b c:BitVec 64} (hn:n<=4) (hb:rB n b=0) (hc:c &&& ~~~(allM n)= 0#64) :
  yY prog 14 [.int .i64 n,.int .u64 (ui b),.int .u64 (ui c)] (.yK [.int .u64 (ui (zJ (wC n b) c)),.int .i64 0]):=by
 refine yP func14 XH λhf=>?_;have h16:=vK hn;refine xC ?_;have hd:=wj hn hb;refine .go hd ?_;refine xC ?_
 have hr:=lP (r:=wC n b) c hn (tP n b) (λx hx=>by simp only [wC,List.mem_map] at hx;obtain⟨v,_,rfl⟩:=hx;have:=wI n b v;omega)
 rw [if_neg (by simpa using hc),if_neg (by simpa using hc)] at hr;refine .go (xU.u7 hr ⟨jO _ _,fT (by simp [St.get,St.look]) (tP n b).symm,jO _ _,trivial⟩ rfl) ?_;refine xC ?_;exact .drop (by simp) (by simp only [vw,sB,and_self])
end Go.Pd
