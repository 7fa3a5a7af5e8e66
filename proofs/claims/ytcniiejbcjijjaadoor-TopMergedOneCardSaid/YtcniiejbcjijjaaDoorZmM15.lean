/- Part M15. -/
import Derived.Test.YtcniiejbcjijjaaDoorZmM13
set_option linter.unusedSectionVars false
set_option linter.unusedVariables false
set_option linter.unusedSimpArgs false
set_option linter.defProp false
set_option maxRecDepth 20000
set_option maxHeartbeats 1000000
open Go.Proofs.Tryd
open List renaming length_append->γ,mem_singleton->δ,take_length->ε,length_take->ζ
open Nat renaming le_refl->η
open Int renaming toNat_natCast->θ
namespace Go.Pd
open Go Go.Proofs
open BitVec renaming isValue -> ZA
open Mg
def yE (l:List (List Int)):Nat->List (List Int)
 | 0=>[]
 | k+1=>if 0<k/\l.getD k []=l.getD (k-1) [] then yE l k else yE l k ++ [l.getD k []]
def dedup (l:List (List Int)):List (List Int):=yE l l.length
theorem pV {l:List (List Int)}:∀ {k:Nat},k<=l.length->(∀ i,0<i->i<k->l.getD i []≠l.getD (i-1) [])->yE l k=l.take k
 | 0,_,_=>by simp [yE]
 | k+1,h,hn=>by rw [yE,if_neg (λc=>hn k c.1 (by omega) c.2),pV (by omega) (λi h1 h2=>hn i h1 (by omega)),<- wF (by omega)]
theorem uv (l:List (List Int)):∀ k,(yE l k).length<=k
 | 0=>η _
 | k+1=>by
  have:=uv l k;rw [yE]
  split
  ·omega
  ·rw [γ]; simp; omega
theorem qp (l:List (List Int)) (k:Nat):(yE l k).length<=(yE l (k+1)).length:=by
 rw [yE]; split
 ·exact η _
 ·rw [γ]; omega
theorem bc (l:List (List Int)) (i:Nat) (x:List Int):(rl l).set i [.sl 1 (rows .i64 x)]=rl (l.set i x):=by simp [rl,List.map_set]
theorem fQ (o:List (List Int)) (i j:Nat) (x:List Int):(o.set i x).getD j []=if i=j/\j<o.length then x else o.getD j []:=by
 simp only [List.getD,List.getElem?_set]
 split
 ·rename_i h; subst h; by_cases hj:i<o.length
  ·simp [hj]
  ·simp [hj]
 ·rename_i h; simp [h]
theorem aX (l:List (List Int)):∀ k,0<(yE l (k+1)).length
 | 0=>by rw [yE,if_neg (by omega),γ]; simp
 | k+1=>Nat.lt_of_lt_of_le (aX l k) (qp l (k+1))
theorem fU {k:Nat} {o o':Ob}:∀ {r:List (Nat × Ob)},St.look r k=some o->St.look (vY r k o') k=some o'
 | [],h=>by cases h
 | (j,ob) :: r,h=>by
  rw [sF] at h;rw [vA]
  by_cases e:j=k
  ·rw [if_pos e,sF,if_pos e]
  ·rw [if_neg e] at h;rw [if_neg e,sF,if_neg e,fU h]
theorem nA (k:Nat) (a b:Ob):∀ r:List (Nat × Ob),vY (vY r k a) k b=vY r k b
 | []=>rfl
 | (j,ob) :: r=>by
  rw [vA,vA]
  by_cases e:j=k
  ·rw [if_pos e,if_pos e,vA,if_pos e]
  ·rw [if_neg e,if_neg e,vA,if_neg e,nA k a b r]
def ez (l:List (List Int)):List (List D):=rl (dedup l)++ List.replicate (l.length-(dedup l).length) [.xB]
theorem cP {σ:St} {key:Nat} {l:List (List Int)} (hget:σ.get key=some ⟨1,rl l⟩) (hlen:l.length<=1000) (hne:l ≠ []) :
  xU prog 35 [.yR key 1 l.length,.fn 36 []] σ (.yR key 1 (dedup l).length) (σ.set key ⟨1,ez l⟩):=by
 obtain⟨nx,xW⟩:=σ;have hpos:0<l.length:=List.length_pos_iff.2 hne;have hg:St.look xW key=some ⟨1,rl l⟩:=hget
 have whole:dedup l=l->(.yR key 1 (dedup l).length=D.yR key 1 l.length/\(⟨nx,vY xW key ⟨1,ez l⟩⟩:St)= ⟨nx,xW⟩):=by
  intro e;refine⟨by rw [e],?_⟩;have:ez l=rl l:=by unfold ez; rw [e]; simp
  rw [this,qB hg]
 refine yP func35 Xb λhf=>?_
 by_cases h2:l.length<2
 ·have hd:(l.length:Int)<2:=by omega
  refine yN hd ?_
  have e:dedup l=l:=by unfold dedup;rw [pV (η _) (λi h1 h3=>by omega),ε]
  obtain⟨e1,e2⟩:=whole e;exact .inl ⟨e1,e2⟩
 have hd:¬ (l.length:Int)<2:=by omega
 refine yN hd ?_
 refine xO (λk:Nat=>[(5,.int .i64 k),(1,.fn 36 []),(0,.yR key 1 l.length)]) (λ_=>⟨nx,xW⟩) (λk=>1<=k/\k<=l.length/\∀ i,0<i->i<k->l.getD i []≠l.getD (i-1) []) (λk=>l.length-k) 1 ⟨η _,by omega,λi h1 h2=>by omega⟩ ?_ ?_
 ·exact tW
 intro i0 ⟨hi1,hi2,hi3⟩;refine yQ mixed ?_;by_cases h:i0<l.length
 case neg=>
  have hd:¬ ((i0:Int)<(l.length:Int)):=by omega
  have e:dedup l=l:=by unfold dedup;rw [pV (η _) (λi h1 h3=>hi3 i h1 (by omega)),ε]
  obtain⟨e1,e2⟩:=whole e;refine yN hd ?_;exact .inl ⟨e1,e2⟩
 have hd:((i0:Int)<(l.length:Int)):=by omega
 have em:IntKind.i64.wrap ((i0:Int)-1)= ((i0-1:Nat):Int):=by rw [wrap_i64 (by omega)]; omega
 simp only [simprocAttr,-ZA,↓zU,↓zD,zV,zT,zW,hd,hg,sV l h,em,zA,sV l (show i0-1<l.length by omega)]
 (repeat refine sd ?_)
 refine .go (xU.zI (iG (l.getD i0 []) (l.getD (i0-1) [])) (by simp [D.xZ,D.xS])) ?_;by_cases hq:l.getD i0 []=l.getD (i0-1) []
 case neg=>
  simp only [simprocAttr,-ZA,↓zU,↓zD,zV,zT,zW,decide_eq_false hq]
  refine⟨i0+1,⟨by omega,by omega,λi h1 h3=>?_⟩,?_,by omega⟩
  ·by_cases e:i=i0
   ·rw [e]; exact hq
   ·exact hi3 i h1 (by omega)
  exact vR
 simp only [simprocAttr,-ZA,↓zU,↓zD,zV,zT,zW,decide_eq_true hq];have ei:¬ (i0:Int)= 0:=by omega
 have ei2:¬ (i0:Int)= (l.length:Int):=by omega
 refine⟨i0,l.length,rfl,rfl,by omega,by omega,by omega,?_⟩;simp only [θ,if_neg ei,if_neg ei2];have d1:yE l (i0+1)= l.take i0:=by rw [yE,if_pos ⟨by omega,hq⟩,pV (by omega) hi3]
 refine xO (λa:Nat × List (List Int)=>[(7,.int .i64 a.1),(6,.sub key 1 i0 (l.length-i0)),(5,.int .i64 (yE l (i0+a.1)).length),(1,.fn 36 []),(0,.yR key 1 l.length)]) (λa=>⟨nx,vY xW key ⟨1,rl a.2⟩⟩)
  (λa=>1<=a.1/\i0+a.1<=l.length/\a.2.length=l.length/\(yE l (i0+a.1)).length<i0+a.1/\a.2.take (yE l (i0+a.1)).length=yE l (i0+a.1)/\ ∀ j,i0+a.1-1<=j->a.2.getD j []=l.getD j []) (λa=>l.length-a.1) (1,l)
  ⟨η _,by omega,rfl,by rw [d1,ζ]; omega,by rw [d1,ζ,Nat.min_eq_left (by omega)],λj _=>rfl⟩ ?_ ?_
 ·rw [qB hg]
  (refine zG.same ?_; simp [wR,Fr.get,d1])
  omega
 intro ⟨q,o⟩ ⟨q1,q2,q3,q4,q5,q6⟩;simp only at q1 q2 q3 q4 q5 q6;have hlk:∀ ob:Ob,St.look (vY xW key ob) key=some ob:=λob=>fU hg;refine yQ mixed ?_
 by_cases hp:i0+q<l.length
 ·have hd3:((q:Int)<((l.length-i0:Nat):Int)):=by omega
  have eq1:IntKind.i64.wrap ((q:Int)-1)= ((q-1:Nat):Int):=by rw [wrap_i64 (by omega)]; omega
  simp only [simprocAttr,-ZA,↓zU,↓zD,zV,zT,zW,hd3,hlk,eq1,zA,sV o (show i0+q<o.length by omega),sV o (show i0+(q-1)<o.length by omega)]
  (repeat refine sd ?_)
  refine .go (xU.zI (iG (o.getD (i0+q) []) (o.getD (i0+(q-1)) [])) (by simp [D.xZ,D.xS])) ?_;have a1:o.getD (i0+q) []=l.getD (i0+q) []:=q6 _ (by omega);have a2:o.getD (i0+(q-1)) []=l.getD (i0+q-1) []:=by rw [q6 _ (by omega)]; congr 1; omega
  rw [a1,a2]
  by_cases hq2:l.getD (i0+q) []=l.getD (i0+q-1) []
  ·have dd:yE l (i0+(q+1))= yE l (i0+q):=by show yE l ((i0+q)+ 1)= _;rw [yE,if_pos ⟨by omega,hq2⟩]
   simp only [simprocAttr,-ZA,↓zU,↓zD,zV,zT,zW,decide_eq_true hq2];refine⟨(q+1,o),⟨by show 1<=q+1; omega,by show i0+(q+1)<=l.length; omega,q3,by show (yE l (i0+(q+1))).length<i0+(q+1); rw [dd]; omega,by show o.take (yE l (i0+(q+1))).length=yE l (i0+(q+1)); rw [dd,q5],λj hj=>q6 j (by change i0+(q+1)-1<=j at hj; omega)⟩,?_,by show l.length-(q+1)<l.length-q; omega⟩
   (refine zG.same ?_; simp only [wR,Fr.get,simprocAttr,-ZA,zS,dd])
   exact wrap_i64 (by omega)
  ·have dd:yE l (i0+(q+1))= yE l (i0+q)++ [l.getD (i0+q) []]:=by show yE l ((i0+q)+ 1)= _;rw [yE,if_neg (λc=>hq2 c.2)]
   have dl:(yE l (i0+(q+1))).length=(yE l (i0+q)).length+1:=by rw [dd,γ]; rfl
   simp only [simprocAttr,-ZA,↓zU,↓zD,zV,zT,zW,decide_eq_false hq2,hlk,zA,sV o (show i0+q<o.length by omega),a1]
   (repeat refine sd ?_)
   have c1:(yE l (i0+q)).length<o.length:=by omega
   have eset:(rl o).set (yE l (i0+q)).length (((rl o).getD (yE l (i0+q)).length []).set 0 (D.sl 1 (rows .i64 (l.getD (i0+q) []))))= rl (o.set (yE l (i0+q)).length (l.getD (i0+q) [])):=by rw [sV o c1];exact bc _ _ _
   refine⟨(q+1,o.set (yE l (i0+q)).length (l.getD (i0+q) [])),⟨by show 1<=q+1; omega,by show i0+(q+1)<=l.length; omega,by show (o.set _ _).length=_; rw [List.length_set]; exact q3,by show (yE l (i0+(q+1))).length<i0+(q+1); omega,?_,λj hj=>?_⟩,?_,by show l.length-(q+1)<l.length-q; omega⟩
   ·show (o.set (yE l (i0+q)).length (l.getD (i0+q) [])).take (yE l (i0+(q+1))).length=_;rw [dl,wF (d:=[]) (by rw [List.length_set]; exact c1),fQ,if_pos ⟨rfl,c1⟩,dd,List.take_set_of_le (η _),q5]
   ·change i0+(q+1)-1<=j at hj;show (o.set (yE l (i0+q)).length (l.getD (i0+q) [])).getD j []=_;rw [fQ,if_neg (by omega)];exact q6 j (by omega)
   ·simp only [nA,eset]
    (refine zG.same ?_; simp only [wR,Fr.get,simprocAttr,-ZA,zS,dl])
    exact⟨wrap_i64 (by omega),wrap_i64 (by omega)⟩
 ·have hd3:¬ ((q:Int)<((l.length-i0:Nat):Int)):=by omega
  have ed:yE l (i0+q)= dedup l:=by unfold dedup; rw [show i0+q=l.length by omega]
  have c0:0<(dedup l).length:=by have:=aX l (l.length-1);rw [show l.length-1+1=l.length by omega] at this;exact this
  rw [ed] at q4 q5;refine rE hd3 ed ?_;refine⟨(dedup l).length,l.length,rfl,rfl,by omega,by omega,by omega,?_⟩;rw [if_neg (show ¬ ((dedup l).length:Int)= 0 by omega),if_neg (show ¬ ((dedup l).length:Int)= (l.length:Int) by omega)];simp only [θ,hlk,zA,true_and];refine⟨by omega,by omega,?_⟩;refine⟨0,(dedup l).length,rfl,rfl,by omega,by omega,by omega,?_⟩;rw [if_pos rfl];refine .inl ⟨by rw [θ],?_⟩;have e2:(rl o).take (dedup l).length=rl (dedup l):=by rw [iu,q5]
  have e3:(rl o).drop ((dedup l).length+(l.length-(dedup l).length))= []:=List.drop_eq_nil_of_le (by rw [zA]; omega)
  have e4:ez l=(rl o).take (dedup l).length++(List.replicate (l.length-(dedup l).length) [D.xB]++(rl o).drop ((dedup l).length+(l.length-(dedup l).length))):=by rw [e2,e3,List.append_nil]; rfl
  rw [e4];simp only [nA]
open Mg
theorem nS {l:List (List Int)}:∀ {k:Nat} {x:List Int},x ∈ yE l k ↔ ∃ i,i<k/\l.getD i []=x
 | 0,x=>by simp [yE]
 | k+1,x=>by
  rw [yE]
  by_cases h:0<k/\l.getD k []=l.getD (k-1) []
  ·rw [if_pos h,nS];refine⟨λ⟨i,hi,e⟩=>⟨i,by omega,e⟩,λ⟨i,hi,e⟩=>?_⟩
   by_cases ei:i=k
   ·exact⟨k-1,by omega,by rw [<- h.2,<- ei]; exact e⟩
   ·exact⟨i,by omega,e⟩
  ·rw [if_neg h,List.mem_append,nS,δ];refine⟨λc=>c.elim (λ⟨i,hi,e⟩=>⟨i,by omega,e⟩) (λe=>⟨k,by omega,e.symm⟩),λ⟨i,hi,e⟩=>?_⟩
   by_cases ei:i=k
   ·exact .inr (by rw [<- e,ei])
   ·exact .inl ⟨i,by omega,e⟩
theorem xd {l:List (List Int)} (h:pt l) {i j:Nat} (hij:i<j) (hj:j<l.length):¬ xG (l.getD j []) (l.getD i [])<0:=by have:=List.pairwise_iff_getElem.1 h i j (by omega) hj hij;simpa [List.getD,hj,show i<l.length by omega] using this
theorem sY {l:List (List Int)} (h:pt l):∀ {k:Nat},k<=l.length->(yE l k).Pairwise λa b=>xG a b<0
 | 0,_=>List.Pairwise.nil
 | k + 1,hk=>by
  rw [yE]
  by_cases c:0<k/\l.getD k []=l.getD (k-1) []
  ·rw [if_pos c]; exact sY h (by omega)
  ·rw [if_neg c];refine List.pairwise_append.2 ⟨sY h (by omega),List.pairwise_singleton _ _,λx hx y hy=>?_⟩;rw [δ] at hy;subst hy;obtain⟨i,hi,rfl⟩:=nS.1 hx;have h1:=xd h hi (show k<l.length by omega)
   by_cases e:xG (l.getD i []) (l.getD k [])<0
   ·exact e
   ·exfalso;have eq:l.getD i []=l.getD k []:=mQ h1 e
    by_cases e2:i=k-1
    ·exact c ⟨by omega,by rw [<- eq,e2]⟩
    ·have h2:=xd h (show i<k-1 by omega) (show k-1<l.length by omega);have h3:=xd h (show k-1<k by omega) (show k<l.length by omega);rw [eq] at h2;exact c ⟨by omega,mQ h3 h2 |>.symm⟩
theorem qq {l:List (List Int)} (h:pt l):pt (dedup l):=by have:=sY h (η l.length);exact this.imp λ{a b} h=>by have:=wE a b; omega
theorem xz {l:List (List Int)} (h:pt l):(dedup l).Nodup:=by have:=sY h (η l.length);refine this.imp λ{a b} h e=>?_;rw [e,pY] at h;omega
theorem qu {l:List (List Int)} {x:List Int}:x ∈ dedup l ↔ x ∈ l:=by
 unfold dedup;rw [nS]
 constructor
 ·rintro ⟨i,hi,rfl⟩; exact nT hi
 ·intro h;obtain⟨i,hi,e⟩:=List.mem_iff_getElem.1 h;exact⟨i,hi,by simp [List.getD,hi,e]⟩
theorem wu (l:List (List Int)) (v:Nat):(below (dedup (nI l)) (l.getD v []):Int)= pS l v:= gn (xz (jK l)) (λx=>qu.trans (mN l).mem_iff) v
theorem qt (l:List (List Int)):(dedup l).length<=l.length:=uv l l.length
end Go.Pd
