/- Part M13. -/
import Derived.Test.YtcniiejbcjijjaaDoorZmM12
set_option linter.unusedSectionVars false
set_option linter.unusedVariables false
set_option linter.unusedSimpArgs false
set_option linter.defProp false
set_option maxRecDepth 20000
set_option maxHeartbeats 1000000
open Go.Proofs.Tryd
open List renaming length_cons->γ,pairwise_iff_getElem->δ,drop_eq_nil_of_le->ε,map_congr_left->ζ,filter_cons->η
open Nat renaming zero_le->θ
namespace Go.Pd
open Go Go.Proofs
open BitVec renaming isValue -> ZA
open Mg
theorem bH (a:Int):yY prog 74 [.int .i64 a] (.bool false):=by refine yP func74 Xr λhf=>?_;refine xC ?_;exact .same
theorem zd (a b:Int):yY prog 51 [.int .i64 a,.int .i64 b] (.int .i64 (if a<b then -1 else if b<a then 1 else 0)):=by
 refine yP func51 Xn λhf=>?_;refine xC ?_;refine .go (cq (bH a)) ?_;refine xC ?_;refine .go (cq (bH b)) ?_
 by_cases h1:a<b
 ·refine yN h1 ?_;exact .same
 ·by_cases h2:b<a
  ·refine rE h1 h2 ?_;exact .same
  ·refine rE h1 h2 ?_;exact .same
theorem kp (b:List Int):xG [] b=if b.length=0 then 0 else -1:=by cases b <;> rfl
theorem zq (x:Int) (a:List Int):xG (x :: a) []=1:=rfl
theorem rm (x y:Int) (a b:List Int):xG (x :: a) (y :: b)= if x<y then -1 else if y<x then 1 else xG a b:=rfl
theorem rK (a b:List Int):yY prog 34 [.sl 1 (rows .i64 a),.sl 1 (rows .i64 b)] (.int .i64 (xG a b)):=by
 refine yP func34 Xa λhf=>?_;simp only [D.tV,D.fact,zE] at hf;have hlen:=hf.1.1;refine xC ?_
 refine xO (λk:Nat=>[(11,.int .i64 k),(10,.int .i64 a.length),(9,.sl 1 (rows .i64 a)),(1,.sl 1 (rows .i64 b)),(0,.sl 1 (rows .i64 a))]) (λ_=>⟨0,[]⟩) (λk=>k<=a.length/\k<=b.length/\xG a b=xG (a.drop k) (b.drop k)) (λk=>a.length-k) 0 ⟨θ _,θ _,rfl⟩ ?_ ?_
 ·exact tW
 intro k ⟨hk,hk2,hi⟩;refine yQ mixed ?_
 by_cases h:k<a.length
 ·have hd:((k:Int)<(a.length:Int)):=by omega
  have e1:a.drop k=a.getD k 0 :: a.drop (k+1):=by simp [List.getD,h]
  rw [e1] at hi
  by_cases h2:k<b.length
  ·have vF:¬ ((b.length:Int)<=(k:Int)):=by omega
   have hd3:((k:Int)<(b.length:Int)):=by omega
   have e2:b.drop k=b.getD k 0 :: b.drop (k+1):=by simp [List.getD,h2]
   rw [e2,rm] at hi;simp only [simprocAttr,-ZA,↓zU,↓zD,zV,zT,zW,hd,xD .i64 a h,vF,hd3,xD .i64 b h2]
   (repeat refine sd ?_)
   refine .go (xU.zI (zd (a.getD k 0) (b.getD k 0)) rfl) ?_
   by_cases c1:a.getD k 0<b.getD k 0
   ·rw [if_pos c1] at hi ⊢;refine xC ?_;rw [hi];exact .same
   ·by_cases c2:b.getD k 0<a.getD k 0
    ·rw [if_neg c1,if_pos c2] at hi ⊢;refine xC ?_;rw [hi];exact .same
    ·rw [if_neg c1,if_neg c2] at hi ⊢;refine xC ?_;refine⟨k+1,⟨by omega,by omega,hi⟩,?_,by omega⟩;exact vR
  ·have vF:((b.length:Int)<=(k:Int)):=by omega
   rw [ε (show b.length<=k by omega),zq] at hi;simp only [simprocAttr,-ZA,↓zU,↓zD,zV,zT,zW,hd,xD .i64 a h,vF]
   (repeat refine sd ?_)
   rw [hi];exact .same
 ·have hd:¬ ((k:Int)<(a.length:Int)):=by omega
  rw [ε (show a.length<=k by omega),kp,List.length_drop] at hi
  by_cases c:a.length<b.length
  ·have c':(a.length:Int)<(b.length:Int):=by omega
   rw [if_neg (by omega)] at hi;refine rE hd c' ?_;rw [hi];exact .same
  ·have c':¬ (a.length:Int)<(b.length:Int):=by omega
   rw [if_pos (by omega)] at hi;refine rE hd c' ?_;rw [hi];exact .same
theorem iG (a b:List Int):yY prog 36 [.sl 1 (rows .i64 a),.sl 1 (rows .i64 b)] (.bool (decide (a=b))):=by
 refine yP func36 Xc λhf=>?_;simp only [D.tV,D.fact,zE] at hf;have hlen:=hf.1.1;by_cases h1:a.length=b.length
 case neg=>
  have h1':((a.length:Int) != (b.length:Int))= true:=by simp; omega
  refine yN h1' ?_;exact .drop (by simp) (by simp only [vw,D.bool.injEq]; symm; apply decide_eq_false; rintro rfl; exact h1 rfl)
 have h1':((a.length:Int) != (b.length:Int))= false:=by simp; omega
 refine yN h1' ?_
 refine xO (λk:Nat=>[(13,.int .i64 k),(12,.int .i64 a.length),(1,.sl 1 (rows .i64 b)),(0,.sl 1 (rows .i64 a))]) (λ_=>⟨0,[]⟩) (λk=>k<=a.length/\∀ i,i<k->a.getD i 0=b.getD i 0) (λk=>a.length-k) 0 ⟨θ _,λi hi=>by omega⟩ ?_ ?_
 ·exact tW
 intro k ⟨hk,hi⟩;refine yQ mixed ?_
 by_cases h:k<a.length
 ·have hd:((k:Int)<(a.length:Int)):=by omega
  by_cases hb:a.getD k 0=b.getD k 0
  ·have hb1:(a.getD k 0 != b.getD k 0)= false:=by simp only [hb,bne_self_eq_false]
   simp only [simprocAttr,-ZA,↓zU,↓zD,zV,zT,zW,hd,xD _ _ h,xD .i64 b (show k<b.length by omega),hb1]
   (repeat refine sd ?_)
   refine⟨k+1,⟨by omega,λi hi2=>?_⟩,?_,by omega⟩
   ·by_cases ei:i=k
    ·rw [ei,hb]
    ·exact hi i (by omega)
   exact vR
  ·have hb1:(a.getD k 0 != b.getD k 0)= true:=bne_iff_ne.2 hb;simp only [simprocAttr,-ZA,↓zU,↓zD,zV,zT,zW,hd,xD _ _ h,xD .i64 b (show k<b.length by omega),hb1]
   (repeat refine sd ?_)
   exact .drop (by simp) (by simp only [vw,D.bool.injEq]; symm; apply decide_eq_false; rintro rfl; exact hb rfl)
 ·have hd:¬ ((k:Int)<(a.length:Int)):=by omega
  have hk':k=a.length:=by omega
  subst hk';refine yN hd ?_;refine .drop (by simp) ?_;simp only [vw,D.bool.injEq]; symm; apply decide_eq_true;refine List.ext_getElem h1 λi h2 h3=>?_;have:=hi i h2;simpa [List.getD,h2,h3] using this
def pt (l:List (List Int)):Prop:=l.Pairwise λa b=>¬ xG b a<0
def nI (l:List (List Int)):List (List Int):=l.mergeSort λa b=>decide (¬ xG b a<0)
theorem mN (l:List (List Int)):(nI l).Perm l:=List.mergeSort_perm l _
theorem gV (a b:List Int):¬ xG b a<0\/¬ xG a b<0:=by have:=wE a b; omega
theorem jK (l:List (List Int)):pt (nI l):=by have:=List.pairwise_mergeSort (le:=λa b:List Int=>decide (¬ xG b a<0)) (λa b c h1 h2=>by simp only [decide_eq_true_eq] at h1 h2 ⊢; exact qP h2 h1) (λa b=>by simp only [Bool.or_eq_true,decide_eq_true_eq]; exact gV a b) l;unfold pt nI;exact this.imp λh=>by simpa using h
theorem mQ {a b:List Int} (h1:¬ xG b a<0) (h2:¬ xG a b<0):a=b:=uA (by have:=wE a b; omega)
theorem fm {l m:List (List Int)} (hp:m.Perm l) (hm:pt m):m=nI l:= List.Perm.eq_of_pairwise (le:=λa b=>¬ xG b a<0) (λx y _ _ h1 h2=>mQ h1 h2) hm (jK l) (hp.trans (mN l).symm)
def pO : D->List Int
 | .sl _ xX=>xX.map λe=>fA (hd e)
 | _=>[]
theorem qU (l:List Int):pO (.sl 1 (rows .i64 l))= l:=bO l
theorem ir {l:List (List Int)} {xX:List (List D)} (h:xX.Perm (rl l)):∃ m:List (List Int),xX=rl m/\m.Perm l:=by
 refine⟨xX.map λe=>pO (hd e),?_,?_⟩
 ·unfold rl;rw [List.map_map];conv=>lhs; rw [<- List.map_id xX]
  refine ζ λe he=>?_;have:=h.mem_iff.1 he;simp only [rl,List.mem_map] at this;obtain⟨n,_,rfl⟩:=this;show [D.sl 1 (rows .i64 n)] = [D.sl 1 (rows .i64 (pO (.sl 1 (rows .i64 n))))];rw [qU]
 ·have:=h.map λe=>pO (hd e)
  have e:(rl l).map (λe=>pO (hd e))= l:=by
   unfold rl;rw [List.map_map];conv=>rhs; rw [<- List.map_id l]
   exact ζ λx _=>qU x
  rw [e] at this;exact this
theorem ee {l:List (List Int)} {i:Nat} (h:i<l.length):pO (hd ((rl l).getD i []))= l.getD i []:=by rw [sV _ h]; exact qU _
theorem ae {o:List (List Int)} (h:∀ a b,a<b->b<o.length->¬ xG (o.getD b []) (o.getD a [])<0):pt o:=by unfold pt;rw [δ];intro i j hi hj hij;have:=h i j hij hj;simpa [List.getD,hi,hj] using this
theorem yv {σ:St} {key:Nat} {l:List (List Int)} (hget:σ.get key=some ⟨1,rl l⟩) (hne:l ≠ []) (hlen:l.length<=1000) :
  xU prog 33 [.yR key 1 l.length,.fn 34 []] σ (.yK []) (σ.set key ⟨1,rl (nI l)⟩):=by
 have ho:vU prog 33:=⟨_,func33,by kernel_rfl,by kernel_rfl⟩;have ho2:vU prog 34:=⟨_,func34,by kernel_rfl,by kernel_rfl⟩
 have h:=bU (P:=prog) (ρ:=bM) rh ho (g:=34) (C:=λd=>∃ l:List Int,d = .sl 1 (rows .i64 l)) (cf:=λx y=>xG (pO x) (pO y)) ho2
  (by rintro x y ⟨a,rfl⟩ ⟨b,rfl⟩; rw [qU,qU]; exact rK a b) (by intro x _; rw [pY]; omega) (by intro x y z _ _ _ h1 h2; exact tJ h1 h2) (by intro x y z _ _ _ h1 h2; exact qP h1 h2)
  hget (target:=rl (nI l)) (by
   intro e he;have hp:=rW l e he;simp only [rl,List.mem_map] at he;obtain⟨n,hn,rfl⟩:=he;exact⟨_,rfl,by simpa [D.xZ] using hp,n,rfl⟩) (by rw [zA]; omega) (by intro c; apply hne; simpa [rl] using c) (by
   intro els' hp hs;obtain⟨m,rfl,hm⟩:=ir hp;rw [fm hm (ae λa b hab hb=>?_)];have:=hs a b hab (by rw [zA]; exact hb);change ¬ xG (pO _) (pO _)<0 at this;rw [ee hb,ee (show a<m.length by omega)] at this;exact this)
 rw [zA] at h;exact h
open Mg
theorem cO (x:List Int) (l:List (List Int)) (hl:l.length<=1000):xU prog 32 [.sl 1 (rl (x :: l))] hZ (.yR 0 1 (l.length+1)) ⟨1,[(0,⟨1,rl (x :: l)⟩)]⟩:=by
 refine yP func32 XX λhf=>?_;have e:rl (x :: l)= [.sl 1 (rows .i64 x)] :: rl l:=rfl;have h1:∀ e ∈ [.sl 1 (rows .i64 x)] :: rl l,yS e=true:=e ▸ bb (x :: l);rw [e];refine yN zA ?_;refine⟨by simp,h1,by omega,by omega,?_⟩;rw [<- e]
 (refine oN.pq [(0,1)] [0] (by simp) (by simp) (by decide) ?_; simp only [zP,zQ,simprocAttr,-ZA,exists_eq_left',ne_eq,zR,jS])
def below (m:List (List Int)) (x:List Int):Nat:=(m.filter λy=>decide (xG y x<0)).length
theorem jL {x:List Int}:∀ {m:List (List Int)} {i:Nat},i<=m.length->(∀ a,a<i->xG (m.getD a []) x<0)->(∀ a,i<=a->a<m.length->¬ xG (m.getD a []) x<0)->below m x=i
 | [],i,h,_,_=>by simp at h; simp [below,h]
 | y :: m,0,_,_,h2=>by have h0:=h2 0 (Nat.le_refl _) (by simp);have ih:=jL (x:=x) (m:=m) (i:=0) (θ _) (λa ha=>by omega) (λa _ ha=>by simpa using h2 (a+1) (by omega) (by simp; omega));unfold below at ih ⊢;rw [η,if_neg (by simpa using h0),ih]
 | y :: m,i+1,hi,h1,h2=>by have h0:=h1 0 (by omega);have ih:=jL (x:=x) (m:=m) (i:=i) (by simpa using hi) (λa ha=>by simpa using h1 (a+1) (by omega)) (λa ha hb=>by simpa using h2 (a+1) (by omega) (by simp; omega));unfold below at ih ⊢;rw [η,if_pos (by simpa using h0),γ,ih]
theorem nb {n:Nat} (h:n<=1000000):ue .u64 (n:Int) (ui 1#64)= ((n / 2:Nat):Int):=by unfold ue;have e:min (ui 1#64).toNat IntKind.u64.bits=1:=rfl;rw [e];show ((n:Int)).fdiv 2=_;rw [Int.fdiv_eq_ediv_of_nonneg _ (by decide)];omega
theorem nv {m:List (List Int)} {x:List Int} (hm:pt m) {a b:Nat} (hab:a<=b) (hb:b<m.length) (h:xG (m.getD b []) x<0):xG (m.getD a []) x<0:=by
 by_cases e:a=b
 ·rw [e]; exact h
 ·have hp:=δ.1 hm a b (by omega) hb (by omega);have e1:m.getD a []=m[a]'(by omega):=by simp [List.getD,show a<m.length by omega]
  have e2:m.getD b []=m[b]:=by simp [List.getD,hb]
  rw [e1]; rw [e2] at h
  by_cases c:xG (m[a]'(by omega)) x<0
  ·exact c
  ·exact absurd h (qP hp c)
theorem aP {m:List (List Int)} (x:List Int) (hm:pt m) (hl:m.length<=1000):∃ b:Bool,yY prog 37 [.sl 1 (rl m),.sl 1 (rows .i64 x),.fn 34 []] (.yK [.int .i64 (below m x),.bool b]):=by
 refine⟨decide (below m x<m.length)&& decide (xG (m.getD (below m x) []) x=0),?_⟩;refine yP func37 Xd λhf=>?_;refine yN zA ?_
 refine xO (λa:Nat × Nat=>[(10,.int .i64 a.2),(9,.int .i64 a.1),(8,.int .i64 m.length),(2,.fn 34 []),(1,.sl 1 (rows .i64 x)),(0,.sl 1 (rl m))]) (λ_=>⟨0,[]⟩) (λa=>a.1<=a.2/\a.2<=m.length/\(∀ i,i<a.1->xG (m.getD i []) x<0)/\ (∀ i,a.2<=i->i<m.length->¬ xG (m.getD i []) x<0)) (λa=>a.2-a.1) (0,m.length) ⟨θ _,Nat.le_refl _,λi hi=>by omega,λi h1 h2=>by omega⟩ ?_ ?_
 ·exact tW
 intro ⟨lo,hi⟩ ⟨h1,h2,h3,h4⟩;simp only at h1 h2 h3 h4;refine yQ mixed ?_
 by_cases h:lo<hi
 ·have hd:((lo:Int)<(hi:Int)):=by omega
  have es:IntKind.i64.wrap ((lo:Int)+ (hi:Int))= ((lo+hi:Nat):Int):=by rw [wrap_i64 (by omega)]; omega
  have ew:IntKind.i64.wrap (((lo+hi)/ 2:Nat):Int)= (((lo+hi)/ 2:Nat):Int):=wrap_i64 (by omega);have hmid:(lo+hi)/ 2<m.length:=by omega
  simp only [simprocAttr,-ZA,↓zU,↓zD,zV,zT,zW,hd,es,pN (show lo+hi<=1000000 by omega),nb (show lo+hi<=1000000 by omega),ew,zA,sV m hmid]
  (repeat refine sd ?_)
  refine .go (xU.zI (rK (m.getD ((lo+hi)/ 2) []) x) (by simp [D.xZ,D.xS])) ?_
  by_cases c:xG (m.getD ((lo+hi)/ 2) []) x<0
  ·refine yN c ?_;refine⟨((lo+hi)/ 2+1,hi),⟨by show (lo+hi)/ 2+1<=hi; omega,h2,λi hi2=>nv hm (show i<=(lo+hi)/ 2 by change i<(lo+hi)/ 2+1 at hi2; omega) hmid c,h4⟩,?_,by show hi-((lo+hi)/ 2+1)<hi-lo; omega⟩;exact vR
  ·refine yN c ?_;refine⟨(lo,(lo+hi)/ 2),⟨by show lo<=(lo+hi)/ 2; omega,by show (lo+hi)/ 2<=m.length; omega,h3,λi hi2 hi3 hc=>c (nv hm hi2 hi3 hc)⟩,?_,by show (lo+hi)/ 2-lo<hi-lo; omega⟩;exact vR
 ·have hd:¬ ((lo:Int)<(hi:Int)):=by omega
  have e:below m x=lo:=jL (by omega) h3 λa ha hb=>h4 a (by omega) hb;rw [e]
  by_cases hlen:lo<m.length
  ·have vF:((lo:Int)<(m.length:Int)):=by omega
   simp only [simprocAttr,-ZA,↓zU,↓zD,zV,zT,zW,hd,vF,zA,sV m hlen]
   (repeat refine sd ?_)
   refine .go (xU.zI (rK (m.getD lo []) x) (by simp [D.xZ,D.xS])) ?_;refine xC ?_;exact .drop (by simp) (by simp only [vw,sB,and_true,D.bool.injEq,true_and,γ,List.length_nil,decide_eq_true hlen,Bool.true_and]; rfl)
  ·have vF:¬ ((lo:Int)<(m.length:Int)):=by omega
   simp only [simprocAttr,-ZA,↓zU,↓zD,zV,zT,zW,hd,vF];exact .drop (by simp) (by simp only [vw,sB,and_true,D.bool.injEq,true_and,γ,List.length_nil,decide_eq_false hlen,Bool.false_and])
end Go.Pd
