/- Part SM. -/
import Derived.Test.YtccobgpcnfjbhaaZcSK
import Derived.Test.YtccobgpcnfjbhaaZcSQ
import Derived.Test.YtccobgpcnfjbhaaZcSH
set_option linter.unusedSectionVars false
set_option linter.unusedVariables false
set_option linter.unusedSimpArgs false
set_option linter.defProp false
set_option maxRecDepth 20000
set_option maxHeartbeats 1000000
open Go.Proofs.Try
open List renaming mem_range->γ,length_take->δ,mem_map->ε,take_of_length_le->ζ
open Nat renaming mul_comm->η,div_eq_of_lt->θ,mul_add_div->μ,zero_le->ν
namespace Go.Pd
open Go Go.Proofs
open BitVec renaming isValue -> ZA
open Ru
namespace Ru
def mG (rs:List xN) (A T:Nat) (kf:Nat->Nat × Nat->List Int):List xN:=rU rs A T (yB kf (oE T (rs.length*T)))
theorem zm (rs:List xN) (A T:Nat) (num:Nat->Nat × Nat->Int):(rU rs A T num).length=rs.length:=by simp [rU]
theorem Yp {rs:List xN} {A F T:Nat} {num:Nat->Nat × Nat->Int} (ok:lS rs A F T):lS (rU rs A T num) A F T where
 hA:=ok.hA
 hF:=ok.hF
 hT:=ok.hT
 hR:=by rw [zm]; exact ok.hR
 hP:=by rw [zm]; exact ok.hP
 loc:=λr hr=>by simp only [rU,ε] at hr;obtain⟨i,_,rfl⟩:=hr;simp
 zM:=λr hr=>by simp only [rU,ε,γ] at hr;obtain⟨i,hi,rfl⟩:=hr;exact ok.zM (rs.getD i yF) (yX hi)
 row:=λr hr l hl=>by simp only [rU,ε] at hr;obtain⟨i,_,rfl⟩:=hr;simp only [ε] at hl;obtain⟨t,_,rfl⟩:=hl;simp
 val:=λr hr=>by simp only [rU,ε,γ] at hr;obtain⟨i,hi,rfl⟩:=hr;exact ok.val (rs.getD i yF) (yX hi)
theorem pq {rs:List xN} {A F T:Nat} {kf:Nat->Nat × Nat->List Int} (ok:lS rs A F T):lS (mG rs A T kf) A F T:=Yp ok
end Ru
theorem YG {rs:List xN} {A F T:Nat} (ok:lS rs A F T):yA prog 15 [sD A F T rs] (.yE [sD A F T (mG rs A T (oZ rs)),.int .i64 0]):=by have h:=eQ ok (YH ok);unfold mG;generalize rU rs A T (yB (oZ rs) (oE T (rs.length*T)))= rs' at h ⊢;unfold sD at h ⊢;refine zL func15 Tp λhf=>?_;refine uB ?_;refine .go h ?_;refine wU ?_;exact .drop (by simp) (by simp [vw,tV])
theorem sq {rs:List xN} {A F T:Nat} (ok:lS rs A F T):yA prog 17 [sD A F T rs] (.yE [sD A F T (mG rs A T (lN rs)),.int .i64 0]):=by have h:=eQ ok (sr ok);unfold mG;generalize rU rs A T (yB (lN rs) (oE T (rs.length*T)))= rs' at h ⊢;unfold sD at h ⊢;refine zL func17 Tr λhf=>?_;refine uB ?_;refine .go h ?_;refine wU ?_;exact .drop (by simp) (by simp [vw,tV])
open Ru
theorem pM {k:Nat} (h:k<=1000000000):IntKind.i64.wrap ((k:Int)+ 1)= ((k+1:Nat):Int):=by rw [wrap_i64 (by omega)]; rfl
theorem bV (l:List xN) (r:xN):xK l ++ [[.sl 1 (rl r.loc),.sl 1 (us r.zM)]]=xK (l ++ [r]):=by simp [xK,xN.row]
theorem yY (l:List xN):tS (xK l):=rH l
theorem zt : xK [] = []:=rfl
theorem ra {c:List Int} (hne:c ≠ []) (hl:c.length<=1000):xS prog 33 [.sl 1 (rows .i64 c)] mR (.yW 0 1 c.length) ⟨1,[(0,⟨1,rows .i64 c⟩)]⟩:=by
 match c,hne with
 | x :: l,_=>
  refine zL func33 VT λhf=>?_;have hl':l.length<=999:=by simp at hl; omega
  refine wU ?_;refine⟨by simp,bS .i64 (x :: l),by omega,by omega,rT.name (n:=0) (by simp) (vK .i64 (x :: l)) (by simp [vw])⟩
theorem qx : yA prog 33 [.sl 1 []] (.sl 1 []):=by
 refine xS.Z3 ?_ ?_
 ·refine zL func33 VT λhf=>?_;refine wU ?_;exact .dv
 ·refine zL func33 VT λhf=>?_;refine uB ?_;exact .drop (by simp) (zi (by simp) (by intro _ h; cases h) rfl)
theorem Wj {c:List Int} (hl:c.length<=1000):yA prog 33 [.sl 1 (rows .i64 c)] (.sl 1 (rows .i64 c)):=by
 by_cases h:c = []
 ·subst h; exact qx
 ·exact(ra h hl).ret (.drop (by simp [mR]) (zi (by simp) (vK _ _) (by rw [xF])))
theorem VW {rs:List xN} {A F T:Nat} (ok:lS rs A F T) {n:Nat} (h1:1<=n) (hn:n<=T):yA prog 19 [sD A F T rs,.int .i64 n] (.yE [sD A F n (oY rs n),.int .i64 0]):=by
 have hC:=nC ⟨A,F,T,rs⟩;rw [nH ok] at hC;have hT:=ok.hT;have hR:=ok.hR;have hA:=ok.hA;have q1:¬ (n:Int)<1:=by omega
 have q2:¬ (T:Int)<(n:Int):=by omega
 have hlc:=ok.loc;have hfc:=ok.zM;have hrw:=ok.row;have hcl:=uE rs n;have hcg:=λi h=>@wg rs n i h;unfold sD;unfold wQ.d wQ.cells at hC;simp only at hC;generalize oY rs n=S at *;refine zL func19 VR λhf=>?_;refine uB ?_;refine .go (cq hC) ?_;refine lR q1 q2 ?_
 refine xO (λi:Nat=>[(37,.int .i64 i),(36,.int .i64 rs.length),(35,.sl 2 (xK rs)),(7,.ref 2 4 0 0),(4,.ref 1 4 0 0),(1,.int .i64 n)])
  (λi=>⟨4,xM 3 2 (xK (S.take i))++ [(2,⟨4,[[.int .i64 A,.int .i64 F,.int .i64 n,xI 3 2 (xK (S.take i))]]⟩),(1,⟨4,[[.int .i64 0,.int .i64 0,.int .i64 0,.xZ]]⟩)]⟩) (λi=>i<=rs.length) (λi=>rs.length-i) 0 (ν _) ?_ ?_
 ·(refine lP [] [2,1] ?_; simp only [vX,zQ,simprocAttr,-ZA,exists_eq_left',ne_eq,zR,List.take_zero,zt,wK,wL,List.nil_append,xV])
 intro i hi;refine xE mixed ?_;by_cases hil:i<rs.length
 case neg=>
  have hd:¬ ((i:Int)<(rs.length:Int)):=by omega
  rw [ζ (show S.length<=i by omega)];refine pZ hd ?_
  (refine rT.uz [] [] (by simp) (by simp) (by decide) ?_; simp only [vX,zQ,simprocAttr,-ZA,exists_eq_left',ne_eq,zR,yY])
 have hd:((i:Int)<(rs.length:Int)):=by omega
 have hg:=wE rs hil;have hm:=yX (d:=yF) hil;have hl1:=hlc _ hm;have hl2:=hfc _ hm;have hl3:=hrw _ hm;have hSs:=yD (d:=yF) (show i<S.length by omega);rw [hcg i hil] at hSs;have hSl2:(S.take i).length=i:=by rw [δ]; omega
 generalize rs.getD i yF=r at *;obtain⟨loc,zM⟩:=r;unfold xN.row at hg;simp only at hg hl1 hl2 hl3 hSs;have hcu:=ox (c:=zM.take n) (by rw [δ]; omega) (by rw [δ]; omega);have hci:=λj (hj:j<loc.length)=>Wj (c:=loc.getD j []) (by rw [hl3 _ (yX hj)]; omega);have hnl:n<=loc.length:=by omega
 have hnf:n<=zM.length:=by omega
 have hlt:(loc.take n).length=n:=by rw [δ]; omega
 have hgt:∀ j,j<n->(loc.take n).getD j []=loc.getD j []:=λj hj=>by simp [List.getD,List.getElem?_take,hj]
 generalize S.take i=S0 at *;refine yz hd xV hg ?_;refine⟨0,n,rfl,rfl,by omega,by omega,by omega,?_⟩;refine wU ?_;refine .go (cr hcu) ?_;refine uB ?_;refine⟨0,n,rfl,rfl,by omega,by omega,by rw [xP]; omega,?_⟩;refine uB ?_;have e50:(rl loc).take n=rl (loc.take n):=by simp [rl,List.map_take]
 have hLs:=λj (hj:j<n)=>yD (l:=loc.take n) (d:=[]) (show j<_ by omega);have hsn:=bV S0 ⟨loc.take n,zM.take n⟩;simp only at hsn;rw [e50];generalize zM.take n=FC at *;generalize loc.take n=LC at *
 refine rI (λj:Nat=>[(52,.int .i64 j),(51,.int .i64 n),(50,.sl 1 (rl LC)),(37,.int .i64 i),(36,.int .i64 rs.length),(35,.sl 2 (xK rs)),(10,.ref 5 2 0 0),(7,.ref 2 4 0 0),(4,.ref 1 4 0 0),(1,.int .i64 n)])
  (λj=>⟨7,xM 6 1 (rl (LC.take j))++ ((5,⟨2,[[xI 6 1 (rl (LC.take j)),.sl 1 (us FC)]]⟩) :: (xM 3 2 (xK S0)++ [(2,⟨4,[[.int .i64 A,.int .i64 F,.int .i64 n,xI 3 2 (xK S0)]]⟩),(1,⟨4,[[.int .i64 0,.int .i64 0,.int .i64 0,.xZ]]⟩)]))⟩) (λj=>j<=n) (λj=>n-j) 0 (ν _) ?_ ?_
 ·(refine lP [] [5,3,2,1] ?_; simp only [vX,zQ,simprocAttr,-ZA,exists_eq_left',ne_eq,zR,List.take_zero,ug,wK,wL,List.nil_append,yY,xP,hlt])
 intro j hj;refine xE mixed ?_;by_cases hjl:j<n
 case neg=>
  have hd2:¬ ((j:Int)<(n:Int)):=by omega
  rw [ζ (show LC.length<=j by omega)];refine vY hd2 ?_
  refine .go [(37,.int .i64 i),(36,.int .i64 rs.length),(35,.sl 2 (xK rs)),(10,.ref 5 2 0 0),(7,.ref 2 4 0 0),(4,.ref 1 4 0 0),(1,.int .i64 n)]
   ⟨6,(5,⟨2,[[.sl 1 (rl LC),.sl 1 (us FC)]]⟩) :: (xM 3 2 (xK S0)++ [(2,⟨4,[[.int .i64 A,.int .i64 F,.int .i64 n,xI 3 2 (xK S0)]]⟩),(1,⟨4,[[.int .i64 0,.int .i64 0,.int .i64 0,.xZ]]⟩)])⟩ ?_ ?_
  ·exact cY [] [5,3,2,1] yY uS
  refine lR xV hSl2 ?_;refine⟨i+1,by omega,?_,by omega⟩;rw [hSs];exact cY [(3,7)] [3,2,1] hsn yY
 have hd2:((j:Int)<(n:Int)):=by omega
 have hgj:=wG LC (show j<_ by omega);have hLs:=hLs j hjl;have hll:(LC.take j).length=j:=by rw [δ]; omega
 have hci:=hci j (by omega);rw [<- hgt j hjl] at hci;generalize LC.getD j []=l at *;generalize LC.take j=L0 at *;simp only [simprocAttr,-ZA,↓zU,↓zD,zV,zT,zW,↓fX,↓cI,↓cJ,hd2,xP,hlt,hgj]
 (repeat refine sd ?_)
 refine .go (cr hci) ?_;simp only [simprocAttr,-ZA,↓zU,↓zD,zV,zT,zW,↓fX,↓cI,↓cJ,xP,hll]
 (repeat refine sd ?_)
 refine⟨j+1,by omega,?_,by omega⟩;rw [hLs];exact ZV [(6,8)] [6,5,3,2,1] qM yY uS
open Ru
namespace Ru
def zC (row:(Nat->Nat)->Nat->List D) (key:Nat->Nat->Nat) (r:Nat):List (List D):=(List.range r).map λi=>row (key i) i
theorem tP (row:(Nat->Nat)->Nat->List D) (key:Nat->Nat->Nat) (r:Nat):(zC row key r).length=r:=by simp [zC]
theorem mi (row:(Nat->Nat)->Nat->List D) (key:Nat->Nat->Nat) {r i:Nat} (h:i<r):(zC row key r).getD i []=row (key i) i:=by simp [zC,List.getD,h]
theorem sy (row:(Nat->Nat)->Nat->List D) (key:Nat->Nat->Nat) (κ:Nat->Nat) (r:Nat):zC row (λi=>if i=r then κ else key i) (r+1)= zC row key r ++ [row κ r]:=by
 unfold zC;rw [List.range_succ,List.map_append]
 congr 1
 ·refine List.map_congr_left λi hi=>?_;have hi':=γ.1 hi;simp only [if_neg (show ¬ i=r by omega)]
 ·simp
structure GN (U : Nat) (row : (Nat -> Nat) -> Nat -> List D) (ob : (Nat -> Nat) -> Nat -> Nat -> Ob) (lo nb r kr : Nat) (key : Nat -> Nat -> Nat) (base xW : List (Nat × Ob)) : Prop where
 lb:∀ k,k<lo->St.look xW k=St.look base k
 fr:St.look xW 1000000=none
 lr:St.look xW kr=zN 2 (zC row key r)
 k5:lo<=nb
 hk:lo<=kr/\(kr<nb\/kr=1000000)
 le:∀ i u,i<r->u<U->lo<=key i u/\key i u<nb/\key i u≠kr/\St.look xW (key i u)= some (ob (key i) i u)
 di:∀ i j u w,i<r->j<r->u<U->w<U->key i u=key j w->i=j/\u=w
section
variable {U : Nat} {row : (Nat -> Nat) -> Nat -> List D} {ob ob' : (Nat -> Nat) -> Nat -> Nat -> Ob} {lo nb r kr : Nat} {key : Nat -> Nat -> Nat} {base base' xW objs' : List (Nat × Ob)}
theorem GN.frame (h:GN U row ob lo nb r kr key base xW) (hs:∀ k,k<nb->St.look objs' k=St.look xW k) (hf:St.look objs' 1000000=none):GN U row ob lo nb r kr key base objs' where
 lb:=λk hk=>by rw [hs _ (by have:=h.k5; omega)]; exact h.lb k hk
 fr:=hf
 lr:=by
  rcases h.hk.2 with e | e
  ·rw [hs _ e]; exact h.lr
  ·have:=h.lr;rw [e,h.fr] at this;rw [e,hf]; exact this
 k5:=h.k5
 hk:=h.hk
 le:=λi u hi hu=>by obtain⟨a,b,c,d⟩:=h.le i u hi hu; exact⟨a,b,c,by rw [hs _ b]; exact d⟩
 di:=h.di
theorem GN.low (h:GN U row ob lo nb r kr key base xW) (h1:lo<=1000000) (hs:∀ k,lo<=k->St.look objs' k=St.look xW k):GN U row ob lo nb r kr key objs' objs' where
 lb:=λk _=>rfl
 fr:=by rw [hs _ h1]; exact h.fr
 lr:=by rw [hs _ h.hk.1]; exact h.lr
 k5:=h.k5
 hk:=h.hk
 le:=λi u hi hu=>by obtain⟨a,b,c,d⟩:=h.le i u hi hu; exact⟨a,b,c,by rw [hs _ a]; exact d⟩
 di:=h.di
theorem GN.more (h:GN U row ob lo nb r kr key base xW) {nb' kr':Nat} {κ:Nat->Nat} (hn:nb<=nb') (h4:∀ k,k<lo->St.look objs' k=St.look base' k)
  (hs:∀ k,k<nb->lo<=k->k≠kr->St.look objs' k=St.look xW k) (hf:St.look objs' 1000000=none)
  (hr:St.look objs' kr'=zN 2 (zC row (λi=>if i=r then κ else key i) (r+1))) (hkr:nb<=kr'/\kr'<nb')
  (hj:∀ u,u<U->nb<=κ u/\κ u<nb'/\κ u≠kr'/\St.look objs' (κ u)= some (ob κ r u))
  (hd:∀ u w,u<U->w<U->κ u=κ w->u=w):GN U row ob lo nb' (r+1) kr' (λi=>if i=r then κ else key i) base' objs' where
 lb:=h4
 fr:=hf
 lr:=hr
 k5:=by have:=h.k5; omega
 hk:=by have:=h.k5; omega
 le:=λi u hi hu=>by
  have:=h.k5
  by_cases e:i=r
  ·subst e;simp only [if_true];obtain⟨a,b,c,d⟩:=hj u hu;exact⟨by omega,b,c,d⟩
  ·simp only [if_neg e];obtain⟨a,b,c,d⟩:=h.le i u (by omega) hu;exact⟨a,by omega,by omega,by rw [hs _ b a c]; exact d⟩
 di:=λi j u w hi hj' hu hw e=>by
  by_cases ei:i=r <;> by_cases ej:j=r
  ·subst ei; subst ej;simp only [if_true] at e;exact⟨rfl,hd u w hu hw e⟩
  ·subst ei;simp only [if_true,if_neg ej] at e;have:=h.le j w (by omega) hw;have:=hj u hu;omega
  ·subst ej;simp only [if_true,if_neg ei] at e;have:=h.le i u (by omega) hu;have:=hj w hw;omega
  ·simp only [if_neg ei,if_neg ej] at e;exact h.di i j u w (by omega) (by omega) hu hw e
theorem GN.val (h:GN U row ob lo nb r kr key base xW) (hv:∀ i u,i<r->u<U->ob (key i) i u=ob' (key i) i u):GN U row ob' lo nb r kr key base xW:= { h with le:=λi u hi hu=>by rw [<- hv i u hi hu]; exact h.le i u hi hu }
theorem GN.Tz (h:GN U row ob lo nb r kr key base xW) {i u:Nat} (hi:i<r) (hu:u<U)
  (hn:∀ j w,j<r->w<U->¬ (j=i/\w=u)->ob (key j) j w=ob' (key j) j w) (hx:St.look objs' (key i u)= some (ob' (key i) i u))
  (hs:∀ k,k<nb->k≠key i u->St.look objs' k=St.look xW k) (hf:St.look objs' 1000000=none):GN U row ob' lo nb r kr key base objs':=by
 obtain⟨q1,q2,q3,q4⟩:=h.le i u hi hu;have k5:=h.k5
 refine⟨λk hk=>by rw [hs _ (by omega) (by omega)]; exact h.lb k hk,hf,?_,k5,h.hk,λj w hj hw=>?_,h.di⟩
 ·rcases h.hk.2 with e | e
  ·rw [hs _ e (by omega)]; exact h.lr
  ·have:=h.lr;rw [e,h.fr] at this;rw [e,hf]; exact this
 ·obtain⟨a,b,c,d⟩:=h.le j w hj hw;refine⟨a,b,c,?_⟩
  by_cases e:j=i/\w=u
  ·obtain⟨rfl,rfl⟩:=e;exact hx
  ·rw [hs _ b (λe2=>e (h.di j i w u hj hi hw hu e2)),d,hn j w hj hw e]
end
structure BC (A lo : Nat) (w : Nat -> List Int) (t kL : Nat) (kj : Nat -> Nat) (nx : Nat) (xW : List (Nat × Ob)) : Prop where
 lL:St.look xW kL=zN 1 (vQ A kj t)
 hL:(lo<=kL/\kL<nx)\/kL=1000000
 lj:∀ i,i<t->lo<=kj i/\kj i<nx/\kj i≠kL/\St.look xW (kj i)= some ⟨1,rows .i64 (w i)⟩
 dj:∀ i j,i<t->j<t->kj i=kj j->i=j
def kC (c T i u:Nat):Nat:=c+(1+(i*(T+1)+ u))
theorem fq {T i j t u:Nat} (ht:t<T+1) (hu:u<T+1) (h:i*(T+1)+ t=j*(T+1)+ u):i=j/\t=u:=by
 have h1:(i*(T+1)+ t)/ (T+1)= i:=by rw [η,μ (by omega),θ ht]; rfl
 have h2:(j*(T+1)+ u)/ (T+1)= j:=by rw [η,μ (by omega),θ hu]; rfl
 rw [h,h2] at h1;subst h1;exact⟨rfl,by omega⟩
theorem gl {T i t R:Nat} (hi:i<R) (ht:t<T+1):i*(T+1)+ t<R*(T+1):=by have:=Nat.mul_le_mul_right (T+1) (show i+1<=R from hi);rw [Nat.succ_mul] at this;omega
def rW (rs:List xN) (T:Nat) (κ:Nat->Nat) (i:Nat):List D:=[.yW (κ 0) 1 T,.sl 1 (us (rs.getD i yF).zM)]
def jd (A T:Nat) (v:Nat->Nat->List Int) (κ:Nat->Nat) (i:Nat):Nat->Ob
 | 0=>⟨1,vQ A (λt=>κ (t+1)) T⟩
 | t+1=>⟨1,rows .i64 (v i t)⟩
def mH (T:Nat) (κ:Nat->Nat) (_:Nat):List D:=[.yW (κ 0) 1 T,.yW (κ 1) 1 T]
def rD (rs:List xN) (i t:Nat):List Int:=(rs.getD i yF).loc.getD t []
def Sj (rs:List xN) (A T:Nat) (κ:Nat->Nat) (i:Nat):Nat->Ob
 | 0=>⟨1,vQ A (λt=>κ (t+2)) T⟩
 | 1=>⟨1,us (rs.getD i yF).zM⟩
 | t+2=>⟨1,rows .i64 (rD rs i t)⟩
def Tw (kL kf:Nat) (kj:Nat->Nat):Nat->Nat
 | 0=>kL
 | 1=>kf
 | t+2=>kj t
def sE (c:Nat) (rs:List xN) (A T:Nat) (v:Nat->Nat->List Int):List (Nat × Ob):=(c,⟨2,zC (rW rs T) (kC c T) rs.length⟩) :: (List.range (rs.length*(T+1))).map λw=>(c+(1+w),jd A T v (kC c T (w / (T+1))) (w / (T+1)) (w % (T+1)))
theorem bN {c:Nat} {f:Nat->Ob}:∀ {l:List Nat} {i:Nat},i ∈ l->St.look (l.map λi=>(c+(1+i),f i)) (c+(1+i))= some (f i)
 | [],i,h=>by cases h
 | j :: r,i,h=>by
  show St.look ((c+(1+j),f j) :: _) _=_;rw [yZ]
  by_cases e:i=j
  ·subst e; rw [if_pos rfl]
  ·rw [if_neg (by omega)];exact bN ((List.mem_cons.1 h).resolve_left e)
theorem dW {c n k:Nat} {f:Nat->Ob} (h:k<c+1\/c+(1+n)<=k):St.look ((List.range n).map λi=>(c+(1+i),f i)) k=none:=by
 have:∀ l:List Nat,(∀ i ∈ l,i<n)->St.look (l.map λi=>(c+(1+i),f i)) k=none:=by
  intro l
  induction l with
  | nil=>intro _; rfl
  | cons j r ih=> intro hl;have:=hl j (by simp);show St.look ((c+(1+j),f j) :: _) _=_;rw [yZ,if_neg (by omega)];exact ih λi hi=>hl i (List.mem_cons_of_mem _ hi)
 exact this _ λi hi=>γ.1 hi
theorem fh {T i u:Nat} (hu:u<T+1):(i*(T+1)+ u)/ (T+1)= i/\(i*(T+1)+ u) % (T+1)= u:=by
 constructor
 ·rw [η,μ (by omega),θ hu]; rfl
 ·rw [η,Nat.mul_add_mod,Nat.mod_eq_of_lt hu]
theorem ff {c:Nat} {rs:List xN} {A T:Nat} {v:Nat->Nat->List Int} {i u:Nat} (hi:i<rs.length) (hu:u<T+1):St.look (sE c rs A T v) (kC c T i u)= some (jd A T v (kC c T i) i u):=by unfold sE;have e:=fh (T:=T) (i:=i) hu;rw [xU (by unfold kC; omega)];show St.look _ (c+(1+(i*(T+1)+ u)))= _;rw [bN (f:=λw=>jd A T v (kC c T (w / (T+1))) (w / (T+1)) (w % (T+1))) (γ.2 (gl hi hu)),e.1,e.2]
theorem eX {c:Nat} {rs:List xN} {A T:Nat} {v:Nat->Nat->List Int} {k:Nat} (h:k<c\/c+(1+rs.length*(T+1))<=k):St.look (sE c rs A T v) k=none:=by unfold sE;rw [xU (by generalize rs.length*(T+1)= z at h; omega)];exact dW (h.imp (λh=>by omega) id)
theorem xw {c:Nat} {rs:List xN} {A T:Nat} {v:Nat->Nat->List Int}:∀ q ∈ sE c rs A T v,q=(c,⟨2,zC (rW rs T) (kC c T) rs.length⟩)\/∃ i u,i<rs.length/\u<T+1/\q=(kC c T i u,jd A T v (kC c T i) i u):=λq hq=>by
 have hat:∀ w,w<rs.length*(T+1)->∃ i u,i<rs.length/\u<T+1/\w=i*(T+1)+ u/\w / (T+1)= i/\w % (T+1)= u:=λw hw=>⟨w / (T+1),w % (T+1),(Nat.div_lt_iff_lt_mul (by omega)).2 hw,Nat.mod_lt _ (by omega),by rw [η]; exact(Nat.div_add_mod _ _).symm,rfl,rfl⟩
 unfold sE at hq
 rcases List.mem_cons.1 hq with rfl | hq
 ·exact .inl rfl
 ·simp only [ε,γ] at hq;obtain⟨w,hw,rfl⟩:=hq;obtain⟨i,u,hi,hu,e1,e2,e3⟩:=hat w hw;exact .inr ⟨i,u,hi,hu,by rw [e2,e3,e1]; rfl⟩
theorem nQ {c T i u R:Nat} (hi:i<R) (hu:u<T+1):kC c T i u<c+(1+R*(T+1)):=by have:=gl (T:=T) hi hu;unfold kC; omega
theorem Wk {c:Nat} {rs:List xN} {A T:Nat} {v:Nat->Nat->List Int} {xW:List (Nat × Ob)} (hb:c+(1+rs.length*(T+1))<=1000000) (hf:St.look xW 1000000=none) (hR:0<rs.length) :
  GN (T+1) (rW rs T) (jd A T v) c (c+(1+rs.length*(T+1))) rs.length c (kC c T) xW (sE c rs A T v++xW) where
 lb:=λk hk=>by rw [vH,eX (.inl hk)]; rfl
 fr:=by rw [vH,eX (.inr hb)]; exact hf
 lr:=by rw [yQ (by rw [tP]; exact hR),vH];unfold sE;rw [yZ,if_pos rfl]; rfl
 k5:=by generalize rs.length*(T+1)= z; omega
 hk:=⟨Nat.le_refl _,.inl (by generalize rs.length*(T+1)= z; omega)⟩
 le:=λi u hi hu=>⟨by unfold kC; omega,nQ hi hu,by unfold kC; omega,by rw [vH,ff hi hu]; rfl⟩
 di:=λi j u w _ _ hu hw e=>fq hu hw (by unfold kC at e; omega)
theorem rT.xa {rs:List xN} {A F T lo nb kr:Nat} {key:Nat->Nat->Nat} {base xW:List (Nat × Ob)} (hf:∀ i,i<rs.length->(rs.getD i yF).zM.length=T) (h:GN (T+2) (mH T) (Sj rs A T) lo nb rs.length kr key base xW) (hR:0<rs.length) {nx:Nat} :
  rT 0 ⟨nx,xW⟩ (.agg [.int .i64 A,.int .i64 F,.int .i64 T,.yW kr 2 rs.length]) ⟨1+rs.length*(T+1),sE 0 rs A T (rD rs)⟩ (.agg [.int .i64 A,.int .i64 F,.int .i64 T,.yW 0 2 rs.length]):=by
 have lr:=h.lr;rw [yQ (by rw [tP]; exact hR)] at lr
 obtain⟨ρ,r0,r1⟩:∃ ρ:Nat->Nat,ρ 0=kr/\∀ i u,i<rs.length->u<T+1->ρ (kC 0 T i u)= key i (if u=0 then 0 else u+1):=
  ⟨λk=>if k=0 then kr else key ((k-1)/ (T+1)) (if (k-1) % (T+1)= 0 then 0 else(k-1) % (T+1)+ 1),if_pos rfl,λi u hi hu=>by have e:=fh (T:=T) (i:=i) hu;show (if kC 0 T i u=0 then _ else _)= _;rw [if_neg (by unfold kC; omega),show kC 0 T i u-1=i*(T+1)+ u by unfold kC; omega,e.1,e.2]⟩
 have hsel:∀ u,u<T+1->(if u=0 then 0 else u+1)<T+2:=λu hu=>by split <;> omega
 have hcl:∀ i u,i<rs.length->u<T+1->kC 0 T i u<1+rs.length*(T+1):=λi u hi hu=>by have:=@nQ 0 T i u rs.length hi hu; generalize rs.length*(T+1)= z at *; omega
 have hmem:=@xw 0 rs A T (rD rs)
 have hne:∀ q ∈ sE 0 rs A T (rD rs),∀ i,i<rs.length->ρ q.1≠key i 1:=λq hq i hi=>by
  have hq1:=h.le i 1 hi (by omega)
  rcases hmem q hq with rfl | ⟨j,u,hj,hu,rfl⟩
  ·show ρ 0≠_;rw [r0]; exact λe=>hq1.2.2.1 e.symm
  ·show ρ (kC 0 T j u)≠ _;rw [r1 j u hj hu];intro e;have:=(h.di j i _ 1 hj hi (hsel u hu) (by omega) e).2;split at this <;> omega
 refine .inr ⟨ρ,ν _,λk hk=>absurd hk (Nat.not_lt_zero _),?_,?_,?_⟩
 ·simp only [vw,tV,r0,and_true,true_and];exact⟨rfl,by generalize rs.length*(T+1)= z; omega⟩
 ·intro q hq
  rcases hmem q hq with rfl | ⟨i,u,hi,hu,rfl⟩
  ·refine⟨by show 0<1+rs.length*(T+1); generalize rs.length*(T+1)= z; omega,⟨2,zC (mH T) key rs.length⟩,by show St.look xW (ρ 0)= _; rw [r0]; exact lr,rfl,?_⟩;show dC _ _ _ (zC (mH T) key rs.length) (zC (rW rs T) (kC 0 T) rs.length);unfold zC;refine tB λi hi=>⟨rfl,?_⟩;have hi':=γ.1 hi;have e0:=r1 i 0 hi' (by omega);rw [if_pos rfl] at e0;have lf:=(h.le i 1 hi' (by omega)).2.2.2;have hff:=hf i hi';simp only [mH,rW,tV,vw,e0,and_true,true_and]
   refine⟨hcl i 0 hi' (by omega),by decide,λq hq=>hne q hq i hi',_,lf,rfl,?_,?_,aF _⟩
   ·show T<=(us _).length;rw [zB,hff]; exact Nat.le_refl _
   ·exact(uH (by rw [zB,hff])).symm
  ·have hs:=hsel u hu;have l1:=(h.le i _ hi hs).2.2.2
   refine⟨hcl i u hi hu,_,by show St.look xW (ρ (kC 0 T i u))= _; rw [r1 i u hi hu]; exact l1,?_,?_⟩
   ·cases u <;> rfl
   ·cases u with
    | zero=> show dC _ _ _ (vQ A (λt=>key i (t+2)) T) (vQ A (λt=>kC 0 T i (t+1)) T);unfold vQ;refine tB λt ht=>⟨rfl,?_⟩;have ht':=γ.1 ht;have e1:=r1 i (t+1) hi (by omega);rw [if_neg (by omega)] at e1;simp only [tV,vw,e1,and_true];exact hcl i (t+1) hi (by omega)
    | succ t=>exact .same λr hr=>vK _ _ r hr
 ·intro a ha b hb e
  rcases hmem a ha with rfl | ⟨i,u,hi,hu,rfl⟩ <;> rcases hmem b hb with rfl | ⟨j,w,hj,hw,rfl⟩
  ·rfl
  ·have e:ρ 0=ρ (kC 0 T j w):=e;rw [r0,r1 j w hj hw] at e;exact absurd e.symm (h.le j _ hj (hsel w hw)).2.2.1
  ·have e:ρ (kC 0 T i u)= ρ 0:=e;rw [r0,r1 i u hi hu] at e;exact absurd e (h.le i _ hi (hsel u hu)).2.2.1
  ·have e:ρ (kC 0 T i u)= ρ (kC 0 T j w):=e;rw [r1 i u hi hu,r1 j w hj hw] at e;have:=h.di i j _ _ hi hj (hsel u hu) (hsel w hw) e
   have h2:u=w:=by have:=this.2;split at this <;> split at this <;> omega
   show kC 0 T i u=kC 0 T j w;rw [this.1,h2]
end Ru
end Go.Pd
