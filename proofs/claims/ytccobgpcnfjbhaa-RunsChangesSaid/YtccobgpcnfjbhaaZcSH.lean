/- Part SH. -/
import Derived.Test.YtccobgpcnfjbhaaZcX7
import Derived.Test.YtccobgpcnfjbhaaZcX9
set_option linter.unusedSectionVars false
set_option linter.unusedVariables false
set_option linter.unusedSimpArgs false
set_option linter.defProp false
set_option maxRecDepth 20000
set_option maxHeartbeats 1000000
open Go.Proofs.Try
open List renaming mem_range->γ,map_congr_left->δ,mem_cons->ε,mem_cons_of_mem->ζ,mem_singleton->η,not_mem_nil->θ
open Nat renaming le_refl->μ
namespace Go.Pd
open Go Go.Proofs
open BitVec renaming isValue -> ZA
open Ru
namespace Ru
def ZY (A F T:Nat) (rs:List xN):Ob:=⟨4,[[.int .i64 (A:Int),.int .i64 (F:Int),.int .i64 (T:Int),.sl 2 (xK rs)]]⟩
def oZ (rs:List xN) (a:Nat) (p:Nat × Nat):List Int:=[(p.2:Int),iH rs a p]
def gg (g:FuncId) (A F T:Nat) (rs:List xN) (kf:Nat->Nat × Nat->List Int):Prop:=
 ∀ (σ:St) (a:Nat) (p:Nat × Nat),0<σ.nx->St.look σ.xW 0=some (ZY A F T rs)->a<A->p.1<rs.length/\p.2<T ->
  xS prog g ([.int .i64 (a:Int),.agg [.int .i64 (p.1:Int),.int .i64 (p.2:Int)]] ++ [.ref 0 4 0 0]) σ (.sl 1 (rows .i64 (kf a p))) ⟨σ.nx+1,(σ.nx,⟨2,[[.int .i64 (p.1:Int),.int .i64 (p.2:Int)]]⟩) :: σ.xW⟩
theorem kb {α:Type} (a b:List α) (d:α) {n:Nat} (h:n<a.length):(a++b).getD n d=a.getD n d:=by simp [List.getD,List.getElem?_append_left h]
end Ru
theorem YH {rs:List xN} {A F T:Nat} (ok:lS rs A F T):gg 54 A F T rs (oZ rs):=by
 intro σ a p hx h0 ha hp;obtain⟨nx,xW⟩:=σ;have hx0:¬ nx=0:=by simp only at hx; omega
 have hl:=YW ok ha hp;obtain⟨r,t⟩:=p;simp only at hp hl h0 ⊢;unfold sD at hl;unfold ZY at h0;unfold oZ;simp only;generalize iH rs a (r,t)= x at hl;refine zL func54 SY λhf=>?_;refine lR h0 hx0 ?_;refine .go (cr hl) ?_;refine wU ?_;exact⟨by simp [D.xT,D.xJ],.same⟩
theorem sr {rs:List xN} {A F T:Nat} (ok:lS rs A F T):gg 58 A F T rs (lN rs):=by
 intro σ a p hx h0 ha hp;obtain⟨nx,xW⟩:=σ;have hx0:¬ nx=0:=by simp only at hx; omega
 have hl:=kd ok ha hp;obtain⟨r,t⟩:=p;simp only at hp hl h0 ⊢;unfold sD at hl;unfold ZY at h0;generalize lN rs a (r,t)= x at hl;refine zL func58 Sb λhf=>?_;refine lR h0 hx0 ?_;refine .go (cr hl) ?_;refine wU ?_;exact .same
theorem ox {c:List (BitVec 64)} (hc:c.length<=1000) (h0:0<c.length):yA prog 60 [.sl 1 (us c)] (.sl 1 (us c)):=by
 obtain⟨x,l,rfl⟩:∃ x l,c=x :: l:=by
  cases c with
  | nil=>simp at h0
  | cons x l=>exact⟨x,l,rfl⟩
 refine zL func60 Sd λhf=>?_;have hl:(us (x :: l)).length=l.length+1:=by simp [us]
 have h1:=fx (x :: l);have e:us (x :: l)= [.int .u64 (ui x)] :: us l:=rfl;simp only [List.length_cons] at hc;rw [e] at hl h1 ⊢;refine wU ?_;refine⟨by simp,h1,by omega,by omega,.drop (by simp) ?_⟩;have hp:=aF (x :: l);rw [e] at hp;have ht:([D.int .u64 (ui x)] :: us l).take (l.length+1)= [D.int .u64 (ui x)] :: us l:=by rw [<- hl,List.take_length]
 simp only [vw];exact⟨trivial,by decide,by simp,⟨1,[D.int .u64 (ui x)] :: us l⟩,rfl,rfl,by simp only; omega,ht.symm,hp⟩
theorem mz {σ:St} {key:Nat} {m:List (List Int)} {more:List (List D)} (x:List Int) (hget:σ.get key=some ⟨1,rl m++more⟩) (hm:od m) (hl:m.length<=1000):∃ b:Bool,xS prog 107 [.yW key 1 m.length,.sl 1 (rows .i64 x),.fn 104 []] σ (.yE [.int .i64 (below m x),.bool b]) σ:=by
 refine⟨decide (below m x<m.length)&& decide (kc (m.getD (below m x) []) x=0),?_⟩;obtain⟨nx,xW⟩:=σ;have hg:St.look xW key=some ⟨1,rl m++more⟩:=hget;have hgl:m.length<=(rl m++more).length:=by rw [List.length_append,xP]; omega
 have hge:∀ i,i<m.length->(rl m++more).getD i [] = [.sl 1 (rows .i64 (m.getD i []))]:=λi hi=>by rw [kb _ _ _ (by rw [xP]; exact hi),wG m hi]
 generalize rl m++more=E at hg hgl hge;refine zL func107 W9 λhf=>?_;refine vY xP ?_
 refine xO (λa:Nat × Nat=>[(10,.int .i64 a.2),(9,.int .i64 a.1),(8,.int .i64 m.length),(2,.fn 104 []),(1,.sl 1 (rows .i64 x)),(0,.yW key 1 m.length)]) (λ_=>⟨nx,xW⟩) (λa=>a.1<=a.2/\a.2<=m.length/\(∀ i,i<a.1->kc (m.getD i []) x<0)/\ (∀ i,a.2<=i->i<m.length->¬ kc (m.getD i []) x<0)) (λa=>a.2-a.1) (0,m.length) ⟨Nat.zero_le _,μ _,λi hi=>by omega,λi h1 h2=>by omega⟩ ?_ ?_
 ·exact wI
 intro ⟨lo,hi⟩ ⟨h1,h2,h3,h4⟩;simp only at h1 h2 h3 h4;refine xE mixed ?_
 by_cases h:lo<hi
 ·have hd:((lo:Int)<(hi:Int)):=by omega
  have es:IntKind.i64.wrap ((lo:Int)+ (hi:Int))= ((lo+hi:Nat):Int):=by rw [wrap_i64 (by omega)]; omega
  have ew:IntKind.i64.wrap (((lo+hi)/ 2:Nat):Int)= (((lo+hi)/ 2:Nat):Int):=wrap_i64 (by omega);have hmid:(lo+hi)/ 2<m.length:=by omega
  simp only [simprocAttr,-ZA,↓zU,↓zD,zV,zT,zW,hd,es,VZ (show lo+hi<=1000000 by omega),cz (show lo+hi<=1000000 by omega),ew,hg,hge _ hmid]
  (repeat refine sd ?_)
  refine .go (xS.vV (jK (m.getD ((lo+hi)/ 2) []) x) (by simp [D.xT,D.xJ])) ?_
  by_cases c:kc (m.getD ((lo+hi)/ 2) []) x<0
  ·refine vY c ?_;refine⟨((lo+hi)/ 2+1,hi),⟨by show (lo+hi)/ 2+1<=hi; omega,h2,λi hi2=>fc hm (show i<=(lo+hi)/ 2 by change i<(lo+hi)/ 2+1 at hi2; omega) hmid c,h4⟩,?_,by show hi-((lo+hi)/ 2+1)<hi-lo; omega⟩;exact sW
  ·refine vY c ?_;refine⟨(lo,(lo+hi)/ 2),⟨by show lo<=(lo+hi)/ 2; omega,by show (lo+hi)/ 2<=m.length; omega,h3,λi hi2 hi3 hc=>c (fc hm hi2 hi3 hc)⟩,?_,by show (lo+hi)/ 2-lo<hi-lo; omega⟩;exact sW
 ·have hd:¬ ((lo:Int)<(hi:Int)):=by omega
  have e:below m x=lo:=eZ (by omega) h3 λa ha hb=>h4 a (by omega) hb;rw [e]
  by_cases hlen:lo<m.length
  ·have hd2:((lo:Int)<(m.length:Int)):=by omega
   simp only [simprocAttr,-ZA,↓zU,↓zD,zV,zT,zW,hd,hd2,hg,hge _ hlen]
   (repeat refine sd ?_)
   refine .go (xS.vV (jK (m.getD lo []) x) (by simp [D.xT,D.xJ])) ?_;refine wU ?_;simp only [decide_eq_true hlen,Bool.true_and];exact .same
  ·have hd2:¬ ((lo:Int)<(m.length:Int)):=by omega
   refine uA hd hd2 ?_;simp only [decide_eq_false hlen,Bool.false_and];exact .same
open Ru
namespace Ru
def yB (kf:Nat->Nat × Nat->List Int) (l:List (Nat × Nat)) (a:Nat) (p:Nat × Nat):Int:=below (dedup (tH (l.map (kf a)))) (kf a p)
def rU (rs:List xN) (A T:Nat) (num:Nat->Nat × Nat->Int):List xN:=(List.range rs.length).map λi=>⟨(List.range T).map λt=>(List.range A).map λa=>num a (i,t),(rs.getD i yF).zM⟩
def rY (num:Nat->Nat × Nat->Int) (A T a w i t:Nat):List Int:=(List.range A).map λb=>if b<a\/(b=a/\i*T+t<w) then num b (i,t) else 0
def oc (rs:List xN) (T:Nat) (kl:Nat->Nat) (i:Nat):List D:=[.yW (kl i) 1 T,.sl 1 (us (rs.getD i yF).zM)]
def tT (rs:List xN) (T:Nat) (kl:Nat->Nat) (r:Nat):List (List D):=(List.range r).map (oc rs T kl)
def vQ (A:Nat) (k:Nat->Nat) (t:Nat):List (List D):=(List.range t).map λi=>[D.yW (k i) 1 A]
theorem uP (rs:List xN) (T:Nat) (kl:Nat->Nat) (r:Nat):(tT rs T kl r).length=r:=by simp [tT]
theorem ml (rs:List xN) (T:Nat) (kl:Nat->Nat) {r i:Nat} (h:i<r):(tT rs T kl r).getD i [] = [.yW (kl i) 1 T,.sl 1 (us (rs.getD i yF).zM)]:=by simp [tT,oc,List.getD,h]
theorem uT (A:Nat) (k:Nat->Nat) (t:Nat):(vQ A k t).length=t:=by simp [vQ]
theorem zo (A:Nat) (k:Nat->Nat) {t i:Nat} (h:i<t):(vQ A k t).getD i [] = [D.yW (k i) 1 A]:=by simp [vQ,List.getD,h]
theorem sx (rs:List xN) (T:Nat) (kl:Nat->Nat) (r n:Nat):tT rs T (λi=>if i=r then n else kl i) (r+1)= tT rs T kl r ++ [[.yW n 1 T,.sl 1 (us (rs.getD r yF).zM)]]:=by
 unfold tT;rw [List.range_succ,List.map_append]
 congr 1
 ·refine δ λi hi=>?_;have hi':=γ.1 hi;unfold oc;simp only [if_neg (show ¬ i=r by omega)]
 ·simp [oc]
theorem bR (A:Nat) (k:Nat->Nat) (t n:Nat):vQ A (λi=>if i=t then n else k i) (t+1)= vQ A k t ++ [[D.yW n 1 A]]:=by
 unfold vQ;rw [List.range_succ,List.map_append]
 congr 1
 ·refine δ λi hi=>?_;have hi':=γ.1 hi;simp only [if_neg (show ¬ i=t by omega)]
 ·simp
theorem sY {key sz:Nat} {xX:List (List D)} (h:0<xX.length):xI key sz xX = .yW key sz xX.length:=by
 cases xX with
 | nil=>simp at h
 | cons e r=>rfl
theorem yQ {sz:Nat} {xX:List (List D)} (h:0<xX.length):zN sz xX=some ⟨sz,xX⟩:=by
 cases xX with
 | nil=>simp at h
 | cons e r=>rfl
structure NI (rs : List xN) (A F T nb r kr : Nat) (kl : Nat -> Nat) (ki : Nat -> Nat -> Nat) (v : Nat -> Nat -> List Int) (xW : List (Nat × Ob)) : Prop where
 l0:St.look xW 0=some ⟨4,[[.int .i64 (A:Int),.int .i64 (F:Int),.int .i64 (T:Int),.sl 2 (xK rs)]]⟩
 l1:St.look xW 1=some ⟨4,[[.int .i64 0,.int .i64 0,.int .i64 0,.xZ]]⟩
 l2:St.look xW 2=some ⟨4,[[.int .i64 (A:Int),.int .i64 (F:Int),.int .i64 (T:Int),.sl 2 (xK rs)]]⟩
 l3:St.look xW 3=some ⟨4,[[.int .i64 0,.int .i64 0,.int .i64 0,.xZ]]⟩
 l4:St.look xW 4=some ⟨4,[[.int .i64 (A:Int),.int .i64 (F:Int),.int .i64 (T:Int),xI kr 2 (tT rs T kl r)]]⟩
 fr:St.look xW 1000000=none
 lr:St.look xW kr=zN 2 (tT rs T kl r)
 k5:5<=nb
 hk:5<=kr/\(kr<nb\/kr=1000000)
 ll:∀ i,i<r->5<=kl i/\kl i<nb/\kl i≠kr/\St.look xW (kl i)= some ⟨1,vQ A (ki i) T⟩
 li:∀ i t,i<r->t<T->5<=ki i t/\ki i t<nb/\ki i t≠kr/\St.look xW (ki i t)= some ⟨1,rows .i64 (v i t)⟩
 dl:∀ i j,i<r->j<r->kl i=kl j->i=j
 dm:∀ i j t,i<r->j<r->t<T->kl i≠ki j t
 di:∀ i j t u,i<r->j<r->t<T->u<T->ki i t=ki j u->i=j/\t=u
theorem NI.frame {rs:List xN} {A F T nb r kr:Nat} {kl:Nat->Nat} {ki:Nat->Nat->Nat} {v:Nat->Nat->List Int} {xW objs':List (Nat × Ob)} (h:NI rs A F T nb r kr kl ki v xW)
  (hs:∀ k,k<nb->St.look objs' k=St.look xW k) (hf:St.look objs' 1000000=none):NI rs A F T nb r kr kl ki v objs' where
 l0:=by rw [hs _ (by have:=h.k5; omega)]; exact h.l0
 l1:=by rw [hs _ (by have:=h.k5; omega)]; exact h.l1
 l2:=by rw [hs _ (by have:=h.k5; omega)]; exact h.l2
 l3:=by rw [hs _ (by have:=h.k5; omega)]; exact h.l3
 l4:=by rw [hs _ (by have:=h.k5; omega)]; exact h.l4
 fr:=hf
 lr:=by
  rcases h.hk.2 with e | e
  ·rw [hs _ e]; exact h.lr
  ·have:=h.lr;rw [e,h.fr] at this;rw [e,hf]; exact this
 k5:=h.k5
 hk:=h.hk
 ll:=λi hi=>by obtain⟨a,b,c,d⟩:=h.ll i hi; exact⟨a,b,c,by rw [hs _ b]; exact d⟩
 li:=λi t hi ht=>by obtain⟨a,b,c,d⟩:=h.li i t hi ht; exact⟨a,b,c,by rw [hs _ b]; exact d⟩
 dl:=h.dl
 dm:=h.dm
 di:=h.di
theorem NI.more {rs:List xN} {A F T nb r kr:Nat} {kl:Nat->Nat} {ki:Nat->Nat->Nat} {v:Nat->Nat->List Int} {xW objs':List (Nat × Ob)} (h:NI rs A F T nb r kr kl ki v xW)
  {nb' kr' kL:Nat} {kj:Nat->Nat} (hn:nb<=nb') (hb:nb'<1000000) (h4:St.look objs' 4=some ⟨4,[[.int .i64 (A:Int),.int .i64 (F:Int),.int .i64 (T:Int),xI kr' 2 (tT rs T (λi=>if i=r then kL else kl i) (r+1))]]⟩)
  (hs:∀ k,k<nb->k≠4->k≠kr->St.look objs' k=St.look xW k) (hf:St.look objs' 1000000=none)
  (hr:St.look objs' kr'=zN 2 (tT rs T (λi=>if i=r then kL else kl i) (r+1))) (hkr:nb<=kr'/\kr'<nb')
  (hL:nb<=kL/\kL<nb'/\kL≠kr'/\St.look objs' kL=some ⟨1,vQ A kj T⟩)
  (hj:∀ t,t<T->nb<=kj t/\kj t<nb'/\kj t≠kr'/\kj t≠kL/\St.look objs' (kj t)= some ⟨1,rows .i64 (v r t)⟩)
  (hd:∀ t u,t<T->u<T->kj t=kj u->t=u):NI rs A F T nb' (r+1) kr' (λi=>if i=r then kL else kl i) (λi=>if i=r then kj else ki i) v objs' where
 l0:=by rw [hs _ (by have:=h.k5; omega) (by omega) (by have:=h.hk.1; omega)]; exact h.l0
 l1:=by rw [hs _ (by have:=h.k5; omega) (by omega) (by have:=h.hk.1; omega)]; exact h.l1
 l2:=by rw [hs _ (by have:=h.k5; omega) (by omega) (by have:=h.hk.1; omega)]; exact h.l2
 l3:=by rw [hs _ (by have:=h.k5; omega) (by omega) (by have:=h.hk.1; omega)]; exact h.l3
 l4:=h4
 fr:=hf
 lr:=hr
 k5:=by have:=h.k5; omega
 hk:=by have:=h.k5; omega
 ll:=λi hi=>by
  have:=h.k5
  by_cases e:i=r
  ·subst e;simp only [if_true];obtain⟨a,b,c,d⟩:=hL;exact⟨by omega,b,c,d⟩
  ·simp only [if_neg e];obtain⟨a,b,c,d⟩:=h.ll i (by omega);exact⟨a,by omega,by omega,by rw [hs _ b (by omega) c]; exact d⟩
 li:=λi t hi ht=>by
  have:=h.k5
  by_cases e:i=r
  ·subst e;simp only [if_true];obtain⟨a,b,c,_,d⟩:=hj t ht;exact⟨by omega,b,c,d⟩
  ·simp only [if_neg e];obtain⟨a,b,c,d⟩:=h.li i t (by omega) ht;exact⟨a,by omega,by omega,by rw [hs _ b (by omega) c]; exact d⟩
 dl:=λi j hi hj' e=>by
  by_cases ei:i=r <;> by_cases ej:j=r
  ·omega
  ·subst ei;simp only [if_true,if_neg ej] at e;have:=h.ll j (by omega);omega
  ·subst ej;simp only [if_true,if_neg ei] at e;have:=h.ll i (by omega);omega
  ·simp only [if_neg ei,if_neg ej] at e;exact h.dl i j (by omega) (by omega) e
 dm:=λi j t hi hj' ht=>by
  by_cases ei:i=r <;> by_cases ej:j=r
  ·subst ei; subst ej;simp only [if_true];have:=hj t ht;omega
  ·subst ei;simp only [if_true,if_neg ej];have:=h.li j t (by omega) ht;omega
  ·subst ej;simp only [if_true,if_neg ei];have:=h.ll i (by omega);have:=hj t ht;omega
  ·simp only [if_neg ei,if_neg ej];exact h.dm i j t (by omega) (by omega) ht
 di:=λi j t u hi hj' ht hu e=>by
  by_cases ei:i=r <;> by_cases ej:j=r
  ·subst ei; subst ej;simp only [if_true] at e;exact⟨rfl,hd t u ht hu e⟩
  ·subst ei;simp only [if_true,if_neg ej] at e;have:=h.li j u (by omega) hu;have:=hj t ht;omega
  ·subst ej;simp only [if_true,if_neg ei] at e;have:=h.li i t (by omega) ht;have:=hj u hu;omega
  ·simp only [if_neg ei,if_neg ej] at e;exact h.di i j t u (by omega) (by omega) ht hu e
structure BI (A nb : Nat) (zM : List (BitVec 64)) (t kL : Nat) (kj : Nat -> Nat) (nx : Nat) (objs0 xW : List (Nat × Ob)) : Prop where
 n2:nb+2<=nx/\nx<=nb+2+3*t
 ln:St.look xW (nb+1)= some ⟨2,[[xI kL 1 (vQ A kj t),.sl 1 (us zM)]]⟩
 lL:St.look xW kL=zN 1 (vQ A kj t)
 hL:(nb+2<=kL/\kL<nx)\/kL=1000000
 lj:∀ i,i<t->nb+2<=kj i/\kj i<nx/\kj i≠kL/\St.look xW (kj i)= some ⟨1,List.replicate A [.int .i64 0]⟩
 dj:∀ i j,i<t->j<t->kj i=kj j->i=j
 uD:∀ k,k<nb->St.look xW k=St.look objs0 k
 fr:St.look xW 1000000=none
end Ru
open Ru
namespace Ru
theorem zw (num:Nat->Nat × Nat->Int) (A T a w i t:Nat):(rY num A T a w i t).length=A:=by simp [rY]
theorem dt {num:Nat->Nat × Nat->Int} {A T a n i t:Nat} (h:i*T+t<n):rY num A T a n i t=rY num A T (a+1) 0 i t:=by
 unfold rY;refine δ λb _=>?_
 by_cases e:b<a+1
 ·rw [if_pos (by omega),if_pos (.inl e)]
 ·rw [if_neg (by omega),if_neg (by omega)]
theorem dw {num:Nat->Nat × Nat->Int} {A T a w i t:Nat} (h:i*T+t=w):(rY num A T a w i t).set a (num a (i,t))= rY num A T a (w+1) i t:=by
 refine List.ext_getElem (by simp [rY]) λk h1 h2=>?_;rw [List.getElem_set];simp only [rY,List.getElem_map,List.getElem_range]
 by_cases e:a=k
 ·subst e; rw [if_pos rfl,if_pos (by omega)]
 ·rw [if_neg e]
  by_cases hk:k<a
  ·rw [if_pos (by omega),if_pos (by omega)]
  ·rw [if_neg (by omega),if_neg (by omega)]
theorem X0 {num:Nat->Nat × Nat->Int} {A T a w i t:Nat} (h:i*T+t≠w):rY num A T a w i t=rY num A T a (w+1) i t:=by
 unfold rY;refine δ λb _=>?_
 by_cases e:b<a\/(b=a/\i*T+t<w)
 ·rw [if_pos e,if_pos (by omega)]
 ·rw [if_neg e,if_neg (by omega)]
theorem du (num:Nat->Nat × Nat->Int) (A T i t:Nat):rY num A T A 0 i t=(List.range A).map λa=>num a (i,t):=by unfold rY;refine δ λb hb=>?_;rw [if_pos (.inl (γ.1 hb))]
theorem NI.val {rs:List xN} {A F T nb r kr:Nat} {kl:Nat->Nat} {ki:Nat->Nat->Nat} {v v':Nat->Nat->List Int} {xW:List (Nat × Ob)} (h:NI rs A F T nb r kr kl ki v xW)
  (hv:∀ i t,i<r->t<T->v i t=v' i t):NI rs A F T nb r kr kl ki v' xW:=
 { h with li:=λi t hi ht=>by rw [<- hv i t hi ht]; exact h.li i t hi ht }
theorem NI.Tz {rs:List xN} {A F T nb r kr:Nat} {kl:Nat->Nat} {ki:Nat->Nat->Nat} {v v':Nat->Nat->List Int} {xW objs':List (Nat × Ob)} (h:NI rs A F T nb r kr kl ki v xW) {i t:Nat} (hi:i<r) (ht:t<T)
  (hn:∀ j u,j<r->u<T->¬ (j=i/\u=t)->v j u=v' j u) (hx:St.look objs' (ki i t)= some ⟨1,rows .i64 (v' i t)⟩)
  (hs:∀ k,k<nb->k≠ki i t->St.look objs' k=St.look xW k) (hf:St.look objs' 1000000=none):NI rs A F T nb r kr kl ki v' objs':=by
 obtain⟨q1,q2,q3,q4⟩:=h.li i t hi ht;have k5:=h.k5
 refine⟨by rw [hs _ (by omega) (by omega)]; exact h.l0,by rw [hs _ (by omega) (by omega)]; exact h.l1,by rw [hs _ (by omega) (by omega)]; exact h.l2,by rw [hs _ (by omega) (by omega)]; exact h.l3,by rw [hs _ (by omega) (by omega)]; exact h.l4,hf,?_,k5,h.hk,λj hj=>?_,λj u hj hu=>?_,h.dl,h.dm,h.di⟩
 ·rcases h.hk.2 with e | e
  ·rw [hs _ e (by omega)]; exact h.lr
  ·have:=h.lr;rw [e,h.fr] at this;rw [e,hf]; exact this
 ·obtain⟨a,b,c,d⟩:=h.ll j hj;exact⟨a,b,c,by rw [hs _ b (h.dm j i t hj hi ht)]; exact d⟩
 ·obtain⟨a,b,c,d⟩:=h.li j u hj hu;refine⟨a,b,c,?_⟩
  by_cases e:j=i/\u=t
  ·obtain⟨rfl,rfl⟩:=e;exact hx
  ·rw [hs _ b (λe2=>e (h.di j i u t hj hi hu ht e2)),d,hn j u hj hu e]
theorem tB {σ σ':St} {ρ:Nat->Nat} {α:Type} {f g:α->List D}:∀ {l:List α},(∀ i ∈ l,(f i).length=(g i).length/\tV σ σ' ρ (f i) (g i))->dC σ σ' ρ (l.map f) (l.map g)
 | [],_=>.nil
 | x :: l,h=>.cons (h x (by simp)).1 (h x (by simp)).2 (tB λi hi=>h i (ζ _ hi))
theorem fH {α:Type} {k:α->Nat} {o:α->Ob}:∀ {l:List α} {x:α},x ∈ l->(∀ y ∈ l,k y=k x->y=x)->St.look (l.map λi=>(k i,o i)) (k x)= some (o x)
 | [],x,h,_=>by cases h
 | y :: l,x,h,hi=>by
  rw [List.map_cons,yZ]
  by_cases e:k y=k x
  ·rw [if_pos e,hi y (by simp) e]
  ·rw [if_neg e];refine fH ?_ λz hz=>hi z (ζ _ hz)
   rcases ε.1 h with e2 | e2
   ·exact absurd (by rw [e2]) e
   ·exact e2
theorem xU {j k:Nat} {o:Ob} {r:List (Nat × Ob)} (h:¬ j=k):St.look ((j,o) :: r) k=St.look r k:=by rw [yZ,if_neg h]
def qm (rs:List xN) (A F T kr:Nat) (kl:Nat->Nat) (v:Nat->Nat->List Int):List (Nat × Ob):=
 (4,⟨4,[[.int .i64 (A:Int),.int .i64 (F:Int),.int .i64 (T:Int),.yW kr 2 rs.length]]⟩) :: (kr,⟨2,tT rs T kl rs.length⟩) :: (3,⟨4,[[.int .i64 0,.int .i64 0,.int .i64 0,.xZ]]⟩) :: (1,⟨4,[[.int .i64 0,.int .i64 0,.int .i64 0,.xZ]]⟩) ::
  (0,⟨4,[[.int .i64 (A:Int),.int .i64 (F:Int),.int .i64 (T:Int),.sl 2 (xK rs)]]⟩) :: (List.range rs.length).map λi=>(kl i,⟨1,rl ((List.range T).map (v i))⟩)
def VO (rs rs':List xN) (A F T kr:Nat):List (Nat × Ob):=
 [(4,⟨4,[[.int .i64 (A:Int),.int .i64 (F:Int),.int .i64 (T:Int),.yW kr 2 rs.length]]⟩),(kr,⟨2,xK rs'⟩),(3,⟨4,[[.int .i64 0,.int .i64 0,.int .i64 0,.xZ]]⟩),(1,⟨4,[[.int .i64 0,.int .i64 0,.int .i64 0,.xZ]]⟩),
  (0,⟨4,[[.int .i64 (A:Int),.int .i64 (F:Int),.int .i64 (T:Int),.sl 2 (xK rs)]]⟩)]
theorem YL {C:Cx} {f:Fr} {rs:List xN} {A F T nb kr nx:Nat} {kl:Nat->Nat} {ki:Nat->Nat->Nat} {v:Nat->Nat->List Int} {xW:List (Nat × Ob)} (hI:NI rs A F T nb rs.length kr kl ki v xW) (hc:C.n0=2) (hx:nb<=nx)
  (hR:0<rs.length) (hv:∀ i t,i<rs.length->t<T->(v i t).length=A) (h4:f.get 4 = .ref 3 4 0 0) (h7:f.get 7 = .ref 4 4 0 0):yO C f ⟨nx,xW⟩ [(4,.ref 3 4 0 0),(7,.ref 4 4 0 0)] ⟨nx,qm rs A F T kr kl v⟩:=by
 have k5:=hI.k5
 have hkr:kr<nb:=by
  rcases hI.hk.2 with e | e
  ·exact e
  ·have:=hI.lr;rw [e,hI.fr,yQ (by rw [uP]; exact hR)] at this;cases this
 have hg:xI kr 2 (tT rs T kl rs.length)= .yW kr 2 rs.length:=by rw [sY (by rw [uP]; exact hR),uP]
 have l4:=hI.l4;rw [hg] at l4;have lr:=hI.lr;rw [yQ (by rw [uP]; exact hR)] at lr
 refine yO.view (λk=>k) (by rw [hc]; show 2<=nx; omega) (λ_ _=>rfl) ?_ ?_ (λp _ q _ e=>e)
 ·simp only [xd,vw,h4,h7];exact⟨⟨by omega,trivial⟩,⟨by omega,trivial⟩,trivial⟩
 ·intro p hp;simp only [qm,ε,List.mem_map,γ] at hp
  rcases hp with rfl | rfl | rfl | rfl | rfl | ⟨i,hi,rfl⟩
  ·refine⟨by show 4<nx; omega,_,l4,rfl,.cons rfl ?_ .nil⟩;simp only [tV,vw,and_true,true_and];omega
  ·refine⟨by show kr<nx; omega,_,lr,rfl,?_⟩;refine tB λi hi=>⟨rfl,?_⟩;have:=hI.ll i (γ.1 hi);simp only [oc,tV,vw,and_true,true_and];omega
  ·exact⟨by show 3<nx; omega,_,hI.l3,rfl,.same (by simp [D.xT,D.xJ])⟩
  ·exact⟨by show 1<nx; omega,_,hI.l1,rfl,.same (by simp [D.xT,D.xJ])⟩
  ·exact⟨by show 0<nx; omega,_,hI.l0,rfl,.same (by simp [D.xT,D.xJ])⟩
  ·obtain⟨a,b,c,d⟩:=hI.ll i hi;refine⟨by show kl i<nx; omega,_,d,rfl,?_⟩;show dC _ _ _ (vQ A (ki i) T) (rl ((List.range T).map (v i)));unfold rl vQ;rw [List.map_map];refine tB λt ht=>⟨rfl,?_⟩;have ht':=γ.1 ht;obtain⟨a',b',c',d'⟩:=hI.li i t hi ht';simp only [Function.comp,tV,vw,and_true]
   refine⟨trivial,by decide,λq hq=>?_,_,d',rfl,?_,?_,vK _ _⟩
   ·simp only [qm,ε,List.mem_map,γ] at hq
    rcases hq with rfl | rfl | rfl | rfl | rfl | ⟨j,hj,rfl⟩
    ·show 4≠ki i t; omega
    ·exact λe=>c' e.symm
    ·show 3≠ki i t; omega
    ·show 1≠ki i t; omega
    ·show 0≠ki i t; omega
    ·exact hI.dm j i t hj hi ht'
   ·rw [xF,hv i t hi ht']; exact μ _
   ·exact(uH (by rw [xF,hv i t hi ht'])).symm
theorem YM {C:Cx} {rs rs':List xN} {A F T nb kr nx:Nat} {kl:Nat->Nat} {ki:Nat->Nat->Nat} {v v0:Nat->Nat->List Int} {xW:List (Nat × Ob)} (hI:NI rs A F T nb rs.length kr kl ki v0 xW) (hc:C.n0=2) (hx:nb<=nx) (hkr:kr<nx)
  (hT:∀ i,i<rs.length->(rl ((List.range T).map (v i))).length=T)
  (hr:rs'=(List.range rs.length).map λi=>⟨(List.range T).map (v i),(rs.getD i yF).zM⟩):yO C [(4,.ref 3 4 0 0),(7,.ref 4 4 0 0)] ⟨nx,qm rs A F T kr kl v⟩ [(4,.ref 3 4 0 0),(7,.ref 4 4 0 0)] ⟨nx,VO rs rs' A F T kr⟩:=by
 have k5:=hI.k5;have hk:=hI.hk.1
 refine yO.view (λk=>k) (by rw [hc]; show 2<=nx; omega) (λ_ _=>rfl) ?_ ?_ (λp _ q _ e=>e)
 ·simp only [xd,vw,Fr.get,reduceIte,Nat.reduceEqDiff];exact⟨⟨by omega,trivial⟩,⟨by omega,trivial⟩,trivial⟩
 ·intro p hp;simp only [VO,ε,θ,or_false] at hp
  rcases hp with rfl | rfl | rfl | rfl | rfl
  ·refine⟨by show 4<nx; omega,_,rfl,rfl,.cons rfl ?_ .nil⟩;simp only [tV,vw,and_true,true_and];omega
  ·have e:St.look (qm rs A F T kr kl v) kr=some ⟨2,tT rs T kl rs.length⟩:=by unfold qm; rw [xU (by omega),yZ,if_pos rfl]
   refine⟨by show kr<nx; omega,_,e,rfl,?_⟩;show dC _ _ _ (tT rs T kl rs.length) (xK rs');rw [hr];unfold tT xK;rw [List.map_map];refine tB λi hi=>⟨rfl,?_⟩;have hi':=γ.1 hi;obtain⟨a,b,c,_⟩:=hI.ll i hi'
   have hl:St.look (qm rs A F T kr kl v) (kl i)= some ⟨1,rl ((List.range T).map (v i))⟩:=by unfold qm;rw [xU (by omega),xU (λe=>c e.symm),xU (by omega),xU (by omega),xU (by omega)];exact fH (o:=λi=>⟨1,rl ((List.range T).map (v i))⟩) hi λj hj e=>hI.dl j i (γ.1 hj) hi' e
   have hh:=hT i hi';simp only [oc,Function.comp,xN.row,tV,vw,and_true,true_and]
   refine⟨by decide,λq hq=>?_,_,hl,rfl,?_,?_,lC _⟩
   ·simp only [VO,ε,θ,or_false] at hq
    rcases hq with rfl | rfl | rfl | rfl | rfl
    ·show 4≠kl i; omega
    ·exact λe=>c e.symm
    ·show 3≠kl i; omega
    ·show 1≠kl i; omega
    ·show 0≠kl i; omega
   ·show T<=(rl _).length;rw [hh]; exact μ _
   ·exact(uH hh.symm).symm
  ·have e:St.look (qm rs A F T kr kl v) 3=some ⟨4,[[.int .i64 0,.int .i64 0,.int .i64 0,.xZ]]⟩:=by unfold qm; rw [xU (by omega),xU (by omega)]; rfl
   exact⟨by show 3<nx; omega,_,e,rfl,.same (by simp [D.xT,D.xJ])⟩
  ·have e:St.look (qm rs A F T kr kl v) 1=some ⟨4,[[.int .i64 0,.int .i64 0,.int .i64 0,.xZ]]⟩:=by unfold qm; rw [xU (by omega),xU (by omega)]; rfl
   exact⟨by show 1<nx; omega,_,e,rfl,.same (by simp [D.xT,D.xJ])⟩
  ·have e:St.look (qm rs A F T kr kl v) 0=some ⟨4,[[.int .i64 (A:Int),.int .i64 (F:Int),.int .i64 (T:Int),.sl 2 (xK rs)]]⟩:=by unfold qm; rw [xU (by omega),xU (by omega)]; rfl
   exact⟨by show 0<nx; omega,_,e,rfl,.same (by simp [D.xT,D.xJ])⟩
end Ru
open Ru
theorem kT {l:List (List Int)}:∀ {k:Nat} {x:List Int},x ∈ wJ l k ↔ ∃ i,i<k/\l.getD i []=x
 | 0,x=>by simp [wJ]
 | k+1,x=>by
  rw [wJ]
  by_cases h:0<k/\l.getD k []=l.getD (k-1) []
  ·rw [if_pos h,kT];refine⟨λ⟨i,hi,e⟩=>⟨i,by omega,e⟩,λ⟨i,hi,e⟩=>?_⟩
   by_cases ei:i=k
   ·exact⟨k-1,by omega,by rw [<- h.2,<- ei]; exact e⟩
   ·exact⟨i,by omega,e⟩
  ·rw [if_neg h,List.mem_append,kT,η];refine⟨λc=>c.elim (λ⟨i,hi,e⟩=>⟨i,by omega,e⟩) (λe=>⟨k,by omega,e.symm⟩),λ⟨i,hi,e⟩=>?_⟩
   by_cases ei:i=k
   ·exact .inr (by rw [<- e,ei])
   ·exact .inl ⟨i,by omega,e⟩
theorem ua {l:List (List Int)} (h:od l) {i j:Nat} (hij:i<j) (hj:j<l.length):¬ kc (l.getD j []) (l.getD i [])<0:=by have:=List.pairwise_iff_getElem.1 h i j (by omega) hj hij;simpa [List.getD,hj,show i<l.length by omega] using this
theorem qG {l:List (List Int)} (h:od l):∀ {k:Nat},k<=l.length->(wJ l k).Pairwise λa b=>kc a b<0
 | 0,_=>List.Pairwise.nil
 | k + 1,hk=>by
  rw [wJ]
  by_cases c:0<k/\l.getD k []=l.getD (k-1) []
  ·rw [if_pos c]; exact qG h (by omega)
  ·rw [if_neg c];refine List.pairwise_append.2 ⟨qG h (by omega),List.pairwise_singleton _ _,λx hx y hy=>?_⟩;rw [η] at hy;subst hy;obtain⟨i,hi,rfl⟩:=kT.1 hx;have h1:=ua h hi (show k<l.length by omega)
   by_cases e:kc (l.getD i []) (l.getD k [])<0
   ·exact e
   ·exfalso;have eq:l.getD i []=l.getD k []:=xy h1 e
    by_cases e2:i=k-1
    ·exact c ⟨by omega,by rw [<- eq,e2]⟩
    ·have h2:=ua h (show i<k-1 by omega) (show k-1<l.length by omega);have h3:=ua h (show k-1<k by omega) (show k<l.length by omega);rw [eq] at h2;exact c ⟨by omega,xy h3 h2 |>.symm⟩
theorem jy {l:List (List Int)} (h:od l):od (dedup l):=by have:=qG h (μ l.length);exact this.imp λ{a b} h=>by have:=oV a b; omega
theorem vi {l:List (List Int)} (h:od l):(dedup l).Nodup:=by have:=qG h (μ l.length);refine this.imp λ{a b} h e=>?_;rw [e,gY] at h;omega
theorem jx {l:List (List Int)} {x:List Int}:x ∈ dedup l ↔ x ∈ l:=by
 unfold dedup;rw [kT]
 constructor
 ·rintro ⟨i,hi,rfl⟩; exact yX hi
 ·intro h;obtain⟨i,hi,e⟩:=List.mem_iff_getElem.1 h;exact⟨i,hi,by simp [List.getD,hi,e]⟩
end Go.Pd
