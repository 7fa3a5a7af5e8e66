/- Part SH. -/
import Derived.Test.YtndfaefmmcoapaaGreatUbXA
import Derived.Test.YtndfaefmmcoapaaGreatUbX9
import Derived.Test.YtndfaefmmcoapaaGreatUbSC
set_option linter.unusedSectionVars false
set_option linter.unusedVariables false
set_option linter.unusedSimpArgs false
set_option linter.defProp false
set_option maxRecDepth 20000
set_option maxHeartbeats 1000000
open Go.Proofs.Tryz
open List renaming map_congr_left->γ,mem_range->δ,mem_cons->ε,length_map->ζ,mem_cons_of_mem->η,mem_singleton->θ,any_eq_false->κ,not_mem_nil->μ,ext_getElem->ν,cons_append->ξ,any_eq_true->ο
open Nat renaming not_lt_zero->π,le_refl->τ,zero_le->υ,mul_comm->χ
namespace Go.Pd
open Go Go.Proofs
open BitVec renaming isValue -> ZA
open Ru
namespace Ru
def Mc (A F T:Nat) (rs:List xG):Ob:=⟨4,[[.int .i64 (A:Int),.int .i64 (F:Int),.int .i64 (T:Int),.sl 2 (zL rs)]]⟩
def oR (rs:List xG) (a:Nat) (p:Nat × Nat):List Int:=[(p.2:Int),yJ rs a p]
def Ox (g:FuncId) (A F T:Nat) (rs:List xG) (kf:Nat->Nat × Nat->List Int):Prop:=
 ∀ (σ:St) (a:Nat) (p:Nat × Nat),0<σ.nx->St.look σ.xZ 0=some (Mc A F T rs)->a<A->p.1<rs.length/\p.2<T ->
  xY prog g ([.int .i64 (a:Int),.agg [.int .i64 (p.1:Int),.int .i64 (p.2:Int)]] ++ [.ref 0 4 0 0]) σ (.sl 1 (rows .i64 (kf a p))) ⟨σ.nx+1,(σ.nx,⟨2,[[.int .i64 (p.1:Int),.int .i64 (p.2:Int)]]⟩) :: σ.xZ⟩
theorem jW {α:Type} (a b:List α) (d:α) {n:Nat} (h:n<a.length):(a++b).getD n d=a.getD n d:=by simp [List.getD,List.getElem?_append_left h]
end Ru
theorem QE {rs:List xG} {A F T:Nat} (ok:OkR rs A F T):Ox 109 A F T rs (oR rs):=by
 intro σ a p hx h0 ha hp;obtain⟨nx,xZ⟩:=σ;have hx0:¬ nx=0:=by simp only at hx; omega
 have hl:=ye ok ha hp;obtain⟨r,t⟩:=p;simp only at hp hl h0 ⊢;unfold sD at hl;unfold Mc at h0;unfold oR;simp only;generalize yJ rs a (r,t)= x at hl;refine xY.xP mixed func109 Kj (by simp) λhf=>?_;simp only [simprocAttr,-ZA,↓zU,↓zD,zV,zT,zW,h0,hx0]
 (repeat refine sd ?_)
 refine .go (cr hl) ?_;simp only [simprocAttr,-ZA,↓zU,↓zD,zV,zT,zW];exact⟨by simp [D.xU,D.xL],.same⟩
theorem Zp {c:List (BitVec 64)} (hc:c.length<=1000) (h0:0<c.length):zX prog 122 [.sl 1 (us c)] (.sl 1 (us c)):=by
 obtain⟨x,l,rfl⟩:∃ x l,c=x :: l:=by
  cases c with
  | nil=>simp at h0
  | cons x l=>exact⟨x,l,rfl⟩
 refine xY.xP mixed func122 MU (by simp) λhf=>?_;have hl:(us (x :: l)).length=l.length+1:=by simp [us]
 have h1:=Ym (x :: l);have e:us (x :: l)= [.int .u64 (ui x)] :: us l:=rfl;simp only [List.length_cons] at hc;rw [e] at hl h1 ⊢;simp only [simprocAttr,-ZA,↓zU,↓zD,zV,zT,zW];refine⟨by simp,h1,by omega,by omega,.drop (by simp) ?_⟩;have hp:=sF (x :: l);rw [e] at hp;have ht:([D.int .u64 (ui x)] :: us l).take (l.length+1)= [D.int .u64 (ui x)] :: us l:=by rw [<- hl,List.take_length]
 simp only [vw];exact⟨trivial,by decide,by simp,⟨1,[D.int .u64 (ui x)] :: us l⟩,rfl,rfl,by simp only; omega,ht.symm,hp⟩
theorem ZG {σ:St} {key:Nat} {m:List (List Int)} {more:List (List D)} (x:List Int) (hget:σ.get key=some ⟨1,rl m++more⟩) (hm:asc m) (hl:m.length<=1000):∃ b:Bool,xY prog 175 [.osl key 1 m.length,.sl 1 (rows .i64 x),.fn 172 []] σ (.tup [.int .i64 (below m x),.bool b]) σ:=by
 refine⟨decide (below m x<m.length)&& decide (kc (m.getD (below m x) []) x=0),?_⟩;obtain⟨nx,xZ⟩:=σ;have hg:St.look xZ key=some ⟨1,rl m++more⟩:=hget;have hgl:m.length<=(rl m++more).length:=by rw [List.length_append,yD]; omega
 have hge:∀ i,i<m.length->(rl m++more).getD i [] = [.sl 1 (rows .i64 (m.getD i []))]:=λi hi=>by rw [jW _ _ _ (by rw [yD]; exact hi),tH m hi]
 generalize rl m++more=E at hg hgl hge;refine xY.xP mixed func175 Lb (by simp) λhf=>?_;simp only [simprocAttr,-ZA,↓zU,↓zD,zV,zT,zW,yD]
 refine xT (λa:Nat × Nat=>[(10,.int .i64 a.2),(9,.int .i64 a.1),(8,.int .i64 m.length),(2,.fn 172 []),(1,.sl 1 (rows .i64 x)),(0,.osl key 1 m.length)]) (λ_=>⟨nx,xZ⟩) (λa=>a.1<=a.2/\a.2<=m.length/\(∀ i,i<a.1->kc (m.getD i []) x<0)/\ (∀ i,a.2<=i->i<m.length->¬ kc (m.getD i []) x<0)) (λa=>a.2-a.1) (0,m.length) ⟨υ _,τ _,λi hi=>by omega,λi h1 h2=>by omega⟩ ?_ ?_
 ·(refine xN.same ?_; simp [xQ,Fr.get])
 intro ⟨lo,hi⟩ ⟨h1,h2,h3,h4⟩;simp only at h1 h2 h3 h4;refine xO mixed ?_
 by_cases h:lo<hi
 ·have hd:((lo:Int)<(hi:Int)):=by omega
  have es:IntKind.i64.wrap ((lo:Int)+ (hi:Int))= ((lo+hi:Nat):Int):=by rw [wrap_i64 (by omega)]; omega
  have ew:IntKind.i64.wrap (((lo+hi)/ 2:Nat):Int)= (((lo+hi)/ 2:Nat):Int):=wrap_i64 (by omega);have hmid:(lo+hi)/ 2<m.length:=by omega
  simp only [simprocAttr,-ZA,↓zU,↓zD,zV,zT,zW,hd,es,VU (show lo+hi<=1000000 by omega),fw (show lo+hi<=1000000 by omega),ew,hg,hge _ hmid]
  (repeat refine sd ?_)
  refine .go (xY.yO (cX (m.getD ((lo+hi)/ 2) []) x) (by simp [D.xU,D.xL])) ?_
  by_cases c:kc (m.getD ((lo+hi)/ 2) []) x<0
  ·simp only [simprocAttr,-ZA,↓zU,↓zD,zV,zT,zW,c];refine⟨((lo+hi)/ 2+1,hi),⟨by show (lo+hi)/ 2+1<=hi; omega,h2,λi hi2=>gu hm (show i<=(lo+hi)/ 2 by change i<(lo+hi)/ 2+1 at hi2; omega) hmid c,h4⟩,?_,by show hi-((lo+hi)/ 2+1)<hi-lo; omega⟩
   (refine xN.same ?_; simp only [xQ,Fr.get,simprocAttr,-ZA,zS])
   exact wrap_i64 (by omega)
  ·simp only [simprocAttr,-ZA,↓zU,↓zD,zV,zT,zW,c];refine⟨(lo,(lo+hi)/ 2),⟨by show lo<=(lo+hi)/ 2; omega,by show (lo+hi)/ 2<=m.length; omega,h3,λi hi2 hi3 hc=>c (gu hm hi2 hi3 hc)⟩,?_,by show (lo+hi)/ 2-lo<hi-lo; omega⟩
   (refine xN.same ?_; simp only [xQ,Fr.get,simprocAttr,-ZA,zS])
 ·have hd:¬ ((lo:Int)<(hi:Int)):=by omega
  have e:below m x=lo:=gF (by omega) h3 λa ha hb=>h4 a (by omega) hb;rw [e]
  by_cases hlen:lo<m.length
  ·have hd2:((lo:Int)<(m.length:Int)):=by omega
   simp only [simprocAttr,-ZA,↓zU,↓zD,zV,zT,zW,hd,hd2,hg,hge _ hlen]
   (repeat refine sd ?_)
   refine .go (xY.yO (cX (m.getD lo []) x) (by simp [D.xU,D.xL])) ?_;simp only [simprocAttr,-ZA,↓zU,↓zD,zV,zT,zW];simp only [decide_eq_true hlen,Bool.true_and];exact .same
  ·have hd2:¬ ((lo:Int)<(m.length:Int)):=by omega
   simp only [simprocAttr,-ZA,↓zU,↓zD,zV,zT,zW,hd,hd2];simp only [decide_eq_false hlen,Bool.false_and];exact .same
open Ru
namespace Ru
def sM (kf:Nat->Nat × Nat->List Int) (l:List (Nat × Nat)) (a:Nat) (p:Nat × Nat):Int:=below (dedup (pI (l.map (kf a)))) (kf a p)
def xi (rs:List xG) (A T:Nat) (num:Nat->Nat × Nat->Int):List xG:=(List.range rs.length).map λi=>⟨(List.range T).map λt=>(List.range A).map λa=>num a (i,t),(rs.getD i tX).fac⟩
def gW (num:Nat->Nat × Nat->Int) (A T a w i t:Nat):List Int:=(List.range A).map λb=>if b<a\/(b=a/\i*T+t<w) then num b (i,t) else 0
def Pi (rs:List xG) (T:Nat) (kl:Nat->Nat) (i:Nat):List D:=[.osl (kl i) 1 T,.sl 1 (us (rs.getD i tX).fac)]
def qT (rs:List xG) (T:Nat) (kl:Nat->Nat) (r:Nat):List (List D):=(List.range r).map (Pi rs T kl)
def xj (A:Nat) (k:Nat->Nat) (t:Nat):List (List D):=(List.range t).map λi=>[D.osl (k i) 1 A]
theorem uC (rs:List xG) (T:Nat) (kl:Nat->Nat) (r:Nat):(qT rs T kl r).length=r:=by simp [qT]
theorem Z6 (rs:List xG) (T:Nat) (kl:Nat->Nat) {r i:Nat} (h:i<r):(qT rs T kl r).getD i [] = [.osl (kl i) 1 T,.sl 1 (us (rs.getD i tX).fac)]:=by simp [qT,Pi,List.getD,h]
theorem nO (A:Nat) (k:Nat->Nat) (t:Nat):(xj A k t).length=t:=by simp [xj]
theorem Ug (A:Nat) (k:Nat->Nat) {t i:Nat} (h:i<t):(xj A k t).getD i [] = [D.osl (k i) 1 A]:=by simp [xj,List.getD,h]
theorem o6 (rs:List xG) (T:Nat) (kl:Nat->Nat) (r n:Nat):qT rs T (λi=>if i=r then n else kl i) (r+1)= qT rs T kl r ++ [[.osl n 1 T,.sl 1 (us (rs.getD r tX).fac)]]:=by
 unfold qT;rw [List.range_succ,List.map_append]
 congr 1
 ·refine γ λi hi=>?_;have hi':=δ.1 hi;unfold Pi;simp only [if_neg (show ¬ i=r by omega)]
 ·simp [Pi]
theorem Z4 (A:Nat) (k:Nat->Nat) (t n:Nat):xj A (λi=>if i=t then n else k i) (t+1)= xj A k t ++ [[D.osl n 1 A]]:=by
 unfold xj;rw [List.range_succ,List.map_append]
 congr 1
 ·refine γ λi hi=>?_;have hi':=δ.1 hi;simp only [if_neg (show ¬ i=t by omega)]
 ·simp
theorem we {key sz:Nat} {els:List (List D)} (h:0<els.length):xD key sz els = .osl key sz els.length:=by
 cases els with
 | nil=>simp at h
 | cons e r=>rfl
theorem uA {sz:Nat} {els:List (List D)} (h:0<els.length):vZ sz els=some ⟨sz,els⟩:=by
 cases els with
 | nil=>simp at h
 | cons e r=>rfl
structure NI (rs : List xG) (A F T nb r kr : Nat) (kl : Nat -> Nat) (ki : Nat -> Nat -> Nat) (v : Nat -> Nat -> List Int) (xZ : List (Nat × Ob)) : Prop where
 l0:St.look xZ 0=some ⟨4,[[.int .i64 (A:Int),.int .i64 (F:Int),.int .i64 (T:Int),.sl 2 (zL rs)]]⟩
 l1:St.look xZ 1=some ⟨4,[[.int .i64 0,.int .i64 0,.int .i64 0,.xK]]⟩
 l2:St.look xZ 2=some ⟨4,[[.int .i64 (A:Int),.int .i64 (F:Int),.int .i64 (T:Int),.sl 2 (zL rs)]]⟩
 l3:St.look xZ 3=some ⟨4,[[.int .i64 0,.int .i64 0,.int .i64 0,.xK]]⟩
 l4:St.look xZ 4=some ⟨4,[[.int .i64 (A:Int),.int .i64 (F:Int),.int .i64 (T:Int),xD kr 2 (qT rs T kl r)]]⟩
 fr:St.look xZ 1000000=none
 lr:St.look xZ kr=vZ 2 (qT rs T kl r)
 k5:5<=nb
 hk:5<=kr/\(kr<nb\/kr=1000000)
 ll:∀ i,i<r->5<=kl i/\kl i<nb/\kl i≠kr/\St.look xZ (kl i)= some ⟨1,xj A (ki i) T⟩
 li:∀ i t,i<r->t<T->5<=ki i t/\ki i t<nb/\ki i t≠kr/\St.look xZ (ki i t)= some ⟨1,rows .i64 (v i t)⟩
 dl:∀ i j,i<r->j<r->kl i=kl j->i=j
 dm:∀ i j t,i<r->j<r->t<T->kl i≠ki j t
 di:∀ i j t u,i<r->j<r->t<T->u<T->ki i t=ki j u->i=j/\t=u
theorem NI.frame {rs:List xG} {A F T nb r kr:Nat} {kl:Nat->Nat} {ki:Nat->Nat->Nat} {v:Nat->Nat->List Int} {xZ objs':List (Nat × Ob)} (h:NI rs A F T nb r kr kl ki v xZ)
  (hs:∀ k,k<nb->St.look objs' k=St.look xZ k) (hf:St.look objs' 1000000=none):NI rs A F T nb r kr kl ki v objs' where
 l0:=by rw [hs _ (by have:=h.k5; omega)]; exact h.l0
 l1:=by rw [hs _ (by have:=h.k5; omega)]; exact h.l1
 l2:=by rw [hs _ (by have:=h.k5; omega)]; exact h.l2
 l3:=by rw [hs _ (by have:=h.k5; omega)]; exact h.l3
 l4:=by rw [hs _ (by have:=h.k5; omega)]; exact h.l4
 fr:=hf
 lr:=by
  rcases h.hk.2 with e | e
  ·rw [hs _ e]; exact h.lr
  ·have:=h.lr;rw [e,h.fr] at this;rw [e,hf]; exact this
 k5:=h.k5
 hk:=h.hk
 ll:=λi hi=>by obtain⟨a,b,c,d⟩:=h.ll i hi; exact⟨a,b,c,by rw [hs _ b]; exact d⟩
 li:=λi t hi ht=>by obtain⟨a,b,c,d⟩:=h.li i t hi ht; exact⟨a,b,c,by rw [hs _ b]; exact d⟩
 dl:=h.dl
 dm:=h.dm
 di:=h.di
theorem NI.more {rs:List xG} {A F T nb r kr:Nat} {kl:Nat->Nat} {ki:Nat->Nat->Nat} {v:Nat->Nat->List Int} {xZ objs':List (Nat × Ob)} (h:NI rs A F T nb r kr kl ki v xZ)
  {nb' kr' kL:Nat} {kj:Nat->Nat} (hn:nb<=nb') (hb:nb'<1000000) (h4:St.look objs' 4=some ⟨4,[[.int .i64 (A:Int),.int .i64 (F:Int),.int .i64 (T:Int),xD kr' 2 (qT rs T (λi=>if i=r then kL else kl i) (r+1))]]⟩)
  (hs:∀ k,k<nb->k≠4->k≠kr->St.look objs' k=St.look xZ k) (hf:St.look objs' 1000000=none)
  (hr:St.look objs' kr'=vZ 2 (qT rs T (λi=>if i=r then kL else kl i) (r+1))) (hkr:nb<=kr'/\kr'<nb')
  (hL:nb<=kL/\kL<nb'/\kL≠kr'/\St.look objs' kL=some ⟨1,xj A kj T⟩)
  (hj:∀ t,t<T->nb<=kj t/\kj t<nb'/\kj t≠kr'/\kj t≠kL/\St.look objs' (kj t)= some ⟨1,rows .i64 (v r t)⟩)
  (hd:∀ t u,t<T->u<T->kj t=kj u->t=u):NI rs A F T nb' (r+1) kr' (λi=>if i=r then kL else kl i) (λi=>if i=r then kj else ki i) v objs' where
 l0:=by rw [hs _ (by have:=h.k5; omega) (by omega) (by have:=h.hk.1; omega)]; exact h.l0
 l1:=by rw [hs _ (by have:=h.k5; omega) (by omega) (by have:=h.hk.1; omega)]; exact h.l1
 l2:=by rw [hs _ (by have:=h.k5; omega) (by omega) (by have:=h.hk.1; omega)]; exact h.l2
 l3:=by rw [hs _ (by have:=h.k5; omega) (by omega) (by have:=h.hk.1; omega)]; exact h.l3
 l4:=h4
 fr:=hf
 lr:=hr
 k5:=by have:=h.k5; omega
 hk:=by have:=h.k5; omega
 ll:=λi hi=>by
  have:=h.k5
  by_cases e:i=r
  ·subst e;simp only [if_true];obtain⟨a,b,c,d⟩:=hL;exact⟨by omega,b,c,d⟩
  ·simp only [if_neg e];obtain⟨a,b,c,d⟩:=h.ll i (by omega);exact⟨a,by omega,by omega,by rw [hs _ b (by omega) c]; exact d⟩
 li:=λi t hi ht=>by
  have:=h.k5
  by_cases e:i=r
  ·subst e;simp only [if_true];obtain⟨a,b,c,_,d⟩:=hj t ht;exact⟨by omega,b,c,d⟩
  ·simp only [if_neg e];obtain⟨a,b,c,d⟩:=h.li i t (by omega) ht;exact⟨a,by omega,by omega,by rw [hs _ b (by omega) c]; exact d⟩
 dl:=λi j hi hj' e=>by
  by_cases ei:i=r <;> by_cases ej:j=r
  ·omega
  ·subst ei;simp only [if_true,if_neg ej] at e;have:=h.ll j (by omega);omega
  ·subst ej;simp only [if_true,if_neg ei] at e;have:=h.ll i (by omega);omega
  ·simp only [if_neg ei,if_neg ej] at e;exact h.dl i j (by omega) (by omega) e
 dm:=λi j t hi hj' ht=>by
  by_cases ei:i=r <;> by_cases ej:j=r
  ·subst ei; subst ej;simp only [if_true];have:=hj t ht;omega
  ·subst ei;simp only [if_true,if_neg ej];have:=h.li j t (by omega) ht;omega
  ·subst ej;simp only [if_true,if_neg ei];have:=h.ll i (by omega);have:=hj t ht;omega
  ·simp only [if_neg ei,if_neg ej];exact h.dm i j t (by omega) (by omega) ht
 di:=λi j t u hi hj' ht hu e=>by
  by_cases ei:i=r <;> by_cases ej:j=r
  ·subst ei; subst ej;simp only [if_true] at e;exact⟨rfl,hd t u ht hu e⟩
  ·subst ei;simp only [if_true,if_neg ej] at e;have:=h.li j u (by omega) hu;have:=hj t ht;omega
  ·subst ej;simp only [if_true,if_neg ei] at e;have:=h.li i t (by omega) ht;have:=hj u hu;omega
  ·simp only [if_neg ei,if_neg ej] at e;exact h.di i j t u (by omega) (by omega) ht hu e
structure BI (A nb : Nat) (fac : List (BitVec 64)) (t kL : Nat) (kj : Nat -> Nat) (nx : Nat) (objs0 xZ : List (Nat × Ob)) : Prop where
 n2:nb+2<=nx/\nx<=nb+2+3*t
 ln:St.look xZ (nb+1)= some ⟨2,[[xD kL 1 (xj A kj t),.sl 1 (us fac)]]⟩
 lL:St.look xZ kL=vZ 1 (xj A kj t)
 hL:(nb+2<=kL/\kL<nx)\/kL=1000000
 lj:∀ i,i<t->nb+2<=kj i/\kj i<nx/\kj i≠kL/\St.look xZ (kj i)= some ⟨1,List.replicate A [.int .i64 0]⟩
 dj:∀ i j,i<t->j<t->kj i=kj j->i=j
 old:∀ k,k<nb->St.look xZ k=St.look objs0 k
 fr:St.look xZ 1000000=none
end Ru
open Ru
namespace Ru
theorem gj (num:Nat->Nat × Nat->Int) (A T a w i t:Nat):(gW num A T a w i t).length=A:=by simp [gW]
theorem V6 {num:Nat->Nat × Nat->Int} {A T a n i t:Nat} (h:i*T+t<n):gW num A T a n i t=gW num A T (a+1) 0 i t:=by
 unfold gW;refine γ λb _=>?_
 by_cases e:b<a+1
 ·rw [if_pos (by omega),if_pos (.inl e)]
 ·rw [if_neg (by omega),if_neg (by omega)]
theorem V8 {num:Nat->Nat × Nat->Int} {A T a w i t:Nat} (h:i*T+t=w):(gW num A T a w i t).set a (num a (i,t))= gW num A T a (w+1) i t:=by
 refine ν (by simp [gW]) λk h1 h2=>?_;rw [List.getElem_set];simp only [gW,List.getElem_map,List.getElem_range]
 by_cases e:a=k
 ·subst e; rw [if_pos rfl,if_pos (by omega)]
 ·rw [if_neg e]
  by_cases hk:k<a
  ·rw [if_pos (by omega),if_pos (by omega)]
  ·rw [if_neg (by omega),if_neg (by omega)]
theorem Re {num:Nat->Nat × Nat->Int} {A T a w i t:Nat} (h:i*T+t≠w):gW num A T a w i t=gW num A T a (w+1) i t:=by
 unfold gW;refine γ λb _=>?_
 by_cases e:b<a\/(b=a/\i*T+t<w)
 ·rw [if_pos e,if_pos (by omega)]
 ·rw [if_neg e,if_neg (by omega)]
theorem V7 (num:Nat->Nat × Nat->Int) (A T i t:Nat):gW num A T A 0 i t=(List.range A).map λa=>num a (i,t):=by unfold gW;refine γ λb hb=>?_;rw [if_pos (.inl (δ.1 hb))]
theorem NI.val {rs:List xG} {A F T nb r kr:Nat} {kl:Nat->Nat} {ki:Nat->Nat->Nat} {v v':Nat->Nat->List Int} {xZ:List (Nat × Ob)} (h:NI rs A F T nb r kr kl ki v xZ)
  (hv:∀ i t,i<r->t<T->v i t=v' i t):NI rs A F T nb r kr kl ki v' xZ:=
 { h with li:=λi t hi ht=>by rw [<- hv i t hi ht]; exact h.li i t hi ht }
theorem NI.upd {rs:List xG} {A F T nb r kr:Nat} {kl:Nat->Nat} {ki:Nat->Nat->Nat} {v v':Nat->Nat->List Int} {xZ objs':List (Nat × Ob)} (h:NI rs A F T nb r kr kl ki v xZ) {i t:Nat} (hi:i<r) (ht:t<T)
  (hn:∀ j u,j<r->u<T->¬ (j=i/\u=t)->v j u=v' j u) (hx:St.look objs' (ki i t)= some ⟨1,rows .i64 (v' i t)⟩)
  (hs:∀ k,k<nb->k≠ki i t->St.look objs' k=St.look xZ k) (hf:St.look objs' 1000000=none):NI rs A F T nb r kr kl ki v' objs':=by
 obtain⟨q1,q2,q3,q4⟩:=h.li i t hi ht;have k5:=h.k5
 refine⟨by rw [hs _ (by omega) (by omega)]; exact h.l0,by rw [hs _ (by omega) (by omega)]; exact h.l1,by rw [hs _ (by omega) (by omega)]; exact h.l2,by rw [hs _ (by omega) (by omega)]; exact h.l3,by rw [hs _ (by omega) (by omega)]; exact h.l4,hf,?_,k5,h.hk,λj hj=>?_,λj u hj hu=>?_,h.dl,h.dm,h.di⟩
 ·rcases h.hk.2 with e | e
  ·rw [hs _ e (by omega)]; exact h.lr
  ·have:=h.lr;rw [e,h.fr] at this;rw [e,hf]; exact this
 ·obtain⟨a,b,c,d⟩:=h.ll j hj;exact⟨a,b,c,by rw [hs _ b (h.dm j i t hj hi ht)]; exact d⟩
 ·obtain⟨a,b,c,d⟩:=h.li j u hj hu;refine⟨a,b,c,?_⟩
  by_cases e:j=i/\u=t
  ·obtain⟨rfl,rfl⟩:=e;exact hx
  ·rw [hs _ b (λe2=>e (h.di j i u t hj hi hu ht e2)),d,hn j u hj hu e]
theorem sG {σ σ':St} {ρ:Nat->Nat} {α:Type} {f g:α->List D}:∀ {l:List α},(∀ i ∈ l,(f i).length=(g i).length/\vwL σ σ' ρ (f i) (g i))->vwE σ σ' ρ (l.map f) (l.map g)
 | [],_=>.nil
 | x :: l,h=>.cons (h x (by simp)).1 (h x (by simp)).2 (sG λi hi=>h i (η _ hi))
theorem ck {α:Type} {k:α->Nat} {o:α->Ob}:∀ {l:List α} {x:α},x ∈ l->(∀ y ∈ l,k y=k x->y=x)->St.look (l.map λi=>(k i,o i)) (k x)= some (o x)
 | [],x,h,_=>by cases h
 | y :: l,x,h,hi=>by
  rw [List.map_cons,xX]
  by_cases e:k y=k x
  ·rw [if_pos e,hi y (by simp) e]
  ·rw [if_neg e];refine ck ?_ λz hz=>hi z (η _ hz)
   rcases ε.1 h with e2 | e2
   ·exact absurd (by rw [e2]) e
   ·exact e2
theorem xC {j k:Nat} {o:Ob} {r:List (Nat × Ob)} (h:¬ j=k):St.look ((j,o) :: r) k=St.look r k:=by rw [xX,if_neg h]
def fz1 (rs:List xG) (A F T kr:Nat) (kl:Nat->Nat) (v:Nat->Nat->List Int):List (Nat × Ob):=
 (4,⟨4,[[.int .i64 (A:Int),.int .i64 (F:Int),.int .i64 (T:Int),.osl kr 2 rs.length]]⟩) :: (kr,⟨2,qT rs T kl rs.length⟩) :: (3,⟨4,[[.int .i64 0,.int .i64 0,.int .i64 0,.xK]]⟩) :: (1,⟨4,[[.int .i64 0,.int .i64 0,.int .i64 0,.xK]]⟩) ::
  (0,⟨4,[[.int .i64 (A:Int),.int .i64 (F:Int),.int .i64 (T:Int),.sl 2 (zL rs)]]⟩) :: (List.range rs.length).map λi=>(kl i,⟨1,rl ((List.range T).map (v i))⟩)
def fz2 (rs rs':List xG) (A F T kr:Nat):List (Nat × Ob):=
 [(4,⟨4,[[.int .i64 (A:Int),.int .i64 (F:Int),.int .i64 (T:Int),.osl kr 2 rs.length]]⟩),(kr,⟨2,zL rs'⟩),(3,⟨4,[[.int .i64 0,.int .i64 0,.int .i64 0,.xK]]⟩),(1,⟨4,[[.int .i64 0,.int .i64 0,.int .i64 0,.xK]]⟩),
  (0,⟨4,[[.int .i64 (A:Int),.int .i64 (F:Int),.int .i64 (T:Int),.sl 2 (zL rs)]]⟩)]
theorem QR {C:Cx} {f:Fr} {rs:List xG} {A F T nb kr nx:Nat} {kl:Nat->Nat} {ki:Nat->Nat->Nat} {v:Nat->Nat->List Int} {xZ:List (Nat × Ob)} (hI:NI rs A F T nb rs.length kr kl ki v xZ) (hc:C.n0=2) (hx:nb<=nx)
  (hR:0<rs.length) (hv:∀ i t,i<rs.length->t<T->(v i t).length=A) (h4:f.get 4 = .ref 3 4 0 0) (h7:f.get 7 = .ref 4 4 0 0):xN C f ⟨nx,xZ⟩ [(4,.ref 3 4 0 0),(7,.ref 4 4 0 0)] ⟨nx,fz1 rs A F T kr kl v⟩:=by
 have k5:=hI.k5
 have hkr:kr<nb:=by
  rcases hI.hk.2 with e | e
  ·exact e
  ·have:=hI.lr;rw [e,hI.fr,uA (by rw [uC]; exact hR)] at this;cases this
 have hg:xD kr 2 (qT rs T kl rs.length)= .osl kr 2 rs.length:=by rw [we (by rw [uC]; exact hR),uC]
 have l4:=hI.l4;rw [hg] at l4;have lr:=hI.lr;rw [uA (by rw [uC]; exact hR)] at lr
 refine xN.view (λk=>k) (by rw [hc]; show 2<=nx; omega) (λ_ _=>rfl) ?_ ?_ (λp _ q _ e=>e)
 ·simp only [vwF,vw,h4,h7];exact⟨⟨by omega,trivial⟩,⟨by omega,trivial⟩,trivial⟩
 ·intro p hp;simp only [fz1,ε,List.mem_map,δ] at hp
  rcases hp with rfl | rfl | rfl | rfl | rfl | ⟨i,hi,rfl⟩
  ·refine⟨by show 4<nx; omega,_,l4,rfl,.cons rfl ?_ .nil⟩;simp only [vwL,vw,and_true,true_and];omega
  ·refine⟨by show kr<nx; omega,_,lr,rfl,?_⟩;refine sG λi hi=>⟨rfl,?_⟩;have:=hI.ll i (δ.1 hi);simp only [Pi,vwL,vw,and_true,true_and];omega
  ·exact⟨by show 3<nx; omega,_,hI.l3,rfl,.same (by simp [D.xU,D.xL])⟩
  ·exact⟨by show 1<nx; omega,_,hI.l1,rfl,.same (by simp [D.xU,D.xL])⟩
  ·exact⟨by show 0<nx; omega,_,hI.l0,rfl,.same (by simp [D.xU,D.xL])⟩
  ·obtain⟨a,b,c,d⟩:=hI.ll i hi;refine⟨by show kl i<nx; omega,_,d,rfl,?_⟩;show vwE _ _ _ (xj A (ki i) T) (rl ((List.range T).map (v i)));unfold rl xj;rw [List.map_map];refine sG λt ht=>⟨rfl,?_⟩;have ht':=δ.1 ht;obtain⟨a',b',c',d'⟩:=hI.li i t hi ht';simp only [Function.comp,vwL,vw,and_true]
   refine⟨trivial,by decide,λq hq=>?_,_,d',rfl,?_,?_,uX _ _⟩
   ·simp only [fz1,ε,List.mem_map,δ] at hq
    rcases hq with rfl | rfl | rfl | rfl | rfl | ⟨j,hj,rfl⟩
    ·show 4≠ki i t; omega
    ·exact λe=>c' e.symm
    ·show 3≠ki i t; omega
    ·show 1≠ki i t; omega
    ·show 0≠ki i t; omega
    ·exact hI.dm j i t hj hi ht'
   ·rw [yZ,hv i t hi ht']; exact τ _
   ·exact(tO (by rw [yZ,hv i t hi ht'])).symm
theorem QS {C:Cx} {rs rs':List xG} {A F T nb kr nx:Nat} {kl:Nat->Nat} {ki:Nat->Nat->Nat} {v v0:Nat->Nat->List Int} {xZ:List (Nat × Ob)} (hI:NI rs A F T nb rs.length kr kl ki v0 xZ) (hc:C.n0=2) (hx:nb<=nx) (hkr:kr<nx)
  (hT:∀ i,i<rs.length->(rl ((List.range T).map (v i))).length=T)
  (hr:rs'=(List.range rs.length).map λi=>⟨(List.range T).map (v i),(rs.getD i tX).fac⟩):xN C [(4,.ref 3 4 0 0),(7,.ref 4 4 0 0)] ⟨nx,fz1 rs A F T kr kl v⟩ [(4,.ref 3 4 0 0),(7,.ref 4 4 0 0)] ⟨nx,fz2 rs rs' A F T kr⟩:=by
 have k5:=hI.k5;have hk:=hI.hk.1
 refine xN.view (λk=>k) (by rw [hc]; show 2<=nx; omega) (λ_ _=>rfl) ?_ ?_ (λp _ q _ e=>e)
 ·simp only [vwF,vw,Fr.get,reduceIte,Nat.reduceEqDiff];exact⟨⟨by omega,trivial⟩,⟨by omega,trivial⟩,trivial⟩
 ·intro p hp;simp only [fz2,ε,μ,or_false] at hp
  rcases hp with rfl | rfl | rfl | rfl | rfl
  ·refine⟨by show 4<nx; omega,_,rfl,rfl,.cons rfl ?_ .nil⟩;simp only [vwL,vw,and_true,true_and];omega
  ·have e:St.look (fz1 rs A F T kr kl v) kr=some ⟨2,qT rs T kl rs.length⟩:=by unfold fz1; rw [xC (by omega),xX,if_pos rfl]
   refine⟨by show kr<nx; omega,_,e,rfl,?_⟩;show vwE _ _ _ (qT rs T kl rs.length) (zL rs');rw [hr];unfold qT zL;rw [List.map_map];refine sG λi hi=>⟨rfl,?_⟩;have hi':=δ.1 hi;obtain⟨a,b,c,_⟩:=hI.ll i hi'
   have hl:St.look (fz1 rs A F T kr kl v) (kl i)= some ⟨1,rl ((List.range T).map (v i))⟩:=by unfold fz1;rw [xC (by omega),xC (λe=>c e.symm),xC (by omega),xC (by omega),xC (by omega)];exact ck (o:=λi=>⟨1,rl ((List.range T).map (v i))⟩) hi λj hj e=>hI.dl j i (δ.1 hj) hi' e
   have hh:=hT i hi';simp only [Pi,Function.comp,xG.row,vwL,vw,and_true,true_and]
   refine⟨by decide,λq hq=>?_,_,hl,rfl,?_,?_,mq _⟩
   ·simp only [fz2,ε,μ,or_false] at hq
    rcases hq with rfl | rfl | rfl | rfl | rfl
    ·show 4≠kl i; omega
    ·exact λe=>c e.symm
    ·show 3≠kl i; omega
    ·show 1≠kl i; omega
    ·show 0≠kl i; omega
   ·show T<=(rl _).length;rw [hh]; exact τ _
   ·exact(tO hh.symm).symm
  ·have e:St.look (fz1 rs A F T kr kl v) 3=some ⟨4,[[.int .i64 0,.int .i64 0,.int .i64 0,.xK]]⟩:=by unfold fz1; rw [xC (by omega),xC (by omega)]; rfl
   exact⟨by show 3<nx; omega,_,e,rfl,.same (by simp [D.xU,D.xL])⟩
  ·have e:St.look (fz1 rs A F T kr kl v) 1=some ⟨4,[[.int .i64 0,.int .i64 0,.int .i64 0,.xK]]⟩:=by unfold fz1; rw [xC (by omega),xC (by omega)]; rfl
   exact⟨by show 1<nx; omega,_,e,rfl,.same (by simp [D.xU,D.xL])⟩
  ·have e:St.look (fz1 rs A F T kr kl v) 0=some ⟨4,[[.int .i64 (A:Int),.int .i64 (F:Int),.int .i64 (T:Int),.sl 2 (zL rs)]]⟩:=by unfold fz1; rw [xC (by omega),xC (by omega)]; rfl
   exact⟨by show 0<nx; omega,_,e,rfl,.same (by simp [D.xU,D.xL])⟩
end Ru
open Ru
theorem gG {l:List (List Int)}:∀ {k:Nat} {x:List Int},x ∈ vT l k ↔ ∃ i,i<k/\l.getD i []=x
 | 0,x=>by simp [vT]
 | k+1,x=>by
  rw [vT]
  by_cases h:0<k/\l.getD k []=l.getD (k-1) []
  ·rw [if_pos h,gG];refine⟨λ⟨i,hi,e⟩=>⟨i,by omega,e⟩,λ⟨i,hi,e⟩=>?_⟩
   by_cases ei:i=k
   ·exact⟨k-1,by omega,by rw [<- h.2,<- ei]; exact e⟩
   ·exact⟨i,by omega,e⟩
  ·rw [if_neg h,List.mem_append,gG,θ];refine⟨λc=>c.elim (λ⟨i,hi,e⟩=>⟨i,by omega,e⟩) (λe=>⟨k,by omega,e.symm⟩),λ⟨i,hi,e⟩=>?_⟩
   by_cases ei:i=k
   ·exact .inr (by rw [<- e,ei])
   ·exact .inl ⟨i,by omega,e⟩
theorem Yc {l:List (List Int)} (h:asc l) {i j:Nat} (hij:i<j) (hj:j<l.length):¬ kc (l.getD j []) (l.getD i [])<0:=by have:=List.pairwise_iff_getElem.1 h i j (by omega) hj hij;simpa [List.getD,hj,show i<l.length by omega] using this
theorem lN {l:List (List Int)} (h:asc l):∀ {k:Nat},k<=l.length->(vT l k).Pairwise λa b=>kc a b<0
 | 0,_=>List.Pairwise.nil
 | k + 1,hk=>by
  rw [vT]
  by_cases c:0<k/\l.getD k []=l.getD (k-1) []
  ·rw [if_pos c]; exact lN h (by omega)
  ·rw [if_neg c];refine List.pairwise_append.2 ⟨lN h (by omega),List.pairwise_singleton _ _,λx hx y hy=>?_⟩;rw [θ] at hy;subst hy;obtain⟨i,hi,rfl⟩:=gG.1 hx;have h1:=Yc h hi (show k<l.length by omega)
   by_cases e:kc (l.getD i []) (l.getD k [])<0
   ·exact e
   ·exfalso;have eq:l.getD i []=l.getD k []:=lu h1 e
    by_cases e2:i=k-1
    ·exact c ⟨by omega,by rw [<- eq,e2]⟩
    ·have h2:=Yc h (show i<k-1 by omega) (show k-1<l.length by omega);have h3:=Yc h (show k-1<k by omega) (show k<l.length by omega);rw [eq] at h2;exact c ⟨by omega,lu h3 h2 |>.symm⟩
theorem qk {l:List (List Int)} (h:asc l):asc (dedup l):=by have:=lN h (τ l.length);exact this.imp λ{a b} h=>by have:=oK a b; omega
theorem WJ {l:List (List Int)} {x:List Int}:x ∈ dedup l ↔ x ∈ l:=by
 unfold dedup;rw [gG]
 constructor
 ·rintro ⟨i,hi,rfl⟩; exact xR hi
 ·intro h;obtain⟨i,hi,e⟩:=List.mem_iff_getElem.1 h;exact⟨i,hi,by simp [List.getD,hi,e]⟩
open Ru
theorem fF {rs:List xG} {A F T:Nat} (ok:OkR rs A F T):chk ⟨A,F,T,rs⟩= 0:=by
 obtain⟨h1,h2,h3,h4,h5,h6,h7,h8,h9⟩:=ok;unfold chk;simp only;have hp:((rs.length*T:Nat):Int)<=512:=by omega
 rw [Int.natCast_mul] at hp
 rw [if_neg (by omega),if_neg (by omega),if_neg (by omega),if_neg,if_neg]
 ·rw [Bool.not_eq_true,κ];intro r hr;simp only [ae,Int.toNat_natCast,ο,not_exists,not_and];intro f hf;simp [h9 r hr f hf]
 ·rw [Bool.not_eq_true,κ];intro r hr;have hrow:=h8 r hr;simp only [jN,h6 r hr,h7 r hr,decide_true,Bool.not_true,Bool.false_or,ο,not_exists,not_and];intro l hl;simp [hrow l hl]
theorem ZD (A:Nat):rows .i64 ((List.range A).map λ_=>(0:Int))= List.replicate A [.int .i64 0]:=by refine ν (by simp [rows]) λi h1 h2=>by simp [rows]
theorem l7 {rs:List xG} {A F T:Nat} (ok:OkR rs A F T) {g:FuncId} {kf:Nat->Nat × Nat->List Int} (hkf:Ox g A F T rs kf) :
  xY prog 108 [sD A F T rs,.fn g [.ref 0 4 0 0]] ⟨2,[(1,⟨4,[[.int .i64 0,.int .i64 0,.int .i64 0,.xK]]⟩),(0,⟨4,[[.int .i64 (A:Int),.int .i64 (F:Int),.int .i64 (T:Int),.sl 2 (zL rs)]]⟩)]⟩
   (.tup [sD A F T (xi rs A T (sM kf (ptN T (rs.length*T)))),.int .i64 0]) ⟨2,[(1,⟨4,[[.int .i64 0,.int .i64 0,.int .i64 0,.xK]]⟩),(0,⟨4,[[.int .i64 (A:Int),.int .i64 (F:Int),.int .i64 (T:Int),.sl 2 (zL rs)]]⟩)]⟩:=by
 have hC:=lS ⟨A,F,T,rs⟩;have hP:=gA ⟨A,F,T,rs⟩;obtain⟨T1,T16⟩:=ok.hT;obtain⟨R1,R64⟩:=ok.hR;have hz:=fF ok;rw [hz] at hC;have ep:cB ⟨A,F,T,rs⟩= ptN T (rs.length*T):=by unfold cB; rw [if_neg (by simpa using hz)]; rfl
 rw [ep] at hP;have hD:tZ.d ⟨A,F,T,rs⟩= .agg [.int .i64 (A:Int),.int .i64 (F:Int),.int .i64 (T:Int),.sl 2 (zL rs)]:=rfl;rw [hD] at hC hP;have hA:=ok.hA;have hin:Inb rs T (ptN T (rs.length*T)):=lD T1 (τ _);have hln:=vR T (rs.length*T);have hlg:∀ w,w<rs.length*T->(ptN T (rs.length*T)).getD w (0,0)= (w / T,w % T):=λw h=>yj T h;have hRT:=ok.hP;have hRT1:1<=rs.length*T:=Nat.mul_le_mul R1 T1;generalize ptN T (rs.length*T)= l at hP hin hln hlg ⊢;unfold sD;refine xY.xP mixed func108 Ki (by simp) λhf=>?_;simp only [simprocAttr,-ZA,↓zU,↓zD,zV,zT,zW]
 (repeat refine sd ?_)
 refine .go (cq hC) ?_;simp only [simprocAttr,-ZA,↓zU,↓zD,zV,zT,zW,xJ]
 refine xT (λa:Nat × Nat × List (Nat × Ob)=>[(34,.int .i64 a.1),(33,.int .i64 rs.length),(32,.sl 2 (zL rs)),(7,.ref 4 4 0 0),(4,.ref 3 4 0 0),(2,.ref 2 4 0 0),(1,.fn g [.ref 0 4 0 0])]) (λa=>⟨a.2.1,a.2.2⟩)
  (λa=>a.1<=rs.length/\a.2.1<=5+60*a.1/\∃ kr kl ki,NI rs A F T a.2.1 a.1 kr kl ki (gW (sM kf l) A T 0 0) a.2.2) (λa=>rs.length-a.1) (0,5,[(4,⟨4,[[.int .i64 (A:Int),.int .i64 (F:Int),.int .i64 (T:Int),.xK]]⟩),(3,⟨4,[[.int .i64 0,.int .i64 0,.int .i64 0,.xK]]⟩),(2,⟨4,[[.int .i64 (A:Int),.int .i64 (F:Int),.int .i64 (T:Int),.sl 2 (zL rs)]]⟩),(1,⟨4,[[.int .i64 0,.int .i64 0,.int .i64 0,.xK]]⟩),(0,⟨4,[[.int .i64 (A:Int),.int .i64 (F:Int),.int .i64 (T:Int),.sl 2 (zL rs)]]⟩)]) ⟨υ _,by simp,1000000,λ_=>0,λ_ _=>0,?_⟩ ?_ ?_
 ·exact⟨rfl,rfl,rfl,rfl,rfl,rfl,rfl,by simp,by simp,λi h=>absurd h (π _),λi t h=>absurd h (π _),λi j h=>absurd h (π _),λi j t h=>absurd h (π _),λi j t u h=>absurd h (π _)⟩
 ·(refine xN.same ?_; simp [xQ,Fr.get])
 intro ⟨r,nb,xZ⟩ ⟨hr,hnb,kr,kl,ki,hI⟩;simp only at hr hnb hI ⊢;refine xO mixed ?_;by_cases hrl:r<rs.length
 case neg=>
  have hd:¬ ((r:Int)<(rs.length:Int)):=by omega
  obtain rfl:rs.length=r:=by omega
  have hl2:=hI.l2;simp only [simprocAttr,-ZA,↓zU,↓zD,zV,zT,zW,hd,hl2];refine .go (cq hP) ?_;simp only [simprocAttr,-ZA,↓zU,↓zD,zV,zT,zW,hl2]
  refine zZ (λa:Nat × Nat × List (Nat × Ob)=>[(66,.int .i64 a.1),(65,.int .i64 A),(11,.sl 2 (ptR l)),(7,.ref 4 4 0 0),(4,.ref 3 4 0 0),(1,.fn g [.ref 0 4 0 0])]) (λa=>⟨a.2.1,a.2.2⟩)
   (λa=>a.1<=A/\nb<=a.2.1/\a.2.1<=5000+4000*a.1/\NI rs A F T nb rs.length kr kl ki (gW (sM kf l) A T a.1 0) a.2.2) (λa=>A-a.1) (0,nb,xZ) ⟨υ _,τ _,by simp only; omega,hI⟩ ?_ ?_
  ·(refine xN.same ?_; simp [xQ,Fr.get])
  clear hI hl2;intro ⟨a,nx,xZ⟩ ⟨ha,hx1,hx2,hI⟩;simp only at ha hx1 hx2 hI ⊢;have k5:=hI.k5;refine xO mixed ?_;by_cases hal:a<A
  case neg=>
   have hd:¬ ((a:Int)<(A:Int)):=by omega
   obtain rfl:A=a:=by omega
   have hkr:kr<nb:=by
    rcases hI.hk.2 with e | e
    ·exact e
    ·have:=hI.lr;rw [e,hI.fr,uA (by rw [uC]; omega)] at this;cases this
   have hk5:=hI.hk.1
   have hren:xi rs A T (sM kf l)= (List.range rs.length).map λi=>⟨(List.range T).map (gW (sM kf l) A T A 0 i),(rs.getD i tX).fac⟩:=by unfold xi;refine γ λi _=>?_;congr 1;exact γ λt _=>(V7 _ _ _ _ _).symm
   have hrl':(zL (xi rs A T (sM kf l))).length=rs.length:=by simp [zL,xi]
   generalize xi rs A T (sM kf l)= rs' at hren hrl' ⊢;simp only [simprocAttr,-ZA,↓zU,↓zD,zV,zT,zW,hd];refine .go _ _ ((QR hI rfl hx1 (by omega) (λi t _ _=>gj _ _ _ _ _ _ _) (by simp [Fr.get]) (by simp [Fr.get])).trans (QS (rs':=rs') hI rfl hx1 (by omega) (λi _=>by simp [rl]) hren)) ?_;unfold fz2;have z1:¬ kr=3:=by omega
   have z2:¬ kr=4:=by omega
   simp only [simprocAttr,-ZA,↓zU,↓zD,zV,zT,zW,z1,z2];have z3:¬ kr=1:=by omega
   have z4:¬ kr=0:=by omega
   (refine jM.ren [] [1,0] (by simp) (by simp) (by decide) ?_; simp only [yT,zQ,simprocAttr,-ZA,exists_eq_left',ne_eq,zR,z1,z2,z3,z4])
   refine⟨λp hp=>?_,⟨2,zL rs'⟩,by rw [if_neg (by omega)],rfl,by rw [hrl']; exact τ _,(tO hrl'.symm).symm,so rs'⟩
   rcases hp with rfl | rfl | h
   ·exact λe=>z3 e.symm
   ·exact λe=>z4 e.symm
   ·exact h.elim
  have hd:((a:Int)<(A:Int)):=by omega
  simp only [simprocAttr,-ZA,↓zU,↓zD,zV,zT,zW,hd]
  refine xT (λb:Nat × Nat × List (Nat × Ob) × Nat=>[(71,.int .i64 b.1),(70,.int .i64 l.length),(69,.sl 2 (ptR l)),(66,.int .i64 a),(65,.int .i64 A),(13,xD b.2.2.2 1 (rl ((l.map (kf a)).take b.1))),(12,.int .i64 a),(11,.sl 2 (ptR l)),(7,.ref 4 4 0 0),(4,.ref 3 4 0 0),(1,.fn g [.ref 0 4 0 0])]) (λb=>⟨b.2.1,b.2.2.1⟩)
   (λb=>b.1<=l.length/\nx<=b.2.1/\b.2.1<=nx+4*b.1/\(∀ k,k<nx->St.look b.2.2.1 k=St.look xZ k)/\ St.look b.2.2.1 1000000=none/\St.look b.2.2.1 b.2.2.2=vZ 1 (rl ((l.map (kf a)).take b.1))/\ ((nx<=b.2.2.2/\b.2.2.2<b.2.1)\/b.2.2.2=1000000)) (λb=>l.length-b.1) (0,nx,xZ,1000000)
   ⟨υ _,τ _,by simp only; omega,λ_ _=>rfl,hI.fr,hI.fr,.inr rfl⟩ ?_ ?_
  ·(refine xN.same ?_; simp [xQ,Fr.get,yR,rl,xD])
  intro ⟨w,nx1,objs1,kk⟩ ⟨hw,w1,w2,w3,w4,w5,w6⟩;simp only at hw w1 w2 w3 w4 w5 w6 ⊢;refine xO mixed ?_
  by_cases hwl:w<l.length
  ·have hd2:((w:Int)<(l.length:Int)):=by omega
   have hp:=hin _ (xR (d:=(0,0)) hwl);have hpg:=uL l hwl
   have hS:(l.map (kf a)).take (w+1)= (l.map (kf a)).take w ++ [kf a (l.getD w (0,0))]:=by rw [zK (d:=[]) (by rw [ζ]; exact hwl)];congr 2;simp [List.getD,hwl]
   have htl:((l.map (kf a)).take w).length=w:=by rw [List.length_take,ζ]; omega
   generalize l.getD w (0,0)= p at hp hpg hS;obtain⟨p1,p2⟩:=p;simp only at hp hpg;have hk1:=hkf ⟨nx1+1,(nx1,⟨2,[[.int .i64 p1,.int .i64 p2]]⟩) :: objs1⟩ a (p1,p2) (by simp) (by rw [xC (by omega),w3 0 (by omega)]; exact hI.l0) hal hp;simp only [ξ,List.nil_append] at hk1;generalize kf a (p1,p2)= key at hk1 hS;generalize (l.map (kf a)).take w=ks at hS htl w5;have y6:¬ nx1=kk:=by omega
   have y7:¬ nx1+1=kk:=by omega
   have y8:¬ nx1+1+1=kk:=by omega
   simp only [simprocAttr,-ZA,↓zU,↓zD,zV,zT,zW,hd2,yR,hpg]
   (repeat refine sd ?_)
   refine .go hk1 ?_;simp only [simprocAttr,-ZA,↓zU,↓zD,zV,zT,zW,w5,y6,y7,y8,yD,htl];refine⟨by omega,by omega,⟨(w+1,?znc,?zoc,nx1+1+1+1),?e1,?e2,by show l.length-(w+1)<l.length-w; omega⟩⟩
   case e2=>
    simp only [hS,<- mr]
    (refine xN.same ?_; simp only [xQ,Fr.get,simprocAttr,-ZA,zS])
    exact wrap_i64 (by omega)
   case e1=>
    have hpos:0<(rl ks ++ [[D.sl 1 (rows .i64 key)]]).length:=by simp
    refine⟨by show w+1<=l.length; omega,by show nx<=nx1+1+1+1+1; omega,by show nx1+1+1+1+1<=nx+4*(w+1); omega,λk hk=>?_,?_,?_,.inl ⟨by show nx<=nx1+1+1+1; omega,by show nx1+1+1+1<nx1+1+1+1+1; omega⟩⟩
    ·show St.look (xA _ _ _++_) _=_;rw [xH,if_neg (by omega),xC (by omega),xC (by omega),xC (by omega),xM,if_neg (by omega),w3 k hk]
    ·show St.look (xA _ _ _++_) _=_;rw [xH,if_neg (by omega),xC (by omega),xC (by omega),xC (by omega),xM]
     split
     ·rfl
     ·exact w4
    ·show St.look (xA _ _ _++_) (nx1+1+1+1)= vZ 1 (rl (List.take (w+1) _));rw [hS,<- mr,xH,if_pos rfl,uA hpos]; rfl
  have hd2:¬ ((w:Int)<(l.length:Int)):=by omega
  have hmp:(l.map (kf a)).take w=l.map (kf a):=tO (by rw [ζ]; omega);rw [hmp] at w5 ⊢;have hnum:∀ p,sM kf l a p=below (dedup (pI (l.map (kf a)))) (kf a p):=λp=>rfl;have hLl:(l.map (kf a)).length=rs.length*T:=by rw [ζ,hln]
  generalize hLe:l.map (kf a)= L at w5 hnum hLl;have hgk:xD kk 1 (rl L)= .osl kk 1 L.length:=by rw [we (by rw [yD]; omega),yD]
  rw [uA (by rw [yD]; omega)] at w5
  have hkk:nx<=kk/\kk<nx1:=by
   rcases w6 with e | e
   ·exact e
   ·rw [e,w4] at w5; cases w5
  have hsl:(pI L).length=L.length:=(nX L).length_eq;have hso:=p3 (σ:=⟨nx1,objs1⟩) (key:=kk) (l:=L) w5 (by intro e; rw [e] at hLl; simp at hLl; omega) (by omega);have hco:=WE (σ:=⟨nx1,vN objs1 kk ⟨1,rl (pI L)⟩⟩) (key:=kk) (l:=pI L) (tE w5) (by omega) (by intro e; rw [e] at hsl; simp at hsl; omega);rw [hsl] at hco;have hasc:=vm L;have hma:asc (dedup (pI L)):=qk hasc
  have hml:(dedup (pI L)).length<=1000:=by have:=ku (pI L) (pI L).length;unfold dedup; omega
  have hlk2:St.look (vN (vN objs1 kk ⟨1,rl (pI L)⟩) kk ⟨1,ddE (pI L)⟩) kk=some ⟨1,rl (dedup (pI L))++ List.replicate ((pI L).length-(dedup (pI L)).length) [.xK]⟩:=tE (tE w5)
  have hold2:∀ k,k<nx->St.look (vN (vN objs1 kk ⟨1,rl (pI L)⟩) kk ⟨1,ddE (pI L)⟩) k=St.look xZ k:=λk hk=>by rw [xW,if_neg (by omega),xW,if_neg (by omega),w3 k hk]
  have hfr2:St.look (vN (vN objs1 kk ⟨1,rl (pI L)⟩) kk ⟨1,ddE (pI L)⟩) 1000000=none:=by rw [xW,if_neg (by omega),xW,if_neg (by omega),w4]
  simp only [simprocAttr,-ZA,↓zU,↓zD,zV,zT,zW,hd2,hgk];refine .go hso ?_;simp only [simprocAttr,-ZA,↓zU,↓zD,zV,zT,zW];refine .go hco ?_;simp only [set_mk];generalize vN (vN objs1 kk ⟨1,rl (pI L)⟩) kk ⟨1,ddE (pI L)⟩= objs2 at hlk2 hold2 hfr2 ⊢;have hI2:=hI.frame (objs':=objs2) (λk hk=>hold2 k (by omega)) hfr2;generalize hMe:dedup (pI L)= M at hma hml hlk2 hnum ⊢;generalize List.replicate ((pI L).length-M.length) [D.xK]=more at hlk2;simp only [simprocAttr,-ZA,↓zU,↓zD,zV,zT,zW,yR]
  refine xT (λb:Nat × Nat × List (Nat × Ob)=>[(89,.int .i64 b.1),(88,.int .i64 l.length),(87,.sl 2 (ptR l)),(66,.int .i64 a),(65,.int .i64 A),(13,.osl kk 1 M.length),(12,.int .i64 a),(11,.sl 2 (ptR l)),(7,.ref 4 4 0 0),(4,.ref 3 4 0 0),(1,.fn g [.ref 0 4 0 0])]) (λb=>⟨b.2.1,b.2.2⟩)
   (λb=>b.1<=l.length/\nx1<=b.2.1/\b.2.1<=nx1+2*b.1/\NI rs A F T nb rs.length kr kl ki (gW (sM kf l) A T a b.1) b.2.2/\St.look b.2.2 kk=some ⟨1,rl M++more⟩) (λb=>l.length-b.1) (0,nx1,objs2)
   ⟨υ _,τ _,by simp only; omega,hI2,hlk2⟩ ?_ ?_
  ·(refine xN.same ?_; simp [xQ,Fr.get])
  clear hI hI2 hlk2 hold2 hfr2;intro ⟨w,nx2,objs3⟩ ⟨hw,v1,v2,hI,hlk⟩;simp only at hw v1 v2 hI hlk ⊢;refine xO mixed ?_
  by_cases hwl:w<l.length
  ·have hd3:((w:Int)<(l.length:Int)):=by omega
   have hp:=hin _ (xR (d:=(0,0)) hwl);have hpg:=uL l hwl;have hpe:=hlg w (by omega);have hwe:(w / T)* T+w % T=w:=by rw [χ]; exact Nat.div_add_mod w T
   rw [hpe] at hp hpg;generalize w / T=i at hp hpg hwe;generalize w % T=t at hp hpg hwe;simp only at hp hpg;obtain⟨hp1,hp2⟩:=hp;obtain⟨a1,a2,a3,a4⟩:=hI.ll i hp1;obtain⟨c1,c2,c3,c4⟩:=hI.li i t hp1 hp2;have hdm:=hI.dm i i t hp1 hp1 hp2;have hk5:=hI.k5
   have hkr:kr<nb:=by
    rcases hI.hk.2 with e | e
    ·exact e
    ·have:=hI.lr;rw [e,hI.fr,uA (by rw [uC]; omega)] at this;cases this
   have b4:=hI.l4;have br:=hI.lr;have hrow:=Z6 rs T kl hp1;have hrowL:=Ug A (ki i) hp2;have hvl:=gj (sM kf l) A T a w i t;have hvs:=V8 (num:=sM kf l) (A:=A) (a:=a) hwe
   have hne:∀ j u,j<rs.length->u<T->¬ (j=i/\u=t)->gW (sM kf l) A T a w j u=gW (sM kf l) A T a (w+1) j u:=λj u hj hu hne=>Re (λe=>hne (by
    have h1:(j*T+u)/ T=j:=by rw [χ,Nat.mul_add_div (by omega),Nat.div_eq_of_lt hu]; rfl
    have h2:(i*T+t)/ T=i:=by rw [χ,Nat.mul_add_div (by omega),Nat.div_eq_of_lt hp2]; rfl
    have h3:(j*T+u) % T=u:=by rw [χ,Nat.mul_add_mod,Nat.mod_eq_of_lt hu]
    have h4:(i*T+t) % T=t:=by rw [χ,Nat.mul_add_mod,Nat.mod_eq_of_lt hp2]
    rw [e] at h1 h3;rw [hwe] at h2 h4;exact⟨by omega,by omega⟩))
   rw [hnum (i,t)] at hvs;have hk1:=hkf ⟨nx2+1,(nx2,⟨2,[[.int .i64 i,.int .i64 t]]⟩) :: objs3⟩ a (i,t) (by simp) (by rw [xC (by omega)]; exact hI.l0) hal ⟨hp1,hp2⟩;simp only [ξ,List.nil_append] at hk1;generalize kf a (i,t)= key at hk1 hvs;obtain⟨bb,hse⟩:=ZG (σ:=⟨nx2+1+1,(nx2+1,⟨2,[[.int .i64 i,.int .i64 t]]⟩) :: (nx2,⟨2,[[.int .i64 i,.int .i64 t]]⟩) :: objs3⟩) (key:=kk) (m:=M) (more:=more) key (by show St.look _ _=_; rw [xC (by omega),xC (by omega)]; exact hlk) hma hml;have hvg:=yV .i64 (gW (sM kf l) A T a w i t) (show a<_ by rw [hvl]; exact hal);have hset:=fp .i64 (gW (sM kf l) A T a w i t) a (below M key);rw [hvs] at hset;generalize hV:gW (sM kf l) A T a w i t=V at c4 hvl hvg hset;have y1:¬ nx2=4:=by omega
   have y2:¬ nx2+1=4:=by omega
   have y3:¬ nx2=kr:=by omega
   have y4:¬ nx2+1=kr:=by omega
   have y5:¬ nx2=kl i:=by omega
   have y6:¬ nx2+1=kl i:=by omega
   have y7:¬ nx2=ki i t:=by omega
   have y8:¬ nx2+1=ki i t:=by omega
   have y9:¬ nx2+1=nx2:=by omega
   simp only [simprocAttr,-ZA,↓zU,↓zD,zV,zT,zW,hd3,yR,hpg,b4,br,a4,c4,hrow,hrowL,uC,nO,hvl,y1,y2,y3,y4,y5,y6,y7,y8]
   (repeat refine sd ?_)
   refine .go hk1 ?_;simp only [simprocAttr,-ZA,↓zU,↓zD,zV,zT,zW,hd3,yR,hpg,b4,br,a4,c4,hrow,hrowL,uC,nO,hvl,y1,y2,y3,y4,y5,y6,y7,y8,y9]
   (repeat refine sd ?_)
   refine .go hse ?_;simp only [simprocAttr,-ZA,↓zU,↓zD,zV,zT,zW,c4,hvl,y7,y8]
   (repeat refine sd ?_)
   have hsg:(rows .i64 V).set a (((rows .i64 V).getD a []).set 0 (D.int .i64 (below M key)))= rows .i64 (gW (sM kf l) A T a (w+1) i t):=by rw [hvg]; exact hset
   simp only [hsg];refine⟨(w+1,?znd,?zod),?ze1,?ze2,by show l.length-(w+1)<l.length-w; omega⟩
   case ze2=>
    (refine xN.same ?_; simp only [xQ,Fr.get,simprocAttr,-ZA,zS])
    exact wrap_i64 (by omega)
   case ze1=>
    have hb:nx2+1<1000000:=by omega
    refine⟨by show w+1<=l.length; omega,by show nx1<=nx2+1+1; omega,by show nx2+1+1<=nx1+2*(w+1); omega,?_,?_⟩
    ·refine hI.upd hp1 hp2 hne ?_ (λk hk1 hk2=>?_) ?_
     ·show St.look _ _=_;rw [xC y8,xC y7]; exact tE c4
     ·show St.look _ _=_;rw [xC (by omega),xC (by omega),xW,if_neg (λe=>hk2 e.symm)]
     ·show St.look _ _=_;rw [xC (by omega),xC (by omega),xW,if_neg (by omega)]; exact hI.fr
    ·show St.look _ _=_;rw [xC (by omega),xC (by omega),xW,if_neg (by omega)]; exact hlk
  have hd3:¬ ((w:Int)<(l.length:Int)):=by omega
  simp only [simprocAttr,-ZA,↓zU,↓zD,zV,zT,zW,hd3]
  (repeat refine sd ?_)
  refine⟨(a+1,nx2,objs3),⟨by show a+1<=A; omega,by show nb<=nx2; omega,by show nx2<=5000+4000*(a+1); omega,hI.val λi t hi ht=>V6 (by have:=Nat.mul_le_mul_right T (show i+1<=rs.length from hi);rw [Nat.succ_mul] at this;omega)⟩,?_,by show A-(a+1)<A-a; omega⟩
  (refine xN.same ?_; simp only [xQ,Fr.get,simprocAttr,-ZA,zS])
  exact wrap_i64 (by omega)
 have hd:((r:Int)<(rs.length:Int)):=by omega
 have hg:=vF rs hrl;have hm:=xR (d:=tX) hrl;have h1:=ok.fac _ hm;have hmore:=λ{nb' kr' kL:Nat} {kj:Nat->Nat} {objs':List (Nat × Ob)}=>hI.more (objs':=objs') (nb':=nb') (kr':=kr') (kL:=kL) (kj:=kj);generalize hrun:rs.getD r tX=run at hg h1;have hcl:=Zp (c:=run.fac) (by omega) (by omega);have k5:=hI.k5;have l2:=hI.l2;have l4:=hI.l4;have x1:¬ nb=4:=by omega
 have x2:¬ nb=2:=by omega
 have x3:¬ nb+1=2:=by omega
 have x4:¬ nb+1=4:=by omega
 simp only [simprocAttr,-ZA,↓zU,↓zD,zV,zT,zW,hd,xJ,hg,xG.row]
 (repeat refine sd ?_)
 refine .go (cr hcl) ?_;simp only [simprocAttr,-ZA,↓zU,↓zD,zV,zT,zW,l2,x1,x2,x3,x4]
 refine xT (λa:Nat × Nat × List (Nat × Ob)=>[(44,.int .i64 a.1),(43,.int .i64 T),(34,.int .i64 r),(33,.int .i64 rs.length),(32,.sl 2 (zL rs)),(10,.ref (nb+1) 2 0 0),(7,.ref 4 4 0 0),(4,.ref 3 4 0 0),(2,.ref 2 4 0 0),(1,.fn g [.ref 0 4 0 0])]) (λa=>⟨a.2.1,a.2.2⟩)
  (λa=>a.1<=T/\∃ kL kj,BI A nb run.fac a.1 kL kj a.2.1 xZ a.2.2) (λa=>T-a.1) (0,nb+2,(nb+1,⟨2,[[.xK,.sl 1 (us run.fac)]]⟩) :: (nb,⟨2,[run.row]⟩) :: xZ) ⟨υ _,1000000,λ_=>0,?_⟩ ?_ ?_
 ·refine⟨by simp,?_,?_,by simp,λi h=>absurd h (π _),λi j h=>absurd h (π _),λk hk=>?_,?_⟩
  ·simp [xX,xj,xD]
  ·simp only; rw [xC (by omega),xC (by omega)]; exact hI.fr
  ·simp only; rw [xC (by omega),xC (by omega)]
  ·simp only; rw [xC (by omega),xC (by omega)]; exact hI.fr
 ·(refine xN.same ?_; simp [xQ,Fr.get,xG.row])
 intro ⟨t,nx,objs1⟩ ⟨ht,kL,kj,hB⟩;simp only at ht hB ⊢;refine xO mixed ?_
 by_cases htl:t<T
 ·have hd2:((t:Int)<(T:Int)):=by omega
  obtain⟨n1,n2⟩:=hB.n2;have ln:=hB.ln;have lL:=hB.lL;have hLk:=hB.hL;have b2:St.look objs1 2=some ⟨4,[[.int .i64 (A:Int),.int .i64 (F:Int),.int .i64 (T:Int),.sl 2 (zL rs)]]⟩:=by rw [hB.old 2 (by omega)]; exact l2
  have y1:¬ nx=2:=by omega
  have y2:¬ nx+1=2:=by omega
  have y3:¬ nx=nb+1:=by omega
  have y4:¬ nx+1=nb+1:=by omega
  have y5:¬ nx+2=nb+1:=by omega
  have y6:¬ nx=kL:=by omega
  have y7:¬ nx+1=kL:=by omega
  have y8:¬ kL=nb+1:=by omega
  have e1:St.look (yC objs1 kL) (nb+1)= some ⟨2,[[xD kL 1 (xj A kj t),.sl 1 (us run.fac)]]⟩:=by rw [xM,if_neg y8]; exact ln
  simp only [simprocAttr,-ZA,↓zU,↓zD,zV,zT,zW,↓VN,↓VW,↓VZ,hd2,ln,lL,b2,y1,y2,y3,y4,y5,y6,y7,y8,e1,nO];refine⟨by omega,by omega,by omega,by omega,⟨(t+1,?zna,?zoa),?h1,?h2,by show T-(t+1)<T-t; omega⟩⟩
  case h2 => 
   (refine xN.same ?_; simp only [xQ,Fr.get,simprocAttr,-ZA,zS])
   exact wrap_i64 (by omega)
  case h1=>
   have hrow:=Z4 A kj t nx;have hpos:0<(xj A kj t ++ [[D.osl nx 1 A]]).length:=by simp
   refine⟨by show t+1<=T; omega,nx+1+1,λi=>if i=t then nx else kj i,?_⟩
   refine⟨by show nb+2<=nx+1+1+1/\nx+1+1+1<=nb+2+3*(t+1); omega,?_,?_,.inl ⟨by omega,by show nx+1+1<nx+1+1+1; omega⟩,λi hi=>?_,λi j hi hj he=>?_,λk hk=>?_,?_⟩
   ·show St.look (xA _ _ _++_) _=_;rw [hrow,xH,if_neg (by omega),xC (by omega),xC (by omega),xW,if_pos rfl,e1]; rfl
   ·show St.look (xA _ _ _++_) _=_;rw [hrow,xH,if_pos rfl,uA hpos]; rfl
   ·change i<t+1 at hi;show nb+2<=(if i=t then nx else kj i)/\ (if i=t then nx else kj i)<nx+1+1+1/\(if i=t then nx else kj i)≠ nx+1+1/\St.look (xA _ _ _++_) (if i=t then nx else kj i)= _
    by_cases e:i=t
    ·rw [if_pos e];exact⟨by omega,by omega,by omega,by rw [xH,if_neg (by omega),xC (by omega),xX,if_pos rfl]⟩
    ·rw [if_neg e];obtain⟨a,b,c,d⟩:=hB.lj i (by omega);exact⟨a,by omega,by omega,by rw [xH,if_neg (by omega),xC (by omega),xC (by omega),xW,if_neg (by omega),xM,if_neg (by omega),d]⟩
   ·change i<t+1 at hi;change j<t+1 at hj
    by_cases e:i=t <;> by_cases e2:j=t
    ·omega
    ·rw [if_pos e,if_neg e2] at he;have:=hB.lj j (by omega);omega
    ·rw [if_neg e,if_pos e2] at he;have:=hB.lj i (by omega);omega
    ·rw [if_neg e,if_neg e2] at he;exact hB.dj i j (by omega) (by omega) he
   ·show St.look (xA _ _ _++_) _=_;rw [xH,if_neg (by omega),xC (by omega),xC (by omega),xW,if_neg (by omega),xM,if_neg (by omega),hB.old k hk]
   ·show St.look (xA _ _ _++_) _=_;rw [xH,if_neg (by omega),xC (by omega),xC (by omega),xW,if_neg (by omega),xM]
    split
    ·rfl
    ·exact hB.fr
 have hd2:¬ ((t:Int)<(T:Int)):=by omega
 obtain rfl:T=t:=by omega
 obtain⟨n1,n2⟩:=hB.n2;have hgp:xD kL 1 (xj A kj T)= .osl kL 1 T:=by rw [we (by rw [nO]; omega),nO]
 have hgp2:vZ 1 (xj A kj T)= some ⟨1,xj A kj T⟩:=uA (by rw [nO]; omega);have ln:=hB.ln;rw [hgp] at ln;have lL:=hB.lL;rw [hgp2] at lL
 have hLk:nb+2<=kL/\kL<nx:=by
  rcases hB.hL with e | e
  ·exact e
  ·rw [e,hB.fr] at lL; cases lL
 have b4:St.look objs1 4=some ⟨4,[[.int .i64 (A:Int),.int .i64 (F:Int),.int .i64 (T:Int),xD kr 2 (qT rs T kl r)]]⟩:=by rw [hB.old 4 (by omega)]; exact l4
 have hk:=hI.hk
 have br:St.look objs1 kr=vZ 2 (qT rs T kl r):=by
  rcases hk.2 with e | e
  ·rw [hB.old kr e]; exact hI.lr
  ·have:=hI.lr;rw [e,hI.fr] at this;rw [e,hB.fr]; exact this
 have y1:¬ nx=4:=by omega
 have y2:¬ nx+1=4:=by omega
 have y3:¬ nx=nb+1:=by omega
 have y4:¬ nx+1=nb+1:=by omega
 have y5:¬ nx=kr:=by omega
 have y6:¬ kr=4:=by omega
 have e1:St.look (yC objs1 kr) 4=some ⟨4,[[.int .i64 (A:Int),.int .i64 (F:Int),.int .i64 (T:Int),xD kr 2 (qT rs T kl r)]]⟩:=by rw [xM,if_neg y6]; exact b4
 simp only [simprocAttr,-ZA,↓zU,↓zD,zV,zT,zW,hd2,ln,b4,br,y1,y2,y3,y4,y5,y6,e1,uC];refine⟨by omega,by omega,⟨(r+1,?znb,?zob),?g1,?g2,by show rs.length-(r+1)<rs.length-r; omega⟩⟩
 case g2=>
  (refine xN.same ?_; simp only [xQ,Fr.get,simprocAttr,-ZA,zS])
  exact wrap_i64 (by omega)
 case g1=>
  have hrow:=o6 rs T kl r kL;rw [hrun] at hrow;have hpos:0<(qT rs T kl r ++ [[D.osl kL 1 T,.sl 1 (us run.fac)]]).length:=by simp
  refine⟨by show r+1<=rs.length; omega,by show nx+1+1<=5+60*(r+1); omega,nx+1,λi=>if i=r then kL else kl i,λi=>if i=r then kj else ki i,?_⟩
  refine hmore (by show nb<=nx+1+1; omega) (by show nx+1+1<1000000; omega) ?_ (λk hk1 hk2 hk3=>?_) ?_ ?_ ⟨by omega,by show nx+1<nx+1+1; omega⟩ ⟨by omega,by show kL<nx+1+1; omega,by omega,?_⟩ (λt ht=>?_) (λi j hi hj he=>hB.dj i j hi hj he)
  ·show St.look (xA _ _ _++_) _=_;rw [hrow,xH,if_neg (by omega),xC (by omega),xW,if_pos rfl,e1]; rfl
  ·show St.look (xA _ _ _++_) _=_;rw [xH,if_neg (by omega),xC (by omega),xW,if_neg (by omega),xM,if_neg (by omega),hB.old k hk1]
  ·show St.look (xA _ _ _++_) _=_;rw [xH,if_neg (by omega),xC (by omega),xW,if_neg (by omega),xM]
   split
   ·rfl
   ·exact hB.fr
  ·show St.look (xA _ _ _++_) _=_;rw [hrow,xH,if_pos rfl,uA hpos]; rfl
  ·show St.look (xA _ _ _++_) _=_;rw [xH,if_neg (by omega),xC (by omega),xW,if_neg (by omega),xM,if_neg (by omega),lL]
  ·obtain⟨a,b,c,d⟩:=hB.lj t ht;refine⟨by omega,by show kj t<nx+1+1; omega,by omega,c,?_⟩;show St.look (xA _ _ _++_) _=_;rw [xH,if_neg (by omega),xC (by omega),xW,if_neg (by omega),xM,if_neg (by omega),d];simp only [gW,π,false_or,and_false,if_false,Option.some.injEq,Ob.mk.injEq,true_and];exact(ZD A).symm
end Go.Pd
