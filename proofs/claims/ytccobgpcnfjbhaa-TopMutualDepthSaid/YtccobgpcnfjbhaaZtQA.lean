/- Part QA. -/
import Derived.Test.YtccobgpcnfjbhaaZtJB
import Derived.Test.YtccobgpcnfjbhaaZtF18
set_option linter.unusedSectionVars false
set_option linter.unusedVariables false
set_option linter.unusedSimpArgs false
set_option linter.defProp false
set_option maxRecDepth 20000
set_option maxHeartbeats 1000000
open Go.Proofs.Try
open Nat renaming reduceEqDiff->γ,lt_succ_self->δ,zero_le->ε
open Int renaming toNat_natCast->ζ
namespace Go.Pd
open Go Go.Proofs
open BitVec renaming isValue -> ZA
section
open Rs Fm Ru Te
namespace Te
structure qN (n : Nd) (A : Nat) : Prop where
 ag:n.op=9\/n.op=10->∃ a:Nat,a<A/\n.i=a
 gr:n.op=11\/n.op=12\/n.op=13->∃ g:Nat,g<2 ^ 60/\n.g=g
theorem jE {nx:Nat} {xY:List (Nat × Ob)} (hu:lB ⟨nx,xY⟩) (nx':Nat) (ob:Ob):∀ k o,St.look xY k=some o->St.get ⟨nx',(nx,ob) :: xY⟩ k=some o:=λk o hk=>by have:=(hu k o hk).1;simp only at this;show St.look (_ :: _) k=_;rw [xX,if_neg (by omega)]; exact hk
end Te
theorem Se {nx kc ks:Nat} {km:Nat->Nat} {xY:List (Nat × Ob)} {rs:List xC} {A F T:Nat} {n:Nd} {x y:rT} {xd yd:D} (ok:iE rs A F T) (hS:tF rs A F T kc ks km xY) (ho:jG n rs.length T x y xd yd) (hn:qN n A) (he:n.op=9) :
  xW prog 78 [.ref kc 6 0 0,.agg n.row,xd,yd] ⟨nx,xY⟩ (.sl 1 (xD rs.length T (wY rs A T n x y))) ⟨nx,xY⟩:=by
 refine xW.wV ⟨_,func78,by kernel_rfl,by kernel_rfl⟩ λhu=>xW.clean ?_;have hk:=jE hu (nx+1);have hS1:=λob=>hS.mono (hk ob);have hp:wY rs A T n x y=vG rs T n.i.toNat x:=by unfold wY; rw [he]; simp
 rw [hp];have hxy:=ho;obtain⟨h1,h2⟩:=ho;rw [he] at h1 h2;have yc:¬ nx=kc:=by have:=(hu _ _ hS.c).1; simp only at this; omega
 rw [Nd.row];rw [h1 (by decide)];obtain⟨a,ha,hi⟩:=hn.ag (.inl he);rw [hi,ζ];refine zJ func78 Mm λhf=>?_;refine qV yc ?_;refine .go (wo ok (hS1 _) ha) ?_;refine yQ ?_;exact .gone hu (hk _) (by simp only [vw]; exact⟨trivial,trivial⟩)
theorem Sg {nx kc ks:Nat} {km:Nat->Nat} {xY:List (Nat × Ob)} {rs:List xC} {A F T:Nat} {n:Nd} {x y:rT} {xd yd:D} (ok:iE rs A F T) (hS:tF rs A F T kc ks km xY) (ho:jG n rs.length T x y xd yd) (hn:qN n A) (he:n.op=11) :
  xW prog 84 [.ref kc 6 0 0,.agg n.row,xd,yd] ⟨nx,xY⟩ (.sl 1 (xD rs.length T (wY rs A T n x y))) ⟨nx,xY⟩:=by
 refine xW.wV ⟨_,func84,by kernel_rfl,by kernel_rfl⟩ λhu=>xW.clean ?_;have hk:=jE hu (nx+1);have hS1:=λob=>hS.mono (hk ob);have hp:wY rs A T n x y=sE rs A T n.g.toNat x:=by unfold wY; rw [he]; simp
 rw [hp];have hxy:=ho;obtain⟨h1,h2⟩:=ho;rw [he] at h1 h2;have yc:¬ nx=kc:=by have:=(hu _ _ hS.c).1; simp only at this; omega
 rw [Nd.row];rw [h1 (by decide)];obtain⟨g,hg,hi⟩:=hn.gr (.inl he);rw [hi,ζ];refine zJ func84 Mt λhf=>?_;refine qV yc ?_;refine .go (bl ok (hS1 _) hg) ?_;refine yQ ?_;exact .gone hu (hk _) (by simp only [vw]; exact⟨trivial,trivial⟩)
theorem Sh {nx kc ks:Nat} {km:Nat->Nat} {xY:List (Nat × Ob)} {rs:List xC} {A F T:Nat} {n:Nd} {x y:rT} {xd yd:D} (ok:iE rs A F T) (hS:tF rs A F T kc ks km xY) (ho:jG n rs.length T x y xd yd) (hn:qN n A) (he:n.op=12) :
  xW prog 86 [.ref kc 6 0 0,.agg n.row,xd,yd] ⟨nx,xY⟩ (.sl 1 (xD rs.length T (wY rs A T n x y))) ⟨nx,xY⟩:=by
 refine xW.wV ⟨_,func86,by kernel_rfl,by kernel_rfl⟩ λhu=>xW.clean ?_;have hk:=jE hu (nx+1);have hS1:=λob=>hS.mono (hk ob);have hp:wY rs A T n x y=yz rs A T n.g.toNat x:=by unfold wY; rw [he]; simp
 rw [hp];have hxy:=ho;obtain⟨h1,h2⟩:=ho;rw [he] at h1 h2;have yc:¬ nx=kc:=by have:=(hu _ _ hS.c).1; simp only at this; omega
 rw [Nd.row];rw [h1 (by decide)];obtain⟨g,hg,hi⟩:=hn.gr (.inr (.inl he));rw [hi,ζ];refine zJ func86 Mv λhf=>?_;refine qV yc ?_;refine .go (SC ok hg (hS1 _).c) ?_;refine yQ ?_;exact .gone hu (hk _) (by simp only [vw]; exact⟨trivial,trivial⟩)
theorem Si {nx kc ks:Nat} {km:Nat->Nat} {xY:List (Nat × Ob)} {rs:List xC} {A F T:Nat} {n:Nd} {x y:rT} {xd yd:D} (ok:iE rs A F T) (hS:tF rs A F T kc ks km xY) (ho:jG n rs.length T x y xd yd) (hn:qN n A) (he:n.op=13) :
  xW prog 88 [.ref kc 6 0 0,.agg n.row,xd,yd] ⟨nx,xY⟩ (.sl 1 (xD rs.length T (wY rs A T n x y))) ⟨nx,xY⟩:=by
 refine xW.wV ⟨_,func88,by kernel_rfl,by kernel_rfl⟩ λhu=>xW.clean ?_;have hk:=jE hu (nx+1);have hS1:=λob=>hS.mono (hk ob);have hp:wY rs A T n x y=lD rs A T n.g.toNat x y:=by unfold wY; rw [he]; simp
 rw [hp];have hxy:=ho;obtain⟨h1,h2⟩:=ho;rw [he] at h1 h2;have yc:¬ nx=kc:=by have:=(hu _ _ hS.c).1; simp only at this; omega
 rw [Nd.row];rw [h1 (by decide)];rw [h2 (by decide)];obtain⟨g,hg,hi⟩:=hn.gr (.inr (.inr he));rw [hi,ζ];refine zJ func88 Mz λhf=>?_;refine qV yc ?_;refine .go (Wn ok (hS1 _) hg) ?_;refine yQ ?_;exact .gone hu (hk _) (by simp only [vw]; exact⟨trivial,trivial⟩)
theorem Sj {nx kc ks:Nat} {km:Nat->Nat} {xY:List (Nat × Ob)} {rs:List xC} {A F T:Nat} {n:Nd} {x y:rT} {xd yd:D} (ok:iE rs A F T) (hS:tF rs A F T kc ks km xY) (ho:jG n rs.length T x y xd yd) (hn:qN n A) (he:n.op=18) :
  xW prog 90 [.ref kc 6 0 0,.agg n.row,xd,yd] ⟨nx,xY⟩ (.sl 1 (xD rs.length T (wY rs A T n x y))) ⟨nx,xY⟩:=by
 refine xW.wV ⟨_,func90,by kernel_rfl,by kernel_rfl⟩ λhu=>xW.clean ?_;have hk:=jE hu (nx+1);have hS1:=λob=>hS.mono (hk ob);have hp:wY rs A T n x y=U5 T 1 x:=by unfold wY; rw [he]; simp
 rw [hp];have hxy:=ho;obtain⟨h1,h2⟩:=ho;rw [he] at h1 h2;have yc:¬ nx=kc:=by have:=(hu _ _ hS.c).1; simp only at this; omega
 rw [Nd.row];rw [h1 (by decide)];refine zJ func90 Mx λhf=>?_;refine qV yc ?_;refine .go (cl ok (by decide) (hS1 _).c) ?_;refine yQ ?_;exact .gone hu (hk _) (by simp only [vw]; exact⟨trivial,trivial⟩)
theorem Sk {nx kc ks:Nat} {km:Nat->Nat} {xY:List (Nat × Ob)} {rs:List xC} {A F T:Nat} {n:Nd} {x y:rT} {xd yd:D} (ok:iE rs A F T) (hS:tF rs A F T kc ks km xY) (ho:jG n rs.length T x y xd yd) (hn:qN n A) (he:n.op=20) :
  xW prog 92 [.ref kc 6 0 0,.agg n.row,xd,yd] ⟨nx,xY⟩ (.sl 1 (xD rs.length T (wY rs A T n x y))) ⟨nx,xY⟩:=by
 refine xW.wV ⟨_,func92,by kernel_rfl,by kernel_rfl⟩ λhu=>xW.clean ?_;have hk:=jE hu (nx+1);have hS1:=λob=>hS.mono (hk ob);have hp:wY rs A T n x y=U5 T (-1) x:=by unfold wY; rw [he]; simp
 rw [hp];have hxy:=ho;obtain⟨h1,h2⟩:=ho;rw [he] at h1 h2;have yc:¬ nx=kc:=by have:=(hu _ _ hS.c).1; simp only at this; omega
 rw [Nd.row];rw [h1 (by decide)];refine zJ func92 N1 λhf=>?_;refine qV yc ?_;refine .go (cl ok (by decide) (hS1 _).c) ?_;refine yQ ?_;exact .gone hu (hk _) (by simp only [vw]; exact⟨trivial,trivial⟩)
theorem Sl {nx kc ks:Nat} {km:Nat->Nat} {xY:List (Nat × Ob)} {rs:List xC} {A F T:Nat} {n:Nd} {x y:rT} {xd yd:D} (ok:iE rs A F T) (hS:tF rs A F T kc ks km xY) (ho:jG n rs.length T x y xd yd) (hn:qN n A) (he:n.op=19) :
  xW prog 93 [.ref kc 6 0 0,.agg n.row,xd,yd] ⟨nx,xY⟩ (.sl 1 (xD rs.length T (wY rs A T n x y))) ⟨nx,xY⟩:=by
 refine xW.wV ⟨_,func93,by kernel_rfl,by kernel_rfl⟩ λhu=>xW.clean ?_;have hk:=jE hu (nx+1);have hS1:=λob=>hS.mono (hk ob);have hp:wY rs A T n x y=aA T 1 x y:=by unfold wY; rw [he]; simp
 rw [hp];have hxy:=ho;obtain⟨h1,h2⟩:=ho;rw [he] at h1 h2;have yc:¬ nx=kc:=by have:=(hu _ _ hS.c).1; simp only at this; omega
 rw [Nd.row];rw [h1 (by decide)];rw [h2 (by decide)];refine zJ func93 N2 λhf=>?_;refine qV yc ?_;refine .go (cm ok (hS1 _).c) ?_;refine yQ ?_;exact .gone hu (hk _) (by simp only [vw]; exact⟨trivial,trivial⟩)
theorem Sm {nx kc ks:Nat} {km:Nat->Nat} {xY:List (Nat × Ob)} {rs:List xC} {A F T:Nat} {n:Nd} {x y:rT} {xd yd:D} (ok:iE rs A F T) (hS:tF rs A F T kc ks km xY) (ho:jG n rs.length T x y xd yd) (hn:qN n A) (he:n.op=21) :
  xW prog 95 [.ref kc 6 0 0,.agg n.row,xd,yd] ⟨nx,xY⟩ (.sl 1 (xD rs.length T (wY rs A T n x y))) ⟨nx,xY⟩:=by
 refine xW.wV ⟨_,func95,by kernel_rfl,by kernel_rfl⟩ λhu=>xW.clean ?_;have hk:=jE hu (nx+1);have hS1:=λob=>hS.mono (hk ob);have hp:wY rs A T n x y=aA T (-1) x y:=by unfold wY; rw [he]; simp
 rw [hp];have hxy:=ho;obtain⟨h1,h2⟩:=ho;rw [he] at h1 h2;have yc:¬ nx=kc:=by have:=(hu _ _ hS.c).1; simp only at this; omega
 rw [Nd.row];rw [h1 (by decide)];rw [h2 (by decide)];refine zJ func95 N4 λhf=>?_;refine qV yc ?_;refine .go (cm ok (hS1 _).c) ?_;refine yQ ?_;exact .gone hu (hk _) (by simp only [vw]; exact⟨trivial,trivial⟩)
end
section
open Rs Fm Ru Te
theorem QO {nx kx:Nat} {xY:List (Nat × Ob)} {R T:Nat} {φ:Nat × Nat->Bool} (hR:R<=1000) (hT:T<=1000) (hx:St.look xY kx=some ⟨1,[[.sl 1 (xD R T φ)]]⟩) {i t:Nat} (hi:i<R) (ht:t<T) :
  xW prog 83 ([.agg [.int .i64 (i:Int),.int .i64 (t:Int)]] ++ [.ref kx 1 0 0]) ⟨nx,xY⟩ (.bool (!φ (i,t))) ⟨nx,xY⟩:=by
 refine xW.wV ⟨_,func83,by kernel_rfl,by kernel_rfl⟩ λhu=>xW.clean ?_;have hk:=(hu kx _ hx).1;simp only at hk;have y1:¬ nx=kx:=by omega
 have g1:=wP (T:=T) (φ:=φ) hi;have g2:=vB (i:=i) (φ:=φ) ht;refine zJ func83 Ms λhf=>?_;simp only [simprocAttr,-ZA,↓zU,↓zD,zV,zT,zW,hx,y1,yP,g1,wU,List.length_map,List.length_range,g2]
 (repeat refine sd ?_)
 exact .gone hu (jE hu _ _) (by simp only [vw])
theorem Sf {nx kc ks:Nat} {km:Nat->Nat} {xY:List (Nat × Ob)} {rs:List xC} {A F T:Nat} {n:Nd} {x y:rT} {xd yd:D} (ok:iE rs A F T) (hS:tF rs A F T kc ks km xY) (ho:jG n rs.length T x y xd yd) (hn:qN n A) (he:n.op=10) :
  xW prog 80 [.ref kc 6 0 0,.agg n.row,xd,yd] ⟨nx,xY⟩ (.sl 1 (xD rs.length T (wY rs A T n x y))) ⟨nx,xY⟩:=by
 obtain⟨T1,T16⟩:=ok.hT;obtain⟨R1,R64⟩:=ok.hR;refine xW.wV ⟨_,func80,by kernel_rfl,by kernel_rfl⟩ λhu=>xW.clean ?_;have hp:wY rs A T n x y=λp=>!vG rs T n.i.toNat (λq=>!x q) p:=by unfold wY; rw [he]; simp
 rw [hp];obtain⟨h1,h2⟩:=ho;rw [he] at h1;obtain⟨a,ha,hi⟩:=hn.ag (.inr he);rw [hi,ζ];have bc:kc<nx:=(hu _ _ hS.c).1;rw [Nd.row,h1 (by decide)]
 have hk2:∀ (a b:Ob) k o,St.look xY k=some o->St.look ((nx+1,a) :: (nx,b) :: xY) k=some o:=λa b k o hk=>by have:=(hu k o hk).1;simp only at this;rw [xX,if_neg (by omega),xX,if_neg (by omega)]; exact hk
 have hk3:∀ (a b c:Ob) k o,St.look xY k=some o->St.look ((nx+1+1,c) :: (nx+1,a) :: (nx,b) :: xY) k=some o:=λa b c k o hk=>by have:=(hu k o hk).1;simp only at this;rw [xX,if_neg (by omega)]; exact hk2 _ _ _ _ hk
 refine zJ func80 Mp λhf=>?_;have y1:¬ nx+1=nx:=by omega
 refine qV y1 ?_;rw [hi]
 have hA:=nY (nx:=nx+1+1) (kc:=kc) (xY:=(nx+1,⟨1,[[.sl 1 (xD rs.length T x)]]⟩) :: (nx,⟨6,[[.int .i64 n.op,.int .i64 (a:Int),.int .i64 n.e,.int .i64 n.g,.int .i64 n.x,.int .i64 n.y]]⟩) :: xY) (g:=82) (caps:=[.ref (nx+1) 1 0 0]) (φ:=λp=>!x p) ok (hk2 _ _ _ _ hS.c) (λnx1 objs1 i t h1 h2 hi ht=> Tu (R:=rs.length) (T:=T) (by omega) (by omega) (by rw [h2 _ (by omega),xX,if_pos rfl]) hi ht)
 refine⟨_,hA,?_⟩;refine yQ ?_;refine⟨_,wo ok (hS.mono (hk2 _ _)) ha,?_⟩;have y2:¬ nx+1+1=nx:=by omega
 have hB:=nY (nx:=nx+1+1+1) (kc:=kc) (xY:=(nx+1+1,⟨1,[[.xU]]⟩) :: (nx+1,⟨1,[[.sl 1 (xD rs.length T x)]]⟩) :: (nx,⟨6,[[.int .i64 n.op,.int .i64 (a:Int),.int .i64 n.e,.int .i64 n.g,.int .i64 n.x,.int .i64 n.y]]⟩) :: xY) (g:=82) (caps:=[.ref (nx+1) 1 0 0]) (φ:=λp=>!x p) ok (hk3 _ _ _ _ _ hS.c) (λnx1 objs1 i t h1 h2 hi ht=> Tu (R:=rs.length) (T:=T) (by omega) (by omega) (by rw [h2 _ (by omega),xX,if_neg (by omega),xX,if_pos rfl]) hi ht)
 refine zg y1 y2 ?_
 refine⟨⟨_,hB,?_⟩,?_⟩
 ·simp only [simprocAttr,-ZA,↓zU,↓zD,zV,zT,zW];refine⟨_,wo ok (hS.mono (hk3 _ _ _)) ha,?_⟩;simp only [simprocAttr,-ZA,↓zU,↓zD,zV,zT,zW]
 have hC:=nY (nx:=nx+1+1+1) (kc:=kc) (xY:=(nx+1+1,⟨1,[[.sl 1 (xD rs.length T (vG rs T a λq=>!x q))]]⟩) :: (nx+1,⟨1,[[.sl 1 (xD rs.length T x)]]⟩) :: (nx,⟨6,[[.int .i64 n.op,.int .i64 (a:Int),.int .i64 n.e,.int .i64 n.g,.int .i64 n.x,.int .i64 n.y]]⟩) :: xY) (g:=83) (caps:=[.ref (nx+1+1) 1 0 0]) (φ:=λp=>!vG rs T a (λq=>!x q) p) ok (hk3 _ _ _ _ _ hS.c) (λnx1 objs1 i t h1 h2 hi ht=> QO (R:=rs.length) (T:=T) (by omega) (by omega) (by rw [h2 _ (by omega),xX,if_pos rfl]) hi ht)
 refine .go hC ?_;refine yQ ?_;exact .gone hu (hk3 _ _ _) (by simp only [vw]; exact⟨trivial,trivial⟩)
end
section
open Rs Fm Ru Te
theorem fI (c:Nat):∀ {l:List (Nat × Ob)} {k:Nat} {o:Ob},St.look l k=some o->St.look (zZ c l) (c+k)= some (o.shift c)
 | [],k,o,h=>by cases h
 | (j,ob) :: r,k,o,h=>by
  rw [xX] at h;show St.look ((c+j,ob.shift c) :: zZ c r) _=_;rw [xX]
  by_cases e:j=k
  ·rw [if_pos e] at h; rw [if_pos (by omega)]; cases h; rfl
  ·rw [if_neg e] at h; rw [if_neg (by omega)]; exact fI c h
namespace Te
def jK (s:vI) (f:List Nd):Int:=if kQ s≠0 then kQ s else if wS f≠0 then wS f else if (rL .andNot .i64 (gQ f:Int) 271 != 0)= true then 10 else if mR f s.ag s.fa=false then 2 else 0
def jH : List Int:=[9,10,11,12,13,18,20,19,21]
def pC : List (List D):=[[.int .i64 9,.fn 78 []],[.int .i64 10,.fn 80 []],[.int .i64 11,.fn 84 []],[.int .i64 12,.fn 86 []],[.int .i64 13,.fn 88 []],[.int .i64 18,.fn 90 []],[.int .i64 20,.fn 92 []],[.int .i64 19,.fn 93 []],[.int .i64 21,.fn 95 []]]
theorem aZ (m:Nd->Nat) (b:Nat):∀ (l:List Nd) (a:Nat),(l.foldl (λa p=>a ||| m p) a).testBit b=(a.testBit b || l.any λp=>(m p).testBit b)
 | [],a=>by simp
 | p :: r,a=>by rw [List.foldl_cons,aZ m b r,Nat.testBit_or,List.any_cons,Bool.or_assoc]
theorem ic {m:Nd->Nat} {b:Nat} {c:List Nd} {p:Nd} (hp:p ∈ c) (h:(m p).testBit b=true):(tZ m c).testBit b=true:=by have:=aZ m b c 0;rw [List.any_eq_true.2 ⟨p,hp,h⟩,Bool.or_true] at this;exact this
theorem Xb {c:List Nd} {n:Nat} (h:tZ oX c / 2 ^ n=0):∀ p ∈ c,(xS p.op).1.ag=true->p.i.toNat<n:=by
 intro p hp ha;refine Decidable.byContradiction λhge=>?_;have h1:(oX p).testBit p.i.toNat=true:=by unfold oX; rw [if_pos ha]; exact Nat.testBit_two_pow_self
 have h2:=ic hp h1
 have h3:tZ oX c<2 ^ n:=by
  rcases Nat.div_eq_zero_iff.1 h with h | h
  ·have:=Nat.two_pow_pos n; omega
  ·exact h
 have h4:=Nat.testBit_lt_two_pow (Nat.lt_of_lt_of_le h3 (Nat.pow_le_pow_right (by decide) (show n<=p.i.toNat by omega)));rw [h4] at h2;cases h2
theorem Uk {s:vI} {f:List Nd} (h:jK s f=0) {A:Nat} (hA:s.ag=A) (hA4:A<=4):∀ p ∈ yL f,qN p A/\(p.op=3->0<=p.i):=by
 unfold jK at h
 by_cases c1:kQ s≠0
 ·rw [if_pos c1] at h; exact absurd h c1
 rw [if_neg c1] at h
 by_cases c2:wS f≠0
 ·rw [if_pos c2] at h; exact absurd h c2
 rw [if_neg c2] at h
 by_cases c3:(rL .andNot .i64 (gQ f:Int) 271 != 0)= true
 ·rw [if_pos c3] at h; cases h
 rw [if_neg c3] at h
 by_cases c4:mR f s.ag s.fa=false
 ·rw [if_pos c4] at h; cases h
 have c4':mR f s.ag s.fa=true:=by simpa using c4
 unfold mR at c4';simp only [Bool.and_eq_true] at c4';have hb:=c4'.1.2;unfold jZ at hb;simp only [Bool.or_eq_true,decide_eq_true_eq] at hb;rw [hA] at hb
 have hb2:iU f / 2 ^ A=0:=by
  rcases hb with hb | hb
  ·omega
  ·simpa using hb
 intro p hp;obtain⟨k,hk⟩:=cO (gV f _) hp
 refine⟨⟨λho=>?_,λho=>?_⟩,λho=>?_⟩
 ·have hag:(xS p.op).1.ag=true:=by rcases ho with e | e <;> rw [e] <;> decide
  have h1:=bH hk hag;have h2:=Xb hb2 p hp hag;exact⟨p.i.toNat,h2,by omega⟩
 ·have h1:=bJ hk;exact⟨p.g.toNat,by omega,by omega⟩
 ·have hfa:(xS p.op).1.fa=true:=by rw [ho]; decide
  exact(vq hk hfa).1
theorem aS {rs:List xC} {A T:Nat} {n:Nd} {x y:rT} (h:n.op ∉ jH):wY rs A T n x y=fQ rs n x y:=by simp only [jH,List.mem_cons,List.not_mem_nil,or_false,not_or] at h;obtain⟨h1,h2,h3,h4,h5,h6,h7,h8,h9⟩:=h;unfold wY;rw [if_neg h1,if_neg h2,if_neg h3,if_neg h4,if_neg h5,if_neg h6,if_neg h7,if_neg h8,if_neg h9]
structure Ry (j : Nat) (o : Int) (g : FuncId) : Prop where
 at_:pC.getD j [] = [.int .i64 o,.fn g []]
 op:jH.getD j 0=o
 run:∀ {nx kc ks:Nat} {km:Nat->Nat} {xY:List (Nat × Ob)} {rs:List xC} {A F T:Nat} {n:Nd} {x y:rT} {xd yd:D},iE rs A F T->tF rs A F T kc ks km xY->jG n rs.length T x y xd yd->qN n A->n.op=o ->
  xW prog g [.ref kc 6 0 0,.agg n.row,xd,yd] ⟨nx,xY⟩ (.sl 1 (xD rs.length T (wY rs A T n x y))) ⟨nx,xY⟩
theorem cj {j:Nat} (h:j<9):∃ o g,Ry j o g:=by
 have hc:j=0\/j=1\/j=2\/j=3\/j=4\/j=5\/j=6\/j=7\/j=8:=by omega
 rcases hc with rfl | rfl | rfl | rfl | rfl | rfl | rfl | rfl | rfl
 ·exact⟨_,_,rfl,rfl,Se⟩
 ·exact⟨_,_,rfl,rfl,Sf⟩
 ·exact⟨_,_,rfl,rfl,Sg⟩
 ·exact⟨_,_,rfl,rfl,Sh⟩
 ·exact⟨_,_,rfl,rfl,Si⟩
 ·exact⟨_,_,rfl,rfl,Sj⟩
 ·exact⟨_,_,rfl,rfl,Sk⟩
 ·exact⟨_,_,rfl,rfl,Sl⟩
 ·exact⟨_,_,rfl,rfl,Sm⟩
def ua (rs:List xC) (A T:Nat) (n:Nd) (x y:rT) (j:Nat):D:=if n.op ∈ jH.take j then .sl 1 (xD rs.length T (wY rs A T n x y)) else .xU
theorem zz {rs:List xC} {A T:Nat} {n:Nd} {x y:rT} {j:Nat} (h:j<9):ua rs A T n x y (j+1)= if n.op=jH.getD j 0 then .sl 1 (xD rs.length T (wY rs A T n x y)) else ua rs A T n x y j:=by
 unfold ua
 have e:jH.take (j+1)= jH.take j ++ [jH.getD j 0]:=by rw [List.take_add_one];congr 1;simp [List.getD,show j<jH.length from h]
 rw [e]
 by_cases h1:n.op=jH.getD j 0
 ·rw [if_pos h1,if_pos (by simp [h1])]
 ·rw [if_neg h1]
  by_cases h2:n.op ∈ jH.take j
  ·rw [if_pos h2,if_pos (by simp [h2])]
  ·rw [if_neg h2,if_neg (by rw [List.mem_append,List.mem_singleton,not_or]; exact⟨h2,h1⟩)]
end Te
theorem ck : xK prog 41 [] (.sl 2 pC):=by refine zJ func41 MV λhf=>?_;refine nA ?_;exact .same
structure Te.TH (A nb kc ks : Nat) (km : Nat -> Nat) : Prop where
 c:kc<nb
 s:ks<nb
 m:∀ i,i<A->km i<nb
theorem Te.tF.frame {rs:List xC} {A F T kc ks nb:Nat} {km:Nat->Nat} {xY objs':List (Nat × Ob)} (h:tF rs A F T kc ks km xY) (hb:TH A nb kc ks km) (hl:∀ k,k<nb->St.look objs' k=St.look xY k):tF rs A F T kc ks km objs':=⟨by rw [hl _ hb.c]; exact h.c,λa=>by rw [hl _ hb.s]; exact h.s a,λi hi=>by rw [hl _ (hb.m i hi)]; exact h.m i hi⟩
theorem Te.tF.Ts {rs:List xC} {A F T kc ks nb nx2:Nat} {km:Nat->Nat} {xY:List (Nat × Ob)} (h:tF rs A F T kc ks km xY) (hb:TH A nb kc ks km) (hn:nb<=nx2) (ob:Ob):tF rs A F T kc ks km ((nx2,ob) :: xY):= h.frame hb λk hk=>by rw [xX,if_neg (by omega)]
theorem Q6 {rs:List xC} {A F T:Nat} (hz:kQ ⟨A,F,T,rs⟩= 0) (ok:iE rs A F T) (σ:St):∃ nx' objs',xW prog 39 [sD A F T rs] σ (.ref (σ.nx+1) 6 0 0) ⟨nx',objs'⟩/\ TH A nx' (σ.nx+1) (σ.nx+2) (λi=>σ.nx+(3+i))/\ tF rs A F T (σ.nx+1) (σ.nx+2) (λi=>σ.nx+(3+i)) objs':=by
 have h:=xW.own (σ:=σ) (gm hz ok) rfl;refine⟨_,_,h,⟨by omega,by omega,λi hi=>by omega⟩,?_⟩;have hS:=tF.start (rs:=rs) (A:=A) (F:=F) (T:=T);have hl:∀ {k:Nat} {o:Ob},St.look (pF rs A F T A) k=some o->St.look (zZ σ.nx (pF rs A F T A)++ σ.xY) (σ.nx+k)= some (o.shift σ.nx):=λh=>by rw [qL,fI _ h]; rfl
 refine⟨?_,λha=>?_,λi hi=>?_⟩
 ·rw [hl hS.c];simp only [Ob.shift,List.map_cons,List.map_nil,D.wA,D.shift];congr 8;generalize List.range A=l;cases l <;> simp [yH,D.shift]
 ·rw [hl (hS.s ha)];simp only [Ob.shift,List.map_map];rfl
 ·rw [hl (hS.m i hi)];simp only [Ob.shift];congr 2;unfold tX mG;simp only [List.map_map];rfl
end
section
open Rs Fm Ru Te
namespace Te
def sc (rs:List xC) (A T:Nat) (f:List Nd):rT:=(zP rs A T (yL f) (yL f).length).getD ((yL f).length-1) λ_=>false
def cN (s:vI) (f:List Nd):List (List D):=if jK s f≠0 then [] else xD s.rs.length s.ln.toNat (sc s.rs s.ag.toNat s.ln.toNat f)
def tY (rs:List xC) (A T:Nat) (c:List Nd) (k:Nat):List (List D):=(zP rs A T c k).map λx=>[.sl 1 (xD rs.length T x)]
theorem kX (rs:List xC) (A T:Nat) (c:List Nd) (k:Nat):(tY rs A T c k).length=k:=by simp [tY,rB]
theorem gO {rs:List xC} {A T:Nat} {c:List Nd} {k i:Nat} (h:i<k):(tY rs A T c k).getD i [] = [.sl 1 (xD rs.length T ((zP rs A T c k).getD i λ_=>false))]:=by have:=rB rs A T c k;simp [tY,List.getD,this,h]
theorem ij (rs:List xC) (A T:Nat) (c:List Nd) (k:Nat):tY rs A T c (k+1)= tY rs A T c k ++ [[.sl 1 (xD rs.length T (wY rs A T (c.getD k nG) ((zP rs A T c k).getD (c.getD k nG).x.toNat λ_=>false) ((zP rs A T c k).getD (c.getD k nG).y.toNat λ_=>false)))]]:=by simp [tY,zP]
theorem yu {R T:Nat} (h:1<=R) (φ:rT):∃ e r,xD R T φ=e :: r:=by
 cases hh:xD R T φ with
 | nil=>have:=yP R T φ; rw [hh] at this; simp at this; omega
 | cons e r=>exact⟨e,r,rfl⟩
theorem zu {rs:List xC} {A T:Nat} {n:Nd} {x y:rT}:ua rs A T n x y 9=if n.op ∈ jH then .sl 1 (xD rs.length T (wY rs A T n x y)) else .xU:=rfl
end Te
theorem au (s:vI) (f:List Nd):xK prog 10 [s.d,.sl 6 (uS f)] (.xI [.sl 1 (cN s f),.int .i64 (jK s f)]):=by
 have hD:s.d = .agg [.int .i64 s.ag,.int .i64 s.fa,.int .i64 s.ln,.sl 2 (uR s.rs)]:=rfl;have hC:=ar s;have hF:=bA f;have hG:=UC f;have hT:=Rz f s.ag s.fa;have hE:jK s f=if kQ s≠0 then kQ s else if wS f≠0 then wS f else if (rL .andNot .i64 (gQ f:Int) 271 != 0)= true then 10 else if mR f s.ag s.fa=false then 2 else 0:=rfl;have hR0:jK s f≠0->cN s f = []:=λh=>if_pos h;have hin:=λA=>Uk (s:=s) (f:=f) (A:=A);rw [hD] at hC ⊢;by_cases c1:kQ s=0
 case neg=>
  have e1:(kQ s != 0)= true:=by simpa using c1
  rw [if_pos c1] at hE;rw [hR0 (by rw [hE]; exact c1),hE];refine zJ func10 Rl λhf=>?_;refine nA ?_;refine .go (cq hC) ?_;refine yF e1 ?_;exact .drop (by simp) (by simp [vw,rN])
 rw [if_neg (by simpa using c1)] at hE;by_cases c2:wS f=0
 case neg=>
  have e2:(wS f != 0)= true:=by simpa using c2
  rw [if_pos c2] at hE;rw [hR0 (by rw [hE]; exact c2),hE];rw [c1] at hC;refine zJ func10 Rl λhf=>?_;refine nA ?_;refine .go (cq hC) ?_;refine yQ ?_;refine .go (cq hF) ?_;refine yF e2 ?_;exact .drop (by simp) (by simp [vw,rN])
 rw [if_neg (by simpa using c2)] at hE;rw [c1] at hC;rw [c2] at hF
 by_cases c3:(rL .andNot .i64 (gQ f:Int) 271 != 0)= true
 ·rw [if_pos c3] at hE;rw [hR0 (by rw [hE]; decide),hE];refine zJ func10 Rl λhf=>?_;refine nA ?_;refine .go (cq hC) ?_;refine yQ ?_;refine .go (cq hF) ?_;refine yQ ?_;refine .go (cq hG) ?_;refine yF c3 ?_;exact .drop (by simp) (by simp [vw,rN])
 rw [if_neg c3] at hE;have c3':(rL .andNot .i64 (gQ f:Int) 271 != 0)= false:=by simpa using c3
 by_cases c4:mR f s.ag s.fa=false
 ·rw [if_pos c4] at hE;rw [hR0 (by rw [hE]; decide),hE];rw [c4] at hT;refine zJ func10 Rl λhf=>?_;refine nA ?_;refine .go (cq hC) ?_;refine yQ ?_;refine .go (cq hF) ?_;refine yQ ?_;refine .go (cq hG) ?_;refine qV c3' ?_;refine .go (cq hT) ?_;refine yQ ?_;exact .drop (by simp) (by simp [vw,rN])
 rw [if_neg c4] at hE;rw [show mR f s.ag s.fa=true by simpa using c4] at hT;rw [show cN s f=xD s.rs.length s.ln.toNat (sc s.rs s.ag.toNat s.ln.toNat f) from if_neg (by rw [hE]; simp),hE];obtain⟨A,F,T,rs,rfl,ok⟩:=UJ c1;obtain⟨T1,T16⟩:=ok.hT;obtain⟨R1,R64⟩:=ok.hR;have hin:=hin A hE rfl ok.hA;have hcv:=T9 f;have hc0:=ff c2;have hc2:(yL f).length<=200:=eM f _;have hP:=zi f;have hlast:sc rs A T f=(zP rs A T (yL f) (yL f).length).getD ((yL f).length-1) λ_=>false:=rfl;simp only [ζ] at *;rw [hlast];generalize yL f=c at hin hcv hc0 hc2 hP;refine zJ func10 Rl λhf=>?_;refine nA ?_;refine .go (cq hC) ?_;refine yQ ?_;refine .go (cq hF) ?_;refine yQ ?_;refine .go (cq hG) ?_;refine qV c3' ?_;refine .go (cq hT) ?_;refine yQ ?_;obtain⟨nb,objs0,hN,hB,hS⟩:=Q6 c1 ok ⟨1,[(0,⟨4,[[.int .i64 (A:Int),.int .i64 (F:Int),.int .i64 (T:Int),.sl 2 (uR rs)]]⟩)]⟩;unfold sD at hN;simp only at hN hS hB;generalize (1+1:Nat)= kc at hN hS hB;generalize (1+2:Nat)= ks at hS hB;generalize (λi=>1+(3+i))= km at hS hB
 (repeat refine sd ?_)
 refine .go hN ?_;refine yQ ?_;refine .go (cr hP) ?_;refine yF wI ?_;have bc:=hB.c
 refine zC (λb:Nat × Nat × Nat × List (Nat × Ob)=>[(43,.int .i64 b.1),(42,.int .i64 c.length),(41,.sl 6 (uS c)),(9,yH b.2.1 1 (tY rs A T c b.1)),(8,.ref kc 6 0 0)]) (λb=>⟨b.2.2.1,b.2.2.2⟩)
  (λb=>b.1<=c.length/\nb<=b.2.2.1/\(∀ k,k<nb->St.look b.2.2.2 k=St.look objs0 k)/\ (0<b.1->nb<=b.2.1/\b.2.1<b.2.2.1/\St.look b.2.2.2 b.2.1=some ⟨1,tY rs A T c b.1⟩)) (λb=>c.length-b.1)
  (0,nb,nb,objs0) ⟨ε _,Nat.le_refl _,λ_ _=>rfl,λh=>absurd h (Nat.lt_irrefl _)⟩ ?_ ?_
 ·(refine yV.same ?_; simp [zL,Fr.get,tY,zP,yH])
 rintro ⟨k,kv,nx1,objs1⟩ ⟨hk,hn,hold,hval⟩;simp only at hk hn hold hval ⊢;refine wZ mixed ?_;by_cases hkl:k<c.length
 case neg=>
  have hd:¬ ((k:Int)<(c.length:Int)):=by omega
  obtain rfl:k=c.length:=by omega
  obtain⟨v1,v2,v3⟩:=hval hc0;have hvl:=kX rs A T c c.length;have hne:tY rs A T c c.length ≠ []:=λe=>by rw [e] at hvl; simp at hvl; omega
  rw [mH hne,hvl];have hw:IntKind.i64.wrap ((c.length:Int)-1)= ((c.length-1:Nat):Int):=by rw [wrap_i64 (by omega)]; omega
  have hg:=gO (rs:=rs) (A:=A) (T:=T) (c:=c) (k:=c.length) (i:=c.length-1) (by omega);refine TR hd hw v3 hvl hg ?_;exact .drop (by simp) (by simp [vw,rN])
 have hd:((k:Int)<(c.length:Int)):=by omega
 have hng:=lI c hkl;have hnv:=hcv k hkl;have hpm:=zH (d:=nG) hkl;obtain⟨hni,hn3⟩:=hin _ hpm;have hsucc:=ij rs A T c k;obtain⟨ox,oy,ox0,oy0⟩:=n7 hnv;generalize c.getD k nG=n at hng hnv hni hn3 hsucc ox oy ox0 oy0;have hnr:n.row = [.int .i64 n.op,.int .i64 n.i,.int .i64 n.e,.int .i64 n.g,.int .i64 n.x,.int .i64 n.y]:=rfl;rw [hnr] at hng
 rcases Nat.eq_zero_or_pos k with hk0 | hkp
 ·subst hk0;have hopd:jG n rs.length T ((zP rs A T c 0).getD n.x.toNat λ_=>false) ((zP rs A T c 0).getD n.y.toNat λ_=>false) .xU .xU:=⟨λh=>absurd (ox h).2 (Nat.not_lt_zero _),λh=>absurd (oy h).2 (Nat.not_lt_zero _)⟩;rw [show yH kv 1 (tY rs A T c 0)= .xU from rfl];have hd0:((0:Int)<(c.length:Int)):=by omega
  refine ai hd0 wI hng ?_;refine .go (cq ck) ?_;refine nA ?_;rw [show pC.length=9 from rfl]
  refine uI (λb:Nat × Nat × List (Nat × Ob)=>[(62,.int .i64 b.1),(61,.int .i64 9),(60,.sl 2 pC),(14,ua rs A T n ((zP rs A T c 0).getD n.x.toNat λ_=>false) ((zP rs A T c 0).getD n.y.toNat λ_=>false) b.1),(43,.int .i64 (0:Nat)),(42,.int .i64 c.length),(41,.sl 6 (uS c)),(13,.xU),(12,.xU),(11,.ref nx1 6 0 0),(9,.xU),(8,.ref kc 6 0 0)]) (λb=>⟨b.2.1,b.2.2⟩)
   (λb=>b.1<=9/\nx1<b.2.1/\(∀ q,q<nx1->St.look b.2.2 q=St.look objs1 q)/\ St.look b.2.2 nx1=some ⟨6,[[.int .i64 n.op,.int .i64 n.i,.int .i64 n.e,.int .i64 n.g,.int .i64 n.x,.int .i64 n.y]]⟩) (λb=>9-b.1)
   (0,nx1+1,(nx1,⟨6,[[.int .i64 n.op,.int .i64 n.i,.int .i64 n.e,.int .i64 n.g,.int .i64 n.x,.int .i64 n.y]]⟩) :: objs1) ⟨ε _,δ _,λq hq=>?_,?_⟩ ?_ ?_
  ·simp only; rw [xX,if_neg (by omega)]
  ·simp only; rw [xX,if_pos rfl]
  ·(refine yV.same ?_; simp [zL,Fr.get,ua])
  rintro ⟨j,nx2,objs2⟩ ⟨hj,hn2,hold2,hnode⟩;simp only at hj hn2 hold2 hnode ⊢;have hS2:tF rs A F T kc ks km objs2:=hS.frame hB λq hq=>by rw [hold2 q (by omega),hold q hq]
  refine wZ mixed ?_
  by_cases hj9:j<9
  ·have hdj:((j:Int)<9):=by omega
   obtain⟨o,g,hat,hop,hrun⟩:=cj hj9;have hgs:=zz (rs:=rs) (A:=A) (T:=T) (n:=n) (x:=((zP rs A T c 0).getD n.x.toNat λ_=>false)) (y:=((zP rs A T c 0).getD n.y.toNat λ_=>false)) hj9;rw [hop] at hgs;have z3:¬ nx2=nx1:=by omega
   by_cases ho:n.op=o
   ·have hc:=hrun (nx:=nx2+1) (xY:=(nx2,⟨2,[[.int .i64 o,.fn g []]]⟩) :: objs2) ok (hS2.Ts (nx2:=nx2) (nb:=nb) hB (by omega) _) hopd hni ho;rw [hnr] at hc;rw [if_pos ho] at hgs;have e1:(o==n.op)= true:=by rw [ho]; exact beq_self_eq_true _
    simp only [simprocAttr,-ZA,↓zU,↓zD,zV,zT,zW,hdj,hat,show pC.length=9 from rfl,hnode,z3,e1]
    (repeat refine sd ?_)
    refine .go hc ?_;refine yQ ?_;refine⟨(j+1,nx2+1,?zoA0),⟨by show j+1<=9; omega,by show nx1<nx2+1; omega,λq hq=>?_,?_⟩,?zwA0,by show 9-(j+1)<9-j; omega⟩
    case zwA0=>
     (refine yV.same ?_; simp only [zL,Fr.get,simprocAttr,-ZA,zS,hgs])
     exact yB (by omega)
    ·simp only; rw [xX,if_neg (by omega)]; exact hold2 q hq
    ·simp only; rw [xX,if_neg (by omega)]; exact hnode
   ·rw [if_neg ho] at hgs;have e1:(o==n.op)= false:=by rw [beq_eq_false_iff_ne]; exact λe=>ho e.symm
    simp only [simprocAttr,-ZA,↓zU,↓zD,zV,zT,zW,hdj,hat,show pC.length=9 from rfl,hnode,z3,e1]
    (repeat refine sd ?_)
    refine⟨(j+1,nx2+1,?zoB0),⟨by show j+1<=9; omega,by show nx1<nx2+1; omega,λq hq=>?_,?_⟩,?zwB0,by show 9-(j+1)<9-j; omega⟩
    case zwB0=>
     (refine yV.same ?_; simp only [zL,Fr.get,simprocAttr,-ZA,zS,hgs])
     exact yB (by omega)
    ·simp only; rw [xX,if_neg (by omega)]; exact hold2 q hq
    ·simp only; rw [xX,if_neg (by omega)]; exact hnode
  have hdj:¬ ((j:Int)<9):=by omega
  obtain rfl:j=9:=by omega
  rw [zu];refine yF hdj ?_;refine .yY ?_
  have hend:∀ (fr:Fr),zL fr [(43,.int .i64 ((0+1:Nat):Int)),(42,.int .i64 c.length),(41,.sl 6 (uS c)),(9,.xP nx2 1 (0+1)),(8,.ref kc 6 0 0)]->∃ b:Nat × Nat × Nat × List (Nat × Ob),
    (b.1<=c.length/\nb<=b.2.2.1/\(∀ k,k<nb->St.look b.2.2.2 k=St.look objs0 k)/\ (0<b.1->nb<=b.2.1/\b.2.1<b.2.2.1/\St.look b.2.2.2 b.2.1=some ⟨1,tY rs A T c b.1⟩))/\
    yV ⟨prog,97,0,[],none⟩ fr ⟨nx2+1,(nx2,⟨1,tY rs A T c (0+1)⟩) :: objs2⟩ [(43,.int .i64 b.1),(42,.int .i64 c.length),(41,.sl 6 (uS c)),(9,yH b.2.1 1 (tY rs A T c b.1)),(8,.ref kc 6 0 0)] ⟨b.2.2.1,b.2.2.2⟩/\ c.length-b.1<c.length-0:=by
   intro fr hfr;have hvl':=kX rs A T c (0+1);have hne':tY rs A T c (0+1)≠ []:=λe=>by rw [e] at hvl'; simp at hvl'
   refine⟨(0+1,nx2,nx2+1,_),⟨by show 0+1<=c.length; omega,by show nb<=nx2+1; omega,λq hq=>?_,λ_=>⟨by show nb<=nx2; omega,δ _,?_⟩⟩,yV.same ?_,by show c.length-(0+1)<c.length-0; omega⟩
   ·simp only; rw [xX,if_neg (by omega)]; rw [hold2 q (by omega),hold q hq]
   ·simp only; rw [xX,if_pos rfl]
   ·simp only;rw [mH hne',hvl']; exact hfr
  by_cases hop:n.op ∈ jH
  ·rw [if_pos hop];have hsx:=hsucc;generalize wY rs A T n ((zP rs A T c 0).getD n.x.toNat λ_=>false) ((zP rs A T c 0).getD n.y.toNat λ_=>false)= φ at hsx;obtain⟨e,r,her⟩:=yu R1 φ;have hp:((D.sl 1 (e :: r)).xH)= true:=rfl;rw [her] at hsx ⊢;refine qV hp ?_;rw [show tY rs A T c 0 = [] from rfl,List.nil_append] at hsx;rw [<- hsx];refine hend _ ?_;simp only [zL,Fr.get,↓reduceIte,reduceIte,γ,reduceCtorEq,D.int.injEq,D.xP.injEq,and_true,true_and,and_self]; exact yB (k:=0) (by omega)
  ·rw [if_neg hop];have hc:=YX (nx:=nx2) (xY:=objs2) ok hopd hn3 .xU .xU hS2.c;rw [hnr,<- aS hop] at hc;have hsx:=hsucc;generalize wY rs A T n ((zP rs A T c 0).getD n.x.toNat λ_=>false) ((zP rs A T c 0).getD n.y.toNat λ_=>false)= φ at hsx hc;refine qV hnode ?_;refine .go hc ?_;refine qV hnode ?_;rw [show tY rs A T c 0 = [] from rfl,List.nil_append] at hsx;rw [<- hsx];refine hend _ ?_;simp only [zL,Fr.get,↓reduceIte,reduceIte,γ,reduceCtorEq,D.int.injEq,D.xP.injEq,and_true,true_and,and_self]; exact yB (k:=0) (by omega)
 ·have hdp:((0:Int)<(k:Int)):=by omega
  obtain⟨v1,v2,v3⟩:=hval hkp;have hvl:=kX rs A T c k;have hne:tY rs A T c k ≠ []:=λe=>by rw [e] at hvl; simp at hvl; omega
  rw [mH hne,hvl]
  have hxk:0<=n.x/\n.x.toNat<k:=by
   cases hu:(xS n.op).1.x with
   | true=>exact ox hu
   | false=>rw [ox0 hu]; exact⟨Int.le_refl _,hkp⟩
  have hyk:0<=n.y/\n.y.toNat<k:=by
   cases hu:(xS n.op).1.y with
   | true=>exact oy hu
   | false=>rw [oy0 hu]; exact⟨Int.le_refl _,hkp⟩
  have hgx:=gO (rs:=rs) (A:=A) (T:=T) (c:=c) hxk.2;have hgy:=gO (rs:=rs) (A:=A) (T:=T) (c:=c) hyk.2;have hopd:jG n rs.length T ((zP rs A T c k).getD n.x.toNat λ_=>false) ((zP rs A T c k).getD n.y.toNat λ_=>false) (.sl 1 (xD rs.length T ((zP rs A T c k).getD n.x.toNat λ_=>false))) (.sl 1 (xD rs.length T ((zP rs A T c k).getD n.y.toNat λ_=>false))):=⟨λ_=>rfl,λ_=>rfl⟩;have z1:¬ nx1=kv:=by omega
  refine OB hd wI hng hdp v3 hvl hgx hgy z1 ?_;refine .go (cq ck) ?_;refine nA ?_;rw [show pC.length=9 from rfl]
  refine uI (λb:Nat × Nat × List (Nat × Ob)=>[(62,.int .i64 b.1),(61,.int .i64 9),(60,.sl 2 pC),(14,ua rs A T n ((zP rs A T c k).getD n.x.toNat λ_=>false) ((zP rs A T c k).getD n.y.toNat λ_=>false) b.1),(43,.int .i64 (k:Nat)),(42,.int .i64 c.length),(41,.sl 6 (uS c)),(13,(.sl 1 (xD rs.length T ((zP rs A T c k).getD n.y.toNat λ_=>false)))),(12,(.sl 1 (xD rs.length T ((zP rs A T c k).getD n.x.toNat λ_=>false)))),(11,.ref nx1 6 0 0),(9,.xP kv 1 k),(8,.ref kc 6 0 0)]) (λb=>⟨b.2.1,b.2.2⟩)
   (λb=>b.1<=9/\nx1<b.2.1/\(∀ q,q<nx1->St.look b.2.2 q=St.look objs1 q)/\ St.look b.2.2 nx1=some ⟨6,[[.int .i64 n.op,.int .i64 n.i,.int .i64 n.e,.int .i64 n.g,.int .i64 n.x,.int .i64 n.y]]⟩) (λb=>9-b.1)
   (0,nx1+1,(nx1,⟨6,[[.int .i64 n.op,.int .i64 n.i,.int .i64 n.e,.int .i64 n.g,.int .i64 n.x,.int .i64 n.y]]⟩) :: objs1) ⟨ε _,δ _,λq hq=>?_,?_⟩ ?_ ?_
  ·simp only; rw [xX,if_neg (by omega)]
  ·simp only; rw [xX,if_pos rfl]
  ·(refine yV.same ?_; simp [zL,Fr.get,ua])
  rintro ⟨j,nx2,objs2⟩ ⟨hj,hn2,hold2,hnode⟩;simp only at hj hn2 hold2 hnode ⊢;have hS2:tF rs A F T kc ks km objs2:=hS.frame hB λq hq=>by rw [hold2 q (by omega),hold q hq]
  refine wZ mixed ?_
  by_cases hj9:j<9
  ·have hdj:((j:Int)<9):=by omega
   obtain⟨o,g,hat,hop,hrun⟩:=cj hj9;have hgs:=zz (rs:=rs) (A:=A) (T:=T) (n:=n) (x:=((zP rs A T c k).getD n.x.toNat λ_=>false)) (y:=((zP rs A T c k).getD n.y.toNat λ_=>false)) hj9;rw [hop] at hgs;have z3:¬ nx2=nx1:=by omega
   by_cases ho:n.op=o
   ·have hc:=hrun (nx:=nx2+1) (xY:=(nx2,⟨2,[[.int .i64 o,.fn g []]]⟩) :: objs2) ok (hS2.Ts (nx2:=nx2) (nb:=nb) hB (by omega) _) hopd hni ho;rw [hnr] at hc;rw [if_pos ho] at hgs;have e1:(o==n.op)= true:=by rw [ho]; exact beq_self_eq_true _
    simp only [simprocAttr,-ZA,↓zU,↓zD,zV,zT,zW,hdj,hat,show pC.length=9 from rfl,hnode,z3,e1]
    (repeat refine sd ?_)
    refine .go hc ?_;refine yQ ?_;refine⟨(j+1,nx2+1,?zoAk),⟨by show j+1<=9; omega,by show nx1<nx2+1; omega,λq hq=>?_,?_⟩,?zwAk,by show 9-(j+1)<9-j; omega⟩
    case zwAk=>
     (refine yV.same ?_; simp only [zL,Fr.get,simprocAttr,-ZA,zS,hgs])
     exact yB (by omega)
    ·simp only; rw [xX,if_neg (by omega)]; exact hold2 q hq
    ·simp only; rw [xX,if_neg (by omega)]; exact hnode
   ·rw [if_neg ho] at hgs;have e1:(o==n.op)= false:=by rw [beq_eq_false_iff_ne]; exact λe=>ho e.symm
    simp only [simprocAttr,-ZA,↓zU,↓zD,zV,zT,zW,hdj,hat,show pC.length=9 from rfl,hnode,z3,e1]
    (repeat refine sd ?_)
    refine⟨(j+1,nx2+1,?zoBk),⟨by show j+1<=9; omega,by show nx1<nx2+1; omega,λq hq=>?_,?_⟩,?zwBk,by show 9-(j+1)<9-j; omega⟩
    case zwBk=>
     (refine yV.same ?_; simp only [zL,Fr.get,simprocAttr,-ZA,zS,hgs])
     exact yB (by omega)
    ·simp only; rw [xX,if_neg (by omega)]; exact hold2 q hq
    ·simp only; rw [xX,if_neg (by omega)]; exact hnode
  have hdj:¬ ((j:Int)<9):=by omega
  obtain rfl:j=9:=by omega
  rw [zu];refine yF hdj ?_;refine .yY ?_
  have hend:∀ (fr:Fr),zL fr [(43,.int .i64 ((k+1:Nat):Int)),(42,.int .i64 c.length),(41,.sl 6 (uS c)),(9,.xP nx2 1 (k+1)),(8,.ref kc 6 0 0)]->∃ b:Nat × Nat × Nat × List (Nat × Ob),
    (b.1<=c.length/\nb<=b.2.2.1/\(∀ k,k<nb->St.look b.2.2.2 k=St.look objs0 k)/\ (0<b.1->nb<=b.2.1/\b.2.1<b.2.2.1/\St.look b.2.2.2 b.2.1=some ⟨1,tY rs A T c b.1⟩))/\
    yV ⟨prog,97,0,[],none⟩ fr ⟨nx2+1,(nx2,⟨1,tY rs A T c (k+1)⟩) :: zI objs2 kv⟩ [(43,.int .i64 b.1),(42,.int .i64 c.length),(41,.sl 6 (uS c)),(9,yH b.2.1 1 (tY rs A T c b.1)),(8,.ref kc 6 0 0)] ⟨b.2.2.1,b.2.2.2⟩/\ c.length-b.1<c.length-k:=by
   intro fr hfr;have hvl':=kX rs A T c (k+1);have hne':tY rs A T c (k+1)≠ []:=λe=>by rw [e] at hvl'; simp at hvl'
   refine⟨(k+1,nx2,nx2+1,_),⟨by show k+1<=c.length; omega,by show nb<=nx2+1; omega,λq hq=>?_,λ_=>⟨by show nb<=nx2; omega,δ _,?_⟩⟩,yV.same ?_,by show c.length-(k+1)<c.length-k; omega⟩
   ·simp only; rw [xX,if_neg (by omega)]; rw [yO,if_neg (by omega),hold2 q (by omega),hold q hq]
   ·simp only; rw [xX,if_pos rfl]
   ·simp only;rw [mH hne',hvl']; exact hfr
  by_cases hop:n.op ∈ jH
  ·rw [if_pos hop];have hsx:=hsucc;generalize wY rs A T n ((zP rs A T c k).getD n.x.toNat λ_=>false) ((zP rs A T c k).getD n.y.toNat λ_=>false)= φ at hsx;obtain⟨e,r,her⟩:=yu R1 φ;have hp:((D.sl 1 (e :: r)).xH)= true:=rfl;rw [her] at hsx ⊢;simp only [simprocAttr,-ZA,↓zU,↓zD,zV,zT,zW,hp ,(hold2 kv v2).trans v3,hvl]
   (repeat refine sd ?_)
   rw [List.take_of_length_le (by omega),<- hsx];refine hend _ ?_;simp only [zL,Fr.get,↓reduceIte,reduceIte,γ,reduceCtorEq,D.int.injEq,D.xP.injEq,and_true,true_and,and_self]; exact yB (k:=k) (by omega)
  ·rw [if_neg hop];have hc:=YX (nx:=nx2) (xY:=objs2) ok hopd hn3 (.sl _ _) (.sl _ _) hS2.c;rw [hnr,<- aS hop] at hc;have hsx:=hsucc;generalize wY rs A T n ((zP rs A T c k).getD n.x.toNat λ_=>false) ((zP rs A T c k).getD n.y.toNat λ_=>false)= φ at hsx hc;refine qV hnode ?_;refine .go hc ?_;simp only [simprocAttr,-ZA,↓zU,↓zD,zV,zT,zW,(hold2 kv v2).trans v3,hvl]
   (repeat refine sd ?_)
   rw [List.take_of_length_le (by omega),<- hsx];refine hend _ ?_;simp only [zL,Fr.get,↓reduceIte,reduceIte,γ,reduceCtorEq,D.int.injEq,D.xP.injEq,and_true,true_and,and_self]; exact yB (k:=k) (by omega)
end
end Go.Pd
