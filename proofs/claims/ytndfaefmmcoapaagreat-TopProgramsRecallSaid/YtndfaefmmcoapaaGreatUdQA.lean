/- Part QA. -/
import Derived.Test.YtndfaefmmcoapaaGreatUdJB
import Derived.Test.YtndfaefmmcoapaaGreatUdP8
set_option linter.unusedSectionVars false
set_option linter.unusedVariables false
set_option linter.unusedSimpArgs false
set_option linter.defProp false
set_option maxRecDepth 20000
set_option maxHeartbeats 1000000
namespace Go.Pd
open Go Go.Proofs
open BitVec renaming isValue -> ZA
section
open Rs Fm Ru Te
namespace Te
structure pH (n : Nd) (A : Nat) : Prop where
 ag:n.op=9\/n.op=10->∃ a:Nat,a<A/\n.i=a
 gr:n.op=11\/n.op=12\/n.op=13->∃ g:Nat,g<2 ^ 60/\n.g=g
theorem aB {nx:Nat} {xZ:List (Nat × Ob)} (hu:jK ⟨nx,xZ⟩) (nx':Nat) (ob:Ob):∀ k o,St.look xZ k=some o->St.get ⟨nx',(nx,ob) :: xZ⟩ k=some o:=fun k o hk=>by have:=(hu k o hk).1;simp only at this;show St.look (_ :: _) k=_;rw [xX,if_neg (by omega)]; exact hk
end Te
theorem bWe {nx kc ks:Nat} {km:Nat->Nat} {xZ:List (Nat × Ob)} {rs:List xD} {A F T:Nat} {n:Nd} {x y:Tab} {xd yd:D} (ok:OkR rs A F T) (hS:mW rs A F T kc ks km xZ) (ho:aSk n rs.length T x y xd yd) (hn:pH n A) (he:n.op=9) :
  xY Tryz.prog 150 [.ref kc 6 0 0,.agg n.row,xd,yd] ⟨nx,xZ⟩ (.sl 1 (zM rs.length T (zH rs A T n x y))) ⟨nx,xZ⟩:=by
 refine xY.wW ⟨_,Tryz.func150,by kernel_rfl,by kernel_rfl⟩ fun hu=>xY.clean ?_;have hk:=aB hu (nx+1);have hS1:=fun ob=>hS.mono (hk ob);have hp:zH rs A T n x y=vR rs T n.i.toNat x:=by unfold zH; rw [he]; simp
 rw [hp];have hxy:=ho;obtain⟨h1,h2⟩:=ho;rw [he] at h1 h2;have yc:¬ nx=kc:=by have:=(hu _ _ hS.c).1; simp only at this; omega
 rw [Nd.row];rw [h1 (by decide)];obtain⟨a,ha,hi⟩:=hn.ag (.inl he);rw [hi,Int.toNat_natCast];refine xY.xR mixed Tryz.func150 bRb (by simp) fun hf=>?_;simp only [simprocAttr,-ZA,↓zU,↓zD,zV,zT,zW,yc]
 (repeat refine sd ?_)
 refine .go (aSq ok (hS1 _) ha) ?_;simp only [simprocAttr,-ZA,↓zU,↓zD,zV,zT,zW];exact .gone hu (hk _) (by simp only [vw]; exact⟨trivial,trivial⟩)
theorem bWc {nx kc ks:Nat} {km:Nat->Nat} {xZ:List (Nat × Ob)} {rs:List xD} {A F T:Nat} {n:Nd} {x y:Tab} {xd yd:D} (ok:OkR rs A F T) (hS:mW rs A F T kc ks km xZ) (ho:aSk n rs.length T x y xd yd) (hn:pH n A) (he:n.op=11) :
  xY Tryz.prog 156 [.ref kc 6 0 0,.agg n.row,xd,yd] ⟨nx,xZ⟩ (.sl 1 (zM rs.length T (zH rs A T n x y))) ⟨nx,xZ⟩:=by
 refine xY.wW ⟨_,Tryz.func156,by kernel_rfl,by kernel_rfl⟩ fun hu=>xY.clean ?_;have hk:=aB hu (nx+1);have hS1:=fun ob=>hS.mono (hk ob);have hp:zH rs A T n x y=sP rs A T n.g.toNat x:=by unfold zH; rw [he]; simp
 rw [hp];have hxy:=ho;obtain⟨h1,h2⟩:=ho;rw [he] at h1 h2;have yc:¬ nx=kc:=by have:=(hu _ _ hS.c).1; simp only at this; omega
 rw [Nd.row];rw [h1 (by decide)];obtain⟨g,hg,hi⟩:=hn.gr (.inl he);rw [hi,Int.toNat_natCast];refine xY.xR mixed Tryz.func156 bS5 (by simp) fun hf=>?_;simp only [simprocAttr,-ZA,↓zU,↓zD,zV,zT,zW,yc]
 (repeat refine sd ?_)
 refine .go (aLh ok (hS1 _) hg) ?_;simp only [simprocAttr,-ZA,↓zU,↓zD,zV,zT,zW];exact .gone hu (hk _) (by simp only [vw]; exact⟨trivial,trivial⟩)
theorem bWb {nx kc ks:Nat} {km:Nat->Nat} {xZ:List (Nat × Ob)} {rs:List xD} {A F T:Nat} {n:Nd} {x y:Tab} {xd yd:D} (ok:OkR rs A F T) (hS:mW rs A F T kc ks km xZ) (ho:aSk n rs.length T x y xd yd) (hn:pH n A) (he:n.op=12) :
  xY Tryz.prog 158 [.ref kc 6 0 0,.agg n.row,xd,yd] ⟨nx,xZ⟩ (.sl 1 (zM rs.length T (zH rs A T n x y))) ⟨nx,xZ⟩:=by
 refine xY.wW ⟨_,Tryz.func158,by kernel_rfl,by kernel_rfl⟩ fun hu=>xY.clean ?_;have hk:=aB hu (nx+1);have hS1:=fun ob=>hS.mono (hk ob);have hp:zH rs A T n x y=aUa rs A T n.g.toNat x:=by unfold zH; rw [he]; simp
 rw [hp];have hxy:=ho;obtain⟨h1,h2⟩:=ho;rw [he] at h1 h2;have yc:¬ nx=kc:=by have:=(hu _ _ hS.c).1; simp only at this; omega
 rw [Nd.row];rw [h1 (by decide)];obtain⟨g,hg,hi⟩:=hn.gr (.inr (.inl he));rw [hi,Int.toNat_natCast];refine xY.xR mixed Tryz.func158 bS3 (by simp) fun hf=>?_;simp only [simprocAttr,-ZA,↓zU,↓zD,zV,zT,zW,yc]
 (repeat refine sd ?_)
 refine .go (bW4 ok hg (hS1 _).c) ?_;simp only [simprocAttr,-ZA,↓zU,↓zD,zV,zT,zW];exact .gone hu (hk _) (by simp only [vw]; exact⟨trivial,trivial⟩)
theorem bWa {nx kc ks:Nat} {km:Nat->Nat} {xZ:List (Nat × Ob)} {rs:List xD} {A F T:Nat} {n:Nd} {x y:Tab} {xd yd:D} (ok:OkR rs A F T) (hS:mW rs A F T kc ks km xZ) (ho:aSk n rs.length T x y xd yd) (hn:pH n A) (he:n.op=13) :
  xY Tryz.prog 160 [.ref kc 6 0 0,.agg n.row,xd,yd] ⟨nx,xZ⟩ (.sl 1 (zM rs.length T (zH rs A T n x y))) ⟨nx,xZ⟩:=by
 refine xY.wW ⟨_,Tryz.func160,by kernel_rfl,by kernel_rfl⟩ fun hu=>xY.clean ?_;have hk:=aB hu (nx+1);have hS1:=fun ob=>hS.mono (hk ob);have hp:zH rs A T n x y=pA rs A T n.g.toNat x y:=by unfold zH; rw [he]; simp
 rw [hp];have hxy:=ho;obtain⟨h1,h2⟩:=ho;rw [he] at h1 h2;have yc:¬ nx=kc:=by have:=(hu _ _ hS.c).1; simp only at this; omega
 rw [Nd.row];rw [h1 (by decide)];rw [h2 (by decide)];obtain⟨g,hg,hi⟩:=hn.gr (.inr (.inr he));rw [hi,Int.toNat_natCast];refine xY.xR mixed Tryz.func160 bS1 (by simp) fun hf=>?_;simp only [simprocAttr,-ZA,↓zU,↓zD,zV,zT,zW,yc]
 (repeat refine sd ?_)
 refine .go (aEu ok (hS1 _) hg) ?_;simp only [simprocAttr,-ZA,↓zU,↓zD,zV,zT,zW];exact .gone hu (hk _) (by simp only [vw]; exact⟨trivial,trivial⟩)
theorem bZ9 {nx kc ks:Nat} {km:Nat->Nat} {xZ:List (Nat × Ob)} {rs:List xD} {A F T:Nat} {n:Nd} {x y:Tab} {xd yd:D} (ok:OkR rs A F T) (hS:mW rs A F T kc ks km xZ) (ho:aSk n rs.length T x y xd yd) (hn:pH n A) (he:n.op=18) :
  xY Tryz.prog 162 [.ref kc 6 0 0,.agg n.row,xd,yd] ⟨nx,xZ⟩ (.sl 1 (zM rs.length T (zH rs A T n x y))) ⟨nx,xZ⟩:=by
 refine xY.wW ⟨_,Tryz.func162,by kernel_rfl,by kernel_rfl⟩ fun hu=>xY.clean ?_;have hk:=aB hu (nx+1);have hS1:=fun ob=>hS.mono (hk ob);have hp:zH rs A T n x y=shP T 1 x:=by unfold zH; rw [he]; simp
 rw [hp];have hxy:=ho;obtain⟨h1,h2⟩:=ho;rw [he] at h1 h2;have yc:¬ nx=kc:=by have:=(hu _ _ hS.c).1; simp only at this; omega
 rw [Nd.row];rw [h1 (by decide)];refine xY.xR mixed Tryz.func162 bSz (by simp) fun hf=>?_;simp only [simprocAttr,-ZA,↓zU,↓zD,zV,zT,zW,yc]
 (repeat refine sd ?_)
 refine .go (aMp ok (by decide) (hS1 _).c) ?_;simp only [simprocAttr,-ZA,↓zU,↓zD,zV,zT,zW];exact .gone hu (hk _) (by simp only [vw]; exact⟨trivial,trivial⟩)
theorem bZ8 {nx kc ks:Nat} {km:Nat->Nat} {xZ:List (Nat × Ob)} {rs:List xD} {A F T:Nat} {n:Nd} {x y:Tab} {xd yd:D} (ok:OkR rs A F T) (hS:mW rs A F T kc ks km xZ) (ho:aSk n rs.length T x y xd yd) (hn:pH n A) (he:n.op=20) :
  xY Tryz.prog 164 [.ref kc 6 0 0,.agg n.row,xd,yd] ⟨nx,xZ⟩ (.sl 1 (zM rs.length T (zH rs A T n x y))) ⟨nx,xZ⟩:=by
 refine xY.wW ⟨_,Tryz.func164,by kernel_rfl,by kernel_rfl⟩ fun hu=>xY.clean ?_;have hk:=aB hu (nx+1);have hS1:=fun ob=>hS.mono (hk ob);have hp:zH rs A T n x y=shP T (-1) x:=by unfold zH; rw [he]; simp
 rw [hp];have hxy:=ho;obtain⟨h1,h2⟩:=ho;rw [he] at h1 h2;have yc:¬ nx=kc:=by have:=(hu _ _ hS.c).1; simp only at this; omega
 rw [Nd.row];rw [h1 (by decide)];refine xY.xR mixed Tryz.func164 bSx (by simp) fun hf=>?_;simp only [simprocAttr,-ZA,↓zU,↓zD,zV,zT,zW,yc]
 (repeat refine sd ?_)
 refine .go (aMp ok (by decide) (hS1 _).c) ?_;simp only [simprocAttr,-ZA,↓zU,↓zD,zV,zT,zW];exact .gone hu (hk _) (by simp only [vw]; exact⟨trivial,trivial⟩)
theorem bZ7 {nx kc ks:Nat} {km:Nat->Nat} {xZ:List (Nat × Ob)} {rs:List xD} {A F T:Nat} {n:Nd} {x y:Tab} {xd yd:D} (ok:OkR rs A F T) (hS:mW rs A F T kc ks km xZ) (ho:aSk n rs.length T x y xd yd) (hn:pH n A) (he:n.op=19) :
  xY Tryz.prog 165 [.ref kc 6 0 0,.agg n.row,xd,yd] ⟨nx,xZ⟩ (.sl 1 (zM rs.length T (zH rs A T n x y))) ⟨nx,xZ⟩:=by
 refine xY.wW ⟨_,Tryz.func165,by kernel_rfl,by kernel_rfl⟩ fun hu=>xY.clean ?_;have hk:=aB hu (nx+1);have hS1:=fun ob=>hS.mono (hk ob);have hp:zH rs A T n x y=aIv T 1 x y:=by unfold zH; rw [he]; simp
 rw [hp];have hxy:=ho;obtain⟨h1,h2⟩:=ho;rw [he] at h1 h2;have yc:¬ nx=kc:=by have:=(hu _ _ hS.c).1; simp only at this; omega
 rw [Nd.row];rw [h1 (by decide)];rw [h2 (by decide)];refine xY.xR mixed Tryz.func165 bSw (by simp) fun hf=>?_;simp only [simprocAttr,-ZA,↓zU,↓zD,zV,zT,zW,yc]
 (repeat refine sd ?_)
 refine .go (aMj ok (hS1 _).c) ?_;simp only [simprocAttr,-ZA,↓zU,↓zD,zV,zT,zW];exact .gone hu (hk _) (by simp only [vw]; exact⟨trivial,trivial⟩)
theorem bZ6 {nx kc ks:Nat} {km:Nat->Nat} {xZ:List (Nat × Ob)} {rs:List xD} {A F T:Nat} {n:Nd} {x y:Tab} {xd yd:D} (ok:OkR rs A F T) (hS:mW rs A F T kc ks km xZ) (ho:aSk n rs.length T x y xd yd) (hn:pH n A) (he:n.op=21) :
  xY Tryz.prog 167 [.ref kc 6 0 0,.agg n.row,xd,yd] ⟨nx,xZ⟩ (.sl 1 (zM rs.length T (zH rs A T n x y))) ⟨nx,xZ⟩:=by
 refine xY.wW ⟨_,Tryz.func167,by kernel_rfl,by kernel_rfl⟩ fun hu=>xY.clean ?_;have hk:=aB hu (nx+1);have hS1:=fun ob=>hS.mono (hk ob);have hp:zH rs A T n x y=aIv T (-1) x y:=by unfold zH; rw [he]; simp
 rw [hp];have hxy:=ho;obtain⟨h1,h2⟩:=ho;rw [he] at h1 h2;have yc:¬ nx=kc:=by have:=(hu _ _ hS.c).1; simp only at this; omega
 rw [Nd.row];rw [h1 (by decide)];rw [h2 (by decide)];refine xY.xR mixed Tryz.func167 bSu (by simp) fun hf=>?_;simp only [simprocAttr,-ZA,↓zU,↓zD,zV,zT,zW,yc]
 (repeat refine sd ?_)
 refine .go (aMj ok (hS1 _).c) ?_;simp only [simprocAttr,-ZA,↓zU,↓zD,zV,zT,zW];exact .gone hu (hk _) (by simp only [vw]; exact⟨trivial,trivial⟩)
end
section
open Rs Fm Ru Te
theorem bUr {nx kx:Nat} {xZ:List (Nat × Ob)} {R T:Nat} {φ:Nat × Nat->Bool} (hR:R<=1000) (hT:T<=1000) (hx:St.look xZ kx=some ⟨1,[[.sl 1 (zM R T φ)]]⟩) {i t:Nat} (hi:i<R) (ht:t<T) :
  xY Tryz.prog 155 ([.agg [.int .i64 (i:Int),.int .i64 (t:Int)]] ++ [.ref kx 1 0 0]) ⟨nx,xZ⟩ (.bool (!φ (i,t))) ⟨nx,xZ⟩:=by
 refine xY.wW ⟨_,Tryz.func155,by kernel_rfl,by kernel_rfl⟩ fun hu=>xY.clean ?_;have hk:=(hu kx _ hx).1;simp only at hk;have y1:¬ nx=kx:=by omega
 have g1:=wJ (T:=T) (φ:=φ) hi;have g2:=uY (i:=i) (φ:=φ) ht;refine xY.xR mixed Tryz.func155 bS6 (by simp) fun hf=>?_;simp only [simprocAttr,-ZA,↓zU,↓zD,zV,zT,zW,hx,y1,zZ,g1,wZ,List.length_map,List.length_range,g2]
 (repeat refine sd ?_)
 exact .gone hu (aB hu _ _) (by simp only [vw])
theorem bWd {nx kc ks:Nat} {km:Nat->Nat} {xZ:List (Nat × Ob)} {rs:List xD} {A F T:Nat} {n:Nd} {x y:Tab} {xd yd:D} (ok:OkR rs A F T) (hS:mW rs A F T kc ks km xZ) (ho:aSk n rs.length T x y xd yd) (hn:pH n A) (he:n.op=10) :
  xY Tryz.prog 152 [.ref kc 6 0 0,.agg n.row,xd,yd] ⟨nx,xZ⟩ (.sl 1 (zM rs.length T (zH rs A T n x y))) ⟨nx,xZ⟩:=by
 obtain⟨T1,T16⟩:=ok.hT;obtain⟨R1,R64⟩:=ok.hR;refine xY.wW ⟨_,Tryz.func152,by kernel_rfl,by kernel_rfl⟩ fun hu=>xY.clean ?_;have hp:zH rs A T n x y=fun p=>!vR rs T n.i.toNat (fun q=>!x q) p:=by unfold zH; rw [he]; simp
 rw [hp];obtain⟨h1,h2⟩:=ho;rw [he] at h1;obtain⟨a,ha,hi⟩:=hn.ag (.inr he);rw [hi,Int.toNat_natCast];have bc:kc<nx:=(hu _ _ hS.c).1;rw [Nd.row,h1 (by decide)]
 have hk2:∀ (a b:Ob) k o,St.look xZ k=some o->St.look ((nx+1,a) :: (nx,b) :: xZ) k=some o:=fun a b k o hk=>by have:=(hu k o hk).1;simp only at this;rw [xX,if_neg (by omega),xX,if_neg (by omega)]; exact hk
 have hk3:∀ (a b c:Ob) k o,St.look xZ k=some o->St.look ((nx+1+1,c) :: (nx+1,a) :: (nx,b) :: xZ) k=some o:=fun a b c k o hk=>by have:=(hu k o hk).1;simp only at this;rw [xX,if_neg (by omega)]; exact hk2 _ _ _ _ hk
 refine xY.xR mixed Tryz.func152 bS9 (by simp) fun hf=>?_;have y1:¬ nx+1=nx:=by omega
 simp only [simprocAttr,-ZA,↓zU,↓zD,zV,zT,zW,y1]
 (repeat refine sd ?_)
 rw [hi]
 have hA:=lS (nx:=nx+1+1) (kc:=kc) (xZ:=(nx+1,⟨1,[[.sl 1 (zM rs.length T x)]]⟩) :: (nx,⟨6,[[.int .i64 n.op,.int .i64 (a:Int),.int .i64 n.e,.int .i64 n.g,.int .i64 n.x,.int .i64 n.y]]⟩) :: xZ) (g:=154) (caps:=[.ref (nx+1) 1 0 0]) (φ:=fun p=>!x p) ok (hk2 _ _ _ _ hS.c) (fun nx1 objs1 i t h1 h2 hi ht=> bZf (R:=rs.length) (T:=T) (by omega) (by omega) (by rw [h2 _ (by omega),xX,if_pos rfl]) hi ht)
 refine⟨_,hA,?_⟩;simp only [simprocAttr,-ZA,↓zU,↓zD,zV,zT,zW];refine⟨_,aSq ok (hS.mono (hk2 _ _)) ha,?_⟩;have y2:¬ nx+1+1=nx:=by omega
 have hB:=lS (nx:=nx+1+1+1) (kc:=kc) (xZ:=(nx+1+1,⟨1,[[.xO]]⟩) :: (nx+1,⟨1,[[.sl 1 (zM rs.length T x)]]⟩) :: (nx,⟨6,[[.int .i64 n.op,.int .i64 (a:Int),.int .i64 n.e,.int .i64 n.g,.int .i64 n.x,.int .i64 n.y]]⟩) :: xZ) (g:=154) (caps:=[.ref (nx+1) 1 0 0]) (φ:=fun p=>!x p) ok (hk3 _ _ _ _ _ hS.c) (fun nx1 objs1 i t h1 h2 hi ht=> bZf (R:=rs.length) (T:=T) (by omega) (by omega) (by rw [h2 _ (by omega),xX,if_neg (by omega),xX,if_pos rfl]) hi ht)
 simp only [simprocAttr,-ZA,↓zU,↓zD,zV,zT,zW,y1,y2]
 (repeat refine sd ?_)
 refine⟨⟨_,hB,?_⟩,?_⟩
 ·simp only [simprocAttr,-ZA,↓zU,↓zD,zV,zT,zW];refine⟨_,aSq ok (hS.mono (hk3 _ _ _)) ha,?_⟩;simp only [simprocAttr,-ZA,↓zU,↓zD,zV,zT,zW]
 have hC:=lS (nx:=nx+1+1+1) (kc:=kc) (xZ:=(nx+1+1,⟨1,[[.sl 1 (zM rs.length T (vR rs T a fun q=>!x q))]]⟩) :: (nx+1,⟨1,[[.sl 1 (zM rs.length T x)]]⟩) :: (nx,⟨6,[[.int .i64 n.op,.int .i64 (a:Int),.int .i64 n.e,.int .i64 n.g,.int .i64 n.x,.int .i64 n.y]]⟩) :: xZ) (g:=155) (caps:=[.ref (nx+1+1) 1 0 0]) (φ:=fun p=>!vR rs T a (fun q=>!x q) p) ok (hk3 _ _ _ _ _ hS.c) (fun nx1 objs1 i t h1 h2 hi ht=> bUr (R:=rs.length) (T:=T) (by omega) (by omega) (by rw [h2 _ (by omega),xX,if_pos rfl]) hi ht)
 refine .go hC ?_;simp only [simprocAttr,-ZA,↓zU,↓zD,zV,zT,zW];exact .gone hu (hk3 _ _ _) (by simp only [vw]; exact⟨trivial,trivial⟩)
end
section
open Rs Fm Ru Te
theorem sG (c:Nat):∀ {l:List (Nat × Ob)} {k:Nat} {o:Ob},St.look l k=some o->St.look (yS c l) (c+k)= some (o.shift c)
 | [],k,o,h=>by cases h
 | (j,ob) :: r,k,o,h=>by
  rw [xX] at h;show St.look ((c+j,ob.shift c) :: yS c r) _=_;rw [xX]
  by_cases e:j=k
  ·rw [if_pos e] at h; rw [if_pos (by omega)]; cases h; rfl
  ·rw [if_neg e] at h; rw [if_neg (by omega)]; exact sG c h
namespace Te
def kF (s:tZ) (f:List Nd):Int:=if chk s≠0 then chk s else if xB f≠0 then xB f else if (pT .andNot .i64 (zC f:Int) 271 != 0)= true then 10 else if sT f s.ag s.fa=false then 2 else 0
theorem oG {s:tZ} {f:List Nd} (h:kF s f=0):chk s=0/\xB f=0:=by
 unfold kF at h
 by_cases c1:chk s≠0
 ·rw [if_pos c1] at h; exact absurd h c1
 rw [if_neg c1] at h
 by_cases c2:xB f≠0
 ·rw [if_pos c2] at h; exact absurd h c2
 exact⟨by simpa using c1,by simpa using c2⟩
def aSg : List Int:=[9,10,11,12,13,18,20,19,21]
def nE : List (List D):=[[.int .i64 9,.fn 150 []],[.int .i64 10,.fn 152 []],[.int .i64 11,.fn 156 []],[.int .i64 12,.fn 158 []],[.int .i64 13,.fn 160 []],[.int .i64 18,.fn 162 []],[.int .i64 20,.fn 164 []],[.int .i64 19,.fn 165 []],[.int .i64 21,.fn 167 []]]
theorem bU (m:Nd->Nat) (b:Nat):∀ (l:List Nd) (a:Nat),(l.foldl (fun a p=>a ||| m p) a).testBit b=(a.testBit b || l.any fun p=>(m p).testBit b)
 | [],a=>by simp
 | p :: r,a=>by rw [List.foldl_cons,bU m b r,Nat.testBit_or,List.any_cons,Bool.or_assoc]
theorem aPf {m:Nd->Nat} {b:Nat} {c:List Nd} {p:Nd} (hp:p ∈ c) (h:(m p).testBit b=true):(vI m c).testBit b=true:=by have:=bU m b c 0;rw [List.any_eq_true.2 ⟨p,hp,h⟩,Bool.or_true] at this;exact this
theorem aIs {c:List Nd} {n:Nat} (h:vI tE c / 2 ^ n=0):∀ p ∈ c,(xW p.op).1.ag=true->p.i.toNat<n:=by
 intro p hp ha;refine Decidable.byContradiction fun hge=>?_;have h1:(tE p).testBit p.i.toNat=true:=by unfold tE; rw [if_pos ha]; exact Nat.testBit_two_pow_self
 have h2:=aPf hp h1
 have h3:vI tE c<2 ^ n:=by
  rcases Nat.div_eq_zero_iff.1 h with h | h
  ·have:=Nat.two_pow_pos n; omega
  ·exact h
 have h4:=Nat.testBit_lt_two_pow (Nat.lt_of_lt_of_le h3 (Nat.pow_le_pow_right (by decide) (show n<=p.i.toNat by omega)));rw [h4] at h2;cases h2
theorem aAg {s:tZ} {f:List Nd} (h:kF s f=0) {A:Nat} (hA:s.ag=A) (hA4:A<=4):∀ p ∈ xH f,pH p A/\(p.op=3->0<=p.i):=by
 unfold kF at h
 by_cases c1:chk s≠0
 ·rw [if_pos c1] at h; exact absurd h c1
 rw [if_neg c1] at h
 by_cases c2:xB f≠0
 ·rw [if_pos c2] at h; exact absurd h c2
 rw [if_neg c2] at h
 by_cases c3:(pT .andNot .i64 (zC f:Int) 271 != 0)= true
 ·rw [if_pos c3] at h; cases h
 rw [if_neg c3] at h
 by_cases c4:sT f s.ag s.fa=false
 ·rw [if_pos c4] at h; cases h
 have c4':sT f s.ag s.fa=true:=by simpa using c4
 unfold sT at c4';simp only [Bool.and_eq_true] at c4';have hb:=c4'.1.2;unfold iN at hb;simp only [Bool.or_eq_true,decide_eq_true_eq] at hb;rw [hA] at hb
 have hb2:oX f / 2 ^ A=0:=by
  rcases hb with hb | hb
  ·omega
  ·simpa using hb
 intro p hp;obtain⟨k,hk⟩:=bX (gF f _) hp
 refine⟨⟨fun ho=>?_,fun ho=>?_⟩,fun ho=>?_⟩
 ·have hag:(xW p.op).1.ag=true:=by rcases ho with e | e <;> rw [e] <;> decide
  have h1:=tB hk hag;have h2:=aIs hb2 p hp hag;exact⟨p.i.toNat,h2,by omega⟩
 ·have h1:=gV hk;exact⟨p.g.toNat,by omega,by omega⟩
 ·have hfa:(xW p.op).1.fa=true:=by rw [ho]; decide
  exact(jR hk hfa).1
theorem bG {rs:List xD} {A T:Nat} {n:Nd} {x y:Tab} (h:n.op ∉ aSg):zH rs A T n x y=aXa rs n x y:=by simp only [aSg,List.mem_cons,List.not_mem_nil,or_false,not_or] at h;obtain⟨h1,h2,h3,h4,h5,h6,h7,h8,h9⟩:=h;unfold zH;rw [if_neg h1,if_neg h2,if_neg h3,if_neg h4,if_neg h5,if_neg h6,if_neg h7,if_neg h8,if_neg h9]
structure bVc (j : Nat) (o : Int) (g : FuncId) : Prop where
 at_:nE.getD j [] = [.int .i64 o,.fn g []]
 op:aSg.getD j 0=o
 run:∀ {nx kc ks:Nat} {km:Nat->Nat} {xZ:List (Nat × Ob)} {rs:List xD} {A F T:Nat} {n:Nd} {x y:Tab} {xd yd:D},OkR rs A F T->mW rs A F T kc ks km xZ->aSk n rs.length T x y xd yd->pH n A->n.op=o ->
  xY Tryz.prog g [.ref kc 6 0 0,.agg n.row,xd,yd] ⟨nx,xZ⟩ (.sl 1 (zM rs.length T (zH rs A T n x y))) ⟨nx,xZ⟩
theorem aMr {j:Nat} (h:j<9):∃ o g,bVc j o g:=by
 have hc:j=0\/j=1\/j=2\/j=3\/j=4\/j=5\/j=6\/j=7\/j=8:=by omega
 rcases hc with rfl | rfl | rfl | rfl | rfl | rfl | rfl | rfl | rfl
 ·exact⟨_,_,rfl,rfl,bWe⟩
 ·exact⟨_,_,rfl,rfl,bWd⟩
 ·exact⟨_,_,rfl,rfl,bWc⟩
 ·exact⟨_,_,rfl,rfl,bWb⟩
 ·exact⟨_,_,rfl,rfl,bWa⟩
 ·exact⟨_,_,rfl,rfl,bZ9⟩
 ·exact⟨_,_,rfl,rfl,bZ8⟩
 ·exact⟨_,_,rfl,rfl,bZ7⟩
 ·exact⟨_,_,rfl,rfl,bZ6⟩
def aDm (rs:List xD) (A T:Nat) (n:Nd) (x y:Tab) (j:Nat):D:=if n.op ∈ aSg.take j then .sl 1 (zM rs.length T (zH rs A T n x y)) else .xO
theorem aWq {rs:List xD} {A T:Nat} {n:Nd} {x y:Tab} {j:Nat} (h:j<9):aDm rs A T n x y (j+1)= if n.op=aSg.getD j 0 then .sl 1 (zM rs.length T (zH rs A T n x y)) else aDm rs A T n x y j:=by
 unfold aDm
 have e:aSg.take (j+1)= aSg.take j ++ [aSg.getD j 0]:=by rw [List.take_add_one];congr 1;simp [List.getD,show j<aSg.length from h]
 rw [e]
 by_cases h1:n.op=aSg.getD j 0
 ·rw [if_pos h1,if_pos (by simp [h1])]
 ·rw [if_neg h1]
  by_cases h2:n.op ∈ aSg.take j
  ·rw [if_pos h2,if_pos (by simp [h2])]
  ·rw [if_neg h2,if_neg (by rw [List.mem_append,List.mem_singleton,not_or]; exact⟨h2,h1⟩)]
end Te
theorem aMq : yB Tryz.prog 104 [] (.sl 2 nE):=by
 refine xY.xR mixed Tryz.func104 bR4 (by simp) fun hf=>?_;simp only [simprocAttr,-ZA,↓zU,↓zD,zV,zT,zW]
 (repeat refine sd ?_)
 exact .same
structure Te.bV3 (A nb kc ks : Nat) (km : Nat -> Nat) : Prop where
 c:kc<nb
 s:ks<nb
 m:∀ i,i<A->km i<nb
theorem Te.mW.frame {rs:List xD} {A F T kc ks nb:Nat} {km:Nat->Nat} {xZ objs':List (Nat × Ob)} (h:mW rs A F T kc ks km xZ) (hb:bV3 A nb kc ks km) (hl:∀ k,k<nb->St.look objs' k=St.look xZ k):mW rs A F T kc ks km objs':=⟨by rw [hl _ hb.c]; exact h.c,fun a=>by rw [hl _ hb.s]; exact h.s a,fun i hi=>by rw [hl _ (hb.m i hi)]; exact h.m i hi⟩
theorem Te.mW.bZi {rs:List xD} {A F T kc ks nb nx2:Nat} {km:Nat->Nat} {xZ:List (Nat × Ob)} (h:mW rs A F T kc ks km xZ) (hb:bV3 A nb kc ks km) (hn:nb<=nx2) (ob:Ob):mW rs A F T kc ks km ((nx2,ob) :: xZ):= h.frame hb fun k hk=>by rw [xX,if_neg (by omega)]
theorem bU2 {rs:List xD} {A F T:Nat} (hz:chk ⟨A,F,T,rs⟩= 0) (ok:OkR rs A F T) (σ:St):∃ nx' objs',xY Tryz.prog 102 [sD A F T rs] σ (.ref (σ.nx+1) 6 0 0) ⟨nx',objs'⟩/\ bV3 A nx' (σ.nx+1) (σ.nx+2) (fun i=>σ.nx+(3+i))/\ mW rs A F T (σ.nx+1) (σ.nx+2) (fun i=>σ.nx+(3+i)) objs':=by
 have h:=xY.own (σ:=σ) (aPw hz ok) rfl;refine⟨_,_,h,⟨by omega,by omega,fun i hi=>by omega⟩,?_⟩;have hS:=mW.start (rs:=rs) (A:=A) (F:=F) (T:=T);have hl:∀ {k:Nat} {o:Ob},St.look (cN rs A F T A) k=some o->St.look (yS σ.nx (cN rs A F T A)++ σ.xZ) (σ.nx+k)= some (o.shift σ.nx):=fun h=>by rw [qH,sG _ h]; rfl
 refine⟨?_,fun ha=>?_,fun i hi=>?_⟩
 ·rw [hl hS.c];simp only [Ob.shift,List.map_cons,List.map_nil,D.wV,D.shift];congr 8;generalize List.range A=l;cases l <;> simp [xA,D.shift]
 ·rw [hl (hS.s ha)];simp only [Ob.shift,List.map_map];rfl
 ·rw [hl (hS.m i hi)];simp only [Ob.shift];congr 2;unfold qS mG;simp only [List.map_map];rfl
end
section
open Rs Fm Ru Te
namespace Te
def aQ8 (rs:List xD) (A T:Nat) (f:List Nd):Tab:=(wY rs A T (xH f) (xH f).length).getD ((xH f).length-1) fun _=>false
def bZ (s:tZ) (f:List Nd):List (List D):=if kF s f≠0 then [] else zM s.rs.length s.ln.toNat (aQ8 s.rs s.ag.toNat s.ln.toNat f)
def sV (rs:List xD) (A T:Nat) (c:List Nd) (k:Nat):List (List D):=(wY rs A T c k).map fun x=>[.sl 1 (zM rs.length T x)]
theorem lC (rs:List xD) (A T:Nat) (c:List Nd) (k:Nat):(sV rs A T c k).length=k:=by simp [sV,rE]
theorem fJ {rs:List xD} {A T:Nat} {c:List Nd} {k i:Nat} (h:i<k):(sV rs A T c k).getD i [] = [.sl 1 (zM rs.length T ((wY rs A T c k).getD i fun _=>false))]:=by have:=rE rs A T c k;simp [sV,List.getD,this,h]
theorem aPd (rs:List xD) (A T:Nat) (c:List Nd) (k:Nat):sV rs A T c (k+1)= sV rs A T c k ++ [[.sl 1 (zM rs.length T (zH rs A T (c.getD k nd0) ((wY rs A T c k).getD (c.getD k nd0).x.toNat fun _=>false) ((wY rs A T c k).getD (c.getD k nd0).y.toNat fun _=>false)))]]:=by simp [sV,wY]
theorem aZw {R T:Nat} (h:1<=R) (φ:Tab):∃ e r,zM R T φ=e :: r:=by
 cases hh:zM R T φ with
 | nil=>have:=zZ R T φ; rw [hh] at this; simp at this; omega
 | cons e r=>exact⟨e,r,rfl⟩
theorem aWr {rs:List xD} {A T:Nat} {n:Nd} {x y:Tab}:aDm rs A T n x y 9=if n.op ∈ aSg then .sl 1 (zM rs.length T (zH rs A T n x y)) else .xO:=rfl
end Te
theorem aTc (s:tZ) (f:List Nd):yB Tryz.prog 44 [s.d,.sl 6 (ndR f)] (.tup [.sl 1 (bZ s f),.int .i64 (kF s f)]):=by
 have hD:s.d = .agg [.int .i64 s.ag,.int .i64 s.fa,.int .i64 s.ln,.sl 2 (vF s.rs)]:=rfl;have hC:=aXq s;have hF:=oB f;have hG:=aTd f;have hT:=aMc f s.ag s.fa;have hE:kF s f=if chk s≠0 then chk s else if xB f≠0 then xB f else if (pT .andNot .i64 (zC f:Int) 271 != 0)= true then 10 else if sT f s.ag s.fa=false then 2 else 0:=rfl;have hR0:kF s f≠0->bZ s f = []:=fun h=>if_pos h;have hin:=fun A=>aAg (s:=s) (f:=f) (A:=A);rw [hD] at hC ⊢;by_cases c1:chk s=0
 case neg=>
  have e1:(chk s != 0)= true:=by simpa using c1
  rw [if_pos c1] at hE;rw [hR0 (by rw [hE]; exact c1),hE];refine xY.xR mixed Tryz.func44 k44 (by simp) fun hf=>?_;simp only [simprocAttr,-ZA,↓zU,↓zD,zV,zT,zW]
  (repeat refine sd ?_)
  refine .go (cq hC) ?_;simp only [simprocAttr,-ZA,↓zU,↓zD,zV,zT,zW,e1];exact .drop (by simp) (by simp [vw,vwL])
 rw [if_neg (by simpa using c1)] at hE;by_cases c2:xB f=0
 case neg=>
  have e2:(xB f != 0)= true:=by simpa using c2
  rw [if_pos c2] at hE;rw [hR0 (by rw [hE]; exact c2),hE];rw [c1] at hC;refine xY.xR mixed Tryz.func44 k44 (by simp) fun hf=>?_;simp only [simprocAttr,-ZA,↓zU,↓zD,zV,zT,zW]
  (repeat refine sd ?_)
  refine .go (cq hC) ?_;simp only [simprocAttr,-ZA,↓zU,↓zD,zV,zT,zW];refine .go (cq hF) ?_;simp only [simprocAttr,-ZA,↓zU,↓zD,zV,zT,zW,e2];exact .drop (by simp) (by simp [vw,vwL])
 rw [if_neg (by simpa using c2)] at hE;rw [c1] at hC;rw [c2] at hF
 by_cases c3:(pT .andNot .i64 (zC f:Int) 271 != 0)= true
 ·rw [if_pos c3] at hE;rw [hR0 (by rw [hE]; decide),hE];refine xY.xR mixed Tryz.func44 k44 (by simp) fun hf=>?_;simp only [simprocAttr,-ZA,↓zU,↓zD,zV,zT,zW]
  (repeat refine sd ?_)
  refine .go (cq hC) ?_;simp only [simprocAttr,-ZA,↓zU,↓zD,zV,zT,zW];refine .go (cq hF) ?_;simp only [simprocAttr,-ZA,↓zU,↓zD,zV,zT,zW];refine .go (cq hG) ?_;simp only [simprocAttr,-ZA,↓zU,↓zD,zV,zT,zW,c3];exact .drop (by simp) (by simp [vw,vwL])
 rw [if_neg c3] at hE;have c3':(pT .andNot .i64 (zC f:Int) 271 != 0)= false:=by simpa using c3
 by_cases c4:sT f s.ag s.fa=false
 ·rw [if_pos c4] at hE;rw [hR0 (by rw [hE]; decide),hE];rw [c4] at hT;refine xY.xR mixed Tryz.func44 k44 (by simp) fun hf=>?_;simp only [simprocAttr,-ZA,↓zU,↓zD,zV,zT,zW]
  (repeat refine sd ?_)
  refine .go (cq hC) ?_;simp only [simprocAttr,-ZA,↓zU,↓zD,zV,zT,zW];refine .go (cq hF) ?_;simp only [simprocAttr,-ZA,↓zU,↓zD,zV,zT,zW];refine .go (cq hG) ?_;simp only [simprocAttr,-ZA,↓zU,↓zD,zV,zT,zW,c3']
  (repeat refine sd ?_)
  refine .go (cq hT) ?_;simp only [simprocAttr,-ZA,↓zU,↓zD,zV,zT,zW];exact .drop (by simp) (by simp [vw,vwL])
 rw [if_neg c4] at hE;rw [show sT f s.ag s.fa=true by simpa using c4] at hT;rw [show bZ s f=zM s.rs.length s.ln.toNat (aQ8 s.rs s.ag.toNat s.ln.toNat f) from if_neg (by rw [hE]; simp),hE];obtain⟨A,F,T,rs,rfl,ok⟩:=aXn c1;obtain⟨T1,T16⟩:=ok.hT;obtain⟨R1,R64⟩:=ok.hR;have hin:=hin A hE rfl ok.hA;have hcv:=iS f;have hc0:=uC c2;have hc2:(xH f).length<=200:=fY f _;have hP:=dX f;have hlast:aQ8 rs A T f=(wY rs A T (xH f) (xH f).length).getD ((xH f).length-1) fun _=>false:=rfl;simp only [Int.toNat_natCast] at *;rw [hlast];generalize xH f=c at hin hcv hc0 hc2 hP;refine xY.xR mixed Tryz.func44 k44 (by simp) fun hf=>?_;simp only [simprocAttr,-ZA,↓zU,↓zD,zV,zT,zW]
 (repeat refine sd ?_)
 refine .go (cq hC) ?_;simp only [simprocAttr,-ZA,↓zU,↓zD,zV,zT,zW];refine .go (cq hF) ?_;simp only [simprocAttr,-ZA,↓zU,↓zD,zV,zT,zW];refine .go (cq hG) ?_;simp only [simprocAttr,-ZA,↓zU,↓zD,zV,zT,zW,c3']
 (repeat refine sd ?_)
 refine .go (cq hT) ?_;simp only [simprocAttr,-ZA,↓zU,↓zD,zV,zT,zW];obtain⟨nb,objs0,hN,hB,hS⟩:=bU2 c1 ok ⟨1,[(0,⟨4,[[.int .i64 (A:Int),.int .i64 (F:Int),.int .i64 (T:Int),.sl 2 (vF rs)]]⟩)]⟩;unfold sD at hN;simp only at hN hS hB;generalize (1+1:Nat)= kc at hN hS hB;generalize (1+2:Nat)= ks at hS hB;generalize (fun i=>1+(3+i))= km at hS hB
 (repeat refine sd ?_)
 refine .go hN ?_;simp only [simprocAttr,-ZA,↓zU,↓zD,zV,zT,zW];refine .go (cr hP) ?_;simp only [simprocAttr,-ZA,↓zU,↓zD,zV,zT,zW,xI];have bc:=hB.c
 refine xQ (fun b:Nat × Nat × Nat × List (Nat × Ob)=>[(43,.int .i64 b.1),(42,.int .i64 c.length),(41,.sl 6 (ndR c)),(9,xA b.2.1 1 (sV rs A T c b.1)),(8,.ref kc 6 0 0)]) (fun b=>⟨b.2.2.1,b.2.2.2⟩)
  (fun b=>b.1<=c.length/\nb<=b.2.2.1/\(∀ k,k<nb->St.look b.2.2.2 k=St.look objs0 k)/\ (0<b.1->nb<=b.2.1/\b.2.1<b.2.2.1/\St.look b.2.2.2 b.2.1=some ⟨1,sV rs A T c b.1⟩)) (fun b=>c.length-b.1)
  (0,nb,nb,objs0) ⟨Nat.zero_le _,Nat.le_refl _,fun _ _=>rfl,fun h=>absurd h (Nat.lt_irrefl _)⟩ ?_ ?_
 ·(refine xM.same ?_; simp [xP,Fr.get,sV,wY,xA])
 rintro ⟨k,kv,nx1,objs1⟩ ⟨hk,hn,hold,hval⟩;simp only at hk hn hold hval ⊢;refine xN mixed ?_;by_cases hkl:k<c.length
 case neg=>
  have hd:¬ ((k:Int)<(c.length:Int)):=by omega
  obtain rfl:k=c.length:=by omega
  obtain⟨v1,v2,v3⟩:=hval hc0;have hvl:=lC rs A T c c.length;have hne:sV rs A T c c.length ≠ []:=fun e=>by rw [e] at hvl; simp at hvl; omega
  rw [qG hne,hvl];have hw:IntKind.i64.wrap ((c.length:Int)-1)= ((c.length-1:Nat):Int):=by rw [wrap_i64 (by omega)]; omega
  have hg:=fJ (rs:=rs) (A:=A) (T:=T) (c:=c) (k:=c.length) (i:=c.length-1) (by omega);simp only [simprocAttr,-ZA,↓zU,↓zD,zV,zT,zW,hd,hw,v3,hvl,hg]
  (repeat refine sd ?_)
  exact .drop (by simp) (by simp [vw,vwL])
 have hd:((k:Int)<(c.length:Int)):=by omega
 have hng:=pC c hkl;have hnv:=hcv k hkl;have hpm:=xS (d:=nd0) hkl;obtain⟨hni,hn3⟩:=hin _ hpm;have hsucc:=aPd rs A T c k;obtain⟨ox,oy,ox0,oy0⟩:=vY hnv;generalize c.getD k nd0=n at hng hnv hni hn3 hsucc ox oy ox0 oy0;have hnr:n.row = [.int .i64 n.op,.int .i64 n.i,.int .i64 n.e,.int .i64 n.g,.int .i64 n.x,.int .i64 n.y]:=rfl;rw [hnr] at hng
 rcases Nat.eq_zero_or_pos k with hk0 | hkp
 ·subst hk0;have hopd:aSk n rs.length T ((wY rs A T c 0).getD n.x.toNat fun _=>false) ((wY rs A T c 0).getD n.y.toNat fun _=>false) .xO .xO:=⟨fun h=>absurd (ox h).2 (Nat.not_lt_zero _),fun h=>absurd (oy h).2 (Nat.not_lt_zero _)⟩;rw [show xA kv 1 (sV rs A T c 0)= .xO from rfl];have hd0:((0:Int)<(c.length:Int)):=by omega
  simp only [simprocAttr,-ZA,↓zU,↓zD,zV,zT,zW,hd0,xI,hng]
  (repeat refine sd ?_)
  refine .go (cq aMq) ?_;simp only [simprocAttr,-ZA,↓zU,↓zD,zV,zT,zW]
  (repeat refine sd ?_)
  rw [show nE.length=9 from rfl]
  refine zN (fun b:Nat × Nat × List (Nat × Ob)=>[(62,.int .i64 b.1),(61,.int .i64 9),(60,.sl 2 nE),(14,aDm rs A T n ((wY rs A T c 0).getD n.x.toNat fun _=>false) ((wY rs A T c 0).getD n.y.toNat fun _=>false) b.1),(43,.int .i64 (0:Nat)),(42,.int .i64 c.length),(41,.sl 6 (ndR c)),(13,.xO),(12,.xO),(11,.ref nx1 6 0 0),(9,.xO),(8,.ref kc 6 0 0)]) (fun b=>⟨b.2.1,b.2.2⟩)
   (fun b=>b.1<=9/\nx1<b.2.1/\(∀ q,q<nx1->St.look b.2.2 q=St.look objs1 q)/\ St.look b.2.2 nx1=some ⟨6,[[.int .i64 n.op,.int .i64 n.i,.int .i64 n.e,.int .i64 n.g,.int .i64 n.x,.int .i64 n.y]]⟩) (fun b=>9-b.1)
   (0,nx1+1,(nx1,⟨6,[[.int .i64 n.op,.int .i64 n.i,.int .i64 n.e,.int .i64 n.g,.int .i64 n.x,.int .i64 n.y]]⟩) :: objs1) ⟨Nat.zero_le _,Nat.lt_succ_self _,fun q hq=>?_,?_⟩ ?_ ?_
  ·simp only; rw [xX,if_neg (by omega)]
  ·simp only; rw [xX,if_pos rfl]
  ·(refine xM.same ?_; simp [xP,Fr.get,aDm])
  rintro ⟨j,nx2,objs2⟩ ⟨hj,hn2,hold2,hnode⟩;simp only at hj hn2 hold2 hnode ⊢;have hS2:mW rs A F T kc ks km objs2:=hS.frame hB fun q hq=>by rw [hold2 q (by omega),hold q hq]
  refine xN mixed ?_
  by_cases hj9:j<9
  ·have hdj:((j:Int)<9):=by omega
   obtain⟨o,g,hat,hop,hrun⟩:=aMr hj9;have hgs:=aWq (rs:=rs) (A:=A) (T:=T) (n:=n) (x:=((wY rs A T c 0).getD n.x.toNat fun _=>false)) (y:=((wY rs A T c 0).getD n.y.toNat fun _=>false)) hj9;rw [hop] at hgs;have z3:¬ nx2=nx1:=by omega
   by_cases ho:n.op=o
   ·have hc:=hrun (nx:=nx2+1) (xZ:=(nx2,⟨2,[[.int .i64 o,.fn g []]]⟩) :: objs2) ok (hS2.bZi (nx2:=nx2) (nb:=nb) hB (by omega) _) hopd hni ho;rw [hnr] at hc;rw [if_pos ho] at hgs;have e1:(o==n.op)= true:=by rw [ho]; exact beq_self_eq_true _
    simp only [simprocAttr,-ZA,↓zU,↓zD,zV,zT,zW,hdj,hat,show nE.length=9 from rfl,hnode,z3,e1]
    (repeat refine sd ?_)
    refine .go hc ?_;simp only [simprocAttr,-ZA,↓zU,↓zD,zV,zT,zW];refine⟨(j+1,nx2+1,?zoA0),⟨by show j+1<=9; omega,by show nx1<nx2+1; omega,fun q hq=>?_,?_⟩,?zwA0,by show 9-(j+1)<9-j; omega⟩
    case zwA0=>
     (refine xM.same ?_; simp only [xP,Fr.get,simprocAttr,-ZA,zS,hgs])
     exact yH (by omega)
    ·simp only; rw [xX,if_neg (by omega)]; exact hold2 q hq
    ·simp only; rw [xX,if_neg (by omega)]; exact hnode
   ·rw [if_neg ho] at hgs;have e1:(o==n.op)= false:=by rw [beq_eq_false_iff_ne]; exact fun e=>ho e.symm
    simp only [simprocAttr,-ZA,↓zU,↓zD,zV,zT,zW,hdj,hat,show nE.length=9 from rfl,hnode,z3,e1]
    (repeat refine sd ?_)
    refine⟨(j+1,nx2+1,?zoB0),⟨by show j+1<=9; omega,by show nx1<nx2+1; omega,fun q hq=>?_,?_⟩,?zwB0,by show 9-(j+1)<9-j; omega⟩
    case zwB0=>
     (refine xM.same ?_; simp only [xP,Fr.get,simprocAttr,-ZA,zS,hgs])
     exact yH (by omega)
    ·simp only; rw [xX,if_neg (by omega)]; exact hold2 q hq
    ·simp only; rw [xX,if_neg (by omega)]; exact hnode
  have hdj:¬ ((j:Int)<9):=by omega
  obtain rfl:j=9:=by omega
  rw [aWr];simp only [simprocAttr,-ZA,↓zU,↓zD,zV,zT,zW,hdj];refine .zI ?_
  have hend:∀ (fr:Fr),xP fr [(43,.int .i64 ((0+1:Nat):Int)),(42,.int .i64 c.length),(41,.sl 6 (ndR c)),(9,.osl nx2 1 (0+1)),(8,.ref kc 6 0 0)]->∃ b:Nat × Nat × Nat × List (Nat × Ob),
    (b.1<=c.length/\nb<=b.2.2.1/\(∀ k,k<nb->St.look b.2.2.2 k=St.look objs0 k)/\ (0<b.1->nb<=b.2.1/\b.2.1<b.2.2.1/\St.look b.2.2.2 b.2.1=some ⟨1,sV rs A T c b.1⟩))/\
    xM ⟨Tryz.prog,97,0,[],none⟩ fr ⟨nx2+1,(nx2,⟨1,sV rs A T c (0+1)⟩) :: objs2⟩ [(43,.int .i64 b.1),(42,.int .i64 c.length),(41,.sl 6 (ndR c)),(9,xA b.2.1 1 (sV rs A T c b.1)),(8,.ref kc 6 0 0)] ⟨b.2.2.1,b.2.2.2⟩/\ c.length-b.1<c.length-0:=by
   intro fr hfr;have hvl':=lC rs A T c (0+1);have hne':sV rs A T c (0+1)≠ []:=fun e=>by rw [e] at hvl'; simp at hvl'
   refine⟨(0+1,nx2,nx2+1,_),⟨by show 0+1<=c.length; omega,by show nb<=nx2+1; omega,fun q hq=>?_,fun _=>⟨by show nb<=nx2; omega,Nat.lt_succ_self _,?_⟩⟩,xM.same ?_,by show c.length-(0+1)<c.length-0; omega⟩
   ·simp only; rw [xX,if_neg (by omega)]; rw [hold2 q (by omega),hold q hq]
   ·simp only; rw [xX,if_pos rfl]
   ·simp only;rw [qG hne',hvl']; exact hfr
  by_cases hop:n.op ∈ aSg
  ·rw [if_pos hop];have hsx:=hsucc;generalize zH rs A T n ((wY rs A T c 0).getD n.x.toNat fun _=>false) ((wY rs A T c 0).getD n.y.toNat fun _=>false)= φ at hsx;obtain⟨e,r,her⟩:=aZw R1 φ;have hp:((D.sl 1 (e :: r)).xL)= true:=rfl;rw [her] at hsx ⊢;simp only [simprocAttr,-ZA,↓zU,↓zD,zV,zT,zW,hp ]
   (repeat refine sd ?_)
   rw [show sV rs A T c 0 = [] from rfl,List.nil_append] at hsx;rw [<- hsx];refine hend _ ?_;simp only [xP,Fr.get,↓reduceIte,reduceIte,Nat.reduceEqDiff,reduceCtorEq,D.int.injEq,D.osl.injEq,and_true,true_and,and_self]; exact yH (k:=0) (by omega)
  ·rw [if_neg hop];have hc:=aCe (nx:=nx2) (xZ:=objs2) ok hopd hn3 .xO .xO hS2.c;rw [hnr,<- bG hop] at hc;have hsx:=hsucc;generalize zH rs A T n ((wY rs A T c 0).getD n.x.toNat fun _=>false) ((wY rs A T c 0).getD n.y.toNat fun _=>false)= φ at hsx hc;simp only [simprocAttr,-ZA,↓zU,↓zD,zV,zT,zW,hnode]
   (repeat refine sd ?_)
   refine .go hc ?_;simp only [simprocAttr,-ZA,↓zU,↓zD,zV,zT,zW,hnode]
   (repeat refine sd ?_)
   rw [show sV rs A T c 0 = [] from rfl,List.nil_append] at hsx;rw [<- hsx];refine hend _ ?_;simp only [xP,Fr.get,↓reduceIte,reduceIte,Nat.reduceEqDiff,reduceCtorEq,D.int.injEq,D.osl.injEq,and_true,true_and,and_self]; exact yH (k:=0) (by omega)
 ·have hdp:((0:Int)<(k:Int)):=by omega
  obtain⟨v1,v2,v3⟩:=hval hkp;have hvl:=lC rs A T c k;have hne:sV rs A T c k ≠ []:=fun e=>by rw [e] at hvl; simp at hvl; omega
  rw [qG hne,hvl]
  have hxk:0<=n.x/\n.x.toNat<k:=by
   cases hu:(xW n.op).1.x with
   | true=>exact ox hu
   | false=>rw [ox0 hu]; exact⟨Int.le_refl _,hkp⟩
  have hyk:0<=n.y/\n.y.toNat<k:=by
   cases hu:(xW n.op).1.y with
   | true=>exact oy hu
   | false=>rw [oy0 hu]; exact⟨Int.le_refl _,hkp⟩
  have hgx:=fJ (rs:=rs) (A:=A) (T:=T) (c:=c) hxk.2;have hgy:=fJ (rs:=rs) (A:=A) (T:=T) (c:=c) hyk.2;have hopd:aSk n rs.length T ((wY rs A T c k).getD n.x.toNat fun _=>false) ((wY rs A T c k).getD n.y.toNat fun _=>false) (.sl 1 (zM rs.length T ((wY rs A T c k).getD n.x.toNat fun _=>false))) (.sl 1 (zM rs.length T ((wY rs A T c k).getD n.y.toNat fun _=>false))):=⟨fun _=>rfl,fun _=>rfl⟩;have z1:¬ nx1=kv:=by omega
  simp only [simprocAttr,-ZA,↓zU,↓zD,zV,zT,zW,hd,xI,hng,hdp,v3,hvl,hgx,hgy,z1]
  (repeat refine sd ?_)
  refine .go (cq aMq) ?_;simp only [simprocAttr,-ZA,↓zU,↓zD,zV,zT,zW]
  (repeat refine sd ?_)
  rw [show nE.length=9 from rfl]
  refine zN (fun b:Nat × Nat × List (Nat × Ob)=>[(62,.int .i64 b.1),(61,.int .i64 9),(60,.sl 2 nE),(14,aDm rs A T n ((wY rs A T c k).getD n.x.toNat fun _=>false) ((wY rs A T c k).getD n.y.toNat fun _=>false) b.1),(43,.int .i64 (k:Nat)),(42,.int .i64 c.length),(41,.sl 6 (ndR c)),(13,(.sl 1 (zM rs.length T ((wY rs A T c k).getD n.y.toNat fun _=>false)))),(12,(.sl 1 (zM rs.length T ((wY rs A T c k).getD n.x.toNat fun _=>false)))),(11,.ref nx1 6 0 0),(9,.osl kv 1 k),(8,.ref kc 6 0 0)]) (fun b=>⟨b.2.1,b.2.2⟩)
   (fun b=>b.1<=9/\nx1<b.2.1/\(∀ q,q<nx1->St.look b.2.2 q=St.look objs1 q)/\ St.look b.2.2 nx1=some ⟨6,[[.int .i64 n.op,.int .i64 n.i,.int .i64 n.e,.int .i64 n.g,.int .i64 n.x,.int .i64 n.y]]⟩) (fun b=>9-b.1)
   (0,nx1+1,(nx1,⟨6,[[.int .i64 n.op,.int .i64 n.i,.int .i64 n.e,.int .i64 n.g,.int .i64 n.x,.int .i64 n.y]]⟩) :: objs1) ⟨Nat.zero_le _,Nat.lt_succ_self _,fun q hq=>?_,?_⟩ ?_ ?_
  ·simp only; rw [xX,if_neg (by omega)]
  ·simp only; rw [xX,if_pos rfl]
  ·(refine xM.same ?_; simp [xP,Fr.get,aDm])
  rintro ⟨j,nx2,objs2⟩ ⟨hj,hn2,hold2,hnode⟩;simp only at hj hn2 hold2 hnode ⊢;have hS2:mW rs A F T kc ks km objs2:=hS.frame hB fun q hq=>by rw [hold2 q (by omega),hold q hq]
  refine xN mixed ?_
  by_cases hj9:j<9
  ·have hdj:((j:Int)<9):=by omega
   obtain⟨o,g,hat,hop,hrun⟩:=aMr hj9;have hgs:=aWq (rs:=rs) (A:=A) (T:=T) (n:=n) (x:=((wY rs A T c k).getD n.x.toNat fun _=>false)) (y:=((wY rs A T c k).getD n.y.toNat fun _=>false)) hj9;rw [hop] at hgs;have z3:¬ nx2=nx1:=by omega
   by_cases ho:n.op=o
   ·have hc:=hrun (nx:=nx2+1) (xZ:=(nx2,⟨2,[[.int .i64 o,.fn g []]]⟩) :: objs2) ok (hS2.bZi (nx2:=nx2) (nb:=nb) hB (by omega) _) hopd hni ho;rw [hnr] at hc;rw [if_pos ho] at hgs;have e1:(o==n.op)= true:=by rw [ho]; exact beq_self_eq_true _
    simp only [simprocAttr,-ZA,↓zU,↓zD,zV,zT,zW,hdj,hat,show nE.length=9 from rfl,hnode,z3,e1]
    (repeat refine sd ?_)
    refine .go hc ?_;simp only [simprocAttr,-ZA,↓zU,↓zD,zV,zT,zW];refine⟨(j+1,nx2+1,?zoAk),⟨by show j+1<=9; omega,by show nx1<nx2+1; omega,fun q hq=>?_,?_⟩,?zwAk,by show 9-(j+1)<9-j; omega⟩
    case zwAk=>
     (refine xM.same ?_; simp only [xP,Fr.get,simprocAttr,-ZA,zS,hgs])
     exact yH (by omega)
    ·simp only; rw [xX,if_neg (by omega)]; exact hold2 q hq
    ·simp only; rw [xX,if_neg (by omega)]; exact hnode
   ·rw [if_neg ho] at hgs;have e1:(o==n.op)= false:=by rw [beq_eq_false_iff_ne]; exact fun e=>ho e.symm
    simp only [simprocAttr,-ZA,↓zU,↓zD,zV,zT,zW,hdj,hat,show nE.length=9 from rfl,hnode,z3,e1]
    (repeat refine sd ?_)
    refine⟨(j+1,nx2+1,?zoBk),⟨by show j+1<=9; omega,by show nx1<nx2+1; omega,fun q hq=>?_,?_⟩,?zwBk,by show 9-(j+1)<9-j; omega⟩
    case zwBk=>
     (refine xM.same ?_; simp only [xP,Fr.get,simprocAttr,-ZA,zS,hgs])
     exact yH (by omega)
    ·simp only; rw [xX,if_neg (by omega)]; exact hold2 q hq
    ·simp only; rw [xX,if_neg (by omega)]; exact hnode
  have hdj:¬ ((j:Int)<9):=by omega
  obtain rfl:j=9:=by omega
  rw [aWr];simp only [simprocAttr,-ZA,↓zU,↓zD,zV,zT,zW,hdj];refine .zI ?_
  have hend:∀ (fr:Fr),xP fr [(43,.int .i64 ((k+1:Nat):Int)),(42,.int .i64 c.length),(41,.sl 6 (ndR c)),(9,.osl nx2 1 (k+1)),(8,.ref kc 6 0 0)]->∃ b:Nat × Nat × Nat × List (Nat × Ob),
    (b.1<=c.length/\nb<=b.2.2.1/\(∀ k,k<nb->St.look b.2.2.2 k=St.look objs0 k)/\ (0<b.1->nb<=b.2.1/\b.2.1<b.2.2.1/\St.look b.2.2.2 b.2.1=some ⟨1,sV rs A T c b.1⟩))/\
    xM ⟨Tryz.prog,97,0,[],none⟩ fr ⟨nx2+1,(nx2,⟨1,sV rs A T c (k+1)⟩) :: yF objs2 kv⟩ [(43,.int .i64 b.1),(42,.int .i64 c.length),(41,.sl 6 (ndR c)),(9,xA b.2.1 1 (sV rs A T c b.1)),(8,.ref kc 6 0 0)] ⟨b.2.2.1,b.2.2.2⟩/\ c.length-b.1<c.length-k:=by
   intro fr hfr;have hvl':=lC rs A T c (k+1);have hne':sV rs A T c (k+1)≠ []:=fun e=>by rw [e] at hvl'; simp at hvl'
   refine⟨(k+1,nx2,nx2+1,_),⟨by show k+1<=c.length; omega,by show nb<=nx2+1; omega,fun q hq=>?_,fun _=>⟨by show nb<=nx2; omega,Nat.lt_succ_self _,?_⟩⟩,xM.same ?_,by show c.length-(k+1)<c.length-k; omega⟩
   ·simp only; rw [xX,if_neg (by omega)]; rw [xG,if_neg (by omega),hold2 q (by omega),hold q hq]
   ·simp only; rw [xX,if_pos rfl]
   ·simp only;rw [qG hne',hvl']; exact hfr
  by_cases hop:n.op ∈ aSg
  ·rw [if_pos hop];have hsx:=hsucc;generalize zH rs A T n ((wY rs A T c k).getD n.x.toNat fun _=>false) ((wY rs A T c k).getD n.y.toNat fun _=>false)= φ at hsx;obtain⟨e,r,her⟩:=aZw R1 φ;have hp:((D.sl 1 (e :: r)).xL)= true:=rfl;rw [her] at hsx ⊢;simp only [simprocAttr,-ZA,↓zU,↓zD,zV,zT,zW,hp ,(hold2 kv v2).trans v3,hvl]
   (repeat refine sd ?_)
   rw [List.take_of_length_le (by omega),<- hsx];refine hend _ ?_;simp only [xP,Fr.get,↓reduceIte,reduceIte,Nat.reduceEqDiff,reduceCtorEq,D.int.injEq,D.osl.injEq,and_true,true_and,and_self]; exact yH (k:=k) (by omega)
  ·rw [if_neg hop];have hc:=aCe (nx:=nx2) (xZ:=objs2) ok hopd hn3 (.sl _ _) (.sl _ _) hS2.c;rw [hnr,<- bG hop] at hc;have hsx:=hsucc;generalize zH rs A T n ((wY rs A T c k).getD n.x.toNat fun _=>false) ((wY rs A T c k).getD n.y.toNat fun _=>false)= φ at hsx hc;simp only [simprocAttr,-ZA,↓zU,↓zD,zV,zT,zW,hnode]
   (repeat refine sd ?_)
   refine .go hc ?_;simp only [simprocAttr,-ZA,↓zU,↓zD,zV,zT,zW,(hold2 kv v2).trans v3,hvl]
   (repeat refine sd ?_)
   rw [List.take_of_length_le (by omega),<- hsx];refine hend _ ?_;simp only [xP,Fr.get,↓reduceIte,reduceIte,Nat.reduceEqDiff,reduceCtorEq,D.int.injEq,D.osl.injEq,and_true,true_and,and_self]; exact yH (k:=k) (by omega)
end
end Go.Pd
