/- Part QA. -/
import Derived.Test.YtjklmijiccabfaaGreatRJB
import Derived.Test.YtjklmijiccabfaaGreatRGQ
set_option linter.unusedSectionVars false
set_option linter.unusedVariables false
set_option linter.unusedSimpArgs false
set_option linter.defProp false
set_option maxRecDepth 20000
set_option maxHeartbeats 1000000
namespace Go.Pd
open Go Go.Proofs
open Int renaming reduceToNat -> ZA, reduceLT -> ZB, reduceLE -> ZC, reduceBEq -> ZD, reduceBNe -> ZE
open Nat renaming reduceEqDiff -> ZF, reduceAdd -> ZG, reduceBEq -> ZH, reduceLT -> ZI, reduceLeDiff -> ZJ, reduceMul -> ZK
section
open Rs Fm Ru Te
namespace Te
structure NodeIn (n : Nd) (A : Nat) : Prop where
 ag:n.op=9\/n.op=10->∃ a:Nat,a<A/\n.i=a
 gr:n.op=11\/n.op=12\/n.op=13->∃ g:Nat,g<2 ^ 60/\n.g=g
theorem keep1 {nx:Nat} {objs:List (Nat × Ob)} (hu:UnderSt ⟨nx,objs⟩) (nx':Nat) (ob:Ob):∀ k o,St.look objs k=some o->St.get ⟨nx',(nx,ob) :: objs⟩ k=some o:=fun k o hk=>by
 have:=(hu k o hk).1
 simp only at this
 show St.look (_ :: _) k=_
 rw [look_cons,if_neg (by omega)]; exact hk
end Te
theorem rule64 {nx kc ks:Nat} {km:Nat->Nat} {objs:List (Nat × Ob)} {rs:List RunA} {A F T:Nat} {n:Nd} {x y:Tab} {xd yd:D} (ok:OkR rs A F T) (hS:ChkS rs A F T kc ks km objs) (ho:OpsD n rs.length T x y xd yd) (hn:NodeIn n A) (he:n.op=9) :
  CallT Tryz.prog 101 [.ref kc 6 0 0,.agg n.row,xd,yd] ⟨nx,objs⟩ (.sl 1 (tabR rs.length T (nodeP rs A T n x y))) ⟨nx,objs⟩:=by
 refine CallT.unders ⟨_,Tryz.func101,by kernel_rfl,by kernel_rfl⟩ fun hu=>CallT.clean ?_
 have hk:=keep1 hu (nx+1)
 have hS1:=fun ob=>hS.mono (hk ob)
 have hp:nodeP rs A T n x y=knowP rs T n.i.toNat x:=by unfold nodeP; rw [he]; simp
 rw [hp]
 have hxy:=ho
 obtain⟨h1,h2⟩:=ho
 rw [he] at h1 h2
 have yc:¬ nx=kc:=by have:=(hu _ _ hS.c).1; simp only at this; omega
 rw [Nd.row]
 rw [h1 (by decide)]
 obtain⟨a,ha,hi⟩:=hn.ag (.inl he)
 rw [hi,Int.toNat_natCast]
 refine CallT.go_fn mixed Tryz.func101 k101 (by simp) fun hf=>?_
 simp only [ZA,ZB,ZC,ZD,ZE,↓reduceIte,reduceIte,ZF,ZG,ZH,ZI,ZJ,reduceCtorEq,ZK,↓zU,↓zD,zV,zT,zW,yc]
 (repeat refine sd ?_)
 refine .go (know65 ok (hS1 _) ha) ?_
 simp only [ZA,ZB,ZC,ZD,ZE,↓reduceIte,reduceIte,ZF,ZG,ZH,ZI,ZJ,reduceCtorEq,ZK,↓zU,↓zD,zV,zT,zW]
 exact .gone hu (hk _) (by simp only [vw]; exact⟨trivial,trivial⟩)
theorem rule70 {nx kc ks:Nat} {km:Nat->Nat} {objs:List (Nat × Ob)} {rs:List RunA} {A F T:Nat} {n:Nd} {x y:Tab} {xd yd:D} (ok:OkR rs A F T) (hS:ChkS rs A F T kc ks km objs) (ho:OpsD n rs.length T x y xd yd) (hn:NodeIn n A) (he:n.op=11) :
  CallT Tryz.prog 107 [.ref kc 6 0 0,.agg n.row,xd,yd] ⟨nx,objs⟩ (.sl 1 (tabR rs.length T (nodeP rs A T n x y))) ⟨nx,objs⟩:=by
 refine CallT.unders ⟨_,Tryz.func107,by kernel_rfl,by kernel_rfl⟩ fun hu=>CallT.clean ?_
 have hk:=keep1 hu (nx+1)
 have hS1:=fun ob=>hS.mono (hk ob)
 have hp:nodeP rs A T n x y=everyP rs A T n.g.toNat x:=by unfold nodeP; rw [he]; simp
 rw [hp]
 have hxy:=ho
 obtain⟨h1,h2⟩:=ho
 rw [he] at h1 h2
 have yc:¬ nx=kc:=by have:=(hu _ _ hS.c).1; simp only at this; omega
 rw [Nd.row]
 rw [h1 (by decide)]
 obtain⟨g,hg,hi⟩:=hn.gr (.inl he)
 rw [hi,Int.toNat_natCast]
 refine CallT.go_fn mixed Tryz.func107 k107 (by simp) fun hf=>?_
 simp only [ZA,ZB,ZC,ZD,ZE,↓reduceIte,reduceIte,ZF,ZG,ZH,ZI,ZJ,reduceCtorEq,ZK,↓zU,↓zD,zV,zT,zW,yc]
 (repeat refine sd ?_)
 refine .go (every71 ok (hS1 _) hg) ?_
 simp only [ZA,ZB,ZC,ZD,ZE,↓reduceIte,reduceIte,ZF,ZG,ZH,ZI,ZJ,reduceCtorEq,ZK,↓zU,↓zD,zV,zT,zW]
 exact .gone hu (hk _) (by simp only [vw]; exact⟨trivial,trivial⟩)
theorem rule72 {nx kc ks:Nat} {km:Nat->Nat} {objs:List (Nat × Ob)} {rs:List RunA} {A F T:Nat} {n:Nd} {x y:Tab} {xd yd:D} (ok:OkR rs A F T) (hS:ChkS rs A F T kc ks km objs) (ho:OpsD n rs.length T x y xd yd) (hn:NodeIn n A) (he:n.op=12) :
  CallT Tryz.prog 109 [.ref kc 6 0 0,.agg n.row,xd,yd] ⟨nx,objs⟩ (.sl 1 (tabR rs.length T (nodeP rs A T n x y))) ⟨nx,objs⟩:=by
 refine CallT.unders ⟨_,Tryz.func109,by kernel_rfl,by kernel_rfl⟩ fun hu=>CallT.clean ?_
 have hk:=keep1 hu (nx+1)
 have hS1:=fun ob=>hS.mono (hk ob)
 have hp:nodeP rs A T n x y=distP rs A T n.g.toNat x:=by unfold nodeP; rw [he]; simp
 rw [hp]
 have hxy:=ho
 obtain⟨h1,h2⟩:=ho
 rw [he] at h1 h2
 have yc:¬ nx=kc:=by have:=(hu _ _ hS.c).1; simp only at this; omega
 rw [Nd.row]
 rw [h1 (by decide)]
 obtain⟨g,hg,hi⟩:=hn.gr (.inr (.inl he))
 rw [hi,Int.toNat_natCast]
 refine CallT.go_fn mixed Tryz.func109 k109 (by simp) fun hf=>?_
 simp only [ZA,ZB,ZC,ZD,ZE,↓reduceIte,reduceIte,ZF,ZG,ZH,ZI,ZJ,reduceCtorEq,ZK,↓zU,↓zD,zV,zT,zW,yc]
 (repeat refine sd ?_)
 refine .go (dist73 ok hg (hS1 _).c) ?_
 simp only [ZA,ZB,ZC,ZD,ZE,↓reduceIte,reduceIte,ZF,ZG,ZH,ZI,ZJ,reduceCtorEq,ZK,↓zU,↓zD,zV,zT,zW]
 exact .gone hu (hk _) (by simp only [vw]; exact⟨trivial,trivial⟩)
theorem rule74 {nx kc ks:Nat} {km:Nat->Nat} {objs:List (Nat × Ob)} {rs:List RunA} {A F T:Nat} {n:Nd} {x y:Tab} {xd yd:D} (ok:OkR rs A F T) (hS:ChkS rs A F T kc ks km objs) (ho:OpsD n rs.length T x y xd yd) (hn:NodeIn n A) (he:n.op=13) :
  CallT Tryz.prog 111 [.ref kc 6 0 0,.agg n.row,xd,yd] ⟨nx,objs⟩ (.sl 1 (tabR rs.length T (nodeP rs A T n x y))) ⟨nx,objs⟩:=by
 refine CallT.unders ⟨_,Tryz.func111,by kernel_rfl,by kernel_rfl⟩ fun hu=>CallT.clean ?_
 have hk:=keep1 hu (nx+1)
 have hS1:=fun ob=>hS.mono (hk ob)
 have hp:nodeP rs A T n x y=commonP rs A T n.g.toNat x y:=by unfold nodeP; rw [he]; simp
 rw [hp]
 have hxy:=ho
 obtain⟨h1,h2⟩:=ho
 rw [he] at h1 h2
 have yc:¬ nx=kc:=by have:=(hu _ _ hS.c).1; simp only at this; omega
 rw [Nd.row]
 rw [h1 (by decide)]
 rw [h2 (by decide)]
 obtain⟨g,hg,hi⟩:=hn.gr (.inr (.inr he))
 rw [hi,Int.toNat_natCast]
 refine CallT.go_fn mixed Tryz.func111 k111 (by simp) fun hf=>?_
 simp only [ZA,ZB,ZC,ZD,ZE,↓reduceIte,reduceIte,ZF,ZG,ZH,ZI,ZJ,reduceCtorEq,ZK,↓zU,↓zD,zV,zT,zW,yc]
 (repeat refine sd ?_)
 refine .go (common75 ok (hS1 _) hg) ?_
 simp only [ZA,ZB,ZC,ZD,ZE,↓reduceIte,reduceIte,ZF,ZG,ZH,ZI,ZJ,reduceCtorEq,ZK,↓zU,↓zD,zV,zT,zW]
 exact .gone hu (hk _) (by simp only [vw]; exact⟨trivial,trivial⟩)
theorem rule76 {nx kc ks:Nat} {km:Nat->Nat} {objs:List (Nat × Ob)} {rs:List RunA} {A F T:Nat} {n:Nd} {x y:Tab} {xd yd:D} (ok:OkR rs A F T) (hS:ChkS rs A F T kc ks km objs) (ho:OpsD n rs.length T x y xd yd) (hn:NodeIn n A) (he:n.op=18) :
  CallT Tryz.prog 113 [.ref kc 6 0 0,.agg n.row,xd,yd] ⟨nx,objs⟩ (.sl 1 (tabR rs.length T (nodeP rs A T n x y))) ⟨nx,objs⟩:=by
 refine CallT.unders ⟨_,Tryz.func113,by kernel_rfl,by kernel_rfl⟩ fun hu=>CallT.clean ?_
 have hk:=keep1 hu (nx+1)
 have hS1:=fun ob=>hS.mono (hk ob)
 have hp:nodeP rs A T n x y=shP T 1 x:=by unfold nodeP; rw [he]; simp
 rw [hp]
 have hxy:=ho
 obtain⟨h1,h2⟩:=ho
 rw [he] at h1 h2
 have yc:¬ nx=kc:=by have:=(hu _ _ hS.c).1; simp only at this; omega
 rw [Nd.row]
 rw [h1 (by decide)]
 refine CallT.go_fn mixed Tryz.func113 k113 (by simp) fun hf=>?_
 simp only [ZA,ZB,ZC,ZD,ZE,↓reduceIte,reduceIte,ZF,ZG,ZH,ZI,ZJ,reduceCtorEq,ZK,↓zU,↓zD,zV,zT,zW,yc]
 (repeat refine sd ?_)
 refine .go (shift77 ok (by decide) (hS1 _).c) ?_
 simp only [ZA,ZB,ZC,ZD,ZE,↓reduceIte,reduceIte,ZF,ZG,ZH,ZI,ZJ,reduceCtorEq,ZK,↓zU,↓zD,zV,zT,zW]
 exact .gone hu (hk _) (by simp only [vw]; exact⟨trivial,trivial⟩)
theorem rule78 {nx kc ks:Nat} {km:Nat->Nat} {objs:List (Nat × Ob)} {rs:List RunA} {A F T:Nat} {n:Nd} {x y:Tab} {xd yd:D} (ok:OkR rs A F T) (hS:ChkS rs A F T kc ks km objs) (ho:OpsD n rs.length T x y xd yd) (hn:NodeIn n A) (he:n.op=20) :
  CallT Tryz.prog 115 [.ref kc 6 0 0,.agg n.row,xd,yd] ⟨nx,objs⟩ (.sl 1 (tabR rs.length T (nodeP rs A T n x y))) ⟨nx,objs⟩:=by
 refine CallT.unders ⟨_,Tryz.func115,by kernel_rfl,by kernel_rfl⟩ fun hu=>CallT.clean ?_
 have hk:=keep1 hu (nx+1)
 have hS1:=fun ob=>hS.mono (hk ob)
 have hp:nodeP rs A T n x y=shP T (-1) x:=by unfold nodeP; rw [he]; simp
 rw [hp]
 have hxy:=ho
 obtain⟨h1,h2⟩:=ho
 rw [he] at h1 h2
 have yc:¬ nx=kc:=by have:=(hu _ _ hS.c).1; simp only at this; omega
 rw [Nd.row]
 rw [h1 (by decide)]
 refine CallT.go_fn mixed Tryz.func115 k115 (by simp) fun hf=>?_
 simp only [ZA,ZB,ZC,ZD,ZE,↓reduceIte,reduceIte,ZF,ZG,ZH,ZI,ZJ,reduceCtorEq,ZK,↓zU,↓zD,zV,zT,zW,yc]
 (repeat refine sd ?_)
 refine .go (shift77 ok (by decide) (hS1 _).c) ?_
 simp only [ZA,ZB,ZC,ZD,ZE,↓reduceIte,reduceIte,ZF,ZG,ZH,ZI,ZJ,reduceCtorEq,ZK,↓zU,↓zD,zV,zT,zW]
 exact .gone hu (hk _) (by simp only [vw]; exact⟨trivial,trivial⟩)
theorem rule79 {nx kc ks:Nat} {km:Nat->Nat} {objs:List (Nat × Ob)} {rs:List RunA} {A F T:Nat} {n:Nd} {x y:Tab} {xd yd:D} (ok:OkR rs A F T) (hS:ChkS rs A F T kc ks km objs) (ho:OpsD n rs.length T x y xd yd) (hn:NodeIn n A) (he:n.op=19) :
  CallT Tryz.prog 116 [.ref kc 6 0 0,.agg n.row,xd,yd] ⟨nx,objs⟩ (.sl 1 (tabR rs.length T (nodeP rs A T n x y))) ⟨nx,objs⟩:=by
 refine CallT.unders ⟨_,Tryz.func116,by kernel_rfl,by kernel_rfl⟩ fun hu=>CallT.clean ?_
 have hk:=keep1 hu (nx+1)
 have hS1:=fun ob=>hS.mono (hk ob)
 have hp:nodeP rs A T n x y=untP T 1 x y:=by unfold nodeP; rw [he]; simp
 rw [hp]
 have hxy:=ho
 obtain⟨h1,h2⟩:=ho
 rw [he] at h1 h2
 have yc:¬ nx=kc:=by have:=(hu _ _ hS.c).1; simp only at this; omega
 rw [Nd.row]
 rw [h1 (by decide)]
 rw [h2 (by decide)]
 refine CallT.go_fn mixed Tryz.func116 k116 (by simp) fun hf=>?_
 simp only [ZA,ZB,ZC,ZD,ZE,↓reduceIte,reduceIte,ZF,ZG,ZH,ZI,ZJ,reduceCtorEq,ZK,↓zU,↓zD,zV,zT,zW,yc]
 (repeat refine sd ?_)
 refine .go (until80 ok (hS1 _).c) ?_
 simp only [ZA,ZB,ZC,ZD,ZE,↓reduceIte,reduceIte,ZF,ZG,ZH,ZI,ZJ,reduceCtorEq,ZK,↓zU,↓zD,zV,zT,zW]
 exact .gone hu (hk _) (by simp only [vw]; exact⟨trivial,trivial⟩)
theorem rule81 {nx kc ks:Nat} {km:Nat->Nat} {objs:List (Nat × Ob)} {rs:List RunA} {A F T:Nat} {n:Nd} {x y:Tab} {xd yd:D} (ok:OkR rs A F T) (hS:ChkS rs A F T kc ks km objs) (ho:OpsD n rs.length T x y xd yd) (hn:NodeIn n A) (he:n.op=21) :
  CallT Tryz.prog 118 [.ref kc 6 0 0,.agg n.row,xd,yd] ⟨nx,objs⟩ (.sl 1 (tabR rs.length T (nodeP rs A T n x y))) ⟨nx,objs⟩:=by
 refine CallT.unders ⟨_,Tryz.func118,by kernel_rfl,by kernel_rfl⟩ fun hu=>CallT.clean ?_
 have hk:=keep1 hu (nx+1)
 have hS1:=fun ob=>hS.mono (hk ob)
 have hp:nodeP rs A T n x y=untP T (-1) x y:=by unfold nodeP; rw [he]; simp
 rw [hp]
 have hxy:=ho
 obtain⟨h1,h2⟩:=ho
 rw [he] at h1 h2
 have yc:¬ nx=kc:=by have:=(hu _ _ hS.c).1; simp only at this; omega
 rw [Nd.row]
 rw [h1 (by decide)]
 rw [h2 (by decide)]
 refine CallT.go_fn mixed Tryz.func118 k118 (by simp) fun hf=>?_
 simp only [ZA,ZB,ZC,ZD,ZE,↓reduceIte,reduceIte,ZF,ZG,ZH,ZI,ZJ,reduceCtorEq,ZK,↓zU,↓zD,zV,zT,zW,yc]
 (repeat refine sd ?_)
 refine .go (until80 ok (hS1 _).c) ?_
 simp only [ZA,ZB,ZC,ZD,ZE,↓reduceIte,reduceIte,ZF,ZG,ZH,ZI,ZJ,reduceCtorEq,ZK,↓zU,↓zD,zV,zT,zW]
 exact .gone hu (hk _) (by simp only [vw]; exact⟨trivial,trivial⟩)
end
section
open Rs Fm Ru Te
theorem not69 {nx kx:Nat} {objs:List (Nat × Ob)} {R T:Nat} {φ:Nat × Nat->Bool} (hR:R<=1000) (hT:T<=1000) (hx:St.look objs kx=some ⟨1,[[.sl 1 (tabR R T φ)]]⟩) {i t:Nat} (hi:i<R) (ht:t<T) :
  CallT Tryz.prog 106 ([.agg [.int .i64 (i:Int),.int .i64 (t:Int)]] ++ [.ref kx 1 0 0]) ⟨nx,objs⟩ (.bool (!φ (i,t))) ⟨nx,objs⟩:=by
 refine CallT.unders ⟨_,Tryz.func106,by kernel_rfl,by kernel_rfl⟩ fun hu=>CallT.clean ?_
 have hk:=(hu kx _ hx).1
 simp only at hk
 have y1:¬ nx=kx:=by omega
 have g1:=tabR_get (T:=T) (φ:=φ) hi
 have g2:=rbR_row (i:=i) (φ:=φ) ht
 refine CallT.go_fn mixed Tryz.func106 k106 (by simp) fun hf=>?_
 simp only [ZA,ZB,ZC,ZD,ZE,↓reduceIte,reduceIte,ZF,ZG,ZH,ZI,ZJ,reduceCtorEq,ZK,↓zU,↓zD,zV,zT,zW,hx,y1,tabR_len,g1,rbR_len,List.length_map,List.length_range,g2]
 (repeat refine sd ?_)
 exact .gone hu (keep1 hu _ _) (by simp only [vw])
theorem rule66 {nx kc ks:Nat} {km:Nat->Nat} {objs:List (Nat × Ob)} {rs:List RunA} {A F T:Nat} {n:Nd} {x y:Tab} {xd yd:D} (ok:OkR rs A F T) (hS:ChkS rs A F T kc ks km objs) (ho:OpsD n rs.length T x y xd yd) (hn:NodeIn n A) (he:n.op=10) :
  CallT Tryz.prog 103 [.ref kc 6 0 0,.agg n.row,xd,yd] ⟨nx,objs⟩ (.sl 1 (tabR rs.length T (nodeP rs A T n x y))) ⟨nx,objs⟩:=by
 obtain⟨T1,T16⟩:=ok.hT
 obtain⟨R1,R64⟩:=ok.hR
 refine CallT.unders ⟨_,Tryz.func103,by kernel_rfl,by kernel_rfl⟩ fun hu=>CallT.clean ?_
 have hp:nodeP rs A T n x y=fun p=>!knowP rs T n.i.toNat (fun q=>!x q) p:=by unfold nodeP; rw [he]; simp
 rw [hp]
 obtain⟨h1,h2⟩:=ho
 rw [he] at h1
 obtain⟨a,ha,hi⟩:=hn.ag (.inr he)
 rw [hi,Int.toNat_natCast]
 have bc:kc<nx:=(hu _ _ hS.c).1
 rw [Nd.row,h1 (by decide)]
 have hk2:∀ (a b:Ob) k o,St.look objs k=some o->St.look ((nx+1,a) :: (nx,b) :: objs) k=some o:=fun a b k o hk=>by
  have:=(hu k o hk).1
  simp only at this
  rw [look_cons,if_neg (by omega),look_cons,if_neg (by omega)]; exact hk
 have hk3:∀ (a b c:Ob) k o,St.look objs k=some o->St.look ((nx+1+1,c) :: (nx+1,a) :: (nx,b) :: objs) k=some o:=fun a b c k o hk=>by
  have:=(hu k o hk).1
  simp only at this
  rw [look_cons,if_neg (by omega)]; exact hk2 _ _ _ _ hk
 refine CallT.go_fn mixed Tryz.func103 k103 (by simp) fun hf=>?_
 have y1:¬ nx+1=nx:=by omega
 simp only [ZA,ZB,ZC,ZD,ZE,↓reduceIte,reduceIte,ZF,ZG,ZH,ZI,ZJ,reduceCtorEq,ZK,↓zU,↓zD,zV,zT,zW,y1]
 (repeat refine sd ?_)
 rw [hi]
 have hA:=fill67 (nx:=nx+1+1) (kc:=kc) (objs:=(nx+1,⟨1,[[.sl 1 (tabR rs.length T x)]]⟩) :: (nx,⟨6,[[.int .i64 n.op,.int .i64 (a:Int),.int .i64 n.e,.int .i64 n.g,.int .i64 n.x,.int .i64 n.y]]⟩) :: objs) (g:=105) (caps:=[.ref (nx+1) 1 0 0]) (φ:=fun p=>!x p) ok (hk2 _ _ _ _ hS.c) (fun nx1 objs1 i t h1 h2 hi ht=>
  not68 (R:=rs.length) (T:=T) (by omega) (by omega) (by rw [h2 _ (by omega),look_cons,if_pos rfl]) hi ht)
 refine⟨_,hA,?_⟩
 simp only [ZA,ZB,ZC,ZD,ZE,↓reduceIte,reduceIte,ZF,ZG,ZH,ZI,ZJ,reduceCtorEq,ZK,↓zU,↓zD,zV,zT,zW]
 refine⟨_,know65 ok (hS.mono (hk2 _ _)) ha,?_⟩
 have y2:¬ nx+1+1=nx:=by omega
 have hB:=fill67 (nx:=nx+1+1+1) (kc:=kc) (objs:=(nx+1+1,⟨1,[[.nils]]⟩) :: (nx+1,⟨1,[[.sl 1 (tabR rs.length T x)]]⟩) :: (nx,⟨6,[[.int .i64 n.op,.int .i64 (a:Int),.int .i64 n.e,.int .i64 n.g,.int .i64 n.x,.int .i64 n.y]]⟩) :: objs) (g:=105) (caps:=[.ref (nx+1) 1 0 0]) (φ:=fun p=>!x p) ok (hk3 _ _ _ _ _ hS.c) (fun nx1 objs1 i t h1 h2 hi ht=>
  not68 (R:=rs.length) (T:=T) (by omega) (by omega) (by rw [h2 _ (by omega),look_cons,if_neg (by omega),look_cons,if_pos rfl]) hi ht)
 simp only [ZA,ZB,ZC,ZD,ZE,↓reduceIte,reduceIte,ZF,ZG,ZH,ZI,ZJ,reduceCtorEq,ZK,↓zU,↓zD,zV,zT,zW,y1,y2]
 (repeat refine sd ?_)
 refine⟨⟨_,hB,?_⟩,?_⟩
 ·simp only [ZA,ZB,ZC,ZD,ZE,↓reduceIte,reduceIte,ZF,ZG,ZH,ZI,ZJ,reduceCtorEq,ZK,↓zU,↓zD,zV,zT,zW]
  refine⟨_,know65 ok (hS.mono (hk3 _ _ _)) ha,?_⟩
  simp only [ZA,ZB,ZC,ZD,ZE,↓reduceIte,reduceIte,ZF,ZG,ZH,ZI,ZJ,reduceCtorEq,ZK,↓zU,↓zD,zV,zT,zW]
 have hC:=fill67 (nx:=nx+1+1+1) (kc:=kc) (objs:=(nx+1+1,⟨1,[[.sl 1 (tabR rs.length T (knowP rs T a fun q=>!x q))]]⟩) :: (nx+1,⟨1,[[.sl 1 (tabR rs.length T x)]]⟩) :: (nx,⟨6,[[.int .i64 n.op,.int .i64 (a:Int),.int .i64 n.e,.int .i64 n.g,.int .i64 n.x,.int .i64 n.y]]⟩) :: objs) (g:=106) (caps:=[.ref (nx+1+1) 1 0 0]) (φ:=fun p=>!knowP rs T a (fun q=>!x q) p) ok (hk3 _ _ _ _ _ hS.c) (fun nx1 objs1 i t h1 h2 hi ht=>
  not69 (R:=rs.length) (T:=T) (by omega) (by omega) (by rw [h2 _ (by omega),look_cons,if_pos rfl]) hi ht)
 refine .go hC ?_
 simp only [ZA,ZB,ZC,ZD,ZE,↓reduceIte,reduceIte,ZF,ZG,ZH,ZI,ZJ,reduceCtorEq,ZK,↓zU,↓zD,zV,zT,zW]
 exact .gone hu (hk3 _ _ _) (by simp only [vw]; exact⟨trivial,trivial⟩)
end
section
open Rs Fm Ru Te
theorem look_shift' (c:Nat):∀ {l:List (Nat × Ob)} {k:Nat} {o:Ob},St.look l k=some o->St.look (shiftObjs c l) (c+k)= some (o.shift c)
 | [],k,o,h=>by cases h
 | (j,ob) :: r,k,o,h=>by
  rw [look_cons] at h
  show St.look ((c+j,ob.shift c) :: shiftObjs c r) _=_
  rw [look_cons]
  by_cases e:j=k
  ·rw [if_pos e] at h; rw [if_pos (by omega)]; cases h; rfl
  ·rw [if_neg e] at h; rw [if_neg (by omega)]; exact look_shift' c h
namespace Te
def reqE (s:SysA) (f:List Nd):Int:=if chk s≠0 then chk s else if checkF f≠0 then checkF f else if (bitI .andNot .i64 (fragsA f:Int) 271 != 0)= true then 10 else if fitsB f s.ag s.fa=false then 2 else 0
theorem req_zero {s:SysA} {f:List Nd} (h:reqE s f=0):chk s=0/\checkF f=0:=by
 unfold reqE at h
 by_cases c1:chk s≠0
 ·rw [if_pos c1] at h; exact absurd h c1
 rw [if_neg c1] at h
 by_cases c2:checkF f≠0
 ·rw [if_pos c2] at h; exact absurd h c2
 exact⟨by simpa using c1,by simpa using c2⟩
def opsT : List Int:=[9,10,11,12,13,18,20,19,21]
def rulesR : List (List D):=[[.int .i64 9,.fn 101 []],[.int .i64 10,.fn 103 []],[.int .i64 11,.fn 107 []],[.int .i64 12,.fn 109 []],[.int .i64 13,.fn 111 []],[.int .i64 18,.fn 113 []],[.int .i64 20,.fn 115 []],[.int .i64 19,.fn 116 []],[.int .i64 21,.fn 118 []]]
theorem unionF_bit (m:Nd->Nat) (b:Nat):∀ (l:List Nd) (a:Nat),(l.foldl (fun a p=>a ||| m p) a).testBit b=(a.testBit b || l.any fun p=>(m p).testBit b)
 | [],a=>by simp
 | p :: r,a=>by
  rw [List.foldl_cons,unionF_bit m b r,Nat.testBit_or,List.any_cons,Bool.or_assoc]
theorem unionT_bit {m:Nd->Nat} {b:Nat} {c:List Nd} {p:Nd} (hp:p ∈ c) (h:(m p).testBit b=true):(unionN m c).testBit b=true:=by
 have:=unionF_bit m b c 0
 rw [List.any_eq_true.2 ⟨p,hp,h⟩,Bool.or_true] at this
 exact this
theorem agents_lt {c:List Nd} {n:Nat} (h:unionN agentN c / 2 ^ n=0):∀ p ∈ c,(usesA p.op).1.ag=true->p.i.toNat<n:=by
 intro p hp ha
 refine Decidable.byContradiction fun hge=>?_
 have h1:(agentN p).testBit p.i.toNat=true:=by unfold agentN; rw [if_pos ha]; exact Nat.testBit_two_pow_self
 have h2:=unionT_bit hp h1
 have h3:unionN agentN c<2 ^ n:=by
  rcases Nat.div_eq_zero_iff.1 h with h | h
  ·have:=Nat.two_pow_pos n; omega
  ·exact h
 have h4:=Nat.testBit_lt_two_pow (Nat.lt_of_lt_of_le h3 (Nat.pow_le_pow_right (by decide) (show n<=p.i.toNat by omega)))
 rw [h4] at h2
 cases h2
theorem node_in {s:SysA} {f:List Nd} (h:reqE s f=0) {A:Nat} (hA:s.ag=A) (hA4:A<=4):∀ p ∈ compactA f,NodeIn p A/\(p.op=3->0<=p.i):=by
 unfold reqE at h
 by_cases c1:chk s≠0
 ·rw [if_pos c1] at h; exact absurd h c1
 rw [if_neg c1] at h
 by_cases c2:checkF f≠0
 ·rw [if_pos c2] at h; exact absurd h c2
 rw [if_neg c2] at h
 by_cases c3:(bitI .andNot .i64 (fragsA f:Int) 271 != 0)= true
 ·rw [if_pos c3] at h; cases h
 rw [if_neg c3] at h
 by_cases c4:fitsB f s.ag s.fa=false
 ·rw [if_pos c4] at h; cases h
 have c4':fitsB f s.ag s.fa=true:=by simpa using c4
 unfold fitsB at c4'
 simp only [Bool.and_eq_true] at c4'
 have hb:=c4'.1.2
 unfold belowB at hb
 simp only [Bool.or_eq_true,decide_eq_true_eq] at hb
 rw [hA] at hb
 have hb2:agentsA f / 2 ^ A=0:=by
  rcases hb with hb | hb
  ·omega
  ·simpa using hb
 intro p hp
 obtain⟨k,hk⟩:=mem_nd (sub_nd f _) hp
 refine⟨⟨fun ho=>?_,fun ho=>?_⟩,fun ho=>?_⟩
 ·have hag:(usesA p.op).1.ag=true:=by rcases ho with e | e <;> rw [e] <;> decide
  have h1:=nd_agent hk hag
  have h2:=agents_lt hb2 p hp hag
  exact⟨p.i.toNat,h2,by omega⟩
 ·have h1:=nd_group hk
  exact⟨p.g.toNat,by omega,by omega⟩
 ·have hfa:(usesA p.op).1.fa=true:=by rw [ho]; decide
  exact(nd_fact hk hfa).1
theorem nodeP_bool {rs:List RunA} {A T:Nat} {n:Nd} {x y:Tab} (h:n.op ∉ opsT):nodeP rs A T n x y=boolP rs n x y:=by
 simp only [opsT,List.mem_cons,List.not_mem_nil,or_false,not_or] at h
 obtain⟨h1,h2,h3,h4,h5,h6,h7,h8,h9⟩:=h
 unfold nodeP
 rw [if_neg h1,if_neg h2,if_neg h3,if_neg h4,if_neg h5,if_neg h6,if_neg h7,if_neg h8,if_neg h9]
structure RuleAt (j : Nat) (o : Int) (g : FuncId) : Prop where
 at_:rulesR.getD j [] = [.int .i64 o,.fn g []]
 op:opsT.getD j 0=o
 run:∀ {nx kc ks:Nat} {km:Nat->Nat} {objs:List (Nat × Ob)} {rs:List RunA} {A F T:Nat} {n:Nd} {x y:Tab} {xd yd:D},OkR rs A F T->ChkS rs A F T kc ks km objs->OpsD n rs.length T x y xd yd->NodeIn n A->n.op=o ->
  CallT Tryz.prog g [.ref kc 6 0 0,.agg n.row,xd,yd] ⟨nx,objs⟩ (.sl 1 (tabR rs.length T (nodeP rs A T n x y))) ⟨nx,objs⟩
theorem rule_at {j:Nat} (h:j<9):∃ o g,RuleAt j o g:=by
 have hc:j=0\/j=1\/j=2\/j=3\/j=4\/j=5\/j=6\/j=7\/j=8:=by omega
 rcases hc with rfl | rfl | rfl | rfl | rfl | rfl | rfl | rfl | rfl
 ·exact⟨_,_,rfl,rfl,rule64⟩
 ·exact⟨_,_,rfl,rfl,rule66⟩
 ·exact⟨_,_,rfl,rfl,rule70⟩
 ·exact⟨_,_,rfl,rfl,rule72⟩
 ·exact⟨_,_,rfl,rfl,rule74⟩
 ·exact⟨_,_,rfl,rfl,rule76⟩
 ·exact⟨_,_,rfl,rfl,rule78⟩
 ·exact⟨_,_,rfl,rfl,rule79⟩
 ·exact⟨_,_,rfl,rfl,rule81⟩
def gotD (rs:List RunA) (A T:Nat) (n:Nd) (x y:Tab) (j:Nat):D:=if n.op ∈ opsT.take j then .sl 1 (tabR rs.length T (nodeP rs A T n x y)) else .nils
theorem gotD_succ {rs:List RunA} {A T:Nat} {n:Nd} {x y:Tab} {j:Nat} (h:j<9):gotD rs A T n x y (j+1)= if n.op=opsT.getD j 0 then .sl 1 (tabR rs.length T (nodeP rs A T n x y)) else gotD rs A T n x y j:=by
 unfold gotD
 have e:opsT.take (j+1)= opsT.take j ++ [opsT.getD j 0]:=by
  rw [List.take_add_one]
  congr 1
  simp [List.getD,show j<opsT.length from h]
 rw [e]
 by_cases h1:n.op=opsT.getD j 0
 ·rw [if_pos h1,if_pos (by simp [h1])]
 ·rw [if_neg h1]
  by_cases h2:n.op ∈ opsT.take j
  ·rw [if_pos h2,if_pos (by simp [h2])]
  ·rw [if_neg h2,if_neg (by rw [List.mem_append,List.mem_singleton,not_or]; exact⟨h2,h1⟩)]
end Te
theorem rules38 : Runs Tryz.prog 78 [] (.sl 2 rulesR):=by
 refine CallT.go_fn mixed Tryz.func78 k78 (by simp) fun hf=>?_
 simp only [ZA,ZB,ZC,ZD,ZE,↓reduceIte,reduceIte,ZF,ZG,ZH,ZI,ZJ,reduceCtorEq,ZK,↓zU,↓zD,zV,zT,zW]
 (repeat refine sd ?_)
 exact .same
structure Te.ChkB (A nb kc ks : Nat) (km : Nat -> Nat) : Prop where
 c:kc<nb
 s:ks<nb
 m:∀ i,i<A->km i<nb
theorem Te.ChkS.frame {rs:List RunA} {A F T kc ks nb:Nat} {km:Nat->Nat} {objs objs':List (Nat × Ob)} (h:ChkS rs A F T kc ks km objs) (hb:ChkB A nb kc ks km) (hl:∀ k,k<nb->St.look objs' k=St.look objs k):ChkS rs A F T kc ks km objs':=
 ⟨by rw [hl _ hb.c]; exact h.c,fun a=>by rw [hl _ hb.s]; exact h.s a,fun i hi=>by rw [hl _ (hb.m i hi)]; exact h.m i hi⟩
theorem Te.ChkS.mono' {rs:List RunA} {A F T kc ks nb nx2:Nat} {km:Nat->Nat} {objs:List (Nat × Ob)} (h:ChkS rs A F T kc ks km objs) (hb:ChkB A nb kc ks km) (hn:nb<=nx2) (ob:Ob):ChkS rs A F T kc ks km ((nx2,ob) :: objs):=
 h.frame hb fun k hk=>by rw [look_cons,if_neg (by omega)]
theorem chk36 {rs:List RunA} {A F T:Nat} (hz:chk ⟨A,F,T,rs⟩= 0) (ok:OkR rs A F T) (σ:St):∃ nx' objs',CallT Tryz.prog 77 [sD A F T rs] σ (.ref (σ.nx+1) 6 0 0) ⟨nx',objs'⟩/\ ChkB A nx' (σ.nx+1) (σ.nx+2) (fun i=>σ.nx+(3+i))/\ ChkS rs A F T (σ.nx+1) (σ.nx+2) (fun i=>σ.nx+(3+i)) objs':=by
 have h:=CallT.own (σ:=σ) (newCheck36 hz ok) rfl
 refine⟨_,_,h,⟨by omega,by omega,fun i hi=>by omega⟩,?_⟩
 have hS:=ChkS.start (rs:=rs) (A:=A) (F:=F) (T:=T)
 have hl:∀ {k:Nat} {o:Ob},St.look (chkL rs A F T A) k=some o->St.look (shiftObjs σ.nx (chkL rs A F T A)++ σ.objs) (σ.nx+k)= some (o.shift σ.nx):=fun h=>by rw [look_app,look_shift' _ h]; rfl
 refine⟨?_,fun ha=>?_,fun i hi=>?_⟩
 ·rw [hl hS.c]
  simp only [Ob.shift,List.map_cons,List.map_nil,D.shiftL,D.shift]
  congr 8
  generalize List.range A=l
  cases l <;> simp [growD,D.shift]
 ·rw [hl (hS.s ha)]
  simp only [Ob.shift,List.map_map]
  rfl
 ·rw [hl (hS.m i hi)]
  simp only [Ob.shift]
  congr 2
  unfold mrow mG
  simp only [List.map_map]
  rfl
end
section
open Rs Fm Ru Te
namespace Te
def lastT (rs:List RunA) (A T:Nat) (f:List Nd):Tab:=(tabsP rs A T (compactA f) (compactA f).length).getD ((compactA f).length-1) fun _=>false
def holdsR (s:SysA) (f:List Nd):List (List D):=if reqE s f≠0 then [] else tabR s.rs.length s.ln.toNat (lastT s.rs s.ag.toNat s.ln.toNat f)
def valsD (rs:List RunA) (A T:Nat) (c:List Nd) (k:Nat):List (List D):=(tabsP rs A T c k).map fun x=>[.sl 1 (tabR rs.length T x)]
theorem valsD_len (rs:List RunA) (A T:Nat) (c:List Nd) (k:Nat):(valsD rs A T c k).length=k:=by simp [valsD,tabsP_len]
theorem valsD_get {rs:List RunA} {A T:Nat} {c:List Nd} {k i:Nat} (h:i<k):(valsD rs A T c k).getD i [] = [.sl 1 (tabR rs.length T ((tabsP rs A T c k).getD i fun _=>false))]:=by
 have:=tabsP_len rs A T c k
 simp [valsD,List.getD,this,h]
theorem valsD_succ (rs:List RunA) (A T:Nat) (c:List Nd) (k:Nat):valsD rs A T c (k+1)= valsD rs A T c k ++ [[.sl 1 (tabR rs.length T (nodeP rs A T (c.getD k nd0) ((tabsP rs A T c k).getD (c.getD k nd0).x.toNat fun _=>false) ((tabsP rs A T c k).getD (c.getD k nd0).y.toNat fun _=>false)))]]:=by
 simp [valsD,tabsP]
theorem tabR_cons {R T:Nat} (h:1<=R) (φ:Tab):∃ e r,tabR R T φ=e :: r:=by
 cases hh:tabR R T φ with
 | nil=>have:=tabR_len R T φ; rw [hh] at this; simp at this; omega
 | cons e r=>exact⟨e,r,rfl⟩
theorem gotD_nine {rs:List RunA} {A T:Nat} {n:Nd} {x y:Tab}:gotD rs A T n x y 9=if n.op ∈ opsT then .sl 1 (tabR rs.length T (nodeP rs A T n x y)) else .nils:=rfl
end Te
theorem Holds13 (s:SysA) (f:List Nd):Runs Tryz.prog 51 [s.d,.sl 6 (ndR f)] (.tup [.sl 1 (holdsR s f),.int .i64 (reqE s f)]):=by
 have hD:s.d = .agg [.int .i64 s.ag,.int .i64 s.fa,.int .i64 s.ln,.sl 2 (runR s.rs)]:=rfl
 have hC:=Check31 s
 have hF:=checkF56 f
 have hG:=Frags57 f
 have hT:=Fits58 f s.ag s.fa
 have hE:reqE s f=if chk s≠0 then chk s else if checkF f≠0 then checkF f else if (bitI .andNot .i64 (fragsA f:Int) 271 != 0)= true then 10 else if fitsB f s.ag s.fa=false then 2 else 0:=rfl
 have hR0:reqE s f≠0->holdsR s f = []:=fun h=>if_pos h
 have hin:=fun A=>node_in (s:=s) (f:=f) (A:=A)
 rw [hD] at hC ⊢
 by_cases c1:chk s=0
 case neg=>
  have e1:(chk s != 0)= true:=by simpa using c1
  rw [if_pos c1] at hE
  rw [hR0 (by rw [hE]; exact c1),hE]
  refine CallT.go_fn mixed Tryz.func51 k51 (by simp) fun hf=>?_
  simp only [ZA,ZB,ZC,ZD,ZE,↓reduceIte,reduceIte,ZF,ZG,ZH,ZI,ZJ,reduceCtorEq,ZK,↓zU,↓zD,zV,zT,zW]
  (repeat refine sd ?_)
  refine .go (cq hC) ?_
  simp only [ZA,ZB,ZC,ZD,ZE,↓reduceIte,reduceIte,ZF,ZG,ZH,ZI,ZJ,reduceCtorEq,ZK,↓zU,↓zD,zV,zT,zW,e1]
  exact .drop (by simp) (by simp [vw,vwL])
 rw [if_neg (by simpa using c1)] at hE
 by_cases c2:checkF f=0
 case neg=>
  have e2:(checkF f != 0)= true:=by simpa using c2
  rw [if_pos c2] at hE
  rw [hR0 (by rw [hE]; exact c2),hE]
  rw [c1] at hC
  refine CallT.go_fn mixed Tryz.func51 k51 (by simp) fun hf=>?_
  simp only [ZA,ZB,ZC,ZD,ZE,↓reduceIte,reduceIte,ZF,ZG,ZH,ZI,ZJ,reduceCtorEq,ZK,↓zU,↓zD,zV,zT,zW]
  (repeat refine sd ?_)
  refine .go (cq hC) ?_
  simp only [ZA,ZB,ZC,ZD,ZE,↓reduceIte,reduceIte,ZF,ZG,ZH,ZI,ZJ,reduceCtorEq,ZK,↓zU,↓zD,zV,zT,zW]
  refine .go (cq hF) ?_
  simp only [ZA,ZB,ZC,ZD,ZE,↓reduceIte,reduceIte,ZF,ZG,ZH,ZI,ZJ,reduceCtorEq,ZK,↓zU,↓zD,zV,zT,zW,e2]
  exact .drop (by simp) (by simp [vw,vwL])
 rw [if_neg (by simpa using c2)] at hE
 rw [c1] at hC
 rw [c2] at hF
 by_cases c3:(bitI .andNot .i64 (fragsA f:Int) 271 != 0)= true
 ·rw [if_pos c3] at hE
  rw [hR0 (by rw [hE]; decide),hE]
  refine CallT.go_fn mixed Tryz.func51 k51 (by simp) fun hf=>?_
  simp only [ZA,ZB,ZC,ZD,ZE,↓reduceIte,reduceIte,ZF,ZG,ZH,ZI,ZJ,reduceCtorEq,ZK,↓zU,↓zD,zV,zT,zW]
  (repeat refine sd ?_)
  refine .go (cq hC) ?_
  simp only [ZA,ZB,ZC,ZD,ZE,↓reduceIte,reduceIte,ZF,ZG,ZH,ZI,ZJ,reduceCtorEq,ZK,↓zU,↓zD,zV,zT,zW]
  refine .go (cq hF) ?_
  simp only [ZA,ZB,ZC,ZD,ZE,↓reduceIte,reduceIte,ZF,ZG,ZH,ZI,ZJ,reduceCtorEq,ZK,↓zU,↓zD,zV,zT,zW]
  refine .go (cq hG) ?_
  simp only [ZA,ZB,ZC,ZD,ZE,↓reduceIte,reduceIte,ZF,ZG,ZH,ZI,ZJ,reduceCtorEq,ZK,↓zU,↓zD,zV,zT,zW,c3]
  exact .drop (by simp) (by simp [vw,vwL])
 rw [if_neg c3] at hE
 have c3':(bitI .andNot .i64 (fragsA f:Int) 271 != 0)= false:=by simpa using c3
 by_cases c4:fitsB f s.ag s.fa=false
 ·rw [if_pos c4] at hE
  rw [hR0 (by rw [hE]; decide),hE]
  rw [c4] at hT
  refine CallT.go_fn mixed Tryz.func51 k51 (by simp) fun hf=>?_
  simp only [ZA,ZB,ZC,ZD,ZE,↓reduceIte,reduceIte,ZF,ZG,ZH,ZI,ZJ,reduceCtorEq,ZK,↓zU,↓zD,zV,zT,zW]
  (repeat refine sd ?_)
  refine .go (cq hC) ?_
  simp only [ZA,ZB,ZC,ZD,ZE,↓reduceIte,reduceIte,ZF,ZG,ZH,ZI,ZJ,reduceCtorEq,ZK,↓zU,↓zD,zV,zT,zW]
  refine .go (cq hF) ?_
  simp only [ZA,ZB,ZC,ZD,ZE,↓reduceIte,reduceIte,ZF,ZG,ZH,ZI,ZJ,reduceCtorEq,ZK,↓zU,↓zD,zV,zT,zW]
  refine .go (cq hG) ?_
  simp only [ZA,ZB,ZC,ZD,ZE,↓reduceIte,reduceIte,ZF,ZG,ZH,ZI,ZJ,reduceCtorEq,ZK,↓zU,↓zD,zV,zT,zW,c3']
  (repeat refine sd ?_)
  refine .go (cq hT) ?_
  simp only [ZA,ZB,ZC,ZD,ZE,↓reduceIte,reduceIte,ZF,ZG,ZH,ZI,ZJ,reduceCtorEq,ZK,↓zU,↓zD,zV,zT,zW]
  exact .drop (by simp) (by simp [vw,vwL])
 rw [if_neg c4] at hE
 rw [show fitsB f s.ag s.fa=true by simpa using c4] at hT
 rw [show holdsR s f=tabR s.rs.length s.ln.toNat (lastT s.rs s.ag.toNat s.ln.toNat f) from if_neg (by rw [hE]; simp),hE]
 obtain⟨A,F,T,rs,rfl,ok⟩:=chk_sys c1
 obtain⟨T1,T16⟩:=ok.hT
 obtain⟨R1,R64⟩:=ok.hR
 have hin:=hin A hE rfl ok.hA
 have hcv:=validC f
 have hc0:=compact_ne c2
 have hc2:(compactA f).length<=200:=sub_len f _
 have hP:=Compact59 f
 have hlast:lastT rs A T f=(tabsP rs A T (compactA f) (compactA f).length).getD ((compactA f).length-1) fun _=>false:=rfl
 simp only [Int.toNat_natCast] at *
 rw [hlast]
 generalize compactA f=c at hin hcv hc0 hc2 hP
 refine CallT.go_fn mixed Tryz.func51 k51 (by simp) fun hf=>?_
 simp only [ZA,ZB,ZC,ZD,ZE,↓reduceIte,reduceIte,ZF,ZG,ZH,ZI,ZJ,reduceCtorEq,ZK,↓zU,↓zD,zV,zT,zW]
 (repeat refine sd ?_)
 refine .go (cq hC) ?_
 simp only [ZA,ZB,ZC,ZD,ZE,↓reduceIte,reduceIte,ZF,ZG,ZH,ZI,ZJ,reduceCtorEq,ZK,↓zU,↓zD,zV,zT,zW]
 refine .go (cq hF) ?_
 simp only [ZA,ZB,ZC,ZD,ZE,↓reduceIte,reduceIte,ZF,ZG,ZH,ZI,ZJ,reduceCtorEq,ZK,↓zU,↓zD,zV,zT,zW]
 refine .go (cq hG) ?_
 simp only [ZA,ZB,ZC,ZD,ZE,↓reduceIte,reduceIte,ZF,ZG,ZH,ZI,ZJ,reduceCtorEq,ZK,↓zU,↓zD,zV,zT,zW,c3']
 (repeat refine sd ?_)
 refine .go (cq hT) ?_
 simp only [ZA,ZB,ZC,ZD,ZE,↓reduceIte,reduceIte,ZF,ZG,ZH,ZI,ZJ,reduceCtorEq,ZK,↓zU,↓zD,zV,zT,zW]
 obtain⟨nb,objs0,hN,hB,hS⟩:=chk36 c1 ok ⟨1,[(0,⟨4,[[.int .i64 (A:Int),.int .i64 (F:Int),.int .i64 (T:Int),.sl 2 (runR rs)]]⟩)]⟩
 unfold sD at hN
 simp only at hN hS hB
 generalize (1+1:Nat)= kc at hN hS hB
 generalize (1+2:Nat)= ks at hS hB
 generalize (fun i=>1+(3+i))= km at hS hB
 (repeat refine sd ?_)
 refine .go hN ?_
 simp only [ZA,ZB,ZC,ZD,ZE,↓reduceIte,reduceIte,ZF,ZG,ZH,ZI,ZJ,reduceCtorEq,ZK,↓zU,↓zD,zV,zT,zW]
 refine .go (cr hP) ?_
 simp only [ZA,ZB,ZC,ZD,ZE,↓reduceIte,reduceIte,ZF,ZG,ZH,ZI,ZJ,reduceCtorEq,ZK,↓zU,↓zD,zV,zT,zW,ndR_len]
 have bc:=hB.c
 refine wpS_loop (fun b:Nat × Nat × Nat × List (Nat × Ob)=>[(43,.int .i64 b.1),(42,.int .i64 c.length),(41,.sl 6 (ndR c)),(9,growD b.2.1 1 (valsD rs A T c b.1)),(8,.ref kc 6 0 0)]) (fun b=>⟨b.2.2.1,b.2.2.2⟩)
  (fun b=>b.1<=c.length/\nb<=b.2.2.1/\(∀ k,k<nb->St.look b.2.2.2 k=St.look objs0 k)/\ (0<b.1->nb<=b.2.1/\b.2.1<b.2.2.1/\St.look b.2.2.2 b.2.1=some ⟨1,valsD rs A T c b.1⟩)) (fun b=>c.length-b.1)
  (0,nb,nb,objs0) ⟨Nat.zero_le _,Nat.le_refl _,fun _ _=>rfl,fun h=>absurd h (Nat.lt_irrefl _)⟩ ?_ ?_
 ·(refine Weak.same ?_; simp [sameF,Fr.get,valsD,tabsP,growD])
 rintro ⟨k,kv,nx1,objs1⟩ ⟨hk,hn,hold,hval⟩
 simp only at hk hn hold hval ⊢
 refine wpS_go mixed ?_
 by_cases hkl:k<c.length
 case neg=>
  have hd:¬ ((k:Int)<(c.length:Int)):=by omega
  obtain rfl:k=c.length:=by omega
  obtain⟨v1,v2,v3⟩:=hval hc0
  have hvl:=valsD_len rs A T c c.length
  have hne:valsD rs A T c c.length ≠ []:=fun e=>by rw [e] at hvl; simp at hvl; omega
  rw [growD_ne hne,hvl]
  have hw:IntKind.i64.wrap ((c.length:Int)-1)= ((c.length-1:Nat):Int):=by rw [wrap_i64 (by omega)]; omega
  have hg:=valsD_get (rs:=rs) (A:=A) (T:=T) (c:=c) (k:=c.length) (i:=c.length-1) (by omega)
  simp only [ZA,ZB,ZC,ZD,ZE,↓reduceIte,reduceIte,ZF,ZG,ZH,ZI,ZJ,reduceCtorEq,ZK,↓zU,↓zD,zV,zT,zW,hd,hw,v3,hvl,hg]
  (repeat refine sd ?_)
  exact .drop (by simp) (by simp [vw,vwL])
 have hd:((k:Int)<(c.length:Int)):=by omega
 have hng:=ndR_get c hkl
 have hnv:=hcv k hkl
 have hpm:=getD_mem (d:=nd0) hkl
 obtain⟨hni,hn3⟩:=hin _ hpm
 have hsucc:=valsD_succ rs A T c k
 obtain⟨ox,oy,ox0,oy0⟩:=node_ops' hnv
 generalize c.getD k nd0=n at hng hnv hni hn3 hsucc ox oy ox0 oy0
 have hnr:n.row = [.int .i64 n.op,.int .i64 n.i,.int .i64 n.e,.int .i64 n.g,.int .i64 n.x,.int .i64 n.y]:=rfl
 rw [hnr] at hng
 rcases Nat.eq_zero_or_pos k with hk0 | hkp
 ·subst hk0
  have hopd:OpsD n rs.length T ((tabsP rs A T c 0).getD n.x.toNat fun _=>false) ((tabsP rs A T c 0).getD n.y.toNat fun _=>false) .nils .nils:=⟨fun h=>absurd (ox h).2 (Nat.not_lt_zero _),fun h=>absurd (oy h).2 (Nat.not_lt_zero _)⟩
  rw [show growD kv 1 (valsD rs A T c 0)= .nils from rfl]
  have hd0:((0:Int)<(c.length:Int)):=by omega
  simp only [ZA,ZB,ZC,ZD,ZE,↓reduceIte,reduceIte,ZF,ZG,ZH,ZI,ZJ,reduceCtorEq,ZK,↓zU,↓zD,zV,zT,zW,hd0,ndR_len,hng]
  (repeat refine sd ?_)
  refine .go (cq rules38) ?_
  simp only [ZA,ZB,ZC,ZD,ZE,↓reduceIte,reduceIte,ZF,ZG,ZH,ZI,ZJ,reduceCtorEq,ZK,↓zU,↓zD,zV,zT,zW]
  (repeat refine sd ?_)
  rw [show rulesR.length=9 from rfl]
  refine wpS_loopW (fun b:Nat × Nat × List (Nat × Ob)=>[(62,.int .i64 b.1),(61,.int .i64 9),(60,.sl 2 rulesR),(14,gotD rs A T n ((tabsP rs A T c 0).getD n.x.toNat fun _=>false) ((tabsP rs A T c 0).getD n.y.toNat fun _=>false) b.1),(43,.int .i64 (0:Nat)),(42,.int .i64 c.length),(41,.sl 6 (ndR c)),(13,.nils),(12,.nils),(11,.ref nx1 6 0 0),(9,.nils),(8,.ref kc 6 0 0)]) (fun b=>⟨b.2.1,b.2.2⟩)
   (fun b=>b.1<=9/\nx1<b.2.1/\(∀ q,q<nx1->St.look b.2.2 q=St.look objs1 q)/\ St.look b.2.2 nx1=some ⟨6,[[.int .i64 n.op,.int .i64 n.i,.int .i64 n.e,.int .i64 n.g,.int .i64 n.x,.int .i64 n.y]]⟩) (fun b=>9-b.1)
   (0,nx1+1,(nx1,⟨6,[[.int .i64 n.op,.int .i64 n.i,.int .i64 n.e,.int .i64 n.g,.int .i64 n.x,.int .i64 n.y]]⟩) :: objs1) ⟨Nat.zero_le _,Nat.lt_succ_self _,fun q hq=>?_,?_⟩ ?_ ?_
  ·simp only; rw [look_cons,if_neg (by omega)]
  ·simp only; rw [look_cons,if_pos rfl]
  ·(refine Weak.same ?_; simp [sameF,Fr.get,gotD])
  rintro ⟨j,nx2,objs2⟩ ⟨hj,hn2,hold2,hnode⟩
  simp only at hj hn2 hold2 hnode ⊢
  have hS2:ChkS rs A F T kc ks km objs2:=hS.frame hB fun q hq=>by rw [hold2 q (by omega),hold q hq]
  refine wpS_go mixed ?_
  by_cases hj9:j<9
  ·have hdj:((j:Int)<9):=by omega
   obtain⟨o,g,hat,hop,hrun⟩:=rule_at hj9
   have hgs:=gotD_succ (rs:=rs) (A:=A) (T:=T) (n:=n) (x:=((tabsP rs A T c 0).getD n.x.toNat fun _=>false)) (y:=((tabsP rs A T c 0).getD n.y.toNat fun _=>false)) hj9
   rw [hop] at hgs
   have z3:¬ nx2=nx1:=by omega
   by_cases ho:n.op=o
   ·have hc:=hrun (nx:=nx2+1) (objs:=(nx2,⟨2,[[.int .i64 o,.fn g []]]⟩) :: objs2) ok (hS2.mono' (nx2:=nx2) (nb:=nb) hB (by omega) _) hopd hni ho
    rw [hnr] at hc
    rw [if_pos ho] at hgs
    have e1:(o==n.op)= true:=by rw [ho]; exact beq_self_eq_true _
    simp only [ZA,ZB,ZC,ZD,ZE,↓reduceIte,reduceIte,ZF,ZG,ZH,ZI,ZJ,reduceCtorEq,ZK,↓zU,↓zD,zV,zT,zW,hdj,hat,show rulesR.length=9 from rfl,hnode,z3,e1]
    (repeat refine sd ?_)
    refine .go hc ?_
    simp only [ZA,ZB,ZC,ZD,ZE,↓reduceIte,reduceIte,ZF,ZG,ZH,ZI,ZJ,reduceCtorEq,ZK,↓zU,↓zD,zV,zT,zW]
    refine⟨(j+1,nx2+1,?zoA0),⟨by show j+1<=9; omega,by show nx1<nx2+1; omega,fun q hq=>?_,?_⟩,?zwA0,by show 9-(j+1)<9-j; omega⟩
    case zwA0=>
     (refine Weak.same ?_; simp only [sameF,Fr.get,↓reduceIte,reduceIte,Nat.reduceEqDiff,reduceCtorEq,D.int.injEq,D.bool.injEq,D.sl.injEq,and_true,true_and,and_self,hgs])
     exact wrap_up (by omega)
    ·simp only; rw [look_cons,if_neg (by omega)]; exact hold2 q hq
    ·simp only; rw [look_cons,if_neg (by omega)]; exact hnode
   ·rw [if_neg ho] at hgs
    have e1:(o==n.op)= false:=by rw [beq_eq_false_iff_ne]; exact fun e=>ho e.symm
    simp only [ZA,ZB,ZC,ZD,ZE,↓reduceIte,reduceIte,ZF,ZG,ZH,ZI,ZJ,reduceCtorEq,ZK,↓zU,↓zD,zV,zT,zW,hdj,hat,show rulesR.length=9 from rfl,hnode,z3,e1]
    (repeat refine sd ?_)
    refine⟨(j+1,nx2+1,?zoB0),⟨by show j+1<=9; omega,by show nx1<nx2+1; omega,fun q hq=>?_,?_⟩,?zwB0,by show 9-(j+1)<9-j; omega⟩
    case zwB0=>
     (refine Weak.same ?_; simp only [sameF,Fr.get,↓reduceIte,reduceIte,Nat.reduceEqDiff,reduceCtorEq,D.int.injEq,D.bool.injEq,D.sl.injEq,and_true,true_and,and_self,hgs])
     exact wrap_up (by omega)
    ·simp only; rw [look_cons,if_neg (by omega)]; exact hold2 q hq
    ·simp only; rw [look_cons,if_neg (by omega)]; exact hnode
  have hdj:¬ ((j:Int)<9):=by omega
  obtain rfl:j=9:=by omega
  rw [gotD_nine]
  simp only [ZA,ZB,ZC,ZD,ZE,↓reduceIte,reduceIte,ZF,ZG,ZH,ZI,ZJ,reduceCtorEq,ZK,↓zU,↓zD,zV,zT,zW,hdj]
  refine .keep ?_
  have hend:∀ (fr:Fr),sameF fr [(43,.int .i64 ((0+1:Nat):Int)),(42,.int .i64 c.length),(41,.sl 6 (ndR c)),(9,.osl nx2 1 (0+1)),(8,.ref kc 6 0 0)]->∃ b:Nat × Nat × Nat × List (Nat × Ob),
    (b.1<=c.length/\nb<=b.2.2.1/\(∀ k,k<nb->St.look b.2.2.2 k=St.look objs0 k)/\ (0<b.1->nb<=b.2.1/\b.2.1<b.2.2.1/\St.look b.2.2.2 b.2.1=some ⟨1,valsD rs A T c b.1⟩))/\
    Weak ⟨Tryz.prog,97,0,[]⟩ fr ⟨nx2+1,(nx2,⟨1,valsD rs A T c (0+1)⟩) :: objs2⟩ [(43,.int .i64 b.1),(42,.int .i64 c.length),(41,.sl 6 (ndR c)),(9,growD b.2.1 1 (valsD rs A T c b.1)),(8,.ref kc 6 0 0)] ⟨b.2.2.1,b.2.2.2⟩/\ c.length-b.1<c.length-0:=by
   intro fr hfr
   have hvl':=valsD_len rs A T c (0+1)
   have hne':valsD rs A T c (0+1)≠ []:=fun e=>by rw [e] at hvl'; simp at hvl'
   refine⟨(0+1,nx2,nx2+1,_),⟨by show 0+1<=c.length; omega,by show nb<=nx2+1; omega,fun q hq=>?_,fun _=>⟨by show nb<=nx2; omega,Nat.lt_succ_self _,?_⟩⟩,Weak.same ?_,by show c.length-(0+1)<c.length-0; omega⟩
   ·simp only; rw [look_cons,if_neg (by omega)]; rw [hold2 q (by omega),hold q hq]
   ·simp only; rw [look_cons,if_pos rfl]
   ·simp only
    rw [growD_ne hne',hvl']; exact hfr
  by_cases hop:n.op ∈ opsT
  ·rw [if_pos hop]
   have hsx:=hsucc
   generalize nodeP rs A T n ((tabsP rs A T c 0).getD n.x.toNat fun _=>false) ((tabsP rs A T c 0).getD n.y.toNat fun _=>false)= φ at hsx
   obtain⟨e,r,her⟩:=tabR_cons R1 φ
   have hp:((D.sl 1 (e :: r)).isPure)= true:=rfl
   rw [her] at hsx ⊢
   simp only [ZA,ZB,ZC,ZD,ZE,↓reduceIte,reduceIte,ZF,ZG,ZH,ZI,ZJ,reduceCtorEq,ZK,↓zU,↓zD,zV,zT,zW,hp ]
   (repeat refine sd ?_)
   rw [show valsD rs A T c 0 = [] from rfl,List.nil_append] at hsx
   rw [<- hsx]
   refine hend _ ?_
   simp only [sameF,Fr.get,↓reduceIte,reduceIte,Nat.reduceEqDiff,reduceCtorEq,D.int.injEq,D.osl.injEq,and_true,true_and,and_self]; exact wrap_up (k:=0) (by omega)
  ·rw [if_neg hop]
   have hc:=bool39 (nx:=nx2) (objs:=objs2) ok hopd hn3 .nils .nils hS2.c
   rw [hnr,<- nodeP_bool hop] at hc
   have hsx:=hsucc
   generalize nodeP rs A T n ((tabsP rs A T c 0).getD n.x.toNat fun _=>false) ((tabsP rs A T c 0).getD n.y.toNat fun _=>false)= φ at hsx hc
   simp only [ZA,ZB,ZC,ZD,ZE,↓reduceIte,reduceIte,ZF,ZG,ZH,ZI,ZJ,reduceCtorEq,ZK,↓zU,↓zD,zV,zT,zW,hnode]
   (repeat refine sd ?_)
   refine .go hc ?_
   simp only [ZA,ZB,ZC,ZD,ZE,↓reduceIte,reduceIte,ZF,ZG,ZH,ZI,ZJ,reduceCtorEq,ZK,↓zU,↓zD,zV,zT,zW,hnode]
   (repeat refine sd ?_)
   rw [show valsD rs A T c 0 = [] from rfl,List.nil_append] at hsx
   rw [<- hsx]
   refine hend _ ?_
   simp only [sameF,Fr.get,↓reduceIte,reduceIte,Nat.reduceEqDiff,reduceCtorEq,D.int.injEq,D.osl.injEq,and_true,true_and,and_self]; exact wrap_up (k:=0) (by omega)
 ·have hdp:((0:Int)<(k:Int)):=by omega
  obtain⟨v1,v2,v3⟩:=hval hkp
  have hvl:=valsD_len rs A T c k
  have hne:valsD rs A T c k ≠ []:=fun e=>by rw [e] at hvl; simp at hvl; omega
  rw [growD_ne hne,hvl]
  have hxk:0<=n.x/\n.x.toNat<k:=by
   cases hu:(usesA n.op).1.x with
   | true=>exact ox hu
   | false=>rw [ox0 hu]; exact⟨Int.le_refl _,hkp⟩
  have hyk:0<=n.y/\n.y.toNat<k:=by
   cases hu:(usesA n.op).1.y with
   | true=>exact oy hu
   | false=>rw [oy0 hu]; exact⟨Int.le_refl _,hkp⟩
  have hgx:=valsD_get (rs:=rs) (A:=A) (T:=T) (c:=c) hxk.2
  have hgy:=valsD_get (rs:=rs) (A:=A) (T:=T) (c:=c) hyk.2
  have hopd:OpsD n rs.length T ((tabsP rs A T c k).getD n.x.toNat fun _=>false) ((tabsP rs A T c k).getD n.y.toNat fun _=>false) (.sl 1 (tabR rs.length T ((tabsP rs A T c k).getD n.x.toNat fun _=>false))) (.sl 1 (tabR rs.length T ((tabsP rs A T c k).getD n.y.toNat fun _=>false))):=⟨fun _=>rfl,fun _=>rfl⟩
  have z1:¬ nx1=kv:=by omega
  simp only [ZA,ZB,ZC,ZD,ZE,↓reduceIte,reduceIte,ZF,ZG,ZH,ZI,ZJ,reduceCtorEq,ZK,↓zU,↓zD,zV,zT,zW,hd,ndR_len,hng,hdp,v3,hvl,hgx,hgy,z1]
  (repeat refine sd ?_)
  refine .go (cq rules38) ?_
  simp only [ZA,ZB,ZC,ZD,ZE,↓reduceIte,reduceIte,ZF,ZG,ZH,ZI,ZJ,reduceCtorEq,ZK,↓zU,↓zD,zV,zT,zW]
  (repeat refine sd ?_)
  rw [show rulesR.length=9 from rfl]
  refine wpS_loopW (fun b:Nat × Nat × List (Nat × Ob)=>[(62,.int .i64 b.1),(61,.int .i64 9),(60,.sl 2 rulesR),(14,gotD rs A T n ((tabsP rs A T c k).getD n.x.toNat fun _=>false) ((tabsP rs A T c k).getD n.y.toNat fun _=>false) b.1),(43,.int .i64 (k:Nat)),(42,.int .i64 c.length),(41,.sl 6 (ndR c)),(13,(.sl 1 (tabR rs.length T ((tabsP rs A T c k).getD n.y.toNat fun _=>false)))),(12,(.sl 1 (tabR rs.length T ((tabsP rs A T c k).getD n.x.toNat fun _=>false)))),(11,.ref nx1 6 0 0),(9,.osl kv 1 k),(8,.ref kc 6 0 0)]) (fun b=>⟨b.2.1,b.2.2⟩)
   (fun b=>b.1<=9/\nx1<b.2.1/\(∀ q,q<nx1->St.look b.2.2 q=St.look objs1 q)/\ St.look b.2.2 nx1=some ⟨6,[[.int .i64 n.op,.int .i64 n.i,.int .i64 n.e,.int .i64 n.g,.int .i64 n.x,.int .i64 n.y]]⟩) (fun b=>9-b.1)
   (0,nx1+1,(nx1,⟨6,[[.int .i64 n.op,.int .i64 n.i,.int .i64 n.e,.int .i64 n.g,.int .i64 n.x,.int .i64 n.y]]⟩) :: objs1) ⟨Nat.zero_le _,Nat.lt_succ_self _,fun q hq=>?_,?_⟩ ?_ ?_
  ·simp only; rw [look_cons,if_neg (by omega)]
  ·simp only; rw [look_cons,if_pos rfl]
  ·(refine Weak.same ?_; simp [sameF,Fr.get,gotD])
  rintro ⟨j,nx2,objs2⟩ ⟨hj,hn2,hold2,hnode⟩
  simp only at hj hn2 hold2 hnode ⊢
  have hS2:ChkS rs A F T kc ks km objs2:=hS.frame hB fun q hq=>by rw [hold2 q (by omega),hold q hq]
  refine wpS_go mixed ?_
  by_cases hj9:j<9
  ·have hdj:((j:Int)<9):=by omega
   obtain⟨o,g,hat,hop,hrun⟩:=rule_at hj9
   have hgs:=gotD_succ (rs:=rs) (A:=A) (T:=T) (n:=n) (x:=((tabsP rs A T c k).getD n.x.toNat fun _=>false)) (y:=((tabsP rs A T c k).getD n.y.toNat fun _=>false)) hj9
   rw [hop] at hgs
   have z3:¬ nx2=nx1:=by omega
   by_cases ho:n.op=o
   ·have hc:=hrun (nx:=nx2+1) (objs:=(nx2,⟨2,[[.int .i64 o,.fn g []]]⟩) :: objs2) ok (hS2.mono' (nx2:=nx2) (nb:=nb) hB (by omega) _) hopd hni ho
    rw [hnr] at hc
    rw [if_pos ho] at hgs
    have e1:(o==n.op)= true:=by rw [ho]; exact beq_self_eq_true _
    simp only [ZA,ZB,ZC,ZD,ZE,↓reduceIte,reduceIte,ZF,ZG,ZH,ZI,ZJ,reduceCtorEq,ZK,↓zU,↓zD,zV,zT,zW,hdj,hat,show rulesR.length=9 from rfl,hnode,z3,e1]
    (repeat refine sd ?_)
    refine .go hc ?_
    simp only [ZA,ZB,ZC,ZD,ZE,↓reduceIte,reduceIte,ZF,ZG,ZH,ZI,ZJ,reduceCtorEq,ZK,↓zU,↓zD,zV,zT,zW]
    refine⟨(j+1,nx2+1,?zoAk),⟨by show j+1<=9; omega,by show nx1<nx2+1; omega,fun q hq=>?_,?_⟩,?zwAk,by show 9-(j+1)<9-j; omega⟩
    case zwAk=>
     (refine Weak.same ?_; simp only [sameF,Fr.get,↓reduceIte,reduceIte,Nat.reduceEqDiff,reduceCtorEq,D.int.injEq,D.bool.injEq,D.sl.injEq,and_true,true_and,and_self,hgs])
     exact wrap_up (by omega)
    ·simp only; rw [look_cons,if_neg (by omega)]; exact hold2 q hq
    ·simp only; rw [look_cons,if_neg (by omega)]; exact hnode
   ·rw [if_neg ho] at hgs
    have e1:(o==n.op)= false:=by rw [beq_eq_false_iff_ne]; exact fun e=>ho e.symm
    simp only [ZA,ZB,ZC,ZD,ZE,↓reduceIte,reduceIte,ZF,ZG,ZH,ZI,ZJ,reduceCtorEq,ZK,↓zU,↓zD,zV,zT,zW,hdj,hat,show rulesR.length=9 from rfl,hnode,z3,e1]
    (repeat refine sd ?_)
    refine⟨(j+1,nx2+1,?zoBk),⟨by show j+1<=9; omega,by show nx1<nx2+1; omega,fun q hq=>?_,?_⟩,?zwBk,by show 9-(j+1)<9-j; omega⟩
    case zwBk=>
     (refine Weak.same ?_; simp only [sameF,Fr.get,↓reduceIte,reduceIte,Nat.reduceEqDiff,reduceCtorEq,D.int.injEq,D.bool.injEq,D.sl.injEq,and_true,true_and,and_self,hgs])
     exact wrap_up (by omega)
    ·simp only; rw [look_cons,if_neg (by omega)]; exact hold2 q hq
    ·simp only; rw [look_cons,if_neg (by omega)]; exact hnode
  have hdj:¬ ((j:Int)<9):=by omega
  obtain rfl:j=9:=by omega
  rw [gotD_nine]
  simp only [ZA,ZB,ZC,ZD,ZE,↓reduceIte,reduceIte,ZF,ZG,ZH,ZI,ZJ,reduceCtorEq,ZK,↓zU,↓zD,zV,zT,zW,hdj]
  refine .keep ?_
  have hend:∀ (fr:Fr),sameF fr [(43,.int .i64 ((k+1:Nat):Int)),(42,.int .i64 c.length),(41,.sl 6 (ndR c)),(9,.osl nx2 1 (k+1)),(8,.ref kc 6 0 0)]->∃ b:Nat × Nat × Nat × List (Nat × Ob),
    (b.1<=c.length/\nb<=b.2.2.1/\(∀ k,k<nb->St.look b.2.2.2 k=St.look objs0 k)/\ (0<b.1->nb<=b.2.1/\b.2.1<b.2.2.1/\St.look b.2.2.2 b.2.1=some ⟨1,valsD rs A T c b.1⟩))/\
    Weak ⟨Tryz.prog,97,0,[]⟩ fr ⟨nx2+1,(nx2,⟨1,valsD rs A T c (k+1)⟩) :: eraseL objs2 kv⟩ [(43,.int .i64 b.1),(42,.int .i64 c.length),(41,.sl 6 (ndR c)),(9,growD b.2.1 1 (valsD rs A T c b.1)),(8,.ref kc 6 0 0)] ⟨b.2.2.1,b.2.2.2⟩/\ c.length-b.1<c.length-k:=by
   intro fr hfr
   have hvl':=valsD_len rs A T c (k+1)
   have hne':valsD rs A T c (k+1)≠ []:=fun e=>by rw [e] at hvl'; simp at hvl'
   refine⟨(k+1,nx2,nx2+1,_),⟨by show k+1<=c.length; omega,by show nb<=nx2+1; omega,fun q hq=>?_,fun _=>⟨by show nb<=nx2; omega,Nat.lt_succ_self _,?_⟩⟩,Weak.same ?_,by show c.length-(k+1)<c.length-k; omega⟩
   ·simp only; rw [look_cons,if_neg (by omega)]; rw [look_eraseL,if_neg (by omega),hold2 q (by omega),hold q hq]
   ·simp only; rw [look_cons,if_pos rfl]
   ·simp only
    rw [growD_ne hne',hvl']; exact hfr
  by_cases hop:n.op ∈ opsT
  ·rw [if_pos hop]
   have hsx:=hsucc
   generalize nodeP rs A T n ((tabsP rs A T c k).getD n.x.toNat fun _=>false) ((tabsP rs A T c k).getD n.y.toNat fun _=>false)= φ at hsx
   obtain⟨e,r,her⟩:=tabR_cons R1 φ
   have hp:((D.sl 1 (e :: r)).isPure)= true:=rfl
   rw [her] at hsx ⊢
   simp only [ZA,ZB,ZC,ZD,ZE,↓reduceIte,reduceIte,ZF,ZG,ZH,ZI,ZJ,reduceCtorEq,ZK,↓zU,↓zD,zV,zT,zW,hp ,(hold2 kv v2).trans v3,hvl]
   (repeat refine sd ?_)
   rw [List.take_of_length_le (by omega),<- hsx]
   refine hend _ ?_
   simp only [sameF,Fr.get,↓reduceIte,reduceIte,Nat.reduceEqDiff,reduceCtorEq,D.int.injEq,D.osl.injEq,and_true,true_and,and_self]; exact wrap_up (k:=k) (by omega)
  ·rw [if_neg hop]
   have hc:=bool39 (nx:=nx2) (objs:=objs2) ok hopd hn3 (.sl _ _) (.sl _ _) hS2.c
   rw [hnr,<- nodeP_bool hop] at hc
   have hsx:=hsucc
   generalize nodeP rs A T n ((tabsP rs A T c k).getD n.x.toNat fun _=>false) ((tabsP rs A T c k).getD n.y.toNat fun _=>false)= φ at hsx hc
   simp only [ZA,ZB,ZC,ZD,ZE,↓reduceIte,reduceIte,ZF,ZG,ZH,ZI,ZJ,reduceCtorEq,ZK,↓zU,↓zD,zV,zT,zW,hnode]
   (repeat refine sd ?_)
   refine .go hc ?_
   simp only [ZA,ZB,ZC,ZD,ZE,↓reduceIte,reduceIte,ZF,ZG,ZH,ZI,ZJ,reduceCtorEq,ZK,↓zU,↓zD,zV,zT,zW,(hold2 kv v2).trans v3,hvl]
   (repeat refine sd ?_)
   rw [List.take_of_length_le (by omega),<- hsx]
   refine hend _ ?_
   simp only [sameF,Fr.get,↓reduceIte,reduceIte,Nat.reduceEqDiff,reduceCtorEq,D.int.injEq,D.osl.injEq,and_true,true_and,and_self]; exact wrap_up (k:=k) (by omega)
end
end Go.Pd
