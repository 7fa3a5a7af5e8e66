/- Part SK. -/
import Derived.Test.YtjklmijiccabfaaGreatRSJ
import Derived.Test.YtjklmijiccabfaaGreatRSL
set_option linter.unusedSectionVars false
set_option linter.unusedVariables false
set_option linter.unusedSimpArgs false
set_option linter.defProp false
set_option maxRecDepth 20000
set_option maxHeartbeats 1000000
namespace Go.Pd
open Go Go.Proofs
open Int renaming reduceToNat -> ZA, reduceLT -> ZB, reduceLE -> ZC, reduceBEq -> ZD, reduceBNe -> ZE
open Nat renaming reduceEqDiff -> ZF, reduceAdd -> ZG, reduceBEq -> ZH, reduceLT -> ZI, reduceLeDiff -> ZJ, reduceMul -> ZK
open Ru
theorem okR_chk {rs:List RunA} {A F T:Nat} (ok:OkR rs A F T):chk ⟨A,F,T,rs⟩= 0:=by
 obtain⟨h1,h2,h3,h4,h5,h6,h7,h8,h9⟩:=ok
 unfold chk
 simp only
 have hp:((rs.length*T:Nat):Int)<=512:=by omega
 rw [Int.natCast_mul] at hp
 rw [if_neg (by omega),if_neg (by omega),if_neg (by omega),if_neg,if_neg]
 ·rw [Bool.not_eq_true,List.any_eq_false]
  intro r hr
  simp only [badV,Int.toNat_natCast,List.any_eq_true,not_exists,not_and]
  intro f hf
  simp [h9 r hr f hf]
 ·rw [Bool.not_eq_true,List.any_eq_false]
  intro r hr
  have hrow:=h8 r hr
  simp only [badF,h6 r hr,h7 r hr,decide_true,Bool.not_true,Bool.false_or,List.any_eq_true,not_exists,not_and]
  intro l hl
  simp [hrow l hl]
theorem rows_zero (A:Nat):rows .i64 ((List.range A).map fun _=>(0:Int))= List.replicate A [.int .i64 0]:=by
 refine List.ext_getElem (by simp [rows]) fun i h1 h2=>by simp [rows]
theorem renumber36 {rs:List RunA} {A F T:Nat} (ok:OkR rs A F T) {g:FuncId} {kf:Nat->Nat × Nat->List Int} (hkf:KeyOk g A F T rs kf) :
  CallT Tryz.prog 34 [sD A F T rs,.fn g [.ref 0 4 0 0]] ⟨2,[(1,⟨4,[[.int .i64 0,.int .i64 0,.int .i64 0,.nils]]⟩),(0,⟨4,[[.int .i64 (A:Int),.int .i64 (F:Int),.int .i64 (T:Int),.sl 2 (runR rs)]]⟩)]⟩
   (.tup [sD A F T (renR rs A T (rankA kf (ptN T (rs.length*T)))),.int .i64 0]) ⟨2,[(1,⟨4,[[.int .i64 0,.int .i64 0,.int .i64 0,.nils]]⟩),(0,⟨4,[[.int .i64 (A:Int),.int .i64 (F:Int),.int .i64 (T:Int),.sl 2 (runR rs)]]⟩)]⟩:=by
 have hC:=Check31 ⟨A,F,T,rs⟩
 have hP:=Points29 ⟨A,F,T,rs⟩
 obtain⟨T1,T16⟩:=ok.hT
 obtain⟨R1,R64⟩:=ok.hR
 have hz:=okR_chk ok
 rw [hz] at hC
 have ep:ptsA ⟨A,F,T,rs⟩= ptN T (rs.length*T):=by unfold ptsA; rw [if_neg (by simpa using hz)]; rfl
 rw [ep] at hP
 have hD:SysA.d ⟨A,F,T,rs⟩= .agg [.int .i64 (A:Int),.int .i64 (F:Int),.int .i64 (T:Int),.sl 2 (runR rs)]:=rfl
 rw [hD] at hC hP
 have hA:=ok.hA
 have hin:Inb rs T (ptN T (rs.length*T)):=ptN_in T1 (Nat.le_refl _)
 have hln:=ptN_len T (rs.length*T)
 have hlg:∀ w,w<rs.length*T->(ptN T (rs.length*T)).getD w (0,0)= (w / T,w % T):=fun w h=>ptN_get T h
 have hRT:=ok.hP
 have hRT1:1<=rs.length*T:=Nat.mul_le_mul R1 T1
 generalize ptN T (rs.length*T)= l at hP hin hln hlg ⊢
 unfold sD
 refine CallT.go_fn mixed Tryz.func34 k34 (by simp) fun hf=>?_
 simp only [ZA,ZB,ZC,ZD,ZE,↓reduceIte,reduceIte,ZF,ZG,ZH,ZI,ZJ,reduceCtorEq,ZK,↓zU,↓zD,zV,zT,zW]
 (repeat refine sd ?_)
 refine .go (cq hC) ?_
 simp only [ZA,ZB,ZC,ZD,ZE,↓reduceIte,reduceIte,ZF,ZG,ZH,ZI,ZJ,reduceCtorEq,ZK,↓zU,↓zD,zV,zT,zW,runR_len]
 refine wpS_loop (fun a:Nat × Nat × List (Nat × Ob)=>[(34,.int .i64 a.1),(33,.int .i64 rs.length),(32,.sl 2 (runR rs)),(7,.ref 4 4 0 0),(4,.ref 3 4 0 0),(2,.ref 2 4 0 0),(1,.fn g [.ref 0 4 0 0])]) (fun a=>⟨a.2.1,a.2.2⟩)
  (fun a=>a.1<=rs.length/\a.2.1<=5+60*a.1/\∃ kr kl ki,NI rs A F T a.2.1 a.1 kr kl ki (valN (rankA kf l) A T 0 0) a.2.2) (fun a=>rs.length-a.1) (0,5,[(4,⟨4,[[.int .i64 (A:Int),.int .i64 (F:Int),.int .i64 (T:Int),.nils]]⟩),(3,⟨4,[[.int .i64 0,.int .i64 0,.int .i64 0,.nils]]⟩),(2,⟨4,[[.int .i64 (A:Int),.int .i64 (F:Int),.int .i64 (T:Int),.sl 2 (runR rs)]]⟩),(1,⟨4,[[.int .i64 0,.int .i64 0,.int .i64 0,.nils]]⟩),(0,⟨4,[[.int .i64 (A:Int),.int .i64 (F:Int),.int .i64 (T:Int),.sl 2 (runR rs)]]⟩)]) ⟨Nat.zero_le _,by simp,1000000,fun _=>0,fun _ _=>0,?_⟩ ?_ ?_
 ·exact⟨rfl,rfl,rfl,rfl,rfl,rfl,rfl,by simp,by simp,fun i h=>absurd h (Nat.not_lt_zero _),fun i t h=>absurd h (Nat.not_lt_zero _),fun i j h=>absurd h (Nat.not_lt_zero _),fun i j t h=>absurd h (Nat.not_lt_zero _),fun i j t u h=>absurd h (Nat.not_lt_zero _)⟩
 ·(refine Weak.same ?_; simp [sameF,Fr.get])
 intro ⟨r,nb,objs⟩ ⟨hr,hnb,kr,kl,ki,hI⟩
 simp only at hr hnb hI ⊢
 refine wpS_go mixed ?_
 by_cases hrl:r<rs.length
 case neg=>
  have hd:¬ ((r:Int)<(rs.length:Int)):=by omega
  obtain rfl:rs.length=r:=by omega
  have hl2:=hI.l2
  simp only [ZA,ZB,ZC,ZD,ZE,↓reduceIte,reduceIte,ZF,ZG,ZH,ZI,ZJ,reduceCtorEq,ZK,↓zU,↓zD,zV,zT,zW,hd,hl2]
  refine .go (cq hP) ?_
  simp only [ZA,ZB,ZC,ZD,ZE,↓reduceIte,reduceIte,ZF,ZG,ZH,ZI,ZJ,reduceCtorEq,ZK,↓zU,↓zD,zV,zT,zW,hl2]
  refine wpS_loopW (fun a:Nat × Nat × List (Nat × Ob)=>[(66,.int .i64 a.1),(65,.int .i64 A),(11,.sl 2 (ptR l)),(7,.ref 4 4 0 0),(4,.ref 3 4 0 0),(1,.fn g [.ref 0 4 0 0])]) (fun a=>⟨a.2.1,a.2.2⟩)
   (fun a=>a.1<=A/\nb<=a.2.1/\a.2.1<=5000+4000*a.1/\NI rs A F T nb rs.length kr kl ki (valN (rankA kf l) A T a.1 0) a.2.2) (fun a=>A-a.1) (0,nb,objs) ⟨Nat.zero_le _,Nat.le_refl _,by simp only; omega,hI⟩ ?_ ?_
  ·(refine Weak.same ?_; simp [sameF,Fr.get])
  clear hI hl2
  intro ⟨a,nx,objs⟩ ⟨ha,hx1,hx2,hI⟩
  simp only at ha hx1 hx2 hI ⊢
  have k5:=hI.k5
  refine wpS_go mixed ?_
  by_cases hal:a<A
  case neg=>
   have hd:¬ ((a:Int)<(A:Int)):=by omega
   obtain rfl:A=a:=by omega
   have hkr:kr<nb:=by
    rcases hI.hk.2 with e | e
    ·exact e
    ·have:=hI.lr
     rw [e,hI.fr,growG_pos (by rw [rowsN_len]; omega)] at this
     cases this
   have hk5:=hI.hk.1
   have hren:renR rs A T (rankA kf l)= (List.range rs.length).map fun i=>⟨(List.range T).map (valN (rankA kf l) A T A 0 i),(rs.getD i run0).fac⟩:=by
    unfold renR
    refine List.map_congr_left fun i _=>?_
    congr 1
    exact List.map_congr_left fun t _=>(valN_end _ _ _ _ _).symm
   have hrl':(runR (renR rs A T (rankA kf l))).length=rs.length:=by simp [runR,renR]
   generalize renR rs A T (rankA kf l)= rs' at hren hrl' ⊢
   simp only [ZA,ZB,ZC,ZD,ZE,↓reduceIte,reduceIte,ZF,ZG,ZH,ZI,ZJ,reduceCtorEq,ZK,↓zU,↓zD,zV,zT,zW,hd]
   refine .go _ _ ((freeze1 hI rfl hx1 (by omega) (fun i t _ _=>valN_len _ _ _ _ _ _ _) (by simp [Fr.get]) (by simp [Fr.get])).trans (freeze2 (rs':=rs') hI rfl hx1 (by omega) (fun i _=>by simp [rl]) hren)) ?_
   unfold fz2
   have z1:¬ kr=3:=by omega
   have z2:¬ kr=4:=by omega
   simp only [ZA,ZB,ZC,ZD,ZE,↓reduceIte,reduceIte,ZF,ZG,ZH,ZI,ZJ,reduceCtorEq,ZK,↓zU,↓zD,zV,zT,zW,z1,z2]
   have z3:¬ kr=1:=by omega
   have z4:¬ kr=0:=by omega
   (refine RetV.ren [] [1,0] (by simp) (by simp) (by decide) ?_; simp only [stay1,vwL,vw,vwF,sw,St.get,St.look,Fr.get,↓reduceIte,reduceIte,Nat.reduceEqDiff,Nat.reduceAdd,Nat.reduceBEq,Nat.reduceLT,Nat.reduceLeDiff,exists_eq_left',ne_eq,reduceCtorEq,zR,z1,z2,z3,z4])
   refine⟨fun p hp=>?_,⟨2,runR rs'⟩,by rw [if_neg (by omega)],rfl,by rw [hrl']; exact Nat.le_refl _,(take_all hrl'.symm).symm,runR_pure rs'⟩
   rcases hp with rfl | rfl | h
   ·exact fun e=>z3 e.symm
   ·exact fun e=>z4 e.symm
   ·exact h.elim
  have hd:((a:Int)<(A:Int)):=by omega
  simp only [ZA,ZB,ZC,ZD,ZE,↓reduceIte,reduceIte,ZF,ZG,ZH,ZI,ZJ,reduceCtorEq,ZK,↓zU,↓zD,zV,zT,zW,hd]
  refine wpS_loop (fun b:Nat × Nat × List (Nat × Ob) × Nat=>[(71,.int .i64 b.1),(70,.int .i64 l.length),(69,.sl 2 (ptR l)),(66,.int .i64 a),(65,.int .i64 A),(13,growD b.2.2.2 1 (rl ((l.map (kf a)).take b.1))),(12,.int .i64 a),(11,.sl 2 (ptR l)),(7,.ref 4 4 0 0),(4,.ref 3 4 0 0),(1,.fn g [.ref 0 4 0 0])]) (fun b=>⟨b.2.1,b.2.2.1⟩)
   (fun b=>b.1<=l.length/\nx<=b.2.1/\b.2.1<=nx+4*b.1/\(∀ k,k<nx->St.look b.2.2.1 k=St.look objs k)/\ St.look b.2.2.1 1000000=none/\St.look b.2.2.1 b.2.2.2=growG 1 (rl ((l.map (kf a)).take b.1))/\ ((nx<=b.2.2.2/\b.2.2.2<b.2.1)\/b.2.2.2=1000000)) (fun b=>l.length-b.1) (0,nx,objs,1000000)
   ⟨Nat.zero_le _,Nat.le_refl _,by simp only; omega,fun _ _=>rfl,hI.fr,hI.fr,.inr rfl⟩ ?_ ?_
  ·(refine Weak.same ?_; simp [sameF,Fr.get,ptR_len,rl,growD])
  intro ⟨w,nx1,objs1,kk⟩ ⟨hw,w1,w2,w3,w4,w5,w6⟩
  simp only at hw w1 w2 w3 w4 w5 w6 ⊢
  refine wpS_go mixed ?_
  by_cases hwl:w<l.length
  ·have hd2:((w:Int)<(l.length:Int)):=by omega
   have hp:=hin _ (getD_mem (d:=(0,0)) hwl)
   have hpg:=ptR_get l hwl
   have hS:(l.map (kf a)).take (w+1)= (l.map (kf a)).take w ++ [kf a (l.getD w (0,0))]:=by
    rw [take_snoc (d:=[]) (by rw [List.length_map]; exact hwl)]
    congr 2
    simp [List.getD,hwl]
   have htl:((l.map (kf a)).take w).length=w:=by rw [List.length_take,List.length_map]; omega
   generalize l.getD w (0,0)= p at hp hpg hS
   obtain⟨p1,p2⟩:=p
   simp only at hp hpg
   have hk1:=hkf ⟨nx1+1,(nx1,⟨2,[[.int .i64 p1,.int .i64 p2]]⟩) :: objs1⟩ a (p1,p2) (by simp) (by rw [look_ne (by omega),w3 0 (by omega)]; exact hI.l0) hal hp
   simp only [List.cons_append,List.nil_append] at hk1
   generalize kf a (p1,p2)= key at hk1 hS
   generalize (l.map (kf a)).take w=ks at hS htl w5
   have y6:¬ nx1=kk:=by omega
   have y7:¬ nx1+1=kk:=by omega
   have y8:¬ nx1+1+1=kk:=by omega
   simp only [ZA,ZB,ZC,ZD,ZE,↓reduceIte,reduceIte,ZF,ZG,ZH,ZI,ZJ,reduceCtorEq,ZK,↓zU,↓zD,zV,zT,zW,hd2,ptR_len,hpg]
   (repeat refine sd ?_)
   refine .go hk1 ?_
   simp only [ZA,ZB,ZC,ZD,ZE,↓reduceIte,reduceIte,ZF,ZG,ZH,ZI,ZJ,reduceCtorEq,ZK,↓zU,↓zD,zV,zT,zW,w5,y6,y7,y8,rl_len,htl]
   refine⟨by omega,by omega,⟨(w+1,?znc,?zoc,nx1+1+1+1),?e1,?e2,by show l.length-(w+1)<l.length-w; omega⟩⟩
   case e2=>
    simp only [hS,<- rl_snoc]
    (refine Weak.same ?_; simp only [sameF,Fr.get,↓reduceIte,reduceIte,Nat.reduceEqDiff,reduceCtorEq,D.int.injEq,D.bool.injEq,D.sl.injEq,and_true,true_and,and_self])
    exact wrap_i64 (by omega)
   case e1=>
    have hpos:0<(rl ks ++ [[D.sl 1 (rows .i64 key)]]).length:=by simp
    refine⟨by show w+1<=l.length; omega,by show nx<=nx1+1+1+1+1; omega,by show nx1+1+1+1+1<=nx+4*(w+1); omega,fun k hk=>?_,?_,?_,.inl ⟨by show nx<=nx1+1+1+1; omega,by show nx1+1+1+1<nx1+1+1+1+1; omega⟩⟩
    ·show St.look (growO _ _ _++_) _=_
     rw [look_growO,if_neg (by omega),look_ne (by omega),look_ne (by omega),look_ne (by omega),look_eraseL,if_neg (by omega),w3 k hk]
    ·show St.look (growO _ _ _++_) _=_
     rw [look_growO,if_neg (by omega),look_ne (by omega),look_ne (by omega),look_ne (by omega),look_eraseL]
     split
     ·rfl
     ·exact w4
    ·show St.look (growO _ _ _++_) (nx1+1+1+1)= growG 1 (rl (List.take (w+1) _))
     rw [hS,<- rl_snoc,look_growO,if_pos rfl,growG_pos hpos]; rfl
  have hd2:¬ ((w:Int)<(l.length:Int)):=by omega
  have hmp:(l.map (kf a)).take w=l.map (kf a):=take_all (by rw [List.length_map]; omega)
  rw [hmp] at w5 ⊢
  have hnum:∀ p,rankA kf l a p=below (dedup (ascS (l.map (kf a)))) (kf a p):=fun p=>rfl
  have hLl:(l.map (kf a)).length=rs.length*T:=by rw [List.length_map,hln]
  generalize hLe:l.map (kf a)= L at w5 hnum hLl
  have hgk:growD kk 1 (rl L)= .osl kk 1 L.length:=by rw [grow_pos (by rw [rl_len]; omega),rl_len]
  rw [growG_pos (by rw [rl_len]; omega)] at w5
  have hkk:nx<=kk/\kk<nx1:=by
   rcases w6 with e | e
   ·exact e
   ·rw [e,w4] at w5; cases w5
  have hsl:(ascS L).length=L.length:=(ascS_perm L).length_eq
  have hso:=sortB_runs (σ:=⟨nx1,objs1⟩) (key:=kk) (l:=L) w5 (by intro e; rw [e] at hLl; simp at hLl; omega) (by omega)
  have hco:=compact57 (σ:=⟨nx1,setL objs1 kk ⟨1,rl (ascS L)⟩⟩) (key:=kk) (l:=ascS L) (look_set1 w5) (by omega) (by intro e; rw [e] at hsl; simp at hsl; omega)
  rw [hsl] at hco
  have hasc:=ascS_asc L
  have hma:asc (dedup (ascS L)):=dedup_asc hasc
  have hml:(dedup (ascS L)).length<=1000:=by
   have:=ddTo_le (ascS L) (ascS L).length
   unfold dedup; omega
  have hlk2:St.look (setL (setL objs1 kk ⟨1,rl (ascS L)⟩) kk ⟨1,ddE (ascS L)⟩) kk=some ⟨1,rl (dedup (ascS L))++ List.replicate ((ascS L).length-(dedup (ascS L)).length) [.nils]⟩:=look_set1 (look_set1 w5)
  have hold2:∀ k,k<nx->St.look (setL (setL objs1 kk ⟨1,rl (ascS L)⟩) kk ⟨1,ddE (ascS L)⟩) k=St.look objs k:=fun k hk=>by
   rw [look_setL,if_neg (by omega),look_setL,if_neg (by omega),w3 k hk]
  have hfr2:St.look (setL (setL objs1 kk ⟨1,rl (ascS L)⟩) kk ⟨1,ddE (ascS L)⟩) 1000000=none:=by
   rw [look_setL,if_neg (by omega),look_setL,if_neg (by omega),w4]
  simp only [ZA,ZB,ZC,ZD,ZE,↓reduceIte,reduceIte,ZF,ZG,ZH,ZI,ZJ,reduceCtorEq,ZK,↓zU,↓zD,zV,zT,zW,hd2,hgk]
  refine .go hso ?_
  simp only [ZA,ZB,ZC,ZD,ZE,↓reduceIte,reduceIte,ZF,ZG,ZH,ZI,ZJ,reduceCtorEq,ZK,↓zU,↓zD,zV,zT,zW]
  refine .go hco ?_
  simp only [set_mk]
  generalize setL (setL objs1 kk ⟨1,rl (ascS L)⟩) kk ⟨1,ddE (ascS L)⟩= objs2 at hlk2 hold2 hfr2 ⊢
  have hI2:=hI.frame (objs':=objs2) (fun k hk=>hold2 k (by omega)) hfr2
  generalize hMe:dedup (ascS L)= M at hma hml hlk2 hnum ⊢
  generalize List.replicate ((ascS L).length-M.length) [D.nils]=more at hlk2
  simp only [ZA,ZB,ZC,ZD,ZE,↓reduceIte,reduceIte,ZF,ZG,ZH,ZI,ZJ,reduceCtorEq,ZK,↓zU,↓zD,zV,zT,zW,ptR_len]
  refine wpS_loop (fun b:Nat × Nat × List (Nat × Ob)=>[(89,.int .i64 b.1),(88,.int .i64 l.length),(87,.sl 2 (ptR l)),(66,.int .i64 a),(65,.int .i64 A),(13,.osl kk 1 M.length),(12,.int .i64 a),(11,.sl 2 (ptR l)),(7,.ref 4 4 0 0),(4,.ref 3 4 0 0),(1,.fn g [.ref 0 4 0 0])]) (fun b=>⟨b.2.1,b.2.2⟩)
   (fun b=>b.1<=l.length/\nx1<=b.2.1/\b.2.1<=nx1+2*b.1/\NI rs A F T nb rs.length kr kl ki (valN (rankA kf l) A T a b.1) b.2.2/\St.look b.2.2 kk=some ⟨1,rl M++more⟩) (fun b=>l.length-b.1) (0,nx1,objs2)
   ⟨Nat.zero_le _,Nat.le_refl _,by simp only; omega,hI2,hlk2⟩ ?_ ?_
  ·(refine Weak.same ?_; simp [sameF,Fr.get])
  clear hI hI2 hlk2 hold2 hfr2
  intro ⟨w,nx2,objs3⟩ ⟨hw,v1,v2,hI,hlk⟩
  simp only at hw v1 v2 hI hlk ⊢
  refine wpS_go mixed ?_
  by_cases hwl:w<l.length
  ·have hd3:((w:Int)<(l.length:Int)):=by omega
   have hp:=hin _ (getD_mem (d:=(0,0)) hwl)
   have hpg:=ptR_get l hwl
   have hpe:=hlg w (by omega)
   have hwe:(w / T)* T+w % T=w:=by rw [Nat.mul_comm]; exact Nat.div_add_mod w T
   rw [hpe] at hp hpg
   generalize w / T=i at hp hpg hwe
   generalize w % T=t at hp hpg hwe
   simp only at hp hpg
   obtain⟨hp1,hp2⟩:=hp
   obtain⟨a1,a2,a3,a4⟩:=hI.ll i hp1
   obtain⟨c1,c2,c3,c4⟩:=hI.li i t hp1 hp2
   have hdm:=hI.dm i i t hp1 hp1 hp2
   have hk5:=hI.k5
   have hkr:kr<nb:=by
    rcases hI.hk.2 with e | e
    ·exact e
    ·have:=hI.lr
     rw [e,hI.fr,growG_pos (by rw [rowsN_len]; omega)] at this
     cases this
   have b4:=hI.l4
   have br:=hI.lr
   have hrow:=rowsN_get rs T kl hp1
   have hrowL:=rowL_get A (ki i) hp2
   have hvl:=valN_len (rankA kf l) A T a w i t
   have hvs:=valN_set (num:=rankA kf l) (A:=A) (a:=a) hwe
   have hne:∀ j u,j<rs.length->u<T->¬ (j=i/\u=t)->valN (rankA kf l) A T a w j u=valN (rankA kf l) A T a (w+1) j u:=fun j u hj hu hne=>valN_ne (fun e=>hne (by
    have h1:(j*T+u)/ T=j:=by rw [Nat.mul_comm,Nat.mul_add_div (by omega),Nat.div_eq_of_lt hu]; rfl
    have h2:(i*T+t)/ T=i:=by rw [Nat.mul_comm,Nat.mul_add_div (by omega),Nat.div_eq_of_lt hp2]; rfl
    have h3:(j*T+u) % T=u:=by rw [Nat.mul_comm,Nat.mul_add_mod,Nat.mod_eq_of_lt hu]
    have h4:(i*T+t) % T=t:=by rw [Nat.mul_comm,Nat.mul_add_mod,Nat.mod_eq_of_lt hp2]
    rw [e] at h1 h3
    rw [hwe] at h2 h4
    exact⟨by omega,by omega⟩))
   rw [hnum (i,t)] at hvs
   have hk1:=hkf ⟨nx2+1,(nx2,⟨2,[[.int .i64 i,.int .i64 t]]⟩) :: objs3⟩ a (i,t) (by simp) (by rw [look_ne (by omega)]; exact hI.l0) hal ⟨hp1,hp2⟩
   simp only [List.cons_append,List.nil_append] at hk1
   generalize kf a (i,t)= key at hk1 hvs
   obtain⟨bb,hse⟩:=search59o (σ:=⟨nx2+1+1,(nx2+1,⟨2,[[.int .i64 i,.int .i64 t]]⟩) :: (nx2,⟨2,[[.int .i64 i,.int .i64 t]]⟩) :: objs3⟩) (key:=kk) (m:=M) (more:=more) key (by show St.look _ _=_; rw [look_ne (by omega),look_ne (by omega)]; exact hlk) hma hml
   have hvg:=rows_get .i64 (valN (rankA kf l) A T a w i t) (show a<_ by rw [hvl]; exact hal)
   have hset:=rows_set .i64 (valN (rankA kf l) A T a w i t) a (below M key)
   rw [hvs] at hset
   generalize hV:valN (rankA kf l) A T a w i t=V at c4 hvl hvg hset
   have y1:¬ nx2=4:=by omega
   have y2:¬ nx2+1=4:=by omega
   have y3:¬ nx2=kr:=by omega
   have y4:¬ nx2+1=kr:=by omega
   have y5:¬ nx2=kl i:=by omega
   have y6:¬ nx2+1=kl i:=by omega
   have y7:¬ nx2=ki i t:=by omega
   have y8:¬ nx2+1=ki i t:=by omega
   have y9:¬ nx2+1=nx2:=by omega
   simp only [ZA,ZB,ZC,ZD,ZE,↓reduceIte,reduceIte,ZF,ZG,ZH,ZI,ZJ,reduceCtorEq,ZK,↓zU,↓zD,zV,zT,zW,hd3,ptR_len,hpg,b4,br,a4,c4,hrow,hrowL,rowsN_len,rowL_len,hvl,y1,y2,y3,y4,y5,y6,y7,y8]
   (repeat refine sd ?_)
   refine .go hk1 ?_
   simp only [ZA,ZB,ZC,ZD,ZE,↓reduceIte,reduceIte,ZF,ZG,ZH,ZI,ZJ,reduceCtorEq,ZK,↓zU,↓zD,zV,zT,zW,hd3,ptR_len,hpg,b4,br,a4,c4,hrow,hrowL,rowsN_len,rowL_len,hvl,y1,y2,y3,y4,y5,y6,y7,y8,y9]
   (repeat refine sd ?_)
   refine .go hse ?_
   simp only [ZA,ZB,ZC,ZD,ZE,↓reduceIte,reduceIte,ZF,ZG,ZH,ZI,ZJ,reduceCtorEq,ZK,↓zU,↓zD,zV,zT,zW,c4,hvl,y7,y8]
   (repeat refine sd ?_)
   have hsg:(rows .i64 V).set a (((rows .i64 V).getD a []).set 0 (D.int .i64 (below M key)))= rows .i64 (valN (rankA kf l) A T a (w+1) i t):=by
    rw [hvg]; exact hset
   simp only [hsg]
   refine⟨(w+1,?znd,?zod),?ze1,?ze2,by show l.length-(w+1)<l.length-w; omega⟩
   case ze2=>
    (refine Weak.same ?_; simp only [sameF,Fr.get,↓reduceIte,reduceIte,Nat.reduceEqDiff,reduceCtorEq,D.int.injEq,D.bool.injEq,D.sl.injEq,and_true,true_and,and_self])
    exact wrap_i64 (by omega)
   case ze1=>
    have hb:nx2+1<1000000:=by omega
    refine⟨by show w+1<=l.length; omega,by show nx1<=nx2+1+1; omega,by show nx2+1+1<=nx1+2*(w+1); omega,?_,?_⟩
    ·refine hI.upd hp1 hp2 hne ?_ (fun k hk1 hk2=>?_) ?_
     ·show St.look _ _=_
      rw [look_ne y8,look_ne y7]; exact look_set1 c4
     ·show St.look _ _=_
      rw [look_ne (by omega),look_ne (by omega),look_setL,if_neg (fun e=>hk2 e.symm)]
     ·show St.look _ _=_
      rw [look_ne (by omega),look_ne (by omega),look_setL,if_neg (by omega)]; exact hI.fr
    ·show St.look _ _=_
     rw [look_ne (by omega),look_ne (by omega),look_setL,if_neg (by omega)]; exact hlk
  have hd3:¬ ((w:Int)<(l.length:Int)):=by omega
  simp only [ZA,ZB,ZC,ZD,ZE,↓reduceIte,reduceIte,ZF,ZG,ZH,ZI,ZJ,reduceCtorEq,ZK,↓zU,↓zD,zV,zT,zW,hd3]
  (repeat refine sd ?_)
  refine⟨(a+1,nx2,objs3),⟨by show a+1<=A; omega,by show nb<=nx2; omega,by show nx2<=5000+4000*(a+1); omega,hI.val fun i t hi ht=>valN_all (by
   have:=Nat.mul_le_mul_right T (show i+1<=rs.length from hi)
   rw [Nat.succ_mul] at this
   omega)⟩,?_,by show A-(a+1)<A-a; omega⟩
  (refine Weak.same ?_; simp only [sameF,Fr.get,↓reduceIte,reduceIte,Nat.reduceEqDiff,reduceCtorEq,D.int.injEq,D.bool.injEq,D.sl.injEq,and_true,true_and,and_self])
  exact wrap_i64 (by omega)
 have hd:((r:Int)<(rs.length:Int)):=by omega
 have hg:=runR_get rs hrl
 have hm:=getD_mem (d:=run0) hrl
 have h1:=ok.fac _ hm
 have hmore:=fun {nb' kr' kL:Nat} {kj:Nat->Nat} {objs':List (Nat × Ob)}=>hI.more (objs':=objs') (nb':=nb') (kr':=kr') (kL:=kL) (kj:=kj)
 generalize hrun:rs.getD r run0=run at hg h1
 have hcl:=clone42 (c:=run.fac) (by omega) (by omega)
 have k5:=hI.k5
 have l2:=hI.l2
 have l4:=hI.l4
 have x1:¬ nb=4:=by omega
 have x2:¬ nb=2:=by omega
 have x3:¬ nb+1=2:=by omega
 have x4:¬ nb+1=4:=by omega
 simp only [ZA,ZB,ZC,ZD,ZE,↓reduceIte,reduceIte,ZF,ZG,ZH,ZI,ZJ,reduceCtorEq,ZK,↓zU,↓zD,zV,zT,zW,hd,runR_len,hg,RunA.row]
 (repeat refine sd ?_)
 refine .go (cr hcl) ?_
 simp only [ZA,ZB,ZC,ZD,ZE,↓reduceIte,reduceIte,ZF,ZG,ZH,ZI,ZJ,reduceCtorEq,ZK,↓zU,↓zD,zV,zT,zW,l2,x1,x2,x3,x4]
 refine wpS_loop (fun a:Nat × Nat × List (Nat × Ob)=>[(44,.int .i64 a.1),(43,.int .i64 T),(34,.int .i64 r),(33,.int .i64 rs.length),(32,.sl 2 (runR rs)),(10,.ref (nb+1) 2 0 0),(7,.ref 4 4 0 0),(4,.ref 3 4 0 0),(2,.ref 2 4 0 0),(1,.fn g [.ref 0 4 0 0])]) (fun a=>⟨a.2.1,a.2.2⟩)
  (fun a=>a.1<=T/\∃ kL kj,BI A nb run.fac a.1 kL kj a.2.1 objs a.2.2) (fun a=>T-a.1) (0,nb+2,(nb+1,⟨2,[[.nils,.sl 1 (us run.fac)]]⟩) :: (nb,⟨2,[run.row]⟩) :: objs) ⟨Nat.zero_le _,1000000,fun _=>0,?_⟩ ?_ ?_
 ·refine⟨by simp,?_,?_,by simp,fun i h=>absurd h (Nat.not_lt_zero _),fun i j h=>absurd h (Nat.not_lt_zero _),fun k hk=>?_,?_⟩
  ·simp [look_cons,rowL,growD]
  ·simp only; rw [look_ne (by omega),look_ne (by omega)]; exact hI.fr
  ·simp only; rw [look_ne (by omega),look_ne (by omega)]
  ·simp only; rw [look_ne (by omega),look_ne (by omega)]; exact hI.fr
 ·(refine Weak.same ?_; simp [sameF,Fr.get,RunA.row])
 intro ⟨t,nx,objs1⟩ ⟨ht,kL,kj,hB⟩
 simp only at ht hB ⊢
 refine wpS_go mixed ?_
 by_cases htl:t<T
 ·have hd2:((t:Int)<(T:Int)):=by omega
  obtain⟨n1,n2⟩:=hB.n2
  have ln:=hB.ln
  have lL:=hB.lL
  have hLk:=hB.hL
  have b2:St.look objs1 2=some ⟨4,[[.int .i64 (A:Int),.int .i64 (F:Int),.int .i64 (T:Int),.sl 2 (runR rs)]]⟩:=by rw [hB.old 2 (by omega)]; exact l2
  have y1:¬ nx=2:=by omega
  have y2:¬ nx+1=2:=by omega
  have y3:¬ nx=nb+1:=by omega
  have y4:¬ nx+1=nb+1:=by omega
  have y5:¬ nx+2=nb+1:=by omega
  have y6:¬ nx=kL:=by omega
  have y7:¬ nx+1=kL:=by omega
  have y8:¬ kL=nb+1:=by omega
  have e1:St.look (eraseL objs1 kL) (nb+1)= some ⟨2,[[growD kL 1 (rowL A kj t),.sl 1 (us run.fac)]]⟩:=by rw [look_eraseL,if_neg y8]; exact ln
  simp only [ZA,ZB,ZC,ZD,ZE,↓reduceIte,reduceIte,ZF,ZG,ZH,ZI,ZJ,reduceCtorEq,ZK,↓zU,↓zD,zV,zT,zW,↓wpZ_regc,↓mid1Z,↓mid2Z,hd2,ln,lL,b2,y1,y2,y3,y4,y5,y6,y7,y8,e1,rowL_len]
  refine⟨by omega,by omega,by omega,by omega,⟨(t+1,?zna,?zoa),?h1,?h2,by show T-(t+1)<T-t; omega⟩⟩
  case h2 => 
   (refine Weak.same ?_; simp only [sameF,Fr.get,↓reduceIte,reduceIte,Nat.reduceEqDiff,reduceCtorEq,D.int.injEq,D.bool.injEq,D.sl.injEq,and_true,true_and,and_self])
   exact wrap_i64 (by omega)
  case h1=>
   have hrow:=rowL_succ A kj t nx
   have hpos:0<(rowL A kj t ++ [[D.osl nx 1 A]]).length:=by simp
   refine⟨by show t+1<=T; omega,nx+1+1,fun i=>if i=t then nx else kj i,?_⟩
   refine⟨by show nb+2<=nx+1+1+1/\nx+1+1+1<=nb+2+3*(t+1); omega,?_,?_,.inl ⟨by omega,by show nx+1+1<nx+1+1+1; omega⟩,fun i hi=>?_,fun i j hi hj he=>?_,fun k hk=>?_,?_⟩
   ·show St.look (growO _ _ _++_) _=_
    rw [hrow,look_growO,if_neg (by omega),look_ne (by omega),look_ne (by omega),look_setL,if_pos rfl,e1]; rfl
   ·show St.look (growO _ _ _++_) _=_
    rw [hrow,look_growO,if_pos rfl,growG_pos hpos]; rfl
   ·change i<t+1 at hi
    show nb+2<=(if i=t then nx else kj i)/\ (if i=t then nx else kj i)<nx+1+1+1/\(if i=t then nx else kj i)≠ nx+1+1/\St.look (growO _ _ _++_) (if i=t then nx else kj i)= _
    by_cases e:i=t
    ·rw [if_pos e]
     exact⟨by omega,by omega,by omega,by rw [look_growO,if_neg (by omega),look_ne (by omega),look_cons,if_pos rfl]⟩
    ·rw [if_neg e]
     obtain⟨a,b,c,d⟩:=hB.lj i (by omega)
     exact⟨a,by omega,by omega,by rw [look_growO,if_neg (by omega),look_ne (by omega),look_ne (by omega),look_setL,if_neg (by omega),look_eraseL,if_neg (by omega),d]⟩
   ·change i<t+1 at hi
    change j<t+1 at hj
    by_cases e:i=t <;> by_cases e2:j=t
    ·omega
    ·rw [if_pos e,if_neg e2] at he
     have:=hB.lj j (by omega)
     omega
    ·rw [if_neg e,if_pos e2] at he
     have:=hB.lj i (by omega)
     omega
    ·rw [if_neg e,if_neg e2] at he
     exact hB.dj i j (by omega) (by omega) he
   ·show St.look (growO _ _ _++_) _=_
    rw [look_growO,if_neg (by omega),look_ne (by omega),look_ne (by omega),look_setL,if_neg (by omega),look_eraseL,if_neg (by omega),hB.old k hk]
   ·show St.look (growO _ _ _++_) _=_
    rw [look_growO,if_neg (by omega),look_ne (by omega),look_ne (by omega),look_setL,if_neg (by omega),look_eraseL]
    split
    ·rfl
    ·exact hB.fr
 have hd2:¬ ((t:Int)<(T:Int)):=by omega
 obtain rfl:T=t:=by omega
 obtain⟨n1,n2⟩:=hB.n2
 have hgp:growD kL 1 (rowL A kj T)= .osl kL 1 T:=by rw [grow_pos (by rw [rowL_len]; omega),rowL_len]
 have hgp2:growG 1 (rowL A kj T)= some ⟨1,rowL A kj T⟩:=growG_pos (by rw [rowL_len]; omega)
 have ln:=hB.ln
 rw [hgp] at ln
 have lL:=hB.lL
 rw [hgp2] at lL
 have hLk:nb+2<=kL/\kL<nx:=by
  rcases hB.hL with e | e
  ·exact e
  ·rw [e,hB.fr] at lL; cases lL
 have b4:St.look objs1 4=some ⟨4,[[.int .i64 (A:Int),.int .i64 (F:Int),.int .i64 (T:Int),growD kr 2 (rowsN rs T kl r)]]⟩:=by rw [hB.old 4 (by omega)]; exact l4
 have hk:=hI.hk
 have br:St.look objs1 kr=growG 2 (rowsN rs T kl r):=by
  rcases hk.2 with e | e
  ·rw [hB.old kr e]; exact hI.lr
  ·have:=hI.lr
   rw [e,hI.fr] at this
   rw [e,hB.fr]; exact this
 have y1:¬ nx=4:=by omega
 have y2:¬ nx+1=4:=by omega
 have y3:¬ nx=nb+1:=by omega
 have y4:¬ nx+1=nb+1:=by omega
 have y5:¬ nx=kr:=by omega
 have y6:¬ kr=4:=by omega
 have e1:St.look (eraseL objs1 kr) 4=some ⟨4,[[.int .i64 (A:Int),.int .i64 (F:Int),.int .i64 (T:Int),growD kr 2 (rowsN rs T kl r)]]⟩:=by rw [look_eraseL,if_neg y6]; exact b4
 simp only [ZA,ZB,ZC,ZD,ZE,↓reduceIte,reduceIte,ZF,ZG,ZH,ZI,ZJ,reduceCtorEq,ZK,↓zU,↓zD,zV,zT,zW,hd2,ln,b4,br,y1,y2,y3,y4,y5,y6,e1,rowsN_len]
 refine⟨by omega,by omega,⟨(r+1,?znb,?zob),?g1,?g2,by show rs.length-(r+1)<rs.length-r; omega⟩⟩
 case g2=>
  (refine Weak.same ?_; simp only [sameF,Fr.get,↓reduceIte,reduceIte,Nat.reduceEqDiff,reduceCtorEq,D.int.injEq,D.bool.injEq,D.sl.injEq,and_true,true_and,and_self])
  exact wrap_i64 (by omega)
 case g1=>
  have hrow:=rowsN_succ rs T kl r kL
  rw [hrun] at hrow
  have hpos:0<(rowsN rs T kl r ++ [[D.osl kL 1 T,.sl 1 (us run.fac)]]).length:=by simp
  refine⟨by show r+1<=rs.length; omega,by show nx+1+1<=5+60*(r+1); omega,nx+1,fun i=>if i=r then kL else kl i,fun i=>if i=r then kj else ki i,?_⟩
  refine hmore (by show nb<=nx+1+1; omega) (by show nx+1+1<1000000; omega) ?_ (fun k hk1 hk2 hk3=>?_) ?_ ?_ ⟨by omega,by show nx+1<nx+1+1; omega⟩ ⟨by omega,by show kL<nx+1+1; omega,by omega,?_⟩ (fun t ht=>?_) (fun i j hi hj he=>hB.dj i j hi hj he)
  ·show St.look (growO _ _ _++_) _=_
   rw [hrow,look_growO,if_neg (by omega),look_ne (by omega),look_setL,if_pos rfl,e1]; rfl
  ·show St.look (growO _ _ _++_) _=_
   rw [look_growO,if_neg (by omega),look_ne (by omega),look_setL,if_neg (by omega),look_eraseL,if_neg (by omega),hB.old k hk1]
  ·show St.look (growO _ _ _++_) _=_
   rw [look_growO,if_neg (by omega),look_ne (by omega),look_setL,if_neg (by omega),look_eraseL]
   split
   ·rfl
   ·exact hB.fr
  ·show St.look (growO _ _ _++_) _=_
   rw [hrow,look_growO,if_pos rfl,growG_pos hpos]; rfl
  ·show St.look (growO _ _ _++_) _=_
   rw [look_growO,if_neg (by omega),look_ne (by omega),look_setL,if_neg (by omega),look_eraseL,if_neg (by omega),lL]
  ·obtain⟨a,b,c,d⟩:=hB.lj t ht
   refine⟨by omega,by show kj t<nx+1+1; omega,by omega,c,?_⟩
   show St.look (growO _ _ _++_) _=_
   rw [look_growO,if_neg (by omega),look_ne (by omega),look_setL,if_neg (by omega),look_eraseL,if_neg (by omega),d]
   simp only [valN,Nat.not_lt_zero,false_or,and_false,if_false,Option.some.injEq,Ob.mk.injEq,true_and]
   exact(rows_zero A).symm
end Go.Pd
