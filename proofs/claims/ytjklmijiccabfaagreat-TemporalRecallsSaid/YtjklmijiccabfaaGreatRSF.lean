/- Part SF. -/
import Derived.Test.YtjklmijiccabfaaGreatRSE
import Derived.Test.YtjklmijiccabfaaGreatRSQ
set_option linter.unusedSectionVars false
set_option linter.unusedVariables false
set_option linter.unusedSimpArgs false
set_option linter.defProp false
set_option maxRecDepth 20000
set_option maxHeartbeats 1000000
namespace Go.Pd
open Go Go.Proofs
open Int renaming reduceToNat -> ZA, reduceLT -> ZB, reduceLE -> ZC, reduceBEq -> ZD, reduceBNe -> ZE
open Nat renaming reduceEqDiff -> ZF, reduceAdd -> ZG, reduceBEq -> ZH, reduceLT -> ZI, reduceLeDiff -> ZJ, reduceMul -> ZK
open Ru
def diTo (l:List Int):Nat->List Int
 | 0=>[]
 | k+1=>if 0<k/\l.getD k 0=l.getD (k-1) 0 then diTo l k else diTo l k ++ [l.getD k 0]
def dedI (l:List Int):List Int:=diTo l l.length
theorem diTo_same {l:List Int}:∀ {k:Nat},k<=l.length->(∀ i,0<i->i<k->l.getD i 0≠l.getD (i-1) 0)->diTo l k=l.take k
 | 0,_,_=>by simp [diTo]
 | k+1,h,hn=>by
  rw [diTo,if_neg (fun c=>hn k c.1 (by omega) c.2),diTo_same (by omega) (fun i h1 h2=>hn i h1 (by omega)),<- take_snoc (by omega)]
theorem diTo_le (l:List Int):∀ k,(diTo l k).length<=k
 | 0=>Nat.le_refl _
 | k+1=>by
  have:=diTo_le l k
  rw [diTo]
  split
  ·omega
  ·rw [List.length_append]; simp; omega
theorem diTo_grow (l:List Int) (k:Nat):(diTo l k).length<=(diTo l (k+1)).length:=by
 rw [diTo]; split
 ·exact Nat.le_refl _
 ·rw [List.length_append]; omega
theorem rowsI_set (l:List Int) (i:Nat) (x:Int):(rows .i64 l).set i [.int .i64 x]=rows .i64 (l.set i x):=by simp [rows,List.map_set]
theorem getD_setI (o:List Int) (i j:Nat) (x:Int):(o.set i x).getD j 0=if i=j/\j<o.length then x else o.getD j 0:=by
 simp only [List.getD,List.getElem?_set]
 split
 ·rename_i h; subst h; by_cases hj:i<o.length
  ·simp [hj]
  ·simp [hj]
 ·rename_i h; simp [h]
theorem diTo_pos (l:List Int):∀ k,0<(diTo l (k+1)).length
 | 0=>by rw [diTo,if_neg (by omega),List.length_append]; simp
 | k+1=>Nat.lt_of_lt_of_le (diTo_pos l k) (diTo_grow l (k+1))
def diE (l:List Int):List (List D):=rows .i64 (dedI l)++ List.replicate (l.length-(dedI l).length) [.int .i64 0]
theorem diE_len (l:List Int):(diE l).length=l.length:=by
 have:=diTo_le l l.length
 unfold diE dedI
 rw [List.length_append,rows_len,List.length_replicate]
 omega
theorem compact62 {σ:St} {key:Nat} {l:List Int} (hget:σ.get key=some ⟨1,rows .i64 l⟩) (hlen:l.length<=1000) (hne:l ≠ []) :
  CallT Tryz.prog 64 [.osl key 1 l.length] σ (.osl key 1 (dedI l).length) (σ.set key ⟨1,diE l⟩):=by
 obtain⟨nx,objs⟩:=σ
 have hpos:0<l.length:=List.length_pos_iff.2 hne
 have hg:St.look objs key=some ⟨1,rows .i64 l⟩:=hget
 have whole:dedI l=l->(.osl key 1 (dedI l).length=D.osl key 1 l.length/\(⟨nx,setL objs key ⟨1,diE l⟩⟩:St)= ⟨nx,objs⟩):=by
  intro e
  refine⟨by rw [e],?_⟩
  have:diE l=rows .i64 l:=by unfold diE; rw [e]; simp
  rw [this,setL_same hg]
 refine CallT.go_fn mixed Tryz.func64 k64 (by simp) fun hf=>?_
 by_cases h2:l.length<2
 ·have hd:(l.length:Int)<2:=by omega
  simp only [ZA,ZB,ZC,ZD,ZE,↓reduceIte,reduceIte,ZF,ZG,ZH,ZI,ZJ,reduceCtorEq,ZK,↓zU,↓zD,zV,zT,zW,hd]
  have e:dedI l=l:=by
   unfold dedI
   rw [diTo_same (Nat.le_refl _) (fun i h1 h3=>by omega),List.take_length]
  obtain⟨e1,e2⟩:=whole e
  exact .inl ⟨e1,e2⟩
 have hd:¬ (l.length:Int)<2:=by omega
 simp only [ZA,ZB,ZC,ZD,ZE,↓reduceIte,reduceIte,ZF,ZG,ZH,ZI,ZJ,reduceCtorEq,ZK,↓zU,↓zD,zV,zT,zW,hd]
 refine wpS_loop (fun k:Nat=>[(3,.int .i64 k),(0,.osl key 1 l.length)]) (fun _=>⟨nx,objs⟩) (fun k=>1<=k/\k<=l.length/\∀ i,0<i->i<k->l.getD i 0≠l.getD (i-1) 0) (fun k=>l.length-k) 1 ⟨Nat.le_refl _,by omega,fun i h1 h2=>by omega⟩ ?_ ?_
 ·(refine Weak.same ?_; simp [sameF,Fr.get])
 intro i0 ⟨hi1,hi2,hi3⟩
 refine wpS_go mixed ?_
 by_cases h:i0<l.length
 case neg=>
  have hd:¬ ((i0:Int)<(l.length:Int)):=by omega
  have e:dedI l=l:=by
   unfold dedI
   rw [diTo_same (Nat.le_refl _) (fun i h1 h3=>hi3 i h1 (by omega)),List.take_length]
  obtain⟨e1,e2⟩:=whole e
  simp only [ZA,ZB,ZC,ZD,ZE,↓reduceIte,reduceIte,ZF,ZG,ZH,ZI,ZJ,reduceCtorEq,ZK,↓zU,↓zD,zV,zT,zW,hd]
  exact .inl ⟨e1,e2⟩
 have hd:((i0:Int)<(l.length:Int)):=by omega
 have em:IntKind.i64.wrap ((i0:Int)-1)= ((i0-1:Nat):Int):=by rw [wrap_i64 (by omega)]; omega
 by_cases hq:l.getD i0 0=l.getD (i0-1) 0
 case neg=>
  have hq':(l.getD i0 0==l.getD (i0-1) 0)= false:=by simpa using hq
  simp only [ZA,ZB,ZC,ZD,ZE,↓reduceIte,reduceIte,ZF,ZG,ZH,ZI,ZJ,reduceCtorEq,ZK,↓zU,↓zD,zV,zT,zW,hd,hg,rows_get .i64 l h,em,rows_get .i64 l (show i0-1<l.length by omega),hq']
  (repeat refine sd ?_)
  refine⟨i0+1,⟨by omega,by omega,fun i h1 h3=>?_⟩,?_,by omega⟩
  ·by_cases e:i=i0
   ·rw [e]; exact hq
   ·exact hi3 i h1 (by omega)
  (refine Weak.same ?_; simp only [sameF,Fr.get,↓reduceIte,reduceIte,Nat.reduceEqDiff,reduceCtorEq,D.int.injEq,D.bool.injEq,D.sl.injEq,and_true,true_and,and_self])
  exact wrap_i64 (by omega)
 have hq':(l.getD i0 0==l.getD (i0-1) 0)= true:=by simpa using hq
 simp only [ZA,ZB,ZC,ZD,ZE,↓reduceIte,reduceIte,ZF,ZG,ZH,ZI,ZJ,reduceCtorEq,ZK,↓zU,↓zD,zV,zT,zW,hd,hg,rows_get .i64 l h,em,rows_get .i64 l (show i0-1<l.length by omega),hq']
 (repeat refine sd ?_)
 have ei:¬ (i0:Int)= 0:=by omega
 have ei2:¬ (i0:Int)= (l.length:Int):=by omega
 refine⟨i0,l.length,rfl,rfl,by omega,by omega,by omega,?_⟩
 simp only [Int.toNat_natCast,if_neg ei,if_neg ei2]
 have d1:diTo l (i0+1)= l.take i0:=by rw [diTo,if_pos ⟨by omega,hq⟩,diTo_same (by omega) hi3]
 refine wpS_loop (fun a:Nat × List Int=>[(5,.int .i64 a.1),(4,.sub key 1 i0 (l.length-i0)),(3,.int .i64 (diTo l (i0+a.1)).length),(0,.osl key 1 l.length)]) (fun a=>⟨nx,setL objs key ⟨1,rows .i64 a.2⟩⟩)
  (fun a=>1<=a.1/\i0+a.1<=l.length/\a.2.length=l.length/\(diTo l (i0+a.1)).length<i0+a.1/\a.2.take (diTo l (i0+a.1)).length=diTo l (i0+a.1)/\ ∀ j,i0+a.1-1<=j->a.2.getD j 0=l.getD j 0) (fun a=>l.length-a.1) (1,l)
  ⟨Nat.le_refl _,by omega,rfl,by rw [d1,List.length_take]; omega,by rw [d1,List.length_take,Nat.min_eq_left (by omega)],fun j _=>rfl⟩ ?_ ?_
 ·rw [setL_same hg]
  (refine Weak.same ?_; simp [sameF,Fr.get,d1])
  omega
 intro ⟨q,o⟩ ⟨q1,q2,q3,q4,q5,q6⟩
 simp only at q1 q2 q3 q4 q5 q6
 have hlk:∀ ob:Ob,St.look (setL objs key ob) key=some ob:=fun ob=>look_set1 hg
 refine wpS_go mixed ?_
 by_cases hp:i0+q<l.length
 ·have hd3:((q:Int)<((l.length-i0:Nat):Int)):=by omega
  have eq1:IntKind.i64.wrap ((q:Int)-1)= ((q-1:Nat):Int):=by rw [wrap_i64 (by omega)]; omega
  have a1:o.getD (i0+q) 0=l.getD (i0+q) 0:=q6 _ (by omega)
  have a2:o.getD (i0+(q-1)) 0=l.getD (i0+q-1) 0:=by rw [q6 _ (by omega)]; congr 1; omega
  by_cases hq2:l.getD (i0+q) 0=l.getD (i0+q-1) 0
  ·have dd:diTo l (i0+(q+1))= diTo l (i0+q):=by
    show diTo l ((i0+q)+ 1)= _
    rw [diTo,if_pos ⟨by omega,hq2⟩]
   have hq3:(l.getD (i0+q) 0 != l.getD (i0+q-1) 0)= false:=by simpa using hq2
   simp only [ZA,ZB,ZC,ZD,ZE,↓reduceIte,reduceIte,ZF,ZG,ZH,ZI,ZJ,reduceCtorEq,ZK,↓zU,↓zD,zV,zT,zW,hd3,hlk,eq1,rows_get .i64 o (show i0+q<o.length by omega),rows_get .i64 o (show i0+(q-1)<o.length by omega),a1,a2,hq3]
   (repeat refine sd ?_)
   refine⟨(q+1,o),⟨by show 1<=q+1; omega,by show i0+(q+1)<=l.length; omega,q3,by show (diTo l (i0+(q+1))).length<i0+(q+1); rw [dd]; omega,by show o.take (diTo l (i0+(q+1))).length=diTo l (i0+(q+1)); rw [dd,q5],fun j hj=>q6 j (by change i0+(q+1)-1<=j at hj; omega)⟩,?_,by show l.length-(q+1)<l.length-q; omega⟩
   (refine Weak.same ?_; simp only [sameF,Fr.get,↓reduceIte,reduceIte,Nat.reduceEqDiff,reduceCtorEq,D.int.injEq,D.bool.injEq,D.sl.injEq,and_true,true_and,and_self,dd])
   exact wrap_i64 (by omega)
  ·have dd:diTo l (i0+(q+1))= diTo l (i0+q)++ [l.getD (i0+q) 0]:=by
    show diTo l ((i0+q)+ 1)= _
    rw [diTo,if_neg (fun c=>hq2 c.2)]
   have dl:(diTo l (i0+(q+1))).length=(diTo l (i0+q)).length+1:=by rw [dd,List.length_append]; rfl
   have hq3:(l.getD (i0+q) 0 != l.getD (i0+q-1) 0)= true:=by simpa using hq2
   simp only [ZA,ZB,ZC,ZD,ZE,↓reduceIte,reduceIte,ZF,ZG,ZH,ZI,ZJ,reduceCtorEq,ZK,↓zU,↓zD,zV,zT,zW,hd3,hlk,eq1,rows_get .i64 o (show i0+q<o.length by omega),rows_get .i64 o (show i0+(q-1)<o.length by omega),a1,a2,hq3]
   (repeat refine sd ?_)
   have c1:(diTo l (i0+q)).length<o.length:=by omega
   have eset:(rows .i64 o).set (diTo l (i0+q)).length (((rows .i64 o).getD (diTo l (i0+q)).length []).set 0 (D.int .i64 (l.getD (i0+q) 0)))= rows .i64 (o.set (diTo l (i0+q)).length (l.getD (i0+q) 0)):=by
    rw [rows_get .i64 o c1]
    exact rowsI_set _ _ _
   refine⟨(q+1,o.set (diTo l (i0+q)).length (l.getD (i0+q) 0)),⟨by show 1<=q+1; omega,by show i0+(q+1)<=l.length; omega,by show (o.set _ _).length=_; rw [List.length_set]; exact q3,by show (diTo l (i0+(q+1))).length<i0+(q+1); omega,?_,fun j hj=>?_⟩,?_,by show l.length-(q+1)<l.length-q; omega⟩
   ·show (o.set (diTo l (i0+q)).length (l.getD (i0+q) 0)).take (diTo l (i0+(q+1))).length=_
    rw [dl,take_snoc (d:=0) (by rw [List.length_set]; exact c1),getD_setI,if_pos ⟨rfl,c1⟩,dd,List.take_set_of_le (Nat.le_refl _),q5]
   ·change i0+(q+1)-1<=j at hj
    show (o.set (diTo l (i0+q)).length (l.getD (i0+q) 0)).getD j 0=_
    rw [getD_setI,if_neg (by omega)]
    exact q6 j (by omega)
   ·simp only [setL_setL,eset]
    (refine Weak.same ?_; simp only [sameF,Fr.get,↓reduceIte,reduceIte,Nat.reduceEqDiff,reduceCtorEq,D.int.injEq,D.bool.injEq,D.sl.injEq,and_true,true_and,and_self,dl])
    exact⟨wrap_i64 (by omega),wrap_i64 (by omega)⟩
 ·have hd3:¬ ((q:Int)<((l.length-i0:Nat):Int)):=by omega
  have ed:diTo l (i0+q)= dedI l:=by unfold dedI; rw [show i0+q=l.length by omega]
  have c0:0<(dedI l).length:=by
   have:=diTo_pos l (l.length-1)
   rw [show l.length-1+1=l.length by omega] at this
   exact this
  rw [ed] at q4 q5
  simp only [ZA,ZB,ZC,ZD,ZE,↓reduceIte,reduceIte,ZF,ZG,ZH,ZI,ZJ,reduceCtorEq,ZK,↓zU,↓zD,zV,zT,zW,hd3,ed]
  refine⟨(dedI l).length,l.length,rfl,rfl,by omega,by omega,by omega,?_⟩
  rw [if_neg (show ¬ ((dedI l).length:Int)= 0 by omega),if_neg (show ¬ ((dedI l).length:Int)= (l.length:Int) by omega)]
  simp only [Int.toNat_natCast,hlk,rows_len,true_and]
  refine⟨by omega,by omega,?_⟩
  refine⟨0,(dedI l).length,rfl,rfl,by omega,by omega,by omega,?_⟩
  rw [if_pos rfl]
  refine .inl ⟨by rw [Int.toNat_natCast],?_⟩
  have e2:(rows .i64 o).take (dedI l).length=rows .i64 (dedI l):=by rw [rows_take,q5]
  have e3:(rows .i64 o).drop ((dedI l).length+(l.length-(dedI l).length))= []:=List.drop_eq_nil_of_le (by rw [rows_len]; omega)
  have e4:diE l=(rows .i64 o).take (dedI l).length++(List.replicate (l.length-(dedI l).length) [D.int .i64 0]++(rows .i64 o).drop ((dedI l).length+(l.length-(dedI l).length))):=by
   rw [e2,e3,List.append_nil]; rfl
  rw [e4]
  simp only [setL_setL]
namespace Ru
def locT (rs:List RunA) (a r t:Nat):List Int:=(List.range t).map fun i=>locA rs a (r,i)
def hisA (rs:List RunA) (a:Nat) (p:Nat × Nat):List Int:=dedI (locT rs a p.1 (p.2+1))
theorem locT_len (rs:List RunA) (a r t:Nat):(locT rs a r t).length=t:=by simp [locT]
theorem locT_succ (rs:List RunA) (a r t:Nat):locT rs a r (t+1)= locT rs a r t ++ [locA rs a (r,t)]:=by unfold locT; rw [List.range_succ,List.map_append]; rfl
end Ru
theorem history41 {rs:List RunA} {A F T:Nat} (ok:OkR rs A F T) {a:Nat} (ha:a<A) {p:Nat × Nat} (hp:p.1<rs.length/\p.2<T):Runs Tryz.prog 38 [sD A F T rs,.int .i64 a,.agg [.int .i64 (p.1:Int),.int .i64 (p.2:Int)]] (.sl 1 (rows .i64 (hisA rs a p))):=by
 obtain⟨T1,T16⟩:=ok.hT
 have hm:=getD_mem (d:=run0) hp.1
 have hg:=runR_get rs hp.1
 have h1:=ok.loc _ hm
 have h2:=fun(t:Nat) (ht:t<T)=>ok.row _ hm _ (getD_mem (d:=[]) (show t<(rs.getD p.1 run0).loc.length by omega))
 obtain⟨r,t⟩:=p
 simp only at hp hm hg h1 h2 ⊢
 have hloc:∀ i,locA rs a (r,i)= ((rs.getD r run0).loc.getD i []).getD a 0:=fun i=>rfl
 unfold sD hisA
 generalize rs.getD r run0=R at hg h1 h2 hloc
 have hw:IntKind.i64.wrap ((t:Int)+ 1)= ((t+1:Nat):Int):=wrap_i64 (by omega)
 refine CallT.go_fn mixed Tryz.func38 k38 (by simp) fun hf=>?_
 simp only [ZA,ZB,ZC,ZD,ZE,↓reduceIte,reduceIte,ZF,ZG,ZH,ZI,ZJ,reduceCtorEq,ZK,↓zU,↓zD,zV,zT,zW,hw]
 refine wpS_loop (fun k:Nat=>[(12,.int .i64 k),(11,.int .i64 ((t+1:Nat):Int)),(7,growD 2 1 (rows .i64 (locT rs a r k))),(5,.ref 1 2 0 0),(3,.ref 0 4 0 0),(1,.int .i64 a)])
  (fun k=>⟨3,growO 2 1 (rows .i64 (locT rs a r k))++ [(1,⟨2,[[.int .i64 r,.int .i64 t]]⟩),(0,⟨4,[[.int .i64 A,.int .i64 F,.int .i64 T,.sl 2 (runR rs)]]⟩)]⟩)
  (fun k=>k<=t+1) (fun k=>t+1-k) 0 (Nat.zero_le _) ?_ ?_
 ·(refine Weak.ren [] [1,0] (by simp) (by simp) (by decide) ?_; simp only [stay1,vwL,vw,vwF,sw,St.get,St.look,Fr.get,↓reduceIte,reduceIte,Nat.reduceEqDiff,Nat.reduceAdd,Nat.reduceBEq,Nat.reduceLT,Nat.reduceLeDiff,exists_eq_left',ne_eq,reduceCtorEq,zR,locT,List.range_zero,List.map_nil,growD_nil,growO_nil,List.nil_append])
 intro k hk
 refine wpS_go mixed ?_
 by_cases hkl:k<t+1
 ·have hd:((k:Int)<((t+1:Nat):Int)):=by omega
  have hS:=locT_succ rs a r k
  rw [hloc k] at hS
  have hln:=locT_len rs a r k
  have hg2:=rl_get R.loc (show k<R.loc.length by omega)
  have h3:=h2 k (by omega)
  generalize R.loc.getD k []=x at hg2 h3 hS
  have hg3:=rows_get .i64 x (show a<x.length by omega)
  generalize locT rs a r k=l at hS hln
  simp only [ZA,ZB,ZC,ZD,ZE,↓reduceIte,reduceIte,ZF,ZG,ZH,ZI,ZJ,reduceCtorEq,ZK,↓zU,↓zD,zV,zT,zW,hd,runR_len,hg,RunA.row,rl_len,hg2,hg3,hln]
  (repeat refine sd ?_)
  refine⟨k+1,by omega,?_,by omega⟩
  rw [hS]
  (refine Weak.ren [(2,3)] [2,1,0] (by simp) (by simp) (by decide) ?_; simp only [stay1,vwL,vw,vwF,sw,St.get,St.look,Fr.get,↓reduceIte,reduceIte,Nat.reduceEqDiff,Nat.reduceAdd,Nat.reduceBEq,Nat.reduceLT,Nat.reduceLeDiff,exists_eq_left',ne_eq,reduceCtorEq,zR])
  exact wrap_i64 (by omega)
 have hd:¬ ((k:Int)<((t+1:Nat):Int)):=by omega
 obtain rfl:k=t+1:=by omega
 have hln:=locT_len rs a r (t+1)
 generalize locT rs a r (t+1)= l at hln ⊢
 obtain⟨x,l',rfl⟩:∃ x l',l=x :: l':=by
  cases l with
  | nil=>simp at hln
  | cons x l'=>exact⟨x,l',rfl⟩
 have hc:=compact62 (σ:=⟨3,[(2,⟨1,rows .i64 (x :: l')⟩),(1,⟨2,[[.int .i64 r,.int .i64 t]]⟩),(0,⟨4,[[.int .i64 A,.int .i64 F,.int .i64 T,.sl 2 (runR rs)]]⟩)]⟩) (key:=2) (l:=x :: l') rfl (by omega) (by simp)
 have hne:0<(dedI (x :: l')).length:=by
  have:=diTo_pos (x :: l') l'.length
  exact this
 simp only [ZA,ZB,ZC,ZD,ZE,↓reduceIte,reduceIte,ZF,ZG,ZH,ZI,ZJ,reduceCtorEq,ZK,↓zU,↓zD,zV,zT,zW,hd]
 refine .go hc ?_
 simp only [ZA,ZB,ZC,ZD,ZE,↓reduceIte,reduceIte,ZF,ZG,ZH,ZI,ZJ,reduceCtorEq,ZK,↓zU,↓zD,zV,zT,zW]
 refine .drop (by simp) ?_
 have hl1:=diE_len (x :: l')
 have hl2:(diE (x :: l')).take (dedI (x :: l')).length=rows .i64 (dedI (x :: l')):=by unfold diE; rw [List.take_left' (rows_len _ _)]
 simp only [vw]
 refine⟨trivial,by decide,by simp,⟨1,diE (x :: l')⟩,rfl,rfl,?_,hl2.symm,rows_pure _ _⟩
 have:=diTo_le (x :: l') (x :: l').length
 show (dedI (x :: l')).length<=(diE (x :: l')).length
 rw [hl1]; exact this
end Go.Pd
