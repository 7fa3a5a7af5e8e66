/- Part SE. -/
import Derived.Test.YtjklmijiccabfaaGreatRSD
set_option linter.unusedSectionVars false
set_option linter.unusedVariables false
set_option linter.unusedSimpArgs false
set_option linter.defProp false
set_option maxRecDepth 20000
set_option maxHeartbeats 1000000
namespace Go.Pd
open Go Go.Proofs
open Int renaming reduceToNat -> ZA, reduceLT -> ZB, reduceLE -> ZC, reduceBEq -> ZD, reduceBNe -> ZE
open Nat renaming reduceEqDiff -> ZF, reduceAdd -> ZG, reduceBEq -> ZH, reduceLT -> ZI, reduceLeDiff -> ZJ, reduceMul -> ZK
open Ru
def below (m:List (List Int)) (x:List Int):Nat:=(m.filter fun y=>decide (kc y x<0)).length
theorem below_eq {x:List Int}:∀ {m:List (List Int)} {i:Nat},i<=m.length->(∀ a,a<i->kc (m.getD a []) x<0)->(∀ a,i<=a->a<m.length->¬ kc (m.getD a []) x<0)->below m x=i
 | [],i,h,_,_=>by simp at h; simp [below,h]
 | y :: m,0,_,_,h2=>by
  have h0:=h2 0 (Nat.le_refl _) (by simp)
  have ih:=below_eq (x:=x) (m:=m) (i:=0) (Nat.zero_le _) (fun a ha=>by omega) (fun a _ ha=>by simpa using h2 (a+1) (by omega) (by simp; omega))
  unfold below at ih ⊢
  rw [List.filter_cons,if_neg (by simpa using h0),ih]
 | y :: m,i+1,hi,h1,h2=>by
  have h0:=h1 0 (by omega)
  have ih:=below_eq (x:=x) (m:=m) (i:=i) (by simpa using hi) (fun a ha=>by simpa using h1 (a+1) (by omega)) (fun a ha hb=>by simpa using h2 (a+1) (by omega) (by simp; omega))
  unfold below at ih ⊢
  rw [List.filter_cons,if_pos (by simpa using h0),List.length_cons,ih]
theorem shr_half {n:Nat} (h:n<=1000000):shrI .u64 (n:Int) (ui 1#64)= ((n / 2:Nat):Int):=by
 unfold shrI
 have e:min (ui 1#64).toNat IntKind.u64.bits=1:=rfl
 rw [e]
 show ((n:Int)).fdiv 2=_
 rw [Int.fdiv_eq_ediv_of_nonneg _ (by decide)]
 omega
theorem asc_lt {m:List (List Int)} {x:List Int} (hm:asc m) {a b:Nat} (hab:a<=b) (hb:b<m.length) (h:kc (m.getD b []) x<0):kc (m.getD a []) x<0:=by
 by_cases e:a=b
 ·rw [e]; exact h
 ·have hp:=List.pairwise_iff_getElem.1 hm a b (by omega) hb (by omega)
  have e1:m.getD a []=m[a]'(by omega):=by simp [List.getD,show a<m.length by omega]
  have e2:m.getD b []=m[b]:=by simp [List.getD,hb]
  rw [e1]; rw [e2] at h
  by_cases c:kc (m[a]'(by omega)) x<0
  ·exact c
  ·exact absurd h (kc_ntrans hp c)
def ddTo (l:List (List Int)):Nat->List (List Int)
 | 0=>[]
 | k+1=>if 0<k/\l.getD k []=l.getD (k-1) [] then ddTo l k else ddTo l k ++ [l.getD k []]
def dedup (l:List (List Int)):List (List Int):=ddTo l l.length
theorem ddTo_same {l:List (List Int)}:∀ {k:Nat},k<=l.length->(∀ i,0<i->i<k->l.getD i []≠l.getD (i-1) [])->ddTo l k=l.take k
 | 0,_,_=>by simp [ddTo]
 | k+1,h,hn=>by
  rw [ddTo,if_neg (fun c=>hn k c.1 (by omega) c.2),ddTo_same (by omega) (fun i h1 h2=>hn i h1 (by omega)),<- take_snoc (by omega)]
theorem ddTo_le (l:List (List Int)):∀ k,(ddTo l k).length<=k
 | 0=>Nat.le_refl _
 | k+1=>by
  have:=ddTo_le l k
  rw [ddTo]
  split
  ·omega
  ·rw [List.length_append]; simp; omega
theorem ddTo_grow (l:List (List Int)) (k:Nat):(ddTo l k).length<=(ddTo l (k+1)).length:=by
 rw [ddTo]; split
 ·exact Nat.le_refl _
 ·rw [List.length_append]; omega
theorem rl_set (l:List (List Int)) (i:Nat) (x:List Int):(rl l).set i [.sl 1 (rows .i64 x)]=rl (l.set i x):=by simp [rl,List.map_set]
theorem getD_setL (o:List (List Int)) (i j:Nat) (x:List Int):(o.set i x).getD j []=if i=j/\j<o.length then x else o.getD j []:=by
 simp only [List.getD,List.getElem?_set]
 split
 ·rename_i h; subst h; by_cases hj:i<o.length
  ·simp [hj]
  ·simp [hj]
 ·rename_i h; simp [h]
theorem ddTo_pos (l:List (List Int)):∀ k,0<(ddTo l (k+1)).length
 | 0=>by rw [ddTo,if_neg (by omega),List.length_append]; simp
 | k+1=>Nat.lt_of_lt_of_le (ddTo_pos l k) (ddTo_grow l (k+1))
theorem look_set1 {k:Nat} {o o':Ob}:∀ {r:List (Nat × Ob)},St.look r k=some o->St.look (setL r k o') k=some o'
 | [],h=>by cases h
 | (j,ob) :: r,h=>by
  rw [look_cons] at h
  rw [setL_cons]
  by_cases e:j=k
  ·rw [if_pos e,look_cons,if_pos e]
  ·rw [if_neg e] at h
   rw [if_neg e,look_cons,if_neg e,look_set1 h]
theorem setL_setL (k:Nat) (a b:Ob):∀ r:List (Nat × Ob),setL (setL r k a) k b=setL r k b
 | []=>rfl
 | (j,ob) :: r=>by
  rw [setL_cons,setL_cons]
  by_cases e:j=k
  ·rw [if_pos e,if_pos e,setL_cons,if_pos e]
  ·rw [if_neg e,if_neg e,setL_cons,if_neg e,setL_setL k a b r]
def ddE (l:List (List Int)):List (List D):=rl (dedup l)++ List.replicate (l.length-(dedup l).length) [.nils]
theorem compact57 {σ:St} {key:Nat} {l:List (List Int)} (hget:σ.get key=some ⟨1,rl l⟩) (hlen:l.length<=1000) (hne:l ≠ []) :
  CallT Tryz.prog 61 [.osl key 1 l.length,.fn 62 []] σ (.osl key 1 (dedup l).length) (σ.set key ⟨1,ddE l⟩):=by
 obtain⟨nx,objs⟩:=σ
 have hpos:0<l.length:=List.length_pos_iff.2 hne
 have hg:St.look objs key=some ⟨1,rl l⟩:=hget
 have whole:dedup l=l->(.osl key 1 (dedup l).length=D.osl key 1 l.length/\(⟨nx,setL objs key ⟨1,ddE l⟩⟩:St)= ⟨nx,objs⟩):=by
  intro e
  refine⟨by rw [e],?_⟩
  have:ddE l=rl l:=by unfold ddE; rw [e]; simp
  rw [this,setL_same hg]
 refine CallT.go_fn mixed Tryz.func61 k61 (by simp) fun hf=>?_
 by_cases h2:l.length<2
 ·have hd:(l.length:Int)<2:=by omega
  simp only [ZA,ZB,ZC,ZD,ZE,↓reduceIte,reduceIte,ZF,ZG,ZH,ZI,ZJ,reduceCtorEq,ZK,↓zU,↓zD,zV,zT,zW,hd]
  have e:dedup l=l:=by
   unfold dedup
   rw [ddTo_same (Nat.le_refl _) (fun i h1 h3=>by omega),List.take_length]
  obtain⟨e1,e2⟩:=whole e
  exact .inl ⟨e1,e2⟩
 have hd:¬ (l.length:Int)<2:=by omega
 simp only [ZA,ZB,ZC,ZD,ZE,↓reduceIte,reduceIte,ZF,ZG,ZH,ZI,ZJ,reduceCtorEq,ZK,↓zU,↓zD,zV,zT,zW,hd]
 refine wpS_loop (fun k:Nat=>[(5,.int .i64 k),(1,.fn 62 []),(0,.osl key 1 l.length)]) (fun _=>⟨nx,objs⟩) (fun k=>1<=k/\k<=l.length/\∀ i,0<i->i<k->l.getD i []≠l.getD (i-1) []) (fun k=>l.length-k) 1 ⟨Nat.le_refl _,by omega,fun i h1 h2=>by omega⟩ ?_ ?_
 ·(refine Weak.same ?_; simp [sameF,Fr.get])
 intro i0 ⟨hi1,hi2,hi3⟩
 refine wpS_go mixed ?_
 by_cases h:i0<l.length
 case neg=>
  have hd:¬ ((i0:Int)<(l.length:Int)):=by omega
  have e:dedup l=l:=by
   unfold dedup
   rw [ddTo_same (Nat.le_refl _) (fun i h1 h3=>hi3 i h1 (by omega)),List.take_length]
  obtain⟨e1,e2⟩:=whole e
  simp only [ZA,ZB,ZC,ZD,ZE,↓reduceIte,reduceIte,ZF,ZG,ZH,ZI,ZJ,reduceCtorEq,ZK,↓zU,↓zD,zV,zT,zW,hd]
  exact .inl ⟨e1,e2⟩
 have hd:((i0:Int)<(l.length:Int)):=by omega
 have em:IntKind.i64.wrap ((i0:Int)-1)= ((i0-1:Nat):Int):=by rw [wrap_i64 (by omega)]; omega
 simp only [ZA,ZB,ZC,ZD,ZE,↓reduceIte,reduceIte,ZF,ZG,ZH,ZI,ZJ,reduceCtorEq,ZK,↓zU,↓zD,zV,zT,zW,hd,hg,rl_get l h,em,rl_len,rl_get l (show i0-1<l.length by omega)]
 (repeat refine sd ?_)
 refine .go (CallT.of_runs (key58 (l.getD i0 []) (l.getD (i0-1) [])) (by simp [D.isPureL,D.isPure])) ?_
 by_cases hq:l.getD i0 []=l.getD (i0-1) []
 case neg=>
  simp only [ZA,ZB,ZC,ZD,ZE,↓reduceIte,reduceIte,ZF,ZG,ZH,ZI,ZJ,reduceCtorEq,ZK,↓zU,↓zD,zV,zT,zW,decide_eq_false hq]
  refine⟨i0+1,⟨by omega,by omega,fun i h1 h3=>?_⟩,?_,by omega⟩
  ·by_cases e:i=i0
   ·rw [e]; exact hq
   ·exact hi3 i h1 (by omega)
  (refine Weak.same ?_; simp only [sameF,Fr.get,↓reduceIte,reduceIte,Nat.reduceEqDiff,reduceCtorEq,D.int.injEq,D.bool.injEq,D.sl.injEq,and_true,true_and,and_self])
  exact wrap_i64 (by omega)
 simp only [ZA,ZB,ZC,ZD,ZE,↓reduceIte,reduceIte,ZF,ZG,ZH,ZI,ZJ,reduceCtorEq,ZK,↓zU,↓zD,zV,zT,zW,decide_eq_true hq]
 have ei:¬ (i0:Int)= 0:=by omega
 have ei2:¬ (i0:Int)= (l.length:Int):=by omega
 refine⟨i0,l.length,rfl,rfl,by omega,by omega,by omega,?_⟩
 simp only [Int.toNat_natCast,if_neg ei,if_neg ei2]
 have d1:ddTo l (i0+1)= l.take i0:=by rw [ddTo,if_pos ⟨by omega,hq⟩,ddTo_same (by omega) hi3]
 refine wpS_loop (fun a:Nat × List (List Int)=>[(7,.int .i64 a.1),(6,.sub key 1 i0 (l.length-i0)),(5,.int .i64 (ddTo l (i0+a.1)).length),(1,.fn 62 []),(0,.osl key 1 l.length)]) (fun a=>⟨nx,setL objs key ⟨1,rl a.2⟩⟩)
  (fun a=>1<=a.1/\i0+a.1<=l.length/\a.2.length=l.length/\(ddTo l (i0+a.1)).length<i0+a.1/\a.2.take (ddTo l (i0+a.1)).length=ddTo l (i0+a.1)/\ ∀ j,i0+a.1-1<=j->a.2.getD j []=l.getD j []) (fun a=>l.length-a.1) (1,l)
  ⟨Nat.le_refl _,by omega,rfl,by rw [d1,List.length_take]; omega,by rw [d1,List.length_take,Nat.min_eq_left (by omega)],fun j _=>rfl⟩ ?_ ?_
 ·rw [setL_same hg]
  (refine Weak.same ?_; simp [sameF,Fr.get,d1])
  omega
 intro ⟨q,o⟩ ⟨q1,q2,q3,q4,q5,q6⟩
 simp only at q1 q2 q3 q4 q5 q6
 have hlk:∀ ob:Ob,St.look (setL objs key ob) key=some ob:=fun ob=>look_set1 hg
 refine wpS_go mixed ?_
 by_cases hp:i0+q<l.length
 ·have hd3:((q:Int)<((l.length-i0:Nat):Int)):=by omega
  have eq1:IntKind.i64.wrap ((q:Int)-1)= ((q-1:Nat):Int):=by rw [wrap_i64 (by omega)]; omega
  simp only [ZA,ZB,ZC,ZD,ZE,↓reduceIte,reduceIte,ZF,ZG,ZH,ZI,ZJ,reduceCtorEq,ZK,↓zU,↓zD,zV,zT,zW,hd3,hlk,eq1,rl_len,rl_get o (show i0+q<o.length by omega),rl_get o (show i0+(q-1)<o.length by omega)]
  (repeat refine sd ?_)
  refine .go (CallT.of_runs (key58 (o.getD (i0+q) []) (o.getD (i0+(q-1)) [])) (by simp [D.isPureL,D.isPure])) ?_
  have a1:o.getD (i0+q) []=l.getD (i0+q) []:=q6 _ (by omega)
  have a2:o.getD (i0+(q-1)) []=l.getD (i0+q-1) []:=by rw [q6 _ (by omega)]; congr 1; omega
  rw [a1,a2]
  by_cases hq2:l.getD (i0+q) []=l.getD (i0+q-1) []
  ·have dd:ddTo l (i0+(q+1))= ddTo l (i0+q):=by
    show ddTo l ((i0+q)+ 1)= _
    rw [ddTo,if_pos ⟨by omega,hq2⟩]
   simp only [ZA,ZB,ZC,ZD,ZE,↓reduceIte,reduceIte,ZF,ZG,ZH,ZI,ZJ,reduceCtorEq,ZK,↓zU,↓zD,zV,zT,zW,decide_eq_true hq2]
   refine⟨(q+1,o),⟨by show 1<=q+1; omega,by show i0+(q+1)<=l.length; omega,q3,by show (ddTo l (i0+(q+1))).length<i0+(q+1); rw [dd]; omega,by show o.take (ddTo l (i0+(q+1))).length=ddTo l (i0+(q+1)); rw [dd,q5],fun j hj=>q6 j (by change i0+(q+1)-1<=j at hj; omega)⟩,?_,by show l.length-(q+1)<l.length-q; omega⟩
   (refine Weak.same ?_; simp only [sameF,Fr.get,↓reduceIte,reduceIte,Nat.reduceEqDiff,reduceCtorEq,D.int.injEq,D.bool.injEq,D.sl.injEq,and_true,true_and,and_self,dd])
   exact wrap_i64 (by omega)
  ·have dd:ddTo l (i0+(q+1))= ddTo l (i0+q)++ [l.getD (i0+q) []]:=by
    show ddTo l ((i0+q)+ 1)= _
    rw [ddTo,if_neg (fun c=>hq2 c.2)]
   have dl:(ddTo l (i0+(q+1))).length=(ddTo l (i0+q)).length+1:=by rw [dd,List.length_append]; rfl
   simp only [ZA,ZB,ZC,ZD,ZE,↓reduceIte,reduceIte,ZF,ZG,ZH,ZI,ZJ,reduceCtorEq,ZK,↓zU,↓zD,zV,zT,zW,decide_eq_false hq2,hlk,rl_len,rl_get o (show i0+q<o.length by omega),a1]
   (repeat refine sd ?_)
   have c1:(ddTo l (i0+q)).length<o.length:=by omega
   have eset:(rl o).set (ddTo l (i0+q)).length (((rl o).getD (ddTo l (i0+q)).length []).set 0 (D.sl 1 (rows .i64 (l.getD (i0+q) []))))= rl (o.set (ddTo l (i0+q)).length (l.getD (i0+q) [])):=by
    rw [rl_get o c1]
    exact rl_set _ _ _
   refine⟨(q+1,o.set (ddTo l (i0+q)).length (l.getD (i0+q) [])),⟨by show 1<=q+1; omega,by show i0+(q+1)<=l.length; omega,by show (o.set _ _).length=_; rw [List.length_set]; exact q3,by show (ddTo l (i0+(q+1))).length<i0+(q+1); omega,?_,fun j hj=>?_⟩,?_,by show l.length-(q+1)<l.length-q; omega⟩
   ·show (o.set (ddTo l (i0+q)).length (l.getD (i0+q) [])).take (ddTo l (i0+(q+1))).length=_
    rw [dl,take_snoc (d:=[]) (by rw [List.length_set]; exact c1),getD_setL,if_pos ⟨rfl,c1⟩,dd,List.take_set_of_le (Nat.le_refl _),q5]
   ·change i0+(q+1)-1<=j at hj
    show (o.set (ddTo l (i0+q)).length (l.getD (i0+q) [])).getD j []=_
    rw [getD_setL,if_neg (by omega)]
    exact q6 j (by omega)
   ·simp only [setL_setL,eset]
    (refine Weak.same ?_; simp only [sameF,Fr.get,↓reduceIte,reduceIte,Nat.reduceEqDiff,reduceCtorEq,D.int.injEq,D.bool.injEq,D.sl.injEq,and_true,true_and,and_self,dl])
    exact⟨wrap_i64 (by omega),wrap_i64 (by omega)⟩
 ·have hd3:¬ ((q:Int)<((l.length-i0:Nat):Int)):=by omega
  have ed:ddTo l (i0+q)= dedup l:=by unfold dedup; rw [show i0+q=l.length by omega]
  have c0:0<(dedup l).length:=by
   have:=ddTo_pos l (l.length-1)
   rw [show l.length-1+1=l.length by omega] at this
   exact this
  rw [ed] at q4 q5
  simp only [ZA,ZB,ZC,ZD,ZE,↓reduceIte,reduceIte,ZF,ZG,ZH,ZI,ZJ,reduceCtorEq,ZK,↓zU,↓zD,zV,zT,zW,hd3,ed]
  refine⟨(dedup l).length,l.length,rfl,rfl,by omega,by omega,by omega,?_⟩
  rw [if_neg (show ¬ ((dedup l).length:Int)= 0 by omega),if_neg (show ¬ ((dedup l).length:Int)= (l.length:Int) by omega)]
  simp only [Int.toNat_natCast,hlk,rl_len,true_and]
  refine⟨by omega,by omega,?_⟩
  refine⟨0,(dedup l).length,rfl,rfl,by omega,by omega,by omega,?_⟩
  rw [if_pos rfl]
  refine .inl ⟨by rw [Int.toNat_natCast],?_⟩
  have e2:(rl o).take (dedup l).length=rl (dedup l):=by rw [rl_take,q5]
  have e3:(rl o).drop ((dedup l).length+(l.length-(dedup l).length))= []:=List.drop_eq_nil_of_le (by rw [rl_len]; omega)
  have e4:ddE l=(rl o).take (dedup l).length++(List.replicate (l.length-(dedup l).length) [D.nils]++(rl o).drop ((dedup l).length+(l.length-(dedup l).length))):=by
   rw [e2,e3,List.append_nil]; rfl
  rw [e4]
  simp only [setL_setL]
end Go.Pd
